/- The walks of Go's slices functions at causeway/api.Result, whatever the function handed in. PRINTED by wip/mkfun.py. No conditions. -/
import Derived.Test.YtelephoalpphkaaAud0
import Derived.Shelf.Abstract
import Derived.Lib.SliceRun
set_option maxRecDepth 8000
namespace Go.Proofs.Ytelephoalpphkaa
open Go.ChangeShapes Go.WideShapes Go.ChangeAt Go.RowKit
set_option linter.unusedVariables false
set_option linter.unusedSimpArgs false
namespace Ar
abbrev Ent := Au.Rs
abbrev entCells := Au.rsCells
def ent0 : Ent := Au.rs0
theorem entCells_length (e : Ent) : (entCells e).length = 22 := rfl
theorem ent_one (e : Ent) : ∀ y ∈ entCells e, y.oneCell' = true := by simp [Au.rsCells, Vec.entCells, Value.oneCell']
structure EntAt (w : World) (b o : Nat) (e : Ent) : Prop where
  c : ∀ j u, (entCells e)[j]? = some u → w.cell? ⟨b, o + j, none⟩ = some u
theorem ent_elem {w : World} {B : Nat} {A : Option Addr} {l : List Ent} (h : Mem.Rd w B A (l.flatMap entCells)) {k : Nat} (hk : k < l.length) :
    ∃ b o e, A = some ⟨b, o, none⟩ ∧ b < B ∧ l[k]? = some e ∧ EntAt w b (o + k * 22) e := by
  obtain ⟨b, o, e, hb, hc⟩ := Mem.Rd.elem entCells_length h hk (by omega)
  exact ⟨b, o, l[k], e, hb, List.getElem?_eq_getElem hk, ⟨fun j u hu => by rw [Nat.add_assoc]; exact hc j u hu⟩⟩
theorem EntAt.below {w w' : World} {B b o : Nat} {e : Ent} (h : EntAt w b o e) (hb : Below B w w') (hB : b < B) : EntAt w' b o e := ⟨fun j u hu => (hb.cell (p := ⟨b, o + j, none⟩) hB).trans (h.c j u hu)⟩
abbrev EBx (w : World) (g : Nat) (e : Ent) : Prop := Mem.Bx w 48 22 g (entCells e)
theorem ents_one (es : List Ent) : ∀ u ∈ es.flatMap entCells, u.oneCell' = true := fun u hu => by
  obtain ⟨e, _, he⟩ := List.mem_flatMap.1 hu
  exact ent_one e u he
theorem ents_len (es : List Ent) : (es.flatMap entCells).length = es.length * 22 := Mem.flat_length entCells_length es
theorem zero : (Try.prog.info? 48).map (fun i => (i.zero, i.size)) = some (some (.agg (entCells ent0).toArray), 22) := by kernel_rfl
abbrev EOwn (w : World) (A : Option Addr) (c : Nat) (es : List Ent) : Prop := Mem.Own w 48 22 A es.length c (es.flatMap entCells)
end Ar
namespace Ar
/-- what is asked of a function of a write, in any world in which what lay outside of S is as it was -/
def Tells (G : Nat) (lb : Array Value) (p : Ent → Bool) (S : Nat → Prop) (w : World) : Prop :=
  ∀ (W : World) (e : Ent), Mem.Keeps S w W → Calls Try.prog G (#[.agg (entCells e).toArray] ++ lb) W fun x w' => x = .returned (.bool (p e)) ∧ Below W.heap.size W w'
def idx (p : Ent → Bool) (es : List Ent) : Int := match es.findIdx? p with | some k => k | none => -1
structure IdxRel (w : World) (es : List Ent) (p : Ent → Bool) (vi : Value) (wr : World) : Prop where
  out : ∃ k : Nat, k ≤ es.length ∧ vi = .int .i64 k ∧ Hid (∀ e ∈ es.take k, p e = false) ∧ Hid (Below w.heap.size w wr)
theorem idx_hit {p : Ent → Bool} {es : List Ent} {k : Nat} {e : Ent} (he : es[k]? = some e) (h0 : ∀ e ∈ es.take k, p e = false) (hp : p e = true) : es.findIdx? p = some k := by
  rw [List.findIdx?_eq_some_iff_getElem]
  obtain ⟨hk, rfl⟩ := List.getElem?_eq_some_iff.1 he
  refine ⟨hk, hp, fun j hj => ?_⟩
  have := h0 es[j] (by rw [List.mem_take_iff_getElem]; exact ⟨j, by omega, rfl⟩)
  simp [this]
theorem idx_miss {p : Ent → Bool} {es : List Ent} (h0 : ∀ e ∈ es, p e = false) : es.findIdx? p = none := by
  rw [List.findIdx?_eq_none_iff]
  intro x hx
  simp [h0 x hx]
end Ar
open Ar in
set_option maxHeartbeats 4000000 in
theorem Ar.index_any (G : Nat) (lb : Array Value) (p : Ar.Ent → Bool) (eg : ∀ args w, (callFunc G args).run Try.prog w = .ok (.enter G args) w) (A : Option Addr) (c : Nat) (es : List Ar.Ent) (B : Nat) (w : World) (hp : Ar.Tells G lb p (fun _ => False) w) (hr : Mem.Rd w B A (es.flatMap Ar.entCells)) (hB : B ≤ w.heap.size) (hn : es.length ≤ maxLen) :
    Calls Try.prog 69 #[.slice A es.length c, .func (.func G) #[] lb] w fun x w' => x = .returned (.int .i64 (Ar.idx p es)) ∧ Below w.heap.size w w' := by
  unfold maxLen at hn
  have hm := Lib.hid (hr.more hB)
  have HP := Lib.hid hp
  clear hr hp
  go_enter Try.func69, Try.ntmps69
  go_wp2
  go_loopw [8] (IdxRel w es p) (fun t _ => es.length - (intOf t).toNat)
  case atStart => exact ⟨⟨0, by omega, rfl, fun e he => by simp at he, Below.refl _ _⟩⟩
  case round =>
    obtain ⟨k, hk, rfl, H0, HB⟩ := hrel.out
    by_cases hlt : k < es.length
    · obtain ⟨b, o, e, rfl, hb, he, hat⟩ := ent_elem hm.out hlt
      have HAT := Lib.hid (hat.below HB.out hb)
      have HE := Lib.hid he
      have hcall := Lib.hid (HP.out wr e ((Mem.Keeps.refl (fun _ => False) w).trans (Mem.Keeps.of_below HB.out) (fun _ h _ => h)))
      clear hat he
      cases hq : p e with
      | true =>
        rw [hq] at hcall
        have HQ := Lib.hid hq
        clear hq
        go_wp2_with (first | ((with_reducible refine Mem.load_agg _ _ result_agg b (o + k * 22) (entCells e) ?hx (entCells_length e) HAT.out.c ?_); case hx => exact rfl) | (go_at_fn G; refine hcall.out.mono ?_; rintro x w' ⟨rfl, hbw⟩; have HB' := Lib.hid (HB.out.trans (hbw.mono HB.out.size)); clear hbw))
        go_ret
        exact ⟨by unfold idx; rw [idx_hit HE.out H0.out HQ.out]; rfl, HB'.out⟩
      | false =>
        rw [hq] at hcall
        have HQ := Lib.hid hq
        clear hq
        go_wp2_with (first | ((with_reducible refine Mem.load_agg _ _ result_agg b (o + k * 22) (entCells e) ?hy (entCells_length e) HAT.out.c ?_); case hy => exact rfl) | (go_at_fn G; refine hcall.out.mono ?_; rintro x w' ⟨rfl, hbw⟩; have HB' := Lib.hid (HB.out.trans (hbw.mono HB.out.size)); clear hbw))
        go_roundw
        case rel =>
          refine ⟨⟨k + 1, by omega, by go_num, fun x hx => ?_, HB'⟩⟩
          rw [Mem.take_snoc HE.out, List.mem_append, List.mem_singleton] at hx
          rcases hx with hx | rfl
          · exact H0.out x hx
          · exact HQ.out
        case measure => simp [intOf]; omega
    · obtain rfl : k = es.length := by omega
      rw [List.take_length] at H0
      go_wp2
      go_ret
      exact ⟨by unfold idx; rw [idx_miss H0.out]; rfl, HB.out⟩
open Ar in
set_option maxHeartbeats 4000000 in
theorem Ar.contains_any (G : Nat) (lb : Array Value) (p : Ar.Ent → Bool) (eg : ∀ args w, (callFunc G args).run Try.prog w = .ok (.enter G args) w) (A : Option Addr) (c : Nat) (es : List Ar.Ent) (B : Nat) (w : World) (hp : Ar.Tells G lb p (fun _ => False) w) (hr : Mem.Rd w B A (es.flatMap Ar.entCells)) (hB : B ≤ w.heap.size) (hn : es.length ≤ maxLen) :
    Calls Try.prog 52 #[.slice A es.length c, .func (.func G) #[] lb] w fun x w' => x = .returned (.bool (es.any p)) ∧ Below w.heap.size w w' := by
  have hi := Lib.hid (Ar.index_any G lb p eg A c es B w hp hr hB hn)
  have hd : decide (0 ≤ idx p es) = es.any p := by
    unfold idx
    cases h : es.findIdx? p with
    | none =>
      rw [List.findIdx?_eq_none_iff] at h
      rw [List.any_eq_false.2 (fun x hx => by simpa using h x hx)]
      rfl
    | some k =>
      obtain ⟨hk, h1, _⟩ := List.findIdx?_eq_some_iff_getElem.1 h
      rw [List.any_eq_true.2 ⟨_, List.getElem_mem hk, h1⟩]
      simp
  obtain ⟨q, hq⟩ : ∃ q, idx p es = q := ⟨_, rfl⟩
  rw [hq] at hi hd
  rw [← hd]
  clear hp hr hB hn hq hd
  go_enter Try.func52, Try.ntmps52
  go_wp2_with (go_at_call 69; refine hi.out.mono ?_; rintro x w' ⟨rfl, hbw⟩)
  go_ret
  exact ⟨rfl, hbw⟩
open Ar in
set_option maxHeartbeats 4000000 in
theorem Ar.clone_any (A : Option Addr) (c : Nat) (es : List Ar.Ent) (w : World) (hO : Ar.EOwn w A c es) (hn : es.length ≤ 703687441776) :
    Calls Try.prog 74 #[.slice A es.length c] w fun x w' => ∃ A' c', x = .returned (.slice A' es.length c') ∧ Ar.EOwn w' A' c' es ∧ Mem.From w.heap.size A' ∧ Below w.heap.size w w' := by
  have hol := ents_len es
  have hoo := ents_one es
  have hnil := fun W (a : Option Addr) n c => Lib.run_eql_slice_nil (P := Try.prog) W 44 48 a n c 0 0 Try.underlying44
  rcases hO.2 with ⟨rfl, h0, rfl⟩ | ⟨g, o, cur, rfl, _⟩
  · obtain rfl : es = [] := List.eq_nil_of_length_eq_zero h0
    go_enter Try.func74, Try.ntmps74
    go_wp2
    go_ret
    exact ⟨none, 0, rfl, Mem.Own.nil _ _ _, Mem.From.none_ _, Below.refl _ _⟩
  · have HO := Lib.hid hO
    clear hO
    go_enter Try.func74, Try.ntmps74
    go_wp2_with (at_builtin; refine Mem.wpList_clone _ rfl (.tmp 5) (.tmp 6) _ rfl results_elem _ rfl w w.heap.size (some ⟨g, o, none⟩) es.length c (es.flatMap entCells) rfl ?_ rfl (Below.refl _ _) (Nat.le_refl _) HO.out.rd hol hoo (by unfold maxLen; omega) (by omega); intro A1 c1 w3 hown hb3 hs3 hf3)
    go_ret
    exact ⟨A1, c1, rfl, hown, hf3, hb3⟩
namespace Ar
def keptL (p : Ent → Bool) (es : List Ent) : List Ent := es.filter fun e => !p e
theorem keptL_snoc (p : Ent → Bool) (es : List Ent) (e : Ent) : keptL p (es ++ [e]) = keptL p es ++ (if p e = true then [] else [e]) := by
  unfold keptL
  rw [List.filter_append]
  congr 1
  cases h : p e <;> simp [List.filter_cons, h]
theorem keptL_le (p : Ent → Bool) (es : List Ent) : (keptL p es).length ≤ es.length := List.length_filter_le _ _
theorem keptL_same {p : Ent → Bool} {es : List Ent} (h : ∀ e ∈ es, p e = false) : keptL p es = es := by
  unfold keptL
  rw [List.filter_eq_self]
  intro e he
  simp [h e he]
structure DfRel (w : World) (g o c : Nat) (es : List Ent) (p : Ent → Bool) (v5 v6 : Value) (wr : World) : Prop where
  out : ∃ j i : Nat, j ≤ es.length ∧ i < j ∧ i = (keptL p (es.take j)).length ∧ v5 = .int .i64 i ∧ v6 = .int .i64 j ∧ Hid (Mem.Own wr 48 22 (some ⟨g, o, none⟩) es.length c ((keptL p (es.take j) ++ es.drop i).flatMap entCells)) ∧ Hid (Mem.Keeps (fun k => k = g) w wr)
end Ar
open Ar in
set_option maxHeartbeats 4000000 in
theorem Ar.deleteFunc_any (G : Nat) (lb : Array Value) (p : Ar.Ent → Bool) (eg : ∀ args w, (callFunc G args).run Try.prog w = .ok (.enter G args) w) (A : Option Addr) (c : Nat) (es : List Ar.Ent) (w : World) (hp : Ar.Tells G lb p (fun k => Mem.blk A = some k) w) (hO : Ar.EOwn w A c es) (hn : es.length ≤ 703687441776) :
    Calls Try.prog 73 #[.slice A es.length c, .func (.func G) #[] lb] w fun x w' => x = .returned (.slice A (Ar.keptL p es).length c) ∧ Ar.EOwn w' A c (Ar.keptL p es) ∧ Mem.Keeps (fun k => Mem.blk A = some k) w w' := by
  have hcm := hO.cap
  have hc := hO.le
  unfold maxLen at hcm
  have hi := Lib.hid (Ar.index_any G lb p eg A c es w.heap.size w (fun W e hk => hp W e (hk.mono (fun _ h _ => h.elim))) hO.rd (Nat.le_refl _) (by unfold maxLen; omega))
  have HO := Lib.hid hO
  have HP := Lib.hid hp
  clear hO hp
  go_enter Try.func73, Try.ntmps73
  cases hx : es.findIdx? p with
  | none =>
    have hq : idx p es = -1 := by unfold idx; rw [hx]
    rw [hq] at hi
    have hks : keptL p es = es := by
      rw [List.findIdx?_eq_none_iff] at hx
      exact keptL_same fun e he => by simpa using hx e he
    clear hx hq
    go_wp2_with (go_at_call 69; refine hi.out.mono ?_; rintro x w' ⟨rfl, hbw⟩)
    go_ret
    rw [hks]
    exact ⟨rfl, HO.out.keeps (Mem.Keeps.of_below hbw) (fun _ _ h => h), (Mem.Keeps.of_below hbw).mono (fun _ h _ => h.elim)⟩
  | some k =>
    have hq : idx p es = (k : Int) := by unfold idx; rw [hx]
    rw [hq] at hi
    obtain ⟨hk, h1, h2⟩ := List.findIdx?_eq_some_iff_getElem.1 hx
    have hk1 : keptL p (es.take k) = es.take k := keptL_same fun e he => by
      obtain ⟨j, hj, rfl⟩ := List.mem_take_iff_getElem.1 he
      have := h2 j (by omega)
      simpa using this
    have hk2 : keptL p (es.take (k + 1)) = es.take k := by
      rw [List.take_succ_eq_append_getElem hk, keptL_snoc, hk1, if_pos h1, List.append_nil]
    have HK2 := Lib.hid hk2
    clear hx hq h1 h2 hk1 hk2
    have hne : ((k : Int) == -1) = false := by simp
    obtain ⟨g, o, rfl⟩ := HO.out.form (by omega)
    go_wp2_with (go_at_call 69; refine hi.out.mono ?_; rintro x w' ⟨rfl, hbw⟩; have HB := Lib.hid hbw; clear hbw)
    have HK0 : Hid (Mem.Keeps (fun k => k = g) w w') := (Mem.Keeps.of_below HB.out).mono (fun _ h _ => h.elim)
    have HO1 : Hid (Mem.Own w' 48 22 (some ⟨g, o, none⟩) es.length c (es.flatMap entCells)) := HO.out.keeps (Mem.Keeps.of_below HB.out) (fun _ _ h => h)
    clear hi HO HB
    go_loopw [5, 6] (DfRel w g o c es p) (fun _ t _ => es.length - (intOf t).toNat)
    case atStart =>
      refine ⟨⟨k + 1, k, by omega, by omega, ?_, rfl, by go_num, ?_, HK0⟩⟩
      · rw [HK2.out, List.length_take]; omega
      · show Mem.Own _ _ _ _ _ _ _
        rw [HK2.out, List.take_append_drop]
        exact HO1.out
    case round =>
      clear HO1 HK0 HK2 hne hk
      obtain ⟨j, i, hj, hij, hil, rfl, rfl, HO, HK⟩ := hrel.out
      by_cases hlt : j < es.length
      · obtain ⟨e, he⟩ : ∃ e, es[j]? = some e := ⟨_, List.getElem?_eq_getElem hlt⟩
        have hll : (keptL p (es.take j) ++ es.drop i).length = es.length := by rw [List.length_append, ← hil, List.length_drop]; omega
        have hej : (keptL p (es.take j) ++ es.drop i)[j]? = some e := by
          rw [List.getElem?_append_right (by omega), ← hil, List.getElem?_drop, ← he]
          congr 1; omega
        obtain ⟨b, o2, e2, hb1, hbl, he2, HAT⟩ := ent_elem HO.out.rd (l := keptL p (es.take j) ++ es.drop i) (k := j) (by omega)
        rw [hej] at he2
        obtain rfl : e = e2 := Option.some.inj he2
        obtain ⟨rfl, rfl⟩ : g = b ∧ o = o2 := by injection hb1 with h; injection h with h1 h2; exact ⟨h1, h2⟩
        have HAT := Lib.hid HAT
        have HTK := Lib.hid (show keptL p (es.take (j + 1)) = keptL p (es.take j) ++ (if p e = true then [] else [e]) by rw [Mem.take_snoc he, keptL_snoc])
        clear hb1 he2 he hej
        have HIL := Lib.hid hil
        clear hil
        go_upto_region 8 with (first | ((with_reducible refine Mem.load_agg _ _ result_agg g (o + j * 22) (entCells e) ?hx (entCells_length e) HAT.out.c ?_); case hx => exact rfl) | ((with_reducible refine Mem.store_agg _ _ result_agg wr.heap.size (entCells ent0) (entCells e) ?hxa ?hya ?hba (entCells_length e) (ent_one e) ?_); ((case hxa => exact rfl); (case hya => exact rfl); (case hba => exact Mem.Bx.new wr _ (entCells ent0).toArray rfl rfl); intro w2 hb2 hk2 hs2)))
        have HE2 : Hid (EBx w2 wr.heap.size e) := hb2
        have HK02 : Hid (Mem.Keeps (fun _ => False) wr w2) := hk2.newBox rfl
        have HB2 : Hid (Below wr.heap.size wr w2) := HK02.out.belowAll
        have HO2 := Lib.hid (HO.out.keeps HK02.out (fun _ _ h => h))
        have HK2 : Hid (Mem.Keeps (fun k => k = g) w w2) := HK.out.trans HK02.out (fun _ h _ => h.elim)
        have hcall := Lib.hid (HP.out w2 e (HK2.out.mono (fun k h _ => by subst h; rfl)))
        clear hb2 hk2 hs2 HK HO HAT HK02
        have hkl : (keptL p (es.take (j + 1))).length = i + (if p e = true then 0 else 1) := by
          rw [HTK.out, List.length_append, ← HIL.out]; split <;> rfl
        cases hq : p e with
        | true =>
          rw [hq] at hcall
          rw [hq, if_pos rfl] at hkl
          have HT2 : Hid (keptL p (es.take (j + 1)) = keptL p (es.take j)) := by show _ = _; rw [HTK.out, if_pos hq, List.append_nil]
          clear hq
          go_wp2_with (first | ((with_reducible refine Mem.load_agg _ _ result_agg wr.heap.size 0 (entCells e) ?hya (entCells_length e) (fun j u hu => by rw [Nat.zero_add]; exact HE2.out.cell hu) ?_); case hya => exact rfl) | (go_at_fn G; refine hcall.out.mono ?_; rintro x w3 ⟨rfl, hbw⟩; have HB3 := Lib.hid hbw; clear hbw))
          go_roundw
          case rel =>
            refine ⟨⟨j + 1, i, by omega, by omega, by omega, rfl, by go_num, ?_, ?_⟩⟩
            · show Mem.Own _ _ _ _ _ _ _
              rw [HT2.out]
              exact HO2.out.keeps (Mem.Keeps.of_below HB3.out) (fun _ _ h => h)
            · exact HK2.out.trans (Mem.Keeps.of_below HB3.out) (fun _ h _ => h.elim)
          case measure => simp [intOf]; omega
        | false =>
          rw [hq] at hcall
          rw [hq, if_neg (by simp)] at hkl
          have HT2 : Hid (keptL p (es.take (j + 1)) = keptL p (es.take j) ++ [e]) := by show _ = _; rw [HTK.out, if_neg (by simp [hq])]
          clear hq
          go_wp2_with (first | ((with_reducible refine Mem.load_agg _ _ result_agg wr.heap.size 0 (entCells e) ?hyb (entCells_length e) (fun j u hu => by rw [Nat.zero_add]; exact HE2.out.cell hu) ?_); case hyb => exact rfl) | (go_at_fn G; refine hcall.out.mono ?_; rintro x w3 ⟨rfl, hbw⟩; have HB3 := Lib.hid hbw; have HE3 : Hid (EBx w3 wr.heap.size e) := HE2.out.below HB3.out HE2.out.lt; have HO3 := Lib.hid (HO2.out.keeps (Mem.Keeps.of_below HB3.out) (fun _ _ h => h)); clear hbw) | ((with_reducible refine Mem.load_agg _ _ result_agg wr.heap.size 0 (entCells e) ?hyc (entCells_length e) (fun j u hu => by rw [Nat.zero_add]; exact HE3.out.cell hu) ?_); case hyc => exact rfl) | ((with_reducible refine Mem.store_elem _ 22 result_agg 48 es.length c g o i _ (entCells e) ?hxd ?hyd HO3.out (entCells_length e) ?hid (ent_one e) ?_); ((case hxd => exact rfl); (case hyd => exact rfl); (case hid => omega); intro w4 hb4 hk4 hs4)))
          go_roundw
          case rel =>
            refine ⟨⟨j + 1, i + 1, by omega, by omega, by omega, by go_num, by go_num, ?_, ?_⟩⟩
            · show Mem.Own _ _ _ _ _ _ _
              have e1 : ((keptL p (es.take j) ++ es.drop i).flatMap entCells).take (i * 22) = (keptL p (es.take j)).flatMap entCells := by
                rw [Mem.flat_take entCells_length, List.take_left' HIL.out.symm]
              have e2 : ((keptL p (es.take j) ++ es.drop i).flatMap entCells).drop (i * 22 + (entCells e).length) = (es.drop (i + 1)).flatMap entCells := by
                rw [entCells_length, show i * 22 + 22 = (i + 1) * 22 by omega, Mem.flat_drop entCells_length, List.drop_append, ← HIL.out, List.drop_of_length_le (by rw [← HIL.out]; omega), List.nil_append, List.drop_drop]
                congr 2; omega
              rw [e1, e2] at hb4
              rw [HT2.out]
              simpa using hb4
            · exact ((HK2.out.trans (Mem.Keeps.of_below HB3.out) (fun _ h _ => h.elim)).trans hk4 (fun _ h _ => h))
          case measure => simp [intOf]; omega
      · obtain rfl : j = es.length := by omega
        rw [List.take_length] at HO hil
        have HT : Hid (Mem.Own wr 48 22 (some ⟨g, o, none⟩) i c ((keptL p es).flatMap entCells)) := by
          have := HO.out.take (k := i) (by omega)
          rwa [Mem.flat_take entCells_length, List.take_left' hil.symm] at this
        have hz1 : ∀ y ∈ (Value.agg (entCells ent0).toArray).cells.toList, y.oneCell' = true := ent_one ent0
        have HIL := Lib.hid hil
        clear hil
        go_wp2_with (refine Mem.wpList_clear rfl (.tmp 38) _ rfl Try.underlying44 Ar.zero rfl hz1 i c g o _ i _ (c - i) (some ⟨g, o + i * 22, none⟩) rfl ?_ HT.out (.inr rfl) (Nat.le_refl _) (by omega); intro w7 hown7 hk7 hs7)
        go_ret
        refine ⟨by rw [← HIL.out]; rfl, ?_, ?_⟩
        · show Mem.Own _ _ _ _ _ _ _
          rw [← HIL.out]; exact hown7
        · exact (HK.out.trans hk7 (fun _ h _ => h)).mono (fun k h _ => by subst h; rfl)
end Go.Proofs.Ytelephoalpphkaa
