/- The walks of Go's slices.IndexFunc, ContainsFunc, DeleteFunc, Delete, Clone at writes, whatever the function handed in. No conditions. -/
import Derived.Test.YtgdcfdjfoeoknaaTy
import Derived.Test.YtgdcfdjfoeoknaaOwnX
import Derived.Shelf.Abstract
import Derived.Lib.SliceRun
namespace Go.Proofs.Ytgdcfdjfoeoknaa
open Go.ChangeShapes Go.WideShapes Go.ChangeAt Go.RowKit
set_option linter.unusedVariables false
set_option linter.unusedSimpArgs false

namespace Vec
/-- what is asked of a function of a write, in any world in which what lay outside of S is as it was -/
def Tells (G : Nat) (lb : Array Value) (p : Ent → Bool) (S : Nat → Prop) (w : World) : Prop :=
  ∀ (W : World) (e : Ent), Mem.Keeps S w W → Calls Try.prog G (#[.agg (entCells e).toArray] ++ lb) W fun x w' => x = .returned (.bool (p e)) ∧ Below W.heap.size W w'
def idx (p : Ent → Bool) (es : List Ent) : Int := match es.findIdx? p with | some k => k | none => -1
structure IdxRel (w : World) (es : List Ent) (p : Ent → Bool) (vi : Value) (wr : World) : Prop where
  out : ∃ k : Nat, k ≤ es.length ∧ vi = .int .i64 k ∧ Hid (∀ e ∈ es.take k, p e = false) ∧ Hid (Below w.heap.size w wr)
theorem idx_hit {p : Ent → Bool} {es : List Ent} {k : Nat} {e : Ent} (he : es[k]? = some e) (h0 : ∀ e ∈ es.take k, p e = false) (hp : p e = true) : es.findIdx? p = some k := by
  rw [List.findIdx?_eq_some_iff_getElem]
  obtain ⟨hk, rfl⟩ := List.getElem?_eq_some_iff.1 he
  refine ⟨hk, hp, fun j hj => ?_⟩
  have := h0 es[j] (by rw [List.mem_take_iff_getElem]; exact ⟨j, by omega, rfl⟩)
  simp [this]
theorem idx_miss {p : Ent → Bool} {es : List Ent} (h0 : ∀ e ∈ es, p e = false) : es.findIdx? p = none := by
  rw [List.findIdx?_eq_none_iff]
  intro x hx
  simp [h0 x hx]
end Vec
open Vec in
set_option maxHeartbeats 4000000 in
theorem index_any (G : Nat) (lb : Array Value) (p : Vec.Ent → Bool) (eg : ∀ args w, (callFunc G args).run Try.prog w = .ok (.enter G args) w) (A : Option Addr) (c : Nat) (es : List Vec.Ent) (B : Nat) (w : World) (hp : Vec.Tells G lb p (fun _ => False) w) (hr : Mem.Rd w B A (es.flatMap Vec.entCells)) (hB : B ≤ w.heap.size) (hn : es.length ≤ maxLen) :
    Calls Try.prog 37 #[.slice A es.length c, .func (.func G) #[] lb] w fun x w' => x = .returned (.int .i64 (Vec.idx p es)) ∧ Below w.heap.size w w' := by
  unfold maxLen at hn
  have hm := Lib.hid (hr.more hB)
  have HP := Lib.hid hp
  clear hr hp
  go_enter Try.func37, Try.ntmps37
  go_wp2
  go_loopw [8] (IdxRel w es p) (fun t _ => es.length - (intOf t).toNat)
  case atStart => exact ⟨⟨0, by omega, rfl, fun e he => by simp at he, Below.refl _ _⟩⟩
  case round =>
    obtain ⟨k, hk, rfl, H0, HB⟩ := hrel.out
    by_cases hlt : k < es.length
    · obtain ⟨b, o, e, rfl, hb, he, hat⟩ := ent_elem hm.out hlt
      have HAT := Lib.hid (hat.below HB.out hb)
      have HE := Lib.hid he
      have hcall := Lib.hid (HP.out wr e ((Mem.Keeps.refl (fun _ => False) w).trans (Mem.Keeps.of_below HB.out) (fun _ h _ => h)))
      clear hat he
      cases hq : p e with
      | true =>
        rw [hq] at hcall
        have HQ := Lib.hid hq
        clear hq
        go_wp2_with (first | ((with_reducible refine Mem.load_agg _ _ entry_agg b (o + k * 20) (entCells e) ?hx (entCells_length e) HAT.out.c ?_); case hx => exact rfl) | (go_at_fn G; refine hcall.out.mono ?_; rintro x w' ⟨rfl, hbw⟩; have HB' := Lib.hid (HB.out.trans (hbw.mono HB.out.size)); clear hbw))
        go_ret
        exact ⟨by unfold idx; rw [idx_hit HE.out H0.out HQ.out]; rfl, HB'.out⟩
      | false =>
        rw [hq] at hcall
        have HQ := Lib.hid hq
        clear hq
        go_wp2_with (first | ((with_reducible refine Mem.load_agg _ _ entry_agg b (o + k * 20) (entCells e) ?hy (entCells_length e) HAT.out.c ?_); case hy => exact rfl) | (go_at_fn G; refine hcall.out.mono ?_; rintro x w' ⟨rfl, hbw⟩; have HB' := Lib.hid (HB.out.trans (hbw.mono HB.out.size)); clear hbw))
        go_roundw
        case rel =>
          refine ⟨⟨k + 1, by omega, by go_num, fun x hx => ?_, HB'⟩⟩
          rw [Mem.take_snoc HE.out, List.mem_append, List.mem_singleton] at hx
          rcases hx with hx | rfl
          · exact H0.out x hx
          · exact HQ.out
        case measure => simp [intOf]; omega
    · obtain rfl : k = es.length := by omega
      rw [List.take_length] at H0
      go_wp2
      go_ret
      exact ⟨by unfold idx; rw [idx_miss H0.out]; rfl, HB.out⟩
open Vec in
set_option maxHeartbeats 4000000 in
theorem contains_any (G : Nat) (lb : Array Value) (p : Vec.Ent → Bool) (eg : ∀ args w, (callFunc G args).run Try.prog w = .ok (.enter G args) w) (A : Option Addr) (c : Nat) (es : List Vec.Ent) (B : Nat) (w : World) (hp : Vec.Tells G lb p (fun _ => False) w) (hr : Mem.Rd w B A (es.flatMap Vec.entCells)) (hB : B ≤ w.heap.size) (hn : es.length ≤ maxLen) :
    Calls Try.prog 24 #[.slice A es.length c, .func (.func G) #[] lb] w fun x w' => x = .returned (.bool (es.any p)) ∧ Below w.heap.size w w' := by
  have hi := Lib.hid (index_any G lb p eg A c es B w hp hr hB hn)
  have hd : decide (0 ≤ idx p es) = es.any p := by
    unfold idx
    cases h : es.findIdx? p with
    | none =>
      rw [List.findIdx?_eq_none_iff] at h
      rw [List.any_eq_false.2 (fun x hx => by simpa using h x hx)]
      rfl
    | some k =>
      obtain ⟨hk, h1, _⟩ := List.findIdx?_eq_some_iff_getElem.1 h
      rw [List.any_eq_true.2 ⟨_, List.getElem_mem hk, h1⟩]
      simp
  obtain ⟨q, hq⟩ : ∃ q, idx p es = q := ⟨_, rfl⟩
  rw [hq] at hi hd
  rw [← hd]
  clear hp hr hB hn hq hd
  go_enter Try.func24, Try.ntmps24
  go_wp2_with (go_at_call 37; refine hi.out.mono ?_; rintro x w' ⟨rfl, hbw⟩)
  go_ret
  exact ⟨rfl, hbw⟩
namespace Vec
/-- slices of writes in memory of their own -/
abbrev EOwn (w : World) (A : Option Addr) (c : Nat) (es : List Ent) : Prop := Mem.Own w 33 20 A es.length c (es.flatMap entCells)
end Vec
open Vec in
set_option maxHeartbeats 4000000 in
theorem clone_any (A : Option Addr) (c : Nat) (es : List Vec.Ent) (w : World) (hO : Vec.EOwn w A c es) (hn : es.length ≤ 300) :
    Calls Try.prog 30 #[.slice A es.length c] w fun x w' => ∃ A' c', x = .returned (.slice A' es.length c') ∧ Vec.EOwn w' A' c' es ∧ Mem.From w.heap.size A' ∧ Below w.heap.size w w' := by
  have hol := ents_len es
  have hoo := ents_one es
  have hnil := fun W (a : Option Addr) n c => Lib.run_eql_slice_nil (P := Try.prog) W 24 33 a n c 0 0 Try.underlying24
  rcases hO.2 with ⟨rfl, h0, rfl⟩ | ⟨g, o, cur, rfl, _⟩
  · obtain rfl : es = [] := List.eq_nil_of_length_eq_zero h0
    go_enter Try.func30, Try.ntmps30
    go_wp2
    go_ret
    exact ⟨none, 0, rfl, Mem.Own.nil _ _ _, Mem.From.none_ _, Below.refl _ _⟩
  · have HO := Lib.hid hO
    clear hO
    go_enter Try.func30, Try.ntmps30
    go_wp2_with (at_builtin; refine Mem.wpList_clone _ rfl (.tmp 5) (.tmp 6) _ rfl entries_elem _ rfl w w.heap.size (some ⟨g, o, none⟩) es.length c (es.flatMap entCells) rfl ?_ rfl (Below.refl _ _) (Nat.le_refl _) HO.out.rd hol hoo (by unfold maxLen; omega) (by omega); intro A1 c1 w3 hown hb3 hs3 hf3)
    go_ret
    exact ⟨A1, c1, rfl, hown, hf3, hb3⟩
open Vec in
set_option maxHeartbeats 4000000 in
theorem delete_any (A : Option Addr) (c : Nat) (es : List Vec.Ent) (ix : Nat) (w : World) (hO : Vec.EOwn w A c es) (hn : es.length ≤ 300) (hi : ix < es.length) :
    Calls Try.prog 27 #[.slice A es.length c, .int .i64 (ix : Int), .int .i64 ((ix : Int) + 1)] w fun x w' => x = .returned (.slice A (es.eraseIdx ix).length c) ∧ Vec.EOwn w' A c (es.eraseIdx ix) ∧ Mem.Keeps (fun k => Mem.blk A = some k) w w' := by
  obtain ⟨g, o, rfl⟩ := hO.form (by omega)
  have hc := hO.le
  have hcm := hO.cap
  have hl1 : (es.eraseIdx ix).length = es.length - 1 := List.length_eraseIdx_of_lt hi
  have hl2 : (es.take ix).length = ix := by rw [List.length_take]; omega
  have hl3 : (es.drop (ix + 1)).length = es.length - (ix + 1) := List.length_drop
  have hsum : ix + (es.length - (ix + 1)) = es.length - 1 := by omega
  have HT : Hid (Mem.Own w 33 20 (some ⟨g, o, none⟩) ix c ((es.take ix).flatMap entCells)) := by
    have := hO.take (k := ix) (by omega)
    rwa [Mem.flat_take entCells_length] at this
  have HD : Hid (∀ q, q = c → Mem.Rd w w.heap.size (if q = ix + 1 then some ⟨g, o, none⟩ else some ⟨g, o + (ix + 1) * 20, none⟩) ((es.drop (ix + 1)).flatMap entCells)) := fun q hq => by
    subst hq
    split
    · rename_i h
      have : es.drop (ix + 1) = [] := List.eq_nil_of_length_eq_zero (by omega)
      rw [this]; exact .inl rfl
    · have := (hO.drop (k := ix + 1) (by omega)).rd
      rwa [Mem.flat_drop entCells_length] at this
  have hol := ents_len (es.drop (ix + 1))
  rw [hl3] at hol
  have hoo := ents_one (es.drop (ix + 1))
  have HE : Hid ((es.take ix).flatMap entCells ++ (es.drop (ix + 1)).flatMap entCells = (es.eraseIdx ix).flatMap entCells) := by
    show _ = _
    rw [List.eraseIdx_eq_take_drop_succ, List.flatMap_append]
  obtain ⟨n, hnn⟩ : ∃ n, es.length = n := ⟨_, rfl⟩
  have HO := Lib.hid hO
  have HL1 := Lib.hid hl1
  have HOL := Lib.hid hol
  have HOO := Lib.hid hoo
  rw [hnn] at HL1 HOL hsum hn hi hc ⊢
  have HN := Lib.hid hnn
  clear hO hl1 hl2 hl3 hol hoo hnn
  unfold maxLen at hcm
  have hne : ((ix : Int) == (ix : Int) + 1) = false := by simp; omega
  go_enter Try.func27, Try.ntmps27
  go_upto_region 5 with fail
  refine Reg.wp_region_w (by kernel_rfl) 33 8 rfl rfl (by kernel_rfl) (6) (fun y => y = g) (0) (fun _ => False) (0) (fun _ => False)
    (fun i v u => match i with
      | 0 => v = .slice (some ⟨g, o, none⟩) n c
      | 1 => v = .int .i64 (ix : Int)
      | 2 => v = .slice (some ⟨g, o, none⟩) ix c
      | 3 => v = .slice (some ⟨g, o, none⟩) n c
      | 4 => v = .int .i64 ((ix : Int) + 1)
      | 5 => v = .slice (if c = ix + 1 then some ⟨g, o, none⟩ else some ⟨g, o + (ix + 1) * 20, none⟩) (n - (ix + 1)) (c - (ix + 1))
      | 6 => v = .slice (some ⟨g, o, none⟩) (n - 1) c ∧ Mem.Own u 33 20 (some ⟨g, o, none⟩) (n - 1) c ((es.eraseIdx ix).flatMap entCells)
      | 7 => v = .slice (some ⟨g, o, none⟩) (n - 1) c
      | _ => True) ?_ ?_
  · refine Reg.Steps.cons ?_ (Reg.Steps.cons ?_ (Reg.Steps.cons ?_ (Reg.Steps.cons ?_ (Reg.Steps.cons ?_ (Reg.Steps.cons ?_ (Reg.Steps.cons ?_ (Reg.Steps.cons ?_ (Reg.Steps.nil _))))))))
    · intro val ac u hR hp ha K hK      -- 0: t20 := Op.move t0
      have e0 : (ac.tmps[0]?).getD undef = .slice (some ⟨g, o, none⟩) n c := ha 0 (by decide)
      clear ha hp
      refine Reg.Op1.plain rfl ?_
      go_wp2
      exact ⟨rfl, hK _ _ rfl (Reg.Wr.same _)⟩
    · intro val ac u hR hp ha K hK      -- 1: t21 := Op.move t1
      have e1 : (ac.tmps[1]?).getD undef = .int .i64 (ix : Int) := ha 1 (by decide)
      clear ha hp
      refine Reg.Op1.plain rfl ?_
      go_wp2
      exact ⟨rfl, hK _ _ rfl (Reg.Wr.same _)⟩
    · intro val ac u hR hp ha K hK      -- 2: t22 := Op.slice 24 t20 none (some t21) none
      obtain ⟨w20, h20, r20⟩ := hp 0 (by decide)
      have e20 : (ac.tmps[20]?).getD undef = .slice (some ⟨g, o, none⟩) n c := (ha 20 (by decide)).trans h20
      clear h20
      obtain ⟨w21, h21, r21⟩ := hp 1 (by decide)
      have e21 : (ac.tmps[21]?).getD undef = .int .i64 (ix : Int) := (ha 21 (by decide)).trans h21
      clear h21
      clear ha hp
      refine Reg.Op1.plain rfl ?_
      go_wp2
      exact ⟨rfl, hK _ _ rfl (Reg.Wr.same _)⟩
    · intro val ac u hR hp ha K hK      -- 3: t23 := Op.move t0
      have e0 : (ac.tmps[0]?).getD undef = .slice (some ⟨g, o, none⟩) n c := ha 0 (by decide)
      clear ha hp
      refine Reg.Op1.plain rfl ?_
      go_wp2
      exact ⟨rfl, hK _ _ rfl (Reg.Wr.same _)⟩
    · intro val ac u hR hp ha K hK      -- 4: t24 := Op.move t2
      have e2 : (ac.tmps[2]?).getD undef = .int .i64 ((ix : Int) + 1) := ha 2 (by decide)
      clear ha hp
      refine Reg.Op1.plain rfl ?_
      go_wp2
      exact ⟨rfl, hK _ _ rfl (Reg.Wr.same _)⟩
    · intro val ac u hR hp ha K hK      -- 5: t25 := Op.slice 24 t23 (some t24) none none
      obtain ⟨w23, h23, r23⟩ := hp 3 (by decide)
      have e23 : (ac.tmps[23]?).getD undef = .slice (some ⟨g, o, none⟩) n c := (ha 23 (by decide)).trans h23
      clear h23
      obtain ⟨w24, h24, r24⟩ := hp 4 (by decide)
      have e24 : (ac.tmps[24]?).getD undef = .int .i64 ((ix : Int) + 1) := (ha 24 (by decide)).trans h24
      clear h24
      clear ha hp
      refine Reg.Op1.plain rfl ?_
      by_cases hcc : c = ix + 1
      · go_wp2
        exact ⟨rfl, hK _ _ (by simp [hcc]) (Reg.Wr.same _)⟩
      · go_wp2
        exact ⟨rfl, hK _ _ (by simp [hcc]) (Reg.Wr.same _)⟩
    · intro val ac u hR hp ha K hK      -- 6: t26 := Op.call { builtin append, args := #[t22, t25], argTypes := #[24, 24] }
      obtain ⟨w22, h22, r22⟩ := hp 2 (by decide)
      have e22 : (ac.tmps[22]?).getD undef = .slice (some ⟨g, o, none⟩) ix c := (ha 22 (by decide)).trans h22
      clear h22
      obtain ⟨w25, h25, r25⟩ := hp 5 (by decide)
      have e25 : (ac.tmps[25]?).getD undef = .slice (if c = ix + 1 then some ⟨g, o, none⟩ else some ⟨g, o + (ix + 1) * 20, none⟩) (n - (ix + 1)) (c - (ix + 1)) := (ha 25 (by decide)).trans h25
      clear h25
      clear ha hp
      refine Reg.Op1.plain rfl ?_
      have hq : Mem.Keeps (fun _ => False ∨ False) w u := (Mem.Keeps.refl (fun _ => False ∨ False) w).drew.trans (Reg.Wr.not1 hR (by decide +kernel)) (fun _ h _ => h)
      have hT := HT.out.keeps hq (fun _ _ h => h.elim id id)
      have hD := (HD.out c rfl).keeps hq (fun _ h => h.elim False.elim False.elim) (Nat.le_refl _)
      refine Mem.wpList_app_in rfl (.tmp 22) (.tmp 25) _ rfl entries_elem (some ⟨g, o, none⟩) ix c _ (Reg.eval_of e22) w.heap.size _ (n - (ix + 1)) (c - (ix + 1)) _ (Reg.eval_of e25) ?_ hT hD HOL.out HOO.out (by omega)
      intro w' hown hgr hsz
      rw [hsum, HE.out] at hown
      rw [hsum]
      exact ⟨rfl, hK _ _ ⟨rfl, hown⟩ (Reg.Wr.does1 ((Mem.Keeps.refl _ _).grown hgr (fun k hk _ => by cases hk; rfl)))⟩
    · intro val ac u hR hp ha K hK      -- 7: t0 := Op.assign t26
      obtain ⟨w26, h26, r26⟩ := hp 6 (by decide)
      have e26 : (ac.tmps[26]?).getD undef = val 6 := ha 26 (by decide)
      clear ha hp
      refine Reg.Op1.plain rfl ?_
      go_wp2
      exact ⟨rfl, hK _ _ rfl (Reg.Wr.same _)⟩
  · intro val u hR H
    obtain ⟨w6, ⟨hv, ho⟩, r6⟩ := H 6 (by decide)
    obtain ⟨_, hv0, _⟩ := H 7 (by decide)
    have hv0 : val 7 = .slice (some ⟨g, o, none⟩) (n - 1) c := hv0
    have hO6 := ho.keeps (Reg.Wr.not1 r6 (by decide +kernel)) (fun _ _ h => h.elim id id)
    have HK6 : Hid (Mem.Keeps (fun y => y = g) w u) := ((Mem.Keeps.refl (fun y => y = g ∨ False ∨ False) w).drew.trans (Reg.Wr.all hR) (fun _ h _ => h)).mono (fun _ h _ => h.elim id (fun h => h.elim False.elim False.elim))
    simp only [List.map_cons, List.map_nil, Reg.lay, Act.put, List.setIfInBounds_toArray, List.set_cons_succ, List.set_cons_zero, Nat.reduceAdd, hv0]
    have hnn1 : n - (n - 1) = 1 := by omega
    clear hR H hv hv0 ho r6
    have HO6 := Lib.hid hO6
    clear hO6
    have hz1 : ∀ y ∈ (Value.agg (entCells ent0).toArray).cells.toList, y.oneCell' = true := ent_one ent0
    go_wp2_with (refine Mem.wpList_clear rfl (.tmp 31) _ rfl Try.underlying24 entry_zero rfl hz1 (n - 1) c g o _ (n - 1) _ (c - (n - 1)) (some ⟨g, o + (n - 1) * 20, none⟩) rfl ?_ HO6.out (.inr rfl) (Nat.le_refl _) (by omega); intro w7 hown7 hk7 hs7)
    go_ret
    refine ⟨by rw [HL1.out]; rfl, ?_, ?_⟩
    · show Mem.Own _ _ _ _ _ _ _
      rw [HL1.out]; exact hown7
    · exact (HK6.out.trans hk7 (fun _ h _ => h)).mono (fun k h _ => by subst h; rfl)
namespace Vec
def keptL (p : Ent → Bool) (es : List Ent) : List Ent := es.filter fun e => !p e
theorem keptL_snoc (p : Ent → Bool) (es : List Ent) (e : Ent) : keptL p (es ++ [e]) = keptL p es ++ (if p e = true then [] else [e]) := by
  unfold keptL
  rw [List.filter_append]
  congr 1
  cases h : p e <;> simp [List.filter_cons, h]
theorem keptL_le (p : Ent → Bool) (es : List Ent) : (keptL p es).length ≤ es.length := List.length_filter_le _ _
theorem keptL_same {p : Ent → Bool} {es : List Ent} (h : ∀ e ∈ es, p e = false) : keptL p es = es := by
  unfold keptL
  rw [List.filter_eq_self]
  intro e he
  simp [h e he]
structure DfRel (w : World) (g o c : Nat) (es : List Ent) (p : Ent → Bool) (v5 v6 : Value) (wr : World) : Prop where
  out : ∃ j i : Nat, j ≤ es.length ∧ i < j ∧ i = (keptL p (es.take j)).length ∧ v5 = .int .i64 i ∧ v6 = .int .i64 j ∧ Hid (Mem.Own wr 33 20 (some ⟨g, o, none⟩) es.length c ((keptL p (es.take j) ++ es.drop i).flatMap entCells)) ∧ Hid (Mem.Keeps (fun k => k = g) w wr)
end Vec
open Vec in
set_option maxHeartbeats 4000000 in
theorem deleteFunc_any (G : Nat) (lb : Array Value) (p : Vec.Ent → Bool) (eg : ∀ args w, (callFunc G args).run Try.prog w = .ok (.enter G args) w) (A : Option Addr) (c : Nat) (es : List Vec.Ent) (w : World) (hp : Vec.Tells G lb p (fun k => Mem.blk A = some k) w) (hO : Vec.EOwn w A c es) (hn : es.length ≤ 300) :
    Calls Try.prog 35 #[.slice A es.length c, .func (.func G) #[] lb] w fun x w' => x = .returned (.slice A (Vec.keptL p es).length c) ∧ Vec.EOwn w' A c (Vec.keptL p es) ∧ Mem.Keeps (fun k => Mem.blk A = some k) w w' := by
  have hcm := hO.cap
  have hc := hO.le
  unfold maxLen at hcm
  have hi := Lib.hid (index_any G lb p eg A c es w.heap.size w (fun W e hk => hp W e (hk.mono (fun _ h _ => h.elim))) hO.rd (Nat.le_refl _) (by unfold maxLen; omega))
  have HO := Lib.hid hO
  have HP := Lib.hid hp
  clear hO hp
  go_enter Try.func35, Try.ntmps35
  cases hx : es.findIdx? p with
  | none =>
    have hq : idx p es = -1 := by unfold idx; rw [hx]
    rw [hq] at hi
    have hks : keptL p es = es := by
      rw [List.findIdx?_eq_none_iff] at hx
      exact keptL_same fun e he => by simpa using hx e he
    clear hx hq
    go_wp2_with (go_at_call 37; refine hi.out.mono ?_; rintro x w' ⟨rfl, hbw⟩)
    go_ret
    rw [hks]
    exact ⟨rfl, HO.out.keeps (Mem.Keeps.of_below hbw) (fun _ _ h => h), (Mem.Keeps.of_below hbw).mono (fun _ h _ => h.elim)⟩
  | some k =>
    have hq : idx p es = (k : Int) := by unfold idx; rw [hx]
    rw [hq] at hi
    obtain ⟨hk, h1, h2⟩ := List.findIdx?_eq_some_iff_getElem.1 hx
    have hk1 : keptL p (es.take k) = es.take k := keptL_same fun e he => by
      obtain ⟨j, hj, rfl⟩ := List.mem_take_iff_getElem.1 he
      have := h2 j (by omega)
      simpa using this
    have hk2 : keptL p (es.take (k + 1)) = es.take k := by
      rw [List.take_succ_eq_append_getElem hk, keptL_snoc, hk1, if_pos h1, List.append_nil]
    have HK2 := Lib.hid hk2
    clear hx hq h1 h2 hk1 hk2
    have hne : ((k : Int) == -1) = false := by simp
    obtain ⟨g, o, rfl⟩ := HO.out.form (by omega)
    go_wp2_with (go_at_call 37; refine hi.out.mono ?_; rintro x w' ⟨rfl, hbw⟩; have HB := Lib.hid hbw; clear hbw)
    have HK0 : Hid (Mem.Keeps (fun k => k = g) w w') := (Mem.Keeps.of_below HB.out).mono (fun _ h _ => h.elim)
    have HO1 : Hid (Mem.Own w' 33 20 (some ⟨g, o, none⟩) es.length c (es.flatMap entCells)) := HO.out.keeps (Mem.Keeps.of_below HB.out) (fun _ _ h => h)
    clear hi HO HB
    go_loopw [5, 6] (DfRel w g o c es p) (fun _ t _ => es.length - (intOf t).toNat)
    case atStart =>
      refine ⟨⟨k + 1, k, by omega, by omega, ?_, rfl, by go_num, ?_, HK0⟩⟩
      · rw [HK2.out, List.length_take]; omega
      · show Mem.Own _ _ _ _ _ _ _
        rw [HK2.out, List.take_append_drop]
        exact HO1.out
    case round =>
      clear HO1 HK0 HK2 hne hk
      obtain ⟨j, i, hj, hij, hil, rfl, rfl, HO, HK⟩ := hrel.out
      by_cases hlt : j < es.length
      · obtain ⟨e, he⟩ : ∃ e, es[j]? = some e := ⟨_, List.getElem?_eq_getElem hlt⟩
        have hll : (keptL p (es.take j) ++ es.drop i).length = es.length := by rw [List.length_append, ← hil, List.length_drop]; omega
        have hej : (keptL p (es.take j) ++ es.drop i)[j]? = some e := by
          rw [List.getElem?_append_right (by omega), ← hil, List.getElem?_drop, ← he]
          congr 1; omega
        obtain ⟨b, o2, e2, hb1, hbl, he2, HAT⟩ := ent_elem HO.out.rd (l := keptL p (es.take j) ++ es.drop i) (k := j) (by omega)
        rw [hej] at he2
        obtain rfl : e = e2 := Option.some.inj he2
        obtain ⟨rfl, rfl⟩ : g = b ∧ o = o2 := by injection hb1 with h; injection h with h1 h2; exact ⟨h1, h2⟩
        have HAT := Lib.hid HAT
        have HTK := Lib.hid (show keptL p (es.take (j + 1)) = keptL p (es.take j) ++ (if p e = true then [] else [e]) by rw [Mem.take_snoc he, keptL_snoc])
        clear hb1 he2 he hej
        have HIL := Lib.hid hil
        clear hil
        go_upto_region 8 with (first | ((with_reducible refine Mem.load_agg _ _ entry_agg g (o + j * 20) (entCells e) ?hx (entCells_length e) HAT.out.c ?_); case hx => exact rfl) | ((with_reducible refine Mem.store_agg _ _ entry_agg wr.heap.size (entCells ent0) (entCells e) ?hxa ?hya ?hba (entCells_length e) (ent_one e) ?_); ((case hxa => exact rfl); (case hya => exact rfl); (case hba => exact Mem.Bx.new wr _ (entCells ent0).toArray rfl rfl); intro w2 hb2 hk2 hs2)))
        have HE2 : Hid (EBx w2 wr.heap.size e) := hb2
        have HK02 : Hid (Mem.Keeps (fun _ => False) wr w2) := hk2.newBox rfl
        have HB2 : Hid (Below wr.heap.size wr w2) := HK02.out.belowAll
        have HO2 := Lib.hid (HO.out.keeps HK02.out (fun _ _ h => h))
        have HK2 : Hid (Mem.Keeps (fun k => k = g) w w2) := HK.out.trans HK02.out (fun _ h _ => h.elim)
        have hcall := Lib.hid (HP.out w2 e (HK2.out.mono (fun k h _ => by subst h; rfl)))
        clear hb2 hk2 hs2 HK HO HAT HK02
        have hkl : (keptL p (es.take (j + 1))).length = i + (if p e = true then 0 else 1) := by
          rw [HTK.out, List.length_append, ← HIL.out]; split <;> rfl
        cases hq : p e with
        | true =>
          rw [hq] at hcall
          rw [hq, if_pos rfl] at hkl
          have HT2 : Hid (keptL p (es.take (j + 1)) = keptL p (es.take j)) := by show _ = _; rw [HTK.out, if_pos hq, List.append_nil]
          clear hq
          go_wp2_with (first | ((with_reducible refine Mem.load_agg _ _ entry_agg wr.heap.size 0 (entCells e) ?hya (entCells_length e) (fun j u hu => by rw [Nat.zero_add]; exact HE2.out.cell hu) ?_); case hya => exact rfl) | (go_at_fn G; refine hcall.out.mono ?_; rintro x w3 ⟨rfl, hbw⟩; have HB3 := Lib.hid hbw; clear hbw))
          go_roundw
          case rel =>
            refine ⟨⟨j + 1, i, by omega, by omega, by omega, rfl, by go_num, ?_, ?_⟩⟩
            · show Mem.Own _ _ _ _ _ _ _
              rw [HT2.out]
              exact HO2.out.keeps (Mem.Keeps.of_below HB3.out) (fun _ _ h => h)
            · exact HK2.out.trans (Mem.Keeps.of_below HB3.out) (fun _ h _ => h.elim)
          case measure => simp [intOf]; omega
        | false =>
          rw [hq] at hcall
          rw [hq, if_neg (by simp)] at hkl
          have HT2 : Hid (keptL p (es.take (j + 1)) = keptL p (es.take j) ++ [e]) := by show _ = _; rw [HTK.out, if_neg (by simp [hq])]
          clear hq
          go_wp2_with (first | ((with_reducible refine Mem.load_agg _ _ entry_agg wr.heap.size 0 (entCells e) ?hyb (entCells_length e) (fun j u hu => by rw [Nat.zero_add]; exact HE2.out.cell hu) ?_); case hyb => exact rfl) | (go_at_fn G; refine hcall.out.mono ?_; rintro x w3 ⟨rfl, hbw⟩; have HB3 := Lib.hid hbw; have HE3 : Hid (EBx w3 wr.heap.size e) := HE2.out.below HB3.out HE2.out.lt; have HO3 := Lib.hid (HO2.out.keeps (Mem.Keeps.of_below HB3.out) (fun _ _ h => h)); clear hbw) | ((with_reducible refine Mem.load_agg _ _ entry_agg wr.heap.size 0 (entCells e) ?hyc (entCells_length e) (fun j u hu => by rw [Nat.zero_add]; exact HE3.out.cell hu) ?_); case hyc => exact rfl) | ((with_reducible refine Mem.store_elem _ 20 entry_agg 33 es.length c g o i _ (entCells e) ?hxd ?hyd HO3.out (entCells_length e) ?hid (ent_one e) ?_); ((case hxd => exact rfl); (case hyd => exact rfl); (case hid => omega); intro w4 hb4 hk4 hs4)))
          go_roundw
          case rel =>
            refine ⟨⟨j + 1, i + 1, by omega, by omega, by omega, by go_num, by go_num, ?_, ?_⟩⟩
            · show Mem.Own _ _ _ _ _ _ _
              have e1 : ((keptL p (es.take j) ++ es.drop i).flatMap entCells).take (i * 20) = (keptL p (es.take j)).flatMap entCells := by
                rw [Mem.flat_take entCells_length, List.take_left' HIL.out.symm]
              have e2 : ((keptL p (es.take j) ++ es.drop i).flatMap entCells).drop (i * 20 + (entCells e).length) = (es.drop (i + 1)).flatMap entCells := by
                rw [entCells_length, show i * 20 + 20 = (i + 1) * 20 by omega, Mem.flat_drop entCells_length, List.drop_append, ← HIL.out, List.drop_of_length_le (by rw [← HIL.out]; omega), List.nil_append, List.drop_drop]
                congr 2; omega
              rw [e1, e2] at hb4
              rw [HT2.out]
              simpa using hb4
            · exact ((HK2.out.trans (Mem.Keeps.of_below HB3.out) (fun _ h _ => h.elim)).trans hk4 (fun _ h _ => h))
          case measure => simp [intOf]; omega
      · obtain rfl : j = es.length := by omega
        rw [List.take_length] at HO hil
        have HT : Hid (Mem.Own wr 33 20 (some ⟨g, o, none⟩) i c ((keptL p es).flatMap entCells)) := by
          have := HO.out.take (k := i) (by omega)
          rwa [Mem.flat_take entCells_length, List.take_left' hil.symm] at this
        have hz1 : ∀ y ∈ (Value.agg (entCells ent0).toArray).cells.toList, y.oneCell' = true := ent_one ent0
        have HIL := Lib.hid hil
        clear hil
        go_wp2_with (refine Mem.wpList_clear rfl (.tmp 38) _ rfl Try.underlying24 entry_zero rfl hz1 i c g o _ i _ (c - i) (some ⟨g, o + i * 20, none⟩) rfl ?_ HT.out (.inr rfl) (Nat.le_refl _) (by omega); intro w7 hown7 hk7 hs7)
        go_ret
        refine ⟨by rw [← HIL.out]; rfl, ?_, ?_⟩
        · show Mem.Own _ _ _ _ _ _ _
          rw [← HIL.out]; exact hown7
        · exact (HK.out.trans hk7 (fun _ h _ => h)).mono (fun k h _ => by subst h; rfl)
end Go.Proofs.Ytgdcfdjfoeoknaa
