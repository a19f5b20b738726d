/- The walks of Go's slices functions at causeway/api.Event, whatever the function handed in. PRINTED by wip/mkfun.py. No conditions. -/
import Derived.Test.YtelephoalpphkaaAud0
import Derived.Shelf.Abstract
import Derived.Lib.SliceRun
set_option maxRecDepth 8000
namespace Go.Proofs.Ytelephoalpphkaa
open Go.ChangeShapes Go.WideShapes Go.ChangeAt Go.RowKit
set_option linter.unusedVariables false
set_option linter.unusedSimpArgs false
namespace Ae
abbrev Ent := Au.Ev
abbrev entCells := Au.evCells
def ent0 : Ent := Au.ev0
theorem entCells_length (e : Ent) : (entCells e).length = 20 := rfl
theorem ent_one (e : Ent) : ∀ y ∈ entCells e, y.oneCell' = true := by simp [Au.evCells, Value.oneCell']
structure EntAt (w : World) (b o : Nat) (e : Ent) : Prop where
  c : ∀ j u, (entCells e)[j]? = some u → w.cell? ⟨b, o + j, none⟩ = some u
theorem ent_elem {w : World} {B : Nat} {A : Option Addr} {l : List Ent} (h : Mem.Rd w B A (l.flatMap entCells)) {k : Nat} (hk : k < l.length) :
    ∃ b o e, A = some ⟨b, o, none⟩ ∧ b < B ∧ l[k]? = some e ∧ EntAt w b (o + k * 20) e := by
  obtain ⟨b, o, e, hb, hc⟩ := Mem.Rd.elem entCells_length h hk (by omega)
  exact ⟨b, o, l[k], e, hb, List.getElem?_eq_getElem hk, ⟨fun j u hu => by rw [Nat.add_assoc]; exact hc j u hu⟩⟩
theorem EntAt.below {w w' : World} {B b o : Nat} {e : Ent} (h : EntAt w b o e) (hb : Below B w w') (hB : b < B) : EntAt w' b o e := ⟨fun j u hu => (hb.cell (p := ⟨b, o + j, none⟩) hB).trans (h.c j u hu)⟩
abbrev EBx (w : World) (g : Nat) (e : Ent) : Prop := Mem.Bx w 46 20 g (entCells e)
theorem ents_one (es : List Ent) : ∀ u ∈ es.flatMap entCells, u.oneCell' = true := fun u hu => by
  obtain ⟨e, _, he⟩ := List.mem_flatMap.1 hu
  exact ent_one e u he
theorem ents_len (es : List Ent) : (es.flatMap entCells).length = es.length * 20 := Mem.flat_length entCells_length es
theorem zero : (Try.prog.info? 46).map (fun i => (i.zero, i.size)) = some (some (.agg (entCells ent0).toArray), 20) := by kernel_rfl
abbrev EOwn (w : World) (A : Option Addr) (c : Nat) (es : List Ent) : Prop := Mem.Own w 46 20 A es.length c (es.flatMap entCells)
end Ae
namespace Ae
/-- what is asked of a function of a write, in any world in which what lay outside of S is as it was -/
def Tells (G : Nat) (lb : Array Value) (p : Ent → Bool) (es : List Ent) (S : Nat → Prop) (w : World) : Prop :=
  ∀ (W : World) (e : Ent), e ∈ es → Mem.Keeps S w W → Calls Try.prog G (#[.agg (entCells e).toArray] ++ lb) W fun x w' => x = .returned (.bool (p e)) ∧ Below W.heap.size W w'
def idx (p : Ent → Bool) (es : List Ent) : Int := match es.findIdx? p with | some k => k | none => -1
structure IdxRel (w : World) (es : List Ent) (p : Ent → Bool) (vi : Value) (wr : World) : Prop where
  out : ∃ k : Nat, k ≤ es.length ∧ vi = .int .i64 k ∧ Hid (∀ e ∈ es.take k, p e = false) ∧ Hid (Below w.heap.size w wr)
theorem idx_hit {p : Ent → Bool} {es : List Ent} {k : Nat} {e : Ent} (he : es[k]? = some e) (h0 : ∀ e ∈ es.take k, p e = false) (hp : p e = true) : es.findIdx? p = some k := by
  rw [List.findIdx?_eq_some_iff_getElem]
  obtain ⟨hk, rfl⟩ := List.getElem?_eq_some_iff.1 he
  refine ⟨hk, hp, fun j hj => ?_⟩
  have := h0 es[j] (by rw [List.mem_take_iff_getElem]; exact ⟨j, by omega, rfl⟩)
  simp [this]
theorem idx_miss {p : Ent → Bool} {es : List Ent} (h0 : ∀ e ∈ es, p e = false) : es.findIdx? p = none := by
  rw [List.findIdx?_eq_none_iff]
  intro x hx
  simp [h0 x hx]
end Ae
open Ae in
set_option maxHeartbeats 4000000 in
theorem Ae.index_any (G : Nat) (lb : Array Value) (p : Ae.Ent → Bool) (eg : ∀ args w, (callFunc G args).run Try.prog w = .ok (.enter G args) w) (A : Option Addr) (c : Nat) (es : List Ae.Ent) (B : Nat) (w : World) (hp : Ae.Tells G lb p es (fun _ => False) w) (hr : Mem.Rd w B A (es.flatMap Ae.entCells)) (hB : B ≤ w.heap.size) (hn : es.length ≤ maxLen) :
    Calls Try.prog 76 #[.slice A es.length c, .func (.func G) #[] lb] w fun x w' => x = .returned (.int .i64 (Ae.idx p es)) ∧ Below w.heap.size w w' := by
  unfold maxLen at hn
  have hm := Lib.hid (hr.more hB)
  have HP := Lib.hid hp
  clear hr hp
  go_enter Try.func76, Try.ntmps76
  go_wp2
  go_loopw [8] (IdxRel w es p) (fun t _ => es.length - (intOf t).toNat)
  case atStart => exact ⟨⟨0, by omega, rfl, fun e he => by simp at he, Below.refl _ _⟩⟩
  case round =>
    obtain ⟨k, hk, rfl, H0, HB⟩ := hrel.out
    by_cases hlt : k < es.length
    · obtain ⟨b, o, e, rfl, hb, he, hat⟩ := ent_elem hm.out hlt
      have HAT := Lib.hid (hat.below HB.out hb)
      have HE := Lib.hid he
      have hcall := Lib.hid (HP.out wr e (List.mem_of_getElem? HE.out) ((Mem.Keeps.refl (fun _ => False) w).trans (Mem.Keeps.of_below HB.out) (fun _ h _ => h)))
      clear hat he
      cases hq : p e with
      | true =>
        rw [hq] at hcall
        have HQ := Lib.hid hq
        clear hq
        go_wp2_with (first | ((with_reducible refine Mem.load_agg _ _ event_agg b (o + k * 20) (entCells e) ?hx (entCells_length e) HAT.out.c ?_); case hx => exact rfl) | (go_at_fn G; refine hcall.out.mono ?_; rintro x w' ⟨rfl, hbw⟩; have HB' := Lib.hid (HB.out.trans (hbw.mono HB.out.size)); clear hbw))
        go_ret
        exact ⟨by unfold idx; rw [idx_hit HE.out H0.out HQ.out]; rfl, HB'.out⟩
      | false =>
        rw [hq] at hcall
        have HQ := Lib.hid hq
        clear hq
        go_wp2_with (first | ((with_reducible refine Mem.load_agg _ _ event_agg b (o + k * 20) (entCells e) ?hy (entCells_length e) HAT.out.c ?_); case hy => exact rfl) | (go_at_fn G; refine hcall.out.mono ?_; rintro x w' ⟨rfl, hbw⟩; have HB' := Lib.hid (HB.out.trans (hbw.mono HB.out.size)); clear hbw))
        go_roundw
        case rel =>
          refine ⟨⟨k + 1, by omega, by go_num, fun x hx => ?_, HB'⟩⟩
          rw [Mem.take_snoc HE.out, List.mem_append, List.mem_singleton] at hx
          rcases hx with hx | rfl
          · exact H0.out x hx
          · exact HQ.out
        case measure => simp [intOf]; omega
    · obtain rfl : k = es.length := by omega
      rw [List.take_length] at H0
      go_wp2
      go_ret
      exact ⟨by unfold idx; rw [idx_miss H0.out]; rfl, HB.out⟩
open Ae in
set_option maxHeartbeats 4000000 in
theorem Ae.contains_any (G : Nat) (lb : Array Value) (p : Ae.Ent → Bool) (eg : ∀ args w, (callFunc G args).run Try.prog w = .ok (.enter G args) w) (A : Option Addr) (c : Nat) (es : List Ae.Ent) (B : Nat) (w : World) (hp : Ae.Tells G lb p es (fun _ => False) w) (hr : Mem.Rd w B A (es.flatMap Ae.entCells)) (hB : B ≤ w.heap.size) (hn : es.length ≤ maxLen) :
    Calls Try.prog 67 #[.slice A es.length c, .func (.func G) #[] lb] w fun x w' => x = .returned (.bool (es.any p)) ∧ Below w.heap.size w w' := by
  have hi := Lib.hid (Ae.index_any G lb p eg A c es B w hp hr hB hn)
  have hd : decide (0 ≤ idx p es) = es.any p := by
    unfold idx
    cases h : es.findIdx? p with
    | none =>
      rw [List.findIdx?_eq_none_iff] at h
      rw [List.any_eq_false.2 (fun x hx => by simpa using h x hx)]
      rfl
    | some k =>
      obtain ⟨hk, h1, _⟩ := List.findIdx?_eq_some_iff_getElem.1 h
      rw [List.any_eq_true.2 ⟨_, List.getElem_mem hk, h1⟩]
      simp
  obtain ⟨q, hq⟩ : ∃ q, idx p es = q := ⟨_, rfl⟩
  rw [hq] at hi hd
  rw [← hd]
  clear hp hr hB hn hq hd
  go_enter Try.func67, Try.ntmps67
  go_wp2_with (go_at_call 76; refine hi.out.mono ?_; rintro x w' ⟨rfl, hbw⟩)
  go_ret
  exact ⟨rfl, hbw⟩
end Go.Proofs.Ytelephoalpphkaa
