/- The walks of slices.IndexFunc, ContainsFunc, Clone at writes, whatever the function handed in. No conditions. -/
import Derived.Test.YtfafehffnjbhnaaTy
import Derived.Test.YtfafehffnjbhnaaOwnX
import Derived.Shelf.Abstract
import Derived.Lib.SliceRun
namespace Go.Proofs.Ytfafehffnjbhnaa
open Go.ChangeShapes Go.WideShapes Go.ChangeAt Go.RowKit
set_option linter.unusedVariables false
set_option linter.unusedSimpArgs false

namespace Vec
/-- what is asked of a function of a write, in any world in which what lay outside of S is as it was -/
def Tells (G : Nat) (lb : Array Value) (p : Ent → Bool) (S : Nat → Prop) (w : World) : Prop :=
  ∀ (W : World) (e : Ent), Mem.Keeps S w W → Calls Try.prog G (#[.agg (entCells e).toArray] ++ lb) W fun x w' => x = .returned (.bool (p e)) ∧ Below W.heap.size W w'
def idx (p : Ent → Bool) (es : List Ent) : Int := match es.findIdx? p with | some k => k | none => -1
structure IdxRel (w : World) (es : List Ent) (p : Ent → Bool) (vi : Value) (wr : World) : Prop where
  out : ∃ k : Nat, k ≤ es.length ∧ vi = .int .i64 k ∧ Hid (∀ e ∈ es.take k, p e = false) ∧ Hid (Below w.heap.size w wr)
theorem idx_hit {p : Ent → Bool} {es : List Ent} {k : Nat} {e : Ent} (he : es[k]? = some e) (h0 : ∀ e ∈ es.take k, p e = false) (hp : p e = true) : es.findIdx? p = some k := by
  rw [List.findIdx?_eq_some_iff_getElem]
  obtain ⟨hk, rfl⟩ := List.getElem?_eq_some_iff.1 he
  refine ⟨hk, hp, fun j hj => ?_⟩
  have := h0 es[j] (by rw [List.mem_take_iff_getElem]; exact ⟨j, by omega, rfl⟩)
  simp [this]
theorem idx_miss {p : Ent → Bool} {es : List Ent} (h0 : ∀ e ∈ es, p e = false) : es.findIdx? p = none := by
  rw [List.findIdx?_eq_none_iff]
  intro x hx
  simp [h0 x hx]
end Vec
open Vec in
set_option maxHeartbeats 4000000 in
theorem index_any (G : Nat) (lb : Array Value) (p : Vec.Ent → Bool) (eg : ∀ args w, (callFunc G args).run Try.prog w = .ok (.enter G args) w) (A : Option Addr) (c : Nat) (es : List Vec.Ent) (B : Nat) (w : World) (hp : Vec.Tells G lb p (fun _ => False) w) (hr : Mem.Rd w B A (es.flatMap Vec.entCells)) (hB : B ≤ w.heap.size) (hn : es.length ≤ maxLen) :
    Calls Try.prog 62 #[.slice A es.length c, .func (.func G) #[] lb] w fun x w' => x = .returned (.int .i64 (Vec.idx p es)) ∧ Below w.heap.size w w' := by
  unfold maxLen at hn
  have hm := Lib.hid (hr.more hB)
  have HP := Lib.hid hp
  clear hr hp
  go_enter Try.func62, Try.ntmps62
  go_wp2
  go_loopw [8] (IdxRel w es p) (fun t _ => es.length - (intOf t).toNat)
  case atStart => exact ⟨⟨0, by omega, rfl, fun e he => by simp at he, Below.refl _ _⟩⟩
  case round =>
    obtain ⟨k, hk, rfl, H0, HB⟩ := hrel.out
    by_cases hlt : k < es.length
    · obtain ⟨b, o, e, rfl, hb, he, hat⟩ := ent_elem hm.out hlt
      have HAT := Lib.hid (hat.below HB.out hb)
      have HE := Lib.hid he
      have hcall := Lib.hid (HP.out wr e ((Mem.Keeps.refl (fun _ => False) w).trans (Mem.Keeps.of_below HB.out) (fun _ h _ => h)))
      clear hat he
      cases hq : p e with
      | true =>
        rw [hq] at hcall
        have HQ := Lib.hid hq
        clear hq
        go_wp2_with (first | ((with_reducible refine Mem.load_agg _ _ entry_agg b (o + k * 20) (entCells e) ?hx (entCells_length e) HAT.out.c ?_); case hx => exact rfl) | (go_at_fn G; refine hcall.out.mono ?_; rintro x w' ⟨rfl, hbw⟩; have HB' := Lib.hid (HB.out.trans (hbw.mono HB.out.size)); clear hbw))
        go_ret
        exact ⟨by unfold idx; rw [idx_hit HE.out H0.out HQ.out]; rfl, HB'.out⟩
      | false =>
        rw [hq] at hcall
        have HQ := Lib.hid hq
        clear hq
        go_wp2_with (first | ((with_reducible refine Mem.load_agg _ _ entry_agg b (o + k * 20) (entCells e) ?hy (entCells_length e) HAT.out.c ?_); case hy => exact rfl) | (go_at_fn G; refine hcall.out.mono ?_; rintro x w' ⟨rfl, hbw⟩; have HB' := Lib.hid (HB.out.trans (hbw.mono HB.out.size)); clear hbw))
        go_roundw
        case rel =>
          refine ⟨⟨k + 1, by omega, by go_num, fun x hx => ?_, HB'⟩⟩
          rw [Mem.take_snoc HE.out, List.mem_append, List.mem_singleton] at hx
          rcases hx with hx | rfl
          · exact H0.out x hx
          · exact HQ.out
        case measure => simp [intOf]; omega
    · obtain rfl : k = es.length := by omega
      rw [List.take_length] at H0
      go_wp2
      go_ret
      exact ⟨by unfold idx; rw [idx_miss H0.out]; rfl, HB.out⟩
open Vec in
set_option maxHeartbeats 4000000 in
theorem contains_any (G : Nat) (lb : Array Value) (p : Vec.Ent → Bool) (eg : ∀ args w, (callFunc G args).run Try.prog w = .ok (.enter G args) w) (A : Option Addr) (c : Nat) (es : List Vec.Ent) (B : Nat) (w : World) (hp : Vec.Tells G lb p (fun _ => False) w) (hr : Mem.Rd w B A (es.flatMap Vec.entCells)) (hB : B ≤ w.heap.size) (hn : es.length ≤ maxLen) :
    Calls Try.prog 51 #[.slice A es.length c, .func (.func G) #[] lb] w fun x w' => x = .returned (.bool (es.any p)) ∧ Below w.heap.size w w' := by
  have hi := Lib.hid (index_any G lb p eg A c es B w hp hr hB hn)
  have hd : decide (0 ≤ idx p es) = es.any p := by
    unfold idx
    cases h : es.findIdx? p with
    | none =>
      rw [List.findIdx?_eq_none_iff] at h
      rw [List.any_eq_false.2 (fun x hx => by simpa using h x hx)]
      rfl
    | some k =>
      obtain ⟨hk, h1, _⟩ := List.findIdx?_eq_some_iff_getElem.1 h
      rw [List.any_eq_true.2 ⟨_, List.getElem_mem hk, h1⟩]
      simp
  obtain ⟨q, hq⟩ : ∃ q, idx p es = q := ⟨_, rfl⟩
  rw [hq] at hi hd
  rw [← hd]
  clear hp hr hB hn hq hd
  go_enter Try.func51, Try.ntmps51
  go_wp2_with (go_at_call 62; refine hi.out.mono ?_; rintro x w' ⟨rfl, hbw⟩)
  go_ret
  exact ⟨rfl, hbw⟩
namespace Vec
/-- slices of writes in memory of their own -/
abbrev EOwn (w : World) (A : Option Addr) (c : Nat) (es : List Ent) : Prop := Mem.Own w 40 20 A es.length c (es.flatMap entCells)
end Vec
open Vec in
set_option maxHeartbeats 4000000 in
theorem clone_any (A : Option Addr) (c : Nat) (es : List Vec.Ent) (w : World) (hO : Vec.EOwn w A c es) (hn : es.length ≤ 300) :
    Calls Try.prog 39 #[.slice A es.length c] w fun x w' => ∃ A' c', x = .returned (.slice A' es.length c') ∧ Vec.EOwn w' A' c' es ∧ Mem.From w.heap.size A' ∧ Below w.heap.size w w' := by
  have hol := ents_len es
  have hoo := ents_one es
  have hnil := fun W (a : Option Addr) n c => Lib.run_eql_slice_nil (P := Try.prog) W 22 40 a n c 0 0 Try.underlying22
  rcases hO.2 with ⟨rfl, h0, rfl⟩ | ⟨g, o, cur, rfl, _⟩
  · obtain rfl : es = [] := List.eq_nil_of_length_eq_zero h0
    go_enter Try.func39, Try.ntmps39
    go_wp2
    go_ret
    exact ⟨none, 0, rfl, Mem.Own.nil _ _ _, Mem.From.none_ _, Below.refl _ _⟩
  · have HO := Lib.hid hO
    clear hO
    go_enter Try.func39, Try.ntmps39
    go_wp2_with (at_builtin; refine Mem.wpList_clone _ rfl (.tmp 5) (.tmp 6) _ rfl entries_elem _ rfl w w.heap.size (some ⟨g, o, none⟩) es.length c (es.flatMap entCells) rfl ?_ rfl (Below.refl _ _) (Nat.le_refl _) HO.out.rd hol hoo (by unfold maxLen; omega) (by omega); intro A1 c1 w3 hown hb3 hs3 hf3)
    go_ret
    exact ⟨A1, c1, rfl, hown, hf3, hb3⟩
end Go.Proofs.Ytfafehffnjbhnaa
