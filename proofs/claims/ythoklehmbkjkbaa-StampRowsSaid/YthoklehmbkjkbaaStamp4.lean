/- The walk of StampNext: the next stamp behind any counts is the document's. No conditions. -/
import Derived.Test.YthoklehmbkjkbaaStamp3
namespace Go.Proofs.Ythoklehmbkjkbaa
open Go.ChangeShapes Go.WideShapes Go.ChangeAt Go.RowKit
set_option linter.unusedVariables false

theorem ints_elem : Mem.Elem Try.prog 28 3 1 8 := Mem.elem_of Try.underlying28 (z := .int .i64 0) (by kernel_rfl) rfl (by omega)
theorem ints_one (zs : List Int) : ∀ u ∈ zs.map Stamp.intV, u.oneCell' = true := by
  intro u hu
  obtain ⟨c, _, rfl⟩ := List.mem_map.1 hu
  rfl
/-- a slice of numbers that came in -/
theorem open_intsR {H : Type} {enc : TypeId × Value → H} {W : World} {base : Nat} {v : Value} {d : DataW H} {p : List MemPlace} (o : Value.okWide Try.prog W .any base 28 v) (k : DataW.Trod enc Try.prog W 0 (fun _ => true) true 28 v d p) :
    ∃ A c, ∃ zs : List Int, v = .slice A zs.length c ∧ zs.length ≤ c ∧ c ≤ maxLen ∧ Mem.Rd W W.heap.size A (zs.map Stamp.intV) ∧ Fits zs := by
  obtain ⟨a0, len0, cap0, rfl⟩ := okWide_slice Try.underlying28 o
  obtain ⟨fuel, hf⟩ := k
  rcases open_ints Try.underlying28 Try.underlying3 (by kernel_rfl) hf with ⟨hcs, _⟩ | ⟨x, l, c, zs, hcs, _, hl, hm, hz, _, hcell, hwz⟩
  · simp [Value.cells] at hcs
    obtain ⟨rfl, rfl, rfl⟩ := hcs
    exact ⟨none, 0, [], rfl, by simp, by simp [maxLen], .inl rfl, fun z hz => by cases hz⟩
  · simp [Value.cells] at hcs
    obtain ⟨rfl, rfl, rfl⟩ := hcs
    have hzl : zs.length = cap0 := by simpa using hz
    have hlen : (zs.take len0).length = len0 := by simp; omega
    refine ⟨some x, cap0, zs.take len0, by rw [hlen], by omega, hm, ?_, fun z hz => bounds_i64 (hwz z (List.mem_of_mem_take hz))⟩
    by_cases h0 : len0 = 0
    · subst h0; exact .inl rfl
    · obtain ⟨b, off, spot⟩ := x
      have hc0 := hcell 0 (by omega)
      have hspot : spot = none := by simpa [Addr.add] using World.cell?_spot hc0
      subst hspot
      refine .inr ⟨b, off, rfl, by simpa [Addr.add] using World.block_lt_of_cell? W _ hc0, fun j u hu => ?_⟩
      simp only [List.getElem?_map, Option.map_eq_some_iff] at hu
      obtain ⟨z, hz1, rfl⟩ := hu
      rw [List.getElem?_take] at hz1
      split at hz1
      · have hj2 : j < zs.length := (List.getElem?_eq_some_iff.1 hz1).1
        have hc := hcell j hj2
        rw [Mem.add_flat] at hc
        rw [hc, List.getD_eq_getElem?_getD, hz1]
        rfl
      · cases hz1

namespace Stamp
theorem same_self (s : St) : same s s = true := by simp [same]
end Stamp

namespace stampNextOpen
set_option maxHeartbeats 1000000 in
theorem walk (dc rng : Int) (A : Option Addr) (c : Nat) (zs : List Int) (w : World) (hr : Mem.Rd w w.heap.size A (zs.map Stamp.intV)) (hm : zs.length ≤ maxLen) :
    Calls Try.prog 4 #[.int .i64 dc, .int .i64 rng, .slice A zs.length c] w fun e w' => e = .returned (.bool true) ∧ Below w.heap.size w w' := by
  have hr0 := Lib.hid hr
  clear hr
  by_cases hb : 100000 < zs.length
  · have hbd : decide ((100000 : Int) < (zs.length : Int)) = true := by simp; omega
    clear hb
    go_enter Try.func4, Try.ntmps4
    go_wp2_with (go_at_call 9; refine (stampAble_any _).mono ?_; rintro e w1 ⟨rfl, hb1⟩)
    go_ret
    exact ⟨rfl, hb1⟩
  · have hbd : decide ((100000 : Int) < (zs.length : Int)) = false := by simp; omega
    obtain ⟨s, hs⟩ : ∃ s, Stamp.nextS dc rng zs = s := ⟨_, rfl⟩
    have hs' := Lib.hid hs
    clear hs
    have hse := fun W => eql_stamp s.1 s.1 W
    have hss := Stamp.same_self s.1
    go_enter Try.func4, Try.ntmps4
    go_wp2_with (first
      | (go_at_call 9; refine (stampAble_any _).mono ?_; rintro e w1 ⟨rfl, hb1⟩)
      | (at_builtin; refine Mem.wpList_clone _ rfl (.tmp 19) (.tmp 20) _ rfl ints_elem w1.heap.size rfl w w.heap.size A zs.length c (zs.map Stamp.intV) rfl ?_ rfl hb1 hb1.size hr0.out (by simp) (ints_one _) (by unfold maxLen; omega) (by omega); intro A' c' w2 hown hb2 hs2 hf2))
    refine Calls.mono (next_any dc rng A' c' zs w2.heap.size w2 hown.rd (Nat.le_refl _) (by unfold maxLen; omega)) ?_
    rw [hs'.out]
    rintro e w3 ⟨rfl, hb3⟩
    go_wp2_with fail
    refine Calls.mono (refNext_any dc rng A c zs w.heap.size _ ?r2 ?b2 (by unfold maxLen; omega)) ?_
    case r2 => exact (hr0.out.below (hb2.trans (hb3.mono hb2.size))).alloc (Nat.le_trans hb2.size hb3.size) _
    case b2 => have := Nat.le_trans hb2.size hb3.size; simp; omega
    rw [hs'.out]
    rintro e w4 ⟨rfl, hb4⟩
    obtain ⟨hc4, hf4⟩ := Mem.bcell hb4
    have hz4 := hb4.size
    simp at hz4
    have hz5 : w3.heap.size < w4.heap.size := by omega
    go_wp2_with fail
    go_ret
    have hB3 := hb2.trans (hb3.mono hb2.size)
    exact ⟨rfl, ((hB3.alloc hB3.size _).trans (hb4.mono (by have := hB3.size; simp; omega))).alloc (by have := hB3.size; omega) _⟩
theorem opened {H : Type} (enc : TypeId × Value → H) (W : World) (base : Nat) (v0 v1 v2 : Value) {d0 d1 d2 : DataW H} {p0 p1 p2 : List MemPlace}
    (o0 : Value.okWide Try.prog W .any base 3 v0) (o1 : Value.okWide Try.prog W .any base 3 v1) (o2 : Value.okWide Try.prog W .any base 28 v2)
    (k0 : DataW.Trod enc Try.prog W 0 (fun _ => true) true 3 v0 d0 p0) (k1 : DataW.Trod enc Try.prog W 0 (fun _ => true) true 3 v1 d1 p1) (k2 : DataW.Trod enc Try.prog W 0 (fun _ => true) true 28 v2 d2 p2) :
    Calls Try.prog 4 #[v0, v1, v2] W fun e w' => e = .returned (.bool true) ∧ Below W.heap.size W w' := by
  obtain ⟨a0, rfl, rfl, rfl, w0⟩ := open_int Try.underlying3 o0 k0
  obtain ⟨a1, rfl, rfl, rfl, w1⟩ := open_int Try.underlying3 o1 k1
  obtain ⟨A, c, zs, rfl, h1, h2, h3, _⟩ := open_intsR o2 k2
  exact walk a0 a1 A c zs W h3 (Nat.le_trans h1 h2)
end stampNextOpen
end Go.Proofs.Ythoklehmbkjkbaa
