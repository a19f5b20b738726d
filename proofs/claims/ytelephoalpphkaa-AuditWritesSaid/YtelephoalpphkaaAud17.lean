/- The walk of rules: the eight functions, in memory. No conditions. -/
import Derived.Test.YtelephoalpphkaaAud16
set_option maxRecDepth 8000
namespace Go.Proofs.Ytelephoalpphkaa
open Go.ChangeShapes Go.WideShapes Go.ChangeAt Go.RowKit
set_option linter.unusedVariables false
set_option linter.unusedSimpArgs false
namespace Au
/-- the eight rules as function values: their numbers and what they hold -/
def rulesL (bc bs : Nat) : List (Nat × Array Value) := [(44, #[.pointer (some ⟨bs, 0, none⟩)]), (46, #[]), (47, #[.pointer (some ⟨bc, 0, none⟩)]), (50, #[]), (54, #[.pointer (some ⟨bs, 0, none⟩)]), (55, #[]), (57, #[.pointer (some ⟨bc, 0, none⟩)]), (59, #[.pointer (some ⟨bc, 0, none⟩)])]
def funV (x : Nat × Array Value) : Value := .func (.func x.1) #[] x.2
def RulesEnd (w : World) (gc gs : Nat) (x : Ending) (w' : World) : Prop :=
  ∃ bc bs A, x = .returned (.slice A 8 8) ∧ Mem.Rd w' w'.heap.size A ((rulesL bc bs).map funV) ∧ Mem.Bx w' 63 1 bc [.pointer (some ⟨gc, 0, none⟩)] ∧ Mem.Bx w' 78 1 bs [.pointer (some ⟨gs, 0, none⟩)] ∧ w.heap.size ≤ bc ∧ w.heap.size ≤ bs ∧ (∀ q, Mem.blk A = some q → w.heap.size ≤ q) ∧ Below w.heap.size w w'
end Au
open Au in
set_option maxHeartbeats 4000000 in
theorem rulesV_any (w : World) (gc gs : Nat) :
    Calls Try.prog 34 #[.pointer (some ⟨gc, 0, none⟩), .pointer (some ⟨gs, 0, none⟩)] w (Au.RulesEnd w gc gs) := by
  have HB1 : Hid (Below w.heap.size w (w.alloc (.cells #[.pointer (some ⟨gc, 0, none⟩)] 63))) := Reg.below_new _ _
  have HX1 : Hid (Mem.Bx (w.alloc (.cells #[.pointer (some ⟨gc, 0, none⟩)] 63)) 63 1 w.heap.size [.pointer (some ⟨gc, 0, none⟩)]) := Mem.Bx.new w _ #[.pointer (some ⟨gc, 0, none⟩)] rfl rfl
  obtain ⟨w1, hw1⟩ : ∃ w1, w.alloc (.cells #[.pointer (some ⟨gc, 0, none⟩)] 63) = w1 := ⟨_, rfl⟩
  rw [hw1] at HB1 HX1
  have HB2 : Hid (Below w1.heap.size w1 (w1.alloc (.cells #[.pointer (some ⟨gs, 0, none⟩)] 78))) := Reg.below_new _ _
  have HX2 : Hid (Mem.Bx (w1.alloc (.cells #[.pointer (some ⟨gs, 0, none⟩)] 78)) 78 1 w1.heap.size [.pointer (some ⟨gs, 0, none⟩)]) := Mem.Bx.new w1 _ #[.pointer (some ⟨gs, 0, none⟩)] rfl rfl
  obtain ⟨w2, hw2⟩ : ∃ w2, w1.alloc (.cells #[.pointer (some ⟨gs, 0, none⟩)] 78) = w2 := ⟨_, rfl⟩
  rw [hw2] at HB2 HX2
  go_enter Try.func34, Try.ntmps34
  go_upto_region 1 with fail
  try rw [hw1]
  try rw [hw2]
  clear hw1 hw2
  go_wp2
  go_ret
  have HB3 := Reg.below_new w2 (.cells ((rulesL w.heap.size w1.heap.size).map funV).toArray 84)
  have HX3 : Mem.Bx (w2.alloc (.cells ((rulesL w.heap.size w1.heap.size).map funV).toArray 84)) 84 8 w2.heap.size ((rulesL w.heap.size w1.heap.size).map funV) := Mem.Bx.new w2 _ _ rfl rfl
  have h2 := HX2.out.below HB3 HX2.out.lt
  have h1 := (HX1.out.below HB2.out HX1.out.lt).below HB3 (Nat.lt_of_lt_of_le HX1.out.lt HB2.out.size)
  have l1 := HB1.out.size
  have l2 := HB2.out.size
  exact ⟨w.heap.size, w1.heap.size, some ⟨w2.heap.size, 0, none⟩, rfl, .inr ⟨w2.heap.size, 0, rfl, HX3.lt, fun j u hu => by rw [Nat.zero_add]; exact HX3.cell hu⟩, h1, h2, Nat.le_refl _, l1, (fun q hq => by cases hq; exact Nat.le_trans l1 l2), (HB1.out.trans (HB2.out.mono l1)).trans (HB3.mono (by omega))⟩
end Go.Proofs.Ytelephoalpphkaa
