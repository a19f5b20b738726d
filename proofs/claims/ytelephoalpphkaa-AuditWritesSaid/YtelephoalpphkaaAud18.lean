/- What the eight rules answer. No conditions but that lists are few. -/
import Derived.Test.YtelephoalpphkaaAud17
set_option maxRecDepth 8000
namespace Go.Proofs.Ytelephoalpphkaa
open Go.ChangeShapes Go.WideShapes Go.ChangeAt Go.RowKit
set_option linter.unusedVariables false
set_option linter.unusedSimpArgs false
namespace Au
def rulesF (k : Ck) (s : Ss) (e : Ev) : List Bool := [r2 s e, shapedP e, r4 k e, r5 e, r6 s e, r7 e, r8 k e, r9 k e]
end Au
open Au in
theorem rules_tell {w : World} {B gc bc gs bs : Nat} {k : Au.Ck} {s : Au.Ss} {e : Au.Ev} (hC : Au.Cx w B gc bc gs bs k s) (hE : Au.EvOk w B e) (hn : e.res.length ≤ 703687441776) {i G : Nat} {lb : Array Value} (hi : (Au.rulesL bc bs)[i]? = some (G, lb)) :
    (∀ args W, (callFunc G args).run Try.prog W = .ok (.enter G args) W) ∧ Calls Try.prog G (#[.agg (Au.evCells e).toArray] ++ lb) w fun x w' => x = .returned (.bool ((Au.rulesF k s e).getD i true)) ∧ Below w.heap.size w w' := by
  have hl : i < 8 := by
    by_cases h : i < 8
    · exact h
    · rw [List.getElem?_eq_none (by show 8 ≤ i; omega)] at hi; cases hi
  match i, hl with
  | 0, _ => cases hi; exact ⟨enters_of Try.func44 (by kernel_rfl) rfl, rule2_any hC hE⟩
  | 1, _ => cases hi; exact ⟨enters_of Try.func46 (by kernel_rfl) rfl, shaped_any hE hC.le⟩
  | 2, _ => cases hi; exact ⟨enters_of Try.func47 (by kernel_rfl) rfl, rule4_any hC hE hn⟩
  | 3, _ => cases hi; exact ⟨enters_of Try.func50 (by kernel_rfl) rfl, rule5_any hE hC.le⟩
  | 4, _ => cases hi; exact ⟨enters_of Try.func54 (by kernel_rfl) rfl, rule6_any hC⟩
  | 5, _ => cases hi; exact ⟨enters_of Try.func55 (by kernel_rfl) rfl, rule7_any hE hC.le hn⟩
  | 6, _ => cases hi; exact ⟨enters_of Try.func57 (by kernel_rfl) rfl, rule8_any hC hE⟩
  | 7, _ => cases hi; exact ⟨enters_of Try.func59 (by kernel_rfl) rfl, rule9_any hC⟩
end Go.Proofs.Ytelephoalpphkaa
