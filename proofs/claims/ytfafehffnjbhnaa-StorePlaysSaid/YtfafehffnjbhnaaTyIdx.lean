/- Rows and numbers of vectors, indexed. No conditions. -/
import Derived.Test.YtfafehffnjbhnaaTy
namespace Go.Proofs.Ytfafehffnjbhnaa
open Go.ChangeShapes Go.WideShapes Go.ChangeAt Go.RowKit
set_option linter.unusedVariables false
set_option linter.unusedSimpArgs false

theorem index_row (v : Vec.Vc) (W : World) : (Instr.index 38 (Vec.V v) (.int .i64 0)).run Try.prog W = .ok (Vec.C v.a) W ∧ (Instr.index 38 (Vec.V v) (.int .i64 1)).run Try.prog W = .ok (Vec.C v.b) W ∧ (Instr.index 38 (Vec.V v) (.int .i64 2)).run Try.prog W = .ok (Vec.C v.c) W := by
  have hA : Mem.Agg Try.prog 25 3 := Mem.agg_of Try.underlying25 rfl (by kernel_rfl)
  have hu := Try.underlying38
  refine ⟨?_, ?_, ?_⟩ <;> simp [Instr.index, run_underlying hu, asIntOf, part, hA.agg, hA.size]
theorem index_one (c : Vec.Col) (W : World) : (Instr.index 25 (Vec.C c) (.int .i64 0)).run Try.prog W = .ok (.int .i64 c.a) W ∧ (Instr.index 25 (Vec.C c) (.int .i64 1)).run Try.prog W = .ok (.int .i64 c.b) W ∧ (Instr.index 25 (Vec.C c) (.int .i64 2)).run Try.prog W = .ok (.int .i64 c.c) W := by
  have hu := Try.underlying25
  refine ⟨?_, ?_, ?_⟩ <;> simp [Instr.index, run_underlying hu, asIntOf, part, go_sem]
end Go.Proofs.Ytfafehffnjbhnaa
