/- Of two writes the greater; a write's name. No conditions. -/
import Derived.Test.YtfafehffnjbhnaaTyEq
import Derived.Test.YtfafehffnjbhnaaOwnX
import Derived.Test.YtfafehffnjbhnaaQuiet
set_option maxRecDepth 8000
namespace Go.Proofs.Ytfafehffnjbhnaa
open Go.ChangeShapes Go.WideShapes Go.ChangeAt Go.RowKit
set_option linter.unusedVariables false
set_option linter.unusedSimpArgs false
theorem dot_agg : Mem.Agg Try.prog 34 3 := Mem.agg_of Try.underlying34 rfl (by kernel_rfl)
namespace Vec
def gtE (e m : Ent) : Int := Stamp.firstNZ [Stamp.cmpS e.st m.st, Stamp.cmpI e.seq m.seq]
def dotE (e : Ent) : Dt := ⟨e.dc, e.rng, e.seq⟩
end Vec
end Go.Proofs.Ytfafehffnjbhnaa
