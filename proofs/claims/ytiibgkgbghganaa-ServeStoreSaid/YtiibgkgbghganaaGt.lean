/- Of two writes the greater; a write's name. No conditions. -/
import Derived.Test.YtiibgkgbghganaaTyEq
import Derived.Test.YtiibgkgbghganaaOwnX
import Derived.Test.YtiibgkgbghganaaQuiet
set_option maxRecDepth 8000
namespace Go.Proofs.Ytiibgkgbghganaa
open Go.ChangeShapes Go.WideShapes Go.ChangeAt Go.RowKit
set_option linter.unusedVariables false
set_option linter.unusedSimpArgs false
theorem dot_agg : Mem.Agg Try.prog 26 3 := Mem.agg_of Try.underlying26 rfl (by kernel_rfl)
namespace Vec
def gtE (e m : Ent) : Int := Stamp.firstNZ [Stamp.cmpS e.st m.st, Stamp.cmpI e.seq m.seq]
def dotE (e : Ent) : Dt := ⟨e.dc, e.rng, e.seq⟩
end Vec
end Go.Proofs.Ytiibgkgbghganaa
