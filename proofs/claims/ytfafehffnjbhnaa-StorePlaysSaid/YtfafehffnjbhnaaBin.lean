/- Two structs are compared by an operation: its answer is handed in. Plain lemma over any program. -/
import Derived.Test.YtfafehffnjbhnaaAgg2
import Derived.Laws.StructEq
namespace Go.Proofs.Ytfafehffnjbhnaa
open Go.RowKit
set_option linter.unusedVariables false
set_option linter.unusedSimpArgs false
namespace Mem
section
variable {P : Program} {w : World} {ops : Array Oper} {rest : List Oper} {a : Act} {Q : Exit → Act → World → Prop} {d : Option Tmp} {ty : TypeId} {ps : String} {af : Array Edge}
theorem wpList_bin {op : BinOp} {x y : Operand} (t s : TypeId) (hm : P.eqGuardType P.depth t = false) (xs ys : Array Value) (b : Bool) (hx : a.eval x = .agg xs) (hy : a.eval y = .agg ys) (hb : ∀ w, (binOp op t (.agg xs) (.agg ys)).run P w = .ok (.bool b) w)
    (h : wpList P ops Q rest (a.put d (.bool b)) w) :
    wpList P ops Q ({ dst := d, op := .binOp op t x y s, type := ty, pos := ps, after := af, guard := none } :: rest) a w :=
  wpList_plain rfl fun _ hK => by
    unfold Oper.wp execOp
    simp only [hx, hy, Sem.run_bind, run_eqGuard_agg (P := P) w op t x y xs ys hm, hb, Result.andThen_ok, Sem.run_pure]
    exact hK _ _ h
end
end Mem
end Go.Proofs.Ytfafehffnjbhnaa
