/- Two laws for a region that draws its order and only reads: a value of many cells is loaded, two structs are compared. Plain lemmas over any program. -/
import Derived.Test.YtfafehffnjbhnaaBin
import Derived.BigQuiet
namespace Go.Proofs.Ytfafehffnjbhnaa
open Go.RowKit
set_option linter.unusedVariables false
set_option linter.unusedSimpArgs false
namespace Mem
section
variable {P : Program} {C : World → Prop} {a : Act} {K : Act → Prop} {d : Option Tmp} {ty : TypeId} {ps : String} {af : Array Edge} {gd : Option (Nat × Bool)}
theorem quiet_load {x : Operand} (t : TypeId) (n : Nat) (hA : Agg P t n) (g off : Nat) (xs : List Value) (hx : a.eval x = .pointer (some ⟨g, off, none⟩)) (hl : xs.length = n)
    (hc : ∀ w, C w → ∀ j u, xs[j]? = some u → w.cell? ⟨g, off + j, none⟩ = some u) (h : K (a.put d (.agg xs.toArray))) :
    ({ dst := d, op := .load t x, type := ty, pos := ps, after := af, guard := gd } : Oper).quiet P a C K := by
  refine ⟨.agg xs.toArray, fun w hw => ?_, h⟩
  unfold Oper.quietAt execOp
  simp only [hx, Instr.loadAt, Instr.sureAddr, Sem.run_bind, Sem.run_pure, Result.andThen_ok, run_loadAgg hA g off xs hl (hc w hw)]
  exact ⟨rfl, rfl⟩
theorem quiet_bin {op : BinOp} {x y : Operand} (t s : TypeId) (hm : P.eqGuardType P.depth t = false) (xs ys : Array Value) (b : Bool) (hx : a.eval x = .agg xs) (hy : a.eval y = .agg ys) (hb : ∀ w, (binOp op t (.agg xs) (.agg ys)).run P w = .ok (.bool b) w)
    (h : K (a.put d (.bool b))) :
    ({ dst := d, op := .binOp op t x y s, type := ty, pos := ps, after := af, guard := gd } : Oper).quiet P a C K := by
  refine ⟨.bool b, fun w hw => ?_, h⟩
  unfold Oper.quietAt execOp
  simp only [hx, hy, Sem.run_bind, run_eqGuard_agg (P := P) w op t x y xs ys hm, hb, Result.andThen_ok, Sem.run_pure]
  exact ⟨rfl, rfl⟩
end
end Mem
end Go.Proofs.Ytfafehffnjbhnaa
