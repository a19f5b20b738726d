/- Long records; the box of a message; a struct compared by a guarded operation. Plain lemmas. -/
import Derived.Test.YtkfgedgjpgehoaaWire22
import Derived.Test.YtkfgedgjpgehoaaWire21
namespace Go.Proofs.Ytkfgedgjpgehoaa
open Go.ChangeShapes Go.WideShapes Go.ChangeAt Go.RowKit
set_option linter.unusedVariables false
set_option linter.unusedSimpArgs false
set_option maxRecDepth 100000
namespace Wi
theorem kd_strR : ∀ k, k < 35 → recK[k]? = some .s → k = 7 ∨ k = 8 := by decide +kernel
/-- is a record long -/
def longR (xs : List Value) : Bool := decide (100000 < strN xs 7 + strN xs 8)
theorem fedR_of {xs : List Value} (h : MsgIn recK xs) (hl : longR xs = false) : Fed recK xs := by
  obtain ⟨s7, e7, z7⟩ := h.str (k := 7) rfl
  obtain ⟨s8, e8, z8⟩ := h.str (k := 8) rfl
  have hle : ¬ 100000 < strN xs 7 + strN xs 8 := by unfold longR at hl; simpa using hl
  rw [strN_of e7, strN_of e8] at hle
  refine ⟨h.ok, fun k s hk => ?_⟩
  have hlt := (List.getElem?_eq_some_iff.1 hk).1
  rw [h.ok.len] at hlt
  rcases kd_strR k hlt (ok_str_at h.ok hk) with rfl | rfl
  · rw [e7] at hk; cases hk; omega
  · rw [e8] at hk; cases hk; omega
/-- what is wanted of a record at the test whether it is long -/
structure LongR (xs : List Value) (b : Bool) (s7 s8 : ByteArray) : Prop where
  e7 : xs[7]? = some (.string s7)
  e8 : xs[8]? = some (.string s8)
  d : decide ((100000 : Int) < (s7.size : Int) + (s8.size : Int)) = b
  z : s7.size ≤ 140737488351232 ∧ s8.size ≤ 140737488351232
theorem longR_of {xs : List Value} {b : Bool} (h : MsgIn recK xs) (hb : longR xs = b) : ∃ s7 s8, LongR xs b s7 s8 := by
  obtain ⟨s7, e7, z7⟩ := h.str (k := 7) rfl
  obtain ⟨s8, e8, z8⟩ := h.str (k := 8) rfl
  refine ⟨s7, s8, e7, e8, ?_, z7, z8⟩
  rw [← hb]; unfold longR
  rw [strN_of e7, strN_of e8]
  by_cases h9 : 100000 < s7.size + s8.size
  · rw [decide_eq_true h9]; simp; omega
  · rw [decide_eq_false h9]; simp; omega
end Wi
namespace Mem
section
variable {P : Program} {w : World} {ops : Array Oper} {rest : List Oper} {a : Act} {Q : Exit → Act → World → Prop} {d : Option Tmp} {ty : TypeId} {ps : String} {af : Array Edge}
theorem wpList_binG {op : BinOp} {x y : Operand} {gd : Option (Nat × Bool)} (t s : TypeId) (hw : Region.wanted { dst := d, op := .binOp op t x y s, type := ty, pos := ps, after := af, guard := gd } (yielded ops a.tmps) = true) (hm : P.eqGuardType P.depth t = false) (xs ys : Array Value) (b : Bool) (hx : a.eval x = .agg xs) (hy : a.eval y = .agg ys) (hb : ∀ w, (binOp op t (.agg xs) (.agg ys)).run P w = .ok (.bool b) w)
    (h : wpList P ops Q rest (a.put d (.bool b)) w) :
    wpList P ops Q ({ dst := d, op := .binOp op t x y s, type := ty, pos := ps, after := af, guard := gd } :: rest) a w := by
  unfold wpList
  rw [if_pos hw]
  refine .inl ?_
  unfold Oper.wp execOp
  simp only [hx, hy, Sem.run_bind, run_eqGuard_agg (P := P) w op t x y xs ys hm, hb, Result.andThen_ok, Sem.run_pure]
  exact h
end
end Mem
theorem msgBox_new (w : World) : Mem.Bx (w.alloc (.cells Try.zeroCells55 55)) 55 74 w.heap.size Wi.zeroM := by
  rw [msg_zero]; exact Mem.Bx.new w _ Wi.zeroM.toArray rfl rfl
end Go.Proofs.Ytkfgedgjpgehoaa
