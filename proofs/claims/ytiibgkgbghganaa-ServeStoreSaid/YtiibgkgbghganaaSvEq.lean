/- Comparisons of columns, vectors, writes and answers. Plain lemmas. -/
import Derived.Test.YtiibgkgbghganaaTyEq
import Derived.Test.YtiibgkgbghganaaSv1
import Derived.ChangeKeysEq
namespace Go.Proofs.Ytiibgkgbghganaa
open Go.ChangeShapes Go.WideShapes Go.ChangeAt Go.RowKit
set_option linter.unusedVariables false
set_option linter.unusedSimpArgs false

namespace Vec
end Vec
namespace Vec
end Vec
theorem eql_col (a b : Vec.Col) (w : World) : (binOp .eql 37 (Vec.C a) (Vec.C b)).run Try.prog w = .ok (.bool (Vec.eqCol a b)) w := by
  rw [run_eql_struct, eqIn_arr _ Try.underlying37 9998]
  rfl
namespace Vec
def eqAns (a b : Ans) : Bool := a.code == b.code && (a.has == b.has && (eqEnt a.ent b.ent && eqCol a.col b.col))
theorem eqAns_iff {a b : Ans} : eqAns a b = true ↔ a = b := by
  cases a; cases b; unfold eqAns; simp [eqEnt_iff, eqCol_iff]
end Vec
set_option maxHeartbeats 2000000 in
theorem eqIn_ans (d : Nat) (a b : Vec.Ans) (w : World) :
    (Op.equalIn (d + 5) 42 (.agg (Vec.ansCells a).toArray) (.agg (Vec.ansCells b).toArray)).run Try.prog w = .ok (Vec.eqAns a b) w := by
  have hv := eqIn_vec 31 29 Try.underlying31 Try.underlying29 (by kernel_rfl) (by kernel_rfl) d a.ent.deps b.ent.deps w
  have hc := eqIn_arr 37 Try.underlying37 (d + 2) a.col b.col w
  unfold Vec.ansCells Vec.entCells Vec.eqAns Vec.eqEnt
  simp [go_sem, hv, hc]
  by_cases h0 : a.code = b.code
  case neg => simp [h0]
  by_cases h1 : a.has = b.has
  case neg => simp [h0, h1]
  by_cases h2 : a.ent.dc = b.ent.dc
  case neg => simp [h0, h1, h2]
  by_cases h3 : a.ent.rng = b.ent.rng
  case neg => simp [h0, h1, h2, h3]
  by_cases h4 : a.ent.seq = b.ent.seq
  case neg => simp [h0, h1, h2, h3, h4]
  by_cases h5 : a.ent.st.c = b.ent.st.c
  case neg => simp [h0, h1, h2, h3, h4, h5]
  by_cases h6 : a.ent.st.d = b.ent.st.d
  case neg => simp [h0, h1, h2, h3, h4, h5, h6]
  by_cases h7 : a.ent.st.r = b.ent.st.r
  case neg => simp [h0, h1, h2, h3, h4, h5, h6, h7]
  by_cases h8 : a.ent.key.toList = b.ent.key.toList
  case neg => simp [h0, h1, h2, h3, h4, h5, h6, h7, h8]
  by_cases h9 : a.ent.val.toList = b.ent.val.toList
  case neg => simp [h0, h1, h2, h3, h4, h5, h6, h7, h8, h9]
  by_cases h10 : a.ent.dead = b.ent.dead
  case neg => simp [h0, h1, h2, h3, h4, h5, h6, h7, h8, h9, h10]
  by_cases h11 : Vec.eqVc a.ent.deps b.ent.deps = true
  case neg => simp [h0, h1, h2, h3, h4, h5, h6, h7, h8, h9, h10, h11]
  by_cases h12 : a.ent.cl = b.ent.cl
  case neg => simp [h0, h1, h2, h3, h4, h5, h6, h7, h8, h9, h10, h11, h12]
  by_cases h13 : a.ent.op = b.ent.op
  case neg => simp [h0, h1, h2, h3, h4, h5, h6, h7, h8, h9, h10, h11, h12, h13]
  by_cases h14 : Vec.eqCol a.col b.col = true
  case neg => simp [h0, h1, h2, h3, h4, h5, h6, h7, h8, h9, h10, h11, h12, h13, h14]
  simp [h0, h1, h2, h3, h4, h5, h6, h7, h8, h9, h10, h11, h12, h13, h14]
theorem eql_ans (a b : Vec.Ans) (w : World) : (binOp .eql 42 (.agg (Vec.ansCells a).toArray) (.agg (Vec.ansCells b).toArray)).run Try.prog w = .ok (.bool (Vec.eqAns a b)) w := by
  rw [run_eql_struct, eqIn_ans 9995]
  rfl
end Go.Proofs.Ytiibgkgbghganaa
