/- What came in: writes, queries, vectors, texts; is it much. No conditions. -/
import Derived.Test.YtiibgkgbghganaaSv3
import Derived.Test.YtiibgkgbghganaaTyOpen
namespace Go.Proofs.Ytiibgkgbghganaa
open Go.ChangeShapes Go.WideShapes Go.ChangeAt Go.RowKit
set_option linter.unusedVariables false
set_option linter.unusedSimpArgs false

namespace Vec
end Vec
section
variable {H : Type} {enc : TypeId × Value → H} {W : World}
set_option maxRecDepth 20000 in
theorem open_query {base : Nat} {v : Value} {d : DataW H} {p : List MemPlace} (o : Value.okWide Try.prog W .any base 39 v) (k : DataW.Trod enc Try.prog W 0 (fun _ => true) true 39 v d p) (hz : (d.weights Try.prog 39).all (· ≤ reachBytes) = true) :
    ∃ q : Vec.Qy, v = .agg (Vec.qyCells q).toArray ∧ q.key.size ≤ 140737488351232 := by
  obtain ⟨cs, rfl, hl⟩ := agg_struct Try.underlying39 o
  have kq : Try.prog.cellsOf 39 = 23 := by kernel_rfl
  rw [kq] at hl
  obtain ⟨m, h⟩ := k
  rw [show (Value.agg cs.toArray).cells.toList = cs by simp [Value.cells]] at h
  have hz : Mem.Sz Try.prog 39 (d, p).1 := hz
  obtain ⟨m0, y0, e0, z0⟩ := Mem.field1_sz Try.underlying39 h hz 0 _ rfl
  obtain ⟨m1, y1, e1, z1⟩ := Mem.field1_sz Try.underlying39 h hz 1 _ rfl
  obtain ⟨m2, y2, e2, z2⟩ := Mem.field1_sz Try.underlying39 h hz 2 _ rfl
  obtain ⟨m3, y3, e3, z3⟩ := Mem.field1_sz Try.underlying39 h hz 3 _ rfl
  obtain ⟨m4, y4, e4, z4⟩ := Mem.field1_sz Try.underlying39 h hz 4 _ rfl
  have kt : Try.prog.cellsOf 9 = 1 := by kernel_rfl
  have kb : Try.prog.cellsOf 4 = 1 := by kernel_rfl
  have kv : Try.prog.cellsOf 31 = 9 := by kernel_rfl
  have kc : Try.prog.cellsOf 37 = 3 := by kernel_rfl
  change DataW.trod enc Try.prog W 0 (fun _ => true) true m0 9 ((cs.drop 0).take (Try.prog.cellsOf 9)) = some y0 at e0
  rw [kt] at e0
  change DataW.trod enc Try.prog W 0 (fun _ => true) true m1 31 ((cs.drop 1).take (Try.prog.cellsOf 31)) = some y1 at e1
  rw [kv] at e1
  change DataW.trod enc Try.prog W 0 (fun _ => true) true m2 4 ((cs.drop 10).take (Try.prog.cellsOf 4)) = some y2 at e2
  rw [kb] at e2
  change DataW.trod enc Try.prog W 0 (fun _ => true) true m3 31 ((cs.drop 11).take (Try.prog.cellsOf 31)) = some y3 at e3
  rw [kv] at e3
  change DataW.trod enc Try.prog W 0 (fun _ => true) true m4 37 ((cs.drop 20).take (Try.prog.cellsOf 37)) = some y4 at e4
  rw [kc] at e4
  obtain ⟨a0, q0, r0, _⟩ := DataW.trod_string Try.underlying9 e0
  obtain ⟨a1, q1⟩ := dec_vec e1 (cut3 _ _ _ (by omega))
  obtain ⟨a2, q2, _⟩ := DataW.trod_bool Try.underlying4 e2
  obtain ⟨a3, q3⟩ := dec_vec e3 (cut3 _ _ _ (by omega))
  obtain ⟨a4, q4⟩ := dec_arr Try.underlying37 e4 (cut3 _ _ _ (by omega))
  unfold Mem.Sz at z0
  rw [r0] at z0
  have z0 : a0.size ≤ reachBytes := by simpa [DataW.weights] using z0
  unfold reachBytes at z0
  refine ⟨⟨a0, a1, a2, a3, a4⟩, ?_, z0⟩
  clear e0 e1 e2 e3 e4 r0 z0 h hz kt kb kv kc kq
  have hd : cs = (cs.drop 0).take 1 ++ ((cs.drop 1).take 9 ++ ((cs.drop 10).take 1 ++ ((cs.drop 11).take 9 ++ (cs.drop 20).take 3))) := by
    have h1 : ∀ a b : Nat, cs.drop a = (cs.drop a).take b ++ cs.drop (a + b) := fun a b => by rw [← List.drop_drop, List.take_append_drop]
    conv => lhs; rw [← List.drop_zero (l := cs), h1 0 1, h1 1 9, h1 10 1, h1 11 9, h1 20 3, List.drop_eq_nil_of_le (show cs.length ≤ 20 + 3 by omega), List.append_nil]
  rw [hd, q0, q1, q2, q3, q4]
  rfl
end
end Go.Proofs.Ytiibgkgbghganaa
