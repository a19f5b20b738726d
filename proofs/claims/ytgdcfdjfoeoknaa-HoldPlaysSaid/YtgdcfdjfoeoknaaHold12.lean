/- What came in: a script of acts. No conditions. -/
import Derived.Test.YtgdcfdjfoeoknaaHold11
namespace Go.Proofs.Ytgdcfdjfoeoknaa
open Go.ChangeShapes Go.WideShapes Go.ChangeAt Go.RowKit
set_option linter.unusedVariables false
set_option linter.unusedSimpArgs false
section
variable {H : Type} {enc : TypeId × Value → H} {W : World}
open Vec
set_option maxRecDepth 20000 in
theorem dec_act {n : Nat} {cs : List Value} {x : DataW H × List MemPlace} (h : DataW.trod enc Try.prog W 0 (fun _ => true) true n 44 cs = some x) (hl : cs.length = 11) (hz : Mem.Sz Try.prog 44 x.1) : ∃ a : Vec.Ac, cs = Vec.acCells a ∧ (AcOk W W.heap.size a ∧ In64 a.vec) := by
  obtain ⟨m0, y0, e0, _⟩ := Mem.field1_sz Try.underlying44 h hz 0 _ rfl
  obtain ⟨m1, y1, e1, z1⟩ := Mem.field1_sz Try.underlying44 h hz 1 _ rfl
  obtain ⟨m2, y2, e2, _⟩ := Mem.field1_sz Try.underlying44 h hz 2 _ rfl
  have k1 : Try.prog.cellsOf 3 = 1 := by kernel_rfl
  have k2 : Try.prog.cellsOf 24 = 1 := by kernel_rfl
  have k3 : Try.prog.cellsOf 27 = 9 := by kernel_rfl
  have kb : Try.prog.bytesOf 33 = 176 := by kernel_rfl
  change DataW.trod enc Try.prog W 0 (fun _ => true) true m0 3 ((cs.drop 0).take (Try.prog.cellsOf 3)) = some y0 at e0
  change DataW.trod enc Try.prog W 0 (fun _ => true) true m1 24 ((cs.drop 1).take (Try.prog.cellsOf 24)) = some y1 at e1
  change DataW.trod enc Try.prog W 0 (fun _ => true) true m2 27 ((cs.drop 2).take (Try.prog.cellsOf 27)) = some y2 at e2
  rw [k1] at e0
  rw [k2] at e1
  rw [k3] at e2
  obtain ⟨a0, q0, _⟩ := DataW.trod_int Try.underlying3 e0
  obtain ⟨A, c, l, q1, d1, d2, d3, d4, _⟩ := Mem.trod_slice_sz (α := Vec.Ent) (sz := 20) Try.underlying24 (by kernel_rfl) (by omega) Vec.entCells Vec.entCells_length Vec.EntIn (fun n cs x h hl hz => dec_ent h hl hz) e1 z1
  obtain ⟨v, q2, hv⟩ := dec_vec_in e2 (cut3 _ _ _ (by omega))
  rw [kb] at d2
  unfold reachBytes at d2
  refine ⟨⟨a0, A, c, l, v⟩, ?_, ⟨d3, d1, by show c ≤ _; omega, d4⟩, hv⟩
  have hd : cs = (cs.drop 0).take 1 ++ ((cs.drop 1).take 1 ++ (cs.drop 2).take 9) := by
    have h1 : ∀ a b : Nat, cs.drop a = (cs.drop a).take b ++ cs.drop (a + b) := fun a b => by rw [← List.drop_drop, List.take_append_drop]
    conv => lhs; rw [← List.drop_zero (l := cs), h1 0 1, h1 1 1, h1 2 9, List.drop_eq_nil_of_le (show cs.length ≤ 2 + 9 by omega), List.append_nil]
  rw [hd, q0, q1, q2]
  rfl
theorem open_acts {base : Nat} {v : Value} {d : DataW H} {p : List MemPlace} (o : Value.okWide Try.prog W .any base 45 v) (k : DataW.Trod enc Try.prog W 0 (fun _ => true) true 45 v d p) (hz : (d.weights Try.prog 45).all (· ≤ reachBytes) = true) :
    ∃ A c, ∃ acs : List Vec.Ac, v = .slice A acs.length c ∧ acs.length ≤ c ∧ c ≤ 8796093022208 ∧ Mem.Rd W W.heap.size A (acs.flatMap Vec.acCells) ∧ ∀ a ∈ acs, AcOk W W.heap.size a ∧ In64 a.vec := by
  obtain ⟨A, c, l, h1, h2, h3, h4, h5, _⟩ := Mem.open_slice_sz (α := Vec.Ac) (sz := 11) Try.underlying45 (by kernel_rfl) (by omega) Vec.acCells Vec.acCells_length (fun a => AcOk W W.heap.size a ∧ In64 a.vec) (fun n cs x h hl hz => dec_act h hl hz) o k hz
  have kb : Try.prog.bytesOf 44 = 104 := by kernel_rfl
  rw [kb] at h3
  unfold reachBytes at h3
  exact ⟨A, c, l, h1, h2, by omega, h4, h5⟩
end
end Go.Proofs.Ytgdcfdjfoeoknaa
