/- Comparisons of columns, vectors, writes and answers. Plain lemmas. -/
import Derived.Test.YtfafehffnjbhnaaTy
import Derived.ChangeKeysEq
namespace Go.Proofs.Ytfafehffnjbhnaa
open Go.ChangeShapes Go.WideShapes Go.ChangeAt Go.RowKit
set_option linter.unusedVariables false
set_option linter.unusedSimpArgs false

namespace Vec
def eqCol (x y : Col) : Bool := x.a == y.a && (x.b == y.b && x.c == y.c)
def eqVc (x y : Vc) : Bool := eqCol x.a y.a && (eqCol x.b y.b && eqCol x.c y.c)
theorem eqCol_iff {x y : Col} : eqCol x y = true ↔ x = y := by
  cases x; cases y; unfold eqCol; simp
theorem eqVc_iff {x y : Vc} : eqVc x y = true ↔ x = y := by
  cases x; cases y; unfold eqVc; simp [eqCol_iff]
end Vec
theorem info_some {P : Program} {t : TypeId} (h : (P.info? t).isSome = true) : ∃ i, P.info? t = some i := Option.isSome_iff_exists.1 h
theorem eqIn_arr (t : TypeId) (hu : Try.prog.underlying t = some (.array 3 3)) (d : Nat) (x y : Vec.Col) (w : World) :
    (Op.equalIn (d + 2) t (Vec.C x) (Vec.C y)).run Try.prog w = .ok (Vec.eqCol x y) w := by
  obtain ⟨i, hi⟩ := info_some (P := Try.prog) (t := 3) (by kernel_rfl)
  have k1 : Try.prog.cellsOf 3 = 1 := by kernel_rfl
  rw [run_equalIn_array w (d + 1) _ _ hu hi, k1]
  unfold Vec.eqCol
  simp [List.range, List.range.loop, Op.eqItems, part, go_sem]
  by_cases h1 : x.a = y.a <;> by_cases h2 : x.b = y.b <;> by_cases h3 : x.c = y.c <;> simp [h1, h2, h3]
theorem eqIn_vec (t e : TypeId) (hu : Try.prog.underlying t = some (.array 3 e)) (he : Try.prog.underlying e = some (.array 3 3)) (hs : Try.prog.cellsOf e = 3) (hz : (Try.prog.info? e).map (·.size) = some 3) (d : Nat) (x y : Vec.Vc) (w : World) :
    (Op.equalIn (d + 3) t (Vec.V x) (Vec.V y)).run Try.prog w = .ok (Vec.eqVc x y) w := by
  obtain ⟨i, hi⟩ : ∃ i, Try.prog.info? e = some i := by
    cases h : Try.prog.info? e with
    | none => rw [h] at hz; cases hz
    | some i => exact ⟨i, rfl⟩
  have hA : Mem.Agg Try.prog e 3 := Mem.agg_of he rfl hz
  have h0 := fun (x y : Vec.Col) => eqIn_arr e he d x y w
  rw [run_equalIn_array w (d + 2) _ _ hu hi, hs]
  unfold Vec.eqVc
  simp [List.range, List.range.loop, Op.eqItems, part, hA.agg, hA.size]
  rw [h0 x.a y.a]
  cases Vec.eqCol x.a y.a
  · simp
  · simp only [Result.andThen_ok]
    simp
    rw [h0 x.b y.b]
    cases Vec.eqCol x.b y.b
    · simp
    · simp only [Result.andThen_ok]
      simp
      rw [h0 x.c y.c]
      cases Vec.eqCol x.c y.c <;> simp
namespace Vec
def eqEnt (a b : Ent) : Bool := a.dc == b.dc && (a.rng == b.rng && (a.seq == b.seq && (a.st.c == b.st.c && (a.st.d == b.st.d && (a.st.r == b.st.r && (a.key.toList == b.key.toList && (a.val.toList == b.val.toList && (a.dead == b.dead && (eqVc a.deps b.deps && (a.cl == b.cl && (a.op == b.op)))))))))))
theorem toList_inj {a b : ByteArray} (h : a.toList = b.toList) : a = b := by
  rw [ByteArray.toList_eq, ByteArray.toList_eq] at h
  exact bytes_inj h
theorem eqEnt_iff {a b : Ent} : eqEnt a b = true ↔ a = b := by
  refine ⟨fun h => ?_, fun h => ?_⟩
  · obtain ⟨a0, a1, a2, ⟨a3, a4, a5⟩, a6, a7, a8, a9, a10, a11⟩ := a
    obtain ⟨b0, b1, b2, ⟨b3, b4, b5⟩, b6, b7, b8, b9, b10, b11⟩ := b
    unfold eqEnt at h
    simp only [Bool.and_eq_true, beq_iff_eq, eqVc_iff] at h
    obtain ⟨h0, h1, h2, h3, h4, h5, h6, h7, h8, h9, h10, h11⟩ := h
    subst h0 h1 h2 h3 h4 h5 h8 h9 h10 h11
    rw [toList_inj h6, toList_inj h7]
  · subst h
    unfold eqEnt
    simp [eqVc_iff]
end Vec
set_option maxHeartbeats 2000000 in
theorem eqIn_ent (d : Nat) (a b : Vec.Ent) (w : World) :
    (Op.equalIn (d + 4) 40 (.agg (Vec.entCells a).toArray) (.agg (Vec.entCells b).toArray)).run Try.prog w = .ok (Vec.eqEnt a b) w := by
  have hv := eqIn_vec 38 25 Try.underlying38 Try.underlying25 (by kernel_rfl) (by kernel_rfl) d a.deps b.deps w
  unfold Vec.entCells Vec.eqEnt
  simp [go_sem, hv]
  by_cases h0 : a.dc = b.dc
  case neg => simp [h0]
  by_cases h1 : a.rng = b.rng
  case neg => simp [h0, h1]
  by_cases h2 : a.seq = b.seq
  case neg => simp [h0, h1, h2]
  by_cases h3 : a.st.c = b.st.c
  case neg => simp [h0, h1, h2, h3]
  by_cases h4 : a.st.d = b.st.d
  case neg => simp [h0, h1, h2, h3, h4]
  by_cases h5 : a.st.r = b.st.r
  case neg => simp [h0, h1, h2, h3, h4, h5]
  by_cases h6 : a.key.toList = b.key.toList
  case neg => simp [h0, h1, h2, h3, h4, h5, h6]
  by_cases h7 : a.val.toList = b.val.toList
  case neg => simp [h0, h1, h2, h3, h4, h5, h6, h7]
  by_cases h8 : a.dead = b.dead
  case neg => simp [h0, h1, h2, h3, h4, h5, h6, h7, h8]
  by_cases h9 : Vec.eqVc a.deps b.deps = true
  case neg => simp [h0, h1, h2, h3, h4, h5, h6, h7, h8, h9]
  by_cases h10 : a.cl = b.cl
  case neg => simp [h0, h1, h2, h3, h4, h5, h6, h7, h8, h9, h10]
  by_cases h11 : a.op = b.op
  case neg => simp [h0, h1, h2, h3, h4, h5, h6, h7, h8, h9, h10, h11]
  simp [h0, h1, h2, h3, h4, h5, h6, h7, h8, h9, h10, h11]
theorem eql_ent (a b : Vec.Ent) (w : World) : (binOp .eql 40 (.agg (Vec.entCells a).toArray) (.agg (Vec.entCells b).toArray)).run Try.prog w = .ok (.bool (Vec.eqEnt a b)) w := by
  rw [run_eql_struct, eqIn_ent 9996]
  rfl
theorem neq_ent (a b : Vec.Ent) (w : World) : (binOp .neq 40 (.agg (Vec.entCells a).toArray) (.agg (Vec.entCells b).toArray)).run Try.prog w = .ok (.bool (!Vec.eqEnt a b)) w := by
  rw [run_neq_struct, eqIn_ent 9996]
  rfl
end Go.Proofs.Ytfafehffnjbhnaa
