/- What came in: writes, queries, vectors, texts; is it much. No conditions. -/
import Derived.Test.YtfafehffnjbhnaaTy
namespace Go.Proofs.Ytfafehffnjbhnaa
open Go.ChangeShapes Go.WideShapes Go.ChangeAt Go.RowKit
set_option linter.unusedVariables false
set_option linter.unusedSimpArgs false

namespace Vec
structure EntIn (e : Ent) : Prop where
  ks : e.key.size ≤ 140737488351232
  vs : e.val.size ≤ 140737488351232
end Vec
theorem len3 {α : Type} {l : List α} (h : l.length = 3) : ∃ a b c, l = [a, b, c] := by
  match l, h with
  | [a, b, c], _ => exact ⟨a, b, c, rfl⟩
theorem len9 {α : Type} {l : List α} (h : l.length = 9) : ∃ a b c d e f g i j, l = [a, b, c, d, e, f, g, i, j] := by
  match l, h with
  | [a, b, c, d, e, f, g, i, j], _ => exact ⟨a, b, c, d, e, f, g, i, j, rfl⟩
theorem cut3 {α : Type} (l : List α) (a b : Nat) (h : a + b ≤ l.length) : ((l.drop a).take b).length = b := by
  rw [List.length_take, List.length_drop]; omega
section
variable {H : Type} {enc : TypeId × Value → H} {W : World}
theorem arr1 {P : Program} {t e : TypeId} {n fuel : Nat} {cs : List Value} {x : DataW H × List MemPlace} (ht : P.underlying t = some (.array n e)) (h : DataW.trod enc P W 0 (fun _ => true) true fuel t cs = some x) {i : Nat} (hi : i < n) :
    ∃ (m : Nat) (y : DataW H × List MemPlace), DataW.trod enc P W 0 (fun _ => true) true m e ((cs.drop (i * P.cellsOf e)).take (P.cellsOf e)) = some y := by
  obtain ⟨xs, m, _, _, _, hl, hg⟩ := DataW.trod_array ht h
  exact ⟨m, xs[i]'(by omega), by rw [hg i hi, List.getElem?_eq_getElem (by omega)]⟩
theorem dec_arr {t : TypeId} (hu : Try.prog.underlying t = some (.array 3 3)) {n : Nat} {cs : List Value} {x : DataW H × List MemPlace} (h : DataW.trod enc Try.prog W 0 (fun _ => true) true n t cs = some x) (hl : cs.length = 3) : ∃ c : Vec.Col, cs = Vec.colCells c := by
  obtain ⟨m0, y0, e0⟩ := arr1 hu h (i := 0) (by omega)
  obtain ⟨m1, y1, e1⟩ := arr1 hu h (i := 1) (by omega)
  obtain ⟨m2, y2, e2⟩ := arr1 hu h (i := 2) (by omega)
  obtain ⟨a0, q0, _⟩ := DataW.trod_int Try.underlying3 e0
  obtain ⟨a1, q1, _⟩ := DataW.trod_int Try.underlying3 e1
  obtain ⟨a2, q2, _⟩ := DataW.trod_int Try.underlying3 e2
  have k1 : Try.prog.cellsOf 3 = 1 := by kernel_rfl
  obtain ⟨x0, x1, x2, rfl⟩ := len3 hl
  rw [k1] at q0 q1 q2
  simp at q0 q1 q2
  exact ⟨⟨a0, a1, a2⟩, by rw [q0, q1, q2]⟩
set_option maxRecDepth 20000 in
theorem dec_vec {n : Nat} {cs : List Value} {x : DataW H × List MemPlace} (h : DataW.trod enc Try.prog W 0 (fun _ => true) true n 38 cs = some x) (hl : cs.length = 9) : ∃ v : Vec.Vc, cs = Vec.vcCells v := by
  have k3 : Try.prog.cellsOf 25 = 3 := by kernel_rfl
  obtain ⟨m0, y0, e0⟩ := arr1 Try.underlying38 h (i := 0) (by omega)
  obtain ⟨m1, y1, e1⟩ := arr1 Try.underlying38 h (i := 1) (by omega)
  obtain ⟨m2, y2, e2⟩ := arr1 Try.underlying38 h (i := 2) (by omega)
  rw [k3] at e0 e1 e2
  obtain ⟨x0, x1, x2, x3, x4, x5, x6, x7, x8, rfl⟩ := len9 hl
  · obtain ⟨c0, q0⟩ := dec_arr Try.underlying25 e0 (by simp)
    obtain ⟨c1, q1⟩ := dec_arr Try.underlying25 e1 (by simp)
    obtain ⟨c2, q2⟩ := dec_arr Try.underlying25 e2 (by simp)
    simp at q0 q1 q2
    obtain ⟨r0, r1, r2⟩ := q0
    obtain ⟨r3, r4, r5⟩ := q1
    obtain ⟨r6, r7, r8⟩ := q2
    subst r0 r1 r2 r3 r4 r5 r6 r7 r8
    exact ⟨⟨c0, c1, c2⟩, rfl⟩
theorem dec_three {t : TypeId} {fs : Array Field} (hu : Try.prog.underlying t = some (.struct fs)) {f0 f1 f2 : Field} (h0 : fs[0]? = some f0) (h1 : fs[1]? = some f1) (h2 : fs[2]? = some f2) (t0 : f0.type = 3) (t1 : f1.type = 3) (t2 : f2.type = 3) (o0 : f0.offset = 0) (o1 : f1.offset = 1) (o2 : f2.offset = 2)
    {n : Nat} {cs : List Value} {x : DataW H × List MemPlace} (h : DataW.trod enc Try.prog W 0 (fun _ => true) true n t cs = some x) (hl : cs.length = 3) : ∃ a b c : Int, cs = [.int .i64 a, .int .i64 b, .int .i64 c] := by
  obtain ⟨m0, y0, e0⟩ := Mem.field1 hu h 0 _ h0
  obtain ⟨m1, y1, e1⟩ := Mem.field1 hu h 1 _ h1
  obtain ⟨m2, y2, e2⟩ := Mem.field1 hu h 2 _ h2
  rw [t0, o0] at e0
  rw [t1, o1] at e1
  rw [t2, o2] at e2
  obtain ⟨a0, q0, _⟩ := DataW.trod_int Try.underlying3 e0
  obtain ⟨a1, q1, _⟩ := DataW.trod_int Try.underlying3 e1
  obtain ⟨a2, q2, _⟩ := DataW.trod_int Try.underlying3 e2
  have k1 : Try.prog.cellsOf 3 = 1 := by kernel_rfl
  obtain ⟨x0, x1, x2, rfl⟩ := len3 hl
  rw [k1] at q0 q1 q2
  simp at q0 q1 q2
  exact ⟨a0, a1, a2, by rw [q0, q1, q2]⟩
theorem dec_ent {n : Nat} {cs : List Value} {x : DataW H × List MemPlace} (h : DataW.trod enc Try.prog W 0 (fun _ => true) true n 40 cs = some x) (hl : cs.length = 20) (hz : Mem.Sz Try.prog 40 x.1) : ∃ e : Vec.Ent, cs = Vec.entCells e ∧ Vec.EntIn e := by
  obtain ⟨m0, y0, e0, _⟩ := Mem.field1_sz Try.underlying40 h hz 0 _ rfl
  obtain ⟨m1, y1, e1, _⟩ := Mem.field1_sz Try.underlying40 h hz 1 _ rfl
  obtain ⟨m2, y2, e2, z2⟩ := Mem.field1_sz Try.underlying40 h hz 2 _ rfl
  obtain ⟨m3, y3, e3, z3⟩ := Mem.field1_sz Try.underlying40 h hz 3 _ rfl
  obtain ⟨m4, y4, e4, _⟩ := Mem.field1_sz Try.underlying40 h hz 4 _ rfl
  obtain ⟨m5, y5, e5, _⟩ := Mem.field1_sz Try.underlying40 h hz 5 _ rfl
  obtain ⟨m6, y6, e6, _⟩ := Mem.field1_sz Try.underlying40 h hz 6 _ rfl
  obtain ⟨m7, y7, e7, _⟩ := Mem.field1_sz Try.underlying40 h hz 7 _ rfl
  have kd : Try.prog.cellsOf 34 = 3 := by kernel_rfl
  have ks : Try.prog.cellsOf 36 = 3 := by kernel_rfl
  have kt : Try.prog.cellsOf 9 = 1 := by kernel_rfl
  have kb : Try.prog.cellsOf 4 = 1 := by kernel_rfl
  have kv : Try.prog.cellsOf 38 = 9 := by kernel_rfl
  have k1 : Try.prog.cellsOf 3 = 1 := by kernel_rfl
  change DataW.trod enc Try.prog W 0 (fun _ => true) true m0 34 ((cs.drop 0).take (Try.prog.cellsOf 34)) = some y0 at e0
  rw [kd] at e0
  change DataW.trod enc Try.prog W 0 (fun _ => true) true m1 36 ((cs.drop 3).take (Try.prog.cellsOf 36)) = some y1 at e1
  rw [ks] at e1
  change DataW.trod enc Try.prog W 0 (fun _ => true) true m2 9 ((cs.drop 6).take (Try.prog.cellsOf 9)) = some y2 at e2
  rw [kt] at e2
  change DataW.trod enc Try.prog W 0 (fun _ => true) true m3 9 ((cs.drop 7).take (Try.prog.cellsOf 9)) = some y3 at e3
  rw [kt] at e3
  change DataW.trod enc Try.prog W 0 (fun _ => true) true m4 4 ((cs.drop 8).take (Try.prog.cellsOf 4)) = some y4 at e4
  rw [kb] at e4
  change DataW.trod enc Try.prog W 0 (fun _ => true) true m5 38 ((cs.drop 9).take (Try.prog.cellsOf 38)) = some y5 at e5
  rw [kv] at e5
  change DataW.trod enc Try.prog W 0 (fun _ => true) true m6 3 ((cs.drop 18).take (Try.prog.cellsOf 3)) = some y6 at e6
  rw [k1] at e6
  change DataW.trod enc Try.prog W 0 (fun _ => true) true m7 3 ((cs.drop 19).take (Try.prog.cellsOf 3)) = some y7 at e7
  rw [k1] at e7
  obtain ⟨a0, a1, a2, q0⟩ := dec_three Try.underlying34 rfl rfl rfl rfl rfl rfl rfl rfl rfl e0 (cut3 _ _ _ (by omega))
  obtain ⟨a3, a4, a5, q1⟩ := dec_three Try.underlying36 rfl rfl rfl rfl rfl rfl rfl rfl rfl e1 (cut3 _ _ _ (by omega))
  obtain ⟨a6, q2, r2, _⟩ := DataW.trod_string Try.underlying9 e2
  obtain ⟨a7, q3, r3, _⟩ := DataW.trod_string Try.underlying9 e3
  obtain ⟨a8, q4, _⟩ := DataW.trod_bool Try.underlying4 e4
  obtain ⟨a9, q5⟩ := dec_vec e5 (cut3 _ _ _ (by omega))
  obtain ⟨a10, q6, _⟩ := DataW.trod_int Try.underlying3 e6
  obtain ⟨a11, q7, _⟩ := DataW.trod_int Try.underlying3 e7
  unfold Mem.Sz at z2 z3
  rw [r2] at z2
  rw [r3] at z3
  have z2 : a6.size ≤ reachBytes := by simpa [DataW.weights] using z2
  have z3 : a7.size ≤ reachBytes := by simpa [DataW.weights] using z3
  unfold reachBytes at z2 z3
  refine ⟨⟨a0, a1, a2, ⟨a3, a4, a5⟩, a6, a7, a8, a9, a10, a11⟩, ?_, ⟨z2, z3⟩⟩
  clear e0 e1 e2 e3 e4 e5 e6 e7 r2 r3 z2 z3 h hz kd ks kt kb kv k1
  have hd : cs = (cs.drop 0).take 3 ++ ((cs.drop 3).take 3 ++ ((cs.drop 6).take 1 ++ ((cs.drop 7).take 1 ++ ((cs.drop 8).take 1 ++ ((cs.drop 9).take 9 ++ ((cs.drop 18).take 1 ++ (cs.drop 19).take 1)))))) := by
    have h1 : ∀ a b : Nat, cs.drop a = (cs.drop a).take b ++ cs.drop (a + b) := fun a b => by rw [← List.drop_drop, List.take_append_drop]
    conv => lhs; rw [← List.drop_zero (l := cs), h1 0 3, h1 3 3, h1 6 1, h1 7 1, h1 8 1, h1 9 9, h1 18 1, h1 19 1, List.drop_eq_nil_of_le (show cs.length ≤ 19 + 1 by omega), List.append_nil]
  rw [hd, q0, q1, q2, q3, q4, q5, q6, q7]
  rfl
set_option maxRecDepth 20000 in
theorem open_ents {base : Nat} {v : Value} {d : DataW H} {p : List MemPlace} (o : Value.okWide Try.prog W .any base 22 v) (k : DataW.Trod enc Try.prog W 0 (fun _ => true) true 22 v d p) (hz : (d.weights Try.prog 22).all (· ≤ reachBytes) = true) :
    ∃ A c, ∃ es : List Vec.Ent, v = .slice A es.length c ∧ es.length ≤ c ∧ c ≤ 8796093022208 ∧ Mem.Rd W W.heap.size A (es.flatMap Vec.entCells) ∧ ∀ e ∈ es, Vec.EntIn e := by
  obtain ⟨A, c, l, h1, h2, h3, h4, h5, _⟩ := Mem.open_slice_sz (α := Vec.Ent) (sz := 20) Try.underlying22 (by kernel_rfl) (by omega) Vec.entCells Vec.entCells_length Vec.EntIn (fun n cs x h hl hz => dec_ent h hl hz) o k hz
  have kb : Try.prog.bytesOf 40 = 176 := by kernel_rfl
  rw [kb] at h3
  unfold reachBytes at h3
  exact ⟨A, c, l, h1, h2, by omega, h4, h5⟩
theorem agg_struct {P : Program} {base : Nat} {t : TypeId} {fs : Array Field} {v : Value} (hu : P.underlying t = some (.struct fs)) (o : Value.okWide P W .any base t v) : ∃ cs : List Value, v = .agg cs.toArray ∧ cs.length = P.cellsOf t := by
  simp only [Value.okWide, hu] at o
  obtain ⟨cs, h1, h2, _⟩ := o
  exact ⟨cs.toList, by rw [h1], by rw [← h2]; simp⟩
theorem agg_array {P : Program} {base : Nat} {t e : TypeId} {n : Nat} {v : Value} (hu : P.underlying t = some (.array n e)) (o : Value.okWide P W .any base t v) : ∃ cs : List Value, v = .agg cs.toArray ∧ cs.length = P.cellsOf t := by
  simp only [Value.okWide, hu] at o
  obtain ⟨cs, h1, h2, _⟩ := o
  exact ⟨cs.toList, by rw [h1], by rw [← h2]; simp⟩
set_option maxRecDepth 20000 in
theorem open_vec {base : Nat} {v : Value} {d : DataW H} {p : List MemPlace} (o : Value.okWide Try.prog W .any base 38 v) (k : DataW.Trod enc Try.prog W 0 (fun _ => true) true 38 v d p) : ∃ x : Vec.Vc, v = .agg (Vec.vcCells x).toArray := by
  obtain ⟨cs, rfl, hl⟩ := agg_array Try.underlying38 o
  obtain ⟨m, hm⟩ := k
  obtain ⟨x, hx⟩ := dec_vec (x := (d, p)) hm (by rw [show (Value.agg cs.toArray).cells.toList = cs by simp [Value.cells], hl]; kernel_rfl)
  exact ⟨x, by rw [← hx]; simp [Value.cells]⟩
set_option maxRecDepth 20000 in
theorem open_text {base : Nat} {v : Value} {d : DataW H} {p : List MemPlace} (o : Value.okWide Try.prog W .any base 9 v) (k : DataW.Trod enc Try.prog W 0 (fun _ => true) true 9 v d p) (hz : (d.weights Try.prog 9).all (· ≤ reachBytes) = true) :
    ∃ s : ByteArray, v = .string s ∧ s.size ≤ 140737488351232 := by
  obtain ⟨s, rfl⟩ := okWide_string Try.underlying9 o
  obtain ⟨m, h⟩ := k
  obtain ⟨s', h1, h2, _⟩ := DataW.trod_string Try.underlying9 h
  simp [Value.cells] at h1
  subst h1
  rw [Prod.mk.injEq] at h2
  rw [h2.1] at hz
  have hz : s.size ≤ reachBytes := by simpa [DataW.weights] using hz
  unfold reachBytes at hz
  exact ⟨s, rfl, hz⟩
set_option maxRecDepth 20000 in
theorem open_num {base : Nat} {v : Value} {d : DataW H} {p : List MemPlace} (o : Value.okWide Try.prog W .any base 3 v) (k : DataW.Trod enc Try.prog W 0 (fun _ => true) true 3 v d p) :
    ∃ n : Int, v = .int .i64 n ∧ -9223372036854775808 ≤ n ∧ n ≤ 9223372036854775807 := by
  obtain ⟨n, rfl⟩ := okWide_int Try.underlying3 o
  obtain ⟨m, h⟩ := k
  obtain ⟨n', h1, h2, w0⟩ := DataW.trod_int Try.underlying3 h
  simp [Value.cells] at h1
  subst h1
  have hb := bounds_i64 w0
  exact ⟨n, rfl, hb.1, hb.2⟩
end
end Go.Proofs.Ytfafehffnjbhnaa
