/- What came in: histories, opened. No conditions. -/
import Derived.Test.YtelephoalpphkaaAud23
import Derived.Test.YtelephoalpphkaaTyOpen
namespace Go.Proofs.Ytelephoalpphkaa
open Go.ChangeShapes Go.WideShapes Go.ChangeAt Go.RowKit
set_option linter.unusedVariables false
set_option linter.unusedSimpArgs false
namespace Au
/-- an event that came in -/
structure EvIn (W : World) (e : Ev) : Prop where
  ok : EvOk W W.heap.size e
  cl : okI e.cl
  rn : e.res.length ≤ 703687441776
  kn : e.keys.length ≤ 8796093022208
  vs : e.val.size ≤ 140737488351232
  ks : ∀ s ∈ e.keys, s.size ≤ 140737488351232
end Au
section
variable {H : Type} {enc : TypeId × Value → H} {W : World}
open Au
set_option maxRecDepth 20000 in
theorem dec_ask {n : Nat} {cs : List Value} {x : DataW H × List MemPlace} (h : DataW.trod enc Try.prog W 0 (fun _ => true) true n 42 cs = some x) (hl : cs.length = 4) (hz : Mem.Sz Try.prog 42 x.1) :
    ∃ (k : Int) (A : Option Addr) (c : Nat) (keys : List ByteArray) (s : ByteArray) (d : Int), cs = [.int .i64 k, .slice A keys.length c, .string s, .int .i64 d] ∧ Mem.Rd W W.heap.size A (keys.map sv) ∧ keys.length ≤ c ∧ c ≤ 8796093022208 ∧ s.size ≤ 140737488351232 ∧ (∀ y ∈ keys, y.size ≤ 140737488351232) := by
  obtain ⟨m0, y0, e0, _⟩ := Mem.field1_sz Try.underlying42 h hz 0 _ rfl
  obtain ⟨m1, y1, e1, z1⟩ := Mem.field1_sz Try.underlying42 h hz 1 _ rfl
  obtain ⟨m2, y2, e2, z2⟩ := Mem.field1_sz Try.underlying42 h hz 2 _ rfl
  obtain ⟨m3, y3, e3, _⟩ := Mem.field1_sz Try.underlying42 h hz 3 _ rfl
  have k1 : Try.prog.cellsOf 3 = 1 := by kernel_rfl
  have k2 : Try.prog.cellsOf 40 = 1 := by kernel_rfl
  have k3 : Try.prog.cellsOf 9 = 1 := by kernel_rfl
  have kb : Try.prog.bytesOf 9 = 16 := by kernel_rfl
  change DataW.trod enc Try.prog W 0 (fun _ => true) true m0 3 ((cs.drop 0).take (Try.prog.cellsOf 3)) = some y0 at e0
  change DataW.trod enc Try.prog W 0 (fun _ => true) true m1 40 ((cs.drop 1).take (Try.prog.cellsOf 40)) = some y1 at e1
  change DataW.trod enc Try.prog W 0 (fun _ => true) true m2 9 ((cs.drop 2).take (Try.prog.cellsOf 9)) = some y2 at e2
  change DataW.trod enc Try.prog W 0 (fun _ => true) true m3 3 ((cs.drop 3).take (Try.prog.cellsOf 3)) = some y3 at e3
  rw [k1] at e0 e3
  rw [k2] at e1
  rw [k3] at e2
  obtain ⟨a0, q0, _⟩ := DataW.trod_int Try.underlying3 e0
  obtain ⟨A, c, l, q1, d1, d2, d3, d4, _⟩ := Mem.trod_strings_sz Try.underlying40 Try.underlying9 k3 e1 z1
  obtain ⟨a2, q2, r2, _⟩ := DataW.trod_string Try.underlying9 e2
  obtain ⟨a3, q3, _⟩ := DataW.trod_int Try.underlying3 e3
  rw [kb] at d2
  unfold reachBytes at d2 d4
  unfold Mem.Sz at z2
  rw [r2] at z2
  have z2 : a2.size ≤ reachBytes := by simpa [DataW.weights] using z2
  unfold reachBytes at z2
  refine ⟨a0, A, c, l, a2, a3, ?_, d3, d1, by omega, z2, d4⟩
  have hd : cs = (cs.drop 0).take 1 ++ ((cs.drop 1).take 1 ++ ((cs.drop 2).take 1 ++ (cs.drop 3).take 1)) := by
    have h1 : ∀ a b : Nat, cs.drop a = (cs.drop a).take b ++ cs.drop (a + b) := fun a b => by rw [← List.drop_drop, List.take_append_drop]
    conv => lhs; rw [← List.drop_zero (l := cs), h1 0 1, h1 1 1, h1 2 1, h1 3 1, List.drop_eq_nil_of_le (show cs.length ≤ 3 + 1 by omega), List.append_nil]
  rw [hd, q0, q1, q2, q3]
  rfl
set_option maxRecDepth 20000 in
theorem dec_res {n : Nat} {cs : List Value} {x : DataW H × List MemPlace} (h : DataW.trod enc Try.prog W 0 (fun _ => true) true n 48 cs = some x) (hl : cs.length = 22) (hz : Mem.Sz Try.prog 48 x.1) : ∃ r : Rs, cs = rsCells r := by
  obtain ⟨m0, y0, e0, z0⟩ := Mem.field1_sz Try.underlying48 h hz 0 _ rfl
  obtain ⟨m1, y1, e1, _⟩ := Mem.field1_sz Try.underlying48 h hz 1 _ rfl
  obtain ⟨m2, y2, e2, z2⟩ := Mem.field1_sz Try.underlying48 h hz 2 _ rfl
  have k0 : Try.prog.cellsOf 9 = 1 := by kernel_rfl
  have k1 : Try.prog.cellsOf 4 = 1 := by kernel_rfl
  have k2 : Try.prog.cellsOf 35 = 20 := by kernel_rfl
  change DataW.trod enc Try.prog W 0 (fun _ => true) true m0 9 ((cs.drop 0).take (Try.prog.cellsOf 9)) = some y0 at e0
  change DataW.trod enc Try.prog W 0 (fun _ => true) true m1 4 ((cs.drop 1).take (Try.prog.cellsOf 4)) = some y1 at e1
  change DataW.trod enc Try.prog W 0 (fun _ => true) true m2 35 ((cs.drop 2).take (Try.prog.cellsOf 35)) = some y2 at e2
  rw [k0] at e0
  rw [k1] at e1
  rw [k2] at e2
  obtain ⟨a0, q0, _, _⟩ := DataW.trod_string Try.underlying9 e0
  obtain ⟨a1, q1, _⟩ := DataW.trod_bool Try.underlying4 e1
  obtain ⟨a2, q2, _⟩ := dec_ent e2 (cut3 _ _ _ (by omega)) z2
  refine ⟨⟨a0, a1, a2⟩, ?_⟩
  have hd : cs = (cs.drop 0).take 1 ++ ((cs.drop 1).take 1 ++ (cs.drop 2).take 20) := by
    have h1 : ∀ a b : Nat, cs.drop a = (cs.drop a).take b ++ cs.drop (a + b) := fun a b => by rw [← List.drop_drop, List.take_append_drop]
    conv => lhs; rw [← List.drop_zero (l := cs), h1 0 1, h1 1 1, h1 2 20, List.drop_eq_nil_of_le (show cs.length ≤ 2 + 20 by omega), List.append_nil]
  rw [hd, q0, q1, q2]
  rfl
set_option maxRecDepth 20000 in
theorem dec_event {n : Nat} {cs : List Value} {x : DataW H × List MemPlace} (h : DataW.trod enc Try.prog W 0 (fun _ => true) true n 46 cs = some x) (hl : cs.length = 20) (hz : Mem.Sz Try.prog 46 x.1) : ∃ e : Ev, cs = evCells e ∧ EvIn W e := by
  obtain ⟨m0, y0, e0, _⟩ := Mem.field1_sz Try.underlying46 h hz 0 _ rfl
  obtain ⟨m1, y1, e1, _⟩ := Mem.field1_sz Try.underlying46 h hz 1 _ rfl
  obtain ⟨m2, y2, e2, z2⟩ := Mem.field1_sz Try.underlying46 h hz 2 _ rfl
  obtain ⟨m3, y3, e3, _⟩ := Mem.field1_sz Try.underlying46 h hz 3 _ rfl
  obtain ⟨m4, y4, e4, _⟩ := Mem.field1_sz Try.underlying46 h hz 4 _ rfl
  obtain ⟨m5, y5, e5, _⟩ := Mem.field1_sz Try.underlying46 h hz 5 _ rfl
  obtain ⟨m6, y6, e6, _⟩ := Mem.field1_sz Try.underlying46 h hz 6 _ rfl
  obtain ⟨m7, y7, e7, z7⟩ := Mem.field1_sz Try.underlying46 h hz 7 _ rfl
  obtain ⟨m8, y8, e8, _⟩ := Mem.field1_sz Try.underlying46 h hz 8 _ rfl
  have ki : Try.prog.cellsOf 3 = 1 := by kernel_rfl
  have ka : Try.prog.cellsOf 42 = 4 := by kernel_rfl
  have kt : Try.prog.cellsOf 4 = 1 := by kernel_rfl
  have ke : Try.prog.cellsOf 43 = 1 := by kernel_rfl
  have kr : Try.prog.cellsOf 44 = 1 := by kernel_rfl
  have kv : Try.prog.cellsOf 33 = 9 := by kernel_rfl
  have kb : Try.prog.bytesOf 48 = 200 := by kernel_rfl
  change DataW.trod enc Try.prog W 0 (fun _ => true) true m0 3 ((cs.drop 0).take (Try.prog.cellsOf 3)) = some y0 at e0
  change DataW.trod enc Try.prog W 0 (fun _ => true) true m1 3 ((cs.drop 1).take (Try.prog.cellsOf 3)) = some y1 at e1
  change DataW.trod enc Try.prog W 0 (fun _ => true) true m2 42 ((cs.drop 2).take (Try.prog.cellsOf 42)) = some y2 at e2
  change DataW.trod enc Try.prog W 0 (fun _ => true) true m3 3 ((cs.drop 6).take (Try.prog.cellsOf 3)) = some y3 at e3
  change DataW.trod enc Try.prog W 0 (fun _ => true) true m4 4 ((cs.drop 7).take (Try.prog.cellsOf 4)) = some y4 at e4
  change DataW.trod enc Try.prog W 0 (fun _ => true) true m5 4 ((cs.drop 8).take (Try.prog.cellsOf 4)) = some y5 at e5
  change DataW.trod enc Try.prog W 0 (fun _ => true) true m6 43 ((cs.drop 9).take (Try.prog.cellsOf 43)) = some y6 at e6
  change DataW.trod enc Try.prog W 0 (fun _ => true) true m7 44 ((cs.drop 10).take (Try.prog.cellsOf 44)) = some y7 at e7
  change DataW.trod enc Try.prog W 0 (fun _ => true) true m8 33 ((cs.drop 11).take (Try.prog.cellsOf 33)) = some y8 at e8
  rw [ki] at e0 e1 e3
  rw [ka] at e2
  rw [kt] at e4 e5
  rw [ke] at e6
  rw [kr] at e7
  rw [kv] at e8
  obtain ⟨a0, q0, _, w0⟩ := DataW.trod_int Try.underlying3 e0
  obtain ⟨a1, q1, _⟩ := DataW.trod_int Try.underlying3 e1
  obtain ⟨ak, aA, ac, akeys, atx, ad, q2, b1, b2, b3, b4, b5⟩ := dec_ask e2 (cut3 _ _ _ (by omega)) z2
  obtain ⟨a3, q3, _⟩ := DataW.trod_int Try.underlying3 e3
  obtain ⟨a4, q4, _⟩ := DataW.trod_bool Try.underlying4 e4
  obtain ⟨a5, q5, _⟩ := DataW.trod_bool Try.underlying4 e5
  obtain ⟨a6, q6, _⟩ := DataW.trod_int Try.underlying43 e6
  obtain ⟨rA, rc, rl, q7, d1, d2, d3, d4, _⟩ := Mem.trod_slice_sz (α := Rs) (sz := 22) Try.underlying44 (by kernel_rfl) (by omega) rsCells rsCells_length (fun _ => True) (fun n cs x h hl hz => by obtain ⟨r, hr⟩ := dec_res h hl hz; exact ⟨r, hr, trivial⟩) e7 z7
  obtain ⟨v, q8⟩ := dec_vec e8 (cut3 _ _ _ (by omega))
  rw [kb] at d2
  unfold reachBytes at d2
  have hb := bounds_i64 w0
  refine ⟨⟨a0, a1, ak, aA, ac, akeys, atx, ad, a3, a4, a5, a6, rA, rc, rl, v⟩, ?_, ⟨⟨b1, d3, b2, d1, by show ac ≤ _; omega, by show rc ≤ _; omega⟩, hb, by show rl.length ≤ _; omega, by show akeys.length ≤ _; omega, b4, b5⟩⟩
  have hd : cs = (cs.drop 0).take 1 ++ ((cs.drop 1).take 1 ++ ((cs.drop 2).take 4 ++ ((cs.drop 6).take 1 ++ ((cs.drop 7).take 1 ++ ((cs.drop 8).take 1 ++ ((cs.drop 9).take 1 ++ ((cs.drop 10).take 1 ++ (cs.drop 11).take 9))))))) := by
    have h1 : ∀ a b : Nat, cs.drop a = (cs.drop a).take b ++ cs.drop (a + b) := fun a b => by rw [← List.drop_drop, List.take_append_drop]
    conv => lhs; rw [← List.drop_zero (l := cs), h1 0 1, h1 1 1, h1 2 4, h1 6 1, h1 7 1, h1 8 1, h1 9 1, h1 10 1, h1 11 9, List.drop_eq_nil_of_le (show cs.length ≤ 11 + 9 by omega), List.append_nil]
  rw [hd, q0, q1, q2, q3, q4, q5, q6, q7, q8]
  rfl
set_option maxRecDepth 20000 in
theorem open_events {base : Nat} {v : Value} {d : DataW H} {p : List MemPlace} (o : Value.okWide Try.prog W .any base 22 v) (k : DataW.Trod enc Try.prog W 0 (fun _ => true) true 22 v d p) (hz : (d.weights Try.prog 22).all (· ≤ reachBytes) = true) :
    ∃ A c, ∃ es : List Ev, v = .slice A es.length c ∧ es.length ≤ c ∧ c ≤ 8796093022208 ∧ Mem.Rd W W.heap.size A (es.flatMap evCells) ∧ ∀ e ∈ es, EvIn W e := by
  obtain ⟨A, c, l, h1, h2, h3, h4, h5, _⟩ := Mem.open_slice_sz (α := Ev) (sz := 20) Try.underlying22 (by kernel_rfl) (by omega) evCells evCells_length (EvIn W) (fun n cs x h hl hz => dec_event h hl hz) o k hz
  have kb : Try.prog.bytesOf 46 = 192 := by kernel_rfl
  rw [kb] at h3
  unfold reachBytes at h3
  exact ⟨A, c, l, h1, h2, by omega, h4, h5⟩
end
end Go.Proofs.Ytelephoalpphkaa
