/- What came in: a script of deeds. No conditions. -/
import Derived.Test.YtjkonfanmpcipaaLink6
import Derived.Test.YtjkonfanmpcipaaOpen2
namespace Go.Proofs.Ytjkonfanmpcipaa
open Go.ChangeShapes Go.WideShapes Go.ChangeAt Go.RowKit
set_option linter.unusedVariables false

namespace Link
/-- a deed, with where its lists lie -/
structure Dd where
  kind : Int
  n : Int
  D : Option Addr
  dc : Nat
  data : List ByteArray
  Q : Option Addr
  qc : Nat
  pks : List Pk
def ddCells (d : Dd) : List Value := [.int .i64 d.kind, .int .i64 d.n, .slice d.D d.data.length d.dc, .slice d.Q d.pks.length d.qc]
theorem ddCells_length (d : Dd) : (ddCells d).length = 4 := rfl
/-- its lists are read -/
structure DdOk (W : World) (d : Dd) : Prop where
  rd : Mem.Rd W W.heap.size d.D (d.data.map strV)
  rq : Mem.Rd W W.heap.size d.Q (d.pks.flatMap pkCells)
  dl : d.data.length ≤ d.dc
  ql : d.pks.length ≤ d.qc
  dm : d.dc ≤ 8796093022208
  qm : d.qc ≤ 8796093022208
  ss : ∀ s ∈ d.data, s.size ≤ 140737488351232
theorem dd_elem {w : World} {B : Nat} {A : Option Addr} {l : List Dd} (h : Mem.Rd w B A (l.flatMap ddCells)) {k : Nat} (hk : k < l.length) :
    ∃ b o d, A = some ⟨b, o, none⟩ ∧ b < B ∧ l[k]? = some d ∧ w.cell? ⟨b, o + k * 4, none⟩ = some (.int .i64 d.kind) ∧ w.cell? ⟨b, o + k * 4 + 1, none⟩ = some (.int .i64 d.n) ∧ w.cell? ⟨b, o + k * 4 + 2, none⟩ = some (.slice d.D d.data.length d.dc) ∧
      w.cell? ⟨b, o + k * 4 + 3, none⟩ = some (.slice d.Q d.pks.length d.qc) := by
  obtain ⟨b, o, e, hb, hc⟩ := Mem.Rd.elem ddCells_length h hk (by omega)
  exact ⟨b, o, l[k], e, hb, List.getElem?_eq_getElem hk, by simpa using hc 0 _ rfl, by simpa [Nat.add_assoc] using hc 1 _ rfl, by simpa [Nat.add_assoc] using hc 2 _ rfl, by simpa [Nat.add_assoc] using hc 3 _ rfl⟩
end Link
section
variable {H : Type} {enc : TypeId × Value → H} {W : World}
theorem dec_pk {n : Nat} {cs : List Value} {x : DataW H × List MemPlace} (h : DataW.trod enc Try.prog W 0 (fun _ => true) true n 52 cs = some x) (hl : cs.length = 5) : ∃ p : Link.Pk, cs = Link.pkCells p ∧ True := by
  obtain ⟨m0, y0, e0⟩ := Mem.field1 Try.underlying52 h 0 _ rfl
  obtain ⟨m1, y1, e1⟩ := Mem.field1 Try.underlying52 h 1 _ rfl
  obtain ⟨m2, y2, e2⟩ := Mem.field1 Try.underlying52 h 2 _ rfl
  obtain ⟨m3, y3, e3⟩ := Mem.field1 Try.underlying52 h 3 _ rfl
  obtain ⟨m4, y4, e4⟩ := Mem.field1 Try.underlying52 h 4 _ rfl
  obtain ⟨a0, q0, _⟩ := DataW.trod_int Try.underlying3 e0
  obtain ⟨a1, q1, _⟩ := DataW.trod_int Try.underlying3 e1
  obtain ⟨a2, q2, _⟩ := DataW.trod_int Try.underlying3 e2
  obtain ⟨a3, q3, _⟩ := DataW.trod_bool Try.underlying4 e3
  obtain ⟨a4, q4, _⟩ := DataW.trod_string Try.underlying9 e4
  have k1 : Try.prog.cellsOf 3 = 1 := by kernel_rfl
  have k2 : Try.prog.cellsOf 4 = 1 := by kernel_rfl
  have k3 : Try.prog.cellsOf 9 = 1 := by kernel_rfl
  match cs, hl with
  | [x0, x1, x2, x3, x4], _ =>
    simp [k1, k2, k3] at q0 q1 q2 q3 q4
    exact ⟨⟨a0, a1, a2, a3, a4⟩, by rw [q0, q1, q2, q3, q4]; rfl, trivial⟩
theorem str_bytes : Try.prog.bytesOf 9 = 16 := by kernel_rfl
theorem pk_bytes : Try.prog.bytesOf 52 = 48 := by kernel_rfl
theorem dec_dd {n : Nat} {cs : List Value} {x : DataW H × List MemPlace} (h : DataW.trod enc Try.prog W 0 (fun _ => true) true n 42 cs = some x) (hl : cs.length = 4) (hz : Mem.Sz Try.prog 42 x.1) : ∃ d : Link.Dd, cs = Link.ddCells d ∧ Link.DdOk W d := by
  obtain ⟨m0, y0, e0, _⟩ := Mem.field1_sz Try.underlying42 h hz 0 _ rfl
  obtain ⟨m1, y1, e1, _⟩ := Mem.field1_sz Try.underlying42 h hz 1 _ rfl
  obtain ⟨m2, y2, e2, z2⟩ := Mem.field1_sz Try.underlying42 h hz 2 _ rfl
  obtain ⟨m3, y3, e3, z3⟩ := Mem.field1_sz Try.underlying42 h hz 3 _ rfl
  obtain ⟨a0, q0, _⟩ := DataW.trod_int Try.underlying3 e0
  obtain ⟨a1, q1, _⟩ := DataW.trod_int Try.underlying3 e1
  obtain ⟨D, dc, data, q2, d1, d2, d3, d4, _⟩ := Mem.trod_strings_sz Try.underlying29 Try.underlying9 (by kernel_rfl) e2 z2
  obtain ⟨Q, qc, pks, q3, p1, p2, p3, _⟩ := Mem.trod_slice_sz (α := Link.Pk) (sz := 5) Try.underlying28 (by kernel_rfl) (by omega) Link.pkCells Link.pkCells_length (fun _ => True) (fun n cs x h hl _ => dec_pk h hl) e3 z3
  have k1 : Try.prog.cellsOf 3 = 1 := by kernel_rfl
  have k2 : Try.prog.cellsOf 29 = 1 := by kernel_rfl
  have k3 : Try.prog.cellsOf 28 = 1 := by kernel_rfl
  rw [str_bytes] at d2
  rw [pk_bytes] at p2
  unfold reachBytes at d2 p2 d4
  match cs, hl with
  | [x0, x1, x2, x3], _ =>
    simp [k1, k2, k3] at q0 q1 q2 q3
    exact ⟨⟨a0, a1, D, dc, data, Q, qc, pks⟩, by rw [q0, q1, q2, q3]; rfl, d3, p3, d1, p1, by simp only; omega, by simp only; omega, d4⟩
theorem open_deeds {base : Nat} {v : Value} {d : DataW H} {p : List MemPlace} (o : Value.okWide Try.prog W .any base 40 v) (k : DataW.Trod enc Try.prog W 0 (fun _ => true) true 40 v d p) (hz : (d.weights Try.prog 40).all (· ≤ reachBytes) = true) :
    ∃ A c, ∃ ds : List Link.Dd, v = .slice A ds.length c ∧ ds.length ≤ c ∧ c ≤ 8796093022208 ∧ Mem.Rd W W.heap.size A (ds.flatMap Link.ddCells) ∧ ∀ d ∈ ds, Link.DdOk W d := by
  obtain ⟨A, c, l, h1, h2, h3, h4, h5, _⟩ := Mem.open_slice_sz (α := Link.Dd) (sz := 4) Try.underlying40 (by kernel_rfl) (by omega) Link.ddCells Link.ddCells_length (Link.DdOk W) (fun n cs x h hl hz => dec_dd h hl hz) o k hz
  have kb : Try.prog.bytesOf 42 = 64 := by kernel_rfl
  rw [kb] at h3
  unfold reachBytes at h3
  exact ⟨A, c, l, h1, h2, by omega, h4, h5⟩
end
end Go.Proofs.Ytjkonfanmpcipaa
