/- Records in a row, plain; three slices that grow, in memory. No conditions. -/
import Derived.Test.YtkfgedgjpgehoaaWire27
import Derived.Test.YtkfgedgjpgehoaaWire28
namespace Go.Proofs.Ytkfgedgjpgehoaa
open Go.ChangeShapes Go.WideShapes Go.ChangeAt Go.RowKit
set_option linter.unusedVariables false
set_option linter.unusedSimpArgs false
set_option maxRecDepth 100000
namespace Wi
def R35 := { xs : List Value // xs.length = 35 }
def rCells (x : R35) : List Value := x.1
theorem rCells_length (x : R35) : (rCells x).length = 35 := x.2
def rIn (x : R35) : Prop := MsgIn recK x.1
/-- a record's frame -/
def rFr (x : R35) : List UInt8 := (framedC (recC x.1)).1
/-- is a record written -/
def rGood (x : R35) : Bool := decide (strN x.1 7 ≤ 100) && decide (strN x.1 8 ≤ 100) && ((framedC (recC x.1)).2 == 0)
def goods (rs : List R35) (k : Nat) : List R35 := (rs.take k).filter rGood
def allB (l : List R35) : List UInt8 := l.flatMap rFr
def ends (l : List R35) : List Int := (List.range l.length).map fun i => ((allB (l.take (i + 1))).length : Int)
theorem ends_len (l : List R35) : (ends l).length = l.length := by simp [ends]
theorem ends_get {l : List R35} {i : Nat} (h : i < l.length) : (ends l)[i]? = some ((allB (l.take (i + 1))).length : Int) := by
  unfold ends
  rw [List.getElem?_map, List.getElem?_range h]
  rfl
theorem ends_snoc (l : List R35) (x : R35) : ends (l ++ [x]) = ends l ++ [((allB (l ++ [x])).length : Int)] := by
  unfold ends
  rw [List.length_append, List.length_singleton, List.range_succ, List.map_append]
  congr 1
  · apply List.map_congr_left
    intro i hi
    rw [List.mem_range] at hi
    rw [List.take_append_of_le_length (by omega)]
  · simp only [List.map_cons, List.map_nil]
    rw [List.take_of_length_le (by simp)]
theorem take_snoc' {rs : List R35} {k : Nat} {x : R35} (h : rs[k]? = some x) : rs.take (k + 1) = rs.take k ++ [x] := by
  rw [List.take_add_one, h]; rfl
theorem goods_yes {rs : List R35} {k : Nat} {x : R35} (h : rs[k]? = some x) (hg : rGood x = true) : goods rs (k + 1) = goods rs k ++ [x] := by
  unfold goods
  rw [take_snoc' h, List.filter_append]
  simp [hg]
theorem goods_no {rs : List R35} {k : Nat} {x : R35} (h : rs[k]? = some x) (hg : rGood x = false) : goods rs (k + 1) = goods rs k := by
  unfold goods
  rw [take_snoc' h, List.filter_append]
  simp [hg]
theorem allB_snoc (l : List R35) (x : R35) : allB (l ++ [x]) = allB l ++ rFr x := by simp [allB]
theorem good_fed {x : R35} (h : rIn x) (h7 : strN x.1 7 ≤ 100) (h8 : strN x.1 8 ≤ 100) : Fed recK x.1 := fedR_of h (by unfold longR; simp; omega)
/-- a good record: its frame, and that it is read -/
structure RGood (x : R35) : Prop where
  fed : Fed recK x.1
  gd : ∃ k, GoodR k x.1
theorem rgood_of {x : R35} (h : rIn x) (hg : rGood x = true) : RGood x := by
  unfold rGood at hg
  rw [Bool.and_eq_true, Bool.and_eq_true] at hg
  obtain ⟨⟨h7, h8⟩, h0⟩ := hg
  have hf := good_fed h (by simpa using h7) (by simpa using h8)
  exact ⟨hf, goodR_of hf (by simpa using h0)⟩
theorem RGood.fr {x : R35} (h : RGood x) : 7 ≤ (rFr x).length ∧ (rFr x).length ≤ 512 ∧ ∀ m, readR (rFr x ++ m) = (x.1, (rFr x).length, 0) := by
  obtain ⟨k, hg⟩ := h.gd
  have e : rFr x = frameB (enR k x.1) := by unfold rFr; rw [hg.fr]
  have h1 := hg.len
  have h2 := hg.pos
  rw [e, frame_len]
  refine ⟨by omega, by omega, fun m => ?_⟩
  rw [readR_enc h.fed hg m, frame_len]
theorem goods_mem {rs : List R35} (h : ∀ x ∈ rs, rIn x) {k : Nat} {x : R35} (hx : x ∈ goods rs k) : RGood x := by
  unfold goods at hx
  rw [List.mem_filter] at hx
  exact rgood_of (h x (List.mem_of_mem_take hx.1)) hx.2
theorem goods_len (rs : List R35) (k : Nat) : (goods rs k).length ≤ k := by
  unfold goods
  exact Nat.le_trans (List.length_filter_le _ _) (by rw [List.length_take]; omega)
theorem allB_len {l : List R35} (h : ∀ x ∈ l, RGood x) : (allB l).length ≤ 512 * l.length := by
  induction l with
  | nil => simp [allB]
  | cons x l ih =>
    have h1 := (h x List.mem_cons_self).fr
    have h2 := ih (fun y hy => h y (List.mem_cons_of_mem _ hy))
    unfold allB at h2 ⊢
    rw [List.flatMap_cons, List.length_append, List.length_cons]
    omega
/-- what follows behind the first i records -/
theorem allB_drop {l : List R35} {i : Nat} {x : R35} (h : l[i]? = some x) (t : List UInt8) : (allB l ++ t).drop (allB (l.take i)).length = rFr x ++ (allB (l.drop (i + 1)) ++ t) := by
  obtain ⟨hi, hx⟩ := List.getElem?_eq_some_iff.1 h
  have e : l = l.take i ++ (x :: l.drop (i + 1)) := by
    rw [← hx, List.getElem_cons_drop, List.take_append_drop]
  have e2 : allB l = allB (l.take i) ++ (rFr x ++ allB (l.drop (i + 1))) := by
    have : allB (l.take i ++ (x :: l.drop (i + 1))) = allB (l.take i) ++ (rFr x ++ allB (l.drop (i + 1))) := by
      unfold allB
      rw [List.flatMap_append, List.flatMap_cons]
    rw [← e] at this
    exact this
  rw [e2, List.append_assoc, List.append_assoc, List.drop_left]
theorem allB_take {l : List R35} {i : Nat} {x : R35} (h : l[i]? = some x) : (allB (l.take (i + 1))).length = (allB (l.take i)).length + (rFr x).length := by
  rw [take_snoc' h, allB_snoc, List.length_append]
theorem allB_part {l : List R35} {i : Nat} {x : R35} (h : l[i]? = some x) : (allB (l.take i)).length + (rFr x).length ≤ (allB l).length := by
  have h1 := allB_drop h []
  rw [List.append_nil, List.append_nil] at h1
  have h2 := congrArg List.length h1
  rw [List.length_drop, List.length_append] at h2
  obtain ⟨k, hk⟩ : ∃ k, (rFr x).length = k := ⟨_, rfl⟩
  by_cases h0 : (allB (l.take i)).length ≤ (allB l).length
  · omega
  · have h3 : (rFr x).length = 0 := by omega
    have h4 : allB l = allB (l.take i) ++ allB (l.drop i) := by
      unfold allB
      rw [← List.flatMap_append, List.take_append_drop]
    have h5 := congrArg List.length h4
    rw [List.length_append] at h5
    omega
def iV (n : Int) : Value := .int .i64 n
/-- two slices in blocks of their own -/
def Ap (A B : Option Addr) : Prop := ∀ k, Mem.blk A = some k → Mem.blk B ≠ some k
theorem Ap.symm {A B : Option Addr} (h : Ap A B) : Ap B A := fun k hb ha => h k ha hb
theorem Ap.row {A B : Option Addr} (h : Ap A B) : Mem.blk A = none ∨ Mem.blk A ≠ Mem.blk B := by
  cases ha : Mem.blk A with
  | none => exact .inl rfl
  | some k => exact .inr fun e => h k ha e.symm
theorem Ap.new {A B B' : Option Addr} {s : Nat} (h : Ap A B) (hat : B' = B ∨ B' = some ⟨s, 0, none⟩) (hlt : ∀ k, Mem.blk A = some k → k < s) : Ap A B' := by
  rcases hat with rfl | rfl
  · exact h
  · intro k ha hb
    have := hlt k ha
    have e : s = k := by simpa [Mem.blk] using hb
    omega
theorem from_new {B s : Nat} {A A' : Option Addr} (h : ∀ k, Mem.blk A = some k → B ≤ k) (hat : A' = A ∨ A' = some ⟨s, 0, none⟩) (hs : B ≤ s) : ∀ k, Mem.blk A' = some k → B ≤ k := by
  rcases hat with rfl | rfl
  · exact h
  · intro k hb
    have e : s = k := by simpa [Mem.blk] using hb
    omega
structure RowSt (w wr : World) (X Y Z : Option Addr) (cx cy cz : Nat) (al : List UInt8) (gd : List R35) (en : List Int) : Prop where
  x : Mem.Own wr 5 1 X al.length cx (al.map Mem.byteV)
  y : Mem.Own wr 37 35 Y gd.length cy (gd.flatMap rCells)
  z : Mem.Own wr 3 1 Z en.length cz (en.map iV)
  b : Below w.heap.size w wr
  fx : ∀ k, Mem.blk X = some k → w.heap.size ≤ k
  fy : ∀ k, Mem.blk Y = some k → w.heap.size ≤ k
  fz : ∀ k, Mem.blk Z = some k → w.heap.size ≤ k
  xy : Ap X Y
  xz : Ap X Z
  yz : Ap Y Z
theorem RowSt.grow {w wr w2 : World} {X Y Z : Option Addr} {cx cy cz : Nat} {al : List UInt8} {gd : List R35} {en : List Int} (h : RowSt w wr X Y Z cx cy cz al gd en) (hb : Below wr.heap.size wr w2) : RowSt w w2 X Y Z cx cy cz al gd en :=
  ⟨h.x.below hb fun _ hk => h.x.lt hk, h.y.below hb fun _ hk => h.y.lt hk, h.z.below hb fun _ hk => h.z.lt hk, h.b.trans (hb.mono h.b.size), h.fx, h.fy, h.fz, h.xy, h.xz, h.yz⟩
theorem RowSt.appX {w wr w2 : World} {X X' Y Z : Option Addr} {cx cx' cy cz : Nat} {al bs : List UInt8} {gd : List R35} {en : List Int} (h : RowSt w wr X Y Z cx cy cz al gd en)
    (hown : Mem.Own w2 5 1 X' (al.length + bs.length) cx' (al.map Mem.byteV ++ bs.map Mem.byteV)) (hg : wr.grownBy w2 (Mem.blk X)) (hat : X' = X ∨ X' = some ⟨wr.heap.size, 0, none⟩) :
    RowSt w w2 X' Y Z cx' cy cz (al ++ bs) gd en :=
  ⟨by simpa using hown, h.y.kept hg h.xy.symm.row, h.z.kept hg h.xz.symm.row, h.b.grown hg h.b.size h.fx, from_new h.fx hat h.b.size, h.fy, h.fz,
    ((h.xy.symm).new hat fun k hk => h.y.lt hk).symm, ((h.xz.symm).new hat fun k hk => h.z.lt hk).symm, h.yz⟩
theorem RowSt.appY {w wr w2 : World} {X Y Y' Z : Option Addr} {cx cy cy' cz : Nat} {al : List UInt8} {gd : List R35} {x : R35} {en : List Int} (h : RowSt w wr X Y Z cx cy cz al gd en)
    (hown : Mem.Own w2 37 35 Y' (gd.length + 1) cy' (gd.flatMap rCells ++ rCells x)) (hg : wr.grownBy w2 (Mem.blk Y)) (hat : Y' = Y ∨ Y' = some ⟨wr.heap.size, 0, none⟩) :
    RowSt w w2 X Y' Z cx cy' cz al (gd ++ [x]) en :=
  ⟨h.x.kept hg h.xy.row, by simpa using hown, h.z.kept hg h.yz.symm.row, h.b.grown hg h.b.size h.fy, h.fx, from_new h.fy hat h.b.size, h.fz,
    h.xy.new hat fun k hk => h.x.lt hk, h.xz, ((h.yz.symm).new hat fun k hk => h.z.lt hk).symm⟩
theorem RowSt.appZ {w wr w2 : World} {X Y Z Z' : Option Addr} {cx cy cz cz' : Nat} {al : List UInt8} {gd : List R35} {en : List Int} {n : Int} (h : RowSt w wr X Y Z cx cy cz al gd en)
    (hown : Mem.Own w2 3 1 Z' (en.length + 1) cz' (en.map iV ++ [.int .i64 n])) (hg : wr.grownBy w2 (Mem.blk Z)) (hat : Z' = Z ∨ Z' = some ⟨wr.heap.size, 0, none⟩) :
    RowSt w w2 X Y Z' cx cy cz' al gd (en ++ [n]) :=
  ⟨h.x.kept hg h.xz.row, h.y.kept hg h.yz.row, by simpa [iV] using hown, h.b.grown hg h.b.size h.fz, h.fx, h.fy, from_new h.fz hat h.b.size,
    h.xy, h.xz.new hat fun k hk => h.x.lt hk, h.yz.new hat fun k hk => h.y.lt hk⟩
end Wi
theorem recs_elem : Mem.Elem Try.prog 47 37 35 296 := Mem.elem_of Try.underlying47 (z := .agg Wi.zeroR.toArray) (by kernel_rfl) rfl (by omega)
theorem ints_elem : Mem.Elem Try.prog 48 3 1 8 := Mem.elem_of Try.underlying48 (z := .int .i64 0) (by kernel_rfl) rfl (by omega)
section
variable {H : Type} {enc : TypeId × Value → H} {W : World}
theorem open_recs {base : Nat} {v : Value} {d : DataW H} {p : List MemPlace} (o : Value.okWide Try.prog W .any base 47 v) (k : DataW.Trod enc Try.prog W 0 (fun _ => true) true 47 v d p) (hz : (d.weights Try.prog 47).all (· ≤ reachBytes) = true) :
    ∃ (A : Option Addr) (c : Nat) (l : List Wi.R35), v = .slice A l.length c ∧ l.length ≤ c ∧ Mem.Rd W W.heap.size A (l.flatMap Wi.rCells) ∧ ∀ x ∈ l, Wi.rIn x := by
  obtain ⟨A, c, l, h1, h2, h3, h4, h5, _⟩ := Mem.open_slice_sz (α := Wi.R35) (sz := 35) Try.underlying47 (by kernel_rfl) (by omega) Wi.rCells Wi.rCells_length Wi.rIn (fun n cs x h hl hz => by
    have h9 := Cells.open_chk 9 _ _ _ recK_chk n cs x h hz
    exact ⟨⟨cs, hl⟩, rfl, h9.1, h9.2⟩) o k hz
  exact ⟨A, c, l, h1, h2, h4, h5⟩
end
end Go.Proofs.Ytkfgedgjpgehoaa
