/- The walks of a store's New, Len, Latest, Mark, Versions, of covered and has. Stores that are few. -/
import Derived.Test.YtiibgkgbghganaaStoreP
import Derived.LoopTactic
import Derived.Deep.DeepCutAuto
import Derived.Deep.CutBlock
import Derived.WalkKit
import Derived.WalkMore
import Derived.WalkSpells
import Derived.BigQuiet
import Derived.Lib.Hide
set_option maxRecDepth 8000
namespace Go.Proofs.Ytiibgkgbghganaa
open Go.ChangeShapes Go.WideShapes Go.ChangeAt Go.RowKit
set_option linter.unusedVariables false
set_option linter.unusedSimpArgs false
theorem col_agg : Mem.Agg Try.prog 37 3 := Mem.agg_of Try.underlying37 rfl (by kernel_rfl)
namespace Sto
abbrev CBx (w : World) (g : Nat) (c : Vec.Col) : Prop := Mem.Bx w 37 3 g (Vec.colCells c)
def states (rs : List LR) : List Ls := rs.map (·.l)
theorem lenS_app (a b : List Ls) : lenS (a ++ b) = lenS a + lenS b := by unfold lenS; rw [List.map_append, List.sum_append]
theorem lenS_perm {a b : List Ls} (h : a.Perm b) : lenS a = lenS b := by unfold lenS; exact (h.map _).sum_nat
theorem erase_perm {α : Type} {l : List α} {i : Nat} {a : α} (h : l[i]? = some a) : (a :: l.eraseIdx i).Perm l := by
  obtain ⟨hi, rfl⟩ := List.getElem?_eq_some_iff.1 h
  rw [List.eraseIdx_eq_take_drop_succ]
  have h2 := List.perm_middle (a := l[i]) (l₁ := l.take i) (l₂ := l.drop (i + 1))
  refine h2.symm.trans ?_
  rw [List.getElem_cons_drop, List.take_append_drop]
structure LnRel (w : World) (rs : List LR) (b r : Nat) (v3 : Value) (wr : World) : Prop where
  out : ∃ lf dn : List LR, Hid ((dn ++ lf).Perm rs) ∧ v3 = .int .i64 (lenS (states dn) : Nat) ∧ lenS (states dn) + lenS (states lf) = lenS (states rs) ∧ Hid (Mem.IterIs Value.string okS wr b r (rs.map ent) (lf.map ent)) ∧ Hid (Mem.Keeps (fun _ => False) w wr)
structure HsRel (w : World) (g0 : Nat) (d : Vec.Dt) (rs : List LR) (b r : Nat) (v4 : Value) (wr : World) : Prop where
  out : ∃ lf dn : List LR, Hid ((dn ++ lf).Perm rs) ∧ v4 = .bool false ∧ Hid (∀ q ∈ dn, (q.l.es.any fun x => eqD x d) = false) ∧ Hid (Mem.IterIs Value.string okS wr b r (rs.map ent) (lf.map ent)) ∧ Hid (Mem.Keeps (fun _ => False) w wr) ∧ Hid (Mem.Bx wr 26 3 g0 (Vec.dtCells d))
end Sto
theorem storeNew_any (rng : Int) (w : World) :
    Calls Try.prog 17 #[.int .i64 rng] w fun x w' => ∃ g b, x = .returned (.pointer (some ⟨g, 0, none⟩)) ∧ Sto.SS w' g b rng Vec.col0 [] ∧ Below w.heap.size w w' ∧ w.heap.size ≤ g ∧ w.heap.size ≤ b := by
  go_enter Try.func17, Try.ntmps17
  go_wp2
  go_ret
  refine ⟨w.heap.size + 1, w.heap.size, rfl, ⟨?_, ?_, (fun r h => by cases h), (by omega), (fun r h => by cases h), List.Pairwise.nil⟩, ?_, by omega, by omega⟩
  · exact Mem.Bx.new (w.alloc _) _ #[.int .i64 rng, .map (some w.heap.size), .int .i64 0, .int .i64 0, .int .i64 0] rfl (by simp)
  · exact (Mem.MapIs.new w).keeps ((Mem.Keeps.refl (fun _ => False) _).alloc _) id
  · exact (Reg.below_new _ _).alloc (by simp) _
theorem storeMark_any {w : World} {g b : Nat} {rng : Int} {mk : Vec.Col} {rs : List Sto.LR} (h : Sto.SS w g b rng mk rs) :
    Calls Try.prog 21 #[.pointer (some ⟨g, 0, none⟩)] w fun x w' => x = .returned (Vec.C mk) ∧ Below w.heap.size w w' := by
  have x0 := h.B.cell (j := 2) rfl
  have x1 := h.B.cell (j := 3) rfl
  have x2 := h.B.cell (j := 4) rfl
  have hg := h.B.lt
  clear h
  go_enter Try.func21, Try.ntmps21
  go_wp2
  refine bodyPost_ret (v := Vec.C mk) ?_ rfl ⟨rfl, ?_⟩
  · simp [results, Try.results21, go_sem, Mem.set_same, Mem.isSome_set]
  · exact Reg.below_new _ _
open Vec in
theorem covered_any (c : Vec.Col) (e : Vec.Ent) (w : World) (hd : 0 ≤ e.dc ∧ e.dc < 3) :
    Calls Try.prog 30 #[Vec.C c, .agg (Vec.entCells e).toArray] w fun x w' => x = .returned (.bool (Sto.under c e)) ∧ Below w.heap.size w w' := by
  have main : ∀ (k : Nat) (u : Int), (colCells c)[k]? = some (.int .i64 u) → e.dc = (k : Int) → k < 3 → c.at e.dc.toNat = u →
      Calls Try.prog 30 #[Vec.C c, .agg (Vec.entCells e).toArray] w fun x w' => x = .returned (.bool (decide (e.seq ≤ u))) ∧ Below w.heap.size w w' := by
    intro k u hu hk hk3 _
    go_enter Try.func30, Try.ntmps30
    go_upto_region 1 with fail
    obtain ⟨w0, hw0⟩ : ∃ w0, (w.alloc (.cells (colCells c).toArray 37)).alloc (.cells (entCells e).toArray 33) = w0 := ⟨_, rfl⟩
    have hC : Sto.CBx w0 w.heap.size c := by rw [← hw0]; exact (Mem.Bx.new w 37 (colCells c).toArray rfl rfl).below (Reg.below_new _ _) (by simp)
    have hE : EBx w0 (w.heap.size + 1) e := by rw [← hw0]; exact EBx.new (w.alloc _) e (by simp)
    have hb : Below w.heap.size w w0 := by rw [← hw0]; exact (Reg.below_new _ _).alloc (by simp) _
    have x0 := hE.cell (j := 0) rfl
    have x2 := hE.cell (j := 2) rfl
    have y0 := hC.cell hu
    rw [hw0]
    rw [hk] at x0
    have HB := Lib.hid hb
    clear hw0 hC hE hb hu
    go_wp2
    go_quiet (fail)
    go_wp2
    go_ret
    exact ⟨rfl, Mem.below_drewN HB.out _⟩
  have hdc : e.dc = ((0 : Nat) : Int) ∨ e.dc = ((1 : Nat) : Int) ∨ e.dc = ((2 : Nat) : Int) := by omega
  rcases hdc with h | h | h
  · have := main 0 c.a rfl h (by omega) (by rw [h]; rfl)
    unfold Sto.under; rw [h]; exact this
  · have := main 1 c.b rfl h (by omega) (by rw [h]; rfl)
    unfold Sto.under; rw [h]; exact this
  · have := main 2 c.c rfl h (by omega) (by rw [h]; rfl)
    unfold Sto.under; rw [h]; exact this
end Go.Proofs.Ytiibgkgbghganaa
