/- The walk of vec.CoversCol: what it computes. No conditions. -/
import Derived.Test.YtfafehffnjbhnaaTy
import Derived.Test.YtfafehffnjbhnaaStill
import Derived.BigQuiet
namespace Go.Proofs.Ytfafehffnjbhnaa
open Go.ChangeShapes Go.WideShapes Go.ChangeAt Go.RowKit
set_option linter.unusedVariables false
set_option linter.unusedSimpArgs false
namespace Vec
structure CovRel (w : World) (x y : Col) (vi : Value) (wr : World) : Prop where
  out : ∃ k : Nat, k ≤ 3 ∧ vi = .int .i64 k ∧ (0 < k → y.a ≤ x.a) ∧ (1 < k → y.b ≤ x.b) ∧ (2 < k → y.c ≤ x.c) ∧ Hid (Mem.Bx wr 26 3 w.heap.size (colCells x)) ∧ Hid (Mem.Bx wr 26 3 (w.heap.size + 1) (colCells y)) ∧ Hid (Below w.heap.size w wr)
end Vec
open Vec in
set_option maxHeartbeats 2000000 in
theorem coversC_any (x y : Vec.Col) (w : World) :
    Calls Try.prog 43 #[Vec.C x, Vec.C y] w fun e w' => e = .returned (.bool (Vec.coversC x y)) ∧ Below w.heap.size w w' := by
  go_enter Try.func43, Try.ntmps43
  go_wp2
  go_loopw [6] (CovRel w x y) (fun t _ => 3 - (intOf t).toNat)
  case atStart =>
    refine ⟨⟨0, by omega, rfl, by omega, by omega, by omega, ?_, ?_, ?_⟩⟩
    · exact (Mem.Bx.new w 26 (colCells x).toArray rfl rfl).below (Reg.below_new _ _) (by simp)
    · exact Mem.Bx.new (w.alloc _) 26 (colCells y).toArray rfl (by simp)
    · exact (Reg.below_new _ _).alloc (by simp) _
  case round =>
    obtain ⟨k, hk, rfl, ha, hb, hcc, H1, H2, HB⟩ := hrel.out
    have hz := HB.out.size
    have hz2 := H2.out.lt
    have hc : k = 0 ∨ k = 1 ∨ k = 2 ∨ k = 3 := by omega
    rcases hc with rfl | rfl | rfl | rfl
    ·
      have x0 := H1.out.cell (j := 0) rfl
      have x1 := H2.out.cell (j := 0) rfl
      by_cases hlt : y.a ≤ x.a
      · have hd : decide (x.a < y.a) = false := by simp; omega
        go_wp2
        go_quiet (fail)
        go_wp2
        go_roundw
        case rel => exact ⟨⟨0 + 1, by omega, rfl, by intros; omega, by intros; omega, by intros; omega, H1.out.keeps ((Mem.Keeps.refl (fun _ => False) _).drewN _) id, H2.out.keeps ((Mem.Keeps.refl (fun _ => False) _).drewN _) id, Mem.below_drewN HB.out _⟩⟩
        case measure => simp [intOf]
      · have hd : decide (x.a < y.a) = true := by simp; omega
        have hcv : Vec.coversC x y = false := by unfold Vec.coversC; simp; omega
        go_wp2
        go_quiet (fail)
        go_wp2
        go_ret
        exact ⟨by rw [hcv]; rfl, Mem.below_drewN HB.out _⟩
    ·
      have x0 := H1.out.cell (j := 1) rfl
      have x1 := H2.out.cell (j := 1) rfl
      by_cases hlt : y.b ≤ x.b
      · have hd : decide (x.b < y.b) = false := by simp; omega
        go_wp2
        go_quiet (fail)
        go_wp2
        go_roundw
        case rel => exact ⟨⟨1 + 1, by omega, rfl, by intros; omega, by intros; omega, by intros; omega, H1.out.keeps ((Mem.Keeps.refl (fun _ => False) _).drewN _) id, H2.out.keeps ((Mem.Keeps.refl (fun _ => False) _).drewN _) id, Mem.below_drewN HB.out _⟩⟩
        case measure => simp [intOf]
      · have hd : decide (x.b < y.b) = true := by simp; omega
        have hcv : Vec.coversC x y = false := by unfold Vec.coversC; simp; omega
        go_wp2
        go_quiet (fail)
        go_wp2
        go_ret
        exact ⟨by rw [hcv]; rfl, Mem.below_drewN HB.out _⟩
    ·
      have x0 := H1.out.cell (j := 2) rfl
      have x1 := H2.out.cell (j := 2) rfl
      by_cases hlt : y.c ≤ x.c
      · have hd : decide (x.c < y.c) = false := by simp; omega
        go_wp2
        go_quiet (fail)
        go_wp2
        go_roundw
        case rel => exact ⟨⟨2 + 1, by omega, rfl, by intros; omega, by intros; omega, by intros; omega, H1.out.keeps ((Mem.Keeps.refl (fun _ => False) _).drewN _) id, H2.out.keeps ((Mem.Keeps.refl (fun _ => False) _).drewN _) id, Mem.below_drewN HB.out _⟩⟩
        case measure => simp [intOf]
      · have hd : decide (x.c < y.c) = true := by simp; omega
        have hcv : Vec.coversC x y = false := by unfold Vec.coversC; simp; omega
        go_wp2
        go_quiet (fail)
        go_wp2
        go_ret
        exact ⟨by rw [hcv]; rfl, Mem.below_drewN HB.out _⟩
    · have hcv : Vec.coversC x y = true := by unfold Vec.coversC; simp; omega
      go_wp2
      go_ret
      exact ⟨by rw [hcv]; rfl, HB.out⟩
end Go.Proofs.Ytfafehffnjbhnaa
