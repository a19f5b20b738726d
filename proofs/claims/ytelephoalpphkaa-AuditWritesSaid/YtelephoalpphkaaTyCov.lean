/- The walks of vec.Covers and vec.Has: what they compute. No conditions. -/
import Derived.Test.YtelephoalpphkaaTyIdx
namespace Go.Proofs.Ytelephoalpphkaa
open Go.ChangeShapes Go.WideShapes Go.ChangeAt Go.RowKit
set_option linter.unusedVariables false
set_option linter.unusedSimpArgs false

namespace Vec
def covP (x y : Col) : Nat → Bool
  | 0 => true
  | 1 => decide (y.a ≤ x.a)
  | 2 => decide (y.a ≤ x.a) && decide (y.b ≤ x.b)
  | _ => decide (y.a ≤ x.a) && (decide (y.b ≤ x.b) && decide (y.c ≤ x.c))
def covV (x y : Vc) : Nat → Bool
  | 0 => true
  | 1 => covP x.a y.a 3
  | 2 => covP x.a y.a 3 && covP x.b y.b 3
  | _ => covP x.a y.a 3 && (covP x.b y.b 3 && covP x.c y.c 3)
def coversV (x y : Vc) : Bool := covV x y 3
structure CvAt (w : World) (x y : Vc) (wr : World) : Prop where
  X : VBx wr w.heap.size x
  Y : VBx wr (w.heap.size + 1) y
  b : Below w.heap.size w wr
theorem CvAt.drewN {w : World} {x y : Vc} {wr : World} (h : CvAt w x y wr) (n : Nat) : CvAt w x y (wr.drewN n) :=
  ⟨h.X.keeps ((Mem.Keeps.refl (fun _ => False) _).drewN _) id, h.Y.keeps ((Mem.Keeps.refl (fun _ => False) _).drewN _) id, Mem.below_drewN h.b _⟩
structure CvRow (w : World) (x y : Vc) (cx cy : Col) (vi : Value) (wr : World) : Prop where
  out : ∃ j : Nat, j ≤ 3 ∧ vi = .int .i64 j ∧ covP cx cy j = true ∧ Hid (CvAt w x y wr)
structure CvRel (w : World) (x y : Vc) (vi : Value) (wr : World) : Prop where
  out : ∃ k : Nat, k ≤ 3 ∧ vi = .int .i64 k ∧ covV x y k = true ∧ Hid (CvAt w x y wr)
structure HasAt (w : World) (v : Vc) (d : Dt) (wr : World) : Prop where
  X : VBx wr w.heap.size v
  D : Mem.Bx wr 28 3 (w.heap.size + 1) (dtCells d)
  b : Below w.heap.size w wr
def hasD (v : Vc) (d : Dt) : Bool := chain d.dc d.rng && (decide (1 ≤ d.seq) && decide (d.seq ≤ v.get d.dc.toNat d.rng.toNat))
end Vec
open Vec in
set_option maxRecDepth 8000 in
set_option maxHeartbeats 4000000 in
theorem coversV_any (x y : Vec.Vc) (w : World) :
    Calls Try.prog 29 #[.agg (Vec.vcCells x).toArray, .agg (Vec.vcCells y).toArray] w fun e w' => e = .returned (.bool (Vec.coversV x y)) ∧ Below w.heap.size w w' := by
  go_enter Try.func29, Try.ntmps29
  go_wp2
  go_loopw [7] (CvRel w x y) (fun t _ => 3 - (intOf t).toNat)
  case atStart =>
    refine ⟨⟨0, by omega, rfl, rfl, ?_, ?_, ?_⟩⟩
    · exact (Mem.Bx.new w 33 (vcCells x).toArray rfl rfl).below (Reg.below_new _ _) (by simp)
    · exact Mem.Bx.new (w.alloc _) 33 (vcCells y).toArray rfl (by simp)
    · exact (Reg.below_new _ _).alloc (by simp) _
  case round =>
    obtain ⟨k, hk, rfl, hpk, HA⟩ := hrel.out
    have hck : k = 0 ∨ k = 1 ∨ k = 2 ∨ k = 3 := by omega
    rcases hck with rfl | rfl | rfl | rfl
    ·
      go_wp2
      rename World => wo
      go_loopw [10] (CvRow w x y x.a y.a) (fun t _ => 3 - (intOf t).toNat)
      case atStart => exact ⟨⟨0, by omega, rfl, rfl, HA⟩⟩
      case round =>
        clear HA
        obtain ⟨j, hj, rfl, hpj, HA⟩ := hrel.out
        have hcj : j = 0 ∨ j = 1 ∨ j = 2 ∨ j = 3 := by omega
        rcases hcj with rfl | rfl | rfl | rfl
        ·
          have x0 := HA.out.X.cell (j := 0) rfl
          have x1 := HA.out.Y.cell (j := 0) rfl
          by_cases hlt : y.a.a ≤ x.a.a
          · have hd : decide (x.a.a < y.a.a) = false := by simp; omega
            have hnx : Vec.covP x.a y.a (0 + 1) = true := by unfold Vec.covP at hpj ⊢; simp_all
            go_wp2
            go_quiet (fail)
            go_wp2
            go_roundw
            case rel => exact ⟨⟨0 + 1, by omega, rfl, hnx, HA.out.drewN _⟩⟩
            case measure => simp [intOf]
          · have hd : decide (x.a.a < y.a.a) = true := by simp; omega
            have hcv : Vec.coversV x y = false := by unfold Vec.coversV Vec.covV Vec.covP; simp; omega
            go_wp2
            go_quiet (fail)
            go_wp2
            go_ret
            exact ⟨by rw [hcv]; rfl, Mem.below_drewN HA.out.b _⟩
        ·
          have x0 := HA.out.X.cell (j := 1) rfl
          have x1 := HA.out.Y.cell (j := 1) rfl
          by_cases hlt : y.a.b ≤ x.a.b
          · have hd : decide (x.a.b < y.a.b) = false := by simp; omega
            have hnx : Vec.covP x.a y.a (1 + 1) = true := by unfold Vec.covP at hpj ⊢; simp_all
            go_wp2
            go_quiet (fail)
            go_wp2
            go_roundw
            case rel => exact ⟨⟨1 + 1, by omega, rfl, hnx, HA.out.drewN _⟩⟩
            case measure => simp [intOf]
          · have hd : decide (x.a.b < y.a.b) = true := by simp; omega
            have hcv : Vec.coversV x y = false := by unfold Vec.coversV Vec.covV Vec.covP; simp; omega
            go_wp2
            go_quiet (fail)
            go_wp2
            go_ret
            exact ⟨by rw [hcv]; rfl, Mem.below_drewN HA.out.b _⟩
        ·
          have x0 := HA.out.X.cell (j := 2) rfl
          have x1 := HA.out.Y.cell (j := 2) rfl
          by_cases hlt : y.a.c ≤ x.a.c
          · have hd : decide (x.a.c < y.a.c) = false := by simp; omega
            have hnx : Vec.covP x.a y.a (2 + 1) = true := by unfold Vec.covP at hpj ⊢; simp_all
            go_wp2
            go_quiet (fail)
            go_wp2
            go_roundw
            case rel => exact ⟨⟨2 + 1, by omega, rfl, hnx, HA.out.drewN _⟩⟩
            case measure => simp [intOf]
          · have hd : decide (x.a.c < y.a.c) = true := by simp; omega
            have hcv : Vec.coversV x y = false := by unfold Vec.coversV Vec.covV Vec.covP; simp; omega
            go_wp2
            go_quiet (fail)
            go_wp2
            go_ret
            exact ⟨by rw [hcv]; rfl, Mem.below_drewN HA.out.b _⟩
        · have hnx : Vec.covV x y (0 + 1) = true := by unfold Vec.covV at hpk ⊢; simp_all
          go_wp2
          go_roundw
          case rel => exact ⟨⟨0 + 1, by omega, rfl, hnx, HA⟩⟩
          case measure => simp [intOf]
    ·
      go_wp2
      rename World => wo
      go_loopw [10] (CvRow w x y x.b y.b) (fun t _ => 3 - (intOf t).toNat)
      case atStart => exact ⟨⟨0, by omega, rfl, rfl, HA⟩⟩
      case round =>
        clear HA
        obtain ⟨j, hj, rfl, hpj, HA⟩ := hrel.out
        have hcj : j = 0 ∨ j = 1 ∨ j = 2 ∨ j = 3 := by omega
        rcases hcj with rfl | rfl | rfl | rfl
        ·
          have x0 := HA.out.X.cell (j := 3) rfl
          have x1 := HA.out.Y.cell (j := 3) rfl
          by_cases hlt : y.b.a ≤ x.b.a
          · have hd : decide (x.b.a < y.b.a) = false := by simp; omega
            have hnx : Vec.covP x.b y.b (0 + 1) = true := by unfold Vec.covP at hpj ⊢; simp_all
            go_wp2
            go_quiet (fail)
            go_wp2
            go_roundw
            case rel => exact ⟨⟨0 + 1, by omega, rfl, hnx, HA.out.drewN _⟩⟩
            case measure => simp [intOf]
          · have hd : decide (x.b.a < y.b.a) = true := by simp; omega
            have hcv : Vec.coversV x y = false := by unfold Vec.coversV Vec.covV Vec.covP; simp; omega
            go_wp2
            go_quiet (fail)
            go_wp2
            go_ret
            exact ⟨by rw [hcv]; rfl, Mem.below_drewN HA.out.b _⟩
        ·
          have x0 := HA.out.X.cell (j := 4) rfl
          have x1 := HA.out.Y.cell (j := 4) rfl
          by_cases hlt : y.b.b ≤ x.b.b
          · have hd : decide (x.b.b < y.b.b) = false := by simp; omega
            have hnx : Vec.covP x.b y.b (1 + 1) = true := by unfold Vec.covP at hpj ⊢; simp_all
            go_wp2
            go_quiet (fail)
            go_wp2
            go_roundw
            case rel => exact ⟨⟨1 + 1, by omega, rfl, hnx, HA.out.drewN _⟩⟩
            case measure => simp [intOf]
          · have hd : decide (x.b.b < y.b.b) = true := by simp; omega
            have hcv : Vec.coversV x y = false := by unfold Vec.coversV Vec.covV Vec.covP; simp; omega
            go_wp2
            go_quiet (fail)
            go_wp2
            go_ret
            exact ⟨by rw [hcv]; rfl, Mem.below_drewN HA.out.b _⟩
        ·
          have x0 := HA.out.X.cell (j := 5) rfl
          have x1 := HA.out.Y.cell (j := 5) rfl
          by_cases hlt : y.b.c ≤ x.b.c
          · have hd : decide (x.b.c < y.b.c) = false := by simp; omega
            have hnx : Vec.covP x.b y.b (2 + 1) = true := by unfold Vec.covP at hpj ⊢; simp_all
            go_wp2
            go_quiet (fail)
            go_wp2
            go_roundw
            case rel => exact ⟨⟨2 + 1, by omega, rfl, hnx, HA.out.drewN _⟩⟩
            case measure => simp [intOf]
          · have hd : decide (x.b.c < y.b.c) = true := by simp; omega
            have hcv : Vec.coversV x y = false := by unfold Vec.coversV Vec.covV Vec.covP; simp; omega
            go_wp2
            go_quiet (fail)
            go_wp2
            go_ret
            exact ⟨by rw [hcv]; rfl, Mem.below_drewN HA.out.b _⟩
        · have hnx : Vec.covV x y (1 + 1) = true := by unfold Vec.covV at hpk ⊢; simp_all
          go_wp2
          go_roundw
          case rel => exact ⟨⟨1 + 1, by omega, rfl, hnx, HA⟩⟩
          case measure => simp [intOf]
    ·
      go_wp2
      rename World => wo
      go_loopw [10] (CvRow w x y x.c y.c) (fun t _ => 3 - (intOf t).toNat)
      case atStart => exact ⟨⟨0, by omega, rfl, rfl, HA⟩⟩
      case round =>
        clear HA
        obtain ⟨j, hj, rfl, hpj, HA⟩ := hrel.out
        have hcj : j = 0 ∨ j = 1 ∨ j = 2 ∨ j = 3 := by omega
        rcases hcj with rfl | rfl | rfl | rfl
        ·
          have x0 := HA.out.X.cell (j := 6) rfl
          have x1 := HA.out.Y.cell (j := 6) rfl
          by_cases hlt : y.c.a ≤ x.c.a
          · have hd : decide (x.c.a < y.c.a) = false := by simp; omega
            have hnx : Vec.covP x.c y.c (0 + 1) = true := by unfold Vec.covP at hpj ⊢; simp_all
            go_wp2
            go_quiet (fail)
            go_wp2
            go_roundw
            case rel => exact ⟨⟨0 + 1, by omega, rfl, hnx, HA.out.drewN _⟩⟩
            case measure => simp [intOf]
          · have hd : decide (x.c.a < y.c.a) = true := by simp; omega
            have hcv : Vec.coversV x y = false := by unfold Vec.coversV Vec.covV Vec.covP; simp; omega
            go_wp2
            go_quiet (fail)
            go_wp2
            go_ret
            exact ⟨by rw [hcv]; rfl, Mem.below_drewN HA.out.b _⟩
        ·
          have x0 := HA.out.X.cell (j := 7) rfl
          have x1 := HA.out.Y.cell (j := 7) rfl
          by_cases hlt : y.c.b ≤ x.c.b
          · have hd : decide (x.c.b < y.c.b) = false := by simp; omega
            have hnx : Vec.covP x.c y.c (1 + 1) = true := by unfold Vec.covP at hpj ⊢; simp_all
            go_wp2
            go_quiet (fail)
            go_wp2
            go_roundw
            case rel => exact ⟨⟨1 + 1, by omega, rfl, hnx, HA.out.drewN _⟩⟩
            case measure => simp [intOf]
          · have hd : decide (x.c.b < y.c.b) = true := by simp; omega
            have hcv : Vec.coversV x y = false := by unfold Vec.coversV Vec.covV Vec.covP; simp; omega
            go_wp2
            go_quiet (fail)
            go_wp2
            go_ret
            exact ⟨by rw [hcv]; rfl, Mem.below_drewN HA.out.b _⟩
        ·
          have x0 := HA.out.X.cell (j := 8) rfl
          have x1 := HA.out.Y.cell (j := 8) rfl
          by_cases hlt : y.c.c ≤ x.c.c
          · have hd : decide (x.c.c < y.c.c) = false := by simp; omega
            have hnx : Vec.covP x.c y.c (2 + 1) = true := by unfold Vec.covP at hpj ⊢; simp_all
            go_wp2
            go_quiet (fail)
            go_wp2
            go_roundw
            case rel => exact ⟨⟨2 + 1, by omega, rfl, hnx, HA.out.drewN _⟩⟩
            case measure => simp [intOf]
          · have hd : decide (x.c.c < y.c.c) = true := by simp; omega
            have hcv : Vec.coversV x y = false := by unfold Vec.coversV Vec.covV Vec.covP; simp; omega
            go_wp2
            go_quiet (fail)
            go_wp2
            go_ret
            exact ⟨by rw [hcv]; rfl, Mem.below_drewN HA.out.b _⟩
        · have hnx : Vec.covV x y (2 + 1) = true := by unfold Vec.covV at hpk ⊢; simp_all
          go_wp2
          go_roundw
          case rel => exact ⟨⟨2 + 1, by omega, rfl, hnx, HA⟩⟩
          case measure => simp [intOf]
    · have hv : Vec.coversV x y = true := hpk
      go_wp2
      go_ret
      exact ⟨by rw [hv]; rfl, HA.out.b⟩
theorem quiet_chain (d r : Int) (w : World) (m : Nat) : Calls Try.prog 31 #[.int .i64 d, .int .i64 r] (w.drewN m) fun e w' => e = .returned (.bool (Vec.chain d r)) ∧ ∃ m, w' = w.drewN m :=
  (chain_any d r _).mono fun _ _ h => ⟨h.1, m, h.2.symm⟩
open Vec in
set_option maxRecDepth 8000 in
set_option maxHeartbeats 4000000 in
theorem hasD_any (v : Vec.Vc) (d : Vec.Dt) (w : World) :
    Calls Try.prog 20 #[.agg (Vec.vcCells v).toArray, .agg (Vec.dtCells d).toArray] w fun e w' => e = .returned (.bool (Vec.hasD v d)) ∧ Below w.heap.size w w' := by
  obtain ⟨dc, rng, q⟩ := d
  go_enter Try.func20, Try.ntmps20
  go_upto_region 1 with fail
  have H2 : Hid (HasAt w v ⟨dc, rng, q⟩ ((w.alloc (.cells (vcCells v).toArray 33)).alloc (.cells (dtCells ⟨dc, rng, q⟩).toArray 28))) :=
    ⟨(Mem.Bx.new w 33 (vcCells v).toArray rfl rfl).below (Reg.below_new _ _) (by simp), Mem.Bx.new (w.alloc _) 28 (dtCells ⟨dc, rng, q⟩).toArray rfl (by simp), (Reg.below_new _ _).alloc (by simp) _⟩
  obtain ⟨w2, hw2⟩ : ∃ w2, ((w.alloc (.cells (vcCells v).toArray 33)).alloc (.cells (dtCells ⟨dc, rng, q⟩).toArray 28)) = w2 := ⟨_, rfl⟩
  rw [hw2] at H2
  rw [hw2]
  clear hw2
  have x0 : w2.cell? ⟨w.heap.size + 1, 0, none⟩ = some (.int .i64 dc) := H2.out.D.cell (j := 0) rfl
  have x1 : w2.cell? ⟨w.heap.size + 1, 1, none⟩ = some (.int .i64 rng) := H2.out.D.cell (j := 1) rfl
  have x2 : w2.cell? ⟨w.heap.size + 1, 2, none⟩ = some (.int .i64 q) := H2.out.D.cell (j := 2) rfl
  cases hch : Vec.chain dc rng
  · have hh : Vec.hasD v ⟨dc, rng, q⟩ = false := by unfold Vec.hasD; rw [hch]; rfl
    have HC : Hid (∀ (w : World) (m : Nat), Calls Try.prog 31 #[.int .i64 dc, .int .i64 rng] (w.drewN m) fun e w' => e = .returned (.bool false) ∧ ∃ m, w' = w.drewN m) := fun w m => hch ▸ quiet_chain dc rng w m
    go_wp2
    go_quiet ((go_at_call 31; with_reducible exact HC.out _ _))
    go_wp2
    go_ret
    exact ⟨by rw [hh]; rfl, Mem.below_drewN H2.out.b _⟩
  · obtain ⟨hd3, hd4, hr0, hr3⟩ := chain_nat hch
    have h1 : dc = 0 ∨ dc = 1 ∨ dc = 2 := by omega
    have h2 : rng = 0 ∨ rng = 1 ∨ rng = 2 := by omega
    clear hd3 hd4 hr0 hr3 hch
    rcases h1 with rfl | rfl | rfl
    · rcases h2 with rfl | rfl | rfl
      ·
        have y0 := H2.out.X.cell (j := 0) rfl
        have HC : Hid (∀ (w : World) (m : Nat), Calls Try.prog 31 #[.int .i64 0, .int .i64 0] (w.drewN m) fun e w' => e = .returned (.bool true) ∧ ∃ m, w' = w.drewN m) := fun w m => quiet_chain 0 0 w m
        by_cases h1 : 1 ≤ q
        · have d1 : decide (1 ≤ q) = true := by simpa using h1
          by_cases h2 : q ≤ v.a.a
          · have d2 : decide (q ≤ v.a.a) = true := by simpa using h2
            have hh : Vec.hasD v ⟨0, 0, q⟩ = true := by unfold Vec.hasD; simp only [Bool.and_eq_true]; exact ⟨rfl, d1, d2⟩
            go_wp2
            go_quiet ((go_at_call 31; with_reducible exact HC.out _ _))
            go_wp2
            go_ret
            exact ⟨by rw [hh]; rfl, Mem.below_drewN H2.out.b _⟩
          · have d2 : decide (q ≤ v.a.a) = false := by simpa using h2
            have hh : Vec.hasD v ⟨0, 0, q⟩ = false := by unfold Vec.hasD; simp only [Bool.and_eq_false_iff]; exact .inr (.inr d2)
            go_wp2
            go_quiet ((go_at_call 31; with_reducible exact HC.out _ _))
            go_wp2
            go_ret
            exact ⟨by rw [hh]; rfl, Mem.below_drewN H2.out.b _⟩
        · have d1 : decide (1 ≤ q) = false := by simpa using h1
          have hh : Vec.hasD v ⟨0, 0, q⟩ = false := by unfold Vec.hasD; simp only [Bool.and_eq_false_iff]; exact .inr (.inl d1)
          go_wp2
          go_quiet ((go_at_call 31; with_reducible exact HC.out _ _))
          go_wp2
          go_ret
          exact ⟨by rw [hh]; rfl, Mem.below_drewN H2.out.b _⟩
      ·
        have y0 := H2.out.X.cell (j := 1) rfl
        have HC : Hid (∀ (w : World) (m : Nat), Calls Try.prog 31 #[.int .i64 0, .int .i64 1] (w.drewN m) fun e w' => e = .returned (.bool true) ∧ ∃ m, w' = w.drewN m) := fun w m => quiet_chain 0 1 w m
        by_cases h1 : 1 ≤ q
        · have d1 : decide (1 ≤ q) = true := by simpa using h1
          by_cases h2 : q ≤ v.a.b
          · have d2 : decide (q ≤ v.a.b) = true := by simpa using h2
            have hh : Vec.hasD v ⟨0, 1, q⟩ = true := by unfold Vec.hasD; simp only [Bool.and_eq_true]; exact ⟨rfl, d1, d2⟩
            go_wp2
            go_quiet ((go_at_call 31; with_reducible exact HC.out _ _))
            go_wp2
            go_ret
            exact ⟨by rw [hh]; rfl, Mem.below_drewN H2.out.b _⟩
          · have d2 : decide (q ≤ v.a.b) = false := by simpa using h2
            have hh : Vec.hasD v ⟨0, 1, q⟩ = false := by unfold Vec.hasD; simp only [Bool.and_eq_false_iff]; exact .inr (.inr d2)
            go_wp2
            go_quiet ((go_at_call 31; with_reducible exact HC.out _ _))
            go_wp2
            go_ret
            exact ⟨by rw [hh]; rfl, Mem.below_drewN H2.out.b _⟩
        · have d1 : decide (1 ≤ q) = false := by simpa using h1
          have hh : Vec.hasD v ⟨0, 1, q⟩ = false := by unfold Vec.hasD; simp only [Bool.and_eq_false_iff]; exact .inr (.inl d1)
          go_wp2
          go_quiet ((go_at_call 31; with_reducible exact HC.out _ _))
          go_wp2
          go_ret
          exact ⟨by rw [hh]; rfl, Mem.below_drewN H2.out.b _⟩
      ·
        have y0 := H2.out.X.cell (j := 2) rfl
        have HC : Hid (∀ (w : World) (m : Nat), Calls Try.prog 31 #[.int .i64 0, .int .i64 2] (w.drewN m) fun e w' => e = .returned (.bool true) ∧ ∃ m, w' = w.drewN m) := fun w m => quiet_chain 0 2 w m
        by_cases h1 : 1 ≤ q
        · have d1 : decide (1 ≤ q) = true := by simpa using h1
          by_cases h2 : q ≤ v.a.c
          · have d2 : decide (q ≤ v.a.c) = true := by simpa using h2
            have hh : Vec.hasD v ⟨0, 2, q⟩ = true := by unfold Vec.hasD; simp only [Bool.and_eq_true]; exact ⟨rfl, d1, d2⟩
            go_wp2
            go_quiet ((go_at_call 31; with_reducible exact HC.out _ _))
            go_wp2
            go_ret
            exact ⟨by rw [hh]; rfl, Mem.below_drewN H2.out.b _⟩
          · have d2 : decide (q ≤ v.a.c) = false := by simpa using h2
            have hh : Vec.hasD v ⟨0, 2, q⟩ = false := by unfold Vec.hasD; simp only [Bool.and_eq_false_iff]; exact .inr (.inr d2)
            go_wp2
            go_quiet ((go_at_call 31; with_reducible exact HC.out _ _))
            go_wp2
            go_ret
            exact ⟨by rw [hh]; rfl, Mem.below_drewN H2.out.b _⟩
        · have d1 : decide (1 ≤ q) = false := by simpa using h1
          have hh : Vec.hasD v ⟨0, 2, q⟩ = false := by unfold Vec.hasD; simp only [Bool.and_eq_false_iff]; exact .inr (.inl d1)
          go_wp2
          go_quiet ((go_at_call 31; with_reducible exact HC.out _ _))
          go_wp2
          go_ret
          exact ⟨by rw [hh]; rfl, Mem.below_drewN H2.out.b _⟩
    · rcases h2 with rfl | rfl | rfl
      ·
        have y0 := H2.out.X.cell (j := 3) rfl
        have HC : Hid (∀ (w : World) (m : Nat), Calls Try.prog 31 #[.int .i64 1, .int .i64 0] (w.drewN m) fun e w' => e = .returned (.bool true) ∧ ∃ m, w' = w.drewN m) := fun w m => quiet_chain 1 0 w m
        by_cases h1 : 1 ≤ q
        · have d1 : decide (1 ≤ q) = true := by simpa using h1
          by_cases h2 : q ≤ v.b.a
          · have d2 : decide (q ≤ v.b.a) = true := by simpa using h2
            have hh : Vec.hasD v ⟨1, 0, q⟩ = true := by unfold Vec.hasD; simp only [Bool.and_eq_true]; exact ⟨rfl, d1, d2⟩
            go_wp2
            go_quiet ((go_at_call 31; with_reducible exact HC.out _ _))
            go_wp2
            go_ret
            exact ⟨by rw [hh]; rfl, Mem.below_drewN H2.out.b _⟩
          · have d2 : decide (q ≤ v.b.a) = false := by simpa using h2
            have hh : Vec.hasD v ⟨1, 0, q⟩ = false := by unfold Vec.hasD; simp only [Bool.and_eq_false_iff]; exact .inr (.inr d2)
            go_wp2
            go_quiet ((go_at_call 31; with_reducible exact HC.out _ _))
            go_wp2
            go_ret
            exact ⟨by rw [hh]; rfl, Mem.below_drewN H2.out.b _⟩
        · have d1 : decide (1 ≤ q) = false := by simpa using h1
          have hh : Vec.hasD v ⟨1, 0, q⟩ = false := by unfold Vec.hasD; simp only [Bool.and_eq_false_iff]; exact .inr (.inl d1)
          go_wp2
          go_quiet ((go_at_call 31; with_reducible exact HC.out _ _))
          go_wp2
          go_ret
          exact ⟨by rw [hh]; rfl, Mem.below_drewN H2.out.b _⟩
      ·
        have y0 := H2.out.X.cell (j := 4) rfl
        have HC : Hid (∀ (w : World) (m : Nat), Calls Try.prog 31 #[.int .i64 1, .int .i64 1] (w.drewN m) fun e w' => e = .returned (.bool true) ∧ ∃ m, w' = w.drewN m) := fun w m => quiet_chain 1 1 w m
        by_cases h1 : 1 ≤ q
        · have d1 : decide (1 ≤ q) = true := by simpa using h1
          by_cases h2 : q ≤ v.b.b
          · have d2 : decide (q ≤ v.b.b) = true := by simpa using h2
            have hh : Vec.hasD v ⟨1, 1, q⟩ = true := by unfold Vec.hasD; simp only [Bool.and_eq_true]; exact ⟨rfl, d1, d2⟩
            go_wp2
            go_quiet ((go_at_call 31; with_reducible exact HC.out _ _))
            go_wp2
            go_ret
            exact ⟨by rw [hh]; rfl, Mem.below_drewN H2.out.b _⟩
          · have d2 : decide (q ≤ v.b.b) = false := by simpa using h2
            have hh : Vec.hasD v ⟨1, 1, q⟩ = false := by unfold Vec.hasD; simp only [Bool.and_eq_false_iff]; exact .inr (.inr d2)
            go_wp2
            go_quiet ((go_at_call 31; with_reducible exact HC.out _ _))
            go_wp2
            go_ret
            exact ⟨by rw [hh]; rfl, Mem.below_drewN H2.out.b _⟩
        · have d1 : decide (1 ≤ q) = false := by simpa using h1
          have hh : Vec.hasD v ⟨1, 1, q⟩ = false := by unfold Vec.hasD; simp only [Bool.and_eq_false_iff]; exact .inr (.inl d1)
          go_wp2
          go_quiet ((go_at_call 31; with_reducible exact HC.out _ _))
          go_wp2
          go_ret
          exact ⟨by rw [hh]; rfl, Mem.below_drewN H2.out.b _⟩
      ·
        have y0 := H2.out.X.cell (j := 5) rfl
        have HC : Hid (∀ (w : World) (m : Nat), Calls Try.prog 31 #[.int .i64 1, .int .i64 2] (w.drewN m) fun e w' => e = .returned (.bool true) ∧ ∃ m, w' = w.drewN m) := fun w m => quiet_chain 1 2 w m
        by_cases h1 : 1 ≤ q
        · have d1 : decide (1 ≤ q) = true := by simpa using h1
          by_cases h2 : q ≤ v.b.c
          · have d2 : decide (q ≤ v.b.c) = true := by simpa using h2
            have hh : Vec.hasD v ⟨1, 2, q⟩ = true := by unfold Vec.hasD; simp only [Bool.and_eq_true]; exact ⟨rfl, d1, d2⟩
            go_wp2
            go_quiet ((go_at_call 31; with_reducible exact HC.out _ _))
            go_wp2
            go_ret
            exact ⟨by rw [hh]; rfl, Mem.below_drewN H2.out.b _⟩
          · have d2 : decide (q ≤ v.b.c) = false := by simpa using h2
            have hh : Vec.hasD v ⟨1, 2, q⟩ = false := by unfold Vec.hasD; simp only [Bool.and_eq_false_iff]; exact .inr (.inr d2)
            go_wp2
            go_quiet ((go_at_call 31; with_reducible exact HC.out _ _))
            go_wp2
            go_ret
            exact ⟨by rw [hh]; rfl, Mem.below_drewN H2.out.b _⟩
        · have d1 : decide (1 ≤ q) = false := by simpa using h1
          have hh : Vec.hasD v ⟨1, 2, q⟩ = false := by unfold Vec.hasD; simp only [Bool.and_eq_false_iff]; exact .inr (.inl d1)
          go_wp2
          go_quiet ((go_at_call 31; with_reducible exact HC.out _ _))
          go_wp2
          go_ret
          exact ⟨by rw [hh]; rfl, Mem.below_drewN H2.out.b _⟩
    · rcases h2 with rfl | rfl | rfl
      ·
        have y0 := H2.out.X.cell (j := 6) rfl
        have HC : Hid (∀ (w : World) (m : Nat), Calls Try.prog 31 #[.int .i64 2, .int .i64 0] (w.drewN m) fun e w' => e = .returned (.bool true) ∧ ∃ m, w' = w.drewN m) := fun w m => quiet_chain 2 0 w m
        by_cases h1 : 1 ≤ q
        · have d1 : decide (1 ≤ q) = true := by simpa using h1
          by_cases h2 : q ≤ v.c.a
          · have d2 : decide (q ≤ v.c.a) = true := by simpa using h2
            have hh : Vec.hasD v ⟨2, 0, q⟩ = true := by unfold Vec.hasD; simp only [Bool.and_eq_true]; exact ⟨rfl, d1, d2⟩
            go_wp2
            go_quiet ((go_at_call 31; with_reducible exact HC.out _ _))
            go_wp2
            go_ret
            exact ⟨by rw [hh]; rfl, Mem.below_drewN H2.out.b _⟩
          · have d2 : decide (q ≤ v.c.a) = false := by simpa using h2
            have hh : Vec.hasD v ⟨2, 0, q⟩ = false := by unfold Vec.hasD; simp only [Bool.and_eq_false_iff]; exact .inr (.inr d2)
            go_wp2
            go_quiet ((go_at_call 31; with_reducible exact HC.out _ _))
            go_wp2
            go_ret
            exact ⟨by rw [hh]; rfl, Mem.below_drewN H2.out.b _⟩
        · have d1 : decide (1 ≤ q) = false := by simpa using h1
          have hh : Vec.hasD v ⟨2, 0, q⟩ = false := by unfold Vec.hasD; simp only [Bool.and_eq_false_iff]; exact .inr (.inl d1)
          go_wp2
          go_quiet ((go_at_call 31; with_reducible exact HC.out _ _))
          go_wp2
          go_ret
          exact ⟨by rw [hh]; rfl, Mem.below_drewN H2.out.b _⟩
      ·
        have y0 := H2.out.X.cell (j := 7) rfl
        have HC : Hid (∀ (w : World) (m : Nat), Calls Try.prog 31 #[.int .i64 2, .int .i64 1] (w.drewN m) fun e w' => e = .returned (.bool true) ∧ ∃ m, w' = w.drewN m) := fun w m => quiet_chain 2 1 w m
        by_cases h1 : 1 ≤ q
        · have d1 : decide (1 ≤ q) = true := by simpa using h1
          by_cases h2 : q ≤ v.c.b
          · have d2 : decide (q ≤ v.c.b) = true := by simpa using h2
            have hh : Vec.hasD v ⟨2, 1, q⟩ = true := by unfold Vec.hasD; simp only [Bool.and_eq_true]; exact ⟨rfl, d1, d2⟩
            go_wp2
            go_quiet ((go_at_call 31; with_reducible exact HC.out _ _))
            go_wp2
            go_ret
            exact ⟨by rw [hh]; rfl, Mem.below_drewN H2.out.b _⟩
          · have d2 : decide (q ≤ v.c.b) = false := by simpa using h2
            have hh : Vec.hasD v ⟨2, 1, q⟩ = false := by unfold Vec.hasD; simp only [Bool.and_eq_false_iff]; exact .inr (.inr d2)
            go_wp2
            go_quiet ((go_at_call 31; with_reducible exact HC.out _ _))
            go_wp2
            go_ret
            exact ⟨by rw [hh]; rfl, Mem.below_drewN H2.out.b _⟩
        · have d1 : decide (1 ≤ q) = false := by simpa using h1
          have hh : Vec.hasD v ⟨2, 1, q⟩ = false := by unfold Vec.hasD; simp only [Bool.and_eq_false_iff]; exact .inr (.inl d1)
          go_wp2
          go_quiet ((go_at_call 31; with_reducible exact HC.out _ _))
          go_wp2
          go_ret
          exact ⟨by rw [hh]; rfl, Mem.below_drewN H2.out.b _⟩
      ·
        have y0 := H2.out.X.cell (j := 8) rfl
        have HC : Hid (∀ (w : World) (m : Nat), Calls Try.prog 31 #[.int .i64 2, .int .i64 2] (w.drewN m) fun e w' => e = .returned (.bool true) ∧ ∃ m, w' = w.drewN m) := fun w m => quiet_chain 2 2 w m
        by_cases h1 : 1 ≤ q
        · have d1 : decide (1 ≤ q) = true := by simpa using h1
          by_cases h2 : q ≤ v.c.c
          · have d2 : decide (q ≤ v.c.c) = true := by simpa using h2
            have hh : Vec.hasD v ⟨2, 2, q⟩ = true := by unfold Vec.hasD; simp only [Bool.and_eq_true]; exact ⟨rfl, d1, d2⟩
            go_wp2
            go_quiet ((go_at_call 31; with_reducible exact HC.out _ _))
            go_wp2
            go_ret
            exact ⟨by rw [hh]; rfl, Mem.below_drewN H2.out.b _⟩
          · have d2 : decide (q ≤ v.c.c) = false := by simpa using h2
            have hh : Vec.hasD v ⟨2, 2, q⟩ = false := by unfold Vec.hasD; simp only [Bool.and_eq_false_iff]; exact .inr (.inr d2)
            go_wp2
            go_quiet ((go_at_call 31; with_reducible exact HC.out _ _))
            go_wp2
            go_ret
            exact ⟨by rw [hh]; rfl, Mem.below_drewN H2.out.b _⟩
        · have d1 : decide (1 ≤ q) = false := by simpa using h1
          have hh : Vec.hasD v ⟨2, 2, q⟩ = false := by unfold Vec.hasD; simp only [Bool.and_eq_false_iff]; exact .inr (.inl d1)
          go_wp2
          go_quiet ((go_at_call 31; with_reducible exact HC.out _ _))
          go_wp2
          go_ret
          exact ⟨by rw [hh]; rfl, Mem.below_drewN H2.out.b _⟩
end Go.Proofs.Ytelephoalpphkaa
