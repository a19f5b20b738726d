/- Several texts of this proof in one file, in the order in which they build: Ref4c, RefC, RefH, RefG, Aud32, AudR1, AudR3. No conditions but those that each theorem names. -/
import Derived.Test.YtelephoalpphkaaStampC
import Derived.Test.YtelephoalpphkaaTyCov
import Derived.Test.YtelephoalpphkaaAud2
import Derived.Test.YtelephoalpphkaaMgZ
import Derived.Test.YtelephoalpphkaaAud5
section
/- The document's order of stamps. No conditions. -/
namespace Go.Proofs.Ytelephoalpphkaa
open Go.RowKit
set_option linter.unusedVariables false
set_option linter.unusedSimpArgs false
theorem order_any (x y : Int) (w : World) :
    Calls Try.prog 72 #[.int .i64 x, .int .i64 y] w fun e w' => e = .returned (.int .i64 (Stamp.cmpI x y)) ∧ w = w' := by
  rcases Int.lt_trichotomy x y with h | h | h
  · go_enter Try.func72, Try.ntmps72
    go_wp2
    go_ret
    exact ⟨by show Ending.returned (.int .i64 (-1)) = _; rw [Stamp.cmpI, if_pos h], rfl⟩
  · subst h
    go_enter Try.func72, Try.ntmps72
    go_wp2
    go_ret
    exact ⟨by show Ending.returned (.int .i64 0) = _; rw [Stamp.cmpI, if_neg (by omega), if_neg (by omega)], rfl⟩
  · have h' : ¬ x < y := by omega
    go_enter Try.func72, Try.ntmps72
    go_wp2
    go_ret
    exact ⟨by show Ending.returned (.int .i64 1) = _; rw [Stamp.cmpI, if_neg (by omega), if_pos h], rfl⟩

namespace Stamp
theorem cmpI_eq {x y : Int} : cmpI x y = 0 ↔ x = y := by
  unfold cmpI
  constructor
  · intro h; split at h
    · omega
    · split at h <;> omega
  · intro h; rw [if_neg (by omega), if_neg (by omega)]
theorem cmpS_c {a b : St} (h : a.c ≠ b.c) : cmpS a b = cmpI a.c b.c := by
  unfold cmpS firstNZ; rw [if_neg (fun e => h (cmpI_eq.1 e))]
theorem cmpS_d {a b : St} (h : a.c = b.c) (h2 : a.d ≠ b.d) : cmpS a b = cmpI a.d b.d := by
  unfold cmpS; simp only [firstNZ]; rw [if_pos (cmpI_eq.2 h), if_neg (fun e => h2 (cmpI_eq.1 e))]
theorem cmpS_r {a b : St} (h : a.c = b.c) (h2 : a.d = b.d) : cmpS a b = cmpI a.r b.r := by
  unfold cmpS; simp only [firstNZ]; rw [if_pos (cmpI_eq.2 h), if_pos (cmpI_eq.2 h2)]; split
  · rename_i h3; rw [h3]
  · rfl
end Stamp

set_option maxHeartbeats 1000000 in
theorem refCmp_any (a b : Stamp.St) (w : World) :
    Calls Try.prog 62 #[Stamp.S a, Stamp.S b] w fun e w' => e = .returned (.int .i64 (Stamp.cmpS a b)) ∧ Below w.heap.size w w' := by
  have HB := Lib.hid (show Below w.heap.size w ((w.alloc (.cells #[.int .i64 a.c, .int .i64 a.d, .int .i64 a.r] 30)).alloc (.cells #[.int .i64 b.c, .int .i64 b.d, .int .i64 b.r] 30)) from (Reg.below_new _ _).alloc (by simp) _)
  by_cases h1 : a.c = b.c
  · have t1 : (a.c != b.c) = false := by simp [h1]
    by_cases h2 : a.d = b.d
    · have t2 : (a.d != b.d) = false := by simp [h2]
      have H := Lib.hid (Stamp.cmpS_r h1 h2)
      clear h1 h2
      go_enter Try.func62, Try.ntmps62
      go_wp2_with (go_at_call 72; refine (order_any _ _ _).mono ?_; rintro e w' ⟨rfl, rfl⟩)
      go_ret
      exact ⟨by rw [H.out]; rfl, HB.out⟩
    · have t2 : (a.d != b.d) = true := by simp [h2]
      have H := Lib.hid (Stamp.cmpS_d h1 h2)
      clear h1 h2
      go_enter Try.func62, Try.ntmps62
      go_wp2_with (go_at_call 72; refine (order_any _ _ _).mono ?_; rintro e w' ⟨rfl, rfl⟩)
      go_ret
      exact ⟨by rw [H.out]; rfl, HB.out⟩
  · have t1 : (a.c != b.c) = true := by simp [h1]
    have H := Lib.hid (Stamp.cmpS_c h1)
    clear h1
    go_enter Try.func62, Try.ntmps62
    go_wp2_with (go_at_call 72; refine (order_any _ _ _).mono ?_; rintro e w' ⟨rfl, rfl⟩)
    go_ret
    exact ⟨by rw [H.out]; rfl, HB.out⟩

end Go.Proofs.Ytelephoalpphkaa
end
section
/- The document's vectors: covers, chain. No conditions. -/
namespace Go.Proofs.Ytelephoalpphkaa
open Go.ChangeShapes Go.WideShapes Go.ChangeAt Go.RowKit
set_option linter.unusedVariables false
set_option linter.unusedSimpArgs false
open Vec in
set_option maxRecDepth 8000 in
set_option maxHeartbeats 4000000 in
theorem refCovers_any (x y : Vec.Vc) (w : World) :
    Calls Try.prog 30 #[.agg (Vec.vcCells x).toArray, .agg (Vec.vcCells y).toArray] w fun e w' => e = .returned (.bool (Vec.coversV x y)) ∧ Below w.heap.size w w' := by
  go_enter Try.func30, Try.ntmps30
  go_wp2
  go_loopw [5] (CvRel w x y) (fun t _ => 3 - (intOf t).toNat)
  case atStart =>
    refine ⟨⟨0, by omega, rfl, rfl, ?_, ?_, ?_⟩⟩
    · exact (Mem.Bx.new w 33 (vcCells x).toArray rfl rfl).below (Reg.below_new _ _) (by simp)
    · exact Mem.Bx.new (w.alloc _) 33 (vcCells y).toArray rfl (by simp)
    · exact (Reg.below_new _ _).alloc (by simp) _
  case round =>
    obtain ⟨k, hk, rfl, hpk, HA⟩ := hrel.out
    have hck : k = 0 ∨ k = 1 ∨ k = 2 ∨ k = 3 := by omega
    rcases hck with rfl | rfl | rfl | rfl
    ·
      go_wp2
      rename World => wo
      go_loopw [6] (CvRow w x y x.a y.a) (fun t _ => 3 - (intOf t).toNat)
      case atStart => exact ⟨⟨0, by omega, rfl, rfl, HA⟩⟩
      case round =>
        clear HA
        obtain ⟨j, hj, rfl, hpj, HA⟩ := hrel.out
        have hcj : j = 0 ∨ j = 1 ∨ j = 2 ∨ j = 3 := by omega
        rcases hcj with rfl | rfl | rfl | rfl
        ·
          have x0 := HA.out.X.cell (j := 0) rfl
          have x1 := HA.out.Y.cell (j := 0) rfl
          by_cases hlt : y.a.a ≤ x.a.a
          · have hd : decide (x.a.a < y.a.a) = false := by simp; omega
            have hnx : Vec.covP x.a y.a (0 + 1) = true := by unfold Vec.covP at hpj ⊢; simp_all
            go_wp2
            go_quiet (fail)
            go_wp2
            go_roundw
            case rel => exact ⟨⟨0 + 1, by omega, rfl, hnx, HA.out.drewN _⟩⟩
            case measure => simp [intOf]
          · have hd : decide (x.a.a < y.a.a) = true := by simp; omega
            have hcv : Vec.coversV x y = false := by unfold Vec.coversV Vec.covV Vec.covP; simp; omega
            go_wp2
            go_quiet (fail)
            go_wp2
            go_ret
            exact ⟨by rw [hcv]; rfl, Mem.below_drewN HA.out.b _⟩
        ·
          have x0 := HA.out.X.cell (j := 1) rfl
          have x1 := HA.out.Y.cell (j := 1) rfl
          by_cases hlt : y.a.b ≤ x.a.b
          · have hd : decide (x.a.b < y.a.b) = false := by simp; omega
            have hnx : Vec.covP x.a y.a (1 + 1) = true := by unfold Vec.covP at hpj ⊢; simp_all
            go_wp2
            go_quiet (fail)
            go_wp2
            go_roundw
            case rel => exact ⟨⟨1 + 1, by omega, rfl, hnx, HA.out.drewN _⟩⟩
            case measure => simp [intOf]
          · have hd : decide (x.a.b < y.a.b) = true := by simp; omega
            have hcv : Vec.coversV x y = false := by unfold Vec.coversV Vec.covV Vec.covP; simp; omega
            go_wp2
            go_quiet (fail)
            go_wp2
            go_ret
            exact ⟨by rw [hcv]; rfl, Mem.below_drewN HA.out.b _⟩
        ·
          have x0 := HA.out.X.cell (j := 2) rfl
          have x1 := HA.out.Y.cell (j := 2) rfl
          by_cases hlt : y.a.c ≤ x.a.c
          · have hd : decide (x.a.c < y.a.c) = false := by simp; omega
            have hnx : Vec.covP x.a y.a (2 + 1) = true := by unfold Vec.covP at hpj ⊢; simp_all
            go_wp2
            go_quiet (fail)
            go_wp2
            go_roundw
            case rel => exact ⟨⟨2 + 1, by omega, rfl, hnx, HA.out.drewN _⟩⟩
            case measure => simp [intOf]
          · have hd : decide (x.a.c < y.a.c) = true := by simp; omega
            have hcv : Vec.coversV x y = false := by unfold Vec.coversV Vec.covV Vec.covP; simp; omega
            go_wp2
            go_quiet (fail)
            go_wp2
            go_ret
            exact ⟨by rw [hcv]; rfl, Mem.below_drewN HA.out.b _⟩
        · have hnx : Vec.covV x y (0 + 1) = true := by unfold Vec.covV at hpk ⊢; simp_all
          go_wp2
          go_roundw
          case rel => exact ⟨⟨0 + 1, by omega, rfl, hnx, HA⟩⟩
          case measure => simp [intOf]
    ·
      go_wp2
      rename World => wo
      go_loopw [6] (CvRow w x y x.b y.b) (fun t _ => 3 - (intOf t).toNat)
      case atStart => exact ⟨⟨0, by omega, rfl, rfl, HA⟩⟩
      case round =>
        clear HA
        obtain ⟨j, hj, rfl, hpj, HA⟩ := hrel.out
        have hcj : j = 0 ∨ j = 1 ∨ j = 2 ∨ j = 3 := by omega
        rcases hcj with rfl | rfl | rfl | rfl
        ·
          have x0 := HA.out.X.cell (j := 3) rfl
          have x1 := HA.out.Y.cell (j := 3) rfl
          by_cases hlt : y.b.a ≤ x.b.a
          · have hd : decide (x.b.a < y.b.a) = false := by simp; omega
            have hnx : Vec.covP x.b y.b (0 + 1) = true := by unfold Vec.covP at hpj ⊢; simp_all
            go_wp2
            go_quiet (fail)
            go_wp2
            go_roundw
            case rel => exact ⟨⟨0 + 1, by omega, rfl, hnx, HA.out.drewN _⟩⟩
            case measure => simp [intOf]
          · have hd : decide (x.b.a < y.b.a) = true := by simp; omega
            have hcv : Vec.coversV x y = false := by unfold Vec.coversV Vec.covV Vec.covP; simp; omega
            go_wp2
            go_quiet (fail)
            go_wp2
            go_ret
            exact ⟨by rw [hcv]; rfl, Mem.below_drewN HA.out.b _⟩
        ·
          have x0 := HA.out.X.cell (j := 4) rfl
          have x1 := HA.out.Y.cell (j := 4) rfl
          by_cases hlt : y.b.b ≤ x.b.b
          · have hd : decide (x.b.b < y.b.b) = false := by simp; omega
            have hnx : Vec.covP x.b y.b (1 + 1) = true := by unfold Vec.covP at hpj ⊢; simp_all
            go_wp2
            go_quiet (fail)
            go_wp2
            go_roundw
            case rel => exact ⟨⟨1 + 1, by omega, rfl, hnx, HA.out.drewN _⟩⟩
            case measure => simp [intOf]
          · have hd : decide (x.b.b < y.b.b) = true := by simp; omega
            have hcv : Vec.coversV x y = false := by unfold Vec.coversV Vec.covV Vec.covP; simp; omega
            go_wp2
            go_quiet (fail)
            go_wp2
            go_ret
            exact ⟨by rw [hcv]; rfl, Mem.below_drewN HA.out.b _⟩
        ·
          have x0 := HA.out.X.cell (j := 5) rfl
          have x1 := HA.out.Y.cell (j := 5) rfl
          by_cases hlt : y.b.c ≤ x.b.c
          · have hd : decide (x.b.c < y.b.c) = false := by simp; omega
            have hnx : Vec.covP x.b y.b (2 + 1) = true := by unfold Vec.covP at hpj ⊢; simp_all
            go_wp2
            go_quiet (fail)
            go_wp2
            go_roundw
            case rel => exact ⟨⟨2 + 1, by omega, rfl, hnx, HA.out.drewN _⟩⟩
            case measure => simp [intOf]
          · have hd : decide (x.b.c < y.b.c) = true := by simp; omega
            have hcv : Vec.coversV x y = false := by unfold Vec.coversV Vec.covV Vec.covP; simp; omega
            go_wp2
            go_quiet (fail)
            go_wp2
            go_ret
            exact ⟨by rw [hcv]; rfl, Mem.below_drewN HA.out.b _⟩
        · have hnx : Vec.covV x y (1 + 1) = true := by unfold Vec.covV at hpk ⊢; simp_all
          go_wp2
          go_roundw
          case rel => exact ⟨⟨1 + 1, by omega, rfl, hnx, HA⟩⟩
          case measure => simp [intOf]
    ·
      go_wp2
      rename World => wo
      go_loopw [6] (CvRow w x y x.c y.c) (fun t _ => 3 - (intOf t).toNat)
      case atStart => exact ⟨⟨0, by omega, rfl, rfl, HA⟩⟩
      case round =>
        clear HA
        obtain ⟨j, hj, rfl, hpj, HA⟩ := hrel.out
        have hcj : j = 0 ∨ j = 1 ∨ j = 2 ∨ j = 3 := by omega
        rcases hcj with rfl | rfl | rfl | rfl
        ·
          have x0 := HA.out.X.cell (j := 6) rfl
          have x1 := HA.out.Y.cell (j := 6) rfl
          by_cases hlt : y.c.a ≤ x.c.a
          · have hd : decide (x.c.a < y.c.a) = false := by simp; omega
            have hnx : Vec.covP x.c y.c (0 + 1) = true := by unfold Vec.covP at hpj ⊢; simp_all
            go_wp2
            go_quiet (fail)
            go_wp2
            go_roundw
            case rel => exact ⟨⟨0 + 1, by omega, rfl, hnx, HA.out.drewN _⟩⟩
            case measure => simp [intOf]
          · have hd : decide (x.c.a < y.c.a) = true := by simp; omega
            have hcv : Vec.coversV x y = false := by unfold Vec.coversV Vec.covV Vec.covP; simp; omega
            go_wp2
            go_quiet (fail)
            go_wp2
            go_ret
            exact ⟨by rw [hcv]; rfl, Mem.below_drewN HA.out.b _⟩
        ·
          have x0 := HA.out.X.cell (j := 7) rfl
          have x1 := HA.out.Y.cell (j := 7) rfl
          by_cases hlt : y.c.b ≤ x.c.b
          · have hd : decide (x.c.b < y.c.b) = false := by simp; omega
            have hnx : Vec.covP x.c y.c (1 + 1) = true := by unfold Vec.covP at hpj ⊢; simp_all
            go_wp2
            go_quiet (fail)
            go_wp2
            go_roundw
            case rel => exact ⟨⟨1 + 1, by omega, rfl, hnx, HA.out.drewN _⟩⟩
            case measure => simp [intOf]
          · have hd : decide (x.c.b < y.c.b) = true := by simp; omega
            have hcv : Vec.coversV x y = false := by unfold Vec.coversV Vec.covV Vec.covP; simp; omega
            go_wp2
            go_quiet (fail)
            go_wp2
            go_ret
            exact ⟨by rw [hcv]; rfl, Mem.below_drewN HA.out.b _⟩
        ·
          have x0 := HA.out.X.cell (j := 8) rfl
          have x1 := HA.out.Y.cell (j := 8) rfl
          by_cases hlt : y.c.c ≤ x.c.c
          · have hd : decide (x.c.c < y.c.c) = false := by simp; omega
            have hnx : Vec.covP x.c y.c (2 + 1) = true := by unfold Vec.covP at hpj ⊢; simp_all
            go_wp2
            go_quiet (fail)
            go_wp2
            go_roundw
            case rel => exact ⟨⟨2 + 1, by omega, rfl, hnx, HA.out.drewN _⟩⟩
            case measure => simp [intOf]
          · have hd : decide (x.c.c < y.c.c) = true := by simp; omega
            have hcv : Vec.coversV x y = false := by unfold Vec.coversV Vec.covV Vec.covP; simp; omega
            go_wp2
            go_quiet (fail)
            go_wp2
            go_ret
            exact ⟨by rw [hcv]; rfl, Mem.below_drewN HA.out.b _⟩
        · have hnx : Vec.covV x y (2 + 1) = true := by unfold Vec.covV at hpk ⊢; simp_all
          go_wp2
          go_roundw
          case rel => exact ⟨⟨2 + 1, by omega, rfl, hnx, HA⟩⟩
          case measure => simp [intOf]
    · have hv : Vec.coversV x y = true := hpk
      go_wp2
      go_ret
      exact ⟨by rw [hv]; rfl, HA.out.b⟩

set_option maxHeartbeats 1000000 in
theorem refChain_any (d : Vec.Dt) (w : World) :
    Calls Try.prog 42 #[.agg (Vec.dtCells d).toArray] w fun e w' => e = .returned (.bool (Vec.chain d.dc d.rng)) ∧ Below w.heap.size w w' := by
  obtain ⟨dc, rng, q⟩ := d
  obtain ⟨b, hb, h⟩ := Vec.chain_arms dc rng
  show Calls Try.prog 42 #[.agg #[.int .i64 dc, .int .i64 rng, .int .i64 q]] w fun e w' => e = .returned (.bool (Vec.chain dc rng)) ∧ Below w.heap.size w w'
  rw [hb]
  clear hb
  have HB := Lib.hid (show Below w.heap.size w (w.alloc (.cells #[.int .i64 dc, .int .i64 rng, .int .i64 q] 28)) from Reg.below_new _ _)
  rcases h with ⟨rfl, h1, h2, h3, h4⟩ | ⟨rfl, h | ⟨h1, h⟩ | ⟨h1, h2, h⟩ | ⟨h1, h2, h3, h⟩⟩ <;>
  · go_enter Try.func42, Try.ntmps42
    go_wp2
    go_ret
    exact ⟨rfl, HB.out⟩
end Go.Proofs.Ytelephoalpphkaa
end
section
/- The document's Has. No conditions. -/
set_option maxRecDepth 8000
namespace Go.Proofs.Ytelephoalpphkaa
open Go.ChangeShapes Go.WideShapes Go.ChangeAt Go.RowKit
set_option linter.unusedVariables false
set_option linter.unusedSimpArgs false
namespace Vec
theorem vc_cellR (v : Vc) {d r : Nat} (hd : d < 3) (hr : r < 3) : (vcCells v)[d * 3 + r]? = some (.int .i64 (v.get d r)) := by
  match d, r, hd, hr with
  | 0, 0, _, _ => rfl
  | 0, 1, _, _ => rfl
  | 0, 2, _, _ => rfl
  | 1, 0, _, _ => rfl
  | 1, 1, _, _ => rfl
  | 1, 2, _, _ => rfl
  | 2, 0, _, _ => rfl
  | 2, 1, _, _ => rfl
  | 2, 2, _, _ => rfl
end Vec
open Vec in
set_option maxRecDepth 8000 in
set_option maxHeartbeats 4000000 in
theorem refHas_any (vv : Vec.Vc) (d : Vec.Dt) (w : World) :
    Calls Try.prog 27 #[.agg (Vec.vcCells vv).toArray, .agg (Vec.dtCells d).toArray] w fun e w' => e = .returned (.bool (Vec.hasD vv d)) ∧ Below w.heap.size w w' := by
  obtain ⟨dc, rng, q⟩ := d
  go_enter Try.func27, Try.ntmps27
  go_upto_region 1 with fail
  have H2 : Hid (HasAt w vv ⟨dc, rng, q⟩ ((w.alloc (.cells (vcCells vv).toArray 33)).alloc (.cells (dtCells ⟨dc, rng, q⟩).toArray 28))) :=
    ⟨(Mem.Bx.new w 33 (vcCells vv).toArray rfl rfl).below (Reg.below_new _ _) (by simp), Mem.Bx.new (w.alloc _) 28 (dtCells ⟨dc, rng, q⟩).toArray rfl (by simp), (Reg.below_new _ _).alloc (by simp) _⟩
  obtain ⟨w2, hw2⟩ : ∃ w2, ((w.alloc (.cells (vcCells vv).toArray 33)).alloc (.cells (dtCells ⟨dc, rng, q⟩).toArray 28)) = w2 := ⟨_, rfl⟩
  rw [hw2] at H2
  rw [hw2]
  clear hw2
  cases hch : Vec.chain dc rng
  · have hh : Vec.hasD vv ⟨dc, rng, q⟩ = false := by unfold Vec.hasD; rw [hch]; rfl
    have HCH := Lib.hid hch
    have HXL := Lib.hid H2.out.X.lt
    have HVC : Hid (w2.cell? ⟨w.heap.size, 0, none⟩ = some (.int .i64 vv.a.a)) := H2.out.X.cell (j := 0) rfl
    clear hch
    refine Reg.wp_region_rel (by kernel_rfl) 24 20 rfl rfl (by kernel_rfl) (Reg.Adds) (Reg.Adds.refl) (Reg.Adds.trans)
      (fun i v u => match i with
        | 0 => v = .agg (dtCells ⟨dc, rng, q⟩).toArray
        | 1 => v = .bool false
        | 2 => v = .bool false
        | 3 => v = undef
        | 4 => v = undef
        | 5 => v = undef
        | 6 => v = .bool false
        | 7 => v = .bool false
        | 8 => v = undef
        | 9 => v = undef
        | 10 => v = undef
        | 11 => v = undef
        | 12 => v = undef
        | 13 => v = undef
        | 14 => v = undef
        | 15 => v = undef
        | 16 => v = undef
        | 17 => v = undef
        | 18 => v = .bool false
        | 19 => v = .bool false
        | _ => True) ?_ ?_
    · refine Reg.Steps.cons ?_ (Reg.Steps.cons ?_ (Reg.Steps.cons ?_ (Reg.Steps.cons ?_ (Reg.Steps.cons ?_ (Reg.Steps.cons ?_ (Reg.Steps.cons ?_ (Reg.Steps.cons ?_ (Reg.Steps.cons ?_ (Reg.Steps.cons ?_ (Reg.Steps.cons ?_ (Reg.Steps.cons ?_ (Reg.Steps.cons ?_ (Reg.Steps.cons ?_ (Reg.Steps.cons ?_ (Reg.Steps.cons ?_ (Reg.Steps.cons ?_ (Reg.Steps.cons ?_ (Reg.Steps.cons ?_ (Reg.Steps.cons ?_ (Reg.Steps.nil _))))))))))))))))))))
      · intro val ac u hR hp ha K hK
        have e3 : (ac.tmps[3]?).getD undef = .pointer (some ⟨w.heap.size + 1, 0, none⟩) := ha 3 (by decide); clear ha hp
        refine Reg.Op1.plain rfl ?_
        have hDu := H2.out.D.below (w := w2.drew) hR H2.out.D.lt
        refine Mem.load_agg _ _ dot_agg (w.heap.size + 1) 0 (dtCells ⟨dc, rng, q⟩) (Reg.eval_of e3) (dtCells_length _) (fun j u' hu => by rw [Nat.zero_add]; exact hDu.cell hu) ?_
        exact ⟨rfl, hK _ _ rfl (fun j k _ _ => Reg.Adds.refl _ _ _)⟩
      · intro val ac u hR hp ha K hK
        obtain ⟨w5, h5, r5⟩ := hp 0 (by decide); have e5 : (ac.tmps[5]?).getD undef = .agg (dtCells ⟨dc, rng, q⟩).toArray := (ha 5 (by decide)).trans h5; clear h5 ha hp
        refine Reg.Op1.plain rfl ?_
        go_wp2_with fail
        refine (refChain_any ⟨dc, rng, q⟩ u).mono ?_
        rintro x w' ⟨rfl, hbw⟩
        rw [HCH.out]
        go_wp2_with fail
        exact ⟨rfl, hK _ _ rfl (fun j k _ _ => hbw)⟩
      · intro val ac u hR hp ha K hK
        obtain ⟨w6, h6, r6⟩ := hp 1 (by decide); have e6 : (ac.tmps[6]?).getD undef = .bool false := (ha 6 (by decide)).trans h6; clear h6 ha hp
        refine Reg.Op1.plain rfl ?_
        go_wp2
        exact ⟨rfl, hK _ _ rfl (fun j k _ _ => Reg.Adds.refl _ _ _)⟩
      · intro val ac u hR hp ha K hK; obtain ⟨_, h, _⟩ := hp 2 (by decide); exact Reg.Op1.guarded rfl rfl ((ha 7 (by decide)).trans h) (fun h => by cases h) (fun _ => hK _ _ rfl (fun j k _ _ => Reg.Adds.refl _ _ _))
      · intro val ac u hR hp ha K hK; obtain ⟨_, h, _⟩ := hp 2 (by decide); exact Reg.Op1.guarded rfl rfl ((ha 7 (by decide)).trans h) (fun h => by cases h) (fun _ => hK _ _ rfl (fun j k _ _ => Reg.Adds.refl _ _ _))
      · intro val ac u hR hp ha K hK; obtain ⟨_, h, _⟩ := hp 2 (by decide); exact Reg.Op1.guarded rfl rfl ((ha 7 (by decide)).trans h) (fun h => by cases h) (fun _ => hK _ _ rfl (fun j k _ _ => Reg.Adds.refl _ _ _))
      · intro val ac u hR hp ha K hK
        obtain ⟨w7, h7, r7⟩ := hp 2 (by decide); have e7 : (ac.tmps[7]?).getD undef = .bool false := (ha 7 (by decide)).trans h7; obtain ⟨w10, h10, r10⟩ := hp 5 (by decide); have e10 : (ac.tmps[10]?).getD undef = undef := (ha 10 (by decide)).trans h10; clear h7 h10 ha hp
        refine Reg.Op1.plain rfl ?_
        go_wp2
        exact ⟨rfl, hK _ _ rfl (fun j k _ _ => Reg.Adds.refl _ _ _)⟩
      · intro val ac u hR hp ha K hK
        obtain ⟨w11, h11, r11⟩ := hp 6 (by decide); have e11 : (ac.tmps[11]?).getD undef = .bool false := (ha 11 (by decide)).trans h11; clear h11 ha hp
        refine Reg.Op1.plain rfl ?_
        go_wp2
        exact ⟨rfl, hK _ _ rfl (fun j k _ _ => Reg.Adds.refl _ _ _)⟩
      · intro val ac u hR hp ha K hK; obtain ⟨_, h, _⟩ := hp 7 (by decide); exact Reg.Op1.guarded rfl rfl ((ha 12 (by decide)).trans h) (fun h => by cases h) (fun _ => hK _ _ rfl (fun j k _ _ => Reg.Adds.refl _ _ _))
      · intro val ac u hR hp ha K hK; obtain ⟨_, h, _⟩ := hp 7 (by decide); exact Reg.Op1.guarded rfl rfl ((ha 12 (by decide)).trans h) (fun h => by cases h) (fun _ => hK _ _ rfl (fun j k _ _ => Reg.Adds.refl _ _ _))
      · intro val ac u hR hp ha K hK; obtain ⟨_, h, _⟩ := hp 7 (by decide); exact Reg.Op1.guarded rfl rfl ((ha 12 (by decide)).trans h) (fun h => by cases h) (fun _ => hK _ _ rfl (fun j k _ _ => Reg.Adds.refl _ _ _))
      · intro val ac u hR hp ha K hK; obtain ⟨_, h, _⟩ := hp 7 (by decide); exact Reg.Op1.guarded rfl rfl ((ha 12 (by decide)).trans h) (fun h => by cases h) (fun _ => hK _ _ rfl (fun j k _ _ => Reg.Adds.refl _ _ _))
      · intro val ac u hR hp ha K hK; obtain ⟨_, h, _⟩ := hp 7 (by decide); exact Reg.Op1.guarded rfl rfl ((ha 12 (by decide)).trans h) (fun h => by cases h) (fun _ => hK _ _ rfl (fun j k _ _ => Reg.Adds.refl _ _ _))
      · intro val ac u hR hp ha K hK; obtain ⟨_, h, _⟩ := hp 7 (by decide); exact Reg.Op1.guarded rfl rfl ((ha 12 (by decide)).trans h) (fun h => by cases h) (fun _ => hK _ _ rfl (fun j k _ _ => Reg.Adds.refl _ _ _))
      · intro val ac u hR hp ha K hK; obtain ⟨_, h, _⟩ := hp 7 (by decide); exact Reg.Op1.guarded rfl rfl ((ha 12 (by decide)).trans h) (fun h => by cases h) (fun _ => hK _ _ rfl (fun j k _ _ => Reg.Adds.refl _ _ _))
      · intro val ac u hR hp ha K hK; obtain ⟨_, h, _⟩ := hp 7 (by decide); exact Reg.Op1.guarded rfl rfl ((ha 12 (by decide)).trans h) (fun h => by cases h) (fun _ => hK _ _ rfl (fun j k _ _ => Reg.Adds.refl _ _ _))
      · intro val ac u hR hp ha K hK; obtain ⟨_, h, _⟩ := hp 7 (by decide); exact Reg.Op1.guarded rfl rfl ((ha 12 (by decide)).trans h) (fun h => by cases h) (fun _ => hK _ _ rfl (fun j k _ _ => Reg.Adds.refl _ _ _))
      · intro val ac u hR hp ha K hK; obtain ⟨_, h, _⟩ := hp 7 (by decide); exact Reg.Op1.guarded rfl rfl ((ha 12 (by decide)).trans h) (fun h => by cases h) (fun _ => hK _ _ rfl (fun j k _ _ => Reg.Adds.refl _ _ _))
      · intro val ac u hR hp ha K hK
        obtain ⟨w12, h12, r12⟩ := hp 7 (by decide); have e12 : (ac.tmps[12]?).getD undef = .bool false := (ha 12 (by decide)).trans h12; obtain ⟨w22, h22, r22⟩ := hp 17 (by decide); have e22 : (ac.tmps[22]?).getD undef = undef := (ha 22 (by decide)).trans h22; clear h12 h22 ha hp
        refine Reg.Op1.plain rfl ?_
        go_wp2
        exact ⟨rfl, hK _ _ rfl (fun j k _ _ => Reg.Adds.refl _ _ _)⟩
      · intro val ac u hR hp ha K hK
        obtain ⟨w23, h23, r23⟩ := hp 18 (by decide); have e23 : (ac.tmps[23]?).getD undef = .bool false := (ha 23 (by decide)).trans h23; clear h23 ha hp
        refine Reg.Op1.plain rfl ?_
        go_wp2
        exact ⟨rfl, hK _ _ rfl (fun j k _ _ => Reg.Adds.refl _ _ _)⟩
    · intro val u hR H
      obtain ⟨_, hv, _⟩ := H 19 (by decide)
      have hv : val 19 = .bool false := hv
      have HKu : Hid (Below w2.heap.size w2 u) := (Below.refl _ w2).drew.trans hR
      simp only [List.map_cons, List.map_nil, Reg.lay, Act.put, List.setIfInBounds_toArray, List.set_cons_succ, List.set_cons_zero, Nat.reduceAdd, hv]
      clear hR H hv
      go_wp2
      go_ret
      exact ⟨by first | rfl | (rw [hh]; rfl), H2.out.b.trans (HKu.out.mono H2.out.b.size)⟩
  · obtain ⟨hd3, hd4, hr0, hr3⟩ := chain_nat hch
    obtain ⟨d, rfl⟩ : ∃ d : Nat, dc = (d : Int) := ⟨dc.toNat, by omega⟩
    obtain ⟨r, rfl⟩ : ∃ r : Nat, rng = (r : Int) := ⟨rng.toNat, by omega⟩
    have hd : d < 3 := by omega
    have hr : r < 3 := by omega
    have HVC : Hid (w2.cell? ⟨w.heap.size, d * 3 + r, none⟩ = some (.int .i64 (vv.get d r))) := H2.out.X.cell (vc_cellR vv hd hr)
    obtain ⟨gx, hgx⟩ : ∃ z, vv.get d r = z := ⟨_, rfl⟩
    rw [hgx] at HVC
    have HCH := Lib.hid hch
    have HXL := Lib.hid H2.out.X.lt
    clear hd3 hd4 hr0 hr3
    by_cases h1 : 1 ≤ q
    · have d1 : decide (1 ≤ q) = true := by simpa using h1
      obtain ⟨z, hz⟩ : ∃ z, decide (q ≤ gx) = z := ⟨_, rfl⟩
      have hh : Vec.hasD vv ⟨d, r, q⟩ = z := by
        unfold Vec.hasD
        show (Vec.chain d r && (decide (1 ≤ q) && decide (q ≤ vv.get d r))) = z
        rw [d1, hgx, hz, hch]; rfl
      clear hch
      refine Reg.wp_region_rel (by kernel_rfl) 24 20 rfl rfl (by kernel_rfl) (Reg.Adds) (Reg.Adds.refl) (Reg.Adds.trans)
        (fun i v u => match i with
          | 0 => v = .agg (dtCells ⟨(d:Int), (r:Int), q⟩).toArray
          | 1 => v = .bool true
          | 2 => v = .bool true
          | 3 => v = .pointer (some ⟨w.heap.size + 1, 2, none⟩)
          | 4 => v = .int .i64 q
          | 5 => v = .bool true
          | 6 => v = .bool true
          | 7 => v = .bool true
          | 8 => v = .pointer (some ⟨w.heap.size + 1, 2, none⟩)
          | 9 => v = .int .i64 q
          | 10 => v = .pointer (some ⟨w.heap.size + 1, 0, none⟩)
          | 11 => v = .int .i64 (d:Int)
          | 12 => v = .pointer (some ⟨w.heap.size + 1, 1, none⟩)
          | 13 => v = .int .i64 (r:Int)
          | 14 => v = .pointer (some ⟨w.heap.size, d*3, none⟩)
          | 15 => v = .pointer (some ⟨w.heap.size, d*3+r, none⟩)
          | 16 => v = .int .i64 gx
          | 17 => v = .bool z
          | 18 => v = .bool z
          | 19 => v = .bool z
          | _ => True) ?_ ?_
      · refine Reg.Steps.cons ?_ (Reg.Steps.cons ?_ (Reg.Steps.cons ?_ (Reg.Steps.cons ?_ (Reg.Steps.cons ?_ (Reg.Steps.cons ?_ (Reg.Steps.cons ?_ (Reg.Steps.cons ?_ (Reg.Steps.cons ?_ (Reg.Steps.cons ?_ (Reg.Steps.cons ?_ (Reg.Steps.cons ?_ (Reg.Steps.cons ?_ (Reg.Steps.cons ?_ (Reg.Steps.cons ?_ (Reg.Steps.cons ?_ (Reg.Steps.cons ?_ (Reg.Steps.cons ?_ (Reg.Steps.cons ?_ (Reg.Steps.cons ?_ (Reg.Steps.nil _))))))))))))))))))))
        · intro val ac u hR hp ha K hK
          have e3 : (ac.tmps[3]?).getD undef = .pointer (some ⟨w.heap.size + 1, 0, none⟩) := ha 3 (by decide); clear ha hp
          refine Reg.Op1.plain rfl ?_
          have hDu := H2.out.D.below (w := w2.drew) hR H2.out.D.lt
          refine Mem.load_agg _ _ dot_agg (w.heap.size + 1) 0 (dtCells ⟨(d:Int), (r:Int), q⟩) (Reg.eval_of e3) (dtCells_length _) (fun j u' hu => by rw [Nat.zero_add]; exact hDu.cell hu) ?_
          exact ⟨rfl, hK _ _ rfl (fun j k _ _ => Reg.Adds.refl _ _ _)⟩
        · intro val ac u hR hp ha K hK
          obtain ⟨w5, h5, r5⟩ := hp 0 (by decide); have e5 : (ac.tmps[5]?).getD undef = .agg (dtCells ⟨(d:Int), (r:Int), q⟩).toArray := (ha 5 (by decide)).trans h5; clear h5 ha hp
          refine Reg.Op1.plain rfl ?_
          go_wp2_with fail
          refine (refChain_any ⟨(d:Int), (r:Int), q⟩ u).mono ?_
          rintro x w' ⟨rfl, hbw⟩
          rw [HCH.out]
          go_wp2_with fail
          exact ⟨rfl, hK _ _ rfl (fun j k _ _ => hbw)⟩
        · intro val ac u hR hp ha K hK
          obtain ⟨w6, h6, r6⟩ := hp 1 (by decide); have e6 : (ac.tmps[6]?).getD undef = .bool true := (ha 6 (by decide)).trans h6; clear h6 ha hp
          refine Reg.Op1.plain rfl ?_
          go_wp2
          exact ⟨rfl, hK _ _ rfl (fun j k _ _ => Reg.Adds.refl _ _ _)⟩
        · intro val ac u hR hp ha K hK
          have e3 : (ac.tmps[3]?).getD undef = .pointer (some ⟨w.heap.size + 1, 0, none⟩) := ha 3 (by decide); obtain ⟨w7, h7, r7⟩ := hp 2 (by decide); have e7 : (ac.tmps[7]?).getD undef = .bool true := (ha 7 (by decide)).trans h7; clear h7 ha hp
          refine Reg.Op1.guarded rfl rfl e7 (fun _ => Reg.Op1.plain rfl ?_) (fun h => absurd rfl h)
          go_wp2
          exact ⟨rfl, hK _ _ rfl (fun j k _ _ => Reg.Adds.refl _ _ _)⟩
        · intro val ac u hR hp ha K hK
          obtain ⟨w8, h8, r8⟩ := hp 3 (by decide); have e8 : (ac.tmps[8]?).getD undef = .pointer (some ⟨w.heap.size + 1, 2, none⟩) := (ha 8 (by decide)).trans h8; obtain ⟨w7, h7, r7⟩ := hp 2 (by decide); have e7 : (ac.tmps[7]?).getD undef = .bool true := (ha 7 (by decide)).trans h7; clear h8 h7 ha hp
          refine Reg.Op1.guarded rfl rfl e7 (fun _ => Reg.Op1.plain rfl ?_) (fun h => absurd rfl h)
          have x2 := (H2.out.D.below (w := w2.drew) hR H2.out.D.lt).cell (j := 2) rfl
          go_wp2
          exact ⟨rfl, hK _ _ rfl (fun j k _ _ => Reg.Adds.refl _ _ _)⟩
        · intro val ac u hR hp ha K hK
          obtain ⟨w9, h9, r9⟩ := hp 4 (by decide); have e9 : (ac.tmps[9]?).getD undef = .int .i64 q := (ha 9 (by decide)).trans h9; obtain ⟨w7, h7, r7⟩ := hp 2 (by decide); have e7 : (ac.tmps[7]?).getD undef = .bool true := (ha 7 (by decide)).trans h7; clear h9 h7 ha hp
          refine Reg.Op1.guarded rfl rfl e7 (fun _ => Reg.Op1.plain rfl ?_) (fun h => absurd rfl h)
          go_wp2
          exact ⟨rfl, hK _ _ rfl (fun j k _ _ => Reg.Adds.refl _ _ _)⟩
        · intro val ac u hR hp ha K hK
          obtain ⟨w7, h7, r7⟩ := hp 2 (by decide); have e7 : (ac.tmps[7]?).getD undef = .bool true := (ha 7 (by decide)).trans h7; obtain ⟨w10, h10, r10⟩ := hp 5 (by decide); have e10 : (ac.tmps[10]?).getD undef = .bool true := (ha 10 (by decide)).trans h10; clear h7 h10 ha hp
          refine Reg.Op1.plain rfl ?_
          go_wp2
          exact ⟨rfl, hK _ _ rfl (fun j k _ _ => Reg.Adds.refl _ _ _)⟩
        · intro val ac u hR hp ha K hK
          obtain ⟨w11, h11, r11⟩ := hp 6 (by decide); have e11 : (ac.tmps[11]?).getD undef = .bool true := (ha 11 (by decide)).trans h11; clear h11 ha hp
          refine Reg.Op1.plain rfl ?_
          go_wp2
          exact ⟨rfl, hK _ _ rfl (fun j k _ _ => Reg.Adds.refl _ _ _)⟩
        · intro val ac u hR hp ha K hK
          have e3 : (ac.tmps[3]?).getD undef = .pointer (some ⟨w.heap.size + 1, 0, none⟩) := ha 3 (by decide); obtain ⟨w12, h12, r12⟩ := hp 7 (by decide); have e12 : (ac.tmps[12]?).getD undef = .bool true := (ha 12 (by decide)).trans h12; clear h12 ha hp
          refine Reg.Op1.guarded rfl rfl e12 (fun _ => Reg.Op1.plain rfl ?_) (fun h => absurd rfl h)
          go_wp2
          exact ⟨rfl, hK _ _ rfl (fun j k _ _ => Reg.Adds.refl _ _ _)⟩
        · intro val ac u hR hp ha K hK
          obtain ⟨w13, h13, r13⟩ := hp 8 (by decide); have e13 : (ac.tmps[13]?).getD undef = .pointer (some ⟨w.heap.size + 1, 2, none⟩) := (ha 13 (by decide)).trans h13; obtain ⟨w12, h12, r12⟩ := hp 7 (by decide); have e12 : (ac.tmps[12]?).getD undef = .bool true := (ha 12 (by decide)).trans h12; clear h13 h12 ha hp
          refine Reg.Op1.guarded rfl rfl e12 (fun _ => Reg.Op1.plain rfl ?_) (fun h => absurd rfl h)
          have x2 := (H2.out.D.below (w := w2.drew) hR H2.out.D.lt).cell (j := 2) rfl
          go_wp2
          exact ⟨rfl, hK _ _ rfl (fun j k _ _ => Reg.Adds.refl _ _ _)⟩
        · intro val ac u hR hp ha K hK
          have e3 : (ac.tmps[3]?).getD undef = .pointer (some ⟨w.heap.size + 1, 0, none⟩) := ha 3 (by decide); obtain ⟨w12, h12, r12⟩ := hp 7 (by decide); have e12 : (ac.tmps[12]?).getD undef = .bool true := (ha 12 (by decide)).trans h12; clear h12 ha hp
          refine Reg.Op1.guarded rfl rfl e12 (fun _ => Reg.Op1.plain rfl ?_) (fun h => absurd rfl h)
          go_wp2
          exact ⟨rfl, hK _ _ rfl (fun j k _ _ => Reg.Adds.refl _ _ _)⟩
        · intro val ac u hR hp ha K hK
          obtain ⟨w15, h15, r15⟩ := hp 10 (by decide); have e15 : (ac.tmps[15]?).getD undef = .pointer (some ⟨w.heap.size + 1, 0, none⟩) := (ha 15 (by decide)).trans h15; obtain ⟨w12, h12, r12⟩ := hp 7 (by decide); have e12 : (ac.tmps[12]?).getD undef = .bool true := (ha 12 (by decide)).trans h12; clear h15 h12 ha hp
          refine Reg.Op1.guarded rfl rfl e12 (fun _ => Reg.Op1.plain rfl ?_) (fun h => absurd rfl h)
          have x0 := (H2.out.D.below (w := w2.drew) hR H2.out.D.lt).cell (j := 0) rfl
          go_wp2
          exact ⟨rfl, hK _ _ rfl (fun j k _ _ => Reg.Adds.refl _ _ _)⟩
        · intro val ac u hR hp ha K hK
          have e3 : (ac.tmps[3]?).getD undef = .pointer (some ⟨w.heap.size + 1, 0, none⟩) := ha 3 (by decide); obtain ⟨w12, h12, r12⟩ := hp 7 (by decide); have e12 : (ac.tmps[12]?).getD undef = .bool true := (ha 12 (by decide)).trans h12; clear h12 ha hp
          refine Reg.Op1.guarded rfl rfl e12 (fun _ => Reg.Op1.plain rfl ?_) (fun h => absurd rfl h)
          go_wp2
          exact ⟨rfl, hK _ _ rfl (fun j k _ _ => Reg.Adds.refl _ _ _)⟩
        · intro val ac u hR hp ha K hK
          obtain ⟨w17, h17, r17⟩ := hp 12 (by decide); have e17 : (ac.tmps[17]?).getD undef = .pointer (some ⟨w.heap.size + 1, 1, none⟩) := (ha 17 (by decide)).trans h17; obtain ⟨w12, h12, r12⟩ := hp 7 (by decide); have e12 : (ac.tmps[12]?).getD undef = .bool true := (ha 12 (by decide)).trans h12; clear h17 h12 ha hp
          refine Reg.Op1.guarded rfl rfl e12 (fun _ => Reg.Op1.plain rfl ?_) (fun h => absurd rfl h)
          have x1 := (H2.out.D.below (w := w2.drew) hR H2.out.D.lt).cell (j := 1) rfl
          go_wp2
          exact ⟨rfl, hK _ _ rfl (fun j k _ _ => Reg.Adds.refl _ _ _)⟩
        · intro val ac u hR hp ha K hK
          have e2 : (ac.tmps[2]?).getD undef = .pointer (some ⟨w.heap.size, 0, none⟩) := ha 2 (by decide); obtain ⟨w16, h16, r16⟩ := hp 11 (by decide); have e16 : (ac.tmps[16]?).getD undef = .int .i64 (d:Int) := (ha 16 (by decide)).trans h16; obtain ⟨w12, h12, r12⟩ := hp 7 (by decide); have e12 : (ac.tmps[12]?).getD undef = .bool true := (ha 12 (by decide)).trans h12; clear h16 h12 ha hp
          refine Reg.Op1.guarded rfl rfl e12 (fun _ => Reg.Op1.plain rfl ?_) (fun h => absurd rfl h)
          go_wp2
          exact ⟨rfl, hK _ _ rfl (fun j k _ _ => Reg.Adds.refl _ _ _)⟩
        · intro val ac u hR hp ha K hK
          obtain ⟨w19, h19, r19⟩ := hp 14 (by decide); have e19 : (ac.tmps[19]?).getD undef = .pointer (some ⟨w.heap.size, d*3, none⟩) := (ha 19 (by decide)).trans h19; obtain ⟨w18, h18, r18⟩ := hp 13 (by decide); have e18 : (ac.tmps[18]?).getD undef = .int .i64 (r:Int) := (ha 18 (by decide)).trans h18; obtain ⟨w12, h12, r12⟩ := hp 7 (by decide); have e12 : (ac.tmps[12]?).getD undef = .bool true := (ha 12 (by decide)).trans h12; clear h19 h18 h12 ha hp
          refine Reg.Op1.guarded rfl rfl e12 (fun _ => Reg.Op1.plain rfl ?_) (fun h => absurd rfl h)
          go_wp2
          exact ⟨rfl, hK _ _ rfl (fun j k _ _ => Reg.Adds.refl _ _ _)⟩
        · intro val ac u hR hp ha K hK
          obtain ⟨w20, h20, r20⟩ := hp 15 (by decide); have e20 : (ac.tmps[20]?).getD undef = .pointer (some ⟨w.heap.size, d*3+r, none⟩) := (ha 20 (by decide)).trans h20; obtain ⟨w12, h12, r12⟩ := hp 7 (by decide); have e12 : (ac.tmps[12]?).getD undef = .bool true := (ha 12 (by decide)).trans h12; clear h20 h12 ha hp
          refine Reg.Op1.guarded rfl rfl e12 (fun _ => Reg.Op1.plain rfl ?_) (fun h => absurd rfl h)
          have y0 := (hR.cell (p := ⟨w.heap.size, d*3+r, none⟩) HXL.out).trans HVC.out
          go_wp2
          exact ⟨rfl, hK _ _ rfl (fun j k _ _ => Reg.Adds.refl _ _ _)⟩
        · intro val ac u hR hp ha K hK
          obtain ⟨w14, h14, r14⟩ := hp 9 (by decide); have e14 : (ac.tmps[14]?).getD undef = .int .i64 q := (ha 14 (by decide)).trans h14; obtain ⟨w21, h21, r21⟩ := hp 16 (by decide); have e21 : (ac.tmps[21]?).getD undef = .int .i64 gx := (ha 21 (by decide)).trans h21; obtain ⟨w12, h12, r12⟩ := hp 7 (by decide); have e12 : (ac.tmps[12]?).getD undef = .bool true := (ha 12 (by decide)).trans h12; clear h14 h21 h12 ha hp
          refine Reg.Op1.guarded rfl rfl e12 (fun _ => Reg.Op1.plain rfl ?_) (fun h => absurd rfl h)
          go_wp2
          exact ⟨rfl, hK _ _ rfl (fun j k _ _ => Reg.Adds.refl _ _ _)⟩
        · intro val ac u hR hp ha K hK
          obtain ⟨w12, h12, r12⟩ := hp 7 (by decide); have e12 : (ac.tmps[12]?).getD undef = .bool true := (ha 12 (by decide)).trans h12; obtain ⟨w22, h22, r22⟩ := hp 17 (by decide); have e22 : (ac.tmps[22]?).getD undef = .bool z := (ha 22 (by decide)).trans h22; clear h12 h22 ha hp
          refine Reg.Op1.plain rfl ?_
          go_wp2
          exact ⟨rfl, hK _ _ rfl (fun j k _ _ => Reg.Adds.refl _ _ _)⟩
        · intro val ac u hR hp ha K hK
          obtain ⟨w23, h23, r23⟩ := hp 18 (by decide); have e23 : (ac.tmps[23]?).getD undef = .bool z := (ha 23 (by decide)).trans h23; clear h23 ha hp
          refine Reg.Op1.plain rfl ?_
          go_wp2
          exact ⟨rfl, hK _ _ rfl (fun j k _ _ => Reg.Adds.refl _ _ _)⟩
      · intro val u hR H
        obtain ⟨_, hv, _⟩ := H 19 (by decide)
        have hv : val 19 = .bool z := hv
        have HKu : Hid (Below w2.heap.size w2 u) := (Below.refl _ w2).drew.trans hR
        simp only [List.map_cons, List.map_nil, Reg.lay, Act.put, List.setIfInBounds_toArray, List.set_cons_succ, List.set_cons_zero, Nat.reduceAdd, hv]
        clear hR H hv
        go_wp2
        go_ret
        exact ⟨by first | rfl | (rw [hh]; rfl), H2.out.b.trans (HKu.out.mono H2.out.b.size)⟩
    · have d1 : decide (1 ≤ q) = false := by simpa using h1
      have hh : Vec.hasD vv ⟨d, r, q⟩ = false := by unfold Vec.hasD; simp only [Bool.and_eq_false_iff]; exact .inr (.inl d1)
      clear hch
      refine Reg.wp_region_rel (by kernel_rfl) 24 20 rfl rfl (by kernel_rfl) (Reg.Adds) (Reg.Adds.refl) (Reg.Adds.trans)
        (fun i v u => match i with
          | 0 => v = .agg (dtCells ⟨(d:Int), (r:Int), q⟩).toArray
          | 1 => v = .bool true
          | 2 => v = .bool true
          | 3 => v = .pointer (some ⟨w.heap.size + 1, 2, none⟩)
          | 4 => v = .int .i64 q
          | 5 => v = .bool false
          | 6 => v = .bool false
          | 7 => v = .bool false
          | 8 => v = undef
          | 9 => v = undef
          | 10 => v = undef
          | 11 => v = undef
          | 12 => v = undef
          | 13 => v = undef
          | 14 => v = undef
          | 15 => v = undef
          | 16 => v = undef
          | 17 => v = undef
          | 18 => v = .bool false
          | 19 => v = .bool false
          | _ => True) ?_ ?_
      · refine Reg.Steps.cons ?_ (Reg.Steps.cons ?_ (Reg.Steps.cons ?_ (Reg.Steps.cons ?_ (Reg.Steps.cons ?_ (Reg.Steps.cons ?_ (Reg.Steps.cons ?_ (Reg.Steps.cons ?_ (Reg.Steps.cons ?_ (Reg.Steps.cons ?_ (Reg.Steps.cons ?_ (Reg.Steps.cons ?_ (Reg.Steps.cons ?_ (Reg.Steps.cons ?_ (Reg.Steps.cons ?_ (Reg.Steps.cons ?_ (Reg.Steps.cons ?_ (Reg.Steps.cons ?_ (Reg.Steps.cons ?_ (Reg.Steps.cons ?_ (Reg.Steps.nil _))))))))))))))))))))
        · intro val ac u hR hp ha K hK
          have e3 : (ac.tmps[3]?).getD undef = .pointer (some ⟨w.heap.size + 1, 0, none⟩) := ha 3 (by decide); clear ha hp
          refine Reg.Op1.plain rfl ?_
          have hDu := H2.out.D.below (w := w2.drew) hR H2.out.D.lt
          refine Mem.load_agg _ _ dot_agg (w.heap.size + 1) 0 (dtCells ⟨(d:Int), (r:Int), q⟩) (Reg.eval_of e3) (dtCells_length _) (fun j u' hu => by rw [Nat.zero_add]; exact hDu.cell hu) ?_
          exact ⟨rfl, hK _ _ rfl (fun j k _ _ => Reg.Adds.refl _ _ _)⟩
        · intro val ac u hR hp ha K hK
          obtain ⟨w5, h5, r5⟩ := hp 0 (by decide); have e5 : (ac.tmps[5]?).getD undef = .agg (dtCells ⟨(d:Int), (r:Int), q⟩).toArray := (ha 5 (by decide)).trans h5; clear h5 ha hp
          refine Reg.Op1.plain rfl ?_
          go_wp2_with fail
          refine (refChain_any ⟨(d:Int), (r:Int), q⟩ u).mono ?_
          rintro x w' ⟨rfl, hbw⟩
          rw [HCH.out]
          go_wp2_with fail
          exact ⟨rfl, hK _ _ rfl (fun j k _ _ => hbw)⟩
        · intro val ac u hR hp ha K hK
          obtain ⟨w6, h6, r6⟩ := hp 1 (by decide); have e6 : (ac.tmps[6]?).getD undef = .bool true := (ha 6 (by decide)).trans h6; clear h6 ha hp
          refine Reg.Op1.plain rfl ?_
          go_wp2
          exact ⟨rfl, hK _ _ rfl (fun j k _ _ => Reg.Adds.refl _ _ _)⟩
        · intro val ac u hR hp ha K hK
          have e3 : (ac.tmps[3]?).getD undef = .pointer (some ⟨w.heap.size + 1, 0, none⟩) := ha 3 (by decide); obtain ⟨w7, h7, r7⟩ := hp 2 (by decide); have e7 : (ac.tmps[7]?).getD undef = .bool true := (ha 7 (by decide)).trans h7; clear h7 ha hp
          refine Reg.Op1.guarded rfl rfl e7 (fun _ => Reg.Op1.plain rfl ?_) (fun h => absurd rfl h)
          go_wp2
          exact ⟨rfl, hK _ _ rfl (fun j k _ _ => Reg.Adds.refl _ _ _)⟩
        · intro val ac u hR hp ha K hK
          obtain ⟨w8, h8, r8⟩ := hp 3 (by decide); have e8 : (ac.tmps[8]?).getD undef = .pointer (some ⟨w.heap.size + 1, 2, none⟩) := (ha 8 (by decide)).trans h8; obtain ⟨w7, h7, r7⟩ := hp 2 (by decide); have e7 : (ac.tmps[7]?).getD undef = .bool true := (ha 7 (by decide)).trans h7; clear h8 h7 ha hp
          refine Reg.Op1.guarded rfl rfl e7 (fun _ => Reg.Op1.plain rfl ?_) (fun h => absurd rfl h)
          have x2 := (H2.out.D.below (w := w2.drew) hR H2.out.D.lt).cell (j := 2) rfl
          go_wp2
          exact ⟨rfl, hK _ _ rfl (fun j k _ _ => Reg.Adds.refl _ _ _)⟩
        · intro val ac u hR hp ha K hK
          obtain ⟨w9, h9, r9⟩ := hp 4 (by decide); have e9 : (ac.tmps[9]?).getD undef = .int .i64 q := (ha 9 (by decide)).trans h9; obtain ⟨w7, h7, r7⟩ := hp 2 (by decide); have e7 : (ac.tmps[7]?).getD undef = .bool true := (ha 7 (by decide)).trans h7; clear h9 h7 ha hp
          refine Reg.Op1.guarded rfl rfl e7 (fun _ => Reg.Op1.plain rfl ?_) (fun h => absurd rfl h)
          go_wp2
          exact ⟨rfl, hK _ _ rfl (fun j k _ _ => Reg.Adds.refl _ _ _)⟩
        · intro val ac u hR hp ha K hK
          obtain ⟨w7, h7, r7⟩ := hp 2 (by decide); have e7 : (ac.tmps[7]?).getD undef = .bool true := (ha 7 (by decide)).trans h7; obtain ⟨w10, h10, r10⟩ := hp 5 (by decide); have e10 : (ac.tmps[10]?).getD undef = .bool false := (ha 10 (by decide)).trans h10; clear h7 h10 ha hp
          refine Reg.Op1.plain rfl ?_
          go_wp2
          exact ⟨rfl, hK _ _ rfl (fun j k _ _ => Reg.Adds.refl _ _ _)⟩
        · intro val ac u hR hp ha K hK
          obtain ⟨w11, h11, r11⟩ := hp 6 (by decide); have e11 : (ac.tmps[11]?).getD undef = .bool false := (ha 11 (by decide)).trans h11; clear h11 ha hp
          refine Reg.Op1.plain rfl ?_
          go_wp2
          exact ⟨rfl, hK _ _ rfl (fun j k _ _ => Reg.Adds.refl _ _ _)⟩
        · intro val ac u hR hp ha K hK; obtain ⟨_, h, _⟩ := hp 7 (by decide); exact Reg.Op1.guarded rfl rfl ((ha 12 (by decide)).trans h) (fun h => by cases h) (fun _ => hK _ _ rfl (fun j k _ _ => Reg.Adds.refl _ _ _))
        · intro val ac u hR hp ha K hK; obtain ⟨_, h, _⟩ := hp 7 (by decide); exact Reg.Op1.guarded rfl rfl ((ha 12 (by decide)).trans h) (fun h => by cases h) (fun _ => hK _ _ rfl (fun j k _ _ => Reg.Adds.refl _ _ _))
        · intro val ac u hR hp ha K hK; obtain ⟨_, h, _⟩ := hp 7 (by decide); exact Reg.Op1.guarded rfl rfl ((ha 12 (by decide)).trans h) (fun h => by cases h) (fun _ => hK _ _ rfl (fun j k _ _ => Reg.Adds.refl _ _ _))
        · intro val ac u hR hp ha K hK; obtain ⟨_, h, _⟩ := hp 7 (by decide); exact Reg.Op1.guarded rfl rfl ((ha 12 (by decide)).trans h) (fun h => by cases h) (fun _ => hK _ _ rfl (fun j k _ _ => Reg.Adds.refl _ _ _))
        · intro val ac u hR hp ha K hK; obtain ⟨_, h, _⟩ := hp 7 (by decide); exact Reg.Op1.guarded rfl rfl ((ha 12 (by decide)).trans h) (fun h => by cases h) (fun _ => hK _ _ rfl (fun j k _ _ => Reg.Adds.refl _ _ _))
        · intro val ac u hR hp ha K hK; obtain ⟨_, h, _⟩ := hp 7 (by decide); exact Reg.Op1.guarded rfl rfl ((ha 12 (by decide)).trans h) (fun h => by cases h) (fun _ => hK _ _ rfl (fun j k _ _ => Reg.Adds.refl _ _ _))
        · intro val ac u hR hp ha K hK; obtain ⟨_, h, _⟩ := hp 7 (by decide); exact Reg.Op1.guarded rfl rfl ((ha 12 (by decide)).trans h) (fun h => by cases h) (fun _ => hK _ _ rfl (fun j k _ _ => Reg.Adds.refl _ _ _))
        · intro val ac u hR hp ha K hK; obtain ⟨_, h, _⟩ := hp 7 (by decide); exact Reg.Op1.guarded rfl rfl ((ha 12 (by decide)).trans h) (fun h => by cases h) (fun _ => hK _ _ rfl (fun j k _ _ => Reg.Adds.refl _ _ _))
        · intro val ac u hR hp ha K hK; obtain ⟨_, h, _⟩ := hp 7 (by decide); exact Reg.Op1.guarded rfl rfl ((ha 12 (by decide)).trans h) (fun h => by cases h) (fun _ => hK _ _ rfl (fun j k _ _ => Reg.Adds.refl _ _ _))
        · intro val ac u hR hp ha K hK; obtain ⟨_, h, _⟩ := hp 7 (by decide); exact Reg.Op1.guarded rfl rfl ((ha 12 (by decide)).trans h) (fun h => by cases h) (fun _ => hK _ _ rfl (fun j k _ _ => Reg.Adds.refl _ _ _))
        · intro val ac u hR hp ha K hK
          obtain ⟨w12, h12, r12⟩ := hp 7 (by decide); have e12 : (ac.tmps[12]?).getD undef = .bool false := (ha 12 (by decide)).trans h12; obtain ⟨w22, h22, r22⟩ := hp 17 (by decide); have e22 : (ac.tmps[22]?).getD undef = undef := (ha 22 (by decide)).trans h22; clear h12 h22 ha hp
          refine Reg.Op1.plain rfl ?_
          go_wp2
          exact ⟨rfl, hK _ _ rfl (fun j k _ _ => Reg.Adds.refl _ _ _)⟩
        · intro val ac u hR hp ha K hK
          obtain ⟨w23, h23, r23⟩ := hp 18 (by decide); have e23 : (ac.tmps[23]?).getD undef = .bool false := (ha 23 (by decide)).trans h23; clear h23 ha hp
          refine Reg.Op1.plain rfl ?_
          go_wp2
          exact ⟨rfl, hK _ _ rfl (fun j k _ _ => Reg.Adds.refl _ _ _)⟩
      · intro val u hR H
        obtain ⟨_, hv, _⟩ := H 19 (by decide)
        have hv : val 19 = .bool false := hv
        have HKu : Hid (Below w2.heap.size w2 u) := (Below.refl _ w2).drew.trans hR
        simp only [List.map_cons, List.map_nil, Reg.lay, Act.put, List.setIfInBounds_toArray, List.set_cons_succ, List.set_cons_zero, Nat.reduceAdd, hv]
        clear hR H hv
        go_wp2
        go_ret
        exact ⟨by first | rfl | (rw [hh]; rfl), H2.out.b.trans (HKu.out.mono H2.out.b.size)⟩
end Go.Proofs.Ytelephoalpphkaa
end
section
/- The document's Greater, Greatest. No conditions but that the list is no great one. -/
set_option maxRecDepth 8000
namespace Go.Proofs.Ytelephoalpphkaa
open Go.ChangeShapes Go.WideShapes Go.ChangeAt Go.RowKit
set_option linter.unusedVariables false
set_option linter.unusedSimpArgs false
theorem stamp_agg : Mem.Agg Try.prog 30 3 := Mem.agg_of Try.underlying30 rfl (by kernel_rfl)
namespace Vec
def gStepR (key : ByteArray) (p : Ent × Bool) (e : Ent) : Ent × Bool := if e.key = key ∧ (p.2 = false ∨ 0 < gtE e p.1) then (e, true) else p
def greatR (key : ByteArray) (es : List Ent) : Ent × Bool := es.foldl (gStepR key) (ent0, false)
theorem greatR_snoc (key : ByteArray) (es : List Ent) (e : Ent) : greatR key (es ++ [e]) = gStepR key (greatR key es) e := by unfold greatR; rw [List.foldl_append]; rfl
/-- what a cut sees is the greatest of what it has -/
theorem visible_great (key : ByteArray) (cut : Vc) (es : List Ent) : greatR key (es.filter fun e => hasD cut (dotE e)) = visible key cut es := by
  have h : ∀ (l : List Ent) (p : Ent × Bool), (l.filter fun e => hasD cut (dotE e)).foldl (gStepR key) p = l.foldl (vStep key cut) p := by
    intro l
    induction l with
    | nil => intro p; rfl
    | cons e l ih =>
      intro p
      rw [List.filter_cons, List.foldl_cons]
      cases hh : hasD cut (dotE e)
      · rw [if_neg (by simp)]
        have : vStep key cut p e = p := by unfold vStep; rw [if_neg (by rw [hh]; simp)]
        rw [this]
        exact ih p
      · rw [if_pos rfl, List.foldl_cons]
        have : vStep key cut p e = gStepR key p e := by
          unfold vStep gStepR
          by_cases hk : e.key = key
          · rw [if_pos ⟨hk, hh⟩]
            by_cases hc : p.2 = false ∨ 0 < gtE e p.1
            · rw [if_pos hc, if_pos ⟨hk, hc⟩]
            · rw [if_neg hc, if_neg (fun h => hc h.2)]
          · rw [if_neg (fun h => hk h.1), if_neg (fun h => hk h.1)]
        rw [this]
        exact ih _
  exact h es (ent0, false)
theorem gtE_pos (a b : Ent) : decide (0 < gtE a b) = (decide (0 < Stamp.cmpS a.st b.st) || ((Stamp.cmpS a.st b.st == 0) && decide (b.seq < a.seq))) := by
  unfold gtE
  obtain ⟨c, hc⟩ : ∃ c, Stamp.cmpS a.st b.st = c := ⟨_, rfl⟩
  rw [hc]
  by_cases h0 : c = 0
  · subst h0
    unfold Stamp.cmpI
    by_cases h1 : a.seq < b.seq
    · have : ¬ b.seq < a.seq := by omega
      simp [Stamp.firstNZ, h1, this]
    · by_cases h2 : b.seq < a.seq
      · simp [Stamp.firstNZ, h1, h2]
      · simp [Stamp.firstNZ, h1, h2]
  · simp [Stamp.firstNZ, h0]
end Vec
open Vec in
set_option maxHeartbeats 4000000 in
theorem refGreater_any (a b : Vec.Ent) (w : World) :
    Calls Try.prog 43 #[.agg (Vec.entCells a).toArray, .agg (Vec.entCells b).toArray] w fun e w' => e = .returned (.bool (decide (0 < Vec.gtE a b))) ∧ Below w.heap.size w w' := by
  rw [gtE_pos]
  have hcm := fun W => refCmp_any a.st b.st W
  obtain ⟨c, hc⟩ : ∃ c, Stamp.cmpS a.st b.st = c := ⟨_, rfl⟩
  rw [hc]
  simp only [hc] at hcm
  have HCM := Lib.hid hcm
  obtain ⟨z, hz0⟩ : ∃ z, (decide (0 < c) || ((c == 0) && decide (b.seq < a.seq))) = z := ⟨_, rfl⟩
  rw [hz0]
  have HZ := Lib.hid hz0
  clear hcm hc hz0
  go_enter Try.func43, Try.ntmps43
  go_upto_region 1 with fail
  have hz : (w.alloc (.cells (entCells a).toArray 35)).heap.size = w.heap.size + 1 := Array.size_push _
  obtain ⟨w2, hw2⟩ : ∃ z, (w.alloc (.cells (entCells a).toArray 35)).alloc (.cells (entCells b).toArray 35) = z := ⟨_, rfl⟩
  have HA2 : Hid (EBx w2 w.heap.size a) := by
    show Mem.Bx _ _ _ _ _
    rw [← hw2]
    exact Mem.Bx.below (Mem.Bx.new w 35 (entCells a).toArray rfl rfl) (Reg.below_new _ _) (by omega)
  have HE2 : Hid (EBx w2 (w.heap.size + 1) b) := by
    show Mem.Bx _ _ _ _ _
    rw [← hw2]
    exact Mem.Bx.new (w.alloc (.cells (entCells a).toArray 35)) 35 (entCells b).toArray rfl hz
  have HB2 : Hid (Below w.heap.size w w2) := by show Below _ _ _; rw [← hw2]; exact (Reg.below_new w _).trans ((Reg.below_new _ _).mono (by omega))
  try rw [hz]
  try rw [hw2]
  clear hw2 hz
  have HLA : Hid (∀ j u, ([.int .i64 a.st.c, .int .i64 a.st.d, .int .i64 a.st.r] : List Value)[j]? = some u → w2.cell? ⟨w.heap.size, 3 + j, none⟩ = some u) := HA2.out.part 3 rfl
  have HLB : Hid (∀ j u, ([.int .i64 b.st.c, .int .i64 b.st.d, .int .i64 b.st.r] : List Value)[j]? = some u → w2.cell? ⟨w.heap.size + 1, 3 + j, none⟩ = some u) := HE2.out.part 3 rfl
  have a2 := HA2.out.cell (j := 2) rfl
  have b2 := HE2.out.cell (j := 2) rfl
  by_cases h1 : 0 < c
  · have d1 : decide (0 < c) = true := by simpa using h1
    obtain rfl : z = true := by rw [← HZ.out, d1]; rfl
    clear h1
    go_wp2_with (first
      | ((with_reducible refine Mem.load_agg _ _ stamp_agg w.heap.size 3 [.int .i64 a.st.c, .int .i64 a.st.d, .int .i64 a.st.r] ?hx rfl HLA.out ?_); case hx => exact rfl)
      | ((with_reducible refine Mem.load_agg _ _ stamp_agg (w.heap.size + 1) 3 [.int .i64 b.st.c, .int .i64 b.st.d, .int .i64 b.st.r] ?hy rfl HLB.out ?_); case hy => exact rfl)
      | (go_at_call 62; (refine (HCM.out w2).mono ?_); rintro x w3 ⟨rfl, hb3⟩; have HB3 := Lib.hid (HB2.out.trans (hb3.mono HB2.out.size)); have x2 := (hb3.cell (p := ⟨w.heap.size, 2, none⟩) HA2.out.lt).trans a2; have y2 := (hb3.cell (p := ⟨w.heap.size + 1, 2, none⟩) HE2.out.lt).trans b2; clear hb3 a2 b2))
    go_ret
    exact ⟨rfl, HB3.out⟩
  · have d1 : decide (0 < c) = false := by simpa using h1
    cases d2 : (c == 0)
    · obtain rfl : z = false := by rw [← HZ.out, d1, d2]; rfl
      clear h1
      go_wp2_with (first
        | ((with_reducible refine Mem.load_agg _ _ stamp_agg w.heap.size 3 [.int .i64 a.st.c, .int .i64 a.st.d, .int .i64 a.st.r] ?hx rfl HLA.out ?_); case hx => exact rfl)
        | ((with_reducible refine Mem.load_agg _ _ stamp_agg (w.heap.size + 1) 3 [.int .i64 b.st.c, .int .i64 b.st.d, .int .i64 b.st.r] ?hy rfl HLB.out ?_); case hy => exact rfl)
        | (go_at_call 62; (refine (HCM.out w2).mono ?_); rintro x w3 ⟨rfl, hb3⟩; have HB3 := Lib.hid (HB2.out.trans (hb3.mono HB2.out.size)); have x2 := (hb3.cell (p := ⟨w.heap.size, 2, none⟩) HA2.out.lt).trans a2; have y2 := (hb3.cell (p := ⟨w.heap.size + 1, 2, none⟩) HE2.out.lt).trans b2; clear hb3 a2 b2))
      go_ret
      exact ⟨rfl, HB3.out⟩
    · obtain rfl : decide (b.seq < a.seq) = z := by rw [← HZ.out, d1, d2]; rfl
      clear h1
      go_wp2_with (first
        | ((with_reducible refine Mem.load_agg _ _ stamp_agg w.heap.size 3 [.int .i64 a.st.c, .int .i64 a.st.d, .int .i64 a.st.r] ?hx rfl HLA.out ?_); case hx => exact rfl)
        | ((with_reducible refine Mem.load_agg _ _ stamp_agg (w.heap.size + 1) 3 [.int .i64 b.st.c, .int .i64 b.st.d, .int .i64 b.st.r] ?hy rfl HLB.out ?_); case hy => exact rfl)
        | (go_at_call 62; (refine (HCM.out w2).mono ?_); rintro x w3 ⟨rfl, hb3⟩; have HB3 := Lib.hid (HB2.out.trans (hb3.mono HB2.out.size)); have x2 := (hb3.cell (p := ⟨w.heap.size, 2, none⟩) HA2.out.lt).trans a2; have y2 := (hb3.cell (p := ⟨w.heap.size + 1, 2, none⟩) HE2.out.lt).trans b2; clear hb3 a2 b2))
      go_ret
      exact ⟨rfl, HB3.out⟩
namespace Vec
structure GsRel (w : World) (key : ByteArray) (es : List Ent) (vf vi : Value) (wr : World) : Prop where
  out : ∃ k : Nat, k ≤ es.length ∧ vf = .bool (greatR key (es.take k)).2 ∧ vi = .int .i64 k ∧ Hid (EBx wr w.heap.size ent0) ∧ Hid (EBx wr (w.heap.size + 1) (greatR key (es.take k)).1) ∧ Hid (Below w.heap.size w wr)
end Vec
open Vec in
set_option maxHeartbeats 8000000 in
theorem refGreatest_any (key : ByteArray) (A : Option Addr) (c : Nat) (es : List Vec.Ent) (B : Nat) (w : World) (hr : Mem.Rd w B A (es.flatMap Vec.entCells)) (hB : B ≤ w.heap.size) (hn : es.length ≤ maxLen) :
    Calls Try.prog 28 #[.string key, .slice A es.length c] w fun e w' => e = .returned (.tuple #[Vec.E (Vec.greatR key es).1, .bool (Vec.greatR key es).2]) ∧ Below w.heap.size w w' := by
  unfold maxLen at hn
  have hm := Lib.hid (hr.more hB)
  clear hr
  go_enter Try.func28, Try.ntmps28
  go_wp2
  go_loopw [7, 8] (GsRel w key es) (fun _ t _ => es.length - (intOf t).toNat)
  case atStart =>
    refine ⟨⟨0, by omega, rfl, rfl, ?_, ?_, ?_⟩⟩
    · exact (EBx.new w ent0 rfl).below (Reg.below_new _ _) (by simp)
    · exact EBx.new (w.alloc _) ent0 (by simp)
    · exact (Reg.below_new _ _).alloc (by simp) _
  case round =>
    obtain ⟨k, hk, rfl, rfl, H0, H1, HB⟩ := hrel.out
    clear hrel
    by_cases hlt : k < es.length
    · obtain ⟨b, o, e, rfl, hb, he, hat⟩ := ent_elem hm.out hlt
      have HAT := Lib.hid (hat.below HB.out hb)
      have hts := Lib.hid (show greatR key (es.take (k + 1)) = gStepR key (greatR key (es.take k)) e by rw [Mem.take_snoc he, greatR_snoc])
      obtain ⟨⟨m, f⟩, hmf⟩ : ∃ mf, greatR key (es.take k) = mf := ⟨_, rfl⟩
      rw [hmf] at H1 hts ⊢
      have hbw := Nat.lt_of_lt_of_le hb HB.out.size
      have d0 : decide ((k : Int) < (es.length : Int)) = true := by simp; omega
      clear hat he hmf
      go_upto_region 6 with fail
      by_cases hkey : e.key = key
      · have HKD : Hid ((e.key.toList == key.toList) = true) := str_eq hkey
        cases f
        case false =>
          have hts : Hid (greatR key (es.take (k + 1)) = (e, true)) := by show _ = _; rw [hts.out, gStepR, if_pos ⟨hkey, .inl rfl⟩]
          have HGT : Hid (decide (0 < gtE e m) = decide (0 < gtE e m)) := rfl
          clear hkey
          refine Reg.wp_region_rel (by kernel_rfl) 40 19 rfl rfl (by kernel_rfl) (Reg.Adds) (Reg.Adds.refl) (Reg.Adds.trans)
            (fun i v u => match i with
              | 0 => v = .slice (some ⟨b, o, none⟩) es.length c
              | 1 => v = .int .i64 k
              | 2 => v = .pointer (some ⟨b, o + k * 20, none⟩)
              | 3 => v = .pointer (some ⟨b, o + k * 20 + 6, none⟩)
              | 4 => v = .string e.key
              | 5 => v = .string key
              | 6 => v = .bool true
              | 7 => v = .bool true
              | 8 => v = .bool false
              | 9 => v = .bool true
              | 10 => v = .bool true
              | 11 => v = undef
              | 12 => v = undef
              | 13 => v = undef
              | 14 => v = undef
              | 15 => v = undef
              | 16 => v = undef
              | 17 => v = .bool true
              | 18 => v = .bool true
              | _ => True) ?_ ?_
          · refine Reg.Steps.cons ?_ (Reg.Steps.cons ?_ (Reg.Steps.cons ?_ (Reg.Steps.cons ?_ (Reg.Steps.cons ?_ (Reg.Steps.cons ?_ (Reg.Steps.cons ?_ (Reg.Steps.cons ?_ (Reg.Steps.cons ?_ (Reg.Steps.cons ?_ (Reg.Steps.cons ?_ (Reg.Steps.cons ?_ (Reg.Steps.cons ?_ (Reg.Steps.cons ?_ (Reg.Steps.cons ?_ (Reg.Steps.cons ?_ (Reg.Steps.cons ?_ (Reg.Steps.cons ?_ (Reg.Steps.cons ?_ (Reg.Steps.nil _)))))))))))))))))))
            · intro val ac u hR hp ha K hK
              have e1 : (ac.tmps[1]?).getD undef = .slice (some ⟨b, o, none⟩) es.length c := ha 1 (by decide); clear ha hp
              refine Reg.Op1.plain rfl ?_
              go_wp2
              exact ⟨rfl, hK _ _ rfl (fun j k _ _ => Reg.Adds.refl _ _ _)⟩
            · intro val ac u hR hp ha K hK
              have e8 : (ac.tmps[8]?).getD undef = .int .i64 k := ha 8 (by decide); clear ha hp
              refine Reg.Op1.plain rfl ?_
              go_wp2
              exact ⟨rfl, hK _ _ rfl (fun j k _ _ => Reg.Adds.refl _ _ _)⟩
            · intro val ac u hR hp ha K hK
              obtain ⟨w15, h15, r15⟩ := hp 0 (by decide); have e15 : (ac.tmps[15]?).getD undef = .slice (some ⟨b, o, none⟩) es.length c := (ha 15 (by decide)).trans h15; obtain ⟨w16, h16, r16⟩ := hp 1 (by decide); have e16 : (ac.tmps[16]?).getD undef = .int .i64 k := (ha 16 (by decide)).trans h16; clear h15 h16 ha hp
              refine Reg.Op1.plain rfl ?_
              go_wp2
              exact ⟨rfl, hK _ _ rfl (fun j k _ _ => Reg.Adds.refl _ _ _)⟩
            · intro val ac u hR hp ha K hK
              obtain ⟨w17, h17, r17⟩ := hp 2 (by decide); have e17 : (ac.tmps[17]?).getD undef = .pointer (some ⟨b, o + k * 20, none⟩) := (ha 17 (by decide)).trans h17; clear h17 ha hp
              refine Reg.Op1.plain rfl ?_
              go_wp2
              exact ⟨rfl, hK _ _ rfl (fun j k _ _ => Reg.Adds.refl _ _ _)⟩
            · intro val ac u hR hp ha K hK
              obtain ⟨w18, h18, r18⟩ := hp 3 (by decide); have e18 : (ac.tmps[18]?).getD undef = .pointer (some ⟨b, o + k * 20 + 6, none⟩) := (ha 18 (by decide)).trans h18; clear h18 ha hp
              refine Reg.Op1.plain rfl ?_
              have x6 := (hR.cell (p := ⟨b, o + k * 20 + 6, none⟩) hbw).trans (HAT.out.c 6 _ rfl)
              go_wp2
              exact ⟨rfl, hK _ _ rfl (fun j k _ _ => Reg.Adds.refl _ _ _)⟩
            · intro val ac u hR hp ha K hK
              have e0 : (ac.tmps[0]?).getD undef = .string key := ha 0 (by decide); clear ha hp
              refine Reg.Op1.plain rfl ?_
              go_wp2
              exact ⟨rfl, hK _ _ rfl (fun j k _ _ => Reg.Adds.refl _ _ _)⟩
            · intro val ac u hR hp ha K hK
              obtain ⟨w19, h19, r19⟩ := hp 4 (by decide); have e19 : (ac.tmps[19]?).getD undef = .string e.key := (ha 19 (by decide)).trans h19; obtain ⟨w20, h20, r20⟩ := hp 5 (by decide); have e20 : (ac.tmps[20]?).getD undef = .string key := (ha 20 (by decide)).trans h20; clear h19 h20 ha hp
              have hkd := HKD.out
              refine Reg.Op1.plain rfl ?_
              go_wp2
              exact ⟨rfl, hK _ _ rfl (fun j k _ _ => Reg.Adds.refl _ _ _)⟩
            · intro val ac u hR hp ha K hK
              obtain ⟨w21, h21, r21⟩ := hp 6 (by decide); have e21 : (ac.tmps[21]?).getD undef = .bool true := (ha 21 (by decide)).trans h21; clear h21 ha hp
              refine Reg.Op1.plain rfl ?_
              go_wp2
              exact ⟨rfl, hK _ _ rfl (fun j k _ _ => Reg.Adds.refl _ _ _)⟩
            · intro val ac u hR hp ha K hK
              have e7 : (ac.tmps[7]?).getD undef = .bool false := ha 7 (by decide); obtain ⟨w22, h22, r22⟩ := hp 7 (by decide); have e22 : (ac.tmps[22]?).getD undef = .bool true := (ha 22 (by decide)).trans h22; clear h22 ha hp
              refine Reg.Op1.guarded rfl rfl e22 (fun _ => Reg.Op1.plain rfl ?_) (fun h => absurd rfl h)
              go_wp2
              exact ⟨rfl, hK _ _ rfl (fun j k _ _ => Reg.Adds.refl _ _ _)⟩
            · intro val ac u hR hp ha K hK
              obtain ⟨w23, h23, r23⟩ := hp 8 (by decide); have e23 : (ac.tmps[23]?).getD undef = .bool false := (ha 23 (by decide)).trans h23; obtain ⟨w22, h22, r22⟩ := hp 7 (by decide); have e22 : (ac.tmps[22]?).getD undef = .bool true := (ha 22 (by decide)).trans h22; clear h23 h22 ha hp
              refine Reg.Op1.guarded rfl rfl e22 (fun _ => Reg.Op1.plain rfl ?_) (fun h => absurd rfl h)
              go_wp2
              exact ⟨rfl, hK _ _ rfl (fun j k _ _ => Reg.Adds.refl _ _ _)⟩
            · intro val ac u hR hp ha K hK
              obtain ⟨w24, h24, r24⟩ := hp 9 (by decide); have e24 : (ac.tmps[24]?).getD undef = .bool true := (ha 24 (by decide)).trans h24; obtain ⟨w22, h22, r22⟩ := hp 7 (by decide); have e22 : (ac.tmps[22]?).getD undef = .bool true := (ha 22 (by decide)).trans h22; clear h24 h22 ha hp
              refine Reg.Op1.guarded rfl rfl e22 (fun _ => Reg.Op1.plain rfl ?_) (fun h => absurd rfl h)
              go_wp2
              exact ⟨rfl, hK _ _ rfl (fun j k _ _ => Reg.Adds.refl _ _ _)⟩
            · intro val ac u hR hp ha K hK; obtain ⟨_, h, _⟩ := hp 10 (by decide); exact Reg.Op1.guarded rfl rfl ((ha 25 (by decide)).trans h) (fun h => by cases h) (fun _ => hK _ _ rfl (fun j k _ _ => Reg.Adds.refl _ _ _))
            · intro val ac u hR hp ha K hK; obtain ⟨_, h, _⟩ := hp 10 (by decide); exact Reg.Op1.guarded rfl rfl ((ha 25 (by decide)).trans h) (fun h => by cases h) (fun _ => hK _ _ rfl (fun j k _ _ => Reg.Adds.refl _ _ _))
            · intro val ac u hR hp ha K hK; obtain ⟨_, h, _⟩ := hp 10 (by decide); exact Reg.Op1.guarded rfl rfl ((ha 25 (by decide)).trans h) (fun h => by cases h) (fun _ => hK _ _ rfl (fun j k _ _ => Reg.Adds.refl _ _ _))
            · intro val ac u hR hp ha K hK; obtain ⟨_, h, _⟩ := hp 10 (by decide); exact Reg.Op1.guarded rfl rfl ((ha 25 (by decide)).trans h) (fun h => by cases h) (fun _ => hK _ _ rfl (fun j k _ _ => Reg.Adds.refl _ _ _))
            · intro val ac u hR hp ha K hK; obtain ⟨_, h, _⟩ := hp 10 (by decide); exact Reg.Op1.guarded rfl rfl ((ha 25 (by decide)).trans h) (fun h => by cases h) (fun _ => hK _ _ rfl (fun j k _ _ => Reg.Adds.refl _ _ _))
            · intro val ac u hR hp ha K hK; obtain ⟨_, h, _⟩ := hp 10 (by decide); exact Reg.Op1.guarded rfl rfl ((ha 25 (by decide)).trans h) (fun h => by cases h) (fun _ => hK _ _ rfl (fun j k _ _ => Reg.Adds.refl _ _ _))
            · intro val ac u hR hp ha K hK
              obtain ⟨w25, h25, r25⟩ := hp 10 (by decide); have e25 : (ac.tmps[25]?).getD undef = .bool true := (ha 25 (by decide)).trans h25; obtain ⟨w31, h31, r31⟩ := hp 16 (by decide); have e31 : (ac.tmps[31]?).getD undef = undef := (ha 31 (by decide)).trans h31; obtain ⟨w22, h22, r22⟩ := hp 7 (by decide); have e22 : (ac.tmps[22]?).getD undef = .bool true := (ha 22 (by decide)).trans h22; clear h25 h31 h22 ha hp
              refine Reg.Op1.guarded rfl rfl e22 (fun _ => Reg.Op1.plain rfl ?_) (fun h => absurd rfl h)
              go_wp2
              exact ⟨rfl, hK _ _ rfl (fun j k _ _ => Reg.Adds.refl _ _ _)⟩
            · intro val ac u hR hp ha K hK
              obtain ⟨w22, h22, r22⟩ := hp 7 (by decide); have e22 : (ac.tmps[22]?).getD undef = .bool true := (ha 22 (by decide)).trans h22; obtain ⟨w32, h32, r32⟩ := hp 17 (by decide); have e32 : (ac.tmps[32]?).getD undef = .bool true := (ha 32 (by decide)).trans h32; clear h22 h32 ha hp
              refine Reg.Op1.plain rfl ?_
              go_wp2
              exact ⟨rfl, hK _ _ rfl (fun j k _ _ => Reg.Adds.refl _ _ _)⟩
          intro val u hR H
          obtain ⟨wB, hv, rB⟩ := H 18 (by decide)
          have hv : val 18 = .bool true := hv
          have HKu : Hid (Below wr.heap.size wr u) := (Below.refl _ wr).drew.trans hR
          simp only [List.map_cons, List.map_nil, Reg.lay, Act.put, List.setIfInBounds_toArray, List.set_cons_succ, List.set_cons_zero, Nat.reduceAdd, hv]
          clear hR H hv rB
          obtain ⟨wy, hwy⟩ : ∃ z, z = u := ⟨_, rfl⟩
          subst hwy
          have HM2 : Hid (EBx wy (w.heap.size + 1) m) := H1.out.below HKu.out H1.out.lt
          have H02 : Hid (EBx wy w.heap.size ent0) := H0.out.below HKu.out H0.out.lt
          have HB2 : Hid (Below w.heap.size w wy) := HB.out.trans (HKu.out.mono HB.out.size)
          have HATS : Hid (∀ j u, (entCells e)[j]? = some u → wy.cell? ⟨b, o + k * 20 + j, none⟩ = some u) := (HAT.out.below HKu.out hbw).c
          clear H1 H0 HB HKu HAT hbw
          go_wp2_with (first | ((with_reducible refine Mem.load_agg _ _ entry_agg b (o + k * 20) (entCells e) ?hx (entCells_length e) HATS.out ?_); case hx => exact rfl) | ((with_reducible refine Mem.store_agg _ _ entry_agg (w.heap.size + 1) (entCells m) (entCells e) ?hxs ?hys HM2.out (entCells_length e) (ent_one e) ?_); (case hxs => exact rfl); (case hys => exact rfl); intro w3 hb3 hk3 hs3))
          go_roundw
          case rel => exact ⟨⟨k + 1, by omega, by rw [hts.out], by go_num, Lib.hid (H02.out.keeps hk3 (by omega)), Lib.hid (by rw [hts.out]; exact hb3), Lib.hid (HB2.out.trans (hk3.below (fun k h => by omega) HB2.out.size))⟩⟩
          case measure => simp [intOf]; omega
        case true =>
          cases hg : decide (0 < gtE e m)
          · have hts : Hid (greatR key (es.take (k + 1)) = (m, true)) := by
              show _ = _
              rw [hts.out, gStepR, if_neg]
              rintro ⟨_, h | h⟩
              · cases h
              · exact of_decide_eq_false hg h
            have HGT := Lib.hid hg
            clear hkey hg
            refine Reg.wp_region_rel (by kernel_rfl) 40 19 rfl rfl (by kernel_rfl) (Reg.Adds) (Reg.Adds.refl) (Reg.Adds.trans)
              (fun i v u => match i with
                | 0 => v = .slice (some ⟨b, o, none⟩) es.length c
                | 1 => v = .int .i64 k
                | 2 => v = .pointer (some ⟨b, o + k * 20, none⟩)
                | 3 => v = .pointer (some ⟨b, o + k * 20 + 6, none⟩)
                | 4 => v = .string e.key
                | 5 => v = .string key
                | 6 => v = .bool true
                | 7 => v = .bool true
                | 8 => v = .bool true
                | 9 => v = .bool false
                | 10 => v = .bool false
                | 11 => v = .slice (some ⟨b, o, none⟩) es.length c
                | 12 => v = .int .i64 k
                | 13 => v = .pointer (some ⟨b, o + k * 20, none⟩)
                | 14 => v = .agg (entCells e).toArray
                | 15 => v = .agg (entCells m).toArray
                | 16 => v = .bool false
                | 17 => v = .bool false
                | 18 => v = .bool false
                | _ => True) ?_ ?_
            · refine Reg.Steps.cons ?_ (Reg.Steps.cons ?_ (Reg.Steps.cons ?_ (Reg.Steps.cons ?_ (Reg.Steps.cons ?_ (Reg.Steps.cons ?_ (Reg.Steps.cons ?_ (Reg.Steps.cons ?_ (Reg.Steps.cons ?_ (Reg.Steps.cons ?_ (Reg.Steps.cons ?_ (Reg.Steps.cons ?_ (Reg.Steps.cons ?_ (Reg.Steps.cons ?_ (Reg.Steps.cons ?_ (Reg.Steps.cons ?_ (Reg.Steps.cons ?_ (Reg.Steps.cons ?_ (Reg.Steps.cons ?_ (Reg.Steps.nil _)))))))))))))))))))
              · intro val ac u hR hp ha K hK
                have e1 : (ac.tmps[1]?).getD undef = .slice (some ⟨b, o, none⟩) es.length c := ha 1 (by decide); clear ha hp
                refine Reg.Op1.plain rfl ?_
                go_wp2
                exact ⟨rfl, hK _ _ rfl (fun j k _ _ => Reg.Adds.refl _ _ _)⟩
              · intro val ac u hR hp ha K hK
                have e8 : (ac.tmps[8]?).getD undef = .int .i64 k := ha 8 (by decide); clear ha hp
                refine Reg.Op1.plain rfl ?_
                go_wp2
                exact ⟨rfl, hK _ _ rfl (fun j k _ _ => Reg.Adds.refl _ _ _)⟩
              · intro val ac u hR hp ha K hK
                obtain ⟨w15, h15, r15⟩ := hp 0 (by decide); have e15 : (ac.tmps[15]?).getD undef = .slice (some ⟨b, o, none⟩) es.length c := (ha 15 (by decide)).trans h15; obtain ⟨w16, h16, r16⟩ := hp 1 (by decide); have e16 : (ac.tmps[16]?).getD undef = .int .i64 k := (ha 16 (by decide)).trans h16; clear h15 h16 ha hp
                refine Reg.Op1.plain rfl ?_
                go_wp2
                exact ⟨rfl, hK _ _ rfl (fun j k _ _ => Reg.Adds.refl _ _ _)⟩
              · intro val ac u hR hp ha K hK
                obtain ⟨w17, h17, r17⟩ := hp 2 (by decide); have e17 : (ac.tmps[17]?).getD undef = .pointer (some ⟨b, o + k * 20, none⟩) := (ha 17 (by decide)).trans h17; clear h17 ha hp
                refine Reg.Op1.plain rfl ?_
                go_wp2
                exact ⟨rfl, hK _ _ rfl (fun j k _ _ => Reg.Adds.refl _ _ _)⟩
              · intro val ac u hR hp ha K hK
                obtain ⟨w18, h18, r18⟩ := hp 3 (by decide); have e18 : (ac.tmps[18]?).getD undef = .pointer (some ⟨b, o + k * 20 + 6, none⟩) := (ha 18 (by decide)).trans h18; clear h18 ha hp
                refine Reg.Op1.plain rfl ?_
                have x6 := (hR.cell (p := ⟨b, o + k * 20 + 6, none⟩) hbw).trans (HAT.out.c 6 _ rfl)
                go_wp2
                exact ⟨rfl, hK _ _ rfl (fun j k _ _ => Reg.Adds.refl _ _ _)⟩
              · intro val ac u hR hp ha K hK
                have e0 : (ac.tmps[0]?).getD undef = .string key := ha 0 (by decide); clear ha hp
                refine Reg.Op1.plain rfl ?_
                go_wp2
                exact ⟨rfl, hK _ _ rfl (fun j k _ _ => Reg.Adds.refl _ _ _)⟩
              · intro val ac u hR hp ha K hK
                obtain ⟨w19, h19, r19⟩ := hp 4 (by decide); have e19 : (ac.tmps[19]?).getD undef = .string e.key := (ha 19 (by decide)).trans h19; obtain ⟨w20, h20, r20⟩ := hp 5 (by decide); have e20 : (ac.tmps[20]?).getD undef = .string key := (ha 20 (by decide)).trans h20; clear h19 h20 ha hp
                have hkd := HKD.out
                refine Reg.Op1.plain rfl ?_
                go_wp2
                exact ⟨rfl, hK _ _ rfl (fun j k _ _ => Reg.Adds.refl _ _ _)⟩
              · intro val ac u hR hp ha K hK
                obtain ⟨w21, h21, r21⟩ := hp 6 (by decide); have e21 : (ac.tmps[21]?).getD undef = .bool true := (ha 21 (by decide)).trans h21; clear h21 ha hp
                refine Reg.Op1.plain rfl ?_
                go_wp2
                exact ⟨rfl, hK _ _ rfl (fun j k _ _ => Reg.Adds.refl _ _ _)⟩
              · intro val ac u hR hp ha K hK
                have e7 : (ac.tmps[7]?).getD undef = .bool true := ha 7 (by decide); obtain ⟨w22, h22, r22⟩ := hp 7 (by decide); have e22 : (ac.tmps[22]?).getD undef = .bool true := (ha 22 (by decide)).trans h22; clear h22 ha hp
                refine Reg.Op1.guarded rfl rfl e22 (fun _ => Reg.Op1.plain rfl ?_) (fun h => absurd rfl h)
                go_wp2
                exact ⟨rfl, hK _ _ rfl (fun j k _ _ => Reg.Adds.refl _ _ _)⟩
              · intro val ac u hR hp ha K hK
                obtain ⟨w23, h23, r23⟩ := hp 8 (by decide); have e23 : (ac.tmps[23]?).getD undef = .bool true := (ha 23 (by decide)).trans h23; obtain ⟨w22, h22, r22⟩ := hp 7 (by decide); have e22 : (ac.tmps[22]?).getD undef = .bool true := (ha 22 (by decide)).trans h22; clear h23 h22 ha hp
                refine Reg.Op1.guarded rfl rfl e22 (fun _ => Reg.Op1.plain rfl ?_) (fun h => absurd rfl h)
                go_wp2
                exact ⟨rfl, hK _ _ rfl (fun j k _ _ => Reg.Adds.refl _ _ _)⟩
              · intro val ac u hR hp ha K hK
                obtain ⟨w24, h24, r24⟩ := hp 9 (by decide); have e24 : (ac.tmps[24]?).getD undef = .bool false := (ha 24 (by decide)).trans h24; obtain ⟨w22, h22, r22⟩ := hp 7 (by decide); have e22 : (ac.tmps[22]?).getD undef = .bool true := (ha 22 (by decide)).trans h22; clear h24 h22 ha hp
                refine Reg.Op1.guarded rfl rfl e22 (fun _ => Reg.Op1.plain rfl ?_) (fun h => absurd rfl h)
                go_wp2
                exact ⟨rfl, hK _ _ rfl (fun j k _ _ => Reg.Adds.refl _ _ _)⟩
              · intro val ac u hR hp ha K hK
                have e1 : (ac.tmps[1]?).getD undef = .slice (some ⟨b, o, none⟩) es.length c := ha 1 (by decide); obtain ⟨w25, h25, r25⟩ := hp 10 (by decide); have e25 : (ac.tmps[25]?).getD undef = .bool false := (ha 25 (by decide)).trans h25; clear h25 ha hp
                refine Reg.Op1.guarded rfl rfl e25 (fun _ => Reg.Op1.plain rfl ?_) (fun h => absurd rfl h)
                go_wp2
                exact ⟨rfl, hK _ _ rfl (fun j k _ _ => Reg.Adds.refl _ _ _)⟩
              · intro val ac u hR hp ha K hK
                have e8 : (ac.tmps[8]?).getD undef = .int .i64 k := ha 8 (by decide); obtain ⟨w25, h25, r25⟩ := hp 10 (by decide); have e25 : (ac.tmps[25]?).getD undef = .bool false := (ha 25 (by decide)).trans h25; clear h25 ha hp
                refine Reg.Op1.guarded rfl rfl e25 (fun _ => Reg.Op1.plain rfl ?_) (fun h => absurd rfl h)
                go_wp2
                exact ⟨rfl, hK _ _ rfl (fun j k _ _ => Reg.Adds.refl _ _ _)⟩
              · intro val ac u hR hp ha K hK
                obtain ⟨w26, h26, r26⟩ := hp 11 (by decide); have e26 : (ac.tmps[26]?).getD undef = .slice (some ⟨b, o, none⟩) es.length c := (ha 26 (by decide)).trans h26; obtain ⟨w27, h27, r27⟩ := hp 12 (by decide); have e27 : (ac.tmps[27]?).getD undef = .int .i64 k := (ha 27 (by decide)).trans h27; obtain ⟨w25, h25, r25⟩ := hp 10 (by decide); have e25 : (ac.tmps[25]?).getD undef = .bool false := (ha 25 (by decide)).trans h25; clear h26 h27 h25 ha hp
                refine Reg.Op1.guarded rfl rfl e25 (fun _ => Reg.Op1.plain rfl ?_) (fun h => absurd rfl h)
                go_wp2
                exact ⟨rfl, hK _ _ rfl (fun j k _ _ => Reg.Adds.refl _ _ _)⟩
              · intro val ac u hR hp ha K hK
                obtain ⟨w28, h28, r28⟩ := hp 13 (by decide); have e28 : (ac.tmps[28]?).getD undef = .pointer (some ⟨b, o + k * 20, none⟩) := (ha 28 (by decide)).trans h28; obtain ⟨w25, h25, r25⟩ := hp 10 (by decide); have e25 : (ac.tmps[25]?).getD undef = .bool false := (ha 25 (by decide)).trans h25; clear h28 h25 ha hp
                refine Reg.Op1.guarded rfl rfl e25 (fun _ => Reg.Op1.plain rfl ?_) (fun h => absurd rfl h)
                refine Mem.load_aggG _ _ entry_agg b (o + k * 20) (entCells e) (by simp [Region.wanted]) (Reg.eval_of e28) (entCells_length _) (fun q u' hu => (hR.cell (p := ⟨b, o + k * 20 + q, none⟩) hbw).trans (HAT.out.c q u' hu)) ?_
                exact ⟨rfl, hK _ _ rfl (fun j k _ _ => Reg.Adds.refl _ _ _)⟩
              · intro val ac u hR hp ha K hK
                have e6 : (ac.tmps[6]?).getD undef = .pointer (some ⟨w.heap.size + 1, 0, none⟩) := ha 6 (by decide); obtain ⟨w25, h25, r25⟩ := hp 10 (by decide); have e25 : (ac.tmps[25]?).getD undef = .bool false := (ha 25 (by decide)).trans h25; clear h25 ha hp
                refine Reg.Op1.guarded rfl rfl e25 (fun _ => Reg.Op1.plain rfl ?_) (fun h => absurd rfl h)
                have hMu : EBx u (w.heap.size + 1) m := Mem.Bx.below (w := wr.drew) H1.out hR H1.out.lt
                refine Mem.load_aggG _ _ entry_agg (w.heap.size + 1) 0 (entCells m) (by simp [Region.wanted]) (Reg.eval_of e6) (entCells_length _) (fun j u' hu => by rw [Nat.zero_add]; exact hMu.cell hu) ?_
                exact ⟨rfl, hK _ _ rfl (fun j k _ _ => Reg.Adds.refl _ _ _)⟩
              · intro val ac u hR hp ha K hK
                obtain ⟨w29, h29, r29⟩ := hp 14 (by decide); have e29 : (ac.tmps[29]?).getD undef = .agg (entCells e).toArray := (ha 29 (by decide)).trans h29; obtain ⟨w30, h30, r30⟩ := hp 15 (by decide); have e30 : (ac.tmps[30]?).getD undef = .agg (entCells m).toArray := (ha 30 (by decide)).trans h30; obtain ⟨w25, h25, r25⟩ := hp 10 (by decide); have e25 : (ac.tmps[25]?).getD undef = .bool false := (ha 25 (by decide)).trans h25; clear h29 h30 h25 ha hp
                refine Reg.Op1.guarded rfl rfl e25 (fun _ => Reg.Op1.plain rfl ?_) (fun h => absurd rfl h)
                go_wp2_with fail
                refine (refGreater_any e m u).mono ?_
                rintro x w' ⟨rfl, hbw⟩
                rw [HGT.out]
                go_wp2_with fail
                exact ⟨rfl, hK _ _ rfl (fun j k _ _ => hbw)⟩
              · intro val ac u hR hp ha K hK
                obtain ⟨w25, h25, r25⟩ := hp 10 (by decide); have e25 : (ac.tmps[25]?).getD undef = .bool false := (ha 25 (by decide)).trans h25; obtain ⟨w31, h31, r31⟩ := hp 16 (by decide); have e31 : (ac.tmps[31]?).getD undef = .bool false := (ha 31 (by decide)).trans h31; obtain ⟨w22, h22, r22⟩ := hp 7 (by decide); have e22 : (ac.tmps[22]?).getD undef = .bool true := (ha 22 (by decide)).trans h22; clear h25 h31 h22 ha hp
                refine Reg.Op1.guarded rfl rfl e22 (fun _ => Reg.Op1.plain rfl ?_) (fun h => absurd rfl h)
                go_wp2
                exact ⟨rfl, hK _ _ rfl (fun j k _ _ => Reg.Adds.refl _ _ _)⟩
              · intro val ac u hR hp ha K hK
                obtain ⟨w22, h22, r22⟩ := hp 7 (by decide); have e22 : (ac.tmps[22]?).getD undef = .bool true := (ha 22 (by decide)).trans h22; obtain ⟨w32, h32, r32⟩ := hp 17 (by decide); have e32 : (ac.tmps[32]?).getD undef = .bool false := (ha 32 (by decide)).trans h32; clear h22 h32 ha hp
                refine Reg.Op1.plain rfl ?_
                go_wp2
                exact ⟨rfl, hK _ _ rfl (fun j k _ _ => Reg.Adds.refl _ _ _)⟩
            intro val u hR H
            obtain ⟨wB, hv, rB⟩ := H 18 (by decide)
            have hv : val 18 = .bool false := hv
            have HKu : Hid (Below wr.heap.size wr u) := (Below.refl _ wr).drew.trans hR
            simp only [List.map_cons, List.map_nil, Reg.lay, Act.put, List.setIfInBounds_toArray, List.set_cons_succ, List.set_cons_zero, Nat.reduceAdd, hv]
            clear hR H hv rB
            obtain ⟨wy, hwy⟩ : ∃ z, z = u := ⟨_, rfl⟩
            subst hwy
            have HM2 : Hid (EBx wy (w.heap.size + 1) m) := H1.out.below HKu.out H1.out.lt
            have H02 : Hid (EBx wy w.heap.size ent0) := H0.out.below HKu.out H0.out.lt
            have HB2 : Hid (Below w.heap.size w wy) := HB.out.trans (HKu.out.mono HB.out.size)
            have HATS : Hid (∀ j u, (entCells e)[j]? = some u → wy.cell? ⟨b, o + k * 20 + j, none⟩ = some u) := (HAT.out.below HKu.out hbw).c
            clear H1 H0 HB HKu HAT hbw
            go_wp2
            go_roundw
            case rel => exact ⟨⟨k + 1, by omega, by rw [hts.out], by go_num, H02, Lib.hid (by rw [hts.out]; exact HM2.out), HB2⟩⟩
            case measure => simp [intOf]; omega
          · have hts : Hid (greatR key (es.take (k + 1)) = (e, true)) := by show _ = _; rw [hts.out, gStepR, if_pos ⟨hkey, .inr (of_decide_eq_true hg)⟩]
            have HGT := Lib.hid hg
            clear hkey hg
            refine Reg.wp_region_rel (by kernel_rfl) 40 19 rfl rfl (by kernel_rfl) (Reg.Adds) (Reg.Adds.refl) (Reg.Adds.trans)
              (fun i v u => match i with
                | 0 => v = .slice (some ⟨b, o, none⟩) es.length c
                | 1 => v = .int .i64 k
                | 2 => v = .pointer (some ⟨b, o + k * 20, none⟩)
                | 3 => v = .pointer (some ⟨b, o + k * 20 + 6, none⟩)
                | 4 => v = .string e.key
                | 5 => v = .string key
                | 6 => v = .bool true
                | 7 => v = .bool true
                | 8 => v = .bool true
                | 9 => v = .bool false
                | 10 => v = .bool false
                | 11 => v = .slice (some ⟨b, o, none⟩) es.length c
                | 12 => v = .int .i64 k
                | 13 => v = .pointer (some ⟨b, o + k * 20, none⟩)
                | 14 => v = .agg (entCells e).toArray
                | 15 => v = .agg (entCells m).toArray
                | 16 => v = .bool true
                | 17 => v = .bool true
                | 18 => v = .bool true
                | _ => True) ?_ ?_
            · refine Reg.Steps.cons ?_ (Reg.Steps.cons ?_ (Reg.Steps.cons ?_ (Reg.Steps.cons ?_ (Reg.Steps.cons ?_ (Reg.Steps.cons ?_ (Reg.Steps.cons ?_ (Reg.Steps.cons ?_ (Reg.Steps.cons ?_ (Reg.Steps.cons ?_ (Reg.Steps.cons ?_ (Reg.Steps.cons ?_ (Reg.Steps.cons ?_ (Reg.Steps.cons ?_ (Reg.Steps.cons ?_ (Reg.Steps.cons ?_ (Reg.Steps.cons ?_ (Reg.Steps.cons ?_ (Reg.Steps.cons ?_ (Reg.Steps.nil _)))))))))))))))))))
              · intro val ac u hR hp ha K hK
                have e1 : (ac.tmps[1]?).getD undef = .slice (some ⟨b, o, none⟩) es.length c := ha 1 (by decide); clear ha hp
                refine Reg.Op1.plain rfl ?_
                go_wp2
                exact ⟨rfl, hK _ _ rfl (fun j k _ _ => Reg.Adds.refl _ _ _)⟩
              · intro val ac u hR hp ha K hK
                have e8 : (ac.tmps[8]?).getD undef = .int .i64 k := ha 8 (by decide); clear ha hp
                refine Reg.Op1.plain rfl ?_
                go_wp2
                exact ⟨rfl, hK _ _ rfl (fun j k _ _ => Reg.Adds.refl _ _ _)⟩
              · intro val ac u hR hp ha K hK
                obtain ⟨w15, h15, r15⟩ := hp 0 (by decide); have e15 : (ac.tmps[15]?).getD undef = .slice (some ⟨b, o, none⟩) es.length c := (ha 15 (by decide)).trans h15; obtain ⟨w16, h16, r16⟩ := hp 1 (by decide); have e16 : (ac.tmps[16]?).getD undef = .int .i64 k := (ha 16 (by decide)).trans h16; clear h15 h16 ha hp
                refine Reg.Op1.plain rfl ?_
                go_wp2
                exact ⟨rfl, hK _ _ rfl (fun j k _ _ => Reg.Adds.refl _ _ _)⟩
              · intro val ac u hR hp ha K hK
                obtain ⟨w17, h17, r17⟩ := hp 2 (by decide); have e17 : (ac.tmps[17]?).getD undef = .pointer (some ⟨b, o + k * 20, none⟩) := (ha 17 (by decide)).trans h17; clear h17 ha hp
                refine Reg.Op1.plain rfl ?_
                go_wp2
                exact ⟨rfl, hK _ _ rfl (fun j k _ _ => Reg.Adds.refl _ _ _)⟩
              · intro val ac u hR hp ha K hK
                obtain ⟨w18, h18, r18⟩ := hp 3 (by decide); have e18 : (ac.tmps[18]?).getD undef = .pointer (some ⟨b, o + k * 20 + 6, none⟩) := (ha 18 (by decide)).trans h18; clear h18 ha hp
                refine Reg.Op1.plain rfl ?_
                have x6 := (hR.cell (p := ⟨b, o + k * 20 + 6, none⟩) hbw).trans (HAT.out.c 6 _ rfl)
                go_wp2
                exact ⟨rfl, hK _ _ rfl (fun j k _ _ => Reg.Adds.refl _ _ _)⟩
              · intro val ac u hR hp ha K hK
                have e0 : (ac.tmps[0]?).getD undef = .string key := ha 0 (by decide); clear ha hp
                refine Reg.Op1.plain rfl ?_
                go_wp2
                exact ⟨rfl, hK _ _ rfl (fun j k _ _ => Reg.Adds.refl _ _ _)⟩
              · intro val ac u hR hp ha K hK
                obtain ⟨w19, h19, r19⟩ := hp 4 (by decide); have e19 : (ac.tmps[19]?).getD undef = .string e.key := (ha 19 (by decide)).trans h19; obtain ⟨w20, h20, r20⟩ := hp 5 (by decide); have e20 : (ac.tmps[20]?).getD undef = .string key := (ha 20 (by decide)).trans h20; clear h19 h20 ha hp
                have hkd := HKD.out
                refine Reg.Op1.plain rfl ?_
                go_wp2
                exact ⟨rfl, hK _ _ rfl (fun j k _ _ => Reg.Adds.refl _ _ _)⟩
              · intro val ac u hR hp ha K hK
                obtain ⟨w21, h21, r21⟩ := hp 6 (by decide); have e21 : (ac.tmps[21]?).getD undef = .bool true := (ha 21 (by decide)).trans h21; clear h21 ha hp
                refine Reg.Op1.plain rfl ?_
                go_wp2
                exact ⟨rfl, hK _ _ rfl (fun j k _ _ => Reg.Adds.refl _ _ _)⟩
              · intro val ac u hR hp ha K hK
                have e7 : (ac.tmps[7]?).getD undef = .bool true := ha 7 (by decide); obtain ⟨w22, h22, r22⟩ := hp 7 (by decide); have e22 : (ac.tmps[22]?).getD undef = .bool true := (ha 22 (by decide)).trans h22; clear h22 ha hp
                refine Reg.Op1.guarded rfl rfl e22 (fun _ => Reg.Op1.plain rfl ?_) (fun h => absurd rfl h)
                go_wp2
                exact ⟨rfl, hK _ _ rfl (fun j k _ _ => Reg.Adds.refl _ _ _)⟩
              · intro val ac u hR hp ha K hK
                obtain ⟨w23, h23, r23⟩ := hp 8 (by decide); have e23 : (ac.tmps[23]?).getD undef = .bool true := (ha 23 (by decide)).trans h23; obtain ⟨w22, h22, r22⟩ := hp 7 (by decide); have e22 : (ac.tmps[22]?).getD undef = .bool true := (ha 22 (by decide)).trans h22; clear h23 h22 ha hp
                refine Reg.Op1.guarded rfl rfl e22 (fun _ => Reg.Op1.plain rfl ?_) (fun h => absurd rfl h)
                go_wp2
                exact ⟨rfl, hK _ _ rfl (fun j k _ _ => Reg.Adds.refl _ _ _)⟩
              · intro val ac u hR hp ha K hK
                obtain ⟨w24, h24, r24⟩ := hp 9 (by decide); have e24 : (ac.tmps[24]?).getD undef = .bool false := (ha 24 (by decide)).trans h24; obtain ⟨w22, h22, r22⟩ := hp 7 (by decide); have e22 : (ac.tmps[22]?).getD undef = .bool true := (ha 22 (by decide)).trans h22; clear h24 h22 ha hp
                refine Reg.Op1.guarded rfl rfl e22 (fun _ => Reg.Op1.plain rfl ?_) (fun h => absurd rfl h)
                go_wp2
                exact ⟨rfl, hK _ _ rfl (fun j k _ _ => Reg.Adds.refl _ _ _)⟩
              · intro val ac u hR hp ha K hK
                have e1 : (ac.tmps[1]?).getD undef = .slice (some ⟨b, o, none⟩) es.length c := ha 1 (by decide); obtain ⟨w25, h25, r25⟩ := hp 10 (by decide); have e25 : (ac.tmps[25]?).getD undef = .bool false := (ha 25 (by decide)).trans h25; clear h25 ha hp
                refine Reg.Op1.guarded rfl rfl e25 (fun _ => Reg.Op1.plain rfl ?_) (fun h => absurd rfl h)
                go_wp2
                exact ⟨rfl, hK _ _ rfl (fun j k _ _ => Reg.Adds.refl _ _ _)⟩
              · intro val ac u hR hp ha K hK
                have e8 : (ac.tmps[8]?).getD undef = .int .i64 k := ha 8 (by decide); obtain ⟨w25, h25, r25⟩ := hp 10 (by decide); have e25 : (ac.tmps[25]?).getD undef = .bool false := (ha 25 (by decide)).trans h25; clear h25 ha hp
                refine Reg.Op1.guarded rfl rfl e25 (fun _ => Reg.Op1.plain rfl ?_) (fun h => absurd rfl h)
                go_wp2
                exact ⟨rfl, hK _ _ rfl (fun j k _ _ => Reg.Adds.refl _ _ _)⟩
              · intro val ac u hR hp ha K hK
                obtain ⟨w26, h26, r26⟩ := hp 11 (by decide); have e26 : (ac.tmps[26]?).getD undef = .slice (some ⟨b, o, none⟩) es.length c := (ha 26 (by decide)).trans h26; obtain ⟨w27, h27, r27⟩ := hp 12 (by decide); have e27 : (ac.tmps[27]?).getD undef = .int .i64 k := (ha 27 (by decide)).trans h27; obtain ⟨w25, h25, r25⟩ := hp 10 (by decide); have e25 : (ac.tmps[25]?).getD undef = .bool false := (ha 25 (by decide)).trans h25; clear h26 h27 h25 ha hp
                refine Reg.Op1.guarded rfl rfl e25 (fun _ => Reg.Op1.plain rfl ?_) (fun h => absurd rfl h)
                go_wp2
                exact ⟨rfl, hK _ _ rfl (fun j k _ _ => Reg.Adds.refl _ _ _)⟩
              · intro val ac u hR hp ha K hK
                obtain ⟨w28, h28, r28⟩ := hp 13 (by decide); have e28 : (ac.tmps[28]?).getD undef = .pointer (some ⟨b, o + k * 20, none⟩) := (ha 28 (by decide)).trans h28; obtain ⟨w25, h25, r25⟩ := hp 10 (by decide); have e25 : (ac.tmps[25]?).getD undef = .bool false := (ha 25 (by decide)).trans h25; clear h28 h25 ha hp
                refine Reg.Op1.guarded rfl rfl e25 (fun _ => Reg.Op1.plain rfl ?_) (fun h => absurd rfl h)
                refine Mem.load_aggG _ _ entry_agg b (o + k * 20) (entCells e) (by simp [Region.wanted]) (Reg.eval_of e28) (entCells_length _) (fun q u' hu => (hR.cell (p := ⟨b, o + k * 20 + q, none⟩) hbw).trans (HAT.out.c q u' hu)) ?_
                exact ⟨rfl, hK _ _ rfl (fun j k _ _ => Reg.Adds.refl _ _ _)⟩
              · intro val ac u hR hp ha K hK
                have e6 : (ac.tmps[6]?).getD undef = .pointer (some ⟨w.heap.size + 1, 0, none⟩) := ha 6 (by decide); obtain ⟨w25, h25, r25⟩ := hp 10 (by decide); have e25 : (ac.tmps[25]?).getD undef = .bool false := (ha 25 (by decide)).trans h25; clear h25 ha hp
                refine Reg.Op1.guarded rfl rfl e25 (fun _ => Reg.Op1.plain rfl ?_) (fun h => absurd rfl h)
                have hMu : EBx u (w.heap.size + 1) m := Mem.Bx.below (w := wr.drew) H1.out hR H1.out.lt
                refine Mem.load_aggG _ _ entry_agg (w.heap.size + 1) 0 (entCells m) (by simp [Region.wanted]) (Reg.eval_of e6) (entCells_length _) (fun j u' hu => by rw [Nat.zero_add]; exact hMu.cell hu) ?_
                exact ⟨rfl, hK _ _ rfl (fun j k _ _ => Reg.Adds.refl _ _ _)⟩
              · intro val ac u hR hp ha K hK
                obtain ⟨w29, h29, r29⟩ := hp 14 (by decide); have e29 : (ac.tmps[29]?).getD undef = .agg (entCells e).toArray := (ha 29 (by decide)).trans h29; obtain ⟨w30, h30, r30⟩ := hp 15 (by decide); have e30 : (ac.tmps[30]?).getD undef = .agg (entCells m).toArray := (ha 30 (by decide)).trans h30; obtain ⟨w25, h25, r25⟩ := hp 10 (by decide); have e25 : (ac.tmps[25]?).getD undef = .bool false := (ha 25 (by decide)).trans h25; clear h29 h30 h25 ha hp
                refine Reg.Op1.guarded rfl rfl e25 (fun _ => Reg.Op1.plain rfl ?_) (fun h => absurd rfl h)
                go_wp2_with fail
                refine (refGreater_any e m u).mono ?_
                rintro x w' ⟨rfl, hbw⟩
                rw [HGT.out]
                go_wp2_with fail
                exact ⟨rfl, hK _ _ rfl (fun j k _ _ => hbw)⟩
              · intro val ac u hR hp ha K hK
                obtain ⟨w25, h25, r25⟩ := hp 10 (by decide); have e25 : (ac.tmps[25]?).getD undef = .bool false := (ha 25 (by decide)).trans h25; obtain ⟨w31, h31, r31⟩ := hp 16 (by decide); have e31 : (ac.tmps[31]?).getD undef = .bool true := (ha 31 (by decide)).trans h31; obtain ⟨w22, h22, r22⟩ := hp 7 (by decide); have e22 : (ac.tmps[22]?).getD undef = .bool true := (ha 22 (by decide)).trans h22; clear h25 h31 h22 ha hp
                refine Reg.Op1.guarded rfl rfl e22 (fun _ => Reg.Op1.plain rfl ?_) (fun h => absurd rfl h)
                go_wp2
                exact ⟨rfl, hK _ _ rfl (fun j k _ _ => Reg.Adds.refl _ _ _)⟩
              · intro val ac u hR hp ha K hK
                obtain ⟨w22, h22, r22⟩ := hp 7 (by decide); have e22 : (ac.tmps[22]?).getD undef = .bool true := (ha 22 (by decide)).trans h22; obtain ⟨w32, h32, r32⟩ := hp 17 (by decide); have e32 : (ac.tmps[32]?).getD undef = .bool true := (ha 32 (by decide)).trans h32; clear h22 h32 ha hp
                refine Reg.Op1.plain rfl ?_
                go_wp2
                exact ⟨rfl, hK _ _ rfl (fun j k _ _ => Reg.Adds.refl _ _ _)⟩
            intro val u hR H
            obtain ⟨wB, hv, rB⟩ := H 18 (by decide)
            have hv : val 18 = .bool true := hv
            have HKu : Hid (Below wr.heap.size wr u) := (Below.refl _ wr).drew.trans hR
            simp only [List.map_cons, List.map_nil, Reg.lay, Act.put, List.setIfInBounds_toArray, List.set_cons_succ, List.set_cons_zero, Nat.reduceAdd, hv]
            clear hR H hv rB
            obtain ⟨wy, hwy⟩ : ∃ z, z = u := ⟨_, rfl⟩
            subst hwy
            have HM2 : Hid (EBx wy (w.heap.size + 1) m) := H1.out.below HKu.out H1.out.lt
            have H02 : Hid (EBx wy w.heap.size ent0) := H0.out.below HKu.out H0.out.lt
            have HB2 : Hid (Below w.heap.size w wy) := HB.out.trans (HKu.out.mono HB.out.size)
            have HATS : Hid (∀ j u, (entCells e)[j]? = some u → wy.cell? ⟨b, o + k * 20 + j, none⟩ = some u) := (HAT.out.below HKu.out hbw).c
            clear H1 H0 HB HKu HAT hbw
            go_wp2_with (first | ((with_reducible refine Mem.load_agg _ _ entry_agg b (o + k * 20) (entCells e) ?hx (entCells_length e) HATS.out ?_); case hx => exact rfl) | ((with_reducible refine Mem.store_agg _ _ entry_agg (w.heap.size + 1) (entCells m) (entCells e) ?hxs ?hys HM2.out (entCells_length e) (ent_one e) ?_); (case hxs => exact rfl); (case hys => exact rfl); intro w3 hb3 hk3 hs3))
            go_roundw
            case rel => exact ⟨⟨k + 1, by omega, by rw [hts.out], by go_num, Lib.hid (H02.out.keeps hk3 (by omega)), Lib.hid (by rw [hts.out]; exact hb3), Lib.hid (HB2.out.trans (hk3.below (fun k h => by omega) HB2.out.size))⟩⟩
            case measure => simp [intOf]; omega
      · have HKD : Hid ((e.key.toList == key.toList) = false) := str_ne hkey
        have hts : Hid (greatR key (es.take (k + 1)) = (m, f)) := by show _ = _; rw [hts.out, gStepR, if_neg (fun h => hkey h.1)]
        have HGT : Hid (decide (0 < gtE e m) = decide (0 < gtE e m)) := rfl
        clear hkey
        refine Reg.wp_region_rel (by kernel_rfl) 40 19 rfl rfl (by kernel_rfl) (Reg.Adds) (Reg.Adds.refl) (Reg.Adds.trans)
          (fun i v u => match i with
            | 0 => v = .slice (some ⟨b, o, none⟩) es.length c
            | 1 => v = .int .i64 k
            | 2 => v = .pointer (some ⟨b, o + k * 20, none⟩)
            | 3 => v = .pointer (some ⟨b, o + k * 20 + 6, none⟩)
            | 4 => v = .string e.key
            | 5 => v = .string key
            | 6 => v = .bool false
            | 7 => v = .bool false
            | 8 => v = undef
            | 9 => v = undef
            | 10 => v = undef
            | 11 => v = undef
            | 12 => v = undef
            | 13 => v = undef
            | 14 => v = undef
            | 15 => v = undef
            | 16 => v = undef
            | 17 => v = undef
            | 18 => v = .bool false
            | _ => True) ?_ ?_
        · refine Reg.Steps.cons ?_ (Reg.Steps.cons ?_ (Reg.Steps.cons ?_ (Reg.Steps.cons ?_ (Reg.Steps.cons ?_ (Reg.Steps.cons ?_ (Reg.Steps.cons ?_ (Reg.Steps.cons ?_ (Reg.Steps.cons ?_ (Reg.Steps.cons ?_ (Reg.Steps.cons ?_ (Reg.Steps.cons ?_ (Reg.Steps.cons ?_ (Reg.Steps.cons ?_ (Reg.Steps.cons ?_ (Reg.Steps.cons ?_ (Reg.Steps.cons ?_ (Reg.Steps.cons ?_ (Reg.Steps.cons ?_ (Reg.Steps.nil _)))))))))))))))))))
          · intro val ac u hR hp ha K hK
            have e1 : (ac.tmps[1]?).getD undef = .slice (some ⟨b, o, none⟩) es.length c := ha 1 (by decide); clear ha hp
            refine Reg.Op1.plain rfl ?_
            go_wp2
            exact ⟨rfl, hK _ _ rfl (fun j k _ _ => Reg.Adds.refl _ _ _)⟩
          · intro val ac u hR hp ha K hK
            have e8 : (ac.tmps[8]?).getD undef = .int .i64 k := ha 8 (by decide); clear ha hp
            refine Reg.Op1.plain rfl ?_
            go_wp2
            exact ⟨rfl, hK _ _ rfl (fun j k _ _ => Reg.Adds.refl _ _ _)⟩
          · intro val ac u hR hp ha K hK
            obtain ⟨w15, h15, r15⟩ := hp 0 (by decide); have e15 : (ac.tmps[15]?).getD undef = .slice (some ⟨b, o, none⟩) es.length c := (ha 15 (by decide)).trans h15; obtain ⟨w16, h16, r16⟩ := hp 1 (by decide); have e16 : (ac.tmps[16]?).getD undef = .int .i64 k := (ha 16 (by decide)).trans h16; clear h15 h16 ha hp
            refine Reg.Op1.plain rfl ?_
            go_wp2
            exact ⟨rfl, hK _ _ rfl (fun j k _ _ => Reg.Adds.refl _ _ _)⟩
          · intro val ac u hR hp ha K hK
            obtain ⟨w17, h17, r17⟩ := hp 2 (by decide); have e17 : (ac.tmps[17]?).getD undef = .pointer (some ⟨b, o + k * 20, none⟩) := (ha 17 (by decide)).trans h17; clear h17 ha hp
            refine Reg.Op1.plain rfl ?_
            go_wp2
            exact ⟨rfl, hK _ _ rfl (fun j k _ _ => Reg.Adds.refl _ _ _)⟩
          · intro val ac u hR hp ha K hK
            obtain ⟨w18, h18, r18⟩ := hp 3 (by decide); have e18 : (ac.tmps[18]?).getD undef = .pointer (some ⟨b, o + k * 20 + 6, none⟩) := (ha 18 (by decide)).trans h18; clear h18 ha hp
            refine Reg.Op1.plain rfl ?_
            have x6 := (hR.cell (p := ⟨b, o + k * 20 + 6, none⟩) hbw).trans (HAT.out.c 6 _ rfl)
            go_wp2
            exact ⟨rfl, hK _ _ rfl (fun j k _ _ => Reg.Adds.refl _ _ _)⟩
          · intro val ac u hR hp ha K hK
            have e0 : (ac.tmps[0]?).getD undef = .string key := ha 0 (by decide); clear ha hp
            refine Reg.Op1.plain rfl ?_
            go_wp2
            exact ⟨rfl, hK _ _ rfl (fun j k _ _ => Reg.Adds.refl _ _ _)⟩
          · intro val ac u hR hp ha K hK
            obtain ⟨w19, h19, r19⟩ := hp 4 (by decide); have e19 : (ac.tmps[19]?).getD undef = .string e.key := (ha 19 (by decide)).trans h19; obtain ⟨w20, h20, r20⟩ := hp 5 (by decide); have e20 : (ac.tmps[20]?).getD undef = .string key := (ha 20 (by decide)).trans h20; clear h19 h20 ha hp
            have hkd := HKD.out
            refine Reg.Op1.plain rfl ?_
            go_wp2
            exact ⟨rfl, hK _ _ rfl (fun j k _ _ => Reg.Adds.refl _ _ _)⟩
          · intro val ac u hR hp ha K hK
            obtain ⟨w21, h21, r21⟩ := hp 6 (by decide); have e21 : (ac.tmps[21]?).getD undef = .bool false := (ha 21 (by decide)).trans h21; clear h21 ha hp
            refine Reg.Op1.plain rfl ?_
            go_wp2
            exact ⟨rfl, hK _ _ rfl (fun j k _ _ => Reg.Adds.refl _ _ _)⟩
          · intro val ac u hR hp ha K hK; obtain ⟨_, h, _⟩ := hp 7 (by decide); exact Reg.Op1.guarded rfl rfl ((ha 22 (by decide)).trans h) (fun h => by cases h) (fun _ => hK _ _ rfl (fun j k _ _ => Reg.Adds.refl _ _ _))
          · intro val ac u hR hp ha K hK; obtain ⟨_, h, _⟩ := hp 7 (by decide); exact Reg.Op1.guarded rfl rfl ((ha 22 (by decide)).trans h) (fun h => by cases h) (fun _ => hK _ _ rfl (fun j k _ _ => Reg.Adds.refl _ _ _))
          · intro val ac u hR hp ha K hK; obtain ⟨_, h, _⟩ := hp 7 (by decide); exact Reg.Op1.guarded rfl rfl ((ha 22 (by decide)).trans h) (fun h => by cases h) (fun _ => hK _ _ rfl (fun j k _ _ => Reg.Adds.refl _ _ _))
          · intro val ac u hR hp ha K hK
            obtain ⟨w25, h25, r25⟩ := hp 10 (by decide); have e25 : (ac.tmps[25]?).getD undef = undef := (ha 25 (by decide)).trans h25; clear h25 ha hp
            exact Reg.Op1.passed rfl rfl e25 (hK _ _ rfl (fun j k _ _ => Reg.Adds.refl _ _ _))
          · intro val ac u hR hp ha K hK
            obtain ⟨w25, h25, r25⟩ := hp 10 (by decide); have e25 : (ac.tmps[25]?).getD undef = undef := (ha 25 (by decide)).trans h25; clear h25 ha hp
            exact Reg.Op1.passed rfl rfl e25 (hK _ _ rfl (fun j k _ _ => Reg.Adds.refl _ _ _))
          · intro val ac u hR hp ha K hK
            obtain ⟨w25, h25, r25⟩ := hp 10 (by decide); have e25 : (ac.tmps[25]?).getD undef = undef := (ha 25 (by decide)).trans h25; clear h25 ha hp
            exact Reg.Op1.passed rfl rfl e25 (hK _ _ rfl (fun j k _ _ => Reg.Adds.refl _ _ _))
          · intro val ac u hR hp ha K hK
            obtain ⟨w25, h25, r25⟩ := hp 10 (by decide); have e25 : (ac.tmps[25]?).getD undef = undef := (ha 25 (by decide)).trans h25; clear h25 ha hp
            exact Reg.Op1.passed rfl rfl e25 (hK _ _ rfl (fun j k _ _ => Reg.Adds.refl _ _ _))
          · intro val ac u hR hp ha K hK
            obtain ⟨w25, h25, r25⟩ := hp 10 (by decide); have e25 : (ac.tmps[25]?).getD undef = undef := (ha 25 (by decide)).trans h25; clear h25 ha hp
            exact Reg.Op1.passed rfl rfl e25 (hK _ _ rfl (fun j k _ _ => Reg.Adds.refl _ _ _))
          · intro val ac u hR hp ha K hK
            obtain ⟨w25, h25, r25⟩ := hp 10 (by decide); have e25 : (ac.tmps[25]?).getD undef = undef := (ha 25 (by decide)).trans h25; clear h25 ha hp
            exact Reg.Op1.passed rfl rfl e25 (hK _ _ rfl (fun j k _ _ => Reg.Adds.refl _ _ _))
          · intro val ac u hR hp ha K hK; obtain ⟨_, h, _⟩ := hp 7 (by decide); exact Reg.Op1.guarded rfl rfl ((ha 22 (by decide)).trans h) (fun h => by cases h) (fun _ => hK _ _ rfl (fun j k _ _ => Reg.Adds.refl _ _ _))
          · intro val ac u hR hp ha K hK
            obtain ⟨w22, h22, r22⟩ := hp 7 (by decide); have e22 : (ac.tmps[22]?).getD undef = .bool false := (ha 22 (by decide)).trans h22; obtain ⟨w32, h32, r32⟩ := hp 17 (by decide); have e32 : (ac.tmps[32]?).getD undef = undef := (ha 32 (by decide)).trans h32; clear h22 h32 ha hp
            refine Reg.Op1.plain rfl ?_
            go_wp2
            exact ⟨rfl, hK _ _ rfl (fun j k _ _ => Reg.Adds.refl _ _ _)⟩
        intro val u hR H
        obtain ⟨wB, hv, rB⟩ := H 18 (by decide)
        have hv : val 18 = .bool false := hv
        have HKu : Hid (Below wr.heap.size wr u) := (Below.refl _ wr).drew.trans hR
        simp only [List.map_cons, List.map_nil, Reg.lay, Act.put, List.setIfInBounds_toArray, List.set_cons_succ, List.set_cons_zero, Nat.reduceAdd, hv]
        clear hR H hv rB
        obtain ⟨wy, hwy⟩ : ∃ z, z = u := ⟨_, rfl⟩
        subst hwy
        have HM2 : Hid (EBx wy (w.heap.size + 1) m) := H1.out.below HKu.out H1.out.lt
        have H02 : Hid (EBx wy w.heap.size ent0) := H0.out.below HKu.out H0.out.lt
        have HB2 : Hid (Below w.heap.size w wy) := HB.out.trans (HKu.out.mono HB.out.size)
        have HATS : Hid (∀ j u, (entCells e)[j]? = some u → wy.cell? ⟨b, o + k * 20 + j, none⟩ = some u) := (HAT.out.below HKu.out hbw).c
        clear H1 H0 HB HKu HAT hbw
        go_wp2
        go_roundw
        case rel => exact ⟨⟨k + 1, by omega, by rw [hts.out], by go_num, H02, Lib.hid (by rw [hts.out]; exact HM2.out), HB2⟩⟩
        case measure => simp [intOf]; omega
    · obtain rfl : k = es.length := by omega
      have d0 : decide ((es.length : Int) < (es.length : Int)) = false := by simp
      rw [List.take_length] at H1
      obtain ⟨⟨m, f⟩, hmf⟩ : ∃ mf, greatR key es = mf := ⟨_, rfl⟩
      rw [List.take_length]
      rw [hmf] at H1 ⊢
      have HMF := Lib.hid hmf
      clear hmf
      go_wp2_with (first | ((with_reducible refine Mem.load_agg _ _ entry_agg (w.heap.size + 1) 0 (entCells m) ?hx (entCells_length m) (fun j u hu => by rw [Nat.zero_add]; exact H1.out.cell hu) ?_); case hx => exact rfl) | ((with_reducible refine Mem.store_agg _ _ entry_agg w.heap.size (entCells ent0) (entCells m) ?hx ?hy H0.out (entCells_length m) (ent_one m) ?_); (case hx => exact rfl); (case hy => exact rfl); intro w3 hb3 hk3 hs3))
      refine bodyPost_ret (v := .tuple #[E m, .bool f]) ?_ rfl ⟨by rw [HMF.out], HB.out.trans (hk3.below (fun k h => by omega) HB.out.size)⟩
      rw [Mem.results_agg2 Try.results28 entry_agg rfl hb3]
      rfl
end Go.Proofs.Ytelephoalpphkaa
end
section
/- The document's Visible and Closed. No conditions but that the list is no great one. -/
set_option maxRecDepth 8000
namespace Go.Proofs.Ytelephoalpphkaa
open Go.ChangeShapes Go.WideShapes Go.ChangeAt Go.RowKit
set_option linter.unusedVariables false
set_option linter.unusedSimpArgs false
namespace Vec
def hasL (cut : Vc) (es : List Ent) : List Ent := es.filter fun e => hasD cut (dotE e)
theorem hasL_snoc (cut : Vc) (es : List Ent) (e : Ent) : hasL cut (es ++ [e]) = hasL cut es ++ (if hasD cut (dotE e) = true then [e] else []) := by
  unfold hasL
  rw [List.filter_append, List.filter_cons]
  rfl
theorem hasL_le (cut : Vc) (es : List Ent) : (hasL cut es).length ≤ es.length := List.length_filter_le _ _
theorem dot_at2 (e : Ent) {q : Nat} {u : Value} (hu : (dtCells (dotE e))[q]? = some u) : (entCells e)[q]? = some u := by
  match q, hu with
  | 0, hu => exact hu
  | 1, hu => exact hu
  | 2, hu => exact hu
  | q + 3, hu => cases hu
theorem deps_at2 (e : Ent) {q : Nat} {u : Value} (hu : (vcCells e.deps)[q]? = some u) : (entCells e)[9 + q]? = some u := by
  have hq : q < 9 := by have := (List.getElem?_eq_some_iff.1 hu).1; rwa [vcCells_length] at this
  match q, hq, hu with
  | 0, _, hu => exact hu
  | 1, _, hu => exact hu
  | 2, _, hu => exact hu
  | 3, _, hu => exact hu
  | 4, _, hu => exact hu
  | 5, _, hu => exact hu
  | 6, _, hu => exact hu
  | 7, _, hu => exact hu
  | 8, _, hu => exact hu
structure VdRel (w : World) (cut : Vc) (es : List Ent) (v8 vi : Value) (wr : World) : Prop where
  out : ∃ (k : Nat) (X : Option Addr) (c : Nat), k ≤ es.length ∧ v8 = .slice X (hasL cut (es.take k)).length c ∧ vi = .int .i64 k ∧ Hid (Mem.Own wr 35 20 X (hasL cut (es.take k)).length c ((hasL cut (es.take k)).flatMap entCells)) ∧ Hid (Mem.From (w.heap.size + 2) X) ∧ Hid (Vec.VBx wr w.heap.size cut) ∧ Hid (EBx wr (w.heap.size + 1) ent0) ∧ Hid (Below w.heap.size w wr)
end Vec
open Vec in
set_option maxHeartbeats 8000000 in
theorem refVisible_any (key : ByteArray) (cut : Vec.Vc) (A : Option Addr) (c : Nat) (es : List Vec.Ent) (B : Nat) (w : World) (hr : Mem.Rd w B A (es.flatMap Vec.entCells)) (hB : B ≤ w.heap.size) (hn : es.length ≤ 1000000) :
    Calls Try.prog 16 #[.string key, .agg (Vec.vcCells cut).toArray, .slice A es.length c] w fun e w' => e = .returned (.tuple #[Vec.E (Vec.visible key cut es).1, .bool (Vec.visible key cut es).2]) ∧ Below w.heap.size w w' := by
  have hm := Lib.hid (hr.more hB)
  clear hr
  go_enter Try.func16, Try.ntmps16
  go_wp2
  go_loopw [8, 9] (VdRel w cut es) (fun _ t _ => es.length - (intOf t).toNat)
  case atStart =>
    refine ⟨⟨0, none, 0, by omega, rfl, rfl, Mem.Own.nil _ _ _, Mem.From.none_ _, ?_, ?_, ?_⟩⟩
    · exact (Mem.Bx.new w 33 (vcCells cut).toArray rfl rfl : Vec.VBx _ _ cut).below (Reg.below_new _ _) (by simp)
    · exact EBx.new (w.alloc _) ent0 (by simp)
    · exact (Reg.below_new _ _).alloc (by simp) _
  case round =>
    obtain ⟨k, X, cx, hk, rfl, rfl, HO, HF, HV, H0, HB⟩ := hrel.out
    clear hrel
    by_cases hlt : k < es.length
    · obtain ⟨b, o, e, rfl, hb, he, hat⟩ := ent_elem hm.out hlt
      have HAT := Lib.hid (hat.below HB.out hb)
      have hts := Lib.hid (show hasL cut (es.take (k + 1)) = hasL cut (es.take k) ++ (if hasD cut (dotE e) = true then [e] else []) by rw [Mem.take_snoc he, hasL_snoc])
      have hln := Lib.hid (show (hasL cut (es.take k)).length ≤ 1000000 from Nat.le_trans (hasL_le _ _) (by rw [List.length_take]; omega))
      obtain ⟨l, hl⟩ : ∃ l, hasL cut (es.take k) = l := ⟨_, rfl⟩
      rw [hl] at HO hts hln ⊢
      have hbw := Nat.lt_of_lt_of_le hb HB.out.size
      have d0 : decide ((k : Int) < (es.length : Int)) = true := by simp; omega
      have HLT := Lib.hid hlt
      clear hat he hl
      go_upto_region 5 with fail
      cases hhd : hasD cut (dotE e)
      · have hts2 : Hid (hasL cut (es.take (k + 1)) = l) := by show _ = _; rw [hts.out, hhd, if_neg (by simp), List.append_nil]
        have HHD := Lib.hid hhd
        clear hhd hts
        refine Reg.wp_region_rel (by kernel_rfl) 35 7 rfl rfl (by kernel_rfl) (Reg.Adds) (Reg.Adds.refl) (Reg.Adds.trans)
          (fun i v u => match i with
            | 0 => v = .agg (vcCells cut).toArray
            | 1 => v = .slice (some ⟨b, o, none⟩) es.length c
            | 2 => v = .int .i64 k
            | 3 => v = .pointer (some ⟨b, o + k * 20, none⟩)
            | 4 => v = .pointer (some ⟨b, o + k * 20, none⟩)
            | 5 => v = .agg (dtCells (dotE e)).toArray
            | 6 => v = .bool false
            | _ => True) ?_ ?_
        · refine Reg.Steps.cons ?_ (Reg.Steps.cons ?_ (Reg.Steps.cons ?_ (Reg.Steps.cons ?_ (Reg.Steps.cons ?_ (Reg.Steps.cons ?_ (Reg.Steps.cons ?_ (Reg.Steps.nil _)))))))
          · intro val ac u hR hp ha K hK
            have e4 : (ac.tmps[4]?).getD undef = .pointer (some ⟨w.heap.size, 0, none⟩) := ha 4 (by decide); clear ha hp
            refine Reg.Op1.plain rfl ?_
            have hVu : Vec.VBx u w.heap.size cut := Mem.Bx.below (w := wr.drew) HV.out hR HV.out.lt
            refine Mem.load_agg _ _ vec_agg w.heap.size 0 (vcCells cut) (Reg.eval_of e4) (vcCells_length _) (fun j u' hu => by rw [Nat.zero_add]; exact hVu.cell hu) ?_
            exact ⟨rfl, hK _ _ rfl (fun j k _ _ => Reg.Adds.refl _ _ _)⟩
          · intro val ac u hR hp ha K hK
            have e2 : (ac.tmps[2]?).getD undef = .slice (some ⟨b, o, none⟩) es.length c := ha 2 (by decide); clear ha hp
            refine Reg.Op1.plain rfl ?_
            go_wp2
            exact ⟨rfl, hK _ _ rfl (fun j k _ _ => Reg.Adds.refl _ _ _)⟩
          · intro val ac u hR hp ha K hK
            have e9 : (ac.tmps[9]?).getD undef = .int .i64 k := ha 9 (by decide); clear ha hp
            refine Reg.Op1.plain rfl ?_
            go_wp2
            exact ⟨rfl, hK _ _ rfl (fun j k _ _ => Reg.Adds.refl _ _ _)⟩
          · intro val ac u hR hp ha K hK
            obtain ⟨w17, h17, r17⟩ := hp 1 (by decide); have e17 : (ac.tmps[17]?).getD undef = .slice (some ⟨b, o, none⟩) es.length c := (ha 17 (by decide)).trans h17; obtain ⟨w18, h18, r18⟩ := hp 2 (by decide); have e18 : (ac.tmps[18]?).getD undef = .int .i64 k := (ha 18 (by decide)).trans h18; clear h17 h18 ha hp
            refine Reg.Op1.plain rfl ?_
            go_wp2
            exact ⟨rfl, hK _ _ rfl (fun j k _ _ => Reg.Adds.refl _ _ _)⟩
          · intro val ac u hR hp ha K hK
            obtain ⟨w19, h19, r19⟩ := hp 3 (by decide); have e19 : (ac.tmps[19]?).getD undef = .pointer (some ⟨b, o + k * 20, none⟩) := (ha 19 (by decide)).trans h19; clear h19 ha hp
            refine Reg.Op1.plain rfl ?_
            go_wp2
            exact ⟨rfl, hK _ _ rfl (fun j k _ _ => Reg.Adds.refl _ _ _)⟩
          · intro val ac u hR hp ha K hK
            obtain ⟨w20, h20, r20⟩ := hp 4 (by decide); have e20 : (ac.tmps[20]?).getD undef = .pointer (some ⟨b, o + k * 20, none⟩) := (ha 20 (by decide)).trans h20; clear h20 ha hp
            refine Reg.Op1.plain rfl ?_
            refine Mem.load_agg _ _ dot_agg b (o + k * 20) (dtCells (dotE e)) (Reg.eval_of e20) (dtCells_length _) (fun q u' hu => (hR.cell (p := ⟨b, o + k * 20 + q, none⟩) hbw).trans (HAT.out.c q u' (Vec.dot_at2 e hu))) ?_
            exact ⟨rfl, hK _ _ rfl (fun j k _ _ => Reg.Adds.refl _ _ _)⟩
          · intro val ac u hR hp ha K hK
            obtain ⟨w16, h16, r16⟩ := hp 0 (by decide); have e16 : (ac.tmps[16]?).getD undef = .agg (vcCells cut).toArray := (ha 16 (by decide)).trans h16; obtain ⟨w21, h21, r21⟩ := hp 5 (by decide); have e21 : (ac.tmps[21]?).getD undef = .agg (dtCells (dotE e)).toArray := (ha 21 (by decide)).trans h21; clear h16 h21 ha hp
            refine Reg.Op1.plain rfl ?_
            go_wp2_with fail
            refine (refHas_any cut (dotE e) u).mono ?_
            rintro x w' ⟨rfl, hbw⟩
            rw [HHD.out]
            go_wp2_with fail
            exact ⟨rfl, hK _ _ rfl (fun j k _ _ => hbw)⟩
        intro val u hR H
        obtain ⟨wB, hv, rB⟩ := H 6 (by decide)
        have hv : val 6 = .bool false := hv
        have HKu : Hid (Below wr.heap.size wr u) := (Below.refl _ wr).drew.trans hR
        simp only [List.map_cons, List.map_nil, Reg.lay, Act.put, List.setIfInBounds_toArray, List.set_cons_succ, List.set_cons_zero, Nat.reduceAdd, hv]
        clear hR H hv rB
        obtain ⟨wy, hwy⟩ : ∃ z, z = u := ⟨_, rfl⟩
        subst hwy
        have HO2 := Lib.hid (HO.out.below HKu.out (fun q hq => HO.out.lt hq))
        have HV2 : Hid (Vec.VBx wy w.heap.size cut) := HV.out.below HKu.out HV.out.lt
        have H02 : Hid (EBx wy (w.heap.size + 1) ent0) := H0.out.below HKu.out H0.out.lt
        have HB2 : Hid (Below w.heap.size w wy) := HB.out.trans (HKu.out.mono HB.out.size)
        have HATS : Hid (∀ j u, (entCells e)[j]? = some u → wy.cell? ⟨b, o + k * 20 + j, none⟩ = some u) := (HAT.out.below HKu.out hbw).c
        clear HO HV H0 HB HKu HAT hbw
        go_wp2
        go_roundw
        case rel => exact ⟨⟨k + 1, X, cx, HLT.out, by rw [hts2.out], by go_num, by rw [hts2.out]; exact HO2, HF, HV2, H02, HB2⟩⟩
        case measure => have := HLT.out; simp [intOf]; omega
      · have hts2 : Hid (hasL cut (es.take (k + 1)) = l ++ [e]) := by show _ = _; rw [hts.out, hhd, if_pos rfl]
        have HHD := Lib.hid hhd
        clear hhd hts
        refine Reg.wp_region_rel (by kernel_rfl) 35 7 rfl rfl (by kernel_rfl) (Reg.Adds) (Reg.Adds.refl) (Reg.Adds.trans)
          (fun i v u => match i with
            | 0 => v = .agg (vcCells cut).toArray
            | 1 => v = .slice (some ⟨b, o, none⟩) es.length c
            | 2 => v = .int .i64 k
            | 3 => v = .pointer (some ⟨b, o + k * 20, none⟩)
            | 4 => v = .pointer (some ⟨b, o + k * 20, none⟩)
            | 5 => v = .agg (dtCells (dotE e)).toArray
            | 6 => v = .bool true
            | _ => True) ?_ ?_
        · refine Reg.Steps.cons ?_ (Reg.Steps.cons ?_ (Reg.Steps.cons ?_ (Reg.Steps.cons ?_ (Reg.Steps.cons ?_ (Reg.Steps.cons ?_ (Reg.Steps.cons ?_ (Reg.Steps.nil _)))))))
          · intro val ac u hR hp ha K hK
            have e4 : (ac.tmps[4]?).getD undef = .pointer (some ⟨w.heap.size, 0, none⟩) := ha 4 (by decide); clear ha hp
            refine Reg.Op1.plain rfl ?_
            have hVu : Vec.VBx u w.heap.size cut := Mem.Bx.below (w := wr.drew) HV.out hR HV.out.lt
            refine Mem.load_agg _ _ vec_agg w.heap.size 0 (vcCells cut) (Reg.eval_of e4) (vcCells_length _) (fun j u' hu => by rw [Nat.zero_add]; exact hVu.cell hu) ?_
            exact ⟨rfl, hK _ _ rfl (fun j k _ _ => Reg.Adds.refl _ _ _)⟩
          · intro val ac u hR hp ha K hK
            have e2 : (ac.tmps[2]?).getD undef = .slice (some ⟨b, o, none⟩) es.length c := ha 2 (by decide); clear ha hp
            refine Reg.Op1.plain rfl ?_
            go_wp2
            exact ⟨rfl, hK _ _ rfl (fun j k _ _ => Reg.Adds.refl _ _ _)⟩
          · intro val ac u hR hp ha K hK
            have e9 : (ac.tmps[9]?).getD undef = .int .i64 k := ha 9 (by decide); clear ha hp
            refine Reg.Op1.plain rfl ?_
            go_wp2
            exact ⟨rfl, hK _ _ rfl (fun j k _ _ => Reg.Adds.refl _ _ _)⟩
          · intro val ac u hR hp ha K hK
            obtain ⟨w17, h17, r17⟩ := hp 1 (by decide); have e17 : (ac.tmps[17]?).getD undef = .slice (some ⟨b, o, none⟩) es.length c := (ha 17 (by decide)).trans h17; obtain ⟨w18, h18, r18⟩ := hp 2 (by decide); have e18 : (ac.tmps[18]?).getD undef = .int .i64 k := (ha 18 (by decide)).trans h18; clear h17 h18 ha hp
            refine Reg.Op1.plain rfl ?_
            go_wp2
            exact ⟨rfl, hK _ _ rfl (fun j k _ _ => Reg.Adds.refl _ _ _)⟩
          · intro val ac u hR hp ha K hK
            obtain ⟨w19, h19, r19⟩ := hp 3 (by decide); have e19 : (ac.tmps[19]?).getD undef = .pointer (some ⟨b, o + k * 20, none⟩) := (ha 19 (by decide)).trans h19; clear h19 ha hp
            refine Reg.Op1.plain rfl ?_
            go_wp2
            exact ⟨rfl, hK _ _ rfl (fun j k _ _ => Reg.Adds.refl _ _ _)⟩
          · intro val ac u hR hp ha K hK
            obtain ⟨w20, h20, r20⟩ := hp 4 (by decide); have e20 : (ac.tmps[20]?).getD undef = .pointer (some ⟨b, o + k * 20, none⟩) := (ha 20 (by decide)).trans h20; clear h20 ha hp
            refine Reg.Op1.plain rfl ?_
            refine Mem.load_agg _ _ dot_agg b (o + k * 20) (dtCells (dotE e)) (Reg.eval_of e20) (dtCells_length _) (fun q u' hu => (hR.cell (p := ⟨b, o + k * 20 + q, none⟩) hbw).trans (HAT.out.c q u' (Vec.dot_at2 e hu))) ?_
            exact ⟨rfl, hK _ _ rfl (fun j k _ _ => Reg.Adds.refl _ _ _)⟩
          · intro val ac u hR hp ha K hK
            obtain ⟨w16, h16, r16⟩ := hp 0 (by decide); have e16 : (ac.tmps[16]?).getD undef = .agg (vcCells cut).toArray := (ha 16 (by decide)).trans h16; obtain ⟨w21, h21, r21⟩ := hp 5 (by decide); have e21 : (ac.tmps[21]?).getD undef = .agg (dtCells (dotE e)).toArray := (ha 21 (by decide)).trans h21; clear h16 h21 ha hp
            refine Reg.Op1.plain rfl ?_
            go_wp2_with fail
            refine (refHas_any cut (dotE e) u).mono ?_
            rintro x w' ⟨rfl, hbw⟩
            rw [HHD.out]
            go_wp2_with fail
            exact ⟨rfl, hK _ _ rfl (fun j k _ _ => hbw)⟩
        intro val u hR H
        obtain ⟨wB, hv, rB⟩ := H 6 (by decide)
        have hv : val 6 = .bool true := hv
        have HKu : Hid (Below wr.heap.size wr u) := (Below.refl _ wr).drew.trans hR
        simp only [List.map_cons, List.map_nil, Reg.lay, Act.put, List.setIfInBounds_toArray, List.set_cons_succ, List.set_cons_zero, Nat.reduceAdd, hv]
        clear hR H hv rB
        obtain ⟨wy, hwy⟩ : ∃ z, z = u := ⟨_, rfl⟩
        subst hwy
        have HO2 := Lib.hid (HO.out.below HKu.out (fun q hq => HO.out.lt hq))
        have HV2 : Hid (Vec.VBx wy w.heap.size cut) := HV.out.below HKu.out HV.out.lt
        have H02 : Hid (EBx wy (w.heap.size + 1) ent0) := H0.out.below HKu.out H0.out.lt
        have HB2 : Hid (Below w.heap.size w wy) := HB.out.trans (HKu.out.mono HB.out.size)
        have HATS : Hid (∀ j u, (entCells e)[j]? = some u → wy.cell? ⟨b, o + k * 20 + j, none⟩ = some u) := (HAT.out.below HKu.out hbw).c
        clear HO HV H0 HB HKu HAT hbw
        have ho := ent_one e
        have hl1 := hln.out
        have hn63 : l.length + 1 ≤ maxLen := by unfold maxLen; omega
        go_upto_region 4 with (first
          | ((with_reducible refine Mem.load_agg _ _ entry_agg b (o + k * 20) (entCells e) ?hx (entCells_length e) HATS.out ?_); case hx => exact rfl)
          | ((with_reducible refine Mem.build1_agg _ _ 20 _ Try.underlying23 entry_zero (by decide) (by decide) (entCells e) ?hra (entCells_length _) ?_); (case hra => exact rfl))
          | (at_builtin; refine Mem.wpList_app _ rfl (.tmp 23) (.tmp 28) _ rfl entries_elem X l.length cx _ rfl (wy.heap.size + 1) (some ⟨wy.heap.size, 0, none⟩) 1 1 (entCells e) rfl ?_ (HO2.out.alloc _) (Mem.Rd.alloc_new wy _ _ _ rfl) rfl ho hn63 (by omega); intro X3 c3 w9 hown hg4 hat; have HO9 := Lib.hid hown; have HG9 := Lib.hid hg4; have HAT9 := Lib.hid hat; clear hown hg4 hat))
        have hk9 : Mem.Keeps (fun q => Mem.blk X = some q) wy w9 := ((Mem.Keeps.refl (fun q => Mem.blk X = some q) wy).alloc _).grown HG9.out (fun k hk _ => hk)
        have HV9 : Hid (Vec.VBx w9 w.heap.size cut) := HV2.out.keeps hk9 (fun h => by have := HF.out.blk _ h; omega)
        have H09 : Hid (EBx w9 (w.heap.size + 1) ent0) := H02.out.keeps hk9 (fun h => by have := HF.out.blk _ h; omega)
        have HB9 : Hid (Below w.heap.size w w9) := HB2.out.trans (hk9.below (fun q hq => by have := HF.out.blk _ hq; omega) HB2.out.size)
        have HF9 : Hid (Mem.From (w.heap.size + 2) X3) := by
          rcases HAT9.out with h | h
          · rw [h]; exact HF.out
          · rw [h]
            have h1 := H02.out.lt
            have h2 : (wy.alloc (.cells (entCells e).toArray 35)).heap.size = wy.heap.size + 1 := Array.size_push _
            exact Mem.From.some_ (by omega)
        have e1 : (hasL cut (es.take (k + 1))).length = l.length + 1 := by rw [hts2.out]; exact List.length_append
        have HO10 : Hid (Mem.Own w9 35 20 X3 (hasL cut (es.take (k + 1))).length c3 ((hasL cut (es.take (k + 1))).flatMap entCells)) := by
          show Mem.Own _ _ _ _ _ _ _
          rw [e1, hts2.out, List.flatMap_append]
          exact HO9.out
        have E1 := Lib.hid e1
        clear hk9 ho hl1 hn63 e1 HO9 HG9 HAT9 HO2 HV2 H02 HB2 HATS
        go_wp2
        go_roundw
        case rel => exact ⟨⟨k + 1, X3, c3, HLT.out, by rw [E1.out], by go_num, HO10, HF9, HV9, H09, HB9⟩⟩
        case measure => have := HLT.out; simp [intOf]; omega
    · obtain rfl : k = es.length := by omega
      have d0 : decide ((es.length : Int) < (es.length : Int)) = false := by simp
      rw [List.take_length] at HO ⊢
      have hln : (hasL cut es).length ≤ 1000000 := Nat.le_trans (hasL_le _ _) hn
      have hg : greatR key (hasL cut es) = visible key cut es := visible_great key cut es
      have HGR := Lib.hid (refGreatest_any key X cx (hasL cut es) wr.heap.size wr HO.out.rd (Nat.le_refl _) (by unfold maxLen; omega))
      rw [hg] at HGR
      obtain ⟨⟨m, f⟩, hmf⟩ : ∃ mf, visible key cut es = mf := ⟨_, rfl⟩
      rw [hmf] at HGR
      have HMF := Lib.hid hmf
      have ho := ent_one m
      clear hmf hg
      go_wp2_with (first
        | (go_at_call 28; (refine HGR.out.mono ?_); rintro x w2 ⟨rfl, hb2⟩; have HB2 := Lib.hid (HB.out.trans (hb2.mono HB.out.size)); have H02 : Hid (EBx w2 (w.heap.size + 1) ent0) := H0.out.below hb2 H0.out.lt; clear hb2)
        | ((with_reducible refine Mem.store_agg _ _ entry_agg (w.heap.size + 1) (entCells ent0) (entCells m) ?hxs ?hys H02.out (entCells_length m) ho ?_); (case hxs => exact rfl); (case hys => exact rfl); intro w3 hb3 hk3 hs3))
      refine bodyPost_ret (v := .tuple #[E m, .bool f]) ?_ rfl ⟨by rw [HMF.out], HB2.out.trans (hk3.below (fun k h => by omega) HB2.out.size)⟩
      rw [Mem.results_agg2 Try.results16 entry_agg rfl hb3]
      rfl
namespace Vec
structure CdRel (w : World) (cut : Vc) (es : List Ent) (vi : Value) (wr : World) : Prop where
  out : ∃ k : Nat, k ≤ es.length ∧ vi = .int .i64 k ∧ Hid (closedP cut (es.take k) = true) ∧ Hid (Vec.VBx wr w.heap.size cut) ∧ Hid (Below w.heap.size w wr)
theorem closed_snoc (cut : Vc) (es : List Ent) (e : Ent) : closedP cut (es ++ [e]) = (closedP cut es && (!hasD cut (dotE e) || coversV cut e.deps)) := by unfold closedP; rw [List.all_append]; simp
theorem closed_no {cut : Vc} {es : List Ent} {e : Ent} (he : e ∈ es) (h : (!hasD cut (dotE e) || coversV cut e.deps) = false) : closedP cut es = false := by
  unfold closedP
  rw [List.all_eq_false]
  exact ⟨e, he, by rw [h]; simp⟩
end Vec
open Vec in
set_option maxHeartbeats 8000000 in
theorem refClosed_any (cut : Vec.Vc) (A : Option Addr) (c : Nat) (es : List Vec.Ent) (B : Nat) (w : World) (hr : Mem.Rd w B A (es.flatMap Vec.entCells)) (hB : B ≤ w.heap.size) (hn : es.length ≤ 1000000) :
    Calls Try.prog 18 #[.agg (Vec.vcCells cut).toArray, .slice A es.length c] w fun e w' => e = .returned (.bool (Vec.closedP cut es)) ∧ Below w.heap.size w w' := by
  have hm := Lib.hid (hr.more hB)
  clear hr
  obtain ⟨z, hz⟩ : ∃ z, closedP cut es = z := ⟨_, rfl⟩
  rw [hz]
  have HZ := Lib.hid hz
  clear hz
  go_enter Try.func18, Try.ntmps18
  go_wp2
  go_loopw [5] (CdRel w cut es) (fun t _ => es.length - (intOf t).toNat)
  case atStart =>
    exact ⟨⟨0, by omega, rfl, rfl, Mem.Bx.new w 33 (vcCells cut).toArray rfl rfl, Reg.below_new _ _⟩⟩
  case round =>
    obtain ⟨k, hk, rfl, HT, HV, HB⟩ := hrel.out
    clear hrel
    by_cases hlt : k < es.length
    · obtain ⟨b, o, e, rfl, hb, he, hat⟩ := ent_elem hm.out hlt
      have HAT := Lib.hid (hat.below HB.out hb)
      have hts := Lib.hid (show closedP cut (es.take (k + 1)) = (closedP cut (es.take k) && (!hasD cut (dotE e) || coversV cut e.deps)) by rw [Mem.take_snoc he, closed_snoc])
      have HME := Lib.hid (List.mem_of_getElem? he)
      have hbw := Nat.lt_of_lt_of_le hb HB.out.size
      have d0 : decide ((k : Int) < (es.length : Int)) = true := by simp; omega
      have HLT := Lib.hid hlt
      clear hat he
      go_upto_region 4 with fail
      cases hhd : hasD cut (dotE e)
      · have hts2 : Hid (closedP cut (es.take (k + 1)) = true) := by show _ = _; rw [hts.out, HT.out, hhd]; rfl
        have HHD := Lib.hid hhd
        have HCV : Hid (coversV cut e.deps = coversV cut e.deps) := rfl
        clear hhd hts
        refine Reg.wp_region_rel (by kernel_rfl) 29 17 rfl rfl (by kernel_rfl) (Reg.Adds) (Reg.Adds.refl) (Reg.Adds.trans)
          (fun i v u => match i with
            | 0 => v = .agg (vcCells cut).toArray
            | 1 => v = .slice (some ⟨b, o, none⟩) es.length c
            | 2 => v = .int .i64 k
            | 3 => v = .pointer (some ⟨b, o + k * 20, none⟩)
            | 4 => v = .pointer (some ⟨b, o + k * 20, none⟩)
            | 5 => v = .agg (dtCells (dotE e)).toArray
            | 6 => v = .bool false
            | 7 => v = .bool false
            | 8 => v = undef
            | 9 => v = undef
            | 10 => v = undef
            | 11 => v = undef
            | 12 => v = undef
            | 13 => v = undef
            | 14 => v = undef
            | 15 => v = undef
            | 16 => v = .bool false
            | _ => True) ?_ ?_
        · refine Reg.Steps.cons ?_ (Reg.Steps.cons ?_ (Reg.Steps.cons ?_ (Reg.Steps.cons ?_ (Reg.Steps.cons ?_ (Reg.Steps.cons ?_ (Reg.Steps.cons ?_ (Reg.Steps.cons ?_ (Reg.Steps.cons ?_ (Reg.Steps.cons ?_ (Reg.Steps.cons ?_ (Reg.Steps.cons ?_ (Reg.Steps.cons ?_ (Reg.Steps.cons ?_ (Reg.Steps.cons ?_ (Reg.Steps.cons ?_ (Reg.Steps.cons ?_ (Reg.Steps.nil _)))))))))))))))))
          · intro val ac u hR hp ha K hK
            have e2 : (ac.tmps[2]?).getD undef = .pointer (some ⟨w.heap.size, 0, none⟩) := ha 2 (by decide); clear ha hp
            refine Reg.Op1.plain rfl ?_
            have hVu : Vec.VBx u w.heap.size cut := Mem.Bx.below (w := wr.drew) HV.out hR HV.out.lt
            refine Mem.load_agg _ _ vec_agg w.heap.size 0 (vcCells cut) (Reg.eval_of e2) (vcCells_length _) (fun j u' hu => by rw [Nat.zero_add]; exact hVu.cell hu) ?_
            exact ⟨rfl, hK _ _ rfl (fun j k _ _ => Reg.Adds.refl _ _ _)⟩
          · intro val ac u hR hp ha K hK
            have e1 : (ac.tmps[1]?).getD undef = .slice (some ⟨b, o, none⟩) es.length c := ha 1 (by decide); clear ha hp
            refine Reg.Op1.plain rfl ?_
            go_wp2
            exact ⟨rfl, hK _ _ rfl (fun j k _ _ => Reg.Adds.refl _ _ _)⟩
          · intro val ac u hR hp ha K hK
            have e5 : (ac.tmps[5]?).getD undef = .int .i64 k := ha 5 (by decide); clear ha hp
            refine Reg.Op1.plain rfl ?_
            go_wp2
            exact ⟨rfl, hK _ _ rfl (fun j k _ _ => Reg.Adds.refl _ _ _)⟩
          · intro val ac u hR hp ha K hK
            obtain ⟨w13, h13, r13⟩ := hp 1 (by decide); have e13 : (ac.tmps[13]?).getD undef = .slice (some ⟨b, o, none⟩) es.length c := (ha 13 (by decide)).trans h13; obtain ⟨w14, h14, r14⟩ := hp 2 (by decide); have e14 : (ac.tmps[14]?).getD undef = .int .i64 k := (ha 14 (by decide)).trans h14; clear h13 h14 ha hp
            refine Reg.Op1.plain rfl ?_
            go_wp2
            exact ⟨rfl, hK _ _ rfl (fun j k _ _ => Reg.Adds.refl _ _ _)⟩
          · intro val ac u hR hp ha K hK
            obtain ⟨w15, h15, r15⟩ := hp 3 (by decide); have e15 : (ac.tmps[15]?).getD undef = .pointer (some ⟨b, o + k * 20, none⟩) := (ha 15 (by decide)).trans h15; clear h15 ha hp
            refine Reg.Op1.plain rfl ?_
            go_wp2
            exact ⟨rfl, hK _ _ rfl (fun j k _ _ => Reg.Adds.refl _ _ _)⟩
          · intro val ac u hR hp ha K hK
            obtain ⟨w16, h16, r16⟩ := hp 4 (by decide); have e16 : (ac.tmps[16]?).getD undef = .pointer (some ⟨b, o + k * 20, none⟩) := (ha 16 (by decide)).trans h16; clear h16 ha hp
            refine Reg.Op1.plain rfl ?_
            refine Mem.load_agg _ _ dot_agg b (o + k * 20) (dtCells (dotE e)) (Reg.eval_of e16) (dtCells_length _) (fun q u' hu => (hR.cell (p := ⟨b, o + k * 20 + q, none⟩) hbw).trans (HAT.out.c q u' (Vec.dot_at2 e hu))) ?_
            exact ⟨rfl, hK _ _ rfl (fun j k _ _ => Reg.Adds.refl _ _ _)⟩
          · intro val ac u hR hp ha K hK
            obtain ⟨w12, h12, r12⟩ := hp 0 (by decide); have e12 : (ac.tmps[12]?).getD undef = .agg (vcCells cut).toArray := (ha 12 (by decide)).trans h12; obtain ⟨w17, h17, r17⟩ := hp 5 (by decide); have e17 : (ac.tmps[17]?).getD undef = .agg (dtCells (dotE e)).toArray := (ha 17 (by decide)).trans h17; clear h12 h17 ha hp
            refine Reg.Op1.plain rfl ?_
            go_wp2_with fail
            refine (refHas_any cut (dotE e) u).mono ?_
            rintro x w' ⟨rfl, hbw⟩
            rw [HHD.out]
            go_wp2_with fail
            exact ⟨rfl, hK _ _ rfl (fun j k _ _ => hbw)⟩
          · intro val ac u hR hp ha K hK
            obtain ⟨w18, h18, r18⟩ := hp 6 (by decide); have e18 : (ac.tmps[18]?).getD undef = .bool false := (ha 18 (by decide)).trans h18; clear h18 ha hp
            refine Reg.Op1.plain rfl ?_
            go_wp2
            exact ⟨rfl, hK _ _ rfl (fun j k _ _ => Reg.Adds.refl _ _ _)⟩
          · intro val ac u hR hp ha K hK; obtain ⟨_, h, _⟩ := hp 7 (by decide); exact Reg.Op1.guarded rfl rfl ((ha 19 (by decide)).trans h) (fun h => by cases h) (fun _ => hK _ _ rfl (fun j k _ _ => Reg.Adds.refl _ _ _))
          · intro val ac u hR hp ha K hK; obtain ⟨_, h, _⟩ := hp 7 (by decide); exact Reg.Op1.guarded rfl rfl ((ha 19 (by decide)).trans h) (fun h => by cases h) (fun _ => hK _ _ rfl (fun j k _ _ => Reg.Adds.refl _ _ _))
          · intro val ac u hR hp ha K hK; obtain ⟨_, h, _⟩ := hp 7 (by decide); exact Reg.Op1.guarded rfl rfl ((ha 19 (by decide)).trans h) (fun h => by cases h) (fun _ => hK _ _ rfl (fun j k _ _ => Reg.Adds.refl _ _ _))
          · intro val ac u hR hp ha K hK; obtain ⟨_, h, _⟩ := hp 7 (by decide); exact Reg.Op1.guarded rfl rfl ((ha 19 (by decide)).trans h) (fun h => by cases h) (fun _ => hK _ _ rfl (fun j k _ _ => Reg.Adds.refl _ _ _))
          · intro val ac u hR hp ha K hK; obtain ⟨_, h, _⟩ := hp 7 (by decide); exact Reg.Op1.guarded rfl rfl ((ha 19 (by decide)).trans h) (fun h => by cases h) (fun _ => hK _ _ rfl (fun j k _ _ => Reg.Adds.refl _ _ _))
          · intro val ac u hR hp ha K hK; obtain ⟨_, h, _⟩ := hp 7 (by decide); exact Reg.Op1.guarded rfl rfl ((ha 19 (by decide)).trans h) (fun h => by cases h) (fun _ => hK _ _ rfl (fun j k _ _ => Reg.Adds.refl _ _ _))
          · intro val ac u hR hp ha K hK; obtain ⟨_, h, _⟩ := hp 7 (by decide); exact Reg.Op1.guarded rfl rfl ((ha 19 (by decide)).trans h) (fun h => by cases h) (fun _ => hK _ _ rfl (fun j k _ _ => Reg.Adds.refl _ _ _))
          · intro val ac u hR hp ha K hK; obtain ⟨_, h, _⟩ := hp 7 (by decide); exact Reg.Op1.guarded rfl rfl ((ha 19 (by decide)).trans h) (fun h => by cases h) (fun _ => hK _ _ rfl (fun j k _ _ => Reg.Adds.refl _ _ _))
          · intro val ac u hR hp ha K hK
            obtain ⟨w19, h19, r19⟩ := hp 7 (by decide); have e19 : (ac.tmps[19]?).getD undef = .bool false := (ha 19 (by decide)).trans h19; obtain ⟨w27, h27, r27⟩ := hp 15 (by decide); have e27 : (ac.tmps[27]?).getD undef = undef := (ha 27 (by decide)).trans h27; clear h19 h27 ha hp
            refine Reg.Op1.plain rfl ?_
            go_wp2
            exact ⟨rfl, hK _ _ rfl (fun j k _ _ => Reg.Adds.refl _ _ _)⟩
        intro val u hR H
        obtain ⟨wB, hv, rB⟩ := H 16 (by decide)
        have hv : val 16 = .bool false := hv
        have HKu : Hid (Below wr.heap.size wr u) := (Below.refl _ wr).drew.trans hR
        simp only [List.map_cons, List.map_nil, Reg.lay, Act.put, List.setIfInBounds_toArray, List.set_cons_succ, List.set_cons_zero, Nat.reduceAdd, hv]
        clear hR H hv rB
        obtain ⟨wy, hwy⟩ : ∃ z, z = u := ⟨_, rfl⟩
        subst hwy
        have HV2 : Hid (Vec.VBx wy w.heap.size cut) := HV.out.below HKu.out HV.out.lt
        have HB2 : Hid (Below w.heap.size w wy) := HB.out.trans (HKu.out.mono HB.out.size)
        clear HV HB HKu HAT hbw
        go_wp2
        go_roundw
        case rel => exact ⟨⟨k + 1, HLT.out, by go_num, hts2, HV2, HB2⟩⟩
        case measure => have := HLT.out; simp [intOf]; omega
      · cases hcv : coversV cut e.deps
        · obtain rfl : z = false := by rw [← HZ.out]; exact closed_no HME.out (by rw [hhd, hcv]; rfl)
          have HHD := Lib.hid hhd
          have HCV := Lib.hid hcv
          clear hhd hcv hts
          refine Reg.wp_region_rel (by kernel_rfl) 29 17 rfl rfl (by kernel_rfl) (Reg.Adds) (Reg.Adds.refl) (Reg.Adds.trans)
            (fun i v u => match i with
              | 0 => v = .agg (vcCells cut).toArray
              | 1 => v = .slice (some ⟨b, o, none⟩) es.length c
              | 2 => v = .int .i64 k
              | 3 => v = .pointer (some ⟨b, o + k * 20, none⟩)
              | 4 => v = .pointer (some ⟨b, o + k * 20, none⟩)
              | 5 => v = .agg (dtCells (dotE e)).toArray
              | 6 => v = .bool true
              | 7 => v = .bool true
              | 8 => v = .agg (vcCells cut).toArray
              | 9 => v = .slice (some ⟨b, o, none⟩) es.length c
              | 10 => v = .int .i64 k
              | 11 => v = .pointer (some ⟨b, o + k * 20, none⟩)
              | 12 => v = .pointer (some ⟨b, o + k * 20 + 9, none⟩)
              | 13 => v = .agg (vcCells e.deps).toArray
              | 14 => v = .bool false
              | 15 => v = .bool true
              | 16 => v = .bool true
              | _ => True) ?_ ?_
          · refine Reg.Steps.cons ?_ (Reg.Steps.cons ?_ (Reg.Steps.cons ?_ (Reg.Steps.cons ?_ (Reg.Steps.cons ?_ (Reg.Steps.cons ?_ (Reg.Steps.cons ?_ (Reg.Steps.cons ?_ (Reg.Steps.cons ?_ (Reg.Steps.cons ?_ (Reg.Steps.cons ?_ (Reg.Steps.cons ?_ (Reg.Steps.cons ?_ (Reg.Steps.cons ?_ (Reg.Steps.cons ?_ (Reg.Steps.cons ?_ (Reg.Steps.cons ?_ (Reg.Steps.nil _)))))))))))))))))
            · intro val ac u hR hp ha K hK
              have e2 : (ac.tmps[2]?).getD undef = .pointer (some ⟨w.heap.size, 0, none⟩) := ha 2 (by decide); clear ha hp
              refine Reg.Op1.plain rfl ?_
              have hVu : Vec.VBx u w.heap.size cut := Mem.Bx.below (w := wr.drew) HV.out hR HV.out.lt
              refine Mem.load_agg _ _ vec_agg w.heap.size 0 (vcCells cut) (Reg.eval_of e2) (vcCells_length _) (fun j u' hu => by rw [Nat.zero_add]; exact hVu.cell hu) ?_
              exact ⟨rfl, hK _ _ rfl (fun j k _ _ => Reg.Adds.refl _ _ _)⟩
            · intro val ac u hR hp ha K hK
              have e1 : (ac.tmps[1]?).getD undef = .slice (some ⟨b, o, none⟩) es.length c := ha 1 (by decide); clear ha hp
              refine Reg.Op1.plain rfl ?_
              go_wp2
              exact ⟨rfl, hK _ _ rfl (fun j k _ _ => Reg.Adds.refl _ _ _)⟩
            · intro val ac u hR hp ha K hK
              have e5 : (ac.tmps[5]?).getD undef = .int .i64 k := ha 5 (by decide); clear ha hp
              refine Reg.Op1.plain rfl ?_
              go_wp2
              exact ⟨rfl, hK _ _ rfl (fun j k _ _ => Reg.Adds.refl _ _ _)⟩
            · intro val ac u hR hp ha K hK
              obtain ⟨w13, h13, r13⟩ := hp 1 (by decide); have e13 : (ac.tmps[13]?).getD undef = .slice (some ⟨b, o, none⟩) es.length c := (ha 13 (by decide)).trans h13; obtain ⟨w14, h14, r14⟩ := hp 2 (by decide); have e14 : (ac.tmps[14]?).getD undef = .int .i64 k := (ha 14 (by decide)).trans h14; clear h13 h14 ha hp
              refine Reg.Op1.plain rfl ?_
              go_wp2
              exact ⟨rfl, hK _ _ rfl (fun j k _ _ => Reg.Adds.refl _ _ _)⟩
            · intro val ac u hR hp ha K hK
              obtain ⟨w15, h15, r15⟩ := hp 3 (by decide); have e15 : (ac.tmps[15]?).getD undef = .pointer (some ⟨b, o + k * 20, none⟩) := (ha 15 (by decide)).trans h15; clear h15 ha hp
              refine Reg.Op1.plain rfl ?_
              go_wp2
              exact ⟨rfl, hK _ _ rfl (fun j k _ _ => Reg.Adds.refl _ _ _)⟩
            · intro val ac u hR hp ha K hK
              obtain ⟨w16, h16, r16⟩ := hp 4 (by decide); have e16 : (ac.tmps[16]?).getD undef = .pointer (some ⟨b, o + k * 20, none⟩) := (ha 16 (by decide)).trans h16; clear h16 ha hp
              refine Reg.Op1.plain rfl ?_
              refine Mem.load_agg _ _ dot_agg b (o + k * 20) (dtCells (dotE e)) (Reg.eval_of e16) (dtCells_length _) (fun q u' hu => (hR.cell (p := ⟨b, o + k * 20 + q, none⟩) hbw).trans (HAT.out.c q u' (Vec.dot_at2 e hu))) ?_
              exact ⟨rfl, hK _ _ rfl (fun j k _ _ => Reg.Adds.refl _ _ _)⟩
            · intro val ac u hR hp ha K hK
              obtain ⟨w12, h12, r12⟩ := hp 0 (by decide); have e12 : (ac.tmps[12]?).getD undef = .agg (vcCells cut).toArray := (ha 12 (by decide)).trans h12; obtain ⟨w17, h17, r17⟩ := hp 5 (by decide); have e17 : (ac.tmps[17]?).getD undef = .agg (dtCells (dotE e)).toArray := (ha 17 (by decide)).trans h17; clear h12 h17 ha hp
              refine Reg.Op1.plain rfl ?_
              go_wp2_with fail
              refine (refHas_any cut (dotE e) u).mono ?_
              rintro x w' ⟨rfl, hbw⟩
              rw [HHD.out]
              go_wp2_with fail
              exact ⟨rfl, hK _ _ rfl (fun j k _ _ => hbw)⟩
            · intro val ac u hR hp ha K hK
              obtain ⟨w18, h18, r18⟩ := hp 6 (by decide); have e18 : (ac.tmps[18]?).getD undef = .bool true := (ha 18 (by decide)).trans h18; clear h18 ha hp
              refine Reg.Op1.plain rfl ?_
              go_wp2
              exact ⟨rfl, hK _ _ rfl (fun j k _ _ => Reg.Adds.refl _ _ _)⟩
            · intro val ac u hR hp ha K hK
              have e2 : (ac.tmps[2]?).getD undef = .pointer (some ⟨w.heap.size, 0, none⟩) := ha 2 (by decide); obtain ⟨w19, h19, r19⟩ := hp 7 (by decide); have e19 : (ac.tmps[19]?).getD undef = .bool true := (ha 19 (by decide)).trans h19; clear h19 ha hp
              refine Reg.Op1.guarded rfl rfl e19 (fun _ => Reg.Op1.plain rfl ?_) (fun h => absurd rfl h)
              have hVu : Vec.VBx u w.heap.size cut := Mem.Bx.below (w := wr.drew) HV.out hR HV.out.lt
              refine Mem.load_aggG _ _ vec_agg w.heap.size 0 (vcCells cut) (by simp [Region.wanted]) (Reg.eval_of e2) (vcCells_length _) (fun j u' hu => by rw [Nat.zero_add]; exact hVu.cell hu) ?_
              exact ⟨rfl, hK _ _ rfl (fun j k _ _ => Reg.Adds.refl _ _ _)⟩
            · intro val ac u hR hp ha K hK
              have e1 : (ac.tmps[1]?).getD undef = .slice (some ⟨b, o, none⟩) es.length c := ha 1 (by decide); obtain ⟨w19, h19, r19⟩ := hp 7 (by decide); have e19 : (ac.tmps[19]?).getD undef = .bool true := (ha 19 (by decide)).trans h19; clear h19 ha hp
              refine Reg.Op1.guarded rfl rfl e19 (fun _ => Reg.Op1.plain rfl ?_) (fun h => absurd rfl h)
              go_wp2
              exact ⟨rfl, hK _ _ rfl (fun j k _ _ => Reg.Adds.refl _ _ _)⟩
            · intro val ac u hR hp ha K hK
              have e5 : (ac.tmps[5]?).getD undef = .int .i64 k := ha 5 (by decide); obtain ⟨w19, h19, r19⟩ := hp 7 (by decide); have e19 : (ac.tmps[19]?).getD undef = .bool true := (ha 19 (by decide)).trans h19; clear h19 ha hp
              refine Reg.Op1.guarded rfl rfl e19 (fun _ => Reg.Op1.plain rfl ?_) (fun h => absurd rfl h)
              go_wp2
              exact ⟨rfl, hK _ _ rfl (fun j k _ _ => Reg.Adds.refl _ _ _)⟩
            · intro val ac u hR hp ha K hK
              obtain ⟨w21, h21, r21⟩ := hp 9 (by decide); have e21 : (ac.tmps[21]?).getD undef = .slice (some ⟨b, o, none⟩) es.length c := (ha 21 (by decide)).trans h21; obtain ⟨w22, h22, r22⟩ := hp 10 (by decide); have e22 : (ac.tmps[22]?).getD undef = .int .i64 k := (ha 22 (by decide)).trans h22; obtain ⟨w19, h19, r19⟩ := hp 7 (by decide); have e19 : (ac.tmps[19]?).getD undef = .bool true := (ha 19 (by decide)).trans h19; clear h21 h22 h19 ha hp
              refine Reg.Op1.guarded rfl rfl e19 (fun _ => Reg.Op1.plain rfl ?_) (fun h => absurd rfl h)
              go_wp2
              exact ⟨rfl, hK _ _ rfl (fun j k _ _ => Reg.Adds.refl _ _ _)⟩
            · intro val ac u hR hp ha K hK
              obtain ⟨w23, h23, r23⟩ := hp 11 (by decide); have e23 : (ac.tmps[23]?).getD undef = .pointer (some ⟨b, o + k * 20, none⟩) := (ha 23 (by decide)).trans h23; obtain ⟨w19, h19, r19⟩ := hp 7 (by decide); have e19 : (ac.tmps[19]?).getD undef = .bool true := (ha 19 (by decide)).trans h19; clear h23 h19 ha hp
              refine Reg.Op1.guarded rfl rfl e19 (fun _ => Reg.Op1.plain rfl ?_) (fun h => absurd rfl h)
              go_wp2
              exact ⟨rfl, hK _ _ rfl (fun j k _ _ => Reg.Adds.refl _ _ _)⟩
            · intro val ac u hR hp ha K hK
              obtain ⟨w24, h24, r24⟩ := hp 12 (by decide); have e24 : (ac.tmps[24]?).getD undef = .pointer (some ⟨b, o + k * 20 + 9, none⟩) := (ha 24 (by decide)).trans h24; obtain ⟨w19, h19, r19⟩ := hp 7 (by decide); have e19 : (ac.tmps[19]?).getD undef = .bool true := (ha 19 (by decide)).trans h19; clear h24 h19 ha hp
              refine Reg.Op1.guarded rfl rfl e19 (fun _ => Reg.Op1.plain rfl ?_) (fun h => absurd rfl h)
              refine Mem.load_aggG _ _ vec_agg b (o + k * 20 + 9) (vcCells e.deps) (by simp [Region.wanted]) (Reg.eval_of e24) (vcCells_length _) (fun q u' hu => (hR.cell (p := ⟨b, o + k * 20 + 9 + q, none⟩) hbw).trans (by have h9 := HAT.out.c (9 + q) u' (Vec.deps_at2 e hu); rw [← Nat.add_assoc] at h9; exact h9)) ?_
              exact ⟨rfl, hK _ _ rfl (fun j k _ _ => Reg.Adds.refl _ _ _)⟩
            · intro val ac u hR hp ha K hK
              obtain ⟨w20, h20, r20⟩ := hp 8 (by decide); have e20 : (ac.tmps[20]?).getD undef = .agg (vcCells cut).toArray := (ha 20 (by decide)).trans h20; obtain ⟨w25, h25, r25⟩ := hp 13 (by decide); have e25 : (ac.tmps[25]?).getD undef = .agg (vcCells e.deps).toArray := (ha 25 (by decide)).trans h25; obtain ⟨w19, h19, r19⟩ := hp 7 (by decide); have e19 : (ac.tmps[19]?).getD undef = .bool true := (ha 19 (by decide)).trans h19; clear h20 h25 h19 ha hp
              refine Reg.Op1.guarded rfl rfl e19 (fun _ => Reg.Op1.plain rfl ?_) (fun h => absurd rfl h)
              go_wp2_with fail
              refine (refCovers_any cut e.deps u).mono ?_
              rintro x w' ⟨rfl, hbw⟩
              rw [HCV.out]
              go_wp2_with fail
              exact ⟨rfl, hK _ _ rfl (fun j k _ _ => hbw)⟩
            · intro val ac u hR hp ha K hK
              obtain ⟨w26, h26, r26⟩ := hp 14 (by decide); have e26 : (ac.tmps[26]?).getD undef = .bool false := (ha 26 (by decide)).trans h26; obtain ⟨w19, h19, r19⟩ := hp 7 (by decide); have e19 : (ac.tmps[19]?).getD undef = .bool true := (ha 19 (by decide)).trans h19; clear h26 h19 ha hp
              refine Reg.Op1.guarded rfl rfl e19 (fun _ => Reg.Op1.plain rfl ?_) (fun h => absurd rfl h)
              go_wp2
              exact ⟨rfl, hK _ _ rfl (fun j k _ _ => Reg.Adds.refl _ _ _)⟩
            · intro val ac u hR hp ha K hK
              obtain ⟨w19, h19, r19⟩ := hp 7 (by decide); have e19 : (ac.tmps[19]?).getD undef = .bool true := (ha 19 (by decide)).trans h19; obtain ⟨w27, h27, r27⟩ := hp 15 (by decide); have e27 : (ac.tmps[27]?).getD undef = .bool true := (ha 27 (by decide)).trans h27; clear h19 h27 ha hp
              refine Reg.Op1.plain rfl ?_
              go_wp2
              exact ⟨rfl, hK _ _ rfl (fun j k _ _ => Reg.Adds.refl _ _ _)⟩
          intro val u hR H
          obtain ⟨wB, hv, rB⟩ := H 16 (by decide)
          have hv : val 16 = .bool true := hv
          have HKu : Hid (Below wr.heap.size wr u) := (Below.refl _ wr).drew.trans hR
          simp only [List.map_cons, List.map_nil, Reg.lay, Act.put, List.setIfInBounds_toArray, List.set_cons_succ, List.set_cons_zero, Nat.reduceAdd, hv]
          clear hR H hv rB
          obtain ⟨wy, hwy⟩ : ∃ z, z = u := ⟨_, rfl⟩
          subst hwy
          have HV2 : Hid (Vec.VBx wy w.heap.size cut) := HV.out.below HKu.out HV.out.lt
          have HB2 : Hid (Below w.heap.size w wy) := HB.out.trans (HKu.out.mono HB.out.size)
          clear HV HB HKu HAT hbw
          go_wp2
          go_ret
          exact ⟨rfl, HB2.out⟩
        · have hts2 : Hid (closedP cut (es.take (k + 1)) = true) := by show _ = _; rw [hts.out, HT.out, hcv, Bool.or_true]; rfl
          have HHD := Lib.hid hhd
          have HCV := Lib.hid hcv
          clear hhd hcv hts
          refine Reg.wp_region_rel (by kernel_rfl) 29 17 rfl rfl (by kernel_rfl) (Reg.Adds) (Reg.Adds.refl) (Reg.Adds.trans)
            (fun i v u => match i with
              | 0 => v = .agg (vcCells cut).toArray
              | 1 => v = .slice (some ⟨b, o, none⟩) es.length c
              | 2 => v = .int .i64 k
              | 3 => v = .pointer (some ⟨b, o + k * 20, none⟩)
              | 4 => v = .pointer (some ⟨b, o + k * 20, none⟩)
              | 5 => v = .agg (dtCells (dotE e)).toArray
              | 6 => v = .bool true
              | 7 => v = .bool true
              | 8 => v = .agg (vcCells cut).toArray
              | 9 => v = .slice (some ⟨b, o, none⟩) es.length c
              | 10 => v = .int .i64 k
              | 11 => v = .pointer (some ⟨b, o + k * 20, none⟩)
              | 12 => v = .pointer (some ⟨b, o + k * 20 + 9, none⟩)
              | 13 => v = .agg (vcCells e.deps).toArray
              | 14 => v = .bool true
              | 15 => v = .bool false
              | 16 => v = .bool false
              | _ => True) ?_ ?_
          · refine Reg.Steps.cons ?_ (Reg.Steps.cons ?_ (Reg.Steps.cons ?_ (Reg.Steps.cons ?_ (Reg.Steps.cons ?_ (Reg.Steps.cons ?_ (Reg.Steps.cons ?_ (Reg.Steps.cons ?_ (Reg.Steps.cons ?_ (Reg.Steps.cons ?_ (Reg.Steps.cons ?_ (Reg.Steps.cons ?_ (Reg.Steps.cons ?_ (Reg.Steps.cons ?_ (Reg.Steps.cons ?_ (Reg.Steps.cons ?_ (Reg.Steps.cons ?_ (Reg.Steps.nil _)))))))))))))))))
            · intro val ac u hR hp ha K hK
              have e2 : (ac.tmps[2]?).getD undef = .pointer (some ⟨w.heap.size, 0, none⟩) := ha 2 (by decide); clear ha hp
              refine Reg.Op1.plain rfl ?_
              have hVu : Vec.VBx u w.heap.size cut := Mem.Bx.below (w := wr.drew) HV.out hR HV.out.lt
              refine Mem.load_agg _ _ vec_agg w.heap.size 0 (vcCells cut) (Reg.eval_of e2) (vcCells_length _) (fun j u' hu => by rw [Nat.zero_add]; exact hVu.cell hu) ?_
              exact ⟨rfl, hK _ _ rfl (fun j k _ _ => Reg.Adds.refl _ _ _)⟩
            · intro val ac u hR hp ha K hK
              have e1 : (ac.tmps[1]?).getD undef = .slice (some ⟨b, o, none⟩) es.length c := ha 1 (by decide); clear ha hp
              refine Reg.Op1.plain rfl ?_
              go_wp2
              exact ⟨rfl, hK _ _ rfl (fun j k _ _ => Reg.Adds.refl _ _ _)⟩
            · intro val ac u hR hp ha K hK
              have e5 : (ac.tmps[5]?).getD undef = .int .i64 k := ha 5 (by decide); clear ha hp
              refine Reg.Op1.plain rfl ?_
              go_wp2
              exact ⟨rfl, hK _ _ rfl (fun j k _ _ => Reg.Adds.refl _ _ _)⟩
            · intro val ac u hR hp ha K hK
              obtain ⟨w13, h13, r13⟩ := hp 1 (by decide); have e13 : (ac.tmps[13]?).getD undef = .slice (some ⟨b, o, none⟩) es.length c := (ha 13 (by decide)).trans h13; obtain ⟨w14, h14, r14⟩ := hp 2 (by decide); have e14 : (ac.tmps[14]?).getD undef = .int .i64 k := (ha 14 (by decide)).trans h14; clear h13 h14 ha hp
              refine Reg.Op1.plain rfl ?_
              go_wp2
              exact ⟨rfl, hK _ _ rfl (fun j k _ _ => Reg.Adds.refl _ _ _)⟩
            · intro val ac u hR hp ha K hK
              obtain ⟨w15, h15, r15⟩ := hp 3 (by decide); have e15 : (ac.tmps[15]?).getD undef = .pointer (some ⟨b, o + k * 20, none⟩) := (ha 15 (by decide)).trans h15; clear h15 ha hp
              refine Reg.Op1.plain rfl ?_
              go_wp2
              exact ⟨rfl, hK _ _ rfl (fun j k _ _ => Reg.Adds.refl _ _ _)⟩
            · intro val ac u hR hp ha K hK
              obtain ⟨w16, h16, r16⟩ := hp 4 (by decide); have e16 : (ac.tmps[16]?).getD undef = .pointer (some ⟨b, o + k * 20, none⟩) := (ha 16 (by decide)).trans h16; clear h16 ha hp
              refine Reg.Op1.plain rfl ?_
              refine Mem.load_agg _ _ dot_agg b (o + k * 20) (dtCells (dotE e)) (Reg.eval_of e16) (dtCells_length _) (fun q u' hu => (hR.cell (p := ⟨b, o + k * 20 + q, none⟩) hbw).trans (HAT.out.c q u' (Vec.dot_at2 e hu))) ?_
              exact ⟨rfl, hK _ _ rfl (fun j k _ _ => Reg.Adds.refl _ _ _)⟩
            · intro val ac u hR hp ha K hK
              obtain ⟨w12, h12, r12⟩ := hp 0 (by decide); have e12 : (ac.tmps[12]?).getD undef = .agg (vcCells cut).toArray := (ha 12 (by decide)).trans h12; obtain ⟨w17, h17, r17⟩ := hp 5 (by decide); have e17 : (ac.tmps[17]?).getD undef = .agg (dtCells (dotE e)).toArray := (ha 17 (by decide)).trans h17; clear h12 h17 ha hp
              refine Reg.Op1.plain rfl ?_
              go_wp2_with fail
              refine (refHas_any cut (dotE e) u).mono ?_
              rintro x w' ⟨rfl, hbw⟩
              rw [HHD.out]
              go_wp2_with fail
              exact ⟨rfl, hK _ _ rfl (fun j k _ _ => hbw)⟩
            · intro val ac u hR hp ha K hK
              obtain ⟨w18, h18, r18⟩ := hp 6 (by decide); have e18 : (ac.tmps[18]?).getD undef = .bool true := (ha 18 (by decide)).trans h18; clear h18 ha hp
              refine Reg.Op1.plain rfl ?_
              go_wp2
              exact ⟨rfl, hK _ _ rfl (fun j k _ _ => Reg.Adds.refl _ _ _)⟩
            · intro val ac u hR hp ha K hK
              have e2 : (ac.tmps[2]?).getD undef = .pointer (some ⟨w.heap.size, 0, none⟩) := ha 2 (by decide); obtain ⟨w19, h19, r19⟩ := hp 7 (by decide); have e19 : (ac.tmps[19]?).getD undef = .bool true := (ha 19 (by decide)).trans h19; clear h19 ha hp
              refine Reg.Op1.guarded rfl rfl e19 (fun _ => Reg.Op1.plain rfl ?_) (fun h => absurd rfl h)
              have hVu : Vec.VBx u w.heap.size cut := Mem.Bx.below (w := wr.drew) HV.out hR HV.out.lt
              refine Mem.load_aggG _ _ vec_agg w.heap.size 0 (vcCells cut) (by simp [Region.wanted]) (Reg.eval_of e2) (vcCells_length _) (fun j u' hu => by rw [Nat.zero_add]; exact hVu.cell hu) ?_
              exact ⟨rfl, hK _ _ rfl (fun j k _ _ => Reg.Adds.refl _ _ _)⟩
            · intro val ac u hR hp ha K hK
              have e1 : (ac.tmps[1]?).getD undef = .slice (some ⟨b, o, none⟩) es.length c := ha 1 (by decide); obtain ⟨w19, h19, r19⟩ := hp 7 (by decide); have e19 : (ac.tmps[19]?).getD undef = .bool true := (ha 19 (by decide)).trans h19; clear h19 ha hp
              refine Reg.Op1.guarded rfl rfl e19 (fun _ => Reg.Op1.plain rfl ?_) (fun h => absurd rfl h)
              go_wp2
              exact ⟨rfl, hK _ _ rfl (fun j k _ _ => Reg.Adds.refl _ _ _)⟩
            · intro val ac u hR hp ha K hK
              have e5 : (ac.tmps[5]?).getD undef = .int .i64 k := ha 5 (by decide); obtain ⟨w19, h19, r19⟩ := hp 7 (by decide); have e19 : (ac.tmps[19]?).getD undef = .bool true := (ha 19 (by decide)).trans h19; clear h19 ha hp
              refine Reg.Op1.guarded rfl rfl e19 (fun _ => Reg.Op1.plain rfl ?_) (fun h => absurd rfl h)
              go_wp2
              exact ⟨rfl, hK _ _ rfl (fun j k _ _ => Reg.Adds.refl _ _ _)⟩
            · intro val ac u hR hp ha K hK
              obtain ⟨w21, h21, r21⟩ := hp 9 (by decide); have e21 : (ac.tmps[21]?).getD undef = .slice (some ⟨b, o, none⟩) es.length c := (ha 21 (by decide)).trans h21; obtain ⟨w22, h22, r22⟩ := hp 10 (by decide); have e22 : (ac.tmps[22]?).getD undef = .int .i64 k := (ha 22 (by decide)).trans h22; obtain ⟨w19, h19, r19⟩ := hp 7 (by decide); have e19 : (ac.tmps[19]?).getD undef = .bool true := (ha 19 (by decide)).trans h19; clear h21 h22 h19 ha hp
              refine Reg.Op1.guarded rfl rfl e19 (fun _ => Reg.Op1.plain rfl ?_) (fun h => absurd rfl h)
              go_wp2
              exact ⟨rfl, hK _ _ rfl (fun j k _ _ => Reg.Adds.refl _ _ _)⟩
            · intro val ac u hR hp ha K hK
              obtain ⟨w23, h23, r23⟩ := hp 11 (by decide); have e23 : (ac.tmps[23]?).getD undef = .pointer (some ⟨b, o + k * 20, none⟩) := (ha 23 (by decide)).trans h23; obtain ⟨w19, h19, r19⟩ := hp 7 (by decide); have e19 : (ac.tmps[19]?).getD undef = .bool true := (ha 19 (by decide)).trans h19; clear h23 h19 ha hp
              refine Reg.Op1.guarded rfl rfl e19 (fun _ => Reg.Op1.plain rfl ?_) (fun h => absurd rfl h)
              go_wp2
              exact ⟨rfl, hK _ _ rfl (fun j k _ _ => Reg.Adds.refl _ _ _)⟩
            · intro val ac u hR hp ha K hK
              obtain ⟨w24, h24, r24⟩ := hp 12 (by decide); have e24 : (ac.tmps[24]?).getD undef = .pointer (some ⟨b, o + k * 20 + 9, none⟩) := (ha 24 (by decide)).trans h24; obtain ⟨w19, h19, r19⟩ := hp 7 (by decide); have e19 : (ac.tmps[19]?).getD undef = .bool true := (ha 19 (by decide)).trans h19; clear h24 h19 ha hp
              refine Reg.Op1.guarded rfl rfl e19 (fun _ => Reg.Op1.plain rfl ?_) (fun h => absurd rfl h)
              refine Mem.load_aggG _ _ vec_agg b (o + k * 20 + 9) (vcCells e.deps) (by simp [Region.wanted]) (Reg.eval_of e24) (vcCells_length _) (fun q u' hu => (hR.cell (p := ⟨b, o + k * 20 + 9 + q, none⟩) hbw).trans (by have h9 := HAT.out.c (9 + q) u' (Vec.deps_at2 e hu); rw [← Nat.add_assoc] at h9; exact h9)) ?_
              exact ⟨rfl, hK _ _ rfl (fun j k _ _ => Reg.Adds.refl _ _ _)⟩
            · intro val ac u hR hp ha K hK
              obtain ⟨w20, h20, r20⟩ := hp 8 (by decide); have e20 : (ac.tmps[20]?).getD undef = .agg (vcCells cut).toArray := (ha 20 (by decide)).trans h20; obtain ⟨w25, h25, r25⟩ := hp 13 (by decide); have e25 : (ac.tmps[25]?).getD undef = .agg (vcCells e.deps).toArray := (ha 25 (by decide)).trans h25; obtain ⟨w19, h19, r19⟩ := hp 7 (by decide); have e19 : (ac.tmps[19]?).getD undef = .bool true := (ha 19 (by decide)).trans h19; clear h20 h25 h19 ha hp
              refine Reg.Op1.guarded rfl rfl e19 (fun _ => Reg.Op1.plain rfl ?_) (fun h => absurd rfl h)
              go_wp2_with fail
              refine (refCovers_any cut e.deps u).mono ?_
              rintro x w' ⟨rfl, hbw⟩
              rw [HCV.out]
              go_wp2_with fail
              exact ⟨rfl, hK _ _ rfl (fun j k _ _ => hbw)⟩
            · intro val ac u hR hp ha K hK
              obtain ⟨w26, h26, r26⟩ := hp 14 (by decide); have e26 : (ac.tmps[26]?).getD undef = .bool true := (ha 26 (by decide)).trans h26; obtain ⟨w19, h19, r19⟩ := hp 7 (by decide); have e19 : (ac.tmps[19]?).getD undef = .bool true := (ha 19 (by decide)).trans h19; clear h26 h19 ha hp
              refine Reg.Op1.guarded rfl rfl e19 (fun _ => Reg.Op1.plain rfl ?_) (fun h => absurd rfl h)
              go_wp2
              exact ⟨rfl, hK _ _ rfl (fun j k _ _ => Reg.Adds.refl _ _ _)⟩
            · intro val ac u hR hp ha K hK
              obtain ⟨w19, h19, r19⟩ := hp 7 (by decide); have e19 : (ac.tmps[19]?).getD undef = .bool true := (ha 19 (by decide)).trans h19; obtain ⟨w27, h27, r27⟩ := hp 15 (by decide); have e27 : (ac.tmps[27]?).getD undef = .bool false := (ha 27 (by decide)).trans h27; clear h19 h27 ha hp
              refine Reg.Op1.plain rfl ?_
              go_wp2
              exact ⟨rfl, hK _ _ rfl (fun j k _ _ => Reg.Adds.refl _ _ _)⟩
          intro val u hR H
          obtain ⟨wB, hv, rB⟩ := H 16 (by decide)
          have hv : val 16 = .bool false := hv
          have HKu : Hid (Below wr.heap.size wr u) := (Below.refl _ wr).drew.trans hR
          simp only [List.map_cons, List.map_nil, Reg.lay, Act.put, List.setIfInBounds_toArray, List.set_cons_succ, List.set_cons_zero, Nat.reduceAdd, hv]
          clear hR H hv rB
          obtain ⟨wy, hwy⟩ : ∃ z, z = u := ⟨_, rfl⟩
          subst hwy
          have HV2 : Hid (Vec.VBx wy w.heap.size cut) := HV.out.below HKu.out HV.out.lt
          have HB2 : Hid (Below w.heap.size w wy) := HB.out.trans (HKu.out.mono HB.out.size)
          clear HV HB HKu HAT hbw
          go_wp2
          go_roundw
          case rel => exact ⟨⟨k + 1, HLT.out, by go_num, hts2, HV2, HB2⟩⟩
          case measure => have := HLT.out; simp [intOf]; omega
    · obtain rfl : k = es.length := by omega
      have d0 : decide ((es.length : Int) < (es.length : Int)) = false := by simp
      obtain rfl : z = true := by have h1 := HT.out; rw [List.take_length] at h1; rw [← HZ.out, h1]
      go_wp2
      go_ret
      exact ⟨rfl, HB.out⟩
end Go.Proofs.Ytelephoalpphkaa
end
section
/- The document's checks of a history: beginning, under, words, fits, lastCut. No conditions but that lists are few. -/
set_option maxRecDepth 8000
namespace Go.Proofs.Ytelephoalpphkaa
open Go.ChangeShapes Go.WideShapes Go.ChangeAt Go.RowKit
set_option linter.unusedVariables false
set_option linter.unusedSimpArgs false
namespace Au
/-- a history and writes in memory below B, as the document finds them -/
structure Dx (w : World) (B : Nat) (A : Option Addr) (h : List Ev) (A2 : Option Addr) (ws : List Vec.Ent) : Prop where
  H : Mem.Rd w B A (h.flatMap evCells)
  W : Mem.Rd w B A2 (ws.flatMap Vec.entCells)
  E : ∀ e ∈ h, EvOk w B e
  le : B ≤ w.heap.size
  n : h.length ≤ 1000000
  wn : ws.length ≤ 1000000
theorem Dx.below {w w' : World} {B : Nat} {A : Option Addr} {h : List Ev} {A2 : Option Addr} {ws : List Vec.Ent} (d : Dx w B A h A2 ws) (hb : Below B w w') : Dx w' B A h A2 ws :=
  ⟨d.H.below hb, d.W.below hb, fun e he => (d.E e he).below hb (Nat.le_refl _), Nat.le_trans d.le hb.size, d.n, d.wn⟩
end Au
open Au in
set_option maxHeartbeats 2000000 in
theorem beginning_any (e : Au.Ev) (w : World) :
    Calls Try.prog 35 #[.agg (Au.evCells e).toArray] w fun x w' => x = .returned (.bool (Au.beg e)) ∧ Below w.heap.size w w' := by
  have HB1 : Hid (Below w.heap.size w (w.alloc (.cells (evCells e).toArray 46))) := Reg.below_new _ _
  have HX1 : Hid (VBx (w.alloc (.cells (evCells e).toArray 46)) w.heap.size e) := Mem.Bx.new w 46 (evCells e).toArray rfl rfl
  obtain ⟨w1, hw1⟩ : ∃ w1, w.alloc (.cells (evCells e).toArray 46) = w1 := ⟨_, rfl⟩
  rw [hw1] at HB1 HX1
  obtain ⟨z, hz⟩ : ∃ z, beg e = z := ⟨_, rfl⟩
  rw [hz]
  have HZ := Lib.hid hz
  clear hz
  unfold evCells at hw1 ⊢
  go_enter Try.func35, Try.ntmps35
  go_upto_region 1 with fail
  try rw [hw1]
  clear hw1
  have y7 : w1.cell? ⟨w.heap.size, 7, none⟩ = some (.bool e.fresh) := HX1.out.cell (j := 7) rfl
  have y8 : w1.cell? ⟨w.heap.size, 8, none⟩ = some (.bool e.fin) := HX1.out.cell (j := 8) rfl
  cases hf : e.fresh
  · rw [hf] at y7
    cases hn : e.fin
    · rw [hn] at y8
      obtain rfl : z = true := by rw [← HZ.out]; unfold beg; rw [hf, hn]; rfl
      go_wp2
      go_ret
      exact ⟨rfl, HB1.out⟩
    · rw [hn] at y8
      obtain rfl : z = false := by rw [← HZ.out]; unfold beg; rw [hf, hn]; rfl
      go_wp2
      go_ret
      exact ⟨rfl, HB1.out⟩
  · rw [hf] at y7
    obtain rfl : z = false := by rw [← HZ.out]; unfold beg; rw [hf]; rfl
    go_wp2
    go_ret
    exact ⟨rfl, HB1.out⟩
namespace Au
structure UnRel (w : World) (h : List Ev) (cl : Int) (a : Nat) (v7 vi : Value) (wr : World) : Prop where
  out : ∃ k : Nat, k ≤ a ∧ v7 = .int .i64 (und h cl k) ∧ vi = .int .i64 k ∧ Hid (Below w.heap.size w wr)
end Au
open Au in
set_option maxHeartbeats 4000000 in
theorem under_any {w : World} {B : Nat} {A : Option Addr} {c : Nat} {h : List Au.Ev} {A2 : Option Addr} {ws : List Vec.Ent} (d : Au.Dx w B A h A2 ws) (a : Nat) (ha : a ≤ h.length) (cl : Int) :
    Calls Try.prog 36 #[.slice A h.length c, .int .i64 a, .int .i64 cl] w fun x w' => x = .returned (.int .i64 (Au.und h cl a)) ∧ Below w.heap.size w w' := by
  have hn6 : a ≤ 1000000 := Nat.le_trans ha d.n
  have HD := Lib.hid d
  clear d
  go_enter Try.func36, Try.ntmps36
  go_wp2
  go_loopw [7, 8] (UnRel w h cl a) (fun _ t _ => a - (intOf t).toNat)
  case atStart => exact ⟨⟨0, by omega, rfl, rfl, Below.refl _ _⟩⟩
  case round =>
    obtain ⟨k, hk, rfl, rfl, HB⟩ := hrel.out
    clear hrel
    by_cases hlt : k < a
    · have HDW := Lib.hid (HD.out.below (HB.out.mono HD.out.le))
      obtain ⟨b, o, e, rfl, hb, he, hat⟩ := ev_elem HDW.out.H (show k < h.length by omega)
      have d0 : decide ((k : Int) < (a : Int)) = true := by simp; omega
      have x0 : wr.cell? ⟨b, o + k * 20, none⟩ = some (.int .i64 e.cl) := hat.c 0 _ rfl
      have hkl : k < h.length := by omega
      have HAT := Lib.hid hat.c
      have HU := Lib.hid (und_succ he cl)
      have HLT := Lib.hid hlt
      clear hat he
      by_cases hc : e.cl = cl
      · have d1 : (e.cl == cl) = true := by simpa using hc
        have d2 : (e.cl != cl) = false := by simp [hc]
        have HBG := Lib.hid (beginning_any e wr)
        cases hbg : beg e
        · have HU2 : Hid (und h cl (k + 1) = -1) := by show _ = _; rw [HU.out, if_pos hc, hbg]; rfl
          rw [hbg] at HBG
          clear HU hc hbg
          go_wp2_with (first
            | ((with_reducible refine Mem.load_agg _ _ event_agg b (o + k * 20) (evCells e) ?hx (evCells_length e) HAT.out ?_); case hx => exact rfl)
            | (go_at_call 35; (refine HBG.out.mono ?_); rintro x w2 ⟨rfl, hb2⟩; have HB2 := Lib.hid (HB.out.trans (hb2.mono HB.out.size)); clear hb2))
          go_roundw
          case rel => exact ⟨⟨k + 1, HLT.out, by rw [HU2.out], by go_num, HB2⟩⟩
          case measure => have := HLT.out; simp [intOf]; omega
        · have HU2 : Hid (und h cl (k + 1) = (k : Int)) := by show _ = _; rw [HU.out, if_pos hc, hbg]; rfl
          rw [hbg] at HBG
          clear HU hc hbg
          go_wp2_with (first
            | ((with_reducible refine Mem.load_agg _ _ event_agg b (o + k * 20) (evCells e) ?hx (evCells_length e) HAT.out ?_); case hx => exact rfl)
            | (go_at_call 35; (refine HBG.out.mono ?_); rintro x w2 ⟨rfl, hb2⟩; have HB2 := Lib.hid (HB.out.trans (hb2.mono HB.out.size)); clear hb2))
          go_roundw
          case rel => exact ⟨⟨k + 1, HLT.out, by rw [HU2.out], by go_num, HB2⟩⟩
          case measure => have := HLT.out; simp [intOf]; omega
      · have d1 : (e.cl == cl) = false := by simpa using hc
        have d2 : (e.cl != cl) = true := by simp [hc]
        have HU2 : Hid (und h cl (k + 1) = und h cl k) := by show _ = _; rw [HU.out, if_neg hc]
        clear HU hc
        go_wp2
        go_roundw
        case rel => exact ⟨⟨k + 1, HLT.out, by rw [HU2.out], by go_num, HB⟩⟩
        case measure => have := HLT.out; simp [intOf]; omega
    · obtain rfl : k = a := by omega
      have d0 : decide ((k : Int) < (k : Int)) = false := by simp
      go_wp2
      go_ret
      exact ⟨rfl, HB.out⟩
namespace Au
structure WoRel (w : World) (a b : List ByteArray) (vi : Value) (wr : World) : Prop where
  out : ∃ k : Nat, k ≤ a.length ∧ vi = .int .i64 k ∧ Hid (a.take k = b.take k) ∧ Hid (∃ n, wr = w.drewN n)
end Au
open Au in
set_option maxHeartbeats 4000000 in
theorem words_q (A : Option Addr) (c : Nat) (l : List ByteArray) (A2 : Option Addr) (c2 : Nat) (m : List ByteArray) (B : Nat) (w : World) (hl : Mem.Rd w B A (l.map Au.sv)) (hm : Mem.Rd w B A2 (m.map Au.sv)) (hB : B ≤ w.heap.size) (hn : l.length ≤ 9223372036854775807) (hn2 : m.length ≤ 9223372036854775807) (q : Nat) :
    Calls Try.prog 37 #[.slice A l.length c, .slice A2 m.length c2] (w.drewN q) fun x w' => x = .returned (.bool (decide (l = m))) ∧ ∃ n, w' = w.drewN n := by
  have HL := Lib.hid hl
  have HM := Lib.hid hm
  have HBB := Lib.hid hB
  clear hl hm hB
  obtain ⟨z, hz⟩ : ∃ z, decide (l = m) = z := ⟨_, rfl⟩
  rw [hz]
  have HZ := Lib.hid hz
  clear hz
  go_enter Try.func37, Try.ntmps37
  by_cases hlen : l.length = m.length
  case neg =>
    have d0 : ((l.length : Int) != (m.length : Int)) = true := by simp; omega
    have d1 : ((l.length : Int) == (m.length : Int)) = false := by simp; omega
    obtain rfl : z = false := by rw [← HZ.out]; exact decide_eq_false (fun h => hlen (by rw [h]))
    clear hlen
    go_wp2
    go_ret
    exact ⟨rfl, q, rfl⟩
  case pos =>
    have d0 : ((l.length : Int) != (m.length : Int)) = false := by simp; omega
    have d1 : ((l.length : Int) == (m.length : Int)) = true := by simp; omega
    have HLN := Lib.hid hlen
    clear hlen
    go_wp2
    go_loopw [5] (WoRel w l m) (fun t _ => l.length - (intOf t).toNat)
    case atStart => exact ⟨⟨0, by omega, rfl, rfl, ⟨q, rfl⟩⟩⟩
    case round =>
      obtain ⟨k, hk, rfl, HT, HB⟩ := hrel.out
      clear hrel d0 d1
      obtain ⟨nn, rfl⟩ := HB.out
      clear HB
      by_cases hlt : k < l.length
      · have hlm : k < m.length := by have := HLN.out; omega
        obtain ⟨b, o, rfl, hb, hc⟩ := HL.out.at (k := k) (by rw [List.length_map]; exact hlt)
        obtain ⟨b2, o2, rfl, hb2, hc2⟩ := HM.out.at (k := k) (by rw [List.length_map]; exact hlm)
        obtain ⟨s, hs⟩ : ∃ s, l[k] = s := ⟨_, rfl⟩
        obtain ⟨t, ht⟩ : ∃ t, m[k] = t := ⟨_, rfl⟩
        rw [List.getElem_map, hs] at hc
        rw [List.getElem_map, ht] at hc2
        have hls : l[k]? = some s := by rw [← hs]; exact List.getElem?_eq_getElem hlt
        have hmt : m[k]? = some t := by rw [← ht]; exact List.getElem?_eq_getElem hlm
        have x0 : w.cell? ⟨b, o + k, none⟩ = some (.string s) := hc
        have x1 : w.cell? ⟨b2, o2 + k, none⟩ = some (.string t) := hc2
        have d2 : decide ((k : Int) < (l.length : Int)) = true := by simp; omega
        have HLS := Lib.hid hls
        have HMT := Lib.hid hmt
        have HLT := Lib.hid hlt
        by_cases hst : s = t
        · have hkd := Vec.str_eq hst
          have HST := Lib.hid hst
          clear hc hc2 hls hmt hs ht hst
          go_wp2
          go_quiet (fail)
          go_wp2
          go_roundw
          case rel => exact ⟨⟨k + 1, HLT.out, by go_num, by show _ = _; rw [Mem.take_snoc HLS.out, Mem.take_snoc HMT.out, HT.out, HST.out], ⟨_, by first | rfl | exact World.drewN_drewN _ _ _⟩⟩⟩
          case measure => have := HLT.out; simp [intOf]; omega
        · have hkd := Vec.str_ne hst
          obtain rfl : z = false := by
            rw [← HZ.out]
            refine decide_eq_false (fun h => hst ?_)
            rw [h, hmt] at hls
            exact (Option.some.inj hls).symm
          clear hc hc2 hls hmt hs ht hst
          go_wp2
          go_quiet (fail)
          go_wp2
          go_ret
          exact ⟨rfl, _, by first | rfl | exact World.drewN_drewN _ _ _⟩
      · obtain rfl : k = l.length := by omega
        have d2 : decide ((l.length : Int) < (l.length : Int)) = false := by simp
        obtain rfl : z = true := by
          rw [← HZ.out]
          have h1 := HT.out
          rw [List.take_length, HLN.out, List.take_length] at h1
          exact decide_eq_true h1
        go_wp2
        go_ret
        exact ⟨rfl, nn, rfl⟩
namespace Au
structure LcRel (w : World) (h : List Ev) (cl : Int) (a : Nat) (vi : Value) (wr : World) : Prop where
  out : ∃ k : Nat, k ≤ a ∧ vi = .int .i64 k ∧ Hid (Vec.VBx wr w.heap.size Vec.vc0) ∧ Hid (Vec.VBx wr (w.heap.size + 1) (lastC h cl k)) ∧ Hid (Below w.heap.size w wr)
theorem evcut_at (e : Ev) {q : Nat} {u : Value} (hu : (Vec.vcCells e.cut)[q]? = some u) : (evCells e)[11 + q]? = some u := by
  have hq : q < 9 := by have := (List.getElem?_eq_some_iff.1 hu).1; rwa [Vec.vcCells_length] at this
  match q, hq, hu with
  | 0, _, hu => exact hu
  | 1, _, hu => exact hu
  | 2, _, hu => exact hu
  | 3, _, hu => exact hu
  | 4, _, hu => exact hu
  | 5, _, hu => exact hu
  | 6, _, hu => exact hu
  | 7, _, hu => exact hu
  | 8, _, hu => exact hu
end Au
open Au in
open Vec (vcCells vcCells_length vc_one vc0) in
set_option maxHeartbeats 4000000 in
theorem lastCut_any {w : World} {B : Nat} {A : Option Addr} {c : Nat} {h : List Au.Ev} {A2 : Option Addr} {ws : List Vec.Ent} (d : Au.Dx w B A h A2 ws) (a : Nat) (ha : a ≤ h.length) (cl : Int) :
    Calls Try.prog 39 #[.slice A h.length c, .int .i64 a, .int .i64 cl] w fun x w' => x = .returned (.agg (Vec.vcCells (Au.lastC h cl a)).toArray) ∧ Below w.heap.size w w' := by
  have hn6 : a ≤ 1000000 := Nat.le_trans ha d.n
  have HD := Lib.hid d
  clear d
  go_enter Try.func39, Try.ntmps39
  go_wp2
  go_loopw [8] (LcRel w h cl a) (fun t _ => a - (intOf t).toNat)
  case atStart =>
    refine ⟨⟨0, by omega, rfl, ?_, ?_, ?_⟩⟩
    · exact (Mem.Bx.new w 33 (vcCells vc0).toArray rfl rfl : Vec.VBx _ _ vc0).below (Reg.below_new _ _) (by simp)
    · exact Mem.Bx.new (w.alloc _) 33 (vcCells vc0).toArray rfl (by simp)
    · exact (Reg.below_new _ _).alloc (by simp) _
  case round =>
    obtain ⟨k, hk, rfl, HZ, HO, HB⟩ := hrel.out
    clear hrel
    by_cases hlt : k < a
    · have HDW := Lib.hid (HD.out.below (HB.out.mono HD.out.le))
      obtain ⟨b, o, e, rfl, hb, he, hat⟩ := ev_elem HDW.out.H (show k < h.length by omega)
      have d0 : decide ((k : Int) < (a : Int)) = true := by simp; omega
      have x0 : wr.cell? ⟨b, o + k * 20, none⟩ = some (.int .i64 e.cl) := hat.c 0 _ rfl
      have x7 : wr.cell? ⟨b, o + k * 20 + 7, none⟩ = some (.bool e.fresh) := hat.c 7 _ rfl
      have x8 : wr.cell? ⟨b, o + k * 20 + 8, none⟩ = some (.bool e.fin) := hat.c 8 _ rfl
      have HCT : Hid (∀ j u, (vcCells e.cut)[j]? = some u → wr.cell? ⟨b, o + k * 20 + 11 + j, none⟩ = some u) := fun j u hu => by have h1 := hat.c (11 + j) u (evcut_at e hu); rw [← Nat.add_assoc] at h1; exact h1
      have hkl : k < h.length := by omega
      have HU := Lib.hid (lastC_succ he cl)
      have HLT := Lib.hid hlt
      obtain ⟨v, hv⟩ : ∃ v, lastC h cl k = v := ⟨_, rfl⟩
      rw [hv] at HO HU
      clear hat he hv
      by_cases hc : e.cl = cl
      · have d1 : (e.cl == cl) = true := by simpa using hc
        have d2 : (e.cl != cl) = false := by simp [hc]
        cases hf : e.fresh
        · rw [hf] at x7
          cases hn : e.fin
          · rw [hn] at x8
            have HU2 : Hid (lastC h cl (k + 1) = v) := by show _ = _; rw [HU.out, if_pos hc, hf, hn, if_neg (by simp), if_neg (by simp)]
            clear HU hc hf hn
            go_wp2
            go_roundw
            case rel => exact ⟨⟨k + 1, HLT.out, by go_num, HZ, by rw [HU2.out]; exact HO, HB⟩⟩
            case measure => have := HLT.out; simp [intOf]; omega
          · rw [hn] at x8
            have HU2 : Hid (lastC h cl (k + 1) = e.cut) := by show _ = _; rw [HU.out, if_pos hc, hf, hn, if_neg (by simp), if_pos rfl]
            clear HU hc hf hn
            go_wp2_with (first
              | ((with_reducible refine Mem.load_agg _ _ vec_agg b (o + k * 20 + 11) (vcCells e.cut) ?hx (vcCells_length _) HCT.out ?_); case hx => exact rfl)
              | ((with_reducible refine Mem.store_agg _ _ vec_agg (w.heap.size + 1) (vcCells v) (vcCells e.cut) ?hxs ?hys HO.out (vcCells_length _) (vc_one _) ?_); (case hxs => exact rfl); (case hys => exact rfl); intro w3 hb3 hk3 hs3))
            go_roundw
            case rel => exact ⟨⟨k + 1, HLT.out, by go_num, HZ.out.keeps hk3 (by omega), by rw [HU2.out]; exact hb3, HB.out.trans (hk3.below (fun q h => by omega) HB.out.size)⟩⟩
            case measure => have := HLT.out; simp [intOf]; omega
        · rw [hf] at x7
          have HU2 : Hid (lastC h cl (k + 1) = vc0) := by show _ = _; rw [HU.out, if_pos hc, hf, if_pos rfl]
          clear HU hc hf
          go_wp2_with (first
            | ((with_reducible refine Mem.store_agg _ _ vec_agg (w.heap.size + 1) (vcCells v) (vcCells vc0) ?hxs ?hys HO.out (vcCells_length _) (vc_one _) ?_); (case hxs => exact rfl); (case hys => exact rfl); intro w3 hb3 hk3 hs3))
          go_roundw
          case rel => exact ⟨⟨k + 1, HLT.out, by go_num, HZ.out.keeps hk3 (by omega), by rw [HU2.out]; exact hb3, HB.out.trans (hk3.below (fun q h => by omega) HB.out.size)⟩⟩
          case measure => have := HLT.out; simp [intOf]; omega
      · have d1 : (e.cl == cl) = false := by simpa using hc
        have d2 : (e.cl != cl) = true := by simp [hc]
        have HU2 : Hid (lastC h cl (k + 1) = v) := by show _ = _; rw [HU.out, if_neg hc]
        clear HU hc
        go_wp2
        go_roundw
        case rel => exact ⟨⟨k + 1, HLT.out, by go_num, HZ, by rw [HU2.out]; exact HO, HB⟩⟩
        case measure => have := HLT.out; simp [intOf]; omega
    · obtain rfl : k = a := by omega
      have d0 : decide ((k : Int) < (k : Int)) = false := by simp
      obtain ⟨m, hm2⟩ : ∃ m, lastC h cl k = m := ⟨_, rfl⟩
      rw [hm2] at HO
      have HM := Lib.hid hm2
      clear hm2
      go_wp2_with (first | ((with_reducible refine Mem.load_agg _ _ vec_agg (w.heap.size + 1) 0 (vcCells m) ?hx (vcCells_length m) (fun j u hu => by rw [Nat.zero_add]; exact HO.out.cell hu) ?_); case hx => exact rfl) | ((with_reducible refine Mem.store_agg _ _ vec_agg w.heap.size (vcCells vc0) (vcCells m) ?hx ?hy HZ.out (vcCells_length m) (vc_one m) ?_); (case hx => exact rfl); (case hy => exact rfl); intro w3 hb3 hk3 hs3))
      refine bodyPost_ret (v := .agg (vcCells m).toArray) ?_ rfl ⟨by rw [HM.out], HB.out.trans (hk3.below (fun k h => by omega) HB.out.size)⟩
      rw [Mem.results_agg Try.results39 vec_agg rfl hb3]
end Go.Proofs.Ytelephoalpphkaa
end
section
/- The document's With, Two, Past. No conditions but that the list is no great one. -/
set_option maxRecDepth 8000
namespace Go.Proofs.Ytelephoalpphkaa
open Go.ChangeShapes Go.WideShapes Go.ChangeAt Go.RowKit
set_option linter.unusedVariables false
set_option linter.unusedSimpArgs false
namespace Vec
theorem vc_setR (v : Vc) (x : Int) {d r : Nat} (hd : d < 3) (hr : r < 3) : (vcCells v).set (d * 3 + r) (.int .i64 x) = vcCells (v.put d r x) := by
  match d, r, hd, hr with
  | 0, 0, _, _ => rfl
  | 0, 1, _, _ => rfl
  | 0, 2, _, _ => rfl
  | 1, 0, _, _ => rfl
  | 1, 1, _, _ => rfl
  | 1, 2, _, _ => rfl
  | 2, 0, _, _ => rfl
  | 2, 1, _, _ => rfl
  | 2, 2, _, _ => rfl
theorem merge_getR (a b : Vc) (d r : Nat) : (mergeL [a, b]).get d r = max (max 0 (a.get d r)) (b.get d r) := by
  match d, r with
  | 0, 0 => rfl
  | 0, 1 => rfl
  | 0, n + 2 => rfl
  | 1, 0 => rfl
  | 1, 1 => rfl
  | 1, n + 2 => rfl
  | m + 2, 0 => rfl
  | m + 2, 1 => rfl
  | m + 2, n + 2 => rfl
def twN (x y : Vc) (n i : Nat) : Int := if i < n then max 0 (max (x.get (i / 3) (i % 3)) (y.get (i / 3) (i % 3))) else 0
/-- the first n numbers are the greater ones -/
def twoTo (x y : Vc) (n : Nat) : Vc := ⟨⟨twN x y n 0, twN x y n 1, twN x y n 2⟩, ⟨twN x y n 3, twN x y n 4, twN x y n 5⟩, ⟨twN x y n 6, twN x y n 7, twN x y n 8⟩⟩
theorem vc_eta (m : Vc) : m = ⟨⟨m.get 0 0, m.get 0 1, m.get 0 2⟩, ⟨m.get 1 0, m.get 1 1, m.get 1 2⟩, ⟨m.get 2 0, m.get 2 1, m.get 2 2⟩⟩ := rfl
theorem two_merge (x y : Vc) : twoTo x y 9 = mergeL [x, y] := by
  refine Eq.symm ((vc_eta _).trans ?_)
  simp only [merge_getR, Int.max_assoc]
  rfl
theorem two_zero (x y : Vc) : twoTo x y 0 = vc0 := rfl
theorem two_succ (x y : Vc) {d r : Nat} (hd : d < 3) (hr : r < 3) : twoTo x y (d * 3 + r + 1) = (twoTo x y (d * 3 + r)).put d r (max 0 (max (x.get d r) (y.get d r))) := by
  match d, r, hd, hr with
  | 0, 0, _, _ => rfl
  | 0, 1, _, _ => rfl
  | 0, 2, _, _ => rfl
  | 1, 0, _, _ => rfl
  | 1, 1, _, _ => rfl
  | 1, 2, _, _ => rfl
  | 2, 0, _, _ => rfl
  | 2, 1, _, _ => rfl
  | 2, 2, _, _ => rfl
structure TwAt (w : World) (x y v : Vc) (wr : World) : Prop where
  X : VBx wr w.heap.size x
  Y : VBx wr (w.heap.size + 1) y
  Z : VBx wr (w.heap.size + 2) vc0
  V : VBx wr (w.heap.size + 3) v
  b : Below w.heap.size w wr
structure T1Rel (w : World) (x y : Vc) (vi : Value) (wr : World) : Prop where
  out : ∃ d : Nat, d ≤ 3 ∧ vi = .int .i64 d ∧ Hid (TwAt w x y (twoTo x y (d * 3)) wr)
structure T2Rel (w : World) (x y : Vc) (d : Nat) (vi : Value) (wr : World) : Prop where
  out : ∃ r : Nat, r ≤ 3 ∧ vi = .int .i64 r ∧ Hid (TwAt w x y (twoTo x y (d * 3 + r)) wr)
end Vec
theorem run_max3 (ts : Array TypeId) (t : TypeId) (W : World) (x y z : Int) : (Builtin.max_ ts t #[.int .i64 x, .int .i64 y, .int .i64 z]).run Try.prog W = .ok (.int .i64 (max x (max y z))) W := by
  rw [run_max_int3]
  congr 2
  have h1 : (if y > x then y else x) = max x y := by omega
  rw [h1]
  omega
open Vec in
set_option maxHeartbeats 8000000 in
theorem refTwo_any (x y : Vec.Vc) (w : World) :
    Calls Try.prog 71 #[.agg (Vec.vcCells x).toArray, .agg (Vec.vcCells y).toArray] w fun e w' => e = .returned (.agg (Vec.vcCells (Vec.mergeL [x, y])).toArray) ∧ Below w.heap.size w w' := by
  rw [← two_merge]
  go_enter Try.func71, Try.ntmps71
  go_wp2
  go_loopw [6] (T1Rel w x y) (fun t _ => 3 - (intOf t).toNat)
  case atStart =>
    refine ⟨⟨0, by omega, rfl, ?_, ?_, ?_, ?_, ?_⟩⟩
    · exact (((Mem.Bx.new w 33 (vcCells x).toArray rfl rfl : Vec.VBx _ _ x).below (Reg.below_new _ _) (by simp)).below (Reg.below_new _ _) (by simp; omega)).below (Reg.below_new _ _) (by simp; omega)
    · exact ((Mem.Bx.new (w.alloc _) 33 (vcCells y).toArray rfl (by simp) : Vec.VBx _ _ y).below (Reg.below_new _ _) (by simp)).below (Reg.below_new _ _) (by simp)
    · exact (Mem.Bx.new ((w.alloc _).alloc _) 33 (vcCells vc0).toArray rfl (by simp) : Vec.VBx _ _ vc0).below (Reg.below_new _ _) (by simp)
    · exact Mem.Bx.new (((w.alloc _).alloc _).alloc _) 33 (vcCells vc0).toArray rfl (by simp)
    · exact (((Reg.below_new _ _).alloc (by simp) _).alloc (by simp; omega) _).alloc (by simp; omega) _
  case round =>
    obtain ⟨d, hd, rfl, HA⟩ := hrel.out
    clear hrel
    by_cases hlt : d < 3
    · have d0 : decide ((d : Int) < 3) = true := by simp; omega
      obtain ⟨w3, hw3⟩ : ∃ w3, w3 = wr := ⟨_, rfl⟩
      subst hw3
      go_wp2
      go_loopw [7] (T2Rel w x y d) (fun t _ => 3 - (intOf t).toNat)
      case atStart => exact ⟨⟨0, by omega, rfl, HA⟩⟩
      case round =>
        clear HA
        obtain ⟨r, hr, rfl, HA⟩ := hrel.out
        clear hrel
        by_cases hlr : r < 3
        · have d1 : decide ((r : Int) < 3) = true := by simp; omega
          obtain ⟨vv, hv⟩ : ∃ v, twoTo x y (d * 3 + r) = v := ⟨_, rfl⟩
          have HTS := Lib.hid (two_succ x y hlt hlr)
          rw [hv] at HA HTS
          obtain ⟨xv, hxv⟩ : ∃ z, x.get d r = z := ⟨_, rfl⟩
          obtain ⟨yv, hyv⟩ : ∃ z, y.get d r = z := ⟨_, rfl⟩
          rw [hxv, hyv] at HTS
          have x0 : wr.cell? ⟨w.heap.size, d * 3 + r, none⟩ = some (.int .i64 xv) := by rw [← hxv]; exact HA.out.X.cell (vc_cellR x hlt hlr)
          have x1 : wr.cell? ⟨w.heap.size + 1, d * 3 + r, none⟩ = some (.int .i64 yv) := by rw [← hyv]; exact HA.out.Y.cell (vc_cellR y hlt hlr)
          have x2 : wr.cell? ⟨w.heap.size + 3, d * 3 + r, none⟩ = some (.int .i64 (vv.get d r)) := HA.out.V.cell (vc_cellR vv hlt hlr)
          have f1 := HA.out.V.fr (d * 3 + r)
          have HST := Lib.hid (fun z => vc_setR vv z hlt hlr)
          have HLD := Lib.hid hlt
          have HLR := Lib.hid hlr
          clear hv hxv hyv
          have hX := HA.out.X.lt
          have hY := HA.out.Y.lt
          go_upto_region 8 with fail
          refine Reg.wp_region_w (by kernel_rfl) 32 16 rfl rfl (by kernel_rfl) (15) (fun y => y = w.heap.size + 3) (0) (fun _ => False) (0) (fun _ => False)
            (fun i v u => match i with
              | 0 => v = .int .i64 d
              | 1 => v = .int .i64 r
              | 2 => v = .int .i64 d
              | 3 => v = .int .i64 r
              | 4 => v = .pointer (some ⟨w.heap.size, d * 3, none⟩)
              | 5 => v = .pointer (some ⟨w.heap.size, d * 3 + r, none⟩)
              | 6 => v = .int .i64 xv
              | 7 => v = .int .i64 d
              | 8 => v = .int .i64 r
              | 9 => v = .pointer (some ⟨w.heap.size + 1, d * 3, none⟩)
              | 10 => v = .pointer (some ⟨w.heap.size + 1, d * 3 + r, none⟩)
              | 11 => v = .int .i64 yv
              | 12 => v = .int .i64 (max 0 (max xv yv))
              | 13 => v = .pointer (some ⟨w.heap.size + 3, d * 3, none⟩)
              | 14 => v = .pointer (some ⟨w.heap.size + 3, d * 3 + r, none⟩)
              | 15 => VBx u (w.heap.size + 3) (vv.put d r (max 0 (max xv yv)))
              | _ => True) ?_ ?_
          · refine Reg.Steps.cons ?_ (Reg.Steps.cons ?_ (Reg.Steps.cons ?_ (Reg.Steps.cons ?_ (Reg.Steps.cons ?_ (Reg.Steps.cons ?_ (Reg.Steps.cons ?_ (Reg.Steps.cons ?_ (Reg.Steps.cons ?_ (Reg.Steps.cons ?_ (Reg.Steps.cons ?_ (Reg.Steps.cons ?_ (Reg.Steps.cons ?_ (Reg.Steps.cons ?_ (Reg.Steps.cons ?_ (Reg.Steps.cons ?_ (Reg.Steps.nil _))))))))))))))))
            · intro val ac u hR hp ha K hK
              have e6 : (ac.tmps[6]?).getD undef = .int .i64 d := ha 6 (by decide); clear ha hp
              refine Reg.Op1.plain rfl ?_
              go_wp2
              exact ⟨rfl, hK _ _ rfl (Reg.Wr.same _)⟩
            · intro val ac u hR hp ha K hK
              have e7 : (ac.tmps[7]?).getD undef = .int .i64 r := ha 7 (by decide); clear ha hp
              refine Reg.Op1.plain rfl ?_
              go_wp2
              exact ⟨rfl, hK _ _ rfl (Reg.Wr.same _)⟩
            · intro val ac u hR hp ha K hK
              have e6 : (ac.tmps[6]?).getD undef = .int .i64 d := ha 6 (by decide); clear ha hp
              refine Reg.Op1.plain rfl ?_
              go_wp2
              exact ⟨rfl, hK _ _ rfl (Reg.Wr.same _)⟩
            · intro val ac u hR hp ha K hK
              have e7 : (ac.tmps[7]?).getD undef = .int .i64 r := ha 7 (by decide); clear ha hp
              refine Reg.Op1.plain rfl ?_
              go_wp2
              exact ⟨rfl, hK _ _ rfl (Reg.Wr.same _)⟩
            · intro val ac u hR hp ha K hK
              have e2 : (ac.tmps[2]?).getD undef = .pointer (some ⟨w.heap.size, 0, none⟩) := ha 2 (by decide); obtain ⟨w18, h18, r18⟩ := hp 2 (by decide); have e18 : (ac.tmps[18]?).getD undef = .int .i64 d := (ha 18 (by decide)).trans h18; clear h18 ha hp
              refine Reg.Op1.plain rfl ?_
              go_wp2
              exact ⟨rfl, hK _ _ rfl (Reg.Wr.same _)⟩
            · intro val ac u hR hp ha K hK
              obtain ⟨w20, h20, r20⟩ := hp 4 (by decide); have e20 : (ac.tmps[20]?).getD undef = .pointer (some ⟨w.heap.size, d * 3, none⟩) := (ha 20 (by decide)).trans h20; obtain ⟨w19, h19, r19⟩ := hp 3 (by decide); have e19 : (ac.tmps[19]?).getD undef = .int .i64 r := (ha 19 (by decide)).trans h19; clear h20 h19 ha hp
              refine Reg.Op1.plain rfl ?_
              go_wp2
              exact ⟨rfl, hK _ _ rfl (Reg.Wr.same _)⟩
            · intro val ac u hR hp ha K hK
              obtain ⟨w21, h21, r21⟩ := hp 5 (by decide); have e21 : (ac.tmps[21]?).getD undef = .pointer (some ⟨w.heap.size, d * 3 + r, none⟩) := (ha 21 (by decide)).trans h21; clear h21 ha hp
              refine Reg.Op1.plain rfl ?_
              have hk0 := (Mem.Keeps.refl (fun y => y = w.heap.size + 3 ∨ False ∨ False) wr).drew.trans (Reg.Wr.all hR) (fun _ h _ => h)
              have z0 := (hk0.cell (p := ⟨w.heap.size, d * 3 + r, none⟩) hX (fun h => by rcases h with h | h | h; exact absurd (show w.heap.size = w.heap.size + 3 from h) (by omega); exact h; exact h)).trans x0
              go_wp2
              exact ⟨rfl, hK _ _ rfl (Reg.Wr.same _)⟩
            · intro val ac u hR hp ha K hK
              have e6 : (ac.tmps[6]?).getD undef = .int .i64 d := ha 6 (by decide); clear ha hp
              refine Reg.Op1.plain rfl ?_
              go_wp2
              exact ⟨rfl, hK _ _ rfl (Reg.Wr.same _)⟩
            · intro val ac u hR hp ha K hK
              have e7 : (ac.tmps[7]?).getD undef = .int .i64 r := ha 7 (by decide); clear ha hp
              refine Reg.Op1.plain rfl ?_
              go_wp2
              exact ⟨rfl, hK _ _ rfl (Reg.Wr.same _)⟩
            · intro val ac u hR hp ha K hK
              have e3 : (ac.tmps[3]?).getD undef = .pointer (some ⟨w.heap.size + 1, 0, none⟩) := ha 3 (by decide); obtain ⟨w23, h23, r23⟩ := hp 7 (by decide); have e23 : (ac.tmps[23]?).getD undef = .int .i64 d := (ha 23 (by decide)).trans h23; clear h23 ha hp
              refine Reg.Op1.plain rfl ?_
              go_wp2
              exact ⟨rfl, hK _ _ rfl (Reg.Wr.same _)⟩
            · intro val ac u hR hp ha K hK
              obtain ⟨w25, h25, r25⟩ := hp 9 (by decide); have e25 : (ac.tmps[25]?).getD undef = .pointer (some ⟨w.heap.size + 1, d * 3, none⟩) := (ha 25 (by decide)).trans h25; obtain ⟨w24, h24, r24⟩ := hp 8 (by decide); have e24 : (ac.tmps[24]?).getD undef = .int .i64 r := (ha 24 (by decide)).trans h24; clear h25 h24 ha hp
              refine Reg.Op1.plain rfl ?_
              go_wp2
              exact ⟨rfl, hK _ _ rfl (Reg.Wr.same _)⟩
            · intro val ac u hR hp ha K hK
              obtain ⟨w26, h26, r26⟩ := hp 10 (by decide); have e26 : (ac.tmps[26]?).getD undef = .pointer (some ⟨w.heap.size + 1, d * 3 + r, none⟩) := (ha 26 (by decide)).trans h26; clear h26 ha hp
              refine Reg.Op1.plain rfl ?_
              have hk0 := (Mem.Keeps.refl (fun y => y = w.heap.size + 3 ∨ False ∨ False) wr).drew.trans (Reg.Wr.all hR) (fun _ h _ => h)
              have z0 := (hk0.cell (p := ⟨w.heap.size + 1, d * 3 + r, none⟩) hY (fun h => by rcases h with h | h | h; exact absurd (show w.heap.size + 1 = w.heap.size + 3 from h) (by omega); exact h; exact h)).trans x1
              go_wp2
              exact ⟨rfl, hK _ _ rfl (Reg.Wr.same _)⟩
            · intro val ac u hR hp ha K hK
              obtain ⟨w22, h22, r22⟩ := hp 6 (by decide); have e22 : (ac.tmps[22]?).getD undef = .int .i64 xv := (ha 22 (by decide)).trans h22; obtain ⟨w27, h27, r27⟩ := hp 11 (by decide); have e27 : (ac.tmps[27]?).getD undef = .int .i64 yv := (ha 27 (by decide)).trans h27; clear h22 h27 ha hp
              have hmx : ∀ ts t W, (Builtin.max_ ts t #[.int .i64 0, .int .i64 xv, .int .i64 yv]).run Try.prog W = .ok (.int .i64 (max 0 (max xv yv))) W := fun ts t W => run_max3 ts t W _ _ _
              refine Reg.Op1.plain rfl ?_
              go_wp2
              exact ⟨rfl, hK _ _ rfl (Reg.Wr.same _)⟩
            · intro val ac u hR hp ha K hK
              have e5 : (ac.tmps[5]?).getD undef = .pointer (some ⟨w.heap.size + 3, 0, none⟩) := ha 5 (by decide); obtain ⟨w16, h16, r16⟩ := hp 0 (by decide); have e16 : (ac.tmps[16]?).getD undef = .int .i64 d := (ha 16 (by decide)).trans h16; clear h16 ha hp
              refine Reg.Op1.plain rfl ?_
              go_wp2
              exact ⟨rfl, hK _ _ rfl (Reg.Wr.same _)⟩
            · intro val ac u hR hp ha K hK
              obtain ⟨w29, h29, r29⟩ := hp 13 (by decide); have e29 : (ac.tmps[29]?).getD undef = .pointer (some ⟨w.heap.size + 3, d * 3, none⟩) := (ha 29 (by decide)).trans h29; obtain ⟨w17, h17, r17⟩ := hp 1 (by decide); have e17 : (ac.tmps[17]?).getD undef = .int .i64 r := (ha 17 (by decide)).trans h17; clear h29 h17 ha hp
              refine Reg.Op1.plain rfl ?_
              go_wp2
              exact ⟨rfl, hK _ _ rfl (Reg.Wr.same _)⟩
            · intro val ac u hR hp ha K hK
              obtain ⟨w30, h30, r30⟩ := hp 14 (by decide); have e30 : (ac.tmps[30]?).getD undef = .pointer (some ⟨w.heap.size + 3, d * 3 + r, none⟩) := (ha 30 (by decide)).trans h30; obtain ⟨w28, h28, r28⟩ := hp 12 (by decide); have e28 : (ac.tmps[28]?).getD undef = .int .i64 (max 0 (max xv yv)) := (ha 28 (by decide)).trans h28; clear h30 h28 ha hp
              refine Reg.Op1.plain rfl ?_
              have hk0 := (Mem.Keeps.refl (fun _ => False ∨ False) wr).drew.trans (Reg.Wr.not1 hR (by decide +kernel)) (fun _ h _ => h)
              have hVu : VBx u (w.heap.size + 3) vv := HA.out.V.keeps hk0 (fun h => h.elim id id)
              have z0 := hVu.cell (vc_cellR vv hlt hlr)
              have f0 := hVu.fr (d * 3 + r)
              have h3 : VBx (u.setCell ⟨w.heap.size + 3, d * 3 + r, none⟩ (.int .i64 (max 0 (max xv yv)))) (w.heap.size + 3) (vv.put d r (max 0 (max xv yv))) := by
                have h4 := Mem.Bx.set hVu (d * 3 + r) (.int .i64 (max 0 (max xv yv)))
                rw [HST.out] at h4
                exact h4
              have hk3 := (Mem.Keeps.refl (fun y => y = w.heap.size + 3) u).setCell (p := ⟨w.heap.size + 3, d * 3 + r, none⟩) (fun _ => rfl) (.int .i64 (max 0 (max xv yv)))
              have H3 := Lib.hid h3
              have HK3 := Lib.hid hk3
              clear hVu h3 hk3 hk0
              go_wp2
              exact ⟨rfl, hK undef _ H3.out (Reg.Wr.does1 HK3.out)⟩
          · intro val u hR H
            obtain ⟨wA, hb, rA⟩ := H 15 (by decide)
            have hbu : VBx u (w.heap.size + 3) (vv.put d r (max 0 (max xv yv))) := Mem.Bx.keeps hb (Reg.Wr.not1 rA (by decide +kernel)) (fun h => h.elim id id)
            have hk0 := (Mem.Keeps.refl (fun y => y = w.heap.size + 3 ∨ False ∨ False) wr).drew.trans (Reg.Wr.all hR) (fun _ h _ => h)
            have HN : Hid (TwAt w x y (twoTo x y (d * 3 + (r + 1))) u) := by
              refine ⟨HA.out.X.keeps hk0 (fun h => by rcases h with h | h | h <;> first | omega | exact h), HA.out.Y.keeps hk0 (fun h => by rcases h with h | h | h <;> first | omega | exact h), HA.out.Z.keeps hk0 (fun h => by rcases h with h | h | h <;> first | omega | exact h), ?_, HA.out.b.trans (hk0.below (fun q h => by rcases h with h | h | h <;> first | omega | exact h.elim) HA.out.b.size)⟩
              rw [← Nat.add_assoc, HTS.out]
              exact hbu
            simp only [List.map_cons, List.map_nil, Reg.lay, Act.put, List.setIfInBounds_toArray, List.set_cons_succ, List.set_cons_zero, Nat.reduceAdd]
            clear hR H hb rA hbu hk0
            go_wp2
            go_roundw
            case rel => exact ⟨⟨r + 1, HLR.out, by go_num, HN⟩⟩
            case measure => have := HLR.out; simp [intOf]; omega
        · obtain rfl : r = 3 := by omega
          have d1 : decide ((3 : Int) < 3) = false := by decide
          go_wp2
          go_roundw
          case rel => exact ⟨⟨d + 1, by omega, by go_num, Lib.hid (by rw [show (d + 1) * 3 = d * 3 + 3 by omega]; exact HA.out)⟩⟩
          case measure => simp [intOf]; omega
    · obtain rfl : d = 3 := by omega
      have d0 : decide ((3 : Int) < 3) = false := by decide
      obtain ⟨m, hm2⟩ : ∃ m, twoTo x y 9 = m := ⟨_, rfl⟩
      have HV : Hid (VBx wr (w.heap.size + 3) m) := by show VBx _ _ _; rw [← hm2]; exact HA.out.V
      have HM := Lib.hid hm2
      clear hm2
      go_wp2_with (first | ((with_reducible refine Mem.load_agg _ _ vec_agg (w.heap.size + 3) 0 (vcCells m) ?hx (vcCells_length m) (fun j u hu => by rw [Nat.zero_add]; exact HV.out.cell hu) ?_); case hx => exact rfl) | ((with_reducible refine Mem.store_agg _ _ vec_agg (w.heap.size + 2) (vcCells vc0) (vcCells m) ?hx ?hy HA.out.Z (vcCells_length m) (vc_one m) ?_); (case hx => exact rfl); (case hy => exact rfl); intro w3 hb3 hk3 hs3))
      refine bodyPost_ret (v := .agg (vcCells m).toArray) ?_ rfl ⟨by rw [HM.out], HA.out.b.trans (hk3.below (fun k h => by omega) HA.out.b.size)⟩
      rw [Mem.results_agg Try.results71 vec_agg rfl hb3]
namespace Vec
structure WiAt (w : World) (v v0 : Vc) (dd : Dt) (wr : World) : Prop where
  V : VBx wr w.heap.size v
  D : Mem.Bx wr 28 3 (w.heap.size + 1) (dtCells dd)
  Z : VBx wr (w.heap.size + 1 + 1) vc0
  b : Below w.heap.size w wr
theorem WiAt.below {w : World} {v v0 : Vc} {dd : Dt} {wr w' : World} (h : WiAt w v v0 dd wr) (hb : Below wr.heap.size wr w') : WiAt w v v0 dd w' :=
  ⟨h.V.below hb h.V.lt, h.D.below hb h.D.lt, h.Z.below hb h.Z.lt, h.b.trans (hb.mono h.b.size)⟩
end Vec
open Vec in
set_option maxHeartbeats 8000000 in
theorem refWith_any (v : Vec.Vc) (dd : Vec.Dt) (w : World) :
    Calls Try.prog 70 #[.agg (Vec.vcCells v).toArray, .agg (Vec.dtCells dd).toArray] w fun e w' => e = .returned (.agg (Vec.vcCells (Vec.withD v dd)).toArray) ∧ Below w.heap.size w w' := by
  obtain ⟨dc, rng, q⟩ := dd
  obtain ⟨m, hm⟩ : ∃ m, withD v ⟨dc, rng, q⟩ = m := ⟨_, rfl⟩
  rw [hm]
  have HM := Lib.hid hm
  clear hm
  go_enter Try.func70, Try.ntmps70
  go_upto_region 1 with fail
  have hz1 : (w.alloc (.cells (vcCells v).toArray 33)).heap.size = w.heap.size + 1 := Array.size_push _
  have hz2 : ((w.alloc (.cells (vcCells v).toArray 33)).alloc (.cells (dtCells ⟨dc, rng, q⟩).toArray 28)).heap.size = w.heap.size + 1 + 1 := (Array.size_push _).trans (congrArg (· + 1) hz1)
  obtain ⟨w2, hw2⟩ : ∃ z, (((w.alloc (.cells (vcCells v).toArray 33)).alloc (.cells (dtCells ⟨dc, rng, q⟩).toArray 28)).alloc (.cells #[.int .i64 0, .int .i64 0, .int .i64 0, .int .i64 0, .int .i64 0, .int .i64 0, .int .i64 0, .int .i64 0, .int .i64 0] 33)) = z := ⟨_, rfl⟩
  have H2 : Hid (WiAt w v v ⟨dc, rng, q⟩ w2) := by
    show WiAt _ _ _ _ _
    rw [← hw2]
    exact ⟨((Mem.Bx.new w 33 (vcCells v).toArray rfl rfl : Vec.VBx _ _ v).below (Reg.below_new _ _) (by omega)).below (Reg.below_new _ _) (by omega), (Mem.Bx.new (w.alloc (.cells (vcCells v).toArray 33)) 28 (dtCells ⟨dc, rng, q⟩).toArray rfl hz1 : Mem.Bx _ _ _ _ _).below (Reg.below_new _ _) (by omega), Mem.Bx.new ((w.alloc (.cells (vcCells v).toArray 33)).alloc (.cells (dtCells ⟨dc, rng, q⟩).toArray 28)) 33 (vcCells vc0).toArray rfl hz2, ((Reg.below_new _ _).alloc (by omega) _).alloc (by omega) _⟩
  rw [hw2]
  clear hz1 hz2 hw2
  have HLD : Hid (∀ j u, (dtCells ⟨dc, rng, q⟩)[j]? = some u → w2.cell? ⟨w.heap.size + 1, 0 + j, none⟩ = some u) := fun j u hu => by rw [Nat.zero_add]; exact H2.out.D.cell hu
  have HCH := Lib.hid (refChain_any ⟨dc, rng, q⟩ w2)
  cases hch : Vec.chain dc rng
  · obtain rfl : v = m := by rw [← HM.out]; unfold withD; rw [hch]; rfl
    rw [hch] at HCH
    clear hch
    go_upto_region 3 with (first
      | ((with_reducible refine Mem.load_agg _ _ dot_agg (w.heap.size + 1) 0 (dtCells ⟨dc, rng, q⟩) ?hx (dtCells_length _) HLD.out ?_); case hx => exact rfl)
      | (go_at_call 42; (refine HCH.out.mono ?_); rintro x w3 ⟨rfl, hb3⟩; have HA9 := Lib.hid (H2.out.below hb3); clear hb3))
    obtain ⟨m, hm⟩ : ∃ z, z = v := ⟨_, rfl⟩
    subst hm
    go_wp2_with (first | ((with_reducible refine Mem.load_agg _ _ vec_agg w.heap.size 0 (vcCells m) ?hx (vcCells_length m) (fun j u hu => by rw [Nat.zero_add]; exact HA9.out.V.cell hu) ?_); case hx => exact rfl) | ((with_reducible refine Mem.store_agg _ _ vec_agg (w.heap.size + 2) (vcCells vc0) (vcCells m) ?hx ?hy HA9.out.Z (vcCells_length m) (vc_one m) ?_); (case hx => exact rfl); (case hy => exact rfl); intro w3 hb3 hk3 hs3))
    refine bodyPost_ret (v := .agg (vcCells m).toArray) ?_ rfl ⟨rfl, HA9.out.b.trans (hk3.below (fun k h => by omega) HA9.out.b.size)⟩
    rw [Mem.results_agg Try.results70 vec_agg rfl hb3]
  · rw [hch] at HCH
    obtain ⟨hd3, hd4, hr0, hr3⟩ := chain_nat hch
    obtain ⟨d, rfl⟩ : ∃ d : Nat, dc = (d : Int) := ⟨dc.toNat, by omega⟩
    obtain ⟨r, rfl⟩ : ∃ r : Nat, rng = (r : Int) := ⟨rng.toNat, by omega⟩
    have hlt : d < 3 := by omega
    have hlr : r < 3 := by omega
    obtain ⟨cv, hcv⟩ : ∃ z, v.get d r = z := ⟨_, rfl⟩
    have HMM : Hid (v.put d r (max cv q) = m) := by
      show _ = _
      rw [← HM.out, ← hcv]
      unfold withD
      rw [if_pos hch]
      rfl
    have HST := Lib.hid (fun z => vc_setR v z hlt hlr)
    have HCV : Hid ((vcCells v)[d * 3 + r]? = some (.int .i64 cv)) := by show _ = _; rw [← hcv]; exact vc_cellR v hlt hlr
    clear hd3 hd4 hr0 hr3 hch hcv HM
    go_upto_region 2 with (first
      | ((with_reducible refine Mem.load_agg _ _ dot_agg (w.heap.size + 1) 0 (dtCells ⟨d, r, q⟩) ?hx (dtCells_length _) HLD.out ?_); case hx => exact rfl)
      | (go_at_call 42; (refine HCH.out.mono ?_); rintro x w3 ⟨rfl, hb3⟩; have HA3 := Lib.hid (H2.out.below hb3); clear hb3))
    clear H2 HLD HCH
    have hD := HA3.out.D.lt
    have hV := HA3.out.V.lt
    have x0 : w3.cell? ⟨w.heap.size + 1, 0, none⟩ = some (.int .i64 d) := HA3.out.D.cell (j := 0) rfl
    have x1 : w3.cell? ⟨w.heap.size + 1, 1, none⟩ = some (.int .i64 r) := HA3.out.D.cell (j := 1) rfl
    have x2 : w3.cell? ⟨w.heap.size + 1, 2, none⟩ = some (.int .i64 q) := HA3.out.D.cell (j := 2) rfl
    have x3 : w3.cell? ⟨w.heap.size, d * 3 + r, none⟩ = some (.int .i64 cv) := HA3.out.V.cell HCV.out
    refine Reg.wp_region_w (by kernel_rfl) 24 17 rfl rfl (by kernel_rfl) (16) (fun y => y = w.heap.size) (0) (fun _ => False) (0) (fun _ => False)
      (fun i v u => match i with
        | 0 => v = .pointer (some ⟨w.heap.size + 1, 0, none⟩)
        | 1 => v = .int .i64 d
        | 2 => v = .pointer (some ⟨w.heap.size + 1, 1, none⟩)
        | 3 => v = .int .i64 r
        | 4 => v = .pointer (some ⟨w.heap.size + 1, 0, none⟩)
        | 5 => v = .int .i64 d
        | 6 => v = .pointer (some ⟨w.heap.size + 1, 1, none⟩)
        | 7 => v = .int .i64 r
        | 8 => v = .pointer (some ⟨w.heap.size, d * 3, none⟩)
        | 9 => v = .pointer (some ⟨w.heap.size, d * 3 + r, none⟩)
        | 10 => v = .int .i64 cv
        | 11 => v = .pointer (some ⟨w.heap.size + 1, 2, none⟩)
        | 12 => v = .int .i64 q
        | 13 => v = .int .i64 (max cv q)
        | 14 => v = .pointer (some ⟨w.heap.size, d * 3, none⟩)
        | 15 => v = .pointer (some ⟨w.heap.size, d * 3 + r, none⟩)
        | 16 => VBx u w.heap.size m
        | _ => True) ?_ ?_
    · refine Reg.Steps.cons ?_ (Reg.Steps.cons ?_ (Reg.Steps.cons ?_ (Reg.Steps.cons ?_ (Reg.Steps.cons ?_ (Reg.Steps.cons ?_ (Reg.Steps.cons ?_ (Reg.Steps.cons ?_ (Reg.Steps.cons ?_ (Reg.Steps.cons ?_ (Reg.Steps.cons ?_ (Reg.Steps.cons ?_ (Reg.Steps.cons ?_ (Reg.Steps.cons ?_ (Reg.Steps.cons ?_ (Reg.Steps.cons ?_ (Reg.Steps.cons ?_ (Reg.Steps.nil _)))))))))))))))))
      · intro val ac u hR hp ha K hK
        have e3 : (ac.tmps[3]?).getD undef = .pointer (some ⟨w.heap.size + 1, 0, none⟩) := ha 3 (by decide); clear ha hp
        refine Reg.Op1.plain rfl ?_
        go_wp2
        exact ⟨rfl, hK _ _ rfl (Reg.Wr.same _)⟩
      · intro val ac u hR hp ha K hK
        obtain ⟨w7, h7, r7⟩ := hp 0 (by decide); have e7 : (ac.tmps[7]?).getD undef = .pointer (some ⟨w.heap.size + 1, 0, none⟩) := (ha 7 (by decide)).trans h7; clear h7 ha hp
        refine Reg.Op1.plain rfl ?_
        have hk0 := (Mem.Keeps.refl (fun y => y = w.heap.size ∨ False ∨ False) w3).drew.trans (Reg.Wr.all hR) (fun _ h _ => h)
        have z0 := (hk0.cell (p := ⟨w.heap.size + 1, 0, none⟩) hD (fun h => by rcases h with h | h | h; exact absurd (show w.heap.size + 1 = w.heap.size from h) (by omega); exact h; exact h)).trans x0
        go_wp2
        exact ⟨rfl, hK _ _ rfl (Reg.Wr.same _)⟩
      · intro val ac u hR hp ha K hK
        have e3 : (ac.tmps[3]?).getD undef = .pointer (some ⟨w.heap.size + 1, 0, none⟩) := ha 3 (by decide); clear ha hp
        refine Reg.Op1.plain rfl ?_
        go_wp2
        exact ⟨rfl, hK _ _ rfl (Reg.Wr.same _)⟩
      · intro val ac u hR hp ha K hK
        obtain ⟨w9, h9, r9⟩ := hp 2 (by decide); have e9 : (ac.tmps[9]?).getD undef = .pointer (some ⟨w.heap.size + 1, 1, none⟩) := (ha 9 (by decide)).trans h9; clear h9 ha hp
        refine Reg.Op1.plain rfl ?_
        have hk0 := (Mem.Keeps.refl (fun y => y = w.heap.size ∨ False ∨ False) w3).drew.trans (Reg.Wr.all hR) (fun _ h _ => h)
        have z0 := (hk0.cell (p := ⟨w.heap.size + 1, 1, none⟩) hD (fun h => by rcases h with h | h | h; exact absurd (show w.heap.size + 1 = w.heap.size from h) (by omega); exact h; exact h)).trans x1
        go_wp2
        exact ⟨rfl, hK _ _ rfl (Reg.Wr.same _)⟩
      · intro val ac u hR hp ha K hK
        have e3 : (ac.tmps[3]?).getD undef = .pointer (some ⟨w.heap.size + 1, 0, none⟩) := ha 3 (by decide); clear ha hp
        refine Reg.Op1.plain rfl ?_
        go_wp2
        exact ⟨rfl, hK _ _ rfl (Reg.Wr.same _)⟩
      · intro val ac u hR hp ha K hK
        obtain ⟨w11, h11, r11⟩ := hp 4 (by decide); have e11 : (ac.tmps[11]?).getD undef = .pointer (some ⟨w.heap.size + 1, 0, none⟩) := (ha 11 (by decide)).trans h11; clear h11 ha hp
        refine Reg.Op1.plain rfl ?_
        have hk0 := (Mem.Keeps.refl (fun y => y = w.heap.size ∨ False ∨ False) w3).drew.trans (Reg.Wr.all hR) (fun _ h _ => h)
        have z0 := (hk0.cell (p := ⟨w.heap.size + 1, 0, none⟩) hD (fun h => by rcases h with h | h | h; exact absurd (show w.heap.size + 1 = w.heap.size from h) (by omega); exact h; exact h)).trans x0
        go_wp2
        exact ⟨rfl, hK _ _ rfl (Reg.Wr.same _)⟩
      · intro val ac u hR hp ha K hK
        have e3 : (ac.tmps[3]?).getD undef = .pointer (some ⟨w.heap.size + 1, 0, none⟩) := ha 3 (by decide); clear ha hp
        refine Reg.Op1.plain rfl ?_
        go_wp2
        exact ⟨rfl, hK _ _ rfl (Reg.Wr.same _)⟩
      · intro val ac u hR hp ha K hK
        obtain ⟨w13, h13, r13⟩ := hp 6 (by decide); have e13 : (ac.tmps[13]?).getD undef = .pointer (some ⟨w.heap.size + 1, 1, none⟩) := (ha 13 (by decide)).trans h13; clear h13 ha hp
        refine Reg.Op1.plain rfl ?_
        have hk0 := (Mem.Keeps.refl (fun y => y = w.heap.size ∨ False ∨ False) w3).drew.trans (Reg.Wr.all hR) (fun _ h _ => h)
        have z0 := (hk0.cell (p := ⟨w.heap.size + 1, 1, none⟩) hD (fun h => by rcases h with h | h | h; exact absurd (show w.heap.size + 1 = w.heap.size from h) (by omega); exact h; exact h)).trans x1
        go_wp2
        exact ⟨rfl, hK _ _ rfl (Reg.Wr.same _)⟩
      · intro val ac u hR hp ha K hK
        have e2 : (ac.tmps[2]?).getD undef = .pointer (some ⟨w.heap.size, 0, none⟩) := ha 2 (by decide); obtain ⟨w12, h12, r12⟩ := hp 5 (by decide); have e12 : (ac.tmps[12]?).getD undef = .int .i64 d := (ha 12 (by decide)).trans h12; clear h12 ha hp
        refine Reg.Op1.plain rfl ?_
        go_wp2
        exact ⟨rfl, hK _ _ rfl (Reg.Wr.same _)⟩
      · intro val ac u hR hp ha K hK
        obtain ⟨w15, h15, r15⟩ := hp 8 (by decide); have e15 : (ac.tmps[15]?).getD undef = .pointer (some ⟨w.heap.size, d * 3, none⟩) := (ha 15 (by decide)).trans h15; obtain ⟨w14, h14, r14⟩ := hp 7 (by decide); have e14 : (ac.tmps[14]?).getD undef = .int .i64 r := (ha 14 (by decide)).trans h14; clear h15 h14 ha hp
        refine Reg.Op1.plain rfl ?_
        go_wp2
        exact ⟨rfl, hK _ _ rfl (Reg.Wr.same _)⟩
      · intro val ac u hR hp ha K hK
        obtain ⟨w16, h16, r16⟩ := hp 9 (by decide); have e16 : (ac.tmps[16]?).getD undef = .pointer (some ⟨w.heap.size, d * 3 + r, none⟩) := (ha 16 (by decide)).trans h16; clear h16 ha hp
        refine Reg.Op1.plain rfl ?_
        have hk0 := (Mem.Keeps.refl (fun _ => False ∨ False) w3).drew.trans (Reg.Wr.not1 hR (by decide +kernel)) (fun _ h _ => h)
        have z0 := (hk0.cell (p := ⟨w.heap.size, d * 3 + r, none⟩) hV (fun h => h.elim id id)).trans x3
        go_wp2
        exact ⟨rfl, hK _ _ rfl (Reg.Wr.same _)⟩
      · intro val ac u hR hp ha K hK
        have e3 : (ac.tmps[3]?).getD undef = .pointer (some ⟨w.heap.size + 1, 0, none⟩) := ha 3 (by decide); clear ha hp
        refine Reg.Op1.plain rfl ?_
        go_wp2
        exact ⟨rfl, hK _ _ rfl (Reg.Wr.same _)⟩
      · intro val ac u hR hp ha K hK
        obtain ⟨w18, h18, r18⟩ := hp 11 (by decide); have e18 : (ac.tmps[18]?).getD undef = .pointer (some ⟨w.heap.size + 1, 2, none⟩) := (ha 18 (by decide)).trans h18; clear h18 ha hp
        refine Reg.Op1.plain rfl ?_
        have hk0 := (Mem.Keeps.refl (fun y => y = w.heap.size ∨ False ∨ False) w3).drew.trans (Reg.Wr.all hR) (fun _ h _ => h)
        have z0 := (hk0.cell (p := ⟨w.heap.size + 1, 2, none⟩) hD (fun h => by rcases h with h | h | h; exact absurd (show w.heap.size + 1 = w.heap.size from h) (by omega); exact h; exact h)).trans x2
        go_wp2
        exact ⟨rfl, hK _ _ rfl (Reg.Wr.same _)⟩
      · intro val ac u hR hp ha K hK
        obtain ⟨w17, h17, r17⟩ := hp 10 (by decide); have e17 : (ac.tmps[17]?).getD undef = .int .i64 cv := (ha 17 (by decide)).trans h17; obtain ⟨w19, h19, r19⟩ := hp 12 (by decide); have e19 : (ac.tmps[19]?).getD undef = .int .i64 q := (ha 19 (by decide)).trans h19; clear h17 h19 ha hp
        have hmx : ∀ ts t W, (Builtin.max_ ts t #[.int .i64 cv, .int .i64 q]).run Try.prog W = .ok (.int .i64 (max cv q)) W := fun ts t W => run_max2 ts t W _ _
        refine Reg.Op1.plain rfl ?_
        go_wp2
        exact ⟨rfl, hK _ _ rfl (Reg.Wr.same _)⟩
      · intro val ac u hR hp ha K hK
        have e2 : (ac.tmps[2]?).getD undef = .pointer (some ⟨w.heap.size, 0, none⟩) := ha 2 (by decide); obtain ⟨w8, h8, r8⟩ := hp 1 (by decide); have e8 : (ac.tmps[8]?).getD undef = .int .i64 d := (ha 8 (by decide)).trans h8; clear h8 ha hp
        refine Reg.Op1.plain rfl ?_
        go_wp2
        exact ⟨rfl, hK _ _ rfl (Reg.Wr.same _)⟩
      · intro val ac u hR hp ha K hK
        obtain ⟨w21, h21, r21⟩ := hp 14 (by decide); have e21 : (ac.tmps[21]?).getD undef = .pointer (some ⟨w.heap.size, d * 3, none⟩) := (ha 21 (by decide)).trans h21; obtain ⟨w10, h10, r10⟩ := hp 3 (by decide); have e10 : (ac.tmps[10]?).getD undef = .int .i64 r := (ha 10 (by decide)).trans h10; clear h21 h10 ha hp
        refine Reg.Op1.plain rfl ?_
        go_wp2
        exact ⟨rfl, hK _ _ rfl (Reg.Wr.same _)⟩
      · intro val ac u hR hp ha K hK
        obtain ⟨w22, h22, r22⟩ := hp 15 (by decide); have e22 : (ac.tmps[22]?).getD undef = .pointer (some ⟨w.heap.size, d * 3 + r, none⟩) := (ha 22 (by decide)).trans h22; obtain ⟨w20, h20, r20⟩ := hp 13 (by decide); have e20 : (ac.tmps[20]?).getD undef = .int .i64 (max cv q) := (ha 20 (by decide)).trans h20; clear h22 h20 ha hp
        refine Reg.Op1.plain rfl ?_
        have hk0 := (Mem.Keeps.refl (fun _ => False ∨ False) w3).drew.trans (Reg.Wr.not1 hR (by decide +kernel)) (fun _ h _ => h)
        have hVu : VBx u w.heap.size v := HA3.out.V.keeps hk0 (fun h => h.elim id id)
        have z0 := hVu.cell HCV.out
        have f0 := hVu.fr (d * 3 + r)
        have h3 : VBx (u.setCell ⟨w.heap.size, d * 3 + r, none⟩ (.int .i64 (max cv q))) w.heap.size m := by
          have h4 := Mem.Bx.set hVu (d * 3 + r) (.int .i64 (max cv q))
          rw [HST.out, HMM.out] at h4
          exact h4
        have hk3 := (Mem.Keeps.refl (fun y => y = w.heap.size) u).setCell (p := ⟨w.heap.size, d * 3 + r, none⟩) (fun _ => rfl) (.int .i64 (max cv q))
        have H3 := Lib.hid h3
        have HK3 := Lib.hid hk3
        clear hVu h3 hk3 hk0
        go_wp2
        exact ⟨rfl, hK undef _ H3.out (Reg.Wr.does1 HK3.out)⟩
    intro val u hR H
    obtain ⟨wA, hb, rA⟩ := H 16 (by decide)
    have hbu : VBx u w.heap.size m := Mem.Bx.keeps hb (Reg.Wr.not1 rA (by decide +kernel)) (fun h => h.elim id id)
    have hk0 := (Mem.Keeps.refl (fun y => y = w.heap.size ∨ False ∨ False) w3).drew.trans (Reg.Wr.all hR) (fun _ h _ => h)
    have HA9 : Hid (WiAt w m m ⟨d, r, q⟩ u) := ⟨hbu, HA3.out.D.keeps hk0 (fun h => by rcases h with h | h | h <;> first | omega | exact h), HA3.out.Z.keeps hk0 (fun h => by rcases h with h | h | h <;> first | omega | exact h), HA3.out.b.trans (hk0.below (fun q h => by rcases h with h | h | h <;> first | omega | exact h.elim) HA3.out.b.size)⟩
    simp only [List.map_cons, List.map_nil, Reg.lay, Act.put, List.setIfInBounds_toArray, List.set_cons_succ, List.set_cons_zero, Nat.reduceAdd]
    clear hR H hb rA hbu hk0
    clear HA3 x0 x1 x2 x3 hD hV
    go_wp2_with (first | ((with_reducible refine Mem.load_agg _ _ vec_agg w.heap.size 0 (vcCells m) ?hx (vcCells_length m) (fun j u hu => by rw [Nat.zero_add]; exact HA9.out.V.cell hu) ?_); case hx => exact rfl) | ((with_reducible refine Mem.store_agg _ _ vec_agg (w.heap.size + 2) (vcCells vc0) (vcCells m) ?hx ?hy HA9.out.Z (vcCells_length m) (vc_one m) ?_); (case hx => exact rfl); (case hy => exact rfl); intro w3 hb3 hk3 hs3))
    refine bodyPost_ret (v := .agg (vcCells m).toArray) ?_ rfl ⟨rfl, HA9.out.b.trans (hk3.below (fun k h => by omega) HA9.out.b.size)⟩
    rw [Mem.results_agg Try.results70 vec_agg rfl hb3]
end Go.Proofs.Ytelephoalpphkaa
end
