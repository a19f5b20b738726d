/- Several texts of this proof in one file, in the order in which they build: Ref4c, RefC, RefH, RefG, Aud32, Aud33, AuditSeesP. No conditions but those that each theorem names. -/
import Derived.Test.YtelephoalpphkaaStampC
import Derived.Test.YtelephoalpphkaaTyCov
import Derived.Test.YtelephoalpphkaaAud2
import Derived.Test.YtelephoalpphkaaAud29
import Derived.WalkKit
import Derived.ProofKit
import Derived.OpenShut
import Derived.ShutString
import Derived.ChangeOld
import Derived.Below
import Derived.SizedLaws
section
/- The document's order of stamps. No conditions. -/
namespace Go.Proofs.Ytelephoalpphkaa
open Go.RowKit
set_option linter.unusedVariables false
set_option linter.unusedSimpArgs false
theorem order_any (x y : Int) (w : World) :
    Calls Try.prog 72 #[.int .i64 x, .int .i64 y] w fun e w' => e = .returned (.int .i64 (Stamp.cmpI x y)) ∧ w = w' := by
  rcases Int.lt_trichotomy x y with h | h | h
  · go_enter Try.func72, Try.ntmps72
    go_wp2
    go_ret
    exact ⟨by show Ending.returned (.int .i64 (-1)) = _; rw [Stamp.cmpI, if_pos h], rfl⟩
  · subst h
    go_enter Try.func72, Try.ntmps72
    go_wp2
    go_ret
    exact ⟨by show Ending.returned (.int .i64 0) = _; rw [Stamp.cmpI, if_neg (by omega), if_neg (by omega)], rfl⟩
  · have h' : ¬ x < y := by omega
    go_enter Try.func72, Try.ntmps72
    go_wp2
    go_ret
    exact ⟨by show Ending.returned (.int .i64 1) = _; rw [Stamp.cmpI, if_neg (by omega), if_pos h], rfl⟩

namespace Stamp
theorem cmpI_eq {x y : Int} : cmpI x y = 0 ↔ x = y := by
  unfold cmpI
  constructor
  · intro h; split at h
    · omega
    · split at h <;> omega
  · intro h; rw [if_neg (by omega), if_neg (by omega)]
theorem cmpS_c {a b : St} (h : a.c ≠ b.c) : cmpS a b = cmpI a.c b.c := by
  unfold cmpS firstNZ; rw [if_neg (fun e => h (cmpI_eq.1 e))]
theorem cmpS_d {a b : St} (h : a.c = b.c) (h2 : a.d ≠ b.d) : cmpS a b = cmpI a.d b.d := by
  unfold cmpS; simp only [firstNZ]; rw [if_pos (cmpI_eq.2 h), if_neg (fun e => h2 (cmpI_eq.1 e))]
theorem cmpS_r {a b : St} (h : a.c = b.c) (h2 : a.d = b.d) : cmpS a b = cmpI a.r b.r := by
  unfold cmpS; simp only [firstNZ]; rw [if_pos (cmpI_eq.2 h), if_pos (cmpI_eq.2 h2)]; split
  · rename_i h3; rw [h3]
  · rfl
end Stamp

set_option maxHeartbeats 1000000 in
theorem refCmp_any (a b : Stamp.St) (w : World) :
    Calls Try.prog 62 #[Stamp.S a, Stamp.S b] w fun e w' => e = .returned (.int .i64 (Stamp.cmpS a b)) ∧ Below w.heap.size w w' := by
  have HB := Lib.hid (show Below w.heap.size w ((w.alloc (.cells #[.int .i64 a.c, .int .i64 a.d, .int .i64 a.r] 30)).alloc (.cells #[.int .i64 b.c, .int .i64 b.d, .int .i64 b.r] 30)) from (Reg.below_new _ _).alloc (by simp) _)
  by_cases h1 : a.c = b.c
  · have t1 : (a.c != b.c) = false := by simp [h1]
    by_cases h2 : a.d = b.d
    · have t2 : (a.d != b.d) = false := by simp [h2]
      have H := Lib.hid (Stamp.cmpS_r h1 h2)
      clear h1 h2
      go_enter Try.func62, Try.ntmps62
      go_wp2_with (go_at_call 72; refine (order_any _ _ _).mono ?_; rintro e w' ⟨rfl, rfl⟩)
      go_ret
      exact ⟨by rw [H.out]; rfl, HB.out⟩
    · have t2 : (a.d != b.d) = true := by simp [h2]
      have H := Lib.hid (Stamp.cmpS_d h1 h2)
      clear h1 h2
      go_enter Try.func62, Try.ntmps62
      go_wp2_with (go_at_call 72; refine (order_any _ _ _).mono ?_; rintro e w' ⟨rfl, rfl⟩)
      go_ret
      exact ⟨by rw [H.out]; rfl, HB.out⟩
  · have t1 : (a.c != b.c) = true := by simp [h1]
    have H := Lib.hid (Stamp.cmpS_c h1)
    clear h1
    go_enter Try.func62, Try.ntmps62
    go_wp2_with (go_at_call 72; refine (order_any _ _ _).mono ?_; rintro e w' ⟨rfl, rfl⟩)
    go_ret
    exact ⟨by rw [H.out]; rfl, HB.out⟩

end Go.Proofs.Ytelephoalpphkaa
end
section
/- The document's vectors: covers, chain. No conditions. -/
namespace Go.Proofs.Ytelephoalpphkaa
open Go.ChangeShapes Go.WideShapes Go.ChangeAt Go.RowKit
set_option linter.unusedVariables false
set_option linter.unusedSimpArgs false
open Vec in
set_option maxRecDepth 8000 in
set_option maxHeartbeats 4000000 in
theorem refCovers_any (x y : Vec.Vc) (w : World) :
    Calls Try.prog 30 #[.agg (Vec.vcCells x).toArray, .agg (Vec.vcCells y).toArray] w fun e w' => e = .returned (.bool (Vec.coversV x y)) ∧ Below w.heap.size w w' := by
  go_enter Try.func30, Try.ntmps30
  go_wp2
  go_loopw [5] (CvRel w x y) (fun t _ => 3 - (intOf t).toNat)
  case atStart =>
    refine ⟨⟨0, by omega, rfl, rfl, ?_, ?_, ?_⟩⟩
    · exact (Mem.Bx.new w 33 (vcCells x).toArray rfl rfl).below (Reg.below_new _ _) (by simp)
    · exact Mem.Bx.new (w.alloc _) 33 (vcCells y).toArray rfl (by simp)
    · exact (Reg.below_new _ _).alloc (by simp) _
  case round =>
    obtain ⟨k, hk, rfl, hpk, HA⟩ := hrel.out
    have hck : k = 0 ∨ k = 1 ∨ k = 2 ∨ k = 3 := by omega
    rcases hck with rfl | rfl | rfl | rfl
    ·
      go_wp2
      rename World => wo
      go_loopw [6] (CvRow w x y x.a y.a) (fun t _ => 3 - (intOf t).toNat)
      case atStart => exact ⟨⟨0, by omega, rfl, rfl, HA⟩⟩
      case round =>
        clear HA
        obtain ⟨j, hj, rfl, hpj, HA⟩ := hrel.out
        have hcj : j = 0 ∨ j = 1 ∨ j = 2 ∨ j = 3 := by omega
        rcases hcj with rfl | rfl | rfl | rfl
        ·
          have x0 := HA.out.X.cell (j := 0) rfl
          have x1 := HA.out.Y.cell (j := 0) rfl
          by_cases hlt : y.a.a ≤ x.a.a
          · have hd : decide (x.a.a < y.a.a) = false := by simp; omega
            have hnx : Vec.covP x.a y.a (0 + 1) = true := by unfold Vec.covP at hpj ⊢; simp_all
            go_wp2
            go_quiet (fail)
            go_wp2
            go_roundw
            case rel => exact ⟨⟨0 + 1, by omega, rfl, hnx, HA.out.drewN _⟩⟩
            case measure => simp [intOf]
          · have hd : decide (x.a.a < y.a.a) = true := by simp; omega
            have hcv : Vec.coversV x y = false := by unfold Vec.coversV Vec.covV Vec.covP; simp; omega
            go_wp2
            go_quiet (fail)
            go_wp2
            go_ret
            exact ⟨by rw [hcv]; rfl, Mem.below_drewN HA.out.b _⟩
        ·
          have x0 := HA.out.X.cell (j := 1) rfl
          have x1 := HA.out.Y.cell (j := 1) rfl
          by_cases hlt : y.a.b ≤ x.a.b
          · have hd : decide (x.a.b < y.a.b) = false := by simp; omega
            have hnx : Vec.covP x.a y.a (1 + 1) = true := by unfold Vec.covP at hpj ⊢; simp_all
            go_wp2
            go_quiet (fail)
            go_wp2
            go_roundw
            case rel => exact ⟨⟨1 + 1, by omega, rfl, hnx, HA.out.drewN _⟩⟩
            case measure => simp [intOf]
          · have hd : decide (x.a.b < y.a.b) = true := by simp; omega
            have hcv : Vec.coversV x y = false := by unfold Vec.coversV Vec.covV Vec.covP; simp; omega
            go_wp2
            go_quiet (fail)
            go_wp2
            go_ret
            exact ⟨by rw [hcv]; rfl, Mem.below_drewN HA.out.b _⟩
        ·
          have x0 := HA.out.X.cell (j := 2) rfl
          have x1 := HA.out.Y.cell (j := 2) rfl
          by_cases hlt : y.a.c ≤ x.a.c
          · have hd : decide (x.a.c < y.a.c) = false := by simp; omega
            have hnx : Vec.covP x.a y.a (2 + 1) = true := by unfold Vec.covP at hpj ⊢; simp_all
            go_wp2
            go_quiet (fail)
            go_wp2
            go_roundw
            case rel => exact ⟨⟨2 + 1, by omega, rfl, hnx, HA.out.drewN _⟩⟩
            case measure => simp [intOf]
          · have hd : decide (x.a.c < y.a.c) = true := by simp; omega
            have hcv : Vec.coversV x y = false := by unfold Vec.coversV Vec.covV Vec.covP; simp; omega
            go_wp2
            go_quiet (fail)
            go_wp2
            go_ret
            exact ⟨by rw [hcv]; rfl, Mem.below_drewN HA.out.b _⟩
        · have hnx : Vec.covV x y (0 + 1) = true := by unfold Vec.covV at hpk ⊢; simp_all
          go_wp2
          go_roundw
          case rel => exact ⟨⟨0 + 1, by omega, rfl, hnx, HA⟩⟩
          case measure => simp [intOf]
    ·
      go_wp2
      rename World => wo
      go_loopw [6] (CvRow w x y x.b y.b) (fun t _ => 3 - (intOf t).toNat)
      case atStart => exact ⟨⟨0, by omega, rfl, rfl, HA⟩⟩
      case round =>
        clear HA
        obtain ⟨j, hj, rfl, hpj, HA⟩ := hrel.out
        have hcj : j = 0 ∨ j = 1 ∨ j = 2 ∨ j = 3 := by omega
        rcases hcj with rfl | rfl | rfl | rfl
        ·
          have x0 := HA.out.X.cell (j := 3) rfl
          have x1 := HA.out.Y.cell (j := 3) rfl
          by_cases hlt : y.b.a ≤ x.b.a
          · have hd : decide (x.b.a < y.b.a) = false := by simp; omega
            have hnx : Vec.covP x.b y.b (0 + 1) = true := by unfold Vec.covP at hpj ⊢; simp_all
            go_wp2
            go_quiet (fail)
            go_wp2
            go_roundw
            case rel => exact ⟨⟨0 + 1, by omega, rfl, hnx, HA.out.drewN _⟩⟩
            case measure => simp [intOf]
          · have hd : decide (x.b.a < y.b.a) = true := by simp; omega
            have hcv : Vec.coversV x y = false := by unfold Vec.coversV Vec.covV Vec.covP; simp; omega
            go_wp2
            go_quiet (fail)
            go_wp2
            go_ret
            exact ⟨by rw [hcv]; rfl, Mem.below_drewN HA.out.b _⟩
        ·
          have x0 := HA.out.X.cell (j := 4) rfl
          have x1 := HA.out.Y.cell (j := 4) rfl
          by_cases hlt : y.b.b ≤ x.b.b
          · have hd : decide (x.b.b < y.b.b) = false := by simp; omega
            have hnx : Vec.covP x.b y.b (1 + 1) = true := by unfold Vec.covP at hpj ⊢; simp_all
            go_wp2
            go_quiet (fail)
            go_wp2
            go_roundw
            case rel => exact ⟨⟨1 + 1, by omega, rfl, hnx, HA.out.drewN _⟩⟩
            case measure => simp [intOf]
          · have hd : decide (x.b.b < y.b.b) = true := by simp; omega
            have hcv : Vec.coversV x y = false := by unfold Vec.coversV Vec.covV Vec.covP; simp; omega
            go_wp2
            go_quiet (fail)
            go_wp2
            go_ret
            exact ⟨by rw [hcv]; rfl, Mem.below_drewN HA.out.b _⟩
        ·
          have x0 := HA.out.X.cell (j := 5) rfl
          have x1 := HA.out.Y.cell (j := 5) rfl
          by_cases hlt : y.b.c ≤ x.b.c
          · have hd : decide (x.b.c < y.b.c) = false := by simp; omega
            have hnx : Vec.covP x.b y.b (2 + 1) = true := by unfold Vec.covP at hpj ⊢; simp_all
            go_wp2
            go_quiet (fail)
            go_wp2
            go_roundw
            case rel => exact ⟨⟨2 + 1, by omega, rfl, hnx, HA.out.drewN _⟩⟩
            case measure => simp [intOf]
          · have hd : decide (x.b.c < y.b.c) = true := by simp; omega
            have hcv : Vec.coversV x y = false := by unfold Vec.coversV Vec.covV Vec.covP; simp; omega
            go_wp2
            go_quiet (fail)
            go_wp2
            go_ret
            exact ⟨by rw [hcv]; rfl, Mem.below_drewN HA.out.b _⟩
        · have hnx : Vec.covV x y (1 + 1) = true := by unfold Vec.covV at hpk ⊢; simp_all
          go_wp2
          go_roundw
          case rel => exact ⟨⟨1 + 1, by omega, rfl, hnx, HA⟩⟩
          case measure => simp [intOf]
    ·
      go_wp2
      rename World => wo
      go_loopw [6] (CvRow w x y x.c y.c) (fun t _ => 3 - (intOf t).toNat)
      case atStart => exact ⟨⟨0, by omega, rfl, rfl, HA⟩⟩
      case round =>
        clear HA
        obtain ⟨j, hj, rfl, hpj, HA⟩ := hrel.out
        have hcj : j = 0 ∨ j = 1 ∨ j = 2 ∨ j = 3 := by omega
        rcases hcj with rfl | rfl | rfl | rfl
        ·
          have x0 := HA.out.X.cell (j := 6) rfl
          have x1 := HA.out.Y.cell (j := 6) rfl
          by_cases hlt : y.c.a ≤ x.c.a
          · have hd : decide (x.c.a < y.c.a) = false := by simp; omega
            have hnx : Vec.covP x.c y.c (0 + 1) = true := by unfold Vec.covP at hpj ⊢; simp_all
            go_wp2
            go_quiet (fail)
            go_wp2
            go_roundw
            case rel => exact ⟨⟨0 + 1, by omega, rfl, hnx, HA.out.drewN _⟩⟩
            case measure => simp [intOf]
          · have hd : decide (x.c.a < y.c.a) = true := by simp; omega
            have hcv : Vec.coversV x y = false := by unfold Vec.coversV Vec.covV Vec.covP; simp; omega
            go_wp2
            go_quiet (fail)
            go_wp2
            go_ret
            exact ⟨by rw [hcv]; rfl, Mem.below_drewN HA.out.b _⟩
        ·
          have x0 := HA.out.X.cell (j := 7) rfl
          have x1 := HA.out.Y.cell (j := 7) rfl
          by_cases hlt : y.c.b ≤ x.c.b
          · have hd : decide (x.c.b < y.c.b) = false := by simp; omega
            have hnx : Vec.covP x.c y.c (1 + 1) = true := by unfold Vec.covP at hpj ⊢; simp_all
            go_wp2
            go_quiet (fail)
            go_wp2
            go_roundw
            case rel => exact ⟨⟨1 + 1, by omega, rfl, hnx, HA.out.drewN _⟩⟩
            case measure => simp [intOf]
          · have hd : decide (x.c.b < y.c.b) = true := by simp; omega
            have hcv : Vec.coversV x y = false := by unfold Vec.coversV Vec.covV Vec.covP; simp; omega
            go_wp2
            go_quiet (fail)
            go_wp2
            go_ret
            exact ⟨by rw [hcv]; rfl, Mem.below_drewN HA.out.b _⟩
        ·
          have x0 := HA.out.X.cell (j := 8) rfl
          have x1 := HA.out.Y.cell (j := 8) rfl
          by_cases hlt : y.c.c ≤ x.c.c
          · have hd : decide (x.c.c < y.c.c) = false := by simp; omega
            have hnx : Vec.covP x.c y.c (2 + 1) = true := by unfold Vec.covP at hpj ⊢; simp_all
            go_wp2
            go_quiet (fail)
            go_wp2
            go_roundw
            case rel => exact ⟨⟨2 + 1, by omega, rfl, hnx, HA.out.drewN _⟩⟩
            case measure => simp [intOf]
          · have hd : decide (x.c.c < y.c.c) = true := by simp; omega
            have hcv : Vec.coversV x y = false := by unfold Vec.coversV Vec.covV Vec.covP; simp; omega
            go_wp2
            go_quiet (fail)
            go_wp2
            go_ret
            exact ⟨by rw [hcv]; rfl, Mem.below_drewN HA.out.b _⟩
        · have hnx : Vec.covV x y (2 + 1) = true := by unfold Vec.covV at hpk ⊢; simp_all
          go_wp2
          go_roundw
          case rel => exact ⟨⟨2 + 1, by omega, rfl, hnx, HA⟩⟩
          case measure => simp [intOf]
    · have hv : Vec.coversV x y = true := hpk
      go_wp2
      go_ret
      exact ⟨by rw [hv]; rfl, HA.out.b⟩

set_option maxHeartbeats 1000000 in
theorem refChain_any (d : Vec.Dt) (w : World) :
    Calls Try.prog 42 #[.agg (Vec.dtCells d).toArray] w fun e w' => e = .returned (.bool (Vec.chain d.dc d.rng)) ∧ Below w.heap.size w w' := by
  obtain ⟨dc, rng, q⟩ := d
  obtain ⟨b, hb, h⟩ := Vec.chain_arms dc rng
  show Calls Try.prog 42 #[.agg #[.int .i64 dc, .int .i64 rng, .int .i64 q]] w fun e w' => e = .returned (.bool (Vec.chain dc rng)) ∧ Below w.heap.size w w'
  rw [hb]
  clear hb
  have HB := Lib.hid (show Below w.heap.size w (w.alloc (.cells #[.int .i64 dc, .int .i64 rng, .int .i64 q] 28)) from Reg.below_new _ _)
  rcases h with ⟨rfl, h1, h2, h3, h4⟩ | ⟨rfl, h | ⟨h1, h⟩ | ⟨h1, h2, h⟩ | ⟨h1, h2, h3, h⟩⟩ <;>
  · go_enter Try.func42, Try.ntmps42
    go_wp2
    go_ret
    exact ⟨rfl, HB.out⟩
end Go.Proofs.Ytelephoalpphkaa
end
section
/- The document's Has. No conditions. -/
set_option maxRecDepth 8000
namespace Go.Proofs.Ytelephoalpphkaa
open Go.ChangeShapes Go.WideShapes Go.ChangeAt Go.RowKit
set_option linter.unusedVariables false
set_option linter.unusedSimpArgs false
namespace Vec
theorem vc_cellR (v : Vc) {d r : Nat} (hd : d < 3) (hr : r < 3) : (vcCells v)[d * 3 + r]? = some (.int .i64 (v.get d r)) := by
  match d, r, hd, hr with
  | 0, 0, _, _ => rfl
  | 0, 1, _, _ => rfl
  | 0, 2, _, _ => rfl
  | 1, 0, _, _ => rfl
  | 1, 1, _, _ => rfl
  | 1, 2, _, _ => rfl
  | 2, 0, _, _ => rfl
  | 2, 1, _, _ => rfl
  | 2, 2, _, _ => rfl
end Vec
open Vec in
set_option maxRecDepth 8000 in
set_option maxHeartbeats 4000000 in
theorem refHas_any (vv : Vec.Vc) (d : Vec.Dt) (w : World) :
    Calls Try.prog 27 #[.agg (Vec.vcCells vv).toArray, .agg (Vec.dtCells d).toArray] w fun e w' => e = .returned (.bool (Vec.hasD vv d)) ∧ Below w.heap.size w w' := by
  obtain ⟨dc, rng, q⟩ := d
  go_enter Try.func27, Try.ntmps27
  go_upto_region 1 with fail
  have H2 : Hid (HasAt w vv ⟨dc, rng, q⟩ ((w.alloc (.cells (vcCells vv).toArray 33)).alloc (.cells (dtCells ⟨dc, rng, q⟩).toArray 28))) :=
    ⟨(Mem.Bx.new w 33 (vcCells vv).toArray rfl rfl).below (Reg.below_new _ _) (by simp), Mem.Bx.new (w.alloc _) 28 (dtCells ⟨dc, rng, q⟩).toArray rfl (by simp), (Reg.below_new _ _).alloc (by simp) _⟩
  obtain ⟨w2, hw2⟩ : ∃ w2, ((w.alloc (.cells (vcCells vv).toArray 33)).alloc (.cells (dtCells ⟨dc, rng, q⟩).toArray 28)) = w2 := ⟨_, rfl⟩
  rw [hw2] at H2
  rw [hw2]
  clear hw2
  cases hch : Vec.chain dc rng
  · have hh : Vec.hasD vv ⟨dc, rng, q⟩ = false := by unfold Vec.hasD; rw [hch]; rfl
    have HCH := Lib.hid hch
    have HXL := Lib.hid H2.out.X.lt
    have HVC : Hid (w2.cell? ⟨w.heap.size, 0, none⟩ = some (.int .i64 vv.a.a)) := H2.out.X.cell (j := 0) rfl
    clear hch
    refine Reg.wp_region_rel (by kernel_rfl) 24 20 rfl rfl (by kernel_rfl) (Reg.Adds) (Reg.Adds.refl) (Reg.Adds.trans)
      (fun i v u => match i with
        | 0 => v = .agg (dtCells ⟨dc, rng, q⟩).toArray
        | 1 => v = .bool false
        | 2 => v = .bool false
        | 3 => v = undef
        | 4 => v = undef
        | 5 => v = undef
        | 6 => v = .bool false
        | 7 => v = .bool false
        | 8 => v = undef
        | 9 => v = undef
        | 10 => v = undef
        | 11 => v = undef
        | 12 => v = undef
        | 13 => v = undef
        | 14 => v = undef
        | 15 => v = undef
        | 16 => v = undef
        | 17 => v = undef
        | 18 => v = .bool false
        | 19 => v = .bool false
        | _ => True) ?_ ?_
    · refine Reg.Steps.cons ?_ (Reg.Steps.cons ?_ (Reg.Steps.cons ?_ (Reg.Steps.cons ?_ (Reg.Steps.cons ?_ (Reg.Steps.cons ?_ (Reg.Steps.cons ?_ (Reg.Steps.cons ?_ (Reg.Steps.cons ?_ (Reg.Steps.cons ?_ (Reg.Steps.cons ?_ (Reg.Steps.cons ?_ (Reg.Steps.cons ?_ (Reg.Steps.cons ?_ (Reg.Steps.cons ?_ (Reg.Steps.cons ?_ (Reg.Steps.cons ?_ (Reg.Steps.cons ?_ (Reg.Steps.cons ?_ (Reg.Steps.cons ?_ (Reg.Steps.nil _))))))))))))))))))))
      · intro val ac u hR hp ha K hK      -- 0: t5 := Op.load 28 t3
        have e3 : (ac.tmps[3]?).getD undef = .pointer (some ⟨w.heap.size + 1, 0, none⟩) := ha 3 (by decide)
        clear ha hp
        refine Reg.Op1.plain rfl ?_
        have hDu := H2.out.D.below (w := w2.drew) hR H2.out.D.lt
        refine Mem.load_agg _ _ dot_agg (w.heap.size + 1) 0 (dtCells ⟨dc, rng, q⟩) (Reg.eval_of e3) (dtCells_length _) (fun j u' hu => by rw [Nat.zero_add]; exact hDu.cell hu) ?_
        exact ⟨rfl, hK _ _ rfl (fun j k _ _ => Reg.Adds.refl _ _ _)⟩
      · intro val ac u hR hp ha K hK      -- 1: t6 := Op.call { value (Operand.func 42), args := #[t5], argTypes := #[28] }
        obtain ⟨w5, h5, r5⟩ := hp 0 (by decide)
        have e5 : (ac.tmps[5]?).getD undef = .agg (dtCells ⟨dc, rng, q⟩).toArray := (ha 5 (by decide)).trans h5
        clear h5
        clear ha hp
        refine Reg.Op1.plain rfl ?_
        go_wp2_with fail
        refine (refChain_any ⟨dc, rng, q⟩ u).mono ?_
        rintro x w' ⟨rfl, hbw⟩
        rw [HCH.out]
        go_wp2_with fail
        exact ⟨rfl, hK _ _ rfl (fun j k _ _ => hbw)⟩
      · intro val ac u hR hp ha K hK      -- 2: t7 := Op.move t6
        obtain ⟨w6, h6, r6⟩ := hp 1 (by decide)
        have e6 : (ac.tmps[6]?).getD undef = .bool false := (ha 6 (by decide)).trans h6
        clear h6
        clear ha hp
        refine Reg.Op1.plain rfl ?_
        go_wp2
        exact ⟨rfl, hK _ _ rfl (fun j k _ _ => Reg.Adds.refl _ _ _)⟩
      · intro val ac u hR hp ha K hK      -- 3: t8 := Op.fieldAddr 28 t3 2
        obtain ⟨w7, h7, r7⟩ := hp 2 (by decide)
        have e7 : (ac.tmps[7]?).getD undef = .bool false := (ha 7 (by decide)).trans h7
        clear h7
        clear ha hp
        exact Reg.Op1.guarded rfl rfl e7 (fun h => by cases h) (fun _ => hK _ _ rfl (fun j k _ _ => Reg.Adds.refl _ _ _))
      · intro val ac u hR hp ha K hK      -- 4: t9 := Op.load 3 t8
        obtain ⟨w7, h7, r7⟩ := hp 2 (by decide)
        have e7 : (ac.tmps[7]?).getD undef = .bool false := (ha 7 (by decide)).trans h7
        clear h7
        clear ha hp
        exact Reg.Op1.guarded rfl rfl e7 (fun h => by cases h) (fun _ => hK _ _ rfl (fun j k _ _ => Reg.Adds.refl _ _ _))
      · intro val ac u hR hp ha K hK      -- 5: t10 := Op.binOp BinOp.geq 3 t9 (const (1:i64)) 3
        obtain ⟨w7, h7, r7⟩ := hp 2 (by decide)
        have e7 : (ac.tmps[7]?).getD undef = .bool false := (ha 7 (by decide)).trans h7
        clear h7
        clear ha hp
        exact Reg.Op1.guarded rfl rfl e7 (fun h => by cases h) (fun _ => hK _ _ rfl (fun j k _ _ => Reg.Adds.refl _ _ _))
      · intro val ac u hR hp ha K hK      -- 6: t11 := Op.pick t7 t10 (const (Value.bool false))
        obtain ⟨w7, h7, r7⟩ := hp 2 (by decide)
        have e7 : (ac.tmps[7]?).getD undef = .bool false := (ha 7 (by decide)).trans h7
        clear h7
        obtain ⟨w10, h10, r10⟩ := hp 5 (by decide)
        have e10 : (ac.tmps[10]?).getD undef = undef := (ha 10 (by decide)).trans h10
        clear h10
        clear ha hp
        refine Reg.Op1.plain rfl ?_
        go_wp2
        exact ⟨rfl, hK _ _ rfl (fun j k _ _ => Reg.Adds.refl _ _ _)⟩
      · intro val ac u hR hp ha K hK      -- 7: t12 := Op.move t11
        obtain ⟨w11, h11, r11⟩ := hp 6 (by decide)
        have e11 : (ac.tmps[11]?).getD undef = .bool false := (ha 11 (by decide)).trans h11
        clear h11
        clear ha hp
        refine Reg.Op1.plain rfl ?_
        go_wp2
        exact ⟨rfl, hK _ _ rfl (fun j k _ _ => Reg.Adds.refl _ _ _)⟩
      · intro val ac u hR hp ha K hK      -- 8: t13 := Op.fieldAddr 28 t3 2
        obtain ⟨w12, h12, r12⟩ := hp 7 (by decide)
        have e12 : (ac.tmps[12]?).getD undef = .bool false := (ha 12 (by decide)).trans h12
        clear h12
        clear ha hp
        exact Reg.Op1.guarded rfl rfl e12 (fun h => by cases h) (fun _ => hK _ _ rfl (fun j k _ _ => Reg.Adds.refl _ _ _))
      · intro val ac u hR hp ha K hK      -- 9: t14 := Op.load 3 t13
        obtain ⟨w12, h12, r12⟩ := hp 7 (by decide)
        have e12 : (ac.tmps[12]?).getD undef = .bool false := (ha 12 (by decide)).trans h12
        clear h12
        clear ha hp
        exact Reg.Op1.guarded rfl rfl e12 (fun h => by cases h) (fun _ => hK _ _ rfl (fun j k _ _ => Reg.Adds.refl _ _ _))
      · intro val ac u hR hp ha K hK      -- 10: t15 := Op.fieldAddr 28 t3 0
        obtain ⟨w12, h12, r12⟩ := hp 7 (by decide)
        have e12 : (ac.tmps[12]?).getD undef = .bool false := (ha 12 (by decide)).trans h12
        clear h12
        clear ha hp
        exact Reg.Op1.guarded rfl rfl e12 (fun h => by cases h) (fun _ => hK _ _ rfl (fun j k _ _ => Reg.Adds.refl _ _ _))
      · intro val ac u hR hp ha K hK      -- 11: t16 := Op.load 3 t15
        obtain ⟨w12, h12, r12⟩ := hp 7 (by decide)
        have e12 : (ac.tmps[12]?).getD undef = .bool false := (ha 12 (by decide)).trans h12
        clear h12
        clear ha hp
        exact Reg.Op1.guarded rfl rfl e12 (fun h => by cases h) (fun _ => hK _ _ rfl (fun j k _ _ => Reg.Adds.refl _ _ _))
      · intro val ac u hR hp ha K hK      -- 12: t17 := Op.fieldAddr 28 t3 1
        obtain ⟨w12, h12, r12⟩ := hp 7 (by decide)
        have e12 : (ac.tmps[12]?).getD undef = .bool false := (ha 12 (by decide)).trans h12
        clear h12
        clear ha hp
        exact Reg.Op1.guarded rfl rfl e12 (fun h => by cases h) (fun _ => hK _ _ rfl (fun j k _ _ => Reg.Adds.refl _ _ _))
      · intro val ac u hR hp ha K hK      -- 13: t18 := Op.load 3 t17
        obtain ⟨w12, h12, r12⟩ := hp 7 (by decide)
        have e12 : (ac.tmps[12]?).getD undef = .bool false := (ha 12 (by decide)).trans h12
        clear h12
        clear ha hp
        exact Reg.Op1.guarded rfl rfl e12 (fun h => by cases h) (fun _ => hK _ _ rfl (fun j k _ _ => Reg.Adds.refl _ _ _))
      · intro val ac u hR hp ha K hK      -- 14: t19 := Op.indexAddr 33 t2 t16
        obtain ⟨w12, h12, r12⟩ := hp 7 (by decide)
        have e12 : (ac.tmps[12]?).getD undef = .bool false := (ha 12 (by decide)).trans h12
        clear h12
        clear ha hp
        exact Reg.Op1.guarded rfl rfl e12 (fun h => by cases h) (fun _ => hK _ _ rfl (fun j k _ _ => Reg.Adds.refl _ _ _))
      · intro val ac u hR hp ha K hK      -- 15: t20 := Op.indexAddr 31 t19 t18
        obtain ⟨w12, h12, r12⟩ := hp 7 (by decide)
        have e12 : (ac.tmps[12]?).getD undef = .bool false := (ha 12 (by decide)).trans h12
        clear h12
        clear ha hp
        exact Reg.Op1.guarded rfl rfl e12 (fun h => by cases h) (fun _ => hK _ _ rfl (fun j k _ _ => Reg.Adds.refl _ _ _))
      · intro val ac u hR hp ha K hK      -- 16: t21 := Op.load 3 t20
        obtain ⟨w12, h12, r12⟩ := hp 7 (by decide)
        have e12 : (ac.tmps[12]?).getD undef = .bool false := (ha 12 (by decide)).trans h12
        clear h12
        clear ha hp
        exact Reg.Op1.guarded rfl rfl e12 (fun h => by cases h) (fun _ => hK _ _ rfl (fun j k _ _ => Reg.Adds.refl _ _ _))
      · intro val ac u hR hp ha K hK      -- 17: t22 := Op.binOp BinOp.leq 3 t14 t21 3
        obtain ⟨w12, h12, r12⟩ := hp 7 (by decide)
        have e12 : (ac.tmps[12]?).getD undef = .bool false := (ha 12 (by decide)).trans h12
        clear h12
        clear ha hp
        exact Reg.Op1.guarded rfl rfl e12 (fun h => by cases h) (fun _ => hK _ _ rfl (fun j k _ _ => Reg.Adds.refl _ _ _))
      · intro val ac u hR hp ha K hK      -- 18: t23 := Op.pick t12 t22 (const (Value.bool false))
        obtain ⟨w12, h12, r12⟩ := hp 7 (by decide)
        have e12 : (ac.tmps[12]?).getD undef = .bool false := (ha 12 (by decide)).trans h12
        clear h12
        obtain ⟨w22, h22, r22⟩ := hp 17 (by decide)
        have e22 : (ac.tmps[22]?).getD undef = undef := (ha 22 (by decide)).trans h22
        clear h22
        clear ha hp
        refine Reg.Op1.plain rfl ?_
        go_wp2
        exact ⟨rfl, hK _ _ rfl (fun j k _ _ => Reg.Adds.refl _ _ _)⟩
      · intro val ac u hR hp ha K hK      -- 19: t4 := Op.assign t23
        obtain ⟨w23, h23, r23⟩ := hp 18 (by decide)
        have e23 : (ac.tmps[23]?).getD undef = .bool false := (ha 23 (by decide)).trans h23
        clear h23
        clear ha hp
        refine Reg.Op1.plain rfl ?_
        go_wp2
        exact ⟨rfl, hK _ _ rfl (fun j k _ _ => Reg.Adds.refl _ _ _)⟩
    · intro val u hR H
      obtain ⟨_, hv, _⟩ := H 19 (by decide)
      have hv : val 19 = .bool false := hv
      have HKu : Hid (Below w2.heap.size w2 u) := (Below.refl _ w2).drew.trans hR
      simp only [List.map_cons, List.map_nil, Reg.lay, Act.put, List.setIfInBounds_toArray, List.set_cons_succ, List.set_cons_zero, Nat.reduceAdd, hv]
      clear hR H hv
      go_wp2
      go_ret
      exact ⟨by first | rfl | (rw [hh]; rfl), H2.out.b.trans (HKu.out.mono H2.out.b.size)⟩
  · obtain ⟨hd3, hd4, hr0, hr3⟩ := chain_nat hch
    obtain ⟨d, rfl⟩ : ∃ d : Nat, dc = (d : Int) := ⟨dc.toNat, by omega⟩
    obtain ⟨r, rfl⟩ : ∃ r : Nat, rng = (r : Int) := ⟨rng.toNat, by omega⟩
    have hd : d < 3 := by omega
    have hr : r < 3 := by omega
    have HVC : Hid (w2.cell? ⟨w.heap.size, d * 3 + r, none⟩ = some (.int .i64 (vv.get d r))) := H2.out.X.cell (vc_cellR vv hd hr)
    obtain ⟨gx, hgx⟩ : ∃ z, vv.get d r = z := ⟨_, rfl⟩
    rw [hgx] at HVC
    have HCH := Lib.hid hch
    have HXL := Lib.hid H2.out.X.lt
    clear hd3 hd4 hr0 hr3
    by_cases h1 : 1 ≤ q
    · have d1 : decide (1 ≤ q) = true := by simpa using h1
      obtain ⟨z, hz⟩ : ∃ z, decide (q ≤ gx) = z := ⟨_, rfl⟩
      have hh : Vec.hasD vv ⟨d, r, q⟩ = z := by
        unfold Vec.hasD
        show (Vec.chain d r && (decide (1 ≤ q) && decide (q ≤ vv.get d r))) = z
        rw [d1, hgx, hz, hch]; rfl
      clear hch
      refine Reg.wp_region_rel (by kernel_rfl) 24 20 rfl rfl (by kernel_rfl) (Reg.Adds) (Reg.Adds.refl) (Reg.Adds.trans)
        (fun i v u => match i with
          | 0 => v = .agg (dtCells ⟨(d:Int), (r:Int), q⟩).toArray
          | 1 => v = .bool true
          | 2 => v = .bool true
          | 3 => v = .pointer (some ⟨w.heap.size + 1, 2, none⟩)
          | 4 => v = .int .i64 q
          | 5 => v = .bool true
          | 6 => v = .bool true
          | 7 => v = .bool true
          | 8 => v = .pointer (some ⟨w.heap.size + 1, 2, none⟩)
          | 9 => v = .int .i64 q
          | 10 => v = .pointer (some ⟨w.heap.size + 1, 0, none⟩)
          | 11 => v = .int .i64 (d:Int)
          | 12 => v = .pointer (some ⟨w.heap.size + 1, 1, none⟩)
          | 13 => v = .int .i64 (r:Int)
          | 14 => v = .pointer (some ⟨w.heap.size, d*3, none⟩)
          | 15 => v = .pointer (some ⟨w.heap.size, d*3+r, none⟩)
          | 16 => v = .int .i64 gx
          | 17 => v = .bool z
          | 18 => v = .bool z
          | 19 => v = .bool z
          | _ => True) ?_ ?_
      · refine Reg.Steps.cons ?_ (Reg.Steps.cons ?_ (Reg.Steps.cons ?_ (Reg.Steps.cons ?_ (Reg.Steps.cons ?_ (Reg.Steps.cons ?_ (Reg.Steps.cons ?_ (Reg.Steps.cons ?_ (Reg.Steps.cons ?_ (Reg.Steps.cons ?_ (Reg.Steps.cons ?_ (Reg.Steps.cons ?_ (Reg.Steps.cons ?_ (Reg.Steps.cons ?_ (Reg.Steps.cons ?_ (Reg.Steps.cons ?_ (Reg.Steps.cons ?_ (Reg.Steps.cons ?_ (Reg.Steps.cons ?_ (Reg.Steps.cons ?_ (Reg.Steps.nil _))))))))))))))))))))
        · intro val ac u hR hp ha K hK      -- 0: t5 := Op.load 28 t3
          have e3 : (ac.tmps[3]?).getD undef = .pointer (some ⟨w.heap.size + 1, 0, none⟩) := ha 3 (by decide)
          clear ha hp
          refine Reg.Op1.plain rfl ?_
          have hDu := H2.out.D.below (w := w2.drew) hR H2.out.D.lt
          refine Mem.load_agg _ _ dot_agg (w.heap.size + 1) 0 (dtCells ⟨(d:Int), (r:Int), q⟩) (Reg.eval_of e3) (dtCells_length _) (fun j u' hu => by rw [Nat.zero_add]; exact hDu.cell hu) ?_
          exact ⟨rfl, hK _ _ rfl (fun j k _ _ => Reg.Adds.refl _ _ _)⟩
        · intro val ac u hR hp ha K hK      -- 1: t6 := Op.call { value (Operand.func 42), args := #[t5], argTypes := #[28] }
          obtain ⟨w5, h5, r5⟩ := hp 0 (by decide)
          have e5 : (ac.tmps[5]?).getD undef = .agg (dtCells ⟨(d:Int), (r:Int), q⟩).toArray := (ha 5 (by decide)).trans h5
          clear h5
          clear ha hp
          refine Reg.Op1.plain rfl ?_
          go_wp2_with fail
          refine (refChain_any ⟨(d:Int), (r:Int), q⟩ u).mono ?_
          rintro x w' ⟨rfl, hbw⟩
          rw [HCH.out]
          go_wp2_with fail
          exact ⟨rfl, hK _ _ rfl (fun j k _ _ => hbw)⟩
        · intro val ac u hR hp ha K hK      -- 2: t7 := Op.move t6
          obtain ⟨w6, h6, r6⟩ := hp 1 (by decide)
          have e6 : (ac.tmps[6]?).getD undef = .bool true := (ha 6 (by decide)).trans h6
          clear h6
          clear ha hp
          refine Reg.Op1.plain rfl ?_
          go_wp2
          exact ⟨rfl, hK _ _ rfl (fun j k _ _ => Reg.Adds.refl _ _ _)⟩
        · intro val ac u hR hp ha K hK      -- 3: t8 := Op.fieldAddr 28 t3 2
          have e3 : (ac.tmps[3]?).getD undef = .pointer (some ⟨w.heap.size + 1, 0, none⟩) := ha 3 (by decide)
          obtain ⟨w7, h7, r7⟩ := hp 2 (by decide)
          have e7 : (ac.tmps[7]?).getD undef = .bool true := (ha 7 (by decide)).trans h7
          clear h7
          clear ha hp
          refine Reg.Op1.guarded rfl rfl e7 (fun _ => Reg.Op1.plain rfl ?_) (fun h => absurd rfl h)
          go_wp2
          exact ⟨rfl, hK _ _ rfl (fun j k _ _ => Reg.Adds.refl _ _ _)⟩
        · intro val ac u hR hp ha K hK      -- 4: t9 := Op.load 3 t8
          obtain ⟨w8, h8, r8⟩ := hp 3 (by decide)
          have e8 : (ac.tmps[8]?).getD undef = .pointer (some ⟨w.heap.size + 1, 2, none⟩) := (ha 8 (by decide)).trans h8
          clear h8
          obtain ⟨w7, h7, r7⟩ := hp 2 (by decide)
          have e7 : (ac.tmps[7]?).getD undef = .bool true := (ha 7 (by decide)).trans h7
          clear h7
          clear ha hp
          refine Reg.Op1.guarded rfl rfl e7 (fun _ => Reg.Op1.plain rfl ?_) (fun h => absurd rfl h)
          have x2 := (H2.out.D.below (w := w2.drew) hR H2.out.D.lt).cell (j := 2) rfl
          go_wp2
          exact ⟨rfl, hK _ _ rfl (fun j k _ _ => Reg.Adds.refl _ _ _)⟩
        · intro val ac u hR hp ha K hK      -- 5: t10 := Op.binOp BinOp.geq 3 t9 (const (1:i64)) 3
          obtain ⟨w9, h9, r9⟩ := hp 4 (by decide)
          have e9 : (ac.tmps[9]?).getD undef = .int .i64 q := (ha 9 (by decide)).trans h9
          clear h9
          obtain ⟨w7, h7, r7⟩ := hp 2 (by decide)
          have e7 : (ac.tmps[7]?).getD undef = .bool true := (ha 7 (by decide)).trans h7
          clear h7
          clear ha hp
          refine Reg.Op1.guarded rfl rfl e7 (fun _ => Reg.Op1.plain rfl ?_) (fun h => absurd rfl h)
          go_wp2
          exact ⟨rfl, hK _ _ rfl (fun j k _ _ => Reg.Adds.refl _ _ _)⟩
        · intro val ac u hR hp ha K hK      -- 6: t11 := Op.pick t7 t10 (const (Value.bool false))
          obtain ⟨w7, h7, r7⟩ := hp 2 (by decide)
          have e7 : (ac.tmps[7]?).getD undef = .bool true := (ha 7 (by decide)).trans h7
          clear h7
          obtain ⟨w10, h10, r10⟩ := hp 5 (by decide)
          have e10 : (ac.tmps[10]?).getD undef = .bool true := (ha 10 (by decide)).trans h10
          clear h10
          clear ha hp
          refine Reg.Op1.plain rfl ?_
          go_wp2
          exact ⟨rfl, hK _ _ rfl (fun j k _ _ => Reg.Adds.refl _ _ _)⟩
        · intro val ac u hR hp ha K hK      -- 7: t12 := Op.move t11
          obtain ⟨w11, h11, r11⟩ := hp 6 (by decide)
          have e11 : (ac.tmps[11]?).getD undef = .bool true := (ha 11 (by decide)).trans h11
          clear h11
          clear ha hp
          refine Reg.Op1.plain rfl ?_
          go_wp2
          exact ⟨rfl, hK _ _ rfl (fun j k _ _ => Reg.Adds.refl _ _ _)⟩
        · intro val ac u hR hp ha K hK      -- 8: t13 := Op.fieldAddr 28 t3 2
          have e3 : (ac.tmps[3]?).getD undef = .pointer (some ⟨w.heap.size + 1, 0, none⟩) := ha 3 (by decide)
          obtain ⟨w12, h12, r12⟩ := hp 7 (by decide)
          have e12 : (ac.tmps[12]?).getD undef = .bool true := (ha 12 (by decide)).trans h12
          clear h12
          clear ha hp
          refine Reg.Op1.guarded rfl rfl e12 (fun _ => Reg.Op1.plain rfl ?_) (fun h => absurd rfl h)
          go_wp2
          exact ⟨rfl, hK _ _ rfl (fun j k _ _ => Reg.Adds.refl _ _ _)⟩
        · intro val ac u hR hp ha K hK      -- 9: t14 := Op.load 3 t13
          obtain ⟨w13, h13, r13⟩ := hp 8 (by decide)
          have e13 : (ac.tmps[13]?).getD undef = .pointer (some ⟨w.heap.size + 1, 2, none⟩) := (ha 13 (by decide)).trans h13
          clear h13
          obtain ⟨w12, h12, r12⟩ := hp 7 (by decide)
          have e12 : (ac.tmps[12]?).getD undef = .bool true := (ha 12 (by decide)).trans h12
          clear h12
          clear ha hp
          refine Reg.Op1.guarded rfl rfl e12 (fun _ => Reg.Op1.plain rfl ?_) (fun h => absurd rfl h)
          have x2 := (H2.out.D.below (w := w2.drew) hR H2.out.D.lt).cell (j := 2) rfl
          go_wp2
          exact ⟨rfl, hK _ _ rfl (fun j k _ _ => Reg.Adds.refl _ _ _)⟩
        · intro val ac u hR hp ha K hK      -- 10: t15 := Op.fieldAddr 28 t3 0
          have e3 : (ac.tmps[3]?).getD undef = .pointer (some ⟨w.heap.size + 1, 0, none⟩) := ha 3 (by decide)
          obtain ⟨w12, h12, r12⟩ := hp 7 (by decide)
          have e12 : (ac.tmps[12]?).getD undef = .bool true := (ha 12 (by decide)).trans h12
          clear h12
          clear ha hp
          refine Reg.Op1.guarded rfl rfl e12 (fun _ => Reg.Op1.plain rfl ?_) (fun h => absurd rfl h)
          go_wp2
          exact ⟨rfl, hK _ _ rfl (fun j k _ _ => Reg.Adds.refl _ _ _)⟩
        · intro val ac u hR hp ha K hK      -- 11: t16 := Op.load 3 t15
          obtain ⟨w15, h15, r15⟩ := hp 10 (by decide)
          have e15 : (ac.tmps[15]?).getD undef = .pointer (some ⟨w.heap.size + 1, 0, none⟩) := (ha 15 (by decide)).trans h15
          clear h15
          obtain ⟨w12, h12, r12⟩ := hp 7 (by decide)
          have e12 : (ac.tmps[12]?).getD undef = .bool true := (ha 12 (by decide)).trans h12
          clear h12
          clear ha hp
          refine Reg.Op1.guarded rfl rfl e12 (fun _ => Reg.Op1.plain rfl ?_) (fun h => absurd rfl h)
          have x0 := (H2.out.D.below (w := w2.drew) hR H2.out.D.lt).cell (j := 0) rfl
          go_wp2
          exact ⟨rfl, hK _ _ rfl (fun j k _ _ => Reg.Adds.refl _ _ _)⟩
        · intro val ac u hR hp ha K hK      -- 12: t17 := Op.fieldAddr 28 t3 1
          have e3 : (ac.tmps[3]?).getD undef = .pointer (some ⟨w.heap.size + 1, 0, none⟩) := ha 3 (by decide)
          obtain ⟨w12, h12, r12⟩ := hp 7 (by decide)
          have e12 : (ac.tmps[12]?).getD undef = .bool true := (ha 12 (by decide)).trans h12
          clear h12
          clear ha hp
          refine Reg.Op1.guarded rfl rfl e12 (fun _ => Reg.Op1.plain rfl ?_) (fun h => absurd rfl h)
          go_wp2
          exact ⟨rfl, hK _ _ rfl (fun j k _ _ => Reg.Adds.refl _ _ _)⟩
        · intro val ac u hR hp ha K hK      -- 13: t18 := Op.load 3 t17
          obtain ⟨w17, h17, r17⟩ := hp 12 (by decide)
          have e17 : (ac.tmps[17]?).getD undef = .pointer (some ⟨w.heap.size + 1, 1, none⟩) := (ha 17 (by decide)).trans h17
          clear h17
          obtain ⟨w12, h12, r12⟩ := hp 7 (by decide)
          have e12 : (ac.tmps[12]?).getD undef = .bool true := (ha 12 (by decide)).trans h12
          clear h12
          clear ha hp
          refine Reg.Op1.guarded rfl rfl e12 (fun _ => Reg.Op1.plain rfl ?_) (fun h => absurd rfl h)
          have x1 := (H2.out.D.below (w := w2.drew) hR H2.out.D.lt).cell (j := 1) rfl
          go_wp2
          exact ⟨rfl, hK _ _ rfl (fun j k _ _ => Reg.Adds.refl _ _ _)⟩
        · intro val ac u hR hp ha K hK      -- 14: t19 := Op.indexAddr 33 t2 t16
          have e2 : (ac.tmps[2]?).getD undef = .pointer (some ⟨w.heap.size, 0, none⟩) := ha 2 (by decide)
          obtain ⟨w16, h16, r16⟩ := hp 11 (by decide)
          have e16 : (ac.tmps[16]?).getD undef = .int .i64 (d:Int) := (ha 16 (by decide)).trans h16
          clear h16
          obtain ⟨w12, h12, r12⟩ := hp 7 (by decide)
          have e12 : (ac.tmps[12]?).getD undef = .bool true := (ha 12 (by decide)).trans h12
          clear h12
          clear ha hp
          refine Reg.Op1.guarded rfl rfl e12 (fun _ => Reg.Op1.plain rfl ?_) (fun h => absurd rfl h)
          go_wp2
          exact ⟨rfl, hK _ _ rfl (fun j k _ _ => Reg.Adds.refl _ _ _)⟩
        · intro val ac u hR hp ha K hK      -- 15: t20 := Op.indexAddr 31 t19 t18
          obtain ⟨w19, h19, r19⟩ := hp 14 (by decide)
          have e19 : (ac.tmps[19]?).getD undef = .pointer (some ⟨w.heap.size, d*3, none⟩) := (ha 19 (by decide)).trans h19
          clear h19
          obtain ⟨w18, h18, r18⟩ := hp 13 (by decide)
          have e18 : (ac.tmps[18]?).getD undef = .int .i64 (r:Int) := (ha 18 (by decide)).trans h18
          clear h18
          obtain ⟨w12, h12, r12⟩ := hp 7 (by decide)
          have e12 : (ac.tmps[12]?).getD undef = .bool true := (ha 12 (by decide)).trans h12
          clear h12
          clear ha hp
          refine Reg.Op1.guarded rfl rfl e12 (fun _ => Reg.Op1.plain rfl ?_) (fun h => absurd rfl h)
          go_wp2
          exact ⟨rfl, hK _ _ rfl (fun j k _ _ => Reg.Adds.refl _ _ _)⟩
        · intro val ac u hR hp ha K hK      -- 16: t21 := Op.load 3 t20
          obtain ⟨w20, h20, r20⟩ := hp 15 (by decide)
          have e20 : (ac.tmps[20]?).getD undef = .pointer (some ⟨w.heap.size, d*3+r, none⟩) := (ha 20 (by decide)).trans h20
          clear h20
          obtain ⟨w12, h12, r12⟩ := hp 7 (by decide)
          have e12 : (ac.tmps[12]?).getD undef = .bool true := (ha 12 (by decide)).trans h12
          clear h12
          clear ha hp
          refine Reg.Op1.guarded rfl rfl e12 (fun _ => Reg.Op1.plain rfl ?_) (fun h => absurd rfl h)
          have y0 := (hR.cell (p := ⟨w.heap.size, d*3+r, none⟩) HXL.out).trans HVC.out
          go_wp2
          exact ⟨rfl, hK _ _ rfl (fun j k _ _ => Reg.Adds.refl _ _ _)⟩
        · intro val ac u hR hp ha K hK      -- 17: t22 := Op.binOp BinOp.leq 3 t14 t21 3
          obtain ⟨w14, h14, r14⟩ := hp 9 (by decide)
          have e14 : (ac.tmps[14]?).getD undef = .int .i64 q := (ha 14 (by decide)).trans h14
          clear h14
          obtain ⟨w21, h21, r21⟩ := hp 16 (by decide)
          have e21 : (ac.tmps[21]?).getD undef = .int .i64 gx := (ha 21 (by decide)).trans h21
          clear h21
          obtain ⟨w12, h12, r12⟩ := hp 7 (by decide)
          have e12 : (ac.tmps[12]?).getD undef = .bool true := (ha 12 (by decide)).trans h12
          clear h12
          clear ha hp
          refine Reg.Op1.guarded rfl rfl e12 (fun _ => Reg.Op1.plain rfl ?_) (fun h => absurd rfl h)
          go_wp2
          exact ⟨rfl, hK _ _ rfl (fun j k _ _ => Reg.Adds.refl _ _ _)⟩
        · intro val ac u hR hp ha K hK      -- 18: t23 := Op.pick t12 t22 (const (Value.bool false))
          obtain ⟨w12, h12, r12⟩ := hp 7 (by decide)
          have e12 : (ac.tmps[12]?).getD undef = .bool true := (ha 12 (by decide)).trans h12
          clear h12
          obtain ⟨w22, h22, r22⟩ := hp 17 (by decide)
          have e22 : (ac.tmps[22]?).getD undef = .bool z := (ha 22 (by decide)).trans h22
          clear h22
          clear ha hp
          refine Reg.Op1.plain rfl ?_
          go_wp2
          exact ⟨rfl, hK _ _ rfl (fun j k _ _ => Reg.Adds.refl _ _ _)⟩
        · intro val ac u hR hp ha K hK      -- 19: t4 := Op.assign t23
          obtain ⟨w23, h23, r23⟩ := hp 18 (by decide)
          have e23 : (ac.tmps[23]?).getD undef = .bool z := (ha 23 (by decide)).trans h23
          clear h23
          clear ha hp
          refine Reg.Op1.plain rfl ?_
          go_wp2
          exact ⟨rfl, hK _ _ rfl (fun j k _ _ => Reg.Adds.refl _ _ _)⟩
      · intro val u hR H
        obtain ⟨_, hv, _⟩ := H 19 (by decide)
        have hv : val 19 = .bool z := hv
        have HKu : Hid (Below w2.heap.size w2 u) := (Below.refl _ w2).drew.trans hR
        simp only [List.map_cons, List.map_nil, Reg.lay, Act.put, List.setIfInBounds_toArray, List.set_cons_succ, List.set_cons_zero, Nat.reduceAdd, hv]
        clear hR H hv
        go_wp2
        go_ret
        exact ⟨by first | rfl | (rw [hh]; rfl), H2.out.b.trans (HKu.out.mono H2.out.b.size)⟩
    · have d1 : decide (1 ≤ q) = false := by simpa using h1
      have hh : Vec.hasD vv ⟨d, r, q⟩ = false := by unfold Vec.hasD; simp only [Bool.and_eq_false_iff]; exact .inr (.inl d1)
      clear hch
      refine Reg.wp_region_rel (by kernel_rfl) 24 20 rfl rfl (by kernel_rfl) (Reg.Adds) (Reg.Adds.refl) (Reg.Adds.trans)
        (fun i v u => match i with
          | 0 => v = .agg (dtCells ⟨(d:Int), (r:Int), q⟩).toArray
          | 1 => v = .bool true
          | 2 => v = .bool true
          | 3 => v = .pointer (some ⟨w.heap.size + 1, 2, none⟩)
          | 4 => v = .int .i64 q
          | 5 => v = .bool false
          | 6 => v = .bool false
          | 7 => v = .bool false
          | 8 => v = undef
          | 9 => v = undef
          | 10 => v = undef
          | 11 => v = undef
          | 12 => v = undef
          | 13 => v = undef
          | 14 => v = undef
          | 15 => v = undef
          | 16 => v = undef
          | 17 => v = undef
          | 18 => v = .bool false
          | 19 => v = .bool false
          | _ => True) ?_ ?_
      · refine Reg.Steps.cons ?_ (Reg.Steps.cons ?_ (Reg.Steps.cons ?_ (Reg.Steps.cons ?_ (Reg.Steps.cons ?_ (Reg.Steps.cons ?_ (Reg.Steps.cons ?_ (Reg.Steps.cons ?_ (Reg.Steps.cons ?_ (Reg.Steps.cons ?_ (Reg.Steps.cons ?_ (Reg.Steps.cons ?_ (Reg.Steps.cons ?_ (Reg.Steps.cons ?_ (Reg.Steps.cons ?_ (Reg.Steps.cons ?_ (Reg.Steps.cons ?_ (Reg.Steps.cons ?_ (Reg.Steps.cons ?_ (Reg.Steps.cons ?_ (Reg.Steps.nil _))))))))))))))))))))
        · intro val ac u hR hp ha K hK      -- 0: t5 := Op.load 28 t3
          have e3 : (ac.tmps[3]?).getD undef = .pointer (some ⟨w.heap.size + 1, 0, none⟩) := ha 3 (by decide)
          clear ha hp
          refine Reg.Op1.plain rfl ?_
          have hDu := H2.out.D.below (w := w2.drew) hR H2.out.D.lt
          refine Mem.load_agg _ _ dot_agg (w.heap.size + 1) 0 (dtCells ⟨(d:Int), (r:Int), q⟩) (Reg.eval_of e3) (dtCells_length _) (fun j u' hu => by rw [Nat.zero_add]; exact hDu.cell hu) ?_
          exact ⟨rfl, hK _ _ rfl (fun j k _ _ => Reg.Adds.refl _ _ _)⟩
        · intro val ac u hR hp ha K hK      -- 1: t6 := Op.call { value (Operand.func 42), args := #[t5], argTypes := #[28] }
          obtain ⟨w5, h5, r5⟩ := hp 0 (by decide)
          have e5 : (ac.tmps[5]?).getD undef = .agg (dtCells ⟨(d:Int), (r:Int), q⟩).toArray := (ha 5 (by decide)).trans h5
          clear h5
          clear ha hp
          refine Reg.Op1.plain rfl ?_
          go_wp2_with fail
          refine (refChain_any ⟨(d:Int), (r:Int), q⟩ u).mono ?_
          rintro x w' ⟨rfl, hbw⟩
          rw [HCH.out]
          go_wp2_with fail
          exact ⟨rfl, hK _ _ rfl (fun j k _ _ => hbw)⟩
        · intro val ac u hR hp ha K hK      -- 2: t7 := Op.move t6
          obtain ⟨w6, h6, r6⟩ := hp 1 (by decide)
          have e6 : (ac.tmps[6]?).getD undef = .bool true := (ha 6 (by decide)).trans h6
          clear h6
          clear ha hp
          refine Reg.Op1.plain rfl ?_
          go_wp2
          exact ⟨rfl, hK _ _ rfl (fun j k _ _ => Reg.Adds.refl _ _ _)⟩
        · intro val ac u hR hp ha K hK      -- 3: t8 := Op.fieldAddr 28 t3 2
          have e3 : (ac.tmps[3]?).getD undef = .pointer (some ⟨w.heap.size + 1, 0, none⟩) := ha 3 (by decide)
          obtain ⟨w7, h7, r7⟩ := hp 2 (by decide)
          have e7 : (ac.tmps[7]?).getD undef = .bool true := (ha 7 (by decide)).trans h7
          clear h7
          clear ha hp
          refine Reg.Op1.guarded rfl rfl e7 (fun _ => Reg.Op1.plain rfl ?_) (fun h => absurd rfl h)
          go_wp2
          exact ⟨rfl, hK _ _ rfl (fun j k _ _ => Reg.Adds.refl _ _ _)⟩
        · intro val ac u hR hp ha K hK      -- 4: t9 := Op.load 3 t8
          obtain ⟨w8, h8, r8⟩ := hp 3 (by decide)
          have e8 : (ac.tmps[8]?).getD undef = .pointer (some ⟨w.heap.size + 1, 2, none⟩) := (ha 8 (by decide)).trans h8
          clear h8
          obtain ⟨w7, h7, r7⟩ := hp 2 (by decide)
          have e7 : (ac.tmps[7]?).getD undef = .bool true := (ha 7 (by decide)).trans h7
          clear h7
          clear ha hp
          refine Reg.Op1.guarded rfl rfl e7 (fun _ => Reg.Op1.plain rfl ?_) (fun h => absurd rfl h)
          have x2 := (H2.out.D.below (w := w2.drew) hR H2.out.D.lt).cell (j := 2) rfl
          go_wp2
          exact ⟨rfl, hK _ _ rfl (fun j k _ _ => Reg.Adds.refl _ _ _)⟩
        · intro val ac u hR hp ha K hK      -- 5: t10 := Op.binOp BinOp.geq 3 t9 (const (1:i64)) 3
          obtain ⟨w9, h9, r9⟩ := hp 4 (by decide)
          have e9 : (ac.tmps[9]?).getD undef = .int .i64 q := (ha 9 (by decide)).trans h9
          clear h9
          obtain ⟨w7, h7, r7⟩ := hp 2 (by decide)
          have e7 : (ac.tmps[7]?).getD undef = .bool true := (ha 7 (by decide)).trans h7
          clear h7
          clear ha hp
          refine Reg.Op1.guarded rfl rfl e7 (fun _ => Reg.Op1.plain rfl ?_) (fun h => absurd rfl h)
          go_wp2
          exact ⟨rfl, hK _ _ rfl (fun j k _ _ => Reg.Adds.refl _ _ _)⟩
        · intro val ac u hR hp ha K hK      -- 6: t11 := Op.pick t7 t10 (const (Value.bool false))
          obtain ⟨w7, h7, r7⟩ := hp 2 (by decide)
          have e7 : (ac.tmps[7]?).getD undef = .bool true := (ha 7 (by decide)).trans h7
          clear h7
          obtain ⟨w10, h10, r10⟩ := hp 5 (by decide)
          have e10 : (ac.tmps[10]?).getD undef = .bool false := (ha 10 (by decide)).trans h10
          clear h10
          clear ha hp
          refine Reg.Op1.plain rfl ?_
          go_wp2
          exact ⟨rfl, hK _ _ rfl (fun j k _ _ => Reg.Adds.refl _ _ _)⟩
        · intro val ac u hR hp ha K hK      -- 7: t12 := Op.move t11
          obtain ⟨w11, h11, r11⟩ := hp 6 (by decide)
          have e11 : (ac.tmps[11]?).getD undef = .bool false := (ha 11 (by decide)).trans h11
          clear h11
          clear ha hp
          refine Reg.Op1.plain rfl ?_
          go_wp2
          exact ⟨rfl, hK _ _ rfl (fun j k _ _ => Reg.Adds.refl _ _ _)⟩
        · intro val ac u hR hp ha K hK      -- 8: t13 := Op.fieldAddr 28 t3 2
          obtain ⟨w12, h12, r12⟩ := hp 7 (by decide)
          have e12 : (ac.tmps[12]?).getD undef = .bool false := (ha 12 (by decide)).trans h12
          clear h12
          clear ha hp
          exact Reg.Op1.guarded rfl rfl e12 (fun h => by cases h) (fun _ => hK _ _ rfl (fun j k _ _ => Reg.Adds.refl _ _ _))
        · intro val ac u hR hp ha K hK      -- 9: t14 := Op.load 3 t13
          obtain ⟨w12, h12, r12⟩ := hp 7 (by decide)
          have e12 : (ac.tmps[12]?).getD undef = .bool false := (ha 12 (by decide)).trans h12
          clear h12
          clear ha hp
          exact Reg.Op1.guarded rfl rfl e12 (fun h => by cases h) (fun _ => hK _ _ rfl (fun j k _ _ => Reg.Adds.refl _ _ _))
        · intro val ac u hR hp ha K hK      -- 10: t15 := Op.fieldAddr 28 t3 0
          obtain ⟨w12, h12, r12⟩ := hp 7 (by decide)
          have e12 : (ac.tmps[12]?).getD undef = .bool false := (ha 12 (by decide)).trans h12
          clear h12
          clear ha hp
          exact Reg.Op1.guarded rfl rfl e12 (fun h => by cases h) (fun _ => hK _ _ rfl (fun j k _ _ => Reg.Adds.refl _ _ _))
        · intro val ac u hR hp ha K hK      -- 11: t16 := Op.load 3 t15
          obtain ⟨w12, h12, r12⟩ := hp 7 (by decide)
          have e12 : (ac.tmps[12]?).getD undef = .bool false := (ha 12 (by decide)).trans h12
          clear h12
          clear ha hp
          exact Reg.Op1.guarded rfl rfl e12 (fun h => by cases h) (fun _ => hK _ _ rfl (fun j k _ _ => Reg.Adds.refl _ _ _))
        · intro val ac u hR hp ha K hK      -- 12: t17 := Op.fieldAddr 28 t3 1
          obtain ⟨w12, h12, r12⟩ := hp 7 (by decide)
          have e12 : (ac.tmps[12]?).getD undef = .bool false := (ha 12 (by decide)).trans h12
          clear h12
          clear ha hp
          exact Reg.Op1.guarded rfl rfl e12 (fun h => by cases h) (fun _ => hK _ _ rfl (fun j k _ _ => Reg.Adds.refl _ _ _))
        · intro val ac u hR hp ha K hK      -- 13: t18 := Op.load 3 t17
          obtain ⟨w12, h12, r12⟩ := hp 7 (by decide)
          have e12 : (ac.tmps[12]?).getD undef = .bool false := (ha 12 (by decide)).trans h12
          clear h12
          clear ha hp
          exact Reg.Op1.guarded rfl rfl e12 (fun h => by cases h) (fun _ => hK _ _ rfl (fun j k _ _ => Reg.Adds.refl _ _ _))
        · intro val ac u hR hp ha K hK      -- 14: t19 := Op.indexAddr 33 t2 t16
          obtain ⟨w12, h12, r12⟩ := hp 7 (by decide)
          have e12 : (ac.tmps[12]?).getD undef = .bool false := (ha 12 (by decide)).trans h12
          clear h12
          clear ha hp
          exact Reg.Op1.guarded rfl rfl e12 (fun h => by cases h) (fun _ => hK _ _ rfl (fun j k _ _ => Reg.Adds.refl _ _ _))
        · intro val ac u hR hp ha K hK      -- 15: t20 := Op.indexAddr 31 t19 t18
          obtain ⟨w12, h12, r12⟩ := hp 7 (by decide)
          have e12 : (ac.tmps[12]?).getD undef = .bool false := (ha 12 (by decide)).trans h12
          clear h12
          clear ha hp
          exact Reg.Op1.guarded rfl rfl e12 (fun h => by cases h) (fun _ => hK _ _ rfl (fun j k _ _ => Reg.Adds.refl _ _ _))
        · intro val ac u hR hp ha K hK      -- 16: t21 := Op.load 3 t20
          obtain ⟨w12, h12, r12⟩ := hp 7 (by decide)
          have e12 : (ac.tmps[12]?).getD undef = .bool false := (ha 12 (by decide)).trans h12
          clear h12
          clear ha hp
          exact Reg.Op1.guarded rfl rfl e12 (fun h => by cases h) (fun _ => hK _ _ rfl (fun j k _ _ => Reg.Adds.refl _ _ _))
        · intro val ac u hR hp ha K hK      -- 17: t22 := Op.binOp BinOp.leq 3 t14 t21 3
          obtain ⟨w12, h12, r12⟩ := hp 7 (by decide)
          have e12 : (ac.tmps[12]?).getD undef = .bool false := (ha 12 (by decide)).trans h12
          clear h12
          clear ha hp
          exact Reg.Op1.guarded rfl rfl e12 (fun h => by cases h) (fun _ => hK _ _ rfl (fun j k _ _ => Reg.Adds.refl _ _ _))
        · intro val ac u hR hp ha K hK      -- 18: t23 := Op.pick t12 t22 (const (Value.bool false))
          obtain ⟨w12, h12, r12⟩ := hp 7 (by decide)
          have e12 : (ac.tmps[12]?).getD undef = .bool false := (ha 12 (by decide)).trans h12
          clear h12
          obtain ⟨w22, h22, r22⟩ := hp 17 (by decide)
          have e22 : (ac.tmps[22]?).getD undef = undef := (ha 22 (by decide)).trans h22
          clear h22
          clear ha hp
          refine Reg.Op1.plain rfl ?_
          go_wp2
          exact ⟨rfl, hK _ _ rfl (fun j k _ _ => Reg.Adds.refl _ _ _)⟩
        · intro val ac u hR hp ha K hK      -- 19: t4 := Op.assign t23
          obtain ⟨w23, h23, r23⟩ := hp 18 (by decide)
          have e23 : (ac.tmps[23]?).getD undef = .bool false := (ha 23 (by decide)).trans h23
          clear h23
          clear ha hp
          refine Reg.Op1.plain rfl ?_
          go_wp2
          exact ⟨rfl, hK _ _ rfl (fun j k _ _ => Reg.Adds.refl _ _ _)⟩
      · intro val u hR H
        obtain ⟨_, hv, _⟩ := H 19 (by decide)
        have hv : val 19 = .bool false := hv
        have HKu : Hid (Below w2.heap.size w2 u) := (Below.refl _ w2).drew.trans hR
        simp only [List.map_cons, List.map_nil, Reg.lay, Act.put, List.setIfInBounds_toArray, List.set_cons_succ, List.set_cons_zero, Nat.reduceAdd, hv]
        clear hR H hv
        go_wp2
        go_ret
        exact ⟨by first | rfl | (rw [hh]; rfl), H2.out.b.trans (HKu.out.mono H2.out.b.size)⟩
end Go.Proofs.Ytelephoalpphkaa
end
section
/- The document's Greater, Greatest. No conditions but that the list is no great one. -/
set_option maxRecDepth 8000
namespace Go.Proofs.Ytelephoalpphkaa
open Go.ChangeShapes Go.WideShapes Go.ChangeAt Go.RowKit
set_option linter.unusedVariables false
set_option linter.unusedSimpArgs false
theorem stamp_agg : Mem.Agg Try.prog 30 3 := Mem.agg_of Try.underlying30 rfl (by kernel_rfl)
namespace Vec
def gStepR (key : ByteArray) (p : Ent × Bool) (e : Ent) : Ent × Bool := if e.key = key ∧ (p.2 = false ∨ 0 < gtE e p.1) then (e, true) else p
def greatR (key : ByteArray) (es : List Ent) : Ent × Bool := es.foldl (gStepR key) (ent0, false)
theorem greatR_snoc (key : ByteArray) (es : List Ent) (e : Ent) : greatR key (es ++ [e]) = gStepR key (greatR key es) e := by unfold greatR; rw [List.foldl_append]; rfl
/-- what a cut sees is the greatest of what it has -/
theorem visible_great (key : ByteArray) (cut : Vc) (es : List Ent) : greatR key (es.filter fun e => hasD cut (dotE e)) = visible key cut es := by
  have h : ∀ (l : List Ent) (p : Ent × Bool), (l.filter fun e => hasD cut (dotE e)).foldl (gStepR key) p = l.foldl (vStep key cut) p := by
    intro l
    induction l with
    | nil => intro p; rfl
    | cons e l ih =>
      intro p
      rw [List.filter_cons, List.foldl_cons]
      cases hh : hasD cut (dotE e)
      · rw [if_neg (by simp)]
        have : vStep key cut p e = p := by unfold vStep; rw [if_neg (by rw [hh]; simp)]
        rw [this]
        exact ih p
      · rw [if_pos rfl, List.foldl_cons]
        have : vStep key cut p e = gStepR key p e := by
          unfold vStep gStepR
          by_cases hk : e.key = key
          · rw [if_pos ⟨hk, hh⟩]
            by_cases hc : p.2 = false ∨ 0 < gtE e p.1
            · rw [if_pos hc, if_pos ⟨hk, hc⟩]
            · rw [if_neg hc, if_neg (fun h => hc h.2)]
          · rw [if_neg (fun h => hk h.1), if_neg (fun h => hk h.1)]
        rw [this]
        exact ih _
  exact h es (ent0, false)
theorem gtE_pos (a b : Ent) : decide (0 < gtE a b) = (decide (0 < Stamp.cmpS a.st b.st) || ((Stamp.cmpS a.st b.st == 0) && decide (b.seq < a.seq))) := by
  unfold gtE
  obtain ⟨c, hc⟩ : ∃ c, Stamp.cmpS a.st b.st = c := ⟨_, rfl⟩
  rw [hc]
  by_cases h0 : c = 0
  · subst h0
    unfold Stamp.cmpI
    by_cases h1 : a.seq < b.seq
    · have : ¬ b.seq < a.seq := by omega
      simp [Stamp.firstNZ, h1, this]
    · by_cases h2 : b.seq < a.seq
      · simp [Stamp.firstNZ, h1, h2]
      · simp [Stamp.firstNZ, h1, h2]
  · simp [Stamp.firstNZ, h0]
end Vec
open Vec in
set_option maxHeartbeats 4000000 in
theorem refGreater_any (a b : Vec.Ent) (w : World) :
    Calls Try.prog 43 #[.agg (Vec.entCells a).toArray, .agg (Vec.entCells b).toArray] w fun e w' => e = .returned (.bool (decide (0 < Vec.gtE a b))) ∧ Below w.heap.size w w' := by
  rw [gtE_pos]
  have hcm := fun W => refCmp_any a.st b.st W
  obtain ⟨c, hc⟩ : ∃ c, Stamp.cmpS a.st b.st = c := ⟨_, rfl⟩
  rw [hc]
  simp only [hc] at hcm
  have HCM := Lib.hid hcm
  obtain ⟨z, hz0⟩ : ∃ z, (decide (0 < c) || ((c == 0) && decide (b.seq < a.seq))) = z := ⟨_, rfl⟩
  rw [hz0]
  have HZ := Lib.hid hz0
  clear hcm hc hz0
  go_enter Try.func43, Try.ntmps43
  go_upto_region 1 with fail
  have hz : (w.alloc (.cells (entCells a).toArray 35)).heap.size = w.heap.size + 1 := Array.size_push _
  obtain ⟨w2, hw2⟩ : ∃ z, (w.alloc (.cells (entCells a).toArray 35)).alloc (.cells (entCells b).toArray 35) = z := ⟨_, rfl⟩
  have HA2 : Hid (EBx w2 w.heap.size a) := by
    show Mem.Bx _ _ _ _ _
    rw [← hw2]
    exact Mem.Bx.below (Mem.Bx.new w 35 (entCells a).toArray rfl rfl) (Reg.below_new _ _) (by omega)
  have HE2 : Hid (EBx w2 (w.heap.size + 1) b) := by
    show Mem.Bx _ _ _ _ _
    rw [← hw2]
    exact Mem.Bx.new (w.alloc (.cells (entCells a).toArray 35)) 35 (entCells b).toArray rfl hz
  have HB2 : Hid (Below w.heap.size w w2) := by show Below _ _ _; rw [← hw2]; exact (Reg.below_new w _).trans ((Reg.below_new _ _).mono (by omega))
  try rw [hz]
  try rw [hw2]
  clear hw2 hz
  have HLA : Hid (∀ j u, ([.int .i64 a.st.c, .int .i64 a.st.d, .int .i64 a.st.r] : List Value)[j]? = some u → w2.cell? ⟨w.heap.size, 3 + j, none⟩ = some u) := HA2.out.part 3 rfl
  have HLB : Hid (∀ j u, ([.int .i64 b.st.c, .int .i64 b.st.d, .int .i64 b.st.r] : List Value)[j]? = some u → w2.cell? ⟨w.heap.size + 1, 3 + j, none⟩ = some u) := HE2.out.part 3 rfl
  have a2 := HA2.out.cell (j := 2) rfl
  have b2 := HE2.out.cell (j := 2) rfl
  by_cases h1 : 0 < c
  · have d1 : decide (0 < c) = true := by simpa using h1
    obtain rfl : z = true := by rw [← HZ.out, d1]; rfl
    clear h1
    go_wp2_with (first
      | ((with_reducible refine Mem.load_agg _ _ stamp_agg w.heap.size 3 [.int .i64 a.st.c, .int .i64 a.st.d, .int .i64 a.st.r] ?hx rfl HLA.out ?_); case hx => exact rfl)
      | ((with_reducible refine Mem.load_agg _ _ stamp_agg (w.heap.size + 1) 3 [.int .i64 b.st.c, .int .i64 b.st.d, .int .i64 b.st.r] ?hy rfl HLB.out ?_); case hy => exact rfl)
      | (go_at_call 62; (refine (HCM.out w2).mono ?_); rintro x w3 ⟨rfl, hb3⟩; have HB3 := Lib.hid (HB2.out.trans (hb3.mono HB2.out.size)); have x2 := (hb3.cell (p := ⟨w.heap.size, 2, none⟩) HA2.out.lt).trans a2; have y2 := (hb3.cell (p := ⟨w.heap.size + 1, 2, none⟩) HE2.out.lt).trans b2; clear hb3 a2 b2))
    go_ret
    exact ⟨rfl, HB3.out⟩
  · have d1 : decide (0 < c) = false := by simpa using h1
    cases d2 : (c == 0)
    · obtain rfl : z = false := by rw [← HZ.out, d1, d2]; rfl
      clear h1
      go_wp2_with (first
        | ((with_reducible refine Mem.load_agg _ _ stamp_agg w.heap.size 3 [.int .i64 a.st.c, .int .i64 a.st.d, .int .i64 a.st.r] ?hx rfl HLA.out ?_); case hx => exact rfl)
        | ((with_reducible refine Mem.load_agg _ _ stamp_agg (w.heap.size + 1) 3 [.int .i64 b.st.c, .int .i64 b.st.d, .int .i64 b.st.r] ?hy rfl HLB.out ?_); case hy => exact rfl)
        | (go_at_call 62; (refine (HCM.out w2).mono ?_); rintro x w3 ⟨rfl, hb3⟩; have HB3 := Lib.hid (HB2.out.trans (hb3.mono HB2.out.size)); have x2 := (hb3.cell (p := ⟨w.heap.size, 2, none⟩) HA2.out.lt).trans a2; have y2 := (hb3.cell (p := ⟨w.heap.size + 1, 2, none⟩) HE2.out.lt).trans b2; clear hb3 a2 b2))
      go_ret
      exact ⟨rfl, HB3.out⟩
    · obtain rfl : decide (b.seq < a.seq) = z := by rw [← HZ.out, d1, d2]; rfl
      clear h1
      go_wp2_with (first
        | ((with_reducible refine Mem.load_agg _ _ stamp_agg w.heap.size 3 [.int .i64 a.st.c, .int .i64 a.st.d, .int .i64 a.st.r] ?hx rfl HLA.out ?_); case hx => exact rfl)
        | ((with_reducible refine Mem.load_agg _ _ stamp_agg (w.heap.size + 1) 3 [.int .i64 b.st.c, .int .i64 b.st.d, .int .i64 b.st.r] ?hy rfl HLB.out ?_); case hy => exact rfl)
        | (go_at_call 62; (refine (HCM.out w2).mono ?_); rintro x w3 ⟨rfl, hb3⟩; have HB3 := Lib.hid (HB2.out.trans (hb3.mono HB2.out.size)); have x2 := (hb3.cell (p := ⟨w.heap.size, 2, none⟩) HA2.out.lt).trans a2; have y2 := (hb3.cell (p := ⟨w.heap.size + 1, 2, none⟩) HE2.out.lt).trans b2; clear hb3 a2 b2))
      go_ret
      exact ⟨rfl, HB3.out⟩
namespace Vec
structure GsRel (w : World) (key : ByteArray) (es : List Ent) (vf vi : Value) (wr : World) : Prop where
  out : ∃ k : Nat, k ≤ es.length ∧ vf = .bool (greatR key (es.take k)).2 ∧ vi = .int .i64 k ∧ Hid (EBx wr w.heap.size ent0) ∧ Hid (EBx wr (w.heap.size + 1) (greatR key (es.take k)).1) ∧ Hid (Below w.heap.size w wr)
end Vec
open Vec in
set_option maxHeartbeats 8000000 in
theorem refGreatest_any (key : ByteArray) (A : Option Addr) (c : Nat) (es : List Vec.Ent) (B : Nat) (w : World) (hr : Mem.Rd w B A (es.flatMap Vec.entCells)) (hB : B ≤ w.heap.size) (hn : es.length ≤ maxLen) :
    Calls Try.prog 28 #[.string key, .slice A es.length c] w fun e w' => e = .returned (.tuple #[Vec.E (Vec.greatR key es).1, .bool (Vec.greatR key es).2]) ∧ Below w.heap.size w w' := by
  unfold maxLen at hn
  have hm := Lib.hid (hr.more hB)
  clear hr
  go_enter Try.func28, Try.ntmps28
  go_wp2
  go_loopw [7, 8] (GsRel w key es) (fun _ t _ => es.length - (intOf t).toNat)
  case atStart =>
    refine ⟨⟨0, by omega, rfl, rfl, ?_, ?_, ?_⟩⟩
    · exact (EBx.new w ent0 rfl).below (Reg.below_new _ _) (by simp)
    · exact EBx.new (w.alloc _) ent0 (by simp)
    · exact (Reg.below_new _ _).alloc (by simp) _
  case round =>
    obtain ⟨k, hk, rfl, rfl, H0, H1, HB⟩ := hrel.out
    clear hrel
    by_cases hlt : k < es.length
    · obtain ⟨b, o, e, rfl, hb, he, hat⟩ := ent_elem hm.out hlt
      have HAT := Lib.hid (hat.below HB.out hb)
      have hts := Lib.hid (show greatR key (es.take (k + 1)) = gStepR key (greatR key (es.take k)) e by rw [Mem.take_snoc he, greatR_snoc])
      obtain ⟨⟨m, f⟩, hmf⟩ : ∃ mf, greatR key (es.take k) = mf := ⟨_, rfl⟩
      rw [hmf] at H1 hts ⊢
      have hbw := Nat.lt_of_lt_of_le hb HB.out.size
      have d0 : decide ((k : Int) < (es.length : Int)) = true := by simp; omega
      clear hat he hmf
      go_upto_region 6 with fail
      by_cases hkey : e.key = key
      · have HKD : Hid ((e.key.toList == key.toList) = true) := str_eq hkey
        cases f
        case false =>
          have hts : Hid (greatR key (es.take (k + 1)) = (e, true)) := by show _ = _; rw [hts.out, gStepR, if_pos ⟨hkey, .inl rfl⟩]
          have HGT : Hid (decide (0 < gtE e m) = decide (0 < gtE e m)) := rfl
          clear hkey
          refine Reg.wp_region_rel (by kernel_rfl) 40 19 rfl rfl (by kernel_rfl) (Reg.Adds) (Reg.Adds.refl) (Reg.Adds.trans)
            (fun i v u => match i with
              | 0 => v = .slice (some ⟨b, o, none⟩) es.length c
              | 1 => v = .int .i64 k
              | 2 => v = .pointer (some ⟨b, o + k * 20, none⟩)
              | 3 => v = .pointer (some ⟨b, o + k * 20 + 6, none⟩)
              | 4 => v = .string e.key
              | 5 => v = .string key
              | 6 => v = .bool true
              | 7 => v = .bool true
              | 8 => v = .bool false
              | 9 => v = .bool true
              | 10 => v = .bool true
              | 11 => v = undef
              | 12 => v = undef
              | 13 => v = undef
              | 14 => v = undef
              | 15 => v = undef
              | 16 => v = undef
              | 17 => v = .bool true
              | 18 => v = .bool true
              | _ => True) ?_ ?_
          · refine Reg.Steps.cons ?_ (Reg.Steps.cons ?_ (Reg.Steps.cons ?_ (Reg.Steps.cons ?_ (Reg.Steps.cons ?_ (Reg.Steps.cons ?_ (Reg.Steps.cons ?_ (Reg.Steps.cons ?_ (Reg.Steps.cons ?_ (Reg.Steps.cons ?_ (Reg.Steps.cons ?_ (Reg.Steps.cons ?_ (Reg.Steps.cons ?_ (Reg.Steps.cons ?_ (Reg.Steps.cons ?_ (Reg.Steps.cons ?_ (Reg.Steps.cons ?_ (Reg.Steps.cons ?_ (Reg.Steps.cons ?_ (Reg.Steps.nil _)))))))))))))))))))
            · intro val ac u hR hp ha K hK      -- 0: t15 := Op.move t1
              have e1 : (ac.tmps[1]?).getD undef = .slice (some ⟨b, o, none⟩) es.length c := ha 1 (by decide)
              clear ha hp
              refine Reg.Op1.plain rfl ?_
              go_wp2
              exact ⟨rfl, hK _ _ rfl (fun j k _ _ => Reg.Adds.refl _ _ _)⟩
            · intro val ac u hR hp ha K hK      -- 1: t16 := Op.move t8
              have e8 : (ac.tmps[8]?).getD undef = .int .i64 k := ha 8 (by decide)
              clear ha hp
              refine Reg.Op1.plain rfl ?_
              go_wp2
              exact ⟨rfl, hK _ _ rfl (fun j k _ _ => Reg.Adds.refl _ _ _)⟩
            · intro val ac u hR hp ha K hK      -- 2: t17 := Op.indexAddr 23 t15 t16
              obtain ⟨w15, h15, r15⟩ := hp 0 (by decide)
              have e15 : (ac.tmps[15]?).getD undef = .slice (some ⟨b, o, none⟩) es.length c := (ha 15 (by decide)).trans h15
              clear h15
              obtain ⟨w16, h16, r16⟩ := hp 1 (by decide)
              have e16 : (ac.tmps[16]?).getD undef = .int .i64 k := (ha 16 (by decide)).trans h16
              clear h16
              clear ha hp
              refine Reg.Op1.plain rfl ?_
              go_wp2
              exact ⟨rfl, hK _ _ rfl (fun j k _ _ => Reg.Adds.refl _ _ _)⟩
            · intro val ac u hR hp ha K hK      -- 3: t18 := Op.fieldAddr 35 t17 2
              obtain ⟨w17, h17, r17⟩ := hp 2 (by decide)
              have e17 : (ac.tmps[17]?).getD undef = .pointer (some ⟨b, o + k * 20, none⟩) := (ha 17 (by decide)).trans h17
              clear h17
              clear ha hp
              refine Reg.Op1.plain rfl ?_
              go_wp2
              exact ⟨rfl, hK _ _ rfl (fun j k _ _ => Reg.Adds.refl _ _ _)⟩
            · intro val ac u hR hp ha K hK      -- 4: t19 := Op.load 9 t18
              obtain ⟨w18, h18, r18⟩ := hp 3 (by decide)
              have e18 : (ac.tmps[18]?).getD undef = .pointer (some ⟨b, o + k * 20 + 6, none⟩) := (ha 18 (by decide)).trans h18
              clear h18
              clear ha hp
              refine Reg.Op1.plain rfl ?_
              have x6 := (hR.cell (p := ⟨b, o + k * 20 + 6, none⟩) hbw).trans (HAT.out.c 6 _ rfl)
              go_wp2
              exact ⟨rfl, hK _ _ rfl (fun j k _ _ => Reg.Adds.refl _ _ _)⟩
            · intro val ac u hR hp ha K hK      -- 5: t20 := Op.move t0
              have e0 : (ac.tmps[0]?).getD undef = .string key := ha 0 (by decide)
              clear ha hp
              refine Reg.Op1.plain rfl ?_
              go_wp2
              exact ⟨rfl, hK _ _ rfl (fun j k _ _ => Reg.Adds.refl _ _ _)⟩
            · intro val ac u hR hp ha K hK      -- 6: t21 := Op.binOp BinOp.eql 9 t19 t20 9
              obtain ⟨w19, h19, r19⟩ := hp 4 (by decide)
              have e19 : (ac.tmps[19]?).getD undef = .string e.key := (ha 19 (by decide)).trans h19
              clear h19
              obtain ⟨w20, h20, r20⟩ := hp 5 (by decide)
              have e20 : (ac.tmps[20]?).getD undef = .string key := (ha 20 (by decide)).trans h20
              clear h20
              clear ha hp
              have hkd := HKD.out
              refine Reg.Op1.plain rfl ?_
              go_wp2
              exact ⟨rfl, hK _ _ rfl (fun j k _ _ => Reg.Adds.refl _ _ _)⟩
            · intro val ac u hR hp ha K hK      -- 7: t22 := Op.move t21
              obtain ⟨w21, h21, r21⟩ := hp 6 (by decide)
              have e21 : (ac.tmps[21]?).getD undef = .bool true := (ha 21 (by decide)).trans h21
              clear h21
              clear ha hp
              refine Reg.Op1.plain rfl ?_
              go_wp2
              exact ⟨rfl, hK _ _ rfl (fun j k _ _ => Reg.Adds.refl _ _ _)⟩
            · intro val ac u hR hp ha K hK      -- 8: t23 := Op.move t7
              have e7 : (ac.tmps[7]?).getD undef = .bool false := ha 7 (by decide)
              obtain ⟨w22, h22, r22⟩ := hp 7 (by decide)
              have e22 : (ac.tmps[22]?).getD undef = .bool true := (ha 22 (by decide)).trans h22
              clear h22
              clear ha hp
              refine Reg.Op1.guarded rfl rfl e22 (fun _ => Reg.Op1.plain rfl ?_) (fun h => absurd rfl h)
              go_wp2
              exact ⟨rfl, hK _ _ rfl (fun j k _ _ => Reg.Adds.refl _ _ _)⟩
            · intro val ac u hR hp ha K hK      -- 9: t24 := Op.unOp UnOp.not 4 t23
              obtain ⟨w23, h23, r23⟩ := hp 8 (by decide)
              have e23 : (ac.tmps[23]?).getD undef = .bool false := (ha 23 (by decide)).trans h23
              clear h23
              obtain ⟨w22, h22, r22⟩ := hp 7 (by decide)
              have e22 : (ac.tmps[22]?).getD undef = .bool true := (ha 22 (by decide)).trans h22
              clear h22
              clear ha hp
              refine Reg.Op1.guarded rfl rfl e22 (fun _ => Reg.Op1.plain rfl ?_) (fun h => absurd rfl h)
              go_wp2
              exact ⟨rfl, hK _ _ rfl (fun j k _ _ => Reg.Adds.refl _ _ _)⟩
            · intro val ac u hR hp ha K hK      -- 10: t25 := Op.move t24
              obtain ⟨w24, h24, r24⟩ := hp 9 (by decide)
              have e24 : (ac.tmps[24]?).getD undef = .bool true := (ha 24 (by decide)).trans h24
              clear h24
              obtain ⟨w22, h22, r22⟩ := hp 7 (by decide)
              have e22 : (ac.tmps[22]?).getD undef = .bool true := (ha 22 (by decide)).trans h22
              clear h22
              clear ha hp
              refine Reg.Op1.guarded rfl rfl e22 (fun _ => Reg.Op1.plain rfl ?_) (fun h => absurd rfl h)
              go_wp2
              exact ⟨rfl, hK _ _ rfl (fun j k _ _ => Reg.Adds.refl _ _ _)⟩
            · intro val ac u hR hp ha K hK      -- 11: t26 := Op.move t1
              obtain ⟨w25, h25, r25⟩ := hp 10 (by decide)
              have e25 : (ac.tmps[25]?).getD undef = .bool true := (ha 25 (by decide)).trans h25
              clear h25
              clear ha hp
              exact Reg.Op1.guarded rfl rfl e25 (fun h => by cases h) (fun _ => hK _ _ rfl (fun j k _ _ => Reg.Adds.refl _ _ _))
            · intro val ac u hR hp ha K hK      -- 12: t27 := Op.move t8
              obtain ⟨w25, h25, r25⟩ := hp 10 (by decide)
              have e25 : (ac.tmps[25]?).getD undef = .bool true := (ha 25 (by decide)).trans h25
              clear h25
              clear ha hp
              exact Reg.Op1.guarded rfl rfl e25 (fun h => by cases h) (fun _ => hK _ _ rfl (fun j k _ _ => Reg.Adds.refl _ _ _))
            · intro val ac u hR hp ha K hK      -- 13: t28 := Op.indexAddr 23 t26 t27
              obtain ⟨w25, h25, r25⟩ := hp 10 (by decide)
              have e25 : (ac.tmps[25]?).getD undef = .bool true := (ha 25 (by decide)).trans h25
              clear h25
              clear ha hp
              exact Reg.Op1.guarded rfl rfl e25 (fun h => by cases h) (fun _ => hK _ _ rfl (fun j k _ _ => Reg.Adds.refl _ _ _))
            · intro val ac u hR hp ha K hK      -- 14: t29 := Op.load 35 t28
              obtain ⟨w25, h25, r25⟩ := hp 10 (by decide)
              have e25 : (ac.tmps[25]?).getD undef = .bool true := (ha 25 (by decide)).trans h25
              clear h25
              clear ha hp
              exact Reg.Op1.guarded rfl rfl e25 (fun h => by cases h) (fun _ => hK _ _ rfl (fun j k _ _ => Reg.Adds.refl _ _ _))
            · intro val ac u hR hp ha K hK      -- 15: t30 := Op.load 35 t6
              obtain ⟨w25, h25, r25⟩ := hp 10 (by decide)
              have e25 : (ac.tmps[25]?).getD undef = .bool true := (ha 25 (by decide)).trans h25
              clear h25
              clear ha hp
              exact Reg.Op1.guarded rfl rfl e25 (fun h => by cases h) (fun _ => hK _ _ rfl (fun j k _ _ => Reg.Adds.refl _ _ _))
            · intro val ac u hR hp ha K hK      -- 16: t31 := Op.call { value (Operand.func 43), args := #[t29, t30], argTypes := #[35, 35] }
              obtain ⟨w25, h25, r25⟩ := hp 10 (by decide)
              have e25 : (ac.tmps[25]?).getD undef = .bool true := (ha 25 (by decide)).trans h25
              clear h25
              clear ha hp
              exact Reg.Op1.guarded rfl rfl e25 (fun h => by cases h) (fun _ => hK _ _ rfl (fun j k _ _ => Reg.Adds.refl _ _ _))
            · intro val ac u hR hp ha K hK      -- 17: t32 := Op.pick t25 (const (Value.bool true)) t31
              obtain ⟨w25, h25, r25⟩ := hp 10 (by decide)
              have e25 : (ac.tmps[25]?).getD undef = .bool true := (ha 25 (by decide)).trans h25
              clear h25
              obtain ⟨w31, h31, r31⟩ := hp 16 (by decide)
              have e31 : (ac.tmps[31]?).getD undef = undef := (ha 31 (by decide)).trans h31
              clear h31
              obtain ⟨w22, h22, r22⟩ := hp 7 (by decide)
              have e22 : (ac.tmps[22]?).getD undef = .bool true := (ha 22 (by decide)).trans h22
              clear h22
              clear ha hp
              refine Reg.Op1.guarded rfl rfl e22 (fun _ => Reg.Op1.plain rfl ?_) (fun h => absurd rfl h)
              go_wp2
              exact ⟨rfl, hK _ _ rfl (fun j k _ _ => Reg.Adds.refl _ _ _)⟩
            · intro val ac u hR hp ha K hK      -- 18: t33 := Op.pick t22 t32 (const (Value.bool false))
              obtain ⟨w22, h22, r22⟩ := hp 7 (by decide)
              have e22 : (ac.tmps[22]?).getD undef = .bool true := (ha 22 (by decide)).trans h22
              clear h22
              obtain ⟨w32, h32, r32⟩ := hp 17 (by decide)
              have e32 : (ac.tmps[32]?).getD undef = .bool true := (ha 32 (by decide)).trans h32
              clear h32
              clear ha hp
              refine Reg.Op1.plain rfl ?_
              go_wp2
              exact ⟨rfl, hK _ _ rfl (fun j k _ _ => Reg.Adds.refl _ _ _)⟩
          intro val u hR H
          obtain ⟨wB, hv, rB⟩ := H 18 (by decide)
          have hv : val 18 = .bool true := hv
          have HKu : Hid (Below wr.heap.size wr u) := (Below.refl _ wr).drew.trans hR
          simp only [List.map_cons, List.map_nil, Reg.lay, Act.put, List.setIfInBounds_toArray, List.set_cons_succ, List.set_cons_zero, Nat.reduceAdd, hv]
          clear hR H hv rB
          obtain ⟨wy, hwy⟩ : ∃ z, z = u := ⟨_, rfl⟩
          subst hwy
          have HM2 : Hid (EBx wy (w.heap.size + 1) m) := H1.out.below HKu.out H1.out.lt
          have H02 : Hid (EBx wy w.heap.size ent0) := H0.out.below HKu.out H0.out.lt
          have HB2 : Hid (Below w.heap.size w wy) := HB.out.trans (HKu.out.mono HB.out.size)
          have HATS : Hid (∀ j u, (entCells e)[j]? = some u → wy.cell? ⟨b, o + k * 20 + j, none⟩ = some u) := (HAT.out.below HKu.out hbw).c
          clear H1 H0 HB HKu HAT hbw
          go_wp2_with (first | ((with_reducible refine Mem.load_agg _ _ entry_agg b (o + k * 20) (entCells e) ?hx (entCells_length e) HATS.out ?_); case hx => exact rfl) | ((with_reducible refine Mem.store_agg _ _ entry_agg (w.heap.size + 1) (entCells m) (entCells e) ?hxs ?hys HM2.out (entCells_length e) (ent_one e) ?_); (case hxs => exact rfl); (case hys => exact rfl); intro w3 hb3 hk3 hs3))
          go_roundw
          case rel => exact ⟨⟨k + 1, by omega, by rw [hts.out], by go_num, Lib.hid (H02.out.keeps hk3 (by omega)), Lib.hid (by rw [hts.out]; exact hb3), Lib.hid (HB2.out.trans (hk3.below (fun k h => by omega) HB2.out.size))⟩⟩
          case measure => simp [intOf]; omega
        case true =>
          cases hg : decide (0 < gtE e m)
          · have hts : Hid (greatR key (es.take (k + 1)) = (m, true)) := by
              show _ = _
              rw [hts.out, gStepR, if_neg]
              rintro ⟨_, h | h⟩
              · cases h
              · exact of_decide_eq_false hg h
            have HGT := Lib.hid hg
            clear hkey hg
            refine Reg.wp_region_rel (by kernel_rfl) 40 19 rfl rfl (by kernel_rfl) (Reg.Adds) (Reg.Adds.refl) (Reg.Adds.trans)
              (fun i v u => match i with
                | 0 => v = .slice (some ⟨b, o, none⟩) es.length c
                | 1 => v = .int .i64 k
                | 2 => v = .pointer (some ⟨b, o + k * 20, none⟩)
                | 3 => v = .pointer (some ⟨b, o + k * 20 + 6, none⟩)
                | 4 => v = .string e.key
                | 5 => v = .string key
                | 6 => v = .bool true
                | 7 => v = .bool true
                | 8 => v = .bool true
                | 9 => v = .bool false
                | 10 => v = .bool false
                | 11 => v = .slice (some ⟨b, o, none⟩) es.length c
                | 12 => v = .int .i64 k
                | 13 => v = .pointer (some ⟨b, o + k * 20, none⟩)
                | 14 => v = .agg (entCells e).toArray
                | 15 => v = .agg (entCells m).toArray
                | 16 => v = .bool false
                | 17 => v = .bool false
                | 18 => v = .bool false
                | _ => True) ?_ ?_
            · refine Reg.Steps.cons ?_ (Reg.Steps.cons ?_ (Reg.Steps.cons ?_ (Reg.Steps.cons ?_ (Reg.Steps.cons ?_ (Reg.Steps.cons ?_ (Reg.Steps.cons ?_ (Reg.Steps.cons ?_ (Reg.Steps.cons ?_ (Reg.Steps.cons ?_ (Reg.Steps.cons ?_ (Reg.Steps.cons ?_ (Reg.Steps.cons ?_ (Reg.Steps.cons ?_ (Reg.Steps.cons ?_ (Reg.Steps.cons ?_ (Reg.Steps.cons ?_ (Reg.Steps.cons ?_ (Reg.Steps.cons ?_ (Reg.Steps.nil _)))))))))))))))))))
              · intro val ac u hR hp ha K hK      -- 0: t15 := Op.move t1
                have e1 : (ac.tmps[1]?).getD undef = .slice (some ⟨b, o, none⟩) es.length c := ha 1 (by decide)
                clear ha hp
                refine Reg.Op1.plain rfl ?_
                go_wp2
                exact ⟨rfl, hK _ _ rfl (fun j k _ _ => Reg.Adds.refl _ _ _)⟩
              · intro val ac u hR hp ha K hK      -- 1: t16 := Op.move t8
                have e8 : (ac.tmps[8]?).getD undef = .int .i64 k := ha 8 (by decide)
                clear ha hp
                refine Reg.Op1.plain rfl ?_
                go_wp2
                exact ⟨rfl, hK _ _ rfl (fun j k _ _ => Reg.Adds.refl _ _ _)⟩
              · intro val ac u hR hp ha K hK      -- 2: t17 := Op.indexAddr 23 t15 t16
                obtain ⟨w15, h15, r15⟩ := hp 0 (by decide)
                have e15 : (ac.tmps[15]?).getD undef = .slice (some ⟨b, o, none⟩) es.length c := (ha 15 (by decide)).trans h15
                clear h15
                obtain ⟨w16, h16, r16⟩ := hp 1 (by decide)
                have e16 : (ac.tmps[16]?).getD undef = .int .i64 k := (ha 16 (by decide)).trans h16
                clear h16
                clear ha hp
                refine Reg.Op1.plain rfl ?_
                go_wp2
                exact ⟨rfl, hK _ _ rfl (fun j k _ _ => Reg.Adds.refl _ _ _)⟩
              · intro val ac u hR hp ha K hK      -- 3: t18 := Op.fieldAddr 35 t17 2
                obtain ⟨w17, h17, r17⟩ := hp 2 (by decide)
                have e17 : (ac.tmps[17]?).getD undef = .pointer (some ⟨b, o + k * 20, none⟩) := (ha 17 (by decide)).trans h17
                clear h17
                clear ha hp
                refine Reg.Op1.plain rfl ?_
                go_wp2
                exact ⟨rfl, hK _ _ rfl (fun j k _ _ => Reg.Adds.refl _ _ _)⟩
              · intro val ac u hR hp ha K hK      -- 4: t19 := Op.load 9 t18
                obtain ⟨w18, h18, r18⟩ := hp 3 (by decide)
                have e18 : (ac.tmps[18]?).getD undef = .pointer (some ⟨b, o + k * 20 + 6, none⟩) := (ha 18 (by decide)).trans h18
                clear h18
                clear ha hp
                refine Reg.Op1.plain rfl ?_
                have x6 := (hR.cell (p := ⟨b, o + k * 20 + 6, none⟩) hbw).trans (HAT.out.c 6 _ rfl)
                go_wp2
                exact ⟨rfl, hK _ _ rfl (fun j k _ _ => Reg.Adds.refl _ _ _)⟩
              · intro val ac u hR hp ha K hK      -- 5: t20 := Op.move t0
                have e0 : (ac.tmps[0]?).getD undef = .string key := ha 0 (by decide)
                clear ha hp
                refine Reg.Op1.plain rfl ?_
                go_wp2
                exact ⟨rfl, hK _ _ rfl (fun j k _ _ => Reg.Adds.refl _ _ _)⟩
              · intro val ac u hR hp ha K hK      -- 6: t21 := Op.binOp BinOp.eql 9 t19 t20 9
                obtain ⟨w19, h19, r19⟩ := hp 4 (by decide)
                have e19 : (ac.tmps[19]?).getD undef = .string e.key := (ha 19 (by decide)).trans h19
                clear h19
                obtain ⟨w20, h20, r20⟩ := hp 5 (by decide)
                have e20 : (ac.tmps[20]?).getD undef = .string key := (ha 20 (by decide)).trans h20
                clear h20
                clear ha hp
                have hkd := HKD.out
                refine Reg.Op1.plain rfl ?_
                go_wp2
                exact ⟨rfl, hK _ _ rfl (fun j k _ _ => Reg.Adds.refl _ _ _)⟩
              · intro val ac u hR hp ha K hK      -- 7: t22 := Op.move t21
                obtain ⟨w21, h21, r21⟩ := hp 6 (by decide)
                have e21 : (ac.tmps[21]?).getD undef = .bool true := (ha 21 (by decide)).trans h21
                clear h21
                clear ha hp
                refine Reg.Op1.plain rfl ?_
                go_wp2
                exact ⟨rfl, hK _ _ rfl (fun j k _ _ => Reg.Adds.refl _ _ _)⟩
              · intro val ac u hR hp ha K hK      -- 8: t23 := Op.move t7
                have e7 : (ac.tmps[7]?).getD undef = .bool true := ha 7 (by decide)
                obtain ⟨w22, h22, r22⟩ := hp 7 (by decide)
                have e22 : (ac.tmps[22]?).getD undef = .bool true := (ha 22 (by decide)).trans h22
                clear h22
                clear ha hp
                refine Reg.Op1.guarded rfl rfl e22 (fun _ => Reg.Op1.plain rfl ?_) (fun h => absurd rfl h)
                go_wp2
                exact ⟨rfl, hK _ _ rfl (fun j k _ _ => Reg.Adds.refl _ _ _)⟩
              · intro val ac u hR hp ha K hK      -- 9: t24 := Op.unOp UnOp.not 4 t23
                obtain ⟨w23, h23, r23⟩ := hp 8 (by decide)
                have e23 : (ac.tmps[23]?).getD undef = .bool true := (ha 23 (by decide)).trans h23
                clear h23
                obtain ⟨w22, h22, r22⟩ := hp 7 (by decide)
                have e22 : (ac.tmps[22]?).getD undef = .bool true := (ha 22 (by decide)).trans h22
                clear h22
                clear ha hp
                refine Reg.Op1.guarded rfl rfl e22 (fun _ => Reg.Op1.plain rfl ?_) (fun h => absurd rfl h)
                go_wp2
                exact ⟨rfl, hK _ _ rfl (fun j k _ _ => Reg.Adds.refl _ _ _)⟩
              · intro val ac u hR hp ha K hK      -- 10: t25 := Op.move t24
                obtain ⟨w24, h24, r24⟩ := hp 9 (by decide)
                have e24 : (ac.tmps[24]?).getD undef = .bool false := (ha 24 (by decide)).trans h24
                clear h24
                obtain ⟨w22, h22, r22⟩ := hp 7 (by decide)
                have e22 : (ac.tmps[22]?).getD undef = .bool true := (ha 22 (by decide)).trans h22
                clear h22
                clear ha hp
                refine Reg.Op1.guarded rfl rfl e22 (fun _ => Reg.Op1.plain rfl ?_) (fun h => absurd rfl h)
                go_wp2
                exact ⟨rfl, hK _ _ rfl (fun j k _ _ => Reg.Adds.refl _ _ _)⟩
              · intro val ac u hR hp ha K hK      -- 11: t26 := Op.move t1
                have e1 : (ac.tmps[1]?).getD undef = .slice (some ⟨b, o, none⟩) es.length c := ha 1 (by decide)
                obtain ⟨w25, h25, r25⟩ := hp 10 (by decide)
                have e25 : (ac.tmps[25]?).getD undef = .bool false := (ha 25 (by decide)).trans h25
                clear h25
                clear ha hp
                refine Reg.Op1.guarded rfl rfl e25 (fun _ => Reg.Op1.plain rfl ?_) (fun h => absurd rfl h)
                go_wp2
                exact ⟨rfl, hK _ _ rfl (fun j k _ _ => Reg.Adds.refl _ _ _)⟩
              · intro val ac u hR hp ha K hK      -- 12: t27 := Op.move t8
                have e8 : (ac.tmps[8]?).getD undef = .int .i64 k := ha 8 (by decide)
                obtain ⟨w25, h25, r25⟩ := hp 10 (by decide)
                have e25 : (ac.tmps[25]?).getD undef = .bool false := (ha 25 (by decide)).trans h25
                clear h25
                clear ha hp
                refine Reg.Op1.guarded rfl rfl e25 (fun _ => Reg.Op1.plain rfl ?_) (fun h => absurd rfl h)
                go_wp2
                exact ⟨rfl, hK _ _ rfl (fun j k _ _ => Reg.Adds.refl _ _ _)⟩
              · intro val ac u hR hp ha K hK      -- 13: t28 := Op.indexAddr 23 t26 t27
                obtain ⟨w26, h26, r26⟩ := hp 11 (by decide)
                have e26 : (ac.tmps[26]?).getD undef = .slice (some ⟨b, o, none⟩) es.length c := (ha 26 (by decide)).trans h26
                clear h26
                obtain ⟨w27, h27, r27⟩ := hp 12 (by decide)
                have e27 : (ac.tmps[27]?).getD undef = .int .i64 k := (ha 27 (by decide)).trans h27
                clear h27
                obtain ⟨w25, h25, r25⟩ := hp 10 (by decide)
                have e25 : (ac.tmps[25]?).getD undef = .bool false := (ha 25 (by decide)).trans h25
                clear h25
                clear ha hp
                refine Reg.Op1.guarded rfl rfl e25 (fun _ => Reg.Op1.plain rfl ?_) (fun h => absurd rfl h)
                go_wp2
                exact ⟨rfl, hK _ _ rfl (fun j k _ _ => Reg.Adds.refl _ _ _)⟩
              · intro val ac u hR hp ha K hK      -- 14: t29 := Op.load 35 t28
                obtain ⟨w28, h28, r28⟩ := hp 13 (by decide)
                have e28 : (ac.tmps[28]?).getD undef = .pointer (some ⟨b, o + k * 20, none⟩) := (ha 28 (by decide)).trans h28
                clear h28
                obtain ⟨w25, h25, r25⟩ := hp 10 (by decide)
                have e25 : (ac.tmps[25]?).getD undef = .bool false := (ha 25 (by decide)).trans h25
                clear h25
                clear ha hp
                refine Reg.Op1.guarded rfl rfl e25 (fun _ => Reg.Op1.plain rfl ?_) (fun h => absurd rfl h)
                refine Mem.load_aggG _ _ entry_agg b (o + k * 20) (entCells e) (by simp [Region.wanted]) (Reg.eval_of e28) (entCells_length _) (fun q u' hu => (hR.cell (p := ⟨b, o + k * 20 + q, none⟩) hbw).trans (HAT.out.c q u' hu)) ?_
                exact ⟨rfl, hK _ _ rfl (fun j k _ _ => Reg.Adds.refl _ _ _)⟩
              · intro val ac u hR hp ha K hK      -- 15: t30 := Op.load 35 t6
                have e6 : (ac.tmps[6]?).getD undef = .pointer (some ⟨w.heap.size + 1, 0, none⟩) := ha 6 (by decide)
                obtain ⟨w25, h25, r25⟩ := hp 10 (by decide)
                have e25 : (ac.tmps[25]?).getD undef = .bool false := (ha 25 (by decide)).trans h25
                clear h25
                clear ha hp
                refine Reg.Op1.guarded rfl rfl e25 (fun _ => Reg.Op1.plain rfl ?_) (fun h => absurd rfl h)
                have hMu : EBx u (w.heap.size + 1) m := Mem.Bx.below (w := wr.drew) H1.out hR H1.out.lt
                refine Mem.load_aggG _ _ entry_agg (w.heap.size + 1) 0 (entCells m) (by simp [Region.wanted]) (Reg.eval_of e6) (entCells_length _) (fun j u' hu => by rw [Nat.zero_add]; exact hMu.cell hu) ?_
                exact ⟨rfl, hK _ _ rfl (fun j k _ _ => Reg.Adds.refl _ _ _)⟩
              · intro val ac u hR hp ha K hK      -- 16: t31 := Op.call { value (Operand.func 43), args := #[t29, t30], argTypes := #[35, 35] }
                obtain ⟨w29, h29, r29⟩ := hp 14 (by decide)
                have e29 : (ac.tmps[29]?).getD undef = .agg (entCells e).toArray := (ha 29 (by decide)).trans h29
                clear h29
                obtain ⟨w30, h30, r30⟩ := hp 15 (by decide)
                have e30 : (ac.tmps[30]?).getD undef = .agg (entCells m).toArray := (ha 30 (by decide)).trans h30
                clear h30
                obtain ⟨w25, h25, r25⟩ := hp 10 (by decide)
                have e25 : (ac.tmps[25]?).getD undef = .bool false := (ha 25 (by decide)).trans h25
                clear h25
                clear ha hp
                refine Reg.Op1.guarded rfl rfl e25 (fun _ => Reg.Op1.plain rfl ?_) (fun h => absurd rfl h)
                go_wp2_with fail
                refine (refGreater_any e m u).mono ?_
                rintro x w' ⟨rfl, hbw⟩
                rw [HGT.out]
                go_wp2_with fail
                exact ⟨rfl, hK _ _ rfl (fun j k _ _ => hbw)⟩
              · intro val ac u hR hp ha K hK      -- 17: t32 := Op.pick t25 (const (Value.bool true)) t31
                obtain ⟨w25, h25, r25⟩ := hp 10 (by decide)
                have e25 : (ac.tmps[25]?).getD undef = .bool false := (ha 25 (by decide)).trans h25
                clear h25
                obtain ⟨w31, h31, r31⟩ := hp 16 (by decide)
                have e31 : (ac.tmps[31]?).getD undef = .bool false := (ha 31 (by decide)).trans h31
                clear h31
                obtain ⟨w22, h22, r22⟩ := hp 7 (by decide)
                have e22 : (ac.tmps[22]?).getD undef = .bool true := (ha 22 (by decide)).trans h22
                clear h22
                clear ha hp
                refine Reg.Op1.guarded rfl rfl e22 (fun _ => Reg.Op1.plain rfl ?_) (fun h => absurd rfl h)
                go_wp2
                exact ⟨rfl, hK _ _ rfl (fun j k _ _ => Reg.Adds.refl _ _ _)⟩
              · intro val ac u hR hp ha K hK      -- 18: t33 := Op.pick t22 t32 (const (Value.bool false))
                obtain ⟨w22, h22, r22⟩ := hp 7 (by decide)
                have e22 : (ac.tmps[22]?).getD undef = .bool true := (ha 22 (by decide)).trans h22
                clear h22
                obtain ⟨w32, h32, r32⟩ := hp 17 (by decide)
                have e32 : (ac.tmps[32]?).getD undef = .bool false := (ha 32 (by decide)).trans h32
                clear h32
                clear ha hp
                refine Reg.Op1.plain rfl ?_
                go_wp2
                exact ⟨rfl, hK _ _ rfl (fun j k _ _ => Reg.Adds.refl _ _ _)⟩
            intro val u hR H
            obtain ⟨wB, hv, rB⟩ := H 18 (by decide)
            have hv : val 18 = .bool false := hv
            have HKu : Hid (Below wr.heap.size wr u) := (Below.refl _ wr).drew.trans hR
            simp only [List.map_cons, List.map_nil, Reg.lay, Act.put, List.setIfInBounds_toArray, List.set_cons_succ, List.set_cons_zero, Nat.reduceAdd, hv]
            clear hR H hv rB
            obtain ⟨wy, hwy⟩ : ∃ z, z = u := ⟨_, rfl⟩
            subst hwy
            have HM2 : Hid (EBx wy (w.heap.size + 1) m) := H1.out.below HKu.out H1.out.lt
            have H02 : Hid (EBx wy w.heap.size ent0) := H0.out.below HKu.out H0.out.lt
            have HB2 : Hid (Below w.heap.size w wy) := HB.out.trans (HKu.out.mono HB.out.size)
            have HATS : Hid (∀ j u, (entCells e)[j]? = some u → wy.cell? ⟨b, o + k * 20 + j, none⟩ = some u) := (HAT.out.below HKu.out hbw).c
            clear H1 H0 HB HKu HAT hbw
            go_wp2
            go_roundw
            case rel => exact ⟨⟨k + 1, by omega, by rw [hts.out], by go_num, H02, Lib.hid (by rw [hts.out]; exact HM2.out), HB2⟩⟩
            case measure => simp [intOf]; omega
          · have hts : Hid (greatR key (es.take (k + 1)) = (e, true)) := by show _ = _; rw [hts.out, gStepR, if_pos ⟨hkey, .inr (of_decide_eq_true hg)⟩]
            have HGT := Lib.hid hg
            clear hkey hg
            refine Reg.wp_region_rel (by kernel_rfl) 40 19 rfl rfl (by kernel_rfl) (Reg.Adds) (Reg.Adds.refl) (Reg.Adds.trans)
              (fun i v u => match i with
                | 0 => v = .slice (some ⟨b, o, none⟩) es.length c
                | 1 => v = .int .i64 k
                | 2 => v = .pointer (some ⟨b, o + k * 20, none⟩)
                | 3 => v = .pointer (some ⟨b, o + k * 20 + 6, none⟩)
                | 4 => v = .string e.key
                | 5 => v = .string key
                | 6 => v = .bool true
                | 7 => v = .bool true
                | 8 => v = .bool true
                | 9 => v = .bool false
                | 10 => v = .bool false
                | 11 => v = .slice (some ⟨b, o, none⟩) es.length c
                | 12 => v = .int .i64 k
                | 13 => v = .pointer (some ⟨b, o + k * 20, none⟩)
                | 14 => v = .agg (entCells e).toArray
                | 15 => v = .agg (entCells m).toArray
                | 16 => v = .bool true
                | 17 => v = .bool true
                | 18 => v = .bool true
                | _ => True) ?_ ?_
            · refine Reg.Steps.cons ?_ (Reg.Steps.cons ?_ (Reg.Steps.cons ?_ (Reg.Steps.cons ?_ (Reg.Steps.cons ?_ (Reg.Steps.cons ?_ (Reg.Steps.cons ?_ (Reg.Steps.cons ?_ (Reg.Steps.cons ?_ (Reg.Steps.cons ?_ (Reg.Steps.cons ?_ (Reg.Steps.cons ?_ (Reg.Steps.cons ?_ (Reg.Steps.cons ?_ (Reg.Steps.cons ?_ (Reg.Steps.cons ?_ (Reg.Steps.cons ?_ (Reg.Steps.cons ?_ (Reg.Steps.cons ?_ (Reg.Steps.nil _)))))))))))))))))))
              · intro val ac u hR hp ha K hK      -- 0: t15 := Op.move t1
                have e1 : (ac.tmps[1]?).getD undef = .slice (some ⟨b, o, none⟩) es.length c := ha 1 (by decide)
                clear ha hp
                refine Reg.Op1.plain rfl ?_
                go_wp2
                exact ⟨rfl, hK _ _ rfl (fun j k _ _ => Reg.Adds.refl _ _ _)⟩
              · intro val ac u hR hp ha K hK      -- 1: t16 := Op.move t8
                have e8 : (ac.tmps[8]?).getD undef = .int .i64 k := ha 8 (by decide)
                clear ha hp
                refine Reg.Op1.plain rfl ?_
                go_wp2
                exact ⟨rfl, hK _ _ rfl (fun j k _ _ => Reg.Adds.refl _ _ _)⟩
              · intro val ac u hR hp ha K hK      -- 2: t17 := Op.indexAddr 23 t15 t16
                obtain ⟨w15, h15, r15⟩ := hp 0 (by decide)
                have e15 : (ac.tmps[15]?).getD undef = .slice (some ⟨b, o, none⟩) es.length c := (ha 15 (by decide)).trans h15
                clear h15
                obtain ⟨w16, h16, r16⟩ := hp 1 (by decide)
                have e16 : (ac.tmps[16]?).getD undef = .int .i64 k := (ha 16 (by decide)).trans h16
                clear h16
                clear ha hp
                refine Reg.Op1.plain rfl ?_
                go_wp2
                exact ⟨rfl, hK _ _ rfl (fun j k _ _ => Reg.Adds.refl _ _ _)⟩
              · intro val ac u hR hp ha K hK      -- 3: t18 := Op.fieldAddr 35 t17 2
                obtain ⟨w17, h17, r17⟩ := hp 2 (by decide)
                have e17 : (ac.tmps[17]?).getD undef = .pointer (some ⟨b, o + k * 20, none⟩) := (ha 17 (by decide)).trans h17
                clear h17
                clear ha hp
                refine Reg.Op1.plain rfl ?_
                go_wp2
                exact ⟨rfl, hK _ _ rfl (fun j k _ _ => Reg.Adds.refl _ _ _)⟩
              · intro val ac u hR hp ha K hK      -- 4: t19 := Op.load 9 t18
                obtain ⟨w18, h18, r18⟩ := hp 3 (by decide)
                have e18 : (ac.tmps[18]?).getD undef = .pointer (some ⟨b, o + k * 20 + 6, none⟩) := (ha 18 (by decide)).trans h18
                clear h18
                clear ha hp
                refine Reg.Op1.plain rfl ?_
                have x6 := (hR.cell (p := ⟨b, o + k * 20 + 6, none⟩) hbw).trans (HAT.out.c 6 _ rfl)
                go_wp2
                exact ⟨rfl, hK _ _ rfl (fun j k _ _ => Reg.Adds.refl _ _ _)⟩
              · intro val ac u hR hp ha K hK      -- 5: t20 := Op.move t0
                have e0 : (ac.tmps[0]?).getD undef = .string key := ha 0 (by decide)
                clear ha hp
                refine Reg.Op1.plain rfl ?_
                go_wp2
                exact ⟨rfl, hK _ _ rfl (fun j k _ _ => Reg.Adds.refl _ _ _)⟩
              · intro val ac u hR hp ha K hK      -- 6: t21 := Op.binOp BinOp.eql 9 t19 t20 9
                obtain ⟨w19, h19, r19⟩ := hp 4 (by decide)
                have e19 : (ac.tmps[19]?).getD undef = .string e.key := (ha 19 (by decide)).trans h19
                clear h19
                obtain ⟨w20, h20, r20⟩ := hp 5 (by decide)
                have e20 : (ac.tmps[20]?).getD undef = .string key := (ha 20 (by decide)).trans h20
                clear h20
                clear ha hp
                have hkd := HKD.out
                refine Reg.Op1.plain rfl ?_
                go_wp2
                exact ⟨rfl, hK _ _ rfl (fun j k _ _ => Reg.Adds.refl _ _ _)⟩
              · intro val ac u hR hp ha K hK      -- 7: t22 := Op.move t21
                obtain ⟨w21, h21, r21⟩ := hp 6 (by decide)
                have e21 : (ac.tmps[21]?).getD undef = .bool true := (ha 21 (by decide)).trans h21
                clear h21
                clear ha hp
                refine Reg.Op1.plain rfl ?_
                go_wp2
                exact ⟨rfl, hK _ _ rfl (fun j k _ _ => Reg.Adds.refl _ _ _)⟩
              · intro val ac u hR hp ha K hK      -- 8: t23 := Op.move t7
                have e7 : (ac.tmps[7]?).getD undef = .bool true := ha 7 (by decide)
                obtain ⟨w22, h22, r22⟩ := hp 7 (by decide)
                have e22 : (ac.tmps[22]?).getD undef = .bool true := (ha 22 (by decide)).trans h22
                clear h22
                clear ha hp
                refine Reg.Op1.guarded rfl rfl e22 (fun _ => Reg.Op1.plain rfl ?_) (fun h => absurd rfl h)
                go_wp2
                exact ⟨rfl, hK _ _ rfl (fun j k _ _ => Reg.Adds.refl _ _ _)⟩
              · intro val ac u hR hp ha K hK      -- 9: t24 := Op.unOp UnOp.not 4 t23
                obtain ⟨w23, h23, r23⟩ := hp 8 (by decide)
                have e23 : (ac.tmps[23]?).getD undef = .bool true := (ha 23 (by decide)).trans h23
                clear h23
                obtain ⟨w22, h22, r22⟩ := hp 7 (by decide)
                have e22 : (ac.tmps[22]?).getD undef = .bool true := (ha 22 (by decide)).trans h22
                clear h22
                clear ha hp
                refine Reg.Op1.guarded rfl rfl e22 (fun _ => Reg.Op1.plain rfl ?_) (fun h => absurd rfl h)
                go_wp2
                exact ⟨rfl, hK _ _ rfl (fun j k _ _ => Reg.Adds.refl _ _ _)⟩
              · intro val ac u hR hp ha K hK      -- 10: t25 := Op.move t24
                obtain ⟨w24, h24, r24⟩ := hp 9 (by decide)
                have e24 : (ac.tmps[24]?).getD undef = .bool false := (ha 24 (by decide)).trans h24
                clear h24
                obtain ⟨w22, h22, r22⟩ := hp 7 (by decide)
                have e22 : (ac.tmps[22]?).getD undef = .bool true := (ha 22 (by decide)).trans h22
                clear h22
                clear ha hp
                refine Reg.Op1.guarded rfl rfl e22 (fun _ => Reg.Op1.plain rfl ?_) (fun h => absurd rfl h)
                go_wp2
                exact ⟨rfl, hK _ _ rfl (fun j k _ _ => Reg.Adds.refl _ _ _)⟩
              · intro val ac u hR hp ha K hK      -- 11: t26 := Op.move t1
                have e1 : (ac.tmps[1]?).getD undef = .slice (some ⟨b, o, none⟩) es.length c := ha 1 (by decide)
                obtain ⟨w25, h25, r25⟩ := hp 10 (by decide)
                have e25 : (ac.tmps[25]?).getD undef = .bool false := (ha 25 (by decide)).trans h25
                clear h25
                clear ha hp
                refine Reg.Op1.guarded rfl rfl e25 (fun _ => Reg.Op1.plain rfl ?_) (fun h => absurd rfl h)
                go_wp2
                exact ⟨rfl, hK _ _ rfl (fun j k _ _ => Reg.Adds.refl _ _ _)⟩
              · intro val ac u hR hp ha K hK      -- 12: t27 := Op.move t8
                have e8 : (ac.tmps[8]?).getD undef = .int .i64 k := ha 8 (by decide)
                obtain ⟨w25, h25, r25⟩ := hp 10 (by decide)
                have e25 : (ac.tmps[25]?).getD undef = .bool false := (ha 25 (by decide)).trans h25
                clear h25
                clear ha hp
                refine Reg.Op1.guarded rfl rfl e25 (fun _ => Reg.Op1.plain rfl ?_) (fun h => absurd rfl h)
                go_wp2
                exact ⟨rfl, hK _ _ rfl (fun j k _ _ => Reg.Adds.refl _ _ _)⟩
              · intro val ac u hR hp ha K hK      -- 13: t28 := Op.indexAddr 23 t26 t27
                obtain ⟨w26, h26, r26⟩ := hp 11 (by decide)
                have e26 : (ac.tmps[26]?).getD undef = .slice (some ⟨b, o, none⟩) es.length c := (ha 26 (by decide)).trans h26
                clear h26
                obtain ⟨w27, h27, r27⟩ := hp 12 (by decide)
                have e27 : (ac.tmps[27]?).getD undef = .int .i64 k := (ha 27 (by decide)).trans h27
                clear h27
                obtain ⟨w25, h25, r25⟩ := hp 10 (by decide)
                have e25 : (ac.tmps[25]?).getD undef = .bool false := (ha 25 (by decide)).trans h25
                clear h25
                clear ha hp
                refine Reg.Op1.guarded rfl rfl e25 (fun _ => Reg.Op1.plain rfl ?_) (fun h => absurd rfl h)
                go_wp2
                exact ⟨rfl, hK _ _ rfl (fun j k _ _ => Reg.Adds.refl _ _ _)⟩
              · intro val ac u hR hp ha K hK      -- 14: t29 := Op.load 35 t28
                obtain ⟨w28, h28, r28⟩ := hp 13 (by decide)
                have e28 : (ac.tmps[28]?).getD undef = .pointer (some ⟨b, o + k * 20, none⟩) := (ha 28 (by decide)).trans h28
                clear h28
                obtain ⟨w25, h25, r25⟩ := hp 10 (by decide)
                have e25 : (ac.tmps[25]?).getD undef = .bool false := (ha 25 (by decide)).trans h25
                clear h25
                clear ha hp
                refine Reg.Op1.guarded rfl rfl e25 (fun _ => Reg.Op1.plain rfl ?_) (fun h => absurd rfl h)
                refine Mem.load_aggG _ _ entry_agg b (o + k * 20) (entCells e) (by simp [Region.wanted]) (Reg.eval_of e28) (entCells_length _) (fun q u' hu => (hR.cell (p := ⟨b, o + k * 20 + q, none⟩) hbw).trans (HAT.out.c q u' hu)) ?_
                exact ⟨rfl, hK _ _ rfl (fun j k _ _ => Reg.Adds.refl _ _ _)⟩
              · intro val ac u hR hp ha K hK      -- 15: t30 := Op.load 35 t6
                have e6 : (ac.tmps[6]?).getD undef = .pointer (some ⟨w.heap.size + 1, 0, none⟩) := ha 6 (by decide)
                obtain ⟨w25, h25, r25⟩ := hp 10 (by decide)
                have e25 : (ac.tmps[25]?).getD undef = .bool false := (ha 25 (by decide)).trans h25
                clear h25
                clear ha hp
                refine Reg.Op1.guarded rfl rfl e25 (fun _ => Reg.Op1.plain rfl ?_) (fun h => absurd rfl h)
                have hMu : EBx u (w.heap.size + 1) m := Mem.Bx.below (w := wr.drew) H1.out hR H1.out.lt
                refine Mem.load_aggG _ _ entry_agg (w.heap.size + 1) 0 (entCells m) (by simp [Region.wanted]) (Reg.eval_of e6) (entCells_length _) (fun j u' hu => by rw [Nat.zero_add]; exact hMu.cell hu) ?_
                exact ⟨rfl, hK _ _ rfl (fun j k _ _ => Reg.Adds.refl _ _ _)⟩
              · intro val ac u hR hp ha K hK      -- 16: t31 := Op.call { value (Operand.func 43), args := #[t29, t30], argTypes := #[35, 35] }
                obtain ⟨w29, h29, r29⟩ := hp 14 (by decide)
                have e29 : (ac.tmps[29]?).getD undef = .agg (entCells e).toArray := (ha 29 (by decide)).trans h29
                clear h29
                obtain ⟨w30, h30, r30⟩ := hp 15 (by decide)
                have e30 : (ac.tmps[30]?).getD undef = .agg (entCells m).toArray := (ha 30 (by decide)).trans h30
                clear h30
                obtain ⟨w25, h25, r25⟩ := hp 10 (by decide)
                have e25 : (ac.tmps[25]?).getD undef = .bool false := (ha 25 (by decide)).trans h25
                clear h25
                clear ha hp
                refine Reg.Op1.guarded rfl rfl e25 (fun _ => Reg.Op1.plain rfl ?_) (fun h => absurd rfl h)
                go_wp2_with fail
                refine (refGreater_any e m u).mono ?_
                rintro x w' ⟨rfl, hbw⟩
                rw [HGT.out]
                go_wp2_with fail
                exact ⟨rfl, hK _ _ rfl (fun j k _ _ => hbw)⟩
              · intro val ac u hR hp ha K hK      -- 17: t32 := Op.pick t25 (const (Value.bool true)) t31
                obtain ⟨w25, h25, r25⟩ := hp 10 (by decide)
                have e25 : (ac.tmps[25]?).getD undef = .bool false := (ha 25 (by decide)).trans h25
                clear h25
                obtain ⟨w31, h31, r31⟩ := hp 16 (by decide)
                have e31 : (ac.tmps[31]?).getD undef = .bool true := (ha 31 (by decide)).trans h31
                clear h31
                obtain ⟨w22, h22, r22⟩ := hp 7 (by decide)
                have e22 : (ac.tmps[22]?).getD undef = .bool true := (ha 22 (by decide)).trans h22
                clear h22
                clear ha hp
                refine Reg.Op1.guarded rfl rfl e22 (fun _ => Reg.Op1.plain rfl ?_) (fun h => absurd rfl h)
                go_wp2
                exact ⟨rfl, hK _ _ rfl (fun j k _ _ => Reg.Adds.refl _ _ _)⟩
              · intro val ac u hR hp ha K hK      -- 18: t33 := Op.pick t22 t32 (const (Value.bool false))
                obtain ⟨w22, h22, r22⟩ := hp 7 (by decide)
                have e22 : (ac.tmps[22]?).getD undef = .bool true := (ha 22 (by decide)).trans h22
                clear h22
                obtain ⟨w32, h32, r32⟩ := hp 17 (by decide)
                have e32 : (ac.tmps[32]?).getD undef = .bool true := (ha 32 (by decide)).trans h32
                clear h32
                clear ha hp
                refine Reg.Op1.plain rfl ?_
                go_wp2
                exact ⟨rfl, hK _ _ rfl (fun j k _ _ => Reg.Adds.refl _ _ _)⟩
            intro val u hR H
            obtain ⟨wB, hv, rB⟩ := H 18 (by decide)
            have hv : val 18 = .bool true := hv
            have HKu : Hid (Below wr.heap.size wr u) := (Below.refl _ wr).drew.trans hR
            simp only [List.map_cons, List.map_nil, Reg.lay, Act.put, List.setIfInBounds_toArray, List.set_cons_succ, List.set_cons_zero, Nat.reduceAdd, hv]
            clear hR H hv rB
            obtain ⟨wy, hwy⟩ : ∃ z, z = u := ⟨_, rfl⟩
            subst hwy
            have HM2 : Hid (EBx wy (w.heap.size + 1) m) := H1.out.below HKu.out H1.out.lt
            have H02 : Hid (EBx wy w.heap.size ent0) := H0.out.below HKu.out H0.out.lt
            have HB2 : Hid (Below w.heap.size w wy) := HB.out.trans (HKu.out.mono HB.out.size)
            have HATS : Hid (∀ j u, (entCells e)[j]? = some u → wy.cell? ⟨b, o + k * 20 + j, none⟩ = some u) := (HAT.out.below HKu.out hbw).c
            clear H1 H0 HB HKu HAT hbw
            go_wp2_with (first | ((with_reducible refine Mem.load_agg _ _ entry_agg b (o + k * 20) (entCells e) ?hx (entCells_length e) HATS.out ?_); case hx => exact rfl) | ((with_reducible refine Mem.store_agg _ _ entry_agg (w.heap.size + 1) (entCells m) (entCells e) ?hxs ?hys HM2.out (entCells_length e) (ent_one e) ?_); (case hxs => exact rfl); (case hys => exact rfl); intro w3 hb3 hk3 hs3))
            go_roundw
            case rel => exact ⟨⟨k + 1, by omega, by rw [hts.out], by go_num, Lib.hid (H02.out.keeps hk3 (by omega)), Lib.hid (by rw [hts.out]; exact hb3), Lib.hid (HB2.out.trans (hk3.below (fun k h => by omega) HB2.out.size))⟩⟩
            case measure => simp [intOf]; omega
      · have HKD : Hid ((e.key.toList == key.toList) = false) := str_ne hkey
        have hts : Hid (greatR key (es.take (k + 1)) = (m, f)) := by show _ = _; rw [hts.out, gStepR, if_neg (fun h => hkey h.1)]
        have HGT : Hid (decide (0 < gtE e m) = decide (0 < gtE e m)) := rfl
        clear hkey
        refine Reg.wp_region_rel (by kernel_rfl) 40 19 rfl rfl (by kernel_rfl) (Reg.Adds) (Reg.Adds.refl) (Reg.Adds.trans)
          (fun i v u => match i with
            | 0 => v = .slice (some ⟨b, o, none⟩) es.length c
            | 1 => v = .int .i64 k
            | 2 => v = .pointer (some ⟨b, o + k * 20, none⟩)
            | 3 => v = .pointer (some ⟨b, o + k * 20 + 6, none⟩)
            | 4 => v = .string e.key
            | 5 => v = .string key
            | 6 => v = .bool false
            | 7 => v = .bool false
            | 8 => v = undef
            | 9 => v = undef
            | 10 => v = undef
            | 11 => v = undef
            | 12 => v = undef
            | 13 => v = undef
            | 14 => v = undef
            | 15 => v = undef
            | 16 => v = undef
            | 17 => v = undef
            | 18 => v = .bool false
            | _ => True) ?_ ?_
        · refine Reg.Steps.cons ?_ (Reg.Steps.cons ?_ (Reg.Steps.cons ?_ (Reg.Steps.cons ?_ (Reg.Steps.cons ?_ (Reg.Steps.cons ?_ (Reg.Steps.cons ?_ (Reg.Steps.cons ?_ (Reg.Steps.cons ?_ (Reg.Steps.cons ?_ (Reg.Steps.cons ?_ (Reg.Steps.cons ?_ (Reg.Steps.cons ?_ (Reg.Steps.cons ?_ (Reg.Steps.cons ?_ (Reg.Steps.cons ?_ (Reg.Steps.cons ?_ (Reg.Steps.cons ?_ (Reg.Steps.cons ?_ (Reg.Steps.nil _)))))))))))))))))))
          · intro val ac u hR hp ha K hK      -- 0: t15 := Op.move t1
            have e1 : (ac.tmps[1]?).getD undef = .slice (some ⟨b, o, none⟩) es.length c := ha 1 (by decide)
            clear ha hp
            refine Reg.Op1.plain rfl ?_
            go_wp2
            exact ⟨rfl, hK _ _ rfl (fun j k _ _ => Reg.Adds.refl _ _ _)⟩
          · intro val ac u hR hp ha K hK      -- 1: t16 := Op.move t8
            have e8 : (ac.tmps[8]?).getD undef = .int .i64 k := ha 8 (by decide)
            clear ha hp
            refine Reg.Op1.plain rfl ?_
            go_wp2
            exact ⟨rfl, hK _ _ rfl (fun j k _ _ => Reg.Adds.refl _ _ _)⟩
          · intro val ac u hR hp ha K hK      -- 2: t17 := Op.indexAddr 23 t15 t16
            obtain ⟨w15, h15, r15⟩ := hp 0 (by decide)
            have e15 : (ac.tmps[15]?).getD undef = .slice (some ⟨b, o, none⟩) es.length c := (ha 15 (by decide)).trans h15
            clear h15
            obtain ⟨w16, h16, r16⟩ := hp 1 (by decide)
            have e16 : (ac.tmps[16]?).getD undef = .int .i64 k := (ha 16 (by decide)).trans h16
            clear h16
            clear ha hp
            refine Reg.Op1.plain rfl ?_
            go_wp2
            exact ⟨rfl, hK _ _ rfl (fun j k _ _ => Reg.Adds.refl _ _ _)⟩
          · intro val ac u hR hp ha K hK      -- 3: t18 := Op.fieldAddr 35 t17 2
            obtain ⟨w17, h17, r17⟩ := hp 2 (by decide)
            have e17 : (ac.tmps[17]?).getD undef = .pointer (some ⟨b, o + k * 20, none⟩) := (ha 17 (by decide)).trans h17
            clear h17
            clear ha hp
            refine Reg.Op1.plain rfl ?_
            go_wp2
            exact ⟨rfl, hK _ _ rfl (fun j k _ _ => Reg.Adds.refl _ _ _)⟩
          · intro val ac u hR hp ha K hK      -- 4: t19 := Op.load 9 t18
            obtain ⟨w18, h18, r18⟩ := hp 3 (by decide)
            have e18 : (ac.tmps[18]?).getD undef = .pointer (some ⟨b, o + k * 20 + 6, none⟩) := (ha 18 (by decide)).trans h18
            clear h18
            clear ha hp
            refine Reg.Op1.plain rfl ?_
            have x6 := (hR.cell (p := ⟨b, o + k * 20 + 6, none⟩) hbw).trans (HAT.out.c 6 _ rfl)
            go_wp2
            exact ⟨rfl, hK _ _ rfl (fun j k _ _ => Reg.Adds.refl _ _ _)⟩
          · intro val ac u hR hp ha K hK      -- 5: t20 := Op.move t0
            have e0 : (ac.tmps[0]?).getD undef = .string key := ha 0 (by decide)
            clear ha hp
            refine Reg.Op1.plain rfl ?_
            go_wp2
            exact ⟨rfl, hK _ _ rfl (fun j k _ _ => Reg.Adds.refl _ _ _)⟩
          · intro val ac u hR hp ha K hK      -- 6: t21 := Op.binOp BinOp.eql 9 t19 t20 9
            obtain ⟨w19, h19, r19⟩ := hp 4 (by decide)
            have e19 : (ac.tmps[19]?).getD undef = .string e.key := (ha 19 (by decide)).trans h19
            clear h19
            obtain ⟨w20, h20, r20⟩ := hp 5 (by decide)
            have e20 : (ac.tmps[20]?).getD undef = .string key := (ha 20 (by decide)).trans h20
            clear h20
            clear ha hp
            have hkd := HKD.out
            refine Reg.Op1.plain rfl ?_
            go_wp2
            exact ⟨rfl, hK _ _ rfl (fun j k _ _ => Reg.Adds.refl _ _ _)⟩
          · intro val ac u hR hp ha K hK      -- 7: t22 := Op.move t21
            obtain ⟨w21, h21, r21⟩ := hp 6 (by decide)
            have e21 : (ac.tmps[21]?).getD undef = .bool false := (ha 21 (by decide)).trans h21
            clear h21
            clear ha hp
            refine Reg.Op1.plain rfl ?_
            go_wp2
            exact ⟨rfl, hK _ _ rfl (fun j k _ _ => Reg.Adds.refl _ _ _)⟩
          · intro val ac u hR hp ha K hK      -- 8: t23 := Op.move t7
            obtain ⟨w22, h22, r22⟩ := hp 7 (by decide)
            have e22 : (ac.tmps[22]?).getD undef = .bool false := (ha 22 (by decide)).trans h22
            clear h22
            clear ha hp
            exact Reg.Op1.guarded rfl rfl e22 (fun h => by cases h) (fun _ => hK _ _ rfl (fun j k _ _ => Reg.Adds.refl _ _ _))
          · intro val ac u hR hp ha K hK      -- 9: t24 := Op.unOp UnOp.not 4 t23
            obtain ⟨w22, h22, r22⟩ := hp 7 (by decide)
            have e22 : (ac.tmps[22]?).getD undef = .bool false := (ha 22 (by decide)).trans h22
            clear h22
            clear ha hp
            exact Reg.Op1.guarded rfl rfl e22 (fun h => by cases h) (fun _ => hK _ _ rfl (fun j k _ _ => Reg.Adds.refl _ _ _))
          · intro val ac u hR hp ha K hK      -- 10: t25 := Op.move t24
            obtain ⟨w22, h22, r22⟩ := hp 7 (by decide)
            have e22 : (ac.tmps[22]?).getD undef = .bool false := (ha 22 (by decide)).trans h22
            clear h22
            clear ha hp
            exact Reg.Op1.guarded rfl rfl e22 (fun h => by cases h) (fun _ => hK _ _ rfl (fun j k _ _ => Reg.Adds.refl _ _ _))
          · intro val ac u hR hp ha K hK      -- 11: t26 := Op.move t1
            obtain ⟨w25, h25, r25⟩ := hp 10 (by decide)
            have e25 : (ac.tmps[25]?).getD undef = undef := (ha 25 (by decide)).trans h25
            clear h25
            clear ha hp
            exact Reg.Op1.passed rfl rfl e25 (hK _ _ rfl (fun j k _ _ => Reg.Adds.refl _ _ _))
          · intro val ac u hR hp ha K hK      -- 12: t27 := Op.move t8
            obtain ⟨w25, h25, r25⟩ := hp 10 (by decide)
            have e25 : (ac.tmps[25]?).getD undef = undef := (ha 25 (by decide)).trans h25
            clear h25
            clear ha hp
            exact Reg.Op1.passed rfl rfl e25 (hK _ _ rfl (fun j k _ _ => Reg.Adds.refl _ _ _))
          · intro val ac u hR hp ha K hK      -- 13: t28 := Op.indexAddr 23 t26 t27
            obtain ⟨w25, h25, r25⟩ := hp 10 (by decide)
            have e25 : (ac.tmps[25]?).getD undef = undef := (ha 25 (by decide)).trans h25
            clear h25
            clear ha hp
            exact Reg.Op1.passed rfl rfl e25 (hK _ _ rfl (fun j k _ _ => Reg.Adds.refl _ _ _))
          · intro val ac u hR hp ha K hK      -- 14: t29 := Op.load 35 t28
            obtain ⟨w25, h25, r25⟩ := hp 10 (by decide)
            have e25 : (ac.tmps[25]?).getD undef = undef := (ha 25 (by decide)).trans h25
            clear h25
            clear ha hp
            exact Reg.Op1.passed rfl rfl e25 (hK _ _ rfl (fun j k _ _ => Reg.Adds.refl _ _ _))
          · intro val ac u hR hp ha K hK      -- 15: t30 := Op.load 35 t6
            obtain ⟨w25, h25, r25⟩ := hp 10 (by decide)
            have e25 : (ac.tmps[25]?).getD undef = undef := (ha 25 (by decide)).trans h25
            clear h25
            clear ha hp
            exact Reg.Op1.passed rfl rfl e25 (hK _ _ rfl (fun j k _ _ => Reg.Adds.refl _ _ _))
          · intro val ac u hR hp ha K hK      -- 16: t31 := Op.call { value (Operand.func 43), args := #[t29, t30], argTypes := #[35, 35] }
            obtain ⟨w25, h25, r25⟩ := hp 10 (by decide)
            have e25 : (ac.tmps[25]?).getD undef = undef := (ha 25 (by decide)).trans h25
            clear h25
            clear ha hp
            exact Reg.Op1.passed rfl rfl e25 (hK _ _ rfl (fun j k _ _ => Reg.Adds.refl _ _ _))
          · intro val ac u hR hp ha K hK      -- 17: t32 := Op.pick t25 (const (Value.bool true)) t31
            obtain ⟨w22, h22, r22⟩ := hp 7 (by decide)
            have e22 : (ac.tmps[22]?).getD undef = .bool false := (ha 22 (by decide)).trans h22
            clear h22
            clear ha hp
            exact Reg.Op1.guarded rfl rfl e22 (fun h => by cases h) (fun _ => hK _ _ rfl (fun j k _ _ => Reg.Adds.refl _ _ _))
          · intro val ac u hR hp ha K hK      -- 18: t33 := Op.pick t22 t32 (const (Value.bool false))
            obtain ⟨w22, h22, r22⟩ := hp 7 (by decide)
            have e22 : (ac.tmps[22]?).getD undef = .bool false := (ha 22 (by decide)).trans h22
            clear h22
            obtain ⟨w32, h32, r32⟩ := hp 17 (by decide)
            have e32 : (ac.tmps[32]?).getD undef = undef := (ha 32 (by decide)).trans h32
            clear h32
            clear ha hp
            refine Reg.Op1.plain rfl ?_
            go_wp2
            exact ⟨rfl, hK _ _ rfl (fun j k _ _ => Reg.Adds.refl _ _ _)⟩
        intro val u hR H
        obtain ⟨wB, hv, rB⟩ := H 18 (by decide)
        have hv : val 18 = .bool false := hv
        have HKu : Hid (Below wr.heap.size wr u) := (Below.refl _ wr).drew.trans hR
        simp only [List.map_cons, List.map_nil, Reg.lay, Act.put, List.setIfInBounds_toArray, List.set_cons_succ, List.set_cons_zero, Nat.reduceAdd, hv]
        clear hR H hv rB
        obtain ⟨wy, hwy⟩ : ∃ z, z = u := ⟨_, rfl⟩
        subst hwy
        have HM2 : Hid (EBx wy (w.heap.size + 1) m) := H1.out.below HKu.out H1.out.lt
        have H02 : Hid (EBx wy w.heap.size ent0) := H0.out.below HKu.out H0.out.lt
        have HB2 : Hid (Below w.heap.size w wy) := HB.out.trans (HKu.out.mono HB.out.size)
        have HATS : Hid (∀ j u, (entCells e)[j]? = some u → wy.cell? ⟨b, o + k * 20 + j, none⟩ = some u) := (HAT.out.below HKu.out hbw).c
        clear H1 H0 HB HKu HAT hbw
        go_wp2
        go_roundw
        case rel => exact ⟨⟨k + 1, by omega, by rw [hts.out], by go_num, H02, Lib.hid (by rw [hts.out]; exact HM2.out), HB2⟩⟩
        case measure => simp [intOf]; omega
    · obtain rfl : k = es.length := by omega
      have d0 : decide ((es.length : Int) < (es.length : Int)) = false := by simp
      rw [List.take_length] at H1
      obtain ⟨⟨m, f⟩, hmf⟩ : ∃ mf, greatR key es = mf := ⟨_, rfl⟩
      rw [List.take_length]
      rw [hmf] at H1 ⊢
      have HMF := Lib.hid hmf
      clear hmf
      go_wp2_with (first | ((with_reducible refine Mem.load_agg _ _ entry_agg (w.heap.size + 1) 0 (entCells m) ?hx (entCells_length m) (fun j u hu => by rw [Nat.zero_add]; exact H1.out.cell hu) ?_); case hx => exact rfl) | ((with_reducible refine Mem.store_agg _ _ entry_agg w.heap.size (entCells ent0) (entCells m) ?hx ?hy H0.out (entCells_length m) (ent_one m) ?_); (case hx => exact rfl); (case hy => exact rfl); intro w3 hb3 hk3 hs3))
      refine bodyPost_ret (v := .tuple #[E m, .bool f]) ?_ rfl ⟨by rw [HMF.out], HB.out.trans (hk3.below (fun k h => by omega) HB.out.size)⟩
      rw [Mem.results_agg2 Try.results28 entry_agg rfl hb3]
      rfl
end Go.Proofs.Ytelephoalpphkaa
end
section
/- The document's Visible and Closed. No conditions but that the list is no great one. -/
set_option maxRecDepth 8000
namespace Go.Proofs.Ytelephoalpphkaa
open Go.ChangeShapes Go.WideShapes Go.ChangeAt Go.RowKit
set_option linter.unusedVariables false
set_option linter.unusedSimpArgs false
namespace Vec
def hasL (cut : Vc) (es : List Ent) : List Ent := es.filter fun e => hasD cut (dotE e)
theorem hasL_snoc (cut : Vc) (es : List Ent) (e : Ent) : hasL cut (es ++ [e]) = hasL cut es ++ (if hasD cut (dotE e) = true then [e] else []) := by
  unfold hasL
  rw [List.filter_append, List.filter_cons]
  rfl
theorem hasL_le (cut : Vc) (es : List Ent) : (hasL cut es).length ≤ es.length := List.length_filter_le _ _
theorem dot_at2 (e : Ent) {q : Nat} {u : Value} (hu : (dtCells (dotE e))[q]? = some u) : (entCells e)[q]? = some u := by
  match q, hu with
  | 0, hu => exact hu
  | 1, hu => exact hu
  | 2, hu => exact hu
  | q + 3, hu => cases hu
theorem deps_at2 (e : Ent) {q : Nat} {u : Value} (hu : (vcCells e.deps)[q]? = some u) : (entCells e)[9 + q]? = some u := by
  have hq : q < 9 := by have := (List.getElem?_eq_some_iff.1 hu).1; rwa [vcCells_length] at this
  match q, hq, hu with
  | 0, _, hu => exact hu
  | 1, _, hu => exact hu
  | 2, _, hu => exact hu
  | 3, _, hu => exact hu
  | 4, _, hu => exact hu
  | 5, _, hu => exact hu
  | 6, _, hu => exact hu
  | 7, _, hu => exact hu
  | 8, _, hu => exact hu
structure VdRel (w : World) (cut : Vc) (es : List Ent) (v8 vi : Value) (wr : World) : Prop where
  out : ∃ (k : Nat) (X : Option Addr) (c : Nat), k ≤ es.length ∧ v8 = .slice X (hasL cut (es.take k)).length c ∧ vi = .int .i64 k ∧ Hid (Mem.Own wr 35 20 X (hasL cut (es.take k)).length c ((hasL cut (es.take k)).flatMap entCells)) ∧ Hid (Mem.From (w.heap.size + 2) X) ∧ Hid (Vec.VBx wr w.heap.size cut) ∧ Hid (EBx wr (w.heap.size + 1) ent0) ∧ Hid (Below w.heap.size w wr)
end Vec
open Vec in
set_option maxHeartbeats 8000000 in
theorem refVisible_any (key : ByteArray) (cut : Vec.Vc) (A : Option Addr) (c : Nat) (es : List Vec.Ent) (B : Nat) (w : World) (hr : Mem.Rd w B A (es.flatMap Vec.entCells)) (hB : B ≤ w.heap.size) (hn : es.length ≤ 1000000) :
    Calls Try.prog 16 #[.string key, .agg (Vec.vcCells cut).toArray, .slice A es.length c] w fun e w' => e = .returned (.tuple #[Vec.E (Vec.visible key cut es).1, .bool (Vec.visible key cut es).2]) ∧ Below w.heap.size w w' := by
  have hm := Lib.hid (hr.more hB)
  clear hr
  go_enter Try.func16, Try.ntmps16
  go_wp2
  go_loopw [8, 9] (VdRel w cut es) (fun _ t _ => es.length - (intOf t).toNat)
  case atStart =>
    refine ⟨⟨0, none, 0, by omega, rfl, rfl, Mem.Own.nil _ _ _, Mem.From.none_ _, ?_, ?_, ?_⟩⟩
    · exact (Mem.Bx.new w 33 (vcCells cut).toArray rfl rfl : Vec.VBx _ _ cut).below (Reg.below_new _ _) (by simp)
    · exact EBx.new (w.alloc _) ent0 (by simp)
    · exact (Reg.below_new _ _).alloc (by simp) _
  case round =>
    obtain ⟨k, X, cx, hk, rfl, rfl, HO, HF, HV, H0, HB⟩ := hrel.out
    clear hrel
    by_cases hlt : k < es.length
    · obtain ⟨b, o, e, rfl, hb, he, hat⟩ := ent_elem hm.out hlt
      have HAT := Lib.hid (hat.below HB.out hb)
      have hts := Lib.hid (show hasL cut (es.take (k + 1)) = hasL cut (es.take k) ++ (if hasD cut (dotE e) = true then [e] else []) by rw [Mem.take_snoc he, hasL_snoc])
      have hln := Lib.hid (show (hasL cut (es.take k)).length ≤ 1000000 from Nat.le_trans (hasL_le _ _) (by rw [List.length_take]; omega))
      obtain ⟨l, hl⟩ : ∃ l, hasL cut (es.take k) = l := ⟨_, rfl⟩
      rw [hl] at HO hts hln ⊢
      have hbw := Nat.lt_of_lt_of_le hb HB.out.size
      have d0 : decide ((k : Int) < (es.length : Int)) = true := by simp; omega
      have HLT := Lib.hid hlt
      clear hat he hl
      go_upto_region 5 with fail
      cases hhd : hasD cut (dotE e)
      · have hts2 : Hid (hasL cut (es.take (k + 1)) = l) := by show _ = _; rw [hts.out, hhd, if_neg (by simp), List.append_nil]
        have HHD := Lib.hid hhd
        clear hhd hts
        refine Reg.wp_region_rel (by kernel_rfl) 35 7 rfl rfl (by kernel_rfl) (Reg.Adds) (Reg.Adds.refl) (Reg.Adds.trans)
          (fun i v u => match i with
            | 0 => v = .agg (vcCells cut).toArray
            | 1 => v = .slice (some ⟨b, o, none⟩) es.length c
            | 2 => v = .int .i64 k
            | 3 => v = .pointer (some ⟨b, o + k * 20, none⟩)
            | 4 => v = .pointer (some ⟨b, o + k * 20, none⟩)
            | 5 => v = .agg (dtCells (dotE e)).toArray
            | 6 => v = .bool false
            | _ => True) ?_ ?_
        · refine Reg.Steps.cons ?_ (Reg.Steps.cons ?_ (Reg.Steps.cons ?_ (Reg.Steps.cons ?_ (Reg.Steps.cons ?_ (Reg.Steps.cons ?_ (Reg.Steps.cons ?_ (Reg.Steps.nil _)))))))
          · intro val ac u hR hp ha K hK      -- 0: t16 := Op.load 33 t4
            have e4 : (ac.tmps[4]?).getD undef = .pointer (some ⟨w.heap.size, 0, none⟩) := ha 4 (by decide)
            clear ha hp
            refine Reg.Op1.plain rfl ?_
            have hVu : Vec.VBx u w.heap.size cut := Mem.Bx.below (w := wr.drew) HV.out hR HV.out.lt
            refine Mem.load_agg _ _ vec_agg w.heap.size 0 (vcCells cut) (Reg.eval_of e4) (vcCells_length _) (fun j u' hu => by rw [Nat.zero_add]; exact hVu.cell hu) ?_
            exact ⟨rfl, hK _ _ rfl (fun j k _ _ => Reg.Adds.refl _ _ _)⟩
          · intro val ac u hR hp ha K hK      -- 1: t17 := Op.move t2
            have e2 : (ac.tmps[2]?).getD undef = .slice (some ⟨b, o, none⟩) es.length c := ha 2 (by decide)
            clear ha hp
            refine Reg.Op1.plain rfl ?_
            go_wp2
            exact ⟨rfl, hK _ _ rfl (fun j k _ _ => Reg.Adds.refl _ _ _)⟩
          · intro val ac u hR hp ha K hK      -- 2: t18 := Op.move t9
            have e9 : (ac.tmps[9]?).getD undef = .int .i64 k := ha 9 (by decide)
            clear ha hp
            refine Reg.Op1.plain rfl ?_
            go_wp2
            exact ⟨rfl, hK _ _ rfl (fun j k _ _ => Reg.Adds.refl _ _ _)⟩
          · intro val ac u hR hp ha K hK      -- 3: t19 := Op.indexAddr 23 t17 t18
            obtain ⟨w17, h17, r17⟩ := hp 1 (by decide)
            have e17 : (ac.tmps[17]?).getD undef = .slice (some ⟨b, o, none⟩) es.length c := (ha 17 (by decide)).trans h17
            clear h17
            obtain ⟨w18, h18, r18⟩ := hp 2 (by decide)
            have e18 : (ac.tmps[18]?).getD undef = .int .i64 k := (ha 18 (by decide)).trans h18
            clear h18
            clear ha hp
            refine Reg.Op1.plain rfl ?_
            go_wp2
            exact ⟨rfl, hK _ _ rfl (fun j k _ _ => Reg.Adds.refl _ _ _)⟩
          · intro val ac u hR hp ha K hK      -- 4: t20 := Op.fieldAddr 35 t19 0
            obtain ⟨w19, h19, r19⟩ := hp 3 (by decide)
            have e19 : (ac.tmps[19]?).getD undef = .pointer (some ⟨b, o + k * 20, none⟩) := (ha 19 (by decide)).trans h19
            clear h19
            clear ha hp
            refine Reg.Op1.plain rfl ?_
            go_wp2
            exact ⟨rfl, hK _ _ rfl (fun j k _ _ => Reg.Adds.refl _ _ _)⟩
          · intro val ac u hR hp ha K hK      -- 5: t21 := Op.load 28 t20
            obtain ⟨w20, h20, r20⟩ := hp 4 (by decide)
            have e20 : (ac.tmps[20]?).getD undef = .pointer (some ⟨b, o + k * 20, none⟩) := (ha 20 (by decide)).trans h20
            clear h20
            clear ha hp
            refine Reg.Op1.plain rfl ?_
            refine Mem.load_agg _ _ dot_agg b (o + k * 20) (dtCells (dotE e)) (Reg.eval_of e20) (dtCells_length _) (fun q u' hu => (hR.cell (p := ⟨b, o + k * 20 + q, none⟩) hbw).trans (HAT.out.c q u' (Vec.dot_at2 e hu))) ?_
            exact ⟨rfl, hK _ _ rfl (fun j k _ _ => Reg.Adds.refl _ _ _)⟩
          · intro val ac u hR hp ha K hK      -- 6: t22 := Op.call { value (Operand.func 27), args := #[t16, t21], argTypes := #[33, 28] }
            obtain ⟨w16, h16, r16⟩ := hp 0 (by decide)
            have e16 : (ac.tmps[16]?).getD undef = .agg (vcCells cut).toArray := (ha 16 (by decide)).trans h16
            clear h16
            obtain ⟨w21, h21, r21⟩ := hp 5 (by decide)
            have e21 : (ac.tmps[21]?).getD undef = .agg (dtCells (dotE e)).toArray := (ha 21 (by decide)).trans h21
            clear h21
            clear ha hp
            refine Reg.Op1.plain rfl ?_
            go_wp2_with fail
            refine (refHas_any cut (dotE e) u).mono ?_
            rintro x w' ⟨rfl, hbw⟩
            rw [HHD.out]
            go_wp2_with fail
            exact ⟨rfl, hK _ _ rfl (fun j k _ _ => hbw)⟩
        intro val u hR H
        obtain ⟨wB, hv, rB⟩ := H 6 (by decide)
        have hv : val 6 = .bool false := hv
        have HKu : Hid (Below wr.heap.size wr u) := (Below.refl _ wr).drew.trans hR
        simp only [List.map_cons, List.map_nil, Reg.lay, Act.put, List.setIfInBounds_toArray, List.set_cons_succ, List.set_cons_zero, Nat.reduceAdd, hv]
        clear hR H hv rB
        obtain ⟨wy, hwy⟩ : ∃ z, z = u := ⟨_, rfl⟩
        subst hwy
        have HO2 := Lib.hid (HO.out.below HKu.out (fun q hq => HO.out.lt hq))
        have HV2 : Hid (Vec.VBx wy w.heap.size cut) := HV.out.below HKu.out HV.out.lt
        have H02 : Hid (EBx wy (w.heap.size + 1) ent0) := H0.out.below HKu.out H0.out.lt
        have HB2 : Hid (Below w.heap.size w wy) := HB.out.trans (HKu.out.mono HB.out.size)
        have HATS : Hid (∀ j u, (entCells e)[j]? = some u → wy.cell? ⟨b, o + k * 20 + j, none⟩ = some u) := (HAT.out.below HKu.out hbw).c
        clear HO HV H0 HB HKu HAT hbw
        go_wp2
        go_roundw
        case rel => exact ⟨⟨k + 1, X, cx, HLT.out, by rw [hts2.out], by go_num, by rw [hts2.out]; exact HO2, HF, HV2, H02, HB2⟩⟩
        case measure => have := HLT.out; simp [intOf]; omega
      · have hts2 : Hid (hasL cut (es.take (k + 1)) = l ++ [e]) := by show _ = _; rw [hts.out, hhd, if_pos rfl]
        have HHD := Lib.hid hhd
        clear hhd hts
        refine Reg.wp_region_rel (by kernel_rfl) 35 7 rfl rfl (by kernel_rfl) (Reg.Adds) (Reg.Adds.refl) (Reg.Adds.trans)
          (fun i v u => match i with
            | 0 => v = .agg (vcCells cut).toArray
            | 1 => v = .slice (some ⟨b, o, none⟩) es.length c
            | 2 => v = .int .i64 k
            | 3 => v = .pointer (some ⟨b, o + k * 20, none⟩)
            | 4 => v = .pointer (some ⟨b, o + k * 20, none⟩)
            | 5 => v = .agg (dtCells (dotE e)).toArray
            | 6 => v = .bool true
            | _ => True) ?_ ?_
        · refine Reg.Steps.cons ?_ (Reg.Steps.cons ?_ (Reg.Steps.cons ?_ (Reg.Steps.cons ?_ (Reg.Steps.cons ?_ (Reg.Steps.cons ?_ (Reg.Steps.cons ?_ (Reg.Steps.nil _)))))))
          · intro val ac u hR hp ha K hK      -- 0: t16 := Op.load 33 t4
            have e4 : (ac.tmps[4]?).getD undef = .pointer (some ⟨w.heap.size, 0, none⟩) := ha 4 (by decide)
            clear ha hp
            refine Reg.Op1.plain rfl ?_
            have hVu : Vec.VBx u w.heap.size cut := Mem.Bx.below (w := wr.drew) HV.out hR HV.out.lt
            refine Mem.load_agg _ _ vec_agg w.heap.size 0 (vcCells cut) (Reg.eval_of e4) (vcCells_length _) (fun j u' hu => by rw [Nat.zero_add]; exact hVu.cell hu) ?_
            exact ⟨rfl, hK _ _ rfl (fun j k _ _ => Reg.Adds.refl _ _ _)⟩
          · intro val ac u hR hp ha K hK      -- 1: t17 := Op.move t2
            have e2 : (ac.tmps[2]?).getD undef = .slice (some ⟨b, o, none⟩) es.length c := ha 2 (by decide)
            clear ha hp
            refine Reg.Op1.plain rfl ?_
            go_wp2
            exact ⟨rfl, hK _ _ rfl (fun j k _ _ => Reg.Adds.refl _ _ _)⟩
          · intro val ac u hR hp ha K hK      -- 2: t18 := Op.move t9
            have e9 : (ac.tmps[9]?).getD undef = .int .i64 k := ha 9 (by decide)
            clear ha hp
            refine Reg.Op1.plain rfl ?_
            go_wp2
            exact ⟨rfl, hK _ _ rfl (fun j k _ _ => Reg.Adds.refl _ _ _)⟩
          · intro val ac u hR hp ha K hK      -- 3: t19 := Op.indexAddr 23 t17 t18
            obtain ⟨w17, h17, r17⟩ := hp 1 (by decide)
            have e17 : (ac.tmps[17]?).getD undef = .slice (some ⟨b, o, none⟩) es.length c := (ha 17 (by decide)).trans h17
            clear h17
            obtain ⟨w18, h18, r18⟩ := hp 2 (by decide)
            have e18 : (ac.tmps[18]?).getD undef = .int .i64 k := (ha 18 (by decide)).trans h18
            clear h18
            clear ha hp
            refine Reg.Op1.plain rfl ?_
            go_wp2
            exact ⟨rfl, hK _ _ rfl (fun j k _ _ => Reg.Adds.refl _ _ _)⟩
          · intro val ac u hR hp ha K hK      -- 4: t20 := Op.fieldAddr 35 t19 0
            obtain ⟨w19, h19, r19⟩ := hp 3 (by decide)
            have e19 : (ac.tmps[19]?).getD undef = .pointer (some ⟨b, o + k * 20, none⟩) := (ha 19 (by decide)).trans h19
            clear h19
            clear ha hp
            refine Reg.Op1.plain rfl ?_
            go_wp2
            exact ⟨rfl, hK _ _ rfl (fun j k _ _ => Reg.Adds.refl _ _ _)⟩
          · intro val ac u hR hp ha K hK      -- 5: t21 := Op.load 28 t20
            obtain ⟨w20, h20, r20⟩ := hp 4 (by decide)
            have e20 : (ac.tmps[20]?).getD undef = .pointer (some ⟨b, o + k * 20, none⟩) := (ha 20 (by decide)).trans h20
            clear h20
            clear ha hp
            refine Reg.Op1.plain rfl ?_
            refine Mem.load_agg _ _ dot_agg b (o + k * 20) (dtCells (dotE e)) (Reg.eval_of e20) (dtCells_length _) (fun q u' hu => (hR.cell (p := ⟨b, o + k * 20 + q, none⟩) hbw).trans (HAT.out.c q u' (Vec.dot_at2 e hu))) ?_
            exact ⟨rfl, hK _ _ rfl (fun j k _ _ => Reg.Adds.refl _ _ _)⟩
          · intro val ac u hR hp ha K hK      -- 6: t22 := Op.call { value (Operand.func 27), args := #[t16, t21], argTypes := #[33, 28] }
            obtain ⟨w16, h16, r16⟩ := hp 0 (by decide)
            have e16 : (ac.tmps[16]?).getD undef = .agg (vcCells cut).toArray := (ha 16 (by decide)).trans h16
            clear h16
            obtain ⟨w21, h21, r21⟩ := hp 5 (by decide)
            have e21 : (ac.tmps[21]?).getD undef = .agg (dtCells (dotE e)).toArray := (ha 21 (by decide)).trans h21
            clear h21
            clear ha hp
            refine Reg.Op1.plain rfl ?_
            go_wp2_with fail
            refine (refHas_any cut (dotE e) u).mono ?_
            rintro x w' ⟨rfl, hbw⟩
            rw [HHD.out]
            go_wp2_with fail
            exact ⟨rfl, hK _ _ rfl (fun j k _ _ => hbw)⟩
        intro val u hR H
        obtain ⟨wB, hv, rB⟩ := H 6 (by decide)
        have hv : val 6 = .bool true := hv
        have HKu : Hid (Below wr.heap.size wr u) := (Below.refl _ wr).drew.trans hR
        simp only [List.map_cons, List.map_nil, Reg.lay, Act.put, List.setIfInBounds_toArray, List.set_cons_succ, List.set_cons_zero, Nat.reduceAdd, hv]
        clear hR H hv rB
        obtain ⟨wy, hwy⟩ : ∃ z, z = u := ⟨_, rfl⟩
        subst hwy
        have HO2 := Lib.hid (HO.out.below HKu.out (fun q hq => HO.out.lt hq))
        have HV2 : Hid (Vec.VBx wy w.heap.size cut) := HV.out.below HKu.out HV.out.lt
        have H02 : Hid (EBx wy (w.heap.size + 1) ent0) := H0.out.below HKu.out H0.out.lt
        have HB2 : Hid (Below w.heap.size w wy) := HB.out.trans (HKu.out.mono HB.out.size)
        have HATS : Hid (∀ j u, (entCells e)[j]? = some u → wy.cell? ⟨b, o + k * 20 + j, none⟩ = some u) := (HAT.out.below HKu.out hbw).c
        clear HO HV H0 HB HKu HAT hbw
        have ho := ent_one e
        have hl1 := hln.out
        have hn63 : l.length + 1 ≤ maxLen := by unfold maxLen; omega
        go_upto_region 4 with (first
          | ((with_reducible refine Mem.load_agg _ _ entry_agg b (o + k * 20) (entCells e) ?hx (entCells_length e) HATS.out ?_); case hx => exact rfl)
          | ((with_reducible refine Mem.build1_agg _ _ 20 _ Try.underlying23 entry_zero (by decide) (by decide) (entCells e) ?hra (entCells_length _) ?_); (case hra => exact rfl))
          | (at_builtin; refine Mem.wpList_app _ rfl (.tmp 23) (.tmp 28) _ rfl entries_elem X l.length cx _ rfl (wy.heap.size + 1) (some ⟨wy.heap.size, 0, none⟩) 1 1 (entCells e) rfl ?_ (HO2.out.alloc _) (Mem.Rd.alloc_new wy _ _ _ rfl) rfl ho hn63 (by omega); intro X3 c3 w9 hown hg4 hat; have HO9 := Lib.hid hown; have HG9 := Lib.hid hg4; have HAT9 := Lib.hid hat; clear hown hg4 hat))
        have hk9 : Mem.Keeps (fun q => Mem.blk X = some q) wy w9 := ((Mem.Keeps.refl (fun q => Mem.blk X = some q) wy).alloc _).grown HG9.out (fun k hk _ => hk)
        have HV9 : Hid (Vec.VBx w9 w.heap.size cut) := HV2.out.keeps hk9 (fun h => by have := HF.out.blk _ h; omega)
        have H09 : Hid (EBx w9 (w.heap.size + 1) ent0) := H02.out.keeps hk9 (fun h => by have := HF.out.blk _ h; omega)
        have HB9 : Hid (Below w.heap.size w w9) := HB2.out.trans (hk9.below (fun q hq => by have := HF.out.blk _ hq; omega) HB2.out.size)
        have HF9 : Hid (Mem.From (w.heap.size + 2) X3) := by
          rcases HAT9.out with h | h
          · rw [h]; exact HF.out
          · rw [h]
            have h1 := H02.out.lt
            have h2 : (wy.alloc (.cells (entCells e).toArray 35)).heap.size = wy.heap.size + 1 := Array.size_push _
            exact Mem.From.some_ (by omega)
        have e1 : (hasL cut (es.take (k + 1))).length = l.length + 1 := by rw [hts2.out]; exact List.length_append
        have HO10 : Hid (Mem.Own w9 35 20 X3 (hasL cut (es.take (k + 1))).length c3 ((hasL cut (es.take (k + 1))).flatMap entCells)) := by
          show Mem.Own _ _ _ _ _ _ _
          rw [e1, hts2.out, List.flatMap_append]
          exact HO9.out
        have E1 := Lib.hid e1
        clear hk9 ho hl1 hn63 e1 HO9 HG9 HAT9 HO2 HV2 H02 HB2 HATS
        go_wp2
        go_roundw
        case rel => exact ⟨⟨k + 1, X3, c3, HLT.out, by rw [E1.out], by go_num, HO10, HF9, HV9, H09, HB9⟩⟩
        case measure => have := HLT.out; simp [intOf]; omega
    · obtain rfl : k = es.length := by omega
      have d0 : decide ((es.length : Int) < (es.length : Int)) = false := by simp
      rw [List.take_length] at HO ⊢
      have hln : (hasL cut es).length ≤ 1000000 := Nat.le_trans (hasL_le _ _) hn
      have hg : greatR key (hasL cut es) = visible key cut es := visible_great key cut es
      have HGR := Lib.hid (refGreatest_any key X cx (hasL cut es) wr.heap.size wr HO.out.rd (Nat.le_refl _) (by unfold maxLen; omega))
      rw [hg] at HGR
      obtain ⟨⟨m, f⟩, hmf⟩ : ∃ mf, visible key cut es = mf := ⟨_, rfl⟩
      rw [hmf] at HGR
      have HMF := Lib.hid hmf
      have ho := ent_one m
      clear hmf hg
      go_wp2_with (first
        | (go_at_call 28; (refine HGR.out.mono ?_); rintro x w2 ⟨rfl, hb2⟩; have HB2 := Lib.hid (HB.out.trans (hb2.mono HB.out.size)); have H02 : Hid (EBx w2 (w.heap.size + 1) ent0) := H0.out.below hb2 H0.out.lt; clear hb2)
        | ((with_reducible refine Mem.store_agg _ _ entry_agg (w.heap.size + 1) (entCells ent0) (entCells m) ?hxs ?hys H02.out (entCells_length m) ho ?_); (case hxs => exact rfl); (case hys => exact rfl); intro w3 hb3 hk3 hs3))
      refine bodyPost_ret (v := .tuple #[E m, .bool f]) ?_ rfl ⟨by rw [HMF.out], HB2.out.trans (hk3.below (fun k h => by omega) HB2.out.size)⟩
      rw [Mem.results_agg2 Try.results16 entry_agg rfl hb3]
      rfl
namespace Vec
structure CdRel (w : World) (cut : Vc) (es : List Ent) (vi : Value) (wr : World) : Prop where
  out : ∃ k : Nat, k ≤ es.length ∧ vi = .int .i64 k ∧ Hid (closedP cut (es.take k) = true) ∧ Hid (Vec.VBx wr w.heap.size cut) ∧ Hid (Below w.heap.size w wr)
theorem closed_snoc (cut : Vc) (es : List Ent) (e : Ent) : closedP cut (es ++ [e]) = (closedP cut es && (!hasD cut (dotE e) || coversV cut e.deps)) := by unfold closedP; rw [List.all_append]; simp
theorem closed_no {cut : Vc} {es : List Ent} {e : Ent} (he : e ∈ es) (h : (!hasD cut (dotE e) || coversV cut e.deps) = false) : closedP cut es = false := by
  unfold closedP
  rw [List.all_eq_false]
  exact ⟨e, he, by rw [h]; simp⟩
end Vec
open Vec in
set_option maxHeartbeats 8000000 in
theorem refClosed_any (cut : Vec.Vc) (A : Option Addr) (c : Nat) (es : List Vec.Ent) (B : Nat) (w : World) (hr : Mem.Rd w B A (es.flatMap Vec.entCells)) (hB : B ≤ w.heap.size) (hn : es.length ≤ 1000000) :
    Calls Try.prog 18 #[.agg (Vec.vcCells cut).toArray, .slice A es.length c] w fun e w' => e = .returned (.bool (Vec.closedP cut es)) ∧ Below w.heap.size w w' := by
  have hm := Lib.hid (hr.more hB)
  clear hr
  obtain ⟨z, hz⟩ : ∃ z, closedP cut es = z := ⟨_, rfl⟩
  rw [hz]
  have HZ := Lib.hid hz
  clear hz
  go_enter Try.func18, Try.ntmps18
  go_wp2
  go_loopw [5] (CdRel w cut es) (fun t _ => es.length - (intOf t).toNat)
  case atStart =>
    exact ⟨⟨0, by omega, rfl, rfl, Mem.Bx.new w 33 (vcCells cut).toArray rfl rfl, Reg.below_new _ _⟩⟩
  case round =>
    obtain ⟨k, hk, rfl, HT, HV, HB⟩ := hrel.out
    clear hrel
    by_cases hlt : k < es.length
    · obtain ⟨b, o, e, rfl, hb, he, hat⟩ := ent_elem hm.out hlt
      have HAT := Lib.hid (hat.below HB.out hb)
      have hts := Lib.hid (show closedP cut (es.take (k + 1)) = (closedP cut (es.take k) && (!hasD cut (dotE e) || coversV cut e.deps)) by rw [Mem.take_snoc he, closed_snoc])
      have HME := Lib.hid (List.mem_of_getElem? he)
      have hbw := Nat.lt_of_lt_of_le hb HB.out.size
      have d0 : decide ((k : Int) < (es.length : Int)) = true := by simp; omega
      have HLT := Lib.hid hlt
      clear hat he
      go_upto_region 4 with fail
      cases hhd : hasD cut (dotE e)
      · have hts2 : Hid (closedP cut (es.take (k + 1)) = true) := by show _ = _; rw [hts.out, HT.out, hhd]; rfl
        have HHD := Lib.hid hhd
        have HCV : Hid (coversV cut e.deps = coversV cut e.deps) := rfl
        clear hhd hts
        refine Reg.wp_region_rel (by kernel_rfl) 29 17 rfl rfl (by kernel_rfl) (Reg.Adds) (Reg.Adds.refl) (Reg.Adds.trans)
          (fun i v u => match i with
            | 0 => v = .agg (vcCells cut).toArray
            | 1 => v = .slice (some ⟨b, o, none⟩) es.length c
            | 2 => v = .int .i64 k
            | 3 => v = .pointer (some ⟨b, o + k * 20, none⟩)
            | 4 => v = .pointer (some ⟨b, o + k * 20, none⟩)
            | 5 => v = .agg (dtCells (dotE e)).toArray
            | 6 => v = .bool false
            | 7 => v = .bool false
            | 8 => v = undef
            | 9 => v = undef
            | 10 => v = undef
            | 11 => v = undef
            | 12 => v = undef
            | 13 => v = undef
            | 14 => v = undef
            | 15 => v = undef
            | 16 => v = .bool false
            | _ => True) ?_ ?_
        · refine Reg.Steps.cons ?_ (Reg.Steps.cons ?_ (Reg.Steps.cons ?_ (Reg.Steps.cons ?_ (Reg.Steps.cons ?_ (Reg.Steps.cons ?_ (Reg.Steps.cons ?_ (Reg.Steps.cons ?_ (Reg.Steps.cons ?_ (Reg.Steps.cons ?_ (Reg.Steps.cons ?_ (Reg.Steps.cons ?_ (Reg.Steps.cons ?_ (Reg.Steps.cons ?_ (Reg.Steps.cons ?_ (Reg.Steps.cons ?_ (Reg.Steps.cons ?_ (Reg.Steps.nil _)))))))))))))))))
          · intro val ac u hR hp ha K hK      -- 0: t12 := Op.load 33 t2
            have e2 : (ac.tmps[2]?).getD undef = .pointer (some ⟨w.heap.size, 0, none⟩) := ha 2 (by decide)
            clear ha hp
            refine Reg.Op1.plain rfl ?_
            have hVu : Vec.VBx u w.heap.size cut := Mem.Bx.below (w := wr.drew) HV.out hR HV.out.lt
            refine Mem.load_agg _ _ vec_agg w.heap.size 0 (vcCells cut) (Reg.eval_of e2) (vcCells_length _) (fun j u' hu => by rw [Nat.zero_add]; exact hVu.cell hu) ?_
            exact ⟨rfl, hK _ _ rfl (fun j k _ _ => Reg.Adds.refl _ _ _)⟩
          · intro val ac u hR hp ha K hK      -- 1: t13 := Op.move t1
            have e1 : (ac.tmps[1]?).getD undef = .slice (some ⟨b, o, none⟩) es.length c := ha 1 (by decide)
            clear ha hp
            refine Reg.Op1.plain rfl ?_
            go_wp2
            exact ⟨rfl, hK _ _ rfl (fun j k _ _ => Reg.Adds.refl _ _ _)⟩
          · intro val ac u hR hp ha K hK      -- 2: t14 := Op.move t5
            have e5 : (ac.tmps[5]?).getD undef = .int .i64 k := ha 5 (by decide)
            clear ha hp
            refine Reg.Op1.plain rfl ?_
            go_wp2
            exact ⟨rfl, hK _ _ rfl (fun j k _ _ => Reg.Adds.refl _ _ _)⟩
          · intro val ac u hR hp ha K hK      -- 3: t15 := Op.indexAddr 23 t13 t14
            obtain ⟨w13, h13, r13⟩ := hp 1 (by decide)
            have e13 : (ac.tmps[13]?).getD undef = .slice (some ⟨b, o, none⟩) es.length c := (ha 13 (by decide)).trans h13
            clear h13
            obtain ⟨w14, h14, r14⟩ := hp 2 (by decide)
            have e14 : (ac.tmps[14]?).getD undef = .int .i64 k := (ha 14 (by decide)).trans h14
            clear h14
            clear ha hp
            refine Reg.Op1.plain rfl ?_
            go_wp2
            exact ⟨rfl, hK _ _ rfl (fun j k _ _ => Reg.Adds.refl _ _ _)⟩
          · intro val ac u hR hp ha K hK      -- 4: t16 := Op.fieldAddr 35 t15 0
            obtain ⟨w15, h15, r15⟩ := hp 3 (by decide)
            have e15 : (ac.tmps[15]?).getD undef = .pointer (some ⟨b, o + k * 20, none⟩) := (ha 15 (by decide)).trans h15
            clear h15
            clear ha hp
            refine Reg.Op1.plain rfl ?_
            go_wp2
            exact ⟨rfl, hK _ _ rfl (fun j k _ _ => Reg.Adds.refl _ _ _)⟩
          · intro val ac u hR hp ha K hK      -- 5: t17 := Op.load 28 t16
            obtain ⟨w16, h16, r16⟩ := hp 4 (by decide)
            have e16 : (ac.tmps[16]?).getD undef = .pointer (some ⟨b, o + k * 20, none⟩) := (ha 16 (by decide)).trans h16
            clear h16
            clear ha hp
            refine Reg.Op1.plain rfl ?_
            refine Mem.load_agg _ _ dot_agg b (o + k * 20) (dtCells (dotE e)) (Reg.eval_of e16) (dtCells_length _) (fun q u' hu => (hR.cell (p := ⟨b, o + k * 20 + q, none⟩) hbw).trans (HAT.out.c q u' (Vec.dot_at2 e hu))) ?_
            exact ⟨rfl, hK _ _ rfl (fun j k _ _ => Reg.Adds.refl _ _ _)⟩
          · intro val ac u hR hp ha K hK      -- 6: t18 := Op.call { value (Operand.func 27), args := #[t12, t17], argTypes := #[33, 28] }
            obtain ⟨w12, h12, r12⟩ := hp 0 (by decide)
            have e12 : (ac.tmps[12]?).getD undef = .agg (vcCells cut).toArray := (ha 12 (by decide)).trans h12
            clear h12
            obtain ⟨w17, h17, r17⟩ := hp 5 (by decide)
            have e17 : (ac.tmps[17]?).getD undef = .agg (dtCells (dotE e)).toArray := (ha 17 (by decide)).trans h17
            clear h17
            clear ha hp
            refine Reg.Op1.plain rfl ?_
            go_wp2_with fail
            refine (refHas_any cut (dotE e) u).mono ?_
            rintro x w' ⟨rfl, hbw⟩
            rw [HHD.out]
            go_wp2_with fail
            exact ⟨rfl, hK _ _ rfl (fun j k _ _ => hbw)⟩
          · intro val ac u hR hp ha K hK      -- 7: t19 := Op.move t18
            obtain ⟨w18, h18, r18⟩ := hp 6 (by decide)
            have e18 : (ac.tmps[18]?).getD undef = .bool false := (ha 18 (by decide)).trans h18
            clear h18
            clear ha hp
            refine Reg.Op1.plain rfl ?_
            go_wp2
            exact ⟨rfl, hK _ _ rfl (fun j k _ _ => Reg.Adds.refl _ _ _)⟩
          · intro val ac u hR hp ha K hK      -- 8: t20 := Op.load 33 t2
            obtain ⟨w19, h19, r19⟩ := hp 7 (by decide)
            have e19 : (ac.tmps[19]?).getD undef = .bool false := (ha 19 (by decide)).trans h19
            clear h19
            clear ha hp
            exact Reg.Op1.guarded rfl rfl e19 (fun h => by cases h) (fun _ => hK _ _ rfl (fun j k _ _ => Reg.Adds.refl _ _ _))
          · intro val ac u hR hp ha K hK      -- 9: t21 := Op.move t1
            obtain ⟨w19, h19, r19⟩ := hp 7 (by decide)
            have e19 : (ac.tmps[19]?).getD undef = .bool false := (ha 19 (by decide)).trans h19
            clear h19
            clear ha hp
            exact Reg.Op1.guarded rfl rfl e19 (fun h => by cases h) (fun _ => hK _ _ rfl (fun j k _ _ => Reg.Adds.refl _ _ _))
          · intro val ac u hR hp ha K hK      -- 10: t22 := Op.move t5
            obtain ⟨w19, h19, r19⟩ := hp 7 (by decide)
            have e19 : (ac.tmps[19]?).getD undef = .bool false := (ha 19 (by decide)).trans h19
            clear h19
            clear ha hp
            exact Reg.Op1.guarded rfl rfl e19 (fun h => by cases h) (fun _ => hK _ _ rfl (fun j k _ _ => Reg.Adds.refl _ _ _))
          · intro val ac u hR hp ha K hK      -- 11: t23 := Op.indexAddr 23 t21 t22
            obtain ⟨w19, h19, r19⟩ := hp 7 (by decide)
            have e19 : (ac.tmps[19]?).getD undef = .bool false := (ha 19 (by decide)).trans h19
            clear h19
            clear ha hp
            exact Reg.Op1.guarded rfl rfl e19 (fun h => by cases h) (fun _ => hK _ _ rfl (fun j k _ _ => Reg.Adds.refl _ _ _))
          · intro val ac u hR hp ha K hK      -- 12: t24 := Op.fieldAddr 35 t23 5
            obtain ⟨w19, h19, r19⟩ := hp 7 (by decide)
            have e19 : (ac.tmps[19]?).getD undef = .bool false := (ha 19 (by decide)).trans h19
            clear h19
            clear ha hp
            exact Reg.Op1.guarded rfl rfl e19 (fun h => by cases h) (fun _ => hK _ _ rfl (fun j k _ _ => Reg.Adds.refl _ _ _))
          · intro val ac u hR hp ha K hK      -- 13: t25 := Op.load 33 t24
            obtain ⟨w19, h19, r19⟩ := hp 7 (by decide)
            have e19 : (ac.tmps[19]?).getD undef = .bool false := (ha 19 (by decide)).trans h19
            clear h19
            clear ha hp
            exact Reg.Op1.guarded rfl rfl e19 (fun h => by cases h) (fun _ => hK _ _ rfl (fun j k _ _ => Reg.Adds.refl _ _ _))
          · intro val ac u hR hp ha K hK      -- 14: t26 := Op.call { value (Operand.func 30), args := #[t20, t25], argTypes := #[33, 33] }
            obtain ⟨w19, h19, r19⟩ := hp 7 (by decide)
            have e19 : (ac.tmps[19]?).getD undef = .bool false := (ha 19 (by decide)).trans h19
            clear h19
            clear ha hp
            exact Reg.Op1.guarded rfl rfl e19 (fun h => by cases h) (fun _ => hK _ _ rfl (fun j k _ _ => Reg.Adds.refl _ _ _))
          · intro val ac u hR hp ha K hK      -- 15: t27 := Op.unOp UnOp.not 4 t26
            obtain ⟨w19, h19, r19⟩ := hp 7 (by decide)
            have e19 : (ac.tmps[19]?).getD undef = .bool false := (ha 19 (by decide)).trans h19
            clear h19
            clear ha hp
            exact Reg.Op1.guarded rfl rfl e19 (fun h => by cases h) (fun _ => hK _ _ rfl (fun j k _ _ => Reg.Adds.refl _ _ _))
          · intro val ac u hR hp ha K hK      -- 16: t28 := Op.pick t19 t27 (const (Value.bool false))
            obtain ⟨w19, h19, r19⟩ := hp 7 (by decide)
            have e19 : (ac.tmps[19]?).getD undef = .bool false := (ha 19 (by decide)).trans h19
            clear h19
            obtain ⟨w27, h27, r27⟩ := hp 15 (by decide)
            have e27 : (ac.tmps[27]?).getD undef = undef := (ha 27 (by decide)).trans h27
            clear h27
            clear ha hp
            refine Reg.Op1.plain rfl ?_
            go_wp2
            exact ⟨rfl, hK _ _ rfl (fun j k _ _ => Reg.Adds.refl _ _ _)⟩
        intro val u hR H
        obtain ⟨wB, hv, rB⟩ := H 16 (by decide)
        have hv : val 16 = .bool false := hv
        have HKu : Hid (Below wr.heap.size wr u) := (Below.refl _ wr).drew.trans hR
        simp only [List.map_cons, List.map_nil, Reg.lay, Act.put, List.setIfInBounds_toArray, List.set_cons_succ, List.set_cons_zero, Nat.reduceAdd, hv]
        clear hR H hv rB
        obtain ⟨wy, hwy⟩ : ∃ z, z = u := ⟨_, rfl⟩
        subst hwy
        have HV2 : Hid (Vec.VBx wy w.heap.size cut) := HV.out.below HKu.out HV.out.lt
        have HB2 : Hid (Below w.heap.size w wy) := HB.out.trans (HKu.out.mono HB.out.size)
        clear HV HB HKu HAT hbw
        go_wp2
        go_roundw
        case rel => exact ⟨⟨k + 1, HLT.out, by go_num, hts2, HV2, HB2⟩⟩
        case measure => have := HLT.out; simp [intOf]; omega
      · cases hcv : coversV cut e.deps
        · obtain rfl : z = false := by rw [← HZ.out]; exact closed_no HME.out (by rw [hhd, hcv]; rfl)
          have HHD := Lib.hid hhd
          have HCV := Lib.hid hcv
          clear hhd hcv hts
          refine Reg.wp_region_rel (by kernel_rfl) 29 17 rfl rfl (by kernel_rfl) (Reg.Adds) (Reg.Adds.refl) (Reg.Adds.trans)
            (fun i v u => match i with
              | 0 => v = .agg (vcCells cut).toArray
              | 1 => v = .slice (some ⟨b, o, none⟩) es.length c
              | 2 => v = .int .i64 k
              | 3 => v = .pointer (some ⟨b, o + k * 20, none⟩)
              | 4 => v = .pointer (some ⟨b, o + k * 20, none⟩)
              | 5 => v = .agg (dtCells (dotE e)).toArray
              | 6 => v = .bool true
              | 7 => v = .bool true
              | 8 => v = .agg (vcCells cut).toArray
              | 9 => v = .slice (some ⟨b, o, none⟩) es.length c
              | 10 => v = .int .i64 k
              | 11 => v = .pointer (some ⟨b, o + k * 20, none⟩)
              | 12 => v = .pointer (some ⟨b, o + k * 20 + 9, none⟩)
              | 13 => v = .agg (vcCells e.deps).toArray
              | 14 => v = .bool false
              | 15 => v = .bool true
              | 16 => v = .bool true
              | _ => True) ?_ ?_
          · refine Reg.Steps.cons ?_ (Reg.Steps.cons ?_ (Reg.Steps.cons ?_ (Reg.Steps.cons ?_ (Reg.Steps.cons ?_ (Reg.Steps.cons ?_ (Reg.Steps.cons ?_ (Reg.Steps.cons ?_ (Reg.Steps.cons ?_ (Reg.Steps.cons ?_ (Reg.Steps.cons ?_ (Reg.Steps.cons ?_ (Reg.Steps.cons ?_ (Reg.Steps.cons ?_ (Reg.Steps.cons ?_ (Reg.Steps.cons ?_ (Reg.Steps.cons ?_ (Reg.Steps.nil _)))))))))))))))))
            · intro val ac u hR hp ha K hK      -- 0: t12 := Op.load 33 t2
              have e2 : (ac.tmps[2]?).getD undef = .pointer (some ⟨w.heap.size, 0, none⟩) := ha 2 (by decide)
              clear ha hp
              refine Reg.Op1.plain rfl ?_
              have hVu : Vec.VBx u w.heap.size cut := Mem.Bx.below (w := wr.drew) HV.out hR HV.out.lt
              refine Mem.load_agg _ _ vec_agg w.heap.size 0 (vcCells cut) (Reg.eval_of e2) (vcCells_length _) (fun j u' hu => by rw [Nat.zero_add]; exact hVu.cell hu) ?_
              exact ⟨rfl, hK _ _ rfl (fun j k _ _ => Reg.Adds.refl _ _ _)⟩
            · intro val ac u hR hp ha K hK      -- 1: t13 := Op.move t1
              have e1 : (ac.tmps[1]?).getD undef = .slice (some ⟨b, o, none⟩) es.length c := ha 1 (by decide)
              clear ha hp
              refine Reg.Op1.plain rfl ?_
              go_wp2
              exact ⟨rfl, hK _ _ rfl (fun j k _ _ => Reg.Adds.refl _ _ _)⟩
            · intro val ac u hR hp ha K hK      -- 2: t14 := Op.move t5
              have e5 : (ac.tmps[5]?).getD undef = .int .i64 k := ha 5 (by decide)
              clear ha hp
              refine Reg.Op1.plain rfl ?_
              go_wp2
              exact ⟨rfl, hK _ _ rfl (fun j k _ _ => Reg.Adds.refl _ _ _)⟩
            · intro val ac u hR hp ha K hK      -- 3: t15 := Op.indexAddr 23 t13 t14
              obtain ⟨w13, h13, r13⟩ := hp 1 (by decide)
              have e13 : (ac.tmps[13]?).getD undef = .slice (some ⟨b, o, none⟩) es.length c := (ha 13 (by decide)).trans h13
              clear h13
              obtain ⟨w14, h14, r14⟩ := hp 2 (by decide)
              have e14 : (ac.tmps[14]?).getD undef = .int .i64 k := (ha 14 (by decide)).trans h14
              clear h14
              clear ha hp
              refine Reg.Op1.plain rfl ?_
              go_wp2
              exact ⟨rfl, hK _ _ rfl (fun j k _ _ => Reg.Adds.refl _ _ _)⟩
            · intro val ac u hR hp ha K hK      -- 4: t16 := Op.fieldAddr 35 t15 0
              obtain ⟨w15, h15, r15⟩ := hp 3 (by decide)
              have e15 : (ac.tmps[15]?).getD undef = .pointer (some ⟨b, o + k * 20, none⟩) := (ha 15 (by decide)).trans h15
              clear h15
              clear ha hp
              refine Reg.Op1.plain rfl ?_
              go_wp2
              exact ⟨rfl, hK _ _ rfl (fun j k _ _ => Reg.Adds.refl _ _ _)⟩
            · intro val ac u hR hp ha K hK      -- 5: t17 := Op.load 28 t16
              obtain ⟨w16, h16, r16⟩ := hp 4 (by decide)
              have e16 : (ac.tmps[16]?).getD undef = .pointer (some ⟨b, o + k * 20, none⟩) := (ha 16 (by decide)).trans h16
              clear h16
              clear ha hp
              refine Reg.Op1.plain rfl ?_
              refine Mem.load_agg _ _ dot_agg b (o + k * 20) (dtCells (dotE e)) (Reg.eval_of e16) (dtCells_length _) (fun q u' hu => (hR.cell (p := ⟨b, o + k * 20 + q, none⟩) hbw).trans (HAT.out.c q u' (Vec.dot_at2 e hu))) ?_
              exact ⟨rfl, hK _ _ rfl (fun j k _ _ => Reg.Adds.refl _ _ _)⟩
            · intro val ac u hR hp ha K hK      -- 6: t18 := Op.call { value (Operand.func 27), args := #[t12, t17], argTypes := #[33, 28] }
              obtain ⟨w12, h12, r12⟩ := hp 0 (by decide)
              have e12 : (ac.tmps[12]?).getD undef = .agg (vcCells cut).toArray := (ha 12 (by decide)).trans h12
              clear h12
              obtain ⟨w17, h17, r17⟩ := hp 5 (by decide)
              have e17 : (ac.tmps[17]?).getD undef = .agg (dtCells (dotE e)).toArray := (ha 17 (by decide)).trans h17
              clear h17
              clear ha hp
              refine Reg.Op1.plain rfl ?_
              go_wp2_with fail
              refine (refHas_any cut (dotE e) u).mono ?_
              rintro x w' ⟨rfl, hbw⟩
              rw [HHD.out]
              go_wp2_with fail
              exact ⟨rfl, hK _ _ rfl (fun j k _ _ => hbw)⟩
            · intro val ac u hR hp ha K hK      -- 7: t19 := Op.move t18
              obtain ⟨w18, h18, r18⟩ := hp 6 (by decide)
              have e18 : (ac.tmps[18]?).getD undef = .bool true := (ha 18 (by decide)).trans h18
              clear h18
              clear ha hp
              refine Reg.Op1.plain rfl ?_
              go_wp2
              exact ⟨rfl, hK _ _ rfl (fun j k _ _ => Reg.Adds.refl _ _ _)⟩
            · intro val ac u hR hp ha K hK      -- 8: t20 := Op.load 33 t2
              have e2 : (ac.tmps[2]?).getD undef = .pointer (some ⟨w.heap.size, 0, none⟩) := ha 2 (by decide)
              obtain ⟨w19, h19, r19⟩ := hp 7 (by decide)
              have e19 : (ac.tmps[19]?).getD undef = .bool true := (ha 19 (by decide)).trans h19
              clear h19
              clear ha hp
              refine Reg.Op1.guarded rfl rfl e19 (fun _ => Reg.Op1.plain rfl ?_) (fun h => absurd rfl h)
              have hVu : Vec.VBx u w.heap.size cut := Mem.Bx.below (w := wr.drew) HV.out hR HV.out.lt
              refine Mem.load_aggG _ _ vec_agg w.heap.size 0 (vcCells cut) (by simp [Region.wanted]) (Reg.eval_of e2) (vcCells_length _) (fun j u' hu => by rw [Nat.zero_add]; exact hVu.cell hu) ?_
              exact ⟨rfl, hK _ _ rfl (fun j k _ _ => Reg.Adds.refl _ _ _)⟩
            · intro val ac u hR hp ha K hK      -- 9: t21 := Op.move t1
              have e1 : (ac.tmps[1]?).getD undef = .slice (some ⟨b, o, none⟩) es.length c := ha 1 (by decide)
              obtain ⟨w19, h19, r19⟩ := hp 7 (by decide)
              have e19 : (ac.tmps[19]?).getD undef = .bool true := (ha 19 (by decide)).trans h19
              clear h19
              clear ha hp
              refine Reg.Op1.guarded rfl rfl e19 (fun _ => Reg.Op1.plain rfl ?_) (fun h => absurd rfl h)
              go_wp2
              exact ⟨rfl, hK _ _ rfl (fun j k _ _ => Reg.Adds.refl _ _ _)⟩
            · intro val ac u hR hp ha K hK      -- 10: t22 := Op.move t5
              have e5 : (ac.tmps[5]?).getD undef = .int .i64 k := ha 5 (by decide)
              obtain ⟨w19, h19, r19⟩ := hp 7 (by decide)
              have e19 : (ac.tmps[19]?).getD undef = .bool true := (ha 19 (by decide)).trans h19
              clear h19
              clear ha hp
              refine Reg.Op1.guarded rfl rfl e19 (fun _ => Reg.Op1.plain rfl ?_) (fun h => absurd rfl h)
              go_wp2
              exact ⟨rfl, hK _ _ rfl (fun j k _ _ => Reg.Adds.refl _ _ _)⟩
            · intro val ac u hR hp ha K hK      -- 11: t23 := Op.indexAddr 23 t21 t22
              obtain ⟨w21, h21, r21⟩ := hp 9 (by decide)
              have e21 : (ac.tmps[21]?).getD undef = .slice (some ⟨b, o, none⟩) es.length c := (ha 21 (by decide)).trans h21
              clear h21
              obtain ⟨w22, h22, r22⟩ := hp 10 (by decide)
              have e22 : (ac.tmps[22]?).getD undef = .int .i64 k := (ha 22 (by decide)).trans h22
              clear h22
              obtain ⟨w19, h19, r19⟩ := hp 7 (by decide)
              have e19 : (ac.tmps[19]?).getD undef = .bool true := (ha 19 (by decide)).trans h19
              clear h19
              clear ha hp
              refine Reg.Op1.guarded rfl rfl e19 (fun _ => Reg.Op1.plain rfl ?_) (fun h => absurd rfl h)
              go_wp2
              exact ⟨rfl, hK _ _ rfl (fun j k _ _ => Reg.Adds.refl _ _ _)⟩
            · intro val ac u hR hp ha K hK      -- 12: t24 := Op.fieldAddr 35 t23 5
              obtain ⟨w23, h23, r23⟩ := hp 11 (by decide)
              have e23 : (ac.tmps[23]?).getD undef = .pointer (some ⟨b, o + k * 20, none⟩) := (ha 23 (by decide)).trans h23
              clear h23
              obtain ⟨w19, h19, r19⟩ := hp 7 (by decide)
              have e19 : (ac.tmps[19]?).getD undef = .bool true := (ha 19 (by decide)).trans h19
              clear h19
              clear ha hp
              refine Reg.Op1.guarded rfl rfl e19 (fun _ => Reg.Op1.plain rfl ?_) (fun h => absurd rfl h)
              go_wp2
              exact ⟨rfl, hK _ _ rfl (fun j k _ _ => Reg.Adds.refl _ _ _)⟩
            · intro val ac u hR hp ha K hK      -- 13: t25 := Op.load 33 t24
              obtain ⟨w24, h24, r24⟩ := hp 12 (by decide)
              have e24 : (ac.tmps[24]?).getD undef = .pointer (some ⟨b, o + k * 20 + 9, none⟩) := (ha 24 (by decide)).trans h24
              clear h24
              obtain ⟨w19, h19, r19⟩ := hp 7 (by decide)
              have e19 : (ac.tmps[19]?).getD undef = .bool true := (ha 19 (by decide)).trans h19
              clear h19
              clear ha hp
              refine Reg.Op1.guarded rfl rfl e19 (fun _ => Reg.Op1.plain rfl ?_) (fun h => absurd rfl h)
              refine Mem.load_aggG _ _ vec_agg b (o + k * 20 + 9) (vcCells e.deps) (by simp [Region.wanted]) (Reg.eval_of e24) (vcCells_length _) (fun q u' hu => (hR.cell (p := ⟨b, o + k * 20 + 9 + q, none⟩) hbw).trans (by have h9 := HAT.out.c (9 + q) u' (Vec.deps_at2 e hu); rw [← Nat.add_assoc] at h9; exact h9)) ?_
              exact ⟨rfl, hK _ _ rfl (fun j k _ _ => Reg.Adds.refl _ _ _)⟩
            · intro val ac u hR hp ha K hK      -- 14: t26 := Op.call { value (Operand.func 30), args := #[t20, t25], argTypes := #[33, 33] }
              obtain ⟨w20, h20, r20⟩ := hp 8 (by decide)
              have e20 : (ac.tmps[20]?).getD undef = .agg (vcCells cut).toArray := (ha 20 (by decide)).trans h20
              clear h20
              obtain ⟨w25, h25, r25⟩ := hp 13 (by decide)
              have e25 : (ac.tmps[25]?).getD undef = .agg (vcCells e.deps).toArray := (ha 25 (by decide)).trans h25
              clear h25
              obtain ⟨w19, h19, r19⟩ := hp 7 (by decide)
              have e19 : (ac.tmps[19]?).getD undef = .bool true := (ha 19 (by decide)).trans h19
              clear h19
              clear ha hp
              refine Reg.Op1.guarded rfl rfl e19 (fun _ => Reg.Op1.plain rfl ?_) (fun h => absurd rfl h)
              go_wp2_with fail
              refine (refCovers_any cut e.deps u).mono ?_
              rintro x w' ⟨rfl, hbw⟩
              rw [HCV.out]
              go_wp2_with fail
              exact ⟨rfl, hK _ _ rfl (fun j k _ _ => hbw)⟩
            · intro val ac u hR hp ha K hK      -- 15: t27 := Op.unOp UnOp.not 4 t26
              obtain ⟨w26, h26, r26⟩ := hp 14 (by decide)
              have e26 : (ac.tmps[26]?).getD undef = .bool false := (ha 26 (by decide)).trans h26
              clear h26
              obtain ⟨w19, h19, r19⟩ := hp 7 (by decide)
              have e19 : (ac.tmps[19]?).getD undef = .bool true := (ha 19 (by decide)).trans h19
              clear h19
              clear ha hp
              refine Reg.Op1.guarded rfl rfl e19 (fun _ => Reg.Op1.plain rfl ?_) (fun h => absurd rfl h)
              go_wp2
              exact ⟨rfl, hK _ _ rfl (fun j k _ _ => Reg.Adds.refl _ _ _)⟩
            · intro val ac u hR hp ha K hK      -- 16: t28 := Op.pick t19 t27 (const (Value.bool false))
              obtain ⟨w19, h19, r19⟩ := hp 7 (by decide)
              have e19 : (ac.tmps[19]?).getD undef = .bool true := (ha 19 (by decide)).trans h19
              clear h19
              obtain ⟨w27, h27, r27⟩ := hp 15 (by decide)
              have e27 : (ac.tmps[27]?).getD undef = .bool true := (ha 27 (by decide)).trans h27
              clear h27
              clear ha hp
              refine Reg.Op1.plain rfl ?_
              go_wp2
              exact ⟨rfl, hK _ _ rfl (fun j k _ _ => Reg.Adds.refl _ _ _)⟩
          intro val u hR H
          obtain ⟨wB, hv, rB⟩ := H 16 (by decide)
          have hv : val 16 = .bool true := hv
          have HKu : Hid (Below wr.heap.size wr u) := (Below.refl _ wr).drew.trans hR
          simp only [List.map_cons, List.map_nil, Reg.lay, Act.put, List.setIfInBounds_toArray, List.set_cons_succ, List.set_cons_zero, Nat.reduceAdd, hv]
          clear hR H hv rB
          obtain ⟨wy, hwy⟩ : ∃ z, z = u := ⟨_, rfl⟩
          subst hwy
          have HV2 : Hid (Vec.VBx wy w.heap.size cut) := HV.out.below HKu.out HV.out.lt
          have HB2 : Hid (Below w.heap.size w wy) := HB.out.trans (HKu.out.mono HB.out.size)
          clear HV HB HKu HAT hbw
          go_wp2
          go_ret
          exact ⟨rfl, HB2.out⟩
        · have hts2 : Hid (closedP cut (es.take (k + 1)) = true) := by show _ = _; rw [hts.out, HT.out, hcv, Bool.or_true]; rfl
          have HHD := Lib.hid hhd
          have HCV := Lib.hid hcv
          clear hhd hcv hts
          refine Reg.wp_region_rel (by kernel_rfl) 29 17 rfl rfl (by kernel_rfl) (Reg.Adds) (Reg.Adds.refl) (Reg.Adds.trans)
            (fun i v u => match i with
              | 0 => v = .agg (vcCells cut).toArray
              | 1 => v = .slice (some ⟨b, o, none⟩) es.length c
              | 2 => v = .int .i64 k
              | 3 => v = .pointer (some ⟨b, o + k * 20, none⟩)
              | 4 => v = .pointer (some ⟨b, o + k * 20, none⟩)
              | 5 => v = .agg (dtCells (dotE e)).toArray
              | 6 => v = .bool true
              | 7 => v = .bool true
              | 8 => v = .agg (vcCells cut).toArray
              | 9 => v = .slice (some ⟨b, o, none⟩) es.length c
              | 10 => v = .int .i64 k
              | 11 => v = .pointer (some ⟨b, o + k * 20, none⟩)
              | 12 => v = .pointer (some ⟨b, o + k * 20 + 9, none⟩)
              | 13 => v = .agg (vcCells e.deps).toArray
              | 14 => v = .bool true
              | 15 => v = .bool false
              | 16 => v = .bool false
              | _ => True) ?_ ?_
          · refine Reg.Steps.cons ?_ (Reg.Steps.cons ?_ (Reg.Steps.cons ?_ (Reg.Steps.cons ?_ (Reg.Steps.cons ?_ (Reg.Steps.cons ?_ (Reg.Steps.cons ?_ (Reg.Steps.cons ?_ (Reg.Steps.cons ?_ (Reg.Steps.cons ?_ (Reg.Steps.cons ?_ (Reg.Steps.cons ?_ (Reg.Steps.cons ?_ (Reg.Steps.cons ?_ (Reg.Steps.cons ?_ (Reg.Steps.cons ?_ (Reg.Steps.cons ?_ (Reg.Steps.nil _)))))))))))))))))
            · intro val ac u hR hp ha K hK      -- 0: t12 := Op.load 33 t2
              have e2 : (ac.tmps[2]?).getD undef = .pointer (some ⟨w.heap.size, 0, none⟩) := ha 2 (by decide)
              clear ha hp
              refine Reg.Op1.plain rfl ?_
              have hVu : Vec.VBx u w.heap.size cut := Mem.Bx.below (w := wr.drew) HV.out hR HV.out.lt
              refine Mem.load_agg _ _ vec_agg w.heap.size 0 (vcCells cut) (Reg.eval_of e2) (vcCells_length _) (fun j u' hu => by rw [Nat.zero_add]; exact hVu.cell hu) ?_
              exact ⟨rfl, hK _ _ rfl (fun j k _ _ => Reg.Adds.refl _ _ _)⟩
            · intro val ac u hR hp ha K hK      -- 1: t13 := Op.move t1
              have e1 : (ac.tmps[1]?).getD undef = .slice (some ⟨b, o, none⟩) es.length c := ha 1 (by decide)
              clear ha hp
              refine Reg.Op1.plain rfl ?_
              go_wp2
              exact ⟨rfl, hK _ _ rfl (fun j k _ _ => Reg.Adds.refl _ _ _)⟩
            · intro val ac u hR hp ha K hK      -- 2: t14 := Op.move t5
              have e5 : (ac.tmps[5]?).getD undef = .int .i64 k := ha 5 (by decide)
              clear ha hp
              refine Reg.Op1.plain rfl ?_
              go_wp2
              exact ⟨rfl, hK _ _ rfl (fun j k _ _ => Reg.Adds.refl _ _ _)⟩
            · intro val ac u hR hp ha K hK      -- 3: t15 := Op.indexAddr 23 t13 t14
              obtain ⟨w13, h13, r13⟩ := hp 1 (by decide)
              have e13 : (ac.tmps[13]?).getD undef = .slice (some ⟨b, o, none⟩) es.length c := (ha 13 (by decide)).trans h13
              clear h13
              obtain ⟨w14, h14, r14⟩ := hp 2 (by decide)
              have e14 : (ac.tmps[14]?).getD undef = .int .i64 k := (ha 14 (by decide)).trans h14
              clear h14
              clear ha hp
              refine Reg.Op1.plain rfl ?_
              go_wp2
              exact ⟨rfl, hK _ _ rfl (fun j k _ _ => Reg.Adds.refl _ _ _)⟩
            · intro val ac u hR hp ha K hK      -- 4: t16 := Op.fieldAddr 35 t15 0
              obtain ⟨w15, h15, r15⟩ := hp 3 (by decide)
              have e15 : (ac.tmps[15]?).getD undef = .pointer (some ⟨b, o + k * 20, none⟩) := (ha 15 (by decide)).trans h15
              clear h15
              clear ha hp
              refine Reg.Op1.plain rfl ?_
              go_wp2
              exact ⟨rfl, hK _ _ rfl (fun j k _ _ => Reg.Adds.refl _ _ _)⟩
            · intro val ac u hR hp ha K hK      -- 5: t17 := Op.load 28 t16
              obtain ⟨w16, h16, r16⟩ := hp 4 (by decide)
              have e16 : (ac.tmps[16]?).getD undef = .pointer (some ⟨b, o + k * 20, none⟩) := (ha 16 (by decide)).trans h16
              clear h16
              clear ha hp
              refine Reg.Op1.plain rfl ?_
              refine Mem.load_agg _ _ dot_agg b (o + k * 20) (dtCells (dotE e)) (Reg.eval_of e16) (dtCells_length _) (fun q u' hu => (hR.cell (p := ⟨b, o + k * 20 + q, none⟩) hbw).trans (HAT.out.c q u' (Vec.dot_at2 e hu))) ?_
              exact ⟨rfl, hK _ _ rfl (fun j k _ _ => Reg.Adds.refl _ _ _)⟩
            · intro val ac u hR hp ha K hK      -- 6: t18 := Op.call { value (Operand.func 27), args := #[t12, t17], argTypes := #[33, 28] }
              obtain ⟨w12, h12, r12⟩ := hp 0 (by decide)
              have e12 : (ac.tmps[12]?).getD undef = .agg (vcCells cut).toArray := (ha 12 (by decide)).trans h12
              clear h12
              obtain ⟨w17, h17, r17⟩ := hp 5 (by decide)
              have e17 : (ac.tmps[17]?).getD undef = .agg (dtCells (dotE e)).toArray := (ha 17 (by decide)).trans h17
              clear h17
              clear ha hp
              refine Reg.Op1.plain rfl ?_
              go_wp2_with fail
              refine (refHas_any cut (dotE e) u).mono ?_
              rintro x w' ⟨rfl, hbw⟩
              rw [HHD.out]
              go_wp2_with fail
              exact ⟨rfl, hK _ _ rfl (fun j k _ _ => hbw)⟩
            · intro val ac u hR hp ha K hK      -- 7: t19 := Op.move t18
              obtain ⟨w18, h18, r18⟩ := hp 6 (by decide)
              have e18 : (ac.tmps[18]?).getD undef = .bool true := (ha 18 (by decide)).trans h18
              clear h18
              clear ha hp
              refine Reg.Op1.plain rfl ?_
              go_wp2
              exact ⟨rfl, hK _ _ rfl (fun j k _ _ => Reg.Adds.refl _ _ _)⟩
            · intro val ac u hR hp ha K hK      -- 8: t20 := Op.load 33 t2
              have e2 : (ac.tmps[2]?).getD undef = .pointer (some ⟨w.heap.size, 0, none⟩) := ha 2 (by decide)
              obtain ⟨w19, h19, r19⟩ := hp 7 (by decide)
              have e19 : (ac.tmps[19]?).getD undef = .bool true := (ha 19 (by decide)).trans h19
              clear h19
              clear ha hp
              refine Reg.Op1.guarded rfl rfl e19 (fun _ => Reg.Op1.plain rfl ?_) (fun h => absurd rfl h)
              have hVu : Vec.VBx u w.heap.size cut := Mem.Bx.below (w := wr.drew) HV.out hR HV.out.lt
              refine Mem.load_aggG _ _ vec_agg w.heap.size 0 (vcCells cut) (by simp [Region.wanted]) (Reg.eval_of e2) (vcCells_length _) (fun j u' hu => by rw [Nat.zero_add]; exact hVu.cell hu) ?_
              exact ⟨rfl, hK _ _ rfl (fun j k _ _ => Reg.Adds.refl _ _ _)⟩
            · intro val ac u hR hp ha K hK      -- 9: t21 := Op.move t1
              have e1 : (ac.tmps[1]?).getD undef = .slice (some ⟨b, o, none⟩) es.length c := ha 1 (by decide)
              obtain ⟨w19, h19, r19⟩ := hp 7 (by decide)
              have e19 : (ac.tmps[19]?).getD undef = .bool true := (ha 19 (by decide)).trans h19
              clear h19
              clear ha hp
              refine Reg.Op1.guarded rfl rfl e19 (fun _ => Reg.Op1.plain rfl ?_) (fun h => absurd rfl h)
              go_wp2
              exact ⟨rfl, hK _ _ rfl (fun j k _ _ => Reg.Adds.refl _ _ _)⟩
            · intro val ac u hR hp ha K hK      -- 10: t22 := Op.move t5
              have e5 : (ac.tmps[5]?).getD undef = .int .i64 k := ha 5 (by decide)
              obtain ⟨w19, h19, r19⟩ := hp 7 (by decide)
              have e19 : (ac.tmps[19]?).getD undef = .bool true := (ha 19 (by decide)).trans h19
              clear h19
              clear ha hp
              refine Reg.Op1.guarded rfl rfl e19 (fun _ => Reg.Op1.plain rfl ?_) (fun h => absurd rfl h)
              go_wp2
              exact ⟨rfl, hK _ _ rfl (fun j k _ _ => Reg.Adds.refl _ _ _)⟩
            · intro val ac u hR hp ha K hK      -- 11: t23 := Op.indexAddr 23 t21 t22
              obtain ⟨w21, h21, r21⟩ := hp 9 (by decide)
              have e21 : (ac.tmps[21]?).getD undef = .slice (some ⟨b, o, none⟩) es.length c := (ha 21 (by decide)).trans h21
              clear h21
              obtain ⟨w22, h22, r22⟩ := hp 10 (by decide)
              have e22 : (ac.tmps[22]?).getD undef = .int .i64 k := (ha 22 (by decide)).trans h22
              clear h22
              obtain ⟨w19, h19, r19⟩ := hp 7 (by decide)
              have e19 : (ac.tmps[19]?).getD undef = .bool true := (ha 19 (by decide)).trans h19
              clear h19
              clear ha hp
              refine Reg.Op1.guarded rfl rfl e19 (fun _ => Reg.Op1.plain rfl ?_) (fun h => absurd rfl h)
              go_wp2
              exact ⟨rfl, hK _ _ rfl (fun j k _ _ => Reg.Adds.refl _ _ _)⟩
            · intro val ac u hR hp ha K hK      -- 12: t24 := Op.fieldAddr 35 t23 5
              obtain ⟨w23, h23, r23⟩ := hp 11 (by decide)
              have e23 : (ac.tmps[23]?).getD undef = .pointer (some ⟨b, o + k * 20, none⟩) := (ha 23 (by decide)).trans h23
              clear h23
              obtain ⟨w19, h19, r19⟩ := hp 7 (by decide)
              have e19 : (ac.tmps[19]?).getD undef = .bool true := (ha 19 (by decide)).trans h19
              clear h19
              clear ha hp
              refine Reg.Op1.guarded rfl rfl e19 (fun _ => Reg.Op1.plain rfl ?_) (fun h => absurd rfl h)
              go_wp2
              exact ⟨rfl, hK _ _ rfl (fun j k _ _ => Reg.Adds.refl _ _ _)⟩
            · intro val ac u hR hp ha K hK      -- 13: t25 := Op.load 33 t24
              obtain ⟨w24, h24, r24⟩ := hp 12 (by decide)
              have e24 : (ac.tmps[24]?).getD undef = .pointer (some ⟨b, o + k * 20 + 9, none⟩) := (ha 24 (by decide)).trans h24
              clear h24
              obtain ⟨w19, h19, r19⟩ := hp 7 (by decide)
              have e19 : (ac.tmps[19]?).getD undef = .bool true := (ha 19 (by decide)).trans h19
              clear h19
              clear ha hp
              refine Reg.Op1.guarded rfl rfl e19 (fun _ => Reg.Op1.plain rfl ?_) (fun h => absurd rfl h)
              refine Mem.load_aggG _ _ vec_agg b (o + k * 20 + 9) (vcCells e.deps) (by simp [Region.wanted]) (Reg.eval_of e24) (vcCells_length _) (fun q u' hu => (hR.cell (p := ⟨b, o + k * 20 + 9 + q, none⟩) hbw).trans (by have h9 := HAT.out.c (9 + q) u' (Vec.deps_at2 e hu); rw [← Nat.add_assoc] at h9; exact h9)) ?_
              exact ⟨rfl, hK _ _ rfl (fun j k _ _ => Reg.Adds.refl _ _ _)⟩
            · intro val ac u hR hp ha K hK      -- 14: t26 := Op.call { value (Operand.func 30), args := #[t20, t25], argTypes := #[33, 33] }
              obtain ⟨w20, h20, r20⟩ := hp 8 (by decide)
              have e20 : (ac.tmps[20]?).getD undef = .agg (vcCells cut).toArray := (ha 20 (by decide)).trans h20
              clear h20
              obtain ⟨w25, h25, r25⟩ := hp 13 (by decide)
              have e25 : (ac.tmps[25]?).getD undef = .agg (vcCells e.deps).toArray := (ha 25 (by decide)).trans h25
              clear h25
              obtain ⟨w19, h19, r19⟩ := hp 7 (by decide)
              have e19 : (ac.tmps[19]?).getD undef = .bool true := (ha 19 (by decide)).trans h19
              clear h19
              clear ha hp
              refine Reg.Op1.guarded rfl rfl e19 (fun _ => Reg.Op1.plain rfl ?_) (fun h => absurd rfl h)
              go_wp2_with fail
              refine (refCovers_any cut e.deps u).mono ?_
              rintro x w' ⟨rfl, hbw⟩
              rw [HCV.out]
              go_wp2_with fail
              exact ⟨rfl, hK _ _ rfl (fun j k _ _ => hbw)⟩
            · intro val ac u hR hp ha K hK      -- 15: t27 := Op.unOp UnOp.not 4 t26
              obtain ⟨w26, h26, r26⟩ := hp 14 (by decide)
              have e26 : (ac.tmps[26]?).getD undef = .bool true := (ha 26 (by decide)).trans h26
              clear h26
              obtain ⟨w19, h19, r19⟩ := hp 7 (by decide)
              have e19 : (ac.tmps[19]?).getD undef = .bool true := (ha 19 (by decide)).trans h19
              clear h19
              clear ha hp
              refine Reg.Op1.guarded rfl rfl e19 (fun _ => Reg.Op1.plain rfl ?_) (fun h => absurd rfl h)
              go_wp2
              exact ⟨rfl, hK _ _ rfl (fun j k _ _ => Reg.Adds.refl _ _ _)⟩
            · intro val ac u hR hp ha K hK      -- 16: t28 := Op.pick t19 t27 (const (Value.bool false))
              obtain ⟨w19, h19, r19⟩ := hp 7 (by decide)
              have e19 : (ac.tmps[19]?).getD undef = .bool true := (ha 19 (by decide)).trans h19
              clear h19
              obtain ⟨w27, h27, r27⟩ := hp 15 (by decide)
              have e27 : (ac.tmps[27]?).getD undef = .bool false := (ha 27 (by decide)).trans h27
              clear h27
              clear ha hp
              refine Reg.Op1.plain rfl ?_
              go_wp2
              exact ⟨rfl, hK _ _ rfl (fun j k _ _ => Reg.Adds.refl _ _ _)⟩
          intro val u hR H
          obtain ⟨wB, hv, rB⟩ := H 16 (by decide)
          have hv : val 16 = .bool false := hv
          have HKu : Hid (Below wr.heap.size wr u) := (Below.refl _ wr).drew.trans hR
          simp only [List.map_cons, List.map_nil, Reg.lay, Act.put, List.setIfInBounds_toArray, List.set_cons_succ, List.set_cons_zero, Nat.reduceAdd, hv]
          clear hR H hv rB
          obtain ⟨wy, hwy⟩ : ∃ z, z = u := ⟨_, rfl⟩
          subst hwy
          have HV2 : Hid (Vec.VBx wy w.heap.size cut) := HV.out.below HKu.out HV.out.lt
          have HB2 : Hid (Below w.heap.size w wy) := HB.out.trans (HKu.out.mono HB.out.size)
          clear HV HB HKu HAT hbw
          go_wp2
          go_roundw
          case rel => exact ⟨⟨k + 1, HLT.out, by go_num, hts2, HV2, HB2⟩⟩
          case measure => have := HLT.out; simp [intOf]; omega
    · obtain rfl : k = es.length := by omega
      have d0 : decide ((es.length : Int) < (es.length : Int)) = false := by simp
      obtain rfl : z = true := by have h1 := HT.out; rw [List.take_length] at h1; rw [← HZ.out, h1]
      go_wp2
      go_ret
      exact ⟨rfl, HB.out⟩
end Go.Proofs.Ytelephoalpphkaa
end
section
/- The walk of AuditSees. No conditions. -/
set_option maxRecDepth 8000
namespace Go.Proofs.Ytelephoalpphkaa
open Go.ChangeShapes Go.WideShapes Go.ChangeAt Go.RowKit
set_option linter.unusedVariables false
set_option linter.unusedSimpArgs false
namespace auditSeesOpen
open Vec
set_option maxRecDepth 20000 in
set_option maxHeartbeats 8000000 in
theorem walk (key : ByteArray) (cut : Vc) (A : Option Addr) (c : Nat) (es : List Ent) (w : World) (hr : Mem.Rd w w.heap.size A (es.flatMap entCells)) (hn : es.length ≤ 8796093022208) (hd : ∀ e ∈ es, EntIn e) (hks : key.size ≤ 140737488351232) :
    Calls Try.prog 4 #[.string key, .agg (vcCells cut).toArray, .slice A es.length c] w fun e w' => e = .returned (.bool true) ∧ Below w.heap.size w w' := by
  have HR := Lib.hid hr
  have HD := Lib.hid hd
  clear hr hd
  go_enter Try.func4, Try.ntmps4
  go_upto_region 1 with fail
  obtain ⟨w1, hw1⟩ : ∃ z, w.alloc (.cells (vcCells cut).toArray 33) = z := ⟨_, rfl⟩
  have HV1 : Hid (Vec.VBx w1 w.heap.size cut) := by show Mem.Bx _ _ _ _ _; rw [← hw1]; exact Mem.Bx.new w 33 (vcCells cut).toArray rfl rfl
  have HB1 : Hid (Below w.heap.size w w1) := by show Below _ _ _; rw [← hw1]; exact Reg.below_new _ _
  rw [hw1]
  clear hw1
  go_wp2_with fail
  refine (auditAble_any w1).mono ?_
  rintro x w2 ⟨rfl, hb2⟩
  have HV2 : Hid (Vec.VBx w2 w.heap.size cut) := HV1.out.below hb2 HV1.out.lt
  have HB2 : Hid (Below w.heap.size w w2) := HB1.out.trans (hb2.mono HB1.out.size)
  clear hb2 HV1 HB1
  go_wp2_with fail
  refine (muchA_any none 0 [] A c es w w2 (.inl rfl) HR.out (by simp) (by omega) (fun e he => by cases he) HD.out HB2.out).mono ?_
  rintro x w3 ⟨b, rfl, hbn, hb3⟩
  have HV3 : Hid (Vec.VBx w3 w.heap.size cut) := HV2.out.below hb3 HV2.out.lt
  have HB3 : Hid (Below w.heap.size w w3) := HB2.out.trans (hb3.mono HB2.out.size)
  clear hb3 HV2 HB2
  by_cases hyes : b = true ∨ 1000 < key.size
  · skip
    rcases hyes with rfl | hk1
    · go_wp2
      go_ret
      exact ⟨rfl, HB3.out⟩
    · have hkd : decide ((1000 : Int) < (key.size : Int)) = true := by simp; omega
      cases b
      · go_wp2
        go_ret
        exact ⟨rfl, HB3.out⟩
      · go_wp2
        go_ret
        exact ⟨rfl, HB3.out⟩
  · obtain rfl : b = false := by cases b; rfl; exact absurd (.inl rfl) hyes
    have hkd : decide ((1000 : Int) < (key.size : Int)) = false := by simp; omega
    have hn3 : es.length ≤ 360 := by have := hbn rfl; simpa using this
    clear hyes hbn hn hks
    have hol := ents_len es
    have hoo := ents_one es
    have HVS := Lib.hid (fun W (h : Below w.heap.size w W) => refVisible_any key cut A c es w.heap.size W (HR.out.below h) h.size (by omega))
    obtain ⟨⟨m, fd⟩, hmf⟩ : ∃ mf, visible key cut es = mf := ⟨_, rfl⟩
    have HMF4 := Lib.hid hmf
    have HV4 := HV3
    have HB4 := HB3
    clear hmf
    go_upto_region 5 with fail
    refine Reg.wp_region_z (by kernel_rfl) 55 12 rfl rfl (by kernel_rfl) 90 91 (by decide) (10) (fun y => w3.heap.size ≤ y) (0) (fun _ => False) (0) (fun _ => False)
      (fun i f v u => match i with
        | 0 => v = .string key
        | 1 => v = .agg (vcCells cut).toArray
        | 2 => ∃ s0, v = .slice (some ⟨s0, 0, none⟩) 0 0 ∧ Mem.Own u 35 20 (some ⟨s0, 0, none⟩) 0 0 []
        | 3 => v = .slice A es.length c
        | 4 => ∃ A1 c1, v = .slice A1 es.length c1 ∧ Mem.Own u 35 20 A1 es.length c1 (es.flatMap entCells)
        | 5 => v = .tuple #[.agg (entCells m).toArray, .bool fd]
        | 6 => v = .tuple #[.agg (entCells m).toArray, .bool fd]
        | 7 => v = .agg (entCells m).toArray
        | 8 => v = .bool fd
        | 9 => ∃ s, v = .pointer (some ⟨s, 0, none⟩) ∧ w3.heap.size ≤ s ∧ EBx u s ent0
        | 10 => ∃ s, f 7 = .pointer (some ⟨s, 0, none⟩) ∧ w3.heap.size ≤ s ∧ EBx u s m
        | 11 => v = .bool fd
        | _ => True) ?_ ?_
    · refine Reg.StepsZ.cons ?_ (Reg.StepsZ.cons ?_ (Reg.StepsZ.cons ?_ (Reg.StepsZ.cons ?_ (Reg.StepsZ.cons ?_ (Reg.StepsZ.cons ?_ (Reg.StepsZ.cons ?_ (Reg.StepsZ.cons ?_ (Reg.StepsZ.cons ?_ (Reg.StepsZ.cons ?_ (Reg.StepsZ.cons ?_ (Reg.StepsZ.cons ?_ (Reg.StepsZ.nil _))))))))))))
      · intro val ac u hR hp hpq ha K hK0      -- 0: t21 := Op.move t0
        have hK := fun v w' h1 h2 => hK0 v w' h1 h2 (fun j f v' h _ => by omega)
        have e0 : (ac.tmps[0]?).getD undef = .string key := ha 0 (by decide)
        clear ha hp
        refine Reg.Op1.plain rfl ?_
        go_wp2
        exact ⟨rfl, hK _ _ rfl (Reg.Wr.same _)⟩
      · intro val ac u hR hp hpq ha K hK0      -- 1: t22 := Op.load 33 t4
        have hK := fun v w' h1 h2 => hK0 v w' h1 h2 (fun j f v' h _ => by omega)
        have e4 : (ac.tmps[4]?).getD undef = .pointer (some ⟨w.heap.size, 0, none⟩) := ha 4 (by decide)
        clear ha hp
        refine Reg.Op1.plain rfl ?_
        have hq : Mem.Keeps (fun _ => False ∨ False) w3 u := (Mem.Keeps.refl (fun _ => False ∨ False) w3).drew.trans (Reg.Wr.not1 hR (by decide +kernel)) (fun _ h _ => h)
        have hQu := HV4.out.keeps hq (fun h => h.elim id id)
        refine Mem.load_agg _ _ vec_agg w.heap.size 0 (vcCells cut) (Reg.eval_of e4) (vcCells_length _) (fun j u' hu => by rw [Nat.zero_add]; exact hQu.cell hu) ?_
        exact ⟨rfl, hK _ _ rfl (Reg.Wr.same _)⟩
      · intro val ac u hR hp hpq ha K hK0      -- 2: t23 := Op.buildSlice 23 0 #[]
        have hK := fun v w' h1 h2 => hK0 v w' h1 h2 (fun j f v' h _ => by omega)
        clear ha hp
        refine Reg.Op1.plain rfl ?_
        go_wp2
        exact ⟨rfl, hK _ _ ⟨u.heap.size, rfl, Mem.Own.lit u _ 20 #[] 0 rfl rfl (by simp [maxLen])⟩ (Reg.Wr.quiet ((Mem.Keeps.refl _ u).alloc _))⟩
      · intro val ac u hR hp hpq ha K hK0      -- 3: t24 := Op.move t2
        have hK := fun v w' h1 h2 => hK0 v w' h1 h2 (fun j f v' h _ => by omega)
        have e2 : (ac.tmps[2]?).getD undef = .slice A es.length c := ha 2 (by decide)
        clear ha hp
        refine Reg.Op1.plain rfl ?_
        go_wp2
        exact ⟨rfl, hK _ _ rfl (Reg.Wr.same _)⟩
      · intro val ac u hR hp hpq ha K hK0      -- 4: t25 := Op.call { builtin append, args := #[t23, t24], argTypes := #[23, 23] }
        have hK := fun v w' h1 h2 => hK0 v w' h1 h2 (fun j f v' h _ => by omega)
        obtain ⟨w23, h23, r23⟩ := hp 2 (by decide)
        have e23 : (ac.tmps[23]?).getD undef = val 2 := ha 23 (by decide)
        obtain ⟨w24, h24, r24⟩ := hp 3 (by decide)
        have e24 : (ac.tmps[24]?).getD undef = .slice A es.length c := (ha 24 (by decide)).trans h24
        clear h24
        clear ha hp
        refine Reg.Op1.plain rfl ?_
        obtain ⟨s0, hv, ho⟩ := h23
        rw [hv] at e23
        have ho' := ho.keeps (Reg.Wr.not1 r23 (by decide +kernel)) (fun _ _ h => h.elim id id)
        have hq : Mem.Keeps (fun _ => False ∨ False) w3 u := (Mem.Keeps.refl (fun _ => False ∨ False) w3).drew.trans (Reg.Wr.not1 hR (by decide +kernel)) (fun _ h _ => h)
        have hbu := HB4.out.trans (hq.below (B := w.heap.size) (fun k h => h.elim (fun h => h.elim) (fun h => h.elim)) HB4.out.size)
        refine Mem.wpList_app0 u rfl (.tmp 23) (.tmp 24) _ rfl entries_elem (some ⟨s0, 0, none⟩) (Reg.eval_of e23) w.heap.size A es.length c (es.flatMap entCells) (Reg.eval_of e24) ?_ ho' (HR.out.below hbu) hol hoo (by unfold maxLen; omega) (by omega)
        intro A' c' w' hown hbl hat
        exact ⟨rfl, hK _ _ ⟨A', c', rfl, hown⟩ (Reg.Wr.below hbl)⟩
      · intro val ac u hR hp hpq ha K hK0      -- 5: t26 := Op.call { value (Operand.func 15), args := #[t21, t22, t25], argTypes := #[9, 33, 23] }
        have hK := fun v w' h1 h2 => hK0 v w' h1 h2 (fun j f v' h _ => by omega)
        obtain ⟨w21, h21, r21⟩ := hp 0 (by decide)
        have e21 : (ac.tmps[21]?).getD undef = .string key := (ha 21 (by decide)).trans h21
        clear h21
        obtain ⟨w22, h22, r22⟩ := hp 1 (by decide)
        have e22 : (ac.tmps[22]?).getD undef = .agg (vcCells cut).toArray := (ha 22 (by decide)).trans h22
        clear h22
        obtain ⟨w25, h25, r25⟩ := hp 4 (by decide)
        have e25 : (ac.tmps[25]?).getD undef = val 4 := ha 25 (by decide)
        clear ha hp
        refine Reg.Op1.plain rfl ?_
        obtain ⟨A1, c1, hv, ho⟩ := h25
        rw [hv] at e25
        have ho' := ho.keeps (Reg.Wr.not1 r25 (by decide +kernel)) (fun _ _ h => h.elim id id)
        go_wp2_with fail
        refine (visible_any key cut A1 c1 es u.heap.size u ho'.rd (Nat.le_refl _) (by unfold maxLen; omega)).mono ?_
        rintro x w' ⟨rfl, hbw⟩
        rw [HMF4.out]
        go_wp2_with fail
        exact ⟨rfl, hK _ _ rfl (Reg.Wr.below hbw)⟩
      · intro val ac u hR hp hpq ha K hK0      -- 6: t20 := Op.move t26
        have hK := fun v w' h1 h2 => hK0 v w' h1 h2 (fun j f v' h _ => by omega)
        obtain ⟨w26, h26, r26⟩ := hp 5 (by decide)
        have e26 : (ac.tmps[26]?).getD undef = .tuple #[.agg (entCells m).toArray, .bool fd] := (ha 26 (by decide)).trans h26
        clear h26
        clear ha hp
        refine Reg.Op1.plain rfl ?_
        go_wp2
        exact ⟨rfl, hK _ _ rfl (Reg.Wr.same _)⟩
      · intro val ac u hR hp hpq ha K hK0      -- 7: t27 := Op.extract t20 0
        have hK := fun v w' h1 h2 => hK0 v w' h1 h2 (fun j f v' h _ => by omega)
        obtain ⟨w20, h20, r20⟩ := hp 6 (by decide)
        have e20 : (ac.tmps[20]?).getD undef = .tuple #[.agg (entCells m).toArray, .bool fd] := (ha 20 (by decide)).trans h20
        clear h20
        clear ha hp
        refine Reg.Op1.plain rfl ?_
        go_wp2
        exact ⟨rfl, hK _ _ rfl (Reg.Wr.same _)⟩
      · intro val ac u hR hp hpq ha K hK0      -- 8: t28 := Op.extract t20 1
        have hK := fun v w' h1 h2 => hK0 v w' h1 h2 (fun j f v' h _ => by omega)
        obtain ⟨w20, h20, r20⟩ := hp 6 (by decide)
        have e20 : (ac.tmps[20]?).getD undef = .tuple #[.agg (entCells m).toArray, .bool fd] := (ha 20 (by decide)).trans h20
        clear h20
        clear ha hp
        refine Reg.Op1.plain rfl ?_
        go_wp2
        exact ⟨rfl, hK _ _ rfl (Reg.Wr.same _)⟩
      · intro val ac u hR hp hpq ha K hK0      -- 9: t7 := Op.alloc 35
        have hK := fun v w' h1 h2 => hK0 v w' h1 h2 (fun j f v' h _ => by omega)
        clear ha hp
        refine Reg.Op1.plain rfl ?_
        have hbu : w3.heap.size ≤ u.heap.size := (Reg.Wr.all hR).size
        go_wp2
        exact ⟨rfl, hK _ _ ⟨u.heap.size, rfl, hbu, Mem.Bx.new u 35 (entCells ent0).toArray rfl rfl⟩ (Reg.Wr.quiet ((Mem.Keeps.refl _ u).alloc _))⟩
      · intro val ac u hR hp hpq ha K hK0      -- 10: Op.store 35 t7 t27
        have hK := fun v w' h1 h2 => hK0 v w' h1 h2 (fun j f v' h _ => by omega)
        obtain ⟨w7, h7, r7⟩ := hp 9 (by decide)
        have e7 : (ac.tmps[7]?).getD undef = val 9 := ha 7 (by decide)
        obtain ⟨w27, h27, r27⟩ := hp 7 (by decide)
        have e27 : (ac.tmps[27]?).getD undef = .agg (entCells m).toArray := (ha 27 (by decide)).trans h27
        clear h27
        clear ha hp
        refine Reg.Op1.plain rfl ?_
        obtain ⟨s, hv, hs, hbx⟩ := h7
        have hv7 := hv
        rw [hv] at e7
        have hbx' : EBx u s ent0 := hbx.keeps (Reg.Wr.not1 r7 (by decide +kernel)) (fun h => h.elim id id)
        refine Mem.store_agg _ _ entry_agg s (entCells ent0) (entCells m) (Reg.eval_of e7) (Reg.eval_of e27) hbx' (entCells_length _) (ent_one _) ?_
        intro w' hb hk hs'
        exact ⟨rfl, hK undef _ ⟨s, hv7, hs, hb⟩ (Reg.Wr.does1 (hk.mono (fun i h _ => by show w3.heap.size ≤ i; omega)))⟩
      · intro val ac u hR hp hpq ha K hK0      -- 11: t8 := Op.assign t28
        have hK := fun v w' h1 h2 => hK0 v w' h1 h2 (fun j f v' h _ => by omega)
        obtain ⟨w28, h28, r28⟩ := hp 8 (by decide)
        have e28 : (ac.tmps[28]?).getD undef = .bool fd := (ha 28 (by decide)).trans h28
        clear h28
        clear ha hp
        refine Reg.Op1.plain rfl ?_
        go_wp2
        exact ⟨rfl, hK _ _ rfl (Reg.Wr.same _)⟩
    intro val u hR H hZ
    obtain ⟨wA, ⟨s, hv7, hs, hb⟩, rA⟩ := H 10 (by decide)
    have hv7 : val 9 = .pointer (some ⟨s, 0, none⟩) := hv7
    obtain ⟨wB, hv8, rB⟩ := H 11 (by decide)
    have hv8 : val 11 = .bool fd := hv8
    have hq : Mem.Keeps (fun y => w3.heap.size ≤ y ∨ False ∨ False) w3 u := (Mem.Keeps.refl (fun y => w3.heap.size ≤ y ∨ False ∨ False) w3).drew.trans (Reg.Wr.all hR) (fun _ h _ => h)
    have hne : ∀ y, y < w3.heap.size → ¬ (w3.heap.size ≤ y ∨ False ∨ False) := fun y hy h => by rcases h with h | h | h <;> first | omega | exact h
    have HE7 : Hid (EBx u s m) := hb.keeps (Reg.Wr.not1 rA (by decide +kernel)) (fun h => h.elim id id)
    have HK7 : Hid (Below w3.heap.size w3 u) := hq.below (fun y h => by rcases h with h | h | h <;> first | exact h | exact h.elim) (Nat.le_refl _)
    simp only [List.map_cons, List.map_nil, Reg.lay, Act.put, List.setIfInBounds_toArray, List.set_cons_succ, List.set_cons_zero, Nat.reduceAdd, hv7, hv8]
    clear hR H hZ hq hb rA rB hv7 hv8 hne hs
    obtain ⟨w4, hw4⟩ : ∃ z, z = u := ⟨_, rfl⟩
    subst hw4
    have HV5 : Hid (Vec.VBx w4 w.heap.size cut) := HV4.out.below HK7.out HV4.out.lt
    have HB5 : Hid (Below w.heap.size w w4) := HB4.out.trans (HK7.out.mono HB4.out.size)
    have HVR : Hid (Calls Try.prog 16 #[.string key, .agg (Vec.vcCells cut).toArray, .slice A es.length c] w4 fun e w' => e = .returned (.tuple #[.agg (entCells m).toArray, .bool fd]) ∧ Below w4.heap.size w4 w') := by
      have h1 := HVS.out w4 HB5.out
      rw [HMF4.out] at h1
      exact h1
    have HLV : Hid (∀ j u, (vcCells cut)[j]? = some u → w4.cell? ⟨w.heap.size, 0 + j, none⟩ = some u) := fun j u hu => by rw [Nat.zero_add]; exact HV5.out.cell hu
    have ho := ent_one m
    clear HV4 HB4 HV3 HB3 HK7 HVS HMF4
    go_upto_region 7 with (first
      | ((with_reducible refine Mem.load_agg _ _ vec_agg w.heap.size 0 (vcCells cut) ?hx (vcCells_length _) HLV.out ?_); case hx => exact rfl)
      | (go_at_call 16; (refine HVR.out.mono ?_); rintro x w5 ⟨rfl, hB5⟩; have HBR := Lib.hid hB5; clear hB5)
      | ((with_reducible refine Mem.store_agg _ _ entry_agg w5.heap.size (entCells ent0) (entCells m) ?hxj ?hyj ?hbj (entCells_length _) ho ?_); ((case hxj => exact rfl); (case hyj => exact rfl); (case hbj => exact Mem.Bx.new w5 _ (entCells ent0).toArray rfl rfl)); intro w6 hb6 hk6 hs6))
    have hb56 : Below w4.heap.size w4 w6 := HBR.out.trans ((hk6.newBox rfl).belowAll.mono HBR.out.size)
    have HG6 : Hid (EBx w6 w5.heap.size m) := hb6
    have HS6 : Hid (EBx w6 s m) := HE7.out.below hb56 HE7.out.lt
    have HV6 : Hid (Vec.VBx w6 w.heap.size cut) := HV5.out.below hb56 HV5.out.lt
    have HB6 : Hid (Below w.heap.size w w6) := HB5.out.trans (hb56.mono HB5.out.size)
    have HQ : Hid (∀ W, (binOp .eql 35 (.agg (entCells m).toArray) (.agg (entCells m).toArray)).run Try.prog W = .ok (.bool true) W) := fun W => by rw [eql_ent, eqEnt_iff.2 rfl]
    obtain ⟨g9, hg9⟩ : ∃ z, z = w5.heap.size := ⟨_, rfl⟩
    rw [← hg9] at HG6 ⊢
    obtain ⟨cl, hcl⟩ : ∃ z, closedP cut es = z := ⟨_, rfl⟩
    have HCL := Lib.hid hcl
    clear hb56 hb6 hk6 hs6 hg9 hcl HBR HE7 HV5 HB5 HVR HLV ho
    cases fd
    · cases cl
      ·
        refine Reg.wp_region_rel (by kernel_rfl) 55 20 rfl rfl (by kernel_rfl) (Reg.Adds) (Reg.Adds.refl) (Reg.Adds.trans)
          (fun i v u => match i with
            | 0 => v = .agg (entCells m).toArray
            | 1 => v = .agg (entCells m).toArray
            | 2 => v = .bool true
            | 3 => v = .bool true
            | 4 => v = .bool false
            | 5 => v = .bool false
            | 6 => v = .bool true
            | 7 => v = .bool true
            | 8 => v = .bool true
            | 9 => v = .agg (vcCells cut).toArray
            | 10 => ∃ s0, v = .slice (some ⟨s0, 0, none⟩) 0 0 ∧ Mem.Own u 35 20 (some ⟨s0, 0, none⟩) 0 0 []
            | 11 => v = .slice A es.length c
            | 12 => ∃ A1 c1, v = .slice A1 es.length c1 ∧ Mem.Own u 35 20 A1 es.length c1 (es.flatMap entCells)
            | 13 => v = .bool false
            | 14 => v = .agg (vcCells cut).toArray
            | 15 => v = .slice A es.length c
            | 16 => v = .bool false
            | 17 => v = .bool true
            | 18 => v = .bool true
            | 19 => v = .bool true
            | _ => True) ?_ ?_
        · refine Reg.Steps.cons ?_ (Reg.Steps.cons ?_ (Reg.Steps.cons ?_ (Reg.Steps.cons ?_ (Reg.Steps.cons ?_ (Reg.Steps.cons ?_ (Reg.Steps.cons ?_ (Reg.Steps.cons ?_ (Reg.Steps.cons ?_ (Reg.Steps.cons ?_ (Reg.Steps.cons ?_ (Reg.Steps.cons ?_ (Reg.Steps.cons ?_ (Reg.Steps.cons ?_ (Reg.Steps.cons ?_ (Reg.Steps.cons ?_ (Reg.Steps.cons ?_ (Reg.Steps.cons ?_ (Reg.Steps.cons ?_ (Reg.Steps.cons ?_ (Reg.Steps.nil _))))))))))))))))))))
          · intro val ac u hR hp ha K hK      -- 0: t36 := Op.load 35 t7
            have e7 : (ac.tmps[7]?).getD undef = .pointer (some ⟨s, 0, none⟩) := ha 7 (by decide)
            clear ha hp
            refine Reg.Op1.plain rfl ?_
            have hMu : EBx u s m := Mem.Bx.below (w := w6.drew) HS6.out hR HS6.out.lt
            refine Mem.load_agg _ _ entry_agg s 0 (entCells m) (Reg.eval_of e7) (entCells_length _) (fun j u' hu => by rw [Nat.zero_add]; exact hMu.cell hu) ?_
            exact ⟨rfl, hK _ _ rfl (fun j k _ _ => Reg.Adds.refl _ _ _)⟩
          · intro val ac u hR hp ha K hK      -- 1: t37 := Op.load 35 t9
            have e9 : (ac.tmps[9]?).getD undef = .pointer (some ⟨g9, 0, none⟩) := ha 9 (by decide)
            clear ha hp
            refine Reg.Op1.plain rfl ?_
            have hMu : EBx u g9 m := Mem.Bx.below (w := w6.drew) HG6.out hR HG6.out.lt
            refine Mem.load_agg _ _ entry_agg g9 0 (entCells m) (Reg.eval_of e9) (entCells_length _) (fun j u' hu => by rw [Nat.zero_add]; exact hMu.cell hu) ?_
            exact ⟨rfl, hK _ _ rfl (fun j k _ _ => Reg.Adds.refl _ _ _)⟩
          · intro val ac u hR hp ha K hK      -- 2: t38 := Op.binOp BinOp.eql 35 t36 t37 35
            obtain ⟨w36, h36, r36⟩ := hp 0 (by decide)
            have e36 : (ac.tmps[36]?).getD undef = .agg (entCells m).toArray := (ha 36 (by decide)).trans h36
            clear h36
            obtain ⟨w37, h37, r37⟩ := hp 1 (by decide)
            have e37 : (ac.tmps[37]?).getD undef = .agg (entCells m).toArray := (ha 37 (by decide)).trans h37
            clear h37
            clear ha hp
            refine Reg.Op1.plain rfl ?_
            have hqq := HQ.out
            go_wp2
            exact ⟨rfl, hK _ _ rfl (fun j k _ _ => Reg.Adds.refl _ _ _)⟩
          · intro val ac u hR hp ha K hK      -- 3: t39 := Op.move t38
            obtain ⟨w38, h38, r38⟩ := hp 2 (by decide)
            have e38 : (ac.tmps[38]?).getD undef = .bool true := (ha 38 (by decide)).trans h38
            clear h38
            clear ha hp
            refine Reg.Op1.plain rfl ?_
            go_wp2
            exact ⟨rfl, hK _ _ rfl (fun j k _ _ => Reg.Adds.refl _ _ _)⟩
          · intro val ac u hR hp ha K hK      -- 4: t40 := Op.move t8
            have e8 : (ac.tmps[8]?).getD undef = .bool false := ha 8 (by decide)
            obtain ⟨w39, h39, r39⟩ := hp 3 (by decide)
            have e39 : (ac.tmps[39]?).getD undef = .bool true := (ha 39 (by decide)).trans h39
            clear h39
            clear ha hp
            refine Reg.Op1.guarded rfl rfl e39 (fun _ => Reg.Op1.plain rfl ?_) (fun h => absurd rfl h)
            go_wp2
            exact ⟨rfl, hK _ _ rfl (fun j k _ _ => Reg.Adds.refl _ _ _)⟩
          · intro val ac u hR hp ha K hK      -- 5: t41 := Op.move t10
            have e10 : (ac.tmps[10]?).getD undef = .bool false := ha 10 (by decide)
            obtain ⟨w39, h39, r39⟩ := hp 3 (by decide)
            have e39 : (ac.tmps[39]?).getD undef = .bool true := (ha 39 (by decide)).trans h39
            clear h39
            clear ha hp
            refine Reg.Op1.guarded rfl rfl e39 (fun _ => Reg.Op1.plain rfl ?_) (fun h => absurd rfl h)
            go_wp2
            exact ⟨rfl, hK _ _ rfl (fun j k _ _ => Reg.Adds.refl _ _ _)⟩
          · intro val ac u hR hp ha K hK      -- 6: t42 := Op.binOp BinOp.eql 4 t40 t41 4
            obtain ⟨w40, h40, r40⟩ := hp 4 (by decide)
            have e40 : (ac.tmps[40]?).getD undef = .bool false := (ha 40 (by decide)).trans h40
            clear h40
            obtain ⟨w41, h41, r41⟩ := hp 5 (by decide)
            have e41 : (ac.tmps[41]?).getD undef = .bool false := (ha 41 (by decide)).trans h41
            clear h41
            obtain ⟨w39, h39, r39⟩ := hp 3 (by decide)
            have e39 : (ac.tmps[39]?).getD undef = .bool true := (ha 39 (by decide)).trans h39
            clear h39
            clear ha hp
            refine Reg.Op1.guarded rfl rfl e39 (fun _ => Reg.Op1.plain rfl ?_) (fun h => absurd rfl h)
            go_wp2
            exact ⟨rfl, hK _ _ rfl (fun j k _ _ => Reg.Adds.refl _ _ _)⟩
          · intro val ac u hR hp ha K hK      -- 7: t43 := Op.pick t39 t42 (const (Value.bool false))
            obtain ⟨w39, h39, r39⟩ := hp 3 (by decide)
            have e39 : (ac.tmps[39]?).getD undef = .bool true := (ha 39 (by decide)).trans h39
            clear h39
            obtain ⟨w42, h42, r42⟩ := hp 6 (by decide)
            have e42 : (ac.tmps[42]?).getD undef = .bool true := (ha 42 (by decide)).trans h42
            clear h42
            clear ha hp
            refine Reg.Op1.plain rfl ?_
            go_wp2
            exact ⟨rfl, hK _ _ rfl (fun j k _ _ => Reg.Adds.refl _ _ _)⟩
          · intro val ac u hR hp ha K hK      -- 8: t44 := Op.move t43
            obtain ⟨w43, h43, r43⟩ := hp 7 (by decide)
            have e43 : (ac.tmps[43]?).getD undef = .bool true := (ha 43 (by decide)).trans h43
            clear h43
            clear ha hp
            refine Reg.Op1.plain rfl ?_
            go_wp2
            exact ⟨rfl, hK _ _ rfl (fun j k _ _ => Reg.Adds.refl _ _ _)⟩
          · intro val ac u hR hp ha K hK      -- 9: t45 := Op.load 33 t4
            have e4 : (ac.tmps[4]?).getD undef = .pointer (some ⟨w.heap.size, 0, none⟩) := ha 4 (by decide)
            obtain ⟨w44, h44, r44⟩ := hp 8 (by decide)
            have e44 : (ac.tmps[44]?).getD undef = .bool true := (ha 44 (by decide)).trans h44
            clear h44
            clear ha hp
            refine Reg.Op1.guarded rfl rfl e44 (fun _ => Reg.Op1.plain rfl ?_) (fun h => absurd rfl h)
            have hVu : Vec.VBx u w.heap.size cut := Mem.Bx.below (w := w6.drew) HV6.out hR HV6.out.lt
            refine Mem.load_aggG _ _ vec_agg w.heap.size 0 (vcCells cut) (by simp [Region.wanted]) (Reg.eval_of e4) (vcCells_length _) (fun j u' hu => by rw [Nat.zero_add]; exact hVu.cell hu) ?_
            exact ⟨rfl, hK _ _ rfl (fun j k _ _ => Reg.Adds.refl _ _ _)⟩
          · intro val ac u hR hp ha K hK      -- 10: t46 := Op.buildSlice 23 0 #[]
            obtain ⟨w44, h44, r44⟩ := hp 8 (by decide)
            have e44 : (ac.tmps[44]?).getD undef = .bool true := (ha 44 (by decide)).trans h44
            clear h44
            clear ha hp
            refine Reg.Op1.guarded rfl rfl e44 (fun _ => Reg.Op1.plain rfl ?_) (fun h => absurd rfl h)
            go_wp2
            exact ⟨rfl, hK _ _ ⟨u.heap.size, rfl, Mem.Own.lit u _ 20 #[] 0 rfl rfl (by simp [maxLen])⟩ (fun j k _ _ => Reg.below_new u _)⟩
          · intro val ac u hR hp ha K hK      -- 11: t47 := Op.move t2
            have e2 : (ac.tmps[2]?).getD undef = .slice A es.length c := ha 2 (by decide)
            obtain ⟨w44, h44, r44⟩ := hp 8 (by decide)
            have e44 : (ac.tmps[44]?).getD undef = .bool true := (ha 44 (by decide)).trans h44
            clear h44
            clear ha hp
            refine Reg.Op1.guarded rfl rfl e44 (fun _ => Reg.Op1.plain rfl ?_) (fun h => absurd rfl h)
            go_wp2
            exact ⟨rfl, hK _ _ rfl (fun j k _ _ => Reg.Adds.refl _ _ _)⟩
          · intro val ac u hR hp ha K hK      -- 12: t48 := Op.call { builtin append, args := #[t46, t47], argTypes := #[23, 23] }
            obtain ⟨w46, h46, r46⟩ := hp 10 (by decide)
            have e46 : (ac.tmps[46]?).getD undef = val 10 := ha 46 (by decide)
            obtain ⟨w47, h47, r47⟩ := hp 11 (by decide)
            have e47 : (ac.tmps[47]?).getD undef = .slice A es.length c := (ha 47 (by decide)).trans h47
            clear h47
            obtain ⟨w44, h44, r44⟩ := hp 8 (by decide)
            have e44 : (ac.tmps[44]?).getD undef = .bool true := (ha 44 (by decide)).trans h44
            clear h44
            clear ha hp
            refine Reg.Op1.guarded rfl rfl e44 (fun _ => Reg.Op1.plain rfl ?_) (fun h => absurd rfl h)
            obtain ⟨s0, hv, ho⟩ := h46
            rw [hv] at e46
            have ho' := ho.below r46 (fun q hq => ho.lt hq)
            have hbu := HB6.out.trans (((Below.refl w6.heap.size w6).drew.trans hR).mono HB6.out.size)
            refine Mem.wpList_app0 u (by simp [Region.wanted]) (.tmp 46) (.tmp 47) _ rfl entries_elem (some ⟨s0, 0, none⟩) (Reg.eval_of e46) w.heap.size A es.length c (es.flatMap entCells) (Reg.eval_of e47) ?_ ho' (HR.out.below hbu) hol hoo (by unfold maxLen; omega) (by omega)
            intro A' c' w' hown hbl hat
            exact ⟨rfl, hK _ _ ⟨A', c', rfl, hown⟩ (fun j k _ _ => hbl)⟩
          · intro val ac u hR hp ha K hK      -- 13: t49 := Op.call { value (Operand.func 17), args := #[t45, t48], argTypes := #[33, 23] }
            obtain ⟨w45, h45, r45⟩ := hp 9 (by decide)
            have e45 : (ac.tmps[45]?).getD undef = .agg (vcCells cut).toArray := (ha 45 (by decide)).trans h45
            clear h45
            obtain ⟨w48, h48, r48⟩ := hp 12 (by decide)
            have e48 : (ac.tmps[48]?).getD undef = val 12 := ha 48 (by decide)
            obtain ⟨w44, h44, r44⟩ := hp 8 (by decide)
            have e44 : (ac.tmps[44]?).getD undef = .bool true := (ha 44 (by decide)).trans h44
            clear h44
            clear ha hp
            refine Reg.Op1.guarded rfl rfl e44 (fun _ => Reg.Op1.plain rfl ?_) (fun h => absurd rfl h)
            obtain ⟨A1, c1, hv, ho⟩ := h48
            rw [hv] at e48
            have ho' := ho.below r48 (fun q hq => ho.lt hq)
            go_wp2_with fail
            refine (closed_any cut A1 c1 es u.heap.size u ho'.rd (Nat.le_refl _) (by unfold maxLen; omega)).mono ?_
            rintro x w' ⟨rfl, hbw⟩
            rw [HCL.out]
            go_wp2_with fail
            exact ⟨rfl, hK _ _ rfl (fun j k _ _ => hbw)⟩
          · intro val ac u hR hp ha K hK      -- 14: t50 := Op.load 33 t4
            have e4 : (ac.tmps[4]?).getD undef = .pointer (some ⟨w.heap.size, 0, none⟩) := ha 4 (by decide)
            obtain ⟨w44, h44, r44⟩ := hp 8 (by decide)
            have e44 : (ac.tmps[44]?).getD undef = .bool true := (ha 44 (by decide)).trans h44
            clear h44
            clear ha hp
            refine Reg.Op1.guarded rfl rfl e44 (fun _ => Reg.Op1.plain rfl ?_) (fun h => absurd rfl h)
            have hVu : Vec.VBx u w.heap.size cut := Mem.Bx.below (w := w6.drew) HV6.out hR HV6.out.lt
            refine Mem.load_aggG _ _ vec_agg w.heap.size 0 (vcCells cut) (by simp [Region.wanted]) (Reg.eval_of e4) (vcCells_length _) (fun j u' hu => by rw [Nat.zero_add]; exact hVu.cell hu) ?_
            exact ⟨rfl, hK _ _ rfl (fun j k _ _ => Reg.Adds.refl _ _ _)⟩
          · intro val ac u hR hp ha K hK      -- 15: t51 := Op.move t2
            have e2 : (ac.tmps[2]?).getD undef = .slice A es.length c := ha 2 (by decide)
            obtain ⟨w44, h44, r44⟩ := hp 8 (by decide)
            have e44 : (ac.tmps[44]?).getD undef = .bool true := (ha 44 (by decide)).trans h44
            clear h44
            clear ha hp
            refine Reg.Op1.guarded rfl rfl e44 (fun _ => Reg.Op1.plain rfl ?_) (fun h => absurd rfl h)
            go_wp2
            exact ⟨rfl, hK _ _ rfl (fun j k _ _ => Reg.Adds.refl _ _ _)⟩
          · intro val ac u hR hp ha K hK      -- 16: t52 := Op.call { value (Operand.func 18), args := #[t50, t51], argTypes := #[33, 23] }
            obtain ⟨w50, h50, r50⟩ := hp 14 (by decide)
            have e50 : (ac.tmps[50]?).getD undef = .agg (vcCells cut).toArray := (ha 50 (by decide)).trans h50
            clear h50
            obtain ⟨w51, h51, r51⟩ := hp 15 (by decide)
            have e51 : (ac.tmps[51]?).getD undef = .slice A es.length c := (ha 51 (by decide)).trans h51
            clear h51
            obtain ⟨w44, h44, r44⟩ := hp 8 (by decide)
            have e44 : (ac.tmps[44]?).getD undef = .bool true := (ha 44 (by decide)).trans h44
            clear h44
            clear ha hp
            refine Reg.Op1.guarded rfl rfl e44 (fun _ => Reg.Op1.plain rfl ?_) (fun h => absurd rfl h)
            have hbu := HB6.out.trans (((Below.refl w6.heap.size w6).drew.trans hR).mono HB6.out.size)
            go_wp2_with fail
            refine (refClosed_any cut A c es w.heap.size u (HR.out.below hbu) hbu.size (by omega)).mono ?_
            rintro x w' ⟨rfl, hbw⟩
            rw [HCL.out]
            go_wp2_with fail
            exact ⟨rfl, hK _ _ rfl (fun j k _ _ => hbw)⟩
          · intro val ac u hR hp ha K hK      -- 17: t53 := Op.binOp BinOp.eql 4 t49 t52 4
            obtain ⟨w49, h49, r49⟩ := hp 13 (by decide)
            have e49 : (ac.tmps[49]?).getD undef = .bool false := (ha 49 (by decide)).trans h49
            clear h49
            obtain ⟨w52, h52, r52⟩ := hp 16 (by decide)
            have e52 : (ac.tmps[52]?).getD undef = .bool false := (ha 52 (by decide)).trans h52
            clear h52
            obtain ⟨w44, h44, r44⟩ := hp 8 (by decide)
            have e44 : (ac.tmps[44]?).getD undef = .bool true := (ha 44 (by decide)).trans h44
            clear h44
            clear ha hp
            refine Reg.Op1.guarded rfl rfl e44 (fun _ => Reg.Op1.plain rfl ?_) (fun h => absurd rfl h)
            go_wp2
            exact ⟨rfl, hK _ _ rfl (fun j k _ _ => Reg.Adds.refl _ _ _)⟩
          · intro val ac u hR hp ha K hK      -- 18: t54 := Op.pick t44 t53 (const (Value.bool false))
            obtain ⟨w44, h44, r44⟩ := hp 8 (by decide)
            have e44 : (ac.tmps[44]?).getD undef = .bool true := (ha 44 (by decide)).trans h44
            clear h44
            obtain ⟨w53, h53, r53⟩ := hp 17 (by decide)
            have e53 : (ac.tmps[53]?).getD undef = .bool true := (ha 53 (by decide)).trans h53
            clear h53
            clear ha hp
            refine Reg.Op1.plain rfl ?_
            go_wp2
            exact ⟨rfl, hK _ _ rfl (fun j k _ _ => Reg.Adds.refl _ _ _)⟩
          · intro val ac u hR hp ha K hK      -- 19: t6 := Op.assign t54
            obtain ⟨w54, h54, r54⟩ := hp 18 (by decide)
            have e54 : (ac.tmps[54]?).getD undef = .bool true := (ha 54 (by decide)).trans h54
            clear h54
            clear ha hp
            refine Reg.Op1.plain rfl ?_
            go_wp2
            exact ⟨rfl, hK _ _ rfl (fun j k _ _ => Reg.Adds.refl _ _ _)⟩
        · intro val u hR H
          obtain ⟨_, hv, _⟩ := H 19 (by decide)
          have hv : val 19 = .bool true := hv
          have HKu : Hid (Below w6.heap.size w6 u) := (Below.refl _ w6).drew.trans hR
          simp only [List.map_cons, List.map_nil, Reg.lay, Act.put, List.setIfInBounds_toArray, List.set_cons_succ, List.set_cons_zero, Nat.reduceAdd, hv]
          clear hR H hv
          go_wp2
          go_ret
          exact ⟨rfl, HB6.out.trans (HKu.out.mono HB6.out.size)⟩
      ·
        refine Reg.wp_region_rel (by kernel_rfl) 55 20 rfl rfl (by kernel_rfl) (Reg.Adds) (Reg.Adds.refl) (Reg.Adds.trans)
          (fun i v u => match i with
            | 0 => v = .agg (entCells m).toArray
            | 1 => v = .agg (entCells m).toArray
            | 2 => v = .bool true
            | 3 => v = .bool true
            | 4 => v = .bool false
            | 5 => v = .bool false
            | 6 => v = .bool true
            | 7 => v = .bool true
            | 8 => v = .bool true
            | 9 => v = .agg (vcCells cut).toArray
            | 10 => ∃ s0, v = .slice (some ⟨s0, 0, none⟩) 0 0 ∧ Mem.Own u 35 20 (some ⟨s0, 0, none⟩) 0 0 []
            | 11 => v = .slice A es.length c
            | 12 => ∃ A1 c1, v = .slice A1 es.length c1 ∧ Mem.Own u 35 20 A1 es.length c1 (es.flatMap entCells)
            | 13 => v = .bool true
            | 14 => v = .agg (vcCells cut).toArray
            | 15 => v = .slice A es.length c
            | 16 => v = .bool true
            | 17 => v = .bool true
            | 18 => v = .bool true
            | 19 => v = .bool true
            | _ => True) ?_ ?_
        · refine Reg.Steps.cons ?_ (Reg.Steps.cons ?_ (Reg.Steps.cons ?_ (Reg.Steps.cons ?_ (Reg.Steps.cons ?_ (Reg.Steps.cons ?_ (Reg.Steps.cons ?_ (Reg.Steps.cons ?_ (Reg.Steps.cons ?_ (Reg.Steps.cons ?_ (Reg.Steps.cons ?_ (Reg.Steps.cons ?_ (Reg.Steps.cons ?_ (Reg.Steps.cons ?_ (Reg.Steps.cons ?_ (Reg.Steps.cons ?_ (Reg.Steps.cons ?_ (Reg.Steps.cons ?_ (Reg.Steps.cons ?_ (Reg.Steps.cons ?_ (Reg.Steps.nil _))))))))))))))))))))
          · intro val ac u hR hp ha K hK      -- 0: t36 := Op.load 35 t7
            have e7 : (ac.tmps[7]?).getD undef = .pointer (some ⟨s, 0, none⟩) := ha 7 (by decide)
            clear ha hp
            refine Reg.Op1.plain rfl ?_
            have hMu : EBx u s m := Mem.Bx.below (w := w6.drew) HS6.out hR HS6.out.lt
            refine Mem.load_agg _ _ entry_agg s 0 (entCells m) (Reg.eval_of e7) (entCells_length _) (fun j u' hu => by rw [Nat.zero_add]; exact hMu.cell hu) ?_
            exact ⟨rfl, hK _ _ rfl (fun j k _ _ => Reg.Adds.refl _ _ _)⟩
          · intro val ac u hR hp ha K hK      -- 1: t37 := Op.load 35 t9
            have e9 : (ac.tmps[9]?).getD undef = .pointer (some ⟨g9, 0, none⟩) := ha 9 (by decide)
            clear ha hp
            refine Reg.Op1.plain rfl ?_
            have hMu : EBx u g9 m := Mem.Bx.below (w := w6.drew) HG6.out hR HG6.out.lt
            refine Mem.load_agg _ _ entry_agg g9 0 (entCells m) (Reg.eval_of e9) (entCells_length _) (fun j u' hu => by rw [Nat.zero_add]; exact hMu.cell hu) ?_
            exact ⟨rfl, hK _ _ rfl (fun j k _ _ => Reg.Adds.refl _ _ _)⟩
          · intro val ac u hR hp ha K hK      -- 2: t38 := Op.binOp BinOp.eql 35 t36 t37 35
            obtain ⟨w36, h36, r36⟩ := hp 0 (by decide)
            have e36 : (ac.tmps[36]?).getD undef = .agg (entCells m).toArray := (ha 36 (by decide)).trans h36
            clear h36
            obtain ⟨w37, h37, r37⟩ := hp 1 (by decide)
            have e37 : (ac.tmps[37]?).getD undef = .agg (entCells m).toArray := (ha 37 (by decide)).trans h37
            clear h37
            clear ha hp
            refine Reg.Op1.plain rfl ?_
            have hqq := HQ.out
            go_wp2
            exact ⟨rfl, hK _ _ rfl (fun j k _ _ => Reg.Adds.refl _ _ _)⟩
          · intro val ac u hR hp ha K hK      -- 3: t39 := Op.move t38
            obtain ⟨w38, h38, r38⟩ := hp 2 (by decide)
            have e38 : (ac.tmps[38]?).getD undef = .bool true := (ha 38 (by decide)).trans h38
            clear h38
            clear ha hp
            refine Reg.Op1.plain rfl ?_
            go_wp2
            exact ⟨rfl, hK _ _ rfl (fun j k _ _ => Reg.Adds.refl _ _ _)⟩
          · intro val ac u hR hp ha K hK      -- 4: t40 := Op.move t8
            have e8 : (ac.tmps[8]?).getD undef = .bool false := ha 8 (by decide)
            obtain ⟨w39, h39, r39⟩ := hp 3 (by decide)
            have e39 : (ac.tmps[39]?).getD undef = .bool true := (ha 39 (by decide)).trans h39
            clear h39
            clear ha hp
            refine Reg.Op1.guarded rfl rfl e39 (fun _ => Reg.Op1.plain rfl ?_) (fun h => absurd rfl h)
            go_wp2
            exact ⟨rfl, hK _ _ rfl (fun j k _ _ => Reg.Adds.refl _ _ _)⟩
          · intro val ac u hR hp ha K hK      -- 5: t41 := Op.move t10
            have e10 : (ac.tmps[10]?).getD undef = .bool false := ha 10 (by decide)
            obtain ⟨w39, h39, r39⟩ := hp 3 (by decide)
            have e39 : (ac.tmps[39]?).getD undef = .bool true := (ha 39 (by decide)).trans h39
            clear h39
            clear ha hp
            refine Reg.Op1.guarded rfl rfl e39 (fun _ => Reg.Op1.plain rfl ?_) (fun h => absurd rfl h)
            go_wp2
            exact ⟨rfl, hK _ _ rfl (fun j k _ _ => Reg.Adds.refl _ _ _)⟩
          · intro val ac u hR hp ha K hK      -- 6: t42 := Op.binOp BinOp.eql 4 t40 t41 4
            obtain ⟨w40, h40, r40⟩ := hp 4 (by decide)
            have e40 : (ac.tmps[40]?).getD undef = .bool false := (ha 40 (by decide)).trans h40
            clear h40
            obtain ⟨w41, h41, r41⟩ := hp 5 (by decide)
            have e41 : (ac.tmps[41]?).getD undef = .bool false := (ha 41 (by decide)).trans h41
            clear h41
            obtain ⟨w39, h39, r39⟩ := hp 3 (by decide)
            have e39 : (ac.tmps[39]?).getD undef = .bool true := (ha 39 (by decide)).trans h39
            clear h39
            clear ha hp
            refine Reg.Op1.guarded rfl rfl e39 (fun _ => Reg.Op1.plain rfl ?_) (fun h => absurd rfl h)
            go_wp2
            exact ⟨rfl, hK _ _ rfl (fun j k _ _ => Reg.Adds.refl _ _ _)⟩
          · intro val ac u hR hp ha K hK      -- 7: t43 := Op.pick t39 t42 (const (Value.bool false))
            obtain ⟨w39, h39, r39⟩ := hp 3 (by decide)
            have e39 : (ac.tmps[39]?).getD undef = .bool true := (ha 39 (by decide)).trans h39
            clear h39
            obtain ⟨w42, h42, r42⟩ := hp 6 (by decide)
            have e42 : (ac.tmps[42]?).getD undef = .bool true := (ha 42 (by decide)).trans h42
            clear h42
            clear ha hp
            refine Reg.Op1.plain rfl ?_
            go_wp2
            exact ⟨rfl, hK _ _ rfl (fun j k _ _ => Reg.Adds.refl _ _ _)⟩
          · intro val ac u hR hp ha K hK      -- 8: t44 := Op.move t43
            obtain ⟨w43, h43, r43⟩ := hp 7 (by decide)
            have e43 : (ac.tmps[43]?).getD undef = .bool true := (ha 43 (by decide)).trans h43
            clear h43
            clear ha hp
            refine Reg.Op1.plain rfl ?_
            go_wp2
            exact ⟨rfl, hK _ _ rfl (fun j k _ _ => Reg.Adds.refl _ _ _)⟩
          · intro val ac u hR hp ha K hK      -- 9: t45 := Op.load 33 t4
            have e4 : (ac.tmps[4]?).getD undef = .pointer (some ⟨w.heap.size, 0, none⟩) := ha 4 (by decide)
            obtain ⟨w44, h44, r44⟩ := hp 8 (by decide)
            have e44 : (ac.tmps[44]?).getD undef = .bool true := (ha 44 (by decide)).trans h44
            clear h44
            clear ha hp
            refine Reg.Op1.guarded rfl rfl e44 (fun _ => Reg.Op1.plain rfl ?_) (fun h => absurd rfl h)
            have hVu : Vec.VBx u w.heap.size cut := Mem.Bx.below (w := w6.drew) HV6.out hR HV6.out.lt
            refine Mem.load_aggG _ _ vec_agg w.heap.size 0 (vcCells cut) (by simp [Region.wanted]) (Reg.eval_of e4) (vcCells_length _) (fun j u' hu => by rw [Nat.zero_add]; exact hVu.cell hu) ?_
            exact ⟨rfl, hK _ _ rfl (fun j k _ _ => Reg.Adds.refl _ _ _)⟩
          · intro val ac u hR hp ha K hK      -- 10: t46 := Op.buildSlice 23 0 #[]
            obtain ⟨w44, h44, r44⟩ := hp 8 (by decide)
            have e44 : (ac.tmps[44]?).getD undef = .bool true := (ha 44 (by decide)).trans h44
            clear h44
            clear ha hp
            refine Reg.Op1.guarded rfl rfl e44 (fun _ => Reg.Op1.plain rfl ?_) (fun h => absurd rfl h)
            go_wp2
            exact ⟨rfl, hK _ _ ⟨u.heap.size, rfl, Mem.Own.lit u _ 20 #[] 0 rfl rfl (by simp [maxLen])⟩ (fun j k _ _ => Reg.below_new u _)⟩
          · intro val ac u hR hp ha K hK      -- 11: t47 := Op.move t2
            have e2 : (ac.tmps[2]?).getD undef = .slice A es.length c := ha 2 (by decide)
            obtain ⟨w44, h44, r44⟩ := hp 8 (by decide)
            have e44 : (ac.tmps[44]?).getD undef = .bool true := (ha 44 (by decide)).trans h44
            clear h44
            clear ha hp
            refine Reg.Op1.guarded rfl rfl e44 (fun _ => Reg.Op1.plain rfl ?_) (fun h => absurd rfl h)
            go_wp2
            exact ⟨rfl, hK _ _ rfl (fun j k _ _ => Reg.Adds.refl _ _ _)⟩
          · intro val ac u hR hp ha K hK      -- 12: t48 := Op.call { builtin append, args := #[t46, t47], argTypes := #[23, 23] }
            obtain ⟨w46, h46, r46⟩ := hp 10 (by decide)
            have e46 : (ac.tmps[46]?).getD undef = val 10 := ha 46 (by decide)
            obtain ⟨w47, h47, r47⟩ := hp 11 (by decide)
            have e47 : (ac.tmps[47]?).getD undef = .slice A es.length c := (ha 47 (by decide)).trans h47
            clear h47
            obtain ⟨w44, h44, r44⟩ := hp 8 (by decide)
            have e44 : (ac.tmps[44]?).getD undef = .bool true := (ha 44 (by decide)).trans h44
            clear h44
            clear ha hp
            refine Reg.Op1.guarded rfl rfl e44 (fun _ => Reg.Op1.plain rfl ?_) (fun h => absurd rfl h)
            obtain ⟨s0, hv, ho⟩ := h46
            rw [hv] at e46
            have ho' := ho.below r46 (fun q hq => ho.lt hq)
            have hbu := HB6.out.trans (((Below.refl w6.heap.size w6).drew.trans hR).mono HB6.out.size)
            refine Mem.wpList_app0 u (by simp [Region.wanted]) (.tmp 46) (.tmp 47) _ rfl entries_elem (some ⟨s0, 0, none⟩) (Reg.eval_of e46) w.heap.size A es.length c (es.flatMap entCells) (Reg.eval_of e47) ?_ ho' (HR.out.below hbu) hol hoo (by unfold maxLen; omega) (by omega)
            intro A' c' w' hown hbl hat
            exact ⟨rfl, hK _ _ ⟨A', c', rfl, hown⟩ (fun j k _ _ => hbl)⟩
          · intro val ac u hR hp ha K hK      -- 13: t49 := Op.call { value (Operand.func 17), args := #[t45, t48], argTypes := #[33, 23] }
            obtain ⟨w45, h45, r45⟩ := hp 9 (by decide)
            have e45 : (ac.tmps[45]?).getD undef = .agg (vcCells cut).toArray := (ha 45 (by decide)).trans h45
            clear h45
            obtain ⟨w48, h48, r48⟩ := hp 12 (by decide)
            have e48 : (ac.tmps[48]?).getD undef = val 12 := ha 48 (by decide)
            obtain ⟨w44, h44, r44⟩ := hp 8 (by decide)
            have e44 : (ac.tmps[44]?).getD undef = .bool true := (ha 44 (by decide)).trans h44
            clear h44
            clear ha hp
            refine Reg.Op1.guarded rfl rfl e44 (fun _ => Reg.Op1.plain rfl ?_) (fun h => absurd rfl h)
            obtain ⟨A1, c1, hv, ho⟩ := h48
            rw [hv] at e48
            have ho' := ho.below r48 (fun q hq => ho.lt hq)
            go_wp2_with fail
            refine (closed_any cut A1 c1 es u.heap.size u ho'.rd (Nat.le_refl _) (by unfold maxLen; omega)).mono ?_
            rintro x w' ⟨rfl, hbw⟩
            rw [HCL.out]
            go_wp2_with fail
            exact ⟨rfl, hK _ _ rfl (fun j k _ _ => hbw)⟩
          · intro val ac u hR hp ha K hK      -- 14: t50 := Op.load 33 t4
            have e4 : (ac.tmps[4]?).getD undef = .pointer (some ⟨w.heap.size, 0, none⟩) := ha 4 (by decide)
            obtain ⟨w44, h44, r44⟩ := hp 8 (by decide)
            have e44 : (ac.tmps[44]?).getD undef = .bool true := (ha 44 (by decide)).trans h44
            clear h44
            clear ha hp
            refine Reg.Op1.guarded rfl rfl e44 (fun _ => Reg.Op1.plain rfl ?_) (fun h => absurd rfl h)
            have hVu : Vec.VBx u w.heap.size cut := Mem.Bx.below (w := w6.drew) HV6.out hR HV6.out.lt
            refine Mem.load_aggG _ _ vec_agg w.heap.size 0 (vcCells cut) (by simp [Region.wanted]) (Reg.eval_of e4) (vcCells_length _) (fun j u' hu => by rw [Nat.zero_add]; exact hVu.cell hu) ?_
            exact ⟨rfl, hK _ _ rfl (fun j k _ _ => Reg.Adds.refl _ _ _)⟩
          · intro val ac u hR hp ha K hK      -- 15: t51 := Op.move t2
            have e2 : (ac.tmps[2]?).getD undef = .slice A es.length c := ha 2 (by decide)
            obtain ⟨w44, h44, r44⟩ := hp 8 (by decide)
            have e44 : (ac.tmps[44]?).getD undef = .bool true := (ha 44 (by decide)).trans h44
            clear h44
            clear ha hp
            refine Reg.Op1.guarded rfl rfl e44 (fun _ => Reg.Op1.plain rfl ?_) (fun h => absurd rfl h)
            go_wp2
            exact ⟨rfl, hK _ _ rfl (fun j k _ _ => Reg.Adds.refl _ _ _)⟩
          · intro val ac u hR hp ha K hK      -- 16: t52 := Op.call { value (Operand.func 18), args := #[t50, t51], argTypes := #[33, 23] }
            obtain ⟨w50, h50, r50⟩ := hp 14 (by decide)
            have e50 : (ac.tmps[50]?).getD undef = .agg (vcCells cut).toArray := (ha 50 (by decide)).trans h50
            clear h50
            obtain ⟨w51, h51, r51⟩ := hp 15 (by decide)
            have e51 : (ac.tmps[51]?).getD undef = .slice A es.length c := (ha 51 (by decide)).trans h51
            clear h51
            obtain ⟨w44, h44, r44⟩ := hp 8 (by decide)
            have e44 : (ac.tmps[44]?).getD undef = .bool true := (ha 44 (by decide)).trans h44
            clear h44
            clear ha hp
            refine Reg.Op1.guarded rfl rfl e44 (fun _ => Reg.Op1.plain rfl ?_) (fun h => absurd rfl h)
            have hbu := HB6.out.trans (((Below.refl w6.heap.size w6).drew.trans hR).mono HB6.out.size)
            go_wp2_with fail
            refine (refClosed_any cut A c es w.heap.size u (HR.out.below hbu) hbu.size (by omega)).mono ?_
            rintro x w' ⟨rfl, hbw⟩
            rw [HCL.out]
            go_wp2_with fail
            exact ⟨rfl, hK _ _ rfl (fun j k _ _ => hbw)⟩
          · intro val ac u hR hp ha K hK      -- 17: t53 := Op.binOp BinOp.eql 4 t49 t52 4
            obtain ⟨w49, h49, r49⟩ := hp 13 (by decide)
            have e49 : (ac.tmps[49]?).getD undef = .bool true := (ha 49 (by decide)).trans h49
            clear h49
            obtain ⟨w52, h52, r52⟩ := hp 16 (by decide)
            have e52 : (ac.tmps[52]?).getD undef = .bool true := (ha 52 (by decide)).trans h52
            clear h52
            obtain ⟨w44, h44, r44⟩ := hp 8 (by decide)
            have e44 : (ac.tmps[44]?).getD undef = .bool true := (ha 44 (by decide)).trans h44
            clear h44
            clear ha hp
            refine Reg.Op1.guarded rfl rfl e44 (fun _ => Reg.Op1.plain rfl ?_) (fun h => absurd rfl h)
            go_wp2
            exact ⟨rfl, hK _ _ rfl (fun j k _ _ => Reg.Adds.refl _ _ _)⟩
          · intro val ac u hR hp ha K hK      -- 18: t54 := Op.pick t44 t53 (const (Value.bool false))
            obtain ⟨w44, h44, r44⟩ := hp 8 (by decide)
            have e44 : (ac.tmps[44]?).getD undef = .bool true := (ha 44 (by decide)).trans h44
            clear h44
            obtain ⟨w53, h53, r53⟩ := hp 17 (by decide)
            have e53 : (ac.tmps[53]?).getD undef = .bool true := (ha 53 (by decide)).trans h53
            clear h53
            clear ha hp
            refine Reg.Op1.plain rfl ?_
            go_wp2
            exact ⟨rfl, hK _ _ rfl (fun j k _ _ => Reg.Adds.refl _ _ _)⟩
          · intro val ac u hR hp ha K hK      -- 19: t6 := Op.assign t54
            obtain ⟨w54, h54, r54⟩ := hp 18 (by decide)
            have e54 : (ac.tmps[54]?).getD undef = .bool true := (ha 54 (by decide)).trans h54
            clear h54
            clear ha hp
            refine Reg.Op1.plain rfl ?_
            go_wp2
            exact ⟨rfl, hK _ _ rfl (fun j k _ _ => Reg.Adds.refl _ _ _)⟩
        · intro val u hR H
          obtain ⟨_, hv, _⟩ := H 19 (by decide)
          have hv : val 19 = .bool true := hv
          have HKu : Hid (Below w6.heap.size w6 u) := (Below.refl _ w6).drew.trans hR
          simp only [List.map_cons, List.map_nil, Reg.lay, Act.put, List.setIfInBounds_toArray, List.set_cons_succ, List.set_cons_zero, Nat.reduceAdd, hv]
          clear hR H hv
          go_wp2
          go_ret
          exact ⟨rfl, HB6.out.trans (HKu.out.mono HB6.out.size)⟩
    · cases cl
      ·
        refine Reg.wp_region_rel (by kernel_rfl) 55 20 rfl rfl (by kernel_rfl) (Reg.Adds) (Reg.Adds.refl) (Reg.Adds.trans)
          (fun i v u => match i with
            | 0 => v = .agg (entCells m).toArray
            | 1 => v = .agg (entCells m).toArray
            | 2 => v = .bool true
            | 3 => v = .bool true
            | 4 => v = .bool true
            | 5 => v = .bool true
            | 6 => v = .bool true
            | 7 => v = .bool true
            | 8 => v = .bool true
            | 9 => v = .agg (vcCells cut).toArray
            | 10 => ∃ s0, v = .slice (some ⟨s0, 0, none⟩) 0 0 ∧ Mem.Own u 35 20 (some ⟨s0, 0, none⟩) 0 0 []
            | 11 => v = .slice A es.length c
            | 12 => ∃ A1 c1, v = .slice A1 es.length c1 ∧ Mem.Own u 35 20 A1 es.length c1 (es.flatMap entCells)
            | 13 => v = .bool false
            | 14 => v = .agg (vcCells cut).toArray
            | 15 => v = .slice A es.length c
            | 16 => v = .bool false
            | 17 => v = .bool true
            | 18 => v = .bool true
            | 19 => v = .bool true
            | _ => True) ?_ ?_
        · refine Reg.Steps.cons ?_ (Reg.Steps.cons ?_ (Reg.Steps.cons ?_ (Reg.Steps.cons ?_ (Reg.Steps.cons ?_ (Reg.Steps.cons ?_ (Reg.Steps.cons ?_ (Reg.Steps.cons ?_ (Reg.Steps.cons ?_ (Reg.Steps.cons ?_ (Reg.Steps.cons ?_ (Reg.Steps.cons ?_ (Reg.Steps.cons ?_ (Reg.Steps.cons ?_ (Reg.Steps.cons ?_ (Reg.Steps.cons ?_ (Reg.Steps.cons ?_ (Reg.Steps.cons ?_ (Reg.Steps.cons ?_ (Reg.Steps.cons ?_ (Reg.Steps.nil _))))))))))))))))))))
          · intro val ac u hR hp ha K hK      -- 0: t36 := Op.load 35 t7
            have e7 : (ac.tmps[7]?).getD undef = .pointer (some ⟨s, 0, none⟩) := ha 7 (by decide)
            clear ha hp
            refine Reg.Op1.plain rfl ?_
            have hMu : EBx u s m := Mem.Bx.below (w := w6.drew) HS6.out hR HS6.out.lt
            refine Mem.load_agg _ _ entry_agg s 0 (entCells m) (Reg.eval_of e7) (entCells_length _) (fun j u' hu => by rw [Nat.zero_add]; exact hMu.cell hu) ?_
            exact ⟨rfl, hK _ _ rfl (fun j k _ _ => Reg.Adds.refl _ _ _)⟩
          · intro val ac u hR hp ha K hK      -- 1: t37 := Op.load 35 t9
            have e9 : (ac.tmps[9]?).getD undef = .pointer (some ⟨g9, 0, none⟩) := ha 9 (by decide)
            clear ha hp
            refine Reg.Op1.plain rfl ?_
            have hMu : EBx u g9 m := Mem.Bx.below (w := w6.drew) HG6.out hR HG6.out.lt
            refine Mem.load_agg _ _ entry_agg g9 0 (entCells m) (Reg.eval_of e9) (entCells_length _) (fun j u' hu => by rw [Nat.zero_add]; exact hMu.cell hu) ?_
            exact ⟨rfl, hK _ _ rfl (fun j k _ _ => Reg.Adds.refl _ _ _)⟩
          · intro val ac u hR hp ha K hK      -- 2: t38 := Op.binOp BinOp.eql 35 t36 t37 35
            obtain ⟨w36, h36, r36⟩ := hp 0 (by decide)
            have e36 : (ac.tmps[36]?).getD undef = .agg (entCells m).toArray := (ha 36 (by decide)).trans h36
            clear h36
            obtain ⟨w37, h37, r37⟩ := hp 1 (by decide)
            have e37 : (ac.tmps[37]?).getD undef = .agg (entCells m).toArray := (ha 37 (by decide)).trans h37
            clear h37
            clear ha hp
            refine Reg.Op1.plain rfl ?_
            have hqq := HQ.out
            go_wp2
            exact ⟨rfl, hK _ _ rfl (fun j k _ _ => Reg.Adds.refl _ _ _)⟩
          · intro val ac u hR hp ha K hK      -- 3: t39 := Op.move t38
            obtain ⟨w38, h38, r38⟩ := hp 2 (by decide)
            have e38 : (ac.tmps[38]?).getD undef = .bool true := (ha 38 (by decide)).trans h38
            clear h38
            clear ha hp
            refine Reg.Op1.plain rfl ?_
            go_wp2
            exact ⟨rfl, hK _ _ rfl (fun j k _ _ => Reg.Adds.refl _ _ _)⟩
          · intro val ac u hR hp ha K hK      -- 4: t40 := Op.move t8
            have e8 : (ac.tmps[8]?).getD undef = .bool true := ha 8 (by decide)
            obtain ⟨w39, h39, r39⟩ := hp 3 (by decide)
            have e39 : (ac.tmps[39]?).getD undef = .bool true := (ha 39 (by decide)).trans h39
            clear h39
            clear ha hp
            refine Reg.Op1.guarded rfl rfl e39 (fun _ => Reg.Op1.plain rfl ?_) (fun h => absurd rfl h)
            go_wp2
            exact ⟨rfl, hK _ _ rfl (fun j k _ _ => Reg.Adds.refl _ _ _)⟩
          · intro val ac u hR hp ha K hK      -- 5: t41 := Op.move t10
            have e10 : (ac.tmps[10]?).getD undef = .bool true := ha 10 (by decide)
            obtain ⟨w39, h39, r39⟩ := hp 3 (by decide)
            have e39 : (ac.tmps[39]?).getD undef = .bool true := (ha 39 (by decide)).trans h39
            clear h39
            clear ha hp
            refine Reg.Op1.guarded rfl rfl e39 (fun _ => Reg.Op1.plain rfl ?_) (fun h => absurd rfl h)
            go_wp2
            exact ⟨rfl, hK _ _ rfl (fun j k _ _ => Reg.Adds.refl _ _ _)⟩
          · intro val ac u hR hp ha K hK      -- 6: t42 := Op.binOp BinOp.eql 4 t40 t41 4
            obtain ⟨w40, h40, r40⟩ := hp 4 (by decide)
            have e40 : (ac.tmps[40]?).getD undef = .bool true := (ha 40 (by decide)).trans h40
            clear h40
            obtain ⟨w41, h41, r41⟩ := hp 5 (by decide)
            have e41 : (ac.tmps[41]?).getD undef = .bool true := (ha 41 (by decide)).trans h41
            clear h41
            obtain ⟨w39, h39, r39⟩ := hp 3 (by decide)
            have e39 : (ac.tmps[39]?).getD undef = .bool true := (ha 39 (by decide)).trans h39
            clear h39
            clear ha hp
            refine Reg.Op1.guarded rfl rfl e39 (fun _ => Reg.Op1.plain rfl ?_) (fun h => absurd rfl h)
            go_wp2
            exact ⟨rfl, hK _ _ rfl (fun j k _ _ => Reg.Adds.refl _ _ _)⟩
          · intro val ac u hR hp ha K hK      -- 7: t43 := Op.pick t39 t42 (const (Value.bool false))
            obtain ⟨w39, h39, r39⟩ := hp 3 (by decide)
            have e39 : (ac.tmps[39]?).getD undef = .bool true := (ha 39 (by decide)).trans h39
            clear h39
            obtain ⟨w42, h42, r42⟩ := hp 6 (by decide)
            have e42 : (ac.tmps[42]?).getD undef = .bool true := (ha 42 (by decide)).trans h42
            clear h42
            clear ha hp
            refine Reg.Op1.plain rfl ?_
            go_wp2
            exact ⟨rfl, hK _ _ rfl (fun j k _ _ => Reg.Adds.refl _ _ _)⟩
          · intro val ac u hR hp ha K hK      -- 8: t44 := Op.move t43
            obtain ⟨w43, h43, r43⟩ := hp 7 (by decide)
            have e43 : (ac.tmps[43]?).getD undef = .bool true := (ha 43 (by decide)).trans h43
            clear h43
            clear ha hp
            refine Reg.Op1.plain rfl ?_
            go_wp2
            exact ⟨rfl, hK _ _ rfl (fun j k _ _ => Reg.Adds.refl _ _ _)⟩
          · intro val ac u hR hp ha K hK      -- 9: t45 := Op.load 33 t4
            have e4 : (ac.tmps[4]?).getD undef = .pointer (some ⟨w.heap.size, 0, none⟩) := ha 4 (by decide)
            obtain ⟨w44, h44, r44⟩ := hp 8 (by decide)
            have e44 : (ac.tmps[44]?).getD undef = .bool true := (ha 44 (by decide)).trans h44
            clear h44
            clear ha hp
            refine Reg.Op1.guarded rfl rfl e44 (fun _ => Reg.Op1.plain rfl ?_) (fun h => absurd rfl h)
            have hVu : Vec.VBx u w.heap.size cut := Mem.Bx.below (w := w6.drew) HV6.out hR HV6.out.lt
            refine Mem.load_aggG _ _ vec_agg w.heap.size 0 (vcCells cut) (by simp [Region.wanted]) (Reg.eval_of e4) (vcCells_length _) (fun j u' hu => by rw [Nat.zero_add]; exact hVu.cell hu) ?_
            exact ⟨rfl, hK _ _ rfl (fun j k _ _ => Reg.Adds.refl _ _ _)⟩
          · intro val ac u hR hp ha K hK      -- 10: t46 := Op.buildSlice 23 0 #[]
            obtain ⟨w44, h44, r44⟩ := hp 8 (by decide)
            have e44 : (ac.tmps[44]?).getD undef = .bool true := (ha 44 (by decide)).trans h44
            clear h44
            clear ha hp
            refine Reg.Op1.guarded rfl rfl e44 (fun _ => Reg.Op1.plain rfl ?_) (fun h => absurd rfl h)
            go_wp2
            exact ⟨rfl, hK _ _ ⟨u.heap.size, rfl, Mem.Own.lit u _ 20 #[] 0 rfl rfl (by simp [maxLen])⟩ (fun j k _ _ => Reg.below_new u _)⟩
          · intro val ac u hR hp ha K hK      -- 11: t47 := Op.move t2
            have e2 : (ac.tmps[2]?).getD undef = .slice A es.length c := ha 2 (by decide)
            obtain ⟨w44, h44, r44⟩ := hp 8 (by decide)
            have e44 : (ac.tmps[44]?).getD undef = .bool true := (ha 44 (by decide)).trans h44
            clear h44
            clear ha hp
            refine Reg.Op1.guarded rfl rfl e44 (fun _ => Reg.Op1.plain rfl ?_) (fun h => absurd rfl h)
            go_wp2
            exact ⟨rfl, hK _ _ rfl (fun j k _ _ => Reg.Adds.refl _ _ _)⟩
          · intro val ac u hR hp ha K hK      -- 12: t48 := Op.call { builtin append, args := #[t46, t47], argTypes := #[23, 23] }
            obtain ⟨w46, h46, r46⟩ := hp 10 (by decide)
            have e46 : (ac.tmps[46]?).getD undef = val 10 := ha 46 (by decide)
            obtain ⟨w47, h47, r47⟩ := hp 11 (by decide)
            have e47 : (ac.tmps[47]?).getD undef = .slice A es.length c := (ha 47 (by decide)).trans h47
            clear h47
            obtain ⟨w44, h44, r44⟩ := hp 8 (by decide)
            have e44 : (ac.tmps[44]?).getD undef = .bool true := (ha 44 (by decide)).trans h44
            clear h44
            clear ha hp
            refine Reg.Op1.guarded rfl rfl e44 (fun _ => Reg.Op1.plain rfl ?_) (fun h => absurd rfl h)
            obtain ⟨s0, hv, ho⟩ := h46
            rw [hv] at e46
            have ho' := ho.below r46 (fun q hq => ho.lt hq)
            have hbu := HB6.out.trans (((Below.refl w6.heap.size w6).drew.trans hR).mono HB6.out.size)
            refine Mem.wpList_app0 u (by simp [Region.wanted]) (.tmp 46) (.tmp 47) _ rfl entries_elem (some ⟨s0, 0, none⟩) (Reg.eval_of e46) w.heap.size A es.length c (es.flatMap entCells) (Reg.eval_of e47) ?_ ho' (HR.out.below hbu) hol hoo (by unfold maxLen; omega) (by omega)
            intro A' c' w' hown hbl hat
            exact ⟨rfl, hK _ _ ⟨A', c', rfl, hown⟩ (fun j k _ _ => hbl)⟩
          · intro val ac u hR hp ha K hK      -- 13: t49 := Op.call { value (Operand.func 17), args := #[t45, t48], argTypes := #[33, 23] }
            obtain ⟨w45, h45, r45⟩ := hp 9 (by decide)
            have e45 : (ac.tmps[45]?).getD undef = .agg (vcCells cut).toArray := (ha 45 (by decide)).trans h45
            clear h45
            obtain ⟨w48, h48, r48⟩ := hp 12 (by decide)
            have e48 : (ac.tmps[48]?).getD undef = val 12 := ha 48 (by decide)
            obtain ⟨w44, h44, r44⟩ := hp 8 (by decide)
            have e44 : (ac.tmps[44]?).getD undef = .bool true := (ha 44 (by decide)).trans h44
            clear h44
            clear ha hp
            refine Reg.Op1.guarded rfl rfl e44 (fun _ => Reg.Op1.plain rfl ?_) (fun h => absurd rfl h)
            obtain ⟨A1, c1, hv, ho⟩ := h48
            rw [hv] at e48
            have ho' := ho.below r48 (fun q hq => ho.lt hq)
            go_wp2_with fail
            refine (closed_any cut A1 c1 es u.heap.size u ho'.rd (Nat.le_refl _) (by unfold maxLen; omega)).mono ?_
            rintro x w' ⟨rfl, hbw⟩
            rw [HCL.out]
            go_wp2_with fail
            exact ⟨rfl, hK _ _ rfl (fun j k _ _ => hbw)⟩
          · intro val ac u hR hp ha K hK      -- 14: t50 := Op.load 33 t4
            have e4 : (ac.tmps[4]?).getD undef = .pointer (some ⟨w.heap.size, 0, none⟩) := ha 4 (by decide)
            obtain ⟨w44, h44, r44⟩ := hp 8 (by decide)
            have e44 : (ac.tmps[44]?).getD undef = .bool true := (ha 44 (by decide)).trans h44
            clear h44
            clear ha hp
            refine Reg.Op1.guarded rfl rfl e44 (fun _ => Reg.Op1.plain rfl ?_) (fun h => absurd rfl h)
            have hVu : Vec.VBx u w.heap.size cut := Mem.Bx.below (w := w6.drew) HV6.out hR HV6.out.lt
            refine Mem.load_aggG _ _ vec_agg w.heap.size 0 (vcCells cut) (by simp [Region.wanted]) (Reg.eval_of e4) (vcCells_length _) (fun j u' hu => by rw [Nat.zero_add]; exact hVu.cell hu) ?_
            exact ⟨rfl, hK _ _ rfl (fun j k _ _ => Reg.Adds.refl _ _ _)⟩
          · intro val ac u hR hp ha K hK      -- 15: t51 := Op.move t2
            have e2 : (ac.tmps[2]?).getD undef = .slice A es.length c := ha 2 (by decide)
            obtain ⟨w44, h44, r44⟩ := hp 8 (by decide)
            have e44 : (ac.tmps[44]?).getD undef = .bool true := (ha 44 (by decide)).trans h44
            clear h44
            clear ha hp
            refine Reg.Op1.guarded rfl rfl e44 (fun _ => Reg.Op1.plain rfl ?_) (fun h => absurd rfl h)
            go_wp2
            exact ⟨rfl, hK _ _ rfl (fun j k _ _ => Reg.Adds.refl _ _ _)⟩
          · intro val ac u hR hp ha K hK      -- 16: t52 := Op.call { value (Operand.func 18), args := #[t50, t51], argTypes := #[33, 23] }
            obtain ⟨w50, h50, r50⟩ := hp 14 (by decide)
            have e50 : (ac.tmps[50]?).getD undef = .agg (vcCells cut).toArray := (ha 50 (by decide)).trans h50
            clear h50
            obtain ⟨w51, h51, r51⟩ := hp 15 (by decide)
            have e51 : (ac.tmps[51]?).getD undef = .slice A es.length c := (ha 51 (by decide)).trans h51
            clear h51
            obtain ⟨w44, h44, r44⟩ := hp 8 (by decide)
            have e44 : (ac.tmps[44]?).getD undef = .bool true := (ha 44 (by decide)).trans h44
            clear h44
            clear ha hp
            refine Reg.Op1.guarded rfl rfl e44 (fun _ => Reg.Op1.plain rfl ?_) (fun h => absurd rfl h)
            have hbu := HB6.out.trans (((Below.refl w6.heap.size w6).drew.trans hR).mono HB6.out.size)
            go_wp2_with fail
            refine (refClosed_any cut A c es w.heap.size u (HR.out.below hbu) hbu.size (by omega)).mono ?_
            rintro x w' ⟨rfl, hbw⟩
            rw [HCL.out]
            go_wp2_with fail
            exact ⟨rfl, hK _ _ rfl (fun j k _ _ => hbw)⟩
          · intro val ac u hR hp ha K hK      -- 17: t53 := Op.binOp BinOp.eql 4 t49 t52 4
            obtain ⟨w49, h49, r49⟩ := hp 13 (by decide)
            have e49 : (ac.tmps[49]?).getD undef = .bool false := (ha 49 (by decide)).trans h49
            clear h49
            obtain ⟨w52, h52, r52⟩ := hp 16 (by decide)
            have e52 : (ac.tmps[52]?).getD undef = .bool false := (ha 52 (by decide)).trans h52
            clear h52
            obtain ⟨w44, h44, r44⟩ := hp 8 (by decide)
            have e44 : (ac.tmps[44]?).getD undef = .bool true := (ha 44 (by decide)).trans h44
            clear h44
            clear ha hp
            refine Reg.Op1.guarded rfl rfl e44 (fun _ => Reg.Op1.plain rfl ?_) (fun h => absurd rfl h)
            go_wp2
            exact ⟨rfl, hK _ _ rfl (fun j k _ _ => Reg.Adds.refl _ _ _)⟩
          · intro val ac u hR hp ha K hK      -- 18: t54 := Op.pick t44 t53 (const (Value.bool false))
            obtain ⟨w44, h44, r44⟩ := hp 8 (by decide)
            have e44 : (ac.tmps[44]?).getD undef = .bool true := (ha 44 (by decide)).trans h44
            clear h44
            obtain ⟨w53, h53, r53⟩ := hp 17 (by decide)
            have e53 : (ac.tmps[53]?).getD undef = .bool true := (ha 53 (by decide)).trans h53
            clear h53
            clear ha hp
            refine Reg.Op1.plain rfl ?_
            go_wp2
            exact ⟨rfl, hK _ _ rfl (fun j k _ _ => Reg.Adds.refl _ _ _)⟩
          · intro val ac u hR hp ha K hK      -- 19: t6 := Op.assign t54
            obtain ⟨w54, h54, r54⟩ := hp 18 (by decide)
            have e54 : (ac.tmps[54]?).getD undef = .bool true := (ha 54 (by decide)).trans h54
            clear h54
            clear ha hp
            refine Reg.Op1.plain rfl ?_
            go_wp2
            exact ⟨rfl, hK _ _ rfl (fun j k _ _ => Reg.Adds.refl _ _ _)⟩
        · intro val u hR H
          obtain ⟨_, hv, _⟩ := H 19 (by decide)
          have hv : val 19 = .bool true := hv
          have HKu : Hid (Below w6.heap.size w6 u) := (Below.refl _ w6).drew.trans hR
          simp only [List.map_cons, List.map_nil, Reg.lay, Act.put, List.setIfInBounds_toArray, List.set_cons_succ, List.set_cons_zero, Nat.reduceAdd, hv]
          clear hR H hv
          go_wp2
          go_ret
          exact ⟨rfl, HB6.out.trans (HKu.out.mono HB6.out.size)⟩
      ·
        refine Reg.wp_region_rel (by kernel_rfl) 55 20 rfl rfl (by kernel_rfl) (Reg.Adds) (Reg.Adds.refl) (Reg.Adds.trans)
          (fun i v u => match i with
            | 0 => v = .agg (entCells m).toArray
            | 1 => v = .agg (entCells m).toArray
            | 2 => v = .bool true
            | 3 => v = .bool true
            | 4 => v = .bool true
            | 5 => v = .bool true
            | 6 => v = .bool true
            | 7 => v = .bool true
            | 8 => v = .bool true
            | 9 => v = .agg (vcCells cut).toArray
            | 10 => ∃ s0, v = .slice (some ⟨s0, 0, none⟩) 0 0 ∧ Mem.Own u 35 20 (some ⟨s0, 0, none⟩) 0 0 []
            | 11 => v = .slice A es.length c
            | 12 => ∃ A1 c1, v = .slice A1 es.length c1 ∧ Mem.Own u 35 20 A1 es.length c1 (es.flatMap entCells)
            | 13 => v = .bool true
            | 14 => v = .agg (vcCells cut).toArray
            | 15 => v = .slice A es.length c
            | 16 => v = .bool true
            | 17 => v = .bool true
            | 18 => v = .bool true
            | 19 => v = .bool true
            | _ => True) ?_ ?_
        · refine Reg.Steps.cons ?_ (Reg.Steps.cons ?_ (Reg.Steps.cons ?_ (Reg.Steps.cons ?_ (Reg.Steps.cons ?_ (Reg.Steps.cons ?_ (Reg.Steps.cons ?_ (Reg.Steps.cons ?_ (Reg.Steps.cons ?_ (Reg.Steps.cons ?_ (Reg.Steps.cons ?_ (Reg.Steps.cons ?_ (Reg.Steps.cons ?_ (Reg.Steps.cons ?_ (Reg.Steps.cons ?_ (Reg.Steps.cons ?_ (Reg.Steps.cons ?_ (Reg.Steps.cons ?_ (Reg.Steps.cons ?_ (Reg.Steps.cons ?_ (Reg.Steps.nil _))))))))))))))))))))
          · intro val ac u hR hp ha K hK      -- 0: t36 := Op.load 35 t7
            have e7 : (ac.tmps[7]?).getD undef = .pointer (some ⟨s, 0, none⟩) := ha 7 (by decide)
            clear ha hp
            refine Reg.Op1.plain rfl ?_
            have hMu : EBx u s m := Mem.Bx.below (w := w6.drew) HS6.out hR HS6.out.lt
            refine Mem.load_agg _ _ entry_agg s 0 (entCells m) (Reg.eval_of e7) (entCells_length _) (fun j u' hu => by rw [Nat.zero_add]; exact hMu.cell hu) ?_
            exact ⟨rfl, hK _ _ rfl (fun j k _ _ => Reg.Adds.refl _ _ _)⟩
          · intro val ac u hR hp ha K hK      -- 1: t37 := Op.load 35 t9
            have e9 : (ac.tmps[9]?).getD undef = .pointer (some ⟨g9, 0, none⟩) := ha 9 (by decide)
            clear ha hp
            refine Reg.Op1.plain rfl ?_
            have hMu : EBx u g9 m := Mem.Bx.below (w := w6.drew) HG6.out hR HG6.out.lt
            refine Mem.load_agg _ _ entry_agg g9 0 (entCells m) (Reg.eval_of e9) (entCells_length _) (fun j u' hu => by rw [Nat.zero_add]; exact hMu.cell hu) ?_
            exact ⟨rfl, hK _ _ rfl (fun j k _ _ => Reg.Adds.refl _ _ _)⟩
          · intro val ac u hR hp ha K hK      -- 2: t38 := Op.binOp BinOp.eql 35 t36 t37 35
            obtain ⟨w36, h36, r36⟩ := hp 0 (by decide)
            have e36 : (ac.tmps[36]?).getD undef = .agg (entCells m).toArray := (ha 36 (by decide)).trans h36
            clear h36
            obtain ⟨w37, h37, r37⟩ := hp 1 (by decide)
            have e37 : (ac.tmps[37]?).getD undef = .agg (entCells m).toArray := (ha 37 (by decide)).trans h37
            clear h37
            clear ha hp
            refine Reg.Op1.plain rfl ?_
            have hqq := HQ.out
            go_wp2
            exact ⟨rfl, hK _ _ rfl (fun j k _ _ => Reg.Adds.refl _ _ _)⟩
          · intro val ac u hR hp ha K hK      -- 3: t39 := Op.move t38
            obtain ⟨w38, h38, r38⟩ := hp 2 (by decide)
            have e38 : (ac.tmps[38]?).getD undef = .bool true := (ha 38 (by decide)).trans h38
            clear h38
            clear ha hp
            refine Reg.Op1.plain rfl ?_
            go_wp2
            exact ⟨rfl, hK _ _ rfl (fun j k _ _ => Reg.Adds.refl _ _ _)⟩
          · intro val ac u hR hp ha K hK      -- 4: t40 := Op.move t8
            have e8 : (ac.tmps[8]?).getD undef = .bool true := ha 8 (by decide)
            obtain ⟨w39, h39, r39⟩ := hp 3 (by decide)
            have e39 : (ac.tmps[39]?).getD undef = .bool true := (ha 39 (by decide)).trans h39
            clear h39
            clear ha hp
            refine Reg.Op1.guarded rfl rfl e39 (fun _ => Reg.Op1.plain rfl ?_) (fun h => absurd rfl h)
            go_wp2
            exact ⟨rfl, hK _ _ rfl (fun j k _ _ => Reg.Adds.refl _ _ _)⟩
          · intro val ac u hR hp ha K hK      -- 5: t41 := Op.move t10
            have e10 : (ac.tmps[10]?).getD undef = .bool true := ha 10 (by decide)
            obtain ⟨w39, h39, r39⟩ := hp 3 (by decide)
            have e39 : (ac.tmps[39]?).getD undef = .bool true := (ha 39 (by decide)).trans h39
            clear h39
            clear ha hp
            refine Reg.Op1.guarded rfl rfl e39 (fun _ => Reg.Op1.plain rfl ?_) (fun h => absurd rfl h)
            go_wp2
            exact ⟨rfl, hK _ _ rfl (fun j k _ _ => Reg.Adds.refl _ _ _)⟩
          · intro val ac u hR hp ha K hK      -- 6: t42 := Op.binOp BinOp.eql 4 t40 t41 4
            obtain ⟨w40, h40, r40⟩ := hp 4 (by decide)
            have e40 : (ac.tmps[40]?).getD undef = .bool true := (ha 40 (by decide)).trans h40
            clear h40
            obtain ⟨w41, h41, r41⟩ := hp 5 (by decide)
            have e41 : (ac.tmps[41]?).getD undef = .bool true := (ha 41 (by decide)).trans h41
            clear h41
            obtain ⟨w39, h39, r39⟩ := hp 3 (by decide)
            have e39 : (ac.tmps[39]?).getD undef = .bool true := (ha 39 (by decide)).trans h39
            clear h39
            clear ha hp
            refine Reg.Op1.guarded rfl rfl e39 (fun _ => Reg.Op1.plain rfl ?_) (fun h => absurd rfl h)
            go_wp2
            exact ⟨rfl, hK _ _ rfl (fun j k _ _ => Reg.Adds.refl _ _ _)⟩
          · intro val ac u hR hp ha K hK      -- 7: t43 := Op.pick t39 t42 (const (Value.bool false))
            obtain ⟨w39, h39, r39⟩ := hp 3 (by decide)
            have e39 : (ac.tmps[39]?).getD undef = .bool true := (ha 39 (by decide)).trans h39
            clear h39
            obtain ⟨w42, h42, r42⟩ := hp 6 (by decide)
            have e42 : (ac.tmps[42]?).getD undef = .bool true := (ha 42 (by decide)).trans h42
            clear h42
            clear ha hp
            refine Reg.Op1.plain rfl ?_
            go_wp2
            exact ⟨rfl, hK _ _ rfl (fun j k _ _ => Reg.Adds.refl _ _ _)⟩
          · intro val ac u hR hp ha K hK      -- 8: t44 := Op.move t43
            obtain ⟨w43, h43, r43⟩ := hp 7 (by decide)
            have e43 : (ac.tmps[43]?).getD undef = .bool true := (ha 43 (by decide)).trans h43
            clear h43
            clear ha hp
            refine Reg.Op1.plain rfl ?_
            go_wp2
            exact ⟨rfl, hK _ _ rfl (fun j k _ _ => Reg.Adds.refl _ _ _)⟩
          · intro val ac u hR hp ha K hK      -- 9: t45 := Op.load 33 t4
            have e4 : (ac.tmps[4]?).getD undef = .pointer (some ⟨w.heap.size, 0, none⟩) := ha 4 (by decide)
            obtain ⟨w44, h44, r44⟩ := hp 8 (by decide)
            have e44 : (ac.tmps[44]?).getD undef = .bool true := (ha 44 (by decide)).trans h44
            clear h44
            clear ha hp
            refine Reg.Op1.guarded rfl rfl e44 (fun _ => Reg.Op1.plain rfl ?_) (fun h => absurd rfl h)
            have hVu : Vec.VBx u w.heap.size cut := Mem.Bx.below (w := w6.drew) HV6.out hR HV6.out.lt
            refine Mem.load_aggG _ _ vec_agg w.heap.size 0 (vcCells cut) (by simp [Region.wanted]) (Reg.eval_of e4) (vcCells_length _) (fun j u' hu => by rw [Nat.zero_add]; exact hVu.cell hu) ?_
            exact ⟨rfl, hK _ _ rfl (fun j k _ _ => Reg.Adds.refl _ _ _)⟩
          · intro val ac u hR hp ha K hK      -- 10: t46 := Op.buildSlice 23 0 #[]
            obtain ⟨w44, h44, r44⟩ := hp 8 (by decide)
            have e44 : (ac.tmps[44]?).getD undef = .bool true := (ha 44 (by decide)).trans h44
            clear h44
            clear ha hp
            refine Reg.Op1.guarded rfl rfl e44 (fun _ => Reg.Op1.plain rfl ?_) (fun h => absurd rfl h)
            go_wp2
            exact ⟨rfl, hK _ _ ⟨u.heap.size, rfl, Mem.Own.lit u _ 20 #[] 0 rfl rfl (by simp [maxLen])⟩ (fun j k _ _ => Reg.below_new u _)⟩
          · intro val ac u hR hp ha K hK      -- 11: t47 := Op.move t2
            have e2 : (ac.tmps[2]?).getD undef = .slice A es.length c := ha 2 (by decide)
            obtain ⟨w44, h44, r44⟩ := hp 8 (by decide)
            have e44 : (ac.tmps[44]?).getD undef = .bool true := (ha 44 (by decide)).trans h44
            clear h44
            clear ha hp
            refine Reg.Op1.guarded rfl rfl e44 (fun _ => Reg.Op1.plain rfl ?_) (fun h => absurd rfl h)
            go_wp2
            exact ⟨rfl, hK _ _ rfl (fun j k _ _ => Reg.Adds.refl _ _ _)⟩
          · intro val ac u hR hp ha K hK      -- 12: t48 := Op.call { builtin append, args := #[t46, t47], argTypes := #[23, 23] }
            obtain ⟨w46, h46, r46⟩ := hp 10 (by decide)
            have e46 : (ac.tmps[46]?).getD undef = val 10 := ha 46 (by decide)
            obtain ⟨w47, h47, r47⟩ := hp 11 (by decide)
            have e47 : (ac.tmps[47]?).getD undef = .slice A es.length c := (ha 47 (by decide)).trans h47
            clear h47
            obtain ⟨w44, h44, r44⟩ := hp 8 (by decide)
            have e44 : (ac.tmps[44]?).getD undef = .bool true := (ha 44 (by decide)).trans h44
            clear h44
            clear ha hp
            refine Reg.Op1.guarded rfl rfl e44 (fun _ => Reg.Op1.plain rfl ?_) (fun h => absurd rfl h)
            obtain ⟨s0, hv, ho⟩ := h46
            rw [hv] at e46
            have ho' := ho.below r46 (fun q hq => ho.lt hq)
            have hbu := HB6.out.trans (((Below.refl w6.heap.size w6).drew.trans hR).mono HB6.out.size)
            refine Mem.wpList_app0 u (by simp [Region.wanted]) (.tmp 46) (.tmp 47) _ rfl entries_elem (some ⟨s0, 0, none⟩) (Reg.eval_of e46) w.heap.size A es.length c (es.flatMap entCells) (Reg.eval_of e47) ?_ ho' (HR.out.below hbu) hol hoo (by unfold maxLen; omega) (by omega)
            intro A' c' w' hown hbl hat
            exact ⟨rfl, hK _ _ ⟨A', c', rfl, hown⟩ (fun j k _ _ => hbl)⟩
          · intro val ac u hR hp ha K hK      -- 13: t49 := Op.call { value (Operand.func 17), args := #[t45, t48], argTypes := #[33, 23] }
            obtain ⟨w45, h45, r45⟩ := hp 9 (by decide)
            have e45 : (ac.tmps[45]?).getD undef = .agg (vcCells cut).toArray := (ha 45 (by decide)).trans h45
            clear h45
            obtain ⟨w48, h48, r48⟩ := hp 12 (by decide)
            have e48 : (ac.tmps[48]?).getD undef = val 12 := ha 48 (by decide)
            obtain ⟨w44, h44, r44⟩ := hp 8 (by decide)
            have e44 : (ac.tmps[44]?).getD undef = .bool true := (ha 44 (by decide)).trans h44
            clear h44
            clear ha hp
            refine Reg.Op1.guarded rfl rfl e44 (fun _ => Reg.Op1.plain rfl ?_) (fun h => absurd rfl h)
            obtain ⟨A1, c1, hv, ho⟩ := h48
            rw [hv] at e48
            have ho' := ho.below r48 (fun q hq => ho.lt hq)
            go_wp2_with fail
            refine (closed_any cut A1 c1 es u.heap.size u ho'.rd (Nat.le_refl _) (by unfold maxLen; omega)).mono ?_
            rintro x w' ⟨rfl, hbw⟩
            rw [HCL.out]
            go_wp2_with fail
            exact ⟨rfl, hK _ _ rfl (fun j k _ _ => hbw)⟩
          · intro val ac u hR hp ha K hK      -- 14: t50 := Op.load 33 t4
            have e4 : (ac.tmps[4]?).getD undef = .pointer (some ⟨w.heap.size, 0, none⟩) := ha 4 (by decide)
            obtain ⟨w44, h44, r44⟩ := hp 8 (by decide)
            have e44 : (ac.tmps[44]?).getD undef = .bool true := (ha 44 (by decide)).trans h44
            clear h44
            clear ha hp
            refine Reg.Op1.guarded rfl rfl e44 (fun _ => Reg.Op1.plain rfl ?_) (fun h => absurd rfl h)
            have hVu : Vec.VBx u w.heap.size cut := Mem.Bx.below (w := w6.drew) HV6.out hR HV6.out.lt
            refine Mem.load_aggG _ _ vec_agg w.heap.size 0 (vcCells cut) (by simp [Region.wanted]) (Reg.eval_of e4) (vcCells_length _) (fun j u' hu => by rw [Nat.zero_add]; exact hVu.cell hu) ?_
            exact ⟨rfl, hK _ _ rfl (fun j k _ _ => Reg.Adds.refl _ _ _)⟩
          · intro val ac u hR hp ha K hK      -- 15: t51 := Op.move t2
            have e2 : (ac.tmps[2]?).getD undef = .slice A es.length c := ha 2 (by decide)
            obtain ⟨w44, h44, r44⟩ := hp 8 (by decide)
            have e44 : (ac.tmps[44]?).getD undef = .bool true := (ha 44 (by decide)).trans h44
            clear h44
            clear ha hp
            refine Reg.Op1.guarded rfl rfl e44 (fun _ => Reg.Op1.plain rfl ?_) (fun h => absurd rfl h)
            go_wp2
            exact ⟨rfl, hK _ _ rfl (fun j k _ _ => Reg.Adds.refl _ _ _)⟩
          · intro val ac u hR hp ha K hK      -- 16: t52 := Op.call { value (Operand.func 18), args := #[t50, t51], argTypes := #[33, 23] }
            obtain ⟨w50, h50, r50⟩ := hp 14 (by decide)
            have e50 : (ac.tmps[50]?).getD undef = .agg (vcCells cut).toArray := (ha 50 (by decide)).trans h50
            clear h50
            obtain ⟨w51, h51, r51⟩ := hp 15 (by decide)
            have e51 : (ac.tmps[51]?).getD undef = .slice A es.length c := (ha 51 (by decide)).trans h51
            clear h51
            obtain ⟨w44, h44, r44⟩ := hp 8 (by decide)
            have e44 : (ac.tmps[44]?).getD undef = .bool true := (ha 44 (by decide)).trans h44
            clear h44
            clear ha hp
            refine Reg.Op1.guarded rfl rfl e44 (fun _ => Reg.Op1.plain rfl ?_) (fun h => absurd rfl h)
            have hbu := HB6.out.trans (((Below.refl w6.heap.size w6).drew.trans hR).mono HB6.out.size)
            go_wp2_with fail
            refine (refClosed_any cut A c es w.heap.size u (HR.out.below hbu) hbu.size (by omega)).mono ?_
            rintro x w' ⟨rfl, hbw⟩
            rw [HCL.out]
            go_wp2_with fail
            exact ⟨rfl, hK _ _ rfl (fun j k _ _ => hbw)⟩
          · intro val ac u hR hp ha K hK      -- 17: t53 := Op.binOp BinOp.eql 4 t49 t52 4
            obtain ⟨w49, h49, r49⟩ := hp 13 (by decide)
            have e49 : (ac.tmps[49]?).getD undef = .bool true := (ha 49 (by decide)).trans h49
            clear h49
            obtain ⟨w52, h52, r52⟩ := hp 16 (by decide)
            have e52 : (ac.tmps[52]?).getD undef = .bool true := (ha 52 (by decide)).trans h52
            clear h52
            obtain ⟨w44, h44, r44⟩ := hp 8 (by decide)
            have e44 : (ac.tmps[44]?).getD undef = .bool true := (ha 44 (by decide)).trans h44
            clear h44
            clear ha hp
            refine Reg.Op1.guarded rfl rfl e44 (fun _ => Reg.Op1.plain rfl ?_) (fun h => absurd rfl h)
            go_wp2
            exact ⟨rfl, hK _ _ rfl (fun j k _ _ => Reg.Adds.refl _ _ _)⟩
          · intro val ac u hR hp ha K hK      -- 18: t54 := Op.pick t44 t53 (const (Value.bool false))
            obtain ⟨w44, h44, r44⟩ := hp 8 (by decide)
            have e44 : (ac.tmps[44]?).getD undef = .bool true := (ha 44 (by decide)).trans h44
            clear h44
            obtain ⟨w53, h53, r53⟩ := hp 17 (by decide)
            have e53 : (ac.tmps[53]?).getD undef = .bool true := (ha 53 (by decide)).trans h53
            clear h53
            clear ha hp
            refine Reg.Op1.plain rfl ?_
            go_wp2
            exact ⟨rfl, hK _ _ rfl (fun j k _ _ => Reg.Adds.refl _ _ _)⟩
          · intro val ac u hR hp ha K hK      -- 19: t6 := Op.assign t54
            obtain ⟨w54, h54, r54⟩ := hp 18 (by decide)
            have e54 : (ac.tmps[54]?).getD undef = .bool true := (ha 54 (by decide)).trans h54
            clear h54
            clear ha hp
            refine Reg.Op1.plain rfl ?_
            go_wp2
            exact ⟨rfl, hK _ _ rfl (fun j k _ _ => Reg.Adds.refl _ _ _)⟩
        · intro val u hR H
          obtain ⟨_, hv, _⟩ := H 19 (by decide)
          have hv : val 19 = .bool true := hv
          have HKu : Hid (Below w6.heap.size w6 u) := (Below.refl _ w6).drew.trans hR
          simp only [List.map_cons, List.map_nil, Reg.lay, Act.put, List.setIfInBounds_toArray, List.set_cons_succ, List.set_cons_zero, Nat.reduceAdd, hv]
          clear hR H hv
          go_wp2
          go_ret
          exact ⟨rfl, HB6.out.trans (HKu.out.mono HB6.out.size)⟩
set_option maxRecDepth 20000 in
theorem opened {H : Type} (enc : TypeId × Value → H) (W : World) (base : Nat) (v0 v1 v2 : Value) {d0 d1 d2 : DataW H} {p0 p1 p2 : List MemPlace}
    (o0 : Value.okWide Try.prog W .any base 9 v0) (o1 : Value.okWide Try.prog W .any base 33 v1) (o2 : Value.okWide Try.prog W .any base 23 v2)
    (k0 : DataW.Trod enc Try.prog W 0 (fun _ => true) true 9 v0 d0 p0) (k1 : DataW.Trod enc Try.prog W 0 (fun _ => true) true 33 v1 d1 p1) (k2 : DataW.Trod enc Try.prog W 0 (fun _ => true) true 23 v2 d2 p2)
    (z0 : (d0.weights Try.prog 9).all (· ≤ reachBytes) = true) (z1 : (d1.weights Try.prog 33).all (· ≤ reachBytes) = true) (z2 : (d2.weights Try.prog 23).all (· ≤ reachBytes) = true) :
    Calls Try.prog 4 #[v0, v1, v2] W fun e w' => e = .returned (.bool true) ∧ Below W.heap.size W w' := by
  obtain ⟨s, rfl, hs⟩ := open_text o0 k0 z0
  obtain ⟨v, rfl⟩ := open_vec o1 k1
  obtain ⟨A, c, es, rfl, h1, h2, h3, h4⟩ := open_ents o2 k2 z2
  exact walk s v A c es W h3 (by omega) h4 hs
end auditSeesOpen
end Go.Proofs.Ytelephoalpphkaa
end
section
/- 'causewaylaw24.AuditSees' returns true for every input and leaves what it was handed as it was: the given statement, by the walk of the text that is imported. No conditions. -/
namespace Go.Proofs.Ytelephoalpphkaa.auditSees
open Go.ChangeShapes Go.WideShapes Go.ChangeAt Go.RowKit
set_option linter.unusedVariables false
set_option linter.unusedSimpArgs false
theorem own : ownKnob Try.prog.godebug = none := by kernel_rfl
theorem laidOut : laidOutB Try.prog = true := by kernel_rfl
set_option maxRecDepth 100000 in
theorem lifted (os : Os) (started : os.Started) (H : Type) (enc : TypeId × Value → H) :
    ReturnsInHanded {} Try.checked os 4 .any (Rows.auditSeesSpec.pre6 enc Try.prog Try.f4 Rows.auditSeesRow.domain false) (Rows.auditSeesSpec.post enc Try.prog Try.f4 false true false false) := by
  refine returnsInHanded_of_change_sized (C := Try.checked) own started (by kernel_rfl) Try.func4
    (ChangeSpec.witness6 (enc := enc) (C := Try.checked) false ⟨#[], #[.string ByteArray.empty, .agg #[.int .i64 0, .int .i64 0, .int .i64 0, .int .i64 0, .int .i64 0, .int .i64 0, .int .i64 0, .int .i64 0, .int .i64 0], .slice none 0 0], []⟩ 8 (by kernel_rfl) (by kernel_rfl) (by kernel_rfl) (by kernel_rfl)) ?_
  intro W base args ds gs before hval0 hW hcnd hsz _
  have hval : ∀ (j : Nat) t v, Try.f4.params[j]? = some t → args[j]? = some v → Value.okWide Try.prog W .any base t v := hval0
  have hW' := hW
  obtain ⟨p, q, hA0, hV, rfl, hfz, hnd⟩ := hW
  have hA : DataW.TrodAll enc Try.prog W 0 (fun _ => true) true Try.f4.params.toList args.toList ds p := hA0
  rw [Try.params4] at hA hval
  obtain ⟨v0, vs0, d0, ds0, p0, q0, hargs, rfl, rfl, h0, r0⟩ := trodAll_cons hA
  obtain ⟨v1, vs1, d1, ds1, p1, q1, rfl, rfl, rfl, h1, r1⟩ := trodAll_cons r0
  obtain ⟨v2, vs2, d2, ds2, p2, q2, rfl, rfl, rfl, h2, r2⟩ := trodAll_cons r1
  obtain ⟨rfl, rfl, rfl⟩ := trodAll_nil r2
  obtain rfl : args = #[v0, v1, v2] := by cases args; simp_all
  obtain ⟨rfl, rfl⟩ := trodVars_none hV
  have lt0 : ∀ x ∈ p0, x.block < W.heap.size := by obtain ⟨m, hm⟩ := h0; exact DataW.trod_lt m _ _ _ hm
  have lt1 : ∀ x ∈ p1, x.block < W.heap.size := by obtain ⟨m, hm⟩ := h1; exact DataW.trod_lt m _ _ _ hm
  have lt2 : ∀ x ∈ p2, x.block < W.heap.size := by obtain ⟨m, hm⟩ := h2; exact DataW.trod_lt m _ _ _ hm
  have z0 : (d0.weights Try.prog 9).all (· ≤ reachBytes) = true := by rw [List.all_eq_true]; intro n hn; exact List.all_eq_true.1 hsz n (DataW.weights_mem_each (j := 0) (by kernel_rfl) rfl n hn)
  have z1 : (d1.weights Try.prog 33).all (· ≤ reachBytes) = true := by rw [List.all_eq_true]; intro n hn; exact List.all_eq_true.1 hsz n (DataW.weights_mem_each (j := 1) (by kernel_rfl) rfl n hn)
  have z2 : (d2.weights Try.prog 23).all (· ≤ reachBytes) = true := by rw [List.all_eq_true]; intro n hn; exact List.all_eq_true.1 hsz n (DataW.weights_mem_each (j := 2) (by kernel_rfl) rfl n hn)
  clear hA0
  refine (auditSeesOpen.opened enc W base v0 v1 v2 (hval 0 9 v0 rfl rfl) (hval 1 33 v1 rfl rfl) (hval 2 23 v2 rfl rfl) h0 h1 h2 z0 z1 z2).mono fun e W' ⟨he, bel⟩ => ?_
  subst he
  exact ⟨_, rfl, _, _, _, [], _, [], hW', trodAll_mk1 (shut_bool Try.underlying4 _), (trodAll_cons_mk (Below.trod laidOut (by kernel_rfl) (of_decide_eq_true (by kernel_rfl)) h0 bel lt0) (trodAll_cons_mk (Below.trod laidOut (by kernel_rfl) (of_decide_eq_true (by kernel_rfl)) h1 bel lt1) (trodAll_cons_mk (Below.trod laidOut (by kernel_rfl) (of_decide_eq_true (by kernel_rfl)) h2 bel lt2) trodAll_mk0))), rfl, bel.frame _, fun h => by cases h⟩
theorem over : Rows.auditSeesRow.holds Try.pinned (OpenSpec.ofChange Rows.auditSeesSpec) :=
  OpenClaim.holds_of_wide 4 Try.f4 rfl rfl rfl rfl rfl rfl rfl ⟨rfl, rfl, rfl, rfl, rfl⟩ rfl rfl rfl rfl rfl (by kernel_rfl) Try.func4 (by kernel_rfl)
    (of_decide_eq_true (by kernel_rfl)) (by unfold Func.isWrapper; first | (rw [if_pos (by decide +kernel)]; kernel_rfl) | (rw [if_neg (by decide +kernel)]; exact ⟨rfl, rfl⟩))
    (fun os started H enc _ => lifted os started H enc)
/-- THE STATEMENT -/
theorem proved : Rows.AuditSeesSaid := over
#print axioms proved
end Go.Proofs.Ytelephoalpphkaa.auditSees
end
