/- The walks of vec.Right and vec.RightEntry: what they compute. No conditions. -/
import Derived.Test.YtfafehffnjbhnaaTyIdx
namespace Go.Proofs.Ytfafehffnjbhnaa
open Go.ChangeShapes Go.WideShapes Go.ChangeAt Go.RowKit
set_option linter.unusedVariables false
set_option linter.unusedSimpArgs false

namespace Vec
def okN (n : Int) : Bool := decide (0 ≤ n) && decide (n ≤ 1099511627776)
def okPre (c : Col) : Nat → Bool
  | 0 => true
  | 1 => okN c.a
  | 2 => okN c.a && okN c.b
  | _ => okN c.a && (okN c.b && okN c.c)
def preV (v : Vc) : Nat → Bool
  | 0 => true
  | 1 => okPre v.a 3
  | 2 => okPre v.a 3 && okPre v.b 3
  | _ => okPre v.a 3 && (okPre v.b 3 && okPre v.c 3)
def rightV (v : Vc) : Bool := preV v 3
structure RowRel (w : World) (c : Col) (vi : Value) (wr : World) : Prop where
  out : ∃ j : Nat, j ≤ 3 ∧ vi = .int .i64 j ∧ okPre c j = true ∧ Hid (Below w.heap.size w wr)
structure VecRel (w : World) (v : Vc) (vi : Value) (wr : World) : Prop where
  out : ∃ k : Nat, k ≤ 3 ∧ vi = .int .i64 k ∧ preV v k = true ∧ Hid (Below w.heap.size w wr)
theorem okN_of {n : Int} (h1 : 0 ≤ n) (h2 : n ≤ 1099511627776) : okN n = true := by unfold okN; simp; omega
theorem okN_no {n : Int} (h : ¬ 0 ≤ n ∨ ¬ n ≤ 1099511627776) : okN n = false := by unfold okN; simp; omega
end Vec
open Vec in
set_option maxRecDepth 8000 in
set_option maxHeartbeats 4000000 in
theorem vright_any (v : Vec.Vc) (w : World) :
    Calls Try.prog 38 #[.agg (Vec.vcCells v).toArray] w fun e w' => e = .returned (.bool (Vec.rightV v)) ∧ Below w.heap.size w w' := by
  go_enter Try.func38, Try.ntmps38
  go_wp2
  go_loopw [8] (VecRel w v) (fun t _ => 3 - (intOf t).toNat)
  case atStart => exact ⟨⟨0, by omega, rfl, rfl, Reg.below_new _ _⟩⟩
  case round =>
    obtain ⟨k, hk, rfl, hpk, HB⟩ := hrel.out
    have hck : k = 0 ∨ k = 1 ∨ k = 2 ∨ k = 3 := by omega
    rcases hck with rfl | rfl | rfl | rfl
    ·
      have i0 := fun W => (index_row v W).1
      have i1 := fun W => (index_row v W).2.1
      have i2 := fun W => (index_row v W).2.2
      go_wp2
      rename World => wo
      go_loopw [12] (RowRel w v.a) (fun t _ => 3 - (intOf t).toNat)
      case atStart => exact ⟨⟨0, by omega, rfl, rfl, HB.out.alloc HB.out.size _⟩⟩
      case round =>
        obtain ⟨j, hj, rfl, hpj, HBj⟩ := hrel.out
        have e0 := fun W => (index_one v.a W).1
        have e1 := fun W => (index_one v.a W).2.1
        have e2 := fun W => (index_one v.a W).2.2
        have hcj : j = 0 ∨ j = 1 ∨ j = 2 ∨ j = 3 := by omega
        rcases hcj with rfl | rfl | rfl | rfl
        ·
          by_cases h1 : 0 ≤ v.a.a
          · have d1 : decide (v.a.a < 0) = false := by simp; omega
            by_cases h2 : v.a.a ≤ 1099511627776
            · have d2 : decide (1099511627776 < v.a.a) = false := by simp; omega
              have hok := Vec.okN_of h1 h2
              have hnx : Vec.okPre v.a (0 + 1) = true := by unfold Vec.okPre at hpj ⊢; simp_all
              go_wp2
              go_roundw
              case rel => exact ⟨⟨0 + 1, by omega, rfl, hnx, HBj⟩⟩
              case measure => simp [intOf]
            · have d2 : decide (1099511627776 < v.a.a) = true := by simp; omega
              have hbad : Vec.okN (v.a.a) = false := Vec.okN_no (by omega)
              have hv : Vec.rightV v = false := by simp [Vec.rightV, Vec.preV, Vec.okPre, hbad]
              go_wp2
              go_ret
              exact ⟨rfl, HBj.out⟩
          · have d1 : decide (v.a.a < 0) = true := by simp; omega
            have hbad : Vec.okN (v.a.a) = false := Vec.okN_no (by omega)
            have hv : Vec.rightV v = false := by simp [Vec.rightV, Vec.preV, Vec.okPre, hbad]
            go_wp2
            go_ret
            exact ⟨rfl, HBj.out⟩
        ·
          by_cases h1 : 0 ≤ v.a.b
          · have d1 : decide (v.a.b < 0) = false := by simp; omega
            by_cases h2 : v.a.b ≤ 1099511627776
            · have d2 : decide (1099511627776 < v.a.b) = false := by simp; omega
              have hok := Vec.okN_of h1 h2
              have hnx : Vec.okPre v.a (1 + 1) = true := by unfold Vec.okPre at hpj ⊢; simp_all
              go_wp2
              go_roundw
              case rel => exact ⟨⟨1 + 1, by omega, rfl, hnx, HBj⟩⟩
              case measure => simp [intOf]
            · have d2 : decide (1099511627776 < v.a.b) = true := by simp; omega
              have hbad : Vec.okN (v.a.b) = false := Vec.okN_no (by omega)
              have hv : Vec.rightV v = false := by simp [Vec.rightV, Vec.preV, Vec.okPre, hbad]
              go_wp2
              go_ret
              exact ⟨rfl, HBj.out⟩
          · have d1 : decide (v.a.b < 0) = true := by simp; omega
            have hbad : Vec.okN (v.a.b) = false := Vec.okN_no (by omega)
            have hv : Vec.rightV v = false := by simp [Vec.rightV, Vec.preV, Vec.okPre, hbad]
            go_wp2
            go_ret
            exact ⟨rfl, HBj.out⟩
        ·
          by_cases h1 : 0 ≤ v.a.c
          · have d1 : decide (v.a.c < 0) = false := by simp; omega
            by_cases h2 : v.a.c ≤ 1099511627776
            · have d2 : decide (1099511627776 < v.a.c) = false := by simp; omega
              have hok := Vec.okN_of h1 h2
              have hnx : Vec.okPre v.a (2 + 1) = true := by unfold Vec.okPre at hpj ⊢; simp_all
              go_wp2
              go_roundw
              case rel => exact ⟨⟨2 + 1, by omega, rfl, hnx, HBj⟩⟩
              case measure => simp [intOf]
            · have d2 : decide (1099511627776 < v.a.c) = true := by simp; omega
              have hbad : Vec.okN (v.a.c) = false := Vec.okN_no (by omega)
              have hv : Vec.rightV v = false := by simp [Vec.rightV, Vec.preV, Vec.okPre, hbad]
              go_wp2
              go_ret
              exact ⟨rfl, HBj.out⟩
          · have d1 : decide (v.a.c < 0) = true := by simp; omega
            have hbad : Vec.okN (v.a.c) = false := Vec.okN_no (by omega)
            have hv : Vec.rightV v = false := by simp [Vec.rightV, Vec.preV, Vec.okPre, hbad]
            go_wp2
            go_ret
            exact ⟨rfl, HBj.out⟩
        · have hnx : Vec.preV v (0 + 1) = true := by unfold Vec.preV at hpk ⊢; simp_all
          go_wp2
          go_roundw
          case rel => exact ⟨⟨0 + 1, by omega, rfl, hnx, HBj⟩⟩
          case measure => simp [intOf]
    ·
      have i0 := fun W => (index_row v W).1
      have i1 := fun W => (index_row v W).2.1
      have i2 := fun W => (index_row v W).2.2
      go_wp2
      rename World => wo
      go_loopw [12] (RowRel w v.b) (fun t _ => 3 - (intOf t).toNat)
      case atStart => exact ⟨⟨0, by omega, rfl, rfl, HB.out.alloc HB.out.size _⟩⟩
      case round =>
        obtain ⟨j, hj, rfl, hpj, HBj⟩ := hrel.out
        have e0 := fun W => (index_one v.b W).1
        have e1 := fun W => (index_one v.b W).2.1
        have e2 := fun W => (index_one v.b W).2.2
        have hcj : j = 0 ∨ j = 1 ∨ j = 2 ∨ j = 3 := by omega
        rcases hcj with rfl | rfl | rfl | rfl
        ·
          by_cases h1 : 0 ≤ v.b.a
          · have d1 : decide (v.b.a < 0) = false := by simp; omega
            by_cases h2 : v.b.a ≤ 1099511627776
            · have d2 : decide (1099511627776 < v.b.a) = false := by simp; omega
              have hok := Vec.okN_of h1 h2
              have hnx : Vec.okPre v.b (0 + 1) = true := by unfold Vec.okPre at hpj ⊢; simp_all
              go_wp2
              go_roundw
              case rel => exact ⟨⟨0 + 1, by omega, rfl, hnx, HBj⟩⟩
              case measure => simp [intOf]
            · have d2 : decide (1099511627776 < v.b.a) = true := by simp; omega
              have hbad : Vec.okN (v.b.a) = false := Vec.okN_no (by omega)
              have hv : Vec.rightV v = false := by simp [Vec.rightV, Vec.preV, Vec.okPre, hbad]
              go_wp2
              go_ret
              exact ⟨rfl, HBj.out⟩
          · have d1 : decide (v.b.a < 0) = true := by simp; omega
            have hbad : Vec.okN (v.b.a) = false := Vec.okN_no (by omega)
            have hv : Vec.rightV v = false := by simp [Vec.rightV, Vec.preV, Vec.okPre, hbad]
            go_wp2
            go_ret
            exact ⟨rfl, HBj.out⟩
        ·
          by_cases h1 : 0 ≤ v.b.b
          · have d1 : decide (v.b.b < 0) = false := by simp; omega
            by_cases h2 : v.b.b ≤ 1099511627776
            · have d2 : decide (1099511627776 < v.b.b) = false := by simp; omega
              have hok := Vec.okN_of h1 h2
              have hnx : Vec.okPre v.b (1 + 1) = true := by unfold Vec.okPre at hpj ⊢; simp_all
              go_wp2
              go_roundw
              case rel => exact ⟨⟨1 + 1, by omega, rfl, hnx, HBj⟩⟩
              case measure => simp [intOf]
            · have d2 : decide (1099511627776 < v.b.b) = true := by simp; omega
              have hbad : Vec.okN (v.b.b) = false := Vec.okN_no (by omega)
              have hv : Vec.rightV v = false := by simp [Vec.rightV, Vec.preV, Vec.okPre, hbad]
              go_wp2
              go_ret
              exact ⟨rfl, HBj.out⟩
          · have d1 : decide (v.b.b < 0) = true := by simp; omega
            have hbad : Vec.okN (v.b.b) = false := Vec.okN_no (by omega)
            have hv : Vec.rightV v = false := by simp [Vec.rightV, Vec.preV, Vec.okPre, hbad]
            go_wp2
            go_ret
            exact ⟨rfl, HBj.out⟩
        ·
          by_cases h1 : 0 ≤ v.b.c
          · have d1 : decide (v.b.c < 0) = false := by simp; omega
            by_cases h2 : v.b.c ≤ 1099511627776
            · have d2 : decide (1099511627776 < v.b.c) = false := by simp; omega
              have hok := Vec.okN_of h1 h2
              have hnx : Vec.okPre v.b (2 + 1) = true := by unfold Vec.okPre at hpj ⊢; simp_all
              go_wp2
              go_roundw
              case rel => exact ⟨⟨2 + 1, by omega, rfl, hnx, HBj⟩⟩
              case measure => simp [intOf]
            · have d2 : decide (1099511627776 < v.b.c) = true := by simp; omega
              have hbad : Vec.okN (v.b.c) = false := Vec.okN_no (by omega)
              have hv : Vec.rightV v = false := by simp [Vec.rightV, Vec.preV, Vec.okPre, hbad]
              go_wp2
              go_ret
              exact ⟨rfl, HBj.out⟩
          · have d1 : decide (v.b.c < 0) = true := by simp; omega
            have hbad : Vec.okN (v.b.c) = false := Vec.okN_no (by omega)
            have hv : Vec.rightV v = false := by simp [Vec.rightV, Vec.preV, Vec.okPre, hbad]
            go_wp2
            go_ret
            exact ⟨rfl, HBj.out⟩
        · have hnx : Vec.preV v (1 + 1) = true := by unfold Vec.preV at hpk ⊢; simp_all
          go_wp2
          go_roundw
          case rel => exact ⟨⟨1 + 1, by omega, rfl, hnx, HBj⟩⟩
          case measure => simp [intOf]
    ·
      have i0 := fun W => (index_row v W).1
      have i1 := fun W => (index_row v W).2.1
      have i2 := fun W => (index_row v W).2.2
      go_wp2
      rename World => wo
      go_loopw [12] (RowRel w v.c) (fun t _ => 3 - (intOf t).toNat)
      case atStart => exact ⟨⟨0, by omega, rfl, rfl, HB.out.alloc HB.out.size _⟩⟩
      case round =>
        obtain ⟨j, hj, rfl, hpj, HBj⟩ := hrel.out
        have e0 := fun W => (index_one v.c W).1
        have e1 := fun W => (index_one v.c W).2.1
        have e2 := fun W => (index_one v.c W).2.2
        have hcj : j = 0 ∨ j = 1 ∨ j = 2 ∨ j = 3 := by omega
        rcases hcj with rfl | rfl | rfl | rfl
        ·
          by_cases h1 : 0 ≤ v.c.a
          · have d1 : decide (v.c.a < 0) = false := by simp; omega
            by_cases h2 : v.c.a ≤ 1099511627776
            · have d2 : decide (1099511627776 < v.c.a) = false := by simp; omega
              have hok := Vec.okN_of h1 h2
              have hnx : Vec.okPre v.c (0 + 1) = true := by unfold Vec.okPre at hpj ⊢; simp_all
              go_wp2
              go_roundw
              case rel => exact ⟨⟨0 + 1, by omega, rfl, hnx, HBj⟩⟩
              case measure => simp [intOf]
            · have d2 : decide (1099511627776 < v.c.a) = true := by simp; omega
              have hbad : Vec.okN (v.c.a) = false := Vec.okN_no (by omega)
              have hv : Vec.rightV v = false := by simp [Vec.rightV, Vec.preV, Vec.okPre, hbad]
              go_wp2
              go_ret
              exact ⟨rfl, HBj.out⟩
          · have d1 : decide (v.c.a < 0) = true := by simp; omega
            have hbad : Vec.okN (v.c.a) = false := Vec.okN_no (by omega)
            have hv : Vec.rightV v = false := by simp [Vec.rightV, Vec.preV, Vec.okPre, hbad]
            go_wp2
            go_ret
            exact ⟨rfl, HBj.out⟩
        ·
          by_cases h1 : 0 ≤ v.c.b
          · have d1 : decide (v.c.b < 0) = false := by simp; omega
            by_cases h2 : v.c.b ≤ 1099511627776
            · have d2 : decide (1099511627776 < v.c.b) = false := by simp; omega
              have hok := Vec.okN_of h1 h2
              have hnx : Vec.okPre v.c (1 + 1) = true := by unfold Vec.okPre at hpj ⊢; simp_all
              go_wp2
              go_roundw
              case rel => exact ⟨⟨1 + 1, by omega, rfl, hnx, HBj⟩⟩
              case measure => simp [intOf]
            · have d2 : decide (1099511627776 < v.c.b) = true := by simp; omega
              have hbad : Vec.okN (v.c.b) = false := Vec.okN_no (by omega)
              have hv : Vec.rightV v = false := by simp [Vec.rightV, Vec.preV, Vec.okPre, hbad]
              go_wp2
              go_ret
              exact ⟨rfl, HBj.out⟩
          · have d1 : decide (v.c.b < 0) = true := by simp; omega
            have hbad : Vec.okN (v.c.b) = false := Vec.okN_no (by omega)
            have hv : Vec.rightV v = false := by simp [Vec.rightV, Vec.preV, Vec.okPre, hbad]
            go_wp2
            go_ret
            exact ⟨rfl, HBj.out⟩
        ·
          by_cases h1 : 0 ≤ v.c.c
          · have d1 : decide (v.c.c < 0) = false := by simp; omega
            by_cases h2 : v.c.c ≤ 1099511627776
            · have d2 : decide (1099511627776 < v.c.c) = false := by simp; omega
              have hok := Vec.okN_of h1 h2
              have hnx : Vec.okPre v.c (2 + 1) = true := by unfold Vec.okPre at hpj ⊢; simp_all
              go_wp2
              go_roundw
              case rel => exact ⟨⟨2 + 1, by omega, rfl, hnx, HBj⟩⟩
              case measure => simp [intOf]
            · have d2 : decide (1099511627776 < v.c.c) = true := by simp; omega
              have hbad : Vec.okN (v.c.c) = false := Vec.okN_no (by omega)
              have hv : Vec.rightV v = false := by simp [Vec.rightV, Vec.preV, Vec.okPre, hbad]
              go_wp2
              go_ret
              exact ⟨rfl, HBj.out⟩
          · have d1 : decide (v.c.c < 0) = true := by simp; omega
            have hbad : Vec.okN (v.c.c) = false := Vec.okN_no (by omega)
            have hv : Vec.rightV v = false := by simp [Vec.rightV, Vec.preV, Vec.okPre, hbad]
            go_wp2
            go_ret
            exact ⟨rfl, HBj.out⟩
        · have hnx : Vec.preV v (2 + 1) = true := by unfold Vec.preV at hpk ⊢; simp_all
          go_wp2
          go_roundw
          case rel => exact ⟨⟨2 + 1, by omega, rfl, hnx, HBj⟩⟩
          case measure => simp [intOf]
    · have hv : Vec.rightV v = true := hpk
      go_wp2
      go_ret
      exact ⟨by rw [hv]; rfl, HB.out⟩
end Go.Proofs.Ytfafehffnjbhnaa
