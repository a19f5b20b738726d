/- The walks of the document's own vectors and right writes. No conditions. -/
import Derived.Test.YtfafehffnjbhnaaTyRightE
import Derived.Test.YtfafehffnjbhnaaRef4c
import Derived.Test.YtfafehffnjbhnaaRef4
namespace Go.Proofs.Ytfafehffnjbhnaa
open Go.ChangeShapes Go.WideShapes Go.ChangeAt Go.RowKit
set_option linter.unusedVariables false
set_option linter.unusedSimpArgs false
namespace Vec
structure VrAt (w : World) (v : Vc) (wr : World) : Prop where
  X : VBx wr w.heap.size v
  b : Below w.heap.size w wr
structure VrRow (w : World) (v : Vc) (c : Col) (vi : Value) (wr : World) : Prop where
  out : ∃ j : Nat, j ≤ 3 ∧ vi = .int .i64 j ∧ okPre c j = true ∧ Hid (VrAt w v wr)
structure VrRel (w : World) (v : Vc) (vi : Value) (wr : World) : Prop where
  out : ∃ k : Nat, k ≤ 3 ∧ vi = .int .i64 k ∧ preV v k = true ∧ Hid (VrAt w v wr)
end Vec
open Vec in
set_option maxRecDepth 8000 in
set_option maxHeartbeats 4000000 in
theorem refVRight_any (v : Vec.Vc) (w : World) :
    Calls Try.prog 61 #[.agg (Vec.vcCells v).toArray] w fun e w' => e = .returned (.bool (Vec.rightV v)) ∧ Below w.heap.size w w' := by
  go_enter Try.func61, Try.ntmps61
  go_wp2
  go_loopw [3] (VrRel w v) (fun t _ => 3 - (intOf t).toNat)
  case atStart => exact ⟨⟨0, by omega, rfl, rfl, ⟨Mem.Bx.new w 38 (vcCells v).toArray rfl rfl, Reg.below_new _ _⟩⟩⟩
  case round =>
    obtain ⟨k, hk, rfl, hpk, HA⟩ := hrel.out
    have hck : k = 0 ∨ k = 1 ∨ k = 2 ∨ k = 3 := by omega
    rcases hck with rfl | rfl | rfl | rfl
    ·
      go_wp2
      rename World => wo
      go_loopw [4] (VrRow w v v.a) (fun t _ => 3 - (intOf t).toNat)
      case atStart => exact ⟨⟨0, by omega, rfl, rfl, HA⟩⟩
      case round =>
        clear HA
        obtain ⟨j, hj, rfl, hpj, HA⟩ := hrel.out
        have hcj : j = 0 ∨ j = 1 ∨ j = 2 ∨ j = 3 := by omega
        rcases hcj with rfl | rfl | rfl | rfl
        ·
          have x0 := HA.out.X.cell (j := 0) rfl
          by_cases h1 : 0 ≤ v.a.a
          · have d1 : decide (v.a.a < 0) = false := by simp; omega
            by_cases h2 : v.a.a ≤ 1099511627776
            · have d2 : decide (1099511627776 < v.a.a) = false := by simp; omega
              have hnx : Vec.okPre v.a (0 + 1) = true := by unfold Vec.okPre at hpj ⊢; have := okN_of h1 h2; simp_all
              clear h1 h2
              go_wp2
              go_roundw
              case rel => exact ⟨⟨0 + 1, by omega, rfl, hnx, HA⟩⟩
              case measure => simp [intOf]
            · have d2 : decide (1099511627776 < v.a.a) = true := by simp; omega
              have hrv : Vec.rightV v = false := by have := okN_no (.inr h2); simp [rightV, preV, okPre, this]
              clear h1 h2
              go_wp2
              go_ret
              exact ⟨by rw [hrv]; rfl, HA.out.b⟩
          · have d1 : decide (v.a.a < 0) = true := by simp; omega
            have hrv : Vec.rightV v = false := by have := okN_no (.inl h1); simp [rightV, preV, okPre, this]
            clear h1
            go_wp2
            go_ret
            exact ⟨by rw [hrv]; rfl, HA.out.b⟩
        ·
          have x0 := HA.out.X.cell (j := 1) rfl
          by_cases h1 : 0 ≤ v.a.b
          · have d1 : decide (v.a.b < 0) = false := by simp; omega
            by_cases h2 : v.a.b ≤ 1099511627776
            · have d2 : decide (1099511627776 < v.a.b) = false := by simp; omega
              have hnx : Vec.okPre v.a (1 + 1) = true := by unfold Vec.okPre at hpj ⊢; have := okN_of h1 h2; simp_all
              clear h1 h2
              go_wp2
              go_roundw
              case rel => exact ⟨⟨1 + 1, by omega, rfl, hnx, HA⟩⟩
              case measure => simp [intOf]
            · have d2 : decide (1099511627776 < v.a.b) = true := by simp; omega
              have hrv : Vec.rightV v = false := by have := okN_no (.inr h2); simp [rightV, preV, okPre, this]
              clear h1 h2
              go_wp2
              go_ret
              exact ⟨by rw [hrv]; rfl, HA.out.b⟩
          · have d1 : decide (v.a.b < 0) = true := by simp; omega
            have hrv : Vec.rightV v = false := by have := okN_no (.inl h1); simp [rightV, preV, okPre, this]
            clear h1
            go_wp2
            go_ret
            exact ⟨by rw [hrv]; rfl, HA.out.b⟩
        ·
          have x0 := HA.out.X.cell (j := 2) rfl
          by_cases h1 : 0 ≤ v.a.c
          · have d1 : decide (v.a.c < 0) = false := by simp; omega
            by_cases h2 : v.a.c ≤ 1099511627776
            · have d2 : decide (1099511627776 < v.a.c) = false := by simp; omega
              have hnx : Vec.okPre v.a (2 + 1) = true := by unfold Vec.okPre at hpj ⊢; have := okN_of h1 h2; simp_all
              clear h1 h2
              go_wp2
              go_roundw
              case rel => exact ⟨⟨2 + 1, by omega, rfl, hnx, HA⟩⟩
              case measure => simp [intOf]
            · have d2 : decide (1099511627776 < v.a.c) = true := by simp; omega
              have hrv : Vec.rightV v = false := by have := okN_no (.inr h2); simp [rightV, preV, okPre, this]
              clear h1 h2
              go_wp2
              go_ret
              exact ⟨by rw [hrv]; rfl, HA.out.b⟩
          · have d1 : decide (v.a.c < 0) = true := by simp; omega
            have hrv : Vec.rightV v = false := by have := okN_no (.inl h1); simp [rightV, preV, okPre, this]
            clear h1
            go_wp2
            go_ret
            exact ⟨by rw [hrv]; rfl, HA.out.b⟩
        · have hnx : Vec.preV v (0 + 1) = true := by unfold Vec.preV at hpk ⊢; simp_all
          go_wp2
          go_roundw
          case rel => exact ⟨⟨0 + 1, by omega, rfl, hnx, HA⟩⟩
          case measure => simp [intOf]
    ·
      go_wp2
      rename World => wo
      go_loopw [4] (VrRow w v v.b) (fun t _ => 3 - (intOf t).toNat)
      case atStart => exact ⟨⟨0, by omega, rfl, rfl, HA⟩⟩
      case round =>
        clear HA
        obtain ⟨j, hj, rfl, hpj, HA⟩ := hrel.out
        have hcj : j = 0 ∨ j = 1 ∨ j = 2 ∨ j = 3 := by omega
        rcases hcj with rfl | rfl | rfl | rfl
        ·
          have x0 := HA.out.X.cell (j := 3) rfl
          by_cases h1 : 0 ≤ v.b.a
          · have d1 : decide (v.b.a < 0) = false := by simp; omega
            by_cases h2 : v.b.a ≤ 1099511627776
            · have d2 : decide (1099511627776 < v.b.a) = false := by simp; omega
              have hnx : Vec.okPre v.b (0 + 1) = true := by unfold Vec.okPre at hpj ⊢; have := okN_of h1 h2; simp_all
              clear h1 h2
              go_wp2
              go_roundw
              case rel => exact ⟨⟨0 + 1, by omega, rfl, hnx, HA⟩⟩
              case measure => simp [intOf]
            · have d2 : decide (1099511627776 < v.b.a) = true := by simp; omega
              have hrv : Vec.rightV v = false := by have := okN_no (.inr h2); simp [rightV, preV, okPre, this]
              clear h1 h2
              go_wp2
              go_ret
              exact ⟨by rw [hrv]; rfl, HA.out.b⟩
          · have d1 : decide (v.b.a < 0) = true := by simp; omega
            have hrv : Vec.rightV v = false := by have := okN_no (.inl h1); simp [rightV, preV, okPre, this]
            clear h1
            go_wp2
            go_ret
            exact ⟨by rw [hrv]; rfl, HA.out.b⟩
        ·
          have x0 := HA.out.X.cell (j := 4) rfl
          by_cases h1 : 0 ≤ v.b.b
          · have d1 : decide (v.b.b < 0) = false := by simp; omega
            by_cases h2 : v.b.b ≤ 1099511627776
            · have d2 : decide (1099511627776 < v.b.b) = false := by simp; omega
              have hnx : Vec.okPre v.b (1 + 1) = true := by unfold Vec.okPre at hpj ⊢; have := okN_of h1 h2; simp_all
              clear h1 h2
              go_wp2
              go_roundw
              case rel => exact ⟨⟨1 + 1, by omega, rfl, hnx, HA⟩⟩
              case measure => simp [intOf]
            · have d2 : decide (1099511627776 < v.b.b) = true := by simp; omega
              have hrv : Vec.rightV v = false := by have := okN_no (.inr h2); simp [rightV, preV, okPre, this]
              clear h1 h2
              go_wp2
              go_ret
              exact ⟨by rw [hrv]; rfl, HA.out.b⟩
          · have d1 : decide (v.b.b < 0) = true := by simp; omega
            have hrv : Vec.rightV v = false := by have := okN_no (.inl h1); simp [rightV, preV, okPre, this]
            clear h1
            go_wp2
            go_ret
            exact ⟨by rw [hrv]; rfl, HA.out.b⟩
        ·
          have x0 := HA.out.X.cell (j := 5) rfl
          by_cases h1 : 0 ≤ v.b.c
          · have d1 : decide (v.b.c < 0) = false := by simp; omega
            by_cases h2 : v.b.c ≤ 1099511627776
            · have d2 : decide (1099511627776 < v.b.c) = false := by simp; omega
              have hnx : Vec.okPre v.b (2 + 1) = true := by unfold Vec.okPre at hpj ⊢; have := okN_of h1 h2; simp_all
              clear h1 h2
              go_wp2
              go_roundw
              case rel => exact ⟨⟨2 + 1, by omega, rfl, hnx, HA⟩⟩
              case measure => simp [intOf]
            · have d2 : decide (1099511627776 < v.b.c) = true := by simp; omega
              have hrv : Vec.rightV v = false := by have := okN_no (.inr h2); simp [rightV, preV, okPre, this]
              clear h1 h2
              go_wp2
              go_ret
              exact ⟨by rw [hrv]; rfl, HA.out.b⟩
          · have d1 : decide (v.b.c < 0) = true := by simp; omega
            have hrv : Vec.rightV v = false := by have := okN_no (.inl h1); simp [rightV, preV, okPre, this]
            clear h1
            go_wp2
            go_ret
            exact ⟨by rw [hrv]; rfl, HA.out.b⟩
        · have hnx : Vec.preV v (1 + 1) = true := by unfold Vec.preV at hpk ⊢; simp_all
          go_wp2
          go_roundw
          case rel => exact ⟨⟨1 + 1, by omega, rfl, hnx, HA⟩⟩
          case measure => simp [intOf]
    ·
      go_wp2
      rename World => wo
      go_loopw [4] (VrRow w v v.c) (fun t _ => 3 - (intOf t).toNat)
      case atStart => exact ⟨⟨0, by omega, rfl, rfl, HA⟩⟩
      case round =>
        clear HA
        obtain ⟨j, hj, rfl, hpj, HA⟩ := hrel.out
        have hcj : j = 0 ∨ j = 1 ∨ j = 2 ∨ j = 3 := by omega
        rcases hcj with rfl | rfl | rfl | rfl
        ·
          have x0 := HA.out.X.cell (j := 6) rfl
          by_cases h1 : 0 ≤ v.c.a
          · have d1 : decide (v.c.a < 0) = false := by simp; omega
            by_cases h2 : v.c.a ≤ 1099511627776
            · have d2 : decide (1099511627776 < v.c.a) = false := by simp; omega
              have hnx : Vec.okPre v.c (0 + 1) = true := by unfold Vec.okPre at hpj ⊢; have := okN_of h1 h2; simp_all
              clear h1 h2
              go_wp2
              go_roundw
              case rel => exact ⟨⟨0 + 1, by omega, rfl, hnx, HA⟩⟩
              case measure => simp [intOf]
            · have d2 : decide (1099511627776 < v.c.a) = true := by simp; omega
              have hrv : Vec.rightV v = false := by have := okN_no (.inr h2); simp [rightV, preV, okPre, this]
              clear h1 h2
              go_wp2
              go_ret
              exact ⟨by rw [hrv]; rfl, HA.out.b⟩
          · have d1 : decide (v.c.a < 0) = true := by simp; omega
            have hrv : Vec.rightV v = false := by have := okN_no (.inl h1); simp [rightV, preV, okPre, this]
            clear h1
            go_wp2
            go_ret
            exact ⟨by rw [hrv]; rfl, HA.out.b⟩
        ·
          have x0 := HA.out.X.cell (j := 7) rfl
          by_cases h1 : 0 ≤ v.c.b
          · have d1 : decide (v.c.b < 0) = false := by simp; omega
            by_cases h2 : v.c.b ≤ 1099511627776
            · have d2 : decide (1099511627776 < v.c.b) = false := by simp; omega
              have hnx : Vec.okPre v.c (1 + 1) = true := by unfold Vec.okPre at hpj ⊢; have := okN_of h1 h2; simp_all
              clear h1 h2
              go_wp2
              go_roundw
              case rel => exact ⟨⟨1 + 1, by omega, rfl, hnx, HA⟩⟩
              case measure => simp [intOf]
            · have d2 : decide (1099511627776 < v.c.b) = true := by simp; omega
              have hrv : Vec.rightV v = false := by have := okN_no (.inr h2); simp [rightV, preV, okPre, this]
              clear h1 h2
              go_wp2
              go_ret
              exact ⟨by rw [hrv]; rfl, HA.out.b⟩
          · have d1 : decide (v.c.b < 0) = true := by simp; omega
            have hrv : Vec.rightV v = false := by have := okN_no (.inl h1); simp [rightV, preV, okPre, this]
            clear h1
            go_wp2
            go_ret
            exact ⟨by rw [hrv]; rfl, HA.out.b⟩
        ·
          have x0 := HA.out.X.cell (j := 8) rfl
          by_cases h1 : 0 ≤ v.c.c
          · have d1 : decide (v.c.c < 0) = false := by simp; omega
            by_cases h2 : v.c.c ≤ 1099511627776
            · have d2 : decide (1099511627776 < v.c.c) = false := by simp; omega
              have hnx : Vec.okPre v.c (2 + 1) = true := by unfold Vec.okPre at hpj ⊢; have := okN_of h1 h2; simp_all
              clear h1 h2
              go_wp2
              go_roundw
              case rel => exact ⟨⟨2 + 1, by omega, rfl, hnx, HA⟩⟩
              case measure => simp [intOf]
            · have d2 : decide (1099511627776 < v.c.c) = true := by simp; omega
              have hrv : Vec.rightV v = false := by have := okN_no (.inr h2); simp [rightV, preV, okPre, this]
              clear h1 h2
              go_wp2
              go_ret
              exact ⟨by rw [hrv]; rfl, HA.out.b⟩
          · have d1 : decide (v.c.c < 0) = true := by simp; omega
            have hrv : Vec.rightV v = false := by have := okN_no (.inl h1); simp [rightV, preV, okPre, this]
            clear h1
            go_wp2
            go_ret
            exact ⟨by rw [hrv]; rfl, HA.out.b⟩
        · have hnx : Vec.preV v (2 + 1) = true := by unfold Vec.preV at hpk ⊢; simp_all
          go_wp2
          go_roundw
          case rel => exact ⟨⟨2 + 1, by omega, rfl, hnx, HA⟩⟩
          case measure => simp [intOf]
    · have hv : Vec.rightV v = true := hpk
      go_wp2
      go_ret
      exact ⟨by rw [hv]; rfl, HA.out.b⟩
end Go.Proofs.Ytfafehffnjbhnaa
