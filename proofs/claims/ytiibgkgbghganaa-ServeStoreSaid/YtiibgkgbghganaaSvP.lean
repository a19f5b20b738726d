/- The walks of package vec's small functions: chain, Part, CoversCol, and what they compute. No conditions. -/
import Derived.Test.YtiibgkgbghganaaStCov
namespace Go.Proofs.Ytiibgkgbghganaa
open Go.RowKit
set_option linter.unusedVariables false
set_option linter.unusedSimpArgs false


namespace Vec
end Vec
namespace Vec
def partTo (v : Vc) (rng : Int) : Nat → Col
  | 0 => col0
  | 1 => ⟨(part v rng).a, 0, 0⟩
  | 2 => ⟨(part v rng).a, (part v rng).b, 0⟩
  | _ => part v rng
structure PartRel (w : World) (v : Vc) (rng : Int) (vi : Value) (wr : World) : Prop where
  out : ∃ k : Nat, k ≤ 3 ∧ vi = .int .i64 k ∧ Hid (Mem.Bx wr 31 9 w.heap.size (vcCells v)) ∧ Hid (Mem.Bx wr 37 3 (w.heap.size + 1) (colCells col0)) ∧ Hid (Mem.Bx wr 37 3 (w.heap.size + 2) (colCells (partTo v rng k))) ∧ Hid (Below w.heap.size w wr)
end Vec
open Vec in
set_option maxHeartbeats 2000000 in
theorem part_any (v : Vec.Vc) (rng : Int) (w : World) :
    Calls Try.prog 13 #[Vec.V v, .int .i64 rng] w fun e w' => e = .returned (Vec.C (Vec.part v rng)) ∧ Below w.heap.size w w' := by
  go_enter Try.func13, Try.ntmps13
  go_wp2
  go_loopw [7] (PartRel w v rng) (fun t _ => 3 - (intOf t).toNat)
  case atStart =>
    have b0 : Mem.Bx (w.alloc (.cells (vcCells v).toArray 31)) 31 9 w.heap.size (vcCells v) := Mem.Bx.new w _ _ rfl rfl
    refine ⟨⟨0, by omega, rfl, ?_, ?_, ?_, ?_⟩⟩
    · exact (b0.below (Reg.below_new _ _) (by simp)).below (Reg.below_new _ _) (by simp; omega)
    · exact (Mem.Bx.new (w.alloc _) 37 (colCells col0).toArray rfl (by simp)).below (Reg.below_new _ _) (by simp)
    · exact Mem.Bx.new ((w.alloc _).alloc _) 37 (colCells col0).toArray rfl (by simp)
    · exact ((Reg.below_new _ _).alloc (by simp) _).alloc (by simp; omega) _
  case round =>
    obtain ⟨k, hk, rfl, HV, H1, H2, HB⟩ := hrel.out
    have hz := HB.out.size
    have hz2 := H2.out.lt
    have hc : k = 0 ∨ k = 1 ∨ k = 2 ∨ k = 3 := by omega
    rcases hc with rfl | rfl | rfl | rfl
    · by_cases hr : 0 ≤ rng ∧ rng < 3
      · have hq : rng = 0 ∨ rng = 1 ∨ rng = 2 := by omega
        rcases hq with rfl | rfl | rfl
        ·
          have hch : Vec.chain 0 0 = true := rfl
          have xx := HV.out.cell (j := 0) rfl
          have y0 := H2.out.cell (j := 0) rfl
          have f2 := H2.out.fr 0
          go_wp2_with fail
          refine (chain_any _ _ _).mono ?_
          rintro _ _ ⟨rfl, rfl⟩
          go_wp2
          go_roundw
          case rel => exact ⟨⟨0 + 1, by omega, rfl, HV.out.keep (by omega) _ _, H1.out.keep (by omega) _ _, H2.out.set 0 _, HB.out.setCell (by simp; omega) _⟩⟩
          case measure => simp [intOf]
        ·
          have hch : Vec.chain 0 1 = true := rfl
          have xx := HV.out.cell (j := 1) rfl
          have y0 := H2.out.cell (j := 0) rfl
          have f2 := H2.out.fr 0
          go_wp2_with fail
          refine (chain_any _ _ _).mono ?_
          rintro _ _ ⟨rfl, rfl⟩
          go_wp2
          go_roundw
          case rel => exact ⟨⟨0 + 1, by omega, rfl, HV.out.keep (by omega) _ _, H1.out.keep (by omega) _ _, H2.out.set 0 _, HB.out.setCell (by simp; omega) _⟩⟩
          case measure => simp [intOf]
        ·
          have hch : Vec.chain 0 2 = true := rfl
          have xx := HV.out.cell (j := 2) rfl
          have y0 := H2.out.cell (j := 0) rfl
          have f2 := H2.out.fr 0
          go_wp2_with fail
          refine (chain_any _ _ _).mono ?_
          rintro _ _ ⟨rfl, rfl⟩
          go_wp2
          go_roundw
          case rel => exact ⟨⟨0 + 1, by omega, rfl, HV.out.keep (by omega) _ _, H1.out.keep (by omega) _ _, H2.out.set 0 _, HB.out.setCell (by simp; omega) _⟩⟩
          case measure => simp [intOf]
      ·
        have hch : Vec.chain 0 rng = false := by unfold Vec.chain; simp; omega
        have hp : Vec.part v rng = Vec.col0 := if_neg hr
        go_wp2_with fail
        refine (chain_any _ _ _).mono ?_
        rintro _ _ ⟨rfl, rfl⟩
        go_wp2
        go_roundw
        case rel => exact ⟨⟨0 + 1, by omega, rfl, HV, H1, by have := H2.out; unfold Vec.partTo at this ⊢; rw [hp] at *; exact this, HB⟩⟩
        case measure => simp [intOf]
    · by_cases hr : 0 ≤ rng ∧ rng < 3
      · have hq : rng = 0 ∨ rng = 1 ∨ rng = 2 := by omega
        rcases hq with rfl | rfl | rfl
        ·
          have hch : Vec.chain 1 0 = true := rfl
          have xx := HV.out.cell (j := 3) rfl
          have y0 := H2.out.cell (j := 1) rfl
          have f2 := H2.out.fr 1
          go_wp2_with fail
          refine (chain_any _ _ _).mono ?_
          rintro _ _ ⟨rfl, rfl⟩
          go_wp2
          go_roundw
          case rel => exact ⟨⟨1 + 1, by omega, rfl, HV.out.keep (by omega) _ _, H1.out.keep (by omega) _ _, H2.out.set 1 _, HB.out.setCell (by simp; omega) _⟩⟩
          case measure => simp [intOf]
        ·
          have hch : Vec.chain 1 1 = true := rfl
          have xx := HV.out.cell (j := 4) rfl
          have y0 := H2.out.cell (j := 1) rfl
          have f2 := H2.out.fr 1
          go_wp2_with fail
          refine (chain_any _ _ _).mono ?_
          rintro _ _ ⟨rfl, rfl⟩
          go_wp2
          go_roundw
          case rel => exact ⟨⟨1 + 1, by omega, rfl, HV.out.keep (by omega) _ _, H1.out.keep (by omega) _ _, H2.out.set 1 _, HB.out.setCell (by simp; omega) _⟩⟩
          case measure => simp [intOf]
        ·
          have hch : Vec.chain 1 2 = true := rfl
          have xx := HV.out.cell (j := 5) rfl
          have y0 := H2.out.cell (j := 1) rfl
          have f2 := H2.out.fr 1
          go_wp2_with fail
          refine (chain_any _ _ _).mono ?_
          rintro _ _ ⟨rfl, rfl⟩
          go_wp2
          go_roundw
          case rel => exact ⟨⟨1 + 1, by omega, rfl, HV.out.keep (by omega) _ _, H1.out.keep (by omega) _ _, H2.out.set 1 _, HB.out.setCell (by simp; omega) _⟩⟩
          case measure => simp [intOf]
      ·
        have hch : Vec.chain 1 rng = false := by unfold Vec.chain; simp; omega
        have hp : Vec.part v rng = Vec.col0 := if_neg hr
        go_wp2_with fail
        refine (chain_any _ _ _).mono ?_
        rintro _ _ ⟨rfl, rfl⟩
        go_wp2
        go_roundw
        case rel => exact ⟨⟨1 + 1, by omega, rfl, HV, H1, by have := H2.out; unfold Vec.partTo at this ⊢; rw [hp] at *; exact this, HB⟩⟩
        case measure => simp [intOf]
    · by_cases hr : 0 ≤ rng ∧ rng < 3
      · have hq : rng = 0 ∨ rng = 1 ∨ rng = 2 := by omega
        rcases hq with rfl | rfl | rfl
        ·
          have hch : Vec.chain 2 0 = true := rfl
          have xx := HV.out.cell (j := 6) rfl
          have y0 := H2.out.cell (j := 2) rfl
          have f2 := H2.out.fr 2
          go_wp2_with fail
          refine (chain_any _ _ _).mono ?_
          rintro _ _ ⟨rfl, rfl⟩
          go_wp2
          go_roundw
          case rel => exact ⟨⟨2 + 1, by omega, rfl, HV.out.keep (by omega) _ _, H1.out.keep (by omega) _ _, H2.out.set 2 _, HB.out.setCell (by simp; omega) _⟩⟩
          case measure => simp [intOf]
        ·
          have hch : Vec.chain 2 1 = true := rfl
          have xx := HV.out.cell (j := 7) rfl
          have y0 := H2.out.cell (j := 2) rfl
          have f2 := H2.out.fr 2
          go_wp2_with fail
          refine (chain_any _ _ _).mono ?_
          rintro _ _ ⟨rfl, rfl⟩
          go_wp2
          go_roundw
          case rel => exact ⟨⟨2 + 1, by omega, rfl, HV.out.keep (by omega) _ _, H1.out.keep (by omega) _ _, H2.out.set 2 _, HB.out.setCell (by simp; omega) _⟩⟩
          case measure => simp [intOf]
        ·
          have hch : Vec.chain 2 2 = true := rfl
          have xx := HV.out.cell (j := 8) rfl
          have y0 := H2.out.cell (j := 2) rfl
          have f2 := H2.out.fr 2
          go_wp2_with fail
          refine (chain_any _ _ _).mono ?_
          rintro _ _ ⟨rfl, rfl⟩
          go_wp2
          go_roundw
          case rel => exact ⟨⟨2 + 1, by omega, rfl, HV.out.keep (by omega) _ _, H1.out.keep (by omega) _ _, H2.out.set 2 _, HB.out.setCell (by simp; omega) _⟩⟩
          case measure => simp [intOf]
      ·
        have hch : Vec.chain 2 rng = false := by unfold Vec.chain; simp; omega
        have hp : Vec.part v rng = Vec.col0 := if_neg hr
        go_wp2_with fail
        refine (chain_any _ _ _).mono ?_
        rintro _ _ ⟨rfl, rfl⟩
        go_wp2
        go_roundw
        case rel => exact ⟨⟨2 + 1, by omega, rfl, HV, H1, by have := H2.out; unfold Vec.partTo at this ⊢; rw [hp] at *; exact this, HB⟩⟩
        case measure => simp [intOf]
    · have x0 := H2.out.cell (j := 0) rfl
      have x1 := H2.out.cell (j := 1) rfl
      have x2 := H2.out.cell (j := 2) rfl
      have y0 := H1.out.cell (j := 0) rfl
      have y1 := H1.out.cell (j := 1) rfl
      have y2 := H1.out.cell (j := 2) rfl
      have f1 := H1.out.fr
      go_wp2
      refine bodyPost_ret (v := Vec.C (Vec.part v rng)) ?_ rfl ⟨rfl, ?_⟩
      · simp [results, Try.results13, go_sem, Mem.set_same, Mem.isSome_set, y0, y1, y2, partTo]
      · exact ((HB.out.setCell (by simp) _).setCell (by simp) _).setCell (by simp) _
namespace Vec
end Vec
end Go.Proofs.Ytiibgkgbghganaa
