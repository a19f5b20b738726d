/- The walks of package vec's small functions: chain, Part, CoversCol, and what they compute. No conditions. -/
import Derived.Test.YtiibgkgbghganaaStamp0
import Derived.Test.YtiibgkgbghganaaRegW
import Derived.Test.YtiibgkgbghganaaOpen2
import Derived.Test.YtiibgkgbghganaaAgg
namespace Go.Proofs.Ytiibgkgbghganaa
open Go.RowKit
set_option linter.unusedVariables false


namespace Vec
structure Col where
  a : Int
  b : Int
  c : Int
abbrev colCells (c : Col) : List Value := [.int .i64 c.a, .int .i64 c.b, .int .i64 c.c]
abbrev C (c : Col) : Value := .agg #[.int .i64 c.a, .int .i64 c.b, .int .i64 c.c]
def Col.at (c : Col) (i : Nat) : Int := match i with | 0 => c.a | 1 => c.b | _ => c.c
def col0 : Col := ⟨0, 0, 0⟩
structure Vc where
  a : Col
  b : Col
  c : Col
abbrev vcCells (v : Vc) : List Value := [.int .i64 v.a.a, .int .i64 v.a.b, .int .i64 v.a.c, .int .i64 v.b.a, .int .i64 v.b.b, .int .i64 v.b.c, .int .i64 v.c.a, .int .i64 v.c.b, .int .i64 v.c.c]
abbrev V (v : Vc) : Value := .agg #[.int .i64 v.a.a, .int .i64 v.a.b, .int .i64 v.a.c, .int .i64 v.b.a, .int .i64 v.b.b, .int .i64 v.b.c, .int .i64 v.c.a, .int .i64 v.c.b, .int .i64 v.c.c]
def Vc.row (v : Vc) (i : Nat) : Col := match i with | 0 => v.a | 1 => v.b | _ => v.c
def vc0 : Vc := ⟨col0, col0, col0⟩
def chain (d r : Int) : Bool := decide (0 ≤ d ∧ d < 3 ∧ 0 ≤ r ∧ r < 3)
def part (v : Vc) (rng : Int) : Col := if 0 ≤ rng ∧ rng < 3 then ⟨v.a.at rng.toNat, v.b.at rng.toNat, v.c.at rng.toNat⟩ else col0
def coversC (x y : Col) : Bool := decide (y.a ≤ x.a ∧ y.b ≤ x.b ∧ y.c ≤ x.c)
theorem chain_arms (d r : Int) : ∃ b, Vec.chain d r = b ∧ ((b = true ∧ decide (0 ≤ d) = true ∧ decide (d < 3) = true ∧ decide (0 ≤ r) = true ∧ decide (r < 3) = true) ∨
    (b = false ∧ (decide (0 ≤ d) = false ∨ (decide (0 ≤ d) = true ∧ decide (d < 3) = false) ∨ (decide (0 ≤ d) = true ∧ decide (d < 3) = true ∧ decide (0 ≤ r) = false) ∨ (decide (0 ≤ d) = true ∧ decide (d < 3) = true ∧ decide (0 ≤ r) = true ∧ decide (r < 3) = false)))) := by
  refine ⟨_, rfl, ?_⟩
  unfold chain
  simp only [decide_eq_true_eq, decide_eq_false_iff_not]
  omega
end Vec
theorem chain_any (d r : Int) (w : World) :
    Calls Try.prog 27 #[.int .i64 d, .int .i64 r] w fun e w' => e = .returned (.bool (Vec.chain d r)) ∧ w = w' := by
  obtain ⟨b, hb, h⟩ := Vec.chain_arms d r
  rw [hb]
  clear hb
  rcases h with ⟨rfl, h1, h2, h3, h4⟩ | ⟨rfl, h | ⟨h1, h⟩ | ⟨h1, h2, h⟩ | ⟨h1, h2, h3, h⟩⟩ <;>
  · go_enter Try.func27, Try.ntmps27
    go_wp2
    go_ret
    exact ⟨rfl, rfl⟩
namespace Vec
def partTo (v : Vc) (rng : Int) : Nat → Col
  | 0 => col0
  | 1 => ⟨(part v rng).a, 0, 0⟩
  | 2 => ⟨(part v rng).a, (part v rng).b, 0⟩
  | _ => part v rng
structure PartRel (w : World) (v : Vc) (rng : Int) (vi : Value) (wr : World) : Prop where
  out : ∃ k : Nat, k ≤ 3 ∧ vi = .int .i64 k ∧ Hid (Mem.Bx wr 31 9 w.heap.size (vcCells v)) ∧ Hid (Mem.Bx wr 37 3 (w.heap.size + 1) (colCells col0)) ∧ Hid (Mem.Bx wr 37 3 (w.heap.size + 2) (colCells (partTo v rng k))) ∧ Hid (Below w.heap.size w wr)
end Vec
open Vec in
set_option maxHeartbeats 2000000 in
theorem part_any (v : Vec.Vc) (rng : Int) (w : World) :
    Calls Try.prog 13 #[Vec.V v, .int .i64 rng] w fun e w' => e = .returned (Vec.C (Vec.part v rng)) ∧ Below w.heap.size w w' := by
  go_enter Try.func13, Try.ntmps13
  go_wp2
  go_loopw [7] (PartRel w v rng) (fun t _ => 3 - (intOf t).toNat)
  case atStart =>
    have b0 : Mem.Bx (w.alloc (.cells (vcCells v).toArray 31)) 31 9 w.heap.size (vcCells v) := Mem.Bx.new w _ _ rfl rfl
    refine ⟨⟨0, by omega, rfl, ?_, ?_, ?_, ?_⟩⟩
    · exact (b0.below (Reg.below_new _ _) (by simp)).below (Reg.below_new _ _) (by simp; omega)
    · exact (Mem.Bx.new (w.alloc _) 37 (colCells col0).toArray rfl (by simp)).below (Reg.below_new _ _) (by simp)
    · exact Mem.Bx.new ((w.alloc _).alloc _) 37 (colCells col0).toArray rfl (by simp)
    · exact ((Reg.below_new _ _).alloc (by simp) _).alloc (by simp; omega) _
  case round =>
    obtain ⟨k, hk, rfl, HV, H1, H2, HB⟩ := hrel.out
    have hz := HB.out.size
    have hz2 := H2.out.lt
    have hc : k = 0 ∨ k = 1 ∨ k = 2 ∨ k = 3 := by omega
    rcases hc with rfl | rfl | rfl | rfl
    · by_cases hr : 0 ≤ rng ∧ rng < 3
      · have hq : rng = 0 ∨ rng = 1 ∨ rng = 2 := by omega
        rcases hq with rfl | rfl | rfl
        ·
          have hch : Vec.chain 0 0 = true := rfl
          have xx := HV.out.cell (j := 0) rfl
          have y0 := H2.out.cell (j := 0) rfl
          have f2 := H2.out.fr 0
          go_wp2_with fail
          refine (chain_any _ _ _).mono ?_
          rintro _ _ ⟨rfl, rfl⟩
          go_wp2
          go_roundw
          case rel => exact ⟨⟨0 + 1, by omega, rfl, HV.out.keep (by omega) _ _, H1.out.keep (by omega) _ _, H2.out.set 0 _, HB.out.setCell (by simp; omega) _⟩⟩
          case measure => simp [intOf]
        ·
          have hch : Vec.chain 0 1 = true := rfl
          have xx := HV.out.cell (j := 1) rfl
          have y0 := H2.out.cell (j := 0) rfl
          have f2 := H2.out.fr 0
          go_wp2_with fail
          refine (chain_any _ _ _).mono ?_
          rintro _ _ ⟨rfl, rfl⟩
          go_wp2
          go_roundw
          case rel => exact ⟨⟨0 + 1, by omega, rfl, HV.out.keep (by omega) _ _, H1.out.keep (by omega) _ _, H2.out.set 0 _, HB.out.setCell (by simp; omega) _⟩⟩
          case measure => simp [intOf]
        ·
          have hch : Vec.chain 0 2 = true := rfl
          have xx := HV.out.cell (j := 2) rfl
          have y0 := H2.out.cell (j := 0) rfl
          have f2 := H2.out.fr 0
          go_wp2_with fail
          refine (chain_any _ _ _).mono ?_
          rintro _ _ ⟨rfl, rfl⟩
          go_wp2
          go_roundw
          case rel => exact ⟨⟨0 + 1, by omega, rfl, HV.out.keep (by omega) _ _, H1.out.keep (by omega) _ _, H2.out.set 0 _, HB.out.setCell (by simp; omega) _⟩⟩
          case measure => simp [intOf]
      ·
        have hch : Vec.chain 0 rng = false := by unfold Vec.chain; simp; omega
        have hp : Vec.part v rng = Vec.col0 := if_neg hr
        go_wp2_with fail
        refine (chain_any _ _ _).mono ?_
        rintro _ _ ⟨rfl, rfl⟩
        go_wp2
        go_roundw
        case rel => exact ⟨⟨0 + 1, by omega, rfl, HV, H1, by have := H2.out; unfold Vec.partTo at this ⊢; rw [hp] at *; exact this, HB⟩⟩
        case measure => simp [intOf]
    · by_cases hr : 0 ≤ rng ∧ rng < 3
      · have hq : rng = 0 ∨ rng = 1 ∨ rng = 2 := by omega
        rcases hq with rfl | rfl | rfl
        ·
          have hch : Vec.chain 1 0 = true := rfl
          have xx := HV.out.cell (j := 3) rfl
          have y0 := H2.out.cell (j := 1) rfl
          have f2 := H2.out.fr 1
          go_wp2_with fail
          refine (chain_any _ _ _).mono ?_
          rintro _ _ ⟨rfl, rfl⟩
          go_wp2
          go_roundw
          case rel => exact ⟨⟨1 + 1, by omega, rfl, HV.out.keep (by omega) _ _, H1.out.keep (by omega) _ _, H2.out.set 1 _, HB.out.setCell (by simp; omega) _⟩⟩
          case measure => simp [intOf]
        ·
          have hch : Vec.chain 1 1 = true := rfl
          have xx := HV.out.cell (j := 4) rfl
          have y0 := H2.out.cell (j := 1) rfl
          have f2 := H2.out.fr 1
          go_wp2_with fail
          refine (chain_any _ _ _).mono ?_
          rintro _ _ ⟨rfl, rfl⟩
          go_wp2
          go_roundw
          case rel => exact ⟨⟨1 + 1, by omega, rfl, HV.out.keep (by omega) _ _, H1.out.keep (by omega) _ _, H2.out.set 1 _, HB.out.setCell (by simp; omega) _⟩⟩
          case measure => simp [intOf]
        ·
          have hch : Vec.chain 1 2 = true := rfl
          have xx := HV.out.cell (j := 5) rfl
          have y0 := H2.out.cell (j := 1) rfl
          have f2 := H2.out.fr 1
          go_wp2_with fail
          refine (chain_any _ _ _).mono ?_
          rintro _ _ ⟨rfl, rfl⟩
          go_wp2
          go_roundw
          case rel => exact ⟨⟨1 + 1, by omega, rfl, HV.out.keep (by omega) _ _, H1.out.keep (by omega) _ _, H2.out.set 1 _, HB.out.setCell (by simp; omega) _⟩⟩
          case measure => simp [intOf]
      ·
        have hch : Vec.chain 1 rng = false := by unfold Vec.chain; simp; omega
        have hp : Vec.part v rng = Vec.col0 := if_neg hr
        go_wp2_with fail
        refine (chain_any _ _ _).mono ?_
        rintro _ _ ⟨rfl, rfl⟩
        go_wp2
        go_roundw
        case rel => exact ⟨⟨1 + 1, by omega, rfl, HV, H1, by have := H2.out; unfold Vec.partTo at this ⊢; rw [hp] at *; exact this, HB⟩⟩
        case measure => simp [intOf]
    · by_cases hr : 0 ≤ rng ∧ rng < 3
      · have hq : rng = 0 ∨ rng = 1 ∨ rng = 2 := by omega
        rcases hq with rfl | rfl | rfl
        ·
          have hch : Vec.chain 2 0 = true := rfl
          have xx := HV.out.cell (j := 6) rfl
          have y0 := H2.out.cell (j := 2) rfl
          have f2 := H2.out.fr 2
          go_wp2_with fail
          refine (chain_any _ _ _).mono ?_
          rintro _ _ ⟨rfl, rfl⟩
          go_wp2
          go_roundw
          case rel => exact ⟨⟨2 + 1, by omega, rfl, HV.out.keep (by omega) _ _, H1.out.keep (by omega) _ _, H2.out.set 2 _, HB.out.setCell (by simp; omega) _⟩⟩
          case measure => simp [intOf]
        ·
          have hch : Vec.chain 2 1 = true := rfl
          have xx := HV.out.cell (j := 7) rfl
          have y0 := H2.out.cell (j := 2) rfl
          have f2 := H2.out.fr 2
          go_wp2_with fail
          refine (chain_any _ _ _).mono ?_
          rintro _ _ ⟨rfl, rfl⟩
          go_wp2
          go_roundw
          case rel => exact ⟨⟨2 + 1, by omega, rfl, HV.out.keep (by omega) _ _, H1.out.keep (by omega) _ _, H2.out.set 2 _, HB.out.setCell (by simp; omega) _⟩⟩
          case measure => simp [intOf]
        ·
          have hch : Vec.chain 2 2 = true := rfl
          have xx := HV.out.cell (j := 8) rfl
          have y0 := H2.out.cell (j := 2) rfl
          have f2 := H2.out.fr 2
          go_wp2_with fail
          refine (chain_any _ _ _).mono ?_
          rintro _ _ ⟨rfl, rfl⟩
          go_wp2
          go_roundw
          case rel => exact ⟨⟨2 + 1, by omega, rfl, HV.out.keep (by omega) _ _, H1.out.keep (by omega) _ _, H2.out.set 2 _, HB.out.setCell (by simp; omega) _⟩⟩
          case measure => simp [intOf]
      ·
        have hch : Vec.chain 2 rng = false := by unfold Vec.chain; simp; omega
        have hp : Vec.part v rng = Vec.col0 := if_neg hr
        go_wp2_with fail
        refine (chain_any _ _ _).mono ?_
        rintro _ _ ⟨rfl, rfl⟩
        go_wp2
        go_roundw
        case rel => exact ⟨⟨2 + 1, by omega, rfl, HV, H1, by have := H2.out; unfold Vec.partTo at this ⊢; rw [hp] at *; exact this, HB⟩⟩
        case measure => simp [intOf]
    · have x0 := H2.out.cell (j := 0) rfl
      have x1 := H2.out.cell (j := 1) rfl
      have x2 := H2.out.cell (j := 2) rfl
      have y0 := H1.out.cell (j := 0) rfl
      have y1 := H1.out.cell (j := 1) rfl
      have y2 := H1.out.cell (j := 2) rfl
      have f1 := H1.out.fr
      go_wp2
      refine bodyPost_ret (v := Vec.C (Vec.part v rng)) ?_ rfl ⟨rfl, ?_⟩
      · simp [results, Try.results13, go_sem, Mem.set_same, Mem.isSome_set, y0, y1, y2, partTo]
      · exact ((HB.out.setCell (by simp) _).setCell (by simp) _).setCell (by simp) _
namespace Vec
structure CovRel (w : World) (x y : Col) (vi : Value) (wr : World) : Prop where
  out : ∃ k : Nat, k ≤ 3 ∧ vi = .int .i64 k ∧ (0 < k → y.a ≤ x.a) ∧ (1 < k → y.b ≤ x.b) ∧ (2 < k → y.c ≤ x.c) ∧ Hid (Mem.Bx wr 37 3 w.heap.size (colCells x)) ∧ Hid (Mem.Bx wr 37 3 (w.heap.size + 1) (colCells y)) ∧ Hid (Below w.heap.size w wr)
end Vec
open Vec in
set_option maxHeartbeats 2000000 in
theorem coversC_any (x y : Vec.Col) (w : World) :
    Calls Try.prog 14 #[Vec.C x, Vec.C y] w fun e w' => e = .returned (.bool (Vec.coversC x y)) ∧ Below w.heap.size w w' := by
  go_enter Try.func14, Try.ntmps14
  go_wp2
  go_loopw [6] (CovRel w x y) (fun t _ => 3 - (intOf t).toNat)
  case atStart =>
    refine ⟨⟨0, by omega, rfl, by omega, by omega, by omega, ?_, ?_, ?_⟩⟩
    · exact (Mem.Bx.new w 37 (colCells x).toArray rfl rfl).below (Reg.below_new _ _) (by simp)
    · exact Mem.Bx.new (w.alloc _) 37 (colCells y).toArray rfl (by simp)
    · exact (Reg.below_new _ _).alloc (by simp) _
  case round =>
    obtain ⟨k, hk, rfl, ha, hb, hcc, H1, H2, HB⟩ := hrel.out
    have hz := HB.out.size
    have hz2 := H2.out.lt
    have hc : k = 0 ∨ k = 1 ∨ k = 2 ∨ k = 3 := by omega
    rcases hc with rfl | rfl | rfl | rfl
    ·
      have x0 := H1.out.cell (j := 0) rfl
      have x1 := H2.out.cell (j := 0) rfl
      by_cases hlt : y.a ≤ x.a
      · have hd : decide (x.a < y.a) = false := by simp; omega
        go_wp2
        go_quiet (fail)
        go_wp2
        go_roundw
        case rel => exact ⟨⟨0 + 1, by omega, rfl, by intros; omega, by intros; omega, by intros; omega, H1.out.keeps ((Mem.Keeps.refl (fun _ => False) _).drewN _) id, H2.out.keeps ((Mem.Keeps.refl (fun _ => False) _).drewN _) id, Mem.below_drewN HB.out _⟩⟩
        case measure => simp [intOf]
      · have hd : decide (x.a < y.a) = true := by simp; omega
        have hcv : Vec.coversC x y = false := by unfold Vec.coversC; simp; omega
        go_wp2
        go_quiet (fail)
        go_wp2
        go_ret
        exact ⟨by rw [hcv]; rfl, Mem.below_drewN HB.out _⟩
    ·
      have x0 := H1.out.cell (j := 1) rfl
      have x1 := H2.out.cell (j := 1) rfl
      by_cases hlt : y.b ≤ x.b
      · have hd : decide (x.b < y.b) = false := by simp; omega
        go_wp2
        go_quiet (fail)
        go_wp2
        go_roundw
        case rel => exact ⟨⟨1 + 1, by omega, rfl, by intros; omega, by intros; omega, by intros; omega, H1.out.keeps ((Mem.Keeps.refl (fun _ => False) _).drewN _) id, H2.out.keeps ((Mem.Keeps.refl (fun _ => False) _).drewN _) id, Mem.below_drewN HB.out _⟩⟩
        case measure => simp [intOf]
      · have hd : decide (x.b < y.b) = true := by simp; omega
        have hcv : Vec.coversC x y = false := by unfold Vec.coversC; simp; omega
        go_wp2
        go_quiet (fail)
        go_wp2
        go_ret
        exact ⟨by rw [hcv]; rfl, Mem.below_drewN HB.out _⟩
    ·
      have x0 := H1.out.cell (j := 2) rfl
      have x1 := H2.out.cell (j := 2) rfl
      by_cases hlt : y.c ≤ x.c
      · have hd : decide (x.c < y.c) = false := by simp; omega
        go_wp2
        go_quiet (fail)
        go_wp2
        go_roundw
        case rel => exact ⟨⟨2 + 1, by omega, rfl, by intros; omega, by intros; omega, by intros; omega, H1.out.keeps ((Mem.Keeps.refl (fun _ => False) _).drewN _) id, H2.out.keeps ((Mem.Keeps.refl (fun _ => False) _).drewN _) id, Mem.below_drewN HB.out _⟩⟩
        case measure => simp [intOf]
      · have hd : decide (x.c < y.c) = true := by simp; omega
        have hcv : Vec.coversC x y = false := by unfold Vec.coversC; simp; omega
        go_wp2
        go_quiet (fail)
        go_wp2
        go_ret
        exact ⟨by rw [hcv]; rfl, Mem.below_drewN HB.out _⟩
    · have hcv : Vec.coversC x y = true := by unfold Vec.coversC; simp; omega
      go_wp2
      go_ret
      exact ⟨by rw [hcv]; rfl, HB.out⟩
end Go.Proofs.Ytiibgkgbghganaa
