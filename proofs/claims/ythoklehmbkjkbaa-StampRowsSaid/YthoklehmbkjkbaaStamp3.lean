/- The walk of StampOrder: Cmp is an order of all stamps. No conditions. -/
import Derived.Test.YthoklehmbkjkbaaStamp2
namespace Go.Proofs.Ythoklehmbkjkbaa
open Go.ChangeShapes Go.WideShapes Go.ChangeAt Go.RowKit
set_option linter.unusedVariables false

namespace Stamp
theorem cmpS_lo (a b : St) : -1 ≤ cmpS a b := by
  unfold cmpS firstNZ firstNZ firstNZ firstNZ
  have := cmpI_lo a.c b.c; have := cmpI_lo a.d b.d; have := cmpI_lo a.r b.r
  split <;> (try split) <;> (try split) <;> omega
theorem cmpS_hi (a b : St) : cmpS a b ≤ 1 := by
  unfold cmpS firstNZ firstNZ firstNZ firstNZ
  have := cmpI_hi a.c b.c; have := cmpI_hi a.d b.d; have := cmpI_hi a.r b.r
  split <;> (try split) <;> (try split) <;> omega
/-- one stamp is less than another one -/
def lt (a b : St) : Prop := a.c < b.c ∨ a.c = b.c ∧ (a.d < b.d ∨ a.d = b.d ∧ a.r < b.r)
theorem cmpS_lt {a b : St} : cmpS a b = -1 ↔ lt a b := by
  unfold cmpS firstNZ firstNZ firstNZ firstNZ cmpI lt
  split <;> (try split) <;> (try split) <;> (repeat' split at *) <;> omega
theorem cmpS_gt {a b : St} : cmpS a b = 1 ↔ lt b a := by
  unfold cmpS firstNZ firstNZ firstNZ firstNZ cmpI lt
  split <;> (try split) <;> (try split) <;> (repeat' split at *) <;> omega
theorem cmpS_eq {a b : St} : cmpS a b = 0 ↔ a.c = b.c ∧ a.d = b.d ∧ a.r = b.r := by
  unfold cmpS firstNZ firstNZ firstNZ firstNZ cmpI
  split <;> (try split) <;> (try split) <;> (repeat' split at *) <;> omega
theorem cmpS_anti (a b : St) : cmpS a b = -(cmpS b a) := by
  have h1 := cmpS_lo a b; have h2 := cmpS_hi a b; have h3 := cmpS_lo b a; have h4 := cmpS_hi b a
  have l1 := @cmpS_lt a b; have l2 := @cmpS_gt a b; have l3 := @cmpS_lt b a; have l4 := @cmpS_gt b a
  rcases (show cmpS a b = -1 ∨ cmpS a b = 0 ∨ cmpS a b = 1 by omega) with h | h | h
  · rw [h, l4.2 (l1.1 h)]
  · have e := cmpS_eq.1 h
    rw [h, (cmpS_eq (a := b) (b := a)).2 ⟨e.1.symm, e.2.1.symm, e.2.2.symm⟩]; rfl
  · rw [h, l3.2 (l2.1 h)]; rfl
theorem cmpS_le {a b : St} : cmpS a b ≤ 0 ↔ ¬ lt b a := by
  rw [← cmpS_gt]; have := cmpS_hi a b; omega
theorem le_trans {a b c : St} (h1 : cmpS a b ≤ 0) (h2 : cmpS b c ≤ 0) : cmpS a c ≤ 0 := by
  rw [cmpS_le] at *
  unfold lt at *
  omega
/-- the same stamp? -/
def same (a b : St) : Bool := decide (a.c = b.c ∧ a.d = b.d ∧ a.r = b.r)
end Stamp
theorem eql_stamp (a b : Stamp.St) (w : World) : (binOp .eql 23 (Stamp.S a) (Stamp.S b)).run Try.prog w = .ok (.bool (Stamp.same a b)) w := by
  unfold Stamp.same
  simp [go_sem]
  by_cases h1 : a.c = b.c <;> by_cases h2 : a.d = b.d <;> by_cases h3 : a.r = b.r <;> simp [h1, h2, h3]

/-- three boxes in a row -/
theorem box3 (w : World) (t : TypeId) (x y z : Array Value) (o : Nat) : (((w.alloc (.cells x t)).alloc (.cells y t)).alloc (.cells z t)).drew.cell? ⟨w.heap.size, o, none⟩ = x[o]? ∧
    (((w.alloc (.cells x t)).alloc (.cells y t)).alloc (.cells z t)).drew.cell? ⟨w.heap.size + 1, o, none⟩ = y[o]? ∧ (((w.alloc (.cells x t)).alloc (.cells y t)).alloc (.cells z t)).drew.cell? ⟨w.heap.size + 1 + 1, o, none⟩ = z[o]? := by
  refine ⟨(Reg.drew_cell _ _).trans ?_, (Reg.drew_cell _ _).trans ?_, (Reg.drew_cell _ _).trans ?_⟩
  · rw [World.cell?_alloc_lt _ _ _ (by simp; omega), World.cell?_alloc_lt _ _ _ (by simp), cell_of_row _ _ _ _ _ _ (heap_alloc_new _ _)]
  · rw [World.cell?_alloc_lt _ _ _ (by simp)]
    have h := heap_alloc_new (w.alloc (.cells x t)) (.cells y t)
    rw [World.size_alloc] at h
    rw [cell_of_row _ _ _ _ _ _ h]
  · have h := heap_alloc_new ((w.alloc (.cells x t)).alloc (.cells y t)) (.cells z t)
    rw [World.size_alloc, World.size_alloc] at h
    rw [cell_of_row _ _ _ _ _ _ h]
namespace stampOrderOpen
set_option maxHeartbeats 4000000 in
theorem walk (a b c : Stamp.St) (w : World) :
    Calls Try.prog 5 #[Stamp.S a, Stamp.S b, Stamp.S c] w fun e w' => e = .returned (.bool true) ∧ Below w.heap.size w w' := by
  have HB' := Lib.hid (show Below w.heap.size w (((w.alloc (.cells #[.int .i64 a.c, .int .i64 a.d, .int .i64 a.r] 23)).alloc (.cells #[.int .i64 b.c, .int .i64 b.d, .int .i64 b.r] 23)).alloc (.cells #[.int .i64 c.c, .int .i64 c.d, .int .i64 c.r] 23)) from ((Reg.below_new _ _).alloc (by simp) _).alloc (by simp; omega) _)
  go_enter Try.func5, Try.ntmps5
  go_wp2_with fail
  refine Reg.wp_region_rel (by kernel_rfl) 45 22 rfl rfl (by kernel_rfl) (Reg.Adds) (Reg.Adds.refl) (Reg.Adds.trans)
    (fun i v u => match i with
      | 0 => v = .bool true
      | 1 => v = .bool false
      | 2 => v = .bool false
      | 3 => v = .agg #[.int .i64 a.c, .int .i64 a.d, .int .i64 a.r]
      | 4 => v = .agg #[.int .i64 b.c, .int .i64 b.d, .int .i64 b.r]
      | 5 => v = .int .i64 (Stamp.cmpS a b)
      | 6 => v = .agg #[.int .i64 b.c, .int .i64 b.d, .int .i64 b.r]
      | 7 => v = .agg #[.int .i64 a.c, .int .i64 a.d, .int .i64 a.r]
      | 8 => v = .int .i64 (Stamp.cmpS b a)
      | 9 => v = .int .i64 (-(Stamp.cmpS b a))
      | 10 => v = .bool false
      | 11 => v = .bool false
      | 12 => v = .bool false
      | 13 => v = .agg #[.int .i64 a.c, .int .i64 a.d, .int .i64 a.r]
      | 14 => v = .agg #[.int .i64 b.c, .int .i64 b.d, .int .i64 b.r]
      | 15 => v = .int .i64 (Stamp.cmpS a b)
      | 16 => v = .bool (Stamp.same a b)
      | 17 => v = .agg #[.int .i64 a.c, .int .i64 a.d, .int .i64 a.r]
      | 18 => v = .agg #[.int .i64 b.c, .int .i64 b.d, .int .i64 b.r]
      | 19 => v = .bool (Stamp.same a b)
      | 20 => v = .bool false
      | 21 => v = .bool false
      | _ => True) ?_ ?_
  · refine Reg.Steps.cons ?_ (Reg.Steps.cons ?_ (Reg.Steps.cons ?_ (Reg.Steps.cons ?_ (Reg.Steps.cons ?_ (Reg.Steps.cons ?_ (Reg.Steps.cons ?_ (Reg.Steps.cons ?_ (Reg.Steps.cons ?_ (Reg.Steps.cons ?_ (Reg.Steps.cons ?_ (Reg.Steps.cons ?_ (Reg.Steps.cons ?_ (Reg.Steps.cons ?_ (Reg.Steps.cons ?_ (Reg.Steps.cons ?_ (Reg.Steps.cons ?_ (Reg.Steps.cons ?_ (Reg.Steps.cons ?_ (Reg.Steps.cons ?_ (Reg.Steps.cons ?_ (Reg.Steps.cons ?_ (Reg.Steps.nil _))))))))))))))))))))))
    · intro val ac u hR hp ha K hK      -- 0: t7 := Op.call { value (Operand.func 9), args := #[], argTypes := #[] }
      clear ha hp
      refine Reg.Op1.plain rfl ?_
      go_wp2_with fail
      refine (stampAble_any _).mono ?_
      rintro e w' ⟨rfl, hb'⟩
      go_wp2_with fail
      exact ⟨rfl, hK _ _ rfl (fun j k _ _ => hb')⟩
    · intro val ac u hR hp ha K hK      -- 1: t8 := Op.unOp UnOp.not 4 t7
      obtain ⟨w7, h7, r7⟩ := hp 0 (by decide)
      have e7 : (ac.tmps[7]?).getD undef = .bool true := (ha 7 (by decide)).trans h7
      clear h7
      clear ha hp
      refine Reg.Op1.plain rfl ?_
      go_wp2
      exact ⟨rfl, hK _ _ rfl (fun j k _ _ => Reg.Adds.refl _ _ _)⟩
    · intro val ac u hR hp ha K hK      -- 2: t9 := Op.move t8
      obtain ⟨w8, h8, r8⟩ := hp 1 (by decide)
      have e8 : (ac.tmps[8]?).getD undef = .bool false := (ha 8 (by decide)).trans h8
      clear h8
      clear ha hp
      refine Reg.Op1.plain rfl ?_
      go_wp2
      exact ⟨rfl, hK _ _ rfl (fun j k _ _ => Reg.Adds.refl _ _ _)⟩
    · intro val ac u hR hp ha K hK      -- 3: t10 := Op.load 23 t3
      have e3 : (ac.tmps[3]?).getD undef = .pointer (some ⟨w.heap.size, 0, none⟩) := ha 3 (by decide)
      obtain ⟨w9, h9, r9⟩ := hp 2 (by decide)
      have e9 : (ac.tmps[9]?).getD undef = .bool false := (ha 9 (by decide)).trans h9
      clear h9
      clear ha hp
      have hc0 : u.cell? ⟨w.heap.size, 0, none⟩ = some (.int .i64 a.c) := (hR.cell (p := ⟨w.heap.size, 0, none⟩) (by simp; try omega)).trans (by show World.cell? _ _ = _; first | (simp; done) | (refine Reg.cell_up ?_ _; simp; done) | (refine Reg.cell_up (Reg.cell_up ?_ _) _; simp; done) | (refine Reg.cell_up (Reg.cell_up (Reg.cell_up ?_ _) _) _; simp; done))
      have hc1 : u.cell? ⟨w.heap.size, 1, none⟩ = some (.int .i64 a.d) := (hR.cell (p := ⟨w.heap.size, 1, none⟩) (by simp; try omega)).trans (by show World.cell? _ _ = _; first | (simp; done) | (refine Reg.cell_up ?_ _; simp; done) | (refine Reg.cell_up (Reg.cell_up ?_ _) _; simp; done) | (refine Reg.cell_up (Reg.cell_up (Reg.cell_up ?_ _) _) _; simp; done))
      have hc2 : u.cell? ⟨w.heap.size, 2, none⟩ = some (.int .i64 a.r) := (hR.cell (p := ⟨w.heap.size, 2, none⟩) (by simp; try omega)).trans (by show World.cell? _ _ = _; first | (simp; done) | (refine Reg.cell_up ?_ _; simp; done) | (refine Reg.cell_up (Reg.cell_up ?_ _) _; simp; done) | (refine Reg.cell_up (Reg.cell_up (Reg.cell_up ?_ _) _) _; simp; done))
      refine Reg.Op1.guarded rfl rfl e9 (fun _ => Reg.Op1.plain rfl ?_) (fun h => absurd rfl h)
      go_wp2
      exact ⟨rfl, hK _ _ rfl (fun j k _ _ => Reg.Adds.refl _ _ _)⟩
    · intro val ac u hR hp ha K hK      -- 4: t11 := Op.load 23 t4
      have e4 : (ac.tmps[4]?).getD undef = .pointer (some ⟨w.heap.size + 1, 0, none⟩) := ha 4 (by decide)
      obtain ⟨w9, h9, r9⟩ := hp 2 (by decide)
      have e9 : (ac.tmps[9]?).getD undef = .bool false := (ha 9 (by decide)).trans h9
      clear h9
      clear ha hp
      have hc0 : u.cell? ⟨w.heap.size + 1, 0, none⟩ = some (.int .i64 b.c) := (hR.cell (p := ⟨w.heap.size + 1, 0, none⟩) (by simp; try omega)).trans (by show World.cell? _ _ = _; first | (simp; done) | (refine Reg.cell_up ?_ _; simp; done) | (refine Reg.cell_up (Reg.cell_up ?_ _) _; simp; done) | (refine Reg.cell_up (Reg.cell_up (Reg.cell_up ?_ _) _) _; simp; done))
      have hc1 : u.cell? ⟨w.heap.size + 1, 1, none⟩ = some (.int .i64 b.d) := (hR.cell (p := ⟨w.heap.size + 1, 1, none⟩) (by simp; try omega)).trans (by show World.cell? _ _ = _; first | (simp; done) | (refine Reg.cell_up ?_ _; simp; done) | (refine Reg.cell_up (Reg.cell_up ?_ _) _; simp; done) | (refine Reg.cell_up (Reg.cell_up (Reg.cell_up ?_ _) _) _; simp; done))
      have hc2 : u.cell? ⟨w.heap.size + 1, 2, none⟩ = some (.int .i64 b.r) := (hR.cell (p := ⟨w.heap.size + 1, 2, none⟩) (by simp; try omega)).trans (by show World.cell? _ _ = _; first | (simp; done) | (refine Reg.cell_up ?_ _; simp; done) | (refine Reg.cell_up (Reg.cell_up ?_ _) _; simp; done) | (refine Reg.cell_up (Reg.cell_up (Reg.cell_up ?_ _) _) _; simp; done))
      refine Reg.Op1.guarded rfl rfl e9 (fun _ => Reg.Op1.plain rfl ?_) (fun h => absurd rfl h)
      go_wp2
      exact ⟨rfl, hK _ _ rfl (fun j k _ _ => Reg.Adds.refl _ _ _)⟩
    · intro val ac u hR hp ha K hK      -- 5: t12 := Op.call { value (Operand.func 12), args := #[t10, t11], argTypes := #[23, 23] }
      obtain ⟨w10, h10, r10⟩ := hp 3 (by decide)
      have e10 : (ac.tmps[10]?).getD undef = .agg #[.int .i64 a.c, .int .i64 a.d, .int .i64 a.r] := (ha 10 (by decide)).trans h10
      clear h10
      obtain ⟨w11, h11, r11⟩ := hp 4 (by decide)
      have e11 : (ac.tmps[11]?).getD undef = .agg #[.int .i64 b.c, .int .i64 b.d, .int .i64 b.r] := (ha 11 (by decide)).trans h11
      clear h11
      obtain ⟨w9, h9, r9⟩ := hp 2 (by decide)
      have e9 : (ac.tmps[9]?).getD undef = .bool false := (ha 9 (by decide)).trans h9
      clear h9
      clear ha hp
      refine Reg.Op1.guarded rfl rfl e9 (fun _ => Reg.Op1.plain rfl ?_) (fun h => absurd rfl h)
      go_wp2_with fail
      refine (cmp_any a b _).mono ?_
      rintro e w' ⟨rfl, hb'⟩
      go_wp2_with fail
      exact ⟨rfl, hK _ _ rfl (fun j k _ _ => hb')⟩
    · intro val ac u hR hp ha K hK      -- 6: t13 := Op.load 23 t4
      have e4 : (ac.tmps[4]?).getD undef = .pointer (some ⟨w.heap.size + 1, 0, none⟩) := ha 4 (by decide)
      obtain ⟨w9, h9, r9⟩ := hp 2 (by decide)
      have e9 : (ac.tmps[9]?).getD undef = .bool false := (ha 9 (by decide)).trans h9
      clear h9
      clear ha hp
      have hc0 : u.cell? ⟨w.heap.size + 1, 0, none⟩ = some (.int .i64 b.c) := (hR.cell (p := ⟨w.heap.size + 1, 0, none⟩) (by simp; try omega)).trans (by show World.cell? _ _ = _; first | (simp; done) | (refine Reg.cell_up ?_ _; simp; done) | (refine Reg.cell_up (Reg.cell_up ?_ _) _; simp; done) | (refine Reg.cell_up (Reg.cell_up (Reg.cell_up ?_ _) _) _; simp; done))
      have hc1 : u.cell? ⟨w.heap.size + 1, 1, none⟩ = some (.int .i64 b.d) := (hR.cell (p := ⟨w.heap.size + 1, 1, none⟩) (by simp; try omega)).trans (by show World.cell? _ _ = _; first | (simp; done) | (refine Reg.cell_up ?_ _; simp; done) | (refine Reg.cell_up (Reg.cell_up ?_ _) _; simp; done) | (refine Reg.cell_up (Reg.cell_up (Reg.cell_up ?_ _) _) _; simp; done))
      have hc2 : u.cell? ⟨w.heap.size + 1, 2, none⟩ = some (.int .i64 b.r) := (hR.cell (p := ⟨w.heap.size + 1, 2, none⟩) (by simp; try omega)).trans (by show World.cell? _ _ = _; first | (simp; done) | (refine Reg.cell_up ?_ _; simp; done) | (refine Reg.cell_up (Reg.cell_up ?_ _) _; simp; done) | (refine Reg.cell_up (Reg.cell_up (Reg.cell_up ?_ _) _) _; simp; done))
      refine Reg.Op1.guarded rfl rfl e9 (fun _ => Reg.Op1.plain rfl ?_) (fun h => absurd rfl h)
      go_wp2
      exact ⟨rfl, hK _ _ rfl (fun j k _ _ => Reg.Adds.refl _ _ _)⟩
    · intro val ac u hR hp ha K hK      -- 7: t14 := Op.load 23 t3
      have e3 : (ac.tmps[3]?).getD undef = .pointer (some ⟨w.heap.size, 0, none⟩) := ha 3 (by decide)
      obtain ⟨w9, h9, r9⟩ := hp 2 (by decide)
      have e9 : (ac.tmps[9]?).getD undef = .bool false := (ha 9 (by decide)).trans h9
      clear h9
      clear ha hp
      have hc0 : u.cell? ⟨w.heap.size, 0, none⟩ = some (.int .i64 a.c) := (hR.cell (p := ⟨w.heap.size, 0, none⟩) (by simp; try omega)).trans (by show World.cell? _ _ = _; first | (simp; done) | (refine Reg.cell_up ?_ _; simp; done) | (refine Reg.cell_up (Reg.cell_up ?_ _) _; simp; done) | (refine Reg.cell_up (Reg.cell_up (Reg.cell_up ?_ _) _) _; simp; done))
      have hc1 : u.cell? ⟨w.heap.size, 1, none⟩ = some (.int .i64 a.d) := (hR.cell (p := ⟨w.heap.size, 1, none⟩) (by simp; try omega)).trans (by show World.cell? _ _ = _; first | (simp; done) | (refine Reg.cell_up ?_ _; simp; done) | (refine Reg.cell_up (Reg.cell_up ?_ _) _; simp; done) | (refine Reg.cell_up (Reg.cell_up (Reg.cell_up ?_ _) _) _; simp; done))
      have hc2 : u.cell? ⟨w.heap.size, 2, none⟩ = some (.int .i64 a.r) := (hR.cell (p := ⟨w.heap.size, 2, none⟩) (by simp; try omega)).trans (by show World.cell? _ _ = _; first | (simp; done) | (refine Reg.cell_up ?_ _; simp; done) | (refine Reg.cell_up (Reg.cell_up ?_ _) _; simp; done) | (refine Reg.cell_up (Reg.cell_up (Reg.cell_up ?_ _) _) _; simp; done))
      refine Reg.Op1.guarded rfl rfl e9 (fun _ => Reg.Op1.plain rfl ?_) (fun h => absurd rfl h)
      go_wp2
      exact ⟨rfl, hK _ _ rfl (fun j k _ _ => Reg.Adds.refl _ _ _)⟩
    · intro val ac u hR hp ha K hK      -- 8: t15 := Op.call { value (Operand.func 12), args := #[t13, t14], argTypes := #[23, 23] }
      obtain ⟨w13, h13, r13⟩ := hp 6 (by decide)
      have e13 : (ac.tmps[13]?).getD undef = .agg #[.int .i64 b.c, .int .i64 b.d, .int .i64 b.r] := (ha 13 (by decide)).trans h13
      clear h13
      obtain ⟨w14, h14, r14⟩ := hp 7 (by decide)
      have e14 : (ac.tmps[14]?).getD undef = .agg #[.int .i64 a.c, .int .i64 a.d, .int .i64 a.r] := (ha 14 (by decide)).trans h14
      clear h14
      obtain ⟨w9, h9, r9⟩ := hp 2 (by decide)
      have e9 : (ac.tmps[9]?).getD undef = .bool false := (ha 9 (by decide)).trans h9
      clear h9
      clear ha hp
      refine Reg.Op1.guarded rfl rfl e9 (fun _ => Reg.Op1.plain rfl ?_) (fun h => absurd rfl h)
      go_wp2_with fail
      refine (cmp_any b a _).mono ?_
      rintro e w' ⟨rfl, hb'⟩
      go_wp2_with fail
      exact ⟨rfl, hK _ _ rfl (fun j k _ _ => hb')⟩
    · intro val ac u hR hp ha K hK      -- 9: t16 := Op.unOp UnOp.neg 3 t15
      obtain ⟨w15, h15, r15⟩ := hp 8 (by decide)
      have e15 : (ac.tmps[15]?).getD undef = .int .i64 (Stamp.cmpS b a) := (ha 15 (by decide)).trans h15
      clear h15
      obtain ⟨w9, h9, r9⟩ := hp 2 (by decide)
      have e9 : (ac.tmps[9]?).getD undef = .bool false := (ha 9 (by decide)).trans h9
      clear h9
      clear ha hp
      have f1 := Stamp.cmpS_lo b a
      have f2 := Stamp.cmpS_hi b a
      refine Reg.Op1.guarded rfl rfl e9 (fun _ => Reg.Op1.plain rfl ?_) (fun h => absurd rfl h)
      go_wp2
      exact ⟨rfl, hK _ _ rfl (fun j k _ _ => Reg.Adds.refl _ _ _)⟩
    · intro val ac u hR hp ha K hK      -- 10: t17 := Op.binOp BinOp.neq 3 t12 t16 3
      obtain ⟨w12, h12, r12⟩ := hp 5 (by decide)
      have e12 : (ac.tmps[12]?).getD undef = .int .i64 (Stamp.cmpS a b) := (ha 12 (by decide)).trans h12
      clear h12
      obtain ⟨w16, h16, r16⟩ := hp 9 (by decide)
      have e16 : (ac.tmps[16]?).getD undef = .int .i64 (-(Stamp.cmpS b a)) := (ha 16 (by decide)).trans h16
      clear h16
      obtain ⟨w9, h9, r9⟩ := hp 2 (by decide)
      have e9 : (ac.tmps[9]?).getD undef = .bool false := (ha 9 (by decide)).trans h9
      clear h9
      clear ha hp
      have f1 : (Stamp.cmpS a b != -(Stamp.cmpS b a)) = false := by rw [Stamp.cmpS_anti a b]; simp
      refine Reg.Op1.guarded rfl rfl e9 (fun _ => Reg.Op1.plain rfl ?_) (fun h => absurd rfl h)
      go_wp2
      exact ⟨rfl, hK _ _ rfl (fun j k _ _ => Reg.Adds.refl _ _ _)⟩
    · intro val ac u hR hp ha K hK      -- 11: t18 := Op.pick t9 (const (Value.bool true)) t17
      obtain ⟨w9, h9, r9⟩ := hp 2 (by decide)
      have e9 : (ac.tmps[9]?).getD undef = .bool false := (ha 9 (by decide)).trans h9
      clear h9
      obtain ⟨w17, h17, r17⟩ := hp 10 (by decide)
      have e17 : (ac.tmps[17]?).getD undef = .bool false := (ha 17 (by decide)).trans h17
      clear h17
      clear ha hp
      refine Reg.Op1.plain rfl ?_
      go_wp2
      exact ⟨rfl, hK _ _ rfl (fun j k _ _ => Reg.Adds.refl _ _ _)⟩
    · intro val ac u hR hp ha K hK      -- 12: t19 := Op.move t18
      obtain ⟨w18, h18, r18⟩ := hp 11 (by decide)
      have e18 : (ac.tmps[18]?).getD undef = .bool false := (ha 18 (by decide)).trans h18
      clear h18
      clear ha hp
      refine Reg.Op1.plain rfl ?_
      go_wp2
      exact ⟨rfl, hK _ _ rfl (fun j k _ _ => Reg.Adds.refl _ _ _)⟩
    · intro val ac u hR hp ha K hK      -- 13: t20 := Op.load 23 t3
      have e3 : (ac.tmps[3]?).getD undef = .pointer (some ⟨w.heap.size, 0, none⟩) := ha 3 (by decide)
      obtain ⟨w19, h19, r19⟩ := hp 12 (by decide)
      have e19 : (ac.tmps[19]?).getD undef = .bool false := (ha 19 (by decide)).trans h19
      clear h19
      clear ha hp
      have hc0 : u.cell? ⟨w.heap.size, 0, none⟩ = some (.int .i64 a.c) := (hR.cell (p := ⟨w.heap.size, 0, none⟩) (by simp; try omega)).trans (by show World.cell? _ _ = _; first | (simp; done) | (refine Reg.cell_up ?_ _; simp; done) | (refine Reg.cell_up (Reg.cell_up ?_ _) _; simp; done) | (refine Reg.cell_up (Reg.cell_up (Reg.cell_up ?_ _) _) _; simp; done))
      have hc1 : u.cell? ⟨w.heap.size, 1, none⟩ = some (.int .i64 a.d) := (hR.cell (p := ⟨w.heap.size, 1, none⟩) (by simp; try omega)).trans (by show World.cell? _ _ = _; first | (simp; done) | (refine Reg.cell_up ?_ _; simp; done) | (refine Reg.cell_up (Reg.cell_up ?_ _) _; simp; done) | (refine Reg.cell_up (Reg.cell_up (Reg.cell_up ?_ _) _) _; simp; done))
      have hc2 : u.cell? ⟨w.heap.size, 2, none⟩ = some (.int .i64 a.r) := (hR.cell (p := ⟨w.heap.size, 2, none⟩) (by simp; try omega)).trans (by show World.cell? _ _ = _; first | (simp; done) | (refine Reg.cell_up ?_ _; simp; done) | (refine Reg.cell_up (Reg.cell_up ?_ _) _; simp; done) | (refine Reg.cell_up (Reg.cell_up (Reg.cell_up ?_ _) _) _; simp; done))
      refine Reg.Op1.guarded rfl rfl e19 (fun _ => Reg.Op1.plain rfl ?_) (fun h => absurd rfl h)
      go_wp2
      exact ⟨rfl, hK _ _ rfl (fun j k _ _ => Reg.Adds.refl _ _ _)⟩
    · intro val ac u hR hp ha K hK      -- 14: t21 := Op.load 23 t4
      have e4 : (ac.tmps[4]?).getD undef = .pointer (some ⟨w.heap.size + 1, 0, none⟩) := ha 4 (by decide)
      obtain ⟨w19, h19, r19⟩ := hp 12 (by decide)
      have e19 : (ac.tmps[19]?).getD undef = .bool false := (ha 19 (by decide)).trans h19
      clear h19
      clear ha hp
      have hc0 : u.cell? ⟨w.heap.size + 1, 0, none⟩ = some (.int .i64 b.c) := (hR.cell (p := ⟨w.heap.size + 1, 0, none⟩) (by simp; try omega)).trans (by show World.cell? _ _ = _; first | (simp; done) | (refine Reg.cell_up ?_ _; simp; done) | (refine Reg.cell_up (Reg.cell_up ?_ _) _; simp; done) | (refine Reg.cell_up (Reg.cell_up (Reg.cell_up ?_ _) _) _; simp; done))
      have hc1 : u.cell? ⟨w.heap.size + 1, 1, none⟩ = some (.int .i64 b.d) := (hR.cell (p := ⟨w.heap.size + 1, 1, none⟩) (by simp; try omega)).trans (by show World.cell? _ _ = _; first | (simp; done) | (refine Reg.cell_up ?_ _; simp; done) | (refine Reg.cell_up (Reg.cell_up ?_ _) _; simp; done) | (refine Reg.cell_up (Reg.cell_up (Reg.cell_up ?_ _) _) _; simp; done))
      have hc2 : u.cell? ⟨w.heap.size + 1, 2, none⟩ = some (.int .i64 b.r) := (hR.cell (p := ⟨w.heap.size + 1, 2, none⟩) (by simp; try omega)).trans (by show World.cell? _ _ = _; first | (simp; done) | (refine Reg.cell_up ?_ _; simp; done) | (refine Reg.cell_up (Reg.cell_up ?_ _) _; simp; done) | (refine Reg.cell_up (Reg.cell_up (Reg.cell_up ?_ _) _) _; simp; done))
      refine Reg.Op1.guarded rfl rfl e19 (fun _ => Reg.Op1.plain rfl ?_) (fun h => absurd rfl h)
      go_wp2
      exact ⟨rfl, hK _ _ rfl (fun j k _ _ => Reg.Adds.refl _ _ _)⟩
    · intro val ac u hR hp ha K hK      -- 15: t22 := Op.call { value (Operand.func 12), args := #[t20, t21], argTypes := #[23, 23] }
      obtain ⟨w20, h20, r20⟩ := hp 13 (by decide)
      have e20 : (ac.tmps[20]?).getD undef = .agg #[.int .i64 a.c, .int .i64 a.d, .int .i64 a.r] := (ha 20 (by decide)).trans h20
      clear h20
      obtain ⟨w21, h21, r21⟩ := hp 14 (by decide)
      have e21 : (ac.tmps[21]?).getD undef = .agg #[.int .i64 b.c, .int .i64 b.d, .int .i64 b.r] := (ha 21 (by decide)).trans h21
      clear h21
      obtain ⟨w19, h19, r19⟩ := hp 12 (by decide)
      have e19 : (ac.tmps[19]?).getD undef = .bool false := (ha 19 (by decide)).trans h19
      clear h19
      clear ha hp
      refine Reg.Op1.guarded rfl rfl e19 (fun _ => Reg.Op1.plain rfl ?_) (fun h => absurd rfl h)
      go_wp2_with fail
      refine (cmp_any a b _).mono ?_
      rintro e w' ⟨rfl, hb'⟩
      go_wp2_with fail
      exact ⟨rfl, hK _ _ rfl (fun j k _ _ => hb')⟩
    · intro val ac u hR hp ha K hK      -- 16: t23 := Op.binOp BinOp.eql 3 t22 (const (0:i64)) 3
      obtain ⟨w22, h22, r22⟩ := hp 15 (by decide)
      have e22 : (ac.tmps[22]?).getD undef = .int .i64 (Stamp.cmpS a b) := (ha 22 (by decide)).trans h22
      clear h22
      obtain ⟨w19, h19, r19⟩ := hp 12 (by decide)
      have e19 : (ac.tmps[19]?).getD undef = .bool false := (ha 19 (by decide)).trans h19
      clear h19
      clear ha hp
      refine Reg.Op1.guarded rfl rfl e19 (fun _ => Reg.Op1.plain rfl ?_) (fun h => absurd rfl h)
      have f1 : (Stamp.cmpS a b == 0) = Stamp.same a b := by unfold Stamp.same; rw [Bool.eq_iff_iff]; simp [Stamp.cmpS_eq]
      go_wp2
      exact ⟨rfl, hK _ _ rfl (fun j k _ _ => Reg.Adds.refl _ _ _)⟩
    · intro val ac u hR hp ha K hK      -- 17: t24 := Op.load 23 t3
      have e3 : (ac.tmps[3]?).getD undef = .pointer (some ⟨w.heap.size, 0, none⟩) := ha 3 (by decide)
      obtain ⟨w19, h19, r19⟩ := hp 12 (by decide)
      have e19 : (ac.tmps[19]?).getD undef = .bool false := (ha 19 (by decide)).trans h19
      clear h19
      clear ha hp
      have hc0 : u.cell? ⟨w.heap.size, 0, none⟩ = some (.int .i64 a.c) := (hR.cell (p := ⟨w.heap.size, 0, none⟩) (by simp; try omega)).trans (by show World.cell? _ _ = _; first | (simp; done) | (refine Reg.cell_up ?_ _; simp; done) | (refine Reg.cell_up (Reg.cell_up ?_ _) _; simp; done) | (refine Reg.cell_up (Reg.cell_up (Reg.cell_up ?_ _) _) _; simp; done))
      have hc1 : u.cell? ⟨w.heap.size, 1, none⟩ = some (.int .i64 a.d) := (hR.cell (p := ⟨w.heap.size, 1, none⟩) (by simp; try omega)).trans (by show World.cell? _ _ = _; first | (simp; done) | (refine Reg.cell_up ?_ _; simp; done) | (refine Reg.cell_up (Reg.cell_up ?_ _) _; simp; done) | (refine Reg.cell_up (Reg.cell_up (Reg.cell_up ?_ _) _) _; simp; done))
      have hc2 : u.cell? ⟨w.heap.size, 2, none⟩ = some (.int .i64 a.r) := (hR.cell (p := ⟨w.heap.size, 2, none⟩) (by simp; try omega)).trans (by show World.cell? _ _ = _; first | (simp; done) | (refine Reg.cell_up ?_ _; simp; done) | (refine Reg.cell_up (Reg.cell_up ?_ _) _; simp; done) | (refine Reg.cell_up (Reg.cell_up (Reg.cell_up ?_ _) _) _; simp; done))
      refine Reg.Op1.guarded rfl rfl e19 (fun _ => Reg.Op1.plain rfl ?_) (fun h => absurd rfl h)
      go_wp2
      exact ⟨rfl, hK _ _ rfl (fun j k _ _ => Reg.Adds.refl _ _ _)⟩
    · intro val ac u hR hp ha K hK      -- 18: t25 := Op.load 23 t4
      have e4 : (ac.tmps[4]?).getD undef = .pointer (some ⟨w.heap.size + 1, 0, none⟩) := ha 4 (by decide)
      obtain ⟨w19, h19, r19⟩ := hp 12 (by decide)
      have e19 : (ac.tmps[19]?).getD undef = .bool false := (ha 19 (by decide)).trans h19
      clear h19
      clear ha hp
      have hc0 : u.cell? ⟨w.heap.size + 1, 0, none⟩ = some (.int .i64 b.c) := (hR.cell (p := ⟨w.heap.size + 1, 0, none⟩) (by simp; try omega)).trans (by show World.cell? _ _ = _; first | (simp; done) | (refine Reg.cell_up ?_ _; simp; done) | (refine Reg.cell_up (Reg.cell_up ?_ _) _; simp; done) | (refine Reg.cell_up (Reg.cell_up (Reg.cell_up ?_ _) _) _; simp; done))
      have hc1 : u.cell? ⟨w.heap.size + 1, 1, none⟩ = some (.int .i64 b.d) := (hR.cell (p := ⟨w.heap.size + 1, 1, none⟩) (by simp; try omega)).trans (by show World.cell? _ _ = _; first | (simp; done) | (refine Reg.cell_up ?_ _; simp; done) | (refine Reg.cell_up (Reg.cell_up ?_ _) _; simp; done) | (refine Reg.cell_up (Reg.cell_up (Reg.cell_up ?_ _) _) _; simp; done))
      have hc2 : u.cell? ⟨w.heap.size + 1, 2, none⟩ = some (.int .i64 b.r) := (hR.cell (p := ⟨w.heap.size + 1, 2, none⟩) (by simp; try omega)).trans (by show World.cell? _ _ = _; first | (simp; done) | (refine Reg.cell_up ?_ _; simp; done) | (refine Reg.cell_up (Reg.cell_up ?_ _) _; simp; done) | (refine Reg.cell_up (Reg.cell_up (Reg.cell_up ?_ _) _) _; simp; done))
      refine Reg.Op1.guarded rfl rfl e19 (fun _ => Reg.Op1.plain rfl ?_) (fun h => absurd rfl h)
      go_wp2
      exact ⟨rfl, hK _ _ rfl (fun j k _ _ => Reg.Adds.refl _ _ _)⟩
    · intro val ac u hR hp ha K hK      -- 19: t26 := Op.binOp BinOp.eql 23 t24 t25 23
      obtain ⟨w24, h24, r24⟩ := hp 17 (by decide)
      have e24 : (ac.tmps[24]?).getD undef = .agg #[.int .i64 a.c, .int .i64 a.d, .int .i64 a.r] := (ha 24 (by decide)).trans h24
      clear h24
      obtain ⟨w25, h25, r25⟩ := hp 18 (by decide)
      have e25 : (ac.tmps[25]?).getD undef = .agg #[.int .i64 b.c, .int .i64 b.d, .int .i64 b.r] := (ha 25 (by decide)).trans h25
      clear h25
      obtain ⟨w19, h19, r19⟩ := hp 12 (by decide)
      have e19 : (ac.tmps[19]?).getD undef = .bool false := (ha 19 (by decide)).trans h19
      clear h19
      clear ha hp
      refine Reg.Op1.guarded rfl rfl e19 (fun _ => Reg.Op1.plain rfl ?_) (fun h => absurd rfl h)
      have hse := fun W => eql_stamp a b W
      go_wp2
      exact ⟨rfl, hK _ _ rfl (fun j k _ _ => Reg.Adds.refl _ _ _)⟩
    · intro val ac u hR hp ha K hK      -- 20: t27 := Op.binOp BinOp.neq 4 t23 t26 4
      obtain ⟨w23, h23, r23⟩ := hp 16 (by decide)
      have e23 : (ac.tmps[23]?).getD undef = .bool (Stamp.same a b) := (ha 23 (by decide)).trans h23
      clear h23
      obtain ⟨w26, h26, r26⟩ := hp 19 (by decide)
      have e26 : (ac.tmps[26]?).getD undef = .bool (Stamp.same a b) := (ha 26 (by decide)).trans h26
      clear h26
      obtain ⟨w19, h19, r19⟩ := hp 12 (by decide)
      have e19 : (ac.tmps[19]?).getD undef = .bool false := (ha 19 (by decide)).trans h19
      clear h19
      clear ha hp
      refine Reg.Op1.guarded rfl rfl e19 (fun _ => Reg.Op1.plain rfl ?_) (fun h => absurd rfl h)
      go_wp2
      exact ⟨rfl, hK _ _ rfl (fun j k _ _ => Reg.Adds.refl _ _ _)⟩
    · intro val ac u hR hp ha K hK      -- 21: t28 := Op.pick t19 (const (Value.bool true)) t27
      obtain ⟨w19, h19, r19⟩ := hp 12 (by decide)
      have e19 : (ac.tmps[19]?).getD undef = .bool false := (ha 19 (by decide)).trans h19
      clear h19
      obtain ⟨w27, h27, r27⟩ := hp 20 (by decide)
      have e27 : (ac.tmps[27]?).getD undef = .bool false := (ha 27 (by decide)).trans h27
      clear h27
      clear ha hp
      refine Reg.Op1.plain rfl ?_
      go_wp2
      exact ⟨rfl, hK _ _ rfl (fun j k _ _ => Reg.Adds.refl _ _ _)⟩
  · intro val u hR H
    obtain ⟨w21, hv, hr⟩ := H 21 (by decide)
    have hv : val 21 = .bool false := hv
    simp only [List.map_cons, List.map_nil, Reg.lay, Act.put, List.setIfInBounds_toArray, List.set_cons_succ, List.set_cons_zero, Nat.reduceAdd, hv]
    have HB2 := Lib.hid (HB'.out.drew.trans (Below.mono hR (by simp; omega)))
    have hca : ∀ o, u.cell? ⟨w.heap.size, o, none⟩ = #[Value.int .i64 a.c, .int .i64 a.d, .int .i64 a.r][o]? := fun o => (hR.cell (p := ⟨w.heap.size, o, none⟩) (by simp; try omega)).trans (box3 w _ _ _ _ o).1
    have hcb : ∀ o, u.cell? ⟨w.heap.size + 1, o, none⟩ = #[Value.int .i64 b.c, .int .i64 b.d, .int .i64 b.r][o]? := fun o => (hR.cell (p := ⟨w.heap.size + 1, o, none⟩) (by simp; try omega)).trans (box3 w _ _ _ _ o).2.1
    have hcc : ∀ o, u.cell? ⟨w.heap.size + 1 + 1, o, none⟩ = #[Value.int .i64 c.c, .int .i64 c.d, .int .i64 c.r][o]? := fun o => (hR.cell (p := ⟨w.heap.size + 1 + 1, o, none⟩) (by simp)).trans (box3 w _ _ _ _ o).2.2
    have hsz : w.heap.size + 1 + 1 < u.heap.size := by have := hR.size; simp at this; omega
    have hsz1 : w.heap.size + 1 < u.heap.size := by omega
    have hsz2 : w.heap.size < u.heap.size := by omega
    clear hv hr H hR
    have l1 := Stamp.cmpS_hi a b
    by_cases h1 : 0 < Stamp.cmpS a b
    · go_wp2_with fail
      refine (cmp_any a b _).mono ?_
      rintro e w' ⟨rfl, hb'⟩
      go_wp2_with fail
      go_ret
      exact ⟨rfl, HB2.out.trans (hb'.mono HB2.out.size)⟩
    · by_cases h2 : 0 < Stamp.cmpS b c
      · go_wp2_with fail
        refine (cmp_any a b _).mono ?_
        rintro e w' ⟨rfl, hb'⟩
        obtain ⟨hc1, hf1⟩ := Mem.bcell hb'
        go_wp2_with fail
        refine (cmp_any b c _).mono ?_
        rintro e w2 ⟨rfl, hb2⟩
        go_wp2_with fail
        go_ret
        exact ⟨rfl, (HB2.out.trans (hb'.mono HB2.out.size)).trans (hb2.mono (Nat.le_trans HB2.out.size hb'.size))⟩
      · have hle := Stamp.le_trans (Int.not_lt.1 h1) (Int.not_lt.1 h2)
        go_wp2_with fail
        refine (cmp_any a b _).mono ?_
        rintro e w' ⟨rfl, hb'⟩
        obtain ⟨hc1, hf1⟩ := Mem.bcell hb'
        go_wp2_with fail
        refine (cmp_any b c _).mono ?_
        rintro e w2 ⟨rfl, hb2⟩
        have hb3 := hb'.trans (hb2.mono hb'.size)
        clear hc1 hf1
        obtain ⟨hc1, hf1⟩ := Mem.bcell hb3
        go_wp2_with fail
        refine (cmp_any a c _).mono ?_
        rintro e w3 ⟨rfl, hb4⟩
        go_wp2_with fail
        go_ret
        exact ⟨rfl, (HB2.out.trans (hb3.mono HB2.out.size)).trans (hb4.mono (Nat.le_trans HB2.out.size hb3.size))⟩
theorem opened {H : Type} (enc : TypeId × Value → H) (W : World) (base : Nat) (v0 v1 v2 : Value) {d0 d1 d2 : DataW H} {p0 p1 p2 : List MemPlace}
    (o0 : Value.okWide Try.prog W .any base 23 v0) (o1 : Value.okWide Try.prog W .any base 23 v1) (o2 : Value.okWide Try.prog W .any base 23 v2)
    (k0 : DataW.Trod enc Try.prog W 0 (fun _ => true) true 23 v0 d0 p0) (k1 : DataW.Trod enc Try.prog W 0 (fun _ => true) true 23 v1 d1 p1) (k2 : DataW.Trod enc Try.prog W 0 (fun _ => true) true 23 v2 d2 p2) :
    Calls Try.prog 5 #[v0, v1, v2] W fun e w' => e = .returned (.bool true) ∧ Below W.heap.size W w' := by
  obtain ⟨a, rfl, _⟩ := open_stamp o0 k0
  obtain ⟨b, rfl, _⟩ := open_stamp o1 k1
  obtain ⟨c, rfl, _⟩ := open_stamp o2 k2
  exact walk a b c W
end stampOrderOpen
end Go.Proofs.Ythoklehmbkjkbaa
