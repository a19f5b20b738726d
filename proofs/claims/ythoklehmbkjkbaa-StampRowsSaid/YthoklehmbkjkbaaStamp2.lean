/- The walks of the statements on stamps, first part: the check ahead, StampTells, StampOrder, StampNext. No conditions. -/
import Derived.Test.YthoklehmbkjkbaaStamp1
import Derived.ProofKit
import Derived.OpenShut
import Derived.Lib.SmallJoins
namespace Go.Proofs.Ythoklehmbkjkbaa
open Go.ChangeShapes Go.WideShapes Go.ChangeAt Go.RowKit
set_option linter.unusedVariables false

set_option maxHeartbeats 1000000 in
theorem stampAble_any (w : World) :
    Calls Try.prog 9 #[] w fun e w' => e = .returned (.bool true) ∧ Below w.heap.size w w' := by
  have hn : Stamp.nextS 1 2 [7, 3] = (⟨8, 1, 2⟩, true) := rfl
  have hr : Stamp.right ⟨8, 1, 2⟩ = true := by decide
  have hc : Stamp.cmpS ⟨8, 1, 2⟩ ⟨7, 0, 0⟩ = 1 := by decide
  go_enter Try.func9, Try.ntmps9
  go_wp2_with fail
  refine Calls.mono (next_any 1 2 _ 2 [7, 3] (w.heap.size + 1) _ ?r1 ?b1 (by simp [maxLen])) ?_
  case r1 => exact Mem.Rd.alloc_new w _ _ _ rfl
  case b1 => simp
  rw [hn]
  rintro e w1 ⟨rfl, hb1⟩
  go_wp2_with fail
  refine (right_any ⟨8, 1, 2⟩ _).mono ?_
  rw [hr]
  rintro e w2 ⟨rfl, hb2⟩
  obtain ⟨hc2, hf2⟩ := Mem.bcell hb2
  go_wp2_with fail
  refine (cmp_any ⟨8, 1, 2⟩ ⟨7, 0, 0⟩ _).mono ?_
  rw [hc]
  rintro e w3 ⟨rfl, hb3⟩
  go_wp2_with fail
  go_ret
  have z1 := hb1.size
  have z2 := hb2.size
  simp at z1 z2
  exact ⟨rfl, (((Reg.below_new w _).trans (hb1.mono (by simp))).alloc (by omega) _).trans (hb2.mono (by simp; omega)) |>.trans (hb3.mono (by omega))⟩

/-- a stamp by value that came in -/
theorem open_stamp {H : Type} {enc : TypeId × Value → H} {W : World} {base : Nat} {v : Value} {d : DataW H} {p : List MemPlace} (o : Value.okWide Try.prog W .any base 23 v) (k : DataW.Trod enc Try.prog W 0 (fun _ => true) true 23 v d p) :
    ∃ s : Stamp.St, v = Stamp.S s ∧ -9223372036854775808 ≤ s.c ∧ s.c ≤ 9223372036854775807 := by
  have hu : Try.prog.underlying 23 = some (.struct _) := Try.underlying23
  obtain ⟨c0, c1, c2, y0, y1, y2, m, rfl, rfl, rfl, hy0, hy1, hy2⟩ := Joins.open_agg3 Try.underlying23 (by kernel_rfl) (by kernel_rfl) o k
  obtain ⟨a0, e0, hh0, w0⟩ := DataW.trod_int Try.underlying3 hy0
  obtain ⟨a1, e1, hh1, w1⟩ := DataW.trod_int Try.underlying3 hy1
  obtain ⟨a2, e2, hh2, w2⟩ := DataW.trod_int Try.underlying3 hy2
  simp at e0 e1 e2
  subst e0 e1 e2
  have hb := bounds_i64 w0
  exact ⟨⟨a0, a1, a2⟩, rfl, hb.1, hb.2⟩

namespace stampTellsOpen
set_option maxHeartbeats 2000000 in
theorem walk (a b : Stamp.St) (w : World) :
    Calls Try.prog 3 #[Stamp.S a, Stamp.S b] w fun e w' => e = .returned (.bool true) ∧ Below w.heap.size w w' := by
  have HB' := Lib.hid (show Below w.heap.size w ((w.alloc (.cells #[.int .i64 a.c, .int .i64 a.d, .int .i64 a.r] 23)).alloc (.cells #[.int .i64 b.c, .int .i64 b.d, .int .i64 b.r] 23)) from (Reg.below_new _ _).alloc (by simp) _)
  go_enter Try.func3, Try.ntmps3
  go_wp2_with fail
  refine Reg.wp_region_rel (by kernel_rfl) 22 18 rfl rfl (by kernel_rfl) (Reg.Adds) (Reg.Adds.refl) (Reg.Adds.trans)
    (fun i v u => match i with
      | 0 => v = .bool true
      | 1 => v = .bool true
      | 2 => v = .agg #[.int .i64 a.c, .int .i64 a.d, .int .i64 a.r]
      | 3 => v = .bool (Stamp.right a)
      | 4 => v = .agg #[.int .i64 a.c, .int .i64 a.d, .int .i64 a.r]
      | 5 => v = .bool (Stamp.right a)
      | 6 => v = .bool true
      | 7 => v = .bool true
      | 8 => v = .bool true
      | 9 => v = .agg #[.int .i64 a.c, .int .i64 a.d, .int .i64 a.r]
      | 10 => v = .agg #[.int .i64 b.c, .int .i64 b.d, .int .i64 b.r]
      | 11 => v = .int .i64 (Stamp.cmpS a b)
      | 12 => v = .agg #[.int .i64 a.c, .int .i64 a.d, .int .i64 a.r]
      | 13 => v = .agg #[.int .i64 b.c, .int .i64 b.d, .int .i64 b.r]
      | 14 => v = .int .i64 (Stamp.cmpS a b)
      | 15 => v = .bool true
      | 16 => v = .bool true
      | 17 => v = .bool true
      | _ => True) ?_ ?_
  · refine Reg.Steps.cons ?_ (Reg.Steps.cons ?_ (Reg.Steps.cons ?_ (Reg.Steps.cons ?_ (Reg.Steps.cons ?_ (Reg.Steps.cons ?_ (Reg.Steps.cons ?_ (Reg.Steps.cons ?_ (Reg.Steps.cons ?_ (Reg.Steps.cons ?_ (Reg.Steps.cons ?_ (Reg.Steps.cons ?_ (Reg.Steps.cons ?_ (Reg.Steps.cons ?_ (Reg.Steps.cons ?_ (Reg.Steps.cons ?_ (Reg.Steps.cons ?_ (Reg.Steps.cons ?_ (Reg.Steps.nil _))))))))))))))))))
    · intro val ac u hR hp ha K hK      -- 0: t5 := Op.call { value (Operand.func 9), args := #[], argTypes := #[] }
      clear ha hp
      refine Reg.Op1.plain rfl ?_
      go_wp2_with fail
      refine (stampAble_any _).mono ?_
      rintro e w' ⟨rfl, hb'⟩
      go_wp2_with fail
      exact ⟨rfl, hK _ _ rfl (fun j k _ _ => hb')⟩
    · intro val ac u hR hp ha K hK      -- 1: t6 := Op.move t5
      obtain ⟨w5, h5, r5⟩ := hp 0 (by decide)
      have e5 : (ac.tmps[5]?).getD undef = .bool true := (ha 5 (by decide)).trans h5
      clear h5
      clear ha hp
      refine Reg.Op1.plain rfl ?_
      go_wp2
      exact ⟨rfl, hK _ _ rfl (fun j k _ _ => Reg.Adds.refl _ _ _)⟩
    · intro val ac u hR hp ha K hK      -- 2: t7 := Op.load 23 t2
      have e2 : (ac.tmps[2]?).getD undef = .pointer (some ⟨w.heap.size, 0, none⟩) := ha 2 (by decide)
      obtain ⟨w6, h6, r6⟩ := hp 1 (by decide)
      have e6 : (ac.tmps[6]?).getD undef = .bool true := (ha 6 (by decide)).trans h6
      clear h6
      clear ha hp
      have hc0 : u.cell? ⟨w.heap.size, 0, none⟩ = some (.int .i64 a.c) := (hR.cell (p := ⟨w.heap.size, 0, none⟩) (by simp; try omega)).trans (by simp)
      have hc1 : u.cell? ⟨w.heap.size, 1, none⟩ = some (.int .i64 a.d) := (hR.cell (p := ⟨w.heap.size, 1, none⟩) (by simp; try omega)).trans (by simp)
      have hc2 : u.cell? ⟨w.heap.size, 2, none⟩ = some (.int .i64 a.r) := (hR.cell (p := ⟨w.heap.size, 2, none⟩) (by simp; try omega)).trans (by simp)
      refine Reg.Op1.guarded rfl rfl e6 (fun _ => Reg.Op1.plain rfl ?_) (fun h => absurd rfl h)
      go_wp2
      exact ⟨rfl, hK _ _ rfl (fun j k _ _ => Reg.Adds.refl _ _ _)⟩
    · intro val ac u hR hp ha K hK      -- 3: t8 := Op.call { value (Operand.func 10), args := #[t7], argTypes := #[23] }
      obtain ⟨w7, h7, r7⟩ := hp 2 (by decide)
      have e7 : (ac.tmps[7]?).getD undef = .agg #[.int .i64 a.c, .int .i64 a.d, .int .i64 a.r] := (ha 7 (by decide)).trans h7
      clear h7
      obtain ⟨w6, h6, r6⟩ := hp 1 (by decide)
      have e6 : (ac.tmps[6]?).getD undef = .bool true := (ha 6 (by decide)).trans h6
      clear h6
      clear ha hp
      refine Reg.Op1.guarded rfl rfl e6 (fun _ => Reg.Op1.plain rfl ?_) (fun h => absurd rfl h)
      go_wp2_with fail
      refine (right_any a _).mono ?_
      rintro e w' ⟨rfl, hb'⟩
      go_wp2_with fail
      exact ⟨rfl, hK _ _ rfl (fun j k _ _ => hb')⟩
    · intro val ac u hR hp ha K hK      -- 4: t9 := Op.load 23 t2
      have e2 : (ac.tmps[2]?).getD undef = .pointer (some ⟨w.heap.size, 0, none⟩) := ha 2 (by decide)
      obtain ⟨w6, h6, r6⟩ := hp 1 (by decide)
      have e6 : (ac.tmps[6]?).getD undef = .bool true := (ha 6 (by decide)).trans h6
      clear h6
      clear ha hp
      have hc0 : u.cell? ⟨w.heap.size, 0, none⟩ = some (.int .i64 a.c) := (hR.cell (p := ⟨w.heap.size, 0, none⟩) (by simp; try omega)).trans (by simp)
      have hc1 : u.cell? ⟨w.heap.size, 1, none⟩ = some (.int .i64 a.d) := (hR.cell (p := ⟨w.heap.size, 1, none⟩) (by simp; try omega)).trans (by simp)
      have hc2 : u.cell? ⟨w.heap.size, 2, none⟩ = some (.int .i64 a.r) := (hR.cell (p := ⟨w.heap.size, 2, none⟩) (by simp; try omega)).trans (by simp)
      refine Reg.Op1.guarded rfl rfl e6 (fun _ => Reg.Op1.plain rfl ?_) (fun h => absurd rfl h)
      go_wp2
      exact ⟨rfl, hK _ _ rfl (fun j k _ _ => Reg.Adds.refl _ _ _)⟩
    · intro val ac u hR hp ha K hK      -- 5: t10 := Op.call { value (Operand.func 11), args := #[t9], argTypes := #[23] }
      obtain ⟨w9, h9, r9⟩ := hp 4 (by decide)
      have e9 : (ac.tmps[9]?).getD undef = .agg #[.int .i64 a.c, .int .i64 a.d, .int .i64 a.r] := (ha 9 (by decide)).trans h9
      clear h9
      obtain ⟨w6, h6, r6⟩ := hp 1 (by decide)
      have e6 : (ac.tmps[6]?).getD undef = .bool true := (ha 6 (by decide)).trans h6
      clear h6
      clear ha hp
      refine Reg.Op1.guarded rfl rfl e6 (fun _ => Reg.Op1.plain rfl ?_) (fun h => absurd rfl h)
      go_wp2_with fail
      refine (refRight_any a _).mono ?_
      rintro e w' ⟨rfl, hb'⟩
      go_wp2_with fail
      exact ⟨rfl, hK _ _ rfl (fun j k _ _ => hb')⟩
    · intro val ac u hR hp ha K hK      -- 6: t11 := Op.binOp BinOp.eql 4 t8 t10 4
      obtain ⟨w8, h8, r8⟩ := hp 3 (by decide)
      have e8 : (ac.tmps[8]?).getD undef = .bool (Stamp.right a) := (ha 8 (by decide)).trans h8
      clear h8
      obtain ⟨w10, h10, r10⟩ := hp 5 (by decide)
      have e10 : (ac.tmps[10]?).getD undef = .bool (Stamp.right a) := (ha 10 (by decide)).trans h10
      clear h10
      obtain ⟨w6, h6, r6⟩ := hp 1 (by decide)
      have e6 : (ac.tmps[6]?).getD undef = .bool true := (ha 6 (by decide)).trans h6
      clear h6
      clear ha hp
      refine Reg.Op1.guarded rfl rfl e6 (fun _ => Reg.Op1.plain rfl ?_) (fun h => absurd rfl h)
      go_wp2
      exact ⟨rfl, hK _ _ rfl (fun j k _ _ => Reg.Adds.refl _ _ _)⟩
    · intro val ac u hR hp ha K hK      -- 7: t12 := Op.pick t6 t11 (const (Value.bool false))
      obtain ⟨w6, h6, r6⟩ := hp 1 (by decide)
      have e6 : (ac.tmps[6]?).getD undef = .bool true := (ha 6 (by decide)).trans h6
      clear h6
      obtain ⟨w11, h11, r11⟩ := hp 6 (by decide)
      have e11 : (ac.tmps[11]?).getD undef = .bool true := (ha 11 (by decide)).trans h11
      clear h11
      clear ha hp
      refine Reg.Op1.plain rfl ?_
      go_wp2
      exact ⟨rfl, hK _ _ rfl (fun j k _ _ => Reg.Adds.refl _ _ _)⟩
    · intro val ac u hR hp ha K hK      -- 8: t13 := Op.move t12
      obtain ⟨w12, h12, r12⟩ := hp 7 (by decide)
      have e12 : (ac.tmps[12]?).getD undef = .bool true := (ha 12 (by decide)).trans h12
      clear h12
      clear ha hp
      refine Reg.Op1.plain rfl ?_
      go_wp2
      exact ⟨rfl, hK _ _ rfl (fun j k _ _ => Reg.Adds.refl _ _ _)⟩
    · intro val ac u hR hp ha K hK      -- 9: t14 := Op.load 23 t2
      have e2 : (ac.tmps[2]?).getD undef = .pointer (some ⟨w.heap.size, 0, none⟩) := ha 2 (by decide)
      obtain ⟨w13, h13, r13⟩ := hp 8 (by decide)
      have e13 : (ac.tmps[13]?).getD undef = .bool true := (ha 13 (by decide)).trans h13
      clear h13
      clear ha hp
      have hc0 : u.cell? ⟨w.heap.size, 0, none⟩ = some (.int .i64 a.c) := (hR.cell (p := ⟨w.heap.size, 0, none⟩) (by simp; try omega)).trans (by simp)
      have hc1 : u.cell? ⟨w.heap.size, 1, none⟩ = some (.int .i64 a.d) := (hR.cell (p := ⟨w.heap.size, 1, none⟩) (by simp; try omega)).trans (by simp)
      have hc2 : u.cell? ⟨w.heap.size, 2, none⟩ = some (.int .i64 a.r) := (hR.cell (p := ⟨w.heap.size, 2, none⟩) (by simp; try omega)).trans (by simp)
      refine Reg.Op1.guarded rfl rfl e13 (fun _ => Reg.Op1.plain rfl ?_) (fun h => absurd rfl h)
      go_wp2
      exact ⟨rfl, hK _ _ rfl (fun j k _ _ => Reg.Adds.refl _ _ _)⟩
    · intro val ac u hR hp ha K hK      -- 10: t15 := Op.load 23 t3
      have e3 : (ac.tmps[3]?).getD undef = .pointer (some ⟨w.heap.size + 1, 0, none⟩) := ha 3 (by decide)
      obtain ⟨w13, h13, r13⟩ := hp 8 (by decide)
      have e13 : (ac.tmps[13]?).getD undef = .bool true := (ha 13 (by decide)).trans h13
      clear h13
      clear ha hp
      have hc0 : u.cell? ⟨w.heap.size + 1, 0, none⟩ = some (.int .i64 b.c) := (hR.cell (p := ⟨w.heap.size + 1, 0, none⟩) (by simp; try omega)).trans (by simp)
      have hc1 : u.cell? ⟨w.heap.size + 1, 1, none⟩ = some (.int .i64 b.d) := (hR.cell (p := ⟨w.heap.size + 1, 1, none⟩) (by simp; try omega)).trans (by simp)
      have hc2 : u.cell? ⟨w.heap.size + 1, 2, none⟩ = some (.int .i64 b.r) := (hR.cell (p := ⟨w.heap.size + 1, 2, none⟩) (by simp; try omega)).trans (by simp)
      refine Reg.Op1.guarded rfl rfl e13 (fun _ => Reg.Op1.plain rfl ?_) (fun h => absurd rfl h)
      go_wp2
      exact ⟨rfl, hK _ _ rfl (fun j k _ _ => Reg.Adds.refl _ _ _)⟩
    · intro val ac u hR hp ha K hK      -- 11: t16 := Op.call { value (Operand.func 12), args := #[t14, t15], argTypes := #[23, 23] }
      obtain ⟨w14, h14, r14⟩ := hp 9 (by decide)
      have e14 : (ac.tmps[14]?).getD undef = .agg #[.int .i64 a.c, .int .i64 a.d, .int .i64 a.r] := (ha 14 (by decide)).trans h14
      clear h14
      obtain ⟨w15, h15, r15⟩ := hp 10 (by decide)
      have e15 : (ac.tmps[15]?).getD undef = .agg #[.int .i64 b.c, .int .i64 b.d, .int .i64 b.r] := (ha 15 (by decide)).trans h15
      clear h15
      obtain ⟨w13, h13, r13⟩ := hp 8 (by decide)
      have e13 : (ac.tmps[13]?).getD undef = .bool true := (ha 13 (by decide)).trans h13
      clear h13
      clear ha hp
      refine Reg.Op1.guarded rfl rfl e13 (fun _ => Reg.Op1.plain rfl ?_) (fun h => absurd rfl h)
      go_wp2_with fail
      refine (cmp_any a b _).mono ?_
      rintro e w' ⟨rfl, hb'⟩
      go_wp2_with fail
      exact ⟨rfl, hK _ _ rfl (fun j k _ _ => hb')⟩
    · intro val ac u hR hp ha K hK      -- 12: t17 := Op.load 23 t2
      have e2 : (ac.tmps[2]?).getD undef = .pointer (some ⟨w.heap.size, 0, none⟩) := ha 2 (by decide)
      obtain ⟨w13, h13, r13⟩ := hp 8 (by decide)
      have e13 : (ac.tmps[13]?).getD undef = .bool true := (ha 13 (by decide)).trans h13
      clear h13
      clear ha hp
      have hc0 : u.cell? ⟨w.heap.size, 0, none⟩ = some (.int .i64 a.c) := (hR.cell (p := ⟨w.heap.size, 0, none⟩) (by simp; try omega)).trans (by simp)
      have hc1 : u.cell? ⟨w.heap.size, 1, none⟩ = some (.int .i64 a.d) := (hR.cell (p := ⟨w.heap.size, 1, none⟩) (by simp; try omega)).trans (by simp)
      have hc2 : u.cell? ⟨w.heap.size, 2, none⟩ = some (.int .i64 a.r) := (hR.cell (p := ⟨w.heap.size, 2, none⟩) (by simp; try omega)).trans (by simp)
      refine Reg.Op1.guarded rfl rfl e13 (fun _ => Reg.Op1.plain rfl ?_) (fun h => absurd rfl h)
      go_wp2
      exact ⟨rfl, hK _ _ rfl (fun j k _ _ => Reg.Adds.refl _ _ _)⟩
    · intro val ac u hR hp ha K hK      -- 13: t18 := Op.load 23 t3
      have e3 : (ac.tmps[3]?).getD undef = .pointer (some ⟨w.heap.size + 1, 0, none⟩) := ha 3 (by decide)
      obtain ⟨w13, h13, r13⟩ := hp 8 (by decide)
      have e13 : (ac.tmps[13]?).getD undef = .bool true := (ha 13 (by decide)).trans h13
      clear h13
      clear ha hp
      have hc0 : u.cell? ⟨w.heap.size + 1, 0, none⟩ = some (.int .i64 b.c) := (hR.cell (p := ⟨w.heap.size + 1, 0, none⟩) (by simp; try omega)).trans (by simp)
      have hc1 : u.cell? ⟨w.heap.size + 1, 1, none⟩ = some (.int .i64 b.d) := (hR.cell (p := ⟨w.heap.size + 1, 1, none⟩) (by simp; try omega)).trans (by simp)
      have hc2 : u.cell? ⟨w.heap.size + 1, 2, none⟩ = some (.int .i64 b.r) := (hR.cell (p := ⟨w.heap.size + 1, 2, none⟩) (by simp; try omega)).trans (by simp)
      refine Reg.Op1.guarded rfl rfl e13 (fun _ => Reg.Op1.plain rfl ?_) (fun h => absurd rfl h)
      go_wp2
      exact ⟨rfl, hK _ _ rfl (fun j k _ _ => Reg.Adds.refl _ _ _)⟩
    · intro val ac u hR hp ha K hK      -- 14: t19 := Op.call { value (Operand.func 13), args := #[t17, t18], argTypes := #[23, 23] }
      obtain ⟨w17, h17, r17⟩ := hp 12 (by decide)
      have e17 : (ac.tmps[17]?).getD undef = .agg #[.int .i64 a.c, .int .i64 a.d, .int .i64 a.r] := (ha 17 (by decide)).trans h17
      clear h17
      obtain ⟨w18, h18, r18⟩ := hp 13 (by decide)
      have e18 : (ac.tmps[18]?).getD undef = .agg #[.int .i64 b.c, .int .i64 b.d, .int .i64 b.r] := (ha 18 (by decide)).trans h18
      clear h18
      obtain ⟨w13, h13, r13⟩ := hp 8 (by decide)
      have e13 : (ac.tmps[13]?).getD undef = .bool true := (ha 13 (by decide)).trans h13
      clear h13
      clear ha hp
      refine Reg.Op1.guarded rfl rfl e13 (fun _ => Reg.Op1.plain rfl ?_) (fun h => absurd rfl h)
      go_wp2_with fail
      refine (refCmp_any a b _).mono ?_
      rintro e w' ⟨rfl, hb'⟩
      go_wp2_with fail
      exact ⟨rfl, hK _ _ rfl (fun j k _ _ => hb')⟩
    · intro val ac u hR hp ha K hK      -- 15: t20 := Op.binOp BinOp.eql 3 t16 t19 3
      obtain ⟨w16, h16, r16⟩ := hp 11 (by decide)
      have e16 : (ac.tmps[16]?).getD undef = .int .i64 (Stamp.cmpS a b) := (ha 16 (by decide)).trans h16
      clear h16
      obtain ⟨w19, h19, r19⟩ := hp 14 (by decide)
      have e19 : (ac.tmps[19]?).getD undef = .int .i64 (Stamp.cmpS a b) := (ha 19 (by decide)).trans h19
      clear h19
      obtain ⟨w13, h13, r13⟩ := hp 8 (by decide)
      have e13 : (ac.tmps[13]?).getD undef = .bool true := (ha 13 (by decide)).trans h13
      clear h13
      clear ha hp
      refine Reg.Op1.guarded rfl rfl e13 (fun _ => Reg.Op1.plain rfl ?_) (fun h => absurd rfl h)
      go_wp2
      exact ⟨rfl, hK _ _ rfl (fun j k _ _ => Reg.Adds.refl _ _ _)⟩
    · intro val ac u hR hp ha K hK      -- 16: t21 := Op.pick t13 t20 (const (Value.bool false))
      obtain ⟨w13, h13, r13⟩ := hp 8 (by decide)
      have e13 : (ac.tmps[13]?).getD undef = .bool true := (ha 13 (by decide)).trans h13
      clear h13
      obtain ⟨w20, h20, r20⟩ := hp 15 (by decide)
      have e20 : (ac.tmps[20]?).getD undef = .bool true := (ha 20 (by decide)).trans h20
      clear h20
      clear ha hp
      refine Reg.Op1.plain rfl ?_
      go_wp2
      exact ⟨rfl, hK _ _ rfl (fun j k _ _ => Reg.Adds.refl _ _ _)⟩
    · intro val ac u hR hp ha K hK      -- 17: t4 := Op.assign t21
      obtain ⟨w21, h21, r21⟩ := hp 16 (by decide)
      have e21 : (ac.tmps[21]?).getD undef = .bool true := (ha 21 (by decide)).trans h21
      clear h21
      clear ha hp
      refine Reg.Op1.plain rfl ?_
      go_wp2
      exact ⟨rfl, hK _ _ rfl (fun j k _ _ => Reg.Adds.refl _ _ _)⟩
  · intro val u hR H
    obtain ⟨w21, hv, hr⟩ := H 17 (by decide)
    have hv : val 17 = .bool true := hv
    simp only [List.map_cons, List.map_nil, Reg.lay, Act.put, List.setIfInBounds_toArray, List.set_cons_succ, List.set_cons_zero, Nat.reduceAdd, hv]
    have HB2 := Lib.hid (HB'.out.drew.trans (Below.mono hR (by simp; omega)))
    clear hv hr H hR
    go_wp2
    go_ret
    exact ⟨rfl, HB2.out⟩
theorem opened {H : Type} (enc : TypeId × Value → H) (W : World) (base : Nat) (v0 v1 : Value) {d0 d1 : DataW H} {p0 p1 : List MemPlace}
    (o0 : Value.okWide Try.prog W .any base 23 v0) (o1 : Value.okWide Try.prog W .any base 23 v1)
    (k0 : DataW.Trod enc Try.prog W 0 (fun _ => true) true 23 v0 d0 p0) (k1 : DataW.Trod enc Try.prog W 0 (fun _ => true) true 23 v1 d1 p1) :
    Calls Try.prog 3 #[v0, v1] W fun e w' => e = .returned (.bool true) ∧ Below W.heap.size W w' := by
  obtain ⟨a, rfl, _⟩ := open_stamp o0 k0
  obtain ⟨b, rfl, _⟩ := open_stamp o1 k1
  exact walk a b W
end stampTellsOpen
end Go.Proofs.Ythoklehmbkjkbaa
