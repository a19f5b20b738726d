/- The walk of 'looks': an end and the reference's end, alike. No conditions but that numbers fit. -/
import Derived.Test.YtjkonfanmpcipaaRef3
import Derived.Test.YtjkonfanmpcipaaRegW
namespace Go.Proofs.Ytjkonfanmpcipaa
open Go.RowKit
set_option linter.unusedVariables false

set_option maxHeartbeats 1000000 in
theorem words_quiet {w : World} (l : List ByteArray) (A B : Option Addr) (ac bc : Nat) (hA : Mem.Rd w w.heap.size A (l.map Link.strV)) (hB : Mem.Rd w w.heap.size B (l.map Link.strV)) (hn : l.length ≤ maxLen) :
    Calls Try.prog 14 #[.slice A l.length ac, .slice B l.length bc] w fun e w' => e = .returned (.bool true) ∧ ∃ m, w' = w.drewN m := by
  unfold maxLen at hn
  have HA := Lib.hid hA
  have HB := Lib.hid hB
  clear hA hB
  go_enter Try.func14, Try.ntmps14
  go_wp2
  go_loopw [5] (fun vi wr => ∃ k : Nat, k ≤ l.length ∧ vi = .int .i64 k ∧ Hid (∃ m, wr = w.drewN m)) (fun t _ => l.length - (intOf t).toNat)
  case atStart => exact ⟨0, by omega, rfl, 0, rfl⟩
  case round =>
    obtain ⟨k, hk, rfl, m, rfl⟩ := hrel
    by_cases hlt : k < l.length
    · obtain ⟨b, o, rfl, hb, q0⟩ := HA.out.at (k := k) (by simpa using hlt)
      obtain ⟨b', o', rfl, hb', r0⟩ := HB.out.at (k := k) (by simpa using hlt)
      simp only [List.getElem_map] at q0 r0
      go_wp2
      go_quiet (fail)
      go_wp2
      go_roundw
      case rel => exact ⟨k + 1, by omega, by go_num, m + nq, by simp⟩
      case measure => simp [intOf]; omega
    · obtain rfl : k = l.length := by omega
      go_wp2
      go_ret
      exact ⟨rfl, m, rfl⟩

set_option maxRecDepth 8000 in
set_option maxHeartbeats 4000000 in
theorem looks_any {w : World} {g r c d ack : Nat} {e : Link.E} {A D : Option Addr} {data : List ByteArray} (h : Link.At w g A c e) (hR : Link.R w r D d e data ack) (hs2 : e.sent ≤ 1000000) (ho : e.opn.length ≤ 8) :
    Calls Try.prog 26 #[.pointer (some ⟨g, 0, none⟩), .pointer (some ⟨r, 0, none⟩)] w fun x w' => x = .returned (.bool true) ∧ Below w.heap.size w w' := by
  have HA := Lib.hid h
  have HR := Lib.hid hR
  have r0 := hR.c0
  have r1 := hR.c1
  have r2 := hR.c2
  have r3 := hR.c3
  have hrl := hR.lt
  have hal := hR.le
  have HOL : Hid ((e.opn.length : Int) = (data.length : Int) - (ack : Int)) := by show _ = _; rw [hR.ol]; omega
  have HSE := Lib.hid hR.sent
  have hdl : data.length ≤ 1000000 := by have := hR.sent; omega
  have hs0 : 0 ≤ e.sent := by have := hR.sent; omega
  clear h hR
  go_enter Try.func26, Try.ntmps26
  go_wp2
  refine Reg.wp_region_rel (by kernel_rfl) 53 49 rfl rfl (by kernel_rfl) (Reg.Adds) (Reg.Adds.refl) (Reg.Adds.trans)
    (fun i v u => match i with
      | 0 => v = .pointer (some ⟨g, 0, none⟩)
      | 1 => v = .int .i64 e.life
      | 2 => v = .pointer (some ⟨r, 0, none⟩)
      | 3 => v = .pointer (some ⟨r, 0, none⟩)
      | 4 => v = .pointer (some ⟨r, 0, none⟩)
      | 5 => v = .int .i64 e.life
      | 6 => v = .bool true
      | 7 => v = .bool true
      | 8 => v = .pointer (some ⟨g, 0, none⟩)
      | 9 => v = .int .i64 (e.opn.length : Int)
      | 10 => v = .pointer (some ⟨r, 0, none⟩)
      | 11 => v = .pointer (some ⟨r, 0, none⟩)
      | 12 => v = .pointer (some ⟨r, 1, none⟩)
      | 13 => v = .slice D data.length d
      | 14 => v = .int .i64 ((data.length : Nat) : Int)
      | 15 => v = .pointer (some ⟨r, 0, none⟩)
      | 16 => v = .pointer (some ⟨r, 0, none⟩)
      | 17 => v = .pointer (some ⟨r, 2, none⟩)
      | 18 => v = .int .i64 (ack : Int)
      | 19 => v = .int .i64 ((data.length : Int) - (ack : Int))
      | 20 => v = .bool true
      | 21 => v = .bool true
      | 22 => v = .bool true
      | 23 => v = .pointer (some ⟨g, 0, none⟩)
      | 24 => v = .int .i64 e.sent
      | 25 => v = .pointer (some ⟨r, 0, none⟩)
      | 26 => v = .pointer (some ⟨r, 0, none⟩)
      | 27 => v = .pointer (some ⟨r, 1, none⟩)
      | 28 => v = .slice D data.length d
      | 29 => v = .int .i64 ((data.length : Nat) : Int)
      | 30 => v = .bool true
      | 31 => v = .bool true
      | 32 => v = .bool true
      | 33 => v = .pointer (some ⟨g, 0, none⟩)
      | 34 => v = .int .i64 e.got
      | 35 => v = .pointer (some ⟨r, 0, none⟩)
      | 36 => v = .pointer (some ⟨r, 0, none⟩)
      | 37 => v = .pointer (some ⟨r, 3, none⟩)
      | 38 => v = .int .i64 e.got
      | 39 => v = .bool true
      | 40 => v = .bool true
      | 41 => v = .bool true
      | 42 => v = .pointer (some ⟨g, 0, none⟩)
      | 43 => ∃ O oc, v = .slice O (Link.out e).length oc ∧ Mem.Own u 52 5 O (Link.out e).length oc ((Link.out e).flatMap Link.pkCells)
      | 44 => v = .pointer (some ⟨r, 0, none⟩)
      | 45 => ∃ O oc, v = .slice O (Link.out e).length oc ∧ Mem.Own u 52 5 O (Link.out e).length oc ((Link.out e).flatMap Link.pkCells)
      | 46 => v = .bool true
      | 47 => v = .bool true
      | 48 => v = .bool true
      | _ => True) ?_ ?_
  · refine Reg.Steps.cons ?_ (Reg.Steps.cons ?_ (Reg.Steps.cons ?_ (Reg.Steps.cons ?_ (Reg.Steps.cons ?_ (Reg.Steps.cons ?_ (Reg.Steps.cons ?_ (Reg.Steps.cons ?_ (Reg.Steps.cons ?_ (Reg.Steps.cons ?_ (Reg.Steps.cons ?_ (Reg.Steps.cons ?_ (Reg.Steps.cons ?_ (Reg.Steps.cons ?_ (Reg.Steps.cons ?_ (Reg.Steps.cons ?_ (Reg.Steps.cons ?_ (Reg.Steps.cons ?_ (Reg.Steps.cons ?_ (Reg.Steps.cons ?_ (Reg.Steps.cons ?_ (Reg.Steps.cons ?_ (Reg.Steps.cons ?_ (Reg.Steps.cons ?_ (Reg.Steps.cons ?_ (Reg.Steps.cons ?_ (Reg.Steps.cons ?_ (Reg.Steps.cons ?_ (Reg.Steps.cons ?_ (Reg.Steps.cons ?_ (Reg.Steps.cons ?_ (Reg.Steps.cons ?_ (Reg.Steps.cons ?_ (Reg.Steps.cons ?_ (Reg.Steps.cons ?_ (Reg.Steps.cons ?_ (Reg.Steps.cons ?_ (Reg.Steps.cons ?_ (Reg.Steps.cons ?_ (Reg.Steps.cons ?_ (Reg.Steps.cons ?_ (Reg.Steps.cons ?_ (Reg.Steps.cons ?_ (Reg.Steps.cons ?_ (Reg.Steps.cons ?_ (Reg.Steps.cons ?_ (Reg.Steps.cons ?_ (Reg.Steps.cons ?_ (Reg.Steps.cons ?_ (Reg.Steps.nil _)))))))))))))))))))))))))))))))))))))))))))))))))
    · intro val ac u hR hp ha K hK      -- 0: t5 := Op.move t0
      have e0 : (ac.tmps[0]?).getD undef = .pointer (some ⟨g, 0, none⟩) := ha 0 (by decide)
      clear ha hp
      refine Reg.Op1.plain rfl ?_
      go_wp2
      exact ⟨rfl, hK _ _ rfl (fun j k _ _ => Reg.Adds.refl _ _ _)⟩
    · intro val ac u hR hp ha K hK      -- 1: t6 := Op.call { value (Operand.func 19), args := #[t5], argTypes := #[26] }
      obtain ⟨w5, h5, r5⟩ := hp 0 (by decide)
      have e5 : (ac.tmps[5]?).getD undef = .pointer (some ⟨g, 0, none⟩) := (ha 5 (by decide)).trans h5
      clear h5
      clear ha hp
      refine Reg.Op1.plain rfl ?_
      have HC := HA.out.keeps (Mem.Keeps.of_below ((Below.refl _ _).drew.trans (Below.mono hR (Nat.le_refl _)))) (fun h => h) (fun _ _ h => h)
      go_wp2_with fail
      refine (life_any HC.box).mono ?_
      rintro x w' ⟨rfl, rfl⟩
      go_wp2_with fail
      exact ⟨rfl, hK _ _ rfl (fun j k _ _ => Reg.Adds.refl _ _ _)⟩
    · intro val ac u hR hp ha K hK      -- 2: t7 := Op.move t1
      have e1 : (ac.tmps[1]?).getD undef = .pointer (some ⟨r, 0, none⟩) := ha 1 (by decide)
      clear ha hp
      refine Reg.Op1.plain rfl ?_
      go_wp2
      exact ⟨rfl, hK _ _ rfl (fun j k _ _ => Reg.Adds.refl _ _ _)⟩
    · intro val ac u hR hp ha K hK      -- 3: t8 := Op.nilCheck t7
      obtain ⟨w7, h7, r7⟩ := hp 2 (by decide)
      have e7 : (ac.tmps[7]?).getD undef = .pointer (some ⟨r, 0, none⟩) := (ha 7 (by decide)).trans h7
      clear h7
      clear ha hp
      refine Reg.Op1.plain rfl ?_
      go_wp2
      exact ⟨rfl, hK _ _ rfl (fun j k _ _ => Reg.Adds.refl _ _ _)⟩
    · intro val ac u hR hp ha K hK      -- 4: t9 := Op.fieldAddr 45 t8 0
      obtain ⟨w8, h8, r8⟩ := hp 3 (by decide)
      have e8 : (ac.tmps[8]?).getD undef = .pointer (some ⟨r, 0, none⟩) := (ha 8 (by decide)).trans h8
      clear h8
      clear ha hp
      refine Reg.Op1.plain rfl ?_
      go_wp2
      exact ⟨rfl, hK _ _ rfl (fun j k _ _ => Reg.Adds.refl _ _ _)⟩
    · intro val ac u hR hp ha K hK      -- 5: t10 := Op.load 3 t9
      obtain ⟨w9, h9, r9⟩ := hp 4 (by decide)
      have e9 : (ac.tmps[9]?).getD undef = .pointer (some ⟨r, 0, none⟩) := (ha 9 (by decide)).trans h9
      clear h9
      clear ha hp
      refine Reg.Op1.plain rfl ?_
      have x0 := (((Below.refl _ _).drew.trans (Below.mono hR (Nat.le_refl _))).cell (p := ⟨r, 0, none⟩) (hrl)).trans (r0)
      go_wp2
      exact ⟨rfl, hK _ _ rfl (fun j k _ _ => Reg.Adds.refl _ _ _)⟩
    · intro val ac u hR hp ha K hK      -- 6: t11 := Op.binOp BinOp.eql 3 t6 t10 3
      obtain ⟨w6, h6, r6⟩ := hp 1 (by decide)
      have e6 : (ac.tmps[6]?).getD undef = .int .i64 e.life := (ha 6 (by decide)).trans h6
      clear h6
      obtain ⟨w10, h10, r10⟩ := hp 5 (by decide)
      have e10 : (ac.tmps[10]?).getD undef = .int .i64 e.life := (ha 10 (by decide)).trans h10
      clear h10
      clear ha hp
      refine Reg.Op1.plain rfl ?_
      go_wp2
      exact ⟨rfl, hK _ _ rfl (fun j k _ _ => Reg.Adds.refl _ _ _)⟩
    · intro val ac u hR hp ha K hK      -- 7: t12 := Op.move t11
      obtain ⟨w11, h11, r11⟩ := hp 6 (by decide)
      have e11 : (ac.tmps[11]?).getD undef = .bool true := (ha 11 (by decide)).trans h11
      clear h11
      clear ha hp
      refine Reg.Op1.plain rfl ?_
      go_wp2
      exact ⟨rfl, hK _ _ rfl (fun j k _ _ => Reg.Adds.refl _ _ _)⟩
    · intro val ac u hR hp ha K hK      -- 8: t13 := Op.move t0
      have e0 : (ac.tmps[0]?).getD undef = .pointer (some ⟨g, 0, none⟩) := ha 0 (by decide)
      obtain ⟨w12, h12, r12⟩ := hp 7 (by decide)
      have e12 : (ac.tmps[12]?).getD undef = .bool true := (ha 12 (by decide)).trans h12
      clear h12
      clear ha hp
      refine Reg.Op1.guarded rfl rfl e12 (fun _ => Reg.Op1.plain rfl ?_) (fun h => absurd rfl h)
      go_wp2
      exact ⟨rfl, hK _ _ rfl (fun j k _ _ => Reg.Adds.refl _ _ _)⟩
    · intro val ac u hR hp ha K hK      -- 9: t14 := Op.call { value (Operand.func 15), args := #[t13], argTypes := #[26] }
      obtain ⟨w13, h13, r13⟩ := hp 8 (by decide)
      have e13 : (ac.tmps[13]?).getD undef = .pointer (some ⟨g, 0, none⟩) := (ha 13 (by decide)).trans h13
      clear h13
      obtain ⟨w12, h12, r12⟩ := hp 7 (by decide)
      have e12 : (ac.tmps[12]?).getD undef = .bool true := (ha 12 (by decide)).trans h12
      clear h12
      clear ha hp
      refine Reg.Op1.guarded rfl rfl e12 (fun _ => Reg.Op1.plain rfl ?_) (fun h => absurd rfl h)
      have HC := HA.out.keeps (Mem.Keeps.of_below ((Below.refl _ _).drew.trans (Below.mono hR (Nat.le_refl _)))) (fun h => h) (fun _ _ h => h)
      go_wp2_with fail
      refine (open_any HC.box).mono ?_
      rintro x w' ⟨rfl, rfl⟩
      go_wp2_with fail
      exact ⟨rfl, hK _ _ rfl (fun j k _ _ => Reg.Adds.refl _ _ _)⟩
    · intro val ac u hR hp ha K hK      -- 10: t15 := Op.move t1
      have e1 : (ac.tmps[1]?).getD undef = .pointer (some ⟨r, 0, none⟩) := ha 1 (by decide)
      obtain ⟨w12, h12, r12⟩ := hp 7 (by decide)
      have e12 : (ac.tmps[12]?).getD undef = .bool true := (ha 12 (by decide)).trans h12
      clear h12
      clear ha hp
      refine Reg.Op1.guarded rfl rfl e12 (fun _ => Reg.Op1.plain rfl ?_) (fun h => absurd rfl h)
      go_wp2
      exact ⟨rfl, hK _ _ rfl (fun j k _ _ => Reg.Adds.refl _ _ _)⟩
    · intro val ac u hR hp ha K hK      -- 11: t16 := Op.nilCheck t15
      obtain ⟨w15, h15, r15⟩ := hp 10 (by decide)
      have e15 : (ac.tmps[15]?).getD undef = .pointer (some ⟨r, 0, none⟩) := (ha 15 (by decide)).trans h15
      clear h15
      obtain ⟨w12, h12, r12⟩ := hp 7 (by decide)
      have e12 : (ac.tmps[12]?).getD undef = .bool true := (ha 12 (by decide)).trans h12
      clear h12
      clear ha hp
      refine Reg.Op1.guarded rfl rfl e12 (fun _ => Reg.Op1.plain rfl ?_) (fun h => absurd rfl h)
      go_wp2
      exact ⟨rfl, hK _ _ rfl (fun j k _ _ => Reg.Adds.refl _ _ _)⟩
    · intro val ac u hR hp ha K hK      -- 12: t17 := Op.fieldAddr 45 t16 1
      obtain ⟨w16, h16, r16⟩ := hp 11 (by decide)
      have e16 : (ac.tmps[16]?).getD undef = .pointer (some ⟨r, 0, none⟩) := (ha 16 (by decide)).trans h16
      clear h16
      obtain ⟨w12, h12, r12⟩ := hp 7 (by decide)
      have e12 : (ac.tmps[12]?).getD undef = .bool true := (ha 12 (by decide)).trans h12
      clear h12
      clear ha hp
      refine Reg.Op1.guarded rfl rfl e12 (fun _ => Reg.Op1.plain rfl ?_) (fun h => absurd rfl h)
      go_wp2
      exact ⟨rfl, hK _ _ rfl (fun j k _ _ => Reg.Adds.refl _ _ _)⟩
    · intro val ac u hR hp ha K hK      -- 13: t18 := Op.load 29 t17
      obtain ⟨w17, h17, r17⟩ := hp 12 (by decide)
      have e17 : (ac.tmps[17]?).getD undef = .pointer (some ⟨r, 1, none⟩) := (ha 17 (by decide)).trans h17
      clear h17
      obtain ⟨w12, h12, r12⟩ := hp 7 (by decide)
      have e12 : (ac.tmps[12]?).getD undef = .bool true := (ha 12 (by decide)).trans h12
      clear h12
      clear ha hp
      refine Reg.Op1.guarded rfl rfl e12 (fun _ => Reg.Op1.plain rfl ?_) (fun h => absurd rfl h)
      have x0 := (((Below.refl _ _).drew.trans (Below.mono hR (Nat.le_refl _))).cell (p := ⟨r, 1, none⟩) (hrl)).trans (r1)
      go_wp2
      exact ⟨rfl, hK _ _ rfl (fun j k _ _ => Reg.Adds.refl _ _ _)⟩
    · intro val ac u hR hp ha K hK      -- 14: t19 := Op.call { builtin len, args := #[t18], argTypes := #[29] }
      obtain ⟨w18, h18, r18⟩ := hp 13 (by decide)
      have e18 : (ac.tmps[18]?).getD undef = .slice D data.length d := (ha 18 (by decide)).trans h18
      clear h18
      obtain ⟨w12, h12, r12⟩ := hp 7 (by decide)
      have e12 : (ac.tmps[12]?).getD undef = .bool true := (ha 12 (by decide)).trans h12
      clear h12
      clear ha hp
      refine Reg.Op1.guarded rfl rfl e12 (fun _ => Reg.Op1.plain rfl ?_) (fun h => absurd rfl h)
      go_wp2
      exact ⟨rfl, hK _ _ rfl (fun j k _ _ => Reg.Adds.refl _ _ _)⟩
    · intro val ac u hR hp ha K hK      -- 15: t20 := Op.move t1
      have e1 : (ac.tmps[1]?).getD undef = .pointer (some ⟨r, 0, none⟩) := ha 1 (by decide)
      obtain ⟨w12, h12, r12⟩ := hp 7 (by decide)
      have e12 : (ac.tmps[12]?).getD undef = .bool true := (ha 12 (by decide)).trans h12
      clear h12
      clear ha hp
      refine Reg.Op1.guarded rfl rfl e12 (fun _ => Reg.Op1.plain rfl ?_) (fun h => absurd rfl h)
      go_wp2
      exact ⟨rfl, hK _ _ rfl (fun j k _ _ => Reg.Adds.refl _ _ _)⟩
    · intro val ac u hR hp ha K hK      -- 16: t21 := Op.nilCheck t20
      obtain ⟨w20, h20, r20⟩ := hp 15 (by decide)
      have e20 : (ac.tmps[20]?).getD undef = .pointer (some ⟨r, 0, none⟩) := (ha 20 (by decide)).trans h20
      clear h20
      obtain ⟨w12, h12, r12⟩ := hp 7 (by decide)
      have e12 : (ac.tmps[12]?).getD undef = .bool true := (ha 12 (by decide)).trans h12
      clear h12
      clear ha hp
      refine Reg.Op1.guarded rfl rfl e12 (fun _ => Reg.Op1.plain rfl ?_) (fun h => absurd rfl h)
      go_wp2
      exact ⟨rfl, hK _ _ rfl (fun j k _ _ => Reg.Adds.refl _ _ _)⟩
    · intro val ac u hR hp ha K hK      -- 17: t22 := Op.fieldAddr 45 t21 2
      obtain ⟨w21, h21, r21⟩ := hp 16 (by decide)
      have e21 : (ac.tmps[21]?).getD undef = .pointer (some ⟨r, 0, none⟩) := (ha 21 (by decide)).trans h21
      clear h21
      obtain ⟨w12, h12, r12⟩ := hp 7 (by decide)
      have e12 : (ac.tmps[12]?).getD undef = .bool true := (ha 12 (by decide)).trans h12
      clear h12
      clear ha hp
      refine Reg.Op1.guarded rfl rfl e12 (fun _ => Reg.Op1.plain rfl ?_) (fun h => absurd rfl h)
      go_wp2
      exact ⟨rfl, hK _ _ rfl (fun j k _ _ => Reg.Adds.refl _ _ _)⟩
    · intro val ac u hR hp ha K hK      -- 18: t23 := Op.load 3 t22
      obtain ⟨w22, h22, r22⟩ := hp 17 (by decide)
      have e22 : (ac.tmps[22]?).getD undef = .pointer (some ⟨r, 2, none⟩) := (ha 22 (by decide)).trans h22
      clear h22
      obtain ⟨w12, h12, r12⟩ := hp 7 (by decide)
      have e12 : (ac.tmps[12]?).getD undef = .bool true := (ha 12 (by decide)).trans h12
      clear h12
      clear ha hp
      refine Reg.Op1.guarded rfl rfl e12 (fun _ => Reg.Op1.plain rfl ?_) (fun h => absurd rfl h)
      have x0 := (((Below.refl _ _).drew.trans (Below.mono hR (Nat.le_refl _))).cell (p := ⟨r, 2, none⟩) (hrl)).trans (r2)
      go_wp2
      exact ⟨rfl, hK _ _ rfl (fun j k _ _ => Reg.Adds.refl _ _ _)⟩
    · intro val ac u hR hp ha K hK      -- 19: t24 := Op.binOp BinOp.sub 3 t19 t23 3
      obtain ⟨w19, h19, r19⟩ := hp 14 (by decide)
      have e19 : (ac.tmps[19]?).getD undef = .int .i64 ((data.length : Nat) : Int) := (ha 19 (by decide)).trans h19
      clear h19
      obtain ⟨w23, h23, r23⟩ := hp 18 (by decide)
      have e23 : (ac.tmps[23]?).getD undef = .int .i64 (ack : Int) := (ha 23 (by decide)).trans h23
      clear h23
      obtain ⟨w12, h12, r12⟩ := hp 7 (by decide)
      have e12 : (ac.tmps[12]?).getD undef = .bool true := (ha 12 (by decide)).trans h12
      clear h12
      clear ha hp
      refine Reg.Op1.guarded rfl rfl e12 (fun _ => Reg.Op1.plain rfl ?_) (fun h => absurd rfl h)
      go_wp2
      exact ⟨rfl, hK _ _ rfl (fun j k _ _ => Reg.Adds.refl _ _ _)⟩
    · intro val ac u hR hp ha K hK      -- 20: t25 := Op.binOp BinOp.eql 3 t14 t24 3
      obtain ⟨w14, h14, r14⟩ := hp 9 (by decide)
      have e14 : (ac.tmps[14]?).getD undef = .int .i64 (e.opn.length : Int) := (ha 14 (by decide)).trans h14
      clear h14
      obtain ⟨w24, h24, r24⟩ := hp 19 (by decide)
      have e24 : (ac.tmps[24]?).getD undef = .int .i64 ((data.length : Int) - (ack : Int)) := (ha 24 (by decide)).trans h24
      clear h24
      obtain ⟨w12, h12, r12⟩ := hp 7 (by decide)
      have e12 : (ac.tmps[12]?).getD undef = .bool true := (ha 12 (by decide)).trans h12
      clear h12
      clear ha hp
      have q0 : ((e.opn.length : Int) == (data.length : Int) - (ack : Int)) = true := by rw [HOL.out]; simp
      refine Reg.Op1.guarded rfl rfl e12 (fun _ => Reg.Op1.plain rfl ?_) (fun h => absurd rfl h)
      go_wp2
      exact ⟨rfl, hK _ _ rfl (fun j k _ _ => Reg.Adds.refl _ _ _)⟩
    · intro val ac u hR hp ha K hK      -- 21: t26 := Op.pick t12 t25 (const (Value.bool false))
      obtain ⟨w12, h12, r12⟩ := hp 7 (by decide)
      have e12 : (ac.tmps[12]?).getD undef = .bool true := (ha 12 (by decide)).trans h12
      clear h12
      obtain ⟨w25, h25, r25⟩ := hp 20 (by decide)
      have e25 : (ac.tmps[25]?).getD undef = .bool true := (ha 25 (by decide)).trans h25
      clear h25
      clear ha hp
      refine Reg.Op1.plain rfl ?_
      go_wp2
      exact ⟨rfl, hK _ _ rfl (fun j k _ _ => Reg.Adds.refl _ _ _)⟩
    · intro val ac u hR hp ha K hK      -- 22: t27 := Op.move t26
      obtain ⟨w26, h26, r26⟩ := hp 21 (by decide)
      have e26 : (ac.tmps[26]?).getD undef = .bool true := (ha 26 (by decide)).trans h26
      clear h26
      clear ha hp
      refine Reg.Op1.plain rfl ?_
      go_wp2
      exact ⟨rfl, hK _ _ rfl (fun j k _ _ => Reg.Adds.refl _ _ _)⟩
    · intro val ac u hR hp ha K hK      -- 23: t28 := Op.move t0
      have e0 : (ac.tmps[0]?).getD undef = .pointer (some ⟨g, 0, none⟩) := ha 0 (by decide)
      obtain ⟨w27, h27, r27⟩ := hp 22 (by decide)
      have e27 : (ac.tmps[27]?).getD undef = .bool true := (ha 27 (by decide)).trans h27
      clear h27
      clear ha hp
      refine Reg.Op1.guarded rfl rfl e27 (fun _ => Reg.Op1.plain rfl ?_) (fun h => absurd rfl h)
      go_wp2
      exact ⟨rfl, hK _ _ rfl (fun j k _ _ => Reg.Adds.refl _ _ _)⟩
    · intro val ac u hR hp ha K hK      -- 24: t29 := Op.call { value (Operand.func 18), args := #[t28], argTypes := #[26] }
      obtain ⟨w28, h28, r28⟩ := hp 23 (by decide)
      have e28 : (ac.tmps[28]?).getD undef = .pointer (some ⟨g, 0, none⟩) := (ha 28 (by decide)).trans h28
      clear h28
      obtain ⟨w27, h27, r27⟩ := hp 22 (by decide)
      have e27 : (ac.tmps[27]?).getD undef = .bool true := (ha 27 (by decide)).trans h27
      clear h27
      clear ha hp
      refine Reg.Op1.guarded rfl rfl e27 (fun _ => Reg.Op1.plain rfl ?_) (fun h => absurd rfl h)
      have HC := HA.out.keeps (Mem.Keeps.of_below ((Below.refl _ _).drew.trans (Below.mono hR (Nat.le_refl _)))) (fun h => h) (fun _ _ h => h)
      go_wp2_with fail
      refine (sent_any HC.box).mono ?_
      rintro x w' ⟨rfl, rfl⟩
      go_wp2_with fail
      exact ⟨rfl, hK _ _ rfl (fun j k _ _ => Reg.Adds.refl _ _ _)⟩
    · intro val ac u hR hp ha K hK      -- 25: t30 := Op.move t1
      have e1 : (ac.tmps[1]?).getD undef = .pointer (some ⟨r, 0, none⟩) := ha 1 (by decide)
      obtain ⟨w27, h27, r27⟩ := hp 22 (by decide)
      have e27 : (ac.tmps[27]?).getD undef = .bool true := (ha 27 (by decide)).trans h27
      clear h27
      clear ha hp
      refine Reg.Op1.guarded rfl rfl e27 (fun _ => Reg.Op1.plain rfl ?_) (fun h => absurd rfl h)
      go_wp2
      exact ⟨rfl, hK _ _ rfl (fun j k _ _ => Reg.Adds.refl _ _ _)⟩
    · intro val ac u hR hp ha K hK      -- 26: t31 := Op.nilCheck t30
      obtain ⟨w30, h30, r30⟩ := hp 25 (by decide)
      have e30 : (ac.tmps[30]?).getD undef = .pointer (some ⟨r, 0, none⟩) := (ha 30 (by decide)).trans h30
      clear h30
      obtain ⟨w27, h27, r27⟩ := hp 22 (by decide)
      have e27 : (ac.tmps[27]?).getD undef = .bool true := (ha 27 (by decide)).trans h27
      clear h27
      clear ha hp
      refine Reg.Op1.guarded rfl rfl e27 (fun _ => Reg.Op1.plain rfl ?_) (fun h => absurd rfl h)
      go_wp2
      exact ⟨rfl, hK _ _ rfl (fun j k _ _ => Reg.Adds.refl _ _ _)⟩
    · intro val ac u hR hp ha K hK      -- 27: t32 := Op.fieldAddr 45 t31 1
      obtain ⟨w31, h31, r31⟩ := hp 26 (by decide)
      have e31 : (ac.tmps[31]?).getD undef = .pointer (some ⟨r, 0, none⟩) := (ha 31 (by decide)).trans h31
      clear h31
      obtain ⟨w27, h27, r27⟩ := hp 22 (by decide)
      have e27 : (ac.tmps[27]?).getD undef = .bool true := (ha 27 (by decide)).trans h27
      clear h27
      clear ha hp
      refine Reg.Op1.guarded rfl rfl e27 (fun _ => Reg.Op1.plain rfl ?_) (fun h => absurd rfl h)
      go_wp2
      exact ⟨rfl, hK _ _ rfl (fun j k _ _ => Reg.Adds.refl _ _ _)⟩
    · intro val ac u hR hp ha K hK      -- 28: t33 := Op.load 29 t32
      obtain ⟨w32, h32, r32⟩ := hp 27 (by decide)
      have e32 : (ac.tmps[32]?).getD undef = .pointer (some ⟨r, 1, none⟩) := (ha 32 (by decide)).trans h32
      clear h32
      obtain ⟨w27, h27, r27⟩ := hp 22 (by decide)
      have e27 : (ac.tmps[27]?).getD undef = .bool true := (ha 27 (by decide)).trans h27
      clear h27
      clear ha hp
      refine Reg.Op1.guarded rfl rfl e27 (fun _ => Reg.Op1.plain rfl ?_) (fun h => absurd rfl h)
      have x0 := (((Below.refl _ _).drew.trans (Below.mono hR (Nat.le_refl _))).cell (p := ⟨r, 1, none⟩) (hrl)).trans (r1)
      go_wp2
      exact ⟨rfl, hK _ _ rfl (fun j k _ _ => Reg.Adds.refl _ _ _)⟩
    · intro val ac u hR hp ha K hK      -- 29: t34 := Op.call { builtin len, args := #[t33], argTypes := #[29] }
      obtain ⟨w33, h33, r33⟩ := hp 28 (by decide)
      have e33 : (ac.tmps[33]?).getD undef = .slice D data.length d := (ha 33 (by decide)).trans h33
      clear h33
      obtain ⟨w27, h27, r27⟩ := hp 22 (by decide)
      have e27 : (ac.tmps[27]?).getD undef = .bool true := (ha 27 (by decide)).trans h27
      clear h27
      clear ha hp
      refine Reg.Op1.guarded rfl rfl e27 (fun _ => Reg.Op1.plain rfl ?_) (fun h => absurd rfl h)
      go_wp2
      exact ⟨rfl, hK _ _ rfl (fun j k _ _ => Reg.Adds.refl _ _ _)⟩
    · intro val ac u hR hp ha K hK      -- 30: t35 := Op.binOp BinOp.eql 3 t29 t34 3
      obtain ⟨w29, h29, r29⟩ := hp 24 (by decide)
      have e29 : (ac.tmps[29]?).getD undef = .int .i64 e.sent := (ha 29 (by decide)).trans h29
      clear h29
      obtain ⟨w34, h34, r34⟩ := hp 29 (by decide)
      have e34 : (ac.tmps[34]?).getD undef = .int .i64 ((data.length : Nat) : Int) := (ha 34 (by decide)).trans h34
      clear h34
      obtain ⟨w27, h27, r27⟩ := hp 22 (by decide)
      have e27 : (ac.tmps[27]?).getD undef = .bool true := (ha 27 (by decide)).trans h27
      clear h27
      clear ha hp
      have q0 : (e.sent == (data.length : Int)) = true := by rw [HSE.out]; simp
      refine Reg.Op1.guarded rfl rfl e27 (fun _ => Reg.Op1.plain rfl ?_) (fun h => absurd rfl h)
      go_wp2
      exact ⟨rfl, hK _ _ rfl (fun j k _ _ => Reg.Adds.refl _ _ _)⟩
    · intro val ac u hR hp ha K hK      -- 31: t36 := Op.pick t27 t35 (const (Value.bool false))
      obtain ⟨w27, h27, r27⟩ := hp 22 (by decide)
      have e27 : (ac.tmps[27]?).getD undef = .bool true := (ha 27 (by decide)).trans h27
      clear h27
      obtain ⟨w35, h35, r35⟩ := hp 30 (by decide)
      have e35 : (ac.tmps[35]?).getD undef = .bool true := (ha 35 (by decide)).trans h35
      clear h35
      clear ha hp
      refine Reg.Op1.plain rfl ?_
      go_wp2
      exact ⟨rfl, hK _ _ rfl (fun j k _ _ => Reg.Adds.refl _ _ _)⟩
    · intro val ac u hR hp ha K hK      -- 32: t37 := Op.move t36
      obtain ⟨w36, h36, r36⟩ := hp 31 (by decide)
      have e36 : (ac.tmps[36]?).getD undef = .bool true := (ha 36 (by decide)).trans h36
      clear h36
      clear ha hp
      refine Reg.Op1.plain rfl ?_
      go_wp2
      exact ⟨rfl, hK _ _ rfl (fun j k _ _ => Reg.Adds.refl _ _ _)⟩
    · intro val ac u hR hp ha K hK      -- 33: t38 := Op.move t0
      have e0 : (ac.tmps[0]?).getD undef = .pointer (some ⟨g, 0, none⟩) := ha 0 (by decide)
      obtain ⟨w37, h37, r37⟩ := hp 32 (by decide)
      have e37 : (ac.tmps[37]?).getD undef = .bool true := (ha 37 (by decide)).trans h37
      clear h37
      clear ha hp
      refine Reg.Op1.guarded rfl rfl e37 (fun _ => Reg.Op1.plain rfl ?_) (fun h => absurd rfl h)
      go_wp2
      exact ⟨rfl, hK _ _ rfl (fun j k _ _ => Reg.Adds.refl _ _ _)⟩
    · intro val ac u hR hp ha K hK      -- 34: t39 := Op.call { value (Operand.func 17), args := #[t38], argTypes := #[26] }
      obtain ⟨w38, h38, r38⟩ := hp 33 (by decide)
      have e38 : (ac.tmps[38]?).getD undef = .pointer (some ⟨g, 0, none⟩) := (ha 38 (by decide)).trans h38
      clear h38
      obtain ⟨w37, h37, r37⟩ := hp 32 (by decide)
      have e37 : (ac.tmps[37]?).getD undef = .bool true := (ha 37 (by decide)).trans h37
      clear h37
      clear ha hp
      refine Reg.Op1.guarded rfl rfl e37 (fun _ => Reg.Op1.plain rfl ?_) (fun h => absurd rfl h)
      have HC := HA.out.keeps (Mem.Keeps.of_below ((Below.refl _ _).drew.trans (Below.mono hR (Nat.le_refl _)))) (fun h => h) (fun _ _ h => h)
      go_wp2_with fail
      refine (got_any HC.box).mono ?_
      rintro x w' ⟨rfl, rfl⟩
      go_wp2_with fail
      exact ⟨rfl, hK _ _ rfl (fun j k _ _ => Reg.Adds.refl _ _ _)⟩
    · intro val ac u hR hp ha K hK      -- 35: t40 := Op.move t1
      have e1 : (ac.tmps[1]?).getD undef = .pointer (some ⟨r, 0, none⟩) := ha 1 (by decide)
      obtain ⟨w37, h37, r37⟩ := hp 32 (by decide)
      have e37 : (ac.tmps[37]?).getD undef = .bool true := (ha 37 (by decide)).trans h37
      clear h37
      clear ha hp
      refine Reg.Op1.guarded rfl rfl e37 (fun _ => Reg.Op1.plain rfl ?_) (fun h => absurd rfl h)
      go_wp2
      exact ⟨rfl, hK _ _ rfl (fun j k _ _ => Reg.Adds.refl _ _ _)⟩
    · intro val ac u hR hp ha K hK      -- 36: t41 := Op.nilCheck t40
      obtain ⟨w40, h40, r40⟩ := hp 35 (by decide)
      have e40 : (ac.tmps[40]?).getD undef = .pointer (some ⟨r, 0, none⟩) := (ha 40 (by decide)).trans h40
      clear h40
      obtain ⟨w37, h37, r37⟩ := hp 32 (by decide)
      have e37 : (ac.tmps[37]?).getD undef = .bool true := (ha 37 (by decide)).trans h37
      clear h37
      clear ha hp
      refine Reg.Op1.guarded rfl rfl e37 (fun _ => Reg.Op1.plain rfl ?_) (fun h => absurd rfl h)
      go_wp2
      exact ⟨rfl, hK _ _ rfl (fun j k _ _ => Reg.Adds.refl _ _ _)⟩
    · intro val ac u hR hp ha K hK      -- 37: t42 := Op.fieldAddr 45 t41 3
      obtain ⟨w41, h41, r41⟩ := hp 36 (by decide)
      have e41 : (ac.tmps[41]?).getD undef = .pointer (some ⟨r, 0, none⟩) := (ha 41 (by decide)).trans h41
      clear h41
      obtain ⟨w37, h37, r37⟩ := hp 32 (by decide)
      have e37 : (ac.tmps[37]?).getD undef = .bool true := (ha 37 (by decide)).trans h37
      clear h37
      clear ha hp
      refine Reg.Op1.guarded rfl rfl e37 (fun _ => Reg.Op1.plain rfl ?_) (fun h => absurd rfl h)
      go_wp2
      exact ⟨rfl, hK _ _ rfl (fun j k _ _ => Reg.Adds.refl _ _ _)⟩
    · intro val ac u hR hp ha K hK      -- 38: t43 := Op.load 3 t42
      obtain ⟨w42, h42, r42⟩ := hp 37 (by decide)
      have e42 : (ac.tmps[42]?).getD undef = .pointer (some ⟨r, 3, none⟩) := (ha 42 (by decide)).trans h42
      clear h42
      obtain ⟨w37, h37, r37⟩ := hp 32 (by decide)
      have e37 : (ac.tmps[37]?).getD undef = .bool true := (ha 37 (by decide)).trans h37
      clear h37
      clear ha hp
      refine Reg.Op1.guarded rfl rfl e37 (fun _ => Reg.Op1.plain rfl ?_) (fun h => absurd rfl h)
      have x0 := (((Below.refl _ _).drew.trans (Below.mono hR (Nat.le_refl _))).cell (p := ⟨r, 3, none⟩) (hrl)).trans (r3)
      go_wp2
      exact ⟨rfl, hK _ _ rfl (fun j k _ _ => Reg.Adds.refl _ _ _)⟩
    · intro val ac u hR hp ha K hK      -- 39: t44 := Op.binOp BinOp.eql 3 t39 t43 3
      obtain ⟨w39, h39, r39⟩ := hp 34 (by decide)
      have e39 : (ac.tmps[39]?).getD undef = .int .i64 e.got := (ha 39 (by decide)).trans h39
      clear h39
      obtain ⟨w43, h43, r43⟩ := hp 38 (by decide)
      have e43 : (ac.tmps[43]?).getD undef = .int .i64 e.got := (ha 43 (by decide)).trans h43
      clear h43
      obtain ⟨w37, h37, r37⟩ := hp 32 (by decide)
      have e37 : (ac.tmps[37]?).getD undef = .bool true := (ha 37 (by decide)).trans h37
      clear h37
      clear ha hp
      refine Reg.Op1.guarded rfl rfl e37 (fun _ => Reg.Op1.plain rfl ?_) (fun h => absurd rfl h)
      go_wp2
      exact ⟨rfl, hK _ _ rfl (fun j k _ _ => Reg.Adds.refl _ _ _)⟩
    · intro val ac u hR hp ha K hK      -- 40: t45 := Op.pick t37 t44 (const (Value.bool false))
      obtain ⟨w37, h37, r37⟩ := hp 32 (by decide)
      have e37 : (ac.tmps[37]?).getD undef = .bool true := (ha 37 (by decide)).trans h37
      clear h37
      obtain ⟨w44, h44, r44⟩ := hp 39 (by decide)
      have e44 : (ac.tmps[44]?).getD undef = .bool true := (ha 44 (by decide)).trans h44
      clear h44
      clear ha hp
      refine Reg.Op1.plain rfl ?_
      go_wp2
      exact ⟨rfl, hK _ _ rfl (fun j k _ _ => Reg.Adds.refl _ _ _)⟩
    · intro val ac u hR hp ha K hK      -- 41: t46 := Op.move t45
      obtain ⟨w45, h45, r45⟩ := hp 40 (by decide)
      have e45 : (ac.tmps[45]?).getD undef = .bool true := (ha 45 (by decide)).trans h45
      clear h45
      clear ha hp
      refine Reg.Op1.plain rfl ?_
      go_wp2
      exact ⟨rfl, hK _ _ rfl (fun j k _ _ => Reg.Adds.refl _ _ _)⟩
    · intro val ac u hR hp ha K hK      -- 42: t47 := Op.move t0
      have e0 : (ac.tmps[0]?).getD undef = .pointer (some ⟨g, 0, none⟩) := ha 0 (by decide)
      obtain ⟨w46, h46, r46⟩ := hp 41 (by decide)
      have e46 : (ac.tmps[46]?).getD undef = .bool true := (ha 46 (by decide)).trans h46
      clear h46
      clear ha hp
      refine Reg.Op1.guarded rfl rfl e46 (fun _ => Reg.Op1.plain rfl ?_) (fun h => absurd rfl h)
      go_wp2
      exact ⟨rfl, hK _ _ rfl (fun j k _ _ => Reg.Adds.refl _ _ _)⟩
    · intro val ac u hR hp ha K hK      -- 43: t48 := Op.call { value (Operand.func 13), args := #[t47], argTypes := #[26] }
      obtain ⟨w47, h47, r47⟩ := hp 42 (by decide)
      have e47 : (ac.tmps[47]?).getD undef = .pointer (some ⟨g, 0, none⟩) := (ha 47 (by decide)).trans h47
      clear h47
      obtain ⟨w46, h46, r46⟩ := hp 41 (by decide)
      have e46 : (ac.tmps[46]?).getD undef = .bool true := (ha 46 (by decide)).trans h46
      clear h46
      clear ha hp
      refine Reg.Op1.guarded rfl rfl e46 (fun _ => Reg.Op1.plain rfl ?_) (fun h => absurd rfl h)
      have HC := HA.out.keeps (Mem.Keeps.of_below ((Below.refl _ _).drew.trans (Below.mono hR (Nat.le_refl _)))) (fun h => h) (fun _ _ h => h)
      go_wp2_with fail
      refine (out_any HC hs0 (by omega) (by omega)).mono ?_
      rintro x w' ⟨O, oc, rfl, hO, hb, hf⟩
      go_wp2_with fail
      exact ⟨rfl, hK _ _ ⟨O, oc, rfl, hO⟩ (fun j k _ _ => hb)⟩
    · intro val ac u hR hp ha K hK      -- 44: t49 := Op.move t1
      have e1 : (ac.tmps[1]?).getD undef = .pointer (some ⟨r, 0, none⟩) := ha 1 (by decide)
      obtain ⟨w46, h46, r46⟩ := hp 41 (by decide)
      have e46 : (ac.tmps[46]?).getD undef = .bool true := (ha 46 (by decide)).trans h46
      clear h46
      clear ha hp
      refine Reg.Op1.guarded rfl rfl e46 (fun _ => Reg.Op1.plain rfl ?_) (fun h => absurd rfl h)
      go_wp2
      exact ⟨rfl, hK _ _ rfl (fun j k _ _ => Reg.Adds.refl _ _ _)⟩
    · intro val ac u hR hp ha K hK      -- 45: t50 := Op.call { value (Operand.func 29), args := #[t49], argTypes := #[43] }
      obtain ⟨w49, h49, r49⟩ := hp 44 (by decide)
      have e49 : (ac.tmps[49]?).getD undef = .pointer (some ⟨r, 0, none⟩) := (ha 49 (by decide)).trans h49
      clear h49
      obtain ⟨w46, h46, r46⟩ := hp 41 (by decide)
      have e46 : (ac.tmps[46]?).getD undef = .bool true := (ha 46 (by decide)).trans h46
      clear h46
      clear ha hp
      refine Reg.Op1.guarded rfl rfl e46 (fun _ => Reg.Op1.plain rfl ?_) (fun h => absurd rfl h)
      have HC := HR.out.keeps (Mem.Keeps.of_below ((Below.refl _ _).drew.trans (Below.mono hR (Nat.le_refl _)))) (fun h => h) (fun _ _ h => h)
      go_wp2_with fail
      refine (refOut_any HC (by omega) (by omega)).mono ?_
      rintro x w' ⟨O, oc, rfl, hO, hb, hf⟩
      go_wp2_with fail
      exact ⟨rfl, hK _ _ ⟨O, oc, rfl, hO⟩ (fun j k _ _ => hb)⟩
    · intro val ac u hR hp ha K hK      -- 46: t51 := Op.call { value (Operand.func 24), args := #[t48, t50], argTypes := #[28, 28] }
      obtain ⟨w48, h48, r48⟩ := hp 43 (by decide)
      have e48 : (ac.tmps[48]?).getD undef = val 43 := ha 48 (by decide)
      obtain ⟨w50, h50, r50⟩ := hp 45 (by decide)
      have e50 : (ac.tmps[50]?).getD undef = val 45 := ha 50 (by decide)
      obtain ⟨w46, h46, r46⟩ := hp 41 (by decide)
      have e46 : (ac.tmps[46]?).getD undef = .bool true := (ha 46 (by decide)).trans h46
      clear h46
      clear ha hp
      refine Reg.Op1.guarded rfl rfl e46 (fun _ => Reg.Op1.plain rfl ?_) (fun h => absurd rfl h)
      obtain ⟨O1, oc1, hv1, hO1⟩ := h48
      obtain ⟨O2, oc2, hv2, hO2⟩ := h50
      rw [hv1] at e48
      rw [hv2] at e50
      have hO1' := hO1.below r48 (fun _ => hO1.lt)
      have hO2' := hO2.below r50 (fun _ => hO2.lt)
      go_wp2_with fail
      refine (packets_same (Link.out e) O1 O2 oc1 oc2 hO1'.rd hO2'.rd (Nat.le_trans hO1.le hO1.cap)).mono ?_
      rintro x w' ⟨rfl, hb⟩
      go_wp2_with fail
      exact ⟨rfl, hK _ _ rfl (fun j k _ _ => hb)⟩
    · intro val ac u hR hp ha K hK      -- 47: t52 := Op.pick t46 t51 (const (Value.bool false))
      obtain ⟨w46, h46, r46⟩ := hp 41 (by decide)
      have e46 : (ac.tmps[46]?).getD undef = .bool true := (ha 46 (by decide)).trans h46
      clear h46
      obtain ⟨w51, h51, r51⟩ := hp 46 (by decide)
      have e51 : (ac.tmps[51]?).getD undef = .bool true := (ha 51 (by decide)).trans h51
      clear h51
      clear ha hp
      refine Reg.Op1.plain rfl ?_
      go_wp2
      exact ⟨rfl, hK _ _ rfl (fun j k _ _ => Reg.Adds.refl _ _ _)⟩
    · intro val ac u hR hp ha K hK      -- 48: t4 := Op.assign t52
      obtain ⟨w52, h52, r52⟩ := hp 47 (by decide)
      have e52 : (ac.tmps[52]?).getD undef = .bool true := (ha 52 (by decide)).trans h52
      clear h52
      clear ha hp
      refine Reg.Op1.plain rfl ?_
      go_wp2
      exact ⟨rfl, hK _ _ rfl (fun j k _ _ => Reg.Adds.refl _ _ _)⟩
  · intro val u hR H
    obtain ⟨w26, hv, hr⟩ := H 48 (by decide)
    have hv : val 48 = .bool true := hv
    simp only [List.map_cons, List.map_nil, Reg.lay, Act.put, List.setIfInBounds_toArray, List.set_cons_succ, List.set_cons_zero, Nat.reduceAdd, hv]
    have HBB := Lib.hid ((Below.refl _ _).drew.trans (Below.mono hR (Nat.le_refl _)))
    clear hv hr H hR
    go_wp2
    go_ret
    exact ⟨rfl, HBB.out⟩
end Go.Proofs.Ytjkonfanmpcipaa
