/- The walk of CrcMixes: of three pieces of one length, XORed together, the checksum is that of the three, XORed. No conditions. -/
import Derived.Test.YtejojfjbecpofaaCrcT
import Derived.Test.YtejojfjbecpofaaReg
namespace Go.Proofs.Ytejojfjbecpofaa
open Go.ChangeShapes Go.WideShapes Go.ChangeAt Go.RowKit
set_option linter.unusedVariables false

namespace crcMixesOpen
open Crc
theorem mix_snoc : ∀ (a b c : List UInt8) (k : Nat) (x y z : UInt8), a[k]? = some x → b[k]? = some y → c[k]? = some z → mix (a.take (k + 1)) (b.take (k + 1)) (c.take (k + 1)) = mix (a.take k) (b.take k) (c.take k) ++ [x ^^^ y ^^^ z]
  | a0 :: a, b0 :: b, c0 :: c, 0, x, y, z, h1, h2, h3 => by
    simp at h1 h2 h3; subst h1; subst h2; subst h3; simp [mix]
  | a0 :: a, b0 :: b, c0 :: c, k + 1, x, y, z, h1, h2, h3 => by
    have := mix_snoc a b c k x y z (by simpa using h1) (by simpa using h2) (by simpa using h3)
    simp only [List.take_succ_cons, mix, this, List.cons_append]
  | [], _, _, _, _, _, _, h, _, _ => by simp at h
  | _ :: _, [], _, _, _, _, _, _, h, _ => by simp at h
  | _ :: _, _ :: _, [], _, _, _, _, _, _, h => by simp at h

theorem mix_length : ∀ (a b c : List UInt8) (n : Nat), a.length = n → b.length = n → c.length = n → (mix a b c).length = n
  | [], [], [], _, h, _, _ => h
  | _ :: a, _ :: b, _ :: c, 0, h, _, _ => by simp at h
  | _ :: a, _ :: b, _ :: c, n + 1, h1, h2, h3 => by simp only [mix, List.length_cons]; rw [mix_length a b c n (by simpa using h1) (by simpa using h2) (by simpa using h3)]
  | [], _ :: _, _, _, h1, h2, _ => by simp at h1 h2; omega
  | [], [], _ :: _, _, h1, _, h3 => by simp at h1 h3; omega
  | _ :: _, [], _, _, h1, h2, _ => by simp at h1 h2; omega
  | _ :: _, _ :: _, [], _, h1, _, h3 => by simp at h1 h3; omega
theorem xor_byte3 (a b c : UInt8) : bits .xor .u8 ((a.toNat ^^^ b.toNat : Nat) : Int) (c.toNat : Int) = ((a ^^^ b ^^^ c).toNat : Int) := by
  rw [← UInt8.toNat_xor, Crc.xor_byte]
/-- the three pieces -/
structure Args (w : World) (A1 A2 A3 : Option Addr) (l1 l2 l3 : List UInt8) (n : Nat) : Prop where
  r1 : Mem.Rd w w.heap.size A1 (l1.map Mem.byteV)
  r2 : Mem.Rd w w.heap.size A2 (l2.map Mem.byteV)
  r3 : Mem.Rd w w.heap.size A3 (l3.map Mem.byteV)
  n1 : n ≤ l1.length
  n2 : n ≤ l2.length
  n3 : n ≤ l3.length
  le : n ≤ 100000

def Rel (w : World) (l1 l2 l3 : List UInt8) (n : Nat) (vx vk : Value) (wr : World) : Prop :=
  ∃ (k : Nat) (X : Option Addr) (d : Nat), k ≤ n ∧ vx = .slice X k d ∧ vk = .int .i64 k ∧ Hid (Mem.Own wr 5 1 X k d ((mix (l1.take k) (l2.take k) (l3.take k)).map Mem.byteV)) ∧ Hid (Mem.From w.heap.size X) ∧ Hid (Below w.heap.size w wr)

set_option maxHeartbeats 4000000 in
theorem walk (A1 A2 A3 : Option Addr) (c1 c2 c3 : Nat) (l1 l2 l3 : List UInt8) (w : World) (n : Nat) (hn : min (min l1.length l2.length) l3.length = n) (hA : Args w A1 A2 A3 l1 l2 l3 n)
   (hl1 : l1.length ≤ c1) (hl2 : l2.length ≤ c2) (hl3 : l3.length ≤ c3) (hc1 : c1 ≤ 9223372036854775807) (hc2 : c2 ≤ 9223372036854775807) (hc3 : c3 ≤ 9223372036854775807) :
    Calls Try.prog 6 #[.slice A1 l1.length c1, .slice A2 l2.length c2, .slice A3 l3.length c3] w fun e w' => e = .returned (.bool true) ∧ Below w.heap.size w w' := by
  have HA := Lib.hid hA
  have hle := hA.le
  have h1 := hA.n1
  have h2 := hA.n2
  have h3 := hA.n3
  clear hA
  have hmin : ∀ (ts : Array TypeId) (t : TypeId) (W : World), (Builtin.min_ ts t #[.int .i64 (l1.length : Int), .int .i64 (l2.length : Int), .int .i64 (l3.length : Int)]).run Try.prog W = .ok (.int .i64 (n : Int)) W := by
    intro ts t W
    rw [run_min_int3]
    congr 2
    rw [← hn]
    split <;> split at * <;> omega
  clear hn
  go_enter Try.func6, Try.ntmps6
  go_wp2_with (first
    | (go_at_call 10; refine (able_any _).mono ?_; rintro e w1 ⟨rfl, hb1⟩))
  go_loopw [8, 9] (Rel w l1 l2 l3 n) (fun _ t _ => n - (intOf t).toNat)
  case atStart => exact ⟨0, none, 0, by omega, rfl, rfl, Mem.Own.nil _ _ _, Mem.From.none_ _, hb1⟩
  case round =>
    obtain ⟨k, X, d, hk, rfl, rfl, HO, HF, HB⟩ := hrel
    by_cases hlt : k < n
    · obtain ⟨b1, o1, x, rfl, hx, hcx⟩ := HA.out.r1.byte (k := k) (by omega)
      obtain ⟨b2, o2, y, rfl, hy, hcy⟩ := HA.out.r2.byte (k := k) (by omega)
      obtain ⟨b3, o3, z, rfl, hz, hcz⟩ := HA.out.r3.byte (k := k) (by omega)
      have hx' := Lib.hid hx
      have hy' := Lib.hid hy
      have hz' := Lib.hid hz
      clear hx hy hz
      go_wp2
      refine Reg.wp_region_rel (by kernel_rfl) 81 18 rfl rfl (by kernel_rfl) (Reg.One 16 18 w.heap.size) (Reg.One.refl _ _ _) (Reg.One.trans _ _ _)
        (fun i v u => match i with
          | 0 => v = .slice X k d
          | 1 => v = .slice (some ⟨b1, o1, none⟩) l1.length c1
          | 2 => v = .int .i64 k
          | 3 => v = .pointer (some ⟨b1, o1 + k, none⟩)
          | 4 => v = Mem.byteV x
          | 5 => v = .slice (some ⟨b2, o2, none⟩) l2.length c2
          | 6 => v = .int .i64 k
          | 7 => v = .pointer (some ⟨b2, o2 + k, none⟩)
          | 8 => v = Mem.byteV y
          | 9 => v = Mem.byteV (x ^^^ y)
          | 10 => v = .slice (some ⟨b3, o3, none⟩) l3.length c3
          | 11 => v = .int .i64 k
          | 12 => v = .pointer (some ⟨b3, o3 + k, none⟩)
          | 13 => v = Mem.byteV z
          | 14 => v = Mem.byteV (x ^^^ y ^^^ z)
          | 15 => ∃ s, v = .slice (some ⟨s, 0, none⟩) 1 1 ∧ Mem.Rd u (s + 1) (some ⟨s, 0, none⟩) [Mem.byteV (x ^^^ y ^^^ z)] ∧ s + 1 ≤ u.heap.size
          | 16 => ∃ X' d', v = .slice X' (k + 1) d' ∧ Mem.Own u 5 1 X' (k + 1) d' ((mix (l1.take (k + 1)) (l2.take (k + 1)) (l3.take (k + 1))).map Mem.byteV) ∧ Mem.From w.heap.size X'
          | 17 => ∃ X' d', v = .slice X' (k + 1) d' ∧ Mem.Own u 5 1 X' (k + 1) d' ((mix (l1.take (k + 1)) (l2.take (k + 1)) (l3.take (k + 1))).map Mem.byteV) ∧ Mem.From w.heap.size X'
          | _ => True) ?_ ?_
      · refine Reg.Steps.cons ?_ (Reg.Steps.cons ?_ (Reg.Steps.cons ?_ (Reg.Steps.cons ?_ (Reg.Steps.cons ?_ (Reg.Steps.cons ?_ (Reg.Steps.cons ?_ (Reg.Steps.cons ?_ (Reg.Steps.cons ?_ (Reg.Steps.cons ?_ (Reg.Steps.cons ?_ (Reg.Steps.cons ?_ (Reg.Steps.cons ?_ (Reg.Steps.cons ?_ (Reg.Steps.cons ?_ (Reg.Steps.cons ?_ (Reg.Steps.cons ?_ (Reg.Steps.cons ?_ (Reg.Steps.nil _))))))))))))))))))
        · intro val ac u hR hp ha K hK      -- 0: t27 := Op.move t8
          have e8 : (ac.tmps[8]?).getD undef = .slice X k d := ha 8 (by decide)
          clear ha hp
          refine Reg.Op1.plain rfl ?_
          go_wp2
          exact ⟨rfl, hK _ _ rfl (fun j k _ _ => Reg.One.refl _ _ _ _ _ _)⟩
        · intro val ac u hR hp ha K hK      -- 1: t28 := Op.move t0
          have e0 : (ac.tmps[0]?).getD undef = .slice (some ⟨b1, o1, none⟩) l1.length c1 := ha 0 (by decide)
          clear ha hp
          refine Reg.Op1.plain rfl ?_
          go_wp2
          exact ⟨rfl, hK _ _ rfl (fun j k _ _ => Reg.One.refl _ _ _ _ _ _)⟩
        · intro val ac u hR hp ha K hK      -- 2: t29 := Op.move t9
          have e9 : (ac.tmps[9]?).getD undef = .int .i64 k := ha 9 (by decide)
          clear ha hp
          refine Reg.Op1.plain rfl ?_
          go_wp2
          exact ⟨rfl, hK _ _ rfl (fun j k _ _ => Reg.One.refl _ _ _ _ _ _)⟩
        · intro val ac u hR hp ha K hK      -- 3: t30 := Op.indexAddr 24 t28 t29
          obtain ⟨w28, h28, r28⟩ := hp 1 (by decide)
          have e28 : (ac.tmps[28]?).getD undef = .slice (some ⟨b1, o1, none⟩) l1.length c1 := (ha 28 (by decide)).trans h28
          clear h28
          obtain ⟨w29, h29, r29⟩ := hp 2 (by decide)
          have e29 : (ac.tmps[29]?).getD undef = .int .i64 k := (ha 29 (by decide)).trans h29
          clear h29
          clear ha hp
          refine Reg.Op1.plain rfl ?_
          go_wp2
          exact ⟨rfl, hK _ _ rfl (fun j k _ _ => Reg.One.refl _ _ _ _ _ _)⟩
        · intro val ac u hR hp ha K hK      -- 4: t31 := Op.load 5 t30
          obtain ⟨w30, h30, r30⟩ := hp 3 (by decide)
          have e30 : (ac.tmps[30]?).getD undef = .pointer (some ⟨b1, o1 + k, none⟩) := (ha 30 (by decide)).trans h30
          clear h30
          clear ha hp
          refine Reg.Op1.plain rfl ?_
          have hbu : Below w.heap.size w u := HB.out.drew.trans (hR.weak HB.out.size)
          have hc := (hbu.cell (p := ⟨b1, o1 + k, none⟩) (World.block_lt_of_cell? w _ hcx)).trans hcx
          clear hbu
          go_wp2
          exact ⟨rfl, hK _ _ rfl (fun j k _ _ => Reg.One.refl _ _ _ _ _ _)⟩
        · intro val ac u hR hp ha K hK      -- 5: t32 := Op.move t1
          have e1 : (ac.tmps[1]?).getD undef = .slice (some ⟨b2, o2, none⟩) l2.length c2 := ha 1 (by decide)
          clear ha hp
          refine Reg.Op1.plain rfl ?_
          go_wp2
          exact ⟨rfl, hK _ _ rfl (fun j k _ _ => Reg.One.refl _ _ _ _ _ _)⟩
        · intro val ac u hR hp ha K hK      -- 6: t33 := Op.move t9
          have e9 : (ac.tmps[9]?).getD undef = .int .i64 k := ha 9 (by decide)
          clear ha hp
          refine Reg.Op1.plain rfl ?_
          go_wp2
          exact ⟨rfl, hK _ _ rfl (fun j k _ _ => Reg.One.refl _ _ _ _ _ _)⟩
        · intro val ac u hR hp ha K hK      -- 7: t34 := Op.indexAddr 24 t32 t33
          obtain ⟨w32, h32, r32⟩ := hp 5 (by decide)
          have e32 : (ac.tmps[32]?).getD undef = .slice (some ⟨b2, o2, none⟩) l2.length c2 := (ha 32 (by decide)).trans h32
          clear h32
          obtain ⟨w33, h33, r33⟩ := hp 6 (by decide)
          have e33 : (ac.tmps[33]?).getD undef = .int .i64 k := (ha 33 (by decide)).trans h33
          clear h33
          clear ha hp
          refine Reg.Op1.plain rfl ?_
          go_wp2
          exact ⟨rfl, hK _ _ rfl (fun j k _ _ => Reg.One.refl _ _ _ _ _ _)⟩
        · intro val ac u hR hp ha K hK      -- 8: t35 := Op.load 5 t34
          obtain ⟨w34, h34, r34⟩ := hp 7 (by decide)
          have e34 : (ac.tmps[34]?).getD undef = .pointer (some ⟨b2, o2 + k, none⟩) := (ha 34 (by decide)).trans h34
          clear h34
          clear ha hp
          refine Reg.Op1.plain rfl ?_
          have hbu : Below w.heap.size w u := HB.out.drew.trans (hR.weak HB.out.size)
          have hc := (hbu.cell (p := ⟨b2, o2 + k, none⟩) (World.block_lt_of_cell? w _ hcy)).trans hcy
          clear hbu
          go_wp2
          exact ⟨rfl, hK _ _ rfl (fun j k _ _ => Reg.One.refl _ _ _ _ _ _)⟩
        · intro val ac u hR hp ha K hK      -- 9: t36 := Op.binOp BinOp.xor 5 t31 t35 5
          obtain ⟨w31, h31, r31⟩ := hp 4 (by decide)
          have e31 : (ac.tmps[31]?).getD undef = Mem.byteV x := (ha 31 (by decide)).trans h31
          clear h31
          obtain ⟨w35, h35, r35⟩ := hp 8 (by decide)
          have e35 : (ac.tmps[35]?).getD undef = Mem.byteV y := (ha 35 (by decide)).trans h35
          clear h35
          clear ha hp
          refine Reg.Op1.plain rfl ?_
          go_wp2
          exact ⟨rfl, hK _ _ (congrArg (Value.int .u8) (Crc.xor_byte x y)) (fun j k _ _ => Reg.One.refl _ _ _ _ _ _)⟩
        · intro val ac u hR hp ha K hK      -- 10: t37 := Op.move t2
          have e2 : (ac.tmps[2]?).getD undef = .slice (some ⟨b3, o3, none⟩) l3.length c3 := ha 2 (by decide)
          clear ha hp
          refine Reg.Op1.plain rfl ?_
          go_wp2
          exact ⟨rfl, hK _ _ rfl (fun j k _ _ => Reg.One.refl _ _ _ _ _ _)⟩
        · intro val ac u hR hp ha K hK      -- 11: t38 := Op.move t9
          have e9 : (ac.tmps[9]?).getD undef = .int .i64 k := ha 9 (by decide)
          clear ha hp
          refine Reg.Op1.plain rfl ?_
          go_wp2
          exact ⟨rfl, hK _ _ rfl (fun j k _ _ => Reg.One.refl _ _ _ _ _ _)⟩
        · intro val ac u hR hp ha K hK      -- 12: t39 := Op.indexAddr 24 t37 t38
          obtain ⟨w37, h37, r37⟩ := hp 10 (by decide)
          have e37 : (ac.tmps[37]?).getD undef = .slice (some ⟨b3, o3, none⟩) l3.length c3 := (ha 37 (by decide)).trans h37
          clear h37
          obtain ⟨w38, h38, r38⟩ := hp 11 (by decide)
          have e38 : (ac.tmps[38]?).getD undef = .int .i64 k := (ha 38 (by decide)).trans h38
          clear h38
          clear ha hp
          refine Reg.Op1.plain rfl ?_
          go_wp2
          exact ⟨rfl, hK _ _ rfl (fun j k _ _ => Reg.One.refl _ _ _ _ _ _)⟩
        · intro val ac u hR hp ha K hK      -- 13: t40 := Op.load 5 t39
          obtain ⟨w39, h39, r39⟩ := hp 12 (by decide)
          have e39 : (ac.tmps[39]?).getD undef = .pointer (some ⟨b3, o3 + k, none⟩) := (ha 39 (by decide)).trans h39
          clear h39
          clear ha hp
          refine Reg.Op1.plain rfl ?_
          have hbu : Below w.heap.size w u := HB.out.drew.trans (hR.weak HB.out.size)
          have hc := (hbu.cell (p := ⟨b3, o3 + k, none⟩) (World.block_lt_of_cell? w _ hcz)).trans hcz
          clear hbu
          go_wp2
          exact ⟨rfl, hK _ _ rfl (fun j k _ _ => Reg.One.refl _ _ _ _ _ _)⟩
        · intro val ac u hR hp ha K hK      -- 14: t41 := Op.binOp BinOp.xor 5 t36 t40 5
          obtain ⟨w36, h36, r36⟩ := hp 9 (by decide)
          have e36 : (ac.tmps[36]?).getD undef = Mem.byteV (x ^^^ y) := (ha 36 (by decide)).trans h36
          clear h36
          obtain ⟨w40, h40, r40⟩ := hp 13 (by decide)
          have e40 : (ac.tmps[40]?).getD undef = Mem.byteV z := (ha 40 (by decide)).trans h40
          clear h40
          clear ha hp
          refine Reg.Op1.plain rfl ?_
          go_wp2
          exact ⟨rfl, hK _ _ (congrArg (Value.int .u8) (xor_byte3 x y z)) (fun j k _ _ => Reg.One.refl _ _ _ _ _ _)⟩
        · intro val ac u hR hp ha K hK      -- 15: t42 := Op.buildSlice 24 1 #[(0, t41)]
          obtain ⟨w41, h41, r41⟩ := hp 14 (by decide)
          have e41 : (ac.tmps[41]?).getD undef = Mem.byteV (x ^^^ y ^^^ z) := (ha 41 (by decide)).trans h41
          clear h41
          clear ha hp
          refine Reg.Op1.plain rfl ?_
          have hbu : w.heap.size ≤ u.heap.size := Nat.le_trans HB.out.size (hR.weak HB.out.size).size
          go_wp2
          exact ⟨rfl, hK _ _ ⟨u.heap.size, rfl, Mem.Rd.alloc_new u _ _ _ rfl, by simp⟩ (fun j k _ _ => Reg.One.adds (Reg.below_new _ _) hbu)⟩
        · intro val ac u hR hp ha K hK      -- 16: t43 := Op.call { builtin append, args := #[t27, t42], argTypes := #[24, 24] }
          obtain ⟨w27, h27, r27⟩ := hp 0 (by decide)
          have e27 : (ac.tmps[27]?).getD undef = .slice X k d := (ha 27 (by decide)).trans h27
          clear h27
          obtain ⟨w42, h42, r42⟩ := hp 15 (by decide)
          have e42 : (ac.tmps[42]?).getD undef = val 15 := ha 42 (by decide)
          clear ha hp
          refine Reg.Op1.plain rfl ?_
          obtain ⟨s, hv, hrd, hs⟩ := h42
          rw [hv] at e42
          have hbu := hR.toM
          have hown := HO.out.drew.below hbu (fun _ => HO.out.lt)
          have hBB : Below w.heap.size w u := HB.out.drew.trans (hR.weak HB.out.size)
          refine Mem.wpList_app u rfl (.tmp 27) (.tmp 42) _ rfl bytes_elem X k d _ (Reg.eval_of e27) (s + 1) (some ⟨s, 0, none⟩) 1 1 [Mem.byteV (x ^^^ y ^^^ z)] (Reg.eval_of e42) ?_ hown (hrd.below (r42.toM.mono hs)) rfl (by simp [Value.oneCell']) (by unfold maxLen; omega) (by omega)
          intro X' d' u' hown' hg hat
          refine ⟨rfl, hK _ _ ⟨X', d', rfl, ?_, ?_⟩ (Reg.One.writer ((Below.refl _ _).grown hg hBB.size HF.out.blk) (by decide) (by decide +kernel))⟩
          · rw [mix_snoc l1 l2 l3 k x y z hx'.out hy'.out hz'.out, List.map_append]; exact hown'
          · rcases hat with rfl | rfl
            · exact HF.out
            · exact Mem.From.some_ hBB.size
        · intro val ac u hR hp ha K hK      -- 17: t8 := Op.assign t43
          obtain ⟨w43, h43, r43⟩ := hp 16 (by decide)
          have e43 : (ac.tmps[43]?).getD undef = val 16 := ha 43 (by decide)
          clear ha hp
          refine Reg.Op1.plain rfl ?_
          obtain ⟨X', d', hv, hown, hf⟩ := h43
          rw [hv] at e43
          go_wp2
          exact ⟨rfl, hK _ _ ⟨X', d', rfl, hown.below (r43.fromM (by decide) (by decide)) (fun _ => hown.lt), hf⟩ (fun j k _ _ => Reg.One.refl _ _ _ _ _ _)⟩
      · intro val u hR H
        obtain ⟨w17, ⟨X', d', hv, hown, hf⟩, hr⟩ := H 17 (by decide)
        have hown := hown.below (hr.fromM (by decide) (by decide)) (fun _ => hown.lt)
        have hBB : Below w.heap.size w u := HB.out.drew.trans (hR.weak HB.out.size)
        clear H hR hr hcx hcy hcz
        simp only [List.map_cons, List.map_nil, Reg.lay, Act.put, List.setIfInBounds_toArray, List.set_cons_succ, List.set_cons_zero, Nat.reduceAdd, hv]
        go_wp2
        go_roundw
        case rel => exact ⟨k + 1, X', d', by omega, rfl, by go_num, hown, hf, hBB⟩
        case measure => simp [intOf]; omega
    · obtain rfl : k = n := by omega
      have hle1 : (k : Int) ≤ (c1 : Int) := by omega
      have hle2 : (k : Int) ≤ (c2 : Int) := by omega
      have hle3 : (k : Int) ≤ (c3 : Int) := by omega
      go_wp2
      refine Reg.wp_region_rel (by kernel_rfl) 81 17 rfl rfl (by kernel_rfl) (Reg.Adds) (Reg.Adds.refl) (Reg.Adds.trans)
        (fun i v u => match i with
          | 0 => ∃ s, v = .slice (some ⟨s, 0, none⟩) 0 0 ∧ Mem.Own u 5 1 (some ⟨s, 0, none⟩) 0 0 []
          | 1 => v = .slice A1 l1.length c1
          | 2 => v = .int .i64 k
          | 3 => v = .slice A1 k c1
          | 4 => ∃ A' c', v = .slice A' k c' ∧ Mem.Own u 5 1 A' k c' ((l1.take k).map Mem.byteV)
          | 5 => ∃ s, v = .slice (some ⟨s, 0, none⟩) 0 0 ∧ Mem.Own u 5 1 (some ⟨s, 0, none⟩) 0 0 []
          | 6 => v = .slice A2 l2.length c2
          | 7 => v = .int .i64 k
          | 8 => v = .slice A2 k c2
          | 9 => ∃ A' c', v = .slice A' k c' ∧ Mem.Own u 5 1 A' k c' ((l2.take k).map Mem.byteV)
          | 10 => ∃ s, v = .slice (some ⟨s, 0, none⟩) 0 0 ∧ Mem.Own u 5 1 (some ⟨s, 0, none⟩) 0 0 []
          | 11 => v = .slice A3 l3.length c3
          | 12 => v = .int .i64 k
          | 13 => v = .slice A3 k c3
          | 14 => ∃ A' c', v = .slice A' k c' ∧ Mem.Own u 5 1 A' k c' ((l3.take k).map Mem.byteV)
          | 15 => ∃ s D1 e1 D2 e2 D3 e3, v = .slice (some ⟨s, 0, none⟩) 3 3 ∧ Mem.Rd u (s + 1) (some ⟨s, 0, none⟩) [.slice D1 k e1, .slice D2 k e2, .slice D3 k e3] ∧ s + 1 ≤ u.heap.size ∧ Mem.Rd u u.heap.size D1 ((l1.take k).map Mem.byteV) ∧ Mem.Rd u u.heap.size D2 ((l2.take k).map Mem.byteV) ∧ Mem.Rd u u.heap.size D3 ((l3.take k).map Mem.byteV)
          | 16 => ∃ s D1 e1 D2 e2 D3 e3, v = .slice (some ⟨s, 0, none⟩) 3 3 ∧ Mem.Rd u (s + 1) (some ⟨s, 0, none⟩) [.slice D1 k e1, .slice D2 k e2, .slice D3 k e3] ∧ s + 1 ≤ u.heap.size ∧ Mem.Rd u u.heap.size D1 ((l1.take k).map Mem.byteV) ∧ Mem.Rd u u.heap.size D2 ((l2.take k).map Mem.byteV) ∧ Mem.Rd u u.heap.size D3 ((l3.take k).map Mem.byteV)
          | _ => True) ?_ ?_
      · refine Reg.Steps.cons ?_ (Reg.Steps.cons ?_ (Reg.Steps.cons ?_ (Reg.Steps.cons ?_ (Reg.Steps.cons ?_ (Reg.Steps.cons ?_ (Reg.Steps.cons ?_ (Reg.Steps.cons ?_ (Reg.Steps.cons ?_ (Reg.Steps.cons ?_ (Reg.Steps.cons ?_ (Reg.Steps.cons ?_ (Reg.Steps.cons ?_ (Reg.Steps.cons ?_ (Reg.Steps.cons ?_ (Reg.Steps.cons ?_ (Reg.Steps.cons ?_ (Reg.Steps.nil _)))))))))))))))))
        · intro val ac u hR hp ha K hK      -- 0: t44 := Op.buildSlice 24 0 #[]
          clear ha hp
          refine Reg.Op1.plain rfl ?_
          go_wp2
          exact ⟨rfl, hK _ _ ⟨u.heap.size, rfl, Mem.Own.lit u _ _ #[] 0 rfl rfl (by simp [maxLen])⟩ (fun j k _ _ => Reg.below_new _ _)⟩
        · intro val ac u hR hp ha K hK      -- 1: t45 := Op.move t0
          have e0 : (ac.tmps[0]?).getD undef = .slice A1 l1.length c1 := ha 0 (by decide)
          clear ha hp
          refine Reg.Op1.plain rfl ?_
          go_wp2
          exact ⟨rfl, hK _ _ rfl (fun j k _ _ => Reg.Adds.refl _ _ _)⟩
        · intro val ac u hR hp ha K hK      -- 2: t46 := Op.move t7
          have e7 : (ac.tmps[7]?).getD undef = .int .i64 k := ha 7 (by decide)
          clear ha hp
          refine Reg.Op1.plain rfl ?_
          go_wp2
          exact ⟨rfl, hK _ _ rfl (fun j k _ _ => Reg.Adds.refl _ _ _)⟩
        · intro val ac u hR hp ha K hK      -- 3: t47 := Op.slice 24 t45 none (some t46) none
          obtain ⟨w45, h45, r45⟩ := hp 1 (by decide)
          have e45 : (ac.tmps[45]?).getD undef = .slice A1 l1.length c1 := (ha 45 (by decide)).trans h45
          clear h45
          obtain ⟨w46, h46, r46⟩ := hp 2 (by decide)
          have e46 : (ac.tmps[46]?).getD undef = .int .i64 k := (ha 46 (by decide)).trans h46
          clear h46
          clear ha hp
          refine Reg.Op1.plain rfl ?_
          go_wp2
          exact ⟨rfl, hK _ _ rfl (fun j k _ _ => Reg.Adds.refl _ _ _)⟩
        · intro val ac u hR hp ha K hK      -- 4: t48 := Op.call { builtin append, args := #[t44, t47], argTypes := #[24, 24] }
          obtain ⟨w44, h44, r44⟩ := hp 0 (by decide)
          have e44 : (ac.tmps[44]?).getD undef = val 0 := ha 44 (by decide)
          obtain ⟨w47, h47, r47⟩ := hp 3 (by decide)
          have e47 : (ac.tmps[47]?).getD undef = .slice A1 k c1 := (ha 47 (by decide)).trans h47
          clear h47
          clear ha hp
          refine Reg.Op1.plain rfl ?_
          obtain ⟨s, hv, hown⟩ := h44
          rw [hv] at e44
          have hB : Below w.heap.size w u := HB.out.drew.trans (Below.mono hR HB.out.size)
          refine Mem.wpList_app0 u rfl (.tmp 44) (.tmp 47) _ rfl bytes_elem _ (Reg.eval_of e44) w.heap.size A1 k c1 ((l1.take k).map Mem.byteV) (Reg.eval_of e47) ?_ (hown.below r44 (fun _ => hown.lt)) ?_ (by simp; omega) (Mem.bytes_one _) (by unfold maxLen; omega) (by omega)
          · intro A' c' u' hown' hb' _
            exact ⟨rfl, hK _ _ ⟨A', c', rfl, hown'⟩ (fun j k _ _ => hb')⟩
          · rw [List.map_take]; exact (HA.out.r1.below hB).take k
        · intro val ac u hR hp ha K hK      -- 5: t49 := Op.buildSlice 24 0 #[]
          clear ha hp
          refine Reg.Op1.plain rfl ?_
          go_wp2
          exact ⟨rfl, hK _ _ ⟨u.heap.size, rfl, Mem.Own.lit u _ _ #[] 0 rfl rfl (by simp [maxLen])⟩ (fun j k _ _ => Reg.below_new _ _)⟩
        · intro val ac u hR hp ha K hK      -- 6: t50 := Op.move t1
          have e1 : (ac.tmps[1]?).getD undef = .slice A2 l2.length c2 := ha 1 (by decide)
          clear ha hp
          refine Reg.Op1.plain rfl ?_
          go_wp2
          exact ⟨rfl, hK _ _ rfl (fun j k _ _ => Reg.Adds.refl _ _ _)⟩
        · intro val ac u hR hp ha K hK      -- 7: t51 := Op.move t7
          have e7 : (ac.tmps[7]?).getD undef = .int .i64 k := ha 7 (by decide)
          clear ha hp
          refine Reg.Op1.plain rfl ?_
          go_wp2
          exact ⟨rfl, hK _ _ rfl (fun j k _ _ => Reg.Adds.refl _ _ _)⟩
        · intro val ac u hR hp ha K hK      -- 8: t52 := Op.slice 24 t50 none (some t51) none
          obtain ⟨w50, h50, r50⟩ := hp 6 (by decide)
          have e50 : (ac.tmps[50]?).getD undef = .slice A2 l2.length c2 := (ha 50 (by decide)).trans h50
          clear h50
          obtain ⟨w51, h51, r51⟩ := hp 7 (by decide)
          have e51 : (ac.tmps[51]?).getD undef = .int .i64 k := (ha 51 (by decide)).trans h51
          clear h51
          clear ha hp
          refine Reg.Op1.plain rfl ?_
          go_wp2
          exact ⟨rfl, hK _ _ rfl (fun j k _ _ => Reg.Adds.refl _ _ _)⟩
        · intro val ac u hR hp ha K hK      -- 9: t53 := Op.call { builtin append, args := #[t49, t52], argTypes := #[24, 24] }
          obtain ⟨w49, h49, r49⟩ := hp 5 (by decide)
          have e49 : (ac.tmps[49]?).getD undef = val 5 := ha 49 (by decide)
          obtain ⟨w52, h52, r52⟩ := hp 8 (by decide)
          have e52 : (ac.tmps[52]?).getD undef = .slice A2 k c2 := (ha 52 (by decide)).trans h52
          clear h52
          clear ha hp
          refine Reg.Op1.plain rfl ?_
          obtain ⟨s, hv, hown⟩ := h49
          rw [hv] at e49
          have hB : Below w.heap.size w u := HB.out.drew.trans (Below.mono hR HB.out.size)
          refine Mem.wpList_app0 u rfl (.tmp 49) (.tmp 52) _ rfl bytes_elem _ (Reg.eval_of e49) w.heap.size A2 k c2 ((l2.take k).map Mem.byteV) (Reg.eval_of e52) ?_ (hown.below r49 (fun _ => hown.lt)) ?_ (by simp; omega) (Mem.bytes_one _) (by unfold maxLen; omega) (by omega)
          · intro A' c' u' hown' hb' _
            exact ⟨rfl, hK _ _ ⟨A', c', rfl, hown'⟩ (fun j k _ _ => hb')⟩
          · rw [List.map_take]; exact (HA.out.r2.below hB).take k
        · intro val ac u hR hp ha K hK      -- 10: t54 := Op.buildSlice 24 0 #[]
          clear ha hp
          refine Reg.Op1.plain rfl ?_
          go_wp2
          exact ⟨rfl, hK _ _ ⟨u.heap.size, rfl, Mem.Own.lit u _ _ #[] 0 rfl rfl (by simp [maxLen])⟩ (fun j k _ _ => Reg.below_new _ _)⟩
        · intro val ac u hR hp ha K hK      -- 11: t55 := Op.move t2
          have e2 : (ac.tmps[2]?).getD undef = .slice A3 l3.length c3 := ha 2 (by decide)
          clear ha hp
          refine Reg.Op1.plain rfl ?_
          go_wp2
          exact ⟨rfl, hK _ _ rfl (fun j k _ _ => Reg.Adds.refl _ _ _)⟩
        · intro val ac u hR hp ha K hK      -- 12: t56 := Op.move t7
          have e7 : (ac.tmps[7]?).getD undef = .int .i64 k := ha 7 (by decide)
          clear ha hp
          refine Reg.Op1.plain rfl ?_
          go_wp2
          exact ⟨rfl, hK _ _ rfl (fun j k _ _ => Reg.Adds.refl _ _ _)⟩
        · intro val ac u hR hp ha K hK      -- 13: t57 := Op.slice 24 t55 none (some t56) none
          obtain ⟨w55, h55, r55⟩ := hp 11 (by decide)
          have e55 : (ac.tmps[55]?).getD undef = .slice A3 l3.length c3 := (ha 55 (by decide)).trans h55
          clear h55
          obtain ⟨w56, h56, r56⟩ := hp 12 (by decide)
          have e56 : (ac.tmps[56]?).getD undef = .int .i64 k := (ha 56 (by decide)).trans h56
          clear h56
          clear ha hp
          refine Reg.Op1.plain rfl ?_
          go_wp2
          exact ⟨rfl, hK _ _ rfl (fun j k _ _ => Reg.Adds.refl _ _ _)⟩
        · intro val ac u hR hp ha K hK      -- 14: t58 := Op.call { builtin append, args := #[t54, t57], argTypes := #[24, 24] }
          obtain ⟨w54, h54, r54⟩ := hp 10 (by decide)
          have e54 : (ac.tmps[54]?).getD undef = val 10 := ha 54 (by decide)
          obtain ⟨w57, h57, r57⟩ := hp 13 (by decide)
          have e57 : (ac.tmps[57]?).getD undef = .slice A3 k c3 := (ha 57 (by decide)).trans h57
          clear h57
          clear ha hp
          refine Reg.Op1.plain rfl ?_
          obtain ⟨s, hv, hown⟩ := h54
          rw [hv] at e54
          have hB : Below w.heap.size w u := HB.out.drew.trans (Below.mono hR HB.out.size)
          refine Mem.wpList_app0 u rfl (.tmp 54) (.tmp 57) _ rfl bytes_elem _ (Reg.eval_of e54) w.heap.size A3 k c3 ((l3.take k).map Mem.byteV) (Reg.eval_of e57) ?_ (hown.below r54 (fun _ => hown.lt)) ?_ (by simp; omega) (Mem.bytes_one _) (by unfold maxLen; omega) (by omega)
          · intro A' c' u' hown' hb' _
            exact ⟨rfl, hK _ _ ⟨A', c', rfl, hown'⟩ (fun j k _ _ => hb')⟩
          · rw [List.map_take]; exact (HA.out.r3.below hB).take k
        · intro val ac u hR hp ha K hK      -- 15: t59 := Op.buildSlice 22 3 #[(0, t48), (1, t53), (2, t58)]
          obtain ⟨w48, h48, r48⟩ := hp 4 (by decide)
          have e48 : (ac.tmps[48]?).getD undef = val 4 := ha 48 (by decide)
          obtain ⟨w53, h53, r53⟩ := hp 9 (by decide)
          have e53 : (ac.tmps[53]?).getD undef = val 9 := ha 53 (by decide)
          obtain ⟨w58, h58, r58⟩ := hp 14 (by decide)
          have e58 : (ac.tmps[58]?).getD undef = val 14 := ha 58 (by decide)
          clear ha hp
          refine Reg.Op1.plain rfl ?_
          obtain ⟨D1, f1, hv1, ho1⟩ := h48
          obtain ⟨D2, f2, hv2, ho2⟩ := h53
          obtain ⟨D3, f3, hv3, ho3⟩ := h58
          rw [hv1] at e48
          rw [hv2] at e53
          rw [hv3] at e58
          have q1 := Lib.hid (ho1.rd.below r48 |>.more r48.size)
          have q2 := Lib.hid (ho2.rd.below r53 |>.more r53.size)
          have q3 := Lib.hid (ho3.rd.below r58 |>.more r58.size)
          clear ho1 ho2 ho3 hv1 hv2 hv3 r48 r53 r58
          go_wp2
          exact ⟨rfl, hK _ _ ⟨u.heap.size, D1, f1, D2, f2, D3, f3, rfl, Mem.Rd.alloc_new u _ _ _ rfl, by simp, (q1.out.alloc (Nat.le_refl _) _).more (by simp), (q2.out.alloc (Nat.le_refl _) _).more (by simp), (q3.out.alloc (Nat.le_refl _) _).more (by simp)⟩ (fun j k _ _ => Reg.below_new _ _)⟩
        · intro val ac u hR hp ha K hK      -- 16: t10 := Op.assign t59
          obtain ⟨w59, h59, r59⟩ := hp 15 (by decide)
          have e59 : (ac.tmps[59]?).getD undef = val 15 := ha 59 (by decide)
          clear ha hp
          refine Reg.Op1.plain rfl ?_
          obtain ⟨s, D1, f1, D2, f2, D3, f3, hv, hb, hs, q1, q2, q3⟩ := h59
          rw [hv] at e59
          have q1 := Lib.hid (q1.below r59 |>.more r59.size)
          have q2 := Lib.hid (q2.below r59 |>.more r59.size)
          have q3 := Lib.hid (q3.below r59 |>.more r59.size)
          have hb := Lib.hid (hb.below (r59.mono hs))
          have hs := Nat.le_trans hs r59.size
          clear r59 hv
          go_wp2
          exact ⟨rfl, hK _ _ ⟨s, D1, f1, D2, f2, D3, f3, rfl, hb.out, hs, q1.out, q2.out, q3.out⟩ (fun j k _ _ => Reg.Adds.refl _ _ _)⟩
      · intro val u hR H
        obtain ⟨w59, ⟨s, D1, f1, D2, f2, D3, f3, hv, hb, hs, q1, q2, q3⟩, hr⟩ := H 16 (by decide)
        have q1 := Lib.hid (q1.below hr |>.more hr.size)
        have q2 := Lib.hid (q2.below hr |>.more hr.size)
        have q3 := Lib.hid (q3.below hr |>.more hr.size)
        have hb := Lib.hid (hb.below (hr.mono hs))
        have qX := Lib.hid (HO.out.rd.drew.below hR |>.more hR.size)
        have HB := Lib.hid (HB.out.drew.trans (Below.mono hR HB.out.size))
        have hs := Nat.le_trans hs hr.size
        have hX := Lib.hid (mix_length (l1.take k) (l2.take k) (l3.take k) k (by simp only [List.length_take]; omega) (by simp only [List.length_take]; omega) (by simp only [List.length_take]; omega))
        clear H hR hr HO HF
        simp only [List.map_cons, List.map_nil, Reg.lay, Act.put, List.setIfInBounds_toArray, List.set_cons_succ, List.set_cons_zero, Nat.reduceAdd, hv]
        clear hv
        go_wp2
        refine Reg.wp_region_rel (by kernel_rfl) 81 22 rfl rfl (by kernel_rfl) (Reg.Adds) (Reg.Adds.refl) (Reg.Adds.trans)
          (fun i v u => match i with
            | 0 => v = .slice X k d
            | 1 => ∃ s', v = .slice (some ⟨s', 0, none⟩) 1 1 ∧ Mem.Rd u (s' + 1) (some ⟨s', 0, none⟩) [.slice X k d] ∧ s' + 1 ≤ u.heap.size
            | 2 => v = Crc.U (Crc.more 0#32 (mix (l1.take k) (l2.take k) (l3.take k)))
            | 3 => v = .slice (some ⟨s, 0, none⟩) 3 3
            | 4 => v = .pointer (some ⟨s, 0, none⟩)
            | 5 => v = .slice D1 k f1
            | 6 => ∃ s', v = .slice (some ⟨s', 0, none⟩) 1 1 ∧ Mem.Rd u (s' + 1) (some ⟨s', 0, none⟩) [.slice D1 k f1] ∧ s' + 1 ≤ u.heap.size
            | 7 => v = Crc.U (Crc.more 0#32 (l1.take k))
            | 8 => v = .slice (some ⟨s, 0, none⟩) 3 3
            | 9 => v = .pointer (some ⟨s, 1, none⟩)
            | 10 => v = .slice D2 k f2
            | 11 => ∃ s', v = .slice (some ⟨s', 0, none⟩) 1 1 ∧ Mem.Rd u (s' + 1) (some ⟨s', 0, none⟩) [.slice D2 k f2] ∧ s' + 1 ≤ u.heap.size
            | 12 => v = Crc.U (Crc.more 0#32 (l2.take k))
            | 13 => v = Crc.U (Crc.xr (Crc.more 0#32 (l1.take k)) (Crc.more 0#32 (l2.take k)))
            | 14 => v = .slice (some ⟨s, 0, none⟩) 3 3
            | 15 => v = .pointer (some ⟨s, 2, none⟩)
            | 16 => v = .slice D3 k f3
            | 17 => ∃ s', v = .slice (some ⟨s', 0, none⟩) 1 1 ∧ Mem.Rd u (s' + 1) (some ⟨s', 0, none⟩) [.slice D3 k f3] ∧ s' + 1 ≤ u.heap.size
            | 18 => v = Crc.U (Crc.more 0#32 (l3.take k))
            | 19 => v = Crc.U (Crc.xr (Crc.xr (Crc.more 0#32 (l1.take k)) (Crc.more 0#32 (l2.take k))) (Crc.more 0#32 (l3.take k)))
            | 20 => v = .bool true
            | 21 => v = .bool true
            | _ => True) ?_ ?_
        · refine Reg.Steps.cons ?_ (Reg.Steps.cons ?_ (Reg.Steps.cons ?_ (Reg.Steps.cons ?_ (Reg.Steps.cons ?_ (Reg.Steps.cons ?_ (Reg.Steps.cons ?_ (Reg.Steps.cons ?_ (Reg.Steps.cons ?_ (Reg.Steps.cons ?_ (Reg.Steps.cons ?_ (Reg.Steps.cons ?_ (Reg.Steps.cons ?_ (Reg.Steps.cons ?_ (Reg.Steps.cons ?_ (Reg.Steps.cons ?_ (Reg.Steps.cons ?_ (Reg.Steps.cons ?_ (Reg.Steps.cons ?_ (Reg.Steps.cons ?_ (Reg.Steps.cons ?_ (Reg.Steps.cons ?_ (Reg.Steps.nil _))))))))))))))))))))))
          · intro val ac u hR hp ha K hK      -- 0: t60 := Op.move t8
            have e8 : (ac.tmps[8]?).getD undef = .slice X k d := ha 8 (by decide)
            clear ha hp
            refine Reg.Op1.plain rfl ?_
            go_wp2
            exact ⟨rfl, hK _ _ rfl (fun j k _ _ => Reg.Adds.refl _ _ _)⟩
          · intro val ac u hR hp ha K hK      -- 1: t61 := Op.buildSlice 22 1 #[(0, t60)]
            obtain ⟨w60, h60, r60⟩ := hp 0 (by decide)
            have e60 : (ac.tmps[60]?).getD undef = .slice X k d := (ha 60 (by decide)).trans h60
            clear h60
            clear ha hp
            refine Reg.Op1.plain rfl ?_
            go_wp2
            exact ⟨rfl, hK _ _ ⟨u.heap.size, rfl, Mem.Rd.alloc_new u _ _ _ rfl, by simp⟩ (fun j k _ _ => Reg.below_new _ _)⟩
          · intro val ac u hR hp ha K hK      -- 2: t62 := Op.call { value (Operand.func 11), args := #[t61], argTypes := #[22] }
            obtain ⟨w61, h61, r61⟩ := hp 1 (by decide)
            have e61 : (ac.tmps[61]?).getD undef = val 1 := ha 61 (by decide)
            clear ha hp
            refine Reg.Op1.plain rfl ?_
            obtain ⟨s', hv', hb', hs'⟩ := h61
            rw [hv'] at e61
            go_wp2_with fail
            refine Calls.mono (crcSum_box u s' X d k _ ((mix (l1.take k) (l2.take k) (l3.take k))) (hb'.below (r61.mono hs')) (qX.out.drew.below hR) (by rw [hX.out]; unfold maxLen; omega) hX.out) ?_
            rintro e w' ⟨rfl, rfl⟩
            go_wp2_with fail
            exact ⟨rfl, hK _ _ rfl (fun j k _ _ => Reg.Adds.refl _ _ _)⟩
          · intro val ac u hR hp ha K hK      -- 3: t63 := Op.move t10
            have e10 : (ac.tmps[10]?).getD undef = .slice (some ⟨s, 0, none⟩) 3 3 := ha 10 (by decide)
            clear ha hp
            refine Reg.Op1.plain rfl ?_
            go_wp2
            exact ⟨rfl, hK _ _ rfl (fun j k _ _ => Reg.Adds.refl _ _ _)⟩
          · intro val ac u hR hp ha K hK      -- 4: t64 := Op.indexAddr 22 t63 (const (0:i64))
            obtain ⟨w63, h63, r63⟩ := hp 3 (by decide)
            have e63 : (ac.tmps[63]?).getD undef = .slice (some ⟨s, 0, none⟩) 3 3 := (ha 63 (by decide)).trans h63
            clear h63
            clear ha hp
            refine Reg.Op1.plain rfl ?_
            go_wp2
            exact ⟨rfl, hK _ _ rfl (fun j k _ _ => Reg.Adds.refl _ _ _)⟩
          · intro val ac u hR hp ha K hK      -- 5: t65 := Op.load 24 t64
            obtain ⟨w64, h64, r64⟩ := hp 4 (by decide)
            have e64 : (ac.tmps[64]?).getD undef = .pointer (some ⟨s, 0, none⟩) := (ha 64 (by decide)).trans h64
            clear h64
            clear ha hp
            refine Reg.Op1.plain rfl ?_
            have hc := hb.out.drew.below (Below.mono hR hs) |>.cells0 (k := 0) (by simp)
            simp at hc
            go_wp2
            exact ⟨rfl, hK _ _ rfl (fun j k _ _ => Reg.Adds.refl _ _ _)⟩
          · intro val ac u hR hp ha K hK      -- 6: t66 := Op.buildSlice 22 1 #[(0, t65)]
            obtain ⟨w65, h65, r65⟩ := hp 5 (by decide)
            have e65 : (ac.tmps[65]?).getD undef = .slice D1 k f1 := (ha 65 (by decide)).trans h65
            clear h65
            clear ha hp
            refine Reg.Op1.plain rfl ?_
            go_wp2
            exact ⟨rfl, hK _ _ ⟨u.heap.size, rfl, Mem.Rd.alloc_new u _ _ _ rfl, by simp⟩ (fun j k _ _ => Reg.below_new _ _)⟩
          · intro val ac u hR hp ha K hK      -- 7: t67 := Op.call { value (Operand.func 11), args := #[t66], argTypes := #[22] }
            obtain ⟨w66, h66, r66⟩ := hp 6 (by decide)
            have e66 : (ac.tmps[66]?).getD undef = val 6 := ha 66 (by decide)
            clear ha hp
            refine Reg.Op1.plain rfl ?_
            obtain ⟨s', hv', hb', hs'⟩ := h66
            rw [hv'] at e66
            go_wp2_with fail
            refine Calls.mono (crcSum_box u s' D1 f1 k _ ((l1.take k)) (hb'.below (r66.mono hs')) (q1.out.drew.below hR) (by simp only [List.length_take]; unfold maxLen; omega) (by simp only [List.length_take]; omega)) ?_
            rintro e w' ⟨rfl, rfl⟩
            go_wp2_with fail
            exact ⟨rfl, hK _ _ rfl (fun j k _ _ => Reg.Adds.refl _ _ _)⟩
          · intro val ac u hR hp ha K hK      -- 8: t68 := Op.move t10
            have e10 : (ac.tmps[10]?).getD undef = .slice (some ⟨s, 0, none⟩) 3 3 := ha 10 (by decide)
            clear ha hp
            refine Reg.Op1.plain rfl ?_
            go_wp2
            exact ⟨rfl, hK _ _ rfl (fun j k _ _ => Reg.Adds.refl _ _ _)⟩
          · intro val ac u hR hp ha K hK      -- 9: t69 := Op.indexAddr 22 t68 (const (1:i64))
            obtain ⟨w68, h68, r68⟩ := hp 8 (by decide)
            have e68 : (ac.tmps[68]?).getD undef = .slice (some ⟨s, 0, none⟩) 3 3 := (ha 68 (by decide)).trans h68
            clear h68
            clear ha hp
            refine Reg.Op1.plain rfl ?_
            go_wp2
            exact ⟨rfl, hK _ _ rfl (fun j k _ _ => Reg.Adds.refl _ _ _)⟩
          · intro val ac u hR hp ha K hK      -- 10: t70 := Op.load 24 t69
            obtain ⟨w69, h69, r69⟩ := hp 9 (by decide)
            have e69 : (ac.tmps[69]?).getD undef = .pointer (some ⟨s, 1, none⟩) := (ha 69 (by decide)).trans h69
            clear h69
            clear ha hp
            refine Reg.Op1.plain rfl ?_
            have hc := hb.out.drew.below (Below.mono hR hs) |>.cells0 (k := 1) (by simp)
            simp at hc
            go_wp2
            exact ⟨rfl, hK _ _ rfl (fun j k _ _ => Reg.Adds.refl _ _ _)⟩
          · intro val ac u hR hp ha K hK      -- 11: t71 := Op.buildSlice 22 1 #[(0, t70)]
            obtain ⟨w70, h70, r70⟩ := hp 10 (by decide)
            have e70 : (ac.tmps[70]?).getD undef = .slice D2 k f2 := (ha 70 (by decide)).trans h70
            clear h70
            clear ha hp
            refine Reg.Op1.plain rfl ?_
            go_wp2
            exact ⟨rfl, hK _ _ ⟨u.heap.size, rfl, Mem.Rd.alloc_new u _ _ _ rfl, by simp⟩ (fun j k _ _ => Reg.below_new _ _)⟩
          · intro val ac u hR hp ha K hK      -- 12: t72 := Op.call { value (Operand.func 11), args := #[t71], argTypes := #[22] }
            obtain ⟨w71, h71, r71⟩ := hp 11 (by decide)
            have e71 : (ac.tmps[71]?).getD undef = val 11 := ha 71 (by decide)
            clear ha hp
            refine Reg.Op1.plain rfl ?_
            obtain ⟨s', hv', hb', hs'⟩ := h71
            rw [hv'] at e71
            go_wp2_with fail
            refine Calls.mono (crcSum_box u s' D2 f2 k _ ((l2.take k)) (hb'.below (r71.mono hs')) (q2.out.drew.below hR) (by simp only [List.length_take]; unfold maxLen; omega) (by simp only [List.length_take]; omega)) ?_
            rintro e w' ⟨rfl, rfl⟩
            go_wp2_with fail
            exact ⟨rfl, hK _ _ rfl (fun j k _ _ => Reg.Adds.refl _ _ _)⟩
          · intro val ac u hR hp ha K hK      -- 13: t73 := Op.binOp BinOp.xor 25 t67 t72 25
            obtain ⟨w67, h67, r67⟩ := hp 7 (by decide)
            have e67 : (ac.tmps[67]?).getD undef = Crc.U (Crc.more 0#32 (l1.take k)) := (ha 67 (by decide)).trans h67
            clear h67
            obtain ⟨w72, h72, r72⟩ := hp 12 (by decide)
            have e72 : (ac.tmps[72]?).getD undef = Crc.U (Crc.more 0#32 (l2.take k)) := (ha 72 (by decide)).trans h72
            clear h72
            clear ha hp
            refine Reg.Op1.plain rfl ?_
            have hx := Crc.xor_u32 (Crc.more 0#32 (l1.take k)) (Crc.more 0#32 (l2.take k))
            go_wp2
            exact ⟨rfl, hK _ _ rfl (fun j k _ _ => Reg.Adds.refl _ _ _)⟩
          · intro val ac u hR hp ha K hK      -- 14: t74 := Op.move t10
            have e10 : (ac.tmps[10]?).getD undef = .slice (some ⟨s, 0, none⟩) 3 3 := ha 10 (by decide)
            clear ha hp
            refine Reg.Op1.plain rfl ?_
            go_wp2
            exact ⟨rfl, hK _ _ rfl (fun j k _ _ => Reg.Adds.refl _ _ _)⟩
          · intro val ac u hR hp ha K hK      -- 15: t75 := Op.indexAddr 22 t74 (const (2:i64))
            obtain ⟨w74, h74, r74⟩ := hp 14 (by decide)
            have e74 : (ac.tmps[74]?).getD undef = .slice (some ⟨s, 0, none⟩) 3 3 := (ha 74 (by decide)).trans h74
            clear h74
            clear ha hp
            refine Reg.Op1.plain rfl ?_
            go_wp2
            exact ⟨rfl, hK _ _ rfl (fun j k _ _ => Reg.Adds.refl _ _ _)⟩
          · intro val ac u hR hp ha K hK      -- 16: t76 := Op.load 24 t75
            obtain ⟨w75, h75, r75⟩ := hp 15 (by decide)
            have e75 : (ac.tmps[75]?).getD undef = .pointer (some ⟨s, 2, none⟩) := (ha 75 (by decide)).trans h75
            clear h75
            clear ha hp
            refine Reg.Op1.plain rfl ?_
            have hc := hb.out.drew.below (Below.mono hR hs) |>.cells0 (k := 2) (by simp)
            simp at hc
            go_wp2
            exact ⟨rfl, hK _ _ rfl (fun j k _ _ => Reg.Adds.refl _ _ _)⟩
          · intro val ac u hR hp ha K hK      -- 17: t77 := Op.buildSlice 22 1 #[(0, t76)]
            obtain ⟨w76, h76, r76⟩ := hp 16 (by decide)
            have e76 : (ac.tmps[76]?).getD undef = .slice D3 k f3 := (ha 76 (by decide)).trans h76
            clear h76
            clear ha hp
            refine Reg.Op1.plain rfl ?_
            go_wp2
            exact ⟨rfl, hK _ _ ⟨u.heap.size, rfl, Mem.Rd.alloc_new u _ _ _ rfl, by simp⟩ (fun j k _ _ => Reg.below_new _ _)⟩
          · intro val ac u hR hp ha K hK      -- 18: t78 := Op.call { value (Operand.func 11), args := #[t77], argTypes := #[22] }
            obtain ⟨w77, h77, r77⟩ := hp 17 (by decide)
            have e77 : (ac.tmps[77]?).getD undef = val 17 := ha 77 (by decide)
            clear ha hp
            refine Reg.Op1.plain rfl ?_
            obtain ⟨s', hv', hb', hs'⟩ := h77
            rw [hv'] at e77
            go_wp2_with fail
            refine Calls.mono (crcSum_box u s' D3 f3 k _ ((l3.take k)) (hb'.below (r77.mono hs')) (q3.out.drew.below hR) (by simp only [List.length_take]; unfold maxLen; omega) (by simp only [List.length_take]; omega)) ?_
            rintro e w' ⟨rfl, rfl⟩
            go_wp2_with fail
            exact ⟨rfl, hK _ _ rfl (fun j k _ _ => Reg.Adds.refl _ _ _)⟩
          · intro val ac u hR hp ha K hK      -- 19: t79 := Op.binOp BinOp.xor 25 t73 t78 25
            obtain ⟨w73, h73, r73⟩ := hp 13 (by decide)
            have e73 : (ac.tmps[73]?).getD undef = Crc.U (Crc.xr (Crc.more 0#32 (l1.take k)) (Crc.more 0#32 (l2.take k))) := (ha 73 (by decide)).trans h73
            clear h73
            obtain ⟨w78, h78, r78⟩ := hp 18 (by decide)
            have e78 : (ac.tmps[78]?).getD undef = Crc.U (Crc.more 0#32 (l3.take k)) := (ha 78 (by decide)).trans h78
            clear h78
            clear ha hp
            refine Reg.Op1.plain rfl ?_
            have hx := Crc.xor_u32 (Crc.xr (Crc.more 0#32 (l1.take k)) (Crc.more 0#32 (l2.take k))) (Crc.more 0#32 (l3.take k))
            go_wp2
            exact ⟨rfl, hK _ _ rfl (fun j k _ _ => Reg.Adds.refl _ _ _)⟩
          · intro val ac u hR hp ha K hK      -- 20: t80 := Op.binOp BinOp.eql 25 t62 t79 25
            obtain ⟨w62, h62, r62⟩ := hp 2 (by decide)
            have e62 : (ac.tmps[62]?).getD undef = Crc.U (Crc.more 0#32 (mix (l1.take k) (l2.take k) (l3.take k))) := (ha 62 (by decide)).trans h62
            clear h62
            obtain ⟨w79, h79, r79⟩ := hp 19 (by decide)
            have e79 : (ac.tmps[79]?).getD undef = Crc.U (Crc.xr (Crc.xr (Crc.more 0#32 (l1.take k)) (Crc.more 0#32 (l2.take k))) (Crc.more 0#32 (l3.take k))) := (ha 79 (by decide)).trans h79
            clear h79
            clear ha hp
            refine Reg.Op1.plain rfl ?_
            have hx := Crc.nU_self _ _ (Crc.more_mix (l1.take k) (l2.take k) (l3.take k) (by simp only [List.length_take]; omega) (by simp only [List.length_take]; omega))
            have hx : (Crc.nU (Crc.more 0#32 (mix (l1.take k) (l2.take k) (l3.take k))) == Crc.nU (Crc.xr (Crc.xr (Crc.more 0#32 (l1.take k)) (Crc.more 0#32 (l2.take k))) (Crc.more 0#32 (l3.take k)))) = true := hx
            go_wp2
            exact ⟨rfl, hK _ _ rfl (fun j k _ _ => Reg.Adds.refl _ _ _)⟩
          · intro val ac u hR hp ha K hK      -- 21: t6 := Op.assign t80
            obtain ⟨w80, h80, r80⟩ := hp 20 (by decide)
            have e80 : (ac.tmps[80]?).getD undef = .bool true := (ha 80 (by decide)).trans h80
            clear h80
            clear ha hp
            refine Reg.Op1.plain rfl ?_
            go_wp2
            exact ⟨rfl, hK _ _ rfl (fun j k _ _ => Reg.Adds.refl _ _ _)⟩
        · intro val u hR H
          obtain ⟨w80, hv, hr⟩ := H 21 (by decide)
          have hv : val 21 = .bool true := hv
          simp only [List.map_cons, List.map_nil, Reg.lay, Act.put, List.setIfInBounds_toArray, List.set_cons_succ, List.set_cons_zero, Nat.reduceAdd, hv]
          clear hv hr H
          go_wp2
          go_ret
          exact ⟨rfl, HB.out.drew.trans (Below.mono hR HB.out.size)⟩
set_option maxHeartbeats 400000 in
theorem big (A1 A2 A3 : Option Addr) (c1 c2 c3 : Nat) (l1 l2 l3 : List UInt8) (w : World) (n : Nat) (hn : min (min l1.length l2.length) l3.length = n) (h : 100000 < n) :
    Calls Try.prog 6 #[.slice A1 l1.length c1, .slice A2 l2.length c2, .slice A3 l3.length c3] w fun e w' => e = .returned (.bool true) ∧ Below w.heap.size w w' := by
  have hmin : ∀ (ts : Array TypeId) (t : TypeId) (W : World), (Builtin.min_ ts t #[.int .i64 (l1.length : Int), .int .i64 (l2.length : Int), .int .i64 (l3.length : Int)]).run Try.prog W = .ok (.int .i64 (n : Int)) W := by
    intro ts t W
    rw [run_min_int3]
    congr 2
    rw [← hn]
    split <;> split at * <;> omega
  clear hn
  have hd : decide ((100000 : Int) < (n : Int)) = true := by simp; omega
  go_enter Try.func6, Try.ntmps6
  go_wp2_with (first
    | (go_at_call 10; refine (able_any _).mono ?_; rintro e w1 ⟨rfl, hb1⟩))
  go_ret
  exact ⟨rfl, hb1⟩
theorem opened {H : Type} (enc : TypeId × Value → H) (W : World) (base : Nat) (v0 v1 v2 : Value) {d0 d1 d2 : DataW H} {p0 p1 p2 : List MemPlace}
    (o0 : Value.okWide Try.prog W .any base 24 v0) (o1 : Value.okWide Try.prog W .any base 24 v1) (o2 : Value.okWide Try.prog W .any base 24 v2)
    (k0 : DataW.Trod enc Try.prog W 0 (fun _ => true) true 24 v0 d0 p0) (k1 : DataW.Trod enc Try.prog W 0 (fun _ => true) true 24 v1 d1 p1) (k2 : DataW.Trod enc Try.prog W 0 (fun _ => true) true 24 v2 d2 p2) :
    Calls Try.prog 6 #[v0, v1, v2] W fun e w' => e = .returned (.bool true) ∧ Below W.heap.size W w' := by
  obtain ⟨A1, c1, l1, rfl, a1, b1, r1⟩ := open_bytes o0 k0
  obtain ⟨A2, c2, l2, rfl, a2, b2, r2⟩ := open_bytes o1 k1
  obtain ⟨A3, c3, l3, rfl, a3, b3, r3⟩ := open_bytes o2 k2
  unfold maxLen at b1 b2 b3
  by_cases h : 100000 < min (min l1.length l2.length) l3.length
  · exact big A1 A2 A3 c1 c2 c3 l1 l2 l3 W _ rfl h
  · exact walk A1 A2 A3 c1 c2 c3 l1 l2 l3 W _ rfl ⟨r1, r2, r3, by omega, by omega, by omega, by omega⟩ a1 a2 a3 (by omega) (by omega) (by omega)
end crcMixesOpen
end Go.Proofs.Ytejojfjbecpofaa
