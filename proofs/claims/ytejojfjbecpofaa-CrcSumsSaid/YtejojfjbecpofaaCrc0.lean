/- The walks of crc.down, crc.times, crc.Join and of the document's own bits, mul, Join: what each computes, as a function on 32-bit words. No conditions. -/
import Derived.Test.YtejojfjbecpofaaRows
import Derived.Test.YtejojfjbecpofaaCrcLaw
import Derived.Test.YtejojfjbecpofaaMem
import Derived.WalkKit
import Derived.WalkSpells
import Derived.WalkLawsBesides
import Derived.Lib.Hide
namespace Go.Proofs.Ytejojfjbecpofaa
open Go.RowKit

namespace Crc
/-- a word's number: a name that the walk does not look behind -/
def nU (x : W32) : Int := (x.toNat : Int)
/-- a word in a slot -/
abbrev U (x : W32) : Value := .int .u32 (nU x)
/-- half of a word -/
def hf (x : W32) : W32 := x >>> 1
def xr (x y : W32) : W32 := x ^^^ y
def an (x y : W32) : W32 := x &&& y

theorem nU_lo (x : W32) : 0 ≤ nU x := by unfold nU; omega
theorem nU_hi (x : W32) : nU x ≤ 4294967295 := by unfold nU; have := x.isLt; omega
theorem nU_inj {x y : W32} (h : nU x = nU y) : x = y := by unfold nU at h; exact BitVec.eq_of_toNat_eq (by omega)
theorem u32_ofInt (a : W32) : BitVec.ofInt 32 (nU a) = a := by
  unfold nU; apply BitVec.eq_of_toNat_eq; rw [BitVec.toNat_ofInt]; have := a.isLt; omega
theorem u32_wrap (n : Nat) (h : n < 4294967296) : IntKind.u32.wrap (n : Int) = n := by
  simp [IntKind.wrap, IntKind.bits, IntKind.signed]; omega
theorem and_u32 (a b : W32) : bits .and .u32 (nU a) (nU b) = nU (an a b) := by
  show IntKind.u32.wrap ((BitVec.ofInt 32 (nU a) &&& BitVec.ofInt 32 (nU b)).toNat : Int) = _
  rw [u32_ofInt, u32_ofInt, u32_wrap _ (BitVec.isLt _)]; rfl
theorem xor_u32 (a b : W32) : bits .xor .u32 (nU a) (nU b) = nU (xr a b) := by
  show IntKind.u32.wrap ((BitVec.ofInt 32 (nU a) ^^^ BitVec.ofInt 32 (nU b)).toNat : Int) = _
  rw [u32_ofInt, u32_ofInt, u32_wrap _ (BitVec.isLt _)]; rfl
theorem half (a : W32) : nU a / 2 = nU (hf a) := by
  unfold nU hf; rw [BitVec.toNat_ushiftRight, Nat.shiftRight_eq_div_pow]; omega
theorem low' (a : W32) : bits .and .u32 (nU a) 1 = if a.getLsbD 0 then 1 else 0 := by
  have h := and_u32 a 1#32
  have e : nU 1#32 = 1 := rfl
  rw [e] at h
  rw [h]
  have e2 : (a &&& 1#32).toNat = a.toNat % 2 := by rw [BitVec.toNat_and]; exact Nat.and_two_pow_sub_one_eq_mod a.toNat 1
  unfold nU an
  rw [e2, BitVec.getLsbD, Nat.testBit_zero]
  rcases Nat.mod_two_eq_zero_or_one a.toNat with h | h <;> rw [h] <;> rfl
theorem low (a : W32) : (bits .and .u32 (nU a) 1 == 1) = a.getLsbD 0 := by
  rw [low']; cases a.getLsbD 0 <;> rfl
theorem down_def (a : W32) : down a = if a.getLsbD 0 then xr (hf a) poly else hf a := rfl
theorem xor_poly (a : W32) : bits .xor .u32 (nU a) 3988292384 = nU (xr a poly) := xor_u32 a poly
theorem bit0 (a : W32) : a.getLsbD 0 = decide (nU a % 2 = 1) := by
  unfold nU; rw [BitVec.getLsbD, Nat.testBit_zero]; simp; omega
/-- times' bit, k rounds on -/
def bitAt (k : Nat) : W32 := 0x80000000#32 >>> k
theorem bitAt_pos {k : Nat} (h : k < 32) : 0 < nU (bitAt k) := by
  have : ∀ k : Fin 32, 0 < (bitAt k.val).toNat := by decide
  have := this ⟨k, h⟩
  unfold nU; simp only at this; omega
theorem bitAt_end : nU (bitAt 32) = 0 := by decide
theorem bitAt_half (k : Nat) : hf (bitAt k) = bitAt (k + 1) := by unfold hf bitAt; rw [BitVec.shiftRight_add]
theorem bitAt_val {k : Nat} (h : k < 32) : bitAt k = 1#32 <<< (31 - k) := by
  have : ∀ k : Fin 32, bitAt k.val = 1#32 <<< (31 - k.val) := by decide
  exact this ⟨k, h⟩
theorem bitAt_test (a : W32) {k : Nat} (h : k < 32) : (bits .and .u32 (nU a) (nU (bitAt k)) != 0) = a.getLsbD (31 - k) := by
  rw [and_u32, bitAt_val h]
  have hz : an a (1#32 <<< (31 - k)) = if a.getLsbD (31 - k) then 1#32 <<< (31 - k) else 0#32 := by
    unfold an
    apply BitVec.eq_of_getLsbD_eq
    intro i hi
    by_cases e : i = 31 - k
    · subst e
      cases hh : a.getLsbD (31 - k) <;> simp [hi] <;> simpa [BitVec.getLsbD_eq_getElem hi] using hh
    · cases hh : a.getLsbD (31 - k) <;> simp [hi] <;> (try (intro _ _; omega))
  rw [hz]
  have hp := bitAt_pos h
  rw [bitAt_val h] at hp
  cases hh : a.getLsbD (31 - k)
  · rfl
  · simp only [if_true, bne_iff_ne]; omega
theorem timesTo_step (a b o : W32) {k : Nat} (h : k < 32) : xr o (timesTo a k (32 - k) b) = xr (if a.getLsbD (31 - k) then xr o b else o) (timesTo a (k + 1) (32 - (k + 1)) (down b)) := by
  rw [show 32 - k = (32 - (k + 1)) + 1 by omega]
  simp only [timesTo, xr]
  split
  · rw [BitVec.xor_assoc]
  · simp
theorem times_start (a b : W32) : xr 0#32 (timesTo a 0 (32 - 0) b) = times a b := by simp [xr, times]
theorem times_end (a b o : W32) : xr o (timesTo a 32 (32 - 32) b) = o := by simp [xr, timesTo]
theorem shl_bit (a : W32) (k : Nat) : IntKind.u32.wrap (nU (a <<< k) * 2) = nU (a <<< (k + 1)) := by
  have e : a.toNat * 2 ^ (k + 1) = (a.toNat * 2 ^ k) * 2 := by rw [Nat.pow_succ, Nat.mul_assoc]
  simp only [IntKind.wrap_u32', nU, BitVec.toNat_shiftLeft, Nat.shiftLeft_eq, e]
  generalize a.toNat * 2 ^ k = m
  omega
theorem top_test (a : W32) {k : Nat} (h : k < 32) : (bits .and .u32 (nU (a <<< k)) 2147483648 != 0) = a.getLsbD (31 - k) := by
  have h0 := bitAt_test (a <<< k) (k := 0) (by omega)
  rw [show nU (bitAt 0) = 2147483648 from rfl] at h0
  rw [h0, BitVec.getLsbD_shiftLeft, show 31 - 0 = 31 from rfl]
  have h1 : ¬ 31 < k := by omega
  simp [h1]
theorem shl0 (a : W32) : a <<< 0 = a := by simp
/-- the bit k of a byte, at the lowest place -/
def sr (c : UInt8) (k : Nat) : W32 := ext c >>> k
theorem ext_nU (c : UInt8) : (c.toNat : Int) = nU (ext c) := by
  unfold nU ext; simp
theorem sr_nU (c : UInt8) (k : Nat) : (c.toNat : Int) / 2 ^ k = nU (sr c k) := by
  rw [ext_nU]; unfold nU sr; rw [BitVec.toNat_ushiftRight, Nat.shiftRight_eq_div_pow]; simp
/-- a register behind k bits of a byte, whose rest is to come: as the whole byte's first -/
def bitsTo (r : W32) (c : UInt8) (k : Nat) : W32 := downN (8 - k) (xr r (sr c k))
theorem bits_start (r : W32) (c : UInt8) : bitsTo r c 0 = byte r c := by simp [bitsTo, byte, xr, sr]
theorem bits_end (r : W32) (c : UInt8) : bitsTo r c 8 = r := by
  have : sr c 8 = 0#32 := by
    unfold sr; apply BitVec.eq_of_toNat_eq; rw [BitVec.toNat_ushiftRight, Nat.shiftRight_eq_div_pow]
    have := ext_nU c; unfold nU at this; have := c.toNat_lt; simp; omega
  simp [bitsTo, xr, this, downN]
theorem bits_step (r : W32) (c : UInt8) {k : Nat} (h : k < 8) : bitsTo r c k = bitsTo (if (xr r (sr c k)).getLsbD 0 then xr (hf r) poly else hf r) c (k + 1) := by
  unfold bitsTo
  rw [show 8 - k = (8 - (k + 1)) + 1 by omega]
  show downN _ (down (xr r (sr c k))) = _
  congr 1
  have e : (xr r (sr c k)) >>> 1 = xr (hf r) (sr c (k + 1)) := by
    unfold xr hf sr; rw [BitVec.shiftRight_add]; apply BitVec.eq_of_getLsbD_eq; intro i hi; simp
  unfold down
  split
  · rw [e]; unfold xr; rw [BitVec.xor_assoc, BitVec.xor_assoc, BitVec.xor_comm (sr c (k + 1))]
  · rw [e]
theorem reg_snoc (r : W32) (l : List UInt8) (c : UInt8) : reg r (l ++ [c]) = downN 8 (xr (reg r l) (ext c)) := by
  unfold reg; rw [List.foldl_append]; rfl
theorem sum_snoc (l : List (List UInt8)) (b : List UInt8) : sum (l ++ [b]) = more (sum l) b := by
  unfold sum; rw [List.foldl_append]; rfl
theorem not_u32 (a : W32) : bits .xor .u32 IntKind.u32.max (nU a) = nU (~~~ a) := by
  have h := xor_u32 (BitVec.allOnes 32) a
  rw [show nU (BitVec.allOnes 32) = IntKind.u32.max from by decide] at h
  rw [h]; unfold xr; rw [BitVec.allOnes_xor]
theorem i64_and_one (m : Nat) (h : m ≤ 9223372036854775807) : bits .and .i64 (m : Int) 1 = ((m % 2 : Nat) : Int) := by
  show IntKind.i64.wrap ((BitVec.ofInt 64 (m : Int) &&& BitVec.ofInt 64 1).toNat : Int) = _
  rw [BitVec.toNat_and, show BitVec.ofInt 64 1 = 1#64 from rfl, BitVec.ofInt_natCast, BitVec.toNat_ofNat, show (1#64).toNat = 2 ^ 1 - 1 from rfl, Nat.and_two_pow_sub_one_eq_mod, IntKind.wrap_i64]
  omega
end Crc

set_option maxHeartbeats 400000 in
theorem down_any (x : Crc.W32) (w : World) :
    Calls Try.prog 17 #[Crc.U x] w fun e w' => e = .returned (Crc.U (Crc.down x)) ∧ w = w' := by
  have h2 := Crc.half x
  have h3 := Crc.xor_poly (Crc.hf x)
  cases hb : x.getLsbD 0
  · have h1 := Crc.low x
    rw [hb] at h1
    have hd : Hid (Crc.down x = Crc.hf x) := by show Crc.down x = _; unfold Crc.down; rw [hb]; rfl
    clear hb
    go_enter Try.func17, Try.ntmps17
    go_wp2
    go_ret
    rw [hd.out]; exact ⟨rfl, rfl⟩
  · have h1 := Crc.low x
    rw [hb] at h1
    have hd : Hid (Crc.down x = Crc.xr (Crc.hf x) Crc.poly) := by show Crc.down x = _; unfold Crc.down; rw [hb]; rfl
    clear hb
    go_enter Try.func17, Try.ntmps17
    go_wp2
    go_ret
    rw [hd.out]; exact ⟨rfl, rfl⟩

set_option maxHeartbeats 400000 in
theorem times_any (a b : Crc.W32) (w : World) :
    Calls Try.prog 19 #[Crc.U a, Crc.U b] w fun e w' => e = .returned (Crc.U (Crc.times a b)) ∧ w = w' := by
  go_enter Try.func19, Try.ntmps19
  go_wp2
  go_loop [1, 5, 6] (fun vb vo vt => ∃ (k : Nat) (o bc : Crc.W32), k ≤ 32 ∧ vb = Crc.U bc ∧ vo = Crc.U o ∧ vt = Crc.U (Crc.bitAt k) ∧ Hid (Crc.xr o (Crc.timesTo a k (32 - k) bc) = Crc.times a b)) (fun _ _ t => (intOf t).toNat)
  case atStart => exact ⟨0, 0#32, b, by omega, rfl, rfl, rfl, Crc.times_start a b⟩
  case round =>
    obtain ⟨k, o, bc, hk, rfl, rfl, rfl, H⟩ := hrel
    by_cases hlt : k < 32
    · have hpos := Crc.bitAt_pos hlt
      have hhalf := Crc.half (Crc.bitAt k)
      have hx := Crc.xor_u32 o bc
      have ht := Crc.bitAt_test a hlt
      have hs := Lib.hid (Crc.timesTo_step a bc o hlt)
      have hn := Lib.hid (Crc.bitAt_half k)
      cases hb : a.getLsbD (31 - k)
      all_goals
        rw [hb] at ht
        have H2 := H.out
        rw [hs.out, hb] at H2
        have H3 := Lib.hid H2
        clear H2 hb
        go_wp2_with (go_at_call 17; refine (down_any _ _).mono ?_; rintro e w' ⟨rfl, rfl⟩)
        go_round
        case rel => exact ⟨k + 1, _, _, by omega, rfl, rfl, by rw [hn.out], H3⟩
        case measure => simp [intOf]; omega
    · obtain rfl : k = 32 := by omega
      have hend := Crc.bitAt_end
      go_wp2
      go_ret
      have h := H.out
      rw [Crc.times_end] at h
      exact ⟨by show Ending.returned (Crc.U o) = _; rw [h], rfl⟩

set_option maxHeartbeats 400000 in
theorem refMul_any (a b : Crc.W32) (w : World) :
    Calls Try.prog 20 #[Crc.U a, Crc.U b] w fun e w' => e = .returned (Crc.U (Crc.times a b)) ∧ w = w' := by
  go_enter Try.func20, Try.ntmps20
  go_wp2
  go_loop [0, 1, 5, 6] (fun va vb vo vt => ∃ (k : Nat) (o bc : Crc.W32), k ≤ 32 ∧ va = Crc.U (a <<< k) ∧ vb = Crc.U bc ∧ vo = Crc.U o ∧ vt = .int .i64 k ∧ Hid (Crc.xr o (Crc.timesTo a k (32 - k) bc) = Crc.times a b)) (fun _ _ _ t => 32 - (intOf t).toNat)
  case atStart => exact ⟨0, 0#32, b, by omega, by rw [Crc.shl0], rfl, rfl, rfl, Crc.times_start a b⟩
  case round =>
    obtain ⟨k, o, bc, hk, rfl, rfl, rfl, rfl, H⟩ := hrel
    by_cases hlt : k < 32
    · have hhalf := Crc.half bc
      have hx := Crc.xor_u32 o bc
      have hp := Crc.xor_poly (Crc.hf bc)
      have ht := Crc.top_test a hlt
      have hsh := Crc.shl_bit a k
      have hl := Crc.low bc
      have hs := Lib.hid (Crc.timesTo_step a bc o hlt)
      cases hb : a.getLsbD (31 - k) <;> cases hb2 : bc.getLsbD 0
      all_goals
        rw [hb] at ht
        rw [hb2] at hl
        have H2 := H.out
        rw [hs.out, hb] at H2
        have H3 := Lib.hid H2
        have hd := Crc.down_def bc
        rw [hb2] at hd
        have hd2 := Lib.hid hd
        clear H2 hb hb2 hd
        go_wp2
        go_round
        case rel => exact ⟨k + 1, _, _, by omega, rfl, rfl, rfl, by go_num, by rw [hd2.out] at H3; exact H3⟩
        case measure => simp [intOf]; omega
    · obtain rfl : k = 32 := by omega
      go_wp2
      go_ret
      have h := H.out
      rw [Crc.times_end] at h
      exact ⟨by show Ending.returned (Crc.U o) = _; rw [h], rfl⟩

set_option maxHeartbeats 400000 in
theorem refBits_any (r : Crc.W32) (c : UInt8) (w : World) :
    Calls Try.prog 18 #[Crc.U r, .int .u8 (c.toNat : Int)] w fun e w' => e = .returned (Crc.U (Crc.byte r c)) ∧ w = w' := by
  have hc := Mem.byte_hi c
  go_enter Try.func18, Try.ntmps18
  go_wp2
  go_loop [0, 5] (fun va vt => ∃ (k : Nat) (o : Crc.W32), k ≤ 8 ∧ va = Crc.U o ∧ vt = .int .i64 k ∧ Hid (Crc.bitsTo o c k = Crc.byte r c)) (fun _ t => 8 - (intOf t).toNat)
  case atStart => exact ⟨0, r, by omega, rfl, rfl, Crc.bits_start r c⟩
  case round =>
    obtain ⟨k, o, hk, rfl, rfl, H⟩ := hrel
    by_cases hlt : k < 8
    · have hhalf := Crc.half o
      have hsr := Crc.sr_nU c k
      have hx := Crc.xor_u32 o (Crc.sr c k)
      have hp := Crc.xor_poly (Crc.hf o)
      have hl := Crc.low' (Crc.xr o (Crc.sr c k))
      have hs := Lib.hid (Crc.bits_step o c hlt)
      cases hb : (Crc.xr o (Crc.sr c k)).getLsbD 0
      all_goals
        rw [hb] at hl
        simp only [if_true, Bool.false_eq_true, if_false] at hl
        have H2 := H.out
        rw [hs.out, hb] at H2
        have H3 := Lib.hid H2
        clear H2 hb
        go_wp2
        go_round
        case rel => exact ⟨k + 1, _, by omega, rfl, by go_num, H3⟩
        case measure => simp [intOf]; omega
    · obtain rfl : k = 8 := by omega
      go_wp2
      go_ret
      have h := H.out
      rw [Crc.bits_end] at h
      exact ⟨by show Ending.returned (Crc.U o) = _; rw [h], rfl⟩

end Go.Proofs.Ytejojfjbecpofaa
