/- The walks of crc.More, crc.Sum and of the document's own More, for seats that reach no more of them. No conditions. -/
import Derived.Test.YtkfgedgjpgehoaaRows
import Derived.Test.YtkfgedgjpgehoaaCrcLaw
import Derived.Test.YtkfgedgjpgehoaaMem
import Derived.WalkKit
import Derived.WalkSpells
import Derived.WalkLawsBesides
import Derived.Lib.Hide
import Derived.RegionTactic
namespace Go.Proofs.Ytkfgedgjpgehoaa
set_option linter.unusedVariables false
set_option linter.unusedSimpArgs false
open Go.RowKit

namespace Crc
/-- a word's number: a name that the walk does not look behind -/
def nU (x : W32) : Int := (x.toNat : Int)
/-- a word in a slot -/
abbrev U (x : W32) : Value := .int .u32 (nU x)
/-- half of a word -/
def hf (x : W32) : W32 := x >>> 1
def xr (x y : W32) : W32 := x ^^^ y
def an (x y : W32) : W32 := x &&& y

theorem nU_lo (x : W32) : 0 ≤ nU x := by unfold nU; omega
theorem nU_hi (x : W32) : nU x ≤ 4294967295 := by unfold nU; have := x.isLt; omega
theorem nU_inj {x y : W32} (h : nU x = nU y) : x = y := by unfold nU at h; exact BitVec.eq_of_toNat_eq (by omega)
theorem u32_ofInt (a : W32) : BitVec.ofInt 32 (nU a) = a := by
  unfold nU; apply BitVec.eq_of_toNat_eq; rw [BitVec.toNat_ofInt]; have := a.isLt; omega
theorem u32_wrap (n : Nat) (h : n < 4294967296) : IntKind.u32.wrap (n : Int) = n := by
  simp [IntKind.wrap, IntKind.bits, IntKind.signed]; omega
theorem and_u32 (a b : W32) : bits .and .u32 (nU a) (nU b) = nU (an a b) := by
  show IntKind.u32.wrap ((BitVec.ofInt 32 (nU a) &&& BitVec.ofInt 32 (nU b)).toNat : Int) = _
  rw [u32_ofInt, u32_ofInt, u32_wrap _ (BitVec.isLt _)]; rfl
theorem xor_u32 (a b : W32) : bits .xor .u32 (nU a) (nU b) = nU (xr a b) := by
  show IntKind.u32.wrap ((BitVec.ofInt 32 (nU a) ^^^ BitVec.ofInt 32 (nU b)).toNat : Int) = _
  rw [u32_ofInt, u32_ofInt, u32_wrap _ (BitVec.isLt _)]; rfl
theorem half (a : W32) : nU a / 2 = nU (hf a) := by
  unfold nU hf; rw [BitVec.toNat_ushiftRight, Nat.shiftRight_eq_div_pow]; omega
theorem low' (a : W32) : bits .and .u32 (nU a) 1 = if a.getLsbD 0 then 1 else 0 := by
  have h := and_u32 a 1#32
  have e : nU 1#32 = 1 := rfl
  rw [e] at h
  rw [h]
  have e2 : (a &&& 1#32).toNat = a.toNat % 2 := by rw [BitVec.toNat_and]; exact Nat.and_two_pow_sub_one_eq_mod a.toNat 1
  unfold nU an
  rw [e2, BitVec.getLsbD, Nat.testBit_zero]
  rcases Nat.mod_two_eq_zero_or_one a.toNat with h | h <;> rw [h] <;> rfl
theorem low (a : W32) : (bits .and .u32 (nU a) 1 == 1) = a.getLsbD 0 := by
  rw [low']; cases a.getLsbD 0 <;> rfl
theorem down_def (a : W32) : down a = if a.getLsbD 0 then xr (hf a) poly else hf a := rfl
theorem xor_poly (a : W32) : bits .xor .u32 (nU a) 3988292384 = nU (xr a poly) := xor_u32 a poly
theorem bit0 (a : W32) : a.getLsbD 0 = decide (nU a % 2 = 1) := by
  unfold nU; rw [BitVec.getLsbD, Nat.testBit_zero]; simp; omega
/-- times' bit, k rounds on -/
def bitAt (k : Nat) : W32 := 0x80000000#32 >>> k
theorem bitAt_pos {k : Nat} (h : k < 32) : 0 < nU (bitAt k) := by
  have : ∀ k : Fin 32, 0 < (bitAt k.val).toNat := by decide
  have := this ⟨k, h⟩
  unfold nU; simp only at this; omega
theorem bitAt_end : nU (bitAt 32) = 0 := by decide
theorem bitAt_half (k : Nat) : hf (bitAt k) = bitAt (k + 1) := by unfold hf bitAt; rw [BitVec.shiftRight_add]
theorem bitAt_val {k : Nat} (h : k < 32) : bitAt k = 1#32 <<< (31 - k) := by
  have : ∀ k : Fin 32, bitAt k.val = 1#32 <<< (31 - k.val) := by decide
  exact this ⟨k, h⟩
theorem bitAt_test (a : W32) {k : Nat} (h : k < 32) : (bits .and .u32 (nU a) (nU (bitAt k)) != 0) = a.getLsbD (31 - k) := by
  rw [and_u32, bitAt_val h]
  have hz : an a (1#32 <<< (31 - k)) = if a.getLsbD (31 - k) then 1#32 <<< (31 - k) else 0#32 := by
    unfold an
    apply BitVec.eq_of_getLsbD_eq
    intro i hi
    by_cases e : i = 31 - k
    · subst e
      cases hh : a.getLsbD (31 - k) <;> simp [hi] <;> simpa [BitVec.getLsbD_eq_getElem hi] using hh
    · cases hh : a.getLsbD (31 - k) <;> simp [hi] <;> (try (intro _ _; omega))
  rw [hz]
  have hp := bitAt_pos h
  rw [bitAt_val h] at hp
  cases hh : a.getLsbD (31 - k)
  · rfl
  · simp only [if_true, bne_iff_ne]; omega
theorem timesTo_step (a b o : W32) {k : Nat} (h : k < 32) : xr o (timesTo a k (32 - k) b) = xr (if a.getLsbD (31 - k) then xr o b else o) (timesTo a (k + 1) (32 - (k + 1)) (down b)) := by
  rw [show 32 - k = (32 - (k + 1)) + 1 by omega]
  simp only [timesTo, xr]
  split
  · rw [BitVec.xor_assoc]
  · simp
theorem times_start (a b : W32) : xr 0#32 (timesTo a 0 (32 - 0) b) = times a b := by simp [xr, times]
theorem times_end (a b o : W32) : xr o (timesTo a 32 (32 - 32) b) = o := by simp [xr, timesTo]
theorem shl_bit (a : W32) (k : Nat) : IntKind.u32.wrap (nU (a <<< k) * 2) = nU (a <<< (k + 1)) := by
  have e : a.toNat * 2 ^ (k + 1) = (a.toNat * 2 ^ k) * 2 := by rw [Nat.pow_succ, Nat.mul_assoc]
  simp only [IntKind.wrap_u32', nU, BitVec.toNat_shiftLeft, Nat.shiftLeft_eq, e]
  generalize a.toNat * 2 ^ k = m
  omega
theorem top_test (a : W32) {k : Nat} (h : k < 32) : (bits .and .u32 (nU (a <<< k)) 2147483648 != 0) = a.getLsbD (31 - k) := by
  have h0 := bitAt_test (a <<< k) (k := 0) (by omega)
  rw [show nU (bitAt 0) = 2147483648 from rfl] at h0
  rw [h0, BitVec.getLsbD_shiftLeft, show 31 - 0 = 31 from rfl]
  have h1 : ¬ 31 < k := by omega
  simp [h1]
theorem shl0 (a : W32) : a <<< 0 = a := by simp
/-- the bit k of a byte, at the lowest place -/
def sr (c : UInt8) (k : Nat) : W32 := ext c >>> k
theorem ext_nU (c : UInt8) : (c.toNat : Int) = nU (ext c) := by
  unfold nU ext; simp
theorem sr_nU (c : UInt8) (k : Nat) : (c.toNat : Int) / 2 ^ k = nU (sr c k) := by
  rw [ext_nU]; unfold nU sr; rw [BitVec.toNat_ushiftRight, Nat.shiftRight_eq_div_pow]; simp
/-- a register behind k bits of a byte, whose rest is to come: as the whole byte's first -/
def bitsTo (r : W32) (c : UInt8) (k : Nat) : W32 := downN (8 - k) (xr r (sr c k))
theorem bits_start (r : W32) (c : UInt8) : bitsTo r c 0 = byte r c := by simp [bitsTo, byte, xr, sr]
theorem bits_end (r : W32) (c : UInt8) : bitsTo r c 8 = r := by
  have : sr c 8 = 0#32 := by
    unfold sr; apply BitVec.eq_of_toNat_eq; rw [BitVec.toNat_ushiftRight, Nat.shiftRight_eq_div_pow]
    have := ext_nU c; unfold nU at this; have := c.toNat_lt; simp; omega
  simp [bitsTo, xr, this, downN]
theorem bits_step (r : W32) (c : UInt8) {k : Nat} (h : k < 8) : bitsTo r c k = bitsTo (if (xr r (sr c k)).getLsbD 0 then xr (hf r) poly else hf r) c (k + 1) := by
  unfold bitsTo
  rw [show 8 - k = (8 - (k + 1)) + 1 by omega]
  show downN _ (down (xr r (sr c k))) = _
  congr 1
  have e : (xr r (sr c k)) >>> 1 = xr (hf r) (sr c (k + 1)) := by
    unfold xr hf sr; rw [BitVec.shiftRight_add]; apply BitVec.eq_of_getLsbD_eq; intro i hi; simp
  unfold down
  split
  · rw [e]; unfold xr; rw [BitVec.xor_assoc, BitVec.xor_assoc, BitVec.xor_comm (sr c (k + 1))]
  · rw [e]
theorem reg_snoc (r : W32) (l : List UInt8) (c : UInt8) : reg r (l ++ [c]) = downN 8 (xr (reg r l) (ext c)) := by
  unfold reg; rw [List.foldl_append]; rfl
theorem sum_snoc (l : List (List UInt8)) (b : List UInt8) : sum (l ++ [b]) = more (sum l) b := by
  unfold sum; rw [List.foldl_append]; rfl
theorem not_u32 (a : W32) : bits .xor .u32 IntKind.u32.max (nU a) = nU (~~~ a) := by
  have h := xor_u32 (BitVec.allOnes 32) a
  rw [show nU (BitVec.allOnes 32) = IntKind.u32.max from by decide] at h
  rw [h]; unfold xr; rw [BitVec.allOnes_xor]
theorem i64_and_one (m : Nat) (h : m ≤ 9223372036854775807) : bits .and .i64 (m : Int) 1 = ((m % 2 : Nat) : Int) := by
  show IntKind.i64.wrap ((BitVec.ofInt 64 (m : Int) &&& BitVec.ofInt 64 1).toNat : Int) = _
  rw [BitVec.toNat_and, show BitVec.ofInt 64 1 = 1#64 from rfl, BitVec.ofInt_natCast, BitVec.toNat_ofNat, show (1#64).toNat = 2 ^ 1 - 1 from rfl, Nat.and_two_pow_sub_one_eq_mod, IntKind.wrap_i64]
  omega
end Crc

set_option maxHeartbeats 400000 in
theorem down_any (x : Crc.W32) (w : World) :
    Calls Try.prog 65 #[Crc.U x] w fun e w' => e = .returned (Crc.U (Crc.down x)) ∧ w = w' := by
  have h2 := Crc.half x
  have h3 := Crc.xor_poly (Crc.hf x)
  cases hb : x.getLsbD 0
  · have h1 := Crc.low x
    rw [hb] at h1
    have hd : Hid (Crc.down x = Crc.hf x) := by show Crc.down x = _; unfold Crc.down; rw [hb]; rfl
    clear hb
    go_enter Try.func65, Try.ntmps65
    go_wp2
    go_ret
    rw [hd.out]; exact ⟨rfl, rfl⟩
  · have h1 := Crc.low x
    rw [hb] at h1
    have hd : Hid (Crc.down x = Crc.xr (Crc.hf x) Crc.poly) := by show Crc.down x = _; unfold Crc.down; rw [hb]; rfl
    clear hb
    go_enter Try.func65, Try.ntmps65
    go_wp2
    go_ret
    rw [hd.out]; exact ⟨rfl, rfl⟩

set_option maxHeartbeats 400000 in
theorem refBits_any (r : Crc.W32) (c : UInt8) (w : World) :
    Calls Try.prog 64 #[Crc.U r, .int .u8 (c.toNat : Int)] w fun e w' => e = .returned (Crc.U (Crc.byte r c)) ∧ w = w' := by
  have hc := Mem.byte_hi c
  go_enter Try.func64, Try.ntmps64
  go_wp2
  go_loop [0, 5] (fun va vt => ∃ (k : Nat) (o : Crc.W32), k ≤ 8 ∧ va = Crc.U o ∧ vt = .int .i64 k ∧ Hid (Crc.bitsTo o c k = Crc.byte r c)) (fun _ t => 8 - (intOf t).toNat)
  case atStart => exact ⟨0, r, by omega, rfl, rfl, Crc.bits_start r c⟩
  case round =>
    obtain ⟨k, o, hk, rfl, rfl, H⟩ := hrel
    by_cases hlt : k < 8
    · have hhalf := Crc.half o
      have hsr := Crc.sr_nU c k
      have hx := Crc.xor_u32 o (Crc.sr c k)
      have hp := Crc.xor_poly (Crc.hf o)
      have hl := Crc.low' (Crc.xr o (Crc.sr c k))
      have hs := Lib.hid (Crc.bits_step o c hlt)
      cases hb : (Crc.xr o (Crc.sr c k)).getLsbD 0
      all_goals
        rw [hb] at hl
        simp only [if_true, Bool.false_eq_true, if_false] at hl
        have H2 := H.out
        rw [hs.out, hb] at H2
        have H3 := Lib.hid H2
        clear H2 hb
        go_wp2
        go_round
        case rel => exact ⟨k + 1, _, by omega, rfl, by go_num, H3⟩
        case measure => simp [intOf]; omega
    · obtain rfl : k = 8 := by omega
      go_wp2
      go_ret
      have h := H.out
      rw [Crc.bits_end] at h
      exact ⟨by show Ending.returned (Crc.U o) = _; rw [h], rfl⟩

set_option maxHeartbeats 400000 in
theorem crcMore_any (s : Crc.W32) (A : Option Addr) (c : Nat) (bs : List UInt8) (B : Nat) (w : World) (hr : Mem.Rd w B A (bs.map Mem.byteV)) (hn : bs.length ≤ maxLen) :
    Calls Try.prog 61 #[Crc.U s, .slice A bs.length c] w fun e w' => e = .returned (Crc.U (Crc.more s bs)) ∧ w = w' := by
  unfold maxLen at hn
  have hnot := Crc.not_u32 s
  have hm := Lib.hid hr
  clear hr
  go_enter Try.func61, Try.ntmps61
  go_wp2
  go_loop [5, 12] (fun vr vi => ∃ (k : Nat), k ≤ bs.length ∧ vr = Crc.U (Crc.reg (~~~ s) (bs.take k)) ∧ vi = .int .i64 k) (fun _ t => bs.length - (intOf t).toNat)
  case atStart => exact ⟨0, by omega, rfl, rfl⟩
  case round =>
    obtain ⟨k, hk, rfl, rfl⟩ := hrel
    clear hnot
    by_cases hlt : k < bs.length
    · obtain ⟨b, o, x, rfl, hx, hc⟩ := hm.out.byte hlt
      have hx2 := Crc.xor_u32 (Crc.reg (~~~ s) (bs.take k)) (Crc.ext x)
      have hex := Crc.ext_nU x
      have hb := Mem.byte_hi x
      have hts := Lib.hid (Mem.take_snoc hx)
      clear hx
      go_wp2
      go_loop [5, 20] (fun vr vj => ∃ (j : Nat), j ≤ 8 ∧ vr = Crc.U (Crc.downN j (Crc.xr (Crc.reg (~~~ s) (bs.take k)) (Crc.ext x))) ∧ vj = .int .i64 j) (fun _ t => 8 - (intOf t).toNat)
      case atStart => exact ⟨0, by omega, rfl, rfl⟩
      case round =>
        obtain ⟨j, hj, rfl, rfl⟩ := hrel
        clear hc hx2 hex
        by_cases hlt2 : j < 8
        · have hd := Lib.hid (Crc.downN_succ' j (Crc.xr (Crc.reg (~~~ s) (bs.take k)) (Crc.ext x)))
          go_wp2_with (go_at_call 65; refine (down_any _ _).mono ?_; rintro e w' ⟨rfl, rfl⟩)
          go_round
          case rel => exact ⟨j + 1, by omega, by rw [hd.out], by go_num⟩
          case measure => simp [intOf]; omega
        · obtain rfl : j = 8 := by omega
          go_wp2
          go_round
          case rel => exact ⟨k + 1, by omega, by rw [hts.out, Crc.reg_snoc], by go_num⟩
          case measure => simp [intOf]; omega
    · obtain rfl : k = bs.length := by omega
      have hnot := Crc.not_u32 (Crc.reg (~~~ s) bs)
      go_wp2
      go_ret
      exact ⟨rfl, rfl⟩

set_option maxHeartbeats 400000 in
theorem refMore_any (s : Crc.W32) (A : Option Addr) (c : Nat) (bs : List UInt8) (B : Nat) (w : World) (hr : Mem.Rd w B A (bs.map Mem.byteV)) (hn : bs.length ≤ maxLen) :
    Calls Try.prog 52 #[Crc.U s, .slice A bs.length c] w fun e w' => e = .returned (Crc.U (Crc.more s bs)) ∧ w = w' := by
  unfold maxLen at hn
  have hnot := Crc.not_u32 s
  have hm := Lib.hid hr
  clear hr
  go_enter Try.func52, Try.ntmps52
  go_wp2
  go_loop [5, 6] (fun vr vi => ∃ (k : Nat), k ≤ bs.length ∧ vr = Crc.U (Crc.reg (~~~ s) (bs.take k)) ∧ vi = .int .i64 k) (fun _ t => bs.length - (intOf t).toNat)
  case atStart => exact ⟨0, by omega, rfl, rfl⟩
  case round =>
    obtain ⟨k, hk, rfl, rfl⟩ := hrel
    clear hnot
    by_cases hlt : k < bs.length
    · obtain ⟨b, o, x, rfl, hx, hc⟩ := hm.out.byte hlt
      have hts := Lib.hid (Mem.take_snoc hx)
      clear hx
      go_wp2_with (go_at_call 64; refine (refBits_any _ _ _).mono ?_; rintro e w' ⟨rfl, rfl⟩)
      go_round
      case rel => exact ⟨k + 1, by omega, by rw [hts.out, Crc.reg_snoc]; rfl, by go_num⟩
      case measure => simp [intOf]; omega
    · obtain rfl : k = bs.length := by omega
      have hnot := Crc.not_u32 (Crc.reg (~~~ s) bs)
      go_wp2
      go_ret
      exact ⟨rfl, rfl⟩

/-- the rest of Join's loop does not hang on how far it is -/
def Parts (w : World) (B : Nat) (vs : List Value) (bss : List (List UInt8)) : Prop :=
  vs.length = bss.length ∧ ∀ k (h1 : k < vs.length) (h2 : k < bss.length), ∃ A c, vs[k] = .slice A bss[k].length c ∧ Mem.Rd w B A (bss[k].map Mem.byteV) ∧ bss[k].length ≤ maxLen

theorem Parts.at {w : World} {B B' : Nat} {A : Option Addr} {vs : List Value} {bss : List (List UInt8)} (h : Parts w B' vs bss) (hr : Mem.Rd w B A vs) {k : Nat} (hk : k < bss.length) :
    ∃ b o A' c bs, A = some ⟨b, o, none⟩ ∧ bss[k]? = some bs ∧ w.cell? ⟨b, o + k, none⟩ = some (.slice A' bs.length c) ∧ Mem.Rd w B' A' (bs.map Mem.byteV) ∧ bs.length ≤ maxLen := by
  have hl := h.1
  obtain ⟨b, o, e, _, hc⟩ := hr.at (k := k) (by omega)
  obtain ⟨A', c, hv, h3, h4⟩ := h.2 k (by omega) hk
  exact ⟨b, o, A', c, bss[k], e, List.getElem?_eq_getElem hk, by rw [hc, hv], h3, h4⟩

set_option maxHeartbeats 400000 in
theorem crcSum_any (A : Option Addr) (c : Nat) (vs : List Value) (bss : List (List UInt8)) (B B' : Nat) (w : World) (hr : Mem.Rd w B A vs) (hp : Parts w B' vs bss) (hn : bss.length ≤ maxLen) :
    Calls Try.prog 40 #[.slice A bss.length c] w fun e w' => e = .returned (Crc.U (Crc.sum bss)) ∧ w = w' := by
  unfold maxLen at hn
  have hm := Lib.hid hr
  have hq := Lib.hid hp
  clear hr hp
  go_enter Try.func40, Try.ntmps40
  go_wp2
  go_loop [3, 8] (fun vr vi => ∃ (k : Nat), k ≤ bss.length ∧ vr = Crc.U (Crc.sum (bss.take k)) ∧ vi = .int .i64 k) (fun _ t => bss.length - (intOf t).toNat)
  case atStart => exact ⟨0, by omega, rfl, rfl⟩
  case round =>
    obtain ⟨k, hk, rfl, rfl⟩ := hrel
    by_cases hlt : k < bss.length
    · obtain ⟨b, o, A', c', bs, rfl, hx, hc, h3, h4⟩ := hq.out.at hm.out hlt
      have hts := Lib.hid (Mem.take_snoc hx)
      have h3' := Lib.hid h3
      clear hx h3
      go_wp2_with (go_at_call 61; refine (crcMore_any _ _ _ _ _ _ h3'.out h4).mono ?_; rintro e w' ⟨rfl, rfl⟩)
      go_round
      case rel => exact ⟨k + 1, by omega, by rw [hts.out, Crc.sum_snoc], by go_num⟩
      case measure => simp [intOf]; omega
    · obtain rfl : k = bss.length := by omega
      go_wp2
      go_ret
      exact ⟨by show Ending.returned (Crc.U (Crc.sum bss)) = _; rfl, rfl⟩

theorem crcSum_box (W : World) (s : Nat) (A : Option Addr) (c n B : Nat) (bs : List UInt8) (hb : Mem.Rd W (s + 1) (some ⟨s, 0, none⟩) [.slice A n c]) (hr : Mem.Rd W B A (bs.map Mem.byteV)) (hn : bs.length ≤ maxLen) (hl : bs.length = n) :
    Calls Try.prog 40 #[.slice (some ⟨s, 0, none⟩) 1 1] W fun e w' => e = .returned (Crc.U (Crc.more 0#32 bs)) ∧ W = w' := by
  subst hl
  exact crcSum_any (some ⟨s, 0, none⟩) 1 [.slice A bs.length c] [bs] (s + 1) B W hb
    ⟨rfl, fun k h1 h2 => by
      have hk : k = 0 := by simp at h2; omega
      subst hk
      exact ⟨A, c, rfl, hr, hn⟩⟩ (by simp [maxLen])
/-- Sum of one slice: the call makes the list of it -/
theorem crcSum_one (W : World) (s : Nat) (hs : W.heap.size = s) (A : Option Addr) (c n : Nat) (bs : List UInt8) (hr : Mem.Rd W s A (bs.map Mem.byteV)) (hn : bs.length ≤ maxLen) (hl : bs.length = n) :
    Calls Try.prog 40 #[.slice (some ⟨s, 0, none⟩) 1 1] (W.alloc (.cells #[.slice A n c] 39)) fun e w' => e = .returned (Crc.U (Crc.more 0#32 bs)) ∧ W.alloc (.cells #[.slice A n c] 39) = w' := by
  subst hl
  have h := crcSum_any (some ⟨s, 0, none⟩) 1 [.slice A bs.length c] [bs] (s + 1) s (W.alloc (.cells #[.slice A bs.length c] 39)) (Mem.Rd.alloc_new W _ _ _ hs)
    ⟨rfl, fun k h1 h2 => by
      have hk : k = 0 := by simp at h2; omega
      subst hk
      exact ⟨A, c, rfl, hr.alloc (by omega) _, hn⟩⟩ (by simp [maxLen])
  exact h

end Go.Proofs.Ytkfgedgjpgehoaa
