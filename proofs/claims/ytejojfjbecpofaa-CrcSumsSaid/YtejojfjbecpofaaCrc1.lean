/- The walks of crc.More, crc.Sum, crc.Join and of the document's own: what each computes. Conditions: the bytes are read from memory; a slice is no longer than any slice can be. -/
import Derived.Test.YtejojfjbecpofaaCrc0
import Derived.RegionTactic
namespace Go.Proofs.Ytejojfjbecpofaa
open Go.RowKit

set_option maxHeartbeats 400000 in
theorem crcMore_any (s : Crc.W32) (A : Option Addr) (c : Nat) (bs : List UInt8) (B : Nat) (w : World) (hr : Mem.Rd w B A (bs.map Mem.byteV)) (hn : bs.length ≤ maxLen) :
    Calls Try.prog 13 #[Crc.U s, .slice A bs.length c] w fun e w' => e = .returned (Crc.U (Crc.more s bs)) ∧ w = w' := by
  unfold maxLen at hn
  have hnot := Crc.not_u32 s
  have hm := Lib.hid hr
  clear hr
  go_enter Try.func13, Try.ntmps13
  go_wp2
  go_loop [5, 12] (fun vr vi => ∃ (k : Nat), k ≤ bs.length ∧ vr = Crc.U (Crc.reg (~~~ s) (bs.take k)) ∧ vi = .int .i64 k) (fun _ t => bs.length - (intOf t).toNat)
  case atStart => exact ⟨0, by omega, rfl, rfl⟩
  case round =>
    obtain ⟨k, hk, rfl, rfl⟩ := hrel
    clear hnot
    by_cases hlt : k < bs.length
    · obtain ⟨b, o, x, rfl, hx, hc⟩ := hm.out.byte hlt
      have hx2 := Crc.xor_u32 (Crc.reg (~~~ s) (bs.take k)) (Crc.ext x)
      have hex := Crc.ext_nU x
      have hb := Mem.byte_hi x
      have hts := Lib.hid (Mem.take_snoc hx)
      clear hx
      go_wp2
      go_loop [5, 20] (fun vr vj => ∃ (j : Nat), j ≤ 8 ∧ vr = Crc.U (Crc.downN j (Crc.xr (Crc.reg (~~~ s) (bs.take k)) (Crc.ext x))) ∧ vj = .int .i64 j) (fun _ t => 8 - (intOf t).toNat)
      case atStart => exact ⟨0, by omega, rfl, rfl⟩
      case round =>
        obtain ⟨j, hj, rfl, rfl⟩ := hrel
        clear hc hx2 hex
        by_cases hlt2 : j < 8
        · have hd := Lib.hid (Crc.downN_succ' j (Crc.xr (Crc.reg (~~~ s) (bs.take k)) (Crc.ext x)))
          go_wp2_with (go_at_call 17; refine (down_any _ _).mono ?_; rintro e w' ⟨rfl, rfl⟩)
          go_round
          case rel => exact ⟨j + 1, by omega, by rw [hd.out], by go_num⟩
          case measure => simp [intOf]; omega
        · obtain rfl : j = 8 := by omega
          go_wp2
          go_round
          case rel => exact ⟨k + 1, by omega, by rw [hts.out, Crc.reg_snoc], by go_num⟩
          case measure => simp [intOf]; omega
    · obtain rfl : k = bs.length := by omega
      have hnot := Crc.not_u32 (Crc.reg (~~~ s) bs)
      go_wp2
      go_ret
      exact ⟨rfl, rfl⟩

set_option maxHeartbeats 400000 in
theorem refMore_any (s : Crc.W32) (A : Option Addr) (c : Nat) (bs : List UInt8) (B : Nat) (w : World) (hr : Mem.Rd w B A (bs.map Mem.byteV)) (hn : bs.length ≤ maxLen) :
    Calls Try.prog 14 #[Crc.U s, .slice A bs.length c] w fun e w' => e = .returned (Crc.U (Crc.more s bs)) ∧ w = w' := by
  unfold maxLen at hn
  have hnot := Crc.not_u32 s
  have hm := Lib.hid hr
  clear hr
  go_enter Try.func14, Try.ntmps14
  go_wp2
  go_loop [5, 6] (fun vr vi => ∃ (k : Nat), k ≤ bs.length ∧ vr = Crc.U (Crc.reg (~~~ s) (bs.take k)) ∧ vi = .int .i64 k) (fun _ t => bs.length - (intOf t).toNat)
  case atStart => exact ⟨0, by omega, rfl, rfl⟩
  case round =>
    obtain ⟨k, hk, rfl, rfl⟩ := hrel
    clear hnot
    by_cases hlt : k < bs.length
    · obtain ⟨b, o, x, rfl, hx, hc⟩ := hm.out.byte hlt
      have hts := Lib.hid (Mem.take_snoc hx)
      clear hx
      go_wp2_with (go_at_call 18; refine (refBits_any _ _ _).mono ?_; rintro e w' ⟨rfl, rfl⟩)
      go_round
      case rel => exact ⟨k + 1, by omega, by rw [hts.out, Crc.reg_snoc]; rfl, by go_num⟩
      case measure => simp [intOf]; omega
    · obtain rfl : k = bs.length := by omega
      have hnot := Crc.not_u32 (Crc.reg (~~~ s) bs)
      go_wp2
      go_ret
      exact ⟨rfl, rfl⟩

/-- the rest of Join's loop does not hang on how far it is -/
def JoinRel (a : Crc.W32) (n : Int) (va vn vs : Value) : Prop :=
  ∃ (m e : Nat) (x : Crc.W32), m ≤ 9223372036854775807 ∧ va = Crc.U x ∧ vn = .int .i64 m ∧ vs = Crc.U (Crc.pow e) ∧ Crc.downN (e * m) x = Crc.downN (8 * n.toNat) a

set_option maxHeartbeats 400000 in
theorem crcJoin_any (a b : Crc.W32) (n : Int) (w : World) (hlo : -9223372036854775808 ≤ n) (hhi : n ≤ 9223372036854775807) :
    Calls Try.prog 15 #[Crc.U a, Crc.U b, .int .i64 n] w fun e w' => e = .returned (Crc.U (Crc.join a b n)) ∧ w = w' := by
  by_cases h1 : n < 1
  · go_enter Try.func15, Try.ntmps15
    go_wp2
    go_ret
    exact ⟨by show Ending.returned (Crc.U a) = _; rw [Crc.join, if_pos h1], rfl⟩
  · go_enter Try.func15, Try.ntmps15
    go_wp2
    go_loop [0, 2, 7] (JoinRel a n) (fun _ t _ => (intOf t).toNat)
    case atStart => exact ⟨n.toNat, 8, a, by omega, rfl, by rw [Int.toNat_of_nonneg (by omega)], by rw [show Crc.pow 8 = 8388608#32 from by decide]; rfl, rfl⟩
    case round =>
      obtain ⟨m, e, x, hm, rfl, rfl, rfl, H⟩ := hrel
      by_cases hpos : 0 < m
      · have hs := Lib.hid (Crc.join_half e m x)
        have hsq := Lib.hid (Crc.pow_sq e)
        have hti := Lib.hid (Crc.times_pow x e)
        have HH := Lib.hid H
        clear H
        rcases Nat.mod_two_eq_zero_or_one m with h2 | h2
        · have ht : ((m : Int) % 2 == 1) = false := by rw [beq_eq_false_iff_ne]; omega
          have h2' := Lib.hid h2
          clear h2
          go_wp2_with (go_at_call 19; refine (times_any _ _ _).mono ?_; rintro e w' ⟨rfl, rfl⟩)
          go_round
          case rel => exact ⟨m / 2, e + e, x, by omega, rfl, by go_num, by rw [← hsq.out], by rw [← HH.out, hs.out, if_neg (by rw [h2'.out]; omega)]⟩
          case measure => simp [intOf]; omega
        · have ht : ((m : Int) % 2 == 1) = true := by rw [beq_iff_eq]; omega
          have h2' := Lib.hid h2
          clear h2
          go_wp2_with (go_at_call 19; refine (times_any _ _ _).mono ?_; rintro e w' ⟨rfl, rfl⟩)
          go_round
          case rel => exact ⟨m / 2, e + e, _, by omega, by rw [hti.out], by go_num, by rw [← hsq.out], by rw [← HH.out, hs.out, if_pos h2'.out]⟩
          case measure => simp [intOf]; omega
      · obtain rfl : m = 0 := by omega
        have hx := Crc.xor_u32 x b
        have HH := Lib.hid H
        clear H
        go_wp2
        go_ret
        refine ⟨?_, rfl⟩
        show Ending.returned (Crc.U (Crc.xr x b)) = _
        have h := HH.out
        rw [Nat.mul_zero] at h
        rw [Crc.join, if_neg (by omega), ← h]; rfl

set_option maxHeartbeats 400000 in
theorem refJoin_any (a b : Crc.W32) (n : Int) (w : World) (hlo : -9223372036854775808 ≤ n) (hhi : n ≤ 9223372036854775807) :
    Calls Try.prog 16 #[Crc.U a, Crc.U b, .int .i64 n] w fun e w' => e = .returned (Crc.U (Crc.join a b n)) ∧ w = w' := by
  by_cases h1 : n < 1
  · go_enter Try.func16, Try.ntmps16
    go_wp2
    go_ret
    exact ⟨by show Ending.returned (Crc.U a) = _; rw [Crc.join, if_pos h1], rfl⟩
  · go_enter Try.func16, Try.ntmps16
    go_wp2
    go_loop [0, 2, 7] (JoinRel a n) (fun _ t _ => (intOf t).toNat)
    case atStart => exact ⟨n.toNat, 8, a, by omega, rfl, by rw [Int.toNat_of_nonneg (by omega)], by rw [show Crc.pow 8 = 8388608#32 from by decide]; rfl, rfl⟩
    case round =>
      obtain ⟨m, e, x, hm, rfl, rfl, rfl, H⟩ := hrel
      by_cases hpos : 0 < m
      · have hs := Lib.hid (Crc.join_half e m x)
        have hsq := Lib.hid (Crc.pow_sq e)
        have hti := Lib.hid (Crc.pow_times e x)
        have HH := Lib.hid H
        clear H
        rcases Nat.mod_two_eq_zero_or_one m with h2 | h2
        · have ht : (bits .and .i64 (m : Int) 1 == 1) = false := by rw [Crc.i64_and_one m (by omega), beq_eq_false_iff_ne]; omega
          have h2' := Lib.hid h2
          clear h2
          go_wp2_with (go_at_call 20; refine (refMul_any _ _ _).mono ?_; rintro e w' ⟨rfl, rfl⟩)
          go_round
          case rel => exact ⟨m / 2, e + e, x, by omega, rfl, by go_num, by rw [← hsq.out], by rw [← HH.out, hs.out, if_neg (by rw [h2'.out]; omega)]⟩
          case measure => simp [intOf]; omega
        · have ht : (bits .and .i64 (m : Int) 1 == 1) = true := by rw [Crc.i64_and_one m (by omega), beq_iff_eq]; omega
          have h2' := Lib.hid h2
          clear h2
          go_wp2_with (go_at_call 20; refine (refMul_any _ _ _).mono ?_; rintro e w' ⟨rfl, rfl⟩)
          go_round
          case rel => exact ⟨m / 2, e + e, _, by omega, by rw [hti.out], by go_num, by rw [← hsq.out], by rw [← HH.out, hs.out, if_pos h2'.out]⟩
          case measure => simp [intOf]; omega
      · obtain rfl : m = 0 := by omega
        have hx := Crc.xor_u32 x b
        have HH := Lib.hid H
        clear H
        go_wp2
        go_ret
        refine ⟨?_, rfl⟩
        show Ending.returned (Crc.U (Crc.xr x b)) = _
        have h := HH.out
        rw [Nat.mul_zero] at h
        rw [Crc.join, if_neg (by omega), ← h]; rfl

/-- the pieces of a list of slices: each a slice's value, its bytes read below B -/
def Parts (w : World) (B : Nat) (vs : List Value) (bss : List (List UInt8)) : Prop :=
  vs.length = bss.length ∧ ∀ k (h1 : k < vs.length) (h2 : k < bss.length), ∃ A c, vs[k] = .slice A bss[k].length c ∧ Mem.Rd w B A (bss[k].map Mem.byteV) ∧ bss[k].length ≤ maxLen

theorem Parts.at {w : World} {B B' : Nat} {A : Option Addr} {vs : List Value} {bss : List (List UInt8)} (h : Parts w B' vs bss) (hr : Mem.Rd w B A vs) {k : Nat} (hk : k < bss.length) :
    ∃ b o A' c bs, A = some ⟨b, o, none⟩ ∧ bss[k]? = some bs ∧ w.cell? ⟨b, o + k, none⟩ = some (.slice A' bs.length c) ∧ Mem.Rd w B' A' (bs.map Mem.byteV) ∧ bs.length ≤ maxLen := by
  have hl := h.1
  obtain ⟨b, o, e, _, hc⟩ := hr.at (k := k) (by omega)
  obtain ⟨A', c, hv, h3, h4⟩ := h.2 k (by omega) hk
  exact ⟨b, o, A', c, bss[k], e, List.getElem?_eq_getElem hk, by rw [hc, hv], h3, h4⟩

set_option maxHeartbeats 400000 in
theorem crcSum_any (A : Option Addr) (c : Nat) (vs : List Value) (bss : List (List UInt8)) (B B' : Nat) (w : World) (hr : Mem.Rd w B A vs) (hp : Parts w B' vs bss) (hn : bss.length ≤ maxLen) :
    Calls Try.prog 11 #[.slice A bss.length c] w fun e w' => e = .returned (Crc.U (Crc.sum bss)) ∧ w = w' := by
  unfold maxLen at hn
  have hm := Lib.hid hr
  have hq := Lib.hid hp
  clear hr hp
  go_enter Try.func11, Try.ntmps11
  go_wp2
  go_loop [3, 8] (fun vr vi => ∃ (k : Nat), k ≤ bss.length ∧ vr = Crc.U (Crc.sum (bss.take k)) ∧ vi = .int .i64 k) (fun _ t => bss.length - (intOf t).toNat)
  case atStart => exact ⟨0, by omega, rfl, rfl⟩
  case round =>
    obtain ⟨k, hk, rfl, rfl⟩ := hrel
    by_cases hlt : k < bss.length
    · obtain ⟨b, o, A', c', bs, rfl, hx, hc, h3, h4⟩ := hq.out.at hm.out hlt
      have hts := Lib.hid (Mem.take_snoc hx)
      have h3' := Lib.hid h3
      clear hx h3
      go_wp2_with (go_at_call 13; refine (crcMore_any _ _ _ _ _ _ h3'.out h4).mono ?_; rintro e w' ⟨rfl, rfl⟩)
      go_round
      case rel => exact ⟨k + 1, by omega, by rw [hts.out, Crc.sum_snoc], by go_num⟩
      case measure => simp [intOf]; omega
    · obtain rfl : k = bss.length := by omega
      go_wp2
      go_ret
      exact ⟨by show Ending.returned (Crc.U (Crc.sum bss)) = _; rfl, rfl⟩

set_option maxHeartbeats 400000 in
theorem refSum_any (A : Option Addr) (c : Nat) (vs : List Value) (bss : List (List UInt8)) (B B' : Nat) (w : World) (hr : Mem.Rd w B A vs) (hp : Parts w B' vs bss) (hn : bss.length ≤ maxLen) :
    Calls Try.prog 12 #[.slice A bss.length c] w fun e w' => e = .returned (Crc.U (Crc.sum bss)) ∧ w = w' := by
  unfold maxLen at hn
  have hm := Lib.hid hr
  have hq := Lib.hid hp
  clear hr hp
  go_enter Try.func12, Try.ntmps12
  go_wp2
  go_loop [3, 4] (fun vr vi => ∃ (k : Nat), k ≤ bss.length ∧ vr = Crc.U (Crc.sum (bss.take k)) ∧ vi = .int .i64 k) (fun _ t => bss.length - (intOf t).toNat)
  case atStart => exact ⟨0, by omega, rfl, rfl⟩
  case round =>
    obtain ⟨k, hk, rfl, rfl⟩ := hrel
    by_cases hlt : k < bss.length
    · obtain ⟨b, o, A', c', bs, rfl, hx, hc, h3, h4⟩ := hq.out.at hm.out hlt
      have hts := Lib.hid (Mem.take_snoc hx)
      have h3' := Lib.hid h3
      clear hx h3
      go_wp2_with (go_at_call 14; refine (refMore_any _ _ _ _ _ _ h3'.out h4).mono ?_; rintro e w' ⟨rfl, rfl⟩)
      go_round
      case rel => exact ⟨k + 1, by omega, by rw [hts.out, Crc.sum_snoc], by go_num⟩
      case measure => simp [intOf]; omega
    · obtain rfl : k = bss.length := by omega
      go_wp2
      go_ret
      exact ⟨by show Ending.returned (Crc.U (Crc.sum bss)) = _; rfl, rfl⟩

/-- Sum of one slice, the list of which was made -/
theorem crcSum_box (W : World) (s : Nat) (A : Option Addr) (c n B : Nat) (bs : List UInt8) (hb : Mem.Rd W (s + 1) (some ⟨s, 0, none⟩) [.slice A n c]) (hr : Mem.Rd W B A (bs.map Mem.byteV)) (hn : bs.length ≤ maxLen) (hl : bs.length = n) :
    Calls Try.prog 11 #[.slice (some ⟨s, 0, none⟩) 1 1] W fun e w' => e = .returned (Crc.U (Crc.more 0#32 bs)) ∧ W = w' := by
  subst hl
  exact crcSum_any (some ⟨s, 0, none⟩) 1 [.slice A bs.length c] [bs] (s + 1) B W hb
    ⟨rfl, fun k h1 h2 => by
      have hk : k = 0 := by simp at h2; omega
      subst hk
      exact ⟨A, c, rfl, hr, hn⟩⟩ (by simp [maxLen])
/-- Sum of one slice: the call makes the list of it -/
theorem crcSum_one (W : World) (s : Nat) (hs : W.heap.size = s) (A : Option Addr) (c n : Nat) (bs : List UInt8) (hr : Mem.Rd W s A (bs.map Mem.byteV)) (hn : bs.length ≤ maxLen) (hl : bs.length = n) :
    Calls Try.prog 11 #[.slice (some ⟨s, 0, none⟩) 1 1] (W.alloc (.cells #[.slice A n c] 24)) fun e w' => e = .returned (Crc.U (Crc.more 0#32 bs)) ∧ W.alloc (.cells #[.slice A n c] 24) = w' := by
  subst hl
  have h := crcSum_any (some ⟨s, 0, none⟩) 1 [.slice A bs.length c] [bs] (s + 1) s (W.alloc (.cells #[.slice A bs.length c] 24)) (Mem.Rd.alloc_new W _ _ _ hs)
    ⟨rfl, fun k h1 h2 => by
      have hk : k = 0 := by simp at h2; omega
      subst hk
      exact ⟨A, c, rfl, hr.alloc (by omega) _, hn⟩⟩ (by simp [maxLen])
  exact h

end Go.Proofs.Ytejojfjbecpofaa
