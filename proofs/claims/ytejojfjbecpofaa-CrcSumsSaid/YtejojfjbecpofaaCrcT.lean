/- The walk of CrcTells: bits turned within 32 in a row turn the checksum. No conditions. -/
import Derived.Test.YtejojfjbecpofaaCrcW
import Derived.Test.YtejojfjbecpofaaCrcLaw2
import Derived.ChangeAlike
namespace Go.Proofs.Ytejojfjbecpofaa
open Go.ChangeShapes Go.WideShapes Go.ChangeAt Go.RowKit
set_option linter.unusedVariables false

namespace Crc
def anyBit (x : W32) (k : Nat) : Bool := (List.range k).any fun j => x.getLsbD j
theorem anyBit_succ (x : W32) (k : Nat) : anyBit x (k + 1) = (anyBit x k || x.getLsbD k) := by simp [anyBit, List.range_succ, List.any_append]
theorem anyBit_some {x : W32} {k : Nat} (h : anyBit x k = true) : ∃ j, j < k ∧ x.getLsbD j = true := by
  unfold anyBit at h
  obtain ⟨j, h1, h2⟩ := List.any_eq_true.1 h
  exact ⟨j, List.mem_range.1 h1, h2⟩
def shr (x : W32) (k : Nat) : W32 := x >>> k
theorem shr_nU (x : W32) (k : Nat) : nU x / 2 ^ k = nU (shr x k) := by
  unfold nU shr; rw [BitVec.toNat_ushiftRight, Nat.shiftRight_eq_div_pow]; simp
theorem shr_bit (x : W32) (k : Nat) : (shr x k).getLsbD 0 = x.getLsbD k := by unfold shr; simp
theorem shr_test (x : W32) (k : Nat) : (bits .and .u32 (nU (shr x k)) 1 == 1) = x.getLsbD k := by rw [low, shr_bit]
/-- the byte with one bit set -/
def pb (i : Nat) : UInt8 := UInt8.ofNat (2 ^ (i % 8))
theorem pb_val : ∀ p : Fin 8, IntKind.u8.wrap (2 ^ p.val) = ((UInt8.ofNat (2 ^ p.val)).toNat : Int) := by decide +kernel
theorem xor_byte (a b : UInt8) : bits .xor .u8 (a.toNat : Int) (b.toNat : Int) = ((a ^^^ b).toNat : Int) := by
  rw [u8_xor_nat _ _ a.toNat_lt b.toNat_lt, UInt8.toNat_xor]
theorem pb_int (i : Nat) : (2 : Int) ^ (i % 8) % 256 = ((pb i).toNat : Int) := by
  have h : ∀ p : Fin 8, (2 : Int) ^ p.val % 256 = ((UInt8.ofNat (2 ^ p.val)).toNat : Int) := by decide +kernel
  exact h ⟨i % 8, by omega⟩
theorem turn_of {c : List UInt8} {i : Nat} {y : UInt8} (h : c[i / 8]? = some y) : turn c i = c.set (i / 8) (y ^^^ pb i) := by
  unfold turn pb; rw [List.getD_eq_getElem?_getD, h]; rfl
end Crc

namespace crcTellsOpen
def Rel (x : Crc.W32) (frm : Nat) (bs : List UInt8) (w : World) (B : Option Addr) (d : Nat) (vt vk : Value) (wr : World) : Prop :=
  ∃ k : Nat, k ≤ 32 ∧ frm + k ≤ 8 * bs.length ∧ vt = .bool (Crc.anyBit x k) ∧ vk = .int .i64 k ∧ Hid (Mem.Own wr 5 1 B bs.length d ((Crc.turns x frm bs k).map Mem.byteV)) ∧ Hid (Below w.heap.size w wr)

set_option maxHeartbeats 1000000 in
theorem walk (A : Option Addr) (c : Nat) (bs : List UInt8) (at0 : Int) (x : Crc.W32) (w : World) (h0 : 0 < bs.length) (h1 : bs.length ≤ 100000) (hx : (Crc.nU x == 0) = false) (hlo : -9223372036854775808 ≤ at0) (hhi : at0 ≤ 9223372036854775807)
    (r : Mem.Rd w w.heap.size A (bs.map Mem.byteV)) :
    Calls Try.prog 5 #[.slice A bs.length c, .int .i64 at0, Crc.U x] w fun e w' => e = .returned (.bool true) ∧ Below w.heap.size w w' := by
  have R := Lib.hid r
  clear r
  have g0 : ((bs.length : Int) == 0) = false := by rw [beq_eq_false_iff_ne]; omega
  have g1 : decide ((100000 : Int) < (bs.length : Int)) = false := by simp; omega
  have ht1 : -(8 * (bs.length : Int)) < at0.tmod (8 * (bs.length : Int)) := by have := Int.lt_tmod_of_pos at0 (b := 8 * (bs.length : Int)) (by omega); omega
  have ht2 : at0.tmod (8 * (bs.length : Int)) < 8 * (bs.length : Int) := Int.tmod_lt_of_pos at0 (by omega)
  obtain ⟨frm, hfr, hfl⟩ : ∃ frm : Nat, (at0.tmod (8 * (bs.length : Int)) + 8 * (bs.length : Int)) % (8 * (bs.length : Int)) = (frm : Int) ∧ frm < 8 * bs.length := by
    have a1 := Int.emod_nonneg (at0.tmod (8 * (bs.length : Int)) + 8 * (bs.length : Int)) (show (8 * (bs.length : Int)) ≠ 0 by omega)
    have a2 := Int.emod_lt_of_pos (at0.tmod (8 * (bs.length : Int)) + 8 * (bs.length : Int)) (show 0 < (8 * (bs.length : Int)) by omega)
    exact ⟨((at0.tmod (8 * (bs.length : Int)) + 8 * (bs.length : Int)) % (8 * (bs.length : Int))).toNat, by omega, by omega⟩
  go_enter Try.func5, Try.ntmps5
  go_wp2_with (first
    | (go_at_call 10; refine (able_any _).mono ?_; rintro e w1 ⟨rfl, hb1⟩)
    | (at_builtin; refine Mem.wpList_clone _ rfl (.tmp 27) (.tmp 28) _ rfl bytes_elem w1.heap.size rfl w w.heap.size A bs.length c (bs.map Mem.byteV) rfl ?_ rfl hb1 hb1.size R.out (by simp) (Mem.bytes_one _) (by unfold maxLen; omega) (by omega); intro B1 d1 w2 hown hb2 hs2 hf2))
  simp only [hfr]
  clear hfr ht1 ht2
  go_loopw [10, 11] (Rel x frm bs w B1 d1) (fun _ t _ => 32 - (intOf t).toNat)
  case atStart => exact ⟨0, by omega, by omega, rfl, rfl, hown, hb2⟩
  case round =>
    obtain ⟨k, hk, hfk, rfl, rfl, HO, HB⟩ := hrel
    by_cases hc : k < 32 ∧ frm + k < 8 * bs.length
    · obtain ⟨hk2, hf2'⟩ := hc
      have hlt : ((frm : Int) + (k : Int) < 8 * (bs.length : Int)) := by omega
      have hsh := Crc.shr_nU x k
      have hbt := Crc.shr_test x k
      cases hb : x.getLsbD k
      · rw [hb] at hbt
        have hb' := Lib.hid hb
        clear hb
        go_wp2
        go_roundw
        case rel => exact ⟨k + 1, by omega, by omega, by rw [Crc.anyBit_succ, hb'.out, Bool.or_false], by go_num, by rw [show Crc.turns x frm bs (k + 1) = Crc.turns x frm bs k from by simp [Crc.turns, hb'.out]]; exact HO, HB⟩
        case measure => simp [intOf]; omega
      · rw [hb] at hbt
        have hb' := Lib.hid hb
        clear hb
        go_wp2
        obtain ⟨g, o, rfl⟩ := HO.out.form (by omega)
        have hj : (frm + k) / 8 < (Crc.turns x frm bs k).length := by rw [Crc.turns_length]; omega
        obtain ⟨y, hy⟩ : ∃ y, (Crc.turns x frm bs k)[(frm + k) / 8]? = some y := ⟨_, List.getElem?_eq_getElem hj⟩
        have hcell : wr.cell? ⟨g, o + (frm + k) / 8, none⟩ = some (Mem.byteV y) := HO.out.cell (by rw [List.getElem?_map, hy]; rfl)
        have hfree : wr.frozen? ⟨g, o + (frm + k) / 8, none⟩ = false := HO.out.free _
        have hyb := Mem.byte_hi y
        clear hj hsh hbt
        have hy' := Lib.hid hy
        clear hy
        go_region
        go_wp2
        go_roundw
        case rel =>
          have HO2 := HO.out.set ((frm + k) / 8) (.int .u8 (bits .xor .u8 (y.toNat : Int) (2 ^ ((frm + k) % 8) % 256)))
          rw [Crc.pb_int, Crc.xor_byte, show (Value.int .u8 ((y ^^^ Crc.pb (frm + k)).toNat : Int)) = Mem.byteV (y ^^^ Crc.pb (frm + k)) from rfl, ← List.map_set, ← Crc.turn_of hy'.out] at HO2
          exact ⟨k + 1, by omega, by omega, by rw [Crc.anyBit_succ, hb'.out, Bool.or_true], by go_num,
            by rw [show Crc.turns x frm bs (k + 1) = Crc.turn (Crc.turns x frm bs k) (frm + k) from by simp [Crc.turns, hb'.out], Crc.pb_int, Crc.xor_byte]; exact HO2,
            (HB.out.setCell (p := ⟨g, o + (frm + k) / 8, none⟩) (Nat.le_trans hb1.size (hf2 ⟨g, o, none⟩ rfl)) _).drew⟩
        case measure => simp [intOf]; omega
    · have hend : k = 32 ∨ frm + k = 8 * bs.length := by omega
      by_cases hk3 : k < 32
      · have hge : ¬ ((frm : Int) + (k : Int) < 8 * (bs.length : Int)) := by omega
        clear hend hc
        cases hany : Crc.anyBit x k
        · have hany' := Lib.hid hany
          clear hany
          go_wp2
          go_ret
          exact ⟨by simp, HB.out⟩
        · obtain ⟨j, hj1, hj2⟩ := Crc.anyBit_some hany
          have hne : (Crc.nU (Crc.more 0#32 (Crc.turns x frm bs k)) != Crc.nU (Crc.more 0#32 bs)) = true := by
            rw [bne_iff_ne]; intro he; exact Crc.more_turns x frm bs k j hk hfk hj1 hj2 0#32 (Crc.nU_inj he)
          clear hj1 hj2
          go_wp2_with fail
          refine Calls.mono (crcSum_one wr _ rfl B1 d1 _ (Crc.turns x frm bs k) HO.out.rd (by rw [Crc.turns_length]; unfold maxLen; omega) (Crc.turns_length _ _ _ _)) ?_
          rintro e w4 ⟨rfl, rfl⟩
          go_wp2_with (at_builtin; refine Mem.wpList_clone _ rfl (.tmp 75) (.tmp 76) _ rfl bytes_elem (wr.heap.size + 1) rfl w w.heap.size A bs.length c (bs.map Mem.byteV) rfl ?_ (by simp) (HB.out.alloc HB.out.size _) (by have := HB.out.size; omega) R.out (by simp) (Mem.bytes_one _) (by unfold maxLen; omega) (by omega); intro B2 d2 w4 hown2 hb3 hs3 hf3)
          refine Calls.mono (crcSum_one w4 _ rfl B2 d2 _ bs hown2.rd (by unfold maxLen; omega) rfl) ?_
          rintro e w5 ⟨rfl, rfl⟩
          go_wp2_with fail
          go_ret
          exact ⟨rfl, hb3.alloc hb3.size _⟩
      · have hge : ¬ ((k : Int) < 32) := by omega
        clear hend hc
        cases hany : Crc.anyBit x k
        · have hany' := Lib.hid hany
          clear hany
          go_wp2
          go_ret
          exact ⟨by simp, HB.out⟩
        · obtain ⟨j, hj1, hj2⟩ := Crc.anyBit_some hany
          have hne : (Crc.nU (Crc.more 0#32 (Crc.turns x frm bs k)) != Crc.nU (Crc.more 0#32 bs)) = true := by
            rw [bne_iff_ne]; intro he; exact Crc.more_turns x frm bs k j hk hfk hj1 hj2 0#32 (Crc.nU_inj he)
          clear hj1 hj2
          go_wp2_with fail
          refine Calls.mono (crcSum_one wr _ rfl B1 d1 _ (Crc.turns x frm bs k) HO.out.rd (by rw [Crc.turns_length]; unfold maxLen; omega) (Crc.turns_length _ _ _ _)) ?_
          rintro e w4 ⟨rfl, rfl⟩
          go_wp2_with (at_builtin; refine Mem.wpList_clone _ rfl (.tmp 75) (.tmp 76) _ rfl bytes_elem (wr.heap.size + 1) rfl w w.heap.size A bs.length c (bs.map Mem.byteV) rfl ?_ (by simp) (HB.out.alloc HB.out.size _) (by have := HB.out.size; omega) R.out (by simp) (Mem.bytes_one _) (by unfold maxLen; omega) (by omega); intro B2 d2 w4 hown2 hb3 hs3 hf3)
          refine Calls.mono (crcSum_one w4 _ rfl B2 d2 _ bs hown2.rd (by unfold maxLen; omega) rfl) ?_
          rintro e w5 ⟨rfl, rfl⟩
          go_wp2_with fail
          go_ret
          exact ⟨rfl, hb3.alloc hb3.size _⟩
theorem big (A : Option Addr) (c : Nat) (bs : List UInt8) (at0 : Int) (x : Crc.W32) (w : World) (h : bs.length = 0 ∨ 100000 < bs.length ∨ (Crc.nU x == 0) = true) :
    Calls Try.prog 5 #[.slice A bs.length c, .int .i64 at0, Crc.U x] w fun e w' => e = .returned (.bool true) ∧ Below w.heap.size w w' := by
  by_cases h1 : bs.length = 0
  · have g1 : ((bs.length : Int) == 0) = true := by rw [beq_iff_eq]; omega
    clear h1 h
    go_enter Try.func5, Try.ntmps5
    go_wp2_with (go_at_call 10; refine (able_any _).mono ?_; rintro e w1 ⟨rfl, hb1⟩)
    go_ret
    exact ⟨rfl, hb1⟩
  · have g1 : ((bs.length : Int) == 0) = false := by rw [beq_eq_false_iff_ne]; omega
    by_cases h2 : 100000 < bs.length
    · have g2 : decide ((100000 : Int) < (bs.length : Int)) = true := by simp; omega
      clear h h1 h2
      go_enter Try.func5, Try.ntmps5
      go_wp2_with (go_at_call 10; refine (able_any _).mono ?_; rintro e w1 ⟨rfl, hb1⟩)
      go_ret
      exact ⟨rfl, hb1⟩
    · have g2 : decide ((100000 : Int) < (bs.length : Int)) = false := by simp; omega
      have g3 : (Crc.nU x == 0) = true := by rcases h with h | h | h; exact absurd h h1; exact absurd h h2; exact h
      clear h h1 h2
      go_enter Try.func5, Try.ntmps5
      go_wp2_with (go_at_call 10; refine (able_any _).mono ?_; rintro e w1 ⟨rfl, hb1⟩)
      go_ret
      exact ⟨rfl, hb1⟩
theorem opened {H : Type} (enc : TypeId × Value → H) (W : World) (base : Nat) (v0 v1 v2 : Value) {d0 d1 d2 : DataW H} {p0 p1 p2 : List MemPlace}
    (o0 : Value.okWide Try.prog W .any base 24 v0) (o1 : Value.okWide Try.prog W .any base 3 v1) (o2 : Value.okWide Try.prog W .any base 25 v2)
    (k0 : DataW.Trod enc Try.prog W 0 (fun _ => true) true 24 v0 d0 p0) (k1 : DataW.Trod enc Try.prog W 0 (fun _ => true) true 3 v1 d1 p1) (k2 : DataW.Trod enc Try.prog W 0 (fun _ => true) true 25 v2 d2 p2) :
    Calls Try.prog 5 #[v0, v1, v2] W fun e w' => e = .returned (.bool true) ∧ Below W.heap.size W w' := by
  obtain ⟨A, c, bs, rfl, _, _, r⟩ := open_bytes o0 k0
  obtain ⟨a1, rfl, rfl, rfl, w1⟩ := open_int Try.underlying3 o1 k1
  obtain ⟨a2, rfl, rfl, rfl, w2⟩ := open_int Try.underlying25 o2 k2
  obtain ⟨x, rfl⟩ := Crc.nU_of a2 w2
  have hb := bounds_i64 w1
  by_cases h : bs.length = 0 ∨ 100000 < bs.length ∨ (Crc.nU x == 0) = true
  · exact big A c bs a1 x W h
  · exact walk A c bs a1 x W (by omega) (by omega) (by cases hx : (Crc.nU x == 0) with | false => rfl | true => exact absurd (.inr (.inr hx)) h) hb.1 hb.2 r
end crcTellsOpen
end Go.Proofs.Ytejojfjbecpofaa
