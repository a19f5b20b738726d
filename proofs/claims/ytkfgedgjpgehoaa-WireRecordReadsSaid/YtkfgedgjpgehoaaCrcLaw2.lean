/- Plain facts on the reflected CRC-32: bits that are turned within 32 in a row turn the checksum. No program in sight. -/
import Derived.Test.YtkfgedgjpgehoaaCrcLaw
namespace Go.Proofs.Ytkfgedgjpgehoaa
set_option linter.unusedVariables false
set_option linter.unusedSimpArgs false
namespace Crc

/-- bit i of a row of bytes turned -/
def turn (c : List UInt8) (i : Nat) : List UInt8 := c.set (i / 8) (c.getD (i / 8) 0 ^^^ UInt8.ofNat (2 ^ (i % 8)))
/-- of the first m bits of x, those that are set, turned from bit 'from' on -/
def turns (x : W32) (frm : Nat) (b : List UInt8) : Nat → List UInt8
  | 0 => b
  | m + 1 => if x.getLsbD m then turn (turns x frm b m) (frm + m) else turns x frm b m
/-- the first m bits of x -/
def lows (x : W32) : Nat → W32
  | 0 => 0#32
  | m + 1 => if x.getLsbD m then lows x m ^^^ (1#32 <<< m) else lows x m

theorem turn_length (c : List UInt8) (i : Nat) : (turn c i).length = c.length := by simp [turn]
theorem turns_length (x : W32) (frm : Nat) (b : List UInt8) (m : Nat) : (turns x frm b m).length = b.length := by
  induction m with
  | zero => rfl
  | succ m ih => simp only [turns]; split <;> simp [turn_length, ih]
theorem lows_get (x : W32) (m : Nat) (hm : m ≤ 32) (k : Nat) : (lows x m).getLsbD k = (x.getLsbD k && decide (k < m)) := by
  induction m with
  | zero => simp [lows]
  | succ m ih =>
    simp only [lows]
    have ih := ih (by omega)
    by_cases hk : k = m
    · subst hk
      cases hx : x.getLsbD k
      · simp [ih, hx]
      · have h1 : (1#32 <<< k).getLsbD k = true := by
          rw [BitVec.getLsbD_shiftLeft]; simp [show k < 32 by omega]
        simp only [if_true, BitVec.getLsbD_xor, ih, hx, h1]
        simp
    · have h2 : decide (k < m + 1) = decide (k < m) := by rw [Bool.eq_iff_iff]; simp; omega
      rw [h2]
      cases hx : x.getLsbD m
      · simp [ih]
      · have : (1#32 <<< m).getLsbD k = false := by simp; omega
        simp only [if_true, BitVec.getLsbD_xor, this, ih, Bool.xor_false]
theorem lows_ne (x : W32) (m k : Nat) (hm : m ≤ 32) (hk : k < m) (hx : x.getLsbD k = true) : lows x m ≠ 0#32 := by
  intro h
  have := lows_get x m hm k
  rw [h, hx] at this
  simp [hk] at this
theorem downN_bit : ∀ k : Fin 32, downN k.val (1#32 <<< k.val) = 1#32 := by decide +kernel
theorem reg_append (r : W32) (a b : List UInt8) : reg r (a ++ b) = reg (reg r a) b := by simp [reg, List.foldl_append]
theorem reg_flip (r : W32) (l1 l2 : List UInt8) (y d : UInt8) : reg r (l1 ++ (y ^^^ d) :: l2) = reg r (l1 ++ y :: l2) ^^^ downN (8 * (l2.length + 1)) (ext d) := by
  rw [reg_append, reg_append]
  generalize reg r l1 = s
  show reg (byte s (y ^^^ d)) l2 = reg (byte s y) l2 ^^^ _
  have h : byte s (y ^^^ d) = downN 8 (ext d) ^^^ byte s y := by
    unfold byte
    rw [ext_xor, ← BitVec.xor_assoc, downN_xor, BitVec.xor_comm]
  rw [h, reg_xor, ← downN_add, BitVec.xor_comm]
  congr 2; omega
theorem ext_pow : ∀ p : Fin 8, ext (UInt8.ofNat (2 ^ p.val)) = 1#32 <<< p.val := by decide +kernel
theorem reg_turn (r : W32) (c : List UInt8) (i : Nat) (h : i < 8 * c.length) : reg r (turn c i) = reg r c ^^^ downN (8 * c.length - i) 1#32 := by
  have hj : i / 8 < c.length := by omega
  have hc : c = c.take (i / 8) ++ c[i / 8] :: c.drop (i / 8 + 1) := by rw [← List.drop_eq_getElem_cons hj, List.take_append_drop]
  have ht : turn c i = c.take (i / 8) ++ (c[i / 8] ^^^ UInt8.ofNat (2 ^ (i % 8))) :: c.drop (i / 8 + 1) := by
    unfold turn
    rw [List.getD_eq_getElem?_getD, List.getElem?_eq_getElem hj, Option.getD_some]
    exact List.set_eq_take_append_cons_drop.trans (by rw [if_pos hj])
  rw [ht, reg_flip, ← hc]
  congr 1
  have hp := ext_pow ⟨i % 8, by omega⟩
  have hb := downN_bit ⟨i % 8, by omega⟩
  simp only at hp hb
  rw [hp, List.length_drop]
  have e : 8 * (c.length - (i / 8 + 1) + 1) = i % 8 + (8 * c.length - i) := by omega
  rw [e, downN_add, hb]
theorem reg_turns (r : W32) (x : W32) (frm : Nat) (b : List UInt8) (m : Nat) (hm : m ≤ 32) (hf : frm + m ≤ 8 * b.length) :
    reg r (turns x frm b m) = reg r b ^^^ downN (8 * b.length - frm) (lows x m) := by
  induction m with
  | zero => simp [turns, lows, downN_zero]
  | succ m ih =>
    have ih := ih (by omega) (by omega)
    simp only [turns, lows]
    split
    · rw [reg_turn _ _ _ (by rw [turns_length]; omega), ih, turns_length, downN_xor, BitVec.xor_assoc]
      congr 2
      have hb := downN_bit ⟨m, by omega⟩
      simp only at hb
      rw [show 8 * b.length - frm = m + (8 * b.length - (frm + m)) by omega, downN_add, hb]
    · exact ih
/-- turned bits, all within 32 in a row, tell -/
theorem more_turns (x : W32) (frm : Nat) (b : List UInt8) (m k : Nat) (hm : m ≤ 32) (hf : frm + m ≤ 8 * b.length) (hk : k < m) (hx : x.getLsbD k = true) (s : W32) :
    more s (turns x frm b m) ≠ more s b := by
  intro h
  unfold more at h
  have h := congrArg (fun y => ~~~ y) h
  simp only [BitVec.not_not] at h
  rw [reg_turns _ _ _ _ _ hm hf] at h
  have h2 : downN (8 * b.length - frm) (lows x m) = 0#32 := by
    have := congrArg (fun y => reg (~~~ s) b ^^^ y) h
    simp only [← BitVec.xor_assoc, BitVec.xor_self, BitVec.zero_xor] at this
    exact this
  exact lows_ne x m k hm hk hx (downN_eq_zero _ h2)
#print axioms more_turns
end Crc
end Go.Proofs.Ytkfgedgjpgehoaa
