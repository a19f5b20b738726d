/- A number's bytes are read back. Plain lists. No conditions. -/
import Derived.Test.YtkfgedgjpgehoaaWire2
namespace Go.Proofs.Ytkfgedgjpgehoaa
open Go.ChangeShapes Go.WideShapes Go.ChangeAt Go.RowKit
set_option linter.unusedVariables false
set_option linter.unusedSimpArgs false
namespace Wi
theorem at_of_drop {bs l : List UInt8} {x : UInt8} {p : Nat} (h : bs.drop p = x :: l) : bs[p]? = some x ∧ bs.drop (p + 1) = l := by
  have h1 : (bs.drop p)[0]? = some x := by rw [h]; rfl
  rw [List.getElem?_drop, Nat.add_zero] at h1
  refine ⟨h1, ?_⟩
  rw [← List.drop_drop, h]
  rfl
theorem hi_toNat (m : Nat) : (128 + m % 128).toUInt8.toNat = 128 + m % 128 := by
  have h := b_hi m
  omega
theorem lo_toNat {m : Nat} (h : m < 128) : m.toUInt8.toNat = m := by
  have h2 := b_lo h
  omega
theorem takeF_vb {bs rest : List UInt8} : ∀ (f i acc p m : Nat), bs.drop p = vb m ++ rest → 0 < f → m < 128 ^ f → acc + m * 2 ^ (7 * i) ≤ 4611686018427387904 → (m ≠ 0 ∨ i = 0) →
    takeF bs f i acc p = (some (acc + m * 2 ^ (7 * i)), p + (vb m).length)
  | 0, i, acc, p, m, hd, hf, hm, ha, h0 => absurd hf (Nat.lt_irrefl 0)
  | f + 1, i, acc, p, m, hd, hf, hm, ha, h0 => by
    by_cases h : m < 128
    · rw [vb_lo h] at hd ⊢
      obtain ⟨h1, _⟩ := at_of_drop hd
      rw [takeF_step h1, lo_toNat h, Nat.mod_eq_of_lt h, if_neg (by omega), if_neg (by
        intro h9
        rcases h9 with h9 | ⟨h9, h8⟩
        · omega
        · rcases h0 with h0 | h0
          · exact h0 h9
          · omega)]
      rfl
    · have h128 : 128 ≤ m := by omega
      rw [vb_hi h128] at hd ⊢
      obtain ⟨h1, h2⟩ := at_of_drop hd
      have e1 : acc + m % 128 * 2 ^ (7 * i) + m / 128 * 2 ^ (7 * (i + 1)) = acc + m * 2 ^ (7 * i) := by
        have e2 : 2 ^ (7 * (i + 1)) = 128 * 2 ^ (7 * i) := by rw [show 7 * (i + 1) = 7 * i + 7 by omega, Nat.pow_add]; omega
        rw [e2]
        have e3 : m * 2 ^ (7 * i) = (128 * (m / 128) + m % 128) * 2 ^ (7 * i) := by rw [Nat.div_add_mod]
        rw [e3, Nat.add_mul, ← Nat.mul_assoc, Nat.mul_comm (m / 128) 128]
        omega
      have hr := takeF_vb f (i + 1) (acc + m % 128 * 2 ^ (7 * i)) (p + 1) (m / 128) h2 (by
        rcases Nat.eq_zero_or_pos f with h9 | h9
        · subst h9; simp at hm; omega
        · exact h9) (by rw [Nat.pow_succ] at hm; exact Nat.div_lt_of_lt_mul (by rw [Nat.mul_comm]; exact hm)) (by rw [e1]; exact ha) (.inl (by omega))
      rw [takeF_step h1, hi_toNat, if_pos (by omega), show (128 + m % 128) % 128 = m % 128 by omega, hr, e1]
      simp only [List.length_cons]
      rw [Nat.add_assoc, Nat.add_comm 1]
/-- a number that was written is read -/
theorem takeC_vb {c : Cd} {n : Nat} {rest : List UInt8} (hn : n ≤ 4611686018427387904) (hd : c.bs.drop c.pos = vb n ++ rest) : takeC c = ({ c with pos := c.pos + (vb n).length }, n) := by
  have h := takeF_vb (bs := c.bs) 9 0 0 c.pos n hd (by decide) (Nat.lt_of_le_of_lt hn (by decide)) (by simpa using hn) (.inr rfl)
  unfold takeC
  rw [h]
  simp
end Wi
end Go.Proofs.Ytkfgedgjpgehoaa
