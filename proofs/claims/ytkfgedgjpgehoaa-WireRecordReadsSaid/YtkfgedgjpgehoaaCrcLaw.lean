/- Plain facts on the reflected CRC-32 over BitVec 32: one step down is linear and can be undone; the product of two words; joining. No program in sight, no conditions. -/
namespace Go.Proofs.Ytkfgedgjpgehoaa
set_option linter.unusedVariables false
set_option linter.unusedSimpArgs false
namespace Crc

abbrev W32 := BitVec 32
def poly : W32 := 0xEDB88320#32
/-- one bit down -/
def down (r : W32) : W32 := if r.getLsbD 0 then (r >>> 1) ^^^ poly else r >>> 1
def downN : Nat → W32 → W32
  | 0, r => r
  | n + 1, r => downN n (down r)

theorem down_xor (a b : W32) : down (a ^^^ b) = down a ^^^ down b := by
  unfold down
  rw [BitVec.getLsbD_xor]
  have h : (a ^^^ b) >>> 1 = (a >>> 1) ^^^ (b >>> 1) := by
    apply BitVec.eq_of_getLsbD_eq; intro i hi; simp
  cases a.getLsbD 0 <;> cases b.getLsbD 0 <;> simp [h, poly] <;> (apply BitVec.eq_of_getLsbD_eq; intro i hi; simp [BitVec.getLsbD_xor]) <;> grind
theorem downN_xor (n : Nat) : ∀ a b : W32, downN n (a ^^^ b) = downN n a ^^^ downN n b := by
  induction n with
  | zero => intro a b; rfl
  | succ n ih => intro a b; simp only [downN, down_xor, ih]
theorem down_zero : down 0#32 = 0#32 := by decide
theorem downN_zero (n : Nat) : downN n 0#32 = 0#32 := by
  induction n with
  | zero => rfl
  | succ n ih => simp only [downN, down_zero, ih]
theorem downN_add (m n : Nat) : ∀ a : W32, downN (m + n) a = downN n (downN m a) := by
  induction m with
  | zero => intro a; simp [downN]
  | succ m ih => intro a; rw [Nat.succ_add]; simp only [downN, ih]
theorem downN_succ' (n : Nat) (a : W32) : downN (n + 1) a = down (downN n a) := by
  rw [downN_add n 1]; rfl
/-- a step down loses nothing -/
theorem down_eq_zero {a : W32} (h : down a = 0#32) : a = 0#32 := by
  unfold down at h
  split at h
  · rename_i hb
    exfalso
    have := congrArg (fun x => x.getLsbD 31) h
    simp [poly] at this
  · rename_i hb
    apply BitVec.eq_of_getLsbD_eq
    intro i hi
    rcases Nat.eq_zero_or_pos i with h0 | h0
    · subst h0; simpa using hb
    · have := congrArg (fun x => x.getLsbD (i - 1)) h
      simpa [show 1 + (i - 1) = i by omega] using this
theorem downN_eq_zero (n : Nat) : ∀ {a : W32}, downN n a = 0#32 → a = 0#32 := by
  induction n with
  | zero => intro a h; exact h
  | succ n ih => intro a h; exact down_eq_zero (ih h)

/-- the product, from bit 31 - k on: 'timesTo a b k n': n rounds more -/
def timesTo (a : W32) : Nat → Nat → W32 → W32
  | _, 0, _ => 0#32
  | k, n + 1, b => (if a.getLsbD (31 - k) then b else 0#32) ^^^ timesTo a (k + 1) n (down b)
def times (a b : W32) : W32 := timesTo a 0 32 b

theorem timesTo_down (a : W32) (n : Nat) : ∀ k b, timesTo a k n (down b) = down (timesTo a k n b) := by
  induction n with
  | zero => intro k b; simp [timesTo, down_zero]
  | succ n ih => intro k b; simp only [timesTo, ih, down_xor]; split <;> simp [down_zero]
theorem times_downN (a : W32) (m : Nat) : ∀ b, times a (downN m b) = downN m (times a b) := by
  induction m with
  | zero => intro b; rfl
  | succ m ih => intro b; simp only [downN, ih]; rw [show times a (down b) = down (times a b) from timesTo_down a 32 0 b]
theorem timesTo_xor (a : W32) (n : Nat) : ∀ k b c, timesTo a k n (b ^^^ c) = timesTo a k n b ^^^ timesTo a k n c := by
  induction n with
  | zero => intro k b c; simp [timesTo]
  | succ n ih =>
    intro k b c
    simp only [timesTo, down_xor, ih]
    split
    · ac_rfl
    · simp
theorem times_xor (a b c : W32) : times a (b ^^^ c) = times a b ^^^ times a c := timesTo_xor a 32 0 b c
/-- the power e -/
def pow (e : Nat) : W32 := downN e 0x80000000#32

/-- the power k below 32 is one bit -/
theorem pow_bit : ∀ k : Fin 32, pow k.val = (1#32 <<< (31 - k.val)) := by decide

theorem xorAll_one (a : W32) : timesTo a 0 32 0x80000000#32 = a := by
  apply BitVec.eq_of_getLsbD_eq
  have key : ∀ n k, k + n = 32 → ∀ i, i < 32 → (timesTo a k n (pow k)).getLsbD i = (a.getLsbD i && decide (i ≤ 31 - k) && decide (k < 32)) := by
    intro n
    induction n with
    | zero => intro k hk i hi; simp [timesTo]; omega
    | succ n ih =>
      intro k hk i hi
      have hp : down (pow k) = pow (k + 1) := by unfold pow; rw [downN_succ']
      simp only [timesTo, hp, BitVec.getLsbD_xor]
      rw [ih (k + 1) (by omega) i hi]
      have hb := pow_bit ⟨k, by omega⟩
      simp only at hb
      rw [hb]
      by_cases h1 : i = 31 - k
      · subst h1
        have e1 : ¬ (31 - k ≤ 31 - (k + 1) ∧ k + 1 < 32) := by omega
        cases hh : a.getLsbD (31 - k)
        · simp
        · simp [show k < 32 by omega, show 31 - k < 32 by omega]
          omega
      · have e2 : ((if a.getLsbD (31 - k) = true then 1#32 <<< (31 - k) else 0#32) : W32).getLsbD i = false := by
          split
          · simp [BitVec.getLsbD_shiftLeft]; omega
          · simp
        rw [e2]
        have : (decide (i ≤ 31 - (k + 1)) && decide (k + 1 < 32)) = (decide (i ≤ 31 - k) && decide (k < 32)) := by
          rw [Bool.eq_iff_iff]; simp; omega
        rw [Bool.and_assoc, this]; simp [Bool.and_assoc]
  intro i hi
  have := key 32 0 rfl i hi
  rw [show pow 0 = 0x80000000#32 from rfl] at this
  rw [this]; simp; intro _; omega
/-- a word times a power is that many steps down -/
theorem times_pow (a : W32) (e : Nat) : times a (pow e) = downN e a := by
  unfold pow; rw [times_downN]; congr 1; exact xorAll_one a

theorem timesTo_zero (n : Nat) (b : W32) : ∀ k, timesTo 0#32 k n b = 0#32 := by
  induction n generalizing b with
  | zero => intro k; rfl
  | succ n ih => intro k; simp [timesTo, ih]
theorem timesTo_left_xor (a c : W32) (n : Nat) : ∀ k b, timesTo (a ^^^ c) k n b = timesTo a k n b ^^^ timesTo c k n b := by
  induction n with
  | zero => intro k b; simp [timesTo]
  | succ n ih =>
    intro k b
    simp only [timesTo, ih, BitVec.getLsbD_xor]
    cases a.getLsbD (31 - k) <;> cases c.getLsbD (31 - k) <;> simp
    · ac_rfl
    · ac_rfl
    · rw [show b ^^^ timesTo a (k + 1) n (down b) ^^^ (b ^^^ timesTo c (k + 1) n (down b)) = (b ^^^ b) ^^^ (timesTo a (k + 1) n (down b) ^^^ timesTo c (k + 1) n (down b)) by ac_rfl]; simp
theorem downN_pow (e f : Nat) : downN e (pow f) = pow (f + e) := by unfold pow; rw [downN_add]
/-- the powers below 32 times anything -/
theorem times_zero (a : W32) : times a 0#32 = 0#32 := by
  have h := times_xor a 0#32 0#32
  rw [BitVec.xor_self, BitVec.xor_self] at h; exact h
theorem pow_times (e : Nat) (b : W32) : times (pow e) b = downN e b := by
  -- b is a sum of powers: by the words with one bit, and linearity in b
  have hb : timesTo b 0 32 (pow 0) = b := xorAll_one b
  have key : ∀ n k, k + n = 32 → times (pow e) (timesTo b k n (pow k)) = downN e (timesTo b k n (pow k)) := by
    intro n
    induction n with
    | zero => intro k _; simp only [timesTo, downN_zero, times_zero]
    | succ n ih =>
      intro k hk
      have hp : down (pow k) = pow (k + 1) := by unfold pow; rw [downN_succ']
      simp only [timesTo, hp, times_xor, downN_xor, ih (k + 1) (by omega)]
      congr 1
      split
      · rw [times_pow, downN_pow, downN_pow, Nat.add_comm]
      · rw [times_zero, downN_zero]
  have h0 := key 32 0 rfl
  rw [hb] at h0; exact h0
theorem times_comm (a b : W32) : times a b = times b a := by
  have key : ∀ n k, k + n = 32 → times a (timesTo b k n (pow k)) = timesTo b k n (downN k a) := by
    intro n
    induction n with
    | zero => intro k _; simp only [timesTo, times_zero]
    | succ n ih =>
      intro k hk
      have hp : down (pow k) = pow (k + 1) := by unfold pow; rw [downN_succ']
      simp only [timesTo, hp, times_xor, ih (k + 1) (by omega), ← downN_succ']
      congr 1
      split
      · rw [times_pow]
      · exact times_zero a
  have h0 := key 32 0 rfl
  rw [show timesTo b 0 32 (pow 0) = b from xorAll_one b] at h0
  exact h0

theorem pow_sq (e : Nat) : times (pow e) (pow e) = pow (e + e) := by rw [times_pow, downN_pow]
/-- a round of Join's loop -/
theorem join_half (e m : Nat) (x : W32) : downN (e * m) x = downN ((e + e) * (m / 2)) (if m % 2 = 1 then downN e x else x) := by
  have h : (e + e) * (m / 2) = e * (2 * (m / 2)) := by rw [← Nat.two_mul, Nat.mul_assoc, Nat.mul_left_comm]
  split
  · rename_i h1
    rw [← downN_add, h]
    have hm : m = 2 * (m / 2) + 1 := by omega
    have h2 : e * m = e * (2 * (m / 2) + 1) := by rw [← hm]
    rw [h2, Nat.mul_add, Nat.mul_one, Nat.add_comm]
  · have hm : 2 * (m / 2) = m := by omega
    rw [h, hm]
def join (a b : W32) (n : Int) : W32 := if n < 1 then a else downN (8 * n.toNat) a ^^^ b

/-- a byte as a word -/
def ext (c : UInt8) : W32 := c.toBitVec.setWidth 32
/-- a byte more -/
def byte (r : W32) (c : UInt8) : W32 := downN 8 (r ^^^ ext c)
def reg (r : W32) (b : List UInt8) : W32 := b.foldl byte r
def more (s : W32) (b : List UInt8) : W32 := ~~~ reg (~~~ s) b
def sum (bs : List (List UInt8)) : W32 := bs.foldl more 0#32

theorem reg_xor (b : List UInt8) : ∀ r s : W32, reg (r ^^^ s) b = downN (8 * b.length) r ^^^ reg s b := by
  induction b with
  | nil => intro r s; rfl
  | cons c b ih =>
    intro r s
    simp only [reg, List.foldl_cons, List.length_cons]
    have h : byte (r ^^^ s) c = downN 8 r ^^^ byte s c := by unfold byte; rw [BitVec.xor_assoc, downN_xor]
    rw [h]
    have := ih (downN 8 r) (byte s c)
    simp only [reg] at this
    rw [this, ← downN_add, Nat.mul_add, Nat.mul_one, Nat.add_comm 8]
theorem not_not (a : W32) : ~~~ ~~~ a = a := by simp
theorem not_eq (a : W32) : ~~~ a = a ^^^ BitVec.allOnes 32 := (BitVec.xor_allOnes).symm
theorem more_nil (s : W32) : more s [] = s := by simp [more, reg]
theorem more_append (s : W32) (a b : List UInt8) : more s (a ++ b) = more (more s a) b := by
  simp [more, reg, List.foldl_append]
theorem foldl_more (bs : List (List UInt8)) : ∀ s, bs.foldl more s = more s bs.flatten := by
  induction bs with
  | nil => intro s; simp [more_nil]
  | cons b bs ih => intro s; simp only [List.foldl_cons, List.flatten_cons, more_append, ih]
theorem sum_flatten (bs : List (List UInt8)) : sum bs = more 0#32 bs.flatten := foldl_more bs _
/-- joined, the checksums of two pieces are that of both -/
theorem join_more (a b : List UInt8) : join (more 0#32 a) (more 0#32 b) b.length = more 0#32 (a ++ b) := by
  rw [more_append]
  unfold join
  split
  · rename_i h
    have : b = [] := List.eq_nil_of_length_eq_zero (by omega)
    subst this; rw [more_nil]
  · simp only [Int.toNat_natCast]
    generalize more 0#32 a = x
    have e : ~~~ x = x ^^^ ~~~ (0#32) := by rw [not_eq, not_eq]; simp
    simp only [more]
    rw [e, reg_xor, not_eq (_ ^^^ _), not_eq (reg _ _), BitVec.xor_assoc]
theorem join_join (a b z : W32) (m n : Int) (hm : 0 < m) (hn : 0 < n) : join (join a b m) z n = join a (join b z n) (m + n) := by
  unfold join
  rw [if_neg (by omega), if_neg (by omega), if_neg (by omega), if_neg (by omega), downN_xor, ← downN_add, BitVec.xor_assoc]
  congr 2; omega
theorem join_zero (a b : W32) (n : Int) (h : n ≤ 0) : join a b n = a := by unfold join; rw [if_pos (by omega)]

/-- of three words of one length, XORed -/
def mix : List UInt8 → List UInt8 → List UInt8 → List UInt8
  | a :: as, b :: bs, c :: cs => (a ^^^ b ^^^ c) :: mix as bs cs
  | _, _, _ => []
theorem ext_xor (a b : UInt8) : ext (a ^^^ b) = ext a ^^^ ext b := by
  unfold ext; rw [UInt8.toBitVec_xor]
  apply BitVec.eq_of_getLsbD_eq; intro i hi; simp [hi]
theorem reg_mix (a : List UInt8) : ∀ b c r s t, a.length = b.length → b.length = c.length →
    reg (r ^^^ s ^^^ t) (mix a b c) = reg r a ^^^ reg s b ^^^ reg t c := by
  induction a with
  | nil =>
    intro b c r s t h1 h2
    have hb : b = [] := List.eq_nil_of_length_eq_zero h1.symm
    subst hb
    have hc : c = [] := List.eq_nil_of_length_eq_zero h2.symm
    subst hc; rfl
  | cons x a ih =>
    intro b c r s t h1 h2
    match b, c, h1, h2 with
    | y :: b, z :: c, h1, h2 =>
      simp only [mix, reg, List.foldl_cons]
      have e : byte (r ^^^ s ^^^ t) (x ^^^ y ^^^ z) = byte r x ^^^ byte s y ^^^ byte t z := by
        unfold byte
        rw [ext_xor, ext_xor, ← downN_xor, ← downN_xor]
        congr 1; ac_rfl
      rw [e]
      exact ih b c _ _ _ (by simpa using h1) (by simpa using h2)
theorem more_mix (a b c : List UInt8) (h1 : a.length = b.length) (h2 : b.length = c.length) :
    more 0#32 (mix a b c) = more 0#32 a ^^^ more 0#32 b ^^^ more 0#32 c := by
  simp only [more]
  have h := reg_mix a b c (~~~ 0#32) (~~~ 0#32) (~~~ 0#32) h1 h2
  rw [show (~~~ 0#32 ^^^ ~~~ 0#32 ^^^ ~~~ 0#32 : W32) = ~~~ 0#32 by decide] at h
  rw [h]
  generalize reg (~~~ 0#32) a = x
  generalize reg (~~~ 0#32) b = y
  generalize reg (~~~ 0#32) c = z
  rw [not_eq, not_eq x, not_eq y, not_eq z]
  rw [show x ^^^ BitVec.allOnes 32 ^^^ (y ^^^ BitVec.allOnes 32) ^^^ (z ^^^ BitVec.allOnes 32) = (x ^^^ y ^^^ z) ^^^ (BitVec.allOnes 32 ^^^ BitVec.allOnes 32) ^^^ BitVec.allOnes 32 by ac_rfl]
  simp

theorem able1 : more 0#32 [0x31, 0x32, 0x33, 0x34, 0x35, 0x36, 0x37, 0x38, 0x39] = 0xCBF43926#32 := by decide +kernel
#print axioms able1
#print axioms times_comm
#print axioms more_mix
end Crc
end Go.Proofs.Ytkfgedgjpgehoaa
