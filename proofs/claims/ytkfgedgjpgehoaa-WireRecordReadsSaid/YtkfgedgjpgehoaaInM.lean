/- What the document's In reads, plain; what its ReadMsg answers is what the program's does. Bytes that are few. -/
import Derived.Test.YtkfgedgjpgehoaaIn3
import Derived.Test.YtkfgedgjpgehoaaWireK3
namespace Go.Proofs.Ytkfgedgjpgehoaa
open Go.ChangeShapes Go.WideShapes Go.ChangeAt Go.RowKit
set_option linter.unusedVariables false
set_option linter.unusedSimpArgs false
namespace Wi
def seqK : Nat → List Mo → Bool
  | _, [] => true
  | k, .n j :: a => (j == k) && seqK (k + 1) a
  | k, .b j :: a => (j == k) && seqK (k + 1) a
  | k, .t j m :: a => (j == k) && decide (0 ≤ m) && seqK (k + 1) a
  | k, .k _ _ _ :: a => seqK k a
theorem u8_self (u : UInt8) : u.toNat.toUInt8 = u := by simp [Nat.toUInt8]
theorem drop_at {bs : List UInt8} {p : Nat} {u : UInt8} (h : bs[p]? = some u) : bs.drop p = u :: bs.drop (p + 1) := by
  obtain ⟨h1, h2⟩ := List.getElem?_eq_some_iff.1 h
  rw [List.drop_eq_getElem_cons h1, h2]
theorem nextI_A {i : Id} (h : (nextI i).1.bad = false) : i.bad = false ∧ ∃ u : UInt8, i.bs[i.pos]? = some u ∧ nextI i = ({ i with pos := i.pos + 1 }, u.toNat) := by
  unfold nextI at h ⊢
  split at h
  · cases h
  · rename_i h9
    rw [not_or] at h9
    obtain ⟨h1, h2⟩ := h9
    have hlt : i.pos < i.bs.length := by omega
    refine ⟨by simpa using h1, i.bs[i.pos], List.getElem?_eq_getElem hlt, ?_⟩
    rw [if_neg (by rw [not_or]; exact ⟨h1, h2⟩), List.getElem?_eq_getElem hlt]; rfl
theorem nextI_B {i : Id} {u : UInt8} (h : i.bad = false) (hu : i.bs[i.pos]? = some u) : nextI i = ({ i with pos := i.pos + 1 }, u.toNat) := by
  obtain ⟨h1, h2⟩ := List.getElem?_eq_some_iff.1 hu
  unfold nextI
  rw [if_neg (by rw [h]; simp; omega), hu]; rfl
theorem numF_A : ∀ (f k n : Nat) (i : Id), (numF f k n i).1.bad = false → i.bad = false ∧ ∃ m : Nat, (numF f k n i).2 = n + m * 2 ^ (7 * k) ∧ (m ≠ 0 ∨ k = 0) ∧ (numF f k n i).1 = { i with pos := i.pos + (vb m).length } ∧ i.bs.drop i.pos = vb m ++ i.bs.drop (i.pos + (vb m).length)
  | 0, k, n, i, h => by cases h
  | f + 1, k, n, i, h => by
    by_cases hc : (nextI i).2 < 128
    · by_cases hb : ((nextI i).2 = 0 ∧ 0 < k) ∨ 4611686018427387904 < n + (nextI i).2 % 128 * 2 ^ (7 * k) ∨ (nextI i).1.bad = true
      · rw [numF, if_pos hc, if_pos hb] at h; cases h
      · have hn : (nextI i).1.bad = false := by
          cases h9 : (nextI i).1.bad
          · rfl
          · exact absurd (.inr (.inr h9)) hb
        obtain ⟨h1, u, hu, hx⟩ := nextI_A hn
        have he : numF (f + 1) k n i = ((nextI i).1, n + (nextI i).2 % 128 * 2 ^ (7 * k)) := by rw [numF, if_pos hc, if_neg hb]
        rw [hx] at he hb hc
        dsimp only at he hb hc
        refine ⟨h1, u.toNat, ?_, ?_, ?_, ?_⟩
        · rw [he, Nat.mod_eq_of_lt hc]
        · by_cases h0 : u.toNat = 0
          · by_cases hk : 0 < k
            · exact absurd (.inl ⟨h0, hk⟩) hb
            · right; omega
          · exact .inl h0
        · rw [he, vb_lo hc]; rfl
        · rw [vb_lo hc, u8_self]; exact drop_at hu
    · have he : numF (f + 1) k n i = numF f (k + 1) (n + (nextI i).2 % 128 * 2 ^ (7 * k)) (nextI i).1 := by rw [numF, if_neg hc]
      rw [he] at h
      obtain ⟨hn, m, h2, h3, h4, h5⟩ := numF_A f (k + 1) _ _ h
      obtain ⟨h1, u, hu, hx⟩ := nextI_A hn
      rw [he]
      rw [h2, h4]
      rw [hx] at hc h5 ⊢
      dsimp only at hc h5 ⊢
      have hm : m ≠ 0 := by rcases h3 with h3 | h3; exact h3; omega
      have hul := u.toNat_lt
      obtain ⟨q, hq⟩ : ∃ q, u.toNat = 128 + q := ⟨u.toNat - 128, by omega⟩
      have hql : q < 128 := by omega
      have hv : vb (q + 128 * m) = u :: vb m := by
        rw [vb_hi (by omega), show (q + 128 * m) / 128 = m by omega, show 128 + (q + 128 * m) % 128 = u.toNat by omega, u8_self]
      refine ⟨h1, q + 128 * m, ?_, .inl (by omega), ?_, ?_⟩
      · rw [show u.toNat % 128 = q by omega, show 7 * (k + 1) = 7 * k + 7 by omega, Nat.pow_add, Nat.add_mul, ← Nat.add_assoc]
        congr 1
        rw [show (2 : Nat) ^ 7 = 128 by rfl, Nat.mul_comm 128 m, Nat.mul_assoc, Nat.mul_comm (2 ^ (7 * k)) 128]
      · rw [hv, List.length_cons, Nat.add_assoc, Nat.add_comm 1]
      · rw [hv, List.length_cons, List.cons_append, drop_at hu, h5, Nat.add_assoc, Nat.add_comm 1]
theorem inNum_A {i : Id} (h : (inNum i).1.bad = false) : i.bad = false ∧ (inNum i).2 ≤ 4611686018427387904 ∧ (inNum i).1 = { i with pos := i.pos + (vb (inNum i).2).length } ∧ i.bs.drop i.pos = vb (inNum i).2 ++ i.bs.drop (i.pos + (vb (inNum i).2).length) := by
  obtain ⟨h1, m, h2, h3, h4, h5⟩ := numF_A 9 0 0 i h
  have he : (inNum i).2 = m := by unfold inNum; rw [h2]; simp
  rw [he]
  exact ⟨h1, he ▸ inNum_le i, h4, h5⟩
theorem numF_B {i : Id} {rest : List UInt8} : ∀ (f k n m p : Nat), i.bad = false → i.bs.drop p = vb m ++ rest → 0 < f → m < 128 ^ f → n + m * 2 ^ (7 * k) ≤ 4611686018427387904 → (m ≠ 0 ∨ k = 0) →
    numF f k n { i with pos := p } = ({ i with pos := p + (vb m).length }, n + m * 2 ^ (7 * k))
  | 0, k, n, m, p, hb, hd, hf, hm, ha, h0 => absurd hf (Nat.lt_irrefl 0)
  | f + 1, k, n, m, p, hb, hd, hf, hm, ha, h0 => by
    by_cases h : m < 128
    · rw [vb_lo h] at hd ⊢
      obtain ⟨h1, _⟩ := at_of_drop hd
      rw [numF_next (nextI_B (i := { i with pos := p }) hb h1), lo_toNat h, if_pos h, Nat.mod_eq_of_lt h, if_neg (by
        rintro (⟨h9, h8⟩ | h9 | h9)
        · rcases h0 with h0 | h0
          · exact h0 h9
          · omega
        · omega
        · dsimp only at h9; rw [hb] at h9; cases h9)]
      rfl
    · have h128 : 128 ≤ m := by omega
      rw [vb_hi h128] at hd ⊢
      obtain ⟨h1, h2⟩ := at_of_drop hd
      have e1 : n + m % 128 * 2 ^ (7 * k) + m / 128 * 2 ^ (7 * (k + 1)) = n + m * 2 ^ (7 * k) := by
        have e2 : 2 ^ (7 * (k + 1)) = 128 * 2 ^ (7 * k) := by rw [show 7 * (k + 1) = 7 * k + 7 by omega, Nat.pow_add]; omega
        rw [e2]
        have e3 : m * 2 ^ (7 * k) = (128 * (m / 128) + m % 128) * 2 ^ (7 * k) := by rw [Nat.div_add_mod]
        rw [e3, Nat.add_mul, ← Nat.mul_assoc, Nat.mul_comm (m / 128) 128]
        omega
      have hr := numF_B (i := i) f (k + 1) (n + m % 128 * 2 ^ (7 * k)) (m / 128) (p + 1) hb h2 (by
        rcases Nat.eq_zero_or_pos f with h9 | h9
        · subst h9; simp at hm; omega
        · exact h9) (by rw [Nat.pow_succ] at hm; exact Nat.div_lt_of_lt_mul (by rw [Nat.mul_comm]; exact hm)) (by rw [e1]; exact ha) (.inl (by omega))
      rw [numF_next (nextI_B (i := { i with pos := p }) hb h1), hi_toNat, if_neg (by omega), show (128 + m % 128) % 128 = m % 128 by omega]
      dsimp only
      rw [hr, e1]
      simp only [List.length_cons]
      rw [Nat.add_assoc, Nat.add_comm 1]
theorem inNum_B {i : Id} {m : Nat} {rest : List UInt8} (hb : i.bad = false) (hd : i.bs.drop i.pos = vb m ++ rest) (hm : m ≤ 4611686018427387904) : inNum i = ({ i with pos := i.pos + (vb m).length }, m) := by
  have h := numF_B (i := i) 9 0 0 m i.pos hb hd (by decide) (Nat.lt_of_le_of_lt hm (by decide)) (by simpa using hm) (.inr rfl)
  unfold inNum
  rw [h]
  simp
theorem inTru_A {i : Id} (h : (inTru i).1.bad = false) : i.bad = false ∧ (inTru i).1 = { i with pos := i.pos + (vb (b2i (inTru i).2).toNat).length } ∧ i.bs.drop i.pos = vb (b2i (inTru i).2).toNat ++ i.bs.drop (i.pos + (vb (b2i (inTru i).2).toNat).length) := by
  by_cases hc : 1 < (nextI i).2
  · unfold inTru at h; rw [if_pos hc] at h; cases h
  · have he : inTru i = ((nextI i).1, (nextI i).2 == 1) := by unfold inTru; rw [if_neg hc]
    rw [he] at h ⊢
    obtain ⟨h1, u, hu, hx⟩ := nextI_A h
    rw [hx] at hc ⊢
    dsimp only at hc ⊢
    have hv : vb (b2i (u.toNat == 1)).toNat = [u] := by
      have h01 : u.toNat = 0 ∨ u.toNat = 1 := by omega
      have hs := u8_self u
      rcases h01 with h01 | h01
      · rw [h01] at hs ⊢; rw [← hs, vb_lo (by decide)]; rfl
      · rw [h01] at hs ⊢; rw [← hs, vb_lo (by decide)]; rfl
    rw [hv]
    exact ⟨h1, rfl, drop_at hu⟩
theorem inTru_B {i : Id} {b : Bool} {rest : List UInt8} (hb : i.bad = false) (hd : i.bs.drop i.pos = vb (b2i b).toNat ++ rest) : inTru i = ({ i with pos := i.pos + (vb (b2i b).toNat).length }, b) := by
  have hv : vb (b2i b).toNat = [(b2i b).toNat.toUInt8] := vb_lo (by cases b <;> decide)
  rw [hv] at hd ⊢
  obtain ⟨h1, _⟩ := at_of_drop hd
  unfold inTru
  rw [nextI_B hb h1, lo_toNat (by cases b <;> decide)]
  cases b <;> rfl
theorem numF_pl : ∀ (f k n : Nat) (i : Id), i.pos ≤ i.bs.length → (numF f k n i).1.pos ≤ (numF f k n i).1.bs.length
  | 0, k, n, i, h => h
  | f + 1, k, n, i, h => by
    rw [numF]
    split
    · split
      · exact nextI_pl h
      · exact nextI_pl h
    · exact numF_pl f _ _ _ (nextI_pl h)
theorem inNum_pl {i : Id} (h : i.pos ≤ i.bs.length) : (inNum i).1.pos ≤ (inNum i).1.bs.length := numF_pl 9 0 0 i h
theorem strB_size (bs : List UInt8) : (strB bs).size = bs.length := by
  have h : (strB bs).data.toList = bs := by unfold strB; simp
  have h2 : (strB bs).data.toList.length = (strB bs).size := by rw [Array.length_toList]; rfl
  rw [← h2, h]
theorem strB_list (bs : List UInt8) : (strB bs).data.toList = bs := by unfold strB; simp
theorem inTxt_A {i : Id} {m : Nat} (hp : i.pos ≤ i.bs.length) (h : (inTxt i m).1.bad = false) : i.bad = false ∧ (inTxt i m).2.size ≤ m ∧ (inTxt i m).2.size ≤ 4611686018427387904 ∧ (inTxt i m).1 = { i with pos := i.pos + (vb (inTxt i m).2.size ++ (inTxt i m).2.data.toList).length } ∧ i.bs.drop i.pos = vb (inTxt i m).2.size ++ (inTxt i m).2.data.toList ++ i.bs.drop (i.pos + (vb (inTxt i m).2.size ++ (inTxt i m).2.data.toList).length) := by
  by_cases hc : (inNum i).1.bad = true ∨ m < (inNum i).2 ∨ (inNum i).1.bs.length - (inNum i).1.pos < (inNum i).2
  · unfold inTxt at h; rw [if_pos hc] at h; cases h
  · have he : inTxt i m = ({ (inNum i).1 with pos := (inNum i).1.pos + (inNum i).2 }, strB (Mem.sub (inNum i).1.bs (inNum i).1.pos (inNum i).2)) := by unfold inTxt; rw [if_neg hc]
    rw [not_or, not_or] at hc
    obtain ⟨c1, c2, c3⟩ := hc
    obtain ⟨h1, h2, h3, h4⟩ := inNum_A (i := i) (by simpa using c1)
    obtain ⟨n, hn⟩ : ∃ n, (inNum i).2 = n := ⟨_, rfl⟩
    rw [h3] at c3
    rw [he, h3]
    rw [hn] at h2 h3 h4 c2 c3 ⊢
    dsimp only at c3 ⊢
    have hle : i.pos + (vb n).length ≤ i.bs.length := by
      have := congrArg List.length h4
      rw [List.length_append, List.length_drop, List.length_drop] at this
      have := vb_pos n
      omega
    have hsl : (Mem.sub i.bs (i.pos + (vb n).length) n).length = n := Mem.sub_len (by omega)
    rw [strB_size, strB_list, hsl, List.length_append, hsl]
    refine ⟨h1, by omega, h2, by rw [Nat.add_assoc], ?_⟩
    rw [h4, List.append_assoc]
    congr 1
    unfold Mem.sub
    rw [← Nat.add_assoc]
    conv => rhs; rhs; rw [← List.drop_drop]
    rw [List.take_append_drop]
theorem inTxt_B {i : Id} {m : Nat} {s : ByteArray} {rest : List UInt8} (hb : i.bad = false) (hd : i.bs.drop i.pos = vb s.size ++ s.data.toList ++ rest) (hm : s.size ≤ m) (hs : s.size ≤ 4611686018427387904) : inTxt i m = ({ i with pos := i.pos + (vb s.size ++ s.data.toList).length }, s) := by
  have hsl : s.data.toList.length = s.size := by rw [Array.length_toList]; rfl
  rw [List.append_assoc] at hd
  have hn := inNum_B hb hd hs
  have hd2 := drop_app hd
  have hln : i.bs.length - (i.pos + (vb s.size).length) = s.size + rest.length := by
    rw [← List.length_drop, hd2, List.length_append, hsl]
  unfold inTxt
  rw [hn]
  dsimp only
  rw [if_neg (by rw [hb]; simp; omega)]
  have e1 : Mem.sub i.bs (i.pos + (vb s.size).length) s.size = s.data.toList := by
    unfold Mem.sub
    rw [hd2, ← hsl, List.take_left]
  rw [e1, strB_self, List.length_append, hsl, Nat.add_assoc]
theorem shift_all {ds xs : List Value} {k : Nat} {v : Value} (h : ∀ (j : Nat) (u : Value), (v :: ds)[j]? = some u → xs[k + j]? = some u) : xs[k]? = some v ∧ ∀ (j : Nat) (u : Value), ds[j]? = some u → xs[k + 1 + j]? = some u := by
  refine ⟨h 0 v rfl, fun j u hu => ?_⟩
  have := h (j + 1) u (by simpa using hu)
  rwa [show k + (j + 1) = k + 1 + j by omega] at this
theorem encL_cons (op : Mo) (ops : List Mo) (xs : List Value) : encL (op :: ops) xs = encM xs op ++ encL ops xs := by simp [encL]
structure RdA (ops : List Mo) (xs : List Value) (i i' : Id) : Prop where
  bad : i.bad = false
  pos : i' = { i with pos := i.pos + (encL ops xs).length }
  drop : i.bs.drop i.pos = encL ops xs ++ i.bs.drop (i.pos + (encL ops xs).length)
  arg : ∀ op ∈ ops, noK op = true → argM xs op = false
  long : ∀ op ∈ ops, longM xs op = false
theorem RdA.cons {op : Mo} {ops : List Mo} {xs : List Value} {i i1 i2 : Id} (h0 : i.bad = false) (h1 : i1 = { i with pos := i.pos + (encM xs op).length }) (h2 : i.bs.drop i.pos = encM xs op ++ i.bs.drop (i.pos + (encM xs op).length)) (ha : noK op = true → argM xs op = false) (hl : longM xs op = false) (h : RdA ops xs i1 i2) : RdA (op :: ops) xs i i2 := by
  subst h1
  refine ⟨h0, ?_, ?_, ?_, ?_⟩
  · rw [h.pos, encL_cons, List.length_append, Nat.add_assoc]
  · have h3 := h.drop
    dsimp only at h3
    rw [h2, encL_cons, List.append_assoc, h3, List.length_append, Nat.add_assoc]
  · intro o ho
    rcases List.mem_cons.1 ho with rfl | ho
    · exact ha
    · exact h.arg o ho
  · intro o ho
    rcases List.mem_cons.1 ho with rfl | ho
    · exact hl
    · exact h.long o ho
theorem rdI_A {xs : List Value} : ∀ (ops : List Mo) (k : Nat) (i : Id), seqK k ops = true → i.pos ≤ i.bs.length → (rdI ops i).1.bad = false → (∀ (j : Nat) (u : Value), (rdI ops i).2[j]? = some u → xs[k + j]? = some u) → RdA ops xs i (rdI ops i).1
  | [], k, i, hs, hp, hb, hx => ⟨hb, by simp [encL, rdI], by simp [encL], (fun _ h => by cases h), (fun _ h => by cases h)⟩
  | .n q :: ops, k, i, hs, hp, hb, hx => by
    rw [seqK, Bool.and_eq_true, beq_iff_eq] at hs
    obtain ⟨rfl, hs⟩ := hs
    rw [rdI] at hb hx ⊢
    dsimp only at hb hx ⊢
    obtain ⟨hx0, hx1⟩ := shift_all hx
    have hle : (inNum i).1.pos ≤ (inNum i).1.bs.length := by
      cases h9 : (inNum i).1.bad
      · obtain ⟨_, _, h3, h4⟩ := inNum_A h9
        rw [h3]
        have := congrArg List.length h4
        rw [List.length_append, List.length_drop, List.length_drop] at this
        have := vb_pos (inNum i).2
        dsimp only
        omega
      · exact inNum_pl hp
    have hA := rdI_A ops _ _ hs hle hb hx1
    obtain ⟨h1, h2, h3, h4⟩ := inNum_A hA.bad
    have hv : ¬ (((inNum i).2 : Int) < 0 ∨ 4611686018427387904 < ((inNum i).2 : Int)) := by omega
    have e1 : encM xs (.n q) = vb (inNum i).2 := by rw [encM_n hx0, if_neg hv]; rfl
    exact hA.cons h1 (by rw [e1]; exact h3) (by rw [e1]; exact h4) (fun _ => by rw [argM_n hx0]; simpa using hv) rfl
  | .b q :: ops, k, i, hs, hp, hb, hx => by
    rw [seqK, Bool.and_eq_true, beq_iff_eq] at hs
    obtain ⟨rfl, hs⟩ := hs
    rw [rdI] at hb hx ⊢
    dsimp only at hb hx ⊢
    obtain ⟨hx0, hx1⟩ := shift_all hx
    have hle : (inTru i).1.pos ≤ (inTru i).1.bs.length := by
      unfold inTru
      split
      · exact nextI_pl hp
      · exact nextI_pl hp
    have hA := rdI_A ops _ _ hs hle hb hx1
    obtain ⟨h1, h3, h4⟩ := inTru_A hA.bad
    have e1 : encM xs (.b q) = vb (b2i (inTru i).2).toNat := encM_b hx0
    exact hA.cons h1 (by rw [e1]; exact h3) (by rw [e1]; exact h4) (fun _ => rfl) rfl
  | .t q m :: ops, k, i, hs, hp, hb, hx => by
    rw [seqK, Bool.and_eq_true, Bool.and_eq_true, beq_iff_eq, decide_eq_true_eq] at hs
    obtain ⟨⟨rfl, hm⟩, hs⟩ := hs
    rw [rdI] at hb hx ⊢
    dsimp only at hb hx ⊢
    obtain ⟨hx0, hx1⟩ := shift_all hx
    have hle : (inTxt i m.toNat).1.pos ≤ (inTxt i m.toNat).1.bs.length := by
      unfold inTxt
      split
      · exact inNum_pl hp
      · rename_i h9
        rw [not_or, not_or] at h9
        have := inNum_pl hp
        dsimp only
        omega
    have hA := rdI_A ops _ _ hs hle hb hx1
    obtain ⟨h1, h2, h2', h3, h4⟩ := inTxt_A hp hA.bad
    have e1 : encM xs (.t q m) = vb (inTxt i m.toNat).2.size ++ (inTxt i m.toNat).2.data.toList := encM_t hx0
    exact hA.cons h1 (by rw [e1]; exact h3) (by rw [e1]; exact h4) (fun _ => rfl) (by rw [longM_t hx0]; simp; omega)
  | .k q lo hi :: ops, k, i, hs, hp, hb, hx => by
    rw [seqK] at hs
    rw [rdI] at hb hx ⊢
    have hA := rdI_A ops k i hs hp hb hx
    exact hA.cons hA.bad (by simp [encM]) (by simp [encM]) (fun h => by cases h) rfl
theorem rdI_B {ks : List Cells.Kd} {xs : List Value} (ho : Cells.Ok ks xs) (hs : Sm xs) : ∀ (ops : List Mo) (k : Nat) (i : Id) (rest : List UInt8), seqK k ops = true → ops.all (wk ks) = true → i.bad = false → i.bs.drop i.pos = encL ops xs ++ rest → ops.any (argM xs) = false → ops.any (longM xs) = false →
    (rdI ops i).1 = { i with pos := i.pos + (encL ops xs).length } ∧ ∀ (j : Nat), j < (ops.filter noK).length → (rdI ops i).2[j]? = xs[k + j]?
  | [], k, i, rest, hq, hw, hb, hd, ha, hl => ⟨by simp [encL, rdI], fun j hj => by simp at hj⟩
  | .n q :: ops, k, i, rest, hq, hw, hb, hd, ha, hl => by
    rw [seqK, Bool.and_eq_true, beq_iff_eq] at hq
    obtain ⟨rfl, hq⟩ := hq
    rw [List.all_cons, Bool.and_eq_true] at hw
    rw [List.any_cons, Bool.or_eq_false_iff] at ha hl
    obtain ⟨_, hx0, v, rfl⟩ := ho.get (k := q) (kd := .i) (by simpa [wk] using hw.1)
    have hv : ¬ (v < 0 ∨ 4611686018427387904 < v) := by have := ha.1; rw [argM_n hx0] at this; simpa using this
    have e1 : encM xs (.n q) = vb v.toNat := by rw [encM_n hx0, if_neg hv]
    rw [encL_cons, e1, List.append_assoc] at hd
    have hn := inNum_B hb hd (by omega)
    obtain ⟨h1, h2⟩ := rdI_B ho hs ops (q + 1) { i with pos := i.pos + (vb v.toNat).length } rest hq hw.2 hb (drop_app hd) ha.2 hl.2
    rw [rdI, hn]
    refine ⟨?_, ?_⟩
    · dsimp only; rw [h1, encL_cons, e1]; simp only [List.length_append, Nat.add_assoc]
    · intro j hj
      cases j with
      | zero => dsimp only; rw [Nat.add_zero, hx0, List.getElem?_cons_zero]; rw [show ((v.toNat : Nat) : Int) = v by omega]
      | succ j =>
        dsimp only
        rw [List.getElem?_cons_succ, h2 j (Nat.lt_of_succ_lt_succ (show j + 1 < (ops.filter noK).length + 1 from hj)), show q + (j + 1) = q + 1 + j by omega]
  | .b q :: ops, k, i, rest, hq, hw, hb, hd, ha, hl => by
    rw [seqK, Bool.and_eq_true, beq_iff_eq] at hq
    obtain ⟨rfl, hq⟩ := hq
    rw [List.all_cons, Bool.and_eq_true] at hw
    rw [List.any_cons, Bool.or_eq_false_iff] at ha hl
    obtain ⟨_, hx0, v, rfl⟩ := ho.get (k := q) (kd := .b) (by simpa [wk] using hw.1)
    have e1 : encM xs (.b q) = vb (b2i v).toNat := encM_b hx0
    rw [encL_cons, e1, List.append_assoc] at hd
    have hn := inTru_B hb hd
    obtain ⟨h1, h2⟩ := rdI_B ho hs ops (q + 1) { i with pos := i.pos + (vb (b2i v).toNat).length } rest hq hw.2 hb (drop_app hd) ha.2 hl.2
    rw [rdI, hn]
    refine ⟨?_, ?_⟩
    · dsimp only; rw [h1, encL_cons, e1]; simp only [List.length_append, Nat.add_assoc]
    · intro j hj
      cases j with
      | zero => dsimp only; rw [Nat.add_zero, hx0, List.getElem?_cons_zero]
      | succ j =>
        dsimp only
        rw [List.getElem?_cons_succ, h2 j (Nat.lt_of_succ_lt_succ (show j + 1 < (ops.filter noK).length + 1 from hj)), show q + (j + 1) = q + 1 + j by omega]
  | .t q m :: ops, k, i, rest, hq, hw, hb, hd, ha, hl => by
    rw [seqK, Bool.and_eq_true, Bool.and_eq_true, beq_iff_eq, decide_eq_true_eq] at hq
    obtain ⟨⟨rfl, hm⟩, hq⟩ := hq
    rw [List.all_cons, Bool.and_eq_true] at hw
    rw [List.any_cons, Bool.or_eq_false_iff] at ha hl
    obtain ⟨_, hx0, s, rfl⟩ := ho.get (k := q) (kd := .s) (by simpa [wk] using hw.1)
    have hsz := hs q s hx0
    have hl1 : s.size ≤ m.toNat := by have := hl.1; rw [longM_t hx0] at this; simp at this; omega
    have e1 : encM xs (.t q m) = vb s.size ++ s.data.toList := encM_t hx0
    rw [encL_cons, e1, List.append_assoc] at hd
    have hn := inTxt_B hb hd hl1 (by omega)
    obtain ⟨h1, h2⟩ := rdI_B ho hs ops (q + 1) { i with pos := i.pos + (vb s.size ++ s.data.toList).length } rest hq hw.2 hb (drop_app hd) ha.2 hl.2
    rw [rdI, hn]
    refine ⟨?_, ?_⟩
    · dsimp only; rw [h1, encL_cons, e1]; simp only [List.length_append, Nat.add_assoc]
    · intro j hj
      cases j with
      | zero => dsimp only; rw [Nat.add_zero, hx0, List.getElem?_cons_zero]
      | succ j =>
        dsimp only
        rw [List.getElem?_cons_succ, h2 j (Nat.lt_of_succ_lt_succ (show j + 1 < (ops.filter noK).length + 1 from hj)), show q + (j + 1) = q + 1 + j by omega]
  | .k q lo hi :: ops, k, i, rest, hq, hw, hb, hd, ha, hl => by
    rw [seqK] at hq
    rw [List.all_cons, Bool.and_eq_true] at hw
    rw [List.any_cons, Bool.or_eq_false_iff] at ha hl
    have e1 : encM xs (.k q lo hi) = [] := rfl
    rw [encL_cons, e1, List.nil_append] at hd
    obtain ⟨h1, h2⟩ := rdI_B ho hs ops k i rest hq hw.2 hb hd ha.2 hl.2
    rw [rdI, encL_cons, e1, List.nil_append]
    exact ⟨h1, fun j hj => h2 j (by simpa [noK] using hj)⟩
end Wi
end Go.Proofs.Ytkfgedgjpgehoaa

namespace Go.Proofs.Ytkfgedgjpgehoaa
open Go.ChangeShapes Go.WideShapes Go.ChangeAt Go.RowKit
set_option linter.unusedVariables false
set_option linter.unusedSimpArgs false
set_option maxRecDepth 100000
namespace Wi
def inI (bs : List UInt8) : Id := ⟨bs, 0, false⟩
def kindV (xs : List Value) : Int := match (xs[0]? : Option Value) with
  | some (Value.int IntKind.i64 k) => k
  | _ => 0
def sick (r : Id × List Value) (n : Nat) : Bool := r.1.bad || decide (r.1.pos ≠ n)
def refM (bs : List UInt8) : List Value × Int :=
  if bodyC bs = 40 then (zeroM, 40) else if bodyC bs ≠ 0 ∨ bs.length ≠ hdN bs + 6 then (zeroM, 41)
  else if sick (rdI msgM (inI (Mem.sub bs 2 (hdN bs)))) (hdN bs) = true ∨ kindV (rdI msgM (inI (Mem.sub bs 2 (hdN bs)))).2 < 1 ∨ 14 < kindV (rdI msgM (inI (Mem.sub bs 2 (hdN bs)))).2 then (zeroM, 41)
  else ((rdI msgM (inI (Mem.sub bs 2 (hdN bs)))).2, 0)
theorem sub_of_good {bs : List UInt8} (h : bodyC bs = 0) : Mem.sub bs 0 (hdN bs + 6) = frameB (Mem.sub bs 2 (hdN bs)) := by
  have hl := bodyC_good h
  have hc : Mem.sub bs (hdN bs + 2) 4 = b4 (Crc.more 0#32 (Mem.sub bs 2 (hdN bs))) := by
    unfold bodyC at h
    split at h
    · cases h
    · split at h
      · assumption
      · cases h
  match bs, hl with
  | b0 :: b1 :: r, hl =>
    obtain ⟨n, hn⟩ : ∃ n, hdN (b0 :: b1 :: r) = n := ⟨_, rfl⟩
    have hn2 : b0.toNat * 256 + b1.toNat = n := hn
    rw [hn] at hl hc ⊢
    have h0 := b0.toNat_lt
    have h1 := b1.toNat_lt
    simp only [List.length_cons] at hl
    have hB : Mem.sub (b0 :: b1 :: r) 2 n = r.take n := rfl
    have hbl : (r.take n).length = n := by rw [List.length_take]; omega
    have hc2 : Mem.sub (b0 :: b1 :: r) (n + 2) 4 = (r.drop n).take 4 := rfl
    rw [hB] at hc ⊢
    rw [hc2] at hc
    rw [frame_eq, hbl, ← hc]
    have e0 : (n / 256).toUInt8 = b0 := by rw [show n / 256 = b0.toNat by omega, u8_self]
    have e1 : n.toUInt8 = b1 := by
      apply UInt8.toNat_inj.1
      simp [Nat.toUInt8]
      omega
    rw [e0, e1, ← List.take_add]
    rfl
theorem frame_of {bs : List UInt8} (h : bodyC bs = 0) (hl : bs.length = hdN bs + 6) : bs = frameB (Mem.sub bs 2 (hdN bs)) := by
  rw [← sub_of_good h]
  unfold Mem.sub
  rw [List.drop_zero, List.take_of_length_le (by omega)]
def kdM : Mo → Cells.Kd
  | .b _ => .b
  | .t _ _ => .s
  | _ => .i
theorem rdI_ok : ∀ (ops : List Mo) (i : Id), Cells.Ok ((ops.filter noK).map kdM) (rdI ops i).2
  | [], i => trivial
  | .n _ :: a, i => ⟨⟨_, rfl⟩, rdI_ok a _⟩
  | .b _ :: a, i => ⟨⟨_, rfl⟩, rdI_ok a _⟩
  | .t _ _ :: a, i => ⟨⟨_, rfl⟩, rdI_ok a _⟩
  | .k _ _ _ :: a, i => rdI_ok a i
theorem inTru_bs (i : Id) : (inTru i).1.bs = i.bs := by
  unfold inTru; split
  · exact nextI_bs i
  · exact nextI_bs i
theorem inTxt_bs (i : Id) (m : Nat) : (inTxt i m).1.bs = i.bs := by
  unfold inTxt; split
  · exact inNum_bs i
  · exact inNum_bs i
theorem inTxt_le (i : Id) (m : Nat) : (inTxt i m).2.size ≤ i.bs.length := by
  unfold inTxt; split
  · exact Nat.zero_le _
  · exact Nat.le_trans (strB_le _ _ _) (by rw [inNum_bs]; exact Nat.le_refl _)
theorem rdI_sh {M : Nat} : ∀ (ops : List Mo) (i : Id), i.bs.length ≤ M → ∀ v ∈ (rdI ops i).2, ∀ s, v = .string s → s.size ≤ M
  | [], i, hi, v, hv, s, hs => by cases hv
  | .n _ :: a, i, hi, v, hv, s, hs => by
    rcases List.mem_cons.1 hv with rfl | hv
    · cases hs
    · exact rdI_sh a _ (by rw [inNum_bs]; exact hi) v hv s hs
  | .b _ :: a, i, hi, v, hv, s, hs => by
    rcases List.mem_cons.1 hv with rfl | hv
    · cases hs
    · exact rdI_sh a _ (by rw [inTru_bs]; exact hi) v hv s hs
  | .t _ m :: a, i, hi, v, hv, s, hs => by
    rcases List.mem_cons.1 hv with rfl | hv
    · cases hs; exact Nat.le_trans (inTxt_le _ _) hi
    · exact rdI_sh a _ (by rw [inTxt_bs]; exact hi) v hv s hs
  | .k _ _ _ :: a, i, hi, v, hv, s, hs => rdI_sh a i hi v hv s hs
theorem kinds_msg : (msgM.filter noK).map kdM = msgK := by decide +kernel
theorem only_k : msgM.filter (fun o => !noK o) = [.k 0 1 14] := rfl
theorem sick_no {r : Id × List Value} {n : Nat} (h : ¬ sick r n = true) : r.1.bad = false ∧ r.1.pos = n := by
  unfold sick at h
  simp at h
  exact h
theorem refM_good {B : List UInt8} {n : Nat} (hn : B.length = n) (hl : n ≤ 100000) (hs : ¬ sick (rdI msgM (inI B)) n = true) (h1 : ¬ kindV (rdI msgM (inI B)).2 < 1) (h2 : ¬ 14 < kindV (rdI msgM (inI B)).2) :
    Fed msgK (rdI msgM (inI B)).2 ∧ GoodM (rdI msgM (inI B)).2 ∧ enB (rdI msgM (inI B)).2 = B := by
  obtain ⟨hb, hp⟩ := sick_no hs
  have hA := rdI_A (xs := (rdI msgM (inI B)).2) msgM 0 (inI B) (by decide +kernel) (Nat.zero_le _) hb (fun j u hu => by rw [Nat.zero_add]; exact hu)
  have hok := rdI_ok msgM (inI B)
  rw [kinds_msg] at hok
  have hsh := rdI_sh (M := 100000) msgM (inI B) (by show B.length ≤ _; omega)
  obtain ⟨r, hr⟩ : ∃ r, rdI msgM (inI B) = r := ⟨_, rfl⟩
  rw [hr] at hb hp hA hok hsh h1 h2 ⊢
  have hf : Fed msgK r.2 := ⟨hok, fun k s hk => hsh _ (List.mem_of_getElem? hk) s rfl⟩
  have he : enB r.2 = B := by
    have h3 := hA.drop
    have h4 := hA.pos
    rw [h4] at hp
    have h5 : (encL msgM r.2).length = n := by simpa [inI] using hp
    rw [h5] at h3
    have h6 : (inI B).bs.drop (inI B).pos = B := rfl
    have h7 : (inI B).bs.drop ((inI B).pos + n) = [] := by show B.drop (0 + n) = []; rw [List.drop_eq_nil_of_le (by omega)]
    rw [h6, h7, List.append_nil] at h3
    exact h3.symm
  have ha : arB r.2 = false := by
    unfold arB
    rw [List.any_eq_false]
    intro op hop
    cases hk : noK op
    · have h3 : op ∈ msgM.filter (fun o => !noK o) := List.mem_filter.2 ⟨hop, by rw [hk]; rfl⟩
      rw [only_k, List.mem_singleton] at h3
      subst h3
      obtain ⟨_, hx, k, rfl⟩ := hok.get (k := 0) (kd := .i) rfl
      have hkv : kindV r.2 = k := by unfold kindV; rw [hx]
      rw [hkv] at h1 h2
      rw [argM_k hx]
      simp; omega
    · rw [hA.arg op hop hk]; decide
  have hlo : loB r.2 = false := by
    unfold loB
    rw [List.any_eq_false]
    intro op hop
    rw [hA.long op hop]; decide
  refine ⟨hf, good_of hf ?_, he⟩
  rw [msgC_eq hf]
  unfold framedC
  dsimp only
  rw [ha, hlo, if_neg (by decide), if_neg (by decide)]
/-- a message that can be written is read by the document's too -/
theorem refM_back {xs : List Value} (hf : Fed msgK xs) (hg : GoodM xs) : rdI msgM (inI (enB xs)) = ({ inI (enB xs) with pos := (enB xs).length }, xs) ∧ 1 ≤ kindV xs ∧ kindV xs ≤ 14 := by
  obtain ⟨h1, h2⟩ := rdI_B hf.ok hf.str msgM 0 (inI (enB xs)) [] (by decide +kernel) (by decide +kernel) rfl (by rw [List.append_nil]; rfl) hg.arg hg.long
  have hlen := rdI_len msgM (inI (enB xs))
  have h74 : (msgM.filter noK).length = 74 := by decide +kernel
  have hx := hf.ok.len
  have h74' : msgK.length = 74 := rfl
  refine ⟨?_, ?_⟩
  · apply Prod.ext
    · rw [h1]; simp [inI, enB]
    · apply List.ext_getElem?
      intro j
      by_cases hj : j < 74
      · rw [h2 j (by omega), Nat.zero_add]
      · rw [List.getElem?_eq_none (by omega), List.getElem?_eq_none (by show xs.length ≤ j; omega)]
  · obtain ⟨_, hx, k, rfl⟩ := hf.ok.get (k := 0) (kd := .i) rfl
    have hkv : kindV xs = k := by unfold kindV; rw [hx]
    have ha := hg.arg
    unfold arB at ha
    rw [List.any_eq_false] at ha
    have h3 := ha (.k 0 1 14) (by unfold msgM; simp)
    rw [argM_k hx] at h3
    simp at h3
    omega
theorem refM_eq {bs : List UInt8} (hb : bs.length ≤ 100000) : refM bs = readM bs := by
  by_cases h40 : bodyC bs = 40
  · rw [readM_cut h40]; unfold refM; rw [if_pos h40]
  by_cases hodd : bodyC bs ≠ 0 ∨ bs.length ≠ hdN bs + 6
  · unfold refM readM; rw [if_neg h40, if_pos hodd, if_neg h40, if_pos hodd]
  have hc : bodyC bs = 0 := by
    by_cases h : bodyC bs = 0
    · exact h
    · exact absurd (.inl h) hodd
  have hl : bs.length = hdN bs + 6 := by
    by_cases h : bs.length = hdN bs + 6
    · exact h
    · exact absurd (.inr h) hodd
  have hfr := frame_of hc hl
  have hn : (Mem.sub bs 2 (hdN bs)).length = hdN bs := Mem.sub_len (by omega)
  have h65 := hdN_lt bs
  have h9 : readM bs = (zeroM, 41) ∨ (readM bs).2 = 0 := by
    unfold readM
    rw [if_neg h40, if_neg hodd]
    split
    · exact .inl rfl
    · split
      · exact .inr rfl
      · exact .inl rfl
  unfold refM
  rw [if_neg h40, if_neg hodd]
  by_cases hs : sick (rdI msgM (inI (Mem.sub bs 2 (hdN bs)))) (hdN bs) = true ∨ kindV (rdI msgM (inI (Mem.sub bs 2 (hdN bs)))).2 < 1 ∨ 14 < kindV (rdI msgM (inI (Mem.sub bs 2 (hdN bs)))).2
  · rw [if_pos hs]
    rcases h9 with h9 | h9
    · exact h9.symm
    · exfalso
      obtain ⟨g1, g2⟩ := readM_good h9
      have hf := readM_fed bs
      have hg := good_of hf g1
      rw [hg.fr] at g2
      have he : enB (readM bs).1 = Mem.sub bs 2 (hdN bs) := frame_inj (by have := hg.len; omega) (by omega) (g2.trans hfr)
      obtain ⟨k1, k2, k3⟩ := refM_back hf hg
      rw [he] at k1
      rw [k1] at hs
      rcases hs with hs | hs | hs
      · unfold sick at hs
        rw [hn] at hs
        simp [inI] at hs
      · dsimp only at hs; omega
      · dsimp only at hs; omega
  · rw [if_neg hs]
    rw [not_or, not_or] at hs
    obtain ⟨g1, g2, g3⟩ := refM_good hn (by omega) hs.1 hs.2.1 hs.2.2
    have h8 := readM_enc g1 g2
    rw [g3, ← hfr] at h8
    exact h8.symm
end Wi
end Go.Proofs.Ytkfgedgjpgehoaa
