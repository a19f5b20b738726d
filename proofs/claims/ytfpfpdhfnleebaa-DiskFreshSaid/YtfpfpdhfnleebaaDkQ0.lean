/- The disk and the document's disk, plain: how the loose pieces and the times stand to one another. No conditions. -/
import Derived.Test.YtfpfpdhfnleebaaDisk8
import Derived.Test.YtfpfpdhfnleebaaDf6
set_option maxRecDepth 8000
namespace Go.Proofs.Ytfpfpdhfnleebaa
set_option linter.unusedVariables false
set_option linter.unusedSimpArgs false
namespace Dq
/-- the loose pieces, byte by byte -/
def ex (lo : List (Int × Nat)) : List Int := lo.flatMap fun p => List.replicate p.2 p.1
/-- the times of a file -/
def tm (n : Int) (P : List (Nat × Int)) : List Nat := (P.filter fun p => p.2 == n).map (·.1)
theorem ex_nil : ex [] = [] := rfl
theorem ex_cons (p : Int × Nat) (lo : List (Int × Nat)) : ex (p :: lo) = List.replicate p.2 p.1 ++ ex lo := rfl
theorem ex_app (a b : List (Int × Nat)) : ex (a ++ b) = ex a ++ ex b := by unfold ex; rw [List.flatMap_append]
theorem ex_rev : ∀ lo : List (Int × Nat), ex lo.reverse = (ex lo).reverse
  | [] => rfl
  | p :: lo => by
    rw [List.reverse_cons, ex_app, ex_rev lo, ex_cons p lo, List.reverse_append, List.reverse_replicate]
    show _ ++ (List.replicate p.2 p.1 ++ []) = _
    rw [List.append_nil]
theorem ex_len : ∀ lo : List (Int × Nat), (ex lo).length = Dk.looseR lo
  | [] => rfl
  | p :: lo => by
    rw [ex_cons, List.length_append, List.length_replicate, ex_len lo]; rfl
theorem ex_count (n : Int) : ∀ lo : List (Int × Nat), (ex lo).count n = Dk.looseOf n lo
  | [] => rfl
  | p :: lo => by
    rw [ex_cons, List.count_append, ex_count n lo, Dk.looseOf_cons, List.count_replicate]
    by_cases h : p.1 = n
    · rw [if_pos h, if_pos (by simpa using h)]
    · rw [if_neg h, if_neg (by simpa using h)]
theorem ex_forget (n : Int) : ∀ lo : List (Int × Nat), ex (Dk.forgetL n lo) = (ex lo).filter fun x => !(x == n)
  | [] => rfl
  | p :: lo => by
    have ih := ex_forget n lo
    unfold Dk.forgetL Pc.keptL at ih ⊢
    rw [List.filter_cons, ex_cons, List.filter_append, List.filter_replicate]
    by_cases hp : p.1 = n
    · rw [if_neg (by simp [hp]), if_neg (by simp [hp]), ih]; rfl
    · rw [if_pos (by simpa using hp), if_pos (by simpa using hp), ex_cons, ih]
/-- the last of a number are taken out (of a list that is turned round) -/
def rcut (n : Int) : Nat → List (Nat × Int) → List (Nat × Int)
  | _, [] => []
  | 0, l => l
  | k + 1, p :: l => if p.2 = n then rcut n k l else p :: rcut n (k + 1) l
def rcutE (n : Int) : Nat → List Int → List Int
  | _, [] => []
  | 0, l => l
  | k + 1, p :: l => if p = n then rcutE n k l else p :: rcutE n (k + 1) l
theorem rcut_zero (n : Int) (l : List (Nat × Int)) : rcut n 0 l = l := by cases l <;> rfl
theorem rcutE_zero (n : Int) (l : List Int) : rcutE n 0 l = l := by cases l <;> rfl
theorem rcut_snd (n : Int) : ∀ (l : List (Nat × Int)) (k : Nat), (rcut n k l).map (·.2) = rcutE n k (l.map (·.2))
  | [], k => by cases k <;> rfl
  | p :: l, 0 => by rw [rcut_zero, rcutE_zero]
  | p :: l, k + 1 => by
    rw [rcut, List.map_cons, rcutE]
    by_cases h : p.2 = n
    · rw [if_pos h, if_pos h, rcut_snd n l k]
    · rw [if_neg h, if_neg h, List.map_cons, rcut_snd n l (k + 1)]
theorem rcutE_rep (n : Int) (l : List Int) : ∀ (m k : Nat), rcutE n k (List.replicate m n ++ l) = List.replicate (m - k) n ++ rcutE n (k - m) l
  | 0, k => by simp
  | m + 1, 0 => by rw [rcutE_zero, Nat.zero_sub, rcutE_zero]; rfl
  | m + 1, k + 1 => by
    rw [List.replicate_succ, List.cons_append, rcutE, if_pos rfl, rcutE_rep n l m k, Nat.add_sub_add_right, Nat.add_sub_add_right]
theorem rcutE_other {n x : Int} (hx : x ≠ n) (l : List Int) : ∀ (m k : Nat), rcutE n k (List.replicate m x ++ l) = List.replicate m x ++ rcutE n k l
  | 0, k => by simp
  | m + 1, 0 => by rw [rcutE_zero, rcutE_zero]
  | m + 1, k + 1 => by
    rw [List.replicate_succ, List.cons_append, rcutE, if_neg hx, rcutE_other hx l m (k + 1)]; rfl
theorem ex_cutR (n : Int) : ∀ (lo : List (Int × Nat)) (k : Nat), ex (Dk.cutR n k lo) = rcutE n k (ex lo)
  | [], k => by cases k <;> rfl
  | p :: lo, k => by
    rw [Dk.cutR, ex_cons]
    by_cases h : p.1 = n
    · rw [if_pos h, ex_cons, ex_cutR n lo, h, rcutE_rep]
    · rw [if_neg h, ex_cons, ex_cutR n lo, rcutE_other h]
def cutP (n : Int) (k : Nat) (P : List (Nat × Int)) : List (Nat × Int) := (rcut n k P.reverse).reverse
theorem ex_cut {n : Int} {k : Nat} {lo : List (Int × Nat)} {P : List (Nat × Int)} (h : P.map (·.2) = ex lo) : (cutP n k P).map (·.2) = ex (Dk.cutLast n k lo) := by
  unfold cutP Dk.cutLast
  rw [List.map_reverse, rcut_snd, List.map_reverse, h, ex_rev, ex_cutR, ex_rev]
theorem rcut_sub (n : Int) : ∀ (l : List (Nat × Int)) (k : Nat), (rcut n k l).Sublist l
  | [], k => by cases k <;> exact List.Sublist.slnil
  | p :: l, 0 => by rw [rcut_zero]; exact List.Sublist.refl _
  | p :: l, k + 1 => by
    rw [rcut]
    by_cases h : p.2 = n
    · rw [if_pos h]; exact (rcut_sub n l k).cons _
    · rw [if_neg h]; exact (rcut_sub n l (k + 1)).cons_cons _
theorem cut_sub (n : Int) (k : Nat) (P : List (Nat × Int)) : (cutP n k P).Sublist P := by
  have := (rcut_sub n P.reverse k).reverse
  rw [List.reverse_reverse] at this
  exact this
theorem rcut_own (n : Int) : ∀ (l : List (Nat × Int)) (k : Nat), (rcut n k l).filter (fun p => p.2 == n) = (l.filter (fun p => p.2 == n)).drop k
  | [], k => by cases k <;> rfl
  | p :: l, 0 => by rw [rcut_zero]; rfl
  | p :: l, k + 1 => by
    rw [rcut]
    by_cases h : p.2 = n
    · rw [if_pos h, rcut_own n l k, List.filter_cons_of_pos (by simpa using h)]; rfl
    · rw [if_neg h, List.filter_cons_of_neg (by simpa using h), List.filter_cons_of_neg (by simpa using h), rcut_own n l (k + 1)]
theorem rcut_other {n x : Int} (hx : x ≠ n) : ∀ (l : List (Nat × Int)) (k : Nat), (rcut n k l).filter (fun p => p.2 == x) = l.filter (fun p => p.2 == x)
  | [], k => by cases k <;> rfl
  | p :: l, 0 => by rw [rcut_zero]
  | p :: l, k + 1 => by
    rw [rcut]
    by_cases h : p.2 = n
    · rw [if_pos h, rcut_other hx l k, List.filter_cons_of_neg (by simpa [h] using fun e => hx e.symm)]
    · rw [if_neg h, List.filter_cons, List.filter_cons, rcut_other hx l (k + 1)]
theorem tm_cut_own (n : Int) (k : Nat) (P : List (Nat × Int)) : tm n (cutP n k P) = (tm n P).take ((tm n P).length - k) := by
  unfold tm cutP
  rw [List.filter_reverse, rcut_own, List.filter_reverse, ← List.map_take, List.length_map, List.drop_reverse, List.reverse_reverse]
theorem tm_cut_other {n x : Int} (hx : x ≠ n) (k : Nat) (P : List (Nat × Int)) : tm x (cutP n k P) = tm x P := by
  unfold tm cutP
  rw [List.filter_reverse, rcut_other hx, List.filter_reverse, List.reverse_reverse]
theorem tm_len {lo : List (Int × Nat)} {P : List (Nat × Int)} (h : P.map (·.2) = ex lo) (n : Int) : (tm n P).length = Dk.looseOf n lo := by
  rw [← ex_count, ← h]
  unfold tm
  rw [List.length_map, List.count_eq_countP, List.countP_map, List.countP_eq_length_filter]
  rfl
theorem tm_app (n : Int) (a b : List (Nat × Int)) : tm n (a ++ b) = tm n a ++ tm n b := by unfold tm; rw [List.filter_append, List.map_append]
theorem tm_new_own (n : Int) (ts : List Nat) : tm n (ts.map fun t => (t, n)) = ts := by
  unfold tm
  rw [List.filter_eq_self.2 (fun p hp => by obtain ⟨t, _, rfl⟩ := List.mem_map.1 hp; simp), List.map_map]
  exact List.map_id _
theorem tm_new_other {n x : Int} (hx : x ≠ n) (ts : List Nat) : tm x (ts.map fun t => (t, n)) = [] := by
  unfold tm
  rw [List.filter_eq_nil_iff.2 (fun p hp => by obtain ⟨t, _, rfl⟩ := List.mem_map.1 hp; simpa using fun e => hx e.symm)]; rfl
theorem tm_out_own (n : Int) (P : List (Nat × Int)) : tm n (P.filter fun p => !(p.2 == n)) = [] := by
  unfold tm
  rw [List.filter_filter, List.filter_eq_nil_iff.2 (fun p hp => by simp)]; rfl
theorem tm_out_other {n x : Int} (hx : x ≠ n) (P : List (Nat × Int)) : tm x (P.filter fun p => !(p.2 == n)) = tm x P := by
  unfold tm
  rw [List.filter_filter]
  congr 1
  refine List.filter_congr fun p hp => ?_
  by_cases h : p.2 = x
  · simp [h, hx]
  · simp [h]
theorem tm_mem {n : Int} {P : List (Nat × Int)} {t : Nat} (h : t ∈ tm n P) : (t, n) ∈ P := by
  unfold tm at h
  obtain ⟨p, hp, rfl⟩ := List.mem_map.1 h
  obtain ⟨h1, h2⟩ := List.mem_filter.1 hp
  have : p.2 = n := by simpa using h2
  rw [← this]; exact h1
end Dq
end Go.Proofs.Ytfpfpdhfnleebaa
