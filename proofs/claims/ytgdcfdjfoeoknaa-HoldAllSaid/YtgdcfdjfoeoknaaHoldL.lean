/- Writes of one range, made one behind the other: what Put takes of them and in which order Next tells them. Plain lists. No conditions. -/
import Derived.Test.YtgdcfdjfoeoknaaHold7
namespace Go.Proofs.Ytgdcfdjfoeoknaa
open Go.ChangeShapes Go.WideShapes Go.ChangeAt Go.RowKit
set_option linter.unusedVariables false
set_option linter.unusedSimpArgs false
namespace Vec
theorem get_put2 (v : Vc) {d r d' r' : Nat} (hd : d < 3) (hr : r < 3) (hd' : d' < 3) (hr' : r' < 3) (x : Int) : (v.put d r x).get d' r' = if d = d' ∧ r = r' then x else v.get d' r' := by
  have h1 : d = 0 ∨ d = 1 ∨ d = 2 := by omega
  have h2 : r = 0 ∨ r = 1 ∨ r = 2 := by omega
  have h3 : d' = 0 ∨ d' = 1 ∨ d' = 2 := by omega
  have h4 : r' = 0 ∨ r' = 1 ∨ r' = 2 := by omega
  rcases h1 with rfl | rfl | rfl <;> rcases h2 with rfl | rfl | rfl <;> rcases h3 with rfl | rfl | rfl <;> rcases h4 with rfl | rfl | rfl <;> rfl
theorem coversV_iff (x y : Vc) : coversV x y = true ↔ ∀ d r, d < 3 → r < 3 → y.get d r ≤ x.get d r := by
  constructor
  · intro h d r hd hr
    unfold coversV covV covP at h
    have h1 : d = 0 ∨ d = 1 ∨ d = 2 := by omega
    have h2 : r = 0 ∨ r = 1 ∨ r = 2 := by omega
    simp [covV, covP] at h
    rcases h1 with rfl | rfl | rfl <;> rcases h2 with rfl | rfl | rfl <;> (show Col.at _ _ ≤ Col.at _ _; simp only [Vc.row, Col.at]; omega)
  · intro h
    have a0 : y.a.a ≤ x.a.a := h 0 0 (by omega) (by omega)
    have a1 : y.a.b ≤ x.a.b := h 0 1 (by omega) (by omega)
    have a2 : y.a.c ≤ x.a.c := h 0 2 (by omega) (by omega)
    have b0 : y.b.a ≤ x.b.a := h 1 0 (by omega) (by omega)
    have b1 : y.b.b ≤ x.b.b := h 1 1 (by omega) (by omega)
    have b2 : y.b.c ≤ x.b.c := h 1 2 (by omega) (by omega)
    have c0 : y.c.a ≤ x.c.a := h 2 0 (by omega) (by omega)
    have c1 : y.c.b ≤ x.c.b := h 2 1 (by omega) (by omega)
    have c2 : y.c.c ≤ x.c.c := h 2 2 (by omega) (by omega)
    simp [coversV, covV, covP, *]
def dc3 (z : Int) : Int := Int.tmod (Int.tmod z 3 + 3) 3
theorem dc3_in (z : Int) : 0 ≤ dc3 z ∧ dc3 z < 3 := by
  unfold dc3
  have h1 : -3 < Int.tmod z 3 := by
    rcases Int.le_total 0 z with h | h
    · have := Int.tmod_nonneg 3 h; omega
    · have h2 := Int.tmod_lt_of_pos (-z) (b := 3) (by decide)
      rw [Int.neg_tmod] at h2
      omega
  exact ⟨Int.tmod_nonneg 3 (by omega), Int.tmod_lt_of_pos _ (by decide)⟩
def dotI (dc : Int) (v : Vc) : Dt := ⟨dc, 0, v.get dc.toNat 0 + 1⟩
def mkE (i : Nat) (dc : Int) (v : Vc) : Ent := ⟨dc, 0, v.get dc.toNat 0 + 1, ⟨(i : Int) + 1, dc, 0⟩, ⟨#[107]⟩, ⟨#[]⟩, false, v, 0, (i : Int) + 1⟩
def Vn (z : Nat → Int) : Nat → Vc
  | 0 => vc0
  | i + 1 => withL (Vn z i) [dotI (dc3 (z i)) (Vn z i)]
def En (z : Nat → Int) (i : Nat) : Ent := mkE i (dc3 (z i)) (Vn z i)
def Ls (z : Nat → Int) (i m : Nat) : List Ent := (List.range' i m).map (En z)
theorem Ls_length (z : Nat → Int) (i m : Nat) : (Ls z i m).length = m := by unfold Ls; simp
theorem Ls_cons (z : Nat → Int) (i m : Nat) : Ls z i (m + 1) = En z i :: Ls z (i + 1) m := by unfold Ls; rw [List.range'_succ]; rfl
theorem Ls_snoc (z : Nat → Int) (m : Nat) : Ls z 0 (m + 1) = Ls z 0 m ++ [En z m] := by unfold Ls; rw [List.range'_concat]; simp
theorem Ls_at (z : Nat → Int) (i m j : Nat) (h : j < m) : (Ls z i m)[j]? = some (En z (i + j)) := by unfold Ls; simp [List.getElem?_map, h]
theorem Ls_mem {z : Nat → Int} {i m : Nat} {e : Ent} (h : e ∈ Ls z i m) : ∃ j, i ≤ j ∧ j < i + m ∧ e = En z j := by
  unfold Ls at h
  obtain ⟨j, hj, rfl⟩ := List.mem_map.1 h
  rw [List.mem_range'_1] at hj
  exact ⟨j, hj.1, hj.2, rfl⟩
section
variable (z : Nat → Int)
theorem chain_dc3 (i : Nat) : chain (dc3 (z i)) 0 = true ∧ (dc3 (z i)).toNat < 3 := by
  have := dc3_in (z i)
  refine ⟨?_, by omega⟩
  unfold chain
  simp
  omega
theorem Vn_get (i : Nat) {d r : Nat} (hd : d < 3) (hr : r < 3) : (Vn z (i + 1)).get d r = if (dc3 (z i)).toNat = d ∧ 0 = r then (Vn z i).get d r + 1 else (Vn z i).get d r := by
  obtain ⟨h1, h2⟩ := chain_dc3 z i
  show (withD (Vn z i) (dotI (dc3 (z i)) (Vn z i))).get d r = _
  unfold withD
  rw [if_pos (by exact h1)]
  show ((Vn z i).put (dc3 (z i)).toNat 0 (max ((Vn z i).get (dc3 (z i)).toNat 0) ((Vn z i).get (dc3 (z i)).toNat 0 + 1))).get d r = _
  rw [get_put2 _ h2 (by omega) hd hr, show max ((Vn z i).get (dc3 (z i)).toNat 0) ((Vn z i).get (dc3 (z i)).toNat 0 + 1) = (Vn z i).get (dc3 (z i)).toNat 0 + 1 by omega]
  split
  · rename_i h
    rw [h.1, ← h.2]
  · rfl
theorem Vn_in : ∀ (i : Nat) {d r : Nat}, d < 3 → r < 3 → 0 ≤ (Vn z i).get d r ∧ (Vn z i).get d r ≤ i ∧ (r ≠ 0 → (Vn z i).get d r = 0)
  | 0, d, r, hd, hr => by
    have h1 : d = 0 ∨ d = 1 ∨ d = 2 := by omega
    have h2 : r = 0 ∨ r = 1 ∨ r = 2 := by omega
    rcases h1 with rfl | rfl | rfl <;> rcases h2 with rfl | rfl | rfl <;> exact ⟨Int.le_refl 0, Int.le_refl 0, fun _ => rfl⟩
  | i + 1, d, r, hd, hr => by
    have h := Vn_in i hd hr
    rw [Vn_get z i hd hr]
    split
    · rename_i h2
      exact ⟨by omega, by omega, fun h3 => absurd h2.2.symm h3⟩
    · exact ⟨h.1, by omega, h.2.2⟩
theorem Vn_mono {d r : Nat} (hd : d < 3) (hr : r < 3) (i : Nat) : ∀ m : Nat, (Vn z i).get d r ≤ (Vn z (i + m)).get d r
  | 0 => Int.le_refl _
  | m + 1 => by
    have h := Vn_mono hd hr i m
    rw [← Nat.add_assoc, Vn_get z (i + m) hd hr]
    split <;> omega
theorem Vn_cov {i j : Nat} (h : i ≤ j) : coversV (Vn z j) (Vn z i) = true := by
  rw [coversV_iff]
  intro d r hd hr
  have := Vn_mono z hd hr i (j - i)
  rwa [show i + (j - i) = j by omega] at this
theorem okN_16 {n : Int} (h1 : 0 ≤ n) (h2 : n ≤ 16) : okN n = true := okN_of h1 (by omega)
theorem En_right {i : Nat} (hi : i < 16) : rightE (En z i) = true := by
  have hd := dc3_in (z i)
  obtain ⟨hc, hc2⟩ := chain_dc3 z i
  have hg := Vn_in z i hc2 (r := 0) (by omega)
  have hb : ∀ d r, d < 3 → r < 3 → okN ((Vn z i).get d r) = true := fun d r h1 h2 => by
    have := Vn_in z i h1 h2
    exact okN_16 this.1 (by omega)
  have hV : rightV (Vn z i) = true := by
    have a0 : okN (Vn z i).a.a = true := hb 0 0 (by omega) (by omega)
    have a1 : okN (Vn z i).a.b = true := hb 0 1 (by omega) (by omega)
    have a2 : okN (Vn z i).a.c = true := hb 0 2 (by omega) (by omega)
    have b0 : okN (Vn z i).b.a = true := hb 1 0 (by omega) (by omega)
    have b1 : okN (Vn z i).b.b = true := hb 1 1 (by omega) (by omega)
    have b2 : okN (Vn z i).b.c = true := hb 1 2 (by omega) (by omega)
    have c0 : okN (Vn z i).c.a = true := hb 2 0 (by omega) (by omega)
    have c1 : okN (Vn z i).c.b = true := hb 2 1 (by omega) (by omega)
    have c2 : okN (Vn z i).c.c = true := hb 2 2 (by omega) (by omega)
    simp [rightV, preV, okPre, *]
  unfold rightE
  have e1 : g1 (En z i) = true := by
    show (chain (dc3 (z i)) 0 && (decide (1 ≤ (Vn z i).get (dc3 (z i)).toNat 0 + 1) && decide ((Vn z i).get (dc3 (z i)).toNat 0 + 1 ≤ 1099511627776))) = true
    rw [hc]; simp; omega
  have e2 : g2 (En z i) = true := by
    show (Stamp.right ⟨(i : Int) + 1, dc3 (z i), 0⟩ && ((dc3 (z i) == dc3 (z i)) && ((0 : Int) == 0))) = true
    unfold Stamp.right
    simp; omega
  have e3 : g3 (En z i) = true := by show (decide (1 ≤ (ByteArray.mk #[107]).size) && (decide ((ByteArray.mk #[107]).size ≤ 16) && (decide ((ByteArray.mk #[]).size ≤ 32) && (!false || _)))) = true; rfl
  have e4 : g4 (En z i) = true := by
    show (rightV (Vn z i) && ((Vn z i).get (dc3 (z i)).toNat 0 == (Vn z i).get (dc3 (z i)).toNat 0 + 1 - 1)) = true
    rw [hV]; simp <;> omega
  have e5 : g5 (En z i) = true := by
    show (decide ((0 : Int) ≤ 0) && (decide ((0 : Int) < 4) && (decide (1 ≤ (i : Int) + 1) && decide ((i : Int) + 1 ≤ 1099511627776)))) = true
    simp; omega
  rw [e1, e2, e3, e4, e5]; rfl
theorem En_seq_lt {i j : Nat} (h : i < j) (hd : dc3 (z i) = dc3 (z j)) : (En z i).seq < (En z j).seq := by
  show (Vn z i).get (dc3 (z i)).toNat 0 + 1 < (Vn z j).get (dc3 (z j)).toNat 0 + 1
  rw [← hd]
  have h2 := (chain_dc3 z i).2
  have h3 := Vn_get z i h2 (r := 0) (by omega)
  rw [if_pos ⟨rfl, rfl⟩] at h3
  have h4 := Vn_mono z h2 (r := 0) (by omega) (i + 1) (j - (i + 1))
  rw [show i + 1 + (j - (i + 1)) = j by omega] at h4
  omega
theorem En_apart {i j : Nat} (h : i ≠ j) : eqDot (En z i) (En z j) = false := by
  rw [Bool.eq_false_iff]
  intro he
  unfold eqDot at he
  simp at he
  have h1 : dc3 (z i) = dc3 (z j) := he.1
  rcases Nat.lt_or_gt_of_ne h with h2 | h2
  · have := En_seq_lt z h2 h1; omega
  · have := En_seq_lt z h2 h1.symm; omega
theorem Ls_apart (i m : Nat) : (Ls z i m).Pairwise fun a b => eqDot a b = false := by
  unfold Ls
  rw [List.pairwise_map]
  refine (List.nodup_range' (step := 1)).imp ?_
  intro a b hab
  exact En_apart z hab
theorem eqDot_comm {a b : Ent} (h : eqDot a b = false) : eqDot b a = false := by
  unfold eqDot at h ⊢
  rw [Bool.beq_comm (a := b.dc), Bool.beq_comm (a := b.rng), Bool.beq_comm (a := b.seq)]
  exact h
theorem putL_whole : ∀ (news pre : List Ent), (∀ e ∈ news, rightE e = true ∧ e.rng = 0) → pre.length + news.length ≤ 16 → (pre ++ news).Pairwise (fun a b => eqDot a b = false) →
    ∀ k, news.foldl (putStep 0) (pre, k) = (pre ++ news, k + news.length)
  | [], pre, _, _, _, k => by simp
  | e :: news, pre, h1, h2, h3, k => by
    have hok : okPut 0 pre e = true := by
      unfold okPut
      have ht : thereE pre e = false := by
        unfold thereE
        rw [Bool.eq_false_iff]
        intro h
        obtain ⟨x, hx, he⟩ := List.any_eq_true.1 h
        rw [List.pairwise_append] at h3
        have := h3.2.2 x hx e (by simp)
        rw [this] at he; cases he
      rw [(h1 e (by simp)).1, (h1 e (by simp)).2, ht]
      simp at h2 ⊢; omega
    rw [List.foldl_cons]
    have e1 : putStep 0 (pre, k) e = (pre ++ [e], k + 1) := by unfold putStep; rw [if_pos (by exact hok)]
    rw [e1, putL_whole news (pre ++ [e]) (fun x hx => h1 x (by simp [hx])) (by simp at h2 ⊢; omega) (by simpa using h3)]
    simp; omega
theorem put_all {n : Nat} (hn : n ≤ 16) {l : List Ent} (hp : l.Perm (Ls z 0 n)) : putL 0 [] l = (l, n) := by
  have hl : l.length = n := by rw [hp.length_eq, Ls_length]
  have h := putL_whole l [] (fun e he => by
    obtain ⟨j, h1, h2, rfl⟩ := Ls_mem (hp.mem_iff.1 he)
    exact ⟨En_right z (by omega), rfl⟩) (by simp; omega) ((hp.pairwise_iff (fun h => eqDot_comm h)).2 (Ls_apart z 0 n)) 0
  unfold putL
  rw [h]; simp [hl]
theorem cmp_le {a b : Stamp.St} (h : Stamp.cmpS a b < 0) : a.c ≤ b.c := by
  unfold Stamp.cmpS Stamp.firstNZ at h
  have : Stamp.cmpI a.c b.c = if a.c < b.c then -1 else if b.c < a.c then 1 else 0 := rfl
  split at h
  · rename_i h0
    rw [this] at h0
    split at h0
    · omega
    · split at h0 <;> omega
  · rw [this] at h
    split at h
    · omega
    · split at h <;> omega
theorem cmp_ge {a b : Stamp.St} (h : ¬ Stamp.cmpS a b < 0) : b.c ≤ a.c := by
  rcases Int.lt_or_le a.c b.c with h1 | h1
  · exfalso
    apply h
    unfold Stamp.cmpS Stamp.firstNZ
    have : Stamp.cmpI a.c b.c = -1 := by unfold Stamp.cmpI; rw [if_pos h1]
    rw [this]
    rw [if_neg (by decide)]
    decide
  · exact h1
theorem bestTo_min (v : Vc) (es : List Ent) : ∀ (k j : Nat), bestTo v es k = some j → ∀ (m : Nat) (e ej : Ent), m < k → es[m]? = some e → dueE v e = true → es[j]? = some ej → ej.st.c ≤ e.st.c
  | 0, j, h => by cases h
  | k + 1, j, h => by
    intro m e ej hm he hd hj
    unfold bestTo at h
    cases hk : es[k]? with
    | none =>
      rw [hk] at h
      have : m < es.length := (List.getElem?_eq_some_iff.1 he).1
      have : es.length ≤ k := List.getElem?_eq_none_iff.1 hk
      exact bestTo_min v es k j h m e ej (by omega) he hd hj
    | some x =>
      rw [hk] at h
      simp only [nextStep] at h
      by_cases hmk : m = k
      · subst hmk
        rw [hk] at he
        cases he
        rw [if_pos hd] at h
        split at h
        · cases h; rw [hk] at hj; cases hj; exact Int.le_refl _
        · rename_i b hb
          split at h
          · cases h; rw [hk] at hj; cases hj; exact Int.le_refl _
          · rename_i hc
            cases h
            have h9 := cmp_ge hc
            rw [List.getD_eq_getElem?_getD, hj] at h9
            exact h9
      · split at h
        · split at h
          · rename_i hb
            cases h
            rw [bestTo_none v es k hb m e (by omega) he] at hd
            cases hd
          · rename_i b hb
            have hbl := (bestTo_lt v es k b hb).2
            obtain ⟨eb, heb⟩ : ∃ eb, es[b]? = some eb := ⟨_, List.getElem?_eq_getElem hbl⟩
            have h8 := bestTo_min v es k b hb m e eb (by omega) he hd heb
            split at h
            · rename_i hc
              cases h
              rw [hk] at hj; cases hj
              have h9 := cmp_le hc
              rw [List.getD_eq_getElem?_getD, heb] at h9
              exact Int.le_trans h9 h8
            · cases h
              rw [heb] at hj; cases hj
              exact h8
        · exact bestTo_min v es k j h m e ej (by omega) he hd hj
theorem En_due {i : Nat} (hi : i < 16) : dueE (Vn z i) (En z i) = true := by
  have h2 := (chain_dc3 z i).2
  have h := Vn_in z i h2 (r := 0) (by omega)
  unfold dueE
  show ((Vn z i).get (dc3 (z i)).toNat 0 + 1 == wrap64 ((Vn z i).get (dc3 (z i)).toNat 0 + 1) && coversV (Vn z i) (Vn z i)) = true
  rw [IntWalk.wrap64_in _ (by omega), Vn_cov z (Nat.le_refl _)]
  simp
theorem next_all {i m : Nat} (hi : i < 16) {hs : List Ent} (hp : hs.Perm (Ls z i (m + 1))) : nextE (Vn z i) hs = (En z i, true) ∧ (nextL (Vn z i) hs).Perm (Ls z (i + 1) m) := by
  have hin : En z i ∈ hs := hp.mem_iff.2 (by rw [Ls_cons]; simp)
  obtain ⟨k, hk⟩ := List.getElem?_of_mem hin
  have hkl := (List.getElem?_eq_some_iff.1 hk).1
  have hb : ∃ j, bestTo (Vn z i) hs hs.length = some j := by
    cases hb : bestTo (Vn z i) hs hs.length with
    | some j => exact ⟨j, rfl⟩
    | none => have := bestTo_none _ _ _ hb k _ hkl hk; rw [En_due z hi] at this; cases this
  obtain ⟨j, hb⟩ := hb
  have hjl := (bestTo_lt _ _ _ j hb).2
  obtain ⟨e, he⟩ : ∃ e, hs[j]? = some e := ⟨_, List.getElem?_eq_getElem hjl⟩
  have hmin := bestTo_min _ _ _ j hb k _ e hkl hk (En_due z hi) he
  obtain ⟨q, h1, h2, rfl⟩ := Ls_mem (hp.mem_iff.1 (List.mem_of_getElem? he))
  have h3 : (q : Int) + 1 ≤ (i : Int) + 1 := hmin
  obtain rfl : q = i := by omega
  unfold nextE nextL
  rw [hb]
  refine ⟨?_, ?_⟩
  · show (hs.getD j ent0, true) = _
    rw [List.getD_eq_getElem?_getD, he]; rfl
  · show (hs.eraseIdx j).Perm _
    have h4 : (hs[j] :: hs.eraseIdx j).Perm hs := by
      rw [List.eraseIdx_eq_take_drop_succ]
      refine List.perm_middle.symm.trans (List.Perm.of_eq ?_)
      rw [List.getElem_cons_drop, List.take_append_drop]
    have h5 : hs[j] = En z q := by
      have := List.getElem?_eq_getElem hjl
      rw [he] at this
      exact (Option.some.inj this).symm
    rw [h5] at h4
    have h6 := h4.trans hp
    rw [Ls_cons] at h6
    exact List.Perm.cons_inv h6
end
end Vec
end Go.Proofs.Ytgdcfdjfoeoknaa
