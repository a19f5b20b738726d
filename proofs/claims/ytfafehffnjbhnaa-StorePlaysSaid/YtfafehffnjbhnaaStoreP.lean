/- A store, plainly: lists of writes by key, each sorted; what laying a write in does to them. Plain lemmas. -/
import Derived.Test.YtfafehffnjbhnaaStore0
import Derived.Test.YtfafehffnjbhnaaStSort
import Derived.Test.YtfafehffnjbhnaaTyRightE
namespace Go.Proofs.Ytfafehffnjbhnaa
set_option linter.unusedVariables false
set_option linter.unusedSimpArgs false
namespace Sto
open Vec
def vers : List Ls → ByteArray → List Ent
  | [], _ => []
  | l :: st, k => if l.k = k then l.es else vers st k
def setL : List Ls → ByteArray → List Ent → List Ls
  | [], k, es => [⟨k, es⟩]
  | l :: st, k, es => if l.k = k then ⟨k, es⟩ :: st else l :: setL st k es
def insE (e : Ent) : List Ent → List Ent
  | [] => [e]
  | x :: l => if gtE e x < 0 then e :: x :: l else x :: insE e l
def eqD (x : Ent) (d : Dt) : Bool := x.dc == d.dc && (x.rng == d.rng && x.seq == d.seq)
def hasS (st : List Ls) (d : Dt) : Bool := st.any fun l => l.es.any fun x => eqD x d
def under (c : Col) (e : Ent) : Bool := decide (e.seq ≤ c.at e.dc.toNat)
def okP (rng : Int) (mk : Col) (st : List Ls) (e : Ent) : Bool := rightE e && (e.rng == rng && (!under mk e && !hasS st (dotE e)))
def putS (st : List Ls) (e : Ent) : List Ls := setL st e.key (insE e (vers st e.key))
def putStep (rng : Int) (mk : Col) (p : List Ls × Nat) (e : Ent) : List Ls × Nat := if okP rng mk p.1 e = true then (putS p.1 e, p.2 + 1) else p
def putL (rng : Int) (mk : Col) (st : List Ls) (news : List Ent) : List Ls × Nat := news.foldl (putStep rng mk) (st, 0)
theorem putL_snoc (rng : Int) (mk : Col) (st : List Ls) (news : List Ent) (e : Ent) : putL rng mk st (news ++ [e]) = putStep rng mk (putL rng mk st news) e := by unfold putL; rw [List.foldl_append]; rfl
def lenS (st : List Ls) : Nat := (st.map (·.es.length)).sum
def all (st : List Ls) : List Ent := st.flatMap (·.es)
def dotQ (x y : Ent) : Prop := x.dc = y.dc ∧ x.rng = y.rng ∧ x.seq = y.seq
structure Good (rng : Int) (st : List Ls) : Prop where
  ne : ∀ l ∈ st, l.es ≠ []
  ok : ∀ l ∈ st, ∀ x ∈ l.es, rightE x = true ∧ x.rng = rng ∧ x.key = l.k
  so : ∀ l ∈ st, l.es.Pairwise fun x y => gtE x y < 0
  kd : (st.map (·.k)).Nodup
  dd : (all st).Pairwise fun x y => ¬ dotQ x y
theorem Good.none (rng : Int) : Good rng [] := ⟨fun _ h => (by cases h), fun _ h => (by cases h), fun _ h => (by cases h), List.nodup_nil, List.Pairwise.nil⟩
section
variable {rng : Int} {mk : Col} {st : List Ls} {e x y : Ent} {l : Ls} {k : ByteArray} {es : List Ent}
theorem eqD_iff : eqD x (dotE y) = true ↔ dotQ x y := by unfold eqD dotE dotQ; simp
theorem dotQ.symm (h : dotQ x y) : dotQ y x := ⟨h.1.symm, h.2.1.symm, h.2.2.symm⟩
theorem hasS_iff {d : Ent} : hasS st (dotE d) = true ↔ ∃ x ∈ all st, dotQ x d := by
  unfold hasS all
  simp only [List.any_eq_true, List.mem_flatMap, eqD_iff]
  constructor
  · rintro ⟨l, hl, x, hx, h⟩; exact ⟨x, ⟨l, hl, hx⟩, h⟩
  · rintro ⟨x, ⟨l, hl, hx⟩, h⟩; exact ⟨l, hl, x, hx, h⟩
theorem right_st (h : rightE x = true) : x.st.d = x.dc ∧ x.st.r = x.rng := by
  unfold rightE g2 at h
  simp only [Bool.and_eq_true, beq_iff_eq] at h
  exact h.2.1.2
theorem rank_dot (hx : rightE x = true) (hy : rightE y = true) (h1 : ¬ gtE x y < 0) (h2 : ¬ gtE y x < 0) : dotQ x y := by
  obtain ⟨a1, a2⟩ := right_st hx
  obtain ⟨b1, b2⟩ := right_st hy
  rw [gtE_lt] at h1 h2
  unfold dotQ
  omega
theorem gtE_trans {z : Ent} (h1 : gtE x y < 0) (h2 : gtE y z < 0) : gtE x z < 0 := by rw [gtE_lt] at *; omega
theorem gtE_asym (h1 : gtE x y < 0) : ¬ gtE y x < 0 := by rw [gtE_lt] at *; omega
theorem gtE_irr : ¬ gtE x x < 0 := by rw [gtE_lt]; omega
theorem vers_mem (h : l ∈ st) (hn : (st.map (·.k)).Nodup) : vers st l.k = l.es := by
  induction st with
  | nil => cases h
  | cons a st ih =>
    rw [List.map_cons, List.nodup_cons] at hn
    rcases List.mem_cons.1 h with rfl | h
    · unfold vers; rw [if_pos rfl]
    · unfold vers
      rw [if_neg (fun e => hn.1 (List.mem_map.2 ⟨l, h, e.symm⟩))]
      exact ih h hn.2
theorem vers_none (h : ∀ l ∈ st, l.k ≠ k) : vers st k = [] := by
  induction st with
  | nil => rfl
  | cons a st ih =>
    unfold vers
    rw [if_neg (h a List.mem_cons_self)]
    exact ih fun l hl => h l (List.mem_cons_of_mem _ hl)
theorem vers_cases (st : List Ls) (k : ByteArray) : (∃ l ∈ st, l.k = k ∧ vers st k = l.es) ∨ (vers st k = [] ∧ ∀ l ∈ st, l.k ≠ k) := by
  induction st with
  | nil => exact .inr ⟨rfl, fun _ h => (by cases h)⟩
  | cons a st ih =>
    unfold vers
    by_cases h : a.k = k
    · rw [if_pos h]; exact .inl ⟨a, List.mem_cons_self, h, rfl⟩
    · rw [if_neg h]
      rcases ih with ⟨l, h1, h2, h3⟩ | ⟨h1, h2⟩
      · exact .inl ⟨l, List.mem_cons_of_mem _ h1, h2, h3⟩
      · exact .inr ⟨h1, fun l hl => (List.mem_cons.1 hl).elim (fun e => e ▸ h) (h2 l)⟩
theorem vers_all (h : x ∈ vers st k) : x ∈ all st := by
  rcases vers_cases st k with ⟨l, h1, _, h3⟩ | ⟨h1, _⟩
  · exact List.mem_flatMap.2 ⟨l, h1, h3 ▸ h⟩
  · rw [h1] at h; cases h
theorem Good.vers_ok (h : Good rng st) (hx : x ∈ vers st k) : rightE x = true ∧ x.rng = rng ∧ x.key = k := by
  rcases vers_cases st k with ⟨l, h1, h2, h3⟩ | ⟨h1, _⟩
  · have := h.ok l h1 x (h3 ▸ hx); rw [h2] at this; exact this
  · rw [h1] at hx; cases hx
theorem Good.vers_so (h : Good rng st) (k : ByteArray) : (vers st k).Pairwise fun x y => gtE x y < 0 := by
  rcases vers_cases st k with ⟨l, h1, _, h3⟩ | ⟨h1, _⟩
  · rw [h3]; exact h.so l h1
  · rw [h1]; exact List.Pairwise.nil
theorem Good.all_ok (h : Good rng st) (hx : x ∈ all st) : rightE x = true ∧ x.rng = rng := by
  obtain ⟨l, hl, hx⟩ := List.mem_flatMap.1 hx
  exact ⟨(h.ok l hl x hx).1, (h.ok l hl x hx).2.1⟩
theorem insE_perm (e : Ent) : ∀ l : List Ent, (insE e l).Perm (e :: l)
  | [] => List.Perm.refl _
  | x :: l => by
    unfold insE
    split
    · exact List.Perm.refl _
    · exact ((insE_perm e l).cons x).trans (List.Perm.swap e x l)
theorem insE_ne (e : Ent) (l : List Ent) : insE e l ≠ [] := fun h => by
  have := (insE_perm e l).length_eq
  rw [h] at this
  simp at this
theorem insE_sorted : ∀ {l : List Ent}, l.Pairwise (fun x y => gtE x y < 0) → (∀ x ∈ l, gtE x e < 0 ∨ gtE e x < 0) → (insE e l).Pairwise fun x y => gtE x y < 0
  | [], _, _ => List.pairwise_singleton _ _
  | x :: l, h, hn => by
    rw [List.pairwise_cons] at h
    unfold insE
    split
    · rename_i hlt
      rw [List.pairwise_cons, List.pairwise_cons]
      refine ⟨fun y hy => ?_, h⟩
      rcases List.mem_cons.1 hy with rfl | hy
      · exact hlt
      · exact gtE_trans hlt (h.1 y hy)
    · rename_i hlt
      rw [List.pairwise_cons]
      refine ⟨fun y hy => ?_, insE_sorted h.2 fun y hy => hn y (List.mem_cons_of_mem _ hy)⟩
      rcases List.mem_cons.1 ((insE_perm e l).subset hy) with rfl | hy
      · exact (hn x List.mem_cons_self).resolve_right hlt
      · exact h.1 y hy
/-- a list that holds what the sorted one holds with a write more, and is sorted, is that one -/
theorem sorted_ins {l l' : List Ent} (hs : l.Pairwise (fun x y => gtE x y < 0)) (hn : ∀ x ∈ l, gtE x e < 0 ∨ gtE e x < 0) (hp : l'.Perm (l ++ [e])) (hso : l'.Pairwise (fun x y => ¬ gtE y x < 0)) : l' = insE e l := by
  have h1 := insE_sorted hs hn
  have h2 : l'.Perm (insE e l) := hp.trans ((List.perm_append_comm).trans (insE_perm e l).symm)
  refine List.Perm.eq_of_pairwise (le := fun x y => ¬ gtE y x < 0) (fun a b ha hb hab hba => ?_) hso (h1.imp fun h => gtE_asym h) h2
  have ha' := h2.subset ha
  obtain ⟨i, hi, rfl⟩ := List.getElem_of_mem ha'
  obtain ⟨j, hj, rfl⟩ := List.getElem_of_mem hb
  rw [List.pairwise_iff_getElem] at h1
  rcases Nat.lt_trichotomy i j with h | h | h
  · exact (hba (h1 i j hi hj h)).elim
  · subst h; rfl
  · exact (hab (h1 j i hj hi h)).elim
theorem setL_k (st : List Ls) (k : ByteArray) (es : List Ent) : (k ∈ st.map (·.k) ∧ (setL st k es).map (·.k) = st.map (·.k)) ∨ (k ∉ st.map (·.k) ∧ (setL st k es).map (·.k) = st.map (·.k) ++ [k]) := by
  induction st with
  | nil => exact .inr ⟨by simp, rfl⟩
  | cons a st ih =>
    unfold setL
    by_cases h : a.k = k
    · rw [if_pos h]; exact .inl ⟨by simp [h], by simp [h]⟩
    · rw [if_neg h, List.map_cons, List.map_cons]
      have h' : k ≠ a.k := fun e => h e.symm
      rcases ih with ⟨h1, h2⟩ | ⟨h1, h2⟩
      · exact .inl ⟨List.mem_cons_of_mem _ h1, by rw [h2]⟩
      · exact .inr ⟨fun h3 => (List.mem_cons.1 h3).elim h' h1, by rw [h2]; rfl⟩
theorem setL_mem (h : l ∈ setL st k es) : l = ⟨k, es⟩ ∨ l ∈ st := by
  induction st with
  | nil => unfold setL at h; exact .inl (List.mem_singleton.1 h)
  | cons a st ih =>
    unfold setL at h
    split at h
    · rcases List.mem_cons.1 h with h | h
      · exact .inl h
      · exact .inr (List.mem_cons_of_mem _ h)
    · rcases List.mem_cons.1 h with h | h
      · exact .inr (h ▸ List.mem_cons_self)
      · exact (ih h).imp id (List.mem_cons_of_mem _)
theorem all_cons (a : Ls) (st : List Ls) : all (a :: st) = a.es ++ all st := rfl
theorem setL_all (h : ∀ es', es = insE e es' → es' = vers st k → True) : (all (setL st k (insE e (vers st k)))).Perm (e :: all st) := by
  clear h
  induction st with
  | nil => exact List.Perm.refl _
  | cons a st ih =>
    unfold setL vers
    by_cases h : a.k = k
    · rw [if_pos h, if_pos h, all_cons, all_cons]
      exact (insE_perm e a.es).append_right _
    · rw [if_neg h, if_neg h, all_cons, all_cons]
      exact (ih.append_left _).trans List.perm_middle
theorem putS_all (st : List Ls) (e : Ent) : (all (putS st e)).Perm (e :: all st) := setL_all (es := []) (fun _ _ _ => trivial)
theorem all_len (st : List Ls) : (all st).length = lenS st := by unfold all lenS; rw [List.length_flatMap]
theorem putS_len (st : List Ls) (e : Ent) : lenS (putS st e) = lenS st + 1 := by rw [← all_len, (putS_all st e).length_eq, List.length_cons, all_len]
theorem vers_set (st : List Ls) (k : ByteArray) (es : List Ent) (q : ByteArray) : vers (setL st k es) q = if k = q then es else vers st q := by
  induction st with
  | nil => rfl
  | cons a st ih =>
    unfold setL
    by_cases h : a.k = k
    · rw [if_pos h]
      unfold vers
      by_cases h2 : k = q
      · rw [if_pos h2, if_pos h2]
      · rw [if_neg h2, if_neg h2, if_neg (fun e => h2 (h ▸ e))]
    · rw [if_neg h]
      unfold vers
      rw [ih]
      by_cases h2 : a.k = q
      · rw [if_pos h2, if_pos h2, if_neg (fun e => h (h2.trans e.symm))]
      · rw [if_neg h2, if_neg h2]
theorem okP_spec (h : okP rng mk st e = true) : rightE e = true ∧ e.rng = rng ∧ under mk e = false ∧ hasS st (dotE e) = false := by
  unfold okP at h
  simp only [Bool.and_eq_true, beq_iff_eq, Bool.not_eq_true'] at h
  exact h
theorem Good.apart (h : Good rng st) (hr : rightE e = true) (hh : hasS st (dotE e) = false) (hx : x ∈ all st) : gtE x e < 0 ∨ gtE e x < 0 := by
  by_cases h1 : gtE x e < 0
  · exact .inl h1
  · refine .inr (Classical.byContradiction fun h2 => ?_)
    have := hasS_iff.2 ⟨x, hx, rank_dot (h.all_ok hx).1 hr h1 h2⟩
    rw [hh] at this
    cases this
theorem Good.put (h : Good rng st) (hr : rightE e = true) (hg : e.rng = rng) (hh : hasS st (dotE e) = false) : Good rng (putS st e) := by
  refine ⟨fun l hl => ?_, fun l hl x hx => ?_, fun l hl => ?_, ?_, ?_⟩
  · rcases setL_mem hl with rfl | hl
    · exact insE_ne _ _
    · exact h.ne l hl
  · rcases setL_mem hl with rfl | hl
    · rcases List.mem_cons.1 ((insE_perm _ _).subset hx) with rfl | hx
      · exact ⟨hr, hg, rfl⟩
      · exact h.vers_ok hx
    · exact h.ok l hl x hx
  · rcases setL_mem hl with rfl | hl
    · exact insE_sorted (h.vers_so _) fun x hx => h.apart hr hh (vers_all hx)
    · exact h.so l hl
  · show ((setL _ _ _).map (·.k)).Nodup
    rcases setL_k st e.key (insE e (vers st e.key)) with ⟨_, h1⟩ | ⟨hk, h1⟩
    · rw [h1]; exact h.kd
    · rw [h1, List.nodup_append]
      exact ⟨h.kd, List.pairwise_singleton _ _, fun a ha b hb e => hk (by rw [List.mem_singleton] at hb; rw [← hb, ← e]; exact ha)⟩
  · refine ((putS_all st e).symm.pairwise_iff (R := fun x y => ¬ dotQ x y) (fun {x y} h1 h2 => h1 h2.symm)).1 ?_
    rw [List.pairwise_cons]
    refine ⟨fun x hx hd => ?_, h.dd⟩
    have := hasS_iff.2 ⟨x, hx, hd.symm⟩
    rw [hh] at this
    cases this
theorem Good.step {n : Nat} (h : Good rng st) (e : Ent) : Good rng (putStep rng mk (st, n) e).1 := by
  unfold putStep
  split
  · rename_i hp
    obtain ⟨h1, h2, _, h4⟩ := okP_spec hp
    exact h.put h1 h2 h4
  · exact h
end
end Sto
end Go.Proofs.Ytfafehffnjbhnaa
