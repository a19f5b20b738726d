/- What Check tells, plainly: it does not hang on where the lists lie; its order; a history's beginning. No conditions. -/
import Derived.Test.YtelephoalpphkaaAud23
set_option maxRecDepth 8000
namespace Go.Proofs.Ytelephoalpphkaa
set_option linter.unusedVariables false
set_option linter.unusedSimpArgs false
namespace Au
def bare (e : Ev) : Ev := ⟨e.cl, e.op, e.kind, none, 0, e.keys, e.val, e.adc, e.dc, e.fresh, e.fin, e.code, none, 0, e.res, e.cut⟩
def bareS (s : Ss) : Ss := ⟨s.under, bare s.begun, s.op, s.some, s.cut⟩
def bareK (k : Ck) : Ck := ⟨none, 0, k.h.map bare, none, 0, k.ws, k.at', 0⟩
theorem r4_bare (k : Ck) (e : Ev) : r4 (bareK k) (bare e) = r4 k e := by
  have h : ∀ r, askedP (bareK k) r = askedP k r := fun r => by
    unfold askedP bareK
    dsimp only
    rw [← List.map_take, List.any_map]
    rfl
  show (!(hasL e.res).any fun r => !askedP (bareK k) r) = _
  simp only [h]
  rfl
theorem rulesF_bare (k : Ck) (s : Ss) (e : Ev) : rulesF (bareK k) (bareS s) (bare e) = rulesF k s e := by
  unfold rulesF
  rw [r4_bare]
  rfl
theorem evF_bare (k : Ck) (s : Ss) (e : Ev) : evF (bareK k) (bareS s) (bare e) = ((evF k s e).1, bareS (evF k s e).2) := by
  have h1 : endF (bareK k) (bareS s) (bare e) = endF k s e := by unfold endF; rw [rulesF_bare]
  unfold evF
  rw [h1]
  show (if (!e.fresh && !e.fin) = true then begF (bareS s) (bare e) else if e.fresh = true then _ else _) = _
  by_cases h2 : (!e.fresh && !e.fin) = true
  · rw [if_pos h2, if_pos h2]; rfl
  · rw [if_neg h2, if_neg h2]
    by_cases h3 : e.fresh = true
    · rw [if_pos h3, if_pos h3]; rfl
    · rw [if_neg h3, if_neg h3]; rfl
theorem stC_none {k : Ck} {j : Nat} (he : k.h[j]? = none) : stC k (j + 1) = stC k j := by rw [stC, he]
theorem stC_bare (k : Ck) : ∀ j, stC (bareK k) j = (fun m => bareS ((stC k j).1 m), (stC k j).2)
  | 0 => rfl
  | j + 1 => by
    have ih := stC_bare k j
    have hh : (bareK k).h[j]? = (k.h[j]?).map bare := by unfold bareK; exact List.getElem?_map
    cases he : k.h[j]? with
    | none =>
      rw [he] at hh
      rw [stC_none he, stC_none hh]
      exact ih
    | some e =>
      rw [he] at hh
      rw [stC_succ he, stC_succ hh, ih]
      have h3 : evF (atK (bareK k) j) (bareS ((stC k j).1 e.cl)) (bare e) = _ := evF_bare (atK k j) ((stC k j).1 e.cl) e
      show ((fun m => if m = e.cl then (evF (atK (bareK k) j) (bareS ((stC k j).1 e.cl)) (bare e)).2 else bareS ((stC k j).1 m)), (stC k j).2 ++ (evF (atK (bareK k) j) (bareS ((stC k j).1 e.cl)) (bare e)).1.map fun r => (⟨j, r⟩ : Fi)) = _
      rw [h3]
      refine Prod.ext (funext fun m => ?_) rfl
      show (if m = e.cl then _ else _) = bareS (if m = e.cl then _ else _)
      by_cases hm : m = e.cl
      · rw [if_pos hm, if_pos hm]
      · rw [if_neg hm, if_neg hm]
def kOf (h : List Ev) (ws : List Vec.Ent) : Ck := ⟨none, 0, h, none, 0, ws, 0, 0⟩
/-- all that is wrong with a history -/
def findL (h : List Ev) (ws : List Vec.Ent) : List Fi := findsC (kOf (h.map bare) ws)
theorem finds_of (k : Ck) (ha : k.at' = 0) : findsC k = findL k.h k.ws := by
  have h1 := stC_bare k k.h.length
  have h2 : bareK k = kOf (k.h.map bare) k.ws := by unfold bareK kOf; rw [ha]
  unfold findL findsC
  rw [← h2, show (bareK k).h.length = k.h.length from List.length_map _, h1]
theorem findL_congr {h h' : List Ev} (e : h.map bare = h'.map bare) (ws : List Vec.Ent) : findL h ws = findL h' ws := by unfold findL; rw [e]
theorem findL_eq (h : List Ev) (ws : List Vec.Ent) : findL h ws = (stC (kOf h ws) h.length).2 := (finds_of (kOf h ws) rfl).symm
theorem evF_congr {k k' : Ck} (hh : k.h.take k.at' = k'.h.take k'.at') (hw : k.ws = k'.ws) (s : Ss) (e : Ev) : evF k s e = evF k' s e := by
  have h4 : r4 k e = r4 k' e := by
    unfold r4
    have : ∀ r, askedP k r = askedP k' r := fun r => by unfold askedP; rw [hh]
    simp only [this]
  have h : rulesF k s e = rulesF k' s e := by
    unfold rulesF r8 seesF r9
    rw [h4, hw]
  unfold evF endF
  rw [h]
theorem st_take (h : List Ev) (ws : List Vec.Ent) (n : Nat) : ∀ j, j ≤ n → stC (kOf (h.take n) ws) j = stC (kOf h ws) j
  | 0, _ => rfl
  | j + 1, hj => by
    have ih := st_take h ws n j (by omega)
    have hh : (kOf (h.take n) ws).h[j]? = (kOf h ws).h[j]? := by show (h.take n)[j]? = h[j]?; rw [List.getElem?_take, if_pos (by omega)]
    cases he : (kOf h ws).h[j]? with
    | none => rw [stC_none he, stC_none (hh.trans he), ih]
    | some e =>
      rw [stC_succ he, stC_succ (hh.trans he), ih]
      have h3 : ∀ s, evF (atK (kOf (h.take n) ws) j) s e = evF (atK (kOf h ws) j) s e := fun s => evF_congr (k := atK (kOf (h.take n) ws) j) (k' := atK (kOf h ws) j) (by show (h.take n).take j = h.take j; rw [List.take_take, Nat.min_eq_left (by omega)]) rfl s e
      simp only [h3]
theorem evF_in (k : Ck) (s : Ss) (e : Ev) : ∀ r ∈ (evF k s e).1, 1 ≤ r ∧ r ≤ 9 := by
  intro r hr
  unfold evF at hr
  split at hr
  · unfold begF at hr
    dsimp only at hr
    split at hr
    · rw [List.mem_singleton] at hr; omega
    · cases hr
  · split at hr
    · cases hr
    · unfold endF at hr
      dsimp only at hr
      obtain ⟨i, hi, rfl⟩ := List.mem_map.1 hr
      have := List.mem_range.1 (List.mem_filter.1 hi).1
      omega
theorem evF_up (k : Ck) (s : Ss) (e : Ev) : (evF k s e).1.Pairwise (· < ·) := by
  unfold evF
  split
  · unfold begF
    dsimp only
    split <;> simp
  · split
    · exact List.Pairwise.nil
    · unfold endF
      dsimp only
      rw [List.pairwise_map]
      refine List.Pairwise.imp ?_ (List.Pairwise.filter _ List.pairwise_lt_range)
      intro a b hab
      omega
theorem fi_in (k : Ck) : ∀ j, ∀ f ∈ (stC k j).2, 0 ≤ f.ev ∧ f.ev < (j : Int) ∧ 1 ≤ f.rule ∧ f.rule ≤ 9
  | 0, f, hf => by cases hf
  | j + 1, f, hf => by
    have ih := fi_in k j
    cases he : k.h[j]? with
    | none =>
      rw [stC_none he] at hf
      have := ih f hf
      omega
    | some e =>
      rw [stC_succ he] at hf
      rcases List.mem_append.1 hf with hf | hf
      · have := ih f hf
        omega
      · obtain ⟨r, hr, rfl⟩ := List.mem_map.1 hf
        have := evF_in _ _ _ r hr
        dsimp only
        omega
def fiLt (a b : Fi) : Prop := a.ev < b.ev ∨ a.ev = b.ev ∧ a.rule < b.rule
theorem fi_up (k : Ck) : ∀ j, (stC k j).2.Pairwise fiLt
  | 0 => List.Pairwise.nil
  | j + 1 => by
    have ih := fi_up k j
    cases he : k.h[j]? with
    | none => rw [stC_none he]; exact ih
    | some e =>
      rw [stC_succ he]
      show ((stC k j).2 ++ _).Pairwise fiLt
      rw [List.pairwise_append]
      refine ⟨ih, ?_, ?_⟩
      · rw [List.pairwise_map]
        exact List.Pairwise.imp (fun h => .inr ⟨rfl, h⟩) (evF_up _ _ _)
      · intro a ha b hb
        obtain ⟨r, hr, rfl⟩ := List.mem_map.1 hb
        exact .inl (fi_in k j a ha).2.1
theorem fi_front (k : Ck) (n : Nat) : ∀ j, n ≤ j → (stC k j).2.filter (fun f => decide (f.ev < (n : Int))) = (stC k n).2 := by
  intro j
  induction j with
  | zero =>
    intro h
    obtain rfl : n = 0 := by omega
    rfl
  | succ j ih =>
    intro h
    by_cases hn : n = j + 1
    · subst hn
      refine List.filter_eq_self.2 fun f hf => ?_
      have := (fi_in k _ f hf).2.1
      simpa using this
    · have ih := ih (by omega)
      cases he : k.h[j]? with
      | none => rw [stC_none he]; exact ih
      | some e =>
        rw [stC_succ he]
        show ((stC k j).2 ++ _).filter _ = _
        rw [List.filter_append, ih, List.filter_eq_nil_iff.2, List.append_nil]
        intro f hf
        obtain ⟨r, hr, rfl⟩ := List.mem_map.1 hf
        have : ¬ ((j : Int) < (n : Int)) := by omega
        simpa using this
/-- of a history's beginning the same is found as within the whole -/
theorem findL_take (h : List Ev) (ws : List Vec.Ent) (n : Nat) (hn : n ≤ h.length) : (findL h ws).filter (fun f => decide (f.ev < (n : Int))) = findL (h.take n) ws := by
  rw [findL_eq, findL_eq, fi_front _ _ _ hn, List.length_take, Nat.min_eq_left hn, st_take h ws n n (Nat.le_refl _)]
end Au
end Go.Proofs.Ytelephoalpphkaa
