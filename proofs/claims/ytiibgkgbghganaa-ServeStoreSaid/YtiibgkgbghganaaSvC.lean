/- What collecting does to a store's lists. Plain lemmas. -/
import Derived.Test.YtiibgkgbghganaaSvQ
namespace Go.Proofs.Ytiibgkgbghganaa
set_option linter.unusedVariables false
set_option linter.unusedSimpArgs false
namespace Sto
open Vec
def maxC (m c : Col) : Col := ⟨max m.a c.a, max m.b c.b, max m.c c.c⟩
/-- what is kept, the greatest first; has one that is covered been met -/
def kStep (mk : Col) (p : Bool × List Ent) (e : Ent) : Bool × List Ent := if under mk e = true then (if p.1 = true then p else (true, p.2 ++ [e])) else (p.1, p.2 ++ [e])
def kFold (mk : Col) (l : List Ent) : Bool × List Ent := l.foldl (kStep mk) (false, [])
theorem kFold_snoc (mk : Col) (l : List Ent) (e : Ent) : kFold mk (l ++ [e]) = kStep mk (kFold mk l) e := by unfold kFold; rw [List.foldl_append]; rfl
def kept (mk : Col) (es : List Ent) : List Ent := (kFold mk es.reverse).2.reverse
def collectS (mk : Col) (st : List Ls) : List Ls := st.map fun l => ⟨l.k, kept mk l.es⟩
/-- the same, told from the end -/
def kRec (mk : Col) : Bool → List Ent → List Ent
  | _, [] => []
  | f, e :: l => if under mk e = true then (if f = true then kRec mk true l else e :: kRec mk true l) else e :: kRec mk f l
theorem kFold_rec (mk : Col) : ∀ (l : List Ent) (f : Bool) (a : List Ent), (l.foldl (kStep mk) (f, a)).2 = a ++ kRec mk f l
  | [], f, a => by simp [kRec]
  | e :: l, f, a => by
    rw [List.foldl_cons]
    have hs : kStep mk (f, a) e = if under mk e = true then (if f = true then (f, a) else (true, a ++ [e])) else (f, a ++ [e]) := rfl
    rw [hs]
    unfold kRec
    by_cases hu : under mk e = true
    · rw [if_pos hu, if_pos hu]
      by_cases hf : f = true
      · subst hf
        rw [if_pos rfl, if_pos rfl, kFold_rec mk l true a]
      · rw [if_neg hf, if_neg hf, kFold_rec mk l true _, List.append_assoc]
        rfl
    · rw [if_neg hu, if_neg hu, kFold_rec mk l f _, List.append_assoc]
      rfl
theorem kFold_eq (mk : Col) (l : List Ent) : (kFold mk l).2 = kRec mk false l := by unfold kFold; rw [kFold_rec]; rfl
theorem kRec_sub (mk : Col) : ∀ (f : Bool) (l : List Ent), (kRec mk f l).Sublist l
  | _, [] => List.Sublist.refl _
  | f, e :: l => by
    unfold kRec
    split
    · split
      · exact (kRec_sub mk true l).cons e
      · exact (kRec_sub mk true l).cons_cons e
    · exact (kRec_sub mk f l).cons_cons e
theorem kept_sub (mk : Col) (es : List Ent) : (kept mk es).Sublist es := by
  unfold kept
  rw [kFold_eq]
  have := (kRec_sub mk false es.reverse).reverse
  rwa [List.reverse_reverse] at this
theorem kRec_ne (mk : Col) (l : List Ent) (h : l ≠ []) : kRec mk false l ≠ [] := by
  cases l with
  | nil => exact absurd rfl h
  | cons e l =>
    unfold kRec
    split
    · simp
    · simp
theorem kept_ne (mk : Col) {es : List Ent} (h : es ≠ []) : kept mk es ≠ [] := by
  unfold kept
  rw [kFold_eq]
  intro e
  exact kRec_ne mk es.reverse (by simpa using h) (by simpa using e)
theorem kFold_le (mk : Col) (l : List Ent) : (kFold mk l).2.length ≤ l.length := by rw [kFold_eq]; exact (kRec_sub mk false l).length_le
/-- of those that are covered at most one is kept -/
theorem kRec_few (mk : Col) : ∀ (f : Bool) (l : List Ent), ((kRec mk f l).filter (under mk)).length ≤ (if f = true then 0 else 1)
  | f, [] => by simp [kRec]
  | f, e :: l => by
    have h1 := kRec_few mk true l
    have h2 := kRec_few mk f l
    unfold kRec
    by_cases hu : under mk e = true
    · rw [if_pos hu]
      by_cases hf : f = true
      · rw [if_pos hf, if_pos hf]; simpa using h1
      · rw [if_neg hf, if_neg hf, List.filter_cons, if_pos hu, List.length_cons]
        simp only [if_true] at h1
        omega
    · rw [if_neg hu, List.filter_cons, if_neg hu]
      exact h2
theorem kept_few (mk : Col) (es : List Ent) : ((kept mk es).filter (under mk)).length ≤ 1 := by
  unfold kept
  rw [kFold_eq, List.filter_reverse, List.length_reverse]
  exact kRec_few mk false es.reverse
theorem kRec_again (mk : Col) : ∀ (f : Bool) (l : List Ent), kRec mk f (kRec mk f l) = kRec mk f l
  | f, [] => rfl
  | f, e :: l => by
    have h1 := kRec_again mk true l
    have h2 := kRec_again mk f l
    by_cases hu : under mk e = true
    · by_cases hf : f = true
      · subst hf
        have e1 : kRec mk true (e :: l) = kRec mk true l := by conv => lhs; unfold kRec; rw [if_pos hu, if_pos rfl]
        rw [e1, h1]
      · have e1 : kRec mk f (e :: l) = e :: kRec mk true l := by conv => lhs; unfold kRec; rw [if_pos hu, if_neg hf]
        have e2 : kRec mk f (e :: kRec mk true l) = e :: kRec mk true (kRec mk true l) := by conv => lhs; unfold kRec; rw [if_pos hu, if_neg hf]
        rw [e1, e2, h1]
    · have e1 : ∀ l, kRec mk f (e :: l) = e :: kRec mk f l := fun l => by conv => lhs; unfold kRec; rw [if_neg hu]
      rw [e1, e1, h2]
theorem kept_again (mk : Col) (es : List Ent) : kept mk (kept mk es) = kept mk es := by
  unfold kept
  rw [List.reverse_reverse, kFold_eq, kFold_eq, kRec_again]
theorem collect_again (mk : Col) (st : List Ls) : collectS mk (collectS mk st) = collectS mk st := by
  unfold collectS
  rw [List.map_map]
  refine List.map_congr_left fun l _ => ?_
  show Ls.mk l.k (kept mk (kept mk l.es)) = _
  rw [kept_again]
theorem collect_keys (mk : Col) (st : List Ls) : (collectS mk st).map (·.k) = st.map (·.k) := by
  unfold collectS
  rw [List.map_map]
  rfl
theorem collect_sub (mk : Col) : ∀ st : List Ls, (all (collectS mk st)).Sublist (all st)
  | [] => List.Sublist.refl _
  | a :: st => by
    show (kept mk a.es ++ all (collectS mk st)).Sublist (a.es ++ all st)
    exact (kept_sub mk a.es).append (collect_sub mk st)
theorem Good.collect {rng : Int} {st : List Ls} (h : Good rng st) (mk : Col) : Good rng (collectS mk st) := by
  refine ⟨fun l hl => ?_, fun l hl x hx => ?_, fun l hl => ?_, ?_, ?_⟩
  · obtain ⟨l0, hl0, rfl⟩ := List.mem_map.1 hl
    exact kept_ne mk (h.ne l0 hl0)
  · obtain ⟨l0, hl0, rfl⟩ := List.mem_map.1 hl
    exact h.ok l0 hl0 x ((kept_sub mk l0.es).subset hx)
  · obtain ⟨l0, hl0, rfl⟩ := List.mem_map.1 hl
    exact (h.so l0 hl0).sublist (kept_sub mk l0.es)
  · show ((collectS mk st).map (·.k)).Nodup
    rw [collect_keys]; exact h.kd
  · exact h.dd.sublist (collect_sub mk st)
theorem collect_len (mk : Col) (st : List Ls) : lenS (collectS mk st) ≤ lenS st := by
  rw [← all_len, ← all_len]
  exact (collect_sub mk st).length_le
theorem vers_collect (mk : Col) : ∀ (st : List Ls) (k : ByteArray), vers (collectS mk st) k = kept mk (vers st k)
  | [], k => rfl
  | a :: st, k => by
    show vers (⟨a.k, kept mk a.es⟩ :: collectS mk st) k = kept mk (vers (a :: st) k)
    unfold vers
    by_cases h : a.k = k
    · rw [if_pos h, if_pos h]
    · rw [if_neg h, if_neg h, vers_collect mk st k]
theorem maxC_idem (m c : Col) : maxC (maxC m c) c = maxC m c := by
  unfold maxC
  dsimp only
  congr 1 <;> omega
end Sto
end Go.Proofs.Ytiibgkgbghganaa
