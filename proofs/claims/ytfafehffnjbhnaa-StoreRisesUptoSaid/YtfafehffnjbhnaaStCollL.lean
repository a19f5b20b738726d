/- Collecting keeps a key's latest, and what is as of a column that covers the mark. Plain lemmas. -/
import Derived.Test.YtfafehffnjbhnaaStMade
namespace Go.Proofs.Ytfafehffnjbhnaa
set_option linter.unusedVariables false
set_option linter.unusedSimpArgs false
namespace Sto
open Vec
theorem kRec_find (mk : Col) {p : Ent → Bool} (hp : ∀ x, under mk x = true → p x = true) : ∀ l : List Ent, (kRec mk false l).find? p = l.find? p
  | [] => rfl
  | x :: l => by
    unfold kRec
    by_cases hu : under mk x = true
    · rw [if_pos hu, if_neg (by simp), List.find?_cons, List.find?_cons, hp x hu]
    · rw [if_neg hu, List.find?_cons, List.find?_cons, kRec_find mk hp l]
theorem kept_rev (mk : Col) (es : List Ent) : (kept mk es).reverse = kRec mk false es.reverse := by unfold kept; rw [List.reverse_reverse, kFold_eq]
theorem last_find (es : List Ent) : last es = match es.reverse.find? (fun _ => true) with
    | some e => (e, true)
    | none => (ent0, false) := by
  unfold last
  rw [List.getLast?_eq_head?_reverse]
  cases es.reverse with
  | nil => rfl
  | cons a l => rfl
theorem latest_collect (mk : Col) (st : List Ls) (k : ByteArray) : latest (collectS mk st) k = latest st k := by
  unfold latest
  rw [vers_collect, last_find, last_find, kept_rev, kRec_find mk (fun _ _ => rfl)]
theorem coversC_iff {x y : Col} : coversC x y = true ↔ y.a ≤ x.a ∧ y.b ≤ x.b ∧ y.c ≤ x.c := by unfold coversC; simp
theorem under_mono {c mk : Col} (h : coversC c mk = true) (x : Ent) (hu : under mk x = true) : under c x = true := by
  rw [coversC_iff] at h
  unfold under at hu ⊢
  rw [decide_eq_true_eq] at hu ⊢
  refine Int.le_trans hu ?_
  unfold Col.at
  split
  · exact h.1
  · exact h.2.1
  · exact h.2.2
theorem covers_max {t m c : Col} (h : coversC t (maxC m c) = true) : coversC t m = true := by
  rw [coversC_iff] at h ⊢
  unfold maxC at h
  dsimp only at h
  omega
theorem asOf_collect {m c t : Col} (st : List Ls) (k : ByteArray) (h : coversC t (maxC m c) = true) : asOf (collectS (maxC m c) st) (maxC m c) k t = asOf st m k t := by
  unfold asOf
  rw [if_pos h, if_pos (covers_max h), vers_collect, kept_rev]
  unfold asOfL
  rw [kRec_find _ (under_mono h)]
theorem asOf_gone {m t : Col} (st : List Ls) (k : ByteArray) (h : coversC t m = false) : asOf st m k t = ⟨ent0, false, 60⟩ := by
  unfold asOf
  rw [if_neg (by simp [h])]
end Sto
end Go.Proofs.Ytfafehffnjbhnaa
