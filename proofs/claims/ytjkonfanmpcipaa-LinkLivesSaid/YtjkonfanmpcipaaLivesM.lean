/- Ends whose lives are renewed, in plain lists: what holds behind every act. Plain lemmas. -/
import Derived.Test.YtjkonfanmpcipaaLivesL
import Derived.Test.YtjkonfanmpcipaaOnce
namespace Go.Proofs.Ytjkonfanmpcipaa
open Go.RowKit
set_option linter.unusedVariables false

namespace Link
theorem past_e (s s1 : WS) (i t o : Nat) : (past s s1 i t o).e = s1.e := by unfold past; split <;> rfl
theorem past_pk (s s1 : WS) (i t o : Nat) : (past s s1 i t o).pk = s1.pk := by unfold past; split <;> rfl
theorem past_same2 {s s1 : WS} {i t o : Nat} (h : (s1.e i).life = (s.e i).life) (j t2 o2 : Nat) : past s (past s s1 j t2 o2) i t o = past s s1 j t2 o2 := past_same (by rw [past_e]; exact h)
theorem sendW_life (s : WS) (i j : Nat) (data : List ByteArray) : ((sendW s i data).e j).life = (s.e j).life := by
  unfold sendW upd
  simp only
  split
  · rename_i e; subst e; rfl
  · rfl
theorem lose_life (s : WS) (f k j : Nat) (t : Bool) : ((lose s f k t).e j).life = (s.e j).life := by rw [(lose_es s f k t).1]
theorem gain_other (s : WS) {i j : Nat} (o : Nat) (q : Pk) (h : j ≠ i) : ((gain s i o q).e j).life = (s.e j).life := by
  unfold gain
  simp only
  rw [upd_other _ _ h]
theorem LGood.of0 {s s1 : WS} (h0 : (s1.e 0).life = (s.e 0).life) (h1 : (s1.e 1).life = (s.e 1).life) (h : LGood s1) : LGood (past s (past s s1 0 4 6) 1 5 7) := by
  rw [past_same2 h1, past_same h0]; exact h
theorem LGood.ofA {s s1 : WS} (h1 : (s1.e 1).life = (s.e 1).life) (h : LGood (past s s1 0 4 6)) : LGood (past s (past s s1 0 4 6) 1 5 7) := by
  rw [past_same2 h1]; exact h
theorem LGood.ofB {s s1 : WS} (h0 : (s1.e 0).life = (s.e 0).life) (h : LGood (past s s1 1 5 7)) : LGood (past s (past s s1 0 4 6) 1 5 7) := by
  rw [past_same h0]; exact h
theorem LGood.lives {s : WS} {a : Ac} (h : LGood s) : LGood (livesW s a) := by
  unfold livesW actW
  split
  · exact LGood.ofA rfl (h.renewA a.n)
  split
  · exact LGood.ofB rfl (h.renewB a.n)
  unfold stepW
  split
  · exact LGood.of0 (sendW_life _ _ _ _) (sendW_life _ _ _ _) (h.sendA a.data)
  split
  · exact LGood.of0 (sendW_life _ _ _ _) (sendW_life _ _ _ _) (h.sendB a.data)
  split
  · exact LGood.of0 rfl rfl h.outA
  split
  · exact LGood.of0 rfl rfl h.outB
  split
  · unfold comeW
    split
    · exact LGood.of0 rfl rfl h
    split
    · unfold comeAt
      split
      · exact LGood.of0 rfl rfl h
      · rename_i q hq
        split
        · exact LGood.ofA ((gain_other _ _ _ (by omega)).trans (lose_life _ _ _ _ _)) (h.comeA (List.mem_of_getElem? hq))
        · exact LGood.of0 (lose_life _ _ _ _ _) (lose_life _ _ _ _ _) h.lose
    · unfold comeAt
      split
      · exact LGood.of0 rfl rfl h
      · rename_i q hq
        split
        · exact LGood.ofB ((gain_other _ _ _ (by omega)).trans (lose_life _ _ _ _ _)) (h.comeB (List.mem_of_getElem? hq))
        · exact LGood.of0 (lose_life _ _ _ _ _) (lose_life _ _ _ _ _) h.lose
  · exact LGood.of0 rfl rfl h
/-- a life is never lower -/
theorem gain_life (s : WS) (i j o : Nat) (q : Pk) : (s.e j).life ≤ ((gain s i o q).e j).life := by
  unfold gain upd
  simp only
  split
  · rename_i e
    subst e
    rw [take_one]
    show _ ≤ (stepE (s.e j) q).life
    rw [stepE_life]
    split <;> omega
  · exact Int.le_refl _
theorem renew_life (e : E) (n : Int) : e.life ≤ (renew e n).life := by
  unfold renew
  split
  · show e.life ≤ n; omega
  · exact Int.le_refl _
theorem comeAt_life (s : WS) (a : Ac) (i f o k j : Nat) : (s.e j).life ≤ ((comeAt s a i f o k).e j).life := by
  unfold comeAt
  split
  · exact Int.le_refl _
  · split
    · have := gain_life (lose s f k a.twice) i j o ‹_›; rw [lose_life] at this; exact this
    · rw [lose_life]; exact Int.le_refl _
theorem actW_life (s : WS) (a : Ac) (j : Nat) : (s.e j).life ≤ ((actW s a).e j).life := by
  unfold actW
  split
  · unfold upd; simp only; split
    · rename_i e; subst e; exact renew_life _ _
    · exact Int.le_refl _
  split
  · unfold upd; simp only; split
    · rename_i e; subst e; exact renew_life _ _
    · exact Int.le_refl _
  unfold stepW
  split
  · rw [sendW_life]; exact Int.le_refl _
  split
  · rw [sendW_life]; exact Int.le_refl _
  split
  · exact Int.le_refl _
  split
  · exact Int.le_refl _
  split
  · unfold comeW
    split
    · exact Int.le_refl _
    split
    · exact comeAt_life _ _ _ _ _ _ _
    · exact comeAt_life _ _ _ _ _ _ _
  · exact Int.le_refl _
theorem Bd.renew {s : WS} {N i : Nat} (h : Bd s N) (hi : i < 2) (n : Int) : Bd { s with e := upd s.e i (renew (s.e i) n) } (N + 1) := by
  refine ⟨fun j hj => ?_, fun j h1 h2 => by have := h.fs j h1 h2; show (s.st j).length ≤ _; omega⟩
  unfold upd
  simp only
  split
  · unfold Link.renew
    split
    · exact (Fine.new n).mono (by omega)
    · exact (h.fe i hi).mono (by omega)
  · exact (h.fe j hj).mono (by omega)
theorem Bd.act {s : WS} {N : Nat} {a : Ac} (h : Bd s N) : Bd (actW s a) (N + (1 + a.data.length)) := by
  unfold actW
  split
  · exact (h.renew (by omega) _).mono (by omega)
  split
  · exact (h.renew (by omega) _).mono (by omega)
  exact h.step
theorem Bd.past {s s1 : WS} {N i t o : Nat} (h : Bd s1 N) : Bd (past s s1 i t o) N := by
  unfold Link.past
  split
  · refine ⟨h.fe, fun j h1 h2 => ?_⟩
    unfold upd
    simp only
    split
    · rename_i e; subst e; rw [List.length_drop]; have := h.fs j h1 h2; omega
    · split
      · simp
      · exact h.fs j h1 h2
  · exact h
theorem act_pk {s : WS} {N : Nat} {a : Ac} (h : Bd s N) : ((actW s a).pk 2).length + ((actW s a).pk 3).length ≤ (s.pk 2).length + (s.pk 3).length + 8 := by
  unfold actW
  split
  · show (s.pk 2).length + (s.pk 3).length ≤ _; omega
  split
  · show (s.pk 2).length + (s.pk 3).length ≤ _; omega
  exact step_pk h
theorem LGood.start : LGood ws0 :=
  ⟨fun _ => [], fun _ => [], ⟨rfl, fun _ _ => rfl, rfl, rfl, by simp [ws0], rfl, rfl, by simp [ws0]⟩, ⟨rfl, fun _ _ => rfl, rfl, rfl, by simp [ws0], rfl, rfl, by simp [ws0]⟩⟩
theorem LGood.ab {s : WS} (h : LGood s) (hl : (s.e 0).life = (s.e 1).life) : s.st 7 = (s.st 4).take (s.st 7).length ∧ (s.st 7).length ≤ (s.st 4).length := by
  obtain ⟨SA, SB, h1, h2⟩ := h.out
  refine ⟨h1.begins hl, ?_⟩
  have := h1.gl
  rw [← hl, h1.ls] at this
  exact this
theorem LGood.ba {s : WS} (h : LGood s) (hl : (s.e 0).life = (s.e 1).life) : s.st 6 = (s.st 5).take (s.st 6).length ∧ (s.st 6).length ≤ (s.st 5).length := by
  obtain ⟨SA, SB, h1, h2⟩ := h.out
  refine ⟨h2.begins hl.symm, ?_⟩
  have := h2.gl
  rw [hl, h2.ls] at this
  exact this
/-- what has come is never fewer -/
theorem lose_st (s : WS) (f k j : Nat) (t : Bool) : (lose s f k t).st j = s.st j := by rw [(lose_es s f k t).2]
theorem gain_st (s : WS) (i j o : Nat) (q : Pk) : (s.st j).length ≤ ((gain s i o q).st j).length := by
  unfold gain upd
  simp only
  split
  · rename_i e; subst e; rw [List.length_append]; omega
  · exact Nat.le_refl _
theorem comeAt_st (s : WS) (a : Ac) (i f o k j : Nat) : (s.st j).length ≤ ((comeAt s a i f o k).st j).length := by
  unfold comeAt
  split
  · exact Nat.le_refl _
  · split
    · have := gain_st (lose s f k a.twice) i j o ‹_›; rw [lose_st] at this; exact this
    · rw [lose_st]; exact Nat.le_refl _
theorem sendW_st (s : WS) (i j : Nat) (data : List ByteArray) : (s.st j).length ≤ ((sendW s i data).st j).length := by
  unfold sendW upd
  simp only
  split
  · rename_i e; subst e; rw [List.length_append]; omega
  · exact Nat.le_refl _
theorem act_st (s : WS) (a : Ac) (j : Nat) : (s.st j).length ≤ ((actW s a).st j).length := by
  unfold actW
  split
  · exact Nat.le_refl _
  split
  · exact Nat.le_refl _
  unfold stepW
  split
  · exact sendW_st _ _ _ _
  split
  · exact sendW_st _ _ _ _
  split
  · exact Nat.le_refl _
  split
  · exact Nat.le_refl _
  split
  · unfold comeW
    split
    · exact Nat.le_refl _
    split
    · exact comeAt_st _ _ _ _ _ _ _
    · exact comeAt_st _ _ _ _ _ _ _
  · exact Nat.le_refl _
theorem past_st (s s1 : WS) {i t o j : Nat} (h1 : j ≠ t) (h2 : j ≠ o) : (past s s1 i t o).st j = s1.st j := by
  unfold past
  split
  · show upd (upd s1.st t []) o _ j = _
    rw [upd_other _ _ h2, upd_other _ _ h1]
  · rfl
theorem past_up {s s1 : WS} {i t o : Nat} (h : (s.e i).life < (s1.e i).life) : past s s1 i t o = { s1 with st := upd (upd s1.st t []) o ((s1.st o).drop (s.st o).length) } := if_pos h
theorem act7 {s : WS} {a : Ac} (h : a.kind = 7) : actW s a = { s with e := upd s.e 0 (renew (s.e 0) a.n) } := if_pos h
theorem act8 {s : WS} {a : Ac} (h7 : a.kind ≠ 7) (h : a.kind = 8) : actW s a = { s with e := upd s.e 1 (renew (s.e 1) a.n) } := by unfold actW; rw [if_neg h7, if_pos h]
theorem act0 {s : WS} {a : Ac} (h7 : a.kind ≠ 7) (h : a.kind ≠ 8) : actW s a = stepW s a := by unfold actW; rw [if_neg h7, if_neg h]
end Link
end Go.Proofs.Ytjkonfanmpcipaa
