/- The world in plain lists: what holds behind every act. Plain lemmas. -/
import Derived.Test.YtjkonfanmpcipaaWorld2
import Derived.Test.YtjkonfanmpcipaaWorldL
namespace Go.Proofs.Ytjkonfanmpcipaa
open Go.RowKit
set_option linter.unusedVariables false

namespace Link
/-- the numbers are small -/
structure Bd (s : WS) (N : Nat) : Prop where
  fe : ∀ i, i < 2 → Fine N (s.e i)
  fs : ∀ i, 4 ≤ i → i < 8 → (s.st i).length ≤ N
theorem Bd.mono {s : WS} {N M : Nat} (h : Bd s N) (hN : N ≤ M) : Bd s M := ⟨fun i hi => (h.fe i hi).mono (by omega), fun i h1 h2 => Nat.le_trans (h.fs i h1 h2) hN⟩
theorem Bd.lose {s : WS} {N f k : Nat} {t : Bool} (h : Bd s N) : Bd (lose s f k t) N := by
  obtain ⟨h1, h2⟩ := lose_es s f k t
  exact ⟨fun i hi => by rw [h1]; exact h.fe i hi, fun i h3 h4 => by rw [h2]; exact h.fs i h3 h4⟩
theorem Bd.gain {s : WS} {N i o : Nat} {q : Pk} (h : Bd s N) (hi : i < 2) (ho : 4 ≤ o ∧ o < 8) : Bd (gain s i o q) (N + 1) := by
  refine ⟨fun j hj => ?_, fun j h1 h2 => ?_⟩
  · unfold Link.gain upd
    simp only
    split
    · have := (h.fe i hi).take [q]
      simpa using this
    · exact (h.fe j hj).mono (by omega)
  · unfold Link.gain upd
    simp only
    split
    · have h3 := h.fs o ho.1 ho.2
      have h4 := take_len (s.e i) [q]
      rw [List.length_append]
      simp only [List.length_singleton] at h4
      omega
    · have := h.fs j h1 h2; omega
theorem Bd.comeAt {s : WS} {N i f o k : Nat} {a : Ac} (h : Bd s N) (hi : i < 2) (ho : 4 ≤ o ∧ o < 8) : Bd (comeAt s a i f o k) (N + 1) := by
  unfold Link.comeAt
  split
  · exact h.mono (by omega)
  · split
    · exact h.lose.gain hi ho
    · exact h.lose.mono (by omega)
theorem Bd.come {s : WS} {N : Nat} {a : Ac} (h : Bd s N) : Bd (comeW s a) (N + 1) := by
  unfold Link.comeW
  split
  · exact h.mono (by omega)
  · split
    · exact h.comeAt (by omega) (by omega)
    · exact h.comeAt (by omega) (by omega)
theorem Bd.sendW {s : WS} {N i : Nat} {data : List ByteArray} (h : Bd s N) (hi : i < 2) : Bd (sendW s i data) (N + data.length) := by
  refine ⟨fun j hj => ?_, fun j h1 h2 => ?_⟩
  · unfold Link.sendW upd
    simp only
    split
    · exact (h.fe i hi).send data
    · exact (h.fe j hj).mono (by omega)
  · unfold Link.sendW upd
    simp only
    split
    · have := h.fs (4 + i) (by omega) (by omega)
      rw [List.length_append, List.length_take]
      omega
    · have := h.fs j h1 h2; omega
theorem Bd.step {s : WS} {N : Nat} {a : Ac} (h : Bd s N) : Bd (stepW s a) (N + (1 + a.data.length)) := by
  unfold stepW
  split
  · exact (h.sendW (by omega)).mono (by omega)
  split
  · exact (h.sendW (by omega)).mono (by omega)
  split
  · exact ⟨fun i hi => (h.fe i hi).mono (by omega), fun i h1 h2 => by have := h.fs i h1 h2; show (s.st i).length ≤ _; omega⟩
  split
  · exact ⟨fun i hi => (h.fe i hi).mono (by omega), fun i h1 h2 => by have := h.fs i h1 h2; show (s.st i).length ≤ _; omega⟩
  split
  · exact h.come.mono (by omega)
  · exact h.mono (by omega)

/-- what holds between two ends of one life -/
structure Good (s : WS) : Prop where
  ab : D (s.e 0) (s.e 1) (s.st 4) (s.st 7) (s.pk 3) (s.pk 2)
  ba : D (s.e 1) (s.e 0) (s.st 5) (s.st 6) (s.pk 2) (s.pk 3)
  la : (s.e 0).life = 1
  lb : (s.e 1).life = 1
  l2 : ∀ p ∈ s.pk 2, p.life = 1
  l3 : ∀ p ∈ s.pk 3, p.life = 1
theorem take_one (e : E) (q : Pk) : take e [q] = (stepE e q, stepO e q []) := rfl
theorem stepO_app (e : E) (q : Pk) (l : List ByteArray) : l ++ stepO e q [] = stepO e q l := by
  unfold stepO tookO
  split
  · simp
  · split <;> simp
theorem lose_mem {s : WS} {f k : Nat} {t : Bool} (i : Nat) : ∀ p ∈ (lose s f k t).pk i, p ∈ s.pk i := by
  intro p hp
  unfold lose at hp
  split at hp
  · exact hp
  · unfold upd at hp
    simp only at hp
    split at hp
    · rename_i e
      subst e
      rcases List.mem_append.1 hp with h | h
      · exact List.mem_of_mem_take h
      · exact List.mem_of_mem_drop h
    · exact hp
theorem Good.lose {s : WS} {f k : Nat} {t : Bool} (h : Good s) : Good (lose s f k t) := by
  obtain ⟨h1, h2⟩ := lose_es s f k t
  refine ⟨?_, ?_, by rw [h1]; exact h.la, by rw [h1]; exact h.lb, fun p hp => h.l2 p (lose_mem 2 p hp), fun p hp => h.l3 p (lose_mem 3 p hp)⟩
  · rw [h1, h2]; exact h.ab.fewer (lose_mem 3) (lose_mem 2)
  · rw [h1, h2]; exact h.ba.fewer (lose_mem 2) (lose_mem 3)
theorem Good.comeA {s : WS} {k : Nat} {t : Bool} {q : Pk} (h : Good s) (hq : q ∈ s.pk 2) : Good (gain (Link.lose s 2 k t) 0 6 q) := by
  have hl := h.lose (f := 2) (k := k) (t := t)
  obtain ⟨h1, h2⟩ := lose_es s 2 k t
  have hlq := h.l2 q hq
  obtain ⟨e1, e2, e3⟩ := h.ab.take h.ba hq (by rw [hlq, h.la])
  have he : (gain (Link.lose s 2 k t) 0 6 q).e = upd s.e 0 (stepE (s.e 0) q) := by unfold gain; rw [h1, take_one]
  have hs : (gain (Link.lose s 2 k t) 0 6 q).st = upd s.st 6 (stepO (s.e 0) q (s.st 6)) := by unfold gain; rw [h1, h2, take_one, stepO_app]
  have hp : (gain (Link.lose s 2 k t) 0 6 q).pk = (Link.lose s 2 k t).pk := rfl
  refine ⟨?_, ?_, ?_, ?_, ?_, ?_⟩
  · rw [he, hs, hp]; exact e1.fewer (lose_mem 3) (lose_mem 2)
  · rw [he, hs, hp]; exact e2.fewer (lose_mem 2) (lose_mem 3)
  · rw [he]; exact e3.trans h.la
  · rw [he]; exact h.lb
  · rw [hp]; exact hl.l2
  · rw [hp]; exact hl.l3
theorem Good.comeB {s : WS} {k : Nat} {t : Bool} {q : Pk} (h : Good s) (hq : q ∈ s.pk 3) : Good (gain (Link.lose s 3 k t) 1 7 q) := by
  have hl := h.lose (f := 3) (k := k) (t := t)
  obtain ⟨h1, h2⟩ := lose_es s 3 k t
  have hlq := h.l3 q hq
  obtain ⟨e1, e2, e3⟩ := h.ba.take h.ab hq (by rw [hlq, h.lb])
  have he : (gain (Link.lose s 3 k t) 1 7 q).e = upd s.e 1 (stepE (s.e 1) q) := by unfold gain; rw [h1, take_one]
  have hs : (gain (Link.lose s 3 k t) 1 7 q).st = upd s.st 7 (stepO (s.e 1) q (s.st 7)) := by unfold gain; rw [h1, h2, take_one, stepO_app]
  have hp : (gain (Link.lose s 3 k t) 1 7 q).pk = (Link.lose s 3 k t).pk := rfl
  refine ⟨?_, ?_, ?_, ?_, ?_, ?_⟩
  · rw [he, hs, hp]; exact e2.fewer (lose_mem 3) (lose_mem 2)
  · rw [he, hs, hp]; exact e1.fewer (lose_mem 2) (lose_mem 3)
  · rw [he]; exact h.la
  · rw [he]; exact e3.trans h.lb
  · rw [hp]; exact hl.l2
  · rw [hp]; exact hl.l3
theorem sendK_le (e : E) (data : List ByteArray) : sendK e data ≤ data.length := Nat.min_le_left _ _
theorem Good.step {s : WS} {a : Ac} (h : Good s) : Good (stepW s a) := by
  unfold stepW
  split
  · exact ⟨h.ab.send a.data _ (sendK_le _ _), h.ba.other ⟨rfl, rfl⟩ rfl, h.la, h.lb, h.l2, h.l3⟩
  split
  · exact ⟨h.ab.other ⟨rfl, rfl⟩ rfl, h.ba.send a.data _ (sendK_le _ _), h.la, h.lb, h.l2, h.l3⟩
  split
  · exact ⟨h.ab.out, h.ba.outA, h.la, h.lb, h.l2, fun p hp => (List.mem_append.1 hp).elim (h.l3 p) (fun hp => (out_mem hp).1.trans h.la)⟩
  split
  · exact ⟨h.ab.outA, h.ba.out, h.la, h.lb, fun p hp => (List.mem_append.1 hp).elim (h.l2 p) (fun hp => (out_mem hp).1.trans h.lb), h.l3⟩
  split
  · unfold comeW
    split
    · exact h
    split
    · unfold comeAt
      split
      · exact h
      · rename_i q hq
        split
        · exact h.comeA (List.mem_of_getElem? hq)
        · exact h.lose
    · unfold comeAt
      split
      · exact h
      · rename_i q hq
        split
        · exact h.comeB (List.mem_of_getElem? hq)
        · exact h.lose
  · exact h
def ws0 : WS := ⟨fun _ => ⟨1, 0, 0, []⟩, fun _ => [], fun _ => []⟩
theorem Good.start : Good ws0 :=
  ⟨⟨rfl, rfl, by simp [ws0], rfl, rfl, by simp [ws0], by simp [ws0], by simp [ws0]⟩, ⟨rfl, rfl, by simp [ws0], rfl, rfl, by simp [ws0], by simp [ws0], by simp [ws0]⟩, rfl, rfl, by simp [ws0], by simp [ws0]⟩
theorem Bd.start : Bd ws0 0 := ⟨fun _ _ => Fine.new 1, fun _ _ _ => by simp [ws0]⟩
end Link
end Go.Proofs.Ytjkonfanmpcipaa
