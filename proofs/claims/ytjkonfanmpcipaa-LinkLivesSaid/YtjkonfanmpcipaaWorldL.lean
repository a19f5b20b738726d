/- The sliding window, in plain lists: what has come at one end is what the other one sent, from the first piece on. Plain lemmas. -/
import Derived.Test.YtjkonfanmpcipaaLink4
namespace Go.Proofs.Ytjkonfanmpcipaa
open Go.RowKit
set_option linter.unusedVariables false

namespace Link
/-- of one direction: x sends, y gets; what was sent, what has come; the packets from x to y, those from y to x -/
structure D (x y : E) (sent got : List ByteArray) (pk ak : List Pk) : Prop where
  fs : x.sent = sent.length
  fo : x.opn = sent.drop (sent.length - x.opn.length)
  fl : x.opn.length ≤ sent.length
  fg : y.got = got.length
  pre : got = sent.take got.length
  fa : sent.length - x.opn.length ≤ got.length
  fp : ∀ p ∈ pk, p.has = true → 1 ≤ p.seq ∧ sent[(p.seq - 1).toNat]? = some p.data
  fk : ∀ p ∈ ak, p.ack ≤ got.length
section
variable {x y x' y' : E} {sent got : List ByteArray} {pk ak pk' ak' : List Pk}
theorem D.gl (h : D x y sent got pk ak) : got.length ≤ sent.length := by
  have := congrArg List.length h.pre
  rw [List.length_take] at this
  omega
theorem D.other (h : D x y sent got pk ak) (hx : x'.sent = x.sent ∧ x'.opn = x.opn) (hy : y'.got = y.got) : D x' y' sent got pk ak :=
  ⟨by rw [hx.1]; exact h.fs, by rw [hx.2]; exact h.fo, by rw [hx.2]; exact h.fl, by rw [hy]; exact h.fg, h.pre, by rw [hx.2]; exact h.fa, h.fp, h.fk⟩
theorem D.fewer (h : D x y sent got pk ak) (h1 : ∀ p ∈ pk', p ∈ pk) (h2 : ∀ p ∈ ak', p ∈ ak) : D x y sent got pk' ak' :=
  ⟨h.fs, h.fo, h.fl, h.fg, h.pre, h.fa, fun p hp => h.fp p (h1 p hp), fun p hp => h.fk p (h2 p hp)⟩
theorem D.send (h : D x y sent got pk ak) (data : List ByteArray) (n : Nat) (hn : n ≤ data.length) : D (sendTo x data n) y (sent ++ data.take n) got pk ak := by
  have hol := h.fl
  have hgl := h.gl
  have hl : (data.take n).length = n := by rw [List.length_take]; omega
  have hxl : (sendTo x data n).opn.length = x.opn.length + n := by simp only [sendTo, List.length_append, hl]
  refine ⟨?_, ?_, ?_, h.fg, ?_, ?_, ?_, h.fk⟩
  · simp only [sendTo, List.length_append, hl, h.fs]; omega
  · rw [hxl, List.length_append, hl, show sent.length + n - (x.opn.length + n) = sent.length - x.opn.length by omega, List.drop_append_of_le_length (by omega), ← h.fo]; rfl
  · rw [hxl, List.length_append, hl]; omega
  · rw [List.take_append_of_le_length hgl]; exact h.pre
  · rw [hxl, List.length_append, hl]; have := h.fa; omega
  · intro p hp hh
    obtain ⟨h1, h2⟩ := h.fp p hp hh
    exact ⟨h1, by rw [List.getElem?_append_left (List.getElem?_eq_some_iff.1 h2).1]; exact h2⟩
theorem pks_get2 (life got : Int) : ∀ (l : List ByteArray) (q : Int) (p : Pk), p ∈ pks life got q l → p.life = life ∧ p.ack = got ∧ ∃ j : Nat, p.seq = q + j ∧ l[j]? = some p.data
  | [], q, p, h => by simp [pks] at h
  | s :: l, q, p, h => by
    rcases List.mem_cons.1 (by simpa [pks] using h) with rfl | h
    · exact ⟨rfl, rfl, 0, by simp, by simp⟩
    · obtain ⟨h1, h2, j, h3, h4⟩ := pks_get2 life got l (q + 1) p h
      exact ⟨h1, h2, j + 1, by rw [h3]; omega, by simpa using h4⟩
theorem out_mem {p : Pk} (hp : p ∈ out x) : p.life = x.life ∧ p.ack = x.got ∧ (p.has = true → ∃ j : Nat, p.seq = x.sent - x.opn.length + 1 + j ∧ x.opn[j]? = some p.data) := by
  unfold out at hp
  split at hp
  · rw [List.mem_singleton] at hp
    subst hp
    exact ⟨rfl, rfl, fun h => by cases h⟩
  · obtain ⟨h1, h2, h3⟩ := pks_get2 _ _ _ _ _ hp
    exact ⟨h1, h2, fun _ => h3⟩
theorem D.out_ok (h : D x y sent got pk ak) {p : Pk} (hp : p ∈ Link.out x) : p.has = true → 1 ≤ p.seq ∧ sent[(p.seq - 1).toNat]? = some p.data := by
  intro hh
  obtain ⟨_, _, h3⟩ := out_mem hp
  obtain ⟨j, h4, h5⟩ := h3 hh
  have hs := h.fs
  have hol := h.fl
  rw [h.fo, List.getElem?_drop] at h5
  refine ⟨by omega, ?_⟩
  rw [← h5]
  congr 1
  omega
theorem D.out (h : D x y sent got pk ak) : D x y sent got (pk ++ Link.out x) ak :=
  ⟨h.fs, h.fo, h.fl, h.fg, h.pre, h.fa, fun p hp => (List.mem_append.1 hp).elim (h.fp p) (h.out_ok), h.fk⟩
theorem D.outA (h : D x y sent got pk ak) : D x y sent got pk (ak ++ Link.out y) :=
  ⟨h.fs, h.fo, h.fl, h.fg, h.pre, h.fa, h.fp, fun p hp => (List.mem_append.1 hp).elim (h.fk p) (fun hp => by rw [(out_mem hp).2.1, h.fg]; exact Int.le_refl _)⟩
theorem D.acked (h : D x y sent got pk ak) {p : Pk} (hp : p ∈ ak) : D (ackE x p.ack) y sent got pk ak := by
  have ha := h.fk p hp
  have hol := h.fl
  have hs := h.fs
  have hgl := h.gl
  have hac := h.fa
  by_cases hc : 0 ≤ p.ack ∧ p.ack ≤ x.sent
  · rw [ackE_yes hc]
    refine ⟨h.fs, ?_, ?_, h.fg, h.pre, ?_, h.fp, h.fk⟩
    · have ho := h.fo
      simp only [List.length_drop]
      obtain ⟨m, hm⟩ : ∃ m, x.opn.length = m := ⟨_, rfl⟩
      rw [hm] at ho hol hac ⊢
      rw [ho, List.drop_drop]
      congr 1
      omega
    · simp only [List.length_drop]; omega
    · simp only [List.length_drop]; omega
  · rw [ackE_no hc]; exact h
theorem D.took (h : D x y sent got pk ak) {p : Pk} (hp : p.has = true → 1 ≤ p.seq ∧ sent[(p.seq - 1).toNat]? = some p.data) : D x (tookE y p) sent (tookO y p got) pk ak := by
  unfold tookE tookO
  split
  · rename_i hn
    unfold next at hn
    rw [Bool.and_eq_true, beq_iff_eq] at hn
    obtain ⟨h1, h2⟩ := hp hn.1
    have hg := h.fg
    have hk : (p.seq - 1).toNat = got.length := by omega
    rw [hk] at h2
    refine ⟨h.fs, h.fo, h.fl, by simp only [List.length_append, List.length_singleton]; omega, ?_, by have := h.fa; simp only [List.length_append, List.length_singleton]; omega, h.fp, fun q hq => by have := h.fk q hq; simp only [List.length_append, List.length_singleton]; omega⟩
    rw [List.length_append, List.length_singleton, List.take_add_one, h2, ← h.pre]; rfl
  · exact h
end
/-- lives -/
theorem stepE_one {x : E} {p : Pk} (h : p.life = x.life) : stepE x p = tookE (ackE x p.ack) p := by
  rw [stepE_not (by omega)]; unfold seen; rw [renew_no (by omega)]
theorem stepO_one {x : E} {p : Pk} {o : List ByteArray} (h : p.life = x.life) : stepO x p o = tookO (ackE x p.ack) p o := by
  rw [stepO_not (by omega)]; unfold seen; rw [renew_no (by omega)]
theorem tookE_so (x : E) (p : Pk) : (tookE x p).sent = x.sent ∧ (tookE x p).opn = x.opn ∧ (tookE x p).life = x.life := by unfold tookE; split <;> exact ⟨rfl, rfl, rfl⟩
theorem ackE_gl (x : E) (a : Int) : (ackE x a).got = x.got ∧ (ackE x a).life = x.life := by unfold ackE; split <;> exact ⟨rfl, rfl⟩
theorem tookO_app (x : E) (p : Pk) (l : List ByteArray) : tookO x p l = l ++ tookO x p [] := by unfold tookO; split <;> simp
theorem tookO_got {x y : E} (p : Pk) (l : List ByteArray) (h : x.got = y.got) : tookO x p l = tookO y p l := by unfold tookO next; rw [h]
theorem tookE_got {x y : E} (p : Pk) (h : x.got = y.got) : (tookE x p).got = (tookE y p).got := by unfold tookE next; rw [h]; split <;> simp [h]
/-- both directions: an end x takes a packet from y -/
theorem D.take {x y : E} {sx gx sy gy : List ByteArray} {pk ak : List Pk} (h1 : D x y sx gy pk ak) (h2 : D y x sy gx ak pk) {p : Pk} (hp : p ∈ ak) (hl : p.life = x.life) :
    D (stepE x p) y sx gy pk ak ∧ D y (stepE x p) sy (stepO x p gx) ak pk ∧ (stepE x p).life = x.life := by
  rw [stepE_one hl, stepO_one hl]
  obtain ⟨e1, e2, e3⟩ := tookE_so (ackE x p.ack) p
  refine ⟨(h1.acked hp).other ⟨e1, e2⟩ rfl, ?_, by rw [e3]; exact (ackE_gl x p.ack).2⟩
  have h3 := h2.took (p := p) (h2.fp p hp)
  rw [tookO_got p gx (show (ackE x p.ack).got = x.got from (ackE_gl x p.ack).1)]
  exact h3.other ⟨rfl, rfl⟩ (tookE_got p (ackE_gl x p.ack).1)
theorem takeTo_app (l : List ByteArray) : ∀ (ps : List Pk) (e : E) (o : List ByteArray), takeTo ps (e, l ++ o) = ((takeTo ps (e, o)).1, l ++ (takeTo ps (e, o)).2)
  | [], e, o => rfl
  | p :: ps, e, o => by
    have hs : stepO e p (l ++ o) = l ++ stepO e p o := by
      unfold stepO
      split
      · rfl
      · unfold tookO; split <;> simp
    simp only [takeTo]
    rw [hs, takeTo_app l ps]
/-- an end takes packets -/
theorem D.takes {y : E} {sx sy : List ByteArray} {pk ak : List Pk} : ∀ (ps : List Pk) {x : E} {gx gy : List ByteArray}, D x y sx gy pk ak → D y x sy gx ak pk → (∀ p ∈ ps, p ∈ ak ∧ p.life = x.life) →
    D (takeTo ps (x, gx)).1 y sx gy pk ak ∧ D y (takeTo ps (x, gx)).1 sy (takeTo ps (x, gx)).2 ak pk ∧ (takeTo ps (x, gx)).1.life = x.life
  | [], x, gx, gy, h1, h2, _ => ⟨h1, h2, rfl⟩
  | p :: ps, x, gx, gy, h1, h2, h => by
    obtain ⟨h3, h4, h5⟩ := h1.take h2 (h p List.mem_cons_self).1 (h p List.mem_cons_self).2
    obtain ⟨h6, h7, h8⟩ := D.takes ps h3 h4 (fun q hq => ⟨(h q (List.mem_cons_of_mem _ hq)).1, by rw [h5]; exact (h q (List.mem_cons_of_mem _ hq)).2⟩)
    exact ⟨h6, h7, by simp only [takeTo]; rw [h8, h5]⟩
theorem take_eq (x : E) (ps : List Pk) (g : List ByteArray) : takeTo ps (x, g) = ((Link.take x ps).1, g ++ (Link.take x ps).2) := by
  have := takeTo_app g ps x []
  simpa [Link.take] using this
end Link
end Go.Proofs.Ytjkonfanmpcipaa
