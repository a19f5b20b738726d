/- When packets come through, both ways, all that was sent has come. Plain lemmas. -/
import Derived.Test.YtjkonfanmpcipaaWorldM
namespace Go.Proofs.Ytjkonfanmpcipaa
open Go.RowKit
set_option linter.unusedVariables false

namespace Link
/-- end i takes packets, what has come is laid by in field o -/
def takeW (s : WS) (i o : Nat) (ps : List Pk) : WS := { s with e := upd s.e i (take (s.e i) ps).1, st := upd s.st o (s.st o ++ (take (s.e i) ps).2) }
def r1 (s : WS) : WS := takeW s 1 7 (out (s.e 0))
def r2 (s : WS) : WS := takeW s 0 6 (out (s.e 1))
theorem stepE_got {y : E} {p : Pk} (h : p.life = y.life) : (stepE y p).got = (if next y p then y.got + 1 else y.got) ∧ (stepE y p).life = y.life := by
  rw [stepE_one h]
  obtain ⟨_, _, e3⟩ := tookE_so (ackE y p.ack) p
  refine ⟨?_, e3.trans (ackE_gl y p.ack).2⟩
  have hg := (ackE_gl y p.ack).1
  unfold tookE next
  rw [hg]
  split <;> simp [hg]
theorem takeTo_pks (life a : Int) : ∀ (l : List ByteArray) (q : Int) (y : E) (o : List ByteArray), y.life = life → q - 1 ≤ y.got → y.got ≤ q - 1 + l.length → (takeTo (pks life a q l) (y, o)).1.got = q - 1 + l.length
  | [], q, y, o, h1, h2, h3 => by simp only [pks, takeTo, List.length_nil] at *; omega
  | s :: l, q, y, o, h1, h2, h3 => by
    obtain ⟨e1, e2⟩ := stepE_got (y := y) (p := ⟨life, q, a, true, s⟩) h1.symm
    simp only [pks, takeTo]
    rw [takeTo_pks life a l (q + 1) _ _ (e2.trans h1)]
    · simp only [List.length_cons]; omega
    · rw [e1]; unfold next; simp only [Bool.true_and, beq_iff_eq]; split <;> omega
    · rw [e1]; unfold next; simp only [Bool.true_and, beq_iff_eq, List.length_cons] at *; split <;> omega
/-- what goes out comes whole -/
theorem D.whole {x y : E} {sent got : List ByteArray} {pk ak : List Pk} (h : D x y sent got pk ak) (hl : x.life = y.life) (o : List ByteArray) : (takeTo (Link.out x) (y, o)).1.got = sent.length := by
  have hs := h.fs
  have hol := h.fl
  have hg := h.fg
  have hgl := h.gl
  have ha := h.fa
  by_cases h0 : x.opn.length = 0
  · rw [show Link.out x = [⟨x.life, 0, x.got, false, ByteArray.empty⟩] from if_pos h0]
    simp only [takeTo]
    obtain ⟨e1, _⟩ := stepE_got (y := y) (p := ⟨x.life, 0, x.got, false, ByteArray.empty⟩) hl
    rw [e1]
    unfold next
    simp only [Bool.false_and, Bool.false_eq_true, if_false]
    omega
  · rw [show Link.out x = pks x.life x.got (x.sent - x.opn.length + 1) x.opn from if_neg h0, takeTo_pks _ _ _ _ _ _ hl.symm (by omega) (by omega)]
    omega
theorem stepE_nil {y : E} {p : Pk} (h : y.opn = []) : (stepE y p).opn = [] := by
  unfold stepE
  split
  · exact h
  · obtain ⟨_, e2, _⟩ := tookE_so (seen y p) p
    rw [e2]
    have hr : (renew y p.life).opn = [] := by unfold renew; split; rfl; exact h
    unfold seen ackE
    split
    · simp [hr]
    · exact hr
theorem takeTo_nil : ∀ (ps : List Pk) (y : E) (o : List ByteArray), y.opn = [] → (takeTo ps (y, o)).1.opn = []
  | [], y, o, h => h
  | p :: ps, y, o, h => takeTo_nil ps _ _ (stepE_nil h)
theorem takeTo_acked {ps : List Pk} {y : E} {o : List ByteArray} (hne : ps ≠ []) (h : ∀ p ∈ ps, p.life = y.life ∧ p.ack = y.sent) (h0 : 0 ≤ y.sent) (hol : (y.opn.length : Int) ≤ y.sent) : (takeTo ps (y, o)).1.opn = [] := by
  match ps, hne with
  | p :: ps, _ =>
    obtain ⟨h1, h2⟩ := h p List.mem_cons_self
    refine takeTo_nil ps _ _ ?_
    rw [stepE_one h1]
    obtain ⟨_, e2, _⟩ := tookE_so (ackE y p.ack) p
    rw [e2, ackE_yes ⟨by omega, by omega⟩]
    simp only
    rw [List.drop_eq_nil_iff]
    omega
theorem out_ne (x : E) : Link.out x ≠ [] := by
  unfold out
  split
  · simp
  · rename_i h
    intro e
    have := congrArg List.length e
    rw [pks_length] at this
    simp only [List.length_nil] at this
    exact h this
theorem takeW_eq (s : WS) (i o : Nat) (ps : List Pk) : takeW s i o ps = { s with e := upd s.e i (takeTo ps (s.e i, s.st o)).1, st := upd s.st o (takeTo ps (s.e i, s.st o)).2 } := by
  unfold takeW; rw [take_eq]
theorem Good.r1 {s : WS} (h : Good s) : Good (r1 s) := by
  have hab := h.ab.out
  have hba := h.ba.outA
  obtain ⟨e1, e2, e3⟩ := D.takes (Link.out (s.e 0)) hba hab (fun p hp => ⟨List.mem_append_right _ hp, (out_mem hp).1.trans (h.la.trans h.lb.symm)⟩)
  unfold Link.r1
  rw [takeW_eq]
  exact ⟨e2.fewer (fun p hp => List.mem_append_left _ hp) (fun p hp => hp), e1.fewer (fun p hp => hp) (fun p hp => List.mem_append_left _ hp), h.la, e3.trans h.lb, h.l2, h.l3⟩
theorem Good.r2 {s : WS} (h : Good s) : Good (r2 s) := by
  have hab := h.ab.outA
  have hba := h.ba.out
  obtain ⟨e1, e2, e3⟩ := D.takes (Link.out (s.e 1)) hab hba (fun p hp => ⟨List.mem_append_right _ hp, (out_mem hp).1.trans (h.lb.trans h.la.symm)⟩)
  unfold Link.r2
  rw [takeW_eq]
  exact ⟨e1.fewer (fun p hp => hp) (fun p hp => List.mem_append_left _ hp), e2.fewer (fun p hp => List.mem_append_left _ hp) (fun p hp => hp), e3.trans h.la, h.lb, h.l2, h.l3⟩
/-- all has come one way -/
theorem D.all {x y : E} {sent got : List ByteArray} {pk ak : List Pk} (h : D x y sent got pk ak) (hg : y.got = sent.length) : got = sent := by
  have h1 := h.fg
  have h2 : got.length = sent.length := by omega
  have h3 := h.pre
  rw [h2, List.take_length] at h3
  exact h3
theorem got_r1 {s : WS} (h : Good s) : ((r1 s).e 1).got = (s.st 4).length := by
  unfold r1
  rw [takeW_eq]
  exact h.ab.whole (h.la.trans h.lb.symm) _
theorem got_r2 {s : WS} (h : Good s) : ((r2 s).e 0).got = (s.st 5).length := by
  unfold r2
  rw [takeW_eq]
  exact h.ba.whole (h.lb.trans h.la.symm) _
theorem opn_r2 {s : WS} (h : Good s) (hg : (s.e 1).got = (s.st 4).length) : ((r2 s).e 0).opn = [] := by
  unfold r2
  rw [takeW_eq]
  have hs := h.ab.fs
  have hl := h.ab.fl
  exact takeTo_acked (out_ne _) (fun p hp => ⟨(out_mem hp).1.trans (h.lb.trans h.la.symm), by rw [(out_mem hp).2.1, hg, hs]⟩) (by omega) (by omega)
theorem opn_r1 {s : WS} (h : Good s) (hg : (s.e 0).got = (s.st 5).length) : ((r1 s).e 1).opn = [] := by
  unfold r1
  rw [takeW_eq]
  have hs := h.ba.fs
  have hl := h.ba.fl
  exact takeTo_acked (out_ne _) (fun p hp => ⟨(out_mem hp).1.trans (h.la.trans h.lb.symm), by rw [(out_mem hp).2.1, hg, hs]⟩) (by omega) (by omega)
def rr (s : WS) : WS := r2 (r1 s)
theorem Good.rr {s : WS} (h : Good s) : Good (rr s) := h.r1.r2
theorem r1_st (s : WS) : (r1 s).st 4 = s.st 4 ∧ (r1 s).st 5 = s.st 5 ∧ (r1 s).e 0 = s.e 0 := ⟨rfl, rfl, rfl⟩
theorem r2_st (s : WS) : (r2 s).st 4 = s.st 4 ∧ (r2 s).st 5 = s.st 5 ∧ (r2 s).e 1 = s.e 1 := ⟨rfl, rfl, rfl⟩
theorem ends1 {X : WS} (h : Good X) (ha : (X.e 0).got = (X.st 5).length) : (rr X).st 7 = (rr X).st 4 ∧ (rr X).st 6 = (rr X).st 5 ∧ ((rr X).e 0).opn = [] ∧ ((rr X).e 1).opn = [] := by
  have h3 := h.r1
  have h4 := h3.r2
  have hb := got_r1 h
  have ha3 := got_r2 h3
  have ho := opn_r1 h ha
  obtain ⟨a1, a2, a3⟩ := r1_st X
  obtain ⟨b1, b2, b3⟩ := r2_st (r1 X)
  unfold rr
  refine ⟨h4.ab.all ?_, h4.ba.all ?_, opn_r2 h3 ?_, ?_⟩
  · rw [b3, b1, a1]; exact hb
  · rw [ha3, b2]
  · rw [hb, a1]
  · rw [b3]; exact ho
theorem got_rr {s : WS} (h : Good s) : ((rr s).e 0).got = ((rr s).st 5).length := by
  have h1 := got_r2 h.r1
  obtain ⟨b1, b2, b3⟩ := r2_st (r1 s)
  unfold rr
  rw [h1, b2]
/-- behind three rounds -/
theorem ends {s : WS} (h : Good s) : (rr (rr (rr s))).st 7 = (rr (rr (rr s))).st 4 ∧ (rr (rr (rr s))).st 6 = (rr (rr (rr s))).st 5 ∧ ((rr (rr (rr s))).e 0).opn = [] ∧ ((rr (rr (rr s))).e 1).opn = [] :=
  ends1 h.rr.rr (got_rr h.rr)
theorem takeW_fine {s : WS} {N : Nat} (h : Bd s N) (i o : Nat) (ps : List Pk) (hi : i < 2) (ho : 4 ≤ o ∧ o < 8) : Bd (takeW s i o ps) (N + ps.length) := by
  refine ⟨fun j hj => ?_, fun j h1 h2 => ?_⟩
  · unfold takeW upd
    simp only
    split
    · exact (h.fe i hi).take ps
    · exact (h.fe j hj).mono (by omega)
  · unfold takeW upd
    simp only
    split
    · have h3 := h.fs o ho.1 ho.2
      have h4 := take_len (s.e i) ps
      rw [List.length_append]
      omega
    · have := h.fs j h1 h2; omega
theorem Bd.rr {s : WS} {N : Nat} (h : Bd s N) : Bd (r1 s) (N + 8) ∧ Bd (rr s) (N + 16) := by
  have h1 : Bd (r1 s) (N + 8) := (takeW_fine h 1 7 _ (by omega) (by omega)).mono (by have := out_len (s.e 0) (h.fe 0 (by omega)).o8; omega)
  exact ⟨h1, (takeW_fine h1 0 6 _ (by omega) (by omega)).mono (by have := out_len ((r1 s).e 1) (h1.fe 1 (by omega)).o8; omega)⟩
end Link
end Go.Proofs.Ytjkonfanmpcipaa
