/- An end of a link, in plain lists: what Take does, and that its numbers stay small. Plain lemmas. -/
import Derived.Test.YtjkonfanmpcipaaLink3
namespace Go.Proofs.Ytjkonfanmpcipaa
open Go.RowKit
set_option linter.unusedVariables false

namespace Link
/-- what is known to have come is open no more -/
def ackE (e : E) (a : Int) : E := if 0 ≤ a ∧ a ≤ e.sent then ⟨e.life, e.sent, e.got, e.opn.drop (a - (e.sent - e.opn.length)).toNat⟩ else e
def seen (e : E) (p : Pk) : E := ackE (renew e p.life) p.ack
def stepE (e : E) (p : Pk) : E := if p.life < e.life then e else tookE (seen e p) p
def stepO (e : E) (p : Pk) (outs : List ByteArray) : List ByteArray := if p.life < e.life then outs else tookO (seen e p) p outs
def takeTo : List Pk → E × List ByteArray → E × List ByteArray
  | [], s => s
  | p :: ps, s => takeTo ps (stepE s.1 p, stepO s.1 p s.2)
def take (e : E) (ps : List Pk) : E × List ByteArray := takeTo ps (e, [])
theorem takeTo_snoc (p : Pk) : ∀ (ps : List Pk) (s : E × List ByteArray), takeTo (ps ++ [p]) s = (stepE (takeTo ps s).1 p, stepO (takeTo ps s).1 p (takeTo ps s).2)
  | [], s => rfl
  | q :: ps, s => takeTo_snoc p ps _
theorem take_snoc (e : E) (ps : List Pk) (p : Pk) : take e (ps ++ [p]) = (stepE (take e ps).1 p, stepO (take e ps).1 p (take e ps).2) := takeTo_snoc p ps _
theorem stepE_less {e : E} {p : Pk} (h : p.life < e.life) : stepE e p = e := if_pos h
theorem stepO_less {e : E} {p : Pk} {o : List ByteArray} (h : p.life < e.life) : stepO e p o = o := if_pos h
theorem stepE_not {e : E} {p : Pk} (h : ¬ p.life < e.life) : stepE e p = tookE (seen e p) p := if_neg h
theorem stepO_not {e : E} {p : Pk} {o : List ByteArray} (h : ¬ p.life < e.life) : stepO e p o = tookO (seen e p) p o := if_neg h
theorem ackE_yes {e : E} {a : Int} (h : 0 ≤ a ∧ a ≤ e.sent) : ackE e a = ⟨e.life, e.sent, e.got, e.opn.drop (a - (e.sent - e.opn.length)).toNat⟩ := if_pos h
theorem ackE_no {e : E} {a : Int} (h : ¬ (0 ≤ a ∧ a ≤ e.sent)) : ackE e a = e := if_neg h

/-- an end's numbers are small -/
structure Fine (N : Int) (e : E) : Prop where
  s0 : 0 ≤ e.sent
  sN : e.sent ≤ N
  g0 : 0 ≤ e.got
  gN : e.got ≤ N
  o8 : e.opn.length ≤ 8
  os : (e.opn.length : Int) ≤ e.sent
section
variable {N M : Int} {e : E}
theorem Fine.new (life : Int) : Fine 0 ⟨life, 0, 0, []⟩ := ⟨by simp, by simp, by simp, by simp, by simp, by simp⟩
theorem Fine.mono (h : Fine N e) (hN : N ≤ M) : Fine M e := ⟨h.s0, Int.le_trans h.sN hN, h.g0, Int.le_trans h.gN hN, h.o8, h.os⟩
theorem Fine.renew (h : Fine N e) (l : Int) : Fine N (renew e l) := by
  unfold Link.renew
  split
  · have := h.s0; have := h.sN; exact ⟨by simp, by simp; omega, by simp, by simp; omega, by simp, by simp⟩
  · exact h
theorem Fine.ack (h : Fine N e) (a : Int) : Fine N (ackE e a) := by
  unfold ackE
  split
  · have := h.o8; have := h.os
    exact ⟨h.s0, h.sN, h.g0, h.gN, by simp only [List.length_drop]; omega, by simp only [List.length_drop]; omega⟩
  · exact h
theorem Fine.took (h : Fine N e) (p : Pk) : Fine (N + 1) (tookE e p) := by
  have := h.g0; have := h.gN; have := h.sN
  unfold tookE
  split
  · exact ⟨h.s0, by simp only; omega, by simp only; omega, by simp only; omega, h.o8, h.os⟩
  · exact h.mono (by omega)
theorem Fine.step (h : Fine N e) (p : Pk) : Fine (N + 1) (stepE e p) := by
  unfold stepE
  split
  · exact h.mono (by omega)
  · exact ((h.renew _).ack _).took p
theorem Fine.takeTo : ∀ (ps : List Pk) {N : Int} {s : E × List ByteArray}, Fine N s.1 → Fine (N + ps.length) (takeTo ps s).1
  | [], N, s, h => by simpa [Link.takeTo] using h
  | p :: ps, N, s, h => by
    have := Fine.takeTo ps (s := (stepE s.1 p, stepO s.1 p s.2)) (h.step p)
    simp only [List.length_cons, Link.takeTo]
    exact this.mono (by omega)
theorem Fine.take (h : Fine N e) (ps : List Pk) : Fine (N + ps.length) (Link.take e ps).1 := Fine.takeTo ps h
theorem Fine.sendTo (h : Fine N e) (data : List ByteArray) (k : Nat) (h8 : e.opn.length + k ≤ 8) : Fine (N + k) (sendTo e data k) := by
  have := h.s0; have := h.sN; have := h.gN; have := h.os
  have hl : (data.take k).length ≤ k := List.length_take_le _ _
  exact ⟨by simp [Link.sendTo]; omega, by simp [Link.sendTo]; omega, h.g0, by simp [Link.sendTo]; omega, by simp only [Link.sendTo, List.length_append]; omega, by simp only [Link.sendTo, List.length_append]; omega⟩
theorem Fine.send (h : Fine N e) (data : List ByteArray) : Fine (N + data.length) (Link.sendTo e data (sendK e data)) := by
  have := h.o8
  exact (h.sendTo data (sendK e data) (by unfold sendK; omega)).mono (by unfold sendK; omega)
end
theorem stepO_len (e : E) (p : Pk) (o : List ByteArray) : (stepO e p o).length ≤ o.length + 1 := by
  unfold stepO tookO
  split
  · omega
  · split
    · simp
    · omega
theorem takeTo_len : ∀ (ps : List Pk) (s : E × List ByteArray), (takeTo ps s).2.length ≤ s.2.length + ps.length
  | [], s => by simp [takeTo]
  | p :: ps, s => by
    have := takeTo_len ps (stepE s.1 p, stepO s.1 p s.2)
    have := stepO_len s.1 p s.2
    simp only [List.length_cons, takeTo] at *
    omega
theorem take_len (e : E) (ps : List Pk) : (take e ps).2.length ≤ ps.length := by have := takeTo_len ps (e, []); simpa [take] using this
end Link
end Go.Proofs.Ytjkonfanmpcipaa
