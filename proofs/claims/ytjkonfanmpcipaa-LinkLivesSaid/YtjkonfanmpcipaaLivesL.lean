/- Ends whose lives are renewed, in plain lists: within a life what has come is what was sent, from the first piece on. Plain lemmas (begun). -/
import Derived.Test.YtjkonfanmpcipaaWorldM
namespace Go.Proofs.Ytjkonfanmpcipaa
open Go.RowKit
set_option linter.unusedVariables false

namespace Link
/-- of one direction, over all lives: SA says what x sent in each life -/
structure LD (SA : Int → List ByteArray) (x y : E) (sent got : List ByteArray) (pk : List Pk) : Prop where
  ls : SA x.life = sent
  hi : ∀ L, x.life < L → SA L = []
  fs : x.sent = sent.length
  fo : x.opn = sent.drop (sent.length - x.opn.length)
  fl : x.opn.length ≤ sent.length
  fg : y.got = got.length
  pre : got = (SA y.life).take got.length
  fp : ∀ p ∈ pk, p.life ≤ x.life ∧ (p.has = true → 1 ≤ p.seq ∧ (SA p.life)[(p.seq - 1).toNat]? = some p.data)
section
variable {SA : Int → List ByteArray} {x y x' y' : E} {sent got : List ByteArray} {pk pk' : List Pk}
theorem LD.fewer (h : LD SA x y sent got pk) (h1 : ∀ p ∈ pk', p ∈ pk) : LD SA x y sent got pk' := ⟨h.ls, h.hi, h.fs, h.fo, h.fl, h.fg, h.pre, fun p hp => h.fp p (h1 p hp)⟩
/-- the sender renews -/
theorem LD.renewX (h : LD SA x y sent got pk) {L : Int} (hL : x.life < L) : LD SA ⟨L, 0, 0, []⟩ y [] got pk :=
  ⟨h.hi L hL, fun M hM => h.hi M (by simp only at hM; omega), rfl, rfl, by simp, h.fg, h.pre, fun p hp => ⟨by have := (h.fp p hp).1; simp only; omega, (h.fp p hp).2⟩⟩
/-- the receiver renews -/
theorem LD.renewY (h : LD SA x y sent got pk) (L : Int) : LD SA x ⟨L, 0, 0, []⟩ sent [] pk :=
  ⟨h.ls, h.hi, h.fs, h.fo, h.fl, rfl, by simp, h.fp⟩
/-- within one life the prefix holds -/
theorem LD.begins (h : LD SA x y sent got pk) (hl : x.life = y.life) : got = sent.take got.length := by
  have := h.pre
  rw [← hl, h.ls] at this
  exact this
theorem LD.out_ok (h : LD SA x y sent got pk) {p : Pk} (hp : p ∈ Link.out x) : p.life ≤ x.life ∧ (p.has = true → 1 ≤ p.seq ∧ (SA p.life)[(p.seq - 1).toNat]? = some p.data) := by
  obtain ⟨h1, _, h3⟩ := out_mem hp
  refine ⟨by omega, fun hh => ?_⟩
  obtain ⟨j, h4, h5⟩ := h3 hh
  have hs := h.fs
  have hol := h.fl
  rw [h.fo, List.getElem?_drop] at h5
  refine ⟨by omega, ?_⟩
  rw [h1, h.ls, ← h5]
  congr 1
  omega
theorem LD.out (h : LD SA x y sent got pk) : LD SA x y sent got (pk ++ Link.out x) :=
  ⟨h.ls, h.hi, h.fs, h.fo, h.fl, h.fg, h.pre, fun p hp => (List.mem_append.1 hp).elim (h.fp p) h.out_ok⟩
theorem LD.other (h : LD SA x y sent got pk) (hx : x'.sent = x.sent ∧ x'.opn = x.opn ∧ x'.life = x.life) (hy : y'.got = y.got ∧ y'.life = y.life) : LD SA x' y' sent got pk :=
  ⟨by rw [hx.2.2]; exact h.ls, fun L hL => h.hi L (by rw [← hx.2.2]; exact hL), by rw [hx.1]; exact h.fs, by rw [hx.2.1]; exact h.fo, by rw [hx.2.1]; exact h.fl, by rw [hy.1]; exact h.fg, by rw [hy.2]; exact h.pre, fun p hp => by rw [hx.2.2]; exact h.fp p hp⟩
/-- the receiver takes a packet of its own life -/
theorem LD.took (h : LD SA x y sent got pk) {p : Pk} (hl : p.life = y.life) (hp : p.has = true → 1 ≤ p.seq ∧ (SA p.life)[(p.seq - 1).toNat]? = some p.data) : LD SA x (tookE y p) sent (tookO y p got) pk := by
  unfold tookE tookO
  split
  · rename_i hn
    unfold next at hn
    rw [Bool.and_eq_true, beq_iff_eq] at hn
    obtain ⟨h1, h2⟩ := hp hn.1
    have hg := h.fg
    have hk : (p.seq - 1).toNat = got.length := by omega
    rw [hk, hl] at h2
    refine ⟨h.ls, h.hi, h.fs, h.fo, h.fl, by simp only [List.length_append, List.length_singleton]; omega, ?_, h.fp⟩
    simp only [List.length_append, List.length_singleton]
    rw [List.take_add_one, h2, ← h.pre]; rfl
  · exact h
theorem LD.acked (h : LD SA x y sent got pk) (a : Int) : LD SA (ackE x a) y sent got pk := by
  by_cases hc : 0 ≤ a ∧ a ≤ x.sent
  · rw [ackE_yes hc]
    have hol := h.fl
    have hs := h.fs
    refine ⟨h.ls, h.hi, h.fs, ?_, ?_, h.fg, h.pre, h.fp⟩
    · have ho := h.fo
      simp only [List.length_drop]
      obtain ⟨m, hm⟩ : ∃ m, x.opn.length = m := ⟨_, rfl⟩
      rw [hm] at ho hol ⊢
      rw [ho, List.drop_drop]
      congr 1
      omega
    · simp only [List.length_drop]; omega
  · rw [ackE_no hc]; exact h
/-- what was sent in a life, with more -/
def updL (SA : Int → List ByteArray) (L : Int) (l : List ByteArray) : Int → List ByteArray := fun M => if M = L then l else SA M
theorem LD.gl (h : LD SA x y sent got pk) : got.length ≤ (SA y.life).length := by
  have := congrArg List.length h.pre
  rw [List.length_take] at this
  omega
theorem LD.send (h : LD SA x y sent got pk) (data : List ByteArray) (n : Nat) (hn : n ≤ data.length) : LD (updL SA x.life (sent ++ data.take n)) (sendTo x data n) y (sent ++ data.take n) got pk := by
  have hol := h.fl
  have hgl := h.gl
  have hl : (data.take n).length = n := by rw [List.length_take]; omega
  have hxl : (sendTo x data n).opn.length = x.opn.length + n := by simp only [sendTo, List.length_append, hl]
  refine ⟨if_pos rfl, fun L hL => ?_, ?_, ?_, ?_, h.fg, ?_, fun p hp => ⟨(h.fp p hp).1, fun hh => ?_⟩⟩
  · have hL' : x.life < L := hL
    unfold updL; rw [if_neg (by omega)]; exact h.hi L hL'
  · simp only [sendTo, List.length_append, hl, h.fs]; omega
  · rw [hxl, List.length_append, hl, show sent.length + n - (x.opn.length + n) = sent.length - x.opn.length by omega, List.drop_append_of_le_length (by omega), ← h.fo]; rfl
  · rw [hxl, List.length_append, hl]; omega
  · unfold updL
    split
    · rename_i e
      have hp := h.pre
      rw [e, h.ls] at hp
      rw [e, h.ls] at hgl
      rw [List.take_append_of_le_length hgl]
      exact hp
    · exact h.pre
  · obtain ⟨h1, h2⟩ := (h.fp p hp).2 hh
    refine ⟨h1, ?_⟩
    unfold updL
    split
    · rename_i e
      rw [e, h.ls] at h2
      rw [List.getElem?_append_left (List.getElem?_eq_some_iff.1 h2).1]; exact h2
    · exact h2
end
/-- an end takes a packet, whatever their lives -/
theorem LD.take {SA SB : Int → List ByteArray} {a b : E} {sa ga sb gb : List ByteArray} {tb ta : List Pk} {p : Pk} (h1 : LD SA a b sa gb tb) (h2 : LD SB b a sb ga ta) (hp : p ∈ ta) :
    LD SA (stepE a p) b (if a.life < p.life then [] else sa) gb tb ∧ LD SB b (stepE a p) sb (stepO a p (if a.life < p.life then [] else ga)) ta := by
  have key : ∀ {x : E} {sx gx : List ByteArray}, LD SA x b sx gb tb → LD SB b x sb gx ta → p.life = x.life →
      LD SA (tookE (ackE x p.ack) p) b sx gb tb ∧ LD SB b (tookE (ackE x p.ack) p) sb (tookO (ackE x p.ack) p gx) ta := fun {x sx gx} k1 k2 hl => by
    obtain ⟨e1, e2, e3⟩ := tookE_so (ackE x p.ack) p
    obtain ⟨f1, f2⟩ := ackE_gl x p.ack
    refine ⟨(k1.acked p.ack).other ⟨e1, e2, e3⟩ ⟨rfl, rfl⟩, ?_⟩
    exact (k2.other ⟨rfl, rfl, rfl⟩ ⟨f1, f2⟩).took (by rw [f2]; exact hl) (h2.fp p hp).2
  by_cases hlt : p.life < a.life
  · rw [stepE_less hlt, stepO_less hlt, if_neg (by omega), if_neg (by omega)]
    exact ⟨h1, h2⟩
  · rw [stepE_not hlt, stepO_not hlt]
    unfold seen
    by_cases hgt : a.life < p.life
    · rw [if_pos hgt, if_pos hgt, renew_yes hgt]
      exact key (h1.renewX hgt) (h2.renewY p.life) rfl
    · rw [if_neg hgt, if_neg hgt, renew_no hgt]
      exact key h1 h2 (by omega)
/-- what is past is laid aside, where an end's life has gone up -/
def past (s s1 : WS) (i t o : Nat) : WS := if (s.e i).life < (s1.e i).life then { s1 with st := upd (upd s1.st t []) o ((s1.st o).drop (s.st o).length) } else s1
def actW (s : WS) (a : Ac) : WS := if a.kind = 7 then { s with e := upd s.e 0 (renew (s.e 0) a.n) } else if a.kind = 8 then { s with e := upd s.e 1 (renew (s.e 1) a.n) } else stepW s a
def livesW (s : WS) (a : Ac) : WS := past s (past s (actW s a) 0 4 6) 1 5 7
structure LGood (s : WS) : Prop where
  out : ∃ SA SB, LD SA (s.e 0) (s.e 1) (s.st 4) (s.st 7) (s.pk 3) ∧ LD SB (s.e 1) (s.e 0) (s.st 5) (s.st 6) (s.pk 2)
theorem past_same {s s1 : WS} {i t o : Nat} (h : (s1.e i).life = (s.e i).life) : past s s1 i t o = s1 := if_neg (by omega)
theorem LGood.sendA {s : WS} (h : LGood s) (data : List ByteArray) : LGood (sendW s 0 data) := by
  obtain ⟨SA, SB, h1, h2⟩ := h.out
  exact ⟨_, SB, h1.send data _ (sendK_le _ _), h2.other ⟨rfl, rfl, rfl⟩ ⟨rfl, rfl⟩⟩
theorem LGood.sendB {s : WS} (h : LGood s) (data : List ByteArray) : LGood (sendW s 1 data) := by
  obtain ⟨SA, SB, h1, h2⟩ := h.out
  exact ⟨SA, _, h1.other ⟨rfl, rfl, rfl⟩ ⟨rfl, rfl⟩, h2.send data _ (sendK_le _ _)⟩
theorem LGood.outA {s : WS} (h : LGood s) : LGood (outW s 0) := by
  obtain ⟨SA, SB, h1, h2⟩ := h.out
  exact ⟨SA, SB, h1.out, h2⟩
theorem LGood.outB {s : WS} (h : LGood s) : LGood (outW s 1) := by
  obtain ⟨SA, SB, h1, h2⟩ := h.out
  exact ⟨SA, SB, h1, h2.out⟩
theorem LGood.lose {s : WS} {f k : Nat} {t : Bool} (h : LGood s) : LGood (lose s f k t) := by
  obtain ⟨SA, SB, h1, h2⟩ := h.out
  obtain ⟨e1, e2⟩ := lose_es s f k t
  exact ⟨SA, SB, by rw [e1, e2]; exact h1.fewer (lose_mem 3), by rw [e1, e2]; exact h2.fewer (lose_mem 2)⟩
theorem stepE_life (e : E) (q : Pk) : (stepE e q).life = if e.life < q.life then q.life else e.life := by
  by_cases hlt : q.life < e.life
  · rw [stepE_less hlt, if_neg (by omega)]
  · rw [stepE_not hlt]
    obtain ⟨_, _, e3⟩ := tookE_so (seen e q) q
    rw [e3]
    unfold seen
    rw [(ackE_gl _ _).2]
    unfold renew
    split <;> rfl
theorem LGood.comeA {s : WS} {k : Nat} {t : Bool} {q : Pk} (h : LGood s) (hq : q ∈ s.pk 2) : LGood (past s (gain (Link.lose s 2 k t) 0 6 q) 0 4 6) := by
  obtain ⟨SA, SB, h1, h2⟩ := h.out
  obtain ⟨e1, e2⟩ := lose_es s 2 k t
  obtain ⟨t1, t2⟩ := h1.take h2 hq
  have he : (gain (Link.lose s 2 k t) 0 6 q).e = upd s.e 0 (stepE (s.e 0) q) := by unfold gain; rw [e1, take_one]
  have hs : (gain (Link.lose s 2 k t) 0 6 q).st = upd s.st 6 (s.st 6 ++ stepO (s.e 0) q []) := by unfold gain; rw [e1, e2, take_one]
  have hp : (gain (Link.lose s 2 k t) 0 6 q).pk = (Link.lose s 2 k t).pk := rfl
  have hlf := stepE_life (s.e 0) q
  by_cases hlt : (s.e 0).life < q.life
  · rw [if_pos hlt] at t1 t2 hlf
    have hps : past s (gain (Link.lose s 2 k t) 0 6 q) 0 4 6 = { gain (Link.lose s 2 k t) 0 6 q with st := upd (upd (gain (Link.lose s 2 k t) 0 6 q).st 4 []) 6 (((gain (Link.lose s 2 k t) 0 6 q).st 6).drop (s.st 6).length) } := if_pos (by rw [he]; show _ < (stepE (s.e 0) q).life; rw [hlf]; exact hlt)
    rw [hps]
    have h6 : ((gain (Link.lose s 2 k t) 0 6 q).st 6).drop (s.st 6).length = stepO (s.e 0) q [] := by rw [hs]; show (s.st 6 ++ stepO (s.e 0) q []).drop _ = _; rw [List.drop_left]
    refine ⟨SA, SB, ?_, ?_⟩
    · simp only [he, hs, hp]; exact t1.fewer (lose_mem 3)
    · simp only [h6]; rw [hs, he, hp]; exact t2.fewer (lose_mem 2)
  · rw [if_neg hlt] at t1 t2 hlf
    rw [past_same (by rw [he]; exact hlf)]
    refine ⟨SA, SB, ?_, ?_⟩
    · rw [he, hs, hp]; exact t1.fewer (lose_mem 3)
    · rw [he, hs, hp]
      have h6 := stepO_app (s.e 0) q (s.st 6)
      show LD SB (s.e 1) (stepE (s.e 0) q) (s.st 5) (s.st 6 ++ stepO (s.e 0) q []) _
      rw [h6]
      exact t2.fewer (lose_mem 2)
theorem LGood.comeB {s : WS} {k : Nat} {t : Bool} {q : Pk} (h : LGood s) (hq : q ∈ s.pk 3) : LGood (past s (gain (Link.lose s 3 k t) 1 7 q) 1 5 7) := by
  obtain ⟨SA, SB, h1, h2⟩ := h.out
  obtain ⟨e1, e2⟩ := lose_es s 3 k t
  obtain ⟨t1, t2⟩ := h2.take h1 hq
  have he : (gain (Link.lose s 3 k t) 1 7 q).e = upd s.e 1 (stepE (s.e 1) q) := by unfold gain; rw [e1, take_one]
  have hs : (gain (Link.lose s 3 k t) 1 7 q).st = upd s.st 7 (s.st 7 ++ stepO (s.e 1) q []) := by unfold gain; rw [e1, e2, take_one]
  have hp : (gain (Link.lose s 3 k t) 1 7 q).pk = (Link.lose s 3 k t).pk := rfl
  have hlf := stepE_life (s.e 1) q
  by_cases hlt : (s.e 1).life < q.life
  · rw [if_pos hlt] at t1 t2 hlf
    have hps : past s (gain (Link.lose s 3 k t) 1 7 q) 1 5 7 = { gain (Link.lose s 3 k t) 1 7 q with st := upd (upd (gain (Link.lose s 3 k t) 1 7 q).st 5 []) 7 (((gain (Link.lose s 3 k t) 1 7 q).st 7).drop (s.st 7).length) } := if_pos (by rw [he]; show _ < (stepE (s.e 1) q).life; rw [hlf]; exact hlt)
    rw [hps]
    have h6 : ((gain (Link.lose s 3 k t) 1 7 q).st 7).drop (s.st 7).length = stepO (s.e 1) q [] := by rw [hs]; show (s.st 7 ++ stepO (s.e 1) q []).drop _ = _; rw [List.drop_left]
    refine ⟨SA, SB, ?b, ?a⟩
    case a => simp only [he, hs, hp]; exact t1.fewer (lose_mem 2)
    case b => simp only [h6]; rw [hs, he, hp]; exact t2.fewer (lose_mem 3)
  · rw [if_neg hlt] at t1 t2 hlf
    rw [past_same (by rw [he]; exact hlf)]
    refine ⟨SA, SB, ?b, ?a⟩
    case a => rw [he, hs, hp]; exact t1.fewer (lose_mem 2)
    case b =>
      rw [he, hs, hp]
      have h6 := stepO_app (s.e 1) q (s.st 7)
      show LD SA (s.e 0) (stepE (s.e 1) q) (s.st 4) (s.st 7 ++ stepO (s.e 1) q []) _
      rw [h6]
      exact t2.fewer (lose_mem 3)
theorem LGood.renewA {s : WS} (h : LGood s) (n : Int) : LGood (past s { s with e := upd s.e 0 (renew (s.e 0) n) } 0 4 6) := by
  obtain ⟨SA, SB, h1, h2⟩ := h.out
  by_cases hlt : (s.e 0).life < n
  · rw [renew_yes hlt]
    have hps : past s { s with e := upd s.e 0 ⟨n, 0, 0, []⟩ } 0 4 6 = { s with e := upd s.e 0 ⟨n, 0, 0, []⟩, st := upd (upd s.st 4 []) 6 ((s.st 6).drop (s.st 6).length) } := if_pos hlt
    rw [hps, List.drop_length]
    exact ⟨SA, SB, h1.renewX hlt, h2.renewY n⟩
  · rw [renew_no hlt, past_same (s := s) (s1 := { s with e := upd s.e 0 (s.e 0) }) (by rfl)]
    exact ⟨SA, SB, h1, h2⟩
theorem LGood.renewB {s : WS} (h : LGood s) (n : Int) : LGood (past s { s with e := upd s.e 1 (renew (s.e 1) n) } 1 5 7) := by
  obtain ⟨SA, SB, h1, h2⟩ := h.out
  by_cases hlt : (s.e 1).life < n
  · rw [renew_yes hlt]
    have hps : past s { s with e := upd s.e 1 ⟨n, 0, 0, []⟩ } 1 5 7 = { s with e := upd s.e 1 ⟨n, 0, 0, []⟩, st := upd (upd s.st 5 []) 7 ((s.st 7).drop (s.st 7).length) } := if_pos hlt
    rw [hps, List.drop_length]
    exact ⟨SA, SB, h1.renewY n, h2.renewX hlt⟩
  · rw [renew_no hlt, past_same (s := s) (s1 := { s with e := upd s.e 1 (s.e 1) }) (by rfl)]
    exact ⟨SA, SB, h1, h2⟩
end Link
end Go.Proofs.Ytjkonfanmpcipaa
