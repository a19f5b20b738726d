/- The walk of an end's Take. No conditions but that numbers fit and that what is handed lies apart from the end. -/
import Derived.Test.YtjkonfanmpcipaaLink4
import Derived.Test.YtjkonfanmpcipaaStill
import Derived.StillTailTactics
import Derived.WalkMore
import Derived.IntWalk
import Derived.Outline
namespace Go.Proofs.Ytjkonfanmpcipaa
open Go.RowKit
set_option linter.unusedVariables false

namespace Mem
/-- a slice of the call's own from its k-th element on, as the model cuts it -/
theorem Own.cut {w : World} {e : TypeId} {n c k : Nat} {A : Option Addr} {xs : List Value} (h : Own w e 1 A n c xs) (hk : k ≤ n) :
    Own w e 1 (if c = k then A else A.map (·.add k)) (n - k) (c - k) (xs.drop k) ∧ blk (if c = k then A else A.map (·.add k)) = blk A := by
  have hl := h.le
  rcases h.2 with ⟨rfl, rfl, rfl⟩ | ⟨g, o, cur, rfl, hrest⟩
  · obtain rfl : k = 0 := by omega
    simpa using h
  · by_cases hc : c = k
    · rw [if_pos hc]
      refine ⟨?_, rfl⟩
      have h0 := h.drop hk
      obtain ⟨h1, h2⟩ := h0
      refine ⟨by simpa using h1, .inr ⟨g, o, cur, rfl, hrest.1, by omega, by omega, by have := hrest.2.2.2.1; omega, fun j u hu => ?_⟩⟩
      have : xs.drop k = [] := by rw [List.drop_eq_nil_iff]; have := h.1; omega
      rw [this] at hu
      simp at hu
    · rw [if_neg hc]
      simp only [Option.map_some, add_flat]
      exact ⟨by simpa using h.drop hk, rfl⟩
end Mem
namespace Link
theorem pk_elem {w : World} {B : Nat} {A : Option Addr} {l : List Pk} (h : Mem.Rd w B A (l.flatMap pkCells)) {k : Nat} (hk : k < l.length) :
    ∃ b o p, A = some ⟨b, o, none⟩ ∧ b < B ∧ l[k]? = some p ∧ w.cell? ⟨b, o + k * 5, none⟩ = some (.int .i64 p.life) ∧ w.cell? ⟨b, o + k * 5 + 1, none⟩ = some (.int .i64 p.seq) ∧ w.cell? ⟨b, o + k * 5 + 2, none⟩ = some (.int .i64 p.ack) ∧
      w.cell? ⟨b, o + k * 5 + 3, none⟩ = some (.bool p.has) ∧ w.cell? ⟨b, o + k * 5 + 4, none⟩ = some (.string p.data) := by
  obtain ⟨b, o, e, hb, hc⟩ := Mem.Rd.elem pkCells_length h hk (by omega)
  exact ⟨b, o, l[k], e, hb, List.getElem?_eq_getElem hk, by simpa using hc 0 _ rfl, by simpa [Nat.add_assoc] using hc 1 _ rfl, by simpa [Nat.add_assoc] using hc 2 _ rfl, by simpa [Nat.add_assoc] using hc 3 _ rfl, by simpa [Nat.add_assoc] using hc 4 _ rfl⟩
def TakeRel (w : World) (g : Nat) (A : Option Addr) (e : E) (ps : List Pk) (vi : Value) (wr : World) : Prop :=
  ∃ (k : Nat) (A' O : Option Addr) (c' oc : Nat) (s : E × List ByteArray), k ≤ ps.length ∧ vi = .int .i64 k ∧ Hid (take e (ps.take k) = s) ∧ Hid (At wr g A' c' s.1) ∧ Hid (OutBox wr (w.heap.size + 1) O oc s.2) ∧ Hid (wr.cell? ⟨w.heap.size, 0, none⟩ = some (.pointer (some ⟨g, 0, none⟩))) ∧
    Hid (Mem.Keeps (fun q => q = g) w wr) ∧ Hid (Mem.blk A' = Mem.blk A ∨ Mem.blk A' = none) ∧ Hid (Mem.From (w.heap.size + 2) O) ∧ Hid (w.heap.size + 2 ≤ wr.heap.size)
/-- Take's end -/
def TakeEnd (w : World) (g : Nat) (A : Option Addr) (e : E) (ps : List Pk) (x : Ending) (w' : World) : Prop :=
  ∃ A' O c' oc, x = .returned (.slice O (take e ps).2.length oc) ∧ At w' g A' c' (take e ps).1 ∧ Mem.Own w' 9 1 O (take e ps).2.length oc ((take e ps).2.map strV) ∧ Mem.From w.heap.size O ∧ Mem.Keeps (fun q => q = g) w w' ∧ (Mem.blk A' = Mem.blk A ∨ Mem.blk A' = none)
/-- what stands at a world within the loop, behind k packets -/
structure Stands (w : World) (g : Nat) (A : Option Addr) (wr : World) (A' O : Option Addr) (c' oc : Nat) (e : E) (outs : List ByteArray) : Prop where
  en : At wr g A' c' e
  ob : OutBox wr (w.heap.size + 1) O oc outs
  be : wr.cell? ⟨w.heap.size, 0, none⟩ = some (.pointer (some ⟨g, 0, none⟩))
  kp : Mem.Keeps (fun q => q = g) w wr
  mv : Mem.blk A' = Mem.blk A ∨ Mem.blk A' = none
  fr : Mem.From (w.heap.size + 2) O
  sz : w.heap.size + 2 ≤ wr.heap.size
theorem Stands.step {w wr w' : World} {g : Nat} {A A' O : Option Addr} {c' oc : Nat} {e : E} {outs : List ByteArray} (h : Stands w g A wr A' O c' oc e outs) (hg : g < w.heap.size) (k : Mem.Keeps (fun _ => False) wr w') : Stands w g A w' A' O c' oc e outs :=
  ⟨h.en.keeps k (fun h => h) (fun _ _ h => h), ⟨h.ob.box.keeps k (fun _ _ h => h), h.ob.row.keeps k (fun _ _ h => h), h.ob.ne⟩,
    (k.cell (p := ⟨w.heap.size, 0, none⟩) (by have := h.sz; show w.heap.size < _; omega) (fun h => h)).trans h.be, h.kp.trans k (fun _ h _ => h.elim), h.mv, h.fr, Nat.le_trans h.sz k.size⟩
/-- behind Renew -/
theorem Stands.renew {w wr w' : World} {g : Nat} {A A' A2 O : Option Addr} {c' c2 oc : Nat} {e e2 : E} {outs : List ByteArray} (h : Stands w g A wr A' O c' oc e outs) (hg : g < w.heap.size)
    (h2 : At w' g A2 c2 e2) (k : Mem.Keeps (fun q => q = g) wr w') (hm : Mem.blk A2 = Mem.blk A' ∨ Mem.blk A2 = none) : Stands w g A w' A2 O c2 oc e2 outs := by
  have hsz := h.sz
  refine ⟨h2, ⟨h.ob.box.keeps k (fun q hq e => by cases hq; simp only at e; omega), h.ob.row.keeps k (fun q hq e => ?_), h.ob.ne⟩, (k.cell (p := ⟨w.heap.size, 0, none⟩) (by show w.heap.size < _; omega) (fun e => by simp only at e; omega)).trans h.be, h.kp.trans k (fun _ h _ => h), ?_, h.fr, Nat.le_trans h.sz k.size⟩
  · have := h.fr.blk q hq; subst e; omega
  · rcases hm with h1 | h1
    · rcases h.mv with h2 | h2
      · exact .inl (h1.trans h2)
      · exact .inr (h1.trans h2)
    · exact .inr h1
theorem Stands.apart {w wr : World} {g : Nat} {A A' O : Option Addr} {c' oc : Nat} {e : E} {outs : List ByteArray} (h : Stands w g A wr A' O c' oc e outs) (hg : g < w.heap.size) (hA : ∀ k, Mem.blk A = some k → k < w.heap.size) : Apart g (w.heap.size + 1) A' O := by
  have hA' : ∀ k, Mem.blk A' = some k → k < w.heap.size := fun k hk => by
    rcases h.mv with h | h
    · exact hA k (h ▸ hk)
    · rw [h] at hk; cases hk
  refine ⟨by omega, ?_, fun e => by have := hA' _ e; omega, fun e => by have := h.fr.blk _ e; omega⟩
  cases hb : Mem.blk A' with
  | none => exact .inl rfl
  | some q =>
    refine .inr fun e => ?_
    have := hA' q hb
    have := h.fr.blk q e.symm
    omega
/-- behind Take's closure -/
theorem Stands.took {w wr w' : World} {g : Nat} {A A' O : Option Addr} {c' oc : Nat} {e : E} {outs : List ByteArray} {p : Pk} {x : Ending} (h : Stands w g A wr A' O c' oc e outs) (hg : g < w.heap.size)
    (ht : TookEnd wr g (w.heap.size + 1) A' c' O e outs p x w') : x = .returned (.tuple #[]) ∧ ∃ O' oc', Stands w g A w' A' O' c' oc' (tookE e p) (tookO e p outs) := by
  obtain ⟨O', oc', rfl, h1, h2, h3, h4⟩ := ht
  have hsz := h.sz
  have hO : ∀ k, Mem.blk O = some k → w.heap.size + 2 ≤ k := h.fr.blk
  refine ⟨rfl, O', oc', h1, h2, (h3.cell (p := ⟨w.heap.size, 0, none⟩) (by show w.heap.size < _; omega) ?_).trans h.be, h.kp.trans h3 ?_, h.mv, ?_, Nat.le_trans h.sz h3.size⟩
  · rintro (e | e | e)
    · simp only at e; omega
    · simp only at e; omega
    · have := hO _ e; simp only at this; omega
  · rintro i (e | e | e) hi
    · exact e
    · omega
    · have := hO _ e; omega
  · intro ad he
    rcases h4 with h4 | h4
    · refine hO _ ?_
      rw [← h4, he]; rfl
    · exact Nat.le_trans hsz (h4 ad he)
/-- the open pieces cut -/
theorem Stands.cut {w wr : World} {g : Nat} {A A' O : Option Addr} {c' oc kk : Nat} {e : E} {outs : List ByteArray} (h : Stands w g A wr A' O c' oc e outs) (hg : g < w.heap.size) (hk : kk ≤ e.opn.length) :
    Stands w g A (wr.setCell ⟨g, 3, none⟩ (.slice (if c' = kk then A' else A'.map (·.add kk)) (e.opn.length - kk) (c' - kk))) (if c' = kk then A' else A'.map (·.add kk)) O (c' - kk) oc ⟨e.life, e.sent, e.got, e.opn.drop kk⟩ outs := by
  obtain ⟨h1, h2⟩ := h.en.opn.cut hk
  have k1 := (Mem.Keeps.refl (fun q => q = g) wr).setCell (p := ⟨g, 3, none⟩) (fun _ => rfl) (.slice (if c' = kk then A' else A'.map (·.add kk)) (e.opn.length - kk) (c' - kk))
  refine h.renew hg ⟨?_, ?_, ?_⟩ k1 (.inl h2)
  · rw [List.length_drop]; exact h.en.box.s3 _ _ _
  · rw [List.length_drop, List.map_drop]; exact h1.keeps k1 (fun q hq e => h.en.ne (by rw [← h2, hq, e]))
  · rw [h2]; exact h.en.ne
theorem TakeRel.mk {w wr : World} {g : Nat} {A A' O : Option Addr} {c' oc : Nat} {e e' : E} {outs : List ByteArray} {ps : List Pk} {k : Nat} {v : Value} (h : Stands w g A wr A' O c' oc e' outs) (hk : k ≤ ps.length) (hv : v = .int .i64 k) (hs : take e (ps.take k) = (e', outs)) : TakeRel w g A e ps v wr :=
  ⟨k, A', O, c', oc, (e', outs), hk, hv, hs, h.en, h.ob, h.be, h.kp, h.mv, h.fr, h.sz⟩
theorem new_cells {S : Nat → Prop} {wr b w2 : World} {cs : Array Value} {t : TypeId} (k : Mem.Keeps S b w2) (hb : b.heap = (wr.alloc (.cells cs t)).heap) (hS : ¬ S wr.heap.size) (j : Nat) : w2.cell? ⟨wr.heap.size, j, none⟩ = cs[j]? :=
  (k.cell (p := ⟨wr.heap.size, j, none⟩) (by rw [hb]; simp) hS).trans (cell_of_row _ _ _ _ _ _ (by rw [hb]; exact heap_alloc_new wr _))
theorem run_max0 (ts : Array TypeId) (t : TypeId) (W : World) (y : Int) : (Builtin.max_ ts t #[.int .i64 0, .int .i64 y]).run Try.prog W = .ok (.int .i64 (y.toNat : Nat)) W := by
  have h : (Builtin.max_ ts t #[.int .i64 0, .int .i64 y]).run Try.prog W = .ok (.int .i64 (if 0 < y then y else 0)) W := by simp [go_sem]
  rw [h]; congr 2; split <;> omega
end Link

set_option maxHeartbeats 4000000 in
theorem take_any {w : World} {g : Nat} {e : Link.E} {A : Option Addr} {c : Nat} (h : Link.At w g A c e) (D : Option Addr) (dc : Nat) (ps : List Link.Pk) (hr : ∀ W, Mem.Keeps (fun q => q = g) w W → Mem.Rd W W.heap.size D (ps.flatMap Link.pkCells)) (hn : ps.length ≤ 1000000)
    {N : Int} (hf : Link.Fine N e) (hN : N ≤ 1000000) :
    Calls Try.prog 12 #[.pointer (some ⟨g, 0, none⟩), .slice D ps.length dc] w (Link.TakeEnd w g A e ps) := by
  have HA := Lib.hid h
  have HR := Lib.hid hr
  have HF := Lib.hid hf
  have hgl := h.box.lt
  have hne : ¬ w.heap.size = g := by omega
  clear h hr hf
  go_enter Try.func12, Try.ntmps12
  go_wp2
  go_step3
  go_wp2
  go_step3
  go_wp2
  go_loopw [13] (Link.TakeRel w g A e ps) (fun t _ => ps.length - (intOf t).toNat)
  case atStart =>
    have hk := (((Mem.Keeps.refl (fun q => q = g) w).alloc (.cells #[Value.pointer (some ⟨g, 0, none⟩)] 26)).alloc (.cells #[Value.slice none 0 0] 29))
    refine ⟨0, A, none, c, 0, (e, []), by omega, rfl, rfl, HA.out.keeps ((((Mem.Keeps.refl (fun _ => False) w).alloc (.cells #[Value.pointer (some ⟨g, 0, none⟩)] 26)).alloc (.cells #[Value.slice none 0 0] 29))) (fun h => h) (fun _ _ h => h), ?_, ?_, hk, .inl rfl, Mem.From.none_ _, by show w.heap.size + 2 ≤ _; simp⟩
    · exact ⟨Mem.Own.lit _ _ 1 #[Value.slice none 0 0] 1 (by simp) rfl (by simp [maxLen]), Mem.Own.nil _ _ _, by simp [Mem.blk]⟩
    · show World.cell? _ _ = _
      rw [World.cell?_alloc_lt _ _ _ (by simp), cell_of_row _ _ _ _ _ _ (heap_alloc_new _ _)]; rfl
  case round =>
    obtain ⟨k, A', O, c', oc, s, hk, rfl, HS, HAt, HO, HP, HK, HM, HFr, HZ⟩ := hrel
    have HST : Hid (Link.Stands w g A wr A' O c' oc s.1 s.2) := ⟨HAt.out, HO.out, HP.out, HK.out, HM.out, HFr.out, HZ.out⟩
    have hAlt : ∀ q, Mem.blk A = some q → q < w.heap.size := fun q hq => HA.out.opn.lt hq
    have HAL := Lib.hid hAlt
    have hlk := List.length_take_le k ps
    have hol : s.2.length ≤ 1000000 := by have := Link.take_len e (ps.take k); rw [HS.out] at this; omega
    have HFN : Hid (Link.Fine 2000000 s.1) := by have := HF.out.take (ps.take k); rw [HS.out] at this; exact this.mono (by omega)
    have b0 := HAt.out.box.c0
    have be := HP.out
    have hz := HZ.out
    have hgr : g < wr.heap.size := by omega
    have hbr : w.heap.size < wr.heap.size := by omega
    have hbr1 : w.heap.size + 1 < wr.heap.size := by omega
    clear hAlt hlk HAt HO HP HK HM HFr HZ
    by_cases hlt : k < ps.length
    · obtain ⟨b, o, p, rfl, hb, hp, q0, q1, q2, q3, q4⟩ := Link.pk_elem (HR.out wr HST.out.kp) hlt
      have HTS : Hid (Link.take e (ps.take (k + 1)) = (Link.stepE s.1 p, Link.stepO s.1 p s.2)) := by show _ = _; rw [Mem.take_snoc hp, Link.take_snoc, HS.out]
      clear hp
      by_cases hl : p.life < s.1.life
      · have hld : decide (p.life < s.1.life) = true := by simpa using hl
        have HL := Lib.hid hl
        clear hl
        go_wp2
        go_quiet (fail)
        go_wp2
        go_roundw
        case rel =>
          refine Link.TakeRel.mk (HST.out.step hgl (((Mem.Keeps.refl _ _).alloc _).drewN _)) (k := k + 1) (by omega) (by go_num) ?_
          rw [HTS.out, Link.stepE_less HL.out, Link.stepO_less HL.out]
        case measure => simp [intOf]; omega
      · have hld : decide (p.life < s.1.life) = false := by simpa using hl
        have HL := Lib.hid hl
        clear hl
        go_wp2
        go_quiet (fail)
        go_wp2_with fail
        refine (renew_any (HST.out.step hgl (((Mem.Keeps.refl (fun _ => False) wr).alloc _).drewN _)).en p.life).mono ?_
        rintro x w2 ⟨A2, c2, rfl, hA2, hk2, hm2⟩
        obtain ⟨e2, he2⟩ : ∃ e2, Link.renew s.1 p.life = e2 := ⟨_, rfl⟩
        rw [he2] at hA2
        have HE2 := Lib.hid he2
        have HST2 := Lib.hid ((HST.out.step hgl (((Mem.Keeps.refl (fun _ => False) wr).alloc _).drewN _)).renew hgl hA2 hk2 (by rcases hm2 with rfl | rfl; exact .inl rfl; exact .inr rfl))
        have HF2 : Hid (Link.Fine 2000000 e2) := by have := HFN.out.renew p.life; rwa [HE2.out] at this
        have hnw := Link.new_cells (S := fun q => q = g) (wr := wr) hk2 rfl (by omega)
        have x0 := hnw 0
        have x1 := hnw 1
        have x2 := hnw 2
        have x3 := hnw 3
        have x4 := hnw 4
        simp only [List.getElem?_toArray, List.getElem?_cons_zero, List.getElem?_cons_succ] at x0 x1 x2 x3 x4
        have hz2 := hk2.size
        simp only [World.drewN, World.size_alloc] at hz2
        have hg2 : g < w2.heap.size := by omega
        have hb2 : w.heap.size < w2.heap.size := by omega
        have hw2 : wr.heap.size < w2.heap.size := by omega
        have hne2 : ¬ wr.heap.size = g := by omega
        have d1 := HST2.out.en.box.c1
        have d3 := HST2.out.en.box.c3
        have df := HST2.out.en.box.fr
        have dbe := HST2.out.be
        obtain ⟨n1, n2, n3, n4, n5, n6⟩ := HF2.out
        clear he2 hA2 hk2 hm2 hnw HFN b0 be q0 q1 q2 q3 q4
        by_cases ha : 0 ≤ p.ack ∧ p.ack ≤ e2.sent
        · obtain ⟨kk, hkk⟩ : ∃ kk, (p.ack - (e2.sent - e2.opn.length)).toNat = kk := ⟨_, rfl⟩
          have hk1 : kk ≤ e2.opn.length := by omega
          have hmx : ∀ ts t W, (Builtin.max_ ts t #[.int .i64 0, .int .i64 (p.ack - (e2.sent - e2.opn.length))]).run Try.prog W = .ok (.int .i64 (kk : Nat)) W := fun ts t W => by rw [← hkk]; exact Link.run_max0 ts t W _
          have HSN : Hid (Link.seen s.1 p = ⟨e2.life, e2.sent, e2.got, e2.opn.drop kk⟩) := by show _ = _; unfold Link.seen; rw [HE2.out, Link.ackE_yes ha, hkk]
          have ha1 : decide (0 ≤ p.ack) = true := by simpa using ha.1
          have ha2 : decide (p.ack ≤ e2.sent) = true := by simpa using ha.2
          obtain ⟨hb1, hb3⟩ := ha
          have hwr : IntKind.i64.wrap (p.ack - (e2.sent - e2.opn.length)) = p.ack - (e2.sent - e2.opn.length) := IntWalk.i64_in _ (by omega)
          clear hkk
          go_wp2
          go_quiet (fail)
          go_wp2
          go_quiet (fail)
          go_wp2
          refine Reg.still_tail 13 (by kernel_rfl) (by kernel_rfl) ?_
          intro w5 hw5
          simp only [List.take_succ_cons, List.take_zero, List.drop_succ_cons, List.drop_zero]
          have y0 : w5.cell? ⟨wr.heap.size, 0, none⟩ = some (.int .i64 p.life) := by rw [hw5]; exact x0
          have y1 : w5.cell? ⟨wr.heap.size, 1, none⟩ = some (.int .i64 p.seq) := by rw [hw5]; exact x1
          have y5 : w5.cell? ⟨wr.heap.size, 3, none⟩ = some (.bool p.has) := by rw [hw5]; exact x3
          have y6 : w5.cell? ⟨wr.heap.size, 4, none⟩ = some (.string p.data) := by rw [hw5]; exact x4
          have y2 : w5.cell? ⟨wr.heap.size, 2, none⟩ = some (.int .i64 p.ack) := by rw [hw5]; exact x2
          have y3 : w5.cell? ⟨g, 3, none⟩ = some (.slice A2 e2.opn.length c2) := by rw [hw5]; exact d3
          have ybe : w5.cell? ⟨w.heap.size, 0, none⟩ = some (.pointer (some ⟨g, 0, none⟩)) := by rw [hw5]; exact dbe
          have yf : ∀ i, w5.frozen? ⟨g, i, none⟩ = false := by rw [hw5]; exact df
          have HK5 : Hid (Mem.Keeps (fun _ => False) w2 w5) := by show Mem.Keeps _ _ _; rw [hw5]; exact (((Mem.Keeps.refl _ w2).drewN _).drewN _).drew
          clear hw5
          repeat still_step
          refine wpStill_nil ?_
          go_wp2_with fail
          · have hck : c2 = kk := by assumption
            have hs3 := (HST2.out.step hgl HK5.out).cut hgl hk1
            rw [if_pos hck, show c2 - kk = 0 by omega] at hs3
            have HS3 := Lib.hid hs3
            clear hs3
            refine (took_any HS3.out.en HS3.out.be HS3.out.ob (HS3.out.apart hgl HAL.out) p n3 (by simp only; omega) hol).mono ?_
            rintro x w4 ht
            obtain ⟨rfl, O4, oc4, hs4⟩ := HS3.out.took hgl ht
            have HS4 := Lib.hid hs4
            clear ht hs4
            go_wp2
            go_roundw
            case rel =>
              refine Link.TakeRel.mk HS4.out (k := k + 1) (by omega) (by go_num) ?_
              rw [HTS.out, Link.stepE_not (by have := HL.out; omega), Link.stepO_not (by have := HL.out; omega), HSN.out]
            case measure => simp [intOf]; omega
          · have hck : ¬ c2 = kk := by assumption
            have hs3 := (HST2.out.step hgl HK5.out).cut hgl hk1
            rw [if_neg hck] at hs3
            have HS3 := Lib.hid hs3
            clear hs3
            refine (took_any HS3.out.en HS3.out.be HS3.out.ob (HS3.out.apart hgl HAL.out) p n3 (by simp only; omega) hol).mono ?_
            rintro x w4 ht
            obtain ⟨rfl, O4, oc4, hs4⟩ := HS3.out.took hgl ht
            have HS4 := Lib.hid hs4
            clear ht hs4
            go_wp2
            go_roundw
            case rel =>
              refine Link.TakeRel.mk HS4.out (k := k + 1) (by omega) (by go_num) ?_
              rw [HTS.out, Link.stepE_not (by have := HL.out; omega), Link.stepO_not (by have := HL.out; omega), HSN.out]
            case measure => simp [intOf]; omega
        · have HSN : Hid (Link.seen s.1 p = e2) := by show _ = _; unfold Link.seen; rw [HE2.out, Link.ackE_no ha]
          have HS3 := fun n => Lib.hid (HST2.out.step hgl ((Mem.Keeps.refl (fun _ => False) w2).drewN n))
          by_cases ha0 : 0 ≤ p.ack
          · have ha1 : decide (0 ≤ p.ack) = true := by simpa using ha0
            have ha2 : decide (p.ack ≤ e2.sent) = false := by simp; omega
            clear ha ha0
            go_wp2
            go_quiet (fail)
            go_wp2_with fail
            refine (took_any (HS3 nq).out.en (HS3 nq).out.be (HS3 nq).out.ob ((HS3 nq).out.apart hgl HAL.out) p n3 (by omega) hol).mono ?_
            rintro x w4 ht
            obtain ⟨rfl, O4, oc4, hs4⟩ := (HS3 nq).out.took hgl ht
            have HS4 := Lib.hid hs4
            clear ht hs4
            go_wp2
            go_roundw
            case rel =>
              refine Link.TakeRel.mk HS4.out (k := k + 1) (by omega) (by go_num) ?_
              rw [HTS.out, Link.stepE_not (by have := HL.out; omega), Link.stepO_not (by have := HL.out; omega), HSN.out]
            case measure => simp [intOf]; omega
          · have ha1 : decide (0 ≤ p.ack) = false := by simpa using ha0
            clear ha ha0
            go_wp2
            go_quiet (fail)
            go_wp2_with fail
            refine (took_any (HS3 nq).out.en (HS3 nq).out.be (HS3 nq).out.ob ((HS3 nq).out.apart hgl HAL.out) p n3 (by omega) hol).mono ?_
            rintro x w4 ht
            obtain ⟨rfl, O4, oc4, hs4⟩ := (HS3 nq).out.took hgl ht
            have HS4 := Lib.hid hs4
            clear ht hs4
            go_wp2
            go_roundw
            case rel =>
              refine Link.TakeRel.mk HS4.out (k := k + 1) (by omega) (by go_num) ?_
              rw [HTS.out, Link.stepE_not (by have := HL.out; omega), Link.stepO_not (by have := HL.out; omega), HSN.out]
            case measure => simp [intOf]; omega
    · obtain rfl : k = ps.length := by omega
      rw [List.take_length] at HS
      have bo := Mem.Own.cell (j := 0) HST.out.ob.box rfl
      go_wp2
      try rw [Exit.noGoto_ret]
      go_ret
      obtain rfl : Link.take e ps = s := HS.out
      have HT := HST.out
      exact ⟨A', O, c', oc, rfl, HT.en, HT.ob.row, HT.fr.mono (by omega), HT.kp, HT.mv⟩
end Go.Proofs.Ytjkonfanmpcipaa
