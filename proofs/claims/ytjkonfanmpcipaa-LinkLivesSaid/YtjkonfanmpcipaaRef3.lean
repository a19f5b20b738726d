/- The walk of the reference's Take. No conditions but that numbers fit and that what is handed lies apart from the end. -/
import Derived.Test.YtjkonfanmpcipaaRef2
import Derived.WalkMore
import Derived.IntWalk
namespace Go.Proofs.Ytjkonfanmpcipaa
open Go.RowKit
set_option linter.unusedVariables false

namespace Link
def RTakeEnd (w : World) (g : Nat) (A : Option Addr) (e : E) (ps : List Pk) (x : Ending) (w' : World) : Prop :=
  ∃ A' O c' oc data' ack', x = .returned (.slice O (take e ps).2.length oc) ∧ R w' g A' c' (take e ps).1 data' ack' ∧ Mem.Own w' 9 1 O (take e ps).2.length oc ((take e ps).2.map strV) ∧ Mem.From w.heap.size O ∧ Mem.Keeps (fun q => q = g) w w' ∧ (Mem.blk A' = Mem.blk A ∨ Mem.blk A' = none)
/-- what stands at a world within the loop -/
structure RSt (w : World) (g : Nat) (A : Option Addr) (wr : World) (A' O : Option Addr) (c' oc : Nat) (e : E) (outs : List ByteArray) (data : List ByteArray) (ack : Nat) : Prop where
  en : R wr g A' c' e data ack
  ro : Mem.Own wr 9 1 O outs.length oc (outs.map strV)
  kp : Mem.Keeps (fun q => q = g) w wr
  mv : Mem.blk A' = Mem.blk A ∨ Mem.blk A' = none
  fr : Mem.From w.heap.size O
section
variable {w wr w' : World} {g c' c2 oc ack ack2 : Nat} {A A' A2 O : Option Addr} {e e2 : E} {outs data data2 : List ByteArray}
theorem RSt.step (h : RSt w g A wr A' O c' oc e outs data ack) (k : Mem.Keeps (fun _ => False) wr w') : RSt w g A w' A' O c' oc e outs data ack :=
  ⟨h.en.keeps k (fun h => h) (fun _ _ h => h), h.ro.keeps k (fun _ _ h => h), h.kp.trans k (fun _ h _ => h.elim), h.mv, h.fr⟩
theorem RSt.turn (h : RSt w g A wr A' O c' oc e outs data ack) (hg : g < w.heap.size) (h2 : R w' g A2 c2 e2 data2 ack2) (k : Mem.Keeps (fun q => q = g) wr w') (hm : Mem.blk A2 = Mem.blk A' ∨ Mem.blk A2 = none) : RSt w g A w' A2 O c2 oc e2 outs data2 ack2 := by
  refine ⟨h2, h.ro.keeps k (fun q hq e => ?_), h.kp.trans k (fun _ h _ => h), ?_, h.fr⟩
  · have := h.fr.blk q hq; subst e; omega
  · rcases hm with h1 | h1
    · rcases h.mv with h2 | h2
      · exact .inl (h1.trans h2)
      · exact .inr (h1.trans h2)
    · exact .inr h1
end
def RTakeRel (w : World) (g : Nat) (A : Option Addr) (e : E) (ps : List Pk) (vo vi : Value) (wr : World) : Prop :=
  ∃ (k : Nat) (A' O : Option Addr) (c' oc : Nat) (data : List ByteArray) (ack : Nat) (s : E × List ByteArray), k ≤ ps.length ∧ vo = .slice O s.2.length oc ∧ vi = .int .i64 k ∧ Hid (take e (ps.take k) = s) ∧ Hid (RSt w g A wr A' O c' oc s.1 s.2 data ack)
/-- a store of what is known to have come -/
theorem R.acked {w : World} {g c ack : Nat} {A : Option Addr} {e : E} {data : List ByteArray} (h : R w g A c e data ack) {a : Int} (h0 : 0 ≤ a) (h1 : a ≤ data.length) :
    R (w.setCell ⟨g, 2, none⟩ (.int .i64 ((max ack a.toNat : Nat) : Int))) g A c (ackE e a) data (max ack a.toNat) := by
  have k1 := (Mem.Keeps.refl (fun q => q = g) w).setCell (p := ⟨g, 2, none⟩) (fun _ => rfl) (.int .i64 ((max ack a.toNat : Nat) : Int))
  have hle := h.le
  have hol := h.ol
  have hs := h.sent
  have he : ackE e a = ⟨e.life, e.sent, e.got, data.drop (max ack a.toNat)⟩ := by
    rw [ackE_yes ⟨h0, by omega⟩, h.opn, List.drop_drop]
    congr 2
    rw [List.length_drop]
    omega
  rw [he]
  exact ⟨Mem.Own.set h.box 2 _, h.row.keeps k1 (fun q hq eq => h.ne (by rw [hq, eq])), h.ne, h.sent, rfl, by omega⟩
theorem R.gotten {w : World} {g c ack : Nat} {A : Option Addr} {e : E} {data : List ByteArray} (h : R w g A c e data ack) :
    R (w.setCell ⟨g, 3, none⟩ (.int .i64 (e.got + 1))) g A c ⟨e.life, e.sent, e.got + 1, e.opn⟩ data ack := by
  have k1 := (Mem.Keeps.refl (fun q => q = g) w).setCell (p := ⟨g, 3, none⟩) (fun _ => rfl) (.int .i64 (e.got + 1))
  exact ⟨Mem.Own.set h.box 3 _, h.row.keeps k1 (fun q hq eq => h.ne (by rw [hq, eq])), h.ne, h.sent, h.opn, h.le⟩
theorem run_maxn (ts : Array TypeId) (t : TypeId) (W : World) (ack : Nat) (a : Int) (h : 0 ≤ a) : (Builtin.max_ ts t #[.int .i64 (ack : Int), .int .i64 a]).run Try.prog W = .ok (.int .i64 ((max ack a.toNat : Nat) : Int)) W := by
  have h1 : (Builtin.max_ ts t #[.int .i64 (ack : Int), .int .i64 a]).run Try.prog W = .ok (.int .i64 (if (ack : Int) < a then a else ack)) W := by simp [go_sem]
  rw [h1]; congr 2; split <;> omega
end Link

set_option maxHeartbeats 8000000 in
theorem refTake_any {w : World} {g : Nat} {e : Link.E} {A : Option Addr} {c ack : Nat} {data : List ByteArray} (h : Link.R w g A c e data ack) (D : Option Addr) (dc : Nat) (ps : List Link.Pk) (hr : ∀ W, Mem.Keeps (fun q => q = g) w W → Mem.Rd W W.heap.size D (ps.flatMap Link.pkCells)) (hn : ps.length ≤ 1000000)
    {N : Int} (hf : Link.Fine N e) (hN : N ≤ 1000000) :
    Calls Try.prog 23 #[.pointer (some ⟨g, 0, none⟩), .slice D ps.length dc] w (Link.RTakeEnd w g A e ps) := by
  have HA := Lib.hid h
  have HR := Lib.hid hr
  have HF := Lib.hid hf
  have hgl := h.lt
  have HAL : Hid (∀ q, Mem.blk A = some q → q < w.heap.size) := fun q hq => h.row.lt hq
  clear h hr hf
  go_enter Try.func23, Try.ntmps23
  go_wp2
  go_loopw [5, 6] (Link.RTakeRel w g A e ps) (fun _ t _ => ps.length - (intOf t).toNat)
  case atStart => exact ⟨0, A, none, c, 0, data, ack, (e, []), by omega, rfl, rfl, rfl, HA.out, Mem.Own.nil _ _ _, Mem.Keeps.refl _ _, .inl rfl, Mem.From.none_ _⟩
  case round =>
    obtain ⟨k, A', O, c', oc, data', ack', s, hk, rfl, rfl, HS, HST⟩ := hrel
    have hlk := List.length_take_le k ps
    have hol : s.2.length ≤ 1000000 := by have := Link.take_len e (ps.take k); rw [HS.out] at this; omega
    have HFN : Hid (Link.Fine 2000000 s.1) := by have := HF.out.take (ps.take k); rw [HS.out] at this; exact this.mono (by omega)
    have b0 := HST.out.en.c0
    have hz := HST.out.kp.size
    have hgr : g < wr.heap.size := by omega
    clear hlk
    by_cases hlt : k < ps.length
    · obtain ⟨b, o, p, rfl, hb, hp, q0, q1, q2, q3, q4⟩ := Link.pk_elem (HR.out wr HST.out.kp) hlt
      have HTS : Hid (Link.take e (ps.take (k + 1)) = (Link.stepE s.1 p, Link.stepO s.1 p s.2)) := by show _ = _; rw [Mem.take_snoc hp, Link.take_snoc, HS.out]
      clear hp
      by_cases hl : p.life < s.1.life
      · have hld : decide (p.life < s.1.life) = true := by simpa using hl
        have HL := Lib.hid hl
        clear hl
        go_wp2
        go_quiet (fail)
        go_wp2
        go_roundw
        case rel =>
          refine ⟨k + 1, A', O, c', oc, data', ack', s, by omega, rfl, by go_num, ?_, HST.out.step (((Mem.Keeps.refl _ _).alloc _).drewN _)⟩
          show _ = _
          rw [HTS.out, Link.stepE_less HL.out, Link.stepO_less HL.out]
        case measure => simp [intOf]; omega
      · have hld : decide (p.life < s.1.life) = false := by simpa using hl
        have HL : Hid (¬ p.life < s.1.life) := hl
        clear hl
        go_wp2
        go_quiet (fail)
        go_wp2_with fail
        refine (refRenew_any (HST.out.step (((Mem.Keeps.refl (fun _ => False) wr).alloc _).drewN _)).en p.life).mono ?_
        rintro x w2 ⟨A2, c2, data2, ack2, rfl, hA2, hk2, hm2⟩
        obtain ⟨e2, he2⟩ : ∃ e2, Link.renew s.1 p.life = e2 := ⟨_, rfl⟩
        rw [he2] at hA2
        have HE2 := Lib.hid he2
        have HST2 := Lib.hid ((HST.out.step (((Mem.Keeps.refl (fun _ => False) wr).alloc _).drewN _)).turn hgl hA2 hk2 (by rcases hm2 with rfl | rfl; exact .inl rfl; exact .inr rfl))
        have HF2 : Hid (Link.Fine 2000000 e2) := by have := HFN.out.renew p.life; rwa [HE2.out] at this
        have hnw := Link.new_cells (S := fun q => q = g) (wr := wr) hk2 rfl (by omega)
        have x0 := hnw 0
        have x1 := hnw 1
        have x2 := hnw 2
        have x3 := hnw 3
        have x4 := hnw 4
        simp only [List.getElem?_toArray, List.getElem?_cons_zero, List.getElem?_cons_succ] at x0 x1 x2 x3 x4
        have hz2 := hk2.size
        simp only [World.drewN, World.size_alloc] at hz2
        have hne2 : ¬ wr.heap.size = g := by omega
        have d1 := HST2.out.en.c1
        have d2 := HST2.out.en.c2
        have df := HST2.out.en.fr
        have hds := HST2.out.en.sent
        have HDS := Lib.hid hds
        clear he2 hA2 hk2 hm2 hnw HFN b0 q0 q1 q2 q3 q4 hds
        by_cases ha0 : 0 ≤ p.ack
        · by_cases hle : p.ack ≤ data2.length
          · have ha1 : decide (0 ≤ p.ack) = true := by simpa using ha0
            have ha2 : decide (p.ack ≤ (data2.length : Int)) = true := by simpa using hle
            have hmx : ∀ ts t W, (Builtin.max_ ts t #[.int .i64 (ack2 : Int), .int .i64 p.ack]).run Try.prog W = .ok (.int .i64 ((max ack2 p.ack.toNat : Nat) : Int)) W := fun ts t W => Link.run_maxn ts t W ack2 p.ack ha0
            obtain ⟨kk, hkk⟩ : ∃ kk, max ack2 p.ack.toNat = kk := ⟨_, rfl⟩
            rw [hkk] at hmx
            have HKK := Lib.hid hkk
            have HA0 := Lib.hid ha0
            have HLE := Lib.hid hle
            have HSN : Hid (Link.seen s.1 p = Link.ackE e2 p.ack) := by show _ = _; unfold Link.seen; rw [HE2.out]
            clear hkk ha0 hle
            go_wp2
            go_quiet (fail)
            go_wp2
            refine Reg.still_tail 10 (by kernel_rfl) (by kernel_rfl) ?_
            intro w5 hw5
            simp only [List.take_succ_cons, List.take_zero, List.drop_succ_cons, List.drop_zero]
            have y2 : w5.cell? ⟨wr.heap.size, 2, none⟩ = some (.int .i64 p.ack) := by rw [hw5]; exact x2
            have yk : w5.cell? ⟨g, 2, none⟩ = some (.int .i64 (ack2 : Int)) := by rw [hw5]; exact d2
            have yf : ∀ i, w5.frozen? ⟨g, i, none⟩ = false := by rw [hw5]; exact df
            have HK5 : Hid (Mem.Keeps (fun _ => False) w2 w5) := by show Mem.Keeps _ _ _; rw [hw5]; exact ((Mem.Keeps.refl _ w2).drewN _).drew
            have u0 : ∀ j, w5.cell? ⟨wr.heap.size, j, none⟩ = w2.cell? ⟨wr.heap.size, j, none⟩ := fun j => HK5.out.cell (p := ⟨wr.heap.size, j, none⟩) (by show wr.heap.size < _; omega) (fun h => h)
            have hadr : ∀ j, (⟨g, 2, none⟩ : Addr) ≠ ⟨wr.heap.size, j, none⟩ := fun j e => hne2 (congrArg Addr.block e).symm
            have u1 : Hid (∀ j, (w5.setCell ⟨g, 2, none⟩ (.int .i64 (kk : Int))).cell? ⟨wr.heap.size, j, none⟩ = w2.cell? ⟨wr.heap.size, j, none⟩) := fun j => (World.cell?_setCell_other _ _ _ _ (hadr j)).trans (u0 j)
            have X0 := Lib.hid x0
            have X1 := Lib.hid x1
            have X2 := Lib.hid x2
            have X3 := Lib.hid x3
            have X4 := Lib.hid x4
            have hw5s : wr.heap.size < w5.heap.size := Nat.lt_of_lt_of_le (by omega) HK5.out.size
            clear hw5 x0 x1 x2 x3 x4 d1 d2 df u0 hadr
            repeat still_step
            refine wpStill_nil ?_
            go_upto_region 10 with fail
            obtain ⟨w3, hw3⟩ : ∃ w3, w5.setCell ⟨g, 2, none⟩ (.int .i64 (kk : Int)) = w3 := ⟨_, rfl⟩
            have HST3 : Hid (Link.RSt w g A w3 A2 O c2 oc (Link.ackE e2 p.ack) s.2 data2 kk) := by
              show Link.RSt _ _ _ _ _ _ _ _ _ _ _ _
              rw [← hw3, ← HKK.out]
              exact (HST2.out.step HK5.out).turn hgl ((HST2.out.step HK5.out).en.acked HA0.out HLE.out) ((Mem.Keeps.refl (fun q => q = g) w5).setCell (p := ⟨g, 2, none⟩) (fun _ => rfl) _) (.inl rfl)
            have z0 : w3.cell? ⟨wr.heap.size, 0, none⟩ = some (.int .i64 p.life) := by rw [← hw3]; exact (u1.out 0).trans X0.out
            have z1 : w3.cell? ⟨wr.heap.size, 1, none⟩ = some (.int .i64 p.seq) := by rw [← hw3]; exact (u1.out 1).trans X1.out
            have z2 : w3.cell? ⟨wr.heap.size, 2, none⟩ = some (.int .i64 p.ack) := by rw [← hw3]; exact (u1.out 2).trans X2.out
            have z3 : w3.cell? ⟨wr.heap.size, 3, none⟩ = some (.bool p.has) := by rw [← hw3]; exact (u1.out 3).trans X3.out
            have z4 : w3.cell? ⟨wr.heap.size, 4, none⟩ = some (.string p.data) := by rw [← hw3]; exact (u1.out 4).trans X4.out
            have hw3s : wr.heap.size < w3.heap.size := by rw [← hw3]; simpa [World.setCell] using hw5s
            obtain ⟨e3, he3⟩ : ∃ e3, Link.ackE e2 p.ack = e3 := ⟨_, rfl⟩
            obtain ⟨A3, hA3⟩ : ∃ A3, A2 = A3 := ⟨_, rfl⟩
            obtain ⟨c3, hc3⟩ : ∃ c3, c2 = c3 := ⟨_, rfl⟩
            obtain ⟨data3, hd3⟩ : ∃ data3, data2 = data3 := ⟨_, rfl⟩
            obtain ⟨ack3, hk3⟩ : ∃ ack3, kk = ack3 := ⟨_, rfl⟩
            rw [hw3]
            rw [he3, hA3, hc3, hd3, hk3] at HST3
            rw [he3] at HSN
            have HF3 : Hid (Link.Fine 2000000 e3) := by show Link.Fine _ _; rw [← he3]; exact HF2.out.ack p.ack
            clear he3 hA3 hc3 hd3 hk3 hw3 HST2 HF2 HDS u1 X0 X1 X2 X3 X4 HK5 hmx
            have v3 := HST3.out.en.c3
            have vf := HST3.out.en.fr
            have hgw := HST3.out.en.lt
            obtain ⟨n1, n2, n3, n4, n5, n6⟩ := HF3.out
            have w1' : IntKind.i64.wrap (e3.got + 1) = e3.got + 1 := IntWalk.i64_in _ (by omega)
            cases hx : p.has
            · have hE := Lib.hid (show Link.tookE e3 p = e3 by unfold Link.tookE Link.next; rw [hx]; rfl)
              have hO := Lib.hid (show Link.tookO e3 p s.2 = s.2 by unfold Link.tookO Link.next; rw [hx]; rfl)
              rw [hx] at z3
              go_wp2
              go_quiet (fail)
              go_wp2
              go_roundw
              case rel =>
                refine ⟨k + 1, A3, O, c3, oc, data3, ack3, (e3, s.2), by omega, rfl, by go_num, ?_, HST3.out.step ((Mem.Keeps.refl _ _).drewN _)⟩
                show _ = _
                rw [HTS.out, Link.stepE_not (by have := HL.out; omega), Link.stepO_not (by have := HL.out; omega), HSN.out, hE.out, hO.out]
              case measure => simp [intOf]; omega
            · cases hs : (p.seq == e3.got + 1)
              · have hE := Lib.hid (show Link.tookE e3 p = e3 by unfold Link.tookE Link.next; rw [hx, hs]; rfl)
                have hO := Lib.hid (show Link.tookO e3 p s.2 = s.2 by unfold Link.tookO Link.next; rw [hx, hs]; rfl)
                rw [hx] at z3
                go_wp2
                go_quiet (fail)
                go_wp2
                go_roundw
                case rel =>
                  refine ⟨k + 1, A3, O, c3, oc, data3, ack3, (e3, s.2), by omega, rfl, by go_num, ?_, HST3.out.step ((Mem.Keeps.refl _ _).drewN _)⟩
                  show _ = _
                  rw [HTS.out, Link.stepE_not (by have := HL.out; omega), Link.stepO_not (by have := HL.out; omega), HSN.out, hE.out, hO.out]
                case measure => simp [intOf]; omega
              · have hE := Lib.hid (show Link.tookE e3 p = ⟨e3.life, e3.sent, e3.got + 1, e3.opn⟩ by unfold Link.tookE Link.next; rw [hx, hs]; rfl)
                have hO := Lib.hid (show Link.tookO e3 p s.2 = s.2 ++ [p.data] by unfold Link.tookO Link.next; rw [hx, hs]; rfl)
                rw [hx] at z3
                go_wp2
                go_quiet (fail)
                have HS4 := fun n => Lib.hid ((HST3.out.step ((Mem.Keeps.refl (fun _ => False) _).drewN n)).turn hgl (HST3.out.step ((Mem.Keeps.refl (fun _ => False) _).drewN n)).en.gotten ((Mem.Keeps.refl (fun q => q = g) _).setCell (p := ⟨g, 3, none⟩) (fun _ => rfl) (.int .i64 (e3.got + 1))) (.inl rfl))
                go_wp2_with (at_builtin; refine Mem.wpList_app _ rfl (.tmp 71) (.tmp 74) _ rfl strs_elem O s.2.length oc (s.2.map Link.strV) rfl (w3.heap.size + 1) (some ⟨w3.heap.size, 0, none⟩) 1 1 [Link.strV p.data] rfl ?_ (((HS4 _).out.step ((Mem.Keeps.refl (fun _ => False) _).alloc _)).ro) (Mem.Rd.alloc_new _ _ _ _ (by simp [World.setCell])) rfl (by simp [Value.oneCell']) (by unfold maxLen; omega) (by omega); intro O2 oc2 w8 hown hg8 hat; have HW := Lib.hid hown; have HG := Lib.hid hg8; have HT := Lib.hid hat; clear hown hg8 hat)
                have HS5 := (HS4 nq).out.step ((Mem.Keeps.refl (fun _ => False) _).alloc (.cells #[Link.strV p.data] 9))
                have k8 := (Mem.Keeps.refl (fun q => Mem.blk O = some q) _).grown HG.out (fun q hq _ => hq)
                have hgO : ¬ Mem.blk O = some g := fun h => by have := HS5.fr.blk g h; omega
                have hAO : ∀ q, Mem.blk A3 = some q → ¬ Mem.blk O = some q := fun q hq h => by
                  have h1 := HS5.fr.blk q h
                  rcases HS5.mv with h2 | h2
                  · have := HAL.out q (h2 ▸ hq); omega
                  · rw [h2] at hq; cases hq
                have HS6 : Hid (Link.RSt w g A w8 A3 O2 c3 oc2 (Link.tookE e3 p) (Link.tookO e3 p s.2) data3 ack3) := by
                  show Link.RSt w g A w8 A3 O2 c3 oc2 (Link.tookE e3 p) (Link.tookO e3 p s.2) data3 ack3
                  rw [hE.out, hO.out]
                  refine ⟨HS5.en.keeps k8 hgO hAO, ?_, HS5.kp.trans k8 (fun q hq hlt => by have := HS5.fr.blk q hq; omega), HS5.mv, ?_⟩
                  · rw [List.length_append, List.map_append]; exact HW.out
                  · rcases HT.out with h | h
                    · rw [h]; exact HS5.fr
                    · rw [h]; exact Mem.From.some_ HS5.kp.size
                have hl2 : Hid ((Link.tookO e3 p s.2).length = s.2.length + 1) := by show _ = _; rw [hO.out]; simp
                clear HS5 k8 hgO hAO HW HG HT HS4
                go_wp2
                go_roundw
                case rel =>
                  refine ⟨k + 1, A3, O2, c3, oc2, data3, ack3, (Link.tookE e3 p, Link.tookO e3 p s.2), by omega, by rw [hl2.out], by go_num, ?_, HS6.out⟩
                  show _ = _
                  rw [HTS.out, Link.stepE_not (by have := HL.out; omega), Link.stepO_not (by have := HL.out; omega), HSN.out]
                case measure => simp [intOf]; omega
          · have ha1 : decide (0 ≤ p.ack) = true := by simpa using ha0
            have ha2 : decide (p.ack ≤ (data2.length : Int)) = false := by simp; omega
            have HSN : Hid (Link.seen s.1 p = e2) := by show _ = _; unfold Link.seen; rw [HE2.out, Link.ackE_no (by have := HDS.out; omega)]
            clear ha0 hle
            go_wp2
            go_quiet (fail)
            go_upto_if 41 with fail
            obtain ⟨w3, hw3⟩ : ∃ w3, w2.drewN nq = w3 := ⟨_, rfl⟩
            have HST3 : Hid (Link.RSt w g A w3 A2 O c2 oc e2 s.2 data2 ack2) := by show Link.RSt _ _ _ _ _ _ _ _ _ _ _ _; rw [← hw3]; exact HST2.out.step ((Mem.Keeps.refl _ _).drewN _)
            have z0 : w3.cell? ⟨wr.heap.size, 0, none⟩ = some (.int .i64 p.life) := by rw [← hw3]; exact x0
            have z1 : w3.cell? ⟨wr.heap.size, 1, none⟩ = some (.int .i64 p.seq) := by rw [← hw3]; exact x1
            have z2 : w3.cell? ⟨wr.heap.size, 2, none⟩ = some (.int .i64 p.ack) := by rw [← hw3]; exact x2
            have z3 : w3.cell? ⟨wr.heap.size, 3, none⟩ = some (.bool p.has) := by rw [← hw3]; exact x3
            have z4 : w3.cell? ⟨wr.heap.size, 4, none⟩ = some (.string p.data) := by rw [← hw3]; exact x4
            have hw3s : wr.heap.size < w3.heap.size := by rw [← hw3]; exact hz2
            obtain ⟨e3, he3⟩ : ∃ e3, e2 = e3 := ⟨_, rfl⟩
            obtain ⟨A3, hA3⟩ : ∃ A3, A2 = A3 := ⟨_, rfl⟩
            obtain ⟨c3, hc3⟩ : ∃ c3, c2 = c3 := ⟨_, rfl⟩
            obtain ⟨data3, hd3⟩ : ∃ data3, data2 = data3 := ⟨_, rfl⟩
            obtain ⟨ack3, hk3⟩ : ∃ ack3, ack2 = ack3 := ⟨_, rfl⟩
            rw [hw3]
            rw [he3, hA3, hc3, hd3, hk3] at HST3
            rw [he3] at HSN
            have HF3 : Hid (Link.Fine 2000000 e3) := by show Link.Fine _ _; rw [← he3]; exact HF2.out
            clear he3 hA3 hc3 hd3 hk3 hw3 x0 x1 x2 x3 x4 d1 d2 df HST2 HF2 HDS
            have v3 := HST3.out.en.c3
            have vf := HST3.out.en.fr
            have hgw := HST3.out.en.lt
            obtain ⟨n1, n2, n3, n4, n5, n6⟩ := HF3.out
            have w1' : IntKind.i64.wrap (e3.got + 1) = e3.got + 1 := IntWalk.i64_in _ (by omega)
            cases hx : p.has
            · have hE := Lib.hid (show Link.tookE e3 p = e3 by unfold Link.tookE Link.next; rw [hx]; rfl)
              have hO := Lib.hid (show Link.tookO e3 p s.2 = s.2 by unfold Link.tookO Link.next; rw [hx]; rfl)
              rw [hx] at z3
              go_wp2
              go_quiet (fail)
              go_wp2
              go_roundw
              case rel =>
                refine ⟨k + 1, A3, O, c3, oc, data3, ack3, (e3, s.2), by omega, rfl, by go_num, ?_, HST3.out.step ((Mem.Keeps.refl _ _).drewN _)⟩
                show _ = _
                rw [HTS.out, Link.stepE_not (by have := HL.out; omega), Link.stepO_not (by have := HL.out; omega), HSN.out, hE.out, hO.out]
              case measure => simp [intOf]; omega
            · cases hs : (p.seq == e3.got + 1)
              · have hE := Lib.hid (show Link.tookE e3 p = e3 by unfold Link.tookE Link.next; rw [hx, hs]; rfl)
                have hO := Lib.hid (show Link.tookO e3 p s.2 = s.2 by unfold Link.tookO Link.next; rw [hx, hs]; rfl)
                rw [hx] at z3
                go_wp2
                go_quiet (fail)
                go_wp2
                go_roundw
                case rel =>
                  refine ⟨k + 1, A3, O, c3, oc, data3, ack3, (e3, s.2), by omega, rfl, by go_num, ?_, HST3.out.step ((Mem.Keeps.refl _ _).drewN _)⟩
                  show _ = _
                  rw [HTS.out, Link.stepE_not (by have := HL.out; omega), Link.stepO_not (by have := HL.out; omega), HSN.out, hE.out, hO.out]
                case measure => simp [intOf]; omega
              · have hE := Lib.hid (show Link.tookE e3 p = ⟨e3.life, e3.sent, e3.got + 1, e3.opn⟩ by unfold Link.tookE Link.next; rw [hx, hs]; rfl)
                have hO := Lib.hid (show Link.tookO e3 p s.2 = s.2 ++ [p.data] by unfold Link.tookO Link.next; rw [hx, hs]; rfl)
                rw [hx] at z3
                go_wp2
                go_quiet (fail)
                have HS4 := fun n => Lib.hid ((HST3.out.step ((Mem.Keeps.refl (fun _ => False) _).drewN n)).turn hgl (HST3.out.step ((Mem.Keeps.refl (fun _ => False) _).drewN n)).en.gotten ((Mem.Keeps.refl (fun q => q = g) _).setCell (p := ⟨g, 3, none⟩) (fun _ => rfl) (.int .i64 (e3.got + 1))) (.inl rfl))
                go_wp2_with (at_builtin; refine Mem.wpList_app _ rfl (.tmp 71) (.tmp 74) _ rfl strs_elem O s.2.length oc (s.2.map Link.strV) rfl (w3.heap.size + 1) (some ⟨w3.heap.size, 0, none⟩) 1 1 [Link.strV p.data] rfl ?_ (((HS4 _).out.step ((Mem.Keeps.refl (fun _ => False) _).alloc _)).ro) (Mem.Rd.alloc_new _ _ _ _ (by simp [World.setCell])) rfl (by simp [Value.oneCell']) (by unfold maxLen; omega) (by omega); intro O2 oc2 w8 hown hg8 hat; have HW := Lib.hid hown; have HG := Lib.hid hg8; have HT := Lib.hid hat; clear hown hg8 hat)
                have HS5 := (HS4 nq).out.step ((Mem.Keeps.refl (fun _ => False) _).alloc (.cells #[Link.strV p.data] 9))
                have k8 := (Mem.Keeps.refl (fun q => Mem.blk O = some q) _).grown HG.out (fun q hq _ => hq)
                have hgO : ¬ Mem.blk O = some g := fun h => by have := HS5.fr.blk g h; omega
                have hAO : ∀ q, Mem.blk A3 = some q → ¬ Mem.blk O = some q := fun q hq h => by
                  have h1 := HS5.fr.blk q h
                  rcases HS5.mv with h2 | h2
                  · have := HAL.out q (h2 ▸ hq); omega
                  · rw [h2] at hq; cases hq
                have HS6 : Hid (Link.RSt w g A w8 A3 O2 c3 oc2 (Link.tookE e3 p) (Link.tookO e3 p s.2) data3 ack3) := by
                  show Link.RSt w g A w8 A3 O2 c3 oc2 (Link.tookE e3 p) (Link.tookO e3 p s.2) data3 ack3
                  rw [hE.out, hO.out]
                  refine ⟨HS5.en.keeps k8 hgO hAO, ?_, HS5.kp.trans k8 (fun q hq hlt => by have := HS5.fr.blk q hq; omega), HS5.mv, ?_⟩
                  · rw [List.length_append, List.map_append]; exact HW.out
                  · rcases HT.out with h | h
                    · rw [h]; exact HS5.fr
                    · rw [h]; exact Mem.From.some_ HS5.kp.size
                have hl2 : Hid ((Link.tookO e3 p s.2).length = s.2.length + 1) := by show _ = _; rw [hO.out]; simp
                clear HS5 k8 hgO hAO HW HG HT HS4
                go_wp2
                go_roundw
                case rel =>
                  refine ⟨k + 1, A3, O2, c3, oc2, data3, ack3, (Link.tookE e3 p, Link.tookO e3 p s.2), by omega, by rw [hl2.out], by go_num, ?_, HS6.out⟩
                  show _ = _
                  rw [HTS.out, Link.stepE_not (by have := HL.out; omega), Link.stepO_not (by have := HL.out; omega), HSN.out]
                case measure => simp [intOf]; omega
        · have ha1 : decide (0 ≤ p.ack) = false := by simpa using ha0
          have HSN : Hid (Link.seen s.1 p = e2) := by show _ = _; unfold Link.seen; rw [HE2.out, Link.ackE_no (by have := HDS.out; omega)]
          clear ha0
          go_wp2
          go_quiet (fail)
          go_upto_if 41 with fail
          obtain ⟨w3, hw3⟩ : ∃ w3, w2.drewN nq = w3 := ⟨_, rfl⟩
          have HST3 : Hid (Link.RSt w g A w3 A2 O c2 oc e2 s.2 data2 ack2) := by show Link.RSt _ _ _ _ _ _ _ _ _ _ _ _; rw [← hw3]; exact HST2.out.step ((Mem.Keeps.refl _ _).drewN _)
          have z0 : w3.cell? ⟨wr.heap.size, 0, none⟩ = some (.int .i64 p.life) := by rw [← hw3]; exact x0
          have z1 : w3.cell? ⟨wr.heap.size, 1, none⟩ = some (.int .i64 p.seq) := by rw [← hw3]; exact x1
          have z2 : w3.cell? ⟨wr.heap.size, 2, none⟩ = some (.int .i64 p.ack) := by rw [← hw3]; exact x2
          have z3 : w3.cell? ⟨wr.heap.size, 3, none⟩ = some (.bool p.has) := by rw [← hw3]; exact x3
          have z4 : w3.cell? ⟨wr.heap.size, 4, none⟩ = some (.string p.data) := by rw [← hw3]; exact x4
          have hw3s : wr.heap.size < w3.heap.size := by rw [← hw3]; exact hz2
          obtain ⟨e3, he3⟩ : ∃ e3, e2 = e3 := ⟨_, rfl⟩
          obtain ⟨A3, hA3⟩ : ∃ A3, A2 = A3 := ⟨_, rfl⟩
          obtain ⟨c3, hc3⟩ : ∃ c3, c2 = c3 := ⟨_, rfl⟩
          obtain ⟨data3, hd3⟩ : ∃ data3, data2 = data3 := ⟨_, rfl⟩
          obtain ⟨ack3, hk3⟩ : ∃ ack3, ack2 = ack3 := ⟨_, rfl⟩
          rw [hw3]
          rw [he3, hA3, hc3, hd3, hk3] at HST3
          rw [he3] at HSN
          have HF3 : Hid (Link.Fine 2000000 e3) := by show Link.Fine _ _; rw [← he3]; exact HF2.out
          clear he3 hA3 hc3 hd3 hk3 hw3 x0 x1 x2 x3 x4 d1 d2 df HST2 HF2 HDS
          have v3 := HST3.out.en.c3
          have vf := HST3.out.en.fr
          have hgw := HST3.out.en.lt
          obtain ⟨n1, n2, n3, n4, n5, n6⟩ := HF3.out
          have w1' : IntKind.i64.wrap (e3.got + 1) = e3.got + 1 := IntWalk.i64_in _ (by omega)
          cases hx : p.has
          · have hE := Lib.hid (show Link.tookE e3 p = e3 by unfold Link.tookE Link.next; rw [hx]; rfl)
            have hO := Lib.hid (show Link.tookO e3 p s.2 = s.2 by unfold Link.tookO Link.next; rw [hx]; rfl)
            rw [hx] at z3
            go_wp2
            go_quiet (fail)
            go_wp2
            go_roundw
            case rel =>
              refine ⟨k + 1, A3, O, c3, oc, data3, ack3, (e3, s.2), by omega, rfl, by go_num, ?_, HST3.out.step ((Mem.Keeps.refl _ _).drewN _)⟩
              show _ = _
              rw [HTS.out, Link.stepE_not (by have := HL.out; omega), Link.stepO_not (by have := HL.out; omega), HSN.out, hE.out, hO.out]
            case measure => simp [intOf]; omega
          · cases hs : (p.seq == e3.got + 1)
            · have hE := Lib.hid (show Link.tookE e3 p = e3 by unfold Link.tookE Link.next; rw [hx, hs]; rfl)
              have hO := Lib.hid (show Link.tookO e3 p s.2 = s.2 by unfold Link.tookO Link.next; rw [hx, hs]; rfl)
              rw [hx] at z3
              go_wp2
              go_quiet (fail)
              go_wp2
              go_roundw
              case rel =>
                refine ⟨k + 1, A3, O, c3, oc, data3, ack3, (e3, s.2), by omega, rfl, by go_num, ?_, HST3.out.step ((Mem.Keeps.refl _ _).drewN _)⟩
                show _ = _
                rw [HTS.out, Link.stepE_not (by have := HL.out; omega), Link.stepO_not (by have := HL.out; omega), HSN.out, hE.out, hO.out]
              case measure => simp [intOf]; omega
            · have hE := Lib.hid (show Link.tookE e3 p = ⟨e3.life, e3.sent, e3.got + 1, e3.opn⟩ by unfold Link.tookE Link.next; rw [hx, hs]; rfl)
              have hO := Lib.hid (show Link.tookO e3 p s.2 = s.2 ++ [p.data] by unfold Link.tookO Link.next; rw [hx, hs]; rfl)
              rw [hx] at z3
              go_wp2
              go_quiet (fail)
              have HS4 := fun n => Lib.hid ((HST3.out.step ((Mem.Keeps.refl (fun _ => False) _).drewN n)).turn hgl (HST3.out.step ((Mem.Keeps.refl (fun _ => False) _).drewN n)).en.gotten ((Mem.Keeps.refl (fun q => q = g) _).setCell (p := ⟨g, 3, none⟩) (fun _ => rfl) (.int .i64 (e3.got + 1))) (.inl rfl))
              go_wp2_with (at_builtin; refine Mem.wpList_app _ rfl (.tmp 71) (.tmp 74) _ rfl strs_elem O s.2.length oc (s.2.map Link.strV) rfl (w3.heap.size + 1) (some ⟨w3.heap.size, 0, none⟩) 1 1 [Link.strV p.data] rfl ?_ (((HS4 _).out.step ((Mem.Keeps.refl (fun _ => False) _).alloc _)).ro) (Mem.Rd.alloc_new _ _ _ _ (by simp [World.setCell])) rfl (by simp [Value.oneCell']) (by unfold maxLen; omega) (by omega); intro O2 oc2 w8 hown hg8 hat; have HW := Lib.hid hown; have HG := Lib.hid hg8; have HT := Lib.hid hat; clear hown hg8 hat)
              have HS5 := (HS4 nq).out.step ((Mem.Keeps.refl (fun _ => False) _).alloc (.cells #[Link.strV p.data] 9))
              have k8 := (Mem.Keeps.refl (fun q => Mem.blk O = some q) _).grown HG.out (fun q hq _ => hq)
              have hgO : ¬ Mem.blk O = some g := fun h => by have := HS5.fr.blk g h; omega
              have hAO : ∀ q, Mem.blk A3 = some q → ¬ Mem.blk O = some q := fun q hq h => by
                have h1 := HS5.fr.blk q h
                rcases HS5.mv with h2 | h2
                · have := HAL.out q (h2 ▸ hq); omega
                · rw [h2] at hq; cases hq
              have HS6 : Hid (Link.RSt w g A w8 A3 O2 c3 oc2 (Link.tookE e3 p) (Link.tookO e3 p s.2) data3 ack3) := by
                show Link.RSt w g A w8 A3 O2 c3 oc2 (Link.tookE e3 p) (Link.tookO e3 p s.2) data3 ack3
                rw [hE.out, hO.out]
                refine ⟨HS5.en.keeps k8 hgO hAO, ?_, HS5.kp.trans k8 (fun q hq hlt => by have := HS5.fr.blk q hq; omega), HS5.mv, ?_⟩
                · rw [List.length_append, List.map_append]; exact HW.out
                · rcases HT.out with h | h
                  · rw [h]; exact HS5.fr
                  · rw [h]; exact Mem.From.some_ HS5.kp.size
              have hl2 : Hid ((Link.tookO e3 p s.2).length = s.2.length + 1) := by show _ = _; rw [hO.out]; simp
              clear HS5 k8 hgO hAO HW HG HT HS4
              go_wp2
              go_roundw
              case rel =>
                refine ⟨k + 1, A3, O2, c3, oc2, data3, ack3, (Link.tookE e3 p, Link.tookO e3 p s.2), by omega, by rw [hl2.out], by go_num, ?_, HS6.out⟩
                show _ = _
                rw [HTS.out, Link.stepE_not (by have := HL.out; omega), Link.stepO_not (by have := HL.out; omega), HSN.out]
              case measure => simp [intOf]; omega
    · obtain rfl : k = ps.length := by omega
      rw [List.take_length] at HS
      go_wp2
      go_ret
      obtain rfl : Link.take e ps = s := HS.out
      have HT := HST.out
      exact ⟨A', O, c', oc, data', ack', rfl, HT.en, HT.ro, HT.fr, HT.kp, HT.mv⟩
end Go.Proofs.Ytjkonfanmpcipaa
