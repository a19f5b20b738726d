/- The walk of LinkLives. No conditions. -/
import Derived.Test.YtjkonfanmpcipaaLivesM
import Derived.Test.YtjkonfanmpcipaaRegW
import Derived.Deep.DeepCutAuto
import Derived.Deep.CutBlock
import Derived.Outline
namespace Go.Proofs.Ytjkonfanmpcipaa
open Go.ChangeShapes Go.WideShapes Go.ChangeAt Go.RowKit
set_option linter.unusedVariables false

namespace Mem
theorem Own.form2 {w : World} {e : TypeId} {sz n c : Nat} {A : Option Addr} {xs : List Value} (h : Own w e sz A n c xs) (h0 : 0 < c) : ∃ g o, A = some ⟨g, o, none⟩ := by
  rcases h.2 with ⟨h1, h2, h3⟩ | ⟨g, o, cur, rfl, _⟩
  · omega
  · exact ⟨g, o, rfl⟩
end Mem
namespace Link
structure AMid (w : World) (g : Nat) (s : WS) (wx : World) : Prop where
  out : ∃ p lab, WL w wx g p s lab
structure LRel (w : World) (g : Nat) (acs : List Ac) (vi : Value) (wr : World) : Prop where
  out : ∃ (k : Nat) (p : Pl) (s : WS) (lab : Nat → Nat), k ≤ acs.length ∧ vi = .int .i64 k ∧ Hid (WL w wr g p s lab) ∧ Hid (LGood s) ∧ Hid (Bd s (len1 (acs.take k))) ∧ (s.pk 2).length + (s.pk 3).length ≤ 600
end Link
namespace linkLivesOpen
open Link
set_option maxRecDepth 100000 in
set_option maxHeartbeats 16000000 in
theorem walk (A : Option Addr) (c : Nat) (acs : List Ac) (w : World) (hr : Mem.Rd w w.heap.size A (acs.flatMap acCells)) (hn : acs.length ≤ 8796093022208) (hd : ∀ a ∈ acs, AcIn w a) :
    Calls Try.prog 5 #[.slice A acs.length c] w fun e w' => e = .returned (.bool true) ∧ Below w.heap.size w w' := by
  have HR := Lib.hid hr
  have HD := Lib.hid hd
  clear hr hd
  go_enter Try.func5, Try.ntmps5
  go_wp2_with fail
  refine (linkAble_any w).mono ?_
  rintro x w1 ⟨rfl, hb1⟩
  have HB1 := Lib.hid hb1
  clear hb1
  go_wp2_with fail
  refine (much_any A c acs HR.out (by omega) HD.out HB1.out).mono ?_
  rintro x w2 ⟨b, rfl, hbn, hb2⟩
  have HB2 := Lib.hid (HB1.out.trans (hb2.mono HB1.out.size))
  clear hb2
  cases b
  case true =>
    clear hbn
    go_wp2
    go_ret
    exact ⟨rfl, HB2.out⟩
  case false =>
  have HC : Hid (len1 acs ≤ 2000) := by have := hbn rfl; have := len1_le acs; show _ ≤ _; omega
  clear hbn
  go_wp2_with fail
  refine (new_any 1 w2 w2.heap.size rfl).mono ?_
  rintro x w3 ⟨rfl, hA, hb3, hs3⟩
  have HS3 := Lib.hid hs3
  clear hs3
  go_wp2_with fail
  refine (new_any 1 w3 w3.heap.size rfl).mono ?_
  rintro x w4 ⟨rfl, hB, hb4, hs4⟩
  have HS4 := Lib.hid hs4
  clear hs4
  go_upto_region 6 with fail
  obtain ⟨w5, hw5⟩ : ∃ w5, w4.alloc (.cells #[.pointer (some ⟨w2.heap.size, 0, none⟩), .pointer (some ⟨w3.heap.size, 0, none⟩), .slice none 0 0, .slice none 0 0, .slice none 0 0, .slice none 0 0, .slice none 0 0, .slice none 0 0] 31) = w5 := ⟨_, rfl⟩
  have hz2 := HB2.out.size
  have hs3 := HS3.out
  have hs4 := HS4.out
  have HT0 : Hid (WL w w5 w4.heap.size (pl0 w2.heap.size w3.heap.size) ws0 (lab0 w.heap.size w4.heap.size w2.heap.size w3.heap.size)) := by
    show WL _ _ _ _ _ _
    rw [← hw5]
    have k4 : Mem.Keeps (fun _ => False) w4 (w4.alloc (.cells #[.pointer (some ⟨w2.heap.size, 0, none⟩), .pointer (some ⟨w3.heap.size, 0, none⟩), .slice none 0 0, .slice none 0 0, .slice none 0 0, .slice none 0 0, .slice none 0 0, .slice none 0 0] 31)) := (Mem.Keeps.refl _ _).alloc _
    refine WL.start (Mem.Own.lit w4 _ 8 #[.pointer (some ⟨w2.heap.size, 0, none⟩), .pointer (some ⟨w3.heap.size, 0, none⟩), .slice none 0 0, .slice none 0 0, .slice none 0 0, .slice none 0 0, .slice none 0 0, .slice none 0 0] 1 rfl rfl (by simp [maxLen])) ?_ (hB.keeps k4 (fun h => h) (fun _ _ h => h)) ?_ hz2 (by omega) (by omega) (by omega) (by omega) (by omega)
    · exact ((hA.keeps (Mem.Keeps.of_below hb4) (fun h => h) (fun _ _ h => h))).keeps k4 (fun h => h) (fun _ _ h => h)
    · exact ((HB2.out.trans (hb3.mono hz2)).trans (hb4.mono (by omega))).alloc (by omega) _
  obtain ⟨g, hg⟩ : ∃ g, w4.heap.size = g := ⟨_, rfl⟩
  rw [hg] at HT0 ⊢
  rw [hw5]
  obtain ⟨p0, hp0⟩ : ∃ p0, pl0 w2.heap.size w3.heap.size = p0 := ⟨_, rfl⟩
  obtain ⟨l0, hl0⟩ : ∃ l0, lab0 w.heap.size g w2.heap.size w3.heap.size = l0 := ⟨_, rfl⟩
  rw [hp0, hl0] at HT0
  clear hw5 hg hp0 hl0 hA hB hb3 hb4 hs3 hs4 hz2 HB1 HB2
  go_wp2
  go_loopw [4] (LRel w g acs) (fun t _ => acs.length - (intOf t).toNat)
  case atStart => exact ⟨⟨0, p0, ws0, l0, by omega, rfl, HT0, LGood.start, Bd.start.mono (by omega), by simp [ws0]⟩⟩
  case round =>
    obtain ⟨k, p, s, lab, hk, rfl, HW, HG, HBd, hp6⟩ := hrel.out
    clear HT0
    by_cases hlt : k < acs.length
    · obtain ⟨b, o, a, rfl, hb, hp, p0', p1', p2', p3'⟩ := ac_elem HR.out hlt
      have HAI := Lib.hid (HD.out a (List.mem_of_getElem? hp))
      have HTS : Hid (len1 (acs.take (k + 1)) = len1 (acs.take k) + (1 + a.data.length)) := by show _ = _; rw [Mem.take_snoc hp, len1_snoc]
      have hcost : len1 (acs.take k) + (1 + a.data.length) ≤ 2000 := by have := len1_take acs (k + 1); rw [HTS.out] at this; have := HC.out; omega
      have HQ : Hid (w.cell? ⟨b, o + k * 4, none⟩ = some (.int .i64 a.kind) ∧ w.cell? ⟨b, o + k * 4 + 1, none⟩ = some (.int .i64 a.n) ∧ w.cell? ⟨b, o + k * 4 + 2, none⟩ = some (.bool a.twice) ∧ w.cell? ⟨b, o + k * 4 + 3, none⟩ = some (.slice a.D a.data.length a.dc)) := ⟨p0', p1', p2', p3'⟩
      have c2 := HW.out.cell (i := 2) rfl
      have c3 := HW.out.cell (i := 3) rfl
      have hw1 : IntKind.i64.wrap (((s.pk 2).length : Int) + ((s.pk 3).length : Int)) = ((s.pk 2).length : Int) + ((s.pk 3).length : Int) := IntWalk.i64_in _ (by omega)
      clear hp p0' p1' p2' p3'
      by_cases h5 : 500 < (s.pk 2).length + (s.pk 3).length
      · have h5d : decide ((500 : Int) < ((s.pk 2).length : Int) + ((s.pk 3).length : Int)) = true := by simp; omega
        clear h5
        go_wp2
        go_quiet (fail)
        go_wp2
        go_ret
        exact ⟨rfl, Mem.below_drewN HW.out.bl _⟩
      · have h5d : decide ((500 : Int) < ((s.pk 2).length : Int) + ((s.pk 3).length : Int)) = false := by simp; omega
        have H5 := Lib.hid h5
        clear h5
        go_wp2
        go_quiet (fail)
        go_upto_region 10 with fail
        obtain ⟨w3, hw3⟩ : ∃ w3, wr.drewN nq = w3 := ⟨_, rfl⟩
        have H3 : Hid (WL w w3 g p s lab) := by show WL _ _ _ _ _ _; rw [← hw3]; exact HW.out.quiet ((Mem.Keeps.refl _ _).drewN _)
        rw [hw3]
        clear hw1 h5d hw3 HW c2 c3
        have c0 := H3.out.cell (i := 0) rfl
        have c1 := H3.out.cell (i := 1) rfl
        have HE0 := Lib.hid (H3.out.en 0 (by omega))
        have HE1 := Lib.hid (H3.out.en 1 (by omega))
        go_wp2
        go_quiet ((first | (go_at_call 19; with_reducible exact quiet1_life HE0.out.box _) | (go_at_call 19; with_reducible exact quiet1_life HE1.out.box _)))
        go_upto_region 11 with fail
        obtain ⟨w4, hw4⟩ : ∃ w4, w3.drewN nq = w4 := ⟨_, rfl⟩
        have H4 : Hid (WL w w4 g p s lab) := by show WL _ _ _ _ _ _; rw [← hw4]; exact H3.out.quiet ((Mem.Keeps.refl _ _).drewN _)
        rw [hw4]
        clear hw4 H3 HE0 HE1 c0 c1
        have q0 := (H4.out.bl.cell (p := ⟨b, o + k * 4, none⟩) hb).trans HQ.out.1
        have q1 := (H4.out.bl.cell (p := ⟨b, o + k * 4 + 1, none⟩) hb).trans HQ.out.2.1
        have q2 := (H4.out.bl.cell (p := ⟨b, o + k * 4 + 2, none⟩) hb).trans HQ.out.2.2.1
        have q3 := (H4.out.bl.cell (p := ⟨b, o + k * 4 + 3, none⟩) hb).trans HQ.out.2.2.2
        go_upto_region 12 with fail
        obtain ⟨w5, hw5⟩ : ∃ w5, w4.alloc (.cells #[.int .i64 a.kind, .int .i64 a.n, .bool a.twice, .slice a.D a.data.length a.dc] 34) = w5 := ⟨_, rfl⟩
        have H5' : Hid (WL w w5 g p s lab) := by show WL _ _ _ _ _ _; rw [← hw5]; exact H4.out.quiet ((Mem.Keeps.refl _ _).alloc _)
        have hz : ∀ j, w5.cell? ⟨w4.heap.size, j, none⟩ = #[Value.int .i64 a.kind, .int .i64 a.n, .bool a.twice, .slice a.D a.data.length a.dc][j]? := fun j => by rw [← hw5, cell_of_row _ _ _ _ _ _ (heap_alloc_new w4 _)]
        have z0 := hz 0
        have z1 := hz 1
        have z2 := hz 2
        have z3 := hz 3
        simp only [List.getElem?_toArray, List.getElem?_cons_zero, List.getElem?_cons_succ] at z0 z1 z2 z3
        have hb5 : w4.heap.size < w5.heap.size := by rw [← hw5]; simp
        obtain ⟨b0, hb0⟩ : ∃ b0, w4.heap.size = b0 := ⟨_, rfl⟩
        rw [hb0] at z0 z1 z2 z3 hb5 ⊢
        rw [hw5]
        clear hz hw5 hb0 q0 q1 q2 q3 H4
        have c6 := H5'.out.cell (i := 6) rfl
        have c7 := H5'.out.cell (i := 7) rfl
        go_wp2
        go_quiet (fail)
        go_upto_region 13 with fail
        obtain ⟨w6, hw6⟩ : ∃ w6, w5.drewN nq = w6 := ⟨_, rfl⟩
        have H6 : Hid (WL w w6 g p s lab) := by show WL _ _ _ _ _ _; rw [← hw6]; exact H5'.out.quiet ((Mem.Keeps.refl _ _).drewN _)
        have y0 : w6.cell? ⟨b0, 0, none⟩ = some (.int .i64 a.kind) := by rw [← hw6]; exact z0
        have HZ1 : Hid (w6.cell? ⟨b0, 1, none⟩ = some (.int .i64 a.n)) := by show _ = _; rw [← hw6]; exact z1
        have HZ2 : Hid (w6.cell? ⟨b0, 2, none⟩ = some (.bool a.twice)) := by show _ = _; rw [← hw6]; exact z2
        have HZ3 : Hid (w6.cell? ⟨b0, 3, none⟩ = some (.slice a.D a.data.length a.dc)) := by show _ = _; rw [← hw6]; exact z3
        have hb6 : b0 < w6.heap.size := by rw [← hw6]; exact hb5
        rw [hw6]
        clear hw6 z0 z1 z2 z3 c6 c7 H5' hb5
        obtain ⟨s2, hs2⟩ : ∃ s2, actW s a = s2 := ⟨_, rfl⟩
        have HS2 := Lib.hid hs2
        clear hs2
        go_upto_if 62 with fail
        go_cut [] (fun wx => AMid w g s2 wx)
        case first =>
          by_cases k7 : a.kind = 7
          · have k7d : (a.kind == 7) = true := by simp [k7]
            have HAW : Hid (actW s a = { s with e := upd s.e 0 (renew (s.e 0) a.n) }) := act7 k7
            clear k7
            have e0 := H6.out.cell (i := 0) rfl
            have z1 := HZ1.out
            have hg6 := H6.out.lt
            go_upto_region 14 with fail
            refine Reg.wp_region_w (by kernel_rfl) 176 7 rfl rfl (by kernel_rfl) (6) (fun y => y = p.g 0) (0) (fun _ => False) (0) (fun _ => False)
              (fun i v u => match i with
                | 0 => v = .pointer (some ⟨g, 0, none⟩)
                | 1 => v = .pointer (some ⟨g, 0, none⟩)
                | 2 => v = .pointer (some ⟨g, 0, none⟩)
                | 3 => v = .pointer (some ⟨p.g 0, 0, none⟩)
                | 4 => v = .pointer (some ⟨b0, 1, none⟩)
                | 5 => v = .int .i64 a.n
                | 6 => ∃ A2 c2, Link.At u (p.g 0) A2 c2 (Link.renew (s.e 0) a.n) ∧ (A2 = p.O 0 ∨ A2 = none)
                | _ => True) ?_ ?_
            · refine Reg.Steps.cons ?_ (Reg.Steps.cons ?_ (Reg.Steps.cons ?_ (Reg.Steps.cons ?_ (Reg.Steps.cons ?_ (Reg.Steps.cons ?_ (Reg.Steps.cons ?_ (Reg.Steps.nil _)))))))
              · intro val ac u hR hp ha K hK      -- 0: t63 := Op.move t3
                have e3 : (ac.tmps[3]?).getD undef = .pointer (some ⟨g, 0, none⟩) := ha 3 (by decide)
                clear ha hp
                refine Reg.Op1.plain rfl ?_
                go_wp2
                exact ⟨rfl, hK _ _ rfl (Reg.Wr.same _)⟩
              · intro val ac u hR hp ha K hK      -- 1: t64 := Op.nilCheck t63
                obtain ⟨w63, h63, r63⟩ := hp 0 (by decide)
                have e63 : (ac.tmps[63]?).getD undef = .pointer (some ⟨g, 0, none⟩) := (ha 63 (by decide)).trans h63
                clear h63
                clear ha hp
                refine Reg.Op1.plain rfl ?_
                go_wp2
                exact ⟨rfl, hK _ _ rfl (Reg.Wr.same _)⟩
              · intro val ac u hR hp ha K hK      -- 2: t65 := Op.fieldAddr 31 t64 0
                obtain ⟨w64, h64, r64⟩ := hp 1 (by decide)
                have e64 : (ac.tmps[64]?).getD undef = .pointer (some ⟨g, 0, none⟩) := (ha 64 (by decide)).trans h64
                clear h64
                clear ha hp
                refine Reg.Op1.plain rfl ?_
                go_wp2
                exact ⟨rfl, hK _ _ rfl (Reg.Wr.same _)⟩
              · intro val ac u hR hp ha K hK      -- 3: t66 := Op.load 26 t65
                obtain ⟨w65, h65, r65⟩ := hp 2 (by decide)
                have e65 : (ac.tmps[65]?).getD undef = .pointer (some ⟨g, 0, none⟩) := (ha 65 (by decide)).trans h65
                clear h65
                clear ha hp
                refine Reg.Op1.plain rfl ?_
                have x0 := (((Reg.Wr.not1 hR (by decide +kernel))).cell (p := ⟨g, 0, none⟩) (hg6) (fun h => h.elim id id)).trans (e0)
                go_wp2
                exact ⟨rfl, hK _ _ rfl (Reg.Wr.same _)⟩
              · intro val ac u hR hp ha K hK      -- 4: t67 := Op.fieldAddr 34 t7 1
                have e7 : (ac.tmps[7]?).getD undef = .pointer (some ⟨b0, 0, none⟩) := ha 7 (by decide)
                clear ha hp
                refine Reg.Op1.plain rfl ?_
                go_wp2
                exact ⟨rfl, hK _ _ rfl (Reg.Wr.same _)⟩
              · intro val ac u hR hp ha K hK      -- 5: t68 := Op.load 3 t67
                obtain ⟨w67, h67, r67⟩ := hp 4 (by decide)
                have e67 : (ac.tmps[67]?).getD undef = .pointer (some ⟨b0, 1, none⟩) := (ha 67 (by decide)).trans h67
                clear h67
                clear ha hp
                refine Reg.Op1.plain rfl ?_
                have x0 := (((Reg.Wr.not1 hR (by decide +kernel))).cell (p := ⟨b0, 1, none⟩) (hb6) (fun h => h.elim id id)).trans (z1)
                go_wp2
                exact ⟨rfl, hK _ _ rfl (Reg.Wr.same _)⟩
              · intro val ac u hR hp ha K hK      -- 6: t69 := Op.call { value (Operand.func 20), args := #[t66, t68], argTypes := #[26, 3] }
                obtain ⟨w66, h66, r66⟩ := hp 3 (by decide)
                have e66 : (ac.tmps[66]?).getD undef = .pointer (some ⟨p.g 0, 0, none⟩) := (ha 66 (by decide)).trans h66
                clear h66
                obtain ⟨w68, h68, r68⟩ := hp 5 (by decide)
                have e68 : (ac.tmps[68]?).getD undef = .int .i64 a.n := (ha 68 (by decide)).trans h68
                clear h68
                clear ha hp
                refine Reg.Op1.plain rfl ?_
                have hq : Mem.Keeps (fun _ => False ∨ False) w6 u := (Mem.Keeps.refl (fun _ => False ∨ False) w6).drew.trans (Reg.Wr.not1 hR (by decide +kernel)) (fun _ h _ => h)
                have hen := (H6.out.en 0 (by omega)).keeps hq (fun h => h.elim id id) (fun _ _ h => h.elim id id)
                go_wp2_with fail
                refine (renew_any hen a.n).mono ?_
                rintro x w' ⟨A2, c2, rfl, hA2, hk2, hm2⟩
                go_wp2_with fail
                exact ⟨rfl, hK _ _ ⟨A2, c2, hA2, hm2⟩ (Reg.Wr.does1 hk2)⟩
            · intro val u hR H
              obtain ⟨wA, ⟨A2, c2, hA2, hmA⟩, rA⟩ := H 6 (by decide)
              have hA3 := hA2.keeps (Reg.Wr.none rA (by decide +kernel) (by decide +kernel) (by decide +kernel)) (fun h => h) (fun _ _ h => h)
              have hk2 : Mem.Keeps (fun y => lab y = 0 ∨ lab y = 8 + 0) w6 u := Mem.Keeps.mono ((Mem.Keeps.refl (fun y => y = p.g 0 ∨ False ∨ False) w6).drew.trans (Reg.Wr.all hR) (fun _ h _ => h)) (fun y h _ => by
                rcases h with h | h | h
                · exact .inl (by rw [h]; exact H6.out.le 0 (by omega))
                · exact h.elim
                · exact h.elim)
              have hwl := H6.out.endd (i := 0) (by omega) hA3 hk2 (hmA.elim (fun h => .inl (by rw [h])) (fun h => .inr (.inl (by rw [h]; rfl))))
              have HM : Hid (AMid w g s2 u) := by
                show AMid w g s2 u
                rw [← HS2.out, HAW.out]
                exact ⟨_, _, hwl⟩
              simp only [List.map_cons, List.map_nil, Reg.lay, Act.put, List.setIfInBounds_toArray, List.set_cons_succ, List.set_cons_zero, Nat.reduceAdd]
              clear hR H hk2 hA3 hA2 rA hwl
              go_wp2
              go_meet
              case rel => exact HM.out
          · have k7d : (a.kind == 7) = false := by simp [k7]
            by_cases k8 : a.kind = 8
            · have k8d : (a.kind == 8) = true := by simp [k8]
              have HAW : Hid (actW s a = { s with e := upd s.e 1 (renew (s.e 1) a.n) }) := act8 k7 k8
              clear k7 k8
              have e0 := H6.out.cell (i := 1) rfl
              have z1 := HZ1.out
              have hg6 := H6.out.lt
              go_upto_region 16 with fail
              refine Reg.wp_region_w (by kernel_rfl) 176 7 rfl rfl (by kernel_rfl) (6) (fun y => y = p.g 1) (0) (fun _ => False) (0) (fun _ => False)
                (fun i v u => match i with
                  | 0 => v = .pointer (some ⟨g, 0, none⟩)
                  | 1 => v = .pointer (some ⟨g, 0, none⟩)
                  | 2 => v = .pointer (some ⟨g, 1, none⟩)
                  | 3 => v = .pointer (some ⟨p.g 1, 0, none⟩)
                  | 4 => v = .pointer (some ⟨b0, 1, none⟩)
                  | 5 => v = .int .i64 a.n
                  | 6 => ∃ A2 c2, Link.At u (p.g 1) A2 c2 (Link.renew (s.e 1) a.n) ∧ (A2 = p.O 1 ∨ A2 = none)
                  | _ => True) ?_ ?_
              · refine Reg.Steps.cons ?_ (Reg.Steps.cons ?_ (Reg.Steps.cons ?_ (Reg.Steps.cons ?_ (Reg.Steps.cons ?_ (Reg.Steps.cons ?_ (Reg.Steps.cons ?_ (Reg.Steps.nil _)))))))
                · intro val ac u hR hp ha K hK      -- 0: t73 := Op.move t3
                  have e3 : (ac.tmps[3]?).getD undef = .pointer (some ⟨g, 0, none⟩) := ha 3 (by decide)
                  clear ha hp
                  refine Reg.Op1.plain rfl ?_
                  go_wp2
                  exact ⟨rfl, hK _ _ rfl (Reg.Wr.same _)⟩
                · intro val ac u hR hp ha K hK      -- 1: t74 := Op.nilCheck t73
                  obtain ⟨w73, h73, r73⟩ := hp 0 (by decide)
                  have e73 : (ac.tmps[73]?).getD undef = .pointer (some ⟨g, 0, none⟩) := (ha 73 (by decide)).trans h73
                  clear h73
                  clear ha hp
                  refine Reg.Op1.plain rfl ?_
                  go_wp2
                  exact ⟨rfl, hK _ _ rfl (Reg.Wr.same _)⟩
                · intro val ac u hR hp ha K hK      -- 2: t75 := Op.fieldAddr 31 t74 1
                  obtain ⟨w74, h74, r74⟩ := hp 1 (by decide)
                  have e74 : (ac.tmps[74]?).getD undef = .pointer (some ⟨g, 0, none⟩) := (ha 74 (by decide)).trans h74
                  clear h74
                  clear ha hp
                  refine Reg.Op1.plain rfl ?_
                  go_wp2
                  exact ⟨rfl, hK _ _ rfl (Reg.Wr.same _)⟩
                · intro val ac u hR hp ha K hK      -- 3: t76 := Op.load 26 t75
                  obtain ⟨w75, h75, r75⟩ := hp 2 (by decide)
                  have e75 : (ac.tmps[75]?).getD undef = .pointer (some ⟨g, 1, none⟩) := (ha 75 (by decide)).trans h75
                  clear h75
                  clear ha hp
                  refine Reg.Op1.plain rfl ?_
                  have x0 := (((Reg.Wr.not1 hR (by decide +kernel))).cell (p := ⟨g, 1, none⟩) (hg6) (fun h => h.elim id id)).trans (e0)
                  go_wp2
                  exact ⟨rfl, hK _ _ rfl (Reg.Wr.same _)⟩
                · intro val ac u hR hp ha K hK      -- 4: t77 := Op.fieldAddr 34 t7 1
                  have e7 : (ac.tmps[7]?).getD undef = .pointer (some ⟨b0, 0, none⟩) := ha 7 (by decide)
                  clear ha hp
                  refine Reg.Op1.plain rfl ?_
                  go_wp2
                  exact ⟨rfl, hK _ _ rfl (Reg.Wr.same _)⟩
                · intro val ac u hR hp ha K hK      -- 5: t78 := Op.load 3 t77
                  obtain ⟨w77, h77, r77⟩ := hp 4 (by decide)
                  have e77 : (ac.tmps[77]?).getD undef = .pointer (some ⟨b0, 1, none⟩) := (ha 77 (by decide)).trans h77
                  clear h77
                  clear ha hp
                  refine Reg.Op1.plain rfl ?_
                  have x0 := (((Reg.Wr.not1 hR (by decide +kernel))).cell (p := ⟨b0, 1, none⟩) (hb6) (fun h => h.elim id id)).trans (z1)
                  go_wp2
                  exact ⟨rfl, hK _ _ rfl (Reg.Wr.same _)⟩
                · intro val ac u hR hp ha K hK      -- 6: t79 := Op.call { value (Operand.func 20), args := #[t76, t78], argTypes := #[26, 3] }
                  obtain ⟨w76, h76, r76⟩ := hp 3 (by decide)
                  have e76 : (ac.tmps[76]?).getD undef = .pointer (some ⟨p.g 1, 0, none⟩) := (ha 76 (by decide)).trans h76
                  clear h76
                  obtain ⟨w78, h78, r78⟩ := hp 5 (by decide)
                  have e78 : (ac.tmps[78]?).getD undef = .int .i64 a.n := (ha 78 (by decide)).trans h78
                  clear h78
                  clear ha hp
                  refine Reg.Op1.plain rfl ?_
                  have hq : Mem.Keeps (fun _ => False ∨ False) w6 u := (Mem.Keeps.refl (fun _ => False ∨ False) w6).drew.trans (Reg.Wr.not1 hR (by decide +kernel)) (fun _ h _ => h)
                  have hen := (H6.out.en 1 (by omega)).keeps hq (fun h => h.elim id id) (fun _ _ h => h.elim id id)
                  go_wp2_with fail
                  refine (renew_any hen a.n).mono ?_
                  rintro x w' ⟨A2, c2, rfl, hA2, hk2, hm2⟩
                  go_wp2_with fail
                  exact ⟨rfl, hK _ _ ⟨A2, c2, hA2, hm2⟩ (Reg.Wr.does1 hk2)⟩
              · intro val u hR H
                obtain ⟨wA, ⟨A2, c2, hA2, hmA⟩, rA⟩ := H 6 (by decide)
                have hA3 := hA2.keeps (Reg.Wr.none rA (by decide +kernel) (by decide +kernel) (by decide +kernel)) (fun h => h) (fun _ _ h => h)
                have hk2 : Mem.Keeps (fun y => lab y = 1 ∨ lab y = 8 + 1) w6 u := Mem.Keeps.mono ((Mem.Keeps.refl (fun y => y = p.g 1 ∨ False ∨ False) w6).drew.trans (Reg.Wr.all hR) (fun _ h _ => h)) (fun y h _ => by
                  rcases h with h | h | h
                  · exact .inl (by rw [h]; exact H6.out.le 1 (by omega))
                  · exact h.elim
                  · exact h.elim)
                have hwl := H6.out.endd (i := 1) (by omega) hA3 hk2 (hmA.elim (fun h => .inl (by rw [h])) (fun h => .inr (.inl (by rw [h]; rfl))))
                have HM : Hid (AMid w g s2 u) := by
                  show AMid w g s2 u
                  rw [← HS2.out, HAW.out]
                  exact ⟨_, _, hwl⟩
                simp only [List.map_cons, List.map_nil, Reg.lay, Act.put, List.setIfInBounds_toArray, List.set_cons_succ, List.set_cons_zero, Nat.reduceAdd]
                clear hR H hk2 hA3 hA2 rA hwl
                go_wp2
                go_meet
                case rel => exact HM.out
            · have k8d : (a.kind == 8) = false := by simp [k8]
              have HAW : Hid (actW s a = stepW s a) := act0 k7 k8
              have z1 := HZ1.out
              have z2 := HZ2.out
              have z3 := HZ3.out
              have hs5 : (s.pk 2).length + (s.pk 3).length ≤ 100000 := by omega
              clear k7 k8
              go_wp2_with fail
              refine (step_any H6.out a HAI.out.ok (by omega) hs5 (fun i hi => (HBd.out.fe i hi).mono (by omega)) (fun i h1 h2 => Nat.le_trans (HBd.out.fs i h1 h2) (by omega))).mono ?_
              rintro x w7 ⟨rfl, p2, lab2, hW2⟩
              have HM : Hid (AMid w g s2 w7) := by
                show AMid w g s2 w7
                rw [← HS2.out, HAW.out]
                exact ⟨_, _, hW2⟩
              go_wp2
              go_meet
              case rel => exact HM.out
        case rest =>
          obtain ⟨p7, lab7, hW7⟩ := hcut.out
          have H7 := Lib.hid hW7
          clear hW7 hcut H6 HZ1 HZ2 HZ3 y0 hb6
          rename World => w7
          have hl0 := actW_life s a 0
          have hl1 := actW_life s a 1
          have hst6 := act_st s a 6
          have hst7 := act_st s a 7
          have hB2 := HBd.out.act (a := a)
          have hpk2 := act_pk (a := a) HBd.out
          have hlv := HG.out.lives (a := a)
          unfold livesW at hlv
          rw [HS2.out] at hl0 hl1 hst6 hst7 hB2 hpk2 hlv
          have HLV := Lib.hid hlv
          have HB2 : Hid (Bd s2 (len1 (acs.take (k + 1)))) := by show Bd _ _; rw [HTS.out]; exact hB2
          have hk2 : len1 (acs.take (k + 1)) ≤ 2000 := by rw [HTS.out]; exact hcost
          have HPK : Hid ((s2.pk 2).length + (s2.pk 3).length ≤ 600) := by have := H5.out; show _ ≤ _; omega
          have hla : decide ((s2.e 0).life < (s.e 0).life) = false := by simp; omega
          have hlb : decide ((s2.e 1).life < (s.e 1).life) = false := by simp; omega
          have c0 := H7.out.cell (i := 0) rfl
          have c1 := H7.out.cell (i := 1) rfl
          have HE0 := Lib.hid (H7.out.en 0 (by omega))
          have HE1 := Lib.hid (H7.out.en 1 (by omega))
          have HL := Lib.hid (And.intro hl0 hl1)
          have HST := Lib.hid (And.intro hst6 hst7)
          clear hlv hB2 hpk2 HS2 HBd HG hp6 hl0 hl1 hst6 hst7
          go_upto_region 20 with (first | (go_at_call 19; refine (life_any HE0.out.box).mono ?_; rintro _ _ ⟨rfl, rfl⟩) | (go_at_call 19; refine (life_any HE1.out.box).mono ?_; rintro _ _ ⟨rfl, rfl⟩))
          have HGO : Hid ((s.st 6).length ≤ (s2.st 6).length) := HST.out.1
          have HNO : Hid ((s2.st 6).length ≤ 2000) := Nat.le_trans (HB2.out.fs 6 (by omega) (by omega)) hk2
          clear c0 c1 HE0 HE1 hla hlb
          have ci := H7.out.cell (i := 0) rfl
          have HE := Lib.hid (H7.out.en 0 (by omega))
          go_upto_if 105 with (go_at_call 19; refine (life_any HE.out.box).mono ?_; rintro _ _ ⟨rfl, rfl⟩)
          go_cut [] (fun wx => AMid w g (past s s2 0 4 6) wx)
          case first =>
            by_cases hup : (s.e 0).life < (s2.e 0).life
            · have hupd : decide ((s.e 0).life < (s2.e 0).life) = true := by simpa using hup
              have HUP : Hid (past s s2 0 4 6 = { s2 with st := upd (upd s2.st 4 []) 6 ((s2.st 6).drop (s.st 6).length) }) := past_up hup
              have xT := H7.out.cell (i := 4) rfl
              have xf := H7.out.fr 4
              have hgl := H7.out.lt
              go_upto_region 22 with fail
              obtain ⟨w8, hw8⟩ : ∃ w8, w7.setCell ⟨g, 4, none⟩ (.slice none 0 0) = w8 := ⟨_, rfl⟩
              have hH8 : WL w w8 g { p7 with X := upd p7.X 4 none, xc := upd p7.xc 4 0 } { s2 with st := upd s2.st 4 [] } (relab lab7 w7.heap.size 4) := by
                have hkk : Mem.Keeps (fun q => lab7 q = 4 ∨ lab7 q = 10) w7 w8 := by rw [← hw8]; exact (Mem.Keeps.refl _ _).setCell (fun _ => .inr H7.out.lg) _
                refine H7.out.strs (i := 4) (by omega) (by omega) (Mem.Own.nil _ _ _) ?_ hkk (.inr (.inl rfl))
                rw [← hw8]
                have := Mem.Own.set H7.out.box 4 (.slice none 0 0)
                simpa using this
              rw [hw8]
              obtain ⟨p8, hp8⟩ : ∃ p8 : Pl, { p7 with X := upd p7.X 4 none, xc := upd p7.xc 4 0 } = p8 := ⟨_, rfl⟩
              obtain ⟨lab8, hl8⟩ : ∃ lab8, relab lab7 w7.heap.size 4 = lab8 := ⟨_, rfl⟩
              rw [hp8, hl8] at hH8
              have H8 := Lib.hid hH8
              clear hH8 hp8 hl8 hw8 xT xf hgl ci HE
              have x8 : w8.cell? ⟨g, 6, none⟩ = some (.slice (p8.X 6) (s2.st 6).length (p8.xc 6)) := H8.out.cell (i := 6) rfl
              have hg8 := H8.out.lt
              have ho8 := Lib.hid (show Mem.Own w8 9 1 (p8.X 6) (s2.st 6).length (p8.xc 6) ((s2.st 6).map strV) from H8.out.st 6 (by omega) (by omega))
              have hle8 : (s2.st 6).length ≤ p8.xc 6 := ho8.out.le
              have hcap8 : p8.xc 6 ≤ maxLen := ho8.out.cap
              have hgo := HGO.out
              have hno := HNO.out
              have hcap9 := hcap8
              unfold maxLen at hcap9
              have HRD : ∃ A2 c2, Hid (Mem.Rd w8 w8.heap.size A2 (((s2.st 6).drop (s.st 6).length).map Link.strV)) ∧ (if p8.xc 6 = (s.st 6).length then (p8.X 6) else (p8.X 6).map (fun x => x.add (s.st 6).length)) = A2 ∧ p8.xc 6 - (s.st 6).length = c2 := by
                refine ⟨_, _, ?_, rfl, rfl⟩
                show Mem.Rd _ _ _ _
                split
                · rename_i e
                  left
                  rw [List.drop_eq_nil_of_le (by omega)]; rfl
                · rename_i e
                  obtain ⟨bb, oo, hX⟩ := Mem.Own.form2 ho8.out (by show 0 < p8.xc 6; omega)
                  have h1 := ho8.out
                  rw [hX] at h1 ⊢
                  have h2 := (Mem.Own.drop h1 (k := (s.st 6).length) hgo).rd
                  rw [Option.map_some, Mem.add_flat]
                  rw [Nat.mul_one] at h2
                  rw [List.map_drop]
                  exact h2
              obtain ⟨A2, c2, HR2, hA2, hc2⟩ := HRD
              clear hgo hcap8
              go_wp2_with (at_builtin; refine Mem.wpList_clone _ rfl (.tmp 110) (.tmp 116) _ rfl strs_elem _ rfl w8 w8.heap.size A2 ((s2.st 6).length - (s.st 6).length) c2 (((s2.st 6).drop (s.st 6).length).map Link.strV) rfl ?_ rfl (Below.refl _ _) (Nat.le_refl _) HR2.out (by simp) (Link.str_one _) (by unfold maxLen; omega) (by omega); intro A9 c9 wq hown hb9 hs9 hf9; have HO9 := Lib.hid hown; have HB9 := Lib.hid hb9; have HF9 := Lib.hid hf9; clear hown hb9 hf9 hs9; have x9 := (HB9.out.cell (p := ⟨g, 6, none⟩) hg8).trans x8; have f9 : wq.frozen? ⟨g, 6, none⟩ = false := (HB9.out.frozen (p := ⟨g, 6, none⟩) hg8).trans (H8.out.fr 6))
              go_meet
              case rel =>
                rw [HUP.out]
                have hln : ((s2.st 6).drop (s.st 6).length).length = (s2.st 6).length - (s.st 6).length := List.length_drop
                have hkk : Mem.Keeps (fun q => lab8 q = 6 ∨ lab8 q = 10) w8 (wq.setCell ⟨g, 6, none⟩ (.slice A9 ((s2.st 6).length - (s.st 6).length) c9)) := ((Mem.Keeps.of_below HB9.out).mono (fun _ h _ => h.elim)).setCell (fun _ => .inr H8.out.lg) _
                have hO : Mem.Own (wq.setCell ⟨g, 6, none⟩ (.slice A9 ((s2.st 6).length - (s.st 6).length) c9)) 9 1 A9 ((s2.st 6).drop (s.st 6).length).length c9 (((s2.st 6).drop (s.st 6).length).map strV) := by
                  rw [hln]
                  exact HO9.out.keeps ((Mem.Keeps.refl (fun q => q = g) wq).setCell (p := ⟨g, 6, none⟩) (fun _ => rfl) _) (fun y h1 h => by have := HF9.out.blk y h1; omega)
                have hbx : Mem.Own (wq.setCell ⟨g, 6, none⟩ (.slice A9 ((s2.st 6).length - (s.st 6).length) c9)) 31 8 (some ⟨g, 0, none⟩) 1 1 ((wCells p8 { s2 with st := upd s2.st 4 [] }).set 6 (.slice A9 ((s2.st 6).drop (s.st 6).length).length c9)) := by
                  rw [hln]
                  have h1 := Mem.Own.set (H8.out.box.below HB9.out (fun k hk => by cases hk; exact hg8)) 6 (.slice A9 ((s2.st 6).length - (s.st 6).length) c9)
                  rwa [Nat.zero_add] at h1
                exact ⟨_, _, H8.out.strs (i := 6) (by omega) (by omega) hO hbx hkk (.inr (.inr HF9.out))⟩
            · have hupd : decide ((s.e 0).life < (s2.e 0).life) = false := by simpa using hup
              have HUP : past s s2 0 4 6 = s2 := if_neg hup
              go_wp2
              go_meet
              case rel => rw [HUP]; exact ⟨_, _, H7.out⟩
          case rest =>
            obtain ⟨p9, lab9, hW9⟩ := hcut.out
            obtain ⟨s3, hs3⟩ : ∃ s3, past s s2 0 4 6 = s3 := ⟨_, rfl⟩
            have he3 : s3.e = s2.e := by rw [← hs3]; exact past_e _ _ _ _ _
            have hp3 : s3.pk = s2.pk := by rw [← hs3]; exact past_pk _ _ _ _ _
            have h73 : s3.st 7 = s2.st 7 := by rw [← hs3]; exact past_st _ _ (by omega) (by omega)
            have hB3 := HB2.out.past (s := s) (i := 0) (t := 4) (o := 6)
            have hlv := HLV.out
            rw [hs3] at hW9 hB3 hlv
            have HN := Lib.hid hW9
            have HB3 := Lib.hid hB3
            have HLV3 := Lib.hid hlv
            have HGO7 : Hid ((s.st 7).length ≤ (s3.st 7).length) := by show _ ≤ _; rw [h73]; exact HST.out.2
            have HNO7 : Hid ((s3.st 7).length ≤ 2000) := Nat.le_trans (HB3.out.fs 7 (by omega) (by omega)) hk2
            have HPK3 : Hid ((s3.pk 2).length + (s3.pk 3).length ≤ 600) := by show _ ≤ _; rw [hp3]; exact HPK.out
            clear hW9 hB3 hlv hs3 he3 hp3 h73 hcut H7 HB2 HLV HPK HGO HNO HST HL
            rename World => wu
            go_upto_region 23 with fail
            have ci := HN.out.cell (i := 1) rfl
            have HE := Lib.hid (HN.out.en 1 (by omega))
            go_upto_if 126 with (go_at_call 19; refine (life_any HE.out.box).mono ?_; rintro _ _ ⟨rfl, rfl⟩)
            go_cut [] (fun wx => AMid w g (past s s3 1 5 7) wx)
            case first =>
              by_cases hup : (s.e 1).life < (s3.e 1).life
              · have hupd : decide ((s.e 1).life < (s3.e 1).life) = true := by simpa using hup
                have HUP : Hid (past s s3 1 5 7 = { s3 with st := upd (upd s3.st 5 []) 7 ((s3.st 7).drop (s.st 7).length) }) := past_up hup
                have xT := HN.out.cell (i := 5) rfl
                have xf := HN.out.fr 5
                have hgl := HN.out.lt
                go_upto_region 25 with fail
                obtain ⟨w8, hw8⟩ : ∃ w8, wu.setCell ⟨g, 5, none⟩ (.slice none 0 0) = w8 := ⟨_, rfl⟩
                have hH8 : WL w w8 g { p9 with X := upd p9.X 5 none, xc := upd p9.xc 5 0 } { s3 with st := upd s3.st 5 [] } (relab lab9 wu.heap.size 5) := by
                  have hkk : Mem.Keeps (fun q => lab9 q = 5 ∨ lab9 q = 10) wu w8 := by rw [← hw8]; exact (Mem.Keeps.refl _ _).setCell (fun _ => .inr HN.out.lg) _
                  refine HN.out.strs (i := 5) (by omega) (by omega) (Mem.Own.nil _ _ _) ?_ hkk (.inr (.inl rfl))
                  rw [← hw8]
                  have := Mem.Own.set HN.out.box 5 (.slice none 0 0)
                  simpa using this
                rw [hw8]
                obtain ⟨p8, hp8⟩ : ∃ p8 : Pl, { p9 with X := upd p9.X 5 none, xc := upd p9.xc 5 0 } = p8 := ⟨_, rfl⟩
                obtain ⟨lab8, hl8⟩ : ∃ lab8, relab lab9 wu.heap.size 5 = lab8 := ⟨_, rfl⟩
                rw [hp8, hl8] at hH8
                have H8 := Lib.hid hH8
                clear hH8 hp8 hl8 hw8 xT xf hgl ci HE
                have x8 : w8.cell? ⟨g, 7, none⟩ = some (.slice (p8.X 7) (s3.st 7).length (p8.xc 7)) := H8.out.cell (i := 7) rfl
                have hg8 := H8.out.lt
                have ho8 := Lib.hid (show Mem.Own w8 9 1 (p8.X 7) (s3.st 7).length (p8.xc 7) ((s3.st 7).map strV) from H8.out.st 7 (by omega) (by omega))
                have hle8 : (s3.st 7).length ≤ p8.xc 7 := ho8.out.le
                have hcap8 : p8.xc 7 ≤ maxLen := ho8.out.cap
                have hgo := HGO7.out
                have hno := HNO7.out
                have hcap9 := hcap8
                unfold maxLen at hcap9
                have HRD : ∃ A2 c2, Hid (Mem.Rd w8 w8.heap.size A2 (((s3.st 7).drop (s.st 7).length).map Link.strV)) ∧ (if p8.xc 7 = (s.st 7).length then (p8.X 7) else (p8.X 7).map (fun x => x.add (s.st 7).length)) = A2 ∧ p8.xc 7 - (s.st 7).length = c2 := by
                  refine ⟨_, _, ?_, rfl, rfl⟩
                  show Mem.Rd _ _ _ _
                  split
                  · rename_i e
                    left
                    rw [List.drop_eq_nil_of_le (by omega)]; rfl
                  · rename_i e
                    obtain ⟨bb, oo, hX⟩ := Mem.Own.form2 ho8.out (by show 0 < p8.xc 7; omega)
                    have h1 := ho8.out
                    rw [hX] at h1 ⊢
                    have h2 := (Mem.Own.drop h1 (k := (s.st 7).length) hgo).rd
                    rw [Option.map_some, Mem.add_flat]
                    rw [Nat.mul_one] at h2
                    rw [List.map_drop]
                    exact h2
                obtain ⟨A2, c2, HR2, hA2, hc2⟩ := HRD
                clear hgo hcap8
                go_wp2_with (at_builtin; refine Mem.wpList_clone _ rfl (.tmp 131) (.tmp 137) _ rfl strs_elem _ rfl w8 w8.heap.size A2 ((s3.st 7).length - (s.st 7).length) c2 (((s3.st 7).drop (s.st 7).length).map Link.strV) rfl ?_ rfl (Below.refl _ _) (Nat.le_refl _) HR2.out (by simp) (Link.str_one _) (by unfold maxLen; omega) (by omega); intro A9 c9 wq hown hb9 hs9 hf9; have HO9 := Lib.hid hown; have HB9 := Lib.hid hb9; have HF9 := Lib.hid hf9; clear hown hb9 hf9 hs9; have x9 := (HB9.out.cell (p := ⟨g, 7, none⟩) hg8).trans x8; have f9 : wq.frozen? ⟨g, 7, none⟩ = false := (HB9.out.frozen (p := ⟨g, 7, none⟩) hg8).trans (H8.out.fr 7))
                go_meet
                case rel =>
                  rw [HUP.out]
                  have hln : ((s3.st 7).drop (s.st 7).length).length = (s3.st 7).length - (s.st 7).length := List.length_drop
                  have hkk : Mem.Keeps (fun q => lab8 q = 7 ∨ lab8 q = 10) w8 (wq.setCell ⟨g, 7, none⟩ (.slice A9 ((s3.st 7).length - (s.st 7).length) c9)) := ((Mem.Keeps.of_below HB9.out).mono (fun _ h _ => h.elim)).setCell (fun _ => .inr H8.out.lg) _
                  have hO : Mem.Own (wq.setCell ⟨g, 7, none⟩ (.slice A9 ((s3.st 7).length - (s.st 7).length) c9)) 9 1 A9 ((s3.st 7).drop (s.st 7).length).length c9 (((s3.st 7).drop (s.st 7).length).map strV) := by
                    rw [hln]
                    exact HO9.out.keeps ((Mem.Keeps.refl (fun q => q = g) wq).setCell (p := ⟨g, 7, none⟩) (fun _ => rfl) _) (fun y h1 h => by have := HF9.out.blk y h1; omega)
                  have hbx : Mem.Own (wq.setCell ⟨g, 7, none⟩ (.slice A9 ((s3.st 7).length - (s.st 7).length) c9)) 31 8 (some ⟨g, 0, none⟩) 1 1 ((wCells p8 { s3 with st := upd s3.st 5 [] }).set 7 (.slice A9 ((s3.st 7).drop (s.st 7).length).length c9)) := by
                    rw [hln]
                    have h1 := Mem.Own.set (H8.out.box.below HB9.out (fun k hk => by cases hk; exact hg8)) 7 (.slice A9 ((s3.st 7).length - (s.st 7).length) c9)
                    rwa [Nat.zero_add] at h1
                  exact ⟨_, _, H8.out.strs (i := 7) (by omega) (by omega) hO hbx hkk (.inr (.inr HF9.out))⟩
              · have hupd : decide ((s.e 1).life < (s3.e 1).life) = false := by simpa using hup
                have HUP : past s s3 1 5 7 = s3 := if_neg hup
                go_wp2
                go_meet
                case rel => rw [HUP]; exact ⟨_, _, HN.out⟩
            case rest =>
              obtain ⟨pe, labe, hWe⟩ := hcut.out
              obtain ⟨s4, hs4⟩ : ∃ s4, past s s3 1 5 7 = s4 := ⟨_, rfl⟩
              have hp4 : s4.pk = s3.pk := by rw [← hs4]; exact past_pk _ _ _ _ _
              have hB4 := HB3.out.past (s := s) (i := 1) (t := 5) (o := 7)
              have hlv := HLV3.out
              rw [hs4] at hWe hB4 hlv
              have HX := Lib.hid hWe
              have HB4 := Lib.hid hB4
              have HLG : Hid (LGood s4) := hlv
              have HPK4 : Hid ((s4.pk 2).length + (s4.pk 3).length ≤ 600) := by show _ ≤ _; rw [hp4]; exact HPK3.out
              clear hWe hB4 hlv hs4 hp4 hcut HN HB3 HLV3 HPK3 HGO7 HNO7
              rename World => wv
              go_upto_region 26 with fail
              have c0 := HX.out.cell (i := 0) rfl
              have c1 := HX.out.cell (i := 1) rfl
              have c4 := HX.out.cell (i := 4) rfl
              have c5 := HX.out.cell (i := 5) rfl
              have c6 := HX.out.cell (i := 6) rfl
              have c7 := HX.out.cell (i := 7) rfl
              have HE0 := Lib.hid (HX.out.en 0 (by omega))
              have HE1 := Lib.hid (HX.out.en 1 (by omega))
              have HRELm := fun (m : Nat) => (⟨⟨k + 1, pe, s4, labe, by omega, by go_num, HX.out.quiet ((Mem.Keeps.refl _ _).drewN m), HLG, HB4, HPK4.out⟩⟩ : LRel w g acs (.int .i64 ((k : Int) + 1)) (wv.drewN m))
              have HREL := Lib.hid HRELm
              clear HRELm
              by_cases heq : (s4.e 0).life = (s4.e 1).life
              · have heqd : ((s4.e 0).life == (s4.e 1).life) = true := by simpa using heq
                have o4 := HX.out.st 4 (by omega) (by omega)
                have o5 := HX.out.st 5 (by omega) (by omega)
                have o6 := HX.out.st 6 (by omega) (by omega)
                have o7 := HX.out.st 7 (by omega) (by omega)
                have HP1 : Hid (∀ n, _) := fun n => prefix_quiet2 n (s4.st 7) (s4.st 4) (pe.X 7) (pe.X 4) (pe.xc 7) (pe.xc 4) (HLG.out.ab heq).1 (HLG.out.ab heq).2 o7.rd o4.rd o4.le o4.cap
                have HP2 : Hid (∀ n, _) := fun n => prefix_quiet2 n (s4.st 6) (s4.st 5) (pe.X 6) (pe.X 5) (pe.xc 6) (pe.xc 5) (HLG.out.ba heq).1 (HLG.out.ba heq).2 o6.rd o5.rd o5.le o5.cap
                clear o4 o5 o6 o7 heq
                go_wp2
                go_quiet ((first | (go_at_call 16; with_reducible exact HP1.out _) | (go_at_call 16; with_reducible exact HP2.out _) | (go_at_call 19; with_reducible exact quiet1_life HE0.out.box _) | (go_at_call 19; with_reducible exact quiet1_life HE1.out.box _)))
                go_wp2
                go_roundw
                case rel => exact HREL.out _
                case measure => simp [intOf]; omega
              · have heqd : ((s4.e 0).life == (s4.e 1).life) = false := by simpa using heq
                clear heq c4 c5 c6 c7
                go_wp2
                go_quiet ((first | (go_at_call 19; with_reducible exact quiet1_life HE0.out.box _) | (go_at_call 19; with_reducible exact quiet1_life HE1.out.box _)))
                go_wp2
                go_roundw
                case rel => exact HREL.out _
                case measure => simp [intOf]; omega
    · obtain rfl : k = acs.length := by omega
      go_wp2
      go_ret
      exact ⟨rfl, HW.out.bl⟩
theorem opened {H : Type} (enc : TypeId × Value → H) (W : World) (base : Nat) (v0 : Value) {d0 : DataW H} {p0 : List MemPlace}
    (o0 : Value.okWide Try.prog W .any base 22 v0) (k0 : DataW.Trod enc Try.prog W 0 (fun _ => true) true 22 v0 d0 p0) (z0 : (d0.weights Try.prog 22).all (· ≤ reachBytes) = true) :
    Calls Try.prog 5 #[v0] W fun e w' => e = .returned (.bool true) ∧ Below W.heap.size W w' := by
  obtain ⟨A, c, acs, rfl, h1, h2, h3, h4⟩ := open_acts o0 k0 z0
  exact walk A c acs W h3 (by omega) h4
end linkLivesOpen
end Go.Proofs.Ytjkonfanmpcipaa
