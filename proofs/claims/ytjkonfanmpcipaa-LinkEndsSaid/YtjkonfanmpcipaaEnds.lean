/- The walk of LinkEnds. No conditions. -/
import Derived.Test.YtjkonfanmpcipaaOnce
import Derived.Test.YtjkonfanmpcipaaWorldN
namespace Go.Proofs.Ytjkonfanmpcipaa
open Go.ChangeShapes Go.WideShapes Go.ChangeAt Go.RowKit
set_option linter.unusedVariables false

namespace Link
def EMid (w : World) (g : Nat) (s' : WS) (wx : World) : Prop := ∃ p' lab', WL w wx g p' s' lab'
def rrN : Nat → WS → WS
  | 0, s => s
  | n + 1, s => rr (rrN n s)
theorem Good.rrN {s : WS} (h : Good s) : ∀ n, Good (rrN n s)
  | 0 => h
  | n + 1 => (Good.rrN h n).rr
theorem Bd.rrN {s : WS} {N : Nat} (h : Bd s N) : ∀ n, Bd (Link.rrN n s) (N + 16 * n)
  | 0 => by simpa [Link.rrN] using h
  | n + 1 => (Bd.rrN h n).rr.2.mono (by omega)
structure ERel (w : World) (g : Nat) (s0 : WS) (vi : Value) (wr : World) : Prop where
  out : ∃ (m : Nat) (p : Pl) (lab : Nat → Nat), m ≤ 3 ∧ vi = .int .i64 m ∧ Hid (WL w wr g p (rrN m s0) lab)
end Link
namespace linkEndsOpen
open Link
set_option maxRecDepth 100000 in
set_option maxHeartbeats 8000000 in
theorem walk (A : Option Addr) (c : Nat) (acs : List Ac) (w : World) (hr : Mem.Rd w w.heap.size A (acs.flatMap acCells)) (hn : acs.length ≤ 8796093022208) (hd : ∀ a ∈ acs, AcIn w a) :
    Calls Try.prog 3 #[.slice A acs.length c] w fun e w' => e = .returned (.bool true) ∧ Below w.heap.size w w' := by
  have HR := Lib.hid hr
  have HD := Lib.hid hd
  clear hr hd
  go_enter Try.func3, Try.ntmps3
  go_wp2_with fail
  refine (linkAble_any w).mono ?_
  rintro x w1 ⟨rfl, hb1⟩
  have HB1 := Lib.hid hb1
  clear hb1
  go_wp2_with fail
  refine (much_any A c acs HR.out (by omega) HD.out HB1.out).mono ?_
  rintro x w2 ⟨b, rfl, hbn, hb2⟩
  have HB2 := Lib.hid (HB1.out.trans (hb2.mono HB1.out.size))
  clear hb2
  cases b
  case true =>
    clear hbn
    go_wp2
    go_ret
    exact ⟨rfl, HB2.out⟩
  case false =>
  have HC : Hid (len1 acs ≤ 2000) := by have := hbn rfl; have := len1_le acs; show _ ≤ _; omega
  clear hbn
  go_wp2_with fail
  refine (new_any 1 w2 w2.heap.size rfl).mono ?_
  rintro x w3 ⟨rfl, hA, hb3, hs3⟩
  have HS3 := Lib.hid hs3
  clear hs3
  go_wp2_with fail
  refine (new_any 1 w3 w3.heap.size rfl).mono ?_
  rintro x w4 ⟨rfl, hB, hb4, hs4⟩
  have HS4 := Lib.hid hs4
  clear hs4
  go_upto_region 6 with fail
  obtain ⟨w5, hw5⟩ : ∃ w5, w4.alloc (.cells #[.pointer (some ⟨w2.heap.size, 0, none⟩), .pointer (some ⟨w3.heap.size, 0, none⟩), .slice none 0 0, .slice none 0 0, .slice none 0 0, .slice none 0 0, .slice none 0 0, .slice none 0 0] 31) = w5 := ⟨_, rfl⟩
  have hz2 := HB2.out.size
  have hs3 := HS3.out
  have hs4 := HS4.out
  have HT0 : Hid (WL w w5 w4.heap.size (pl0 w2.heap.size w3.heap.size) ws0 (lab0 w.heap.size w4.heap.size w2.heap.size w3.heap.size)) := by
    show WL _ _ _ _ _ _
    rw [← hw5]
    have k4 : Mem.Keeps (fun _ => False) w4 (w4.alloc (.cells #[.pointer (some ⟨w2.heap.size, 0, none⟩), .pointer (some ⟨w3.heap.size, 0, none⟩), .slice none 0 0, .slice none 0 0, .slice none 0 0, .slice none 0 0, .slice none 0 0, .slice none 0 0] 31)) := (Mem.Keeps.refl _ _).alloc _
    refine WL.start (Mem.Own.lit w4 _ 8 #[.pointer (some ⟨w2.heap.size, 0, none⟩), .pointer (some ⟨w3.heap.size, 0, none⟩), .slice none 0 0, .slice none 0 0, .slice none 0 0, .slice none 0 0, .slice none 0 0, .slice none 0 0] 1 rfl rfl (by simp [maxLen])) ?_ (hB.keeps k4 (fun h => h) (fun _ _ h => h)) ?_ hz2 (by omega) (by omega) (by omega) (by omega) (by omega)
    · exact ((hA.keeps (Mem.Keeps.of_below hb4) (fun h => h) (fun _ _ h => h))).keeps k4 (fun h => h) (fun _ _ h => h)
    · exact ((HB2.out.trans (hb3.mono hz2)).trans (hb4.mono (by omega))).alloc (by omega) _
  obtain ⟨g, hg⟩ : ∃ g, w4.heap.size = g := ⟨_, rfl⟩
  rw [hg] at HT0 ⊢
  rw [hw5]
  obtain ⟨p0, hp0⟩ : ∃ p0, pl0 w2.heap.size w3.heap.size = p0 := ⟨_, rfl⟩
  obtain ⟨l0, hl0⟩ : ∃ l0, lab0 w.heap.size g w2.heap.size w3.heap.size = l0 := ⟨_, rfl⟩
  rw [hp0, hl0] at HT0
  clear hw5 hg hp0 hl0 hA hB hb3 hb4 hs3 hs4 hz2 HB1 HB2
  go_wp2
  go_loopw [4] (ORel w g acs) (fun t _ => acs.length - (intOf t).toNat)
  case atStart => exact ⟨⟨0, p0, ws0, l0, by omega, rfl, HT0, Good.start, Bd.start.mono (by omega), by simp [ws0]⟩⟩
  case round =>
    obtain ⟨k, p, s, lab, hk, rfl, HW, HG, HBd, hp6⟩ := hrel.out
    clear HT0
    by_cases hlt : k < acs.length
    · obtain ⟨b, o, a, rfl, hb, hp, p0', p1', p2', p3'⟩ := ac_elem HR.out hlt
      have q0 := (HW.out.bl.cell (p := ⟨b, o + k * 4, none⟩) hb).trans p0'
      have q1 := (HW.out.bl.cell (p := ⟨b, o + k * 4 + 1, none⟩) hb).trans p1'
      have q2 := (HW.out.bl.cell (p := ⟨b, o + k * 4 + 2, none⟩) hb).trans p2'
      have q3 := (HW.out.bl.cell (p := ⟨b, o + k * 4 + 3, none⟩) hb).trans p3'
      have HAI := Lib.hid (HD.out a (List.mem_of_getElem? hp))
      have HTS : Hid (len1 (acs.take (k + 1)) = len1 (acs.take k) + (1 + a.data.length)) := by show _ = _; rw [Mem.take_snoc hp, len1_snoc]
      have hcost : len1 (acs.take k) + (1 + a.data.length) ≤ 2000 := by have := len1_take acs (k + 1); rw [HTS.out] at this; have := HC.out; omega
      have c2 := HW.out.cell (i := 2) rfl
      have c3 := HW.out.cell (i := 3) rfl
      have hw1 : IntKind.i64.wrap (((s.pk 2).length : Int) + ((s.pk 3).length : Int)) = ((s.pk 2).length : Int) + ((s.pk 3).length : Int) := IntWalk.i64_in _ (by omega)
      clear hp p0' p1' p2' p3'
      by_cases h5 : 500 < (s.pk 2).length + (s.pk 3).length
      · have h5d : decide ((500 : Int) < ((s.pk 2).length : Int) + ((s.pk 3).length : Int)) = true := by simp; omega
        clear h5
        go_wp2
        go_quiet (fail)
        obtain ⟨w9, hw9⟩ : ∃ w9, wr.drewN nq = w9 := ⟨_, rfl⟩
        have HW0 : Hid (WL w w9 g p s lab) := by show WL _ _ _ _ _ _; rw [← hw9]; exact HW.out.quiet ((Mem.Keeps.refl _ _).drewN _)
        have HG0 := HG
        have HBd0 : Hid (Bd s 2000) := HBd.out.mono (by omega)
        rw [hw9]
        obtain ⟨s0, hs0⟩ : ∃ s0, s = s0 := ⟨_, rfl⟩
        rw [hs0] at HW0 HG0 HBd0
        clear hw9 hs0 HW HG HBd hp6 hw1 c2 c3 q0 q1 q2 q3
        go_wp2
        go_loopw [5] (ERel w g s0) (fun t _ => 3 - (intOf t).toNat)
        case atStart => exact ⟨⟨0, p, lab, by omega, rfl, HW0⟩⟩
        case round =>
          clear HW0
          obtain ⟨m, p, lab, hm, rfl, HW⟩ := hrel.out
          obtain ⟨wx, hwx⟩ : ∃ wx, wr = wx := ⟨_, rfl⟩
          rw [hwx] at HW ⊢
          clear hwx
          have HG := Lib.hid (HG0.out.rrN m)
          have HBd := Lib.hid ((HBd0.out.rrN m).mono (show 2000 + 16 * m ≤ 3000 by omega))
          by_cases hm3 : m < 3
          · obtain ⟨s, hs⟩ : ∃ s, rrN m s0 = s := ⟨_, rfl⟩
            have HS : Hid (rrN (m + 1) s0 = rr s) := by show rr (rrN m s0) = rr s; rw [hs]
            rw [hs] at HW HG HBd
            clear hs
            go_upto_region 14 with fail
            go_cut [] (fun wy => EMid w g (r1 s) wy)
            case first =>
              have HE := Lib.hid (HW.out.en 0 (by omega))
              have e0 := HW.out.cell (i := 1) rfl
              have e9 := HW.out.cell (i := 0) rfl
              have e1 := HW.out.cell (i := 7) rfl
              have hgW := HW.out.lt
              have HFJ := Lib.hid (HBd.out.fe 0 (by omega))
              have HFI := Lib.hid (HBd.out.fe 1 (by omega))
              have hst1 := HBd.out.fs 7 (by omega) (by omega)
              obtain ⟨l, hl⟩ : ∃ l, out (s.e 0) = l := ⟨_, rfl⟩
              have hll : l.length ≤ 8 := by rw [← hl]; exact out_len _ HFJ.out.o8
              have HLL := Lib.hid hl
              obtain ⟨r, hr⟩ : ∃ r, take (s.e 1) l = r := ⟨_, rfl⟩
              have hrl : r.2.length ≤ 8 := by have := Link.take_len (s.e 1) l; rw [hr] at this; omega
              have HRR := Lib.hid hr
              have HX : Hid (∀ y, Mem.blk (p.X 7) = some y → lab y = 7) := fun y hy => HW.out.lx 7 (by omega) (by omega) y hy
              have HO6 : Hid (∀ y, Mem.blk (p.O 1) = some y → lab y = 8 + 1) := fun y hy => HW.out.lo 1 (by omega) y hy
              have HGI := Lib.hid (HW.out.le 1 (by omega))
              have HGG := Lib.hid HW.out.lg
              have hgn3 : Hid (¬ (g = p.g 1 ∨ Mem.blk (p.X 7) = some g)) := by
                rintro (h | h)
                · have := HGI.out; rw [← h, HGG.out] at this; omega
                · have := HX.out _ h; rw [HGG.out] at this; omega
              have hgn4 := hgn3.out
              have HN1 : Hid (∀ y, (Mem.blk (p.X 7) = some y ∨ y = g) → y ≠ p.g 1 ∧ Mem.blk (p.O 1) ≠ some y) := fun y h => by
                have hl : lab y = 7 ∨ lab y = 10 := h.elim (fun h => .inl (HX.out _ h)) (fun h => .inr (by rw [h]; exact HGG.out))
                refine ⟨fun h => ?_, fun h => ?_⟩
                · have := HGI.out; rw [← h] at this; omega
                · have := HO6.out _ h; omega
              have HN2 : Hid (∀ y, Mem.blk (p.X 7) = some y → ¬ (y = p.g 1 ∨ y = g)) := fun y hy h => by
                have := HX.out _ hy
                rcases h with h | h
                · rw [h, HGI.out] at this; omega
                · rw [h, HGG.out] at this; omega
              clear hl hr
              go_upto_region 14 with fail
              refine Reg.wp_region_w (by kernel_rfl) 114 19 rfl rfl (by kernel_rfl) (14) (fun y => y = p.g 1) (15) (fun y => Mem.blk (p.X 7) = some y) (18) (fun y => y = g)
                (fun i v u => match i with
                  | 0 => v = .pointer (some ⟨g, 0, none⟩)
                  | 1 => v = .pointer (some ⟨g, 0, none⟩)
                  | 2 => v = .pointer (some ⟨g, 0, none⟩)
                  | 3 => v = .pointer (some ⟨g, 7, none⟩)
                  | 4 => v = .slice (p.X 7) (s.st 7).length (p.xc 7)
                  | 5 => v = .pointer (some ⟨g, 0, none⟩)
                  | 6 => v = .pointer (some ⟨g, 0, none⟩)
                  | 7 => v = .pointer (some ⟨g, 1, none⟩)
                  | 8 => v = .pointer (some ⟨p.g 1, 0, none⟩)
                  | 9 => v = .pointer (some ⟨g, 0, none⟩)
                  | 10 => v = .pointer (some ⟨g, 0, none⟩)
                  | 11 => v = .pointer (some ⟨g, 0, none⟩)
                  | 12 => v = .pointer (some ⟨p.g 0, 0, none⟩)
                  | 13 => ∃ O oc, v = .slice O l.length oc ∧ Mem.From wx.heap.size O ∧ Mem.Own u 52 5 O l.length oc (l.flatMap pkCells)
                  | 14 => ∃ A2 O c2 oc, v = .slice O r.2.length oc ∧ At u (p.g 1) A2 c2 r.1 ∧ Mem.Own u 9 1 O r.2.length oc (r.2.map strV) ∧ Mem.From wx.heap.size O ∧ (Mem.blk A2 = Mem.blk (p.O 1) ∨ Mem.blk A2 = none)
                  | 15 => ∃ X2 d2, v = .slice X2 ((s.st 7).length + r.2.length) d2 ∧ Mem.Own u 9 1 X2 ((s.st 7).length + r.2.length) d2 ((s.st 7).map strV ++ r.2.map strV) ∧ (X2 = p.X 7 ∨ Mem.From wx.heap.size X2)
                  | 16 => v = .pointer (some ⟨g, 0, none⟩)
                  | 17 => v = .pointer (some ⟨g, 7, none⟩)
                  | 18 => ∃ X2 d2, Mem.Own u 9 1 X2 (s.st 7 ++ r.2).length d2 ((s.st 7 ++ r.2).map strV) ∧ (X2 = p.X 7 ∨ Mem.From wx.heap.size X2) ∧ Mem.Own u 31 8 (some ⟨g, 0, none⟩) 1 1 ((wCells p s).set 7 (.slice X2 (s.st 7 ++ r.2).length d2))
                  | _ => True) ?_ ?_
              · refine Reg.Steps.cons ?_ (Reg.Steps.cons ?_ (Reg.Steps.cons ?_ (Reg.Steps.cons ?_ (Reg.Steps.cons ?_ (Reg.Steps.cons ?_ (Reg.Steps.cons ?_ (Reg.Steps.cons ?_ (Reg.Steps.cons ?_ (Reg.Steps.cons ?_ (Reg.Steps.cons ?_ (Reg.Steps.cons ?_ (Reg.Steps.cons ?_ (Reg.Steps.cons ?_ (Reg.Steps.cons ?_ (Reg.Steps.cons ?_ (Reg.Steps.cons ?_ (Reg.Steps.cons ?_ (Reg.Steps.cons ?_ (Reg.Steps.nil _)))))))))))))))))))
                · intro val ac u hR hp ha K hK      -- 0: t42 := Op.move t3
                  have e3 : (ac.tmps[3]?).getD undef = .pointer (some ⟨g, 0, none⟩) := ha 3 (by decide)
                  clear ha hp
                  refine Reg.Op1.plain rfl ?_
                  go_wp2
                  exact ⟨rfl, hK _ _ rfl (Reg.Wr.same _)⟩
                · intro val ac u hR hp ha K hK      -- 1: t43 := Op.move t3
                  have e3 : (ac.tmps[3]?).getD undef = .pointer (some ⟨g, 0, none⟩) := ha 3 (by decide)
                  clear ha hp
                  refine Reg.Op1.plain rfl ?_
                  go_wp2
                  exact ⟨rfl, hK _ _ rfl (Reg.Wr.same _)⟩
                · intro val ac u hR hp ha K hK      -- 2: t44 := Op.nilCheck t43
                  obtain ⟨w43, h43, r43⟩ := hp 1 (by decide)
                  have e43 : (ac.tmps[43]?).getD undef = .pointer (some ⟨g, 0, none⟩) := (ha 43 (by decide)).trans h43
                  clear h43
                  clear ha hp
                  refine Reg.Op1.plain rfl ?_
                  go_wp2
                  exact ⟨rfl, hK _ _ rfl (Reg.Wr.same _)⟩
                · intro val ac u hR hp ha K hK      -- 3: t45 := Op.fieldAddr 31 t44 7
                  obtain ⟨w44, h44, r44⟩ := hp 2 (by decide)
                  have e44 : (ac.tmps[44]?).getD undef = .pointer (some ⟨g, 0, none⟩) := (ha 44 (by decide)).trans h44
                  clear h44
                  clear ha hp
                  refine Reg.Op1.plain rfl ?_
                  go_wp2
                  exact ⟨rfl, hK _ _ rfl (Reg.Wr.same _)⟩
                · intro val ac u hR hp ha K hK      -- 4: t46 := Op.load 29 t45
                  obtain ⟨w45, h45, r45⟩ := hp 3 (by decide)
                  have e45 : (ac.tmps[45]?).getD undef = .pointer (some ⟨g, 7, none⟩) := (ha 45 (by decide)).trans h45
                  clear h45
                  clear ha hp
                  refine Reg.Op1.plain rfl ?_
                  have x0 := (((Reg.Wr.not3 hR (by decide +kernel))).cell (p := ⟨g, 7, none⟩) (hgW) (hgn4)).trans (e1)
                  go_wp2
                  exact ⟨rfl, hK _ _ rfl (Reg.Wr.same _)⟩
                · intro val ac u hR hp ha K hK      -- 5: t47 := Op.move t3
                  have e3 : (ac.tmps[3]?).getD undef = .pointer (some ⟨g, 0, none⟩) := ha 3 (by decide)
                  clear ha hp
                  refine Reg.Op1.plain rfl ?_
                  go_wp2
                  exact ⟨rfl, hK _ _ rfl (Reg.Wr.same _)⟩
                · intro val ac u hR hp ha K hK      -- 6: t48 := Op.nilCheck t47
                  obtain ⟨w47, h47, r47⟩ := hp 5 (by decide)
                  have e47 : (ac.tmps[47]?).getD undef = .pointer (some ⟨g, 0, none⟩) := (ha 47 (by decide)).trans h47
                  clear h47
                  clear ha hp
                  refine Reg.Op1.plain rfl ?_
                  go_wp2
                  exact ⟨rfl, hK _ _ rfl (Reg.Wr.same _)⟩
                · intro val ac u hR hp ha K hK      -- 7: t49 := Op.fieldAddr 31 t48 1
                  obtain ⟨w48, h48, r48⟩ := hp 6 (by decide)
                  have e48 : (ac.tmps[48]?).getD undef = .pointer (some ⟨g, 0, none⟩) := (ha 48 (by decide)).trans h48
                  clear h48
                  clear ha hp
                  refine Reg.Op1.plain rfl ?_
                  go_wp2
                  exact ⟨rfl, hK _ _ rfl (Reg.Wr.same _)⟩
                · intro val ac u hR hp ha K hK      -- 8: t50 := Op.load 26 t49
                  obtain ⟨w49, h49, r49⟩ := hp 7 (by decide)
                  have e49 : (ac.tmps[49]?).getD undef = .pointer (some ⟨g, 1, none⟩) := (ha 49 (by decide)).trans h49
                  clear h49
                  clear ha hp
                  refine Reg.Op1.plain rfl ?_
                  have x0 := (((Reg.Wr.not3 hR (by decide +kernel))).cell (p := ⟨g, 1, none⟩) (hgW) (hgn4)).trans (e0)
                  go_wp2
                  exact ⟨rfl, hK _ _ rfl (Reg.Wr.same _)⟩
                · intro val ac u hR hp ha K hK      -- 9: t51 := Op.move t3
                  have e3 : (ac.tmps[3]?).getD undef = .pointer (some ⟨g, 0, none⟩) := ha 3 (by decide)
                  clear ha hp
                  refine Reg.Op1.plain rfl ?_
                  go_wp2
                  exact ⟨rfl, hK _ _ rfl (Reg.Wr.same _)⟩
                · intro val ac u hR hp ha K hK      -- 10: t52 := Op.nilCheck t51
                  obtain ⟨w51, h51, r51⟩ := hp 9 (by decide)
                  have e51 : (ac.tmps[51]?).getD undef = .pointer (some ⟨g, 0, none⟩) := (ha 51 (by decide)).trans h51
                  clear h51
                  clear ha hp
                  refine Reg.Op1.plain rfl ?_
                  go_wp2
                  exact ⟨rfl, hK _ _ rfl (Reg.Wr.same _)⟩
                · intro val ac u hR hp ha K hK      -- 11: t53 := Op.fieldAddr 31 t52 0
                  obtain ⟨w52, h52, r52⟩ := hp 10 (by decide)
                  have e52 : (ac.tmps[52]?).getD undef = .pointer (some ⟨g, 0, none⟩) := (ha 52 (by decide)).trans h52
                  clear h52
                  clear ha hp
                  refine Reg.Op1.plain rfl ?_
                  go_wp2
                  exact ⟨rfl, hK _ _ rfl (Reg.Wr.same _)⟩
                · intro val ac u hR hp ha K hK      -- 12: t54 := Op.load 26 t53
                  obtain ⟨w53, h53, r53⟩ := hp 11 (by decide)
                  have e53 : (ac.tmps[53]?).getD undef = .pointer (some ⟨g, 0, none⟩) := (ha 53 (by decide)).trans h53
                  clear h53
                  clear ha hp
                  refine Reg.Op1.plain rfl ?_
                  have x0 := (((Reg.Wr.not3 hR (by decide +kernel))).cell (p := ⟨g, 0, none⟩) (hgW) (hgn4)).trans (e9)
                  go_wp2
                  exact ⟨rfl, hK _ _ rfl (Reg.Wr.same _)⟩
                · intro val ac u hR hp ha K hK      -- 13: t55 := Op.call { value (Operand.func 13), args := #[t54], argTypes := #[26] }
                  obtain ⟨w54, h54, r54⟩ := hp 12 (by decide)
                  have e54 : (ac.tmps[54]?).getD undef = .pointer (some ⟨p.g 0, 0, none⟩) := (ha 54 (by decide)).trans h54
                  clear h54
                  clear ha hp
                  refine Reg.Op1.plain rfl ?_
                  have hq : Mem.Keeps (fun _ => False) wx u := (Mem.Keeps.refl (fun _ => False) wx).drew.trans (Reg.Wr.none hR (by decide +kernel) (by decide +kernel) (by decide +kernel)) (fun _ h _ => h)
                  have hen := HE.out.keeps hq (fun h => h) (fun _ _ h => h)
                  go_wp2_with fail
                  refine (out_any hen HFJ.out.s0 (by have := HFJ.out.sN; omega) (by have := HFJ.out.o8; omega)).mono ?_
                  rintro x w' ⟨O, oc, rfl, hO, hb, hf⟩
                  rw [HLL.out] at hO ⊢
                  go_wp2_with fail
                  exact ⟨rfl, hK _ _ ⟨O, oc, rfl, hf.mono hq.size, hO⟩ (Reg.Wr.below hb)⟩
                · intro val ac u hR hp ha K hK      -- 14: t56 := Op.call { value (Operand.func 12), args := #[t50, t55], argTypes := #[26, 28] }
                  obtain ⟨w50, h50, r50⟩ := hp 8 (by decide)
                  have e50 : (ac.tmps[50]?).getD undef = .pointer (some ⟨p.g 1, 0, none⟩) := (ha 50 (by decide)).trans h50
                  clear h50
                  obtain ⟨w55, h55, r55⟩ := hp 13 (by decide)
                  have e55 : (ac.tmps[55]?).getD undef = val 13 := ha 55 (by decide)
                  clear ha hp
                  refine Reg.Op1.plain rfl ?_
                  obtain ⟨O0, oc0, hv, hs0, ho⟩ := h55
                  rw [hv] at e55
                  have ho' := ho.keeps (Reg.Wr.none r55 (by decide +kernel) (by decide +kernel) (by decide +kernel)) (fun _ _ h => h)
                  have hq1 : Mem.Keeps (fun y => Mem.blk (p.X 7) = some y ∨ y = g) wx u := (Mem.Keeps.refl (fun y => Mem.blk (p.X 7) = some y ∨ y = g) wx).drew.trans (Reg.Wr.not1 hR (by decide +kernel)) (fun _ h _ => h)
                  have hen := (HW.out.en 1 (by omega)).keeps hq1 (fun h => (HN1.out _ h).1 rfl) (fun y hy h => (HN1.out _ h).2 hy)
                  have hgi := HW.out.ltg (i := 1) (by omega)
                  go_wp2_with fail
                  refine (take_any hen O0 oc0 l (fun W hk => ho'.rd.keepsAt hk (Nat.le_refl _) (fun y h1 h => by have := hs0.blk y h1; omega)) (by omega) HFI.out (by omega)).mono ?_
                  rw [tEnd_eq, HRR.out]
                  rintro x w' ⟨A2, O, c2, oc, rfl, hA2, hO2, hf2, hk2, hm2⟩
                  go_wp2_with fail
                  exact ⟨rfl, hK _ _ ⟨A2, O, c2, oc, rfl, hA2, hO2, hf2.mono hq1.size, hm2⟩ (Reg.Wr.does1 hk2)⟩
                · intro val ac u hR hp ha K hK      -- 15: t57 := Op.call { builtin append, args := #[t46, t56], argTypes := #[29, 29] }
                  obtain ⟨w46, h46, r46⟩ := hp 4 (by decide)
                  have e46 : (ac.tmps[46]?).getD undef = .slice (p.X 7) (s.st 7).length (p.xc 7) := (ha 46 (by decide)).trans h46
                  clear h46
                  obtain ⟨w56, h56, r56⟩ := hp 14 (by decide)
                  have e56 : (ac.tmps[56]?).getD undef = val 14 := ha 56 (by decide)
                  clear ha hp
                  refine Reg.Op1.plain rfl ?_
                  obtain ⟨_, O, _, oc, hv, _, hO, hf, _⟩ := h56
                  rw [hv] at e56
                  have hO' := hO.keeps (Reg.Wr.none r56 (by decide +kernel) (by decide +kernel) (by decide +kernel)) (fun _ _ h => h)
                  have hq2 : Mem.Keeps (fun y => y = p.g 1 ∨ y = g) wx u := (Mem.Keeps.refl (fun y => y = p.g 1 ∨ y = g) wx).drew.trans (Reg.Wr.not2 hR (by decide +kernel)) (fun _ h _ => h)
                  have hX' := (HW.out.st 7 (by omega) (by omega)).keeps hq2 (fun y hy => HN2.out y hy)
                  have hbu := hq2.size
                  refine Mem.wpList_app u rfl (.tmp 46) (.tmp 56) _ rfl strs_elem (p.X 7) (s.st 7).length (p.xc 7) _ (Reg.eval_of e46) u.heap.size O r.2.length oc (r.2.map strV) (Reg.eval_of e56) ?_ hX' hO'.rd (by simp) (by simp [Value.oneCell']) (by unfold maxLen; omega) (by omega)
                  intro X' d' u' hown hg hat
                  exact ⟨rfl, hK _ _ ⟨X', d', rfl, hown, hat.elim .inl (fun h => .inr (h ▸ Mem.From.some_ hbu))⟩ (Reg.Wr.does2 ((Mem.Keeps.refl _ u).grown hg (fun y hy _ => hy)))⟩
                · intro val ac u hR hp ha K hK      -- 16: t58 := Op.nilCheck t42
                  obtain ⟨w42, h42, r42⟩ := hp 0 (by decide)
                  have e42 : (ac.tmps[42]?).getD undef = .pointer (some ⟨g, 0, none⟩) := (ha 42 (by decide)).trans h42
                  clear h42
                  clear ha hp
                  refine Reg.Op1.plain rfl ?_
                  go_wp2
                  exact ⟨rfl, hK _ _ rfl (Reg.Wr.same _)⟩
                · intro val ac u hR hp ha K hK      -- 17: t59 := Op.fieldAddr 31 t58 7
                  obtain ⟨w58, h58, r58⟩ := hp 16 (by decide)
                  have e58 : (ac.tmps[58]?).getD undef = .pointer (some ⟨g, 0, none⟩) := (ha 58 (by decide)).trans h58
                  clear h58
                  clear ha hp
                  refine Reg.Op1.plain rfl ?_
                  go_wp2
                  exact ⟨rfl, hK _ _ rfl (Reg.Wr.same _)⟩
                · intro val ac u hR hp ha K hK      -- 18: Op.store 29 t59 t57
                  obtain ⟨w59, h59, r59⟩ := hp 17 (by decide)
                  have e59 : (ac.tmps[59]?).getD undef = .pointer (some ⟨g, 7, none⟩) := (ha 59 (by decide)).trans h59
                  clear h59
                  obtain ⟨w57, h57, r57⟩ := hp 15 (by decide)
                  have e57 : (ac.tmps[57]?).getD undef = val 15 := ha 57 (by decide)
                  clear ha hp
                  refine Reg.Op1.plain rfl ?_
                  obtain ⟨X2, d2, hv, hO, hm⟩ := h57
                  rw [hv] at e57
                  have hO' := hO.keeps (Reg.Wr.none r57 (by decide +kernel) (by decide +kernel) (by decide +kernel)) (fun _ _ h => h)
                  have hq3 : Mem.Keeps (fun y => y = p.g 1 ∨ Mem.blk (p.X 7) = some y) wx u := (Mem.Keeps.refl (fun y => y = p.g 1 ∨ Mem.blk (p.X 7) = some y) wx).drew.trans (Reg.Wr.not3 hR (by decide +kernel)) (fun _ h _ => h)
                  have hbx := Mem.Own.keeps HW.out.box hq3 (fun y hy h => by cases hy; exact hgn4 h)
                  have xf := Mem.Own.free hbx
                  have x0 := (hq3.cell (p := ⟨g, 7, none⟩) hgW hgn4).trans e1
                  have hln : (s.st 7 ++ r.2).length = (s.st 7).length + r.2.length := List.length_append
                  go_wp2
                  refine ⟨rfl, hK undef _ ⟨X2, d2, ?_, hm, ?_⟩ (Reg.Wr.does3 ((Mem.Keeps.refl (fun q => q = g) u).setCell (p := ⟨g, 7, none⟩) (fun _ => rfl) _))⟩
                  · rw [hln, List.map_append]
                    refine hO'.keeps ((Mem.Keeps.refl (fun q => q = g) u).setCell (p := ⟨g, 7, none⟩) (fun _ => rfl) _) (fun y h1 h => ?_)
                    rcases hm with h2 | h2
                    · exact hgn4 (.inr (by rw [← h2, h1, h]))
                    · have := h2.blk y h1; omega
                  · rw [hln]; have := Mem.Own.set hbx 7 (.slice X2 ((s.st 7).length + r.2.length) d2); exact this
              · intro val u hR H
                obtain ⟨wA, ⟨A2, _, c2, _, _, hA2, _, _, hmA⟩, rA⟩ := H 14 (by decide)
                obtain ⟨wB, ⟨X2, d2, hO3, hmX, hb3⟩, rB⟩ := H 18 (by decide)
                have hA3 := hA2.keeps (Reg.Wr.not1 rA (by decide +kernel)) (fun h => (HN1.out _ h).1 rfl) (fun y hy h => (HN1.out _ h).2 (by
                  rcases hmA with e | e
                  · exact e ▸ hy
                  · rw [e] at hy; cases hy))
                have hO4 := hO3.keeps (Reg.Wr.none rB (by decide +kernel) (by decide +kernel) (by decide +kernel)) (fun _ _ h => h)
                have hb4 := hb3.keeps (Reg.Wr.none rB (by decide +kernel) (by decide +kernel) (by decide +kernel)) (fun _ _ h => h)
                have hk : Mem.Keeps (fun y => lab y = 1 ∨ lab y = 7 ∨ lab y = 10) wx u := ((Mem.Keeps.refl (fun y => y = p.g 1 ∨ Mem.blk (p.X 7) = some y ∨ y = g) wx).drew.trans (Reg.Wr.all hR) (fun _ h _ => h)).mono (fun y h _ => by
                  rcases h with h | h | h
                  · exact .inl (by rw [h]; exact HGI.out)
                  · exact .inr (.inl (HX.out _ h))
                  · exact .inr (.inr (by rw [h]; exact HGG.out)))
                have hwl := HW.out.took (i := 1) (j := 7) (by omega) (by omega) (by omega) hA3 hO4 hb4 hk hmA (hmX.elim (fun h => .inl (by rw [h])) (fun h => .inr (.inr h)))
                have hgs : r1 s = { s with e := upd s.e 1 r.1, st := upd s.st 7 (s.st 7 ++ r.2) } := by unfold r1 takeW; rw [HLL.out, HRR.out]
                rw [← hgs] at hwl
                have HM : Hid (EMid w g (r1 s) u) := ⟨_, _, hwl⟩
                simp only [List.map_cons, List.map_nil, Reg.lay, Act.put, List.setIfInBounds_toArray, List.set_cons_succ, List.set_cons_zero, Nat.reduceAdd]
                clear hR H hk hb4 hO4 hb3 hO3 rA rB hwl hgs
                go_wp2
                go_meet
                case rel => exact HM.out
            case rest =>
              obtain ⟨p, lab, HW1⟩ := hcut
              have HW : Hid (WL w wc g p (r1 s) lab) := HW1
              have HG2 := Lib.hid HG.out.r1
              have HBd2 := Lib.hid (HBd.out.rr.1)
              obtain ⟨s2, hs2⟩ : ∃ s2, r1 s = s2 := ⟨_, rfl⟩
              have HS2 : Hid (rr s = r2 s2) := by show r2 (r1 s) = _; rw [hs2]
              rw [hs2] at HW HG2 HBd2
              obtain ⟨wx, hwx⟩ : ∃ wx, wc = wx := ⟨_, rfl⟩
              rw [hwx] at HW ⊢
              have HBd := HBd2
              clear hs2 hwx HW1 HBd2
              have HE := Lib.hid (HW.out.en 1 (by omega))
              have e0 := HW.out.cell (i := 0) rfl
              have e9 := HW.out.cell (i := 1) rfl
              have e1 := HW.out.cell (i := 6) rfl
              have hgW := HW.out.lt
              have HFJ := Lib.hid (HBd.out.fe 1 (by omega))
              have HFI := Lib.hid (HBd.out.fe 0 (by omega))
              have hst1 := HBd.out.fs 6 (by omega) (by omega)
              obtain ⟨l, hl⟩ : ∃ l, out (s2.e 1) = l := ⟨_, rfl⟩
              have hll : l.length ≤ 8 := by rw [← hl]; exact out_len _ HFJ.out.o8
              have HLL := Lib.hid hl
              obtain ⟨r, hr⟩ : ∃ r, take (s2.e 0) l = r := ⟨_, rfl⟩
              have hrl : r.2.length ≤ 8 := by have := Link.take_len (s2.e 0) l; rw [hr] at this; omega
              have HRR := Lib.hid hr
              have HX : Hid (∀ y, Mem.blk (p.X 6) = some y → lab y = 6) := fun y hy => HW.out.lx 6 (by omega) (by omega) y hy
              have HO6 : Hid (∀ y, Mem.blk (p.O 0) = some y → lab y = 8 + 0) := fun y hy => HW.out.lo 0 (by omega) y hy
              have HGI := Lib.hid (HW.out.le 0 (by omega))
              have HGG := Lib.hid HW.out.lg
              have hgn3 : Hid (¬ (g = p.g 0 ∨ Mem.blk (p.X 6) = some g)) := by
                rintro (h | h)
                · have := HGI.out; rw [← h, HGG.out] at this; omega
                · have := HX.out _ h; rw [HGG.out] at this; omega
              have hgn4 := hgn3.out
              have HN1 : Hid (∀ y, (Mem.blk (p.X 6) = some y ∨ y = g) → y ≠ p.g 0 ∧ Mem.blk (p.O 0) ≠ some y) := fun y h => by
                have hl : lab y = 6 ∨ lab y = 10 := h.elim (fun h => .inl (HX.out _ h)) (fun h => .inr (by rw [h]; exact HGG.out))
                refine ⟨fun h => ?_, fun h => ?_⟩
                · have := HGI.out; rw [← h] at this; omega
                · have := HO6.out _ h; omega
              have HN2 : Hid (∀ y, Mem.blk (p.X 6) = some y → ¬ (y = p.g 0 ∨ y = g)) := fun y hy h => by
                have := HX.out _ hy
                rcases h with h | h
                · rw [h, HGI.out] at this; omega
                · rw [h, HGG.out] at this; omega
              clear hl hr
              go_upto_region 15 with fail
              refine Reg.wp_region_w (by kernel_rfl) 114 19 rfl rfl (by kernel_rfl) (14) (fun y => y = p.g 0) (15) (fun y => Mem.blk (p.X 6) = some y) (18) (fun y => y = g)
                (fun i v u => match i with
                  | 0 => v = .pointer (some ⟨g, 0, none⟩)
                  | 1 => v = .pointer (some ⟨g, 0, none⟩)
                  | 2 => v = .pointer (some ⟨g, 0, none⟩)
                  | 3 => v = .pointer (some ⟨g, 6, none⟩)
                  | 4 => v = .slice (p.X 6) (s2.st 6).length (p.xc 6)
                  | 5 => v = .pointer (some ⟨g, 0, none⟩)
                  | 6 => v = .pointer (some ⟨g, 0, none⟩)
                  | 7 => v = .pointer (some ⟨g, 0, none⟩)
                  | 8 => v = .pointer (some ⟨p.g 0, 0, none⟩)
                  | 9 => v = .pointer (some ⟨g, 0, none⟩)
                  | 10 => v = .pointer (some ⟨g, 0, none⟩)
                  | 11 => v = .pointer (some ⟨g, 1, none⟩)
                  | 12 => v = .pointer (some ⟨p.g 1, 0, none⟩)
                  | 13 => ∃ O oc, v = .slice O l.length oc ∧ Mem.From wx.heap.size O ∧ Mem.Own u 52 5 O l.length oc (l.flatMap pkCells)
                  | 14 => ∃ A2 O c2 oc, v = .slice O r.2.length oc ∧ At u (p.g 0) A2 c2 r.1 ∧ Mem.Own u 9 1 O r.2.length oc (r.2.map strV) ∧ Mem.From wx.heap.size O ∧ (Mem.blk A2 = Mem.blk (p.O 0) ∨ Mem.blk A2 = none)
                  | 15 => ∃ X2 d2, v = .slice X2 ((s2.st 6).length + r.2.length) d2 ∧ Mem.Own u 9 1 X2 ((s2.st 6).length + r.2.length) d2 ((s2.st 6).map strV ++ r.2.map strV) ∧ (X2 = p.X 6 ∨ Mem.From wx.heap.size X2)
                  | 16 => v = .pointer (some ⟨g, 0, none⟩)
                  | 17 => v = .pointer (some ⟨g, 6, none⟩)
                  | 18 => ∃ X2 d2, Mem.Own u 9 1 X2 (s2.st 6 ++ r.2).length d2 ((s2.st 6 ++ r.2).map strV) ∧ (X2 = p.X 6 ∨ Mem.From wx.heap.size X2) ∧ Mem.Own u 31 8 (some ⟨g, 0, none⟩) 1 1 ((wCells p s2).set 6 (.slice X2 (s2.st 6 ++ r.2).length d2))
                  | _ => True) ?_ ?_
              · refine Reg.Steps.cons ?_ (Reg.Steps.cons ?_ (Reg.Steps.cons ?_ (Reg.Steps.cons ?_ (Reg.Steps.cons ?_ (Reg.Steps.cons ?_ (Reg.Steps.cons ?_ (Reg.Steps.cons ?_ (Reg.Steps.cons ?_ (Reg.Steps.cons ?_ (Reg.Steps.cons ?_ (Reg.Steps.cons ?_ (Reg.Steps.cons ?_ (Reg.Steps.cons ?_ (Reg.Steps.cons ?_ (Reg.Steps.cons ?_ (Reg.Steps.cons ?_ (Reg.Steps.cons ?_ (Reg.Steps.cons ?_ (Reg.Steps.nil _)))))))))))))))))))
                · intro val ac u hR hp ha K hK      -- 0: t60 := Op.move t3
                  have e3 : (ac.tmps[3]?).getD undef = .pointer (some ⟨g, 0, none⟩) := ha 3 (by decide)
                  clear ha hp
                  refine Reg.Op1.plain rfl ?_
                  go_wp2
                  exact ⟨rfl, hK _ _ rfl (Reg.Wr.same _)⟩
                · intro val ac u hR hp ha K hK      -- 1: t61 := Op.move t3
                  have e3 : (ac.tmps[3]?).getD undef = .pointer (some ⟨g, 0, none⟩) := ha 3 (by decide)
                  clear ha hp
                  refine Reg.Op1.plain rfl ?_
                  go_wp2
                  exact ⟨rfl, hK _ _ rfl (Reg.Wr.same _)⟩
                · intro val ac u hR hp ha K hK      -- 2: t62 := Op.nilCheck t61
                  obtain ⟨w61, h61, r61⟩ := hp 1 (by decide)
                  have e61 : (ac.tmps[61]?).getD undef = .pointer (some ⟨g, 0, none⟩) := (ha 61 (by decide)).trans h61
                  clear h61
                  clear ha hp
                  refine Reg.Op1.plain rfl ?_
                  go_wp2
                  exact ⟨rfl, hK _ _ rfl (Reg.Wr.same _)⟩
                · intro val ac u hR hp ha K hK      -- 3: t63 := Op.fieldAddr 31 t62 6
                  obtain ⟨w62, h62, r62⟩ := hp 2 (by decide)
                  have e62 : (ac.tmps[62]?).getD undef = .pointer (some ⟨g, 0, none⟩) := (ha 62 (by decide)).trans h62
                  clear h62
                  clear ha hp
                  refine Reg.Op1.plain rfl ?_
                  go_wp2
                  exact ⟨rfl, hK _ _ rfl (Reg.Wr.same _)⟩
                · intro val ac u hR hp ha K hK      -- 4: t64 := Op.load 29 t63
                  obtain ⟨w63, h63, r63⟩ := hp 3 (by decide)
                  have e63 : (ac.tmps[63]?).getD undef = .pointer (some ⟨g, 6, none⟩) := (ha 63 (by decide)).trans h63
                  clear h63
                  clear ha hp
                  refine Reg.Op1.plain rfl ?_
                  have x0 := (((Reg.Wr.not3 hR (by decide +kernel))).cell (p := ⟨g, 6, none⟩) (hgW) (hgn4)).trans (e1)
                  go_wp2
                  exact ⟨rfl, hK _ _ rfl (Reg.Wr.same _)⟩
                · intro val ac u hR hp ha K hK      -- 5: t65 := Op.move t3
                  have e3 : (ac.tmps[3]?).getD undef = .pointer (some ⟨g, 0, none⟩) := ha 3 (by decide)
                  clear ha hp
                  refine Reg.Op1.plain rfl ?_
                  go_wp2
                  exact ⟨rfl, hK _ _ rfl (Reg.Wr.same _)⟩
                · intro val ac u hR hp ha K hK      -- 6: t66 := Op.nilCheck t65
                  obtain ⟨w65, h65, r65⟩ := hp 5 (by decide)
                  have e65 : (ac.tmps[65]?).getD undef = .pointer (some ⟨g, 0, none⟩) := (ha 65 (by decide)).trans h65
                  clear h65
                  clear ha hp
                  refine Reg.Op1.plain rfl ?_
                  go_wp2
                  exact ⟨rfl, hK _ _ rfl (Reg.Wr.same _)⟩
                · intro val ac u hR hp ha K hK      -- 7: t67 := Op.fieldAddr 31 t66 0
                  obtain ⟨w66, h66, r66⟩ := hp 6 (by decide)
                  have e66 : (ac.tmps[66]?).getD undef = .pointer (some ⟨g, 0, none⟩) := (ha 66 (by decide)).trans h66
                  clear h66
                  clear ha hp
                  refine Reg.Op1.plain rfl ?_
                  go_wp2
                  exact ⟨rfl, hK _ _ rfl (Reg.Wr.same _)⟩
                · intro val ac u hR hp ha K hK      -- 8: t68 := Op.load 26 t67
                  obtain ⟨w67, h67, r67⟩ := hp 7 (by decide)
                  have e67 : (ac.tmps[67]?).getD undef = .pointer (some ⟨g, 0, none⟩) := (ha 67 (by decide)).trans h67
                  clear h67
                  clear ha hp
                  refine Reg.Op1.plain rfl ?_
                  have x0 := (((Reg.Wr.not3 hR (by decide +kernel))).cell (p := ⟨g, 0, none⟩) (hgW) (hgn4)).trans (e0)
                  go_wp2
                  exact ⟨rfl, hK _ _ rfl (Reg.Wr.same _)⟩
                · intro val ac u hR hp ha K hK      -- 9: t69 := Op.move t3
                  have e3 : (ac.tmps[3]?).getD undef = .pointer (some ⟨g, 0, none⟩) := ha 3 (by decide)
                  clear ha hp
                  refine Reg.Op1.plain rfl ?_
                  go_wp2
                  exact ⟨rfl, hK _ _ rfl (Reg.Wr.same _)⟩
                · intro val ac u hR hp ha K hK      -- 10: t70 := Op.nilCheck t69
                  obtain ⟨w69, h69, r69⟩ := hp 9 (by decide)
                  have e69 : (ac.tmps[69]?).getD undef = .pointer (some ⟨g, 0, none⟩) := (ha 69 (by decide)).trans h69
                  clear h69
                  clear ha hp
                  refine Reg.Op1.plain rfl ?_
                  go_wp2
                  exact ⟨rfl, hK _ _ rfl (Reg.Wr.same _)⟩
                · intro val ac u hR hp ha K hK      -- 11: t71 := Op.fieldAddr 31 t70 1
                  obtain ⟨w70, h70, r70⟩ := hp 10 (by decide)
                  have e70 : (ac.tmps[70]?).getD undef = .pointer (some ⟨g, 0, none⟩) := (ha 70 (by decide)).trans h70
                  clear h70
                  clear ha hp
                  refine Reg.Op1.plain rfl ?_
                  go_wp2
                  exact ⟨rfl, hK _ _ rfl (Reg.Wr.same _)⟩
                · intro val ac u hR hp ha K hK      -- 12: t72 := Op.load 26 t71
                  obtain ⟨w71, h71, r71⟩ := hp 11 (by decide)
                  have e71 : (ac.tmps[71]?).getD undef = .pointer (some ⟨g, 1, none⟩) := (ha 71 (by decide)).trans h71
                  clear h71
                  clear ha hp
                  refine Reg.Op1.plain rfl ?_
                  have x0 := (((Reg.Wr.not3 hR (by decide +kernel))).cell (p := ⟨g, 1, none⟩) (hgW) (hgn4)).trans (e9)
                  go_wp2
                  exact ⟨rfl, hK _ _ rfl (Reg.Wr.same _)⟩
                · intro val ac u hR hp ha K hK      -- 13: t73 := Op.call { value (Operand.func 13), args := #[t72], argTypes := #[26] }
                  obtain ⟨w72, h72, r72⟩ := hp 12 (by decide)
                  have e72 : (ac.tmps[72]?).getD undef = .pointer (some ⟨p.g 1, 0, none⟩) := (ha 72 (by decide)).trans h72
                  clear h72
                  clear ha hp
                  refine Reg.Op1.plain rfl ?_
                  have hq : Mem.Keeps (fun _ => False) wx u := (Mem.Keeps.refl (fun _ => False) wx).drew.trans (Reg.Wr.none hR (by decide +kernel) (by decide +kernel) (by decide +kernel)) (fun _ h _ => h)
                  have hen := HE.out.keeps hq (fun h => h) (fun _ _ h => h)
                  go_wp2_with fail
                  refine (out_any hen HFJ.out.s0 (by have := HFJ.out.sN; omega) (by have := HFJ.out.o8; omega)).mono ?_
                  rintro x w' ⟨O, oc, rfl, hO, hb, hf⟩
                  rw [HLL.out] at hO ⊢
                  go_wp2_with fail
                  exact ⟨rfl, hK _ _ ⟨O, oc, rfl, hf.mono hq.size, hO⟩ (Reg.Wr.below hb)⟩
                · intro val ac u hR hp ha K hK      -- 14: t74 := Op.call { value (Operand.func 12), args := #[t68, t73], argTypes := #[26, 28] }
                  obtain ⟨w68, h68, r68⟩ := hp 8 (by decide)
                  have e68 : (ac.tmps[68]?).getD undef = .pointer (some ⟨p.g 0, 0, none⟩) := (ha 68 (by decide)).trans h68
                  clear h68
                  obtain ⟨w73, h73, r73⟩ := hp 13 (by decide)
                  have e73 : (ac.tmps[73]?).getD undef = val 13 := ha 73 (by decide)
                  clear ha hp
                  refine Reg.Op1.plain rfl ?_
                  obtain ⟨O0, oc0, hv, hs0, ho⟩ := h73
                  rw [hv] at e73
                  have ho' := ho.keeps (Reg.Wr.none r73 (by decide +kernel) (by decide +kernel) (by decide +kernel)) (fun _ _ h => h)
                  have hq1 : Mem.Keeps (fun y => Mem.blk (p.X 6) = some y ∨ y = g) wx u := (Mem.Keeps.refl (fun y => Mem.blk (p.X 6) = some y ∨ y = g) wx).drew.trans (Reg.Wr.not1 hR (by decide +kernel)) (fun _ h _ => h)
                  have hen := (HW.out.en 0 (by omega)).keeps hq1 (fun h => (HN1.out _ h).1 rfl) (fun y hy h => (HN1.out _ h).2 hy)
                  have hgi := HW.out.ltg (i := 0) (by omega)
                  go_wp2_with fail
                  refine (take_any hen O0 oc0 l (fun W hk => ho'.rd.keepsAt hk (Nat.le_refl _) (fun y h1 h => by have := hs0.blk y h1; omega)) (by omega) HFI.out (by omega)).mono ?_
                  rw [tEnd_eq, HRR.out]
                  rintro x w' ⟨A2, O, c2, oc, rfl, hA2, hO2, hf2, hk2, hm2⟩
                  go_wp2_with fail
                  exact ⟨rfl, hK _ _ ⟨A2, O, c2, oc, rfl, hA2, hO2, hf2.mono hq1.size, hm2⟩ (Reg.Wr.does1 hk2)⟩
                · intro val ac u hR hp ha K hK      -- 15: t75 := Op.call { builtin append, args := #[t64, t74], argTypes := #[29, 29] }
                  obtain ⟨w64, h64, r64⟩ := hp 4 (by decide)
                  have e64 : (ac.tmps[64]?).getD undef = .slice (p.X 6) (s2.st 6).length (p.xc 6) := (ha 64 (by decide)).trans h64
                  clear h64
                  obtain ⟨w74, h74, r74⟩ := hp 14 (by decide)
                  have e74 : (ac.tmps[74]?).getD undef = val 14 := ha 74 (by decide)
                  clear ha hp
                  refine Reg.Op1.plain rfl ?_
                  obtain ⟨_, O, _, oc, hv, _, hO, hf, _⟩ := h74
                  rw [hv] at e74
                  have hO' := hO.keeps (Reg.Wr.none r74 (by decide +kernel) (by decide +kernel) (by decide +kernel)) (fun _ _ h => h)
                  have hq2 : Mem.Keeps (fun y => y = p.g 0 ∨ y = g) wx u := (Mem.Keeps.refl (fun y => y = p.g 0 ∨ y = g) wx).drew.trans (Reg.Wr.not2 hR (by decide +kernel)) (fun _ h _ => h)
                  have hX' := (HW.out.st 6 (by omega) (by omega)).keeps hq2 (fun y hy => HN2.out y hy)
                  have hbu := hq2.size
                  refine Mem.wpList_app u rfl (.tmp 64) (.tmp 74) _ rfl strs_elem (p.X 6) (s2.st 6).length (p.xc 6) _ (Reg.eval_of e64) u.heap.size O r.2.length oc (r.2.map strV) (Reg.eval_of e74) ?_ hX' hO'.rd (by simp) (by simp [Value.oneCell']) (by unfold maxLen; omega) (by omega)
                  intro X' d' u' hown hg hat
                  exact ⟨rfl, hK _ _ ⟨X', d', rfl, hown, hat.elim .inl (fun h => .inr (h ▸ Mem.From.some_ hbu))⟩ (Reg.Wr.does2 ((Mem.Keeps.refl _ u).grown hg (fun y hy _ => hy)))⟩
                · intro val ac u hR hp ha K hK      -- 16: t76 := Op.nilCheck t60
                  obtain ⟨w60, h60, r60⟩ := hp 0 (by decide)
                  have e60 : (ac.tmps[60]?).getD undef = .pointer (some ⟨g, 0, none⟩) := (ha 60 (by decide)).trans h60
                  clear h60
                  clear ha hp
                  refine Reg.Op1.plain rfl ?_
                  go_wp2
                  exact ⟨rfl, hK _ _ rfl (Reg.Wr.same _)⟩
                · intro val ac u hR hp ha K hK      -- 17: t77 := Op.fieldAddr 31 t76 6
                  obtain ⟨w76, h76, r76⟩ := hp 16 (by decide)
                  have e76 : (ac.tmps[76]?).getD undef = .pointer (some ⟨g, 0, none⟩) := (ha 76 (by decide)).trans h76
                  clear h76
                  clear ha hp
                  refine Reg.Op1.plain rfl ?_
                  go_wp2
                  exact ⟨rfl, hK _ _ rfl (Reg.Wr.same _)⟩
                · intro val ac u hR hp ha K hK      -- 18: Op.store 29 t77 t75
                  obtain ⟨w77, h77, r77⟩ := hp 17 (by decide)
                  have e77 : (ac.tmps[77]?).getD undef = .pointer (some ⟨g, 6, none⟩) := (ha 77 (by decide)).trans h77
                  clear h77
                  obtain ⟨w75, h75, r75⟩ := hp 15 (by decide)
                  have e75 : (ac.tmps[75]?).getD undef = val 15 := ha 75 (by decide)
                  clear ha hp
                  refine Reg.Op1.plain rfl ?_
                  obtain ⟨X2, d2, hv, hO, hm⟩ := h75
                  rw [hv] at e75
                  have hO' := hO.keeps (Reg.Wr.none r75 (by decide +kernel) (by decide +kernel) (by decide +kernel)) (fun _ _ h => h)
                  have hq3 : Mem.Keeps (fun y => y = p.g 0 ∨ Mem.blk (p.X 6) = some y) wx u := (Mem.Keeps.refl (fun y => y = p.g 0 ∨ Mem.blk (p.X 6) = some y) wx).drew.trans (Reg.Wr.not3 hR (by decide +kernel)) (fun _ h _ => h)
                  have hbx := Mem.Own.keeps HW.out.box hq3 (fun y hy h => by cases hy; exact hgn4 h)
                  have xf := Mem.Own.free hbx
                  have x0 := (hq3.cell (p := ⟨g, 6, none⟩) hgW hgn4).trans e1
                  have hln : (s2.st 6 ++ r.2).length = (s2.st 6).length + r.2.length := List.length_append
                  go_wp2
                  refine ⟨rfl, hK undef _ ⟨X2, d2, ?_, hm, ?_⟩ (Reg.Wr.does3 ((Mem.Keeps.refl (fun q => q = g) u).setCell (p := ⟨g, 6, none⟩) (fun _ => rfl) _))⟩
                  · rw [hln, List.map_append]
                    refine hO'.keeps ((Mem.Keeps.refl (fun q => q = g) u).setCell (p := ⟨g, 6, none⟩) (fun _ => rfl) _) (fun y h1 h => ?_)
                    rcases hm with h2 | h2
                    · exact hgn4 (.inr (by rw [← h2, h1, h]))
                    · have := h2.blk y h1; omega
                  · rw [hln]; have := Mem.Own.set hbx 6 (.slice X2 ((s2.st 6).length + r.2.length) d2); exact this
              · intro val u hR H
                obtain ⟨wA, ⟨A2, _, c2, _, _, hA2, _, _, hmA⟩, rA⟩ := H 14 (by decide)
                obtain ⟨wB, ⟨X2, d2, hO3, hmX, hb3⟩, rB⟩ := H 18 (by decide)
                have hA3 := hA2.keeps (Reg.Wr.not1 rA (by decide +kernel)) (fun h => (HN1.out _ h).1 rfl) (fun y hy h => (HN1.out _ h).2 (by
                  rcases hmA with e | e
                  · exact e ▸ hy
                  · rw [e] at hy; cases hy))
                have hO4 := hO3.keeps (Reg.Wr.none rB (by decide +kernel) (by decide +kernel) (by decide +kernel)) (fun _ _ h => h)
                have hb4 := hb3.keeps (Reg.Wr.none rB (by decide +kernel) (by decide +kernel) (by decide +kernel)) (fun _ _ h => h)
                have hk : Mem.Keeps (fun y => lab y = 0 ∨ lab y = 6 ∨ lab y = 10) wx u := ((Mem.Keeps.refl (fun y => y = p.g 0 ∨ Mem.blk (p.X 6) = some y ∨ y = g) wx).drew.trans (Reg.Wr.all hR) (fun _ h _ => h)).mono (fun y h _ => by
                  rcases h with h | h | h
                  · exact .inl (by rw [h]; exact HGI.out)
                  · exact .inr (.inl (HX.out _ h))
                  · exact .inr (.inr (by rw [h]; exact HGG.out)))
                have hwl := HW.out.took (i := 0) (j := 6) (by omega) (by omega) (by omega) hA3 hO4 hb4 hk hmA (hmX.elim (fun h => .inl (by rw [h])) (fun h => .inr (.inr h)))
                have hgs : r2 s2 = { s2 with e := upd s2.e 0 r.1, st := upd s2.st 6 (s2.st 6 ++ r.2) } := by unfold r2 takeW; rw [HLL.out, HRR.out]
                rw [← hgs] at hwl
                have HM : Hid (EMid w g (r2 s2) u) := ⟨_, _, hwl⟩
                simp only [List.map_cons, List.map_nil, Reg.lay, Act.put, List.setIfInBounds_toArray, List.set_cons_succ, List.set_cons_zero, Nat.reduceAdd]
                clear hR H hk hb4 hO4 hb3 hO3 rA rB hwl hgs
                go_wp2
                go_roundw
                case rel =>
                  obtain ⟨p3, lab3, HW3⟩ := HM.out
                  exact ⟨⟨m + 1, p3, lab3, by omega, by go_num, by show WL _ _ _ _ _ _; rw [HS.out, HS2.out]; exact HW3⟩⟩
                case measure => simp [intOf]; omega
          · obtain rfl : m = 3 := by omega
            obtain ⟨E1, E2, O0, O1⟩ := ends HG0.out
            obtain ⟨s, hs⟩ : ∃ s, rr (rr (rr s0)) = s := ⟨_, rfl⟩
            have HWs : Hid (WL w wx g p s lab) := by show WL _ _ _ _ _ _; rw [← hs]; exact HW.out
            rw [hs] at E1 E2 O0 O1
            clear hs HW HG HBd hm3
            have c0 := HWs.out.cell (i := 0) rfl
            have c1 := HWs.out.cell (i := 1) rfl
            have c4 := HWs.out.cell (i := 4) rfl
            have c5 := HWs.out.cell (i := 5) rfl
            have c6 := HWs.out.cell (i := 6) rfl
            have c7 := HWs.out.cell (i := 7) rfl
            have o4 := HWs.out.st 4 (by omega) (by omega)
            have o5 := HWs.out.st 5 (by omega) (by omega)
            have o6 := HWs.out.st 6 (by omega) (by omega)
            have o7 := HWs.out.st 7 (by omega) (by omega)
            rw [E1] at c7 o7
            rw [E2] at c6 o6
            have HQ1 : Hid (∀ n, _) := fun n => words_quiet2 n (s.st 4) (p.X 7) (p.X 4) (p.xc 7) (p.xc 4) o7.rd o4.rd (Nat.le_trans o4.le o4.cap)
            have HQ2 : Hid (∀ n, _) := fun n => words_quiet2 n (s.st 5) (p.X 6) (p.X 5) (p.xc 6) (p.xc 5) o6.rd o5.rd (Nat.le_trans o5.le o5.cap)
            have HE0 := Lib.hid (HWs.out.en 0 (by omega))
            have HE1 := Lib.hid (HWs.out.en 1 (by omega))
            have z0 : (((s.e 0).opn.length : Int) == 0) = true := by rw [O0]; rfl
            have z1 : (((s.e 1).opn.length : Int) == 0) = true := by rw [O1]; rfl
            clear E1 E2 O0 O1 o4 o5 o6 o7
            go_wp2
            go_quiet ((first | (go_at_call 14; with_reducible exact HQ1.out _) | (go_at_call 14; with_reducible exact HQ2.out _) | (go_at_call 15; with_reducible exact quiet1_open HE0.out.box _) | (go_at_call 15; with_reducible exact quiet1_open HE1.out.box _)))
            go_wp2
            go_ret
            exact ⟨rfl, Mem.below_drewN HWs.out.bl _⟩
      · have h5d : decide ((500 : Int) < ((s.pk 2).length : Int) + ((s.pk 3).length : Int)) = false := by simp; omega
        have hs5 : (s.pk 2).length + (s.pk 3).length ≤ 100000 := by omega
        have H5 := Lib.hid h5
        clear h5
        go_wp2
        go_quiet (fail)
        clear hw1
        go_wp2_with fail
        refine (step_any (HW.out.quiet ((Mem.Keeps.refl _ _).drewN _)) a HAI.out.ok (by omega) hs5 (fun i hi => (HBd.out.fe i hi).mono (by omega)) (fun i h1 h2 => Nat.le_trans (HBd.out.fs i h1 h2) (by omega))).mono ?_
        rintro x w6 ⟨rfl, p2, lab2, hW2⟩
        have hpk2 := step_pk (a := a) HBd.out
        obtain ⟨s2, hs2⟩ : ∃ s2, stepW s a = s2 := ⟨_, rfl⟩
        have hG2 := HG.out.step (a := a)
        have hB2 := HBd.out.step (a := a)
        rw [hs2] at hW2 hG2 hB2 hpk2
        have HW2 := Lib.hid hW2
        have HG2 := Lib.hid hG2
        have HB2 : Hid (Bd s2 (len1 (acs.take (k + 1)))) := by show Bd _ _; rw [HTS.out]; exact hB2
        have hk2 : len1 (acs.take (k + 1)) ≤ 2000 := by rw [HTS.out]; exact hcost
        have HPK : Hid ((s2.pk 2).length + (s2.pk 3).length ≤ 600) := by have := H5.out; show _ ≤ _; omega
        clear hs2 hW2 hG2 hB2 HW HG HBd c2 c3 q0 q1 q2 q3 hs5 hpk2 hp6
        have hrel : ORel w g acs (.int .i64 ((k : Int) + 1)) w6 := ⟨⟨k + 1, p2, s2, lab2, by omega, by go_num, HW2, HG2, HB2, HPK.out⟩⟩
        have HREL := Lib.hid hrel
        clear hrel
        go_wp2
        go_roundw
        case rel => exact HREL.out
        case measure => simp [intOf]; omega
    · obtain rfl : k = acs.length := by omega
      have HW0 := HW
      have HG0 := HG
      have HBd0 : Hid (Bd s 2000) := HBd.out.mono (by have := HC.out; rw [List.take_length]; omega)
      obtain ⟨s0, hs0⟩ : ∃ s0, s = s0 := ⟨_, rfl⟩
      rw [hs0] at HW0 HG0 HBd0
      clear hs0 HW HG HBd hp6
      go_wp2
      go_loopw [5] (ERel w g s0) (fun t _ => 3 - (intOf t).toNat)
      case atStart => exact ⟨⟨0, p, lab, by omega, rfl, HW0⟩⟩
      case round =>
        clear HW0
        obtain ⟨m, p, lab, hm, rfl, HW⟩ := hrel.out
        obtain ⟨wx, hwx⟩ : ∃ wx, wr = wx := ⟨_, rfl⟩
        rw [hwx] at HW ⊢
        clear hwx
        have HG := Lib.hid (HG0.out.rrN m)
        have HBd := Lib.hid ((HBd0.out.rrN m).mono (show 2000 + 16 * m ≤ 3000 by omega))
        by_cases hm3 : m < 3
        · obtain ⟨s, hs⟩ : ∃ s, rrN m s0 = s := ⟨_, rfl⟩
          have HS : Hid (rrN (m + 1) s0 = rr s) := by show rr (rrN m s0) = rr s; rw [hs]
          rw [hs] at HW HG HBd
          clear hs
          go_upto_region 14 with fail
          go_cut [] (fun wy => EMid w g (r1 s) wy)
          case first =>
            have HE := Lib.hid (HW.out.en 0 (by omega))
            have e0 := HW.out.cell (i := 1) rfl
            have e9 := HW.out.cell (i := 0) rfl
            have e1 := HW.out.cell (i := 7) rfl
            have hgW := HW.out.lt
            have HFJ := Lib.hid (HBd.out.fe 0 (by omega))
            have HFI := Lib.hid (HBd.out.fe 1 (by omega))
            have hst1 := HBd.out.fs 7 (by omega) (by omega)
            obtain ⟨l, hl⟩ : ∃ l, out (s.e 0) = l := ⟨_, rfl⟩
            have hll : l.length ≤ 8 := by rw [← hl]; exact out_len _ HFJ.out.o8
            have HLL := Lib.hid hl
            obtain ⟨r, hr⟩ : ∃ r, take (s.e 1) l = r := ⟨_, rfl⟩
            have hrl : r.2.length ≤ 8 := by have := Link.take_len (s.e 1) l; rw [hr] at this; omega
            have HRR := Lib.hid hr
            have HX : Hid (∀ y, Mem.blk (p.X 7) = some y → lab y = 7) := fun y hy => HW.out.lx 7 (by omega) (by omega) y hy
            have HO6 : Hid (∀ y, Mem.blk (p.O 1) = some y → lab y = 8 + 1) := fun y hy => HW.out.lo 1 (by omega) y hy
            have HGI := Lib.hid (HW.out.le 1 (by omega))
            have HGG := Lib.hid HW.out.lg
            have hgn3 : Hid (¬ (g = p.g 1 ∨ Mem.blk (p.X 7) = some g)) := by
              rintro (h | h)
              · have := HGI.out; rw [← h, HGG.out] at this; omega
              · have := HX.out _ h; rw [HGG.out] at this; omega
            have hgn4 := hgn3.out
            have HN1 : Hid (∀ y, (Mem.blk (p.X 7) = some y ∨ y = g) → y ≠ p.g 1 ∧ Mem.blk (p.O 1) ≠ some y) := fun y h => by
              have hl : lab y = 7 ∨ lab y = 10 := h.elim (fun h => .inl (HX.out _ h)) (fun h => .inr (by rw [h]; exact HGG.out))
              refine ⟨fun h => ?_, fun h => ?_⟩
              · have := HGI.out; rw [← h] at this; omega
              · have := HO6.out _ h; omega
            have HN2 : Hid (∀ y, Mem.blk (p.X 7) = some y → ¬ (y = p.g 1 ∨ y = g)) := fun y hy h => by
              have := HX.out _ hy
              rcases h with h | h
              · rw [h, HGI.out] at this; omega
              · rw [h, HGG.out] at this; omega
            clear hl hr
            go_upto_region 14 with fail
            refine Reg.wp_region_w (by kernel_rfl) 114 19 rfl rfl (by kernel_rfl) (14) (fun y => y = p.g 1) (15) (fun y => Mem.blk (p.X 7) = some y) (18) (fun y => y = g)
              (fun i v u => match i with
                | 0 => v = .pointer (some ⟨g, 0, none⟩)
                | 1 => v = .pointer (some ⟨g, 0, none⟩)
                | 2 => v = .pointer (some ⟨g, 0, none⟩)
                | 3 => v = .pointer (some ⟨g, 7, none⟩)
                | 4 => v = .slice (p.X 7) (s.st 7).length (p.xc 7)
                | 5 => v = .pointer (some ⟨g, 0, none⟩)
                | 6 => v = .pointer (some ⟨g, 0, none⟩)
                | 7 => v = .pointer (some ⟨g, 1, none⟩)
                | 8 => v = .pointer (some ⟨p.g 1, 0, none⟩)
                | 9 => v = .pointer (some ⟨g, 0, none⟩)
                | 10 => v = .pointer (some ⟨g, 0, none⟩)
                | 11 => v = .pointer (some ⟨g, 0, none⟩)
                | 12 => v = .pointer (some ⟨p.g 0, 0, none⟩)
                | 13 => ∃ O oc, v = .slice O l.length oc ∧ Mem.From wx.heap.size O ∧ Mem.Own u 52 5 O l.length oc (l.flatMap pkCells)
                | 14 => ∃ A2 O c2 oc, v = .slice O r.2.length oc ∧ At u (p.g 1) A2 c2 r.1 ∧ Mem.Own u 9 1 O r.2.length oc (r.2.map strV) ∧ Mem.From wx.heap.size O ∧ (Mem.blk A2 = Mem.blk (p.O 1) ∨ Mem.blk A2 = none)
                | 15 => ∃ X2 d2, v = .slice X2 ((s.st 7).length + r.2.length) d2 ∧ Mem.Own u 9 1 X2 ((s.st 7).length + r.2.length) d2 ((s.st 7).map strV ++ r.2.map strV) ∧ (X2 = p.X 7 ∨ Mem.From wx.heap.size X2)
                | 16 => v = .pointer (some ⟨g, 0, none⟩)
                | 17 => v = .pointer (some ⟨g, 7, none⟩)
                | 18 => ∃ X2 d2, Mem.Own u 9 1 X2 (s.st 7 ++ r.2).length d2 ((s.st 7 ++ r.2).map strV) ∧ (X2 = p.X 7 ∨ Mem.From wx.heap.size X2) ∧ Mem.Own u 31 8 (some ⟨g, 0, none⟩) 1 1 ((wCells p s).set 7 (.slice X2 (s.st 7 ++ r.2).length d2))
                | _ => True) ?_ ?_
            · refine Reg.Steps.cons ?_ (Reg.Steps.cons ?_ (Reg.Steps.cons ?_ (Reg.Steps.cons ?_ (Reg.Steps.cons ?_ (Reg.Steps.cons ?_ (Reg.Steps.cons ?_ (Reg.Steps.cons ?_ (Reg.Steps.cons ?_ (Reg.Steps.cons ?_ (Reg.Steps.cons ?_ (Reg.Steps.cons ?_ (Reg.Steps.cons ?_ (Reg.Steps.cons ?_ (Reg.Steps.cons ?_ (Reg.Steps.cons ?_ (Reg.Steps.cons ?_ (Reg.Steps.cons ?_ (Reg.Steps.cons ?_ (Reg.Steps.nil _)))))))))))))))))))
              · intro val ac u hR hp ha K hK      -- 0: t42 := Op.move t3
                have e3 : (ac.tmps[3]?).getD undef = .pointer (some ⟨g, 0, none⟩) := ha 3 (by decide)
                clear ha hp
                refine Reg.Op1.plain rfl ?_
                go_wp2
                exact ⟨rfl, hK _ _ rfl (Reg.Wr.same _)⟩
              · intro val ac u hR hp ha K hK      -- 1: t43 := Op.move t3
                have e3 : (ac.tmps[3]?).getD undef = .pointer (some ⟨g, 0, none⟩) := ha 3 (by decide)
                clear ha hp
                refine Reg.Op1.plain rfl ?_
                go_wp2
                exact ⟨rfl, hK _ _ rfl (Reg.Wr.same _)⟩
              · intro val ac u hR hp ha K hK      -- 2: t44 := Op.nilCheck t43
                obtain ⟨w43, h43, r43⟩ := hp 1 (by decide)
                have e43 : (ac.tmps[43]?).getD undef = .pointer (some ⟨g, 0, none⟩) := (ha 43 (by decide)).trans h43
                clear h43
                clear ha hp
                refine Reg.Op1.plain rfl ?_
                go_wp2
                exact ⟨rfl, hK _ _ rfl (Reg.Wr.same _)⟩
              · intro val ac u hR hp ha K hK      -- 3: t45 := Op.fieldAddr 31 t44 7
                obtain ⟨w44, h44, r44⟩ := hp 2 (by decide)
                have e44 : (ac.tmps[44]?).getD undef = .pointer (some ⟨g, 0, none⟩) := (ha 44 (by decide)).trans h44
                clear h44
                clear ha hp
                refine Reg.Op1.plain rfl ?_
                go_wp2
                exact ⟨rfl, hK _ _ rfl (Reg.Wr.same _)⟩
              · intro val ac u hR hp ha K hK      -- 4: t46 := Op.load 29 t45
                obtain ⟨w45, h45, r45⟩ := hp 3 (by decide)
                have e45 : (ac.tmps[45]?).getD undef = .pointer (some ⟨g, 7, none⟩) := (ha 45 (by decide)).trans h45
                clear h45
                clear ha hp
                refine Reg.Op1.plain rfl ?_
                have x0 := (((Reg.Wr.not3 hR (by decide +kernel))).cell (p := ⟨g, 7, none⟩) (hgW) (hgn4)).trans (e1)
                go_wp2
                exact ⟨rfl, hK _ _ rfl (Reg.Wr.same _)⟩
              · intro val ac u hR hp ha K hK      -- 5: t47 := Op.move t3
                have e3 : (ac.tmps[3]?).getD undef = .pointer (some ⟨g, 0, none⟩) := ha 3 (by decide)
                clear ha hp
                refine Reg.Op1.plain rfl ?_
                go_wp2
                exact ⟨rfl, hK _ _ rfl (Reg.Wr.same _)⟩
              · intro val ac u hR hp ha K hK      -- 6: t48 := Op.nilCheck t47
                obtain ⟨w47, h47, r47⟩ := hp 5 (by decide)
                have e47 : (ac.tmps[47]?).getD undef = .pointer (some ⟨g, 0, none⟩) := (ha 47 (by decide)).trans h47
                clear h47
                clear ha hp
                refine Reg.Op1.plain rfl ?_
                go_wp2
                exact ⟨rfl, hK _ _ rfl (Reg.Wr.same _)⟩
              · intro val ac u hR hp ha K hK      -- 7: t49 := Op.fieldAddr 31 t48 1
                obtain ⟨w48, h48, r48⟩ := hp 6 (by decide)
                have e48 : (ac.tmps[48]?).getD undef = .pointer (some ⟨g, 0, none⟩) := (ha 48 (by decide)).trans h48
                clear h48
                clear ha hp
                refine Reg.Op1.plain rfl ?_
                go_wp2
                exact ⟨rfl, hK _ _ rfl (Reg.Wr.same _)⟩
              · intro val ac u hR hp ha K hK      -- 8: t50 := Op.load 26 t49
                obtain ⟨w49, h49, r49⟩ := hp 7 (by decide)
                have e49 : (ac.tmps[49]?).getD undef = .pointer (some ⟨g, 1, none⟩) := (ha 49 (by decide)).trans h49
                clear h49
                clear ha hp
                refine Reg.Op1.plain rfl ?_
                have x0 := (((Reg.Wr.not3 hR (by decide +kernel))).cell (p := ⟨g, 1, none⟩) (hgW) (hgn4)).trans (e0)
                go_wp2
                exact ⟨rfl, hK _ _ rfl (Reg.Wr.same _)⟩
              · intro val ac u hR hp ha K hK      -- 9: t51 := Op.move t3
                have e3 : (ac.tmps[3]?).getD undef = .pointer (some ⟨g, 0, none⟩) := ha 3 (by decide)
                clear ha hp
                refine Reg.Op1.plain rfl ?_
                go_wp2
                exact ⟨rfl, hK _ _ rfl (Reg.Wr.same _)⟩
              · intro val ac u hR hp ha K hK      -- 10: t52 := Op.nilCheck t51
                obtain ⟨w51, h51, r51⟩ := hp 9 (by decide)
                have e51 : (ac.tmps[51]?).getD undef = .pointer (some ⟨g, 0, none⟩) := (ha 51 (by decide)).trans h51
                clear h51
                clear ha hp
                refine Reg.Op1.plain rfl ?_
                go_wp2
                exact ⟨rfl, hK _ _ rfl (Reg.Wr.same _)⟩
              · intro val ac u hR hp ha K hK      -- 11: t53 := Op.fieldAddr 31 t52 0
                obtain ⟨w52, h52, r52⟩ := hp 10 (by decide)
                have e52 : (ac.tmps[52]?).getD undef = .pointer (some ⟨g, 0, none⟩) := (ha 52 (by decide)).trans h52
                clear h52
                clear ha hp
                refine Reg.Op1.plain rfl ?_
                go_wp2
                exact ⟨rfl, hK _ _ rfl (Reg.Wr.same _)⟩
              · intro val ac u hR hp ha K hK      -- 12: t54 := Op.load 26 t53
                obtain ⟨w53, h53, r53⟩ := hp 11 (by decide)
                have e53 : (ac.tmps[53]?).getD undef = .pointer (some ⟨g, 0, none⟩) := (ha 53 (by decide)).trans h53
                clear h53
                clear ha hp
                refine Reg.Op1.plain rfl ?_
                have x0 := (((Reg.Wr.not3 hR (by decide +kernel))).cell (p := ⟨g, 0, none⟩) (hgW) (hgn4)).trans (e9)
                go_wp2
                exact ⟨rfl, hK _ _ rfl (Reg.Wr.same _)⟩
              · intro val ac u hR hp ha K hK      -- 13: t55 := Op.call { value (Operand.func 13), args := #[t54], argTypes := #[26] }
                obtain ⟨w54, h54, r54⟩ := hp 12 (by decide)
                have e54 : (ac.tmps[54]?).getD undef = .pointer (some ⟨p.g 0, 0, none⟩) := (ha 54 (by decide)).trans h54
                clear h54
                clear ha hp
                refine Reg.Op1.plain rfl ?_
                have hq : Mem.Keeps (fun _ => False) wx u := (Mem.Keeps.refl (fun _ => False) wx).drew.trans (Reg.Wr.none hR (by decide +kernel) (by decide +kernel) (by decide +kernel)) (fun _ h _ => h)
                have hen := HE.out.keeps hq (fun h => h) (fun _ _ h => h)
                go_wp2_with fail
                refine (out_any hen HFJ.out.s0 (by have := HFJ.out.sN; omega) (by have := HFJ.out.o8; omega)).mono ?_
                rintro x w' ⟨O, oc, rfl, hO, hb, hf⟩
                rw [HLL.out] at hO ⊢
                go_wp2_with fail
                exact ⟨rfl, hK _ _ ⟨O, oc, rfl, hf.mono hq.size, hO⟩ (Reg.Wr.below hb)⟩
              · intro val ac u hR hp ha K hK      -- 14: t56 := Op.call { value (Operand.func 12), args := #[t50, t55], argTypes := #[26, 28] }
                obtain ⟨w50, h50, r50⟩ := hp 8 (by decide)
                have e50 : (ac.tmps[50]?).getD undef = .pointer (some ⟨p.g 1, 0, none⟩) := (ha 50 (by decide)).trans h50
                clear h50
                obtain ⟨w55, h55, r55⟩ := hp 13 (by decide)
                have e55 : (ac.tmps[55]?).getD undef = val 13 := ha 55 (by decide)
                clear ha hp
                refine Reg.Op1.plain rfl ?_
                obtain ⟨O0, oc0, hv, hs0, ho⟩ := h55
                rw [hv] at e55
                have ho' := ho.keeps (Reg.Wr.none r55 (by decide +kernel) (by decide +kernel) (by decide +kernel)) (fun _ _ h => h)
                have hq1 : Mem.Keeps (fun y => Mem.blk (p.X 7) = some y ∨ y = g) wx u := (Mem.Keeps.refl (fun y => Mem.blk (p.X 7) = some y ∨ y = g) wx).drew.trans (Reg.Wr.not1 hR (by decide +kernel)) (fun _ h _ => h)
                have hen := (HW.out.en 1 (by omega)).keeps hq1 (fun h => (HN1.out _ h).1 rfl) (fun y hy h => (HN1.out _ h).2 hy)
                have hgi := HW.out.ltg (i := 1) (by omega)
                go_wp2_with fail
                refine (take_any hen O0 oc0 l (fun W hk => ho'.rd.keepsAt hk (Nat.le_refl _) (fun y h1 h => by have := hs0.blk y h1; omega)) (by omega) HFI.out (by omega)).mono ?_
                rw [tEnd_eq, HRR.out]
                rintro x w' ⟨A2, O, c2, oc, rfl, hA2, hO2, hf2, hk2, hm2⟩
                go_wp2_with fail
                exact ⟨rfl, hK _ _ ⟨A2, O, c2, oc, rfl, hA2, hO2, hf2.mono hq1.size, hm2⟩ (Reg.Wr.does1 hk2)⟩
              · intro val ac u hR hp ha K hK      -- 15: t57 := Op.call { builtin append, args := #[t46, t56], argTypes := #[29, 29] }
                obtain ⟨w46, h46, r46⟩ := hp 4 (by decide)
                have e46 : (ac.tmps[46]?).getD undef = .slice (p.X 7) (s.st 7).length (p.xc 7) := (ha 46 (by decide)).trans h46
                clear h46
                obtain ⟨w56, h56, r56⟩ := hp 14 (by decide)
                have e56 : (ac.tmps[56]?).getD undef = val 14 := ha 56 (by decide)
                clear ha hp
                refine Reg.Op1.plain rfl ?_
                obtain ⟨_, O, _, oc, hv, _, hO, hf, _⟩ := h56
                rw [hv] at e56
                have hO' := hO.keeps (Reg.Wr.none r56 (by decide +kernel) (by decide +kernel) (by decide +kernel)) (fun _ _ h => h)
                have hq2 : Mem.Keeps (fun y => y = p.g 1 ∨ y = g) wx u := (Mem.Keeps.refl (fun y => y = p.g 1 ∨ y = g) wx).drew.trans (Reg.Wr.not2 hR (by decide +kernel)) (fun _ h _ => h)
                have hX' := (HW.out.st 7 (by omega) (by omega)).keeps hq2 (fun y hy => HN2.out y hy)
                have hbu := hq2.size
                refine Mem.wpList_app u rfl (.tmp 46) (.tmp 56) _ rfl strs_elem (p.X 7) (s.st 7).length (p.xc 7) _ (Reg.eval_of e46) u.heap.size O r.2.length oc (r.2.map strV) (Reg.eval_of e56) ?_ hX' hO'.rd (by simp) (by simp [Value.oneCell']) (by unfold maxLen; omega) (by omega)
                intro X' d' u' hown hg hat
                exact ⟨rfl, hK _ _ ⟨X', d', rfl, hown, hat.elim .inl (fun h => .inr (h ▸ Mem.From.some_ hbu))⟩ (Reg.Wr.does2 ((Mem.Keeps.refl _ u).grown hg (fun y hy _ => hy)))⟩
              · intro val ac u hR hp ha K hK      -- 16: t58 := Op.nilCheck t42
                obtain ⟨w42, h42, r42⟩ := hp 0 (by decide)
                have e42 : (ac.tmps[42]?).getD undef = .pointer (some ⟨g, 0, none⟩) := (ha 42 (by decide)).trans h42
                clear h42
                clear ha hp
                refine Reg.Op1.plain rfl ?_
                go_wp2
                exact ⟨rfl, hK _ _ rfl (Reg.Wr.same _)⟩
              · intro val ac u hR hp ha K hK      -- 17: t59 := Op.fieldAddr 31 t58 7
                obtain ⟨w58, h58, r58⟩ := hp 16 (by decide)
                have e58 : (ac.tmps[58]?).getD undef = .pointer (some ⟨g, 0, none⟩) := (ha 58 (by decide)).trans h58
                clear h58
                clear ha hp
                refine Reg.Op1.plain rfl ?_
                go_wp2
                exact ⟨rfl, hK _ _ rfl (Reg.Wr.same _)⟩
              · intro val ac u hR hp ha K hK      -- 18: Op.store 29 t59 t57
                obtain ⟨w59, h59, r59⟩ := hp 17 (by decide)
                have e59 : (ac.tmps[59]?).getD undef = .pointer (some ⟨g, 7, none⟩) := (ha 59 (by decide)).trans h59
                clear h59
                obtain ⟨w57, h57, r57⟩ := hp 15 (by decide)
                have e57 : (ac.tmps[57]?).getD undef = val 15 := ha 57 (by decide)
                clear ha hp
                refine Reg.Op1.plain rfl ?_
                obtain ⟨X2, d2, hv, hO, hm⟩ := h57
                rw [hv] at e57
                have hO' := hO.keeps (Reg.Wr.none r57 (by decide +kernel) (by decide +kernel) (by decide +kernel)) (fun _ _ h => h)
                have hq3 : Mem.Keeps (fun y => y = p.g 1 ∨ Mem.blk (p.X 7) = some y) wx u := (Mem.Keeps.refl (fun y => y = p.g 1 ∨ Mem.blk (p.X 7) = some y) wx).drew.trans (Reg.Wr.not3 hR (by decide +kernel)) (fun _ h _ => h)
                have hbx := Mem.Own.keeps HW.out.box hq3 (fun y hy h => by cases hy; exact hgn4 h)
                have xf := Mem.Own.free hbx
                have x0 := (hq3.cell (p := ⟨g, 7, none⟩) hgW hgn4).trans e1
                have hln : (s.st 7 ++ r.2).length = (s.st 7).length + r.2.length := List.length_append
                go_wp2
                refine ⟨rfl, hK undef _ ⟨X2, d2, ?_, hm, ?_⟩ (Reg.Wr.does3 ((Mem.Keeps.refl (fun q => q = g) u).setCell (p := ⟨g, 7, none⟩) (fun _ => rfl) _))⟩
                · rw [hln, List.map_append]
                  refine hO'.keeps ((Mem.Keeps.refl (fun q => q = g) u).setCell (p := ⟨g, 7, none⟩) (fun _ => rfl) _) (fun y h1 h => ?_)
                  rcases hm with h2 | h2
                  · exact hgn4 (.inr (by rw [← h2, h1, h]))
                  · have := h2.blk y h1; omega
                · rw [hln]; have := Mem.Own.set hbx 7 (.slice X2 ((s.st 7).length + r.2.length) d2); exact this
            · intro val u hR H
              obtain ⟨wA, ⟨A2, _, c2, _, _, hA2, _, _, hmA⟩, rA⟩ := H 14 (by decide)
              obtain ⟨wB, ⟨X2, d2, hO3, hmX, hb3⟩, rB⟩ := H 18 (by decide)
              have hA3 := hA2.keeps (Reg.Wr.not1 rA (by decide +kernel)) (fun h => (HN1.out _ h).1 rfl) (fun y hy h => (HN1.out _ h).2 (by
                rcases hmA with e | e
                · exact e ▸ hy
                · rw [e] at hy; cases hy))
              have hO4 := hO3.keeps (Reg.Wr.none rB (by decide +kernel) (by decide +kernel) (by decide +kernel)) (fun _ _ h => h)
              have hb4 := hb3.keeps (Reg.Wr.none rB (by decide +kernel) (by decide +kernel) (by decide +kernel)) (fun _ _ h => h)
              have hk : Mem.Keeps (fun y => lab y = 1 ∨ lab y = 7 ∨ lab y = 10) wx u := ((Mem.Keeps.refl (fun y => y = p.g 1 ∨ Mem.blk (p.X 7) = some y ∨ y = g) wx).drew.trans (Reg.Wr.all hR) (fun _ h _ => h)).mono (fun y h _ => by
                rcases h with h | h | h
                · exact .inl (by rw [h]; exact HGI.out)
                · exact .inr (.inl (HX.out _ h))
                · exact .inr (.inr (by rw [h]; exact HGG.out)))
              have hwl := HW.out.took (i := 1) (j := 7) (by omega) (by omega) (by omega) hA3 hO4 hb4 hk hmA (hmX.elim (fun h => .inl (by rw [h])) (fun h => .inr (.inr h)))
              have hgs : r1 s = { s with e := upd s.e 1 r.1, st := upd s.st 7 (s.st 7 ++ r.2) } := by unfold r1 takeW; rw [HLL.out, HRR.out]
              rw [← hgs] at hwl
              have HM : Hid (EMid w g (r1 s) u) := ⟨_, _, hwl⟩
              simp only [List.map_cons, List.map_nil, Reg.lay, Act.put, List.setIfInBounds_toArray, List.set_cons_succ, List.set_cons_zero, Nat.reduceAdd]
              clear hR H hk hb4 hO4 hb3 hO3 rA rB hwl hgs
              go_wp2
              go_meet
              case rel => exact HM.out
          case rest =>
            obtain ⟨p, lab, HW1⟩ := hcut
            have HW : Hid (WL w wc g p (r1 s) lab) := HW1
            have HG2 := Lib.hid HG.out.r1
            have HBd2 := Lib.hid (HBd.out.rr.1)
            obtain ⟨s2, hs2⟩ : ∃ s2, r1 s = s2 := ⟨_, rfl⟩
            have HS2 : Hid (rr s = r2 s2) := by show r2 (r1 s) = _; rw [hs2]
            rw [hs2] at HW HG2 HBd2
            obtain ⟨wx, hwx⟩ : ∃ wx, wc = wx := ⟨_, rfl⟩
            rw [hwx] at HW ⊢
            have HBd := HBd2
            clear hs2 hwx HW1 HBd2
            have HE := Lib.hid (HW.out.en 1 (by omega))
            have e0 := HW.out.cell (i := 0) rfl
            have e9 := HW.out.cell (i := 1) rfl
            have e1 := HW.out.cell (i := 6) rfl
            have hgW := HW.out.lt
            have HFJ := Lib.hid (HBd.out.fe 1 (by omega))
            have HFI := Lib.hid (HBd.out.fe 0 (by omega))
            have hst1 := HBd.out.fs 6 (by omega) (by omega)
            obtain ⟨l, hl⟩ : ∃ l, out (s2.e 1) = l := ⟨_, rfl⟩
            have hll : l.length ≤ 8 := by rw [← hl]; exact out_len _ HFJ.out.o8
            have HLL := Lib.hid hl
            obtain ⟨r, hr⟩ : ∃ r, take (s2.e 0) l = r := ⟨_, rfl⟩
            have hrl : r.2.length ≤ 8 := by have := Link.take_len (s2.e 0) l; rw [hr] at this; omega
            have HRR := Lib.hid hr
            have HX : Hid (∀ y, Mem.blk (p.X 6) = some y → lab y = 6) := fun y hy => HW.out.lx 6 (by omega) (by omega) y hy
            have HO6 : Hid (∀ y, Mem.blk (p.O 0) = some y → lab y = 8 + 0) := fun y hy => HW.out.lo 0 (by omega) y hy
            have HGI := Lib.hid (HW.out.le 0 (by omega))
            have HGG := Lib.hid HW.out.lg
            have hgn3 : Hid (¬ (g = p.g 0 ∨ Mem.blk (p.X 6) = some g)) := by
              rintro (h | h)
              · have := HGI.out; rw [← h, HGG.out] at this; omega
              · have := HX.out _ h; rw [HGG.out] at this; omega
            have hgn4 := hgn3.out
            have HN1 : Hid (∀ y, (Mem.blk (p.X 6) = some y ∨ y = g) → y ≠ p.g 0 ∧ Mem.blk (p.O 0) ≠ some y) := fun y h => by
              have hl : lab y = 6 ∨ lab y = 10 := h.elim (fun h => .inl (HX.out _ h)) (fun h => .inr (by rw [h]; exact HGG.out))
              refine ⟨fun h => ?_, fun h => ?_⟩
              · have := HGI.out; rw [← h] at this; omega
              · have := HO6.out _ h; omega
            have HN2 : Hid (∀ y, Mem.blk (p.X 6) = some y → ¬ (y = p.g 0 ∨ y = g)) := fun y hy h => by
              have := HX.out _ hy
              rcases h with h | h
              · rw [h, HGI.out] at this; omega
              · rw [h, HGG.out] at this; omega
            clear hl hr
            go_upto_region 15 with fail
            refine Reg.wp_region_w (by kernel_rfl) 114 19 rfl rfl (by kernel_rfl) (14) (fun y => y = p.g 0) (15) (fun y => Mem.blk (p.X 6) = some y) (18) (fun y => y = g)
              (fun i v u => match i with
                | 0 => v = .pointer (some ⟨g, 0, none⟩)
                | 1 => v = .pointer (some ⟨g, 0, none⟩)
                | 2 => v = .pointer (some ⟨g, 0, none⟩)
                | 3 => v = .pointer (some ⟨g, 6, none⟩)
                | 4 => v = .slice (p.X 6) (s2.st 6).length (p.xc 6)
                | 5 => v = .pointer (some ⟨g, 0, none⟩)
                | 6 => v = .pointer (some ⟨g, 0, none⟩)
                | 7 => v = .pointer (some ⟨g, 0, none⟩)
                | 8 => v = .pointer (some ⟨p.g 0, 0, none⟩)
                | 9 => v = .pointer (some ⟨g, 0, none⟩)
                | 10 => v = .pointer (some ⟨g, 0, none⟩)
                | 11 => v = .pointer (some ⟨g, 1, none⟩)
                | 12 => v = .pointer (some ⟨p.g 1, 0, none⟩)
                | 13 => ∃ O oc, v = .slice O l.length oc ∧ Mem.From wx.heap.size O ∧ Mem.Own u 52 5 O l.length oc (l.flatMap pkCells)
                | 14 => ∃ A2 O c2 oc, v = .slice O r.2.length oc ∧ At u (p.g 0) A2 c2 r.1 ∧ Mem.Own u 9 1 O r.2.length oc (r.2.map strV) ∧ Mem.From wx.heap.size O ∧ (Mem.blk A2 = Mem.blk (p.O 0) ∨ Mem.blk A2 = none)
                | 15 => ∃ X2 d2, v = .slice X2 ((s2.st 6).length + r.2.length) d2 ∧ Mem.Own u 9 1 X2 ((s2.st 6).length + r.2.length) d2 ((s2.st 6).map strV ++ r.2.map strV) ∧ (X2 = p.X 6 ∨ Mem.From wx.heap.size X2)
                | 16 => v = .pointer (some ⟨g, 0, none⟩)
                | 17 => v = .pointer (some ⟨g, 6, none⟩)
                | 18 => ∃ X2 d2, Mem.Own u 9 1 X2 (s2.st 6 ++ r.2).length d2 ((s2.st 6 ++ r.2).map strV) ∧ (X2 = p.X 6 ∨ Mem.From wx.heap.size X2) ∧ Mem.Own u 31 8 (some ⟨g, 0, none⟩) 1 1 ((wCells p s2).set 6 (.slice X2 (s2.st 6 ++ r.2).length d2))
                | _ => True) ?_ ?_
            · refine Reg.Steps.cons ?_ (Reg.Steps.cons ?_ (Reg.Steps.cons ?_ (Reg.Steps.cons ?_ (Reg.Steps.cons ?_ (Reg.Steps.cons ?_ (Reg.Steps.cons ?_ (Reg.Steps.cons ?_ (Reg.Steps.cons ?_ (Reg.Steps.cons ?_ (Reg.Steps.cons ?_ (Reg.Steps.cons ?_ (Reg.Steps.cons ?_ (Reg.Steps.cons ?_ (Reg.Steps.cons ?_ (Reg.Steps.cons ?_ (Reg.Steps.cons ?_ (Reg.Steps.cons ?_ (Reg.Steps.cons ?_ (Reg.Steps.nil _)))))))))))))))))))
              · intro val ac u hR hp ha K hK      -- 0: t60 := Op.move t3
                have e3 : (ac.tmps[3]?).getD undef = .pointer (some ⟨g, 0, none⟩) := ha 3 (by decide)
                clear ha hp
                refine Reg.Op1.plain rfl ?_
                go_wp2
                exact ⟨rfl, hK _ _ rfl (Reg.Wr.same _)⟩
              · intro val ac u hR hp ha K hK      -- 1: t61 := Op.move t3
                have e3 : (ac.tmps[3]?).getD undef = .pointer (some ⟨g, 0, none⟩) := ha 3 (by decide)
                clear ha hp
                refine Reg.Op1.plain rfl ?_
                go_wp2
                exact ⟨rfl, hK _ _ rfl (Reg.Wr.same _)⟩
              · intro val ac u hR hp ha K hK      -- 2: t62 := Op.nilCheck t61
                obtain ⟨w61, h61, r61⟩ := hp 1 (by decide)
                have e61 : (ac.tmps[61]?).getD undef = .pointer (some ⟨g, 0, none⟩) := (ha 61 (by decide)).trans h61
                clear h61
                clear ha hp
                refine Reg.Op1.plain rfl ?_
                go_wp2
                exact ⟨rfl, hK _ _ rfl (Reg.Wr.same _)⟩
              · intro val ac u hR hp ha K hK      -- 3: t63 := Op.fieldAddr 31 t62 6
                obtain ⟨w62, h62, r62⟩ := hp 2 (by decide)
                have e62 : (ac.tmps[62]?).getD undef = .pointer (some ⟨g, 0, none⟩) := (ha 62 (by decide)).trans h62
                clear h62
                clear ha hp
                refine Reg.Op1.plain rfl ?_
                go_wp2
                exact ⟨rfl, hK _ _ rfl (Reg.Wr.same _)⟩
              · intro val ac u hR hp ha K hK      -- 4: t64 := Op.load 29 t63
                obtain ⟨w63, h63, r63⟩ := hp 3 (by decide)
                have e63 : (ac.tmps[63]?).getD undef = .pointer (some ⟨g, 6, none⟩) := (ha 63 (by decide)).trans h63
                clear h63
                clear ha hp
                refine Reg.Op1.plain rfl ?_
                have x0 := (((Reg.Wr.not3 hR (by decide +kernel))).cell (p := ⟨g, 6, none⟩) (hgW) (hgn4)).trans (e1)
                go_wp2
                exact ⟨rfl, hK _ _ rfl (Reg.Wr.same _)⟩
              · intro val ac u hR hp ha K hK      -- 5: t65 := Op.move t3
                have e3 : (ac.tmps[3]?).getD undef = .pointer (some ⟨g, 0, none⟩) := ha 3 (by decide)
                clear ha hp
                refine Reg.Op1.plain rfl ?_
                go_wp2
                exact ⟨rfl, hK _ _ rfl (Reg.Wr.same _)⟩
              · intro val ac u hR hp ha K hK      -- 6: t66 := Op.nilCheck t65
                obtain ⟨w65, h65, r65⟩ := hp 5 (by decide)
                have e65 : (ac.tmps[65]?).getD undef = .pointer (some ⟨g, 0, none⟩) := (ha 65 (by decide)).trans h65
                clear h65
                clear ha hp
                refine Reg.Op1.plain rfl ?_
                go_wp2
                exact ⟨rfl, hK _ _ rfl (Reg.Wr.same _)⟩
              · intro val ac u hR hp ha K hK      -- 7: t67 := Op.fieldAddr 31 t66 0
                obtain ⟨w66, h66, r66⟩ := hp 6 (by decide)
                have e66 : (ac.tmps[66]?).getD undef = .pointer (some ⟨g, 0, none⟩) := (ha 66 (by decide)).trans h66
                clear h66
                clear ha hp
                refine Reg.Op1.plain rfl ?_
                go_wp2
                exact ⟨rfl, hK _ _ rfl (Reg.Wr.same _)⟩
              · intro val ac u hR hp ha K hK      -- 8: t68 := Op.load 26 t67
                obtain ⟨w67, h67, r67⟩ := hp 7 (by decide)
                have e67 : (ac.tmps[67]?).getD undef = .pointer (some ⟨g, 0, none⟩) := (ha 67 (by decide)).trans h67
                clear h67
                clear ha hp
                refine Reg.Op1.plain rfl ?_
                have x0 := (((Reg.Wr.not3 hR (by decide +kernel))).cell (p := ⟨g, 0, none⟩) (hgW) (hgn4)).trans (e0)
                go_wp2
                exact ⟨rfl, hK _ _ rfl (Reg.Wr.same _)⟩
              · intro val ac u hR hp ha K hK      -- 9: t69 := Op.move t3
                have e3 : (ac.tmps[3]?).getD undef = .pointer (some ⟨g, 0, none⟩) := ha 3 (by decide)
                clear ha hp
                refine Reg.Op1.plain rfl ?_
                go_wp2
                exact ⟨rfl, hK _ _ rfl (Reg.Wr.same _)⟩
              · intro val ac u hR hp ha K hK      -- 10: t70 := Op.nilCheck t69
                obtain ⟨w69, h69, r69⟩ := hp 9 (by decide)
                have e69 : (ac.tmps[69]?).getD undef = .pointer (some ⟨g, 0, none⟩) := (ha 69 (by decide)).trans h69
                clear h69
                clear ha hp
                refine Reg.Op1.plain rfl ?_
                go_wp2
                exact ⟨rfl, hK _ _ rfl (Reg.Wr.same _)⟩
              · intro val ac u hR hp ha K hK      -- 11: t71 := Op.fieldAddr 31 t70 1
                obtain ⟨w70, h70, r70⟩ := hp 10 (by decide)
                have e70 : (ac.tmps[70]?).getD undef = .pointer (some ⟨g, 0, none⟩) := (ha 70 (by decide)).trans h70
                clear h70
                clear ha hp
                refine Reg.Op1.plain rfl ?_
                go_wp2
                exact ⟨rfl, hK _ _ rfl (Reg.Wr.same _)⟩
              · intro val ac u hR hp ha K hK      -- 12: t72 := Op.load 26 t71
                obtain ⟨w71, h71, r71⟩ := hp 11 (by decide)
                have e71 : (ac.tmps[71]?).getD undef = .pointer (some ⟨g, 1, none⟩) := (ha 71 (by decide)).trans h71
                clear h71
                clear ha hp
                refine Reg.Op1.plain rfl ?_
                have x0 := (((Reg.Wr.not3 hR (by decide +kernel))).cell (p := ⟨g, 1, none⟩) (hgW) (hgn4)).trans (e9)
                go_wp2
                exact ⟨rfl, hK _ _ rfl (Reg.Wr.same _)⟩
              · intro val ac u hR hp ha K hK      -- 13: t73 := Op.call { value (Operand.func 13), args := #[t72], argTypes := #[26] }
                obtain ⟨w72, h72, r72⟩ := hp 12 (by decide)
                have e72 : (ac.tmps[72]?).getD undef = .pointer (some ⟨p.g 1, 0, none⟩) := (ha 72 (by decide)).trans h72
                clear h72
                clear ha hp
                refine Reg.Op1.plain rfl ?_
                have hq : Mem.Keeps (fun _ => False) wx u := (Mem.Keeps.refl (fun _ => False) wx).drew.trans (Reg.Wr.none hR (by decide +kernel) (by decide +kernel) (by decide +kernel)) (fun _ h _ => h)
                have hen := HE.out.keeps hq (fun h => h) (fun _ _ h => h)
                go_wp2_with fail
                refine (out_any hen HFJ.out.s0 (by have := HFJ.out.sN; omega) (by have := HFJ.out.o8; omega)).mono ?_
                rintro x w' ⟨O, oc, rfl, hO, hb, hf⟩
                rw [HLL.out] at hO ⊢
                go_wp2_with fail
                exact ⟨rfl, hK _ _ ⟨O, oc, rfl, hf.mono hq.size, hO⟩ (Reg.Wr.below hb)⟩
              · intro val ac u hR hp ha K hK      -- 14: t74 := Op.call { value (Operand.func 12), args := #[t68, t73], argTypes := #[26, 28] }
                obtain ⟨w68, h68, r68⟩ := hp 8 (by decide)
                have e68 : (ac.tmps[68]?).getD undef = .pointer (some ⟨p.g 0, 0, none⟩) := (ha 68 (by decide)).trans h68
                clear h68
                obtain ⟨w73, h73, r73⟩ := hp 13 (by decide)
                have e73 : (ac.tmps[73]?).getD undef = val 13 := ha 73 (by decide)
                clear ha hp
                refine Reg.Op1.plain rfl ?_
                obtain ⟨O0, oc0, hv, hs0, ho⟩ := h73
                rw [hv] at e73
                have ho' := ho.keeps (Reg.Wr.none r73 (by decide +kernel) (by decide +kernel) (by decide +kernel)) (fun _ _ h => h)
                have hq1 : Mem.Keeps (fun y => Mem.blk (p.X 6) = some y ∨ y = g) wx u := (Mem.Keeps.refl (fun y => Mem.blk (p.X 6) = some y ∨ y = g) wx).drew.trans (Reg.Wr.not1 hR (by decide +kernel)) (fun _ h _ => h)
                have hen := (HW.out.en 0 (by omega)).keeps hq1 (fun h => (HN1.out _ h).1 rfl) (fun y hy h => (HN1.out _ h).2 hy)
                have hgi := HW.out.ltg (i := 0) (by omega)
                go_wp2_with fail
                refine (take_any hen O0 oc0 l (fun W hk => ho'.rd.keepsAt hk (Nat.le_refl _) (fun y h1 h => by have := hs0.blk y h1; omega)) (by omega) HFI.out (by omega)).mono ?_
                rw [tEnd_eq, HRR.out]
                rintro x w' ⟨A2, O, c2, oc, rfl, hA2, hO2, hf2, hk2, hm2⟩
                go_wp2_with fail
                exact ⟨rfl, hK _ _ ⟨A2, O, c2, oc, rfl, hA2, hO2, hf2.mono hq1.size, hm2⟩ (Reg.Wr.does1 hk2)⟩
              · intro val ac u hR hp ha K hK      -- 15: t75 := Op.call { builtin append, args := #[t64, t74], argTypes := #[29, 29] }
                obtain ⟨w64, h64, r64⟩ := hp 4 (by decide)
                have e64 : (ac.tmps[64]?).getD undef = .slice (p.X 6) (s2.st 6).length (p.xc 6) := (ha 64 (by decide)).trans h64
                clear h64
                obtain ⟨w74, h74, r74⟩ := hp 14 (by decide)
                have e74 : (ac.tmps[74]?).getD undef = val 14 := ha 74 (by decide)
                clear ha hp
                refine Reg.Op1.plain rfl ?_
                obtain ⟨_, O, _, oc, hv, _, hO, hf, _⟩ := h74
                rw [hv] at e74
                have hO' := hO.keeps (Reg.Wr.none r74 (by decide +kernel) (by decide +kernel) (by decide +kernel)) (fun _ _ h => h)
                have hq2 : Mem.Keeps (fun y => y = p.g 0 ∨ y = g) wx u := (Mem.Keeps.refl (fun y => y = p.g 0 ∨ y = g) wx).drew.trans (Reg.Wr.not2 hR (by decide +kernel)) (fun _ h _ => h)
                have hX' := (HW.out.st 6 (by omega) (by omega)).keeps hq2 (fun y hy => HN2.out y hy)
                have hbu := hq2.size
                refine Mem.wpList_app u rfl (.tmp 64) (.tmp 74) _ rfl strs_elem (p.X 6) (s2.st 6).length (p.xc 6) _ (Reg.eval_of e64) u.heap.size O r.2.length oc (r.2.map strV) (Reg.eval_of e74) ?_ hX' hO'.rd (by simp) (by simp [Value.oneCell']) (by unfold maxLen; omega) (by omega)
                intro X' d' u' hown hg hat
                exact ⟨rfl, hK _ _ ⟨X', d', rfl, hown, hat.elim .inl (fun h => .inr (h ▸ Mem.From.some_ hbu))⟩ (Reg.Wr.does2 ((Mem.Keeps.refl _ u).grown hg (fun y hy _ => hy)))⟩
              · intro val ac u hR hp ha K hK      -- 16: t76 := Op.nilCheck t60
                obtain ⟨w60, h60, r60⟩ := hp 0 (by decide)
                have e60 : (ac.tmps[60]?).getD undef = .pointer (some ⟨g, 0, none⟩) := (ha 60 (by decide)).trans h60
                clear h60
                clear ha hp
                refine Reg.Op1.plain rfl ?_
                go_wp2
                exact ⟨rfl, hK _ _ rfl (Reg.Wr.same _)⟩
              · intro val ac u hR hp ha K hK      -- 17: t77 := Op.fieldAddr 31 t76 6
                obtain ⟨w76, h76, r76⟩ := hp 16 (by decide)
                have e76 : (ac.tmps[76]?).getD undef = .pointer (some ⟨g, 0, none⟩) := (ha 76 (by decide)).trans h76
                clear h76
                clear ha hp
                refine Reg.Op1.plain rfl ?_
                go_wp2
                exact ⟨rfl, hK _ _ rfl (Reg.Wr.same _)⟩
              · intro val ac u hR hp ha K hK      -- 18: Op.store 29 t77 t75
                obtain ⟨w77, h77, r77⟩ := hp 17 (by decide)
                have e77 : (ac.tmps[77]?).getD undef = .pointer (some ⟨g, 6, none⟩) := (ha 77 (by decide)).trans h77
                clear h77
                obtain ⟨w75, h75, r75⟩ := hp 15 (by decide)
                have e75 : (ac.tmps[75]?).getD undef = val 15 := ha 75 (by decide)
                clear ha hp
                refine Reg.Op1.plain rfl ?_
                obtain ⟨X2, d2, hv, hO, hm⟩ := h75
                rw [hv] at e75
                have hO' := hO.keeps (Reg.Wr.none r75 (by decide +kernel) (by decide +kernel) (by decide +kernel)) (fun _ _ h => h)
                have hq3 : Mem.Keeps (fun y => y = p.g 0 ∨ Mem.blk (p.X 6) = some y) wx u := (Mem.Keeps.refl (fun y => y = p.g 0 ∨ Mem.blk (p.X 6) = some y) wx).drew.trans (Reg.Wr.not3 hR (by decide +kernel)) (fun _ h _ => h)
                have hbx := Mem.Own.keeps HW.out.box hq3 (fun y hy h => by cases hy; exact hgn4 h)
                have xf := Mem.Own.free hbx
                have x0 := (hq3.cell (p := ⟨g, 6, none⟩) hgW hgn4).trans e1
                have hln : (s2.st 6 ++ r.2).length = (s2.st 6).length + r.2.length := List.length_append
                go_wp2
                refine ⟨rfl, hK undef _ ⟨X2, d2, ?_, hm, ?_⟩ (Reg.Wr.does3 ((Mem.Keeps.refl (fun q => q = g) u).setCell (p := ⟨g, 6, none⟩) (fun _ => rfl) _))⟩
                · rw [hln, List.map_append]
                  refine hO'.keeps ((Mem.Keeps.refl (fun q => q = g) u).setCell (p := ⟨g, 6, none⟩) (fun _ => rfl) _) (fun y h1 h => ?_)
                  rcases hm with h2 | h2
                  · exact hgn4 (.inr (by rw [← h2, h1, h]))
                  · have := h2.blk y h1; omega
                · rw [hln]; have := Mem.Own.set hbx 6 (.slice X2 ((s2.st 6).length + r.2.length) d2); exact this
            · intro val u hR H
              obtain ⟨wA, ⟨A2, _, c2, _, _, hA2, _, _, hmA⟩, rA⟩ := H 14 (by decide)
              obtain ⟨wB, ⟨X2, d2, hO3, hmX, hb3⟩, rB⟩ := H 18 (by decide)
              have hA3 := hA2.keeps (Reg.Wr.not1 rA (by decide +kernel)) (fun h => (HN1.out _ h).1 rfl) (fun y hy h => (HN1.out _ h).2 (by
                rcases hmA with e | e
                · exact e ▸ hy
                · rw [e] at hy; cases hy))
              have hO4 := hO3.keeps (Reg.Wr.none rB (by decide +kernel) (by decide +kernel) (by decide +kernel)) (fun _ _ h => h)
              have hb4 := hb3.keeps (Reg.Wr.none rB (by decide +kernel) (by decide +kernel) (by decide +kernel)) (fun _ _ h => h)
              have hk : Mem.Keeps (fun y => lab y = 0 ∨ lab y = 6 ∨ lab y = 10) wx u := ((Mem.Keeps.refl (fun y => y = p.g 0 ∨ Mem.blk (p.X 6) = some y ∨ y = g) wx).drew.trans (Reg.Wr.all hR) (fun _ h _ => h)).mono (fun y h _ => by
                rcases h with h | h | h
                · exact .inl (by rw [h]; exact HGI.out)
                · exact .inr (.inl (HX.out _ h))
                · exact .inr (.inr (by rw [h]; exact HGG.out)))
              have hwl := HW.out.took (i := 0) (j := 6) (by omega) (by omega) (by omega) hA3 hO4 hb4 hk hmA (hmX.elim (fun h => .inl (by rw [h])) (fun h => .inr (.inr h)))
              have hgs : r2 s2 = { s2 with e := upd s2.e 0 r.1, st := upd s2.st 6 (s2.st 6 ++ r.2) } := by unfold r2 takeW; rw [HLL.out, HRR.out]
              rw [← hgs] at hwl
              have HM : Hid (EMid w g (r2 s2) u) := ⟨_, _, hwl⟩
              simp only [List.map_cons, List.map_nil, Reg.lay, Act.put, List.setIfInBounds_toArray, List.set_cons_succ, List.set_cons_zero, Nat.reduceAdd]
              clear hR H hk hb4 hO4 hb3 hO3 rA rB hwl hgs
              go_wp2
              go_roundw
              case rel =>
                obtain ⟨p3, lab3, HW3⟩ := HM.out
                exact ⟨⟨m + 1, p3, lab3, by omega, by go_num, by show WL _ _ _ _ _ _; rw [HS.out, HS2.out]; exact HW3⟩⟩
              case measure => simp [intOf]; omega
        · obtain rfl : m = 3 := by omega
          obtain ⟨E1, E2, O0, O1⟩ := ends HG0.out
          obtain ⟨s, hs⟩ : ∃ s, rr (rr (rr s0)) = s := ⟨_, rfl⟩
          have HWs : Hid (WL w wx g p s lab) := by show WL _ _ _ _ _ _; rw [← hs]; exact HW.out
          rw [hs] at E1 E2 O0 O1
          clear hs HW HG HBd hm3
          have c0 := HWs.out.cell (i := 0) rfl
          have c1 := HWs.out.cell (i := 1) rfl
          have c4 := HWs.out.cell (i := 4) rfl
          have c5 := HWs.out.cell (i := 5) rfl
          have c6 := HWs.out.cell (i := 6) rfl
          have c7 := HWs.out.cell (i := 7) rfl
          have o4 := HWs.out.st 4 (by omega) (by omega)
          have o5 := HWs.out.st 5 (by omega) (by omega)
          have o6 := HWs.out.st 6 (by omega) (by omega)
          have o7 := HWs.out.st 7 (by omega) (by omega)
          rw [E1] at c7 o7
          rw [E2] at c6 o6
          have HQ1 : Hid (∀ n, _) := fun n => words_quiet2 n (s.st 4) (p.X 7) (p.X 4) (p.xc 7) (p.xc 4) o7.rd o4.rd (Nat.le_trans o4.le o4.cap)
          have HQ2 : Hid (∀ n, _) := fun n => words_quiet2 n (s.st 5) (p.X 6) (p.X 5) (p.xc 6) (p.xc 5) o6.rd o5.rd (Nat.le_trans o5.le o5.cap)
          have HE0 := Lib.hid (HWs.out.en 0 (by omega))
          have HE1 := Lib.hid (HWs.out.en 1 (by omega))
          have z0 : (((s.e 0).opn.length : Int) == 0) = true := by rw [O0]; rfl
          have z1 : (((s.e 1).opn.length : Int) == 0) = true := by rw [O1]; rfl
          clear E1 E2 O0 O1 o4 o5 o6 o7
          go_wp2
          go_quiet ((first | (go_at_call 14; with_reducible exact HQ1.out _) | (go_at_call 14; with_reducible exact HQ2.out _) | (go_at_call 15; with_reducible exact quiet1_open HE0.out.box _) | (go_at_call 15; with_reducible exact quiet1_open HE1.out.box _)))
          go_wp2
          go_ret
          exact ⟨rfl, Mem.below_drewN HWs.out.bl _⟩
theorem opened {H : Type} (enc : TypeId × Value → H) (W : World) (base : Nat) (v0 : Value) {d0 : DataW H} {p0 : List MemPlace}
    (o0 : Value.okWide Try.prog W .any base 22 v0) (k0 : DataW.Trod enc Try.prog W 0 (fun _ => true) true 22 v0 d0 p0) (z0 : (d0.weights Try.prog 22).all (· ≤ reachBytes) = true) :
    Calls Try.prog 3 #[v0] W fun e w' => e = .returned (.bool true) ∧ Below W.heap.size W w' := by
  obtain ⟨A, c, acs, rfl, h1, h2, h3, h4⟩ := open_acts o0 k0 z0
  exact walk A c acs W h3 (by omega) h4
end linkEndsOpen
end Go.Proofs.Ytjkonfanmpcipaa
