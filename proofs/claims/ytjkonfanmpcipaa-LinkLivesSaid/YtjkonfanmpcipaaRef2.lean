/- The walk of the reference's Out. No conditions but that numbers fit. -/
import Derived.Test.YtjkonfanmpcipaaRef1
namespace Go.Proofs.Ytjkonfanmpcipaa
open Go.RowKit
set_option linter.unusedVariables false

namespace Link
def ROutRel (w : World) (e : E) (ack len : Nat) (vo vi : Value) (wr : World) : Prop :=
  ∃ (j n : Nat) (O : Option Addr) (oc : Nat), n + ack = j ∧ j ≤ len ∧ vo = .slice O n oc ∧ vi = .int .i64 j ∧ Hid (Mem.Own wr 52 5 O n oc ((pks e.life e.got ((ack : Int) + 1) (e.opn.take n)).flatMap pkCells)) ∧ Hid (Mem.From w.heap.size O) ∧ Hid (Below w.heap.size w wr)
end Link

set_option maxHeartbeats 4000000 in
theorem refOut_any {w : World} {g : Nat} {e : Link.E} {A : Option Addr} {c ack : Nat} {data : List ByteArray} (h : Link.R w g A c e data ack) (hs2 : e.sent ≤ 4611686018427387904) (ho : data.length ≤ 1000000) :
    Calls Try.prog 29 #[.pointer (some ⟨g, 0, none⟩)] w (Link.OutEnd w e) := by
  have HA := Lib.hid h
  have b0 := h.c0
  have b1 := h.c1
  have b2 := h.c2
  have b3 := h.c3
  have hgl := h.lt
  have hal := h.le
  have hol := h.ol
  have HSE := Lib.hid (show e.sent - e.opn.length + 1 = (ack : Int) + 1 by rw [h.sent, h.ol]; omega)
  clear h
  go_enter Try.func29, Try.ntmps29
  go_wp2
  go_loopw [3, 4] (Link.ROutRel w e ack data.length) (fun _ t _ => data.length - (intOf t).toNat)
  case atStart => exact ⟨ack, 0, none, 0, by omega, by omega, rfl, rfl, Mem.Own.nil _ _ _, Mem.From.none_ _, Below.refl _ _⟩
  case round =>
    obtain ⟨j, n, O, oc, hn, hj, rfl, rfl, HW, HF, HB⟩ := hrel
    have g0 := (HB.out.cell (p := ⟨g, 0, none⟩) hgl).trans b0
    have g1 := (HB.out.cell (p := ⟨g, 1, none⟩) hgl).trans b1
    have g3 := (HB.out.cell (p := ⟨g, 3, none⟩) hgl).trans b3
    by_cases hlt : j < data.length
    · obtain ⟨b, o, rfl, hb, hc⟩ := HA.out.row.rd.at (k := j) (by simpa using hlt)
      simp only [List.getElem_map] at hc
      have hgo : e.opn[n]? = data[j]? := by rw [HA.out.opn, List.getElem?_drop]; congr 1; omega
      have hts := Lib.hid (Mem.take_snoc (hgo.trans (List.getElem?_eq_getElem hlt)))
      obtain ⟨x, hx⟩ : ∃ x, data[j] = x := ⟨_, rfl⟩
      rw [hx] at hc hts
      have hq : (e.opn.take n).length = n := by rw [List.length_take]; omega
      have hjn : (ack : Int) + 1 + n = j + 1 := by omega
      have HJN := Lib.hid hjn
      have HQ := Lib.hid hq
      clear hx hgo hjn hq hol
      go_wp2
      refine Reg.wp_region_rel (by kernel_rfl) 55 22 rfl rfl (by kernel_rfl) (Reg.One 20 22 w.heap.size) (Reg.One.refl _ _ _) (Reg.One.trans _ _ _)
        (fun i v u => match i with
          | 0 => v = .slice O n oc
          | 1 => v = .pointer (some ⟨g, 0, none⟩)
          | 2 => v = .pointer (some ⟨g, 0, none⟩)
          | 3 => v = .pointer (some ⟨g, 0, none⟩)
          | 4 => v = .int .i64 e.life
          | 5 => v = .int .i64 j
          | 6 => v = .int .i64 ((j : Int) + 1)
          | 7 => v = .pointer (some ⟨g, 0, none⟩)
          | 8 => v = .pointer (some ⟨g, 0, none⟩)
          | 9 => v = .pointer (some ⟨g, 3, none⟩)
          | 10 => v = .int .i64 e.got
          | 11 => v = .pointer (some ⟨g, 0, none⟩)
          | 12 => v = .pointer (some ⟨g, 0, none⟩)
          | 13 => v = .pointer (some ⟨g, 1, none⟩)
          | 14 => v = .slice (some ⟨b, o, none⟩) data.length c
          | 15 => v = .int .i64 j
          | 16 => v = .pointer (some ⟨b, o + j, none⟩)
          | 17 => v = .string x
          | 18 => v = Link.P ⟨e.life, (j : Int) + 1, e.got, true, x⟩
          | 19 => ∃ s, v = .slice (some ⟨s, 0, none⟩) 1 1 ∧ Mem.Rd u (s + 1) (some ⟨s, 0, none⟩) (Link.pkCells ⟨e.life, (j : Int) + 1, e.got, true, x⟩) ∧ s + 1 ≤ u.heap.size
          | 20 => ∃ O' oc', v = .slice O' (n + 1) oc' ∧ Mem.Own u 52 5 O' (n + 1) oc' ((Link.pks e.life e.got ((ack : Int) + 1) (e.opn.take (n + 1))).flatMap Link.pkCells) ∧ Mem.From w.heap.size O'
          | 21 => ∃ O' oc', v = .slice O' (n + 1) oc' ∧ Mem.Own u 52 5 O' (n + 1) oc' ((Link.pks e.life e.got ((ack : Int) + 1) (e.opn.take (n + 1))).flatMap Link.pkCells) ∧ Mem.From w.heap.size O'
          | _ => True) ?_ ?_
      · refine Reg.Steps.cons ?_ (Reg.Steps.cons ?_ (Reg.Steps.cons ?_ (Reg.Steps.cons ?_ (Reg.Steps.cons ?_ (Reg.Steps.cons ?_ (Reg.Steps.cons ?_ (Reg.Steps.cons ?_ (Reg.Steps.cons ?_ (Reg.Steps.cons ?_ (Reg.Steps.cons ?_ (Reg.Steps.cons ?_ (Reg.Steps.cons ?_ (Reg.Steps.cons ?_ (Reg.Steps.cons ?_ (Reg.Steps.cons ?_ (Reg.Steps.cons ?_ (Reg.Steps.cons ?_ (Reg.Steps.cons ?_ (Reg.Steps.cons ?_ (Reg.Steps.cons ?_ (Reg.Steps.cons ?_ (Reg.Steps.nil _))))))))))))))))))))))
        · intro val ac u hR hp ha K hK      -- 0: t18 := Op.move t3
          have e3 : (ac.tmps[3]?).getD undef = .slice O n oc := ha 3 (by decide)
          clear ha hp
          refine Reg.Op1.plain rfl ?_
          go_wp2
          exact ⟨rfl, hK _ _ rfl (fun j k _ _ => Reg.One.refl _ _ _ _ _ _)⟩
        · intro val ac u hR hp ha K hK      -- 1: t19 := Op.move t0
          have e0 : (ac.tmps[0]?).getD undef = .pointer (some ⟨g, 0, none⟩) := ha 0 (by decide)
          clear ha hp
          refine Reg.Op1.plain rfl ?_
          go_wp2
          exact ⟨rfl, hK _ _ rfl (fun j k _ _ => Reg.One.refl _ _ _ _ _ _)⟩
        · intro val ac u hR hp ha K hK      -- 2: t20 := Op.nilCheck t19
          obtain ⟨w19, h19, r19⟩ := hp 1 (by decide)
          have e19 : (ac.tmps[19]?).getD undef = .pointer (some ⟨g, 0, none⟩) := (ha 19 (by decide)).trans h19
          clear h19
          clear ha hp
          refine Reg.Op1.plain rfl ?_
          go_wp2
          exact ⟨rfl, hK _ _ rfl (fun j k _ _ => Reg.One.refl _ _ _ _ _ _)⟩
        · intro val ac u hR hp ha K hK      -- 3: t21 := Op.fieldAddr 45 t20 0
          obtain ⟨w20, h20, r20⟩ := hp 2 (by decide)
          have e20 : (ac.tmps[20]?).getD undef = .pointer (some ⟨g, 0, none⟩) := (ha 20 (by decide)).trans h20
          clear h20
          clear ha hp
          refine Reg.Op1.plain rfl ?_
          go_wp2
          exact ⟨rfl, hK _ _ rfl (fun j k _ _ => Reg.One.refl _ _ _ _ _ _)⟩
        · intro val ac u hR hp ha K hK      -- 4: t22 := Op.load 3 t21
          obtain ⟨w21, h21, r21⟩ := hp 3 (by decide)
          have e21 : (ac.tmps[21]?).getD undef = .pointer (some ⟨g, 0, none⟩) := (ha 21 (by decide)).trans h21
          clear h21
          clear ha hp
          refine Reg.Op1.plain rfl ?_
          have x0 := ((HB.out.drew.trans (hR.weak HB.out.size)).cell (p := ⟨g, 0, none⟩) (hgl)).trans (b0)
          go_wp2
          exact ⟨rfl, hK _ _ rfl (fun j k _ _ => Reg.One.refl _ _ _ _ _ _)⟩
        · intro val ac u hR hp ha K hK      -- 5: t23 := Op.move t4
          have e4 : (ac.tmps[4]?).getD undef = .int .i64 j := ha 4 (by decide)
          clear ha hp
          refine Reg.Op1.plain rfl ?_
          go_wp2
          exact ⟨rfl, hK _ _ rfl (fun j k _ _ => Reg.One.refl _ _ _ _ _ _)⟩
        · intro val ac u hR hp ha K hK      -- 6: t24 := Op.binOp BinOp.add 3 t23 (const (1:i64)) 3
          obtain ⟨w23, h23, r23⟩ := hp 5 (by decide)
          have e23 : (ac.tmps[23]?).getD undef = .int .i64 j := (ha 23 (by decide)).trans h23
          clear h23
          clear ha hp
          refine Reg.Op1.plain rfl ?_
          go_wp2
          exact ⟨rfl, hK _ _ rfl (fun j k _ _ => Reg.One.refl _ _ _ _ _ _)⟩
        · intro val ac u hR hp ha K hK      -- 7: t25 := Op.move t0
          have e0 : (ac.tmps[0]?).getD undef = .pointer (some ⟨g, 0, none⟩) := ha 0 (by decide)
          clear ha hp
          refine Reg.Op1.plain rfl ?_
          go_wp2
          exact ⟨rfl, hK _ _ rfl (fun j k _ _ => Reg.One.refl _ _ _ _ _ _)⟩
        · intro val ac u hR hp ha K hK      -- 8: t26 := Op.nilCheck t25
          obtain ⟨w25, h25, r25⟩ := hp 7 (by decide)
          have e25 : (ac.tmps[25]?).getD undef = .pointer (some ⟨g, 0, none⟩) := (ha 25 (by decide)).trans h25
          clear h25
          clear ha hp
          refine Reg.Op1.plain rfl ?_
          go_wp2
          exact ⟨rfl, hK _ _ rfl (fun j k _ _ => Reg.One.refl _ _ _ _ _ _)⟩
        · intro val ac u hR hp ha K hK      -- 9: t27 := Op.fieldAddr 45 t26 3
          obtain ⟨w26, h26, r26⟩ := hp 8 (by decide)
          have e26 : (ac.tmps[26]?).getD undef = .pointer (some ⟨g, 0, none⟩) := (ha 26 (by decide)).trans h26
          clear h26
          clear ha hp
          refine Reg.Op1.plain rfl ?_
          go_wp2
          exact ⟨rfl, hK _ _ rfl (fun j k _ _ => Reg.One.refl _ _ _ _ _ _)⟩
        · intro val ac u hR hp ha K hK      -- 10: t28 := Op.load 3 t27
          obtain ⟨w27, h27, r27⟩ := hp 9 (by decide)
          have e27 : (ac.tmps[27]?).getD undef = .pointer (some ⟨g, 3, none⟩) := (ha 27 (by decide)).trans h27
          clear h27
          clear ha hp
          refine Reg.Op1.plain rfl ?_
          have x0 := ((HB.out.drew.trans (hR.weak HB.out.size)).cell (p := ⟨g, 3, none⟩) (hgl)).trans (b3)
          go_wp2
          exact ⟨rfl, hK _ _ rfl (fun j k _ _ => Reg.One.refl _ _ _ _ _ _)⟩
        · intro val ac u hR hp ha K hK      -- 11: t29 := Op.move t0
          have e0 : (ac.tmps[0]?).getD undef = .pointer (some ⟨g, 0, none⟩) := ha 0 (by decide)
          clear ha hp
          refine Reg.Op1.plain rfl ?_
          go_wp2
          exact ⟨rfl, hK _ _ rfl (fun j k _ _ => Reg.One.refl _ _ _ _ _ _)⟩
        · intro val ac u hR hp ha K hK      -- 12: t30 := Op.nilCheck t29
          obtain ⟨w29, h29, r29⟩ := hp 11 (by decide)
          have e29 : (ac.tmps[29]?).getD undef = .pointer (some ⟨g, 0, none⟩) := (ha 29 (by decide)).trans h29
          clear h29
          clear ha hp
          refine Reg.Op1.plain rfl ?_
          go_wp2
          exact ⟨rfl, hK _ _ rfl (fun j k _ _ => Reg.One.refl _ _ _ _ _ _)⟩
        · intro val ac u hR hp ha K hK      -- 13: t31 := Op.fieldAddr 45 t30 1
          obtain ⟨w30, h30, r30⟩ := hp 12 (by decide)
          have e30 : (ac.tmps[30]?).getD undef = .pointer (some ⟨g, 0, none⟩) := (ha 30 (by decide)).trans h30
          clear h30
          clear ha hp
          refine Reg.Op1.plain rfl ?_
          go_wp2
          exact ⟨rfl, hK _ _ rfl (fun j k _ _ => Reg.One.refl _ _ _ _ _ _)⟩
        · intro val ac u hR hp ha K hK      -- 14: t32 := Op.load 29 t31
          obtain ⟨w31, h31, r31⟩ := hp 13 (by decide)
          have e31 : (ac.tmps[31]?).getD undef = .pointer (some ⟨g, 1, none⟩) := (ha 31 (by decide)).trans h31
          clear h31
          clear ha hp
          refine Reg.Op1.plain rfl ?_
          have x0 := ((HB.out.drew.trans (hR.weak HB.out.size)).cell (p := ⟨g, 1, none⟩) (hgl)).trans (b1)
          go_wp2
          exact ⟨rfl, hK _ _ rfl (fun j k _ _ => Reg.One.refl _ _ _ _ _ _)⟩
        · intro val ac u hR hp ha K hK      -- 15: t33 := Op.move t4
          have e4 : (ac.tmps[4]?).getD undef = .int .i64 j := ha 4 (by decide)
          clear ha hp
          refine Reg.Op1.plain rfl ?_
          go_wp2
          exact ⟨rfl, hK _ _ rfl (fun j k _ _ => Reg.One.refl _ _ _ _ _ _)⟩
        · intro val ac u hR hp ha K hK      -- 16: t34 := Op.indexAddr 29 t32 t33
          obtain ⟨w32, h32, r32⟩ := hp 14 (by decide)
          have e32 : (ac.tmps[32]?).getD undef = .slice (some ⟨b, o, none⟩) data.length c := (ha 32 (by decide)).trans h32
          clear h32
          obtain ⟨w33, h33, r33⟩ := hp 15 (by decide)
          have e33 : (ac.tmps[33]?).getD undef = .int .i64 j := (ha 33 (by decide)).trans h33
          clear h33
          clear ha hp
          refine Reg.Op1.plain rfl ?_
          go_wp2
          exact ⟨rfl, hK _ _ rfl (fun j k _ _ => Reg.One.refl _ _ _ _ _ _)⟩
        · intro val ac u hR hp ha K hK      -- 17: t35 := Op.load 9 t34
          obtain ⟨w34, h34, r34⟩ := hp 16 (by decide)
          have e34 : (ac.tmps[34]?).getD undef = .pointer (some ⟨b, o + j, none⟩) := (ha 34 (by decide)).trans h34
          clear h34
          clear ha hp
          refine Reg.Op1.plain rfl ?_
          have x0 := ((HB.out.drew.trans (hR.weak HB.out.size)).cell (p := ⟨b, o + j, none⟩) (hb)).trans (hc)
          go_wp2
          exact ⟨rfl, hK _ _ rfl (fun j k _ _ => Reg.One.refl _ _ _ _ _ _)⟩
        · intro val ac u hR hp ha K hK      -- 18: t36 := Op.build 52 #[(0, t22), (1, t24), (2, t28), (3, const (Value.bool true)), (4, t35)]
          obtain ⟨w22, h22, r22⟩ := hp 4 (by decide)
          have e22 : (ac.tmps[22]?).getD undef = .int .i64 e.life := (ha 22 (by decide)).trans h22
          clear h22
          obtain ⟨w24, h24, r24⟩ := hp 6 (by decide)
          have e24 : (ac.tmps[24]?).getD undef = .int .i64 ((j : Int) + 1) := (ha 24 (by decide)).trans h24
          clear h24
          obtain ⟨w28, h28, r28⟩ := hp 10 (by decide)
          have e28 : (ac.tmps[28]?).getD undef = .int .i64 e.got := (ha 28 (by decide)).trans h28
          clear h28
          obtain ⟨w35, h35, r35⟩ := hp 17 (by decide)
          have e35 : (ac.tmps[35]?).getD undef = .string x := (ha 35 (by decide)).trans h35
          clear h35
          clear ha hp
          refine Reg.Op1.plain rfl ?_
          go_wp2
          exact ⟨rfl, hK _ _ rfl (fun j k _ _ => Reg.One.refl _ _ _ _ _ _)⟩
        · intro val ac u hR hp ha K hK      -- 19: t37 := Op.buildSlice 28 1 #[(0, t36)]
          obtain ⟨w36, h36, r36⟩ := hp 18 (by decide)
          have e36 : (ac.tmps[36]?).getD undef = Link.P ⟨e.life, (j : Int) + 1, e.got, true, x⟩ := (ha 36 (by decide)).trans h36
          clear h36
          clear ha hp
          refine Reg.Op1.plain rfl ?_
          have hbu : w.heap.size ≤ u.heap.size := Nat.le_trans HB.out.size (hR.weak HB.out.size).size
          go_wp2
          exact ⟨rfl, hK _ _ ⟨u.heap.size, rfl, Mem.Rd.alloc_new u _ _ _ rfl, by simp⟩ (fun j k _ _ => Reg.One.adds (Reg.below_new _ _) hbu)⟩
        · intro val ac u hR hp ha K hK      -- 20: t38 := Op.call { builtin append, args := #[t18, t37], argTypes := #[28, 28] }
          obtain ⟨w18, h18, r18⟩ := hp 0 (by decide)
          have e18 : (ac.tmps[18]?).getD undef = .slice O n oc := (ha 18 (by decide)).trans h18
          clear h18
          obtain ⟨w37, h37, r37⟩ := hp 19 (by decide)
          have e37 : (ac.tmps[37]?).getD undef = val 19 := ha 37 (by decide)
          clear ha hp
          refine Reg.Op1.plain rfl ?_
          obtain ⟨s, hv, hrd, hs⟩ := h37
          rw [hv] at e37
          have hbu := hR.toM
          have hown := HW.out.drew.below hbu (fun _ => HW.out.lt)
          have hBB : Below w.heap.size w u := HB.out.drew.trans (hR.weak HB.out.size)
          refine Mem.wpList_app u rfl (.tmp 18) (.tmp 37) _ rfl packets_elem O n oc _ (Reg.eval_of e18) (s + 1) (some ⟨s, 0, none⟩) 1 1 (Link.pkCells ⟨e.life, (j : Int) + 1, e.got, true, x⟩) (Reg.eval_of e37) ?_ hown (hrd.below (r37.toM.mono hs)) rfl (by simp [Value.oneCell', Link.pkCells]) (by unfold maxLen; omega) (by omega)
          intro X' d' u' hown' hg hat
          refine ⟨rfl, hK _ _ ⟨X', d', rfl, ?_, ?_⟩ (Reg.One.writer ((Below.refl _ _).grown hg hBB.size HF.out.blk) (by decide) (by decide +kernel))⟩
          · rw [hts.out, Link.pks_snoc, List.flatMap_append, HQ.out, HJN.out]; simpa using hown'
          · rcases hat with rfl | rfl
            · exact HF.out
            · exact Mem.From.some_ hBB.size
        · intro val ac u hR hp ha K hK      -- 21: t3 := Op.assign t38
          obtain ⟨w38, h38, r38⟩ := hp 20 (by decide)
          have e38 : (ac.tmps[38]?).getD undef = val 20 := ha 38 (by decide)
          clear ha hp
          refine Reg.Op1.plain rfl ?_
          obtain ⟨X', d', hv, hown, hf⟩ := h38
          rw [hv] at e38
          go_wp2
          exact ⟨rfl, hK _ _ ⟨X', d', rfl, hown.below (r38.fromM (by decide) (by decide)) (fun _ => hown.lt), hf⟩ (fun j k _ _ => Reg.One.refl _ _ _ _ _ _)⟩
      · intro val u hR H
        obtain ⟨w26, ⟨X', d', hv, hown, hf⟩, hr⟩ := H 21 (by decide)
        have hown := Lib.hid (hown.below (hr.fromM (by decide) (by decide)) (fun _ => hown.lt))
        have hBB := Lib.hid (HB.out.drew.trans (hR.weak HB.out.size))
        simp only [List.map_cons, List.map_nil, Reg.lay, Act.put, List.setIfInBounds_toArray, List.set_cons_succ, List.set_cons_zero, Nat.reduceAdd, hv]
        clear hv hr H hR
        go_wp2
        go_roundw
        case rel => exact ⟨j + 1, n + 1, X', d', by omega, by omega, rfl, by go_num, hown, hf, hBB⟩
        case measure => simp [intOf]; omega
    · obtain rfl : j = data.length := by omega
      have hne : n = e.opn.length := by omega
      rcases Nat.eq_zero_or_pos n with h0 | h0
      · have HO := Lib.hid (show Link.out e = [⟨e.life, 0, e.got, false, ByteArray.empty⟩] from if_pos (by omega))
        have HN := Lib.hid h0
        subst h0
        clear hne hn hol
        go_wp2
        refine Reg.wp_region_rel (by kernel_rfl) 55 13 rfl rfl (by kernel_rfl) (Reg.One 11 13 w.heap.size) (Reg.One.refl _ _ _) (Reg.One.trans _ _ _)
          (fun i v u => match i with
            | 0 => v = .slice O 0 oc
            | 1 => v = .pointer (some ⟨g, 0, none⟩)
            | 2 => v = .pointer (some ⟨g, 0, none⟩)
            | 3 => v = .pointer (some ⟨g, 0, none⟩)
            | 4 => v = .int .i64 e.life
            | 5 => v = .pointer (some ⟨g, 0, none⟩)
            | 6 => v = .pointer (some ⟨g, 0, none⟩)
            | 7 => v = .pointer (some ⟨g, 3, none⟩)
            | 8 => v = .int .i64 e.got
            | 9 => v = Link.P ⟨e.life, 0, e.got, false, ByteArray.empty⟩
            | 10 => ∃ s, v = .slice (some ⟨s, 0, none⟩) 1 1 ∧ Mem.Rd u (s + 1) (some ⟨s, 0, none⟩) (Link.pkCells ⟨e.life, 0, e.got, false, ByteArray.empty⟩) ∧ s + 1 ≤ u.heap.size
            | 11 => ∃ O' oc', v = .slice O' 1 oc' ∧ Mem.Own u 52 5 O' 1 oc' (Link.pkCells ⟨e.life, 0, e.got, false, ByteArray.empty⟩) ∧ Mem.From w.heap.size O'
            | 12 => ∃ O' oc', v = .slice O' 1 oc' ∧ Mem.Own u 52 5 O' 1 oc' (Link.pkCells ⟨e.life, 0, e.got, false, ByteArray.empty⟩) ∧ Mem.From w.heap.size O'
            | _ => True) ?_ ?_
        · refine Reg.Steps.cons ?_ (Reg.Steps.cons ?_ (Reg.Steps.cons ?_ (Reg.Steps.cons ?_ (Reg.Steps.cons ?_ (Reg.Steps.cons ?_ (Reg.Steps.cons ?_ (Reg.Steps.cons ?_ (Reg.Steps.cons ?_ (Reg.Steps.cons ?_ (Reg.Steps.cons ?_ (Reg.Steps.cons ?_ (Reg.Steps.cons ?_ (Reg.Steps.nil _)))))))))))))
          · intro val ac u hR hp ha K hK      -- 0: t42 := Op.move t3
            have e3 : (ac.tmps[3]?).getD undef = .slice O 0 oc := ha 3 (by decide)
            clear ha hp
            refine Reg.Op1.plain rfl ?_
            go_wp2
            exact ⟨rfl, hK _ _ rfl (fun j k _ _ => Reg.One.refl _ _ _ _ _ _)⟩
          · intro val ac u hR hp ha K hK      -- 1: t43 := Op.move t0
            have e0 : (ac.tmps[0]?).getD undef = .pointer (some ⟨g, 0, none⟩) := ha 0 (by decide)
            clear ha hp
            refine Reg.Op1.plain rfl ?_
            go_wp2
            exact ⟨rfl, hK _ _ rfl (fun j k _ _ => Reg.One.refl _ _ _ _ _ _)⟩
          · intro val ac u hR hp ha K hK      -- 2: t44 := Op.nilCheck t43
            obtain ⟨w43, h43, r43⟩ := hp 1 (by decide)
            have e43 : (ac.tmps[43]?).getD undef = .pointer (some ⟨g, 0, none⟩) := (ha 43 (by decide)).trans h43
            clear h43
            clear ha hp
            refine Reg.Op1.plain rfl ?_
            go_wp2
            exact ⟨rfl, hK _ _ rfl (fun j k _ _ => Reg.One.refl _ _ _ _ _ _)⟩
          · intro val ac u hR hp ha K hK      -- 3: t45 := Op.fieldAddr 45 t44 0
            obtain ⟨w44, h44, r44⟩ := hp 2 (by decide)
            have e44 : (ac.tmps[44]?).getD undef = .pointer (some ⟨g, 0, none⟩) := (ha 44 (by decide)).trans h44
            clear h44
            clear ha hp
            refine Reg.Op1.plain rfl ?_
            go_wp2
            exact ⟨rfl, hK _ _ rfl (fun j k _ _ => Reg.One.refl _ _ _ _ _ _)⟩
          · intro val ac u hR hp ha K hK      -- 4: t46 := Op.load 3 t45
            obtain ⟨w45, h45, r45⟩ := hp 3 (by decide)
            have e45 : (ac.tmps[45]?).getD undef = .pointer (some ⟨g, 0, none⟩) := (ha 45 (by decide)).trans h45
            clear h45
            clear ha hp
            refine Reg.Op1.plain rfl ?_
            have x0 := ((HB.out.drew.trans (hR.weak HB.out.size)).cell (p := ⟨g, 0, none⟩) (hgl)).trans (b0)
            go_wp2
            exact ⟨rfl, hK _ _ rfl (fun j k _ _ => Reg.One.refl _ _ _ _ _ _)⟩
          · intro val ac u hR hp ha K hK      -- 5: t47 := Op.move t0
            have e0 : (ac.tmps[0]?).getD undef = .pointer (some ⟨g, 0, none⟩) := ha 0 (by decide)
            clear ha hp
            refine Reg.Op1.plain rfl ?_
            go_wp2
            exact ⟨rfl, hK _ _ rfl (fun j k _ _ => Reg.One.refl _ _ _ _ _ _)⟩
          · intro val ac u hR hp ha K hK      -- 6: t48 := Op.nilCheck t47
            obtain ⟨w47, h47, r47⟩ := hp 5 (by decide)
            have e47 : (ac.tmps[47]?).getD undef = .pointer (some ⟨g, 0, none⟩) := (ha 47 (by decide)).trans h47
            clear h47
            clear ha hp
            refine Reg.Op1.plain rfl ?_
            go_wp2
            exact ⟨rfl, hK _ _ rfl (fun j k _ _ => Reg.One.refl _ _ _ _ _ _)⟩
          · intro val ac u hR hp ha K hK      -- 7: t49 := Op.fieldAddr 45 t48 3
            obtain ⟨w48, h48, r48⟩ := hp 6 (by decide)
            have e48 : (ac.tmps[48]?).getD undef = .pointer (some ⟨g, 0, none⟩) := (ha 48 (by decide)).trans h48
            clear h48
            clear ha hp
            refine Reg.Op1.plain rfl ?_
            go_wp2
            exact ⟨rfl, hK _ _ rfl (fun j k _ _ => Reg.One.refl _ _ _ _ _ _)⟩
          · intro val ac u hR hp ha K hK      -- 8: t50 := Op.load 3 t49
            obtain ⟨w49, h49, r49⟩ := hp 7 (by decide)
            have e49 : (ac.tmps[49]?).getD undef = .pointer (some ⟨g, 3, none⟩) := (ha 49 (by decide)).trans h49
            clear h49
            clear ha hp
            refine Reg.Op1.plain rfl ?_
            have x0 := ((HB.out.drew.trans (hR.weak HB.out.size)).cell (p := ⟨g, 3, none⟩) (hgl)).trans (b3)
            go_wp2
            exact ⟨rfl, hK _ _ rfl (fun j k _ _ => Reg.One.refl _ _ _ _ _ _)⟩
          · intro val ac u hR hp ha K hK      -- 9: t51 := Op.build 52 #[(0, t46), (2, t50)]
            obtain ⟨w46, h46, r46⟩ := hp 4 (by decide)
            have e46 : (ac.tmps[46]?).getD undef = .int .i64 e.life := (ha 46 (by decide)).trans h46
            clear h46
            obtain ⟨w50, h50, r50⟩ := hp 8 (by decide)
            have e50 : (ac.tmps[50]?).getD undef = .int .i64 e.got := (ha 50 (by decide)).trans h50
            clear h50
            clear ha hp
            refine Reg.Op1.plain rfl ?_
            go_wp2
            exact ⟨rfl, hK _ _ rfl (fun j k _ _ => Reg.One.refl _ _ _ _ _ _)⟩
          · intro val ac u hR hp ha K hK      -- 10: t52 := Op.buildSlice 28 1 #[(0, t51)]
            obtain ⟨w51, h51, r51⟩ := hp 9 (by decide)
            have e51 : (ac.tmps[51]?).getD undef = Link.P ⟨e.life, 0, e.got, false, ByteArray.empty⟩ := (ha 51 (by decide)).trans h51
            clear h51
            clear ha hp
            refine Reg.Op1.plain rfl ?_
            have hbu : w.heap.size ≤ u.heap.size := Nat.le_trans HB.out.size (hR.weak HB.out.size).size
            go_wp2
            exact ⟨rfl, hK _ _ ⟨u.heap.size, rfl, Mem.Rd.alloc_new u _ _ _ rfl, by simp⟩ (fun j k _ _ => Reg.One.adds (Reg.below_new _ _) hbu)⟩
          · intro val ac u hR hp ha K hK      -- 11: t53 := Op.call { builtin append, args := #[t42, t52], argTypes := #[28, 28] }
            obtain ⟨w42, h42, r42⟩ := hp 0 (by decide)
            have e42 : (ac.tmps[42]?).getD undef = .slice O 0 oc := (ha 42 (by decide)).trans h42
            clear h42
            obtain ⟨w52, h52, r52⟩ := hp 10 (by decide)
            have e52 : (ac.tmps[52]?).getD undef = val 10 := ha 52 (by decide)
            clear ha hp
            refine Reg.Op1.plain rfl ?_
            obtain ⟨s, hv, hrd, hs⟩ := h52
            rw [hv] at e52
            have hbu := hR.toM
            have hown := HW.out.drew.below hbu (fun _ => HW.out.lt)
            have hBB : Below w.heap.size w u := HB.out.drew.trans (hR.weak HB.out.size)
            refine Mem.wpList_app u rfl (.tmp 42) (.tmp 52) _ rfl packets_elem O 0 oc _ (Reg.eval_of e42) (s + 1) (some ⟨s, 0, none⟩) 1 1 (Link.pkCells ⟨e.life, 0, e.got, false, ByteArray.empty⟩) (Reg.eval_of e52) ?_ hown (hrd.below (r52.toM.mono hs)) rfl (by simp [Value.oneCell', Link.pkCells]) (by unfold maxLen; omega) (by omega)
            intro X' d' u' hown' hg hat
            refine ⟨rfl, hK _ _ ⟨X', d', rfl, ?_, ?_⟩ (Reg.One.writer ((Below.refl _ _).grown hg hBB.size HF.out.blk) (by decide) (by decide +kernel))⟩
            · simpa [Link.pks] using hown'
            · rcases hat with rfl | rfl
              · exact HF.out
              · exact Mem.From.some_ hBB.size
          · intro val ac u hR hp ha K hK      -- 12: t3 := Op.assign t53
            obtain ⟨w53, h53, r53⟩ := hp 11 (by decide)
            have e53 : (ac.tmps[53]?).getD undef = val 11 := ha 53 (by decide)
            clear ha hp
            refine Reg.Op1.plain rfl ?_
            obtain ⟨X', d', hv, hown, hf⟩ := h53
            rw [hv] at e53
            go_wp2
            exact ⟨rfl, hK _ _ ⟨X', d', rfl, hown.below (r53.fromM (by decide) (by decide)) (fun _ => hown.lt), hf⟩ (fun j k _ _ => Reg.One.refl _ _ _ _ _ _)⟩
        · intro val u hR H
          obtain ⟨w26, ⟨X', d', hv, hown, hf⟩, hr⟩ := H 12 (by decide)
          have hown := Lib.hid (hown.below (hr.fromM (by decide) (by decide)) (fun _ => hown.lt))
          have hBB := Lib.hid (HB.out.drew.trans (hR.weak HB.out.size))
          simp only [List.map_cons, List.map_nil, Reg.lay, Act.put, List.setIfInBounds_toArray, List.set_cons_succ, List.set_cons_zero, Nat.reduceAdd, hv]
          clear hv hr H hR
          go_wp2
          go_ret
          exact ⟨X', d', by rw [HO.out]; rfl, by rw [HO.out]; exact hown.out, hBB.out, hf⟩
      · have h0d : ((n : Int) == 0) = false := by rw [beq_eq_false_iff_ne]; omega
        have HO := Lib.hid (show Link.out e = Link.pks e.life e.got ((ack : Int) + 1) e.opn by rw [← HSE.out]; exact if_neg (by omega))
        have HN := Lib.hid hne
        clear hne hn hol h0
        go_wp2
        go_ret
        have hl : (Link.out e).length = n := by rw [HO.out, Link.pks_length, HN.out]
        refine ⟨O, oc, by rw [hl]; rfl, ?_, HB.out, HF.out⟩
        have hw := HW.out
        rw [HN.out, List.take_length, ← HN.out] at hw
        rw [hl, HO.out]
        exact hw
end Go.Proofs.Ytjkonfanmpcipaa
