/- The walk of write, where a coder writes. No conditions but that the bytes are few. -/
import Derived.Test.YtkfgedgjpgehoaaWire10
namespace Go.Proofs.Ytkfgedgjpgehoaa
open Go.ChangeShapes Go.WideShapes Go.ChangeAt Go.RowKit
set_option linter.unusedVariables false
set_option linter.unusedSimpArgs false
open Wi in
set_option maxRecDepth 8000 in
set_option maxHeartbeats 4000000 in
theorem write_pass {w w0 : World} {g : Nat} {A : Option Addr} {t : TypeId} {n gm : Nat} {r : Wi.Cd × List Value} {L off : Nat} {key vl : ByteArray} (h : Wi.Pass w0 g A t n gm r w) (hrd : r.1.reads = false) (hf : Wi.Fit r.1 L) (hL : L + 300 + key.size + vl.size ≤ 1000000000) (hv : Wi.IsEntry r.2 off key vl) (hg : gm ≠ g) (ha : Mem.blk A ≠ some gm) (hgw : gm < w0.heap.size) :
    Calls Try.prog 46 #[.pointer (some ⟨g, 0, none⟩), .pointer (some ⟨gm, off, none⟩)] w fun x w' => x = .returned (.tuple #[]) ∧ Wi.Pass w0 g A t n gm (Wi.writeW r off key vl) w' := by
  have HP := Lib.hid h
  have HV := Lib.hid hv
  have HF := Lib.hid hf
  have HA := Lib.hid ha
  have HRD := Lib.hid hrd
  clear h hv hf ha hrd
  go_enter Try.func46, Try.ntmps46
  go_upto_region 0 with fail
  refine Reg.wp_region_w (by kernel_rfl) 60 27 rfl rfl (by kernel_rfl) (26) (fun _ => True) (26) (fun _ => False) (26) (fun _ => False)
    (fun i v u => match i with
      | 0 => v = .pointer (some ⟨g, 0, none⟩)
      | 1 => v = .pointer (some ⟨gm, off, none⟩)
      | 2 => v = .pointer (some ⟨gm, off, none⟩)
      | 3 => v = .pointer (some ⟨gm, off, none⟩)
      | 4 => v = .pointer (some ⟨gm, off, none⟩)
      | 5 => v = .pointer (some ⟨gm, off, none⟩)
      | 6 => v = .pointer (some ⟨gm, off, none⟩)
      | 7 => v = .pointer (some ⟨gm, off, none⟩)
      | 8 => v = .pointer (some ⟨gm, off + 1, none⟩)
      | 9 => v = .pointer (some ⟨gm, off, none⟩)
      | 10 => v = .pointer (some ⟨gm, off, none⟩)
      | 11 => v = .pointer (some ⟨gm, off, none⟩)
      | 12 => v = .pointer (some ⟨gm, off + 2, none⟩)
      | 13 => v = .pointer (some ⟨gm, off, none⟩)
      | 14 => v = .pointer (some ⟨gm, off, none⟩)
      | 15 => v = .pointer (some ⟨gm, off + 3, none⟩)
      | 16 => v = .pointer (some ⟨gm, off + 3, none⟩)
      | 17 => v = .pointer (some ⟨gm, off, none⟩)
      | 18 => v = .pointer (some ⟨gm, off, none⟩)
      | 19 => v = .pointer (some ⟨gm, off + 3, none⟩)
      | 20 => v = .pointer (some ⟨gm, off + 3 + 1, none⟩)
      | 21 => v = .pointer (some ⟨gm, off, none⟩)
      | 22 => v = .pointer (some ⟨gm, off, none⟩)
      | 23 => v = .pointer (some ⟨gm, off + 3, none⟩)
      | 24 => v = .pointer (some ⟨gm, off + 3 + 2, none⟩)
      | 25 => ∃ s, v = .slice (some ⟨s, 0, none⟩) 6 6 ∧ w.heap.size ≤ s ∧ s + 1 ≤ u.heap.size ∧ Mem.Rd u (s + 1) (some ⟨s, 0, none⟩) [ptrV gm off, ptrV gm (off + 1), ptrV gm (off + 2), ptrV gm (off + 3), ptrV gm (off + 3 + 1), ptrV gm (off + 3 + 2)]
      | 26 => v = .tuple #[] ∧ Pass w0 g A t n gm ([off, off + 1, off + 2, off + 3, off + 3 + 1, off + 3 + 2].foldl stepN r) u
      | _ => True) ?_ ?_
  · refine Reg.Steps.cons ?_ (Reg.Steps.cons ?_ (Reg.Steps.cons ?_ (Reg.Steps.cons ?_ (Reg.Steps.cons ?_ (Reg.Steps.cons ?_ (Reg.Steps.cons ?_ (Reg.Steps.cons ?_ (Reg.Steps.cons ?_ (Reg.Steps.cons ?_ (Reg.Steps.cons ?_ (Reg.Steps.cons ?_ (Reg.Steps.cons ?_ (Reg.Steps.cons ?_ (Reg.Steps.cons ?_ (Reg.Steps.cons ?_ (Reg.Steps.cons ?_ (Reg.Steps.cons ?_ (Reg.Steps.cons ?_ (Reg.Steps.cons ?_ (Reg.Steps.cons ?_ (Reg.Steps.cons ?_ (Reg.Steps.cons ?_ (Reg.Steps.cons ?_ (Reg.Steps.cons ?_ (Reg.Steps.cons ?_ (Reg.Steps.cons ?_ (Reg.Steps.nil _)))))))))))))))))))))))))))
    · intro val ac u hR hp ha K hK      -- 0: t4 := Op.move t0
      have e0 : (ac.tmps[0]?).getD undef = .pointer (some ⟨g, 0, none⟩) := ha 0 (by decide)
      clear ha hp
      refine Reg.Op1.plain rfl ?_
      go_wp2
      exact ⟨rfl, hK _ _ rfl (Reg.Wr.same _)⟩
    · intro val ac u hR hp ha K hK      -- 1: t5 := Op.move t1
      have e1 : (ac.tmps[1]?).getD undef = .pointer (some ⟨gm, off, none⟩) := ha 1 (by decide)
      clear ha hp
      refine Reg.Op1.plain rfl ?_
      go_wp2
      exact ⟨rfl, hK _ _ rfl (Reg.Wr.same _)⟩
    · intro val ac u hR hp ha K hK      -- 2: t6 := Op.nilCheck t5
      obtain ⟨w5, h5, r5⟩ := hp 1 (by decide)
      have e5 : (ac.tmps[5]?).getD undef = .pointer (some ⟨gm, off, none⟩) := (ha 5 (by decide)).trans h5
      clear h5
      clear ha hp
      refine Reg.Op1.plain rfl ?_
      go_wp2
      exact ⟨rfl, hK _ _ rfl (Reg.Wr.same _)⟩
    · intro val ac u hR hp ha K hK      -- 3: t7 := Op.fieldAddr 30 t6 0
      obtain ⟨w6, h6, r6⟩ := hp 2 (by decide)
      have e6 : (ac.tmps[6]?).getD undef = .pointer (some ⟨gm, off, none⟩) := (ha 6 (by decide)).trans h6
      clear h6
      clear ha hp
      refine Reg.Op1.plain rfl ?_
      go_wp2
      exact ⟨rfl, hK _ _ rfl (Reg.Wr.same _)⟩
    · intro val ac u hR hp ha K hK      -- 4: t8 := Op.fieldAddr 23 t7 0
      obtain ⟨w7, h7, r7⟩ := hp 3 (by decide)
      have e7 : (ac.tmps[7]?).getD undef = .pointer (some ⟨gm, off, none⟩) := (ha 7 (by decide)).trans h7
      clear h7
      clear ha hp
      refine Reg.Op1.plain rfl ?_
      go_wp2
      exact ⟨rfl, hK _ _ rfl (Reg.Wr.same _)⟩
    · intro val ac u hR hp ha K hK      -- 5: t9 := Op.move t1
      have e1 : (ac.tmps[1]?).getD undef = .pointer (some ⟨gm, off, none⟩) := ha 1 (by decide)
      clear ha hp
      refine Reg.Op1.plain rfl ?_
      go_wp2
      exact ⟨rfl, hK _ _ rfl (Reg.Wr.same _)⟩
    · intro val ac u hR hp ha K hK      -- 6: t10 := Op.nilCheck t9
      obtain ⟨w9, h9, r9⟩ := hp 5 (by decide)
      have e9 : (ac.tmps[9]?).getD undef = .pointer (some ⟨gm, off, none⟩) := (ha 9 (by decide)).trans h9
      clear h9
      clear ha hp
      refine Reg.Op1.plain rfl ?_
      go_wp2
      exact ⟨rfl, hK _ _ rfl (Reg.Wr.same _)⟩
    · intro val ac u hR hp ha K hK      -- 7: t11 := Op.fieldAddr 30 t10 0
      obtain ⟨w10, h10, r10⟩ := hp 6 (by decide)
      have e10 : (ac.tmps[10]?).getD undef = .pointer (some ⟨gm, off, none⟩) := (ha 10 (by decide)).trans h10
      clear h10
      clear ha hp
      refine Reg.Op1.plain rfl ?_
      go_wp2
      exact ⟨rfl, hK _ _ rfl (Reg.Wr.same _)⟩
    · intro val ac u hR hp ha K hK      -- 8: t12 := Op.fieldAddr 23 t11 1
      obtain ⟨w11, h11, r11⟩ := hp 7 (by decide)
      have e11 : (ac.tmps[11]?).getD undef = .pointer (some ⟨gm, off, none⟩) := (ha 11 (by decide)).trans h11
      clear h11
      clear ha hp
      refine Reg.Op1.plain rfl ?_
      go_wp2
      exact ⟨rfl, hK _ _ rfl (Reg.Wr.same _)⟩
    · intro val ac u hR hp ha K hK      -- 9: t13 := Op.move t1
      have e1 : (ac.tmps[1]?).getD undef = .pointer (some ⟨gm, off, none⟩) := ha 1 (by decide)
      clear ha hp
      refine Reg.Op1.plain rfl ?_
      go_wp2
      exact ⟨rfl, hK _ _ rfl (Reg.Wr.same _)⟩
    · intro val ac u hR hp ha K hK      -- 10: t14 := Op.nilCheck t13
      obtain ⟨w13, h13, r13⟩ := hp 9 (by decide)
      have e13 : (ac.tmps[13]?).getD undef = .pointer (some ⟨gm, off, none⟩) := (ha 13 (by decide)).trans h13
      clear h13
      clear ha hp
      refine Reg.Op1.plain rfl ?_
      go_wp2
      exact ⟨rfl, hK _ _ rfl (Reg.Wr.same _)⟩
    · intro val ac u hR hp ha K hK      -- 11: t15 := Op.fieldAddr 30 t14 0
      obtain ⟨w14, h14, r14⟩ := hp 10 (by decide)
      have e14 : (ac.tmps[14]?).getD undef = .pointer (some ⟨gm, off, none⟩) := (ha 14 (by decide)).trans h14
      clear h14
      clear ha hp
      refine Reg.Op1.plain rfl ?_
      go_wp2
      exact ⟨rfl, hK _ _ rfl (Reg.Wr.same _)⟩
    · intro val ac u hR hp ha K hK      -- 12: t16 := Op.fieldAddr 23 t15 2
      obtain ⟨w15, h15, r15⟩ := hp 11 (by decide)
      have e15 : (ac.tmps[15]?).getD undef = .pointer (some ⟨gm, off, none⟩) := (ha 15 (by decide)).trans h15
      clear h15
      clear ha hp
      refine Reg.Op1.plain rfl ?_
      go_wp2
      exact ⟨rfl, hK _ _ rfl (Reg.Wr.same _)⟩
    · intro val ac u hR hp ha K hK      -- 13: t17 := Op.move t1
      have e1 : (ac.tmps[1]?).getD undef = .pointer (some ⟨gm, off, none⟩) := ha 1 (by decide)
      clear ha hp
      refine Reg.Op1.plain rfl ?_
      go_wp2
      exact ⟨rfl, hK _ _ rfl (Reg.Wr.same _)⟩
    · intro val ac u hR hp ha K hK      -- 14: t18 := Op.nilCheck t17
      obtain ⟨w17, h17, r17⟩ := hp 13 (by decide)
      have e17 : (ac.tmps[17]?).getD undef = .pointer (some ⟨gm, off, none⟩) := (ha 17 (by decide)).trans h17
      clear h17
      clear ha hp
      refine Reg.Op1.plain rfl ?_
      go_wp2
      exact ⟨rfl, hK _ _ rfl (Reg.Wr.same _)⟩
    · intro val ac u hR hp ha K hK      -- 15: t19 := Op.fieldAddr 30 t18 1
      obtain ⟨w18, h18, r18⟩ := hp 14 (by decide)
      have e18 : (ac.tmps[18]?).getD undef = .pointer (some ⟨gm, off, none⟩) := (ha 18 (by decide)).trans h18
      clear h18
      clear ha hp
      refine Reg.Op1.plain rfl ?_
      go_wp2
      exact ⟨rfl, hK _ _ rfl (Reg.Wr.same _)⟩
    · intro val ac u hR hp ha K hK      -- 16: t20 := Op.fieldAddr 25 t19 0
      obtain ⟨w19, h19, r19⟩ := hp 15 (by decide)
      have e19 : (ac.tmps[19]?).getD undef = .pointer (some ⟨gm, off + 3, none⟩) := (ha 19 (by decide)).trans h19
      clear h19
      clear ha hp
      refine Reg.Op1.plain rfl ?_
      go_wp2
      exact ⟨rfl, hK _ _ rfl (Reg.Wr.same _)⟩
    · intro val ac u hR hp ha K hK      -- 17: t21 := Op.move t1
      have e1 : (ac.tmps[1]?).getD undef = .pointer (some ⟨gm, off, none⟩) := ha 1 (by decide)
      clear ha hp
      refine Reg.Op1.plain rfl ?_
      go_wp2
      exact ⟨rfl, hK _ _ rfl (Reg.Wr.same _)⟩
    · intro val ac u hR hp ha K hK      -- 18: t22 := Op.nilCheck t21
      obtain ⟨w21, h21, r21⟩ := hp 17 (by decide)
      have e21 : (ac.tmps[21]?).getD undef = .pointer (some ⟨gm, off, none⟩) := (ha 21 (by decide)).trans h21
      clear h21
      clear ha hp
      refine Reg.Op1.plain rfl ?_
      go_wp2
      exact ⟨rfl, hK _ _ rfl (Reg.Wr.same _)⟩
    · intro val ac u hR hp ha K hK      -- 19: t23 := Op.fieldAddr 30 t22 1
      obtain ⟨w22, h22, r22⟩ := hp 18 (by decide)
      have e22 : (ac.tmps[22]?).getD undef = .pointer (some ⟨gm, off, none⟩) := (ha 22 (by decide)).trans h22
      clear h22
      clear ha hp
      refine Reg.Op1.plain rfl ?_
      go_wp2
      exact ⟨rfl, hK _ _ rfl (Reg.Wr.same _)⟩
    · intro val ac u hR hp ha K hK      -- 20: t24 := Op.fieldAddr 25 t23 1
      obtain ⟨w23, h23, r23⟩ := hp 19 (by decide)
      have e23 : (ac.tmps[23]?).getD undef = .pointer (some ⟨gm, off + 3, none⟩) := (ha 23 (by decide)).trans h23
      clear h23
      clear ha hp
      refine Reg.Op1.plain rfl ?_
      go_wp2
      exact ⟨rfl, hK _ _ rfl (Reg.Wr.same _)⟩
    · intro val ac u hR hp ha K hK      -- 21: t25 := Op.move t1
      have e1 : (ac.tmps[1]?).getD undef = .pointer (some ⟨gm, off, none⟩) := ha 1 (by decide)
      clear ha hp
      refine Reg.Op1.plain rfl ?_
      go_wp2
      exact ⟨rfl, hK _ _ rfl (Reg.Wr.same _)⟩
    · intro val ac u hR hp ha K hK      -- 22: t26 := Op.nilCheck t25
      obtain ⟨w25, h25, r25⟩ := hp 21 (by decide)
      have e25 : (ac.tmps[25]?).getD undef = .pointer (some ⟨gm, off, none⟩) := (ha 25 (by decide)).trans h25
      clear h25
      clear ha hp
      refine Reg.Op1.plain rfl ?_
      go_wp2
      exact ⟨rfl, hK _ _ rfl (Reg.Wr.same _)⟩
    · intro val ac u hR hp ha K hK      -- 23: t27 := Op.fieldAddr 30 t26 1
      obtain ⟨w26, h26, r26⟩ := hp 22 (by decide)
      have e26 : (ac.tmps[26]?).getD undef = .pointer (some ⟨gm, off, none⟩) := (ha 26 (by decide)).trans h26
      clear h26
      clear ha hp
      refine Reg.Op1.plain rfl ?_
      go_wp2
      exact ⟨rfl, hK _ _ rfl (Reg.Wr.same _)⟩
    · intro val ac u hR hp ha K hK      -- 24: t28 := Op.fieldAddr 25 t27 2
      obtain ⟨w27, h27, r27⟩ := hp 23 (by decide)
      have e27 : (ac.tmps[27]?).getD undef = .pointer (some ⟨gm, off + 3, none⟩) := (ha 27 (by decide)).trans h27
      clear h27
      clear ha hp
      refine Reg.Op1.plain rfl ?_
      go_wp2
      exact ⟨rfl, hK _ _ rfl (Reg.Wr.same _)⟩
    · intro val ac u hR hp ha K hK      -- 25: t29 := Op.buildSlice 127 6 #[(0, t8), (1, t12), (2, t16), (3, t20), (4, t24), (5, t28)]
      obtain ⟨w8, h8, r8⟩ := hp 4 (by decide)
      have e8 : (ac.tmps[8]?).getD undef = .pointer (some ⟨gm, off, none⟩) := (ha 8 (by decide)).trans h8
      clear h8
      obtain ⟨w12, h12, r12⟩ := hp 8 (by decide)
      have e12 : (ac.tmps[12]?).getD undef = .pointer (some ⟨gm, off + 1, none⟩) := (ha 12 (by decide)).trans h12
      clear h12
      obtain ⟨w16, h16, r16⟩ := hp 12 (by decide)
      have e16 : (ac.tmps[16]?).getD undef = .pointer (some ⟨gm, off + 2, none⟩) := (ha 16 (by decide)).trans h16
      clear h16
      obtain ⟨w20, h20, r20⟩ := hp 16 (by decide)
      have e20 : (ac.tmps[20]?).getD undef = .pointer (some ⟨gm, off + 3, none⟩) := (ha 20 (by decide)).trans h20
      clear h20
      obtain ⟨w24, h24, r24⟩ := hp 20 (by decide)
      have e24 : (ac.tmps[24]?).getD undef = .pointer (some ⟨gm, off + 3 + 1, none⟩) := (ha 24 (by decide)).trans h24
      clear h24
      obtain ⟨w28, h28, r28⟩ := hp 24 (by decide)
      have e28 : (ac.tmps[28]?).getD undef = .pointer (some ⟨gm, off + 3 + 2, none⟩) := (ha 28 (by decide)).trans h28
      clear h28
      clear ha hp
      refine Reg.Op1.plain rfl ?_
      have hq := (Mem.Keeps.refl (fun _ => False) w).drew.trans (Reg.Wr.none hR (by decide +kernel) (by decide +kernel) (by decide +kernel)) (fun _ h _ => h)
      go_wp2
      exact ⟨rfl, hK _ _ ⟨u.heap.size, rfl, hq.size, by simp, Mem.Rd.alloc_new u _ _ _ rfl⟩ (Reg.Wr.quiet ((Mem.Keeps.refl _ u).alloc _))⟩
    · intro val ac u hR hp ha K hK      -- 26: t30 := Op.call { value (Operand.func 56), args := #[t4, t29], argTypes := #[65, 127] }
      obtain ⟨w4, h4, r4⟩ := hp 0 (by decide)
      have e4 : (ac.tmps[4]?).getD undef = .pointer (some ⟨g, 0, none⟩) := (ha 4 (by decide)).trans h4
      clear h4
      obtain ⟨w29, h29, r29⟩ := hp 25 (by decide)
      have e29 : (ac.tmps[29]?).getD undef = val 25 := ha 29 (by decide)
      clear ha hp
      refine Reg.Op1.plain rfl ?_
      obtain ⟨s, hv, hs, hsz, hrd⟩ := h29
      rw [hv] at e29
      have hq := (Mem.Keeps.refl (fun _ => False) w).drew.trans (Reg.Wr.none hR (by decide +kernel) (by decide +kernel) (by decide +kernel)) (fun _ h _ => h)
      have hrd' := hrd.keepsAt (Reg.Wr.none r29 (by decide +kernel) (by decide +kernel) (by decide +kernel)) hsz (fun _ _ h => h)
      have hn := Pass.numbers HP.out hq hs [off, off + 1, off + 2, off + 3, off + 3 + 1, off + 3 + 2] 6 HF.out (by simp; omega) (fun k hk => by simp at hk; rcases hk with h | h | h | h | h | h <;> rw [h]; exact HV.out.i 0 (by omega); exact HV.out.i 1 (by omega); exact HV.out.i 2 (by omega); exact HV.out.i 3 (by omega); exact HV.out.i 4 (by omega); exact HV.out.i 5 (by omega)) hg HA.out hgw hrd'
      go_wp2_with fail
      refine hn.mono ?_
      rintro x w' ⟨rfl, hp, hk9⟩
      go_wp2_with fail
      exact ⟨rfl, hK _ _ ⟨rfl, hp⟩ (Reg.Wr.does1 hk9)⟩
  · intro val u hR H
    obtain ⟨wb, ⟨hv8, hp⟩, rb⟩ := H 26 (by decide)
    have hk9 := Reg.Wr.none rb (by decide +kernel) (by decide +kernel) (by decide +kernel)
    have HPP : Hid (Pass w0 g A t n gm (foldR r off 6) u) := by
      obtain ⟨A2, cap2, h1, h2, h3, h4⟩ := hp.out
      exact ⟨⟨A2, cap2, h1.keeps hk9 (fun _ _ h => h), h2.keeps hk9 id, h3.trans hk9 (fun _ h _ => h.elim), h4⟩, fun hr => (hp.rd hr).trans hk9 (fun _ h _ => h.elim)⟩
    simp only [List.map_cons, List.map_nil, Reg.lay, Act.put, List.setIfInBounds_toArray, List.set_cons_succ, List.set_cons_zero, Nat.reduceAdd]
    clear hR H rb hp hk9 hv8
    have h1f := foldR_fit HF.out off 6
    have h1r : (foldR r off 6).1.reads = false := by rw [foldR_reads]; exact HRD.out
    have h1z : (foldR r off 6).2 = r.2 := foldR_w HRD.out off 6
    have HT1 := Lib.hid (Pass.text (k := off + 6) (s := key) 16 HPP.out h1r h1f (by omega) (by unfold IsStr; rw [h1z]; exact HV.out.key) hg HA.out hgw)
    have h2f := stepTxt_fit h1f 16 key
    have h2r : (stepTxt (foldR r off 6).1 16 key).reads = false := (stepNum_reads _ _).trans h1r
    have HT2 := Lib.hid (fun (wz : World) (hz : Pass w0 g A t n gm (stepTxt (foldR r off 6).1 16 key, (foldR r off 6).2) wz) => Pass.text (k := off + 7) (s := vl) 32 hz h2r h2f (by omega) (by unfold IsStr; rw [h1z]; exact HV.out.val) hg HA.out hgw)
    have h3f := stepTxt_fit h2f 32 vl
    have h3r : (stepTxt (stepTxt (foldR r off 6).1 16 key) 32 vl).reads = false := (stepNum_reads _ _).trans h2r
    obtain ⟨r3, hr3⟩ : ∃ r3 : Cd × List Value, (stepTxt (stepTxt (foldR r off 6).1 16 key) 32 vl, (foldR r off 6).2) = r3 := ⟨_, rfl⟩
    have h3f' : Fit r3.1 (L + 9 * 6 + 9 + key.size + 9 + vl.size) := by rw [← hr3]; exact h3f
    have h3r' : r3.1.reads = false := by rw [← hr3]; exact h3r
    have h3z : r3.2 = r.2 := by rw [← hr3]; exact h1z
    have HR3 := Lib.hid hr3
    have HT3 := Lib.hid (fun (wz : World) (hz : Pass w0 g A t n gm r3 wz) => Pass.truth (k := off + 8) hz h3f' (by omega) (by rw [h3z]; exact HV.out.b) hg HA.out hgw)
    have h4f := stepB_fit h3f' (off + 8)
    have h4r : (stepB r3 (off + 8)).1.reads = false := (stepB_reads _ _).trans h3r'
    have h4z : (stepB r3 (off + 8)).2 = r.2 := (stepB_w h3r' _).trans h3z
    have HT4 := Lib.hid (fun (wz : World) (hz : Pass w0 g A t n gm (stepB r3 (off + 8)) wz) => vector_pass (off := off + 9) hz h4f (by omega) (fun j hj => by rw [h4z]; exact HV.out.v j hj) hg HA.out hgw)
    have h5f := foldR_fit h4f (off + 9) 9
    have h5z : (foldR (stepB r3 (off + 8)) (off + 9) 9).2 = r.2 := (foldR_w h4r _ _).trans h4z
    obtain ⟨r5, hr5⟩ : ∃ r5 : Cd × List Value, foldR (stepB r3 (off + 8)) (off + 9) 9 = r5 := ⟨_, rfl⟩
    rw [hr5] at h5f h5z
    have HR5 := Lib.hid hr5
    clear h1f h1r h1z h2f h2r h3f h3r h3f' h3r' h3z h4f h4r h4z hr3 hr5
    go_upto_region 5 with (first | (go_at_call 58; refine HT1.out.mono ?_; rintro x9 w2 ⟨rfl, hp⟩; have HPa := Lib.hid hp; clear hp HT1) | (go_at_call 58; refine (HT2.out w2 HPa.out).mono ?_; rintro x9 w3 ⟨rfl, hp⟩; rw [HR3.out] at hp; have HPb := Lib.hid hp; clear hp HT2) | (go_at_call 57; refine (HT3.out w3 HPb.out).mono ?_; rintro x9 w4 ⟨rfl, hp⟩; have HPc := Lib.hid hp; clear hp) | (go_at_call 59; refine (HT4.out w4 HPc.out).mono ?_; rintro x9 w5 ⟨rfl, hp⟩; rw [HR5.out] at hp; have HPd := Lib.hid hp; clear hp))
    refine Reg.wp_region_w (by kernel_rfl) 60 9 rfl rfl (by kernel_rfl) (8) (fun _ => True) (8) (fun _ => False) (8) (fun _ => False)
      (fun i v u => match i with
        | 0 => v = .pointer (some ⟨g, 0, none⟩)
        | 1 => v = .pointer (some ⟨gm, off, none⟩)
        | 2 => v = .pointer (some ⟨gm, off, none⟩)
        | 3 => v = .pointer (some ⟨gm, off + 18, none⟩)
        | 4 => v = .pointer (some ⟨gm, off, none⟩)
        | 5 => v = .pointer (some ⟨gm, off, none⟩)
        | 6 => v = .pointer (some ⟨gm, off + 19, none⟩)
        | 7 => ∃ s, v = .slice (some ⟨s, 0, none⟩) 2 2 ∧ w5.heap.size ≤ s ∧ s + 1 ≤ u.heap.size ∧ Mem.Rd u (s + 1) (some ⟨s, 0, none⟩) [ptrV gm (off + 18), ptrV gm (off + 19)]
        | 8 => v = .tuple #[] ∧ Pass w0 g A t n gm ([off + 18, off + 19].foldl stepN r5) u
        | _ => True) ?_ ?_
    · refine Reg.Steps.cons ?_ (Reg.Steps.cons ?_ (Reg.Steps.cons ?_ (Reg.Steps.cons ?_ (Reg.Steps.cons ?_ (Reg.Steps.cons ?_ (Reg.Steps.cons ?_ (Reg.Steps.cons ?_ (Reg.Steps.cons ?_ (Reg.Steps.nil _)))))))))
      · intro val ac u hR hp ha K hK      -- 0: t51 := Op.move t0
        have e0 : (ac.tmps[0]?).getD undef = .pointer (some ⟨g, 0, none⟩) := ha 0 (by decide)
        clear ha hp
        refine Reg.Op1.plain rfl ?_
        go_wp2
        exact ⟨rfl, hK _ _ rfl (Reg.Wr.same _)⟩
      · intro val ac u hR hp ha K hK      -- 1: t52 := Op.move t1
        have e1 : (ac.tmps[1]?).getD undef = .pointer (some ⟨gm, off, none⟩) := ha 1 (by decide)
        clear ha hp
        refine Reg.Op1.plain rfl ?_
        go_wp2
        exact ⟨rfl, hK _ _ rfl (Reg.Wr.same _)⟩
      · intro val ac u hR hp ha K hK      -- 2: t53 := Op.nilCheck t52
        obtain ⟨w52, h52, r52⟩ := hp 1 (by decide)
        have e52 : (ac.tmps[52]?).getD undef = .pointer (some ⟨gm, off, none⟩) := (ha 52 (by decide)).trans h52
        clear h52
        clear ha hp
        refine Reg.Op1.plain rfl ?_
        go_wp2
        exact ⟨rfl, hK _ _ rfl (Reg.Wr.same _)⟩
      · intro val ac u hR hp ha K hK      -- 3: t54 := Op.fieldAddr 30 t53 6
        obtain ⟨w53, h53, r53⟩ := hp 2 (by decide)
        have e53 : (ac.tmps[53]?).getD undef = .pointer (some ⟨gm, off, none⟩) := (ha 53 (by decide)).trans h53
        clear h53
        clear ha hp
        refine Reg.Op1.plain rfl ?_
        go_wp2
        exact ⟨rfl, hK _ _ rfl (Reg.Wr.same _)⟩
      · intro val ac u hR hp ha K hK      -- 4: t55 := Op.move t1
        have e1 : (ac.tmps[1]?).getD undef = .pointer (some ⟨gm, off, none⟩) := ha 1 (by decide)
        clear ha hp
        refine Reg.Op1.plain rfl ?_
        go_wp2
        exact ⟨rfl, hK _ _ rfl (Reg.Wr.same _)⟩
      · intro val ac u hR hp ha K hK      -- 5: t56 := Op.nilCheck t55
        obtain ⟨w55, h55, r55⟩ := hp 4 (by decide)
        have e55 : (ac.tmps[55]?).getD undef = .pointer (some ⟨gm, off, none⟩) := (ha 55 (by decide)).trans h55
        clear h55
        clear ha hp
        refine Reg.Op1.plain rfl ?_
        go_wp2
        exact ⟨rfl, hK _ _ rfl (Reg.Wr.same _)⟩
      · intro val ac u hR hp ha K hK      -- 6: t57 := Op.fieldAddr 30 t56 7
        obtain ⟨w56, h56, r56⟩ := hp 5 (by decide)
        have e56 : (ac.tmps[56]?).getD undef = .pointer (some ⟨gm, off, none⟩) := (ha 56 (by decide)).trans h56
        clear h56
        clear ha hp
        refine Reg.Op1.plain rfl ?_
        go_wp2
        exact ⟨rfl, hK _ _ rfl (Reg.Wr.same _)⟩
      · intro val ac u hR hp ha K hK      -- 7: t58 := Op.buildSlice 127 2 #[(0, t54), (1, t57)]
        obtain ⟨w54, h54, r54⟩ := hp 3 (by decide)
        have e54 : (ac.tmps[54]?).getD undef = .pointer (some ⟨gm, off + 18, none⟩) := (ha 54 (by decide)).trans h54
        clear h54
        obtain ⟨w57, h57, r57⟩ := hp 6 (by decide)
        have e57 : (ac.tmps[57]?).getD undef = .pointer (some ⟨gm, off + 19, none⟩) := (ha 57 (by decide)).trans h57
        clear h57
        clear ha hp
        refine Reg.Op1.plain rfl ?_
        have hq := (Mem.Keeps.refl (fun _ => False) w5).drew.trans (Reg.Wr.none hR (by decide +kernel) (by decide +kernel) (by decide +kernel)) (fun _ h _ => h)
        go_wp2
        exact ⟨rfl, hK _ _ ⟨u.heap.size, rfl, hq.size, by simp, Mem.Rd.alloc_new u _ _ _ rfl⟩ (Reg.Wr.quiet ((Mem.Keeps.refl _ u).alloc _))⟩
      · intro val ac u hR hp ha K hK      -- 8: t59 := Op.call { value (Operand.func 56), args := #[t51, t58], argTypes := #[65, 127] }
        obtain ⟨w51, h51, r51⟩ := hp 0 (by decide)
        have e51 : (ac.tmps[51]?).getD undef = .pointer (some ⟨g, 0, none⟩) := (ha 51 (by decide)).trans h51
        clear h51
        obtain ⟨w58, h58, r58⟩ := hp 7 (by decide)
        have e58 : (ac.tmps[58]?).getD undef = val 7 := ha 58 (by decide)
        clear ha hp
        refine Reg.Op1.plain rfl ?_
        obtain ⟨s, hv, hs, hsz, hrd⟩ := h58
        rw [hv] at e58
        have hq := (Mem.Keeps.refl (fun _ => False) w5).drew.trans (Reg.Wr.none hR (by decide +kernel) (by decide +kernel) (by decide +kernel)) (fun _ h _ => h)
        have hrd' := hrd.keepsAt (Reg.Wr.none r58 (by decide +kernel) (by decide +kernel) (by decide +kernel)) hsz (fun _ _ h => h)
        have hn := Pass.numbers HPd.out hq hs [off + 18, off + 19] 2 h5f (by simp; omega) (fun k hk => by rw [h5z]; simp at hk; rcases hk with h | h <;> rw [h]; exact HV.out.j 0 (by omega); exact HV.out.j 1 (by omega)) hg HA.out hgw hrd'
        go_wp2_with fail
        refine hn.mono ?_
        rintro x w' ⟨rfl, hp, hk9⟩
        go_wp2_with fail
        exact ⟨rfl, hK _ _ ⟨rfl, hp⟩ (Reg.Wr.does1 hk9)⟩
    · intro val u hR H
      obtain ⟨wb, ⟨hv8, hp⟩, rb⟩ := H 8 (by decide)
      have hk9 := Reg.Wr.none rb (by decide +kernel) (by decide +kernel) (by decide +kernel)
      have e1 : writeW r off key vl = [off + 18, off + 19].foldl stepN r5 := (by unfold writeW; rw [HR3.out, HR5.out]; rfl)
      obtain ⟨A2, cap2, h1, h2, h3, h4⟩ := hp.out
      have HPP : Hid (Pass w0 g A t n gm (writeW r off key vl) u) := (by show Pass _ _ _ _ _ _ _ _; rw [e1]; exact ⟨⟨A2, cap2, h1.keeps hk9 (fun _ _ h => h), h2.keeps hk9 id, h3.trans hk9 (fun _ h _ => h.elim), h4⟩, fun hr => (hp.rd hr).trans hk9 (fun _ h _ => h.elim)⟩)
      simp only [List.map_cons, List.map_nil, Reg.lay, Act.put, List.setIfInBounds_toArray, List.set_cons_succ, List.set_cons_zero, Nat.reduceAdd]
      clear hR H rb hp hk9 hv8 e1 h1 h2 h3 h4
      go_wp2
      first | go_end0 | ((try simp only [Exit.inBlock, Exit.then]); refine bodyPost_ret (results_none rfl _ _ _) rfl ?_)
      exact ⟨rfl, HPP.out⟩
end Go.Proofs.Ytkfgedgjpgehoaa
