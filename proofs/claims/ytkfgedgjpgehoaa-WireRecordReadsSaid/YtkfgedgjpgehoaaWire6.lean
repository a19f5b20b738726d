/- The walks of member and address. No conditions but that the bytes are few. -/
import Derived.Test.YtkfgedgjpgehoaaWire5
namespace Go.Proofs.Ytkfgedgjpgehoaa
open Go.ChangeShapes Go.WideShapes Go.ChangeAt Go.RowKit
set_option linter.unusedVariables false
set_option linter.unusedSimpArgs false
namespace Wi
theorem Pass.numbers {w w0 w1 : World} {g : Nat} {A : Option Addr} {t : TypeId} {n gm : Nat} {r : Cd × List Value} {L s : Nat} (h : Pass w g A t n gm r w0) (hq : Mem.Keeps (fun _ => False) w0 w1) (hs : w0.heap.size ≤ s) (ks : List Nat) (cP : Nat) (hf : Fit r.1 L) (hL : L + 9 * ks.length ≤ 1000000000) (hi : ∀ k ∈ ks, IsInt r.2 k) (hg : gm ≠ g) (ha : Mem.blk A ≠ some gm) (hgw : gm < w.heap.size)
    (hP : Mem.Rd w1 w1.heap.size (some ⟨s, 0, none⟩) (ks.map (ptrV gm))) :
    Calls Try.prog 56 #[.pointer (some ⟨g, 0, none⟩), .slice (some ⟨s, 0, none⟩) ks.length cP] w1 fun x w' => x = .returned (.tuple #[]) ∧ Pass w g A t n gm (ks.foldl stepN r) w' ∧ Mem.Keeps (fun _ => True) w1 w' := by
  obtain ⟨A2, cap2, h1, h2, h3, h4⟩ := h.out
  have hz := h2.keeps hq id
  have hc := h1.keeps hq (fun _ _ h => h)
  have hgl := h1.B.lt
  have hgm := h2.lt
  refine (numbers_any (some ⟨s, 0, none⟩) cP ks 0 hc hf hL hz hi hg (fun h9 => ?_) hP (fun q hq2 h9 => ?_)).mono fun x w' hp => ⟨hp.1, Pass.step (h3.trans hq (fun _ h _ => h.elim)) h4 (fun hr => (h.rd (by rw [foldl_reads] at hr; exact hr)).trans hq (fun _ h _ => h.elim)) hp.2, by obtain ⟨_, _, _, _, hk, _⟩ := hp.2.out; exact hk.mono (fun _ _ _ => trivial)⟩
  · rcases h4 gm h9 with h8 | h8
    · exact ha h8
    · omega
  · have hqs : s = q := by simpa [Mem.blk] using hq2
    rcases h9 with (h9 | h9) | h9
    · omega
    · have := h1.lt q h9; omega
    · omega
end Wi
open Wi in
set_option maxRecDepth 8000 in
set_option maxHeartbeats 4000000 in
theorem member_pass {w w0 : World} {g : Nat} {A : Option Addr} {t : TypeId} {n gm : Nat} {r : Wi.Cd × List Value} {L off : Nat} (h : Wi.Pass w0 g A t n gm r w) (hf : Wi.Fit r.1 L) (hL : L + 18 ≤ 1000000000) (hv : ∀ j, j < 2 → Wi.IsInt r.2 (off + j)) (hg : gm ≠ g) (ha : Mem.blk A ≠ some gm) (hgw : gm < w0.heap.size) :
    Calls Try.prog 63 #[.pointer (some ⟨g, 0, none⟩), .pointer (some ⟨gm, off, none⟩)] w fun x w' => x = .returned (.tuple #[]) ∧ Wi.Pass w0 g A t n gm (Wi.foldR r off 2) w' := by
  have HP := Lib.hid h
  have HV := Lib.hid hv
  have HF := Lib.hid hf
  have HA := Lib.hid ha
  clear h hv hf ha
  have hks : foldR r off 2 = [off, off + 1].foldl stepN r := rfl
  rw [hks]
  clear hks
  go_enter Try.func63, Try.ntmps63
  go_upto_region 0 with fail
  refine Reg.wp_region_w (by kernel_rfl) 13 9 rfl rfl (by kernel_rfl) (8) (fun _ => True) (8) (fun _ => False) (8) (fun _ => False)
    (fun i v u => match i with
      | 0 => v = .pointer (some ⟨g, 0, none⟩)
      | 1 => v = .pointer (some ⟨gm, off, none⟩)
      | 2 => v = .pointer (some ⟨gm, off, none⟩)
      | 3 => v = .pointer (some ⟨gm, off, none⟩)
      | 4 => v = .pointer (some ⟨gm, off, none⟩)
      | 5 => v = .pointer (some ⟨gm, off, none⟩)
      | 6 => v = .pointer (some ⟨gm, off + 1, none⟩)
      | 7 => ∃ s, v = .slice (some ⟨s, 0, none⟩) 2 2 ∧ w.heap.size ≤ s ∧ s + 1 ≤ u.heap.size ∧ Mem.Rd u (s + 1) (some ⟨s, 0, none⟩) [ptrV gm off, ptrV gm (off + 1)]
      | 8 => v = .tuple #[] ∧ Pass w0 g A t n gm ([off, off + 1].foldl stepN r) u
      | _ => True) ?_ ?_
  · refine Reg.Steps.cons ?_ (Reg.Steps.cons ?_ (Reg.Steps.cons ?_ (Reg.Steps.cons ?_ (Reg.Steps.cons ?_ (Reg.Steps.cons ?_ (Reg.Steps.cons ?_ (Reg.Steps.cons ?_ (Reg.Steps.cons ?_ (Reg.Steps.nil _)))))))))
    · intro val ac u hR hp ha K hK      -- 0: t4 := Op.move t0
      have e0 : (ac.tmps[0]?).getD undef = .pointer (some ⟨g, 0, none⟩) := ha 0 (by decide)
      clear ha hp
      refine Reg.Op1.plain rfl ?_
      go_wp2
      exact ⟨rfl, hK _ _ rfl (Reg.Wr.same _)⟩
    · intro val ac u hR hp ha K hK      -- 1: t5 := Op.move t1
      have e1 : (ac.tmps[1]?).getD undef = .pointer (some ⟨gm, off, none⟩) := ha 1 (by decide)
      clear ha hp
      refine Reg.Op1.plain rfl ?_
      go_wp2
      exact ⟨rfl, hK _ _ rfl (Reg.Wr.same _)⟩
    · intro val ac u hR hp ha K hK      -- 2: t6 := Op.nilCheck t5
      obtain ⟨w5, h5, r5⟩ := hp 1 (by decide)
      have e5 : (ac.tmps[5]?).getD undef = .pointer (some ⟨gm, off, none⟩) := (ha 5 (by decide)).trans h5
      clear h5
      clear ha hp
      refine Reg.Op1.plain rfl ?_
      go_wp2
      exact ⟨rfl, hK _ _ rfl (Reg.Wr.same _)⟩
    · intro val ac u hR hp ha K hK      -- 3: t7 := Op.fieldAddr 32 t6 0
      obtain ⟨w6, h6, r6⟩ := hp 2 (by decide)
      have e6 : (ac.tmps[6]?).getD undef = .pointer (some ⟨gm, off, none⟩) := (ha 6 (by decide)).trans h6
      clear h6
      clear ha hp
      refine Reg.Op1.plain rfl ?_
      go_wp2
      exact ⟨rfl, hK _ _ rfl (Reg.Wr.same _)⟩
    · intro val ac u hR hp ha K hK      -- 4: t8 := Op.move t1
      have e1 : (ac.tmps[1]?).getD undef = .pointer (some ⟨gm, off, none⟩) := ha 1 (by decide)
      clear ha hp
      refine Reg.Op1.plain rfl ?_
      go_wp2
      exact ⟨rfl, hK _ _ rfl (Reg.Wr.same _)⟩
    · intro val ac u hR hp ha K hK      -- 5: t9 := Op.nilCheck t8
      obtain ⟨w8, h8, r8⟩ := hp 4 (by decide)
      have e8 : (ac.tmps[8]?).getD undef = .pointer (some ⟨gm, off, none⟩) := (ha 8 (by decide)).trans h8
      clear h8
      clear ha hp
      refine Reg.Op1.plain rfl ?_
      go_wp2
      exact ⟨rfl, hK _ _ rfl (Reg.Wr.same _)⟩
    · intro val ac u hR hp ha K hK      -- 6: t10 := Op.fieldAddr 32 t9 1
      obtain ⟨w9, h9, r9⟩ := hp 5 (by decide)
      have e9 : (ac.tmps[9]?).getD undef = .pointer (some ⟨gm, off, none⟩) := (ha 9 (by decide)).trans h9
      clear h9
      clear ha hp
      refine Reg.Op1.plain rfl ?_
      go_wp2
      exact ⟨rfl, hK _ _ rfl (Reg.Wr.same _)⟩
    · intro val ac u hR hp ha K hK      -- 7: t11 := Op.buildSlice 127 2 #[(0, t7), (1, t10)]
      obtain ⟨w7, h7, r7⟩ := hp 3 (by decide)
      have e7 : (ac.tmps[7]?).getD undef = .pointer (some ⟨gm, off, none⟩) := (ha 7 (by decide)).trans h7
      clear h7
      obtain ⟨w10, h10, r10⟩ := hp 6 (by decide)
      have e10 : (ac.tmps[10]?).getD undef = .pointer (some ⟨gm, off + 1, none⟩) := (ha 10 (by decide)).trans h10
      clear h10
      clear ha hp
      refine Reg.Op1.plain rfl ?_
      have hq := (Mem.Keeps.refl (fun _ => False) w).drew.trans (Reg.Wr.none hR (by decide +kernel) (by decide +kernel) (by decide +kernel)) (fun _ h _ => h)
      go_wp2
      exact ⟨rfl, hK _ _ ⟨u.heap.size, rfl, hq.size, by simp, Mem.Rd.alloc_new u _ _ _ rfl⟩ (Reg.Wr.quiet ((Mem.Keeps.refl _ u).alloc _))⟩
    · intro val ac u hR hp ha K hK      -- 8: t12 := Op.call { value (Operand.func 56), args := #[t4, t11], argTypes := #[65, 127] }
      obtain ⟨w4, h4, r4⟩ := hp 0 (by decide)
      have e4 : (ac.tmps[4]?).getD undef = .pointer (some ⟨g, 0, none⟩) := (ha 4 (by decide)).trans h4
      clear h4
      obtain ⟨w11, h11, r11⟩ := hp 7 (by decide)
      have e11 : (ac.tmps[11]?).getD undef = val 7 := ha 11 (by decide)
      clear ha hp
      refine Reg.Op1.plain rfl ?_
      obtain ⟨s, hv, hs, hsz, hrd⟩ := h11
      rw [hv] at e11
      have hq := (Mem.Keeps.refl (fun _ => False) w).drew.trans (Reg.Wr.none hR (by decide +kernel) (by decide +kernel) (by decide +kernel)) (fun _ h _ => h)
      have hrd' := hrd.keepsAt (Reg.Wr.none r11 (by decide +kernel) (by decide +kernel) (by decide +kernel)) hsz (fun _ _ h => h)
      have hn := Pass.numbers HP.out hq hs [off, off + 1] 2 HF.out (by simpa using hL) (fun k hk => by rcases List.mem_cons.1 hk with h | h; (rw [h]; exact HV.out 0 (by omega)); (rw [List.mem_singleton] at h; rw [h]; exact HV.out 1 (by omega))) hg HA.out hgw hrd'
      go_wp2_with fail
      refine hn.mono ?_
      rintro x w' ⟨rfl, hp, hk9⟩
      go_wp2_with fail
      exact ⟨rfl, hK _ _ ⟨rfl, hp⟩ (Reg.Wr.does1 hk9)⟩
  · intro val u hR H
    obtain ⟨wb, ⟨_, hp⟩, rb⟩ := H 8 (by decide)
    have hk9 := Reg.Wr.none rb (by decide +kernel) (by decide +kernel) (by decide +kernel)
    have HPP : Hid (Pass w0 g A t n gm ([off, off + 1].foldl stepN r) u) := by
      obtain ⟨A2, cap2, h1, h2, h3, h4⟩ := hp.out
      exact ⟨⟨A2, cap2, h1.keeps hk9 (fun _ _ h => h), h2.keeps hk9 id, h3.trans hk9 (fun _ h _ => h.elim), h4⟩, fun hr => (hp.rd hr).trans hk9 (fun _ h _ => h.elim)⟩
    simp only [List.map_cons, List.map_nil, Reg.lay, Act.put, List.setIfInBounds_toArray, List.set_cons_succ, List.set_cons_zero, Nat.reduceAdd]
    clear hR H rb hp hk9
    go_wp2
    first | go_end0 | ((try simp only [Exit.inBlock, Exit.then]); refine bodyPost_ret (results_none rfl _ _ _) rfl ?_)
    exact ⟨rfl, HPP.out⟩
open Wi in
set_option maxRecDepth 8000 in
set_option maxHeartbeats 4000000 in
theorem address_pass {w w0 : World} {g : Nat} {A : Option Addr} {t : TypeId} {n gm : Nat} {r : Wi.Cd × List Value} {L off : Nat} (h : Wi.Pass w0 g A t n gm r w) (hf : Wi.Fit r.1 L) (hL : L + 36 ≤ 1000000000) (hv : ∀ j, j < 4 → Wi.IsInt r.2 (off + j)) (hg : gm ≠ g) (ha : Mem.blk A ≠ some gm) (hgw : gm < w0.heap.size) :
    Calls Try.prog 55 #[.pointer (some ⟨g, 0, none⟩), .pointer (some ⟨gm, off, none⟩)] w fun x w' => x = .returned (.tuple #[]) ∧ Wi.Pass w0 g A t n gm (Wi.foldR r off 4) w' := by
  have HP := Lib.hid h
  have HV := Lib.hid hv
  have HF := Lib.hid hf
  have HA := Lib.hid ha
  clear h hv hf ha
  have hks : foldR r off 4 = [off, off + 1, off + 2, off + 3].foldl stepN r := rfl
  rw [hks]
  clear hks
  go_enter Try.func55, Try.ntmps55
  go_upto_region 0 with fail
  refine Reg.wp_region_w (by kernel_rfl) 19 15 rfl rfl (by kernel_rfl) (14) (fun _ => True) (14) (fun _ => False) (14) (fun _ => False)
    (fun i v u => match i with
      | 0 => v = .pointer (some ⟨g, 0, none⟩)
      | 1 => v = .pointer (some ⟨gm, off, none⟩)
      | 2 => v = .pointer (some ⟨gm, off, none⟩)
      | 3 => v = .pointer (some ⟨gm, off, none⟩)
      | 4 => v = .pointer (some ⟨gm, off, none⟩)
      | 5 => v = .pointer (some ⟨gm, off, none⟩)
      | 6 => v = .pointer (some ⟨gm, off + 1, none⟩)
      | 7 => v = .pointer (some ⟨gm, off, none⟩)
      | 8 => v = .pointer (some ⟨gm, off, none⟩)
      | 9 => v = .pointer (some ⟨gm, off + 2, none⟩)
      | 10 => v = .pointer (some ⟨gm, off, none⟩)
      | 11 => v = .pointer (some ⟨gm, off, none⟩)
      | 12 => v = .pointer (some ⟨gm, off + 3, none⟩)
      | 13 => ∃ s, v = .slice (some ⟨s, 0, none⟩) 4 4 ∧ w.heap.size ≤ s ∧ s + 1 ≤ u.heap.size ∧ Mem.Rd u (s + 1) (some ⟨s, 0, none⟩) [ptrV gm off, ptrV gm (off + 1), ptrV gm (off + 2), ptrV gm (off + 3)]
      | 14 => v = .tuple #[] ∧ Pass w0 g A t n gm ([off, off + 1, off + 2, off + 3].foldl stepN r) u
      | _ => True) ?_ ?_
  · refine Reg.Steps.cons ?_ (Reg.Steps.cons ?_ (Reg.Steps.cons ?_ (Reg.Steps.cons ?_ (Reg.Steps.cons ?_ (Reg.Steps.cons ?_ (Reg.Steps.cons ?_ (Reg.Steps.cons ?_ (Reg.Steps.cons ?_ (Reg.Steps.cons ?_ (Reg.Steps.cons ?_ (Reg.Steps.cons ?_ (Reg.Steps.cons ?_ (Reg.Steps.cons ?_ (Reg.Steps.cons ?_ (Reg.Steps.nil _)))))))))))))))
    · intro val ac u hR hp ha K hK      -- 0: t4 := Op.move t0
      have e0 : (ac.tmps[0]?).getD undef = .pointer (some ⟨g, 0, none⟩) := ha 0 (by decide)
      clear ha hp
      refine Reg.Op1.plain rfl ?_
      go_wp2
      exact ⟨rfl, hK _ _ rfl (Reg.Wr.same _)⟩
    · intro val ac u hR hp ha K hK      -- 1: t5 := Op.move t1
      have e1 : (ac.tmps[1]?).getD undef = .pointer (some ⟨gm, off, none⟩) := ha 1 (by decide)
      clear ha hp
      refine Reg.Op1.plain rfl ?_
      go_wp2
      exact ⟨rfl, hK _ _ rfl (Reg.Wr.same _)⟩
    · intro val ac u hR hp ha K hK      -- 2: t6 := Op.nilCheck t5
      obtain ⟨w5, h5, r5⟩ := hp 1 (by decide)
      have e5 : (ac.tmps[5]?).getD undef = .pointer (some ⟨gm, off, none⟩) := (ha 5 (by decide)).trans h5
      clear h5
      clear ha hp
      refine Reg.Op1.plain rfl ?_
      go_wp2
      exact ⟨rfl, hK _ _ rfl (Reg.Wr.same _)⟩
    · intro val ac u hR hp ha K hK      -- 3: t7 := Op.fieldAddr 52 t6 0
      obtain ⟨w6, h6, r6⟩ := hp 2 (by decide)
      have e6 : (ac.tmps[6]?).getD undef = .pointer (some ⟨gm, off, none⟩) := (ha 6 (by decide)).trans h6
      clear h6
      clear ha hp
      refine Reg.Op1.plain rfl ?_
      go_wp2
      exact ⟨rfl, hK _ _ rfl (Reg.Wr.same _)⟩
    · intro val ac u hR hp ha K hK      -- 4: t8 := Op.move t1
      have e1 : (ac.tmps[1]?).getD undef = .pointer (some ⟨gm, off, none⟩) := ha 1 (by decide)
      clear ha hp
      refine Reg.Op1.plain rfl ?_
      go_wp2
      exact ⟨rfl, hK _ _ rfl (Reg.Wr.same _)⟩
    · intro val ac u hR hp ha K hK      -- 5: t9 := Op.nilCheck t8
      obtain ⟨w8, h8, r8⟩ := hp 4 (by decide)
      have e8 : (ac.tmps[8]?).getD undef = .pointer (some ⟨gm, off, none⟩) := (ha 8 (by decide)).trans h8
      clear h8
      clear ha hp
      refine Reg.Op1.plain rfl ?_
      go_wp2
      exact ⟨rfl, hK _ _ rfl (Reg.Wr.same _)⟩
    · intro val ac u hR hp ha K hK      -- 6: t10 := Op.fieldAddr 52 t9 1
      obtain ⟨w9, h9, r9⟩ := hp 5 (by decide)
      have e9 : (ac.tmps[9]?).getD undef = .pointer (some ⟨gm, off, none⟩) := (ha 9 (by decide)).trans h9
      clear h9
      clear ha hp
      refine Reg.Op1.plain rfl ?_
      go_wp2
      exact ⟨rfl, hK _ _ rfl (Reg.Wr.same _)⟩
    · intro val ac u hR hp ha K hK      -- 7: t11 := Op.move t1
      have e1 : (ac.tmps[1]?).getD undef = .pointer (some ⟨gm, off, none⟩) := ha 1 (by decide)
      clear ha hp
      refine Reg.Op1.plain rfl ?_
      go_wp2
      exact ⟨rfl, hK _ _ rfl (Reg.Wr.same _)⟩
    · intro val ac u hR hp ha K hK      -- 8: t12 := Op.nilCheck t11
      obtain ⟨w11, h11, r11⟩ := hp 7 (by decide)
      have e11 : (ac.tmps[11]?).getD undef = .pointer (some ⟨gm, off, none⟩) := (ha 11 (by decide)).trans h11
      clear h11
      clear ha hp
      refine Reg.Op1.plain rfl ?_
      go_wp2
      exact ⟨rfl, hK _ _ rfl (Reg.Wr.same _)⟩
    · intro val ac u hR hp ha K hK      -- 9: t13 := Op.fieldAddr 52 t12 2
      obtain ⟨w12, h12, r12⟩ := hp 8 (by decide)
      have e12 : (ac.tmps[12]?).getD undef = .pointer (some ⟨gm, off, none⟩) := (ha 12 (by decide)).trans h12
      clear h12
      clear ha hp
      refine Reg.Op1.plain rfl ?_
      go_wp2
      exact ⟨rfl, hK _ _ rfl (Reg.Wr.same _)⟩
    · intro val ac u hR hp ha K hK      -- 10: t14 := Op.move t1
      have e1 : (ac.tmps[1]?).getD undef = .pointer (some ⟨gm, off, none⟩) := ha 1 (by decide)
      clear ha hp
      refine Reg.Op1.plain rfl ?_
      go_wp2
      exact ⟨rfl, hK _ _ rfl (Reg.Wr.same _)⟩
    · intro val ac u hR hp ha K hK      -- 11: t15 := Op.nilCheck t14
      obtain ⟨w14, h14, r14⟩ := hp 10 (by decide)
      have e14 : (ac.tmps[14]?).getD undef = .pointer (some ⟨gm, off, none⟩) := (ha 14 (by decide)).trans h14
      clear h14
      clear ha hp
      refine Reg.Op1.plain rfl ?_
      go_wp2
      exact ⟨rfl, hK _ _ rfl (Reg.Wr.same _)⟩
    · intro val ac u hR hp ha K hK      -- 12: t16 := Op.fieldAddr 52 t15 3
      obtain ⟨w15, h15, r15⟩ := hp 11 (by decide)
      have e15 : (ac.tmps[15]?).getD undef = .pointer (some ⟨gm, off, none⟩) := (ha 15 (by decide)).trans h15
      clear h15
      clear ha hp
      refine Reg.Op1.plain rfl ?_
      go_wp2
      exact ⟨rfl, hK _ _ rfl (Reg.Wr.same _)⟩
    · intro val ac u hR hp ha K hK      -- 13: t17 := Op.buildSlice 127 4 #[(0, t7), (1, t10), (2, t13), (3, t16)]
      obtain ⟨w7, h7, r7⟩ := hp 3 (by decide)
      have e7 : (ac.tmps[7]?).getD undef = .pointer (some ⟨gm, off, none⟩) := (ha 7 (by decide)).trans h7
      clear h7
      obtain ⟨w10, h10, r10⟩ := hp 6 (by decide)
      have e10 : (ac.tmps[10]?).getD undef = .pointer (some ⟨gm, off + 1, none⟩) := (ha 10 (by decide)).trans h10
      clear h10
      obtain ⟨w13, h13, r13⟩ := hp 9 (by decide)
      have e13 : (ac.tmps[13]?).getD undef = .pointer (some ⟨gm, off + 2, none⟩) := (ha 13 (by decide)).trans h13
      clear h13
      obtain ⟨w16, h16, r16⟩ := hp 12 (by decide)
      have e16 : (ac.tmps[16]?).getD undef = .pointer (some ⟨gm, off + 3, none⟩) := (ha 16 (by decide)).trans h16
      clear h16
      clear ha hp
      refine Reg.Op1.plain rfl ?_
      have hq := (Mem.Keeps.refl (fun _ => False) w).drew.trans (Reg.Wr.none hR (by decide +kernel) (by decide +kernel) (by decide +kernel)) (fun _ h _ => h)
      go_wp2
      exact ⟨rfl, hK _ _ ⟨u.heap.size, rfl, hq.size, by simp, Mem.Rd.alloc_new u _ _ _ rfl⟩ (Reg.Wr.quiet ((Mem.Keeps.refl _ u).alloc _))⟩
    · intro val ac u hR hp ha K hK      -- 14: t18 := Op.call { value (Operand.func 56), args := #[t4, t17], argTypes := #[65, 127] }
      obtain ⟨w4, h4, r4⟩ := hp 0 (by decide)
      have e4 : (ac.tmps[4]?).getD undef = .pointer (some ⟨g, 0, none⟩) := (ha 4 (by decide)).trans h4
      clear h4
      obtain ⟨w17, h17, r17⟩ := hp 13 (by decide)
      have e17 : (ac.tmps[17]?).getD undef = val 13 := ha 17 (by decide)
      clear ha hp
      refine Reg.Op1.plain rfl ?_
      obtain ⟨s, hv, hs, hsz, hrd⟩ := h17
      rw [hv] at e17
      have hq := (Mem.Keeps.refl (fun _ => False) w).drew.trans (Reg.Wr.none hR (by decide +kernel) (by decide +kernel) (by decide +kernel)) (fun _ h _ => h)
      have hrd' := hrd.keepsAt (Reg.Wr.none r17 (by decide +kernel) (by decide +kernel) (by decide +kernel)) hsz (fun _ _ h => h)
      have hn := Pass.numbers HP.out hq hs [off, off + 1, off + 2, off + 3] 4 HF.out (by simpa using hL) (fun k hk => by simp at hk; rcases hk with h | h | h | h; (rw [h]; exact HV.out 0 (by omega)); (rw [h]; exact HV.out 1 (by omega)); (rw [h]; exact HV.out 2 (by omega)); (rw [h]; exact HV.out 3 (by omega))) hg HA.out hgw hrd'
      go_wp2_with fail
      refine hn.mono ?_
      rintro x w' ⟨rfl, hp, hk9⟩
      go_wp2_with fail
      exact ⟨rfl, hK _ _ ⟨rfl, hp⟩ (Reg.Wr.does1 hk9)⟩
  · intro val u hR H
    obtain ⟨wb, ⟨_, hp⟩, rb⟩ := H 14 (by decide)
    have hk9 := Reg.Wr.none rb (by decide +kernel) (by decide +kernel) (by decide +kernel)
    have HPP : Hid (Pass w0 g A t n gm ([off, off + 1, off + 2, off + 3].foldl stepN r) u) := by
      obtain ⟨A2, cap2, h1, h2, h3, h4⟩ := hp.out
      exact ⟨⟨A2, cap2, h1.keeps hk9 (fun _ _ h => h), h2.keeps hk9 id, h3.trans hk9 (fun _ h _ => h.elim), h4⟩, fun hr => (hp.rd hr).trans hk9 (fun _ h _ => h.elim)⟩
    simp only [List.map_cons, List.map_nil, Reg.lay, Act.put, List.setIfInBounds_toArray, List.set_cons_succ, List.set_cons_zero, Nat.reduceAdd]
    clear hR H rb hp hk9
    go_wp2
    first | go_end0 | ((try simp only [Exit.inBlock, Exit.then]); refine bodyPost_ret (results_none rfl _ _ _) rfl ?_)
    exact ⟨rfl, HPP.out⟩
end Go.Proofs.Ytkfgedgjpgehoaa
