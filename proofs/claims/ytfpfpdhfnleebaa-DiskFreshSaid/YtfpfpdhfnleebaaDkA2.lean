/- One act at a disk and at the document's disk. No conditions but that they are no great ones. -/
import Derived.Test.YtfpfpdhfnleebaaDkA1
set_option maxRecDepth 8000
namespace Go.Proofs.Ytfpfpdhfnleebaa
open Go.ChangeShapes Go.WideShapes Go.ChangeAt Go.RowKit
set_option linter.unusedVariables false
set_option linter.unusedSimpArgs false
namespace Dq
def Fr (W : World) (R : Nat → Prop) (bx : Nat) (q : Nat) : Prop := W.heap.size ≤ q ∧ ¬ (R q ∨ q = bx)
theorem not_fr {W : World} {R : Nat → Prop} {bx : Nat} : ¬ (Fr W R bx bx ∨ Fr W R bx bx ∨ False) := by
  rintro (h | h | h)
  · exact h.2 (.inr rfl)
  · exact h.2 (.inr rfl)
  · exact h
def Fq (W : World) (R : Nat → Prop) (bx bX : Nat) (q : Nat) : Prop := W.heap.size ≤ q ∧ ¬ ((R q ∨ q = bx) ∨ Mem.blk (some (⟨bX, 0, none⟩ : Addr)) = some q)
theorem not_fq {W : World} {R : Nat → Prop} {bx bX : Nat} : ¬ (Fq W R bx bX bx ∨ False ∨ False) := by
  rintro (h | h | h)
  · exact h.2 (.inl (.inr rfl))
  · exact h
  · exact h
structure WipeRel (w : World) (bX oX cX nb : Nat) (v : Value) (wr : World) : Prop where
  out : ∃ (k : Nat) (ys : List Value), k ≤ nb + 1 ∧ v = .int .i64 k ∧ Hid (Mem.Own wr 5 1 (some ⟨bX, oX, none⟩) (nb + 1) cX ys) ∧ Hid (Mem.Keeps (fun q => q = bX) w wr)
theorem act_1 {d : Dk.D} {a : Ac} (h : a.kind = 1) : actD d a = Dk.appD d a.file a.bs := by unfold actD; rw [if_pos h]
theorem act_2 {d : Dk.D} {a : Ac} (h : a.kind = 2) : actD d a = Dk.syncD d a.file := by unfold actD; rw [if_neg (by omega), if_pos h]
theorem act_3 {d : Dk.D} {a : Ac} (h : a.kind = 3) : actD d a = Dk.truD d a.file a.n := by unfold actD; rw [if_neg (by omega), if_neg (by omega), if_pos h]
theorem act_4 {d : Dk.D} {a : Ac} (h : a.kind = 4) : actD d a = Dk.removeD d a.file := by unfold actD; rw [if_neg (by omega), if_neg (by omega), if_neg (by omega), if_pos h]
theorem act_5 {d : Dk.D} {a : Ac} (h : a.kind = 5) : actD d a = Dk.crashD d a.n := by unfold actD; rw [if_neg (by omega), if_neg (by omega), if_neg (by omega), if_neg (by omega), if_pos h]
theorem act_0 {d : Dk.D} {a : Ac} (h1 : a.kind ≠ 1) (h2 : a.kind ≠ 2) (h3 : a.kind ≠ 3) (h4 : a.kind ≠ 4) (h5 : a.kind ≠ 5) : actD d a = d := by unfold actD; rw [if_neg h1, if_neg h2, if_neg h3, if_neg h4, if_neg h5]
end Dq
open Dq in
set_option maxHeartbeats 4000000 in
theorem dkAct_any {W w : World} {R : Nat → Prop} {gd gm : Nat} {d : Dk.D} {q : Df.Q} {P : List (Nat × Int)} {K : Nat} (h : Dq.Ms W R [(gd, .inl d), (gm, .inr q)] w) (hok : Dk.Ok d K) (hKK : K ≤ 99999) (hrel : Dq.Rel d q P) (ht : q.time ≤ 100000000) (a : Dq.Ac) (ha : Dq.AcOk w W.heap.size a) (hbs : a.bs.length ≤ 100000) :
    Calls Try.prog 23 #[.pointer (some ⟨gd, 0, none⟩), .pointer (some ⟨gm, 0, none⟩), .agg (Dq.acCells a).toArray] w fun x w' => x = .returned (.bool true) ∧ ∃ q', Dq.Nxt q (Dq.actD d a) a.bs.length q' ∧ Dq.Ms W R [(gd, .inl (Dq.actD d a)), (gm, .inr q')] w' := by
  obtain ⟨hard, hac, hacm, hki, hfi, hni, _⟩ := ha
  have HRD := Lib.hid hard
  have HOK := Lib.hid hok
  have HREL := Lib.hid hrel
  have HB0 := Reg.below_new (w := w) (.cells (Dq.acCells a).toArray 47)
  have hM1 := h.more standsB HB0 (R' := fun k => k = w.heap.size) (fun k hk => by subst hk; simp)
  have HM1 := Lib.hid hM1
  have hx : Mem.Bx (w.alloc (.cells (Dq.acCells a).toArray 47)) 47 4 w.heap.size (Dq.acCells a) := Mem.Bx.new w 47 (Dq.acCells a).toArray rfl rfl
  have HX1 := Lib.hid hx
  have HRD1 := Lib.hid (hard.below (HB0.mono h.bel.size))
  unfold Dq.acCells
  clear h hok hrel hard hM1 hx HB0
  go_enter Try.func23, Try.ntmps23
  go_upto_region 1 with fail
  obtain ⟨bx, hbx⟩ : ∃ bx, w.heap.size = bx := ⟨_, rfl⟩
  obtain ⟨w1, hw1⟩ : ∃ w1, w.alloc (.cells #[.int .i64 a.kind, .int .i64 a.file, .int .i64 a.n, .slice a.B a.bs.length a.c] 47) = w1 := ⟨_, rfl⟩
  have HM : Hid (Ms W (fun k => R k ∨ k = bx) [(gd, .inl d), (gm, .inr q)] w1) := by show Mem.Many _ _ _ _ _; rw [← hw1, ← hbx]; exact HM1.out
  have HX : Hid (Mem.Bx w1 47 4 bx (acCells a)) := by show Mem.Bx _ _ _ _ _; rw [← hw1, ← hbx]; exact HX1.out
  have HRX : Hid (Mem.Rd w1 W.heap.size a.B (a.bs.map Mem.byteV)) := by show Mem.Rd _ _ _ _; rw [← hw1]; exact HRD1.out
  try rw [hbx]
  try rw [hw1]
  clear HM1 HX1 HRD1 hw1 hbx HRD
  have y0 : w1.cell? ⟨bx, 0, none⟩ = some (.int .i64 a.kind) := HX.out.cell (j := 0) rfl
  have y1 : w1.cell? ⟨bx, 1, none⟩ = some (.int .i64 a.file) := HX.out.cell (j := 1) rfl
  have y2 : w1.cell? ⟨bx, 2, none⟩ = some (.int .i64 a.n) := HX.out.cell (j := 2) rfl
  have y3 : w1.cell? ⟨bx, 3, none⟩ = some (.slice a.B a.bs.length a.c) := HX.out.cell (j := 3) rfl
  have hbl : bx < w1.heap.size := HX.out.lt
  by_cases k2 : a.kind = 2
  · have HACT := Lib.hid (act_2 (d := d) k2)
    rw [k2] at y0
    go_upto_region 12 with fail
    refine Reg.wp_region_w (by kernel_rfl) 117 10 rfl rfl (by kernel_rfl) (3) (Fr W R bx) (7) (Fr W R bx) (3) (fun _ => False)
      (fun i v u => match i with
        | 0 => v = .pointer (some ⟨gd, 0, none⟩)
        | 1 => v = .pointer (some ⟨bx, 1, none⟩)
        | 2 => v = .int .i64 a.file
        | 3 => v = .int .i64 (Dk.there d a.file) ∧ Ms W (fun k => R k ∨ k = bx) [(gd, .inl (Dk.syncD d a.file)), (gm, .inr q)] u
        | 4 => v = .pointer (some ⟨gm, 0, none⟩)
        | 5 => v = .pointer (some ⟨bx, 1, none⟩)
        | 6 => v = .int .i64 a.file
        | 7 => v = .int .i64 (Dk.there d a.file) ∧ ∃ q', Nxt q (Dk.syncD d a.file) 0 q' ∧ Ms W (fun k => R k ∨ k = bx) [(gd, .inl (Dk.syncD d a.file)), (gm, .inr q')] u
        | 8 => v = .bool true
        | 9 => v = .bool true
        | _ => True) ?_ ?_
    · refine Reg.Steps.cons ?_ (Reg.Steps.cons ?_ (Reg.Steps.cons ?_ (Reg.Steps.cons ?_ (Reg.Steps.cons ?_ (Reg.Steps.cons ?_ (Reg.Steps.cons ?_ (Reg.Steps.cons ?_ (Reg.Steps.cons ?_ (Reg.Steps.cons ?_ (Reg.Steps.nil _))))))))))
      · intro val ac u hR hp ha K hK      -- 0: t71 := Op.move t0
        have e0 : (ac.tmps[0]?).getD undef = .pointer (some ⟨gd, 0, none⟩) := ha 0 (by decide)
        clear ha hp
        refine Reg.Op1.plain rfl ?_
        go_wp2
        exact ⟨rfl, hK _ _ rfl (Reg.Wr.same _)⟩
      · intro val ac u hR hp ha K hK      -- 1: t72 := Op.fieldAddr 47 t5 1
        have e5 : (ac.tmps[5]?).getD undef = .pointer (some ⟨bx, 0, none⟩) := ha 5 (by decide)
        clear ha hp
        refine Reg.Op1.plain rfl ?_
        go_wp2
        exact ⟨rfl, hK _ _ rfl (Reg.Wr.same _)⟩
      · intro val ac u hR hp ha K hK      -- 2: t73 := Op.load 3 t72
        obtain ⟨w72, h72, r72⟩ := hp 1 (by decide)
        have e72 : (ac.tmps[72]?).getD undef = .pointer (some ⟨bx, 1, none⟩) := (ha 72 (by decide)).trans h72
        clear h72
        clear ha hp
        refine Reg.Op1.plain rfl ?_
        have x0 := (((Reg.Wr.all hR)).cell (p := ⟨bx, 1, none⟩) (hbl) (not_fr)).trans (y1)
        go_wp2
        exact ⟨rfl, hK _ _ rfl (Reg.Wr.same _)⟩
      · intro val ac u hR hp ha K hK      -- 3: t74 := Op.call { value (Operand.func 21), args := #[t71, t73], argTypes := #[25, 3] }
        obtain ⟨w71, h71, r71⟩ := hp 0 (by decide)
        have e71 : (ac.tmps[71]?).getD undef = .pointer (some ⟨gd, 0, none⟩) := (ha 71 (by decide)).trans h71
        clear h71
        obtain ⟨w73, h73, r73⟩ := hp 2 (by decide)
        have e73 : (ac.tmps[73]?).getD undef = .int .i64 a.file := (ha 73 (by decide)).trans h73
        clear h73
        clear ha hp
        refine Reg.Op1.plain rfl ?_
        have hM := HM.out.keeps standsB ((Mem.Keeps.refl (fun _ => False) w1).drew.trans (Reg.Wr.none hR (by decide +kernel) (by decide +kernel) (by decide +kernel)) (fun _ h _ => h)) (fun _ h _ => h.elim)
        have hp := sync_d hM (i := 0) rfl HOK.out (by omega) hfi
        go_wp2_with fail
        refine hp.mono ?_
        rintro x w' ⟨rfl, hM', hk'⟩
        go_wp2_with fail
        exact ⟨rfl, hK _ _ ⟨rfl, hM'⟩ (Reg.Wr.does1 hk')⟩
      · intro val ac u hR hp ha K hK      -- 4: t75 := Op.move t1
        have e1 : (ac.tmps[1]?).getD undef = .pointer (some ⟨gm, 0, none⟩) := ha 1 (by decide)
        clear ha hp
        refine Reg.Op1.plain rfl ?_
        go_wp2
        exact ⟨rfl, hK _ _ rfl (Reg.Wr.same _)⟩
      · intro val ac u hR hp ha K hK      -- 5: t76 := Op.fieldAddr 47 t5 1
        have e5 : (ac.tmps[5]?).getD undef = .pointer (some ⟨bx, 0, none⟩) := ha 5 (by decide)
        clear ha hp
        refine Reg.Op1.plain rfl ?_
        go_wp2
        exact ⟨rfl, hK _ _ rfl (Reg.Wr.same _)⟩
      · intro val ac u hR hp ha K hK      -- 6: t77 := Op.load 3 t76
        obtain ⟨w76, h76, r76⟩ := hp 5 (by decide)
        have e76 : (ac.tmps[76]?).getD undef = .pointer (some ⟨bx, 1, none⟩) := (ha 76 (by decide)).trans h76
        clear h76
        clear ha hp
        refine Reg.Op1.plain rfl ?_
        have x0 := (((Reg.Wr.all hR)).cell (p := ⟨bx, 1, none⟩) (hbl) (not_fr)).trans (y1)
        go_wp2
        exact ⟨rfl, hK _ _ rfl (Reg.Wr.same _)⟩
      · intro val ac u hR hp ha K hK      -- 7: t78 := Op.call { value (Operand.func 32), args := #[t75, t77], argTypes := #[43, 3] }
        obtain ⟨w75, h75, r75⟩ := hp 4 (by decide)
        have e75 : (ac.tmps[75]?).getD undef = .pointer (some ⟨gm, 0, none⟩) := (ha 75 (by decide)).trans h75
        clear h75
        obtain ⟨w77, h77, r77⟩ := hp 6 (by decide)
        have e77 : (ac.tmps[77]?).getD undef = .int .i64 a.file := (ha 77 (by decide)).trans h77
        clear h77
        obtain ⟨w74, h74, r74⟩ := hp 3 (by decide)
        clear ha hp
        refine Reg.Op1.plain rfl ?_
        obtain ⟨_, hM0⟩ := h74
        have hM := hM0.keeps standsB (Reg.Wr.none r74 (by decide +kernel) (by decide +kernel) (by decide +kernel)) (fun _ h _ => h.elim)
        have hp := sync_q hM (i := 1) rfl HREL.out HOK.out a.file
        go_wp2_with fail
        refine hp.mono ?_
        rintro x w' ⟨q', hn', rfl, hM', hk'⟩
        go_wp2_with fail
        exact ⟨rfl, hK _ _ ⟨rfl, q', hn', hM'⟩ (Reg.Wr.does2 hk')⟩
      · intro val ac u hR hp ha K hK      -- 8: t79 := Op.binOp BinOp.eql 3 t74 t78 3
        obtain ⟨w74, h74, r74⟩ := hp 3 (by decide)
        have e74 : (ac.tmps[74]?).getD undef = val 3 := ha 74 (by decide)
        obtain ⟨w78, h78, r78⟩ := hp 7 (by decide)
        have e78 : (ac.tmps[78]?).getD undef = val 7 := ha 78 (by decide)
        clear ha hp
        refine Reg.Op1.plain rfl ?_
        obtain ⟨hv1, _⟩ := h74
        obtain ⟨hv2, _⟩ := h78
        rw [hv1] at e74
        rw [hv2] at e78
        clear hv1 hv2
        go_wp2
        exact ⟨rfl, hK _ _ (by simp) (Reg.Wr.same _)⟩
      · intro val ac u hR hp ha K hK      -- 9: t6 := Op.assign t79
        obtain ⟨w79, h79, r79⟩ := hp 8 (by decide)
        have e79 : (ac.tmps[79]?).getD undef = .bool true := (ha 79 (by decide)).trans h79
        clear h79
        clear ha hp
        refine Reg.Op1.plain rfl ?_
        go_wp2
        exact ⟨rfl, hK _ _ rfl (Reg.Wr.same _)⟩
    intro val u hR H
    obtain ⟨w7, ⟨_, q', hn', hM7⟩, r7⟩ := H 7 (by decide)
    have hM8 := hM7.keeps standsB (Reg.Wr.none r7 (by decide +kernel) (by decide +kernel) (by decide +kernel)) (fun _ h _ => h.elim)
    have HM8 := Lib.hid (hM8.less (R' := R) (fun _ h => .inl h))
    have HN8 := Lib.hid hn'
    obtain ⟨_, hv9, _⟩ := H 9 (by decide)
    simp only [List.map_cons, List.map_nil, Reg.lay, Act.put, List.setIfInBounds_toArray, List.set_cons_succ, List.set_cons_zero, Nat.reduceAdd]
    rw [hv9]
    clear hM7 hM8 r7 hR H hn' hv9
    go_wp2
    go_ret
    exact ⟨rfl, q', by rw [HACT.out]; exact ⟨HN8.out.1, Nat.le_trans HN8.out.2 (by omega)⟩, by rw [HACT.out]; exact HM8.out⟩
  by_cases k4 : a.kind = 4
  · have HACT := Lib.hid (act_4 (d := d) k4)
    rw [k4] at y0
    go_upto_region 16 with fail
    refine Reg.wp_region_w (by kernel_rfl) 117 10 rfl rfl (by kernel_rfl) (3) (Fr W R bx) (7) (Fr W R bx) (3) (fun _ => False)
      (fun i v u => match i with
        | 0 => v = .pointer (some ⟨gd, 0, none⟩)
        | 1 => v = .pointer (some ⟨bx, 1, none⟩)
        | 2 => v = .int .i64 a.file
        | 3 => v = .int .i64 (Dk.there d a.file) ∧ Ms W (fun k => R k ∨ k = bx) [(gd, .inl (Dk.removeD d a.file)), (gm, .inr q)] u
        | 4 => v = .pointer (some ⟨gm, 0, none⟩)
        | 5 => v = .pointer (some ⟨bx, 1, none⟩)
        | 6 => v = .int .i64 a.file
        | 7 => v = .int .i64 (Dk.there d a.file) ∧ ∃ q', Nxt q (Dk.removeD d a.file) 0 q' ∧ Ms W (fun k => R k ∨ k = bx) [(gd, .inl (Dk.removeD d a.file)), (gm, .inr q')] u
        | 8 => v = .bool true
        | 9 => v = .bool true
        | _ => True) ?_ ?_
    · refine Reg.Steps.cons ?_ (Reg.Steps.cons ?_ (Reg.Steps.cons ?_ (Reg.Steps.cons ?_ (Reg.Steps.cons ?_ (Reg.Steps.cons ?_ (Reg.Steps.cons ?_ (Reg.Steps.cons ?_ (Reg.Steps.cons ?_ (Reg.Steps.cons ?_ (Reg.Steps.nil _))))))))))
      · intro val ac u hR hp ha K hK      -- 0: t97 := Op.move t0
        have e0 : (ac.tmps[0]?).getD undef = .pointer (some ⟨gd, 0, none⟩) := ha 0 (by decide)
        clear ha hp
        refine Reg.Op1.plain rfl ?_
        go_wp2
        exact ⟨rfl, hK _ _ rfl (Reg.Wr.same _)⟩
      · intro val ac u hR hp ha K hK      -- 1: t98 := Op.fieldAddr 47 t5 1
        have e5 : (ac.tmps[5]?).getD undef = .pointer (some ⟨bx, 0, none⟩) := ha 5 (by decide)
        clear ha hp
        refine Reg.Op1.plain rfl ?_
        go_wp2
        exact ⟨rfl, hK _ _ rfl (Reg.Wr.same _)⟩
      · intro val ac u hR hp ha K hK      -- 2: t99 := Op.load 3 t98
        obtain ⟨w98, h98, r98⟩ := hp 1 (by decide)
        have e98 : (ac.tmps[98]?).getD undef = .pointer (some ⟨bx, 1, none⟩) := (ha 98 (by decide)).trans h98
        clear h98
        clear ha hp
        refine Reg.Op1.plain rfl ?_
        have x0 := (((Reg.Wr.all hR)).cell (p := ⟨bx, 1, none⟩) (hbl) (not_fr)).trans (y1)
        go_wp2
        exact ⟨rfl, hK _ _ rfl (Reg.Wr.same _)⟩
      · intro val ac u hR hp ha K hK      -- 3: t100 := Op.call { value (Operand.func 26), args := #[t97, t99], argTypes := #[25, 3] }
        obtain ⟨w97, h97, r97⟩ := hp 0 (by decide)
        have e97 : (ac.tmps[97]?).getD undef = .pointer (some ⟨gd, 0, none⟩) := (ha 97 (by decide)).trans h97
        clear h97
        obtain ⟨w99, h99, r99⟩ := hp 2 (by decide)
        have e99 : (ac.tmps[99]?).getD undef = .int .i64 a.file := (ha 99 (by decide)).trans h99
        clear h99
        clear ha hp
        refine Reg.Op1.plain rfl ?_
        have hM := HM.out.keeps standsB ((Mem.Keeps.refl (fun _ => False) w1).drew.trans (Reg.Wr.none hR (by decide +kernel) (by decide +kernel) (by decide +kernel)) (fun _ h _ => h)) (fun _ h _ => h.elim)
        have hp := remove_d hM (i := 0) rfl HOK.out (by omega) hfi
        go_wp2_with fail
        refine hp.mono ?_
        rintro x w' ⟨rfl, hM', hk'⟩
        go_wp2_with fail
        exact ⟨rfl, hK _ _ ⟨rfl, hM'⟩ (Reg.Wr.does1 hk')⟩
      · intro val ac u hR hp ha K hK      -- 4: t101 := Op.move t1
        have e1 : (ac.tmps[1]?).getD undef = .pointer (some ⟨gm, 0, none⟩) := ha 1 (by decide)
        clear ha hp
        refine Reg.Op1.plain rfl ?_
        go_wp2
        exact ⟨rfl, hK _ _ rfl (Reg.Wr.same _)⟩
      · intro val ac u hR hp ha K hK      -- 5: t102 := Op.fieldAddr 47 t5 1
        have e5 : (ac.tmps[5]?).getD undef = .pointer (some ⟨bx, 0, none⟩) := ha 5 (by decide)
        clear ha hp
        refine Reg.Op1.plain rfl ?_
        go_wp2
        exact ⟨rfl, hK _ _ rfl (Reg.Wr.same _)⟩
      · intro val ac u hR hp ha K hK      -- 6: t103 := Op.load 3 t102
        obtain ⟨w102, h102, r102⟩ := hp 5 (by decide)
        have e102 : (ac.tmps[102]?).getD undef = .pointer (some ⟨bx, 1, none⟩) := (ha 102 (by decide)).trans h102
        clear h102
        clear ha hp
        refine Reg.Op1.plain rfl ?_
        have x0 := (((Reg.Wr.all hR)).cell (p := ⟨bx, 1, none⟩) (hbl) (not_fr)).trans (y1)
        go_wp2
        exact ⟨rfl, hK _ _ rfl (Reg.Wr.same _)⟩
      · intro val ac u hR hp ha K hK      -- 7: t104 := Op.call { value (Operand.func 34), args := #[t101, t103], argTypes := #[43, 3] }
        obtain ⟨w101, h101, r101⟩ := hp 4 (by decide)
        have e101 : (ac.tmps[101]?).getD undef = .pointer (some ⟨gm, 0, none⟩) := (ha 101 (by decide)).trans h101
        clear h101
        obtain ⟨w103, h103, r103⟩ := hp 6 (by decide)
        have e103 : (ac.tmps[103]?).getD undef = .int .i64 a.file := (ha 103 (by decide)).trans h103
        clear h103
        obtain ⟨w100, h100, r100⟩ := hp 3 (by decide)
        clear ha hp
        refine Reg.Op1.plain rfl ?_
        obtain ⟨_, hM0⟩ := h100
        have hM := hM0.keeps standsB (Reg.Wr.none r100 (by decide +kernel) (by decide +kernel) (by decide +kernel)) (fun _ h _ => h.elim)
        have hp := remove_q hM (i := 1) rfl HREL.out HOK.out a.file
        go_wp2_with fail
        refine hp.mono ?_
        rintro x w' ⟨q', hn', rfl, hM', hk'⟩
        go_wp2_with fail
        exact ⟨rfl, hK _ _ ⟨rfl, q', hn', hM'⟩ (Reg.Wr.does2 hk')⟩
      · intro val ac u hR hp ha K hK      -- 8: t105 := Op.binOp BinOp.eql 3 t100 t104 3
        obtain ⟨w100, h100, r100⟩ := hp 3 (by decide)
        have e100 : (ac.tmps[100]?).getD undef = val 3 := ha 100 (by decide)
        obtain ⟨w104, h104, r104⟩ := hp 7 (by decide)
        have e104 : (ac.tmps[104]?).getD undef = val 7 := ha 104 (by decide)
        clear ha hp
        refine Reg.Op1.plain rfl ?_
        obtain ⟨hv1, _⟩ := h100
        obtain ⟨hv2, _⟩ := h104
        rw [hv1] at e100
        rw [hv2] at e104
        clear hv1 hv2
        go_wp2
        exact ⟨rfl, hK _ _ (by simp) (Reg.Wr.same _)⟩
      · intro val ac u hR hp ha K hK      -- 9: t6 := Op.assign t105
        obtain ⟨w105, h105, r105⟩ := hp 8 (by decide)
        have e105 : (ac.tmps[105]?).getD undef = .bool true := (ha 105 (by decide)).trans h105
        clear h105
        clear ha hp
        refine Reg.Op1.plain rfl ?_
        go_wp2
        exact ⟨rfl, hK _ _ rfl (Reg.Wr.same _)⟩
    intro val u hR H
    obtain ⟨w7, ⟨_, q', hn', hM7⟩, r7⟩ := H 7 (by decide)
    have hM8 := hM7.keeps standsB (Reg.Wr.none r7 (by decide +kernel) (by decide +kernel) (by decide +kernel)) (fun _ h _ => h.elim)
    have HM8 := Lib.hid (hM8.less (R' := R) (fun _ h => .inl h))
    have HN8 := Lib.hid hn'
    obtain ⟨_, hv9, _⟩ := H 9 (by decide)
    simp only [List.map_cons, List.map_nil, Reg.lay, Act.put, List.setIfInBounds_toArray, List.set_cons_succ, List.set_cons_zero, Nat.reduceAdd]
    rw [hv9]
    clear hM7 hM8 r7 hR H hn' hv9
    go_wp2
    go_ret
    exact ⟨rfl, q', by rw [HACT.out]; exact ⟨HN8.out.1, Nat.le_trans HN8.out.2 (by omega)⟩, by rw [HACT.out]; exact HM8.out⟩
  by_cases k5 : a.kind = 5
  · have HACT := Lib.hid (act_5 (d := d) k5)
    rw [k5] at y0
    go_upto_region 18 with fail
    refine Reg.wp_region_w (by kernel_rfl) 117 10 rfl rfl (by kernel_rfl) (3) (Fr W R bx) (7) (Fr W R bx) (3) (fun _ => False)
      (fun i v u => match i with
        | 0 => v = .pointer (some ⟨gd, 0, none⟩)
        | 1 => v = .pointer (some ⟨bx, 2, none⟩)
        | 2 => v = .int .i64 a.n
        | 3 => v = .int .i64 (Dk.crashN d a.n) ∧ Ms W (fun k => R k ∨ k = bx) [(gd, .inl (Dk.crashD d a.n)), (gm, .inr q)] u
        | 4 => v = .pointer (some ⟨gm, 0, none⟩)
        | 5 => v = .pointer (some ⟨bx, 2, none⟩)
        | 6 => v = .int .i64 a.n
        | 7 => v = .int .i64 (Dk.crashN d a.n) ∧ ∃ q', Nxt q (Dk.crashD d a.n) 0 q' ∧ Ms W (fun k => R k ∨ k = bx) [(gd, .inl (Dk.crashD d a.n)), (gm, .inr q')] u
        | 8 => v = .bool true
        | 9 => v = .bool true
        | _ => True) ?_ ?_
    · refine Reg.Steps.cons ?_ (Reg.Steps.cons ?_ (Reg.Steps.cons ?_ (Reg.Steps.cons ?_ (Reg.Steps.cons ?_ (Reg.Steps.cons ?_ (Reg.Steps.cons ?_ (Reg.Steps.cons ?_ (Reg.Steps.cons ?_ (Reg.Steps.cons ?_ (Reg.Steps.nil _))))))))))
      · intro val ac u hR hp ha K hK      -- 0: t108 := Op.move t0
        have e0 : (ac.tmps[0]?).getD undef = .pointer (some ⟨gd, 0, none⟩) := ha 0 (by decide)
        clear ha hp
        refine Reg.Op1.plain rfl ?_
        go_wp2
        exact ⟨rfl, hK _ _ rfl (Reg.Wr.same _)⟩
      · intro val ac u hR hp ha K hK      -- 1: t109 := Op.fieldAddr 47 t5 2
        have e5 : (ac.tmps[5]?).getD undef = .pointer (some ⟨bx, 0, none⟩) := ha 5 (by decide)
        clear ha hp
        refine Reg.Op1.plain rfl ?_
        go_wp2
        exact ⟨rfl, hK _ _ rfl (Reg.Wr.same _)⟩
      · intro val ac u hR hp ha K hK      -- 2: t110 := Op.load 3 t109
        obtain ⟨w109, h109, r109⟩ := hp 1 (by decide)
        have e109 : (ac.tmps[109]?).getD undef = .pointer (some ⟨bx, 2, none⟩) := (ha 109 (by decide)).trans h109
        clear h109
        clear ha hp
        refine Reg.Op1.plain rfl ?_
        have x0 := (((Reg.Wr.all hR)).cell (p := ⟨bx, 2, none⟩) (hbl) (not_fr)).trans (y2)
        go_wp2
        exact ⟨rfl, hK _ _ rfl (Reg.Wr.same _)⟩
      · intro val ac u hR hp ha K hK      -- 3: t111 := Op.call { value (Operand.func 12), args := #[t108, t110], argTypes := #[25, 3] }
        obtain ⟨w108, h108, r108⟩ := hp 0 (by decide)
        have e108 : (ac.tmps[108]?).getD undef = .pointer (some ⟨gd, 0, none⟩) := (ha 108 (by decide)).trans h108
        clear h108
        obtain ⟨w110, h110, r110⟩ := hp 2 (by decide)
        have e110 : (ac.tmps[110]?).getD undef = .int .i64 a.n := (ha 110 (by decide)).trans h110
        clear h110
        clear ha hp
        refine Reg.Op1.plain rfl ?_
        have hM := HM.out.keeps standsB ((Mem.Keeps.refl (fun _ => False) w1).drew.trans (Reg.Wr.none hR (by decide +kernel) (by decide +kernel) (by decide +kernel)) (fun _ h _ => h)) (fun _ h _ => h.elim)
        have hp := crash_d hM (i := 0) rfl HOK.out hni
        go_wp2_with fail
        refine hp.mono ?_
        rintro x w' ⟨rfl, hM', hk'⟩
        go_wp2_with fail
        exact ⟨rfl, hK _ _ ⟨rfl, hM'⟩ (Reg.Wr.does1 hk')⟩
      · intro val ac u hR hp ha K hK      -- 4: t112 := Op.move t1
        have e1 : (ac.tmps[1]?).getD undef = .pointer (some ⟨gm, 0, none⟩) := ha 1 (by decide)
        clear ha hp
        refine Reg.Op1.plain rfl ?_
        go_wp2
        exact ⟨rfl, hK _ _ rfl (Reg.Wr.same _)⟩
      · intro val ac u hR hp ha K hK      -- 5: t113 := Op.fieldAddr 47 t5 2
        have e5 : (ac.tmps[5]?).getD undef = .pointer (some ⟨bx, 0, none⟩) := ha 5 (by decide)
        clear ha hp
        refine Reg.Op1.plain rfl ?_
        go_wp2
        exact ⟨rfl, hK _ _ rfl (Reg.Wr.same _)⟩
      · intro val ac u hR hp ha K hK      -- 6: t114 := Op.load 3 t113
        obtain ⟨w113, h113, r113⟩ := hp 5 (by decide)
        have e113 : (ac.tmps[113]?).getD undef = .pointer (some ⟨bx, 2, none⟩) := (ha 113 (by decide)).trans h113
        clear h113
        clear ha hp
        refine Reg.Op1.plain rfl ?_
        have x0 := (((Reg.Wr.all hR)).cell (p := ⟨bx, 2, none⟩) (hbl) (not_fr)).trans (y2)
        go_wp2
        exact ⟨rfl, hK _ _ rfl (Reg.Wr.same _)⟩
      · intro val ac u hR hp ha K hK      -- 7: t115 := Op.call { value (Operand.func 35), args := #[t112, t114], argTypes := #[43, 3] }
        obtain ⟨w112, h112, r112⟩ := hp 4 (by decide)
        have e112 : (ac.tmps[112]?).getD undef = .pointer (some ⟨gm, 0, none⟩) := (ha 112 (by decide)).trans h112
        clear h112
        obtain ⟨w114, h114, r114⟩ := hp 6 (by decide)
        have e114 : (ac.tmps[114]?).getD undef = .int .i64 a.n := (ha 114 (by decide)).trans h114
        clear h114
        obtain ⟨w111, h111, r111⟩ := hp 3 (by decide)
        clear ha hp
        refine Reg.Op1.plain rfl ?_
        obtain ⟨_, hM0⟩ := h111
        have hM := hM0.keeps standsB (Reg.Wr.none r111 (by decide +kernel) (by decide +kernel) (by decide +kernel)) (fun _ h _ => h.elim)
        have hp := crash_q hM (i := 1) rfl HREL.out HOK.out ht hni
        go_wp2_with fail
        refine hp.mono ?_
        rintro x w' ⟨q', hn', rfl, hM', hk'⟩
        go_wp2_with fail
        exact ⟨rfl, hK _ _ ⟨rfl, q', hn', hM'⟩ (Reg.Wr.does2 hk')⟩
      · intro val ac u hR hp ha K hK      -- 8: t116 := Op.binOp BinOp.eql 3 t111 t115 3
        obtain ⟨w111, h111, r111⟩ := hp 3 (by decide)
        have e111 : (ac.tmps[111]?).getD undef = val 3 := ha 111 (by decide)
        obtain ⟨w115, h115, r115⟩ := hp 7 (by decide)
        have e115 : (ac.tmps[115]?).getD undef = val 7 := ha 115 (by decide)
        clear ha hp
        refine Reg.Op1.plain rfl ?_
        obtain ⟨hv1, _⟩ := h111
        obtain ⟨hv2, _⟩ := h115
        rw [hv1] at e111
        rw [hv2] at e115
        clear hv1 hv2
        go_wp2
        exact ⟨rfl, hK _ _ (by simp) (Reg.Wr.same _)⟩
      · intro val ac u hR hp ha K hK      -- 9: t6 := Op.assign t116
        obtain ⟨w116, h116, r116⟩ := hp 8 (by decide)
        have e116 : (ac.tmps[116]?).getD undef = .bool true := (ha 116 (by decide)).trans h116
        clear h116
        clear ha hp
        refine Reg.Op1.plain rfl ?_
        go_wp2
        exact ⟨rfl, hK _ _ rfl (Reg.Wr.same _)⟩
    intro val u hR H
    obtain ⟨w7, ⟨_, q', hn', hM7⟩, r7⟩ := H 7 (by decide)
    have hM8 := hM7.keeps standsB (Reg.Wr.none r7 (by decide +kernel) (by decide +kernel) (by decide +kernel)) (fun _ h _ => h.elim)
    have HM8 := Lib.hid (hM8.less (R' := R) (fun _ h => .inl h))
    have HN8 := Lib.hid hn'
    obtain ⟨_, hv9, _⟩ := H 9 (by decide)
    simp only [List.map_cons, List.map_nil, Reg.lay, Act.put, List.setIfInBounds_toArray, List.set_cons_succ, List.set_cons_zero, Nat.reduceAdd]
    rw [hv9]
    clear hM7 hM8 r7 hR H hn' hv9
    go_wp2
    go_ret
    exact ⟨rfl, q', by rw [HACT.out]; exact ⟨HN8.out.1, Nat.le_trans HN8.out.2 (by omega)⟩, by rw [HACT.out]; exact HM8.out⟩
  by_cases k3 : a.kind = 3
  · have HACT := Lib.hid (act_3 (d := d) k3)
    rw [k3] at y0
    go_upto_region 14 with fail
    refine Reg.wp_region_w (by kernel_rfl) 117 14 rfl rfl (by kernel_rfl) (5) (Fr W R bx) (11) (Fr W R bx) (5) (fun _ => False)
      (fun i v u => match i with
        | 0 => v = .pointer (some ⟨gd, 0, none⟩)
        | 1 => v = .pointer (some ⟨bx, 1, none⟩)
        | 2 => v = .int .i64 a.file
        | 3 => v = .pointer (some ⟨bx, 2, none⟩)
        | 4 => v = .int .i64 a.n
        | 5 => v = .int .i64 (Dk.truE d a.file a.n) ∧ Ms W (fun k => R k ∨ k = bx) [(gd, .inl (Dk.truD d a.file a.n)), (gm, .inr q)] u
        | 6 => v = .pointer (some ⟨gm, 0, none⟩)
        | 7 => v = .pointer (some ⟨bx, 1, none⟩)
        | 8 => v = .int .i64 a.file
        | 9 => v = .pointer (some ⟨bx, 2, none⟩)
        | 10 => v = .int .i64 a.n
        | 11 => v = .int .i64 (Dk.truE d a.file a.n) ∧ ∃ q', Nxt q (Dk.truD d a.file a.n) 0 q' ∧ Ms W (fun k => R k ∨ k = bx) [(gd, .inl (Dk.truD d a.file a.n)), (gm, .inr q')] u
        | 12 => v = .bool true
        | 13 => v = .bool true
        | _ => True) ?_ ?_
    · refine Reg.Steps.cons ?_ (Reg.Steps.cons ?_ (Reg.Steps.cons ?_ (Reg.Steps.cons ?_ (Reg.Steps.cons ?_ (Reg.Steps.cons ?_ (Reg.Steps.cons ?_ (Reg.Steps.cons ?_ (Reg.Steps.cons ?_ (Reg.Steps.cons ?_ (Reg.Steps.cons ?_ (Reg.Steps.cons ?_ (Reg.Steps.cons ?_ (Reg.Steps.cons ?_ (Reg.Steps.nil _))))))))))))))
      · intro val ac u hR hp ha K hK      -- 0: t82 := Op.move t0
        have e0 : (ac.tmps[0]?).getD undef = .pointer (some ⟨gd, 0, none⟩) := ha 0 (by decide)
        clear ha hp
        refine Reg.Op1.plain rfl ?_
        go_wp2
        exact ⟨rfl, hK _ _ rfl (Reg.Wr.same _)⟩
      · intro val ac u hR hp ha K hK      -- 1: t83 := Op.fieldAddr 47 t5 1
        have e5 : (ac.tmps[5]?).getD undef = .pointer (some ⟨bx, 0, none⟩) := ha 5 (by decide)
        clear ha hp
        refine Reg.Op1.plain rfl ?_
        go_wp2
        exact ⟨rfl, hK _ _ rfl (Reg.Wr.same _)⟩
      · intro val ac u hR hp ha K hK      -- 2: t84 := Op.load 3 t83
        obtain ⟨w83, h83, r83⟩ := hp 1 (by decide)
        have e83 : (ac.tmps[83]?).getD undef = .pointer (some ⟨bx, 1, none⟩) := (ha 83 (by decide)).trans h83
        clear h83
        clear ha hp
        refine Reg.Op1.plain rfl ?_
        have x0 := (((Reg.Wr.all hR)).cell (p := ⟨bx, 1, none⟩) (hbl) (not_fr)).trans (y1)
        go_wp2
        exact ⟨rfl, hK _ _ rfl (Reg.Wr.same _)⟩
      · intro val ac u hR hp ha K hK      -- 3: t85 := Op.fieldAddr 47 t5 2
        have e5 : (ac.tmps[5]?).getD undef = .pointer (some ⟨bx, 0, none⟩) := ha 5 (by decide)
        clear ha hp
        refine Reg.Op1.plain rfl ?_
        go_wp2
        exact ⟨rfl, hK _ _ rfl (Reg.Wr.same _)⟩
      · intro val ac u hR hp ha K hK      -- 4: t86 := Op.load 3 t85
        obtain ⟨w85, h85, r85⟩ := hp 3 (by decide)
        have e85 : (ac.tmps[85]?).getD undef = .pointer (some ⟨bx, 2, none⟩) := (ha 85 (by decide)).trans h85
        clear h85
        clear ha hp
        refine Reg.Op1.plain rfl ?_
        have x0 := (((Reg.Wr.all hR)).cell (p := ⟨bx, 2, none⟩) (hbl) (not_fr)).trans (y2)
        go_wp2
        exact ⟨rfl, hK _ _ rfl (Reg.Wr.same _)⟩
      · intro val ac u hR hp ha K hK      -- 5: t87 := Op.call { value (Operand.func 27), args := #[t82, t84, t86], argTypes := #[25, 3, 3] }
        obtain ⟨w82, h82, r82⟩ := hp 0 (by decide)
        have e82 : (ac.tmps[82]?).getD undef = .pointer (some ⟨gd, 0, none⟩) := (ha 82 (by decide)).trans h82
        clear h82
        obtain ⟨w84, h84, r84⟩ := hp 2 (by decide)
        have e84 : (ac.tmps[84]?).getD undef = .int .i64 a.file := (ha 84 (by decide)).trans h84
        clear h84
        obtain ⟨w86, h86, r86⟩ := hp 4 (by decide)
        have e86 : (ac.tmps[86]?).getD undef = .int .i64 a.n := (ha 86 (by decide)).trans h86
        clear h86
        clear ha hp
        refine Reg.Op1.plain rfl ?_
        have hM := HM.out.keeps standsB ((Mem.Keeps.refl (fun _ => False) w1).drew.trans (Reg.Wr.none hR (by decide +kernel) (by decide +kernel) (by decide +kernel)) (fun _ h _ => h)) (fun _ h _ => h.elim)
        have hp := truncate_d hM (i := 0) rfl HOK.out hfi a.n
        go_wp2_with fail
        refine hp.mono ?_
        rintro x w' ⟨rfl, hM', hk'⟩
        go_wp2_with fail
        exact ⟨rfl, hK _ _ ⟨rfl, hM'⟩ (Reg.Wr.does1 hk')⟩
      · intro val ac u hR hp ha K hK      -- 6: t88 := Op.move t1
        have e1 : (ac.tmps[1]?).getD undef = .pointer (some ⟨gm, 0, none⟩) := ha 1 (by decide)
        clear ha hp
        refine Reg.Op1.plain rfl ?_
        go_wp2
        exact ⟨rfl, hK _ _ rfl (Reg.Wr.same _)⟩
      · intro val ac u hR hp ha K hK      -- 7: t89 := Op.fieldAddr 47 t5 1
        have e5 : (ac.tmps[5]?).getD undef = .pointer (some ⟨bx, 0, none⟩) := ha 5 (by decide)
        clear ha hp
        refine Reg.Op1.plain rfl ?_
        go_wp2
        exact ⟨rfl, hK _ _ rfl (Reg.Wr.same _)⟩
      · intro val ac u hR hp ha K hK      -- 8: t90 := Op.load 3 t89
        obtain ⟨w89, h89, r89⟩ := hp 7 (by decide)
        have e89 : (ac.tmps[89]?).getD undef = .pointer (some ⟨bx, 1, none⟩) := (ha 89 (by decide)).trans h89
        clear h89
        clear ha hp
        refine Reg.Op1.plain rfl ?_
        have x0 := (((Reg.Wr.all hR)).cell (p := ⟨bx, 1, none⟩) (hbl) (not_fr)).trans (y1)
        go_wp2
        exact ⟨rfl, hK _ _ rfl (Reg.Wr.same _)⟩
      · intro val ac u hR hp ha K hK      -- 9: t91 := Op.fieldAddr 47 t5 2
        have e5 : (ac.tmps[5]?).getD undef = .pointer (some ⟨bx, 0, none⟩) := ha 5 (by decide)
        clear ha hp
        refine Reg.Op1.plain rfl ?_
        go_wp2
        exact ⟨rfl, hK _ _ rfl (Reg.Wr.same _)⟩
      · intro val ac u hR hp ha K hK      -- 10: t92 := Op.load 3 t91
        obtain ⟨w91, h91, r91⟩ := hp 9 (by decide)
        have e91 : (ac.tmps[91]?).getD undef = .pointer (some ⟨bx, 2, none⟩) := (ha 91 (by decide)).trans h91
        clear h91
        clear ha hp
        refine Reg.Op1.plain rfl ?_
        have x0 := (((Reg.Wr.all hR)).cell (p := ⟨bx, 2, none⟩) (hbl) (not_fr)).trans (y2)
        go_wp2
        exact ⟨rfl, hK _ _ rfl (Reg.Wr.same _)⟩
      · intro val ac u hR hp ha K hK      -- 11: t93 := Op.call { value (Operand.func 33), args := #[t88, t90, t92], argTypes := #[43, 3, 3] }
        obtain ⟨w88, h88, r88⟩ := hp 6 (by decide)
        have e88 : (ac.tmps[88]?).getD undef = .pointer (some ⟨gm, 0, none⟩) := (ha 88 (by decide)).trans h88
        clear h88
        obtain ⟨w90, h90, r90⟩ := hp 8 (by decide)
        have e90 : (ac.tmps[90]?).getD undef = .int .i64 a.file := (ha 90 (by decide)).trans h90
        clear h90
        obtain ⟨w92, h92, r92⟩ := hp 10 (by decide)
        have e92 : (ac.tmps[92]?).getD undef = .int .i64 a.n := (ha 92 (by decide)).trans h92
        clear h92
        obtain ⟨w87, h87, r87⟩ := hp 5 (by decide)
        clear ha hp
        refine Reg.Op1.plain rfl ?_
        obtain ⟨_, hM0⟩ := h87
        have hM := hM0.keeps standsB (Reg.Wr.none r87 (by decide +kernel) (by decide +kernel) (by decide +kernel)) (fun _ h _ => h.elim)
        have hp := truncate_q hM (i := 1) rfl HREL.out HOK.out a.file a.n
        go_wp2_with fail
        refine hp.mono ?_
        rintro x w' ⟨q', hn', rfl, hM', hk'⟩
        go_wp2_with fail
        exact ⟨rfl, hK _ _ ⟨rfl, q', hn', hM'⟩ (Reg.Wr.does2 hk')⟩
      · intro val ac u hR hp ha K hK      -- 12: t94 := Op.binOp BinOp.eql 3 t87 t93 3
        obtain ⟨w87, h87, r87⟩ := hp 5 (by decide)
        have e87 : (ac.tmps[87]?).getD undef = val 5 := ha 87 (by decide)
        obtain ⟨w93, h93, r93⟩ := hp 11 (by decide)
        have e93 : (ac.tmps[93]?).getD undef = val 11 := ha 93 (by decide)
        clear ha hp
        refine Reg.Op1.plain rfl ?_
        obtain ⟨hv1, _⟩ := h87
        obtain ⟨hv2, _⟩ := h93
        rw [hv1] at e87
        rw [hv2] at e93
        clear hv1 hv2
        go_wp2
        exact ⟨rfl, hK _ _ (by simp) (Reg.Wr.same _)⟩
      · intro val ac u hR hp ha K hK      -- 13: t6 := Op.assign t94
        obtain ⟨w94, h94, r94⟩ := hp 12 (by decide)
        have e94 : (ac.tmps[94]?).getD undef = .bool true := (ha 94 (by decide)).trans h94
        clear h94
        clear ha hp
        refine Reg.Op1.plain rfl ?_
        go_wp2
        exact ⟨rfl, hK _ _ rfl (Reg.Wr.same _)⟩
    intro val u hR H
    obtain ⟨w7, ⟨_, q', hn', hM7⟩, r7⟩ := H 11 (by decide)
    have hM8 := hM7.keeps standsB (Reg.Wr.none r7 (by decide +kernel) (by decide +kernel) (by decide +kernel)) (fun _ h _ => h.elim)
    have HM8 := Lib.hid (hM8.less (R' := R) (fun _ h => .inl h))
    have HN8 := Lib.hid hn'
    obtain ⟨_, hv9, _⟩ := H 13 (by decide)
    simp only [List.map_cons, List.map_nil, Reg.lay, Act.put, List.setIfInBounds_toArray, List.set_cons_succ, List.set_cons_zero, Nat.reduceAdd]
    rw [hv9]
    clear hM7 hM8 r7 hR H hn' hv9
    go_wp2
    go_ret
    exact ⟨rfl, q', by rw [HACT.out]; exact ⟨HN8.out.1, Nat.le_trans HN8.out.2 (by omega)⟩, by rw [HACT.out]; exact HM8.out⟩
  by_cases k1 : a.kind = 1
  · have HACT := Lib.hid (act_1 (d := d) k1)
    rw [k1] at y0
    obtain ⟨nb, hnb⟩ : ∃ nb, a.bs.length = nb := ⟨_, rfl⟩
    rw [hnb] at y3 hbs
    have hn0 : nb ≤ maxLen := by unfold maxLen; omega
    have hn1 : nb + 1 ≤ maxLen := by unfold maxLen; omega
    have HNB := Lib.hid hnb
    have HWW : Hid (W.heap.size ≤ w1.heap.size) := HM.out.bel.size
    rw [hnb]
    clear hnb
    go_upto_region 4 with (first
      | (at_builtin; refine Mem.wpList_clone _ rfl (.tmp 15) (.tmp 17) _ rfl bytes_elem w1.heap.size rfl w1 w1.heap.size a.B nb a.c (a.bs.map Mem.byteV) rfl ?_ rfl (Below.refl _ _) (Nat.le_refl _) (HRX.out.more HWW.out) (by rw [List.length_map, HNB.out, Nat.mul_one]) (Mem.bytes_one _) hn0 (by omega); intro A2 c2 w4 hown hb4 hs4 hf4; have HO4 := Lib.hid hown; have HB4 := Lib.hid hb4; have HF4 := Lib.hid hf4; clear hown hb4 hs4 hf4)
      | (at_builtin; refine Mem.wpList_app _ rfl (.tmp 18) (.tmp 19) _ rfl bytes_elem A2 nb c2 (a.bs.map Mem.byteV) rfl (w4.heap.size + 1) (some ⟨w4.heap.size, 0, none⟩) 1 1 [.int .u8 77] rfl ?_ (HO4.out.alloc _) (Mem.Rd.alloc_new w4 _ _ _ rfl) rfl (by simp [Value.oneCell']) hn1 (by omega); intro X cX w5 hown hg5 hat; have HO5 := Lib.hid hown; have hs5 := hg5.size; have HB5 : Hid (Below w1.heap.size w1 w5) := (HB4.out.alloc HB4.out.size _).grown hg5 (by simp; have := HB4.out.size; omega) (fun q hq => HF4.out.blk q hq); have HF5 : Hid (Mem.From w1.heap.size X) := (by rcases hat with rfl | rfl; exact HF4.out; exact Mem.From.some_ (by simp; have := HB4.out.size; omega)); clear hown hg5 hat hs5))
    obtain ⟨bX, oX, hXe⟩ := HO5.out.form (by omega)
    subst hXe
    have hM5 := HM.out.more standsB HB5.out (R' := fun k => Mem.blk (some (⟨bX, oX, none⟩ : Addr)) = some k) (fun k hk => ⟨HF5.out.blk k hk, HO5.out.lt hk⟩)
    have HM5 := Lib.hid hM5
    have z1 : w5.cell? ⟨bx, 1, none⟩ = some (.int .i64 a.file) := (HB5.out.cell (p := ⟨bx, 1, none⟩) hbl).trans y1
    have z3 : w5.cell? ⟨bx, 3, none⟩ = some (.slice a.B nb a.c) := (HB5.out.cell (p := ⟨bx, 3, none⟩) hbl).trans y3
    have hbl5 : bx < w5.heap.size := Nat.lt_of_lt_of_le hbl HB5.out.size
    have hnc : nb ≤ cX := by have := HO5.out.le; omega
    have HRX5 := Lib.hid (HRX.out.below (HB5.out.mono HWW.out))
    clear y0 y1 y2 y3 hM5 HO4 HB4 HF4 HRX HX HM
    refine Reg.wp_region_w (by kernel_rfl) 117 10 rfl rfl (by kernel_rfl) (8) (Fq W R bx bX) (8) (fun _ => False) (8) (fun _ => False)
      (fun i v u => match i with
        | 0 => v = .pointer (some ⟨gd, 0, none⟩)
        | 1 => v = .pointer (some ⟨bx, 1, none⟩)
        | 2 => v = .int .i64 a.file
        | 3 => v = .slice (some ⟨bX, oX, none⟩) (nb + 1) cX
        | 4 => v = .pointer (some ⟨bx, 3, none⟩)
        | 5 => v = .slice a.B nb a.c
        | 6 => v = .int .i64 ((nb : Nat) : Int)
        | 7 => v = .slice (some ⟨bX, oX, none⟩) nb cX
        | 8 => v = .int .i64 (Dk.appE d a.file a.bs) ∧ Ms W (fun k => (R k ∨ k = bx) ∨ Mem.blk (some (⟨bX, oX, none⟩ : Addr)) = some k) [(gd, .inl (Dk.appD d a.file a.bs)), (gm, .inr q)] u
        | 9 => v = .int .i64 (Dk.appE d a.file a.bs)
        | _ => True) ?_ ?_
    · refine Reg.Steps.cons ?_ (Reg.Steps.cons ?_ (Reg.Steps.cons ?_ (Reg.Steps.cons ?_ (Reg.Steps.cons ?_ (Reg.Steps.cons ?_ (Reg.Steps.cons ?_ (Reg.Steps.cons ?_ (Reg.Steps.cons ?_ (Reg.Steps.cons ?_ (Reg.Steps.nil _))))))))))
      · intro val ac u hR hp ha K hK      -- 0: t21 := Op.move t0
        have e0 : (ac.tmps[0]?).getD undef = .pointer (some ⟨gd, 0, none⟩) := ha 0 (by decide)
        clear ha hp
        refine Reg.Op1.plain rfl ?_
        go_wp2
        exact ⟨rfl, hK _ _ rfl (Reg.Wr.same _)⟩
      · intro val ac u hR hp ha K hK      -- 1: t22 := Op.fieldAddr 47 t5 1
        have e5 : (ac.tmps[5]?).getD undef = .pointer (some ⟨bx, 0, none⟩) := ha 5 (by decide)
        clear ha hp
        refine Reg.Op1.plain rfl ?_
        go_wp2
        exact ⟨rfl, hK _ _ rfl (Reg.Wr.same _)⟩
      · intro val ac u hR hp ha K hK      -- 2: t23 := Op.load 3 t22
        obtain ⟨w22, h22, r22⟩ := hp 1 (by decide)
        have e22 : (ac.tmps[22]?).getD undef = .pointer (some ⟨bx, 1, none⟩) := (ha 22 (by decide)).trans h22
        clear h22
        clear ha hp
        refine Reg.Op1.plain rfl ?_
        have x0 := (((Reg.Wr.all hR)).cell (p := ⟨bx, 1, none⟩) (hbl5) (not_fq)).trans (z1)
        go_wp2
        exact ⟨rfl, hK _ _ rfl (Reg.Wr.same _)⟩
      · intro val ac u hR hp ha K hK      -- 3: t24 := Op.move t7
        have e7 : (ac.tmps[7]?).getD undef = .slice (some ⟨bX, oX, none⟩) (nb + 1) cX := ha 7 (by decide)
        clear ha hp
        refine Reg.Op1.plain rfl ?_
        go_wp2
        exact ⟨rfl, hK _ _ rfl (Reg.Wr.same _)⟩
      · intro val ac u hR hp ha K hK      -- 4: t25 := Op.fieldAddr 47 t5 3
        have e5 : (ac.tmps[5]?).getD undef = .pointer (some ⟨bx, 0, none⟩) := ha 5 (by decide)
        clear ha hp
        refine Reg.Op1.plain rfl ?_
        go_wp2
        exact ⟨rfl, hK _ _ rfl (Reg.Wr.same _)⟩
      · intro val ac u hR hp ha K hK      -- 5: t26 := Op.load 24 t25
        obtain ⟨w25, h25, r25⟩ := hp 4 (by decide)
        have e25 : (ac.tmps[25]?).getD undef = .pointer (some ⟨bx, 3, none⟩) := (ha 25 (by decide)).trans h25
        clear h25
        clear ha hp
        refine Reg.Op1.plain rfl ?_
        have x0 := (((Reg.Wr.all hR)).cell (p := ⟨bx, 3, none⟩) (hbl5) (not_fq)).trans (z3)
        go_wp2
        exact ⟨rfl, hK _ _ rfl (Reg.Wr.same _)⟩
      · intro val ac u hR hp ha K hK      -- 6: t27 := Op.call { builtin len, args := #[t26], argTypes := #[24] }
        obtain ⟨w26, h26, r26⟩ := hp 5 (by decide)
        have e26 : (ac.tmps[26]?).getD undef = .slice a.B nb a.c := (ha 26 (by decide)).trans h26
        clear h26
        clear ha hp
        refine Reg.Op1.plain rfl ?_
        go_wp2
        exact ⟨rfl, hK _ _ rfl (Reg.Wr.same _)⟩
      · intro val ac u hR hp ha K hK      -- 7: t28 := Op.slice 24 t24 none (some t27) none
        obtain ⟨w24, h24, r24⟩ := hp 3 (by decide)
        have e24 : (ac.tmps[24]?).getD undef = .slice (some ⟨bX, oX, none⟩) (nb + 1) cX := (ha 24 (by decide)).trans h24
        clear h24
        obtain ⟨w27, h27, r27⟩ := hp 6 (by decide)
        have e27 : (ac.tmps[27]?).getD undef = .int .i64 ((nb : Nat) : Int) := (ha 27 (by decide)).trans h27
        clear h27
        clear ha hp
        refine Reg.Op1.plain rfl ?_
        go_wp2
        exact ⟨rfl, hK _ _ rfl (Reg.Wr.same _)⟩
      · intro val ac u hR hp ha K hK      -- 8: t29 := Op.call { value (Operand.func 11), args := #[t21, t23, t28], argTypes := #[25, 3, 24] }
        obtain ⟨w21, h21, r21⟩ := hp 0 (by decide)
        have e21 : (ac.tmps[21]?).getD undef = .pointer (some ⟨gd, 0, none⟩) := (ha 21 (by decide)).trans h21
        clear h21
        obtain ⟨w23, h23, r23⟩ := hp 2 (by decide)
        have e23 : (ac.tmps[23]?).getD undef = .int .i64 a.file := (ha 23 (by decide)).trans h23
        clear h23
        obtain ⟨w28, h28, r28⟩ := hp 7 (by decide)
        have e28 : (ac.tmps[28]?).getD undef = .slice (some ⟨bX, oX, none⟩) nb cX := (ha 28 (by decide)).trans h28
        clear h28
        clear ha hp
        refine Reg.Op1.plain rfl ?_
        have hk0 : Mem.Keeps (fun _ => False) w5 u := (Mem.Keeps.refl (fun _ => False) w5).drew.trans (Reg.Wr.none hR (by decide +kernel) (by decide +kernel) (by decide +kernel)) (fun _ h _ => h)
        have hM := HM5.out.keeps standsB hk0 (fun _ h _ => h.elim)
        have hrd := (HO5.out.keeps hk0 (fun _ _ h => h)).rd.left
        have hp := append_d hM (i := 0) rfl HOK.out hKK hfi (cx := cX) hrd (fun k hk => .inr (.inr hk)) (by rw [HNB.out]; omega)
        rw [HNB.out] at hp
        clear hM hrd
        go_wp2_with fail
        refine hp.mono ?_
        rintro x w' ⟨rfl, hM', hk'⟩
        go_wp2_with fail
        exact ⟨rfl, hK _ _ ⟨rfl, hM'⟩ (Reg.Wr.does1 hk')⟩
      · intro val ac u hR hp ha K hK      -- 9: t8 := Op.assign t29
        obtain ⟨w29, h29, r29⟩ := hp 8 (by decide)
        have e29 : (ac.tmps[29]?).getD undef = val 8 := ha 29 (by decide)
        clear ha hp
        refine Reg.Op1.plain rfl ?_
        obtain ⟨hv1, _⟩ := h29
        rw [hv1] at e29
        clear hv1
        go_wp2
        exact ⟨rfl, hK _ _ rfl (Reg.Wr.same _)⟩
    intro val u hR H
    obtain ⟨w7, ⟨hv8, hM7⟩, r7⟩ := H 8 (by decide)
    have hM8 := hM7.keeps standsB (Reg.Wr.none r7 (by decide +kernel) (by decide +kernel) (by decide +kernel)) (fun _ h _ => h.elim)
    have HM8 := Lib.hid hM8
    obtain ⟨_, hv9, _⟩ := H 9 (by decide)
    have hk8 : Mem.Keeps (Fq W R bx bX) w5 u := ((Mem.Keeps.refl (Fq W R bx bX) w5).drew.trans (Reg.Wr.all hR) (fun _ h _ => h.elim id (fun h => h.elim (fun h => h.elim) (fun h => h.elim))))
    have HK8 := Lib.hid hk8
    obtain ⟨w8, hw8⟩ : ∃ w8, u = w8 := ⟨_, rfl⟩
    rw [hw8] at HM8 HK8
    rw [hw8]
    simp only [List.map_cons, List.map_nil, Reg.lay, Act.put, List.setIfInBounds_toArray, List.set_cons_succ, List.set_cons_zero, Nat.reduceAdd]
    rw [hv9]
    clear hM7 hM8 r7 hR H hv9 hv8 hk8 hw8
    have hbl8 : bx < w8.heap.size := Nat.lt_of_lt_of_le hbl5 HK8.out.size
    have y1 : w8.cell? ⟨bx, 1, none⟩ = some (.int .i64 a.file) := (HK8.out.cell (p := ⟨bx, 1, none⟩) hbl5 (fun h => h.2 (.inl (.inr rfl)))).trans z1
    have y3 : w8.cell? ⟨bx, 3, none⟩ = some (.slice a.B nb a.c) := (HK8.out.cell (p := ⟨bx, 3, none⟩) hbl5 (fun h => h.2 (.inl (.inr rfl)))).trans z3
    have HO8 := Lib.hid (HO5.out.keeps HK8.out (fun k hk h => h.2 (.inr hk)))
    have HRX8 := Lib.hid (HRX5.out.keeps HK8.out (fun k h => h.1) (Nat.le_trans HWW.out HB5.out.size))
    have HWW8 : Hid (W.heap.size ≤ w8.heap.size) := Nat.le_trans (Nat.le_trans HWW.out HB5.out.size) HK8.out.size
    have HNE : Hid (bx ≠ bX) := fun e => by have h9 := HF5.out _ rfl; dsimp only at h9; omega
    have HXW : Hid (W.heap.size ≤ bX) := by have h9 := HF5.out _ rfl; have := HWW.out; exact Nat.le_trans this h9
    have x77 : w8.cell? ⟨bX, oX + nb, none⟩ = some (.int .u8 77) := HO8.out.cell (by rw [List.getElem?_append_right (by rw [List.length_map, HNB.out]; exact Nat.le_refl _), List.length_map, HNB.out, Nat.sub_self]; rfl)
    have hX8 : bX < w8.heap.size := HO8.out.lt rfl
    clear z1 z3 HO5 HK8 HRX5 HB5 HF5 HM5
    go_upto_region 5 with fail
    refine Reg.wp_region_w (by kernel_rfl) 117 20 rfl rfl (by kernel_rfl) (0) (fun _ => False) (0) (fun _ => False) (0) (fun _ => False)
      (fun i v u => match i with
        | 0 => v = .slice (some ⟨bX, oX, none⟩) (nb + 1) cX
        | 1 => v = .pointer (some ⟨bx, 3, none⟩)
        | 2 => v = .slice a.B nb a.c
        | 3 => v = .int .i64 ((nb : Nat) : Int)
        | 4 => v = .slice (some ⟨bX, oX, none⟩) nb cX
        | 5 => v = .string ⟨a.bs.toArray⟩
        | 6 => v = .pointer (some ⟨bx, 3, none⟩)
        | 7 => v = .slice a.B nb a.c
        | 8 => v = .string ⟨a.bs.toArray⟩
        | 9 => v = .bool true
        | 10 => v = .bool true
        | 11 => v = .slice (some ⟨bX, oX, none⟩) (nb + 1) cX
        | 12 => v = .pointer (some ⟨bx, 3, none⟩)
        | 13 => v = .slice a.B nb a.c
        | 14 => v = .int .i64 ((nb : Nat) : Int)
        | 15 => v = .pointer (some ⟨bX, oX + nb, none⟩)
        | 16 => v = .int .u8 77
        | 17 => v = .bool true
        | 18 => v = .bool true
        | 19 => v = .bool true
        | _ => True) ?_ ?_
    · refine Reg.Steps.cons ?_ (Reg.Steps.cons ?_ (Reg.Steps.cons ?_ (Reg.Steps.cons ?_ (Reg.Steps.cons ?_ (Reg.Steps.cons ?_ (Reg.Steps.cons ?_ (Reg.Steps.cons ?_ (Reg.Steps.cons ?_ (Reg.Steps.cons ?_ (Reg.Steps.cons ?_ (Reg.Steps.cons ?_ (Reg.Steps.cons ?_ (Reg.Steps.cons ?_ (Reg.Steps.cons ?_ (Reg.Steps.cons ?_ (Reg.Steps.cons ?_ (Reg.Steps.cons ?_ (Reg.Steps.cons ?_ (Reg.Steps.cons ?_ (Reg.Steps.nil _))))))))))))))))))))
      · intro val ac u hR hp ha K hK      -- 0: t30 := Op.move t7
        have e7 : (ac.tmps[7]?).getD undef = .slice (some ⟨bX, oX, none⟩) (nb + 1) cX := ha 7 (by decide)
        clear ha hp
        refine Reg.Op1.plain rfl ?_
        go_wp2
        exact ⟨rfl, hK _ _ rfl (Reg.Wr.same _)⟩
      · intro val ac u hR hp ha K hK      -- 1: t31 := Op.fieldAddr 47 t5 3
        have e5 : (ac.tmps[5]?).getD undef = .pointer (some ⟨bx, 0, none⟩) := ha 5 (by decide)
        clear ha hp
        refine Reg.Op1.plain rfl ?_
        go_wp2
        exact ⟨rfl, hK _ _ rfl (Reg.Wr.same _)⟩
      · intro val ac u hR hp ha K hK      -- 2: t32 := Op.load 24 t31
        obtain ⟨w31, h31, r31⟩ := hp 1 (by decide)
        have e31 : (ac.tmps[31]?).getD undef = .pointer (some ⟨bx, 3, none⟩) := (ha 31 (by decide)).trans h31
        clear h31
        clear ha hp
        refine Reg.Op1.plain rfl ?_
        have x0 := (((Reg.Wr.all hR)).cell (p := ⟨bx, 3, none⟩) (hbl8) ((fun h => h.elim id (fun h => h.elim id id)))).trans (y3)
        go_wp2
        exact ⟨rfl, hK _ _ rfl (Reg.Wr.same _)⟩
      · intro val ac u hR hp ha K hK      -- 3: t33 := Op.call { builtin len, args := #[t32], argTypes := #[24] }
        obtain ⟨w32, h32, r32⟩ := hp 2 (by decide)
        have e32 : (ac.tmps[32]?).getD undef = .slice a.B nb a.c := (ha 32 (by decide)).trans h32
        clear h32
        clear ha hp
        refine Reg.Op1.plain rfl ?_
        go_wp2
        exact ⟨rfl, hK _ _ rfl (Reg.Wr.same _)⟩
      · intro val ac u hR hp ha K hK      -- 4: t34 := Op.slice 24 t30 none (some t33) none
        obtain ⟨w30, h30, r30⟩ := hp 0 (by decide)
        have e30 : (ac.tmps[30]?).getD undef = .slice (some ⟨bX, oX, none⟩) (nb + 1) cX := (ha 30 (by decide)).trans h30
        clear h30
        obtain ⟨w33, h33, r33⟩ := hp 3 (by decide)
        have e33 : (ac.tmps[33]?).getD undef = .int .i64 ((nb : Nat) : Int) := (ha 33 (by decide)).trans h33
        clear h33
        clear ha hp
        refine Reg.Op1.plain rfl ?_
        go_wp2
        exact ⟨rfl, hK _ _ rfl (Reg.Wr.same _)⟩
      · intro val ac u hR hp ha K hK      -- 5: t35 := Op.convert 24 9 t34
        obtain ⟨w34, h34, r34⟩ := hp 4 (by decide)
        have e34 : (ac.tmps[34]?).getD undef = .slice (some ⟨bX, oX, none⟩) nb cX := (ha 34 (by decide)).trans h34
        clear h34
        clear ha hp
        refine Reg.Op1.plain rfl ?_
        have hk0 : Mem.Keeps (fun q => False ∨ False ∨ False) w8 u := (Mem.Keeps.refl (fun q => False ∨ False ∨ False) w8).drew.trans (Reg.Wr.all hR) (fun _ h _ => h)
        have hv := Dk.conv_bytes (W := u) cX (HO8.out.keeps hk0 (fun _ _ h => h.elim id (fun h => h.elim id id))).rd.left
        rw [HNB.out] at hv
        go_wp2
        exact ⟨rfl, hK _ _ rfl (Reg.Wr.same _)⟩
      · intro val ac u hR hp ha K hK      -- 6: t36 := Op.fieldAddr 47 t5 3
        have e5 : (ac.tmps[5]?).getD undef = .pointer (some ⟨bx, 0, none⟩) := ha 5 (by decide)
        clear ha hp
        refine Reg.Op1.plain rfl ?_
        go_wp2
        exact ⟨rfl, hK _ _ rfl (Reg.Wr.same _)⟩
      · intro val ac u hR hp ha K hK      -- 7: t37 := Op.load 24 t36
        obtain ⟨w36, h36, r36⟩ := hp 6 (by decide)
        have e36 : (ac.tmps[36]?).getD undef = .pointer (some ⟨bx, 3, none⟩) := (ha 36 (by decide)).trans h36
        clear h36
        clear ha hp
        refine Reg.Op1.plain rfl ?_
        have x0 := (((Reg.Wr.all hR)).cell (p := ⟨bx, 3, none⟩) (hbl8) ((fun h => h.elim id (fun h => h.elim id id)))).trans (y3)
        go_wp2
        exact ⟨rfl, hK _ _ rfl (Reg.Wr.same _)⟩
      · intro val ac u hR hp ha K hK      -- 8: t38 := Op.convert 24 9 t37
        obtain ⟨w37, h37, r37⟩ := hp 7 (by decide)
        have e37 : (ac.tmps[37]?).getD undef = .slice a.B nb a.c := (ha 37 (by decide)).trans h37
        clear h37
        clear ha hp
        refine Reg.Op1.plain rfl ?_
        have hk0 : Mem.Keeps (fun q => False ∨ False ∨ False) w8 u := (Mem.Keeps.refl (fun q => False ∨ False ∨ False) w8).drew.trans (Reg.Wr.all hR) (fun _ h _ => h)
        have hv := Dk.conv_bytes (W := u) a.c (HRX8.out.keeps hk0 (fun _ h => (h.elim id (fun h => h.elim id id)).elim) HWW8.out)
        rw [HNB.out] at hv
        go_wp2
        exact ⟨rfl, hK _ _ rfl (Reg.Wr.same _)⟩
      · intro val ac u hR hp ha K hK      -- 9: t39 := Op.binOp BinOp.eql 9 t35 t38 9
        obtain ⟨w35, h35, r35⟩ := hp 5 (by decide)
        have e35 : (ac.tmps[35]?).getD undef = .string ⟨a.bs.toArray⟩ := (ha 35 (by decide)).trans h35
        clear h35
        obtain ⟨w38, h38, r38⟩ := hp 8 (by decide)
        have e38 : (ac.tmps[38]?).getD undef = .string ⟨a.bs.toArray⟩ := (ha 38 (by decide)).trans h38
        clear h38
        clear ha hp
        refine Reg.Op1.plain rfl ?_
        go_wp2
        exact ⟨rfl, hK _ _ (by simp) (Reg.Wr.same _)⟩
      · intro val ac u hR hp ha K hK      -- 10: t40 := Op.move t39
        obtain ⟨w39, h39, r39⟩ := hp 9 (by decide)
        have e39 : (ac.tmps[39]?).getD undef = .bool true := (ha 39 (by decide)).trans h39
        clear h39
        clear ha hp
        refine Reg.Op1.plain rfl ?_
        go_wp2
        exact ⟨rfl, hK _ _ rfl (Reg.Wr.same _)⟩
      · intro val ac u hR hp ha K hK      -- 11: t41 := Op.move t7
        have e7 : (ac.tmps[7]?).getD undef = .slice (some ⟨bX, oX, none⟩) (nb + 1) cX := ha 7 (by decide)
        obtain ⟨w40, h40, r40⟩ := hp 10 (by decide)
        have e40 : (ac.tmps[40]?).getD undef = .bool true := (ha 40 (by decide)).trans h40
        clear h40
        clear ha hp
        refine Reg.Op1.guarded rfl rfl e40 (fun _ => Reg.Op1.plain rfl ?_) (fun h => absurd rfl h)
        go_wp2
        exact ⟨rfl, hK _ _ rfl (Reg.Wr.same _)⟩
      · intro val ac u hR hp ha K hK      -- 12: t42 := Op.fieldAddr 47 t5 3
        have e5 : (ac.tmps[5]?).getD undef = .pointer (some ⟨bx, 0, none⟩) := ha 5 (by decide)
        obtain ⟨w40, h40, r40⟩ := hp 10 (by decide)
        have e40 : (ac.tmps[40]?).getD undef = .bool true := (ha 40 (by decide)).trans h40
        clear h40
        clear ha hp
        refine Reg.Op1.guarded rfl rfl e40 (fun _ => Reg.Op1.plain rfl ?_) (fun h => absurd rfl h)
        go_wp2
        exact ⟨rfl, hK _ _ rfl (Reg.Wr.same _)⟩
      · intro val ac u hR hp ha K hK      -- 13: t43 := Op.load 24 t42
        obtain ⟨w42, h42, r42⟩ := hp 12 (by decide)
        have e42 : (ac.tmps[42]?).getD undef = .pointer (some ⟨bx, 3, none⟩) := (ha 42 (by decide)).trans h42
        clear h42
        obtain ⟨w40, h40, r40⟩ := hp 10 (by decide)
        have e40 : (ac.tmps[40]?).getD undef = .bool true := (ha 40 (by decide)).trans h40
        clear h40
        clear ha hp
        refine Reg.Op1.guarded rfl rfl e40 (fun _ => Reg.Op1.plain rfl ?_) (fun h => absurd rfl h)
        have x0 := (((Reg.Wr.all hR)).cell (p := ⟨bx, 3, none⟩) (hbl8) ((fun h => h.elim id (fun h => h.elim id id)))).trans (y3)
        go_wp2
        exact ⟨rfl, hK _ _ rfl (Reg.Wr.same _)⟩
      · intro val ac u hR hp ha K hK      -- 14: t44 := Op.call { builtin len, args := #[t43], argTypes := #[24] }
        obtain ⟨w43, h43, r43⟩ := hp 13 (by decide)
        have e43 : (ac.tmps[43]?).getD undef = .slice a.B nb a.c := (ha 43 (by decide)).trans h43
        clear h43
        obtain ⟨w40, h40, r40⟩ := hp 10 (by decide)
        have e40 : (ac.tmps[40]?).getD undef = .bool true := (ha 40 (by decide)).trans h40
        clear h40
        clear ha hp
        refine Reg.Op1.guarded rfl rfl e40 (fun _ => Reg.Op1.plain rfl ?_) (fun h => absurd rfl h)
        go_wp2
        exact ⟨rfl, hK _ _ rfl (Reg.Wr.same _)⟩
      · intro val ac u hR hp ha K hK      -- 15: t45 := Op.indexAddr 24 t41 t44
        obtain ⟨w41, h41, r41⟩ := hp 11 (by decide)
        have e41 : (ac.tmps[41]?).getD undef = .slice (some ⟨bX, oX, none⟩) (nb + 1) cX := (ha 41 (by decide)).trans h41
        clear h41
        obtain ⟨w44, h44, r44⟩ := hp 14 (by decide)
        have e44 : (ac.tmps[44]?).getD undef = .int .i64 ((nb : Nat) : Int) := (ha 44 (by decide)).trans h44
        clear h44
        obtain ⟨w40, h40, r40⟩ := hp 10 (by decide)
        have e40 : (ac.tmps[40]?).getD undef = .bool true := (ha 40 (by decide)).trans h40
        clear h40
        clear ha hp
        refine Reg.Op1.guarded rfl rfl e40 (fun _ => Reg.Op1.plain rfl ?_) (fun h => absurd rfl h)
        go_wp2
        exact ⟨rfl, hK _ _ rfl (Reg.Wr.same _)⟩
      · intro val ac u hR hp ha K hK      -- 16: t46 := Op.load 5 t45
        obtain ⟨w45, h45, r45⟩ := hp 15 (by decide)
        have e45 : (ac.tmps[45]?).getD undef = .pointer (some ⟨bX, oX + nb, none⟩) := (ha 45 (by decide)).trans h45
        clear h45
        obtain ⟨w40, h40, r40⟩ := hp 10 (by decide)
        have e40 : (ac.tmps[40]?).getD undef = .bool true := (ha 40 (by decide)).trans h40
        clear h40
        clear ha hp
        refine Reg.Op1.guarded rfl rfl e40 (fun _ => Reg.Op1.plain rfl ?_) (fun h => absurd rfl h)
        have x0 := (((Reg.Wr.all hR)).cell (p := ⟨bX, oX + nb, none⟩) (hX8) ((fun h => h.elim id (fun h => h.elim id id)))).trans (x77)
        go_wp2
        exact ⟨rfl, hK _ _ rfl (Reg.Wr.same _)⟩
      · intro val ac u hR hp ha K hK      -- 17: t47 := Op.binOp BinOp.eql 5 t46 (const (77:u8)) 5
        obtain ⟨w46, h46, r46⟩ := hp 16 (by decide)
        have e46 : (ac.tmps[46]?).getD undef = .int .u8 77 := (ha 46 (by decide)).trans h46
        clear h46
        obtain ⟨w40, h40, r40⟩ := hp 10 (by decide)
        have e40 : (ac.tmps[40]?).getD undef = .bool true := (ha 40 (by decide)).trans h40
        clear h40
        clear ha hp
        refine Reg.Op1.guarded rfl rfl e40 (fun _ => Reg.Op1.plain rfl ?_) (fun h => absurd rfl h)
        go_wp2
        exact ⟨rfl, hK _ _ rfl (Reg.Wr.same _)⟩
      · intro val ac u hR hp ha K hK      -- 18: t48 := Op.pick t40 t47 (const (Value.bool false))
        obtain ⟨w40, h40, r40⟩ := hp 10 (by decide)
        have e40 : (ac.tmps[40]?).getD undef = .bool true := (ha 40 (by decide)).trans h40
        clear h40
        obtain ⟨w47, h47, r47⟩ := hp 17 (by decide)
        have e47 : (ac.tmps[47]?).getD undef = .bool true := (ha 47 (by decide)).trans h47
        clear h47
        clear ha hp
        refine Reg.Op1.plain rfl ?_
        go_wp2
        exact ⟨rfl, hK _ _ rfl (Reg.Wr.same _)⟩
      · intro val ac u hR hp ha K hK      -- 19: t9 := Op.assign t48
        obtain ⟨w48, h48, r48⟩ := hp 18 (by decide)
        have e48 : (ac.tmps[48]?).getD undef = .bool true := (ha 48 (by decide)).trans h48
        clear h48
        clear ha hp
        refine Reg.Op1.plain rfl ?_
        go_wp2
        exact ⟨rfl, hK _ _ rfl (Reg.Wr.same _)⟩
    intro val u hR H
    obtain ⟨_, hv9, _⟩ := H 19 (by decide)
    have hk8 : Mem.Keeps (fun _ => False) w8 u := ((Mem.Keeps.refl (fun _ => False) w8).drew.trans (Reg.Wr.all hR) (fun _ h _ => h.elim id (fun h => h.elim id id)))
    obtain ⟨w9, hw9⟩ : ∃ w9, u = w9 := ⟨_, rfl⟩
    rw [hw9] at hk8
    rw [hw9]
    simp only [List.map_cons, List.map_nil, Reg.lay, Act.put, List.setIfInBounds_toArray, List.set_cons_succ, List.set_cons_zero, Nat.reduceAdd]
    rw [hv9]
    clear hR H hv9 hw9
    have z1 : w9.cell? ⟨bx, 1, none⟩ = some (.int .i64 a.file) := (hk8.cell (p := ⟨bx, 1, none⟩) hbl8 id).trans y1
    have z3 : w9.cell? ⟨bx, 3, none⟩ = some (.slice a.B nb a.c) := (hk8.cell (p := ⟨bx, 3, none⟩) hbl8 id).trans y3
    have HO9 := Lib.hid (HO8.out.keeps hk8 (fun _ _ h => h))
    have HRX9 := Lib.hid (HRX8.out.keeps hk8 (fun _ h => h.elim) HWW8.out)
    have HM9 := Lib.hid (HM8.out.keeps standsB hk8 (fun _ h _ => h.elim))
    have HWW9 : Hid (W.heap.size ≤ w9.heap.size) := Nat.le_trans HWW8.out hk8.size
    have hbl9 : bx < w9.heap.size := Nat.lt_of_lt_of_le hbl8 hk8.size
    have hbX : Hid (bx ≠ bX) := HNE.out
    clear hk8 HO8 HRX8 HM8 y1 y3 x77 hbl8 hX8 HWW8
    go_wp2
    go_loopw [10] (WipeRel w9 bX oX cX nb) (fun t _ => nb + 1 - (intOf t).toNat)
    case atStart => exact ⟨⟨0, _, by omega, rfl, HO9, Mem.Keeps.refl _ _⟩⟩
    case round =>
      obtain ⟨k, ys, hk, rfl, HY, HK⟩ := hrel.out
      clear hrel
      by_cases hlt : k < nb + 1
      · have hys : ys.length = nb + 1 := by have := HY.out.len; omega
        have yt : wr.cell? ⟨bX, oX + k, none⟩ = some (ys[k]'(by omega)) := HY.out.cell (List.getElem?_eq_getElem _)
        have yf : ∀ i, wr.frozen? ⟨bX, i, none⟩ = false := HY.out.free
        have HY2 := Lib.hid (HY.out.set k (.int .u8 255))
        have HK2 := Lib.hid (HK.out.setCell (p := ⟨bX, oX + k, none⟩) (fun _ => rfl) (.int .u8 255))
        have d0 : decide ((k : Int) < ((nb + 1 : Nat) : Int)) = true := by simp; omega
        have e0 : (k : Int) < (nb : Int) + 1 := by omega
        clear HY HK
        go_wp2
        go_roundw
        case rel => exact ⟨⟨k + 1, _, by omega, by go_num, HY2, HK2⟩⟩
        case measure => simp [intOf]; omega
      · obtain rfl : k = nb + 1 := by omega
        have e0 : ¬ ((nb + 1 : Nat) : Int) < (nb : Int) + 1 := by omega
        have d0 : decide (((nb + 1 : Nat) : Int) < ((nb + 1 : Nat) : Int)) = false := by simp
        have w1' : wr.cell? ⟨bx, 1, none⟩ = some (.int .i64 a.file) := (HK.out.cell (p := ⟨bx, 1, none⟩) hbl9 (fun h => hbX.out h)).trans z1
        have w3' : wr.cell? ⟨bx, 3, none⟩ = some (.slice a.B nb a.c) := (HK.out.cell (p := ⟨bx, 3, none⟩) hbl9 (fun h => hbX.out h)).trans z3
        have hM := (HM9.out.keeps standsB HK.out (fun k hk _ => .inr (by rw [hk]; rfl))).less (R' := R) (fun _ h => .inl (.inl h))
        have hrx := HRX9.out.keeps HK.out (fun k hk => by rw [hk]; exact HXW.out) HWW9.out
        have hp := append_q hM (i := 1) rfl HREL.out HOK.out ht a.file (cx := a.c) hrx (by rw [HNB.out]; omega)
        rw [HNB.out] at hp
        have HP := Lib.hid hp
        clear hM hrx hp z1 z3 HM9 HRX9 HO9 HY HK
        go_wp2_with (go_at_call 31; (refine HP.out.mono ?_); rintro x w10 ⟨q', hn', rfl, hM', _⟩; have HN10 := Lib.hid hn'; have HM10 := Lib.hid hM'; clear hn' hM' HP)
        go_ret
        exact ⟨by simp, q', by rw [HACT.out, HNB.out]; exact HN10.out, by rw [HACT.out]; exact HM10.out⟩
  · have HACT := Lib.hid (act_0 (d := d) k1 k2 k3 k4 k5)
    have b1 : (a.kind == 1) = false := by simpa using k1
    have b2 : (a.kind == 2) = false := by simpa using k2
    have b3 : (a.kind == 3) = false := by simpa using k3
    have b4 : (a.kind == 4) = false := by simpa using k4
    have b5 : (a.kind == 5) = false := by simpa using k5
    have HM8 := Lib.hid (HM.out.less (R' := R) (fun _ h => .inl h))
    go_wp2
    go_ret
    exact ⟨rfl, q, by rw [HACT.out]; exact ⟨⟨P, HREL.out⟩, by omega⟩, by rw [HACT.out]; exact HM8.out⟩
end Go.Proofs.Ytfpfpdhfnleebaa
