/- The walks of all, of rules$2, rules$5. No conditions but that lists are few. -/
import Derived.Test.YtelephoalpphkaaAud10
set_option maxRecDepth 8000
namespace Go.Proofs.Ytelephoalpphkaa
open Go.ChangeShapes Go.WideShapes Go.ChangeAt Go.RowKit
set_option linter.unusedVariables false
set_option linter.unusedSimpArgs false
namespace Au
def pastP (e : Ev) (r : Rs) : Bool := Vec.coversV e.cut (Vec.pastL [r.e])
def r4 (k : Ck) (e : Ev) : Bool := !((hasL e.res).any fun r => !askedP k r)
def r7 (e : Ev) : Bool := !((hasL e.res).any fun r => !pastP e r)
end Au
open Au in
set_option maxHeartbeats 4000000 in
theorem pastF_any {w : World} {ge : Nat} {e : Au.Ev} (hE : Au.VBx w ge e) (r : Au.Rs) :
    Calls Try.prog 56 #[.agg (Au.rsCells r).toArray, .pointer (some ⟨ge, 0, none⟩)] w fun x w' => x = .returned (.bool (Au.pastP e r)) ∧ Below w.heap.size w w' := by
  have hB1 : Below w.heap.size w (w.alloc (.cells (Au.rsCells r).toArray 48)) := Reg.below_new _ _
  have hX1 : Au.RBx (w.alloc (.cells (Au.rsCells r).toArray 48)) w.heap.size r := Mem.Bx.new w 48 (Au.rsCells r).toArray rfl rfl
  obtain ⟨w1, hw1⟩ : ∃ w1, w.alloc (.cells (Au.rsCells r).toArray 48) = w1 := ⟨_, rfl⟩
  rw [hw1] at hB1 hX1
  have HB1 := Lib.hid hB1
  have HX1 := Lib.hid hX1
  unfold Au.rsCells Vec.entCells at hw1 ⊢
  simp only [List.cons_append, List.nil_append] at hw1 ⊢
  clear hB1 hX1
  have HE1 := Lib.hid (hE.below HB1.out hE.lt)
  clear hE
  go_enter Try.func56, Try.ntmps56
  go_upto_region 1 with fail
  try rw [hw1]
  clear hw1
  refine Reg.wp_region_w (by kernel_rfl) 11 8 rfl rfl (by kernel_rfl) (0) (fun _ => False) (0) (fun _ => False) (0) (fun _ => False)
    (fun i v u => match i with
      | 0 => v = .pointer (some ⟨ge, 11, none⟩)
      | 1 => v = .agg (Vec.vcCells e.cut).toArray
      | 2 => v = .pointer (some ⟨w.heap.size, 2, none⟩)
      | 3 => v = .agg (Vec.entCells r.e).toArray
      | 4 => ∃ s, v = .slice (some ⟨s, 0, none⟩) 1 1 ∧ Mem.Rd u (s + 1) (some ⟨s, 0, none⟩) ([r.e].flatMap Vec.entCells) ∧ s + 1 ≤ u.heap.size
      | 5 => v = .agg (Vec.vcCells (Vec.pastL [r.e])).toArray
      | 6 => v = .bool (pastP e r)
      | 7 => v = .bool (pastP e r)
      | _ => True) ?_ ?_
  · refine Reg.Steps.cons ?_ (Reg.Steps.cons ?_ (Reg.Steps.cons ?_ (Reg.Steps.cons ?_ (Reg.Steps.cons ?_ (Reg.Steps.cons ?_ (Reg.Steps.cons ?_ (Reg.Steps.cons ?_ (Reg.Steps.nil _))))))))
    · intro val ac u hR hp ha K hK      -- 0: t4 := Op.fieldAddr 46 t1 8
      have e1 : (ac.tmps[1]?).getD undef = .pointer (some ⟨ge, 0, none⟩) := ha 1 (by decide)
      clear ha hp
      refine Reg.Op1.plain rfl ?_
      go_wp2
      exact ⟨rfl, hK _ _ rfl (Reg.Wr.same _)⟩
    · intro val ac u hR hp ha K hK      -- 1: t5 := Op.load 33 t4
      obtain ⟨w4, h4, r4⟩ := hp 0 (by decide)
      have e4 : (ac.tmps[4]?).getD undef = .pointer (some ⟨ge, 11, none⟩) := (ha 4 (by decide)).trans h4
      clear h4
      clear ha hp
      refine Reg.Op1.plain rfl ?_
      have hk0 : Mem.Keeps (fun _ => False) w1 u := (Mem.Keeps.refl (fun _ => False) w1).drew.trans (Reg.Wr.all hR) (fun _ h _ => h.elim id (fun h => h.elim id id))
      have hXu := HE1.out.keeps hk0 id
      refine Mem.load_agg _ _ vec_agg ge 11 (Vec.vcCells e.cut) (Reg.eval_of e4) (Vec.vcCells_length _) (VBx.cut hXu) ?_
      exact ⟨rfl, hK _ _ rfl (Reg.Wr.same _)⟩
    · intro val ac u hR hp ha K hK      -- 2: t6 := Op.fieldAddr 48 t2 2
      have e2 : (ac.tmps[2]?).getD undef = .pointer (some ⟨w.heap.size, 0, none⟩) := ha 2 (by decide)
      clear ha hp
      refine Reg.Op1.plain rfl ?_
      go_wp2
      exact ⟨rfl, hK _ _ rfl (Reg.Wr.same _)⟩
    · intro val ac u hR hp ha K hK      -- 3: t7 := Op.load 35 t6
      obtain ⟨w6, h6, r6⟩ := hp 2 (by decide)
      have e6 : (ac.tmps[6]?).getD undef = .pointer (some ⟨w.heap.size, 2, none⟩) := (ha 6 (by decide)).trans h6
      clear h6
      clear ha hp
      refine Reg.Op1.plain rfl ?_
      have hk0 : Mem.Keeps (fun _ => False) w1 u := (Mem.Keeps.refl (fun _ => False) w1).drew.trans (Reg.Wr.all hR) (fun _ h _ => h.elim id (fun h => h.elim id id))
      have hXu := HX1.out.keeps hk0 id
      refine Mem.load_agg _ _ entry_agg w.heap.size 2 (Vec.entCells r.e) (Reg.eval_of e6) (Vec.entCells_length _) (RBx.ent hXu) ?_
      exact ⟨rfl, hK _ _ rfl (Reg.Wr.same _)⟩
    · intro val ac u hR hp ha K hK      -- 4: t8 := Op.buildSlice 23 1 #[(0, t7)]
      obtain ⟨w7, h7, r7⟩ := hp 3 (by decide)
      have e7 : (ac.tmps[7]?).getD undef = .agg (Vec.entCells r.e).toArray := (ha 7 (by decide)).trans h7
      clear h7
      clear ha hp
      refine Reg.Op1.plain rfl ?_
      refine Mem.build1_agg _ _ 20 _ Try.underlying23 entry_zero (by decide) (by decide) (Vec.entCells r.e) (Reg.eval_of e7) (Vec.entCells_length _) ?_
      exact ⟨rfl, hK _ _ ⟨u.heap.size, rfl, Mem.Rd.alloc_new u _ _ _ rfl, by simp⟩ (Reg.Wr.below (Reg.below_new _ _))⟩
    · intro val ac u hR hp ha K hK      -- 5: t9 := Op.call { value (Operand.func 21), args := #[t8], argTypes := #[23] }
      obtain ⟨w8, h8, r8⟩ := hp 4 (by decide)
      have e8 : (ac.tmps[8]?).getD undef = val 4 := ha 8 (by decide)
      clear ha hp
      refine Reg.Op1.plain rfl ?_
      obtain ⟨s, hv, hb, hs⟩ := h8
      rw [hv] at e8
      have hbu : Below w8.heap.size w8 u := Mem.Keeps.belowAll ((Reg.Wr.all r8).mono (fun _ h _ => h.elim id (fun h => h.elim id id)))
      go_wp2_with fail
      refine (past_any (some ⟨s, 0, none⟩) 1 [r.e] (s + 1) u (hb.below (hbu.mono hs)) (Nat.le_trans hs hbu.size) (by simp [maxLen])).mono ?_
      rintro x w' ⟨rfl, hb'⟩
      go_wp2_with fail
      exact ⟨rfl, hK _ _ rfl (Reg.Wr.below hb')⟩
    · intro val ac u hR hp ha K hK      -- 6: t10 := Op.call { value (Operand.func 29), args := #[t5, t9], argTypes := #[33, 33] }
      obtain ⟨w5, h5, r5⟩ := hp 1 (by decide)
      have e5 : (ac.tmps[5]?).getD undef = .agg (Vec.vcCells e.cut).toArray := (ha 5 (by decide)).trans h5
      clear h5
      obtain ⟨w9, h9, r9⟩ := hp 5 (by decide)
      have e9 : (ac.tmps[9]?).getD undef = .agg (Vec.vcCells (Vec.pastL [r.e])).toArray := (ha 9 (by decide)).trans h9
      clear h9
      clear ha hp
      refine Reg.Op1.plain rfl ?_
      go_wp2_with fail
      refine (coversV_any e.cut (Vec.pastL [r.e]) u).mono ?_
      rintro x w' ⟨rfl, hb'⟩
      go_wp2_with fail
      exact ⟨rfl, hK _ _ rfl (Reg.Wr.below hb')⟩
    · intro val ac u hR hp ha K hK      -- 7: t3 := Op.assign t10
      obtain ⟨w10, h10, r10⟩ := hp 6 (by decide)
      have e10 : (ac.tmps[10]?).getD undef = .bool (pastP e r) := (ha 10 (by decide)).trans h10
      clear h10
      clear ha hp
      refine Reg.Op1.plain rfl ?_
      go_wp2
      exact ⟨rfl, hK _ _ rfl (Reg.Wr.same _)⟩
  intro val u hR H
  obtain ⟨_, hv9, _⟩ := H 7 (by decide)
  have hk8 : Mem.Keeps (fun _ => False) w1 u := ((Mem.Keeps.refl (fun _ => False) w1).drew.trans (Reg.Wr.all hR) (fun _ h _ => h.elim id (fun h => h.elim id id)))
  simp only [List.map_cons, List.map_nil, Reg.lay, Act.put, List.setIfInBounds_toArray, List.set_cons_succ, List.set_cons_zero, Nat.reduceAdd]
  rw [hv9]
  have HK8 := Lib.hid hk8
  clear hR H hv9 hk8
  go_wp2
  go_ret
  exact ⟨rfl, HB1.out.trans (HK8.out.belowAll.mono HB1.out.size)⟩
open Au in
set_option maxHeartbeats 4000000 in
theorem allAsked_tells {w : World} {B gc bc gs bs gf : Nat} {k : Au.Ck} {s : Au.Ss} (hC : Au.Cx w B gc bc gs bs k s) (hF0 : Mem.Bx w 94 1 gf [.func (.func 49) #[.pointer (some ⟨gc, 0, none⟩)] #[]]) :
    Ar.Tells 66 #[.pointer (some ⟨gf, 0, none⟩)] (fun r => !Au.askedP k r) (fun _ => False) w := by
  intro W r hk
  have hF := hF0.keeps hk id
  have hU := hC.below hk.belowAll
  show Calls _ _ #[.agg (Au.rsCells r).toArray, .pointer (some ⟨gf, 0, none⟩)] _ _
  obtain ⟨w, hw⟩ : ∃ w, W = w := ⟨_, rfl⟩
  rw [hw] at hF hU
  rw [hw]
  clear hw hk hF0
  have hB1 : Below w.heap.size w (w.alloc (.cells (Au.rsCells r).toArray 48)) := Reg.below_new _ _
  have hX1 : Au.RBx (w.alloc (.cells (Au.rsCells r).toArray 48)) w.heap.size r := Mem.Bx.new w 48 (Au.rsCells r).toArray rfl rfl
  obtain ⟨w1, hw1⟩ : ∃ w1, w.alloc (.cells (Au.rsCells r).toArray 48) = w1 := ⟨_, rfl⟩
  rw [hw1] at hB1 hX1
  have HB1 := Lib.hid hB1
  have HX1 := Lib.hid hX1
  unfold Au.rsCells Vec.entCells at hw1 ⊢
  simp only [List.cons_append, List.nil_append] at hw1 ⊢
  clear hB1 hX1
  have HF1 := Lib.hid (hF.below HB1.out hF.lt)
  have HC := Lib.hid (asked_any (hU.below HB1.out) r)
  have HRS : Hid (∀ j u, (rsCells r)[j]? = some u → w1.cell? ⟨w.heap.size, 0 + j, none⟩ = some u) := fun j u hu => by rw [Nat.zero_add]; exact HX1.out.cell hu
  clear hF hU
  go_enter Try.func66, Try.ntmps66
  go_upto_region 1 with fail
  try rw [hw1]
  clear hw1
  have y0 := HF1.out.cell (j := 0) rfl
  go_wp2_with (first | ((with_reducible refine Mem.load_agg _ _ result_agg w.heap.size 0 (rsCells r) ?hx (rsCells_length r) HRS.out ?_); case hx => exact rfl) | (go_at_call 49; (refine HC.out.mono ?_); rintro x w2 ⟨rfl, hb2⟩; have HB2 := Lib.hid (HB1.out.trans (hb2.mono HB1.out.size)); clear hb2 HC))
  go_ret
  exact ⟨rfl, HB2.out⟩
open Au in
set_option maxHeartbeats 4000000 in
theorem allPast_tells {w : World} {ge gf : Nat} {e : Au.Ev} (hE : Au.VBx w ge e) (hF0 : Mem.Bx w 94 1 gf [.func (.func 56) #[] #[.pointer (some ⟨ge, 0, none⟩)]]) :
    Ar.Tells 66 #[.pointer (some ⟨gf, 0, none⟩)] (fun r => !Au.pastP e r) (fun _ => False) w := by
  intro W r hk
  have hF := hF0.keeps hk id
  have hU := hE.keeps hk id
  show Calls _ _ #[.agg (Au.rsCells r).toArray, .pointer (some ⟨gf, 0, none⟩)] _ _
  obtain ⟨w, hw⟩ : ∃ w, W = w := ⟨_, rfl⟩
  rw [hw] at hF hU
  rw [hw]
  clear hw hk hF0
  have hB1 : Below w.heap.size w (w.alloc (.cells (Au.rsCells r).toArray 48)) := Reg.below_new _ _
  have hX1 : Au.RBx (w.alloc (.cells (Au.rsCells r).toArray 48)) w.heap.size r := Mem.Bx.new w 48 (Au.rsCells r).toArray rfl rfl
  obtain ⟨w1, hw1⟩ : ∃ w1, w.alloc (.cells (Au.rsCells r).toArray 48) = w1 := ⟨_, rfl⟩
  rw [hw1] at hB1 hX1
  have HB1 := Lib.hid hB1
  have HX1 := Lib.hid hX1
  unfold Au.rsCells Vec.entCells at hw1 ⊢
  simp only [List.cons_append, List.nil_append] at hw1 ⊢
  clear hB1 hX1
  have HF1 := Lib.hid (hF.below HB1.out hF.lt)
  have HC := Lib.hid (pastF_any (hU.below HB1.out hU.lt) r)
  have HRS : Hid (∀ j u, (rsCells r)[j]? = some u → w1.cell? ⟨w.heap.size, 0 + j, none⟩ = some u) := fun j u hu => by rw [Nat.zero_add]; exact HX1.out.cell hu
  clear hF hU
  go_enter Try.func66, Try.ntmps66
  go_upto_region 1 with fail
  try rw [hw1]
  clear hw1
  have y0 := HF1.out.cell (j := 0) rfl
  go_wp2_with (first | ((with_reducible refine Mem.load_agg _ _ result_agg w.heap.size 0 (rsCells r) ?hx (rsCells_length r) HRS.out ?_); case hx => exact rfl) | (go_at_call 56; (refine HC.out.mono ?_); rintro x w2 ⟨rfl, hb2⟩; have HB2 := Lib.hid (HB1.out.trans (hb2.mono HB1.out.size)); clear hb2 HC))
  go_ret
  exact ⟨rfl, HB2.out⟩
end Go.Proofs.Ytelephoalpphkaa
