/- The walks of the document's own hold: Next, Purge. No conditions. -/
import Derived.Test.YtgdcfdjfoeoknaaHold9
namespace Go.Proofs.Ytgdcfdjfoeoknaa
open Go.ChangeShapes Go.WideShapes Go.ChangeAt Go.RowKit
set_option linter.unusedVariables false
set_option linter.unusedSimpArgs false

namespace Vec
def In64 (v : Vc) : Prop := ∀ d r, -9223372036854775808 ≤ v.get d r ∧ v.get d r ≤ 9223372036854775807
theorem due_ref {v : Vc} {e : Ent} (hv : In64 v) (hr : rightE e = true) : (e.seq - 1 != v.get e.dc.toNat e.rng.toNat) = !(e.seq == wrap64 (v.get e.dc.toNat e.rng.toNat + 1)) := by
  obtain ⟨_, h1, h2⟩ := right_chain hr
  have hb := hv e.dc.toNat e.rng.toNat
  generalize v.get e.dc.toNat e.rng.toNat = x at hb
  rw [Bool.eq_iff_iff]
  by_cases hx : x = 9223372036854775807
  · subst hx
    have h9 : wrap64 (9223372036854775807 + 1) = -9223372036854775808 := by rw [← IntWalk.i64_left]; rfl
    rw [h9]
    simp
    omega
  · rw [IntWalk.wrap64_in _ (by omega)]
    simp
    omega
theorem own_none {w : World} {e : TypeId} {sz : Nat} : Mem.Own w e sz none 0 0 [] := by
  refine ⟨?_, ?_⟩ <;> simp [maxLen]
theorem len300 {n : Nat} (h : n ≤ 300) : n ≤ maxLen ∧ n * 176 ≤ 140737488355328 := by unfold maxLen; omega
/-- what the document's Next leaves: new memory, if something was due -/
structure RNextEnd (t : TypeId) (w : World) (g : Nat) (A : Option Addr) (rng : Int) (es : List Ent) (v : Vc) (x : Ending) (w' : World) : Prop where
  r : x = .returned (.tuple #[.agg (entCells (nextE v es).1).toArray, .bool (nextE v es).2])
  h : ∃ A' c', HAt t w' g A' c' rng (nextL v es) ∧ ∀ q, Mem.blk A' = some q → Mem.blk A = some q ∨ w.heap.size ≤ q
  k : Mem.Keeps (HB g A) w w'
structure RPurgeEnd (t : TypeId) (w : World) (g : Nat) (A : Option Addr) (rng : Int) (es : List Ent) (v : Vc) (x : Ending) (w' : World) : Prop where
  r : x = .returned (.int .i64 (es.length - (purged v es).length : Nat))
  h : ∃ A' c', HAt t w' g A' c' rng (purged v es) ∧ ∀ q, Mem.blk A' = some q → Mem.blk A = some q ∨ w.heap.size ≤ q
  k : Mem.Keeps (HB g A) w w'
end Vec
open Vec in
set_option maxRecDepth 20000 in
set_option maxHeartbeats 8000000 in
theorem refNext_any (vv : Vec.Vc) (rng : Int) (g : Nat) (A : Option Addr) (c : Nat) (es : List Vec.Ent) (w : World) (hA : Vec.HAt 53 w g A c rng es) (hn : es.length ≤ 300) (hok : ∀ e ∈ es, Vec.rightE e = true) (hvv : Vec.In64 vv) :
    Calls Try.prog 20 #[.pointer (some ⟨g, 0, none⟩), .agg (vcCells vv).toArray] w (Vec.RNextEnd 53 w g A rng es vv) := by
  have HA := Lib.hid hA
  have HOK := Lib.hid hok
  have HVV := Lib.hid hvv
  clear hA hok hvv
  go_enter Try.func20, Try.ntmps20
  go_upto_region 1 with fail
  obtain ⟨w1, hw1⟩ : ∃ w1, (w.alloc (.cells (vcCells vv).toArray 27)).alloc (.cells (entCells ent0).toArray 33) = w1 := ⟨_, rfl⟩
  have HN : Hid (NxAt 53 w g A c rng es vv w1) := by
    show NxAt _ _ _ _ _ _ _ _ _
    rw [← hw1]
    have hb : Below w.heap.size w ((w.alloc (.cells (vcCells vv).toArray 27)).alloc (.cells (entCells ent0).toArray 33)) := (Reg.below_new _ _).alloc (by simp) _
    exact ⟨HA.out.below hb, (Mem.Bx.new w 27 (vcCells vv).toArray rfl rfl).below (Reg.below_new _ _) (by simp), EBx.new (w.alloc _) ent0 (by simp), hb⟩
  change Code.wp _ _ _ _ ((w.alloc (.cells (vcCells vv).toArray 27)).alloc (.cells (entCells ent0).toArray 33))
  rw [hw1]
  clear hw1
  have x1 := HN.out.H.B.cell (j := 1) rfl
  go_wp2
  clear x1
  go_loopw [6, 7] (NxRel 53 w g A c rng es vv) (fun _ t _ => es.length - (intOf t).toNat)
  case atStart => exact ⟨⟨0, by omega, rfl, rfl, HN⟩⟩
  case round =>
    clear HN
    obtain ⟨k, hk, rfl, rfl, HN⟩ := hrel.out
    by_cases hlt : k < es.length
    · obtain ⟨b, o, e, rfl, hb, he, hat⟩ := ent_elem HN.out.H.O.rd hlt
      have HAT := Lib.hid hat
      have HTS := Lib.hid (bestTo_snoc (v := vv) he)
      have hre := HOK.out e (List.mem_of_getElem? he)
      have hch : chain e.dc e.rng = true := by unfold rightE g1 at hre; simp at hre; exact hre.1.1
      clear hat he
      have x1 := HN.out.H.B.cell (j := 1) rfl
      go_upto_region 6 with (first | ((with_reducible refine Mem.load_agg _ _ entry_agg b (o + k * 20) (entCells e) ?hx (entCells_length e) HAT.out.c ?_); case hx => exact rfl) | ((with_reducible refine Mem.store_agg _ _ entry_agg wr.heap.size (entCells ent0) (entCells e) ?hxa ?hya ?hba (entCells_length e) (ent_one e) ?_); ((case hxa => exact rfl); (case hya => exact rfl); (case hba => exact Mem.Bx.new wr _ (entCells ent0).toArray rfl rfl); intro w2 hb2 hk2 hs2)))
      have HE2 : Hid (EBx w2 wr.heap.size e) := hb2
      have HN2 := Lib.hid (HN.out.below (hk2.newBox rfl).belowAll)
      have hzr := HN.out.E.lt
      clear hb2 hk2 hs2 HAT HN x1
      obtain ⟨hd3, hd4, hr0, hr3⟩ := chain_nat hch
      obtain ⟨dn, hdn0⟩ : ∃ dn, e.dc.toNat = dn := ⟨_, rfl⟩
      obtain ⟨rn, hrn0⟩ : ∃ rn, e.rng.toNat = rn := ⟨_, rfl⟩
      have hdn : e.dc = (dn : Int) := by omega
      have hrn : e.rng = (rn : Int) := by omega
      have hr4 : rn < 3 := by omega
      rw [hdn0] at hd3
      have hdr := due_ref HVV.out hre
      have hq := (right_chain hre).2
      have hwr : IntKind.i64.wrap (e.seq - 1) = e.seq - 1 := IntWalk.i64_in _ (by omega)
      have hwr2 : wrap64 (e.seq - 1) = e.seq - 1 := IntWalk.wrap64_in _ (by omega)
      obtain ⟨dv, hdv⟩ : ∃ dv, vv.get e.dc.toNat e.rng.toNat = dv := ⟨_, rfl⟩
      have HDV := Lib.hid hdv
      have HCH := Lib.hid hch
      have hde : dueE vv e = (e.seq == wrap64 (dv + 1) && coversV vv e.deps) := by unfold dueE; rw [hdv]
      rw [hdv] at hdr
      obtain ⟨q1, hq1⟩ : ∃ q1, (e.seq == wrap64 (dv + 1)) = q1 := ⟨_, rfl⟩
      rw [hq1] at hde hdr
      clear hq1 hdv hre hq hch hd3 hd4 hr0 hr3 hdn0 hrn0 hdn hrn hr4
      go_cut [41] (fun v9 wx => v9 = .bool (!dueE vv e) ∧ Below w2.heap.size w2 wx)
      case first =>
        cases q1
        · have d1 : (e.seq - 1 != dv) = true := by rw [hdr]; rfl
          have hdue : dueE vv e = false := by rw [hde]; rfl
          refine Reg.wp_region_rel (by kernel_rfl) 90 15 rfl rfl (by kernel_rfl) (Reg.Adds) (Reg.Adds.refl) (Reg.Adds.trans)
            (fun i v u => match i with
              | 0 => v = .pointer (some ⟨wr.heap.size, 0, none⟩)
              | 1 => v = .pointer (some ⟨wr.heap.size, 2, none⟩)
              | 2 => v = .int .i64 e.seq
              | 3 => v = .int .i64 (e.seq - 1)
              | 4 => v = .agg (vcCells vv).toArray
              | 5 => v = .agg (entCells e).toArray
              | 6 => v = .int .i64 dv
              | 7 => v = .bool true
              | 8 => v = .bool true
              | 9 => v = undef
              | 10 => v = undef
              | 11 => v = undef
              | 12 => v = undef
              | 13 => v = undef
              | 14 => v = .bool true
              | _ => True) ?_ ?_
          · refine Reg.Steps.cons ?_ (Reg.Steps.cons ?_ (Reg.Steps.cons ?_ (Reg.Steps.cons ?_ (Reg.Steps.cons ?_ (Reg.Steps.cons ?_ (Reg.Steps.cons ?_ (Reg.Steps.cons ?_ (Reg.Steps.cons ?_ (Reg.Steps.cons ?_ (Reg.Steps.cons ?_ (Reg.Steps.cons ?_ (Reg.Steps.cons ?_ (Reg.Steps.cons ?_ (Reg.Steps.cons ?_ (Reg.Steps.nil _)))))))))))))))
            · intro val ac u hR hp ha K hK      -- 0: t27 := Op.fieldAddr 33 t8 0
              have e8 : (ac.tmps[8]?).getD undef = .pointer (some ⟨wr.heap.size, 0, none⟩) := ha 8 (by decide)
              clear ha hp
              refine Reg.Op1.plain rfl ?_
              go_wp2
              exact ⟨rfl, hK _ _ rfl (fun j k _ _ => Reg.Adds.refl _ _ _)⟩
            · intro val ac u hR hp ha K hK      -- 1: t28 := Op.fieldAddr 29 t27 2
              obtain ⟨w27, h27, r27⟩ := hp 0 (by decide)
              have e27 : (ac.tmps[27]?).getD undef = .pointer (some ⟨wr.heap.size, 0, none⟩) := (ha 27 (by decide)).trans h27
              clear h27
              clear ha hp
              refine Reg.Op1.plain rfl ?_
              go_wp2
              exact ⟨rfl, hK _ _ rfl (fun j k _ _ => Reg.Adds.refl _ _ _)⟩
            · intro val ac u hR hp ha K hK      -- 2: t29 := Op.load 3 t28
              obtain ⟨w28, h28, r28⟩ := hp 1 (by decide)
              have e28 : (ac.tmps[28]?).getD undef = .pointer (some ⟨wr.heap.size, 2, none⟩) := (ha 28 (by decide)).trans h28
              clear h28
              clear ha hp
              refine Reg.Op1.plain rfl ?_
              have x0 := (hR.cell (p := ⟨wr.heap.size, 2, none⟩) HE2.out.lt).trans (HE2.out.cell (j := 2) rfl)
              go_wp2
              exact ⟨rfl, hK _ _ rfl (fun j k _ _ => Reg.Adds.refl _ _ _)⟩
            · intro val ac u hR hp ha K hK      -- 3: t30 := Op.binOp BinOp.sub 3 t29 (const (1:i64)) 3
              obtain ⟨w29, h29, r29⟩ := hp 2 (by decide)
              have e29 : (ac.tmps[29]?).getD undef = .int .i64 e.seq := (ha 29 (by decide)).trans h29
              clear h29
              clear ha hp
              refine Reg.Op1.plain rfl ?_
              go_wp2
              exact ⟨rfl, hK _ _ rfl (fun j k _ _ => Reg.Adds.refl _ _ _)⟩
            · intro val ac u hR hp ha K hK      -- 4: t31 := Op.load 27 t3
              have e3 : (ac.tmps[3]?).getD undef = .pointer (some ⟨w.heap.size, 0, none⟩) := ha 3 (by decide)
              clear ha hp
              refine Reg.Op1.plain rfl ?_
              have hVu : VBx u w.heap.size vv := Mem.Bx.below (w := w2.drew) HN2.out.V hR HN2.out.V.lt
              refine Mem.load_agg _ _ vec_agg w.heap.size 0 (vcCells vv) (Reg.eval_of e3) (vcCells_length _) (fun j u' hu => by rw [Nat.zero_add]; exact hVu.cell hu) ?_
              exact ⟨rfl, hK _ _ rfl (fun j k _ _ => Reg.Adds.refl _ _ _)⟩
            · intro val ac u hR hp ha K hK      -- 5: t32 := Op.load 33 t8
              have e8 : (ac.tmps[8]?).getD undef = .pointer (some ⟨wr.heap.size, 0, none⟩) := ha 8 (by decide)
              clear ha hp
              refine Reg.Op1.plain rfl ?_
              have hEu : EBx u wr.heap.size e := Mem.Bx.below (w := w2.drew) HE2.out hR HE2.out.lt
              refine Mem.load_agg _ _ entry_agg wr.heap.size 0 (entCells e) (Reg.eval_of e8) (entCells_length _) (fun j u' hu => by rw [Nat.zero_add]; exact hEu.cell hu) ?_
              exact ⟨rfl, hK _ _ rfl (fun j k _ _ => Reg.Adds.refl _ _ _)⟩
            · intro val ac u hR hp ha K hK      -- 6: t33 := Op.call { value (Operand.func 32), args := #[t31, t32], argTypes := #[27, 33] }
              obtain ⟨w31, h31, r31⟩ := hp 4 (by decide)
              have e31 : (ac.tmps[31]?).getD undef = .agg (vcCells vv).toArray := (ha 31 (by decide)).trans h31
              clear h31
              obtain ⟨w32, h32, r32⟩ := hp 5 (by decide)
              have e32 : (ac.tmps[32]?).getD undef = .agg (entCells e).toArray := (ha 32 (by decide)).trans h32
              clear h32
              clear ha hp
              refine Reg.Op1.plain rfl ?_
              go_wp2_with fail
              refine (number_any vv e u HCH.out).mono ?_
              rintro x w' ⟨rfl, hbw⟩
              rw [HDV.out]
              go_wp2_with fail
              exact ⟨rfl, hK _ _ rfl (fun j k _ _ => hbw)⟩
            · intro val ac u hR hp ha K hK      -- 7: t34 := Op.binOp BinOp.neq 3 t30 t33 3
              obtain ⟨w30, h30, r30⟩ := hp 3 (by decide)
              have e30 : (ac.tmps[30]?).getD undef = .int .i64 (e.seq - 1) := (ha 30 (by decide)).trans h30
              clear h30
              obtain ⟨w33, h33, r33⟩ := hp 6 (by decide)
              have e33 : (ac.tmps[33]?).getD undef = .int .i64 dv := (ha 33 (by decide)).trans h33
              clear h33
              clear ha hp
              refine Reg.Op1.plain rfl ?_
              go_wp2
              exact ⟨rfl, hK _ _ rfl (fun j k _ _ => Reg.Adds.refl _ _ _)⟩
            · intro val ac u hR hp ha K hK      -- 8: t35 := Op.move t34
              obtain ⟨w34, h34, r34⟩ := hp 7 (by decide)
              have e34 : (ac.tmps[34]?).getD undef = .bool true := (ha 34 (by decide)).trans h34
              clear h34
              clear ha hp
              refine Reg.Op1.plain rfl ?_
              go_wp2
              exact ⟨rfl, hK _ _ rfl (fun j k _ _ => Reg.Adds.refl _ _ _)⟩
            · intro val ac u hR hp ha K hK      -- 9: t36 := Op.load 27 t3
              obtain ⟨w35, h35, r35⟩ := hp 8 (by decide)
              have e35 : (ac.tmps[35]?).getD undef = .bool true := (ha 35 (by decide)).trans h35
              clear h35
              clear ha hp
              exact Reg.Op1.guarded rfl rfl e35 (fun h => by cases h) (fun _ => hK _ _ rfl (fun j k _ _ => Reg.Adds.refl _ _ _))
            · intro val ac u hR hp ha K hK      -- 10: t37 := Op.fieldAddr 33 t8 5
              obtain ⟨w35, h35, r35⟩ := hp 8 (by decide)
              have e35 : (ac.tmps[35]?).getD undef = .bool true := (ha 35 (by decide)).trans h35
              clear h35
              clear ha hp
              exact Reg.Op1.guarded rfl rfl e35 (fun h => by cases h) (fun _ => hK _ _ rfl (fun j k _ _ => Reg.Adds.refl _ _ _))
            · intro val ac u hR hp ha K hK      -- 11: t38 := Op.load 27 t37
              obtain ⟨w35, h35, r35⟩ := hp 8 (by decide)
              have e35 : (ac.tmps[35]?).getD undef = .bool true := (ha 35 (by decide)).trans h35
              clear h35
              clear ha hp
              exact Reg.Op1.guarded rfl rfl e35 (fun h => by cases h) (fun _ => hK _ _ rfl (fun j k _ _ => Reg.Adds.refl _ _ _))
            · intro val ac u hR hp ha K hK      -- 12: t39 := Op.call { value (Operand.func 33), args := #[t36, t38], argTypes := #[27, 27] }
              obtain ⟨w35, h35, r35⟩ := hp 8 (by decide)
              have e35 : (ac.tmps[35]?).getD undef = .bool true := (ha 35 (by decide)).trans h35
              clear h35
              clear ha hp
              exact Reg.Op1.guarded rfl rfl e35 (fun h => by cases h) (fun _ => hK _ _ rfl (fun j k _ _ => Reg.Adds.refl _ _ _))
            · intro val ac u hR hp ha K hK      -- 13: t40 := Op.unOp UnOp.not 4 t39
              obtain ⟨w35, h35, r35⟩ := hp 8 (by decide)
              have e35 : (ac.tmps[35]?).getD undef = .bool true := (ha 35 (by decide)).trans h35
              clear h35
              clear ha hp
              exact Reg.Op1.guarded rfl rfl e35 (fun h => by cases h) (fun _ => hK _ _ rfl (fun j k _ _ => Reg.Adds.refl _ _ _))
            · intro val ac u hR hp ha K hK      -- 14: t41 := Op.pick t35 (const (Value.bool true)) t40
              obtain ⟨w35, h35, r35⟩ := hp 8 (by decide)
              have e35 : (ac.tmps[35]?).getD undef = .bool true := (ha 35 (by decide)).trans h35
              clear h35
              obtain ⟨w40, h40, r40⟩ := hp 13 (by decide)
              have e40 : (ac.tmps[40]?).getD undef = undef := (ha 40 (by decide)).trans h40
              clear h40
              clear ha hp
              refine Reg.Op1.plain rfl ?_
              go_wp2
              exact ⟨rfl, hK _ _ rfl (fun j k _ _ => Reg.Adds.refl _ _ _)⟩
          · intro val u hR H
            obtain ⟨_, hv, _⟩ := H 14 (by decide)
            have hv : val 14 = .bool true := hv
            have HK6 : Hid (Below w2.heap.size w2 u) := (Below.refl _ w2).drew.trans hR
            simp only [List.map_cons, List.map_nil, Reg.lay, Act.put, List.setIfInBounds_toArray, List.set_cons_succ, List.set_cons_zero, Nat.reduceAdd, hv]
            clear hR H hv
            go_wp2
            go_meet
            case rel => exact ⟨by rw [hdue]; rfl, HK6.out⟩
        · have d1 : (e.seq - 1 != dv) = false := by rw [hdr]; rfl
          cases hcv : coversV vv e.deps
          · have hdue : dueE vv e = false := by rw [hde, hcv]; rfl
            refine Reg.wp_region_rel (by kernel_rfl) 90 15 rfl rfl (by kernel_rfl) (Reg.Adds) (Reg.Adds.refl) (Reg.Adds.trans)
              (fun i v u => match i with
                | 0 => v = .pointer (some ⟨wr.heap.size, 0, none⟩)
                | 1 => v = .pointer (some ⟨wr.heap.size, 2, none⟩)
                | 2 => v = .int .i64 e.seq
                | 3 => v = .int .i64 (e.seq - 1)
                | 4 => v = .agg (vcCells vv).toArray
                | 5 => v = .agg (entCells e).toArray
                | 6 => v = .int .i64 dv
                | 7 => v = .bool false
                | 8 => v = .bool false
                | 9 => v = .agg (vcCells vv).toArray
                | 10 => v = .pointer (some ⟨wr.heap.size, 9, none⟩)
                | 11 => v = .agg (vcCells e.deps).toArray
                | 12 => v = .bool false
                | 13 => v = .bool true
                | 14 => v = .bool true
                | _ => True) ?_ ?_
            · refine Reg.Steps.cons ?_ (Reg.Steps.cons ?_ (Reg.Steps.cons ?_ (Reg.Steps.cons ?_ (Reg.Steps.cons ?_ (Reg.Steps.cons ?_ (Reg.Steps.cons ?_ (Reg.Steps.cons ?_ (Reg.Steps.cons ?_ (Reg.Steps.cons ?_ (Reg.Steps.cons ?_ (Reg.Steps.cons ?_ (Reg.Steps.cons ?_ (Reg.Steps.cons ?_ (Reg.Steps.cons ?_ (Reg.Steps.nil _)))))))))))))))
              · intro val ac u hR hp ha K hK      -- 0: t27 := Op.fieldAddr 33 t8 0
                have e8 : (ac.tmps[8]?).getD undef = .pointer (some ⟨wr.heap.size, 0, none⟩) := ha 8 (by decide)
                clear ha hp
                refine Reg.Op1.plain rfl ?_
                go_wp2
                exact ⟨rfl, hK _ _ rfl (fun j k _ _ => Reg.Adds.refl _ _ _)⟩
              · intro val ac u hR hp ha K hK      -- 1: t28 := Op.fieldAddr 29 t27 2
                obtain ⟨w27, h27, r27⟩ := hp 0 (by decide)
                have e27 : (ac.tmps[27]?).getD undef = .pointer (some ⟨wr.heap.size, 0, none⟩) := (ha 27 (by decide)).trans h27
                clear h27
                clear ha hp
                refine Reg.Op1.plain rfl ?_
                go_wp2
                exact ⟨rfl, hK _ _ rfl (fun j k _ _ => Reg.Adds.refl _ _ _)⟩
              · intro val ac u hR hp ha K hK      -- 2: t29 := Op.load 3 t28
                obtain ⟨w28, h28, r28⟩ := hp 1 (by decide)
                have e28 : (ac.tmps[28]?).getD undef = .pointer (some ⟨wr.heap.size, 2, none⟩) := (ha 28 (by decide)).trans h28
                clear h28
                clear ha hp
                refine Reg.Op1.plain rfl ?_
                have x0 := (hR.cell (p := ⟨wr.heap.size, 2, none⟩) HE2.out.lt).trans (HE2.out.cell (j := 2) rfl)
                go_wp2
                exact ⟨rfl, hK _ _ rfl (fun j k _ _ => Reg.Adds.refl _ _ _)⟩
              · intro val ac u hR hp ha K hK      -- 3: t30 := Op.binOp BinOp.sub 3 t29 (const (1:i64)) 3
                obtain ⟨w29, h29, r29⟩ := hp 2 (by decide)
                have e29 : (ac.tmps[29]?).getD undef = .int .i64 e.seq := (ha 29 (by decide)).trans h29
                clear h29
                clear ha hp
                refine Reg.Op1.plain rfl ?_
                go_wp2
                exact ⟨rfl, hK _ _ rfl (fun j k _ _ => Reg.Adds.refl _ _ _)⟩
              · intro val ac u hR hp ha K hK      -- 4: t31 := Op.load 27 t3
                have e3 : (ac.tmps[3]?).getD undef = .pointer (some ⟨w.heap.size, 0, none⟩) := ha 3 (by decide)
                clear ha hp
                refine Reg.Op1.plain rfl ?_
                have hVu : VBx u w.heap.size vv := Mem.Bx.below (w := w2.drew) HN2.out.V hR HN2.out.V.lt
                refine Mem.load_agg _ _ vec_agg w.heap.size 0 (vcCells vv) (Reg.eval_of e3) (vcCells_length _) (fun j u' hu => by rw [Nat.zero_add]; exact hVu.cell hu) ?_
                exact ⟨rfl, hK _ _ rfl (fun j k _ _ => Reg.Adds.refl _ _ _)⟩
              · intro val ac u hR hp ha K hK      -- 5: t32 := Op.load 33 t8
                have e8 : (ac.tmps[8]?).getD undef = .pointer (some ⟨wr.heap.size, 0, none⟩) := ha 8 (by decide)
                clear ha hp
                refine Reg.Op1.plain rfl ?_
                have hEu : EBx u wr.heap.size e := Mem.Bx.below (w := w2.drew) HE2.out hR HE2.out.lt
                refine Mem.load_agg _ _ entry_agg wr.heap.size 0 (entCells e) (Reg.eval_of e8) (entCells_length _) (fun j u' hu => by rw [Nat.zero_add]; exact hEu.cell hu) ?_
                exact ⟨rfl, hK _ _ rfl (fun j k _ _ => Reg.Adds.refl _ _ _)⟩
              · intro val ac u hR hp ha K hK      -- 6: t33 := Op.call { value (Operand.func 32), args := #[t31, t32], argTypes := #[27, 33] }
                obtain ⟨w31, h31, r31⟩ := hp 4 (by decide)
                have e31 : (ac.tmps[31]?).getD undef = .agg (vcCells vv).toArray := (ha 31 (by decide)).trans h31
                clear h31
                obtain ⟨w32, h32, r32⟩ := hp 5 (by decide)
                have e32 : (ac.tmps[32]?).getD undef = .agg (entCells e).toArray := (ha 32 (by decide)).trans h32
                clear h32
                clear ha hp
                refine Reg.Op1.plain rfl ?_
                go_wp2_with fail
                refine (number_any vv e u HCH.out).mono ?_
                rintro x w' ⟨rfl, hbw⟩
                rw [HDV.out]
                go_wp2_with fail
                exact ⟨rfl, hK _ _ rfl (fun j k _ _ => hbw)⟩
              · intro val ac u hR hp ha K hK      -- 7: t34 := Op.binOp BinOp.neq 3 t30 t33 3
                obtain ⟨w30, h30, r30⟩ := hp 3 (by decide)
                have e30 : (ac.tmps[30]?).getD undef = .int .i64 (e.seq - 1) := (ha 30 (by decide)).trans h30
                clear h30
                obtain ⟨w33, h33, r33⟩ := hp 6 (by decide)
                have e33 : (ac.tmps[33]?).getD undef = .int .i64 dv := (ha 33 (by decide)).trans h33
                clear h33
                clear ha hp
                refine Reg.Op1.plain rfl ?_
                go_wp2
                exact ⟨rfl, hK _ _ rfl (fun j k _ _ => Reg.Adds.refl _ _ _)⟩
              · intro val ac u hR hp ha K hK      -- 8: t35 := Op.move t34
                obtain ⟨w34, h34, r34⟩ := hp 7 (by decide)
                have e34 : (ac.tmps[34]?).getD undef = .bool false := (ha 34 (by decide)).trans h34
                clear h34
                clear ha hp
                refine Reg.Op1.plain rfl ?_
                go_wp2
                exact ⟨rfl, hK _ _ rfl (fun j k _ _ => Reg.Adds.refl _ _ _)⟩
              · intro val ac u hR hp ha K hK      -- 9: t36 := Op.load 27 t3
                have e3 : (ac.tmps[3]?).getD undef = .pointer (some ⟨w.heap.size, 0, none⟩) := ha 3 (by decide)
                obtain ⟨w35, h35, r35⟩ := hp 8 (by decide)
                have e35 : (ac.tmps[35]?).getD undef = .bool false := (ha 35 (by decide)).trans h35
                clear h35
                clear ha hp
                refine Reg.Op1.guarded rfl rfl e35 (fun _ => Reg.Op1.plain rfl ?_) (fun h => absurd rfl h)
                have hVu : VBx u w.heap.size vv := Mem.Bx.below (w := w2.drew) HN2.out.V hR HN2.out.V.lt
                refine Mem.load_aggG _ _ vec_agg w.heap.size 0 (vcCells vv) (by simp [Region.wanted]) (Reg.eval_of e3) (vcCells_length _) (fun j u' hu => by rw [Nat.zero_add]; exact hVu.cell hu) ?_
                exact ⟨rfl, hK _ _ rfl (fun j k _ _ => Reg.Adds.refl _ _ _)⟩
              · intro val ac u hR hp ha K hK      -- 10: t37 := Op.fieldAddr 33 t8 5
                have e8 : (ac.tmps[8]?).getD undef = .pointer (some ⟨wr.heap.size, 0, none⟩) := ha 8 (by decide)
                obtain ⟨w35, h35, r35⟩ := hp 8 (by decide)
                have e35 : (ac.tmps[35]?).getD undef = .bool false := (ha 35 (by decide)).trans h35
                clear h35
                clear ha hp
                refine Reg.Op1.guarded rfl rfl e35 (fun _ => Reg.Op1.plain rfl ?_) (fun h => absurd rfl h)
                go_wp2
                exact ⟨rfl, hK _ _ rfl (fun j k _ _ => Reg.Adds.refl _ _ _)⟩
              · intro val ac u hR hp ha K hK      -- 11: t38 := Op.load 27 t37
                obtain ⟨w37, h37, r37⟩ := hp 10 (by decide)
                have e37 : (ac.tmps[37]?).getD undef = .pointer (some ⟨wr.heap.size, 9, none⟩) := (ha 37 (by decide)).trans h37
                clear h37
                obtain ⟨w35, h35, r35⟩ := hp 8 (by decide)
                have e35 : (ac.tmps[35]?).getD undef = .bool false := (ha 35 (by decide)).trans h35
                clear h35
                clear ha hp
                refine Reg.Op1.guarded rfl rfl e35 (fun _ => Reg.Op1.plain rfl ?_) (fun h => absurd rfl h)
                have hEu : EBx u wr.heap.size e := Mem.Bx.below (w := w2.drew) HE2.out hR HE2.out.lt
                refine Mem.load_aggG _ _ vec_agg wr.heap.size 9 (vcCells e.deps) (by simp [Region.wanted]) (Reg.eval_of e37) (vcCells_length _) (hEu.part 9 rfl) ?_
                exact ⟨rfl, hK _ _ rfl (fun j k _ _ => Reg.Adds.refl _ _ _)⟩
              · intro val ac u hR hp ha K hK      -- 12: t39 := Op.call { value (Operand.func 33), args := #[t36, t38], argTypes := #[27, 27] }
                obtain ⟨w36, h36, r36⟩ := hp 9 (by decide)
                have e36 : (ac.tmps[36]?).getD undef = .agg (vcCells vv).toArray := (ha 36 (by decide)).trans h36
                clear h36
                obtain ⟨w38, h38, r38⟩ := hp 11 (by decide)
                have e38 : (ac.tmps[38]?).getD undef = .agg (vcCells e.deps).toArray := (ha 38 (by decide)).trans h38
                clear h38
                obtain ⟨w35, h35, r35⟩ := hp 8 (by decide)
                have e35 : (ac.tmps[35]?).getD undef = .bool false := (ha 35 (by decide)).trans h35
                clear h35
                clear ha hp
                refine Reg.Op1.guarded rfl rfl e35 (fun _ => Reg.Op1.plain rfl ?_) (fun h => absurd rfl h)
                go_wp2_with fail
                refine (refCovers_any vv e.deps u).mono ?_
                rintro x w' ⟨rfl, hbw⟩
                rw [hcv]
                go_wp2_with fail
                exact ⟨rfl, hK _ _ rfl (fun j k _ _ => hbw)⟩
              · intro val ac u hR hp ha K hK      -- 13: t40 := Op.unOp UnOp.not 4 t39
                obtain ⟨w39, h39, r39⟩ := hp 12 (by decide)
                have e39 : (ac.tmps[39]?).getD undef = .bool false := (ha 39 (by decide)).trans h39
                clear h39
                obtain ⟨w35, h35, r35⟩ := hp 8 (by decide)
                have e35 : (ac.tmps[35]?).getD undef = .bool false := (ha 35 (by decide)).trans h35
                clear h35
                clear ha hp
                refine Reg.Op1.guarded rfl rfl e35 (fun _ => Reg.Op1.plain rfl ?_) (fun h => absurd rfl h)
                go_wp2
                exact ⟨rfl, hK _ _ rfl (fun j k _ _ => Reg.Adds.refl _ _ _)⟩
              · intro val ac u hR hp ha K hK      -- 14: t41 := Op.pick t35 (const (Value.bool true)) t40
                obtain ⟨w35, h35, r35⟩ := hp 8 (by decide)
                have e35 : (ac.tmps[35]?).getD undef = .bool false := (ha 35 (by decide)).trans h35
                clear h35
                obtain ⟨w40, h40, r40⟩ := hp 13 (by decide)
                have e40 : (ac.tmps[40]?).getD undef = .bool true := (ha 40 (by decide)).trans h40
                clear h40
                clear ha hp
                refine Reg.Op1.plain rfl ?_
                go_wp2
                exact ⟨rfl, hK _ _ rfl (fun j k _ _ => Reg.Adds.refl _ _ _)⟩
            · intro val u hR H
              obtain ⟨_, hv, _⟩ := H 14 (by decide)
              have hv : val 14 = .bool true := hv
              have HK6 : Hid (Below w2.heap.size w2 u) := (Below.refl _ w2).drew.trans hR
              simp only [List.map_cons, List.map_nil, Reg.lay, Act.put, List.setIfInBounds_toArray, List.set_cons_succ, List.set_cons_zero, Nat.reduceAdd, hv]
              clear hR H hv
              go_wp2
              go_meet
              case rel => exact ⟨by rw [hdue]; rfl, HK6.out⟩
          · have hdue : dueE vv e = true := by rw [hde, hcv]; rfl
            refine Reg.wp_region_rel (by kernel_rfl) 90 15 rfl rfl (by kernel_rfl) (Reg.Adds) (Reg.Adds.refl) (Reg.Adds.trans)
              (fun i v u => match i with
                | 0 => v = .pointer (some ⟨wr.heap.size, 0, none⟩)
                | 1 => v = .pointer (some ⟨wr.heap.size, 2, none⟩)
                | 2 => v = .int .i64 e.seq
                | 3 => v = .int .i64 (e.seq - 1)
                | 4 => v = .agg (vcCells vv).toArray
                | 5 => v = .agg (entCells e).toArray
                | 6 => v = .int .i64 dv
                | 7 => v = .bool false
                | 8 => v = .bool false
                | 9 => v = .agg (vcCells vv).toArray
                | 10 => v = .pointer (some ⟨wr.heap.size, 9, none⟩)
                | 11 => v = .agg (vcCells e.deps).toArray
                | 12 => v = .bool true
                | 13 => v = .bool false
                | 14 => v = .bool false
                | _ => True) ?_ ?_
            · refine Reg.Steps.cons ?_ (Reg.Steps.cons ?_ (Reg.Steps.cons ?_ (Reg.Steps.cons ?_ (Reg.Steps.cons ?_ (Reg.Steps.cons ?_ (Reg.Steps.cons ?_ (Reg.Steps.cons ?_ (Reg.Steps.cons ?_ (Reg.Steps.cons ?_ (Reg.Steps.cons ?_ (Reg.Steps.cons ?_ (Reg.Steps.cons ?_ (Reg.Steps.cons ?_ (Reg.Steps.cons ?_ (Reg.Steps.nil _)))))))))))))))
              · intro val ac u hR hp ha K hK      -- 0: t27 := Op.fieldAddr 33 t8 0
                have e8 : (ac.tmps[8]?).getD undef = .pointer (some ⟨wr.heap.size, 0, none⟩) := ha 8 (by decide)
                clear ha hp
                refine Reg.Op1.plain rfl ?_
                go_wp2
                exact ⟨rfl, hK _ _ rfl (fun j k _ _ => Reg.Adds.refl _ _ _)⟩
              · intro val ac u hR hp ha K hK      -- 1: t28 := Op.fieldAddr 29 t27 2
                obtain ⟨w27, h27, r27⟩ := hp 0 (by decide)
                have e27 : (ac.tmps[27]?).getD undef = .pointer (some ⟨wr.heap.size, 0, none⟩) := (ha 27 (by decide)).trans h27
                clear h27
                clear ha hp
                refine Reg.Op1.plain rfl ?_
                go_wp2
                exact ⟨rfl, hK _ _ rfl (fun j k _ _ => Reg.Adds.refl _ _ _)⟩
              · intro val ac u hR hp ha K hK      -- 2: t29 := Op.load 3 t28
                obtain ⟨w28, h28, r28⟩ := hp 1 (by decide)
                have e28 : (ac.tmps[28]?).getD undef = .pointer (some ⟨wr.heap.size, 2, none⟩) := (ha 28 (by decide)).trans h28
                clear h28
                clear ha hp
                refine Reg.Op1.plain rfl ?_
                have x0 := (hR.cell (p := ⟨wr.heap.size, 2, none⟩) HE2.out.lt).trans (HE2.out.cell (j := 2) rfl)
                go_wp2
                exact ⟨rfl, hK _ _ rfl (fun j k _ _ => Reg.Adds.refl _ _ _)⟩
              · intro val ac u hR hp ha K hK      -- 3: t30 := Op.binOp BinOp.sub 3 t29 (const (1:i64)) 3
                obtain ⟨w29, h29, r29⟩ := hp 2 (by decide)
                have e29 : (ac.tmps[29]?).getD undef = .int .i64 e.seq := (ha 29 (by decide)).trans h29
                clear h29
                clear ha hp
                refine Reg.Op1.plain rfl ?_
                go_wp2
                exact ⟨rfl, hK _ _ rfl (fun j k _ _ => Reg.Adds.refl _ _ _)⟩
              · intro val ac u hR hp ha K hK      -- 4: t31 := Op.load 27 t3
                have e3 : (ac.tmps[3]?).getD undef = .pointer (some ⟨w.heap.size, 0, none⟩) := ha 3 (by decide)
                clear ha hp
                refine Reg.Op1.plain rfl ?_
                have hVu : VBx u w.heap.size vv := Mem.Bx.below (w := w2.drew) HN2.out.V hR HN2.out.V.lt
                refine Mem.load_agg _ _ vec_agg w.heap.size 0 (vcCells vv) (Reg.eval_of e3) (vcCells_length _) (fun j u' hu => by rw [Nat.zero_add]; exact hVu.cell hu) ?_
                exact ⟨rfl, hK _ _ rfl (fun j k _ _ => Reg.Adds.refl _ _ _)⟩
              · intro val ac u hR hp ha K hK      -- 5: t32 := Op.load 33 t8
                have e8 : (ac.tmps[8]?).getD undef = .pointer (some ⟨wr.heap.size, 0, none⟩) := ha 8 (by decide)
                clear ha hp
                refine Reg.Op1.plain rfl ?_
                have hEu : EBx u wr.heap.size e := Mem.Bx.below (w := w2.drew) HE2.out hR HE2.out.lt
                refine Mem.load_agg _ _ entry_agg wr.heap.size 0 (entCells e) (Reg.eval_of e8) (entCells_length _) (fun j u' hu => by rw [Nat.zero_add]; exact hEu.cell hu) ?_
                exact ⟨rfl, hK _ _ rfl (fun j k _ _ => Reg.Adds.refl _ _ _)⟩
              · intro val ac u hR hp ha K hK      -- 6: t33 := Op.call { value (Operand.func 32), args := #[t31, t32], argTypes := #[27, 33] }
                obtain ⟨w31, h31, r31⟩ := hp 4 (by decide)
                have e31 : (ac.tmps[31]?).getD undef = .agg (vcCells vv).toArray := (ha 31 (by decide)).trans h31
                clear h31
                obtain ⟨w32, h32, r32⟩ := hp 5 (by decide)
                have e32 : (ac.tmps[32]?).getD undef = .agg (entCells e).toArray := (ha 32 (by decide)).trans h32
                clear h32
                clear ha hp
                refine Reg.Op1.plain rfl ?_
                go_wp2_with fail
                refine (number_any vv e u HCH.out).mono ?_
                rintro x w' ⟨rfl, hbw⟩
                rw [HDV.out]
                go_wp2_with fail
                exact ⟨rfl, hK _ _ rfl (fun j k _ _ => hbw)⟩
              · intro val ac u hR hp ha K hK      -- 7: t34 := Op.binOp BinOp.neq 3 t30 t33 3
                obtain ⟨w30, h30, r30⟩ := hp 3 (by decide)
                have e30 : (ac.tmps[30]?).getD undef = .int .i64 (e.seq - 1) := (ha 30 (by decide)).trans h30
                clear h30
                obtain ⟨w33, h33, r33⟩ := hp 6 (by decide)
                have e33 : (ac.tmps[33]?).getD undef = .int .i64 dv := (ha 33 (by decide)).trans h33
                clear h33
                clear ha hp
                refine Reg.Op1.plain rfl ?_
                go_wp2
                exact ⟨rfl, hK _ _ rfl (fun j k _ _ => Reg.Adds.refl _ _ _)⟩
              · intro val ac u hR hp ha K hK      -- 8: t35 := Op.move t34
                obtain ⟨w34, h34, r34⟩ := hp 7 (by decide)
                have e34 : (ac.tmps[34]?).getD undef = .bool false := (ha 34 (by decide)).trans h34
                clear h34
                clear ha hp
                refine Reg.Op1.plain rfl ?_
                go_wp2
                exact ⟨rfl, hK _ _ rfl (fun j k _ _ => Reg.Adds.refl _ _ _)⟩
              · intro val ac u hR hp ha K hK      -- 9: t36 := Op.load 27 t3
                have e3 : (ac.tmps[3]?).getD undef = .pointer (some ⟨w.heap.size, 0, none⟩) := ha 3 (by decide)
                obtain ⟨w35, h35, r35⟩ := hp 8 (by decide)
                have e35 : (ac.tmps[35]?).getD undef = .bool false := (ha 35 (by decide)).trans h35
                clear h35
                clear ha hp
                refine Reg.Op1.guarded rfl rfl e35 (fun _ => Reg.Op1.plain rfl ?_) (fun h => absurd rfl h)
                have hVu : VBx u w.heap.size vv := Mem.Bx.below (w := w2.drew) HN2.out.V hR HN2.out.V.lt
                refine Mem.load_aggG _ _ vec_agg w.heap.size 0 (vcCells vv) (by simp [Region.wanted]) (Reg.eval_of e3) (vcCells_length _) (fun j u' hu => by rw [Nat.zero_add]; exact hVu.cell hu) ?_
                exact ⟨rfl, hK _ _ rfl (fun j k _ _ => Reg.Adds.refl _ _ _)⟩
              · intro val ac u hR hp ha K hK      -- 10: t37 := Op.fieldAddr 33 t8 5
                have e8 : (ac.tmps[8]?).getD undef = .pointer (some ⟨wr.heap.size, 0, none⟩) := ha 8 (by decide)
                obtain ⟨w35, h35, r35⟩ := hp 8 (by decide)
                have e35 : (ac.tmps[35]?).getD undef = .bool false := (ha 35 (by decide)).trans h35
                clear h35
                clear ha hp
                refine Reg.Op1.guarded rfl rfl e35 (fun _ => Reg.Op1.plain rfl ?_) (fun h => absurd rfl h)
                go_wp2
                exact ⟨rfl, hK _ _ rfl (fun j k _ _ => Reg.Adds.refl _ _ _)⟩
              · intro val ac u hR hp ha K hK      -- 11: t38 := Op.load 27 t37
                obtain ⟨w37, h37, r37⟩ := hp 10 (by decide)
                have e37 : (ac.tmps[37]?).getD undef = .pointer (some ⟨wr.heap.size, 9, none⟩) := (ha 37 (by decide)).trans h37
                clear h37
                obtain ⟨w35, h35, r35⟩ := hp 8 (by decide)
                have e35 : (ac.tmps[35]?).getD undef = .bool false := (ha 35 (by decide)).trans h35
                clear h35
                clear ha hp
                refine Reg.Op1.guarded rfl rfl e35 (fun _ => Reg.Op1.plain rfl ?_) (fun h => absurd rfl h)
                have hEu : EBx u wr.heap.size e := Mem.Bx.below (w := w2.drew) HE2.out hR HE2.out.lt
                refine Mem.load_aggG _ _ vec_agg wr.heap.size 9 (vcCells e.deps) (by simp [Region.wanted]) (Reg.eval_of e37) (vcCells_length _) (hEu.part 9 rfl) ?_
                exact ⟨rfl, hK _ _ rfl (fun j k _ _ => Reg.Adds.refl _ _ _)⟩
              · intro val ac u hR hp ha K hK      -- 12: t39 := Op.call { value (Operand.func 33), args := #[t36, t38], argTypes := #[27, 27] }
                obtain ⟨w36, h36, r36⟩ := hp 9 (by decide)
                have e36 : (ac.tmps[36]?).getD undef = .agg (vcCells vv).toArray := (ha 36 (by decide)).trans h36
                clear h36
                obtain ⟨w38, h38, r38⟩ := hp 11 (by decide)
                have e38 : (ac.tmps[38]?).getD undef = .agg (vcCells e.deps).toArray := (ha 38 (by decide)).trans h38
                clear h38
                obtain ⟨w35, h35, r35⟩ := hp 8 (by decide)
                have e35 : (ac.tmps[35]?).getD undef = .bool false := (ha 35 (by decide)).trans h35
                clear h35
                clear ha hp
                refine Reg.Op1.guarded rfl rfl e35 (fun _ => Reg.Op1.plain rfl ?_) (fun h => absurd rfl h)
                go_wp2_with fail
                refine (refCovers_any vv e.deps u).mono ?_
                rintro x w' ⟨rfl, hbw⟩
                rw [hcv]
                go_wp2_with fail
                exact ⟨rfl, hK _ _ rfl (fun j k _ _ => hbw)⟩
              · intro val ac u hR hp ha K hK      -- 13: t40 := Op.unOp UnOp.not 4 t39
                obtain ⟨w39, h39, r39⟩ := hp 12 (by decide)
                have e39 : (ac.tmps[39]?).getD undef = .bool true := (ha 39 (by decide)).trans h39
                clear h39
                obtain ⟨w35, h35, r35⟩ := hp 8 (by decide)
                have e35 : (ac.tmps[35]?).getD undef = .bool false := (ha 35 (by decide)).trans h35
                clear h35
                clear ha hp
                refine Reg.Op1.guarded rfl rfl e35 (fun _ => Reg.Op1.plain rfl ?_) (fun h => absurd rfl h)
                go_wp2
                exact ⟨rfl, hK _ _ rfl (fun j k _ _ => Reg.Adds.refl _ _ _)⟩
              · intro val ac u hR hp ha K hK      -- 14: t41 := Op.pick t35 (const (Value.bool true)) t40
                obtain ⟨w35, h35, r35⟩ := hp 8 (by decide)
                have e35 : (ac.tmps[35]?).getD undef = .bool false := (ha 35 (by decide)).trans h35
                clear h35
                obtain ⟨w40, h40, r40⟩ := hp 13 (by decide)
                have e40 : (ac.tmps[40]?).getD undef = .bool false := (ha 40 (by decide)).trans h40
                clear h40
                clear ha hp
                refine Reg.Op1.plain rfl ?_
                go_wp2
                exact ⟨rfl, hK _ _ rfl (fun j k _ _ => Reg.Adds.refl _ _ _)⟩
            · intro val u hR H
              obtain ⟨_, hv, _⟩ := H 14 (by decide)
              have hv : val 14 = .bool false := hv
              have HK6 : Hid (Below w2.heap.size w2 u) := (Below.refl _ w2).drew.trans hR
              simp only [List.map_cons, List.map_nil, Reg.lay, Act.put, List.setIfInBounds_toArray, List.set_cons_succ, List.set_cons_zero, Nat.reduceAdd, hv]
              clear hR H hv
              go_wp2
              go_meet
              case rel => exact ⟨by rw [hdue]; rfl, HK6.out⟩
      case rest =>
        obtain ⟨rfl, hbc⟩ := hcut
        have HE3 : Hid (EBx wc wr.heap.size e) := HE2.out.below hbc HE2.out.lt
        have HN3 := Lib.hid (HN2.out.below hbc)
        have hbl : b < wc.heap.size := HN3.out.H.O.lt rfl
        obtain ⟨gb, hgb⟩ : ∃ gb, wr.heap.size = gb := ⟨_, rfl⟩
        rw [hgb] at HE3 ⊢
        clear hbc HN2 HE2 hde HDV hdr hgb hzr
        rename World => w3
        cases hdue : dueE vv e
        case false =>
          have HT2 : Hid (bestTo vv es (k + 1) = bestTo vv es k) := by show _ = _; rw [HTS.out]; unfold nextStep; rw [if_neg (by simp [hdue])]
          obtain ⟨bb, hbb⟩ : ∃ bb, bI (bestTo vv es k) = bb := ⟨_, rfl⟩
          have HT1 : Hid (bI (bestTo vv es (k + 1)) = bb) := by show _ = _; rw [HT2.out, hbb]
          rw [hbb]
          clear hbb hdue HTS HT2
          go_wp2
          go_roundw
          case rel => exact ⟨⟨k + 1, by omega, by rw [HT1.out], by go_num, HN3⟩⟩
          case measure => simp [intOf]; omega
        case true =>
          cases hbt : bestTo vv es k with
          | none =>
            have HT2 : Hid (bestTo vv es (k + 1) = some k) := by show _ = _; rw [HTS.out]; unfold nextStep; rw [if_pos hdue, hbt]
            have HT1 : Hid (bI (bestTo vv es (k + 1)) = (k : Int)) := by show _ = _; rw [HT2.out]; rfl
            obtain ⟨m, hm0⟩ : ∃ m : Ent, m = e := ⟨_, rfl⟩
            have HM : Hid (True) := trivial
            rw [show bI none = -1 from rfl]
            clear hbt hdue HTS HT2
            go_upto_region 7 with fail
            refine Reg.wp_region_rel (by kernel_rfl) 90 16 rfl rfl (by kernel_rfl) (Reg.Adds) (Reg.Adds.refl) (Reg.Adds.trans)
              (fun i v u => match i with
                | 0 => v = .int .i64 (-1)
                | 1 => v = .bool true
                | 2 => v = .bool true
                | 3 => v = undef
                | 4 => v = undef
                | 5 => v = undef
                | 6 => v = undef
                | 7 => v = undef
                | 8 => v = undef
                | 9 => v = undef
                | 10 => v = undef
                | 11 => v = undef
                | 12 => v = undef
                | 13 => v = undef
                | 14 => v = undef
                | 15 => v = .bool true
                | _ => True) ?_ ?_
            · refine Reg.Steps.cons ?_ (Reg.Steps.cons ?_ (Reg.Steps.cons ?_ (Reg.Steps.cons ?_ (Reg.Steps.cons ?_ (Reg.Steps.cons ?_ (Reg.Steps.cons ?_ (Reg.Steps.cons ?_ (Reg.Steps.cons ?_ (Reg.Steps.cons ?_ (Reg.Steps.cons ?_ (Reg.Steps.cons ?_ (Reg.Steps.cons ?_ (Reg.Steps.cons ?_ (Reg.Steps.cons ?_ (Reg.Steps.cons ?_ (Reg.Steps.nil _))))))))))))))))
              · intro val ac u hR hp ha K hK      -- 0: t42 := Op.move t6
                have e6 : (ac.tmps[6]?).getD undef = .int .i64 (-1) := ha 6 (by decide)
                clear ha hp
                refine Reg.Op1.plain rfl ?_
                go_wp2
                exact ⟨rfl, hK _ _ rfl (fun j k _ _ => Reg.Adds.refl _ _ _)⟩
              · intro val ac u hR hp ha K hK      -- 1: t43 := Op.binOp BinOp.lss 3 t42 (const (0:i64)) 3
                obtain ⟨w42, h42, r42⟩ := hp 0 (by decide)
                have e42 : (ac.tmps[42]?).getD undef = .int .i64 (-1) := (ha 42 (by decide)).trans h42
                clear h42
                clear ha hp
                refine Reg.Op1.plain rfl ?_
                go_wp2
                exact ⟨rfl, hK _ _ rfl (fun j k _ _ => Reg.Adds.refl _ _ _)⟩
              · intro val ac u hR hp ha K hK      -- 2: t44 := Op.move t43
                obtain ⟨w43, h43, r43⟩ := hp 1 (by decide)
                have e43 : (ac.tmps[43]?).getD undef = .bool true := (ha 43 (by decide)).trans h43
                clear h43
                clear ha hp
                refine Reg.Op1.plain rfl ?_
                go_wp2
                exact ⟨rfl, hK _ _ rfl (fun j k _ _ => Reg.Adds.refl _ _ _)⟩
              · intro val ac u hR hp ha K hK      -- 3: t45 := Op.fieldAddr 33 t8 1
                obtain ⟨w44, h44, r44⟩ := hp 2 (by decide)
                have e44 : (ac.tmps[44]?).getD undef = .bool true := (ha 44 (by decide)).trans h44
                clear h44
                clear ha hp
                exact Reg.Op1.guarded rfl rfl e44 (fun h => by cases h) (fun _ => hK _ _ rfl (fun j k _ _ => Reg.Adds.refl _ _ _))
              · intro val ac u hR hp ha K hK      -- 4: t46 := Op.load 31 t45
                obtain ⟨w44, h44, r44⟩ := hp 2 (by decide)
                have e44 : (ac.tmps[44]?).getD undef = .bool true := (ha 44 (by decide)).trans h44
                clear h44
                clear ha hp
                exact Reg.Op1.guarded rfl rfl e44 (fun h => by cases h) (fun _ => hK _ _ rfl (fun j k _ _ => Reg.Adds.refl _ _ _))
              · intro val ac u hR hp ha K hK      -- 5: t47 := Op.move t0
                obtain ⟨w44, h44, r44⟩ := hp 2 (by decide)
                have e44 : (ac.tmps[44]?).getD undef = .bool true := (ha 44 (by decide)).trans h44
                clear h44
                clear ha hp
                exact Reg.Op1.guarded rfl rfl e44 (fun h => by cases h) (fun _ => hK _ _ rfl (fun j k _ _ => Reg.Adds.refl _ _ _))
              · intro val ac u hR hp ha K hK      -- 6: t48 := Op.nilCheck t47
                obtain ⟨w44, h44, r44⟩ := hp 2 (by decide)
                have e44 : (ac.tmps[44]?).getD undef = .bool true := (ha 44 (by decide)).trans h44
                clear h44
                clear ha hp
                exact Reg.Op1.guarded rfl rfl e44 (fun h => by cases h) (fun _ => hK _ _ rfl (fun j k _ _ => Reg.Adds.refl _ _ _))
              · intro val ac u hR hp ha K hK      -- 7: t49 := Op.fieldAddr 53 t48 1
                obtain ⟨w44, h44, r44⟩ := hp 2 (by decide)
                have e44 : (ac.tmps[44]?).getD undef = .bool true := (ha 44 (by decide)).trans h44
                clear h44
                clear ha hp
                exact Reg.Op1.guarded rfl rfl e44 (fun h => by cases h) (fun _ => hK _ _ rfl (fun j k _ _ => Reg.Adds.refl _ _ _))
              · intro val ac u hR hp ha K hK      -- 8: t50 := Op.load 24 t49
                obtain ⟨w44, h44, r44⟩ := hp 2 (by decide)
                have e44 : (ac.tmps[44]?).getD undef = .bool true := (ha 44 (by decide)).trans h44
                clear h44
                clear ha hp
                exact Reg.Op1.guarded rfl rfl e44 (fun h => by cases h) (fun _ => hK _ _ rfl (fun j k _ _ => Reg.Adds.refl _ _ _))
              · intro val ac u hR hp ha K hK      -- 9: t51 := Op.move t6
                obtain ⟨w44, h44, r44⟩ := hp 2 (by decide)
                have e44 : (ac.tmps[44]?).getD undef = .bool true := (ha 44 (by decide)).trans h44
                clear h44
                clear ha hp
                exact Reg.Op1.guarded rfl rfl e44 (fun h => by cases h) (fun _ => hK _ _ rfl (fun j k _ _ => Reg.Adds.refl _ _ _))
              · intro val ac u hR hp ha K hK      -- 10: t52 := Op.indexAddr 24 t50 t51
                obtain ⟨w44, h44, r44⟩ := hp 2 (by decide)
                have e44 : (ac.tmps[44]?).getD undef = .bool true := (ha 44 (by decide)).trans h44
                clear h44
                clear ha hp
                exact Reg.Op1.guarded rfl rfl e44 (fun h => by cases h) (fun _ => hK _ _ rfl (fun j k _ _ => Reg.Adds.refl _ _ _))
              · intro val ac u hR hp ha K hK      -- 11: t53 := Op.fieldAddr 33 t52 1
                obtain ⟨w44, h44, r44⟩ := hp 2 (by decide)
                have e44 : (ac.tmps[44]?).getD undef = .bool true := (ha 44 (by decide)).trans h44
                clear h44
                clear ha hp
                exact Reg.Op1.guarded rfl rfl e44 (fun h => by cases h) (fun _ => hK _ _ rfl (fun j k _ _ => Reg.Adds.refl _ _ _))
              · intro val ac u hR hp ha K hK      -- 12: t54 := Op.load 31 t53
                obtain ⟨w44, h44, r44⟩ := hp 2 (by decide)
                have e44 : (ac.tmps[44]?).getD undef = .bool true := (ha 44 (by decide)).trans h44
                clear h44
                clear ha hp
                exact Reg.Op1.guarded rfl rfl e44 (fun h => by cases h) (fun _ => hK _ _ rfl (fun j k _ _ => Reg.Adds.refl _ _ _))
              · intro val ac u hR hp ha K hK      -- 13: t55 := Op.call { value (Operand.func 34), args := #[t46, t54], argTypes := #[31, 31] }
                obtain ⟨w44, h44, r44⟩ := hp 2 (by decide)
                have e44 : (ac.tmps[44]?).getD undef = .bool true := (ha 44 (by decide)).trans h44
                clear h44
                clear ha hp
                exact Reg.Op1.guarded rfl rfl e44 (fun h => by cases h) (fun _ => hK _ _ rfl (fun j k _ _ => Reg.Adds.refl _ _ _))
              · intro val ac u hR hp ha K hK      -- 14: t56 := Op.binOp BinOp.lss 3 t55 (const (0:i64)) 3
                obtain ⟨w44, h44, r44⟩ := hp 2 (by decide)
                have e44 : (ac.tmps[44]?).getD undef = .bool true := (ha 44 (by decide)).trans h44
                clear h44
                clear ha hp
                exact Reg.Op1.guarded rfl rfl e44 (fun h => by cases h) (fun _ => hK _ _ rfl (fun j k _ _ => Reg.Adds.refl _ _ _))
              · intro val ac u hR hp ha K hK      -- 15: t57 := Op.pick t44 (const (Value.bool true)) t56
                obtain ⟨w44, h44, r44⟩ := hp 2 (by decide)
                have e44 : (ac.tmps[44]?).getD undef = .bool true := (ha 44 (by decide)).trans h44
                clear h44
                obtain ⟨w56, h56, r56⟩ := hp 14 (by decide)
                have e56 : (ac.tmps[56]?).getD undef = undef := (ha 56 (by decide)).trans h56
                clear h56
                clear ha hp
                refine Reg.Op1.plain rfl ?_
                go_wp2
                exact ⟨rfl, hK _ _ rfl (fun j k _ _ => Reg.Adds.refl _ _ _)⟩
            · intro val u hR H
              obtain ⟨_, hv, _⟩ := H 15 (by decide)
              have hv : val 15 = .bool true := hv
              have HK6 : Hid (Below w3.heap.size w3 u) := (Below.refl _ w3).drew.trans hR
              have HN4 := Lib.hid (HN3.out.below HK6.out)
              simp only [List.map_cons, List.map_nil, Reg.lay, Act.put, List.setIfInBounds_toArray, List.set_cons_succ, List.set_cons_zero, Nat.reduceAdd, hv]
              clear hR H hv
              go_wp2
              go_roundw
              case rel => exact ⟨⟨k + 1, by omega, by rw [HT1.out], by go_num, HN4⟩⟩
              case measure => simp [intOf]; omega
          | some j =>
            obtain ⟨hj1, hj2⟩ := bestTo_lt vv es k j hbt
            obtain ⟨b', o', m, hb1, hb2, hm, HM0⟩ := ent_elem HN3.out.H.O.rd hj2
            obtain ⟨rfl, rfl⟩ : b = b' ∧ o = o' := by injection hb1 with h; injection h with h1 h2; exact ⟨h1, h2⟩
            have HM := Lib.hid HM0
            have hgm : es.getD j ent0 = m := by rw [List.getD_eq_getElem?_getD, hm]; rfl
            have HT0 : Hid (bestTo vv es (k + 1) = if Stamp.cmpS e.st m.st < 0 then some k else some j) := by show _ = _; rw [HTS.out]; unfold nextStep; rw [if_pos hdue, hbt]; simp only [hgm]
            have hbj : bI (some j) = (j : Int) := rfl
            have d2 : decide ((j : Int) < 0) = false := by simp
            clear hb1 hm HM0 hgm hbt hdue
            rw [hbj]
            by_cases hcm : Stamp.cmpS e.st m.st < 0
            · have d3 : decide (Stamp.cmpS e.st m.st < 0) = true := by simpa using hcm
              have HT1 : Hid (bI (bestTo vv es (k + 1)) = (k : Int)) := by show _ = _; rw [HT0.out, if_pos hcm]; rfl
              clear hcm HT0
              go_upto_region 7 with fail
              refine Reg.wp_region_rel (by kernel_rfl) 90 16 rfl rfl (by kernel_rfl) (Reg.Adds) (Reg.Adds.refl) (Reg.Adds.trans)
                (fun i v u => match i with
                  | 0 => v = .int .i64 j
                  | 1 => v = .bool false
                  | 2 => v = .bool false
                  | 3 => v = .pointer (some ⟨gb, 3, none⟩)
                  | 4 => v = Stamp.S e.st
                  | 5 => v = .pointer (some ⟨g, 0, none⟩)
                  | 6 => v = .pointer (some ⟨g, 0, none⟩)
                  | 7 => v = .pointer (some ⟨g, 1, none⟩)
                  | 8 => v = .slice (some ⟨b, o, none⟩) es.length c
                  | 9 => v = .int .i64 j
                  | 10 => v = .pointer (some ⟨b, o + j * 20, none⟩)
                  | 11 => v = .pointer (some ⟨b, o + j * 20 + 3, none⟩)
                  | 12 => v = Stamp.S m.st
                  | 13 => v = .int .i64 (Stamp.cmpS e.st m.st)
                  | 14 => v = .bool true
                  | 15 => v = .bool true
                  | _ => True) ?_ ?_
              · refine Reg.Steps.cons ?_ (Reg.Steps.cons ?_ (Reg.Steps.cons ?_ (Reg.Steps.cons ?_ (Reg.Steps.cons ?_ (Reg.Steps.cons ?_ (Reg.Steps.cons ?_ (Reg.Steps.cons ?_ (Reg.Steps.cons ?_ (Reg.Steps.cons ?_ (Reg.Steps.cons ?_ (Reg.Steps.cons ?_ (Reg.Steps.cons ?_ (Reg.Steps.cons ?_ (Reg.Steps.cons ?_ (Reg.Steps.cons ?_ (Reg.Steps.nil _))))))))))))))))
                · intro val ac u hR hp ha K hK      -- 0: t42 := Op.move t6
                  have e6 : (ac.tmps[6]?).getD undef = .int .i64 j := ha 6 (by decide)
                  clear ha hp
                  refine Reg.Op1.plain rfl ?_
                  go_wp2
                  exact ⟨rfl, hK _ _ rfl (fun j k _ _ => Reg.Adds.refl _ _ _)⟩
                · intro val ac u hR hp ha K hK      -- 1: t43 := Op.binOp BinOp.lss 3 t42 (const (0:i64)) 3
                  obtain ⟨w42, h42, r42⟩ := hp 0 (by decide)
                  have e42 : (ac.tmps[42]?).getD undef = .int .i64 j := (ha 42 (by decide)).trans h42
                  clear h42
                  clear ha hp
                  refine Reg.Op1.plain rfl ?_
                  go_wp2
                  exact ⟨rfl, hK _ _ rfl (fun j k _ _ => Reg.Adds.refl _ _ _)⟩
                · intro val ac u hR hp ha K hK      -- 2: t44 := Op.move t43
                  obtain ⟨w43, h43, r43⟩ := hp 1 (by decide)
                  have e43 : (ac.tmps[43]?).getD undef = .bool false := (ha 43 (by decide)).trans h43
                  clear h43
                  clear ha hp
                  refine Reg.Op1.plain rfl ?_
                  go_wp2
                  exact ⟨rfl, hK _ _ rfl (fun j k _ _ => Reg.Adds.refl _ _ _)⟩
                · intro val ac u hR hp ha K hK      -- 3: t45 := Op.fieldAddr 33 t8 1
                  have e8 : (ac.tmps[8]?).getD undef = .pointer (some ⟨gb, 0, none⟩) := ha 8 (by decide)
                  obtain ⟨w44, h44, r44⟩ := hp 2 (by decide)
                  have e44 : (ac.tmps[44]?).getD undef = .bool false := (ha 44 (by decide)).trans h44
                  clear h44
                  clear ha hp
                  refine Reg.Op1.guarded rfl rfl e44 (fun _ => Reg.Op1.plain rfl ?_) (fun h => absurd rfl h)
                  go_wp2
                  exact ⟨rfl, hK _ _ rfl (fun j k _ _ => Reg.Adds.refl _ _ _)⟩
                · intro val ac u hR hp ha K hK      -- 4: t46 := Op.load 31 t45
                  obtain ⟨w45, h45, r45⟩ := hp 3 (by decide)
                  have e45 : (ac.tmps[45]?).getD undef = .pointer (some ⟨gb, 3, none⟩) := (ha 45 (by decide)).trans h45
                  clear h45
                  obtain ⟨w44, h44, r44⟩ := hp 2 (by decide)
                  have e44 : (ac.tmps[44]?).getD undef = .bool false := (ha 44 (by decide)).trans h44
                  clear h44
                  clear ha hp
                  refine Reg.Op1.guarded rfl rfl e44 (fun _ => Reg.Op1.plain rfl ?_) (fun h => absurd rfl h)
                  obtain ⟨x3, x4, x5⟩ := HE3.out.st
                  have z3 := (hR.cell (p := ⟨gb, 3, none⟩) HE3.out.lt).trans x3
                  have z4 := (hR.cell (p := ⟨gb, 4, none⟩) HE3.out.lt).trans x4
                  have z5 := (hR.cell (p := ⟨gb, 5, none⟩) HE3.out.lt).trans x5
                  go_wp2
                  exact ⟨rfl, hK _ _ rfl (fun j k _ _ => Reg.Adds.refl _ _ _)⟩
                · intro val ac u hR hp ha K hK      -- 5: t47 := Op.move t0
                  have e0 : (ac.tmps[0]?).getD undef = .pointer (some ⟨g, 0, none⟩) := ha 0 (by decide)
                  obtain ⟨w44, h44, r44⟩ := hp 2 (by decide)
                  have e44 : (ac.tmps[44]?).getD undef = .bool false := (ha 44 (by decide)).trans h44
                  clear h44
                  clear ha hp
                  refine Reg.Op1.guarded rfl rfl e44 (fun _ => Reg.Op1.plain rfl ?_) (fun h => absurd rfl h)
                  go_wp2
                  exact ⟨rfl, hK _ _ rfl (fun j k _ _ => Reg.Adds.refl _ _ _)⟩
                · intro val ac u hR hp ha K hK      -- 6: t48 := Op.nilCheck t47
                  obtain ⟨w47, h47, r47⟩ := hp 5 (by decide)
                  have e47 : (ac.tmps[47]?).getD undef = .pointer (some ⟨g, 0, none⟩) := (ha 47 (by decide)).trans h47
                  clear h47
                  obtain ⟨w44, h44, r44⟩ := hp 2 (by decide)
                  have e44 : (ac.tmps[44]?).getD undef = .bool false := (ha 44 (by decide)).trans h44
                  clear h44
                  clear ha hp
                  refine Reg.Op1.guarded rfl rfl e44 (fun _ => Reg.Op1.plain rfl ?_) (fun h => absurd rfl h)
                  go_wp2
                  exact ⟨rfl, hK _ _ rfl (fun j k _ _ => Reg.Adds.refl _ _ _)⟩
                · intro val ac u hR hp ha K hK      -- 7: t49 := Op.fieldAddr 53 t48 1
                  obtain ⟨w48, h48, r48⟩ := hp 6 (by decide)
                  have e48 : (ac.tmps[48]?).getD undef = .pointer (some ⟨g, 0, none⟩) := (ha 48 (by decide)).trans h48
                  clear h48
                  obtain ⟨w44, h44, r44⟩ := hp 2 (by decide)
                  have e44 : (ac.tmps[44]?).getD undef = .bool false := (ha 44 (by decide)).trans h44
                  clear h44
                  clear ha hp
                  refine Reg.Op1.guarded rfl rfl e44 (fun _ => Reg.Op1.plain rfl ?_) (fun h => absurd rfl h)
                  go_wp2
                  exact ⟨rfl, hK _ _ rfl (fun j k _ _ => Reg.Adds.refl _ _ _)⟩
                · intro val ac u hR hp ha K hK      -- 8: t50 := Op.load 24 t49
                  obtain ⟨w49, h49, r49⟩ := hp 7 (by decide)
                  have e49 : (ac.tmps[49]?).getD undef = .pointer (some ⟨g, 1, none⟩) := (ha 49 (by decide)).trans h49
                  clear h49
                  obtain ⟨w44, h44, r44⟩ := hp 2 (by decide)
                  have e44 : (ac.tmps[44]?).getD undef = .bool false := (ha 44 (by decide)).trans h44
                  clear h44
                  clear ha hp
                  refine Reg.Op1.guarded rfl rfl e44 (fun _ => Reg.Op1.plain rfl ?_) (fun h => absurd rfl h)
                  have x0 := (hR.cell (p := ⟨g, 1, none⟩) HN3.out.H.B.lt).trans (HN3.out.H.B.cell (j := 1) rfl)
                  go_wp2
                  exact ⟨rfl, hK _ _ rfl (fun j k _ _ => Reg.Adds.refl _ _ _)⟩
                · intro val ac u hR hp ha K hK      -- 9: t51 := Op.move t6
                  have e6 : (ac.tmps[6]?).getD undef = .int .i64 j := ha 6 (by decide)
                  obtain ⟨w44, h44, r44⟩ := hp 2 (by decide)
                  have e44 : (ac.tmps[44]?).getD undef = .bool false := (ha 44 (by decide)).trans h44
                  clear h44
                  clear ha hp
                  refine Reg.Op1.guarded rfl rfl e44 (fun _ => Reg.Op1.plain rfl ?_) (fun h => absurd rfl h)
                  go_wp2
                  exact ⟨rfl, hK _ _ rfl (fun j k _ _ => Reg.Adds.refl _ _ _)⟩
                · intro val ac u hR hp ha K hK      -- 10: t52 := Op.indexAddr 24 t50 t51
                  obtain ⟨w50, h50, r50⟩ := hp 8 (by decide)
                  have e50 : (ac.tmps[50]?).getD undef = .slice (some ⟨b, o, none⟩) es.length c := (ha 50 (by decide)).trans h50
                  clear h50
                  obtain ⟨w51, h51, r51⟩ := hp 9 (by decide)
                  have e51 : (ac.tmps[51]?).getD undef = .int .i64 j := (ha 51 (by decide)).trans h51
                  clear h51
                  obtain ⟨w44, h44, r44⟩ := hp 2 (by decide)
                  have e44 : (ac.tmps[44]?).getD undef = .bool false := (ha 44 (by decide)).trans h44
                  clear h44
                  clear ha hp
                  refine Reg.Op1.guarded rfl rfl e44 (fun _ => Reg.Op1.plain rfl ?_) (fun h => absurd rfl h)
                  go_wp2
                  exact ⟨rfl, hK _ _ rfl (fun j k _ _ => Reg.Adds.refl _ _ _)⟩
                · intro val ac u hR hp ha K hK      -- 11: t53 := Op.fieldAddr 33 t52 1
                  obtain ⟨w52, h52, r52⟩ := hp 10 (by decide)
                  have e52 : (ac.tmps[52]?).getD undef = .pointer (some ⟨b, o + j * 20, none⟩) := (ha 52 (by decide)).trans h52
                  clear h52
                  obtain ⟨w44, h44, r44⟩ := hp 2 (by decide)
                  have e44 : (ac.tmps[44]?).getD undef = .bool false := (ha 44 (by decide)).trans h44
                  clear h44
                  clear ha hp
                  refine Reg.Op1.guarded rfl rfl e44 (fun _ => Reg.Op1.plain rfl ?_) (fun h => absurd rfl h)
                  go_wp2
                  exact ⟨rfl, hK _ _ rfl (fun j k _ _ => Reg.Adds.refl _ _ _)⟩
                · intro val ac u hR hp ha K hK      -- 12: t54 := Op.load 31 t53
                  obtain ⟨w53, h53, r53⟩ := hp 11 (by decide)
                  have e53 : (ac.tmps[53]?).getD undef = .pointer (some ⟨b, o + j * 20 + 3, none⟩) := (ha 53 (by decide)).trans h53
                  clear h53
                  obtain ⟨w44, h44, r44⟩ := hp 2 (by decide)
                  have e44 : (ac.tmps[44]?).getD undef = .bool false := (ha 44 (by decide)).trans h44
                  clear h44
                  clear ha hp
                  refine Reg.Op1.guarded rfl rfl e44 (fun _ => Reg.Op1.plain rfl ?_) (fun h => absurd rfl h)
                  have z3 := (hR.cell (p := ⟨b, o + j * 20 + 3, none⟩) hbl).trans (HM.out.c 3 _ rfl)
                  have z4 := (hR.cell (p := ⟨b, o + j * 20 + 4, none⟩) hbl).trans (HM.out.c 4 _ rfl)
                  have z5 := (hR.cell (p := ⟨b, o + j * 20 + 5, none⟩) hbl).trans (HM.out.c 5 _ rfl)
                  go_wp2
                  exact ⟨rfl, hK _ _ rfl (fun j k _ _ => Reg.Adds.refl _ _ _)⟩
                · intro val ac u hR hp ha K hK      -- 13: t55 := Op.call { value (Operand.func 34), args := #[t46, t54], argTypes := #[31, 31] }
                  obtain ⟨w46, h46, r46⟩ := hp 4 (by decide)
                  have e46 : (ac.tmps[46]?).getD undef = Stamp.S e.st := (ha 46 (by decide)).trans h46
                  clear h46
                  obtain ⟨w54, h54, r54⟩ := hp 12 (by decide)
                  have e54 : (ac.tmps[54]?).getD undef = Stamp.S m.st := (ha 54 (by decide)).trans h54
                  clear h54
                  obtain ⟨w44, h44, r44⟩ := hp 2 (by decide)
                  have e44 : (ac.tmps[44]?).getD undef = .bool false := (ha 44 (by decide)).trans h44
                  clear h44
                  clear ha hp
                  refine Reg.Op1.guarded rfl rfl e44 (fun _ => Reg.Op1.plain rfl ?_) (fun h => absurd rfl h)
                  go_wp2_with fail
                  refine (refCmp_any _ _ _).mono ?_
                  rintro x w' ⟨rfl, hbw⟩
                  go_wp2_with fail
                  exact ⟨rfl, hK _ _ rfl (fun j k _ _ => hbw)⟩
                · intro val ac u hR hp ha K hK      -- 14: t56 := Op.binOp BinOp.lss 3 t55 (const (0:i64)) 3
                  obtain ⟨w55, h55, r55⟩ := hp 13 (by decide)
                  have e55 : (ac.tmps[55]?).getD undef = .int .i64 (Stamp.cmpS e.st m.st) := (ha 55 (by decide)).trans h55
                  clear h55
                  obtain ⟨w44, h44, r44⟩ := hp 2 (by decide)
                  have e44 : (ac.tmps[44]?).getD undef = .bool false := (ha 44 (by decide)).trans h44
                  clear h44
                  clear ha hp
                  refine Reg.Op1.guarded rfl rfl e44 (fun _ => Reg.Op1.plain rfl ?_) (fun h => absurd rfl h)
                  go_wp2
                  exact ⟨rfl, hK _ _ rfl (fun j k _ _ => Reg.Adds.refl _ _ _)⟩
                · intro val ac u hR hp ha K hK      -- 15: t57 := Op.pick t44 (const (Value.bool true)) t56
                  obtain ⟨w44, h44, r44⟩ := hp 2 (by decide)
                  have e44 : (ac.tmps[44]?).getD undef = .bool false := (ha 44 (by decide)).trans h44
                  clear h44
                  obtain ⟨w56, h56, r56⟩ := hp 14 (by decide)
                  have e56 : (ac.tmps[56]?).getD undef = .bool true := (ha 56 (by decide)).trans h56
                  clear h56
                  clear ha hp
                  refine Reg.Op1.plain rfl ?_
                  go_wp2
                  exact ⟨rfl, hK _ _ rfl (fun j k _ _ => Reg.Adds.refl _ _ _)⟩
              · intro val u hR H
                obtain ⟨_, hv, _⟩ := H 15 (by decide)
                have hv : val 15 = .bool true := hv
                have HK6 : Hid (Below w3.heap.size w3 u) := (Below.refl _ w3).drew.trans hR
                have HN4 := Lib.hid (HN3.out.below HK6.out)
                simp only [List.map_cons, List.map_nil, Reg.lay, Act.put, List.setIfInBounds_toArray, List.set_cons_succ, List.set_cons_zero, Nat.reduceAdd, hv]
                clear hR H hv
                go_wp2
                go_roundw
                case rel => exact ⟨⟨k + 1, by omega, by rw [HT1.out], by go_num, HN4⟩⟩
                case measure => simp [intOf]; omega
            · have d3 : decide (Stamp.cmpS e.st m.st < 0) = false := by simpa using hcm
              have HT1 : Hid (bI (bestTo vv es (k + 1)) = (j : Int)) := by show _ = _; rw [HT0.out, if_neg hcm]; rfl
              clear hcm HT0
              go_upto_region 7 with fail
              refine Reg.wp_region_rel (by kernel_rfl) 90 16 rfl rfl (by kernel_rfl) (Reg.Adds) (Reg.Adds.refl) (Reg.Adds.trans)
                (fun i v u => match i with
                  | 0 => v = .int .i64 j
                  | 1 => v = .bool false
                  | 2 => v = .bool false
                  | 3 => v = .pointer (some ⟨gb, 3, none⟩)
                  | 4 => v = Stamp.S e.st
                  | 5 => v = .pointer (some ⟨g, 0, none⟩)
                  | 6 => v = .pointer (some ⟨g, 0, none⟩)
                  | 7 => v = .pointer (some ⟨g, 1, none⟩)
                  | 8 => v = .slice (some ⟨b, o, none⟩) es.length c
                  | 9 => v = .int .i64 j
                  | 10 => v = .pointer (some ⟨b, o + j * 20, none⟩)
                  | 11 => v = .pointer (some ⟨b, o + j * 20 + 3, none⟩)
                  | 12 => v = Stamp.S m.st
                  | 13 => v = .int .i64 (Stamp.cmpS e.st m.st)
                  | 14 => v = .bool false
                  | 15 => v = .bool false
                  | _ => True) ?_ ?_
              · refine Reg.Steps.cons ?_ (Reg.Steps.cons ?_ (Reg.Steps.cons ?_ (Reg.Steps.cons ?_ (Reg.Steps.cons ?_ (Reg.Steps.cons ?_ (Reg.Steps.cons ?_ (Reg.Steps.cons ?_ (Reg.Steps.cons ?_ (Reg.Steps.cons ?_ (Reg.Steps.cons ?_ (Reg.Steps.cons ?_ (Reg.Steps.cons ?_ (Reg.Steps.cons ?_ (Reg.Steps.cons ?_ (Reg.Steps.cons ?_ (Reg.Steps.nil _))))))))))))))))
                · intro val ac u hR hp ha K hK      -- 0: t42 := Op.move t6
                  have e6 : (ac.tmps[6]?).getD undef = .int .i64 j := ha 6 (by decide)
                  clear ha hp
                  refine Reg.Op1.plain rfl ?_
                  go_wp2
                  exact ⟨rfl, hK _ _ rfl (fun j k _ _ => Reg.Adds.refl _ _ _)⟩
                · intro val ac u hR hp ha K hK      -- 1: t43 := Op.binOp BinOp.lss 3 t42 (const (0:i64)) 3
                  obtain ⟨w42, h42, r42⟩ := hp 0 (by decide)
                  have e42 : (ac.tmps[42]?).getD undef = .int .i64 j := (ha 42 (by decide)).trans h42
                  clear h42
                  clear ha hp
                  refine Reg.Op1.plain rfl ?_
                  go_wp2
                  exact ⟨rfl, hK _ _ rfl (fun j k _ _ => Reg.Adds.refl _ _ _)⟩
                · intro val ac u hR hp ha K hK      -- 2: t44 := Op.move t43
                  obtain ⟨w43, h43, r43⟩ := hp 1 (by decide)
                  have e43 : (ac.tmps[43]?).getD undef = .bool false := (ha 43 (by decide)).trans h43
                  clear h43
                  clear ha hp
                  refine Reg.Op1.plain rfl ?_
                  go_wp2
                  exact ⟨rfl, hK _ _ rfl (fun j k _ _ => Reg.Adds.refl _ _ _)⟩
                · intro val ac u hR hp ha K hK      -- 3: t45 := Op.fieldAddr 33 t8 1
                  have e8 : (ac.tmps[8]?).getD undef = .pointer (some ⟨gb, 0, none⟩) := ha 8 (by decide)
                  obtain ⟨w44, h44, r44⟩ := hp 2 (by decide)
                  have e44 : (ac.tmps[44]?).getD undef = .bool false := (ha 44 (by decide)).trans h44
                  clear h44
                  clear ha hp
                  refine Reg.Op1.guarded rfl rfl e44 (fun _ => Reg.Op1.plain rfl ?_) (fun h => absurd rfl h)
                  go_wp2
                  exact ⟨rfl, hK _ _ rfl (fun j k _ _ => Reg.Adds.refl _ _ _)⟩
                · intro val ac u hR hp ha K hK      -- 4: t46 := Op.load 31 t45
                  obtain ⟨w45, h45, r45⟩ := hp 3 (by decide)
                  have e45 : (ac.tmps[45]?).getD undef = .pointer (some ⟨gb, 3, none⟩) := (ha 45 (by decide)).trans h45
                  clear h45
                  obtain ⟨w44, h44, r44⟩ := hp 2 (by decide)
                  have e44 : (ac.tmps[44]?).getD undef = .bool false := (ha 44 (by decide)).trans h44
                  clear h44
                  clear ha hp
                  refine Reg.Op1.guarded rfl rfl e44 (fun _ => Reg.Op1.plain rfl ?_) (fun h => absurd rfl h)
                  obtain ⟨x3, x4, x5⟩ := HE3.out.st
                  have z3 := (hR.cell (p := ⟨gb, 3, none⟩) HE3.out.lt).trans x3
                  have z4 := (hR.cell (p := ⟨gb, 4, none⟩) HE3.out.lt).trans x4
                  have z5 := (hR.cell (p := ⟨gb, 5, none⟩) HE3.out.lt).trans x5
                  go_wp2
                  exact ⟨rfl, hK _ _ rfl (fun j k _ _ => Reg.Adds.refl _ _ _)⟩
                · intro val ac u hR hp ha K hK      -- 5: t47 := Op.move t0
                  have e0 : (ac.tmps[0]?).getD undef = .pointer (some ⟨g, 0, none⟩) := ha 0 (by decide)
                  obtain ⟨w44, h44, r44⟩ := hp 2 (by decide)
                  have e44 : (ac.tmps[44]?).getD undef = .bool false := (ha 44 (by decide)).trans h44
                  clear h44
                  clear ha hp
                  refine Reg.Op1.guarded rfl rfl e44 (fun _ => Reg.Op1.plain rfl ?_) (fun h => absurd rfl h)
                  go_wp2
                  exact ⟨rfl, hK _ _ rfl (fun j k _ _ => Reg.Adds.refl _ _ _)⟩
                · intro val ac u hR hp ha K hK      -- 6: t48 := Op.nilCheck t47
                  obtain ⟨w47, h47, r47⟩ := hp 5 (by decide)
                  have e47 : (ac.tmps[47]?).getD undef = .pointer (some ⟨g, 0, none⟩) := (ha 47 (by decide)).trans h47
                  clear h47
                  obtain ⟨w44, h44, r44⟩ := hp 2 (by decide)
                  have e44 : (ac.tmps[44]?).getD undef = .bool false := (ha 44 (by decide)).trans h44
                  clear h44
                  clear ha hp
                  refine Reg.Op1.guarded rfl rfl e44 (fun _ => Reg.Op1.plain rfl ?_) (fun h => absurd rfl h)
                  go_wp2
                  exact ⟨rfl, hK _ _ rfl (fun j k _ _ => Reg.Adds.refl _ _ _)⟩
                · intro val ac u hR hp ha K hK      -- 7: t49 := Op.fieldAddr 53 t48 1
                  obtain ⟨w48, h48, r48⟩ := hp 6 (by decide)
                  have e48 : (ac.tmps[48]?).getD undef = .pointer (some ⟨g, 0, none⟩) := (ha 48 (by decide)).trans h48
                  clear h48
                  obtain ⟨w44, h44, r44⟩ := hp 2 (by decide)
                  have e44 : (ac.tmps[44]?).getD undef = .bool false := (ha 44 (by decide)).trans h44
                  clear h44
                  clear ha hp
                  refine Reg.Op1.guarded rfl rfl e44 (fun _ => Reg.Op1.plain rfl ?_) (fun h => absurd rfl h)
                  go_wp2
                  exact ⟨rfl, hK _ _ rfl (fun j k _ _ => Reg.Adds.refl _ _ _)⟩
                · intro val ac u hR hp ha K hK      -- 8: t50 := Op.load 24 t49
                  obtain ⟨w49, h49, r49⟩ := hp 7 (by decide)
                  have e49 : (ac.tmps[49]?).getD undef = .pointer (some ⟨g, 1, none⟩) := (ha 49 (by decide)).trans h49
                  clear h49
                  obtain ⟨w44, h44, r44⟩ := hp 2 (by decide)
                  have e44 : (ac.tmps[44]?).getD undef = .bool false := (ha 44 (by decide)).trans h44
                  clear h44
                  clear ha hp
                  refine Reg.Op1.guarded rfl rfl e44 (fun _ => Reg.Op1.plain rfl ?_) (fun h => absurd rfl h)
                  have x0 := (hR.cell (p := ⟨g, 1, none⟩) HN3.out.H.B.lt).trans (HN3.out.H.B.cell (j := 1) rfl)
                  go_wp2
                  exact ⟨rfl, hK _ _ rfl (fun j k _ _ => Reg.Adds.refl _ _ _)⟩
                · intro val ac u hR hp ha K hK      -- 9: t51 := Op.move t6
                  have e6 : (ac.tmps[6]?).getD undef = .int .i64 j := ha 6 (by decide)
                  obtain ⟨w44, h44, r44⟩ := hp 2 (by decide)
                  have e44 : (ac.tmps[44]?).getD undef = .bool false := (ha 44 (by decide)).trans h44
                  clear h44
                  clear ha hp
                  refine Reg.Op1.guarded rfl rfl e44 (fun _ => Reg.Op1.plain rfl ?_) (fun h => absurd rfl h)
                  go_wp2
                  exact ⟨rfl, hK _ _ rfl (fun j k _ _ => Reg.Adds.refl _ _ _)⟩
                · intro val ac u hR hp ha K hK      -- 10: t52 := Op.indexAddr 24 t50 t51
                  obtain ⟨w50, h50, r50⟩ := hp 8 (by decide)
                  have e50 : (ac.tmps[50]?).getD undef = .slice (some ⟨b, o, none⟩) es.length c := (ha 50 (by decide)).trans h50
                  clear h50
                  obtain ⟨w51, h51, r51⟩ := hp 9 (by decide)
                  have e51 : (ac.tmps[51]?).getD undef = .int .i64 j := (ha 51 (by decide)).trans h51
                  clear h51
                  obtain ⟨w44, h44, r44⟩ := hp 2 (by decide)
                  have e44 : (ac.tmps[44]?).getD undef = .bool false := (ha 44 (by decide)).trans h44
                  clear h44
                  clear ha hp
                  refine Reg.Op1.guarded rfl rfl e44 (fun _ => Reg.Op1.plain rfl ?_) (fun h => absurd rfl h)
                  go_wp2
                  exact ⟨rfl, hK _ _ rfl (fun j k _ _ => Reg.Adds.refl _ _ _)⟩
                · intro val ac u hR hp ha K hK      -- 11: t53 := Op.fieldAddr 33 t52 1
                  obtain ⟨w52, h52, r52⟩ := hp 10 (by decide)
                  have e52 : (ac.tmps[52]?).getD undef = .pointer (some ⟨b, o + j * 20, none⟩) := (ha 52 (by decide)).trans h52
                  clear h52
                  obtain ⟨w44, h44, r44⟩ := hp 2 (by decide)
                  have e44 : (ac.tmps[44]?).getD undef = .bool false := (ha 44 (by decide)).trans h44
                  clear h44
                  clear ha hp
                  refine Reg.Op1.guarded rfl rfl e44 (fun _ => Reg.Op1.plain rfl ?_) (fun h => absurd rfl h)
                  go_wp2
                  exact ⟨rfl, hK _ _ rfl (fun j k _ _ => Reg.Adds.refl _ _ _)⟩
                · intro val ac u hR hp ha K hK      -- 12: t54 := Op.load 31 t53
                  obtain ⟨w53, h53, r53⟩ := hp 11 (by decide)
                  have e53 : (ac.tmps[53]?).getD undef = .pointer (some ⟨b, o + j * 20 + 3, none⟩) := (ha 53 (by decide)).trans h53
                  clear h53
                  obtain ⟨w44, h44, r44⟩ := hp 2 (by decide)
                  have e44 : (ac.tmps[44]?).getD undef = .bool false := (ha 44 (by decide)).trans h44
                  clear h44
                  clear ha hp
                  refine Reg.Op1.guarded rfl rfl e44 (fun _ => Reg.Op1.plain rfl ?_) (fun h => absurd rfl h)
                  have z3 := (hR.cell (p := ⟨b, o + j * 20 + 3, none⟩) hbl).trans (HM.out.c 3 _ rfl)
                  have z4 := (hR.cell (p := ⟨b, o + j * 20 + 4, none⟩) hbl).trans (HM.out.c 4 _ rfl)
                  have z5 := (hR.cell (p := ⟨b, o + j * 20 + 5, none⟩) hbl).trans (HM.out.c 5 _ rfl)
                  go_wp2
                  exact ⟨rfl, hK _ _ rfl (fun j k _ _ => Reg.Adds.refl _ _ _)⟩
                · intro val ac u hR hp ha K hK      -- 13: t55 := Op.call { value (Operand.func 34), args := #[t46, t54], argTypes := #[31, 31] }
                  obtain ⟨w46, h46, r46⟩ := hp 4 (by decide)
                  have e46 : (ac.tmps[46]?).getD undef = Stamp.S e.st := (ha 46 (by decide)).trans h46
                  clear h46
                  obtain ⟨w54, h54, r54⟩ := hp 12 (by decide)
                  have e54 : (ac.tmps[54]?).getD undef = Stamp.S m.st := (ha 54 (by decide)).trans h54
                  clear h54
                  obtain ⟨w44, h44, r44⟩ := hp 2 (by decide)
                  have e44 : (ac.tmps[44]?).getD undef = .bool false := (ha 44 (by decide)).trans h44
                  clear h44
                  clear ha hp
                  refine Reg.Op1.guarded rfl rfl e44 (fun _ => Reg.Op1.plain rfl ?_) (fun h => absurd rfl h)
                  go_wp2_with fail
                  refine (refCmp_any _ _ _).mono ?_
                  rintro x w' ⟨rfl, hbw⟩
                  go_wp2_with fail
                  exact ⟨rfl, hK _ _ rfl (fun j k _ _ => hbw)⟩
                · intro val ac u hR hp ha K hK      -- 14: t56 := Op.binOp BinOp.lss 3 t55 (const (0:i64)) 3
                  obtain ⟨w55, h55, r55⟩ := hp 13 (by decide)
                  have e55 : (ac.tmps[55]?).getD undef = .int .i64 (Stamp.cmpS e.st m.st) := (ha 55 (by decide)).trans h55
                  clear h55
                  obtain ⟨w44, h44, r44⟩ := hp 2 (by decide)
                  have e44 : (ac.tmps[44]?).getD undef = .bool false := (ha 44 (by decide)).trans h44
                  clear h44
                  clear ha hp
                  refine Reg.Op1.guarded rfl rfl e44 (fun _ => Reg.Op1.plain rfl ?_) (fun h => absurd rfl h)
                  go_wp2
                  exact ⟨rfl, hK _ _ rfl (fun j k _ _ => Reg.Adds.refl _ _ _)⟩
                · intro val ac u hR hp ha K hK      -- 15: t57 := Op.pick t44 (const (Value.bool true)) t56
                  obtain ⟨w44, h44, r44⟩ := hp 2 (by decide)
                  have e44 : (ac.tmps[44]?).getD undef = .bool false := (ha 44 (by decide)).trans h44
                  clear h44
                  obtain ⟨w56, h56, r56⟩ := hp 14 (by decide)
                  have e56 : (ac.tmps[56]?).getD undef = .bool false := (ha 56 (by decide)).trans h56
                  clear h56
                  clear ha hp
                  refine Reg.Op1.plain rfl ?_
                  go_wp2
                  exact ⟨rfl, hK _ _ rfl (fun j k _ _ => Reg.Adds.refl _ _ _)⟩
              · intro val u hR H
                obtain ⟨_, hv, _⟩ := H 15 (by decide)
                have hv : val 15 = .bool false := hv
                have HK6 : Hid (Below w3.heap.size w3 u) := (Below.refl _ w3).drew.trans hR
                have HN4 := Lib.hid (HN3.out.below HK6.out)
                simp only [List.map_cons, List.map_nil, Reg.lay, Act.put, List.setIfInBounds_toArray, List.set_cons_succ, List.set_cons_zero, Nat.reduceAdd, hv]
                clear hR H hv
                go_wp2
                go_roundw
                case rel => exact ⟨⟨k + 1, by omega, by rw [HT1.out], by go_num, HN4⟩⟩
                case measure => simp [intOf]; omega
    · obtain rfl : k = es.length := by omega
      have x1 := HN.out.H.B.cell (j := 1) rfl
      cases hbt : bestTo vv es es.length with
      | none =>
        have HE : Hid (nextE vv es = (ent0, false)) := by show _ = _; unfold nextE; rw [hbt]
        have HL : Hid (nextL vv es = es) := by show _ = _; unfold nextL; rw [hbt]
        rw [show bI none = -1 from rfl]
        clear hbt
        go_wp2_with ((with_reducible refine Mem.store_agg _ _ entry_agg (w.heap.size + 1) (entCells ent0) (entCells ent0) ?hxb ?hyb HN.out.E (entCells_length _) (ent_one ent0) ?_); ((case hxb => exact rfl); (case hyb => exact rfl); intro w3 hb3 hk3 hs3))
        refine bodyPost_ret (v := .tuple #[.agg (entCells ent0).toArray, .bool false]) ?_ rfl ⟨by rw [HE.out], ⟨A, c, ?_, fun q h => .inl h⟩, ?_⟩
        · rw [Mem.results_agg2 Try.results20 entry_agg rfl hb3]
          rfl
        · rw [HL.out]
          exact HN.out.H.keeps hk3 (fun q hq h => by have := HA.out.lt q hq; omega)
        · exact ((Mem.Keeps.of_below HN.out.b).mono (fun _ h _ => h.elim)).trans hk3 (fun q h hlt => by omega)
      | some j =>
        obtain ⟨hj1, hj2⟩ := bestTo_lt vv es es.length j hbt
        obtain ⟨b, o, m, rfl, hb2, hm, HM0⟩ := ent_elem HN.out.H.O.rd hj2
        have hgm : es.getD j ent0 = m := by rw [List.getD_eq_getElem?_getD, hm]; rfl
        have HE : Hid (nextE vv es = (m, true)) := by show _ = _; unfold nextE; rw [hbt]; simp only [hgm]
        have HL : Hid (nextL vv es = es.eraseIdx j) := by show _ = _; unfold nextL; rw [hbt]
        have HM := Lib.hid HM0
        rw [show bI (some j) = (j : Int) from rfl]
        have d2 : decide ((j : Int) < 0) = false := by simp
        have hcl : es.length ≤ c := HN.out.H.O.le
        clear hbt hgm hm HM0
        go_upto_region 13 with (first | ((with_reducible refine Mem.load_agg _ _ entry_agg b (o + j * 20) (entCells m) ?hx (entCells_length m) HM.out.c ?_); case hx => exact rfl) | ((with_reducible refine Mem.store_agg _ _ entry_agg wr.heap.size (entCells ent0) (entCells m) ?hxa ?hya ?hba (entCells_length m) (ent_one m) ?_); ((case hxa => exact rfl); (case hya => exact rfl); (case hba => exact Mem.Bx.new wr _ (entCells ent0).toArray rfl rfl); intro w2 hb2' hk2 hs2)))
        have HE2 : Hid (EBx w2 wr.heap.size m) := hb2'
        have HN2 := Lib.hid (HN.out.below (hk2.newBox rfl).belowAll)
        have hzr := HN.out.E.lt
        clear hb2' hk2 hs2 HM x1
        have x1 := HN2.out.H.B.cell (j := 1) rfl
        have hlA := HN2.out.H.lt
        have HTR : Hid (Mem.Rd w2 w2.heap.size (some ⟨b, o, none⟩) ((es.take j).flatMap entCells)) := by
          have h9 := (HN2.out.H.O.take (k := j) (by omega)).rd
          rwa [Mem.flat_take entCells_length] at h9
        have htl : ((es.take j).flatMap entCells).length = j * 20 := by rw [ents_len, List.length_take]; omega
        have hto := ents_one (es.take j)
        have hj3 : j ≤ 300 := by omega
        go_upto_region 14 with (at_builtin; refine Mem.wpList_app0 _ rfl (.tmp 69) (.tmp 75) _ rfl entries_elem none rfl w2.heap.size (some ⟨b, o, none⟩) j c ((es.take j).flatMap entCells) rfl ?_ own_none HTR.out htl hto (len300 hj3).1 (len300 hj3).2; intro A1 c1 w3 hown hbl hat; have HO3 := Lib.hid hown; have HB3 := Lib.hid hbl; have HAt3 := Lib.hid hat; clear hown hbl hat)
        have HN3 := Lib.hid (HN2.out.below HB3.out)
        have HE3 : Hid (EBx w3 wr.heap.size m) := HE2.out.below HB3.out HE2.out.lt
        have hw : wrap64 ((j : Int) + 1) = ((j + 1 : Nat) : Int) := by rw [IntWalk.wrap64_in _ (by omega)]; omega
        clear x1 HTR htl hto
        have x1 := HN3.out.H.B.cell (j := 1) rfl
        have hne1 : Hid (∀ q, Mem.blk A1 = some q → w2.heap.size ≤ q) := fun q h => by
          rcases HAt3.out with h1 | h1
          · rw [h1] at h; cases h
          · rw [h1] at h; simp [Mem.blk] at h; omega
        have HNE1 := hne1
        have HG3 := Lib.hid (HA.out.lt)
        have HZ3 := Lib.hid (HN2.out.b.size)
        have hgB := Lib.hid HN3.out.H.B
        clear hne1
        have hg2 : g < w2.heap.size := HN2.out.H.B.lt
        have hz23 : w2.heap.size ≤ w3.heap.size := HB3.out.size
        have hgw := HG3.out g (.inl rfl)
        have hwz := HZ3.out
        have hrz := HE2.out.lt
        by_cases hcj : c = j + 1
        · subst hcj
          have hlj : es.length = j + 1 := by omega
          have h9 : es.drop (j + 1) = [] := List.drop_eq_nil_of_le (by omega)
          have hel : (es.eraseIdx j).length = j := by rw [List.length_eraseIdx_of_lt hj2]; omega
          have hef : (es.take j).flatMap entCells ++ [] = (es.eraseIdx j).flatMap entCells := by rw [List.eraseIdx_eq_take_drop_succ, List.flatMap_append, h9]; rfl
          have hdl : ([] : List Value).length = 0 * 20 := rfl
          have hdo : ∀ u ∈ ([] : List Value), u.oneCell' = true := fun u hu => by cases hu
          have hn2 : j + 0 ≤ 300 := by omega
          have HDR : Hid (Mem.Rd w3 w3.heap.size (some ⟨b, o, none⟩) []) := .inl rfl
          have HEL := Lib.hid hel
          have HEF := Lib.hid hef
          clear hlj h9 hel hef
          go_upto_region 15 with (at_builtin; refine Mem.wpList_app _ rfl (.tmp 78) (.tmp 85) _ rfl entries_elem A1 j c1 ((es.take j).flatMap entCells) rfl w3.heap.size (some ⟨b, o, none⟩) 0 _ List.nil rfl ?_ HO3.out HDR.out hdl hdo (len300 hn2).1 (len300 hn2).2; intro A2 c2 w4 hown hgr hat; have HO4 := Lib.hid hown; have HK4 : Hid (Mem.Keeps (fun y => Mem.blk A1 = some y) w3 w4) := ((Mem.Keeps.refl (fun y => Mem.blk A1 = some y) w3).grown hgr (fun k h _ => h)); have HAt4 := Lib.hid hat; have hB4 : Hid (Mem.Bx w4 53 2 g [.int .i64 rng, .slice (some ⟨b, o, none⟩) es.length _]) := hgB.out.keeps HK4.out (fun h => by have h1 := HNE1.out g h; have h2 := HN2.out.H.B.lt; omega); have y1 := hB4.out.cell (j := 1) rfl; have yf := hB4.out.fr; clear hown hgr hat)
          have hne2 : ∀ q, Mem.blk A2 = some q → w2.heap.size ≤ q := fun q h => by
            rcases HAt4.out with h1 | h1
            · rw [h1] at h; exact HNE1.out q h
            · have := HB3.out.size
              rw [h1] at h; simp [Mem.blk] at h; omega
          have hA5 := HAt.set (es' := es.eraseIdx j) (A' := A2) (c' := c2) hB4.out (by show Mem.Own _ _ _ _ _ _ _; rw [HEL.out, ← HEF.out]; exact HO4.out) (fun k hk => by have := hne2 k hk; omega)
          rw [HEL.out] at hA5
          have hk5 : Mem.Keeps (fun y => Mem.blk A1 = some y ∨ y = g) w3 (w4.setCell ⟨g, 1, none⟩ (.slice A2 j c2)) := (HK4.out.mono (T := fun y => Mem.blk A1 = some y ∨ y = g) (fun k h _ => .inl h)).setCell (p := ⟨g, 1, none⟩) (fun _ => .inr rfl) _
          obtain ⟨w5, hw5⟩ : ∃ w5, w4.setCell ⟨g, 1, none⟩ (.slice A2 j c2) = w5 := ⟨_, rfl⟩
          rw [hw5] at hA5 hk5 ⊢
          have HE5 : Hid (EBx w5 wr.heap.size m) := HE3.out.keeps hk5 (fun h => by
            rcases h with h | h
            · have := HNE1.out _ h; omega
            · omega)
          have H05 : Hid (EBx w5 (w.heap.size + 1) ent0) := HN3.out.E.keeps hk5 (fun h => by
            rcases h with h | h
            · have := HNE1.out _ h; omega
            · omega)
          have HA5 := Lib.hid hA5
          have HQ5 : Hid (∀ q, Mem.blk A2 = some q → w.heap.size ≤ q) := fun q h => by have := hne2 q h; have := HZ3.out; omega
          have HK5 : Hid (Mem.Keeps (HB g (some ⟨b, o, none⟩)) w w5) := ((Mem.Keeps.of_below HN3.out.b).mono (fun _ h _ => h.elim)).trans hk5 (fun q h hlt => by
            rcases h with h | h
            · have := HNE1.out _ h; have := HZ3.out; omega
            · exact .inl h)
          have HNE2 := Lib.hid hne2
          clear hw5 hA5 hk5 hB4 y1 yf HO4 HK4 HAt4 hne2 x1 HDR
          go_wp2_with (first | ((with_reducible refine Mem.load_agg _ _ entry_agg wr.heap.size 0 (entCells m) ?hz (entCells_length m) (fun j u hu => by rw [Nat.zero_add]; exact HE5.out.cell hu) ?_); case hz => exact rfl) | ((with_reducible refine Mem.store_agg _ _ entry_agg (w.heap.size + 1) (entCells ent0) (entCells m) ?hxb ?hyb H05.out (entCells_length _) (ent_one m) ?_); ((case hxb => exact rfl); (case hyb => exact rfl); intro w6 hb6 hk6 hs6)))
          refine bodyPost_ret (v := .tuple #[.agg (entCells m).toArray, .bool true]) ?_ rfl ⟨by rw [HE.out], ⟨A2, c2, ?_, fun q h => .inr (HQ5.out q h)⟩, ?_⟩
          · rw [Mem.results_agg2 Try.results20 entry_agg rfl hb6]
            rfl
          · rw [HL.out]
            exact HA5.out.keeps hk6 (fun q hq h => by
              rcases hq with hq | hq
              · have h1 := HG3.out g (.inl rfl); omega
              · have := HNE2.out q hq; omega)
          · exact HK5.out.trans hk6 (fun q h hlt => by omega)
        · obtain ⟨q, rfl⟩ : ∃ q, c = j + 1 + (q + 1) := ⟨c - (j + 2), by omega⟩
          have HDR : Hid (Mem.Rd w3 w3.heap.size (some ⟨b, o + (j + 1) * 20, none⟩) ((es.drop (j + 1)).flatMap entCells)) := by
            have h9 := (HN3.out.H.O.drop (k := j + 1) (by omega)).rd
            rwa [Mem.flat_drop entCells_length] at h9
          have hel : (es.eraseIdx j).length = j + (es.length - (j + 1)) := by rw [List.length_eraseIdx_of_lt hj2]; omega
          have hef : (es.take j).flatMap entCells ++ (es.drop (j + 1)).flatMap entCells = (es.eraseIdx j).flatMap entCells := by rw [List.eraseIdx_eq_take_drop_succ, List.flatMap_append]
          have hdl : ((es.drop (j + 1)).flatMap entCells).length = (es.length - (j + 1)) * 20 := by rw [ents_len, List.length_drop]
          have hdo := ents_one (es.drop (j + 1))
          have hn2 : j + (es.length - (j + 1)) ≤ 300 := by omega
          obtain ⟨nw, hnw⟩ : ∃ nw, (es.drop (j + 1)).flatMap entCells = nw := ⟨_, rfl⟩
          rw [hnw] at hef hdl hdo HDR
          have HEL := Lib.hid hel
          have HEF := Lib.hid hef
          clear hcj hel hef hnw
          go_upto_region 15 with (at_builtin; refine Mem.wpList_app _ rfl (.tmp 78) (.tmp 85) _ rfl entries_elem A1 j c1 ((es.take j).flatMap entCells) rfl w3.heap.size (some ⟨b, (o+(j+1)*20), none⟩) (es.length-(j+1)) _ nw rfl ?_ HO3.out HDR.out hdl hdo (len300 hn2).1 (len300 hn2).2; intro A2 c2 w4 hown hgr hat; have HO4 := Lib.hid hown; have HK4 : Hid (Mem.Keeps (fun y => Mem.blk A1 = some y) w3 w4) := ((Mem.Keeps.refl (fun y => Mem.blk A1 = some y) w3).grown hgr (fun k h _ => h)); have HAt4 := Lib.hid hat; have hB4 : Hid (Mem.Bx w4 53 2 g [.int .i64 rng, .slice (some ⟨b, o, none⟩) es.length _]) := hgB.out.keeps HK4.out (fun h => by have h1 := HNE1.out g h; have h2 := HN2.out.H.B.lt; omega); have y1 := hB4.out.cell (j := 1) rfl; have yf := hB4.out.fr; clear hown hgr hat)
          have hne2 : ∀ q, Mem.blk A2 = some q → w2.heap.size ≤ q := fun q h => by
            rcases HAt4.out with h1 | h1
            · rw [h1] at h; exact HNE1.out q h
            · have := HB3.out.size
              rw [h1] at h; simp [Mem.blk] at h; omega
          have hA5 := HAt.set (es' := es.eraseIdx j) (A' := A2) (c' := c2) hB4.out (by show Mem.Own _ _ _ _ _ _ _; rw [HEL.out, ← HEF.out]; exact HO4.out) (fun k hk => by have := hne2 k hk; omega)
          rw [HEL.out] at hA5
          have hk5 : Mem.Keeps (fun y => Mem.blk A1 = some y ∨ y = g) w3 (w4.setCell ⟨g, 1, none⟩ (.slice A2 (j+(es.length-(j+1))) c2)) := (HK4.out.mono (T := fun y => Mem.blk A1 = some y ∨ y = g) (fun k h _ => .inl h)).setCell (p := ⟨g, 1, none⟩) (fun _ => .inr rfl) _
          obtain ⟨w5, hw5⟩ : ∃ w5, w4.setCell ⟨g, 1, none⟩ (.slice A2 (j+(es.length-(j+1))) c2) = w5 := ⟨_, rfl⟩
          rw [hw5] at hA5 hk5 ⊢
          have HE5 : Hid (EBx w5 wr.heap.size m) := HE3.out.keeps hk5 (fun h => by
            rcases h with h | h
            · have := HNE1.out _ h; omega
            · omega)
          have H05 : Hid (EBx w5 (w.heap.size + 1) ent0) := HN3.out.E.keeps hk5 (fun h => by
            rcases h with h | h
            · have := HNE1.out _ h; omega
            · omega)
          have HA5 := Lib.hid hA5
          have HQ5 : Hid (∀ q, Mem.blk A2 = some q → w.heap.size ≤ q) := fun q h => by have := hne2 q h; have := HZ3.out; omega
          have HK5 : Hid (Mem.Keeps (HB g (some ⟨b, o, none⟩)) w w5) := ((Mem.Keeps.of_below HN3.out.b).mono (fun _ h _ => h.elim)).trans hk5 (fun q h hlt => by
            rcases h with h | h
            · have := HNE1.out _ h; have := HZ3.out; omega
            · exact .inl h)
          have HNE2 := Lib.hid hne2
          clear hw5 hA5 hk5 hB4 y1 yf HO4 HK4 HAt4 hne2 x1 HDR
          go_wp2_with (first | ((with_reducible refine Mem.load_agg _ _ entry_agg wr.heap.size 0 (entCells m) ?hz (entCells_length m) (fun j u hu => by rw [Nat.zero_add]; exact HE5.out.cell hu) ?_); case hz => exact rfl) | ((with_reducible refine Mem.store_agg _ _ entry_agg (w.heap.size + 1) (entCells ent0) (entCells m) ?hxb ?hyb H05.out (entCells_length _) (ent_one m) ?_); ((case hxb => exact rfl); (case hyb => exact rfl); intro w6 hb6 hk6 hs6)))
          refine bodyPost_ret (v := .tuple #[.agg (entCells m).toArray, .bool true]) ?_ rfl ⟨by rw [HE.out], ⟨A2, c2, ?_, fun q h => .inr (HQ5.out q h)⟩, ?_⟩
          · rw [Mem.results_agg2 Try.results20 entry_agg rfl hb6]
            rfl
          · rw [HL.out]
            exact HA5.out.keeps hk6 (fun q hq h => by
              rcases hq with hq | hq
              · have h1 := HG3.out g (.inl rfl); omega
              · have := HNE2.out q hq; omega)
          · exact HK5.out.trans hk6 (fun q h hlt => by omega)
end Go.Proofs.Ytgdcfdjfoeoknaa
