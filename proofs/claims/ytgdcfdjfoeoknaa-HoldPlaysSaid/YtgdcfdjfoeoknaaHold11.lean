/- The walks of the document's own Purge, of entries. No conditions. -/
import Derived.Test.YtgdcfdjfoeoknaaHold10
namespace Go.Proofs.Ytgdcfdjfoeoknaa
open Go.ChangeShapes Go.WideShapes Go.ChangeAt Go.RowKit
set_option linter.unusedVariables false
set_option linter.unusedSimpArgs false

namespace Vec
structure RPg (t : TypeId) (w : World) (g : Nat) (A : Option Addr) (c : Nat) (rng : Int) (es : List Ent) (vv : Vc) (v5 v6 : Value) (wr : World) : Prop where
  out : ∃ (k n : Nat) (A1 : Option Addr) (c1 : Nat), k ≤ es.length ∧ n = (purged vv (es.take k)).length ∧ v5 = .slice A1 n c1 ∧ v6 = .int .i64 k ∧ Hid (HAt t wr g A c rng es) ∧ Hid (VBx wr w.heap.size vv) ∧ Hid (Below w.heap.size w wr) ∧ Hid (EOwn wr A1 c1 (purged vv (es.take k))) ∧ Hid (∀ q, Mem.blk A1 = some q → w.heap.size < q)
theorem has_le {v : Vc} {e : Ent} (hr : rightE e = true) : hasE v e = decide (e.seq ≤ v.get e.dc.toNat e.rng.toNat) := by
  obtain ⟨h1, h2, _⟩ := right_chain hr
  unfold hasE hasD
  rw [h1]
  simp [h2]
structure EnRel (w : World) (n : Nat) (v5 : Value) (wr : World) : Prop where
  out : ∃ k : Nat, k ≤ n ∧ v5 = .int .i64 k ∧ Hid (Below w.heap.size w wr)
end Vec
open Vec in
set_option maxRecDepth 20000 in
set_option maxHeartbeats 8000000 in
theorem refPurge_any (vv : Vec.Vc) (rng : Int) (g : Nat) (A : Option Addr) (c : Nat) (es : List Vec.Ent) (w : World) (hA : Vec.HAt 53 w g A c rng es) (hn : es.length ≤ 200) (hok : ∀ e ∈ es, Vec.rightE e = true) :
    Calls Try.prog 22 #[.pointer (some ⟨g, 0, none⟩), .agg (vcCells vv).toArray] w (Vec.RPurgeEnd 53 w g A rng es vv) := by
  have HA := Lib.hid hA
  have HOK := Lib.hid hok
  have HG := Lib.hid hA.lt
  clear hA hok
  go_enter Try.func22, Try.ntmps22
  go_upto_region 1 with fail
  obtain ⟨w1, hw1⟩ : ∃ w1, w.alloc (.cells (vcCells vv).toArray 27) = w1 := ⟨_, rfl⟩
  have HB1 : Hid (Below w.heap.size w w1) := by show Below _ _ _; rw [← hw1]; exact Reg.below_new _ _
  have HV1 : Hid (VBx w1 w.heap.size vv) := by show VBx _ _ _; rw [← hw1]; exact Mem.Bx.new w 27 (vcCells vv).toArray rfl rfl
  change Code.wp _ _ _ _ (w.alloc (.cells (vcCells vv).toArray 27))
  rw [hw1]
  clear hw1
  have HH1 := Lib.hid (HA.out.below HB1.out)
  go_wp2
  go_loopw [5, 6] (RPg 53 w g A c rng es vv) (fun _ t _ => es.length - (intOf t).toNat)
  case atStart => exact ⟨⟨0, 0, none, 0, Nat.zero_le _, rfl, rfl, rfl, HH1, HV1, HB1, own_none, fun q h => by cases h⟩⟩
  case round =>
    clear HB1 HV1 HH1
    obtain ⟨k, n, A1, c1, hk, hn0, rfl, rfl, HHr, HVr, HBr, HOr, HQr⟩ := hrel.out
    have HN1 := Lib.hid hn0
    have hnk : n ≤ k := by rw [hn0]; exact Nat.le_trans (keptL_le _ _) (by rw [List.length_take]; omega)
    have x1 := HHr.out.B.cell (j := 1) rfl
    clear hn0 hrel
    by_cases hlt : k < es.length
    · obtain ⟨b, o, e, rfl, hb, he, hat⟩ := ent_elem HHr.out.O.rd hlt
      have HAT := Lib.hid hat
      have hre := HOK.out e (List.mem_of_getElem? he)
      have HCH := Lib.hid (right_chain hre).1
      have hhe := has_le (v := vv) hre
      have hps := purged_snoc (vv := vv) he
      obtain ⟨dv, hdv⟩ : ∃ dv, vv.get e.dc.toNat e.rng.toNat = dv := ⟨_, rfl⟩
      have HDV := Lib.hid hdv
      rw [hdv] at hhe
      have hn1 : n + 1 ≤ 300 := by omega
      clear hat he hre hdv
      go_upto_region 5 with fail
      clear x1
      by_cases hle : e.seq ≤ dv
      · have d1 : decide (dv < e.seq) = false := by simp; omega
        have HPO : Hid (purged vv (es.take (k + 1)) = purged vv (es.take k)) := by show _ = _; rw [hps, hhe, if_pos (by simp [hle]), List.append_nil]
        have HPS : Hid ((purged vv (es.take (k + 1))).length = (purged vv (es.take k)).length) := by show _ = _; rw [HPO.out]
        clear hhe hps hle
        refine Reg.wp_region_rel (by kernel_rfl) 59 19 rfl rfl (by kernel_rfl) (Reg.Adds) (Reg.Adds.refl) (Reg.Adds.trans)
          (fun i v u => match i with
            | 0 => v = .pointer (some ⟨g, 0, none⟩)
            | 1 => v = .pointer (some ⟨g, 0, none⟩)
            | 2 => v = .pointer (some ⟨g, 1, none⟩)
            | 3 => v = .slice (some ⟨b, o, none⟩) es.length c
            | 4 => v = .int .i64 k
            | 5 => v = .pointer (some ⟨b, o + k * 20, none⟩)
            | 6 => v = .pointer (some ⟨b, o + k * 20, none⟩)
            | 7 => v = .pointer (some ⟨b, o + k * 20 + 2, none⟩)
            | 8 => v = .int .i64 e.seq
            | 9 => v = .agg (vcCells vv).toArray
            | 10 => v = .pointer (some ⟨g, 0, none⟩)
            | 11 => v = .pointer (some ⟨g, 0, none⟩)
            | 12 => v = .pointer (some ⟨g, 1, none⟩)
            | 13 => v = .slice (some ⟨b, o, none⟩) es.length c
            | 14 => v = .int .i64 k
            | 15 => v = .pointer (some ⟨b, o + k * 20, none⟩)
            | 16 => v = .agg (entCells e).toArray
            | 17 => v = .int .i64 dv
            | 18 => v = .bool false
            | _ => True) ?_ ?_
        · refine Reg.Steps.cons ?_ (Reg.Steps.cons ?_ (Reg.Steps.cons ?_ (Reg.Steps.cons ?_ (Reg.Steps.cons ?_ (Reg.Steps.cons ?_ (Reg.Steps.cons ?_ (Reg.Steps.cons ?_ (Reg.Steps.cons ?_ (Reg.Steps.cons ?_ (Reg.Steps.cons ?_ (Reg.Steps.cons ?_ (Reg.Steps.cons ?_ (Reg.Steps.cons ?_ (Reg.Steps.cons ?_ (Reg.Steps.cons ?_ (Reg.Steps.cons ?_ (Reg.Steps.cons ?_ (Reg.Steps.cons ?_ (Reg.Steps.nil _)))))))))))))))))))
          · intro val ac u hR hp ha K hK      -- 0: t17 := Op.move t0
            have e0 : (ac.tmps[0]?).getD undef = .pointer (some ⟨g, 0, none⟩) := ha 0 (by decide)
            clear ha hp
            refine Reg.Op1.plain rfl ?_
            go_wp2
            exact ⟨rfl, hK _ _ rfl (fun j k _ _ => Reg.Adds.refl _ _ _)⟩
          · intro val ac u hR hp ha K hK      -- 1: t18 := Op.nilCheck t17
            obtain ⟨w17, h17, r17⟩ := hp 0 (by decide)
            have e17 : (ac.tmps[17]?).getD undef = .pointer (some ⟨g, 0, none⟩) := (ha 17 (by decide)).trans h17
            clear h17
            clear ha hp
            refine Reg.Op1.plain rfl ?_
            go_wp2
            exact ⟨rfl, hK _ _ rfl (fun j k _ _ => Reg.Adds.refl _ _ _)⟩
          · intro val ac u hR hp ha K hK      -- 2: t19 := Op.fieldAddr 53 t18 1
            obtain ⟨w18, h18, r18⟩ := hp 1 (by decide)
            have e18 : (ac.tmps[18]?).getD undef = .pointer (some ⟨g, 0, none⟩) := (ha 18 (by decide)).trans h18
            clear h18
            clear ha hp
            refine Reg.Op1.plain rfl ?_
            go_wp2
            exact ⟨rfl, hK _ _ rfl (fun j k _ _ => Reg.Adds.refl _ _ _)⟩
          · intro val ac u hR hp ha K hK      -- 3: t20 := Op.load 24 t19
            obtain ⟨w19, h19, r19⟩ := hp 2 (by decide)
            have e19 : (ac.tmps[19]?).getD undef = .pointer (some ⟨g, 1, none⟩) := (ha 19 (by decide)).trans h19
            clear h19
            clear ha hp
            refine Reg.Op1.plain rfl ?_
            have x0 := (hR.cell (p := ⟨g, 1, none⟩) HHr.out.B.lt).trans (HHr.out.B.cell (j := 1) rfl)
            go_wp2
            exact ⟨rfl, hK _ _ rfl (fun j k _ _ => Reg.Adds.refl _ _ _)⟩
          · intro val ac u hR hp ha K hK      -- 4: t21 := Op.move t6
            have e6 : (ac.tmps[6]?).getD undef = .int .i64 k := ha 6 (by decide)
            clear ha hp
            refine Reg.Op1.plain rfl ?_
            go_wp2
            exact ⟨rfl, hK _ _ rfl (fun j k _ _ => Reg.Adds.refl _ _ _)⟩
          · intro val ac u hR hp ha K hK      -- 5: t22 := Op.indexAddr 24 t20 t21
            obtain ⟨w20, h20, r20⟩ := hp 3 (by decide)
            have e20 : (ac.tmps[20]?).getD undef = .slice (some ⟨b, o, none⟩) es.length c := (ha 20 (by decide)).trans h20
            clear h20
            obtain ⟨w21, h21, r21⟩ := hp 4 (by decide)
            have e21 : (ac.tmps[21]?).getD undef = .int .i64 k := (ha 21 (by decide)).trans h21
            clear h21
            clear ha hp
            refine Reg.Op1.plain rfl ?_
            go_wp2
            exact ⟨rfl, hK _ _ rfl (fun j k _ _ => Reg.Adds.refl _ _ _)⟩
          · intro val ac u hR hp ha K hK      -- 6: t23 := Op.fieldAddr 33 t22 0
            obtain ⟨w22, h22, r22⟩ := hp 5 (by decide)
            have e22 : (ac.tmps[22]?).getD undef = .pointer (some ⟨b, o + k * 20, none⟩) := (ha 22 (by decide)).trans h22
            clear h22
            clear ha hp
            refine Reg.Op1.plain rfl ?_
            go_wp2
            exact ⟨rfl, hK _ _ rfl (fun j k _ _ => Reg.Adds.refl _ _ _)⟩
          · intro val ac u hR hp ha K hK      -- 7: t24 := Op.fieldAddr 29 t23 2
            obtain ⟨w23, h23, r23⟩ := hp 6 (by decide)
            have e23 : (ac.tmps[23]?).getD undef = .pointer (some ⟨b, o + k * 20, none⟩) := (ha 23 (by decide)).trans h23
            clear h23
            clear ha hp
            refine Reg.Op1.plain rfl ?_
            go_wp2
            exact ⟨rfl, hK _ _ rfl (fun j k _ _ => Reg.Adds.refl _ _ _)⟩
          · intro val ac u hR hp ha K hK      -- 8: t25 := Op.load 3 t24
            obtain ⟨w24, h24, r24⟩ := hp 7 (by decide)
            have e24 : (ac.tmps[24]?).getD undef = .pointer (some ⟨b, o + k * 20 + 2, none⟩) := (ha 24 (by decide)).trans h24
            clear h24
            clear ha hp
            refine Reg.Op1.plain rfl ?_
            have x0 := (hR.cell (p := ⟨b, o + k * 20 + 2, none⟩) hb).trans (HAT.out.c 2 _ rfl)
            go_wp2
            exact ⟨rfl, hK _ _ rfl (fun j k _ _ => Reg.Adds.refl _ _ _)⟩
          · intro val ac u hR hp ha K hK      -- 9: t26 := Op.load 27 t3
            have e3 : (ac.tmps[3]?).getD undef = .pointer (some ⟨w.heap.size, 0, none⟩) := ha 3 (by decide)
            clear ha hp
            refine Reg.Op1.plain rfl ?_
            have hVu : VBx u w.heap.size vv := Mem.Bx.below (w := wr.drew) HVr.out hR HVr.out.lt
            refine Mem.load_agg _ _ vec_agg w.heap.size 0 (vcCells vv) (Reg.eval_of e3) (vcCells_length _) (fun j u' hu => by rw [Nat.zero_add]; exact hVu.cell hu) ?_
            exact ⟨rfl, hK _ _ rfl (fun j k _ _ => Reg.Adds.refl _ _ _)⟩
          · intro val ac u hR hp ha K hK      -- 10: t27 := Op.move t0
            have e0 : (ac.tmps[0]?).getD undef = .pointer (some ⟨g, 0, none⟩) := ha 0 (by decide)
            clear ha hp
            refine Reg.Op1.plain rfl ?_
            go_wp2
            exact ⟨rfl, hK _ _ rfl (fun j k _ _ => Reg.Adds.refl _ _ _)⟩
          · intro val ac u hR hp ha K hK      -- 11: t28 := Op.nilCheck t27
            obtain ⟨w27, h27, r27⟩ := hp 10 (by decide)
            have e27 : (ac.tmps[27]?).getD undef = .pointer (some ⟨g, 0, none⟩) := (ha 27 (by decide)).trans h27
            clear h27
            clear ha hp
            refine Reg.Op1.plain rfl ?_
            go_wp2
            exact ⟨rfl, hK _ _ rfl (fun j k _ _ => Reg.Adds.refl _ _ _)⟩
          · intro val ac u hR hp ha K hK      -- 12: t29 := Op.fieldAddr 53 t28 1
            obtain ⟨w28, h28, r28⟩ := hp 11 (by decide)
            have e28 : (ac.tmps[28]?).getD undef = .pointer (some ⟨g, 0, none⟩) := (ha 28 (by decide)).trans h28
            clear h28
            clear ha hp
            refine Reg.Op1.plain rfl ?_
            go_wp2
            exact ⟨rfl, hK _ _ rfl (fun j k _ _ => Reg.Adds.refl _ _ _)⟩
          · intro val ac u hR hp ha K hK      -- 13: t30 := Op.load 24 t29
            obtain ⟨w29, h29, r29⟩ := hp 12 (by decide)
            have e29 : (ac.tmps[29]?).getD undef = .pointer (some ⟨g, 1, none⟩) := (ha 29 (by decide)).trans h29
            clear h29
            clear ha hp
            refine Reg.Op1.plain rfl ?_
            have x0 := (hR.cell (p := ⟨g, 1, none⟩) HHr.out.B.lt).trans (HHr.out.B.cell (j := 1) rfl)
            go_wp2
            exact ⟨rfl, hK _ _ rfl (fun j k _ _ => Reg.Adds.refl _ _ _)⟩
          · intro val ac u hR hp ha K hK      -- 14: t31 := Op.move t6
            have e6 : (ac.tmps[6]?).getD undef = .int .i64 k := ha 6 (by decide)
            clear ha hp
            refine Reg.Op1.plain rfl ?_
            go_wp2
            exact ⟨rfl, hK _ _ rfl (fun j k _ _ => Reg.Adds.refl _ _ _)⟩
          · intro val ac u hR hp ha K hK      -- 15: t32 := Op.indexAddr 24 t30 t31
            obtain ⟨w30, h30, r30⟩ := hp 13 (by decide)
            have e30 : (ac.tmps[30]?).getD undef = .slice (some ⟨b, o, none⟩) es.length c := (ha 30 (by decide)).trans h30
            clear h30
            obtain ⟨w31, h31, r31⟩ := hp 14 (by decide)
            have e31 : (ac.tmps[31]?).getD undef = .int .i64 k := (ha 31 (by decide)).trans h31
            clear h31
            clear ha hp
            refine Reg.Op1.plain rfl ?_
            go_wp2
            exact ⟨rfl, hK _ _ rfl (fun j k _ _ => Reg.Adds.refl _ _ _)⟩
          · intro val ac u hR hp ha K hK      -- 16: t33 := Op.load 33 t32
            obtain ⟨w32, h32, r32⟩ := hp 15 (by decide)
            have e32 : (ac.tmps[32]?).getD undef = .pointer (some ⟨b, o + k * 20, none⟩) := (ha 32 (by decide)).trans h32
            clear h32
            clear ha hp
            refine Reg.Op1.plain rfl ?_
            refine Mem.load_agg _ _ entry_agg b (o + k * 20) (entCells e) (Reg.eval_of e32) (entCells_length _) (fun q u' hu => (hR.cell (p := ⟨b, o + k * 20 + q, none⟩) hb).trans (HAT.out.c q u' hu)) ?_
            exact ⟨rfl, hK _ _ rfl (fun j k _ _ => Reg.Adds.refl _ _ _)⟩
          · intro val ac u hR hp ha K hK      -- 17: t34 := Op.call { value (Operand.func 32), args := #[t26, t33], argTypes := #[27, 33] }
            obtain ⟨w26, h26, r26⟩ := hp 9 (by decide)
            have e26 : (ac.tmps[26]?).getD undef = .agg (vcCells vv).toArray := (ha 26 (by decide)).trans h26
            clear h26
            obtain ⟨w33, h33, r33⟩ := hp 16 (by decide)
            have e33 : (ac.tmps[33]?).getD undef = .agg (entCells e).toArray := (ha 33 (by decide)).trans h33
            clear h33
            clear ha hp
            refine Reg.Op1.plain rfl ?_
            go_wp2_with fail
            refine (number_any vv e u HCH.out).mono ?_
            rintro x w' ⟨rfl, hbw⟩
            rw [HDV.out]
            go_wp2_with fail
            exact ⟨rfl, hK _ _ rfl (fun j k _ _ => hbw)⟩
          · intro val ac u hR hp ha K hK      -- 18: t35 := Op.binOp BinOp.gtr 3 t25 t34 3
            obtain ⟨w25, h25, r25⟩ := hp 8 (by decide)
            have e25 : (ac.tmps[25]?).getD undef = .int .i64 e.seq := (ha 25 (by decide)).trans h25
            clear h25
            obtain ⟨w34, h34, r34⟩ := hp 17 (by decide)
            have e34 : (ac.tmps[34]?).getD undef = .int .i64 dv := (ha 34 (by decide)).trans h34
            clear h34
            clear ha hp
            refine Reg.Op1.plain rfl ?_
            go_wp2
            exact ⟨rfl, hK _ _ rfl (fun j k _ _ => Reg.Adds.refl _ _ _)⟩
        · intro val u hR H
          obtain ⟨_, hv, _⟩ := H 18 (by decide)
          have hv : val 18 = .bool false := hv
          have HKu : Hid (Below wr.heap.size wr u) := (Below.refl _ wr).drew.trans hR
          have HHu := Lib.hid (HHr.out.below HKu.out)
          have HVu : Hid (VBx u w.heap.size vv) := HVr.out.below HKu.out HVr.out.lt
          have HBu : Hid (Below w.heap.size w u) := HBr.out.trans (HKu.out.mono HBr.out.size)
          have HOu : Hid (EOwn u A1 c1 (purged vv (es.take k))) := HOr.out.keeps (Mem.Keeps.of_below HKu.out) (fun _ _ h => h)
          simp only [List.map_cons, List.map_nil, Reg.lay, Act.put, List.setIfInBounds_toArray, List.set_cons_succ, List.set_cons_zero, Nat.reduceAdd, hv]
          clear hR H hv HKu HHr HVr HBr HOr HAT hb
          go_wp2
          go_roundw
          case rel => exact ⟨⟨k + 1, n, A1, c1, hlt, by rw [HPS.out]; exact HN1.out, rfl, by go_num, HHu, HVu, HBu, HPO.out ▸ HOu, HQr⟩⟩
          case measure => simp [intOf]; omega
      · have d1 : decide (dv < e.seq) = true := by simp; omega
        have HPO : Hid (purged vv (es.take (k + 1)) = purged vv (es.take k) ++ [e]) := by show _ = _; rw [hps, hhe, if_neg (by simp [hle])]
        have HPS : Hid ((purged vv (es.take (k + 1))).length = n + 1) := by show _ = _; rw [HPO.out, List.length_append, ← HN1.out]; rfl
        clear hhe hps hle
        refine Reg.wp_region_rel (by kernel_rfl) 59 19 rfl rfl (by kernel_rfl) (Reg.Adds) (Reg.Adds.refl) (Reg.Adds.trans)
          (fun i v u => match i with
            | 0 => v = .pointer (some ⟨g, 0, none⟩)
            | 1 => v = .pointer (some ⟨g, 0, none⟩)
            | 2 => v = .pointer (some ⟨g, 1, none⟩)
            | 3 => v = .slice (some ⟨b, o, none⟩) es.length c
            | 4 => v = .int .i64 k
            | 5 => v = .pointer (some ⟨b, o + k * 20, none⟩)
            | 6 => v = .pointer (some ⟨b, o + k * 20, none⟩)
            | 7 => v = .pointer (some ⟨b, o + k * 20 + 2, none⟩)
            | 8 => v = .int .i64 e.seq
            | 9 => v = .agg (vcCells vv).toArray
            | 10 => v = .pointer (some ⟨g, 0, none⟩)
            | 11 => v = .pointer (some ⟨g, 0, none⟩)
            | 12 => v = .pointer (some ⟨g, 1, none⟩)
            | 13 => v = .slice (some ⟨b, o, none⟩) es.length c
            | 14 => v = .int .i64 k
            | 15 => v = .pointer (some ⟨b, o + k * 20, none⟩)
            | 16 => v = .agg (entCells e).toArray
            | 17 => v = .int .i64 dv
            | 18 => v = .bool true
            | _ => True) ?_ ?_
        · refine Reg.Steps.cons ?_ (Reg.Steps.cons ?_ (Reg.Steps.cons ?_ (Reg.Steps.cons ?_ (Reg.Steps.cons ?_ (Reg.Steps.cons ?_ (Reg.Steps.cons ?_ (Reg.Steps.cons ?_ (Reg.Steps.cons ?_ (Reg.Steps.cons ?_ (Reg.Steps.cons ?_ (Reg.Steps.cons ?_ (Reg.Steps.cons ?_ (Reg.Steps.cons ?_ (Reg.Steps.cons ?_ (Reg.Steps.cons ?_ (Reg.Steps.cons ?_ (Reg.Steps.cons ?_ (Reg.Steps.cons ?_ (Reg.Steps.nil _)))))))))))))))))))
          · intro val ac u hR hp ha K hK      -- 0: t17 := Op.move t0
            have e0 : (ac.tmps[0]?).getD undef = .pointer (some ⟨g, 0, none⟩) := ha 0 (by decide)
            clear ha hp
            refine Reg.Op1.plain rfl ?_
            go_wp2
            exact ⟨rfl, hK _ _ rfl (fun j k _ _ => Reg.Adds.refl _ _ _)⟩
          · intro val ac u hR hp ha K hK      -- 1: t18 := Op.nilCheck t17
            obtain ⟨w17, h17, r17⟩ := hp 0 (by decide)
            have e17 : (ac.tmps[17]?).getD undef = .pointer (some ⟨g, 0, none⟩) := (ha 17 (by decide)).trans h17
            clear h17
            clear ha hp
            refine Reg.Op1.plain rfl ?_
            go_wp2
            exact ⟨rfl, hK _ _ rfl (fun j k _ _ => Reg.Adds.refl _ _ _)⟩
          · intro val ac u hR hp ha K hK      -- 2: t19 := Op.fieldAddr 53 t18 1
            obtain ⟨w18, h18, r18⟩ := hp 1 (by decide)
            have e18 : (ac.tmps[18]?).getD undef = .pointer (some ⟨g, 0, none⟩) := (ha 18 (by decide)).trans h18
            clear h18
            clear ha hp
            refine Reg.Op1.plain rfl ?_
            go_wp2
            exact ⟨rfl, hK _ _ rfl (fun j k _ _ => Reg.Adds.refl _ _ _)⟩
          · intro val ac u hR hp ha K hK      -- 3: t20 := Op.load 24 t19
            obtain ⟨w19, h19, r19⟩ := hp 2 (by decide)
            have e19 : (ac.tmps[19]?).getD undef = .pointer (some ⟨g, 1, none⟩) := (ha 19 (by decide)).trans h19
            clear h19
            clear ha hp
            refine Reg.Op1.plain rfl ?_
            have x0 := (hR.cell (p := ⟨g, 1, none⟩) HHr.out.B.lt).trans (HHr.out.B.cell (j := 1) rfl)
            go_wp2
            exact ⟨rfl, hK _ _ rfl (fun j k _ _ => Reg.Adds.refl _ _ _)⟩
          · intro val ac u hR hp ha K hK      -- 4: t21 := Op.move t6
            have e6 : (ac.tmps[6]?).getD undef = .int .i64 k := ha 6 (by decide)
            clear ha hp
            refine Reg.Op1.plain rfl ?_
            go_wp2
            exact ⟨rfl, hK _ _ rfl (fun j k _ _ => Reg.Adds.refl _ _ _)⟩
          · intro val ac u hR hp ha K hK      -- 5: t22 := Op.indexAddr 24 t20 t21
            obtain ⟨w20, h20, r20⟩ := hp 3 (by decide)
            have e20 : (ac.tmps[20]?).getD undef = .slice (some ⟨b, o, none⟩) es.length c := (ha 20 (by decide)).trans h20
            clear h20
            obtain ⟨w21, h21, r21⟩ := hp 4 (by decide)
            have e21 : (ac.tmps[21]?).getD undef = .int .i64 k := (ha 21 (by decide)).trans h21
            clear h21
            clear ha hp
            refine Reg.Op1.plain rfl ?_
            go_wp2
            exact ⟨rfl, hK _ _ rfl (fun j k _ _ => Reg.Adds.refl _ _ _)⟩
          · intro val ac u hR hp ha K hK      -- 6: t23 := Op.fieldAddr 33 t22 0
            obtain ⟨w22, h22, r22⟩ := hp 5 (by decide)
            have e22 : (ac.tmps[22]?).getD undef = .pointer (some ⟨b, o + k * 20, none⟩) := (ha 22 (by decide)).trans h22
            clear h22
            clear ha hp
            refine Reg.Op1.plain rfl ?_
            go_wp2
            exact ⟨rfl, hK _ _ rfl (fun j k _ _ => Reg.Adds.refl _ _ _)⟩
          · intro val ac u hR hp ha K hK      -- 7: t24 := Op.fieldAddr 29 t23 2
            obtain ⟨w23, h23, r23⟩ := hp 6 (by decide)
            have e23 : (ac.tmps[23]?).getD undef = .pointer (some ⟨b, o + k * 20, none⟩) := (ha 23 (by decide)).trans h23
            clear h23
            clear ha hp
            refine Reg.Op1.plain rfl ?_
            go_wp2
            exact ⟨rfl, hK _ _ rfl (fun j k _ _ => Reg.Adds.refl _ _ _)⟩
          · intro val ac u hR hp ha K hK      -- 8: t25 := Op.load 3 t24
            obtain ⟨w24, h24, r24⟩ := hp 7 (by decide)
            have e24 : (ac.tmps[24]?).getD undef = .pointer (some ⟨b, o + k * 20 + 2, none⟩) := (ha 24 (by decide)).trans h24
            clear h24
            clear ha hp
            refine Reg.Op1.plain rfl ?_
            have x0 := (hR.cell (p := ⟨b, o + k * 20 + 2, none⟩) hb).trans (HAT.out.c 2 _ rfl)
            go_wp2
            exact ⟨rfl, hK _ _ rfl (fun j k _ _ => Reg.Adds.refl _ _ _)⟩
          · intro val ac u hR hp ha K hK      -- 9: t26 := Op.load 27 t3
            have e3 : (ac.tmps[3]?).getD undef = .pointer (some ⟨w.heap.size, 0, none⟩) := ha 3 (by decide)
            clear ha hp
            refine Reg.Op1.plain rfl ?_
            have hVu : VBx u w.heap.size vv := Mem.Bx.below (w := wr.drew) HVr.out hR HVr.out.lt
            refine Mem.load_agg _ _ vec_agg w.heap.size 0 (vcCells vv) (Reg.eval_of e3) (vcCells_length _) (fun j u' hu => by rw [Nat.zero_add]; exact hVu.cell hu) ?_
            exact ⟨rfl, hK _ _ rfl (fun j k _ _ => Reg.Adds.refl _ _ _)⟩
          · intro val ac u hR hp ha K hK      -- 10: t27 := Op.move t0
            have e0 : (ac.tmps[0]?).getD undef = .pointer (some ⟨g, 0, none⟩) := ha 0 (by decide)
            clear ha hp
            refine Reg.Op1.plain rfl ?_
            go_wp2
            exact ⟨rfl, hK _ _ rfl (fun j k _ _ => Reg.Adds.refl _ _ _)⟩
          · intro val ac u hR hp ha K hK      -- 11: t28 := Op.nilCheck t27
            obtain ⟨w27, h27, r27⟩ := hp 10 (by decide)
            have e27 : (ac.tmps[27]?).getD undef = .pointer (some ⟨g, 0, none⟩) := (ha 27 (by decide)).trans h27
            clear h27
            clear ha hp
            refine Reg.Op1.plain rfl ?_
            go_wp2
            exact ⟨rfl, hK _ _ rfl (fun j k _ _ => Reg.Adds.refl _ _ _)⟩
          · intro val ac u hR hp ha K hK      -- 12: t29 := Op.fieldAddr 53 t28 1
            obtain ⟨w28, h28, r28⟩ := hp 11 (by decide)
            have e28 : (ac.tmps[28]?).getD undef = .pointer (some ⟨g, 0, none⟩) := (ha 28 (by decide)).trans h28
            clear h28
            clear ha hp
            refine Reg.Op1.plain rfl ?_
            go_wp2
            exact ⟨rfl, hK _ _ rfl (fun j k _ _ => Reg.Adds.refl _ _ _)⟩
          · intro val ac u hR hp ha K hK      -- 13: t30 := Op.load 24 t29
            obtain ⟨w29, h29, r29⟩ := hp 12 (by decide)
            have e29 : (ac.tmps[29]?).getD undef = .pointer (some ⟨g, 1, none⟩) := (ha 29 (by decide)).trans h29
            clear h29
            clear ha hp
            refine Reg.Op1.plain rfl ?_
            have x0 := (hR.cell (p := ⟨g, 1, none⟩) HHr.out.B.lt).trans (HHr.out.B.cell (j := 1) rfl)
            go_wp2
            exact ⟨rfl, hK _ _ rfl (fun j k _ _ => Reg.Adds.refl _ _ _)⟩
          · intro val ac u hR hp ha K hK      -- 14: t31 := Op.move t6
            have e6 : (ac.tmps[6]?).getD undef = .int .i64 k := ha 6 (by decide)
            clear ha hp
            refine Reg.Op1.plain rfl ?_
            go_wp2
            exact ⟨rfl, hK _ _ rfl (fun j k _ _ => Reg.Adds.refl _ _ _)⟩
          · intro val ac u hR hp ha K hK      -- 15: t32 := Op.indexAddr 24 t30 t31
            obtain ⟨w30, h30, r30⟩ := hp 13 (by decide)
            have e30 : (ac.tmps[30]?).getD undef = .slice (some ⟨b, o, none⟩) es.length c := (ha 30 (by decide)).trans h30
            clear h30
            obtain ⟨w31, h31, r31⟩ := hp 14 (by decide)
            have e31 : (ac.tmps[31]?).getD undef = .int .i64 k := (ha 31 (by decide)).trans h31
            clear h31
            clear ha hp
            refine Reg.Op1.plain rfl ?_
            go_wp2
            exact ⟨rfl, hK _ _ rfl (fun j k _ _ => Reg.Adds.refl _ _ _)⟩
          · intro val ac u hR hp ha K hK      -- 16: t33 := Op.load 33 t32
            obtain ⟨w32, h32, r32⟩ := hp 15 (by decide)
            have e32 : (ac.tmps[32]?).getD undef = .pointer (some ⟨b, o + k * 20, none⟩) := (ha 32 (by decide)).trans h32
            clear h32
            clear ha hp
            refine Reg.Op1.plain rfl ?_
            refine Mem.load_agg _ _ entry_agg b (o + k * 20) (entCells e) (Reg.eval_of e32) (entCells_length _) (fun q u' hu => (hR.cell (p := ⟨b, o + k * 20 + q, none⟩) hb).trans (HAT.out.c q u' hu)) ?_
            exact ⟨rfl, hK _ _ rfl (fun j k _ _ => Reg.Adds.refl _ _ _)⟩
          · intro val ac u hR hp ha K hK      -- 17: t34 := Op.call { value (Operand.func 32), args := #[t26, t33], argTypes := #[27, 33] }
            obtain ⟨w26, h26, r26⟩ := hp 9 (by decide)
            have e26 : (ac.tmps[26]?).getD undef = .agg (vcCells vv).toArray := (ha 26 (by decide)).trans h26
            clear h26
            obtain ⟨w33, h33, r33⟩ := hp 16 (by decide)
            have e33 : (ac.tmps[33]?).getD undef = .agg (entCells e).toArray := (ha 33 (by decide)).trans h33
            clear h33
            clear ha hp
            refine Reg.Op1.plain rfl ?_
            go_wp2_with fail
            refine (number_any vv e u HCH.out).mono ?_
            rintro x w' ⟨rfl, hbw⟩
            rw [HDV.out]
            go_wp2_with fail
            exact ⟨rfl, hK _ _ rfl (fun j k _ _ => hbw)⟩
          · intro val ac u hR hp ha K hK      -- 18: t35 := Op.binOp BinOp.gtr 3 t25 t34 3
            obtain ⟨w25, h25, r25⟩ := hp 8 (by decide)
            have e25 : (ac.tmps[25]?).getD undef = .int .i64 e.seq := (ha 25 (by decide)).trans h25
            clear h25
            obtain ⟨w34, h34, r34⟩ := hp 17 (by decide)
            have e34 : (ac.tmps[34]?).getD undef = .int .i64 dv := (ha 34 (by decide)).trans h34
            clear h34
            clear ha hp
            refine Reg.Op1.plain rfl ?_
            go_wp2
            exact ⟨rfl, hK _ _ rfl (fun j k _ _ => Reg.Adds.refl _ _ _)⟩
        · intro val u hR H
          obtain ⟨_, hv, _⟩ := H 18 (by decide)
          have hv : val 18 = .bool true := hv
          have HKu : Hid (Below wr.heap.size wr u) := (Below.refl _ wr).drew.trans hR
          have HHu := Lib.hid (HHr.out.below HKu.out)
          have HVu : Hid (VBx u w.heap.size vv) := HVr.out.below HKu.out HVr.out.lt
          have HBu : Hid (Below w.heap.size w u) := HBr.out.trans (HKu.out.mono HBr.out.size)
          have HOu : Hid (EOwn u A1 c1 (purged vv (es.take k))) := HOr.out.keeps (Mem.Keeps.of_below HKu.out) (fun _ _ h => h)
          simp only [List.map_cons, List.map_nil, Reg.lay, Act.put, List.setIfInBounds_toArray, List.set_cons_succ, List.set_cons_zero, Nat.reduceAdd, hv]
          have HATu : Hid (EntAt u b (o + k * 20) e) := HAT.out.below HKu.out hb
          clear hR H hv HKu HHr HVr HBr HOr HAT
          obtain ⟨wu, hwu⟩ : ∃ wu, wu = u := ⟨_, rfl⟩
          subst hwu
          have x1 := HHu.out.B.cell (j := 1) rfl
          have hgu : w.heap.size < wu.heap.size := HVu.out.lt
          have HRD9 := Lib.hid (Mem.Rd.alloc_new wu (entCells e).toArray 33 (0, 0) rfl)
          have HO9 : Hid (Mem.Own (wu.alloc (.cells (entCells e).toArray 33)) 33 20 A1 n c1 ((purged vv (es.take k)).flatMap entCells)) := by
            have h9 : Mem.Own _ _ _ _ _ _ _ := HOu.out.keeps ((Mem.Keeps.refl (fun _ => False) wu).alloc (.cells (entCells e).toArray 33)) (fun _ _ h => h)
            rw [← HN1.out] at h9
            exact h9
          go_upto_region 4 with (first | ((with_reducible refine Mem.load_agg _ _ entry_agg (b) (o + k * 20) (entCells e) ?hxea (entCells_length _) (HATu.out.c) ?_); (case hxea => exact rfl)) | ((with_reducible refine Mem.build1_agg _ _ 20 _ Try.underlying24 entry_zero (by decide) (by decide) (entCells e) ?hra (entCells_length _) ?_); (case hra => exact rfl)) | (at_builtin; refine Mem.wpList_app _ rfl (.tmp 36) (.tmp 44) _ rfl entries_elem A1 n c1 _ rfl (wu.heap.size + 1) (some ⟨wu.heap.size, 0, none⟩) 1 1 (entCells e) rfl ?_ HO9.out HRD9.out rfl (ent_one e) (len300 hn1).1 (len300 hn1).2; intro A2 c2 w12 hown hgr hat; have HOwn := Lib.hid hown; have HGr := Lib.hid hgr; have HAt9 := Lib.hid hat; clear hown hgr hat))
          have HK12 : Hid (Mem.Keeps (fun y => Mem.blk A1 = some y) wu w12) := (((Mem.Keeps.refl (fun y => Mem.blk A1 = some y) wu).alloc _).grown HGr.out (fun k h _ => h))
          have HV12 : Hid (VBx w12 w.heap.size vv) := HVu.out.keeps HK12.out (fun h => by have := HQr.out _ h; omega)
          have HB12 : Hid (Below w.heap.size w w12) := HBu.out.trans (HK12.out.below (fun q h => Nat.le_of_lt (HQr.out q h)) HBu.out.size)
          have HH12 : Hid (HAt 53 w12 g (some ⟨b, o, none⟩) c rng es) := HHu.out.keeps HK12.out (fun q h1 h2 => by have := HG.out q h1; have := HQr.out q h2; omega)
          have HO12 : Hid (EOwn w12 A2 c2 (purged vv (es.take (k + 1)))) := by
            show Mem.Own _ _ _ _ _ _ _
            rw [HPO.out, List.length_append, ← HN1.out, List.flatMap_append]
            simpa using HOwn.out
          have HQ12 : Hid (∀ q, Mem.blk A2 = some q → w.heap.size < q) := fun q h => by
            rcases HAt9.out with h1 | h1
            · rw [h1] at h; exact HQr.out q h
            · rw [h1] at h
              simp [Mem.blk] at h
              omega
          have HN2 : Hid (n + 1 = (purged vv (es.take (k + 1))).length) := by show _ = _; rw [HPS.out]
          clear HOwn HGr HAt9 HO9 HRD9 HOu HVu HBu HHu HK12 HATu x1 hgu
          go_wp2
          go_roundw
          case rel => exact ⟨⟨k + 1, n + 1, A2, c2, hlt, HN2.out, rfl, by go_num, HH12, HV12, HB12, HO12, HQ12⟩⟩
          case measure => simp [intOf]; omega
    · obtain rfl : k = es.length := by omega
      have HN9 : Hid (n = (purged vv es).length) := by have h9 := HN1.out; rw [List.take_length] at h9; exact h9
      have HO9 : Hid (Mem.Own wr 33 20 A1 n c1 ((purged vv es).flatMap entCells)) := by have h9 : Mem.Own _ _ _ _ _ _ _ := HOr.out; rw [← HN1.out, List.take_length] at h9; exact h9
      have hw9 : wrap64 ((es.length : Int) - (n : Int)) = ((es.length - n : Nat) : Int) := by rw [IntWalk.wrap64_in _ (by omega)]; omega
      have xf := HHr.out.B.fr
      have hg1 := HG.out g (.inl rfl)
      have hA4 := HAt.set (es' := purged vv es) (A' := A1) (c' := c1) HHr.out.B (by have h9 := HO9.out; rw [HN9.out] at h9; exact h9) (fun q h => by have := HQr.out q h; omega)
      rw [← HN9.out] at hA4
      have hk4 : Mem.Keeps (fun y => y = g) wr (wr.setCell ⟨g, 1, none⟩ (.slice A1 n c1)) := (Mem.Keeps.refl (fun y => y = g) wr).setCell (p := ⟨g, 1, none⟩) (fun _ => rfl) _
      have HA4 := Lib.hid hA4
      have HK4 := Lib.hid hk4
      clear hA4 hk4
      go_wp2
      go_ret
      have hsub : ((es.length : Int) - (n : Int)) = ((es.length - n : Nat) : Int) := by omega
      exact ⟨by rw [← HN9.out]; show Ending.returned (.int .i64 ((es.length : Int) - (n : Int))) = _; rw [hsub], ⟨A1, c1, HA4.out, fun q h => .inr (Nat.le_of_lt (HQr.out q h))⟩, ((Mem.Keeps.of_below HBr.out).mono (fun _ h _ => h.elim)).trans HK4.out (fun q h _ => .inl h)⟩

open Vec in
set_option maxRecDepth 8000 in
theorem entries_any (A1 A2 : Option Addr) (c1 c2 : Nat) (es : List Vec.Ent) (B1 B2 : Nat) (w : World) (h1 : Mem.Rd w B1 A1 (es.flatMap Vec.entCells)) (h2 : Mem.Rd w B2 A2 (es.flatMap Vec.entCells)) (hB1 : B1 ≤ w.heap.size) (hB2 : B2 ≤ w.heap.size) (hn : es.length ≤ 300) :
    Calls Try.prog 19 #[.slice A1 es.length c1, .slice A2 es.length c2] w fun x w' => x = .returned (.bool true) ∧ Below w.heap.size w w' := by
  have HR1 := Lib.hid (h1.more hB1)
  have HR2 := Lib.hid (h2.more hB2)
  have d1 : ((es.length : Int) != (es.length : Int)) = false := by simp
  clear h1 h2 hB1 hB2
  go_enter Try.func19, Try.ntmps19
  go_wp2
  go_loopw [5] (EnRel w es.length) (fun t _ => es.length - (intOf t).toNat)
  case atStart => exact ⟨⟨0, Nat.zero_le _, rfl, Below.refl _ _⟩⟩
  case round =>
    obtain ⟨k, hk, rfl, HB⟩ := hrel.out
    by_cases hlt : k < es.length
    · obtain ⟨b, o, e, rfl, hb, he, hat⟩ := ent_elem HR1.out hlt
      obtain ⟨b2, o2, e2, rfl, hb2, he2, hat2⟩ := ent_elem HR2.out hlt
      rw [he] at he2
      obtain rfl : e = e2 := Option.some.inj he2
      have HAT := Lib.hid (hat.below HB.out hb)
      have HAT2 := Lib.hid (hat2.below HB.out hb2)
      have hbr : b < wr.heap.size := Nat.lt_of_lt_of_le hb HB.out.size
      have hbr2 : b2 < wr.heap.size := Nat.lt_of_lt_of_le hb2 HB.out.size
      have e1 : ∀ W, (binOp .neq 33 (.agg (entCells e).toArray) (.agg (entCells e).toArray)).run Try.prog W = .ok (.bool false) W := fun W => by rw [neq_ent, eqEnt_iff.2 rfl]; rfl
      have E1 := Lib.hid e1
      clear hat hat2 he he2 e1 hrel hb hb2
      go_upto_region 6 with fail
      refine Reg.wp_region_rel (by kernel_rfl) 26 9 rfl rfl (by kernel_rfl) (Reg.Adds) (Reg.Adds.refl) (Reg.Adds.trans)
        (fun i v u => match i with
          | 0 => v = .slice (some ⟨b, o, none⟩) es.length c1
          | 1 => v = .int .i64 k
          | 2 => v = .pointer (some ⟨b, o + k * 20, none⟩)
          | 3 => v = .agg (entCells e).toArray
          | 4 => v = .slice (some ⟨b2, o2, none⟩) es.length c2
          | 5 => v = .int .i64 k
          | 6 => v = .pointer (some ⟨b2, o2 + k * 20, none⟩)
          | 7 => v = .agg (entCells e).toArray
          | 8 => v = .bool false
          | _ => True) ?_ ?_
      · refine Reg.Steps.cons ?_ (Reg.Steps.cons ?_ (Reg.Steps.cons ?_ (Reg.Steps.cons ?_ (Reg.Steps.cons ?_ (Reg.Steps.cons ?_ (Reg.Steps.cons ?_ (Reg.Steps.cons ?_ (Reg.Steps.cons ?_ (Reg.Steps.nil _)))))))))
        · intro val ac u hR hp ha K hK      -- 0: t17 := Op.move t0
          have e0 : (ac.tmps[0]?).getD undef = .slice (some ⟨b, o, none⟩) es.length c1 := ha 0 (by decide)
          clear ha hp
          refine Reg.Op1.plain rfl ?_
          go_wp2
          exact ⟨rfl, hK _ _ rfl (fun j k _ _ => Reg.Adds.refl _ _ _)⟩
        · intro val ac u hR hp ha K hK      -- 1: t18 := Op.move t5
          have e5 : (ac.tmps[5]?).getD undef = .int .i64 k := ha 5 (by decide)
          clear ha hp
          refine Reg.Op1.plain rfl ?_
          go_wp2
          exact ⟨rfl, hK _ _ rfl (fun j k _ _ => Reg.Adds.refl _ _ _)⟩
        · intro val ac u hR hp ha K hK      -- 2: t19 := Op.indexAddr 24 t17 t18
          obtain ⟨w17, h17, r17⟩ := hp 0 (by decide)
          have e17 : (ac.tmps[17]?).getD undef = .slice (some ⟨b, o, none⟩) es.length c1 := (ha 17 (by decide)).trans h17
          clear h17
          obtain ⟨w18, h18, r18⟩ := hp 1 (by decide)
          have e18 : (ac.tmps[18]?).getD undef = .int .i64 k := (ha 18 (by decide)).trans h18
          clear h18
          clear ha hp
          refine Reg.Op1.plain rfl ?_
          go_wp2
          exact ⟨rfl, hK _ _ rfl (fun j k _ _ => Reg.Adds.refl _ _ _)⟩
        · intro val ac u hR hp ha K hK      -- 3: t20 := Op.load 33 t19
          obtain ⟨w19, h19, r19⟩ := hp 2 (by decide)
          have e19 : (ac.tmps[19]?).getD undef = .pointer (some ⟨b, o + k * 20, none⟩) := (ha 19 (by decide)).trans h19
          clear h19
          clear ha hp
          refine Reg.Op1.plain rfl ?_
          refine Mem.load_agg _ _ entry_agg b (o + k * 20) (entCells e) (Reg.eval_of e19) (entCells_length _) (fun q u' hu => (hR.cell (p := ⟨b, o + k * 20 + q, none⟩) hbr).trans (HAT.out.c q u' hu)) ?_
          exact ⟨rfl, hK _ _ rfl (fun j k _ _ => Reg.Adds.refl _ _ _)⟩
        · intro val ac u hR hp ha K hK      -- 4: t21 := Op.move t1
          have e1 : (ac.tmps[1]?).getD undef = .slice (some ⟨b2, o2, none⟩) es.length c2 := ha 1 (by decide)
          clear ha hp
          refine Reg.Op1.plain rfl ?_
          go_wp2
          exact ⟨rfl, hK _ _ rfl (fun j k _ _ => Reg.Adds.refl _ _ _)⟩
        · intro val ac u hR hp ha K hK      -- 5: t22 := Op.move t5
          have e5 : (ac.tmps[5]?).getD undef = .int .i64 k := ha 5 (by decide)
          clear ha hp
          refine Reg.Op1.plain rfl ?_
          go_wp2
          exact ⟨rfl, hK _ _ rfl (fun j k _ _ => Reg.Adds.refl _ _ _)⟩
        · intro val ac u hR hp ha K hK      -- 6: t23 := Op.indexAddr 24 t21 t22
          obtain ⟨w21, h21, r21⟩ := hp 4 (by decide)
          have e21 : (ac.tmps[21]?).getD undef = .slice (some ⟨b2, o2, none⟩) es.length c2 := (ha 21 (by decide)).trans h21
          clear h21
          obtain ⟨w22, h22, r22⟩ := hp 5 (by decide)
          have e22 : (ac.tmps[22]?).getD undef = .int .i64 k := (ha 22 (by decide)).trans h22
          clear h22
          clear ha hp
          refine Reg.Op1.plain rfl ?_
          go_wp2
          exact ⟨rfl, hK _ _ rfl (fun j k _ _ => Reg.Adds.refl _ _ _)⟩
        · intro val ac u hR hp ha K hK      -- 7: t24 := Op.load 33 t23
          obtain ⟨w23, h23, r23⟩ := hp 6 (by decide)
          have e23 : (ac.tmps[23]?).getD undef = .pointer (some ⟨b2, o2 + k * 20, none⟩) := (ha 23 (by decide)).trans h23
          clear h23
          clear ha hp
          refine Reg.Op1.plain rfl ?_
          refine Mem.load_agg _ _ entry_agg b2 (o2 + k * 20) (entCells e) (Reg.eval_of e23) (entCells_length _) (fun q u' hu => (hR.cell (p := ⟨b2, o2 + k * 20 + q, none⟩) hbr2).trans (HAT2.out.c q u' hu)) ?_
          exact ⟨rfl, hK _ _ rfl (fun j k _ _ => Reg.Adds.refl _ _ _)⟩
        · intro val ac u hR hp ha K hK      -- 8: t25 := Op.binOp BinOp.neq 33 t20 t24 33
          obtain ⟨w20, h20, r20⟩ := hp 3 (by decide)
          have e20 : (ac.tmps[20]?).getD undef = .agg (entCells e).toArray := (ha 20 (by decide)).trans h20
          clear h20
          obtain ⟨w24, h24, r24⟩ := hp 7 (by decide)
          have e24 : (ac.tmps[24]?).getD undef = .agg (entCells e).toArray := (ha 24 (by decide)).trans h24
          clear h24
          clear ha hp
          refine Reg.Op1.plain rfl ?_
          have e1 := E1.out
          go_wp2
          exact ⟨rfl, hK _ _ rfl (fun j k _ _ => Reg.Adds.refl _ _ _)⟩
      · intro val u hR H
        obtain ⟨_, hv, _⟩ := H 8 (by decide)
        have hv : val 8 = .bool false := hv
        have HBu : Hid (Below w.heap.size w u) := HB.out.trans (((Below.refl _ wr).drew.trans hR).mono HB.out.size)
        simp only [List.map_cons, List.map_nil, Reg.lay, Act.put, List.setIfInBounds_toArray, List.set_cons_succ, List.set_cons_zero, Nat.reduceAdd, hv]
        clear hR H hv HAT HAT2 E1
        go_wp2
        go_roundw
        case rel => exact ⟨⟨k + 1, hlt, by go_num, HBu⟩⟩
        case measure => simp [intOf]; omega
    · obtain rfl : k = es.length := by omega
      go_wp2
      go_ret
      exact ⟨rfl, HB.out⟩
end Go.Proofs.Ytgdcfdjfoeoknaa
