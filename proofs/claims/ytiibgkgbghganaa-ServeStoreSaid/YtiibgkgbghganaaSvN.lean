/- The walk of causewaylaw19.numbered: the beginning of a list that is numbered. No conditions. -/
import Derived.Test.YtiibgkgbghganaaTyRightE
import Derived.Test.YtiibgkgbghganaaSvNL
namespace Go.Proofs.Ytiibgkgbghganaa
open Go.ChangeShapes Go.WideShapes Go.ChangeAt Go.RowKit
set_option linter.unusedVariables false
set_option linter.unusedSimpArgs false

namespace Vec
def Small (c : Col) : Prop := ∀ i, i < 3 → 0 ≤ c.at i ∧ c.at i ≤ 1099511627776
theorem small0 : Small col0 := fun i hi => by
  have h : i = 0 ∨ i = 1 ∨ i = 2 := by omega
  rcases h with rfl | rfl | rfl <;> simp [col0, Col.at]
structure NumRel (w : World) (rng : Int) (es : List Ent) (v5 v7 : Value) (wr : World) : Prop where
  out : ∃ (k : Nat) (A2 : Option Addr) (c2 : Nat), k ≤ es.length ∧ v5 = .slice A2 k c2 ∧ v7 = .int .i64 k ∧ Hid (Mem.Own wr 33 20 A2 k c2 ((es.take k).flatMap entCells)) ∧ Hid (Mem.From (w.heap.size + 1) A2) ∧ Hid (CBx wr w.heap.size (column rng (es.take k))) ∧ Hid (NB rng (es.take k)) ∧ Hid (∀ e ∈ es.take k, rightE e = true) ∧ Hid (Small (column rng (es.take k))) ∧ Hid (Below w.heap.size w wr)
def NumEnd (w : World) (rng : Int) (es : List Ent) (x : Ending) (w' : World) : Prop :=
  ∃ (K : Nat) (A2 : Option Addr) (c2 : Nat), K ≤ es.length ∧ x = .returned (.slice A2 K c2) ∧ Mem.Own w' 33 20 A2 K c2 ((es.take K).flatMap entCells) ∧ NB rng (es.take K) ∧ (∀ e ∈ es.take K, rightE e = true) ∧ Below w.heap.size w w'
theorem NB.snoc {rng : Int} {es : List Ent} {k : Nat} {e : Ent} (h : NB rng (es.take k)) (he : es[k]? = some e) (h1 : e.rng = rng) (h2 : chain e.dc rng = true) (h3 : e.seq = (column rng (es.take k)).at e.dc.toNat + 1) : NB rng (es.take (k + 1)) := by
  intro j x hx
  have hk := (List.getElem?_eq_some_iff.1 he).1
  have hjl := (List.getElem?_eq_some_iff.1 hx).1
  rw [List.length_take] at hjl
  by_cases hj : j < k
  · have h4 : (es.take k)[j]? = some x := by
      rw [List.getElem?_take, if_pos (by omega)] at hx
      rw [List.getElem?_take, if_pos hj]; exact hx
    have h5 := h j x h4
    rw [List.take_take, Nat.min_eq_left (by omega)] at h5 ⊢
    exact h5
  · obtain rfl : j = k := by omega
    rw [List.getElem?_take, if_pos (by omega), he] at hx
    cases hx
    rw [List.take_take, Nat.min_eq_left (by omega)]
    exact ⟨h1, h2, h3⟩
end Vec
open Vec in
set_option maxRecDepth 20000 in
set_option maxHeartbeats 8000000 in
theorem numbered_any (rng : Int) (A : Option Addr) (c : Nat) (es : List Vec.Ent) (B : Nat) (w : World) (hr : Mem.Rd w B A (es.flatMap Vec.entCells)) (hB : B ≤ w.heap.size) (hn : es.length ≤ 1000000) :
    Calls Try.prog 15 #[.int .i64 rng, .slice A es.length c] w (Vec.NumEnd w rng es) := by
  have hm := Lib.hid (hr.more hB)
  clear hr
  go_enter Try.func15, Try.ntmps15
  go_wp2
  go_loopw [5, 7] (NumRel w rng es) (fun _ t _ => es.length - (intOf t).toNat)
  case atStart => exact ⟨⟨0, none, 0, by omega, rfl, rfl, Mem.Own.nil _ _ _, Mem.From.none_ _, Mem.Bx.new w 37 (colCells col0).toArray rfl rfl, (fun k e h => by simp at h), (fun e h => by simp at h), small0, Reg.below_new _ _⟩⟩
  case round =>
    obtain ⟨k, A2, c2, hk, rfl, rfl, HO, HF, HC, HNB, HRT, HSM, HB⟩ := hrel.out
    have hz := HB.out.size
    have hzc := HC.out.lt
    by_cases hlt : k < es.length
    · obtain ⟨b, o, e, rfl, hb, he, hat⟩ := ent_elem hm.out hlt
      have HAT := Lib.hid (hat.below HB.out hb)
      have HEK := Lib.hid he
      obtain ⟨col, hcol⟩ : ∃ col, column rng (es.take k) = col := ⟨_, rfl⟩
      rw [hcol] at HC HSM
      have HCOL := Lib.hid hcol
      clear hat he hcol
      go_upto_region 7 with (first | ((with_reducible refine Mem.load_agg _ _ entry_agg b (o + k * 20) (entCells e) ?hx (entCells_length e) HAT.out.c ?_); case hx => exact rfl) | ((with_reducible refine Mem.store_agg _ _ entry_agg wr.heap.size (entCells ent0) (entCells e) ?hxa ?hya ?hba (entCells_length e) (ent_one e) ?_); ((case hxa => exact rfl); (case hya => exact rfl); (case hba => exact Mem.Bx.new wr _ (entCells ent0).toArray rfl rfl); intro w2 hb2 hk2 hs2)))
      have HK2 := Lib.hid (hk2.newBox rfl)
      have hs3 : wr.heap.size < w2.heap.size := hb2.lt
      have HE2 : Hid (EBx w2 wr.heap.size e) := hb2
      have HC2 : Hid (CBx w2 w.heap.size col) := HC.out.keeps HK2.out id
      have HO2 : Hid (Mem.Own w2 33 20 A2 k c2 ((es.take k).flatMap entCells)) := HO.out.keeps HK2.out (fun _ _ h => h)
      have HB' : Hid (Below w.heap.size w w2) := HB.out.trans (HK2.out.below (fun k h => h.elim) HB.out.size)
      clear hb2 hk2 hs2 HAT HO HC
      cases hre : rightE e
      ·
        go_upto_region 7 with fail
        refine Reg.wp_region_rel (by kernel_rfl) 62 31 rfl rfl (by kernel_rfl) (Reg.Adds) (Reg.Adds.refl) (Reg.Adds.trans)
          (fun i v u => match i with
            | 0 => v = .agg (entCells e).toArray
            | 1 => v = .bool false
            | 2 => v = .bool true
            | 3 => v = .bool true
            | 4 => v = undef
            | 5 => v = undef
            | 6 => v = undef
            | 7 => v = undef
            | 8 => v = undef
            | 9 => v = .bool true
            | 10 => v = .bool true
            | 11 => v = undef
            | 12 => v = undef
            | 13 => v = undef
            | 14 => v = undef
            | 15 => v = undef
            | 16 => v = undef
            | 17 => v = undef
            | 18 => v = undef
            | 19 => v = undef
            | 20 => v = undef
            | 21 => v = .bool true
            | 22 => v = .bool true
            | 23 => v = undef
            | 24 => v = undef
            | 25 => v = undef
            | 26 => v = undef
            | 27 => v = undef
            | 28 => v = undef
            | 29 => v = undef
            | 30 => v = .bool true
            | _ => True) ?_ ?_
        · refine Reg.Steps.cons ?_ (Reg.Steps.cons ?_ (Reg.Steps.cons ?_ (Reg.Steps.cons ?_ (Reg.Steps.cons ?_ (Reg.Steps.cons ?_ (Reg.Steps.cons ?_ (Reg.Steps.cons ?_ (Reg.Steps.cons ?_ (Reg.Steps.cons ?_ (Reg.Steps.cons ?_ (Reg.Steps.cons ?_ (Reg.Steps.cons ?_ (Reg.Steps.cons ?_ (Reg.Steps.cons ?_ (Reg.Steps.cons ?_ (Reg.Steps.cons ?_ (Reg.Steps.cons ?_ (Reg.Steps.cons ?_ (Reg.Steps.cons ?_ (Reg.Steps.cons ?_ (Reg.Steps.cons ?_ (Reg.Steps.cons ?_ (Reg.Steps.cons ?_ (Reg.Steps.cons ?_ (Reg.Steps.cons ?_ (Reg.Steps.cons ?_ (Reg.Steps.cons ?_ (Reg.Steps.cons ?_ (Reg.Steps.cons ?_ (Reg.Steps.cons ?_ (Reg.Steps.nil _)))))))))))))))))))))))))))))))
          · intro val ac u hR hp ha K hK      -- 0: t19 := Op.load 33 t8
            have e8 : (ac.tmps[8]?).getD undef = .pointer (some ⟨wr.heap.size, 0, none⟩) := ha 8 (by decide)
            clear ha hp
            refine Reg.Op1.plain rfl ?_
            refine Mem.load_agg _ _ entry_agg wr.heap.size 0 (entCells e) (Reg.eval_of e8) (entCells_length _) (fun j u' hu => by rw [Nat.zero_add]; exact (hR.cell (p := ⟨wr.heap.size, j, none⟩) HE2.out.lt).trans (HE2.out.cell hu)) ?_
            exact ⟨rfl, hK _ _ rfl (fun j k _ _ => Reg.Adds.refl _ _ _)⟩
          · intro val ac u hR hp ha K hK      -- 1: t20 := Op.call { value (Operand.func 28), args := #[t19], argTypes := #[33] }
            obtain ⟨w19, h19, r19⟩ := hp 0 (by decide)
            have e19 : (ac.tmps[19]?).getD undef = .agg (entCells e).toArray := (ha 19 (by decide)).trans h19
            clear h19
            clear ha hp
            refine Reg.Op1.plain rfl ?_
            go_wp2_with fail
            refine (rightE_any e u).mono ?_
            rintro x w' ⟨rfl, hbw⟩
            rw [hre]
            go_wp2_with fail
            exact ⟨rfl, hK _ _ rfl (fun j k _ _ => hbw)⟩
          · intro val ac u hR hp ha K hK      -- 2: t21 := Op.unOp UnOp.not 4 t20
            obtain ⟨w20, h20, r20⟩ := hp 1 (by decide)
            have e20 : (ac.tmps[20]?).getD undef = .bool false := (ha 20 (by decide)).trans h20
            clear h20
            clear ha hp
            refine Reg.Op1.plain rfl ?_
            go_wp2
            exact ⟨rfl, hK _ _ rfl (fun j k _ _ => Reg.Adds.refl _ _ _)⟩
          · intro val ac u hR hp ha K hK      -- 3: t22 := Op.move t21
            obtain ⟨w21, h21, r21⟩ := hp 2 (by decide)
            have e21 : (ac.tmps[21]?).getD undef = .bool true := (ha 21 (by decide)).trans h21
            clear h21
            clear ha hp
            refine Reg.Op1.plain rfl ?_
            go_wp2
            exact ⟨rfl, hK _ _ rfl (fun j k _ _ => Reg.Adds.refl _ _ _)⟩
          · intro val ac u hR hp ha K hK      -- 4: t23 := Op.fieldAddr 33 t8 0
            obtain ⟨w22, h22, r22⟩ := hp 3 (by decide)
            have e22 : (ac.tmps[22]?).getD undef = .bool true := (ha 22 (by decide)).trans h22
            clear h22
            clear ha hp
            exact Reg.Op1.guarded rfl rfl e22 (fun h => by cases h) (fun _ => hK _ _ rfl (fun j k _ _ => Reg.Adds.refl _ _ _))
          · intro val ac u hR hp ha K hK      -- 5: t24 := Op.fieldAddr 26 t23 1
            obtain ⟨w22, h22, r22⟩ := hp 3 (by decide)
            have e22 : (ac.tmps[22]?).getD undef = .bool true := (ha 22 (by decide)).trans h22
            clear h22
            clear ha hp
            exact Reg.Op1.guarded rfl rfl e22 (fun h => by cases h) (fun _ => hK _ _ rfl (fun j k _ _ => Reg.Adds.refl _ _ _))
          · intro val ac u hR hp ha K hK      -- 6: t25 := Op.load 3 t24
            obtain ⟨w22, h22, r22⟩ := hp 3 (by decide)
            have e22 : (ac.tmps[22]?).getD undef = .bool true := (ha 22 (by decide)).trans h22
            clear h22
            clear ha hp
            exact Reg.Op1.guarded rfl rfl e22 (fun h => by cases h) (fun _ => hK _ _ rfl (fun j k _ _ => Reg.Adds.refl _ _ _))
          · intro val ac u hR hp ha K hK      -- 7: t26 := Op.move t0
            obtain ⟨w22, h22, r22⟩ := hp 3 (by decide)
            have e22 : (ac.tmps[22]?).getD undef = .bool true := (ha 22 (by decide)).trans h22
            clear h22
            clear ha hp
            exact Reg.Op1.guarded rfl rfl e22 (fun h => by cases h) (fun _ => hK _ _ rfl (fun j k _ _ => Reg.Adds.refl _ _ _))
          · intro val ac u hR hp ha K hK      -- 8: t27 := Op.binOp BinOp.neq 3 t25 t26 3
            obtain ⟨w22, h22, r22⟩ := hp 3 (by decide)
            have e22 : (ac.tmps[22]?).getD undef = .bool true := (ha 22 (by decide)).trans h22
            clear h22
            clear ha hp
            exact Reg.Op1.guarded rfl rfl e22 (fun h => by cases h) (fun _ => hK _ _ rfl (fun j k _ _ => Reg.Adds.refl _ _ _))
          · intro val ac u hR hp ha K hK      -- 9: t28 := Op.pick t22 (const (Value.bool true)) t27
            obtain ⟨w22, h22, r22⟩ := hp 3 (by decide)
            have e22 : (ac.tmps[22]?).getD undef = .bool true := (ha 22 (by decide)).trans h22
            clear h22
            obtain ⟨w27, h27, r27⟩ := hp 8 (by decide)
            have e27 : (ac.tmps[27]?).getD undef = undef := (ha 27 (by decide)).trans h27
            clear h27
            clear ha hp
            refine Reg.Op1.plain rfl ?_
            go_wp2
            exact ⟨rfl, hK _ _ rfl (fun j k _ _ => Reg.Adds.refl _ _ _)⟩
          · intro val ac u hR hp ha K hK      -- 10: t29 := Op.move t28
            obtain ⟨w28, h28, r28⟩ := hp 9 (by decide)
            have e28 : (ac.tmps[28]?).getD undef = .bool true := (ha 28 (by decide)).trans h28
            clear h28
            clear ha hp
            refine Reg.Op1.plain rfl ?_
            go_wp2
            exact ⟨rfl, hK _ _ rfl (fun j k _ _ => Reg.Adds.refl _ _ _)⟩
          · intro val ac u hR hp ha K hK      -- 11: t30 := Op.fieldAddr 33 t8 0
            obtain ⟨w29, h29, r29⟩ := hp 10 (by decide)
            have e29 : (ac.tmps[29]?).getD undef = .bool true := (ha 29 (by decide)).trans h29
            clear h29
            clear ha hp
            exact Reg.Op1.guarded rfl rfl e29 (fun h => by cases h) (fun _ => hK _ _ rfl (fun j k _ _ => Reg.Adds.refl _ _ _))
          · intro val ac u hR hp ha K hK      -- 12: t31 := Op.fieldAddr 26 t30 2
            obtain ⟨w29, h29, r29⟩ := hp 10 (by decide)
            have e29 : (ac.tmps[29]?).getD undef = .bool true := (ha 29 (by decide)).trans h29
            clear h29
            clear ha hp
            exact Reg.Op1.guarded rfl rfl e29 (fun h => by cases h) (fun _ => hK _ _ rfl (fun j k _ _ => Reg.Adds.refl _ _ _))
          · intro val ac u hR hp ha K hK      -- 13: t32 := Op.load 3 t31
            obtain ⟨w29, h29, r29⟩ := hp 10 (by decide)
            have e29 : (ac.tmps[29]?).getD undef = .bool true := (ha 29 (by decide)).trans h29
            clear h29
            clear ha hp
            exact Reg.Op1.guarded rfl rfl e29 (fun h => by cases h) (fun _ => hK _ _ rfl (fun j k _ _ => Reg.Adds.refl _ _ _))
          · intro val ac u hR hp ha K hK      -- 14: t33 := Op.fieldAddr 33 t8 0
            obtain ⟨w29, h29, r29⟩ := hp 10 (by decide)
            have e29 : (ac.tmps[29]?).getD undef = .bool true := (ha 29 (by decide)).trans h29
            clear h29
            clear ha hp
            exact Reg.Op1.guarded rfl rfl e29 (fun h => by cases h) (fun _ => hK _ _ rfl (fun j k _ _ => Reg.Adds.refl _ _ _))
          · intro val ac u hR hp ha K hK      -- 15: t34 := Op.fieldAddr 26 t33 0
            obtain ⟨w29, h29, r29⟩ := hp 10 (by decide)
            have e29 : (ac.tmps[29]?).getD undef = .bool true := (ha 29 (by decide)).trans h29
            clear h29
            clear ha hp
            exact Reg.Op1.guarded rfl rfl e29 (fun h => by cases h) (fun _ => hK _ _ rfl (fun j k _ _ => Reg.Adds.refl _ _ _))
          · intro val ac u hR hp ha K hK      -- 16: t35 := Op.load 3 t34
            obtain ⟨w29, h29, r29⟩ := hp 10 (by decide)
            have e29 : (ac.tmps[29]?).getD undef = .bool true := (ha 29 (by decide)).trans h29
            clear h29
            clear ha hp
            exact Reg.Op1.guarded rfl rfl e29 (fun h => by cases h) (fun _ => hK _ _ rfl (fun j k _ _ => Reg.Adds.refl _ _ _))
          · intro val ac u hR hp ha K hK      -- 17: t36 := Op.indexAddr 37 t6 t35
            obtain ⟨w29, h29, r29⟩ := hp 10 (by decide)
            have e29 : (ac.tmps[29]?).getD undef = .bool true := (ha 29 (by decide)).trans h29
            clear h29
            clear ha hp
            exact Reg.Op1.guarded rfl rfl e29 (fun h => by cases h) (fun _ => hK _ _ rfl (fun j k _ _ => Reg.Adds.refl _ _ _))
          · intro val ac u hR hp ha K hK      -- 18: t37 := Op.load 3 t36
            obtain ⟨w29, h29, r29⟩ := hp 10 (by decide)
            have e29 : (ac.tmps[29]?).getD undef = .bool true := (ha 29 (by decide)).trans h29
            clear h29
            clear ha hp
            exact Reg.Op1.guarded rfl rfl e29 (fun h => by cases h) (fun _ => hK _ _ rfl (fun j k _ _ => Reg.Adds.refl _ _ _))
          · intro val ac u hR hp ha K hK      -- 19: t38 := Op.binOp BinOp.add 3 t37 (const (1:i64)) 3
            obtain ⟨w29, h29, r29⟩ := hp 10 (by decide)
            have e29 : (ac.tmps[29]?).getD undef = .bool true := (ha 29 (by decide)).trans h29
            clear h29
            clear ha hp
            exact Reg.Op1.guarded rfl rfl e29 (fun h => by cases h) (fun _ => hK _ _ rfl (fun j k _ _ => Reg.Adds.refl _ _ _))
          · intro val ac u hR hp ha K hK      -- 20: t39 := Op.binOp BinOp.neq 3 t32 t38 3
            obtain ⟨w29, h29, r29⟩ := hp 10 (by decide)
            have e29 : (ac.tmps[29]?).getD undef = .bool true := (ha 29 (by decide)).trans h29
            clear h29
            clear ha hp
            exact Reg.Op1.guarded rfl rfl e29 (fun h => by cases h) (fun _ => hK _ _ rfl (fun j k _ _ => Reg.Adds.refl _ _ _))
          · intro val ac u hR hp ha K hK      -- 21: t40 := Op.pick t29 (const (Value.bool true)) t39
            obtain ⟨w29, h29, r29⟩ := hp 10 (by decide)
            have e29 : (ac.tmps[29]?).getD undef = .bool true := (ha 29 (by decide)).trans h29
            clear h29
            obtain ⟨w39, h39, r39⟩ := hp 20 (by decide)
            have e39 : (ac.tmps[39]?).getD undef = undef := (ha 39 (by decide)).trans h39
            clear h39
            clear ha hp
            refine Reg.Op1.plain rfl ?_
            go_wp2
            exact ⟨rfl, hK _ _ rfl (fun j k _ _ => Reg.Adds.refl _ _ _)⟩
          · intro val ac u hR hp ha K hK      -- 22: t41 := Op.move t40
            obtain ⟨w40, h40, r40⟩ := hp 21 (by decide)
            have e40 : (ac.tmps[40]?).getD undef = .bool true := (ha 40 (by decide)).trans h40
            clear h40
            clear ha hp
            refine Reg.Op1.plain rfl ?_
            go_wp2
            exact ⟨rfl, hK _ _ rfl (fun j k _ _ => Reg.Adds.refl _ _ _)⟩
          · intro val ac u hR hp ha K hK      -- 23: t42 := Op.load 37 t6
            obtain ⟨w41, h41, r41⟩ := hp 22 (by decide)
            have e41 : (ac.tmps[41]?).getD undef = .bool true := (ha 41 (by decide)).trans h41
            clear h41
            clear ha hp
            exact Reg.Op1.guarded rfl rfl e41 (fun h => by cases h) (fun _ => hK _ _ rfl (fun j k _ _ => Reg.Adds.refl _ _ _))
          · intro val ac u hR hp ha K hK      -- 24: t43 := Op.fieldAddr 33 t8 5
            obtain ⟨w41, h41, r41⟩ := hp 22 (by decide)
            have e41 : (ac.tmps[41]?).getD undef = .bool true := (ha 41 (by decide)).trans h41
            clear h41
            clear ha hp
            exact Reg.Op1.guarded rfl rfl e41 (fun h => by cases h) (fun _ => hK _ _ rfl (fun j k _ _ => Reg.Adds.refl _ _ _))
          · intro val ac u hR hp ha K hK      -- 25: t44 := Op.load 31 t43
            obtain ⟨w41, h41, r41⟩ := hp 22 (by decide)
            have e41 : (ac.tmps[41]?).getD undef = .bool true := (ha 41 (by decide)).trans h41
            clear h41
            clear ha hp
            exact Reg.Op1.guarded rfl rfl e41 (fun h => by cases h) (fun _ => hK _ _ rfl (fun j k _ _ => Reg.Adds.refl _ _ _))
          · intro val ac u hR hp ha K hK      -- 26: t45 := Op.move t0
            obtain ⟨w41, h41, r41⟩ := hp 22 (by decide)
            have e41 : (ac.tmps[41]?).getD undef = .bool true := (ha 41 (by decide)).trans h41
            clear h41
            clear ha hp
            exact Reg.Op1.guarded rfl rfl e41 (fun h => by cases h) (fun _ => hK _ _ rfl (fun j k _ _ => Reg.Adds.refl _ _ _))
          · intro val ac u hR hp ha K hK      -- 27: t46 := Op.call { value (Operand.func 13), args := #[t44, t45], argTypes := #[31, 3] }
            obtain ⟨w41, h41, r41⟩ := hp 22 (by decide)
            have e41 : (ac.tmps[41]?).getD undef = .bool true := (ha 41 (by decide)).trans h41
            clear h41
            clear ha hp
            exact Reg.Op1.guarded rfl rfl e41 (fun h => by cases h) (fun _ => hK _ _ rfl (fun j k _ _ => Reg.Adds.refl _ _ _))
          · intro val ac u hR hp ha K hK      -- 28: t47 := Op.call { value (Operand.func 14), args := #[t42, t46], argTypes := #[37, 37] }
            obtain ⟨w41, h41, r41⟩ := hp 22 (by decide)
            have e41 : (ac.tmps[41]?).getD undef = .bool true := (ha 41 (by decide)).trans h41
            clear h41
            clear ha hp
            exact Reg.Op1.guarded rfl rfl e41 (fun h => by cases h) (fun _ => hK _ _ rfl (fun j k _ _ => Reg.Adds.refl _ _ _))
          · intro val ac u hR hp ha K hK      -- 29: t48 := Op.unOp UnOp.not 4 t47
            obtain ⟨w41, h41, r41⟩ := hp 22 (by decide)
            have e41 : (ac.tmps[41]?).getD undef = .bool true := (ha 41 (by decide)).trans h41
            clear h41
            clear ha hp
            exact Reg.Op1.guarded rfl rfl e41 (fun h => by cases h) (fun _ => hK _ _ rfl (fun j k _ _ => Reg.Adds.refl _ _ _))
          · intro val ac u hR hp ha K hK      -- 30: t49 := Op.pick t41 (const (Value.bool true)) t48
            obtain ⟨w41, h41, r41⟩ := hp 22 (by decide)
            have e41 : (ac.tmps[41]?).getD undef = .bool true := (ha 41 (by decide)).trans h41
            clear h41
            obtain ⟨w48, h48, r48⟩ := hp 29 (by decide)
            have e48 : (ac.tmps[48]?).getD undef = undef := (ha 48 (by decide)).trans h48
            clear h48
            clear ha hp
            refine Reg.Op1.plain rfl ?_
            go_wp2
            exact ⟨rfl, hK _ _ rfl (fun j k _ _ => Reg.Adds.refl _ _ _)⟩
        · intro val u hR H
          obtain ⟨_, hv, _⟩ := H 30 (by decide)
          have hv : val 30 = .bool true := hv
          have HRU : Hid (Below w2.heap.size w2 u) := (Below.refl _ w2).drew.trans hR
          simp only [List.map_cons, List.map_nil, Reg.lay, Act.put, List.setIfInBounds_toArray, List.set_cons_succ, List.set_cons_zero, Nat.reduceAdd, hv]
          clear hR H hv
          have HBU : Hid (Below w.heap.size w u) := HB'.out.trans (HRU.out.mono HB'.out.size)
          have HOU : Hid (Mem.Own u 33 20 A2 k c2 ((es.take k).flatMap entCells)) := HO2.out.keeps (Mem.Keeps.of_below HRU.out) (fun _ _ h => h)
          go_wp2
          go_ret
          exact ⟨k, A2, c2, hk, rfl, HOU.out, HNB.out, HRT.out, HBU.out⟩
      · obtain ⟨hch, hs1, hs2⟩ : Vec.chain e.dc e.rng = true ∧ 1 ≤ e.seq ∧ e.seq ≤ 1099511627776 := by
          have h1 : g1 e = true := by unfold rightE at hre; simp at hre; exact hre.1
          simpa [g1] using h1
        by_cases hrg : e.rng = rng
        · have d3 : (e.rng != rng) = false := by simp [hrg]
          have HRG := Lib.hid hrg
          have HCH : Hid (Vec.chain e.dc rng = true) := by show _ = _; rw [← hrg]; exact hch
          obtain ⟨hd3, hd4, _, _⟩ := chain_nat hch
          obtain ⟨dn, hdn0⟩ : ∃ dn, e.dc.toNat = dn := ⟨_, rfl⟩
          have hdn : e.dc = (dn : Int) := by omega
          rw [hdn0] at hd3
          have hsm := HSM.out dn hd3
          have hcvc : w2.cell? ⟨w.heap.size, dn, none⟩ = some (.int .i64 (col.at dn)) := HC2.out.cell (j := dn) (by
            have h3 : dn = 0 ∨ dn = 1 ∨ dn = 2 := by omega
            rcases h3 with rfl | rfl | rfl <;> rfl)
          obtain ⟨cv, hcvd⟩ : ∃ cv, col.at dn = cv := ⟨_, rfl⟩
          rw [hcvd] at hcvc hsm
          have HCVD := Lib.hid hcvd
          have hwr : IntKind.i64.wrap (cv + 1) = cv + 1 := IntWalk.i64_in _ (by omega)
          have hwr2 : wrap64 (cv + 1) = cv + 1 := IntWalk.wrap64_in _ (by omega)
          have HS2 := Lib.hid hs2
          clear hrg hch hd4 hcvd hs1 hs2
          by_cases hsq : e.seq = cv + 1
          · have d4 : (e.seq != cv + 1) = false := by simp [hsq]
            have HSQ := Lib.hid hsq
            clear hsq
            cases hcv : coversC col (Vec.part e.deps rng)
            ·
              go_upto_region 7 with fail
              refine Reg.wp_region_rel (by kernel_rfl) 62 31 rfl rfl (by kernel_rfl) (Reg.Adds) (Reg.Adds.refl) (Reg.Adds.trans)
                (fun i v u => match i with
                  | 0 => v = .agg (entCells e).toArray
                  | 1 => v = .bool true
                  | 2 => v = .bool false
                  | 3 => v = .bool false
                  | 4 => v = .pointer (some ⟨wr.heap.size, 0, none⟩)
                  | 5 => v = .pointer (some ⟨wr.heap.size, 1, none⟩)
                  | 6 => v = .int .i64 e.rng
                  | 7 => v = .int .i64 rng
                  | 8 => v = .bool false
                  | 9 => v = .bool false
                  | 10 => v = .bool false
                  | 11 => v = .pointer (some ⟨wr.heap.size, 0, none⟩)
                  | 12 => v = .pointer (some ⟨wr.heap.size, 2, none⟩)
                  | 13 => v = .int .i64 e.seq
                  | 14 => v = .pointer (some ⟨wr.heap.size, 0, none⟩)
                  | 15 => v = .pointer (some ⟨wr.heap.size, 0, none⟩)
                  | 16 => v = .int .i64 (dn : Int)
                  | 17 => v = .pointer (some ⟨w.heap.size, dn, none⟩)
                  | 18 => v = .int .i64 cv
                  | 19 => v = .int .i64 (cv + 1)
                  | 20 => v = .bool false
                  | 21 => v = .bool false
                  | 22 => v = .bool false
                  | 23 => v = Vec.C col
                  | 24 => v = .pointer (some ⟨wr.heap.size, 9, none⟩)
                  | 25 => v = Vec.V e.deps
                  | 26 => v = .int .i64 rng
                  | 27 => v = Vec.C (Vec.part e.deps rng)
                  | 28 => v = .bool false
                  | 29 => v = .bool true
                  | 30 => v = .bool true
                  | _ => True) ?_ ?_
              · refine Reg.Steps.cons ?_ (Reg.Steps.cons ?_ (Reg.Steps.cons ?_ (Reg.Steps.cons ?_ (Reg.Steps.cons ?_ (Reg.Steps.cons ?_ (Reg.Steps.cons ?_ (Reg.Steps.cons ?_ (Reg.Steps.cons ?_ (Reg.Steps.cons ?_ (Reg.Steps.cons ?_ (Reg.Steps.cons ?_ (Reg.Steps.cons ?_ (Reg.Steps.cons ?_ (Reg.Steps.cons ?_ (Reg.Steps.cons ?_ (Reg.Steps.cons ?_ (Reg.Steps.cons ?_ (Reg.Steps.cons ?_ (Reg.Steps.cons ?_ (Reg.Steps.cons ?_ (Reg.Steps.cons ?_ (Reg.Steps.cons ?_ (Reg.Steps.cons ?_ (Reg.Steps.cons ?_ (Reg.Steps.cons ?_ (Reg.Steps.cons ?_ (Reg.Steps.cons ?_ (Reg.Steps.cons ?_ (Reg.Steps.cons ?_ (Reg.Steps.cons ?_ (Reg.Steps.nil _)))))))))))))))))))))))))))))))
                · intro val ac u hR hp ha K hK      -- 0: t19 := Op.load 33 t8
                  have e8 : (ac.tmps[8]?).getD undef = .pointer (some ⟨wr.heap.size, 0, none⟩) := ha 8 (by decide)
                  clear ha hp
                  refine Reg.Op1.plain rfl ?_
                  refine Mem.load_agg _ _ entry_agg wr.heap.size 0 (entCells e) (Reg.eval_of e8) (entCells_length _) (fun j u' hu => by rw [Nat.zero_add]; exact (hR.cell (p := ⟨wr.heap.size, j, none⟩) HE2.out.lt).trans (HE2.out.cell hu)) ?_
                  exact ⟨rfl, hK _ _ rfl (fun j k _ _ => Reg.Adds.refl _ _ _)⟩
                · intro val ac u hR hp ha K hK      -- 1: t20 := Op.call { value (Operand.func 28), args := #[t19], argTypes := #[33] }
                  obtain ⟨w19, h19, r19⟩ := hp 0 (by decide)
                  have e19 : (ac.tmps[19]?).getD undef = .agg (entCells e).toArray := (ha 19 (by decide)).trans h19
                  clear h19
                  clear ha hp
                  refine Reg.Op1.plain rfl ?_
                  go_wp2_with fail
                  refine (rightE_any e u).mono ?_
                  rintro x w' ⟨rfl, hbw⟩
                  rw [hre]
                  go_wp2_with fail
                  exact ⟨rfl, hK _ _ rfl (fun j k _ _ => hbw)⟩
                · intro val ac u hR hp ha K hK      -- 2: t21 := Op.unOp UnOp.not 4 t20
                  obtain ⟨w20, h20, r20⟩ := hp 1 (by decide)
                  have e20 : (ac.tmps[20]?).getD undef = .bool true := (ha 20 (by decide)).trans h20
                  clear h20
                  clear ha hp
                  refine Reg.Op1.plain rfl ?_
                  go_wp2
                  exact ⟨rfl, hK _ _ rfl (fun j k _ _ => Reg.Adds.refl _ _ _)⟩
                · intro val ac u hR hp ha K hK      -- 3: t22 := Op.move t21
                  obtain ⟨w21, h21, r21⟩ := hp 2 (by decide)
                  have e21 : (ac.tmps[21]?).getD undef = .bool false := (ha 21 (by decide)).trans h21
                  clear h21
                  clear ha hp
                  refine Reg.Op1.plain rfl ?_
                  go_wp2
                  exact ⟨rfl, hK _ _ rfl (fun j k _ _ => Reg.Adds.refl _ _ _)⟩
                · intro val ac u hR hp ha K hK      -- 4: t23 := Op.fieldAddr 33 t8 0
                  have e8 : (ac.tmps[8]?).getD undef = .pointer (some ⟨wr.heap.size, 0, none⟩) := ha 8 (by decide)
                  obtain ⟨w22, h22, r22⟩ := hp 3 (by decide)
                  have e22 : (ac.tmps[22]?).getD undef = .bool false := (ha 22 (by decide)).trans h22
                  clear h22
                  clear ha hp
                  refine Reg.Op1.guarded rfl rfl e22 (fun _ => Reg.Op1.plain rfl ?_) (fun h => absurd rfl h)
                  go_wp2
                  exact ⟨rfl, hK _ _ rfl (fun j k _ _ => Reg.Adds.refl _ _ _)⟩
                · intro val ac u hR hp ha K hK      -- 5: t24 := Op.fieldAddr 26 t23 1
                  obtain ⟨w23, h23, r23⟩ := hp 4 (by decide)
                  have e23 : (ac.tmps[23]?).getD undef = .pointer (some ⟨wr.heap.size, 0, none⟩) := (ha 23 (by decide)).trans h23
                  clear h23
                  obtain ⟨w22, h22, r22⟩ := hp 3 (by decide)
                  have e22 : (ac.tmps[22]?).getD undef = .bool false := (ha 22 (by decide)).trans h22
                  clear h22
                  clear ha hp
                  refine Reg.Op1.guarded rfl rfl e22 (fun _ => Reg.Op1.plain rfl ?_) (fun h => absurd rfl h)
                  go_wp2
                  exact ⟨rfl, hK _ _ rfl (fun j k _ _ => Reg.Adds.refl _ _ _)⟩
                · intro val ac u hR hp ha K hK      -- 6: t25 := Op.load 3 t24
                  obtain ⟨w24, h24, r24⟩ := hp 5 (by decide)
                  have e24 : (ac.tmps[24]?).getD undef = .pointer (some ⟨wr.heap.size, 1, none⟩) := (ha 24 (by decide)).trans h24
                  clear h24
                  obtain ⟨w22, h22, r22⟩ := hp 3 (by decide)
                  have e22 : (ac.tmps[22]?).getD undef = .bool false := (ha 22 (by decide)).trans h22
                  clear h22
                  clear ha hp
                  refine Reg.Op1.guarded rfl rfl e22 (fun _ => Reg.Op1.plain rfl ?_) (fun h => absurd rfl h)
                  have x0 := (hR.cell (p := ⟨wr.heap.size, 1, none⟩) HE2.out.lt).trans (HE2.out.cell (j := 1) rfl)
                  go_wp2
                  exact ⟨rfl, hK _ _ rfl (fun j k _ _ => Reg.Adds.refl _ _ _)⟩
                · intro val ac u hR hp ha K hK      -- 7: t26 := Op.move t0
                  have e0 : (ac.tmps[0]?).getD undef = .int .i64 rng := ha 0 (by decide)
                  obtain ⟨w22, h22, r22⟩ := hp 3 (by decide)
                  have e22 : (ac.tmps[22]?).getD undef = .bool false := (ha 22 (by decide)).trans h22
                  clear h22
                  clear ha hp
                  refine Reg.Op1.guarded rfl rfl e22 (fun _ => Reg.Op1.plain rfl ?_) (fun h => absurd rfl h)
                  go_wp2
                  exact ⟨rfl, hK _ _ rfl (fun j k _ _ => Reg.Adds.refl _ _ _)⟩
                · intro val ac u hR hp ha K hK      -- 8: t27 := Op.binOp BinOp.neq 3 t25 t26 3
                  obtain ⟨w25, h25, r25⟩ := hp 6 (by decide)
                  have e25 : (ac.tmps[25]?).getD undef = .int .i64 e.rng := (ha 25 (by decide)).trans h25
                  clear h25
                  obtain ⟨w26, h26, r26⟩ := hp 7 (by decide)
                  have e26 : (ac.tmps[26]?).getD undef = .int .i64 rng := (ha 26 (by decide)).trans h26
                  clear h26
                  obtain ⟨w22, h22, r22⟩ := hp 3 (by decide)
                  have e22 : (ac.tmps[22]?).getD undef = .bool false := (ha 22 (by decide)).trans h22
                  clear h22
                  clear ha hp
                  refine Reg.Op1.guarded rfl rfl e22 (fun _ => Reg.Op1.plain rfl ?_) (fun h => absurd rfl h)
                  go_wp2
                  exact ⟨rfl, hK _ _ rfl (fun j k _ _ => Reg.Adds.refl _ _ _)⟩
                · intro val ac u hR hp ha K hK      -- 9: t28 := Op.pick t22 (const (Value.bool true)) t27
                  obtain ⟨w22, h22, r22⟩ := hp 3 (by decide)
                  have e22 : (ac.tmps[22]?).getD undef = .bool false := (ha 22 (by decide)).trans h22
                  clear h22
                  obtain ⟨w27, h27, r27⟩ := hp 8 (by decide)
                  have e27 : (ac.tmps[27]?).getD undef = .bool false := (ha 27 (by decide)).trans h27
                  clear h27
                  clear ha hp
                  refine Reg.Op1.plain rfl ?_
                  go_wp2
                  exact ⟨rfl, hK _ _ rfl (fun j k _ _ => Reg.Adds.refl _ _ _)⟩
                · intro val ac u hR hp ha K hK      -- 10: t29 := Op.move t28
                  obtain ⟨w28, h28, r28⟩ := hp 9 (by decide)
                  have e28 : (ac.tmps[28]?).getD undef = .bool false := (ha 28 (by decide)).trans h28
                  clear h28
                  clear ha hp
                  refine Reg.Op1.plain rfl ?_
                  go_wp2
                  exact ⟨rfl, hK _ _ rfl (fun j k _ _ => Reg.Adds.refl _ _ _)⟩
                · intro val ac u hR hp ha K hK      -- 11: t30 := Op.fieldAddr 33 t8 0
                  have e8 : (ac.tmps[8]?).getD undef = .pointer (some ⟨wr.heap.size, 0, none⟩) := ha 8 (by decide)
                  obtain ⟨w29, h29, r29⟩ := hp 10 (by decide)
                  have e29 : (ac.tmps[29]?).getD undef = .bool false := (ha 29 (by decide)).trans h29
                  clear h29
                  clear ha hp
                  refine Reg.Op1.guarded rfl rfl e29 (fun _ => Reg.Op1.plain rfl ?_) (fun h => absurd rfl h)
                  go_wp2
                  exact ⟨rfl, hK _ _ rfl (fun j k _ _ => Reg.Adds.refl _ _ _)⟩
                · intro val ac u hR hp ha K hK      -- 12: t31 := Op.fieldAddr 26 t30 2
                  obtain ⟨w30, h30, r30⟩ := hp 11 (by decide)
                  have e30 : (ac.tmps[30]?).getD undef = .pointer (some ⟨wr.heap.size, 0, none⟩) := (ha 30 (by decide)).trans h30
                  clear h30
                  obtain ⟨w29, h29, r29⟩ := hp 10 (by decide)
                  have e29 : (ac.tmps[29]?).getD undef = .bool false := (ha 29 (by decide)).trans h29
                  clear h29
                  clear ha hp
                  refine Reg.Op1.guarded rfl rfl e29 (fun _ => Reg.Op1.plain rfl ?_) (fun h => absurd rfl h)
                  go_wp2
                  exact ⟨rfl, hK _ _ rfl (fun j k _ _ => Reg.Adds.refl _ _ _)⟩
                · intro val ac u hR hp ha K hK      -- 13: t32 := Op.load 3 t31
                  obtain ⟨w31, h31, r31⟩ := hp 12 (by decide)
                  have e31 : (ac.tmps[31]?).getD undef = .pointer (some ⟨wr.heap.size, 2, none⟩) := (ha 31 (by decide)).trans h31
                  clear h31
                  obtain ⟨w29, h29, r29⟩ := hp 10 (by decide)
                  have e29 : (ac.tmps[29]?).getD undef = .bool false := (ha 29 (by decide)).trans h29
                  clear h29
                  clear ha hp
                  refine Reg.Op1.guarded rfl rfl e29 (fun _ => Reg.Op1.plain rfl ?_) (fun h => absurd rfl h)
                  have x0 := (hR.cell (p := ⟨wr.heap.size, 2, none⟩) HE2.out.lt).trans (HE2.out.cell (j := 2) rfl)
                  go_wp2
                  exact ⟨rfl, hK _ _ rfl (fun j k _ _ => Reg.Adds.refl _ _ _)⟩
                · intro val ac u hR hp ha K hK      -- 14: t33 := Op.fieldAddr 33 t8 0
                  have e8 : (ac.tmps[8]?).getD undef = .pointer (some ⟨wr.heap.size, 0, none⟩) := ha 8 (by decide)
                  obtain ⟨w29, h29, r29⟩ := hp 10 (by decide)
                  have e29 : (ac.tmps[29]?).getD undef = .bool false := (ha 29 (by decide)).trans h29
                  clear h29
                  clear ha hp
                  refine Reg.Op1.guarded rfl rfl e29 (fun _ => Reg.Op1.plain rfl ?_) (fun h => absurd rfl h)
                  go_wp2
                  exact ⟨rfl, hK _ _ rfl (fun j k _ _ => Reg.Adds.refl _ _ _)⟩
                · intro val ac u hR hp ha K hK      -- 15: t34 := Op.fieldAddr 26 t33 0
                  obtain ⟨w33, h33, r33⟩ := hp 14 (by decide)
                  have e33 : (ac.tmps[33]?).getD undef = .pointer (some ⟨wr.heap.size, 0, none⟩) := (ha 33 (by decide)).trans h33
                  clear h33
                  obtain ⟨w29, h29, r29⟩ := hp 10 (by decide)
                  have e29 : (ac.tmps[29]?).getD undef = .bool false := (ha 29 (by decide)).trans h29
                  clear h29
                  clear ha hp
                  refine Reg.Op1.guarded rfl rfl e29 (fun _ => Reg.Op1.plain rfl ?_) (fun h => absurd rfl h)
                  go_wp2
                  exact ⟨rfl, hK _ _ rfl (fun j k _ _ => Reg.Adds.refl _ _ _)⟩
                · intro val ac u hR hp ha K hK      -- 16: t35 := Op.load 3 t34
                  obtain ⟨w34, h34, r34⟩ := hp 15 (by decide)
                  have e34 : (ac.tmps[34]?).getD undef = .pointer (some ⟨wr.heap.size, 0, none⟩) := (ha 34 (by decide)).trans h34
                  clear h34
                  obtain ⟨w29, h29, r29⟩ := hp 10 (by decide)
                  have e29 : (ac.tmps[29]?).getD undef = .bool false := (ha 29 (by decide)).trans h29
                  clear h29
                  clear ha hp
                  refine Reg.Op1.guarded rfl rfl e29 (fun _ => Reg.Op1.plain rfl ?_) (fun h => absurd rfl h)
                  have x0 := (hR.cell (p := ⟨wr.heap.size, 0, none⟩) HE2.out.lt).trans (HE2.out.cell (j := 0) rfl)
                  rw [hdn] at x0
                  go_wp2
                  exact ⟨rfl, hK _ _ rfl (fun j k _ _ => Reg.Adds.refl _ _ _)⟩
                · intro val ac u hR hp ha K hK      -- 17: t36 := Op.indexAddr 37 t6 t35
                  have e6 : (ac.tmps[6]?).getD undef = .pointer (some ⟨w.heap.size, 0, none⟩) := ha 6 (by decide)
                  obtain ⟨w35, h35, r35⟩ := hp 16 (by decide)
                  have e35 : (ac.tmps[35]?).getD undef = .int .i64 (dn : Int) := (ha 35 (by decide)).trans h35
                  clear h35
                  obtain ⟨w29, h29, r29⟩ := hp 10 (by decide)
                  have e29 : (ac.tmps[29]?).getD undef = .bool false := (ha 29 (by decide)).trans h29
                  clear h29
                  clear ha hp
                  refine Reg.Op1.guarded rfl rfl e29 (fun _ => Reg.Op1.plain rfl ?_) (fun h => absurd rfl h)
                  go_wp2
                  exact ⟨rfl, hK _ _ rfl (fun j k _ _ => Reg.Adds.refl _ _ _)⟩
                · intro val ac u hR hp ha K hK      -- 18: t37 := Op.load 3 t36
                  obtain ⟨w36, h36, r36⟩ := hp 17 (by decide)
                  have e36 : (ac.tmps[36]?).getD undef = .pointer (some ⟨w.heap.size, dn, none⟩) := (ha 36 (by decide)).trans h36
                  clear h36
                  obtain ⟨w29, h29, r29⟩ := hp 10 (by decide)
                  have e29 : (ac.tmps[29]?).getD undef = .bool false := (ha 29 (by decide)).trans h29
                  clear h29
                  clear ha hp
                  refine Reg.Op1.guarded rfl rfl e29 (fun _ => Reg.Op1.plain rfl ?_) (fun h => absurd rfl h)
                  have x0 := (hR.cell (p := ⟨w.heap.size, dn, none⟩) HC2.out.lt).trans hcvc
                  go_wp2
                  exact ⟨rfl, hK _ _ rfl (fun j k _ _ => Reg.Adds.refl _ _ _)⟩
                · intro val ac u hR hp ha K hK      -- 19: t38 := Op.binOp BinOp.add 3 t37 (const (1:i64)) 3
                  obtain ⟨w37, h37, r37⟩ := hp 18 (by decide)
                  have e37 : (ac.tmps[37]?).getD undef = .int .i64 cv := (ha 37 (by decide)).trans h37
                  clear h37
                  obtain ⟨w29, h29, r29⟩ := hp 10 (by decide)
                  have e29 : (ac.tmps[29]?).getD undef = .bool false := (ha 29 (by decide)).trans h29
                  clear h29
                  clear ha hp
                  refine Reg.Op1.guarded rfl rfl e29 (fun _ => Reg.Op1.plain rfl ?_) (fun h => absurd rfl h)
                  go_wp2
                  exact ⟨rfl, hK _ _ rfl (fun j k _ _ => Reg.Adds.refl _ _ _)⟩
                · intro val ac u hR hp ha K hK      -- 20: t39 := Op.binOp BinOp.neq 3 t32 t38 3
                  obtain ⟨w32, h32, r32⟩ := hp 13 (by decide)
                  have e32 : (ac.tmps[32]?).getD undef = .int .i64 e.seq := (ha 32 (by decide)).trans h32
                  clear h32
                  obtain ⟨w38, h38, r38⟩ := hp 19 (by decide)
                  have e38 : (ac.tmps[38]?).getD undef = .int .i64 (cv + 1) := (ha 38 (by decide)).trans h38
                  clear h38
                  obtain ⟨w29, h29, r29⟩ := hp 10 (by decide)
                  have e29 : (ac.tmps[29]?).getD undef = .bool false := (ha 29 (by decide)).trans h29
                  clear h29
                  clear ha hp
                  refine Reg.Op1.guarded rfl rfl e29 (fun _ => Reg.Op1.plain rfl ?_) (fun h => absurd rfl h)
                  go_wp2
                  exact ⟨rfl, hK _ _ rfl (fun j k _ _ => Reg.Adds.refl _ _ _)⟩
                · intro val ac u hR hp ha K hK      -- 21: t40 := Op.pick t29 (const (Value.bool true)) t39
                  obtain ⟨w29, h29, r29⟩ := hp 10 (by decide)
                  have e29 : (ac.tmps[29]?).getD undef = .bool false := (ha 29 (by decide)).trans h29
                  clear h29
                  obtain ⟨w39, h39, r39⟩ := hp 20 (by decide)
                  have e39 : (ac.tmps[39]?).getD undef = .bool false := (ha 39 (by decide)).trans h39
                  clear h39
                  clear ha hp
                  refine Reg.Op1.plain rfl ?_
                  go_wp2
                  exact ⟨rfl, hK _ _ rfl (fun j k _ _ => Reg.Adds.refl _ _ _)⟩
                · intro val ac u hR hp ha K hK      -- 22: t41 := Op.move t40
                  obtain ⟨w40, h40, r40⟩ := hp 21 (by decide)
                  have e40 : (ac.tmps[40]?).getD undef = .bool false := (ha 40 (by decide)).trans h40
                  clear h40
                  clear ha hp
                  refine Reg.Op1.plain rfl ?_
                  go_wp2
                  exact ⟨rfl, hK _ _ rfl (fun j k _ _ => Reg.Adds.refl _ _ _)⟩
                · intro val ac u hR hp ha K hK      -- 23: t42 := Op.load 37 t6
                  have e6 : (ac.tmps[6]?).getD undef = .pointer (some ⟨w.heap.size, 0, none⟩) := ha 6 (by decide)
                  obtain ⟨w41, h41, r41⟩ := hp 22 (by decide)
                  have e41 : (ac.tmps[41]?).getD undef = .bool false := (ha 41 (by decide)).trans h41
                  clear h41
                  clear ha hp
                  refine Reg.Op1.guarded rfl rfl e41 (fun _ => Reg.Op1.plain rfl ?_) (fun h => absurd rfl h)
                  have x0 := (hR.cell (p := ⟨w.heap.size, 0, none⟩) HC2.out.lt).trans (HC2.out.cell (j := 0) rfl)
                  have x1 := (hR.cell (p := ⟨w.heap.size, 1, none⟩) HC2.out.lt).trans (HC2.out.cell (j := 1) rfl)
                  have x2 := (hR.cell (p := ⟨w.heap.size, 2, none⟩) HC2.out.lt).trans (HC2.out.cell (j := 2) rfl)
                  go_wp2
                  exact ⟨rfl, hK _ _ rfl (fun j k _ _ => Reg.Adds.refl _ _ _)⟩
                · intro val ac u hR hp ha K hK      -- 24: t43 := Op.fieldAddr 33 t8 5
                  have e8 : (ac.tmps[8]?).getD undef = .pointer (some ⟨wr.heap.size, 0, none⟩) := ha 8 (by decide)
                  obtain ⟨w41, h41, r41⟩ := hp 22 (by decide)
                  have e41 : (ac.tmps[41]?).getD undef = .bool false := (ha 41 (by decide)).trans h41
                  clear h41
                  clear ha hp
                  refine Reg.Op1.guarded rfl rfl e41 (fun _ => Reg.Op1.plain rfl ?_) (fun h => absurd rfl h)
                  go_wp2
                  exact ⟨rfl, hK _ _ rfl (fun j k _ _ => Reg.Adds.refl _ _ _)⟩
                · intro val ac u hR hp ha K hK      -- 25: t44 := Op.load 31 t43
                  obtain ⟨w43, h43, r43⟩ := hp 24 (by decide)
                  have e43 : (ac.tmps[43]?).getD undef = .pointer (some ⟨wr.heap.size, 9, none⟩) := (ha 43 (by decide)).trans h43
                  clear h43
                  obtain ⟨w41, h41, r41⟩ := hp 22 (by decide)
                  have e41 : (ac.tmps[41]?).getD undef = .bool false := (ha 41 (by decide)).trans h41
                  clear h41
                  clear ha hp
                  refine Reg.Op1.guarded rfl rfl e41 (fun _ => Reg.Op1.plain rfl ?_) (fun h => absurd rfl h)
                  have hEu : EBx u wr.heap.size e := Mem.Bx.below (w := w2.drew) HE2.out hR HE2.out.lt
                  have x0 := hEu.cell (j := 9) rfl
                  have x1 := hEu.cell (j := 10) rfl
                  have x2 := hEu.cell (j := 11) rfl
                  have x3 := hEu.cell (j := 12) rfl
                  have x4 := hEu.cell (j := 13) rfl
                  have x5 := hEu.cell (j := 14) rfl
                  have x6 := hEu.cell (j := 15) rfl
                  have x7 := hEu.cell (j := 16) rfl
                  have x8 := hEu.cell (j := 17) rfl
                  clear hEu
                  go_wp2
                  exact ⟨rfl, hK _ _ rfl (fun j k _ _ => Reg.Adds.refl _ _ _)⟩
                · intro val ac u hR hp ha K hK      -- 26: t45 := Op.move t0
                  have e0 : (ac.tmps[0]?).getD undef = .int .i64 rng := ha 0 (by decide)
                  obtain ⟨w41, h41, r41⟩ := hp 22 (by decide)
                  have e41 : (ac.tmps[41]?).getD undef = .bool false := (ha 41 (by decide)).trans h41
                  clear h41
                  clear ha hp
                  refine Reg.Op1.guarded rfl rfl e41 (fun _ => Reg.Op1.plain rfl ?_) (fun h => absurd rfl h)
                  go_wp2
                  exact ⟨rfl, hK _ _ rfl (fun j k _ _ => Reg.Adds.refl _ _ _)⟩
                · intro val ac u hR hp ha K hK      -- 27: t46 := Op.call { value (Operand.func 13), args := #[t44, t45], argTypes := #[31, 3] }
                  obtain ⟨w44, h44, r44⟩ := hp 25 (by decide)
                  have e44 : (ac.tmps[44]?).getD undef = Vec.V e.deps := (ha 44 (by decide)).trans h44
                  clear h44
                  obtain ⟨w45, h45, r45⟩ := hp 26 (by decide)
                  have e45 : (ac.tmps[45]?).getD undef = .int .i64 rng := (ha 45 (by decide)).trans h45
                  clear h45
                  obtain ⟨w41, h41, r41⟩ := hp 22 (by decide)
                  have e41 : (ac.tmps[41]?).getD undef = .bool false := (ha 41 (by decide)).trans h41
                  clear h41
                  clear ha hp
                  refine Reg.Op1.guarded rfl rfl e41 (fun _ => Reg.Op1.plain rfl ?_) (fun h => absurd rfl h)
                  go_wp2_with fail
                  refine (part_any e.deps rng u).mono ?_
                  rintro x w' ⟨rfl, hbw⟩
                  go_wp2_with fail
                  exact ⟨rfl, hK _ _ rfl (fun j k _ _ => hbw)⟩
                · intro val ac u hR hp ha K hK      -- 28: t47 := Op.call { value (Operand.func 14), args := #[t42, t46], argTypes := #[37, 37] }
                  obtain ⟨w42, h42, r42⟩ := hp 23 (by decide)
                  have e42 : (ac.tmps[42]?).getD undef = Vec.C col := (ha 42 (by decide)).trans h42
                  clear h42
                  obtain ⟨w46, h46, r46⟩ := hp 27 (by decide)
                  have e46 : (ac.tmps[46]?).getD undef = Vec.C (Vec.part e.deps rng) := (ha 46 (by decide)).trans h46
                  clear h46
                  obtain ⟨w41, h41, r41⟩ := hp 22 (by decide)
                  have e41 : (ac.tmps[41]?).getD undef = .bool false := (ha 41 (by decide)).trans h41
                  clear h41
                  clear ha hp
                  refine Reg.Op1.guarded rfl rfl e41 (fun _ => Reg.Op1.plain rfl ?_) (fun h => absurd rfl h)
                  go_wp2_with fail
                  refine (coversC_any col (Vec.part e.deps rng) u).mono ?_
                  rintro x w' ⟨rfl, hbw⟩
                  rw [hcv]
                  go_wp2_with fail
                  exact ⟨rfl, hK _ _ rfl (fun j k _ _ => hbw)⟩
                · intro val ac u hR hp ha K hK      -- 29: t48 := Op.unOp UnOp.not 4 t47
                  obtain ⟨w47, h47, r47⟩ := hp 28 (by decide)
                  have e47 : (ac.tmps[47]?).getD undef = .bool false := (ha 47 (by decide)).trans h47
                  clear h47
                  obtain ⟨w41, h41, r41⟩ := hp 22 (by decide)
                  have e41 : (ac.tmps[41]?).getD undef = .bool false := (ha 41 (by decide)).trans h41
                  clear h41
                  clear ha hp
                  refine Reg.Op1.guarded rfl rfl e41 (fun _ => Reg.Op1.plain rfl ?_) (fun h => absurd rfl h)
                  go_wp2
                  exact ⟨rfl, hK _ _ rfl (fun j k _ _ => Reg.Adds.refl _ _ _)⟩
                · intro val ac u hR hp ha K hK      -- 30: t49 := Op.pick t41 (const (Value.bool true)) t48
                  obtain ⟨w41, h41, r41⟩ := hp 22 (by decide)
                  have e41 : (ac.tmps[41]?).getD undef = .bool false := (ha 41 (by decide)).trans h41
                  clear h41
                  obtain ⟨w48, h48, r48⟩ := hp 29 (by decide)
                  have e48 : (ac.tmps[48]?).getD undef = .bool true := (ha 48 (by decide)).trans h48
                  clear h48
                  clear ha hp
                  refine Reg.Op1.plain rfl ?_
                  go_wp2
                  exact ⟨rfl, hK _ _ rfl (fun j k _ _ => Reg.Adds.refl _ _ _)⟩
              · intro val u hR H
                obtain ⟨_, hv, _⟩ := H 30 (by decide)
                have hv : val 30 = .bool true := hv
                have HRU : Hid (Below w2.heap.size w2 u) := (Below.refl _ w2).drew.trans hR
                simp only [List.map_cons, List.map_nil, Reg.lay, Act.put, List.setIfInBounds_toArray, List.set_cons_succ, List.set_cons_zero, Nat.reduceAdd, hv]
                clear hR H hv
                have HBU : Hid (Below w.heap.size w u) := HB'.out.trans (HRU.out.mono HB'.out.size)
                have HOU : Hid (Mem.Own u 33 20 A2 k c2 ((es.take k).flatMap entCells)) := HO2.out.keeps (Mem.Keeps.of_below HRU.out) (fun _ _ h => h)
                go_wp2
                go_ret
                exact ⟨k, A2, c2, hk, rfl, HOU.out, HNB.out, HRT.out, HBU.out⟩
            ·
              go_upto_region 7 with fail
              refine Reg.wp_region_rel (by kernel_rfl) 62 31 rfl rfl (by kernel_rfl) (Reg.Adds) (Reg.Adds.refl) (Reg.Adds.trans)
                (fun i v u => match i with
                  | 0 => v = .agg (entCells e).toArray
                  | 1 => v = .bool true
                  | 2 => v = .bool false
                  | 3 => v = .bool false
                  | 4 => v = .pointer (some ⟨wr.heap.size, 0, none⟩)
                  | 5 => v = .pointer (some ⟨wr.heap.size, 1, none⟩)
                  | 6 => v = .int .i64 e.rng
                  | 7 => v = .int .i64 rng
                  | 8 => v = .bool false
                  | 9 => v = .bool false
                  | 10 => v = .bool false
                  | 11 => v = .pointer (some ⟨wr.heap.size, 0, none⟩)
                  | 12 => v = .pointer (some ⟨wr.heap.size, 2, none⟩)
                  | 13 => v = .int .i64 e.seq
                  | 14 => v = .pointer (some ⟨wr.heap.size, 0, none⟩)
                  | 15 => v = .pointer (some ⟨wr.heap.size, 0, none⟩)
                  | 16 => v = .int .i64 (dn : Int)
                  | 17 => v = .pointer (some ⟨w.heap.size, dn, none⟩)
                  | 18 => v = .int .i64 cv
                  | 19 => v = .int .i64 (cv + 1)
                  | 20 => v = .bool false
                  | 21 => v = .bool false
                  | 22 => v = .bool false
                  | 23 => v = Vec.C col
                  | 24 => v = .pointer (some ⟨wr.heap.size, 9, none⟩)
                  | 25 => v = Vec.V e.deps
                  | 26 => v = .int .i64 rng
                  | 27 => v = Vec.C (Vec.part e.deps rng)
                  | 28 => v = .bool true
                  | 29 => v = .bool false
                  | 30 => v = .bool false
                  | _ => True) ?_ ?_
              · refine Reg.Steps.cons ?_ (Reg.Steps.cons ?_ (Reg.Steps.cons ?_ (Reg.Steps.cons ?_ (Reg.Steps.cons ?_ (Reg.Steps.cons ?_ (Reg.Steps.cons ?_ (Reg.Steps.cons ?_ (Reg.Steps.cons ?_ (Reg.Steps.cons ?_ (Reg.Steps.cons ?_ (Reg.Steps.cons ?_ (Reg.Steps.cons ?_ (Reg.Steps.cons ?_ (Reg.Steps.cons ?_ (Reg.Steps.cons ?_ (Reg.Steps.cons ?_ (Reg.Steps.cons ?_ (Reg.Steps.cons ?_ (Reg.Steps.cons ?_ (Reg.Steps.cons ?_ (Reg.Steps.cons ?_ (Reg.Steps.cons ?_ (Reg.Steps.cons ?_ (Reg.Steps.cons ?_ (Reg.Steps.cons ?_ (Reg.Steps.cons ?_ (Reg.Steps.cons ?_ (Reg.Steps.cons ?_ (Reg.Steps.cons ?_ (Reg.Steps.cons ?_ (Reg.Steps.nil _)))))))))))))))))))))))))))))))
                · intro val ac u hR hp ha K hK      -- 0: t19 := Op.load 33 t8
                  have e8 : (ac.tmps[8]?).getD undef = .pointer (some ⟨wr.heap.size, 0, none⟩) := ha 8 (by decide)
                  clear ha hp
                  refine Reg.Op1.plain rfl ?_
                  refine Mem.load_agg _ _ entry_agg wr.heap.size 0 (entCells e) (Reg.eval_of e8) (entCells_length _) (fun j u' hu => by rw [Nat.zero_add]; exact (hR.cell (p := ⟨wr.heap.size, j, none⟩) HE2.out.lt).trans (HE2.out.cell hu)) ?_
                  exact ⟨rfl, hK _ _ rfl (fun j k _ _ => Reg.Adds.refl _ _ _)⟩
                · intro val ac u hR hp ha K hK      -- 1: t20 := Op.call { value (Operand.func 28), args := #[t19], argTypes := #[33] }
                  obtain ⟨w19, h19, r19⟩ := hp 0 (by decide)
                  have e19 : (ac.tmps[19]?).getD undef = .agg (entCells e).toArray := (ha 19 (by decide)).trans h19
                  clear h19
                  clear ha hp
                  refine Reg.Op1.plain rfl ?_
                  go_wp2_with fail
                  refine (rightE_any e u).mono ?_
                  rintro x w' ⟨rfl, hbw⟩
                  rw [hre]
                  go_wp2_with fail
                  exact ⟨rfl, hK _ _ rfl (fun j k _ _ => hbw)⟩
                · intro val ac u hR hp ha K hK      -- 2: t21 := Op.unOp UnOp.not 4 t20
                  obtain ⟨w20, h20, r20⟩ := hp 1 (by decide)
                  have e20 : (ac.tmps[20]?).getD undef = .bool true := (ha 20 (by decide)).trans h20
                  clear h20
                  clear ha hp
                  refine Reg.Op1.plain rfl ?_
                  go_wp2
                  exact ⟨rfl, hK _ _ rfl (fun j k _ _ => Reg.Adds.refl _ _ _)⟩
                · intro val ac u hR hp ha K hK      -- 3: t22 := Op.move t21
                  obtain ⟨w21, h21, r21⟩ := hp 2 (by decide)
                  have e21 : (ac.tmps[21]?).getD undef = .bool false := (ha 21 (by decide)).trans h21
                  clear h21
                  clear ha hp
                  refine Reg.Op1.plain rfl ?_
                  go_wp2
                  exact ⟨rfl, hK _ _ rfl (fun j k _ _ => Reg.Adds.refl _ _ _)⟩
                · intro val ac u hR hp ha K hK      -- 4: t23 := Op.fieldAddr 33 t8 0
                  have e8 : (ac.tmps[8]?).getD undef = .pointer (some ⟨wr.heap.size, 0, none⟩) := ha 8 (by decide)
                  obtain ⟨w22, h22, r22⟩ := hp 3 (by decide)
                  have e22 : (ac.tmps[22]?).getD undef = .bool false := (ha 22 (by decide)).trans h22
                  clear h22
                  clear ha hp
                  refine Reg.Op1.guarded rfl rfl e22 (fun _ => Reg.Op1.plain rfl ?_) (fun h => absurd rfl h)
                  go_wp2
                  exact ⟨rfl, hK _ _ rfl (fun j k _ _ => Reg.Adds.refl _ _ _)⟩
                · intro val ac u hR hp ha K hK      -- 5: t24 := Op.fieldAddr 26 t23 1
                  obtain ⟨w23, h23, r23⟩ := hp 4 (by decide)
                  have e23 : (ac.tmps[23]?).getD undef = .pointer (some ⟨wr.heap.size, 0, none⟩) := (ha 23 (by decide)).trans h23
                  clear h23
                  obtain ⟨w22, h22, r22⟩ := hp 3 (by decide)
                  have e22 : (ac.tmps[22]?).getD undef = .bool false := (ha 22 (by decide)).trans h22
                  clear h22
                  clear ha hp
                  refine Reg.Op1.guarded rfl rfl e22 (fun _ => Reg.Op1.plain rfl ?_) (fun h => absurd rfl h)
                  go_wp2
                  exact ⟨rfl, hK _ _ rfl (fun j k _ _ => Reg.Adds.refl _ _ _)⟩
                · intro val ac u hR hp ha K hK      -- 6: t25 := Op.load 3 t24
                  obtain ⟨w24, h24, r24⟩ := hp 5 (by decide)
                  have e24 : (ac.tmps[24]?).getD undef = .pointer (some ⟨wr.heap.size, 1, none⟩) := (ha 24 (by decide)).trans h24
                  clear h24
                  obtain ⟨w22, h22, r22⟩ := hp 3 (by decide)
                  have e22 : (ac.tmps[22]?).getD undef = .bool false := (ha 22 (by decide)).trans h22
                  clear h22
                  clear ha hp
                  refine Reg.Op1.guarded rfl rfl e22 (fun _ => Reg.Op1.plain rfl ?_) (fun h => absurd rfl h)
                  have x0 := (hR.cell (p := ⟨wr.heap.size, 1, none⟩) HE2.out.lt).trans (HE2.out.cell (j := 1) rfl)
                  go_wp2
                  exact ⟨rfl, hK _ _ rfl (fun j k _ _ => Reg.Adds.refl _ _ _)⟩
                · intro val ac u hR hp ha K hK      -- 7: t26 := Op.move t0
                  have e0 : (ac.tmps[0]?).getD undef = .int .i64 rng := ha 0 (by decide)
                  obtain ⟨w22, h22, r22⟩ := hp 3 (by decide)
                  have e22 : (ac.tmps[22]?).getD undef = .bool false := (ha 22 (by decide)).trans h22
                  clear h22
                  clear ha hp
                  refine Reg.Op1.guarded rfl rfl e22 (fun _ => Reg.Op1.plain rfl ?_) (fun h => absurd rfl h)
                  go_wp2
                  exact ⟨rfl, hK _ _ rfl (fun j k _ _ => Reg.Adds.refl _ _ _)⟩
                · intro val ac u hR hp ha K hK      -- 8: t27 := Op.binOp BinOp.neq 3 t25 t26 3
                  obtain ⟨w25, h25, r25⟩ := hp 6 (by decide)
                  have e25 : (ac.tmps[25]?).getD undef = .int .i64 e.rng := (ha 25 (by decide)).trans h25
                  clear h25
                  obtain ⟨w26, h26, r26⟩ := hp 7 (by decide)
                  have e26 : (ac.tmps[26]?).getD undef = .int .i64 rng := (ha 26 (by decide)).trans h26
                  clear h26
                  obtain ⟨w22, h22, r22⟩ := hp 3 (by decide)
                  have e22 : (ac.tmps[22]?).getD undef = .bool false := (ha 22 (by decide)).trans h22
                  clear h22
                  clear ha hp
                  refine Reg.Op1.guarded rfl rfl e22 (fun _ => Reg.Op1.plain rfl ?_) (fun h => absurd rfl h)
                  go_wp2
                  exact ⟨rfl, hK _ _ rfl (fun j k _ _ => Reg.Adds.refl _ _ _)⟩
                · intro val ac u hR hp ha K hK      -- 9: t28 := Op.pick t22 (const (Value.bool true)) t27
                  obtain ⟨w22, h22, r22⟩ := hp 3 (by decide)
                  have e22 : (ac.tmps[22]?).getD undef = .bool false := (ha 22 (by decide)).trans h22
                  clear h22
                  obtain ⟨w27, h27, r27⟩ := hp 8 (by decide)
                  have e27 : (ac.tmps[27]?).getD undef = .bool false := (ha 27 (by decide)).trans h27
                  clear h27
                  clear ha hp
                  refine Reg.Op1.plain rfl ?_
                  go_wp2
                  exact ⟨rfl, hK _ _ rfl (fun j k _ _ => Reg.Adds.refl _ _ _)⟩
                · intro val ac u hR hp ha K hK      -- 10: t29 := Op.move t28
                  obtain ⟨w28, h28, r28⟩ := hp 9 (by decide)
                  have e28 : (ac.tmps[28]?).getD undef = .bool false := (ha 28 (by decide)).trans h28
                  clear h28
                  clear ha hp
                  refine Reg.Op1.plain rfl ?_
                  go_wp2
                  exact ⟨rfl, hK _ _ rfl (fun j k _ _ => Reg.Adds.refl _ _ _)⟩
                · intro val ac u hR hp ha K hK      -- 11: t30 := Op.fieldAddr 33 t8 0
                  have e8 : (ac.tmps[8]?).getD undef = .pointer (some ⟨wr.heap.size, 0, none⟩) := ha 8 (by decide)
                  obtain ⟨w29, h29, r29⟩ := hp 10 (by decide)
                  have e29 : (ac.tmps[29]?).getD undef = .bool false := (ha 29 (by decide)).trans h29
                  clear h29
                  clear ha hp
                  refine Reg.Op1.guarded rfl rfl e29 (fun _ => Reg.Op1.plain rfl ?_) (fun h => absurd rfl h)
                  go_wp2
                  exact ⟨rfl, hK _ _ rfl (fun j k _ _ => Reg.Adds.refl _ _ _)⟩
                · intro val ac u hR hp ha K hK      -- 12: t31 := Op.fieldAddr 26 t30 2
                  obtain ⟨w30, h30, r30⟩ := hp 11 (by decide)
                  have e30 : (ac.tmps[30]?).getD undef = .pointer (some ⟨wr.heap.size, 0, none⟩) := (ha 30 (by decide)).trans h30
                  clear h30
                  obtain ⟨w29, h29, r29⟩ := hp 10 (by decide)
                  have e29 : (ac.tmps[29]?).getD undef = .bool false := (ha 29 (by decide)).trans h29
                  clear h29
                  clear ha hp
                  refine Reg.Op1.guarded rfl rfl e29 (fun _ => Reg.Op1.plain rfl ?_) (fun h => absurd rfl h)
                  go_wp2
                  exact ⟨rfl, hK _ _ rfl (fun j k _ _ => Reg.Adds.refl _ _ _)⟩
                · intro val ac u hR hp ha K hK      -- 13: t32 := Op.load 3 t31
                  obtain ⟨w31, h31, r31⟩ := hp 12 (by decide)
                  have e31 : (ac.tmps[31]?).getD undef = .pointer (some ⟨wr.heap.size, 2, none⟩) := (ha 31 (by decide)).trans h31
                  clear h31
                  obtain ⟨w29, h29, r29⟩ := hp 10 (by decide)
                  have e29 : (ac.tmps[29]?).getD undef = .bool false := (ha 29 (by decide)).trans h29
                  clear h29
                  clear ha hp
                  refine Reg.Op1.guarded rfl rfl e29 (fun _ => Reg.Op1.plain rfl ?_) (fun h => absurd rfl h)
                  have x0 := (hR.cell (p := ⟨wr.heap.size, 2, none⟩) HE2.out.lt).trans (HE2.out.cell (j := 2) rfl)
                  go_wp2
                  exact ⟨rfl, hK _ _ rfl (fun j k _ _ => Reg.Adds.refl _ _ _)⟩
                · intro val ac u hR hp ha K hK      -- 14: t33 := Op.fieldAddr 33 t8 0
                  have e8 : (ac.tmps[8]?).getD undef = .pointer (some ⟨wr.heap.size, 0, none⟩) := ha 8 (by decide)
                  obtain ⟨w29, h29, r29⟩ := hp 10 (by decide)
                  have e29 : (ac.tmps[29]?).getD undef = .bool false := (ha 29 (by decide)).trans h29
                  clear h29
                  clear ha hp
                  refine Reg.Op1.guarded rfl rfl e29 (fun _ => Reg.Op1.plain rfl ?_) (fun h => absurd rfl h)
                  go_wp2
                  exact ⟨rfl, hK _ _ rfl (fun j k _ _ => Reg.Adds.refl _ _ _)⟩
                · intro val ac u hR hp ha K hK      -- 15: t34 := Op.fieldAddr 26 t33 0
                  obtain ⟨w33, h33, r33⟩ := hp 14 (by decide)
                  have e33 : (ac.tmps[33]?).getD undef = .pointer (some ⟨wr.heap.size, 0, none⟩) := (ha 33 (by decide)).trans h33
                  clear h33
                  obtain ⟨w29, h29, r29⟩ := hp 10 (by decide)
                  have e29 : (ac.tmps[29]?).getD undef = .bool false := (ha 29 (by decide)).trans h29
                  clear h29
                  clear ha hp
                  refine Reg.Op1.guarded rfl rfl e29 (fun _ => Reg.Op1.plain rfl ?_) (fun h => absurd rfl h)
                  go_wp2
                  exact ⟨rfl, hK _ _ rfl (fun j k _ _ => Reg.Adds.refl _ _ _)⟩
                · intro val ac u hR hp ha K hK      -- 16: t35 := Op.load 3 t34
                  obtain ⟨w34, h34, r34⟩ := hp 15 (by decide)
                  have e34 : (ac.tmps[34]?).getD undef = .pointer (some ⟨wr.heap.size, 0, none⟩) := (ha 34 (by decide)).trans h34
                  clear h34
                  obtain ⟨w29, h29, r29⟩ := hp 10 (by decide)
                  have e29 : (ac.tmps[29]?).getD undef = .bool false := (ha 29 (by decide)).trans h29
                  clear h29
                  clear ha hp
                  refine Reg.Op1.guarded rfl rfl e29 (fun _ => Reg.Op1.plain rfl ?_) (fun h => absurd rfl h)
                  have x0 := (hR.cell (p := ⟨wr.heap.size, 0, none⟩) HE2.out.lt).trans (HE2.out.cell (j := 0) rfl)
                  rw [hdn] at x0
                  go_wp2
                  exact ⟨rfl, hK _ _ rfl (fun j k _ _ => Reg.Adds.refl _ _ _)⟩
                · intro val ac u hR hp ha K hK      -- 17: t36 := Op.indexAddr 37 t6 t35
                  have e6 : (ac.tmps[6]?).getD undef = .pointer (some ⟨w.heap.size, 0, none⟩) := ha 6 (by decide)
                  obtain ⟨w35, h35, r35⟩ := hp 16 (by decide)
                  have e35 : (ac.tmps[35]?).getD undef = .int .i64 (dn : Int) := (ha 35 (by decide)).trans h35
                  clear h35
                  obtain ⟨w29, h29, r29⟩ := hp 10 (by decide)
                  have e29 : (ac.tmps[29]?).getD undef = .bool false := (ha 29 (by decide)).trans h29
                  clear h29
                  clear ha hp
                  refine Reg.Op1.guarded rfl rfl e29 (fun _ => Reg.Op1.plain rfl ?_) (fun h => absurd rfl h)
                  go_wp2
                  exact ⟨rfl, hK _ _ rfl (fun j k _ _ => Reg.Adds.refl _ _ _)⟩
                · intro val ac u hR hp ha K hK      -- 18: t37 := Op.load 3 t36
                  obtain ⟨w36, h36, r36⟩ := hp 17 (by decide)
                  have e36 : (ac.tmps[36]?).getD undef = .pointer (some ⟨w.heap.size, dn, none⟩) := (ha 36 (by decide)).trans h36
                  clear h36
                  obtain ⟨w29, h29, r29⟩ := hp 10 (by decide)
                  have e29 : (ac.tmps[29]?).getD undef = .bool false := (ha 29 (by decide)).trans h29
                  clear h29
                  clear ha hp
                  refine Reg.Op1.guarded rfl rfl e29 (fun _ => Reg.Op1.plain rfl ?_) (fun h => absurd rfl h)
                  have x0 := (hR.cell (p := ⟨w.heap.size, dn, none⟩) HC2.out.lt).trans hcvc
                  go_wp2
                  exact ⟨rfl, hK _ _ rfl (fun j k _ _ => Reg.Adds.refl _ _ _)⟩
                · intro val ac u hR hp ha K hK      -- 19: t38 := Op.binOp BinOp.add 3 t37 (const (1:i64)) 3
                  obtain ⟨w37, h37, r37⟩ := hp 18 (by decide)
                  have e37 : (ac.tmps[37]?).getD undef = .int .i64 cv := (ha 37 (by decide)).trans h37
                  clear h37
                  obtain ⟨w29, h29, r29⟩ := hp 10 (by decide)
                  have e29 : (ac.tmps[29]?).getD undef = .bool false := (ha 29 (by decide)).trans h29
                  clear h29
                  clear ha hp
                  refine Reg.Op1.guarded rfl rfl e29 (fun _ => Reg.Op1.plain rfl ?_) (fun h => absurd rfl h)
                  go_wp2
                  exact ⟨rfl, hK _ _ rfl (fun j k _ _ => Reg.Adds.refl _ _ _)⟩
                · intro val ac u hR hp ha K hK      -- 20: t39 := Op.binOp BinOp.neq 3 t32 t38 3
                  obtain ⟨w32, h32, r32⟩ := hp 13 (by decide)
                  have e32 : (ac.tmps[32]?).getD undef = .int .i64 e.seq := (ha 32 (by decide)).trans h32
                  clear h32
                  obtain ⟨w38, h38, r38⟩ := hp 19 (by decide)
                  have e38 : (ac.tmps[38]?).getD undef = .int .i64 (cv + 1) := (ha 38 (by decide)).trans h38
                  clear h38
                  obtain ⟨w29, h29, r29⟩ := hp 10 (by decide)
                  have e29 : (ac.tmps[29]?).getD undef = .bool false := (ha 29 (by decide)).trans h29
                  clear h29
                  clear ha hp
                  refine Reg.Op1.guarded rfl rfl e29 (fun _ => Reg.Op1.plain rfl ?_) (fun h => absurd rfl h)
                  go_wp2
                  exact ⟨rfl, hK _ _ rfl (fun j k _ _ => Reg.Adds.refl _ _ _)⟩
                · intro val ac u hR hp ha K hK      -- 21: t40 := Op.pick t29 (const (Value.bool true)) t39
                  obtain ⟨w29, h29, r29⟩ := hp 10 (by decide)
                  have e29 : (ac.tmps[29]?).getD undef = .bool false := (ha 29 (by decide)).trans h29
                  clear h29
                  obtain ⟨w39, h39, r39⟩ := hp 20 (by decide)
                  have e39 : (ac.tmps[39]?).getD undef = .bool false := (ha 39 (by decide)).trans h39
                  clear h39
                  clear ha hp
                  refine Reg.Op1.plain rfl ?_
                  go_wp2
                  exact ⟨rfl, hK _ _ rfl (fun j k _ _ => Reg.Adds.refl _ _ _)⟩
                · intro val ac u hR hp ha K hK      -- 22: t41 := Op.move t40
                  obtain ⟨w40, h40, r40⟩ := hp 21 (by decide)
                  have e40 : (ac.tmps[40]?).getD undef = .bool false := (ha 40 (by decide)).trans h40
                  clear h40
                  clear ha hp
                  refine Reg.Op1.plain rfl ?_
                  go_wp2
                  exact ⟨rfl, hK _ _ rfl (fun j k _ _ => Reg.Adds.refl _ _ _)⟩
                · intro val ac u hR hp ha K hK      -- 23: t42 := Op.load 37 t6
                  have e6 : (ac.tmps[6]?).getD undef = .pointer (some ⟨w.heap.size, 0, none⟩) := ha 6 (by decide)
                  obtain ⟨w41, h41, r41⟩ := hp 22 (by decide)
                  have e41 : (ac.tmps[41]?).getD undef = .bool false := (ha 41 (by decide)).trans h41
                  clear h41
                  clear ha hp
                  refine Reg.Op1.guarded rfl rfl e41 (fun _ => Reg.Op1.plain rfl ?_) (fun h => absurd rfl h)
                  have x0 := (hR.cell (p := ⟨w.heap.size, 0, none⟩) HC2.out.lt).trans (HC2.out.cell (j := 0) rfl)
                  have x1 := (hR.cell (p := ⟨w.heap.size, 1, none⟩) HC2.out.lt).trans (HC2.out.cell (j := 1) rfl)
                  have x2 := (hR.cell (p := ⟨w.heap.size, 2, none⟩) HC2.out.lt).trans (HC2.out.cell (j := 2) rfl)
                  go_wp2
                  exact ⟨rfl, hK _ _ rfl (fun j k _ _ => Reg.Adds.refl _ _ _)⟩
                · intro val ac u hR hp ha K hK      -- 24: t43 := Op.fieldAddr 33 t8 5
                  have e8 : (ac.tmps[8]?).getD undef = .pointer (some ⟨wr.heap.size, 0, none⟩) := ha 8 (by decide)
                  obtain ⟨w41, h41, r41⟩ := hp 22 (by decide)
                  have e41 : (ac.tmps[41]?).getD undef = .bool false := (ha 41 (by decide)).trans h41
                  clear h41
                  clear ha hp
                  refine Reg.Op1.guarded rfl rfl e41 (fun _ => Reg.Op1.plain rfl ?_) (fun h => absurd rfl h)
                  go_wp2
                  exact ⟨rfl, hK _ _ rfl (fun j k _ _ => Reg.Adds.refl _ _ _)⟩
                · intro val ac u hR hp ha K hK      -- 25: t44 := Op.load 31 t43
                  obtain ⟨w43, h43, r43⟩ := hp 24 (by decide)
                  have e43 : (ac.tmps[43]?).getD undef = .pointer (some ⟨wr.heap.size, 9, none⟩) := (ha 43 (by decide)).trans h43
                  clear h43
                  obtain ⟨w41, h41, r41⟩ := hp 22 (by decide)
                  have e41 : (ac.tmps[41]?).getD undef = .bool false := (ha 41 (by decide)).trans h41
                  clear h41
                  clear ha hp
                  refine Reg.Op1.guarded rfl rfl e41 (fun _ => Reg.Op1.plain rfl ?_) (fun h => absurd rfl h)
                  have hEu : EBx u wr.heap.size e := Mem.Bx.below (w := w2.drew) HE2.out hR HE2.out.lt
                  have x0 := hEu.cell (j := 9) rfl
                  have x1 := hEu.cell (j := 10) rfl
                  have x2 := hEu.cell (j := 11) rfl
                  have x3 := hEu.cell (j := 12) rfl
                  have x4 := hEu.cell (j := 13) rfl
                  have x5 := hEu.cell (j := 14) rfl
                  have x6 := hEu.cell (j := 15) rfl
                  have x7 := hEu.cell (j := 16) rfl
                  have x8 := hEu.cell (j := 17) rfl
                  clear hEu
                  go_wp2
                  exact ⟨rfl, hK _ _ rfl (fun j k _ _ => Reg.Adds.refl _ _ _)⟩
                · intro val ac u hR hp ha K hK      -- 26: t45 := Op.move t0
                  have e0 : (ac.tmps[0]?).getD undef = .int .i64 rng := ha 0 (by decide)
                  obtain ⟨w41, h41, r41⟩ := hp 22 (by decide)
                  have e41 : (ac.tmps[41]?).getD undef = .bool false := (ha 41 (by decide)).trans h41
                  clear h41
                  clear ha hp
                  refine Reg.Op1.guarded rfl rfl e41 (fun _ => Reg.Op1.plain rfl ?_) (fun h => absurd rfl h)
                  go_wp2
                  exact ⟨rfl, hK _ _ rfl (fun j k _ _ => Reg.Adds.refl _ _ _)⟩
                · intro val ac u hR hp ha K hK      -- 27: t46 := Op.call { value (Operand.func 13), args := #[t44, t45], argTypes := #[31, 3] }
                  obtain ⟨w44, h44, r44⟩ := hp 25 (by decide)
                  have e44 : (ac.tmps[44]?).getD undef = Vec.V e.deps := (ha 44 (by decide)).trans h44
                  clear h44
                  obtain ⟨w45, h45, r45⟩ := hp 26 (by decide)
                  have e45 : (ac.tmps[45]?).getD undef = .int .i64 rng := (ha 45 (by decide)).trans h45
                  clear h45
                  obtain ⟨w41, h41, r41⟩ := hp 22 (by decide)
                  have e41 : (ac.tmps[41]?).getD undef = .bool false := (ha 41 (by decide)).trans h41
                  clear h41
                  clear ha hp
                  refine Reg.Op1.guarded rfl rfl e41 (fun _ => Reg.Op1.plain rfl ?_) (fun h => absurd rfl h)
                  go_wp2_with fail
                  refine (part_any e.deps rng u).mono ?_
                  rintro x w' ⟨rfl, hbw⟩
                  go_wp2_with fail
                  exact ⟨rfl, hK _ _ rfl (fun j k _ _ => hbw)⟩
                · intro val ac u hR hp ha K hK      -- 28: t47 := Op.call { value (Operand.func 14), args := #[t42, t46], argTypes := #[37, 37] }
                  obtain ⟨w42, h42, r42⟩ := hp 23 (by decide)
                  have e42 : (ac.tmps[42]?).getD undef = Vec.C col := (ha 42 (by decide)).trans h42
                  clear h42
                  obtain ⟨w46, h46, r46⟩ := hp 27 (by decide)
                  have e46 : (ac.tmps[46]?).getD undef = Vec.C (Vec.part e.deps rng) := (ha 46 (by decide)).trans h46
                  clear h46
                  obtain ⟨w41, h41, r41⟩ := hp 22 (by decide)
                  have e41 : (ac.tmps[41]?).getD undef = .bool false := (ha 41 (by decide)).trans h41
                  clear h41
                  clear ha hp
                  refine Reg.Op1.guarded rfl rfl e41 (fun _ => Reg.Op1.plain rfl ?_) (fun h => absurd rfl h)
                  go_wp2_with fail
                  refine (coversC_any col (Vec.part e.deps rng) u).mono ?_
                  rintro x w' ⟨rfl, hbw⟩
                  rw [hcv]
                  go_wp2_with fail
                  exact ⟨rfl, hK _ _ rfl (fun j k _ _ => hbw)⟩
                · intro val ac u hR hp ha K hK      -- 29: t48 := Op.unOp UnOp.not 4 t47
                  obtain ⟨w47, h47, r47⟩ := hp 28 (by decide)
                  have e47 : (ac.tmps[47]?).getD undef = .bool true := (ha 47 (by decide)).trans h47
                  clear h47
                  obtain ⟨w41, h41, r41⟩ := hp 22 (by decide)
                  have e41 : (ac.tmps[41]?).getD undef = .bool false := (ha 41 (by decide)).trans h41
                  clear h41
                  clear ha hp
                  refine Reg.Op1.guarded rfl rfl e41 (fun _ => Reg.Op1.plain rfl ?_) (fun h => absurd rfl h)
                  go_wp2
                  exact ⟨rfl, hK _ _ rfl (fun j k _ _ => Reg.Adds.refl _ _ _)⟩
                · intro val ac u hR hp ha K hK      -- 30: t49 := Op.pick t41 (const (Value.bool true)) t48
                  obtain ⟨w41, h41, r41⟩ := hp 22 (by decide)
                  have e41 : (ac.tmps[41]?).getD undef = .bool false := (ha 41 (by decide)).trans h41
                  clear h41
                  obtain ⟨w48, h48, r48⟩ := hp 29 (by decide)
                  have e48 : (ac.tmps[48]?).getD undef = .bool false := (ha 48 (by decide)).trans h48
                  clear h48
                  clear ha hp
                  refine Reg.Op1.plain rfl ?_
                  go_wp2
                  exact ⟨rfl, hK _ _ rfl (fun j k _ _ => Reg.Adds.refl _ _ _)⟩
              · intro val u hR H
                obtain ⟨_, hv, _⟩ := H 30 (by decide)
                have hv : val 30 = .bool false := hv
                have HRU : Hid (Below w2.heap.size w2 u) := (Below.refl _ w2).drew.trans hR
                simp only [List.map_cons, List.map_nil, Reg.lay, Act.put, List.setIfInBounds_toArray, List.set_cons_succ, List.set_cons_zero, Nat.reduceAdd, hv]
                clear hR H hv
                have HBU : Hid (Below w.heap.size w u) := HB'.out.trans (HRU.out.mono HB'.out.size)
                have HOU : Hid (Mem.Own u 33 20 A2 k c2 ((es.take k).flatMap entCells)) := HO2.out.keeps (Mem.Keeps.of_below HRU.out) (fun _ _ h => h)
                have HEU : Hid (EBx u wr.heap.size e) := HE2.out.below HRU.out HE2.out.lt
                have HCU : Hid (CBx u w.heap.size col) := HC2.out.below HRU.out HC2.out.lt
                have x0 := HEU.out.cell (j := 0) rfl
                rw [hdn] at x0
                have y0 := (HRU.out.cell (p := ⟨w.heap.size, dn, none⟩) HC2.out.lt).trans hcvc
                have f0 := HCU.out.fr dn
                go_upto_region 9 with fail
                obtain ⟨w5, hw5⟩ : ∃ w5, u.setCell ⟨w.heap.size, dn, none⟩ (.int .i64 (cv + 1)) = w5 := ⟨_, rfl⟩
                have hkw : Mem.Keeps (fun q => q = w.heap.size) u w5 := by rw [← hw5]; exact (Mem.Keeps.refl (fun q => q = w.heap.size) u).setCell (p := ⟨w.heap.size, dn, none⟩) (fun _ => rfl) _
                have HC5 : Hid (CBx w5 w.heap.size (col.set dn (cv + 1))) := by
                  show CBx _ _ _
                  rw [← hw5]
                  have h1 := HCU.out.set dn (.int .i64 (cv + 1))
                  have h2 : (colCells col).set dn (.int .i64 (cv + 1)) = colCells (col.set dn (cv + 1)) := by
                    have h3 : dn = 0 ∨ dn = 1 ∨ dn = 2 := by omega
                    rcases h3 with rfl | rfl | rfl <;> rfl
                  rwa [h2] at h1
                have HE5 : Hid (EBx w5 wr.heap.size e) := HEU.out.keeps hkw (by omega)
                have HO5 : Hid (Mem.Own w5 33 20 A2 k c2 ((es.take k).flatMap entCells)) := HOU.out.keeps hkw (fun q hq h => by have := HF.out.blk q hq; omega)
                have HB5 : Hid (Below w.heap.size w w5) := HBU.out.trans (hkw.below (fun q h => by omega) HBU.out.size)
                have hz5 : u.heap.size ≤ w5.heap.size := hkw.size
                have hzu := HRU.out.size
                rw [hw5]
                clear hw5 x0 y0 f0 hkw HCU HEU HOU HBU
                go_wp2_with (first | ((with_reducible refine Mem.load_agg _ _ entry_agg wr.heap.size 0 (entCells e) ?hxe (entCells_length e) (fun j u hu => by rw [Nat.zero_add]; exact HE5.out.cell hu) ?_); case hxe => exact rfl) | ((with_reducible refine Mem.build1_agg _ _ 20 _ Try.underlying22 entry_zero (by decide) (by decide) (entCells e) ?hxf (entCells_length e) ?_); case hxf => exact rfl) | (at_builtin; refine Mem.wpList_app _ rfl (.tmp 57) (.tmp 59) _ rfl entries_elem A2 k c2 _ rfl (w5.heap.size + 1) (some ⟨w5.heap.size, 0, none⟩) 1 1 (entCells e) rfl ?_ (HO5.out.alloc _) (Mem.Rd.alloc_new _ _ _ _ rfl) rfl (ent_one e) (by unfold maxLen; omega) (by omega); intro A3 c3 w6 hown hg6 hat))
                have hcol : column rng (es.take (k + 1)) = col.set dn (cv + 1) := by
                  rw [Mem.take_snoc HEK.out, column_snoc, HCOL.out]
                  unfold colStep
                  rw [if_pos ⟨HRG.out, HCH.out⟩, hdn0, HCVD.out, HSQ.out]
                  congr 1
                  omega
                go_roundw
                case rel =>
                  refine ⟨⟨k + 1, A3, c3, by omega, rfl, by go_num, ?_, ?_, ?_, ?_, ?_, ?_, ?_⟩⟩
                  · show Mem.Own _ _ _ _ _ _ _
                    rw [Mem.take_snoc HEK.out, List.flatMap_append]
                    simpa using hown
                  · rcases hat with rfl | rfl
                    · exact HF
                    · exact Mem.From.some_ (by simp; omega)
                  · show CBx _ _ _
                    rw [hcol]
                    refine (HC5.out.below (B := w.heap.size + 1) ?_ (by omega))
                    exact ((Below.refl _ w5).alloc (by omega) _).grown hg6 (by simp; omega) (Mem.From.blk HF.out)
                  · exact HNB.out.snoc HEK.out HRG.out HCH.out (by rw [HCOL.out, hdn0, HCVD.out, HSQ.out])
                  · show ∀ x ∈ es.take (k + 1), rightE x = true
                    rw [Mem.take_snoc HEK.out]
                    intro x hx
                    rcases List.mem_append.1 hx with hx | hx
                    · exact HRT.out x hx
                    · rw [List.mem_singleton.1 hx]; exact hre
                  · show Small _
                    rw [hcol]
                    intro i hi
                    rw [set_at _ hd3 hi]
                    have h9 := HSM.out i hi
                    split
                    · have := HSQ.out; have := HS2.out; omega
                    · exact h9
                  · exact (HB5.out.alloc HB5.out.size _).grown hg6 (by have := HB5.out.size; simp; omega) (fun q hq => by have := Mem.From.blk HF.out q hq; omega)
                case measure => simp [intOf]; omega
          · have d4 : (e.seq != cv + 1) = true := by simp [hsq]
            clear hsq
            go_upto_region 7 with fail
            refine Reg.wp_region_rel (by kernel_rfl) 62 31 rfl rfl (by kernel_rfl) (Reg.Adds) (Reg.Adds.refl) (Reg.Adds.trans)
              (fun i v u => match i with
                | 0 => v = .agg (entCells e).toArray
                | 1 => v = .bool true
                | 2 => v = .bool false
                | 3 => v = .bool false
                | 4 => v = .pointer (some ⟨wr.heap.size, 0, none⟩)
                | 5 => v = .pointer (some ⟨wr.heap.size, 1, none⟩)
                | 6 => v = .int .i64 e.rng
                | 7 => v = .int .i64 rng
                | 8 => v = .bool false
                | 9 => v = .bool false
                | 10 => v = .bool false
                | 11 => v = .pointer (some ⟨wr.heap.size, 0, none⟩)
                | 12 => v = .pointer (some ⟨wr.heap.size, 2, none⟩)
                | 13 => v = .int .i64 e.seq
                | 14 => v = .pointer (some ⟨wr.heap.size, 0, none⟩)
                | 15 => v = .pointer (some ⟨wr.heap.size, 0, none⟩)
                | 16 => v = .int .i64 (dn : Int)
                | 17 => v = .pointer (some ⟨w.heap.size, dn, none⟩)
                | 18 => v = .int .i64 cv
                | 19 => v = .int .i64 (cv + 1)
                | 20 => v = .bool true
                | 21 => v = .bool true
                | 22 => v = .bool true
                | 23 => v = undef
                | 24 => v = undef
                | 25 => v = undef
                | 26 => v = undef
                | 27 => v = undef
                | 28 => v = undef
                | 29 => v = undef
                | 30 => v = .bool true
                | _ => True) ?_ ?_
            · refine Reg.Steps.cons ?_ (Reg.Steps.cons ?_ (Reg.Steps.cons ?_ (Reg.Steps.cons ?_ (Reg.Steps.cons ?_ (Reg.Steps.cons ?_ (Reg.Steps.cons ?_ (Reg.Steps.cons ?_ (Reg.Steps.cons ?_ (Reg.Steps.cons ?_ (Reg.Steps.cons ?_ (Reg.Steps.cons ?_ (Reg.Steps.cons ?_ (Reg.Steps.cons ?_ (Reg.Steps.cons ?_ (Reg.Steps.cons ?_ (Reg.Steps.cons ?_ (Reg.Steps.cons ?_ (Reg.Steps.cons ?_ (Reg.Steps.cons ?_ (Reg.Steps.cons ?_ (Reg.Steps.cons ?_ (Reg.Steps.cons ?_ (Reg.Steps.cons ?_ (Reg.Steps.cons ?_ (Reg.Steps.cons ?_ (Reg.Steps.cons ?_ (Reg.Steps.cons ?_ (Reg.Steps.cons ?_ (Reg.Steps.cons ?_ (Reg.Steps.cons ?_ (Reg.Steps.nil _)))))))))))))))))))))))))))))))
              · intro val ac u hR hp ha K hK      -- 0: t19 := Op.load 33 t8
                have e8 : (ac.tmps[8]?).getD undef = .pointer (some ⟨wr.heap.size, 0, none⟩) := ha 8 (by decide)
                clear ha hp
                refine Reg.Op1.plain rfl ?_
                refine Mem.load_agg _ _ entry_agg wr.heap.size 0 (entCells e) (Reg.eval_of e8) (entCells_length _) (fun j u' hu => by rw [Nat.zero_add]; exact (hR.cell (p := ⟨wr.heap.size, j, none⟩) HE2.out.lt).trans (HE2.out.cell hu)) ?_
                exact ⟨rfl, hK _ _ rfl (fun j k _ _ => Reg.Adds.refl _ _ _)⟩
              · intro val ac u hR hp ha K hK      -- 1: t20 := Op.call { value (Operand.func 28), args := #[t19], argTypes := #[33] }
                obtain ⟨w19, h19, r19⟩ := hp 0 (by decide)
                have e19 : (ac.tmps[19]?).getD undef = .agg (entCells e).toArray := (ha 19 (by decide)).trans h19
                clear h19
                clear ha hp
                refine Reg.Op1.plain rfl ?_
                go_wp2_with fail
                refine (rightE_any e u).mono ?_
                rintro x w' ⟨rfl, hbw⟩
                rw [hre]
                go_wp2_with fail
                exact ⟨rfl, hK _ _ rfl (fun j k _ _ => hbw)⟩
              · intro val ac u hR hp ha K hK      -- 2: t21 := Op.unOp UnOp.not 4 t20
                obtain ⟨w20, h20, r20⟩ := hp 1 (by decide)
                have e20 : (ac.tmps[20]?).getD undef = .bool true := (ha 20 (by decide)).trans h20
                clear h20
                clear ha hp
                refine Reg.Op1.plain rfl ?_
                go_wp2
                exact ⟨rfl, hK _ _ rfl (fun j k _ _ => Reg.Adds.refl _ _ _)⟩
              · intro val ac u hR hp ha K hK      -- 3: t22 := Op.move t21
                obtain ⟨w21, h21, r21⟩ := hp 2 (by decide)
                have e21 : (ac.tmps[21]?).getD undef = .bool false := (ha 21 (by decide)).trans h21
                clear h21
                clear ha hp
                refine Reg.Op1.plain rfl ?_
                go_wp2
                exact ⟨rfl, hK _ _ rfl (fun j k _ _ => Reg.Adds.refl _ _ _)⟩
              · intro val ac u hR hp ha K hK      -- 4: t23 := Op.fieldAddr 33 t8 0
                have e8 : (ac.tmps[8]?).getD undef = .pointer (some ⟨wr.heap.size, 0, none⟩) := ha 8 (by decide)
                obtain ⟨w22, h22, r22⟩ := hp 3 (by decide)
                have e22 : (ac.tmps[22]?).getD undef = .bool false := (ha 22 (by decide)).trans h22
                clear h22
                clear ha hp
                refine Reg.Op1.guarded rfl rfl e22 (fun _ => Reg.Op1.plain rfl ?_) (fun h => absurd rfl h)
                go_wp2
                exact ⟨rfl, hK _ _ rfl (fun j k _ _ => Reg.Adds.refl _ _ _)⟩
              · intro val ac u hR hp ha K hK      -- 5: t24 := Op.fieldAddr 26 t23 1
                obtain ⟨w23, h23, r23⟩ := hp 4 (by decide)
                have e23 : (ac.tmps[23]?).getD undef = .pointer (some ⟨wr.heap.size, 0, none⟩) := (ha 23 (by decide)).trans h23
                clear h23
                obtain ⟨w22, h22, r22⟩ := hp 3 (by decide)
                have e22 : (ac.tmps[22]?).getD undef = .bool false := (ha 22 (by decide)).trans h22
                clear h22
                clear ha hp
                refine Reg.Op1.guarded rfl rfl e22 (fun _ => Reg.Op1.plain rfl ?_) (fun h => absurd rfl h)
                go_wp2
                exact ⟨rfl, hK _ _ rfl (fun j k _ _ => Reg.Adds.refl _ _ _)⟩
              · intro val ac u hR hp ha K hK      -- 6: t25 := Op.load 3 t24
                obtain ⟨w24, h24, r24⟩ := hp 5 (by decide)
                have e24 : (ac.tmps[24]?).getD undef = .pointer (some ⟨wr.heap.size, 1, none⟩) := (ha 24 (by decide)).trans h24
                clear h24
                obtain ⟨w22, h22, r22⟩ := hp 3 (by decide)
                have e22 : (ac.tmps[22]?).getD undef = .bool false := (ha 22 (by decide)).trans h22
                clear h22
                clear ha hp
                refine Reg.Op1.guarded rfl rfl e22 (fun _ => Reg.Op1.plain rfl ?_) (fun h => absurd rfl h)
                have x0 := (hR.cell (p := ⟨wr.heap.size, 1, none⟩) HE2.out.lt).trans (HE2.out.cell (j := 1) rfl)
                go_wp2
                exact ⟨rfl, hK _ _ rfl (fun j k _ _ => Reg.Adds.refl _ _ _)⟩
              · intro val ac u hR hp ha K hK      -- 7: t26 := Op.move t0
                have e0 : (ac.tmps[0]?).getD undef = .int .i64 rng := ha 0 (by decide)
                obtain ⟨w22, h22, r22⟩ := hp 3 (by decide)
                have e22 : (ac.tmps[22]?).getD undef = .bool false := (ha 22 (by decide)).trans h22
                clear h22
                clear ha hp
                refine Reg.Op1.guarded rfl rfl e22 (fun _ => Reg.Op1.plain rfl ?_) (fun h => absurd rfl h)
                go_wp2
                exact ⟨rfl, hK _ _ rfl (fun j k _ _ => Reg.Adds.refl _ _ _)⟩
              · intro val ac u hR hp ha K hK      -- 8: t27 := Op.binOp BinOp.neq 3 t25 t26 3
                obtain ⟨w25, h25, r25⟩ := hp 6 (by decide)
                have e25 : (ac.tmps[25]?).getD undef = .int .i64 e.rng := (ha 25 (by decide)).trans h25
                clear h25
                obtain ⟨w26, h26, r26⟩ := hp 7 (by decide)
                have e26 : (ac.tmps[26]?).getD undef = .int .i64 rng := (ha 26 (by decide)).trans h26
                clear h26
                obtain ⟨w22, h22, r22⟩ := hp 3 (by decide)
                have e22 : (ac.tmps[22]?).getD undef = .bool false := (ha 22 (by decide)).trans h22
                clear h22
                clear ha hp
                refine Reg.Op1.guarded rfl rfl e22 (fun _ => Reg.Op1.plain rfl ?_) (fun h => absurd rfl h)
                go_wp2
                exact ⟨rfl, hK _ _ rfl (fun j k _ _ => Reg.Adds.refl _ _ _)⟩
              · intro val ac u hR hp ha K hK      -- 9: t28 := Op.pick t22 (const (Value.bool true)) t27
                obtain ⟨w22, h22, r22⟩ := hp 3 (by decide)
                have e22 : (ac.tmps[22]?).getD undef = .bool false := (ha 22 (by decide)).trans h22
                clear h22
                obtain ⟨w27, h27, r27⟩ := hp 8 (by decide)
                have e27 : (ac.tmps[27]?).getD undef = .bool false := (ha 27 (by decide)).trans h27
                clear h27
                clear ha hp
                refine Reg.Op1.plain rfl ?_
                go_wp2
                exact ⟨rfl, hK _ _ rfl (fun j k _ _ => Reg.Adds.refl _ _ _)⟩
              · intro val ac u hR hp ha K hK      -- 10: t29 := Op.move t28
                obtain ⟨w28, h28, r28⟩ := hp 9 (by decide)
                have e28 : (ac.tmps[28]?).getD undef = .bool false := (ha 28 (by decide)).trans h28
                clear h28
                clear ha hp
                refine Reg.Op1.plain rfl ?_
                go_wp2
                exact ⟨rfl, hK _ _ rfl (fun j k _ _ => Reg.Adds.refl _ _ _)⟩
              · intro val ac u hR hp ha K hK      -- 11: t30 := Op.fieldAddr 33 t8 0
                have e8 : (ac.tmps[8]?).getD undef = .pointer (some ⟨wr.heap.size, 0, none⟩) := ha 8 (by decide)
                obtain ⟨w29, h29, r29⟩ := hp 10 (by decide)
                have e29 : (ac.tmps[29]?).getD undef = .bool false := (ha 29 (by decide)).trans h29
                clear h29
                clear ha hp
                refine Reg.Op1.guarded rfl rfl e29 (fun _ => Reg.Op1.plain rfl ?_) (fun h => absurd rfl h)
                go_wp2
                exact ⟨rfl, hK _ _ rfl (fun j k _ _ => Reg.Adds.refl _ _ _)⟩
              · intro val ac u hR hp ha K hK      -- 12: t31 := Op.fieldAddr 26 t30 2
                obtain ⟨w30, h30, r30⟩ := hp 11 (by decide)
                have e30 : (ac.tmps[30]?).getD undef = .pointer (some ⟨wr.heap.size, 0, none⟩) := (ha 30 (by decide)).trans h30
                clear h30
                obtain ⟨w29, h29, r29⟩ := hp 10 (by decide)
                have e29 : (ac.tmps[29]?).getD undef = .bool false := (ha 29 (by decide)).trans h29
                clear h29
                clear ha hp
                refine Reg.Op1.guarded rfl rfl e29 (fun _ => Reg.Op1.plain rfl ?_) (fun h => absurd rfl h)
                go_wp2
                exact ⟨rfl, hK _ _ rfl (fun j k _ _ => Reg.Adds.refl _ _ _)⟩
              · intro val ac u hR hp ha K hK      -- 13: t32 := Op.load 3 t31
                obtain ⟨w31, h31, r31⟩ := hp 12 (by decide)
                have e31 : (ac.tmps[31]?).getD undef = .pointer (some ⟨wr.heap.size, 2, none⟩) := (ha 31 (by decide)).trans h31
                clear h31
                obtain ⟨w29, h29, r29⟩ := hp 10 (by decide)
                have e29 : (ac.tmps[29]?).getD undef = .bool false := (ha 29 (by decide)).trans h29
                clear h29
                clear ha hp
                refine Reg.Op1.guarded rfl rfl e29 (fun _ => Reg.Op1.plain rfl ?_) (fun h => absurd rfl h)
                have x0 := (hR.cell (p := ⟨wr.heap.size, 2, none⟩) HE2.out.lt).trans (HE2.out.cell (j := 2) rfl)
                go_wp2
                exact ⟨rfl, hK _ _ rfl (fun j k _ _ => Reg.Adds.refl _ _ _)⟩
              · intro val ac u hR hp ha K hK      -- 14: t33 := Op.fieldAddr 33 t8 0
                have e8 : (ac.tmps[8]?).getD undef = .pointer (some ⟨wr.heap.size, 0, none⟩) := ha 8 (by decide)
                obtain ⟨w29, h29, r29⟩ := hp 10 (by decide)
                have e29 : (ac.tmps[29]?).getD undef = .bool false := (ha 29 (by decide)).trans h29
                clear h29
                clear ha hp
                refine Reg.Op1.guarded rfl rfl e29 (fun _ => Reg.Op1.plain rfl ?_) (fun h => absurd rfl h)
                go_wp2
                exact ⟨rfl, hK _ _ rfl (fun j k _ _ => Reg.Adds.refl _ _ _)⟩
              · intro val ac u hR hp ha K hK      -- 15: t34 := Op.fieldAddr 26 t33 0
                obtain ⟨w33, h33, r33⟩ := hp 14 (by decide)
                have e33 : (ac.tmps[33]?).getD undef = .pointer (some ⟨wr.heap.size, 0, none⟩) := (ha 33 (by decide)).trans h33
                clear h33
                obtain ⟨w29, h29, r29⟩ := hp 10 (by decide)
                have e29 : (ac.tmps[29]?).getD undef = .bool false := (ha 29 (by decide)).trans h29
                clear h29
                clear ha hp
                refine Reg.Op1.guarded rfl rfl e29 (fun _ => Reg.Op1.plain rfl ?_) (fun h => absurd rfl h)
                go_wp2
                exact ⟨rfl, hK _ _ rfl (fun j k _ _ => Reg.Adds.refl _ _ _)⟩
              · intro val ac u hR hp ha K hK      -- 16: t35 := Op.load 3 t34
                obtain ⟨w34, h34, r34⟩ := hp 15 (by decide)
                have e34 : (ac.tmps[34]?).getD undef = .pointer (some ⟨wr.heap.size, 0, none⟩) := (ha 34 (by decide)).trans h34
                clear h34
                obtain ⟨w29, h29, r29⟩ := hp 10 (by decide)
                have e29 : (ac.tmps[29]?).getD undef = .bool false := (ha 29 (by decide)).trans h29
                clear h29
                clear ha hp
                refine Reg.Op1.guarded rfl rfl e29 (fun _ => Reg.Op1.plain rfl ?_) (fun h => absurd rfl h)
                have x0 := (hR.cell (p := ⟨wr.heap.size, 0, none⟩) HE2.out.lt).trans (HE2.out.cell (j := 0) rfl)
                rw [hdn] at x0
                go_wp2
                exact ⟨rfl, hK _ _ rfl (fun j k _ _ => Reg.Adds.refl _ _ _)⟩
              · intro val ac u hR hp ha K hK      -- 17: t36 := Op.indexAddr 37 t6 t35
                have e6 : (ac.tmps[6]?).getD undef = .pointer (some ⟨w.heap.size, 0, none⟩) := ha 6 (by decide)
                obtain ⟨w35, h35, r35⟩ := hp 16 (by decide)
                have e35 : (ac.tmps[35]?).getD undef = .int .i64 (dn : Int) := (ha 35 (by decide)).trans h35
                clear h35
                obtain ⟨w29, h29, r29⟩ := hp 10 (by decide)
                have e29 : (ac.tmps[29]?).getD undef = .bool false := (ha 29 (by decide)).trans h29
                clear h29
                clear ha hp
                refine Reg.Op1.guarded rfl rfl e29 (fun _ => Reg.Op1.plain rfl ?_) (fun h => absurd rfl h)
                go_wp2
                exact ⟨rfl, hK _ _ rfl (fun j k _ _ => Reg.Adds.refl _ _ _)⟩
              · intro val ac u hR hp ha K hK      -- 18: t37 := Op.load 3 t36
                obtain ⟨w36, h36, r36⟩ := hp 17 (by decide)
                have e36 : (ac.tmps[36]?).getD undef = .pointer (some ⟨w.heap.size, dn, none⟩) := (ha 36 (by decide)).trans h36
                clear h36
                obtain ⟨w29, h29, r29⟩ := hp 10 (by decide)
                have e29 : (ac.tmps[29]?).getD undef = .bool false := (ha 29 (by decide)).trans h29
                clear h29
                clear ha hp
                refine Reg.Op1.guarded rfl rfl e29 (fun _ => Reg.Op1.plain rfl ?_) (fun h => absurd rfl h)
                have x0 := (hR.cell (p := ⟨w.heap.size, dn, none⟩) HC2.out.lt).trans hcvc
                go_wp2
                exact ⟨rfl, hK _ _ rfl (fun j k _ _ => Reg.Adds.refl _ _ _)⟩
              · intro val ac u hR hp ha K hK      -- 19: t38 := Op.binOp BinOp.add 3 t37 (const (1:i64)) 3
                obtain ⟨w37, h37, r37⟩ := hp 18 (by decide)
                have e37 : (ac.tmps[37]?).getD undef = .int .i64 cv := (ha 37 (by decide)).trans h37
                clear h37
                obtain ⟨w29, h29, r29⟩ := hp 10 (by decide)
                have e29 : (ac.tmps[29]?).getD undef = .bool false := (ha 29 (by decide)).trans h29
                clear h29
                clear ha hp
                refine Reg.Op1.guarded rfl rfl e29 (fun _ => Reg.Op1.plain rfl ?_) (fun h => absurd rfl h)
                go_wp2
                exact ⟨rfl, hK _ _ rfl (fun j k _ _ => Reg.Adds.refl _ _ _)⟩
              · intro val ac u hR hp ha K hK      -- 20: t39 := Op.binOp BinOp.neq 3 t32 t38 3
                obtain ⟨w32, h32, r32⟩ := hp 13 (by decide)
                have e32 : (ac.tmps[32]?).getD undef = .int .i64 e.seq := (ha 32 (by decide)).trans h32
                clear h32
                obtain ⟨w38, h38, r38⟩ := hp 19 (by decide)
                have e38 : (ac.tmps[38]?).getD undef = .int .i64 (cv + 1) := (ha 38 (by decide)).trans h38
                clear h38
                obtain ⟨w29, h29, r29⟩ := hp 10 (by decide)
                have e29 : (ac.tmps[29]?).getD undef = .bool false := (ha 29 (by decide)).trans h29
                clear h29
                clear ha hp
                refine Reg.Op1.guarded rfl rfl e29 (fun _ => Reg.Op1.plain rfl ?_) (fun h => absurd rfl h)
                go_wp2
                exact ⟨rfl, hK _ _ rfl (fun j k _ _ => Reg.Adds.refl _ _ _)⟩
              · intro val ac u hR hp ha K hK      -- 21: t40 := Op.pick t29 (const (Value.bool true)) t39
                obtain ⟨w29, h29, r29⟩ := hp 10 (by decide)
                have e29 : (ac.tmps[29]?).getD undef = .bool false := (ha 29 (by decide)).trans h29
                clear h29
                obtain ⟨w39, h39, r39⟩ := hp 20 (by decide)
                have e39 : (ac.tmps[39]?).getD undef = .bool true := (ha 39 (by decide)).trans h39
                clear h39
                clear ha hp
                refine Reg.Op1.plain rfl ?_
                go_wp2
                exact ⟨rfl, hK _ _ rfl (fun j k _ _ => Reg.Adds.refl _ _ _)⟩
              · intro val ac u hR hp ha K hK      -- 22: t41 := Op.move t40
                obtain ⟨w40, h40, r40⟩ := hp 21 (by decide)
                have e40 : (ac.tmps[40]?).getD undef = .bool true := (ha 40 (by decide)).trans h40
                clear h40
                clear ha hp
                refine Reg.Op1.plain rfl ?_
                go_wp2
                exact ⟨rfl, hK _ _ rfl (fun j k _ _ => Reg.Adds.refl _ _ _)⟩
              · intro val ac u hR hp ha K hK      -- 23: t42 := Op.load 37 t6
                obtain ⟨w41, h41, r41⟩ := hp 22 (by decide)
                have e41 : (ac.tmps[41]?).getD undef = .bool true := (ha 41 (by decide)).trans h41
                clear h41
                clear ha hp
                exact Reg.Op1.guarded rfl rfl e41 (fun h => by cases h) (fun _ => hK _ _ rfl (fun j k _ _ => Reg.Adds.refl _ _ _))
              · intro val ac u hR hp ha K hK      -- 24: t43 := Op.fieldAddr 33 t8 5
                obtain ⟨w41, h41, r41⟩ := hp 22 (by decide)
                have e41 : (ac.tmps[41]?).getD undef = .bool true := (ha 41 (by decide)).trans h41
                clear h41
                clear ha hp
                exact Reg.Op1.guarded rfl rfl e41 (fun h => by cases h) (fun _ => hK _ _ rfl (fun j k _ _ => Reg.Adds.refl _ _ _))
              · intro val ac u hR hp ha K hK      -- 25: t44 := Op.load 31 t43
                obtain ⟨w41, h41, r41⟩ := hp 22 (by decide)
                have e41 : (ac.tmps[41]?).getD undef = .bool true := (ha 41 (by decide)).trans h41
                clear h41
                clear ha hp
                exact Reg.Op1.guarded rfl rfl e41 (fun h => by cases h) (fun _ => hK _ _ rfl (fun j k _ _ => Reg.Adds.refl _ _ _))
              · intro val ac u hR hp ha K hK      -- 26: t45 := Op.move t0
                obtain ⟨w41, h41, r41⟩ := hp 22 (by decide)
                have e41 : (ac.tmps[41]?).getD undef = .bool true := (ha 41 (by decide)).trans h41
                clear h41
                clear ha hp
                exact Reg.Op1.guarded rfl rfl e41 (fun h => by cases h) (fun _ => hK _ _ rfl (fun j k _ _ => Reg.Adds.refl _ _ _))
              · intro val ac u hR hp ha K hK      -- 27: t46 := Op.call { value (Operand.func 13), args := #[t44, t45], argTypes := #[31, 3] }
                obtain ⟨w41, h41, r41⟩ := hp 22 (by decide)
                have e41 : (ac.tmps[41]?).getD undef = .bool true := (ha 41 (by decide)).trans h41
                clear h41
                clear ha hp
                exact Reg.Op1.guarded rfl rfl e41 (fun h => by cases h) (fun _ => hK _ _ rfl (fun j k _ _ => Reg.Adds.refl _ _ _))
              · intro val ac u hR hp ha K hK      -- 28: t47 := Op.call { value (Operand.func 14), args := #[t42, t46], argTypes := #[37, 37] }
                obtain ⟨w41, h41, r41⟩ := hp 22 (by decide)
                have e41 : (ac.tmps[41]?).getD undef = .bool true := (ha 41 (by decide)).trans h41
                clear h41
                clear ha hp
                exact Reg.Op1.guarded rfl rfl e41 (fun h => by cases h) (fun _ => hK _ _ rfl (fun j k _ _ => Reg.Adds.refl _ _ _))
              · intro val ac u hR hp ha K hK      -- 29: t48 := Op.unOp UnOp.not 4 t47
                obtain ⟨w41, h41, r41⟩ := hp 22 (by decide)
                have e41 : (ac.tmps[41]?).getD undef = .bool true := (ha 41 (by decide)).trans h41
                clear h41
                clear ha hp
                exact Reg.Op1.guarded rfl rfl e41 (fun h => by cases h) (fun _ => hK _ _ rfl (fun j k _ _ => Reg.Adds.refl _ _ _))
              · intro val ac u hR hp ha K hK      -- 30: t49 := Op.pick t41 (const (Value.bool true)) t48
                obtain ⟨w41, h41, r41⟩ := hp 22 (by decide)
                have e41 : (ac.tmps[41]?).getD undef = .bool true := (ha 41 (by decide)).trans h41
                clear h41
                obtain ⟨w48, h48, r48⟩ := hp 29 (by decide)
                have e48 : (ac.tmps[48]?).getD undef = undef := (ha 48 (by decide)).trans h48
                clear h48
                clear ha hp
                refine Reg.Op1.plain rfl ?_
                go_wp2
                exact ⟨rfl, hK _ _ rfl (fun j k _ _ => Reg.Adds.refl _ _ _)⟩
            · intro val u hR H
              obtain ⟨_, hv, _⟩ := H 30 (by decide)
              have hv : val 30 = .bool true := hv
              have HRU : Hid (Below w2.heap.size w2 u) := (Below.refl _ w2).drew.trans hR
              simp only [List.map_cons, List.map_nil, Reg.lay, Act.put, List.setIfInBounds_toArray, List.set_cons_succ, List.set_cons_zero, Nat.reduceAdd, hv]
              clear hR H hv
              have HBU : Hid (Below w.heap.size w u) := HB'.out.trans (HRU.out.mono HB'.out.size)
              have HOU : Hid (Mem.Own u 33 20 A2 k c2 ((es.take k).flatMap entCells)) := HO2.out.keeps (Mem.Keeps.of_below HRU.out) (fun _ _ h => h)
              go_wp2
              go_ret
              exact ⟨k, A2, c2, hk, rfl, HOU.out, HNB.out, HRT.out, HBU.out⟩
        · have d3 : (e.rng != rng) = true := by simp [hrg]
          clear hrg hch hs1 hs2
          go_upto_region 7 with fail
          refine Reg.wp_region_rel (by kernel_rfl) 62 31 rfl rfl (by kernel_rfl) (Reg.Adds) (Reg.Adds.refl) (Reg.Adds.trans)
            (fun i v u => match i with
              | 0 => v = .agg (entCells e).toArray
              | 1 => v = .bool true
              | 2 => v = .bool false
              | 3 => v = .bool false
              | 4 => v = .pointer (some ⟨wr.heap.size, 0, none⟩)
              | 5 => v = .pointer (some ⟨wr.heap.size, 1, none⟩)
              | 6 => v = .int .i64 e.rng
              | 7 => v = .int .i64 rng
              | 8 => v = .bool true
              | 9 => v = .bool true
              | 10 => v = .bool true
              | 11 => v = undef
              | 12 => v = undef
              | 13 => v = undef
              | 14 => v = undef
              | 15 => v = undef
              | 16 => v = undef
              | 17 => v = undef
              | 18 => v = undef
              | 19 => v = undef
              | 20 => v = undef
              | 21 => v = .bool true
              | 22 => v = .bool true
              | 23 => v = undef
              | 24 => v = undef
              | 25 => v = undef
              | 26 => v = undef
              | 27 => v = undef
              | 28 => v = undef
              | 29 => v = undef
              | 30 => v = .bool true
              | _ => True) ?_ ?_
          · refine Reg.Steps.cons ?_ (Reg.Steps.cons ?_ (Reg.Steps.cons ?_ (Reg.Steps.cons ?_ (Reg.Steps.cons ?_ (Reg.Steps.cons ?_ (Reg.Steps.cons ?_ (Reg.Steps.cons ?_ (Reg.Steps.cons ?_ (Reg.Steps.cons ?_ (Reg.Steps.cons ?_ (Reg.Steps.cons ?_ (Reg.Steps.cons ?_ (Reg.Steps.cons ?_ (Reg.Steps.cons ?_ (Reg.Steps.cons ?_ (Reg.Steps.cons ?_ (Reg.Steps.cons ?_ (Reg.Steps.cons ?_ (Reg.Steps.cons ?_ (Reg.Steps.cons ?_ (Reg.Steps.cons ?_ (Reg.Steps.cons ?_ (Reg.Steps.cons ?_ (Reg.Steps.cons ?_ (Reg.Steps.cons ?_ (Reg.Steps.cons ?_ (Reg.Steps.cons ?_ (Reg.Steps.cons ?_ (Reg.Steps.cons ?_ (Reg.Steps.cons ?_ (Reg.Steps.nil _)))))))))))))))))))))))))))))))
            · intro val ac u hR hp ha K hK      -- 0: t19 := Op.load 33 t8
              have e8 : (ac.tmps[8]?).getD undef = .pointer (some ⟨wr.heap.size, 0, none⟩) := ha 8 (by decide)
              clear ha hp
              refine Reg.Op1.plain rfl ?_
              refine Mem.load_agg _ _ entry_agg wr.heap.size 0 (entCells e) (Reg.eval_of e8) (entCells_length _) (fun j u' hu => by rw [Nat.zero_add]; exact (hR.cell (p := ⟨wr.heap.size, j, none⟩) HE2.out.lt).trans (HE2.out.cell hu)) ?_
              exact ⟨rfl, hK _ _ rfl (fun j k _ _ => Reg.Adds.refl _ _ _)⟩
            · intro val ac u hR hp ha K hK      -- 1: t20 := Op.call { value (Operand.func 28), args := #[t19], argTypes := #[33] }
              obtain ⟨w19, h19, r19⟩ := hp 0 (by decide)
              have e19 : (ac.tmps[19]?).getD undef = .agg (entCells e).toArray := (ha 19 (by decide)).trans h19
              clear h19
              clear ha hp
              refine Reg.Op1.plain rfl ?_
              go_wp2_with fail
              refine (rightE_any e u).mono ?_
              rintro x w' ⟨rfl, hbw⟩
              rw [hre]
              go_wp2_with fail
              exact ⟨rfl, hK _ _ rfl (fun j k _ _ => hbw)⟩
            · intro val ac u hR hp ha K hK      -- 2: t21 := Op.unOp UnOp.not 4 t20
              obtain ⟨w20, h20, r20⟩ := hp 1 (by decide)
              have e20 : (ac.tmps[20]?).getD undef = .bool true := (ha 20 (by decide)).trans h20
              clear h20
              clear ha hp
              refine Reg.Op1.plain rfl ?_
              go_wp2
              exact ⟨rfl, hK _ _ rfl (fun j k _ _ => Reg.Adds.refl _ _ _)⟩
            · intro val ac u hR hp ha K hK      -- 3: t22 := Op.move t21
              obtain ⟨w21, h21, r21⟩ := hp 2 (by decide)
              have e21 : (ac.tmps[21]?).getD undef = .bool false := (ha 21 (by decide)).trans h21
              clear h21
              clear ha hp
              refine Reg.Op1.plain rfl ?_
              go_wp2
              exact ⟨rfl, hK _ _ rfl (fun j k _ _ => Reg.Adds.refl _ _ _)⟩
            · intro val ac u hR hp ha K hK      -- 4: t23 := Op.fieldAddr 33 t8 0
              have e8 : (ac.tmps[8]?).getD undef = .pointer (some ⟨wr.heap.size, 0, none⟩) := ha 8 (by decide)
              obtain ⟨w22, h22, r22⟩ := hp 3 (by decide)
              have e22 : (ac.tmps[22]?).getD undef = .bool false := (ha 22 (by decide)).trans h22
              clear h22
              clear ha hp
              refine Reg.Op1.guarded rfl rfl e22 (fun _ => Reg.Op1.plain rfl ?_) (fun h => absurd rfl h)
              go_wp2
              exact ⟨rfl, hK _ _ rfl (fun j k _ _ => Reg.Adds.refl _ _ _)⟩
            · intro val ac u hR hp ha K hK      -- 5: t24 := Op.fieldAddr 26 t23 1
              obtain ⟨w23, h23, r23⟩ := hp 4 (by decide)
              have e23 : (ac.tmps[23]?).getD undef = .pointer (some ⟨wr.heap.size, 0, none⟩) := (ha 23 (by decide)).trans h23
              clear h23
              obtain ⟨w22, h22, r22⟩ := hp 3 (by decide)
              have e22 : (ac.tmps[22]?).getD undef = .bool false := (ha 22 (by decide)).trans h22
              clear h22
              clear ha hp
              refine Reg.Op1.guarded rfl rfl e22 (fun _ => Reg.Op1.plain rfl ?_) (fun h => absurd rfl h)
              go_wp2
              exact ⟨rfl, hK _ _ rfl (fun j k _ _ => Reg.Adds.refl _ _ _)⟩
            · intro val ac u hR hp ha K hK      -- 6: t25 := Op.load 3 t24
              obtain ⟨w24, h24, r24⟩ := hp 5 (by decide)
              have e24 : (ac.tmps[24]?).getD undef = .pointer (some ⟨wr.heap.size, 1, none⟩) := (ha 24 (by decide)).trans h24
              clear h24
              obtain ⟨w22, h22, r22⟩ := hp 3 (by decide)
              have e22 : (ac.tmps[22]?).getD undef = .bool false := (ha 22 (by decide)).trans h22
              clear h22
              clear ha hp
              refine Reg.Op1.guarded rfl rfl e22 (fun _ => Reg.Op1.plain rfl ?_) (fun h => absurd rfl h)
              have x0 := (hR.cell (p := ⟨wr.heap.size, 1, none⟩) HE2.out.lt).trans (HE2.out.cell (j := 1) rfl)
              go_wp2
              exact ⟨rfl, hK _ _ rfl (fun j k _ _ => Reg.Adds.refl _ _ _)⟩
            · intro val ac u hR hp ha K hK      -- 7: t26 := Op.move t0
              have e0 : (ac.tmps[0]?).getD undef = .int .i64 rng := ha 0 (by decide)
              obtain ⟨w22, h22, r22⟩ := hp 3 (by decide)
              have e22 : (ac.tmps[22]?).getD undef = .bool false := (ha 22 (by decide)).trans h22
              clear h22
              clear ha hp
              refine Reg.Op1.guarded rfl rfl e22 (fun _ => Reg.Op1.plain rfl ?_) (fun h => absurd rfl h)
              go_wp2
              exact ⟨rfl, hK _ _ rfl (fun j k _ _ => Reg.Adds.refl _ _ _)⟩
            · intro val ac u hR hp ha K hK      -- 8: t27 := Op.binOp BinOp.neq 3 t25 t26 3
              obtain ⟨w25, h25, r25⟩ := hp 6 (by decide)
              have e25 : (ac.tmps[25]?).getD undef = .int .i64 e.rng := (ha 25 (by decide)).trans h25
              clear h25
              obtain ⟨w26, h26, r26⟩ := hp 7 (by decide)
              have e26 : (ac.tmps[26]?).getD undef = .int .i64 rng := (ha 26 (by decide)).trans h26
              clear h26
              obtain ⟨w22, h22, r22⟩ := hp 3 (by decide)
              have e22 : (ac.tmps[22]?).getD undef = .bool false := (ha 22 (by decide)).trans h22
              clear h22
              clear ha hp
              refine Reg.Op1.guarded rfl rfl e22 (fun _ => Reg.Op1.plain rfl ?_) (fun h => absurd rfl h)
              go_wp2
              exact ⟨rfl, hK _ _ rfl (fun j k _ _ => Reg.Adds.refl _ _ _)⟩
            · intro val ac u hR hp ha K hK      -- 9: t28 := Op.pick t22 (const (Value.bool true)) t27
              obtain ⟨w22, h22, r22⟩ := hp 3 (by decide)
              have e22 : (ac.tmps[22]?).getD undef = .bool false := (ha 22 (by decide)).trans h22
              clear h22
              obtain ⟨w27, h27, r27⟩ := hp 8 (by decide)
              have e27 : (ac.tmps[27]?).getD undef = .bool true := (ha 27 (by decide)).trans h27
              clear h27
              clear ha hp
              refine Reg.Op1.plain rfl ?_
              go_wp2
              exact ⟨rfl, hK _ _ rfl (fun j k _ _ => Reg.Adds.refl _ _ _)⟩
            · intro val ac u hR hp ha K hK      -- 10: t29 := Op.move t28
              obtain ⟨w28, h28, r28⟩ := hp 9 (by decide)
              have e28 : (ac.tmps[28]?).getD undef = .bool true := (ha 28 (by decide)).trans h28
              clear h28
              clear ha hp
              refine Reg.Op1.plain rfl ?_
              go_wp2
              exact ⟨rfl, hK _ _ rfl (fun j k _ _ => Reg.Adds.refl _ _ _)⟩
            · intro val ac u hR hp ha K hK      -- 11: t30 := Op.fieldAddr 33 t8 0
              obtain ⟨w29, h29, r29⟩ := hp 10 (by decide)
              have e29 : (ac.tmps[29]?).getD undef = .bool true := (ha 29 (by decide)).trans h29
              clear h29
              clear ha hp
              exact Reg.Op1.guarded rfl rfl e29 (fun h => by cases h) (fun _ => hK _ _ rfl (fun j k _ _ => Reg.Adds.refl _ _ _))
            · intro val ac u hR hp ha K hK      -- 12: t31 := Op.fieldAddr 26 t30 2
              obtain ⟨w29, h29, r29⟩ := hp 10 (by decide)
              have e29 : (ac.tmps[29]?).getD undef = .bool true := (ha 29 (by decide)).trans h29
              clear h29
              clear ha hp
              exact Reg.Op1.guarded rfl rfl e29 (fun h => by cases h) (fun _ => hK _ _ rfl (fun j k _ _ => Reg.Adds.refl _ _ _))
            · intro val ac u hR hp ha K hK      -- 13: t32 := Op.load 3 t31
              obtain ⟨w29, h29, r29⟩ := hp 10 (by decide)
              have e29 : (ac.tmps[29]?).getD undef = .bool true := (ha 29 (by decide)).trans h29
              clear h29
              clear ha hp
              exact Reg.Op1.guarded rfl rfl e29 (fun h => by cases h) (fun _ => hK _ _ rfl (fun j k _ _ => Reg.Adds.refl _ _ _))
            · intro val ac u hR hp ha K hK      -- 14: t33 := Op.fieldAddr 33 t8 0
              obtain ⟨w29, h29, r29⟩ := hp 10 (by decide)
              have e29 : (ac.tmps[29]?).getD undef = .bool true := (ha 29 (by decide)).trans h29
              clear h29
              clear ha hp
              exact Reg.Op1.guarded rfl rfl e29 (fun h => by cases h) (fun _ => hK _ _ rfl (fun j k _ _ => Reg.Adds.refl _ _ _))
            · intro val ac u hR hp ha K hK      -- 15: t34 := Op.fieldAddr 26 t33 0
              obtain ⟨w29, h29, r29⟩ := hp 10 (by decide)
              have e29 : (ac.tmps[29]?).getD undef = .bool true := (ha 29 (by decide)).trans h29
              clear h29
              clear ha hp
              exact Reg.Op1.guarded rfl rfl e29 (fun h => by cases h) (fun _ => hK _ _ rfl (fun j k _ _ => Reg.Adds.refl _ _ _))
            · intro val ac u hR hp ha K hK      -- 16: t35 := Op.load 3 t34
              obtain ⟨w29, h29, r29⟩ := hp 10 (by decide)
              have e29 : (ac.tmps[29]?).getD undef = .bool true := (ha 29 (by decide)).trans h29
              clear h29
              clear ha hp
              exact Reg.Op1.guarded rfl rfl e29 (fun h => by cases h) (fun _ => hK _ _ rfl (fun j k _ _ => Reg.Adds.refl _ _ _))
            · intro val ac u hR hp ha K hK      -- 17: t36 := Op.indexAddr 37 t6 t35
              obtain ⟨w29, h29, r29⟩ := hp 10 (by decide)
              have e29 : (ac.tmps[29]?).getD undef = .bool true := (ha 29 (by decide)).trans h29
              clear h29
              clear ha hp
              exact Reg.Op1.guarded rfl rfl e29 (fun h => by cases h) (fun _ => hK _ _ rfl (fun j k _ _ => Reg.Adds.refl _ _ _))
            · intro val ac u hR hp ha K hK      -- 18: t37 := Op.load 3 t36
              obtain ⟨w29, h29, r29⟩ := hp 10 (by decide)
              have e29 : (ac.tmps[29]?).getD undef = .bool true := (ha 29 (by decide)).trans h29
              clear h29
              clear ha hp
              exact Reg.Op1.guarded rfl rfl e29 (fun h => by cases h) (fun _ => hK _ _ rfl (fun j k _ _ => Reg.Adds.refl _ _ _))
            · intro val ac u hR hp ha K hK      -- 19: t38 := Op.binOp BinOp.add 3 t37 (const (1:i64)) 3
              obtain ⟨w29, h29, r29⟩ := hp 10 (by decide)
              have e29 : (ac.tmps[29]?).getD undef = .bool true := (ha 29 (by decide)).trans h29
              clear h29
              clear ha hp
              exact Reg.Op1.guarded rfl rfl e29 (fun h => by cases h) (fun _ => hK _ _ rfl (fun j k _ _ => Reg.Adds.refl _ _ _))
            · intro val ac u hR hp ha K hK      -- 20: t39 := Op.binOp BinOp.neq 3 t32 t38 3
              obtain ⟨w29, h29, r29⟩ := hp 10 (by decide)
              have e29 : (ac.tmps[29]?).getD undef = .bool true := (ha 29 (by decide)).trans h29
              clear h29
              clear ha hp
              exact Reg.Op1.guarded rfl rfl e29 (fun h => by cases h) (fun _ => hK _ _ rfl (fun j k _ _ => Reg.Adds.refl _ _ _))
            · intro val ac u hR hp ha K hK      -- 21: t40 := Op.pick t29 (const (Value.bool true)) t39
              obtain ⟨w29, h29, r29⟩ := hp 10 (by decide)
              have e29 : (ac.tmps[29]?).getD undef = .bool true := (ha 29 (by decide)).trans h29
              clear h29
              obtain ⟨w39, h39, r39⟩ := hp 20 (by decide)
              have e39 : (ac.tmps[39]?).getD undef = undef := (ha 39 (by decide)).trans h39
              clear h39
              clear ha hp
              refine Reg.Op1.plain rfl ?_
              go_wp2
              exact ⟨rfl, hK _ _ rfl (fun j k _ _ => Reg.Adds.refl _ _ _)⟩
            · intro val ac u hR hp ha K hK      -- 22: t41 := Op.move t40
              obtain ⟨w40, h40, r40⟩ := hp 21 (by decide)
              have e40 : (ac.tmps[40]?).getD undef = .bool true := (ha 40 (by decide)).trans h40
              clear h40
              clear ha hp
              refine Reg.Op1.plain rfl ?_
              go_wp2
              exact ⟨rfl, hK _ _ rfl (fun j k _ _ => Reg.Adds.refl _ _ _)⟩
            · intro val ac u hR hp ha K hK      -- 23: t42 := Op.load 37 t6
              obtain ⟨w41, h41, r41⟩ := hp 22 (by decide)
              have e41 : (ac.tmps[41]?).getD undef = .bool true := (ha 41 (by decide)).trans h41
              clear h41
              clear ha hp
              exact Reg.Op1.guarded rfl rfl e41 (fun h => by cases h) (fun _ => hK _ _ rfl (fun j k _ _ => Reg.Adds.refl _ _ _))
            · intro val ac u hR hp ha K hK      -- 24: t43 := Op.fieldAddr 33 t8 5
              obtain ⟨w41, h41, r41⟩ := hp 22 (by decide)
              have e41 : (ac.tmps[41]?).getD undef = .bool true := (ha 41 (by decide)).trans h41
              clear h41
              clear ha hp
              exact Reg.Op1.guarded rfl rfl e41 (fun h => by cases h) (fun _ => hK _ _ rfl (fun j k _ _ => Reg.Adds.refl _ _ _))
            · intro val ac u hR hp ha K hK      -- 25: t44 := Op.load 31 t43
              obtain ⟨w41, h41, r41⟩ := hp 22 (by decide)
              have e41 : (ac.tmps[41]?).getD undef = .bool true := (ha 41 (by decide)).trans h41
              clear h41
              clear ha hp
              exact Reg.Op1.guarded rfl rfl e41 (fun h => by cases h) (fun _ => hK _ _ rfl (fun j k _ _ => Reg.Adds.refl _ _ _))
            · intro val ac u hR hp ha K hK      -- 26: t45 := Op.move t0
              obtain ⟨w41, h41, r41⟩ := hp 22 (by decide)
              have e41 : (ac.tmps[41]?).getD undef = .bool true := (ha 41 (by decide)).trans h41
              clear h41
              clear ha hp
              exact Reg.Op1.guarded rfl rfl e41 (fun h => by cases h) (fun _ => hK _ _ rfl (fun j k _ _ => Reg.Adds.refl _ _ _))
            · intro val ac u hR hp ha K hK      -- 27: t46 := Op.call { value (Operand.func 13), args := #[t44, t45], argTypes := #[31, 3] }
              obtain ⟨w41, h41, r41⟩ := hp 22 (by decide)
              have e41 : (ac.tmps[41]?).getD undef = .bool true := (ha 41 (by decide)).trans h41
              clear h41
              clear ha hp
              exact Reg.Op1.guarded rfl rfl e41 (fun h => by cases h) (fun _ => hK _ _ rfl (fun j k _ _ => Reg.Adds.refl _ _ _))
            · intro val ac u hR hp ha K hK      -- 28: t47 := Op.call { value (Operand.func 14), args := #[t42, t46], argTypes := #[37, 37] }
              obtain ⟨w41, h41, r41⟩ := hp 22 (by decide)
              have e41 : (ac.tmps[41]?).getD undef = .bool true := (ha 41 (by decide)).trans h41
              clear h41
              clear ha hp
              exact Reg.Op1.guarded rfl rfl e41 (fun h => by cases h) (fun _ => hK _ _ rfl (fun j k _ _ => Reg.Adds.refl _ _ _))
            · intro val ac u hR hp ha K hK      -- 29: t48 := Op.unOp UnOp.not 4 t47
              obtain ⟨w41, h41, r41⟩ := hp 22 (by decide)
              have e41 : (ac.tmps[41]?).getD undef = .bool true := (ha 41 (by decide)).trans h41
              clear h41
              clear ha hp
              exact Reg.Op1.guarded rfl rfl e41 (fun h => by cases h) (fun _ => hK _ _ rfl (fun j k _ _ => Reg.Adds.refl _ _ _))
            · intro val ac u hR hp ha K hK      -- 30: t49 := Op.pick t41 (const (Value.bool true)) t48
              obtain ⟨w41, h41, r41⟩ := hp 22 (by decide)
              have e41 : (ac.tmps[41]?).getD undef = .bool true := (ha 41 (by decide)).trans h41
              clear h41
              obtain ⟨w48, h48, r48⟩ := hp 29 (by decide)
              have e48 : (ac.tmps[48]?).getD undef = undef := (ha 48 (by decide)).trans h48
              clear h48
              clear ha hp
              refine Reg.Op1.plain rfl ?_
              go_wp2
              exact ⟨rfl, hK _ _ rfl (fun j k _ _ => Reg.Adds.refl _ _ _)⟩
          · intro val u hR H
            obtain ⟨_, hv, _⟩ := H 30 (by decide)
            have hv : val 30 = .bool true := hv
            have HRU : Hid (Below w2.heap.size w2 u) := (Below.refl _ w2).drew.trans hR
            simp only [List.map_cons, List.map_nil, Reg.lay, Act.put, List.setIfInBounds_toArray, List.set_cons_succ, List.set_cons_zero, Nat.reduceAdd, hv]
            clear hR H hv
            have HBU : Hid (Below w.heap.size w u) := HB'.out.trans (HRU.out.mono HB'.out.size)
            have HOU : Hid (Mem.Own u 33 20 A2 k c2 ((es.take k).flatMap entCells)) := HO2.out.keeps (Mem.Keeps.of_below HRU.out) (fun _ _ h => h)
            go_wp2
            go_ret
            exact ⟨k, A2, c2, hk, rfl, HOU.out, HNB.out, HRT.out, HBU.out⟩
    · obtain rfl : k = es.length := by omega
      go_wp2
      go_ret
      exact ⟨es.length, A2, c2, by omega, rfl, HO.out, HNB.out, HRT.out, HB.out⟩
end Go.Proofs.Ytiibgkgbghganaa
