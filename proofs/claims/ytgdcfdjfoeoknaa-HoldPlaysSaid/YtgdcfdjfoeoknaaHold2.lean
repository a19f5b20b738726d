/- The walk of a hold's Put. No conditions but that what is handed in lies apart from the hold. -/
import Derived.Test.YtgdcfdjfoeoknaaHold1
namespace Go.Proofs.Ytgdcfdjfoeoknaa
open Go.ChangeShapes Go.WideShapes Go.ChangeAt Go.RowKit
set_option linter.unusedVariables false
set_option linter.unusedSimpArgs false

namespace Vec
def thereE (es : List Ent) (e : Ent) : Bool := es.any fun x => eqDot x e
def okPut (rng : Int) (es : List Ent) (e : Ent) : Bool := rightE e && (e.rng == rng && (!thereE es e && decide (es.length < 16)))
def putStep (rng : Int) (p : List Ent × Nat) (e : Ent) : List Ent × Nat := if okPut rng p.1 e = true then (p.1 ++ [e], p.2 + 1) else p
def putL (rng : Int) (es news : List Ent) : List Ent × Nat := news.foldl (putStep rng) (es, 0)
theorem putL_snoc (rng : Int) (es news : List Ent) (e : Ent) : putL rng es (news ++ [e]) = putStep rng (putL rng es news) e := by unfold putL; rw [List.foldl_append]; rfl
structure PutRel (t : TypeId) (w : World) (g : Nat) (A0 : Option Addr) (rng : Int) (es0 news : List Ent) (v5 v11 : Value) (wr : World) : Prop where
  out : ∃ (k : Nat) (A : Option Addr) (c : Nat) (es : List Ent) (n : Nat), k ≤ news.length ∧ n ≤ k ∧ Hid (putL rng es0 (news.take k) = (es, n)) ∧ v5 = .int .i64 n ∧ v11 = .int .i64 k ∧ Hid (HAt t wr g A c rng es) ∧ Hid (Mem.Keeps (HB g A0) w wr) ∧ Hid (∀ q, Mem.blk A = some q → Mem.blk A0 = some q ∨ w.heap.size ≤ q)
def PutEnd (t : TypeId) (w : World) (g : Nat) (A0 : Option Addr) (rng : Int) (es0 news : List Ent) (x : Ending) (w' : World) : Prop :=
  ∃ A c, x = .returned (.int .i64 ((putL rng es0 news).2 : Nat)) ∧ HAt t w' g A c rng (putL rng es0 news).1 ∧ Mem.Keeps (HB g A0) w w' ∧ (∀ q, Mem.blk A = some q → Mem.blk A0 = some q ∨ w.heap.size ≤ q)
end Vec
open Vec in
set_option maxRecDepth 20000 in
set_option maxHeartbeats 8000000 in
theorem put_any (rng : Int) (g : Nat) (A0 : Option Addr) (c0 : Nat) (es0 : List Vec.Ent) (An : Option Addr) (cn : Nat) (news : List Vec.Ent) (w : World) (hA : Vec.HAt 61 w g A0 c0 rng es0) (hN : Vec.EOwn w An cn news) (hne : ∀ q, Mem.blk An = some q → ¬ Vec.HB g A0 q) :
    Calls Try.prog 10 #[.pointer (some ⟨g, 0, none⟩), .slice An news.length cn] w (Vec.PutEnd 61 w g A0 rng es0 news) := by
  have hn : news.length ≤ maxLen := Nat.le_trans hN.le hN.cap
  unfold maxLen at hn
  have HA0 := Lib.hid hA
  have HN := Lib.hid hN
  have HNE := Lib.hid hne
  clear hA hN hne
  have hmf : ∀ (fn : Fn) (first cap : Array Value) (w : World), (Instr.makeFunc fn first cap).run Try.prog w = .ok (.func fn first cap) w := fun _ _ _ _ => rfl
  go_enter Try.func10, Try.ntmps10
  go_wp2
  go_loopw [5, 11] (PutRel 61 w g A0 rng es0 news) (fun _ t _ => news.length - (intOf t).toNat)
  case atStart => exact ⟨⟨0, A0, c0, es0, 0, by omega, by omega, rfl, rfl, rfl, HA0, Mem.Keeps.refl _ _, fun q h => .inl h⟩⟩
  case round =>
    obtain ⟨k, A, c, es, n, hk, hnk, HP, rfl, rfl, HA, HK, HQ⟩ := hrel.out
    have hz := HK.out.size
    by_cases hlt : k < news.length
    · obtain ⟨b, o, e, rfl, hb, he, hat⟩ := ent_elem (HN.out.keeps HK.out HNE.out).rd hlt
      have HAT := Lib.hid hat
      have HTS := Lib.hid (show putL rng es0 (news.take (k + 1)) = putStep rng (es, n) e by rw [Mem.take_snoc he, putL_snoc, HP.out])
      have hel : es.length ≤ maxLen := Nat.le_trans HA.out.O.le HA.out.O.cap
      clear hat he
      go_upto_region 5 with (first | ((with_reducible refine Mem.load_agg _ _ entry_agg b (o + k * 20) (entCells e) ?hx (entCells_length e) HAT.out.c ?_); case hx => exact rfl) | ((with_reducible refine Mem.store_agg _ _ entry_agg wr.heap.size (entCells ent0) (entCells e) ?hxa ?hya ?hba (entCells_length e) (ent_one e) ?_); ((case hxa => exact rfl); (case hya => exact rfl); (case hba => exact Mem.Bx.new wr _ (entCells ent0).toArray rfl rfl); intro w2 hb2 hk2 hs2)))
      have HE2 : Hid (EBx w2 wr.heap.size e) := hb2
      have HB2 : Hid (Below wr.heap.size wr w2) := (hk2.newBox rfl).belowAll
      have HA2 := Lib.hid (HA.out.below HB2.out)
      have HC := Lib.hid (contains_any 25 #[.pointer (some ⟨wr.heap.size, 0, none⟩)] _ (enters_of Try.func25 (by kernel_rfl) rfl) A c es w2.heap.size w2 (same_tells w2 wr.heap.size e HE2.out) HA2.out.O.rd (Nat.le_refl _) hel)
      have x1 := HA2.out.B.cell (j := 1) rfl
      clear hb2 hk2 hs2 HAT hel
      go_upto_region 6 with (go_at_call 24; refine HC.out.mono ?_; rintro x w5 ⟨rfl, hb5⟩)
      have HB5 : Hid (Below wr.heap.size wr w5) := HB2.out.trans (hb5.mono HB2.out.size)
      have HE5 : Hid (EBx w5 wr.heap.size e) := HE2.out.below hb5 HE2.out.lt
      have HA5 := Lib.hid (HA2.out.below hb5)
      obtain ⟨th, hth⟩ : ∃ th, es.any (fun x => eqDot x e) = th := ⟨_, rfl⟩
      have hth2 : thereE es e = th := hth
      rw [hth]
      clear hth x1 HC HB2 HA2 HE2 HA hb5
      go_cut [44] (fun v wx => v = .bool (okPut rng es e) ∧ Below w5.heap.size w5 wx)
      case first =>
        cases hr1 : rightE e
        · have hok : okPut rng es e = false := by unfold okPut; rw [hr1]; rfl
          refine Reg.wp_region_rel (by kernel_rfl) 59 24 rfl rfl (by kernel_rfl) (Reg.Adds) (Reg.Adds.refl) (Reg.Adds.trans)
            (fun i v u => match i with
              | 0 => v = .agg (entCells e).toArray
              | 1 => v = .bool false
              | 2 => v = .bool false
              | 3 => v = undef
              | 4 => v = undef
              | 5 => v = undef
              | 6 => v = undef
              | 7 => v = undef
              | 8 => v = undef
              | 9 => v = undef
              | 10 => v = undef
              | 11 => v = .bool false
              | 12 => v = .bool false
              | 13 => v = undef
              | 14 => v = undef
              | 15 => v = .bool false
              | 16 => v = .bool false
              | 17 => v = undef
              | 18 => v = undef
              | 19 => v = undef
              | 20 => v = undef
              | 21 => v = undef
              | 22 => v = undef
              | 23 => v = .bool false
              | _ => True) ?_ ?_
          · refine Reg.Steps.cons ?_ (Reg.Steps.cons ?_ (Reg.Steps.cons ?_ (Reg.Steps.cons ?_ (Reg.Steps.cons ?_ (Reg.Steps.cons ?_ (Reg.Steps.cons ?_ (Reg.Steps.cons ?_ (Reg.Steps.cons ?_ (Reg.Steps.cons ?_ (Reg.Steps.cons ?_ (Reg.Steps.cons ?_ (Reg.Steps.cons ?_ (Reg.Steps.cons ?_ (Reg.Steps.cons ?_ (Reg.Steps.cons ?_ (Reg.Steps.cons ?_ (Reg.Steps.cons ?_ (Reg.Steps.cons ?_ (Reg.Steps.cons ?_ (Reg.Steps.cons ?_ (Reg.Steps.cons ?_ (Reg.Steps.cons ?_ (Reg.Steps.cons ?_ (Reg.Steps.nil _))))))))))))))))))))))))
            · intro val ac u hR hp ha K hK      -- 0: t21 := Op.load 33 t7
              have e7 : (ac.tmps[7]?).getD undef = .pointer (some ⟨wr.heap.size, 0, none⟩) := ha 7 (by decide)
              clear ha hp
              refine Reg.Op1.plain rfl ?_
              have hEu : EBx u wr.heap.size e := Mem.Bx.below (w := w5.drew) HE5.out hR HE5.out.lt
              refine Mem.load_agg _ _ entry_agg wr.heap.size 0 (entCells e) (Reg.eval_of e7) (entCells_length _) (fun j u' hu => by rw [Nat.zero_add]; exact hEu.cell hu) ?_
              exact ⟨rfl, hK _ _ rfl (fun j k _ _ => Reg.Adds.refl _ _ _)⟩
            · intro val ac u hR hp ha K hK      -- 1: t22 := Op.call { value (Operand.func 16), args := #[t21], argTypes := #[33] }
              obtain ⟨w21, h21, r21⟩ := hp 0 (by decide)
              have e21 : (ac.tmps[21]?).getD undef = .agg (entCells e).toArray := (ha 21 (by decide)).trans h21
              clear h21
              clear ha hp
              refine Reg.Op1.plain rfl ?_
              go_wp2_with fail
              refine (rightE_any e u).mono ?_
              rintro x w' ⟨rfl, hbw⟩
              rw [hr1]
              go_wp2_with fail
              exact ⟨rfl, hK _ _ rfl (fun j k _ _ => hbw)⟩
            · intro val ac u hR hp ha K hK      -- 2: t23 := Op.move t22
              obtain ⟨w22, h22, r22⟩ := hp 1 (by decide)
              have e22 : (ac.tmps[22]?).getD undef = .bool false := (ha 22 (by decide)).trans h22
              clear h22
              clear ha hp
              refine Reg.Op1.plain rfl ?_
              go_wp2
              exact ⟨rfl, hK _ _ rfl (fun j k _ _ => Reg.Adds.refl _ _ _)⟩
            · intro val ac u hR hp ha K hK      -- 3: t24 := Op.fieldAddr 33 t7 0
              obtain ⟨w23, h23, r23⟩ := hp 2 (by decide)
              have e23 : (ac.tmps[23]?).getD undef = .bool false := (ha 23 (by decide)).trans h23
              clear h23
              clear ha hp
              exact Reg.Op1.guarded rfl rfl e23 (fun h => by cases h) (fun _ => hK _ _ rfl (fun j k _ _ => Reg.Adds.refl _ _ _))
            · intro val ac u hR hp ha K hK      -- 4: t25 := Op.fieldAddr 29 t24 1
              obtain ⟨w23, h23, r23⟩ := hp 2 (by decide)
              have e23 : (ac.tmps[23]?).getD undef = .bool false := (ha 23 (by decide)).trans h23
              clear h23
              clear ha hp
              exact Reg.Op1.guarded rfl rfl e23 (fun h => by cases h) (fun _ => hK _ _ rfl (fun j k _ _ => Reg.Adds.refl _ _ _))
            · intro val ac u hR hp ha K hK      -- 5: t26 := Op.load 3 t25
              obtain ⟨w23, h23, r23⟩ := hp 2 (by decide)
              have e23 : (ac.tmps[23]?).getD undef = .bool false := (ha 23 (by decide)).trans h23
              clear h23
              clear ha hp
              exact Reg.Op1.guarded rfl rfl e23 (fun h => by cases h) (fun _ => hK _ _ rfl (fun j k _ _ => Reg.Adds.refl _ _ _))
            · intro val ac u hR hp ha K hK      -- 6: t27 := Op.move t0
              obtain ⟨w23, h23, r23⟩ := hp 2 (by decide)
              have e23 : (ac.tmps[23]?).getD undef = .bool false := (ha 23 (by decide)).trans h23
              clear h23
              clear ha hp
              exact Reg.Op1.guarded rfl rfl e23 (fun h => by cases h) (fun _ => hK _ _ rfl (fun j k _ _ => Reg.Adds.refl _ _ _))
            · intro val ac u hR hp ha K hK      -- 7: t28 := Op.nilCheck t27
              obtain ⟨w23, h23, r23⟩ := hp 2 (by decide)
              have e23 : (ac.tmps[23]?).getD undef = .bool false := (ha 23 (by decide)).trans h23
              clear h23
              clear ha hp
              exact Reg.Op1.guarded rfl rfl e23 (fun h => by cases h) (fun _ => hK _ _ rfl (fun j k _ _ => Reg.Adds.refl _ _ _))
            · intro val ac u hR hp ha K hK      -- 8: t29 := Op.fieldAddr 61 t28 0
              obtain ⟨w23, h23, r23⟩ := hp 2 (by decide)
              have e23 : (ac.tmps[23]?).getD undef = .bool false := (ha 23 (by decide)).trans h23
              clear h23
              clear ha hp
              exact Reg.Op1.guarded rfl rfl e23 (fun h => by cases h) (fun _ => hK _ _ rfl (fun j k _ _ => Reg.Adds.refl _ _ _))
            · intro val ac u hR hp ha K hK      -- 9: t30 := Op.load 3 t29
              obtain ⟨w23, h23, r23⟩ := hp 2 (by decide)
              have e23 : (ac.tmps[23]?).getD undef = .bool false := (ha 23 (by decide)).trans h23
              clear h23
              clear ha hp
              exact Reg.Op1.guarded rfl rfl e23 (fun h => by cases h) (fun _ => hK _ _ rfl (fun j k _ _ => Reg.Adds.refl _ _ _))
            · intro val ac u hR hp ha K hK      -- 10: t31 := Op.binOp BinOp.eql 3 t26 t30 3
              obtain ⟨w23, h23, r23⟩ := hp 2 (by decide)
              have e23 : (ac.tmps[23]?).getD undef = .bool false := (ha 23 (by decide)).trans h23
              clear h23
              clear ha hp
              exact Reg.Op1.guarded rfl rfl e23 (fun h => by cases h) (fun _ => hK _ _ rfl (fun j k _ _ => Reg.Adds.refl _ _ _))
            · intro val ac u hR hp ha K hK      -- 11: t32 := Op.pick t23 t31 (const (Value.bool false))
              obtain ⟨w23, h23, r23⟩ := hp 2 (by decide)
              have e23 : (ac.tmps[23]?).getD undef = .bool false := (ha 23 (by decide)).trans h23
              clear h23
              obtain ⟨w31, h31, r31⟩ := hp 10 (by decide)
              have e31 : (ac.tmps[31]?).getD undef = undef := (ha 31 (by decide)).trans h31
              clear h31
              clear ha hp
              refine Reg.Op1.plain rfl ?_
              go_wp2
              exact ⟨rfl, hK _ _ rfl (fun j k _ _ => Reg.Adds.refl _ _ _)⟩
            · intro val ac u hR hp ha K hK      -- 12: t33 := Op.move t32
              obtain ⟨w32, h32, r32⟩ := hp 11 (by decide)
              have e32 : (ac.tmps[32]?).getD undef = .bool false := (ha 32 (by decide)).trans h32
              clear h32
              clear ha hp
              refine Reg.Op1.plain rfl ?_
              go_wp2
              exact ⟨rfl, hK _ _ rfl (fun j k _ _ => Reg.Adds.refl _ _ _)⟩
            · intro val ac u hR hp ha K hK      -- 13: t34 := Op.move t8
              obtain ⟨w33, h33, r33⟩ := hp 12 (by decide)
              have e33 : (ac.tmps[33]?).getD undef = .bool false := (ha 33 (by decide)).trans h33
              clear h33
              clear ha hp
              exact Reg.Op1.guarded rfl rfl e33 (fun h => by cases h) (fun _ => hK _ _ rfl (fun j k _ _ => Reg.Adds.refl _ _ _))
            · intro val ac u hR hp ha K hK      -- 14: t35 := Op.unOp UnOp.not 4 t34
              obtain ⟨w33, h33, r33⟩ := hp 12 (by decide)
              have e33 : (ac.tmps[33]?).getD undef = .bool false := (ha 33 (by decide)).trans h33
              clear h33
              clear ha hp
              exact Reg.Op1.guarded rfl rfl e33 (fun h => by cases h) (fun _ => hK _ _ rfl (fun j k _ _ => Reg.Adds.refl _ _ _))
            · intro val ac u hR hp ha K hK      -- 15: t36 := Op.pick t33 t35 (const (Value.bool false))
              obtain ⟨w33, h33, r33⟩ := hp 12 (by decide)
              have e33 : (ac.tmps[33]?).getD undef = .bool false := (ha 33 (by decide)).trans h33
              clear h33
              obtain ⟨w35, h35, r35⟩ := hp 14 (by decide)
              have e35 : (ac.tmps[35]?).getD undef = undef := (ha 35 (by decide)).trans h35
              clear h35
              clear ha hp
              refine Reg.Op1.plain rfl ?_
              go_wp2
              exact ⟨rfl, hK _ _ rfl (fun j k _ _ => Reg.Adds.refl _ _ _)⟩
            · intro val ac u hR hp ha K hK      -- 16: t37 := Op.move t36
              obtain ⟨w36, h36, r36⟩ := hp 15 (by decide)
              have e36 : (ac.tmps[36]?).getD undef = .bool false := (ha 36 (by decide)).trans h36
              clear h36
              clear ha hp
              refine Reg.Op1.plain rfl ?_
              go_wp2
              exact ⟨rfl, hK _ _ rfl (fun j k _ _ => Reg.Adds.refl _ _ _)⟩
            · intro val ac u hR hp ha K hK      -- 17: t38 := Op.move t0
              obtain ⟨w37, h37, r37⟩ := hp 16 (by decide)
              have e37 : (ac.tmps[37]?).getD undef = .bool false := (ha 37 (by decide)).trans h37
              clear h37
              clear ha hp
              exact Reg.Op1.guarded rfl rfl e37 (fun h => by cases h) (fun _ => hK _ _ rfl (fun j k _ _ => Reg.Adds.refl _ _ _))
            · intro val ac u hR hp ha K hK      -- 18: t39 := Op.nilCheck t38
              obtain ⟨w37, h37, r37⟩ := hp 16 (by decide)
              have e37 : (ac.tmps[37]?).getD undef = .bool false := (ha 37 (by decide)).trans h37
              clear h37
              clear ha hp
              exact Reg.Op1.guarded rfl rfl e37 (fun h => by cases h) (fun _ => hK _ _ rfl (fun j k _ _ => Reg.Adds.refl _ _ _))
            · intro val ac u hR hp ha K hK      -- 19: t40 := Op.fieldAddr 61 t39 1
              obtain ⟨w37, h37, r37⟩ := hp 16 (by decide)
              have e37 : (ac.tmps[37]?).getD undef = .bool false := (ha 37 (by decide)).trans h37
              clear h37
              clear ha hp
              exact Reg.Op1.guarded rfl rfl e37 (fun h => by cases h) (fun _ => hK _ _ rfl (fun j k _ _ => Reg.Adds.refl _ _ _))
            · intro val ac u hR hp ha K hK      -- 20: t41 := Op.load 24 t40
              obtain ⟨w37, h37, r37⟩ := hp 16 (by decide)
              have e37 : (ac.tmps[37]?).getD undef = .bool false := (ha 37 (by decide)).trans h37
              clear h37
              clear ha hp
              exact Reg.Op1.guarded rfl rfl e37 (fun h => by cases h) (fun _ => hK _ _ rfl (fun j k _ _ => Reg.Adds.refl _ _ _))
            · intro val ac u hR hp ha K hK      -- 21: t42 := Op.call { builtin len, args := #[t41], argTypes := #[24] }
              obtain ⟨w37, h37, r37⟩ := hp 16 (by decide)
              have e37 : (ac.tmps[37]?).getD undef = .bool false := (ha 37 (by decide)).trans h37
              clear h37
              clear ha hp
              exact Reg.Op1.guarded rfl rfl e37 (fun h => by cases h) (fun _ => hK _ _ rfl (fun j k _ _ => Reg.Adds.refl _ _ _))
            · intro val ac u hR hp ha K hK      -- 22: t43 := Op.binOp BinOp.lss 3 t42 (const (16:i64)) 3
              obtain ⟨w37, h37, r37⟩ := hp 16 (by decide)
              have e37 : (ac.tmps[37]?).getD undef = .bool false := (ha 37 (by decide)).trans h37
              clear h37
              clear ha hp
              exact Reg.Op1.guarded rfl rfl e37 (fun h => by cases h) (fun _ => hK _ _ rfl (fun j k _ _ => Reg.Adds.refl _ _ _))
            · intro val ac u hR hp ha K hK      -- 23: t44 := Op.pick t37 t43 (const (Value.bool false))
              obtain ⟨w37, h37, r37⟩ := hp 16 (by decide)
              have e37 : (ac.tmps[37]?).getD undef = .bool false := (ha 37 (by decide)).trans h37
              clear h37
              obtain ⟨w43, h43, r43⟩ := hp 22 (by decide)
              have e43 : (ac.tmps[43]?).getD undef = undef := (ha 43 (by decide)).trans h43
              clear h43
              clear ha hp
              refine Reg.Op1.plain rfl ?_
              go_wp2
              exact ⟨rfl, hK _ _ rfl (fun j k _ _ => Reg.Adds.refl _ _ _)⟩
          · intro val u hR H
            obtain ⟨_, hv, _⟩ := H 23 (by decide)
            have hv : val 23 = .bool false := hv
            have HK6 : Hid (Below w5.heap.size w5 u) := (Below.refl _ w5).drew.trans hR
            simp only [List.map_cons, List.map_nil, Reg.lay, Act.put, List.setIfInBounds_toArray, List.set_cons_succ, List.set_cons_zero, Nat.reduceAdd, hv]
            clear hR H hv
            go_wp2
            go_meet
            case rel => exact ⟨by rw [hok], HK6.out⟩
        · by_cases hr2 : e.rng = rng
          · have d2 : (e.rng == rng) = true := by simp [hr2]
            have HR2 := Lib.hid hr2
            clear hr2
            cases th
            · by_cases hr5 : es.length < 16
              · have d5 : decide ((es.length : Int) < 16) = true := by simp; omega
                have hok : okPut rng es e = true := by unfold okPut; rw [hr1, d2, hth2]; simp [hr5]
                refine Reg.wp_region_rel (by kernel_rfl) 59 24 rfl rfl (by kernel_rfl) (Reg.Adds) (Reg.Adds.refl) (Reg.Adds.trans)
                  (fun i v u => match i with
                    | 0 => v = .agg (entCells e).toArray
                    | 1 => v = .bool true
                    | 2 => v = .bool true
                    | 3 => v = .pointer (some ⟨wr.heap.size, 0, none⟩)
                    | 4 => v = .pointer (some ⟨wr.heap.size, 1, none⟩)
                    | 5 => v = .int .i64 e.rng
                    | 6 => v = .pointer (some ⟨g, 0, none⟩)
                    | 7 => v = .pointer (some ⟨g, 0, none⟩)
                    | 8 => v = .pointer (some ⟨g, 0, none⟩)
                    | 9 => v = .int .i64 rng
                    | 10 => v = .bool true
                    | 11 => v = .bool true
                    | 12 => v = .bool true
                    | 13 => v = .bool false
                    | 14 => v = .bool true
                    | 15 => v = .bool true
                    | 16 => v = .bool true
                    | 17 => v = .pointer (some ⟨g, 0, none⟩)
                    | 18 => v = .pointer (some ⟨g, 0, none⟩)
                    | 19 => v = .pointer (some ⟨g, 1, none⟩)
                    | 20 => v = .slice A es.length c
                    | 21 => v = .int .i64 ((es.length : Nat) : Int)
                    | 22 => v = .bool true
                    | 23 => v = .bool true
                    | _ => True) ?_ ?_
                · refine Reg.Steps.cons ?_ (Reg.Steps.cons ?_ (Reg.Steps.cons ?_ (Reg.Steps.cons ?_ (Reg.Steps.cons ?_ (Reg.Steps.cons ?_ (Reg.Steps.cons ?_ (Reg.Steps.cons ?_ (Reg.Steps.cons ?_ (Reg.Steps.cons ?_ (Reg.Steps.cons ?_ (Reg.Steps.cons ?_ (Reg.Steps.cons ?_ (Reg.Steps.cons ?_ (Reg.Steps.cons ?_ (Reg.Steps.cons ?_ (Reg.Steps.cons ?_ (Reg.Steps.cons ?_ (Reg.Steps.cons ?_ (Reg.Steps.cons ?_ (Reg.Steps.cons ?_ (Reg.Steps.cons ?_ (Reg.Steps.cons ?_ (Reg.Steps.cons ?_ (Reg.Steps.nil _))))))))))))))))))))))))
                  · intro val ac u hR hp ha K hK      -- 0: t21 := Op.load 33 t7
                    have e7 : (ac.tmps[7]?).getD undef = .pointer (some ⟨wr.heap.size, 0, none⟩) := ha 7 (by decide)
                    clear ha hp
                    refine Reg.Op1.plain rfl ?_
                    have hEu : EBx u wr.heap.size e := Mem.Bx.below (w := w5.drew) HE5.out hR HE5.out.lt
                    refine Mem.load_agg _ _ entry_agg wr.heap.size 0 (entCells e) (Reg.eval_of e7) (entCells_length _) (fun j u' hu => by rw [Nat.zero_add]; exact hEu.cell hu) ?_
                    exact ⟨rfl, hK _ _ rfl (fun j k _ _ => Reg.Adds.refl _ _ _)⟩
                  · intro val ac u hR hp ha K hK      -- 1: t22 := Op.call { value (Operand.func 16), args := #[t21], argTypes := #[33] }
                    obtain ⟨w21, h21, r21⟩ := hp 0 (by decide)
                    have e21 : (ac.tmps[21]?).getD undef = .agg (entCells e).toArray := (ha 21 (by decide)).trans h21
                    clear h21
                    clear ha hp
                    refine Reg.Op1.plain rfl ?_
                    go_wp2_with fail
                    refine (rightE_any e u).mono ?_
                    rintro x w' ⟨rfl, hbw⟩
                    rw [hr1]
                    go_wp2_with fail
                    exact ⟨rfl, hK _ _ rfl (fun j k _ _ => hbw)⟩
                  · intro val ac u hR hp ha K hK      -- 2: t23 := Op.move t22
                    obtain ⟨w22, h22, r22⟩ := hp 1 (by decide)
                    have e22 : (ac.tmps[22]?).getD undef = .bool true := (ha 22 (by decide)).trans h22
                    clear h22
                    clear ha hp
                    refine Reg.Op1.plain rfl ?_
                    go_wp2
                    exact ⟨rfl, hK _ _ rfl (fun j k _ _ => Reg.Adds.refl _ _ _)⟩
                  · intro val ac u hR hp ha K hK      -- 3: t24 := Op.fieldAddr 33 t7 0
                    have e7 : (ac.tmps[7]?).getD undef = .pointer (some ⟨wr.heap.size, 0, none⟩) := ha 7 (by decide)
                    obtain ⟨w23, h23, r23⟩ := hp 2 (by decide)
                    have e23 : (ac.tmps[23]?).getD undef = .bool true := (ha 23 (by decide)).trans h23
                    clear h23
                    clear ha hp
                    refine Reg.Op1.guarded rfl rfl e23 (fun _ => Reg.Op1.plain rfl ?_) (fun h => absurd rfl h)
                    go_wp2
                    exact ⟨rfl, hK _ _ rfl (fun j k _ _ => Reg.Adds.refl _ _ _)⟩
                  · intro val ac u hR hp ha K hK      -- 4: t25 := Op.fieldAddr 29 t24 1
                    obtain ⟨w24, h24, r24⟩ := hp 3 (by decide)
                    have e24 : (ac.tmps[24]?).getD undef = .pointer (some ⟨wr.heap.size, 0, none⟩) := (ha 24 (by decide)).trans h24
                    clear h24
                    obtain ⟨w23, h23, r23⟩ := hp 2 (by decide)
                    have e23 : (ac.tmps[23]?).getD undef = .bool true := (ha 23 (by decide)).trans h23
                    clear h23
                    clear ha hp
                    refine Reg.Op1.guarded rfl rfl e23 (fun _ => Reg.Op1.plain rfl ?_) (fun h => absurd rfl h)
                    go_wp2
                    exact ⟨rfl, hK _ _ rfl (fun j k _ _ => Reg.Adds.refl _ _ _)⟩
                  · intro val ac u hR hp ha K hK      -- 5: t26 := Op.load 3 t25
                    obtain ⟨w25, h25, r25⟩ := hp 4 (by decide)
                    have e25 : (ac.tmps[25]?).getD undef = .pointer (some ⟨wr.heap.size, 1, none⟩) := (ha 25 (by decide)).trans h25
                    clear h25
                    obtain ⟨w23, h23, r23⟩ := hp 2 (by decide)
                    have e23 : (ac.tmps[23]?).getD undef = .bool true := (ha 23 (by decide)).trans h23
                    clear h23
                    clear ha hp
                    refine Reg.Op1.guarded rfl rfl e23 (fun _ => Reg.Op1.plain rfl ?_) (fun h => absurd rfl h)
                    have x0 := (hR.cell (p := ⟨wr.heap.size, 1, none⟩) HE5.out.lt).trans (HE5.out.cell (j := 1) rfl)
                    go_wp2
                    exact ⟨rfl, hK _ _ rfl (fun j k _ _ => Reg.Adds.refl _ _ _)⟩
                  · intro val ac u hR hp ha K hK      -- 6: t27 := Op.move t0
                    have e0 : (ac.tmps[0]?).getD undef = .pointer (some ⟨g, 0, none⟩) := ha 0 (by decide)
                    obtain ⟨w23, h23, r23⟩ := hp 2 (by decide)
                    have e23 : (ac.tmps[23]?).getD undef = .bool true := (ha 23 (by decide)).trans h23
                    clear h23
                    clear ha hp
                    refine Reg.Op1.guarded rfl rfl e23 (fun _ => Reg.Op1.plain rfl ?_) (fun h => absurd rfl h)
                    go_wp2
                    exact ⟨rfl, hK _ _ rfl (fun j k _ _ => Reg.Adds.refl _ _ _)⟩
                  · intro val ac u hR hp ha K hK      -- 7: t28 := Op.nilCheck t27
                    obtain ⟨w27, h27, r27⟩ := hp 6 (by decide)
                    have e27 : (ac.tmps[27]?).getD undef = .pointer (some ⟨g, 0, none⟩) := (ha 27 (by decide)).trans h27
                    clear h27
                    obtain ⟨w23, h23, r23⟩ := hp 2 (by decide)
                    have e23 : (ac.tmps[23]?).getD undef = .bool true := (ha 23 (by decide)).trans h23
                    clear h23
                    clear ha hp
                    refine Reg.Op1.guarded rfl rfl e23 (fun _ => Reg.Op1.plain rfl ?_) (fun h => absurd rfl h)
                    go_wp2
                    exact ⟨rfl, hK _ _ rfl (fun j k _ _ => Reg.Adds.refl _ _ _)⟩
                  · intro val ac u hR hp ha K hK      -- 8: t29 := Op.fieldAddr 61 t28 0
                    obtain ⟨w28, h28, r28⟩ := hp 7 (by decide)
                    have e28 : (ac.tmps[28]?).getD undef = .pointer (some ⟨g, 0, none⟩) := (ha 28 (by decide)).trans h28
                    clear h28
                    obtain ⟨w23, h23, r23⟩ := hp 2 (by decide)
                    have e23 : (ac.tmps[23]?).getD undef = .bool true := (ha 23 (by decide)).trans h23
                    clear h23
                    clear ha hp
                    refine Reg.Op1.guarded rfl rfl e23 (fun _ => Reg.Op1.plain rfl ?_) (fun h => absurd rfl h)
                    go_wp2
                    exact ⟨rfl, hK _ _ rfl (fun j k _ _ => Reg.Adds.refl _ _ _)⟩
                  · intro val ac u hR hp ha K hK      -- 9: t30 := Op.load 3 t29
                    obtain ⟨w29, h29, r29⟩ := hp 8 (by decide)
                    have e29 : (ac.tmps[29]?).getD undef = .pointer (some ⟨g, 0, none⟩) := (ha 29 (by decide)).trans h29
                    clear h29
                    obtain ⟨w23, h23, r23⟩ := hp 2 (by decide)
                    have e23 : (ac.tmps[23]?).getD undef = .bool true := (ha 23 (by decide)).trans h23
                    clear h23
                    clear ha hp
                    refine Reg.Op1.guarded rfl rfl e23 (fun _ => Reg.Op1.plain rfl ?_) (fun h => absurd rfl h)
                    have x0 := (hR.cell (p := ⟨g, 0, none⟩) HA5.out.B.lt).trans (HA5.out.B.cell (j := 0) rfl)
                    go_wp2
                    exact ⟨rfl, hK _ _ rfl (fun j k _ _ => Reg.Adds.refl _ _ _)⟩
                  · intro val ac u hR hp ha K hK      -- 10: t31 := Op.binOp BinOp.eql 3 t26 t30 3
                    obtain ⟨w26, h26, r26⟩ := hp 5 (by decide)
                    have e26 : (ac.tmps[26]?).getD undef = .int .i64 e.rng := (ha 26 (by decide)).trans h26
                    clear h26
                    obtain ⟨w30, h30, r30⟩ := hp 9 (by decide)
                    have e30 : (ac.tmps[30]?).getD undef = .int .i64 rng := (ha 30 (by decide)).trans h30
                    clear h30
                    obtain ⟨w23, h23, r23⟩ := hp 2 (by decide)
                    have e23 : (ac.tmps[23]?).getD undef = .bool true := (ha 23 (by decide)).trans h23
                    clear h23
                    clear ha hp
                    refine Reg.Op1.guarded rfl rfl e23 (fun _ => Reg.Op1.plain rfl ?_) (fun h => absurd rfl h)
                    go_wp2
                    exact ⟨rfl, hK _ _ rfl (fun j k _ _ => Reg.Adds.refl _ _ _)⟩
                  · intro val ac u hR hp ha K hK      -- 11: t32 := Op.pick t23 t31 (const (Value.bool false))
                    obtain ⟨w23, h23, r23⟩ := hp 2 (by decide)
                    have e23 : (ac.tmps[23]?).getD undef = .bool true := (ha 23 (by decide)).trans h23
                    clear h23
                    obtain ⟨w31, h31, r31⟩ := hp 10 (by decide)
                    have e31 : (ac.tmps[31]?).getD undef = .bool true := (ha 31 (by decide)).trans h31
                    clear h31
                    clear ha hp
                    refine Reg.Op1.plain rfl ?_
                    go_wp2
                    exact ⟨rfl, hK _ _ rfl (fun j k _ _ => Reg.Adds.refl _ _ _)⟩
                  · intro val ac u hR hp ha K hK      -- 12: t33 := Op.move t32
                    obtain ⟨w32, h32, r32⟩ := hp 11 (by decide)
                    have e32 : (ac.tmps[32]?).getD undef = .bool true := (ha 32 (by decide)).trans h32
                    clear h32
                    clear ha hp
                    refine Reg.Op1.plain rfl ?_
                    go_wp2
                    exact ⟨rfl, hK _ _ rfl (fun j k _ _ => Reg.Adds.refl _ _ _)⟩
                  · intro val ac u hR hp ha K hK      -- 13: t34 := Op.move t8
                    have e8 : (ac.tmps[8]?).getD undef = .bool false := ha 8 (by decide)
                    obtain ⟨w33, h33, r33⟩ := hp 12 (by decide)
                    have e33 : (ac.tmps[33]?).getD undef = .bool true := (ha 33 (by decide)).trans h33
                    clear h33
                    clear ha hp
                    refine Reg.Op1.guarded rfl rfl e33 (fun _ => Reg.Op1.plain rfl ?_) (fun h => absurd rfl h)
                    go_wp2
                    exact ⟨rfl, hK _ _ rfl (fun j k _ _ => Reg.Adds.refl _ _ _)⟩
                  · intro val ac u hR hp ha K hK      -- 14: t35 := Op.unOp UnOp.not 4 t34
                    obtain ⟨w34, h34, r34⟩ := hp 13 (by decide)
                    have e34 : (ac.tmps[34]?).getD undef = .bool false := (ha 34 (by decide)).trans h34
                    clear h34
                    obtain ⟨w33, h33, r33⟩ := hp 12 (by decide)
                    have e33 : (ac.tmps[33]?).getD undef = .bool true := (ha 33 (by decide)).trans h33
                    clear h33
                    clear ha hp
                    refine Reg.Op1.guarded rfl rfl e33 (fun _ => Reg.Op1.plain rfl ?_) (fun h => absurd rfl h)
                    go_wp2
                    exact ⟨rfl, hK _ _ rfl (fun j k _ _ => Reg.Adds.refl _ _ _)⟩
                  · intro val ac u hR hp ha K hK      -- 15: t36 := Op.pick t33 t35 (const (Value.bool false))
                    obtain ⟨w33, h33, r33⟩ := hp 12 (by decide)
                    have e33 : (ac.tmps[33]?).getD undef = .bool true := (ha 33 (by decide)).trans h33
                    clear h33
                    obtain ⟨w35, h35, r35⟩ := hp 14 (by decide)
                    have e35 : (ac.tmps[35]?).getD undef = .bool true := (ha 35 (by decide)).trans h35
                    clear h35
                    clear ha hp
                    refine Reg.Op1.plain rfl ?_
                    go_wp2
                    exact ⟨rfl, hK _ _ rfl (fun j k _ _ => Reg.Adds.refl _ _ _)⟩
                  · intro val ac u hR hp ha K hK      -- 16: t37 := Op.move t36
                    obtain ⟨w36, h36, r36⟩ := hp 15 (by decide)
                    have e36 : (ac.tmps[36]?).getD undef = .bool true := (ha 36 (by decide)).trans h36
                    clear h36
                    clear ha hp
                    refine Reg.Op1.plain rfl ?_
                    go_wp2
                    exact ⟨rfl, hK _ _ rfl (fun j k _ _ => Reg.Adds.refl _ _ _)⟩
                  · intro val ac u hR hp ha K hK      -- 17: t38 := Op.move t0
                    have e0 : (ac.tmps[0]?).getD undef = .pointer (some ⟨g, 0, none⟩) := ha 0 (by decide)
                    obtain ⟨w37, h37, r37⟩ := hp 16 (by decide)
                    have e37 : (ac.tmps[37]?).getD undef = .bool true := (ha 37 (by decide)).trans h37
                    clear h37
                    clear ha hp
                    refine Reg.Op1.guarded rfl rfl e37 (fun _ => Reg.Op1.plain rfl ?_) (fun h => absurd rfl h)
                    go_wp2
                    exact ⟨rfl, hK _ _ rfl (fun j k _ _ => Reg.Adds.refl _ _ _)⟩
                  · intro val ac u hR hp ha K hK      -- 18: t39 := Op.nilCheck t38
                    obtain ⟨w38, h38, r38⟩ := hp 17 (by decide)
                    have e38 : (ac.tmps[38]?).getD undef = .pointer (some ⟨g, 0, none⟩) := (ha 38 (by decide)).trans h38
                    clear h38
                    obtain ⟨w37, h37, r37⟩ := hp 16 (by decide)
                    have e37 : (ac.tmps[37]?).getD undef = .bool true := (ha 37 (by decide)).trans h37
                    clear h37
                    clear ha hp
                    refine Reg.Op1.guarded rfl rfl e37 (fun _ => Reg.Op1.plain rfl ?_) (fun h => absurd rfl h)
                    go_wp2
                    exact ⟨rfl, hK _ _ rfl (fun j k _ _ => Reg.Adds.refl _ _ _)⟩
                  · intro val ac u hR hp ha K hK      -- 19: t40 := Op.fieldAddr 61 t39 1
                    obtain ⟨w39, h39, r39⟩ := hp 18 (by decide)
                    have e39 : (ac.tmps[39]?).getD undef = .pointer (some ⟨g, 0, none⟩) := (ha 39 (by decide)).trans h39
                    clear h39
                    obtain ⟨w37, h37, r37⟩ := hp 16 (by decide)
                    have e37 : (ac.tmps[37]?).getD undef = .bool true := (ha 37 (by decide)).trans h37
                    clear h37
                    clear ha hp
                    refine Reg.Op1.guarded rfl rfl e37 (fun _ => Reg.Op1.plain rfl ?_) (fun h => absurd rfl h)
                    go_wp2
                    exact ⟨rfl, hK _ _ rfl (fun j k _ _ => Reg.Adds.refl _ _ _)⟩
                  · intro val ac u hR hp ha K hK      -- 20: t41 := Op.load 24 t40
                    obtain ⟨w40, h40, r40⟩ := hp 19 (by decide)
                    have e40 : (ac.tmps[40]?).getD undef = .pointer (some ⟨g, 1, none⟩) := (ha 40 (by decide)).trans h40
                    clear h40
                    obtain ⟨w37, h37, r37⟩ := hp 16 (by decide)
                    have e37 : (ac.tmps[37]?).getD undef = .bool true := (ha 37 (by decide)).trans h37
                    clear h37
                    clear ha hp
                    refine Reg.Op1.guarded rfl rfl e37 (fun _ => Reg.Op1.plain rfl ?_) (fun h => absurd rfl h)
                    have x0 := (hR.cell (p := ⟨g, 1, none⟩) HA5.out.B.lt).trans (HA5.out.B.cell (j := 1) rfl)
                    go_wp2
                    exact ⟨rfl, hK _ _ rfl (fun j k _ _ => Reg.Adds.refl _ _ _)⟩
                  · intro val ac u hR hp ha K hK      -- 21: t42 := Op.call { builtin len, args := #[t41], argTypes := #[24] }
                    obtain ⟨w41, h41, r41⟩ := hp 20 (by decide)
                    have e41 : (ac.tmps[41]?).getD undef = .slice A es.length c := (ha 41 (by decide)).trans h41
                    clear h41
                    obtain ⟨w37, h37, r37⟩ := hp 16 (by decide)
                    have e37 : (ac.tmps[37]?).getD undef = .bool true := (ha 37 (by decide)).trans h37
                    clear h37
                    clear ha hp
                    refine Reg.Op1.guarded rfl rfl e37 (fun _ => Reg.Op1.plain rfl ?_) (fun h => absurd rfl h)
                    go_wp2
                    exact ⟨rfl, hK _ _ rfl (fun j k _ _ => Reg.Adds.refl _ _ _)⟩
                  · intro val ac u hR hp ha K hK      -- 22: t43 := Op.binOp BinOp.lss 3 t42 (const (16:i64)) 3
                    obtain ⟨w42, h42, r42⟩ := hp 21 (by decide)
                    have e42 : (ac.tmps[42]?).getD undef = .int .i64 ((es.length : Nat) : Int) := (ha 42 (by decide)).trans h42
                    clear h42
                    obtain ⟨w37, h37, r37⟩ := hp 16 (by decide)
                    have e37 : (ac.tmps[37]?).getD undef = .bool true := (ha 37 (by decide)).trans h37
                    clear h37
                    clear ha hp
                    refine Reg.Op1.guarded rfl rfl e37 (fun _ => Reg.Op1.plain rfl ?_) (fun h => absurd rfl h)
                    go_wp2
                    exact ⟨rfl, hK _ _ rfl (fun j k _ _ => Reg.Adds.refl _ _ _)⟩
                  · intro val ac u hR hp ha K hK      -- 23: t44 := Op.pick t37 t43 (const (Value.bool false))
                    obtain ⟨w37, h37, r37⟩ := hp 16 (by decide)
                    have e37 : (ac.tmps[37]?).getD undef = .bool true := (ha 37 (by decide)).trans h37
                    clear h37
                    obtain ⟨w43, h43, r43⟩ := hp 22 (by decide)
                    have e43 : (ac.tmps[43]?).getD undef = .bool true := (ha 43 (by decide)).trans h43
                    clear h43
                    clear ha hp
                    refine Reg.Op1.plain rfl ?_
                    go_wp2
                    exact ⟨rfl, hK _ _ rfl (fun j k _ _ => Reg.Adds.refl _ _ _)⟩
                · intro val u hR H
                  obtain ⟨_, hv, _⟩ := H 23 (by decide)
                  have hv : val 23 = .bool true := hv
                  have HK6 : Hid (Below w5.heap.size w5 u) := (Below.refl _ w5).drew.trans hR
                  simp only [List.map_cons, List.map_nil, Reg.lay, Act.put, List.setIfInBounds_toArray, List.set_cons_succ, List.set_cons_zero, Nat.reduceAdd, hv]
                  clear hR H hv
                  go_wp2
                  go_meet
                  case rel => exact ⟨by rw [hok], HK6.out⟩
              · have d5 : decide ((es.length : Int) < 16) = false := by simp; omega
                have hok : okPut rng es e = false := by unfold okPut; simp [hr5]
                refine Reg.wp_region_rel (by kernel_rfl) 59 24 rfl rfl (by kernel_rfl) (Reg.Adds) (Reg.Adds.refl) (Reg.Adds.trans)
                  (fun i v u => match i with
                    | 0 => v = .agg (entCells e).toArray
                    | 1 => v = .bool true
                    | 2 => v = .bool true
                    | 3 => v = .pointer (some ⟨wr.heap.size, 0, none⟩)
                    | 4 => v = .pointer (some ⟨wr.heap.size, 1, none⟩)
                    | 5 => v = .int .i64 e.rng
                    | 6 => v = .pointer (some ⟨g, 0, none⟩)
                    | 7 => v = .pointer (some ⟨g, 0, none⟩)
                    | 8 => v = .pointer (some ⟨g, 0, none⟩)
                    | 9 => v = .int .i64 rng
                    | 10 => v = .bool true
                    | 11 => v = .bool true
                    | 12 => v = .bool true
                    | 13 => v = .bool false
                    | 14 => v = .bool true
                    | 15 => v = .bool true
                    | 16 => v = .bool true
                    | 17 => v = .pointer (some ⟨g, 0, none⟩)
                    | 18 => v = .pointer (some ⟨g, 0, none⟩)
                    | 19 => v = .pointer (some ⟨g, 1, none⟩)
                    | 20 => v = .slice A es.length c
                    | 21 => v = .int .i64 ((es.length : Nat) : Int)
                    | 22 => v = .bool false
                    | 23 => v = .bool false
                    | _ => True) ?_ ?_
                · refine Reg.Steps.cons ?_ (Reg.Steps.cons ?_ (Reg.Steps.cons ?_ (Reg.Steps.cons ?_ (Reg.Steps.cons ?_ (Reg.Steps.cons ?_ (Reg.Steps.cons ?_ (Reg.Steps.cons ?_ (Reg.Steps.cons ?_ (Reg.Steps.cons ?_ (Reg.Steps.cons ?_ (Reg.Steps.cons ?_ (Reg.Steps.cons ?_ (Reg.Steps.cons ?_ (Reg.Steps.cons ?_ (Reg.Steps.cons ?_ (Reg.Steps.cons ?_ (Reg.Steps.cons ?_ (Reg.Steps.cons ?_ (Reg.Steps.cons ?_ (Reg.Steps.cons ?_ (Reg.Steps.cons ?_ (Reg.Steps.cons ?_ (Reg.Steps.cons ?_ (Reg.Steps.nil _))))))))))))))))))))))))
                  · intro val ac u hR hp ha K hK      -- 0: t21 := Op.load 33 t7
                    have e7 : (ac.tmps[7]?).getD undef = .pointer (some ⟨wr.heap.size, 0, none⟩) := ha 7 (by decide)
                    clear ha hp
                    refine Reg.Op1.plain rfl ?_
                    have hEu : EBx u wr.heap.size e := Mem.Bx.below (w := w5.drew) HE5.out hR HE5.out.lt
                    refine Mem.load_agg _ _ entry_agg wr.heap.size 0 (entCells e) (Reg.eval_of e7) (entCells_length _) (fun j u' hu => by rw [Nat.zero_add]; exact hEu.cell hu) ?_
                    exact ⟨rfl, hK _ _ rfl (fun j k _ _ => Reg.Adds.refl _ _ _)⟩
                  · intro val ac u hR hp ha K hK      -- 1: t22 := Op.call { value (Operand.func 16), args := #[t21], argTypes := #[33] }
                    obtain ⟨w21, h21, r21⟩ := hp 0 (by decide)
                    have e21 : (ac.tmps[21]?).getD undef = .agg (entCells e).toArray := (ha 21 (by decide)).trans h21
                    clear h21
                    clear ha hp
                    refine Reg.Op1.plain rfl ?_
                    go_wp2_with fail
                    refine (rightE_any e u).mono ?_
                    rintro x w' ⟨rfl, hbw⟩
                    rw [hr1]
                    go_wp2_with fail
                    exact ⟨rfl, hK _ _ rfl (fun j k _ _ => hbw)⟩
                  · intro val ac u hR hp ha K hK      -- 2: t23 := Op.move t22
                    obtain ⟨w22, h22, r22⟩ := hp 1 (by decide)
                    have e22 : (ac.tmps[22]?).getD undef = .bool true := (ha 22 (by decide)).trans h22
                    clear h22
                    clear ha hp
                    refine Reg.Op1.plain rfl ?_
                    go_wp2
                    exact ⟨rfl, hK _ _ rfl (fun j k _ _ => Reg.Adds.refl _ _ _)⟩
                  · intro val ac u hR hp ha K hK      -- 3: t24 := Op.fieldAddr 33 t7 0
                    have e7 : (ac.tmps[7]?).getD undef = .pointer (some ⟨wr.heap.size, 0, none⟩) := ha 7 (by decide)
                    obtain ⟨w23, h23, r23⟩ := hp 2 (by decide)
                    have e23 : (ac.tmps[23]?).getD undef = .bool true := (ha 23 (by decide)).trans h23
                    clear h23
                    clear ha hp
                    refine Reg.Op1.guarded rfl rfl e23 (fun _ => Reg.Op1.plain rfl ?_) (fun h => absurd rfl h)
                    go_wp2
                    exact ⟨rfl, hK _ _ rfl (fun j k _ _ => Reg.Adds.refl _ _ _)⟩
                  · intro val ac u hR hp ha K hK      -- 4: t25 := Op.fieldAddr 29 t24 1
                    obtain ⟨w24, h24, r24⟩ := hp 3 (by decide)
                    have e24 : (ac.tmps[24]?).getD undef = .pointer (some ⟨wr.heap.size, 0, none⟩) := (ha 24 (by decide)).trans h24
                    clear h24
                    obtain ⟨w23, h23, r23⟩ := hp 2 (by decide)
                    have e23 : (ac.tmps[23]?).getD undef = .bool true := (ha 23 (by decide)).trans h23
                    clear h23
                    clear ha hp
                    refine Reg.Op1.guarded rfl rfl e23 (fun _ => Reg.Op1.plain rfl ?_) (fun h => absurd rfl h)
                    go_wp2
                    exact ⟨rfl, hK _ _ rfl (fun j k _ _ => Reg.Adds.refl _ _ _)⟩
                  · intro val ac u hR hp ha K hK      -- 5: t26 := Op.load 3 t25
                    obtain ⟨w25, h25, r25⟩ := hp 4 (by decide)
                    have e25 : (ac.tmps[25]?).getD undef = .pointer (some ⟨wr.heap.size, 1, none⟩) := (ha 25 (by decide)).trans h25
                    clear h25
                    obtain ⟨w23, h23, r23⟩ := hp 2 (by decide)
                    have e23 : (ac.tmps[23]?).getD undef = .bool true := (ha 23 (by decide)).trans h23
                    clear h23
                    clear ha hp
                    refine Reg.Op1.guarded rfl rfl e23 (fun _ => Reg.Op1.plain rfl ?_) (fun h => absurd rfl h)
                    have x0 := (hR.cell (p := ⟨wr.heap.size, 1, none⟩) HE5.out.lt).trans (HE5.out.cell (j := 1) rfl)
                    go_wp2
                    exact ⟨rfl, hK _ _ rfl (fun j k _ _ => Reg.Adds.refl _ _ _)⟩
                  · intro val ac u hR hp ha K hK      -- 6: t27 := Op.move t0
                    have e0 : (ac.tmps[0]?).getD undef = .pointer (some ⟨g, 0, none⟩) := ha 0 (by decide)
                    obtain ⟨w23, h23, r23⟩ := hp 2 (by decide)
                    have e23 : (ac.tmps[23]?).getD undef = .bool true := (ha 23 (by decide)).trans h23
                    clear h23
                    clear ha hp
                    refine Reg.Op1.guarded rfl rfl e23 (fun _ => Reg.Op1.plain rfl ?_) (fun h => absurd rfl h)
                    go_wp2
                    exact ⟨rfl, hK _ _ rfl (fun j k _ _ => Reg.Adds.refl _ _ _)⟩
                  · intro val ac u hR hp ha K hK      -- 7: t28 := Op.nilCheck t27
                    obtain ⟨w27, h27, r27⟩ := hp 6 (by decide)
                    have e27 : (ac.tmps[27]?).getD undef = .pointer (some ⟨g, 0, none⟩) := (ha 27 (by decide)).trans h27
                    clear h27
                    obtain ⟨w23, h23, r23⟩ := hp 2 (by decide)
                    have e23 : (ac.tmps[23]?).getD undef = .bool true := (ha 23 (by decide)).trans h23
                    clear h23
                    clear ha hp
                    refine Reg.Op1.guarded rfl rfl e23 (fun _ => Reg.Op1.plain rfl ?_) (fun h => absurd rfl h)
                    go_wp2
                    exact ⟨rfl, hK _ _ rfl (fun j k _ _ => Reg.Adds.refl _ _ _)⟩
                  · intro val ac u hR hp ha K hK      -- 8: t29 := Op.fieldAddr 61 t28 0
                    obtain ⟨w28, h28, r28⟩ := hp 7 (by decide)
                    have e28 : (ac.tmps[28]?).getD undef = .pointer (some ⟨g, 0, none⟩) := (ha 28 (by decide)).trans h28
                    clear h28
                    obtain ⟨w23, h23, r23⟩ := hp 2 (by decide)
                    have e23 : (ac.tmps[23]?).getD undef = .bool true := (ha 23 (by decide)).trans h23
                    clear h23
                    clear ha hp
                    refine Reg.Op1.guarded rfl rfl e23 (fun _ => Reg.Op1.plain rfl ?_) (fun h => absurd rfl h)
                    go_wp2
                    exact ⟨rfl, hK _ _ rfl (fun j k _ _ => Reg.Adds.refl _ _ _)⟩
                  · intro val ac u hR hp ha K hK      -- 9: t30 := Op.load 3 t29
                    obtain ⟨w29, h29, r29⟩ := hp 8 (by decide)
                    have e29 : (ac.tmps[29]?).getD undef = .pointer (some ⟨g, 0, none⟩) := (ha 29 (by decide)).trans h29
                    clear h29
                    obtain ⟨w23, h23, r23⟩ := hp 2 (by decide)
                    have e23 : (ac.tmps[23]?).getD undef = .bool true := (ha 23 (by decide)).trans h23
                    clear h23
                    clear ha hp
                    refine Reg.Op1.guarded rfl rfl e23 (fun _ => Reg.Op1.plain rfl ?_) (fun h => absurd rfl h)
                    have x0 := (hR.cell (p := ⟨g, 0, none⟩) HA5.out.B.lt).trans (HA5.out.B.cell (j := 0) rfl)
                    go_wp2
                    exact ⟨rfl, hK _ _ rfl (fun j k _ _ => Reg.Adds.refl _ _ _)⟩
                  · intro val ac u hR hp ha K hK      -- 10: t31 := Op.binOp BinOp.eql 3 t26 t30 3
                    obtain ⟨w26, h26, r26⟩ := hp 5 (by decide)
                    have e26 : (ac.tmps[26]?).getD undef = .int .i64 e.rng := (ha 26 (by decide)).trans h26
                    clear h26
                    obtain ⟨w30, h30, r30⟩ := hp 9 (by decide)
                    have e30 : (ac.tmps[30]?).getD undef = .int .i64 rng := (ha 30 (by decide)).trans h30
                    clear h30
                    obtain ⟨w23, h23, r23⟩ := hp 2 (by decide)
                    have e23 : (ac.tmps[23]?).getD undef = .bool true := (ha 23 (by decide)).trans h23
                    clear h23
                    clear ha hp
                    refine Reg.Op1.guarded rfl rfl e23 (fun _ => Reg.Op1.plain rfl ?_) (fun h => absurd rfl h)
                    go_wp2
                    exact ⟨rfl, hK _ _ rfl (fun j k _ _ => Reg.Adds.refl _ _ _)⟩
                  · intro val ac u hR hp ha K hK      -- 11: t32 := Op.pick t23 t31 (const (Value.bool false))
                    obtain ⟨w23, h23, r23⟩ := hp 2 (by decide)
                    have e23 : (ac.tmps[23]?).getD undef = .bool true := (ha 23 (by decide)).trans h23
                    clear h23
                    obtain ⟨w31, h31, r31⟩ := hp 10 (by decide)
                    have e31 : (ac.tmps[31]?).getD undef = .bool true := (ha 31 (by decide)).trans h31
                    clear h31
                    clear ha hp
                    refine Reg.Op1.plain rfl ?_
                    go_wp2
                    exact ⟨rfl, hK _ _ rfl (fun j k _ _ => Reg.Adds.refl _ _ _)⟩
                  · intro val ac u hR hp ha K hK      -- 12: t33 := Op.move t32
                    obtain ⟨w32, h32, r32⟩ := hp 11 (by decide)
                    have e32 : (ac.tmps[32]?).getD undef = .bool true := (ha 32 (by decide)).trans h32
                    clear h32
                    clear ha hp
                    refine Reg.Op1.plain rfl ?_
                    go_wp2
                    exact ⟨rfl, hK _ _ rfl (fun j k _ _ => Reg.Adds.refl _ _ _)⟩
                  · intro val ac u hR hp ha K hK      -- 13: t34 := Op.move t8
                    have e8 : (ac.tmps[8]?).getD undef = .bool false := ha 8 (by decide)
                    obtain ⟨w33, h33, r33⟩ := hp 12 (by decide)
                    have e33 : (ac.tmps[33]?).getD undef = .bool true := (ha 33 (by decide)).trans h33
                    clear h33
                    clear ha hp
                    refine Reg.Op1.guarded rfl rfl e33 (fun _ => Reg.Op1.plain rfl ?_) (fun h => absurd rfl h)
                    go_wp2
                    exact ⟨rfl, hK _ _ rfl (fun j k _ _ => Reg.Adds.refl _ _ _)⟩
                  · intro val ac u hR hp ha K hK      -- 14: t35 := Op.unOp UnOp.not 4 t34
                    obtain ⟨w34, h34, r34⟩ := hp 13 (by decide)
                    have e34 : (ac.tmps[34]?).getD undef = .bool false := (ha 34 (by decide)).trans h34
                    clear h34
                    obtain ⟨w33, h33, r33⟩ := hp 12 (by decide)
                    have e33 : (ac.tmps[33]?).getD undef = .bool true := (ha 33 (by decide)).trans h33
                    clear h33
                    clear ha hp
                    refine Reg.Op1.guarded rfl rfl e33 (fun _ => Reg.Op1.plain rfl ?_) (fun h => absurd rfl h)
                    go_wp2
                    exact ⟨rfl, hK _ _ rfl (fun j k _ _ => Reg.Adds.refl _ _ _)⟩
                  · intro val ac u hR hp ha K hK      -- 15: t36 := Op.pick t33 t35 (const (Value.bool false))
                    obtain ⟨w33, h33, r33⟩ := hp 12 (by decide)
                    have e33 : (ac.tmps[33]?).getD undef = .bool true := (ha 33 (by decide)).trans h33
                    clear h33
                    obtain ⟨w35, h35, r35⟩ := hp 14 (by decide)
                    have e35 : (ac.tmps[35]?).getD undef = .bool true := (ha 35 (by decide)).trans h35
                    clear h35
                    clear ha hp
                    refine Reg.Op1.plain rfl ?_
                    go_wp2
                    exact ⟨rfl, hK _ _ rfl (fun j k _ _ => Reg.Adds.refl _ _ _)⟩
                  · intro val ac u hR hp ha K hK      -- 16: t37 := Op.move t36
                    obtain ⟨w36, h36, r36⟩ := hp 15 (by decide)
                    have e36 : (ac.tmps[36]?).getD undef = .bool true := (ha 36 (by decide)).trans h36
                    clear h36
                    clear ha hp
                    refine Reg.Op1.plain rfl ?_
                    go_wp2
                    exact ⟨rfl, hK _ _ rfl (fun j k _ _ => Reg.Adds.refl _ _ _)⟩
                  · intro val ac u hR hp ha K hK      -- 17: t38 := Op.move t0
                    have e0 : (ac.tmps[0]?).getD undef = .pointer (some ⟨g, 0, none⟩) := ha 0 (by decide)
                    obtain ⟨w37, h37, r37⟩ := hp 16 (by decide)
                    have e37 : (ac.tmps[37]?).getD undef = .bool true := (ha 37 (by decide)).trans h37
                    clear h37
                    clear ha hp
                    refine Reg.Op1.guarded rfl rfl e37 (fun _ => Reg.Op1.plain rfl ?_) (fun h => absurd rfl h)
                    go_wp2
                    exact ⟨rfl, hK _ _ rfl (fun j k _ _ => Reg.Adds.refl _ _ _)⟩
                  · intro val ac u hR hp ha K hK      -- 18: t39 := Op.nilCheck t38
                    obtain ⟨w38, h38, r38⟩ := hp 17 (by decide)
                    have e38 : (ac.tmps[38]?).getD undef = .pointer (some ⟨g, 0, none⟩) := (ha 38 (by decide)).trans h38
                    clear h38
                    obtain ⟨w37, h37, r37⟩ := hp 16 (by decide)
                    have e37 : (ac.tmps[37]?).getD undef = .bool true := (ha 37 (by decide)).trans h37
                    clear h37
                    clear ha hp
                    refine Reg.Op1.guarded rfl rfl e37 (fun _ => Reg.Op1.plain rfl ?_) (fun h => absurd rfl h)
                    go_wp2
                    exact ⟨rfl, hK _ _ rfl (fun j k _ _ => Reg.Adds.refl _ _ _)⟩
                  · intro val ac u hR hp ha K hK      -- 19: t40 := Op.fieldAddr 61 t39 1
                    obtain ⟨w39, h39, r39⟩ := hp 18 (by decide)
                    have e39 : (ac.tmps[39]?).getD undef = .pointer (some ⟨g, 0, none⟩) := (ha 39 (by decide)).trans h39
                    clear h39
                    obtain ⟨w37, h37, r37⟩ := hp 16 (by decide)
                    have e37 : (ac.tmps[37]?).getD undef = .bool true := (ha 37 (by decide)).trans h37
                    clear h37
                    clear ha hp
                    refine Reg.Op1.guarded rfl rfl e37 (fun _ => Reg.Op1.plain rfl ?_) (fun h => absurd rfl h)
                    go_wp2
                    exact ⟨rfl, hK _ _ rfl (fun j k _ _ => Reg.Adds.refl _ _ _)⟩
                  · intro val ac u hR hp ha K hK      -- 20: t41 := Op.load 24 t40
                    obtain ⟨w40, h40, r40⟩ := hp 19 (by decide)
                    have e40 : (ac.tmps[40]?).getD undef = .pointer (some ⟨g, 1, none⟩) := (ha 40 (by decide)).trans h40
                    clear h40
                    obtain ⟨w37, h37, r37⟩ := hp 16 (by decide)
                    have e37 : (ac.tmps[37]?).getD undef = .bool true := (ha 37 (by decide)).trans h37
                    clear h37
                    clear ha hp
                    refine Reg.Op1.guarded rfl rfl e37 (fun _ => Reg.Op1.plain rfl ?_) (fun h => absurd rfl h)
                    have x0 := (hR.cell (p := ⟨g, 1, none⟩) HA5.out.B.lt).trans (HA5.out.B.cell (j := 1) rfl)
                    go_wp2
                    exact ⟨rfl, hK _ _ rfl (fun j k _ _ => Reg.Adds.refl _ _ _)⟩
                  · intro val ac u hR hp ha K hK      -- 21: t42 := Op.call { builtin len, args := #[t41], argTypes := #[24] }
                    obtain ⟨w41, h41, r41⟩ := hp 20 (by decide)
                    have e41 : (ac.tmps[41]?).getD undef = .slice A es.length c := (ha 41 (by decide)).trans h41
                    clear h41
                    obtain ⟨w37, h37, r37⟩ := hp 16 (by decide)
                    have e37 : (ac.tmps[37]?).getD undef = .bool true := (ha 37 (by decide)).trans h37
                    clear h37
                    clear ha hp
                    refine Reg.Op1.guarded rfl rfl e37 (fun _ => Reg.Op1.plain rfl ?_) (fun h => absurd rfl h)
                    go_wp2
                    exact ⟨rfl, hK _ _ rfl (fun j k _ _ => Reg.Adds.refl _ _ _)⟩
                  · intro val ac u hR hp ha K hK      -- 22: t43 := Op.binOp BinOp.lss 3 t42 (const (16:i64)) 3
                    obtain ⟨w42, h42, r42⟩ := hp 21 (by decide)
                    have e42 : (ac.tmps[42]?).getD undef = .int .i64 ((es.length : Nat) : Int) := (ha 42 (by decide)).trans h42
                    clear h42
                    obtain ⟨w37, h37, r37⟩ := hp 16 (by decide)
                    have e37 : (ac.tmps[37]?).getD undef = .bool true := (ha 37 (by decide)).trans h37
                    clear h37
                    clear ha hp
                    refine Reg.Op1.guarded rfl rfl e37 (fun _ => Reg.Op1.plain rfl ?_) (fun h => absurd rfl h)
                    go_wp2
                    exact ⟨rfl, hK _ _ rfl (fun j k _ _ => Reg.Adds.refl _ _ _)⟩
                  · intro val ac u hR hp ha K hK      -- 23: t44 := Op.pick t37 t43 (const (Value.bool false))
                    obtain ⟨w37, h37, r37⟩ := hp 16 (by decide)
                    have e37 : (ac.tmps[37]?).getD undef = .bool true := (ha 37 (by decide)).trans h37
                    clear h37
                    obtain ⟨w43, h43, r43⟩ := hp 22 (by decide)
                    have e43 : (ac.tmps[43]?).getD undef = .bool false := (ha 43 (by decide)).trans h43
                    clear h43
                    clear ha hp
                    refine Reg.Op1.plain rfl ?_
                    go_wp2
                    exact ⟨rfl, hK _ _ rfl (fun j k _ _ => Reg.Adds.refl _ _ _)⟩
                · intro val u hR H
                  obtain ⟨_, hv, _⟩ := H 23 (by decide)
                  have hv : val 23 = .bool false := hv
                  have HK6 : Hid (Below w5.heap.size w5 u) := (Below.refl _ w5).drew.trans hR
                  simp only [List.map_cons, List.map_nil, Reg.lay, Act.put, List.setIfInBounds_toArray, List.set_cons_succ, List.set_cons_zero, Nat.reduceAdd, hv]
                  clear hR H hv
                  go_wp2
                  go_meet
                  case rel => exact ⟨by rw [hok], HK6.out⟩
            · have hok : okPut rng es e = false := by unfold okPut; rw [hth2]; simp
              refine Reg.wp_region_rel (by kernel_rfl) 59 24 rfl rfl (by kernel_rfl) (Reg.Adds) (Reg.Adds.refl) (Reg.Adds.trans)
                (fun i v u => match i with
                  | 0 => v = .agg (entCells e).toArray
                  | 1 => v = .bool true
                  | 2 => v = .bool true
                  | 3 => v = .pointer (some ⟨wr.heap.size, 0, none⟩)
                  | 4 => v = .pointer (some ⟨wr.heap.size, 1, none⟩)
                  | 5 => v = .int .i64 e.rng
                  | 6 => v = .pointer (some ⟨g, 0, none⟩)
                  | 7 => v = .pointer (some ⟨g, 0, none⟩)
                  | 8 => v = .pointer (some ⟨g, 0, none⟩)
                  | 9 => v = .int .i64 rng
                  | 10 => v = .bool true
                  | 11 => v = .bool true
                  | 12 => v = .bool true
                  | 13 => v = .bool true
                  | 14 => v = .bool false
                  | 15 => v = .bool false
                  | 16 => v = .bool false
                  | 17 => v = undef
                  | 18 => v = undef
                  | 19 => v = undef
                  | 20 => v = undef
                  | 21 => v = undef
                  | 22 => v = undef
                  | 23 => v = .bool false
                  | _ => True) ?_ ?_
              · refine Reg.Steps.cons ?_ (Reg.Steps.cons ?_ (Reg.Steps.cons ?_ (Reg.Steps.cons ?_ (Reg.Steps.cons ?_ (Reg.Steps.cons ?_ (Reg.Steps.cons ?_ (Reg.Steps.cons ?_ (Reg.Steps.cons ?_ (Reg.Steps.cons ?_ (Reg.Steps.cons ?_ (Reg.Steps.cons ?_ (Reg.Steps.cons ?_ (Reg.Steps.cons ?_ (Reg.Steps.cons ?_ (Reg.Steps.cons ?_ (Reg.Steps.cons ?_ (Reg.Steps.cons ?_ (Reg.Steps.cons ?_ (Reg.Steps.cons ?_ (Reg.Steps.cons ?_ (Reg.Steps.cons ?_ (Reg.Steps.cons ?_ (Reg.Steps.cons ?_ (Reg.Steps.nil _))))))))))))))))))))))))
                · intro val ac u hR hp ha K hK      -- 0: t21 := Op.load 33 t7
                  have e7 : (ac.tmps[7]?).getD undef = .pointer (some ⟨wr.heap.size, 0, none⟩) := ha 7 (by decide)
                  clear ha hp
                  refine Reg.Op1.plain rfl ?_
                  have hEu : EBx u wr.heap.size e := Mem.Bx.below (w := w5.drew) HE5.out hR HE5.out.lt
                  refine Mem.load_agg _ _ entry_agg wr.heap.size 0 (entCells e) (Reg.eval_of e7) (entCells_length _) (fun j u' hu => by rw [Nat.zero_add]; exact hEu.cell hu) ?_
                  exact ⟨rfl, hK _ _ rfl (fun j k _ _ => Reg.Adds.refl _ _ _)⟩
                · intro val ac u hR hp ha K hK      -- 1: t22 := Op.call { value (Operand.func 16), args := #[t21], argTypes := #[33] }
                  obtain ⟨w21, h21, r21⟩ := hp 0 (by decide)
                  have e21 : (ac.tmps[21]?).getD undef = .agg (entCells e).toArray := (ha 21 (by decide)).trans h21
                  clear h21
                  clear ha hp
                  refine Reg.Op1.plain rfl ?_
                  go_wp2_with fail
                  refine (rightE_any e u).mono ?_
                  rintro x w' ⟨rfl, hbw⟩
                  rw [hr1]
                  go_wp2_with fail
                  exact ⟨rfl, hK _ _ rfl (fun j k _ _ => hbw)⟩
                · intro val ac u hR hp ha K hK      -- 2: t23 := Op.move t22
                  obtain ⟨w22, h22, r22⟩ := hp 1 (by decide)
                  have e22 : (ac.tmps[22]?).getD undef = .bool true := (ha 22 (by decide)).trans h22
                  clear h22
                  clear ha hp
                  refine Reg.Op1.plain rfl ?_
                  go_wp2
                  exact ⟨rfl, hK _ _ rfl (fun j k _ _ => Reg.Adds.refl _ _ _)⟩
                · intro val ac u hR hp ha K hK      -- 3: t24 := Op.fieldAddr 33 t7 0
                  have e7 : (ac.tmps[7]?).getD undef = .pointer (some ⟨wr.heap.size, 0, none⟩) := ha 7 (by decide)
                  obtain ⟨w23, h23, r23⟩ := hp 2 (by decide)
                  have e23 : (ac.tmps[23]?).getD undef = .bool true := (ha 23 (by decide)).trans h23
                  clear h23
                  clear ha hp
                  refine Reg.Op1.guarded rfl rfl e23 (fun _ => Reg.Op1.plain rfl ?_) (fun h => absurd rfl h)
                  go_wp2
                  exact ⟨rfl, hK _ _ rfl (fun j k _ _ => Reg.Adds.refl _ _ _)⟩
                · intro val ac u hR hp ha K hK      -- 4: t25 := Op.fieldAddr 29 t24 1
                  obtain ⟨w24, h24, r24⟩ := hp 3 (by decide)
                  have e24 : (ac.tmps[24]?).getD undef = .pointer (some ⟨wr.heap.size, 0, none⟩) := (ha 24 (by decide)).trans h24
                  clear h24
                  obtain ⟨w23, h23, r23⟩ := hp 2 (by decide)
                  have e23 : (ac.tmps[23]?).getD undef = .bool true := (ha 23 (by decide)).trans h23
                  clear h23
                  clear ha hp
                  refine Reg.Op1.guarded rfl rfl e23 (fun _ => Reg.Op1.plain rfl ?_) (fun h => absurd rfl h)
                  go_wp2
                  exact ⟨rfl, hK _ _ rfl (fun j k _ _ => Reg.Adds.refl _ _ _)⟩
                · intro val ac u hR hp ha K hK      -- 5: t26 := Op.load 3 t25
                  obtain ⟨w25, h25, r25⟩ := hp 4 (by decide)
                  have e25 : (ac.tmps[25]?).getD undef = .pointer (some ⟨wr.heap.size, 1, none⟩) := (ha 25 (by decide)).trans h25
                  clear h25
                  obtain ⟨w23, h23, r23⟩ := hp 2 (by decide)
                  have e23 : (ac.tmps[23]?).getD undef = .bool true := (ha 23 (by decide)).trans h23
                  clear h23
                  clear ha hp
                  refine Reg.Op1.guarded rfl rfl e23 (fun _ => Reg.Op1.plain rfl ?_) (fun h => absurd rfl h)
                  have x0 := (hR.cell (p := ⟨wr.heap.size, 1, none⟩) HE5.out.lt).trans (HE5.out.cell (j := 1) rfl)
                  go_wp2
                  exact ⟨rfl, hK _ _ rfl (fun j k _ _ => Reg.Adds.refl _ _ _)⟩
                · intro val ac u hR hp ha K hK      -- 6: t27 := Op.move t0
                  have e0 : (ac.tmps[0]?).getD undef = .pointer (some ⟨g, 0, none⟩) := ha 0 (by decide)
                  obtain ⟨w23, h23, r23⟩ := hp 2 (by decide)
                  have e23 : (ac.tmps[23]?).getD undef = .bool true := (ha 23 (by decide)).trans h23
                  clear h23
                  clear ha hp
                  refine Reg.Op1.guarded rfl rfl e23 (fun _ => Reg.Op1.plain rfl ?_) (fun h => absurd rfl h)
                  go_wp2
                  exact ⟨rfl, hK _ _ rfl (fun j k _ _ => Reg.Adds.refl _ _ _)⟩
                · intro val ac u hR hp ha K hK      -- 7: t28 := Op.nilCheck t27
                  obtain ⟨w27, h27, r27⟩ := hp 6 (by decide)
                  have e27 : (ac.tmps[27]?).getD undef = .pointer (some ⟨g, 0, none⟩) := (ha 27 (by decide)).trans h27
                  clear h27
                  obtain ⟨w23, h23, r23⟩ := hp 2 (by decide)
                  have e23 : (ac.tmps[23]?).getD undef = .bool true := (ha 23 (by decide)).trans h23
                  clear h23
                  clear ha hp
                  refine Reg.Op1.guarded rfl rfl e23 (fun _ => Reg.Op1.plain rfl ?_) (fun h => absurd rfl h)
                  go_wp2
                  exact ⟨rfl, hK _ _ rfl (fun j k _ _ => Reg.Adds.refl _ _ _)⟩
                · intro val ac u hR hp ha K hK      -- 8: t29 := Op.fieldAddr 61 t28 0
                  obtain ⟨w28, h28, r28⟩ := hp 7 (by decide)
                  have e28 : (ac.tmps[28]?).getD undef = .pointer (some ⟨g, 0, none⟩) := (ha 28 (by decide)).trans h28
                  clear h28
                  obtain ⟨w23, h23, r23⟩ := hp 2 (by decide)
                  have e23 : (ac.tmps[23]?).getD undef = .bool true := (ha 23 (by decide)).trans h23
                  clear h23
                  clear ha hp
                  refine Reg.Op1.guarded rfl rfl e23 (fun _ => Reg.Op1.plain rfl ?_) (fun h => absurd rfl h)
                  go_wp2
                  exact ⟨rfl, hK _ _ rfl (fun j k _ _ => Reg.Adds.refl _ _ _)⟩
                · intro val ac u hR hp ha K hK      -- 9: t30 := Op.load 3 t29
                  obtain ⟨w29, h29, r29⟩ := hp 8 (by decide)
                  have e29 : (ac.tmps[29]?).getD undef = .pointer (some ⟨g, 0, none⟩) := (ha 29 (by decide)).trans h29
                  clear h29
                  obtain ⟨w23, h23, r23⟩ := hp 2 (by decide)
                  have e23 : (ac.tmps[23]?).getD undef = .bool true := (ha 23 (by decide)).trans h23
                  clear h23
                  clear ha hp
                  refine Reg.Op1.guarded rfl rfl e23 (fun _ => Reg.Op1.plain rfl ?_) (fun h => absurd rfl h)
                  have x0 := (hR.cell (p := ⟨g, 0, none⟩) HA5.out.B.lt).trans (HA5.out.B.cell (j := 0) rfl)
                  go_wp2
                  exact ⟨rfl, hK _ _ rfl (fun j k _ _ => Reg.Adds.refl _ _ _)⟩
                · intro val ac u hR hp ha K hK      -- 10: t31 := Op.binOp BinOp.eql 3 t26 t30 3
                  obtain ⟨w26, h26, r26⟩ := hp 5 (by decide)
                  have e26 : (ac.tmps[26]?).getD undef = .int .i64 e.rng := (ha 26 (by decide)).trans h26
                  clear h26
                  obtain ⟨w30, h30, r30⟩ := hp 9 (by decide)
                  have e30 : (ac.tmps[30]?).getD undef = .int .i64 rng := (ha 30 (by decide)).trans h30
                  clear h30
                  obtain ⟨w23, h23, r23⟩ := hp 2 (by decide)
                  have e23 : (ac.tmps[23]?).getD undef = .bool true := (ha 23 (by decide)).trans h23
                  clear h23
                  clear ha hp
                  refine Reg.Op1.guarded rfl rfl e23 (fun _ => Reg.Op1.plain rfl ?_) (fun h => absurd rfl h)
                  go_wp2
                  exact ⟨rfl, hK _ _ rfl (fun j k _ _ => Reg.Adds.refl _ _ _)⟩
                · intro val ac u hR hp ha K hK      -- 11: t32 := Op.pick t23 t31 (const (Value.bool false))
                  obtain ⟨w23, h23, r23⟩ := hp 2 (by decide)
                  have e23 : (ac.tmps[23]?).getD undef = .bool true := (ha 23 (by decide)).trans h23
                  clear h23
                  obtain ⟨w31, h31, r31⟩ := hp 10 (by decide)
                  have e31 : (ac.tmps[31]?).getD undef = .bool true := (ha 31 (by decide)).trans h31
                  clear h31
                  clear ha hp
                  refine Reg.Op1.plain rfl ?_
                  go_wp2
                  exact ⟨rfl, hK _ _ rfl (fun j k _ _ => Reg.Adds.refl _ _ _)⟩
                · intro val ac u hR hp ha K hK      -- 12: t33 := Op.move t32
                  obtain ⟨w32, h32, r32⟩ := hp 11 (by decide)
                  have e32 : (ac.tmps[32]?).getD undef = .bool true := (ha 32 (by decide)).trans h32
                  clear h32
                  clear ha hp
                  refine Reg.Op1.plain rfl ?_
                  go_wp2
                  exact ⟨rfl, hK _ _ rfl (fun j k _ _ => Reg.Adds.refl _ _ _)⟩
                · intro val ac u hR hp ha K hK      -- 13: t34 := Op.move t8
                  have e8 : (ac.tmps[8]?).getD undef = .bool true := ha 8 (by decide)
                  obtain ⟨w33, h33, r33⟩ := hp 12 (by decide)
                  have e33 : (ac.tmps[33]?).getD undef = .bool true := (ha 33 (by decide)).trans h33
                  clear h33
                  clear ha hp
                  refine Reg.Op1.guarded rfl rfl e33 (fun _ => Reg.Op1.plain rfl ?_) (fun h => absurd rfl h)
                  go_wp2
                  exact ⟨rfl, hK _ _ rfl (fun j k _ _ => Reg.Adds.refl _ _ _)⟩
                · intro val ac u hR hp ha K hK      -- 14: t35 := Op.unOp UnOp.not 4 t34
                  obtain ⟨w34, h34, r34⟩ := hp 13 (by decide)
                  have e34 : (ac.tmps[34]?).getD undef = .bool true := (ha 34 (by decide)).trans h34
                  clear h34
                  obtain ⟨w33, h33, r33⟩ := hp 12 (by decide)
                  have e33 : (ac.tmps[33]?).getD undef = .bool true := (ha 33 (by decide)).trans h33
                  clear h33
                  clear ha hp
                  refine Reg.Op1.guarded rfl rfl e33 (fun _ => Reg.Op1.plain rfl ?_) (fun h => absurd rfl h)
                  go_wp2
                  exact ⟨rfl, hK _ _ rfl (fun j k _ _ => Reg.Adds.refl _ _ _)⟩
                · intro val ac u hR hp ha K hK      -- 15: t36 := Op.pick t33 t35 (const (Value.bool false))
                  obtain ⟨w33, h33, r33⟩ := hp 12 (by decide)
                  have e33 : (ac.tmps[33]?).getD undef = .bool true := (ha 33 (by decide)).trans h33
                  clear h33
                  obtain ⟨w35, h35, r35⟩ := hp 14 (by decide)
                  have e35 : (ac.tmps[35]?).getD undef = .bool false := (ha 35 (by decide)).trans h35
                  clear h35
                  clear ha hp
                  refine Reg.Op1.plain rfl ?_
                  go_wp2
                  exact ⟨rfl, hK _ _ rfl (fun j k _ _ => Reg.Adds.refl _ _ _)⟩
                · intro val ac u hR hp ha K hK      -- 16: t37 := Op.move t36
                  obtain ⟨w36, h36, r36⟩ := hp 15 (by decide)
                  have e36 : (ac.tmps[36]?).getD undef = .bool false := (ha 36 (by decide)).trans h36
                  clear h36
                  clear ha hp
                  refine Reg.Op1.plain rfl ?_
                  go_wp2
                  exact ⟨rfl, hK _ _ rfl (fun j k _ _ => Reg.Adds.refl _ _ _)⟩
                · intro val ac u hR hp ha K hK      -- 17: t38 := Op.move t0
                  obtain ⟨w37, h37, r37⟩ := hp 16 (by decide)
                  have e37 : (ac.tmps[37]?).getD undef = .bool false := (ha 37 (by decide)).trans h37
                  clear h37
                  clear ha hp
                  exact Reg.Op1.guarded rfl rfl e37 (fun h => by cases h) (fun _ => hK _ _ rfl (fun j k _ _ => Reg.Adds.refl _ _ _))
                · intro val ac u hR hp ha K hK      -- 18: t39 := Op.nilCheck t38
                  obtain ⟨w37, h37, r37⟩ := hp 16 (by decide)
                  have e37 : (ac.tmps[37]?).getD undef = .bool false := (ha 37 (by decide)).trans h37
                  clear h37
                  clear ha hp
                  exact Reg.Op1.guarded rfl rfl e37 (fun h => by cases h) (fun _ => hK _ _ rfl (fun j k _ _ => Reg.Adds.refl _ _ _))
                · intro val ac u hR hp ha K hK      -- 19: t40 := Op.fieldAddr 61 t39 1
                  obtain ⟨w37, h37, r37⟩ := hp 16 (by decide)
                  have e37 : (ac.tmps[37]?).getD undef = .bool false := (ha 37 (by decide)).trans h37
                  clear h37
                  clear ha hp
                  exact Reg.Op1.guarded rfl rfl e37 (fun h => by cases h) (fun _ => hK _ _ rfl (fun j k _ _ => Reg.Adds.refl _ _ _))
                · intro val ac u hR hp ha K hK      -- 20: t41 := Op.load 24 t40
                  obtain ⟨w37, h37, r37⟩ := hp 16 (by decide)
                  have e37 : (ac.tmps[37]?).getD undef = .bool false := (ha 37 (by decide)).trans h37
                  clear h37
                  clear ha hp
                  exact Reg.Op1.guarded rfl rfl e37 (fun h => by cases h) (fun _ => hK _ _ rfl (fun j k _ _ => Reg.Adds.refl _ _ _))
                · intro val ac u hR hp ha K hK      -- 21: t42 := Op.call { builtin len, args := #[t41], argTypes := #[24] }
                  obtain ⟨w37, h37, r37⟩ := hp 16 (by decide)
                  have e37 : (ac.tmps[37]?).getD undef = .bool false := (ha 37 (by decide)).trans h37
                  clear h37
                  clear ha hp
                  exact Reg.Op1.guarded rfl rfl e37 (fun h => by cases h) (fun _ => hK _ _ rfl (fun j k _ _ => Reg.Adds.refl _ _ _))
                · intro val ac u hR hp ha K hK      -- 22: t43 := Op.binOp BinOp.lss 3 t42 (const (16:i64)) 3
                  obtain ⟨w37, h37, r37⟩ := hp 16 (by decide)
                  have e37 : (ac.tmps[37]?).getD undef = .bool false := (ha 37 (by decide)).trans h37
                  clear h37
                  clear ha hp
                  exact Reg.Op1.guarded rfl rfl e37 (fun h => by cases h) (fun _ => hK _ _ rfl (fun j k _ _ => Reg.Adds.refl _ _ _))
                · intro val ac u hR hp ha K hK      -- 23: t44 := Op.pick t37 t43 (const (Value.bool false))
                  obtain ⟨w37, h37, r37⟩ := hp 16 (by decide)
                  have e37 : (ac.tmps[37]?).getD undef = .bool false := (ha 37 (by decide)).trans h37
                  clear h37
                  obtain ⟨w43, h43, r43⟩ := hp 22 (by decide)
                  have e43 : (ac.tmps[43]?).getD undef = undef := (ha 43 (by decide)).trans h43
                  clear h43
                  clear ha hp
                  refine Reg.Op1.plain rfl ?_
                  go_wp2
                  exact ⟨rfl, hK _ _ rfl (fun j k _ _ => Reg.Adds.refl _ _ _)⟩
              · intro val u hR H
                obtain ⟨_, hv, _⟩ := H 23 (by decide)
                have hv : val 23 = .bool false := hv
                have HK6 : Hid (Below w5.heap.size w5 u) := (Below.refl _ w5).drew.trans hR
                simp only [List.map_cons, List.map_nil, Reg.lay, Act.put, List.setIfInBounds_toArray, List.set_cons_succ, List.set_cons_zero, Nat.reduceAdd, hv]
                clear hR H hv
                go_wp2
                go_meet
                case rel => exact ⟨by rw [hok], HK6.out⟩
          · have d2 : (e.rng == rng) = false := by simp [hr2]
            have hok : okPut rng es e = false := by unfold okPut; rw [d2]; simp
            refine Reg.wp_region_rel (by kernel_rfl) 59 24 rfl rfl (by kernel_rfl) (Reg.Adds) (Reg.Adds.refl) (Reg.Adds.trans)
              (fun i v u => match i with
                | 0 => v = .agg (entCells e).toArray
                | 1 => v = .bool true
                | 2 => v = .bool true
                | 3 => v = .pointer (some ⟨wr.heap.size, 0, none⟩)
                | 4 => v = .pointer (some ⟨wr.heap.size, 1, none⟩)
                | 5 => v = .int .i64 e.rng
                | 6 => v = .pointer (some ⟨g, 0, none⟩)
                | 7 => v = .pointer (some ⟨g, 0, none⟩)
                | 8 => v = .pointer (some ⟨g, 0, none⟩)
                | 9 => v = .int .i64 rng
                | 10 => v = .bool false
                | 11 => v = .bool false
                | 12 => v = .bool false
                | 13 => v = undef
                | 14 => v = undef
                | 15 => v = .bool false
                | 16 => v = .bool false
                | 17 => v = undef
                | 18 => v = undef
                | 19 => v = undef
                | 20 => v = undef
                | 21 => v = undef
                | 22 => v = undef
                | 23 => v = .bool false
                | _ => True) ?_ ?_
            · refine Reg.Steps.cons ?_ (Reg.Steps.cons ?_ (Reg.Steps.cons ?_ (Reg.Steps.cons ?_ (Reg.Steps.cons ?_ (Reg.Steps.cons ?_ (Reg.Steps.cons ?_ (Reg.Steps.cons ?_ (Reg.Steps.cons ?_ (Reg.Steps.cons ?_ (Reg.Steps.cons ?_ (Reg.Steps.cons ?_ (Reg.Steps.cons ?_ (Reg.Steps.cons ?_ (Reg.Steps.cons ?_ (Reg.Steps.cons ?_ (Reg.Steps.cons ?_ (Reg.Steps.cons ?_ (Reg.Steps.cons ?_ (Reg.Steps.cons ?_ (Reg.Steps.cons ?_ (Reg.Steps.cons ?_ (Reg.Steps.cons ?_ (Reg.Steps.cons ?_ (Reg.Steps.nil _))))))))))))))))))))))))
              · intro val ac u hR hp ha K hK      -- 0: t21 := Op.load 33 t7
                have e7 : (ac.tmps[7]?).getD undef = .pointer (some ⟨wr.heap.size, 0, none⟩) := ha 7 (by decide)
                clear ha hp
                refine Reg.Op1.plain rfl ?_
                have hEu : EBx u wr.heap.size e := Mem.Bx.below (w := w5.drew) HE5.out hR HE5.out.lt
                refine Mem.load_agg _ _ entry_agg wr.heap.size 0 (entCells e) (Reg.eval_of e7) (entCells_length _) (fun j u' hu => by rw [Nat.zero_add]; exact hEu.cell hu) ?_
                exact ⟨rfl, hK _ _ rfl (fun j k _ _ => Reg.Adds.refl _ _ _)⟩
              · intro val ac u hR hp ha K hK      -- 1: t22 := Op.call { value (Operand.func 16), args := #[t21], argTypes := #[33] }
                obtain ⟨w21, h21, r21⟩ := hp 0 (by decide)
                have e21 : (ac.tmps[21]?).getD undef = .agg (entCells e).toArray := (ha 21 (by decide)).trans h21
                clear h21
                clear ha hp
                refine Reg.Op1.plain rfl ?_
                go_wp2_with fail
                refine (rightE_any e u).mono ?_
                rintro x w' ⟨rfl, hbw⟩
                rw [hr1]
                go_wp2_with fail
                exact ⟨rfl, hK _ _ rfl (fun j k _ _ => hbw)⟩
              · intro val ac u hR hp ha K hK      -- 2: t23 := Op.move t22
                obtain ⟨w22, h22, r22⟩ := hp 1 (by decide)
                have e22 : (ac.tmps[22]?).getD undef = .bool true := (ha 22 (by decide)).trans h22
                clear h22
                clear ha hp
                refine Reg.Op1.plain rfl ?_
                go_wp2
                exact ⟨rfl, hK _ _ rfl (fun j k _ _ => Reg.Adds.refl _ _ _)⟩
              · intro val ac u hR hp ha K hK      -- 3: t24 := Op.fieldAddr 33 t7 0
                have e7 : (ac.tmps[7]?).getD undef = .pointer (some ⟨wr.heap.size, 0, none⟩) := ha 7 (by decide)
                obtain ⟨w23, h23, r23⟩ := hp 2 (by decide)
                have e23 : (ac.tmps[23]?).getD undef = .bool true := (ha 23 (by decide)).trans h23
                clear h23
                clear ha hp
                refine Reg.Op1.guarded rfl rfl e23 (fun _ => Reg.Op1.plain rfl ?_) (fun h => absurd rfl h)
                go_wp2
                exact ⟨rfl, hK _ _ rfl (fun j k _ _ => Reg.Adds.refl _ _ _)⟩
              · intro val ac u hR hp ha K hK      -- 4: t25 := Op.fieldAddr 29 t24 1
                obtain ⟨w24, h24, r24⟩ := hp 3 (by decide)
                have e24 : (ac.tmps[24]?).getD undef = .pointer (some ⟨wr.heap.size, 0, none⟩) := (ha 24 (by decide)).trans h24
                clear h24
                obtain ⟨w23, h23, r23⟩ := hp 2 (by decide)
                have e23 : (ac.tmps[23]?).getD undef = .bool true := (ha 23 (by decide)).trans h23
                clear h23
                clear ha hp
                refine Reg.Op1.guarded rfl rfl e23 (fun _ => Reg.Op1.plain rfl ?_) (fun h => absurd rfl h)
                go_wp2
                exact ⟨rfl, hK _ _ rfl (fun j k _ _ => Reg.Adds.refl _ _ _)⟩
              · intro val ac u hR hp ha K hK      -- 5: t26 := Op.load 3 t25
                obtain ⟨w25, h25, r25⟩ := hp 4 (by decide)
                have e25 : (ac.tmps[25]?).getD undef = .pointer (some ⟨wr.heap.size, 1, none⟩) := (ha 25 (by decide)).trans h25
                clear h25
                obtain ⟨w23, h23, r23⟩ := hp 2 (by decide)
                have e23 : (ac.tmps[23]?).getD undef = .bool true := (ha 23 (by decide)).trans h23
                clear h23
                clear ha hp
                refine Reg.Op1.guarded rfl rfl e23 (fun _ => Reg.Op1.plain rfl ?_) (fun h => absurd rfl h)
                have x0 := (hR.cell (p := ⟨wr.heap.size, 1, none⟩) HE5.out.lt).trans (HE5.out.cell (j := 1) rfl)
                go_wp2
                exact ⟨rfl, hK _ _ rfl (fun j k _ _ => Reg.Adds.refl _ _ _)⟩
              · intro val ac u hR hp ha K hK      -- 6: t27 := Op.move t0
                have e0 : (ac.tmps[0]?).getD undef = .pointer (some ⟨g, 0, none⟩) := ha 0 (by decide)
                obtain ⟨w23, h23, r23⟩ := hp 2 (by decide)
                have e23 : (ac.tmps[23]?).getD undef = .bool true := (ha 23 (by decide)).trans h23
                clear h23
                clear ha hp
                refine Reg.Op1.guarded rfl rfl e23 (fun _ => Reg.Op1.plain rfl ?_) (fun h => absurd rfl h)
                go_wp2
                exact ⟨rfl, hK _ _ rfl (fun j k _ _ => Reg.Adds.refl _ _ _)⟩
              · intro val ac u hR hp ha K hK      -- 7: t28 := Op.nilCheck t27
                obtain ⟨w27, h27, r27⟩ := hp 6 (by decide)
                have e27 : (ac.tmps[27]?).getD undef = .pointer (some ⟨g, 0, none⟩) := (ha 27 (by decide)).trans h27
                clear h27
                obtain ⟨w23, h23, r23⟩ := hp 2 (by decide)
                have e23 : (ac.tmps[23]?).getD undef = .bool true := (ha 23 (by decide)).trans h23
                clear h23
                clear ha hp
                refine Reg.Op1.guarded rfl rfl e23 (fun _ => Reg.Op1.plain rfl ?_) (fun h => absurd rfl h)
                go_wp2
                exact ⟨rfl, hK _ _ rfl (fun j k _ _ => Reg.Adds.refl _ _ _)⟩
              · intro val ac u hR hp ha K hK      -- 8: t29 := Op.fieldAddr 61 t28 0
                obtain ⟨w28, h28, r28⟩ := hp 7 (by decide)
                have e28 : (ac.tmps[28]?).getD undef = .pointer (some ⟨g, 0, none⟩) := (ha 28 (by decide)).trans h28
                clear h28
                obtain ⟨w23, h23, r23⟩ := hp 2 (by decide)
                have e23 : (ac.tmps[23]?).getD undef = .bool true := (ha 23 (by decide)).trans h23
                clear h23
                clear ha hp
                refine Reg.Op1.guarded rfl rfl e23 (fun _ => Reg.Op1.plain rfl ?_) (fun h => absurd rfl h)
                go_wp2
                exact ⟨rfl, hK _ _ rfl (fun j k _ _ => Reg.Adds.refl _ _ _)⟩
              · intro val ac u hR hp ha K hK      -- 9: t30 := Op.load 3 t29
                obtain ⟨w29, h29, r29⟩ := hp 8 (by decide)
                have e29 : (ac.tmps[29]?).getD undef = .pointer (some ⟨g, 0, none⟩) := (ha 29 (by decide)).trans h29
                clear h29
                obtain ⟨w23, h23, r23⟩ := hp 2 (by decide)
                have e23 : (ac.tmps[23]?).getD undef = .bool true := (ha 23 (by decide)).trans h23
                clear h23
                clear ha hp
                refine Reg.Op1.guarded rfl rfl e23 (fun _ => Reg.Op1.plain rfl ?_) (fun h => absurd rfl h)
                have x0 := (hR.cell (p := ⟨g, 0, none⟩) HA5.out.B.lt).trans (HA5.out.B.cell (j := 0) rfl)
                go_wp2
                exact ⟨rfl, hK _ _ rfl (fun j k _ _ => Reg.Adds.refl _ _ _)⟩
              · intro val ac u hR hp ha K hK      -- 10: t31 := Op.binOp BinOp.eql 3 t26 t30 3
                obtain ⟨w26, h26, r26⟩ := hp 5 (by decide)
                have e26 : (ac.tmps[26]?).getD undef = .int .i64 e.rng := (ha 26 (by decide)).trans h26
                clear h26
                obtain ⟨w30, h30, r30⟩ := hp 9 (by decide)
                have e30 : (ac.tmps[30]?).getD undef = .int .i64 rng := (ha 30 (by decide)).trans h30
                clear h30
                obtain ⟨w23, h23, r23⟩ := hp 2 (by decide)
                have e23 : (ac.tmps[23]?).getD undef = .bool true := (ha 23 (by decide)).trans h23
                clear h23
                clear ha hp
                refine Reg.Op1.guarded rfl rfl e23 (fun _ => Reg.Op1.plain rfl ?_) (fun h => absurd rfl h)
                go_wp2
                exact ⟨rfl, hK _ _ rfl (fun j k _ _ => Reg.Adds.refl _ _ _)⟩
              · intro val ac u hR hp ha K hK      -- 11: t32 := Op.pick t23 t31 (const (Value.bool false))
                obtain ⟨w23, h23, r23⟩ := hp 2 (by decide)
                have e23 : (ac.tmps[23]?).getD undef = .bool true := (ha 23 (by decide)).trans h23
                clear h23
                obtain ⟨w31, h31, r31⟩ := hp 10 (by decide)
                have e31 : (ac.tmps[31]?).getD undef = .bool false := (ha 31 (by decide)).trans h31
                clear h31
                clear ha hp
                refine Reg.Op1.plain rfl ?_
                go_wp2
                exact ⟨rfl, hK _ _ rfl (fun j k _ _ => Reg.Adds.refl _ _ _)⟩
              · intro val ac u hR hp ha K hK      -- 12: t33 := Op.move t32
                obtain ⟨w32, h32, r32⟩ := hp 11 (by decide)
                have e32 : (ac.tmps[32]?).getD undef = .bool false := (ha 32 (by decide)).trans h32
                clear h32
                clear ha hp
                refine Reg.Op1.plain rfl ?_
                go_wp2
                exact ⟨rfl, hK _ _ rfl (fun j k _ _ => Reg.Adds.refl _ _ _)⟩
              · intro val ac u hR hp ha K hK      -- 13: t34 := Op.move t8
                obtain ⟨w33, h33, r33⟩ := hp 12 (by decide)
                have e33 : (ac.tmps[33]?).getD undef = .bool false := (ha 33 (by decide)).trans h33
                clear h33
                clear ha hp
                exact Reg.Op1.guarded rfl rfl e33 (fun h => by cases h) (fun _ => hK _ _ rfl (fun j k _ _ => Reg.Adds.refl _ _ _))
              · intro val ac u hR hp ha K hK      -- 14: t35 := Op.unOp UnOp.not 4 t34
                obtain ⟨w33, h33, r33⟩ := hp 12 (by decide)
                have e33 : (ac.tmps[33]?).getD undef = .bool false := (ha 33 (by decide)).trans h33
                clear h33
                clear ha hp
                exact Reg.Op1.guarded rfl rfl e33 (fun h => by cases h) (fun _ => hK _ _ rfl (fun j k _ _ => Reg.Adds.refl _ _ _))
              · intro val ac u hR hp ha K hK      -- 15: t36 := Op.pick t33 t35 (const (Value.bool false))
                obtain ⟨w33, h33, r33⟩ := hp 12 (by decide)
                have e33 : (ac.tmps[33]?).getD undef = .bool false := (ha 33 (by decide)).trans h33
                clear h33
                obtain ⟨w35, h35, r35⟩ := hp 14 (by decide)
                have e35 : (ac.tmps[35]?).getD undef = undef := (ha 35 (by decide)).trans h35
                clear h35
                clear ha hp
                refine Reg.Op1.plain rfl ?_
                go_wp2
                exact ⟨rfl, hK _ _ rfl (fun j k _ _ => Reg.Adds.refl _ _ _)⟩
              · intro val ac u hR hp ha K hK      -- 16: t37 := Op.move t36
                obtain ⟨w36, h36, r36⟩ := hp 15 (by decide)
                have e36 : (ac.tmps[36]?).getD undef = .bool false := (ha 36 (by decide)).trans h36
                clear h36
                clear ha hp
                refine Reg.Op1.plain rfl ?_
                go_wp2
                exact ⟨rfl, hK _ _ rfl (fun j k _ _ => Reg.Adds.refl _ _ _)⟩
              · intro val ac u hR hp ha K hK      -- 17: t38 := Op.move t0
                obtain ⟨w37, h37, r37⟩ := hp 16 (by decide)
                have e37 : (ac.tmps[37]?).getD undef = .bool false := (ha 37 (by decide)).trans h37
                clear h37
                clear ha hp
                exact Reg.Op1.guarded rfl rfl e37 (fun h => by cases h) (fun _ => hK _ _ rfl (fun j k _ _ => Reg.Adds.refl _ _ _))
              · intro val ac u hR hp ha K hK      -- 18: t39 := Op.nilCheck t38
                obtain ⟨w37, h37, r37⟩ := hp 16 (by decide)
                have e37 : (ac.tmps[37]?).getD undef = .bool false := (ha 37 (by decide)).trans h37
                clear h37
                clear ha hp
                exact Reg.Op1.guarded rfl rfl e37 (fun h => by cases h) (fun _ => hK _ _ rfl (fun j k _ _ => Reg.Adds.refl _ _ _))
              · intro val ac u hR hp ha K hK      -- 19: t40 := Op.fieldAddr 61 t39 1
                obtain ⟨w37, h37, r37⟩ := hp 16 (by decide)
                have e37 : (ac.tmps[37]?).getD undef = .bool false := (ha 37 (by decide)).trans h37
                clear h37
                clear ha hp
                exact Reg.Op1.guarded rfl rfl e37 (fun h => by cases h) (fun _ => hK _ _ rfl (fun j k _ _ => Reg.Adds.refl _ _ _))
              · intro val ac u hR hp ha K hK      -- 20: t41 := Op.load 24 t40
                obtain ⟨w37, h37, r37⟩ := hp 16 (by decide)
                have e37 : (ac.tmps[37]?).getD undef = .bool false := (ha 37 (by decide)).trans h37
                clear h37
                clear ha hp
                exact Reg.Op1.guarded rfl rfl e37 (fun h => by cases h) (fun _ => hK _ _ rfl (fun j k _ _ => Reg.Adds.refl _ _ _))
              · intro val ac u hR hp ha K hK      -- 21: t42 := Op.call { builtin len, args := #[t41], argTypes := #[24] }
                obtain ⟨w37, h37, r37⟩ := hp 16 (by decide)
                have e37 : (ac.tmps[37]?).getD undef = .bool false := (ha 37 (by decide)).trans h37
                clear h37
                clear ha hp
                exact Reg.Op1.guarded rfl rfl e37 (fun h => by cases h) (fun _ => hK _ _ rfl (fun j k _ _ => Reg.Adds.refl _ _ _))
              · intro val ac u hR hp ha K hK      -- 22: t43 := Op.binOp BinOp.lss 3 t42 (const (16:i64)) 3
                obtain ⟨w37, h37, r37⟩ := hp 16 (by decide)
                have e37 : (ac.tmps[37]?).getD undef = .bool false := (ha 37 (by decide)).trans h37
                clear h37
                clear ha hp
                exact Reg.Op1.guarded rfl rfl e37 (fun h => by cases h) (fun _ => hK _ _ rfl (fun j k _ _ => Reg.Adds.refl _ _ _))
              · intro val ac u hR hp ha K hK      -- 23: t44 := Op.pick t37 t43 (const (Value.bool false))
                obtain ⟨w37, h37, r37⟩ := hp 16 (by decide)
                have e37 : (ac.tmps[37]?).getD undef = .bool false := (ha 37 (by decide)).trans h37
                clear h37
                obtain ⟨w43, h43, r43⟩ := hp 22 (by decide)
                have e43 : (ac.tmps[43]?).getD undef = undef := (ha 43 (by decide)).trans h43
                clear h43
                clear ha hp
                refine Reg.Op1.plain rfl ?_
                go_wp2
                exact ⟨rfl, hK _ _ rfl (fun j k _ _ => Reg.Adds.refl _ _ _)⟩
            · intro val u hR H
              obtain ⟨_, hv, _⟩ := H 23 (by decide)
              have hv : val 23 = .bool false := hv
              have HK6 : Hid (Below w5.heap.size w5 u) := (Below.refl _ w5).drew.trans hR
              simp only [List.map_cons, List.map_nil, Reg.lay, Act.put, List.setIfInBounds_toArray, List.set_cons_succ, List.set_cons_zero, Nat.reduceAdd, hv]
              clear hR H hv
              go_wp2
              go_meet
              case rel => exact ⟨by rw [hok], HK6.out⟩
      case rest =>
        obtain ⟨rfl, hbc⟩ := hcut
        have HA6 := Lib.hid (HA5.out.below hbc)
        have HE6 : Hid (EBx wc wr.heap.size e) := HE5.out.below hbc HE5.out.lt
        have HB6 : Hid (Below wr.heap.size wr wc) := HB5.out.trans (hbc.mono HB5.out.size)
        clear hbc HA5 HE5 HB5 hth2
        rename World => w6
        cases hok : okPut rng es e
        · have HTS2 : Hid (putL rng es0 (news.take (k + 1)) = (es, n)) := by show _ = _; rw [HTS.out]; unfold putStep; rw [if_neg (by simp [hok])]
          go_wp2
          go_roundw
          case rel => exact ⟨⟨k + 1, A, c, es, n, by omega, by omega, HTS2, rfl, by go_num, HA6, HK.out.trans (Mem.Keeps.of_below HB6.out) (fun _ h _ => h.elim), HQ⟩⟩
          case measure => simp [intOf]; omega
        · have hlt16 : es.length < 16 := by unfold okPut at hok; simp at hok; exact hok.2.2.2
          have HTS2 : Hid (putL rng es0 (news.take (k + 1)) = (es ++ [e], n + 1)) := by show _ = _; rw [HTS.out]; unfold putStep; rw [if_pos hok]
          have hne6 := HA6.out.ne
          have hll : (es ++ [e]).length = es.length + 1 := by simp
          clear hok HTS
          go_upto_region 7 with fail
          obtain ⟨gb, hgb⟩ : ∃ gb, wr.heap.size = gb := ⟨_, rfl⟩
          rw [hgb] at HE6 ⊢
          have HGB := Lib.hid hgb
          clear hgb
          refine Reg.wp_region_w (by kernel_rfl) 59 11 rfl rfl (by kernel_rfl) (7) (fun y => Mem.blk A = some y) (10) (fun y => y = g) (0) (fun _ => False)
            (fun i v u => match i with
              | 0 => v = .pointer (some ⟨g, 0, none⟩)
              | 1 => v = .pointer (some ⟨g, 0, none⟩)
              | 2 => v = .pointer (some ⟨g, 0, none⟩)
              | 3 => v = .pointer (some ⟨g, 1, none⟩)
              | 4 => v = .slice A es.length c
              | 5 => v = .agg (entCells e).toArray
              | 6 => ∃ s, v = .slice (some ⟨s, 0, none⟩) 1 1 ∧ Mem.Rd u (s + 1) (some ⟨s, 0, none⟩) (entCells e) ∧ s + 1 ≤ u.heap.size
              | 7 => ∃ A2 c2, v = .slice A2 (es.length + 1) c2 ∧ Mem.Own u 33 20 A2 (es.length + 1) c2 (es.flatMap entCells ++ entCells e) ∧ (A2 = A ∨ Mem.From w6.heap.size A2)
              | 8 => v = .pointer (some ⟨g, 0, none⟩)
              | 9 => v = .pointer (some ⟨g, 1, none⟩)
              | 10 => ∃ A2 c2, HAt 61 u g A2 c2 rng (es ++ [e]) ∧ (A2 = A ∨ Mem.From w6.heap.size A2)
              | _ => True) ?_ ?_
          · refine Reg.Steps.cons ?_ (Reg.Steps.cons ?_ (Reg.Steps.cons ?_ (Reg.Steps.cons ?_ (Reg.Steps.cons ?_ (Reg.Steps.cons ?_ (Reg.Steps.cons ?_ (Reg.Steps.cons ?_ (Reg.Steps.cons ?_ (Reg.Steps.cons ?_ (Reg.Steps.cons ?_ (Reg.Steps.nil _)))))))))))
            · intro val ac u hR hp ha K hK      -- 0: t45 := Op.move t0
              have e0 : (ac.tmps[0]?).getD undef = .pointer (some ⟨g, 0, none⟩) := ha 0 (by decide)
              clear ha hp
              refine Reg.Op1.plain rfl ?_
              go_wp2
              exact ⟨rfl, hK _ _ rfl (Reg.Wr.same _)⟩
            · intro val ac u hR hp ha K hK      -- 1: t46 := Op.move t0
              have e0 : (ac.tmps[0]?).getD undef = .pointer (some ⟨g, 0, none⟩) := ha 0 (by decide)
              clear ha hp
              refine Reg.Op1.plain rfl ?_
              go_wp2
              exact ⟨rfl, hK _ _ rfl (Reg.Wr.same _)⟩
            · intro val ac u hR hp ha K hK      -- 2: t47 := Op.nilCheck t46
              obtain ⟨w46, h46, r46⟩ := hp 1 (by decide)
              have e46 : (ac.tmps[46]?).getD undef = .pointer (some ⟨g, 0, none⟩) := (ha 46 (by decide)).trans h46
              clear h46
              clear ha hp
              refine Reg.Op1.plain rfl ?_
              go_wp2
              exact ⟨rfl, hK _ _ rfl (Reg.Wr.same _)⟩
            · intro val ac u hR hp ha K hK      -- 3: t48 := Op.fieldAddr 61 t47 1
              obtain ⟨w47, h47, r47⟩ := hp 2 (by decide)
              have e47 : (ac.tmps[47]?).getD undef = .pointer (some ⟨g, 0, none⟩) := (ha 47 (by decide)).trans h47
              clear h47
              clear ha hp
              refine Reg.Op1.plain rfl ?_
              go_wp2
              exact ⟨rfl, hK _ _ rfl (Reg.Wr.same _)⟩
            · intro val ac u hR hp ha K hK      -- 4: t49 := Op.load 24 t48
              obtain ⟨w48, h48, r48⟩ := hp 3 (by decide)
              have e48 : (ac.tmps[48]?).getD undef = .pointer (some ⟨g, 1, none⟩) := (ha 48 (by decide)).trans h48
              clear h48
              clear ha hp
              refine Reg.Op1.plain rfl ?_
              have hq : Mem.Keeps (fun _ => False) w6 u := (Mem.Keeps.refl (fun _ => False) w6).drew.trans (Reg.Wr.only3 hR (by decide +kernel) (by decide +kernel)) (fun _ h _ => h)
              have x1 := (HA6.out.B.keeps hq id).cell (j := 1) rfl
              go_wp2
              exact ⟨rfl, hK _ _ rfl (Reg.Wr.same _)⟩
            · intro val ac u hR hp ha K hK      -- 5: t50 := Op.load 33 t7
              have e7 : (ac.tmps[7]?).getD undef = .pointer (some ⟨gb, 0, none⟩) := ha 7 (by decide)
              clear ha hp
              refine Reg.Op1.plain rfl ?_
              have hq : Mem.Keeps (fun _ => False) w6 u := (Mem.Keeps.refl (fun _ => False) w6).drew.trans (Reg.Wr.only3 hR (by decide +kernel) (by decide +kernel)) (fun _ h _ => h)
              have hEu : EBx u gb e := HE6.out.keeps hq id
              refine Mem.load_agg _ _ entry_agg gb 0 (entCells e) (Reg.eval_of e7) (entCells_length _) (fun j u' hu => by rw [Nat.zero_add]; exact hEu.cell hu) ?_
              exact ⟨rfl, hK _ _ rfl (Reg.Wr.same _)⟩
            · intro val ac u hR hp ha K hK      -- 6: t51 := Op.buildSlice 24 1 #[(0, t50)]
              obtain ⟨w50, h50, r50⟩ := hp 5 (by decide)
              have e50 : (ac.tmps[50]?).getD undef = .agg (entCells e).toArray := (ha 50 (by decide)).trans h50
              clear h50
              clear ha hp
              refine Reg.Op1.plain rfl ?_
              refine Mem.build1_agg _ _ 20 _ Try.underlying24 entry_zero (by decide) (by decide) (entCells e) (Reg.eval_of e50) (entCells_length e) ?_
              exact ⟨rfl, hK _ _ ⟨u.heap.size, rfl, Mem.Rd.alloc_new u _ _ _ rfl, by simp⟩ (Reg.Wr.quiet ((Mem.Keeps.refl _ u).alloc _))⟩
            · intro val ac u hR hp ha K hK      -- 7: t52 := Op.call { builtin append, args := #[t49, t51], argTypes := #[24, 24] }
              obtain ⟨w49, h49, r49⟩ := hp 4 (by decide)
              have e49 : (ac.tmps[49]?).getD undef = .slice A es.length c := (ha 49 (by decide)).trans h49
              clear h49
              obtain ⟨w51, h51, r51⟩ := hp 6 (by decide)
              have e51 : (ac.tmps[51]?).getD undef = val 6 := ha 51 (by decide)
              clear ha hp
              refine Reg.Op1.plain rfl ?_
              obtain ⟨s, hv, hrd, hsz⟩ := h51
              rw [hv] at e51
              have hq : Mem.Keeps (fun _ => False) w6 u := (Mem.Keeps.refl (fun _ => False) w6).drew.trans (Reg.Wr.only3 hR (by decide +kernel) (by decide +kernel)) (fun _ h _ => h)
              have ho := HA6.out.O.keeps hq (fun _ _ h => h)
              have hrd' := hrd.keeps (Reg.Wr.only3 r51 (by decide +kernel) (by decide +kernel)) (fun _ h => h.elim) hsz
              refine Mem.wpList_app u rfl (.tmp 49) (.tmp 51) _ rfl entries_elem A es.length c _ (Reg.eval_of e49) (s + 1) (some ⟨s, 0, none⟩) 1 1 (entCells e) (Reg.eval_of e51) ?_ ho hrd' rfl (ent_one e) (by unfold maxLen; omega) (by omega)
              intro A2 c2 w' hown hgr hat
              exact ⟨rfl, hK _ _ ⟨A2, c2, rfl, hown, hat.elim .inl (fun h => .inr (by rw [h]; exact Mem.From.some_ hq.size))⟩ (Reg.Wr.does1 ((Mem.Keeps.refl _ u).grown hgr (fun k h _ => h)))⟩
            · intro val ac u hR hp ha K hK      -- 8: t53 := Op.nilCheck t45
              obtain ⟨w45, h45, r45⟩ := hp 0 (by decide)
              have e45 : (ac.tmps[45]?).getD undef = .pointer (some ⟨g, 0, none⟩) := (ha 45 (by decide)).trans h45
              clear h45
              clear ha hp
              refine Reg.Op1.plain rfl ?_
              go_wp2
              exact ⟨rfl, hK _ _ rfl (Reg.Wr.same _)⟩
            · intro val ac u hR hp ha K hK      -- 9: t54 := Op.fieldAddr 61 t53 1
              obtain ⟨w53, h53, r53⟩ := hp 8 (by decide)
              have e53 : (ac.tmps[53]?).getD undef = .pointer (some ⟨g, 0, none⟩) := (ha 53 (by decide)).trans h53
              clear h53
              clear ha hp
              refine Reg.Op1.plain rfl ?_
              go_wp2
              exact ⟨rfl, hK _ _ rfl (Reg.Wr.same _)⟩
            · intro val ac u hR hp ha K hK      -- 10: Op.store 24 t54 t52
              obtain ⟨w54, h54, r54⟩ := hp 9 (by decide)
              have e54 : (ac.tmps[54]?).getD undef = .pointer (some ⟨g, 1, none⟩) := (ha 54 (by decide)).trans h54
              clear h54
              obtain ⟨w52, h52, r52⟩ := hp 7 (by decide)
              have e52 : (ac.tmps[52]?).getD undef = val 7 := ha 52 (by decide)
              clear ha hp
              refine Reg.Op1.plain rfl ?_
              obtain ⟨A2, c2, hv, hown, hat⟩ := h52
              rw [hv] at e52
              have hq : Mem.Keeps (fun y => Mem.blk A = some y ∨ False) w6 u := (Mem.Keeps.refl (fun y => Mem.blk A = some y ∨ False) w6).drew.trans (Reg.Wr.not2 hR (by decide +kernel)) (fun _ h _ => h)
              have hB := HA6.out.B.keeps hq (fun h => h.elim (fun h => hne6 g h rfl) id)
              have ho := hown.keeps (Reg.Wr.only3 r52 (by decide +kernel) (by decide +kernel)) (fun _ _ h => h)
              have x1 := hB.cell (j := 1) rfl
              have xf := hB.fr
              have hn2 : ∀ k, Mem.blk A2 = some k → k ≠ g := by
                intro k hk
                rcases hat with rfl | hf
                · exact hne6 k hk
                · have h1 := hf.blk k hk
                  have h2 := HA6.out.B.lt
                  omega
              have hset := HAt.set (es' := es ++ [e]) hB (by show Mem.Own _ _ _ _ _ _ _; rw [hll, List.flatMap_append]; simpa using ho) hn2
              rw [hll] at hset
              go_wp2
              exact ⟨rfl, hK undef _ ⟨A2, c2, hset, hat⟩ (Reg.Wr.does2 ((Mem.Keeps.refl (fun y => y = g) u).setCell (p := ⟨g, 1, none⟩) (fun _ => rfl) _))⟩
          · intro val u hR H
            obtain ⟨w7, ⟨A2, c2, hA7, hat⟩, r7⟩ := H 10 (by decide)
            have hq : Mem.Keeps (fun y => Mem.blk A = some y ∨ y = g ∨ False) w6 u := (Mem.Keeps.refl (fun y => Mem.blk A = some y ∨ y = g ∨ False) w6).drew.trans (Reg.Wr.all hR) (fun _ h _ => h)
            have HA8 := Lib.hid (hA7.keeps (Reg.Wr.only3 r7 (by decide +kernel) (by decide +kernel)) (fun _ _ h => h))
            have HK8 : Hid (Mem.Keeps (HB g A0) w u) := (HK.out.trans (Mem.Keeps.of_below HB6.out) (fun _ h _ => h.elim)).trans hq (fun y h hlt => by
              rcases h with h | h | h
              · rcases HQ.out y h with h2 | h2
                · exact .inr h2
                · omega
              · exact .inl h
              · exact h.elim)
            have HQ8 : Hid (∀ q, Mem.blk A2 = some q → Mem.blk A0 = some q ∨ w.heap.size ≤ q) := fun q hq2 => by
              rcases hat with rfl | hf
              · exact HQ.out q hq2
              · have h1 := hf.blk q hq2
                have h2 := HB6.out.size
                exact .inr (by omega)
            simp only [List.map_cons, List.map_nil, Reg.lay, Act.put, List.setIfInBounds_toArray, List.set_cons_succ, List.set_cons_zero, Nat.reduceAdd]
            clear hR H hq hA7 hat r7
            go_wp2
            go_roundw
            case rel => exact ⟨⟨k + 1, A2, c2, es ++ [e], n + 1, by omega, by omega, HTS2, by go_num, by go_num, HA8, HK8, HQ8⟩⟩
            case measure => simp [intOf]; omega
    · obtain rfl : k = news.length := by omega
      rw [List.take_length] at HP
      go_wp2
      go_ret
      refine ⟨A, c, ?_, ?_, HK.out, HQ.out⟩
      · rw [HP.out]; rfl
      · rw [HP.out]; exact HA.out
end Go.Proofs.Ytgdcfdjfoeoknaa
