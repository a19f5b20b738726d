/- The walks of serve.Greatest and serve.within: what they compute. No conditions. -/
import Derived.Test.YtiibgkgbghganaaGt
import Derived.Test.YtiibgkgbghganaaSvE
namespace Go.Proofs.Ytiibgkgbghganaa
open Go.ChangeShapes Go.WideShapes Go.ChangeAt Go.RowKit
set_option linter.unusedVariables false
set_option linter.unusedSimpArgs false

namespace Vec
def gStep (key : ByteArray) (p : Ent × Bool) (e : Ent) : Ent × Bool := if e.key = key then (if p.2 = false ∨ 0 < gtE e p.1 then (e, true) else p) else p
def greatest (key : ByteArray) (es : List Ent) : Ent × Bool := es.foldl (gStep key) (ent0, false)
theorem greatest_snoc (key : ByteArray) (es : List Ent) (e : Ent) : greatest key (es ++ [e]) = gStep key (greatest key es) e := by unfold greatest; rw [List.foldl_append]; rfl
structure GrRel (w : World) (key : ByteArray) (es : List Ent) (vf vi : Value) (wr : World) : Prop where
  out : ∃ k : Nat, k ≤ es.length ∧ vf = .bool (greatest key (es.take k)).2 ∧ vi = .int .i64 k ∧ Hid (EBx wr w.heap.size ent0) ∧ Hid (EBx wr (w.heap.size + 1) (greatest key (es.take k)).1) ∧ Hid (Below w.heap.size w wr)
end Vec
open Vec in
set_option maxRecDepth 8000 in
set_option maxHeartbeats 4000000 in
theorem greatest_any (key : ByteArray) (A : Option Addr) (c : Nat) (es : List Vec.Ent) (B : Nat) (w : World) (hr : Mem.Rd w B A (es.flatMap Vec.entCells)) (hB : B ≤ w.heap.size) (hn : es.length ≤ maxLen) :
    Calls Try.prog 10 #[.string key, .slice A es.length c] w fun e w' => e = .returned (.tuple #[Vec.E (Vec.greatest key es).1, .bool (Vec.greatest key es).2]) ∧ Below w.heap.size w w' := by
  unfold maxLen at hn
  have hm := Lib.hid (hr.more hB)
  clear hr
  go_enter Try.func10, Try.ntmps10
  go_wp2
  go_loopw [7, 12] (GrRel w key es) (fun _ t _ => es.length - (intOf t).toNat)
  case atStart =>
    refine ⟨⟨0, by omega, rfl, rfl, ?_, ?_, ?_⟩⟩
    · exact (EBx.new w ent0 rfl).below (Reg.below_new _ _) (by simp)
    · exact EBx.new (w.alloc _) ent0 (by simp)
    · exact (Reg.below_new _ _).alloc (by simp) _
  case round =>
    obtain ⟨k, hk, rfl, rfl, H0, H1, HB⟩ := hrel.out
    have hz := HB.out.size
    have hz1 := H1.out.lt
    by_cases hlt : k < es.length
    · obtain ⟨b, o, e, rfl, hb, he, hat⟩ := ent_elem hm.out hlt
      have HAT := Lib.hid (hat.below HB.out hb)
      have hts := Lib.hid (show greatest key (es.take (k + 1)) = gStep key (greatest key (es.take k)) e by rw [Mem.take_snoc he, greatest_snoc])
      obtain ⟨⟨m, f⟩, hmf⟩ : ∃ mf, greatest key (es.take k) = mf := ⟨_, rfl⟩
      rw [hmf] at H1 hts ⊢
      clear hat he hmf
      go_upto_region 6 with (first | ((with_reducible refine Mem.load_agg _ _ entry_agg b (o + k * 20) (entCells e) ?hx (entCells_length e) HAT.out.c ?_); case hx => exact rfl) | ((with_reducible refine Mem.store_agg _ _ entry_agg wr.heap.size ?zs (entCells e) ?hx ?hy ?hb (entCells_length e) (ent_one e) ?_); (case hx => exact rfl); (case hy => exact rfl); (case hb => exact Mem.Bx.new wr _ _ rfl rfl); intro w2 hb2 hk2 hs2))
      have HK2 := Lib.hid (hk2.newBox rfl)
      have hs3 : wr.heap.size < w2.heap.size := hb2.lt
      have x6 := hb2.cell (j := 6) rfl
      have HE2 : Hid (EBx w2 wr.heap.size e) := hb2
      have H0' : Hid (EBx w2 w.heap.size ent0) := H0.out.keeps HK2.out id
      have HM2 : Hid (EBx w2 (w.heap.size + 1) m) := H1.out.keeps HK2.out id
      have HB' : Hid (Below w.heap.size w w2) := HB.out.trans (HK2.out.below (fun k h => h.elim) HB.out.size)
      clear hb2 hk2 hs2 HAT H0 H1
      by_cases hkey : e.key = key
      · have hkd := str_eq hkey
        cases f
        case false =>
          have hts : Hid (greatest key (es.take (k + 1)) = (e, true)) := by
            show _ = _
            rw [hts.out, gStep, if_pos hkey, if_pos (.inl rfl)]
          have HE2 : Hid (EBx (w2.drewN 0) wr.heap.size e) := HE2
          go_wp2
          go_quiet (fail)
          have HE2 : Hid (EBx (w2.drewN nq) wr.heap.size e) := HE2
          have HM2 : Hid (EBx (w2.drewN nq) (w.heap.size + 1) m) := HM2
          have H0' : Hid (EBx (w2.drewN nq) w.heap.size ent0) := H0'
          have HB' : Hid (Below w.heap.size w (w2.drewN nq)) := Mem.below_drewN HB'.out _
          go_wp2_with (first | ((with_reducible refine Mem.load_agg _ _ entry_agg wr.heap.size 0 (entCells e) ?hx (entCells_length e) (fun j u hu => by rw [Nat.zero_add]; exact HE2.out.cell hu) ?_); case hx => exact rfl) | ((with_reducible refine Mem.store_agg _ _ entry_agg (w.heap.size + 1) (entCells m) (entCells e) ?hx ?hy HM2.out (entCells_length e) (ent_one e) ?_); (case hx => exact rfl); (case hy => exact rfl); intro w3 hb3 hk3 hs3))
          go_roundw
          case rel =>
            refine ⟨⟨k + 1, by omega, by rw [hts.out], by go_num, ?_, ?_, ?_⟩⟩
            · exact H0'.out.keeps hk3 (by omega)
            · show EBx _ _ _; rw [hts.out]; exact hb3
            · exact HB'.out.trans (hk3.below (fun k h => by omega) HB'.out.size)
          case measure => simp [intOf]; omega
        case true =>
          obtain ⟨x3, x4, x5⟩ := HE2.out.st
          have x2 := HE2.out.cell (j := 2) rfl
          obtain ⟨y3, y4, y5⟩ := HM2.out.st
          have y2 := HM2.out.cell (j := 2) rfl
          have hgb : w.heap.size + 1 < w2.heap.size := by omega
          go_upto_region 7 with fail
          refine Reg.wp_region_rel (by kernel_rfl) 43 19 rfl rfl (by kernel_rfl) (Reg.Adds) (Reg.Adds.refl) (Reg.Adds.trans)
            (fun i v u => match i with
              | 0 => v = .bool true
              | 1 => v = .bool false
              | 2 => v = .bool false
              | 3 => v = .pointer (some ⟨wr.heap.size, 3, none⟩)
              | 4 => v = Stamp.S e.st
              | 5 => v = .pointer (some ⟨w.heap.size + 1, 3, none⟩)
              | 6 => v = Stamp.S m.st
              | 7 => v = .int .i64 (Stamp.cmpS e.st m.st)
              | 8 => v = .pointer (some ⟨wr.heap.size, 0, none⟩)
              | 9 => v = .pointer (some ⟨wr.heap.size, 2, none⟩)
              | 10 => v = .int .i64 e.seq
              | 11 => v = .pointer (some ⟨w.heap.size + 1, 0, none⟩)
              | 12 => v = .pointer (some ⟨w.heap.size + 1, 2, none⟩)
              | 13 => v = .int .i64 m.seq
              | 14 => v = .int .i64 (Stamp.cmpI e.seq m.seq)
              | 15 => ∃ s, v = .slice (some ⟨s, 0, none⟩) 2 2 ∧ Mem.Rd u (s + 1) (some ⟨s, 0, none⟩) ([Stamp.cmpS e.st m.st, Stamp.cmpI e.seq m.seq].map Stamp.intV) ∧ s + 1 ≤ u.heap.size
              | 16 => v = .int .i64 (gtE e m)
              | 17 => v = .bool (decide (0 < gtE e m))
              | 18 => v = .bool (decide (0 < gtE e m))
              | _ => True) ?_ ?_
          · refine Reg.Steps.cons ?_ (Reg.Steps.cons ?_ (Reg.Steps.cons ?_ (Reg.Steps.cons ?_ (Reg.Steps.cons ?_ (Reg.Steps.cons ?_ (Reg.Steps.cons ?_ (Reg.Steps.cons ?_ (Reg.Steps.cons ?_ (Reg.Steps.cons ?_ (Reg.Steps.cons ?_ (Reg.Steps.cons ?_ (Reg.Steps.cons ?_ (Reg.Steps.cons ?_ (Reg.Steps.cons ?_ (Reg.Steps.cons ?_ (Reg.Steps.cons ?_ (Reg.Steps.cons ?_ (Reg.Steps.cons ?_ (Reg.Steps.nil _)))))))))))))))))))
            · intro val ac u hR hp ha K hK      -- 0: t20 := Op.move t7
              have e7 : (ac.tmps[7]?).getD undef = .bool true := ha 7 (by decide)
              clear ha hp
              refine Reg.Op1.plain rfl ?_
              go_wp2
              exact ⟨rfl, hK _ _ rfl (fun j k _ _ => Reg.Adds.refl _ _ _)⟩
            · intro val ac u hR hp ha K hK      -- 1: t21 := Op.unOp UnOp.not 4 t20
              obtain ⟨w20, h20, r20⟩ := hp 0 (by decide)
              have e20 : (ac.tmps[20]?).getD undef = .bool true := (ha 20 (by decide)).trans h20
              clear h20
              clear ha hp
              refine Reg.Op1.plain rfl ?_
              go_wp2
              exact ⟨rfl, hK _ _ rfl (fun j k _ _ => Reg.Adds.refl _ _ _)⟩
            · intro val ac u hR hp ha K hK      -- 2: t22 := Op.move t21
              obtain ⟨w21, h21, r21⟩ := hp 1 (by decide)
              have e21 : (ac.tmps[21]?).getD undef = .bool false := (ha 21 (by decide)).trans h21
              clear h21
              clear ha hp
              refine Reg.Op1.plain rfl ?_
              go_wp2
              exact ⟨rfl, hK _ _ rfl (fun j k _ _ => Reg.Adds.refl _ _ _)⟩
            · intro val ac u hR hp ha K hK      -- 3: t23 := Op.fieldAddr 33 t9 1
              have e9 : (ac.tmps[9]?).getD undef = .pointer (some ⟨wr.heap.size, 0, none⟩) := ha 9 (by decide)
              obtain ⟨w22, h22, r22⟩ := hp 2 (by decide)
              have e22 : (ac.tmps[22]?).getD undef = .bool false := (ha 22 (by decide)).trans h22
              clear h22
              clear ha hp
              refine Reg.Op1.guarded rfl rfl e22 (fun _ => Reg.Op1.plain rfl ?_) (fun h => absurd rfl h)
              go_wp2
              exact ⟨rfl, hK _ _ rfl (fun j k _ _ => Reg.Adds.refl _ _ _)⟩
            · intro val ac u hR hp ha K hK      -- 4: t24 := Op.load 28 t23
              obtain ⟨w23, h23, r23⟩ := hp 3 (by decide)
              have e23 : (ac.tmps[23]?).getD undef = .pointer (some ⟨wr.heap.size, 3, none⟩) := (ha 23 (by decide)).trans h23
              clear h23
              obtain ⟨w22, h22, r22⟩ := hp 2 (by decide)
              have e22 : (ac.tmps[22]?).getD undef = .bool false := (ha 22 (by decide)).trans h22
              clear h22
              clear ha hp
              refine Reg.Op1.guarded rfl rfl e22 (fun _ => Reg.Op1.plain rfl ?_) (fun h => absurd rfl h)
              have z3 := (hR.cell (p := ⟨wr.heap.size, 3, none⟩) hs3).trans x3
              have z4 := (hR.cell (p := ⟨wr.heap.size, 4, none⟩) hs3).trans x4
              have z5 := (hR.cell (p := ⟨wr.heap.size, 5, none⟩) hs3).trans x5
              go_wp2
              exact ⟨rfl, hK _ _ rfl (fun j k _ _ => Reg.Adds.refl _ _ _)⟩
            · intro val ac u hR hp ha K hK      -- 5: t25 := Op.fieldAddr 33 t6 1
              have e6 : (ac.tmps[6]?).getD undef = .pointer (some ⟨w.heap.size + 1, 0, none⟩) := ha 6 (by decide)
              obtain ⟨w22, h22, r22⟩ := hp 2 (by decide)
              have e22 : (ac.tmps[22]?).getD undef = .bool false := (ha 22 (by decide)).trans h22
              clear h22
              clear ha hp
              refine Reg.Op1.guarded rfl rfl e22 (fun _ => Reg.Op1.plain rfl ?_) (fun h => absurd rfl h)
              go_wp2
              exact ⟨rfl, hK _ _ rfl (fun j k _ _ => Reg.Adds.refl _ _ _)⟩
            · intro val ac u hR hp ha K hK      -- 6: t26 := Op.load 28 t25
              obtain ⟨w25, h25, r25⟩ := hp 5 (by decide)
              have e25 : (ac.tmps[25]?).getD undef = .pointer (some ⟨w.heap.size + 1, 3, none⟩) := (ha 25 (by decide)).trans h25
              clear h25
              obtain ⟨w22, h22, r22⟩ := hp 2 (by decide)
              have e22 : (ac.tmps[22]?).getD undef = .bool false := (ha 22 (by decide)).trans h22
              clear h22
              clear ha hp
              refine Reg.Op1.guarded rfl rfl e22 (fun _ => Reg.Op1.plain rfl ?_) (fun h => absurd rfl h)
              have z3 := (hR.cell (p := ⟨w.heap.size + 1, 3, none⟩) hgb).trans y3
              have z4 := (hR.cell (p := ⟨w.heap.size + 1, 4, none⟩) hgb).trans y4
              have z5 := (hR.cell (p := ⟨w.heap.size + 1, 5, none⟩) hgb).trans y5
              go_wp2
              exact ⟨rfl, hK _ _ rfl (fun j k _ _ => Reg.Adds.refl _ _ _)⟩
            · intro val ac u hR hp ha K hK      -- 7: t27 := Op.call { value (Operand.func 24), args := #[t24, t26], argTypes := #[28, 28] }
              obtain ⟨w24, h24, r24⟩ := hp 4 (by decide)
              have e24 : (ac.tmps[24]?).getD undef = Stamp.S e.st := (ha 24 (by decide)).trans h24
              clear h24
              obtain ⟨w26, h26, r26⟩ := hp 6 (by decide)
              have e26 : (ac.tmps[26]?).getD undef = Stamp.S m.st := (ha 26 (by decide)).trans h26
              clear h26
              obtain ⟨w22, h22, r22⟩ := hp 2 (by decide)
              have e22 : (ac.tmps[22]?).getD undef = .bool false := (ha 22 (by decide)).trans h22
              clear h22
              clear ha hp
              refine Reg.Op1.guarded rfl rfl e22 (fun _ => Reg.Op1.plain rfl ?_) (fun h => absurd rfl h)
              go_wp2_with fail
              refine (cmp_any _ _ _).mono ?_
              rintro x w' ⟨rfl, hbw⟩
              go_wp2_with fail
              exact ⟨rfl, hK _ _ rfl (fun j k _ _ => hbw)⟩
            · intro val ac u hR hp ha K hK      -- 8: t28 := Op.fieldAddr 33 t9 0
              have e9 : (ac.tmps[9]?).getD undef = .pointer (some ⟨wr.heap.size, 0, none⟩) := ha 9 (by decide)
              obtain ⟨w22, h22, r22⟩ := hp 2 (by decide)
              have e22 : (ac.tmps[22]?).getD undef = .bool false := (ha 22 (by decide)).trans h22
              clear h22
              clear ha hp
              refine Reg.Op1.guarded rfl rfl e22 (fun _ => Reg.Op1.plain rfl ?_) (fun h => absurd rfl h)
              go_wp2
              exact ⟨rfl, hK _ _ rfl (fun j k _ _ => Reg.Adds.refl _ _ _)⟩
            · intro val ac u hR hp ha K hK      -- 9: t29 := Op.fieldAddr 26 t28 2
              obtain ⟨w28, h28, r28⟩ := hp 8 (by decide)
              have e28 : (ac.tmps[28]?).getD undef = .pointer (some ⟨wr.heap.size, 0, none⟩) := (ha 28 (by decide)).trans h28
              clear h28
              obtain ⟨w22, h22, r22⟩ := hp 2 (by decide)
              have e22 : (ac.tmps[22]?).getD undef = .bool false := (ha 22 (by decide)).trans h22
              clear h22
              clear ha hp
              refine Reg.Op1.guarded rfl rfl e22 (fun _ => Reg.Op1.plain rfl ?_) (fun h => absurd rfl h)
              go_wp2
              exact ⟨rfl, hK _ _ rfl (fun j k _ _ => Reg.Adds.refl _ _ _)⟩
            · intro val ac u hR hp ha K hK      -- 10: t30 := Op.load 3 t29
              obtain ⟨w29, h29, r29⟩ := hp 9 (by decide)
              have e29 : (ac.tmps[29]?).getD undef = .pointer (some ⟨wr.heap.size, 2, none⟩) := (ha 29 (by decide)).trans h29
              clear h29
              obtain ⟨w22, h22, r22⟩ := hp 2 (by decide)
              have e22 : (ac.tmps[22]?).getD undef = .bool false := (ha 22 (by decide)).trans h22
              clear h22
              clear ha hp
              refine Reg.Op1.guarded rfl rfl e22 (fun _ => Reg.Op1.plain rfl ?_) (fun h => absurd rfl h)
              have z3 := (hR.cell (p := ⟨wr.heap.size, 2, none⟩) hs3).trans x2
              go_wp2
              exact ⟨rfl, hK _ _ rfl (fun j k _ _ => Reg.Adds.refl _ _ _)⟩
            · intro val ac u hR hp ha K hK      -- 11: t31 := Op.fieldAddr 33 t6 0
              have e6 : (ac.tmps[6]?).getD undef = .pointer (some ⟨w.heap.size + 1, 0, none⟩) := ha 6 (by decide)
              obtain ⟨w22, h22, r22⟩ := hp 2 (by decide)
              have e22 : (ac.tmps[22]?).getD undef = .bool false := (ha 22 (by decide)).trans h22
              clear h22
              clear ha hp
              refine Reg.Op1.guarded rfl rfl e22 (fun _ => Reg.Op1.plain rfl ?_) (fun h => absurd rfl h)
              go_wp2
              exact ⟨rfl, hK _ _ rfl (fun j k _ _ => Reg.Adds.refl _ _ _)⟩
            · intro val ac u hR hp ha K hK      -- 12: t32 := Op.fieldAddr 26 t31 2
              obtain ⟨w31, h31, r31⟩ := hp 11 (by decide)
              have e31 : (ac.tmps[31]?).getD undef = .pointer (some ⟨w.heap.size + 1, 0, none⟩) := (ha 31 (by decide)).trans h31
              clear h31
              obtain ⟨w22, h22, r22⟩ := hp 2 (by decide)
              have e22 : (ac.tmps[22]?).getD undef = .bool false := (ha 22 (by decide)).trans h22
              clear h22
              clear ha hp
              refine Reg.Op1.guarded rfl rfl e22 (fun _ => Reg.Op1.plain rfl ?_) (fun h => absurd rfl h)
              go_wp2
              exact ⟨rfl, hK _ _ rfl (fun j k _ _ => Reg.Adds.refl _ _ _)⟩
            · intro val ac u hR hp ha K hK      -- 13: t33 := Op.load 3 t32
              obtain ⟨w32, h32, r32⟩ := hp 12 (by decide)
              have e32 : (ac.tmps[32]?).getD undef = .pointer (some ⟨w.heap.size + 1, 2, none⟩) := (ha 32 (by decide)).trans h32
              clear h32
              obtain ⟨w22, h22, r22⟩ := hp 2 (by decide)
              have e22 : (ac.tmps[22]?).getD undef = .bool false := (ha 22 (by decide)).trans h22
              clear h22
              clear ha hp
              refine Reg.Op1.guarded rfl rfl e22 (fun _ => Reg.Op1.plain rfl ?_) (fun h => absurd rfl h)
              have z3 := (hR.cell (p := ⟨w.heap.size + 1, 2, none⟩) hgb).trans y2
              go_wp2
              exact ⟨rfl, hK _ _ rfl (fun j k _ _ => Reg.Adds.refl _ _ _)⟩
            · intro val ac u hR hp ha K hK      -- 14: t34 := Op.call { value (Operand.func 25), args := #[t30, t33], argTypes := #[3, 3] }
              obtain ⟨w30, h30, r30⟩ := hp 10 (by decide)
              have e30 : (ac.tmps[30]?).getD undef = .int .i64 e.seq := (ha 30 (by decide)).trans h30
              clear h30
              obtain ⟨w33, h33, r33⟩ := hp 13 (by decide)
              have e33 : (ac.tmps[33]?).getD undef = .int .i64 m.seq := (ha 33 (by decide)).trans h33
              clear h33
              obtain ⟨w22, h22, r22⟩ := hp 2 (by decide)
              have e22 : (ac.tmps[22]?).getD undef = .bool false := (ha 22 (by decide)).trans h22
              clear h22
              clear ha hp
              refine Reg.Op1.guarded rfl rfl e22 (fun _ => Reg.Op1.plain rfl ?_) (fun h => absurd rfl h)
              go_wp2_with fail
              refine (compare_any _ _ _).mono ?_
              rintro x w' ⟨rfl, rfl⟩
              go_wp2_with fail
              exact ⟨rfl, hK _ _ rfl (fun j k _ _ => Reg.Adds.refl _ _ _)⟩
            · intro val ac u hR hp ha K hK      -- 15: t35 := Op.buildSlice 79 2 #[(0, t27), (1, t34)]
              obtain ⟨w27, h27, r27⟩ := hp 7 (by decide)
              have e27 : (ac.tmps[27]?).getD undef = .int .i64 (Stamp.cmpS e.st m.st) := (ha 27 (by decide)).trans h27
              clear h27
              obtain ⟨w34, h34, r34⟩ := hp 14 (by decide)
              have e34 : (ac.tmps[34]?).getD undef = .int .i64 (Stamp.cmpI e.seq m.seq) := (ha 34 (by decide)).trans h34
              clear h34
              obtain ⟨w22, h22, r22⟩ := hp 2 (by decide)
              have e22 : (ac.tmps[22]?).getD undef = .bool false := (ha 22 (by decide)).trans h22
              clear h22
              clear ha hp
              refine Reg.Op1.guarded rfl rfl e22 (fun _ => Reg.Op1.plain rfl ?_) (fun h => absurd rfl h)
              go_wp2
              exact ⟨rfl, hK _ _ ⟨u.heap.size, rfl, Mem.Rd.alloc_new u _ _ _ rfl, by simp⟩ (fun j k _ _ => Reg.below_new _ _)⟩
            · intro val ac u hR hp ha K hK      -- 16: t36 := Op.call { value (Operand.func 23), args := #[t35], argTypes := #[79] }
              obtain ⟨w35, h35, r35⟩ := hp 15 (by decide)
              have e35 : (ac.tmps[35]?).getD undef = val 15 := ha 35 (by decide)
              obtain ⟨w22, h22, r22⟩ := hp 2 (by decide)
              have e22 : (ac.tmps[22]?).getD undef = .bool false := (ha 22 (by decide)).trans h22
              clear h22
              clear ha hp
              refine Reg.Op1.guarded rfl rfl e22 (fun _ => Reg.Op1.plain rfl ?_) (fun h => absurd rfl h)
              obtain ⟨s, hv, hb, hs⟩ := h35
              rw [hv] at e35
              go_wp2_with fail
              refine (or_any (some ⟨s, 0, none⟩) 2 [Stamp.cmpS e.st m.st, Stamp.cmpI e.seq m.seq] (s + 1) u (hb.below (r35.mono hs)) (by simp [maxLen])).mono ?_
              rintro x w' ⟨rfl, rfl⟩
              go_wp2_with fail
              exact ⟨rfl, hK _ _ rfl (fun j k _ _ => Reg.Adds.refl _ _ _)⟩
            · intro val ac u hR hp ha K hK      -- 17: t37 := Op.binOp BinOp.gtr 3 t36 (const (0:i64)) 3
              obtain ⟨w36, h36, r36⟩ := hp 16 (by decide)
              have e36 : (ac.tmps[36]?).getD undef = .int .i64 (gtE e m) := (ha 36 (by decide)).trans h36
              clear h36
              obtain ⟨w22, h22, r22⟩ := hp 2 (by decide)
              have e22 : (ac.tmps[22]?).getD undef = .bool false := (ha 22 (by decide)).trans h22
              clear h22
              clear ha hp
              refine Reg.Op1.guarded rfl rfl e22 (fun _ => Reg.Op1.plain rfl ?_) (fun h => absurd rfl h)
              go_wp2
              exact ⟨rfl, hK _ _ rfl (fun j k _ _ => Reg.Adds.refl _ _ _)⟩
            · intro val ac u hR hp ha K hK      -- 18: t38 := Op.pick t22 (const (Value.bool true)) t37
              obtain ⟨w22, h22, r22⟩ := hp 2 (by decide)
              have e22 : (ac.tmps[22]?).getD undef = .bool false := (ha 22 (by decide)).trans h22
              clear h22
              obtain ⟨w37, h37, r37⟩ := hp 17 (by decide)
              have e37 : (ac.tmps[37]?).getD undef = .bool (decide (0 < gtE e m)) := (ha 37 (by decide)).trans h37
              clear h37
              clear ha hp
              refine Reg.Op1.plain rfl ?_
              go_wp2
              exact ⟨rfl, hK _ _ rfl (fun j k _ _ => Reg.Adds.refl _ _ _)⟩
          · intro val u hR H
            obtain ⟨w38, hv, _⟩ := H 18 (by decide)
            have hv : val 18 = .bool (decide (0 < gtE e m)) := hv
            have HR5 : Hid (Below w2.heap.size w2 u) := (Below.refl _ w2).drew.trans hR
            simp only [List.map_cons, List.map_nil, Reg.lay, Act.put, List.setIfInBounds_toArray, List.set_cons_succ, List.set_cons_zero, Nat.reduceAdd, hv]
            clear hR H hv x2 x3 x4 x5 y2 y3 y4 y5
            by_cases hgt : 0 < gtE e m
            · have hgd : decide (0 < gtE e m) = true := by simpa using hgt
              have hts : Hid (greatest key (es.take (k + 1)) = (e, true)) := by
                show _ = _
                rw [hts.out, gStep, if_pos hkey, if_pos (.inr hgt)]
              have HE2 : Hid (EBx u wr.heap.size e) := HE2.out.below HR5.out hs3
              have HM2 : Hid (EBx u (w.heap.size + 1) m) := HM2.out.below HR5.out hgb
              have H0' : Hid (EBx u w.heap.size ent0) := H0'.out.below HR5.out (by omega)
              have HB' : Hid (Below w.heap.size w u) := HB'.out.trans (HR5.out.mono (by omega))
              go_wp2_with (first | ((with_reducible refine Mem.load_agg _ _ entry_agg wr.heap.size 0 (entCells e) ?hx (entCells_length e) (fun j u hu => by rw [Nat.zero_add]; exact HE2.out.cell hu) ?_); case hx => exact rfl) | ((with_reducible refine Mem.store_agg _ _ entry_agg (w.heap.size + 1) (entCells m) (entCells e) ?hx ?hy HM2.out (entCells_length e) (ent_one e) ?_); (case hx => exact rfl); (case hy => exact rfl); intro w3 hb3 hk3 hs3))
              go_roundw
              case rel =>
                refine ⟨⟨k + 1, by omega, by rw [hts.out], by go_num, ?_, ?_, ?_⟩⟩
                · exact H0'.out.keeps hk3 (by omega)
                · show EBx _ _ _; rw [hts.out]; exact hb3
                · exact HB'.out.trans (hk3.below (fun k h => by omega) HB'.out.size)
              case measure => simp [intOf]; omega
            · have hgd : decide (0 < gtE e m) = false := by simpa using hgt
              have hts : Hid (greatest key (es.take (k + 1)) = (m, true)) := by
                show _ = _
                rw [hts.out, gStep, if_pos hkey, if_neg (by simp [hgt])]
              have HM2 : Hid (EBx u (w.heap.size + 1) m) := HM2.out.below HR5.out hgb
              have H0' : Hid (EBx u w.heap.size ent0) := H0'.out.below HR5.out (by omega)
              have HB' : Hid (Below w.heap.size w u) := HB'.out.trans (HR5.out.mono (by omega))
              go_wp2
              go_roundw
              case rel => exact ⟨⟨k + 1, by omega, by rw [hts.out], by go_num, H0', by rw [hts.out]; exact HM2, HB'⟩⟩
              case measure => simp [intOf]; omega
      · have hkd := str_ne hkey
        have hts : Hid (greatest key (es.take (k + 1)) = (m, f)) := by
          show _ = _
          rw [hts.out, gStep, if_neg hkey]
        go_wp2
        go_roundw
        case rel => exact ⟨⟨k + 1, by omega, by rw [hts.out], by go_num, H0', by rw [hts.out]; exact HM2, HB'⟩⟩
        case measure => simp [intOf]; omega
    · obtain rfl : k = es.length := by omega
      rw [List.take_length] at H1
      obtain ⟨⟨m, f⟩, hmf⟩ : ∃ mf, greatest key es = mf := ⟨_, rfl⟩
      rw [List.take_length]
      rw [hmf] at H1 ⊢
      have HMF := Lib.hid hmf
      clear hmf
      go_wp2_with (first | ((with_reducible refine Mem.load_agg _ _ entry_agg (w.heap.size + 1) 0 (entCells m) ?hx (entCells_length m) (fun j u hu => by rw [Nat.zero_add]; exact H1.out.cell hu) ?_); case hx => exact rfl) | ((with_reducible refine Mem.store_agg _ _ entry_agg w.heap.size (entCells ent0) (entCells m) ?hx ?hy H0.out (entCells_length m) (ent_one m) ?_); (case hx => exact rfl); (case hy => exact rfl); intro w3 hb3 hk3 hs3))
      refine bodyPost_ret (v := .tuple #[E m, .bool f]) ?_ rfl ⟨by rw [HMF.out], HB.out.trans (hk3.below (fun k h => by omega) HB.out.size)⟩
      rw [Mem.results_agg2 Try.results10 entry_agg rfl hb3]
      rfl
end Go.Proofs.Ytiibgkgbghganaa
