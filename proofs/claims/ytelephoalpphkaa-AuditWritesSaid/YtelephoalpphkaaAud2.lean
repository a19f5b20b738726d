/- The walks of audit.Visible and audit.Closed: what they compute. No conditions. -/
import Derived.Test.YtelephoalpphkaaAud0
import Derived.Test.YtelephoalpphkaaTyCov
set_option maxRecDepth 8000
namespace Go.Proofs.Ytelephoalpphkaa
open Go.ChangeShapes Go.WideShapes Go.ChangeAt Go.RowKit
set_option linter.unusedVariables false
set_option linter.unusedSimpArgs false
theorem dot_agg : Mem.Agg Try.prog 28 3 := Mem.agg_of Try.underlying28 rfl (by kernel_rfl)
namespace Vec
def gtE (e m : Ent) : Int := Stamp.firstNZ [Stamp.cmpS e.st m.st, Stamp.cmpI e.seq m.seq]
def dotE (e : Ent) : Dt := ⟨e.dc, e.rng, e.seq⟩
def vStep (key : ByteArray) (cut : Vc) (p : Ent × Bool) (e : Ent) : Ent × Bool := if e.key = key ∧ hasD cut (dotE e) = true then (if p.2 = false ∨ 0 < gtE e p.1 then (e, true) else p) else p
def visible (key : ByteArray) (cut : Vc) (es : List Ent) : Ent × Bool := es.foldl (vStep key cut) (ent0, false)
theorem visible_snoc (key : ByteArray) (cut : Vc) (es : List Ent) (e : Ent) : visible key cut (es ++ [e]) = vStep key cut (visible key cut es) e := by unfold visible; rw [List.foldl_append]; rfl
structure VsRel (w : World) (key : ByteArray) (cut : Vc) (es : List Ent) (vf vi : Value) (wr : World) : Prop where
  out : ∃ k : Nat, k ≤ es.length ∧ vf = .bool (visible key cut (es.take k)).2 ∧ vi = .int .i64 k ∧ Hid (Vec.VBx wr w.heap.size cut) ∧ Hid (EBx wr (w.heap.size + 1) ent0) ∧ Hid (EBx wr (w.heap.size + 2) (visible key cut (es.take k)).1) ∧ Hid (Below w.heap.size w wr)
end Vec
open Vec in
set_option maxHeartbeats 4000000 in
theorem visible_any (key : ByteArray) (cut : Vec.Vc) (A : Option Addr) (c : Nat) (es : List Vec.Ent) (B : Nat) (w : World) (hr : Mem.Rd w B A (es.flatMap Vec.entCells)) (hB : B ≤ w.heap.size) (hn : es.length ≤ maxLen) :
    Calls Try.prog 15 #[.string key, .agg (Vec.vcCells cut).toArray, .slice A es.length c] w fun e w' => e = .returned (.tuple #[Vec.E (Vec.visible key cut es).1, .bool (Vec.visible key cut es).2]) ∧ Below w.heap.size w w' := by
  unfold maxLen at hn
  have hm := Lib.hid (hr.more hB)
  clear hr
  go_enter Try.func15, Try.ntmps15
  go_wp2
  go_loopw [9, 14] (VsRel w key cut es) (fun _ t _ => es.length - (intOf t).toNat)
  case atStart =>
    refine ⟨⟨0, by omega, rfl, rfl, ?_, ?_, ?_, ?_⟩⟩
    · exact ((Mem.Bx.new w 33 (vcCells cut).toArray rfl rfl : Vec.VBx _ _ cut).below (Reg.below_new _ _) (by simp)).below (Reg.below_new _ _) (by simp; omega)
    · exact (EBx.new (w.alloc _) ent0 (by simp)).below (Reg.below_new _ _) (by simp)
    · exact EBx.new ((w.alloc _).alloc _) ent0 (by simp)
    · exact ((Reg.below_new _ _).alloc (by simp) _).alloc (by simp; omega) _
  case round =>
    obtain ⟨k, hk, rfl, rfl, HV, H0, H1, HB⟩ := hrel.out
    have hz := HB.out.size
    have hz1 := H1.out.lt
    by_cases hlt : k < es.length
    · obtain ⟨b, o, e, rfl, hb, he, hat⟩ := ent_elem hm.out hlt
      have HAT := Lib.hid (hat.below HB.out hb)
      have hts := Lib.hid (show visible key cut (es.take (k + 1)) = vStep key cut (visible key cut (es.take k)) e by rw [Mem.take_snoc he, visible_snoc])
      obtain ⟨⟨m, f⟩, hmf⟩ : ∃ mf, visible key cut (es.take k) = mf := ⟨_, rfl⟩
      rw [hmf] at H1 hts ⊢
      clear hat he hmf
      go_upto_region 6 with (first | ((with_reducible refine Mem.load_agg _ _ entry_agg b (o + k * 20) (entCells e) ?hx (entCells_length e) HAT.out.c ?_); case hx => exact rfl) | ((with_reducible refine Mem.store_agg _ _ entry_agg wr.heap.size ?zs (entCells e) ?hx ?hy ?hb (entCells_length e) (ent_one e) ?_); (case hx => exact rfl); (case hy => exact rfl); (case hb => exact Mem.Bx.new wr _ _ rfl rfl); intro w2 hb2 hk2 hs2))
      have HK2 := Lib.hid (hk2.newBox rfl)
      have hs3 : wr.heap.size < w2.heap.size := hb2.lt
      have x6 := hb2.cell (j := 6) rfl
      have HE2 : Hid (EBx w2 wr.heap.size e) := hb2
      have HV' : Hid (Vec.VBx w2 w.heap.size cut) := HV.out.keeps HK2.out id
      have H0' : Hid (EBx w2 (w.heap.size + 1) ent0) := H0.out.keeps HK2.out id
      have HM2 : Hid (EBx w2 (w.heap.size + 2) m) := H1.out.keeps HK2.out id
      have HB' : Hid (Below w.heap.size w w2) := HB.out.trans (HK2.out.below (fun k h => h.elim) HB.out.size)
      clear hb2 hk2 hs2 HAT H0 H1 HV
      by_cases hkey : e.key = key
      · have hkd := str_eq hkey
        have HH := Lib.hid (hasD_any cut (dotE e) w2)
        obtain ⟨hs, hhs⟩ : ∃ hs, hasD cut (dotE e) = hs := ⟨_, rfl⟩
        rw [hhs] at HH
        have HHS := Lib.hid hhs
        clear hhs
        have HDOT : Hid (∀ j u, (dtCells (dotE e))[j]? = some u → w2.cell? ⟨wr.heap.size, 0 + j, none⟩ = some u) := HE2.out.part 0 rfl
        have hgb0 : w.heap.size < w2.heap.size := by omega
        cases hs
        case false =>
          have hts : Hid (visible key cut (es.take (k + 1)) = (m, f)) := by
            show _ = _
            rw [hts.out, vStep, if_neg (by rw [HHS.out]; simp)]
          go_wp2_with (first | ((with_reducible refine Mem.load_aggG _ _ vec_agg w.heap.size 0 (vcCells cut) rfl ?hx (vcCells_length cut) (fun j u hu => by rw [Nat.zero_add]; exact HV'.out.cell hu) ?_); case hx => exact rfl) | ((with_reducible refine Mem.load_aggG _ _ dot_agg wr.heap.size 0 (dtCells (dotE e)) rfl ?hx (dtCells_length _) HDOT.out ?_); case hx => exact rfl) | (go_at_call 20; (refine HH.out.mono ?_); rintro x w4 ⟨rfl, hb4⟩; have HB4 := Lib.hid hb4; clear hb4 HH))
          go_roundw
          case rel => exact ⟨⟨k + 1, by omega, by rw [hts.out], by go_num, Lib.hid (HV'.out.below HB4.out (by omega)), Lib.hid (H0'.out.below HB4.out (by omega)), Lib.hid (by rw [hts.out]; exact HM2.out.below HB4.out (by omega)), Lib.hid (HB'.out.trans (HB4.out.mono HB'.out.size))⟩⟩
          case measure => simp [intOf]; omega
        case true =>
          go_upto_region 7 with (first | ((with_reducible refine Mem.load_aggG _ _ vec_agg w.heap.size 0 (vcCells cut) rfl ?hx (vcCells_length cut) (fun j u hu => by rw [Nat.zero_add]; exact HV'.out.cell hu) ?_); case hx => exact rfl) | ((with_reducible refine Mem.load_aggG _ _ dot_agg wr.heap.size 0 (dtCells (dotE e)) rfl ?hx (dtCells_length _) HDOT.out ?_); case hx => exact rfl) | (go_at_call 20; (refine HH.out.mono ?_); rintro x w4 ⟨rfl, hb4⟩; have HB4 := Lib.hid hb4; clear hb4 HH))
          have hhas := HHS.out
          have hz4 := HB4.out.size
          have HE2 : Hid (EBx w4 wr.heap.size e) := HE2.out.below HB4.out (by omega)
          have HV' : Hid (Vec.VBx w4 w.heap.size cut) := HV'.out.below HB4.out (by omega)
          have H0' : Hid (EBx w4 (w.heap.size + 1) ent0) := H0'.out.below HB4.out (by omega)
          have HM2 : Hid (EBx w4 (w.heap.size + 2) m) := HM2.out.below HB4.out (by omega)
          have HB' : Hid (Below w.heap.size w w4) := HB'.out.trans (HB4.out.mono HB'.out.size)
          have hs3 : wr.heap.size < w4.heap.size := by omega
          clear HB4 x6
          obtain ⟨w2, hw2⟩ : ∃ w2, w2 = w4 := ⟨_, rfl⟩
          subst hw2
          cases f
          case false =>
            have hts : Hid (visible key cut (es.take (k + 1)) = (e, true)) := by
              show _ = _
              rw [hts.out, vStep, if_pos ⟨hkey, hhas⟩, if_pos (.inl rfl)]
            have HE2 : Hid (EBx (w2.drewN 0) wr.heap.size e) := HE2
            clear hhas
            go_wp2
            go_quiet (fail)
            have HE2 : Hid (EBx (w2.drewN nq) wr.heap.size e) := HE2
            have HM2 : Hid (EBx (w2.drewN nq) (w.heap.size + 2) m) := HM2
            have HV' : Hid (Vec.VBx (w2.drewN nq) w.heap.size cut) := HV'
            have H0' : Hid (EBx (w2.drewN nq) (w.heap.size + 1) ent0) := H0'
            have HB' : Hid (Below w.heap.size w (w2.drewN nq)) := Mem.below_drewN HB'.out _
            go_wp2_with (first | ((with_reducible refine Mem.load_agg _ _ entry_agg wr.heap.size 0 (entCells e) ?hx (entCells_length e) (fun j u hu => by rw [Nat.zero_add]; exact HE2.out.cell hu) ?_); case hx => exact rfl) | ((with_reducible refine Mem.store_agg _ _ entry_agg (w.heap.size + 2) (entCells m) (entCells e) ?hx ?hy HM2.out (entCells_length e) (ent_one e) ?_); (case hx => exact rfl); (case hy => exact rfl); intro w3 hb3 hk3 hs3))
            go_roundw
            case rel =>
              refine ⟨⟨k + 1, by omega, by rw [hts.out], by go_num, ?_, ?_, ?_, ?_⟩⟩
              · exact HV'.out.keeps hk3 (by omega)
              · exact H0'.out.keeps hk3 (by omega)
              · show EBx _ _ _; rw [hts.out]; exact hb3
              · exact HB'.out.trans (hk3.below (fun k h => by omega) HB'.out.size)
            case measure => simp [intOf]; omega
          case true =>
            obtain ⟨x3, x4, x5⟩ := HE2.out.st
            have x2 := HE2.out.cell (j := 2) rfl
            obtain ⟨y3, y4, y5⟩ := HM2.out.st
            have y2 := HM2.out.cell (j := 2) rfl
            have hgb : w.heap.size + 2 < w2.heap.size := by omega
            refine Reg.wp_region_rel (by kernel_rfl) 52 19 rfl rfl (by kernel_rfl) (Reg.Adds) (Reg.Adds.refl) (Reg.Adds.trans)
              (fun i v u => match i with
                | 0 => v = .bool true
                | 1 => v = .bool false
                | 2 => v = .bool false
                | 3 => v = .pointer (some ⟨wr.heap.size, 3, none⟩)
                | 4 => v = Stamp.S e.st
                | 5 => v = .pointer (some ⟨w.heap.size + 2, 3, none⟩)
                | 6 => v = Stamp.S m.st
                | 7 => v = .int .i64 (Stamp.cmpS e.st m.st)
                | 8 => v = .pointer (some ⟨wr.heap.size, 0, none⟩)
                | 9 => v = .pointer (some ⟨wr.heap.size, 2, none⟩)
                | 10 => v = .int .i64 e.seq
                | 11 => v = .pointer (some ⟨w.heap.size + 2, 0, none⟩)
                | 12 => v = .pointer (some ⟨w.heap.size + 2, 2, none⟩)
                | 13 => v = .int .i64 m.seq
                | 14 => v = .int .i64 (Stamp.cmpI e.seq m.seq)
                | 15 => ∃ s, v = .slice (some ⟨s, 0, none⟩) 2 2 ∧ Mem.Rd u (s + 1) (some ⟨s, 0, none⟩) ([Stamp.cmpS e.st m.st, Stamp.cmpI e.seq m.seq].map Stamp.intV) ∧ s + 1 ≤ u.heap.size
                | 16 => v = .int .i64 (gtE e m)
                | 17 => v = .bool (decide (0 < gtE e m))
                | 18 => v = .bool (decide (0 < gtE e m))
                | _ => True) ?_ ?_
            · refine Reg.Steps.cons ?_ (Reg.Steps.cons ?_ (Reg.Steps.cons ?_ (Reg.Steps.cons ?_ (Reg.Steps.cons ?_ (Reg.Steps.cons ?_ (Reg.Steps.cons ?_ (Reg.Steps.cons ?_ (Reg.Steps.cons ?_ (Reg.Steps.cons ?_ (Reg.Steps.cons ?_ (Reg.Steps.cons ?_ (Reg.Steps.cons ?_ (Reg.Steps.cons ?_ (Reg.Steps.cons ?_ (Reg.Steps.cons ?_ (Reg.Steps.cons ?_ (Reg.Steps.cons ?_ (Reg.Steps.cons ?_ (Reg.Steps.nil _)))))))))))))))))))
              · intro val ac u hR hp ha K hK      -- 0: t29 := Op.move t9
                have e9 : (ac.tmps[9]?).getD undef = .bool true := ha 9 (by decide)
                clear ha hp
                refine Reg.Op1.plain rfl ?_
                go_wp2
                exact ⟨rfl, hK _ _ rfl (fun j k _ _ => Reg.Adds.refl _ _ _)⟩
              · intro val ac u hR hp ha K hK      -- 1: t30 := Op.unOp UnOp.not 4 t29
                obtain ⟨w29, h29, r29⟩ := hp 0 (by decide)
                have e29 : (ac.tmps[29]?).getD undef = .bool true := (ha 29 (by decide)).trans h29
                clear h29
                clear ha hp
                refine Reg.Op1.plain rfl ?_
                go_wp2
                exact ⟨rfl, hK _ _ rfl (fun j k _ _ => Reg.Adds.refl _ _ _)⟩
              · intro val ac u hR hp ha K hK      -- 2: t31 := Op.move t30
                obtain ⟨w30, h30, r30⟩ := hp 1 (by decide)
                have e30 : (ac.tmps[30]?).getD undef = .bool false := (ha 30 (by decide)).trans h30
                clear h30
                clear ha hp
                refine Reg.Op1.plain rfl ?_
                go_wp2
                exact ⟨rfl, hK _ _ rfl (fun j k _ _ => Reg.Adds.refl _ _ _)⟩
              · intro val ac u hR hp ha K hK      -- 3: t32 := Op.fieldAddr 35 t11 1
                have e11 : (ac.tmps[11]?).getD undef = .pointer (some ⟨wr.heap.size, 0, none⟩) := ha 11 (by decide)
                obtain ⟨w31, h31, r31⟩ := hp 2 (by decide)
                have e31 : (ac.tmps[31]?).getD undef = .bool false := (ha 31 (by decide)).trans h31
                clear h31
                clear ha hp
                refine Reg.Op1.guarded rfl rfl e31 (fun _ => Reg.Op1.plain rfl ?_) (fun h => absurd rfl h)
                go_wp2
                exact ⟨rfl, hK _ _ rfl (fun j k _ _ => Reg.Adds.refl _ _ _)⟩
              · intro val ac u hR hp ha K hK      -- 4: t33 := Op.load 30 t32
                obtain ⟨w32, h32, r32⟩ := hp 3 (by decide)
                have e32 : (ac.tmps[32]?).getD undef = .pointer (some ⟨wr.heap.size, 3, none⟩) := (ha 32 (by decide)).trans h32
                clear h32
                obtain ⟨w31, h31, r31⟩ := hp 2 (by decide)
                have e31 : (ac.tmps[31]?).getD undef = .bool false := (ha 31 (by decide)).trans h31
                clear h31
                clear ha hp
                refine Reg.Op1.guarded rfl rfl e31 (fun _ => Reg.Op1.plain rfl ?_) (fun h => absurd rfl h)
                have z3 := (hR.cell (p := ⟨wr.heap.size, 3, none⟩) hs3).trans x3
                have z4 := (hR.cell (p := ⟨wr.heap.size, 4, none⟩) hs3).trans x4
                have z5 := (hR.cell (p := ⟨wr.heap.size, 5, none⟩) hs3).trans x5
                go_wp2
                exact ⟨rfl, hK _ _ rfl (fun j k _ _ => Reg.Adds.refl _ _ _)⟩
              · intro val ac u hR hp ha K hK      -- 5: t34 := Op.fieldAddr 35 t8 1
                have e8 : (ac.tmps[8]?).getD undef = .pointer (some ⟨w.heap.size + 2, 0, none⟩) := ha 8 (by decide)
                obtain ⟨w31, h31, r31⟩ := hp 2 (by decide)
                have e31 : (ac.tmps[31]?).getD undef = .bool false := (ha 31 (by decide)).trans h31
                clear h31
                clear ha hp
                refine Reg.Op1.guarded rfl rfl e31 (fun _ => Reg.Op1.plain rfl ?_) (fun h => absurd rfl h)
                go_wp2
                exact ⟨rfl, hK _ _ rfl (fun j k _ _ => Reg.Adds.refl _ _ _)⟩
              · intro val ac u hR hp ha K hK      -- 6: t35 := Op.load 30 t34
                obtain ⟨w34, h34, r34⟩ := hp 5 (by decide)
                have e34 : (ac.tmps[34]?).getD undef = .pointer (some ⟨w.heap.size + 2, 3, none⟩) := (ha 34 (by decide)).trans h34
                clear h34
                obtain ⟨w31, h31, r31⟩ := hp 2 (by decide)
                have e31 : (ac.tmps[31]?).getD undef = .bool false := (ha 31 (by decide)).trans h31
                clear h31
                clear ha hp
                refine Reg.Op1.guarded rfl rfl e31 (fun _ => Reg.Op1.plain rfl ?_) (fun h => absurd rfl h)
                have z3 := (hR.cell (p := ⟨w.heap.size + 2, 3, none⟩) hgb).trans y3
                have z4 := (hR.cell (p := ⟨w.heap.size + 2, 4, none⟩) hgb).trans y4
                have z5 := (hR.cell (p := ⟨w.heap.size + 2, 5, none⟩) hgb).trans y5
                go_wp2
                exact ⟨rfl, hK _ _ rfl (fun j k _ _ => Reg.Adds.refl _ _ _)⟩
              · intro val ac u hR hp ha K hK      -- 7: t36 := Op.call { value (Operand.func 25), args := #[t33, t35], argTypes := #[30, 30] }
                obtain ⟨w33, h33, r33⟩ := hp 4 (by decide)
                have e33 : (ac.tmps[33]?).getD undef = Stamp.S e.st := (ha 33 (by decide)).trans h33
                clear h33
                obtain ⟨w35, h35, r35⟩ := hp 6 (by decide)
                have e35 : (ac.tmps[35]?).getD undef = Stamp.S m.st := (ha 35 (by decide)).trans h35
                clear h35
                obtain ⟨w31, h31, r31⟩ := hp 2 (by decide)
                have e31 : (ac.tmps[31]?).getD undef = .bool false := (ha 31 (by decide)).trans h31
                clear h31
                clear ha hp
                refine Reg.Op1.guarded rfl rfl e31 (fun _ => Reg.Op1.plain rfl ?_) (fun h => absurd rfl h)
                go_wp2_with fail
                refine (cmp_any _ _ _).mono ?_
                rintro x w' ⟨rfl, hbw⟩
                go_wp2_with fail
                exact ⟨rfl, hK _ _ rfl (fun j k _ _ => hbw)⟩
              · intro val ac u hR hp ha K hK      -- 8: t37 := Op.fieldAddr 35 t11 0
                have e11 : (ac.tmps[11]?).getD undef = .pointer (some ⟨wr.heap.size, 0, none⟩) := ha 11 (by decide)
                obtain ⟨w31, h31, r31⟩ := hp 2 (by decide)
                have e31 : (ac.tmps[31]?).getD undef = .bool false := (ha 31 (by decide)).trans h31
                clear h31
                clear ha hp
                refine Reg.Op1.guarded rfl rfl e31 (fun _ => Reg.Op1.plain rfl ?_) (fun h => absurd rfl h)
                go_wp2
                exact ⟨rfl, hK _ _ rfl (fun j k _ _ => Reg.Adds.refl _ _ _)⟩
              · intro val ac u hR hp ha K hK      -- 9: t38 := Op.fieldAddr 28 t37 2
                obtain ⟨w37, h37, r37⟩ := hp 8 (by decide)
                have e37 : (ac.tmps[37]?).getD undef = .pointer (some ⟨wr.heap.size, 0, none⟩) := (ha 37 (by decide)).trans h37
                clear h37
                obtain ⟨w31, h31, r31⟩ := hp 2 (by decide)
                have e31 : (ac.tmps[31]?).getD undef = .bool false := (ha 31 (by decide)).trans h31
                clear h31
                clear ha hp
                refine Reg.Op1.guarded rfl rfl e31 (fun _ => Reg.Op1.plain rfl ?_) (fun h => absurd rfl h)
                go_wp2
                exact ⟨rfl, hK _ _ rfl (fun j k _ _ => Reg.Adds.refl _ _ _)⟩
              · intro val ac u hR hp ha K hK      -- 10: t39 := Op.load 3 t38
                obtain ⟨w38, h38, r38⟩ := hp 9 (by decide)
                have e38 : (ac.tmps[38]?).getD undef = .pointer (some ⟨wr.heap.size, 2, none⟩) := (ha 38 (by decide)).trans h38
                clear h38
                obtain ⟨w31, h31, r31⟩ := hp 2 (by decide)
                have e31 : (ac.tmps[31]?).getD undef = .bool false := (ha 31 (by decide)).trans h31
                clear h31
                clear ha hp
                refine Reg.Op1.guarded rfl rfl e31 (fun _ => Reg.Op1.plain rfl ?_) (fun h => absurd rfl h)
                have z3 := (hR.cell (p := ⟨wr.heap.size, 2, none⟩) hs3).trans x2
                go_wp2
                exact ⟨rfl, hK _ _ rfl (fun j k _ _ => Reg.Adds.refl _ _ _)⟩
              · intro val ac u hR hp ha K hK      -- 11: t40 := Op.fieldAddr 35 t8 0
                have e8 : (ac.tmps[8]?).getD undef = .pointer (some ⟨w.heap.size + 2, 0, none⟩) := ha 8 (by decide)
                obtain ⟨w31, h31, r31⟩ := hp 2 (by decide)
                have e31 : (ac.tmps[31]?).getD undef = .bool false := (ha 31 (by decide)).trans h31
                clear h31
                clear ha hp
                refine Reg.Op1.guarded rfl rfl e31 (fun _ => Reg.Op1.plain rfl ?_) (fun h => absurd rfl h)
                go_wp2
                exact ⟨rfl, hK _ _ rfl (fun j k _ _ => Reg.Adds.refl _ _ _)⟩
              · intro val ac u hR hp ha K hK      -- 12: t41 := Op.fieldAddr 28 t40 2
                obtain ⟨w40, h40, r40⟩ := hp 11 (by decide)
                have e40 : (ac.tmps[40]?).getD undef = .pointer (some ⟨w.heap.size + 2, 0, none⟩) := (ha 40 (by decide)).trans h40
                clear h40
                obtain ⟨w31, h31, r31⟩ := hp 2 (by decide)
                have e31 : (ac.tmps[31]?).getD undef = .bool false := (ha 31 (by decide)).trans h31
                clear h31
                clear ha hp
                refine Reg.Op1.guarded rfl rfl e31 (fun _ => Reg.Op1.plain rfl ?_) (fun h => absurd rfl h)
                go_wp2
                exact ⟨rfl, hK _ _ rfl (fun j k _ _ => Reg.Adds.refl _ _ _)⟩
              · intro val ac u hR hp ha K hK      -- 13: t42 := Op.load 3 t41
                obtain ⟨w41, h41, r41⟩ := hp 12 (by decide)
                have e41 : (ac.tmps[41]?).getD undef = .pointer (some ⟨w.heap.size + 2, 2, none⟩) := (ha 41 (by decide)).trans h41
                clear h41
                obtain ⟨w31, h31, r31⟩ := hp 2 (by decide)
                have e31 : (ac.tmps[31]?).getD undef = .bool false := (ha 31 (by decide)).trans h31
                clear h31
                clear ha hp
                refine Reg.Op1.guarded rfl rfl e31 (fun _ => Reg.Op1.plain rfl ?_) (fun h => absurd rfl h)
                have z3 := (hR.cell (p := ⟨w.heap.size + 2, 2, none⟩) hgb).trans y2
                go_wp2
                exact ⟨rfl, hK _ _ rfl (fun j k _ _ => Reg.Adds.refl _ _ _)⟩
              · intro val ac u hR hp ha K hK      -- 14: t43 := Op.call { value (Operand.func 26), args := #[t39, t42], argTypes := #[3, 3] }
                obtain ⟨w39, h39, r39⟩ := hp 10 (by decide)
                have e39 : (ac.tmps[39]?).getD undef = .int .i64 e.seq := (ha 39 (by decide)).trans h39
                clear h39
                obtain ⟨w42, h42, r42⟩ := hp 13 (by decide)
                have e42 : (ac.tmps[42]?).getD undef = .int .i64 m.seq := (ha 42 (by decide)).trans h42
                clear h42
                obtain ⟨w31, h31, r31⟩ := hp 2 (by decide)
                have e31 : (ac.tmps[31]?).getD undef = .bool false := (ha 31 (by decide)).trans h31
                clear h31
                clear ha hp
                refine Reg.Op1.guarded rfl rfl e31 (fun _ => Reg.Op1.plain rfl ?_) (fun h => absurd rfl h)
                go_wp2_with fail
                refine (compare_any _ _ _).mono ?_
                rintro x w' ⟨rfl, rfl⟩
                go_wp2_with fail
                exact ⟨rfl, hK _ _ rfl (fun j k _ _ => Reg.Adds.refl _ _ _)⟩
              · intro val ac u hR hp ha K hK      -- 15: t44 := Op.buildSlice 67 2 #[(0, t36), (1, t43)]
                obtain ⟨w36, h36, r36⟩ := hp 7 (by decide)
                have e36 : (ac.tmps[36]?).getD undef = .int .i64 (Stamp.cmpS e.st m.st) := (ha 36 (by decide)).trans h36
                clear h36
                obtain ⟨w43, h43, r43⟩ := hp 14 (by decide)
                have e43 : (ac.tmps[43]?).getD undef = .int .i64 (Stamp.cmpI e.seq m.seq) := (ha 43 (by decide)).trans h43
                clear h43
                obtain ⟨w31, h31, r31⟩ := hp 2 (by decide)
                have e31 : (ac.tmps[31]?).getD undef = .bool false := (ha 31 (by decide)).trans h31
                clear h31
                clear ha hp
                refine Reg.Op1.guarded rfl rfl e31 (fun _ => Reg.Op1.plain rfl ?_) (fun h => absurd rfl h)
                go_wp2
                exact ⟨rfl, hK _ _ ⟨u.heap.size, rfl, Mem.Rd.alloc_new u _ _ _ rfl, by simp⟩ (fun j k _ _ => Reg.below_new _ _)⟩
              · intro val ac u hR hp ha K hK      -- 16: t45 := Op.call { value (Operand.func 24), args := #[t44], argTypes := #[67] }
                obtain ⟨w44, h44, r44⟩ := hp 15 (by decide)
                have e44 : (ac.tmps[44]?).getD undef = val 15 := ha 44 (by decide)
                obtain ⟨w31, h31, r31⟩ := hp 2 (by decide)
                have e31 : (ac.tmps[31]?).getD undef = .bool false := (ha 31 (by decide)).trans h31
                clear h31
                clear ha hp
                refine Reg.Op1.guarded rfl rfl e31 (fun _ => Reg.Op1.plain rfl ?_) (fun h => absurd rfl h)
                obtain ⟨s, hv, hb, hs⟩ := h44
                rw [hv] at e44
                go_wp2_with fail
                refine (or_any (some ⟨s, 0, none⟩) 2 [Stamp.cmpS e.st m.st, Stamp.cmpI e.seq m.seq] (s + 1) u (hb.below (r44.mono hs)) (by simp [maxLen])).mono ?_
                rintro x w' ⟨rfl, rfl⟩
                go_wp2_with fail
                exact ⟨rfl, hK _ _ rfl (fun j k _ _ => Reg.Adds.refl _ _ _)⟩
              · intro val ac u hR hp ha K hK      -- 17: t46 := Op.binOp BinOp.gtr 3 t45 (const (0:i64)) 3
                obtain ⟨w45, h45, r45⟩ := hp 16 (by decide)
                have e45 : (ac.tmps[45]?).getD undef = .int .i64 (gtE e m) := (ha 45 (by decide)).trans h45
                clear h45
                obtain ⟨w31, h31, r31⟩ := hp 2 (by decide)
                have e31 : (ac.tmps[31]?).getD undef = .bool false := (ha 31 (by decide)).trans h31
                clear h31
                clear ha hp
                refine Reg.Op1.guarded rfl rfl e31 (fun _ => Reg.Op1.plain rfl ?_) (fun h => absurd rfl h)
                go_wp2
                exact ⟨rfl, hK _ _ rfl (fun j k _ _ => Reg.Adds.refl _ _ _)⟩
              · intro val ac u hR hp ha K hK      -- 18: t47 := Op.pick t31 (const (Value.bool true)) t46
                obtain ⟨w31, h31, r31⟩ := hp 2 (by decide)
                have e31 : (ac.tmps[31]?).getD undef = .bool false := (ha 31 (by decide)).trans h31
                clear h31
                obtain ⟨w46, h46, r46⟩ := hp 17 (by decide)
                have e46 : (ac.tmps[46]?).getD undef = .bool (decide (0 < gtE e m)) := (ha 46 (by decide)).trans h46
                clear h46
                clear ha hp
                refine Reg.Op1.plain rfl ?_
                go_wp2
                exact ⟨rfl, hK _ _ rfl (fun j k _ _ => Reg.Adds.refl _ _ _)⟩
            · intro val u hR H
              obtain ⟨w47, hv, _⟩ := H 18 (by decide)
              have hv : val 18 = .bool (decide (0 < gtE e m)) := hv
              have HR5 : Hid (Below w2.heap.size w2 u) := (Below.refl _ w2).drew.trans hR
              simp only [List.map_cons, List.map_nil, Reg.lay, Act.put, List.setIfInBounds_toArray, List.set_cons_succ, List.set_cons_zero, Nat.reduceAdd, hv]
              clear hR H hv x2 x3 x4 x5 y2 y3 y4 y5
              by_cases hgt : 0 < gtE e m
              · have hgd : decide (0 < gtE e m) = true := by simpa using hgt
                have hts : Hid (visible key cut (es.take (k + 1)) = (e, true)) := by
                  show _ = _
                  rw [hts.out, vStep, if_pos ⟨hkey, hhas⟩, if_pos (.inr hgt)]
                have HE2 : Hid (EBx u wr.heap.size e) := HE2.out.below HR5.out hs3
                have HM2 : Hid (EBx u (w.heap.size + 2) m) := HM2.out.below HR5.out hgb
                have HV' : Hid (Vec.VBx u w.heap.size cut) := HV'.out.below HR5.out (by omega)
                have H0' : Hid (EBx u (w.heap.size + 1) ent0) := H0'.out.below HR5.out (by omega)
                have HB' : Hid (Below w.heap.size w u) := HB'.out.trans (HR5.out.mono (by omega))
                go_wp2_with (first | ((with_reducible refine Mem.load_agg _ _ entry_agg wr.heap.size 0 (entCells e) ?hx (entCells_length e) (fun j u hu => by rw [Nat.zero_add]; exact HE2.out.cell hu) ?_); case hx => exact rfl) | ((with_reducible refine Mem.store_agg _ _ entry_agg (w.heap.size + 2) (entCells m) (entCells e) ?hx ?hy HM2.out (entCells_length e) (ent_one e) ?_); (case hx => exact rfl); (case hy => exact rfl); intro w3 hb3 hk3 hs3))
                go_roundw
                case rel =>
                  refine ⟨⟨k + 1, by omega, by rw [hts.out], by go_num, ?_, ?_, ?_, ?_⟩⟩
                  · exact HV'.out.keeps hk3 (by omega)
                  · exact H0'.out.keeps hk3 (by omega)
                  · show EBx _ _ _; rw [hts.out]; exact hb3
                  · exact HB'.out.trans (hk3.below (fun k h => by omega) HB'.out.size)
                case measure => simp [intOf]; omega
              · have hgd : decide (0 < gtE e m) = false := by simpa using hgt
                have hts : Hid (visible key cut (es.take (k + 1)) = (m, true)) := by
                  show _ = _
                  rw [hts.out, vStep, if_pos ⟨hkey, hhas⟩, if_neg (by simp [hgt])]
                have HM2 : Hid (EBx u (w.heap.size + 2) m) := HM2.out.below HR5.out hgb
                have HV' : Hid (Vec.VBx u w.heap.size cut) := HV'.out.below HR5.out (by omega)
                have H0' : Hid (EBx u (w.heap.size + 1) ent0) := H0'.out.below HR5.out (by omega)
                have HB' : Hid (Below w.heap.size w u) := HB'.out.trans (HR5.out.mono (by omega))
                go_wp2
                go_roundw
                case rel => exact ⟨⟨k + 1, by omega, by rw [hts.out], by go_num, HV', H0', by rw [hts.out]; exact HM2, HB'⟩⟩
                case measure => simp [intOf]; omega
      · have hkd := str_ne hkey
        have hts : Hid (visible key cut (es.take (k + 1)) = (m, f)) := by
          show _ = _
          rw [hts.out, vStep, if_neg (fun h => hkey h.1)]
        go_wp2
        go_roundw
        case rel => exact ⟨⟨k + 1, by omega, by rw [hts.out], by go_num, HV', H0', by rw [hts.out]; exact HM2, HB'⟩⟩
        case measure => simp [intOf]; omega
    · obtain rfl : k = es.length := by omega
      rw [List.take_length] at H1
      obtain ⟨⟨m, f⟩, hmf⟩ : ∃ mf, visible key cut es = mf := ⟨_, rfl⟩
      rw [List.take_length]
      rw [hmf] at H1 ⊢
      have HMF := Lib.hid hmf
      clear hmf
      go_wp2_with (first | ((with_reducible refine Mem.load_agg _ _ entry_agg (w.heap.size + 2) 0 (entCells m) ?hx (entCells_length m) (fun j u hu => by rw [Nat.zero_add]; exact H1.out.cell hu) ?_); case hx => exact rfl) | ((with_reducible refine Mem.store_agg _ _ entry_agg (w.heap.size + 1) (entCells ent0) (entCells m) ?hx ?hy H0.out (entCells_length m) (ent_one m) ?_); (case hx => exact rfl); (case hy => exact rfl); intro w3 hb3 hk3 hs3))
      refine bodyPost_ret (v := .tuple #[E m, .bool f]) ?_ rfl ⟨by rw [HMF.out], HB.out.trans (hk3.below (fun k h => by omega) HB.out.size)⟩
      rw [Mem.results_agg2 Try.results15 entry_agg rfl hb3]
      rfl
namespace Vec
def closedP (cut : Vc) (es : List Ent) : Bool := es.all fun e => !hasD cut (dotE e) || coversV cut e.deps
structure ClRel (w : World) (cut : Vc) (es : List Ent) (vi : Value) (wr : World) : Prop where
  out : ∃ k : Nat, k ≤ es.length ∧ vi = .int .i64 k ∧ Hid (closedP cut (es.take k) = true) ∧ Hid (Vec.VBx wr w.heap.size cut) ∧ Hid (Below w.heap.size w wr)
end Vec
end Go.Proofs.Ytelephoalpphkaa
