/- The walks of the document's own hold: number, Put. No conditions. -/
import Derived.Test.YtgdcfdjfoeoknaaHold7
import Derived.Test.YtgdcfdjfoeoknaaRefE
namespace Go.Proofs.Ytgdcfdjfoeoknaa
open Go.ChangeShapes Go.WideShapes Go.ChangeAt Go.RowKit
set_option linter.unusedVariables false
set_option linter.unusedSimpArgs false

namespace Vec
structure NumAt (w : World) (v : Vc) (e : Ent) (wx : World) : Prop where
  V : VBx wx w.heap.size v
  E : EBx wx (w.heap.size + 1) e
  b : Below w.heap.size w wx
end Vec
open Vec in
set_option maxRecDepth 8000 in
theorem number_any (v : Vec.Vc) (e : Vec.Ent) (w : World) (hch : Vec.chain e.dc e.rng = true) :
    Calls Try.prog 32 #[.agg (Vec.vcCells v).toArray, .agg (Vec.entCells e).toArray] w fun x w' => x = .returned (.int .i64 (v.get e.dc.toNat e.rng.toNat)) ∧ Below w.heap.size w w' := by
  obtain ⟨hd3, hd4, hr0, hr3⟩ := chain_nat hch
  obtain ⟨dn, hdn0⟩ : ∃ dn, e.dc.toNat = dn := ⟨_, rfl⟩
  obtain ⟨rn, hrn0⟩ : ∃ rn, e.rng.toNat = rn := ⟨_, rfl⟩
  have hdn : e.dc = (dn : Int) := by omega
  have hrn : e.rng = (rn : Int) := by omega
  have hr4 : rn < 3 := by omega
  rw [hdn0] at hd3
  rw [hdn0, hrn0]
  obtain ⟨dv, hdv⟩ : ∃ dv, v.get dn rn = dv := ⟨_, rfl⟩
  rw [hdv]
  clear hch hd4 hr0 hr3
  go_enter Try.func32, Try.ntmps32
  go_upto_region 1 with fail
  obtain ⟨w0, hw0⟩ : ∃ w0, (w.alloc (.cells (vcCells v).toArray 27)).alloc (.cells (entCells e).toArray 33) = w0 := ⟨_, rfl⟩
  have H0 : Hid (NumAt w v e w0) := by
    show NumAt _ _ _ _
    rw [← hw0]
    exact ⟨(Mem.Bx.new w 27 (vcCells v).toArray rfl rfl).below (Reg.below_new _ _) (by simp), EBx.new _ e (by simp), (Reg.below_new _ _).alloc (by simp) _⟩
  rw [hw0]
  clear hw0
  refine Reg.wp_region_rel (by kernel_rfl) 14 10 rfl rfl (by kernel_rfl) (Reg.Adds) (Reg.Adds.refl) (Reg.Adds.trans)
    (fun i v u => match i with
      | 0 => v = .pointer (some ⟨w.heap.size + 1, 0, none⟩)
      | 1 => v = .pointer (some ⟨w.heap.size + 1, 0, none⟩)
      | 2 => v = .int .i64 (dn : Int)
      | 3 => v = .pointer (some ⟨w.heap.size + 1, 0, none⟩)
      | 4 => v = .pointer (some ⟨w.heap.size + 1, 1, none⟩)
      | 5 => v = .int .i64 (rn : Int)
      | 6 => v = .pointer (some ⟨w.heap.size, dn * 3, none⟩)
      | 7 => v = .pointer (some ⟨w.heap.size, dn * 3 + rn, none⟩)
      | 8 => v = .int .i64 dv
      | 9 => v = .int .i64 dv
      | _ => True) ?_ ?_
  · refine Reg.Steps.cons ?_ (Reg.Steps.cons ?_ (Reg.Steps.cons ?_ (Reg.Steps.cons ?_ (Reg.Steps.cons ?_ (Reg.Steps.cons ?_ (Reg.Steps.cons ?_ (Reg.Steps.cons ?_ (Reg.Steps.cons ?_ (Reg.Steps.cons ?_ (Reg.Steps.nil _))))))))))
    · intro val ac u hR hp ha K hK      -- 0: t5 := Op.fieldAddr 33 t3 0
      have e3 : (ac.tmps[3]?).getD undef = .pointer (some ⟨w.heap.size + 1, 0, none⟩) := ha 3 (by decide)
      clear ha hp
      refine Reg.Op1.plain rfl ?_
      go_wp2
      exact ⟨rfl, hK _ _ rfl (fun j k _ _ => Reg.Adds.refl _ _ _)⟩
    · intro val ac u hR hp ha K hK      -- 1: t6 := Op.fieldAddr 29 t5 0
      obtain ⟨w5, h5, r5⟩ := hp 0 (by decide)
      have e5 : (ac.tmps[5]?).getD undef = .pointer (some ⟨w.heap.size + 1, 0, none⟩) := (ha 5 (by decide)).trans h5
      clear h5
      clear ha hp
      refine Reg.Op1.plain rfl ?_
      go_wp2
      exact ⟨rfl, hK _ _ rfl (fun j k _ _ => Reg.Adds.refl _ _ _)⟩
    · intro val ac u hR hp ha K hK      -- 2: t7 := Op.load 3 t6
      obtain ⟨w6, h6, r6⟩ := hp 1 (by decide)
      have e6 : (ac.tmps[6]?).getD undef = .pointer (some ⟨w.heap.size + 1, 0, none⟩) := (ha 6 (by decide)).trans h6
      clear h6
      clear ha hp
      refine Reg.Op1.plain rfl ?_
      have x0 := (hR.cell (p := ⟨w.heap.size + 1, 0, none⟩) H0.out.E.lt).trans (H0.out.E.cell (j := 0) rfl)
      rw [hdn] at x0
      go_wp2
      exact ⟨rfl, hK _ _ rfl (fun j k _ _ => Reg.Adds.refl _ _ _)⟩
    · intro val ac u hR hp ha K hK      -- 3: t8 := Op.fieldAddr 33 t3 0
      have e3 : (ac.tmps[3]?).getD undef = .pointer (some ⟨w.heap.size + 1, 0, none⟩) := ha 3 (by decide)
      clear ha hp
      refine Reg.Op1.plain rfl ?_
      go_wp2
      exact ⟨rfl, hK _ _ rfl (fun j k _ _ => Reg.Adds.refl _ _ _)⟩
    · intro val ac u hR hp ha K hK      -- 4: t9 := Op.fieldAddr 29 t8 1
      obtain ⟨w8, h8, r8⟩ := hp 3 (by decide)
      have e8 : (ac.tmps[8]?).getD undef = .pointer (some ⟨w.heap.size + 1, 0, none⟩) := (ha 8 (by decide)).trans h8
      clear h8
      clear ha hp
      refine Reg.Op1.plain rfl ?_
      go_wp2
      exact ⟨rfl, hK _ _ rfl (fun j k _ _ => Reg.Adds.refl _ _ _)⟩
    · intro val ac u hR hp ha K hK      -- 5: t10 := Op.load 3 t9
      obtain ⟨w9, h9, r9⟩ := hp 4 (by decide)
      have e9 : (ac.tmps[9]?).getD undef = .pointer (some ⟨w.heap.size + 1, 1, none⟩) := (ha 9 (by decide)).trans h9
      clear h9
      clear ha hp
      refine Reg.Op1.plain rfl ?_
      have x0 := (hR.cell (p := ⟨w.heap.size + 1, 1, none⟩) H0.out.E.lt).trans (H0.out.E.cell (j := 1) rfl)
      rw [hrn] at x0
      go_wp2
      exact ⟨rfl, hK _ _ rfl (fun j k _ _ => Reg.Adds.refl _ _ _)⟩
    · intro val ac u hR hp ha K hK      -- 6: t11 := Op.indexAddr 27 t2 t7
      have e2 : (ac.tmps[2]?).getD undef = .pointer (some ⟨w.heap.size, 0, none⟩) := ha 2 (by decide)
      obtain ⟨w7, h7, r7⟩ := hp 2 (by decide)
      have e7 : (ac.tmps[7]?).getD undef = .int .i64 (dn : Int) := (ha 7 (by decide)).trans h7
      clear h7
      clear ha hp
      refine Reg.Op1.plain rfl ?_
      go_wp2
      exact ⟨rfl, hK _ _ rfl (fun j k _ _ => Reg.Adds.refl _ _ _)⟩
    · intro val ac u hR hp ha K hK      -- 7: t12 := Op.indexAddr 25 t11 t10
      obtain ⟨w11, h11, r11⟩ := hp 6 (by decide)
      have e11 : (ac.tmps[11]?).getD undef = .pointer (some ⟨w.heap.size, dn * 3, none⟩) := (ha 11 (by decide)).trans h11
      clear h11
      obtain ⟨w10, h10, r10⟩ := hp 5 (by decide)
      have e10 : (ac.tmps[10]?).getD undef = .int .i64 (rn : Int) := (ha 10 (by decide)).trans h10
      clear h10
      clear ha hp
      refine Reg.Op1.plain rfl ?_
      go_wp2
      exact ⟨rfl, hK _ _ rfl (fun j k _ _ => Reg.Adds.refl _ _ _)⟩
    · intro val ac u hR hp ha K hK      -- 8: t13 := Op.load 3 t12
      obtain ⟨w12, h12, r12⟩ := hp 7 (by decide)
      have e12 : (ac.tmps[12]?).getD undef = .pointer (some ⟨w.heap.size, dn * 3 + rn, none⟩) := (ha 12 (by decide)).trans h12
      clear h12
      clear ha hp
      refine Reg.Op1.plain rfl ?_
      have x0 := (hR.cell (p := ⟨w.heap.size, dn * 3 + rn, none⟩) H0.out.V.lt).trans (H0.out.V.cell (j := dn * 3 + rn) (vc_cell v hd3 hr4))
      rw [hdv] at x0
      go_wp2
      exact ⟨rfl, hK _ _ rfl (fun j k _ _ => Reg.Adds.refl _ _ _)⟩
    · intro val ac u hR hp ha K hK      -- 9: t4 := Op.assign t13
      obtain ⟨w13, h13, r13⟩ := hp 8 (by decide)
      have e13 : (ac.tmps[13]?).getD undef = .int .i64 dv := (ha 13 (by decide)).trans h13
      clear h13
      clear ha hp
      refine Reg.Op1.plain rfl ?_
      go_wp2
      exact ⟨rfl, hK _ _ rfl (fun j k _ _ => Reg.Adds.refl _ _ _)⟩
  · intro val u hR H
    obtain ⟨_, hv, _⟩ := H 9 (by decide)
    have hv : val 9 = .int .i64 dv := hv
    have HB : Hid (Below w.heap.size w u) := H0.out.b.trans (((Below.refl _ w0).drew.trans hR).mono H0.out.b.size)
    simp only [List.map_cons, List.map_nil, Reg.lay, Act.put, List.setIfInBounds_toArray, List.set_cons_succ, List.set_cons_zero, Nat.reduceAdd, hv]
    clear hR H hv
    go_wp2
    go_ret
    exact ⟨rfl, HB.out⟩
namespace Vec
structure ThRel (w5 : World) (es : List Ent) (e : Ent) (v8 v9 : Value) (wx : World) : Prop where
  out : ∃ m : Nat, m ≤ es.length ∧ v8 = .bool (thereE (es.take m) e) ∧ v9 = .int .i64 m ∧ Hid (Below w5.heap.size w5 wx)
theorem thereE_snoc {es : List Ent} {m : Nat} {x e : Ent} (h : es[m]? = some x) : thereE (es.take (m + 1)) e = (thereE (es.take m) e || eqDot x e) := by
  unfold thereE
  rw [Mem.take_snoc h, List.any_append]
  simp
end Vec
open Vec in
set_option maxRecDepth 20000 in
set_option maxHeartbeats 8000000 in
theorem refPut_any (rng : Int) (g : Nat) (A0 : Option Addr) (c0 : Nat) (es0 : List Vec.Ent) (An : Option Addr) (cn : Nat) (news : List Vec.Ent) (w : World) (hA : Vec.HAt 53 w g A0 c0 rng es0) (hN : Mem.Rd w w.heap.size An (news.flatMap Vec.entCells)) (hn : news.length ≤ 300) (hne : news ≠ [] → ∀ q, Mem.blk An = some q → ¬ Vec.HB g A0 q) :
    Calls Try.prog 18 #[.pointer (some ⟨g, 0, none⟩), .slice An news.length cn] w (Vec.PutEnd 53 w g A0 rng es0 news) := by
  have HA0 := Lib.hid hA
  have HN := Lib.hid hN
  have HNE := Lib.hid hne
  clear hA hN hne
  go_enter Try.func18, Try.ntmps18
  go_wp2
  go_loopw [5, 6] (PutRel 53 w g A0 rng es0 news) (fun _ t _ => news.length - (intOf t).toNat)
  case atStart => exact ⟨⟨0, A0, c0, es0, 0, by omega, by omega, rfl, rfl, rfl, HA0, Mem.Keeps.refl _ _, fun q h => .inl h⟩⟩
  case round =>
    obtain ⟨k, A, c, es, n, hk, hnk, HP, rfl, rfl, HA, HK, HQ⟩ := hrel.out
    have hz := HK.out.size
    by_cases hlt : k < news.length
    · obtain ⟨b, o, e, rfl, hb, he, hat⟩ := ent_elem (HN.out.keepsAt HK.out (Nat.le_refl _) (HNE.out (fun h => by rw [h] at hlt; simp at hlt))) hlt
      have HAT := Lib.hid hat
      have HTS := Lib.hid (show putL rng es0 (news.take (k + 1)) = putStep rng (es, n) e by rw [Mem.take_snoc he, putL_snoc, HP.out])
      have hel : es.length ≤ maxLen := Nat.le_trans HA.out.O.le HA.out.O.cap
      unfold maxLen at hel
      clear hat he
      go_upto_region 6 with (first | ((with_reducible refine Mem.load_agg _ _ entry_agg b (o + k * 20) (entCells e) ?hx (entCells_length e) HAT.out.c ?_); case hx => exact rfl) | ((with_reducible refine Mem.store_agg _ _ entry_agg wr.heap.size (entCells ent0) (entCells e) ?hxa ?hya ?hba (entCells_length e) (ent_one e) ?_); ((case hxa => exact rfl); (case hya => exact rfl); (case hba => exact Mem.Bx.new wr _ (entCells ent0).toArray rfl rfl); intro w5 hb2 hk2 hs2)))
      have HE5 : Hid (EBx w5 wr.heap.size e) := hb2
      have HB5 : Hid (Below wr.heap.size wr w5) := (hk2.newBox rfl).belowAll
      have HA5 := Lib.hid (HA.out.below HB5.out)
      obtain ⟨ge, hge⟩ : ∃ ge, wr.heap.size = ge := ⟨_, rfl⟩
      obtain ⟨wk, hwk⟩ : ∃ wk, wk = wr := ⟨_, rfl⟩
      subst hwk
      rw [hge] at HE5 ⊢
      have HGE := Lib.hid hge
      clear hb2 hk2 hs2 HAT hge HA
      go_wp2
      go_loopw [8, 9] (ThRel w5 es e) (fun _ t _ => es.length - (intOf t).toNat)
      case atStart => exact ⟨⟨0, Nat.zero_le _, rfl, rfl, Below.refl _ _⟩⟩
      case round =>
        obtain ⟨m, hm, rfl, rfl, HBm⟩ := hrel.out
        have HAm := Lib.hid (HA5.out.below HBm.out)
        have HEm : Hid (EBx wr ge e) := HE5.out.below HBm.out HE5.out.lt
        have x1 := HAm.out.B.cell (j := 1) rfl
        by_cases hltm : m < es.length
        · obtain ⟨bx, ox, x, rfl, hbx, hex, hatx⟩ := ent_elem HAm.out.O.rd hltm
          have HATx := Lib.hid hatx
          have htn := thereE_snoc (e := e) hex
          obtain ⟨t1, ht1⟩ : ∃ t1, thereE (es.take m) e = t1 := ⟨_, rfl⟩
          obtain ⟨qd, hqd⟩ : ∃ qd, eqDot x e = qd := ⟨_, rfl⟩
          rw [ht1, hqd] at htn
          have hE := eql_dot x e
          rw [hqd] at hE
          have HEQ := Lib.hid hE
          rw [ht1]
          clear hatx hex ht1 hqd hE hrel
          go_upto_region 10 with fail
          clear x1
          cases t1
          · have HTn : Hid (Value.bool qd = .bool (thereE (es.take (m + 1)) e)) := by show _ = _; rw [htn]; rfl
            clear htn
            refine Reg.wp_region_rel (by kernel_rfl) 80 15 rfl rfl (by kernel_rfl) (Reg.Adds) (Reg.Adds.refl) (Reg.Adds.trans)
              (fun i v u => match i with
                | 0 => v = .bool false
                | 1 => v = .bool false
                | 2 => v = .pointer (some ⟨g, 0, none⟩)
                | 3 => v = .pointer (some ⟨g, 0, none⟩)
                | 4 => v = .pointer (some ⟨g, 1, none⟩)
                | 5 => v = .slice (some ⟨bx, ox, none⟩) es.length c
                | 6 => v = .int .i64 m
                | 7 => v = .pointer (some ⟨bx, ox + m * 20, none⟩)
                | 8 => v = .pointer (some ⟨bx, ox + m * 20, none⟩)
                | 9 => v = .agg #[.int .i64 x.dc, .int .i64 x.rng, .int .i64 x.seq]
                | 10 => v = .pointer (some ⟨ge, 0, none⟩)
                | 11 => v = .agg #[.int .i64 e.dc, .int .i64 e.rng, .int .i64 e.seq]
                | 12 => v = .bool qd
                | 13 => v = .bool qd
                | 14 => v = .bool qd
                | _ => True) ?_ ?_
            · refine Reg.Steps.cons ?_ (Reg.Steps.cons ?_ (Reg.Steps.cons ?_ (Reg.Steps.cons ?_ (Reg.Steps.cons ?_ (Reg.Steps.cons ?_ (Reg.Steps.cons ?_ (Reg.Steps.cons ?_ (Reg.Steps.cons ?_ (Reg.Steps.cons ?_ (Reg.Steps.cons ?_ (Reg.Steps.cons ?_ (Reg.Steps.cons ?_ (Reg.Steps.cons ?_ (Reg.Steps.cons ?_ (Reg.Steps.nil _)))))))))))))))
              · intro val ac u hR hp ha K hK      -- 0: t29 := Op.move t8
                have e8 : (ac.tmps[8]?).getD undef = .bool false := ha 8 (by decide)
                clear ha hp
                refine Reg.Op1.plain rfl ?_
                go_wp2
                exact ⟨rfl, hK _ _ rfl (fun j k _ _ => Reg.Adds.refl _ _ _)⟩
              · intro val ac u hR hp ha K hK      -- 1: t30 := Op.move t29
                obtain ⟨w29, h29, r29⟩ := hp 0 (by decide)
                have e29 : (ac.tmps[29]?).getD undef = .bool false := (ha 29 (by decide)).trans h29
                clear h29
                clear ha hp
                refine Reg.Op1.plain rfl ?_
                go_wp2
                exact ⟨rfl, hK _ _ rfl (fun j k _ _ => Reg.Adds.refl _ _ _)⟩
              · intro val ac u hR hp ha K hK      -- 2: t31 := Op.move t0
                have e0 : (ac.tmps[0]?).getD undef = .pointer (some ⟨g, 0, none⟩) := ha 0 (by decide)
                obtain ⟨w30, h30, r30⟩ := hp 1 (by decide)
                have e30 : (ac.tmps[30]?).getD undef = .bool false := (ha 30 (by decide)).trans h30
                clear h30
                clear ha hp
                refine Reg.Op1.guarded rfl rfl e30 (fun _ => Reg.Op1.plain rfl ?_) (fun h => absurd rfl h)
                go_wp2
                exact ⟨rfl, hK _ _ rfl (fun j k _ _ => Reg.Adds.refl _ _ _)⟩
              · intro val ac u hR hp ha K hK      -- 3: t32 := Op.nilCheck t31
                obtain ⟨w31, h31, r31⟩ := hp 2 (by decide)
                have e31 : (ac.tmps[31]?).getD undef = .pointer (some ⟨g, 0, none⟩) := (ha 31 (by decide)).trans h31
                clear h31
                obtain ⟨w30, h30, r30⟩ := hp 1 (by decide)
                have e30 : (ac.tmps[30]?).getD undef = .bool false := (ha 30 (by decide)).trans h30
                clear h30
                clear ha hp
                refine Reg.Op1.guarded rfl rfl e30 (fun _ => Reg.Op1.plain rfl ?_) (fun h => absurd rfl h)
                go_wp2
                exact ⟨rfl, hK _ _ rfl (fun j k _ _ => Reg.Adds.refl _ _ _)⟩
              · intro val ac u hR hp ha K hK      -- 4: t33 := Op.fieldAddr 53 t32 1
                obtain ⟨w32, h32, r32⟩ := hp 3 (by decide)
                have e32 : (ac.tmps[32]?).getD undef = .pointer (some ⟨g, 0, none⟩) := (ha 32 (by decide)).trans h32
                clear h32
                obtain ⟨w30, h30, r30⟩ := hp 1 (by decide)
                have e30 : (ac.tmps[30]?).getD undef = .bool false := (ha 30 (by decide)).trans h30
                clear h30
                clear ha hp
                refine Reg.Op1.guarded rfl rfl e30 (fun _ => Reg.Op1.plain rfl ?_) (fun h => absurd rfl h)
                go_wp2
                exact ⟨rfl, hK _ _ rfl (fun j k _ _ => Reg.Adds.refl _ _ _)⟩
              · intro val ac u hR hp ha K hK      -- 5: t34 := Op.load 24 t33
                obtain ⟨w33, h33, r33⟩ := hp 4 (by decide)
                have e33 : (ac.tmps[33]?).getD undef = .pointer (some ⟨g, 1, none⟩) := (ha 33 (by decide)).trans h33
                clear h33
                obtain ⟨w30, h30, r30⟩ := hp 1 (by decide)
                have e30 : (ac.tmps[30]?).getD undef = .bool false := (ha 30 (by decide)).trans h30
                clear h30
                clear ha hp
                refine Reg.Op1.guarded rfl rfl e30 (fun _ => Reg.Op1.plain rfl ?_) (fun h => absurd rfl h)
                have x0 := (hR.cell (p := ⟨g, 1, none⟩) HAm.out.B.lt).trans (HAm.out.B.cell (j := 1) rfl)
                go_wp2
                exact ⟨rfl, hK _ _ rfl (fun j k _ _ => Reg.Adds.refl _ _ _)⟩
              · intro val ac u hR hp ha K hK      -- 6: t35 := Op.move t9
                have e9 : (ac.tmps[9]?).getD undef = .int .i64 m := ha 9 (by decide)
                obtain ⟨w30, h30, r30⟩ := hp 1 (by decide)
                have e30 : (ac.tmps[30]?).getD undef = .bool false := (ha 30 (by decide)).trans h30
                clear h30
                clear ha hp
                refine Reg.Op1.guarded rfl rfl e30 (fun _ => Reg.Op1.plain rfl ?_) (fun h => absurd rfl h)
                go_wp2
                exact ⟨rfl, hK _ _ rfl (fun j k _ _ => Reg.Adds.refl _ _ _)⟩
              · intro val ac u hR hp ha K hK      -- 7: t36 := Op.indexAddr 24 t34 t35
                obtain ⟨w34, h34, r34⟩ := hp 5 (by decide)
                have e34 : (ac.tmps[34]?).getD undef = .slice (some ⟨bx, ox, none⟩) es.length c := (ha 34 (by decide)).trans h34
                clear h34
                obtain ⟨w35, h35, r35⟩ := hp 6 (by decide)
                have e35 : (ac.tmps[35]?).getD undef = .int .i64 m := (ha 35 (by decide)).trans h35
                clear h35
                obtain ⟨w30, h30, r30⟩ := hp 1 (by decide)
                have e30 : (ac.tmps[30]?).getD undef = .bool false := (ha 30 (by decide)).trans h30
                clear h30
                clear ha hp
                refine Reg.Op1.guarded rfl rfl e30 (fun _ => Reg.Op1.plain rfl ?_) (fun h => absurd rfl h)
                go_wp2
                exact ⟨rfl, hK _ _ rfl (fun j k _ _ => Reg.Adds.refl _ _ _)⟩
              · intro val ac u hR hp ha K hK      -- 8: t37 := Op.fieldAddr 33 t36 0
                obtain ⟨w36, h36, r36⟩ := hp 7 (by decide)
                have e36 : (ac.tmps[36]?).getD undef = .pointer (some ⟨bx, ox + m * 20, none⟩) := (ha 36 (by decide)).trans h36
                clear h36
                obtain ⟨w30, h30, r30⟩ := hp 1 (by decide)
                have e30 : (ac.tmps[30]?).getD undef = .bool false := (ha 30 (by decide)).trans h30
                clear h30
                clear ha hp
                refine Reg.Op1.guarded rfl rfl e30 (fun _ => Reg.Op1.plain rfl ?_) (fun h => absurd rfl h)
                go_wp2
                exact ⟨rfl, hK _ _ rfl (fun j k _ _ => Reg.Adds.refl _ _ _)⟩
              · intro val ac u hR hp ha K hK      -- 9: t38 := Op.load 29 t37
                obtain ⟨w37, h37, r37⟩ := hp 8 (by decide)
                have e37 : (ac.tmps[37]?).getD undef = .pointer (some ⟨bx, ox + m * 20, none⟩) := (ha 37 (by decide)).trans h37
                clear h37
                obtain ⟨w30, h30, r30⟩ := hp 1 (by decide)
                have e30 : (ac.tmps[30]?).getD undef = .bool false := (ha 30 (by decide)).trans h30
                clear h30
                clear ha hp
                refine Reg.Op1.guarded rfl rfl e30 (fun _ => Reg.Op1.plain rfl ?_) (fun h => absurd rfl h)
                have z0 := (hR.cell (p := ⟨bx, ox + m * 20, none⟩) hbx).trans (HATx.out.c 0 _ rfl)
                have z1 := (hR.cell (p := ⟨bx, ox + m * 20 + 1, none⟩) hbx).trans (HATx.out.c 1 _ rfl)
                have z2 := (hR.cell (p := ⟨bx, ox + m * 20 + 2, none⟩) hbx).trans (HATx.out.c 2 _ rfl)
                go_wp2
                exact ⟨rfl, hK _ _ rfl (fun j k _ _ => Reg.Adds.refl _ _ _)⟩
              · intro val ac u hR hp ha K hK      -- 10: t39 := Op.fieldAddr 33 t7 0
                have e7 : (ac.tmps[7]?).getD undef = .pointer (some ⟨ge, 0, none⟩) := ha 7 (by decide)
                obtain ⟨w30, h30, r30⟩ := hp 1 (by decide)
                have e30 : (ac.tmps[30]?).getD undef = .bool false := (ha 30 (by decide)).trans h30
                clear h30
                clear ha hp
                refine Reg.Op1.guarded rfl rfl e30 (fun _ => Reg.Op1.plain rfl ?_) (fun h => absurd rfl h)
                go_wp2
                exact ⟨rfl, hK _ _ rfl (fun j k _ _ => Reg.Adds.refl _ _ _)⟩
              · intro val ac u hR hp ha K hK      -- 11: t40 := Op.load 29 t39
                obtain ⟨w39, h39, r39⟩ := hp 10 (by decide)
                have e39 : (ac.tmps[39]?).getD undef = .pointer (some ⟨ge, 0, none⟩) := (ha 39 (by decide)).trans h39
                clear h39
                obtain ⟨w30, h30, r30⟩ := hp 1 (by decide)
                have e30 : (ac.tmps[30]?).getD undef = .bool false := (ha 30 (by decide)).trans h30
                clear h30
                clear ha hp
                refine Reg.Op1.guarded rfl rfl e30 (fun _ => Reg.Op1.plain rfl ?_) (fun h => absurd rfl h)
                have z0 := (hR.cell (p := ⟨ge, 0, none⟩) HEm.out.lt).trans (HEm.out.cell (j := 0) rfl)
                have z1 := (hR.cell (p := ⟨ge, 1, none⟩) HEm.out.lt).trans (HEm.out.cell (j := 1) rfl)
                have z2 := (hR.cell (p := ⟨ge, 2, none⟩) HEm.out.lt).trans (HEm.out.cell (j := 2) rfl)
                go_wp2
                exact ⟨rfl, hK _ _ rfl (fun j k _ _ => Reg.Adds.refl _ _ _)⟩
              · intro val ac u hR hp ha K hK      -- 12: t41 := Op.binOp BinOp.eql 29 t38 t40 29
                obtain ⟨w38, h38, r38⟩ := hp 9 (by decide)
                have e38 : (ac.tmps[38]?).getD undef = .agg #[.int .i64 x.dc, .int .i64 x.rng, .int .i64 x.seq] := (ha 38 (by decide)).trans h38
                clear h38
                obtain ⟨w40, h40, r40⟩ := hp 11 (by decide)
                have e40 : (ac.tmps[40]?).getD undef = .agg #[.int .i64 e.dc, .int .i64 e.rng, .int .i64 e.seq] := (ha 40 (by decide)).trans h40
                clear h40
                obtain ⟨w30, h30, r30⟩ := hp 1 (by decide)
                have e30 : (ac.tmps[30]?).getD undef = .bool false := (ha 30 (by decide)).trans h30
                clear h30
                clear ha hp
                refine Reg.Op1.guarded rfl rfl e30 (fun _ => Reg.Op1.plain rfl ?_) (fun h => absurd rfl h)
                have e1 := HEQ.out
                go_wp2
                exact ⟨rfl, hK _ _ rfl (fun j k _ _ => Reg.Adds.refl _ _ _)⟩
              · intro val ac u hR hp ha K hK      -- 13: t42 := Op.pick t30 (const (Value.bool true)) t41
                obtain ⟨w30, h30, r30⟩ := hp 1 (by decide)
                have e30 : (ac.tmps[30]?).getD undef = .bool false := (ha 30 (by decide)).trans h30
                clear h30
                obtain ⟨w41, h41, r41⟩ := hp 12 (by decide)
                have e41 : (ac.tmps[41]?).getD undef = .bool qd := (ha 41 (by decide)).trans h41
                clear h41
                clear ha hp
                refine Reg.Op1.plain rfl ?_
                go_wp2
                exact ⟨rfl, hK _ _ rfl (fun j k _ _ => Reg.Adds.refl _ _ _)⟩
              · intro val ac u hR hp ha K hK      -- 14: t8 := Op.assign t42
                obtain ⟨w42, h42, r42⟩ := hp 13 (by decide)
                have e42 : (ac.tmps[42]?).getD undef = .bool qd := (ha 42 (by decide)).trans h42
                clear h42
                clear ha hp
                refine Reg.Op1.plain rfl ?_
                go_wp2
                exact ⟨rfl, hK _ _ rfl (fun j k _ _ => Reg.Adds.refl _ _ _)⟩
            · intro val u hR H
              obtain ⟨_, hv, _⟩ := H 14 (by decide)
              have hv : val 14 = .bool qd := hv
              have HKu : Hid (Below w5.heap.size w5 u) := HBm.out.trans (((Below.refl _ wr).drew.trans hR).mono HBm.out.size)
              simp only [List.map_cons, List.map_nil, Reg.lay, Act.put, List.setIfInBounds_toArray, List.set_cons_succ, List.set_cons_zero, Nat.reduceAdd, hv]
              clear hR H hv
              go_wp2
              go_roundw
              case rel => exact ⟨⟨m + 1, hltm, HTn.out, by go_num, HKu⟩⟩
              case measure => simp [intOf]; omega
          · have HTn : Hid (Value.bool true = .bool (thereE (es.take (m + 1)) e)) := by show _ = _; rw [htn]; rfl
            clear htn
            refine Reg.wp_region_rel (by kernel_rfl) 80 15 rfl rfl (by kernel_rfl) (Reg.Adds) (Reg.Adds.refl) (Reg.Adds.trans)
              (fun i v u => match i with
                | 0 => v = .bool true
                | 1 => v = .bool true
                | 2 => v = undef
                | 3 => v = undef
                | 4 => v = undef
                | 5 => v = undef
                | 6 => v = undef
                | 7 => v = undef
                | 8 => v = undef
                | 9 => v = undef
                | 10 => v = undef
                | 11 => v = undef
                | 12 => v = undef
                | 13 => v = .bool true
                | 14 => v = .bool true
                | _ => True) ?_ ?_
            · refine Reg.Steps.cons ?_ (Reg.Steps.cons ?_ (Reg.Steps.cons ?_ (Reg.Steps.cons ?_ (Reg.Steps.cons ?_ (Reg.Steps.cons ?_ (Reg.Steps.cons ?_ (Reg.Steps.cons ?_ (Reg.Steps.cons ?_ (Reg.Steps.cons ?_ (Reg.Steps.cons ?_ (Reg.Steps.cons ?_ (Reg.Steps.cons ?_ (Reg.Steps.cons ?_ (Reg.Steps.cons ?_ (Reg.Steps.nil _)))))))))))))))
              · intro val ac u hR hp ha K hK      -- 0: t29 := Op.move t8
                have e8 : (ac.tmps[8]?).getD undef = .bool true := ha 8 (by decide)
                clear ha hp
                refine Reg.Op1.plain rfl ?_
                go_wp2
                exact ⟨rfl, hK _ _ rfl (fun j k _ _ => Reg.Adds.refl _ _ _)⟩
              · intro val ac u hR hp ha K hK      -- 1: t30 := Op.move t29
                obtain ⟨w29, h29, r29⟩ := hp 0 (by decide)
                have e29 : (ac.tmps[29]?).getD undef = .bool true := (ha 29 (by decide)).trans h29
                clear h29
                clear ha hp
                refine Reg.Op1.plain rfl ?_
                go_wp2
                exact ⟨rfl, hK _ _ rfl (fun j k _ _ => Reg.Adds.refl _ _ _)⟩
              · intro val ac u hR hp ha K hK      -- 2: t31 := Op.move t0
                obtain ⟨w30, h30, r30⟩ := hp 1 (by decide)
                have e30 : (ac.tmps[30]?).getD undef = .bool true := (ha 30 (by decide)).trans h30
                clear h30
                clear ha hp
                exact Reg.Op1.guarded rfl rfl e30 (fun h => by cases h) (fun _ => hK _ _ rfl (fun j k _ _ => Reg.Adds.refl _ _ _))
              · intro val ac u hR hp ha K hK      -- 3: t32 := Op.nilCheck t31
                obtain ⟨w30, h30, r30⟩ := hp 1 (by decide)
                have e30 : (ac.tmps[30]?).getD undef = .bool true := (ha 30 (by decide)).trans h30
                clear h30
                clear ha hp
                exact Reg.Op1.guarded rfl rfl e30 (fun h => by cases h) (fun _ => hK _ _ rfl (fun j k _ _ => Reg.Adds.refl _ _ _))
              · intro val ac u hR hp ha K hK      -- 4: t33 := Op.fieldAddr 53 t32 1
                obtain ⟨w30, h30, r30⟩ := hp 1 (by decide)
                have e30 : (ac.tmps[30]?).getD undef = .bool true := (ha 30 (by decide)).trans h30
                clear h30
                clear ha hp
                exact Reg.Op1.guarded rfl rfl e30 (fun h => by cases h) (fun _ => hK _ _ rfl (fun j k _ _ => Reg.Adds.refl _ _ _))
              · intro val ac u hR hp ha K hK      -- 5: t34 := Op.load 24 t33
                obtain ⟨w30, h30, r30⟩ := hp 1 (by decide)
                have e30 : (ac.tmps[30]?).getD undef = .bool true := (ha 30 (by decide)).trans h30
                clear h30
                clear ha hp
                exact Reg.Op1.guarded rfl rfl e30 (fun h => by cases h) (fun _ => hK _ _ rfl (fun j k _ _ => Reg.Adds.refl _ _ _))
              · intro val ac u hR hp ha K hK      -- 6: t35 := Op.move t9
                obtain ⟨w30, h30, r30⟩ := hp 1 (by decide)
                have e30 : (ac.tmps[30]?).getD undef = .bool true := (ha 30 (by decide)).trans h30
                clear h30
                clear ha hp
                exact Reg.Op1.guarded rfl rfl e30 (fun h => by cases h) (fun _ => hK _ _ rfl (fun j k _ _ => Reg.Adds.refl _ _ _))
              · intro val ac u hR hp ha K hK      -- 7: t36 := Op.indexAddr 24 t34 t35
                obtain ⟨w30, h30, r30⟩ := hp 1 (by decide)
                have e30 : (ac.tmps[30]?).getD undef = .bool true := (ha 30 (by decide)).trans h30
                clear h30
                clear ha hp
                exact Reg.Op1.guarded rfl rfl e30 (fun h => by cases h) (fun _ => hK _ _ rfl (fun j k _ _ => Reg.Adds.refl _ _ _))
              · intro val ac u hR hp ha K hK      -- 8: t37 := Op.fieldAddr 33 t36 0
                obtain ⟨w30, h30, r30⟩ := hp 1 (by decide)
                have e30 : (ac.tmps[30]?).getD undef = .bool true := (ha 30 (by decide)).trans h30
                clear h30
                clear ha hp
                exact Reg.Op1.guarded rfl rfl e30 (fun h => by cases h) (fun _ => hK _ _ rfl (fun j k _ _ => Reg.Adds.refl _ _ _))
              · intro val ac u hR hp ha K hK      -- 9: t38 := Op.load 29 t37
                obtain ⟨w30, h30, r30⟩ := hp 1 (by decide)
                have e30 : (ac.tmps[30]?).getD undef = .bool true := (ha 30 (by decide)).trans h30
                clear h30
                clear ha hp
                exact Reg.Op1.guarded rfl rfl e30 (fun h => by cases h) (fun _ => hK _ _ rfl (fun j k _ _ => Reg.Adds.refl _ _ _))
              · intro val ac u hR hp ha K hK      -- 10: t39 := Op.fieldAddr 33 t7 0
                obtain ⟨w30, h30, r30⟩ := hp 1 (by decide)
                have e30 : (ac.tmps[30]?).getD undef = .bool true := (ha 30 (by decide)).trans h30
                clear h30
                clear ha hp
                exact Reg.Op1.guarded rfl rfl e30 (fun h => by cases h) (fun _ => hK _ _ rfl (fun j k _ _ => Reg.Adds.refl _ _ _))
              · intro val ac u hR hp ha K hK      -- 11: t40 := Op.load 29 t39
                obtain ⟨w30, h30, r30⟩ := hp 1 (by decide)
                have e30 : (ac.tmps[30]?).getD undef = .bool true := (ha 30 (by decide)).trans h30
                clear h30
                clear ha hp
                exact Reg.Op1.guarded rfl rfl e30 (fun h => by cases h) (fun _ => hK _ _ rfl (fun j k _ _ => Reg.Adds.refl _ _ _))
              · intro val ac u hR hp ha K hK      -- 12: t41 := Op.binOp BinOp.eql 29 t38 t40 29
                obtain ⟨w30, h30, r30⟩ := hp 1 (by decide)
                have e30 : (ac.tmps[30]?).getD undef = .bool true := (ha 30 (by decide)).trans h30
                clear h30
                clear ha hp
                exact Reg.Op1.guarded rfl rfl e30 (fun h => by cases h) (fun _ => hK _ _ rfl (fun j k _ _ => Reg.Adds.refl _ _ _))
              · intro val ac u hR hp ha K hK      -- 13: t42 := Op.pick t30 (const (Value.bool true)) t41
                obtain ⟨w30, h30, r30⟩ := hp 1 (by decide)
                have e30 : (ac.tmps[30]?).getD undef = .bool true := (ha 30 (by decide)).trans h30
                clear h30
                obtain ⟨w41, h41, r41⟩ := hp 12 (by decide)
                have e41 : (ac.tmps[41]?).getD undef = undef := (ha 41 (by decide)).trans h41
                clear h41
                clear ha hp
                refine Reg.Op1.plain rfl ?_
                go_wp2
                exact ⟨rfl, hK _ _ rfl (fun j k _ _ => Reg.Adds.refl _ _ _)⟩
              · intro val ac u hR hp ha K hK      -- 14: t8 := Op.assign t42
                obtain ⟨w42, h42, r42⟩ := hp 13 (by decide)
                have e42 : (ac.tmps[42]?).getD undef = .bool true := (ha 42 (by decide)).trans h42
                clear h42
                clear ha hp
                refine Reg.Op1.plain rfl ?_
                go_wp2
                exact ⟨rfl, hK _ _ rfl (fun j k _ _ => Reg.Adds.refl _ _ _)⟩
            · intro val u hR H
              obtain ⟨_, hv, _⟩ := H 14 (by decide)
              have hv : val 14 = .bool true := hv
              have HKu : Hid (Below w5.heap.size w5 u) := HBm.out.trans (((Below.refl _ wr).drew.trans hR).mono HBm.out.size)
              simp only [List.map_cons, List.map_nil, Reg.lay, Act.put, List.setIfInBounds_toArray, List.set_cons_succ, List.set_cons_zero, Nat.reduceAdd, hv]
              clear hR H hv
              go_wp2
              go_roundw
              case rel => exact ⟨⟨m + 1, hltm, HTn.out, by go_num, HKu⟩⟩
              case measure => simp [intOf]; omega
        · obtain rfl : m = es.length := by omega
          rw [List.take_length]
          obtain ⟨th, hth2⟩ : ∃ th, thereE es e = th := ⟨_, rfl⟩
          rw [hth2]
          clear hrel HE5 HA5 hm hltm
          have HE5 := HEm
          have HA5 := HAm
          have HB5' : Hid (Below wk.heap.size wk wr) := HB5.out.trans (HBm.out.mono HB5.out.size)
          clear HB5 HEm HAm
          have HB5 := HB5'
          clear HB5' HBm
          go_upto_region 11 with fail
          rename World => w5
          clear x1
          go_cut [66] (fun v wx => v = .bool (okPut rng es e) ∧ Below w5.heap.size w5 wx)
          case first =>
            cases hr1 : rightE e
            · have hok : okPut rng es e = false := by unfold okPut; rw [hr1]; rfl
              refine Reg.wp_region_rel (by kernel_rfl) 80 24 rfl rfl (by kernel_rfl) (Reg.Adds) (Reg.Adds.refl) (Reg.Adds.trans)
                (fun i v u => match i with
                  | 0 => v = .agg (entCells e).toArray
                  | 1 => v = .bool false
                  | 2 => v = .bool false
                  | 3 => v = undef
                  | 4 => v = undef
                  | 5 => v = undef
                  | 6 => v = undef
                  | 7 => v = undef
                  | 8 => v = undef
                  | 9 => v = undef
                  | 10 => v = undef
                  | 11 => v = .bool false
                  | 12 => v = .bool false
                  | 13 => v = undef
                  | 14 => v = undef
                  | 15 => v = .bool false
                  | 16 => v = .bool false
                  | 17 => v = undef
                  | 18 => v = undef
                  | 19 => v = undef
                  | 20 => v = undef
                  | 21 => v = undef
                  | 22 => v = undef
                  | 23 => v = .bool false
                  | _ => True) ?_ ?_
              · refine Reg.Steps.cons ?_ (Reg.Steps.cons ?_ (Reg.Steps.cons ?_ (Reg.Steps.cons ?_ (Reg.Steps.cons ?_ (Reg.Steps.cons ?_ (Reg.Steps.cons ?_ (Reg.Steps.cons ?_ (Reg.Steps.cons ?_ (Reg.Steps.cons ?_ (Reg.Steps.cons ?_ (Reg.Steps.cons ?_ (Reg.Steps.cons ?_ (Reg.Steps.cons ?_ (Reg.Steps.cons ?_ (Reg.Steps.cons ?_ (Reg.Steps.cons ?_ (Reg.Steps.cons ?_ (Reg.Steps.cons ?_ (Reg.Steps.cons ?_ (Reg.Steps.cons ?_ (Reg.Steps.cons ?_ (Reg.Steps.cons ?_ (Reg.Steps.cons ?_ (Reg.Steps.nil _))))))))))))))))))))))))
                · intro val ac u hR hp ha K hK      -- 0: t43 := Op.load 33 t7
                  have e7 : (ac.tmps[7]?).getD undef = .pointer (some ⟨ge, 0, none⟩) := ha 7 (by decide)
                  clear ha hp
                  refine Reg.Op1.plain rfl ?_
                  have hEu : EBx u ge e := Mem.Bx.below (w := w5.drew) HE5.out hR HE5.out.lt
                  refine Mem.load_agg _ _ entry_agg ge 0 (entCells e) (Reg.eval_of e7) (entCells_length _) (fun j u' hu => by rw [Nat.zero_add]; exact hEu.cell hu) ?_
                  exact ⟨rfl, hK _ _ rfl (fun j k _ _ => Reg.Adds.refl _ _ _)⟩
                · intro val ac u hR hp ha K hK      -- 1: t44 := Op.call { value (Operand.func 31), args := #[t43], argTypes := #[33] }
                  obtain ⟨w43, h43, r43⟩ := hp 0 (by decide)
                  have e43 : (ac.tmps[43]?).getD undef = .agg (entCells e).toArray := (ha 43 (by decide)).trans h43
                  clear h43
                  clear ha hp
                  refine Reg.Op1.plain rfl ?_
                  go_wp2_with fail
                  refine (refRightE_any e u).mono ?_
                  rintro x w' ⟨rfl, hbw⟩
                  rw [hr1]
                  go_wp2_with fail
                  exact ⟨rfl, hK _ _ rfl (fun j k _ _ => hbw)⟩
                · intro val ac u hR hp ha K hK      -- 2: t45 := Op.move t44
                  obtain ⟨w44, h44, r44⟩ := hp 1 (by decide)
                  have e44 : (ac.tmps[44]?).getD undef = .bool false := (ha 44 (by decide)).trans h44
                  clear h44
                  clear ha hp
                  refine Reg.Op1.plain rfl ?_
                  go_wp2
                  exact ⟨rfl, hK _ _ rfl (fun j k _ _ => Reg.Adds.refl _ _ _)⟩
                · intro val ac u hR hp ha K hK      -- 3: t46 := Op.fieldAddr 33 t7 0
                  obtain ⟨w45, h45, r45⟩ := hp 2 (by decide)
                  have e45 : (ac.tmps[45]?).getD undef = .bool false := (ha 45 (by decide)).trans h45
                  clear h45
                  clear ha hp
                  exact Reg.Op1.guarded rfl rfl e45 (fun h => by cases h) (fun _ => hK _ _ rfl (fun j k _ _ => Reg.Adds.refl _ _ _))
                · intro val ac u hR hp ha K hK      -- 4: t47 := Op.fieldAddr 29 t46 1
                  obtain ⟨w45, h45, r45⟩ := hp 2 (by decide)
                  have e45 : (ac.tmps[45]?).getD undef = .bool false := (ha 45 (by decide)).trans h45
                  clear h45
                  clear ha hp
                  exact Reg.Op1.guarded rfl rfl e45 (fun h => by cases h) (fun _ => hK _ _ rfl (fun j k _ _ => Reg.Adds.refl _ _ _))
                · intro val ac u hR hp ha K hK      -- 5: t48 := Op.load 3 t47
                  obtain ⟨w45, h45, r45⟩ := hp 2 (by decide)
                  have e45 : (ac.tmps[45]?).getD undef = .bool false := (ha 45 (by decide)).trans h45
                  clear h45
                  clear ha hp
                  exact Reg.Op1.guarded rfl rfl e45 (fun h => by cases h) (fun _ => hK _ _ rfl (fun j k _ _ => Reg.Adds.refl _ _ _))
                · intro val ac u hR hp ha K hK      -- 6: t49 := Op.move t0
                  obtain ⟨w45, h45, r45⟩ := hp 2 (by decide)
                  have e45 : (ac.tmps[45]?).getD undef = .bool false := (ha 45 (by decide)).trans h45
                  clear h45
                  clear ha hp
                  exact Reg.Op1.guarded rfl rfl e45 (fun h => by cases h) (fun _ => hK _ _ rfl (fun j k _ _ => Reg.Adds.refl _ _ _))
                · intro val ac u hR hp ha K hK      -- 7: t50 := Op.nilCheck t49
                  obtain ⟨w45, h45, r45⟩ := hp 2 (by decide)
                  have e45 : (ac.tmps[45]?).getD undef = .bool false := (ha 45 (by decide)).trans h45
                  clear h45
                  clear ha hp
                  exact Reg.Op1.guarded rfl rfl e45 (fun h => by cases h) (fun _ => hK _ _ rfl (fun j k _ _ => Reg.Adds.refl _ _ _))
                · intro val ac u hR hp ha K hK      -- 8: t51 := Op.fieldAddr 53 t50 0
                  obtain ⟨w45, h45, r45⟩ := hp 2 (by decide)
                  have e45 : (ac.tmps[45]?).getD undef = .bool false := (ha 45 (by decide)).trans h45
                  clear h45
                  clear ha hp
                  exact Reg.Op1.guarded rfl rfl e45 (fun h => by cases h) (fun _ => hK _ _ rfl (fun j k _ _ => Reg.Adds.refl _ _ _))
                · intro val ac u hR hp ha K hK      -- 9: t52 := Op.load 3 t51
                  obtain ⟨w45, h45, r45⟩ := hp 2 (by decide)
                  have e45 : (ac.tmps[45]?).getD undef = .bool false := (ha 45 (by decide)).trans h45
                  clear h45
                  clear ha hp
                  exact Reg.Op1.guarded rfl rfl e45 (fun h => by cases h) (fun _ => hK _ _ rfl (fun j k _ _ => Reg.Adds.refl _ _ _))
                · intro val ac u hR hp ha K hK      -- 10: t53 := Op.binOp BinOp.eql 3 t48 t52 3
                  obtain ⟨w45, h45, r45⟩ := hp 2 (by decide)
                  have e45 : (ac.tmps[45]?).getD undef = .bool false := (ha 45 (by decide)).trans h45
                  clear h45
                  clear ha hp
                  exact Reg.Op1.guarded rfl rfl e45 (fun h => by cases h) (fun _ => hK _ _ rfl (fun j k _ _ => Reg.Adds.refl _ _ _))
                · intro val ac u hR hp ha K hK      -- 11: t54 := Op.pick t45 t53 (const (Value.bool false))
                  obtain ⟨w45, h45, r45⟩ := hp 2 (by decide)
                  have e45 : (ac.tmps[45]?).getD undef = .bool false := (ha 45 (by decide)).trans h45
                  clear h45
                  obtain ⟨w53, h53, r53⟩ := hp 10 (by decide)
                  have e53 : (ac.tmps[53]?).getD undef = undef := (ha 53 (by decide)).trans h53
                  clear h53
                  clear ha hp
                  refine Reg.Op1.plain rfl ?_
                  go_wp2
                  exact ⟨rfl, hK _ _ rfl (fun j k _ _ => Reg.Adds.refl _ _ _)⟩
                · intro val ac u hR hp ha K hK      -- 12: t55 := Op.move t54
                  obtain ⟨w54, h54, r54⟩ := hp 11 (by decide)
                  have e54 : (ac.tmps[54]?).getD undef = .bool false := (ha 54 (by decide)).trans h54
                  clear h54
                  clear ha hp
                  refine Reg.Op1.plain rfl ?_
                  go_wp2
                  exact ⟨rfl, hK _ _ rfl (fun j k _ _ => Reg.Adds.refl _ _ _)⟩
                · intro val ac u hR hp ha K hK      -- 13: t56 := Op.move t8
                  obtain ⟨w55, h55, r55⟩ := hp 12 (by decide)
                  have e55 : (ac.tmps[55]?).getD undef = .bool false := (ha 55 (by decide)).trans h55
                  clear h55
                  clear ha hp
                  exact Reg.Op1.guarded rfl rfl e55 (fun h => by cases h) (fun _ => hK _ _ rfl (fun j k _ _ => Reg.Adds.refl _ _ _))
                · intro val ac u hR hp ha K hK      -- 14: t57 := Op.unOp UnOp.not 4 t56
                  obtain ⟨w55, h55, r55⟩ := hp 12 (by decide)
                  have e55 : (ac.tmps[55]?).getD undef = .bool false := (ha 55 (by decide)).trans h55
                  clear h55
                  clear ha hp
                  exact Reg.Op1.guarded rfl rfl e55 (fun h => by cases h) (fun _ => hK _ _ rfl (fun j k _ _ => Reg.Adds.refl _ _ _))
                · intro val ac u hR hp ha K hK      -- 15: t58 := Op.pick t55 t57 (const (Value.bool false))
                  obtain ⟨w55, h55, r55⟩ := hp 12 (by decide)
                  have e55 : (ac.tmps[55]?).getD undef = .bool false := (ha 55 (by decide)).trans h55
                  clear h55
                  obtain ⟨w57, h57, r57⟩ := hp 14 (by decide)
                  have e57 : (ac.tmps[57]?).getD undef = undef := (ha 57 (by decide)).trans h57
                  clear h57
                  clear ha hp
                  refine Reg.Op1.plain rfl ?_
                  go_wp2
                  exact ⟨rfl, hK _ _ rfl (fun j k _ _ => Reg.Adds.refl _ _ _)⟩
                · intro val ac u hR hp ha K hK      -- 16: t59 := Op.move t58
                  obtain ⟨w58, h58, r58⟩ := hp 15 (by decide)
                  have e58 : (ac.tmps[58]?).getD undef = .bool false := (ha 58 (by decide)).trans h58
                  clear h58
                  clear ha hp
                  refine Reg.Op1.plain rfl ?_
                  go_wp2
                  exact ⟨rfl, hK _ _ rfl (fun j k _ _ => Reg.Adds.refl _ _ _)⟩
                · intro val ac u hR hp ha K hK      -- 17: t60 := Op.move t0
                  obtain ⟨w59, h59, r59⟩ := hp 16 (by decide)
                  have e59 : (ac.tmps[59]?).getD undef = .bool false := (ha 59 (by decide)).trans h59
                  clear h59
                  clear ha hp
                  exact Reg.Op1.guarded rfl rfl e59 (fun h => by cases h) (fun _ => hK _ _ rfl (fun j k _ _ => Reg.Adds.refl _ _ _))
                · intro val ac u hR hp ha K hK      -- 18: t61 := Op.nilCheck t60
                  obtain ⟨w59, h59, r59⟩ := hp 16 (by decide)
                  have e59 : (ac.tmps[59]?).getD undef = .bool false := (ha 59 (by decide)).trans h59
                  clear h59
                  clear ha hp
                  exact Reg.Op1.guarded rfl rfl e59 (fun h => by cases h) (fun _ => hK _ _ rfl (fun j k _ _ => Reg.Adds.refl _ _ _))
                · intro val ac u hR hp ha K hK      -- 19: t62 := Op.fieldAddr 53 t61 1
                  obtain ⟨w59, h59, r59⟩ := hp 16 (by decide)
                  have e59 : (ac.tmps[59]?).getD undef = .bool false := (ha 59 (by decide)).trans h59
                  clear h59
                  clear ha hp
                  exact Reg.Op1.guarded rfl rfl e59 (fun h => by cases h) (fun _ => hK _ _ rfl (fun j k _ _ => Reg.Adds.refl _ _ _))
                · intro val ac u hR hp ha K hK      -- 20: t63 := Op.load 24 t62
                  obtain ⟨w59, h59, r59⟩ := hp 16 (by decide)
                  have e59 : (ac.tmps[59]?).getD undef = .bool false := (ha 59 (by decide)).trans h59
                  clear h59
                  clear ha hp
                  exact Reg.Op1.guarded rfl rfl e59 (fun h => by cases h) (fun _ => hK _ _ rfl (fun j k _ _ => Reg.Adds.refl _ _ _))
                · intro val ac u hR hp ha K hK      -- 21: t64 := Op.call { builtin len, args := #[t63], argTypes := #[24] }
                  obtain ⟨w59, h59, r59⟩ := hp 16 (by decide)
                  have e59 : (ac.tmps[59]?).getD undef = .bool false := (ha 59 (by decide)).trans h59
                  clear h59
                  clear ha hp
                  exact Reg.Op1.guarded rfl rfl e59 (fun h => by cases h) (fun _ => hK _ _ rfl (fun j k _ _ => Reg.Adds.refl _ _ _))
                · intro val ac u hR hp ha K hK      -- 22: t65 := Op.binOp BinOp.lss 3 t64 (const (16:i64)) 3
                  obtain ⟨w59, h59, r59⟩ := hp 16 (by decide)
                  have e59 : (ac.tmps[59]?).getD undef = .bool false := (ha 59 (by decide)).trans h59
                  clear h59
                  clear ha hp
                  exact Reg.Op1.guarded rfl rfl e59 (fun h => by cases h) (fun _ => hK _ _ rfl (fun j k _ _ => Reg.Adds.refl _ _ _))
                · intro val ac u hR hp ha K hK      -- 23: t66 := Op.pick t59 t65 (const (Value.bool false))
                  obtain ⟨w59, h59, r59⟩ := hp 16 (by decide)
                  have e59 : (ac.tmps[59]?).getD undef = .bool false := (ha 59 (by decide)).trans h59
                  clear h59
                  obtain ⟨w65, h65, r65⟩ := hp 22 (by decide)
                  have e65 : (ac.tmps[65]?).getD undef = undef := (ha 65 (by decide)).trans h65
                  clear h65
                  clear ha hp
                  refine Reg.Op1.plain rfl ?_
                  go_wp2
                  exact ⟨rfl, hK _ _ rfl (fun j k _ _ => Reg.Adds.refl _ _ _)⟩
              · intro val u hR H
                obtain ⟨_, hv, _⟩ := H 23 (by decide)
                have hv : val 23 = .bool false := hv
                have HK6 : Hid (Below w5.heap.size w5 u) := (Below.refl _ w5).drew.trans hR
                simp only [List.map_cons, List.map_nil, Reg.lay, Act.put, List.setIfInBounds_toArray, List.set_cons_succ, List.set_cons_zero, Nat.reduceAdd, hv]
                clear hR H hv
                go_wp2
                go_meet
                case rel => exact ⟨by rw [hok], HK6.out⟩
            · by_cases hr2 : e.rng = rng
              · have d2 : (e.rng == rng) = true := by simp [hr2]
                have HR2 := Lib.hid hr2
                clear hr2
                cases th
                · by_cases hr5 : es.length < 16
                  · have d5 : decide ((es.length : Int) < 16) = true := by simp; omega
                    have hok : okPut rng es e = true := by unfold okPut; rw [hr1, d2, hth2]; simp [hr5]
                    refine Reg.wp_region_rel (by kernel_rfl) 80 24 rfl rfl (by kernel_rfl) (Reg.Adds) (Reg.Adds.refl) (Reg.Adds.trans)
                      (fun i v u => match i with
                        | 0 => v = .agg (entCells e).toArray
                        | 1 => v = .bool true
                        | 2 => v = .bool true
                        | 3 => v = .pointer (some ⟨ge, 0, none⟩)
                        | 4 => v = .pointer (some ⟨ge, 1, none⟩)
                        | 5 => v = .int .i64 e.rng
                        | 6 => v = .pointer (some ⟨g, 0, none⟩)
                        | 7 => v = .pointer (some ⟨g, 0, none⟩)
                        | 8 => v = .pointer (some ⟨g, 0, none⟩)
                        | 9 => v = .int .i64 rng
                        | 10 => v = .bool true
                        | 11 => v = .bool true
                        | 12 => v = .bool true
                        | 13 => v = .bool false
                        | 14 => v = .bool true
                        | 15 => v = .bool true
                        | 16 => v = .bool true
                        | 17 => v = .pointer (some ⟨g, 0, none⟩)
                        | 18 => v = .pointer (some ⟨g, 0, none⟩)
                        | 19 => v = .pointer (some ⟨g, 1, none⟩)
                        | 20 => v = .slice A es.length c
                        | 21 => v = .int .i64 ((es.length : Nat) : Int)
                        | 22 => v = .bool true
                        | 23 => v = .bool true
                        | _ => True) ?_ ?_
                    · refine Reg.Steps.cons ?_ (Reg.Steps.cons ?_ (Reg.Steps.cons ?_ (Reg.Steps.cons ?_ (Reg.Steps.cons ?_ (Reg.Steps.cons ?_ (Reg.Steps.cons ?_ (Reg.Steps.cons ?_ (Reg.Steps.cons ?_ (Reg.Steps.cons ?_ (Reg.Steps.cons ?_ (Reg.Steps.cons ?_ (Reg.Steps.cons ?_ (Reg.Steps.cons ?_ (Reg.Steps.cons ?_ (Reg.Steps.cons ?_ (Reg.Steps.cons ?_ (Reg.Steps.cons ?_ (Reg.Steps.cons ?_ (Reg.Steps.cons ?_ (Reg.Steps.cons ?_ (Reg.Steps.cons ?_ (Reg.Steps.cons ?_ (Reg.Steps.cons ?_ (Reg.Steps.nil _))))))))))))))))))))))))
                      · intro val ac u hR hp ha K hK      -- 0: t43 := Op.load 33 t7
                        have e7 : (ac.tmps[7]?).getD undef = .pointer (some ⟨ge, 0, none⟩) := ha 7 (by decide)
                        clear ha hp
                        refine Reg.Op1.plain rfl ?_
                        have hEu : EBx u ge e := Mem.Bx.below (w := w5.drew) HE5.out hR HE5.out.lt
                        refine Mem.load_agg _ _ entry_agg ge 0 (entCells e) (Reg.eval_of e7) (entCells_length _) (fun j u' hu => by rw [Nat.zero_add]; exact hEu.cell hu) ?_
                        exact ⟨rfl, hK _ _ rfl (fun j k _ _ => Reg.Adds.refl _ _ _)⟩
                      · intro val ac u hR hp ha K hK      -- 1: t44 := Op.call { value (Operand.func 31), args := #[t43], argTypes := #[33] }
                        obtain ⟨w43, h43, r43⟩ := hp 0 (by decide)
                        have e43 : (ac.tmps[43]?).getD undef = .agg (entCells e).toArray := (ha 43 (by decide)).trans h43
                        clear h43
                        clear ha hp
                        refine Reg.Op1.plain rfl ?_
                        go_wp2_with fail
                        refine (refRightE_any e u).mono ?_
                        rintro x w' ⟨rfl, hbw⟩
                        rw [hr1]
                        go_wp2_with fail
                        exact ⟨rfl, hK _ _ rfl (fun j k _ _ => hbw)⟩
                      · intro val ac u hR hp ha K hK      -- 2: t45 := Op.move t44
                        obtain ⟨w44, h44, r44⟩ := hp 1 (by decide)
                        have e44 : (ac.tmps[44]?).getD undef = .bool true := (ha 44 (by decide)).trans h44
                        clear h44
                        clear ha hp
                        refine Reg.Op1.plain rfl ?_
                        go_wp2
                        exact ⟨rfl, hK _ _ rfl (fun j k _ _ => Reg.Adds.refl _ _ _)⟩
                      · intro val ac u hR hp ha K hK      -- 3: t46 := Op.fieldAddr 33 t7 0
                        have e7 : (ac.tmps[7]?).getD undef = .pointer (some ⟨ge, 0, none⟩) := ha 7 (by decide)
                        obtain ⟨w45, h45, r45⟩ := hp 2 (by decide)
                        have e45 : (ac.tmps[45]?).getD undef = .bool true := (ha 45 (by decide)).trans h45
                        clear h45
                        clear ha hp
                        refine Reg.Op1.guarded rfl rfl e45 (fun _ => Reg.Op1.plain rfl ?_) (fun h => absurd rfl h)
                        go_wp2
                        exact ⟨rfl, hK _ _ rfl (fun j k _ _ => Reg.Adds.refl _ _ _)⟩
                      · intro val ac u hR hp ha K hK      -- 4: t47 := Op.fieldAddr 29 t46 1
                        obtain ⟨w46, h46, r46⟩ := hp 3 (by decide)
                        have e46 : (ac.tmps[46]?).getD undef = .pointer (some ⟨ge, 0, none⟩) := (ha 46 (by decide)).trans h46
                        clear h46
                        obtain ⟨w45, h45, r45⟩ := hp 2 (by decide)
                        have e45 : (ac.tmps[45]?).getD undef = .bool true := (ha 45 (by decide)).trans h45
                        clear h45
                        clear ha hp
                        refine Reg.Op1.guarded rfl rfl e45 (fun _ => Reg.Op1.plain rfl ?_) (fun h => absurd rfl h)
                        go_wp2
                        exact ⟨rfl, hK _ _ rfl (fun j k _ _ => Reg.Adds.refl _ _ _)⟩
                      · intro val ac u hR hp ha K hK      -- 5: t48 := Op.load 3 t47
                        obtain ⟨w47, h47, r47⟩ := hp 4 (by decide)
                        have e47 : (ac.tmps[47]?).getD undef = .pointer (some ⟨ge, 1, none⟩) := (ha 47 (by decide)).trans h47
                        clear h47
                        obtain ⟨w45, h45, r45⟩ := hp 2 (by decide)
                        have e45 : (ac.tmps[45]?).getD undef = .bool true := (ha 45 (by decide)).trans h45
                        clear h45
                        clear ha hp
                        refine Reg.Op1.guarded rfl rfl e45 (fun _ => Reg.Op1.plain rfl ?_) (fun h => absurd rfl h)
                        have x0 := (hR.cell (p := ⟨ge, 1, none⟩) HE5.out.lt).trans (HE5.out.cell (j := 1) rfl)
                        go_wp2
                        exact ⟨rfl, hK _ _ rfl (fun j k _ _ => Reg.Adds.refl _ _ _)⟩
                      · intro val ac u hR hp ha K hK      -- 6: t49 := Op.move t0
                        have e0 : (ac.tmps[0]?).getD undef = .pointer (some ⟨g, 0, none⟩) := ha 0 (by decide)
                        obtain ⟨w45, h45, r45⟩ := hp 2 (by decide)
                        have e45 : (ac.tmps[45]?).getD undef = .bool true := (ha 45 (by decide)).trans h45
                        clear h45
                        clear ha hp
                        refine Reg.Op1.guarded rfl rfl e45 (fun _ => Reg.Op1.plain rfl ?_) (fun h => absurd rfl h)
                        go_wp2
                        exact ⟨rfl, hK _ _ rfl (fun j k _ _ => Reg.Adds.refl _ _ _)⟩
                      · intro val ac u hR hp ha K hK      -- 7: t50 := Op.nilCheck t49
                        obtain ⟨w49, h49, r49⟩ := hp 6 (by decide)
                        have e49 : (ac.tmps[49]?).getD undef = .pointer (some ⟨g, 0, none⟩) := (ha 49 (by decide)).trans h49
                        clear h49
                        obtain ⟨w45, h45, r45⟩ := hp 2 (by decide)
                        have e45 : (ac.tmps[45]?).getD undef = .bool true := (ha 45 (by decide)).trans h45
                        clear h45
                        clear ha hp
                        refine Reg.Op1.guarded rfl rfl e45 (fun _ => Reg.Op1.plain rfl ?_) (fun h => absurd rfl h)
                        go_wp2
                        exact ⟨rfl, hK _ _ rfl (fun j k _ _ => Reg.Adds.refl _ _ _)⟩
                      · intro val ac u hR hp ha K hK      -- 8: t51 := Op.fieldAddr 53 t50 0
                        obtain ⟨w50, h50, r50⟩ := hp 7 (by decide)
                        have e50 : (ac.tmps[50]?).getD undef = .pointer (some ⟨g, 0, none⟩) := (ha 50 (by decide)).trans h50
                        clear h50
                        obtain ⟨w45, h45, r45⟩ := hp 2 (by decide)
                        have e45 : (ac.tmps[45]?).getD undef = .bool true := (ha 45 (by decide)).trans h45
                        clear h45
                        clear ha hp
                        refine Reg.Op1.guarded rfl rfl e45 (fun _ => Reg.Op1.plain rfl ?_) (fun h => absurd rfl h)
                        go_wp2
                        exact ⟨rfl, hK _ _ rfl (fun j k _ _ => Reg.Adds.refl _ _ _)⟩
                      · intro val ac u hR hp ha K hK      -- 9: t52 := Op.load 3 t51
                        obtain ⟨w51, h51, r51⟩ := hp 8 (by decide)
                        have e51 : (ac.tmps[51]?).getD undef = .pointer (some ⟨g, 0, none⟩) := (ha 51 (by decide)).trans h51
                        clear h51
                        obtain ⟨w45, h45, r45⟩ := hp 2 (by decide)
                        have e45 : (ac.tmps[45]?).getD undef = .bool true := (ha 45 (by decide)).trans h45
                        clear h45
                        clear ha hp
                        refine Reg.Op1.guarded rfl rfl e45 (fun _ => Reg.Op1.plain rfl ?_) (fun h => absurd rfl h)
                        have x0 := (hR.cell (p := ⟨g, 0, none⟩) HA5.out.B.lt).trans (HA5.out.B.cell (j := 0) rfl)
                        go_wp2
                        exact ⟨rfl, hK _ _ rfl (fun j k _ _ => Reg.Adds.refl _ _ _)⟩
                      · intro val ac u hR hp ha K hK      -- 10: t53 := Op.binOp BinOp.eql 3 t48 t52 3
                        obtain ⟨w48, h48, r48⟩ := hp 5 (by decide)
                        have e48 : (ac.tmps[48]?).getD undef = .int .i64 e.rng := (ha 48 (by decide)).trans h48
                        clear h48
                        obtain ⟨w52, h52, r52⟩ := hp 9 (by decide)
                        have e52 : (ac.tmps[52]?).getD undef = .int .i64 rng := (ha 52 (by decide)).trans h52
                        clear h52
                        obtain ⟨w45, h45, r45⟩ := hp 2 (by decide)
                        have e45 : (ac.tmps[45]?).getD undef = .bool true := (ha 45 (by decide)).trans h45
                        clear h45
                        clear ha hp
                        refine Reg.Op1.guarded rfl rfl e45 (fun _ => Reg.Op1.plain rfl ?_) (fun h => absurd rfl h)
                        go_wp2
                        exact ⟨rfl, hK _ _ rfl (fun j k _ _ => Reg.Adds.refl _ _ _)⟩
                      · intro val ac u hR hp ha K hK      -- 11: t54 := Op.pick t45 t53 (const (Value.bool false))
                        obtain ⟨w45, h45, r45⟩ := hp 2 (by decide)
                        have e45 : (ac.tmps[45]?).getD undef = .bool true := (ha 45 (by decide)).trans h45
                        clear h45
                        obtain ⟨w53, h53, r53⟩ := hp 10 (by decide)
                        have e53 : (ac.tmps[53]?).getD undef = .bool true := (ha 53 (by decide)).trans h53
                        clear h53
                        clear ha hp
                        refine Reg.Op1.plain rfl ?_
                        go_wp2
                        exact ⟨rfl, hK _ _ rfl (fun j k _ _ => Reg.Adds.refl _ _ _)⟩
                      · intro val ac u hR hp ha K hK      -- 12: t55 := Op.move t54
                        obtain ⟨w54, h54, r54⟩ := hp 11 (by decide)
                        have e54 : (ac.tmps[54]?).getD undef = .bool true := (ha 54 (by decide)).trans h54
                        clear h54
                        clear ha hp
                        refine Reg.Op1.plain rfl ?_
                        go_wp2
                        exact ⟨rfl, hK _ _ rfl (fun j k _ _ => Reg.Adds.refl _ _ _)⟩
                      · intro val ac u hR hp ha K hK      -- 13: t56 := Op.move t8
                        have e8 : (ac.tmps[8]?).getD undef = .bool false := ha 8 (by decide)
                        obtain ⟨w55, h55, r55⟩ := hp 12 (by decide)
                        have e55 : (ac.tmps[55]?).getD undef = .bool true := (ha 55 (by decide)).trans h55
                        clear h55
                        clear ha hp
                        refine Reg.Op1.guarded rfl rfl e55 (fun _ => Reg.Op1.plain rfl ?_) (fun h => absurd rfl h)
                        go_wp2
                        exact ⟨rfl, hK _ _ rfl (fun j k _ _ => Reg.Adds.refl _ _ _)⟩
                      · intro val ac u hR hp ha K hK      -- 14: t57 := Op.unOp UnOp.not 4 t56
                        obtain ⟨w56, h56, r56⟩ := hp 13 (by decide)
                        have e56 : (ac.tmps[56]?).getD undef = .bool false := (ha 56 (by decide)).trans h56
                        clear h56
                        obtain ⟨w55, h55, r55⟩ := hp 12 (by decide)
                        have e55 : (ac.tmps[55]?).getD undef = .bool true := (ha 55 (by decide)).trans h55
                        clear h55
                        clear ha hp
                        refine Reg.Op1.guarded rfl rfl e55 (fun _ => Reg.Op1.plain rfl ?_) (fun h => absurd rfl h)
                        go_wp2
                        exact ⟨rfl, hK _ _ rfl (fun j k _ _ => Reg.Adds.refl _ _ _)⟩
                      · intro val ac u hR hp ha K hK      -- 15: t58 := Op.pick t55 t57 (const (Value.bool false))
                        obtain ⟨w55, h55, r55⟩ := hp 12 (by decide)
                        have e55 : (ac.tmps[55]?).getD undef = .bool true := (ha 55 (by decide)).trans h55
                        clear h55
                        obtain ⟨w57, h57, r57⟩ := hp 14 (by decide)
                        have e57 : (ac.tmps[57]?).getD undef = .bool true := (ha 57 (by decide)).trans h57
                        clear h57
                        clear ha hp
                        refine Reg.Op1.plain rfl ?_
                        go_wp2
                        exact ⟨rfl, hK _ _ rfl (fun j k _ _ => Reg.Adds.refl _ _ _)⟩
                      · intro val ac u hR hp ha K hK      -- 16: t59 := Op.move t58
                        obtain ⟨w58, h58, r58⟩ := hp 15 (by decide)
                        have e58 : (ac.tmps[58]?).getD undef = .bool true := (ha 58 (by decide)).trans h58
                        clear h58
                        clear ha hp
                        refine Reg.Op1.plain rfl ?_
                        go_wp2
                        exact ⟨rfl, hK _ _ rfl (fun j k _ _ => Reg.Adds.refl _ _ _)⟩
                      · intro val ac u hR hp ha K hK      -- 17: t60 := Op.move t0
                        have e0 : (ac.tmps[0]?).getD undef = .pointer (some ⟨g, 0, none⟩) := ha 0 (by decide)
                        obtain ⟨w59, h59, r59⟩ := hp 16 (by decide)
                        have e59 : (ac.tmps[59]?).getD undef = .bool true := (ha 59 (by decide)).trans h59
                        clear h59
                        clear ha hp
                        refine Reg.Op1.guarded rfl rfl e59 (fun _ => Reg.Op1.plain rfl ?_) (fun h => absurd rfl h)
                        go_wp2
                        exact ⟨rfl, hK _ _ rfl (fun j k _ _ => Reg.Adds.refl _ _ _)⟩
                      · intro val ac u hR hp ha K hK      -- 18: t61 := Op.nilCheck t60
                        obtain ⟨w60, h60, r60⟩ := hp 17 (by decide)
                        have e60 : (ac.tmps[60]?).getD undef = .pointer (some ⟨g, 0, none⟩) := (ha 60 (by decide)).trans h60
                        clear h60
                        obtain ⟨w59, h59, r59⟩ := hp 16 (by decide)
                        have e59 : (ac.tmps[59]?).getD undef = .bool true := (ha 59 (by decide)).trans h59
                        clear h59
                        clear ha hp
                        refine Reg.Op1.guarded rfl rfl e59 (fun _ => Reg.Op1.plain rfl ?_) (fun h => absurd rfl h)
                        go_wp2
                        exact ⟨rfl, hK _ _ rfl (fun j k _ _ => Reg.Adds.refl _ _ _)⟩
                      · intro val ac u hR hp ha K hK      -- 19: t62 := Op.fieldAddr 53 t61 1
                        obtain ⟨w61, h61, r61⟩ := hp 18 (by decide)
                        have e61 : (ac.tmps[61]?).getD undef = .pointer (some ⟨g, 0, none⟩) := (ha 61 (by decide)).trans h61
                        clear h61
                        obtain ⟨w59, h59, r59⟩ := hp 16 (by decide)
                        have e59 : (ac.tmps[59]?).getD undef = .bool true := (ha 59 (by decide)).trans h59
                        clear h59
                        clear ha hp
                        refine Reg.Op1.guarded rfl rfl e59 (fun _ => Reg.Op1.plain rfl ?_) (fun h => absurd rfl h)
                        go_wp2
                        exact ⟨rfl, hK _ _ rfl (fun j k _ _ => Reg.Adds.refl _ _ _)⟩
                      · intro val ac u hR hp ha K hK      -- 20: t63 := Op.load 24 t62
                        obtain ⟨w62, h62, r62⟩ := hp 19 (by decide)
                        have e62 : (ac.tmps[62]?).getD undef = .pointer (some ⟨g, 1, none⟩) := (ha 62 (by decide)).trans h62
                        clear h62
                        obtain ⟨w59, h59, r59⟩ := hp 16 (by decide)
                        have e59 : (ac.tmps[59]?).getD undef = .bool true := (ha 59 (by decide)).trans h59
                        clear h59
                        clear ha hp
                        refine Reg.Op1.guarded rfl rfl e59 (fun _ => Reg.Op1.plain rfl ?_) (fun h => absurd rfl h)
                        have x0 := (hR.cell (p := ⟨g, 1, none⟩) HA5.out.B.lt).trans (HA5.out.B.cell (j := 1) rfl)
                        go_wp2
                        exact ⟨rfl, hK _ _ rfl (fun j k _ _ => Reg.Adds.refl _ _ _)⟩
                      · intro val ac u hR hp ha K hK      -- 21: t64 := Op.call { builtin len, args := #[t63], argTypes := #[24] }
                        obtain ⟨w63, h63, r63⟩ := hp 20 (by decide)
                        have e63 : (ac.tmps[63]?).getD undef = .slice A es.length c := (ha 63 (by decide)).trans h63
                        clear h63
                        obtain ⟨w59, h59, r59⟩ := hp 16 (by decide)
                        have e59 : (ac.tmps[59]?).getD undef = .bool true := (ha 59 (by decide)).trans h59
                        clear h59
                        clear ha hp
                        refine Reg.Op1.guarded rfl rfl e59 (fun _ => Reg.Op1.plain rfl ?_) (fun h => absurd rfl h)
                        go_wp2
                        exact ⟨rfl, hK _ _ rfl (fun j k _ _ => Reg.Adds.refl _ _ _)⟩
                      · intro val ac u hR hp ha K hK      -- 22: t65 := Op.binOp BinOp.lss 3 t64 (const (16:i64)) 3
                        obtain ⟨w64, h64, r64⟩ := hp 21 (by decide)
                        have e64 : (ac.tmps[64]?).getD undef = .int .i64 ((es.length : Nat) : Int) := (ha 64 (by decide)).trans h64
                        clear h64
                        obtain ⟨w59, h59, r59⟩ := hp 16 (by decide)
                        have e59 : (ac.tmps[59]?).getD undef = .bool true := (ha 59 (by decide)).trans h59
                        clear h59
                        clear ha hp
                        refine Reg.Op1.guarded rfl rfl e59 (fun _ => Reg.Op1.plain rfl ?_) (fun h => absurd rfl h)
                        go_wp2
                        exact ⟨rfl, hK _ _ rfl (fun j k _ _ => Reg.Adds.refl _ _ _)⟩
                      · intro val ac u hR hp ha K hK      -- 23: t66 := Op.pick t59 t65 (const (Value.bool false))
                        obtain ⟨w59, h59, r59⟩ := hp 16 (by decide)
                        have e59 : (ac.tmps[59]?).getD undef = .bool true := (ha 59 (by decide)).trans h59
                        clear h59
                        obtain ⟨w65, h65, r65⟩ := hp 22 (by decide)
                        have e65 : (ac.tmps[65]?).getD undef = .bool true := (ha 65 (by decide)).trans h65
                        clear h65
                        clear ha hp
                        refine Reg.Op1.plain rfl ?_
                        go_wp2
                        exact ⟨rfl, hK _ _ rfl (fun j k _ _ => Reg.Adds.refl _ _ _)⟩
                    · intro val u hR H
                      obtain ⟨_, hv, _⟩ := H 23 (by decide)
                      have hv : val 23 = .bool true := hv
                      have HK6 : Hid (Below w5.heap.size w5 u) := (Below.refl _ w5).drew.trans hR
                      simp only [List.map_cons, List.map_nil, Reg.lay, Act.put, List.setIfInBounds_toArray, List.set_cons_succ, List.set_cons_zero, Nat.reduceAdd, hv]
                      clear hR H hv
                      go_wp2
                      go_meet
                      case rel => exact ⟨by rw [hok], HK6.out⟩
                  · have d5 : decide ((es.length : Int) < 16) = false := by simp; omega
                    have hok : okPut rng es e = false := by unfold okPut; simp [hr5]
                    refine Reg.wp_region_rel (by kernel_rfl) 80 24 rfl rfl (by kernel_rfl) (Reg.Adds) (Reg.Adds.refl) (Reg.Adds.trans)
                      (fun i v u => match i with
                        | 0 => v = .agg (entCells e).toArray
                        | 1 => v = .bool true
                        | 2 => v = .bool true
                        | 3 => v = .pointer (some ⟨ge, 0, none⟩)
                        | 4 => v = .pointer (some ⟨ge, 1, none⟩)
                        | 5 => v = .int .i64 e.rng
                        | 6 => v = .pointer (some ⟨g, 0, none⟩)
                        | 7 => v = .pointer (some ⟨g, 0, none⟩)
                        | 8 => v = .pointer (some ⟨g, 0, none⟩)
                        | 9 => v = .int .i64 rng
                        | 10 => v = .bool true
                        | 11 => v = .bool true
                        | 12 => v = .bool true
                        | 13 => v = .bool false
                        | 14 => v = .bool true
                        | 15 => v = .bool true
                        | 16 => v = .bool true
                        | 17 => v = .pointer (some ⟨g, 0, none⟩)
                        | 18 => v = .pointer (some ⟨g, 0, none⟩)
                        | 19 => v = .pointer (some ⟨g, 1, none⟩)
                        | 20 => v = .slice A es.length c
                        | 21 => v = .int .i64 ((es.length : Nat) : Int)
                        | 22 => v = .bool false
                        | 23 => v = .bool false
                        | _ => True) ?_ ?_
                    · refine Reg.Steps.cons ?_ (Reg.Steps.cons ?_ (Reg.Steps.cons ?_ (Reg.Steps.cons ?_ (Reg.Steps.cons ?_ (Reg.Steps.cons ?_ (Reg.Steps.cons ?_ (Reg.Steps.cons ?_ (Reg.Steps.cons ?_ (Reg.Steps.cons ?_ (Reg.Steps.cons ?_ (Reg.Steps.cons ?_ (Reg.Steps.cons ?_ (Reg.Steps.cons ?_ (Reg.Steps.cons ?_ (Reg.Steps.cons ?_ (Reg.Steps.cons ?_ (Reg.Steps.cons ?_ (Reg.Steps.cons ?_ (Reg.Steps.cons ?_ (Reg.Steps.cons ?_ (Reg.Steps.cons ?_ (Reg.Steps.cons ?_ (Reg.Steps.cons ?_ (Reg.Steps.nil _))))))))))))))))))))))))
                      · intro val ac u hR hp ha K hK      -- 0: t43 := Op.load 33 t7
                        have e7 : (ac.tmps[7]?).getD undef = .pointer (some ⟨ge, 0, none⟩) := ha 7 (by decide)
                        clear ha hp
                        refine Reg.Op1.plain rfl ?_
                        have hEu : EBx u ge e := Mem.Bx.below (w := w5.drew) HE5.out hR HE5.out.lt
                        refine Mem.load_agg _ _ entry_agg ge 0 (entCells e) (Reg.eval_of e7) (entCells_length _) (fun j u' hu => by rw [Nat.zero_add]; exact hEu.cell hu) ?_
                        exact ⟨rfl, hK _ _ rfl (fun j k _ _ => Reg.Adds.refl _ _ _)⟩
                      · intro val ac u hR hp ha K hK      -- 1: t44 := Op.call { value (Operand.func 31), args := #[t43], argTypes := #[33] }
                        obtain ⟨w43, h43, r43⟩ := hp 0 (by decide)
                        have e43 : (ac.tmps[43]?).getD undef = .agg (entCells e).toArray := (ha 43 (by decide)).trans h43
                        clear h43
                        clear ha hp
                        refine Reg.Op1.plain rfl ?_
                        go_wp2_with fail
                        refine (refRightE_any e u).mono ?_
                        rintro x w' ⟨rfl, hbw⟩
                        rw [hr1]
                        go_wp2_with fail
                        exact ⟨rfl, hK _ _ rfl (fun j k _ _ => hbw)⟩
                      · intro val ac u hR hp ha K hK      -- 2: t45 := Op.move t44
                        obtain ⟨w44, h44, r44⟩ := hp 1 (by decide)
                        have e44 : (ac.tmps[44]?).getD undef = .bool true := (ha 44 (by decide)).trans h44
                        clear h44
                        clear ha hp
                        refine Reg.Op1.plain rfl ?_
                        go_wp2
                        exact ⟨rfl, hK _ _ rfl (fun j k _ _ => Reg.Adds.refl _ _ _)⟩
                      · intro val ac u hR hp ha K hK      -- 3: t46 := Op.fieldAddr 33 t7 0
                        have e7 : (ac.tmps[7]?).getD undef = .pointer (some ⟨ge, 0, none⟩) := ha 7 (by decide)
                        obtain ⟨w45, h45, r45⟩ := hp 2 (by decide)
                        have e45 : (ac.tmps[45]?).getD undef = .bool true := (ha 45 (by decide)).trans h45
                        clear h45
                        clear ha hp
                        refine Reg.Op1.guarded rfl rfl e45 (fun _ => Reg.Op1.plain rfl ?_) (fun h => absurd rfl h)
                        go_wp2
                        exact ⟨rfl, hK _ _ rfl (fun j k _ _ => Reg.Adds.refl _ _ _)⟩
                      · intro val ac u hR hp ha K hK      -- 4: t47 := Op.fieldAddr 29 t46 1
                        obtain ⟨w46, h46, r46⟩ := hp 3 (by decide)
                        have e46 : (ac.tmps[46]?).getD undef = .pointer (some ⟨ge, 0, none⟩) := (ha 46 (by decide)).trans h46
                        clear h46
                        obtain ⟨w45, h45, r45⟩ := hp 2 (by decide)
                        have e45 : (ac.tmps[45]?).getD undef = .bool true := (ha 45 (by decide)).trans h45
                        clear h45
                        clear ha hp
                        refine Reg.Op1.guarded rfl rfl e45 (fun _ => Reg.Op1.plain rfl ?_) (fun h => absurd rfl h)
                        go_wp2
                        exact ⟨rfl, hK _ _ rfl (fun j k _ _ => Reg.Adds.refl _ _ _)⟩
                      · intro val ac u hR hp ha K hK      -- 5: t48 := Op.load 3 t47
                        obtain ⟨w47, h47, r47⟩ := hp 4 (by decide)
                        have e47 : (ac.tmps[47]?).getD undef = .pointer (some ⟨ge, 1, none⟩) := (ha 47 (by decide)).trans h47
                        clear h47
                        obtain ⟨w45, h45, r45⟩ := hp 2 (by decide)
                        have e45 : (ac.tmps[45]?).getD undef = .bool true := (ha 45 (by decide)).trans h45
                        clear h45
                        clear ha hp
                        refine Reg.Op1.guarded rfl rfl e45 (fun _ => Reg.Op1.plain rfl ?_) (fun h => absurd rfl h)
                        have x0 := (hR.cell (p := ⟨ge, 1, none⟩) HE5.out.lt).trans (HE5.out.cell (j := 1) rfl)
                        go_wp2
                        exact ⟨rfl, hK _ _ rfl (fun j k _ _ => Reg.Adds.refl _ _ _)⟩
                      · intro val ac u hR hp ha K hK      -- 6: t49 := Op.move t0
                        have e0 : (ac.tmps[0]?).getD undef = .pointer (some ⟨g, 0, none⟩) := ha 0 (by decide)
                        obtain ⟨w45, h45, r45⟩ := hp 2 (by decide)
                        have e45 : (ac.tmps[45]?).getD undef = .bool true := (ha 45 (by decide)).trans h45
                        clear h45
                        clear ha hp
                        refine Reg.Op1.guarded rfl rfl e45 (fun _ => Reg.Op1.plain rfl ?_) (fun h => absurd rfl h)
                        go_wp2
                        exact ⟨rfl, hK _ _ rfl (fun j k _ _ => Reg.Adds.refl _ _ _)⟩
                      · intro val ac u hR hp ha K hK      -- 7: t50 := Op.nilCheck t49
                        obtain ⟨w49, h49, r49⟩ := hp 6 (by decide)
                        have e49 : (ac.tmps[49]?).getD undef = .pointer (some ⟨g, 0, none⟩) := (ha 49 (by decide)).trans h49
                        clear h49
                        obtain ⟨w45, h45, r45⟩ := hp 2 (by decide)
                        have e45 : (ac.tmps[45]?).getD undef = .bool true := (ha 45 (by decide)).trans h45
                        clear h45
                        clear ha hp
                        refine Reg.Op1.guarded rfl rfl e45 (fun _ => Reg.Op1.plain rfl ?_) (fun h => absurd rfl h)
                        go_wp2
                        exact ⟨rfl, hK _ _ rfl (fun j k _ _ => Reg.Adds.refl _ _ _)⟩
                      · intro val ac u hR hp ha K hK      -- 8: t51 := Op.fieldAddr 53 t50 0
                        obtain ⟨w50, h50, r50⟩ := hp 7 (by decide)
                        have e50 : (ac.tmps[50]?).getD undef = .pointer (some ⟨g, 0, none⟩) := (ha 50 (by decide)).trans h50
                        clear h50
                        obtain ⟨w45, h45, r45⟩ := hp 2 (by decide)
                        have e45 : (ac.tmps[45]?).getD undef = .bool true := (ha 45 (by decide)).trans h45
                        clear h45
                        clear ha hp
                        refine Reg.Op1.guarded rfl rfl e45 (fun _ => Reg.Op1.plain rfl ?_) (fun h => absurd rfl h)
                        go_wp2
                        exact ⟨rfl, hK _ _ rfl (fun j k _ _ => Reg.Adds.refl _ _ _)⟩
                      · intro val ac u hR hp ha K hK      -- 9: t52 := Op.load 3 t51
                        obtain ⟨w51, h51, r51⟩ := hp 8 (by decide)
                        have e51 : (ac.tmps[51]?).getD undef = .pointer (some ⟨g, 0, none⟩) := (ha 51 (by decide)).trans h51
                        clear h51
                        obtain ⟨w45, h45, r45⟩ := hp 2 (by decide)
                        have e45 : (ac.tmps[45]?).getD undef = .bool true := (ha 45 (by decide)).trans h45
                        clear h45
                        clear ha hp
                        refine Reg.Op1.guarded rfl rfl e45 (fun _ => Reg.Op1.plain rfl ?_) (fun h => absurd rfl h)
                        have x0 := (hR.cell (p := ⟨g, 0, none⟩) HA5.out.B.lt).trans (HA5.out.B.cell (j := 0) rfl)
                        go_wp2
                        exact ⟨rfl, hK _ _ rfl (fun j k _ _ => Reg.Adds.refl _ _ _)⟩
                      · intro val ac u hR hp ha K hK      -- 10: t53 := Op.binOp BinOp.eql 3 t48 t52 3
                        obtain ⟨w48, h48, r48⟩ := hp 5 (by decide)
                        have e48 : (ac.tmps[48]?).getD undef = .int .i64 e.rng := (ha 48 (by decide)).trans h48
                        clear h48
                        obtain ⟨w52, h52, r52⟩ := hp 9 (by decide)
                        have e52 : (ac.tmps[52]?).getD undef = .int .i64 rng := (ha 52 (by decide)).trans h52
                        clear h52
                        obtain ⟨w45, h45, r45⟩ := hp 2 (by decide)
                        have e45 : (ac.tmps[45]?).getD undef = .bool true := (ha 45 (by decide)).trans h45
                        clear h45
                        clear ha hp
                        refine Reg.Op1.guarded rfl rfl e45 (fun _ => Reg.Op1.plain rfl ?_) (fun h => absurd rfl h)
                        go_wp2
                        exact ⟨rfl, hK _ _ rfl (fun j k _ _ => Reg.Adds.refl _ _ _)⟩
                      · intro val ac u hR hp ha K hK      -- 11: t54 := Op.pick t45 t53 (const (Value.bool false))
                        obtain ⟨w45, h45, r45⟩ := hp 2 (by decide)
                        have e45 : (ac.tmps[45]?).getD undef = .bool true := (ha 45 (by decide)).trans h45
                        clear h45
                        obtain ⟨w53, h53, r53⟩ := hp 10 (by decide)
                        have e53 : (ac.tmps[53]?).getD undef = .bool true := (ha 53 (by decide)).trans h53
                        clear h53
                        clear ha hp
                        refine Reg.Op1.plain rfl ?_
                        go_wp2
                        exact ⟨rfl, hK _ _ rfl (fun j k _ _ => Reg.Adds.refl _ _ _)⟩
                      · intro val ac u hR hp ha K hK      -- 12: t55 := Op.move t54
                        obtain ⟨w54, h54, r54⟩ := hp 11 (by decide)
                        have e54 : (ac.tmps[54]?).getD undef = .bool true := (ha 54 (by decide)).trans h54
                        clear h54
                        clear ha hp
                        refine Reg.Op1.plain rfl ?_
                        go_wp2
                        exact ⟨rfl, hK _ _ rfl (fun j k _ _ => Reg.Adds.refl _ _ _)⟩
                      · intro val ac u hR hp ha K hK      -- 13: t56 := Op.move t8
                        have e8 : (ac.tmps[8]?).getD undef = .bool false := ha 8 (by decide)
                        obtain ⟨w55, h55, r55⟩ := hp 12 (by decide)
                        have e55 : (ac.tmps[55]?).getD undef = .bool true := (ha 55 (by decide)).trans h55
                        clear h55
                        clear ha hp
                        refine Reg.Op1.guarded rfl rfl e55 (fun _ => Reg.Op1.plain rfl ?_) (fun h => absurd rfl h)
                        go_wp2
                        exact ⟨rfl, hK _ _ rfl (fun j k _ _ => Reg.Adds.refl _ _ _)⟩
                      · intro val ac u hR hp ha K hK      -- 14: t57 := Op.unOp UnOp.not 4 t56
                        obtain ⟨w56, h56, r56⟩ := hp 13 (by decide)
                        have e56 : (ac.tmps[56]?).getD undef = .bool false := (ha 56 (by decide)).trans h56
                        clear h56
                        obtain ⟨w55, h55, r55⟩ := hp 12 (by decide)
                        have e55 : (ac.tmps[55]?).getD undef = .bool true := (ha 55 (by decide)).trans h55
                        clear h55
                        clear ha hp
                        refine Reg.Op1.guarded rfl rfl e55 (fun _ => Reg.Op1.plain rfl ?_) (fun h => absurd rfl h)
                        go_wp2
                        exact ⟨rfl, hK _ _ rfl (fun j k _ _ => Reg.Adds.refl _ _ _)⟩
                      · intro val ac u hR hp ha K hK      -- 15: t58 := Op.pick t55 t57 (const (Value.bool false))
                        obtain ⟨w55, h55, r55⟩ := hp 12 (by decide)
                        have e55 : (ac.tmps[55]?).getD undef = .bool true := (ha 55 (by decide)).trans h55
                        clear h55
                        obtain ⟨w57, h57, r57⟩ := hp 14 (by decide)
                        have e57 : (ac.tmps[57]?).getD undef = .bool true := (ha 57 (by decide)).trans h57
                        clear h57
                        clear ha hp
                        refine Reg.Op1.plain rfl ?_
                        go_wp2
                        exact ⟨rfl, hK _ _ rfl (fun j k _ _ => Reg.Adds.refl _ _ _)⟩
                      · intro val ac u hR hp ha K hK      -- 16: t59 := Op.move t58
                        obtain ⟨w58, h58, r58⟩ := hp 15 (by decide)
                        have e58 : (ac.tmps[58]?).getD undef = .bool true := (ha 58 (by decide)).trans h58
                        clear h58
                        clear ha hp
                        refine Reg.Op1.plain rfl ?_
                        go_wp2
                        exact ⟨rfl, hK _ _ rfl (fun j k _ _ => Reg.Adds.refl _ _ _)⟩
                      · intro val ac u hR hp ha K hK      -- 17: t60 := Op.move t0
                        have e0 : (ac.tmps[0]?).getD undef = .pointer (some ⟨g, 0, none⟩) := ha 0 (by decide)
                        obtain ⟨w59, h59, r59⟩ := hp 16 (by decide)
                        have e59 : (ac.tmps[59]?).getD undef = .bool true := (ha 59 (by decide)).trans h59
                        clear h59
                        clear ha hp
                        refine Reg.Op1.guarded rfl rfl e59 (fun _ => Reg.Op1.plain rfl ?_) (fun h => absurd rfl h)
                        go_wp2
                        exact ⟨rfl, hK _ _ rfl (fun j k _ _ => Reg.Adds.refl _ _ _)⟩
                      · intro val ac u hR hp ha K hK      -- 18: t61 := Op.nilCheck t60
                        obtain ⟨w60, h60, r60⟩ := hp 17 (by decide)
                        have e60 : (ac.tmps[60]?).getD undef = .pointer (some ⟨g, 0, none⟩) := (ha 60 (by decide)).trans h60
                        clear h60
                        obtain ⟨w59, h59, r59⟩ := hp 16 (by decide)
                        have e59 : (ac.tmps[59]?).getD undef = .bool true := (ha 59 (by decide)).trans h59
                        clear h59
                        clear ha hp
                        refine Reg.Op1.guarded rfl rfl e59 (fun _ => Reg.Op1.plain rfl ?_) (fun h => absurd rfl h)
                        go_wp2
                        exact ⟨rfl, hK _ _ rfl (fun j k _ _ => Reg.Adds.refl _ _ _)⟩
                      · intro val ac u hR hp ha K hK      -- 19: t62 := Op.fieldAddr 53 t61 1
                        obtain ⟨w61, h61, r61⟩ := hp 18 (by decide)
                        have e61 : (ac.tmps[61]?).getD undef = .pointer (some ⟨g, 0, none⟩) := (ha 61 (by decide)).trans h61
                        clear h61
                        obtain ⟨w59, h59, r59⟩ := hp 16 (by decide)
                        have e59 : (ac.tmps[59]?).getD undef = .bool true := (ha 59 (by decide)).trans h59
                        clear h59
                        clear ha hp
                        refine Reg.Op1.guarded rfl rfl e59 (fun _ => Reg.Op1.plain rfl ?_) (fun h => absurd rfl h)
                        go_wp2
                        exact ⟨rfl, hK _ _ rfl (fun j k _ _ => Reg.Adds.refl _ _ _)⟩
                      · intro val ac u hR hp ha K hK      -- 20: t63 := Op.load 24 t62
                        obtain ⟨w62, h62, r62⟩ := hp 19 (by decide)
                        have e62 : (ac.tmps[62]?).getD undef = .pointer (some ⟨g, 1, none⟩) := (ha 62 (by decide)).trans h62
                        clear h62
                        obtain ⟨w59, h59, r59⟩ := hp 16 (by decide)
                        have e59 : (ac.tmps[59]?).getD undef = .bool true := (ha 59 (by decide)).trans h59
                        clear h59
                        clear ha hp
                        refine Reg.Op1.guarded rfl rfl e59 (fun _ => Reg.Op1.plain rfl ?_) (fun h => absurd rfl h)
                        have x0 := (hR.cell (p := ⟨g, 1, none⟩) HA5.out.B.lt).trans (HA5.out.B.cell (j := 1) rfl)
                        go_wp2
                        exact ⟨rfl, hK _ _ rfl (fun j k _ _ => Reg.Adds.refl _ _ _)⟩
                      · intro val ac u hR hp ha K hK      -- 21: t64 := Op.call { builtin len, args := #[t63], argTypes := #[24] }
                        obtain ⟨w63, h63, r63⟩ := hp 20 (by decide)
                        have e63 : (ac.tmps[63]?).getD undef = .slice A es.length c := (ha 63 (by decide)).trans h63
                        clear h63
                        obtain ⟨w59, h59, r59⟩ := hp 16 (by decide)
                        have e59 : (ac.tmps[59]?).getD undef = .bool true := (ha 59 (by decide)).trans h59
                        clear h59
                        clear ha hp
                        refine Reg.Op1.guarded rfl rfl e59 (fun _ => Reg.Op1.plain rfl ?_) (fun h => absurd rfl h)
                        go_wp2
                        exact ⟨rfl, hK _ _ rfl (fun j k _ _ => Reg.Adds.refl _ _ _)⟩
                      · intro val ac u hR hp ha K hK      -- 22: t65 := Op.binOp BinOp.lss 3 t64 (const (16:i64)) 3
                        obtain ⟨w64, h64, r64⟩ := hp 21 (by decide)
                        have e64 : (ac.tmps[64]?).getD undef = .int .i64 ((es.length : Nat) : Int) := (ha 64 (by decide)).trans h64
                        clear h64
                        obtain ⟨w59, h59, r59⟩ := hp 16 (by decide)
                        have e59 : (ac.tmps[59]?).getD undef = .bool true := (ha 59 (by decide)).trans h59
                        clear h59
                        clear ha hp
                        refine Reg.Op1.guarded rfl rfl e59 (fun _ => Reg.Op1.plain rfl ?_) (fun h => absurd rfl h)
                        go_wp2
                        exact ⟨rfl, hK _ _ rfl (fun j k _ _ => Reg.Adds.refl _ _ _)⟩
                      · intro val ac u hR hp ha K hK      -- 23: t66 := Op.pick t59 t65 (const (Value.bool false))
                        obtain ⟨w59, h59, r59⟩ := hp 16 (by decide)
                        have e59 : (ac.tmps[59]?).getD undef = .bool true := (ha 59 (by decide)).trans h59
                        clear h59
                        obtain ⟨w65, h65, r65⟩ := hp 22 (by decide)
                        have e65 : (ac.tmps[65]?).getD undef = .bool false := (ha 65 (by decide)).trans h65
                        clear h65
                        clear ha hp
                        refine Reg.Op1.plain rfl ?_
                        go_wp2
                        exact ⟨rfl, hK _ _ rfl (fun j k _ _ => Reg.Adds.refl _ _ _)⟩
                    · intro val u hR H
                      obtain ⟨_, hv, _⟩ := H 23 (by decide)
                      have hv : val 23 = .bool false := hv
                      have HK6 : Hid (Below w5.heap.size w5 u) := (Below.refl _ w5).drew.trans hR
                      simp only [List.map_cons, List.map_nil, Reg.lay, Act.put, List.setIfInBounds_toArray, List.set_cons_succ, List.set_cons_zero, Nat.reduceAdd, hv]
                      clear hR H hv
                      go_wp2
                      go_meet
                      case rel => exact ⟨by rw [hok], HK6.out⟩
                · have hok : okPut rng es e = false := by unfold okPut; rw [hth2]; simp
                  refine Reg.wp_region_rel (by kernel_rfl) 80 24 rfl rfl (by kernel_rfl) (Reg.Adds) (Reg.Adds.refl) (Reg.Adds.trans)
                    (fun i v u => match i with
                      | 0 => v = .agg (entCells e).toArray
                      | 1 => v = .bool true
                      | 2 => v = .bool true
                      | 3 => v = .pointer (some ⟨ge, 0, none⟩)
                      | 4 => v = .pointer (some ⟨ge, 1, none⟩)
                      | 5 => v = .int .i64 e.rng
                      | 6 => v = .pointer (some ⟨g, 0, none⟩)
                      | 7 => v = .pointer (some ⟨g, 0, none⟩)
                      | 8 => v = .pointer (some ⟨g, 0, none⟩)
                      | 9 => v = .int .i64 rng
                      | 10 => v = .bool true
                      | 11 => v = .bool true
                      | 12 => v = .bool true
                      | 13 => v = .bool true
                      | 14 => v = .bool false
                      | 15 => v = .bool false
                      | 16 => v = .bool false
                      | 17 => v = undef
                      | 18 => v = undef
                      | 19 => v = undef
                      | 20 => v = undef
                      | 21 => v = undef
                      | 22 => v = undef
                      | 23 => v = .bool false
                      | _ => True) ?_ ?_
                  · refine Reg.Steps.cons ?_ (Reg.Steps.cons ?_ (Reg.Steps.cons ?_ (Reg.Steps.cons ?_ (Reg.Steps.cons ?_ (Reg.Steps.cons ?_ (Reg.Steps.cons ?_ (Reg.Steps.cons ?_ (Reg.Steps.cons ?_ (Reg.Steps.cons ?_ (Reg.Steps.cons ?_ (Reg.Steps.cons ?_ (Reg.Steps.cons ?_ (Reg.Steps.cons ?_ (Reg.Steps.cons ?_ (Reg.Steps.cons ?_ (Reg.Steps.cons ?_ (Reg.Steps.cons ?_ (Reg.Steps.cons ?_ (Reg.Steps.cons ?_ (Reg.Steps.cons ?_ (Reg.Steps.cons ?_ (Reg.Steps.cons ?_ (Reg.Steps.cons ?_ (Reg.Steps.nil _))))))))))))))))))))))))
                    · intro val ac u hR hp ha K hK      -- 0: t43 := Op.load 33 t7
                      have e7 : (ac.tmps[7]?).getD undef = .pointer (some ⟨ge, 0, none⟩) := ha 7 (by decide)
                      clear ha hp
                      refine Reg.Op1.plain rfl ?_
                      have hEu : EBx u ge e := Mem.Bx.below (w := w5.drew) HE5.out hR HE5.out.lt
                      refine Mem.load_agg _ _ entry_agg ge 0 (entCells e) (Reg.eval_of e7) (entCells_length _) (fun j u' hu => by rw [Nat.zero_add]; exact hEu.cell hu) ?_
                      exact ⟨rfl, hK _ _ rfl (fun j k _ _ => Reg.Adds.refl _ _ _)⟩
                    · intro val ac u hR hp ha K hK      -- 1: t44 := Op.call { value (Operand.func 31), args := #[t43], argTypes := #[33] }
                      obtain ⟨w43, h43, r43⟩ := hp 0 (by decide)
                      have e43 : (ac.tmps[43]?).getD undef = .agg (entCells e).toArray := (ha 43 (by decide)).trans h43
                      clear h43
                      clear ha hp
                      refine Reg.Op1.plain rfl ?_
                      go_wp2_with fail
                      refine (refRightE_any e u).mono ?_
                      rintro x w' ⟨rfl, hbw⟩
                      rw [hr1]
                      go_wp2_with fail
                      exact ⟨rfl, hK _ _ rfl (fun j k _ _ => hbw)⟩
                    · intro val ac u hR hp ha K hK      -- 2: t45 := Op.move t44
                      obtain ⟨w44, h44, r44⟩ := hp 1 (by decide)
                      have e44 : (ac.tmps[44]?).getD undef = .bool true := (ha 44 (by decide)).trans h44
                      clear h44
                      clear ha hp
                      refine Reg.Op1.plain rfl ?_
                      go_wp2
                      exact ⟨rfl, hK _ _ rfl (fun j k _ _ => Reg.Adds.refl _ _ _)⟩
                    · intro val ac u hR hp ha K hK      -- 3: t46 := Op.fieldAddr 33 t7 0
                      have e7 : (ac.tmps[7]?).getD undef = .pointer (some ⟨ge, 0, none⟩) := ha 7 (by decide)
                      obtain ⟨w45, h45, r45⟩ := hp 2 (by decide)
                      have e45 : (ac.tmps[45]?).getD undef = .bool true := (ha 45 (by decide)).trans h45
                      clear h45
                      clear ha hp
                      refine Reg.Op1.guarded rfl rfl e45 (fun _ => Reg.Op1.plain rfl ?_) (fun h => absurd rfl h)
                      go_wp2
                      exact ⟨rfl, hK _ _ rfl (fun j k _ _ => Reg.Adds.refl _ _ _)⟩
                    · intro val ac u hR hp ha K hK      -- 4: t47 := Op.fieldAddr 29 t46 1
                      obtain ⟨w46, h46, r46⟩ := hp 3 (by decide)
                      have e46 : (ac.tmps[46]?).getD undef = .pointer (some ⟨ge, 0, none⟩) := (ha 46 (by decide)).trans h46
                      clear h46
                      obtain ⟨w45, h45, r45⟩ := hp 2 (by decide)
                      have e45 : (ac.tmps[45]?).getD undef = .bool true := (ha 45 (by decide)).trans h45
                      clear h45
                      clear ha hp
                      refine Reg.Op1.guarded rfl rfl e45 (fun _ => Reg.Op1.plain rfl ?_) (fun h => absurd rfl h)
                      go_wp2
                      exact ⟨rfl, hK _ _ rfl (fun j k _ _ => Reg.Adds.refl _ _ _)⟩
                    · intro val ac u hR hp ha K hK      -- 5: t48 := Op.load 3 t47
                      obtain ⟨w47, h47, r47⟩ := hp 4 (by decide)
                      have e47 : (ac.tmps[47]?).getD undef = .pointer (some ⟨ge, 1, none⟩) := (ha 47 (by decide)).trans h47
                      clear h47
                      obtain ⟨w45, h45, r45⟩ := hp 2 (by decide)
                      have e45 : (ac.tmps[45]?).getD undef = .bool true := (ha 45 (by decide)).trans h45
                      clear h45
                      clear ha hp
                      refine Reg.Op1.guarded rfl rfl e45 (fun _ => Reg.Op1.plain rfl ?_) (fun h => absurd rfl h)
                      have x0 := (hR.cell (p := ⟨ge, 1, none⟩) HE5.out.lt).trans (HE5.out.cell (j := 1) rfl)
                      go_wp2
                      exact ⟨rfl, hK _ _ rfl (fun j k _ _ => Reg.Adds.refl _ _ _)⟩
                    · intro val ac u hR hp ha K hK      -- 6: t49 := Op.move t0
                      have e0 : (ac.tmps[0]?).getD undef = .pointer (some ⟨g, 0, none⟩) := ha 0 (by decide)
                      obtain ⟨w45, h45, r45⟩ := hp 2 (by decide)
                      have e45 : (ac.tmps[45]?).getD undef = .bool true := (ha 45 (by decide)).trans h45
                      clear h45
                      clear ha hp
                      refine Reg.Op1.guarded rfl rfl e45 (fun _ => Reg.Op1.plain rfl ?_) (fun h => absurd rfl h)
                      go_wp2
                      exact ⟨rfl, hK _ _ rfl (fun j k _ _ => Reg.Adds.refl _ _ _)⟩
                    · intro val ac u hR hp ha K hK      -- 7: t50 := Op.nilCheck t49
                      obtain ⟨w49, h49, r49⟩ := hp 6 (by decide)
                      have e49 : (ac.tmps[49]?).getD undef = .pointer (some ⟨g, 0, none⟩) := (ha 49 (by decide)).trans h49
                      clear h49
                      obtain ⟨w45, h45, r45⟩ := hp 2 (by decide)
                      have e45 : (ac.tmps[45]?).getD undef = .bool true := (ha 45 (by decide)).trans h45
                      clear h45
                      clear ha hp
                      refine Reg.Op1.guarded rfl rfl e45 (fun _ => Reg.Op1.plain rfl ?_) (fun h => absurd rfl h)
                      go_wp2
                      exact ⟨rfl, hK _ _ rfl (fun j k _ _ => Reg.Adds.refl _ _ _)⟩
                    · intro val ac u hR hp ha K hK      -- 8: t51 := Op.fieldAddr 53 t50 0
                      obtain ⟨w50, h50, r50⟩ := hp 7 (by decide)
                      have e50 : (ac.tmps[50]?).getD undef = .pointer (some ⟨g, 0, none⟩) := (ha 50 (by decide)).trans h50
                      clear h50
                      obtain ⟨w45, h45, r45⟩ := hp 2 (by decide)
                      have e45 : (ac.tmps[45]?).getD undef = .bool true := (ha 45 (by decide)).trans h45
                      clear h45
                      clear ha hp
                      refine Reg.Op1.guarded rfl rfl e45 (fun _ => Reg.Op1.plain rfl ?_) (fun h => absurd rfl h)
                      go_wp2
                      exact ⟨rfl, hK _ _ rfl (fun j k _ _ => Reg.Adds.refl _ _ _)⟩
                    · intro val ac u hR hp ha K hK      -- 9: t52 := Op.load 3 t51
                      obtain ⟨w51, h51, r51⟩ := hp 8 (by decide)
                      have e51 : (ac.tmps[51]?).getD undef = .pointer (some ⟨g, 0, none⟩) := (ha 51 (by decide)).trans h51
                      clear h51
                      obtain ⟨w45, h45, r45⟩ := hp 2 (by decide)
                      have e45 : (ac.tmps[45]?).getD undef = .bool true := (ha 45 (by decide)).trans h45
                      clear h45
                      clear ha hp
                      refine Reg.Op1.guarded rfl rfl e45 (fun _ => Reg.Op1.plain rfl ?_) (fun h => absurd rfl h)
                      have x0 := (hR.cell (p := ⟨g, 0, none⟩) HA5.out.B.lt).trans (HA5.out.B.cell (j := 0) rfl)
                      go_wp2
                      exact ⟨rfl, hK _ _ rfl (fun j k _ _ => Reg.Adds.refl _ _ _)⟩
                    · intro val ac u hR hp ha K hK      -- 10: t53 := Op.binOp BinOp.eql 3 t48 t52 3
                      obtain ⟨w48, h48, r48⟩ := hp 5 (by decide)
                      have e48 : (ac.tmps[48]?).getD undef = .int .i64 e.rng := (ha 48 (by decide)).trans h48
                      clear h48
                      obtain ⟨w52, h52, r52⟩ := hp 9 (by decide)
                      have e52 : (ac.tmps[52]?).getD undef = .int .i64 rng := (ha 52 (by decide)).trans h52
                      clear h52
                      obtain ⟨w45, h45, r45⟩ := hp 2 (by decide)
                      have e45 : (ac.tmps[45]?).getD undef = .bool true := (ha 45 (by decide)).trans h45
                      clear h45
                      clear ha hp
                      refine Reg.Op1.guarded rfl rfl e45 (fun _ => Reg.Op1.plain rfl ?_) (fun h => absurd rfl h)
                      go_wp2
                      exact ⟨rfl, hK _ _ rfl (fun j k _ _ => Reg.Adds.refl _ _ _)⟩
                    · intro val ac u hR hp ha K hK      -- 11: t54 := Op.pick t45 t53 (const (Value.bool false))
                      obtain ⟨w45, h45, r45⟩ := hp 2 (by decide)
                      have e45 : (ac.tmps[45]?).getD undef = .bool true := (ha 45 (by decide)).trans h45
                      clear h45
                      obtain ⟨w53, h53, r53⟩ := hp 10 (by decide)
                      have e53 : (ac.tmps[53]?).getD undef = .bool true := (ha 53 (by decide)).trans h53
                      clear h53
                      clear ha hp
                      refine Reg.Op1.plain rfl ?_
                      go_wp2
                      exact ⟨rfl, hK _ _ rfl (fun j k _ _ => Reg.Adds.refl _ _ _)⟩
                    · intro val ac u hR hp ha K hK      -- 12: t55 := Op.move t54
                      obtain ⟨w54, h54, r54⟩ := hp 11 (by decide)
                      have e54 : (ac.tmps[54]?).getD undef = .bool true := (ha 54 (by decide)).trans h54
                      clear h54
                      clear ha hp
                      refine Reg.Op1.plain rfl ?_
                      go_wp2
                      exact ⟨rfl, hK _ _ rfl (fun j k _ _ => Reg.Adds.refl _ _ _)⟩
                    · intro val ac u hR hp ha K hK      -- 13: t56 := Op.move t8
                      have e8 : (ac.tmps[8]?).getD undef = .bool true := ha 8 (by decide)
                      obtain ⟨w55, h55, r55⟩ := hp 12 (by decide)
                      have e55 : (ac.tmps[55]?).getD undef = .bool true := (ha 55 (by decide)).trans h55
                      clear h55
                      clear ha hp
                      refine Reg.Op1.guarded rfl rfl e55 (fun _ => Reg.Op1.plain rfl ?_) (fun h => absurd rfl h)
                      go_wp2
                      exact ⟨rfl, hK _ _ rfl (fun j k _ _ => Reg.Adds.refl _ _ _)⟩
                    · intro val ac u hR hp ha K hK      -- 14: t57 := Op.unOp UnOp.not 4 t56
                      obtain ⟨w56, h56, r56⟩ := hp 13 (by decide)
                      have e56 : (ac.tmps[56]?).getD undef = .bool true := (ha 56 (by decide)).trans h56
                      clear h56
                      obtain ⟨w55, h55, r55⟩ := hp 12 (by decide)
                      have e55 : (ac.tmps[55]?).getD undef = .bool true := (ha 55 (by decide)).trans h55
                      clear h55
                      clear ha hp
                      refine Reg.Op1.guarded rfl rfl e55 (fun _ => Reg.Op1.plain rfl ?_) (fun h => absurd rfl h)
                      go_wp2
                      exact ⟨rfl, hK _ _ rfl (fun j k _ _ => Reg.Adds.refl _ _ _)⟩
                    · intro val ac u hR hp ha K hK      -- 15: t58 := Op.pick t55 t57 (const (Value.bool false))
                      obtain ⟨w55, h55, r55⟩ := hp 12 (by decide)
                      have e55 : (ac.tmps[55]?).getD undef = .bool true := (ha 55 (by decide)).trans h55
                      clear h55
                      obtain ⟨w57, h57, r57⟩ := hp 14 (by decide)
                      have e57 : (ac.tmps[57]?).getD undef = .bool false := (ha 57 (by decide)).trans h57
                      clear h57
                      clear ha hp
                      refine Reg.Op1.plain rfl ?_
                      go_wp2
                      exact ⟨rfl, hK _ _ rfl (fun j k _ _ => Reg.Adds.refl _ _ _)⟩
                    · intro val ac u hR hp ha K hK      -- 16: t59 := Op.move t58
                      obtain ⟨w58, h58, r58⟩ := hp 15 (by decide)
                      have e58 : (ac.tmps[58]?).getD undef = .bool false := (ha 58 (by decide)).trans h58
                      clear h58
                      clear ha hp
                      refine Reg.Op1.plain rfl ?_
                      go_wp2
                      exact ⟨rfl, hK _ _ rfl (fun j k _ _ => Reg.Adds.refl _ _ _)⟩
                    · intro val ac u hR hp ha K hK      -- 17: t60 := Op.move t0
                      obtain ⟨w59, h59, r59⟩ := hp 16 (by decide)
                      have e59 : (ac.tmps[59]?).getD undef = .bool false := (ha 59 (by decide)).trans h59
                      clear h59
                      clear ha hp
                      exact Reg.Op1.guarded rfl rfl e59 (fun h => by cases h) (fun _ => hK _ _ rfl (fun j k _ _ => Reg.Adds.refl _ _ _))
                    · intro val ac u hR hp ha K hK      -- 18: t61 := Op.nilCheck t60
                      obtain ⟨w59, h59, r59⟩ := hp 16 (by decide)
                      have e59 : (ac.tmps[59]?).getD undef = .bool false := (ha 59 (by decide)).trans h59
                      clear h59
                      clear ha hp
                      exact Reg.Op1.guarded rfl rfl e59 (fun h => by cases h) (fun _ => hK _ _ rfl (fun j k _ _ => Reg.Adds.refl _ _ _))
                    · intro val ac u hR hp ha K hK      -- 19: t62 := Op.fieldAddr 53 t61 1
                      obtain ⟨w59, h59, r59⟩ := hp 16 (by decide)
                      have e59 : (ac.tmps[59]?).getD undef = .bool false := (ha 59 (by decide)).trans h59
                      clear h59
                      clear ha hp
                      exact Reg.Op1.guarded rfl rfl e59 (fun h => by cases h) (fun _ => hK _ _ rfl (fun j k _ _ => Reg.Adds.refl _ _ _))
                    · intro val ac u hR hp ha K hK      -- 20: t63 := Op.load 24 t62
                      obtain ⟨w59, h59, r59⟩ := hp 16 (by decide)
                      have e59 : (ac.tmps[59]?).getD undef = .bool false := (ha 59 (by decide)).trans h59
                      clear h59
                      clear ha hp
                      exact Reg.Op1.guarded rfl rfl e59 (fun h => by cases h) (fun _ => hK _ _ rfl (fun j k _ _ => Reg.Adds.refl _ _ _))
                    · intro val ac u hR hp ha K hK      -- 21: t64 := Op.call { builtin len, args := #[t63], argTypes := #[24] }
                      obtain ⟨w59, h59, r59⟩ := hp 16 (by decide)
                      have e59 : (ac.tmps[59]?).getD undef = .bool false := (ha 59 (by decide)).trans h59
                      clear h59
                      clear ha hp
                      exact Reg.Op1.guarded rfl rfl e59 (fun h => by cases h) (fun _ => hK _ _ rfl (fun j k _ _ => Reg.Adds.refl _ _ _))
                    · intro val ac u hR hp ha K hK      -- 22: t65 := Op.binOp BinOp.lss 3 t64 (const (16:i64)) 3
                      obtain ⟨w59, h59, r59⟩ := hp 16 (by decide)
                      have e59 : (ac.tmps[59]?).getD undef = .bool false := (ha 59 (by decide)).trans h59
                      clear h59
                      clear ha hp
                      exact Reg.Op1.guarded rfl rfl e59 (fun h => by cases h) (fun _ => hK _ _ rfl (fun j k _ _ => Reg.Adds.refl _ _ _))
                    · intro val ac u hR hp ha K hK      -- 23: t66 := Op.pick t59 t65 (const (Value.bool false))
                      obtain ⟨w59, h59, r59⟩ := hp 16 (by decide)
                      have e59 : (ac.tmps[59]?).getD undef = .bool false := (ha 59 (by decide)).trans h59
                      clear h59
                      obtain ⟨w65, h65, r65⟩ := hp 22 (by decide)
                      have e65 : (ac.tmps[65]?).getD undef = undef := (ha 65 (by decide)).trans h65
                      clear h65
                      clear ha hp
                      refine Reg.Op1.plain rfl ?_
                      go_wp2
                      exact ⟨rfl, hK _ _ rfl (fun j k _ _ => Reg.Adds.refl _ _ _)⟩
                  · intro val u hR H
                    obtain ⟨_, hv, _⟩ := H 23 (by decide)
                    have hv : val 23 = .bool false := hv
                    have HK6 : Hid (Below w5.heap.size w5 u) := (Below.refl _ w5).drew.trans hR
                    simp only [List.map_cons, List.map_nil, Reg.lay, Act.put, List.setIfInBounds_toArray, List.set_cons_succ, List.set_cons_zero, Nat.reduceAdd, hv]
                    clear hR H hv
                    go_wp2
                    go_meet
                    case rel => exact ⟨by rw [hok], HK6.out⟩
              · have d2 : (e.rng == rng) = false := by simp [hr2]
                have hok : okPut rng es e = false := by unfold okPut; rw [d2]; simp
                refine Reg.wp_region_rel (by kernel_rfl) 80 24 rfl rfl (by kernel_rfl) (Reg.Adds) (Reg.Adds.refl) (Reg.Adds.trans)
                  (fun i v u => match i with
                    | 0 => v = .agg (entCells e).toArray
                    | 1 => v = .bool true
                    | 2 => v = .bool true
                    | 3 => v = .pointer (some ⟨ge, 0, none⟩)
                    | 4 => v = .pointer (some ⟨ge, 1, none⟩)
                    | 5 => v = .int .i64 e.rng
                    | 6 => v = .pointer (some ⟨g, 0, none⟩)
                    | 7 => v = .pointer (some ⟨g, 0, none⟩)
                    | 8 => v = .pointer (some ⟨g, 0, none⟩)
                    | 9 => v = .int .i64 rng
                    | 10 => v = .bool false
                    | 11 => v = .bool false
                    | 12 => v = .bool false
                    | 13 => v = undef
                    | 14 => v = undef
                    | 15 => v = .bool false
                    | 16 => v = .bool false
                    | 17 => v = undef
                    | 18 => v = undef
                    | 19 => v = undef
                    | 20 => v = undef
                    | 21 => v = undef
                    | 22 => v = undef
                    | 23 => v = .bool false
                    | _ => True) ?_ ?_
                · refine Reg.Steps.cons ?_ (Reg.Steps.cons ?_ (Reg.Steps.cons ?_ (Reg.Steps.cons ?_ (Reg.Steps.cons ?_ (Reg.Steps.cons ?_ (Reg.Steps.cons ?_ (Reg.Steps.cons ?_ (Reg.Steps.cons ?_ (Reg.Steps.cons ?_ (Reg.Steps.cons ?_ (Reg.Steps.cons ?_ (Reg.Steps.cons ?_ (Reg.Steps.cons ?_ (Reg.Steps.cons ?_ (Reg.Steps.cons ?_ (Reg.Steps.cons ?_ (Reg.Steps.cons ?_ (Reg.Steps.cons ?_ (Reg.Steps.cons ?_ (Reg.Steps.cons ?_ (Reg.Steps.cons ?_ (Reg.Steps.cons ?_ (Reg.Steps.cons ?_ (Reg.Steps.nil _))))))))))))))))))))))))
                  · intro val ac u hR hp ha K hK      -- 0: t43 := Op.load 33 t7
                    have e7 : (ac.tmps[7]?).getD undef = .pointer (some ⟨ge, 0, none⟩) := ha 7 (by decide)
                    clear ha hp
                    refine Reg.Op1.plain rfl ?_
                    have hEu : EBx u ge e := Mem.Bx.below (w := w5.drew) HE5.out hR HE5.out.lt
                    refine Mem.load_agg _ _ entry_agg ge 0 (entCells e) (Reg.eval_of e7) (entCells_length _) (fun j u' hu => by rw [Nat.zero_add]; exact hEu.cell hu) ?_
                    exact ⟨rfl, hK _ _ rfl (fun j k _ _ => Reg.Adds.refl _ _ _)⟩
                  · intro val ac u hR hp ha K hK      -- 1: t44 := Op.call { value (Operand.func 31), args := #[t43], argTypes := #[33] }
                    obtain ⟨w43, h43, r43⟩ := hp 0 (by decide)
                    have e43 : (ac.tmps[43]?).getD undef = .agg (entCells e).toArray := (ha 43 (by decide)).trans h43
                    clear h43
                    clear ha hp
                    refine Reg.Op1.plain rfl ?_
                    go_wp2_with fail
                    refine (refRightE_any e u).mono ?_
                    rintro x w' ⟨rfl, hbw⟩
                    rw [hr1]
                    go_wp2_with fail
                    exact ⟨rfl, hK _ _ rfl (fun j k _ _ => hbw)⟩
                  · intro val ac u hR hp ha K hK      -- 2: t45 := Op.move t44
                    obtain ⟨w44, h44, r44⟩ := hp 1 (by decide)
                    have e44 : (ac.tmps[44]?).getD undef = .bool true := (ha 44 (by decide)).trans h44
                    clear h44
                    clear ha hp
                    refine Reg.Op1.plain rfl ?_
                    go_wp2
                    exact ⟨rfl, hK _ _ rfl (fun j k _ _ => Reg.Adds.refl _ _ _)⟩
                  · intro val ac u hR hp ha K hK      -- 3: t46 := Op.fieldAddr 33 t7 0
                    have e7 : (ac.tmps[7]?).getD undef = .pointer (some ⟨ge, 0, none⟩) := ha 7 (by decide)
                    obtain ⟨w45, h45, r45⟩ := hp 2 (by decide)
                    have e45 : (ac.tmps[45]?).getD undef = .bool true := (ha 45 (by decide)).trans h45
                    clear h45
                    clear ha hp
                    refine Reg.Op1.guarded rfl rfl e45 (fun _ => Reg.Op1.plain rfl ?_) (fun h => absurd rfl h)
                    go_wp2
                    exact ⟨rfl, hK _ _ rfl (fun j k _ _ => Reg.Adds.refl _ _ _)⟩
                  · intro val ac u hR hp ha K hK      -- 4: t47 := Op.fieldAddr 29 t46 1
                    obtain ⟨w46, h46, r46⟩ := hp 3 (by decide)
                    have e46 : (ac.tmps[46]?).getD undef = .pointer (some ⟨ge, 0, none⟩) := (ha 46 (by decide)).trans h46
                    clear h46
                    obtain ⟨w45, h45, r45⟩ := hp 2 (by decide)
                    have e45 : (ac.tmps[45]?).getD undef = .bool true := (ha 45 (by decide)).trans h45
                    clear h45
                    clear ha hp
                    refine Reg.Op1.guarded rfl rfl e45 (fun _ => Reg.Op1.plain rfl ?_) (fun h => absurd rfl h)
                    go_wp2
                    exact ⟨rfl, hK _ _ rfl (fun j k _ _ => Reg.Adds.refl _ _ _)⟩
                  · intro val ac u hR hp ha K hK      -- 5: t48 := Op.load 3 t47
                    obtain ⟨w47, h47, r47⟩ := hp 4 (by decide)
                    have e47 : (ac.tmps[47]?).getD undef = .pointer (some ⟨ge, 1, none⟩) := (ha 47 (by decide)).trans h47
                    clear h47
                    obtain ⟨w45, h45, r45⟩ := hp 2 (by decide)
                    have e45 : (ac.tmps[45]?).getD undef = .bool true := (ha 45 (by decide)).trans h45
                    clear h45
                    clear ha hp
                    refine Reg.Op1.guarded rfl rfl e45 (fun _ => Reg.Op1.plain rfl ?_) (fun h => absurd rfl h)
                    have x0 := (hR.cell (p := ⟨ge, 1, none⟩) HE5.out.lt).trans (HE5.out.cell (j := 1) rfl)
                    go_wp2
                    exact ⟨rfl, hK _ _ rfl (fun j k _ _ => Reg.Adds.refl _ _ _)⟩
                  · intro val ac u hR hp ha K hK      -- 6: t49 := Op.move t0
                    have e0 : (ac.tmps[0]?).getD undef = .pointer (some ⟨g, 0, none⟩) := ha 0 (by decide)
                    obtain ⟨w45, h45, r45⟩ := hp 2 (by decide)
                    have e45 : (ac.tmps[45]?).getD undef = .bool true := (ha 45 (by decide)).trans h45
                    clear h45
                    clear ha hp
                    refine Reg.Op1.guarded rfl rfl e45 (fun _ => Reg.Op1.plain rfl ?_) (fun h => absurd rfl h)
                    go_wp2
                    exact ⟨rfl, hK _ _ rfl (fun j k _ _ => Reg.Adds.refl _ _ _)⟩
                  · intro val ac u hR hp ha K hK      -- 7: t50 := Op.nilCheck t49
                    obtain ⟨w49, h49, r49⟩ := hp 6 (by decide)
                    have e49 : (ac.tmps[49]?).getD undef = .pointer (some ⟨g, 0, none⟩) := (ha 49 (by decide)).trans h49
                    clear h49
                    obtain ⟨w45, h45, r45⟩ := hp 2 (by decide)
                    have e45 : (ac.tmps[45]?).getD undef = .bool true := (ha 45 (by decide)).trans h45
                    clear h45
                    clear ha hp
                    refine Reg.Op1.guarded rfl rfl e45 (fun _ => Reg.Op1.plain rfl ?_) (fun h => absurd rfl h)
                    go_wp2
                    exact ⟨rfl, hK _ _ rfl (fun j k _ _ => Reg.Adds.refl _ _ _)⟩
                  · intro val ac u hR hp ha K hK      -- 8: t51 := Op.fieldAddr 53 t50 0
                    obtain ⟨w50, h50, r50⟩ := hp 7 (by decide)
                    have e50 : (ac.tmps[50]?).getD undef = .pointer (some ⟨g, 0, none⟩) := (ha 50 (by decide)).trans h50
                    clear h50
                    obtain ⟨w45, h45, r45⟩ := hp 2 (by decide)
                    have e45 : (ac.tmps[45]?).getD undef = .bool true := (ha 45 (by decide)).trans h45
                    clear h45
                    clear ha hp
                    refine Reg.Op1.guarded rfl rfl e45 (fun _ => Reg.Op1.plain rfl ?_) (fun h => absurd rfl h)
                    go_wp2
                    exact ⟨rfl, hK _ _ rfl (fun j k _ _ => Reg.Adds.refl _ _ _)⟩
                  · intro val ac u hR hp ha K hK      -- 9: t52 := Op.load 3 t51
                    obtain ⟨w51, h51, r51⟩ := hp 8 (by decide)
                    have e51 : (ac.tmps[51]?).getD undef = .pointer (some ⟨g, 0, none⟩) := (ha 51 (by decide)).trans h51
                    clear h51
                    obtain ⟨w45, h45, r45⟩ := hp 2 (by decide)
                    have e45 : (ac.tmps[45]?).getD undef = .bool true := (ha 45 (by decide)).trans h45
                    clear h45
                    clear ha hp
                    refine Reg.Op1.guarded rfl rfl e45 (fun _ => Reg.Op1.plain rfl ?_) (fun h => absurd rfl h)
                    have x0 := (hR.cell (p := ⟨g, 0, none⟩) HA5.out.B.lt).trans (HA5.out.B.cell (j := 0) rfl)
                    go_wp2
                    exact ⟨rfl, hK _ _ rfl (fun j k _ _ => Reg.Adds.refl _ _ _)⟩
                  · intro val ac u hR hp ha K hK      -- 10: t53 := Op.binOp BinOp.eql 3 t48 t52 3
                    obtain ⟨w48, h48, r48⟩ := hp 5 (by decide)
                    have e48 : (ac.tmps[48]?).getD undef = .int .i64 e.rng := (ha 48 (by decide)).trans h48
                    clear h48
                    obtain ⟨w52, h52, r52⟩ := hp 9 (by decide)
                    have e52 : (ac.tmps[52]?).getD undef = .int .i64 rng := (ha 52 (by decide)).trans h52
                    clear h52
                    obtain ⟨w45, h45, r45⟩ := hp 2 (by decide)
                    have e45 : (ac.tmps[45]?).getD undef = .bool true := (ha 45 (by decide)).trans h45
                    clear h45
                    clear ha hp
                    refine Reg.Op1.guarded rfl rfl e45 (fun _ => Reg.Op1.plain rfl ?_) (fun h => absurd rfl h)
                    go_wp2
                    exact ⟨rfl, hK _ _ rfl (fun j k _ _ => Reg.Adds.refl _ _ _)⟩
                  · intro val ac u hR hp ha K hK      -- 11: t54 := Op.pick t45 t53 (const (Value.bool false))
                    obtain ⟨w45, h45, r45⟩ := hp 2 (by decide)
                    have e45 : (ac.tmps[45]?).getD undef = .bool true := (ha 45 (by decide)).trans h45
                    clear h45
                    obtain ⟨w53, h53, r53⟩ := hp 10 (by decide)
                    have e53 : (ac.tmps[53]?).getD undef = .bool false := (ha 53 (by decide)).trans h53
                    clear h53
                    clear ha hp
                    refine Reg.Op1.plain rfl ?_
                    go_wp2
                    exact ⟨rfl, hK _ _ rfl (fun j k _ _ => Reg.Adds.refl _ _ _)⟩
                  · intro val ac u hR hp ha K hK      -- 12: t55 := Op.move t54
                    obtain ⟨w54, h54, r54⟩ := hp 11 (by decide)
                    have e54 : (ac.tmps[54]?).getD undef = .bool false := (ha 54 (by decide)).trans h54
                    clear h54
                    clear ha hp
                    refine Reg.Op1.plain rfl ?_
                    go_wp2
                    exact ⟨rfl, hK _ _ rfl (fun j k _ _ => Reg.Adds.refl _ _ _)⟩
                  · intro val ac u hR hp ha K hK      -- 13: t56 := Op.move t8
                    obtain ⟨w55, h55, r55⟩ := hp 12 (by decide)
                    have e55 : (ac.tmps[55]?).getD undef = .bool false := (ha 55 (by decide)).trans h55
                    clear h55
                    clear ha hp
                    exact Reg.Op1.guarded rfl rfl e55 (fun h => by cases h) (fun _ => hK _ _ rfl (fun j k _ _ => Reg.Adds.refl _ _ _))
                  · intro val ac u hR hp ha K hK      -- 14: t57 := Op.unOp UnOp.not 4 t56
                    obtain ⟨w55, h55, r55⟩ := hp 12 (by decide)
                    have e55 : (ac.tmps[55]?).getD undef = .bool false := (ha 55 (by decide)).trans h55
                    clear h55
                    clear ha hp
                    exact Reg.Op1.guarded rfl rfl e55 (fun h => by cases h) (fun _ => hK _ _ rfl (fun j k _ _ => Reg.Adds.refl _ _ _))
                  · intro val ac u hR hp ha K hK      -- 15: t58 := Op.pick t55 t57 (const (Value.bool false))
                    obtain ⟨w55, h55, r55⟩ := hp 12 (by decide)
                    have e55 : (ac.tmps[55]?).getD undef = .bool false := (ha 55 (by decide)).trans h55
                    clear h55
                    obtain ⟨w57, h57, r57⟩ := hp 14 (by decide)
                    have e57 : (ac.tmps[57]?).getD undef = undef := (ha 57 (by decide)).trans h57
                    clear h57
                    clear ha hp
                    refine Reg.Op1.plain rfl ?_
                    go_wp2
                    exact ⟨rfl, hK _ _ rfl (fun j k _ _ => Reg.Adds.refl _ _ _)⟩
                  · intro val ac u hR hp ha K hK      -- 16: t59 := Op.move t58
                    obtain ⟨w58, h58, r58⟩ := hp 15 (by decide)
                    have e58 : (ac.tmps[58]?).getD undef = .bool false := (ha 58 (by decide)).trans h58
                    clear h58
                    clear ha hp
                    refine Reg.Op1.plain rfl ?_
                    go_wp2
                    exact ⟨rfl, hK _ _ rfl (fun j k _ _ => Reg.Adds.refl _ _ _)⟩
                  · intro val ac u hR hp ha K hK      -- 17: t60 := Op.move t0
                    obtain ⟨w59, h59, r59⟩ := hp 16 (by decide)
                    have e59 : (ac.tmps[59]?).getD undef = .bool false := (ha 59 (by decide)).trans h59
                    clear h59
                    clear ha hp
                    exact Reg.Op1.guarded rfl rfl e59 (fun h => by cases h) (fun _ => hK _ _ rfl (fun j k _ _ => Reg.Adds.refl _ _ _))
                  · intro val ac u hR hp ha K hK      -- 18: t61 := Op.nilCheck t60
                    obtain ⟨w59, h59, r59⟩ := hp 16 (by decide)
                    have e59 : (ac.tmps[59]?).getD undef = .bool false := (ha 59 (by decide)).trans h59
                    clear h59
                    clear ha hp
                    exact Reg.Op1.guarded rfl rfl e59 (fun h => by cases h) (fun _ => hK _ _ rfl (fun j k _ _ => Reg.Adds.refl _ _ _))
                  · intro val ac u hR hp ha K hK      -- 19: t62 := Op.fieldAddr 53 t61 1
                    obtain ⟨w59, h59, r59⟩ := hp 16 (by decide)
                    have e59 : (ac.tmps[59]?).getD undef = .bool false := (ha 59 (by decide)).trans h59
                    clear h59
                    clear ha hp
                    exact Reg.Op1.guarded rfl rfl e59 (fun h => by cases h) (fun _ => hK _ _ rfl (fun j k _ _ => Reg.Adds.refl _ _ _))
                  · intro val ac u hR hp ha K hK      -- 20: t63 := Op.load 24 t62
                    obtain ⟨w59, h59, r59⟩ := hp 16 (by decide)
                    have e59 : (ac.tmps[59]?).getD undef = .bool false := (ha 59 (by decide)).trans h59
                    clear h59
                    clear ha hp
                    exact Reg.Op1.guarded rfl rfl e59 (fun h => by cases h) (fun _ => hK _ _ rfl (fun j k _ _ => Reg.Adds.refl _ _ _))
                  · intro val ac u hR hp ha K hK      -- 21: t64 := Op.call { builtin len, args := #[t63], argTypes := #[24] }
                    obtain ⟨w59, h59, r59⟩ := hp 16 (by decide)
                    have e59 : (ac.tmps[59]?).getD undef = .bool false := (ha 59 (by decide)).trans h59
                    clear h59
                    clear ha hp
                    exact Reg.Op1.guarded rfl rfl e59 (fun h => by cases h) (fun _ => hK _ _ rfl (fun j k _ _ => Reg.Adds.refl _ _ _))
                  · intro val ac u hR hp ha K hK      -- 22: t65 := Op.binOp BinOp.lss 3 t64 (const (16:i64)) 3
                    obtain ⟨w59, h59, r59⟩ := hp 16 (by decide)
                    have e59 : (ac.tmps[59]?).getD undef = .bool false := (ha 59 (by decide)).trans h59
                    clear h59
                    clear ha hp
                    exact Reg.Op1.guarded rfl rfl e59 (fun h => by cases h) (fun _ => hK _ _ rfl (fun j k _ _ => Reg.Adds.refl _ _ _))
                  · intro val ac u hR hp ha K hK      -- 23: t66 := Op.pick t59 t65 (const (Value.bool false))
                    obtain ⟨w59, h59, r59⟩ := hp 16 (by decide)
                    have e59 : (ac.tmps[59]?).getD undef = .bool false := (ha 59 (by decide)).trans h59
                    clear h59
                    obtain ⟨w65, h65, r65⟩ := hp 22 (by decide)
                    have e65 : (ac.tmps[65]?).getD undef = undef := (ha 65 (by decide)).trans h65
                    clear h65
                    clear ha hp
                    refine Reg.Op1.plain rfl ?_
                    go_wp2
                    exact ⟨rfl, hK _ _ rfl (fun j k _ _ => Reg.Adds.refl _ _ _)⟩
                · intro val u hR H
                  obtain ⟨_, hv, _⟩ := H 23 (by decide)
                  have hv : val 23 = .bool false := hv
                  have HK6 : Hid (Below w5.heap.size w5 u) := (Below.refl _ w5).drew.trans hR
                  simp only [List.map_cons, List.map_nil, Reg.lay, Act.put, List.setIfInBounds_toArray, List.set_cons_succ, List.set_cons_zero, Nat.reduceAdd, hv]
                  clear hR H hv
                  go_wp2
                  go_meet
                  case rel => exact ⟨by rw [hok], HK6.out⟩
          case rest =>
            obtain ⟨rfl, hbc⟩ := hcut
            have HA6 := Lib.hid (HA5.out.below hbc)
            have HE6 : Hid (EBx wc ge e) := HE5.out.below hbc HE5.out.lt
            have HB6 : Hid (Below wk.heap.size wk wc) := HB5.out.trans (hbc.mono HB5.out.size)
            clear hbc HA5 HE5 HB5 hth2
            rename World => w6
            cases hok : okPut rng es e
            · have HTS2 : Hid (putL rng es0 (news.take (k + 1)) = (es, n)) := by show _ = _; rw [HTS.out]; unfold putStep; rw [if_neg (by simp [hok])]
              go_wp2
              go_roundw
              case rel => exact ⟨⟨k + 1, A, c, es, n, by omega, by omega, HTS2, rfl, by go_num, HA6, HK.out.trans (Mem.Keeps.of_below HB6.out) (fun _ h _ => h.elim), HQ⟩⟩
              case measure => simp [intOf]; omega
            · have hlt16 : es.length < 16 := by unfold okPut at hok; simp at hok; exact hok.2.2.2
              have HTS2 : Hid (putL rng es0 (news.take (k + 1)) = (es ++ [e], n + 1)) := by show _ = _; rw [HTS.out]; unfold putStep; rw [if_pos hok]
              have hne6 := HA6.out.ne
              have hll : (es ++ [e]).length = es.length + 1 := by simp
              clear hok HTS
              go_upto_region 12 with fail
              obtain ⟨gb, hgb⟩ : ∃ gb, ge = gb := ⟨_, rfl⟩
              subst hgb
              refine Reg.wp_region_w (by kernel_rfl) 80 11 rfl rfl (by kernel_rfl) (7) (fun y => Mem.blk A = some y) (10) (fun y => y = g) (0) (fun _ => False)
                (fun i v u => match i with
                  | 0 => v = .pointer (some ⟨g, 0, none⟩)
                  | 1 => v = .pointer (some ⟨g, 0, none⟩)
                  | 2 => v = .pointer (some ⟨g, 0, none⟩)
                  | 3 => v = .pointer (some ⟨g, 1, none⟩)
                  | 4 => v = .slice A es.length c
                  | 5 => v = .agg (entCells e).toArray
                  | 6 => ∃ s, v = .slice (some ⟨s, 0, none⟩) 1 1 ∧ Mem.Rd u (s + 1) (some ⟨s, 0, none⟩) (entCells e) ∧ s + 1 ≤ u.heap.size
                  | 7 => ∃ A2 c2, v = .slice A2 (es.length + 1) c2 ∧ Mem.Own u 33 20 A2 (es.length + 1) c2 (es.flatMap entCells ++ entCells e) ∧ (A2 = A ∨ Mem.From w6.heap.size A2)
                  | 8 => v = .pointer (some ⟨g, 0, none⟩)
                  | 9 => v = .pointer (some ⟨g, 1, none⟩)
                  | 10 => ∃ A2 c2, HAt 53 u g A2 c2 rng (es ++ [e]) ∧ (A2 = A ∨ Mem.From w6.heap.size A2)
                  | _ => True) ?_ ?_
              · refine Reg.Steps.cons ?_ (Reg.Steps.cons ?_ (Reg.Steps.cons ?_ (Reg.Steps.cons ?_ (Reg.Steps.cons ?_ (Reg.Steps.cons ?_ (Reg.Steps.cons ?_ (Reg.Steps.cons ?_ (Reg.Steps.cons ?_ (Reg.Steps.cons ?_ (Reg.Steps.cons ?_ (Reg.Steps.nil _)))))))))))
                · intro val ac u hR hp ha K hK      -- 0: t67 := Op.move t0
                  have e0 : (ac.tmps[0]?).getD undef = .pointer (some ⟨g, 0, none⟩) := ha 0 (by decide)
                  clear ha hp
                  refine Reg.Op1.plain rfl ?_
                  go_wp2
                  exact ⟨rfl, hK _ _ rfl (Reg.Wr.same _)⟩
                · intro val ac u hR hp ha K hK      -- 1: t68 := Op.move t0
                  have e0 : (ac.tmps[0]?).getD undef = .pointer (some ⟨g, 0, none⟩) := ha 0 (by decide)
                  clear ha hp
                  refine Reg.Op1.plain rfl ?_
                  go_wp2
                  exact ⟨rfl, hK _ _ rfl (Reg.Wr.same _)⟩
                · intro val ac u hR hp ha K hK      -- 2: t69 := Op.nilCheck t68
                  obtain ⟨w68, h68, r68⟩ := hp 1 (by decide)
                  have e68 : (ac.tmps[68]?).getD undef = .pointer (some ⟨g, 0, none⟩) := (ha 68 (by decide)).trans h68
                  clear h68
                  clear ha hp
                  refine Reg.Op1.plain rfl ?_
                  go_wp2
                  exact ⟨rfl, hK _ _ rfl (Reg.Wr.same _)⟩
                · intro val ac u hR hp ha K hK      -- 3: t70 := Op.fieldAddr 53 t69 1
                  obtain ⟨w69, h69, r69⟩ := hp 2 (by decide)
                  have e69 : (ac.tmps[69]?).getD undef = .pointer (some ⟨g, 0, none⟩) := (ha 69 (by decide)).trans h69
                  clear h69
                  clear ha hp
                  refine Reg.Op1.plain rfl ?_
                  go_wp2
                  exact ⟨rfl, hK _ _ rfl (Reg.Wr.same _)⟩
                · intro val ac u hR hp ha K hK      -- 4: t71 := Op.load 24 t70
                  obtain ⟨w70, h70, r70⟩ := hp 3 (by decide)
                  have e70 : (ac.tmps[70]?).getD undef = .pointer (some ⟨g, 1, none⟩) := (ha 70 (by decide)).trans h70
                  clear h70
                  clear ha hp
                  refine Reg.Op1.plain rfl ?_
                  have hq : Mem.Keeps (fun _ => False) w6 u := (Mem.Keeps.refl (fun _ => False) w6).drew.trans (Reg.Wr.only3 hR (by decide +kernel) (by decide +kernel)) (fun _ h _ => h)
                  have x1 := (HA6.out.B.keeps hq id).cell (j := 1) rfl
                  go_wp2
                  exact ⟨rfl, hK _ _ rfl (Reg.Wr.same _)⟩
                · intro val ac u hR hp ha K hK      -- 5: t72 := Op.load 33 t7
                  have e7 : (ac.tmps[7]?).getD undef = .pointer (some ⟨ge, 0, none⟩) := ha 7 (by decide)
                  clear ha hp
                  refine Reg.Op1.plain rfl ?_
                  have hq : Mem.Keeps (fun _ => False) w6 u := (Mem.Keeps.refl (fun _ => False) w6).drew.trans (Reg.Wr.only3 hR (by decide +kernel) (by decide +kernel)) (fun _ h _ => h)
                  have hEu : EBx u ge e := HE6.out.keeps hq id
                  refine Mem.load_agg _ _ entry_agg ge 0 (entCells e) (Reg.eval_of e7) (entCells_length _) (fun j u' hu => by rw [Nat.zero_add]; exact hEu.cell hu) ?_
                  exact ⟨rfl, hK _ _ rfl (Reg.Wr.same _)⟩
                · intro val ac u hR hp ha K hK      -- 6: t73 := Op.buildSlice 24 1 #[(0, t72)]
                  obtain ⟨w72, h72, r72⟩ := hp 5 (by decide)
                  have e72 : (ac.tmps[72]?).getD undef = .agg (entCells e).toArray := (ha 72 (by decide)).trans h72
                  clear h72
                  clear ha hp
                  refine Reg.Op1.plain rfl ?_
                  refine Mem.build1_agg _ _ 20 _ Try.underlying24 entry_zero (by decide) (by decide) (entCells e) (Reg.eval_of e72) (entCells_length e) ?_
                  exact ⟨rfl, hK _ _ ⟨u.heap.size, rfl, Mem.Rd.alloc_new u _ _ _ rfl, by simp⟩ (Reg.Wr.quiet ((Mem.Keeps.refl _ u).alloc _))⟩
                · intro val ac u hR hp ha K hK      -- 7: t74 := Op.call { builtin append, args := #[t71, t73], argTypes := #[24, 24] }
                  obtain ⟨w71, h71, r71⟩ := hp 4 (by decide)
                  have e71 : (ac.tmps[71]?).getD undef = .slice A es.length c := (ha 71 (by decide)).trans h71
                  clear h71
                  obtain ⟨w73, h73, r73⟩ := hp 6 (by decide)
                  have e73 : (ac.tmps[73]?).getD undef = val 6 := ha 73 (by decide)
                  clear ha hp
                  refine Reg.Op1.plain rfl ?_
                  obtain ⟨s, hv, hrd, hsz⟩ := h73
                  rw [hv] at e73
                  have hq : Mem.Keeps (fun _ => False) w6 u := (Mem.Keeps.refl (fun _ => False) w6).drew.trans (Reg.Wr.only3 hR (by decide +kernel) (by decide +kernel)) (fun _ h _ => h)
                  have ho := HA6.out.O.keeps hq (fun _ _ h => h)
                  have hrd' := hrd.keeps (Reg.Wr.only3 r73 (by decide +kernel) (by decide +kernel)) (fun _ h => h.elim) hsz
                  refine Mem.wpList_app u rfl (.tmp 71) (.tmp 73) _ rfl entries_elem A es.length c _ (Reg.eval_of e71) (s + 1) (some ⟨s, 0, none⟩) 1 1 (entCells e) (Reg.eval_of e73) ?_ ho hrd' rfl (ent_one e) (by unfold maxLen; omega) (by omega)
                  intro A2 c2 w' hown hgr hat
                  exact ⟨rfl, hK _ _ ⟨A2, c2, rfl, hown, hat.elim .inl (fun h => .inr (by rw [h]; exact Mem.From.some_ hq.size))⟩ (Reg.Wr.does1 ((Mem.Keeps.refl _ u).grown hgr (fun k h _ => h)))⟩
                · intro val ac u hR hp ha K hK      -- 8: t75 := Op.nilCheck t67
                  obtain ⟨w67, h67, r67⟩ := hp 0 (by decide)
                  have e67 : (ac.tmps[67]?).getD undef = .pointer (some ⟨g, 0, none⟩) := (ha 67 (by decide)).trans h67
                  clear h67
                  clear ha hp
                  refine Reg.Op1.plain rfl ?_
                  go_wp2
                  exact ⟨rfl, hK _ _ rfl (Reg.Wr.same _)⟩
                · intro val ac u hR hp ha K hK      -- 9: t76 := Op.fieldAddr 53 t75 1
                  obtain ⟨w75, h75, r75⟩ := hp 8 (by decide)
                  have e75 : (ac.tmps[75]?).getD undef = .pointer (some ⟨g, 0, none⟩) := (ha 75 (by decide)).trans h75
                  clear h75
                  clear ha hp
                  refine Reg.Op1.plain rfl ?_
                  go_wp2
                  exact ⟨rfl, hK _ _ rfl (Reg.Wr.same _)⟩
                · intro val ac u hR hp ha K hK      -- 10: Op.store 24 t76 t74
                  obtain ⟨w76, h76, r76⟩ := hp 9 (by decide)
                  have e76 : (ac.tmps[76]?).getD undef = .pointer (some ⟨g, 1, none⟩) := (ha 76 (by decide)).trans h76
                  clear h76
                  obtain ⟨w74, h74, r74⟩ := hp 7 (by decide)
                  have e74 : (ac.tmps[74]?).getD undef = val 7 := ha 74 (by decide)
                  clear ha hp
                  refine Reg.Op1.plain rfl ?_
                  obtain ⟨A2, c2, hv, hown, hat⟩ := h74
                  rw [hv] at e74
                  have hq : Mem.Keeps (fun y => Mem.blk A = some y ∨ False) w6 u := (Mem.Keeps.refl (fun y => Mem.blk A = some y ∨ False) w6).drew.trans (Reg.Wr.not2 hR (by decide +kernel)) (fun _ h _ => h)
                  have hB := HA6.out.B.keeps hq (fun h => h.elim (fun h => hne6 g h rfl) id)
                  have ho := hown.keeps (Reg.Wr.only3 r74 (by decide +kernel) (by decide +kernel)) (fun _ _ h => h)
                  have x1 := hB.cell (j := 1) rfl
                  have xf := hB.fr
                  have hn2 : ∀ k, Mem.blk A2 = some k → k ≠ g := by
                    intro k hk
                    rcases hat with rfl | hf
                    · exact hne6 k hk
                    · have h1 := hf.blk k hk
                      have h2 := HA6.out.B.lt
                      omega
                  have hset := HAt.set (es' := es ++ [e]) hB (by show Mem.Own _ _ _ _ _ _ _; rw [hll, List.flatMap_append]; simpa using ho) hn2
                  rw [hll] at hset
                  go_wp2
                  exact ⟨rfl, hK undef _ ⟨A2, c2, hset, hat⟩ (Reg.Wr.does2 ((Mem.Keeps.refl (fun y => y = g) u).setCell (p := ⟨g, 1, none⟩) (fun _ => rfl) _))⟩
              · intro val u hR H
                obtain ⟨w7, ⟨A2, c2, hA7, hat⟩, r7⟩ := H 10 (by decide)
                have hq : Mem.Keeps (fun y => Mem.blk A = some y ∨ y = g ∨ False) w6 u := (Mem.Keeps.refl (fun y => Mem.blk A = some y ∨ y = g ∨ False) w6).drew.trans (Reg.Wr.all hR) (fun _ h _ => h)
                have HA8 := Lib.hid (hA7.keeps (Reg.Wr.only3 r7 (by decide +kernel) (by decide +kernel)) (fun _ _ h => h))
                have HK8 : Hid (Mem.Keeps (HB g A0) w u) := (HK.out.trans (Mem.Keeps.of_below HB6.out) (fun _ h _ => h.elim)).trans hq (fun y h hlt => by
                  rcases h with h | h | h
                  · rcases HQ.out y h with h2 | h2
                    · exact .inr h2
                    · omega
                  · exact .inl h
                  · exact h.elim)
                have HQ8 : Hid (∀ q, Mem.blk A2 = some q → Mem.blk A0 = some q ∨ w.heap.size ≤ q) := fun q hq2 => by
                  rcases hat with rfl | hf
                  · exact HQ.out q hq2
                  · have h1 := hf.blk q hq2
                    have h2 := HB6.out.size
                    exact .inr (by omega)
                simp only [List.map_cons, List.map_nil, Reg.lay, Act.put, List.setIfInBounds_toArray, List.set_cons_succ, List.set_cons_zero, Nat.reduceAdd]
                clear hR H hq hA7 hat r7
                go_wp2
                go_roundw
                case rel => exact ⟨⟨k + 1, A2, c2, es ++ [e], n + 1, by omega, by omega, HTS2, by go_num, by go_num, HA8, HK8, HQ8⟩⟩
                case measure => simp [intOf]; omega
    · obtain rfl : k = news.length := by omega
      rw [List.take_length] at HP
      go_wp2
      go_ret
      refine ⟨A, c, ?_, ?_, HK.out, HQ.out⟩
      · rw [HP.out]; rfl
      · rw [HP.out]; exact HA.out
end Go.Proofs.Ytgdcfdjfoeoknaa
