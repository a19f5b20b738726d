/- The walk of ServeRefuses. No conditions. -/
import Derived.Test.YtiibgkgbghganaaServe5
namespace Go.Proofs.Ytiibgkgbghganaa
open Go.ChangeShapes Go.WideShapes Go.ChangeAt Go.RowKit
set_option linter.unusedVariables false

namespace Vec
structure RefMid (w : World) (q : Qy) (R : Ans) (v7 : Value) (wx : World) : Prop where
  out : ∃ s, v7 = .pointer (some ⟨s, 0, none⟩) ∧ w.heap.size < s ∧ ABx wx s R ∧ QBx wx w.heap.size q ∧ Below w.heap.size w wx
structure RfAt (w : World) (q : Qy) (s t : Nat) (col at' : Col) (sa : Nat) (R : Ans) (wx : World) : Prop where
  q : QBx wx w.heap.size q
  a : ABx wx sa R
  c : CBx wx s col
  t : CBx wx t at'
  b : Below w.heap.size w wx
theorem RfAt.below {w : World} {q : Qy} {s t sa : Nat} {col at' : Col} {R : Ans} {w1 w2 : World} (h : RfAt w q s t col at' sa R w1) (hb : Below w1.heap.size w1 w2) : RfAt w q s t col at' sa R w2 :=
  ⟨h.q.below hb h.q.lt, h.a.below hb h.a.lt, h.c.below hb h.c.lt, h.t.below hb h.t.lt, h.b.trans (hb.mono h.b.size)⟩
end Vec
namespace serveRefusesOpen
open Vec
set_option maxRecDepth 20000 in
set_option maxHeartbeats 8000000 in
theorem walk (rng : Int) (q : Qy) (A : Option Addr) (c : Nat) (es : List Ent) (w : World) (hr : Mem.Rd w w.heap.size A (es.flatMap entCells)) (hn : es.length ≤ 8796093022208) (hd : ∀ e ∈ es, EntIn e) (hks : q.key.size ≤ 140737488351232) :
    Calls Try.prog 4 #[.int .i64 rng, .agg (qyCells q).toArray, .slice A es.length c] w fun e w' => e = .returned (.bool true) ∧ Below w.heap.size w w' := by
  have HR := Lib.hid hr
  have HD := Lib.hid hd
  clear hr hd
  go_enter Try.func4, Try.ntmps4
  go_upto_region 1 with fail
  obtain ⟨wq, hwq⟩ : ∃ wq, w.alloc (.cells (qyCells q).toArray 39) = wq := ⟨_, rfl⟩
  have HQ0 : Hid (QBx wq w.heap.size q) := by show QBx _ _ _; rw [← hwq]; exact Mem.Bx.new w 39 (qyCells q).toArray rfl rfl
  have HBq : Hid (Below w.heap.size w wq) := by show Below _ _ _; rw [← hwq]; exact Reg.below_new _ _
  rw [hwq]
  clear hwq
  go_wp2_with fail
  refine (serveAble_any wq).mono ?_
  rintro x w1 ⟨rfl, hb1⟩
  have HQ1 : Hid (QBx w1 w.heap.size q) := HQ0.out.below hb1 HQ0.out.lt
  have HB1 : Hid (Below w.heap.size w w1) := HBq.out.trans (hb1.mono HBq.out.size)
  clear hb1 HQ0 HBq
  go_wp2_with fail
  refine (much_any A c es w w1 HR.out (by omega) HD.out HB1.out).mono ?_
  rintro x w2 ⟨b, rfl, hbn, hb2⟩
  have HQ2 : Hid (QBx w2 w.heap.size q) := HQ1.out.below hb2 HQ1.out.lt
  have HB2 := Lib.hid (HB1.out.trans (hb2.mono HB1.out.size))
  have x0 := HQ2.out.cell (j := 0) rfl
  clear hb2 HQ1 HB1
  by_cases hyes : b = true ∨ 1000 < q.key.size
  · rcases hyes with rfl | hk1
    · go_wp2
      go_ret
      exact ⟨rfl, HB2.out⟩
    · have hkd : decide ((1000 : Int) < (q.key.size : Int)) = true := by simp; omega
      cases b
      · go_wp2
        go_ret
        exact ⟨rfl, HB2.out⟩
      · go_wp2
        go_ret
        exact ⟨rfl, HB2.out⟩
  · obtain rfl : b = false := by cases b; rfl; exact absurd (.inl rfl) hyes
    have hkd : decide ((1000 : Int) < (q.key.size : Int)) = false := by simp; omega
    have hn3 : es.length ≤ 300 := hbn rfl
    clear hyes hbn hn hks
    have hol := ents_len es
    have hoo := ents_one es
    have hqg := HQ2.out.lt
    obtain ⟨R, hRd⟩ : ∃ R, Vec.read rng q es = R := ⟨_, rfl⟩
    have HRD := Lib.hid hRd
    clear hRd
    go_upto_region 5 with fail
    go_cut [7] (fun v7 wx => RefMid w q R v7 wx)
    case first =>
      clear x0
      refine Reg.wp_region_z (by kernel_rfl) 96 8 rfl rfl (by kernel_rfl) 90 91 (by decide) (7) (fun y => w2.heap.size ≤ y) (0) (fun _ => False) (0) (fun _ => False)
        (fun i f v u => match i with
          | 0 => v = .int .i64 rng
          | 1 => v = .agg (qyCells q).toArray
          | 2 => ∃ s0, v = .slice (some ⟨s0, 0, none⟩) 0 0 ∧ Mem.Own u 33 20 (some ⟨s0, 0, none⟩) 0 0 []
          | 3 => v = .slice A es.length c
          | 4 => ∃ A1 c1, v = .slice A1 es.length c1 ∧ Mem.Own u 33 20 A1 es.length c1 (es.flatMap entCells)
          | 5 => v = .agg (ansCells R).toArray
          | 6 => ∃ s, v = .pointer (some ⟨s, 0, none⟩) ∧ w2.heap.size ≤ s ∧ ABx u s ans0
          | 7 => ∃ s, f 7 = .pointer (some ⟨s, 0, none⟩) ∧ w2.heap.size ≤ s ∧ ABx u s R
          | _ => True) ?_ ?_
      · refine Reg.StepsZ.cons ?_ (Reg.StepsZ.cons ?_ (Reg.StepsZ.cons ?_ (Reg.StepsZ.cons ?_ (Reg.StepsZ.cons ?_ (Reg.StepsZ.cons ?_ (Reg.StepsZ.cons ?_ (Reg.StepsZ.cons ?_ (Reg.StepsZ.nil _))))))))
        · intro val ac u hR hp hpq ha K hK0      -- 0: t22 := Op.move t0
          have hK := fun v w' h1 h2 => hK0 v w' h1 h2 (fun j f v' h _ => by omega)
          have e0 : (ac.tmps[0]?).getD undef = .int .i64 rng := ha 0 (by decide)
          clear ha hp
          refine Reg.Op1.plain rfl ?_
          go_wp2
          exact ⟨rfl, hK _ _ rfl (Reg.Wr.same _)⟩
        · intro val ac u hR hp hpq ha K hK0      -- 1: t23 := Op.load 39 t4
          have hK := fun v w' h1 h2 => hK0 v w' h1 h2 (fun j f v' h _ => by omega)
          have e4 : (ac.tmps[4]?).getD undef = .pointer (some ⟨w.heap.size, 0, none⟩) := ha 4 (by decide)
          clear ha hp
          refine Reg.Op1.plain rfl ?_
          have hq : Mem.Keeps (fun _ => False ∨ False) w2 u := (Mem.Keeps.refl (fun _ => False ∨ False) w2).drew.trans (Reg.Wr.not1 hR (by decide +kernel)) (fun _ h _ => h)
          have hQu := HQ2.out.keeps hq (fun h => h.elim id id)
          refine Mem.load_agg _ _ query_agg w.heap.size 0 (qyCells q) (Reg.eval_of e4) (qyCells_length _) (fun j u' hu => by rw [Nat.zero_add]; exact hQu.cell hu) ?_
          exact ⟨rfl, hK _ _ rfl (Reg.Wr.same _)⟩
        · intro val ac u hR hp hpq ha K hK0      -- 2: t24 := Op.buildSlice 22 0 #[]
          have hK := fun v w' h1 h2 => hK0 v w' h1 h2 (fun j f v' h _ => by omega)
          clear ha hp
          refine Reg.Op1.plain rfl ?_
          go_wp2
          exact ⟨rfl, hK _ _ ⟨u.heap.size, rfl, Mem.Own.lit u _ 20 #[] 0 rfl rfl (by simp [maxLen])⟩ (Reg.Wr.quiet ((Mem.Keeps.refl _ u).alloc _))⟩
        · intro val ac u hR hp hpq ha K hK0      -- 3: t25 := Op.move t2
          have hK := fun v w' h1 h2 => hK0 v w' h1 h2 (fun j f v' h _ => by omega)
          have e2 : (ac.tmps[2]?).getD undef = .slice A es.length c := ha 2 (by decide)
          clear ha hp
          refine Reg.Op1.plain rfl ?_
          go_wp2
          exact ⟨rfl, hK _ _ rfl (Reg.Wr.same _)⟩
        · intro val ac u hR hp hpq ha K hK0      -- 4: t26 := Op.call { builtin append, args := #[t24, t25], argTypes := #[22, 22] }
          have hK := fun v w' h1 h2 => hK0 v w' h1 h2 (fun j f v' h _ => by omega)
          obtain ⟨w24, h24, r24⟩ := hp 2 (by decide)
          have e24 : (ac.tmps[24]?).getD undef = val 2 := ha 24 (by decide)
          obtain ⟨w25, h25, r25⟩ := hp 3 (by decide)
          have e25 : (ac.tmps[25]?).getD undef = .slice A es.length c := (ha 25 (by decide)).trans h25
          clear h25
          clear ha hp
          refine Reg.Op1.plain rfl ?_
          obtain ⟨s0, hv, ho⟩ := h24
          rw [hv] at e24
          have ho' := ho.keeps (Reg.Wr.not1 r24 (by decide +kernel)) (fun _ _ h => h.elim id id)
          have hq : Mem.Keeps (fun _ => False ∨ False) w2 u := (Mem.Keeps.refl (fun _ => False ∨ False) w2).drew.trans (Reg.Wr.not1 hR (by decide +kernel)) (fun _ h _ => h)
          have hbu := HB2.out.trans (hq.below (B := w.heap.size) (fun k h => h.elim (fun h => h.elim) (fun h => h.elim)) (by omega))
          refine Mem.wpList_app0 u rfl (.tmp 24) (.tmp 25) _ rfl entries_elem (some ⟨s0, 0, none⟩) (Reg.eval_of e24) w.heap.size A es.length c (es.flatMap entCells) (Reg.eval_of e25) ?_ ho' (HR.out.below hbu) hol hoo (by unfold maxLen; omega) (by omega)
          intro A' c' w' hown hbl hat
          exact ⟨rfl, hK _ _ ⟨A', c', rfl, hown⟩ (Reg.Wr.below hbl)⟩
        · intro val ac u hR hp hpq ha K hK0      -- 5: t27 := Op.call { value (Operand.func 11), args := #[t22, t23, t26], argTypes := #[3, 39, 22] }
          have hK := fun v w' h1 h2 => hK0 v w' h1 h2 (fun j f v' h _ => by omega)
          obtain ⟨w22, h22, r22⟩ := hp 0 (by decide)
          have e22 : (ac.tmps[22]?).getD undef = .int .i64 rng := (ha 22 (by decide)).trans h22
          clear h22
          obtain ⟨w23, h23, r23⟩ := hp 1 (by decide)
          have e23 : (ac.tmps[23]?).getD undef = .agg (qyCells q).toArray := (ha 23 (by decide)).trans h23
          clear h23
          obtain ⟨w26, h26, r26⟩ := hp 4 (by decide)
          have e26 : (ac.tmps[26]?).getD undef = val 4 := ha 26 (by decide)
          clear ha hp
          refine Reg.Op1.plain rfl ?_
          obtain ⟨A1, c1, hv, ho⟩ := h26
          rw [hv] at e26
          have ho' := ho.keeps (Reg.Wr.not1 r26 (by decide +kernel)) (fun _ _ h => h.elim id id)
          go_wp2_with fail
          refine (read_any rng q A1 c1 es u.heap.size u ho'.rd (Nat.le_refl _) (by omega)).mono ?_
          rintro x w' ⟨rfl, hbw⟩
          rw [HRD.out]
          go_wp2_with fail
          exact ⟨rfl, hK _ _ rfl (Reg.Wr.below hbw)⟩
        · intro val ac u hR hp hpq ha K hK0      -- 6: t7 := Op.alloc 42
          have hK := fun v w' h1 h2 => hK0 v w' h1 h2 (fun j f v' h _ => by omega)
          clear ha hp
          refine Reg.Op1.plain rfl ?_
          have hbu : w2.heap.size ≤ u.heap.size := (Reg.Wr.all hR).size
          go_wp2
          exact ⟨rfl, hK _ _ ⟨u.heap.size, rfl, hbu, Mem.Bx.new u 42 (ansCells ans0).toArray rfl rfl⟩ (Reg.Wr.quiet ((Mem.Keeps.refl _ u).alloc _))⟩
        · intro val ac u hR hp hpq ha K hK0      -- 7: Op.store 42 t7 t27
          have hK := fun v w' h1 h2 => hK0 v w' h1 h2 (fun j f v' h _ => by omega)
          obtain ⟨w7, h7, r7⟩ := hp 6 (by decide)
          have e7 : (ac.tmps[7]?).getD undef = val 6 := ha 7 (by decide)
          obtain ⟨w27, h27, r27⟩ := hp 5 (by decide)
          have e27 : (ac.tmps[27]?).getD undef = .agg (ansCells R).toArray := (ha 27 (by decide)).trans h27
          clear h27
          clear ha hp
          refine Reg.Op1.plain rfl ?_
          obtain ⟨s, hv, hs, hbx⟩ := h7
          have hv7 := hv
          rw [hv] at e7
          have hbx' : ABx u s ans0 := hbx.keeps (Reg.Wr.not1 r7 (by decide +kernel)) (fun h => h.elim id id)
          refine Mem.store_agg _ _ answer_agg s (ansCells ans0) (ansCells R) (Reg.eval_of e7) (Reg.eval_of e27) hbx' (ansCells_length _) (ans_one _) ?_
          intro w' hb hk hs'
          exact ⟨rfl, hK undef _ ⟨s, hv7, hs, hb⟩ (Reg.Wr.does1 (hk.mono (fun i h _ => by show w2.heap.size ≤ i; omega)))⟩
      · intro val u hR H hZ
        obtain ⟨wA, ⟨s, hv7, hs, hb⟩, rA⟩ := H 7 (by decide)
        have hv7 : val 6 = .pointer (some ⟨s, 0, none⟩) := hv7
        have hq : Mem.Keeps (fun y => w2.heap.size ≤ y ∨ False ∨ False) w2 u := (Mem.Keeps.refl (fun y => w2.heap.size ≤ y ∨ False ∨ False) w2).drew.trans (Reg.Wr.all hR) (fun _ h _ => h)
        have hne : ∀ y, y < w2.heap.size → ¬ (w2.heap.size ≤ y ∨ False ∨ False) := fun y hy h => by rcases h with h | h | h <;> first | omega | exact h
        have HM : Hid (RefMid w q R (val 6) u) := ⟨⟨s, hv7, by omega, hb.keeps (Reg.Wr.not1 rA (by decide +kernel)) (fun h => h.elim id id), HQ2.out.keeps hq (hne _ hqg), HB2.out.trans (hq.below (B := w.heap.size) (fun y h => by rcases h with h | h | h <;> first | omega | exact h.elim) (by omega))⟩⟩
        simp only [List.map_cons, List.map_nil, Reg.lay, Act.put, List.setIfInBounds_toArray, List.set_cons_succ, List.set_cons_zero, Nat.reduceAdd]
        clear hR H hZ hq hb rA hv7 hne
        go_wp2
        go_meet
        case rel => exact HM.out
    case rest =>
      obtain ⟨sa, rfl, hsa, hA3, hQ3, hB3⟩ := hcut.out
      clear hcut HQ2 HB2 hqg x0
      rename World => w3
      have HA3 := Lib.hid hA3
      have HQ3 := Lib.hid hQ3
      have HB3 := Lib.hid hB3
      clear hA3 hQ3 hB3
      obtain ⟨col, hcol⟩ : ∃ col, column rng es = col := ⟨_, rfl⟩
      obtain ⟨tt, htt⟩ : ∃ tt, Vec.part q.at rng = tt := ⟨_, rfl⟩
      have HRV : Hid (R = if behindQ rng q col tt then ⟨91, false, ent0, col0⟩ else if goneQ q tt then ⟨60, false, ent0, col0⟩ else ⟨0, (greatest q.key (seenL rng q tt es)).2, (greatest q.key (seenL rng q tt es)).1, col⟩) := by
        show _ = _
        rw [← HRD.out, ← hcol, ← htt]; rfl
      have HCOL := Lib.hid hcol
      have HTT := Lib.hid htt
      have hz3 := HB3.out.size
      have hrd3 : Mem.Rd (w3.alloc (.cells #[] 33)) w.heap.size A (es.flatMap entCells) := HR.out.below (HB3.out.alloc HB3.out.size _)
      clear hcol htt
      go_upto_region 7 with (first | (at_builtin; refine Mem.wpList_app0 _ rfl (.tmp 29) (.tmp 30) _ rfl entries_elem (some ⟨w3.heap.size, 0, none⟩) rfl w.heap.size A es.length c (es.flatMap entCells) rfl ?_ (Mem.Own.lit w3 _ 20 #[] 0 rfl rfl (by simp [maxLen])) hrd3 hol hoo (by unfold maxLen; omega) (by omega); intro A1 c1 w4 hown hb4 hat4; have HO4 := Lib.hid hown; have HB4 : Hid (Below w3.heap.size w3 w4) := (Reg.below_new _ _).trans (hb4.mono (by simp)); clear hown hb4 hat4) | (go_at_call 12; refine (column_any rng A1 c1 es w4.heap.size w4 HO4.out.rd (Nat.le_refl _) (by unfold maxLen; omega)).mono ?_; rintro x w5 ⟨rfl, hb5⟩; rw [HCOL.out]; have HB5 : Hid (Below w3.heap.size w3 w5) := HB4.out.trans (hb5.mono HB4.out.size); clear hb5))
      obtain ⟨w6, hw6⟩ : ∃ w6, w5.alloc (.cells #[.int .i64 col.a, .int .i64 col.b, .int .i64 col.c] 37) = w6 := ⟨_, rfl⟩
      have HB6 : Hid (Below w3.heap.size w3 w6) := by show Below _ _ _; rw [← hw6]; exact HB5.out.alloc HB5.out.size _
      have HC6 : Hid (CBx w6 w5.heap.size col) := by show CBx _ _ _; rw [← hw6]; exact Mem.Bx.new w5 37 (colCells col).toArray rfl rfl
      have HQ6 : Hid (QBx w6 w.heap.size q) := HQ3.out.below HB6.out HQ3.out.lt
      obtain ⟨s, hs⟩ : ∃ s, w5.heap.size = s := ⟨_, rfl⟩
      rw [hw6, hs]
      rw [hs] at HC6
      clear hw6 hs HB5 HB4 HO4 hrd3 hol hoo
      have x0 := HQ6.out.cell (j := 11) rfl
      have x1 := HQ6.out.cell (j := 12) rfl
      have x2 := HQ6.out.cell (j := 13) rfl
      have x3 := HQ6.out.cell (j := 14) rfl
      have x4 := HQ6.out.cell (j := 15) rfl
      have x5 := HQ6.out.cell (j := 16) rfl
      have x6 := HQ6.out.cell (j := 17) rfl
      have x7 := HQ6.out.cell (j := 18) rfl
      have x8 := HQ6.out.cell (j := 19) rfl
      go_upto_region 8 with (go_at_call 13; refine (part_any q.at rng w6).mono ?_; rintro x w7 ⟨rfl, hb7⟩; rw [HTT.out])
      have HB7 := Lib.hid hb7
      obtain ⟨w8, hw8⟩ : ∃ w8, w7.alloc (.cells #[.int .i64 tt.a, .int .i64 tt.b, .int .i64 tt.c] 37) = w8 := ⟨_, rfl⟩
      have HB8 : Hid (Below w6.heap.size w6 w8) := by show Below _ _ _; rw [← hw8]; exact HB7.out.alloc HB7.out.size _
      have HT8 : Hid (CBx w8 w7.heap.size tt) := by show CBx _ _ _; rw [← hw8]; exact Mem.Bx.new w7 37 (colCells tt).toArray rfl rfl
      obtain ⟨t, ht⟩ : ∃ t, w7.heap.size = t := ⟨_, rfl⟩
      rw [hw8, ht]
      rw [ht] at HT8
      have HR8 : Hid (RfAt w q s t col tt sa R w8) := ⟨HQ6.out.below HB8.out HQ6.out.lt, (HA3.out.below HB6.out HA3.out.lt).below HB8.out (Nat.lt_of_lt_of_le HA3.out.lt HB6.out.size), HC6.out.below HB8.out HC6.out.lt, HT8.out, (HB3.out.trans (HB6.out.mono hz3)).trans (HB8.out.mono (Nat.le_trans hz3 HB6.out.size))⟩
      clear hw8 ht hb7 HB7 HB8 HT8 HQ6 HC6 HB6 x0 x1 x2 x3 x4 x5 x6 x7 x8 HA3 HQ3 HB3
      rename_i w2' w3'
      obtain ⟨HR, HRold⟩ : Hid (RfAt w q s t col tt sa R w8) ∧ Hid (Mem.Rd w w.heap.size A (es.flatMap entCells)) := ⟨HR8, HR⟩
      obtain ⟨w2, hw2⟩ : ∃ w2, w8 = w2 := ⟨_, rfl⟩
      rw [hw2] at HR HR8 ⊢
      clear hw2
      go_cut [10] (fun v wx => v = .bool (behindQ rng q col tt) ∧ RfAt w q s t col tt sa R wx)
      case first =>
        cases hc : coversC col (Vec.part q.cover rng)
        · have hbq : behindQ rng q col tt = true := by unfold behindQ; rw [hc]; rfl
          refine Reg.wp_region_rel (by kernel_rfl) 96 18 rfl rfl (by kernel_rfl) (Reg.Adds) (Reg.Adds.refl) (Reg.Adds.trans)
            (fun i v u => match i with
              | 0 => v = Vec.C col
              | 1 => v = .pointer (some ⟨w.heap.size, 1, none⟩)
              | 2 => v = Vec.V q.cover
              | 3 => v = .int .i64 rng
              | 4 => v = Vec.C (Vec.part q.cover rng)
              | 5 => v = .bool false
              | 6 => v = .bool true
              | 7 => v = .bool true
              | 8 => v = undef
              | 9 => v = undef
              | 10 => v = undef
              | 11 => v = undef
              | 12 => v = undef
              | 13 => v = undef
              | 14 => v = undef
              | 15 => v = undef
              | 16 => v = .bool true
              | 17 => v = .bool true
              | _ => True) ?_ ?_
          · refine Reg.Steps.cons ?_ (Reg.Steps.cons ?_ (Reg.Steps.cons ?_ (Reg.Steps.cons ?_ (Reg.Steps.cons ?_ (Reg.Steps.cons ?_ (Reg.Steps.cons ?_ (Reg.Steps.cons ?_ (Reg.Steps.cons ?_ (Reg.Steps.cons ?_ (Reg.Steps.cons ?_ (Reg.Steps.cons ?_ (Reg.Steps.cons ?_ (Reg.Steps.cons ?_ (Reg.Steps.cons ?_ (Reg.Steps.cons ?_ (Reg.Steps.cons ?_ (Reg.Steps.cons ?_ (Reg.Steps.nil _))))))))))))))))))
            · intro val ac u hR hp ha K hK      -- 0: t37 := Op.load 37 t8
              have e8 : (ac.tmps[8]?).getD undef = .pointer (some ⟨s, 0, none⟩) := ha 8 (by decide)
              clear ha hp
              refine Reg.Op1.plain rfl ?_
              have x0 := (hR.cell (p := ⟨s, 0, none⟩) HR.out.c.lt).trans (HR.out.c.cell (j := 0) rfl)
              have x1 := (hR.cell (p := ⟨s, 1, none⟩) HR.out.c.lt).trans (HR.out.c.cell (j := 1) rfl)
              have x2 := (hR.cell (p := ⟨s, 2, none⟩) HR.out.c.lt).trans (HR.out.c.cell (j := 2) rfl)
              go_wp2
              exact ⟨rfl, hK _ _ rfl (fun j k _ _ => Reg.Adds.refl _ _ _)⟩
            · intro val ac u hR hp ha K hK      -- 1: t38 := Op.fieldAddr 39 t4 1
              have e4 : (ac.tmps[4]?).getD undef = .pointer (some ⟨w.heap.size, 0, none⟩) := ha 4 (by decide)
              clear ha hp
              refine Reg.Op1.plain rfl ?_
              go_wp2
              exact ⟨rfl, hK _ _ rfl (fun j k _ _ => Reg.Adds.refl _ _ _)⟩
            · intro val ac u hR hp ha K hK      -- 2: t39 := Op.load 31 t38
              obtain ⟨w38, h38, r38⟩ := hp 1 (by decide)
              have e38 : (ac.tmps[38]?).getD undef = .pointer (some ⟨w.heap.size, 1, none⟩) := (ha 38 (by decide)).trans h38
              clear h38
              clear ha hp
              refine Reg.Op1.plain rfl ?_
              have hQu : QBx u w.heap.size q := Mem.Bx.below (w := w2.drew) HR.out.q hR HR.out.q.lt
              have x0 := hQu.cell (j := 1) rfl
              have x1 := hQu.cell (j := 2) rfl
              have x2 := hQu.cell (j := 3) rfl
              have x3 := hQu.cell (j := 4) rfl
              have x4 := hQu.cell (j := 5) rfl
              have x5 := hQu.cell (j := 6) rfl
              have x6 := hQu.cell (j := 7) rfl
              have x7 := hQu.cell (j := 8) rfl
              have x8 := hQu.cell (j := 9) rfl
              clear hQu
              go_wp2
              exact ⟨rfl, hK _ _ rfl (fun j k _ _ => Reg.Adds.refl _ _ _)⟩
            · intro val ac u hR hp ha K hK      -- 3: t40 := Op.move t0
              have e0 : (ac.tmps[0]?).getD undef = .int .i64 rng := ha 0 (by decide)
              clear ha hp
              refine Reg.Op1.plain rfl ?_
              go_wp2
              exact ⟨rfl, hK _ _ rfl (fun j k _ _ => Reg.Adds.refl _ _ _)⟩
            · intro val ac u hR hp ha K hK      -- 4: t41 := Op.call { value (Operand.func 13), args := #[t39, t40], argTypes := #[31, 3] }
              obtain ⟨w39, h39, r39⟩ := hp 2 (by decide)
              have e39 : (ac.tmps[39]?).getD undef = Vec.V q.cover := (ha 39 (by decide)).trans h39
              clear h39
              obtain ⟨w40, h40, r40⟩ := hp 3 (by decide)
              have e40 : (ac.tmps[40]?).getD undef = .int .i64 rng := (ha 40 (by decide)).trans h40
              clear h40
              clear ha hp
              refine Reg.Op1.plain rfl ?_
              go_wp2_with fail
              refine (part_any q.cover rng u).mono ?_
              rintro x w' ⟨rfl, hbw⟩
              go_wp2_with fail
              exact ⟨rfl, hK _ _ rfl (fun j k _ _ => hbw)⟩
            · intro val ac u hR hp ha K hK      -- 5: t42 := Op.call { value (Operand.func 14), args := #[t37, t41], argTypes := #[37, 37] }
              obtain ⟨w37, h37, r37⟩ := hp 0 (by decide)
              have e37 : (ac.tmps[37]?).getD undef = Vec.C col := (ha 37 (by decide)).trans h37
              clear h37
              obtain ⟨w41, h41, r41⟩ := hp 4 (by decide)
              have e41 : (ac.tmps[41]?).getD undef = Vec.C (Vec.part q.cover rng) := (ha 41 (by decide)).trans h41
              clear h41
              clear ha hp
              refine Reg.Op1.plain rfl ?_
              go_wp2_with fail
              refine (coversC_any col (Vec.part q.cover rng) u).mono ?_
              rintro x w' ⟨rfl, hbw⟩
              rw [hc]
              go_wp2_with fail
              exact ⟨rfl, hK _ _ rfl (fun j k _ _ => hbw)⟩
            · intro val ac u hR hp ha K hK      -- 6: t43 := Op.unOp UnOp.not 4 t42
              obtain ⟨w42, h42, r42⟩ := hp 5 (by decide)
              have e42 : (ac.tmps[42]?).getD undef = .bool false := (ha 42 (by decide)).trans h42
              clear h42
              clear ha hp
              refine Reg.Op1.plain rfl ?_
              go_wp2
              exact ⟨rfl, hK _ _ rfl (fun j k _ _ => Reg.Adds.refl _ _ _)⟩
            · intro val ac u hR hp ha K hK      -- 7: t44 := Op.move t43
              obtain ⟨w43, h43, r43⟩ := hp 6 (by decide)
              have e43 : (ac.tmps[43]?).getD undef = .bool true := (ha 43 (by decide)).trans h43
              clear h43
              clear ha hp
              refine Reg.Op1.plain rfl ?_
              go_wp2
              exact ⟨rfl, hK _ _ rfl (fun j k _ _ => Reg.Adds.refl _ _ _)⟩
            · intro val ac u hR hp ha K hK      -- 8: t45 := Op.fieldAddr 39 t4 2
              obtain ⟨w44, h44, r44⟩ := hp 7 (by decide)
              have e44 : (ac.tmps[44]?).getD undef = .bool true := (ha 44 (by decide)).trans h44
              clear h44
              clear ha hp
              exact Reg.Op1.guarded rfl rfl e44 (fun h => by cases h) (fun _ => hK _ _ rfl (fun j k _ _ => Reg.Adds.refl _ _ _))
            · intro val ac u hR hp ha K hK      -- 9: t46 := Op.load 4 t45
              obtain ⟨w44, h44, r44⟩ := hp 7 (by decide)
              have e44 : (ac.tmps[44]?).getD undef = .bool true := (ha 44 (by decide)).trans h44
              clear h44
              clear ha hp
              exact Reg.Op1.guarded rfl rfl e44 (fun h => by cases h) (fun _ => hK _ _ rfl (fun j k _ _ => Reg.Adds.refl _ _ _))
            · intro val ac u hR hp ha K hK      -- 10: t47 := Op.move t46
              obtain ⟨w44, h44, r44⟩ := hp 7 (by decide)
              have e44 : (ac.tmps[44]?).getD undef = .bool true := (ha 44 (by decide)).trans h44
              clear h44
              clear ha hp
              exact Reg.Op1.guarded rfl rfl e44 (fun h => by cases h) (fun _ => hK _ _ rfl (fun j k _ _ => Reg.Adds.refl _ _ _))
            · intro val ac u hR hp ha K hK      -- 11: t48 := Op.load 37 t8
              obtain ⟨w47, h47, r47⟩ := hp 10 (by decide)
              have e47 : (ac.tmps[47]?).getD undef = undef := (ha 47 (by decide)).trans h47
              clear h47
              clear ha hp
              exact Reg.Op1.passed rfl rfl e47 (hK _ _ rfl (fun j k _ _ => Reg.Adds.refl _ _ _))
            · intro val ac u hR hp ha K hK      -- 12: t49 := Op.load 37 t9
              obtain ⟨w47, h47, r47⟩ := hp 10 (by decide)
              have e47 : (ac.tmps[47]?).getD undef = undef := (ha 47 (by decide)).trans h47
              clear h47
              clear ha hp
              exact Reg.Op1.passed rfl rfl e47 (hK _ _ rfl (fun j k _ _ => Reg.Adds.refl _ _ _))
            · intro val ac u hR hp ha K hK      -- 13: t50 := Op.call { value (Operand.func 14), args := #[t48, t49], argTypes := #[37, 37] }
              obtain ⟨w47, h47, r47⟩ := hp 10 (by decide)
              have e47 : (ac.tmps[47]?).getD undef = undef := (ha 47 (by decide)).trans h47
              clear h47
              clear ha hp
              exact Reg.Op1.passed rfl rfl e47 (hK _ _ rfl (fun j k _ _ => Reg.Adds.refl _ _ _))
            · intro val ac u hR hp ha K hK      -- 14: t51 := Op.unOp UnOp.not 4 t50
              obtain ⟨w47, h47, r47⟩ := hp 10 (by decide)
              have e47 : (ac.tmps[47]?).getD undef = undef := (ha 47 (by decide)).trans h47
              clear h47
              clear ha hp
              exact Reg.Op1.passed rfl rfl e47 (hK _ _ rfl (fun j k _ _ => Reg.Adds.refl _ _ _))
            · intro val ac u hR hp ha K hK      -- 15: t52 := Op.pick t47 t51 (const (Value.bool false))
              obtain ⟨w44, h44, r44⟩ := hp 7 (by decide)
              have e44 : (ac.tmps[44]?).getD undef = .bool true := (ha 44 (by decide)).trans h44
              clear h44
              clear ha hp
              exact Reg.Op1.guarded rfl rfl e44 (fun h => by cases h) (fun _ => hK _ _ rfl (fun j k _ _ => Reg.Adds.refl _ _ _))
            · intro val ac u hR hp ha K hK      -- 16: t53 := Op.pick t44 (const (Value.bool true)) t52
              obtain ⟨w44, h44, r44⟩ := hp 7 (by decide)
              have e44 : (ac.tmps[44]?).getD undef = .bool true := (ha 44 (by decide)).trans h44
              clear h44
              obtain ⟨w52, h52, r52⟩ := hp 15 (by decide)
              have e52 : (ac.tmps[52]?).getD undef = undef := (ha 52 (by decide)).trans h52
              clear h52
              clear ha hp
              refine Reg.Op1.plain rfl ?_
              go_wp2
              exact ⟨rfl, hK _ _ rfl (fun j k _ _ => Reg.Adds.refl _ _ _)⟩
            · intro val ac u hR hp ha K hK      -- 17: t10 := Op.assign t53
              obtain ⟨w53, h53, r53⟩ := hp 16 (by decide)
              have e53 : (ac.tmps[53]?).getD undef = .bool true := (ha 53 (by decide)).trans h53
              clear h53
              clear ha hp
              refine Reg.Op1.plain rfl ?_
              go_wp2
              exact ⟨rfl, hK _ _ rfl (fun j k _ _ => Reg.Adds.refl _ _ _)⟩
          · intro val u hR H
            obtain ⟨_, hv, _⟩ := H 17 (by decide)
            have hv : val 17 = .bool true := hv
            have HN : Hid (RfAt w q s t col tt sa R u) := HR.out.below ((Below.refl _ w2).drew.trans hR)
            simp only [List.map_cons, List.map_nil, Reg.lay, Act.put, List.setIfInBounds_toArray, List.set_cons_succ, List.set_cons_zero, Nat.reduceAdd, hv]
            clear hR H hv
            go_wp2
            go_meet
            case rel => exact ⟨by rw [hbq], HN.out⟩
        · cases hsn : q.snap
          · have hbq : behindQ rng q col tt = false := by unfold behindQ; rw [hc, hsn]; rfl
            refine Reg.wp_region_rel (by kernel_rfl) 96 18 rfl rfl (by kernel_rfl) (Reg.Adds) (Reg.Adds.refl) (Reg.Adds.trans)
              (fun i v u => match i with
                | 0 => v = Vec.C col
                | 1 => v = .pointer (some ⟨w.heap.size, 1, none⟩)
                | 2 => v = Vec.V q.cover
                | 3 => v = .int .i64 rng
                | 4 => v = Vec.C (Vec.part q.cover rng)
                | 5 => v = .bool true
                | 6 => v = .bool false
                | 7 => v = .bool false
                | 8 => v = .pointer (some ⟨w.heap.size, 10, none⟩)
                | 9 => v = .bool false
                | 10 => v = .bool false
                | 11 => v = undef
                | 12 => v = undef
                | 13 => v = undef
                | 14 => v = undef
                | 15 => v = .bool false
                | 16 => v = .bool false
                | 17 => v = .bool false
                | _ => True) ?_ ?_
            · refine Reg.Steps.cons ?_ (Reg.Steps.cons ?_ (Reg.Steps.cons ?_ (Reg.Steps.cons ?_ (Reg.Steps.cons ?_ (Reg.Steps.cons ?_ (Reg.Steps.cons ?_ (Reg.Steps.cons ?_ (Reg.Steps.cons ?_ (Reg.Steps.cons ?_ (Reg.Steps.cons ?_ (Reg.Steps.cons ?_ (Reg.Steps.cons ?_ (Reg.Steps.cons ?_ (Reg.Steps.cons ?_ (Reg.Steps.cons ?_ (Reg.Steps.cons ?_ (Reg.Steps.cons ?_ (Reg.Steps.nil _))))))))))))))))))
              · intro val ac u hR hp ha K hK      -- 0: t37 := Op.load 37 t8
                have e8 : (ac.tmps[8]?).getD undef = .pointer (some ⟨s, 0, none⟩) := ha 8 (by decide)
                clear ha hp
                refine Reg.Op1.plain rfl ?_
                have x0 := (hR.cell (p := ⟨s, 0, none⟩) HR.out.c.lt).trans (HR.out.c.cell (j := 0) rfl)
                have x1 := (hR.cell (p := ⟨s, 1, none⟩) HR.out.c.lt).trans (HR.out.c.cell (j := 1) rfl)
                have x2 := (hR.cell (p := ⟨s, 2, none⟩) HR.out.c.lt).trans (HR.out.c.cell (j := 2) rfl)
                go_wp2
                exact ⟨rfl, hK _ _ rfl (fun j k _ _ => Reg.Adds.refl _ _ _)⟩
              · intro val ac u hR hp ha K hK      -- 1: t38 := Op.fieldAddr 39 t4 1
                have e4 : (ac.tmps[4]?).getD undef = .pointer (some ⟨w.heap.size, 0, none⟩) := ha 4 (by decide)
                clear ha hp
                refine Reg.Op1.plain rfl ?_
                go_wp2
                exact ⟨rfl, hK _ _ rfl (fun j k _ _ => Reg.Adds.refl _ _ _)⟩
              · intro val ac u hR hp ha K hK      -- 2: t39 := Op.load 31 t38
                obtain ⟨w38, h38, r38⟩ := hp 1 (by decide)
                have e38 : (ac.tmps[38]?).getD undef = .pointer (some ⟨w.heap.size, 1, none⟩) := (ha 38 (by decide)).trans h38
                clear h38
                clear ha hp
                refine Reg.Op1.plain rfl ?_
                have hQu : QBx u w.heap.size q := Mem.Bx.below (w := w2.drew) HR.out.q hR HR.out.q.lt
                have x0 := hQu.cell (j := 1) rfl
                have x1 := hQu.cell (j := 2) rfl
                have x2 := hQu.cell (j := 3) rfl
                have x3 := hQu.cell (j := 4) rfl
                have x4 := hQu.cell (j := 5) rfl
                have x5 := hQu.cell (j := 6) rfl
                have x6 := hQu.cell (j := 7) rfl
                have x7 := hQu.cell (j := 8) rfl
                have x8 := hQu.cell (j := 9) rfl
                clear hQu
                go_wp2
                exact ⟨rfl, hK _ _ rfl (fun j k _ _ => Reg.Adds.refl _ _ _)⟩
              · intro val ac u hR hp ha K hK      -- 3: t40 := Op.move t0
                have e0 : (ac.tmps[0]?).getD undef = .int .i64 rng := ha 0 (by decide)
                clear ha hp
                refine Reg.Op1.plain rfl ?_
                go_wp2
                exact ⟨rfl, hK _ _ rfl (fun j k _ _ => Reg.Adds.refl _ _ _)⟩
              · intro val ac u hR hp ha K hK      -- 4: t41 := Op.call { value (Operand.func 13), args := #[t39, t40], argTypes := #[31, 3] }
                obtain ⟨w39, h39, r39⟩ := hp 2 (by decide)
                have e39 : (ac.tmps[39]?).getD undef = Vec.V q.cover := (ha 39 (by decide)).trans h39
                clear h39
                obtain ⟨w40, h40, r40⟩ := hp 3 (by decide)
                have e40 : (ac.tmps[40]?).getD undef = .int .i64 rng := (ha 40 (by decide)).trans h40
                clear h40
                clear ha hp
                refine Reg.Op1.plain rfl ?_
                go_wp2_with fail
                refine (part_any q.cover rng u).mono ?_
                rintro x w' ⟨rfl, hbw⟩
                go_wp2_with fail
                exact ⟨rfl, hK _ _ rfl (fun j k _ _ => hbw)⟩
              · intro val ac u hR hp ha K hK      -- 5: t42 := Op.call { value (Operand.func 14), args := #[t37, t41], argTypes := #[37, 37] }
                obtain ⟨w37, h37, r37⟩ := hp 0 (by decide)
                have e37 : (ac.tmps[37]?).getD undef = Vec.C col := (ha 37 (by decide)).trans h37
                clear h37
                obtain ⟨w41, h41, r41⟩ := hp 4 (by decide)
                have e41 : (ac.tmps[41]?).getD undef = Vec.C (Vec.part q.cover rng) := (ha 41 (by decide)).trans h41
                clear h41
                clear ha hp
                refine Reg.Op1.plain rfl ?_
                go_wp2_with fail
                refine (coversC_any col (Vec.part q.cover rng) u).mono ?_
                rintro x w' ⟨rfl, hbw⟩
                rw [hc]
                go_wp2_with fail
                exact ⟨rfl, hK _ _ rfl (fun j k _ _ => hbw)⟩
              · intro val ac u hR hp ha K hK      -- 6: t43 := Op.unOp UnOp.not 4 t42
                obtain ⟨w42, h42, r42⟩ := hp 5 (by decide)
                have e42 : (ac.tmps[42]?).getD undef = .bool true := (ha 42 (by decide)).trans h42
                clear h42
                clear ha hp
                refine Reg.Op1.plain rfl ?_
                go_wp2
                exact ⟨rfl, hK _ _ rfl (fun j k _ _ => Reg.Adds.refl _ _ _)⟩
              · intro val ac u hR hp ha K hK      -- 7: t44 := Op.move t43
                obtain ⟨w43, h43, r43⟩ := hp 6 (by decide)
                have e43 : (ac.tmps[43]?).getD undef = .bool false := (ha 43 (by decide)).trans h43
                clear h43
                clear ha hp
                refine Reg.Op1.plain rfl ?_
                go_wp2
                exact ⟨rfl, hK _ _ rfl (fun j k _ _ => Reg.Adds.refl _ _ _)⟩
              · intro val ac u hR hp ha K hK      -- 8: t45 := Op.fieldAddr 39 t4 2
                have e4 : (ac.tmps[4]?).getD undef = .pointer (some ⟨w.heap.size, 0, none⟩) := ha 4 (by decide)
                obtain ⟨w44, h44, r44⟩ := hp 7 (by decide)
                have e44 : (ac.tmps[44]?).getD undef = .bool false := (ha 44 (by decide)).trans h44
                clear h44
                clear ha hp
                refine Reg.Op1.guarded rfl rfl e44 (fun _ => Reg.Op1.plain rfl ?_) (fun h => absurd rfl h)
                go_wp2
                exact ⟨rfl, hK _ _ rfl (fun j k _ _ => Reg.Adds.refl _ _ _)⟩
              · intro val ac u hR hp ha K hK      -- 9: t46 := Op.load 4 t45
                obtain ⟨w45, h45, r45⟩ := hp 8 (by decide)
                have e45 : (ac.tmps[45]?).getD undef = .pointer (some ⟨w.heap.size, 10, none⟩) := (ha 45 (by decide)).trans h45
                clear h45
                obtain ⟨w44, h44, r44⟩ := hp 7 (by decide)
                have e44 : (ac.tmps[44]?).getD undef = .bool false := (ha 44 (by decide)).trans h44
                clear h44
                clear ha hp
                refine Reg.Op1.guarded rfl rfl e44 (fun _ => Reg.Op1.plain rfl ?_) (fun h => absurd rfl h)
                have x0 := (hR.cell (p := ⟨w.heap.size, 10, none⟩) HR.out.q.lt).trans (HR.out.q.cell (j := 10) rfl)
                rw [hsn] at x0
                go_wp2
                exact ⟨rfl, hK _ _ rfl (fun j k _ _ => Reg.Adds.refl _ _ _)⟩
              · intro val ac u hR hp ha K hK      -- 10: t47 := Op.move t46
                obtain ⟨w46, h46, r46⟩ := hp 9 (by decide)
                have e46 : (ac.tmps[46]?).getD undef = .bool false := (ha 46 (by decide)).trans h46
                clear h46
                obtain ⟨w44, h44, r44⟩ := hp 7 (by decide)
                have e44 : (ac.tmps[44]?).getD undef = .bool false := (ha 44 (by decide)).trans h44
                clear h44
                clear ha hp
                refine Reg.Op1.guarded rfl rfl e44 (fun _ => Reg.Op1.plain rfl ?_) (fun h => absurd rfl h)
                go_wp2
                exact ⟨rfl, hK _ _ rfl (fun j k _ _ => Reg.Adds.refl _ _ _)⟩
              · intro val ac u hR hp ha K hK      -- 11: t48 := Op.load 37 t8
                obtain ⟨w47, h47, r47⟩ := hp 10 (by decide)
                have e47 : (ac.tmps[47]?).getD undef = .bool false := (ha 47 (by decide)).trans h47
                clear h47
                clear ha hp
                exact Reg.Op1.guarded rfl rfl e47 (fun h => by cases h) (fun _ => hK _ _ rfl (fun j k _ _ => Reg.Adds.refl _ _ _))
              · intro val ac u hR hp ha K hK      -- 12: t49 := Op.load 37 t9
                obtain ⟨w47, h47, r47⟩ := hp 10 (by decide)
                have e47 : (ac.tmps[47]?).getD undef = .bool false := (ha 47 (by decide)).trans h47
                clear h47
                clear ha hp
                exact Reg.Op1.guarded rfl rfl e47 (fun h => by cases h) (fun _ => hK _ _ rfl (fun j k _ _ => Reg.Adds.refl _ _ _))
              · intro val ac u hR hp ha K hK      -- 13: t50 := Op.call { value (Operand.func 14), args := #[t48, t49], argTypes := #[37, 37] }
                obtain ⟨w47, h47, r47⟩ := hp 10 (by decide)
                have e47 : (ac.tmps[47]?).getD undef = .bool false := (ha 47 (by decide)).trans h47
                clear h47
                clear ha hp
                exact Reg.Op1.guarded rfl rfl e47 (fun h => by cases h) (fun _ => hK _ _ rfl (fun j k _ _ => Reg.Adds.refl _ _ _))
              · intro val ac u hR hp ha K hK      -- 14: t51 := Op.unOp UnOp.not 4 t50
                obtain ⟨w47, h47, r47⟩ := hp 10 (by decide)
                have e47 : (ac.tmps[47]?).getD undef = .bool false := (ha 47 (by decide)).trans h47
                clear h47
                clear ha hp
                exact Reg.Op1.guarded rfl rfl e47 (fun h => by cases h) (fun _ => hK _ _ rfl (fun j k _ _ => Reg.Adds.refl _ _ _))
              · intro val ac u hR hp ha K hK      -- 15: t52 := Op.pick t47 t51 (const (Value.bool false))
                obtain ⟨w47, h47, r47⟩ := hp 10 (by decide)
                have e47 : (ac.tmps[47]?).getD undef = .bool false := (ha 47 (by decide)).trans h47
                clear h47
                obtain ⟨w51, h51, r51⟩ := hp 14 (by decide)
                have e51 : (ac.tmps[51]?).getD undef = undef := (ha 51 (by decide)).trans h51
                clear h51
                obtain ⟨w44, h44, r44⟩ := hp 7 (by decide)
                have e44 : (ac.tmps[44]?).getD undef = .bool false := (ha 44 (by decide)).trans h44
                clear h44
                clear ha hp
                refine Reg.Op1.guarded rfl rfl e44 (fun _ => Reg.Op1.plain rfl ?_) (fun h => absurd rfl h)
                go_wp2
                exact ⟨rfl, hK _ _ rfl (fun j k _ _ => Reg.Adds.refl _ _ _)⟩
              · intro val ac u hR hp ha K hK      -- 16: t53 := Op.pick t44 (const (Value.bool true)) t52
                obtain ⟨w44, h44, r44⟩ := hp 7 (by decide)
                have e44 : (ac.tmps[44]?).getD undef = .bool false := (ha 44 (by decide)).trans h44
                clear h44
                obtain ⟨w52, h52, r52⟩ := hp 15 (by decide)
                have e52 : (ac.tmps[52]?).getD undef = .bool false := (ha 52 (by decide)).trans h52
                clear h52
                clear ha hp
                refine Reg.Op1.plain rfl ?_
                go_wp2
                exact ⟨rfl, hK _ _ rfl (fun j k _ _ => Reg.Adds.refl _ _ _)⟩
              · intro val ac u hR hp ha K hK      -- 17: t10 := Op.assign t53
                obtain ⟨w53, h53, r53⟩ := hp 16 (by decide)
                have e53 : (ac.tmps[53]?).getD undef = .bool false := (ha 53 (by decide)).trans h53
                clear h53
                clear ha hp
                refine Reg.Op1.plain rfl ?_
                go_wp2
                exact ⟨rfl, hK _ _ rfl (fun j k _ _ => Reg.Adds.refl _ _ _)⟩
            · intro val u hR H
              obtain ⟨_, hv, _⟩ := H 17 (by decide)
              have hv : val 17 = .bool false := hv
              have HN : Hid (RfAt w q s t col tt sa R u) := HR.out.below ((Below.refl _ w2).drew.trans hR)
              simp only [List.map_cons, List.map_nil, Reg.lay, Act.put, List.setIfInBounds_toArray, List.set_cons_succ, List.set_cons_zero, Nat.reduceAdd, hv]
              clear hR H hv
              go_wp2
              go_meet
              case rel => exact ⟨by rw [hbq], HN.out⟩
          · cases hcv : coversC col tt
            · have hbq : behindQ rng q col tt = true := by unfold behindQ; rw [hc, hsn, hcv]; rfl
              refine Reg.wp_region_rel (by kernel_rfl) 96 18 rfl rfl (by kernel_rfl) (Reg.Adds) (Reg.Adds.refl) (Reg.Adds.trans)
                (fun i v u => match i with
                  | 0 => v = Vec.C col
                  | 1 => v = .pointer (some ⟨w.heap.size, 1, none⟩)
                  | 2 => v = Vec.V q.cover
                  | 3 => v = .int .i64 rng
                  | 4 => v = Vec.C (Vec.part q.cover rng)
                  | 5 => v = .bool true
                  | 6 => v = .bool false
                  | 7 => v = .bool false
                  | 8 => v = .pointer (some ⟨w.heap.size, 10, none⟩)
                  | 9 => v = .bool true
                  | 10 => v = .bool true
                  | 11 => v = Vec.C col
                  | 12 => v = Vec.C tt
                  | 13 => v = .bool false
                  | 14 => v = .bool true
                  | 15 => v = .bool true
                  | 16 => v = .bool true
                  | 17 => v = .bool true
                  | _ => True) ?_ ?_
              · refine Reg.Steps.cons ?_ (Reg.Steps.cons ?_ (Reg.Steps.cons ?_ (Reg.Steps.cons ?_ (Reg.Steps.cons ?_ (Reg.Steps.cons ?_ (Reg.Steps.cons ?_ (Reg.Steps.cons ?_ (Reg.Steps.cons ?_ (Reg.Steps.cons ?_ (Reg.Steps.cons ?_ (Reg.Steps.cons ?_ (Reg.Steps.cons ?_ (Reg.Steps.cons ?_ (Reg.Steps.cons ?_ (Reg.Steps.cons ?_ (Reg.Steps.cons ?_ (Reg.Steps.cons ?_ (Reg.Steps.nil _))))))))))))))))))
                · intro val ac u hR hp ha K hK      -- 0: t37 := Op.load 37 t8
                  have e8 : (ac.tmps[8]?).getD undef = .pointer (some ⟨s, 0, none⟩) := ha 8 (by decide)
                  clear ha hp
                  refine Reg.Op1.plain rfl ?_
                  have x0 := (hR.cell (p := ⟨s, 0, none⟩) HR.out.c.lt).trans (HR.out.c.cell (j := 0) rfl)
                  have x1 := (hR.cell (p := ⟨s, 1, none⟩) HR.out.c.lt).trans (HR.out.c.cell (j := 1) rfl)
                  have x2 := (hR.cell (p := ⟨s, 2, none⟩) HR.out.c.lt).trans (HR.out.c.cell (j := 2) rfl)
                  go_wp2
                  exact ⟨rfl, hK _ _ rfl (fun j k _ _ => Reg.Adds.refl _ _ _)⟩
                · intro val ac u hR hp ha K hK      -- 1: t38 := Op.fieldAddr 39 t4 1
                  have e4 : (ac.tmps[4]?).getD undef = .pointer (some ⟨w.heap.size, 0, none⟩) := ha 4 (by decide)
                  clear ha hp
                  refine Reg.Op1.plain rfl ?_
                  go_wp2
                  exact ⟨rfl, hK _ _ rfl (fun j k _ _ => Reg.Adds.refl _ _ _)⟩
                · intro val ac u hR hp ha K hK      -- 2: t39 := Op.load 31 t38
                  obtain ⟨w38, h38, r38⟩ := hp 1 (by decide)
                  have e38 : (ac.tmps[38]?).getD undef = .pointer (some ⟨w.heap.size, 1, none⟩) := (ha 38 (by decide)).trans h38
                  clear h38
                  clear ha hp
                  refine Reg.Op1.plain rfl ?_
                  have hQu : QBx u w.heap.size q := Mem.Bx.below (w := w2.drew) HR.out.q hR HR.out.q.lt
                  have x0 := hQu.cell (j := 1) rfl
                  have x1 := hQu.cell (j := 2) rfl
                  have x2 := hQu.cell (j := 3) rfl
                  have x3 := hQu.cell (j := 4) rfl
                  have x4 := hQu.cell (j := 5) rfl
                  have x5 := hQu.cell (j := 6) rfl
                  have x6 := hQu.cell (j := 7) rfl
                  have x7 := hQu.cell (j := 8) rfl
                  have x8 := hQu.cell (j := 9) rfl
                  clear hQu
                  go_wp2
                  exact ⟨rfl, hK _ _ rfl (fun j k _ _ => Reg.Adds.refl _ _ _)⟩
                · intro val ac u hR hp ha K hK      -- 3: t40 := Op.move t0
                  have e0 : (ac.tmps[0]?).getD undef = .int .i64 rng := ha 0 (by decide)
                  clear ha hp
                  refine Reg.Op1.plain rfl ?_
                  go_wp2
                  exact ⟨rfl, hK _ _ rfl (fun j k _ _ => Reg.Adds.refl _ _ _)⟩
                · intro val ac u hR hp ha K hK      -- 4: t41 := Op.call { value (Operand.func 13), args := #[t39, t40], argTypes := #[31, 3] }
                  obtain ⟨w39, h39, r39⟩ := hp 2 (by decide)
                  have e39 : (ac.tmps[39]?).getD undef = Vec.V q.cover := (ha 39 (by decide)).trans h39
                  clear h39
                  obtain ⟨w40, h40, r40⟩ := hp 3 (by decide)
                  have e40 : (ac.tmps[40]?).getD undef = .int .i64 rng := (ha 40 (by decide)).trans h40
                  clear h40
                  clear ha hp
                  refine Reg.Op1.plain rfl ?_
                  go_wp2_with fail
                  refine (part_any q.cover rng u).mono ?_
                  rintro x w' ⟨rfl, hbw⟩
                  go_wp2_with fail
                  exact ⟨rfl, hK _ _ rfl (fun j k _ _ => hbw)⟩
                · intro val ac u hR hp ha K hK      -- 5: t42 := Op.call { value (Operand.func 14), args := #[t37, t41], argTypes := #[37, 37] }
                  obtain ⟨w37, h37, r37⟩ := hp 0 (by decide)
                  have e37 : (ac.tmps[37]?).getD undef = Vec.C col := (ha 37 (by decide)).trans h37
                  clear h37
                  obtain ⟨w41, h41, r41⟩ := hp 4 (by decide)
                  have e41 : (ac.tmps[41]?).getD undef = Vec.C (Vec.part q.cover rng) := (ha 41 (by decide)).trans h41
                  clear h41
                  clear ha hp
                  refine Reg.Op1.plain rfl ?_
                  go_wp2_with fail
                  refine (coversC_any col (Vec.part q.cover rng) u).mono ?_
                  rintro x w' ⟨rfl, hbw⟩
                  rw [hc]
                  go_wp2_with fail
                  exact ⟨rfl, hK _ _ rfl (fun j k _ _ => hbw)⟩
                · intro val ac u hR hp ha K hK      -- 6: t43 := Op.unOp UnOp.not 4 t42
                  obtain ⟨w42, h42, r42⟩ := hp 5 (by decide)
                  have e42 : (ac.tmps[42]?).getD undef = .bool true := (ha 42 (by decide)).trans h42
                  clear h42
                  clear ha hp
                  refine Reg.Op1.plain rfl ?_
                  go_wp2
                  exact ⟨rfl, hK _ _ rfl (fun j k _ _ => Reg.Adds.refl _ _ _)⟩
                · intro val ac u hR hp ha K hK      -- 7: t44 := Op.move t43
                  obtain ⟨w43, h43, r43⟩ := hp 6 (by decide)
                  have e43 : (ac.tmps[43]?).getD undef = .bool false := (ha 43 (by decide)).trans h43
                  clear h43
                  clear ha hp
                  refine Reg.Op1.plain rfl ?_
                  go_wp2
                  exact ⟨rfl, hK _ _ rfl (fun j k _ _ => Reg.Adds.refl _ _ _)⟩
                · intro val ac u hR hp ha K hK      -- 8: t45 := Op.fieldAddr 39 t4 2
                  have e4 : (ac.tmps[4]?).getD undef = .pointer (some ⟨w.heap.size, 0, none⟩) := ha 4 (by decide)
                  obtain ⟨w44, h44, r44⟩ := hp 7 (by decide)
                  have e44 : (ac.tmps[44]?).getD undef = .bool false := (ha 44 (by decide)).trans h44
                  clear h44
                  clear ha hp
                  refine Reg.Op1.guarded rfl rfl e44 (fun _ => Reg.Op1.plain rfl ?_) (fun h => absurd rfl h)
                  go_wp2
                  exact ⟨rfl, hK _ _ rfl (fun j k _ _ => Reg.Adds.refl _ _ _)⟩
                · intro val ac u hR hp ha K hK      -- 9: t46 := Op.load 4 t45
                  obtain ⟨w45, h45, r45⟩ := hp 8 (by decide)
                  have e45 : (ac.tmps[45]?).getD undef = .pointer (some ⟨w.heap.size, 10, none⟩) := (ha 45 (by decide)).trans h45
                  clear h45
                  obtain ⟨w44, h44, r44⟩ := hp 7 (by decide)
                  have e44 : (ac.tmps[44]?).getD undef = .bool false := (ha 44 (by decide)).trans h44
                  clear h44
                  clear ha hp
                  refine Reg.Op1.guarded rfl rfl e44 (fun _ => Reg.Op1.plain rfl ?_) (fun h => absurd rfl h)
                  have x0 := (hR.cell (p := ⟨w.heap.size, 10, none⟩) HR.out.q.lt).trans (HR.out.q.cell (j := 10) rfl)
                  rw [hsn] at x0
                  go_wp2
                  exact ⟨rfl, hK _ _ rfl (fun j k _ _ => Reg.Adds.refl _ _ _)⟩
                · intro val ac u hR hp ha K hK      -- 10: t47 := Op.move t46
                  obtain ⟨w46, h46, r46⟩ := hp 9 (by decide)
                  have e46 : (ac.tmps[46]?).getD undef = .bool true := (ha 46 (by decide)).trans h46
                  clear h46
                  obtain ⟨w44, h44, r44⟩ := hp 7 (by decide)
                  have e44 : (ac.tmps[44]?).getD undef = .bool false := (ha 44 (by decide)).trans h44
                  clear h44
                  clear ha hp
                  refine Reg.Op1.guarded rfl rfl e44 (fun _ => Reg.Op1.plain rfl ?_) (fun h => absurd rfl h)
                  go_wp2
                  exact ⟨rfl, hK _ _ rfl (fun j k _ _ => Reg.Adds.refl _ _ _)⟩
                · intro val ac u hR hp ha K hK      -- 11: t48 := Op.load 37 t8
                  have e8 : (ac.tmps[8]?).getD undef = .pointer (some ⟨s, 0, none⟩) := ha 8 (by decide)
                  obtain ⟨w47, h47, r47⟩ := hp 10 (by decide)
                  have e47 : (ac.tmps[47]?).getD undef = .bool true := (ha 47 (by decide)).trans h47
                  clear h47
                  clear ha hp
                  refine Reg.Op1.guarded rfl rfl e47 (fun _ => Reg.Op1.plain rfl ?_) (fun h => absurd rfl h)
                  have x0 := (hR.cell (p := ⟨s, 0, none⟩) HR.out.c.lt).trans (HR.out.c.cell (j := 0) rfl)
                  have x1 := (hR.cell (p := ⟨s, 1, none⟩) HR.out.c.lt).trans (HR.out.c.cell (j := 1) rfl)
                  have x2 := (hR.cell (p := ⟨s, 2, none⟩) HR.out.c.lt).trans (HR.out.c.cell (j := 2) rfl)
                  go_wp2
                  exact ⟨rfl, hK _ _ rfl (fun j k _ _ => Reg.Adds.refl _ _ _)⟩
                · intro val ac u hR hp ha K hK      -- 12: t49 := Op.load 37 t9
                  have e9 : (ac.tmps[9]?).getD undef = .pointer (some ⟨t, 0, none⟩) := ha 9 (by decide)
                  obtain ⟨w47, h47, r47⟩ := hp 10 (by decide)
                  have e47 : (ac.tmps[47]?).getD undef = .bool true := (ha 47 (by decide)).trans h47
                  clear h47
                  clear ha hp
                  refine Reg.Op1.guarded rfl rfl e47 (fun _ => Reg.Op1.plain rfl ?_) (fun h => absurd rfl h)
                  have x0 := (hR.cell (p := ⟨t, 0, none⟩) HR.out.t.lt).trans (HR.out.t.cell (j := 0) rfl)
                  have x1 := (hR.cell (p := ⟨t, 1, none⟩) HR.out.t.lt).trans (HR.out.t.cell (j := 1) rfl)
                  have x2 := (hR.cell (p := ⟨t, 2, none⟩) HR.out.t.lt).trans (HR.out.t.cell (j := 2) rfl)
                  go_wp2
                  exact ⟨rfl, hK _ _ rfl (fun j k _ _ => Reg.Adds.refl _ _ _)⟩
                · intro val ac u hR hp ha K hK      -- 13: t50 := Op.call { value (Operand.func 14), args := #[t48, t49], argTypes := #[37, 37] }
                  obtain ⟨w48, h48, r48⟩ := hp 11 (by decide)
                  have e48 : (ac.tmps[48]?).getD undef = Vec.C col := (ha 48 (by decide)).trans h48
                  clear h48
                  obtain ⟨w49, h49, r49⟩ := hp 12 (by decide)
                  have e49 : (ac.tmps[49]?).getD undef = Vec.C tt := (ha 49 (by decide)).trans h49
                  clear h49
                  obtain ⟨w47, h47, r47⟩ := hp 10 (by decide)
                  have e47 : (ac.tmps[47]?).getD undef = .bool true := (ha 47 (by decide)).trans h47
                  clear h47
                  clear ha hp
                  refine Reg.Op1.guarded rfl rfl e47 (fun _ => Reg.Op1.plain rfl ?_) (fun h => absurd rfl h)
                  go_wp2_with fail
                  refine (coversC_any col tt u).mono ?_
                  rintro x w' ⟨rfl, hbw⟩
                  rw [hcv]
                  go_wp2_with fail
                  exact ⟨rfl, hK _ _ rfl (fun j k _ _ => hbw)⟩
                · intro val ac u hR hp ha K hK      -- 14: t51 := Op.unOp UnOp.not 4 t50
                  obtain ⟨w50, h50, r50⟩ := hp 13 (by decide)
                  have e50 : (ac.tmps[50]?).getD undef = .bool false := (ha 50 (by decide)).trans h50
                  clear h50
                  obtain ⟨w47, h47, r47⟩ := hp 10 (by decide)
                  have e47 : (ac.tmps[47]?).getD undef = .bool true := (ha 47 (by decide)).trans h47
                  clear h47
                  clear ha hp
                  refine Reg.Op1.guarded rfl rfl e47 (fun _ => Reg.Op1.plain rfl ?_) (fun h => absurd rfl h)
                  go_wp2
                  exact ⟨rfl, hK _ _ rfl (fun j k _ _ => Reg.Adds.refl _ _ _)⟩
                · intro val ac u hR hp ha K hK      -- 15: t52 := Op.pick t47 t51 (const (Value.bool false))
                  obtain ⟨w47, h47, r47⟩ := hp 10 (by decide)
                  have e47 : (ac.tmps[47]?).getD undef = .bool true := (ha 47 (by decide)).trans h47
                  clear h47
                  obtain ⟨w51, h51, r51⟩ := hp 14 (by decide)
                  have e51 : (ac.tmps[51]?).getD undef = .bool true := (ha 51 (by decide)).trans h51
                  clear h51
                  obtain ⟨w44, h44, r44⟩ := hp 7 (by decide)
                  have e44 : (ac.tmps[44]?).getD undef = .bool false := (ha 44 (by decide)).trans h44
                  clear h44
                  clear ha hp
                  refine Reg.Op1.guarded rfl rfl e44 (fun _ => Reg.Op1.plain rfl ?_) (fun h => absurd rfl h)
                  go_wp2
                  exact ⟨rfl, hK _ _ rfl (fun j k _ _ => Reg.Adds.refl _ _ _)⟩
                · intro val ac u hR hp ha K hK      -- 16: t53 := Op.pick t44 (const (Value.bool true)) t52
                  obtain ⟨w44, h44, r44⟩ := hp 7 (by decide)
                  have e44 : (ac.tmps[44]?).getD undef = .bool false := (ha 44 (by decide)).trans h44
                  clear h44
                  obtain ⟨w52, h52, r52⟩ := hp 15 (by decide)
                  have e52 : (ac.tmps[52]?).getD undef = .bool true := (ha 52 (by decide)).trans h52
                  clear h52
                  clear ha hp
                  refine Reg.Op1.plain rfl ?_
                  go_wp2
                  exact ⟨rfl, hK _ _ rfl (fun j k _ _ => Reg.Adds.refl _ _ _)⟩
                · intro val ac u hR hp ha K hK      -- 17: t10 := Op.assign t53
                  obtain ⟨w53, h53, r53⟩ := hp 16 (by decide)
                  have e53 : (ac.tmps[53]?).getD undef = .bool true := (ha 53 (by decide)).trans h53
                  clear h53
                  clear ha hp
                  refine Reg.Op1.plain rfl ?_
                  go_wp2
                  exact ⟨rfl, hK _ _ rfl (fun j k _ _ => Reg.Adds.refl _ _ _)⟩
              · intro val u hR H
                obtain ⟨_, hv, _⟩ := H 17 (by decide)
                have hv : val 17 = .bool true := hv
                have HN : Hid (RfAt w q s t col tt sa R u) := HR.out.below ((Below.refl _ w2).drew.trans hR)
                simp only [List.map_cons, List.map_nil, Reg.lay, Act.put, List.setIfInBounds_toArray, List.set_cons_succ, List.set_cons_zero, Nat.reduceAdd, hv]
                clear hR H hv
                go_wp2
                go_meet
                case rel => exact ⟨by rw [hbq], HN.out⟩
            · have hbq : behindQ rng q col tt = false := by unfold behindQ; rw [hc, hsn, hcv]; rfl
              refine Reg.wp_region_rel (by kernel_rfl) 96 18 rfl rfl (by kernel_rfl) (Reg.Adds) (Reg.Adds.refl) (Reg.Adds.trans)
                (fun i v u => match i with
                  | 0 => v = Vec.C col
                  | 1 => v = .pointer (some ⟨w.heap.size, 1, none⟩)
                  | 2 => v = Vec.V q.cover
                  | 3 => v = .int .i64 rng
                  | 4 => v = Vec.C (Vec.part q.cover rng)
                  | 5 => v = .bool true
                  | 6 => v = .bool false
                  | 7 => v = .bool false
                  | 8 => v = .pointer (some ⟨w.heap.size, 10, none⟩)
                  | 9 => v = .bool true
                  | 10 => v = .bool true
                  | 11 => v = Vec.C col
                  | 12 => v = Vec.C tt
                  | 13 => v = .bool true
                  | 14 => v = .bool false
                  | 15 => v = .bool false
                  | 16 => v = .bool false
                  | 17 => v = .bool false
                  | _ => True) ?_ ?_
              · refine Reg.Steps.cons ?_ (Reg.Steps.cons ?_ (Reg.Steps.cons ?_ (Reg.Steps.cons ?_ (Reg.Steps.cons ?_ (Reg.Steps.cons ?_ (Reg.Steps.cons ?_ (Reg.Steps.cons ?_ (Reg.Steps.cons ?_ (Reg.Steps.cons ?_ (Reg.Steps.cons ?_ (Reg.Steps.cons ?_ (Reg.Steps.cons ?_ (Reg.Steps.cons ?_ (Reg.Steps.cons ?_ (Reg.Steps.cons ?_ (Reg.Steps.cons ?_ (Reg.Steps.cons ?_ (Reg.Steps.nil _))))))))))))))))))
                · intro val ac u hR hp ha K hK      -- 0: t37 := Op.load 37 t8
                  have e8 : (ac.tmps[8]?).getD undef = .pointer (some ⟨s, 0, none⟩) := ha 8 (by decide)
                  clear ha hp
                  refine Reg.Op1.plain rfl ?_
                  have x0 := (hR.cell (p := ⟨s, 0, none⟩) HR.out.c.lt).trans (HR.out.c.cell (j := 0) rfl)
                  have x1 := (hR.cell (p := ⟨s, 1, none⟩) HR.out.c.lt).trans (HR.out.c.cell (j := 1) rfl)
                  have x2 := (hR.cell (p := ⟨s, 2, none⟩) HR.out.c.lt).trans (HR.out.c.cell (j := 2) rfl)
                  go_wp2
                  exact ⟨rfl, hK _ _ rfl (fun j k _ _ => Reg.Adds.refl _ _ _)⟩
                · intro val ac u hR hp ha K hK      -- 1: t38 := Op.fieldAddr 39 t4 1
                  have e4 : (ac.tmps[4]?).getD undef = .pointer (some ⟨w.heap.size, 0, none⟩) := ha 4 (by decide)
                  clear ha hp
                  refine Reg.Op1.plain rfl ?_
                  go_wp2
                  exact ⟨rfl, hK _ _ rfl (fun j k _ _ => Reg.Adds.refl _ _ _)⟩
                · intro val ac u hR hp ha K hK      -- 2: t39 := Op.load 31 t38
                  obtain ⟨w38, h38, r38⟩ := hp 1 (by decide)
                  have e38 : (ac.tmps[38]?).getD undef = .pointer (some ⟨w.heap.size, 1, none⟩) := (ha 38 (by decide)).trans h38
                  clear h38
                  clear ha hp
                  refine Reg.Op1.plain rfl ?_
                  have hQu : QBx u w.heap.size q := Mem.Bx.below (w := w2.drew) HR.out.q hR HR.out.q.lt
                  have x0 := hQu.cell (j := 1) rfl
                  have x1 := hQu.cell (j := 2) rfl
                  have x2 := hQu.cell (j := 3) rfl
                  have x3 := hQu.cell (j := 4) rfl
                  have x4 := hQu.cell (j := 5) rfl
                  have x5 := hQu.cell (j := 6) rfl
                  have x6 := hQu.cell (j := 7) rfl
                  have x7 := hQu.cell (j := 8) rfl
                  have x8 := hQu.cell (j := 9) rfl
                  clear hQu
                  go_wp2
                  exact ⟨rfl, hK _ _ rfl (fun j k _ _ => Reg.Adds.refl _ _ _)⟩
                · intro val ac u hR hp ha K hK      -- 3: t40 := Op.move t0
                  have e0 : (ac.tmps[0]?).getD undef = .int .i64 rng := ha 0 (by decide)
                  clear ha hp
                  refine Reg.Op1.plain rfl ?_
                  go_wp2
                  exact ⟨rfl, hK _ _ rfl (fun j k _ _ => Reg.Adds.refl _ _ _)⟩
                · intro val ac u hR hp ha K hK      -- 4: t41 := Op.call { value (Operand.func 13), args := #[t39, t40], argTypes := #[31, 3] }
                  obtain ⟨w39, h39, r39⟩ := hp 2 (by decide)
                  have e39 : (ac.tmps[39]?).getD undef = Vec.V q.cover := (ha 39 (by decide)).trans h39
                  clear h39
                  obtain ⟨w40, h40, r40⟩ := hp 3 (by decide)
                  have e40 : (ac.tmps[40]?).getD undef = .int .i64 rng := (ha 40 (by decide)).trans h40
                  clear h40
                  clear ha hp
                  refine Reg.Op1.plain rfl ?_
                  go_wp2_with fail
                  refine (part_any q.cover rng u).mono ?_
                  rintro x w' ⟨rfl, hbw⟩
                  go_wp2_with fail
                  exact ⟨rfl, hK _ _ rfl (fun j k _ _ => hbw)⟩
                · intro val ac u hR hp ha K hK      -- 5: t42 := Op.call { value (Operand.func 14), args := #[t37, t41], argTypes := #[37, 37] }
                  obtain ⟨w37, h37, r37⟩ := hp 0 (by decide)
                  have e37 : (ac.tmps[37]?).getD undef = Vec.C col := (ha 37 (by decide)).trans h37
                  clear h37
                  obtain ⟨w41, h41, r41⟩ := hp 4 (by decide)
                  have e41 : (ac.tmps[41]?).getD undef = Vec.C (Vec.part q.cover rng) := (ha 41 (by decide)).trans h41
                  clear h41
                  clear ha hp
                  refine Reg.Op1.plain rfl ?_
                  go_wp2_with fail
                  refine (coversC_any col (Vec.part q.cover rng) u).mono ?_
                  rintro x w' ⟨rfl, hbw⟩
                  rw [hc]
                  go_wp2_with fail
                  exact ⟨rfl, hK _ _ rfl (fun j k _ _ => hbw)⟩
                · intro val ac u hR hp ha K hK      -- 6: t43 := Op.unOp UnOp.not 4 t42
                  obtain ⟨w42, h42, r42⟩ := hp 5 (by decide)
                  have e42 : (ac.tmps[42]?).getD undef = .bool true := (ha 42 (by decide)).trans h42
                  clear h42
                  clear ha hp
                  refine Reg.Op1.plain rfl ?_
                  go_wp2
                  exact ⟨rfl, hK _ _ rfl (fun j k _ _ => Reg.Adds.refl _ _ _)⟩
                · intro val ac u hR hp ha K hK      -- 7: t44 := Op.move t43
                  obtain ⟨w43, h43, r43⟩ := hp 6 (by decide)
                  have e43 : (ac.tmps[43]?).getD undef = .bool false := (ha 43 (by decide)).trans h43
                  clear h43
                  clear ha hp
                  refine Reg.Op1.plain rfl ?_
                  go_wp2
                  exact ⟨rfl, hK _ _ rfl (fun j k _ _ => Reg.Adds.refl _ _ _)⟩
                · intro val ac u hR hp ha K hK      -- 8: t45 := Op.fieldAddr 39 t4 2
                  have e4 : (ac.tmps[4]?).getD undef = .pointer (some ⟨w.heap.size, 0, none⟩) := ha 4 (by decide)
                  obtain ⟨w44, h44, r44⟩ := hp 7 (by decide)
                  have e44 : (ac.tmps[44]?).getD undef = .bool false := (ha 44 (by decide)).trans h44
                  clear h44
                  clear ha hp
                  refine Reg.Op1.guarded rfl rfl e44 (fun _ => Reg.Op1.plain rfl ?_) (fun h => absurd rfl h)
                  go_wp2
                  exact ⟨rfl, hK _ _ rfl (fun j k _ _ => Reg.Adds.refl _ _ _)⟩
                · intro val ac u hR hp ha K hK      -- 9: t46 := Op.load 4 t45
                  obtain ⟨w45, h45, r45⟩ := hp 8 (by decide)
                  have e45 : (ac.tmps[45]?).getD undef = .pointer (some ⟨w.heap.size, 10, none⟩) := (ha 45 (by decide)).trans h45
                  clear h45
                  obtain ⟨w44, h44, r44⟩ := hp 7 (by decide)
                  have e44 : (ac.tmps[44]?).getD undef = .bool false := (ha 44 (by decide)).trans h44
                  clear h44
                  clear ha hp
                  refine Reg.Op1.guarded rfl rfl e44 (fun _ => Reg.Op1.plain rfl ?_) (fun h => absurd rfl h)
                  have x0 := (hR.cell (p := ⟨w.heap.size, 10, none⟩) HR.out.q.lt).trans (HR.out.q.cell (j := 10) rfl)
                  rw [hsn] at x0
                  go_wp2
                  exact ⟨rfl, hK _ _ rfl (fun j k _ _ => Reg.Adds.refl _ _ _)⟩
                · intro val ac u hR hp ha K hK      -- 10: t47 := Op.move t46
                  obtain ⟨w46, h46, r46⟩ := hp 9 (by decide)
                  have e46 : (ac.tmps[46]?).getD undef = .bool true := (ha 46 (by decide)).trans h46
                  clear h46
                  obtain ⟨w44, h44, r44⟩ := hp 7 (by decide)
                  have e44 : (ac.tmps[44]?).getD undef = .bool false := (ha 44 (by decide)).trans h44
                  clear h44
                  clear ha hp
                  refine Reg.Op1.guarded rfl rfl e44 (fun _ => Reg.Op1.plain rfl ?_) (fun h => absurd rfl h)
                  go_wp2
                  exact ⟨rfl, hK _ _ rfl (fun j k _ _ => Reg.Adds.refl _ _ _)⟩
                · intro val ac u hR hp ha K hK      -- 11: t48 := Op.load 37 t8
                  have e8 : (ac.tmps[8]?).getD undef = .pointer (some ⟨s, 0, none⟩) := ha 8 (by decide)
                  obtain ⟨w47, h47, r47⟩ := hp 10 (by decide)
                  have e47 : (ac.tmps[47]?).getD undef = .bool true := (ha 47 (by decide)).trans h47
                  clear h47
                  clear ha hp
                  refine Reg.Op1.guarded rfl rfl e47 (fun _ => Reg.Op1.plain rfl ?_) (fun h => absurd rfl h)
                  have x0 := (hR.cell (p := ⟨s, 0, none⟩) HR.out.c.lt).trans (HR.out.c.cell (j := 0) rfl)
                  have x1 := (hR.cell (p := ⟨s, 1, none⟩) HR.out.c.lt).trans (HR.out.c.cell (j := 1) rfl)
                  have x2 := (hR.cell (p := ⟨s, 2, none⟩) HR.out.c.lt).trans (HR.out.c.cell (j := 2) rfl)
                  go_wp2
                  exact ⟨rfl, hK _ _ rfl (fun j k _ _ => Reg.Adds.refl _ _ _)⟩
                · intro val ac u hR hp ha K hK      -- 12: t49 := Op.load 37 t9
                  have e9 : (ac.tmps[9]?).getD undef = .pointer (some ⟨t, 0, none⟩) := ha 9 (by decide)
                  obtain ⟨w47, h47, r47⟩ := hp 10 (by decide)
                  have e47 : (ac.tmps[47]?).getD undef = .bool true := (ha 47 (by decide)).trans h47
                  clear h47
                  clear ha hp
                  refine Reg.Op1.guarded rfl rfl e47 (fun _ => Reg.Op1.plain rfl ?_) (fun h => absurd rfl h)
                  have x0 := (hR.cell (p := ⟨t, 0, none⟩) HR.out.t.lt).trans (HR.out.t.cell (j := 0) rfl)
                  have x1 := (hR.cell (p := ⟨t, 1, none⟩) HR.out.t.lt).trans (HR.out.t.cell (j := 1) rfl)
                  have x2 := (hR.cell (p := ⟨t, 2, none⟩) HR.out.t.lt).trans (HR.out.t.cell (j := 2) rfl)
                  go_wp2
                  exact ⟨rfl, hK _ _ rfl (fun j k _ _ => Reg.Adds.refl _ _ _)⟩
                · intro val ac u hR hp ha K hK      -- 13: t50 := Op.call { value (Operand.func 14), args := #[t48, t49], argTypes := #[37, 37] }
                  obtain ⟨w48, h48, r48⟩ := hp 11 (by decide)
                  have e48 : (ac.tmps[48]?).getD undef = Vec.C col := (ha 48 (by decide)).trans h48
                  clear h48
                  obtain ⟨w49, h49, r49⟩ := hp 12 (by decide)
                  have e49 : (ac.tmps[49]?).getD undef = Vec.C tt := (ha 49 (by decide)).trans h49
                  clear h49
                  obtain ⟨w47, h47, r47⟩ := hp 10 (by decide)
                  have e47 : (ac.tmps[47]?).getD undef = .bool true := (ha 47 (by decide)).trans h47
                  clear h47
                  clear ha hp
                  refine Reg.Op1.guarded rfl rfl e47 (fun _ => Reg.Op1.plain rfl ?_) (fun h => absurd rfl h)
                  go_wp2_with fail
                  refine (coversC_any col tt u).mono ?_
                  rintro x w' ⟨rfl, hbw⟩
                  rw [hcv]
                  go_wp2_with fail
                  exact ⟨rfl, hK _ _ rfl (fun j k _ _ => hbw)⟩
                · intro val ac u hR hp ha K hK      -- 14: t51 := Op.unOp UnOp.not 4 t50
                  obtain ⟨w50, h50, r50⟩ := hp 13 (by decide)
                  have e50 : (ac.tmps[50]?).getD undef = .bool true := (ha 50 (by decide)).trans h50
                  clear h50
                  obtain ⟨w47, h47, r47⟩ := hp 10 (by decide)
                  have e47 : (ac.tmps[47]?).getD undef = .bool true := (ha 47 (by decide)).trans h47
                  clear h47
                  clear ha hp
                  refine Reg.Op1.guarded rfl rfl e47 (fun _ => Reg.Op1.plain rfl ?_) (fun h => absurd rfl h)
                  go_wp2
                  exact ⟨rfl, hK _ _ rfl (fun j k _ _ => Reg.Adds.refl _ _ _)⟩
                · intro val ac u hR hp ha K hK      -- 15: t52 := Op.pick t47 t51 (const (Value.bool false))
                  obtain ⟨w47, h47, r47⟩ := hp 10 (by decide)
                  have e47 : (ac.tmps[47]?).getD undef = .bool true := (ha 47 (by decide)).trans h47
                  clear h47
                  obtain ⟨w51, h51, r51⟩ := hp 14 (by decide)
                  have e51 : (ac.tmps[51]?).getD undef = .bool false := (ha 51 (by decide)).trans h51
                  clear h51
                  obtain ⟨w44, h44, r44⟩ := hp 7 (by decide)
                  have e44 : (ac.tmps[44]?).getD undef = .bool false := (ha 44 (by decide)).trans h44
                  clear h44
                  clear ha hp
                  refine Reg.Op1.guarded rfl rfl e44 (fun _ => Reg.Op1.plain rfl ?_) (fun h => absurd rfl h)
                  go_wp2
                  exact ⟨rfl, hK _ _ rfl (fun j k _ _ => Reg.Adds.refl _ _ _)⟩
                · intro val ac u hR hp ha K hK      -- 16: t53 := Op.pick t44 (const (Value.bool true)) t52
                  obtain ⟨w44, h44, r44⟩ := hp 7 (by decide)
                  have e44 : (ac.tmps[44]?).getD undef = .bool false := (ha 44 (by decide)).trans h44
                  clear h44
                  obtain ⟨w52, h52, r52⟩ := hp 15 (by decide)
                  have e52 : (ac.tmps[52]?).getD undef = .bool false := (ha 52 (by decide)).trans h52
                  clear h52
                  clear ha hp
                  refine Reg.Op1.plain rfl ?_
                  go_wp2
                  exact ⟨rfl, hK _ _ rfl (fun j k _ _ => Reg.Adds.refl _ _ _)⟩
                · intro val ac u hR hp ha K hK      -- 17: t10 := Op.assign t53
                  obtain ⟨w53, h53, r53⟩ := hp 16 (by decide)
                  have e53 : (ac.tmps[53]?).getD undef = .bool false := (ha 53 (by decide)).trans h53
                  clear h53
                  clear ha hp
                  refine Reg.Op1.plain rfl ?_
                  go_wp2
                  exact ⟨rfl, hK _ _ rfl (fun j k _ _ => Reg.Adds.refl _ _ _)⟩
              · intro val u hR H
                obtain ⟨_, hv, _⟩ := H 17 (by decide)
                have hv : val 17 = .bool false := hv
                have HN : Hid (RfAt w q s t col tt sa R u) := HR.out.below ((Below.refl _ w2).drew.trans hR)
                simp only [List.map_cons, List.map_nil, Reg.lay, Act.put, List.setIfInBounds_toArray, List.set_cons_succ, List.set_cons_zero, Nat.reduceAdd, hv]
                clear hR H hv
                go_wp2
                go_meet
                case rel => exact ⟨by rw [hbq], HN.out⟩
      case rest =>
        obtain ⟨rfl, hR1⟩ := hcut
        have HR9 := Lib.hid hR1
        clear hR1 HR8 HR
        rename World => w9
        go_upto_region 9 with fail
        go_cut [10, 11] (fun v10 v wx => v10 = .bool (behindQ rng q col tt) ∧ v = .bool (!behindQ rng q col tt && goneQ q tt) ∧ RfAt w q s t col tt sa R wx)
        case first =>
          cases hbq : behindQ rng q col tt
          case true =>
            go_wp2
            go_meet
            case rel => exact ⟨by rw [hbq], by rw [hbq]; rfl, HR9.out⟩
          case false =>
            have s10 := HR9.out.q.cell (j := 10) rfl
            cases hsn : q.snap
            · have hg : goneQ q tt = false := by unfold goneQ; rw [hsn]; rfl
              rw [hsn] at s10
              go_wp2
              go_meet
              case rel => exact ⟨by rw [hbq], by rw [hbq, hg]; rfl, HR9.out⟩
            · rw [hsn] at s10
              have hg : goneQ q tt = !coversC tt q.mark := by unfold goneQ; rw [hsn]; rfl
              have x0 := HR9.out.t.cell (j := 0) rfl
              have x1 := HR9.out.t.cell (j := 1) rfl
              have x2 := HR9.out.t.cell (j := 2) rfl
              have m0 := HR9.out.q.cell (j := 20) rfl
              have m1 := HR9.out.q.cell (j := 21) rfl
              have m2 := HR9.out.q.cell (j := 22) rfl
              go_wp2_with fail
              refine (coversC_any tt q.mark w9).mono ?_
              rintro x w' ⟨rfl, hbw⟩
              have HN : Hid (RfAt w q s t col tt sa R w') := HR9.out.below hbw
              clear hbw
              cases hcg : coversC tt q.mark
              · go_wp2
                go_meet
                case rel => exact ⟨by rw [hbq], by rw [hbq, hg, hcg]; rfl, HN.out⟩
              · go_wp2
                go_meet
                case rel => exact ⟨by rw [hbq], by rw [hbq, hg, hcg]; rfl, HN.out⟩
        case rest =>
          obtain ⟨rfl, rfl, hR1⟩ := hcut
          have HRX := Lib.hid hR1
          clear hR1 HR9
          rename World => wx
          have HAX := Lib.hid HRX.out.a
          have HBX := Lib.hid HRX.out.b
          cases hbq : behindQ rng q col tt
          case true =>
            obtain rfl : R = ⟨91, false, ent0, col0⟩ := by rw [HRV.out, hbq]; rfl
            have e1 : ∀ W, (binOp .eql 42 (.agg (ansCells ⟨91, false, ent0, col0⟩).toArray) (.agg #[.int .i64 91, .bool false, .int .i64 0, .int .i64 0, .int .i64 0, .int .i64 0, .int .i64 0, .int .i64 0, .string ⟨#[]⟩, .string ⟨#[]⟩, .bool false, .int .i64 0, .int .i64 0, .int .i64 0, .int .i64 0, .int .i64 0, .int .i64 0, .int .i64 0, .int .i64 0, .int .i64 0, .int .i64 0, .int .i64 0, .int .i64 0, .int .i64 0, .int .i64 0])).run Try.prog W = .ok (.bool true) W := fun W => (eql_ans ⟨91, false, ent0, col0⟩ ⟨91, false, ent0, col0⟩ W).trans (by rw [eqAns_iff.2 rfl])
            go_wp2_with ((with_reducible refine Mem.load_aggG _ _ answer_agg sa 0 (ansCells ⟨91, false, ent0, col0⟩) ?hwa ?hxa (ansCells_length _) (fun j u hu => by rw [Nat.zero_add]; exact HAX.out.cell hu) ?_); ((case hwa => rfl); (case hxa => exact rfl)))
            go_ret
            exact ⟨rfl, HBX.out⟩
          case false =>
            cases hgq : goneQ q tt
            case true =>
              obtain rfl : R = ⟨60, false, ent0, col0⟩ := by rw [HRV.out, hbq, hgq]; rfl
              have e1 : ∀ W, (binOp .eql 42 (.agg (ansCells ⟨60, false, ent0, col0⟩).toArray) (.agg #[.int .i64 60, .bool false, .int .i64 0, .int .i64 0, .int .i64 0, .int .i64 0, .int .i64 0, .int .i64 0, .string ⟨#[]⟩, .string ⟨#[]⟩, .bool false, .int .i64 0, .int .i64 0, .int .i64 0, .int .i64 0, .int .i64 0, .int .i64 0, .int .i64 0, .int .i64 0, .int .i64 0, .int .i64 0, .int .i64 0, .int .i64 0, .int .i64 0, .int .i64 0])).run Try.prog W = .ok (.bool true) W := fun W => (eql_ans ⟨60, false, ent0, col0⟩ ⟨60, false, ent0, col0⟩ W).trans (by rw [eqAns_iff.2 rfl])
              go_wp2_with ((with_reducible refine Mem.load_aggG _ _ answer_agg sa 0 (ansCells ⟨60, false, ent0, col0⟩) ?hwb ?hxb (ansCells_length _) (fun j u hu => by rw [Nat.zero_add]; exact HAX.out.cell hu) ?_); ((case hwb => rfl); (case hxb => exact rfl)))
              go_ret
              exact ⟨rfl, HBX.out⟩
            case false =>
              obtain ⟨⟨m, f⟩, hmf⟩ : ∃ mf, greatest q.key (seenL rng q tt es) = mf := ⟨_, rfl⟩
              have HG := Lib.hid (hmf ▸ ginv q.key (seenL rng q tt es) : GInv q.key (seenL rng q tt es) (m, f))
              obtain rfl : R = ⟨0, f, m, col⟩ := by rw [HRV.out, hbq, hgq, hmf]; rfl
              clear hmf
              have k0 := HAX.out.cell (j := 0) rfl
              have k1 := HAX.out.cell (j := 1) rfl
              have k2 := HAX.out.cell (j := 22) rfl
              have k3 := HAX.out.cell (j := 23) rfl
              have k4 := HAX.out.cell (j := 24) rfl
              have y0 := HRX.out.c.cell (j := 0) rfl
              have y1 := HRX.out.c.cell (j := 1) rfl
              have y2 := HRX.out.c.cell (j := 2) rfl
              have e3 : ∀ W, (binOp .eql 37 (.agg #[.int .i64 col.a, .int .i64 col.b, .int .i64 col.c]) (.agg #[.int .i64 col.a, .int .i64 col.b, .int .i64 col.c])).run Try.prog W = .ok (.bool true) W := fun W => (eql_col col col W).trans (by rw [eqCol_iff.2 rfl])
              cases f
              · obtain rfl : m = ent0 := (HG.out.no rfl).1
                have e1 : ∀ W, (binOp .eql 33 (.agg (entCells ent0).toArray) (.agg #[.int .i64 0, .int .i64 0, .int .i64 0, .int .i64 0, .int .i64 0, .int .i64 0, .string ⟨#[]⟩, .string ⟨#[]⟩, .bool false, .int .i64 0, .int .i64 0, .int .i64 0, .int .i64 0, .int .i64 0, .int .i64 0, .int .i64 0, .int .i64 0, .int .i64 0, .int .i64 0, .int .i64 0])).run Try.prog W = .ok (.bool true) W := fun W => (eql_ent ent0 ent0 W).trans (by rw [eqEnt_iff.2 rfl])
                go_wp2_with ((with_reducible refine Mem.load_aggG _ _ entry_agg sa 2 (entCells ent0) ?hwe ?hxe (entCells_length _) (HAX.out.part 2 rfl) ?_); ((case hwe => rfl); (case hxe => exact rfl)))
                go_ret
                exact ⟨rfl, HBX.out⟩
              · go_wp2
                go_ret
                exact ⟨rfl, HBX.out⟩
set_option maxRecDepth 20000 in
theorem opened {H : Type} (enc : TypeId × Value → H) (W : World) (base : Nat) (v0 v1 v2 : Value) {d0 d1 d2 : DataW H} {p0 p1 p2 : List MemPlace}
    (o0 : Value.okWide Try.prog W .any base 3 v0) (o1 : Value.okWide Try.prog W .any base 39 v1) (o2 : Value.okWide Try.prog W .any base 22 v2)
    (k0 : DataW.Trod enc Try.prog W 0 (fun _ => true) true 3 v0 d0 p0) (k1 : DataW.Trod enc Try.prog W 0 (fun _ => true) true 39 v1 d1 p1) (k2 : DataW.Trod enc Try.prog W 0 (fun _ => true) true 22 v2 d2 p2)
    (z0 : (d0.weights Try.prog 3).all (· ≤ reachBytes) = true) (z1 : (d1.weights Try.prog 39).all (· ≤ reachBytes) = true) (z2 : (d2.weights Try.prog 22).all (· ≤ reachBytes) = true) :
    Calls Try.prog 4 #[v0, v1, v2] W fun e w' => e = .returned (.bool true) ∧ Below W.heap.size W w' := by
  obtain ⟨n, rfl, _⟩ := open_num o0 k0
  obtain ⟨q, rfl, hq⟩ := open_query o1 k1 z1
  obtain ⟨A, c, es, rfl, h1, h2, h3, h4⟩ := open_ents o2 k2 z2
  exact walk n q A c es W h3 (by omega) h4 hq
end serveRefusesOpen
end Go.Proofs.Ytiibgkgbghganaa
