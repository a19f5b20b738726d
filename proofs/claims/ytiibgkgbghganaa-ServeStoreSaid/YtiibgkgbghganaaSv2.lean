/- The walk of serve.Read: what it computes. No conditions. -/
import Derived.Test.YtiibgkgbghganaaSv1
import Derived.Test.YtiibgkgbghganaaAgg2
import Derived.Test.YtiibgkgbghganaaSvP
namespace Go.Proofs.Ytiibgkgbghganaa
open Go.ChangeShapes Go.WideShapes Go.ChangeAt Go.RowKit
set_option linter.unusedVariables false
set_option linter.unusedSimpArgs false

namespace Vec
/-- what stands in Read's variables -/
structure RdAt (w : World) (q : Qy) (s t : Nat) (col at' : Col) (wx : World) : Prop where
  q : QBx wx w.heap.size q
  a : ABx wx (w.heap.size + 1) ans0
  c : CBx wx s col
  t : CBx wx t at'
  b : Below w.heap.size w wx
theorem RdAt.below {w : World} {q : Qy} {s t : Nat} {col at' : Col} {w1 w2 : World} (h : RdAt w q s t col at' w1) (hb : Below w1.heap.size w1 w2) : RdAt w q s t col at' w2 :=
  ⟨h.q.below hb h.q.lt, h.a.below hb h.a.lt, h.c.below hb h.c.lt, h.t.below hb h.t.lt, h.b.trans (hb.mono h.b.size)⟩
structure RdMid (w : World) (q : Qy) (col at' : Col) (v7 v8 : Value) (wx : World) : Prop where
  out : ∃ s t, v7 = .pointer (some ⟨s, 0, none⟩) ∧ v8 = .pointer (some ⟨t, 0, none⟩) ∧ w.heap.size + 1 < s ∧ w.heap.size + 1 < t ∧ RdAt w q s t col at' wx
theorem seenL_snoc (rng : Int) (q : Qy) (at' : Col) (es : List Ent) (e : Ent) : seenL rng q at' (es ++ [e]) = seenL rng q at' es ++ (if seenE rng q at' e then [e] else []) := by
  unfold seenL
  rw [List.filter_append]
  congr 1
  simp only [List.filter_cons, List.filter_nil]
theorem seenL_len (rng : Int) (q : Qy) (at' : Col) (es : List Ent) : (seenL rng q at' es).length ≤ es.length := List.length_filter_le _ _
structure RdRel (w : World) (w4 : World) (rng : Int) (q : Qy) (at' : Col) (es : List Ent) (v9 vi : Value) (wr : World) : Prop where
  out : ∃ (k : Nat) (A2 : Option Addr) (c2 : Nat), k ≤ es.length ∧ v9 = .slice A2 (seenL rng q at' (es.take k)).length c2 ∧ vi = .int .i64 k ∧ Hid (Mem.Own wr 33 20 A2 (seenL rng q at' (es.take k)).length c2 ((seenL rng q at' (es.take k)).flatMap entCells)) ∧ Hid (Mem.From w4.heap.size A2) ∧ Hid (Below w4.heap.size w4 wr)
end Vec
open Vec in
set_option maxRecDepth 8000 in
set_option maxHeartbeats 8000000 in
theorem read_any (rng : Int) (q : Vec.Qy) (A : Option Addr) (c : Nat) (es : List Vec.Ent) (B : Nat) (w : World) (hr : Mem.Rd w B A (es.flatMap Vec.entCells)) (hB : B ≤ w.heap.size) (hn : es.length ≤ 1000000) :
    Calls Try.prog 11 #[.int .i64 rng, .agg (Vec.qyCells q).toArray, .slice A es.length c] w fun e w' => e = .returned (.agg (Vec.ansCells (Vec.read rng q es)).toArray) ∧ Below w.heap.size w w' := by
  have hm := Lib.hid (hr.more hB)
  clear hr
  go_enter Try.func11, Try.ntmps11
  go_upto_region 1 with fail
  obtain ⟨w1, hw1⟩ : ∃ w1, (w.alloc (.cells (qyCells q).toArray 39)).alloc (.cells (ansCells ans0).toArray 42) = w1 := ⟨_, rfl⟩
  have HQ : Hid (QBx w1 w.heap.size q) := by
    show QBx _ _ _; rw [← hw1]
    exact (Mem.Bx.new w 39 (qyCells q).toArray rfl rfl).below (Reg.below_new _ _) (by simp)
  have HA0 : Hid (ABx w1 (w.heap.size + 1) ans0) := by
    show ABx _ _ _; rw [← hw1]
    exact Mem.Bx.new (w.alloc _) 42 (ansCells ans0).toArray rfl (by simp)
  have HB1 : Hid (Below w.heap.size w w1) := by
    show Below _ _ _; rw [← hw1]
    exact (Reg.below_new _ _).alloc (by simp) _
  have hz1 : w.heap.size + 1 < w1.heap.size := HA0.out.lt
  change Code.wp _ _ _ _ ((w.alloc (.cells (qyCells q).toArray 39)).alloc (.cells (ansCells ans0).toArray 42))
  rw [hw1]
  clear hw1
  go_cut [7, 8] (fun v7 v8 wx => RdMid w q (column rng es) (Vec.part q.at rng) v7 v8 wx)
  case first =>
    refine Reg.wp_region_z (by kernel_rfl) 89 11 rfl rfl (by kernel_rfl) 7 8 (by decide) (9) (fun y => w1.heap.size ≤ y) (10) (fun y => w1.heap.size ≤ y) (0) (fun _ => False)
      (fun i f v u => match i with
        | 0 => v = .int .i64 rng
        | 1 => v = .slice A es.length c
        | 2 => v = Vec.C (column rng es)
        | 3 => v = .pointer (some ⟨w.heap.size, 11, none⟩)
        | 4 => v = Vec.V q.at
        | 5 => v = .int .i64 rng
        | 6 => v = Vec.C (Vec.part q.at rng)
        | 7 => ∃ s, v = .pointer (some ⟨s, 0, none⟩) ∧ w1.heap.size ≤ s ∧ CBx u s col0
        | 8 => ∃ s, v = .pointer (some ⟨s, 0, none⟩) ∧ w1.heap.size ≤ s ∧ CBx u s col0
        | 9 => ∃ s t, f 7 = .pointer (some ⟨s, 0, none⟩) ∧ f 8 = .pointer (some ⟨t, 0, none⟩) ∧ s ≠ t ∧ w1.heap.size ≤ s ∧ w1.heap.size ≤ t ∧ CBx u s (column rng es) ∧ CBx u t col0
        | 10 => ∃ s t, f 7 = .pointer (some ⟨s, 0, none⟩) ∧ f 8 = .pointer (some ⟨t, 0, none⟩) ∧ s ≠ t ∧ w1.heap.size ≤ s ∧ w1.heap.size ≤ t ∧ CBx u s (column rng es) ∧ CBx u t (Vec.part q.at rng)
        | _ => True) ?_ ?_
    · refine Reg.StepsZ.cons ?_ (Reg.StepsZ.cons ?_ (Reg.StepsZ.cons ?_ (Reg.StepsZ.cons ?_ (Reg.StepsZ.cons ?_ (Reg.StepsZ.cons ?_ (Reg.StepsZ.cons ?_ (Reg.StepsZ.cons ?_ (Reg.StepsZ.cons ?_ (Reg.StepsZ.cons ?_ (Reg.StepsZ.cons ?_ (Reg.StepsZ.nil _)))))))))))
      · intro val ac u hR hp hpq ha K hK0      -- 0: t13 := Op.move t0
        have hK := fun v w' h1 h2 => hK0 v w' h1 h2 (fun j f v' h _ => by omega)
        have e0 : (ac.tmps[0]?).getD undef = .int .i64 rng := ha 0 (by decide)
        clear ha hp
        refine Reg.Op1.plain rfl ?_
        go_wp2
        exact ⟨rfl, hK _ _ rfl (Reg.Wr.same _)⟩
      · intro val ac u hR hp hpq ha K hK0      -- 1: t14 := Op.move t2
        have hK := fun v w' h1 h2 => hK0 v w' h1 h2 (fun j f v' h _ => by omega)
        have e2 : (ac.tmps[2]?).getD undef = .slice A es.length c := ha 2 (by decide)
        clear ha hp
        refine Reg.Op1.plain rfl ?_
        go_wp2
        exact ⟨rfl, hK _ _ rfl (Reg.Wr.same _)⟩
      · intro val ac u hR hp hpq ha K hK0      -- 2: t15 := Op.call { value (Operand.func 12), args := #[t13, t14], argTypes := #[3, 22] }
        have hK := fun v w' h1 h2 => hK0 v w' h1 h2 (fun j f v' h _ => by omega)
        obtain ⟨w13, h13, r13⟩ := hp 0 (by decide)
        have e13 : (ac.tmps[13]?).getD undef = .int .i64 rng := (ha 13 (by decide)).trans h13
        clear h13
        obtain ⟨w14, h14, r14⟩ := hp 1 (by decide)
        have e14 : (ac.tmps[14]?).getD undef = .slice A es.length c := (ha 14 (by decide)).trans h14
        clear h14
        clear ha hp
        refine Reg.Op1.plain rfl ?_
        have hq : Mem.Keeps (fun _ => False) w1 u := (Mem.Keeps.refl (fun _ => False) w1).drew.trans (Reg.Wr.only3 hR (by decide +kernel) (by decide +kernel)) (fun _ h _ => h)
        have hbu := HB1.out.trans (hq.below (B := w.heap.size) (fun k h => h.elim) (by omega))
        go_wp2_with fail
        refine (column_any rng A c es w.heap.size u (hm.out.below hbu) hbu.size (by unfold maxLen; omega)).mono ?_
        rintro x w' ⟨rfl, hbw⟩
        go_wp2_with fail
        exact ⟨rfl, hK _ _ rfl (Reg.Wr.below hbw)⟩
      · intro val ac u hR hp hpq ha K hK0      -- 3: t16 := Op.fieldAddr 39 t4 3
        have hK := fun v w' h1 h2 => hK0 v w' h1 h2 (fun j f v' h _ => by omega)
        have e4 : (ac.tmps[4]?).getD undef = .pointer (some ⟨w.heap.size, 0, none⟩) := ha 4 (by decide)
        clear ha hp
        refine Reg.Op1.plain rfl ?_
        go_wp2
        exact ⟨rfl, hK _ _ rfl (Reg.Wr.same _)⟩
      · intro val ac u hR hp hpq ha K hK0      -- 4: t17 := Op.load 31 t16
        have hK := fun v w' h1 h2 => hK0 v w' h1 h2 (fun j f v' h _ => by omega)
        obtain ⟨w16, h16, r16⟩ := hp 3 (by decide)
        have e16 : (ac.tmps[16]?).getD undef = .pointer (some ⟨w.heap.size, 11, none⟩) := (ha 16 (by decide)).trans h16
        clear h16
        clear ha hp
        refine Reg.Op1.plain rfl ?_
        have hq : Mem.Keeps (fun _ => False) w1 u := (Mem.Keeps.refl (fun _ => False) w1).drew.trans (Reg.Wr.only3 hR (by decide +kernel) (by decide +kernel)) (fun _ h _ => h)
        have hQu := HQ.out.keeps hq id
        have x0 := hQu.cell (j := 11) rfl
        have x1 := hQu.cell (j := 12) rfl
        have x2 := hQu.cell (j := 13) rfl
        have x3 := hQu.cell (j := 14) rfl
        have x4 := hQu.cell (j := 15) rfl
        have x5 := hQu.cell (j := 16) rfl
        have x6 := hQu.cell (j := 17) rfl
        have x7 := hQu.cell (j := 18) rfl
        have x8 := hQu.cell (j := 19) rfl
        clear hQu hq
        go_wp2
        exact ⟨rfl, hK _ _ rfl (Reg.Wr.same _)⟩
      · intro val ac u hR hp hpq ha K hK0      -- 5: t18 := Op.move t0
        have hK := fun v w' h1 h2 => hK0 v w' h1 h2 (fun j f v' h _ => by omega)
        have e0 : (ac.tmps[0]?).getD undef = .int .i64 rng := ha 0 (by decide)
        clear ha hp
        refine Reg.Op1.plain rfl ?_
        go_wp2
        exact ⟨rfl, hK _ _ rfl (Reg.Wr.same _)⟩
      · intro val ac u hR hp hpq ha K hK0      -- 6: t19 := Op.call { value (Operand.func 13), args := #[t17, t18], argTypes := #[31, 3] }
        have hK := fun v w' h1 h2 => hK0 v w' h1 h2 (fun j f v' h _ => by omega)
        obtain ⟨w17, h17, r17⟩ := hp 4 (by decide)
        have e17 : (ac.tmps[17]?).getD undef = Vec.V q.at := (ha 17 (by decide)).trans h17
        clear h17
        obtain ⟨w18, h18, r18⟩ := hp 5 (by decide)
        have e18 : (ac.tmps[18]?).getD undef = .int .i64 rng := (ha 18 (by decide)).trans h18
        clear h18
        clear ha hp
        refine Reg.Op1.plain rfl ?_
        go_wp2_with fail
        refine (part_any q.at rng u).mono ?_
        rintro x w' ⟨rfl, hbw⟩
        go_wp2_with fail
        exact ⟨rfl, hK _ _ rfl (Reg.Wr.below hbw)⟩
      · intro val ac u hR hp hpq ha K hK0      -- 7: t7 := Op.alloc 37
        have hK := hK0
        clear ha hp
        refine Reg.Op1.plain rfl ?_
        have hbu : w1.heap.size ≤ u.heap.size := (Reg.Wr.all hR).size
        go_wp2
        refine ⟨rfl, hK _ _ ⟨u.heap.size, rfl, hbu, Mem.Bx.new u 37 (colCells col0).toArray rfl rfl⟩ (Reg.Wr.below (Reg.below_new _ _)) (fun j f v' hij hh e => ?_)⟩
        obtain rfl : j = 8 := by omega
        obtain ⟨wj, ⟨s', h1, h2, h3⟩, hr8⟩ := hh
        have h4 := (Reg.Wr.all hr8).size
        have h5 := h3.lt
        rw [h1] at e
        cases e
        omega
      · intro val ac u hR hp hpq ha K hK0      -- 8: t8 := Op.alloc 37
        have hK := hK0
        clear ha hp
        refine Reg.Op1.plain rfl ?_
        have hbu : w1.heap.size ≤ u.heap.size := (Reg.Wr.all hR).size
        go_wp2
        refine ⟨rfl, hK _ _ ⟨u.heap.size, rfl, hbu, Mem.Bx.new u 37 (colCells col0).toArray rfl rfl⟩ (Reg.Wr.below (Reg.below_new _ _)) (fun j f v' hij hh e => ?_)⟩
        obtain rfl : j = 7 := by omega
        obtain ⟨wj, ⟨s', h1, h2, h3⟩, hr8⟩ := hh
        have h4 := (Reg.Wr.all hr8).size
        have h5 := h3.lt
        rw [h1] at e
        cases e
        omega
      · intro val ac u hR hp hpq ha K hK0      -- 9: Op.store 37 t7 t15
        have hK := fun v w' h1 h2 => hK0 v w' h1 h2 (fun j f v' h _ => by omega)
        obtain ⟨w7, h7, r7⟩ := hp 7 (by decide)
        have e7 : (ac.tmps[7]?).getD undef = val 7 := ha 7 (by decide)
        obtain ⟨w15, h15, r15⟩ := hp 2 (by decide)
        have e15 : (ac.tmps[15]?).getD undef = Vec.C (column rng es) := (ha 15 (by decide)).trans h15
        clear h15
        obtain ⟨w8, h8, r8⟩ := hp 8 (by decide)
        clear ha hp
        refine Reg.Op1.plain rfl ?_
        obtain ⟨s, hv, hs, hbx⟩ := h7
        obtain ⟨s8, hv8, hs8, hbx8⟩ := h8
        have hne := hpq (by decide) (by decide)
        have hv7 := hv
        rw [hv] at e7
        rw [hv, hv8] at hne
        have hne' : s ≠ s8 := fun e => hne (by rw [e])
        have hb2 : CBx u s col0 := hbx.keeps (Reg.Wr.only3 r7 (by decide +kernel) (by decide +kernel)) id
        have hb8 : CBx u s8 col0 := hbx8.keeps (Reg.Wr.only3 r8 (by decide +kernel) (by decide +kernel)) id
        have x0 := hb2.cell (j := 0) rfl
        have x1 := hb2.cell (j := 1) rfl
        have x2 := hb2.cell (j := 2) rfl
        have xf := hb2.fr
        go_wp2
        exact ⟨rfl, hK undef _ ⟨s, s8, hv7, hv8, hne', hs, hs8, ((hb2.set 0 _).set 1 _).set 2 _, ((hb8.keep hne'.symm _ _).keep hne'.symm _ _).keep hne'.symm _ _⟩ (Reg.Wr.does1 ((((Mem.Keeps.refl (fun y => w1.heap.size ≤ y) u).setCell (fun _ => hs) _).setCell (fun _ => hs) _).setCell (fun _ => hs) _))⟩
      · intro val ac u hR hp hpq ha K hK0      -- 10: Op.store 37 t8 t19
        have hK := fun v w' h1 h2 => hK0 v w' h1 h2 (fun j f v' h _ => by omega)
        obtain ⟨w8, h8, r8⟩ := hp 8 (by decide)
        have e8 : (ac.tmps[8]?).getD undef = val 8 := ha 8 (by decide)
        obtain ⟨w19, h19, r19⟩ := hp 6 (by decide)
        have e19 : (ac.tmps[19]?).getD undef = Vec.C (Vec.part q.at rng) := (ha 19 (by decide)).trans h19
        clear h19
        obtain ⟨w7, h7, r7⟩ := hp 7 (by decide)
        obtain ⟨w_9, h_9, r_9⟩ := hp 9 (by decide)
        clear ha hp
        refine Reg.Op1.plain rfl ?_
        obtain ⟨s, t, hv7, hv8, hne, hs, ht, hb1, hb2⟩ := h_9
        have hv7 : val 7 = .pointer (some ⟨s, 0, none⟩) := hv7
        have hv8 : val 8 = .pointer (some ⟨t, 0, none⟩) := hv8
        rw [hv8] at e8
        have hb2 : CBx u t col0 := hb2.keeps (Reg.Wr.only3 r_9 (by decide +kernel) (by decide +kernel)) id
        have hb1 : CBx u s (column rng es) := hb1.keeps (Reg.Wr.only3 r_9 (by decide +kernel) (by decide +kernel)) id
        have x0 := hb2.cell (j := 0) rfl
        have x1 := hb2.cell (j := 1) rfl
        have x2 := hb2.cell (j := 2) rfl
        have xf := hb2.fr
        go_wp2
        exact ⟨rfl, hK undef _ ⟨s, t, hv7, hv8, hne, hs, ht, ((hb1.keep hne _ _).keep hne _ _).keep hne _ _, ((hb2.set 0 _).set 1 _).set 2 _⟩ (Reg.Wr.does2 ((((Mem.Keeps.refl (fun y => w1.heap.size ≤ y) u).setCell (fun _ => ht) _).setCell (fun _ => ht) _).setCell (fun _ => ht) _))⟩
    · intro val u hR H hZ
      obtain ⟨wA, ⟨s, t, hv7, hv8, hne, hs, ht, hb1, hb2⟩, rA⟩ := H 10 (by decide)
      have hv7 : val 7 = .pointer (some ⟨s, 0, none⟩) := hv7
      have hv8 : val 8 = .pointer (some ⟨t, 0, none⟩) := hv8
      have hkA := Reg.Wr.only3 rA (by decide +kernel) (by decide +kernel)
      have hq : Mem.Keeps (fun y => w1.heap.size ≤ y ∨ w1.heap.size ≤ y ∨ False) w1 u := (Mem.Keeps.refl (fun y => w1.heap.size ≤ y ∨ w1.heap.size ≤ y ∨ False) w1).drew.trans (Reg.Wr.all hR) (fun _ h _ => h)
      have hn1 : ∀ y, y < w1.heap.size → ¬ (w1.heap.size ≤ y ∨ w1.heap.size ≤ y ∨ False) := fun y hy h => by rcases h with h | h | h <;> first | omega | exact h
      have HM : Hid (RdMid w q (column rng es) (Vec.part q.at rng) (val 7) (val 8) u) := ⟨⟨s, t, hv7, hv8, by omega, by omega, ⟨HQ.out.keeps hq (hn1 _ (by omega)), HA0.out.keeps hq (hn1 _ hz1), hb1.keeps hkA id, hb2.keeps hkA id, HB1.out.trans (hq.below (B := w.heap.size) (fun y h => by rcases h with h | h | h <;> first | omega | exact h.elim) (by omega))⟩⟩⟩
      simp only [List.map_cons, List.map_nil, Reg.lay, Act.put, List.setIfInBounds_toArray, List.set_cons_succ, List.set_cons_zero, Nat.reduceAdd]
      clear hR H hq hkA hb1 hb2 rA hv7 hv8 hn1
      go_wp2
      go_meet
      case rel => exact HM.out
  case rest =>
    obtain ⟨s, t, rfl, rfl, hs1, ht1, hR1⟩ := hcut.out
    obtain ⟨col, hcol⟩ : ∃ col, column rng es = col := ⟨_, rfl⟩
    obtain ⟨tt, htt⟩ : ∃ tt, Vec.part q.at rng = tt := ⟨_, rfl⟩
    rw [hcol, htt] at hR1
    have HR := Lib.hid hR1
    have HCOL := Lib.hid hcol
    have HTT := Lib.hid htt
    clear hR1 hcut HQ HA0 HB1 hz1 hcol htt
    rename World => w2
    go_upto_region 2 with fail
    go_cut [20] (fun v wx => v = .bool (behindQ rng q col tt) ∧ RdAt w q s t col tt wx)
    case first =>
      cases hc : coversC col (Vec.part q.cover rng)
      · have hbq : behindQ rng q col tt = true := by unfold behindQ; rw [hc]; rfl
        refine Reg.wp_region_rel (by kernel_rfl) 89 18 rfl rfl (by kernel_rfl) (Reg.Adds) (Reg.Adds.refl) (Reg.Adds.trans)
          (fun i v u => match i with
            | 0 => v = Vec.C col
            | 1 => v = .pointer (some ⟨w.heap.size, 1, none⟩)
            | 2 => v = Vec.V q.cover
            | 3 => v = .int .i64 rng
            | 4 => v = Vec.C (Vec.part q.cover rng)
            | 5 => v = .bool false
            | 6 => v = .bool true
            | 7 => v = .bool true
            | 8 => v = undef
            | 9 => v = undef
            | 10 => v = undef
            | 11 => v = undef
            | 12 => v = undef
            | 13 => v = undef
            | 14 => v = undef
            | 15 => v = undef
            | 16 => v = .bool true
            | 17 => v = .bool true
            | _ => True) ?_ ?_
        · refine Reg.Steps.cons ?_ (Reg.Steps.cons ?_ (Reg.Steps.cons ?_ (Reg.Steps.cons ?_ (Reg.Steps.cons ?_ (Reg.Steps.cons ?_ (Reg.Steps.cons ?_ (Reg.Steps.cons ?_ (Reg.Steps.cons ?_ (Reg.Steps.cons ?_ (Reg.Steps.cons ?_ (Reg.Steps.cons ?_ (Reg.Steps.cons ?_ (Reg.Steps.cons ?_ (Reg.Steps.cons ?_ (Reg.Steps.cons ?_ (Reg.Steps.cons ?_ (Reg.Steps.cons ?_ (Reg.Steps.nil _))))))))))))))))))
          · intro val ac u hR hp ha K hK      -- 0: t21 := Op.load 37 t7
            have e7 : (ac.tmps[7]?).getD undef = .pointer (some ⟨s, 0, none⟩) := ha 7 (by decide)
            clear ha hp
            refine Reg.Op1.plain rfl ?_
            have x0 := (hR.cell (p := ⟨s, 0, none⟩) HR.out.c.lt).trans (HR.out.c.cell (j := 0) rfl)
            have x1 := (hR.cell (p := ⟨s, 1, none⟩) HR.out.c.lt).trans (HR.out.c.cell (j := 1) rfl)
            have x2 := (hR.cell (p := ⟨s, 2, none⟩) HR.out.c.lt).trans (HR.out.c.cell (j := 2) rfl)
            go_wp2
            exact ⟨rfl, hK _ _ rfl (fun j k _ _ => Reg.Adds.refl _ _ _)⟩
          · intro val ac u hR hp ha K hK      -- 1: t22 := Op.fieldAddr 39 t4 1
            have e4 : (ac.tmps[4]?).getD undef = .pointer (some ⟨w.heap.size, 0, none⟩) := ha 4 (by decide)
            clear ha hp
            refine Reg.Op1.plain rfl ?_
            go_wp2
            exact ⟨rfl, hK _ _ rfl (fun j k _ _ => Reg.Adds.refl _ _ _)⟩
          · intro val ac u hR hp ha K hK      -- 2: t23 := Op.load 31 t22
            obtain ⟨w22, h22, r22⟩ := hp 1 (by decide)
            have e22 : (ac.tmps[22]?).getD undef = .pointer (some ⟨w.heap.size, 1, none⟩) := (ha 22 (by decide)).trans h22
            clear h22
            clear ha hp
            refine Reg.Op1.plain rfl ?_
            have hQu : QBx u w.heap.size q := Mem.Bx.below (w := w2.drew) HR.out.q hR HR.out.q.lt
            have x0 := hQu.cell (j := 1) rfl
            have x1 := hQu.cell (j := 2) rfl
            have x2 := hQu.cell (j := 3) rfl
            have x3 := hQu.cell (j := 4) rfl
            have x4 := hQu.cell (j := 5) rfl
            have x5 := hQu.cell (j := 6) rfl
            have x6 := hQu.cell (j := 7) rfl
            have x7 := hQu.cell (j := 8) rfl
            have x8 := hQu.cell (j := 9) rfl
            clear hQu
            go_wp2
            exact ⟨rfl, hK _ _ rfl (fun j k _ _ => Reg.Adds.refl _ _ _)⟩
          · intro val ac u hR hp ha K hK      -- 3: t24 := Op.move t0
            have e0 : (ac.tmps[0]?).getD undef = .int .i64 rng := ha 0 (by decide)
            clear ha hp
            refine Reg.Op1.plain rfl ?_
            go_wp2
            exact ⟨rfl, hK _ _ rfl (fun j k _ _ => Reg.Adds.refl _ _ _)⟩
          · intro val ac u hR hp ha K hK      -- 4: t25 := Op.call { value (Operand.func 13), args := #[t23, t24], argTypes := #[31, 3] }
            obtain ⟨w23, h23, r23⟩ := hp 2 (by decide)
            have e23 : (ac.tmps[23]?).getD undef = Vec.V q.cover := (ha 23 (by decide)).trans h23
            clear h23
            obtain ⟨w24, h24, r24⟩ := hp 3 (by decide)
            have e24 : (ac.tmps[24]?).getD undef = .int .i64 rng := (ha 24 (by decide)).trans h24
            clear h24
            clear ha hp
            refine Reg.Op1.plain rfl ?_
            go_wp2_with fail
            refine (part_any q.cover rng u).mono ?_
            rintro x w' ⟨rfl, hbw⟩
            go_wp2_with fail
            exact ⟨rfl, hK _ _ rfl (fun j k _ _ => hbw)⟩
          · intro val ac u hR hp ha K hK      -- 5: t26 := Op.call { value (Operand.func 14), args := #[t21, t25], argTypes := #[37, 37] }
            obtain ⟨w21, h21, r21⟩ := hp 0 (by decide)
            have e21 : (ac.tmps[21]?).getD undef = Vec.C col := (ha 21 (by decide)).trans h21
            clear h21
            obtain ⟨w25, h25, r25⟩ := hp 4 (by decide)
            have e25 : (ac.tmps[25]?).getD undef = Vec.C (Vec.part q.cover rng) := (ha 25 (by decide)).trans h25
            clear h25
            clear ha hp
            refine Reg.Op1.plain rfl ?_
            go_wp2_with fail
            refine (coversC_any col (Vec.part q.cover rng) u).mono ?_
            rintro x w' ⟨rfl, hbw⟩
            rw [hc]
            go_wp2_with fail
            exact ⟨rfl, hK _ _ rfl (fun j k _ _ => hbw)⟩
          · intro val ac u hR hp ha K hK      -- 6: t27 := Op.unOp UnOp.not 4 t26
            obtain ⟨w26, h26, r26⟩ := hp 5 (by decide)
            have e26 : (ac.tmps[26]?).getD undef = .bool false := (ha 26 (by decide)).trans h26
            clear h26
            clear ha hp
            refine Reg.Op1.plain rfl ?_
            go_wp2
            exact ⟨rfl, hK _ _ rfl (fun j k _ _ => Reg.Adds.refl _ _ _)⟩
          · intro val ac u hR hp ha K hK      -- 7: t28 := Op.move t27
            obtain ⟨w27, h27, r27⟩ := hp 6 (by decide)
            have e27 : (ac.tmps[27]?).getD undef = .bool true := (ha 27 (by decide)).trans h27
            clear h27
            clear ha hp
            refine Reg.Op1.plain rfl ?_
            go_wp2
            exact ⟨rfl, hK _ _ rfl (fun j k _ _ => Reg.Adds.refl _ _ _)⟩
          · intro val ac u hR hp ha K hK      -- 8: t29 := Op.fieldAddr 39 t4 2
            obtain ⟨w28, h28, r28⟩ := hp 7 (by decide)
            have e28 : (ac.tmps[28]?).getD undef = .bool true := (ha 28 (by decide)).trans h28
            clear h28
            clear ha hp
            exact Reg.Op1.guarded rfl rfl e28 (fun h => by cases h) (fun _ => hK _ _ rfl (fun j k _ _ => Reg.Adds.refl _ _ _))
          · intro val ac u hR hp ha K hK      -- 9: t30 := Op.load 4 t29
            obtain ⟨w28, h28, r28⟩ := hp 7 (by decide)
            have e28 : (ac.tmps[28]?).getD undef = .bool true := (ha 28 (by decide)).trans h28
            clear h28
            clear ha hp
            exact Reg.Op1.guarded rfl rfl e28 (fun h => by cases h) (fun _ => hK _ _ rfl (fun j k _ _ => Reg.Adds.refl _ _ _))
          · intro val ac u hR hp ha K hK      -- 10: t31 := Op.move t30
            obtain ⟨w28, h28, r28⟩ := hp 7 (by decide)
            have e28 : (ac.tmps[28]?).getD undef = .bool true := (ha 28 (by decide)).trans h28
            clear h28
            clear ha hp
            exact Reg.Op1.guarded rfl rfl e28 (fun h => by cases h) (fun _ => hK _ _ rfl (fun j k _ _ => Reg.Adds.refl _ _ _))
          · intro val ac u hR hp ha K hK      -- 11: t32 := Op.load 37 t7
            obtain ⟨w31, h31, r31⟩ := hp 10 (by decide)
            have e31 : (ac.tmps[31]?).getD undef = undef := (ha 31 (by decide)).trans h31
            clear h31
            clear ha hp
            exact Reg.Op1.passed rfl rfl e31 (hK _ _ rfl (fun j k _ _ => Reg.Adds.refl _ _ _))
          · intro val ac u hR hp ha K hK      -- 12: t33 := Op.load 37 t8
            obtain ⟨w31, h31, r31⟩ := hp 10 (by decide)
            have e31 : (ac.tmps[31]?).getD undef = undef := (ha 31 (by decide)).trans h31
            clear h31
            clear ha hp
            exact Reg.Op1.passed rfl rfl e31 (hK _ _ rfl (fun j k _ _ => Reg.Adds.refl _ _ _))
          · intro val ac u hR hp ha K hK      -- 13: t34 := Op.call { value (Operand.func 14), args := #[t32, t33], argTypes := #[37, 37] }
            obtain ⟨w31, h31, r31⟩ := hp 10 (by decide)
            have e31 : (ac.tmps[31]?).getD undef = undef := (ha 31 (by decide)).trans h31
            clear h31
            clear ha hp
            exact Reg.Op1.passed rfl rfl e31 (hK _ _ rfl (fun j k _ _ => Reg.Adds.refl _ _ _))
          · intro val ac u hR hp ha K hK      -- 14: t35 := Op.unOp UnOp.not 4 t34
            obtain ⟨w31, h31, r31⟩ := hp 10 (by decide)
            have e31 : (ac.tmps[31]?).getD undef = undef := (ha 31 (by decide)).trans h31
            clear h31
            clear ha hp
            exact Reg.Op1.passed rfl rfl e31 (hK _ _ rfl (fun j k _ _ => Reg.Adds.refl _ _ _))
          · intro val ac u hR hp ha K hK      -- 15: t36 := Op.pick t31 t35 (const (Value.bool false))
            obtain ⟨w28, h28, r28⟩ := hp 7 (by decide)
            have e28 : (ac.tmps[28]?).getD undef = .bool true := (ha 28 (by decide)).trans h28
            clear h28
            clear ha hp
            exact Reg.Op1.guarded rfl rfl e28 (fun h => by cases h) (fun _ => hK _ _ rfl (fun j k _ _ => Reg.Adds.refl _ _ _))
          · intro val ac u hR hp ha K hK      -- 16: t37 := Op.pick t28 (const (Value.bool true)) t36
            obtain ⟨w28, h28, r28⟩ := hp 7 (by decide)
            have e28 : (ac.tmps[28]?).getD undef = .bool true := (ha 28 (by decide)).trans h28
            clear h28
            obtain ⟨w36, h36, r36⟩ := hp 15 (by decide)
            have e36 : (ac.tmps[36]?).getD undef = undef := (ha 36 (by decide)).trans h36
            clear h36
            clear ha hp
            refine Reg.Op1.plain rfl ?_
            go_wp2
            exact ⟨rfl, hK _ _ rfl (fun j k _ _ => Reg.Adds.refl _ _ _)⟩
          · intro val ac u hR hp ha K hK      -- 17: t20 := Op.assign t37
            obtain ⟨w37, h37, r37⟩ := hp 16 (by decide)
            have e37 : (ac.tmps[37]?).getD undef = .bool true := (ha 37 (by decide)).trans h37
            clear h37
            clear ha hp
            refine Reg.Op1.plain rfl ?_
            go_wp2
            exact ⟨rfl, hK _ _ rfl (fun j k _ _ => Reg.Adds.refl _ _ _)⟩
        · intro val u hR H
          obtain ⟨_, hv, _⟩ := H 17 (by decide)
          have hv : val 17 = .bool true := hv
          have HN : Hid (RdAt w q s t col tt u) := HR.out.below ((Below.refl _ w2).drew.trans hR)
          simp only [List.map_cons, List.map_nil, Reg.lay, Act.put, List.setIfInBounds_toArray, List.set_cons_succ, List.set_cons_zero, Nat.reduceAdd, hv]
          clear hR H hv
          go_wp2
          go_meet
          case rel => exact ⟨by rw [hbq], HN.out⟩
      · cases hsn : q.snap
        · have hbq : behindQ rng q col tt = false := by unfold behindQ; rw [hc, hsn]; rfl
          refine Reg.wp_region_rel (by kernel_rfl) 89 18 rfl rfl (by kernel_rfl) (Reg.Adds) (Reg.Adds.refl) (Reg.Adds.trans)
            (fun i v u => match i with
              | 0 => v = Vec.C col
              | 1 => v = .pointer (some ⟨w.heap.size, 1, none⟩)
              | 2 => v = Vec.V q.cover
              | 3 => v = .int .i64 rng
              | 4 => v = Vec.C (Vec.part q.cover rng)
              | 5 => v = .bool true
              | 6 => v = .bool false
              | 7 => v = .bool false
              | 8 => v = .pointer (some ⟨w.heap.size, 10, none⟩)
              | 9 => v = .bool false
              | 10 => v = .bool false
              | 11 => v = undef
              | 12 => v = undef
              | 13 => v = undef
              | 14 => v = undef
              | 15 => v = .bool false
              | 16 => v = .bool false
              | 17 => v = .bool false
              | _ => True) ?_ ?_
          · refine Reg.Steps.cons ?_ (Reg.Steps.cons ?_ (Reg.Steps.cons ?_ (Reg.Steps.cons ?_ (Reg.Steps.cons ?_ (Reg.Steps.cons ?_ (Reg.Steps.cons ?_ (Reg.Steps.cons ?_ (Reg.Steps.cons ?_ (Reg.Steps.cons ?_ (Reg.Steps.cons ?_ (Reg.Steps.cons ?_ (Reg.Steps.cons ?_ (Reg.Steps.cons ?_ (Reg.Steps.cons ?_ (Reg.Steps.cons ?_ (Reg.Steps.cons ?_ (Reg.Steps.cons ?_ (Reg.Steps.nil _))))))))))))))))))
            · intro val ac u hR hp ha K hK      -- 0: t21 := Op.load 37 t7
              have e7 : (ac.tmps[7]?).getD undef = .pointer (some ⟨s, 0, none⟩) := ha 7 (by decide)
              clear ha hp
              refine Reg.Op1.plain rfl ?_
              have x0 := (hR.cell (p := ⟨s, 0, none⟩) HR.out.c.lt).trans (HR.out.c.cell (j := 0) rfl)
              have x1 := (hR.cell (p := ⟨s, 1, none⟩) HR.out.c.lt).trans (HR.out.c.cell (j := 1) rfl)
              have x2 := (hR.cell (p := ⟨s, 2, none⟩) HR.out.c.lt).trans (HR.out.c.cell (j := 2) rfl)
              go_wp2
              exact ⟨rfl, hK _ _ rfl (fun j k _ _ => Reg.Adds.refl _ _ _)⟩
            · intro val ac u hR hp ha K hK      -- 1: t22 := Op.fieldAddr 39 t4 1
              have e4 : (ac.tmps[4]?).getD undef = .pointer (some ⟨w.heap.size, 0, none⟩) := ha 4 (by decide)
              clear ha hp
              refine Reg.Op1.plain rfl ?_
              go_wp2
              exact ⟨rfl, hK _ _ rfl (fun j k _ _ => Reg.Adds.refl _ _ _)⟩
            · intro val ac u hR hp ha K hK      -- 2: t23 := Op.load 31 t22
              obtain ⟨w22, h22, r22⟩ := hp 1 (by decide)
              have e22 : (ac.tmps[22]?).getD undef = .pointer (some ⟨w.heap.size, 1, none⟩) := (ha 22 (by decide)).trans h22
              clear h22
              clear ha hp
              refine Reg.Op1.plain rfl ?_
              have hQu : QBx u w.heap.size q := Mem.Bx.below (w := w2.drew) HR.out.q hR HR.out.q.lt
              have x0 := hQu.cell (j := 1) rfl
              have x1 := hQu.cell (j := 2) rfl
              have x2 := hQu.cell (j := 3) rfl
              have x3 := hQu.cell (j := 4) rfl
              have x4 := hQu.cell (j := 5) rfl
              have x5 := hQu.cell (j := 6) rfl
              have x6 := hQu.cell (j := 7) rfl
              have x7 := hQu.cell (j := 8) rfl
              have x8 := hQu.cell (j := 9) rfl
              clear hQu
              go_wp2
              exact ⟨rfl, hK _ _ rfl (fun j k _ _ => Reg.Adds.refl _ _ _)⟩
            · intro val ac u hR hp ha K hK      -- 3: t24 := Op.move t0
              have e0 : (ac.tmps[0]?).getD undef = .int .i64 rng := ha 0 (by decide)
              clear ha hp
              refine Reg.Op1.plain rfl ?_
              go_wp2
              exact ⟨rfl, hK _ _ rfl (fun j k _ _ => Reg.Adds.refl _ _ _)⟩
            · intro val ac u hR hp ha K hK      -- 4: t25 := Op.call { value (Operand.func 13), args := #[t23, t24], argTypes := #[31, 3] }
              obtain ⟨w23, h23, r23⟩ := hp 2 (by decide)
              have e23 : (ac.tmps[23]?).getD undef = Vec.V q.cover := (ha 23 (by decide)).trans h23
              clear h23
              obtain ⟨w24, h24, r24⟩ := hp 3 (by decide)
              have e24 : (ac.tmps[24]?).getD undef = .int .i64 rng := (ha 24 (by decide)).trans h24
              clear h24
              clear ha hp
              refine Reg.Op1.plain rfl ?_
              go_wp2_with fail
              refine (part_any q.cover rng u).mono ?_
              rintro x w' ⟨rfl, hbw⟩
              go_wp2_with fail
              exact ⟨rfl, hK _ _ rfl (fun j k _ _ => hbw)⟩
            · intro val ac u hR hp ha K hK      -- 5: t26 := Op.call { value (Operand.func 14), args := #[t21, t25], argTypes := #[37, 37] }
              obtain ⟨w21, h21, r21⟩ := hp 0 (by decide)
              have e21 : (ac.tmps[21]?).getD undef = Vec.C col := (ha 21 (by decide)).trans h21
              clear h21
              obtain ⟨w25, h25, r25⟩ := hp 4 (by decide)
              have e25 : (ac.tmps[25]?).getD undef = Vec.C (Vec.part q.cover rng) := (ha 25 (by decide)).trans h25
              clear h25
              clear ha hp
              refine Reg.Op1.plain rfl ?_
              go_wp2_with fail
              refine (coversC_any col (Vec.part q.cover rng) u).mono ?_
              rintro x w' ⟨rfl, hbw⟩
              rw [hc]
              go_wp2_with fail
              exact ⟨rfl, hK _ _ rfl (fun j k _ _ => hbw)⟩
            · intro val ac u hR hp ha K hK      -- 6: t27 := Op.unOp UnOp.not 4 t26
              obtain ⟨w26, h26, r26⟩ := hp 5 (by decide)
              have e26 : (ac.tmps[26]?).getD undef = .bool true := (ha 26 (by decide)).trans h26
              clear h26
              clear ha hp
              refine Reg.Op1.plain rfl ?_
              go_wp2
              exact ⟨rfl, hK _ _ rfl (fun j k _ _ => Reg.Adds.refl _ _ _)⟩
            · intro val ac u hR hp ha K hK      -- 7: t28 := Op.move t27
              obtain ⟨w27, h27, r27⟩ := hp 6 (by decide)
              have e27 : (ac.tmps[27]?).getD undef = .bool false := (ha 27 (by decide)).trans h27
              clear h27
              clear ha hp
              refine Reg.Op1.plain rfl ?_
              go_wp2
              exact ⟨rfl, hK _ _ rfl (fun j k _ _ => Reg.Adds.refl _ _ _)⟩
            · intro val ac u hR hp ha K hK      -- 8: t29 := Op.fieldAddr 39 t4 2
              have e4 : (ac.tmps[4]?).getD undef = .pointer (some ⟨w.heap.size, 0, none⟩) := ha 4 (by decide)
              obtain ⟨w28, h28, r28⟩ := hp 7 (by decide)
              have e28 : (ac.tmps[28]?).getD undef = .bool false := (ha 28 (by decide)).trans h28
              clear h28
              clear ha hp
              refine Reg.Op1.guarded rfl rfl e28 (fun _ => Reg.Op1.plain rfl ?_) (fun h => absurd rfl h)
              go_wp2
              exact ⟨rfl, hK _ _ rfl (fun j k _ _ => Reg.Adds.refl _ _ _)⟩
            · intro val ac u hR hp ha K hK      -- 9: t30 := Op.load 4 t29
              obtain ⟨w29, h29, r29⟩ := hp 8 (by decide)
              have e29 : (ac.tmps[29]?).getD undef = .pointer (some ⟨w.heap.size, 10, none⟩) := (ha 29 (by decide)).trans h29
              clear h29
              obtain ⟨w28, h28, r28⟩ := hp 7 (by decide)
              have e28 : (ac.tmps[28]?).getD undef = .bool false := (ha 28 (by decide)).trans h28
              clear h28
              clear ha hp
              refine Reg.Op1.guarded rfl rfl e28 (fun _ => Reg.Op1.plain rfl ?_) (fun h => absurd rfl h)
              have x0 := (hR.cell (p := ⟨w.heap.size, 10, none⟩) HR.out.q.lt).trans (HR.out.q.cell (j := 10) rfl)
              rw [hsn] at x0
              go_wp2
              exact ⟨rfl, hK _ _ rfl (fun j k _ _ => Reg.Adds.refl _ _ _)⟩
            · intro val ac u hR hp ha K hK      -- 10: t31 := Op.move t30
              obtain ⟨w30, h30, r30⟩ := hp 9 (by decide)
              have e30 : (ac.tmps[30]?).getD undef = .bool false := (ha 30 (by decide)).trans h30
              clear h30
              obtain ⟨w28, h28, r28⟩ := hp 7 (by decide)
              have e28 : (ac.tmps[28]?).getD undef = .bool false := (ha 28 (by decide)).trans h28
              clear h28
              clear ha hp
              refine Reg.Op1.guarded rfl rfl e28 (fun _ => Reg.Op1.plain rfl ?_) (fun h => absurd rfl h)
              go_wp2
              exact ⟨rfl, hK _ _ rfl (fun j k _ _ => Reg.Adds.refl _ _ _)⟩
            · intro val ac u hR hp ha K hK      -- 11: t32 := Op.load 37 t7
              obtain ⟨w31, h31, r31⟩ := hp 10 (by decide)
              have e31 : (ac.tmps[31]?).getD undef = .bool false := (ha 31 (by decide)).trans h31
              clear h31
              clear ha hp
              exact Reg.Op1.guarded rfl rfl e31 (fun h => by cases h) (fun _ => hK _ _ rfl (fun j k _ _ => Reg.Adds.refl _ _ _))
            · intro val ac u hR hp ha K hK      -- 12: t33 := Op.load 37 t8
              obtain ⟨w31, h31, r31⟩ := hp 10 (by decide)
              have e31 : (ac.tmps[31]?).getD undef = .bool false := (ha 31 (by decide)).trans h31
              clear h31
              clear ha hp
              exact Reg.Op1.guarded rfl rfl e31 (fun h => by cases h) (fun _ => hK _ _ rfl (fun j k _ _ => Reg.Adds.refl _ _ _))
            · intro val ac u hR hp ha K hK      -- 13: t34 := Op.call { value (Operand.func 14), args := #[t32, t33], argTypes := #[37, 37] }
              obtain ⟨w31, h31, r31⟩ := hp 10 (by decide)
              have e31 : (ac.tmps[31]?).getD undef = .bool false := (ha 31 (by decide)).trans h31
              clear h31
              clear ha hp
              exact Reg.Op1.guarded rfl rfl e31 (fun h => by cases h) (fun _ => hK _ _ rfl (fun j k _ _ => Reg.Adds.refl _ _ _))
            · intro val ac u hR hp ha K hK      -- 14: t35 := Op.unOp UnOp.not 4 t34
              obtain ⟨w31, h31, r31⟩ := hp 10 (by decide)
              have e31 : (ac.tmps[31]?).getD undef = .bool false := (ha 31 (by decide)).trans h31
              clear h31
              clear ha hp
              exact Reg.Op1.guarded rfl rfl e31 (fun h => by cases h) (fun _ => hK _ _ rfl (fun j k _ _ => Reg.Adds.refl _ _ _))
            · intro val ac u hR hp ha K hK      -- 15: t36 := Op.pick t31 t35 (const (Value.bool false))
              obtain ⟨w31, h31, r31⟩ := hp 10 (by decide)
              have e31 : (ac.tmps[31]?).getD undef = .bool false := (ha 31 (by decide)).trans h31
              clear h31
              obtain ⟨w35, h35, r35⟩ := hp 14 (by decide)
              have e35 : (ac.tmps[35]?).getD undef = undef := (ha 35 (by decide)).trans h35
              clear h35
              obtain ⟨w28, h28, r28⟩ := hp 7 (by decide)
              have e28 : (ac.tmps[28]?).getD undef = .bool false := (ha 28 (by decide)).trans h28
              clear h28
              clear ha hp
              refine Reg.Op1.guarded rfl rfl e28 (fun _ => Reg.Op1.plain rfl ?_) (fun h => absurd rfl h)
              go_wp2
              exact ⟨rfl, hK _ _ rfl (fun j k _ _ => Reg.Adds.refl _ _ _)⟩
            · intro val ac u hR hp ha K hK      -- 16: t37 := Op.pick t28 (const (Value.bool true)) t36
              obtain ⟨w28, h28, r28⟩ := hp 7 (by decide)
              have e28 : (ac.tmps[28]?).getD undef = .bool false := (ha 28 (by decide)).trans h28
              clear h28
              obtain ⟨w36, h36, r36⟩ := hp 15 (by decide)
              have e36 : (ac.tmps[36]?).getD undef = .bool false := (ha 36 (by decide)).trans h36
              clear h36
              clear ha hp
              refine Reg.Op1.plain rfl ?_
              go_wp2
              exact ⟨rfl, hK _ _ rfl (fun j k _ _ => Reg.Adds.refl _ _ _)⟩
            · intro val ac u hR hp ha K hK      -- 17: t20 := Op.assign t37
              obtain ⟨w37, h37, r37⟩ := hp 16 (by decide)
              have e37 : (ac.tmps[37]?).getD undef = .bool false := (ha 37 (by decide)).trans h37
              clear h37
              clear ha hp
              refine Reg.Op1.plain rfl ?_
              go_wp2
              exact ⟨rfl, hK _ _ rfl (fun j k _ _ => Reg.Adds.refl _ _ _)⟩
          · intro val u hR H
            obtain ⟨_, hv, _⟩ := H 17 (by decide)
            have hv : val 17 = .bool false := hv
            have HN : Hid (RdAt w q s t col tt u) := HR.out.below ((Below.refl _ w2).drew.trans hR)
            simp only [List.map_cons, List.map_nil, Reg.lay, Act.put, List.setIfInBounds_toArray, List.set_cons_succ, List.set_cons_zero, Nat.reduceAdd, hv]
            clear hR H hv
            go_wp2
            go_meet
            case rel => exact ⟨by rw [hbq], HN.out⟩
        · cases hcv : coversC col tt
          · have hbq : behindQ rng q col tt = true := by unfold behindQ; rw [hc, hsn, hcv]; rfl
            refine Reg.wp_region_rel (by kernel_rfl) 89 18 rfl rfl (by kernel_rfl) (Reg.Adds) (Reg.Adds.refl) (Reg.Adds.trans)
              (fun i v u => match i with
                | 0 => v = Vec.C col
                | 1 => v = .pointer (some ⟨w.heap.size, 1, none⟩)
                | 2 => v = Vec.V q.cover
                | 3 => v = .int .i64 rng
                | 4 => v = Vec.C (Vec.part q.cover rng)
                | 5 => v = .bool true
                | 6 => v = .bool false
                | 7 => v = .bool false
                | 8 => v = .pointer (some ⟨w.heap.size, 10, none⟩)
                | 9 => v = .bool true
                | 10 => v = .bool true
                | 11 => v = Vec.C col
                | 12 => v = Vec.C tt
                | 13 => v = .bool false
                | 14 => v = .bool true
                | 15 => v = .bool true
                | 16 => v = .bool true
                | 17 => v = .bool true
                | _ => True) ?_ ?_
            · refine Reg.Steps.cons ?_ (Reg.Steps.cons ?_ (Reg.Steps.cons ?_ (Reg.Steps.cons ?_ (Reg.Steps.cons ?_ (Reg.Steps.cons ?_ (Reg.Steps.cons ?_ (Reg.Steps.cons ?_ (Reg.Steps.cons ?_ (Reg.Steps.cons ?_ (Reg.Steps.cons ?_ (Reg.Steps.cons ?_ (Reg.Steps.cons ?_ (Reg.Steps.cons ?_ (Reg.Steps.cons ?_ (Reg.Steps.cons ?_ (Reg.Steps.cons ?_ (Reg.Steps.cons ?_ (Reg.Steps.nil _))))))))))))))))))
              · intro val ac u hR hp ha K hK      -- 0: t21 := Op.load 37 t7
                have e7 : (ac.tmps[7]?).getD undef = .pointer (some ⟨s, 0, none⟩) := ha 7 (by decide)
                clear ha hp
                refine Reg.Op1.plain rfl ?_
                have x0 := (hR.cell (p := ⟨s, 0, none⟩) HR.out.c.lt).trans (HR.out.c.cell (j := 0) rfl)
                have x1 := (hR.cell (p := ⟨s, 1, none⟩) HR.out.c.lt).trans (HR.out.c.cell (j := 1) rfl)
                have x2 := (hR.cell (p := ⟨s, 2, none⟩) HR.out.c.lt).trans (HR.out.c.cell (j := 2) rfl)
                go_wp2
                exact ⟨rfl, hK _ _ rfl (fun j k _ _ => Reg.Adds.refl _ _ _)⟩
              · intro val ac u hR hp ha K hK      -- 1: t22 := Op.fieldAddr 39 t4 1
                have e4 : (ac.tmps[4]?).getD undef = .pointer (some ⟨w.heap.size, 0, none⟩) := ha 4 (by decide)
                clear ha hp
                refine Reg.Op1.plain rfl ?_
                go_wp2
                exact ⟨rfl, hK _ _ rfl (fun j k _ _ => Reg.Adds.refl _ _ _)⟩
              · intro val ac u hR hp ha K hK      -- 2: t23 := Op.load 31 t22
                obtain ⟨w22, h22, r22⟩ := hp 1 (by decide)
                have e22 : (ac.tmps[22]?).getD undef = .pointer (some ⟨w.heap.size, 1, none⟩) := (ha 22 (by decide)).trans h22
                clear h22
                clear ha hp
                refine Reg.Op1.plain rfl ?_
                have hQu : QBx u w.heap.size q := Mem.Bx.below (w := w2.drew) HR.out.q hR HR.out.q.lt
                have x0 := hQu.cell (j := 1) rfl
                have x1 := hQu.cell (j := 2) rfl
                have x2 := hQu.cell (j := 3) rfl
                have x3 := hQu.cell (j := 4) rfl
                have x4 := hQu.cell (j := 5) rfl
                have x5 := hQu.cell (j := 6) rfl
                have x6 := hQu.cell (j := 7) rfl
                have x7 := hQu.cell (j := 8) rfl
                have x8 := hQu.cell (j := 9) rfl
                clear hQu
                go_wp2
                exact ⟨rfl, hK _ _ rfl (fun j k _ _ => Reg.Adds.refl _ _ _)⟩
              · intro val ac u hR hp ha K hK      -- 3: t24 := Op.move t0
                have e0 : (ac.tmps[0]?).getD undef = .int .i64 rng := ha 0 (by decide)
                clear ha hp
                refine Reg.Op1.plain rfl ?_
                go_wp2
                exact ⟨rfl, hK _ _ rfl (fun j k _ _ => Reg.Adds.refl _ _ _)⟩
              · intro val ac u hR hp ha K hK      -- 4: t25 := Op.call { value (Operand.func 13), args := #[t23, t24], argTypes := #[31, 3] }
                obtain ⟨w23, h23, r23⟩ := hp 2 (by decide)
                have e23 : (ac.tmps[23]?).getD undef = Vec.V q.cover := (ha 23 (by decide)).trans h23
                clear h23
                obtain ⟨w24, h24, r24⟩ := hp 3 (by decide)
                have e24 : (ac.tmps[24]?).getD undef = .int .i64 rng := (ha 24 (by decide)).trans h24
                clear h24
                clear ha hp
                refine Reg.Op1.plain rfl ?_
                go_wp2_with fail
                refine (part_any q.cover rng u).mono ?_
                rintro x w' ⟨rfl, hbw⟩
                go_wp2_with fail
                exact ⟨rfl, hK _ _ rfl (fun j k _ _ => hbw)⟩
              · intro val ac u hR hp ha K hK      -- 5: t26 := Op.call { value (Operand.func 14), args := #[t21, t25], argTypes := #[37, 37] }
                obtain ⟨w21, h21, r21⟩ := hp 0 (by decide)
                have e21 : (ac.tmps[21]?).getD undef = Vec.C col := (ha 21 (by decide)).trans h21
                clear h21
                obtain ⟨w25, h25, r25⟩ := hp 4 (by decide)
                have e25 : (ac.tmps[25]?).getD undef = Vec.C (Vec.part q.cover rng) := (ha 25 (by decide)).trans h25
                clear h25
                clear ha hp
                refine Reg.Op1.plain rfl ?_
                go_wp2_with fail
                refine (coversC_any col (Vec.part q.cover rng) u).mono ?_
                rintro x w' ⟨rfl, hbw⟩
                rw [hc]
                go_wp2_with fail
                exact ⟨rfl, hK _ _ rfl (fun j k _ _ => hbw)⟩
              · intro val ac u hR hp ha K hK      -- 6: t27 := Op.unOp UnOp.not 4 t26
                obtain ⟨w26, h26, r26⟩ := hp 5 (by decide)
                have e26 : (ac.tmps[26]?).getD undef = .bool true := (ha 26 (by decide)).trans h26
                clear h26
                clear ha hp
                refine Reg.Op1.plain rfl ?_
                go_wp2
                exact ⟨rfl, hK _ _ rfl (fun j k _ _ => Reg.Adds.refl _ _ _)⟩
              · intro val ac u hR hp ha K hK      -- 7: t28 := Op.move t27
                obtain ⟨w27, h27, r27⟩ := hp 6 (by decide)
                have e27 : (ac.tmps[27]?).getD undef = .bool false := (ha 27 (by decide)).trans h27
                clear h27
                clear ha hp
                refine Reg.Op1.plain rfl ?_
                go_wp2
                exact ⟨rfl, hK _ _ rfl (fun j k _ _ => Reg.Adds.refl _ _ _)⟩
              · intro val ac u hR hp ha K hK      -- 8: t29 := Op.fieldAddr 39 t4 2
                have e4 : (ac.tmps[4]?).getD undef = .pointer (some ⟨w.heap.size, 0, none⟩) := ha 4 (by decide)
                obtain ⟨w28, h28, r28⟩ := hp 7 (by decide)
                have e28 : (ac.tmps[28]?).getD undef = .bool false := (ha 28 (by decide)).trans h28
                clear h28
                clear ha hp
                refine Reg.Op1.guarded rfl rfl e28 (fun _ => Reg.Op1.plain rfl ?_) (fun h => absurd rfl h)
                go_wp2
                exact ⟨rfl, hK _ _ rfl (fun j k _ _ => Reg.Adds.refl _ _ _)⟩
              · intro val ac u hR hp ha K hK      -- 9: t30 := Op.load 4 t29
                obtain ⟨w29, h29, r29⟩ := hp 8 (by decide)
                have e29 : (ac.tmps[29]?).getD undef = .pointer (some ⟨w.heap.size, 10, none⟩) := (ha 29 (by decide)).trans h29
                clear h29
                obtain ⟨w28, h28, r28⟩ := hp 7 (by decide)
                have e28 : (ac.tmps[28]?).getD undef = .bool false := (ha 28 (by decide)).trans h28
                clear h28
                clear ha hp
                refine Reg.Op1.guarded rfl rfl e28 (fun _ => Reg.Op1.plain rfl ?_) (fun h => absurd rfl h)
                have x0 := (hR.cell (p := ⟨w.heap.size, 10, none⟩) HR.out.q.lt).trans (HR.out.q.cell (j := 10) rfl)
                rw [hsn] at x0
                go_wp2
                exact ⟨rfl, hK _ _ rfl (fun j k _ _ => Reg.Adds.refl _ _ _)⟩
              · intro val ac u hR hp ha K hK      -- 10: t31 := Op.move t30
                obtain ⟨w30, h30, r30⟩ := hp 9 (by decide)
                have e30 : (ac.tmps[30]?).getD undef = .bool true := (ha 30 (by decide)).trans h30
                clear h30
                obtain ⟨w28, h28, r28⟩ := hp 7 (by decide)
                have e28 : (ac.tmps[28]?).getD undef = .bool false := (ha 28 (by decide)).trans h28
                clear h28
                clear ha hp
                refine Reg.Op1.guarded rfl rfl e28 (fun _ => Reg.Op1.plain rfl ?_) (fun h => absurd rfl h)
                go_wp2
                exact ⟨rfl, hK _ _ rfl (fun j k _ _ => Reg.Adds.refl _ _ _)⟩
              · intro val ac u hR hp ha K hK      -- 11: t32 := Op.load 37 t7
                have e7 : (ac.tmps[7]?).getD undef = .pointer (some ⟨s, 0, none⟩) := ha 7 (by decide)
                obtain ⟨w31, h31, r31⟩ := hp 10 (by decide)
                have e31 : (ac.tmps[31]?).getD undef = .bool true := (ha 31 (by decide)).trans h31
                clear h31
                clear ha hp
                refine Reg.Op1.guarded rfl rfl e31 (fun _ => Reg.Op1.plain rfl ?_) (fun h => absurd rfl h)
                have x0 := (hR.cell (p := ⟨s, 0, none⟩) HR.out.c.lt).trans (HR.out.c.cell (j := 0) rfl)
                have x1 := (hR.cell (p := ⟨s, 1, none⟩) HR.out.c.lt).trans (HR.out.c.cell (j := 1) rfl)
                have x2 := (hR.cell (p := ⟨s, 2, none⟩) HR.out.c.lt).trans (HR.out.c.cell (j := 2) rfl)
                go_wp2
                exact ⟨rfl, hK _ _ rfl (fun j k _ _ => Reg.Adds.refl _ _ _)⟩
              · intro val ac u hR hp ha K hK      -- 12: t33 := Op.load 37 t8
                have e8 : (ac.tmps[8]?).getD undef = .pointer (some ⟨t, 0, none⟩) := ha 8 (by decide)
                obtain ⟨w31, h31, r31⟩ := hp 10 (by decide)
                have e31 : (ac.tmps[31]?).getD undef = .bool true := (ha 31 (by decide)).trans h31
                clear h31
                clear ha hp
                refine Reg.Op1.guarded rfl rfl e31 (fun _ => Reg.Op1.plain rfl ?_) (fun h => absurd rfl h)
                have x0 := (hR.cell (p := ⟨t, 0, none⟩) HR.out.t.lt).trans (HR.out.t.cell (j := 0) rfl)
                have x1 := (hR.cell (p := ⟨t, 1, none⟩) HR.out.t.lt).trans (HR.out.t.cell (j := 1) rfl)
                have x2 := (hR.cell (p := ⟨t, 2, none⟩) HR.out.t.lt).trans (HR.out.t.cell (j := 2) rfl)
                go_wp2
                exact ⟨rfl, hK _ _ rfl (fun j k _ _ => Reg.Adds.refl _ _ _)⟩
              · intro val ac u hR hp ha K hK      -- 13: t34 := Op.call { value (Operand.func 14), args := #[t32, t33], argTypes := #[37, 37] }
                obtain ⟨w32, h32, r32⟩ := hp 11 (by decide)
                have e32 : (ac.tmps[32]?).getD undef = Vec.C col := (ha 32 (by decide)).trans h32
                clear h32
                obtain ⟨w33, h33, r33⟩ := hp 12 (by decide)
                have e33 : (ac.tmps[33]?).getD undef = Vec.C tt := (ha 33 (by decide)).trans h33
                clear h33
                obtain ⟨w31, h31, r31⟩ := hp 10 (by decide)
                have e31 : (ac.tmps[31]?).getD undef = .bool true := (ha 31 (by decide)).trans h31
                clear h31
                clear ha hp
                refine Reg.Op1.guarded rfl rfl e31 (fun _ => Reg.Op1.plain rfl ?_) (fun h => absurd rfl h)
                go_wp2_with fail
                refine (coversC_any col tt u).mono ?_
                rintro x w' ⟨rfl, hbw⟩
                rw [hcv]
                go_wp2_with fail
                exact ⟨rfl, hK _ _ rfl (fun j k _ _ => hbw)⟩
              · intro val ac u hR hp ha K hK      -- 14: t35 := Op.unOp UnOp.not 4 t34
                obtain ⟨w34, h34, r34⟩ := hp 13 (by decide)
                have e34 : (ac.tmps[34]?).getD undef = .bool false := (ha 34 (by decide)).trans h34
                clear h34
                obtain ⟨w31, h31, r31⟩ := hp 10 (by decide)
                have e31 : (ac.tmps[31]?).getD undef = .bool true := (ha 31 (by decide)).trans h31
                clear h31
                clear ha hp
                refine Reg.Op1.guarded rfl rfl e31 (fun _ => Reg.Op1.plain rfl ?_) (fun h => absurd rfl h)
                go_wp2
                exact ⟨rfl, hK _ _ rfl (fun j k _ _ => Reg.Adds.refl _ _ _)⟩
              · intro val ac u hR hp ha K hK      -- 15: t36 := Op.pick t31 t35 (const (Value.bool false))
                obtain ⟨w31, h31, r31⟩ := hp 10 (by decide)
                have e31 : (ac.tmps[31]?).getD undef = .bool true := (ha 31 (by decide)).trans h31
                clear h31
                obtain ⟨w35, h35, r35⟩ := hp 14 (by decide)
                have e35 : (ac.tmps[35]?).getD undef = .bool true := (ha 35 (by decide)).trans h35
                clear h35
                obtain ⟨w28, h28, r28⟩ := hp 7 (by decide)
                have e28 : (ac.tmps[28]?).getD undef = .bool false := (ha 28 (by decide)).trans h28
                clear h28
                clear ha hp
                refine Reg.Op1.guarded rfl rfl e28 (fun _ => Reg.Op1.plain rfl ?_) (fun h => absurd rfl h)
                go_wp2
                exact ⟨rfl, hK _ _ rfl (fun j k _ _ => Reg.Adds.refl _ _ _)⟩
              · intro val ac u hR hp ha K hK      -- 16: t37 := Op.pick t28 (const (Value.bool true)) t36
                obtain ⟨w28, h28, r28⟩ := hp 7 (by decide)
                have e28 : (ac.tmps[28]?).getD undef = .bool false := (ha 28 (by decide)).trans h28
                clear h28
                obtain ⟨w36, h36, r36⟩ := hp 15 (by decide)
                have e36 : (ac.tmps[36]?).getD undef = .bool true := (ha 36 (by decide)).trans h36
                clear h36
                clear ha hp
                refine Reg.Op1.plain rfl ?_
                go_wp2
                exact ⟨rfl, hK _ _ rfl (fun j k _ _ => Reg.Adds.refl _ _ _)⟩
              · intro val ac u hR hp ha K hK      -- 17: t20 := Op.assign t37
                obtain ⟨w37, h37, r37⟩ := hp 16 (by decide)
                have e37 : (ac.tmps[37]?).getD undef = .bool true := (ha 37 (by decide)).trans h37
                clear h37
                clear ha hp
                refine Reg.Op1.plain rfl ?_
                go_wp2
                exact ⟨rfl, hK _ _ rfl (fun j k _ _ => Reg.Adds.refl _ _ _)⟩
            · intro val u hR H
              obtain ⟨_, hv, _⟩ := H 17 (by decide)
              have hv : val 17 = .bool true := hv
              have HN : Hid (RdAt w q s t col tt u) := HR.out.below ((Below.refl _ w2).drew.trans hR)
              simp only [List.map_cons, List.map_nil, Reg.lay, Act.put, List.setIfInBounds_toArray, List.set_cons_succ, List.set_cons_zero, Nat.reduceAdd, hv]
              clear hR H hv
              go_wp2
              go_meet
              case rel => exact ⟨by rw [hbq], HN.out⟩
          · have hbq : behindQ rng q col tt = false := by unfold behindQ; rw [hc, hsn, hcv]; rfl
            refine Reg.wp_region_rel (by kernel_rfl) 89 18 rfl rfl (by kernel_rfl) (Reg.Adds) (Reg.Adds.refl) (Reg.Adds.trans)
              (fun i v u => match i with
                | 0 => v = Vec.C col
                | 1 => v = .pointer (some ⟨w.heap.size, 1, none⟩)
                | 2 => v = Vec.V q.cover
                | 3 => v = .int .i64 rng
                | 4 => v = Vec.C (Vec.part q.cover rng)
                | 5 => v = .bool true
                | 6 => v = .bool false
                | 7 => v = .bool false
                | 8 => v = .pointer (some ⟨w.heap.size, 10, none⟩)
                | 9 => v = .bool true
                | 10 => v = .bool true
                | 11 => v = Vec.C col
                | 12 => v = Vec.C tt
                | 13 => v = .bool true
                | 14 => v = .bool false
                | 15 => v = .bool false
                | 16 => v = .bool false
                | 17 => v = .bool false
                | _ => True) ?_ ?_
            · refine Reg.Steps.cons ?_ (Reg.Steps.cons ?_ (Reg.Steps.cons ?_ (Reg.Steps.cons ?_ (Reg.Steps.cons ?_ (Reg.Steps.cons ?_ (Reg.Steps.cons ?_ (Reg.Steps.cons ?_ (Reg.Steps.cons ?_ (Reg.Steps.cons ?_ (Reg.Steps.cons ?_ (Reg.Steps.cons ?_ (Reg.Steps.cons ?_ (Reg.Steps.cons ?_ (Reg.Steps.cons ?_ (Reg.Steps.cons ?_ (Reg.Steps.cons ?_ (Reg.Steps.cons ?_ (Reg.Steps.nil _))))))))))))))))))
              · intro val ac u hR hp ha K hK      -- 0: t21 := Op.load 37 t7
                have e7 : (ac.tmps[7]?).getD undef = .pointer (some ⟨s, 0, none⟩) := ha 7 (by decide)
                clear ha hp
                refine Reg.Op1.plain rfl ?_
                have x0 := (hR.cell (p := ⟨s, 0, none⟩) HR.out.c.lt).trans (HR.out.c.cell (j := 0) rfl)
                have x1 := (hR.cell (p := ⟨s, 1, none⟩) HR.out.c.lt).trans (HR.out.c.cell (j := 1) rfl)
                have x2 := (hR.cell (p := ⟨s, 2, none⟩) HR.out.c.lt).trans (HR.out.c.cell (j := 2) rfl)
                go_wp2
                exact ⟨rfl, hK _ _ rfl (fun j k _ _ => Reg.Adds.refl _ _ _)⟩
              · intro val ac u hR hp ha K hK      -- 1: t22 := Op.fieldAddr 39 t4 1
                have e4 : (ac.tmps[4]?).getD undef = .pointer (some ⟨w.heap.size, 0, none⟩) := ha 4 (by decide)
                clear ha hp
                refine Reg.Op1.plain rfl ?_
                go_wp2
                exact ⟨rfl, hK _ _ rfl (fun j k _ _ => Reg.Adds.refl _ _ _)⟩
              · intro val ac u hR hp ha K hK      -- 2: t23 := Op.load 31 t22
                obtain ⟨w22, h22, r22⟩ := hp 1 (by decide)
                have e22 : (ac.tmps[22]?).getD undef = .pointer (some ⟨w.heap.size, 1, none⟩) := (ha 22 (by decide)).trans h22
                clear h22
                clear ha hp
                refine Reg.Op1.plain rfl ?_
                have hQu : QBx u w.heap.size q := Mem.Bx.below (w := w2.drew) HR.out.q hR HR.out.q.lt
                have x0 := hQu.cell (j := 1) rfl
                have x1 := hQu.cell (j := 2) rfl
                have x2 := hQu.cell (j := 3) rfl
                have x3 := hQu.cell (j := 4) rfl
                have x4 := hQu.cell (j := 5) rfl
                have x5 := hQu.cell (j := 6) rfl
                have x6 := hQu.cell (j := 7) rfl
                have x7 := hQu.cell (j := 8) rfl
                have x8 := hQu.cell (j := 9) rfl
                clear hQu
                go_wp2
                exact ⟨rfl, hK _ _ rfl (fun j k _ _ => Reg.Adds.refl _ _ _)⟩
              · intro val ac u hR hp ha K hK      -- 3: t24 := Op.move t0
                have e0 : (ac.tmps[0]?).getD undef = .int .i64 rng := ha 0 (by decide)
                clear ha hp
                refine Reg.Op1.plain rfl ?_
                go_wp2
                exact ⟨rfl, hK _ _ rfl (fun j k _ _ => Reg.Adds.refl _ _ _)⟩
              · intro val ac u hR hp ha K hK      -- 4: t25 := Op.call { value (Operand.func 13), args := #[t23, t24], argTypes := #[31, 3] }
                obtain ⟨w23, h23, r23⟩ := hp 2 (by decide)
                have e23 : (ac.tmps[23]?).getD undef = Vec.V q.cover := (ha 23 (by decide)).trans h23
                clear h23
                obtain ⟨w24, h24, r24⟩ := hp 3 (by decide)
                have e24 : (ac.tmps[24]?).getD undef = .int .i64 rng := (ha 24 (by decide)).trans h24
                clear h24
                clear ha hp
                refine Reg.Op1.plain rfl ?_
                go_wp2_with fail
                refine (part_any q.cover rng u).mono ?_
                rintro x w' ⟨rfl, hbw⟩
                go_wp2_with fail
                exact ⟨rfl, hK _ _ rfl (fun j k _ _ => hbw)⟩
              · intro val ac u hR hp ha K hK      -- 5: t26 := Op.call { value (Operand.func 14), args := #[t21, t25], argTypes := #[37, 37] }
                obtain ⟨w21, h21, r21⟩ := hp 0 (by decide)
                have e21 : (ac.tmps[21]?).getD undef = Vec.C col := (ha 21 (by decide)).trans h21
                clear h21
                obtain ⟨w25, h25, r25⟩ := hp 4 (by decide)
                have e25 : (ac.tmps[25]?).getD undef = Vec.C (Vec.part q.cover rng) := (ha 25 (by decide)).trans h25
                clear h25
                clear ha hp
                refine Reg.Op1.plain rfl ?_
                go_wp2_with fail
                refine (coversC_any col (Vec.part q.cover rng) u).mono ?_
                rintro x w' ⟨rfl, hbw⟩
                rw [hc]
                go_wp2_with fail
                exact ⟨rfl, hK _ _ rfl (fun j k _ _ => hbw)⟩
              · intro val ac u hR hp ha K hK      -- 6: t27 := Op.unOp UnOp.not 4 t26
                obtain ⟨w26, h26, r26⟩ := hp 5 (by decide)
                have e26 : (ac.tmps[26]?).getD undef = .bool true := (ha 26 (by decide)).trans h26
                clear h26
                clear ha hp
                refine Reg.Op1.plain rfl ?_
                go_wp2
                exact ⟨rfl, hK _ _ rfl (fun j k _ _ => Reg.Adds.refl _ _ _)⟩
              · intro val ac u hR hp ha K hK      -- 7: t28 := Op.move t27
                obtain ⟨w27, h27, r27⟩ := hp 6 (by decide)
                have e27 : (ac.tmps[27]?).getD undef = .bool false := (ha 27 (by decide)).trans h27
                clear h27
                clear ha hp
                refine Reg.Op1.plain rfl ?_
                go_wp2
                exact ⟨rfl, hK _ _ rfl (fun j k _ _ => Reg.Adds.refl _ _ _)⟩
              · intro val ac u hR hp ha K hK      -- 8: t29 := Op.fieldAddr 39 t4 2
                have e4 : (ac.tmps[4]?).getD undef = .pointer (some ⟨w.heap.size, 0, none⟩) := ha 4 (by decide)
                obtain ⟨w28, h28, r28⟩ := hp 7 (by decide)
                have e28 : (ac.tmps[28]?).getD undef = .bool false := (ha 28 (by decide)).trans h28
                clear h28
                clear ha hp
                refine Reg.Op1.guarded rfl rfl e28 (fun _ => Reg.Op1.plain rfl ?_) (fun h => absurd rfl h)
                go_wp2
                exact ⟨rfl, hK _ _ rfl (fun j k _ _ => Reg.Adds.refl _ _ _)⟩
              · intro val ac u hR hp ha K hK      -- 9: t30 := Op.load 4 t29
                obtain ⟨w29, h29, r29⟩ := hp 8 (by decide)
                have e29 : (ac.tmps[29]?).getD undef = .pointer (some ⟨w.heap.size, 10, none⟩) := (ha 29 (by decide)).trans h29
                clear h29
                obtain ⟨w28, h28, r28⟩ := hp 7 (by decide)
                have e28 : (ac.tmps[28]?).getD undef = .bool false := (ha 28 (by decide)).trans h28
                clear h28
                clear ha hp
                refine Reg.Op1.guarded rfl rfl e28 (fun _ => Reg.Op1.plain rfl ?_) (fun h => absurd rfl h)
                have x0 := (hR.cell (p := ⟨w.heap.size, 10, none⟩) HR.out.q.lt).trans (HR.out.q.cell (j := 10) rfl)
                rw [hsn] at x0
                go_wp2
                exact ⟨rfl, hK _ _ rfl (fun j k _ _ => Reg.Adds.refl _ _ _)⟩
              · intro val ac u hR hp ha K hK      -- 10: t31 := Op.move t30
                obtain ⟨w30, h30, r30⟩ := hp 9 (by decide)
                have e30 : (ac.tmps[30]?).getD undef = .bool true := (ha 30 (by decide)).trans h30
                clear h30
                obtain ⟨w28, h28, r28⟩ := hp 7 (by decide)
                have e28 : (ac.tmps[28]?).getD undef = .bool false := (ha 28 (by decide)).trans h28
                clear h28
                clear ha hp
                refine Reg.Op1.guarded rfl rfl e28 (fun _ => Reg.Op1.plain rfl ?_) (fun h => absurd rfl h)
                go_wp2
                exact ⟨rfl, hK _ _ rfl (fun j k _ _ => Reg.Adds.refl _ _ _)⟩
              · intro val ac u hR hp ha K hK      -- 11: t32 := Op.load 37 t7
                have e7 : (ac.tmps[7]?).getD undef = .pointer (some ⟨s, 0, none⟩) := ha 7 (by decide)
                obtain ⟨w31, h31, r31⟩ := hp 10 (by decide)
                have e31 : (ac.tmps[31]?).getD undef = .bool true := (ha 31 (by decide)).trans h31
                clear h31
                clear ha hp
                refine Reg.Op1.guarded rfl rfl e31 (fun _ => Reg.Op1.plain rfl ?_) (fun h => absurd rfl h)
                have x0 := (hR.cell (p := ⟨s, 0, none⟩) HR.out.c.lt).trans (HR.out.c.cell (j := 0) rfl)
                have x1 := (hR.cell (p := ⟨s, 1, none⟩) HR.out.c.lt).trans (HR.out.c.cell (j := 1) rfl)
                have x2 := (hR.cell (p := ⟨s, 2, none⟩) HR.out.c.lt).trans (HR.out.c.cell (j := 2) rfl)
                go_wp2
                exact ⟨rfl, hK _ _ rfl (fun j k _ _ => Reg.Adds.refl _ _ _)⟩
              · intro val ac u hR hp ha K hK      -- 12: t33 := Op.load 37 t8
                have e8 : (ac.tmps[8]?).getD undef = .pointer (some ⟨t, 0, none⟩) := ha 8 (by decide)
                obtain ⟨w31, h31, r31⟩ := hp 10 (by decide)
                have e31 : (ac.tmps[31]?).getD undef = .bool true := (ha 31 (by decide)).trans h31
                clear h31
                clear ha hp
                refine Reg.Op1.guarded rfl rfl e31 (fun _ => Reg.Op1.plain rfl ?_) (fun h => absurd rfl h)
                have x0 := (hR.cell (p := ⟨t, 0, none⟩) HR.out.t.lt).trans (HR.out.t.cell (j := 0) rfl)
                have x1 := (hR.cell (p := ⟨t, 1, none⟩) HR.out.t.lt).trans (HR.out.t.cell (j := 1) rfl)
                have x2 := (hR.cell (p := ⟨t, 2, none⟩) HR.out.t.lt).trans (HR.out.t.cell (j := 2) rfl)
                go_wp2
                exact ⟨rfl, hK _ _ rfl (fun j k _ _ => Reg.Adds.refl _ _ _)⟩
              · intro val ac u hR hp ha K hK      -- 13: t34 := Op.call { value (Operand.func 14), args := #[t32, t33], argTypes := #[37, 37] }
                obtain ⟨w32, h32, r32⟩ := hp 11 (by decide)
                have e32 : (ac.tmps[32]?).getD undef = Vec.C col := (ha 32 (by decide)).trans h32
                clear h32
                obtain ⟨w33, h33, r33⟩ := hp 12 (by decide)
                have e33 : (ac.tmps[33]?).getD undef = Vec.C tt := (ha 33 (by decide)).trans h33
                clear h33
                obtain ⟨w31, h31, r31⟩ := hp 10 (by decide)
                have e31 : (ac.tmps[31]?).getD undef = .bool true := (ha 31 (by decide)).trans h31
                clear h31
                clear ha hp
                refine Reg.Op1.guarded rfl rfl e31 (fun _ => Reg.Op1.plain rfl ?_) (fun h => absurd rfl h)
                go_wp2_with fail
                refine (coversC_any col tt u).mono ?_
                rintro x w' ⟨rfl, hbw⟩
                rw [hcv]
                go_wp2_with fail
                exact ⟨rfl, hK _ _ rfl (fun j k _ _ => hbw)⟩
              · intro val ac u hR hp ha K hK      -- 14: t35 := Op.unOp UnOp.not 4 t34
                obtain ⟨w34, h34, r34⟩ := hp 13 (by decide)
                have e34 : (ac.tmps[34]?).getD undef = .bool true := (ha 34 (by decide)).trans h34
                clear h34
                obtain ⟨w31, h31, r31⟩ := hp 10 (by decide)
                have e31 : (ac.tmps[31]?).getD undef = .bool true := (ha 31 (by decide)).trans h31
                clear h31
                clear ha hp
                refine Reg.Op1.guarded rfl rfl e31 (fun _ => Reg.Op1.plain rfl ?_) (fun h => absurd rfl h)
                go_wp2
                exact ⟨rfl, hK _ _ rfl (fun j k _ _ => Reg.Adds.refl _ _ _)⟩
              · intro val ac u hR hp ha K hK      -- 15: t36 := Op.pick t31 t35 (const (Value.bool false))
                obtain ⟨w31, h31, r31⟩ := hp 10 (by decide)
                have e31 : (ac.tmps[31]?).getD undef = .bool true := (ha 31 (by decide)).trans h31
                clear h31
                obtain ⟨w35, h35, r35⟩ := hp 14 (by decide)
                have e35 : (ac.tmps[35]?).getD undef = .bool false := (ha 35 (by decide)).trans h35
                clear h35
                obtain ⟨w28, h28, r28⟩ := hp 7 (by decide)
                have e28 : (ac.tmps[28]?).getD undef = .bool false := (ha 28 (by decide)).trans h28
                clear h28
                clear ha hp
                refine Reg.Op1.guarded rfl rfl e28 (fun _ => Reg.Op1.plain rfl ?_) (fun h => absurd rfl h)
                go_wp2
                exact ⟨rfl, hK _ _ rfl (fun j k _ _ => Reg.Adds.refl _ _ _)⟩
              · intro val ac u hR hp ha K hK      -- 16: t37 := Op.pick t28 (const (Value.bool true)) t36
                obtain ⟨w28, h28, r28⟩ := hp 7 (by decide)
                have e28 : (ac.tmps[28]?).getD undef = .bool false := (ha 28 (by decide)).trans h28
                clear h28
                obtain ⟨w36, h36, r36⟩ := hp 15 (by decide)
                have e36 : (ac.tmps[36]?).getD undef = .bool false := (ha 36 (by decide)).trans h36
                clear h36
                clear ha hp
                refine Reg.Op1.plain rfl ?_
                go_wp2
                exact ⟨rfl, hK _ _ rfl (fun j k _ _ => Reg.Adds.refl _ _ _)⟩
              · intro val ac u hR hp ha K hK      -- 17: t20 := Op.assign t37
                obtain ⟨w37, h37, r37⟩ := hp 16 (by decide)
                have e37 : (ac.tmps[37]?).getD undef = .bool false := (ha 37 (by decide)).trans h37
                clear h37
                clear ha hp
                refine Reg.Op1.plain rfl ?_
                go_wp2
                exact ⟨rfl, hK _ _ rfl (fun j k _ _ => Reg.Adds.refl _ _ _)⟩
            · intro val u hR H
              obtain ⟨_, hv, _⟩ := H 17 (by decide)
              have hv : val 17 = .bool false := hv
              have HN : Hid (RdAt w q s t col tt u) := HR.out.below ((Below.refl _ w2).drew.trans hR)
              simp only [List.map_cons, List.map_nil, Reg.lay, Act.put, List.setIfInBounds_toArray, List.set_cons_succ, List.set_cons_zero, Nat.reduceAdd, hv]
              clear hR H hv
              go_wp2
              go_meet
              case rel => exact ⟨by rw [hbq], HN.out⟩
    case rest =>
      obtain ⟨rfl, hR1⟩ := hcut
      have HR := Lib.hid hR1
      clear hR1
      rename World => w3
      have HB3 := Lib.hid HR.out.b
      have hz3 : w.heap.size + 1 < w3.heap.size := HR.out.a.lt
      cases hbq : behindQ rng q col tt
      case true =>
        have hrd : Hid (Vec.read rng q es = ⟨91, false, ent0, col0⟩) := by show _ = _; unfold Vec.read; rw [HCOL.out, HTT.out, hbq]; rfl
        have ho := ans_one ⟨91, false, ent0, col0⟩
        go_wp2_with ((with_reducible refine Mem.store_agg _ _ answer_agg (w.heap.size + 1) (ansCells ans0) (ansCells ⟨91, false, ent0, col0⟩) ?hx ?hy HR.out.a (ansCells_length _) ho ?_); (case hx => exact rfl); (case hy => exact rfl); intro w4 hb4 hk4 hs4)
        refine bodyPost_ret (v := .agg (ansCells ⟨91, false, ent0, col0⟩).toArray) ?_ rfl ⟨by rw [hrd.out], HB3.out.trans (hk4.below (fun k h => by omega) (by omega))⟩
        exact Mem.results_agg Try.results11 answer_agg rfl hb4
      case false =>
        go_upto_region 4 with fail
        go_cut [39] (fun v wx => v = .bool (goneQ q tt) ∧ RdAt w q s t col tt wx)
        case first =>
          have s10 := HR.out.q.cell (j := 10) rfl
          cases hsn : q.snap
          · have hg : goneQ q tt = false := by unfold goneQ; rw [hsn]; rfl
            rw [hsn] at s10
            go_wp2
            go_meet
            case rel => exact ⟨by rw [hg], HR.out⟩
          · rw [hsn] at s10
            have hg : goneQ q tt = !coversC tt q.mark := by unfold goneQ; rw [hsn]; rfl
            have x0 := HR.out.t.cell (j := 0) rfl
            have x1 := HR.out.t.cell (j := 1) rfl
            have x2 := HR.out.t.cell (j := 2) rfl
            have m0 := HR.out.q.cell (j := 20) rfl
            have m1 := HR.out.q.cell (j := 21) rfl
            have m2 := HR.out.q.cell (j := 22) rfl
            go_wp2_with fail
            refine (coversC_any tt q.mark w3).mono ?_
            rintro x w' ⟨rfl, hbw⟩
            have HN : Hid (RdAt w q s t col tt w') := HR.out.below hbw
            clear hbw
            cases hcg : coversC tt q.mark
            · go_wp2
              go_meet
              case rel => exact ⟨by rw [hg, hcg]; rfl, HN.out⟩
            · go_wp2
              go_meet
              case rel => exact ⟨by rw [hg, hcg]; rfl, HN.out⟩
        case rest =>
          obtain ⟨rfl, hR1⟩ := hcut
          have HR := Lib.hid hR1
          clear hR1
          rename World => w4
          have HB4 := Lib.hid HR.out.b
          have hz4 : w.heap.size + 1 < w4.heap.size := HR.out.a.lt
          cases hgq : goneQ q tt
          case true =>
            have hrd : Hid (Vec.read rng q es = ⟨60, false, ent0, col0⟩) := by show _ = _; unfold Vec.read; rw [HCOL.out, HTT.out, hbq, hgq]; rfl
            have ho := ans_one ⟨60, false, ent0, col0⟩
            go_wp2_with ((with_reducible refine Mem.store_agg _ _ answer_agg (w.heap.size + 1) (ansCells ans0) (ansCells ⟨60, false, ent0, col0⟩) ?hx ?hy HR.out.a (ansCells_length _) ho ?_); (case hx => exact rfl); (case hy => exact rfl); intro w5 hb5 hk5 hs5)
            refine bodyPost_ret (v := .agg (ansCells ⟨60, false, ent0, col0⟩).toArray) ?_ rfl ⟨by rw [hrd.out], HB4.out.trans (hk5.below (fun k h => by omega) (by omega))⟩
            exact Mem.results_agg Try.results11 answer_agg rfl hb5
          case false =>
            have hrd : Hid (Vec.read rng q es = ⟨0, (greatest q.key (seenL rng q tt es)).2, (greatest q.key (seenL rng q tt es)).1, col⟩) := by show _ = _; unfold Vec.read; rw [HCOL.out, HTT.out, hbq, hgq]; rfl
            go_upto_region 8 with fail
            go_loopw [9, 52] (RdRel w w4 rng q tt es) (fun _ t _ => es.length - (intOf t).toNat)
            case atStart => exact ⟨⟨0, none, 0, by omega, rfl, rfl, Mem.Own.nil _ _ _, Mem.From.none_ _, Below.refl _ _⟩⟩
            case round =>
              obtain ⟨k, A2, c2, hk, rfl, rfl, HO, HF, HB⟩ := hrel.out
              have hz := HB.out.size
              by_cases hlt : k < es.length
              · obtain ⟨b, o, e, rfl, hb, he, hat⟩ := ent_elem hm.out hlt
                have HAT := Lib.hid (hat.below (HB4.out.trans (HB.out.mono HB4.out.size)) hb)
                have HTK := Lib.hid (show seenL rng q tt (es.take (k + 1)) = seenL rng q tt (es.take k) ++ (if seenE rng q tt e then [e] else []) by rw [Mem.take_snoc he, seenL_snoc])
                clear hat he
                go_upto_region 10 with (first | ((with_reducible refine Mem.load_agg _ _ entry_agg b (o + k * 20) (entCells e) ?hx (entCells_length e) HAT.out.c ?_); case hx => exact rfl) | ((with_reducible refine Mem.store_agg _ _ entry_agg wr.heap.size ?zs (entCells e) ?hx ?hy ?hb (entCells_length e) (ent_one e) ?_); (case hx => exact rfl); (case hy => exact rfl); (case hb => exact Mem.Bx.new wr _ _ rfl rfl); intro w5 hb2 hk2 hs2))
                have HK2 := Lib.hid (hk2.newBox rfl)
                have hs3 : wr.heap.size < w5.heap.size := hb2.lt
                have HE2 : Hid (EBx w5 wr.heap.size e) := hb2
                have HB' : Hid (Below w4.heap.size w4 w5) := HB.out.trans (HK2.out.below (fun k h => h.elim) hz)
                have HO2 : Hid (Mem.Own w5 33 20 A2 (seenL rng q tt (es.take k)).length c2 ((seenL rng q tt (es.take k)).flatMap entCells)) := HO.out.keeps HK2.out (fun _ _ h => h)
                have HR5 : Hid (RdAt w q s t col tt w5) := HR.out.below HB'.out
                have x0 := HE2.out.cell (j := 0) rfl
                have x1 := HE2.out.cell (j := 1) rfl
                have x2 := HE2.out.cell (j := 2) rfl
                have s10 := HR5.out.q.cell (j := 10) rfl
                clear hb2 hk2 hs2 HAT HO
                by_cases hrg : e.rng = rng
                · have hrd2 : (e.rng == rng) = true := by simp [hrg]
                  have HRG := Lib.hid hrg
                  clear hrg
                  cases hsn : q.snap
                  · have hse : seenE rng q tt e = true := by unfold seenE; rw [hsn]; simp [HRG.out]
                    rw [hsn] at s10
                    have hts : Hid (seenL rng q tt (es.take (k + 1)) = seenL rng q tt (es.take k) ++ [e]) := by show _ = _; rw [HTK.out, hse, if_pos rfl]
                    have hlk : (seenL rng q tt (es.take k)).length ≤ es.length := Nat.le_trans (seenL_len _ _ _ _) (by rw [List.length_take]; omega)
                    go_wp2_with (first | ((with_reducible refine Mem.load_agg _ _ entry_agg wr.heap.size 0 (entCells e) ?hx (entCells_length e) (fun j u hu => by rw [Nat.zero_add]; exact HE2.out.cell hu) ?_); case hx => exact rfl) | ((with_reducible refine Mem.build1_agg _ _ 20 _ Try.underlying22 entry_zero (by decide) (by decide) (entCells e) ?hx (entCells_length e) ?_); case hx => exact rfl) | (at_builtin; refine Mem.wpList_app _ rfl (.tmp 72) (.tmp 74) _ rfl entries_elem A2 (seenL rng q tt (es.take k)).length c2 _ rfl (w5.heap.size + 1) (some ⟨w5.heap.size, 0, none⟩) 1 1 (entCells e) rfl ?_ (HO2.out.alloc _) (Mem.Rd.alloc_new _ _ _ _ rfl) rfl (ent_one e) (by unfold maxLen; omega) (by omega); intro A3 c3 w6 hown hg6 hat))
                    go_roundw
                    case rel =>
                      refine ⟨⟨k + 1, A3, c3, by omega, ?_, by go_num, ?_, ?_, ?_⟩⟩
                      · rw [hts.out, List.length_append, List.length_singleton]
                      · show Mem.Own _ _ _ _ _ _ _
                        rw [hts.out, List.length_append, List.length_singleton, List.flatMap_append]
                        simpa using hown
                      · have hs6 := HB'.out.size
                        rcases hat with rfl | rfl
                        · exact HF
                        · exact Mem.From.some_ (by simp; omega)
                      · exact (HB'.out.alloc HB'.out.size _).grown hg6 (by have := HB'.out.size; simp; omega) (Mem.From.blk HF.out)
                    case measure => simp [intOf]; omega
                  · rw [hsn] at s10
                    have z0 := HR5.out.t.cell (j := 0) rfl
                    have z1 := HR5.out.t.cell (j := 1) rfl
                    have z2 := HR5.out.t.cell (j := 2) rfl
                    go_wp2_with fail
                    with_reducible refine (within_any tt e.dc e.rng e.seq w5).mono ?_
                    rintro x wv ⟨rfl, hbw⟩
                    have hs4 := hbw.size
                    have HE2 : Hid (EBx wv wr.heap.size e) := HE2.out.below hbw hs3
                    have HB' : Hid (Below w4.heap.size w4 wv) := HB'.out.trans (hbw.mono HB'.out.size)
                    have HO2 : Hid (Mem.Own wv 33 20 A2 (seenL rng q tt (es.take k)).length c2 ((seenL rng q tt (es.take k)).flatMap entCells)) := HO2.out.keeps (Mem.Keeps.of_below hbw) (fun _ _ h => h)
                    clear z0 z1 z2 s10 x0 x1 x2 hbw
                    cases hwn : within tt e.dc e.rng e.seq
                    · have hse : seenE rng q tt e = false := by unfold seenE; rw [hsn, hwn]; simp
                      have hts : Hid (seenL rng q tt (es.take (k + 1)) = seenL rng q tt (es.take k)) := by show _ = _; rw [HTK.out, hse]; simp
                      go_wp2
                      go_roundw
                      case rel => exact ⟨⟨k + 1, A2, c2, by omega, by rw [hts.out], by go_num, by show Mem.Own _ _ _ _ _ _ _; rw [hts.out]; exact HO2.out, HF, HB'⟩⟩
                      case measure => simp [intOf]; omega
                    · have hse : seenE rng q tt e = true := by unfold seenE; rw [hsn, hwn]; simp [HRG.out]
                      have hts : Hid (seenL rng q tt (es.take (k + 1)) = seenL rng q tt (es.take k) ++ [e]) := by show _ = _; rw [HTK.out, hse, if_pos rfl]
                      have hlk : (seenL rng q tt (es.take k)).length ≤ es.length := Nat.le_trans (seenL_len _ _ _ _) (by rw [List.length_take]; omega)
                      go_wp2_with (first | ((with_reducible refine Mem.load_agg _ _ entry_agg wr.heap.size 0 (entCells e) ?hx (entCells_length e) (fun j u hu => by rw [Nat.zero_add]; exact HE2.out.cell hu) ?_); case hx => exact rfl) | ((with_reducible refine Mem.build1_agg _ _ 20 _ Try.underlying22 entry_zero (by decide) (by decide) (entCells e) ?hx (entCells_length e) ?_); case hx => exact rfl) | (at_builtin; refine Mem.wpList_app _ rfl (.tmp 72) (.tmp 74) _ rfl entries_elem A2 (seenL rng q tt (es.take k)).length c2 _ rfl (wv.heap.size + 1) (some ⟨wv.heap.size, 0, none⟩) 1 1 (entCells e) rfl ?_ (HO2.out.alloc _) (Mem.Rd.alloc_new _ _ _ _ rfl) rfl (ent_one e) (by unfold maxLen; omega) (by omega); intro A3 c3 w6 hown hg6 hat))
                      go_roundw
                      case rel =>
                        refine ⟨⟨k + 1, A3, c3, by omega, ?_, by go_num, ?_, ?_, ?_⟩⟩
                        · rw [hts.out, List.length_append, List.length_singleton]
                        · show Mem.Own _ _ _ _ _ _ _
                          rw [hts.out, List.length_append, List.length_singleton, List.flatMap_append]
                          simpa using hown
                        · have hs6 := HB'.out.size
                          rcases hat with rfl | rfl
                          · exact HF
                          · exact Mem.From.some_ (by simp; omega)
                        · exact (HB'.out.alloc HB'.out.size _).grown hg6 (by have := HB'.out.size; simp; omega) (Mem.From.blk HF.out)
                      case measure => simp [intOf]; omega
                · have hrd2 : (e.rng == rng) = false := by simp [hrg]
                  have hse : seenE rng q tt e = false := by unfold seenE; simp [hrg]
                  have hts : Hid (seenL rng q tt (es.take (k + 1)) = seenL rng q tt (es.take k)) := by show _ = _; rw [HTK.out, hse]; simp
                  go_wp2
                  go_roundw
                  case rel => exact ⟨⟨k + 1, A2, c2, by omega, by rw [hts.out], by go_num, by show Mem.Own _ _ _ _ _ _ _; rw [hts.out]; exact HO2.out, HF, HB'⟩⟩
                  case measure => simp [intOf]; omega
              · obtain rfl : k = es.length := by omega
                rw [List.take_length] at HO ⊢
                have hls : (seenL rng q tt es).length ≤ es.length := seenL_len _ _ _ _
                have HRr : Hid (RdAt w q s t col tt wr) := HR.out.below HB.out
                obtain ⟨⟨m, f⟩, hmf⟩ : ∃ mf, greatest q.key (seenL rng q tt es) = mf := ⟨_, rfl⟩
                have HMF := Lib.hid hmf
                have hrd2 : Hid (Vec.read rng q es = ⟨0, f, m, col⟩) := by show _ = _; rw [hrd.out, hmf]
                obtain ⟨sl, hsl⟩ : ∃ sl, seenL rng q tt es = sl := ⟨_, rfl⟩
                rw [hsl] at HO HMF hls ⊢
                have c0 := HRr.out.c.cell (j := 0) rfl
                have c1 := HRr.out.c.cell (j := 1) rfl
                have cc2 := HRr.out.c.cell (j := 2) rfl
                have ho := ans_one ⟨0, false, ent0, col⟩
                clear hmf hsl hrd
                go_upto_region 14 with ((with_reducible refine Mem.store_agg _ _ answer_agg wr.heap.size (ansCells ans0) (ansCells ⟨0, false, ent0, col⟩) ?hxa ?hya ?hba (ansCells_length _) ho ?_); ((case hxa => exact rfl); (case hya => exact rfl); (case hba => exact Mem.Bx.new wr _ (ansCells ans0).toArray rfl rfl); intro w5 hb2 hk2 hs2))
                have HK2 := Lib.hid (hk2.newBox rfl)
                have HB5 : Hid (Below w4.heap.size w4 w5) := HB.out.trans (HK2.out.below (fun k h => h.elim) HB.out.size)
                have HR5 : Hid (RdAt w q s t col tt w5) := HR.out.below HB5.out
                have HA5 : Hid (ABx w5 wr.heap.size ⟨0, false, ent0, col⟩) := hb2
                have HO5 : Hid (Mem.Own w5 33 20 A2 sl.length c2 (sl.flatMap entCells)) := HO.out.keeps HK2.out (fun _ _ h => h)
                have hz5 := HB.out.size
                have hg5 : wr.heap.size < w5.heap.size := hb2.lt
                have k0 := HR5.out.q.cell (j := 0) rfl
                clear hb2 hk2 hs2 c0 c1 cc2 ho HK2 HO
                have hor : w.heap.size + 1 < w4.heap.size := hz4
                go_upto_region 15 with (first | (go_at_call 10; refine (greatest_any q.key A2 c2 sl w5.heap.size w5 HO5.out.rd (Nat.le_refl _) (by unfold maxLen; omega)).mono ?_; rintro x w6 ⟨rfl, hb6⟩; rw [HMF.out]; have HA6 : Hid (ABx w6 wr.heap.size ⟨0, false, ent0, col⟩) := HA5.out.below hb6 hg5; have HB6 : Hid (Below w4.heap.size w4 w6) := HB5.out.trans (hb6.mono HB5.out.size); clear hb6 k0) | ((with_reducible refine Mem.store_part _ _ entry_agg _ _ wr.heap.size 2 (ansCells ⟨0, false, ent0, col⟩) (entCells m) ?hx ?hy HA6.out (entCells_length m) ?hle (ent_one m) ?_); ((case hx => exact rfl); (case hy => exact rfl); (case hle => exact (by decide : 2 + 20 ≤ 25)); intro w7 hb7 hk7 hs7; have HA7 : Hid (ABx w7 wr.heap.size ⟨0, false, m, col⟩) := hb7; have HB7 : Hid (Below w4.heap.size w4 w7) := HB6.out.trans (hk7.below (fun k h => by omega) HB6.out.size); have k1 := HA7.out.cell (j := 1) rfl; have f1 := HA7.out.fr 1; clear hb7 hk7 hs7)))
                obtain ⟨w8, hw8⟩ : ∃ w8, w7.setCell ⟨wr.heap.size, 1, none⟩ (.bool f) = w8 := ⟨_, rfl⟩
                have HA8 : Hid (ABx w8 wr.heap.size ⟨0, f, m, col⟩) := by show ABx _ _ _; rw [← hw8]; exact HA7.out.set 1 _
                have HB8 : Hid (Below w4.heap.size w4 w8) := by show Below _ _ _; rw [← hw8]; exact HB7.out.setCell hz5 _
                have HR8 : Hid (RdAt w q s t col tt w8) := HR.out.below HB8.out
                rw [hw8]
                clear hw8 k1 f1 HA7 HB7
                go_wp2_with (first | ((with_reducible refine Mem.load_agg _ _ answer_agg wr.heap.size 0 (ansCells ⟨0, f, m, col⟩) ?hx (ansCells_length _) (fun j u hu => by rw [Nat.zero_add]; exact HA8.out.cell hu) ?_); case hx => exact rfl) | ((with_reducible refine Mem.store_agg _ _ answer_agg (w.heap.size + 1) (ansCells ans0) (ansCells ⟨0, f, m, col⟩) ?hx ?hy HR8.out.a (ansCells_length _) (ans_one _) ?_); ((case hx => exact rfl); (case hy => exact rfl); intro w9 hb9 hk9 hs9)))
                refine bodyPost_ret (v := .agg (ansCells ⟨0, f, m, col⟩).toArray) ?_ rfl ⟨by rw [hrd2.out], HR8.out.b.trans (hk9.below (fun k h => by omega) (HR8.out.b.size))⟩
                exact Mem.results_agg Try.results11 answer_agg rfl hb9
end Go.Proofs.Ytiibgkgbghganaa
