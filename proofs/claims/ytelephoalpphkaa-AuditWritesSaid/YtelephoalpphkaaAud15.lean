/- The walk of rules$1. No conditions but that lists are few. -/
import Derived.Test.YtelephoalpphkaaAud14
set_option maxRecDepth 8000
namespace Go.Proofs.Ytelephoalpphkaa
open Go.ChangeShapes Go.WideShapes Go.ChangeAt Go.RowKit
set_option linter.unusedVariables false
set_option linter.unusedSimpArgs false
namespace Au
abbrev KBx (w : World) (g : Nat) (e : Ev) : Prop := Mem.Bx w 42 4 g (askCells e)
/-- what the first of the rules' tails finds -/
structure R2At (w : World) (B : Nat) (gc bc gs bs : Nat) (k : Ck) (s : Ss) (e : Ev) (w2 : World) (p q : Nat) : Prop where
  c : Cx w2 B gc bc gs bs k s
  x : VBx w2 w.heap.size e
  p : KBx w2 p e
  q : KBx w2 q s.begun
  b : Below w.heap.size w w2
  o : EvOk w2 B e
end Au
open Au in
set_option maxHeartbeats 8000000 in
theorem rule2_any {w : World} {B gc bc gs bs : Nat} {k : Au.Ck} {s : Au.Ss} {e : Au.Ev} (hC : Au.Cx w B gc bc gs bs k s) (h : Au.EvOk w B e) :
    Calls Try.prog 44 #[.agg (Au.evCells e).toArray, .pointer (some ⟨bs, 0, none⟩)] w fun x w' => x = .returned (.bool (Au.r2 s e)) ∧ Below w.heap.size w w' := by
  have hB1 : Below w.heap.size w (w.alloc (.cells (Au.evCells e).toArray 46)) := Reg.below_new _ _
  have hX1 : Au.VBx (w.alloc (.cells (Au.evCells e).toArray 46)) w.heap.size e := Mem.Bx.new w 46 (Au.evCells e).toArray rfl rfl
  obtain ⟨w1, hw1⟩ : ∃ w1, w.alloc (.cells (Au.evCells e).toArray 46) = w1 := ⟨_, rfl⟩
  rw [hw1] at hB1 hX1
  have HB1 := Lib.hid hB1
  have HX1 := Lib.hid hX1
  unfold Au.evCells at hw1 ⊢
  clear hB1 hX1
  have HC1 := Lib.hid (hC.below HB1.out)
  have HO1 := Lib.hid (h.below (HB1.out.mono hC.le) (Nat.le_refl _))
  clear h hC
  go_enter Try.func44, Try.ntmps44
  go_upto_region 1 with fail
  try rw [hw1]
  clear hw1
  have y0 : w1.cell? ⟨bs, 0, none⟩ = some (.pointer (some ⟨gs, 0, none⟩)) := HC1.out.ps.cell (j := 0) rfl
  have hbs : bs < w1.heap.size := HC1.out.ps.lt
  have nbs : ¬ (w1.heap.size ≤ bs ∨ w1.heap.size ≤ bs ∨ False) := fun h => by rcases h with h | h | h <;> first | omega | exact h
  refine Reg.wp_region_z (by kernel_rfl) 48 11 rfl rfl (by kernel_rfl) 7 8 (by decide) (9) (fun y => w1.heap.size ≤ y) (10) (fun y => w1.heap.size ≤ y) (0) (fun _ => False)
    (fun i f v u => match i with
      | 0 => v = .pointer (some ⟨w.heap.size, 2, none⟩)
      | 1 => v = .agg (askCells e).toArray
      | 2 => v = .pointer (some ⟨gs, 0, none⟩)
      | 3 => v = .pointer (some ⟨gs, 0, none⟩)
      | 4 => v = .pointer (some ⟨gs, 1, none⟩)
      | 5 => v = .pointer (some ⟨gs, 3, none⟩)
      | 6 => v = .agg (askCells s.begun).toArray
      | 7 => ∃ s, v = .pointer (some ⟨s, 0, none⟩) ∧ w1.heap.size ≤ s ∧ KBx u s ev0
      | 8 => ∃ s, v = .pointer (some ⟨s, 0, none⟩) ∧ w1.heap.size ≤ s ∧ KBx u s ev0
      | 9 => ∃ p q, f 4 = .pointer (some ⟨p, 0, none⟩) ∧ f 5 = .pointer (some ⟨q, 0, none⟩) ∧ p ≠ q ∧ w1.heap.size ≤ p ∧ w1.heap.size ≤ q ∧ KBx u p e ∧ KBx u q ev0
      | 10 => ∃ p q, f 4 = .pointer (some ⟨p, 0, none⟩) ∧ f 5 = .pointer (some ⟨q, 0, none⟩) ∧ p ≠ q ∧ w1.heap.size ≤ p ∧ w1.heap.size ≤ q ∧ KBx u p e ∧ KBx u q s.begun
      | _ => True) ?_ ?_
  · refine Reg.StepsZ.cons ?_ (Reg.StepsZ.cons ?_ (Reg.StepsZ.cons ?_ (Reg.StepsZ.cons ?_ (Reg.StepsZ.cons ?_ (Reg.StepsZ.cons ?_ (Reg.StepsZ.cons ?_ (Reg.StepsZ.cons ?_ (Reg.StepsZ.cons ?_ (Reg.StepsZ.cons ?_ (Reg.StepsZ.cons ?_ (Reg.StepsZ.nil _)))))))))))
    · intro val ac u hR hp hpq ha K hK0      -- 0: t6 := Op.fieldAddr 46 t2 2
      have hK := fun v w' h1 h2 => hK0 v w' h1 h2 (fun j f v' h _ => by omega)
      have e2 : (ac.tmps[2]?).getD undef = .pointer (some ⟨w.heap.size, 0, none⟩) := ha 2 (by decide)
      clear ha hp
      refine Reg.Op1.plain rfl ?_
      go_wp2
      exact ⟨rfl, hK _ _ rfl (Reg.Wr.same _)⟩
    · intro val ac u hR hp hpq ha K hK0      -- 1: t7 := Op.load 42 t6
      have hK := fun v w' h1 h2 => hK0 v w' h1 h2 (fun j f v' h _ => by omega)
      obtain ⟨w6, h6, r6⟩ := hp 0 (by decide)
      have e6 : (ac.tmps[6]?).getD undef = .pointer (some ⟨w.heap.size, 2, none⟩) := (ha 6 (by decide)).trans h6
      clear h6
      clear ha hp
      refine Reg.Op1.plain rfl ?_
      have hXu := HX1.out.keeps ((Mem.Keeps.refl (fun y => w1.heap.size ≤ y ∨ w1.heap.size ≤ y ∨ False) w1).drew.trans (Reg.Wr.all hR) (fun _ h _ => h)) (fun h => by have := HX1.out.lt; rcases h with h | h | h <;> first | omega | exact h)
      refine Mem.load_agg _ _ ask_agg w.heap.size 2 (askCells e) (Reg.eval_of e6) (askCells_length _) (VBx.ask hXu) ?_
      exact ⟨rfl, hK _ _ rfl (Reg.Wr.same _)⟩
    · intro val ac u hR hp hpq ha K hK0      -- 2: t8 := Op.load 78 t1
      have hK := fun v w' h1 h2 => hK0 v w' h1 h2 (fun j f v' h _ => by omega)
      have e1 : (ac.tmps[1]?).getD undef = .pointer (some ⟨bs, 0, none⟩) := ha 1 (by decide)
      clear ha hp
      refine Reg.Op1.plain rfl ?_
      have x0 := (((Reg.Wr.all hR)).cell (p := ⟨bs, 0, none⟩) (hbs) (nbs)).trans (y0)
      go_wp2
      exact ⟨rfl, hK _ _ rfl (Reg.Wr.same _)⟩
    · intro val ac u hR hp hpq ha K hK0      -- 3: t9 := Op.nilCheck t8
      have hK := fun v w' h1 h2 => hK0 v w' h1 h2 (fun j f v' h _ => by omega)
      obtain ⟨w8, h8, r8⟩ := hp 2 (by decide)
      have e8 : (ac.tmps[8]?).getD undef = .pointer (some ⟨gs, 0, none⟩) := (ha 8 (by decide)).trans h8
      clear h8
      clear ha hp
      refine Reg.Op1.plain rfl ?_
      go_wp2
      exact ⟨rfl, hK _ _ rfl (Reg.Wr.same _)⟩
    · intro val ac u hR hp hpq ha K hK0      -- 4: t10 := Op.fieldAddr 81 t9 1
      have hK := fun v w' h1 h2 => hK0 v w' h1 h2 (fun j f v' h _ => by omega)
      obtain ⟨w9, h9, r9⟩ := hp 3 (by decide)
      have e9 : (ac.tmps[9]?).getD undef = .pointer (some ⟨gs, 0, none⟩) := (ha 9 (by decide)).trans h9
      clear h9
      clear ha hp
      refine Reg.Op1.plain rfl ?_
      go_wp2
      exact ⟨rfl, hK _ _ rfl (Reg.Wr.same _)⟩
    · intro val ac u hR hp hpq ha K hK0      -- 5: t11 := Op.fieldAddr 46 t10 2
      have hK := fun v w' h1 h2 => hK0 v w' h1 h2 (fun j f v' h _ => by omega)
      obtain ⟨w10, h10, r10⟩ := hp 4 (by decide)
      have e10 : (ac.tmps[10]?).getD undef = .pointer (some ⟨gs, 1, none⟩) := (ha 10 (by decide)).trans h10
      clear h10
      clear ha hp
      refine Reg.Op1.plain rfl ?_
      go_wp2
      exact ⟨rfl, hK _ _ rfl (Reg.Wr.same _)⟩
    · intro val ac u hR hp hpq ha K hK0      -- 6: t12 := Op.load 42 t11
      have hK := fun v w' h1 h2 => hK0 v w' h1 h2 (fun j f v' h _ => by omega)
      obtain ⟨w11, h11, r11⟩ := hp 5 (by decide)
      have e11 : (ac.tmps[11]?).getD undef = .pointer (some ⟨gs, 3, none⟩) := (ha 11 (by decide)).trans h11
      clear h11
      clear ha hp
      refine Reg.Op1.plain rfl ?_
      have hSu := HC1.out.sb.keeps ((Mem.Keeps.refl (fun y => w1.heap.size ≤ y ∨ w1.heap.size ≤ y ∨ False) w1).drew.trans (Reg.Wr.all hR) (fun _ h _ => h)) (fun h => by have := HC1.out.sb.lt; rcases h with h | h | h <;> first | omega | exact h)
      refine Mem.load_agg _ _ ask_agg gs 3 (askCells s.begun) (Reg.eval_of e11) (askCells_length _) (SBx.ask hSu) ?_
      exact ⟨rfl, hK _ _ rfl (Reg.Wr.same _)⟩
    · intro val ac u hR hp hpq ha K hK0      -- 7: t4 := Op.alloc 42
      have hK := hK0
      clear ha hp
      refine Reg.Op1.plain rfl ?_
      have hbu : w1.heap.size ≤ u.heap.size := (Reg.Wr.all hR).size
      go_wp2
      refine ⟨rfl, hK _ _ ⟨u.heap.size, rfl, hbu, Mem.Bx.new u 42 (askCells ev0).toArray rfl rfl⟩ (Reg.Wr.below (Reg.below_new _ _)) (fun j f v' hij hh e => ?_)⟩
      obtain rfl : j = 8 := by omega
      obtain ⟨wj, ⟨s', h1, h2, h3⟩, hr8⟩ := hh
      have h4 := (Reg.Wr.all hr8).size
      have h5 := h3.lt
      rw [h1] at e
      cases e
      omega
    · intro val ac u hR hp hpq ha K hK0      -- 8: t5 := Op.alloc 42
      have hK := hK0
      clear ha hp
      refine Reg.Op1.plain rfl ?_
      have hbu : w1.heap.size ≤ u.heap.size := (Reg.Wr.all hR).size
      go_wp2
      refine ⟨rfl, hK _ _ ⟨u.heap.size, rfl, hbu, Mem.Bx.new u 42 (askCells ev0).toArray rfl rfl⟩ (Reg.Wr.below (Reg.below_new _ _)) (fun j f v' hij hh e => ?_)⟩
      obtain rfl : j = 7 := by omega
      obtain ⟨wj, ⟨s', h1, h2, h3⟩, hr8⟩ := hh
      have h4 := (Reg.Wr.all hr8).size
      have h5 := h3.lt
      rw [h1] at e
      cases e
      omega
    · intro val ac u hR hp hpq ha K hK0      -- 9: Op.store 42 t4 t7
      have hK := fun v w' h1 h2 => hK0 v w' h1 h2 (fun j f v' h _ => by omega)
      obtain ⟨w4, h4, r4⟩ := hp 7 (by decide)
      have e4 : (ac.tmps[4]?).getD undef = val 7 := ha 4 (by decide)
      obtain ⟨w7, h7, r7⟩ := hp 1 (by decide)
      have e7 : (ac.tmps[7]?).getD undef = .agg (askCells e).toArray := (ha 7 (by decide)).trans h7
      clear h7
      obtain ⟨w5, h5, r5⟩ := hp 8 (by decide)
      clear ha hp
      refine Reg.Op1.plain rfl ?_
      obtain ⟨p, hv, hs, hbx⟩ := h4
      obtain ⟨q, hv8, hs8, hbx8⟩ := h5
      have hne := hpq (by decide) (by decide)
      have hv7 := hv
      rw [hv] at e4
      rw [hv, hv8] at hne
      have hne' : p ≠ q := fun e => hne (by rw [e])
      have hb2 : KBx u p ev0 := hbx.keeps (Reg.Wr.only3 r4 (by decide +kernel) (by decide +kernel)) id
      have hb8 : KBx u q ev0 := hbx8.keeps (Reg.Wr.only3 r5 (by decide +kernel) (by decide +kernel)) id
      refine Mem.store_agg _ _ ask_agg p (askCells ev0) (askCells e) (Reg.eval_of e4) (Reg.eval_of e7) hb2 (askCells_length _) (ask_one _) ?_
      intro w' hb hk hs'
      exact ⟨rfl, hK undef _ ⟨p, q, hv7, hv8, hne', hs, hs8, hb, hb8.keeps hk (fun h => hne' h.symm)⟩ (Reg.Wr.does1 (hk.mono (fun i h _ => by show w1.heap.size ≤ i; omega)))⟩
    · intro val ac u hR hp hpq ha K hK0      -- 10: Op.store 42 t5 t12
      have hK := fun v w' h1 h2 => hK0 v w' h1 h2 (fun j f v' h _ => by omega)
      obtain ⟨w5, h5, r5⟩ := hp 8 (by decide)
      have e5 : (ac.tmps[5]?).getD undef = val 8 := ha 5 (by decide)
      obtain ⟨w12, h12, r12⟩ := hp 6 (by decide)
      have e12 : (ac.tmps[12]?).getD undef = .agg (askCells s.begun).toArray := (ha 12 (by decide)).trans h12
      clear h12
      obtain ⟨w4, h4, r4⟩ := hp 7 (by decide)
      obtain ⟨w_9, h_9, r_9⟩ := hp 9 (by decide)
      clear ha hp
      refine Reg.Op1.plain rfl ?_
      obtain ⟨p, q, hv7, hv8, hne, hs, ht, hb1, hb2⟩ := h_9
      have hv7 : val 7 = .pointer (some ⟨p, 0, none⟩) := hv7
      have hv8 : val 8 = .pointer (some ⟨q, 0, none⟩) := hv8
      rw [hv8] at e5
      have hb2 : KBx u q ev0 := hb2.keeps (Reg.Wr.only3 r_9 (by decide +kernel) (by decide +kernel)) id
      have hb1 : KBx u p e := hb1.keeps (Reg.Wr.only3 r_9 (by decide +kernel) (by decide +kernel)) id
      refine Mem.store_agg _ _ ask_agg q (askCells ev0) (askCells s.begun) (Reg.eval_of e5) (Reg.eval_of e12) hb2 (askCells_length _) (ask_one _) ?_
      intro w' hb hk hs'
      exact ⟨rfl, hK undef _ ⟨p, q, hv7, hv8, hne, hs, ht, hb1.keeps hk (fun h => hne h), hb⟩ (Reg.Wr.does2 (hk.mono (fun i h _ => by show w1.heap.size ≤ i; omega)))⟩
  intro val u hR H hZ
  obtain ⟨wA, ⟨p, q, hv7, hv8, hne, hs, ht, hb1, hb2⟩, rA⟩ := H 10 (by decide)
  have hv7 : val 7 = .pointer (some ⟨p, 0, none⟩) := hv7
  have hv8 : val 8 = .pointer (some ⟨q, 0, none⟩) := hv8
  have hkA := Reg.Wr.only3 rA (by decide +kernel) (by decide +kernel)
  have hk1 : Mem.Keeps (fun y => w1.heap.size ≤ y ∨ w1.heap.size ≤ y ∨ False) w1 u := (Mem.Keeps.refl (fun y => w1.heap.size ≤ y ∨ w1.heap.size ≤ y ∨ False) w1).drew.trans (Reg.Wr.all hR) (fun _ h _ => h)
  have hb3 : Below w1.heap.size w1 u := hk1.below (fun y h => by rcases h with h | h | h <;> first | omega | exact h.elim) (Nat.le_refl _)
  have HR : Hid (R2At w B gc bc gs bs k s e u p q) := ⟨HC1.out.below hb3, HX1.out.below hb3 HX1.out.lt, hb1.keeps hkA id, hb2.keeps hkA id, HB1.out.trans (hb3.mono HB1.out.size), HO1.out.below (hb3.mono HC1.out.le) (Nat.le_refl _)⟩
  simp only [List.map_cons, List.map_nil, Reg.lay, Act.put, List.setIfInBounds_toArray, List.set_cons_succ, List.set_cons_zero, Nat.reduceAdd]
  rw [hv7, hv8]
  clear hR H hZ hk1 hkA hb1 hb2 rA hv7 hv8 hb3 hne hs ht wA
  clear y0 hbs nbs HC1 HX1 HB1 HO1
  rename World => w2
  have y0 : w2.cell? ⟨bs, 0, none⟩ = some (.pointer (some ⟨gs, 0, none⟩)) := HR.out.c.ps.cell (j := 0) rfl
  have y1 : w2.cell? ⟨gs, 0, none⟩ = some (.bool s.under) := HR.out.c.sb.cell (j := 0) rfl
  have y2 : w2.cell? ⟨w.heap.size, 1, none⟩ = some (.int .i64 e.op) := HR.out.x.cell (j := 1) rfl
  have y3 : w2.cell? ⟨gs, 2, none⟩ = some (.int .i64 s.begun.op) := HR.out.c.sb.cell (j := 2) rfl
  have y4 : w2.cell? ⟨p, 0, none⟩ = some (.int .i64 e.kind) := HR.out.p.cell (j := 0) rfl
  have y5 : w2.cell? ⟨q, 0, none⟩ = some (.int .i64 s.begun.kind) := HR.out.q.cell (j := 0) rfl
  have y6 : w2.cell? ⟨p, 1, none⟩ = some (.slice e.kA e.keys.length e.kc) := HR.out.p.cell (j := 1) rfl
  have y7 : w2.cell? ⟨q, 1, none⟩ = some (.slice s.begun.kA s.begun.keys.length s.begun.kc) := HR.out.q.cell (j := 1) rfl
  have y8 : w2.cell? ⟨p, 2, none⟩ = some (.string e.val) := HR.out.p.cell (j := 2) rfl
  have y9 : w2.cell? ⟨q, 2, none⟩ = some (.string s.begun.val) := HR.out.q.cell (j := 2) rfl
  have hbs : bs < w2.heap.size := HR.out.c.ps.lt
  have hgs : gs < w2.heap.size := HR.out.c.sb.lt
  have hxs : w.heap.size < w2.heap.size := HR.out.x.lt
  have hps : p < w2.heap.size := HR.out.p.lt
  have hqs : q < w2.heap.size := HR.out.q.lt
  have nof : ¬ (False ∨ False ∨ False) := fun h => h.elim id (fun h => h.elim id id)
  obtain ⟨ky, hky⟩ : ∃ ky, decide (e.keys = s.begun.keys) = ky := ⟨_, rfl⟩
  have HKE := Lib.hid hky
  have HRQ : Hid (r2 s e = (s.under && (decide (e.op = s.begun.op) && (decide (e.kind = s.begun.kind) && (ky && decide (e.val = s.begun.val)))))) := by show _ = _; unfold r2; rw [hky]
  clear hky
  cases hu : s.under with
  | false =>
    have HRS : Hid (r2 s e = false) := by show _ = _; rw [HRQ.out, hu]; rfl
    rw [hu] at y1
    clear hu HRQ
    go_upto_region 2 with fail
    refine Reg.wp_region_w (by kernel_rfl) 48 36 rfl rfl (by kernel_rfl) (0) (fun _ => False) (0) (fun _ => False) (0) (fun _ => False)
      (fun i v u => match i with
        | 0 => v = .pointer (some ⟨gs, 0, none⟩)
        | 1 => v = .pointer (some ⟨gs, 0, none⟩)
        | 2 => v = .pointer (some ⟨gs, 0, none⟩)
        | 3 => v = .bool false
        | 4 => v = .bool false
        | 5 => v = undef
        | 6 => v = undef
        | 7 => v = undef
        | 8 => v = undef
        | 9 => v = undef
        | 10 => v = undef
        | 11 => v = undef
        | 12 => v = undef
        | 13 => v = .bool false
        | 14 => v = .bool false
        | 15 => v = undef
        | 16 => v = undef
        | 17 => v = undef
        | 18 => v = undef
        | 19 => v = undef
        | 20 => v = .bool false
        | 21 => v = .bool false
        | 22 => v = undef
        | 23 => v = undef
        | 24 => v = undef
        | 25 => v = undef
        | 26 => v = undef
        | 27 => v = .bool false
        | 28 => v = .bool false
        | 29 => v = undef
        | 30 => v = undef
        | 31 => v = undef
        | 32 => v = undef
        | 33 => v = undef
        | 34 => v = .bool false
        | 35 => v = .bool false
        | _ => True) ?_ ?_
    · refine Reg.Steps.cons ?_ (Reg.Steps.cons ?_ (Reg.Steps.cons ?_ (Reg.Steps.cons ?_ (Reg.Steps.cons ?_ (Reg.Steps.cons ?_ (Reg.Steps.cons ?_ (Reg.Steps.cons ?_ (Reg.Steps.cons ?_ (Reg.Steps.cons ?_ (Reg.Steps.cons ?_ (Reg.Steps.cons ?_ (Reg.Steps.cons ?_ (Reg.Steps.cons ?_ (Reg.Steps.cons ?_ (Reg.Steps.cons ?_ (Reg.Steps.cons ?_ (Reg.Steps.cons ?_ (Reg.Steps.cons ?_ (Reg.Steps.cons ?_ (Reg.Steps.cons ?_ (Reg.Steps.cons ?_ (Reg.Steps.cons ?_ (Reg.Steps.cons ?_ (Reg.Steps.cons ?_ (Reg.Steps.cons ?_ (Reg.Steps.cons ?_ (Reg.Steps.cons ?_ (Reg.Steps.cons ?_ (Reg.Steps.cons ?_ (Reg.Steps.cons ?_ (Reg.Steps.cons ?_ (Reg.Steps.cons ?_ (Reg.Steps.cons ?_ (Reg.Steps.cons ?_ (Reg.Steps.cons ?_ (Reg.Steps.nil _))))))))))))))))))))))))))))))))))))
      · intro val ac u hR hp ha K hK      -- 0: t13 := Op.load 78 t1
        have e1 : (ac.tmps[1]?).getD undef = .pointer (some ⟨bs, 0, none⟩) := ha 1 (by decide)
        clear ha hp
        refine Reg.Op1.plain rfl ?_
        have x0 := (((Reg.Wr.all hR)).cell (p := ⟨bs, 0, none⟩) (hbs) (nof)).trans (y0)
        go_wp2
        exact ⟨rfl, hK _ _ rfl (Reg.Wr.same _)⟩
      · intro val ac u hR hp ha K hK      -- 1: t14 := Op.nilCheck t13
        obtain ⟨w13, h13, r13⟩ := hp 0 (by decide)
        have e13 : (ac.tmps[13]?).getD undef = .pointer (some ⟨gs, 0, none⟩) := (ha 13 (by decide)).trans h13
        clear h13
        clear ha hp
        refine Reg.Op1.plain rfl ?_
        go_wp2
        exact ⟨rfl, hK _ _ rfl (Reg.Wr.same _)⟩
      · intro val ac u hR hp ha K hK      -- 2: t15 := Op.fieldAddr 81 t14 0
        obtain ⟨w14, h14, r14⟩ := hp 1 (by decide)
        have e14 : (ac.tmps[14]?).getD undef = .pointer (some ⟨gs, 0, none⟩) := (ha 14 (by decide)).trans h14
        clear h14
        clear ha hp
        refine Reg.Op1.plain rfl ?_
        go_wp2
        exact ⟨rfl, hK _ _ rfl (Reg.Wr.same _)⟩
      · intro val ac u hR hp ha K hK      -- 3: t16 := Op.load 4 t15
        obtain ⟨w15, h15, r15⟩ := hp 2 (by decide)
        have e15 : (ac.tmps[15]?).getD undef = .pointer (some ⟨gs, 0, none⟩) := (ha 15 (by decide)).trans h15
        clear h15
        clear ha hp
        refine Reg.Op1.plain rfl ?_
        have x0 := (((Reg.Wr.all hR)).cell (p := ⟨gs, 0, none⟩) (hgs) (nof)).trans (y1)
        go_wp2
        exact ⟨rfl, hK _ _ rfl (Reg.Wr.same _)⟩
      · intro val ac u hR hp ha K hK      -- 4: t17 := Op.move t16
        obtain ⟨w16, h16, r16⟩ := hp 3 (by decide)
        have e16 : (ac.tmps[16]?).getD undef = .bool false := (ha 16 (by decide)).trans h16
        clear h16
        clear ha hp
        refine Reg.Op1.plain rfl ?_
        go_wp2
        exact ⟨rfl, hK _ _ rfl (Reg.Wr.same _)⟩
      · intro val ac u hR hp ha K hK      -- 5: t18 := Op.fieldAddr 46 t2 1
        obtain ⟨w17, h17, r17⟩ := hp 4 (by decide)
        have e17 : (ac.tmps[17]?).getD undef = .bool false := (ha 17 (by decide)).trans h17
        clear h17
        clear ha hp
        exact Reg.Op1.guarded rfl rfl e17 (fun h => by cases h) (fun _ => hK _ _ rfl (Reg.Wr.same _))
      · intro val ac u hR hp ha K hK      -- 6: t19 := Op.load 3 t18
        obtain ⟨w17, h17, r17⟩ := hp 4 (by decide)
        have e17 : (ac.tmps[17]?).getD undef = .bool false := (ha 17 (by decide)).trans h17
        clear h17
        clear ha hp
        exact Reg.Op1.guarded rfl rfl e17 (fun h => by cases h) (fun _ => hK _ _ rfl (Reg.Wr.same _))
      · intro val ac u hR hp ha K hK      -- 7: t20 := Op.load 78 t1
        obtain ⟨w17, h17, r17⟩ := hp 4 (by decide)
        have e17 : (ac.tmps[17]?).getD undef = .bool false := (ha 17 (by decide)).trans h17
        clear h17
        clear ha hp
        exact Reg.Op1.guarded rfl rfl e17 (fun h => by cases h) (fun _ => hK _ _ rfl (Reg.Wr.same _))
      · intro val ac u hR hp ha K hK      -- 8: t21 := Op.nilCheck t20
        obtain ⟨w17, h17, r17⟩ := hp 4 (by decide)
        have e17 : (ac.tmps[17]?).getD undef = .bool false := (ha 17 (by decide)).trans h17
        clear h17
        clear ha hp
        exact Reg.Op1.guarded rfl rfl e17 (fun h => by cases h) (fun _ => hK _ _ rfl (Reg.Wr.same _))
      · intro val ac u hR hp ha K hK      -- 9: t22 := Op.fieldAddr 81 t21 1
        obtain ⟨w17, h17, r17⟩ := hp 4 (by decide)
        have e17 : (ac.tmps[17]?).getD undef = .bool false := (ha 17 (by decide)).trans h17
        clear h17
        clear ha hp
        exact Reg.Op1.guarded rfl rfl e17 (fun h => by cases h) (fun _ => hK _ _ rfl (Reg.Wr.same _))
      · intro val ac u hR hp ha K hK      -- 10: t23 := Op.fieldAddr 46 t22 1
        obtain ⟨w17, h17, r17⟩ := hp 4 (by decide)
        have e17 : (ac.tmps[17]?).getD undef = .bool false := (ha 17 (by decide)).trans h17
        clear h17
        clear ha hp
        exact Reg.Op1.guarded rfl rfl e17 (fun h => by cases h) (fun _ => hK _ _ rfl (Reg.Wr.same _))
      · intro val ac u hR hp ha K hK      -- 11: t24 := Op.load 3 t23
        obtain ⟨w17, h17, r17⟩ := hp 4 (by decide)
        have e17 : (ac.tmps[17]?).getD undef = .bool false := (ha 17 (by decide)).trans h17
        clear h17
        clear ha hp
        exact Reg.Op1.guarded rfl rfl e17 (fun h => by cases h) (fun _ => hK _ _ rfl (Reg.Wr.same _))
      · intro val ac u hR hp ha K hK      -- 12: t25 := Op.binOp BinOp.eql 3 t19 t24 3
        obtain ⟨w17, h17, r17⟩ := hp 4 (by decide)
        have e17 : (ac.tmps[17]?).getD undef = .bool false := (ha 17 (by decide)).trans h17
        clear h17
        clear ha hp
        exact Reg.Op1.guarded rfl rfl e17 (fun h => by cases h) (fun _ => hK _ _ rfl (Reg.Wr.same _))
      · intro val ac u hR hp ha K hK      -- 13: t26 := Op.pick t17 t25 (const (Value.bool false))
        obtain ⟨w17, h17, r17⟩ := hp 4 (by decide)
        have e17 : (ac.tmps[17]?).getD undef = .bool false := (ha 17 (by decide)).trans h17
        clear h17
        obtain ⟨w25, h25, r25⟩ := hp 12 (by decide)
        have e25 : (ac.tmps[25]?).getD undef = undef := (ha 25 (by decide)).trans h25
        clear h25
        clear ha hp
        refine Reg.Op1.plain rfl ?_
        go_wp2
        exact ⟨rfl, hK _ _ rfl (Reg.Wr.same _)⟩
      · intro val ac u hR hp ha K hK      -- 14: t27 := Op.move t26
        obtain ⟨w26, h26, r26⟩ := hp 13 (by decide)
        have e26 : (ac.tmps[26]?).getD undef = .bool false := (ha 26 (by decide)).trans h26
        clear h26
        clear ha hp
        refine Reg.Op1.plain rfl ?_
        go_wp2
        exact ⟨rfl, hK _ _ rfl (Reg.Wr.same _)⟩
      · intro val ac u hR hp ha K hK      -- 15: t28 := Op.fieldAddr 42 t4 0
        obtain ⟨w27, h27, r27⟩ := hp 14 (by decide)
        have e27 : (ac.tmps[27]?).getD undef = .bool false := (ha 27 (by decide)).trans h27
        clear h27
        clear ha hp
        exact Reg.Op1.guarded rfl rfl e27 (fun h => by cases h) (fun _ => hK _ _ rfl (Reg.Wr.same _))
      · intro val ac u hR hp ha K hK      -- 16: t29 := Op.load 3 t28
        obtain ⟨w27, h27, r27⟩ := hp 14 (by decide)
        have e27 : (ac.tmps[27]?).getD undef = .bool false := (ha 27 (by decide)).trans h27
        clear h27
        clear ha hp
        exact Reg.Op1.guarded rfl rfl e27 (fun h => by cases h) (fun _ => hK _ _ rfl (Reg.Wr.same _))
      · intro val ac u hR hp ha K hK      -- 17: t30 := Op.fieldAddr 42 t5 0
        obtain ⟨w27, h27, r27⟩ := hp 14 (by decide)
        have e27 : (ac.tmps[27]?).getD undef = .bool false := (ha 27 (by decide)).trans h27
        clear h27
        clear ha hp
        exact Reg.Op1.guarded rfl rfl e27 (fun h => by cases h) (fun _ => hK _ _ rfl (Reg.Wr.same _))
      · intro val ac u hR hp ha K hK      -- 18: t31 := Op.load 3 t30
        obtain ⟨w27, h27, r27⟩ := hp 14 (by decide)
        have e27 : (ac.tmps[27]?).getD undef = .bool false := (ha 27 (by decide)).trans h27
        clear h27
        clear ha hp
        exact Reg.Op1.guarded rfl rfl e27 (fun h => by cases h) (fun _ => hK _ _ rfl (Reg.Wr.same _))
      · intro val ac u hR hp ha K hK      -- 19: t32 := Op.binOp BinOp.eql 3 t29 t31 3
        obtain ⟨w27, h27, r27⟩ := hp 14 (by decide)
        have e27 : (ac.tmps[27]?).getD undef = .bool false := (ha 27 (by decide)).trans h27
        clear h27
        clear ha hp
        exact Reg.Op1.guarded rfl rfl e27 (fun h => by cases h) (fun _ => hK _ _ rfl (Reg.Wr.same _))
      · intro val ac u hR hp ha K hK      -- 20: t33 := Op.pick t27 t32 (const (Value.bool false))
        obtain ⟨w27, h27, r27⟩ := hp 14 (by decide)
        have e27 : (ac.tmps[27]?).getD undef = .bool false := (ha 27 (by decide)).trans h27
        clear h27
        obtain ⟨w32, h32, r32⟩ := hp 19 (by decide)
        have e32 : (ac.tmps[32]?).getD undef = undef := (ha 32 (by decide)).trans h32
        clear h32
        clear ha hp
        refine Reg.Op1.plain rfl ?_
        go_wp2
        exact ⟨rfl, hK _ _ rfl (Reg.Wr.same _)⟩
      · intro val ac u hR hp ha K hK      -- 21: t34 := Op.move t33
        obtain ⟨w33, h33, r33⟩ := hp 20 (by decide)
        have e33 : (ac.tmps[33]?).getD undef = .bool false := (ha 33 (by decide)).trans h33
        clear h33
        clear ha hp
        refine Reg.Op1.plain rfl ?_
        go_wp2
        exact ⟨rfl, hK _ _ rfl (Reg.Wr.same _)⟩
      · intro val ac u hR hp ha K hK      -- 22: t35 := Op.fieldAddr 42 t4 1
        obtain ⟨w34, h34, r34⟩ := hp 21 (by decide)
        have e34 : (ac.tmps[34]?).getD undef = .bool false := (ha 34 (by decide)).trans h34
        clear h34
        clear ha hp
        exact Reg.Op1.guarded rfl rfl e34 (fun h => by cases h) (fun _ => hK _ _ rfl (Reg.Wr.same _))
      · intro val ac u hR hp ha K hK      -- 23: t36 := Op.load 40 t35
        obtain ⟨w34, h34, r34⟩ := hp 21 (by decide)
        have e34 : (ac.tmps[34]?).getD undef = .bool false := (ha 34 (by decide)).trans h34
        clear h34
        clear ha hp
        exact Reg.Op1.guarded rfl rfl e34 (fun h => by cases h) (fun _ => hK _ _ rfl (Reg.Wr.same _))
      · intro val ac u hR hp ha K hK      -- 24: t37 := Op.fieldAddr 42 t5 1
        obtain ⟨w34, h34, r34⟩ := hp 21 (by decide)
        have e34 : (ac.tmps[34]?).getD undef = .bool false := (ha 34 (by decide)).trans h34
        clear h34
        clear ha hp
        exact Reg.Op1.guarded rfl rfl e34 (fun h => by cases h) (fun _ => hK _ _ rfl (Reg.Wr.same _))
      · intro val ac u hR hp ha K hK      -- 25: t38 := Op.load 40 t37
        obtain ⟨w34, h34, r34⟩ := hp 21 (by decide)
        have e34 : (ac.tmps[34]?).getD undef = .bool false := (ha 34 (by decide)).trans h34
        clear h34
        clear ha hp
        exact Reg.Op1.guarded rfl rfl e34 (fun h => by cases h) (fun _ => hK _ _ rfl (Reg.Wr.same _))
      · intro val ac u hR hp ha K hK      -- 26: t39 := Op.call { value (Operand.func 45), args := #[t36, t38], argTypes := #[40, 40] }
        obtain ⟨w34, h34, r34⟩ := hp 21 (by decide)
        have e34 : (ac.tmps[34]?).getD undef = .bool false := (ha 34 (by decide)).trans h34
        clear h34
        clear ha hp
        exact Reg.Op1.guarded rfl rfl e34 (fun h => by cases h) (fun _ => hK _ _ rfl (Reg.Wr.same _))
      · intro val ac u hR hp ha K hK      -- 27: t40 := Op.pick t34 t39 (const (Value.bool false))
        obtain ⟨w34, h34, r34⟩ := hp 21 (by decide)
        have e34 : (ac.tmps[34]?).getD undef = .bool false := (ha 34 (by decide)).trans h34
        clear h34
        obtain ⟨w39, h39, r39⟩ := hp 26 (by decide)
        have e39 : (ac.tmps[39]?).getD undef = undef := (ha 39 (by decide)).trans h39
        clear h39
        clear ha hp
        refine Reg.Op1.plain rfl ?_
        go_wp2
        exact ⟨rfl, hK _ _ rfl (Reg.Wr.same _)⟩
      · intro val ac u hR hp ha K hK      -- 28: t41 := Op.move t40
        obtain ⟨w40, h40, r40⟩ := hp 27 (by decide)
        have e40 : (ac.tmps[40]?).getD undef = .bool false := (ha 40 (by decide)).trans h40
        clear h40
        clear ha hp
        refine Reg.Op1.plain rfl ?_
        go_wp2
        exact ⟨rfl, hK _ _ rfl (Reg.Wr.same _)⟩
      · intro val ac u hR hp ha K hK      -- 29: t42 := Op.fieldAddr 42 t4 2
        obtain ⟨w41, h41, r41⟩ := hp 28 (by decide)
        have e41 : (ac.tmps[41]?).getD undef = .bool false := (ha 41 (by decide)).trans h41
        clear h41
        clear ha hp
        exact Reg.Op1.guarded rfl rfl e41 (fun h => by cases h) (fun _ => hK _ _ rfl (Reg.Wr.same _))
      · intro val ac u hR hp ha K hK      -- 30: t43 := Op.load 9 t42
        obtain ⟨w41, h41, r41⟩ := hp 28 (by decide)
        have e41 : (ac.tmps[41]?).getD undef = .bool false := (ha 41 (by decide)).trans h41
        clear h41
        clear ha hp
        exact Reg.Op1.guarded rfl rfl e41 (fun h => by cases h) (fun _ => hK _ _ rfl (Reg.Wr.same _))
      · intro val ac u hR hp ha K hK      -- 31: t44 := Op.fieldAddr 42 t5 2
        obtain ⟨w41, h41, r41⟩ := hp 28 (by decide)
        have e41 : (ac.tmps[41]?).getD undef = .bool false := (ha 41 (by decide)).trans h41
        clear h41
        clear ha hp
        exact Reg.Op1.guarded rfl rfl e41 (fun h => by cases h) (fun _ => hK _ _ rfl (Reg.Wr.same _))
      · intro val ac u hR hp ha K hK      -- 32: t45 := Op.load 9 t44
        obtain ⟨w41, h41, r41⟩ := hp 28 (by decide)
        have e41 : (ac.tmps[41]?).getD undef = .bool false := (ha 41 (by decide)).trans h41
        clear h41
        clear ha hp
        exact Reg.Op1.guarded rfl rfl e41 (fun h => by cases h) (fun _ => hK _ _ rfl (Reg.Wr.same _))
      · intro val ac u hR hp ha K hK      -- 33: t46 := Op.binOp BinOp.eql 9 t43 t45 9
        obtain ⟨w41, h41, r41⟩ := hp 28 (by decide)
        have e41 : (ac.tmps[41]?).getD undef = .bool false := (ha 41 (by decide)).trans h41
        clear h41
        clear ha hp
        exact Reg.Op1.guarded rfl rfl e41 (fun h => by cases h) (fun _ => hK _ _ rfl (Reg.Wr.same _))
      · intro val ac u hR hp ha K hK      -- 34: t47 := Op.pick t41 t46 (const (Value.bool false))
        obtain ⟨w41, h41, r41⟩ := hp 28 (by decide)
        have e41 : (ac.tmps[41]?).getD undef = .bool false := (ha 41 (by decide)).trans h41
        clear h41
        obtain ⟨w46, h46, r46⟩ := hp 33 (by decide)
        have e46 : (ac.tmps[46]?).getD undef = undef := (ha 46 (by decide)).trans h46
        clear h46
        clear ha hp
        refine Reg.Op1.plain rfl ?_
        go_wp2
        exact ⟨rfl, hK _ _ rfl (Reg.Wr.same _)⟩
      · intro val ac u hR hp ha K hK      -- 35: t3 := Op.assign t47
        obtain ⟨w47, h47, r47⟩ := hp 34 (by decide)
        have e47 : (ac.tmps[47]?).getD undef = .bool false := (ha 47 (by decide)).trans h47
        clear h47
        clear ha hp
        refine Reg.Op1.plain rfl ?_
        go_wp2
        exact ⟨rfl, hK _ _ rfl (Reg.Wr.same _)⟩
    intro val u hR H
    obtain ⟨_, hv9, _⟩ := H 35 (by decide)
    have hk8 : Mem.Keeps (fun _ => False) w2 u := ((Mem.Keeps.refl (fun _ => False) w2).drew.trans (Reg.Wr.all hR) (fun _ h _ => h.elim id (fun h => h.elim id id)))
    simp only [List.map_cons, List.map_nil, Reg.lay, Act.put, List.setIfInBounds_toArray, List.set_cons_succ, List.set_cons_zero, Nat.reduceAdd]
    rw [hv9]
    have HK8 := Lib.hid hk8
    clear hR H hv9 hk8
    go_wp2
    go_ret
    exact ⟨by rw [HRS.out]; rfl, HR.out.b.trans (HK8.out.belowAll.mono HR.out.b.size)⟩
  | true =>
    rw [hu] at y1 HRQ
    clear hu
    by_cases ho : e.op = s.begun.op
    · have b25 : (e.op == s.begun.op) = true := by simpa using ho
      by_cases hk : e.kind = s.begun.kind
      · have b32 : (e.kind == s.begun.kind) = true := by simpa using hk
        cases ky with
        | false =>
          have HRS : Hid (r2 s e = false) := by show _ = _; rw [HRQ.out]; simp
          have HO := Lib.hid ho
          have HK := Lib.hid hk
          clear HRQ ho hk
          go_upto_region 2 with fail
          refine Reg.wp_region_w (by kernel_rfl) 48 36 rfl rfl (by kernel_rfl) (0) (fun _ => False) (0) (fun _ => False) (0) (fun _ => False)
            (fun i v u => match i with
              | 0 => v = .pointer (some ⟨gs, 0, none⟩)
              | 1 => v = .pointer (some ⟨gs, 0, none⟩)
              | 2 => v = .pointer (some ⟨gs, 0, none⟩)
              | 3 => v = .bool true
              | 4 => v = .bool true
              | 5 => v = .pointer (some ⟨w.heap.size, 1, none⟩)
              | 6 => v = .int .i64 e.op
              | 7 => v = .pointer (some ⟨gs, 0, none⟩)
              | 8 => v = .pointer (some ⟨gs, 0, none⟩)
              | 9 => v = .pointer (some ⟨gs, 1, none⟩)
              | 10 => v = .pointer (some ⟨gs, 2, none⟩)
              | 11 => v = .int .i64 s.begun.op
              | 12 => v = .bool true
              | 13 => v = .bool true
              | 14 => v = .bool true
              | 15 => v = .pointer (some ⟨p, 0, none⟩)
              | 16 => v = .int .i64 e.kind
              | 17 => v = .pointer (some ⟨q, 0, none⟩)
              | 18 => v = .int .i64 s.begun.kind
              | 19 => v = .bool true
              | 20 => v = .bool true
              | 21 => v = .bool true
              | 22 => v = .pointer (some ⟨p, 1, none⟩)
              | 23 => v = .slice e.kA e.keys.length e.kc
              | 24 => v = .pointer (some ⟨q, 1, none⟩)
              | 25 => v = .slice s.begun.kA s.begun.keys.length s.begun.kc
              | 26 => v = .bool false
              | 27 => v = .bool false
              | 28 => v = .bool false
              | 29 => v = undef
              | 30 => v = undef
              | 31 => v = undef
              | 32 => v = undef
              | 33 => v = undef
              | 34 => v = .bool false
              | 35 => v = .bool false
              | _ => True) ?_ ?_
          · refine Reg.Steps.cons ?_ (Reg.Steps.cons ?_ (Reg.Steps.cons ?_ (Reg.Steps.cons ?_ (Reg.Steps.cons ?_ (Reg.Steps.cons ?_ (Reg.Steps.cons ?_ (Reg.Steps.cons ?_ (Reg.Steps.cons ?_ (Reg.Steps.cons ?_ (Reg.Steps.cons ?_ (Reg.Steps.cons ?_ (Reg.Steps.cons ?_ (Reg.Steps.cons ?_ (Reg.Steps.cons ?_ (Reg.Steps.cons ?_ (Reg.Steps.cons ?_ (Reg.Steps.cons ?_ (Reg.Steps.cons ?_ (Reg.Steps.cons ?_ (Reg.Steps.cons ?_ (Reg.Steps.cons ?_ (Reg.Steps.cons ?_ (Reg.Steps.cons ?_ (Reg.Steps.cons ?_ (Reg.Steps.cons ?_ (Reg.Steps.cons ?_ (Reg.Steps.cons ?_ (Reg.Steps.cons ?_ (Reg.Steps.cons ?_ (Reg.Steps.cons ?_ (Reg.Steps.cons ?_ (Reg.Steps.cons ?_ (Reg.Steps.cons ?_ (Reg.Steps.cons ?_ (Reg.Steps.cons ?_ (Reg.Steps.nil _))))))))))))))))))))))))))))))))))))
            · intro val ac u hR hp ha K hK      -- 0: t13 := Op.load 78 t1
              have e1 : (ac.tmps[1]?).getD undef = .pointer (some ⟨bs, 0, none⟩) := ha 1 (by decide)
              clear ha hp
              refine Reg.Op1.plain rfl ?_
              have x0 := (((Reg.Wr.all hR)).cell (p := ⟨bs, 0, none⟩) (hbs) (nof)).trans (y0)
              go_wp2
              exact ⟨rfl, hK _ _ rfl (Reg.Wr.same _)⟩
            · intro val ac u hR hp ha K hK      -- 1: t14 := Op.nilCheck t13
              obtain ⟨w13, h13, r13⟩ := hp 0 (by decide)
              have e13 : (ac.tmps[13]?).getD undef = .pointer (some ⟨gs, 0, none⟩) := (ha 13 (by decide)).trans h13
              clear h13
              clear ha hp
              refine Reg.Op1.plain rfl ?_
              go_wp2
              exact ⟨rfl, hK _ _ rfl (Reg.Wr.same _)⟩
            · intro val ac u hR hp ha K hK      -- 2: t15 := Op.fieldAddr 81 t14 0
              obtain ⟨w14, h14, r14⟩ := hp 1 (by decide)
              have e14 : (ac.tmps[14]?).getD undef = .pointer (some ⟨gs, 0, none⟩) := (ha 14 (by decide)).trans h14
              clear h14
              clear ha hp
              refine Reg.Op1.plain rfl ?_
              go_wp2
              exact ⟨rfl, hK _ _ rfl (Reg.Wr.same _)⟩
            · intro val ac u hR hp ha K hK      -- 3: t16 := Op.load 4 t15
              obtain ⟨w15, h15, r15⟩ := hp 2 (by decide)
              have e15 : (ac.tmps[15]?).getD undef = .pointer (some ⟨gs, 0, none⟩) := (ha 15 (by decide)).trans h15
              clear h15
              clear ha hp
              refine Reg.Op1.plain rfl ?_
              have x0 := (((Reg.Wr.all hR)).cell (p := ⟨gs, 0, none⟩) (hgs) (nof)).trans (y1)
              go_wp2
              exact ⟨rfl, hK _ _ rfl (Reg.Wr.same _)⟩
            · intro val ac u hR hp ha K hK      -- 4: t17 := Op.move t16
              obtain ⟨w16, h16, r16⟩ := hp 3 (by decide)
              have e16 : (ac.tmps[16]?).getD undef = .bool true := (ha 16 (by decide)).trans h16
              clear h16
              clear ha hp
              refine Reg.Op1.plain rfl ?_
              go_wp2
              exact ⟨rfl, hK _ _ rfl (Reg.Wr.same _)⟩
            · intro val ac u hR hp ha K hK      -- 5: t18 := Op.fieldAddr 46 t2 1
              have e2 : (ac.tmps[2]?).getD undef = .pointer (some ⟨w.heap.size, 0, none⟩) := ha 2 (by decide)
              obtain ⟨w17, h17, r17⟩ := hp 4 (by decide)
              have e17 : (ac.tmps[17]?).getD undef = .bool true := (ha 17 (by decide)).trans h17
              clear h17
              clear ha hp
              refine Reg.Op1.guarded rfl rfl e17 (fun _ => Reg.Op1.plain rfl ?_) (fun h => absurd rfl h)
              go_wp2
              exact ⟨rfl, hK _ _ rfl (Reg.Wr.same _)⟩
            · intro val ac u hR hp ha K hK      -- 6: t19 := Op.load 3 t18
              obtain ⟨w18, h18, r18⟩ := hp 5 (by decide)
              have e18 : (ac.tmps[18]?).getD undef = .pointer (some ⟨w.heap.size, 1, none⟩) := (ha 18 (by decide)).trans h18
              clear h18
              obtain ⟨w17, h17, r17⟩ := hp 4 (by decide)
              have e17 : (ac.tmps[17]?).getD undef = .bool true := (ha 17 (by decide)).trans h17
              clear h17
              clear ha hp
              refine Reg.Op1.guarded rfl rfl e17 (fun _ => Reg.Op1.plain rfl ?_) (fun h => absurd rfl h)
              have x0 := (((Reg.Wr.all hR)).cell (p := ⟨w.heap.size, 1, none⟩) (hxs) (nof)).trans (y2)
              go_wp2
              exact ⟨rfl, hK _ _ rfl (Reg.Wr.same _)⟩
            · intro val ac u hR hp ha K hK      -- 7: t20 := Op.load 78 t1
              have e1 : (ac.tmps[1]?).getD undef = .pointer (some ⟨bs, 0, none⟩) := ha 1 (by decide)
              obtain ⟨w17, h17, r17⟩ := hp 4 (by decide)
              have e17 : (ac.tmps[17]?).getD undef = .bool true := (ha 17 (by decide)).trans h17
              clear h17
              clear ha hp
              refine Reg.Op1.guarded rfl rfl e17 (fun _ => Reg.Op1.plain rfl ?_) (fun h => absurd rfl h)
              have x0 := (((Reg.Wr.all hR)).cell (p := ⟨bs, 0, none⟩) (hbs) (nof)).trans (y0)
              go_wp2
              exact ⟨rfl, hK _ _ rfl (Reg.Wr.same _)⟩
            · intro val ac u hR hp ha K hK      -- 8: t21 := Op.nilCheck t20
              obtain ⟨w20, h20, r20⟩ := hp 7 (by decide)
              have e20 : (ac.tmps[20]?).getD undef = .pointer (some ⟨gs, 0, none⟩) := (ha 20 (by decide)).trans h20
              clear h20
              obtain ⟨w17, h17, r17⟩ := hp 4 (by decide)
              have e17 : (ac.tmps[17]?).getD undef = .bool true := (ha 17 (by decide)).trans h17
              clear h17
              clear ha hp
              refine Reg.Op1.guarded rfl rfl e17 (fun _ => Reg.Op1.plain rfl ?_) (fun h => absurd rfl h)
              go_wp2
              exact ⟨rfl, hK _ _ rfl (Reg.Wr.same _)⟩
            · intro val ac u hR hp ha K hK      -- 9: t22 := Op.fieldAddr 81 t21 1
              obtain ⟨w21, h21, r21⟩ := hp 8 (by decide)
              have e21 : (ac.tmps[21]?).getD undef = .pointer (some ⟨gs, 0, none⟩) := (ha 21 (by decide)).trans h21
              clear h21
              obtain ⟨w17, h17, r17⟩ := hp 4 (by decide)
              have e17 : (ac.tmps[17]?).getD undef = .bool true := (ha 17 (by decide)).trans h17
              clear h17
              clear ha hp
              refine Reg.Op1.guarded rfl rfl e17 (fun _ => Reg.Op1.plain rfl ?_) (fun h => absurd rfl h)
              go_wp2
              exact ⟨rfl, hK _ _ rfl (Reg.Wr.same _)⟩
            · intro val ac u hR hp ha K hK      -- 10: t23 := Op.fieldAddr 46 t22 1
              obtain ⟨w22, h22, r22⟩ := hp 9 (by decide)
              have e22 : (ac.tmps[22]?).getD undef = .pointer (some ⟨gs, 1, none⟩) := (ha 22 (by decide)).trans h22
              clear h22
              obtain ⟨w17, h17, r17⟩ := hp 4 (by decide)
              have e17 : (ac.tmps[17]?).getD undef = .bool true := (ha 17 (by decide)).trans h17
              clear h17
              clear ha hp
              refine Reg.Op1.guarded rfl rfl e17 (fun _ => Reg.Op1.plain rfl ?_) (fun h => absurd rfl h)
              go_wp2
              exact ⟨rfl, hK _ _ rfl (Reg.Wr.same _)⟩
            · intro val ac u hR hp ha K hK      -- 11: t24 := Op.load 3 t23
              obtain ⟨w23, h23, r23⟩ := hp 10 (by decide)
              have e23 : (ac.tmps[23]?).getD undef = .pointer (some ⟨gs, 2, none⟩) := (ha 23 (by decide)).trans h23
              clear h23
              obtain ⟨w17, h17, r17⟩ := hp 4 (by decide)
              have e17 : (ac.tmps[17]?).getD undef = .bool true := (ha 17 (by decide)).trans h17
              clear h17
              clear ha hp
              refine Reg.Op1.guarded rfl rfl e17 (fun _ => Reg.Op1.plain rfl ?_) (fun h => absurd rfl h)
              have x0 := (((Reg.Wr.all hR)).cell (p := ⟨gs, 2, none⟩) (hgs) (nof)).trans (y3)
              go_wp2
              exact ⟨rfl, hK _ _ rfl (Reg.Wr.same _)⟩
            · intro val ac u hR hp ha K hK      -- 12: t25 := Op.binOp BinOp.eql 3 t19 t24 3
              obtain ⟨w19, h19, r19⟩ := hp 6 (by decide)
              have e19 : (ac.tmps[19]?).getD undef = .int .i64 e.op := (ha 19 (by decide)).trans h19
              clear h19
              obtain ⟨w24, h24, r24⟩ := hp 11 (by decide)
              have e24 : (ac.tmps[24]?).getD undef = .int .i64 s.begun.op := (ha 24 (by decide)).trans h24
              clear h24
              obtain ⟨w17, h17, r17⟩ := hp 4 (by decide)
              have e17 : (ac.tmps[17]?).getD undef = .bool true := (ha 17 (by decide)).trans h17
              clear h17
              clear ha hp
              refine Reg.Op1.guarded rfl rfl e17 (fun _ => Reg.Op1.plain rfl ?_) (fun h => absurd rfl h)
              go_wp2
              exact ⟨rfl, hK _ _ rfl (Reg.Wr.same _)⟩
            · intro val ac u hR hp ha K hK      -- 13: t26 := Op.pick t17 t25 (const (Value.bool false))
              obtain ⟨w17, h17, r17⟩ := hp 4 (by decide)
              have e17 : (ac.tmps[17]?).getD undef = .bool true := (ha 17 (by decide)).trans h17
              clear h17
              obtain ⟨w25, h25, r25⟩ := hp 12 (by decide)
              have e25 : (ac.tmps[25]?).getD undef = .bool true := (ha 25 (by decide)).trans h25
              clear h25
              clear ha hp
              refine Reg.Op1.plain rfl ?_
              go_wp2
              exact ⟨rfl, hK _ _ rfl (Reg.Wr.same _)⟩
            · intro val ac u hR hp ha K hK      -- 14: t27 := Op.move t26
              obtain ⟨w26, h26, r26⟩ := hp 13 (by decide)
              have e26 : (ac.tmps[26]?).getD undef = .bool true := (ha 26 (by decide)).trans h26
              clear h26
              clear ha hp
              refine Reg.Op1.plain rfl ?_
              go_wp2
              exact ⟨rfl, hK _ _ rfl (Reg.Wr.same _)⟩
            · intro val ac u hR hp ha K hK      -- 15: t28 := Op.fieldAddr 42 t4 0
              have e4 : (ac.tmps[4]?).getD undef = .pointer (some ⟨p, 0, none⟩) := ha 4 (by decide)
              obtain ⟨w27, h27, r27⟩ := hp 14 (by decide)
              have e27 : (ac.tmps[27]?).getD undef = .bool true := (ha 27 (by decide)).trans h27
              clear h27
              clear ha hp
              refine Reg.Op1.guarded rfl rfl e27 (fun _ => Reg.Op1.plain rfl ?_) (fun h => absurd rfl h)
              go_wp2
              exact ⟨rfl, hK _ _ rfl (Reg.Wr.same _)⟩
            · intro val ac u hR hp ha K hK      -- 16: t29 := Op.load 3 t28
              obtain ⟨w28, h28, r28⟩ := hp 15 (by decide)
              have e28 : (ac.tmps[28]?).getD undef = .pointer (some ⟨p, 0, none⟩) := (ha 28 (by decide)).trans h28
              clear h28
              obtain ⟨w27, h27, r27⟩ := hp 14 (by decide)
              have e27 : (ac.tmps[27]?).getD undef = .bool true := (ha 27 (by decide)).trans h27
              clear h27
              clear ha hp
              refine Reg.Op1.guarded rfl rfl e27 (fun _ => Reg.Op1.plain rfl ?_) (fun h => absurd rfl h)
              have x0 := (((Reg.Wr.all hR)).cell (p := ⟨p, 0, none⟩) (hps) (nof)).trans (y4)
              go_wp2
              exact ⟨rfl, hK _ _ rfl (Reg.Wr.same _)⟩
            · intro val ac u hR hp ha K hK      -- 17: t30 := Op.fieldAddr 42 t5 0
              have e5 : (ac.tmps[5]?).getD undef = .pointer (some ⟨q, 0, none⟩) := ha 5 (by decide)
              obtain ⟨w27, h27, r27⟩ := hp 14 (by decide)
              have e27 : (ac.tmps[27]?).getD undef = .bool true := (ha 27 (by decide)).trans h27
              clear h27
              clear ha hp
              refine Reg.Op1.guarded rfl rfl e27 (fun _ => Reg.Op1.plain rfl ?_) (fun h => absurd rfl h)
              go_wp2
              exact ⟨rfl, hK _ _ rfl (Reg.Wr.same _)⟩
            · intro val ac u hR hp ha K hK      -- 18: t31 := Op.load 3 t30
              obtain ⟨w30, h30, r30⟩ := hp 17 (by decide)
              have e30 : (ac.tmps[30]?).getD undef = .pointer (some ⟨q, 0, none⟩) := (ha 30 (by decide)).trans h30
              clear h30
              obtain ⟨w27, h27, r27⟩ := hp 14 (by decide)
              have e27 : (ac.tmps[27]?).getD undef = .bool true := (ha 27 (by decide)).trans h27
              clear h27
              clear ha hp
              refine Reg.Op1.guarded rfl rfl e27 (fun _ => Reg.Op1.plain rfl ?_) (fun h => absurd rfl h)
              have x0 := (((Reg.Wr.all hR)).cell (p := ⟨q, 0, none⟩) (hqs) (nof)).trans (y5)
              go_wp2
              exact ⟨rfl, hK _ _ rfl (Reg.Wr.same _)⟩
            · intro val ac u hR hp ha K hK      -- 19: t32 := Op.binOp BinOp.eql 3 t29 t31 3
              obtain ⟨w29, h29, r29⟩ := hp 16 (by decide)
              have e29 : (ac.tmps[29]?).getD undef = .int .i64 e.kind := (ha 29 (by decide)).trans h29
              clear h29
              obtain ⟨w31, h31, r31⟩ := hp 18 (by decide)
              have e31 : (ac.tmps[31]?).getD undef = .int .i64 s.begun.kind := (ha 31 (by decide)).trans h31
              clear h31
              obtain ⟨w27, h27, r27⟩ := hp 14 (by decide)
              have e27 : (ac.tmps[27]?).getD undef = .bool true := (ha 27 (by decide)).trans h27
              clear h27
              clear ha hp
              refine Reg.Op1.guarded rfl rfl e27 (fun _ => Reg.Op1.plain rfl ?_) (fun h => absurd rfl h)
              go_wp2
              exact ⟨rfl, hK _ _ rfl (Reg.Wr.same _)⟩
            · intro val ac u hR hp ha K hK      -- 20: t33 := Op.pick t27 t32 (const (Value.bool false))
              obtain ⟨w27, h27, r27⟩ := hp 14 (by decide)
              have e27 : (ac.tmps[27]?).getD undef = .bool true := (ha 27 (by decide)).trans h27
              clear h27
              obtain ⟨w32, h32, r32⟩ := hp 19 (by decide)
              have e32 : (ac.tmps[32]?).getD undef = .bool true := (ha 32 (by decide)).trans h32
              clear h32
              clear ha hp
              refine Reg.Op1.plain rfl ?_
              go_wp2
              exact ⟨rfl, hK _ _ rfl (Reg.Wr.same _)⟩
            · intro val ac u hR hp ha K hK      -- 21: t34 := Op.move t33
              obtain ⟨w33, h33, r33⟩ := hp 20 (by decide)
              have e33 : (ac.tmps[33]?).getD undef = .bool true := (ha 33 (by decide)).trans h33
              clear h33
              clear ha hp
              refine Reg.Op1.plain rfl ?_
              go_wp2
              exact ⟨rfl, hK _ _ rfl (Reg.Wr.same _)⟩
            · intro val ac u hR hp ha K hK      -- 22: t35 := Op.fieldAddr 42 t4 1
              have e4 : (ac.tmps[4]?).getD undef = .pointer (some ⟨p, 0, none⟩) := ha 4 (by decide)
              obtain ⟨w34, h34, r34⟩ := hp 21 (by decide)
              have e34 : (ac.tmps[34]?).getD undef = .bool true := (ha 34 (by decide)).trans h34
              clear h34
              clear ha hp
              refine Reg.Op1.guarded rfl rfl e34 (fun _ => Reg.Op1.plain rfl ?_) (fun h => absurd rfl h)
              go_wp2
              exact ⟨rfl, hK _ _ rfl (Reg.Wr.same _)⟩
            · intro val ac u hR hp ha K hK      -- 23: t36 := Op.load 40 t35
              obtain ⟨w35, h35, r35⟩ := hp 22 (by decide)
              have e35 : (ac.tmps[35]?).getD undef = .pointer (some ⟨p, 1, none⟩) := (ha 35 (by decide)).trans h35
              clear h35
              obtain ⟨w34, h34, r34⟩ := hp 21 (by decide)
              have e34 : (ac.tmps[34]?).getD undef = .bool true := (ha 34 (by decide)).trans h34
              clear h34
              clear ha hp
              refine Reg.Op1.guarded rfl rfl e34 (fun _ => Reg.Op1.plain rfl ?_) (fun h => absurd rfl h)
              have x0 := (((Reg.Wr.all hR)).cell (p := ⟨p, 1, none⟩) (hps) (nof)).trans (y6)
              go_wp2
              exact ⟨rfl, hK _ _ rfl (Reg.Wr.same _)⟩
            · intro val ac u hR hp ha K hK      -- 24: t37 := Op.fieldAddr 42 t5 1
              have e5 : (ac.tmps[5]?).getD undef = .pointer (some ⟨q, 0, none⟩) := ha 5 (by decide)
              obtain ⟨w34, h34, r34⟩ := hp 21 (by decide)
              have e34 : (ac.tmps[34]?).getD undef = .bool true := (ha 34 (by decide)).trans h34
              clear h34
              clear ha hp
              refine Reg.Op1.guarded rfl rfl e34 (fun _ => Reg.Op1.plain rfl ?_) (fun h => absurd rfl h)
              go_wp2
              exact ⟨rfl, hK _ _ rfl (Reg.Wr.same _)⟩
            · intro val ac u hR hp ha K hK      -- 25: t38 := Op.load 40 t37
              obtain ⟨w37, h37, r37⟩ := hp 24 (by decide)
              have e37 : (ac.tmps[37]?).getD undef = .pointer (some ⟨q, 1, none⟩) := (ha 37 (by decide)).trans h37
              clear h37
              obtain ⟨w34, h34, r34⟩ := hp 21 (by decide)
              have e34 : (ac.tmps[34]?).getD undef = .bool true := (ha 34 (by decide)).trans h34
              clear h34
              clear ha hp
              refine Reg.Op1.guarded rfl rfl e34 (fun _ => Reg.Op1.plain rfl ?_) (fun h => absurd rfl h)
              have x0 := (((Reg.Wr.all hR)).cell (p := ⟨q, 1, none⟩) (hqs) (nof)).trans (y7)
              go_wp2
              exact ⟨rfl, hK _ _ rfl (Reg.Wr.same _)⟩
            · intro val ac u hR hp ha K hK      -- 26: t39 := Op.call { value (Operand.func 45), args := #[t36, t38], argTypes := #[40, 40] }
              obtain ⟨w36, h36, r36⟩ := hp 23 (by decide)
              have e36 : (ac.tmps[36]?).getD undef = .slice e.kA e.keys.length e.kc := (ha 36 (by decide)).trans h36
              clear h36
              obtain ⟨w38, h38, r38⟩ := hp 25 (by decide)
              have e38 : (ac.tmps[38]?).getD undef = .slice s.begun.kA s.begun.keys.length s.begun.kc := (ha 38 (by decide)).trans h38
              clear h38
              obtain ⟨w34, h34, r34⟩ := hp 21 (by decide)
              have e34 : (ac.tmps[34]?).getD undef = .bool true := (ha 34 (by decide)).trans h34
              clear h34
              clear ha hp
              refine Reg.Op1.guarded rfl rfl e34 (fun _ => Reg.Op1.plain rfl ?_) (fun h => absurd rfl h)
              have hk8 : Mem.Keeps (fun _ => False) w2 u := ((Mem.Keeps.refl (fun _ => False) w2).drew.trans (Reg.Wr.all hR) (fun _ h _ => h.elim id (fun h => h.elim id id)))
              have hbu : Below w2.heap.size w2 u := hk8.belowAll
              go_wp2_with fail
              refine (equal_any (B := B) (HR.out.o.k.below (hbu.mono HR.out.c.le)) (HR.out.c.b.k.below (hbu.mono HR.out.c.le)) (Nat.le_trans HR.out.c.le hbu.size) (by have := HR.out.o.kl; have := HR.out.o.kn; unfold maxLen; omega) (by have := HR.out.c.b.kl; have := HR.out.c.b.kn; unfold maxLen; omega)).mono ?_
              rintro x w' ⟨rfl, hb'⟩
              go_wp2_with fail
              exact ⟨rfl, hK _ _ (by rw [HKE.out]) (Reg.Wr.below hb')⟩
            · intro val ac u hR hp ha K hK      -- 27: t40 := Op.pick t34 t39 (const (Value.bool false))
              obtain ⟨w34, h34, r34⟩ := hp 21 (by decide)
              have e34 : (ac.tmps[34]?).getD undef = .bool true := (ha 34 (by decide)).trans h34
              clear h34
              obtain ⟨w39, h39, r39⟩ := hp 26 (by decide)
              have e39 : (ac.tmps[39]?).getD undef = .bool false := (ha 39 (by decide)).trans h39
              clear h39
              clear ha hp
              refine Reg.Op1.plain rfl ?_
              go_wp2
              exact ⟨rfl, hK _ _ rfl (Reg.Wr.same _)⟩
            · intro val ac u hR hp ha K hK      -- 28: t41 := Op.move t40
              obtain ⟨w40, h40, r40⟩ := hp 27 (by decide)
              have e40 : (ac.tmps[40]?).getD undef = .bool false := (ha 40 (by decide)).trans h40
              clear h40
              clear ha hp
              refine Reg.Op1.plain rfl ?_
              go_wp2
              exact ⟨rfl, hK _ _ rfl (Reg.Wr.same _)⟩
            · intro val ac u hR hp ha K hK      -- 29: t42 := Op.fieldAddr 42 t4 2
              obtain ⟨w41, h41, r41⟩ := hp 28 (by decide)
              have e41 : (ac.tmps[41]?).getD undef = .bool false := (ha 41 (by decide)).trans h41
              clear h41
              clear ha hp
              exact Reg.Op1.guarded rfl rfl e41 (fun h => by cases h) (fun _ => hK _ _ rfl (Reg.Wr.same _))
            · intro val ac u hR hp ha K hK      -- 30: t43 := Op.load 9 t42
              obtain ⟨w41, h41, r41⟩ := hp 28 (by decide)
              have e41 : (ac.tmps[41]?).getD undef = .bool false := (ha 41 (by decide)).trans h41
              clear h41
              clear ha hp
              exact Reg.Op1.guarded rfl rfl e41 (fun h => by cases h) (fun _ => hK _ _ rfl (Reg.Wr.same _))
            · intro val ac u hR hp ha K hK      -- 31: t44 := Op.fieldAddr 42 t5 2
              obtain ⟨w41, h41, r41⟩ := hp 28 (by decide)
              have e41 : (ac.tmps[41]?).getD undef = .bool false := (ha 41 (by decide)).trans h41
              clear h41
              clear ha hp
              exact Reg.Op1.guarded rfl rfl e41 (fun h => by cases h) (fun _ => hK _ _ rfl (Reg.Wr.same _))
            · intro val ac u hR hp ha K hK      -- 32: t45 := Op.load 9 t44
              obtain ⟨w41, h41, r41⟩ := hp 28 (by decide)
              have e41 : (ac.tmps[41]?).getD undef = .bool false := (ha 41 (by decide)).trans h41
              clear h41
              clear ha hp
              exact Reg.Op1.guarded rfl rfl e41 (fun h => by cases h) (fun _ => hK _ _ rfl (Reg.Wr.same _))
            · intro val ac u hR hp ha K hK      -- 33: t46 := Op.binOp BinOp.eql 9 t43 t45 9
              obtain ⟨w41, h41, r41⟩ := hp 28 (by decide)
              have e41 : (ac.tmps[41]?).getD undef = .bool false := (ha 41 (by decide)).trans h41
              clear h41
              clear ha hp
              exact Reg.Op1.guarded rfl rfl e41 (fun h => by cases h) (fun _ => hK _ _ rfl (Reg.Wr.same _))
            · intro val ac u hR hp ha K hK      -- 34: t47 := Op.pick t41 t46 (const (Value.bool false))
              obtain ⟨w41, h41, r41⟩ := hp 28 (by decide)
              have e41 : (ac.tmps[41]?).getD undef = .bool false := (ha 41 (by decide)).trans h41
              clear h41
              obtain ⟨w46, h46, r46⟩ := hp 33 (by decide)
              have e46 : (ac.tmps[46]?).getD undef = undef := (ha 46 (by decide)).trans h46
              clear h46
              clear ha hp
              refine Reg.Op1.plain rfl ?_
              go_wp2
              exact ⟨rfl, hK _ _ rfl (Reg.Wr.same _)⟩
            · intro val ac u hR hp ha K hK      -- 35: t3 := Op.assign t47
              obtain ⟨w47, h47, r47⟩ := hp 34 (by decide)
              have e47 : (ac.tmps[47]?).getD undef = .bool false := (ha 47 (by decide)).trans h47
              clear h47
              clear ha hp
              refine Reg.Op1.plain rfl ?_
              go_wp2
              exact ⟨rfl, hK _ _ rfl (Reg.Wr.same _)⟩
          intro val u hR H
          obtain ⟨_, hv9, _⟩ := H 35 (by decide)
          have hk8 : Mem.Keeps (fun _ => False) w2 u := ((Mem.Keeps.refl (fun _ => False) w2).drew.trans (Reg.Wr.all hR) (fun _ h _ => h.elim id (fun h => h.elim id id)))
          simp only [List.map_cons, List.map_nil, Reg.lay, Act.put, List.setIfInBounds_toArray, List.set_cons_succ, List.set_cons_zero, Nat.reduceAdd]
          rw [hv9]
          have HK8 := Lib.hid hk8
          clear hR H hv9 hk8
          go_wp2
          go_ret
          exact ⟨by rw [HRS.out]; rfl, HR.out.b.trans (HK8.out.belowAll.mono HR.out.b.size)⟩
        | true =>
          by_cases hv : e.val = s.begun.val
          · have HRS : Hid (r2 s e = true) := by show _ = _; rw [HRQ.out]; simp [ho, hk, hv]
            have b46 : (e.val.toList == s.begun.val.toList) = true := by rw [hv]; simp
            have HO := Lib.hid ho
            have HK := Lib.hid hk
            have HV := Lib.hid hv
            clear HRQ ho hk hv
            go_upto_region 2 with fail
            refine Reg.wp_region_w (by kernel_rfl) 48 36 rfl rfl (by kernel_rfl) (0) (fun _ => False) (0) (fun _ => False) (0) (fun _ => False)
              (fun i v u => match i with
                | 0 => v = .pointer (some ⟨gs, 0, none⟩)
                | 1 => v = .pointer (some ⟨gs, 0, none⟩)
                | 2 => v = .pointer (some ⟨gs, 0, none⟩)
                | 3 => v = .bool true
                | 4 => v = .bool true
                | 5 => v = .pointer (some ⟨w.heap.size, 1, none⟩)
                | 6 => v = .int .i64 e.op
                | 7 => v = .pointer (some ⟨gs, 0, none⟩)
                | 8 => v = .pointer (some ⟨gs, 0, none⟩)
                | 9 => v = .pointer (some ⟨gs, 1, none⟩)
                | 10 => v = .pointer (some ⟨gs, 2, none⟩)
                | 11 => v = .int .i64 s.begun.op
                | 12 => v = .bool true
                | 13 => v = .bool true
                | 14 => v = .bool true
                | 15 => v = .pointer (some ⟨p, 0, none⟩)
                | 16 => v = .int .i64 e.kind
                | 17 => v = .pointer (some ⟨q, 0, none⟩)
                | 18 => v = .int .i64 s.begun.kind
                | 19 => v = .bool true
                | 20 => v = .bool true
                | 21 => v = .bool true
                | 22 => v = .pointer (some ⟨p, 1, none⟩)
                | 23 => v = .slice e.kA e.keys.length e.kc
                | 24 => v = .pointer (some ⟨q, 1, none⟩)
                | 25 => v = .slice s.begun.kA s.begun.keys.length s.begun.kc
                | 26 => v = .bool true
                | 27 => v = .bool true
                | 28 => v = .bool true
                | 29 => v = .pointer (some ⟨p, 2, none⟩)
                | 30 => v = .string e.val
                | 31 => v = .pointer (some ⟨q, 2, none⟩)
                | 32 => v = .string s.begun.val
                | 33 => v = .bool true
                | 34 => v = .bool true
                | 35 => v = .bool true
                | _ => True) ?_ ?_
            · refine Reg.Steps.cons ?_ (Reg.Steps.cons ?_ (Reg.Steps.cons ?_ (Reg.Steps.cons ?_ (Reg.Steps.cons ?_ (Reg.Steps.cons ?_ (Reg.Steps.cons ?_ (Reg.Steps.cons ?_ (Reg.Steps.cons ?_ (Reg.Steps.cons ?_ (Reg.Steps.cons ?_ (Reg.Steps.cons ?_ (Reg.Steps.cons ?_ (Reg.Steps.cons ?_ (Reg.Steps.cons ?_ (Reg.Steps.cons ?_ (Reg.Steps.cons ?_ (Reg.Steps.cons ?_ (Reg.Steps.cons ?_ (Reg.Steps.cons ?_ (Reg.Steps.cons ?_ (Reg.Steps.cons ?_ (Reg.Steps.cons ?_ (Reg.Steps.cons ?_ (Reg.Steps.cons ?_ (Reg.Steps.cons ?_ (Reg.Steps.cons ?_ (Reg.Steps.cons ?_ (Reg.Steps.cons ?_ (Reg.Steps.cons ?_ (Reg.Steps.cons ?_ (Reg.Steps.cons ?_ (Reg.Steps.cons ?_ (Reg.Steps.cons ?_ (Reg.Steps.cons ?_ (Reg.Steps.cons ?_ (Reg.Steps.nil _))))))))))))))))))))))))))))))))))))
              · intro val ac u hR hp ha K hK      -- 0: t13 := Op.load 78 t1
                have e1 : (ac.tmps[1]?).getD undef = .pointer (some ⟨bs, 0, none⟩) := ha 1 (by decide)
                clear ha hp
                refine Reg.Op1.plain rfl ?_
                have x0 := (((Reg.Wr.all hR)).cell (p := ⟨bs, 0, none⟩) (hbs) (nof)).trans (y0)
                go_wp2
                exact ⟨rfl, hK _ _ rfl (Reg.Wr.same _)⟩
              · intro val ac u hR hp ha K hK      -- 1: t14 := Op.nilCheck t13
                obtain ⟨w13, h13, r13⟩ := hp 0 (by decide)
                have e13 : (ac.tmps[13]?).getD undef = .pointer (some ⟨gs, 0, none⟩) := (ha 13 (by decide)).trans h13
                clear h13
                clear ha hp
                refine Reg.Op1.plain rfl ?_
                go_wp2
                exact ⟨rfl, hK _ _ rfl (Reg.Wr.same _)⟩
              · intro val ac u hR hp ha K hK      -- 2: t15 := Op.fieldAddr 81 t14 0
                obtain ⟨w14, h14, r14⟩ := hp 1 (by decide)
                have e14 : (ac.tmps[14]?).getD undef = .pointer (some ⟨gs, 0, none⟩) := (ha 14 (by decide)).trans h14
                clear h14
                clear ha hp
                refine Reg.Op1.plain rfl ?_
                go_wp2
                exact ⟨rfl, hK _ _ rfl (Reg.Wr.same _)⟩
              · intro val ac u hR hp ha K hK      -- 3: t16 := Op.load 4 t15
                obtain ⟨w15, h15, r15⟩ := hp 2 (by decide)
                have e15 : (ac.tmps[15]?).getD undef = .pointer (some ⟨gs, 0, none⟩) := (ha 15 (by decide)).trans h15
                clear h15
                clear ha hp
                refine Reg.Op1.plain rfl ?_
                have x0 := (((Reg.Wr.all hR)).cell (p := ⟨gs, 0, none⟩) (hgs) (nof)).trans (y1)
                go_wp2
                exact ⟨rfl, hK _ _ rfl (Reg.Wr.same _)⟩
              · intro val ac u hR hp ha K hK      -- 4: t17 := Op.move t16
                obtain ⟨w16, h16, r16⟩ := hp 3 (by decide)
                have e16 : (ac.tmps[16]?).getD undef = .bool true := (ha 16 (by decide)).trans h16
                clear h16
                clear ha hp
                refine Reg.Op1.plain rfl ?_
                go_wp2
                exact ⟨rfl, hK _ _ rfl (Reg.Wr.same _)⟩
              · intro val ac u hR hp ha K hK      -- 5: t18 := Op.fieldAddr 46 t2 1
                have e2 : (ac.tmps[2]?).getD undef = .pointer (some ⟨w.heap.size, 0, none⟩) := ha 2 (by decide)
                obtain ⟨w17, h17, r17⟩ := hp 4 (by decide)
                have e17 : (ac.tmps[17]?).getD undef = .bool true := (ha 17 (by decide)).trans h17
                clear h17
                clear ha hp
                refine Reg.Op1.guarded rfl rfl e17 (fun _ => Reg.Op1.plain rfl ?_) (fun h => absurd rfl h)
                go_wp2
                exact ⟨rfl, hK _ _ rfl (Reg.Wr.same _)⟩
              · intro val ac u hR hp ha K hK      -- 6: t19 := Op.load 3 t18
                obtain ⟨w18, h18, r18⟩ := hp 5 (by decide)
                have e18 : (ac.tmps[18]?).getD undef = .pointer (some ⟨w.heap.size, 1, none⟩) := (ha 18 (by decide)).trans h18
                clear h18
                obtain ⟨w17, h17, r17⟩ := hp 4 (by decide)
                have e17 : (ac.tmps[17]?).getD undef = .bool true := (ha 17 (by decide)).trans h17
                clear h17
                clear ha hp
                refine Reg.Op1.guarded rfl rfl e17 (fun _ => Reg.Op1.plain rfl ?_) (fun h => absurd rfl h)
                have x0 := (((Reg.Wr.all hR)).cell (p := ⟨w.heap.size, 1, none⟩) (hxs) (nof)).trans (y2)
                go_wp2
                exact ⟨rfl, hK _ _ rfl (Reg.Wr.same _)⟩
              · intro val ac u hR hp ha K hK      -- 7: t20 := Op.load 78 t1
                have e1 : (ac.tmps[1]?).getD undef = .pointer (some ⟨bs, 0, none⟩) := ha 1 (by decide)
                obtain ⟨w17, h17, r17⟩ := hp 4 (by decide)
                have e17 : (ac.tmps[17]?).getD undef = .bool true := (ha 17 (by decide)).trans h17
                clear h17
                clear ha hp
                refine Reg.Op1.guarded rfl rfl e17 (fun _ => Reg.Op1.plain rfl ?_) (fun h => absurd rfl h)
                have x0 := (((Reg.Wr.all hR)).cell (p := ⟨bs, 0, none⟩) (hbs) (nof)).trans (y0)
                go_wp2
                exact ⟨rfl, hK _ _ rfl (Reg.Wr.same _)⟩
              · intro val ac u hR hp ha K hK      -- 8: t21 := Op.nilCheck t20
                obtain ⟨w20, h20, r20⟩ := hp 7 (by decide)
                have e20 : (ac.tmps[20]?).getD undef = .pointer (some ⟨gs, 0, none⟩) := (ha 20 (by decide)).trans h20
                clear h20
                obtain ⟨w17, h17, r17⟩ := hp 4 (by decide)
                have e17 : (ac.tmps[17]?).getD undef = .bool true := (ha 17 (by decide)).trans h17
                clear h17
                clear ha hp
                refine Reg.Op1.guarded rfl rfl e17 (fun _ => Reg.Op1.plain rfl ?_) (fun h => absurd rfl h)
                go_wp2
                exact ⟨rfl, hK _ _ rfl (Reg.Wr.same _)⟩
              · intro val ac u hR hp ha K hK      -- 9: t22 := Op.fieldAddr 81 t21 1
                obtain ⟨w21, h21, r21⟩ := hp 8 (by decide)
                have e21 : (ac.tmps[21]?).getD undef = .pointer (some ⟨gs, 0, none⟩) := (ha 21 (by decide)).trans h21
                clear h21
                obtain ⟨w17, h17, r17⟩ := hp 4 (by decide)
                have e17 : (ac.tmps[17]?).getD undef = .bool true := (ha 17 (by decide)).trans h17
                clear h17
                clear ha hp
                refine Reg.Op1.guarded rfl rfl e17 (fun _ => Reg.Op1.plain rfl ?_) (fun h => absurd rfl h)
                go_wp2
                exact ⟨rfl, hK _ _ rfl (Reg.Wr.same _)⟩
              · intro val ac u hR hp ha K hK      -- 10: t23 := Op.fieldAddr 46 t22 1
                obtain ⟨w22, h22, r22⟩ := hp 9 (by decide)
                have e22 : (ac.tmps[22]?).getD undef = .pointer (some ⟨gs, 1, none⟩) := (ha 22 (by decide)).trans h22
                clear h22
                obtain ⟨w17, h17, r17⟩ := hp 4 (by decide)
                have e17 : (ac.tmps[17]?).getD undef = .bool true := (ha 17 (by decide)).trans h17
                clear h17
                clear ha hp
                refine Reg.Op1.guarded rfl rfl e17 (fun _ => Reg.Op1.plain rfl ?_) (fun h => absurd rfl h)
                go_wp2
                exact ⟨rfl, hK _ _ rfl (Reg.Wr.same _)⟩
              · intro val ac u hR hp ha K hK      -- 11: t24 := Op.load 3 t23
                obtain ⟨w23, h23, r23⟩ := hp 10 (by decide)
                have e23 : (ac.tmps[23]?).getD undef = .pointer (some ⟨gs, 2, none⟩) := (ha 23 (by decide)).trans h23
                clear h23
                obtain ⟨w17, h17, r17⟩ := hp 4 (by decide)
                have e17 : (ac.tmps[17]?).getD undef = .bool true := (ha 17 (by decide)).trans h17
                clear h17
                clear ha hp
                refine Reg.Op1.guarded rfl rfl e17 (fun _ => Reg.Op1.plain rfl ?_) (fun h => absurd rfl h)
                have x0 := (((Reg.Wr.all hR)).cell (p := ⟨gs, 2, none⟩) (hgs) (nof)).trans (y3)
                go_wp2
                exact ⟨rfl, hK _ _ rfl (Reg.Wr.same _)⟩
              · intro val ac u hR hp ha K hK      -- 12: t25 := Op.binOp BinOp.eql 3 t19 t24 3
                obtain ⟨w19, h19, r19⟩ := hp 6 (by decide)
                have e19 : (ac.tmps[19]?).getD undef = .int .i64 e.op := (ha 19 (by decide)).trans h19
                clear h19
                obtain ⟨w24, h24, r24⟩ := hp 11 (by decide)
                have e24 : (ac.tmps[24]?).getD undef = .int .i64 s.begun.op := (ha 24 (by decide)).trans h24
                clear h24
                obtain ⟨w17, h17, r17⟩ := hp 4 (by decide)
                have e17 : (ac.tmps[17]?).getD undef = .bool true := (ha 17 (by decide)).trans h17
                clear h17
                clear ha hp
                refine Reg.Op1.guarded rfl rfl e17 (fun _ => Reg.Op1.plain rfl ?_) (fun h => absurd rfl h)
                go_wp2
                exact ⟨rfl, hK _ _ rfl (Reg.Wr.same _)⟩
              · intro val ac u hR hp ha K hK      -- 13: t26 := Op.pick t17 t25 (const (Value.bool false))
                obtain ⟨w17, h17, r17⟩ := hp 4 (by decide)
                have e17 : (ac.tmps[17]?).getD undef = .bool true := (ha 17 (by decide)).trans h17
                clear h17
                obtain ⟨w25, h25, r25⟩ := hp 12 (by decide)
                have e25 : (ac.tmps[25]?).getD undef = .bool true := (ha 25 (by decide)).trans h25
                clear h25
                clear ha hp
                refine Reg.Op1.plain rfl ?_
                go_wp2
                exact ⟨rfl, hK _ _ rfl (Reg.Wr.same _)⟩
              · intro val ac u hR hp ha K hK      -- 14: t27 := Op.move t26
                obtain ⟨w26, h26, r26⟩ := hp 13 (by decide)
                have e26 : (ac.tmps[26]?).getD undef = .bool true := (ha 26 (by decide)).trans h26
                clear h26
                clear ha hp
                refine Reg.Op1.plain rfl ?_
                go_wp2
                exact ⟨rfl, hK _ _ rfl (Reg.Wr.same _)⟩
              · intro val ac u hR hp ha K hK      -- 15: t28 := Op.fieldAddr 42 t4 0
                have e4 : (ac.tmps[4]?).getD undef = .pointer (some ⟨p, 0, none⟩) := ha 4 (by decide)
                obtain ⟨w27, h27, r27⟩ := hp 14 (by decide)
                have e27 : (ac.tmps[27]?).getD undef = .bool true := (ha 27 (by decide)).trans h27
                clear h27
                clear ha hp
                refine Reg.Op1.guarded rfl rfl e27 (fun _ => Reg.Op1.plain rfl ?_) (fun h => absurd rfl h)
                go_wp2
                exact ⟨rfl, hK _ _ rfl (Reg.Wr.same _)⟩
              · intro val ac u hR hp ha K hK      -- 16: t29 := Op.load 3 t28
                obtain ⟨w28, h28, r28⟩ := hp 15 (by decide)
                have e28 : (ac.tmps[28]?).getD undef = .pointer (some ⟨p, 0, none⟩) := (ha 28 (by decide)).trans h28
                clear h28
                obtain ⟨w27, h27, r27⟩ := hp 14 (by decide)
                have e27 : (ac.tmps[27]?).getD undef = .bool true := (ha 27 (by decide)).trans h27
                clear h27
                clear ha hp
                refine Reg.Op1.guarded rfl rfl e27 (fun _ => Reg.Op1.plain rfl ?_) (fun h => absurd rfl h)
                have x0 := (((Reg.Wr.all hR)).cell (p := ⟨p, 0, none⟩) (hps) (nof)).trans (y4)
                go_wp2
                exact ⟨rfl, hK _ _ rfl (Reg.Wr.same _)⟩
              · intro val ac u hR hp ha K hK      -- 17: t30 := Op.fieldAddr 42 t5 0
                have e5 : (ac.tmps[5]?).getD undef = .pointer (some ⟨q, 0, none⟩) := ha 5 (by decide)
                obtain ⟨w27, h27, r27⟩ := hp 14 (by decide)
                have e27 : (ac.tmps[27]?).getD undef = .bool true := (ha 27 (by decide)).trans h27
                clear h27
                clear ha hp
                refine Reg.Op1.guarded rfl rfl e27 (fun _ => Reg.Op1.plain rfl ?_) (fun h => absurd rfl h)
                go_wp2
                exact ⟨rfl, hK _ _ rfl (Reg.Wr.same _)⟩
              · intro val ac u hR hp ha K hK      -- 18: t31 := Op.load 3 t30
                obtain ⟨w30, h30, r30⟩ := hp 17 (by decide)
                have e30 : (ac.tmps[30]?).getD undef = .pointer (some ⟨q, 0, none⟩) := (ha 30 (by decide)).trans h30
                clear h30
                obtain ⟨w27, h27, r27⟩ := hp 14 (by decide)
                have e27 : (ac.tmps[27]?).getD undef = .bool true := (ha 27 (by decide)).trans h27
                clear h27
                clear ha hp
                refine Reg.Op1.guarded rfl rfl e27 (fun _ => Reg.Op1.plain rfl ?_) (fun h => absurd rfl h)
                have x0 := (((Reg.Wr.all hR)).cell (p := ⟨q, 0, none⟩) (hqs) (nof)).trans (y5)
                go_wp2
                exact ⟨rfl, hK _ _ rfl (Reg.Wr.same _)⟩
              · intro val ac u hR hp ha K hK      -- 19: t32 := Op.binOp BinOp.eql 3 t29 t31 3
                obtain ⟨w29, h29, r29⟩ := hp 16 (by decide)
                have e29 : (ac.tmps[29]?).getD undef = .int .i64 e.kind := (ha 29 (by decide)).trans h29
                clear h29
                obtain ⟨w31, h31, r31⟩ := hp 18 (by decide)
                have e31 : (ac.tmps[31]?).getD undef = .int .i64 s.begun.kind := (ha 31 (by decide)).trans h31
                clear h31
                obtain ⟨w27, h27, r27⟩ := hp 14 (by decide)
                have e27 : (ac.tmps[27]?).getD undef = .bool true := (ha 27 (by decide)).trans h27
                clear h27
                clear ha hp
                refine Reg.Op1.guarded rfl rfl e27 (fun _ => Reg.Op1.plain rfl ?_) (fun h => absurd rfl h)
                go_wp2
                exact ⟨rfl, hK _ _ rfl (Reg.Wr.same _)⟩
              · intro val ac u hR hp ha K hK      -- 20: t33 := Op.pick t27 t32 (const (Value.bool false))
                obtain ⟨w27, h27, r27⟩ := hp 14 (by decide)
                have e27 : (ac.tmps[27]?).getD undef = .bool true := (ha 27 (by decide)).trans h27
                clear h27
                obtain ⟨w32, h32, r32⟩ := hp 19 (by decide)
                have e32 : (ac.tmps[32]?).getD undef = .bool true := (ha 32 (by decide)).trans h32
                clear h32
                clear ha hp
                refine Reg.Op1.plain rfl ?_
                go_wp2
                exact ⟨rfl, hK _ _ rfl (Reg.Wr.same _)⟩
              · intro val ac u hR hp ha K hK      -- 21: t34 := Op.move t33
                obtain ⟨w33, h33, r33⟩ := hp 20 (by decide)
                have e33 : (ac.tmps[33]?).getD undef = .bool true := (ha 33 (by decide)).trans h33
                clear h33
                clear ha hp
                refine Reg.Op1.plain rfl ?_
                go_wp2
                exact ⟨rfl, hK _ _ rfl (Reg.Wr.same _)⟩
              · intro val ac u hR hp ha K hK      -- 22: t35 := Op.fieldAddr 42 t4 1
                have e4 : (ac.tmps[4]?).getD undef = .pointer (some ⟨p, 0, none⟩) := ha 4 (by decide)
                obtain ⟨w34, h34, r34⟩ := hp 21 (by decide)
                have e34 : (ac.tmps[34]?).getD undef = .bool true := (ha 34 (by decide)).trans h34
                clear h34
                clear ha hp
                refine Reg.Op1.guarded rfl rfl e34 (fun _ => Reg.Op1.plain rfl ?_) (fun h => absurd rfl h)
                go_wp2
                exact ⟨rfl, hK _ _ rfl (Reg.Wr.same _)⟩
              · intro val ac u hR hp ha K hK      -- 23: t36 := Op.load 40 t35
                obtain ⟨w35, h35, r35⟩ := hp 22 (by decide)
                have e35 : (ac.tmps[35]?).getD undef = .pointer (some ⟨p, 1, none⟩) := (ha 35 (by decide)).trans h35
                clear h35
                obtain ⟨w34, h34, r34⟩ := hp 21 (by decide)
                have e34 : (ac.tmps[34]?).getD undef = .bool true := (ha 34 (by decide)).trans h34
                clear h34
                clear ha hp
                refine Reg.Op1.guarded rfl rfl e34 (fun _ => Reg.Op1.plain rfl ?_) (fun h => absurd rfl h)
                have x0 := (((Reg.Wr.all hR)).cell (p := ⟨p, 1, none⟩) (hps) (nof)).trans (y6)
                go_wp2
                exact ⟨rfl, hK _ _ rfl (Reg.Wr.same _)⟩
              · intro val ac u hR hp ha K hK      -- 24: t37 := Op.fieldAddr 42 t5 1
                have e5 : (ac.tmps[5]?).getD undef = .pointer (some ⟨q, 0, none⟩) := ha 5 (by decide)
                obtain ⟨w34, h34, r34⟩ := hp 21 (by decide)
                have e34 : (ac.tmps[34]?).getD undef = .bool true := (ha 34 (by decide)).trans h34
                clear h34
                clear ha hp
                refine Reg.Op1.guarded rfl rfl e34 (fun _ => Reg.Op1.plain rfl ?_) (fun h => absurd rfl h)
                go_wp2
                exact ⟨rfl, hK _ _ rfl (Reg.Wr.same _)⟩
              · intro val ac u hR hp ha K hK      -- 25: t38 := Op.load 40 t37
                obtain ⟨w37, h37, r37⟩ := hp 24 (by decide)
                have e37 : (ac.tmps[37]?).getD undef = .pointer (some ⟨q, 1, none⟩) := (ha 37 (by decide)).trans h37
                clear h37
                obtain ⟨w34, h34, r34⟩ := hp 21 (by decide)
                have e34 : (ac.tmps[34]?).getD undef = .bool true := (ha 34 (by decide)).trans h34
                clear h34
                clear ha hp
                refine Reg.Op1.guarded rfl rfl e34 (fun _ => Reg.Op1.plain rfl ?_) (fun h => absurd rfl h)
                have x0 := (((Reg.Wr.all hR)).cell (p := ⟨q, 1, none⟩) (hqs) (nof)).trans (y7)
                go_wp2
                exact ⟨rfl, hK _ _ rfl (Reg.Wr.same _)⟩
              · intro val ac u hR hp ha K hK      -- 26: t39 := Op.call { value (Operand.func 45), args := #[t36, t38], argTypes := #[40, 40] }
                obtain ⟨w36, h36, r36⟩ := hp 23 (by decide)
                have e36 : (ac.tmps[36]?).getD undef = .slice e.kA e.keys.length e.kc := (ha 36 (by decide)).trans h36
                clear h36
                obtain ⟨w38, h38, r38⟩ := hp 25 (by decide)
                have e38 : (ac.tmps[38]?).getD undef = .slice s.begun.kA s.begun.keys.length s.begun.kc := (ha 38 (by decide)).trans h38
                clear h38
                obtain ⟨w34, h34, r34⟩ := hp 21 (by decide)
                have e34 : (ac.tmps[34]?).getD undef = .bool true := (ha 34 (by decide)).trans h34
                clear h34
                clear ha hp
                refine Reg.Op1.guarded rfl rfl e34 (fun _ => Reg.Op1.plain rfl ?_) (fun h => absurd rfl h)
                have hk8 : Mem.Keeps (fun _ => False) w2 u := ((Mem.Keeps.refl (fun _ => False) w2).drew.trans (Reg.Wr.all hR) (fun _ h _ => h.elim id (fun h => h.elim id id)))
                have hbu : Below w2.heap.size w2 u := hk8.belowAll
                go_wp2_with fail
                refine (equal_any (B := B) (HR.out.o.k.below (hbu.mono HR.out.c.le)) (HR.out.c.b.k.below (hbu.mono HR.out.c.le)) (Nat.le_trans HR.out.c.le hbu.size) (by have := HR.out.o.kl; have := HR.out.o.kn; unfold maxLen; omega) (by have := HR.out.c.b.kl; have := HR.out.c.b.kn; unfold maxLen; omega)).mono ?_
                rintro x w' ⟨rfl, hb'⟩
                go_wp2_with fail
                exact ⟨rfl, hK _ _ (by rw [HKE.out]) (Reg.Wr.below hb')⟩
              · intro val ac u hR hp ha K hK      -- 27: t40 := Op.pick t34 t39 (const (Value.bool false))
                obtain ⟨w34, h34, r34⟩ := hp 21 (by decide)
                have e34 : (ac.tmps[34]?).getD undef = .bool true := (ha 34 (by decide)).trans h34
                clear h34
                obtain ⟨w39, h39, r39⟩ := hp 26 (by decide)
                have e39 : (ac.tmps[39]?).getD undef = .bool true := (ha 39 (by decide)).trans h39
                clear h39
                clear ha hp
                refine Reg.Op1.plain rfl ?_
                go_wp2
                exact ⟨rfl, hK _ _ rfl (Reg.Wr.same _)⟩
              · intro val ac u hR hp ha K hK      -- 28: t41 := Op.move t40
                obtain ⟨w40, h40, r40⟩ := hp 27 (by decide)
                have e40 : (ac.tmps[40]?).getD undef = .bool true := (ha 40 (by decide)).trans h40
                clear h40
                clear ha hp
                refine Reg.Op1.plain rfl ?_
                go_wp2
                exact ⟨rfl, hK _ _ rfl (Reg.Wr.same _)⟩
              · intro val ac u hR hp ha K hK      -- 29: t42 := Op.fieldAddr 42 t4 2
                have e4 : (ac.tmps[4]?).getD undef = .pointer (some ⟨p, 0, none⟩) := ha 4 (by decide)
                obtain ⟨w41, h41, r41⟩ := hp 28 (by decide)
                have e41 : (ac.tmps[41]?).getD undef = .bool true := (ha 41 (by decide)).trans h41
                clear h41
                clear ha hp
                refine Reg.Op1.guarded rfl rfl e41 (fun _ => Reg.Op1.plain rfl ?_) (fun h => absurd rfl h)
                go_wp2
                exact ⟨rfl, hK _ _ rfl (Reg.Wr.same _)⟩
              · intro val ac u hR hp ha K hK      -- 30: t43 := Op.load 9 t42
                obtain ⟨w42, h42, r42⟩ := hp 29 (by decide)
                have e42 : (ac.tmps[42]?).getD undef = .pointer (some ⟨p, 2, none⟩) := (ha 42 (by decide)).trans h42
                clear h42
                obtain ⟨w41, h41, r41⟩ := hp 28 (by decide)
                have e41 : (ac.tmps[41]?).getD undef = .bool true := (ha 41 (by decide)).trans h41
                clear h41
                clear ha hp
                refine Reg.Op1.guarded rfl rfl e41 (fun _ => Reg.Op1.plain rfl ?_) (fun h => absurd rfl h)
                have x0 := (((Reg.Wr.all hR)).cell (p := ⟨p, 2, none⟩) (hps) (nof)).trans (y8)
                go_wp2
                exact ⟨rfl, hK _ _ rfl (Reg.Wr.same _)⟩
              · intro val ac u hR hp ha K hK      -- 31: t44 := Op.fieldAddr 42 t5 2
                have e5 : (ac.tmps[5]?).getD undef = .pointer (some ⟨q, 0, none⟩) := ha 5 (by decide)
                obtain ⟨w41, h41, r41⟩ := hp 28 (by decide)
                have e41 : (ac.tmps[41]?).getD undef = .bool true := (ha 41 (by decide)).trans h41
                clear h41
                clear ha hp
                refine Reg.Op1.guarded rfl rfl e41 (fun _ => Reg.Op1.plain rfl ?_) (fun h => absurd rfl h)
                go_wp2
                exact ⟨rfl, hK _ _ rfl (Reg.Wr.same _)⟩
              · intro val ac u hR hp ha K hK      -- 32: t45 := Op.load 9 t44
                obtain ⟨w44, h44, r44⟩ := hp 31 (by decide)
                have e44 : (ac.tmps[44]?).getD undef = .pointer (some ⟨q, 2, none⟩) := (ha 44 (by decide)).trans h44
                clear h44
                obtain ⟨w41, h41, r41⟩ := hp 28 (by decide)
                have e41 : (ac.tmps[41]?).getD undef = .bool true := (ha 41 (by decide)).trans h41
                clear h41
                clear ha hp
                refine Reg.Op1.guarded rfl rfl e41 (fun _ => Reg.Op1.plain rfl ?_) (fun h => absurd rfl h)
                have x0 := (((Reg.Wr.all hR)).cell (p := ⟨q, 2, none⟩) (hqs) (nof)).trans (y9)
                go_wp2
                exact ⟨rfl, hK _ _ rfl (Reg.Wr.same _)⟩
              · intro val ac u hR hp ha K hK      -- 33: t46 := Op.binOp BinOp.eql 9 t43 t45 9
                obtain ⟨w43, h43, r43⟩ := hp 30 (by decide)
                have e43 : (ac.tmps[43]?).getD undef = .string e.val := (ha 43 (by decide)).trans h43
                clear h43
                obtain ⟨w45, h45, r45⟩ := hp 32 (by decide)
                have e45 : (ac.tmps[45]?).getD undef = .string s.begun.val := (ha 45 (by decide)).trans h45
                clear h45
                obtain ⟨w41, h41, r41⟩ := hp 28 (by decide)
                have e41 : (ac.tmps[41]?).getD undef = .bool true := (ha 41 (by decide)).trans h41
                clear h41
                clear ha hp
                refine Reg.Op1.guarded rfl rfl e41 (fun _ => Reg.Op1.plain rfl ?_) (fun h => absurd rfl h)
                go_wp2
                exact ⟨rfl, hK _ _ rfl (Reg.Wr.same _)⟩
              · intro val ac u hR hp ha K hK      -- 34: t47 := Op.pick t41 t46 (const (Value.bool false))
                obtain ⟨w41, h41, r41⟩ := hp 28 (by decide)
                have e41 : (ac.tmps[41]?).getD undef = .bool true := (ha 41 (by decide)).trans h41
                clear h41
                obtain ⟨w46, h46, r46⟩ := hp 33 (by decide)
                have e46 : (ac.tmps[46]?).getD undef = .bool true := (ha 46 (by decide)).trans h46
                clear h46
                clear ha hp
                refine Reg.Op1.plain rfl ?_
                go_wp2
                exact ⟨rfl, hK _ _ rfl (Reg.Wr.same _)⟩
              · intro val ac u hR hp ha K hK      -- 35: t3 := Op.assign t47
                obtain ⟨w47, h47, r47⟩ := hp 34 (by decide)
                have e47 : (ac.tmps[47]?).getD undef = .bool true := (ha 47 (by decide)).trans h47
                clear h47
                clear ha hp
                refine Reg.Op1.plain rfl ?_
                go_wp2
                exact ⟨rfl, hK _ _ rfl (Reg.Wr.same _)⟩
            intro val u hR H
            obtain ⟨_, hv9, _⟩ := H 35 (by decide)
            have hk8 : Mem.Keeps (fun _ => False) w2 u := ((Mem.Keeps.refl (fun _ => False) w2).drew.trans (Reg.Wr.all hR) (fun _ h _ => h.elim id (fun h => h.elim id id)))
            simp only [List.map_cons, List.map_nil, Reg.lay, Act.put, List.setIfInBounds_toArray, List.set_cons_succ, List.set_cons_zero, Nat.reduceAdd]
            rw [hv9]
            have HK8 := Lib.hid hk8
            clear hR H hv9 hk8
            go_wp2
            go_ret
            exact ⟨by rw [HRS.out]; rfl, HR.out.b.trans (HK8.out.belowAll.mono HR.out.b.size)⟩
          · have HRS : Hid (r2 s e = false) := by show _ = _; rw [HRQ.out]; simp [hv]
            have b46 : (e.val.toList == s.begun.val.toList) = false := Vec.str_ne hv
            have HO := Lib.hid ho
            have HK := Lib.hid hk
            clear HRQ ho hk
            go_upto_region 2 with fail
            refine Reg.wp_region_w (by kernel_rfl) 48 36 rfl rfl (by kernel_rfl) (0) (fun _ => False) (0) (fun _ => False) (0) (fun _ => False)
              (fun i v u => match i with
                | 0 => v = .pointer (some ⟨gs, 0, none⟩)
                | 1 => v = .pointer (some ⟨gs, 0, none⟩)
                | 2 => v = .pointer (some ⟨gs, 0, none⟩)
                | 3 => v = .bool true
                | 4 => v = .bool true
                | 5 => v = .pointer (some ⟨w.heap.size, 1, none⟩)
                | 6 => v = .int .i64 e.op
                | 7 => v = .pointer (some ⟨gs, 0, none⟩)
                | 8 => v = .pointer (some ⟨gs, 0, none⟩)
                | 9 => v = .pointer (some ⟨gs, 1, none⟩)
                | 10 => v = .pointer (some ⟨gs, 2, none⟩)
                | 11 => v = .int .i64 s.begun.op
                | 12 => v = .bool true
                | 13 => v = .bool true
                | 14 => v = .bool true
                | 15 => v = .pointer (some ⟨p, 0, none⟩)
                | 16 => v = .int .i64 e.kind
                | 17 => v = .pointer (some ⟨q, 0, none⟩)
                | 18 => v = .int .i64 s.begun.kind
                | 19 => v = .bool true
                | 20 => v = .bool true
                | 21 => v = .bool true
                | 22 => v = .pointer (some ⟨p, 1, none⟩)
                | 23 => v = .slice e.kA e.keys.length e.kc
                | 24 => v = .pointer (some ⟨q, 1, none⟩)
                | 25 => v = .slice s.begun.kA s.begun.keys.length s.begun.kc
                | 26 => v = .bool true
                | 27 => v = .bool true
                | 28 => v = .bool true
                | 29 => v = .pointer (some ⟨p, 2, none⟩)
                | 30 => v = .string e.val
                | 31 => v = .pointer (some ⟨q, 2, none⟩)
                | 32 => v = .string s.begun.val
                | 33 => v = .bool false
                | 34 => v = .bool false
                | 35 => v = .bool false
                | _ => True) ?_ ?_
            · refine Reg.Steps.cons ?_ (Reg.Steps.cons ?_ (Reg.Steps.cons ?_ (Reg.Steps.cons ?_ (Reg.Steps.cons ?_ (Reg.Steps.cons ?_ (Reg.Steps.cons ?_ (Reg.Steps.cons ?_ (Reg.Steps.cons ?_ (Reg.Steps.cons ?_ (Reg.Steps.cons ?_ (Reg.Steps.cons ?_ (Reg.Steps.cons ?_ (Reg.Steps.cons ?_ (Reg.Steps.cons ?_ (Reg.Steps.cons ?_ (Reg.Steps.cons ?_ (Reg.Steps.cons ?_ (Reg.Steps.cons ?_ (Reg.Steps.cons ?_ (Reg.Steps.cons ?_ (Reg.Steps.cons ?_ (Reg.Steps.cons ?_ (Reg.Steps.cons ?_ (Reg.Steps.cons ?_ (Reg.Steps.cons ?_ (Reg.Steps.cons ?_ (Reg.Steps.cons ?_ (Reg.Steps.cons ?_ (Reg.Steps.cons ?_ (Reg.Steps.cons ?_ (Reg.Steps.cons ?_ (Reg.Steps.cons ?_ (Reg.Steps.cons ?_ (Reg.Steps.cons ?_ (Reg.Steps.cons ?_ (Reg.Steps.nil _))))))))))))))))))))))))))))))))))))
              · intro val ac u hR hp ha K hK      -- 0: t13 := Op.load 78 t1
                have e1 : (ac.tmps[1]?).getD undef = .pointer (some ⟨bs, 0, none⟩) := ha 1 (by decide)
                clear ha hp
                refine Reg.Op1.plain rfl ?_
                have x0 := (((Reg.Wr.all hR)).cell (p := ⟨bs, 0, none⟩) (hbs) (nof)).trans (y0)
                go_wp2
                exact ⟨rfl, hK _ _ rfl (Reg.Wr.same _)⟩
              · intro val ac u hR hp ha K hK      -- 1: t14 := Op.nilCheck t13
                obtain ⟨w13, h13, r13⟩ := hp 0 (by decide)
                have e13 : (ac.tmps[13]?).getD undef = .pointer (some ⟨gs, 0, none⟩) := (ha 13 (by decide)).trans h13
                clear h13
                clear ha hp
                refine Reg.Op1.plain rfl ?_
                go_wp2
                exact ⟨rfl, hK _ _ rfl (Reg.Wr.same _)⟩
              · intro val ac u hR hp ha K hK      -- 2: t15 := Op.fieldAddr 81 t14 0
                obtain ⟨w14, h14, r14⟩ := hp 1 (by decide)
                have e14 : (ac.tmps[14]?).getD undef = .pointer (some ⟨gs, 0, none⟩) := (ha 14 (by decide)).trans h14
                clear h14
                clear ha hp
                refine Reg.Op1.plain rfl ?_
                go_wp2
                exact ⟨rfl, hK _ _ rfl (Reg.Wr.same _)⟩
              · intro val ac u hR hp ha K hK      -- 3: t16 := Op.load 4 t15
                obtain ⟨w15, h15, r15⟩ := hp 2 (by decide)
                have e15 : (ac.tmps[15]?).getD undef = .pointer (some ⟨gs, 0, none⟩) := (ha 15 (by decide)).trans h15
                clear h15
                clear ha hp
                refine Reg.Op1.plain rfl ?_
                have x0 := (((Reg.Wr.all hR)).cell (p := ⟨gs, 0, none⟩) (hgs) (nof)).trans (y1)
                go_wp2
                exact ⟨rfl, hK _ _ rfl (Reg.Wr.same _)⟩
              · intro val ac u hR hp ha K hK      -- 4: t17 := Op.move t16
                obtain ⟨w16, h16, r16⟩ := hp 3 (by decide)
                have e16 : (ac.tmps[16]?).getD undef = .bool true := (ha 16 (by decide)).trans h16
                clear h16
                clear ha hp
                refine Reg.Op1.plain rfl ?_
                go_wp2
                exact ⟨rfl, hK _ _ rfl (Reg.Wr.same _)⟩
              · intro val ac u hR hp ha K hK      -- 5: t18 := Op.fieldAddr 46 t2 1
                have e2 : (ac.tmps[2]?).getD undef = .pointer (some ⟨w.heap.size, 0, none⟩) := ha 2 (by decide)
                obtain ⟨w17, h17, r17⟩ := hp 4 (by decide)
                have e17 : (ac.tmps[17]?).getD undef = .bool true := (ha 17 (by decide)).trans h17
                clear h17
                clear ha hp
                refine Reg.Op1.guarded rfl rfl e17 (fun _ => Reg.Op1.plain rfl ?_) (fun h => absurd rfl h)
                go_wp2
                exact ⟨rfl, hK _ _ rfl (Reg.Wr.same _)⟩
              · intro val ac u hR hp ha K hK      -- 6: t19 := Op.load 3 t18
                obtain ⟨w18, h18, r18⟩ := hp 5 (by decide)
                have e18 : (ac.tmps[18]?).getD undef = .pointer (some ⟨w.heap.size, 1, none⟩) := (ha 18 (by decide)).trans h18
                clear h18
                obtain ⟨w17, h17, r17⟩ := hp 4 (by decide)
                have e17 : (ac.tmps[17]?).getD undef = .bool true := (ha 17 (by decide)).trans h17
                clear h17
                clear ha hp
                refine Reg.Op1.guarded rfl rfl e17 (fun _ => Reg.Op1.plain rfl ?_) (fun h => absurd rfl h)
                have x0 := (((Reg.Wr.all hR)).cell (p := ⟨w.heap.size, 1, none⟩) (hxs) (nof)).trans (y2)
                go_wp2
                exact ⟨rfl, hK _ _ rfl (Reg.Wr.same _)⟩
              · intro val ac u hR hp ha K hK      -- 7: t20 := Op.load 78 t1
                have e1 : (ac.tmps[1]?).getD undef = .pointer (some ⟨bs, 0, none⟩) := ha 1 (by decide)
                obtain ⟨w17, h17, r17⟩ := hp 4 (by decide)
                have e17 : (ac.tmps[17]?).getD undef = .bool true := (ha 17 (by decide)).trans h17
                clear h17
                clear ha hp
                refine Reg.Op1.guarded rfl rfl e17 (fun _ => Reg.Op1.plain rfl ?_) (fun h => absurd rfl h)
                have x0 := (((Reg.Wr.all hR)).cell (p := ⟨bs, 0, none⟩) (hbs) (nof)).trans (y0)
                go_wp2
                exact ⟨rfl, hK _ _ rfl (Reg.Wr.same _)⟩
              · intro val ac u hR hp ha K hK      -- 8: t21 := Op.nilCheck t20
                obtain ⟨w20, h20, r20⟩ := hp 7 (by decide)
                have e20 : (ac.tmps[20]?).getD undef = .pointer (some ⟨gs, 0, none⟩) := (ha 20 (by decide)).trans h20
                clear h20
                obtain ⟨w17, h17, r17⟩ := hp 4 (by decide)
                have e17 : (ac.tmps[17]?).getD undef = .bool true := (ha 17 (by decide)).trans h17
                clear h17
                clear ha hp
                refine Reg.Op1.guarded rfl rfl e17 (fun _ => Reg.Op1.plain rfl ?_) (fun h => absurd rfl h)
                go_wp2
                exact ⟨rfl, hK _ _ rfl (Reg.Wr.same _)⟩
              · intro val ac u hR hp ha K hK      -- 9: t22 := Op.fieldAddr 81 t21 1
                obtain ⟨w21, h21, r21⟩ := hp 8 (by decide)
                have e21 : (ac.tmps[21]?).getD undef = .pointer (some ⟨gs, 0, none⟩) := (ha 21 (by decide)).trans h21
                clear h21
                obtain ⟨w17, h17, r17⟩ := hp 4 (by decide)
                have e17 : (ac.tmps[17]?).getD undef = .bool true := (ha 17 (by decide)).trans h17
                clear h17
                clear ha hp
                refine Reg.Op1.guarded rfl rfl e17 (fun _ => Reg.Op1.plain rfl ?_) (fun h => absurd rfl h)
                go_wp2
                exact ⟨rfl, hK _ _ rfl (Reg.Wr.same _)⟩
              · intro val ac u hR hp ha K hK      -- 10: t23 := Op.fieldAddr 46 t22 1
                obtain ⟨w22, h22, r22⟩ := hp 9 (by decide)
                have e22 : (ac.tmps[22]?).getD undef = .pointer (some ⟨gs, 1, none⟩) := (ha 22 (by decide)).trans h22
                clear h22
                obtain ⟨w17, h17, r17⟩ := hp 4 (by decide)
                have e17 : (ac.tmps[17]?).getD undef = .bool true := (ha 17 (by decide)).trans h17
                clear h17
                clear ha hp
                refine Reg.Op1.guarded rfl rfl e17 (fun _ => Reg.Op1.plain rfl ?_) (fun h => absurd rfl h)
                go_wp2
                exact ⟨rfl, hK _ _ rfl (Reg.Wr.same _)⟩
              · intro val ac u hR hp ha K hK      -- 11: t24 := Op.load 3 t23
                obtain ⟨w23, h23, r23⟩ := hp 10 (by decide)
                have e23 : (ac.tmps[23]?).getD undef = .pointer (some ⟨gs, 2, none⟩) := (ha 23 (by decide)).trans h23
                clear h23
                obtain ⟨w17, h17, r17⟩ := hp 4 (by decide)
                have e17 : (ac.tmps[17]?).getD undef = .bool true := (ha 17 (by decide)).trans h17
                clear h17
                clear ha hp
                refine Reg.Op1.guarded rfl rfl e17 (fun _ => Reg.Op1.plain rfl ?_) (fun h => absurd rfl h)
                have x0 := (((Reg.Wr.all hR)).cell (p := ⟨gs, 2, none⟩) (hgs) (nof)).trans (y3)
                go_wp2
                exact ⟨rfl, hK _ _ rfl (Reg.Wr.same _)⟩
              · intro val ac u hR hp ha K hK      -- 12: t25 := Op.binOp BinOp.eql 3 t19 t24 3
                obtain ⟨w19, h19, r19⟩ := hp 6 (by decide)
                have e19 : (ac.tmps[19]?).getD undef = .int .i64 e.op := (ha 19 (by decide)).trans h19
                clear h19
                obtain ⟨w24, h24, r24⟩ := hp 11 (by decide)
                have e24 : (ac.tmps[24]?).getD undef = .int .i64 s.begun.op := (ha 24 (by decide)).trans h24
                clear h24
                obtain ⟨w17, h17, r17⟩ := hp 4 (by decide)
                have e17 : (ac.tmps[17]?).getD undef = .bool true := (ha 17 (by decide)).trans h17
                clear h17
                clear ha hp
                refine Reg.Op1.guarded rfl rfl e17 (fun _ => Reg.Op1.plain rfl ?_) (fun h => absurd rfl h)
                go_wp2
                exact ⟨rfl, hK _ _ rfl (Reg.Wr.same _)⟩
              · intro val ac u hR hp ha K hK      -- 13: t26 := Op.pick t17 t25 (const (Value.bool false))
                obtain ⟨w17, h17, r17⟩ := hp 4 (by decide)
                have e17 : (ac.tmps[17]?).getD undef = .bool true := (ha 17 (by decide)).trans h17
                clear h17
                obtain ⟨w25, h25, r25⟩ := hp 12 (by decide)
                have e25 : (ac.tmps[25]?).getD undef = .bool true := (ha 25 (by decide)).trans h25
                clear h25
                clear ha hp
                refine Reg.Op1.plain rfl ?_
                go_wp2
                exact ⟨rfl, hK _ _ rfl (Reg.Wr.same _)⟩
              · intro val ac u hR hp ha K hK      -- 14: t27 := Op.move t26
                obtain ⟨w26, h26, r26⟩ := hp 13 (by decide)
                have e26 : (ac.tmps[26]?).getD undef = .bool true := (ha 26 (by decide)).trans h26
                clear h26
                clear ha hp
                refine Reg.Op1.plain rfl ?_
                go_wp2
                exact ⟨rfl, hK _ _ rfl (Reg.Wr.same _)⟩
              · intro val ac u hR hp ha K hK      -- 15: t28 := Op.fieldAddr 42 t4 0
                have e4 : (ac.tmps[4]?).getD undef = .pointer (some ⟨p, 0, none⟩) := ha 4 (by decide)
                obtain ⟨w27, h27, r27⟩ := hp 14 (by decide)
                have e27 : (ac.tmps[27]?).getD undef = .bool true := (ha 27 (by decide)).trans h27
                clear h27
                clear ha hp
                refine Reg.Op1.guarded rfl rfl e27 (fun _ => Reg.Op1.plain rfl ?_) (fun h => absurd rfl h)
                go_wp2
                exact ⟨rfl, hK _ _ rfl (Reg.Wr.same _)⟩
              · intro val ac u hR hp ha K hK      -- 16: t29 := Op.load 3 t28
                obtain ⟨w28, h28, r28⟩ := hp 15 (by decide)
                have e28 : (ac.tmps[28]?).getD undef = .pointer (some ⟨p, 0, none⟩) := (ha 28 (by decide)).trans h28
                clear h28
                obtain ⟨w27, h27, r27⟩ := hp 14 (by decide)
                have e27 : (ac.tmps[27]?).getD undef = .bool true := (ha 27 (by decide)).trans h27
                clear h27
                clear ha hp
                refine Reg.Op1.guarded rfl rfl e27 (fun _ => Reg.Op1.plain rfl ?_) (fun h => absurd rfl h)
                have x0 := (((Reg.Wr.all hR)).cell (p := ⟨p, 0, none⟩) (hps) (nof)).trans (y4)
                go_wp2
                exact ⟨rfl, hK _ _ rfl (Reg.Wr.same _)⟩
              · intro val ac u hR hp ha K hK      -- 17: t30 := Op.fieldAddr 42 t5 0
                have e5 : (ac.tmps[5]?).getD undef = .pointer (some ⟨q, 0, none⟩) := ha 5 (by decide)
                obtain ⟨w27, h27, r27⟩ := hp 14 (by decide)
                have e27 : (ac.tmps[27]?).getD undef = .bool true := (ha 27 (by decide)).trans h27
                clear h27
                clear ha hp
                refine Reg.Op1.guarded rfl rfl e27 (fun _ => Reg.Op1.plain rfl ?_) (fun h => absurd rfl h)
                go_wp2
                exact ⟨rfl, hK _ _ rfl (Reg.Wr.same _)⟩
              · intro val ac u hR hp ha K hK      -- 18: t31 := Op.load 3 t30
                obtain ⟨w30, h30, r30⟩ := hp 17 (by decide)
                have e30 : (ac.tmps[30]?).getD undef = .pointer (some ⟨q, 0, none⟩) := (ha 30 (by decide)).trans h30
                clear h30
                obtain ⟨w27, h27, r27⟩ := hp 14 (by decide)
                have e27 : (ac.tmps[27]?).getD undef = .bool true := (ha 27 (by decide)).trans h27
                clear h27
                clear ha hp
                refine Reg.Op1.guarded rfl rfl e27 (fun _ => Reg.Op1.plain rfl ?_) (fun h => absurd rfl h)
                have x0 := (((Reg.Wr.all hR)).cell (p := ⟨q, 0, none⟩) (hqs) (nof)).trans (y5)
                go_wp2
                exact ⟨rfl, hK _ _ rfl (Reg.Wr.same _)⟩
              · intro val ac u hR hp ha K hK      -- 19: t32 := Op.binOp BinOp.eql 3 t29 t31 3
                obtain ⟨w29, h29, r29⟩ := hp 16 (by decide)
                have e29 : (ac.tmps[29]?).getD undef = .int .i64 e.kind := (ha 29 (by decide)).trans h29
                clear h29
                obtain ⟨w31, h31, r31⟩ := hp 18 (by decide)
                have e31 : (ac.tmps[31]?).getD undef = .int .i64 s.begun.kind := (ha 31 (by decide)).trans h31
                clear h31
                obtain ⟨w27, h27, r27⟩ := hp 14 (by decide)
                have e27 : (ac.tmps[27]?).getD undef = .bool true := (ha 27 (by decide)).trans h27
                clear h27
                clear ha hp
                refine Reg.Op1.guarded rfl rfl e27 (fun _ => Reg.Op1.plain rfl ?_) (fun h => absurd rfl h)
                go_wp2
                exact ⟨rfl, hK _ _ rfl (Reg.Wr.same _)⟩
              · intro val ac u hR hp ha K hK      -- 20: t33 := Op.pick t27 t32 (const (Value.bool false))
                obtain ⟨w27, h27, r27⟩ := hp 14 (by decide)
                have e27 : (ac.tmps[27]?).getD undef = .bool true := (ha 27 (by decide)).trans h27
                clear h27
                obtain ⟨w32, h32, r32⟩ := hp 19 (by decide)
                have e32 : (ac.tmps[32]?).getD undef = .bool true := (ha 32 (by decide)).trans h32
                clear h32
                clear ha hp
                refine Reg.Op1.plain rfl ?_
                go_wp2
                exact ⟨rfl, hK _ _ rfl (Reg.Wr.same _)⟩
              · intro val ac u hR hp ha K hK      -- 21: t34 := Op.move t33
                obtain ⟨w33, h33, r33⟩ := hp 20 (by decide)
                have e33 : (ac.tmps[33]?).getD undef = .bool true := (ha 33 (by decide)).trans h33
                clear h33
                clear ha hp
                refine Reg.Op1.plain rfl ?_
                go_wp2
                exact ⟨rfl, hK _ _ rfl (Reg.Wr.same _)⟩
              · intro val ac u hR hp ha K hK      -- 22: t35 := Op.fieldAddr 42 t4 1
                have e4 : (ac.tmps[4]?).getD undef = .pointer (some ⟨p, 0, none⟩) := ha 4 (by decide)
                obtain ⟨w34, h34, r34⟩ := hp 21 (by decide)
                have e34 : (ac.tmps[34]?).getD undef = .bool true := (ha 34 (by decide)).trans h34
                clear h34
                clear ha hp
                refine Reg.Op1.guarded rfl rfl e34 (fun _ => Reg.Op1.plain rfl ?_) (fun h => absurd rfl h)
                go_wp2
                exact ⟨rfl, hK _ _ rfl (Reg.Wr.same _)⟩
              · intro val ac u hR hp ha K hK      -- 23: t36 := Op.load 40 t35
                obtain ⟨w35, h35, r35⟩ := hp 22 (by decide)
                have e35 : (ac.tmps[35]?).getD undef = .pointer (some ⟨p, 1, none⟩) := (ha 35 (by decide)).trans h35
                clear h35
                obtain ⟨w34, h34, r34⟩ := hp 21 (by decide)
                have e34 : (ac.tmps[34]?).getD undef = .bool true := (ha 34 (by decide)).trans h34
                clear h34
                clear ha hp
                refine Reg.Op1.guarded rfl rfl e34 (fun _ => Reg.Op1.plain rfl ?_) (fun h => absurd rfl h)
                have x0 := (((Reg.Wr.all hR)).cell (p := ⟨p, 1, none⟩) (hps) (nof)).trans (y6)
                go_wp2
                exact ⟨rfl, hK _ _ rfl (Reg.Wr.same _)⟩
              · intro val ac u hR hp ha K hK      -- 24: t37 := Op.fieldAddr 42 t5 1
                have e5 : (ac.tmps[5]?).getD undef = .pointer (some ⟨q, 0, none⟩) := ha 5 (by decide)
                obtain ⟨w34, h34, r34⟩ := hp 21 (by decide)
                have e34 : (ac.tmps[34]?).getD undef = .bool true := (ha 34 (by decide)).trans h34
                clear h34
                clear ha hp
                refine Reg.Op1.guarded rfl rfl e34 (fun _ => Reg.Op1.plain rfl ?_) (fun h => absurd rfl h)
                go_wp2
                exact ⟨rfl, hK _ _ rfl (Reg.Wr.same _)⟩
              · intro val ac u hR hp ha K hK      -- 25: t38 := Op.load 40 t37
                obtain ⟨w37, h37, r37⟩ := hp 24 (by decide)
                have e37 : (ac.tmps[37]?).getD undef = .pointer (some ⟨q, 1, none⟩) := (ha 37 (by decide)).trans h37
                clear h37
                obtain ⟨w34, h34, r34⟩ := hp 21 (by decide)
                have e34 : (ac.tmps[34]?).getD undef = .bool true := (ha 34 (by decide)).trans h34
                clear h34
                clear ha hp
                refine Reg.Op1.guarded rfl rfl e34 (fun _ => Reg.Op1.plain rfl ?_) (fun h => absurd rfl h)
                have x0 := (((Reg.Wr.all hR)).cell (p := ⟨q, 1, none⟩) (hqs) (nof)).trans (y7)
                go_wp2
                exact ⟨rfl, hK _ _ rfl (Reg.Wr.same _)⟩
              · intro val ac u hR hp ha K hK      -- 26: t39 := Op.call { value (Operand.func 45), args := #[t36, t38], argTypes := #[40, 40] }
                obtain ⟨w36, h36, r36⟩ := hp 23 (by decide)
                have e36 : (ac.tmps[36]?).getD undef = .slice e.kA e.keys.length e.kc := (ha 36 (by decide)).trans h36
                clear h36
                obtain ⟨w38, h38, r38⟩ := hp 25 (by decide)
                have e38 : (ac.tmps[38]?).getD undef = .slice s.begun.kA s.begun.keys.length s.begun.kc := (ha 38 (by decide)).trans h38
                clear h38
                obtain ⟨w34, h34, r34⟩ := hp 21 (by decide)
                have e34 : (ac.tmps[34]?).getD undef = .bool true := (ha 34 (by decide)).trans h34
                clear h34
                clear ha hp
                refine Reg.Op1.guarded rfl rfl e34 (fun _ => Reg.Op1.plain rfl ?_) (fun h => absurd rfl h)
                have hk8 : Mem.Keeps (fun _ => False) w2 u := ((Mem.Keeps.refl (fun _ => False) w2).drew.trans (Reg.Wr.all hR) (fun _ h _ => h.elim id (fun h => h.elim id id)))
                have hbu : Below w2.heap.size w2 u := hk8.belowAll
                go_wp2_with fail
                refine (equal_any (B := B) (HR.out.o.k.below (hbu.mono HR.out.c.le)) (HR.out.c.b.k.below (hbu.mono HR.out.c.le)) (Nat.le_trans HR.out.c.le hbu.size) (by have := HR.out.o.kl; have := HR.out.o.kn; unfold maxLen; omega) (by have := HR.out.c.b.kl; have := HR.out.c.b.kn; unfold maxLen; omega)).mono ?_
                rintro x w' ⟨rfl, hb'⟩
                go_wp2_with fail
                exact ⟨rfl, hK _ _ (by rw [HKE.out]) (Reg.Wr.below hb')⟩
              · intro val ac u hR hp ha K hK      -- 27: t40 := Op.pick t34 t39 (const (Value.bool false))
                obtain ⟨w34, h34, r34⟩ := hp 21 (by decide)
                have e34 : (ac.tmps[34]?).getD undef = .bool true := (ha 34 (by decide)).trans h34
                clear h34
                obtain ⟨w39, h39, r39⟩ := hp 26 (by decide)
                have e39 : (ac.tmps[39]?).getD undef = .bool true := (ha 39 (by decide)).trans h39
                clear h39
                clear ha hp
                refine Reg.Op1.plain rfl ?_
                go_wp2
                exact ⟨rfl, hK _ _ rfl (Reg.Wr.same _)⟩
              · intro val ac u hR hp ha K hK      -- 28: t41 := Op.move t40
                obtain ⟨w40, h40, r40⟩ := hp 27 (by decide)
                have e40 : (ac.tmps[40]?).getD undef = .bool true := (ha 40 (by decide)).trans h40
                clear h40
                clear ha hp
                refine Reg.Op1.plain rfl ?_
                go_wp2
                exact ⟨rfl, hK _ _ rfl (Reg.Wr.same _)⟩
              · intro val ac u hR hp ha K hK      -- 29: t42 := Op.fieldAddr 42 t4 2
                have e4 : (ac.tmps[4]?).getD undef = .pointer (some ⟨p, 0, none⟩) := ha 4 (by decide)
                obtain ⟨w41, h41, r41⟩ := hp 28 (by decide)
                have e41 : (ac.tmps[41]?).getD undef = .bool true := (ha 41 (by decide)).trans h41
                clear h41
                clear ha hp
                refine Reg.Op1.guarded rfl rfl e41 (fun _ => Reg.Op1.plain rfl ?_) (fun h => absurd rfl h)
                go_wp2
                exact ⟨rfl, hK _ _ rfl (Reg.Wr.same _)⟩
              · intro val ac u hR hp ha K hK      -- 30: t43 := Op.load 9 t42
                obtain ⟨w42, h42, r42⟩ := hp 29 (by decide)
                have e42 : (ac.tmps[42]?).getD undef = .pointer (some ⟨p, 2, none⟩) := (ha 42 (by decide)).trans h42
                clear h42
                obtain ⟨w41, h41, r41⟩ := hp 28 (by decide)
                have e41 : (ac.tmps[41]?).getD undef = .bool true := (ha 41 (by decide)).trans h41
                clear h41
                clear ha hp
                refine Reg.Op1.guarded rfl rfl e41 (fun _ => Reg.Op1.plain rfl ?_) (fun h => absurd rfl h)
                have x0 := (((Reg.Wr.all hR)).cell (p := ⟨p, 2, none⟩) (hps) (nof)).trans (y8)
                go_wp2
                exact ⟨rfl, hK _ _ rfl (Reg.Wr.same _)⟩
              · intro val ac u hR hp ha K hK      -- 31: t44 := Op.fieldAddr 42 t5 2
                have e5 : (ac.tmps[5]?).getD undef = .pointer (some ⟨q, 0, none⟩) := ha 5 (by decide)
                obtain ⟨w41, h41, r41⟩ := hp 28 (by decide)
                have e41 : (ac.tmps[41]?).getD undef = .bool true := (ha 41 (by decide)).trans h41
                clear h41
                clear ha hp
                refine Reg.Op1.guarded rfl rfl e41 (fun _ => Reg.Op1.plain rfl ?_) (fun h => absurd rfl h)
                go_wp2
                exact ⟨rfl, hK _ _ rfl (Reg.Wr.same _)⟩
              · intro val ac u hR hp ha K hK      -- 32: t45 := Op.load 9 t44
                obtain ⟨w44, h44, r44⟩ := hp 31 (by decide)
                have e44 : (ac.tmps[44]?).getD undef = .pointer (some ⟨q, 2, none⟩) := (ha 44 (by decide)).trans h44
                clear h44
                obtain ⟨w41, h41, r41⟩ := hp 28 (by decide)
                have e41 : (ac.tmps[41]?).getD undef = .bool true := (ha 41 (by decide)).trans h41
                clear h41
                clear ha hp
                refine Reg.Op1.guarded rfl rfl e41 (fun _ => Reg.Op1.plain rfl ?_) (fun h => absurd rfl h)
                have x0 := (((Reg.Wr.all hR)).cell (p := ⟨q, 2, none⟩) (hqs) (nof)).trans (y9)
                go_wp2
                exact ⟨rfl, hK _ _ rfl (Reg.Wr.same _)⟩
              · intro val ac u hR hp ha K hK      -- 33: t46 := Op.binOp BinOp.eql 9 t43 t45 9
                obtain ⟨w43, h43, r43⟩ := hp 30 (by decide)
                have e43 : (ac.tmps[43]?).getD undef = .string e.val := (ha 43 (by decide)).trans h43
                clear h43
                obtain ⟨w45, h45, r45⟩ := hp 32 (by decide)
                have e45 : (ac.tmps[45]?).getD undef = .string s.begun.val := (ha 45 (by decide)).trans h45
                clear h45
                obtain ⟨w41, h41, r41⟩ := hp 28 (by decide)
                have e41 : (ac.tmps[41]?).getD undef = .bool true := (ha 41 (by decide)).trans h41
                clear h41
                clear ha hp
                refine Reg.Op1.guarded rfl rfl e41 (fun _ => Reg.Op1.plain rfl ?_) (fun h => absurd rfl h)
                go_wp2
                exact ⟨rfl, hK _ _ rfl (Reg.Wr.same _)⟩
              · intro val ac u hR hp ha K hK      -- 34: t47 := Op.pick t41 t46 (const (Value.bool false))
                obtain ⟨w41, h41, r41⟩ := hp 28 (by decide)
                have e41 : (ac.tmps[41]?).getD undef = .bool true := (ha 41 (by decide)).trans h41
                clear h41
                obtain ⟨w46, h46, r46⟩ := hp 33 (by decide)
                have e46 : (ac.tmps[46]?).getD undef = .bool false := (ha 46 (by decide)).trans h46
                clear h46
                clear ha hp
                refine Reg.Op1.plain rfl ?_
                go_wp2
                exact ⟨rfl, hK _ _ rfl (Reg.Wr.same _)⟩
              · intro val ac u hR hp ha K hK      -- 35: t3 := Op.assign t47
                obtain ⟨w47, h47, r47⟩ := hp 34 (by decide)
                have e47 : (ac.tmps[47]?).getD undef = .bool false := (ha 47 (by decide)).trans h47
                clear h47
                clear ha hp
                refine Reg.Op1.plain rfl ?_
                go_wp2
                exact ⟨rfl, hK _ _ rfl (Reg.Wr.same _)⟩
            intro val u hR H
            obtain ⟨_, hv9, _⟩ := H 35 (by decide)
            have hk8 : Mem.Keeps (fun _ => False) w2 u := ((Mem.Keeps.refl (fun _ => False) w2).drew.trans (Reg.Wr.all hR) (fun _ h _ => h.elim id (fun h => h.elim id id)))
            simp only [List.map_cons, List.map_nil, Reg.lay, Act.put, List.setIfInBounds_toArray, List.set_cons_succ, List.set_cons_zero, Nat.reduceAdd]
            rw [hv9]
            have HK8 := Lib.hid hk8
            clear hR H hv9 hk8
            go_wp2
            go_ret
            exact ⟨by rw [HRS.out]; rfl, HR.out.b.trans (HK8.out.belowAll.mono HR.out.b.size)⟩
      · have HRS : Hid (r2 s e = false) := by show _ = _; rw [HRQ.out]; simp [hk]
        have b32 : (e.kind == s.begun.kind) = false := by simpa using hk
        have HO := Lib.hid ho
        clear HRQ ho
        go_upto_region 2 with fail
        refine Reg.wp_region_w (by kernel_rfl) 48 36 rfl rfl (by kernel_rfl) (0) (fun _ => False) (0) (fun _ => False) (0) (fun _ => False)
          (fun i v u => match i with
            | 0 => v = .pointer (some ⟨gs, 0, none⟩)
            | 1 => v = .pointer (some ⟨gs, 0, none⟩)
            | 2 => v = .pointer (some ⟨gs, 0, none⟩)
            | 3 => v = .bool true
            | 4 => v = .bool true
            | 5 => v = .pointer (some ⟨w.heap.size, 1, none⟩)
            | 6 => v = .int .i64 e.op
            | 7 => v = .pointer (some ⟨gs, 0, none⟩)
            | 8 => v = .pointer (some ⟨gs, 0, none⟩)
            | 9 => v = .pointer (some ⟨gs, 1, none⟩)
            | 10 => v = .pointer (some ⟨gs, 2, none⟩)
            | 11 => v = .int .i64 s.begun.op
            | 12 => v = .bool true
            | 13 => v = .bool true
            | 14 => v = .bool true
            | 15 => v = .pointer (some ⟨p, 0, none⟩)
            | 16 => v = .int .i64 e.kind
            | 17 => v = .pointer (some ⟨q, 0, none⟩)
            | 18 => v = .int .i64 s.begun.kind
            | 19 => v = .bool false
            | 20 => v = .bool false
            | 21 => v = .bool false
            | 22 => v = undef
            | 23 => v = undef
            | 24 => v = undef
            | 25 => v = undef
            | 26 => v = undef
            | 27 => v = .bool false
            | 28 => v = .bool false
            | 29 => v = undef
            | 30 => v = undef
            | 31 => v = undef
            | 32 => v = undef
            | 33 => v = undef
            | 34 => v = .bool false
            | 35 => v = .bool false
            | _ => True) ?_ ?_
        · refine Reg.Steps.cons ?_ (Reg.Steps.cons ?_ (Reg.Steps.cons ?_ (Reg.Steps.cons ?_ (Reg.Steps.cons ?_ (Reg.Steps.cons ?_ (Reg.Steps.cons ?_ (Reg.Steps.cons ?_ (Reg.Steps.cons ?_ (Reg.Steps.cons ?_ (Reg.Steps.cons ?_ (Reg.Steps.cons ?_ (Reg.Steps.cons ?_ (Reg.Steps.cons ?_ (Reg.Steps.cons ?_ (Reg.Steps.cons ?_ (Reg.Steps.cons ?_ (Reg.Steps.cons ?_ (Reg.Steps.cons ?_ (Reg.Steps.cons ?_ (Reg.Steps.cons ?_ (Reg.Steps.cons ?_ (Reg.Steps.cons ?_ (Reg.Steps.cons ?_ (Reg.Steps.cons ?_ (Reg.Steps.cons ?_ (Reg.Steps.cons ?_ (Reg.Steps.cons ?_ (Reg.Steps.cons ?_ (Reg.Steps.cons ?_ (Reg.Steps.cons ?_ (Reg.Steps.cons ?_ (Reg.Steps.cons ?_ (Reg.Steps.cons ?_ (Reg.Steps.cons ?_ (Reg.Steps.cons ?_ (Reg.Steps.nil _))))))))))))))))))))))))))))))))))))
          · intro val ac u hR hp ha K hK      -- 0: t13 := Op.load 78 t1
            have e1 : (ac.tmps[1]?).getD undef = .pointer (some ⟨bs, 0, none⟩) := ha 1 (by decide)
            clear ha hp
            refine Reg.Op1.plain rfl ?_
            have x0 := (((Reg.Wr.all hR)).cell (p := ⟨bs, 0, none⟩) (hbs) (nof)).trans (y0)
            go_wp2
            exact ⟨rfl, hK _ _ rfl (Reg.Wr.same _)⟩
          · intro val ac u hR hp ha K hK      -- 1: t14 := Op.nilCheck t13
            obtain ⟨w13, h13, r13⟩ := hp 0 (by decide)
            have e13 : (ac.tmps[13]?).getD undef = .pointer (some ⟨gs, 0, none⟩) := (ha 13 (by decide)).trans h13
            clear h13
            clear ha hp
            refine Reg.Op1.plain rfl ?_
            go_wp2
            exact ⟨rfl, hK _ _ rfl (Reg.Wr.same _)⟩
          · intro val ac u hR hp ha K hK      -- 2: t15 := Op.fieldAddr 81 t14 0
            obtain ⟨w14, h14, r14⟩ := hp 1 (by decide)
            have e14 : (ac.tmps[14]?).getD undef = .pointer (some ⟨gs, 0, none⟩) := (ha 14 (by decide)).trans h14
            clear h14
            clear ha hp
            refine Reg.Op1.plain rfl ?_
            go_wp2
            exact ⟨rfl, hK _ _ rfl (Reg.Wr.same _)⟩
          · intro val ac u hR hp ha K hK      -- 3: t16 := Op.load 4 t15
            obtain ⟨w15, h15, r15⟩ := hp 2 (by decide)
            have e15 : (ac.tmps[15]?).getD undef = .pointer (some ⟨gs, 0, none⟩) := (ha 15 (by decide)).trans h15
            clear h15
            clear ha hp
            refine Reg.Op1.plain rfl ?_
            have x0 := (((Reg.Wr.all hR)).cell (p := ⟨gs, 0, none⟩) (hgs) (nof)).trans (y1)
            go_wp2
            exact ⟨rfl, hK _ _ rfl (Reg.Wr.same _)⟩
          · intro val ac u hR hp ha K hK      -- 4: t17 := Op.move t16
            obtain ⟨w16, h16, r16⟩ := hp 3 (by decide)
            have e16 : (ac.tmps[16]?).getD undef = .bool true := (ha 16 (by decide)).trans h16
            clear h16
            clear ha hp
            refine Reg.Op1.plain rfl ?_
            go_wp2
            exact ⟨rfl, hK _ _ rfl (Reg.Wr.same _)⟩
          · intro val ac u hR hp ha K hK      -- 5: t18 := Op.fieldAddr 46 t2 1
            have e2 : (ac.tmps[2]?).getD undef = .pointer (some ⟨w.heap.size, 0, none⟩) := ha 2 (by decide)
            obtain ⟨w17, h17, r17⟩ := hp 4 (by decide)
            have e17 : (ac.tmps[17]?).getD undef = .bool true := (ha 17 (by decide)).trans h17
            clear h17
            clear ha hp
            refine Reg.Op1.guarded rfl rfl e17 (fun _ => Reg.Op1.plain rfl ?_) (fun h => absurd rfl h)
            go_wp2
            exact ⟨rfl, hK _ _ rfl (Reg.Wr.same _)⟩
          · intro val ac u hR hp ha K hK      -- 6: t19 := Op.load 3 t18
            obtain ⟨w18, h18, r18⟩ := hp 5 (by decide)
            have e18 : (ac.tmps[18]?).getD undef = .pointer (some ⟨w.heap.size, 1, none⟩) := (ha 18 (by decide)).trans h18
            clear h18
            obtain ⟨w17, h17, r17⟩ := hp 4 (by decide)
            have e17 : (ac.tmps[17]?).getD undef = .bool true := (ha 17 (by decide)).trans h17
            clear h17
            clear ha hp
            refine Reg.Op1.guarded rfl rfl e17 (fun _ => Reg.Op1.plain rfl ?_) (fun h => absurd rfl h)
            have x0 := (((Reg.Wr.all hR)).cell (p := ⟨w.heap.size, 1, none⟩) (hxs) (nof)).trans (y2)
            go_wp2
            exact ⟨rfl, hK _ _ rfl (Reg.Wr.same _)⟩
          · intro val ac u hR hp ha K hK      -- 7: t20 := Op.load 78 t1
            have e1 : (ac.tmps[1]?).getD undef = .pointer (some ⟨bs, 0, none⟩) := ha 1 (by decide)
            obtain ⟨w17, h17, r17⟩ := hp 4 (by decide)
            have e17 : (ac.tmps[17]?).getD undef = .bool true := (ha 17 (by decide)).trans h17
            clear h17
            clear ha hp
            refine Reg.Op1.guarded rfl rfl e17 (fun _ => Reg.Op1.plain rfl ?_) (fun h => absurd rfl h)
            have x0 := (((Reg.Wr.all hR)).cell (p := ⟨bs, 0, none⟩) (hbs) (nof)).trans (y0)
            go_wp2
            exact ⟨rfl, hK _ _ rfl (Reg.Wr.same _)⟩
          · intro val ac u hR hp ha K hK      -- 8: t21 := Op.nilCheck t20
            obtain ⟨w20, h20, r20⟩ := hp 7 (by decide)
            have e20 : (ac.tmps[20]?).getD undef = .pointer (some ⟨gs, 0, none⟩) := (ha 20 (by decide)).trans h20
            clear h20
            obtain ⟨w17, h17, r17⟩ := hp 4 (by decide)
            have e17 : (ac.tmps[17]?).getD undef = .bool true := (ha 17 (by decide)).trans h17
            clear h17
            clear ha hp
            refine Reg.Op1.guarded rfl rfl e17 (fun _ => Reg.Op1.plain rfl ?_) (fun h => absurd rfl h)
            go_wp2
            exact ⟨rfl, hK _ _ rfl (Reg.Wr.same _)⟩
          · intro val ac u hR hp ha K hK      -- 9: t22 := Op.fieldAddr 81 t21 1
            obtain ⟨w21, h21, r21⟩ := hp 8 (by decide)
            have e21 : (ac.tmps[21]?).getD undef = .pointer (some ⟨gs, 0, none⟩) := (ha 21 (by decide)).trans h21
            clear h21
            obtain ⟨w17, h17, r17⟩ := hp 4 (by decide)
            have e17 : (ac.tmps[17]?).getD undef = .bool true := (ha 17 (by decide)).trans h17
            clear h17
            clear ha hp
            refine Reg.Op1.guarded rfl rfl e17 (fun _ => Reg.Op1.plain rfl ?_) (fun h => absurd rfl h)
            go_wp2
            exact ⟨rfl, hK _ _ rfl (Reg.Wr.same _)⟩
          · intro val ac u hR hp ha K hK      -- 10: t23 := Op.fieldAddr 46 t22 1
            obtain ⟨w22, h22, r22⟩ := hp 9 (by decide)
            have e22 : (ac.tmps[22]?).getD undef = .pointer (some ⟨gs, 1, none⟩) := (ha 22 (by decide)).trans h22
            clear h22
            obtain ⟨w17, h17, r17⟩ := hp 4 (by decide)
            have e17 : (ac.tmps[17]?).getD undef = .bool true := (ha 17 (by decide)).trans h17
            clear h17
            clear ha hp
            refine Reg.Op1.guarded rfl rfl e17 (fun _ => Reg.Op1.plain rfl ?_) (fun h => absurd rfl h)
            go_wp2
            exact ⟨rfl, hK _ _ rfl (Reg.Wr.same _)⟩
          · intro val ac u hR hp ha K hK      -- 11: t24 := Op.load 3 t23
            obtain ⟨w23, h23, r23⟩ := hp 10 (by decide)
            have e23 : (ac.tmps[23]?).getD undef = .pointer (some ⟨gs, 2, none⟩) := (ha 23 (by decide)).trans h23
            clear h23
            obtain ⟨w17, h17, r17⟩ := hp 4 (by decide)
            have e17 : (ac.tmps[17]?).getD undef = .bool true := (ha 17 (by decide)).trans h17
            clear h17
            clear ha hp
            refine Reg.Op1.guarded rfl rfl e17 (fun _ => Reg.Op1.plain rfl ?_) (fun h => absurd rfl h)
            have x0 := (((Reg.Wr.all hR)).cell (p := ⟨gs, 2, none⟩) (hgs) (nof)).trans (y3)
            go_wp2
            exact ⟨rfl, hK _ _ rfl (Reg.Wr.same _)⟩
          · intro val ac u hR hp ha K hK      -- 12: t25 := Op.binOp BinOp.eql 3 t19 t24 3
            obtain ⟨w19, h19, r19⟩ := hp 6 (by decide)
            have e19 : (ac.tmps[19]?).getD undef = .int .i64 e.op := (ha 19 (by decide)).trans h19
            clear h19
            obtain ⟨w24, h24, r24⟩ := hp 11 (by decide)
            have e24 : (ac.tmps[24]?).getD undef = .int .i64 s.begun.op := (ha 24 (by decide)).trans h24
            clear h24
            obtain ⟨w17, h17, r17⟩ := hp 4 (by decide)
            have e17 : (ac.tmps[17]?).getD undef = .bool true := (ha 17 (by decide)).trans h17
            clear h17
            clear ha hp
            refine Reg.Op1.guarded rfl rfl e17 (fun _ => Reg.Op1.plain rfl ?_) (fun h => absurd rfl h)
            go_wp2
            exact ⟨rfl, hK _ _ rfl (Reg.Wr.same _)⟩
          · intro val ac u hR hp ha K hK      -- 13: t26 := Op.pick t17 t25 (const (Value.bool false))
            obtain ⟨w17, h17, r17⟩ := hp 4 (by decide)
            have e17 : (ac.tmps[17]?).getD undef = .bool true := (ha 17 (by decide)).trans h17
            clear h17
            obtain ⟨w25, h25, r25⟩ := hp 12 (by decide)
            have e25 : (ac.tmps[25]?).getD undef = .bool true := (ha 25 (by decide)).trans h25
            clear h25
            clear ha hp
            refine Reg.Op1.plain rfl ?_
            go_wp2
            exact ⟨rfl, hK _ _ rfl (Reg.Wr.same _)⟩
          · intro val ac u hR hp ha K hK      -- 14: t27 := Op.move t26
            obtain ⟨w26, h26, r26⟩ := hp 13 (by decide)
            have e26 : (ac.tmps[26]?).getD undef = .bool true := (ha 26 (by decide)).trans h26
            clear h26
            clear ha hp
            refine Reg.Op1.plain rfl ?_
            go_wp2
            exact ⟨rfl, hK _ _ rfl (Reg.Wr.same _)⟩
          · intro val ac u hR hp ha K hK      -- 15: t28 := Op.fieldAddr 42 t4 0
            have e4 : (ac.tmps[4]?).getD undef = .pointer (some ⟨p, 0, none⟩) := ha 4 (by decide)
            obtain ⟨w27, h27, r27⟩ := hp 14 (by decide)
            have e27 : (ac.tmps[27]?).getD undef = .bool true := (ha 27 (by decide)).trans h27
            clear h27
            clear ha hp
            refine Reg.Op1.guarded rfl rfl e27 (fun _ => Reg.Op1.plain rfl ?_) (fun h => absurd rfl h)
            go_wp2
            exact ⟨rfl, hK _ _ rfl (Reg.Wr.same _)⟩
          · intro val ac u hR hp ha K hK      -- 16: t29 := Op.load 3 t28
            obtain ⟨w28, h28, r28⟩ := hp 15 (by decide)
            have e28 : (ac.tmps[28]?).getD undef = .pointer (some ⟨p, 0, none⟩) := (ha 28 (by decide)).trans h28
            clear h28
            obtain ⟨w27, h27, r27⟩ := hp 14 (by decide)
            have e27 : (ac.tmps[27]?).getD undef = .bool true := (ha 27 (by decide)).trans h27
            clear h27
            clear ha hp
            refine Reg.Op1.guarded rfl rfl e27 (fun _ => Reg.Op1.plain rfl ?_) (fun h => absurd rfl h)
            have x0 := (((Reg.Wr.all hR)).cell (p := ⟨p, 0, none⟩) (hps) (nof)).trans (y4)
            go_wp2
            exact ⟨rfl, hK _ _ rfl (Reg.Wr.same _)⟩
          · intro val ac u hR hp ha K hK      -- 17: t30 := Op.fieldAddr 42 t5 0
            have e5 : (ac.tmps[5]?).getD undef = .pointer (some ⟨q, 0, none⟩) := ha 5 (by decide)
            obtain ⟨w27, h27, r27⟩ := hp 14 (by decide)
            have e27 : (ac.tmps[27]?).getD undef = .bool true := (ha 27 (by decide)).trans h27
            clear h27
            clear ha hp
            refine Reg.Op1.guarded rfl rfl e27 (fun _ => Reg.Op1.plain rfl ?_) (fun h => absurd rfl h)
            go_wp2
            exact ⟨rfl, hK _ _ rfl (Reg.Wr.same _)⟩
          · intro val ac u hR hp ha K hK      -- 18: t31 := Op.load 3 t30
            obtain ⟨w30, h30, r30⟩ := hp 17 (by decide)
            have e30 : (ac.tmps[30]?).getD undef = .pointer (some ⟨q, 0, none⟩) := (ha 30 (by decide)).trans h30
            clear h30
            obtain ⟨w27, h27, r27⟩ := hp 14 (by decide)
            have e27 : (ac.tmps[27]?).getD undef = .bool true := (ha 27 (by decide)).trans h27
            clear h27
            clear ha hp
            refine Reg.Op1.guarded rfl rfl e27 (fun _ => Reg.Op1.plain rfl ?_) (fun h => absurd rfl h)
            have x0 := (((Reg.Wr.all hR)).cell (p := ⟨q, 0, none⟩) (hqs) (nof)).trans (y5)
            go_wp2
            exact ⟨rfl, hK _ _ rfl (Reg.Wr.same _)⟩
          · intro val ac u hR hp ha K hK      -- 19: t32 := Op.binOp BinOp.eql 3 t29 t31 3
            obtain ⟨w29, h29, r29⟩ := hp 16 (by decide)
            have e29 : (ac.tmps[29]?).getD undef = .int .i64 e.kind := (ha 29 (by decide)).trans h29
            clear h29
            obtain ⟨w31, h31, r31⟩ := hp 18 (by decide)
            have e31 : (ac.tmps[31]?).getD undef = .int .i64 s.begun.kind := (ha 31 (by decide)).trans h31
            clear h31
            obtain ⟨w27, h27, r27⟩ := hp 14 (by decide)
            have e27 : (ac.tmps[27]?).getD undef = .bool true := (ha 27 (by decide)).trans h27
            clear h27
            clear ha hp
            refine Reg.Op1.guarded rfl rfl e27 (fun _ => Reg.Op1.plain rfl ?_) (fun h => absurd rfl h)
            go_wp2
            exact ⟨rfl, hK _ _ rfl (Reg.Wr.same _)⟩
          · intro val ac u hR hp ha K hK      -- 20: t33 := Op.pick t27 t32 (const (Value.bool false))
            obtain ⟨w27, h27, r27⟩ := hp 14 (by decide)
            have e27 : (ac.tmps[27]?).getD undef = .bool true := (ha 27 (by decide)).trans h27
            clear h27
            obtain ⟨w32, h32, r32⟩ := hp 19 (by decide)
            have e32 : (ac.tmps[32]?).getD undef = .bool false := (ha 32 (by decide)).trans h32
            clear h32
            clear ha hp
            refine Reg.Op1.plain rfl ?_
            go_wp2
            exact ⟨rfl, hK _ _ rfl (Reg.Wr.same _)⟩
          · intro val ac u hR hp ha K hK      -- 21: t34 := Op.move t33
            obtain ⟨w33, h33, r33⟩ := hp 20 (by decide)
            have e33 : (ac.tmps[33]?).getD undef = .bool false := (ha 33 (by decide)).trans h33
            clear h33
            clear ha hp
            refine Reg.Op1.plain rfl ?_
            go_wp2
            exact ⟨rfl, hK _ _ rfl (Reg.Wr.same _)⟩
          · intro val ac u hR hp ha K hK      -- 22: t35 := Op.fieldAddr 42 t4 1
            obtain ⟨w34, h34, r34⟩ := hp 21 (by decide)
            have e34 : (ac.tmps[34]?).getD undef = .bool false := (ha 34 (by decide)).trans h34
            clear h34
            clear ha hp
            exact Reg.Op1.guarded rfl rfl e34 (fun h => by cases h) (fun _ => hK _ _ rfl (Reg.Wr.same _))
          · intro val ac u hR hp ha K hK      -- 23: t36 := Op.load 40 t35
            obtain ⟨w34, h34, r34⟩ := hp 21 (by decide)
            have e34 : (ac.tmps[34]?).getD undef = .bool false := (ha 34 (by decide)).trans h34
            clear h34
            clear ha hp
            exact Reg.Op1.guarded rfl rfl e34 (fun h => by cases h) (fun _ => hK _ _ rfl (Reg.Wr.same _))
          · intro val ac u hR hp ha K hK      -- 24: t37 := Op.fieldAddr 42 t5 1
            obtain ⟨w34, h34, r34⟩ := hp 21 (by decide)
            have e34 : (ac.tmps[34]?).getD undef = .bool false := (ha 34 (by decide)).trans h34
            clear h34
            clear ha hp
            exact Reg.Op1.guarded rfl rfl e34 (fun h => by cases h) (fun _ => hK _ _ rfl (Reg.Wr.same _))
          · intro val ac u hR hp ha K hK      -- 25: t38 := Op.load 40 t37
            obtain ⟨w34, h34, r34⟩ := hp 21 (by decide)
            have e34 : (ac.tmps[34]?).getD undef = .bool false := (ha 34 (by decide)).trans h34
            clear h34
            clear ha hp
            exact Reg.Op1.guarded rfl rfl e34 (fun h => by cases h) (fun _ => hK _ _ rfl (Reg.Wr.same _))
          · intro val ac u hR hp ha K hK      -- 26: t39 := Op.call { value (Operand.func 45), args := #[t36, t38], argTypes := #[40, 40] }
            obtain ⟨w34, h34, r34⟩ := hp 21 (by decide)
            have e34 : (ac.tmps[34]?).getD undef = .bool false := (ha 34 (by decide)).trans h34
            clear h34
            clear ha hp
            exact Reg.Op1.guarded rfl rfl e34 (fun h => by cases h) (fun _ => hK _ _ rfl (Reg.Wr.same _))
          · intro val ac u hR hp ha K hK      -- 27: t40 := Op.pick t34 t39 (const (Value.bool false))
            obtain ⟨w34, h34, r34⟩ := hp 21 (by decide)
            have e34 : (ac.tmps[34]?).getD undef = .bool false := (ha 34 (by decide)).trans h34
            clear h34
            obtain ⟨w39, h39, r39⟩ := hp 26 (by decide)
            have e39 : (ac.tmps[39]?).getD undef = undef := (ha 39 (by decide)).trans h39
            clear h39
            clear ha hp
            refine Reg.Op1.plain rfl ?_
            go_wp2
            exact ⟨rfl, hK _ _ rfl (Reg.Wr.same _)⟩
          · intro val ac u hR hp ha K hK      -- 28: t41 := Op.move t40
            obtain ⟨w40, h40, r40⟩ := hp 27 (by decide)
            have e40 : (ac.tmps[40]?).getD undef = .bool false := (ha 40 (by decide)).trans h40
            clear h40
            clear ha hp
            refine Reg.Op1.plain rfl ?_
            go_wp2
            exact ⟨rfl, hK _ _ rfl (Reg.Wr.same _)⟩
          · intro val ac u hR hp ha K hK      -- 29: t42 := Op.fieldAddr 42 t4 2
            obtain ⟨w41, h41, r41⟩ := hp 28 (by decide)
            have e41 : (ac.tmps[41]?).getD undef = .bool false := (ha 41 (by decide)).trans h41
            clear h41
            clear ha hp
            exact Reg.Op1.guarded rfl rfl e41 (fun h => by cases h) (fun _ => hK _ _ rfl (Reg.Wr.same _))
          · intro val ac u hR hp ha K hK      -- 30: t43 := Op.load 9 t42
            obtain ⟨w41, h41, r41⟩ := hp 28 (by decide)
            have e41 : (ac.tmps[41]?).getD undef = .bool false := (ha 41 (by decide)).trans h41
            clear h41
            clear ha hp
            exact Reg.Op1.guarded rfl rfl e41 (fun h => by cases h) (fun _ => hK _ _ rfl (Reg.Wr.same _))
          · intro val ac u hR hp ha K hK      -- 31: t44 := Op.fieldAddr 42 t5 2
            obtain ⟨w41, h41, r41⟩ := hp 28 (by decide)
            have e41 : (ac.tmps[41]?).getD undef = .bool false := (ha 41 (by decide)).trans h41
            clear h41
            clear ha hp
            exact Reg.Op1.guarded rfl rfl e41 (fun h => by cases h) (fun _ => hK _ _ rfl (Reg.Wr.same _))
          · intro val ac u hR hp ha K hK      -- 32: t45 := Op.load 9 t44
            obtain ⟨w41, h41, r41⟩ := hp 28 (by decide)
            have e41 : (ac.tmps[41]?).getD undef = .bool false := (ha 41 (by decide)).trans h41
            clear h41
            clear ha hp
            exact Reg.Op1.guarded rfl rfl e41 (fun h => by cases h) (fun _ => hK _ _ rfl (Reg.Wr.same _))
          · intro val ac u hR hp ha K hK      -- 33: t46 := Op.binOp BinOp.eql 9 t43 t45 9
            obtain ⟨w41, h41, r41⟩ := hp 28 (by decide)
            have e41 : (ac.tmps[41]?).getD undef = .bool false := (ha 41 (by decide)).trans h41
            clear h41
            clear ha hp
            exact Reg.Op1.guarded rfl rfl e41 (fun h => by cases h) (fun _ => hK _ _ rfl (Reg.Wr.same _))
          · intro val ac u hR hp ha K hK      -- 34: t47 := Op.pick t41 t46 (const (Value.bool false))
            obtain ⟨w41, h41, r41⟩ := hp 28 (by decide)
            have e41 : (ac.tmps[41]?).getD undef = .bool false := (ha 41 (by decide)).trans h41
            clear h41
            obtain ⟨w46, h46, r46⟩ := hp 33 (by decide)
            have e46 : (ac.tmps[46]?).getD undef = undef := (ha 46 (by decide)).trans h46
            clear h46
            clear ha hp
            refine Reg.Op1.plain rfl ?_
            go_wp2
            exact ⟨rfl, hK _ _ rfl (Reg.Wr.same _)⟩
          · intro val ac u hR hp ha K hK      -- 35: t3 := Op.assign t47
            obtain ⟨w47, h47, r47⟩ := hp 34 (by decide)
            have e47 : (ac.tmps[47]?).getD undef = .bool false := (ha 47 (by decide)).trans h47
            clear h47
            clear ha hp
            refine Reg.Op1.plain rfl ?_
            go_wp2
            exact ⟨rfl, hK _ _ rfl (Reg.Wr.same _)⟩
        intro val u hR H
        obtain ⟨_, hv9, _⟩ := H 35 (by decide)
        have hk8 : Mem.Keeps (fun _ => False) w2 u := ((Mem.Keeps.refl (fun _ => False) w2).drew.trans (Reg.Wr.all hR) (fun _ h _ => h.elim id (fun h => h.elim id id)))
        simp only [List.map_cons, List.map_nil, Reg.lay, Act.put, List.setIfInBounds_toArray, List.set_cons_succ, List.set_cons_zero, Nat.reduceAdd]
        rw [hv9]
        have HK8 := Lib.hid hk8
        clear hR H hv9 hk8
        go_wp2
        go_ret
        exact ⟨by rw [HRS.out]; rfl, HR.out.b.trans (HK8.out.belowAll.mono HR.out.b.size)⟩
    · have HRS : Hid (r2 s e = false) := by show _ = _; rw [HRQ.out]; simp [ho]
      have b25 : (e.op == s.begun.op) = false := by simpa using ho
      clear HRQ
      go_upto_region 2 with fail
      refine Reg.wp_region_w (by kernel_rfl) 48 36 rfl rfl (by kernel_rfl) (0) (fun _ => False) (0) (fun _ => False) (0) (fun _ => False)
        (fun i v u => match i with
          | 0 => v = .pointer (some ⟨gs, 0, none⟩)
          | 1 => v = .pointer (some ⟨gs, 0, none⟩)
          | 2 => v = .pointer (some ⟨gs, 0, none⟩)
          | 3 => v = .bool true
          | 4 => v = .bool true
          | 5 => v = .pointer (some ⟨w.heap.size, 1, none⟩)
          | 6 => v = .int .i64 e.op
          | 7 => v = .pointer (some ⟨gs, 0, none⟩)
          | 8 => v = .pointer (some ⟨gs, 0, none⟩)
          | 9 => v = .pointer (some ⟨gs, 1, none⟩)
          | 10 => v = .pointer (some ⟨gs, 2, none⟩)
          | 11 => v = .int .i64 s.begun.op
          | 12 => v = .bool false
          | 13 => v = .bool false
          | 14 => v = .bool false
          | 15 => v = undef
          | 16 => v = undef
          | 17 => v = undef
          | 18 => v = undef
          | 19 => v = undef
          | 20 => v = .bool false
          | 21 => v = .bool false
          | 22 => v = undef
          | 23 => v = undef
          | 24 => v = undef
          | 25 => v = undef
          | 26 => v = undef
          | 27 => v = .bool false
          | 28 => v = .bool false
          | 29 => v = undef
          | 30 => v = undef
          | 31 => v = undef
          | 32 => v = undef
          | 33 => v = undef
          | 34 => v = .bool false
          | 35 => v = .bool false
          | _ => True) ?_ ?_
      · refine Reg.Steps.cons ?_ (Reg.Steps.cons ?_ (Reg.Steps.cons ?_ (Reg.Steps.cons ?_ (Reg.Steps.cons ?_ (Reg.Steps.cons ?_ (Reg.Steps.cons ?_ (Reg.Steps.cons ?_ (Reg.Steps.cons ?_ (Reg.Steps.cons ?_ (Reg.Steps.cons ?_ (Reg.Steps.cons ?_ (Reg.Steps.cons ?_ (Reg.Steps.cons ?_ (Reg.Steps.cons ?_ (Reg.Steps.cons ?_ (Reg.Steps.cons ?_ (Reg.Steps.cons ?_ (Reg.Steps.cons ?_ (Reg.Steps.cons ?_ (Reg.Steps.cons ?_ (Reg.Steps.cons ?_ (Reg.Steps.cons ?_ (Reg.Steps.cons ?_ (Reg.Steps.cons ?_ (Reg.Steps.cons ?_ (Reg.Steps.cons ?_ (Reg.Steps.cons ?_ (Reg.Steps.cons ?_ (Reg.Steps.cons ?_ (Reg.Steps.cons ?_ (Reg.Steps.cons ?_ (Reg.Steps.cons ?_ (Reg.Steps.cons ?_ (Reg.Steps.cons ?_ (Reg.Steps.cons ?_ (Reg.Steps.nil _))))))))))))))))))))))))))))))))))))
        · intro val ac u hR hp ha K hK      -- 0: t13 := Op.load 78 t1
          have e1 : (ac.tmps[1]?).getD undef = .pointer (some ⟨bs, 0, none⟩) := ha 1 (by decide)
          clear ha hp
          refine Reg.Op1.plain rfl ?_
          have x0 := (((Reg.Wr.all hR)).cell (p := ⟨bs, 0, none⟩) (hbs) (nof)).trans (y0)
          go_wp2
          exact ⟨rfl, hK _ _ rfl (Reg.Wr.same _)⟩
        · intro val ac u hR hp ha K hK      -- 1: t14 := Op.nilCheck t13
          obtain ⟨w13, h13, r13⟩ := hp 0 (by decide)
          have e13 : (ac.tmps[13]?).getD undef = .pointer (some ⟨gs, 0, none⟩) := (ha 13 (by decide)).trans h13
          clear h13
          clear ha hp
          refine Reg.Op1.plain rfl ?_
          go_wp2
          exact ⟨rfl, hK _ _ rfl (Reg.Wr.same _)⟩
        · intro val ac u hR hp ha K hK      -- 2: t15 := Op.fieldAddr 81 t14 0
          obtain ⟨w14, h14, r14⟩ := hp 1 (by decide)
          have e14 : (ac.tmps[14]?).getD undef = .pointer (some ⟨gs, 0, none⟩) := (ha 14 (by decide)).trans h14
          clear h14
          clear ha hp
          refine Reg.Op1.plain rfl ?_
          go_wp2
          exact ⟨rfl, hK _ _ rfl (Reg.Wr.same _)⟩
        · intro val ac u hR hp ha K hK      -- 3: t16 := Op.load 4 t15
          obtain ⟨w15, h15, r15⟩ := hp 2 (by decide)
          have e15 : (ac.tmps[15]?).getD undef = .pointer (some ⟨gs, 0, none⟩) := (ha 15 (by decide)).trans h15
          clear h15
          clear ha hp
          refine Reg.Op1.plain rfl ?_
          have x0 := (((Reg.Wr.all hR)).cell (p := ⟨gs, 0, none⟩) (hgs) (nof)).trans (y1)
          go_wp2
          exact ⟨rfl, hK _ _ rfl (Reg.Wr.same _)⟩
        · intro val ac u hR hp ha K hK      -- 4: t17 := Op.move t16
          obtain ⟨w16, h16, r16⟩ := hp 3 (by decide)
          have e16 : (ac.tmps[16]?).getD undef = .bool true := (ha 16 (by decide)).trans h16
          clear h16
          clear ha hp
          refine Reg.Op1.plain rfl ?_
          go_wp2
          exact ⟨rfl, hK _ _ rfl (Reg.Wr.same _)⟩
        · intro val ac u hR hp ha K hK      -- 5: t18 := Op.fieldAddr 46 t2 1
          have e2 : (ac.tmps[2]?).getD undef = .pointer (some ⟨w.heap.size, 0, none⟩) := ha 2 (by decide)
          obtain ⟨w17, h17, r17⟩ := hp 4 (by decide)
          have e17 : (ac.tmps[17]?).getD undef = .bool true := (ha 17 (by decide)).trans h17
          clear h17
          clear ha hp
          refine Reg.Op1.guarded rfl rfl e17 (fun _ => Reg.Op1.plain rfl ?_) (fun h => absurd rfl h)
          go_wp2
          exact ⟨rfl, hK _ _ rfl (Reg.Wr.same _)⟩
        · intro val ac u hR hp ha K hK      -- 6: t19 := Op.load 3 t18
          obtain ⟨w18, h18, r18⟩ := hp 5 (by decide)
          have e18 : (ac.tmps[18]?).getD undef = .pointer (some ⟨w.heap.size, 1, none⟩) := (ha 18 (by decide)).trans h18
          clear h18
          obtain ⟨w17, h17, r17⟩ := hp 4 (by decide)
          have e17 : (ac.tmps[17]?).getD undef = .bool true := (ha 17 (by decide)).trans h17
          clear h17
          clear ha hp
          refine Reg.Op1.guarded rfl rfl e17 (fun _ => Reg.Op1.plain rfl ?_) (fun h => absurd rfl h)
          have x0 := (((Reg.Wr.all hR)).cell (p := ⟨w.heap.size, 1, none⟩) (hxs) (nof)).trans (y2)
          go_wp2
          exact ⟨rfl, hK _ _ rfl (Reg.Wr.same _)⟩
        · intro val ac u hR hp ha K hK      -- 7: t20 := Op.load 78 t1
          have e1 : (ac.tmps[1]?).getD undef = .pointer (some ⟨bs, 0, none⟩) := ha 1 (by decide)
          obtain ⟨w17, h17, r17⟩ := hp 4 (by decide)
          have e17 : (ac.tmps[17]?).getD undef = .bool true := (ha 17 (by decide)).trans h17
          clear h17
          clear ha hp
          refine Reg.Op1.guarded rfl rfl e17 (fun _ => Reg.Op1.plain rfl ?_) (fun h => absurd rfl h)
          have x0 := (((Reg.Wr.all hR)).cell (p := ⟨bs, 0, none⟩) (hbs) (nof)).trans (y0)
          go_wp2
          exact ⟨rfl, hK _ _ rfl (Reg.Wr.same _)⟩
        · intro val ac u hR hp ha K hK      -- 8: t21 := Op.nilCheck t20
          obtain ⟨w20, h20, r20⟩ := hp 7 (by decide)
          have e20 : (ac.tmps[20]?).getD undef = .pointer (some ⟨gs, 0, none⟩) := (ha 20 (by decide)).trans h20
          clear h20
          obtain ⟨w17, h17, r17⟩ := hp 4 (by decide)
          have e17 : (ac.tmps[17]?).getD undef = .bool true := (ha 17 (by decide)).trans h17
          clear h17
          clear ha hp
          refine Reg.Op1.guarded rfl rfl e17 (fun _ => Reg.Op1.plain rfl ?_) (fun h => absurd rfl h)
          go_wp2
          exact ⟨rfl, hK _ _ rfl (Reg.Wr.same _)⟩
        · intro val ac u hR hp ha K hK      -- 9: t22 := Op.fieldAddr 81 t21 1
          obtain ⟨w21, h21, r21⟩ := hp 8 (by decide)
          have e21 : (ac.tmps[21]?).getD undef = .pointer (some ⟨gs, 0, none⟩) := (ha 21 (by decide)).trans h21
          clear h21
          obtain ⟨w17, h17, r17⟩ := hp 4 (by decide)
          have e17 : (ac.tmps[17]?).getD undef = .bool true := (ha 17 (by decide)).trans h17
          clear h17
          clear ha hp
          refine Reg.Op1.guarded rfl rfl e17 (fun _ => Reg.Op1.plain rfl ?_) (fun h => absurd rfl h)
          go_wp2
          exact ⟨rfl, hK _ _ rfl (Reg.Wr.same _)⟩
        · intro val ac u hR hp ha K hK      -- 10: t23 := Op.fieldAddr 46 t22 1
          obtain ⟨w22, h22, r22⟩ := hp 9 (by decide)
          have e22 : (ac.tmps[22]?).getD undef = .pointer (some ⟨gs, 1, none⟩) := (ha 22 (by decide)).trans h22
          clear h22
          obtain ⟨w17, h17, r17⟩ := hp 4 (by decide)
          have e17 : (ac.tmps[17]?).getD undef = .bool true := (ha 17 (by decide)).trans h17
          clear h17
          clear ha hp
          refine Reg.Op1.guarded rfl rfl e17 (fun _ => Reg.Op1.plain rfl ?_) (fun h => absurd rfl h)
          go_wp2
          exact ⟨rfl, hK _ _ rfl (Reg.Wr.same _)⟩
        · intro val ac u hR hp ha K hK      -- 11: t24 := Op.load 3 t23
          obtain ⟨w23, h23, r23⟩ := hp 10 (by decide)
          have e23 : (ac.tmps[23]?).getD undef = .pointer (some ⟨gs, 2, none⟩) := (ha 23 (by decide)).trans h23
          clear h23
          obtain ⟨w17, h17, r17⟩ := hp 4 (by decide)
          have e17 : (ac.tmps[17]?).getD undef = .bool true := (ha 17 (by decide)).trans h17
          clear h17
          clear ha hp
          refine Reg.Op1.guarded rfl rfl e17 (fun _ => Reg.Op1.plain rfl ?_) (fun h => absurd rfl h)
          have x0 := (((Reg.Wr.all hR)).cell (p := ⟨gs, 2, none⟩) (hgs) (nof)).trans (y3)
          go_wp2
          exact ⟨rfl, hK _ _ rfl (Reg.Wr.same _)⟩
        · intro val ac u hR hp ha K hK      -- 12: t25 := Op.binOp BinOp.eql 3 t19 t24 3
          obtain ⟨w19, h19, r19⟩ := hp 6 (by decide)
          have e19 : (ac.tmps[19]?).getD undef = .int .i64 e.op := (ha 19 (by decide)).trans h19
          clear h19
          obtain ⟨w24, h24, r24⟩ := hp 11 (by decide)
          have e24 : (ac.tmps[24]?).getD undef = .int .i64 s.begun.op := (ha 24 (by decide)).trans h24
          clear h24
          obtain ⟨w17, h17, r17⟩ := hp 4 (by decide)
          have e17 : (ac.tmps[17]?).getD undef = .bool true := (ha 17 (by decide)).trans h17
          clear h17
          clear ha hp
          refine Reg.Op1.guarded rfl rfl e17 (fun _ => Reg.Op1.plain rfl ?_) (fun h => absurd rfl h)
          go_wp2
          exact ⟨rfl, hK _ _ rfl (Reg.Wr.same _)⟩
        · intro val ac u hR hp ha K hK      -- 13: t26 := Op.pick t17 t25 (const (Value.bool false))
          obtain ⟨w17, h17, r17⟩ := hp 4 (by decide)
          have e17 : (ac.tmps[17]?).getD undef = .bool true := (ha 17 (by decide)).trans h17
          clear h17
          obtain ⟨w25, h25, r25⟩ := hp 12 (by decide)
          have e25 : (ac.tmps[25]?).getD undef = .bool false := (ha 25 (by decide)).trans h25
          clear h25
          clear ha hp
          refine Reg.Op1.plain rfl ?_
          go_wp2
          exact ⟨rfl, hK _ _ rfl (Reg.Wr.same _)⟩
        · intro val ac u hR hp ha K hK      -- 14: t27 := Op.move t26
          obtain ⟨w26, h26, r26⟩ := hp 13 (by decide)
          have e26 : (ac.tmps[26]?).getD undef = .bool false := (ha 26 (by decide)).trans h26
          clear h26
          clear ha hp
          refine Reg.Op1.plain rfl ?_
          go_wp2
          exact ⟨rfl, hK _ _ rfl (Reg.Wr.same _)⟩
        · intro val ac u hR hp ha K hK      -- 15: t28 := Op.fieldAddr 42 t4 0
          obtain ⟨w27, h27, r27⟩ := hp 14 (by decide)
          have e27 : (ac.tmps[27]?).getD undef = .bool false := (ha 27 (by decide)).trans h27
          clear h27
          clear ha hp
          exact Reg.Op1.guarded rfl rfl e27 (fun h => by cases h) (fun _ => hK _ _ rfl (Reg.Wr.same _))
        · intro val ac u hR hp ha K hK      -- 16: t29 := Op.load 3 t28
          obtain ⟨w27, h27, r27⟩ := hp 14 (by decide)
          have e27 : (ac.tmps[27]?).getD undef = .bool false := (ha 27 (by decide)).trans h27
          clear h27
          clear ha hp
          exact Reg.Op1.guarded rfl rfl e27 (fun h => by cases h) (fun _ => hK _ _ rfl (Reg.Wr.same _))
        · intro val ac u hR hp ha K hK      -- 17: t30 := Op.fieldAddr 42 t5 0
          obtain ⟨w27, h27, r27⟩ := hp 14 (by decide)
          have e27 : (ac.tmps[27]?).getD undef = .bool false := (ha 27 (by decide)).trans h27
          clear h27
          clear ha hp
          exact Reg.Op1.guarded rfl rfl e27 (fun h => by cases h) (fun _ => hK _ _ rfl (Reg.Wr.same _))
        · intro val ac u hR hp ha K hK      -- 18: t31 := Op.load 3 t30
          obtain ⟨w27, h27, r27⟩ := hp 14 (by decide)
          have e27 : (ac.tmps[27]?).getD undef = .bool false := (ha 27 (by decide)).trans h27
          clear h27
          clear ha hp
          exact Reg.Op1.guarded rfl rfl e27 (fun h => by cases h) (fun _ => hK _ _ rfl (Reg.Wr.same _))
        · intro val ac u hR hp ha K hK      -- 19: t32 := Op.binOp BinOp.eql 3 t29 t31 3
          obtain ⟨w27, h27, r27⟩ := hp 14 (by decide)
          have e27 : (ac.tmps[27]?).getD undef = .bool false := (ha 27 (by decide)).trans h27
          clear h27
          clear ha hp
          exact Reg.Op1.guarded rfl rfl e27 (fun h => by cases h) (fun _ => hK _ _ rfl (Reg.Wr.same _))
        · intro val ac u hR hp ha K hK      -- 20: t33 := Op.pick t27 t32 (const (Value.bool false))
          obtain ⟨w27, h27, r27⟩ := hp 14 (by decide)
          have e27 : (ac.tmps[27]?).getD undef = .bool false := (ha 27 (by decide)).trans h27
          clear h27
          obtain ⟨w32, h32, r32⟩ := hp 19 (by decide)
          have e32 : (ac.tmps[32]?).getD undef = undef := (ha 32 (by decide)).trans h32
          clear h32
          clear ha hp
          refine Reg.Op1.plain rfl ?_
          go_wp2
          exact ⟨rfl, hK _ _ rfl (Reg.Wr.same _)⟩
        · intro val ac u hR hp ha K hK      -- 21: t34 := Op.move t33
          obtain ⟨w33, h33, r33⟩ := hp 20 (by decide)
          have e33 : (ac.tmps[33]?).getD undef = .bool false := (ha 33 (by decide)).trans h33
          clear h33
          clear ha hp
          refine Reg.Op1.plain rfl ?_
          go_wp2
          exact ⟨rfl, hK _ _ rfl (Reg.Wr.same _)⟩
        · intro val ac u hR hp ha K hK      -- 22: t35 := Op.fieldAddr 42 t4 1
          obtain ⟨w34, h34, r34⟩ := hp 21 (by decide)
          have e34 : (ac.tmps[34]?).getD undef = .bool false := (ha 34 (by decide)).trans h34
          clear h34
          clear ha hp
          exact Reg.Op1.guarded rfl rfl e34 (fun h => by cases h) (fun _ => hK _ _ rfl (Reg.Wr.same _))
        · intro val ac u hR hp ha K hK      -- 23: t36 := Op.load 40 t35
          obtain ⟨w34, h34, r34⟩ := hp 21 (by decide)
          have e34 : (ac.tmps[34]?).getD undef = .bool false := (ha 34 (by decide)).trans h34
          clear h34
          clear ha hp
          exact Reg.Op1.guarded rfl rfl e34 (fun h => by cases h) (fun _ => hK _ _ rfl (Reg.Wr.same _))
        · intro val ac u hR hp ha K hK      -- 24: t37 := Op.fieldAddr 42 t5 1
          obtain ⟨w34, h34, r34⟩ := hp 21 (by decide)
          have e34 : (ac.tmps[34]?).getD undef = .bool false := (ha 34 (by decide)).trans h34
          clear h34
          clear ha hp
          exact Reg.Op1.guarded rfl rfl e34 (fun h => by cases h) (fun _ => hK _ _ rfl (Reg.Wr.same _))
        · intro val ac u hR hp ha K hK      -- 25: t38 := Op.load 40 t37
          obtain ⟨w34, h34, r34⟩ := hp 21 (by decide)
          have e34 : (ac.tmps[34]?).getD undef = .bool false := (ha 34 (by decide)).trans h34
          clear h34
          clear ha hp
          exact Reg.Op1.guarded rfl rfl e34 (fun h => by cases h) (fun _ => hK _ _ rfl (Reg.Wr.same _))
        · intro val ac u hR hp ha K hK      -- 26: t39 := Op.call { value (Operand.func 45), args := #[t36, t38], argTypes := #[40, 40] }
          obtain ⟨w34, h34, r34⟩ := hp 21 (by decide)
          have e34 : (ac.tmps[34]?).getD undef = .bool false := (ha 34 (by decide)).trans h34
          clear h34
          clear ha hp
          exact Reg.Op1.guarded rfl rfl e34 (fun h => by cases h) (fun _ => hK _ _ rfl (Reg.Wr.same _))
        · intro val ac u hR hp ha K hK      -- 27: t40 := Op.pick t34 t39 (const (Value.bool false))
          obtain ⟨w34, h34, r34⟩ := hp 21 (by decide)
          have e34 : (ac.tmps[34]?).getD undef = .bool false := (ha 34 (by decide)).trans h34
          clear h34
          obtain ⟨w39, h39, r39⟩ := hp 26 (by decide)
          have e39 : (ac.tmps[39]?).getD undef = undef := (ha 39 (by decide)).trans h39
          clear h39
          clear ha hp
          refine Reg.Op1.plain rfl ?_
          go_wp2
          exact ⟨rfl, hK _ _ rfl (Reg.Wr.same _)⟩
        · intro val ac u hR hp ha K hK      -- 28: t41 := Op.move t40
          obtain ⟨w40, h40, r40⟩ := hp 27 (by decide)
          have e40 : (ac.tmps[40]?).getD undef = .bool false := (ha 40 (by decide)).trans h40
          clear h40
          clear ha hp
          refine Reg.Op1.plain rfl ?_
          go_wp2
          exact ⟨rfl, hK _ _ rfl (Reg.Wr.same _)⟩
        · intro val ac u hR hp ha K hK      -- 29: t42 := Op.fieldAddr 42 t4 2
          obtain ⟨w41, h41, r41⟩ := hp 28 (by decide)
          have e41 : (ac.tmps[41]?).getD undef = .bool false := (ha 41 (by decide)).trans h41
          clear h41
          clear ha hp
          exact Reg.Op1.guarded rfl rfl e41 (fun h => by cases h) (fun _ => hK _ _ rfl (Reg.Wr.same _))
        · intro val ac u hR hp ha K hK      -- 30: t43 := Op.load 9 t42
          obtain ⟨w41, h41, r41⟩ := hp 28 (by decide)
          have e41 : (ac.tmps[41]?).getD undef = .bool false := (ha 41 (by decide)).trans h41
          clear h41
          clear ha hp
          exact Reg.Op1.guarded rfl rfl e41 (fun h => by cases h) (fun _ => hK _ _ rfl (Reg.Wr.same _))
        · intro val ac u hR hp ha K hK      -- 31: t44 := Op.fieldAddr 42 t5 2
          obtain ⟨w41, h41, r41⟩ := hp 28 (by decide)
          have e41 : (ac.tmps[41]?).getD undef = .bool false := (ha 41 (by decide)).trans h41
          clear h41
          clear ha hp
          exact Reg.Op1.guarded rfl rfl e41 (fun h => by cases h) (fun _ => hK _ _ rfl (Reg.Wr.same _))
        · intro val ac u hR hp ha K hK      -- 32: t45 := Op.load 9 t44
          obtain ⟨w41, h41, r41⟩ := hp 28 (by decide)
          have e41 : (ac.tmps[41]?).getD undef = .bool false := (ha 41 (by decide)).trans h41
          clear h41
          clear ha hp
          exact Reg.Op1.guarded rfl rfl e41 (fun h => by cases h) (fun _ => hK _ _ rfl (Reg.Wr.same _))
        · intro val ac u hR hp ha K hK      -- 33: t46 := Op.binOp BinOp.eql 9 t43 t45 9
          obtain ⟨w41, h41, r41⟩ := hp 28 (by decide)
          have e41 : (ac.tmps[41]?).getD undef = .bool false := (ha 41 (by decide)).trans h41
          clear h41
          clear ha hp
          exact Reg.Op1.guarded rfl rfl e41 (fun h => by cases h) (fun _ => hK _ _ rfl (Reg.Wr.same _))
        · intro val ac u hR hp ha K hK      -- 34: t47 := Op.pick t41 t46 (const (Value.bool false))
          obtain ⟨w41, h41, r41⟩ := hp 28 (by decide)
          have e41 : (ac.tmps[41]?).getD undef = .bool false := (ha 41 (by decide)).trans h41
          clear h41
          obtain ⟨w46, h46, r46⟩ := hp 33 (by decide)
          have e46 : (ac.tmps[46]?).getD undef = undef := (ha 46 (by decide)).trans h46
          clear h46
          clear ha hp
          refine Reg.Op1.plain rfl ?_
          go_wp2
          exact ⟨rfl, hK _ _ rfl (Reg.Wr.same _)⟩
        · intro val ac u hR hp ha K hK      -- 35: t3 := Op.assign t47
          obtain ⟨w47, h47, r47⟩ := hp 34 (by decide)
          have e47 : (ac.tmps[47]?).getD undef = .bool false := (ha 47 (by decide)).trans h47
          clear h47
          clear ha hp
          refine Reg.Op1.plain rfl ?_
          go_wp2
          exact ⟨rfl, hK _ _ rfl (Reg.Wr.same _)⟩
      intro val u hR H
      obtain ⟨_, hv9, _⟩ := H 35 (by decide)
      have hk8 : Mem.Keeps (fun _ => False) w2 u := ((Mem.Keeps.refl (fun _ => False) w2).drew.trans (Reg.Wr.all hR) (fun _ h _ => h.elim id (fun h => h.elim id id)))
      simp only [List.map_cons, List.map_nil, Reg.lay, Act.put, List.setIfInBounds_toArray, List.set_cons_succ, List.set_cons_zero, Nat.reduceAdd]
      rw [hv9]
      have HK8 := Lib.hid hk8
      clear hR H hv9 hk8
      go_wp2
      go_ret
      exact ⟨by rw [HRS.out]; rfl, HR.out.b.trans (HK8.out.belowAll.mono HR.out.b.size)⟩
end Go.Proofs.Ytelephoalpphkaa
