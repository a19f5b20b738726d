/- The comparison that a store's Put hands to slices.SortFunc: it lays blocks and draws, and turns nothing. No conditions. -/
import Derived.Test.YtfafehffnjbhnaaGt
import Derived.Test.YtfafehffnjbhnaaStill
import Derived.Shelf.SlSortCmp.InsertionK
namespace Go.Proofs.Ytfafehffnjbhnaa
open Go.RowKit Go.Sort
set_option linter.unusedVariables false
set_option linter.unusedSimpArgs false
namespace Reg
/-- nothing of what was there is turned; draws are counted up -/
structure Gr (u v : World) : Prop extends Below u.heap.size u v where
  dr : u.drawn ≤ v.drawn
def Grow (_ _ : Nat) (u v : World) : Prop := Gr u v
theorem Gr.refl (w : World) : Gr w w := ⟨Below.refl _ _, Nat.le_refl _⟩
theorem Gr.trans {a b c : World} (h : Gr a b) (k : Gr b c) : Gr a c := ⟨h.toBelow.trans (k.toBelow.mono h.size), Nat.le_trans h.dr k.dr⟩
theorem Gr.new (w : World) (o : Obj) : Gr w (w.alloc o) := ⟨Reg.below_new _ _, Nat.le_refl _⟩
theorem Gr.drew {a b : World} (h : Gr a b) : Gr a b.drew := ⟨h.toBelow.drew, Nat.le_succ_of_le h.dr⟩
theorem Grow.refl (j k : Nat) (w : World) : Grow j k w w := Gr.refl w
theorem Grow.trans (j k : Nat) (a b c : World) (h : Grow j k a b) (h2 : Grow j k b c) : Grow j k a c := Gr.trans h h2
theorem Gr.grown {a b : World} (h : Gr a b) : ∃ q os, b = grow (a.drewN q) os := by
  obtain ⟨⟨h1, h2, h3, h4, h5⟩, h6⟩ := h
  refine ⟨b.drawn - a.drawn, b.heap.extract a.heap.size b.heap.size, ?_⟩
  obtain ⟨heap', tape', drawn', os', output'⟩ := b
  dsimp only at h1 h2 h3 h4 h5 h6
  subst h1 h2 h3
  have eh : heap' = a.heap ++ heap'.extract a.heap.size heap'.size := by
    apply Array.ext_getElem?
    intro k
    by_cases hk : k < a.heap.size
    · rw [Array.getElem?_append_left hk]; exact h5 k hk
    · rw [Array.getElem?_append_right (by omega), Array.getElem?_extract]
      by_cases hk2 : k < heap'.size
      · rw [if_pos (by omega)]; congr 1; omega
      · rw [if_neg (by omega), Array.getElem?_eq_none (by omega)]
  have ed : a.drawn + (drawn' - a.drawn) = drawn' := by omega
  simp only [grow, World.drewN, ed]
  rw [← eh]
end Reg
set_option maxHeartbeats 2000000 in
theorem cmpG_any (a b : Stamp.St) (w : World) :
    Calls Try.prog 34 #[Stamp.S a, Stamp.S b] w fun e w' => e = .returned (.int .i64 (Stamp.cmpS a b)) ∧ Reg.Gr w w' := by
  have HB : Reg.Gr w ((w.alloc (.cells #[.int .i64 a.c, .int .i64 a.d, .int .i64 a.r] 36)).alloc (.cells #[.int .i64 b.c, .int .i64 b.d, .int .i64 b.r] 36)) := (Reg.Gr.new _ _).trans (Reg.Gr.new _ _)
  have HB' := Lib.hid HB
  clear HB
  go_enter Try.func34, Try.ntmps34
  go_wp2
  refine Reg.wp_region_rel (by kernel_rfl) 22 18 rfl rfl (by kernel_rfl) (Reg.Grow) (Reg.Grow.refl) (Reg.Grow.trans)
    (fun i v u => match i with
      | 0 => v = .pointer (some ⟨w.heap.size, 0, none⟩)
      | 1 => v = .int .i64 a.c
      | 2 => v = .pointer (some ⟨w.heap.size + 1, 0, none⟩)
      | 3 => v = .int .i64 b.c
      | 4 => v = .int .i64 (Stamp.cmpI a.c b.c)
      | 5 => v = .pointer (some ⟨w.heap.size, 1, none⟩)
      | 6 => v = .int .i64 a.d
      | 7 => v = .pointer (some ⟨w.heap.size + 1, 1, none⟩)
      | 8 => v = .int .i64 b.d
      | 9 => v = .int .i64 (Stamp.cmpI a.d b.d)
      | 10 => v = .pointer (some ⟨w.heap.size, 2, none⟩)
      | 11 => v = .int .i64 a.r
      | 12 => v = .pointer (some ⟨w.heap.size + 1, 2, none⟩)
      | 13 => v = .int .i64 b.r
      | 14 => v = .int .i64 (Stamp.cmpI a.r b.r)
      | 15 => ∃ s, v = .slice (some ⟨s, 0, none⟩) 3 3 ∧ Mem.Rd u (s + 1) (some ⟨s, 0, none⟩) ([Stamp.cmpI a.c b.c, Stamp.cmpI a.d b.d, Stamp.cmpI a.r b.r].map Stamp.intV) ∧ s + 1 ≤ u.heap.size
      | 16 => v = .int .i64 (Stamp.cmpS a b)
      | 17 => v = .int .i64 (Stamp.cmpS a b)
      | _ => True) ?_ ?_
  · refine Reg.Steps.cons ?_ (Reg.Steps.cons ?_ (Reg.Steps.cons ?_ (Reg.Steps.cons ?_ (Reg.Steps.cons ?_ (Reg.Steps.cons ?_ (Reg.Steps.cons ?_ (Reg.Steps.cons ?_ (Reg.Steps.cons ?_ (Reg.Steps.cons ?_ (Reg.Steps.cons ?_ (Reg.Steps.cons ?_ (Reg.Steps.cons ?_ (Reg.Steps.cons ?_ (Reg.Steps.cons ?_ (Reg.Steps.cons ?_ (Reg.Steps.cons ?_ (Reg.Steps.cons ?_ (Reg.Steps.nil _))))))))))))))))))
    · intro val ac u hR hp ha K hK
      have e2 : (ac.tmps[2]?).getD undef = .pointer (some ⟨w.heap.size, 0, none⟩) := ha 2 (by decide); clear ha hp
      refine Reg.Op1.plain rfl ?_
      go_wp2
      exact ⟨rfl, hK _ _ rfl (fun j k _ _ => Reg.Grow.refl _ _ _)⟩
    · intro val ac u hR hp ha K hK
      obtain ⟨w5, h5, r5⟩ := hp 0 (by decide); have e5 : (ac.tmps[5]?).getD undef = .pointer (some ⟨w.heap.size, 0, none⟩) := (ha 5 (by decide)).trans h5; clear h5 ha hp
      have hc0 : u.cell? ⟨w.heap.size, 0, none⟩ = some (.int .i64 a.c) := (hR.cell (p := ⟨w.heap.size, 0, none⟩) (by simp; try omega)).trans (by show World.cell? _ _ = _; first | (simp; done) | (refine Reg.cell_up ?_ _; simp; done) | (refine Reg.cell_up (Reg.cell_up ?_ _) _; simp; done) | (refine Reg.cell_up (Reg.cell_up (Reg.cell_up ?_ _) _) _; simp; done))
      refine Reg.Op1.plain rfl ?_
      go_wp2
      exact ⟨rfl, hK _ _ rfl (fun j k _ _ => Reg.Grow.refl _ _ _)⟩
    · intro val ac u hR hp ha K hK
      have e3 : (ac.tmps[3]?).getD undef = .pointer (some ⟨w.heap.size + 1, 0, none⟩) := ha 3 (by decide); clear ha hp
      refine Reg.Op1.plain rfl ?_
      go_wp2
      exact ⟨rfl, hK _ _ rfl (fun j k _ _ => Reg.Grow.refl _ _ _)⟩
    · intro val ac u hR hp ha K hK
      obtain ⟨w7, h7, r7⟩ := hp 2 (by decide); have e7 : (ac.tmps[7]?).getD undef = .pointer (some ⟨w.heap.size + 1, 0, none⟩) := (ha 7 (by decide)).trans h7; clear h7 ha hp
      have hc0 : u.cell? ⟨w.heap.size + 1, 0, none⟩ = some (.int .i64 b.c) := (hR.cell (p := ⟨w.heap.size + 1, 0, none⟩) (by simp; try omega)).trans (by show World.cell? _ _ = _; first | (simp; done) | (refine Reg.cell_up ?_ _; simp; done) | (refine Reg.cell_up (Reg.cell_up ?_ _) _; simp; done) | (refine Reg.cell_up (Reg.cell_up (Reg.cell_up ?_ _) _) _; simp; done))
      refine Reg.Op1.plain rfl ?_
      go_wp2
      exact ⟨rfl, hK _ _ rfl (fun j k _ _ => Reg.Grow.refl _ _ _)⟩
    · intro val ac u hR hp ha K hK
      obtain ⟨w6, h6, r6⟩ := hp 1 (by decide); have e6 : (ac.tmps[6]?).getD undef = .int .i64 a.c := (ha 6 (by decide)).trans h6; obtain ⟨w8, h8, r8⟩ := hp 3 (by decide); have e8 : (ac.tmps[8]?).getD undef = .int .i64 b.c := (ha 8 (by decide)).trans h8; clear h6 h8 ha hp
      refine Reg.Op1.plain rfl ?_
      go_wp2_with fail
      refine (compare_any _ _ _).mono ?_
      rintro e w' ⟨rfl, rfl⟩
      go_wp2_with fail
      exact ⟨rfl, hK _ _ rfl (fun j k _ _ => Reg.Grow.refl _ _ _)⟩
    · intro val ac u hR hp ha K hK
      have e2 : (ac.tmps[2]?).getD undef = .pointer (some ⟨w.heap.size, 0, none⟩) := ha 2 (by decide); clear ha hp
      refine Reg.Op1.plain rfl ?_
      go_wp2
      exact ⟨rfl, hK _ _ rfl (fun j k _ _ => Reg.Grow.refl _ _ _)⟩
    · intro val ac u hR hp ha K hK
      obtain ⟨w10, h10, r10⟩ := hp 5 (by decide); have e10 : (ac.tmps[10]?).getD undef = .pointer (some ⟨w.heap.size, 1, none⟩) := (ha 10 (by decide)).trans h10; clear h10 ha hp
      have hc0 : u.cell? ⟨w.heap.size, 1, none⟩ = some (.int .i64 a.d) := (hR.cell (p := ⟨w.heap.size, 1, none⟩) (by simp; try omega)).trans (by show World.cell? _ _ = _; first | (simp; done) | (refine Reg.cell_up ?_ _; simp; done) | (refine Reg.cell_up (Reg.cell_up ?_ _) _; simp; done) | (refine Reg.cell_up (Reg.cell_up (Reg.cell_up ?_ _) _) _; simp; done))
      refine Reg.Op1.plain rfl ?_
      go_wp2
      exact ⟨rfl, hK _ _ rfl (fun j k _ _ => Reg.Grow.refl _ _ _)⟩
    · intro val ac u hR hp ha K hK
      have e3 : (ac.tmps[3]?).getD undef = .pointer (some ⟨w.heap.size + 1, 0, none⟩) := ha 3 (by decide); clear ha hp
      refine Reg.Op1.plain rfl ?_
      go_wp2
      exact ⟨rfl, hK _ _ rfl (fun j k _ _ => Reg.Grow.refl _ _ _)⟩
    · intro val ac u hR hp ha K hK
      obtain ⟨w12, h12, r12⟩ := hp 7 (by decide); have e12 : (ac.tmps[12]?).getD undef = .pointer (some ⟨w.heap.size + 1, 1, none⟩) := (ha 12 (by decide)).trans h12; clear h12 ha hp
      have hc0 : u.cell? ⟨w.heap.size + 1, 1, none⟩ = some (.int .i64 b.d) := (hR.cell (p := ⟨w.heap.size + 1, 1, none⟩) (by simp; try omega)).trans (by show World.cell? _ _ = _; first | (simp; done) | (refine Reg.cell_up ?_ _; simp; done) | (refine Reg.cell_up (Reg.cell_up ?_ _) _; simp; done) | (refine Reg.cell_up (Reg.cell_up (Reg.cell_up ?_ _) _) _; simp; done))
      refine Reg.Op1.plain rfl ?_
      go_wp2
      exact ⟨rfl, hK _ _ rfl (fun j k _ _ => Reg.Grow.refl _ _ _)⟩
    · intro val ac u hR hp ha K hK
      obtain ⟨w11, h11, r11⟩ := hp 6 (by decide); have e11 : (ac.tmps[11]?).getD undef = .int .i64 a.d := (ha 11 (by decide)).trans h11; obtain ⟨w13, h13, r13⟩ := hp 8 (by decide); have e13 : (ac.tmps[13]?).getD undef = .int .i64 b.d := (ha 13 (by decide)).trans h13; clear h11 h13 ha hp
      refine Reg.Op1.plain rfl ?_
      go_wp2_with fail
      refine (compare_any _ _ _).mono ?_
      rintro e w' ⟨rfl, rfl⟩
      go_wp2_with fail
      exact ⟨rfl, hK _ _ rfl (fun j k _ _ => Reg.Grow.refl _ _ _)⟩
    · intro val ac u hR hp ha K hK
      have e2 : (ac.tmps[2]?).getD undef = .pointer (some ⟨w.heap.size, 0, none⟩) := ha 2 (by decide); clear ha hp
      refine Reg.Op1.plain rfl ?_
      go_wp2
      exact ⟨rfl, hK _ _ rfl (fun j k _ _ => Reg.Grow.refl _ _ _)⟩
    · intro val ac u hR hp ha K hK
      obtain ⟨w15, h15, r15⟩ := hp 10 (by decide); have e15 : (ac.tmps[15]?).getD undef = .pointer (some ⟨w.heap.size, 2, none⟩) := (ha 15 (by decide)).trans h15; clear h15 ha hp
      have hc0 : u.cell? ⟨w.heap.size, 2, none⟩ = some (.int .i64 a.r) := (hR.cell (p := ⟨w.heap.size, 2, none⟩) (by simp; try omega)).trans (by show World.cell? _ _ = _; first | (simp; done) | (refine Reg.cell_up ?_ _; simp; done) | (refine Reg.cell_up (Reg.cell_up ?_ _) _; simp; done) | (refine Reg.cell_up (Reg.cell_up (Reg.cell_up ?_ _) _) _; simp; done))
      refine Reg.Op1.plain rfl ?_
      go_wp2
      exact ⟨rfl, hK _ _ rfl (fun j k _ _ => Reg.Grow.refl _ _ _)⟩
    · intro val ac u hR hp ha K hK
      have e3 : (ac.tmps[3]?).getD undef = .pointer (some ⟨w.heap.size + 1, 0, none⟩) := ha 3 (by decide); clear ha hp
      refine Reg.Op1.plain rfl ?_
      go_wp2
      exact ⟨rfl, hK _ _ rfl (fun j k _ _ => Reg.Grow.refl _ _ _)⟩
    · intro val ac u hR hp ha K hK
      obtain ⟨w17, h17, r17⟩ := hp 12 (by decide); have e17 : (ac.tmps[17]?).getD undef = .pointer (some ⟨w.heap.size + 1, 2, none⟩) := (ha 17 (by decide)).trans h17; clear h17 ha hp
      have hc0 : u.cell? ⟨w.heap.size + 1, 2, none⟩ = some (.int .i64 b.r) := (hR.cell (p := ⟨w.heap.size + 1, 2, none⟩) (by simp; try omega)).trans (by show World.cell? _ _ = _; first | (simp; done) | (refine Reg.cell_up ?_ _; simp; done) | (refine Reg.cell_up (Reg.cell_up ?_ _) _; simp; done) | (refine Reg.cell_up (Reg.cell_up (Reg.cell_up ?_ _) _) _; simp; done))
      refine Reg.Op1.plain rfl ?_
      go_wp2
      exact ⟨rfl, hK _ _ rfl (fun j k _ _ => Reg.Grow.refl _ _ _)⟩
    · intro val ac u hR hp ha K hK
      obtain ⟨w16, h16, r16⟩ := hp 11 (by decide); have e16 : (ac.tmps[16]?).getD undef = .int .i64 a.r := (ha 16 (by decide)).trans h16; obtain ⟨w18, h18, r18⟩ := hp 13 (by decide); have e18 : (ac.tmps[18]?).getD undef = .int .i64 b.r := (ha 18 (by decide)).trans h18; clear h16 h18 ha hp
      refine Reg.Op1.plain rfl ?_
      go_wp2_with fail
      refine (compare_any _ _ _).mono ?_
      rintro e w' ⟨rfl, rfl⟩
      go_wp2_with fail
      exact ⟨rfl, hK _ _ rfl (fun j k _ _ => Reg.Grow.refl _ _ _)⟩
    · intro val ac u hR hp ha K hK
      obtain ⟨w9, h9, r9⟩ := hp 4 (by decide); have e9 : (ac.tmps[9]?).getD undef = .int .i64 (Stamp.cmpI a.c b.c) := (ha 9 (by decide)).trans h9; obtain ⟨w14, h14, r14⟩ := hp 9 (by decide); have e14 : (ac.tmps[14]?).getD undef = .int .i64 (Stamp.cmpI a.d b.d) := (ha 14 (by decide)).trans h14; obtain ⟨w19, h19, r19⟩ := hp 14 (by decide); have e19 : (ac.tmps[19]?).getD undef = .int .i64 (Stamp.cmpI a.r b.r) := (ha 19 (by decide)).trans h19; clear h9 h14 h19 ha hp
      refine Reg.Op1.plain rfl ?_
      go_wp2
      exact ⟨rfl, hK _ _ ⟨u.heap.size, rfl, Mem.Rd.alloc_new u _ _ _ rfl, by simp⟩ (fun j k _ _ => Reg.Gr.new _ _)⟩
    · intro val ac u hR hp ha K hK
      obtain ⟨w20, h20, r20⟩ := hp 15 (by decide); have e20 : (ac.tmps[20]?).getD undef = val 15 := ha 20 (by decide); clear ha hp
      refine Reg.Op1.plain rfl ?_
      obtain ⟨s, hv, hb, hs⟩ := h20
      rw [hv] at e20
      go_wp2_with fail
      refine (or_any (some ⟨s, 0, none⟩) 3 [Stamp.cmpI a.c b.c, Stamp.cmpI a.d b.d, Stamp.cmpI a.r b.r] (s + 1) u (hb.below (r20.toBelow.mono hs)) (by simp [maxLen])).mono ?_
      rintro e w' ⟨rfl, rfl⟩
      go_wp2_with fail
      exact ⟨rfl, hK _ _ rfl (fun j k _ _ => Reg.Grow.refl _ _ _)⟩
    · intro val ac u hR hp ha K hK
      obtain ⟨w21, h21, r21⟩ := hp 16 (by decide); have e21 : (ac.tmps[21]?).getD undef = .int .i64 (Stamp.cmpS a b) := (ha 21 (by decide)).trans h21; clear h21 ha hp
      refine Reg.Op1.plain rfl ?_
      go_wp2
      exact ⟨rfl, hK _ _ rfl (fun j k _ _ => Reg.Grow.refl _ _ _)⟩
  · intro val u hR H
    obtain ⟨w21, hv, hr⟩ := H 17 (by decide)
    have hv : val 17 = .int .i64 (Stamp.cmpS a b) := hv
    simp only [List.map_cons, List.map_nil, Reg.lay, Act.put, List.setIfInBounds_toArray, List.set_cons_succ, List.set_cons_zero, Nat.reduceAdd, hv]
    have HB2 : Hid (Reg.Gr w u) := HB'.out.drew.trans hR
    clear hv hr H hR
    go_wp2
    go_ret
    exact ⟨rfl, HB2.out⟩
set_option maxHeartbeats 4000000 in
theorem sortCmp_any (x y : Vec.Ent) (w : World) :
    Calls Try.prog 32 #[.agg (Vec.entCells x).toArray, .agg (Vec.entCells y).toArray] w fun e w' => e = .returned (.int .i64 (Vec.gtE x y)) ∧ Reg.Gr w w' := by
  go_enter Try.func32, Try.ntmps32
  go_upto_region 1 with fail
  obtain ⟨w0, hw0⟩ : ∃ w0, (w.alloc (.cells (Vec.entCells x).toArray 40)).alloc (.cells (Vec.entCells y).toArray 40) = w0 := ⟨_, rfl⟩
  have hE : Vec.EBx w0 w.heap.size x := by rw [← hw0]; exact (Vec.EBx.new w x rfl).below (Reg.below_new _ _) (by simp)
  have hF : Vec.EBx w0 (w.heap.size + 1) y := by rw [← hw0]; exact Vec.EBx.new (w.alloc _) y (by simp)
  have HB : Hid (Reg.Gr w w0) := by rw [← hw0]; exact (Reg.Gr.new _ _).trans (Reg.Gr.new _ _)
  have x2 := hE.cell (j := 2) rfl
  have x3 := hE.cell (j := 3) rfl
  have x4 := hE.cell (j := 4) rfl
  have x5 := hE.cell (j := 5) rfl
  have y2 := hF.cell (j := 2) rfl
  have y3 := hF.cell (j := 3) rfl
  have y4 := hF.cell (j := 4) rfl
  have y5 := hF.cell (j := 5) rfl
  have hl : w.heap.size < w0.heap.size := hE.lt
  have hl2 : w.heap.size + 1 < w0.heap.size := hF.lt
  obtain ⟨g, hg⟩ : ∃ g, w.heap.size = g := ⟨_, rfl⟩
  rw [hw0]
  rw [hg] at x2 x3 x4 x5 y2 y3 y4 y5 hl hl2 ⊢
  clear hw0 hg hE hF
  refine Reg.wp_region_rel (by kernel_rfl) 19 15 rfl rfl (by kernel_rfl) (Reg.Grow) (Reg.Grow.refl) (Reg.Grow.trans)
    (fun i v u => match i with
      | 0 => v = .pointer (some ⟨g, 3, none⟩)
      | 1 => v = Stamp.S x.st
      | 2 => v = .pointer (some ⟨g + 1, 3, none⟩)
      | 3 => v = Stamp.S y.st
      | 4 => v = .int .i64 (Stamp.cmpS x.st y.st)
      | 5 => v = .pointer (some ⟨g, 0, none⟩)
      | 6 => v = .pointer (some ⟨g, 2, none⟩)
      | 7 => v = .int .i64 x.seq
      | 8 => v = .pointer (some ⟨g + 1, 0, none⟩)
      | 9 => v = .pointer (some ⟨g + 1, 2, none⟩)
      | 10 => v = .int .i64 y.seq
      | 11 => v = .int .i64 (Stamp.cmpI x.seq y.seq)
      | 12 => ∃ s, v = .slice (some ⟨s, 0, none⟩) 2 2 ∧ Mem.Rd u (s + 1) (some ⟨s, 0, none⟩) ([Stamp.cmpS x.st y.st, Stamp.cmpI x.seq y.seq].map Stamp.intV) ∧ s + 1 ≤ u.heap.size
      | 13 => v = .int .i64 (Vec.gtE x y)
      | 14 => v = .int .i64 (Vec.gtE x y)
      | _ => True) ?_ ?_
  · refine Reg.Steps.cons ?_ (Reg.Steps.cons ?_ (Reg.Steps.cons ?_ (Reg.Steps.cons ?_ (Reg.Steps.cons ?_ (Reg.Steps.cons ?_ (Reg.Steps.cons ?_ (Reg.Steps.cons ?_ (Reg.Steps.cons ?_ (Reg.Steps.cons ?_ (Reg.Steps.cons ?_ (Reg.Steps.cons ?_ (Reg.Steps.cons ?_ (Reg.Steps.cons ?_ (Reg.Steps.cons ?_ (Reg.Steps.nil _)))))))))))))))
    · intro val ac u hR hp ha K hK
      have e2 : (ac.tmps[2]?).getD undef = .pointer (some ⟨g, 0, none⟩) := ha 2 (by decide); clear ha hp
      refine Reg.Op1.plain rfl ?_
      go_wp2
      exact ⟨rfl, hK _ _ rfl (fun j k _ _ => Reg.Grow.refl _ _ _)⟩
    · intro val ac u hR hp ha K hK
      obtain ⟨w5, h5, r5⟩ := hp 0 (by decide); have e5 : (ac.tmps[5]?).getD undef = .pointer (some ⟨g, 3, none⟩) := (ha 5 (by decide)).trans h5; clear h5 ha hp
      have z3 := (hR.toBelow.cell (p := ⟨g, 3, none⟩) hl).trans x3
      have z4 := (hR.toBelow.cell (p := ⟨g, 4, none⟩) hl).trans x4
      have z5 := (hR.toBelow.cell (p := ⟨g, 5, none⟩) hl).trans x5
      refine Reg.Op1.plain rfl ?_
      go_wp2
      exact ⟨rfl, hK _ _ rfl (fun j k _ _ => Reg.Grow.refl _ _ _)⟩
    · intro val ac u hR hp ha K hK
      have e3 : (ac.tmps[3]?).getD undef = .pointer (some ⟨g + 1, 0, none⟩) := ha 3 (by decide); clear ha hp
      refine Reg.Op1.plain rfl ?_
      go_wp2
      exact ⟨rfl, hK _ _ rfl (fun j k _ _ => Reg.Grow.refl _ _ _)⟩
    · intro val ac u hR hp ha K hK
      obtain ⟨w7, h7, r7⟩ := hp 2 (by decide); have e7 : (ac.tmps[7]?).getD undef = .pointer (some ⟨g + 1, 3, none⟩) := (ha 7 (by decide)).trans h7; clear h7 ha hp
      have z3 := (hR.toBelow.cell (p := ⟨g + 1, 3, none⟩) hl2).trans y3
      have z4 := (hR.toBelow.cell (p := ⟨g + 1, 4, none⟩) hl2).trans y4
      have z5 := (hR.toBelow.cell (p := ⟨g + 1, 5, none⟩) hl2).trans y5
      refine Reg.Op1.plain rfl ?_
      go_wp2
      exact ⟨rfl, hK _ _ rfl (fun j k _ _ => Reg.Grow.refl _ _ _)⟩
    · intro val ac u hR hp ha K hK
      obtain ⟨w6, h6, r6⟩ := hp 1 (by decide); have e6 : (ac.tmps[6]?).getD undef = Stamp.S x.st := (ha 6 (by decide)).trans h6; obtain ⟨w8, h8, r8⟩ := hp 3 (by decide); have e8 : (ac.tmps[8]?).getD undef = Stamp.S y.st := (ha 8 (by decide)).trans h8; clear h6 h8 ha hp
      refine Reg.Op1.plain rfl ?_
      go_wp2_with fail
      refine (cmpG_any _ _ _).mono ?_
      rintro e w' ⟨rfl, hg9⟩
      go_wp2_with fail
      exact ⟨rfl, hK _ _ rfl (fun j k _ _ => hg9)⟩
    · intro val ac u hR hp ha K hK
      have e2 : (ac.tmps[2]?).getD undef = .pointer (some ⟨g, 0, none⟩) := ha 2 (by decide); clear ha hp
      refine Reg.Op1.plain rfl ?_
      go_wp2
      exact ⟨rfl, hK _ _ rfl (fun j k _ _ => Reg.Grow.refl _ _ _)⟩
    · intro val ac u hR hp ha K hK
      obtain ⟨w10, h10, r10⟩ := hp 5 (by decide); have e10 : (ac.tmps[10]?).getD undef = .pointer (some ⟨g, 0, none⟩) := (ha 10 (by decide)).trans h10; clear h10 ha hp
      refine Reg.Op1.plain rfl ?_
      go_wp2
      exact ⟨rfl, hK _ _ rfl (fun j k _ _ => Reg.Grow.refl _ _ _)⟩
    · intro val ac u hR hp ha K hK
      obtain ⟨w11, h11, r11⟩ := hp 6 (by decide); have e11 : (ac.tmps[11]?).getD undef = .pointer (some ⟨g, 2, none⟩) := (ha 11 (by decide)).trans h11; clear h11 ha hp
      refine Reg.Op1.plain rfl ?_
      have x0 := ((hR.toBelow).cell (p := ⟨g, 2, none⟩) (hl)).trans (x2)
      go_wp2
      exact ⟨rfl, hK _ _ rfl (fun j k _ _ => Reg.Grow.refl _ _ _)⟩
    · intro val ac u hR hp ha K hK
      have e3 : (ac.tmps[3]?).getD undef = .pointer (some ⟨g + 1, 0, none⟩) := ha 3 (by decide); clear ha hp
      refine Reg.Op1.plain rfl ?_
      go_wp2
      exact ⟨rfl, hK _ _ rfl (fun j k _ _ => Reg.Grow.refl _ _ _)⟩
    · intro val ac u hR hp ha K hK
      obtain ⟨w13, h13, r13⟩ := hp 8 (by decide); have e13 : (ac.tmps[13]?).getD undef = .pointer (some ⟨g + 1, 0, none⟩) := (ha 13 (by decide)).trans h13; clear h13 ha hp
      refine Reg.Op1.plain rfl ?_
      go_wp2
      exact ⟨rfl, hK _ _ rfl (fun j k _ _ => Reg.Grow.refl _ _ _)⟩
    · intro val ac u hR hp ha K hK
      obtain ⟨w14, h14, r14⟩ := hp 9 (by decide); have e14 : (ac.tmps[14]?).getD undef = .pointer (some ⟨g + 1, 2, none⟩) := (ha 14 (by decide)).trans h14; clear h14 ha hp
      refine Reg.Op1.plain rfl ?_
      have x0 := ((hR.toBelow).cell (p := ⟨g + 1, 2, none⟩) (hl2)).trans (y2)
      go_wp2
      exact ⟨rfl, hK _ _ rfl (fun j k _ _ => Reg.Grow.refl _ _ _)⟩
    · intro val ac u hR hp ha K hK
      obtain ⟨w12, h12, r12⟩ := hp 7 (by decide); have e12 : (ac.tmps[12]?).getD undef = .int .i64 x.seq := (ha 12 (by decide)).trans h12; obtain ⟨w15, h15, r15⟩ := hp 10 (by decide); have e15 : (ac.tmps[15]?).getD undef = .int .i64 y.seq := (ha 15 (by decide)).trans h15; clear h12 h15 ha hp
      refine Reg.Op1.plain rfl ?_
      go_wp2_with fail
      refine (compare_any _ _ _).mono ?_
      rintro e w' ⟨rfl, rfl⟩
      go_wp2_with fail
      exact ⟨rfl, hK _ _ rfl (fun j k _ _ => Reg.Grow.refl _ _ _)⟩
    · intro val ac u hR hp ha K hK
      obtain ⟨w9, h9, r9⟩ := hp 4 (by decide); have e9 : (ac.tmps[9]?).getD undef = .int .i64 (Stamp.cmpS x.st y.st) := (ha 9 (by decide)).trans h9; obtain ⟨w16, h16, r16⟩ := hp 11 (by decide); have e16 : (ac.tmps[16]?).getD undef = .int .i64 (Stamp.cmpI x.seq y.seq) := (ha 16 (by decide)).trans h16; clear h9 h16 ha hp
      refine Reg.Op1.plain rfl ?_
      go_wp2
      exact ⟨rfl, hK _ _ ⟨u.heap.size, rfl, Mem.Rd.alloc_new u _ _ _ rfl, by simp⟩ (fun j k _ _ => Reg.Gr.new _ _)⟩
    · intro val ac u hR hp ha K hK
      obtain ⟨w17, h17, r17⟩ := hp 12 (by decide); have e17 : (ac.tmps[17]?).getD undef = val 12 := ha 17 (by decide); clear ha hp
      refine Reg.Op1.plain rfl ?_
      obtain ⟨s, hv, hb, hs⟩ := h17
      rw [hv] at e17
      go_wp2_with fail
      refine (or_any (some ⟨s, 0, none⟩) 2 [Stamp.cmpS x.st y.st, Stamp.cmpI x.seq y.seq] (s + 1) u (hb.below (r17.toBelow.mono hs)) (by simp [maxLen])).mono ?_
      rintro e w' ⟨rfl, rfl⟩
      go_wp2_with fail
      exact ⟨rfl, hK _ _ rfl (fun j k _ _ => Reg.Grow.refl _ _ _)⟩
    · intro val ac u hR hp ha K hK
      obtain ⟨w18, h18, r18⟩ := hp 13 (by decide); have e18 : (ac.tmps[18]?).getD undef = .int .i64 (Vec.gtE x y) := (ha 18 (by decide)).trans h18; clear h18 ha hp
      refine Reg.Op1.plain rfl ?_
      go_wp2
      exact ⟨rfl, hK _ _ rfl (fun j k _ _ => Reg.Grow.refl _ _ _)⟩
  · intro val u hR H
    obtain ⟨_, hv, _⟩ := H 14 (by decide)
    have hv : val 14 = .int .i64 (Vec.gtE x y) := hv
    simp only [List.map_cons, List.map_nil, Reg.lay, Act.put, List.setIfInBounds_toArray, List.set_cons_succ, List.set_cons_zero, Nat.reduceAdd, hv]
    have HB2 : Hid (Reg.Gr w u) := HB.out.drew.trans hR
    clear hv H hR
    go_wp2
    go_ret
    exact ⟨rfl, HB2.out⟩
end Go.Proofs.Ytfafehffnjbhnaa
