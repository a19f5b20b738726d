/- The walks of the greatest of stamps: stamp.Max and the document's own. No conditions but that cells are read. -/
import Derived.Test.YthoklehmbkjkbaaStamp5
namespace Go.Proofs.Ythoklehmbkjkbaa
open Go.ChangeShapes Go.WideShapes Go.ChangeAt Go.RowKit
set_option linter.unusedVariables false

namespace Stamp
def best (m s : St) : St := if 0 < cmpS s m then s else m
def maxS : List St → St
  | [] => ⟨0, 0, 0⟩
  | x :: l => l.foldl best x
theorem maxS_snoc {l : List St} (h : 0 < l.length) (s : St) : maxS (l ++ [s]) = best (maxS l) s := by
  cases l with
  | nil => simp at h
  | cons x l => simp [maxS, List.foldl_append]
theorem cmpS_self (s : St) : cmpS s s = 0 := cmpS_eq.2 ⟨rfl, rfl, rfl⟩
theorem best_ge (m s : St) : cmpS m (best m s) ≤ 0 ∧ cmpS s (best m s) ≤ 0 := by
  unfold best
  split
  · rename_i h
    exact ⟨by have := cmpS_anti m s; omega, by rw [cmpS_self]; omega⟩
  · exact ⟨by rw [cmpS_self]; omega, by omega⟩
theorem fold_ge : ∀ (l : List St) (m : St), cmpS m (l.foldl best m) ≤ 0 ∧ ∀ x ∈ l, cmpS x (l.foldl best m) ≤ 0
  | [], m => ⟨by rw [List.foldl_nil, cmpS_self]; omega, fun x hx => by cases hx⟩
  | s :: l, m => by
    obtain ⟨h1, h2⟩ := fold_ge l (best m s)
    obtain ⟨b1, b2⟩ := best_ge m s
    refine ⟨le_trans b1 h1, fun x hx => ?_⟩
    rcases List.mem_cons.1 hx with rfl | hx
    · exact le_trans b2 h1
    · exact h2 x hx
theorem maxS_ge {l : List St} : ∀ x ∈ l, cmpS x (maxS l) ≤ 0 := by
  cases l with
  | nil => intro x hx; cases hx
  | cons a l =>
    intro x hx
    obtain ⟨h1, h2⟩ := fold_ge l a
    rcases List.mem_cons.1 hx with rfl | hx
    · exact h1
    · exact h2 x hx
/-- a block that holds one stamp -/
def Box (w : World) (g : Nat) (s : St) : Prop := Mem.Own w 23 3 (some ⟨g, 0, none⟩) 1 1 (stCells s)
theorem Box.new (w : World) (s : St) {g : Nat} (hg : w.heap.size = g) : Box (w.alloc (.cells #[.int .i64 s.c, .int .i64 s.d, .int .i64 s.r] 23)) g s :=
  Mem.Own.lit w _ 3 #[.int .i64 s.c, .int .i64 s.d, .int .i64 s.r] 1 hg rfl (by simp [maxLen])
theorem Box.c0 {w : World} {g : Nat} {s : St} (h : Box w g s) : w.cell? ⟨g, 0, none⟩ = some (.int .i64 s.c) := Mem.Own.cell (j := 0) h rfl
theorem Box.c1 {w : World} {g : Nat} {s : St} (h : Box w g s) : w.cell? ⟨g, 1, none⟩ = some (.int .i64 s.d) := Mem.Own.cell (j := 1) h rfl
theorem Box.c2 {w : World} {g : Nat} {s : St} (h : Box w g s) : w.cell? ⟨g, 2, none⟩ = some (.int .i64 s.r) := Mem.Own.cell (j := 2) h rfl
theorem Box.fr {w : World} {g : Nat} {s : St} (h : Box w g s) (i : Nat) : w.frozen? ⟨g, i, none⟩ = false := Mem.Own.free h i
theorem Box.lt {w : World} {g : Nat} {s : St} (h : Box w g s) : g < w.heap.size := Mem.Own.lt h rfl
theorem Box.below {w w' : World} {g B : Nat} {s : St} (h : Box w g s) (hb : Below B w w') (hg : g < B) : Box w' g s := Mem.Own.below h hb fun k hk => by cases hk; exact hg
theorem Box.set {w : World} {g : Nat} {s : St} (h : Box w g s) (t : St) : Box (((w.setCell ⟨g, 0, none⟩ (.int .i64 t.c)).setCell ⟨g, 1, none⟩ (.int .i64 t.d)).setCell ⟨g, 2, none⟩ (.int .i64 t.r)) g t := by
  have h0 := Mem.Own.set h 0 (.int .i64 t.c)
  have h1 := Mem.Own.set h0 1 (.int .i64 t.d)
  have h2 := Mem.Own.set h1 2 (.int .i64 t.r)
  exact h2
theorem Box.keep {w : World} {g q : Nat} {s : St} (h : Box w g s) (hne : g ≠ q) (o : Nat) (u : Value) : Box (w.setCell ⟨q, o, none⟩ u) g s := by
  obtain ⟨h1, h2⟩ := h
  rcases h2 with ⟨h0, _⟩ | ⟨g', o', cur, h0, hg, hrest⟩
  · cases h0
  · cases h0
    exact ⟨h1, .inr ⟨g, 0, cur, rfl, (Below.heap_setCell w ⟨q, o, none⟩ u g hne).trans hg, hrest⟩⟩
end Stamp

def maxRel (w : World) (ss : List Stamp.St) (vi : Value) (wr : World) : Prop :=
  ∃ k : Nat, k ≤ ss.length ∧ vi = .int .i64 k ∧ Hid (Below w.heap.size w wr) ∧ Hid (Stamp.Box wr w.heap.size ⟨0, 0, 0⟩) ∧ Hid (Stamp.Box wr (w.heap.size + 1) (Stamp.maxS (ss.take k)))
/-- the greatest so far is set -/
theorem maxSet {w w2 : World} {m : Stamp.St} (HB : Below w.heap.size w w2) (H0 : Stamp.Box w2 w.heap.size ⟨0, 0, 0⟩) (H1 : Stamp.Box w2 (w.heap.size + 1) m) (t : Stamp.St) {w3 : World}
    (h3 : ((w2.setCell ⟨w.heap.size + 1, 0, none⟩ (.int .i64 t.c)).setCell ⟨w.heap.size + 1, 1, none⟩ (.int .i64 t.d)).setCell ⟨w.heap.size + 1, 2, none⟩ (.int .i64 t.r) = w3) :
    Below w.heap.size w w3 ∧ Stamp.Box w3 w.heap.size ⟨0, 0, 0⟩ ∧ Stamp.Box w3 (w.heap.size + 1) t := by
  subst h3
  exact ⟨((HB.setCell (by simp) _).setCell (by simp) _).setCell (by simp) _, ((H0.keep (by omega) _ _).keep (by omega) _ _).keep (by omega) _ _, H1.set t⟩
theorem maxAlloc {w w2 : World} {m : Stamp.St} (h : Below w.heap.size w w2 ∧ Stamp.Box w2 w.heap.size ⟨0, 0, 0⟩ ∧ Stamp.Box w2 (w.heap.size + 1) m) (o : Obj) :
    Below w.heap.size w (w2.alloc o) ∧ Stamp.Box (w2.alloc o) w.heap.size ⟨0, 0, 0⟩ ∧ Stamp.Box (w2.alloc o) (w.heap.size + 1) m :=
  ⟨h.1.alloc h.1.size o, h.2.1.below ((Below.refl _ _).alloc (Nat.le_refl _) o) h.2.1.lt, h.2.2.below ((Below.refl _ _).alloc (Nat.le_refl _) o) h.2.2.lt⟩
theorem maxBelow {w w2 w3 : World} {m : Stamp.St} (h : Below w.heap.size w w2 ∧ Stamp.Box w2 w.heap.size ⟨0, 0, 0⟩ ∧ Stamp.Box w2 (w.heap.size + 1) m) (hb : Below w2.heap.size w2 w3) :
    Below w.heap.size w w3 ∧ Stamp.Box w3 w.heap.size ⟨0, 0, 0⟩ ∧ Stamp.Box w3 (w.heap.size + 1) m :=
  ⟨h.1.trans (hb.mono h.1.size), h.2.1.below hb h.2.1.lt, h.2.2.below hb h.2.2.lt⟩
theorem maxRel_mk {w wr : World} {ss : List Stamp.St} {k : Nat} {v : Value} (hk : k ≤ ss.length) (hv : v = .int .i64 k) (h : Below w.heap.size w wr ∧ Stamp.Box wr w.heap.size ⟨0, 0, 0⟩ ∧ Stamp.Box wr (w.heap.size + 1) (Stamp.maxS (ss.take k))) : maxRel w ss v wr :=
  ⟨k, hk, hv, h.1, h.2.1, h.2.2⟩
set_option maxHeartbeats 2000000 in
theorem max_any (A : Option Addr) (c : Nat) (ss : List Stamp.St) (B : Nat) (w : World) (hr : Mem.Rd w B A (ss.flatMap Stamp.stCells)) (hB : B ≤ w.heap.size) (hn : ss.length ≤ maxLen) :
    Calls Try.prog 16 #[.slice A ss.length c] w fun e w' => e = .returned (Stamp.S (Stamp.maxS ss)) ∧ Below w.heap.size w w' := by
  unfold maxLen at hn
  have hm := Lib.hid (hr.more hB)
  clear hr
  go_enter Try.func16, Try.ntmps16
  go_wp2
  go_loopw [8] (maxRel w ss) (fun t _ => ss.length - (intOf t).toNat)
  case atStart =>
    refine ⟨0, by omega, rfl, ?_, ?_, ?_⟩
    · exact ((Below.refl _ _).alloc (Nat.le_refl _) _).alloc (by simp) _
    · exact (Stamp.Box.new w ⟨0, 0, 0⟩ rfl).below ((Below.refl _ _).alloc (Nat.le_refl _) _) (by simp)
    · exact Stamp.Box.new _ ⟨0, 0, 0⟩ (by simp)
  case round =>
    obtain ⟨k, hk, rfl, HB, H0, H1⟩ := hrel
    by_cases hlt : k < ss.length
    · obtain ⟨b, o, s, rfl, hb, hs, hc0, hc1, hc2⟩ := Stamp.elem hm.out hlt
      have q0 := (HB.out.cell (p := ⟨b, o + k * 3, none⟩) hb).trans hc0
      have q1 := (HB.out.cell (p := ⟨b, o + k * 3 + 1, none⟩) hb).trans hc1
      have q2 := (HB.out.cell (p := ⟨b, o + k * 3 + 2, none⟩) hb).trans hc2
      have hts := Lib.hid (Mem.take_snoc hs)
      clear hs hc0 hc1 hc2
      have hz1 := H1.out.lt
      have hz0 := HB.out.size
      have f1 := H1.out.fr
      have m0 := H1.out.c0
      have m1 := H1.out.c1
      have m2 := H1.out.c2
      rcases Nat.eq_zero_or_pos k with h0 | h0
      · have hk0 : ((k : Int) == 0) = true := by rw [beq_iff_eq]; omega
        have h0' := Lib.hid h0
        clear h0
        go_wp2
        go_roundw
        case rel =>
          refine maxRel_mk (k := k + 1) (by omega) (by go_num) ?_
          have hst : Stamp.maxS (ss.take (k + 1)) = s := by rw [hts.out, h0'.out]; rfl
          rw [hst]
          exact maxAlloc (maxSet HB.out H0.out H1.out s rfl) _
        case measure => simp [intOf]; omega
      · have hk0 : ((k : Int) == 0) = false := by rw [beq_eq_false_iff_ne]; omega
        have hst : Stamp.maxS (ss.take (k + 1)) = Stamp.best (Stamp.maxS (ss.take k)) s := by rw [hts.out, Stamp.maxS_snoc (by rw [List.length_take]; omega)]
        have h3 := Lib.hid (maxAlloc ⟨HB.out, H0.out, H1.out⟩ (.cells #[.int .i64 s.c, .int .i64 s.d, .int .i64 s.r] 23))
        have hsn := Lib.hid (Stamp.Box.new wr s rfl)
        obtain ⟨m, hmm⟩ : ∃ m, Stamp.maxS (ss.take k) = m := ⟨_, rfl⟩
        rw [hmm] at H1 m0 m1 m2 hst h3
        have HM := Lib.hid hmm
        clear hmm h0
        by_cases hpos : 0 < Stamp.cmpS s m
        · have hpd : decide (0 < Stamp.cmpS s m) = true := by simp [hpos]
          have HST := Lib.hid (show Stamp.maxS (ss.take (k + 1)) = s from by rw [hst, Stamp.best, if_pos hpos])
          clear hst hpos
          go_wp2_with (go_at_call 12; refine (cmp_any s m _).mono ?_; rintro e w2 ⟨rfl, hb2⟩; have h4 := Lib.hid (maxBelow h3.out hb2); have hs4 := hsn.out.below hb2 (by simp); have x0 := hs4.c0; have x1 := hs4.c1; have x2 := hs4.c2; have y0 := h4.out.2.2.c0; have y1 := h4.out.2.2.c1; have y2 := h4.out.2.2.c2; have yf := h4.out.2.2.fr; clear hs4 hb2)
          go_roundw
          case rel =>
            refine maxRel_mk (k := k + 1) (by omega) (by go_num) ?_
            rw [HST.out]
            exact maxSet h4.out.1 h4.out.2.1 h4.out.2.2 s rfl
          case measure => simp [intOf]; omega
        · have hpd : decide (0 < Stamp.cmpS s m) = false := by simp; omega
          have HST := Lib.hid (show Stamp.maxS (ss.take (k + 1)) = m from by rw [hst, Stamp.best, if_neg hpos])
          clear hst hpos
          go_wp2_with (go_at_call 12; refine (cmp_any s m _).mono ?_; rintro e w2 ⟨rfl, hb2⟩; have h4 := Lib.hid (maxBelow h3.out hb2); clear hb2)
          go_roundw
          case rel =>
            refine maxRel_mk (k := k + 1) (by omega) (by go_num) ?_
            rw [HST.out]
            exact h4.out
          case measure => simp [intOf]; omega
    · obtain rfl : k = ss.length := by omega
      rw [List.take_length] at H1
      have m0 := H1.out.c0
      have m1 := H1.out.c1
      have m2 := H1.out.c2
      have z0 := H0.out.c0
      have z1 := H0.out.c1
      have z2 := H0.out.c2
      have zf := H0.out.fr
      obtain ⟨m, hmm⟩ : ∃ m, Stamp.maxS ss = m := ⟨_, rfl⟩
      rw [hmm] at H1 m0 m1 m2
      have HM := Lib.hid hmm
      clear hmm
      go_wp2
      refine bodyPost_ret (v := Stamp.S m) ?_ rfl ⟨by rw [HM.out], ?_⟩
      · simp [results, Try.results16, go_sem, Mem.set_same, Mem.isSome_set, z0, z1, z2]
      · exact ((HB.out.setCell (by simp) _).setCell (by simp) _).setCell (by simp) _

set_option maxHeartbeats 2000000 in
theorem refMax_any (A : Option Addr) (c : Nat) (ss : List Stamp.St) (B : Nat) (w : World) (hr : Mem.Rd w B A (ss.flatMap Stamp.stCells)) (hB : B ≤ w.heap.size) (hn : ss.length ≤ maxLen) :
    Calls Try.prog 17 #[.slice A ss.length c] w fun e w' => e = .returned (Stamp.S (Stamp.maxS ss)) ∧ Below w.heap.size w w' := by
  unfold maxLen at hn
  have hm := Lib.hid (hr.more hB)
  clear hr
  go_enter Try.func17, Try.ntmps17
  go_wp2
  go_loopw [4] (maxRel w ss) (fun t _ => ss.length - (intOf t).toNat)
  case atStart =>
    refine ⟨0, by omega, rfl, ?_, ?_, ?_⟩
    · exact ((Below.refl _ _).alloc (Nat.le_refl _) _).alloc (by simp) _
    · exact (Stamp.Box.new w ⟨0, 0, 0⟩ rfl).below ((Below.refl _ _).alloc (Nat.le_refl _) _) (by simp)
    · exact Stamp.Box.new _ ⟨0, 0, 0⟩ (by simp)
  case round =>
    obtain ⟨k, hk, rfl, HB, H0, H1⟩ := hrel
    by_cases hlt : k < ss.length
    · obtain ⟨b, o, s, rfl, hb, hs, hc0, hc1, hc2⟩ := Stamp.elem hm.out hlt
      have q0 := (HB.out.cell (p := ⟨b, o + k * 3, none⟩) hb).trans hc0
      have q1 := (HB.out.cell (p := ⟨b, o + k * 3 + 1, none⟩) hb).trans hc1
      have q2 := (HB.out.cell (p := ⟨b, o + k * 3 + 2, none⟩) hb).trans hc2
      have hts := Lib.hid (Mem.take_snoc hs)
      have Q0 := Lib.hid q0
      have Q1 := Lib.hid q1
      have Q2 := Lib.hid q2
      clear hs hc0 hc1 hc2 q0 q1 q2
      have hz1 := H1.out.lt
      have hz0 := HB.out.size
      have hbw : b < wr.heap.size := by omega
      rcases Nat.eq_zero_or_pos k with h0 | h0
      · have hk0 : ((k : Int) == 0) = true := by rw [beq_iff_eq]; omega
        have h0' := Lib.hid h0
        clear h0
        go_wp2
        refine Reg.wp_region_rel (by kernel_rfl) 27 11 rfl rfl (by kernel_rfl) (Reg.Adds) (Reg.Adds.refl) (Reg.Adds.trans)
          (fun i v u => match i with
            | 0 => v = .int .i64 k
            | 1 => v = .bool true
            | 2 => v = .bool true
            | 3 => v = undef
            | 4 => v = undef
            | 5 => v = undef
            | 6 => v = undef
            | 7 => v = undef
            | 8 => v = undef
            | 9 => v = undef
            | 10 => v = .bool true
            | _ => True) ?_ ?_
        · refine Reg.Steps.cons ?_ (Reg.Steps.cons ?_ (Reg.Steps.cons ?_ (Reg.Steps.cons ?_ (Reg.Steps.cons ?_ (Reg.Steps.cons ?_ (Reg.Steps.cons ?_ (Reg.Steps.cons ?_ (Reg.Steps.cons ?_ (Reg.Steps.cons ?_ (Reg.Steps.cons ?_ (Reg.Steps.nil _)))))))))))
          · intro val ac u hR hp ha K hK      -- 0: t11 := Op.move t4
            have e4 : (ac.tmps[4]?).getD undef = .int .i64 k := ha 4 (by decide)
            clear ha hp
            refine Reg.Op1.plain rfl ?_
            go_wp2
            exact ⟨rfl, hK _ _ rfl (fun j k _ _ => Reg.Adds.refl _ _ _)⟩
          · intro val ac u hR hp ha K hK      -- 1: t12 := Op.binOp BinOp.eql 3 t11 (const (0:i64)) 3
            obtain ⟨w11, h11, r11⟩ := hp 0 (by decide)
            have e11 : (ac.tmps[11]?).getD undef = .int .i64 k := (ha 11 (by decide)).trans h11
            clear h11
            clear ha hp
            refine Reg.Op1.plain rfl ?_
            go_wp2
            exact ⟨rfl, hK _ _ rfl (fun j k _ _ => Reg.Adds.refl _ _ _)⟩
          · intro val ac u hR hp ha K hK      -- 2: t13 := Op.move t12
            obtain ⟨w12, h12, r12⟩ := hp 1 (by decide)
            have e12 : (ac.tmps[12]?).getD undef = .bool true := (ha 12 (by decide)).trans h12
            clear h12
            clear ha hp
            refine Reg.Op1.plain rfl ?_
            go_wp2
            exact ⟨rfl, hK _ _ rfl (fun j k _ _ => Reg.Adds.refl _ _ _)⟩
          · intro val ac u hR hp ha K hK      -- 3: t14 := Op.move t0
            obtain ⟨w13, h13, r13⟩ := hp 2 (by decide)
            have e13 : (ac.tmps[13]?).getD undef = .bool true := (ha 13 (by decide)).trans h13
            clear h13
            clear ha hp
            exact Reg.Op1.guarded rfl rfl e13 (fun h => by cases h) (fun _ => hK _ _ rfl (fun j k _ _ => Reg.Adds.refl _ _ _))
          · intro val ac u hR hp ha K hK      -- 4: t15 := Op.move t4
            obtain ⟨w13, h13, r13⟩ := hp 2 (by decide)
            have e13 : (ac.tmps[13]?).getD undef = .bool true := (ha 13 (by decide)).trans h13
            clear h13
            clear ha hp
            exact Reg.Op1.guarded rfl rfl e13 (fun h => by cases h) (fun _ => hK _ _ rfl (fun j k _ _ => Reg.Adds.refl _ _ _))
          · intro val ac u hR hp ha K hK      -- 5: t16 := Op.indexAddr 34 t14 t15
            obtain ⟨w13, h13, r13⟩ := hp 2 (by decide)
            have e13 : (ac.tmps[13]?).getD undef = .bool true := (ha 13 (by decide)).trans h13
            clear h13
            clear ha hp
            exact Reg.Op1.guarded rfl rfl e13 (fun h => by cases h) (fun _ => hK _ _ rfl (fun j k _ _ => Reg.Adds.refl _ _ _))
          · intro val ac u hR hp ha K hK      -- 6: t17 := Op.load 23 t16
            obtain ⟨w13, h13, r13⟩ := hp 2 (by decide)
            have e13 : (ac.tmps[13]?).getD undef = .bool true := (ha 13 (by decide)).trans h13
            clear h13
            clear ha hp
            exact Reg.Op1.guarded rfl rfl e13 (fun h => by cases h) (fun _ => hK _ _ rfl (fun j k _ _ => Reg.Adds.refl _ _ _))
          · intro val ac u hR hp ha K hK      -- 7: t18 := Op.load 23 t3
            obtain ⟨w13, h13, r13⟩ := hp 2 (by decide)
            have e13 : (ac.tmps[13]?).getD undef = .bool true := (ha 13 (by decide)).trans h13
            clear h13
            clear ha hp
            exact Reg.Op1.guarded rfl rfl e13 (fun h => by cases h) (fun _ => hK _ _ rfl (fun j k _ _ => Reg.Adds.refl _ _ _))
          · intro val ac u hR hp ha K hK      -- 8: t19 := Op.call { value (Operand.func 13), args := #[t17, t18], argTypes := #[23, 23] }
            obtain ⟨w13, h13, r13⟩ := hp 2 (by decide)
            have e13 : (ac.tmps[13]?).getD undef = .bool true := (ha 13 (by decide)).trans h13
            clear h13
            clear ha hp
            exact Reg.Op1.guarded rfl rfl e13 (fun h => by cases h) (fun _ => hK _ _ rfl (fun j k _ _ => Reg.Adds.refl _ _ _))
          · intro val ac u hR hp ha K hK      -- 9: t20 := Op.binOp BinOp.gtr 3 t19 (const (0:i64)) 3
            obtain ⟨w13, h13, r13⟩ := hp 2 (by decide)
            have e13 : (ac.tmps[13]?).getD undef = .bool true := (ha 13 (by decide)).trans h13
            clear h13
            clear ha hp
            exact Reg.Op1.guarded rfl rfl e13 (fun h => by cases h) (fun _ => hK _ _ rfl (fun j k _ _ => Reg.Adds.refl _ _ _))
          · intro val ac u hR hp ha K hK      -- 10: t21 := Op.pick t13 (const (Value.bool true)) t20
            obtain ⟨w13, h13, r13⟩ := hp 2 (by decide)
            have e13 : (ac.tmps[13]?).getD undef = .bool true := (ha 13 (by decide)).trans h13
            clear h13
            obtain ⟨w20, h20, r20⟩ := hp 9 (by decide)
            have e20 : (ac.tmps[20]?).getD undef = undef := (ha 20 (by decide)).trans h20
            clear h20
            clear ha hp
            refine Reg.Op1.plain rfl ?_
            go_wp2
            exact ⟨rfl, hK _ _ rfl (fun j k _ _ => Reg.Adds.refl _ _ _)⟩
        · intro val u hR H
          obtain ⟨w21, hv, hr⟩ := H 10 (by decide)
          have hv : val 10 = .bool true := hv
          simp only [List.map_cons, List.map_nil, Reg.lay, Act.put, List.setIfInBounds_toArray, List.set_cons_succ, List.set_cons_zero, Nat.reduceAdd, hv]
          have hru := Below.mono hR (Nat.le_refl _)
          have h4 := Lib.hid (maxBelow ⟨HB.out, H0.out, H1.out⟩ ((Below.refl _ _).drew.trans hru))
          have x0 := (((Below.refl wr.heap.size wr).drew.trans hru).cell (p := ⟨b, o + k * 3, none⟩) hbw).trans Q0.out
          have x1 := (((Below.refl wr.heap.size wr).drew.trans hru).cell (p := ⟨b, o + k * 3 + 1, none⟩) hbw).trans Q1.out
          have x2 := (((Below.refl wr.heap.size wr).drew.trans hru).cell (p := ⟨b, o + k * 3 + 2, none⟩) hbw).trans Q2.out
          have y0 := h4.out.2.2.c0
          have y1 := h4.out.2.2.c1
          have y2 := h4.out.2.2.c2
          have yf := h4.out.2.2.fr
          clear hv hr H hR hru
          go_wp2
          go_roundw
          case rel =>
            refine maxRel_mk (k := k + 1) (by omega) (by go_num) ?_
            have hst : Stamp.maxS (ss.take (k + 1)) = s := by rw [hts.out, h0'.out]; rfl
            rw [hst]
            exact maxSet h4.out.1 h4.out.2.1 h4.out.2.2 s rfl
          case measure => simp [intOf]; omega
      · have hk0 : ((k : Int) == 0) = false := by rw [beq_eq_false_iff_ne]; omega
        have hst : Stamp.maxS (ss.take (k + 1)) = Stamp.best (Stamp.maxS (ss.take k)) s := by rw [hts.out, Stamp.maxS_snoc (by rw [List.length_take]; omega)]
        obtain ⟨m, hmm⟩ : ∃ m, Stamp.maxS (ss.take k) = m := ⟨_, rfl⟩
        rw [hmm] at H1 hst
        have HM := Lib.hid hmm
        have HST := Lib.hid hst
        clear hmm h0 hst
        obtain ⟨pb, hpb⟩ : ∃ pb : Bool, decide (0 < Stamp.cmpS s m) = pb := ⟨_, rfl⟩
        go_wp2
        refine Reg.wp_region_rel (by kernel_rfl) 27 11 rfl rfl (by kernel_rfl) (Reg.Adds) (Reg.Adds.refl) (Reg.Adds.trans)
          (fun i v u => match i with
            | 0 => v = .int .i64 k
            | 1 => v = .bool false
            | 2 => v = .bool false
            | 3 => v = .slice (some ⟨b, o, none⟩) ss.length c
            | 4 => v = .int .i64 k
            | 5 => v = .pointer (some ⟨b, o + k * 3, none⟩)
            | 6 => v = Stamp.S s
            | 7 => v = Stamp.S m
            | 8 => v = .int .i64 (Stamp.cmpS s m)
            | 9 => v = .bool pb
            | 10 => v = .bool pb
            | _ => True) ?_ ?_
        · refine Reg.Steps.cons ?_ (Reg.Steps.cons ?_ (Reg.Steps.cons ?_ (Reg.Steps.cons ?_ (Reg.Steps.cons ?_ (Reg.Steps.cons ?_ (Reg.Steps.cons ?_ (Reg.Steps.cons ?_ (Reg.Steps.cons ?_ (Reg.Steps.cons ?_ (Reg.Steps.cons ?_ (Reg.Steps.nil _)))))))))))
          · intro val ac u hR hp ha K hK      -- 0: t11 := Op.move t4
            have e4 : (ac.tmps[4]?).getD undef = .int .i64 k := ha 4 (by decide)
            clear ha hp
            refine Reg.Op1.plain rfl ?_
            go_wp2
            exact ⟨rfl, hK _ _ rfl (fun j k _ _ => Reg.Adds.refl _ _ _)⟩
          · intro val ac u hR hp ha K hK      -- 1: t12 := Op.binOp BinOp.eql 3 t11 (const (0:i64)) 3
            obtain ⟨w11, h11, r11⟩ := hp 0 (by decide)
            have e11 : (ac.tmps[11]?).getD undef = .int .i64 k := (ha 11 (by decide)).trans h11
            clear h11
            clear ha hp
            refine Reg.Op1.plain rfl ?_
            go_wp2
            exact ⟨rfl, hK _ _ rfl (fun j k _ _ => Reg.Adds.refl _ _ _)⟩
          · intro val ac u hR hp ha K hK      -- 2: t13 := Op.move t12
            obtain ⟨w12, h12, r12⟩ := hp 1 (by decide)
            have e12 : (ac.tmps[12]?).getD undef = .bool false := (ha 12 (by decide)).trans h12
            clear h12
            clear ha hp
            refine Reg.Op1.plain rfl ?_
            go_wp2
            exact ⟨rfl, hK _ _ rfl (fun j k _ _ => Reg.Adds.refl _ _ _)⟩
          · intro val ac u hR hp ha K hK      -- 3: t14 := Op.move t0
            have e0 : (ac.tmps[0]?).getD undef = .slice (some ⟨b, o, none⟩) ss.length c := ha 0 (by decide)
            obtain ⟨w13, h13, r13⟩ := hp 2 (by decide)
            have e13 : (ac.tmps[13]?).getD undef = .bool false := (ha 13 (by decide)).trans h13
            clear h13
            clear ha hp
            refine Reg.Op1.guarded rfl rfl e13 (fun _ => Reg.Op1.plain rfl ?_) (fun h => absurd rfl h)
            go_wp2
            exact ⟨rfl, hK _ _ rfl (fun j k _ _ => Reg.Adds.refl _ _ _)⟩
          · intro val ac u hR hp ha K hK      -- 4: t15 := Op.move t4
            have e4 : (ac.tmps[4]?).getD undef = .int .i64 k := ha 4 (by decide)
            obtain ⟨w13, h13, r13⟩ := hp 2 (by decide)
            have e13 : (ac.tmps[13]?).getD undef = .bool false := (ha 13 (by decide)).trans h13
            clear h13
            clear ha hp
            refine Reg.Op1.guarded rfl rfl e13 (fun _ => Reg.Op1.plain rfl ?_) (fun h => absurd rfl h)
            go_wp2
            exact ⟨rfl, hK _ _ rfl (fun j k _ _ => Reg.Adds.refl _ _ _)⟩
          · intro val ac u hR hp ha K hK      -- 5: t16 := Op.indexAddr 34 t14 t15
            obtain ⟨w14, h14, r14⟩ := hp 3 (by decide)
            have e14 : (ac.tmps[14]?).getD undef = .slice (some ⟨b, o, none⟩) ss.length c := (ha 14 (by decide)).trans h14
            clear h14
            obtain ⟨w15, h15, r15⟩ := hp 4 (by decide)
            have e15 : (ac.tmps[15]?).getD undef = .int .i64 k := (ha 15 (by decide)).trans h15
            clear h15
            obtain ⟨w13, h13, r13⟩ := hp 2 (by decide)
            have e13 : (ac.tmps[13]?).getD undef = .bool false := (ha 13 (by decide)).trans h13
            clear h13
            clear ha hp
            refine Reg.Op1.guarded rfl rfl e13 (fun _ => Reg.Op1.plain rfl ?_) (fun h => absurd rfl h)
            go_wp2
            exact ⟨rfl, hK _ _ rfl (fun j k _ _ => Reg.Adds.refl _ _ _)⟩
          · intro val ac u hR hp ha K hK      -- 6: t17 := Op.load 23 t16
            obtain ⟨w16, h16, r16⟩ := hp 5 (by decide)
            have e16 : (ac.tmps[16]?).getD undef = .pointer (some ⟨b, o + k * 3, none⟩) := (ha 16 (by decide)).trans h16
            clear h16
            obtain ⟨w13, h13, r13⟩ := hp 2 (by decide)
            have e13 : (ac.tmps[13]?).getD undef = .bool false := (ha 13 (by decide)).trans h13
            clear h13
            clear ha hp
            refine Reg.Op1.guarded rfl rfl e13 (fun _ => Reg.Op1.plain rfl ?_) (fun h => absurd rfl h)
            have hru := ((Below.refl wr.heap.size wr).drew.trans (Below.mono hR (Nat.le_refl _)))
            have x0 := (hru.cell (p := ⟨b, o + k * 3, none⟩) hbw).trans Q0.out
            have x1 := (hru.cell (p := ⟨b, o + k * 3 + 1, none⟩) hbw).trans Q1.out
            have x2 := (hru.cell (p := ⟨b, o + k * 3 + 2, none⟩) hbw).trans Q2.out
            clear hru
            go_wp2
            exact ⟨rfl, hK _ _ rfl (fun j k _ _ => Reg.Adds.refl _ _ _)⟩
          · intro val ac u hR hp ha K hK      -- 7: t18 := Op.load 23 t3
            have e3 : (ac.tmps[3]?).getD undef = .pointer (some ⟨w.heap.size + 1, 0, none⟩) := ha 3 (by decide)
            obtain ⟨w13, h13, r13⟩ := hp 2 (by decide)
            have e13 : (ac.tmps[13]?).getD undef = .bool false := (ha 13 (by decide)).trans h13
            clear h13
            clear ha hp
            refine Reg.Op1.guarded rfl rfl e13 (fun _ => Reg.Op1.plain rfl ?_) (fun h => absurd rfl h)
            have hb1 := H1.out.below ((Below.refl wr.heap.size wr).drew.trans (Below.mono hR (Nat.le_refl _))) H1.out.lt
            have x0 := hb1.c0
            have x1 := hb1.c1
            have x2 := hb1.c2
            clear hb1
            go_wp2
            exact ⟨rfl, hK _ _ rfl (fun j k _ _ => Reg.Adds.refl _ _ _)⟩
          · intro val ac u hR hp ha K hK      -- 8: t19 := Op.call { value (Operand.func 13), args := #[t17, t18], argTypes := #[23, 23] }
            obtain ⟨w17, h17, r17⟩ := hp 6 (by decide)
            have e17 : (ac.tmps[17]?).getD undef = Stamp.S s := (ha 17 (by decide)).trans h17
            clear h17
            obtain ⟨w18, h18, r18⟩ := hp 7 (by decide)
            have e18 : (ac.tmps[18]?).getD undef = Stamp.S m := (ha 18 (by decide)).trans h18
            clear h18
            obtain ⟨w13, h13, r13⟩ := hp 2 (by decide)
            have e13 : (ac.tmps[13]?).getD undef = .bool false := (ha 13 (by decide)).trans h13
            clear h13
            clear ha hp
            refine Reg.Op1.guarded rfl rfl e13 (fun _ => Reg.Op1.plain rfl ?_) (fun h => absurd rfl h)
            go_wp2_with fail
            refine (refCmp_any s m _).mono ?_
            rintro e w' ⟨rfl, hb'⟩
            go_wp2_with fail
            exact ⟨rfl, hK _ _ rfl (fun j k _ _ => hb')⟩
          · intro val ac u hR hp ha K hK      -- 9: t20 := Op.binOp BinOp.gtr 3 t19 (const (0:i64)) 3
            obtain ⟨w19, h19, r19⟩ := hp 8 (by decide)
            have e19 : (ac.tmps[19]?).getD undef = .int .i64 (Stamp.cmpS s m) := (ha 19 (by decide)).trans h19
            clear h19
            obtain ⟨w13, h13, r13⟩ := hp 2 (by decide)
            have e13 : (ac.tmps[13]?).getD undef = .bool false := (ha 13 (by decide)).trans h13
            clear h13
            clear ha hp
            refine Reg.Op1.guarded rfl rfl e13 (fun _ => Reg.Op1.plain rfl ?_) (fun h => absurd rfl h)
            go_wp2
            exact ⟨rfl, hK _ _ rfl (fun j k _ _ => Reg.Adds.refl _ _ _)⟩
          · intro val ac u hR hp ha K hK      -- 10: t21 := Op.pick t13 (const (Value.bool true)) t20
            obtain ⟨w13, h13, r13⟩ := hp 2 (by decide)
            have e13 : (ac.tmps[13]?).getD undef = .bool false := (ha 13 (by decide)).trans h13
            clear h13
            obtain ⟨w20, h20, r20⟩ := hp 9 (by decide)
            have e20 : (ac.tmps[20]?).getD undef = .bool pb := (ha 20 (by decide)).trans h20
            clear h20
            clear ha hp
            refine Reg.Op1.plain rfl ?_
            go_wp2
            exact ⟨rfl, hK _ _ rfl (fun j k _ _ => Reg.Adds.refl _ _ _)⟩
        · intro val u hR H
          obtain ⟨w21, hv, hr⟩ := H 10 (by decide)
          have hv : val 10 = .bool pb := hv
          simp only [List.map_cons, List.map_nil, Reg.lay, Act.put, List.setIfInBounds_toArray, List.set_cons_succ, List.set_cons_zero, Nat.reduceAdd, hv]
          have hru := Below.mono hR (Nat.le_refl _)
          have h4 := Lib.hid (maxBelow ⟨HB.out, H0.out, H1.out⟩ ((Below.refl _ _).drew.trans hru))
          have x0 := (((Below.refl wr.heap.size wr).drew.trans hru).cell (p := ⟨b, o + k * 3, none⟩) hbw).trans Q0.out
          have x1 := (((Below.refl wr.heap.size wr).drew.trans hru).cell (p := ⟨b, o + k * 3 + 1, none⟩) hbw).trans Q1.out
          have x2 := (((Below.refl wr.heap.size wr).drew.trans hru).cell (p := ⟨b, o + k * 3 + 2, none⟩) hbw).trans Q2.out
          have y0 := h4.out.2.2.c0
          have y1 := h4.out.2.2.c1
          have y2 := h4.out.2.2.c2
          have yf := h4.out.2.2.fr
          clear hv hr H hR hru
          cases pb
          · have hst : Stamp.maxS (ss.take (k + 1)) = m := by rw [HST.out, Stamp.best, if_neg (by simpa using hpb)]
            have hst' := Lib.hid hst
            clear hst hpb
            go_wp2
            go_roundw
            case rel =>
              refine maxRel_mk (k := k + 1) (by omega) (by go_num) ?_
              rw [hst'.out]
              exact h4.out
            case measure => simp [intOf]; omega
          · have hst : Stamp.maxS (ss.take (k + 1)) = s := by rw [HST.out, Stamp.best, if_pos (by simpa using hpb)]
            have hst' := Lib.hid hst
            clear hst hpb
            go_wp2
            go_roundw
            case rel =>
              refine maxRel_mk (k := k + 1) (by omega) (by go_num) ?_
              rw [hst'.out]
              exact maxSet h4.out.1 h4.out.2.1 h4.out.2.2 s rfl
            case measure => simp [intOf]; omega
    · obtain rfl : k = ss.length := by omega
      rw [List.take_length] at H1
      have m0 := H1.out.c0
      have m1 := H1.out.c1
      have m2 := H1.out.c2
      have z0 := H0.out.c0
      have z1 := H0.out.c1
      have z2 := H0.out.c2
      have zf := H0.out.fr
      obtain ⟨m, hmm⟩ : ∃ m, Stamp.maxS ss = m := ⟨_, rfl⟩
      rw [hmm] at H1 m0 m1 m2
      have HM := Lib.hid hmm
      clear hmm
      go_wp2
      refine bodyPost_ret (v := Stamp.S m) ?_ rfl ⟨by rw [HM.out], ?_⟩
      · simp [results, Try.results17, go_sem, Mem.set_same, Mem.isSome_set, z0, z1, z2]
      · exact ((HB.out.setCell (by simp) _).setCell (by simp) _).setCell (by simp) _
end Go.Proofs.Ythoklehmbkjkbaa
