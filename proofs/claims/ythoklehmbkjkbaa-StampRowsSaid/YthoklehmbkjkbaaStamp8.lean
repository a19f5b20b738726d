/- The walk of StampRows: stamps made one behind the other rise and are all unlike. No conditions. -/
import Derived.Test.YthoklehmbkjkbaaStamp7
import Derived.Test.YthoklehmbkjkbaaRegF
namespace Go.Proofs.Ythoklehmbkjkbaa
open Go.ChangeShapes Go.WideShapes Go.ChangeAt Go.RowKit
set_option linter.unusedVariables false

theorem open_dots {H : Type} {enc : TypeId × Value → H} {W : World} {base : Nat} {v : Value} {d : DataW H} {p : List MemPlace} (o : Value.okWide Try.prog W .any base 39 v) (k : DataW.Trod enc Try.prog W 0 (fun _ => true) true 39 v d p) :
    ∃ A c, ∃ ss : List Stamp.St, v = .slice A ss.length c ∧ ss.length ≤ c ∧ c ≤ maxLen ∧ Mem.Rd W W.heap.size A (ss.flatMap Stamp.stCells) := by
  obtain ⟨A, c, l, h1, h2, h3, h4, _⟩ := Mem.open_slice_of (α := Stamp.St) (sz := 3) Try.underlying39 (by kernel_rfl) (by omega) Stamp.stCells Stamp.stCells_length (fun _ => True) (fun n cs x h hl => by
    obtain ⟨m0, y0, e0⟩ := Mem.field1 Try.underlying41 h 0 _ rfl
    obtain ⟨m1, y1, e1⟩ := Mem.field1 Try.underlying41 h 1 _ rfl
    obtain ⟨m2, y2, e2⟩ := Mem.field1 Try.underlying41 h 2 _ rfl
    obtain ⟨a0, q0, _⟩ := DataW.trod_int Try.underlying3 e0
    obtain ⟨a1, q1, _⟩ := DataW.trod_int Try.underlying3 e1
    obtain ⟨a2, q2, _⟩ := DataW.trod_int Try.underlying3 e2
    have k1 : Try.prog.cellsOf 3 = 1 := by kernel_rfl
    match cs, hl with
    | [x0, x1, x2], _ =>
      simp [k1] at q0 q1 q2
      exact ⟨⟨a0, a1, a2⟩, by rw [q0, q1, q2]; rfl, trivial⟩) o k
  exact ⟨A, c, l, h1, h2, h3, h4⟩

namespace stampRowsOpen
open Stamp
/-- may there be a next one? -/
def good (l : St) (dc rng seen : Int) : Bool := decide (0 ≤ dc ∧ dc < 3 ∧ 0 ≤ rng ∧ rng < 3 ∧ seen < 1099511627776 ∧ l.c < 1099511627776)
theorem top2 (l : St) (h : 0 ≤ l.c) (seen : Int) : topOf [l.c, seen] = max l.c seen := by
  show max (max 0 l.c) seen = _
  omega
theorem next_good {l : St} {dc rng seen : Int} (h : 0 ≤ l.c) (hg : good l dc rng seen = true) : nextS dc rng [l.c, seen] = (⟨max l.c seen + 1, dc, rng⟩, true) := by
  unfold nextS
  rw [top2 l h]
  unfold good at hg
  simp at hg
  have : min (max l.c seen) 1099511627776 = max l.c seen := by omega
  rw [this, if_pos]
  unfold right
  simp
  omega
theorem next_bad {l : St} {dc rng seen : Int} (h : 0 ≤ l.c) (hg : good l dc rng seen = false) : nextS dc rng [l.c, seen] = (⟨0, 0, 0⟩, false) := by
  unfold nextS
  rw [top2 l h, if_neg]
  unfold good at hg
  simp at hg
  unfold right
  simp
  omega
theorem bad_arms {l : St} {dc rng seen : Int} (h : good l dc rng seen = false) :
    decide (0 ≤ dc) = false ∨ (decide (0 ≤ dc) = true ∧ decide (dc < 3) = false) ∨ (decide (0 ≤ dc) = true ∧ decide (dc < 3) = true ∧ decide (0 ≤ rng) = false) ∨
    (decide (0 ≤ dc) = true ∧ decide (dc < 3) = true ∧ decide (0 ≤ rng) = true ∧ decide (rng < 3) = false) ∨ (decide (0 ≤ dc) = true ∧ decide (dc < 3) = true ∧ decide (0 ≤ rng) = true ∧ decide (rng < 3) = true ∧ decide (seen < 1099511627776) = false) ∨
    (decide (0 ≤ dc) = true ∧ decide (dc < 3) = true ∧ decide (0 ≤ rng) = true ∧ decide (rng < 3) = true ∧ decide (seen < 1099511627776) = true ∧ decide (l.c < 1099511627776) = false) := by
  unfold good at h
  simp only [decide_eq_true_eq, decide_eq_false_iff_not] at *
  omega
theorem good_arm {l : St} {dc rng seen : Int} (h : good l dc rng seen = true) :
    decide (0 ≤ dc) = true ∧ decide (dc < 3) = true ∧ decide (0 ≤ rng) = true ∧ decide (rng < 3) = true ∧ decide (seen < 1099511627776) = true ∧ decide (l.c < 1099511627776) = true := by
  unfold good at h
  simp only [decide_eq_true_eq] at *
  omega
theorem max2 (l s : St) (h : 0 < cmpS s l) : maxS [l, s] = s := by
  show best l s = s
  rw [best, if_pos h]
def Rel (w : World) (n g0 : Nat) (vi : Value) (wr : World) : Prop :=
  ∃ (k : Nat) (l : St), k ≤ n ∧ vi = .int .i64 k ∧ Hid (0 ≤ l.c ∧ l.c ≤ 1099511627776) ∧ Hid (Below w.heap.size w wr) ∧ Hid (Box wr g0 l)

set_option maxRecDepth 8000 in
set_option maxHeartbeats 4000000 in
theorem walk (A : Option Addr) (c : Nat) (ss : List St) (seen : Int) (w : World) (hr : Mem.Rd w w.heap.size A (ss.flatMap stCells)) (hn : ss.length ≤ maxLen) :
    Calls Try.prog 8 #[.slice A ss.length c, .int .i64 seen] w fun e w' => e = .returned (.bool true) ∧ Below w.heap.size w w' := by
  unfold maxLen at hn
  have hr0 := Lib.hid hr
  clear hr
  go_enter Try.func8, Try.ntmps8
  go_wp2_with (go_at_call 9; refine (stampAble_any _).mono ?_; rintro e w1 ⟨rfl, hb1⟩)
  have hg0 := hb1.size
  go_loopw [6] (Rel w ss.length w1.heap.size) (fun t _ => ss.length - (intOf t).toNat)
  case atStart => exact ⟨0, ⟨0, 0, 0⟩, by omega, rfl, by show (0:Int) ≤ 0 ∧ (0:Int) ≤ _; omega, hb1.alloc hb1.size _, Box.new w1 ⟨0, 0, 0⟩ rfl⟩
  case round =>
    obtain ⟨k, l, hk, rfl, HL, HB, HX⟩ := hrel
    by_cases hlt : k < ss.length
    · by_cases h3 : k < 3000
      · have h3d : decide ((k : Int) < 3000) = true := by simp; omega
        obtain ⟨b, q, x, rfl, hb, hs, hc0, hc1, hc2⟩ := Stamp.elem hr0.out hlt
        have C0 := Lib.hid hc0
        have C1 := Lib.hid hc1
        clear hs hc0 hc1 hc2
        obtain ⟨nx, hnx⟩ : ∃ nx, nextS x.c x.d [l.c, seen] = nx := ⟨_, rfl⟩
        have HN := Lib.hid hnx
        clear hnx h3
        have hz := HB.out.size
        have hgl := HX.out.lt
        go_wp2
        refine Reg.wp_region_relF (by kernel_rfl) 124 21 rfl rfl (by kernel_rfl) (Reg.One2 19 21 wr.heap.size [14,15,16]) (Reg.One2.refl _ _ _ _) (Reg.One2.trans _ _ _ _)
          (fun i f v u => match i with
            | 0 => v = .slice (some ⟨b, q, none⟩) ss.length c
            | 1 => v = .int .i64 k
            | 2 => v = .pointer (some ⟨b, q + k * 3, none⟩)
            | 3 => v = .pointer (some ⟨b, q + k * 3, none⟩)
            | 4 => v = .int .i64 x.c
            | 5 => v = .slice (some ⟨b, q, none⟩) ss.length c
            | 6 => v = .int .i64 k
            | 7 => v = .pointer (some ⟨b, q + k * 3, none⟩)
            | 8 => v = .pointer (some ⟨b, q + k * 3 + 1, none⟩)
            | 9 => v = .int .i64 x.d
            | 10 => v = .pointer (some ⟨w1.heap.size, 0, none⟩)
            | 11 => v = .int .i64 l.c
            | 12 => v = .int .i64 seen
            | 13 => ∃ s, v = .slice (some ⟨s, 0, none⟩) 2 2 ∧ Mem.Rd u (s + 1) (some ⟨s, 0, none⟩) [.int .i64 l.c, .int .i64 seen] ∧ s + 1 ≤ u.heap.size
            | 14 => v = .tuple #[S nx.1, .bool nx.2]
            | 15 => v = .tuple #[S nx.1, .bool nx.2]
            | 16 => v = S nx.1
            | 17 => v = .bool nx.2
            | 18 => ∃ s, v = .pointer (some ⟨s, 0, none⟩) ∧ wr.heap.size ≤ s ∧ Box u s ⟨0, 0, 0⟩
            | 19 => ∃ s, f 7 = .pointer (some ⟨s, 0, none⟩) ∧ wr.heap.size ≤ s ∧ Box u s nx.1
            | 20 => v = .bool nx.2
            | _ => True) ?_ ?_
        · refine Reg.StepsF.cons ?_ (Reg.StepsF.cons ?_ (Reg.StepsF.cons ?_ (Reg.StepsF.cons ?_ (Reg.StepsF.cons ?_ (Reg.StepsF.cons ?_ (Reg.StepsF.cons ?_ (Reg.StepsF.cons ?_ (Reg.StepsF.cons ?_ (Reg.StepsF.cons ?_ (Reg.StepsF.cons ?_ (Reg.StepsF.cons ?_ (Reg.StepsF.cons ?_ (Reg.StepsF.cons ?_ (Reg.StepsF.cons ?_ (Reg.StepsF.cons ?_ (Reg.StepsF.cons ?_ (Reg.StepsF.cons ?_ (Reg.StepsF.cons ?_ (Reg.StepsF.cons ?_ (Reg.StepsF.cons ?_ (Reg.StepsF.nil _)))))))))))))))))))))
          · intro val ac u hR hp ha K hK      -- 0: t24 := Op.move t0
            have e0 : (ac.tmps[0]?).getD undef = .slice (some ⟨b, q, none⟩) ss.length c := ha 0 (by decide)
            clear ha hp
            refine Reg.Op1.plain rfl ?_
            go_wp2
            exact ⟨rfl, hK _ _ rfl (fun j k _ _ => Reg.One2.refl _ _ _ _ _ _ _)⟩
          · intro val ac u hR hp ha K hK      -- 1: t25 := Op.move t6
            have e6 : (ac.tmps[6]?).getD undef = .int .i64 k := ha 6 (by decide)
            clear ha hp
            refine Reg.Op1.plain rfl ?_
            go_wp2
            exact ⟨rfl, hK _ _ rfl (fun j k _ _ => Reg.One2.refl _ _ _ _ _ _ _)⟩
          · intro val ac u hR hp ha K hK      -- 2: t26 := Op.indexAddr 39 t24 t25
            obtain ⟨w24, h24, r24⟩ := hp 0 (by decide)
            have e24 : (ac.tmps[24]?).getD undef = .slice (some ⟨b, q, none⟩) ss.length c := (ha 24 (by decide)).trans h24
            clear h24
            obtain ⟨w25, h25, r25⟩ := hp 1 (by decide)
            have e25 : (ac.tmps[25]?).getD undef = .int .i64 k := (ha 25 (by decide)).trans h25
            clear h25
            clear ha hp
            refine Reg.Op1.plain rfl ?_
            go_wp2
            exact ⟨rfl, hK _ _ rfl (fun j k _ _ => Reg.One2.refl _ _ _ _ _ _ _)⟩
          · intro val ac u hR hp ha K hK      -- 3: t27 := Op.fieldAddr 41 t26 0
            obtain ⟨w26, h26, r26⟩ := hp 2 (by decide)
            have e26 : (ac.tmps[26]?).getD undef = .pointer (some ⟨b, q + k * 3, none⟩) := (ha 26 (by decide)).trans h26
            clear h26
            clear ha hp
            refine Reg.Op1.plain rfl ?_
            go_wp2
            exact ⟨rfl, hK _ _ rfl (fun j k _ _ => Reg.One2.refl _ _ _ _ _ _ _)⟩
          · intro val ac u hR hp ha K hK      -- 4: t28 := Op.load 3 t27
            obtain ⟨w27, h27, r27⟩ := hp 3 (by decide)
            have e27 : (ac.tmps[27]?).getD undef = .pointer (some ⟨b, q + k * 3, none⟩) := (ha 27 (by decide)).trans h27
            clear h27
            clear ha hp
            refine Reg.Op1.plain rfl ?_
            have hbu := HB.out.drew.trans ((hR.weak (Nat.le_refl _)).mono hz)
            have x0 := (hbu.cell (p := ⟨b, q + k * 3, none⟩) hb).trans C0.out
            clear hbu
            go_wp2
            exact ⟨rfl, hK _ _ rfl (fun j k _ _ => Reg.One2.refl _ _ _ _ _ _ _)⟩
          · intro val ac u hR hp ha K hK      -- 5: t29 := Op.move t0
            have e0 : (ac.tmps[0]?).getD undef = .slice (some ⟨b, q, none⟩) ss.length c := ha 0 (by decide)
            clear ha hp
            refine Reg.Op1.plain rfl ?_
            go_wp2
            exact ⟨rfl, hK _ _ rfl (fun j k _ _ => Reg.One2.refl _ _ _ _ _ _ _)⟩
          · intro val ac u hR hp ha K hK      -- 6: t30 := Op.move t6
            have e6 : (ac.tmps[6]?).getD undef = .int .i64 k := ha 6 (by decide)
            clear ha hp
            refine Reg.Op1.plain rfl ?_
            go_wp2
            exact ⟨rfl, hK _ _ rfl (fun j k _ _ => Reg.One2.refl _ _ _ _ _ _ _)⟩
          · intro val ac u hR hp ha K hK      -- 7: t31 := Op.indexAddr 39 t29 t30
            obtain ⟨w29, h29, r29⟩ := hp 5 (by decide)
            have e29 : (ac.tmps[29]?).getD undef = .slice (some ⟨b, q, none⟩) ss.length c := (ha 29 (by decide)).trans h29
            clear h29
            obtain ⟨w30, h30, r30⟩ := hp 6 (by decide)
            have e30 : (ac.tmps[30]?).getD undef = .int .i64 k := (ha 30 (by decide)).trans h30
            clear h30
            clear ha hp
            refine Reg.Op1.plain rfl ?_
            go_wp2
            exact ⟨rfl, hK _ _ rfl (fun j k _ _ => Reg.One2.refl _ _ _ _ _ _ _)⟩
          · intro val ac u hR hp ha K hK      -- 8: t32 := Op.fieldAddr 41 t31 1
            obtain ⟨w31, h31, r31⟩ := hp 7 (by decide)
            have e31 : (ac.tmps[31]?).getD undef = .pointer (some ⟨b, q + k * 3, none⟩) := (ha 31 (by decide)).trans h31
            clear h31
            clear ha hp
            refine Reg.Op1.plain rfl ?_
            go_wp2
            exact ⟨rfl, hK _ _ rfl (fun j k _ _ => Reg.One2.refl _ _ _ _ _ _ _)⟩
          · intro val ac u hR hp ha K hK      -- 9: t33 := Op.load 3 t32
            obtain ⟨w32, h32, r32⟩ := hp 8 (by decide)
            have e32 : (ac.tmps[32]?).getD undef = .pointer (some ⟨b, q + k * 3 + 1, none⟩) := (ha 32 (by decide)).trans h32
            clear h32
            clear ha hp
            refine Reg.Op1.plain rfl ?_
            have hbu := HB.out.drew.trans ((hR.weak (Nat.le_refl _)).mono hz)
            have x0 := (hbu.cell (p := ⟨b, q + k * 3 + 1, none⟩) hb).trans C1.out
            clear hbu
            go_wp2
            exact ⟨rfl, hK _ _ rfl (fun j k _ _ => Reg.One2.refl _ _ _ _ _ _ _)⟩
          · intro val ac u hR hp ha K hK      -- 10: t34 := Op.fieldAddr 23 t5 0
            have e5 : (ac.tmps[5]?).getD undef = .pointer (some ⟨w1.heap.size, 0, none⟩) := ha 5 (by decide)
            clear ha hp
            refine Reg.Op1.plain rfl ?_
            go_wp2
            exact ⟨rfl, hK _ _ rfl (fun j k _ _ => Reg.One2.refl _ _ _ _ _ _ _)⟩
          · intro val ac u hR hp ha K hK      -- 11: t35 := Op.load 3 t34
            obtain ⟨w34, h34, r34⟩ := hp 10 (by decide)
            have e34 : (ac.tmps[34]?).getD undef = .pointer (some ⟨w1.heap.size, 0, none⟩) := (ha 34 (by decide)).trans h34
            clear h34
            clear ha hp
            refine Reg.Op1.plain rfl ?_
            have x0 := (HX.out.below ((Below.refl _ _).drew.trans (hR.weak (Nat.le_refl _))) hgl).c0
            go_wp2
            exact ⟨rfl, hK _ _ rfl (fun j k _ _ => Reg.One2.refl _ _ _ _ _ _ _)⟩
          · intro val ac u hR hp ha K hK      -- 12: t36 := Op.move t1
            have e1 : (ac.tmps[1]?).getD undef = .int .i64 seen := ha 1 (by decide)
            clear ha hp
            refine Reg.Op1.plain rfl ?_
            go_wp2
            exact ⟨rfl, hK _ _ rfl (fun j k _ _ => Reg.One2.refl _ _ _ _ _ _ _)⟩
          · intro val ac u hR hp ha K hK      -- 13: t37 := Op.buildSlice 28 2 #[(0, t35), (1, t36)]
            obtain ⟨w35, h35, r35⟩ := hp 11 (by decide)
            have e35 : (ac.tmps[35]?).getD undef = .int .i64 l.c := (ha 35 (by decide)).trans h35
            clear h35
            obtain ⟨w36, h36, r36⟩ := hp 12 (by decide)
            have e36 : (ac.tmps[36]?).getD undef = .int .i64 seen := (ha 36 (by decide)).trans h36
            clear h36
            clear ha hp
            refine Reg.Op1.plain rfl ?_
            have hbu := (hR.weak (Nat.le_refl _)).size
            go_wp2
            exact ⟨rfl, hK _ _ ⟨u.heap.size, rfl, Mem.Rd.alloc_new u _ _ _ rfl, by simp⟩ (fun j k _ _ => Reg.One2.adds (Reg.below_new _ _) hbu)⟩
          · intro val ac u hR hp ha K hK      -- 14: t38 := Op.call { value (Operand.func 14), args := #[t28, t33, t37], argTypes := #[3, 3, 28] }
            obtain ⟨w28, h28, r28⟩ := hp 4 (by decide)
            have e28 : (ac.tmps[28]?).getD undef = .int .i64 x.c := (ha 28 (by decide)).trans h28
            clear h28
            obtain ⟨w33, h33, r33⟩ := hp 9 (by decide)
            have e33 : (ac.tmps[33]?).getD undef = .int .i64 x.d := (ha 33 (by decide)).trans h33
            clear h33
            obtain ⟨w37, h37, r37⟩ := hp 13 (by decide)
            have e37 : (ac.tmps[37]?).getD undef = val 13 := ha 37 (by decide)
            clear ha hp
            refine Reg.Op1.plain rfl ?_
            obtain ⟨s, hv, hrd, hs⟩ := h37
            rw [hv] at e37
            have hbu := (hR.weak (Nat.le_refl _)).size
            have hrd2 := (hrd.below ((r37.toL (by decide)).mono hs)).more (Nat.le_trans hs (r37.toL (by decide)).size)
            go_wp2_with fail
            refine (nextN (zs := [l.c, seen]) 2 rfl x.c x.d (some ⟨s, 0, none⟩) 2 _ _ hrd2 (Nat.le_refl _) (by unfold maxLen; omega)).mono ?_
            rw [HN.out]
            rintro e w' ⟨rfl, hb'⟩
            go_wp2_with fail
            exact ⟨rfl, hK _ _ rfl (fun j k _ _ => Reg.One2.adds hb' hbu)⟩
          · intro val ac u hR hp ha K hK      -- 15: t23 := Op.move t38
            obtain ⟨w38, h38, r38⟩ := hp 14 (by decide)
            have e38 : (ac.tmps[38]?).getD undef = .tuple #[S nx.1, .bool nx.2] := (ha 38 (by decide)).trans h38
            clear h38
            clear ha hp
            refine Reg.Op1.plain rfl ?_
            go_wp2
            exact ⟨rfl, hK _ _ rfl (fun j k _ _ => Reg.One2.refl _ _ _ _ _ _ _)⟩
          · intro val ac u hR hp ha K hK      -- 16: t39 := Op.extract t23 0
            obtain ⟨w23, h23, r23⟩ := hp 15 (by decide)
            have e23 : (ac.tmps[23]?).getD undef = .tuple #[S nx.1, .bool nx.2] := (ha 23 (by decide)).trans h23
            clear h23
            clear ha hp
            refine Reg.Op1.plain rfl ?_
            go_wp2
            exact ⟨rfl, hK _ _ rfl (fun j k _ _ => Reg.One2.refl _ _ _ _ _ _ _)⟩
          · intro val ac u hR hp ha K hK      -- 17: t40 := Op.extract t23 1
            obtain ⟨w23, h23, r23⟩ := hp 15 (by decide)
            have e23 : (ac.tmps[23]?).getD undef = .tuple #[S nx.1, .bool nx.2] := (ha 23 (by decide)).trans h23
            clear h23
            clear ha hp
            refine Reg.Op1.plain rfl ?_
            go_wp2
            exact ⟨rfl, hK _ _ rfl (fun j k _ _ => Reg.One2.refl _ _ _ _ _ _ _)⟩
          · intro val ac u hR hp ha K hK      -- 18: t7 := Op.alloc 23
            clear ha hp
            refine Reg.Op1.plain rfl ?_
            have hbu := (hR.weak (Nat.le_refl _)).size
            go_wp2
            exact ⟨rfl, hK _ _ ⟨u.heap.size, rfl, hbu, Box.new u ⟨0, 0, 0⟩ rfl⟩ (fun j k _ _ => Reg.One2.adds (Reg.below_new _ _) hbu)⟩
          · intro val ac u hR hp ha K hK      -- 19: Op.store 23 t7 t39
            obtain ⟨w7, h7, r7⟩ := hp 18 (by decide)
            have e7 : (ac.tmps[7]?).getD undef = val 18 := ha 7 (by decide)
            obtain ⟨w39, h39, r39⟩ := hp 16 (by decide)
            have e39 : (ac.tmps[39]?).getD undef = S nx.1 := (ha 39 (by decide)).trans h39
            clear h39
            clear ha hp
            refine Reg.Op1.plain rfl ?_
            obtain ⟨s, hv, hs, hbx⟩ := h7
            have hv7 := hv
            rw [hv] at e7
            have hbx2 := hbx.below r7.toM hbx.lt
            have x0 := hbx2.c0
            have x1 := hbx2.c1
            have x2 := hbx2.c2
            have xf := hbx2.fr
            go_wp2
            exact ⟨rfl, hK undef _ ⟨s, hv7, hs, hbx2.set nx.1⟩ (Reg.One2.writer ((((Below.refl _ _).setCell hs _).setCell hs _).setCell hs _) (by decide) (by decide +kernel) (by decide +kernel))⟩
          · intro val ac u hR hp ha K hK      -- 20: t8 := Op.assign t40
            obtain ⟨w40, h40, r40⟩ := hp 17 (by decide)
            have e40 : (ac.tmps[40]?).getD undef = .bool nx.2 := (ha 40 (by decide)).trans h40
            clear h40
            clear ha hp
            refine Reg.Op1.plain rfl ?_
            go_wp2
            exact ⟨rfl, hK _ _ rfl (fun j k _ _ => Reg.One2.refl _ _ _ _ _ _ _)⟩
        · intro val u hR H
          rename World => W2
          obtain ⟨wA, ⟨s, hv7, hs, _⟩, _⟩ := H 18 (by decide)
          obtain ⟨wB, ⟨s', hf7, hs', hbx⟩, rB⟩ := H 19 (by decide)
          have hf7 : val 18 = .pointer (some ⟨s', 0, none⟩) := hf7
          obtain rfl : s' = s := by have := hf7.symm.trans hv7; simpa using this
          obtain ⟨wC, hv8, _⟩ := H 20 (by decide)
          have hv8 : val 20 = .bool nx.2 := hv8
          have HS := Lib.hid (hbx.below (rB.fromM (by decide) (by decide)) hbx.lt)
          have hbu := (Below.refl wr.heap.size wr).drew.trans (hR.weak (Nat.le_refl _))
          have HBu := Lib.hid (HB.out.trans (hbu.mono hz))
          have HXu := Lib.hid (HX.out.below hbu hgl)
          have c0 := (HBu.out.cell (p := ⟨b, q + k * 3, none⟩) hb).trans C0.out
          have c1 := (HBu.out.cell (p := ⟨b, q + k * 3 + 1, none⟩) hb).trans C1.out
          have y0 := HXu.out.c0
          have hz2 := HBu.out.size
          have hsw := HS.out.lt
          have hne : w1.heap.size < s' := by omega
          simp only [List.map_cons, List.map_nil, Reg.lay, Act.put, List.setIfInBounds_toArray, List.set_cons_succ, List.set_cons_zero, Nat.reduceAdd, hv8, hv7]
          clear hv7 hf7 hv8 hbx rB hbu H hR hs hs'
          cases hgd : good l x.c x.d seen
          · obtain rfl : nx = (⟨0, 0, 0⟩, false) := HN.out.symm.trans (next_bad HL.out.1 hgd)
            have hrel : Rel w ss.length w1.heap.size (.int .i64 ((k : Int) + 1)) W2 := ⟨k + 1, l, by omega, by go_num, HL, HBu, HXu⟩
            have HREL := Lib.hid hrel
            have harms := bad_arms hgd
            clear hgd hrel
            rcases harms with d1 | ⟨d1, d2⟩ | ⟨d1, d2, d3⟩ | ⟨d1, d2, d3, d4⟩ | ⟨d1, d2, d3, d4, d5⟩ | ⟨d1, d2, d3, d4, d5, d6⟩
            all_goals
              go_wp2
              go_roundw
              · exact HREL.out
              · simp [intOf]; omega
          · obtain rfl : nx = (⟨max l.c seen + 1, x.c, x.d⟩, true) := HN.out.symm.trans (next_good HL.out.1 hgd)
            obtain ⟨d1, d2, d3, d4, d5, d6⟩ := good_arm hgd
            have hMl : l.c < max l.c seen + 1 ∧ seen < max l.c seen + 1 ∧ max l.c seen + 1 ≤ 1099511627776 := by simp only [decide_eq_true_eq] at d5 d6; omega
            obtain ⟨M, hM⟩ : ∃ M, max l.c seen + 1 = M := ⟨_, rfl⟩
            rw [hM] at hMl
            simp only [hM] at HS
            have hcmp : 0 < cmpS ⟨M, x.c, x.d⟩ l := cmpS_pos hMl.1
            have hcd : decide (cmpS ⟨M, x.c, x.d⟩ l ≤ 0) = false := by simp; omega
            have hsd : decide (M ≤ seen) = false := by simp; omega
            have HML := Lib.hid hMl
            have HCM := Lib.hid hcmp
            clear hMl hcmp hM HN hgd
            go_wp2
            have hz3 := hz2
            refine Reg.wp_region_rel (by kernel_rfl) 124 38 rfl rfl (by kernel_rfl) (Reg.Adds) (Reg.Adds.refl) (Reg.Adds.trans)
              (fun i v u => match i with
                | 0 => v = S ⟨M, x.c, x.d⟩
                | 1 => v = S l
                | 2 => v = .int .i64 (cmpS ⟨M, x.c, x.d⟩ l)
                | 3 => v = .bool false
                | 4 => v = .bool false
                | 5 => v = .pointer (some ⟨s', 0, none⟩)
                | 6 => v = .int .i64 M
                | 7 => v = .int .i64 seen
                | 8 => v = .bool false
                | 9 => v = .bool false
                | 10 => v = .bool false
                | 11 => v = .pointer (some ⟨s', 1, none⟩)
                | 12 => v = .int .i64 x.c
                | 13 => v = .slice (some ⟨b, q, none⟩) ss.length c
                | 14 => v = .int .i64 k
                | 15 => v = .pointer (some ⟨b, q + k * 3, none⟩)
                | 16 => v = .pointer (some ⟨b, q + k * 3, none⟩)
                | 17 => v = .int .i64 x.c
                | 18 => v = .bool false
                | 19 => v = .bool false
                | 20 => v = .bool false
                | 21 => v = .pointer (some ⟨s', 2, none⟩)
                | 22 => v = .int .i64 x.d
                | 23 => v = .slice (some ⟨b, q, none⟩) ss.length c
                | 24 => v = .int .i64 k
                | 25 => v = .pointer (some ⟨b, q + k * 3, none⟩)
                | 26 => v = .pointer (some ⟨b, q + k * 3 + 1, none⟩)
                | 27 => v = .int .i64 x.d
                | 28 => v = .bool false
                | 29 => v = .bool false
                | 30 => v = .bool false
                | 31 => v = S l
                | 32 => v = S ⟨M, x.c, x.d⟩
                | 33 => ∃ y, v = .slice (some ⟨y, 0, none⟩) 2 2 ∧ Mem.Rd u (y + 1) (some ⟨y, 0, none⟩) ([l, (⟨M, x.c, x.d⟩ : St)].flatMap stCells) ∧ y + 1 ≤ u.heap.size
                | 34 => v = S ⟨M, x.c, x.d⟩
                | 35 => v = S ⟨M, x.c, x.d⟩
                | 36 => v = .bool false
                | 37 => v = .bool false
                | _ => True) ?_ ?_
            · refine Reg.Steps.cons ?_ (Reg.Steps.cons ?_ (Reg.Steps.cons ?_ (Reg.Steps.cons ?_ (Reg.Steps.cons ?_ (Reg.Steps.cons ?_ (Reg.Steps.cons ?_ (Reg.Steps.cons ?_ (Reg.Steps.cons ?_ (Reg.Steps.cons ?_ (Reg.Steps.cons ?_ (Reg.Steps.cons ?_ (Reg.Steps.cons ?_ (Reg.Steps.cons ?_ (Reg.Steps.cons ?_ (Reg.Steps.cons ?_ (Reg.Steps.cons ?_ (Reg.Steps.cons ?_ (Reg.Steps.cons ?_ (Reg.Steps.cons ?_ (Reg.Steps.cons ?_ (Reg.Steps.cons ?_ (Reg.Steps.cons ?_ (Reg.Steps.cons ?_ (Reg.Steps.cons ?_ (Reg.Steps.cons ?_ (Reg.Steps.cons ?_ (Reg.Steps.cons ?_ (Reg.Steps.cons ?_ (Reg.Steps.cons ?_ (Reg.Steps.cons ?_ (Reg.Steps.cons ?_ (Reg.Steps.cons ?_ (Reg.Steps.cons ?_ (Reg.Steps.cons ?_ (Reg.Steps.cons ?_ (Reg.Steps.cons ?_ (Reg.Steps.cons ?_ (Reg.Steps.nil _))))))))))))))))))))))))))))))))))))))
              · intro val ac u hR hp ha K hK      -- 0: t85 := Op.load 23 t7
                have e7 : (ac.tmps[7]?).getD undef = .pointer (some ⟨s', 0, none⟩) := ha 7 (by decide)
                clear ha hp
                refine Reg.Op1.plain rfl ?_
                have hbx := HS.out.below ((Below.refl W2.heap.size W2).drew.trans (Below.mono hR (Nat.le_refl _))) hsw
                have x0 := hbx.c0
                have x1 := hbx.c1
                have x2 := hbx.c2
                clear hbx
                go_wp2
                exact ⟨rfl, hK _ _ rfl (fun j k _ _ => Reg.Adds.refl _ _ _)⟩
              · intro val ac u hR hp ha K hK      -- 1: t86 := Op.load 23 t5
                have e5 : (ac.tmps[5]?).getD undef = .pointer (some ⟨w1.heap.size, 0, none⟩) := ha 5 (by decide)
                clear ha hp
                refine Reg.Op1.plain rfl ?_
                have hbx := HXu.out.below ((Below.refl W2.heap.size W2).drew.trans (Below.mono hR (Nat.le_refl _))) HXu.out.lt
                have x0 := hbx.c0
                have x1 := hbx.c1
                have x2 := hbx.c2
                clear hbx
                go_wp2
                exact ⟨rfl, hK _ _ rfl (fun j k _ _ => Reg.Adds.refl _ _ _)⟩
              · intro val ac u hR hp ha K hK      -- 2: t87 := Op.call { value (Operand.func 12), args := #[t85, t86], argTypes := #[23, 23] }
                obtain ⟨w85, h85, r85⟩ := hp 0 (by decide)
                have e85 : (ac.tmps[85]?).getD undef = S ⟨M, x.c, x.d⟩ := (ha 85 (by decide)).trans h85
                clear h85
                obtain ⟨w86, h86, r86⟩ := hp 1 (by decide)
                have e86 : (ac.tmps[86]?).getD undef = S l := (ha 86 (by decide)).trans h86
                clear h86
                clear ha hp
                refine Reg.Op1.plain rfl ?_
                go_wp2_with fail
                refine (cmp_any ⟨M, x.c, x.d⟩ l _).mono ?_
                rintro e w' ⟨rfl, hb'⟩
                go_wp2_with fail
                exact ⟨rfl, hK _ _ rfl (fun j k _ _ => hb')⟩
              · intro val ac u hR hp ha K hK      -- 3: t88 := Op.binOp BinOp.leq 3 t87 (const (0:i64)) 3
                obtain ⟨w87, h87, r87⟩ := hp 2 (by decide)
                have e87 : (ac.tmps[87]?).getD undef = .int .i64 (cmpS ⟨M, x.c, x.d⟩ l) := (ha 87 (by decide)).trans h87
                clear h87
                clear ha hp
                refine Reg.Op1.plain rfl ?_
                go_wp2
                exact ⟨rfl, hK _ _ rfl (fun j k _ _ => Reg.Adds.refl _ _ _)⟩
              · intro val ac u hR hp ha K hK      -- 4: t89 := Op.move t88
                obtain ⟨w88, h88, r88⟩ := hp 3 (by decide)
                have e88 : (ac.tmps[88]?).getD undef = .bool false := (ha 88 (by decide)).trans h88
                clear h88
                clear ha hp
                refine Reg.Op1.plain rfl ?_
                go_wp2
                exact ⟨rfl, hK _ _ rfl (fun j k _ _ => Reg.Adds.refl _ _ _)⟩
              · intro val ac u hR hp ha K hK      -- 5: t90 := Op.fieldAddr 23 t7 0
                have e7 : (ac.tmps[7]?).getD undef = .pointer (some ⟨s', 0, none⟩) := ha 7 (by decide)
                obtain ⟨w89, h89, r89⟩ := hp 4 (by decide)
                have e89 : (ac.tmps[89]?).getD undef = .bool false := (ha 89 (by decide)).trans h89
                clear h89
                clear ha hp
                refine Reg.Op1.guarded rfl rfl e89 (fun _ => Reg.Op1.plain rfl ?_) (fun h => absurd rfl h)
                go_wp2
                exact ⟨rfl, hK _ _ rfl (fun j k _ _ => Reg.Adds.refl _ _ _)⟩
              · intro val ac u hR hp ha K hK      -- 6: t91 := Op.load 3 t90
                obtain ⟨w90, h90, r90⟩ := hp 5 (by decide)
                have e90 : (ac.tmps[90]?).getD undef = .pointer (some ⟨s', 0, none⟩) := (ha 90 (by decide)).trans h90
                clear h90
                obtain ⟨w89, h89, r89⟩ := hp 4 (by decide)
                have e89 : (ac.tmps[89]?).getD undef = .bool false := (ha 89 (by decide)).trans h89
                clear h89
                clear ha hp
                refine Reg.Op1.guarded rfl rfl e89 (fun _ => Reg.Op1.plain rfl ?_) (fun h => absurd rfl h)
                have hbx := HS.out.below ((Below.refl W2.heap.size W2).drew.trans (Below.mono hR (Nat.le_refl _))) hsw
                have x0 := hbx.c0
                clear hbx
                go_wp2
                exact ⟨rfl, hK _ _ rfl (fun j k _ _ => Reg.Adds.refl _ _ _)⟩
              · intro val ac u hR hp ha K hK      -- 7: t92 := Op.move t1
                have e1 : (ac.tmps[1]?).getD undef = .int .i64 seen := ha 1 (by decide)
                obtain ⟨w89, h89, r89⟩ := hp 4 (by decide)
                have e89 : (ac.tmps[89]?).getD undef = .bool false := (ha 89 (by decide)).trans h89
                clear h89
                clear ha hp
                refine Reg.Op1.guarded rfl rfl e89 (fun _ => Reg.Op1.plain rfl ?_) (fun h => absurd rfl h)
                go_wp2
                exact ⟨rfl, hK _ _ rfl (fun j k _ _ => Reg.Adds.refl _ _ _)⟩
              · intro val ac u hR hp ha K hK      -- 8: t93 := Op.binOp BinOp.leq 3 t91 t92 3
                obtain ⟨w91, h91, r91⟩ := hp 6 (by decide)
                have e91 : (ac.tmps[91]?).getD undef = .int .i64 M := (ha 91 (by decide)).trans h91
                clear h91
                obtain ⟨w92, h92, r92⟩ := hp 7 (by decide)
                have e92 : (ac.tmps[92]?).getD undef = .int .i64 seen := (ha 92 (by decide)).trans h92
                clear h92
                obtain ⟨w89, h89, r89⟩ := hp 4 (by decide)
                have e89 : (ac.tmps[89]?).getD undef = .bool false := (ha 89 (by decide)).trans h89
                clear h89
                clear ha hp
                refine Reg.Op1.guarded rfl rfl e89 (fun _ => Reg.Op1.plain rfl ?_) (fun h => absurd rfl h)
                go_wp2
                exact ⟨rfl, hK _ _ rfl (fun j k _ _ => Reg.Adds.refl _ _ _)⟩
              · intro val ac u hR hp ha K hK      -- 9: t94 := Op.pick t89 (const (Value.bool true)) t93
                obtain ⟨w89, h89, r89⟩ := hp 4 (by decide)
                have e89 : (ac.tmps[89]?).getD undef = .bool false := (ha 89 (by decide)).trans h89
                clear h89
                obtain ⟨w93, h93, r93⟩ := hp 8 (by decide)
                have e93 : (ac.tmps[93]?).getD undef = .bool false := (ha 93 (by decide)).trans h93
                clear h93
                clear ha hp
                refine Reg.Op1.plain rfl ?_
                go_wp2
                exact ⟨rfl, hK _ _ rfl (fun j k _ _ => Reg.Adds.refl _ _ _)⟩
              · intro val ac u hR hp ha K hK      -- 10: t95 := Op.move t94
                obtain ⟨w94, h94, r94⟩ := hp 9 (by decide)
                have e94 : (ac.tmps[94]?).getD undef = .bool false := (ha 94 (by decide)).trans h94
                clear h94
                clear ha hp
                refine Reg.Op1.plain rfl ?_
                go_wp2
                exact ⟨rfl, hK _ _ rfl (fun j k _ _ => Reg.Adds.refl _ _ _)⟩
              · intro val ac u hR hp ha K hK      -- 11: t96 := Op.fieldAddr 23 t7 1
                have e7 : (ac.tmps[7]?).getD undef = .pointer (some ⟨s', 0, none⟩) := ha 7 (by decide)
                obtain ⟨w95, h95, r95⟩ := hp 10 (by decide)
                have e95 : (ac.tmps[95]?).getD undef = .bool false := (ha 95 (by decide)).trans h95
                clear h95
                clear ha hp
                refine Reg.Op1.guarded rfl rfl e95 (fun _ => Reg.Op1.plain rfl ?_) (fun h => absurd rfl h)
                go_wp2
                exact ⟨rfl, hK _ _ rfl (fun j k _ _ => Reg.Adds.refl _ _ _)⟩
              · intro val ac u hR hp ha K hK      -- 12: t97 := Op.load 3 t96
                obtain ⟨w96, h96, r96⟩ := hp 11 (by decide)
                have e96 : (ac.tmps[96]?).getD undef = .pointer (some ⟨s', 1, none⟩) := (ha 96 (by decide)).trans h96
                clear h96
                obtain ⟨w95, h95, r95⟩ := hp 10 (by decide)
                have e95 : (ac.tmps[95]?).getD undef = .bool false := (ha 95 (by decide)).trans h95
                clear h95
                clear ha hp
                refine Reg.Op1.guarded rfl rfl e95 (fun _ => Reg.Op1.plain rfl ?_) (fun h => absurd rfl h)
                have hbx := HS.out.below ((Below.refl W2.heap.size W2).drew.trans (Below.mono hR (Nat.le_refl _))) hsw
                have x0 := hbx.c1
                clear hbx
                go_wp2
                exact ⟨rfl, hK _ _ rfl (fun j k _ _ => Reg.Adds.refl _ _ _)⟩
              · intro val ac u hR hp ha K hK      -- 13: t98 := Op.move t0
                have e0 : (ac.tmps[0]?).getD undef = .slice (some ⟨b, q, none⟩) ss.length c := ha 0 (by decide)
                obtain ⟨w95, h95, r95⟩ := hp 10 (by decide)
                have e95 : (ac.tmps[95]?).getD undef = .bool false := (ha 95 (by decide)).trans h95
                clear h95
                clear ha hp
                refine Reg.Op1.guarded rfl rfl e95 (fun _ => Reg.Op1.plain rfl ?_) (fun h => absurd rfl h)
                go_wp2
                exact ⟨rfl, hK _ _ rfl (fun j k _ _ => Reg.Adds.refl _ _ _)⟩
              · intro val ac u hR hp ha K hK      -- 14: t99 := Op.move t6
                have e6 : (ac.tmps[6]?).getD undef = .int .i64 k := ha 6 (by decide)
                obtain ⟨w95, h95, r95⟩ := hp 10 (by decide)
                have e95 : (ac.tmps[95]?).getD undef = .bool false := (ha 95 (by decide)).trans h95
                clear h95
                clear ha hp
                refine Reg.Op1.guarded rfl rfl e95 (fun _ => Reg.Op1.plain rfl ?_) (fun h => absurd rfl h)
                go_wp2
                exact ⟨rfl, hK _ _ rfl (fun j k _ _ => Reg.Adds.refl _ _ _)⟩
              · intro val ac u hR hp ha K hK      -- 15: t100 := Op.indexAddr 39 t98 t99
                obtain ⟨w98, h98, r98⟩ := hp 13 (by decide)
                have e98 : (ac.tmps[98]?).getD undef = .slice (some ⟨b, q, none⟩) ss.length c := (ha 98 (by decide)).trans h98
                clear h98
                obtain ⟨w99, h99, r99⟩ := hp 14 (by decide)
                have e99 : (ac.tmps[99]?).getD undef = .int .i64 k := (ha 99 (by decide)).trans h99
                clear h99
                obtain ⟨w95, h95, r95⟩ := hp 10 (by decide)
                have e95 : (ac.tmps[95]?).getD undef = .bool false := (ha 95 (by decide)).trans h95
                clear h95
                clear ha hp
                refine Reg.Op1.guarded rfl rfl e95 (fun _ => Reg.Op1.plain rfl ?_) (fun h => absurd rfl h)
                go_wp2
                exact ⟨rfl, hK _ _ rfl (fun j k _ _ => Reg.Adds.refl _ _ _)⟩
              · intro val ac u hR hp ha K hK      -- 16: t101 := Op.fieldAddr 41 t100 0
                obtain ⟨w100, h100, r100⟩ := hp 15 (by decide)
                have e100 : (ac.tmps[100]?).getD undef = .pointer (some ⟨b, q + k * 3, none⟩) := (ha 100 (by decide)).trans h100
                clear h100
                obtain ⟨w95, h95, r95⟩ := hp 10 (by decide)
                have e95 : (ac.tmps[95]?).getD undef = .bool false := (ha 95 (by decide)).trans h95
                clear h95
                clear ha hp
                refine Reg.Op1.guarded rfl rfl e95 (fun _ => Reg.Op1.plain rfl ?_) (fun h => absurd rfl h)
                go_wp2
                exact ⟨rfl, hK _ _ rfl (fun j k _ _ => Reg.Adds.refl _ _ _)⟩
              · intro val ac u hR hp ha K hK      -- 17: t102 := Op.load 3 t101
                obtain ⟨w101, h101, r101⟩ := hp 16 (by decide)
                have e101 : (ac.tmps[101]?).getD undef = .pointer (some ⟨b, q + k * 3, none⟩) := (ha 101 (by decide)).trans h101
                clear h101
                obtain ⟨w95, h95, r95⟩ := hp 10 (by decide)
                have e95 : (ac.tmps[95]?).getD undef = .bool false := (ha 95 (by decide)).trans h95
                clear h95
                clear ha hp
                refine Reg.Op1.guarded rfl rfl e95 (fun _ => Reg.Op1.plain rfl ?_) (fun h => absurd rfl h)
                have hbu := HBu.out.trans (((Below.refl W2.heap.size W2).drew.trans (Below.mono hR (Nat.le_refl _))).mono hz2)
                have x0 := (hbu.cell (p := ⟨b, q + k * 3, none⟩) hb).trans C0.out
                clear hbu
                go_wp2
                exact ⟨rfl, hK _ _ rfl (fun j k _ _ => Reg.Adds.refl _ _ _)⟩
              · intro val ac u hR hp ha K hK      -- 18: t103 := Op.binOp BinOp.neq 3 t97 t102 3
                obtain ⟨w97, h97, r97⟩ := hp 12 (by decide)
                have e97 : (ac.tmps[97]?).getD undef = .int .i64 x.c := (ha 97 (by decide)).trans h97
                clear h97
                obtain ⟨w102, h102, r102⟩ := hp 17 (by decide)
                have e102 : (ac.tmps[102]?).getD undef = .int .i64 x.c := (ha 102 (by decide)).trans h102
                clear h102
                obtain ⟨w95, h95, r95⟩ := hp 10 (by decide)
                have e95 : (ac.tmps[95]?).getD undef = .bool false := (ha 95 (by decide)).trans h95
                clear h95
                clear ha hp
                refine Reg.Op1.guarded rfl rfl e95 (fun _ => Reg.Op1.plain rfl ?_) (fun h => absurd rfl h)
                go_wp2
                exact ⟨rfl, hK _ _ rfl (fun j k _ _ => Reg.Adds.refl _ _ _)⟩
              · intro val ac u hR hp ha K hK      -- 19: t104 := Op.pick t95 (const (Value.bool true)) t103
                obtain ⟨w95, h95, r95⟩ := hp 10 (by decide)
                have e95 : (ac.tmps[95]?).getD undef = .bool false := (ha 95 (by decide)).trans h95
                clear h95
                obtain ⟨w103, h103, r103⟩ := hp 18 (by decide)
                have e103 : (ac.tmps[103]?).getD undef = .bool false := (ha 103 (by decide)).trans h103
                clear h103
                clear ha hp
                refine Reg.Op1.plain rfl ?_
                go_wp2
                exact ⟨rfl, hK _ _ rfl (fun j k _ _ => Reg.Adds.refl _ _ _)⟩
              · intro val ac u hR hp ha K hK      -- 20: t105 := Op.move t104
                obtain ⟨w104, h104, r104⟩ := hp 19 (by decide)
                have e104 : (ac.tmps[104]?).getD undef = .bool false := (ha 104 (by decide)).trans h104
                clear h104
                clear ha hp
                refine Reg.Op1.plain rfl ?_
                go_wp2
                exact ⟨rfl, hK _ _ rfl (fun j k _ _ => Reg.Adds.refl _ _ _)⟩
              · intro val ac u hR hp ha K hK      -- 21: t106 := Op.fieldAddr 23 t7 2
                have e7 : (ac.tmps[7]?).getD undef = .pointer (some ⟨s', 0, none⟩) := ha 7 (by decide)
                obtain ⟨w105, h105, r105⟩ := hp 20 (by decide)
                have e105 : (ac.tmps[105]?).getD undef = .bool false := (ha 105 (by decide)).trans h105
                clear h105
                clear ha hp
                refine Reg.Op1.guarded rfl rfl e105 (fun _ => Reg.Op1.plain rfl ?_) (fun h => absurd rfl h)
                go_wp2
                exact ⟨rfl, hK _ _ rfl (fun j k _ _ => Reg.Adds.refl _ _ _)⟩
              · intro val ac u hR hp ha K hK      -- 22: t107 := Op.load 3 t106
                obtain ⟨w106, h106, r106⟩ := hp 21 (by decide)
                have e106 : (ac.tmps[106]?).getD undef = .pointer (some ⟨s', 2, none⟩) := (ha 106 (by decide)).trans h106
                clear h106
                obtain ⟨w105, h105, r105⟩ := hp 20 (by decide)
                have e105 : (ac.tmps[105]?).getD undef = .bool false := (ha 105 (by decide)).trans h105
                clear h105
                clear ha hp
                refine Reg.Op1.guarded rfl rfl e105 (fun _ => Reg.Op1.plain rfl ?_) (fun h => absurd rfl h)
                have hbx := HS.out.below ((Below.refl W2.heap.size W2).drew.trans (Below.mono hR (Nat.le_refl _))) hsw
                have x0 := hbx.c2
                clear hbx
                go_wp2
                exact ⟨rfl, hK _ _ rfl (fun j k _ _ => Reg.Adds.refl _ _ _)⟩
              · intro val ac u hR hp ha K hK      -- 23: t108 := Op.move t0
                have e0 : (ac.tmps[0]?).getD undef = .slice (some ⟨b, q, none⟩) ss.length c := ha 0 (by decide)
                obtain ⟨w105, h105, r105⟩ := hp 20 (by decide)
                have e105 : (ac.tmps[105]?).getD undef = .bool false := (ha 105 (by decide)).trans h105
                clear h105
                clear ha hp
                refine Reg.Op1.guarded rfl rfl e105 (fun _ => Reg.Op1.plain rfl ?_) (fun h => absurd rfl h)
                go_wp2
                exact ⟨rfl, hK _ _ rfl (fun j k _ _ => Reg.Adds.refl _ _ _)⟩
              · intro val ac u hR hp ha K hK      -- 24: t109 := Op.move t6
                have e6 : (ac.tmps[6]?).getD undef = .int .i64 k := ha 6 (by decide)
                obtain ⟨w105, h105, r105⟩ := hp 20 (by decide)
                have e105 : (ac.tmps[105]?).getD undef = .bool false := (ha 105 (by decide)).trans h105
                clear h105
                clear ha hp
                refine Reg.Op1.guarded rfl rfl e105 (fun _ => Reg.Op1.plain rfl ?_) (fun h => absurd rfl h)
                go_wp2
                exact ⟨rfl, hK _ _ rfl (fun j k _ _ => Reg.Adds.refl _ _ _)⟩
              · intro val ac u hR hp ha K hK      -- 25: t110 := Op.indexAddr 39 t108 t109
                obtain ⟨w108, h108, r108⟩ := hp 23 (by decide)
                have e108 : (ac.tmps[108]?).getD undef = .slice (some ⟨b, q, none⟩) ss.length c := (ha 108 (by decide)).trans h108
                clear h108
                obtain ⟨w109, h109, r109⟩ := hp 24 (by decide)
                have e109 : (ac.tmps[109]?).getD undef = .int .i64 k := (ha 109 (by decide)).trans h109
                clear h109
                obtain ⟨w105, h105, r105⟩ := hp 20 (by decide)
                have e105 : (ac.tmps[105]?).getD undef = .bool false := (ha 105 (by decide)).trans h105
                clear h105
                clear ha hp
                refine Reg.Op1.guarded rfl rfl e105 (fun _ => Reg.Op1.plain rfl ?_) (fun h => absurd rfl h)
                go_wp2
                exact ⟨rfl, hK _ _ rfl (fun j k _ _ => Reg.Adds.refl _ _ _)⟩
              · intro val ac u hR hp ha K hK      -- 26: t111 := Op.fieldAddr 41 t110 1
                obtain ⟨w110, h110, r110⟩ := hp 25 (by decide)
                have e110 : (ac.tmps[110]?).getD undef = .pointer (some ⟨b, q + k * 3, none⟩) := (ha 110 (by decide)).trans h110
                clear h110
                obtain ⟨w105, h105, r105⟩ := hp 20 (by decide)
                have e105 : (ac.tmps[105]?).getD undef = .bool false := (ha 105 (by decide)).trans h105
                clear h105
                clear ha hp
                refine Reg.Op1.guarded rfl rfl e105 (fun _ => Reg.Op1.plain rfl ?_) (fun h => absurd rfl h)
                go_wp2
                exact ⟨rfl, hK _ _ rfl (fun j k _ _ => Reg.Adds.refl _ _ _)⟩
              · intro val ac u hR hp ha K hK      -- 27: t112 := Op.load 3 t111
                obtain ⟨w111, h111, r111⟩ := hp 26 (by decide)
                have e111 : (ac.tmps[111]?).getD undef = .pointer (some ⟨b, q + k * 3 + 1, none⟩) := (ha 111 (by decide)).trans h111
                clear h111
                obtain ⟨w105, h105, r105⟩ := hp 20 (by decide)
                have e105 : (ac.tmps[105]?).getD undef = .bool false := (ha 105 (by decide)).trans h105
                clear h105
                clear ha hp
                refine Reg.Op1.guarded rfl rfl e105 (fun _ => Reg.Op1.plain rfl ?_) (fun h => absurd rfl h)
                have hbu := HBu.out.trans (((Below.refl W2.heap.size W2).drew.trans (Below.mono hR (Nat.le_refl _))).mono hz2)
                have x0 := (hbu.cell (p := ⟨b, q + k * 3 + 1, none⟩) hb).trans C1.out
                clear hbu
                go_wp2
                exact ⟨rfl, hK _ _ rfl (fun j k _ _ => Reg.Adds.refl _ _ _)⟩
              · intro val ac u hR hp ha K hK      -- 28: t113 := Op.binOp BinOp.neq 3 t107 t112 3
                obtain ⟨w107, h107, r107⟩ := hp 22 (by decide)
                have e107 : (ac.tmps[107]?).getD undef = .int .i64 x.d := (ha 107 (by decide)).trans h107
                clear h107
                obtain ⟨w112, h112, r112⟩ := hp 27 (by decide)
                have e112 : (ac.tmps[112]?).getD undef = .int .i64 x.d := (ha 112 (by decide)).trans h112
                clear h112
                obtain ⟨w105, h105, r105⟩ := hp 20 (by decide)
                have e105 : (ac.tmps[105]?).getD undef = .bool false := (ha 105 (by decide)).trans h105
                clear h105
                clear ha hp
                refine Reg.Op1.guarded rfl rfl e105 (fun _ => Reg.Op1.plain rfl ?_) (fun h => absurd rfl h)
                go_wp2
                exact ⟨rfl, hK _ _ rfl (fun j k _ _ => Reg.Adds.refl _ _ _)⟩
              · intro val ac u hR hp ha K hK      -- 29: t114 := Op.pick t105 (const (Value.bool true)) t113
                obtain ⟨w105, h105, r105⟩ := hp 20 (by decide)
                have e105 : (ac.tmps[105]?).getD undef = .bool false := (ha 105 (by decide)).trans h105
                clear h105
                obtain ⟨w113, h113, r113⟩ := hp 28 (by decide)
                have e113 : (ac.tmps[113]?).getD undef = .bool false := (ha 113 (by decide)).trans h113
                clear h113
                clear ha hp
                refine Reg.Op1.plain rfl ?_
                go_wp2
                exact ⟨rfl, hK _ _ rfl (fun j k _ _ => Reg.Adds.refl _ _ _)⟩
              · intro val ac u hR hp ha K hK      -- 30: t115 := Op.move t114
                obtain ⟨w114, h114, r114⟩ := hp 29 (by decide)
                have e114 : (ac.tmps[114]?).getD undef = .bool false := (ha 114 (by decide)).trans h114
                clear h114
                clear ha hp
                refine Reg.Op1.plain rfl ?_
                go_wp2
                exact ⟨rfl, hK _ _ rfl (fun j k _ _ => Reg.Adds.refl _ _ _)⟩
              · intro val ac u hR hp ha K hK      -- 31: t116 := Op.load 23 t5
                have e5 : (ac.tmps[5]?).getD undef = .pointer (some ⟨w1.heap.size, 0, none⟩) := ha 5 (by decide)
                obtain ⟨w115, h115, r115⟩ := hp 30 (by decide)
                have e115 : (ac.tmps[115]?).getD undef = .bool false := (ha 115 (by decide)).trans h115
                clear h115
                clear ha hp
                refine Reg.Op1.guarded rfl rfl e115 (fun _ => Reg.Op1.plain rfl ?_) (fun h => absurd rfl h)
                have hbx := HXu.out.below ((Below.refl W2.heap.size W2).drew.trans (Below.mono hR (Nat.le_refl _))) HXu.out.lt
                have x0 := hbx.c0
                have x1 := hbx.c1
                have x2 := hbx.c2
                clear hbx
                go_wp2
                exact ⟨rfl, hK _ _ rfl (fun j k _ _ => Reg.Adds.refl _ _ _)⟩
              · intro val ac u hR hp ha K hK      -- 32: t117 := Op.load 23 t7
                have e7 : (ac.tmps[7]?).getD undef = .pointer (some ⟨s', 0, none⟩) := ha 7 (by decide)
                obtain ⟨w115, h115, r115⟩ := hp 30 (by decide)
                have e115 : (ac.tmps[115]?).getD undef = .bool false := (ha 115 (by decide)).trans h115
                clear h115
                clear ha hp
                refine Reg.Op1.guarded rfl rfl e115 (fun _ => Reg.Op1.plain rfl ?_) (fun h => absurd rfl h)
                have hbx := HS.out.below ((Below.refl W2.heap.size W2).drew.trans (Below.mono hR (Nat.le_refl _))) hsw
                have x0 := hbx.c0
                have x1 := hbx.c1
                have x2 := hbx.c2
                clear hbx
                go_wp2
                exact ⟨rfl, hK _ _ rfl (fun j k _ _ => Reg.Adds.refl _ _ _)⟩
              · intro val ac u hR hp ha K hK      -- 33: t118 := Op.buildSlice 34 2 #[(0, t116), (1, t117)]
                obtain ⟨w116, h116, r116⟩ := hp 31 (by decide)
                have e116 : (ac.tmps[116]?).getD undef = S l := (ha 116 (by decide)).trans h116
                clear h116
                obtain ⟨w117, h117, r117⟩ := hp 32 (by decide)
                have e117 : (ac.tmps[117]?).getD undef = S ⟨M, x.c, x.d⟩ := (ha 117 (by decide)).trans h117
                clear h117
                obtain ⟨w115, h115, r115⟩ := hp 30 (by decide)
                have e115 : (ac.tmps[115]?).getD undef = .bool false := (ha 115 (by decide)).trans h115
                clear h115
                clear ha hp
                refine Reg.Op1.guarded rfl rfl e115 (fun _ => Reg.Op1.plain rfl ?_) (fun h => absurd rfl h)
                go_wp2
                exact ⟨rfl, hK _ _ ⟨u.heap.size, rfl, Mem.Rd.alloc_new u _ _ _ rfl, by simp⟩ (fun j k _ _ => Reg.below_new _ _)⟩
              · intro val ac u hR hp ha K hK      -- 34: t119 := Op.call { value (Operand.func 16), args := #[t118], argTypes := #[34] }
                obtain ⟨w118, h118, r118⟩ := hp 33 (by decide)
                have e118 : (ac.tmps[118]?).getD undef = val 33 := ha 118 (by decide)
                obtain ⟨w115, h115, r115⟩ := hp 30 (by decide)
                have e115 : (ac.tmps[115]?).getD undef = .bool false := (ha 115 (by decide)).trans h115
                clear h115
                clear ha hp
                refine Reg.Op1.guarded rfl rfl e115 (fun _ => Reg.Op1.plain rfl ?_) (fun h => absurd rfl h)
                obtain ⟨y, hv, hrd, hy⟩ := h118
                rw [hv] at e118
                have hrd2 := (hrd.below (Below.mono r118 hy)).more (Nat.le_trans hy r118.size)
                go_wp2_with fail
                refine (max_any (some ⟨y, 0, none⟩) 2 [l, ⟨M, x.c, x.d⟩] _ _ hrd2 (Nat.le_refl _) (by simp [maxLen])).mono ?_
                rw [max2 l ⟨M, x.c, x.d⟩ HCM.out]
                rintro e w' ⟨rfl, hb'⟩
                go_wp2_with fail
                exact ⟨rfl, hK _ _ rfl (fun j k _ _ => hb')⟩
              · intro val ac u hR hp ha K hK      -- 35: t120 := Op.load 23 t7
                have e7 : (ac.tmps[7]?).getD undef = .pointer (some ⟨s', 0, none⟩) := ha 7 (by decide)
                obtain ⟨w115, h115, r115⟩ := hp 30 (by decide)
                have e115 : (ac.tmps[115]?).getD undef = .bool false := (ha 115 (by decide)).trans h115
                clear h115
                clear ha hp
                refine Reg.Op1.guarded rfl rfl e115 (fun _ => Reg.Op1.plain rfl ?_) (fun h => absurd rfl h)
                have hbx := HS.out.below ((Below.refl W2.heap.size W2).drew.trans (Below.mono hR (Nat.le_refl _))) hsw
                have x0 := hbx.c0
                have x1 := hbx.c1
                have x2 := hbx.c2
                clear hbx
                go_wp2
                exact ⟨rfl, hK _ _ rfl (fun j k _ _ => Reg.Adds.refl _ _ _)⟩
              · intro val ac u hR hp ha K hK      -- 36: t121 := Op.binOp BinOp.neq 23 t119 t120 23
                obtain ⟨w119, h119, r119⟩ := hp 34 (by decide)
                have e119 : (ac.tmps[119]?).getD undef = S ⟨M, x.c, x.d⟩ := (ha 119 (by decide)).trans h119
                clear h119
                obtain ⟨w120, h120, r120⟩ := hp 35 (by decide)
                have e120 : (ac.tmps[120]?).getD undef = S ⟨M, x.c, x.d⟩ := (ha 120 (by decide)).trans h120
                clear h120
                obtain ⟨w115, h115, r115⟩ := hp 30 (by decide)
                have e115 : (ac.tmps[115]?).getD undef = .bool false := (ha 115 (by decide)).trans h115
                clear h115
                clear ha hp
                have hnq := neq_stamp ⟨M, x.c, x.d⟩
                refine Reg.Op1.guarded rfl rfl e115 (fun _ => Reg.Op1.plain rfl ?_) (fun h => absurd rfl h)
                go_wp2
                exact ⟨rfl, hK _ _ rfl (fun j k _ _ => Reg.Adds.refl _ _ _)⟩
              · intro val ac u hR hp ha K hK      -- 37: t122 := Op.pick t115 (const (Value.bool true)) t121
                obtain ⟨w115, h115, r115⟩ := hp 30 (by decide)
                have e115 : (ac.tmps[115]?).getD undef = .bool false := (ha 115 (by decide)).trans h115
                clear h115
                obtain ⟨w121, h121, r121⟩ := hp 36 (by decide)
                have e121 : (ac.tmps[121]?).getD undef = .bool false := (ha 121 (by decide)).trans h121
                clear h121
                clear ha hp
                refine Reg.Op1.plain rfl ?_
                go_wp2
                exact ⟨rfl, hK _ _ rfl (fun j k _ _ => Reg.Adds.refl _ _ _)⟩
            · intro val u hR H
              rename World => W3
              obtain ⟨w122, hv, hr⟩ := H 37 (by decide)
              have hv : val 37 = .bool false := hv
              simp only [List.map_cons, List.map_nil, Reg.lay, Act.put, List.setIfInBounds_toArray, List.set_cons_succ, List.set_cons_zero, Nat.reduceAdd, hv]
              have hb3 := (Below.refl W2.heap.size W2).drew.trans (Below.mono hR (Nat.le_refl _))
              have HB3 := Lib.hid (HBu.out.trans (hb3.mono hz2))
              have HX3 := Lib.hid (HXu.out.below hb3 HXu.out.lt)
              have hs3 := HS.out.below hb3 hsw
              have x0 := hs3.c0
              have x1 := hs3.c1
              have x2 := hs3.c2
              have z0 := HX3.out.c0
              have z1 := HX3.out.c1
              have z2 := HX3.out.c2
              have zf := HX3.out.fr
              clear hs3 hb3 hv hr H hR y0 c0 c1
              go_wp2
              go_roundw
              case rel => exact ⟨k + 1, ⟨M, x.c, x.d⟩, by omega, by go_num, by have := HML.out; have := HL.out; show (0:Int) ≤ M ∧ M ≤ _; omega, ((HB3.out.setCell hg0 _).setCell hg0 _).setCell hg0 _, HX3.out.set ⟨M, x.c, x.d⟩⟩
              case measure => simp [intOf]; omega
      · have h3d : decide ((k : Int) < 3000) = false := by simp; omega
        go_wp2
        go_ret
        exact ⟨rfl, HB.out⟩
    · obtain rfl : k = ss.length := by omega
      go_wp2
      go_ret
      exact ⟨rfl, HB.out⟩
theorem opened {H : Type} (enc : TypeId × Value → H) (W : World) (base : Nat) (v0 v1 : Value) {d0 d1 : DataW H} {p0 p1 : List MemPlace}
    (o0 : Value.okWide Try.prog W .any base 39 v0) (o1 : Value.okWide Try.prog W .any base 3 v1)
    (k0 : DataW.Trod enc Try.prog W 0 (fun _ => true) true 39 v0 d0 p0) (k1 : DataW.Trod enc Try.prog W 0 (fun _ => true) true 3 v1 d1 p1) :
    Calls Try.prog 8 #[v0, v1] W fun e w' => e = .returned (.bool true) ∧ Below W.heap.size W w' := by
  obtain ⟨A, c, ss, rfl, h1, h2, h3⟩ := open_dots o0 k0
  obtain ⟨a1, rfl, rfl, rfl, w1⟩ := open_int Try.underlying3 o1 k1
  exact walk A c ss a1 W h3 (by omega)
end stampRowsOpen
end Go.Proofs.Ythoklehmbkjkbaa
