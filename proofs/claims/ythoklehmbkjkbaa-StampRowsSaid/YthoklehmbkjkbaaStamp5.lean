/- The walk of StampBehind: Next is greater than each stamp whose count was seen, and right; two chains never make the same. No conditions. -/
import Derived.Test.YthoklehmbkjkbaaStamp4
import Derived.Test.YthoklehmbkjkbaaOpen
namespace Go.Proofs.Ythoklehmbkjkbaa
open Go.ChangeShapes Go.WideShapes Go.ChangeAt Go.RowKit
set_option linter.unusedVariables false

namespace Stamp
/-- a stamp's cells -/
def stCells (s : St) : List Value := [.int .i64 s.c, .int .i64 s.d, .int .i64 s.r]
theorem stCells_length (s : St) : (stCells s).length = 3 := rfl
theorem topOf_ge (zs : List Int) : ∀ z ∈ zs, z ≤ topOf zs := by
  have h : ∀ (l : List Int) (m : Int), m ≤ l.foldl max m ∧ ∀ z ∈ l, z ≤ l.foldl max m := by
    intro l
    induction l with
    | nil => intro m; exact ⟨Int.le_refl _, fun z hz => by cases hz⟩
    | cons x l ih =>
      intro m
      obtain ⟨h1, h2⟩ := ih (max m x)
      refine ⟨Int.le_trans (Int.le_max_left m x) h1, fun z hz => ?_⟩
      rcases List.mem_cons.1 hz with rfl | hz
      · exact Int.le_trans (Int.le_max_right m z) h1
      · exact h2 z hz
  exact (h zs 0).2
theorem nextS_fine {dc rng : Int} {zs : List Int} (h : (nextS dc rng zs).2 = true) : (nextS dc rng zs).1 = ⟨topOf zs + 1, dc, rng⟩ ∧ right ⟨topOf zs + 1, dc, rng⟩ = true := by
  unfold nextS at *
  split at h
  · rename_i hr
    rw [if_pos hr]
    have : min (topOf zs) 1099511627776 = topOf zs := by unfold right at hr; simp at hr; omega
    rw [this] at hr ⊢
    exact ⟨rfl, hr⟩
  · cases h
theorem nextS_not {dc rng : Int} {zs : List Int} (h : (nextS dc rng zs).2 = false) : (nextS dc rng zs).1 = ⟨0, 0, 0⟩ := by
  unfold nextS at *
  split at h
  · cases h
  · rename_i hr; rw [if_neg hr]
theorem cmpS_pos {a b : St} (h : b.c < a.c) : 0 < cmpS a b := by
  rw [show cmpS a b = 1 from cmpS_gt.2 (.inl h)]; omega
end Stamp

theorem open_stamps {H : Type} {enc : TypeId × Value → H} {W : World} {base : Nat} {v : Value} {d : DataW H} {p : List MemPlace} (o : Value.okWide Try.prog W .any base 34 v) (k : DataW.Trod enc Try.prog W 0 (fun _ => true) true 34 v d p) :
    ∃ A c, ∃ ss : List Stamp.St, v = .slice A ss.length c ∧ ss.length ≤ c ∧ c ≤ maxLen ∧ Mem.Rd W W.heap.size A (ss.flatMap Stamp.stCells) := by
  obtain ⟨A, c, l, h1, h2, h3, h4, _⟩ := Mem.open_slice_of (α := Stamp.St) (sz := 3) Try.underlying34 (by kernel_rfl) (by omega) Stamp.stCells Stamp.stCells_length (fun _ => True) (fun n cs x h hl => by
    obtain ⟨m0, y0, e0⟩ := Mem.field1 Try.underlying23 h 0 _ rfl
    obtain ⟨m1, y1, e1⟩ := Mem.field1 Try.underlying23 h 1 _ rfl
    obtain ⟨m2, y2, e2⟩ := Mem.field1 Try.underlying23 h 2 _ rfl
    obtain ⟨a0, q0, _⟩ := DataW.trod_int Try.underlying3 e0
    obtain ⟨a1, q1, _⟩ := DataW.trod_int Try.underlying3 e1
    obtain ⟨a2, q2, _⟩ := DataW.trod_int Try.underlying3 e2
    have k1 : Try.prog.cellsOf 3 = 1 := by kernel_rfl
    match cs, hl with
    | [x0, x1, x2], _ =>
      simp [k1] at q0 q1 q2
      exact ⟨⟨a0, a1, a2⟩, by rw [q0, q1, q2]; rfl, trivial⟩) o k
  exact ⟨A, c, l, h1, h2, h3, h4⟩
theorem Stamp.elem {w : World} {B : Nat} {A : Option Addr} {l : List Stamp.St} (h : Mem.Rd w B A (l.flatMap Stamp.stCells)) {k : Nat} (hk : k < l.length) :
    ∃ b o s, A = some ⟨b, o, none⟩ ∧ b < B ∧ l[k]? = some s ∧ w.cell? ⟨b, o + k * 3, none⟩ = some (.int .i64 s.c) ∧ w.cell? ⟨b, o + k * 3 + 1, none⟩ = some (.int .i64 s.d) ∧ w.cell? ⟨b, o + k * 3 + 2, none⟩ = some (.int .i64 s.r) := by
  obtain ⟨b, o, e, hb, hc⟩ := Mem.Rd.elem Stamp.stCells_length h hk (by omega)
  exact ⟨b, o, l[k], e, hb, List.getElem?_eq_getElem hk, by simpa using hc 0 _ rfl, by simpa [Nat.add_assoc] using hc 1 _ rfl, by simpa [Nat.add_assoc] using hc 2 _ rfl⟩

theorem nextN {zs : List Int} (n : Nat) (hl : zs.length = n) (dc rng : Int) (A : Option Addr) (c : Nat) (B : Nat) (w : World) (hr : Mem.Rd w B A (zs.map Stamp.intV)) (hB : B ≤ w.heap.size) (hn : n ≤ maxLen) :
    Calls Try.prog 14 #[.int .i64 dc, .int .i64 rng, .slice A n c] w fun e w' => e = .returned (.tuple #[Stamp.S (Stamp.nextS dc rng zs).1, .bool (Stamp.nextS dc rng zs).2]) ∧ Below w.heap.size w w' := by
  subst hl
  exact next_any dc rng A c zs B w hr hB hn
namespace stampBehindOpen
def cs (ss : List Stamp.St) : List Int := ss.map (·.c)
def Rel (w : World) (ss : List Stamp.St) (vx vk : Value) (wr : World) : Prop :=
  ∃ (k : Nat) (X : Option Addr) (d : Nat), k ≤ ss.length ∧ vx = .slice X k d ∧ vk = .int .i64 k ∧ Hid (Mem.Own wr 3 1 X k d ((cs (ss.take k)).map Stamp.intV)) ∧ Hid (Mem.From w.heap.size X) ∧ Hid (Below w.heap.size w wr)

set_option maxHeartbeats 4000000 in
theorem walk (dc rng other : Int) (A : Option Addr) (c : Nat) (ss : List Stamp.St) (w : World) (hr : Mem.Rd w w.heap.size A (ss.flatMap Stamp.stCells)) (hlen : ss.length ≤ 100000) :
    Calls Try.prog 6 #[.int .i64 dc, .int .i64 rng, .int .i64 other, .slice A ss.length c] w fun e w' => e = .returned (.bool true) ∧ Below w.heap.size w w' := by
  have hr0 := Lib.hid hr
  clear hr
  have hbd : decide ((100000 : Int) < (ss.length : Int)) = false := by simp; omega
  go_enter Try.func6, Try.ntmps6
  go_wp2_with (go_at_call 9; refine (stampAble_any _).mono ?_; rintro e w1 ⟨rfl, hb1⟩)
  go_loopw [9, 10] (Rel w ss) (fun _ t _ => ss.length - (intOf t).toNat)
  case atStart => exact ⟨0, none, 0, by omega, rfl, rfl, Mem.Own.nil _ _ _, Mem.From.none_ _, hb1⟩
  case round =>
    obtain ⟨k, X, d, hk, rfl, rfl, HO, HF, HB⟩ := hrel
    by_cases hlt : k < ss.length
    · obtain ⟨b, o, s, rfl, hb, hs, hc0, _, _⟩ := Stamp.elem hr0.out hlt
      have hc := (HB.out.cell (p := ⟨b, o + k * 3, none⟩) hb).trans hc0
      clear hc0
      have hs' := Lib.hid hs
      clear hs
      go_wp2_with (at_builtin; refine Mem.wpList_app _ rfl (.tmp 27) (.tmp 33) _ rfl ints_elem X k d _ rfl (wr.heap.size + 1) (some ⟨wr.heap.size, 0, none⟩) 1 1 [.int .i64 s.c] rfl ?_ (HO.out.alloc _) (Mem.Rd.alloc_new wr _ _ _ rfl) rfl (by simp [Value.oneCell']) (by unfold maxLen; omega) (by omega); intro X' d' w2 hown hg hat)
      go_roundw
      case rel =>
        refine ⟨k + 1, X', d', by omega, rfl, by go_num, ?_, ?_, (HB.out.alloc HB.out.size _).grown hg (by have := HB.out.size; simp; omega) HF.out.blk⟩
        · rw [show cs (ss.take (k + 1)) = cs (ss.take k) ++ [s.c] from by unfold cs; rw [Mem.take_snoc hs'.out]; simp, List.map_append]; exact hown
        · rcases hat with rfl | rfl
          · exact HF.out
          · exact Mem.From.some_ (by have := HB.out.size; simp; omega)
      case measure => simp [intOf]; omega
    · obtain rfl : k = ss.length := by omega
      have hown := HO.out
      rw [List.take_length] at hown
      have hcl : (cs ss).length = ss.length := by simp [cs]
      have hrd := hown.rd
      have hrd' := Lib.hid hrd
      clear hown hrd
      have hbw := HB.out
      have hB3 : w.heap.size ≤ wr.heap.size := hbw.size
      cases hfine : (Stamp.nextS dc rng (cs ss)).2
      · have hz0 := Stamp.nextS_not hfine
        have hse := fun W => eql_stamp ⟨0, 0, 0⟩ ⟨0, 0, 0⟩ W
        have hss := Stamp.same_self ⟨0, 0, 0⟩
        go_wp2_with fail
        refine Calls.mono (nextN ss.length hcl dc rng X d wr.heap.size _ hrd'.out (Nat.le_refl _) (by unfold maxLen; omega)) ?_
        rw [hfine, hz0]
        rintro e w3 ⟨rfl, hb3⟩
        go_wp2_with fail
        go_ret
        exact ⟨rfl, (hbw.trans (hb3.mono hB3)).alloc (Nat.le_trans hB3 hb3.size) _⟩
      · obtain ⟨hs1, hright⟩ := Stamp.nextS_fine hfine
        obtain ⟨M, hM⟩ : ∃ M, Stamp.topOf (cs ss) + 1 = M := ⟨_, rfl⟩
        have hMgt : Hid (∀ x ∈ ss, x.c < M) := fun x hx => by have := Stamp.topOf_ge (cs ss) x.c (List.mem_map.2 ⟨x, hx, rfl⟩); omega
        rw [hM] at hs1 hright
        have HM := Lib.hid hM
        clear hM
        go_wp2_with fail
        refine Calls.mono (nextN ss.length hcl dc rng X d wr.heap.size _ hrd'.out (Nat.le_refl _) (by unfold maxLen; omega)) ?_
        rw [hfine, hs1]
        clear hs1 hfine
        rintro e w3 ⟨rfl, hb3⟩
        have hBw3 := Lib.hid (hbw.trans (hb3.mono hB3))
        have hsz3 := Lib.hid hb3.size
        go_wp2
        obtain ⟨W4, hW4⟩ : ∃ W4, w3.alloc (.cells #[.int .i64 M, .int .i64 dc, .int .i64 rng] 23) = W4 := ⟨_, rfl⟩
        have hblk : Hid (∀ o, W4.cell? ⟨w3.heap.size, o, none⟩ = #[Value.int .i64 M, .int .i64 dc, .int .i64 rng][o]?) := fun o => by rw [← hW4, cell_of_row _ _ _ _ _ _ (heap_alloc_new _ _)]
        have hsz4 : w3.heap.size < W4.heap.size := by rw [← hW4]; simp
        have hBW4 : Hid (Below w.heap.size w W4) := by rw [← hW4]; exact hBw3.out.alloc hBw3.out.size _
        have hX4 : Hid (Mem.Rd W4 wr.heap.size X ((cs ss).map Stamp.intV)) := by rw [← hW4]; exact (hrd'.out.below hb3).alloc hsz3.out _
        have hwr4 : wr.heap.size ≤ W4.heap.size := by have := hsz3.out; omega
        rw [hW4]
        clear hW4 hb3 hbw hBw3 hsz3 hrd' HO HF HB
        go_loopw [13] (fun vk w5 => ∃ k : Nat, k ≤ ss.length ∧ vk = .int .i64 k ∧ Hid (Below W4.heap.size W4 w5)) (fun t _ => ss.length - (intOf t).toNat)
        case atStart => exact ⟨0, by omega, rfl, Below.refl _ _⟩
        case round =>
          rename_i w5
          obtain ⟨k, hk, rfl, HB5⟩ := hrel
          by_cases hlt : k < ss.length
          · obtain ⟨b, o, s, rfl, hb, hs, hc0, hc1, hc2⟩ := Stamp.elem hr0.out hlt
            have hlts := Lib.hid (hMgt.out s (List.mem_of_getElem? hs))
            have hc0' := Lib.hid hc0
            have hc1' := Lib.hid hc1
            have hc2' := Lib.hid hc2
            clear hs hc0 hc1 hc2
            go_wp2
            refine Reg.wp_region_rel (by kernel_rfl) 82 7 rfl rfl (by kernel_rfl) (Reg.Adds) (Reg.Adds.refl) (Reg.Adds.trans)
              (fun i v u => match i with
                | 0 => v = Stamp.S ⟨M, dc, rng⟩
                | 1 => v = .slice (some ⟨b, o, none⟩) ss.length c
                | 2 => v = .int .i64 k
                | 3 => v = .pointer (some ⟨b, o + k * 3, none⟩)
                | 4 => v = Stamp.S s
                | 5 => v = .int .i64 (Stamp.cmpS ⟨M, dc, rng⟩ s)
                | 6 => v = .bool false
                | _ => True) ?_ ?_
            · refine Reg.Steps.cons ?_ (Reg.Steps.cons ?_ (Reg.Steps.cons ?_ (Reg.Steps.cons ?_ (Reg.Steps.cons ?_ (Reg.Steps.cons ?_ (Reg.Steps.cons ?_ (Reg.Steps.nil _)))))))
              · intro val ac u hR hp ha K hK      -- 0: t53 := Op.load 23 t11
                have e11 : (ac.tmps[11]?).getD undef = .pointer (some ⟨w3.heap.size, 0, none⟩) := ha 11 (by decide)
                clear ha hp
                refine Reg.Op1.plain rfl ?_
                have hb5 := HB5.out.drew.trans (Below.mono hR HB5.out.size)
                have q0 := (hb5.cell (p := ⟨w3.heap.size, 0, none⟩) hsz4).trans (hblk.out 0)
                have q1 := (hb5.cell (p := ⟨w3.heap.size, 1, none⟩) hsz4).trans (hblk.out 1)
                have q2 := (hb5.cell (p := ⟨w3.heap.size, 2, none⟩) hsz4).trans (hblk.out 2)
                clear hb5
                go_wp2
                exact ⟨rfl, hK _ _ rfl (fun j k _ _ => Reg.Adds.refl _ _ _)⟩
              · intro val ac u hR hp ha K hK      -- 1: t54 := Op.move t3
                have e3 : (ac.tmps[3]?).getD undef = .slice (some ⟨b, o, none⟩) ss.length c := ha 3 (by decide)
                clear ha hp
                refine Reg.Op1.plain rfl ?_
                go_wp2
                exact ⟨rfl, hK _ _ rfl (fun j k _ _ => Reg.Adds.refl _ _ _)⟩
              · intro val ac u hR hp ha K hK      -- 2: t55 := Op.move t13
                have e13 : (ac.tmps[13]?).getD undef = .int .i64 k := ha 13 (by decide)
                clear ha hp
                refine Reg.Op1.plain rfl ?_
                go_wp2
                exact ⟨rfl, hK _ _ rfl (fun j k _ _ => Reg.Adds.refl _ _ _)⟩
              · intro val ac u hR hp ha K hK      -- 3: t56 := Op.indexAddr 34 t54 t55
                obtain ⟨w54, h54, r54⟩ := hp 1 (by decide)
                have e54 : (ac.tmps[54]?).getD undef = .slice (some ⟨b, o, none⟩) ss.length c := (ha 54 (by decide)).trans h54
                clear h54
                obtain ⟨w55, h55, r55⟩ := hp 2 (by decide)
                have e55 : (ac.tmps[55]?).getD undef = .int .i64 k := (ha 55 (by decide)).trans h55
                clear h55
                clear ha hp
                refine Reg.Op1.plain rfl ?_
                go_wp2
                exact ⟨rfl, hK _ _ rfl (fun j k _ _ => Reg.Adds.refl _ _ _)⟩
              · intro val ac u hR hp ha K hK      -- 4: t57 := Op.load 23 t56
                obtain ⟨w56, h56, r56⟩ := hp 3 (by decide)
                have e56 : (ac.tmps[56]?).getD undef = .pointer (some ⟨b, o + k * 3, none⟩) := (ha 56 (by decide)).trans h56
                clear h56
                clear ha hp
                refine Reg.Op1.plain rfl ?_
                have hb5 := hBW4.out.trans ((HB5.out.drew.trans (Below.mono hR HB5.out.size)).mono hBW4.out.size)
                have q0 := (hb5.cell (p := ⟨b, o + k * 3, none⟩) hb).trans hc0'.out
                have q1 := (hb5.cell (p := ⟨b, o + k * 3 + 1, none⟩) hb).trans hc1'.out
                have q2 := (hb5.cell (p := ⟨b, o + k * 3 + 2, none⟩) hb).trans hc2'.out
                clear hb5
                go_wp2
                exact ⟨rfl, hK _ _ rfl (fun j k _ _ => Reg.Adds.refl _ _ _)⟩
              · intro val ac u hR hp ha K hK      -- 5: t58 := Op.call { value (Operand.func 12), args := #[t53, t57], argTypes := #[23, 23] }
                obtain ⟨w53, h53, r53⟩ := hp 0 (by decide)
                have e53 : (ac.tmps[53]?).getD undef = Stamp.S ⟨M, dc, rng⟩ := (ha 53 (by decide)).trans h53
                clear h53
                obtain ⟨w57, h57, r57⟩ := hp 4 (by decide)
                have e57 : (ac.tmps[57]?).getD undef = Stamp.S s := (ha 57 (by decide)).trans h57
                clear h57
                clear ha hp
                refine Reg.Op1.plain rfl ?_
                go_wp2_with fail
                refine (cmp_any _ s _).mono ?_
                rintro e w' ⟨rfl, hb'⟩
                go_wp2_with fail
                exact ⟨rfl, hK _ _ rfl (fun j k _ _ => hb')⟩
              · intro val ac u hR hp ha K hK      -- 6: t59 := Op.binOp BinOp.leq 3 t58 (const (0:i64)) 3
                obtain ⟨w58, h58, r58⟩ := hp 5 (by decide)
                have e58 : (ac.tmps[58]?).getD undef = .int .i64 (Stamp.cmpS ⟨M, dc, rng⟩ s) := (ha 58 (by decide)).trans h58
                clear h58
                clear ha hp
                have hpos : decide (Stamp.cmpS ⟨M, dc, rng⟩ s ≤ 0) = false := by have := Stamp.cmpS_pos (a := ⟨M, dc, rng⟩) hlts.out; simp; omega
                refine Reg.Op1.plain rfl ?_
                go_wp2
                exact ⟨rfl, hK _ _ rfl (fun j k _ _ => Reg.Adds.refl _ _ _)⟩
            · intro val u hR H
              obtain ⟨w59, hv, hr⟩ := H 6 (by decide)
              have hv : val 6 = .bool false := hv
              simp only [List.map_cons, List.map_nil, Reg.lay, Act.put, List.setIfInBounds_toArray, List.set_cons_succ, List.set_cons_zero, Nat.reduceAdd, hv]
              have HB6 := Lib.hid (HB5.out.drew.trans (Below.mono hR HB5.out.size))
              clear hv hr H hR
              go_wp2
              go_roundw
              case rel => exact ⟨k + 1, by omega, by go_num, HB6⟩
              case measure => simp [intOf]; omega
          · obtain rfl : k = ss.length := by omega
            go_wp2_with fail
            refine Calls.mono (nextN ss.length hcl other rng X d _ _ (hX4.out.below (HB5.out.mono hwr4)) (Nat.le_trans hwr4 HB5.out.size) (by unfold maxLen; omega)) ?_
            cases hf2 : (Stamp.nextS other rng (cs ss)).2
            · have hz0 := Stamp.nextS_not hf2
              rw [hz0]
              clear hz0 hf2
              rintro e w6 ⟨rfl, hb6⟩
              have hz6 := Nat.le_trans HB5.out.size hb6.size
              have hB6 := Lib.hid (HB5.out.trans (hb6.mono HB5.out.size))
              have q0 := (hB6.out.cell (p := ⟨w3.heap.size, 0, none⟩) hsz4).trans (hblk.out 0)
              have q1 := (hB6.out.cell (p := ⟨w3.heap.size, 1, none⟩) hsz4).trans (hblk.out 1)
              have q2 := (hB6.out.cell (p := ⟨w3.heap.size, 2, none⟩) hsz4).trans (hblk.out 2)
              simp at q0 q1 q2
              have hne : w3.heap.size < w6.heap.size := by omega
              go_wp2_with fail
              refine (right_any ⟨M, dc, rng⟩ _).mono ?_
              rw [hright]
              rintro e w7 ⟨rfl, hb7⟩
              obtain ⟨hc7, hf7⟩ := Mem.bcell hb7
              have hz7 := hb7.size
              simp at hz7
              have hne7 : w3.heap.size < (w6.alloc (.cells #[.int .i64 0, .int .i64 0, .int .i64 0] 23)).heap.size := by simp; omega
              have hne8 : w6.heap.size < (w6.alloc (.cells #[.int .i64 0, .int .i64 0, .int .i64 0] 23)).heap.size := by simp
              go_wp2_with fail
              go_ret
              exact ⟨rfl, (hBW4.out.trans (hB6.out.mono hBW4.out.size)).alloc (Nat.le_trans hBW4.out.size hB6.out.size) _ |>.trans (hb7.mono (by have := hBW4.out.size; simp; omega))⟩
            · obtain ⟨hs2, _⟩ := Stamp.nextS_fine hf2
              rw [HM.out] at hs2
              rw [hs2]
              clear hs2 hf2
              rintro e w6 ⟨rfl, hb6⟩
              have hz6 := Nat.le_trans HB5.out.size hb6.size
              have hB6 := Lib.hid (HB5.out.trans (hb6.mono HB5.out.size))
              have q0 := (hB6.out.cell (p := ⟨w3.heap.size, 0, none⟩) hsz4).trans (hblk.out 0)
              have q1 := (hB6.out.cell (p := ⟨w3.heap.size, 1, none⟩) hsz4).trans (hblk.out 1)
              have q2 := (hB6.out.cell (p := ⟨w3.heap.size, 2, none⟩) hsz4).trans (hblk.out 2)
              simp at q0 q1 q2
              have hne : w3.heap.size < w6.heap.size := by omega
              go_wp2_with fail
              refine (right_any ⟨M, dc, rng⟩ _).mono ?_
              rw [hright]
              rintro e w7 ⟨rfl, hb7⟩
              obtain ⟨hc7, hf7⟩ := Mem.bcell hb7
              have hz7 := hb7.size
              simp at hz7
              have hne7 : w3.heap.size < (w6.alloc (.cells #[.int .i64 M, .int .i64 other, .int .i64 rng] 23)).heap.size := by simp; omega
              have hne8 : w6.heap.size < (w6.alloc (.cells #[.int .i64 M, .int .i64 other, .int .i64 rng] 23)).heap.size := by simp
              have hse := fun W => eql_stamp ⟨M, other, rng⟩ ⟨M, dc, rng⟩ W
              have hsm : (Stamp.same ⟨M, other, rng⟩ ⟨M, dc, rng⟩ == (other == dc)) = true := by simp [Stamp.same]; by_cases h : other = dc <;> simp [h]
              go_wp2_with fail
              go_ret
              exact ⟨rfl, (hBW4.out.trans (hB6.out.mono hBW4.out.size)).alloc (Nat.le_trans hBW4.out.size hB6.out.size) _ |>.trans (hb7.mono (by have := hBW4.out.size; simp; omega))⟩
theorem opened {H : Type} (enc : TypeId × Value → H) (W : World) (base : Nat) (v0 v1 v2 v3 : Value) {d0 d1 d2 d3 : DataW H} {p0 p1 p2 p3 : List MemPlace}
    (o0 : Value.okWide Try.prog W .any base 3 v0) (o1 : Value.okWide Try.prog W .any base 3 v1) (o2 : Value.okWide Try.prog W .any base 3 v2) (o3 : Value.okWide Try.prog W .any base 34 v3)
    (k0 : DataW.Trod enc Try.prog W 0 (fun _ => true) true 3 v0 d0 p0) (k1 : DataW.Trod enc Try.prog W 0 (fun _ => true) true 3 v1 d1 p1) (k2 : DataW.Trod enc Try.prog W 0 (fun _ => true) true 3 v2 d2 p2) (k3 : DataW.Trod enc Try.prog W 0 (fun _ => true) true 34 v3 d3 p3) :
    Calls Try.prog 6 #[v0, v1, v2, v3] W fun e w' => e = .returned (.bool true) ∧ Below W.heap.size W w' := by
  obtain ⟨a0, rfl, rfl, rfl, w0⟩ := open_int Try.underlying3 o0 k0
  obtain ⟨a1, rfl, rfl, rfl, w1⟩ := open_int Try.underlying3 o1 k1
  obtain ⟨a2, rfl, rfl, rfl, w2⟩ := open_int Try.underlying3 o2 k2
  obtain ⟨A, c, ss, rfl, h1, h2, h3⟩ := open_stamps o3 k3
  by_cases hb : 100000 < ss.length
  · have hbd : decide ((100000 : Int) < (ss.length : Int)) = true := by simp; omega
    clear hb h1 h2 h3 k3 o3
    go_enter Try.func6, Try.ntmps6
    go_wp2_with (go_at_call 9; refine (stampAble_any _).mono ?_; rintro e w1 ⟨rfl, hb1⟩)
    go_ret
    exact ⟨rfl, hb1⟩
  · exact walk a0 a1 a2 A c ss W h3 (by omega)
end stampBehindOpen
end Go.Proofs.Ythoklehmbkjkbaa
