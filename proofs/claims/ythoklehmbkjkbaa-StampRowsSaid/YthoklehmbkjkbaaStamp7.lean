/- The walk of StampMax: the greatest of any; the list stays. No conditions. -/
import Derived.Test.YthoklehmbkjkbaaStamp6
namespace Go.Proofs.Ythoklehmbkjkbaa
open Go.ChangeShapes Go.WideShapes Go.ChangeAt Go.RowKit
set_option linter.unusedVariables false

theorem neq_stamp (a : Stamp.St) (w : World) : (binOp .neq 23 (Stamp.S a) (Stamp.S a)).run Try.prog w = .ok (.bool false) w := by
  simp [go_sem]
theorem stamps_elem : Mem.Elem Try.prog 34 23 3 24 := Mem.elem_of Try.underlying34 (z := .agg #[.int .i64 0, .int .i64 0, .int .i64 0]) (by kernel_rfl) rfl (by omega)
theorem stamps_one (ss : List Stamp.St) : ∀ u ∈ ss.flatMap Stamp.stCells, u.oneCell' = true := by
  intro u hu
  obtain ⟨s, _, hs⟩ := List.mem_flatMap.1 hu
  simp [Stamp.stCells] at hs
  rcases hs with rfl | rfl | rfl <;> rfl

namespace stampMaxOpen
set_option maxHeartbeats 4000000 in
theorem walk (A : Option Addr) (c : Nat) (ss : List Stamp.St) (w : World) (hr : Mem.Rd w w.heap.size A (ss.flatMap Stamp.stCells)) (hlen : ss.length ≤ 100000) :
    Calls Try.prog 7 #[.slice A ss.length c] w fun e w' => e = .returned (.bool true) ∧ Below w.heap.size w w' := by
  have hr0 := Lib.hid hr
  clear hr
  have hbd : decide ((100000 : Int) < (ss.length : Int)) = false := by simp; omega
  have hcl : (ss.flatMap Stamp.stCells).length = ss.length * 3 := Mem.flat_length Stamp.stCells_length ss
  go_enter Try.func7, Try.ntmps7
  go_wp2_with (first
    | (go_at_call 9; refine (stampAble_any _).mono ?_; rintro e w1 ⟨rfl, hb1⟩)
    | (at_builtin; refine Mem.wpList_clone _ rfl (.tmp 11) (.tmp 12) _ rfl stamps_elem w1.heap.size rfl w w.heap.size A ss.length c (ss.flatMap Stamp.stCells) rfl ?_ rfl hb1 hb1.size hr0.out hcl (stamps_one ss) (by unfold maxLen; omega) (by omega); intro Q cq w2 hown2 hb2 hs2 hfq2)
    | (at_builtin; refine Mem.wpList_app _ rfl (.tmp 13) (.tmp 15) _ rfl stamps_elem Q ss.length cq _ rfl (w2.heap.size + 1) (some ⟨w2.heap.size, 0, none⟩) 1 1 [.int .i64 (-77), .int .i64 0, .int .i64 0] rfl ?_ (hown2.alloc _) (Mem.Rd.alloc_new w2 _ _ _ rfl) rfl (by simp [Value.oneCell']) (by unfold maxLen; omega) (by omega); intro L dL w3 hown3 hg3 hat3; have HB3 := Lib.hid ((hb2.alloc hb2.size _).grown hg3 (by simp; have := hb2.size; omega) (hfq2.mono hb1.size).blk); obtain ⟨g, o, rfl⟩ := hown3.form (by omega); have hle : ss.length ≤ dL := (by have := hown3.le; omega); have HO3 := Lib.hid hown3; clear hown3 hg3 hat3 hown2))
  have hz3 := HB3.out.size
  have HL3 := Lib.hid HO3.out.rd
  have hge := Lib.hid (Stamp.maxS_ge (l := ss))
  refine Calls.mono (max_any (some ⟨g, o, none⟩) dL ss w3.heap.size w3 HL3.out.left (Nat.le_refl _) (by unfold maxLen; omega)) ?_
  obtain ⟨m, hmm⟩ : ∃ m, Stamp.maxS ss = m := ⟨_, rfl⟩
  rw [hmm]
  have HGE := Lib.hid (show ∀ x ∈ ss, Stamp.cmpS x m ≤ 0 from fun x hx => by rw [← hmm]; exact hge.out x hx)
  have HM := Lib.hid hmm
  clear hge hmm
  rintro e w4 ⟨rfl, hb4⟩
  have HB4 := Lib.hid (HB3.out.trans (hb4.mono hz3))
  have HL4 := Lib.hid ((HL3.out.below hb4).more hb4.size)
  have hz4 := HB4.out.size
  clear hb1 hb2 hs2 hfq2 HO3 HL3 HB3 hb4
  go_wp2
  obtain ⟨W6, hW6⟩ : ∃ W6, w4.alloc (.cells #[.int .i64 m.c, .int .i64 m.d, .int .i64 m.r] 23) = W6 := ⟨_, rfl⟩
  have HX := Lib.hid (show Stamp.Box W6 w4.heap.size m from by rw [← hW6]; exact Stamp.Box.new w4 m rfl)
  have HL6 := Lib.hid (show Mem.Rd W6 w4.heap.size (some ⟨g, o, none⟩) (ss.flatMap Stamp.stCells ++ [.int .i64 (-77), .int .i64 0, .int .i64 0]) from by rw [← hW6]; exact HL4.out.alloc (Nat.le_refl _) _)
  have HB6 := Lib.hid (show Below w.heap.size w W6 from by rw [← hW6]; exact HB4.out.alloc hz4 _)
  have hz6 : w4.heap.size < W6.heap.size := by rw [← hW6]; simp
  rw [hW6]
  clear hW6
  go_loopw [5] (fun vk wr => ∃ k : Nat, k ≤ ss.length ∧ vk = .int .i64 k ∧ Hid (Below W6.heap.size W6 wr)) (fun t _ => ss.length - (intOf t).toNat)
  case atStart => exact ⟨0, by omega, rfl, Below.refl _ _⟩
  case round =>
    obtain ⟨k, hk, rfl, HBr⟩ := hrel
    by_cases hlt : k < ss.length
    · obtain ⟨b, q, s, rfl, hb, hs, hc0, hc1, hc2⟩ := Stamp.elem hr0.out hlt
      obtain ⟨b2, q2, s2, hA2, hb2, hs2, hd0, hd1, hd2⟩ := Stamp.elem HL6.out.left hlt
      cases hA2
      obtain rfl : s2 = s := Option.some.inj (hs2.symm.trans hs)
      have hcs := HGE.out s2 (List.mem_of_getElem? hs)
      have hcd : decide (0 < Stamp.cmpS s2 m) = false := by simp; omega
      have C0 := Lib.hid hc0
      have C1 := Lib.hid hc1
      have C2 := Lib.hid hc2
      have D0 := Lib.hid hd0
      have D1 := Lib.hid hd1
      have D2 := Lib.hid hd2
      clear hs hs2 hc0 hc1 hc2 hd0 hd1 hd2 hcs
      go_wp2
      refine Reg.wp_region_rel (by kernel_rfl) 59 18 rfl rfl (by kernel_rfl) (Reg.Adds) (Reg.Adds.refl) (Reg.Adds.trans)
        (fun i v u => match i with
          | 0 => v = .slice (some ⟨g, o, none⟩) (ss.length + 1) dL
          | 1 => v = .int .i64 k
          | 2 => v = .pointer (some ⟨g, o + k * 3, none⟩)
          | 3 => v = Stamp.S s2
          | 4 => v = .slice (some ⟨b, q, none⟩) ss.length c
          | 5 => v = .int .i64 k
          | 6 => v = .pointer (some ⟨b, q + k * 3, none⟩)
          | 7 => v = Stamp.S s2
          | 8 => v = .bool false
          | 9 => v = .bool false
          | 10 => v = .slice (some ⟨b, q, none⟩) ss.length c
          | 11 => v = .int .i64 k
          | 12 => v = .pointer (some ⟨b, q + k * 3, none⟩)
          | 13 => v = Stamp.S s2
          | 14 => v = Stamp.S m
          | 15 => v = .int .i64 (Stamp.cmpS s2 m)
          | 16 => v = .bool false
          | 17 => v = .bool false
          | _ => True) ?_ ?_
      · refine Reg.Steps.cons ?_ (Reg.Steps.cons ?_ (Reg.Steps.cons ?_ (Reg.Steps.cons ?_ (Reg.Steps.cons ?_ (Reg.Steps.cons ?_ (Reg.Steps.cons ?_ (Reg.Steps.cons ?_ (Reg.Steps.cons ?_ (Reg.Steps.cons ?_ (Reg.Steps.cons ?_ (Reg.Steps.cons ?_ (Reg.Steps.cons ?_ (Reg.Steps.cons ?_ (Reg.Steps.cons ?_ (Reg.Steps.cons ?_ (Reg.Steps.cons ?_ (Reg.Steps.cons ?_ (Reg.Steps.nil _))))))))))))))))))
        · intro val ac u hR hp ha K hK      -- 0: t28 := Op.move t3
          have e3 : (ac.tmps[3]?).getD undef = .slice (some ⟨g, o, none⟩) (ss.length + 1) dL := ha 3 (by decide)
          clear ha hp
          refine Reg.Op1.plain rfl ?_
          go_wp2
          exact ⟨rfl, hK _ _ rfl (fun j k _ _ => Reg.Adds.refl _ _ _)⟩
        · intro val ac u hR hp ha K hK      -- 1: t29 := Op.move t5
          have e5 : (ac.tmps[5]?).getD undef = .int .i64 k := ha 5 (by decide)
          clear ha hp
          refine Reg.Op1.plain rfl ?_
          go_wp2
          exact ⟨rfl, hK _ _ rfl (fun j k _ _ => Reg.Adds.refl _ _ _)⟩
        · intro val ac u hR hp ha K hK      -- 2: t30 := Op.indexAddr 34 t28 t29
          obtain ⟨w28, h28, r28⟩ := hp 0 (by decide)
          have e28 : (ac.tmps[28]?).getD undef = .slice (some ⟨g, o, none⟩) (ss.length + 1) dL := (ha 28 (by decide)).trans h28
          clear h28
          obtain ⟨w29, h29, r29⟩ := hp 1 (by decide)
          have e29 : (ac.tmps[29]?).getD undef = .int .i64 k := (ha 29 (by decide)).trans h29
          clear h29
          clear ha hp
          refine Reg.Op1.plain rfl ?_
          go_wp2
          exact ⟨rfl, hK _ _ rfl (fun j k _ _ => Reg.Adds.refl _ _ _)⟩
        · intro val ac u hR hp ha K hK      -- 3: t31 := Op.load 23 t30
          obtain ⟨w30, h30, r30⟩ := hp 2 (by decide)
          have e30 : (ac.tmps[30]?).getD undef = .pointer (some ⟨g, o + k * 3, none⟩) := (ha 30 (by decide)).trans h30
          clear h30
          clear ha hp
          refine Reg.Op1.plain rfl ?_
          have hbu := (HBr.out.drew.trans (Below.mono hR HBr.out.size))
          have x0 := (hbu.cell (p := ⟨g, o + k * 3, none⟩) (by show g < _; omega)).trans D0.out
          have x1 := (hbu.cell (p := ⟨g, o + k * 3 + 1, none⟩) (by show g < _; omega)).trans D1.out
          have x2 := (hbu.cell (p := ⟨g, o + k * 3 + 2, none⟩) (by show g < _; omega)).trans D2.out
          clear hbu
          go_wp2
          exact ⟨rfl, hK _ _ rfl (fun j k _ _ => Reg.Adds.refl _ _ _)⟩
        · intro val ac u hR hp ha K hK      -- 4: t32 := Op.move t0
          have e0 : (ac.tmps[0]?).getD undef = .slice (some ⟨b, q, none⟩) ss.length c := ha 0 (by decide)
          clear ha hp
          refine Reg.Op1.plain rfl ?_
          go_wp2
          exact ⟨rfl, hK _ _ rfl (fun j k _ _ => Reg.Adds.refl _ _ _)⟩
        · intro val ac u hR hp ha K hK      -- 5: t33 := Op.move t5
          have e5 : (ac.tmps[5]?).getD undef = .int .i64 k := ha 5 (by decide)
          clear ha hp
          refine Reg.Op1.plain rfl ?_
          go_wp2
          exact ⟨rfl, hK _ _ rfl (fun j k _ _ => Reg.Adds.refl _ _ _)⟩
        · intro val ac u hR hp ha K hK      -- 6: t34 := Op.indexAddr 34 t32 t33
          obtain ⟨w32, h32, r32⟩ := hp 4 (by decide)
          have e32 : (ac.tmps[32]?).getD undef = .slice (some ⟨b, q, none⟩) ss.length c := (ha 32 (by decide)).trans h32
          clear h32
          obtain ⟨w33, h33, r33⟩ := hp 5 (by decide)
          have e33 : (ac.tmps[33]?).getD undef = .int .i64 k := (ha 33 (by decide)).trans h33
          clear h33
          clear ha hp
          refine Reg.Op1.plain rfl ?_
          go_wp2
          exact ⟨rfl, hK _ _ rfl (fun j k _ _ => Reg.Adds.refl _ _ _)⟩
        · intro val ac u hR hp ha K hK      -- 7: t35 := Op.load 23 t34
          obtain ⟨w34, h34, r34⟩ := hp 6 (by decide)
          have e34 : (ac.tmps[34]?).getD undef = .pointer (some ⟨b, q + k * 3, none⟩) := (ha 34 (by decide)).trans h34
          clear h34
          clear ha hp
          refine Reg.Op1.plain rfl ?_
          have hbu := HB6.out.trans ((HBr.out.drew.trans (Below.mono hR HBr.out.size)).mono HB6.out.size)
          have x0 := (hbu.cell (p := ⟨b, q + k * 3, none⟩) hb).trans C0.out
          have x1 := (hbu.cell (p := ⟨b, q + k * 3 + 1, none⟩) hb).trans C1.out
          have x2 := (hbu.cell (p := ⟨b, q + k * 3 + 2, none⟩) hb).trans C2.out
          clear hbu
          go_wp2
          exact ⟨rfl, hK _ _ rfl (fun j k _ _ => Reg.Adds.refl _ _ _)⟩
        · intro val ac u hR hp ha K hK      -- 8: t36 := Op.binOp BinOp.neq 23 t31 t35 23
          obtain ⟨w31, h31, r31⟩ := hp 3 (by decide)
          have e31 : (ac.tmps[31]?).getD undef = Stamp.S s2 := (ha 31 (by decide)).trans h31
          clear h31
          obtain ⟨w35, h35, r35⟩ := hp 7 (by decide)
          have e35 : (ac.tmps[35]?).getD undef = Stamp.S s2 := (ha 35 (by decide)).trans h35
          clear h35
          clear ha hp
          have hnq := neq_stamp s2
          refine Reg.Op1.plain rfl ?_
          go_wp2
          exact ⟨rfl, hK _ _ rfl (fun j k _ _ => Reg.Adds.refl _ _ _)⟩
        · intro val ac u hR hp ha K hK      -- 9: t37 := Op.move t36
          obtain ⟨w36, h36, r36⟩ := hp 8 (by decide)
          have e36 : (ac.tmps[36]?).getD undef = .bool false := (ha 36 (by decide)).trans h36
          clear h36
          clear ha hp
          refine Reg.Op1.plain rfl ?_
          go_wp2
          exact ⟨rfl, hK _ _ rfl (fun j k _ _ => Reg.Adds.refl _ _ _)⟩
        · intro val ac u hR hp ha K hK      -- 10: t38 := Op.move t0
          have e0 : (ac.tmps[0]?).getD undef = .slice (some ⟨b, q, none⟩) ss.length c := ha 0 (by decide)
          obtain ⟨w37, h37, r37⟩ := hp 9 (by decide)
          have e37 : (ac.tmps[37]?).getD undef = .bool false := (ha 37 (by decide)).trans h37
          clear h37
          clear ha hp
          refine Reg.Op1.guarded rfl rfl e37 (fun _ => Reg.Op1.plain rfl ?_) (fun h => absurd rfl h)
          go_wp2
          exact ⟨rfl, hK _ _ rfl (fun j k _ _ => Reg.Adds.refl _ _ _)⟩
        · intro val ac u hR hp ha K hK      -- 11: t39 := Op.move t5
          have e5 : (ac.tmps[5]?).getD undef = .int .i64 k := ha 5 (by decide)
          obtain ⟨w37, h37, r37⟩ := hp 9 (by decide)
          have e37 : (ac.tmps[37]?).getD undef = .bool false := (ha 37 (by decide)).trans h37
          clear h37
          clear ha hp
          refine Reg.Op1.guarded rfl rfl e37 (fun _ => Reg.Op1.plain rfl ?_) (fun h => absurd rfl h)
          go_wp2
          exact ⟨rfl, hK _ _ rfl (fun j k _ _ => Reg.Adds.refl _ _ _)⟩
        · intro val ac u hR hp ha K hK      -- 12: t40 := Op.indexAddr 34 t38 t39
          obtain ⟨w38, h38, r38⟩ := hp 10 (by decide)
          have e38 : (ac.tmps[38]?).getD undef = .slice (some ⟨b, q, none⟩) ss.length c := (ha 38 (by decide)).trans h38
          clear h38
          obtain ⟨w39, h39, r39⟩ := hp 11 (by decide)
          have e39 : (ac.tmps[39]?).getD undef = .int .i64 k := (ha 39 (by decide)).trans h39
          clear h39
          obtain ⟨w37, h37, r37⟩ := hp 9 (by decide)
          have e37 : (ac.tmps[37]?).getD undef = .bool false := (ha 37 (by decide)).trans h37
          clear h37
          clear ha hp
          refine Reg.Op1.guarded rfl rfl e37 (fun _ => Reg.Op1.plain rfl ?_) (fun h => absurd rfl h)
          go_wp2
          exact ⟨rfl, hK _ _ rfl (fun j k _ _ => Reg.Adds.refl _ _ _)⟩
        · intro val ac u hR hp ha K hK      -- 13: t41 := Op.load 23 t40
          obtain ⟨w40, h40, r40⟩ := hp 12 (by decide)
          have e40 : (ac.tmps[40]?).getD undef = .pointer (some ⟨b, q + k * 3, none⟩) := (ha 40 (by decide)).trans h40
          clear h40
          obtain ⟨w37, h37, r37⟩ := hp 9 (by decide)
          have e37 : (ac.tmps[37]?).getD undef = .bool false := (ha 37 (by decide)).trans h37
          clear h37
          clear ha hp
          refine Reg.Op1.guarded rfl rfl e37 (fun _ => Reg.Op1.plain rfl ?_) (fun h => absurd rfl h)
          have hbu := HB6.out.trans ((HBr.out.drew.trans (Below.mono hR HBr.out.size)).mono HB6.out.size)
          have x0 := (hbu.cell (p := ⟨b, q + k * 3, none⟩) hb).trans C0.out
          have x1 := (hbu.cell (p := ⟨b, q + k * 3 + 1, none⟩) hb).trans C1.out
          have x2 := (hbu.cell (p := ⟨b, q + k * 3 + 2, none⟩) hb).trans C2.out
          clear hbu
          go_wp2
          exact ⟨rfl, hK _ _ rfl (fun j k _ _ => Reg.Adds.refl _ _ _)⟩
        · intro val ac u hR hp ha K hK      -- 14: t42 := Op.load 23 t4
          have e4 : (ac.tmps[4]?).getD undef = .pointer (some ⟨w4.heap.size, 0, none⟩) := ha 4 (by decide)
          obtain ⟨w37, h37, r37⟩ := hp 9 (by decide)
          have e37 : (ac.tmps[37]?).getD undef = .bool false := (ha 37 (by decide)).trans h37
          clear h37
          clear ha hp
          refine Reg.Op1.guarded rfl rfl e37 (fun _ => Reg.Op1.plain rfl ?_) (fun h => absurd rfl h)
          have hbx := HX.out.below (HBr.out.drew.trans (Below.mono hR HBr.out.size)) hz6
          have x0 := hbx.c0
          have x1 := hbx.c1
          have x2 := hbx.c2
          clear hbx
          go_wp2
          exact ⟨rfl, hK _ _ rfl (fun j k _ _ => Reg.Adds.refl _ _ _)⟩
        · intro val ac u hR hp ha K hK      -- 15: t43 := Op.call { value (Operand.func 12), args := #[t41, t42], argTypes := #[23, 23] }
          obtain ⟨w41, h41, r41⟩ := hp 13 (by decide)
          have e41 : (ac.tmps[41]?).getD undef = Stamp.S s2 := (ha 41 (by decide)).trans h41
          clear h41
          obtain ⟨w42, h42, r42⟩ := hp 14 (by decide)
          have e42 : (ac.tmps[42]?).getD undef = Stamp.S m := (ha 42 (by decide)).trans h42
          clear h42
          obtain ⟨w37, h37, r37⟩ := hp 9 (by decide)
          have e37 : (ac.tmps[37]?).getD undef = .bool false := (ha 37 (by decide)).trans h37
          clear h37
          clear ha hp
          refine Reg.Op1.guarded rfl rfl e37 (fun _ => Reg.Op1.plain rfl ?_) (fun h => absurd rfl h)
          go_wp2_with fail
          refine (cmp_any s2 m _).mono ?_
          rintro e w' ⟨rfl, hb'⟩
          go_wp2_with fail
          exact ⟨rfl, hK _ _ rfl (fun j k _ _ => hb')⟩
        · intro val ac u hR hp ha K hK      -- 16: t44 := Op.binOp BinOp.gtr 3 t43 (const (0:i64)) 3
          obtain ⟨w43, h43, r43⟩ := hp 15 (by decide)
          have e43 : (ac.tmps[43]?).getD undef = .int .i64 (Stamp.cmpS s2 m) := (ha 43 (by decide)).trans h43
          clear h43
          obtain ⟨w37, h37, r37⟩ := hp 9 (by decide)
          have e37 : (ac.tmps[37]?).getD undef = .bool false := (ha 37 (by decide)).trans h37
          clear h37
          clear ha hp
          refine Reg.Op1.guarded rfl rfl e37 (fun _ => Reg.Op1.plain rfl ?_) (fun h => absurd rfl h)
          go_wp2
          exact ⟨rfl, hK _ _ rfl (fun j k _ _ => Reg.Adds.refl _ _ _)⟩
        · intro val ac u hR hp ha K hK      -- 17: t45 := Op.pick t37 (const (Value.bool true)) t44
          obtain ⟨w37, h37, r37⟩ := hp 9 (by decide)
          have e37 : (ac.tmps[37]?).getD undef = .bool false := (ha 37 (by decide)).trans h37
          clear h37
          obtain ⟨w44, h44, r44⟩ := hp 16 (by decide)
          have e44 : (ac.tmps[44]?).getD undef = .bool false := (ha 44 (by decide)).trans h44
          clear h44
          clear ha hp
          refine Reg.Op1.plain rfl ?_
          go_wp2
          exact ⟨rfl, hK _ _ rfl (fun j k _ _ => Reg.Adds.refl _ _ _)⟩
      · intro val u hR H
        obtain ⟨w45, hv, hr⟩ := H 17 (by decide)
        have hv : val 17 = .bool false := hv
        simp only [List.map_cons, List.map_nil, Reg.lay, Act.put, List.setIfInBounds_toArray, List.set_cons_succ, List.set_cons_zero, Nat.reduceAdd, hv]
        have HBu := Lib.hid (HBr.out.drew.trans (Below.mono hR HBr.out.size))
        clear hv hr H hR
        go_wp2
        go_roundw
        case rel => exact ⟨k + 1, by omega, by go_num, HBu⟩
        case measure => simp [intOf]; omega
    · obtain rfl : k = ss.length := by omega
      go_wp2
      refine Reg.wp_region_rel (by kernel_rfl) 59 14 rfl rfl (by kernel_rfl) (Reg.Adds) (Reg.Adds.refl) (Reg.Adds.trans)
        (fun i v u => match i with
          | 0 => v = Stamp.S m
          | 1 => v = .slice A ss.length c
          | 2 => v = Stamp.S m
          | 3 => v = .bool true
          | 4 => v = .bool true
          | 5 => v = .slice (some ⟨g, o, none⟩) (ss.length + 1) dL
          | 6 => v = .slice A ss.length c
          | 7 => v = .int .i64 ((ss.length : Nat) : Int)
          | 8 => v = .pointer (some ⟨g, o + ss.length * 3, none⟩)
          | 9 => v = .pointer (some ⟨g, o + ss.length * 3, none⟩)
          | 10 => v = .int .i64 (-77)
          | 11 => v = .bool true
          | 12 => v = .bool true
          | 13 => v = .bool true
          | _ => True) ?_ ?_
      · refine Reg.Steps.cons ?_ (Reg.Steps.cons ?_ (Reg.Steps.cons ?_ (Reg.Steps.cons ?_ (Reg.Steps.cons ?_ (Reg.Steps.cons ?_ (Reg.Steps.cons ?_ (Reg.Steps.cons ?_ (Reg.Steps.cons ?_ (Reg.Steps.cons ?_ (Reg.Steps.cons ?_ (Reg.Steps.cons ?_ (Reg.Steps.cons ?_ (Reg.Steps.cons ?_ (Reg.Steps.nil _))))))))))))))
        · intro val ac u hR hp ha K hK      -- 0: t46 := Op.load 23 t4
          have e4 : (ac.tmps[4]?).getD undef = .pointer (some ⟨w4.heap.size, 0, none⟩) := ha 4 (by decide)
          clear ha hp
          refine Reg.Op1.plain rfl ?_
          have hbx := HX.out.below (HBr.out.drew.trans (Below.mono hR HBr.out.size)) hz6
          have x0 := hbx.c0
          have x1 := hbx.c1
          have x2 := hbx.c2
          clear hbx
          go_wp2
          exact ⟨rfl, hK _ _ rfl (fun j k _ _ => Reg.Adds.refl _ _ _)⟩
        · intro val ac u hR hp ha K hK      -- 1: t47 := Op.move t0
          have e0 : (ac.tmps[0]?).getD undef = .slice A ss.length c := ha 0 (by decide)
          clear ha hp
          refine Reg.Op1.plain rfl ?_
          go_wp2
          exact ⟨rfl, hK _ _ rfl (fun j k _ _ => Reg.Adds.refl _ _ _)⟩
        · intro val ac u hR hp ha K hK      -- 2: t48 := Op.call { value (Operand.func 17), args := #[t47], argTypes := #[34] }
          obtain ⟨w47, h47, r47⟩ := hp 1 (by decide)
          have e47 : (ac.tmps[47]?).getD undef = .slice A ss.length c := (ha 47 (by decide)).trans h47
          clear h47
          clear ha hp
          refine Reg.Op1.plain rfl ?_
          have hbu := HB6.out.trans ((HBr.out.drew.trans (Below.mono hR HBr.out.size)).mono HB6.out.size)
          have hru := hr0.out.below hbu
          go_wp2_with fail
          refine (refMax_any A c ss w.heap.size _ hru hbu.size (by unfold maxLen; omega)).mono ?_
          rw [HM.out]
          rintro e w' ⟨rfl, hb'⟩
          clear hbu hru
          go_wp2_with fail
          exact ⟨rfl, hK _ _ rfl (fun j k _ _ => hb')⟩
        · intro val ac u hR hp ha K hK      -- 3: t49 := Op.binOp BinOp.eql 23 t46 t48 23
          obtain ⟨w46, h46, r46⟩ := hp 0 (by decide)
          have e46 : (ac.tmps[46]?).getD undef = Stamp.S m := (ha 46 (by decide)).trans h46
          clear h46
          obtain ⟨w48, h48, r48⟩ := hp 2 (by decide)
          have e48 : (ac.tmps[48]?).getD undef = Stamp.S m := (ha 48 (by decide)).trans h48
          clear h48
          clear ha hp
          have hnq := eql_stamp m m
          have hsm := Stamp.same_self m
          refine Reg.Op1.plain rfl ?_
          go_wp2
          exact ⟨rfl, hK _ _ rfl (fun j k _ _ => Reg.Adds.refl _ _ _)⟩
        · intro val ac u hR hp ha K hK      -- 4: t50 := Op.move t49
          obtain ⟨w49, h49, r49⟩ := hp 3 (by decide)
          have e49 : (ac.tmps[49]?).getD undef = .bool true := (ha 49 (by decide)).trans h49
          clear h49
          clear ha hp
          refine Reg.Op1.plain rfl ?_
          go_wp2
          exact ⟨rfl, hK _ _ rfl (fun j k _ _ => Reg.Adds.refl _ _ _)⟩
        · intro val ac u hR hp ha K hK      -- 5: t51 := Op.move t3
          have e3 : (ac.tmps[3]?).getD undef = .slice (some ⟨g, o, none⟩) (ss.length + 1) dL := ha 3 (by decide)
          obtain ⟨w50, h50, r50⟩ := hp 4 (by decide)
          have e50 : (ac.tmps[50]?).getD undef = .bool true := (ha 50 (by decide)).trans h50
          clear h50
          clear ha hp
          refine Reg.Op1.guarded rfl rfl e50 (fun _ => Reg.Op1.plain rfl ?_) (fun h => absurd rfl h)
          go_wp2
          exact ⟨rfl, hK _ _ rfl (fun j k _ _ => Reg.Adds.refl _ _ _)⟩
        · intro val ac u hR hp ha K hK      -- 6: t52 := Op.move t0
          have e0 : (ac.tmps[0]?).getD undef = .slice A ss.length c := ha 0 (by decide)
          obtain ⟨w50, h50, r50⟩ := hp 4 (by decide)
          have e50 : (ac.tmps[50]?).getD undef = .bool true := (ha 50 (by decide)).trans h50
          clear h50
          clear ha hp
          refine Reg.Op1.guarded rfl rfl e50 (fun _ => Reg.Op1.plain rfl ?_) (fun h => absurd rfl h)
          go_wp2
          exact ⟨rfl, hK _ _ rfl (fun j k _ _ => Reg.Adds.refl _ _ _)⟩
        · intro val ac u hR hp ha K hK      -- 7: t53 := Op.call { builtin len, args := #[t52], argTypes := #[34] }
          obtain ⟨w52, h52, r52⟩ := hp 6 (by decide)
          have e52 : (ac.tmps[52]?).getD undef = .slice A ss.length c := (ha 52 (by decide)).trans h52
          clear h52
          obtain ⟨w50, h50, r50⟩ := hp 4 (by decide)
          have e50 : (ac.tmps[50]?).getD undef = .bool true := (ha 50 (by decide)).trans h50
          clear h50
          clear ha hp
          refine Reg.Op1.guarded rfl rfl e50 (fun _ => Reg.Op1.plain rfl ?_) (fun h => absurd rfl h)
          go_wp2
          exact ⟨rfl, hK _ _ rfl (fun j k _ _ => Reg.Adds.refl _ _ _)⟩
        · intro val ac u hR hp ha K hK      -- 8: t54 := Op.indexAddr 34 t51 t53
          obtain ⟨w51, h51, r51⟩ := hp 5 (by decide)
          have e51 : (ac.tmps[51]?).getD undef = .slice (some ⟨g, o, none⟩) (ss.length + 1) dL := (ha 51 (by decide)).trans h51
          clear h51
          obtain ⟨w53, h53, r53⟩ := hp 7 (by decide)
          have e53 : (ac.tmps[53]?).getD undef = .int .i64 ((ss.length : Nat) : Int) := (ha 53 (by decide)).trans h53
          clear h53
          obtain ⟨w50, h50, r50⟩ := hp 4 (by decide)
          have e50 : (ac.tmps[50]?).getD undef = .bool true := (ha 50 (by decide)).trans h50
          clear h50
          clear ha hp
          refine Reg.Op1.guarded rfl rfl e50 (fun _ => Reg.Op1.plain rfl ?_) (fun h => absurd rfl h)
          go_wp2
          exact ⟨rfl, hK _ _ rfl (fun j k _ _ => Reg.Adds.refl _ _ _)⟩
        · intro val ac u hR hp ha K hK      -- 9: t55 := Op.fieldAddr 23 t54 0
          obtain ⟨w54, h54, r54⟩ := hp 8 (by decide)
          have e54 : (ac.tmps[54]?).getD undef = .pointer (some ⟨g, o + ss.length * 3, none⟩) := (ha 54 (by decide)).trans h54
          clear h54
          obtain ⟨w50, h50, r50⟩ := hp 4 (by decide)
          have e50 : (ac.tmps[50]?).getD undef = .bool true := (ha 50 (by decide)).trans h50
          clear h50
          clear ha hp
          refine Reg.Op1.guarded rfl rfl e50 (fun _ => Reg.Op1.plain rfl ?_) (fun h => absurd rfl h)
          go_wp2
          exact ⟨rfl, hK _ _ rfl (fun j k _ _ => Reg.Adds.refl _ _ _)⟩
        · intro val ac u hR hp ha K hK      -- 10: t56 := Op.load 3 t55
          obtain ⟨w55, h55, r55⟩ := hp 9 (by decide)
          have e55 : (ac.tmps[55]?).getD undef = .pointer (some ⟨g, o + ss.length * 3, none⟩) := (ha 55 (by decide)).trans h55
          clear h55
          obtain ⟨w50, h50, r50⟩ := hp 4 (by decide)
          have e50 : (ac.tmps[50]?).getD undef = .bool true := (ha 50 (by decide)).trans h50
          clear h50
          clear ha hp
          refine Reg.Op1.guarded rfl rfl e50 (fun _ => Reg.Op1.plain rfl ?_) (fun h => absurd rfl h)
          have hbu := (HBr.out.drew.trans (Below.mono hR HBr.out.size))
          have x0 := Mem.Rd.cells0 (HL6.out.below (hbu.mono (Nat.le_of_lt hz6))) (k := ss.length * 3) (by simp [hcl])
          have x1 : (ss.flatMap Stamp.stCells ++ [.int .i64 (-77), .int .i64 0, .int .i64 0])[ss.length * 3]'(by simp [hcl]) = .int .i64 (-77) := by rw [List.getElem_append_right (by omega)]; simp [hcl]
          rw [x1] at x0
          clear hbu x1
          go_wp2
          exact ⟨rfl, hK _ _ rfl (fun j k _ _ => Reg.Adds.refl _ _ _)⟩
        · intro val ac u hR hp ha K hK      -- 11: t57 := Op.binOp BinOp.eql 3 t56 (const (Value.int IntKind.i64 (-77))) 3
          obtain ⟨w56, h56, r56⟩ := hp 10 (by decide)
          have e56 : (ac.tmps[56]?).getD undef = .int .i64 (-77) := (ha 56 (by decide)).trans h56
          clear h56
          obtain ⟨w50, h50, r50⟩ := hp 4 (by decide)
          have e50 : (ac.tmps[50]?).getD undef = .bool true := (ha 50 (by decide)).trans h50
          clear h50
          clear ha hp
          refine Reg.Op1.guarded rfl rfl e50 (fun _ => Reg.Op1.plain rfl ?_) (fun h => absurd rfl h)
          go_wp2
          exact ⟨rfl, hK _ _ rfl (fun j k _ _ => Reg.Adds.refl _ _ _)⟩
        · intro val ac u hR hp ha K hK      -- 12: t58 := Op.pick t50 t57 (const (Value.bool false))
          obtain ⟨w50, h50, r50⟩ := hp 4 (by decide)
          have e50 : (ac.tmps[50]?).getD undef = .bool true := (ha 50 (by decide)).trans h50
          clear h50
          obtain ⟨w57, h57, r57⟩ := hp 11 (by decide)
          have e57 : (ac.tmps[57]?).getD undef = .bool true := (ha 57 (by decide)).trans h57
          clear h57
          clear ha hp
          refine Reg.Op1.plain rfl ?_
          go_wp2
          exact ⟨rfl, hK _ _ rfl (fun j k _ _ => Reg.Adds.refl _ _ _)⟩
        · intro val ac u hR hp ha K hK      -- 13: t2 := Op.assign t58
          obtain ⟨w58, h58, r58⟩ := hp 12 (by decide)
          have e58 : (ac.tmps[58]?).getD undef = .bool true := (ha 58 (by decide)).trans h58
          clear h58
          clear ha hp
          refine Reg.Op1.plain rfl ?_
          go_wp2
          exact ⟨rfl, hK _ _ rfl (fun j k _ _ => Reg.Adds.refl _ _ _)⟩
      · intro val u hR H
        obtain ⟨w58, hv, hr⟩ := H 13 (by decide)
        have hv : val 13 = .bool true := hv
        simp only [List.map_cons, List.map_nil, Reg.lay, Act.put, List.setIfInBounds_toArray, List.set_cons_succ, List.set_cons_zero, Nat.reduceAdd, hv]
        have HBu := Lib.hid (HBr.out.drew.trans (Below.mono hR HBr.out.size))
        clear hv hr H hR
        go_wp2
        go_ret
        exact ⟨rfl, HB6.out.trans (HBu.out.mono HB6.out.size)⟩
theorem opened {H : Type} (enc : TypeId × Value → H) (W : World) (base : Nat) (v0 : Value) {d0 : DataW H} {p0 : List MemPlace}
    (o0 : Value.okWide Try.prog W .any base 34 v0) (k0 : DataW.Trod enc Try.prog W 0 (fun _ => true) true 34 v0 d0 p0) :
    Calls Try.prog 7 #[v0] W fun e w' => e = .returned (.bool true) ∧ Below W.heap.size W w' := by
  obtain ⟨A, c, ss, rfl, h1, h2, h3⟩ := open_stamps o0 k0
  by_cases hb : 100000 < ss.length
  · have hbd : decide ((100000 : Int) < (ss.length : Int)) = true := by simp; omega
    clear hb h1 h2 h3 k0 o0
    go_enter Try.func7, Try.ntmps7
    go_wp2_with (go_at_call 9; refine (stampAble_any _).mono ?_; rintro e w1 ⟨rfl, hb1⟩)
    go_ret
    exact ⟨rfl, hb1⟩
  · exact walk A c ss W h3 (by omega)
end stampMaxOpen
end Go.Proofs.Ythoklehmbkjkbaa
