/- The walk of ServePrefix. No conditions. (Printed by wip/mkprefix.py.) -/
import Derived.Test.YtiibgkgbghganaaServe7
import Derived.Test.YtiibgkgbghganaaVec3
namespace Go.Proofs.Ytiibgkgbghganaa
open Go.ChangeShapes Go.WideShapes Go.ChangeAt Go.RowKit
set_option linter.unusedVariables false

namespace Vec
structure NMid (w3 : World) (KL : Nat) (v12 : Value) (wx : World) : Prop where
  out : ∃ n : Nat, n ≤ KL ∧ v12 = .int .i64 n ∧ Below w3.heap.size w3 wx
structure RdMid2 (w3 : World) (R : Ans) (v : Value) (wx : World) : Prop where
  out : ∃ s, v = .pointer (some ⟨s, 0, none⟩) ∧ w3.heap.size ≤ s ∧ ABx wx s R ∧ Below w3.heap.size w3 wx
end Vec
namespace servePrefixOpen
open Vec
set_option maxRecDepth 20000 in
set_option maxHeartbeats 16000000 in
theorem walk (rng : Int) (A : Option Addr) (c : Nat) (es : List Ent) (key : ByteArray) (atv : Vc) (k : Int) (w : World) (hr : Mem.Rd w w.heap.size A (es.flatMap entCells)) (hn : es.length ≤ 8796093022208) (hd : ∀ e ∈ es, EntIn e) (hks : key.size ≤ 140737488351232)
    (hk : -9223372036854775808 ≤ k ∧ k ≤ 9223372036854775807) :
    Calls Try.prog 6 #[.int .i64 rng, .slice A es.length c, .string key, .agg (vcCells atv).toArray, .int .i64 k] w fun e w' => e = .returned (.bool true) ∧ Below w.heap.size w w' := by
  have HR := Lib.hid hr
  have HD := Lib.hid hd
  clear hr hd
  go_enter Try.func6, Try.ntmps6
  go_upto_region 1 with fail
  obtain ⟨wq, hwq⟩ : ∃ wq, w.alloc (.cells (vcCells atv).toArray 31) = wq := ⟨_, rfl⟩
  have HVq : Hid (VBx wq w.heap.size atv) := by show VBx _ _ _; rw [← hwq]; exact Mem.Bx.new w 31 (vcCells atv).toArray rfl rfl
  have HBq : Hid (Below w.heap.size w wq) := by show Below _ _ _; rw [← hwq]; exact Reg.below_new _ _
  have hbq := HBq.out
  change Code.wp _ _ _ _ (w.alloc (.cells (vcCells atv).toArray 31))
  rw [hwq]
  clear hwq
  go_wp2_with fail
  refine (serveAble_any wq).mono ?_
  rintro x w1 ⟨rfl, hb1⟩
  have HB01 := Lib.hid hb1
  have HB1 := Lib.hid (hbq.trans (hb1.mono hbq.size))
  clear hb1
  go_wp2_with fail
  refine (much_any A c es w w1 HR.out (by omega) HD.out HB1.out).mono ?_
  rintro x w2 ⟨b, rfl, hbn, hb2⟩
  have HB2 := Lib.hid (HB1.out.trans (hb2.mono HB1.out.size))
  have HB02 := Lib.hid (hb2.mono (Nat.le_refl _))
  clear hb2
  by_cases hyes : b = true ∨ 1000 < key.size
  · rcases hyes with rfl | hk1
    · go_wp2
      go_ret
      exact ⟨rfl, HB2.out⟩
    · have hkd : decide ((1000 : Int) < (key.size : Int)) = true := by simp; omega
      cases b
      · go_wp2
        go_ret
        exact ⟨rfl, HB2.out⟩
      · go_wp2
        go_ret
        exact ⟨rfl, HB2.out⟩
  obtain rfl : b = false := by cases b; rfl; exact absurd (.inl rfl) hyes
  have hkd : decide ((1000 : Int) < (key.size : Int)) = false := by simp; omega
  have hn3 : es.length ≤ 300 := hbn rfl
  clear hyes hbn hn hks
  go_wp2_with fail
  refine (numbered_any rng A c es w.heap.size w2 (HR.out.below HB2.out) HB2.out.size (by omega)).mono ?_
  rintro x w3 ⟨KL, A2, c2, hK, rfl, hO, hNB, hRE, hb3⟩
  have HB3 := Lib.hid (HB2.out.trans (hb3.mono HB2.out.size))
  have HB03 := Lib.hid hb3
  obtain ⟨ls, hls⟩ : ∃ ls, es.take KL = ls := ⟨_, rfl⟩
  have hll : ls.length = KL := by rw [← hls, List.length_take]; omega
  rw [hls] at hO hNB hRE
  have HO := Lib.hid hO
  have HNB := Lib.hid hNB
  have hK3 : KL ≤ 300 := by omega
  have hKc : KL ≤ c2 := hO.le
  clear hO hNB hRE hls hK hkd hb3
  have HV3 : Hid (VBx w3 w.heap.size atv) := ((HVq.out.below HB01.out HVq.out.lt).below HB02.out (Nat.lt_of_lt_of_le HVq.out.lt HB01.out.size)).below HB03.out (Nat.lt_of_lt_of_le (Nat.lt_of_lt_of_le HVq.out.lt HB01.out.size) HB02.out.size)
  clear HVq HBq hbq HB01 HB02 HB03
  go_upto_if 33 with fail
  go_cut [12] (fun v12 wx => NMid w3 KL v12 wx)
  case first =>
    by_cases h0 : 0 < KL
    · have d0 : decide ((0 : Int) < (KL : Int)) = true := by simp; omega
      obtain ⟨n, hn, hn2⟩ := mod_idx k hK3
      have HN2 := Lib.hid hn2
      clear hn2
      go_wp2
      go_meet
      case rel => exact ⟨⟨n, hn, by rw [← HN2.out], Below.refl _ _⟩⟩
    · have d0 : decide ((0 : Int) < (KL : Int)) = false := by simp; omega
      go_wp2
      go_meet
      case rel => exact ⟨⟨0, by omega, rfl, Below.refl _ _⟩⟩
  case rest =>
    obtain ⟨n, hnK, rfl, hb4⟩ := hcut.out
    have HO4 : Hid (Mem.Own wc 33 20 A2 KL c2 (ls.flatMap entCells)) := HO.out.keeps (Mem.Keeps.of_below hb4) (fun _ _ h => h)
    have HB4 : Hid (Below w.heap.size w wc) := HB3.out.trans (hb4.mono HB3.out.size)
    have HV4 : Hid (VBx wc w.heap.size atv) := HV3.out.below hb4 HV3.out.lt
    clear hb4 hcut HO HB3 HV3
    rename World => w4
    have hnc : n ≤ c2 := by omega
    have x0 := HV4.out.cell (j := 0) rfl
    have x1 := HV4.out.cell (j := 1) rfl
    have x2 := HV4.out.cell (j := 2) rfl
    have x3 := HV4.out.cell (j := 3) rfl
    have x4 := HV4.out.cell (j := 4) rfl
    have x5 := HV4.out.cell (j := 5) rfl
    have x6 := HV4.out.cell (j := 6) rfl
    have x7 := HV4.out.cell (j := 7) rfl
    have x8 := HV4.out.cell (j := 8) rfl
    have hq1 := qy_one (qS key atv)
    go_upto_region 10 with ((with_reducible refine Mem.store_agg _ _ query_agg w4.heap.size (qyCells (qL ByteArray.empty)) (qyCells (qS key atv)) ?hxa ?hya ?hba (qyCells_length _) hq1 ?_); ((case hxa => exact rfl); (case hya => exact rfl); (case hba => exact Mem.Bx.new w4 _ (qyCells (qL ByteArray.empty)).toArray rfl rfl); intro w5 hb2 hk2 hs2))
    have HQ5 : Hid (QBx w5 w4.heap.size (qS key atv)) := hb2
    have HK5 : Hid (Below w4.heap.size w4 w5) := (hk2.newBox rfl).belowAll
    have HB5 : Hid (Below w.heap.size w w5) := HB4.out.trans (HK5.out.mono HB4.out.size)
    have HO5 : Hid (Mem.Own w5 33 20 A2 KL c2 (ls.flatMap entCells)) := HO4.out.keeps (Mem.Keeps.of_below HK5.out) (fun _ _ h => h)
    obtain ⟨gq, hgq⟩ : ∃ gq, w4.heap.size = gq := ⟨_, rfl⟩
    rw [hgq] at HQ5 ⊢
    clear hgq hb2 hk2 hs2 HK5 HB4 HO4 HV4 x0 x1 x2 x3 x4 x5 x6 x7 x8 hq1
    obtain ⟨Ra, hRR⟩ : ∃ Ra, Vec.read rng (qS key atv) (ls.take n) = Ra := ⟨_, rfl⟩
    have HRA := Lib.hid hRR
    have hlm : (ls.take n).length = n := by rw [List.length_take]; omega
    have hol := ents_len (ls.take n)
    rw [hlm] at hol
    have hoo := ents_one (ls.take n)
    have HRX : Hid (∀ (A1 : Option Addr) (c1 : Nat) (w4 : World), Mem.Rd w4 w4.heap.size A1 ((ls.take n).flatMap entCells) → Calls Try.prog 11 #[.int .i64 rng, .agg (qyCells (qS key atv)).toArray, .slice A1 n c1] w4 fun e w' => e = .returned (.agg (ansCells Ra).toArray) ∧ Below w4.heap.size w4 w') := fun A1 c1 w4 h => by
      have h9 := read_any rng (qS key atv) A1 c1 (ls.take n) w4.heap.size w4 h (Nat.le_refl _) (by omega)
      rwa [hlm, hRR] at h9
    have HRL : Hid (∀ u, Mem.Keeps (fun _ => False ∨ False) w5 u → Mem.Rd u u.heap.size A2 ((ls.take n).flatMap entCells)) := fun u hq => by
      have h9 := (HO5.out.keeps hq (fun _ _ h => h.elim id id)).rd
      have h8 := h9.take (n * 20)
      rwa [Mem.flat_take entCells_length] at h8
    clear hRR
    go_upto_region 10 with fail
    go_cut [14] (fun v wx => RdMid2 w5 Ra v wx)
    case first =>
      clear hk
      refine Reg.wp_region_z (by kernel_rfl) 118 10 rfl rfl (by kernel_rfl) 90 91 (by decide) (9) (fun y => w5.heap.size ≤ y) (0) (fun _ => False) (0) (fun _ => False)
        (fun i f v u => match i with
          | 0 => v = .int .i64 rng
          | 1 => v = .agg (qyCells (qS key atv)).toArray
          | 2 => ∃ s0, v = .slice (some ⟨s0, 0, none⟩) 0 0 ∧ Mem.Own u 33 20 (some ⟨s0, 0, none⟩) 0 0 []
          | 3 => v = .slice A2 KL c2
          | 4 => v = .int .i64 n
          | 5 => v = .slice A2 n c2
          | 6 => ∃ A1 c1, v = .slice A1 n c1 ∧ Mem.Own u 33 20 A1 n c1 ((ls.take n).flatMap entCells)
          | 7 => v = .agg (ansCells Ra).toArray
          | 8 => ∃ s, v = .pointer (some ⟨s, 0, none⟩) ∧ w5.heap.size ≤ s ∧ ABx u s ans0
          | 9 => ∃ s, f 14 = .pointer (some ⟨s, 0, none⟩) ∧ w5.heap.size ≤ s ∧ ABx u s Ra
          | _ => True) ?_ ?_
      · refine Reg.StepsZ.cons ?_ (Reg.StepsZ.cons ?_ (Reg.StepsZ.cons ?_ (Reg.StepsZ.cons ?_ (Reg.StepsZ.cons ?_ (Reg.StepsZ.cons ?_ (Reg.StepsZ.cons ?_ (Reg.StepsZ.cons ?_ (Reg.StepsZ.cons ?_ (Reg.StepsZ.cons ?_ (Reg.StepsZ.nil _))))))))))
        · intro val ac u hR hp hpq ha K hK0      -- 0: t50 := Op.move t0
          have hK := fun v w' h1 h2 => hK0 v w' h1 h2 (fun j f v' h _ => by omega)
          have e0 : (ac.tmps[0]?).getD undef = .int .i64 rng := ha 0 (by decide)
          clear ha hp
          refine Reg.Op1.plain rfl ?_
          go_wp2
          exact ⟨rfl, hK _ _ rfl (Reg.Wr.same _)⟩
        · intro val ac u hR hp hpq ha K hK0      -- 1: t51 := Op.load 39 t13
          have hK := fun v w' h1 h2 => hK0 v w' h1 h2 (fun j f v' h _ => by omega)
          have e13 : (ac.tmps[13]?).getD undef = .pointer (some ⟨gq, 0, none⟩) := ha 13 (by decide)
          clear ha hp
          refine Reg.Op1.plain rfl ?_
          have hq : Mem.Keeps (fun _ => False ∨ False) w5 u := (Mem.Keeps.refl (fun _ => False ∨ False) w5).drew.trans (Reg.Wr.not1 hR (by decide +kernel)) (fun _ h _ => h)
          have hQu := HQ5.out.keeps hq (fun h => h.elim id id)
          refine Mem.load_agg _ _ query_agg gq 0 (qyCells (qS key atv)) (Reg.eval_of e13) (qyCells_length _) (fun j u' hu => by rw [Nat.zero_add]; exact hQu.cell hu) ?_
          exact ⟨rfl, hK _ _ rfl (Reg.Wr.same _)⟩
        · intro val ac u hR hp hpq ha K hK0      -- 2: t52 := Op.buildSlice 22 0 #[]
          have hK := fun v w' h1 h2 => hK0 v w' h1 h2 (fun j f v' h _ => by omega)
          clear ha hp
          refine Reg.Op1.plain rfl ?_
          go_wp2
          exact ⟨rfl, hK _ _ ⟨u.heap.size, rfl, Mem.Own.lit u _ 20 #[] 0 rfl rfl (by simp [maxLen])⟩ (Reg.Wr.quiet ((Mem.Keeps.refl _ u).alloc _))⟩
        · intro val ac u hR hp hpq ha K hK0      -- 3: t53 := Op.move t11
          have hK := fun v w' h1 h2 => hK0 v w' h1 h2 (fun j f v' h _ => by omega)
          have e11 : (ac.tmps[11]?).getD undef = .slice A2 KL c2 := ha 11 (by decide)
          clear ha hp
          refine Reg.Op1.plain rfl ?_
          go_wp2
          exact ⟨rfl, hK _ _ rfl (Reg.Wr.same _)⟩
        · intro val ac u hR hp hpq ha K hK0      -- 4: t54 := Op.move t12
          have hK := fun v w' h1 h2 => hK0 v w' h1 h2 (fun j f v' h _ => by omega)
          have e12 : (ac.tmps[12]?).getD undef = .int .i64 n := ha 12 (by decide)
          clear ha hp
          refine Reg.Op1.plain rfl ?_
          go_wp2
          exact ⟨rfl, hK _ _ rfl (Reg.Wr.same _)⟩
        · intro val ac u hR hp hpq ha K hK0      -- 5: t55 := Op.slice 22 t53 none (some t54) none
          have hK := fun v w' h1 h2 => hK0 v w' h1 h2 (fun j f v' h _ => by omega)
          obtain ⟨w53, h53, r53⟩ := hp 3 (by decide)
          have e53 : (ac.tmps[53]?).getD undef = .slice A2 KL c2 := (ha 53 (by decide)).trans h53
          clear h53
          obtain ⟨w54, h54, r54⟩ := hp 4 (by decide)
          have e54 : (ac.tmps[54]?).getD undef = .int .i64 n := (ha 54 (by decide)).trans h54
          clear h54
          clear ha hp
          refine Reg.Op1.plain rfl ?_
          go_wp2
          exact ⟨rfl, hK _ _ rfl (Reg.Wr.same _)⟩
        · intro val ac u hR hp hpq ha K hK0      -- 6: t56 := Op.call { builtin append, args := #[t52, t55], argTypes := #[22, 22] }
          have hK := fun v w' h1 h2 => hK0 v w' h1 h2 (fun j f v' h _ => by omega)
          obtain ⟨w52, h52, r52⟩ := hp 2 (by decide)
          have e52 : (ac.tmps[52]?).getD undef = val 2 := ha 52 (by decide)
          obtain ⟨w55, h55, r55⟩ := hp 5 (by decide)
          have e55 : (ac.tmps[55]?).getD undef = .slice A2 n c2 := (ha 55 (by decide)).trans h55
          clear h55
          clear ha hp
          refine Reg.Op1.plain rfl ?_
          obtain ⟨s0, hv, ho⟩ := h52
          rw [hv] at e52
          have ho' := ho.keeps (Reg.Wr.not1 r52 (by decide +kernel)) (fun _ _ h => h.elim id id)
          have hq : Mem.Keeps (fun _ => False ∨ False) w5 u := (Mem.Keeps.refl (fun _ => False ∨ False) w5).drew.trans (Reg.Wr.not1 hR (by decide +kernel)) (fun _ h _ => h)
          have hrd : Mem.Rd u u.heap.size A2 ((ls.take n).flatMap entCells) := HRL.out u hq
          refine Mem.wpList_app0 u rfl (.tmp 52) (.tmp 55) _ rfl entries_elem (some ⟨s0, 0, none⟩) (Reg.eval_of e52) u.heap.size A2 n c2 ((ls.take n).flatMap entCells) (Reg.eval_of e55) ?_ ho' hrd hol hoo (by unfold maxLen; omega) (by omega)
          intro A' c' w' hown hbl hat
          exact ⟨rfl, hK _ _ ⟨A', c', rfl, hown⟩ (Reg.Wr.below hbl)⟩
        · intro val ac u hR hp hpq ha K hK0      -- 7: t57 := Op.call { value (Operand.func 11), args := #[t50, t51, t56], argTypes := #[3, 39, 22] }
          have hK := fun v w' h1 h2 => hK0 v w' h1 h2 (fun j f v' h _ => by omega)
          obtain ⟨w50, h50, r50⟩ := hp 0 (by decide)
          have e50 : (ac.tmps[50]?).getD undef = .int .i64 rng := (ha 50 (by decide)).trans h50
          clear h50
          obtain ⟨w51, h51, r51⟩ := hp 1 (by decide)
          have e51 : (ac.tmps[51]?).getD undef = .agg (qyCells (qS key atv)).toArray := (ha 51 (by decide)).trans h51
          clear h51
          obtain ⟨w56, h56, r56⟩ := hp 6 (by decide)
          have e56 : (ac.tmps[56]?).getD undef = val 6 := ha 56 (by decide)
          clear ha hp
          refine Reg.Op1.plain rfl ?_
          obtain ⟨A1, c1, hv, ho⟩ := h56
          rw [hv] at e56
          have ho' := ho.keeps (Reg.Wr.not1 r56 (by decide +kernel)) (fun _ _ h => h.elim id id)
          go_wp2_with fail
          refine (HRX.out A1 c1 u ho'.rd).mono ?_
          rintro x w' ⟨rfl, hbw⟩
          go_wp2_with fail
          exact ⟨rfl, hK _ _ rfl (Reg.Wr.below hbw)⟩
        · intro val ac u hR hp hpq ha K hK0      -- 8: t14 := Op.alloc 42
          have hK := fun v w' h1 h2 => hK0 v w' h1 h2 (fun j f v' h _ => by omega)
          clear ha hp
          refine Reg.Op1.plain rfl ?_
          have hbu : w5.heap.size ≤ u.heap.size := (Reg.Wr.all hR).size
          go_wp2
          exact ⟨rfl, hK _ _ ⟨u.heap.size, rfl, hbu, Mem.Bx.new u 42 (ansCells ans0).toArray rfl rfl⟩ (Reg.Wr.quiet ((Mem.Keeps.refl _ u).alloc _))⟩
        · intro val ac u hR hp hpq ha K hK0      -- 9: Op.store 42 t14 t57
          have hK := fun v w' h1 h2 => hK0 v w' h1 h2 (fun j f v' h _ => by omega)
          obtain ⟨w14, h14, r14⟩ := hp 8 (by decide)
          have e14 : (ac.tmps[14]?).getD undef = val 8 := ha 14 (by decide)
          obtain ⟨w57, h57, r57⟩ := hp 7 (by decide)
          have e57 : (ac.tmps[57]?).getD undef = .agg (ansCells Ra).toArray := (ha 57 (by decide)).trans h57
          clear h57
          clear ha hp
          refine Reg.Op1.plain rfl ?_
          obtain ⟨s, hv, hs, hbx⟩ := h14
          have hv7 := hv
          rw [hv] at e14
          have hbx' : ABx u s ans0 := hbx.keeps (Reg.Wr.not1 r14 (by decide +kernel)) (fun h => h.elim id id)
          refine Mem.store_agg _ _ answer_agg s (ansCells ans0) (ansCells Ra) (Reg.eval_of e14) (Reg.eval_of e57) hbx' (ansCells_length _) (ans_one _) ?_
          intro w' hb hk hs'
          exact ⟨rfl, hK undef _ ⟨s, hv7, hs, hb⟩ (Reg.Wr.does1 (hk.mono (fun i h _ => by show w5.heap.size ≤ i; omega)))⟩
      · intro val u hR H hZ
        obtain ⟨wA, ⟨s, hv7, hs, hb⟩, rA⟩ := H 9 (by decide)
        have hv7 : val 8 = .pointer (some ⟨s, 0, none⟩) := hv7
        have hq : Mem.Keeps (fun y => w5.heap.size ≤ y ∨ False ∨ False) w5 u := (Mem.Keeps.refl (fun y => w5.heap.size ≤ y ∨ False ∨ False) w5).drew.trans (Reg.Wr.all hR) (fun _ h _ => h)
        have HM : Hid (RdMid2 w5 Ra (val 8) u) := ⟨⟨s, hv7, hs, hb.keeps (Reg.Wr.not1 rA (by decide +kernel)) (fun h => h.elim id id), hq.below (B := w5.heap.size) (fun y h => by rcases h with h | h | h <;> first | exact h | exact h.elim) (Nat.le_refl _)⟩⟩
        simp only [List.map_cons, List.map_nil, Reg.lay, Act.put, List.setIfInBounds_toArray, List.set_cons_succ, List.set_cons_zero, Nat.reduceAdd]
        clear hR H hZ hq hb rA hv7
        go_wp2
        go_meet
        case rel => exact HM.out
    case rest =>
      obtain ⟨sa, rfl, hsa, hA6, hb6⟩ := hcut.out
      have HA6 : Hid (ABx wc sa Ra) := hA6
      have HQ6 : Hid (QBx wc gq (qS key atv)) := HQ5.out.below hb6 HQ5.out.lt
      have HB6 : Hid (Below w.heap.size w wc) := HB5.out.trans (hb6.mono HB5.out.size)
      have HO6 : Hid (Mem.Own wc 33 20 A2 KL c2 (ls.flatMap entCells)) := HO5.out.keeps (Mem.Keeps.of_below hb6) (fun _ _ h => h)
      clear hA6 hb6 hcut HQ5 HB5 HO5 HRX HRL hol hoo hlm hsa
      rename World => w6
      obtain ⟨Rb, hRR⟩ : ∃ Rb, Vec.read rng (qS key atv) (ls) = Rb := ⟨_, rfl⟩
      have HRB := Lib.hid hRR
      have hlm : (ls).length = KL := by exact hll
      have hol := ents_len (ls)
      rw [hlm] at hol
      have hoo := ents_one (ls)
      have HRX : Hid (∀ (A1 : Option Addr) (c1 : Nat) (w4 : World), Mem.Rd w4 w4.heap.size A1 ((ls).flatMap entCells) → Calls Try.prog 11 #[.int .i64 rng, .agg (qyCells (qS key atv)).toArray, .slice A1 KL c1] w4 fun e w' => e = .returned (.agg (ansCells Rb).toArray) ∧ Below w4.heap.size w4 w') := fun A1 c1 w4 h => by
        have h9 := read_any rng (qS key atv) A1 c1 (ls) w4.heap.size w4 h (Nat.le_refl _) (by omega)
        rwa [hlm, hRR] at h9
      have HRL : Hid (∀ u, Mem.Keeps (fun _ => False ∨ False) w6 u → Mem.Rd u u.heap.size A2 ((ls).flatMap entCells)) := fun u hq => by
        have h9 := (HO6.out.keeps hq (fun _ _ h => h.elim id id)).rd
        exact h9
      clear hRR
      go_upto_region 11 with fail
      go_cut [15] (fun v wx => RdMid2 w6 Rb v wx)
      case first =>
        refine Reg.wp_region_z (by kernel_rfl) 118 8 rfl rfl (by kernel_rfl) 90 91 (by decide) (7) (fun y => w6.heap.size ≤ y) (0) (fun _ => False) (0) (fun _ => False)
          (fun i f v u => match i with
            | 0 => v = .int .i64 rng
            | 1 => v = .agg (qyCells (qS key atv)).toArray
            | 2 => ∃ s0, v = .slice (some ⟨s0, 0, none⟩) 0 0 ∧ Mem.Own u 33 20 (some ⟨s0, 0, none⟩) 0 0 []
            | 3 => v = .slice A2 KL c2
            | 4 => ∃ A1 c1, v = .slice A1 KL c1 ∧ Mem.Own u 33 20 A1 KL c1 ((ls).flatMap entCells)
            | 5 => v = .agg (ansCells Rb).toArray
            | 6 => ∃ s, v = .pointer (some ⟨s, 0, none⟩) ∧ w6.heap.size ≤ s ∧ ABx u s ans0
            | 7 => ∃ s, f 15 = .pointer (some ⟨s, 0, none⟩) ∧ w6.heap.size ≤ s ∧ ABx u s Rb
            | _ => True) ?_ ?_
        · refine Reg.StepsZ.cons ?_ (Reg.StepsZ.cons ?_ (Reg.StepsZ.cons ?_ (Reg.StepsZ.cons ?_ (Reg.StepsZ.cons ?_ (Reg.StepsZ.cons ?_ (Reg.StepsZ.cons ?_ (Reg.StepsZ.cons ?_ (Reg.StepsZ.nil _))))))))
          · intro val ac u hR hp hpq ha K hK0      -- 0: t58 := Op.move t0
            have hK := fun v w' h1 h2 => hK0 v w' h1 h2 (fun j f v' h _ => by omega)
            have e0 : (ac.tmps[0]?).getD undef = .int .i64 rng := ha 0 (by decide)
            clear ha hp
            refine Reg.Op1.plain rfl ?_
            go_wp2
            exact ⟨rfl, hK _ _ rfl (Reg.Wr.same _)⟩
          · intro val ac u hR hp hpq ha K hK0      -- 1: t59 := Op.load 39 t13
            have hK := fun v w' h1 h2 => hK0 v w' h1 h2 (fun j f v' h _ => by omega)
            have e13 : (ac.tmps[13]?).getD undef = .pointer (some ⟨gq, 0, none⟩) := ha 13 (by decide)
            clear ha hp
            refine Reg.Op1.plain rfl ?_
            have hq : Mem.Keeps (fun _ => False ∨ False) w6 u := (Mem.Keeps.refl (fun _ => False ∨ False) w6).drew.trans (Reg.Wr.not1 hR (by decide +kernel)) (fun _ h _ => h)
            have hQu := HQ6.out.keeps hq (fun h => h.elim id id)
            refine Mem.load_agg _ _ query_agg gq 0 (qyCells (qS key atv)) (Reg.eval_of e13) (qyCells_length _) (fun j u' hu => by rw [Nat.zero_add]; exact hQu.cell hu) ?_
            exact ⟨rfl, hK _ _ rfl (Reg.Wr.same _)⟩
          · intro val ac u hR hp hpq ha K hK0      -- 2: t60 := Op.buildSlice 22 0 #[]
            have hK := fun v w' h1 h2 => hK0 v w' h1 h2 (fun j f v' h _ => by omega)
            clear ha hp
            refine Reg.Op1.plain rfl ?_
            go_wp2
            exact ⟨rfl, hK _ _ ⟨u.heap.size, rfl, Mem.Own.lit u _ 20 #[] 0 rfl rfl (by simp [maxLen])⟩ (Reg.Wr.quiet ((Mem.Keeps.refl _ u).alloc _))⟩
          · intro val ac u hR hp hpq ha K hK0      -- 3: t61 := Op.move t11
            have hK := fun v w' h1 h2 => hK0 v w' h1 h2 (fun j f v' h _ => by omega)
            have e11 : (ac.tmps[11]?).getD undef = .slice A2 KL c2 := ha 11 (by decide)
            clear ha hp
            refine Reg.Op1.plain rfl ?_
            go_wp2
            exact ⟨rfl, hK _ _ rfl (Reg.Wr.same _)⟩
          · intro val ac u hR hp hpq ha K hK0      -- 4: t62 := Op.call { builtin append, args := #[t60, t61], argTypes := #[22, 22] }
            have hK := fun v w' h1 h2 => hK0 v w' h1 h2 (fun j f v' h _ => by omega)
            obtain ⟨w60, h60, r60⟩ := hp 2 (by decide)
            have e60 : (ac.tmps[60]?).getD undef = val 2 := ha 60 (by decide)
            obtain ⟨w61, h61, r61⟩ := hp 3 (by decide)
            have e61 : (ac.tmps[61]?).getD undef = .slice A2 KL c2 := (ha 61 (by decide)).trans h61
            clear h61
            clear ha hp
            refine Reg.Op1.plain rfl ?_
            obtain ⟨s0, hv, ho⟩ := h60
            rw [hv] at e60
            have ho' := ho.keeps (Reg.Wr.not1 r60 (by decide +kernel)) (fun _ _ h => h.elim id id)
            have hq : Mem.Keeps (fun _ => False ∨ False) w6 u := (Mem.Keeps.refl (fun _ => False ∨ False) w6).drew.trans (Reg.Wr.not1 hR (by decide +kernel)) (fun _ h _ => h)
            have hrd : Mem.Rd u u.heap.size A2 ((ls).flatMap entCells) := HRL.out u hq
            refine Mem.wpList_app0 u rfl (.tmp 60) (.tmp 61) _ rfl entries_elem (some ⟨s0, 0, none⟩) (Reg.eval_of e60) u.heap.size A2 KL c2 ((ls).flatMap entCells) (Reg.eval_of e61) ?_ ho' hrd hol hoo (by unfold maxLen; omega) (by omega)
            intro A' c' w' hown hbl hat
            exact ⟨rfl, hK _ _ ⟨A', c', rfl, hown⟩ (Reg.Wr.below hbl)⟩
          · intro val ac u hR hp hpq ha K hK0      -- 5: t63 := Op.call { value (Operand.func 11), args := #[t58, t59, t62], argTypes := #[3, 39, 22] }
            have hK := fun v w' h1 h2 => hK0 v w' h1 h2 (fun j f v' h _ => by omega)
            obtain ⟨w58, h58, r58⟩ := hp 0 (by decide)
            have e58 : (ac.tmps[58]?).getD undef = .int .i64 rng := (ha 58 (by decide)).trans h58
            clear h58
            obtain ⟨w59, h59, r59⟩ := hp 1 (by decide)
            have e59 : (ac.tmps[59]?).getD undef = .agg (qyCells (qS key atv)).toArray := (ha 59 (by decide)).trans h59
            clear h59
            obtain ⟨w62, h62, r62⟩ := hp 4 (by decide)
            have e62 : (ac.tmps[62]?).getD undef = val 4 := ha 62 (by decide)
            clear ha hp
            refine Reg.Op1.plain rfl ?_
            obtain ⟨A1, c1, hv, ho⟩ := h62
            rw [hv] at e62
            have ho' := ho.keeps (Reg.Wr.not1 r62 (by decide +kernel)) (fun _ _ h => h.elim id id)
            go_wp2_with fail
            refine (HRX.out A1 c1 u ho'.rd).mono ?_
            rintro x w' ⟨rfl, hbw⟩
            go_wp2_with fail
            exact ⟨rfl, hK _ _ rfl (Reg.Wr.below hbw)⟩
          · intro val ac u hR hp hpq ha K hK0      -- 6: t15 := Op.alloc 42
            have hK := fun v w' h1 h2 => hK0 v w' h1 h2 (fun j f v' h _ => by omega)
            clear ha hp
            refine Reg.Op1.plain rfl ?_
            have hbu : w6.heap.size ≤ u.heap.size := (Reg.Wr.all hR).size
            go_wp2
            exact ⟨rfl, hK _ _ ⟨u.heap.size, rfl, hbu, Mem.Bx.new u 42 (ansCells ans0).toArray rfl rfl⟩ (Reg.Wr.quiet ((Mem.Keeps.refl _ u).alloc _))⟩
          · intro val ac u hR hp hpq ha K hK0      -- 7: Op.store 42 t15 t63
            have hK := fun v w' h1 h2 => hK0 v w' h1 h2 (fun j f v' h _ => by omega)
            obtain ⟨w15, h15, r15⟩ := hp 6 (by decide)
            have e15 : (ac.tmps[15]?).getD undef = val 6 := ha 15 (by decide)
            obtain ⟨w63, h63, r63⟩ := hp 5 (by decide)
            have e63 : (ac.tmps[63]?).getD undef = .agg (ansCells Rb).toArray := (ha 63 (by decide)).trans h63
            clear h63
            clear ha hp
            refine Reg.Op1.plain rfl ?_
            obtain ⟨s, hv, hs, hbx⟩ := h15
            have hv7 := hv
            rw [hv] at e15
            have hbx' : ABx u s ans0 := hbx.keeps (Reg.Wr.not1 r15 (by decide +kernel)) (fun h => h.elim id id)
            refine Mem.store_agg _ _ answer_agg s (ansCells ans0) (ansCells Rb) (Reg.eval_of e15) (Reg.eval_of e63) hbx' (ansCells_length _) (ans_one _) ?_
            intro w' hb hk hs'
            exact ⟨rfl, hK undef _ ⟨s, hv7, hs, hb⟩ (Reg.Wr.does1 (hk.mono (fun i h _ => by show w6.heap.size ≤ i; omega)))⟩
        · intro val u hR H hZ
          obtain ⟨wA, ⟨s, hv7, hs, hb⟩, rA⟩ := H 7 (by decide)
          have hv7 : val 6 = .pointer (some ⟨s, 0, none⟩) := hv7
          have hq : Mem.Keeps (fun y => w6.heap.size ≤ y ∨ False ∨ False) w6 u := (Mem.Keeps.refl (fun y => w6.heap.size ≤ y ∨ False ∨ False) w6).drew.trans (Reg.Wr.all hR) (fun _ h _ => h)
          have HM : Hid (RdMid2 w6 Rb (val 6) u) := ⟨⟨s, hv7, hs, hb.keeps (Reg.Wr.not1 rA (by decide +kernel)) (fun h => h.elim id id), hq.below (B := w6.heap.size) (fun y h => by rcases h with h | h | h <;> first | exact h | exact h.elim) (Nat.le_refl _)⟩⟩
          simp only [List.map_cons, List.map_nil, Reg.lay, Act.put, List.setIfInBounds_toArray, List.set_cons_succ, List.set_cons_zero, Nat.reduceAdd]
          clear hR H hZ hq hb rA hv7
          go_wp2
          go_meet
          case rel => exact HM.out
      case rest =>
        obtain ⟨sb, rfl, hsb, hA7, hb7⟩ := hcut.out
        have HBb : Hid (ABx wc sb Rb) := hA7
        have HA7 : Hid (ABx wc sa Ra) := HA6.out.below hb7 HA6.out.lt
        have HB7 : Hid (Below w.heap.size w wc) := HB6.out.trans (hb7.mono HB6.out.size)
        have HO7 : Hid (Mem.Own wc 33 20 A2 KL c2 (ls.flatMap entCells)) := HO6.out.keeps (Mem.Keeps.of_below hb7) (fun _ _ h => h)
        clear hA7 hb7 hcut HA6 HQ6 HB6 HO6 HRX HRL hol hoo hlm hsb
        rename World => w7
        go_upto_region 12 with fail
        go_cut [85] (fun v wx => v = .bool false ∧ Below w7.heap.size w7 wx)
        case first =>
          have a0 := HA7.out.cell (j := 0) rfl
          by_cases h0 : Ra.code = 0
          · have hps := prefix_same HNB.out key atv n (by rw [HRA.out]; exact h0)
            rw [HRA.out, HRB.out] at hps
            obtain ⟨hb0, hbh, hbe⟩ := hps
            have b0 := HBb.out.cell (j := 0) rfl
            have a1 := HA7.out.cell (j := 1) rfl
            have b1 := HBb.out.cell (j := 1) rfl
            rw [h0] at a0
            rw [hb0] at b0
            rw [hbh] at b1
            have e1 : ∀ W, (binOp .neq 33 (.agg (entCells Ra.ent).toArray) (.agg (entCells Rb.ent).toArray)).run Try.prog W = .ok (.bool false) W := fun W => by rw [hbe, neq_ent, eqEnt_iff.2 rfl]; rfl
            obtain ⟨fa, hfa⟩ : ∃ fa, Ra.has = fa := ⟨_, rfl⟩
            rw [hfa] at a1 b1
            clear h0 hb0 hbh hbe hfa
            go_wp2_with (first | ((with_reducible refine Mem.load_aggG _ _ entry_agg sa 2 (entCells Ra.ent) ?hwc ?hxc (entCells_length _) (HA7.out.part 2 rfl) ?_); ((case hwc => rfl); (case hxc => exact rfl))) | ((with_reducible refine Mem.load_aggG _ _ entry_agg sb 2 (entCells Rb.ent) ?hwd ?hxd (entCells_length _) (HBb.out.part 2 rfl) ?_); ((case hwd => rfl); (case hxd => exact rfl))))
            go_meet
            case rel => exact ⟨by simp, Below.refl _ _⟩
          · have d0 : (Ra.code == 0) = false := by simp [h0]
            go_wp2
            go_meet
            case rel => exact ⟨rfl, Below.refl _ _⟩
        case rest =>
          obtain ⟨rfl, hb8⟩ := hcut
          have HB8 : Hid (Below w.heap.size w wc) := HB7.out.trans (hb8.mono HB7.out.size)
          have HO8 : Hid (Mem.Own wc 33 20 A2 KL c2 (ls.flatMap entCells)) := HO7.out.keeps (Mem.Keeps.of_below hb8) (fun _ _ h => h)
          clear hb8 HB7 HO7 HA7 HBb HRA HRB
          rename World => w8
          by_cases hK0 : KL = 0
          · have dk : ((KL : Int) == 0) = true := by simp [hK0]
            go_wp2
            go_ret
            exact ⟨rfl, HB8.out⟩
          · have dk : ((KL : Int) == 0) = false := by simp; omega
            obtain ⟨col, hcol⟩ : ∃ col, column rng ls = col := ⟨_, rfl⟩
            obtain ⟨own, hown⟩ : ∃ own, Vec.lay vc0 rng col = own := ⟨_, rfl⟩
            have HCX : Hid (Calls Try.prog 12 #[.int .i64 rng, .slice A2 KL c2] w8 fun e w' => e = .returned (Vec.C col) ∧ Below w8.heap.size w8 w') := by
              show Calls _ _ _ _ _
              have h9 := column_any rng A2 c2 ls w8.heap.size w8 HO8.out.rd (Nat.le_refl _) (by unfold maxLen; omega)
              rwa [hll, hcol] at h9
            have HCOL := Lib.hid hcol
            have HOWN := Lib.hid hown
            have hv1 := vc_one own
            clear hcol hown
            go_upto_region 17 with (first | (go_at_call 12; refine HCX.out.mono ?_; rintro x u8 ⟨rfl, hb8⟩; have HU8 := Lib.hid hb8; clear hb8) | (go_at_call 16; refine (lay_any vc0 rng col u8).mono ?_; rintro x u9 ⟨rfl, hb9⟩; rw [HOWN.out]; have HU9 : Hid (Below w8.heap.size w8 u9) := HU8.out.trans (hb9.mono HU8.out.size); clear hb9) | ((with_reducible refine Mem.store_agg _ _ vec_agg u9.heap.size (vcCells vc0) (vcCells own) ?hxg ?hyg ?hbg (vcCells_length _) hv1 ?_); ((case hxg => exact rfl); (case hyg => exact rfl); (case hbg => exact Mem.Bx.new u9 _ (vcCells vc0).toArray rfl rfl); intro w9 hb2 hk2 hs2)))
            have HV9 : Hid (VBx w9 u9.heap.size own) := hb2
            have HK9 : Hid (Below w8.heap.size w8 w9) := HU9.out.trans ((hk2.newBox rfl).belowAll.mono HU9.out.size)
            have HB9 : Hid (Below w.heap.size w w9) := HB8.out.trans (HK9.out.mono HB8.out.size)
            have HO9 : Hid (Mem.Own w9 33 20 A2 KL c2 (ls.flatMap entCells)) := HO8.out.keeps (Mem.Keeps.of_below HK9.out) (fun _ _ h => h)
            obtain ⟨gv, hgv⟩ : ∃ gv, u9.heap.size = gv := ⟨_, rfl⟩
            rw [hgv] at HV9 ⊢
            clear hgv hb2 hk2 hs2 hv1 HK9 HU9 HU8 HB8 HO8 HCX
            obtain ⟨Rx, hRR⟩ : ∃ Rx, Vec.read rng (qS key own) (ls) = Rx := ⟨_, rfl⟩
            have HRX2 := Lib.hid hRR
            have hlm : (ls).length = KL := by exact hll
            have hol := ents_len (ls)
            rw [hlm] at hol
            have hoo := ents_one (ls)
            have HRX : Hid (∀ (A1 : Option Addr) (c1 : Nat) (w4 : World), Mem.Rd w4 w4.heap.size A1 ((ls).flatMap entCells) → Calls Try.prog 11 #[.int .i64 rng, .agg (qyCells (qS key own)).toArray, .slice A1 KL c1] w4 fun e w' => e = .returned (.agg (ansCells Rx).toArray) ∧ Below w4.heap.size w4 w') := fun A1 c1 w4 h => by
              have h9 := read_any rng (qS key own) A1 c1 (ls) w4.heap.size w4 h (Nat.le_refl _) (by omega)
              rwa [hlm, hRR] at h9
            have HRL : Hid (∀ u, Mem.Keeps (fun _ => False ∨ False) w9 u → Mem.Rd u u.heap.size A2 ((ls).flatMap entCells)) := fun u hq => by
              have h9 := (HO9.out.keeps hq (fun _ _ h => h.elim id id)).rd
              exact h9
            clear hRR
            go_upto_region 17 with fail
            go_cut [17] (fun v wx => RdMid2 w9 Rx v wx)
            case first =>
              refine Reg.wp_region_z (by kernel_rfl) 118 10 rfl rfl (by kernel_rfl) 90 91 (by decide) (9) (fun y => w9.heap.size ≤ y) (0) (fun _ => False) (0) (fun _ => False)
                (fun i f v u => match i with
                  | 0 => v = .int .i64 rng
                  | 1 => v = .string key
                  | 2 => v = .agg (vcCells own).toArray
                  | 3 => v = .agg (qyCells (qS key own)).toArray
                  | 4 => ∃ s0, v = .slice (some ⟨s0, 0, none⟩) 0 0 ∧ Mem.Own u 33 20 (some ⟨s0, 0, none⟩) 0 0 []
                  | 5 => v = .slice A2 KL c2
                  | 6 => ∃ A1 c1, v = .slice A1 KL c1 ∧ Mem.Own u 33 20 A1 KL c1 ((ls).flatMap entCells)
                  | 7 => v = .agg (ansCells Rx).toArray
                  | 8 => ∃ s, v = .pointer (some ⟨s, 0, none⟩) ∧ w9.heap.size ≤ s ∧ ABx u s ans0
                  | 9 => ∃ s, f 17 = .pointer (some ⟨s, 0, none⟩) ∧ w9.heap.size ≤ s ∧ ABx u s Rx
                  | _ => True) ?_ ?_
              · refine Reg.StepsZ.cons ?_ (Reg.StepsZ.cons ?_ (Reg.StepsZ.cons ?_ (Reg.StepsZ.cons ?_ (Reg.StepsZ.cons ?_ (Reg.StepsZ.cons ?_ (Reg.StepsZ.cons ?_ (Reg.StepsZ.cons ?_ (Reg.StepsZ.cons ?_ (Reg.StepsZ.cons ?_ (Reg.StepsZ.nil _))))))))))
                · intro val ac u hR hp hpq ha K hK0      -- 0: t95 := Op.move t0
                  have hK := fun v w' h1 h2 => hK0 v w' h1 h2 (fun j f v' h _ => by omega)
                  have e0 : (ac.tmps[0]?).getD undef = .int .i64 rng := ha 0 (by decide)
                  clear ha hp
                  refine Reg.Op1.plain rfl ?_
                  go_wp2
                  exact ⟨rfl, hK _ _ rfl (Reg.Wr.same _)⟩
                · intro val ac u hR hp hpq ha K hK0      -- 1: t96 := Op.move t2
                  have hK := fun v w' h1 h2 => hK0 v w' h1 h2 (fun j f v' h _ => by omega)
                  have e2 : (ac.tmps[2]?).getD undef = .string key := ha 2 (by decide)
                  clear ha hp
                  refine Reg.Op1.plain rfl ?_
                  go_wp2
                  exact ⟨rfl, hK _ _ rfl (Reg.Wr.same _)⟩
                · intro val ac u hR hp hpq ha K hK0      -- 2: t97 := Op.load 31 t16
                  have hK := fun v w' h1 h2 => hK0 v w' h1 h2 (fun j f v' h _ => by omega)
                  have e16 : (ac.tmps[16]?).getD undef = .pointer (some ⟨gv, 0, none⟩) := ha 16 (by decide)
                  clear ha hp
                  refine Reg.Op1.plain rfl ?_
                  have hq : Mem.Keeps (fun _ => False ∨ False) w9 u := (Mem.Keeps.refl (fun _ => False ∨ False) w9).drew.trans (Reg.Wr.not1 hR (by decide +kernel)) (fun _ h _ => h)
                  have hQu := HV9.out.keeps hq (fun h => h.elim id id)
                  refine Mem.load_agg _ _ vec_agg gv 0 (vcCells own) (Reg.eval_of e16) (vcCells_length _) (fun j u' hu => by rw [Nat.zero_add]; exact hQu.cell hu) ?_
                  exact ⟨rfl, hK _ _ rfl (Reg.Wr.same _)⟩
                · intro val ac u hR hp hpq ha K hK0      -- 3: t98 := Op.build 39 #[(0, t96), (2, const (Value.bool true)), (3, t97)]
                  have hK := fun v w' h1 h2 => hK0 v w' h1 h2 (fun j f v' h _ => by omega)
                  obtain ⟨w96, h96, r96⟩ := hp 1 (by decide)
                  have e96 : (ac.tmps[96]?).getD undef = .string key := (ha 96 (by decide)).trans h96
                  clear h96
                  obtain ⟨w97, h97, r97⟩ := hp 2 (by decide)
                  have e97 : (ac.tmps[97]?).getD undef = .agg (vcCells own).toArray := (ha 97 (by decide)).trans h97
                  clear h97
                  clear ha hp
                  refine Reg.Op1.plain rfl ?_
                  go_wp2
                  exact ⟨rfl, hK _ _ rfl (Reg.Wr.same _)⟩
                · intro val ac u hR hp hpq ha K hK0      -- 4: t99 := Op.buildSlice 22 0 #[]
                  have hK := fun v w' h1 h2 => hK0 v w' h1 h2 (fun j f v' h _ => by omega)
                  clear ha hp
                  refine Reg.Op1.plain rfl ?_
                  go_wp2
                  exact ⟨rfl, hK _ _ ⟨u.heap.size, rfl, Mem.Own.lit u _ 20 #[] 0 rfl rfl (by simp [maxLen])⟩ (Reg.Wr.quiet ((Mem.Keeps.refl _ u).alloc _))⟩
                · intro val ac u hR hp hpq ha K hK0      -- 5: t100 := Op.move t11
                  have hK := fun v w' h1 h2 => hK0 v w' h1 h2 (fun j f v' h _ => by omega)
                  have e11 : (ac.tmps[11]?).getD undef = .slice A2 KL c2 := ha 11 (by decide)
                  clear ha hp
                  refine Reg.Op1.plain rfl ?_
                  go_wp2
                  exact ⟨rfl, hK _ _ rfl (Reg.Wr.same _)⟩
                · intro val ac u hR hp hpq ha K hK0      -- 6: t101 := Op.call { builtin append, args := #[t99, t100], argTypes := #[22, 22] }
                  have hK := fun v w' h1 h2 => hK0 v w' h1 h2 (fun j f v' h _ => by omega)
                  obtain ⟨w99, h99, r99⟩ := hp 4 (by decide)
                  have e99 : (ac.tmps[99]?).getD undef = val 4 := ha 99 (by decide)
                  obtain ⟨w100, h100, r100⟩ := hp 5 (by decide)
                  have e100 : (ac.tmps[100]?).getD undef = .slice A2 KL c2 := (ha 100 (by decide)).trans h100
                  clear h100
                  clear ha hp
                  refine Reg.Op1.plain rfl ?_
                  obtain ⟨s0, hv, ho⟩ := h99
                  rw [hv] at e99
                  have ho' := ho.keeps (Reg.Wr.not1 r99 (by decide +kernel)) (fun _ _ h => h.elim id id)
                  have hq : Mem.Keeps (fun _ => False ∨ False) w9 u := (Mem.Keeps.refl (fun _ => False ∨ False) w9).drew.trans (Reg.Wr.not1 hR (by decide +kernel)) (fun _ h _ => h)
                  have hrd : Mem.Rd u u.heap.size A2 ((ls).flatMap entCells) := HRL.out u hq
                  refine Mem.wpList_app0 u rfl (.tmp 99) (.tmp 100) _ rfl entries_elem (some ⟨s0, 0, none⟩) (Reg.eval_of e99) u.heap.size A2 KL c2 ((ls).flatMap entCells) (Reg.eval_of e100) ?_ ho' hrd hol hoo (by unfold maxLen; omega) (by omega)
                  intro A' c' w' hown hbl hat
                  exact ⟨rfl, hK _ _ ⟨A', c', rfl, hown⟩ (Reg.Wr.below hbl)⟩
                · intro val ac u hR hp hpq ha K hK0      -- 7: t102 := Op.call { value (Operand.func 11), args := #[t95, t98, t101], argTypes := #[3, 39, 22] }
                  have hK := fun v w' h1 h2 => hK0 v w' h1 h2 (fun j f v' h _ => by omega)
                  obtain ⟨w95, h95, r95⟩ := hp 0 (by decide)
                  have e95 : (ac.tmps[95]?).getD undef = .int .i64 rng := (ha 95 (by decide)).trans h95
                  clear h95
                  obtain ⟨w98, h98, r98⟩ := hp 3 (by decide)
                  have e98 : (ac.tmps[98]?).getD undef = .agg (qyCells (qS key own)).toArray := (ha 98 (by decide)).trans h98
                  clear h98
                  obtain ⟨w101, h101, r101⟩ := hp 6 (by decide)
                  have e101 : (ac.tmps[101]?).getD undef = val 6 := ha 101 (by decide)
                  clear ha hp
                  refine Reg.Op1.plain rfl ?_
                  obtain ⟨A1, c1, hv, ho⟩ := h101
                  rw [hv] at e101
                  have ho' := ho.keeps (Reg.Wr.not1 r101 (by decide +kernel)) (fun _ _ h => h.elim id id)
                  go_wp2_with fail
                  refine (HRX.out A1 c1 u ho'.rd).mono ?_
                  rintro x w' ⟨rfl, hbw⟩
                  go_wp2_with fail
                  exact ⟨rfl, hK _ _ rfl (Reg.Wr.below hbw)⟩
                · intro val ac u hR hp hpq ha K hK0      -- 8: t17 := Op.alloc 42
                  have hK := fun v w' h1 h2 => hK0 v w' h1 h2 (fun j f v' h _ => by omega)
                  clear ha hp
                  refine Reg.Op1.plain rfl ?_
                  have hbu : w9.heap.size ≤ u.heap.size := (Reg.Wr.all hR).size
                  go_wp2
                  exact ⟨rfl, hK _ _ ⟨u.heap.size, rfl, hbu, Mem.Bx.new u 42 (ansCells ans0).toArray rfl rfl⟩ (Reg.Wr.quiet ((Mem.Keeps.refl _ u).alloc _))⟩
                · intro val ac u hR hp hpq ha K hK0      -- 9: Op.store 42 t17 t102
                  have hK := fun v w' h1 h2 => hK0 v w' h1 h2 (fun j f v' h _ => by omega)
                  obtain ⟨w17, h17, r17⟩ := hp 8 (by decide)
                  have e17 : (ac.tmps[17]?).getD undef = val 8 := ha 17 (by decide)
                  obtain ⟨w102, h102, r102⟩ := hp 7 (by decide)
                  have e102 : (ac.tmps[102]?).getD undef = .agg (ansCells Rx).toArray := (ha 102 (by decide)).trans h102
                  clear h102
                  clear ha hp
                  refine Reg.Op1.plain rfl ?_
                  obtain ⟨s, hv, hs, hbx⟩ := h17
                  have hv7 := hv
                  rw [hv] at e17
                  have hbx' : ABx u s ans0 := hbx.keeps (Reg.Wr.not1 r17 (by decide +kernel)) (fun h => h.elim id id)
                  refine Mem.store_agg _ _ answer_agg s (ansCells ans0) (ansCells Rx) (Reg.eval_of e17) (Reg.eval_of e102) hbx' (ansCells_length _) (ans_one _) ?_
                  intro w' hb hk hs'
                  exact ⟨rfl, hK undef _ ⟨s, hv7, hs, hb⟩ (Reg.Wr.does1 (hk.mono (fun i h _ => by show w9.heap.size ≤ i; omega)))⟩
              · intro val u hR H hZ
                obtain ⟨wA, ⟨s, hv7, hs, hb⟩, rA⟩ := H 9 (by decide)
                have hv7 : val 8 = .pointer (some ⟨s, 0, none⟩) := hv7
                have hq : Mem.Keeps (fun y => w9.heap.size ≤ y ∨ False ∨ False) w9 u := (Mem.Keeps.refl (fun y => w9.heap.size ≤ y ∨ False ∨ False) w9).drew.trans (Reg.Wr.all hR) (fun _ h _ => h)
                have HM : Hid (RdMid2 w9 Rx (val 8) u) := ⟨⟨s, hv7, hs, hb.keeps (Reg.Wr.not1 rA (by decide +kernel)) (fun h => h.elim id id), hq.below (B := w9.heap.size) (fun y h => by rcases h with h | h | h <;> first | exact h | exact h.elim) (Nat.le_refl _)⟩⟩
                simp only [List.map_cons, List.map_nil, Reg.lay, Act.put, List.setIfInBounds_toArray, List.set_cons_succ, List.set_cons_zero, Nat.reduceAdd]
                clear hR H hZ hq hb rA hv7
                go_wp2
                go_meet
                case rel => exact HM.out
            case rest =>
              obtain ⟨sx, rfl, hsx, hAx, hbx⟩ := hcut.out
              have HAx : Hid (ABx wc sx Rx) := hAx
              have HBx : Hid (Below w.heap.size w wc) := HB9.out.trans (hbx.mono HB9.out.size)
              have HOx : Hid (Mem.Own wc 33 20 A2 KL c2 (ls.flatMap entCells)) := HO9.out.keeps (Mem.Keeps.of_below hbx) (fun _ _ h => h)
              clear hAx hbx hcut HB9 HO9 HV9 HRX HRL hol hoo hlm hsx
              rename World => wa
              obtain ⟨Ry, hRR⟩ : ∃ Ry, Vec.read rng (qL key) (ls) = Ry := ⟨_, rfl⟩
              have HRY := Lib.hid hRR
              have hlm : (ls).length = KL := by exact hll
              have hol := ents_len (ls)
              rw [hlm] at hol
              have hoo := ents_one (ls)
              have HRX : Hid (∀ (A1 : Option Addr) (c1 : Nat) (w4 : World), Mem.Rd w4 w4.heap.size A1 ((ls).flatMap entCells) → Calls Try.prog 11 #[.int .i64 rng, .agg (qyCells (qL key)).toArray, .slice A1 KL c1] w4 fun e w' => e = .returned (.agg (ansCells Ry).toArray) ∧ Below w4.heap.size w4 w') := fun A1 c1 w4 h => by
                have h9 := read_any rng (qL key) A1 c1 (ls) w4.heap.size w4 h (Nat.le_refl _) (by omega)
                rwa [hlm, hRR] at h9
              have HRL : Hid (∀ u, Mem.Keeps (fun _ => False ∨ False) wa u → Mem.Rd u u.heap.size A2 ((ls).flatMap entCells)) := fun u hq => by
                have h9 := (HOx.out.keeps hq (fun _ _ h => h.elim id id)).rd
                exact h9
              clear hRR
              have hrdA : Mem.Rd (wa.alloc (.cells #[] 33)) wa.heap.size A2 (ls.flatMap entCells) := HOx.out.rd.alloc (Nat.le_refl _) _
              have hoy := ans_one Ry
              go_upto_region 19 with (first | (at_builtin; refine Mem.wpList_app0 _ rfl (.tmp 106) (.tmp 107) _ rfl entries_elem (some ⟨wa.heap.size, 0, none⟩) rfl wa.heap.size A2 KL c2 (ls.flatMap entCells) rfl ?_ (Mem.Own.lit wa _ 20 #[] 0 rfl rfl (by simp [maxLen])) hrdA hol hoo (by unfold maxLen; omega) (by omega); intro A1 c1 yu hown hb4 hat4; have HOy := Lib.hid hown; have HB4 : Hid (Below wa.heap.size wa yu) := (Reg.below_new _ _).trans (hb4.mono (by simp)); clear hown hb4 hat4) | (go_at_call 11; refine (HRX.out A1 c1 yu HOy.out.rd).mono ?_; rintro x yt ⟨rfl, hb5⟩; have HB5 : Hid (Below wa.heap.size wa yt) := HB4.out.trans (hb5.mono HB4.out.size); clear hb5) | ((with_reducible refine Mem.store_agg _ _ answer_agg yt.heap.size (ansCells ans0) (ansCells Ry) ?hxk ?hyk ?hbk (ansCells_length _) hoy ?_); ((case hxk => exact rfl); (case hyk => exact rfl); (case hbk => exact Mem.Bx.new yt _ (ansCells ans0).toArray rfl rfl); intro wb hb2 hk2 hs2)))
              · have hby : Below wa.heap.size wa wb := HB5.out.trans ((hk2.newBox rfl).belowAll.mono HB5.out.size)
                have HAy : Hid (ABx wb yt.heap.size Ry) := hb2
                obtain ⟨sy, hsy⟩ : ∃ sy, yt.heap.size = sy := ⟨_, rfl⟩
                rw [hsy] at HAy ⊢
                have HAx2 : Hid (ABx wb sx Rx) := HAx.out.below hby HAx.out.lt
                have HBy : Hid (Below w.heap.size w wb) := HBx.out.trans (hby.mono HBx.out.size)
                clear hby hb2 hk2 hs2 hsy HAx HBx HOx HRX HRL hol hoo hlm HB5 HB4 HOy hrdA hoy
                have hsame := own_same HNB.out (by omega) key
                rw [HCOL.out, HOWN.out, HRX2.out, HRY.out] at hsame
                obtain ⟨hs1, hs2⟩ := hsame
                have e1 : ∀ W, (binOp .eql 42 (.agg (ansCells Rx).toArray) (.agg (ansCells Ry).toArray)).run Try.prog W = .ok (.bool true) W := fun W => by rw [hs1, eql_ans, eqAns_iff.2 rfl]
                have k0 := HAx2.out.cell (j := 0) rfl
                rw [hs1, hs2] at k0
                clear hs1 hs2
                go_wp2_with (first | ((with_reducible refine Mem.load_aggG _ _ answer_agg sx 0 (ansCells Rx) ?hwg ?hxh (ansCells_length _) (fun j u hu => by rw [Nat.zero_add]; exact HAx2.out.cell hu) ?_); ((case hwg => rfl); (case hxh => exact rfl))) | ((with_reducible refine Mem.load_aggG _ _ answer_agg sy 0 (ansCells Ry) ?hwh ?hxi (ansCells_length _) (fun j u hu => by rw [Nat.zero_add]; exact HAy.out.cell hu) ?_); ((case hwh => rfl); (case hxi => exact rfl))))
                go_ret
                exact ⟨rfl, HBy.out⟩
set_option maxRecDepth 20000 in
theorem opened {H : Type} (enc : TypeId × Value → H) (W : World) (base : Nat) (v0 v1 v2 v3 v4 : Value) {d0 d1 d2 d3 d4 : DataW H} {p0 p1 p2 p3 p4 : List MemPlace}
    (o0 : Value.okWide Try.prog W .any base 3 v0) (o1 : Value.okWide Try.prog W .any base 22 v1) (o2 : Value.okWide Try.prog W .any base 9 v2) (o3 : Value.okWide Try.prog W .any base 31 v3) (o4 : Value.okWide Try.prog W .any base 3 v4)
    (k0 : DataW.Trod enc Try.prog W 0 (fun _ => true) true 3 v0 d0 p0) (k1 : DataW.Trod enc Try.prog W 0 (fun _ => true) true 22 v1 d1 p1) (k2 : DataW.Trod enc Try.prog W 0 (fun _ => true) true 9 v2 d2 p2) (k3 : DataW.Trod enc Try.prog W 0 (fun _ => true) true 31 v3 d3 p3) (k4 : DataW.Trod enc Try.prog W 0 (fun _ => true) true 3 v4 d4 p4)
    (z0 : (d0.weights Try.prog 3).all (· ≤ reachBytes) = true) (z1 : (d1.weights Try.prog 22).all (· ≤ reachBytes) = true) (z2 : (d2.weights Try.prog 9).all (· ≤ reachBytes) = true) (z3 : (d3.weights Try.prog 31).all (· ≤ reachBytes) = true) (z4 : (d4.weights Try.prog 3).all (· ≤ reachBytes) = true) :
    Calls Try.prog 6 #[v0, v1, v2, v3, v4] W fun e w' => e = .returned (.bool true) ∧ Below W.heap.size W w' := by
  obtain ⟨n, rfl, _⟩ := open_num o0 k0
  obtain ⟨A, c, es, rfl, h1, h2, h3, h4⟩ := open_ents o1 k1 z1
  obtain ⟨s, rfl, hs⟩ := open_text o2 k2 z2
  obtain ⟨v, rfl⟩ := open_vec o3 k3
  obtain ⟨k, rfl, hk⟩ := open_num o4 k4
  exact walk n A c es s v k W h3 (by omega) h4 hs hk
end servePrefixOpen
end Go.Proofs.Ytiibgkgbghganaa
