/- The walk of ServeGrows. No conditions. -/
import Derived.Test.YtiibgkgbghganaaNum
namespace Go.Proofs.Ytiibgkgbghganaa
open Go.ChangeShapes Go.WideShapes Go.ChangeAt Go.RowKit
set_option linter.unusedVariables false

namespace Mem
theorem flat_take {α : Type} {f : α → List Value} {sz : Nat} (hf : ∀ a, (f a).length = sz) : ∀ (l : List α) (k : Nat), (l.flatMap f).take (k * sz) = (l.take k).flatMap f
  | [], k => by simp
  | a :: l, 0 => by simp
  | a :: l, k + 1 => by
    simp only [List.flatMap_cons, List.take_succ_cons]
    rw [List.take_append, hf, List.take_of_length_le (by rw [hf, Nat.add_mul]; omega), show (k + 1) * sz - sz = k * sz by rw [Nat.add_mul]; omega, flat_take hf l k]
end Mem
theorem mod_idx (j : Int) {K : Nat} (hK : K ≤ 300) : ∃ m : Nat, m ≤ K ∧ (wrap64 (wrap64 (j.tmod ((K : Int) + 1) + (K : Int)) + 1)).tmod ((K : Int) + 1) = (m : Int) := by
  have h1 : (j.tmod ((K : Int) + 1)).natAbs = j.natAbs % ((K : Int) + 1).natAbs := Int.natAbs_tmod _ _
  have h2 : ((K : Int) + 1).natAbs = K + 1 := by omega
  have h3 : j.natAbs % (K + 1) < K + 1 := Nat.mod_lt _ (by omega)
  rw [h2] at h1
  obtain ⟨t, ht⟩ : ∃ t, j.tmod ((K : Int) + 1) = t := ⟨_, rfl⟩
  rw [ht] at h1 ⊢
  have h4 : -(K : Int) ≤ t ∧ t ≤ (K : Int) := by omega
  rw [IntWalk.wrap64_in (t + (K : Int)) (by omega), IntWalk.wrap64_in (t + (K : Int) + 1) (by omega), Int.tmod_eq_emod_of_nonneg (by omega)]
  have h5 := Int.emod_nonneg (t + (K : Int) + 1) (show ((K : Int) + 1) ≠ 0 by omega)
  have h6 := Int.emod_lt_of_pos (t + (K : Int) + 1) (show 0 < ((K : Int) + 1) by omega)
  exact ⟨((t + (K : Int) + 1) % ((K : Int) + 1)).toNat, by omega, by omega⟩
namespace Vec
structure IdxMid (w3 : World) (K : Nat) (v12 v13 : Value) (wx : World) : Prop where
  out : ∃ m n : Nat, m ≤ K ∧ n ≤ K ∧ v12 = .int .i64 m ∧ v13 = .int .i64 n ∧ Below w3.heap.size w3 wx
structure IdxMid2 (w3 : World) (K : Nat) (v12 v13 : Value) (wx : World) : Prop where
  out : ∃ m n : Nat, m ≤ n ∧ n ≤ K ∧ v12 = .int .i64 m ∧ v13 = .int .i64 n ∧ Below w3.heap.size w3 wx
end Vec
namespace serveGrowsOpen
open Vec
set_option maxRecDepth 20000 in
set_option maxHeartbeats 8000000 in
theorem walk (rng : Int) (A : Option Addr) (c : Nat) (es : List Ent) (key : ByteArray) (j k : Int) (w : World) (hr : Mem.Rd w w.heap.size A (es.flatMap entCells)) (hn : es.length ≤ 8796093022208) (hd : ∀ e ∈ es, EntIn e) (hks : key.size ≤ 140737488351232)
    (hj : -9223372036854775808 ≤ j ∧ j ≤ 9223372036854775807) (hk : -9223372036854775808 ≤ k ∧ k ≤ 9223372036854775807) :
    Calls Try.prog 5 #[.int .i64 rng, .slice A es.length c, .string key, .int .i64 j, .int .i64 k] w fun e w' => e = .returned (.bool true) ∧ Below w.heap.size w w' := by
  have HR := Lib.hid hr
  have HD := Lib.hid hd
  have hb0 := Below.refl w.heap.size w
  clear hr hd
  go_enter Try.func5, Try.ntmps5
  go_wp2_with fail
  refine (serveAble_any w).mono ?_
  rintro x w1 ⟨rfl, hb1⟩
  have HB1 := Lib.hid (hb0.trans (hb1.mono hb0.size))
  clear hb1
  go_wp2_with fail
  refine (much_any A c es w w1 HR.out (by omega) HD.out HB1.out).mono ?_
  rintro x w2 ⟨b, rfl, hbn, hb2⟩
  have HB2 := Lib.hid (HB1.out.trans (hb2.mono HB1.out.size))
  have HB02 := Lib.hid (hb2.mono (Nat.le_refl _))
  clear hb2
  by_cases hyes : b = true ∨ 1000 < key.size
  · rcases hyes with rfl | hk1
    · go_wp2
      go_ret
      exact ⟨rfl, HB2.out⟩
    · have hkd : decide ((1000 : Int) < (key.size : Int)) = true := by simp; omega
      cases b
      · go_wp2
        go_ret
        exact ⟨rfl, HB2.out⟩
      · go_wp2
        go_ret
        exact ⟨rfl, HB2.out⟩
  obtain rfl : b = false := by cases b; rfl; exact absurd (.inl rfl) hyes
  have hkd : decide ((1000 : Int) < (key.size : Int)) = false := by simp; omega
  have hn3 : es.length ≤ 300 := hbn rfl
  clear hyes hbn hn hks
  go_wp2_with fail
  refine (numbered_any rng A c es w.heap.size w2 (HR.out.below HB2.out) HB2.out.size (by omega)).mono ?_
  rintro x w3 ⟨K, A2, c2, hK, rfl, hO, hNB, hRE, hb3⟩
  have HB3 := Lib.hid (HB2.out.trans (hb3.mono HB2.out.size))
  have HB03 := Lib.hid hb3
  obtain ⟨ls, hls⟩ : ∃ ls, es.take K = ls := ⟨_, rfl⟩
  have hll : ls.length = K := by rw [← hls, List.length_take]; omega
  rw [hls] at hO hNB hRE
  have HO := Lib.hid hO
  have HNB := Lib.hid hNB
  have hK3 : K ≤ 300 := by omega
  have hKc : K ≤ c2 := hO.le
  clear hO hNB hRE hls hK hkd hb3
  go_upto_if 30 with fail
  go_cut [12, 13] (fun v12 v13 wx => IdxMid w3 K v12 v13 wx)
  case first =>
    by_cases h0 : 0 < K
    · have d0 : decide ((0 : Int) < (K : Int)) = true := by simp; omega
      obtain ⟨m, hm, hm2⟩ := mod_idx j hK3
      obtain ⟨n, hn, hn2⟩ := mod_idx k hK3
      have HM2 := Lib.hid hm2
      have HN2 := Lib.hid hn2
      clear hm2 hn2
      go_wp2
      go_quiet (fail)
      go_wp2
      go_meet
      case rel => exact ⟨⟨m, n, hm, hn, by rw [HM2.out], by rw [HN2.out], Mem.below_drewN (Below.refl _ _) _⟩⟩
    · have d0 : decide ((0 : Int) < (K : Int)) = false := by simp; omega
      go_wp2
      go_meet
      case rel => exact ⟨⟨0, 0, by omega, by omega, rfl, rfl, Below.refl _ _⟩⟩
  case rest =>
    obtain ⟨m, n, hm, hn, rfl, rfl, hb4⟩ := hcut.out
    have HO4 : Hid (Mem.Own wc 33 20 A2 K c2 (ls.flatMap entCells)) := HO.out.keeps (Mem.Keeps.of_below hb4) (fun _ _ h => h)
    have HB4 : Hid (Below w.heap.size w wc) := HB3.out.trans (hb4.mono HB3.out.size)
    clear hb4 hcut HO HB3 HB03
    rename World => w4
    go_upto_if 59 with fail
    go_cut [12, 13] (fun v12 v13 wx => IdxMid2 w4 K v12 v13 wx)
    case first =>
      by_cases hgt : n < m
      · have d1 : decide ((n : Int) < (m : Int)) = true := by simp; omega
        go_wp2
        go_meet
        case rel => exact ⟨⟨n, m, by omega, by omega, rfl, rfl, Below.refl _ _⟩⟩
      · have d1 : decide ((n : Int) < (m : Int)) = false := by simp; omega
        go_wp2
        go_meet
        case rel => exact ⟨⟨m, n, by omega, by omega, rfl, rfl, Below.refl _ _⟩⟩
    case rest =>
      clear hm hn
      obtain ⟨m', n', hmn, hnK, rfl, rfl, hb5⟩ := hcut.out
      have HO5 : Hid (Mem.Own wc 33 20 A2 K c2 (ls.flatMap entCells)) := HO4.out.keeps (Mem.Keeps.of_below hb5) (fun _ _ h => h)
      have HB5x : Hid (Below w.heap.size w wc) := HB4.out.trans (hb5.mono HB4.out.size)
      clear hb5 hcut HO4 HB4
      rename World => wy
      have hz3 := HB5x.out.size
      have hrd3 : Mem.Rd (wy.alloc (.cells #[] 33)) wy.heap.size A2 ((ls.take m').flatMap entCells) := by
        have h1 := (HO5.out.rd.take (m' * 20)).alloc (Nat.le_refl _) (.cells #[] 33)
        rwa [Mem.flat_take entCells_length] at h1
      have hmc : m' ≤ c2 := by omega
      have hol := ents_len (ls.take m')
      have hlm : (ls.take m').length = m' := by rw [List.length_take]; omega
      rw [hlm] at hol
      have hoo := ents_one (ls.take m')
      have ho := ans_one (Vec.read rng (qL key) (ls.take m'))
      have HRX : Hid (∀ (A1 : Option Addr) (c1 : Nat) (w4 : World), Mem.Rd w4 w4.heap.size A1 ((ls.take m').flatMap entCells) → Calls Try.prog 11 #[.int .i64 rng, .agg (qyCells (qL key)).toArray, .slice A1 m' c1] w4 fun e w' => e = .returned (.agg (ansCells (Vec.read rng (qL key) (ls.take m'))).toArray) ∧ Below w4.heap.size w4 w') := fun A1 c1 w4 h => by
        have := read_any rng (qL key) A1 c1 (ls.take m') w4.heap.size w4 h (Nat.le_refl _) (by omega)
        rwa [hlm] at this
      go_upto_region 12 with (first | (at_builtin; refine Mem.wpList_app0 _ rfl (.tmp 65) (.tmp 68) _ rfl entries_elem (some ⟨wy.heap.size, 0, none⟩) rfl wy.heap.size A2 m' c2 ((ls.take m').flatMap entCells) rfl ?_ (Mem.Own.lit wy _ 20 #[] 0 rfl rfl (by simp [maxLen])) hrd3 hol hoo (by unfold maxLen; omega) (by omega); intro A1 c1 y1 hown hb4 hat4; have HO4 := Lib.hid hown; have HB4 : Hid (Below wy.heap.size wy y1) := (Reg.below_new _ _).trans (hb4.mono (by simp)); clear hown hb4 hat4) | (go_at_call 11; refine (HRX.out A1 c1 y1 HO4.out.rd).mono ?_; rintro x y2 ⟨rfl, hb5⟩; have HB5 : Hid (Below wy.heap.size wy y2) := HB4.out.trans (hb5.mono HB4.out.size); clear hb5) | ((with_reducible refine Mem.store_agg _ _ answer_agg y2.heap.size (ansCells ans0) (ansCells (Vec.read rng (qL key) (ls.take m'))) ?hx12 ?hy12 ?hb12 (ansCells_length _) ho ?_); ((case hx12 => exact rfl); (case hy12 => exact rfl); (case hb12 => exact Mem.Bx.new y2 _ (ansCells ans0).toArray rfl rfl); intro wz hb2 hk2 hs2)))
      have HKwz : Hid (Below wy.heap.size wy wz) := HB5.out.trans ((hk2.newBox rfl).belowAll.mono HB5.out.size)
      have HAwz : Hid (ABx wz y2.heap.size (Vec.read rng (qL key) (ls.take m'))) := hb2
      have HBwz : Hid (Below w.heap.size w wz) := HB5x.out.trans (HKwz.out.mono HB5x.out.size)
      have HOwz : Hid (Mem.Own wz 33 20 A2 K c2 (ls.flatMap entCells)) := HO5.out.keeps (Mem.Keeps.of_below HKwz.out) (fun _ _ h => h)
      clear hb2 hk2 hs2 ho hoo hol hlm hrd3 HB5 HB4 HO4 HRX
      have HB6 := HBwz
      have HO6 := HOwz
      clear HBwz HOwz HB5x HO5
      have hz3 := HB6.out.size
      have hrd3 : Mem.Rd (wz.alloc (.cells #[] 33)) wz.heap.size A2 ((ls.take n').flatMap entCells) := by
        have h1 := (HO6.out.rd.take (n' * 20)).alloc (Nat.le_refl _) (.cells #[] 33)
        rwa [Mem.flat_take entCells_length] at h1
      have hmc : n' ≤ c2 := by omega
      have hol := ents_len (ls.take n')
      have hlm : (ls.take n').length = n' := by rw [List.length_take]; omega
      rw [hlm] at hol
      have hoo := ents_one (ls.take n')
      have ho := ans_one (Vec.read rng (qL key) (ls.take n'))
      have HRX : Hid (∀ (A1 : Option Addr) (c1 : Nat) (w4 : World), Mem.Rd w4 w4.heap.size A1 ((ls.take n').flatMap entCells) → Calls Try.prog 11 #[.int .i64 rng, .agg (qyCells (qL key)).toArray, .slice A1 n' c1] w4 fun e w' => e = .returned (.agg (ansCells (Vec.read rng (qL key) (ls.take n'))).toArray) ∧ Below w4.heap.size w4 w') := fun A1 c1 w4 h => by
        have := read_any rng (qL key) A1 c1 (ls.take n') w4.heap.size w4 h (Nat.le_refl _) (by omega)
        rwa [hlm] at this
      go_upto_region 13 with (first | (at_builtin; refine Mem.wpList_app0 _ rfl (.tmp 74) (.tmp 77) _ rfl entries_elem (some ⟨wz.heap.size, 0, none⟩) rfl wz.heap.size A2 n' c2 ((ls.take n').flatMap entCells) rfl ?_ (Mem.Own.lit wz _ 20 #[] 0 rfl rfl (by simp [maxLen])) hrd3 hol hoo (by unfold maxLen; omega) (by omega); intro A1 c1 z1 hown hb4 hat4; have HO4 := Lib.hid hown; have HB4 : Hid (Below wz.heap.size wz z1) := (Reg.below_new _ _).trans (hb4.mono (by simp)); clear hown hb4 hat4) | (go_at_call 11; refine (HRX.out A1 c1 z1 HO4.out.rd).mono ?_; rintro x z2 ⟨rfl, hb5⟩; have HB5 : Hid (Below wz.heap.size wz z2) := HB4.out.trans (hb5.mono HB4.out.size); clear hb5) | ((with_reducible refine Mem.store_agg _ _ answer_agg z2.heap.size (ansCells ans0) (ansCells (Vec.read rng (qL key) (ls.take n'))) ?hx13 ?hy13 ?hb13 (ansCells_length _) ho ?_); ((case hx13 => exact rfl); (case hy13 => exact rfl); (case hb13 => exact Mem.Bx.new z2 _ (ansCells ans0).toArray rfl rfl); intro wt hb2 hk2 hs2)))
      have HKwt : Hid (Below wz.heap.size wz wt) := HB5.out.trans ((hk2.newBox rfl).belowAll.mono HB5.out.size)
      have HAwt : Hid (ABx wt z2.heap.size (Vec.read rng (qL key) (ls.take n'))) := hb2
      have HBwt : Hid (Below w.heap.size w wt) := HB6.out.trans (HKwt.out.mono HB6.out.size)
      have HOwt : Hid (Mem.Own wt 33 20 A2 K c2 (ls.flatMap entCells)) := HO6.out.keeps (Mem.Keeps.of_below HKwt.out) (fun _ _ h => h)
      clear hb2 hk2 hs2 ho hoo hol hlm hrd3 HB5 HB4 HO4 HRX
      have HA1 : Hid (ABx wt y2.heap.size (Vec.read rng (qL key) (ls.take m'))) := HAwz.out.below HKwt.out HAwz.out.lt
      have HA2 : Hid (ABx wt z2.heap.size (Vec.read rng (qL key) (ls.take n'))) := HAwt
      have HBt := HBwt
      clear HAwz HAwt HKwz HKwt HOwt HBwt HO6 HB6
      obtain ⟨⟨ea, fa⟩, hga⟩ : ∃ x, greatest key (seenL rng (qL key) col0 (ls.take m')) = x := ⟨_, rfl⟩
      obtain ⟨⟨eb, fb⟩, hgb⟩ : ∃ x, greatest key (seenL rng (qL key) col0 (ls.take n')) = x := ⟨_, rfl⟩
      obtain ⟨ca, hca⟩ : ∃ x, column rng (ls.take m') = x := ⟨_, rfl⟩
      obtain ⟨cb, hcb⟩ : ∃ x, column rng (ls.take n') = x := ⟨_, rfl⟩
      have hcc : coversC cb ca = true := by rw [← hca, ← hcb]; exact column_take rng ls hmn
      have hsub : ∀ e ∈ seenL rng (qL key) col0 (ls.take m'), e ∈ seenL rng (qL key) col0 (ls.take n') := seenL_mem (fun e he => by
        have h1 : ls.take m' = (ls.take n').take m' := by rw [List.take_take, Nat.min_eq_left hmn]
        rw [h1] at he
        exact List.mem_of_mem_take he)
      have hmore := greatest_more key hsub
      rw [hga, hgb] at hmore
      rw [readL, hga, hca] at HA1
      rw [readL, hgb, hcb] at HA2
      have a1 := HA1.out.cell (j := 1) rfl
      have a5 := HA1.out.cell (j := 5) rfl
      have a22 := HA1.out.cell (j := 22) rfl
      have a23 := HA1.out.cell (j := 23) rfl
      have a24 := HA1.out.cell (j := 24) rfl
      have b22 := HA2.out.cell (j := 22) rfl
      have b23 := HA2.out.cell (j := 23) rfl
      have b24 := HA2.out.cell (j := 24) rfl
      go_wp2_with fail
      refine (coversC_any cb ca wt).mono ?_
      rintro x wf ⟨rfl, hbf⟩
      rw [hcc]
      have HB9 : Hid (Below w.heap.size w wf) := HBt.out.trans (hbf.mono HBt.out.size)
      have HA3 : Hid (ABx wf y2.heap.size ⟨0, fa, ea, ca⟩) := HA1.out.below hbf HA1.out.lt
      have HA4 : Hid (ABx wf z2.heap.size ⟨0, fb, eb, cb⟩) := HA2.out.below hbf HA2.out.lt
      have d1 := HA3.out.cell (j := 1) rfl
      have d5 := HA3.out.cell (j := 5) rfl
      have e1 := HA4.out.cell (j := 1) rfl
      have e5 := HA4.out.cell (j := 5) rfl
      clear a1 a5 a22 a23 a24 b22 b23 b24 hbf HA1 HA2 HBt hsub hga hgb hca hcb hcc
      cases fa
      · clear hmore
        go_wp2
        go_ret
        exact ⟨rfl, HB9.out⟩
      · obtain ⟨h1, h2⟩ := hmore rfl
        have h1 : fb = true := h1
        have h2 : ea.st.c ≤ eb.st.c := h2
        subst h1
        have h3 : decide (ea.st.c ≤ eb.st.c) = true := by simpa using h2
        clear hmore h2
        go_wp2
        go_ret
        exact ⟨rfl, HB9.out⟩
set_option maxRecDepth 20000 in
theorem opened {H : Type} (enc : TypeId × Value → H) (W : World) (base : Nat) (v0 v1 v2 v3 v4 : Value) {d0 d1 d2 d3 d4 : DataW H} {p0 p1 p2 p3 p4 : List MemPlace}
    (o0 : Value.okWide Try.prog W .any base 3 v0) (o1 : Value.okWide Try.prog W .any base 22 v1) (o2 : Value.okWide Try.prog W .any base 9 v2) (o3 : Value.okWide Try.prog W .any base 3 v3) (o4 : Value.okWide Try.prog W .any base 3 v4)
    (k0 : DataW.Trod enc Try.prog W 0 (fun _ => true) true 3 v0 d0 p0) (k1 : DataW.Trod enc Try.prog W 0 (fun _ => true) true 22 v1 d1 p1) (k2 : DataW.Trod enc Try.prog W 0 (fun _ => true) true 9 v2 d2 p2) (k3 : DataW.Trod enc Try.prog W 0 (fun _ => true) true 3 v3 d3 p3) (k4 : DataW.Trod enc Try.prog W 0 (fun _ => true) true 3 v4 d4 p4)
    (z0 : (d0.weights Try.prog 3).all (· ≤ reachBytes) = true) (z1 : (d1.weights Try.prog 22).all (· ≤ reachBytes) = true) (z2 : (d2.weights Try.prog 9).all (· ≤ reachBytes) = true) (z3 : (d3.weights Try.prog 3).all (· ≤ reachBytes) = true) (z4 : (d4.weights Try.prog 3).all (· ≤ reachBytes) = true) :
    Calls Try.prog 5 #[v0, v1, v2, v3, v4] W fun e w' => e = .returned (.bool true) ∧ Below W.heap.size W w' := by
  obtain ⟨n, rfl, _⟩ := open_num o0 k0
  obtain ⟨A, c, es, rfl, h1, h2, h3, h4⟩ := open_ents o1 k1 z1
  obtain ⟨s, rfl, hs⟩ := open_text o2 k2 z2
  obtain ⟨j, rfl, hj⟩ := open_num o3 k3
  obtain ⟨k, rfl, hk⟩ := open_num o4 k4
  exact walk n A c es s j k W h3 (by omega) h4 hs hj hk
end serveGrowsOpen
end Go.Proofs.Ytiibgkgbghganaa
