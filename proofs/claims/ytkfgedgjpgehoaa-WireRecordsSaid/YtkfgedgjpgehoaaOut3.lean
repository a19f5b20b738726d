/- The walk of the document's Out: message. PRINTED by wip/mkout.py. Cells of the right kinds, short texts. -/
import Derived.Test.YtkfgedgjpgehoaaOut2
namespace Go.Proofs.Ytkfgedgjpgehoaa
open Go.ChangeShapes Go.WideShapes Go.ChangeAt Go.RowKit
set_option linter.unusedVariables false
set_option linter.unusedSimpArgs false
namespace Wi
theorem msgM_flat : msgM.filter noK = ((((((((((((((((((((([] ++ [.n 0]) ++ (ns 1 4)) ++ (ns 5 4)) ++ [.n 9]) ++ [.n 10]) ++ [.n 11]) ++ [.n 12]) ++ [.n 13]) ++ (chainM 14)) ++ (writeM 27)) ++ [.b 47]) ++ [.t 48 16]) ++ [.t 49 32]) ++ [.b 50]) ++ [.b 51]) ++ (ns 52 9)) ++ (ns 61 9)) ++ [.n 70]) ++ [.n 71]) ++ [.n 72]) ++ [.n 73]) := by kernel_rfl
end Wi
open Wi in
set_option maxRecDepth 100000 in
set_option maxHeartbeats 4000000 in
theorem oMessage_any {w : World} {g : Nat} {A : Option Addr} {cap : Nat} {o : Wi.Od} {ys : List Value} (hk : Cells.Ok Wi.msgK ys) (hs : Wi.Sm ys) (h : Wi.OAt w g A cap o) (hb : o.bs.length ≤ 800000000) :
    Calls Try.prog 39 #[.pointer (some ⟨g, 0, none⟩), .agg ys.toArray] w (Wi.OEnd w g A (Wi.outL (Wi.msgM) ys o)) := by
  have HK := Lib.hid hk
  have HS := Lib.hid hs
  have hly : Hid (ys.length = 74) := hk.len
  obtain ⟨w1, hw1⟩ : ∃ w1, w.alloc (.cells ys.toArray 55) = w1 := ⟨_, rfl⟩
  have hz1 : Mem.Bx w1 55 74 w.heap.size ys := by rw [← hw1]; exact Mem.Bx.new w 55 ys.toArray (by rw [List.size_toArray, hly.out]) rfl
  have hb1 : Below w.heap.size w w1 := by rw [← hw1]; exact Reg.below_new _ _
  have HB := Lib.hid hb1
  have HP0 : Hid (OP w1 g A o w1) := OP.refl (h.keeps (Mem.Keeps.of_below hb1) (fun _ _ h => h))
  have hgm : w.heap.size ≠ g := by have := h.B.lt; omega
  have hga : Mem.blk A ≠ some w.heap.size := fun e => by have := h.O.lt e; omega
  obtain ⟨gm, hg⟩ : ∃ gm, w.heap.size = gm := ⟨_, rfl⟩
  rw [hg] at hz1 hgm hga
  have HX1 := Lib.hid hz1
  have HW1 := Lib.hid hw1
  have HG := Lib.hid hg
  have HGM := Lib.hid hgm
  have HGA := Lib.hid hga
  have HE0 : Hid (outL [] ys o = o) := outL_nil ys o
  have HBO := Lib.hid hb
  clear hk hs h hw1 hz1 hb1 hgm hga hg hb
  go_enter Try.func39, Try.ntmps39
  go_upto_region 1 with fail
  rw [HW1.out, HG.out]
  clear HW1
  have HXC0 : Hid (Mem.Bx w1 55 74 gm ys) := HP0.out.box HX1.out HGM.out HGA.out
  have hL0 : Hid (o.bs.length ≤ 1000000000) := by show _ ≤ _; rw [← HE0.out]; exact Nat.le_trans (outL_len HS.out o _) (by have := HBO.out; show _ + 100009 * 0 ≤ _; omega)
  obtain ⟨_, e0, v0, rfl⟩ := HK.out.get (k := 0) (kd := .i) rfl
  have x0 : w1.cell? ⟨gm, 0, none⟩ = some (.int .i64 v0) := HXC0.out.cell e0
  have EV0 := Lib.hid e0
  clear e0
  go_upto_region 2 with (go_at_call 27; refine (HP0.out.lift fun A1 c1 hA => oNumber_any v0 hA hL0.out).mono ?_; rintro x9 w2 ⟨rfl, hp⟩; rw [outL_n EV0.out o] at hp; have HQ0 := Lib.hid hp; clear hp)
  obtain ⟨o1, ho0⟩ : ∃ z, outL [.n 0] ys o = z := ⟨_, rfl⟩
  have HE1 : Hid (outL ([] ++ [.n 0]) ys o = o1) := by show _ = _; rw [outL_app, HE0.out]; exact ho0
  rw [ho0] at HQ0
  have HP1 : Hid (OP w1 g A o1 w2) := HQ0
  clear HQ0 HP0 HE0 hL0 HXC0 ho0 x0 EV0
  have HXC1 : Hid (Mem.Bx w2 55 74 gm ys) := HP1.out.box HX1.out HGM.out HGA.out
  have hL1 : Hid (o1.bs.length ≤ 890000000) := by show _ ≤ _; rw [← HE1.out]; exact Nat.le_trans (outL_len HS.out o _) (by have := HBO.out; show _ + 100009 * 1 ≤ _; omega)
  obtain ⟨zs1, hzs1⟩ : ∃ z, (ys.drop 1).take 4 = z := ⟨_, rfl⟩
  have HS1 : Hid (Cells.Ok [.i, .i, .i, .i] zs1) := by show Cells.Ok _ _; rw [← hzs1]; exact Cells.Ok.part HK.out 1 4
  have hl1 : Hid (zs1.length = 4) := HS1.out.len
  have hc1 : Hid (∀ j u, zs1[j]? = some u → w2.cell? ⟨gm, 1 + j, none⟩ = some u) := by rw [← hzs1]; exact bx_part HXC1.out 1 4
  have hm1 : Hid (Sm zs1) := by show Sm _; rw [← hzs1]; exact sm_part HS.out 1 4
  have HZ1 := Lib.hid hzs1
  clear hzs1
  go_upto_region 3 with (first | ((with_reducible refine Mem.load_agg _ _ addr_agg gm 1 zs1 ?hx1 hl1.out hc1.out ?_); case hx1 => exact rfl) | (go_at_call 60; refine (HP1.out.lift fun A1 c1 hA => oAddr_any HS1.out hm1.out hA hL1.out).mono ?_; rintro x9 w3 ⟨rfl, hp⟩; rw [← HZ1.out, ← outL_sh (off := 1) (n := 4) o1 (by decide +kernel)] at hp; have HQ1 : Hid (OP w1 g A (outL (ns 1 4) ys o1) w3) := hp; clear hp))
  obtain ⟨o2, ho1⟩ : ∃ z, outL (ns 1 4) ys o1 = z := ⟨_, rfl⟩
  have HE2 : Hid (outL (([] ++ [.n 0]) ++ (ns 1 4)) ys o = o2) := by show _ = _; rw [outL_app, HE1.out]; exact ho1
  rw [ho1] at HQ1
  have HP2 : Hid (OP w1 g A o2 w3) := HQ1
  clear HQ1 HP1 HE1 hL1 HXC1 ho1 HS1 hl1 hc1 hm1 HZ1
  have HXC2 : Hid (Mem.Bx w3 55 74 gm ys) := HP2.out.box HX1.out HGM.out HGA.out
  have hL2 : Hid (o2.bs.length ≤ 890000000) := by show _ ≤ _; rw [← HE2.out]; exact Nat.le_trans (outL_len HS.out o _) (by have := HBO.out; show _ + 100009 * 5 ≤ _; omega)
  obtain ⟨zs2, hzs2⟩ : ∃ z, (ys.drop 5).take 4 = z := ⟨_, rfl⟩
  have HS2 : Hid (Cells.Ok [.i, .i, .i, .i] zs2) := by show Cells.Ok _ _; rw [← hzs2]; exact Cells.Ok.part HK.out 5 4
  have hl2 : Hid (zs2.length = 4) := HS2.out.len
  have hc2 : Hid (∀ j u, zs2[j]? = some u → w3.cell? ⟨gm, 5 + j, none⟩ = some u) := by rw [← hzs2]; exact bx_part HXC2.out 5 4
  have hm2 : Hid (Sm zs2) := by show Sm _; rw [← hzs2]; exact sm_part HS.out 5 4
  have HZ2 := Lib.hid hzs2
  clear hzs2
  go_upto_region 4 with (first | ((with_reducible refine Mem.load_agg _ _ addr_agg gm 5 zs2 ?hx2 hl2.out hc2.out ?_); case hx2 => exact rfl) | (go_at_call 60; refine (HP2.out.lift fun A1 c1 hA => oAddr_any HS2.out hm2.out hA hL2.out).mono ?_; rintro x9 w4 ⟨rfl, hp⟩; rw [← HZ2.out, ← outL_sh (off := 5) (n := 4) o2 (by decide +kernel)] at hp; have HQ2 : Hid (OP w1 g A (outL (ns 5 4) ys o2) w4) := hp; clear hp))
  obtain ⟨o3, ho2⟩ : ∃ z, outL (ns 5 4) ys o2 = z := ⟨_, rfl⟩
  have HE3 : Hid (outL ((([] ++ [.n 0]) ++ (ns 1 4)) ++ (ns 5 4)) ys o = o3) := by show _ = _; rw [outL_app, HE2.out]; exact ho2
  rw [ho2] at HQ2
  have HP3 : Hid (OP w1 g A o3 w4) := HQ2
  clear HQ2 HP2 HE2 hL2 HXC2 ho2 HS2 hl2 hc2 hm2 HZ2
  have HXC3 : Hid (Mem.Bx w4 55 74 gm ys) := HP3.out.box HX1.out HGM.out HGA.out
  have hL3 : Hid (o3.bs.length ≤ 1000000000) := by show _ ≤ _; rw [← HE3.out]; exact Nat.le_trans (outL_len HS.out o _) (by have := HBO.out; show _ + 100009 * 9 ≤ _; omega)
  obtain ⟨_, e3, v3, rfl⟩ := HK.out.get (k := 9) (kd := .i) rfl
  have x3 : w4.cell? ⟨gm, 9, none⟩ = some (.int .i64 v3) := HXC3.out.cell e3
  have EV3 := Lib.hid e3
  clear e3
  go_upto_region 5 with (go_at_call 27; refine (HP3.out.lift fun A1 c1 hA => oNumber_any v3 hA hL3.out).mono ?_; rintro x9 w5 ⟨rfl, hp⟩; rw [outL_n EV3.out o3] at hp; have HQ3 := Lib.hid hp; clear hp)
  obtain ⟨o4, ho3⟩ : ∃ z, outL [.n 9] ys o3 = z := ⟨_, rfl⟩
  have HE4 : Hid (outL (((([] ++ [.n 0]) ++ (ns 1 4)) ++ (ns 5 4)) ++ [.n 9]) ys o = o4) := by show _ = _; rw [outL_app, HE3.out]; exact ho3
  rw [ho3] at HQ3
  have HP4 : Hid (OP w1 g A o4 w5) := HQ3
  clear HQ3 HP3 HE3 hL3 HXC3 ho3 x3 EV3
  have HXC4 : Hid (Mem.Bx w5 55 74 gm ys) := HP4.out.box HX1.out HGM.out HGA.out
  have hL4 : Hid (o4.bs.length ≤ 1000000000) := by show _ ≤ _; rw [← HE4.out]; exact Nat.le_trans (outL_len HS.out o _) (by have := HBO.out; show _ + 100009 * 10 ≤ _; omega)
  obtain ⟨_, e4, v4, rfl⟩ := HK.out.get (k := 10) (kd := .i) rfl
  have x4 : w5.cell? ⟨gm, 10, none⟩ = some (.int .i64 v4) := HXC4.out.cell e4
  have EV4 := Lib.hid e4
  clear e4
  go_upto_region 6 with (go_at_call 27; refine (HP4.out.lift fun A1 c1 hA => oNumber_any v4 hA hL4.out).mono ?_; rintro x9 w6 ⟨rfl, hp⟩; rw [outL_n EV4.out o4] at hp; have HQ4 := Lib.hid hp; clear hp)
  obtain ⟨o5, ho4⟩ : ∃ z, outL [.n 10] ys o4 = z := ⟨_, rfl⟩
  have HE5 : Hid (outL ((((([] ++ [.n 0]) ++ (ns 1 4)) ++ (ns 5 4)) ++ [.n 9]) ++ [.n 10]) ys o = o5) := by show _ = _; rw [outL_app, HE4.out]; exact ho4
  rw [ho4] at HQ4
  have HP5 : Hid (OP w1 g A o5 w6) := HQ4
  clear HQ4 HP4 HE4 hL4 HXC4 ho4 x4 EV4
  have HXC5 : Hid (Mem.Bx w6 55 74 gm ys) := HP5.out.box HX1.out HGM.out HGA.out
  have hL5 : Hid (o5.bs.length ≤ 1000000000) := by show _ ≤ _; rw [← HE5.out]; exact Nat.le_trans (outL_len HS.out o _) (by have := HBO.out; show _ + 100009 * 11 ≤ _; omega)
  obtain ⟨_, e5, v5, rfl⟩ := HK.out.get (k := 11) (kd := .i) rfl
  have x5 : w6.cell? ⟨gm, 11, none⟩ = some (.int .i64 v5) := HXC5.out.cell e5
  have EV5 := Lib.hid e5
  clear e5
  go_upto_region 7 with (go_at_call 27; refine (HP5.out.lift fun A1 c1 hA => oNumber_any v5 hA hL5.out).mono ?_; rintro x9 w7 ⟨rfl, hp⟩; rw [outL_n EV5.out o5] at hp; have HQ5 := Lib.hid hp; clear hp)
  obtain ⟨o6, ho5⟩ : ∃ z, outL [.n 11] ys o5 = z := ⟨_, rfl⟩
  have HE6 : Hid (outL (((((([] ++ [.n 0]) ++ (ns 1 4)) ++ (ns 5 4)) ++ [.n 9]) ++ [.n 10]) ++ [.n 11]) ys o = o6) := by show _ = _; rw [outL_app, HE5.out]; exact ho5
  rw [ho5] at HQ5
  have HP6 : Hid (OP w1 g A o6 w7) := HQ5
  clear HQ5 HP5 HE5 hL5 HXC5 ho5 x5 EV5
  have HXC6 : Hid (Mem.Bx w7 55 74 gm ys) := HP6.out.box HX1.out HGM.out HGA.out
  have hL6 : Hid (o6.bs.length ≤ 1000000000) := by show _ ≤ _; rw [← HE6.out]; exact Nat.le_trans (outL_len HS.out o _) (by have := HBO.out; show _ + 100009 * 12 ≤ _; omega)
  obtain ⟨_, e6, v6, rfl⟩ := HK.out.get (k := 12) (kd := .i) rfl
  have x6 : w7.cell? ⟨gm, 12, none⟩ = some (.int .i64 v6) := HXC6.out.cell e6
  have EV6 := Lib.hid e6
  clear e6
  go_upto_region 8 with (go_at_call 27; refine (HP6.out.lift fun A1 c1 hA => oNumber_any v6 hA hL6.out).mono ?_; rintro x9 w8 ⟨rfl, hp⟩; rw [outL_n EV6.out o6] at hp; have HQ6 := Lib.hid hp; clear hp)
  obtain ⟨o7, ho6⟩ : ∃ z, outL [.n 12] ys o6 = z := ⟨_, rfl⟩
  have HE7 : Hid (outL ((((((([] ++ [.n 0]) ++ (ns 1 4)) ++ (ns 5 4)) ++ [.n 9]) ++ [.n 10]) ++ [.n 11]) ++ [.n 12]) ys o = o7) := by show _ = _; rw [outL_app, HE6.out]; exact ho6
  rw [ho6] at HQ6
  have HP7 : Hid (OP w1 g A o7 w8) := HQ6
  clear HQ6 HP6 HE6 hL6 HXC6 ho6 x6 EV6
  have HXC7 : Hid (Mem.Bx w8 55 74 gm ys) := HP7.out.box HX1.out HGM.out HGA.out
  have hL7 : Hid (o7.bs.length ≤ 1000000000) := by show _ ≤ _; rw [← HE7.out]; exact Nat.le_trans (outL_len HS.out o _) (by have := HBO.out; show _ + 100009 * 13 ≤ _; omega)
  obtain ⟨_, e7, v7, rfl⟩ := HK.out.get (k := 13) (kd := .i) rfl
  have x7 : w8.cell? ⟨gm, 13, none⟩ = some (.int .i64 v7) := HXC7.out.cell e7
  have EV7 := Lib.hid e7
  clear e7
  go_upto_region 9 with (go_at_call 27; refine (HP7.out.lift fun A1 c1 hA => oNumber_any v7 hA hL7.out).mono ?_; rintro x9 w9 ⟨rfl, hp⟩; rw [outL_n EV7.out o7] at hp; have HQ7 := Lib.hid hp; clear hp)
  obtain ⟨o8, ho7⟩ : ∃ z, outL [.n 13] ys o7 = z := ⟨_, rfl⟩
  have HE8 : Hid (outL (((((((([] ++ [.n 0]) ++ (ns 1 4)) ++ (ns 5 4)) ++ [.n 9]) ++ [.n 10]) ++ [.n 11]) ++ [.n 12]) ++ [.n 13]) ys o = o8) := by show _ = _; rw [outL_app, HE7.out]; exact ho7
  rw [ho7] at HQ7
  have HP8 : Hid (OP w1 g A o8 w9) := HQ7
  clear HQ7 HP7 HE7 hL7 HXC7 ho7 x7 EV7
  have HXC8 : Hid (Mem.Bx w9 55 74 gm ys) := HP8.out.box HX1.out HGM.out HGA.out
  have hL8 : Hid (o8.bs.length ≤ 880000000) := by show _ ≤ _; rw [← HE8.out]; exact Nat.le_trans (outL_len HS.out o _) (by have := HBO.out; show _ + 100009 * 14 ≤ _; omega)
  obtain ⟨zs8, hzs8⟩ : ∃ z, (ys.drop 14).take 13 = z := ⟨_, rfl⟩
  have HS8 : Hid (Cells.Ok chainKd zs8) := by show Cells.Ok _ _; rw [← hzs8]; exact Cells.Ok.part HK.out 14 13
  have hl8 : Hid (zs8.length = 13) := HS8.out.len
  have hc8 : Hid (∀ j u, zs8[j]? = some u → w9.cell? ⟨gm, 14 + j, none⟩ = some u) := by rw [← hzs8]; exact bx_part HXC8.out 14 13
  have hm8 : Hid (Sm zs8) := by show Sm _; rw [← hzs8]; exact sm_part HS.out 14 13
  have HZ8 := Lib.hid hzs8
  clear hzs8
  go_upto_region 10 with (first | ((with_reducible refine Mem.load_agg _ _ wconfig_agg gm 14 zs8 ?hx8 hl8.out hc8.out ?_); case hx8 => exact rfl) | (go_at_call 29; refine (HP8.out.lift fun A1 c1 hA => oConfig_any HS8.out hm8.out hA hL8.out).mono ?_; rintro x9 w10 ⟨rfl, hp⟩; rw [← HZ8.out, ← outL_sh (off := 14) (n := 13) o8 (by decide +kernel)] at hp; have HQ8 : Hid (OP w1 g A (outL (chainM 14) ys o8) w10) := hp; clear hp))
  obtain ⟨o9, ho8⟩ : ∃ z, outL (chainM 14) ys o8 = z := ⟨_, rfl⟩
  have HE9 : Hid (outL ((((((((([] ++ [.n 0]) ++ (ns 1 4)) ++ (ns 5 4)) ++ [.n 9]) ++ [.n 10]) ++ [.n 11]) ++ [.n 12]) ++ [.n 13]) ++ (chainM 14)) ys o = o9) := by show _ = _; rw [outL_app, HE8.out]; exact ho8
  rw [ho8] at HQ8
  have HP9 : Hid (OP w1 g A o9 w10) := HQ8
  clear HQ8 HP8 HE8 hL8 HXC8 ho8 HS8 hl8 hc8 hm8 HZ8
  have HXC9 : Hid (Mem.Bx w10 55 74 gm ys) := HP9.out.box HX1.out HGM.out HGA.out
  have hL9 : Hid (o9.bs.length ≤ 870000000) := by show _ ≤ _; rw [← HE9.out]; exact Nat.le_trans (outL_len HS.out o _) (by have := HBO.out; show _ + 100009 * 27 ≤ _; omega)
  obtain ⟨zs9, hzs9⟩ : ∃ z, (ys.drop 27).take 20 = z := ⟨_, rfl⟩
  have HS9 : Hid (Cells.Ok entryK zs9) := by show Cells.Ok _ _; rw [← hzs9]; exact Cells.Ok.part HK.out 27 20
  have hl9 : Hid (zs9.length = 20) := HS9.out.len
  have hc9 : Hid (∀ j u, zs9[j]? = some u → w10.cell? ⟨gm, 27 + j, none⟩ = some u) := by rw [← hzs9]; exact bx_part HXC9.out 27 20
  have hm9 : Hid (Sm zs9) := by show Sm _; rw [← hzs9]; exact sm_part HS.out 27 20
  have HZ9 := Lib.hid hzs9
  clear hzs9
  go_upto_region 11 with (first | ((with_reducible refine Mem.load_agg _ _ wentry_agg gm 27 zs9 ?hx9 hl9.out hc9.out ?_); case hx9 => exact rfl) | (go_at_call 28; refine (HP9.out.lift fun A1 c1 hA => oEntry_any HS9.out hm9.out hA hL9.out).mono ?_; rintro x9 w11 ⟨rfl, hp⟩; rw [← HZ9.out, ← outL_sh (off := 27) (n := 20) o9 (by decide +kernel)] at hp; have HQ9 : Hid (OP w1 g A (outL (writeM 27) ys o9) w11) := hp; clear hp))
  obtain ⟨o10, ho9⟩ : ∃ z, outL (writeM 27) ys o9 = z := ⟨_, rfl⟩
  have HE10 : Hid (outL (((((((((([] ++ [.n 0]) ++ (ns 1 4)) ++ (ns 5 4)) ++ [.n 9]) ++ [.n 10]) ++ [.n 11]) ++ [.n 12]) ++ [.n 13]) ++ (chainM 14)) ++ (writeM 27)) ys o = o10) := by show _ = _; rw [outL_app, HE9.out]; exact ho9
  rw [ho9] at HQ9
  have HP10 : Hid (OP w1 g A o10 w11) := HQ9
  clear HQ9 HP9 HE9 hL9 HXC9 ho9 HS9 hl9 hc9 hm9 HZ9
  have HXC10 : Hid (Mem.Bx w11 55 74 gm ys) := HP10.out.box HX1.out HGM.out HGA.out
  have hL10 : Hid (o10.bs.length ≤ 1000000000) := by show _ ≤ _; rw [← HE10.out]; exact Nat.le_trans (outL_len HS.out o _) (by have := HBO.out; show _ + 100009 * 47 ≤ _; omega)
  obtain ⟨_, e10, v10, rfl⟩ := HK.out.get (k := 47) (kd := .b) rfl
  have x10 : w11.cell? ⟨gm, 47, none⟩ = some (.bool v10) := HXC10.out.cell e10
  have EV10 := Lib.hid e10
  clear e10
  go_upto_region 12 with (go_at_call 49; refine (HP10.out.lift fun A1 c1 hA => oTruth_any v10 hA hL10.out).mono ?_; rintro x9 w12 ⟨rfl, hp⟩; rw [outL_b EV10.out o10] at hp; have HQ10 := Lib.hid hp; clear hp)
  obtain ⟨o11, ho10⟩ : ∃ z, outL [.b 47] ys o10 = z := ⟨_, rfl⟩
  have HE11 : Hid (outL ((((((((((([] ++ [.n 0]) ++ (ns 1 4)) ++ (ns 5 4)) ++ [.n 9]) ++ [.n 10]) ++ [.n 11]) ++ [.n 12]) ++ [.n 13]) ++ (chainM 14)) ++ (writeM 27)) ++ [.b 47]) ys o = o11) := by show _ = _; rw [outL_app, HE10.out]; exact ho10
  rw [ho10] at HQ10
  have HP11 : Hid (OP w1 g A o11 w12) := HQ10
  clear HQ10 HP10 HE10 hL10 HXC10 ho10 x10 EV10
  have HXC11 : Hid (Mem.Bx w12 55 74 gm ys) := HP11.out.box HX1.out HGM.out HGA.out
  have hL11 : Hid (o11.bs.length ≤ 900000000) := by show _ ≤ _; rw [← HE11.out]; exact Nat.le_trans (outL_len HS.out o _) (by have := HBO.out; show _ + 100009 * 48 ≤ _; omega)
  obtain ⟨_, e11, v11, rfl⟩ := HK.out.get (k := 48) (kd := .s) rfl
  have x11 : w12.cell? ⟨gm, 48, none⟩ = some (.string v11) := HXC11.out.cell e11
  have EV11 := Lib.hid e11
  clear e11
  go_upto_region 13 with (go_at_call 48; refine (HP11.out.lift fun A1 c1 hA => oText_any v11 (HS.out _ _ EV11.out) hA hL11.out).mono ?_; rintro x9 w13 ⟨rfl, hp⟩; rw [outL_t (m := 16) EV11.out o11] at hp; have HQ11 := Lib.hid hp; clear hp)
  obtain ⟨o12, ho11⟩ : ∃ z, outL [.t 48 16] ys o11 = z := ⟨_, rfl⟩
  have HE12 : Hid (outL (((((((((((([] ++ [.n 0]) ++ (ns 1 4)) ++ (ns 5 4)) ++ [.n 9]) ++ [.n 10]) ++ [.n 11]) ++ [.n 12]) ++ [.n 13]) ++ (chainM 14)) ++ (writeM 27)) ++ [.b 47]) ++ [.t 48 16]) ys o = o12) := by show _ = _; rw [outL_app, HE11.out]; exact ho11
  rw [ho11] at HQ11
  have HP12 : Hid (OP w1 g A o12 w13) := HQ11
  clear HQ11 HP11 HE11 hL11 HXC11 ho11 x11 EV11
  have HXC12 : Hid (Mem.Bx w13 55 74 gm ys) := HP12.out.box HX1.out HGM.out HGA.out
  have hL12 : Hid (o12.bs.length ≤ 900000000) := by show _ ≤ _; rw [← HE12.out]; exact Nat.le_trans (outL_len HS.out o _) (by have := HBO.out; show _ + 100009 * 49 ≤ _; omega)
  obtain ⟨_, e12, v12, rfl⟩ := HK.out.get (k := 49) (kd := .s) rfl
  have x12 : w13.cell? ⟨gm, 49, none⟩ = some (.string v12) := HXC12.out.cell e12
  have EV12 := Lib.hid e12
  clear e12
  go_upto_region 14 with (go_at_call 48; refine (HP12.out.lift fun A1 c1 hA => oText_any v12 (HS.out _ _ EV12.out) hA hL12.out).mono ?_; rintro x9 w14 ⟨rfl, hp⟩; rw [outL_t (m := 32) EV12.out o12] at hp; have HQ12 := Lib.hid hp; clear hp)
  obtain ⟨o13, ho12⟩ : ∃ z, outL [.t 49 32] ys o12 = z := ⟨_, rfl⟩
  have HE13 : Hid (outL ((((((((((((([] ++ [.n 0]) ++ (ns 1 4)) ++ (ns 5 4)) ++ [.n 9]) ++ [.n 10]) ++ [.n 11]) ++ [.n 12]) ++ [.n 13]) ++ (chainM 14)) ++ (writeM 27)) ++ [.b 47]) ++ [.t 48 16]) ++ [.t 49 32]) ys o = o13) := by show _ = _; rw [outL_app, HE12.out]; exact ho12
  rw [ho12] at HQ12
  have HP13 : Hid (OP w1 g A o13 w14) := HQ12
  clear HQ12 HP12 HE12 hL12 HXC12 ho12 x12 EV12
  have HXC13 : Hid (Mem.Bx w14 55 74 gm ys) := HP13.out.box HX1.out HGM.out HGA.out
  have hL13 : Hid (o13.bs.length ≤ 1000000000) := by show _ ≤ _; rw [← HE13.out]; exact Nat.le_trans (outL_len HS.out o _) (by have := HBO.out; show _ + 100009 * 50 ≤ _; omega)
  obtain ⟨_, e13, v13, rfl⟩ := HK.out.get (k := 50) (kd := .b) rfl
  have x13 : w14.cell? ⟨gm, 50, none⟩ = some (.bool v13) := HXC13.out.cell e13
  have EV13 := Lib.hid e13
  clear e13
  go_upto_region 15 with (go_at_call 49; refine (HP13.out.lift fun A1 c1 hA => oTruth_any v13 hA hL13.out).mono ?_; rintro x9 w15 ⟨rfl, hp⟩; rw [outL_b EV13.out o13] at hp; have HQ13 := Lib.hid hp; clear hp)
  obtain ⟨o14, ho13⟩ : ∃ z, outL [.b 50] ys o13 = z := ⟨_, rfl⟩
  have HE14 : Hid (outL (((((((((((((([] ++ [.n 0]) ++ (ns 1 4)) ++ (ns 5 4)) ++ [.n 9]) ++ [.n 10]) ++ [.n 11]) ++ [.n 12]) ++ [.n 13]) ++ (chainM 14)) ++ (writeM 27)) ++ [.b 47]) ++ [.t 48 16]) ++ [.t 49 32]) ++ [.b 50]) ys o = o14) := by show _ = _; rw [outL_app, HE13.out]; exact ho13
  rw [ho13] at HQ13
  have HP14 : Hid (OP w1 g A o14 w15) := HQ13
  clear HQ13 HP13 HE13 hL13 HXC13 ho13 x13 EV13
  have HXC14 : Hid (Mem.Bx w15 55 74 gm ys) := HP14.out.box HX1.out HGM.out HGA.out
  have hL14 : Hid (o14.bs.length ≤ 1000000000) := by show _ ≤ _; rw [← HE14.out]; exact Nat.le_trans (outL_len HS.out o _) (by have := HBO.out; show _ + 100009 * 51 ≤ _; omega)
  obtain ⟨_, e14, v14, rfl⟩ := HK.out.get (k := 51) (kd := .b) rfl
  have x14 : w15.cell? ⟨gm, 51, none⟩ = some (.bool v14) := HXC14.out.cell e14
  have EV14 := Lib.hid e14
  clear e14
  go_upto_region 16 with (go_at_call 49; refine (HP14.out.lift fun A1 c1 hA => oTruth_any v14 hA hL14.out).mono ?_; rintro x9 w16 ⟨rfl, hp⟩; rw [outL_b EV14.out o14] at hp; have HQ14 := Lib.hid hp; clear hp)
  obtain ⟨o15, ho14⟩ : ∃ z, outL [.b 51] ys o14 = z := ⟨_, rfl⟩
  have HE15 : Hid (outL ((((((((((((((([] ++ [.n 0]) ++ (ns 1 4)) ++ (ns 5 4)) ++ [.n 9]) ++ [.n 10]) ++ [.n 11]) ++ [.n 12]) ++ [.n 13]) ++ (chainM 14)) ++ (writeM 27)) ++ [.b 47]) ++ [.t 48 16]) ++ [.t 49 32]) ++ [.b 50]) ++ [.b 51]) ys o = o15) := by show _ = _; rw [outL_app, HE14.out]; exact ho14
  rw [ho14] at HQ14
  have HP15 : Hid (OP w1 g A o15 w16) := HQ14
  clear HQ14 HP14 HE14 hL14 HXC14 ho14 x14 EV14
  have HXC15 : Hid (Mem.Bx w16 55 74 gm ys) := HP15.out.box HX1.out HGM.out HGA.out
  have hL15 : Hid (o15.bs.length ≤ 890000000) := by show _ ≤ _; rw [← HE15.out]; exact Nat.le_trans (outL_len HS.out o _) (by have := HBO.out; show _ + 100009 * 52 ≤ _; omega)
  obtain ⟨zs15, hzs15⟩ : ∃ z, (ys.drop 52).take 9 = z := ⟨_, rfl⟩
  have HS15 : Hid (Cells.Ok [.i, .i, .i, .i, .i, .i, .i, .i, .i] zs15) := by show Cells.Ok _ _; rw [← hzs15]; exact Cells.Ok.part HK.out 52 9
  have hl15 : Hid (zs15.length = 9) := HS15.out.len
  have hc15 : Hid (∀ j u, zs15[j]? = some u → w16.cell? ⟨gm, 52 + j, none⟩ = some u) := by rw [← hzs15]; exact bx_part HXC15.out 52 9
  have hm15 : Hid (Sm zs15) := by show Sm _; rw [← hzs15]; exact sm_part HS.out 52 9
  have HZ15 := Lib.hid hzs15
  clear hzs15
  go_upto_region 17 with (first | ((with_reducible refine Mem.load_agg _ _ vec_agg9 gm 52 zs15 ?hx15 hl15.out hc15.out ?_); case hx15 => exact rfl) | (go_at_call 50; refine (HP15.out.lift fun A1 c1 hA => oVec_any HS15.out hm15.out hA hL15.out).mono ?_; rintro x9 w17 ⟨rfl, hp⟩; rw [← HZ15.out, ← outL_sh (off := 52) (n := 9) o15 (by decide +kernel)] at hp; have HQ15 : Hid (OP w1 g A (outL (ns 52 9) ys o15) w17) := hp; clear hp))
  obtain ⟨o16, ho15⟩ : ∃ z, outL (ns 52 9) ys o15 = z := ⟨_, rfl⟩
  have HE16 : Hid (outL (((((((((((((((([] ++ [.n 0]) ++ (ns 1 4)) ++ (ns 5 4)) ++ [.n 9]) ++ [.n 10]) ++ [.n 11]) ++ [.n 12]) ++ [.n 13]) ++ (chainM 14)) ++ (writeM 27)) ++ [.b 47]) ++ [.t 48 16]) ++ [.t 49 32]) ++ [.b 50]) ++ [.b 51]) ++ (ns 52 9)) ys o = o16) := by show _ = _; rw [outL_app, HE15.out]; exact ho15
  rw [ho15] at HQ15
  have HP16 : Hid (OP w1 g A o16 w17) := HQ15
  clear HQ15 HP15 HE15 hL15 HXC15 ho15 HS15 hl15 hc15 hm15 HZ15
  have HXC16 : Hid (Mem.Bx w17 55 74 gm ys) := HP16.out.box HX1.out HGM.out HGA.out
  have hL16 : Hid (o16.bs.length ≤ 890000000) := by show _ ≤ _; rw [← HE16.out]; exact Nat.le_trans (outL_len HS.out o _) (by have := HBO.out; show _ + 100009 * 61 ≤ _; omega)
  obtain ⟨zs16, hzs16⟩ : ∃ z, (ys.drop 61).take 9 = z := ⟨_, rfl⟩
  have HS16 : Hid (Cells.Ok [.i, .i, .i, .i, .i, .i, .i, .i, .i] zs16) := by show Cells.Ok _ _; rw [← hzs16]; exact Cells.Ok.part HK.out 61 9
  have hl16 : Hid (zs16.length = 9) := HS16.out.len
  have hc16 : Hid (∀ j u, zs16[j]? = some u → w17.cell? ⟨gm, 61 + j, none⟩ = some u) := by rw [← hzs16]; exact bx_part HXC16.out 61 9
  have hm16 : Hid (Sm zs16) := by show Sm _; rw [← hzs16]; exact sm_part HS.out 61 9
  have HZ16 := Lib.hid hzs16
  clear hzs16
  go_upto_region 18 with (first | ((with_reducible refine Mem.load_agg _ _ vec_agg9 gm 61 zs16 ?hx16 hl16.out hc16.out ?_); case hx16 => exact rfl) | (go_at_call 50; refine (HP16.out.lift fun A1 c1 hA => oVec_any HS16.out hm16.out hA hL16.out).mono ?_; rintro x9 w18 ⟨rfl, hp⟩; rw [← HZ16.out, ← outL_sh (off := 61) (n := 9) o16 (by decide +kernel)] at hp; have HQ16 : Hid (OP w1 g A (outL (ns 61 9) ys o16) w18) := hp; clear hp))
  obtain ⟨o17, ho16⟩ : ∃ z, outL (ns 61 9) ys o16 = z := ⟨_, rfl⟩
  have HE17 : Hid (outL ((((((((((((((((([] ++ [.n 0]) ++ (ns 1 4)) ++ (ns 5 4)) ++ [.n 9]) ++ [.n 10]) ++ [.n 11]) ++ [.n 12]) ++ [.n 13]) ++ (chainM 14)) ++ (writeM 27)) ++ [.b 47]) ++ [.t 48 16]) ++ [.t 49 32]) ++ [.b 50]) ++ [.b 51]) ++ (ns 52 9)) ++ (ns 61 9)) ys o = o17) := by show _ = _; rw [outL_app, HE16.out]; exact ho16
  rw [ho16] at HQ16
  have HP17 : Hid (OP w1 g A o17 w18) := HQ16
  clear HQ16 HP16 HE16 hL16 HXC16 ho16 HS16 hl16 hc16 hm16 HZ16
  have HXC17 : Hid (Mem.Bx w18 55 74 gm ys) := HP17.out.box HX1.out HGM.out HGA.out
  have hL17 : Hid (o17.bs.length ≤ 1000000000) := by show _ ≤ _; rw [← HE17.out]; exact Nat.le_trans (outL_len HS.out o _) (by have := HBO.out; show _ + 100009 * 70 ≤ _; omega)
  obtain ⟨_, e17, v17, rfl⟩ := HK.out.get (k := 70) (kd := .i) rfl
  have x17 : w18.cell? ⟨gm, 70, none⟩ = some (.int .i64 v17) := HXC17.out.cell e17
  have EV17 := Lib.hid e17
  clear e17
  go_upto_region 19 with (go_at_call 27; refine (HP17.out.lift fun A1 c1 hA => oNumber_any v17 hA hL17.out).mono ?_; rintro x9 w19 ⟨rfl, hp⟩; rw [outL_n EV17.out o17] at hp; have HQ17 := Lib.hid hp; clear hp)
  obtain ⟨o18, ho17⟩ : ∃ z, outL [.n 70] ys o17 = z := ⟨_, rfl⟩
  have HE18 : Hid (outL (((((((((((((((((([] ++ [.n 0]) ++ (ns 1 4)) ++ (ns 5 4)) ++ [.n 9]) ++ [.n 10]) ++ [.n 11]) ++ [.n 12]) ++ [.n 13]) ++ (chainM 14)) ++ (writeM 27)) ++ [.b 47]) ++ [.t 48 16]) ++ [.t 49 32]) ++ [.b 50]) ++ [.b 51]) ++ (ns 52 9)) ++ (ns 61 9)) ++ [.n 70]) ys o = o18) := by show _ = _; rw [outL_app, HE17.out]; exact ho17
  rw [ho17] at HQ17
  have HP18 : Hid (OP w1 g A o18 w19) := HQ17
  clear HQ17 HP17 HE17 hL17 HXC17 ho17 x17 EV17
  have HXC18 : Hid (Mem.Bx w19 55 74 gm ys) := HP18.out.box HX1.out HGM.out HGA.out
  have hL18 : Hid (o18.bs.length ≤ 1000000000) := by show _ ≤ _; rw [← HE18.out]; exact Nat.le_trans (outL_len HS.out o _) (by have := HBO.out; show _ + 100009 * 71 ≤ _; omega)
  obtain ⟨_, e18, v18, rfl⟩ := HK.out.get (k := 71) (kd := .i) rfl
  have x18 : w19.cell? ⟨gm, 71, none⟩ = some (.int .i64 v18) := HXC18.out.cell e18
  have EV18 := Lib.hid e18
  clear e18
  go_upto_region 20 with (go_at_call 27; refine (HP18.out.lift fun A1 c1 hA => oNumber_any v18 hA hL18.out).mono ?_; rintro x9 w20 ⟨rfl, hp⟩; rw [outL_n EV18.out o18] at hp; have HQ18 := Lib.hid hp; clear hp)
  obtain ⟨o19, ho18⟩ : ∃ z, outL [.n 71] ys o18 = z := ⟨_, rfl⟩
  have HE19 : Hid (outL ((((((((((((((((((([] ++ [.n 0]) ++ (ns 1 4)) ++ (ns 5 4)) ++ [.n 9]) ++ [.n 10]) ++ [.n 11]) ++ [.n 12]) ++ [.n 13]) ++ (chainM 14)) ++ (writeM 27)) ++ [.b 47]) ++ [.t 48 16]) ++ [.t 49 32]) ++ [.b 50]) ++ [.b 51]) ++ (ns 52 9)) ++ (ns 61 9)) ++ [.n 70]) ++ [.n 71]) ys o = o19) := by show _ = _; rw [outL_app, HE18.out]; exact ho18
  rw [ho18] at HQ18
  have HP19 : Hid (OP w1 g A o19 w20) := HQ18
  clear HQ18 HP18 HE18 hL18 HXC18 ho18 x18 EV18
  have HXC19 : Hid (Mem.Bx w20 55 74 gm ys) := HP19.out.box HX1.out HGM.out HGA.out
  have hL19 : Hid (o19.bs.length ≤ 1000000000) := by show _ ≤ _; rw [← HE19.out]; exact Nat.le_trans (outL_len HS.out o _) (by have := HBO.out; show _ + 100009 * 72 ≤ _; omega)
  obtain ⟨_, e19, v19, rfl⟩ := HK.out.get (k := 72) (kd := .i) rfl
  have x19 : w20.cell? ⟨gm, 72, none⟩ = some (.int .i64 v19) := HXC19.out.cell e19
  have EV19 := Lib.hid e19
  clear e19
  go_upto_region 21 with (go_at_call 27; refine (HP19.out.lift fun A1 c1 hA => oNumber_any v19 hA hL19.out).mono ?_; rintro x9 w21 ⟨rfl, hp⟩; rw [outL_n EV19.out o19] at hp; have HQ19 := Lib.hid hp; clear hp)
  obtain ⟨o20, ho19⟩ : ∃ z, outL [.n 72] ys o19 = z := ⟨_, rfl⟩
  have HE20 : Hid (outL (((((((((((((((((((([] ++ [.n 0]) ++ (ns 1 4)) ++ (ns 5 4)) ++ [.n 9]) ++ [.n 10]) ++ [.n 11]) ++ [.n 12]) ++ [.n 13]) ++ (chainM 14)) ++ (writeM 27)) ++ [.b 47]) ++ [.t 48 16]) ++ [.t 49 32]) ++ [.b 50]) ++ [.b 51]) ++ (ns 52 9)) ++ (ns 61 9)) ++ [.n 70]) ++ [.n 71]) ++ [.n 72]) ys o = o20) := by show _ = _; rw [outL_app, HE19.out]; exact ho19
  rw [ho19] at HQ19
  have HP20 : Hid (OP w1 g A o20 w21) := HQ19
  clear HQ19 HP19 HE19 hL19 HXC19 ho19 x19 EV19
  have HXC20 : Hid (Mem.Bx w21 55 74 gm ys) := HP20.out.box HX1.out HGM.out HGA.out
  have hL20 : Hid (o20.bs.length ≤ 1000000000) := by show _ ≤ _; rw [← HE20.out]; exact Nat.le_trans (outL_len HS.out o _) (by have := HBO.out; show _ + 100009 * 73 ≤ _; omega)
  obtain ⟨_, e20, v20, rfl⟩ := HK.out.get (k := 73) (kd := .i) rfl
  have x20 : w21.cell? ⟨gm, 73, none⟩ = some (.int .i64 v20) := HXC20.out.cell e20
  have EV20 := Lib.hid e20
  clear e20
  go_wp2_with (go_at_call 27; refine (HP20.out.lift fun A1 c1 hA => oNumber_any v20 hA hL20.out).mono ?_; rintro x9 w22 ⟨rfl, hp⟩; rw [outL_n EV20.out o20] at hp; have HQ20 := Lib.hid hp; clear hp)
  obtain ⟨o21, ho20⟩ : ∃ z, outL [.n 73] ys o20 = z := ⟨_, rfl⟩
  have HE21 : Hid (outL ((((((((((((((((((((([] ++ [.n 0]) ++ (ns 1 4)) ++ (ns 5 4)) ++ [.n 9]) ++ [.n 10]) ++ [.n 11]) ++ [.n 12]) ++ [.n 13]) ++ (chainM 14)) ++ (writeM 27)) ++ [.b 47]) ++ [.t 48 16]) ++ [.t 49 32]) ++ [.b 50]) ++ [.b 51]) ++ (ns 52 9)) ++ (ns 61 9)) ++ [.n 70]) ++ [.n 71]) ++ [.n 72]) ++ [.n 73]) ys o = o21) := by show _ = _; rw [outL_app, HE20.out]; exact ho20
  rw [ho20] at HQ20
  have HP21 : Hid (OP w1 g A o21 w22) := HQ20
  clear HQ20 HP20 HE20 hL20 HXC20 ho20 x20 EV20
  first | go_end0 | ((try simp only [Exit.inBlock, Exit.then]); refine bodyPost_ret (results_none rfl _ _ _) rfl ?_)
  refine ⟨rfl, ?_⟩
  have he := HE21.out
  have hq : outL msgM ys o = o21 := by rw [msgM_out, msgM_flat]; exact he
  rw [hq]
  exact OP.base HB.out HP21.out
end Go.Proofs.Ytkfgedgjpgehoaa
