/- The walk of WireCuts. No conditions. -/
import Derived.Test.YtkfgedgjpgehoaaWire25
namespace Go.Proofs.Ytkfgedgjpgehoaa
open Go.ChangeShapes Go.WideShapes Go.ChangeAt Go.RowKit
set_option linter.unusedVariables false
set_option linter.unusedSimpArgs false
set_option maxRecDepth 100000
namespace Wi
/-- a place within a length, from any number -/
theorem place (k : Int) {L : Nat} (hL : 0 < L) : ∃ q : Int, Int.tmod k L = q ∧ -(L : Int) < q ∧ q < L ∧ ∃ n : Nat, Int.tmod (q + L) L = n ∧ n < L := by
  refine ⟨_, rfl, ?_, ?_, (Int.tmod (Int.tmod k L + L) L).toNat, ?_, ?_⟩
  · have := Int.lt_tmod_of_pos k (b := (L : Int)) (by omega); omega
  · exact Int.tmod_lt_of_pos k (by omega)
  · have h1 := Int.lt_tmod_of_pos k (b := (L : Int)) (by omega)
    have := Int.tmod_nonneg (L : Int) (a := Int.tmod k L + L) (by omega)
    omega
  · have h1 := Int.lt_tmod_of_pos k (b := (L : Int)) (by omega)
    have h2 := Int.tmod_nonneg (L : Int) (a := Int.tmod k L + L) (by omega)
    have h3 := Int.tmod_lt_of_pos (Int.tmod k L + L) (b := (L : Int)) (by omega)
    omega
end Wi
section
variable {H : Type} {enc : TypeId × Value → H} {W : World}
theorem open_num {base : Nat} {v : Value} {d : DataW H} {p : List MemPlace} (o : Value.okWide Try.prog W .any base 3 v) (k : DataW.Trod enc Try.prog W 0 (fun _ => true) true 3 v d p) :
    ∃ n : Int, v = .int .i64 n ∧ -9223372036854775808 ≤ n ∧ n ≤ 9223372036854775807 := by
  obtain ⟨n, rfl⟩ := okWide_int Try.underlying3 o
  obtain ⟨m, h⟩ := k
  obtain ⟨n', h1, h2, w0⟩ := DataW.trod_int Try.underlying3 h
  simp [Value.cells] at h1
  subst h1
  have hb := bounds_i64 w0
  exact ⟨n, rfl, hb.1, hb.2⟩
end
namespace wireCutsOpen
open Wi
set_option maxHeartbeats 4000000 in
theorem walk (xs : List Value) (k : Int) (w : World) (h1 : MsgIn recK xs) (hk1 : -9223372036854775808 ≤ k ∧ k ≤ 9223372036854775807) :
    Calls Try.prog 6 #[.agg xs.toArray, .int .i64 k] w fun e w' => e = .returned (.bool true) ∧ Below w.heap.size w w' := by
  obtain ⟨hklo, hkhi⟩ := hk1
  have H1 := Lib.hid h1
  have hlx : Hid (xs.length = 35) := h1.ok.len
  obtain ⟨w1, hw1⟩ : ∃ w1, w.alloc (.cells xs.toArray 37) = w1 := ⟨_, rfl⟩
  have hz1 : Mem.Bx w1 37 35 w.heap.size xs := by rw [← hw1]; exact Mem.Bx.new w 37 xs.toArray (by rw [List.size_toArray, hlx.out]) rfl
  have hk1 : Below w.heap.size w w1 := by rw [← hw1]; exact Reg.below_new _ _
  have HZ : Hid (Mem.Bx w1 37 35 w.heap.size xs) := hz1
  have HB : Hid (Below w.heap.size w w1) := hk1
  obtain ⟨g, hg⟩ : ∃ g, w.heap.size = g := ⟨_, rfl⟩
  rw [hg] at HZ
  have HW1 := Lib.hid hw1
  have HG := Lib.hid hg
  clear hw1 hz1 hk1 hg
  clear h1
  go_enter Try.func6, Try.ntmps6
  go_upto_region 1 with fail
  rw [HW1.out, HG.out]
  have HA := Lib.hid (wireAble_any w1)
  go_upto_region 3 with (go_at_call 14; refine HA.out.mono ?_; rintro x3 w3 ⟨rfl, hb3⟩; have HB3 : Hid (Below w.heap.size w w3) := HB.out.trans (hb3.mono HB.out.size); have HZ3 : Hid (Mem.Bx w3 37 35 g xs) := HZ.out.keeps (Mem.Keeps.of_below hb3) id; clear hb3 HA)
  clear HZ HB HW1
  obtain ⟨s7, s8, hlr⟩ := longR_of H1.out rfl
  have hyc := HZ3.out
  have y7 : w3.cell? ⟨g, 7, none⟩ = some (.string s7) := hyc.cell hlr.e7
  have y8 : w3.cell? ⟨g, 8, none⟩ = some (.string s8) := hyc.cell hlr.e8
  have dr := hlr.d
  obtain ⟨dz7, dz8⟩ := hlr.z
  clear hlr hyc
  cases hv1 : longR xs
  case' true =>
    rw [hv1] at dr
    go_wp2
    go_ret
    exact ⟨rfl, HB3.out⟩
  rw [hv1] at dr
  have hfx := Lib.hid (fedR_of H1.out hv1)
  clear hv1 H1
  go_upto_region 5 with fail
  clear dr y7 y8 dz7 dz8
  obtain ⟨fx, hfx0⟩ : ∃ fx, framedC (recC xs) = fx := ⟨_, rfl⟩
  have HFX := Lib.hid hfx0
  clear hfx0
  have HM := Lib.hid (rec_any (w := w3) hfx.out)
  go_upto_region 6 with (first | ((with_reducible refine Mem.load_agg _ _ record_agg g 0 xs ?hxc hlx.out (fun j u hu => by rw [Nat.zero_add]; exact HZ3.out.cell hu) ?_); case hxc => exact rfl) | (go_at_call 15; refine HM.out.mono ?_; intro x5 w5 hfe; obtain ⟨A1, c1, rfl, h2, h3, h4⟩ := hfe; rw [HFX.out] at h2; have HO1 := Lib.hid h2; have HB5 := Lib.hid h4; clear h2 h3 h4 HM))
  rw [HFX.out]
  have HB6 : Hid (Below w.heap.size w w5) := HB3.out.trans (HB5.out.mono HB3.out.size)
  clear HB3 HB5 HZ3
  by_cases e1 : fx.2 = 0
  case neg =>
    have d1 : (fx.2 != 0) = true := by simpa using e1
    clear e1
    go_wp2
    go_ret
    exact ⟨rfl, HB6.out⟩
  have d1 : (fx.2 != 0) = false := by simpa using e1
  obtain ⟨kk, gx⟩ := goodR_of hfx.out (by rw [HFX.out]; exact e1)
  have hfr : fx.1 = frameB (enR kk xs) := by rw [← HFX.out, gx.fr]
  have hl1 := gx.len
  have hl2 := gx.pos
  obtain ⟨L, hL⟩ : ∃ L, fx.1.length = L := ⟨_, rfl⟩
  have hL2 : L = (enR kk xs).length + 6 := by rw [← hL, hfr, frame_len]
  have hL7 : 7 ≤ L ∧ L ≤ 512 := by omega
  obtain ⟨q, hq, hq1, hq2, n, hn, hnL⟩ := place k (L := L) (by omega)
  have hcut : readR (fx.1.take n) = (zeroR, 0, if n = 0 then 3 else 40) := by
    rw [hfr]
    exact readR_cut (by omega) (by rw [frame_len]; omega)
  have hlt : Hid ((fx.1.take n).length = n) := by show _ = _; rw [List.length_take]; omega
  obtain ⟨b1, o1, rfl⟩ := HO1.out.form (by omega)
  have HRT : Hid (Mem.Rd w5 w5.heap.size (some ⟨b1, o1, none⟩) ((fx.1.take n).map Mem.byteV)) := by
    show Mem.Rd _ _ _ _
    rw [List.map_take]; exact HO1.out.rd.take n
  have HC1 : L ≤ c1 := by rw [← hL]; exact HO1.out.le
  obtain ⟨cd, hcd⟩ : ∃ cd : Int, (if n = 0 then 3 else 40) = cd := ⟨_, rfl⟩
  rw [hcd] at hcut
  have HCD := Lib.hid hcd
  have HCU := Lib.hid hcut
  rw [hL]
  obtain ⟨hL7, hL8⟩ := hL7
  clear e1 gx hfr hl1 hl2 hL hL2 hcut hcd HO1 HFX hfx
  go_upto_region 8 with fail
  go_upto_region 9 with fail
  clear hq hq1 hq2 hn
  go_upto_region 10 with (first | (at_builtin; refine Mem.wpList_clone _ rfl (.tmp 41) (.tmp 44) _ rfl bytes_elem w5.heap.size rfl w5 w5.heap.size (some ⟨b1, o1, none⟩) n c1 _ rfl ?_ rfl (Below.refl _ _) (Nat.le_refl _) HRT.out (by rw [List.length_map, hlt.out]; omega) (Mem.bytes_one _) (by unfold maxLen; omega) (by omega); intro A2 c2 w6 hown hb2 hs2 hf2; have hrr := readRecord_any (bs := fx.1.take n) hown.rd (by rw [hlt.out]; exact hown.le) (by rw [hlt.out]; omega) hown.cap; rw [hlt.out] at hrr; have HB7 := Lib.hid hb2; have HRR := Lib.hid hrr; clear hown hb2 hs2 hf2 hrr) | (go_at_call 17; refine HRR.out.mono ?_; intro x7 w7 hrr; obtain ⟨rfl, h3⟩ := hrr; have HB8 := Lib.hid h3; clear h3 HRR; rw [HCU.out]) | ((with_reducible refine Mem.store_agg _ _ record_agg w7.heap.size zeroR zeroR ?hx ?hy ?hb rfl zeroR_one ?_); ((case hx => exact rfl); (case hy => exact rfl); (case hb => exact Mem.Bx.new w7 _ zeroR.toArray rfl rfl); intro w8 hb4 hk4 hs4; have HZ8 := Lib.hid hb4; have HK8 : Hid (Below w7.heap.size w7 w8) := (hk4.newBox rfl).belowAll; clear hb4 hk4 hs4)))
  have hB57 := HB7.out.trans (HB8.out.mono HB7.out.size)
  have hB58 := hB57.trans (HK8.out.mono hB57.size)
  have HBE : Hid (Below w.heap.size w w8) := HB6.out.trans (hB58.mono HB6.out.size)
  obtain ⟨gz, hgz⟩ : ∃ gz, w7.heap.size = gz := ⟨_, rfl⟩
  rw [hgz] at HZ8 ⊢
  have k3 := recK_eq.eql zeroR_ok zeroR_ok
  rw [(Cells.eqL_iff zeroR_ok zeroR_ok).2 rfl] at k3
  have HK3 := Lib.hid k3
  have hz35 : Hid (zeroR.length = 35) := rfl
  clear k3 hB57 hB58 HB7 HB8 HK8 hgz HRT hlt HCU HB6
  by_cases hn0 : n = 0
  · have d2 : ((n : Int) == 0) = true := by simp; omega
    have hcd := HCD.out
    rw [if_pos hn0] at hcd
    subst hcd
    clear hn0 HCD
    go_wp2_with (first | ((with_reducible refine Mem.load_agg _ _ record_agg gz 0 zeroR ?hxe hz35.out (fun j u hu => by rw [Nat.zero_add]; exact HZ8.out.cell hu) ?_); case hxe => exact rfl) | ((with_reducible refine Mem.wpList_bin _ _ ?hm zeroR.toArray zeroR.toArray true ?hx9 ?hy9 HK3.out ?_); ((case hm => kernel_rfl); (case hx9 => exact rfl); (case hy9 => exact rfl))))
    go_ret
    exact ⟨rfl, HBE.out⟩
  · have d2 : ((n : Int) == 0) = false := by simp; omega
    have d3 : decide ((0 : Int) < (n : Int)) = true := by simp; omega
    have hcd := HCD.out
    rw [if_neg hn0] at hcd
    subst hcd
    clear HCD
    have d4 : (n == 0) = false := by simpa using hn0
    go_wp2_with (first | ((with_reducible refine Mem.load_agg _ _ record_agg gz 0 zeroR ?hxe hz35.out (fun j u hu => by rw [Nat.zero_add]; exact HZ8.out.cell hu) ?_); case hxe => exact rfl) | ((with_reducible refine Mem.wpList_bin _ _ ?hm zeroR.toArray zeroR.toArray true ?hx9 ?hy9 HK3.out ?_); ((case hm => kernel_rfl); (case hx9 => exact rfl); (case hy9 => exact rfl))))
    all_goals go_ret
    all_goals exact ⟨rfl, HBE.out⟩
theorem opened {H : Type} (enc : TypeId × Value → H) (W : World) (base : Nat) (v0 v1 : Value) {d0 d1 : DataW H} {p0 p1 : List MemPlace}
    (o0 : Value.okWide Try.prog W .any base 37 v0) (o1 : Value.okWide Try.prog W .any base 3 v1)
    (k0 : DataW.Trod enc Try.prog W 0 (fun _ => true) true 37 v0 d0 p0) (k1 : DataW.Trod enc Try.prog W 0 (fun _ => true) true 3 v1 d1 p1)
    (z0 : (d0.weights Try.prog 37).all (· ≤ reachBytes) = true) (z1 : (d1.weights Try.prog 3).all (· ≤ reachBytes) = true) :
    Calls Try.prog 6 #[v0, v1] W fun e w' => e = .returned (.bool true) ∧ Below W.heap.size W w' := by
  obtain ⟨xs, rfl, h1⟩ := open_rec o0 k0 z0
  obtain ⟨n, rfl, h2⟩ := open_num o1 k1
  exact walk xs n W h1 h2
end wireCutsOpen
end Go.Proofs.Ytkfgedgjpgehoaa
