/- The walk of WireFrames. No conditions. -/
import Derived.Test.YtkfgedgjpgehoaaWire24
import Derived.Test.YtkfgedgjpgehoaaWire16
namespace Go.Proofs.Ytkfgedgjpgehoaa
open Go.ChangeShapes Go.WideShapes Go.ChangeAt Go.RowKit
set_option linter.unusedVariables false
set_option linter.unusedSimpArgs false
set_option maxRecDepth 100000
namespace Wi
theorem kd_strR : ∀ k, k < 35 → recK[k]? = some .s → k = 7 ∨ k = 8 := by decide +kernel
/-- is a record long -/
def longR (xs : List Value) : Bool := decide (100000 < strN xs 7 + strN xs 8)
theorem fedR_of {xs : List Value} (h : MsgIn recK xs) (hl : longR xs = false) : Fed recK xs := by
  obtain ⟨s7, e7, z7⟩ := h.str (k := 7) rfl
  obtain ⟨s8, e8, z8⟩ := h.str (k := 8) rfl
  have hle : ¬ 100000 < strN xs 7 + strN xs 8 := by unfold longR at hl; simpa using hl
  rw [strN_of e7, strN_of e8] at hle
  refine ⟨h.ok, fun k s hk => ?_⟩
  have hlt := (List.getElem?_eq_some_iff.1 hk).1
  rw [h.ok.len] at hlt
  rcases kd_strR k hlt (ok_str_at h.ok hk) with rfl | rfl
  · rw [e7] at hk; cases hk; omega
  · rw [e8] at hk; cases hk; omega
/-- what is wanted of a record at the test whether it is long -/
structure LongR (xs : List Value) (b : Bool) (s7 s8 : ByteArray) : Prop where
  e7 : xs[7]? = some (.string s7)
  e8 : xs[8]? = some (.string s8)
  d : decide ((100000 : Int) < (s7.size : Int) + (s8.size : Int)) = b
  z : s7.size ≤ 140737488351232 ∧ s8.size ≤ 140737488351232
theorem longR_of {xs : List Value} {b : Bool} (h : MsgIn recK xs) (hb : longR xs = b) : ∃ s7 s8, LongR xs b s7 s8 := by
  obtain ⟨s7, e7, z7⟩ := h.str (k := 7) rfl
  obtain ⟨s8, e8, z8⟩ := h.str (k := 8) rfl
  refine ⟨s7, s8, e7, e8, ?_, z7, z8⟩
  rw [← hb]; unfold longR
  rw [strN_of e7, strN_of e8]
  by_cases h9 : 100000 < s7.size + s8.size
  · rw [decide_eq_true h9]; simp; omega
  · rw [decide_eq_false h9]; simp; omega
end Wi
namespace wireFramesOpen
open Wi
set_option maxHeartbeats 4000000 in
theorem walk (xs ys : List Value) (w : World) (h1 : MsgIn msgK xs) (h2 : MsgIn recK ys) :
    Calls Try.prog 9 #[.agg xs.toArray, .agg ys.toArray] w fun e w' => e = .returned (.bool true) ∧ Below w.heap.size w w' := by
  have H1 := Lib.hid h1
  have H2 := Lib.hid h2
  have hlx : Hid (xs.length = 74) := h1.ok.len
  obtain ⟨w1, hw1⟩ : ∃ w1, w.alloc (.cells xs.toArray 55) = w1 := ⟨_, rfl⟩
  have hz1 : Mem.Bx w1 55 74 w.heap.size xs := by rw [← hw1]; exact Mem.Bx.new w 55 xs.toArray (by rw [List.size_toArray, hlx.out]) rfl
  have hk1 : Below w.heap.size w w1 := by rw [← hw1]; exact Reg.below_new _ _
  have hly : Hid (ys.length = 35) := h2.ok.len
  obtain ⟨w2, hw2⟩ : ∃ w2, w1.alloc (.cells ys.toArray 37) = w2 := ⟨_, rfl⟩
  have hz2 : Mem.Bx w2 37 35 w1.heap.size ys := by rw [← hw2]; exact Mem.Bx.new w1 37 ys.toArray (by rw [List.size_toArray, hly.out]) rfl
  have hk2 : Below w1.heap.size w1 w2 := by rw [← hw2]; exact Reg.below_new _ _
  have hs1 : w1.heap.size = w.heap.size + 1 := by rw [← hw1]; simp
  have HZ : Hid (Mem.Bx w2 55 74 w.heap.size xs) := hz1.keeps (Mem.Keeps.of_below hk2) id
  have HY : Hid (Mem.Bx w2 37 35 w1.heap.size ys) := hz2
  have HB : Hid (Below w.heap.size w w2) := hk1.trans (hk2.mono hk1.size)
  obtain ⟨g, hg⟩ : ∃ g, w.heap.size = g := ⟨_, rfl⟩
  rw [hg] at HZ hs1
  rw [hs1] at HY
  have HW1 := Lib.hid hw1
  have HW2 := Lib.hid hw2
  have HG := Lib.hid hg
  clear h1 h2 hw1 hw2 hz1 hz2 hk1 hk2 hg hs1
  go_enter Try.func9, Try.ntmps9
  go_upto_region 1 with fail
  rw [HW1.out, HW2.out, HG.out]
  have HA := Lib.hid (wireAble_any w2)
  go_upto_region 3 with (go_at_call 14; refine HA.out.mono ?_; rintro x3 w3 ⟨rfl, hb3⟩; have HB3 : Hid (Below w.heap.size w w3) := HB.out.trans (hb3.mono HB.out.size); have HZ3 : Hid (Mem.Bx w3 55 74 g xs) := HZ.out.keeps (Mem.Keeps.of_below hb3) id; have HY3 : Hid (Mem.Bx w3 37 35 (g + 1) ys) := HY.out.keeps (Mem.Keeps.of_below hb3) id; clear hb3 HA)
  have HL1 := fun v => Lib.hid (wireLong_any (w := v) H1.out rfl)
  clear HZ HY HB HW1 HW2
  cases hv1 : longV xs
  case' true =>
    rw [hv1] at HL1
    go_wp2_with (first | ((with_reducible refine Mem.load_agg _ _ msg_agg g 0 xs ?hxa hlx.out (fun j u hu => by rw [Nat.zero_add]; exact HZ3.out.cell hu) ?_); case hxa => exact rfl) | (go_at_call 19; refine (HL1 _).out.mono ?_; rintro x4 w4 ⟨rfl, hb4⟩; have HB4 := Lib.hid hb4; clear hb4 HL1))
    go_ret
    exact ⟨rfl, HB3.out.trans (HB4.out.mono HB3.out.size)⟩
  rw [hv1] at HL1
  have hfx := Lib.hid (fed_of H1.out hv1)
  clear hv1
  obtain ⟨s7, s8, hlr⟩ := longR_of H2.out rfl
  have HLR := Lib.hid hlr
  have dr := hlr.d
  have dz := hlr.z
  obtain ⟨dz7, dz8⟩ := dz
  clear hlr
  go_upto_region 3 with (first | ((with_reducible refine Mem.load_agg _ _ msg_agg g 0 xs ?hxa hlx.out (fun j u hu => by rw [Nat.zero_add]; exact HZ3.out.cell hu) ?_); case hxa => exact rfl) | (go_at_call 19; refine (HL1 _).out.mono ?_; rintro x4 w4 ⟨rfl, hb4⟩; have HB4 := Lib.hid hb4; have hyc := HY3.out.keeps (Mem.Keeps.of_below hb4) id; have y7 : w4.cell? ⟨g + 1, 7, none⟩ = some (.string s7) := hyc.cell HLR.out.e7; have y8 : w4.cell? ⟨g + 1, 8, none⟩ = some (.string s8) := hyc.cell HLR.out.e8; clear hb4 HL1 hyc))
  cases hv2 : longR ys
  case' true =>
    rw [hv2] at dr
    go_wp2_with (first | ((with_reducible refine Mem.load_agg _ _ msg_agg g 0 xs ?hxa hlx.out (fun j u hu => by rw [Nat.zero_add]; exact HZ3.out.cell hu) ?_); case hxa => exact rfl) | (go_at_call 19; refine (HL1 _).out.mono ?_; rintro x4 w4 ⟨rfl, hb4⟩; have HB4 := Lib.hid hb4; have hyc := HY3.out.keeps (Mem.Keeps.of_below hb4) id; have y7 : w4.cell? ⟨g + 1, 7, none⟩ = some (.string s7) := hyc.cell HLR.out.e7; have y8 : w4.cell? ⟨g + 1, 8, none⟩ = some (.string s8) := hyc.cell HLR.out.e8; clear hb4 HL1 hyc))
    go_ret
    exact ⟨rfl, HB3.out.trans (HB4.out.mono HB3.out.size)⟩
  rw [hv2] at dr
  have hfy := Lib.hid (fedR_of H2.out hv2)
  clear hv2 H1 H2
  go_upto_region 5 with (first | ((with_reducible refine Mem.load_agg _ _ msg_agg g 0 xs ?hxa hlx.out (fun j u hu => by rw [Nat.zero_add]; exact HZ3.out.cell hu) ?_); case hxa => exact rfl) | (go_at_call 19; refine (HL1 _).out.mono ?_; rintro x4 w4 ⟨rfl, hb4⟩; have HB4 := Lib.hid hb4; have hyc := HY3.out.keeps (Mem.Keeps.of_below hb4) id; have y7 : w4.cell? ⟨g + 1, 7, none⟩ = some (.string s7) := hyc.cell HLR.out.e7; have y8 : w4.cell? ⟨g + 1, 8, none⟩ = some (.string s8) := hyc.cell HLR.out.e8; clear hb4 HL1 hyc))
  have HB6 : Hid (Below w.heap.size w w4) := HB3.out.trans (HB4.out.mono HB3.out.size)
  have HZ5 : Hid (Mem.Bx w4 55 74 g xs) := HZ3.out.keeps (Mem.Keeps.of_below HB4.out) id
  have HY5 : Hid (Mem.Bx w4 37 35 (g + 1) ys) := HY3.out.keeps (Mem.Keeps.of_below HB4.out) id
  clear HB3 HB4 HZ3 HY3 dr y7 y8 HLR dz7 dz8
  obtain ⟨fx, hfx0⟩ : ∃ fx, framedC (msgC xs) = fx := ⟨_, rfl⟩
  obtain ⟨fy, hfy0⟩ : ∃ fy, framedC (recC ys) = fy := ⟨_, rfl⟩
  have HFX := Lib.hid hfx0
  have HFY := Lib.hid hfy0
  clear hfx0 hfy0
  have HM1 := Lib.hid (msg_any (w := w4) hfx.out)
  go_upto_region 6 with (first | ((with_reducible refine Mem.load_agg _ _ msg_agg g 0 xs ?hxc hlx.out (fun j u hu => by rw [Nat.zero_add]; exact HZ5.out.cell hu) ?_); case hxc => exact rfl) | (go_at_call 20; refine HM1.out.mono ?_; intro x7 w7 hfe; obtain ⟨A1, c1, rfl, h2, h3, h4⟩ := hfe; rw [HFX.out] at h2; have HO1 := Lib.hid h2; have HB7 := Lib.hid h4; clear h2 h3 h4 HM1))
  rw [HFX.out]
  have HY7 : Hid (Mem.Bx w7 37 35 (g + 1) ys) := HY5.out.keeps (Mem.Keeps.of_below HB7.out) id
  have HM2 := Lib.hid (rec_any (w := w7) hfy.out)
  go_upto_region 7 with (first | ((with_reducible refine Mem.load_agg _ _ record_agg (g + 1) 0 ys ?hxd hly.out (fun j u hu => by rw [Nat.zero_add]; exact HY7.out.cell hu) ?_); case hxd => exact rfl) | (go_at_call 15; refine HM2.out.mono ?_; intro x8 w8 hfe; obtain ⟨A2, c2, rfl, h2, h3, h4⟩ := hfe; rw [HFY.out] at h2; have HO2 := Lib.hid h2; have HB8 := Lib.hid h4; clear h2 h3 h4 HM2))
  rw [HFY.out]
  have HBE : Hid (Below w.heap.size w w8) := (HB6.out.trans (HB7.out.mono HB6.out.size)).trans (HB8.out.mono (HB6.out.trans (HB7.out.mono HB6.out.size)).size)
  have HR1 : Hid (Mem.Rd w8 w8.heap.size A1 (fx.1.map Mem.byteV)) := (HO1.out.rd.below HB8.out).more HB8.out.size
  have HR2 : Hid (Mem.Rd w8 w8.heap.size A2 (fy.1.map Mem.byteV)) := HO2.out.rd
  have HC1 : Hid (fx.1.length ≤ c1) := HO1.out.le
  have HC2 : Hid (fy.1.length ≤ c2) := HO2.out.le
  clear HB6 HB7 HB8 HO1 HO2 HZ5 HY5 HY7
  have hq1 : fx.2 = 0 → ∃ bs, fx.1 = frameB bs ∧ 1 ≤ bs.length ∧ bs.length ≤ 1018 := fun e => by
    have gx := good_of hfx.out (by rw [HFX.out]; exact e)
    exact ⟨_, by rw [← HFX.out, gx.fr], gx.pos, gx.len⟩
  have hq2 : fy.2 = 0 → ∃ bs, fy.1 = frameB bs ∧ 1 ≤ bs.length ∧ bs.length ≤ 506 := fun e => by
    obtain ⟨k, gy⟩ := goodR_of hfy.out (by rw [HFY.out]; exact e)
    exact ⟨_, by rw [← HFY.out, gy.fr], gy.pos, gy.len⟩
  have hn1 : fx.2 ≠ 0 → fx.1.length = 0 := fun e => by
    have := not_good (xs := xs) (by rw [HFX.out]; exact e)
    rw [HFX.out] at this; rw [this]; rfl
  have hn2 : fy.2 ≠ 0 → fy.1.length = 0 := fun e => by
    have := not_goodR (xs := ys) (by rw [HFY.out]; exact e)
    rw [HFY.out] at this; rw [this]; rfl
  clear HFX HFY hfx hfy
  by_cases e1 : fx.2 = 0
  · obtain ⟨bx, hbx, hp1, hp2⟩ := hq1 e1
    have F1 := Lib.hid (frameTest_any (w := w8) (cap := c1) (bs := bx) (most := 1024) (by rw [← hbx]; exact HR1.out) (by have := HC1.out; rw [hbx, frame_len] at this; exact this) hp1 hp2 (by omega) (by omega))
    rw [← hbx] at F1
    have d1 : (fx.2 != 0) = false := by simpa using e1
    by_cases e2 : fy.2 = 0
    · obtain ⟨by', hby, hp3, hp4⟩ := hq2 e2
      have F2 := Lib.hid (fun v (hb : Below w8.heap.size w8 v) => frameTest_any (w := v) (cap := c2) (bs := by') (most := 512) (by rw [← hby]; exact (HR2.out.below hb).more hb.size) (by have := HC2.out; rw [hby, frame_len] at this; exact this) hp3 (by omega) (by omega) (by omega))
      rw [← hby] at F2
      have d2 : (fy.2 != 0) = false := by simpa using e2
      clear hq1 hq2 hn1 hn2 e1 e2 hbx hby hp1 hp2 hp3 hp4 HR1 HR2 HC1 HC2
      go_wp2_with (first | (go_at_call 22; with_reducible refine F1.out.mono ?_; rintro x9 w9 ⟨rfl, hb9⟩; have HB9 := Lib.hid hb9; clear hb9 F1) | (go_at_call 22; with_reducible refine (F2.out _ HB9.out).mono ?_; rintro x10 w10 ⟨rfl, hb10⟩; have HB10 := Lib.hid hb10; clear hb10 F2))
      go_ret
      exact ⟨rfl, HBE.out.trans ((HB9.out.trans (HB10.out.mono HB9.out.size)).mono HBE.out.size)⟩
    · have d2 : (fy.2 != 0) = true := by simpa using e2
      have d3 := hn2 e2
      clear hq1 hq2 hn1 hn2 e1 e2 hbx hp1 hp2 HR1 HR2 HC1 HC2
      go_wp2_with (go_at_call 22; with_reducible refine F1.out.mono ?_; rintro x9 w9 ⟨rfl, hb9⟩; have HB9 := Lib.hid hb9; clear hb9 F1)
      go_ret
      exact ⟨rfl, HBE.out.trans (HB9.out.mono HBE.out.size)⟩
  · have d1 : (fx.2 != 0) = true := by simpa using e1
    have d4 := hn1 e1
    by_cases e2 : fy.2 = 0
    · obtain ⟨by', hby, hp3, hp4⟩ := hq2 e2
      have F2 := Lib.hid (frameTest_any (w := w8) (cap := c2) (bs := by') (most := 512) (by rw [← hby]; exact HR2.out) (by have := HC2.out; rw [hby, frame_len] at this; exact this) hp3 (by omega) (by omega) (by omega))
      rw [← hby] at F2
      have d2 : (fy.2 != 0) = false := by simpa using e2
      clear hq1 hq2 hn1 hn2 e1 e2 hby hp3 hp4 HR1 HR2 HC1 HC2
      go_wp2_with (go_at_call 22; with_reducible refine F2.out.mono ?_; rintro x9 w9 ⟨rfl, hb9⟩; have HB9 := Lib.hid hb9; clear hb9 F2)
      go_ret
      exact ⟨rfl, HBE.out.trans (HB9.out.mono HBE.out.size)⟩
    · have d2 : (fy.2 != 0) = true := by simpa using e2
      have d3 := hn2 e2
      clear hq1 hq2 hn1 hn2 e1 e2 HR1 HR2 HC1 HC2
      go_wp2
      go_ret
      exact ⟨rfl, HBE.out⟩
theorem opened {H : Type} (enc : TypeId × Value → H) (W : World) (base : Nat) (v0 v1 : Value) {d0 d1 : DataW H} {p0 p1 : List MemPlace}
    (o0 : Value.okWide Try.prog W .any base 55 v0) (o1 : Value.okWide Try.prog W .any base 37 v1)
    (k0 : DataW.Trod enc Try.prog W 0 (fun _ => true) true 55 v0 d0 p0) (k1 : DataW.Trod enc Try.prog W 0 (fun _ => true) true 37 v1 d1 p1)
    (z0 : (d0.weights Try.prog 55).all (· ≤ reachBytes) = true) (z1 : (d1.weights Try.prog 37).all (· ≤ reachBytes) = true) :
    Calls Try.prog 9 #[v0, v1] W fun e w' => e = .returned (.bool true) ∧ Below W.heap.size W w' := by
  obtain ⟨xs, rfl, h1⟩ := open_msg o0 k0 z0
  obtain ⟨ys, rfl, h2⟩ := open_rec o1 k1 z1
  exact walk xs ys W h1 h2
end wireFramesOpen
end Go.Proofs.Ytkfgedgjpgehoaa
