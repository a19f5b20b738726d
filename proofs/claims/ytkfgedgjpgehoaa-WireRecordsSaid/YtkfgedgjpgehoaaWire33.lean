/- The walk of WireRecords. No conditions. -/
import Derived.Test.YtkfgedgjpgehoaaOut6
import Derived.Test.YtkfgedgjpgehoaaWireLR
namespace Go.Proofs.Ytkfgedgjpgehoaa
open Go.ChangeShapes Go.WideShapes Go.ChangeAt Go.RowKit
set_option linter.unusedVariables false
set_option linter.unusedSimpArgs false
set_option maxRecDepth 100000
namespace wireRecordsOpen
open Wi
set_option maxHeartbeats 4000000 in
theorem walk (xs : List Value) (w : World) (h1 : MsgIn recK xs) :
    Calls Try.prog 3 #[.agg xs.toArray] w fun e w' => e = .returned (.bool true) ∧ Below w.heap.size w w' := by
  have H1 := Lib.hid h1
  have hlx : Hid (xs.length = 35) := h1.ok.len
  obtain ⟨w1, hw1⟩ : ∃ w1, w.alloc (.cells xs.toArray 37) = w1 := ⟨_, rfl⟩
  have hz1 : Mem.Bx w1 37 35 w.heap.size xs := by rw [← hw1]; exact Mem.Bx.new w 37 xs.toArray (by rw [List.size_toArray, hlx.out]) rfl
  have hk1 : Below w.heap.size w w1 := by rw [← hw1]; exact Reg.below_new _ _
  have HZ : Hid (Mem.Bx w1 37 35 w.heap.size xs) := hz1
  have HB : Hid (Below w.heap.size w w1) := hk1
  obtain ⟨g, hg⟩ : ∃ g, w.heap.size = g := ⟨_, rfl⟩
  rw [hg] at HZ
  have HW1 := Lib.hid hw1
  have HG := Lib.hid hg
  clear hw1 hz1 hk1 hg
  clear h1
  go_enter Try.func3, Try.ntmps3
  go_upto_region 1 with fail
  rw [HW1.out, HG.out]
  have HA := Lib.hid (wireAble_any w1)
  go_upto_region 3 with (go_at_call 14; refine HA.out.mono ?_; rintro x3 w3 ⟨rfl, hb3⟩; have HB3 : Hid (Below w.heap.size w w3) := HB.out.trans (hb3.mono HB.out.size); have HZ3 : Hid (Mem.Bx w3 37 35 g xs) := HZ.out.keeps (Mem.Keeps.of_below hb3) id; clear hb3 HA)
  clear HZ HB HW1
  obtain ⟨s7, s8, hlr⟩ := longR_of H1.out rfl
  have hyc := HZ3.out
  have y7 : w3.cell? ⟨g, 7, none⟩ = some (.string s7) := hyc.cell hlr.e7
  have y8 : w3.cell? ⟨g, 8, none⟩ = some (.string s8) := hyc.cell hlr.e8
  have dr := hlr.d
  obtain ⟨dz7, dz8⟩ := hlr.z
  clear hlr hyc
  cases hv1 : longR xs
  case' true =>
    rw [hv1] at dr
    go_wp2
    go_ret
    exact ⟨rfl, HB3.out⟩
  rw [hv1] at dr
  have hfx := Lib.hid (fedR_of H1.out hv1)
  clear hv1 H1
  go_upto_region 5 with fail
  clear dr y7 y8 dz7 dz8
  obtain ⟨fx, hfx0⟩ : ∃ fx, framedC (recC xs) = fx := ⟨_, rfl⟩
  have HFX := Lib.hid hfx0
  clear hfx0
  have HM := Lib.hid (rec_any (w := w3) hfx.out)
  go_upto_region 6 with (first | ((with_reducible refine Mem.load_agg _ _ record_agg g 0 xs ?hxc hlx.out (fun j u hu => by rw [Nat.zero_add]; exact HZ3.out.cell hu) ?_); case hxc => exact rfl) | (go_at_call 15; refine HM.out.mono ?_; intro x5 w5 hfe; obtain ⟨A1, c1, rfl, h2, h3, h4⟩ := hfe; rw [HFX.out] at h2; have HO1 := Lib.hid h2; have HB5 := Lib.hid h4; clear h2 h3 h4 HM))
  rw [HFX.out]
  have HZ6 : Hid (Mem.Bx w5 37 35 g xs) := HZ3.out.keeps (Mem.Keeps.of_below HB5.out) id
  have HM2 := Lib.hid (rRec_any (w := w5) hfx.out)
  go_upto_region 7 with (first | ((with_reducible refine Mem.load_agg _ _ record_agg g 0 xs ?hxc hlx.out (fun j u hu => by rw [Nat.zero_add]; exact HZ6.out.cell hu) ?_); case hxc => exact rfl) | (go_at_call 16; refine HM2.out.mono ?_; intro x6 w6 hfe; obtain ⟨A2, c2, rfl, h2, h3, h4⟩ := hfe; rw [HFX.out] at h2; have HO2 := Lib.hid h2; have HB7 := Lib.hid h4; clear h2 h3 h4 HM2))
  rw [HFX.out]
  have HBE : Hid (Below w.heap.size w w6) := (HB3.out.trans (HB5.out.mono HB3.out.size)).trans (HB7.out.mono (HB3.out.trans (HB5.out.mono HB3.out.size)).size)
  have k1 := Mem.conv_all (P := Try.prog) (w := w6) (cap := c1) 39 9 5 bytes_under u8_under string_under (HO1.out.rd.below HB7.out) rfl
  have k2 := Mem.conv_all (P := Try.prog) (w := w6) (cap := c2) 39 9 5 bytes_under u8_under string_under HO2.out.rd rfl
  have d0 : (fx.2 == fx.2) = true := by simp
  clear HO1 HO2 HB5 HB7 HZ6 HFX hfx HB3 HZ3
  go_wp2
  go_ret
  exact ⟨rfl, HBE.out⟩
theorem opened {H : Type} (enc : TypeId × Value → H) (W : World) (base : Nat) (v0 : Value) {d0 : DataW H} {p0 : List MemPlace}
    (o0 : Value.okWide Try.prog W .any base 37 v0)
    (k0 : DataW.Trod enc Try.prog W 0 (fun _ => true) true 37 v0 d0 p0)
    (z0 : (d0.weights Try.prog 37).all (· ≤ reachBytes) = true) :
    Calls Try.prog 3 #[v0] W fun e w' => e = .returned (.bool true) ∧ Below W.heap.size W w' := by
  obtain ⟨xs, rfl, h1⟩ := open_rec o0 k0 z0
  exact walk xs W h1
end wireRecordsOpen
end Go.Proofs.Ytkfgedgjpgehoaa
