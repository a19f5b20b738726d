/- The walk of WireFresh. No conditions. -/
import Derived.Test.YtkfgedgjpgehoaaWire22
import Derived.Test.YtkfgedgjpgehoaaWire16
namespace Go.Proofs.Ytkfgedgjpgehoaa
open Go.ChangeShapes Go.WideShapes Go.ChangeAt Go.RowKit
set_option linter.unusedVariables false
set_option linter.unusedSimpArgs false
set_option maxRecDepth 100000
namespace wireFreshOpen
open Wi
structure FrRel (w : World) (A1 A2 : Option Addr) (c1 c2 : Nat) (bs : List UInt8) (g : Nat) (xs : List Value) (v8 : Value) (wr : World) : Prop where
  out : ∃ (k : Nat) (us : List UInt8), k ≤ bs.length ∧ v8 = .int .i64 k ∧ us.length = bs.length ∧ Hid (Mem.Own wr 5 1 A1 bs.length c1 (us.map Mem.byteV)) ∧ Hid (Mem.Own wr 5 1 A2 bs.length c2 (bs.map Mem.byteV)) ∧ Hid (Mem.Bx wr 55 74 g xs) ∧ Hid (Below w.heap.size w wr)
set_option maxHeartbeats 4000000 in
theorem walk (xs : List Value) (w : World) (h1 : MsgIn msgK xs) :
    Calls Try.prog 8 #[.agg xs.toArray] w fun e w' => e = .returned (.bool true) ∧ Below w.heap.size w w' := by
  have H1 := Lib.hid h1
  have hlx : Hid (xs.length = 74) := h1.ok.len
  obtain ⟨w1, hw1⟩ : ∃ w1, w.alloc (.cells xs.toArray 55) = w1 := ⟨_, rfl⟩
  have hz1 : Mem.Bx w1 55 74 w.heap.size xs := by rw [← hw1]; exact Mem.Bx.new w 55 xs.toArray (by rw [List.size_toArray, hlx.out]) rfl
  have hk1 : Below w.heap.size w w1 := by rw [← hw1]; exact Reg.below_new _ _
  have HZ : Hid (Mem.Bx w1 55 74 w.heap.size xs) := hz1
  have HB : Hid (Below w.heap.size w w1) := hk1
  obtain ⟨g, hg⟩ : ∃ g, w.heap.size = g := ⟨_, rfl⟩
  rw [hg] at HZ
  have HW1 := Lib.hid hw1
  have HG := Lib.hid hg
  clear hw1 hz1 hk1 hg
  clear h1
  go_enter Try.func8, Try.ntmps8
  go_upto_region 1 with fail
  rw [HW1.out, HG.out]
  have HA := Lib.hid (wireAble_any w1)
  go_upto_region 3 with (go_at_call 14; refine HA.out.mono ?_; rintro x3 w3 ⟨rfl, hb3⟩; have HB3 : Hid (Below w.heap.size w w3) := HB.out.trans (hb3.mono HB.out.size); have HZ3 : Hid (Mem.Bx w3 55 74 g xs) := HZ.out.keeps (Mem.Keeps.of_below hb3) id; clear hb3 HA)
  have HL1 := fun v => Lib.hid (wireLong_any (w := v) H1.out rfl)
  clear HZ HB HW1
  cases hv1 : longV xs
  case' true =>
    rw [hv1] at HL1
    go_wp2_with (first | ((with_reducible refine Mem.load_agg _ _ msg_agg g 0 xs ?hxa hlx.out (fun j u hu => by rw [Nat.zero_add]; exact HZ3.out.cell hu) ?_); case hxa => exact rfl) | (go_at_call 19; refine (HL1 _).out.mono ?_; rintro x4 w4 ⟨rfl, hb4⟩; have HB4 := Lib.hid hb4; clear hb4 HL1))
    go_ret
    exact ⟨rfl, HB3.out.trans (HB4.out.mono HB3.out.size)⟩
  rw [hv1] at HL1
  have hfx := Lib.hid (fed_of H1.out hv1)
  clear hv1 H1
  go_upto_region 5 with (first | ((with_reducible refine Mem.load_agg _ _ msg_agg g 0 xs ?hxa hlx.out (fun j u hu => by rw [Nat.zero_add]; exact HZ3.out.cell hu) ?_); case hxa => exact rfl) | (go_at_call 19; refine (HL1 _).out.mono ?_; rintro x4 w4 ⟨rfl, hb4⟩; have HB4 := Lib.hid hb4; clear hb4 HL1))
  have HB5 : Hid (Below w.heap.size w w4) := HB3.out.trans (HB4.out.mono HB3.out.size)
  have HZ5 : Hid (Mem.Bx w4 55 74 g xs) := HZ3.out.keeps (Mem.Keeps.of_below HB4.out) id
  have hgw : w.heap.size ≤ g := Nat.le_of_eq HG.out
  clear HB3 HB4 HZ3
  obtain ⟨fx, hfx0⟩ : ∃ fx, framedC (msgC xs) = fx := ⟨_, rfl⟩
  have HFX := Lib.hid hfx0
  clear hfx0
  have HM := fun v => Lib.hid (msg_any (w := v) hfx.out)
  go_upto_region 6 with (first | ((with_reducible refine Mem.load_agg _ _ msg_agg g 0 xs ?hxc hlx.out (fun j u hu => by rw [Nat.zero_add]; exact HZ5.out.cell hu) ?_); case hxc => exact rfl) | (go_at_call 20; refine (HM _).out.mono ?_; intro x5 w5 hfe; obtain ⟨A1, c1, rfl, h2, h3, h4⟩ := hfe; rw [HFX.out] at h2; have HO1 := Lib.hid h2; have HF1 := Lib.hid h3; have HB6 := Lib.hid h4; clear h2 h3 h4))
  rw [HFX.out]
  have HZ6 : Hid (Mem.Bx w5 55 74 g xs) := HZ5.out.keeps (Mem.Keeps.of_below HB6.out) id
  go_upto_region 7 with (first | ((with_reducible refine Mem.load_agg _ _ msg_agg g 0 xs ?hxc hlx.out (fun j u hu => by rw [Nat.zero_add]; exact HZ6.out.cell hu) ?_); case hxc => exact rfl) | (go_at_call 20; refine (HM _).out.mono ?_; intro x6 w6 hfe; obtain ⟨A2, c2, rfl, h2, h3, h4⟩ := hfe; rw [HFX.out] at h2; have HO2 := Lib.hid h2; have HF2 := Lib.hid h3; have HB7 := Lib.hid h4; clear h2 h3 h4))
  rw [HFX.out]
  have HZ7 : Hid (Mem.Bx w6 55 74 g xs) := HZ6.out.keeps (Mem.Keeps.of_below HB7.out) id
  have HO1' : Hid (Mem.Own w6 5 1 A1 fx.1.length c1 (fx.1.map Mem.byteV)) := HO1.out.below HB7.out (fun k hk => HO1.out.lt hk)
  have HBE : Hid (Below w.heap.size w w6) := (HB5.out.trans (HB6.out.mono HB5.out.size)).trans (HB7.out.mono (HB5.out.trans (HB6.out.mono HB5.out.size)).size)
  have hcv := Mem.conv_all (P := Try.prog) (w := w6) (cap := c2) 39 9 5 bytes_under u8_under string_under HO2.out.rd rfl
  have HF1' : Hid (∀ k, Mem.blk A1 = some k → w.heap.size ≤ k ∧ k ≠ g ∧ k < w5.heap.size) := fun k hk => by
    have a1 := HF1.out.blk k hk
    have a2 := HB5.out.size
    have a3 := HO1.out.lt hk
    have a4 := HZ5.out.lt
    exact ⟨by omega, by omega, a3⟩
  have HF2' : Hid (∀ k, Mem.blk A2 = some k → w5.heap.size ≤ k) := fun k hk => HF2.out.blk k hk
  obtain ⟨bs, hbs⟩ : ∃ bs, fx.1 = bs := ⟨_, rfl⟩
  rw [hbs] at HO1' HO2 hcv ⊢
  have hlb : bs.length ≤ 2000 := by
    rw [← hbs]
    by_cases e1 : fx.2 = 0
    · have gx := good_of hfx.out (by rw [HFX.out]; exact e1)
      have q : fx.1 = frameB (enB xs) := by rw [← HFX.out, gx.fr]
      have := gx.len
      rw [q, frame_len]; omega
    · have := not_good (xs := xs) (by rw [HFX.out]; exact e1)
      rw [HFX.out] at this; rw [this]; exact Nat.zero_le _
  have HFB := Lib.hid hbs
  clear hbs HO1 HF1 HF2 HB5 HB6 HB7 HZ5 HZ6
  go_upto_region 8 with fail
  clear hcv
  go_wp2
  go_loopw [8] (FrRel w A1 A2 c1 c2 bs g xs) (fun t _ => bs.length - (intOf t).toNat)
  case atStart => exact ⟨⟨0, bs, by omega, rfl, rfl, HO1', HO2, HZ7, HBE⟩⟩
  case round =>
    obtain ⟨k, us, hk, rfl, hul, HX, HY, HZr, HBr⟩ := hrel.out
    clear hrel
    by_cases hlt : k < bs.length
    · obtain ⟨b1, o1, hA1⟩ := HX.out.form (by omega)
      subst hA1
      obtain ⟨uk, huk⟩ : ∃ uk, us[k]? = some uk := ⟨_, List.getElem?_eq_getElem (by omega)⟩
      have x0 := HX.out.cell (j := k) (u := Mem.byteV uk) (by rw [List.getElem?_map, huk]; rfl)
      have xf := HX.out.free (o := o1) (o1 + k)
      have hF := HF1'.out b1 rfl
      have hb2 : ∀ q, Mem.blk A2 = some q → q ≠ b1 := fun q hq => by have := HF2'.out q hq; omega
      have hkS : Mem.Keeps (fun q => q = b1) wr (wr.setCell ⟨b1, o1 + k, none⟩ (.int .u8 0)) := (Mem.Keeps.refl (fun q => q = b1) wr).setCell (p := ⟨b1, o1 + k, none⟩) (fun _ => rfl) _
      have HX' : Hid (Mem.Own (wr.setCell ⟨b1, o1 + k, none⟩ (.int .u8 0)) 5 1 (some ⟨b1, o1, none⟩) bs.length c1 ((us.set k 0).map Mem.byteV)) := by
        have := HX.out.set k (.int .u8 0)
        rw [List.map_set]
        exact this
      have HY' : Hid (Mem.Own (wr.setCell ⟨b1, o1 + k, none⟩ (.int .u8 0)) 5 1 A2 bs.length c2 (bs.map Mem.byteV)) := HY.out.keeps hkS hb2
      have HZ' : Hid (Mem.Bx (wr.setCell ⟨b1, o1 + k, none⟩ (.int .u8 0)) 55 74 g xs) := HZr.out.keeps hkS (fun h => hF.2.1 h.symm)
      have HB' : Hid (Below w.heap.size w (wr.setCell ⟨b1, o1 + k, none⟩ (.int .u8 0))) := HBr.out.trans (hkS.below (fun q h => by subst h; exact hF.1) HBr.out.size)
      have hsl : Hid ((us.set k 0).length = bs.length) := by show _ = _; rw [List.length_set]; exact hul
      clear HX HY HZr HBr hkS hb2 hF hul huk
      go_wp2
      go_roundw
      case rel => exact ⟨⟨k + 1, us.set k 0, by omega, by go_num, hsl.out, HX', HY', HZ', HB'⟩⟩
      case measure => simp [intOf]; omega
    · obtain rfl : k = bs.length := by omega
      clear hlt hk
      have hn9 : Mem.Keeps (fun q => Mem.blk A1 = some q) wr (wr.alloc (.cells #[.int .u8 1, .int .u8 2, .int .u8 3] 5)) := (Mem.Keeps.refl _ wr).alloc _
      have HN9 := Lib.hid hn9
      clear hn9
      go_upto_region 13 with (at_builtin; refine Mem.wpList_app _ rfl (.tmp 36) (.tmp 37) _ rfl bytes_elem A1 bs.length c1 _ rfl (wr.heap.size + 1) (some ⟨wr.heap.size, 0, none⟩) 3 3 [.int .u8 1, .int .u8 2, .int .u8 3] rfl ?_ (HX.out.alloc _) (Mem.Rd.alloc_new wr _ _ _ rfl) rfl (by simp [Value.oneCell']) (by unfold maxLen; omega) (by omega); intro A3 c3 w9 hown hg2 hat; have hk9 := HN9.out.grown hg2 (fun k hk _ => hk); have HK9 := Lib.hid hk9; clear hown hg2 hat hk9 HN9)
      have HY9 : Hid (Mem.Own w9 5 1 A2 bs.length c2 (bs.map Mem.byteV)) := HY.out.keeps HK9.out (fun q hq h => by have := HF2'.out q hq; have := HF1'.out q h; omega)
      have HZ9 : Hid (Mem.Bx w9 55 74 g xs) := HZr.out.keeps HK9.out (fun h => (HF1'.out g h).2.1 rfl)
      have HB9 : Hid (Below w.heap.size w w9) := HBr.out.trans (HK9.out.below (fun q h => (HF1'.out q h).1) HBr.out.size)
      clear HX HY HZr HBr HK9
      go_upto_region 14 with (first | ((with_reducible refine Mem.load_agg _ _ msg_agg g 0 xs ?hxc hlx.out (fun j u hu => by rw [Nat.zero_add]; exact HZ9.out.cell hu) ?_); case hxc => exact rfl) | (go_at_call 20; refine (HM _).out.mono ?_; intro x10 w10 hfe; obtain ⟨A4, c4, rfl, h2, h3, h4⟩ := hfe; rw [HFX.out, HFB.out] at h2; have HO4 := Lib.hid h2; have HB10 := Lib.hid h4; clear h2 h3 h4))
      rw [HFX.out, HFB.out]
      have k1 := Mem.conv_all (P := Try.prog) (w := w10) (cap := c2) 39 9 5 bytes_under u8_under string_under (HY9.out.rd.below HB10.out) rfl
      have k2 := Mem.conv_all (P := Try.prog) (w := w10) (cap := c4) 39 9 5 bytes_under u8_under string_under HO4.out.rd rfl
      have k3 : (sB bs).size = bs.length := by show bs.toArray.size = _; rw [List.size_toArray]
      have HBF : Hid (Below w.heap.size w w10) := HB9.out.trans (HB10.out.mono HB9.out.size)
      clear HY9 HO4 HZ9 HB9 HB10
      go_wp2
      go_ret
      exact ⟨rfl, HBF.out⟩
theorem opened {H : Type} (enc : TypeId × Value → H) (W : World) (base : Nat) (v0 : Value) {d0 : DataW H} {p0 : List MemPlace}
    (o0 : Value.okWide Try.prog W .any base 55 v0)
    (k0 : DataW.Trod enc Try.prog W 0 (fun _ => true) true 55 v0 d0 p0)
    (z0 : (d0.weights Try.prog 55).all (· ≤ reachBytes) = true) :
    Calls Try.prog 8 #[v0] W fun e w' => e = .returned (.bool true) ∧ Below W.heap.size W w' := by
  obtain ⟨xs, rfl, h1⟩ := open_msg o0 k0 z0
  exact walk xs W h1
end wireFreshOpen
end Go.Proofs.Ytkfgedgjpgehoaa
