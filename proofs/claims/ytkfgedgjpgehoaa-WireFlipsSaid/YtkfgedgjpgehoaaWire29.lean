/- The walk of WireFlips. No conditions. -/
import Derived.Test.YtkfgedgjpgehoaaWire28
import Derived.Test.YtkfgedgjpgehoaaWire27
namespace Go.Proofs.Ytkfgedgjpgehoaa
open Go.ChangeShapes Go.WideShapes Go.ChangeAt Go.RowKit
set_option linter.unusedVariables false
set_option linter.unusedSimpArgs false
set_option maxRecDepth 100000
namespace Wi
/-- the byte with one bit set -/
def pb (i : Nat) : UInt8 := UInt8.ofNat (2 ^ (i % 8))
theorem xor_byte (a b : UInt8) : bits .xor .u8 (a.toNat : Int) (b.toNat : Int) = ((a ^^^ b).toNat : Int) := by
  rw [u8_xor_nat _ _ a.toNat_lt b.toNat_lt, UInt8.toNat_xor]
theorem pb_int (i : Nat) : (2 : Int) ^ (i % 8) % 256 = ((pb i).toNat : Int) := by
  have h : ∀ p : Fin 8, (2 : Int) ^ p.val % 256 = ((UInt8.ofNat (2 ^ p.val)).toNat : Int) := by decide +kernel
  exact h ⟨i % 8, by omega⟩
theorem turn_of {c : List UInt8} {i : Nat} {y : UInt8} (h : c[i / 8]? = some y) : Crc.turn c i = c.set (i / 8) (y ^^^ pb i) := by
  unfold Crc.turn pb; rw [List.getD_eq_getElem?_getD, h]; rfl
theorem readM_turn {xs : List Value} (hg : GoodM xs) {i : Nat} (hi : i < 8 * (frameB (enB xs)).length) : (readM (Crc.turn (frameB (enB xs)) i)).2 ≠ 0 :=
  readM_odd (turned (by have := hg.len; omega) hi)
theorem readM_more {xs : List Value} (h : Fed msgK xs) (hg : GoodM xs) (m : List UInt8) : ((m.length : Int) == 0) = ((readM (frameB (enB xs) ++ m)).2 == 0) := by
  by_cases hm : m = []
  · subst hm
    rw [List.append_nil, readM_enc h hg]
    rfl
  · have hl := List.length_pos_iff.2 hm
    have hb : (enB xs).length < 65536 := by have := hg.len; omega
    have h1 := readM_odd (bs := frameB (enB xs) ++ m) (.inr (by rw [hdN_frame hb, List.length_append, frame_len]; omega))
    have e1 : ((m.length : Int) == 0) = false := by simp; omega
    have e2 : ((readM (frameB (enB xs) ++ m)).2 == 0) = false := by simpa using h1
    rw [e1, e2]
end Wi
namespace wireFlipsOpen
open Wi
set_option maxHeartbeats 2000000 in
theorem walk (xs : List Value) (ka kc : Int) (A : Option Addr) (c : Nat) (bs : List UInt8) (w : World) (h1 : MsgIn msgK xs) (hka : -9223372036854775808 ≤ ka ∧ ka ≤ 9223372036854775807) (hkc : -9223372036854775808 ≤ kc ∧ kc ≤ 9223372036854775807) (hr : Mem.Rd w w.heap.size A (bs.map Mem.byteV)) (hc : bs.length ≤ c) (hc2 : c ≤ 140737488351232) :
    Calls Try.prog 13 #[.agg xs.toArray, .int .i64 ka, .int .i64 kc, .slice A bs.length c] w fun e w' => e = .returned (.bool true) ∧ Below w.heap.size w w' := by
  have H1 := Lib.hid h1
  have HRB := Lib.hid hr
  obtain ⟨hka1, hka2⟩ := hka
  obtain ⟨hkc1, hkc2⟩ := hkc
  have hlx : Hid (xs.length = 74) := h1.ok.len
  obtain ⟨w1, hw1⟩ : ∃ w1, w.alloc (.cells xs.toArray 55) = w1 := ⟨_, rfl⟩
  have hz1 : Mem.Bx w1 55 74 w.heap.size xs := by rw [← hw1]; exact Mem.Bx.new w 55 xs.toArray (by rw [List.size_toArray, hlx.out]) rfl
  have hk1 : Below w.heap.size w w1 := by rw [← hw1]; exact Reg.below_new _ _
  have HZ : Hid (Mem.Bx w1 55 74 w.heap.size xs) := hz1
  have HB : Hid (Below w.heap.size w w1) := hk1
  obtain ⟨g, hg⟩ : ∃ g, w.heap.size = g := ⟨_, rfl⟩
  rw [hg] at HZ
  have HW1 := Lib.hid hw1
  have HG := Lib.hid hg
  clear hw1 hz1 hk1 hg
  clear h1 hr
  go_enter Try.func13, Try.ntmps13
  go_upto_region 1 with fail
  rw [HW1.out, HG.out]
  have HA := Lib.hid (wireAble_any w1)
  go_upto_region 3 with (go_at_call 14; refine HA.out.mono ?_; rintro x3 w3 ⟨rfl, hb3⟩; have HB3 : Hid (Below w.heap.size w w3) := HB.out.trans (hb3.mono HB.out.size); have HZ3 : Hid (Mem.Bx w3 55 74 g xs) := HZ.out.keeps (Mem.Keeps.of_below hb3) id; clear hb3 HA)
  have HL1 := fun v => Lib.hid (wireLong_any (w := v) H1.out rfl)
  clear HZ HB HW1
  cases hv1 : longV xs
  case' true =>
    rw [hv1] at HL1
    go_wp2_with (first | ((with_reducible refine Mem.load_agg _ _ msg_agg g 0 xs ?hxa hlx.out (fun j u hu => by rw [Nat.zero_add]; exact HZ3.out.cell hu) ?_); case hxa => exact rfl) | (go_at_call 19; refine (HL1 _).out.mono ?_; rintro x4 w4 ⟨rfl, hb4⟩; have HB4 := Lib.hid hb4; clear hb4 HL1))
    go_ret
    exact ⟨rfl, HB3.out.trans (HB4.out.mono HB3.out.size)⟩
  rw [hv1] at HL1
  have hfx := Lib.hid (fed_of H1.out hv1)
  clear hv1 H1
  by_cases hbl : bs.length ≤ 100000
  case neg =>
    have d1 : decide ((100000 : Int) < (bs.length : Int)) = true := by simp; omega
    clear hbl
    go_wp2_with (first | ((with_reducible refine Mem.load_agg _ _ msg_agg g 0 xs ?hxa hlx.out (fun j u hu => by rw [Nat.zero_add]; exact HZ3.out.cell hu) ?_); case hxa => exact rfl) | (go_at_call 19; refine (HL1 _).out.mono ?_; rintro x4 w4 ⟨rfl, hb4⟩; have HB4 := Lib.hid hb4; clear hb4 HL1))
    go_ret
    exact ⟨rfl, HB3.out.trans (HB4.out.mono HB3.out.size)⟩
  have d1 : decide ((100000 : Int) < (bs.length : Int)) = false := by simp; omega
  go_upto_region 5 with (first | ((with_reducible refine Mem.load_agg _ _ msg_agg g 0 xs ?hxa hlx.out (fun j u hu => by rw [Nat.zero_add]; exact HZ3.out.cell hu) ?_); case hxa => exact rfl) | (go_at_call 19; refine (HL1 _).out.mono ?_; rintro x4 w4 ⟨rfl, hb4⟩; have HB4 := Lib.hid hb4; clear hb4 HL1))
  have HB5 : Hid (Below w.heap.size w w4) := HB3.out.trans (HB4.out.mono HB3.out.size)
  have HZ5 : Hid (Mem.Bx w4 55 74 g xs) := HZ3.out.keeps (Mem.Keeps.of_below HB4.out) id
  clear HB3 HB4 HZ3 d1
  obtain ⟨fx, hfx0⟩ : ∃ fx, framedC (msgC xs) = fx := ⟨_, rfl⟩
  have HFX := Lib.hid hfx0
  clear hfx0
  have HM := fun v => Lib.hid (msg_any (w := v) hfx.out)
  go_upto_region 6 with (first | ((with_reducible refine Mem.load_agg _ _ msg_agg g 0 xs ?hxc hlx.out (fun j u hu => by rw [Nat.zero_add]; exact HZ5.out.cell hu) ?_); case hxc => exact rfl) | (go_at_call 20; refine (HM _).out.mono ?_; intro x5 w5 hfe; obtain ⟨A1, c1, rfl, h2, h3, h4⟩ := hfe; rw [HFX.out] at h2; have HO1 := Lib.hid h2; have HB6 := Lib.hid h4; clear h2 h3 h4 HM))
  rw [HFX.out]
  have HB7 : Hid (Below w.heap.size w w5) := HB5.out.trans (HB6.out.mono HB5.out.size)
  clear HB5 HB6 HZ5
  by_cases e1 : fx.2 = 0
  case neg =>
    have d1 : (fx.2 != 0) = true := by simpa using e1
    clear e1
    go_wp2
    go_ret
    exact ⟨rfl, HB7.out⟩
  have d1 : (fx.2 != 0) = false := by simpa using e1
  have gx := good_of hfx.out (by rw [HFX.out]; exact e1)
  have hq : fx.1 = frameB (enB xs) := by rw [← HFX.out, gx.fr]
  obtain ⟨fb, hfb⟩ : ∃ fb, fx.1 = fb := ⟨_, rfl⟩
  rw [hfb] at HO1 hq ⊢
  have hl1 := gx.len
  have hl2 := gx.pos
  obtain ⟨L, hL⟩ : ∃ L, fb.length = L := ⟨_, rfl⟩
  have hL2 : L = (enB xs).length + 6 := by rw [← hL, hq, frame_len]
  have hL7 : 7 ≤ L ∧ L ≤ 1024 := by omega
  obtain ⟨qi, hqi, hqi1, hqi2, i, hi, hiL⟩ := place ka (L := 8 * L) (by omega)
  obtain ⟨qk, hqk, hqk1, hqk2, k, hk, hkL⟩ := place kc (L := L) (by omega)
  have hcut : readM (fb.take k) = (zeroM, 40) := by
    rw [hq]
    exact readM_cut (bodyC_cut (by omega) (by rw [frame_len]; omega))
  have htn : (readM (Crc.turn fb i)).2 ≠ 0 := by rw [hq]; exact readM_turn gx (by rw [← hq, hL]; exact hiL)
  have hmr := readM_more hfx.out gx bs
  rw [← hq] at hmr
  have HCU := Lib.hid hcut
  have HTN := Lib.hid htn
  have HMR := Lib.hid hmr
  have HRD := Lib.hid HO1.out.rd
  have HC1 : L ≤ c1 := by rw [← hL]; exact HO1.out.le
  obtain ⟨b1, o1, rfl⟩ := HO1.out.form (by omega)
  have HLL := Lib.hid hL
  rw [hL]
  obtain ⟨hL7, hL8⟩ := hL7
  have hi8 : i / 8 < L := by omega
  rw [show ((8 * L : Nat) : Int) = 8 * (L : Int) by omega] at hqi hqi1 hqi2 hi
  clear e1 gx hq hfb hl1 hl2 hL hL2 hcut htn hmr hfx HFX HO1
  go_upto_region 9 with fail
  go_upto_region 10 with fail
  clear hqi hqi1 hqi2 hi
  go_upto_region 11 with (at_builtin; refine Mem.wpList_clone _ rfl (.tmp 47) (.tmp 48) _ rfl bytes_elem w5.heap.size rfl w5 w5.heap.size (some ⟨b1, o1, none⟩) L c1 _ rfl ?_ rfl (Below.refl _ _) (Nat.le_refl _) HRD.out (by rw [List.length_map, HLL.out]; omega) (Mem.bytes_one _) (by unfold maxLen; omega) (by omega); intro A2 c2 w6 hown hb2 hs2 hf2; have HO2 := Lib.hid hown; have HB8 := Lib.hid hb2; have HF2 := Lib.hid hf2; clear hown hb2 hs2 hf2)
  obtain ⟨b2, o2, rfl⟩ := HO2.out.form (by omega)
  obtain ⟨y, hy⟩ : ∃ y, fb[i / 8]? = some y := ⟨_, List.getElem?_eq_getElem (by rw [HLL.out]; exact hi8)⟩
  have hcell : w6.cell? ⟨b2, o2 + i / 8, none⟩ = some (Mem.byteV y) := HO2.out.cell (by rw [List.getElem?_map, hy]; rfl)
  have hfree : w6.frozen? ⟨b2, o2 + i / 8, none⟩ = false := HO2.out.free _
  have hyb := Mem.byte_hi y
  have HY := Lib.hid hy
  clear hy
  go_region
  obtain ⟨w7, hw7⟩ : ∃ w7, (w6.setCell ⟨b2, o2 + i / 8, none⟩ (Value.int IntKind.u8 (bits BinOp.xor IntKind.u8 (↑y.toNat) (2 ^ (i % 8) % 256)))).drew = w7 := ⟨_, rfl⟩
  have hO7 : Mem.Own w7 5 1 (some ⟨b2, o2, none⟩) L c2 ((Crc.turn fb i).map Mem.byteV) := by
    have h9 := HO2.out.set (i / 8) (.int .u8 (bits .xor .u8 (y.toNat : Int) (2 ^ (i % 8) % 256)))
    rw [pb_int, xor_byte, show (Value.int .u8 ((y ^^^ pb i).toNat : Int)) = Mem.byteV (y ^^^ pb i) from rfl, ← List.map_set, ← turn_of HY.out] at h9
    rw [← hw7, pb_int, xor_byte]
    exact h9
  have hb2 : w5.heap.size ≤ b2 := HF2.out.blk b2 rfl
  have hB57 : Below w5.heap.size w5 w7 := by
    rw [← hw7]
    exact (HB8.out.setCell (p := ⟨b2, o2 + i / 8, none⟩) hb2 _).drew
  have HB57 := Lib.hid hB57
  have htl : (Crc.turn fb i).length = L := by rw [Crc.turn_length]; exact HLL.out
  obtain ⟨r1, hr1⟩ : ∃ r1, readM (Crc.turn fb i) = r1 := ⟨_, rfl⟩
  have hrf : Fed msgK r1.1 := by rw [← hr1]; exact readM_fed _
  have hon1 : Hid (∀ y ∈ r1.1, y.oneCell' = true) := okL_one hrf.ok
  have hln1 : Hid (r1.1.length = 74) := hrf.ok.len
  have htn := HTN.out
  rw [hr1] at htn
  have dr1 : (r1.2 != 0) = true := by simpa using htn
  have hrr := readMsg_rm hr1 hO7.rd (by rw [htl]; exact hO7.le) (by omega) hO7.cap
  rw [htl] at hrr
  have HRR := Lib.hid hrr
  rw [hw7]
  clear hcell hfree hyb hB57 htl hr1 hrf htn hrr hO7 hw7 HTN HO2 HB8 HF2 hb2 HY
  go_upto_region 13 with (first | (go_at_call 23; refine HRR.out.mono ?_; intro x8 w8 hrr; obtain ⟨rfl, h3⟩ := hrr; have HBb := Lib.hid h3; clear h3 HRR) | ((with_reducible refine Mem.store_agg _ _ msg_agg w8.heap.size zeroM r1.1 ?hx ?hy ?hb hln1.out hon1.out ?_); ((case hx => exact rfl); (case hy => exact rfl); (case hb => exact msgBox_new w8); intro w9 hb4 hk4 hs4; have HKc : Hid (Below w8.heap.size w8 w9) := (hk4.newBox rfl).belowAll; clear hb4 hk4 hs4)))
  have hB59 : Below w5.heap.size w5 w9 := (HB57.out.trans (HBb.out.mono HB57.out.size)).trans (HKc.out.mono (HB57.out.trans (HBb.out.mono HB57.out.size)).size)
  have HB59 := Lib.hid hB59
  have HRD9 : Hid (Mem.Rd w9 w9.heap.size (some ⟨b1, o1, none⟩) (fb.map Mem.byteV)) := (HRD.out.below hB59).more hB59.size
  have HRT9 : Hid (Mem.Rd w9 w9.heap.size (some ⟨b1, o1, none⟩) ((fb.take k).map Mem.byteV)) := by
    show Mem.Rd _ _ _ _
    rw [List.map_take]; exact HRD9.out.take k
  have hltk : (fb.take k).length = k := by rw [List.length_take, HLL.out]; omega
  have HLK := Lib.hid hltk
  clear hB59 hltk HBb HKc HB57 hon1 hln1
  go_upto_region 14 with fail
  clear hqk hqk1 hqk2 hk
  have hz74 : Hid (zeroM.length = 74) := rfl
  go_upto_region 15 with (first | (at_builtin; refine Mem.wpList_clone _ rfl (.tmp 76) (.tmp 79) _ rfl bytes_elem w9.heap.size rfl w9 w9.heap.size (some ⟨b1, o1, none⟩) k c1 _ rfl ?_ rfl (Below.refl _ _) (Nat.le_refl _) HRT9.out (by rw [List.length_map, HLK.out]; omega) (Mem.bytes_one _) (by unfold maxLen; omega) (by omega); intro A3 c3 w10 hown hb2 hs2 hf2; have hrr := readMsg_rm HCU.out hown.rd (by rw [HLK.out]; exact hown.le) (by rw [HLK.out]; omega) hown.cap; rw [HLK.out] at hrr; have HBa := Lib.hid hb2; have HRR := Lib.hid hrr; clear hown hb2 hs2 hf2 hrr) | (go_at_call 23; refine HRR.out.mono ?_; intro x11 w11 hrr; obtain ⟨rfl, h3⟩ := hrr; have HBb := Lib.hid h3; clear h3 HRR) | ((with_reducible refine Mem.store_agg _ _ msg_agg w11.heap.size zeroM zeroM ?hx ?hy ?hb hz74.out zeroM_one ?_); ((case hx => exact rfl); (case hy => exact rfl); (case hb => exact msgBox_new w11); intro w12 hb4 hk4 hs4; have HKc : Hid (Below w11.heap.size w11 w12) := (hk4.newBox rfl).belowAll; clear hb4 hk4 hs4)))
  have hB912 : Below w9.heap.size w9 w12 := (HBa.out.trans (HBb.out.mono HBa.out.size)).trans (HKc.out.mono (HBa.out.trans (HBb.out.mono HBa.out.size)).size)
  have HB512 : Hid (Below w5.heap.size w5 w12) := HB59.out.trans (hB912.mono HB59.out.size)
  have HRD12 : Hid (Mem.Rd w12 w12.heap.size (some ⟨b1, o1, none⟩) (fb.map Mem.byteV)) := (HRD9.out.below hB912).more hB912.size
  have HBW : Hid (Below w.heap.size w w12) := HB7.out.trans (HB512.out.mono HB7.out.size)
  have HRB12 : Hid (Mem.Rd w12 w12.heap.size A (bs.map Mem.byteV)) := (HRB.out.below HBW.out).more HBW.out.size
  obtain ⟨r3, hr3⟩ : ∃ r3, readM (fb ++ bs) = r3 := ⟨_, rfl⟩
  have hrf : Fed msgK r3.1 := by rw [← hr3]; exact readM_fed _
  have hon3 : Hid (∀ y ∈ r3.1, y.oneCell' = true) := okL_one hrf.ok
  have hln3 : Hid (r3.1.length = 74) := hrf.ok.len
  have hmr := HMR.out
  rw [hr3] at hmr
  have HMR3 := Lib.hid hmr
  have HR3 := Lib.hid hr3
  have hab : (fb ++ bs).length = L + bs.length := by rw [List.length_append, HLL.out]
  have HAB := Lib.hid hab
  clear hB912 hr3 hrf hmr hab HBa HBb HKc HB59 HRD9 HRT9 HRB HRD HMR hz74 HLK HCU
  go_upto_region 16 with (first | (at_builtin; refine Mem.wpList_clone _ rfl (.tmp 85) (.tmp 86) _ rfl bytes_elem w12.heap.size rfl w12 w12.heap.size (some ⟨b1, o1, none⟩) L c1 _ rfl ?_ rfl (Below.refl _ _) (Nat.le_refl _) HRD12.out (by rw [List.length_map, HLL.out]; omega) (Mem.bytes_one _) (by unfold maxLen; omega) (by omega); intro A5 c5 w13 hown hb2 hs2 hf2; have HO5 := Lib.hid hown; have HBa := Lib.hid hb2; have HF5 := Lib.hid hf2; clear hown hb2 hs2 hf2) | (at_builtin; refine Mem.wpList_app _ rfl (.tmp 87) (.tmp 88) _ rfl bytes_elem A5 L c5 _ rfl w12.heap.size A bs.length c (bs.map Mem.byteV) rfl ?_ HO5.out (HRB12.out.below HBa.out) (by simp) (Mem.bytes_one _) (by unfold maxLen; omega) (by omega); intro A6 c6 w14 hown hg2 hat; have hk14 := ((Mem.Keeps.refl (fun q => Mem.blk A5 = some q) w13).grown hg2 (fun k hk _ => hk)); have HB14 : Hid (Below w12.heap.size w13 w14) := hk14.below (fun q h => HF5.out.blk q h) HBa.out.size; rw [← List.map_append] at hown; have hrr := readMsg_rm HR3.out hown.rd (by rw [HAB.out]; exact hown.le) (by rw [HAB.out]; omega) hown.cap; rw [HAB.out] at hrr; have HRR := Lib.hid hrr; clear hown hg2 hat hk14 hrr) | (go_at_call 23; refine HRR.out.mono ?_; intro x15 w15 hrr; obtain ⟨rfl, h3⟩ := hrr; have HBb := Lib.hid h3; clear h3 HRR) | ((with_reducible refine Mem.store_agg _ _ msg_agg w15.heap.size zeroM r3.1 ?hx ?hy ?hb hln3.out hon3.out ?_); ((case hx => exact rfl); (case hy => exact rfl); (case hb => exact msgBox_new w15); intro w16 hb4 hk4 hs4; have HKc : Hid (Below w15.heap.size w15 w16) := (hk4.newBox rfl).belowAll; clear hb4 hk4 hs4)))
  have s13 : w12.heap.size ≤ w13.heap.size := HBa.out.size
  have b14 : Below w12.heap.size w12 w14 := HBa.out.trans HB14.out
  have b15 : Below w12.heap.size w12 w15 := b14.trans (HBb.out.mono b14.size)
  have b16 : Below w12.heap.size w12 w16 := b15.trans (HKc.out.mono b15.size)
  have HBE : Hid (Below w.heap.size w w16) := HBW.out.trans (b16.mono HBW.out.size)
  obtain ⟨z, hz1, hz2⟩ : ∃ z, ((bs.length : Int) == 0) = z ∧ (r3.2 == 0) = z := ⟨_, HMR3.out, rfl⟩
  clear s13 b14 b15 b16 HBW HKc HBb HB14 HBa HO5 HF5 HMR3 hon3 hln3 HRD12 HRB12 HB512 HR3 HAB
  cases z
  · go_wp2
    go_ret
    exact ⟨rfl, HBE.out⟩
  · go_wp2
    go_ret
    exact ⟨rfl, HBE.out⟩
theorem opened {H : Type} (enc : TypeId × Value → H) (W : World) (base : Nat) (v0 v1 v2 v3 : Value) {d0 d1 d2 d3 : DataW H} {p0 p1 p2 p3 : List MemPlace}
    (o0 : Value.okWide Try.prog W .any base 55 v0) (o1 : Value.okWide Try.prog W .any base 3 v1) (o2 : Value.okWide Try.prog W .any base 3 v2) (o3 : Value.okWide Try.prog W .any base 39 v3)
    (k0 : DataW.Trod enc Try.prog W 0 (fun _ => true) true 55 v0 d0 p0) (k1 : DataW.Trod enc Try.prog W 0 (fun _ => true) true 3 v1 d1 p1) (k2 : DataW.Trod enc Try.prog W 0 (fun _ => true) true 3 v2 d2 p2) (k3 : DataW.Trod enc Try.prog W 0 (fun _ => true) true 39 v3 d3 p3)
    (z0 : (d0.weights Try.prog 55).all (· ≤ reachBytes) = true) (z1 : (d1.weights Try.prog 3).all (· ≤ reachBytes) = true) (z2 : (d2.weights Try.prog 3).all (· ≤ reachBytes) = true) (z3 : (d3.weights Try.prog 39).all (· ≤ reachBytes) = true) :
    Calls Try.prog 13 #[v0, v1, v2, v3] W fun e w' => e = .returned (.bool true) ∧ Below W.heap.size W w' := by
  obtain ⟨xs, rfl, h1⟩ := open_msg o0 k0 z0
  obtain ⟨n1, rfl, g1⟩ := open_num o1 k1
  obtain ⟨n2, rfl, g2⟩ := open_num o2 k2
  obtain ⟨A, c, bs, rfl, h2, h3, h4⟩ := open_bytes o3 k3 z3
  exact walk xs n1 n2 A c bs W h1 g1 g2 h4 h2 h3
end wireFlipsOpen
end Go.Proofs.Ytkfgedgjpgehoaa
