/- The walk of the statements' framed. No conditions but that the frame is one. -/
import Derived.Test.YtkfgedgjpgehoaaWire22
namespace Go.Proofs.Ytkfgedgjpgehoaa
open Go.ChangeShapes Go.WideShapes Go.ChangeAt Go.RowKit
set_option linter.unusedVariables false
set_option linter.unusedSimpArgs false
set_option maxRecDepth 100000
open Wi in
set_option maxHeartbeats 4000000 in
theorem frameTest_any {w : World} {A : Option Addr} {cap : Nat} {bs : List UInt8} {most : Int} (hR : Mem.Rd w w.heap.size A ((Wi.frameB bs).map Mem.byteV)) (hcap : bs.length + 6 ≤ cap) (h1 : 1 ≤ bs.length) (h2 : bs.length ≤ 1018) (hm : (bs.length : Int) + 6 ≤ most) (hm2 : most ≤ 2000) :
    Calls Try.prog 22 #[.slice A (Wi.frameB bs).length cap, .int .i64 most] w fun e w' => e = .returned (.bool true) ∧ Below w.heap.size w w' := by
  rw [frame_len]
  obtain ⟨b, o, rfl, hb, _⟩ := hR.at (k := 0) (by rw [List.length_map, frame_len]; omega)
  obtain ⟨L, hL⟩ : ∃ L, bs.length = L := ⟨_, rfl⟩
  obtain ⟨sm, hsm⟩ : ∃ sm, Crc.more 0#32 bs = sm := ⟨_, rfl⟩
  have hfl : (frameB bs).length = L + 6 := by rw [frame_len, hL]
  have hfe : frameB bs = (L / 256).toUInt8 :: L.toUInt8 :: (bs ++ b4 sm) := by rw [frame_eq, hL, hsm]
  have hc := fun (k : Nat) (x : UInt8) (hx : (frameB bs)[k]? = some x) => show w.cell? ⟨b, o + k, none⟩ = some (.int .u8 x.toNat) by
    obtain ⟨hk1, hk2⟩ := List.getElem?_eq_some_iff.1 hx
    have := hR.cells0 (k := k) (by rw [List.length_map]; exact hk1)
    rw [this, List.getElem_map, hk2]
    try rfl
  have hx := fun (j : Nat) (hj : j < 4) => show (frameB bs)[L + 2 + j]? = (b4 sm)[j]? by
    rw [hfe, show L + 2 + j = (L + j) + 1 + 1 by omega, List.getElem?_cons_succ, List.getElem?_cons_succ, List.getElem?_append_right (by omega), hL, Nat.add_sub_cancel_left]
  have c0 := hc 0 _ (by rw [hfe]; rfl)
  have c1 := hc 1 _ (by rw [hfe]; rfl)
  have c2 := hc (L + 2 + 0) _ (by rw [hx 0 (by omega)]; rfl)
  have c3 := hc (L + 2 + 1) _ (by rw [hx 1 (by omega)]; rfl)
  have c4 := hc (L + 2 + 2) _ (by rw [hx 2 (by omega)]; rfl)
  have c5 := hc (L + 2 + 3) _ (by rw [hx 3 (by omega)]; rfl)
  rw [ub] at c0 c1 c2 c3 c4 c5
  obtain ⟨sn, hsn⟩ : ∃ sn, Crc.nU sm = sn := ⟨_, rfl⟩
  have hslo : 0 ≤ sn := by rw [← hsn]; exact Crc.nU_lo sm
  have hshi : sn ≤ 4294967295 := by rw [← hsn]; exact Crc.nU_hi sm
  have hsn2 : (sm.toNat : Int) = sn := hsn
  have HSV : Hid (Crc.U sm = .int .u32 sn) := by show Crc.U sm = _; rw [← hsn]
  rw [show ((sm.toNat / 16777216 : Nat) : Int) % 256 = sn / 16777216 by omega] at c2
  rw [show ((sm.toNat / 65536 : Nat) : Int) % 256 = sn / 65536 % 256 by omega] at c3
  rw [show ((sm.toNat / 256 : Nat) : Int) % 256 = sn / 256 % 256 by omega] at c4
  rw [hsn2] at c5
  rw [show ((L / 256 : Nat) : Int) % 256 = (L : Int) / 256 by omega] at c0
  rw [Nat.add_zero] at c0 c2
  rw [Nat.add_assoc] at c3 c4 c5
  rw [hL] at h1 h2 hm hcap ⊢
  have HRb : Hid (Mem.Rd w w.heap.size (some ⟨b, o + 2, none⟩) (bs.map Mem.byteV)) := by
    refine .inr ⟨b, o + 2, rfl, hb, fun k v hk => ?_⟩
    obtain ⟨hk1, hk2⟩ := List.getElem?_eq_some_iff.1 hk
    rw [List.length_map] at hk1
    have := hR.cells0 (k := k + 2) (by rw [List.length_map, hfl]; omega)
    rw [show o + 2 + k = o + (k + 2) by omega, this, ← hk2]
    simp only [List.getElem_map]
    congr 2
    simp only [hfe, List.getElem_cons_succ]
    rw [List.getElem_append_left]
  have HBL : Hid (bs.length = L) := hL
  have HSM : Hid (Crc.more 0#32 bs = sm) := hsm
  clear hR hL hsm hfl hfe hc hx hsn hsn2
  go_enter Try.func22, Try.ntmps22
  have d1 : decide ((L : Int) + 6 < 7) = false := by simp; omega
  have d2 : decide (most < (L : Int) + 6) = false := by simp; omega
  go_upto_region 4 with fail
  clear d1 d2
  go_upto_region 5 with (at_builtin; refine Mem.wpList_clone _ rfl (.tmp 18) (.tmp 22) _ rfl bytes_elem w.heap.size rfl w w.heap.size (some ⟨b, o + 2, none⟩) L (cap - 2) _ rfl ?_ rfl (Below.refl _ _) (Nat.le_refl _) HRb.out (by rw [List.length_map, HBL.out]; omega) (Mem.bytes_one _) (by unfold maxLen; omega) (by omega); intro A2 c2' w2 hown hb2 hs2 hf2; have HO2 := Lib.hid hown; have HB2 := Lib.hid hb2; clear hown hb2 hs2 hf2)
  obtain ⟨w3, hw3⟩ : ∃ w3, w2.alloc (.cells #[.slice A2 L c2'] 39) = w3 := ⟨_, rfl⟩
  obtain ⟨s3, hs3⟩ : ∃ s3, w2.heap.size = s3 := ⟨_, rfl⟩
  have hrb3 : Mem.Rd w3 (s3 + 1) (some ⟨s3, 0, none⟩) [.slice A2 L c2'] := by rw [← hw3]; exact Mem.Rd.alloc_new w2 _ _ _ hs3
  have hk3 : Below s3 w2 w3 := by rw [← hw3, ← hs3]; exact Reg.below_new _ _
  have hrs3 : Mem.Rd w3 s3 A2 (bs.map Mem.byteV) := by
    have := HO2.out.rd
    rw [hs3] at this
    exact this.below hk3
  have hsum := crcSum_box w3 s3 A2 c2' L s3 bs hrb3 hrs3 (by rw [HBL.out]; unfold maxLen; omega) HBL.out
  rw [HSM.out] at hsum
  have HSU := Lib.hid hsum
  have HB3 : Hid (Below w.heap.size w w3) := HB2.out.trans (hk3.mono (by rw [← hs3]; exact HB2.out.size))
  have y0 := (HB3.out.cell (p := ⟨b, o, none⟩) hb).trans c0
  have y1 := (HB3.out.cell (p := ⟨b, o + 1, none⟩) hb).trans c1
  have y2 := (HB3.out.cell (p := ⟨b, o + (L + 2), none⟩) hb).trans c2
  have y3 := (HB3.out.cell (p := ⟨b, o + (L + (2 + 1)), none⟩) hb).trans c3
  have y4 := (HB3.out.cell (p := ⟨b, o + (L + (2 + 2)), none⟩) hb).trans c4
  have y5 := (HB3.out.cell (p := ⟨b, o + (L + (2 + 3)), none⟩) hb).trans c5
  rw [hw3, hs3]
  clear hrb3 hk3 hrs3 hsum hw3 hs3 HO2 HB2 c0 c1 c2 c3 c4 c5
  go_upto_region 5 with (go_at_call 40; refine HSU.out.mono ?_; rintro x4 w4 ⟨rfl, rfl⟩; rw [HSV.out])
  obtain ⟨l0, hl0⟩ : ∃ l0 : Int, (L : Int) / 256 = l0 := ⟨_, rfl⟩
  obtain ⟨l1, hl1⟩ : ∃ l1 : Int, (L : Int) % 256 = l1 := ⟨_, rfl⟩
  have hl2 : l0 * 256 + l1 = (L : Int) := by omega
  have hl3 : 0 ≤ l0 ∧ l0 ≤ 3 ∧ 0 ≤ l1 ∧ l1 ≤ 255 := by omega
  rw [hl0] at y0
  rw [hl1] at y1
  have z1 : (l0 * 256 + l1 == (L : Int) + 6 - 6) = true := by simp; omega
  have z2 : (l0 * 256 + l1 == (L : Int)) = true := by simp; omega
  clear hl0 hl1
  go_quiet (fail)
  go_wp2
  go_ret
  exact ⟨rfl, Mem.below_drewN HB3.out _⟩
end Go.Proofs.Ytkfgedgjpgehoaa
