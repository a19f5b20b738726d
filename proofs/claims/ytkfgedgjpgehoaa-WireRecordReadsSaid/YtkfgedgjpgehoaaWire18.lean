/- The walks of bytes.Equal and body. -/
import Derived.Test.YtkfgedgjpgehoaaWire16
namespace Go.Proofs.Ytkfgedgjpgehoaa
open Go.ChangeShapes Go.WideShapes Go.ChangeAt Go.RowKit
set_option linter.unusedVariables false
set_option linter.unusedSimpArgs false
namespace Wi
def sB (bs : List UInt8) : ByteArray := ⟨bs.toArray⟩
theorem sB_eq (xs ys : List UInt8) : ((sB xs).toList == (sB ys).toList) = decide (xs = ys) := by
  rw [ByteArray.toList_eq, ByteArray.toList_eq]
  show (xs.toArray.toList == ys.toArray.toList) = _
  rw [List.toList_toArray, List.toList_toArray]
  by_cases h : xs = ys
  · subst h; simp
  · rw [decide_eq_false h]; exact beq_false_of_ne h
end Wi
theorem equal_any {v1 v2 : Value} {xs ys : List UInt8} {w : World} (h1 : (convert 39 9 v1).run Try.prog w = .ok (.string (Wi.sB xs)) w) (h2 : (convert 39 9 v2).run Try.prog w = .ok (.string (Wi.sB ys)) w) :
    Calls Try.prog 33 #[v1, v2] w fun e w' => e = .returned (.bool (decide (xs = ys))) ∧ w' = w := by
  rw [← Wi.sB_eq]
  go_enter Try.func33, Try.ntmps33
  go_wp2
  go_ret
  exact ⟨rfl, rfl⟩
theorem Mem.conv_all {P : Program} {w : World} {B : Nat} {A : Option Addr} {bs : List UInt8} {n cap : Nat} (src dst e : TypeId) (hs : P.underlying src = some (.slice e)) (he : P.underlying e = some (.int .u8)) (hd : P.underlying dst = some .string)
    (hR : Mem.Rd w B A (bs.map Mem.byteV)) (hn : bs.length = n) : (convert src dst (.slice A n cap)).run P w = .ok (.string (Wi.sB bs)) w := by
  subst hn
  by_cases h0 : bs = []
  · subst h0
    have h9 : ∀ p : Option Addr, (convert src dst (.slice p 0 cap)).run P w = .ok (.string ⟨#[]⟩) w := fun p => by
      rw [run_convert_bytes_string w src dst e p 0 cap hs he hd]
      cases p <;> simp [Conv.bytesToString, loadCells]
      all_goals rfl
    exact h9 A
  · have h1 : 0 < bs.length := List.length_pos_iff.2 h0
    obtain ⟨b, o, rfl, hb, hc⟩ := hR.at (k := 0) (by simpa using h1)
    exact run_convert_bytes_back (P := P) w src dst e ⟨b, o, none⟩ cap bs hs he hd (fun j hj => by
      obtain ⟨b2, o2, e2, _, hc2⟩ := hR.at (k := j) (by simpa using hj)
      cases e2
      rw [add_flat, hc2]
      simp [Mem.byteV])
theorem or_hd {a b : Nat} (ha : a < 256) (hb : b < 256) : bits .or .i64 ((a : Int) * 256) (b : Int) = ((a * 256 + b : Nat) : Int) := by
  show IntKind.i64.wrap ((BitVec.ofInt 64 ((a : Int) * 256) ||| BitVec.ofInt 64 (b : Int)).toNat : Int) = _
  have e1 : ((a : Int) * 256) = ((a * 256 : Nat) : Int) := by omega
  rw [e1, BitVec.toNat_or, BitVec.ofInt_natCast, BitVec.ofInt_natCast, BitVec.toNat_ofNat, BitVec.toNat_ofNat, Nat.mod_eq_of_lt (by omega), Nat.mod_eq_of_lt (by omega)]
  have e2 : a * 256 ||| b = a * 256 + b := by
    have := Nat.two_pow_add_eq_or_of_lt (i := 8) hb a
    rw [Nat.mul_comm a 256]
    exact this.symm
  rw [e2]
  exact IntWalk.i64_in _ (by omega)
namespace Wi
def hdN (bs : List UInt8) : Nat := (bs[0]?.getD 0).toNat * 256 + (bs[1]?.getD 0).toNat
def bodyC (bs : List UInt8) : Int := if bs.length < 2 ∨ bs.length < hdN bs + 6 then 40 else if Mem.sub bs (hdN bs + 2) 4 = b4 (Crc.more 0#32 (Mem.sub bs 2 (hdN bs))) then 0 else 41
def bodyV (A : Option Addr) (cap : Nat) (bs : List UInt8) : Value := if bodyC bs = 0 then Mem.slc A 2 (hdN bs + 2) cap else .slice none 0 0
def BdEnd (w : World) (A : Option Addr) (cap : Nat) (bs : List UInt8) (x : Ending) (w' : World) : Prop := x = .returned (.tuple #[bodyV A cap bs, .int .i64 (bodyC bs)]) ∧ Below w.heap.size w w'
end Wi
open Wi in
set_option maxRecDepth 8000 in
set_option maxHeartbeats 4000000 in
theorem body_any {w : World} {A : Option Addr} {cap : Nat} {bs : List UInt8} (hR : Mem.Rd w w.heap.size A (bs.map Mem.byteV)) (hl : bs.length ≤ cap) (hb : bs.length ≤ 1000000000) :
    Calls Try.prog 32 #[.slice A bs.length cap] w (Wi.BdEnd w A cap bs) := by
  have HR := Lib.hid hR
  clear hR
  go_enter Try.func32, Try.ntmps32
  go_wp2
  refine wp_scope_jumps 0 (fun a' w' => (bodyC bs = 40 ∧ Below w.heap.size w w') ∧ ∃ (u1 u2 u3 u4 u5 u6 u7 u8 u9 u10 u11 u12 u13 u14 u15 u16 u17 u18 u19 u20 u21 u22 u23 u24 u25 u26 u27 u28 u29 u30 u31 u32 u33 u34 u35 u36 u37 u38 u39 u40 u41 u42 u43 u44 u45 u46 u47 u48 u49 u50 u51 u52 : Value), a' = { tmps := #[.slice A bs.length cap, u1, u2, u3, u4, u5, u6, u7, u8, u9, u10, u11, u12, u13, u14, u15, u16, u17, u18, u19, u20, u21, u22, u23, u24, u25, u26, u27, u28, u29, u30, u31, u32, u33, u34, u35, u36, u37, u38, u39, u40, u41, u42, u43, u44, u45, u46, u47, u48, u49, u50, u51, u52], defers := [] }) (fun _ _ => 0) rfl ?_ ?_
  · by_cases h2 : bs.length < 2
    · have hc : bodyC bs = 40 := by unfold bodyC; rw [if_pos (.inl h2)]
      have HC := Lib.hid hc
      have d1 : decide ((bs.length : Int) < 2) = true := by simp; omega
      clear hc h2
      go_wp2
      go_step3
      exact ⟨rfl, ⟨HC.out, Below.refl _ _⟩, _, _, _, _, _, _, _, _, _, _, _, _, _, _, _, _, _, _, _, _, _, _, _, _, _, _, _, _, _, _, _, _, _, _, _, _, _, _, _, _, _, _, _, _, _, _, _, _, _, _, _, _, rfl⟩
    · obtain ⟨b, o, rfl, hbb, hcc⟩ := HR.out.at (k := 0) (by simp; omega)
      obtain ⟨b', o', e', _, hc1⟩ := HR.out.at (k := 1) (by simp; omega)
      cases e'
      have d1 : decide ((bs.length : Int) < 2) = false := by simp; omega
      have x0 : w.cell? ⟨b, o, none⟩ = some (.int .u8 ((bs[0]?.getD 0).toNat : Int)) := by rw [List.getElem?_eq_getElem (by omega)]; simpa [Mem.byteV] using hcc
      have x1 : w.cell? ⟨b, o + 1, none⟩ = some (.int .u8 ((bs[1]?.getD 0).toNat : Int)) := by rw [List.getElem?_eq_getElem (by omega)]; simpa [Mem.byteV] using hc1
      obtain ⟨n0, hn0⟩ : ∃ n0, (bs[0]?.getD 0).toNat = n0 := ⟨_, rfl⟩
      obtain ⟨n1, hn1⟩ : ∃ n1, (bs[1]?.getD 0).toNat = n1 := ⟨_, rfl⟩
      rw [hn0] at x0
      rw [hn1] at x1
      have d2 : (0 : Int) < (bs.length : Int) := by omega
      have d3 : (1 : Int) < (bs.length : Int) := by omega
      have hn : hdN bs = n0 * 256 + n1 := by unfold hdN; rw [hn0, hn1]
      have HN := Lib.hid hn
      have hb0 : n0 < 256 := by rw [← hn0]; exact UInt8.toNat_lt _
      have hb1 : n1 < 256 := by rw [← hn1]; exact UInt8.toNat_lt _
      clear hcc hc1 hn hn0 hn1
      go_upto_region 4 with fail
      go_quiet (fail)
      have hnb := or_hd hb0 hb1
      rw [hnb]
      obtain ⟨n, hnn⟩ : ∃ n, n0 * 256 + n1 = n := ⟨_, rfl⟩
      have hnl : n < 65536 := by omega
      rw [hnn] at HN ⊢
      obtain ⟨w4, hw4⟩ : ∃ w4, w.drewN nq = w4 := ⟨_, rfl⟩
      have HB4 : Hid (Below w.heap.size w w4) := by show Below _ _ _; rw [← hw4]; exact ((Mem.Keeps.refl (fun _ => False) w).drewN _).belowAll
      have HR4 : Hid (Mem.Rd w4 w.heap.size (some ⟨b, o, none⟩) (bs.map Mem.byteV)) := HR.out.below HB4.out
      rw [hw4]
      clear hw4 hnb hnn hb0 hb1 x0 x1 d1 d2 d3
      by_cases h6 : bs.length < n + 6
      · have hc : bodyC bs = 40 := by unfold bodyC; rw [if_pos (.inr (by rw [HN.out]; exact h6))]
        have HC := Lib.hid hc
        have d1 : decide ((bs.length : Int) < (n : Int) + 6) = true := by simp; omega
        clear hc h2 h6
        go_wp2
        go_step3
        exact ⟨rfl, ⟨HC.out, HB4.out⟩, _, _, _, _, _, _, _, _, _, _, _, _, _, _, _, _, _, _, _, _, _, _, _, _, _, _, _, _, _, _, _, _, _, _, _, _, _, _, _, _, _, _, _, _, _, _, _, _, _, _, _, _, rfl⟩
      · have d1 : decide ((bs.length : Int) < (n : Int) + 6) = false := by simp; omega
        obtain ⟨bsn, hbsn⟩ : ∃ bsn, Mem.sub bs 2 n = bsn := ⟨_, rfl⟩
        obtain ⟨sm, hsm⟩ : ∃ sm, Crc.more 0#32 bsn = sm := ⟨_, rfl⟩
        have HSM := Lib.hid hsm
        have HBSN := Lib.hid hbsn
        have hsl : Mem.slc (some ⟨b, o, none⟩) 2 (n + 2) cap = .slice (some ⟨b, o + 2, none⟩) n (cap - 2) := by
          unfold Mem.slc
          rw [if_neg (by omega), Nat.add_sub_cancel]
          simp [Mem.add_flat]
        have HSL := Lib.hid hsl
        have HRs : Hid (Mem.Rd w4 w.heap.size (some ⟨b, o + 2, none⟩) (bsn.map Mem.byteV)) := by
          show Mem.Rd _ _ _ _
          rw [← hbsn]
          refine .inr ⟨b, o + 2, rfl, hbb, fun k v hk => ?_⟩
          obtain ⟨hk1, hk2⟩ := List.getElem?_eq_some_iff.1 hk
          rw [List.length_map, Mem.sub_len (by omega)] at hk1
          have h9 := HR4.out.cells0 (k := 2 + k) (by simp; omega)
          rw [Nat.add_assoc, h9, ← hk2]
          simp [Mem.sub]
        have hbl : Hid (bsn.length = n) := by show _ = _; rw [← hbsn]; exact Mem.sub_len (by omega)
        clear hsl hsm hbsn
        go_upto_region 7 with fail
        obtain ⟨s4, hs4⟩ : ∃ s4, w4.heap.size = s4 := ⟨_, rfl⟩
        have hwb4 := HB4.out.size
        obtain ⟨w5, hw5⟩ : ∃ w5, w4.alloc (.cells #[.slice (some ⟨b, o + 2, none⟩) n (cap - 2)] 39) = w5 := ⟨_, rfl⟩
        have HB5 : Hid (Below w.heap.size w w5) := by show Below _ _ _; rw [← hw5]; exact HB4.out.alloc hwb4 _
        have hrb5 : Mem.Rd w5 (s4 + 1) (some ⟨s4, 0, none⟩) [.slice (some ⟨b, o + 2, none⟩) n (cap - 2)] := by rw [← hw5]; exact Mem.Rd.alloc_new w4 _ _ _ hs4
        have hk5 : Below w.heap.size w4 w5 := by rw [← hw5]; exact (Below.refl _ _).alloc hwb4 _
        have HR5 : Hid (Mem.Rd w5 w.heap.size (some ⟨b, o, none⟩) (bs.map Mem.byteV)) := HR4.out.below hk5
        have hsum := crcSum_box w5 s4 (some ⟨b, o + 2, none⟩) (cap - 2) n w.heap.size bsn hrb5 (HRs.out.below hk5) (by rw [hbl.out]; unfold maxLen; omega) hbl.out
        rw [HSM.out] at hsum
        have HSU := Lib.hid hsum
        have hwb5 := HB5.out.size
        clear hrb5 hk5 hsum
        go_upto_region 8 with fail
        refine HSU.out.mono ?_
        rintro e9 w9 ⟨rfl, rfl⟩
        clear hw5 HSU hs4
        obtain ⟨sn, hsn⟩ : ∃ sn, Crc.nU sm = sn := ⟨_, rfl⟩
        have hsv : Crc.U sm = .int .u32 sn := by rw [← hsn]
        have hslo : 0 ≤ sn := by rw [← hsn]; exact Crc.nU_lo sm
        have hshi : sn ≤ 4294967295 := by rw [← hsn]; exact Crc.nU_hi sm
        have HSN := Lib.hid hsn
        rw [hsv]
        clear hsv hsn
        go_upto_region 8 with fail
        obtain ⟨w6, hw6⟩ : ∃ w6, w5.alloc (.cells #[.int .u8 (sn / 16777216), .int .u8 (sn / 65536 % 256), .int .u8 (sn / 256 % 256), .int .u8 (sn % 256)] 5) = w6 := ⟨_, rfl⟩
        have HB6 : Hid (Below w.heap.size w w6) := by show Below _ _ _; rw [← hw6]; exact HB5.out.alloc hwb5 _
        have hk6 : Below w.heap.size w5 w6 := by rw [← hw6]; exact (Below.refl _ _).alloc hwb5 _
        have hrd6 : Mem.Rd w6 (w5.heap.size + 1) (some ⟨w5.heap.size, 0, none⟩) ((b4 sm).map Mem.byteV) := by
          have e4 : (b4 sm).map Mem.byteV = [.int .u8 (sn / 16777216), .int .u8 (sn / 65536 % 256), .int .u8 (sn / 256 % 256), .int .u8 (sn % 256)] := by
            rw [← HSN.out]
            have h9 := sm.isLt
            unfold b4 Crc.nU
            simp only [List.map_cons, List.map_nil, Mem.byteV, ub]
            rw [show ((sm.toNat / 16777216 : Nat) : Int) % 256 = (sm.toNat : Int) / 16777216 by omega]
            simp
          rw [e4, ← hw6]
          exact Mem.Rd.alloc_new w5 _ _ _ rfl
        have hs4l : (Mem.sub bs (n + 2) 4).length = 4 := Mem.sub_len (by omega)
        have HRt : Mem.Rd w6 w.heap.size (some ⟨b, o + (n + 2), none⟩) ((Mem.sub bs (n + 2) 4).map Mem.byteV) := by
          refine .inr ⟨b, o + (n + 2), rfl, hbb, fun k v hk => ?_⟩
          obtain ⟨hk1, hk2⟩ := List.getElem?_eq_some_iff.1 hk
          rw [List.length_map, hs4l] at hk1
          have h9 := (HR5.out.below hk6).cells0 (k := n + 2 + k) (by simp; omega)
          rw [Nat.add_assoc, h9, ← hk2]
          simp [Mem.sub]
        have hcv1 := Mem.conv_all (P := Try.prog) (w := w6) (cap := cap - (n + 2)) 39 9 5 bytes_under u8_under string_under HRt hs4l
        have hcv2 := Mem.conv_all (P := Try.prog) (w := w6) (n := 4) (cap := 4) 39 9 5 bytes_under u8_under string_under hrd6 rfl
        have heq := equal_any hcv1 hcv2
        have HEQ := Lib.hid heq
        clear hk6 hrd6 hcv1 hcv2 heq hs4l HRt
        by_cases hok : Mem.sub bs (n + 2) 4 = b4 sm
        · have hc : bodyC bs = 0 := by unfold bodyC; rw [if_neg (by rw [HN.out]; omega), HN.out, HBSN.out, HSM.out, if_pos hok]
          have HC := Lib.hid hc
          have hdd : decide (Mem.sub bs (n + 2) 4 = b4 sm) = true := by simpa using hok
          rw [hdd] at HEQ
          clear hok hc hdd
          go_wp2_with fail
          try rw [hw6]
          refine HEQ.out.mono ?_
          rintro e9 w9 ⟨rfl, rfl⟩
          clear hw6 HEQ HB5 HR5
          go_wp2
          try simp only [Exit.jump]
          go_ret2
          refine ⟨?_, HB6.out⟩
          unfold bodyV
          rw [HC.out, if_pos rfl, HN.out, HSL.out]
          rfl
        · have hc : bodyC bs = 41 := by unfold bodyC; rw [if_neg (by rw [HN.out]; omega), HN.out, HBSN.out, HSM.out, if_neg hok]
          have HC := Lib.hid hc
          have hdd : decide (Mem.sub bs (n + 2) 4 = b4 sm) = false := by simpa using hok
          rw [hdd] at HEQ
          clear hok hc hdd
          go_wp2_with fail
          try rw [hw6]
          refine HEQ.out.mono ?_
          rintro e9 w9 ⟨rfl, rfl⟩
          clear hw6 HEQ HB5 HR5
          go_wp2
          try simp only [Exit.jump]
          go_ret2
          refine ⟨?_, HB6.out⟩
          unfold bodyV
          rw [HC.out, if_neg (by decide)]
          rfl
  · rintro a' w' ⟨⟨hc, hbl⟩, u1, u2, u3, u4, u5, u6, u7, u8, u9, u10, u11, u12, u13, u14, u15, u16, u17, u18, u19, u20, u21, u22, u23, u24, u25, u26, u27, u28, u29, u30, u31, u32, u33, u34, u35, u36, u37, u38, u39, u40, u41, u42, u43, u44, u45, u46, u47, u48, u49, u50, u51, u52, rfl⟩
    have HC := Lib.hid hc
    have HB := Lib.hid hbl
    clear hc hbl
    go_wp2
    go_ret2
    exact ⟨by unfold bodyV; rw [HC.out]; rfl, HB.out⟩
end Go.Proofs.Ytkfgedgjpgehoaa
