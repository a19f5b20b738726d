/- The walks of the document's frame and long. No conditions but that the bytes are few. -/
import Derived.Test.YtkfgedgjpgehoaaOut3
namespace Go.Proofs.Ytkfgedgjpgehoaa
open Go.ChangeShapes Go.WideShapes Go.ChangeAt Go.RowKit
set_option linter.unusedVariables false
set_option linter.unusedSimpArgs false
namespace Wi
def RfEnd (w : World) (fb : List UInt8) (x : Ending) (w' : World) : Prop := ∃ A' cap', x = .returned (.slice A' fb.length cap') ∧ Mem.Own w' 5 1 A' fb.length cap' (fb.map Mem.byteV) ∧ Mem.From w.heap.size A' ∧ Below w.heap.size w w'
def sV (s : ByteArray) : Value := .string s
def longP (p : ByteArray × ByteArray) : Bool := decide (16 < p.1.size) || decide (32 < p.2.size)
def longS (ps : List (ByteArray × ByteArray)) : Bool := ps.any longP
structure RlRel (w : World) (ps : List (ByteArray × ByteArray)) (v5 : Value) (wr : World) : Prop where
  out : ∃ k : Nat, k ≤ ps.length ∧ v5 = .int .i64 k ∧ Hid (longS (ps.take k) = false) ∧ Hid (Below w.heap.size w wr)
theorem longS_snoc {ps : List (ByteArray × ByteArray)} {k : Nat} {p : ByteArray × ByteArray} (h : ps[k]? = some p) : longS (ps.take (k + 1)) = (longS (ps.take k) || longP p) := by
  unfold longS
  rw [List.take_add_one, h, List.any_append]
  simp
theorem longS_mem {ps : List (ByteArray × ByteArray)} {k : Nat} {p : ByteArray × ByteArray} (h : ps[k]? = some p) (hp : longP p = true) : longS ps = true := by
  unfold longS
  rw [List.any_eq_true]
  exact ⟨p, List.mem_of_getElem? h, hp⟩
end Wi
open Wi in
set_option maxRecDepth 8000 in
set_option maxHeartbeats 4000000 in
theorem rLong_any {w : World} {K V : Option Addr} {cK cV : Nat} {ps : List (ByteArray × ByteArray)} (h1 : Mem.Rd w w.heap.size K (ps.map fun p => Wi.sV p.1)) (h2 : Mem.Rd w w.heap.size V (ps.map fun p => Wi.sV p.2)) (hz : ∀ p ∈ ps, p.1.size ≤ 100000 ∧ p.2.size ≤ 100000) (hn : ps.length ≤ 100) :
    Calls Try.prog 30 #[.slice K ps.length cK, .slice V ps.length cV] w fun x w' => x = .returned (.bool (Wi.longS ps)) ∧ Below w.heap.size w w' := by
  have H1 := Lib.hid h1
  have H2 := Lib.hid h2
  have HZ := Lib.hid hz
  clear h1 h2 hz
  go_enter Try.func30, Try.ntmps30
  go_wp2
  go_loopw [5] (RlRel w ps) (fun t _ => ps.length - (intOf t).toNat)
  case atStart => exact ⟨⟨0, Nat.zero_le _, rfl, rfl, Below.refl _ _⟩⟩
  case round =>
    obtain ⟨k, hk, rfl, HL, HB⟩ := hrel.out
    clear hrel
    by_cases hlt : k < ps.length
    · obtain ⟨p, hp⟩ : ∃ p, ps[k]? = some p := ⟨_, List.getElem?_eq_getElem hlt⟩
      obtain ⟨b1, o1, hK, hb1, c1⟩ := H1.out.at (k := k) (by rw [List.length_map]; exact hlt)
      obtain ⟨b2, o2, hV, hb2, c2⟩ := H2.out.at (k := k) (by rw [List.length_map]; exact hlt)
      have hpe : ps[k] = p := (List.getElem?_eq_some_iff.1 hp).2
      simp only [List.getElem_map, hpe, sV] at c1 c2
      subst hK hV
      have x1 := (HB.out.cell (p := ⟨b1, o1 + k, none⟩) hb1).trans c1
      have x2 := (HB.out.cell (p := ⟨b2, o2 + k, none⟩) hb2).trans c2
      obtain ⟨z1, z2⟩ := HZ.out p (List.mem_of_getElem? hp)
      have HP := Lib.hid hp
      clear c1 c2 hpe hp
      by_cases e1 : 16 < p.1.size
      · have d1 : decide ((16 : Int) < (p.1.size : Int)) = true := by simp; omega
        have hr : longS ps = true := longS_mem HP.out (by unfold longP; simp [e1])
        have HR := Lib.hid hr
        clear e1 hr
        go_wp2
        go_ret
        exact ⟨by rw [HR.out]; rfl, HB.out⟩
      · have d1 : decide ((16 : Int) < (p.1.size : Int)) = false := by simp; omega
        by_cases e2 : 32 < p.2.size
        · have d2 : decide ((32 : Int) < (p.2.size : Int)) = true := by simp; omega
          have hr : longS ps = true := longS_mem HP.out (by unfold longP; simp [e2])
          have HR := Lib.hid hr
          clear e1 e2 hr
          go_wp2
          go_ret
          exact ⟨by rw [HR.out]; rfl, HB.out⟩
        · have d2 : decide ((32 : Int) < (p.2.size : Int)) = false := by simp; omega
          have hl : longS (ps.take (k + 1)) = false := by rw [longS_snoc HP.out, HL.out]; unfold longP; simp [e1, e2]
          have HL2 := Lib.hid hl
          clear e1 e2 hl
          go_wp2
          go_roundw
          case rel => exact ⟨⟨k + 1, by omega, by go_num, HL2, HB⟩⟩
          case measure => simp [intOf]; omega
    · obtain rfl : k = ps.length := by omega
      have hl : longS ps = false := by have := HL.out; rw [List.take_length] at this; exact this
      have HL2 := Lib.hid hl
      clear hl hlt hk
      go_wp2
      go_ret
      exact ⟨by rw [HL2.out]; rfl, HB.out⟩
open Wi in
set_option maxRecDepth 8000 in
set_option maxHeartbeats 4000000 in
theorem rFrame_any {w : World} {A : Option Addr} {cap : Nat} {bs : List UInt8} (hR : Mem.Rd w w.heap.size A (bs.map Mem.byteV)) (hl : bs.length ≤ 900000000) :
    Calls Try.prog 31 #[.slice A bs.length cap] w (Wi.RfEnd w (Wi.frameB bs)) := by
  have HR := Lib.hid hR
  obtain ⟨n, hn⟩ : ∃ n, bs.length = n := ⟨_, rfl⟩
  obtain ⟨sm, hsm⟩ : ∃ sm, Crc.more 0#32 bs = sm := ⟨_, rfl⟩
  have HSM := Lib.hid hsm
  have HN := Lib.hid hn
  have hnm : bs.length ≤ maxLen := by unfold maxLen; omega
  have HNM := Lib.hid hnm
  rw [hn] at hl ⊢
  clear hR hn hsm hnm
  have hO0 : Mem.Own (w.alloc (.cells #[.int .u8 ((n : Int) / 256 % 256), .int .u8 ((n : Int) % 256)] 5)) 5 1 none 0 0 [] := own_none
  have HO0 := Lib.hid hO0
  have hRD0 : Mem.Rd (w.alloc (.cells #[.int .u8 ((n : Int) / 256 % 256), .int .u8 ((n : Int) % 256)] 5)) (w.heap.size + 1) (some ⟨w.heap.size, 0, none⟩) [.int .u8 ((n : Int) / 256 % 256), .int .u8 ((n : Int) % 256)] := Mem.Rd.alloc_new w _ _ _ rfl
  have HRD0 := Lib.hid hRD0
  clear hO0 hRD0
  go_enter Try.func31, Try.ntmps31
  go_upto_region 3 with (at_builtin; refine Mem.wpList_app _ rfl (.tmp 5) (.tmp 14) _ rfl bytes_elem none 0 0 [] rfl (w.heap.size + 1) (some ⟨w.heap.size, 0, none⟩) 2 2 [.int .u8 ((n : Int) / 256 % 256), .int .u8 ((n : Int) % 256)] rfl ?_ HO0.out HRD0.out rfl (by simp [Value.oneCell']) (by unfold maxLen; omega) (by omega); intro A1 c1 w1 hown hgr hat; have HO1 := Lib.hid hown; have HK1 : Hid (Mem.Keeps (fun _ => False) w w1) := (((Mem.Keeps.refl (fun _ => False) w).alloc _).grown hgr (fun k hk _ => by cases hk)); have HA1 := Lib.hid hat; clear hown hgr hat)
  have HO1' : Hid (Mem.Own w1 5 1 A1 2 c1 [.int .u8 ((n : Int) / 256 % 256), .int .u8 ((n : Int) % 256)]) := HO1.out
  have hq1 : ∀ q, Mem.blk A1 = some q → w.heap.size ≤ q := fun q h => by
    rcases HA1.out with h1 | h1
    · rw [h1] at h; cases h
    · rw [h1] at h; simp [Mem.blk] at h; omega
  have HQ1 := Lib.hid hq1
  have HRD1 : Hid (Mem.Rd w1 w.heap.size A (bs.map Mem.byteV)) := HR.out.keeps HK1.out (fun k h => h.elim) (Nat.le_refl _)
  have hbl : (bs.map Mem.byteV).length = n * 1 := by rw [List.length_map, HN.out]; omega
  have HBL := Lib.hid hbl
  have hl6 : 2 + n ≤ 2000000000 := by omega
  have hl7 : 2 + n + 4 ≤ 2000000000 := by omega
  clear hq1 hbl HO1 HO0 HRD0 HA1
  go_upto_region 4 with (at_builtin; refine Mem.wpList_app _ rfl (.tmp 16) (.tmp 17) _ rfl bytes_elem A1 2 c1 [.int .u8 ((n : Int) / 256 % 256), .int .u8 ((n : Int) % 256)] rfl w.heap.size A n cap (bs.map Mem.byteV) rfl ?_ HO1'.out HRD1.out HBL.out (Mem.bytes_one bs) (len_ok hl6).1 (len_ok hl6).2; intro A2 c2 w2 hown hgr hat; have HO2 := Lib.hid hown; have HK2 : Hid (Mem.Keeps (fun q => Mem.blk A1 = some q) w1 w2) := (Mem.Keeps.refl _ w1).grown hgr (fun k hk _ => hk); have HA2 := Lib.hid hat; clear hown hgr hat)
  have hK : Mem.Keeps (fun q => w.heap.size ≤ q) w w2 := (HK1.out.mono (fun q h _ => h.elim)).trans HK2.out (fun q h _ => HQ1.out q h)
  have HK := Lib.hid hK
  have HRD2 : Hid (Mem.Rd w2 w.heap.size A (bs.map Mem.byteV)) := HR.out.keeps hK (fun k h => h) (Nat.le_refl _)
  have hq2 : ∀ q, Mem.blk A2 = some q → w.heap.size ≤ q := fun q h => by
    rcases HA2.out with h1 | h1
    · rw [h1] at h; exact HQ1.out q h
    · rw [h1] at h; have := HK1.out.size; simp [Mem.blk] at h; omega
  have HQ2 := Lib.hid hq2
  have hmo := refMore_any 0#32 A cap bs w.heap.size w2 HRD2.out HNM.out
  rw [HSM.out, HN.out] at hmo
  have HMO := Lib.hid hmo
  clear hK hq2 hmo HA2 HRD1 HO1' HK1 HK2
  go_upto_region 5 with (go_at_call 52; refine HMO.out.mono ?_; rintro x3 w3 ⟨rfl, rfl⟩; clear HMO)
  have HO4 : Hid (Mem.Own (w2.alloc (.cells #[.int .u8 (Crc.nU sm / 16777216 % 256), .int .u8 (Crc.nU sm / 65536 % 256), .int .u8 (Crc.nU sm / 256 % 256), .int .u8 (Crc.nU sm % 256)] 5)) 5 1 A2 (2 + n) c2 ([.int .u8 ((n : Int) / 256 % 256), .int .u8 ((n : Int) % 256)] ++ bs.map Mem.byteV)) := HO2.out.alloc _
  have HRD4 : Hid (Mem.Rd (w2.alloc (.cells #[.int .u8 (Crc.nU sm / 16777216 % 256), .int .u8 (Crc.nU sm / 65536 % 256), .int .u8 (Crc.nU sm / 256 % 256), .int .u8 (Crc.nU sm % 256)] 5)) (w2.heap.size + 1) (some ⟨w2.heap.size, 0, none⟩) [.int .u8 (Crc.nU sm / 16777216 % 256), .int .u8 (Crc.nU sm / 65536 % 256), .int .u8 (Crc.nU sm / 256 % 256), .int .u8 (Crc.nU sm % 256)]) := Mem.Rd.alloc_new w2 _ _ _ rfl
  have HFR : Hid (([.int .u8 ((n : Int) / 256 % 256), .int .u8 ((n : Int) % 256)] ++ bs.map Mem.byteV) ++ [.int .u8 (Crc.nU sm / 16777216 % 256), .int .u8 (Crc.nU sm / 65536 % 256), .int .u8 (Crc.nU sm / 256 % 256), .int .u8 (Crc.nU sm % 256)] = (frameB bs).map Mem.byteV) := by
    show _ = _
    unfold frameB b4
    rw [HSM.out, HN.out]
    simp only [List.map_append, List.map_cons, List.map_nil, Mem.byteV, ub]
    unfold Crc.nU
    simp
  have HFL : Hid ((frameB bs).length = 2 + n + 4) := by show _ = _; rw [frame_len, HN.out]; omega
  have hb4 : ∀ u ∈ ([.int .u8 (Crc.nU sm / 16777216 % 256), .int .u8 (Crc.nU sm / 65536 % 256), .int .u8 (Crc.nU sm / 256 % 256), .int .u8 (Crc.nU sm % 256)] : List Value), u.oneCell' = true := by simp [Value.oneCell']
  go_wp2_with (at_builtin; refine Mem.wpList_app _ rfl (.tmp 21) (.tmp 33) _ rfl bytes_elem A2 (2 + n) c2 _ rfl (w2.heap.size + 1) (some ⟨w2.heap.size, 0, none⟩) 4 4 [.int .u8 (Crc.nU sm / 16777216 % 256), .int .u8 (Crc.nU sm / 65536 % 256), .int .u8 (Crc.nU sm / 256 % 256), .int .u8 (Crc.nU sm % 256)] rfl ?_ HO4.out HRD4.out rfl hb4 (len_ok hl7).1 (len_ok hl7).2; intro A5 c5 w5 hown hgr hat; have HO5 := Lib.hid hown; have HK5 : Hid (Mem.Keeps (fun q => Mem.blk A2 = some q) w2 w5) := ((Mem.Keeps.refl (fun q => Mem.blk A2 = some q) w2).alloc _).grown hgr (fun k hk _ => hk); have HA5 := Lib.hid hat; clear hown hgr hat)
  go_ret
  have hk : Mem.Keeps (fun q => w.heap.size ≤ q) w w5 := HK.out.trans HK5.out (fun q h _ => HQ2.out q h)
  refine ⟨A5, c5, ?_, ?_, Mem.From.of_blk (fun q h => ?_), hk.below (fun q h => h) (Nat.le_refl _)⟩
  · rw [HFL.out]; rfl
  · rw [HFL.out, ← HFR.out]; exact HO5.out
  · rcases HA5.out with h1 | h1
    · rw [h1] at h; exact HQ2.out q h
    · rw [h1] at h; have := HK.out.size; simp [Mem.blk] at h; omega
end Go.Proofs.Ytkfgedgjpgehoaa
