/- The walk of framed. No conditions but that the bytes are few. -/
import Derived.Test.YtkfgedgjpgehoaaWire7
import Derived.Test.YtkfgedgjpgehoaaCrcM
namespace Go.Proofs.Ytkfgedgjpgehoaa
open Go.ChangeShapes Go.WideShapes Go.ChangeAt Go.RowKit
set_option linter.unusedVariables false
set_option linter.unusedSimpArgs false
namespace Wi
def b4 (x : Crc.W32) : List UInt8 := [(x.toNat / 16777216).toUInt8, (x.toNat / 65536).toUInt8, (x.toNat / 256).toUInt8, x.toNat.toUInt8]
/-- the frame of a body -/
def frameB (bs : List UInt8) : List UInt8 := [(bs.length / 256).toUInt8, bs.length.toUInt8] ++ bs ++ b4 (Crc.more 0#32 bs)
/-- what framed answers -/
def framedC (c : Cd) : List UInt8 × Int := if c.arg = true then ([], 1) else if c.long = true then ([], 42) else (frameB c.bs, 0)
def FrEnd (w : World) (c : Cd) (x : Ending) (w' : World) : Prop := ∃ A' cap', x = .returned (.tuple #[.slice A' (framedC c).1.length cap', .int .i64 (framedC c).2]) ∧ Mem.Own w' 5 1 A' (framedC c).1.length cap' ((framedC c).1.map Mem.byteV) ∧ Mem.From w.heap.size A' ∧ Below w.heap.size w w'
theorem ub (m : Nat) : ((m.toUInt8.toNat : Nat) : Int) = (m : Int) % 256 := by simp [Nat.toUInt8, UInt8.toNat_ofNat]
theorem own_none {w : World} {e : TypeId} {sz : Nat} : Mem.Own w e sz none 0 0 [] := by
  refine ⟨?_, ?_⟩ <;> simp [maxLen]
end Wi
open Wi in
set_option maxRecDepth 8000 in
set_option maxHeartbeats 4000000 in
theorem framed_any {w : World} {g : Nat} {A : Option Addr} {cap : Nat} {c : Wi.Cd} (h : Wi.CAt w g A cap c) (hl : c.bs.length ≤ 1000000000) :
    Calls Try.prog 26 #[.pointer (some ⟨g, 0, none⟩)] w (Wi.FrEnd w c) := by
  have HC := Lib.hid h
  have x0 : w.cell? ⟨g, 0, none⟩ = some (.slice A c.bs.length cap) := h.B.cell (j := 0) rfl
  have x4 : w.cell? ⟨g, 4, none⟩ = some (.bool c.arg) := h.B.cell (j := 4) rfl
  have x5 : w.cell? ⟨g, 5, none⟩ = some (.bool c.long) := h.B.cell (j := 5) rfl
  clear h
  cases ha : c.arg
  · rw [ha] at x4
    cases hlg : c.long
    · rw [hlg] at x5
      have hfc : framedC c = (frameB c.bs, 0) := by unfold framedC; rw [ha, hlg]; rfl
      have HF := Lib.hid hfc
      obtain ⟨n, hn⟩ : ∃ n, c.bs.length = n := ⟨_, rfl⟩
      rw [hn] at x0 hl
      have hnm : c.bs.length ≤ maxLen := by unfold maxLen; omega
      obtain ⟨sm, hsm⟩ : ∃ sm, Crc.more 0#32 c.bs = sm := ⟨_, rfl⟩
      have HSM := Lib.hid hsm
      have HN := Lib.hid hn
      clear hfc ha hlg hsm
      go_enter Try.func26, Try.ntmps26
      go_upto_region 5 with fail
      clear x0 x4 x5
      refine Reg.wp_region_rel (by kernel_rfl) 53 13 rfl rfl (by kernel_rfl) (Reg.Adds) (Reg.Adds.refl) (Reg.Adds.trans)
        (fun i v u => match i with
          | 0 => v = .pointer (some ⟨g, 0, none⟩)
          | 1 => v = .pointer (some ⟨g, 0, none⟩)
          | 2 => v = .pointer (some ⟨g, 0, none⟩)
          | 3 => v = .slice A n cap
          | 4 => v = .int .i64 ((n : Nat) : Int)
          | 5 => v = .pointer (some ⟨g, 0, none⟩)
          | 6 => v = .pointer (some ⟨g, 0, none⟩)
          | 7 => v = .pointer (some ⟨g, 0, none⟩)
          | 8 => v = .slice A n cap
          | 9 => ∃ s, v = .slice (some ⟨s, 0, none⟩) 1 1 ∧ s + 1 ≤ u.heap.size ∧ Mem.Rd u (s + 1) (some ⟨s, 0, none⟩) [.slice A n cap]
          | 10 => v = Crc.U sm
          | 11 => v = .int .i64 ((n : Nat) : Int)
          | 12 => v = Crc.U sm
          | _ => True) ?_ ?_
      · refine Reg.Steps.cons ?_ (Reg.Steps.cons ?_ (Reg.Steps.cons ?_ (Reg.Steps.cons ?_ (Reg.Steps.cons ?_ (Reg.Steps.cons ?_ (Reg.Steps.cons ?_ (Reg.Steps.cons ?_ (Reg.Steps.cons ?_ (Reg.Steps.cons ?_ (Reg.Steps.cons ?_ (Reg.Steps.cons ?_ (Reg.Steps.cons ?_ (Reg.Steps.nil _)))))))))))))
        · intro val ac u hR hp ha K hK      -- 0: t17 := Op.move t0
          have e0 : (ac.tmps[0]?).getD undef = .pointer (some ⟨g, 0, none⟩) := ha 0 (by decide)
          clear ha hp
          refine Reg.Op1.plain rfl ?_
          go_wp2
          exact ⟨rfl, hK _ _ rfl (fun j k _ _ => Reg.Adds.refl _ _ _)⟩
        · intro val ac u hR hp ha K hK      -- 1: t18 := Op.nilCheck t17
          obtain ⟨w17, h17, r17⟩ := hp 0 (by decide)
          have e17 : (ac.tmps[17]?).getD undef = .pointer (some ⟨g, 0, none⟩) := (ha 17 (by decide)).trans h17
          clear h17
          clear ha hp
          refine Reg.Op1.plain rfl ?_
          go_wp2
          exact ⟨rfl, hK _ _ rfl (fun j k _ _ => Reg.Adds.refl _ _ _)⟩
        · intro val ac u hR hp ha K hK      -- 2: t19 := Op.fieldAddr 67 t18 0
          obtain ⟨w18, h18, r18⟩ := hp 1 (by decide)
          have e18 : (ac.tmps[18]?).getD undef = .pointer (some ⟨g, 0, none⟩) := (ha 18 (by decide)).trans h18
          clear h18
          clear ha hp
          refine Reg.Op1.plain rfl ?_
          go_wp2
          exact ⟨rfl, hK _ _ rfl (fun j k _ _ => Reg.Adds.refl _ _ _)⟩
        · intro val ac u hR hp ha K hK      -- 3: t20 := Op.load 39 t19
          obtain ⟨w19, h19, r19⟩ := hp 2 (by decide)
          have e19 : (ac.tmps[19]?).getD undef = .pointer (some ⟨g, 0, none⟩) := (ha 19 (by decide)).trans h19
          clear h19
          clear ha hp
          refine Reg.Op1.plain rfl ?_
          have x0 : u.cell? ⟨g, 0, none⟩ = some (.slice A n cap) := by rw [← HN.out]; exact (hR.cell (p := ⟨g, 0, none⟩) HC.out.B.lt).trans (HC.out.B.cell (j := 0) rfl)
          go_wp2
          exact ⟨rfl, hK _ _ rfl (fun j k _ _ => Reg.Adds.refl _ _ _)⟩
        · intro val ac u hR hp ha K hK      -- 4: t21 := Op.call { builtin len, args := #[t20], argTypes := #[39] }
          obtain ⟨w20, h20, r20⟩ := hp 3 (by decide)
          have e20 : (ac.tmps[20]?).getD undef = .slice A n cap := (ha 20 (by decide)).trans h20
          clear h20
          clear ha hp
          refine Reg.Op1.plain rfl ?_
          go_wp2
          exact ⟨rfl, hK _ _ rfl (fun j k _ _ => Reg.Adds.refl _ _ _)⟩
        · intro val ac u hR hp ha K hK      -- 5: t22 := Op.move t0
          have e0 : (ac.tmps[0]?).getD undef = .pointer (some ⟨g, 0, none⟩) := ha 0 (by decide)
          clear ha hp
          refine Reg.Op1.plain rfl ?_
          go_wp2
          exact ⟨rfl, hK _ _ rfl (fun j k _ _ => Reg.Adds.refl _ _ _)⟩
        · intro val ac u hR hp ha K hK      -- 6: t23 := Op.nilCheck t22
          obtain ⟨w22, h22, r22⟩ := hp 5 (by decide)
          have e22 : (ac.tmps[22]?).getD undef = .pointer (some ⟨g, 0, none⟩) := (ha 22 (by decide)).trans h22
          clear h22
          clear ha hp
          refine Reg.Op1.plain rfl ?_
          go_wp2
          exact ⟨rfl, hK _ _ rfl (fun j k _ _ => Reg.Adds.refl _ _ _)⟩
        · intro val ac u hR hp ha K hK      -- 7: t24 := Op.fieldAddr 67 t23 0
          obtain ⟨w23, h23, r23⟩ := hp 6 (by decide)
          have e23 : (ac.tmps[23]?).getD undef = .pointer (some ⟨g, 0, none⟩) := (ha 23 (by decide)).trans h23
          clear h23
          clear ha hp
          refine Reg.Op1.plain rfl ?_
          go_wp2
          exact ⟨rfl, hK _ _ rfl (fun j k _ _ => Reg.Adds.refl _ _ _)⟩
        · intro val ac u hR hp ha K hK      -- 8: t25 := Op.load 39 t24
          obtain ⟨w24, h24, r24⟩ := hp 7 (by decide)
          have e24 : (ac.tmps[24]?).getD undef = .pointer (some ⟨g, 0, none⟩) := (ha 24 (by decide)).trans h24
          clear h24
          clear ha hp
          refine Reg.Op1.plain rfl ?_
          have x0 : u.cell? ⟨g, 0, none⟩ = some (.slice A n cap) := by rw [← HN.out]; exact (hR.cell (p := ⟨g, 0, none⟩) HC.out.B.lt).trans (HC.out.B.cell (j := 0) rfl)
          go_wp2
          exact ⟨rfl, hK _ _ rfl (fun j k _ _ => Reg.Adds.refl _ _ _)⟩
        · intro val ac u hR hp ha K hK      -- 9: t26 := Op.buildSlice 123 1 #[(0, t25)]
          obtain ⟨w25, h25, r25⟩ := hp 8 (by decide)
          have e25 : (ac.tmps[25]?).getD undef = .slice A n cap := (ha 25 (by decide)).trans h25
          clear h25
          clear ha hp
          refine Reg.Op1.plain rfl ?_
          go_wp2
          exact ⟨rfl, hK _ _ ⟨u.heap.size, rfl, by simp, Mem.Rd.alloc_new u _ _ _ rfl⟩ (fun j k _ _ => Reg.below_new _ _)⟩
        · intro val ac u hR hp ha K hK      -- 10: t27 := Op.call { value (Operand.func 40), args := #[t26], argTypes := #[123] }
          obtain ⟨w26, h26, r26⟩ := hp 9 (by decide)
          have e26 : (ac.tmps[26]?).getD undef = val 9 := ha 26 (by decide)
          clear ha hp
          refine Reg.Op1.plain rfl ?_
          obtain ⟨s, hv, hs, hrd⟩ := h26
          rw [hv] at e26
          have hb : Below w.heap.size w u := (Below.refl _ w).drew.trans hR
          have hc := crcSum_box u s A cap n w.heap.size c.bs (hrd.below (Below.mono r26 hs)) (HC.out.R.below hb) hnm HN.out
          rw [HSM.out] at hc
          go_wp2_with fail
          refine hc.mono ?_
          rintro x w' ⟨rfl, rfl⟩
          go_wp2_with fail
          exact ⟨rfl, hK _ _ rfl (fun j k _ _ => Reg.Adds.refl _ _ _)⟩
        · intro val ac u hR hp ha K hK      -- 11: t4 := Op.assign t21
          obtain ⟨w21, h21, r21⟩ := hp 4 (by decide)
          have e21 : (ac.tmps[21]?).getD undef = .int .i64 ((n : Nat) : Int) := (ha 21 (by decide)).trans h21
          clear h21
          clear ha hp
          refine Reg.Op1.plain rfl ?_
          go_wp2
          exact ⟨rfl, hK _ _ rfl (fun j k _ _ => Reg.Adds.refl _ _ _)⟩
        · intro val ac u hR hp ha K hK      -- 12: t5 := Op.assign t27
          obtain ⟨w27, h27, r27⟩ := hp 10 (by decide)
          have e27 : (ac.tmps[27]?).getD undef = Crc.U sm := (ha 27 (by decide)).trans h27
          clear h27
          clear ha hp
          refine Reg.Op1.plain rfl ?_
          go_wp2
          exact ⟨rfl, hK _ _ rfl (fun j k _ _ => Reg.Adds.refl _ _ _)⟩
      · intro val u hR H
        obtain ⟨_, hv1, _⟩ := H 11 (by decide)
        obtain ⟨_, hv2, _⟩ := H 12 (by decide)
        have hv1 : val 11 = .int .i64 (n : Int) := hv1
        have hv2 : val 12 = Crc.U sm := hv2
        have HB : Hid (Below w.heap.size w u) := (Below.refl _ w).drew.trans hR
        simp only [List.map_cons, List.map_nil, Reg.lay, Act.put, List.setIfInBounds_toArray, List.set_cons_succ, List.set_cons_zero, Nat.reduceAdd, hv1, hv2]
        clear hR H hv1 hv2
        obtain ⟨w5, hw5⟩ : ∃ w5, w5 = u := ⟨_, rfl⟩
        subst hw5
        have HC5 : Hid (CAt w5 g A cap c) := HC.out.keeps (Mem.Keeps.of_below HB.out) (fun _ _ h => h)
        have x0 : w5.cell? ⟨g, 0, none⟩ = some (.slice A n cap) := by rw [← HN.out]; exact HC5.out.B.cell (j := 0) rfl
        have xa := fun o : Obj => Reg.cell_up x0 o
        clear x0
        have HO5 : Hid (Mem.Own (w5.alloc (.cells #[.int .u8 ((n : Int) / 256 % 256), .int .u8 ((n : Int) % 256)] 5)) 5 1 (some ⟨w5.heap.size, 0, none⟩) 2 2 [.int .u8 ((n : Int) / 256 % 256), .int .u8 ((n : Int) % 256)]) := Mem.Own.lit w5 _ 1 #[.int .u8 ((n : Int) / 256 % 256), .int .u8 ((n : Int) % 256)] 2 rfl rfl (by simp [maxLen])
        have HRD5 : Hid (Mem.Rd (w5.alloc (.cells #[.int .u8 ((n : Int) / 256 % 256), .int .u8 ((n : Int) % 256)] 5)) w5.heap.size A (c.bs.map Mem.byteV)) := HC5.out.R.alloc (Nat.le_refl _) _
        have hbl : (c.bs.map Mem.byteV).length = n * 1 := by rw [List.length_map, HN.out]; omega
        have hb1 := Mem.bytes_one c.bs
        have hl6 : 2 + n ≤ 2000000000 := by omega
        have hl7 : 2 + n + 4 ≤ 2000000000 := by omega
        go_upto_region 7 with (at_builtin; refine Mem.wpList_app _ rfl (.tmp 33) (.tmp 37) _ rfl bytes_elem (some ⟨w5.heap.size, 0, none⟩) 2 2 [.int .u8 ((n : Int) / 256 % 256), .int .u8 ((n : Int) % 256)] rfl w5.heap.size A n cap (c.bs.map Mem.byteV) rfl ?_ HO5.out HRD5.out hbl hb1 (len_ok hl6).1 (len_ok hl6).2; intro A6 c6 w6 hown hgr hat; have HO6 := Lib.hid hown; have HK6 : Hid (Mem.Keeps (fun y => y = w5.heap.size) w5 w6) := (((Mem.Keeps.refl (fun y => y = w5.heap.size) w5).alloc _).grown hgr (fun k h hlt => by cases h; rfl)); have HAt6 := Lib.hid hat; clear hown hgr hat)
        clear xa HO5 HRD5 hbl hb1
        have HO7 : Hid (Mem.Own (w6.alloc (.cells #[.int .u8 (Crc.nU sm / 16777216 % 256), .int .u8 (Crc.nU sm / 65536 % 256), .int .u8 (Crc.nU sm / 256 % 256), .int .u8 (Crc.nU sm % 256)] 5)) 5 1 A6 (2 + n) c6 ([.int .u8 ((n : Int) / 256 % 256), .int .u8 ((n : Int) % 256)] ++ c.bs.map Mem.byteV)) := HO6.out.keeps ((Mem.Keeps.refl (fun _ => False) w6).alloc _) (fun _ _ h => h)
        have HRD7 : Hid (Mem.Rd (w6.alloc (.cells #[.int .u8 (Crc.nU sm / 16777216 % 256), .int .u8 (Crc.nU sm / 65536 % 256), .int .u8 (Crc.nU sm / 256 % 256), .int .u8 (Crc.nU sm % 256)] 5)) (w6.heap.size + 1) (some ⟨w6.heap.size, 0, none⟩) [.int .u8 (Crc.nU sm / 16777216 % 256), .int .u8 (Crc.nU sm / 65536 % 256), .int .u8 (Crc.nU sm / 256 % 256), .int .u8 (Crc.nU sm % 256)]) := Mem.Rd.alloc_new w6 _ _ _ rfl
        have hb4 : ∀ u ∈ ([.int .u8 (Crc.nU sm / 16777216 % 256), .int .u8 (Crc.nU sm / 65536 % 256), .int .u8 (Crc.nU sm / 256 % 256), .int .u8 (Crc.nU sm % 256)] : List Value), u.oneCell' = true := by simp [Value.oneCell']
        have HFR : Hid (([.int .u8 ((n : Int) / 256 % 256), .int .u8 ((n : Int) % 256)] ++ c.bs.map Mem.byteV) ++ [.int .u8 (Crc.nU sm / 16777216 % 256), .int .u8 (Crc.nU sm / 65536 % 256), .int .u8 (Crc.nU sm / 256 % 256), .int .u8 (Crc.nU sm % 256)] = (frameB c.bs).map Mem.byteV) := by
          show _ = _
          unfold frameB b4
          rw [HSM.out, HN.out]
          simp only [List.map_append, List.map_cons, List.map_nil, Mem.byteV, ub]
          unfold Crc.nU
          simp
        have HFL : Hid ((frameB c.bs).length = 2 + n + 4) := by show _ = _; unfold frameB b4; rw [← HN.out]; simp; omega
        have hA6 : ∀ q, Mem.blk A6 = some q → w5.heap.size ≤ q := fun q h => by
          rcases HAt6.out with h1 | h1
          · rw [h1] at h; simp [Mem.blk] at h; omega
          · rw [h1] at h; simp [Mem.blk] at h; omega
        have HA6 := Lib.hid hA6
        clear hA6
        go_wp2_with (at_builtin; refine Mem.wpList_app _ rfl (.tmp 39) (.tmp 51) _ rfl bytes_elem A6 (2 + n) c6 _ rfl (w6.heap.size + 1) (some ⟨w6.heap.size, 0, none⟩) 4 4 [.int .u8 (Crc.nU sm / 16777216 % 256), .int .u8 (Crc.nU sm / 65536 % 256), .int .u8 (Crc.nU sm / 256 % 256), .int .u8 (Crc.nU sm % 256)] rfl ?_ HO7.out HRD7.out rfl hb4 (len_ok hl7).1 (len_ok hl7).2; intro A7 c7 w7 hown hgr hat; have HO8 := Lib.hid hown; have HK8 : Hid (Mem.Keeps (fun y => Mem.blk A6 = some y) w6 w7) := (((Mem.Keeps.refl (fun y => Mem.blk A6 = some y) w6).alloc _).grown hgr (fun k h _ => h)); have HAt8 := Lib.hid hat; clear hown hgr hat)
        go_ret2
        have hk : Mem.Keeps (fun y => w5.heap.size ≤ y) w5 w7 := (HK6.out.mono (T := fun y => w5.heap.size ≤ y) (fun q h _ => by rw [h]; exact Nat.le_refl _)).trans HK8.out (fun q h _ => HA6.out q h)
        have h5 := HB.out.size
        have h6 := HK6.out.size
        refine ⟨A7, c7, ?_, ?_, Mem.From.of_blk (fun q h => ?_), HB.out.trans (hk.below (fun q h => Nat.le_trans h5 h) h5)⟩
        · rw [HF.out]
          show _ = Ending.returned (.tuple #[.slice A7 (frameB c.bs).length c7, .int .i64 0])
          rw [HFL.out]
          rfl
        · rw [HF.out]
          show Mem.Own _ _ _ _ (frameB c.bs).length _ ((frameB c.bs).map Mem.byteV)
          rw [HFL.out, ← HFR.out]
          exact HO8.out
        · rcases HAt8.out with h1 | h1
          · rw [h1] at h; have := HA6.out q h; omega
          · rw [h1] at h; simp [Mem.blk] at h; omega
    · rw [hlg] at x5
      have hfc : framedC c = ([], 42) := by unfold framedC; rw [ha, hlg]; rfl
      have HF := Lib.hid hfc
      clear hfc ha hlg
      go_enter Try.func26, Try.ntmps26
      go_wp2
      go_ret2
      refine ⟨none, 0, ?_, ?_, Mem.From.of_blk (fun k h => by cases h), Below.refl _ _⟩
      · rw [HF.out]; rfl
      · rw [HF.out]; exact own_none
  · rw [ha] at x4
    have hfc : framedC c = ([], 1) := by unfold framedC; rw [ha]; rfl
    have HF := Lib.hid hfc
    clear hfc ha
    go_enter Try.func26, Try.ntmps26
    go_wp2
    go_ret2
    refine ⟨none, 0, ?_, ?_, Mem.From.of_blk (fun k h => by cases h), Below.refl _ _⟩
    · rw [HF.out]; rfl
    · rw [HF.out]; exact own_none
end Go.Proofs.Ytkfgedgjpgehoaa
