/- The walk of the document's body. No conditions but that the bytes are few. -/
import Derived.Test.YtkfgedgjpgehoaaIn3
import Derived.Test.YtkfgedgjpgehoaaWire18
namespace Go.Proofs.Ytkfgedgjpgehoaa
open Go.ChangeShapes Go.WideShapes Go.ChangeAt Go.RowKit
set_option linter.unusedVariables false
set_option linter.unusedSimpArgs false
namespace Wi
def bodyA (bs : List UInt8) : Nat := if bodyC bs = 0 then hdN bs + 6 else 0
def RbEnd (w : World) (A : Option Addr) (cap : Nat) (bs : List UInt8) (x : Ending) (w' : World) : Prop := x = .returned (.tuple #[bodyV A cap bs, .int .i64 (bodyA bs : Nat), .int .i64 (bodyC bs)]) ∧ Mem.Keeps (fun _ => False) w w'
theorem b4_nat (sm : BitVec 32) : ∃ u0 u1 u2 u3 : UInt8, b4 sm = [u0, u1, u2, u3] ∧ (u0.toNat : Int) = Crc.nU sm / 16777216 ∧ (u1.toNat : Int) = Crc.nU sm / 65536 % 256 ∧ (u2.toNat : Int) = Crc.nU sm / 256 % 256 ∧ (u3.toNat : Int) = Crc.nU sm % 256 := by
  have h9 := sm.isLt
  refine ⟨_, _, _, _, rfl, ?_, ?_, ?_, ?_⟩
  all_goals
    unfold Crc.nU
    simp only [ub]
  · rw [show (sm.toNat : Int) / 16777216 = ((sm.toNat / 16777216 : Nat) : Int) % 256 by omega]
    try simp
  all_goals simp
end Wi
theorem results_t3 {P : Program} {w : World} {fn : Func} {p q r : Tmp} {tmps : Array Value} (h : fn.results = #[.tmp p, .tmp q, .tmp r]) :
    (results fn tmps).run P w = .ok (.tuple #[tmps.getD p undef, tmps.getD q undef, tmps.getD r undef]) w := by
  simp [results, h]
open Wi in
set_option maxRecDepth 8000 in
set_option maxHeartbeats 4000000 in
theorem rBody_any {w : World} {A : Option Addr} {cap : Nat} {bs : List UInt8} (hR : Mem.Rd w w.heap.size A (bs.map Mem.byteV)) (hl : bs.length ≤ cap) (hb : bs.length ≤ 1000000000) :
    Calls Try.prog 34 #[.slice A bs.length cap] w (Wi.RbEnd w A cap bs) := by
  have HR := Lib.hid hR
  have HK4 : Hid (Mem.Keeps (fun _ => False) w w) := Mem.Keeps.refl _ _
  clear hR
  go_enter Try.func34, Try.ntmps34
  by_cases h2 : bs.length < 2
  · have hc : bodyC bs = 40 := by unfold bodyC; rw [if_pos (.inl h2)]
    have d1 : decide ((bs.length : Int) < 2) = true := by simp; omega
    clear h2
    have HC := Lib.hid hc
    have hba : bodyA bs = 0 := by unfold bodyA; rw [hc]; rfl
    have HBA := Lib.hid hba
    clear hc hba
    go_wp2
    try go_quiet (fail)
    try go_wp2
    try simp only [Exit.inBlock, Exit.then, Exit.jump]
    refine bodyPost_ret (results_t3 Try.results34) rfl ?_
    refine ⟨by unfold bodyV; rw [HC.out, HBA.out]; rfl, ?_⟩
    first | exact HK4.out | exact HK4.out.drewN _
  · obtain ⟨b, o, rfl, hbb, hcc⟩ := HR.out.at (k := 0) (by simp; omega)
    obtain ⟨b', o', e', _, hc1⟩ := HR.out.at (k := 1) (by simp; omega)
    cases e'
    have d1 : decide ((bs.length : Int) < 2) = false := by simp; omega
    have x0 : w.cell? ⟨b, o, none⟩ = some (.int .u8 ((bs[0]?.getD 0).toNat : Int)) := by rw [List.getElem?_eq_getElem (by omega)]; simpa [Mem.byteV] using hcc
    have x1 : w.cell? ⟨b, o + 1, none⟩ = some (.int .u8 ((bs[1]?.getD 0).toNat : Int)) := by rw [List.getElem?_eq_getElem (by omega)]; simpa [Mem.byteV] using hc1
    obtain ⟨n0, hn0⟩ : ∃ n0, (bs[0]?.getD 0).toNat = n0 := ⟨_, rfl⟩
    obtain ⟨n1, hn1⟩ : ∃ n1, (bs[1]?.getD 0).toNat = n1 := ⟨_, rfl⟩
    rw [hn0] at x0
    rw [hn1] at x1
    have d2 : (0 : Int) < (bs.length : Int) := by omega
    have d3 : (1 : Int) < (bs.length : Int) := by omega
    have hn : hdN bs = n0 * 256 + n1 := by unfold hdN; rw [hn0, hn1]
    have HN := Lib.hid hn
    have hb0 : n0 < 256 := by rw [← hn0]; exact UInt8.toNat_lt _
    have hb1 : n1 < 256 := by rw [← hn1]; exact UInt8.toNat_lt _
    have q1 : IntKind.i64.wrap ((n0 : Int) * 256) = (n0 : Int) * 256 := IntWalk.i64_in _ (by omega)
    have q2 : IntKind.i64.wrap ((n0 : Int) * 256 + (n1 : Int)) = (n0 : Int) * 256 + (n1 : Int) := IntWalk.i64_in _ (by omega)
    clear hcc hc1 hn hn0 hn1
    go_upto_region 3 with fail
    go_quiet (fail)
    obtain ⟨n, hnn⟩ : ∃ n, n0 * 256 + n1 = n := ⟨_, rfl⟩
    have hni : (n0 : Int) * 256 + (n1 : Int) = (n : Int) := by omega
    have hnl : n < 65536 := by omega
    rw [hnn] at HN
    rw [hni]
    obtain ⟨w4, hw4⟩ : ∃ w4, w.drewN nq = w4 := ⟨_, rfl⟩
    have HK4 : Hid (Mem.Keeps (fun _ => False) w w4) := by show Mem.Keeps _ _ _; rw [← hw4]; exact (Mem.Keeps.refl (fun _ => False) w).drewN _
    have HR4 : Hid (Mem.Rd w4 w.heap.size (some ⟨b, o, none⟩) (bs.map Mem.byteV)) := HR.out.below HK4.out.belowAll
    rw [hw4]
    clear hw4 hnn hni hb0 hb1 x0 x1 d1 d2 d3 q1 q2
    by_cases h6 : bs.length < n + 6
    · have hc : bodyC bs = 40 := by unfold bodyC; rw [if_pos (.inr (by rw [HN.out]; exact h6))]
      have d1 : decide ((bs.length : Int) < (n : Int) + 6) = true := by simp; omega
      clear h2 h6
      have HC := Lib.hid hc
      have hba : bodyA bs = 0 := by unfold bodyA; rw [hc]; rfl
      have HBA := Lib.hid hba
      clear hc hba
      go_wp2
      try go_quiet (fail)
      try go_wp2
      try simp only [Exit.inBlock, Exit.then, Exit.jump]
      refine bodyPost_ret (results_t3 Try.results34) rfl ?_
      refine ⟨by unfold bodyV; rw [HC.out, HBA.out]; rfl, ?_⟩
      first | exact HK4.out | exact HK4.out.drewN _
    · have d1 : decide ((bs.length : Int) < (n : Int) + 6) = false := by simp; omega
      obtain ⟨bsn, hbsn⟩ : ∃ bsn, Mem.sub bs 2 n = bsn := ⟨_, rfl⟩
      obtain ⟨sm, hsm⟩ : ∃ sm, Crc.more 0#32 bsn = sm := ⟨_, rfl⟩
      have HSM := Lib.hid hsm
      have HBSN := Lib.hid hbsn
      have hsl : Mem.slc (some ⟨b, o, none⟩) 2 (n + 2) cap = .slice (some ⟨b, o + 2, none⟩) n (cap - 2) := by
        unfold Mem.slc
        rw [if_neg (by omega), Nat.add_sub_cancel]
        simp [Mem.add_flat]
      have HSL := Lib.hid hsl
      have HRs : Hid (Mem.Rd w4 w.heap.size (some ⟨b, o + 2, none⟩) (bsn.map Mem.byteV)) := by
        show Mem.Rd _ _ _ _
        rw [← hbsn]
        refine .inr ⟨b, o + 2, rfl, hbb, fun k v hk => ?_⟩
        obtain ⟨hk1, hk2⟩ := List.getElem?_eq_some_iff.1 hk
        rw [List.length_map, Mem.sub_len (by omega)] at hk1
        have h9 := HR4.out.cells0 (k := 2 + k) (by simp; omega)
        rw [Nat.add_assoc, h9, ← hk2]
        simp [Mem.sub]
      have hbl : Hid (bsn.length = n) := by show _ = _; rw [← hbsn]; exact Mem.sub_len (by omega)
      have hmo := refMore_any 0#32 (some ⟨b, o + 2, none⟩) (cap - 2) bsn w.heap.size w4 HRs.out (by rw [hbl.out]; unfold maxLen; omega)
      rw [HSM.out, hbl.out] at hmo
      have HMO := Lib.hid hmo
      clear hsl hsm hbsn hmo
      go_upto_region 6 with fail
      go_upto_region 7 with (go_at_call 52; refine HMO.out.mono ?_; rintro x3 w3 ⟨rfl, rfl⟩; clear HMO)
      obtain ⟨sn, hsn⟩ : ∃ sn, Crc.nU sm = sn := ⟨_, rfl⟩
      have hsv : Crc.U sm = .int .u32 sn := by rw [← hsn]
      have hslo : 0 ≤ sn := by rw [← hsn]; exact Crc.nU_lo sm
      have hshi : sn ≤ 4294967295 := by rw [← hsn]; exact Crc.nU_hi sm
      obtain ⟨u0, u1, u2, u3, hub, hu0, hu1, hu2, hu3⟩ := b4_nat sm
      rw [hsn] at hu0 hu1 hu2 hu3
      have HUB := Lib.hid hub
      rw [hsv]
      clear hsv hsn hub
      go_upto_region 8 with fail
      rw [show 6 + n - (2 + n) = 4 by omega]
      have hs4l : (Mem.sub bs (n + 2) 4).length = 4 := Mem.sub_len (by omega)
      obtain ⟨c0, c1, c2, c3, hcs⟩ : ∃ c0 c1 c2 c3, Mem.sub bs (n + 2) 4 = [c0, c1, c2, c3] := by
        obtain ⟨z, hz⟩ : ∃ z, Mem.sub bs (n + 2) 4 = z := ⟨_, rfl⟩
        rw [hz] at hs4l ⊢
        match z, hs4l with
        | [c0, c1, c2, c3], _ => exact ⟨_, _, _, _, rfl⟩
      have xc : ∀ (j : Nat) (c : UInt8), [c0, c1, c2, c3][j]? = some c → w4.cell? ⟨b, o + (2 + n) + j, none⟩ = some (.int .u8 (c.toNat : Nat)) := fun j c hj => by
        have h8 : bs[n + 2 + j]? = some c := by
          rw [← hcs] at hj
          unfold Mem.sub at hj
          rw [List.getElem?_take] at hj
          split at hj
          · rw [List.getElem?_drop] at hj; exact hj
          · cases hj
        obtain ⟨h1, h2⟩ := List.getElem?_eq_some_iff.1 h8
        have h9 := HR4.out.cells0 (k := n + 2 + j) (by simp; omega)
        rw [show o + (2 + n) + j = o + (n + 2 + j) by omega, h9, ← h2]
        simp [Mem.byteV]
      have x0 := xc 0 c0 rfl
      have x1 := xc 1 c1 rfl
      have x2 := xc 2 c2 rfl
      have x3 := xc 3 c3 rfl
      rw [Nat.add_zero] at x0
      have HCS := Lib.hid hcs
      have hcode : ∀ d : Int, (if [c0, c1, c2, c3] = [u0, u1, u2, u3] then 0 else 41) = d → bodyC bs = d := fun d hd => by
        rw [← hd]; unfold bodyC
        rw [if_neg (by rw [HN.out]; omega), HN.out, HBSN.out, HSM.out, HUB.out, HCS.out]
      have HCODE := Lib.hid hcode
      have y0 : (c0 = u0 → ((c0.toNat : Int) != sn / 16777216) = false) ∧ (c0 ≠ u0 → ((c0.toNat : Int) != sn / 16777216) = true) := by
        rw [← hu0]; exact ⟨fun h => by simp [h], fun h => by simp; exact fun e => h (UInt8.toNat_inj.1 (Int.ofNat_inj.1 e))⟩
      have y1 : (c1 = u1 → ((c1.toNat : Int) != sn / 65536 % 256) = false) ∧ (c1 ≠ u1 → ((c1.toNat : Int) != sn / 65536 % 256) = true) := by
        rw [← hu1]; exact ⟨fun h => by simp [h], fun h => by simp; exact fun e => h (UInt8.toNat_inj.1 (Int.ofNat_inj.1 e))⟩
      have y2 : (c2 = u2 → ((c2.toNat : Int) != sn / 256 % 256) = false) ∧ (c2 ≠ u2 → ((c2.toNat : Int) != sn / 256 % 256) = true) := by
        rw [← hu2]; exact ⟨fun h => by simp [h], fun h => by simp; exact fun e => h (UInt8.toNat_inj.1 (Int.ofNat_inj.1 e))⟩
      have y3 : (c3 = u3 → ((c3.toNat : Int) != sn % 256) = false) ∧ (c3 ≠ u3 → ((c3.toNat : Int) != sn % 256) = true) := by
        rw [← hu3]; exact ⟨fun h => by simp [h], fun h => by simp; exact fun e => h (UInt8.toNat_inj.1 (Int.ofNat_inj.1 e))⟩
      have Y0 := Lib.hid y0
      have Y1 := Lib.hid y1
      have Y2 := Lib.hid y2
      have Y3 := Lib.hid y3
      obtain ⟨m0, hm0⟩ : ∃ m, c0.toNat = m := ⟨_, rfl⟩
      obtain ⟨m1, hm1⟩ : ∃ m, c1.toNat = m := ⟨_, rfl⟩
      obtain ⟨m2, hm2⟩ : ∃ m, c2.toNat = m := ⟨_, rfl⟩
      obtain ⟨m3, hm3⟩ : ∃ m, c3.toNat = m := ⟨_, rfl⟩
      rw [hm0] at x0 Y0
      rw [hm1] at x1 Y1
      rw [hm2] at x2 Y2
      rw [hm3] at x3 Y3
      clear hs4l hcs xc hcode y0 y1 y2 y3 hu0 hu1 hu2 hu3 hm0 hm1 hm2 hm3 d1
      by_cases e0 : c0 = u0
      case neg =>
        have q0 := Y0.out.2 e0
        have hc : bodyC bs = 41 := HCODE.out 41 (by rw [if_neg (fun h => e0 (by injection h))])
        clear e0
        have HC := Lib.hid hc
        have hba : bodyA bs = 0 := by unfold bodyA; rw [hc]; rfl
        have HBA := Lib.hid hba
        clear hc hba
        go_wp2
        try go_quiet (fail)
        try go_wp2
        try simp only [Exit.inBlock, Exit.then, Exit.jump]
        refine bodyPost_ret (results_t3 Try.results34) rfl ?_
        refine ⟨by unfold bodyV; rw [HC.out, HBA.out]; rfl, ?_⟩
        first | exact HK4.out | exact HK4.out.drewN _
      have q0 := Y0.out.1 e0
      have E0 := Lib.hid e0
      clear e0
      by_cases e1 : c1 = u1
      case neg =>
        have q1 := Y1.out.2 e1
        have hc : bodyC bs = 41 := HCODE.out 41 (by rw [if_neg (fun h => e1 (by injection h with _ h; injection h))])
        clear e1
        have HC := Lib.hid hc
        have hba : bodyA bs = 0 := by unfold bodyA; rw [hc]; rfl
        have HBA := Lib.hid hba
        clear hc hba
        go_wp2
        try go_quiet (fail)
        try go_wp2
        try simp only [Exit.inBlock, Exit.then, Exit.jump]
        refine bodyPost_ret (results_t3 Try.results34) rfl ?_
        refine ⟨by unfold bodyV; rw [HC.out, HBA.out]; rfl, ?_⟩
        first | exact HK4.out | exact HK4.out.drewN _
      have q1 := Y1.out.1 e1
      have E1 := Lib.hid e1
      clear e1
      by_cases e2 : c2 = u2
      case neg =>
        have q2 := Y2.out.2 e2
        have hc : bodyC bs = 41 := HCODE.out 41 (by rw [if_neg (fun h => e2 (by injection h with _ h; injection h with _ h; injection h))])
        clear e2
        have HC := Lib.hid hc
        have hba : bodyA bs = 0 := by unfold bodyA; rw [hc]; rfl
        have HBA := Lib.hid hba
        clear hc hba
        go_wp2
        try go_quiet (fail)
        try go_wp2
        try simp only [Exit.inBlock, Exit.then, Exit.jump]
        refine bodyPost_ret (results_t3 Try.results34) rfl ?_
        refine ⟨by unfold bodyV; rw [HC.out, HBA.out]; rfl, ?_⟩
        first | exact HK4.out | exact HK4.out.drewN _
      have q2 := Y2.out.1 e2
      have E2 := Lib.hid e2
      clear e2
      by_cases e3 : c3 = u3
      case neg =>
        have q3 := Y3.out.2 e3
        have hc : bodyC bs = 41 := HCODE.out 41 (by rw [if_neg (fun h => e3 (by injection h with _ h; injection h with _ h; injection h with _ h; injection h))])
        clear e3
        have HC := Lib.hid hc
        have hba : bodyA bs = 0 := by unfold bodyA; rw [hc]; rfl
        have HBA := Lib.hid hba
        clear hc hba
        go_wp2
        try go_quiet (fail)
        try go_wp2
        try simp only [Exit.inBlock, Exit.then, Exit.jump]
        refine bodyPost_ret (results_t3 Try.results34) rfl ?_
        refine ⟨by unfold bodyV; rw [HC.out, HBA.out]; rfl, ?_⟩
        first | exact HK4.out | exact HK4.out.drewN _
      have q3 := Y3.out.1 e3
      have hc : bodyC bs = 0 := HCODE.out 0 (by rw [if_pos (by rw [E0.out, E1.out, E2.out, e3])])
      have HC := Lib.hid hc
      have hba : bodyA bs = n + 6 := by unfold bodyA; rw [hc, HN.out]; rfl
      have HBA := Lib.hid hba
      clear hc hba e3
      go_wp2
      try simp only [Exit.inBlock, Exit.then, Exit.jump]
      refine bodyPost_ret (results_t3 Try.results34) rfl ?_
      refine ⟨by unfold bodyV; rw [HC.out, if_pos rfl, HN.out, HSL.out, HBA.out, show 2 + n - 2 = n by omega]; rfl, ?_⟩
      first | exact HK4.out | exact HK4.out.drewN _
end Go.Proofs.Ytkfgedgjpgehoaa
