/- The walk of message, both ways. No conditions but that the bytes are few. -/
import Derived.Test.YtkfgedgjpgehoaaWire14
import Derived.Deep.DeepCutAuto
import Derived.Deep.CutBlock
namespace Go.Proofs.Ytkfgedgjpgehoaa
open Go.ChangeShapes Go.WideShapes Go.ChangeAt Go.RowKit
set_option linter.unusedVariables false
set_option linter.unusedSimpArgs false
namespace Wi
def msgK : List Cells.Kd := [.i] ++ [.i, .i, .i, .i] ++ [.i, .i, .i, .i] ++ [.i, .i, .i, .i, .i] ++ chainKd ++ entryK ++ [.b, .s, .s, .b, .b] ++ [.i, .i, .i, .i, .i, .i, .i, .i, .i] ++ [.i, .i, .i, .i, .i, .i, .i, .i, .i] ++ [.i, .i, .i] ++ [.i]
def msgM : List Mo := [.n 0, .k 0 1 14] ++ ns 1 4 ++ ns 5 4 ++ ns 9 5 ++ chainM 14 ++ writeM 27 ++ [.b 47, .t 48 16, .t 49 32, .b 50, .b 51] ++ ns 52 9 ++ ns 61 9 ++ ns 70 3 ++ [.n 73]
theorem foldR_5 (r : Cd × List Value) (off : Nat) : foldR r off 5 = [off, off + 1, off + 2, off + 3, off + 4].foldl stepN r := rfl
theorem foldR_3 (r : Cd × List Value) (off : Nat) : foldR r off 3 = [off, off + 1, off + 2].foldl stepN r := rfl
theorem writeM_len (off : Nat) : (writeM off).length = 20 := by simp [writeM, ns]
theorem chainM_len (off : Nat) : (chainM off).length = 13 := by simp [chainM, ns]
structure MsRel (w0 : World) (g : Nat) (A : Option Addr) (t : TypeId) (gm : Nat) (r1 : Cd × List Value) (wx : World) : Prop where
  out : Pass w0 g A t 74 gm r1 wx
end Wi
open Wi in
set_option maxRecDepth 100000 in
set_option maxHeartbeats 8000000 in
theorem message_pass {w w0 : World} {g : Nat} {A : Option Addr} {t : TypeId} {gm : Nat} {r : Wi.Cd × List Value} {L : Nat} (h : Wi.Pass w0 g A t 74 gm r w) (hs : Wi.Sz Wi.msgK r L) (hL : L + 8000000 ≤ 1000000000) (hg : gm ≠ g) (ha : Mem.blk A ≠ some gm) (hgw : gm < w0.heap.size) :
    Calls Try.prog 38 #[.pointer (some ⟨g, 0, none⟩), .pointer (some ⟨gm, 0, none⟩)] w fun x w' => x = .returned (.tuple #[]) ∧ Wi.Pass w0 g A t 74 gm (Wi.runM Wi.msgM r) w' := by
  have HP := Lib.hid h
  have HA := Lib.hid ha
  have H0 := Lib.hid (fun (wz : World) (hz : Pass w0 g A t 74 gm r wz) => Pass.number (k := 0) hz hs.fit (by omega) (hs.int rfl) hg ha hgw)
  have s0 := hs.step (.n 0)
  rw [stepM_n] at s0
  obtain ⟨r0, hr0⟩ : ∃ r0 : Cd × List Value, stepN r 0 = r0 := ⟨_, rfl⟩
  rw [hr0] at s0
  obtain ⟨k0, hk0⟩ := s0.int (k := 0) rfl
  have s1 := s0.step (.k 0 1 14)
  rw [stepM_k] at s1
  have e1 : stepK r0 0 1 14 = ({ r0.1 with arg := r0.1.arg || (decide (k0 < 1) || decide (14 < k0)) }, r0.2) := by unfold stepK; rw [hk0]
  obtain ⟨r1, hr1⟩ : ∃ r1 : Cd × List Value, stepK r0 0 1 14 = r1 := ⟨_, rfl⟩
  rw [hr1] at s1 e1
  have H2 := Lib.hid (fun (wz : World) (hz : Pass w0 g A t 74 gm r1 wz) => address_pass (off := 1) hz s1.fit (by omega) (s1.ints (by decide)) hg ha hgw)
  have s2 := s1.runN (ns 1 4) 400036 (by rw [ns_len]; omega)
  rw [runM_ns] at s2
  obtain ⟨r2, hr2⟩ : ∃ r2 : Cd × List Value, foldR r1 1 4 = r2 := ⟨_, rfl⟩
  rw [hr2] at s2 H2
  have H3 := Lib.hid (fun (wz : World) (hz : Pass w0 g A t 74 gm r2 wz) => address_pass (off := 5) hz s2.fit (by omega) (s2.ints (by decide)) hg ha hgw)
  have s3 := s2.runN (ns 5 4) 400036 (by rw [ns_len]; omega)
  rw [runM_ns] at s3
  obtain ⟨r3, hr3⟩ : ∃ r3 : Cd × List Value, foldR r2 5 4 = r3 := ⟨_, rfl⟩
  rw [hr3] at s3 H3
  have HS3 := Lib.hid s3
  have s4 := s3.runN (ns 9 5) 500045 (by rw [ns_len]; omega)
  rw [runM_ns] at s4
  obtain ⟨r4, hr4⟩ : ∃ r4 : Cd × List Value, foldR r3 9 5 = r4 := ⟨_, rfl⟩
  rw [hr4] at s4
  have H5 := Lib.hid (fun (wz : World) (hz : Pass w0 g A t 74 gm r4 wz) => chain_pass (off := 14) hz s4.fit (by omega) (s4.chain (by unfold At; decide)) hg ha hgw)
  have s5 := s4.runN (chainM 14) 1300117 (by rw [chainM_len]; omega)
  rw [runM_chain] at s5
  obtain ⟨r5, hr5⟩ : ∃ r5 : Cd × List Value, chainK r4 14 = r5 := ⟨_, rfl⟩
  rw [hr5] at s5 H5
  have H6 := Lib.hid (fun (wz : World) (hz : Pass w0 g A t 74 gm r5 wz) => write_passM (off := 27) hz s5 (by omega) (by unfold At; decide) hg ha hgw)
  have s6 := s5.runN (writeM 27) 2000180 (by rw [writeM_len]; omega)
  obtain ⟨r6, hr6⟩ : ∃ r6 : Cd × List Value, runM (writeM 27) r5 = r6 := ⟨_, rfl⟩
  rw [hr6] at s6 H6
  have H7 := Lib.hid (fun (wz : World) (hz : Pass w0 g A t 74 gm r6 wz) => Pass.truth (k := 47) hz s6.fit (by omega) (s6.bool rfl) hg ha hgw)
  have s7 := s6.step (.b 47)
  rw [stepM_b] at s7
  obtain ⟨r7, hr7⟩ : ∃ r7 : Cd × List Value, stepB r6 47 = r7 := ⟨_, rfl⟩
  rw [hr7] at s7 H7
  have H8 := Lib.hid (fun (wz : World) (hz : Pass w0 g A t 74 gm r7 wz) => Pass.textM (k := 48) 16 hz s7 (by omega) rfl hg ha hgw)
  have s8 := s7.step (.t 48 16)
  rw [stepM_t] at s8
  obtain ⟨r8, hr8⟩ : ∃ r8 : Cd × List Value, stepTx r7 48 16 = r8 := ⟨_, rfl⟩
  rw [hr8] at s8 H8
  have H9 := Lib.hid (fun (wz : World) (hz : Pass w0 g A t 74 gm r8 wz) => Pass.textM (k := 49) 32 hz s8 (by omega) rfl hg ha hgw)
  have s9 := s8.step (.t 49 32)
  rw [stepM_t] at s9
  obtain ⟨r9, hr9⟩ : ∃ r9 : Cd × List Value, stepTx r8 49 32 = r9 := ⟨_, rfl⟩
  rw [hr9] at s9 H9
  have H10 := Lib.hid (fun (wz : World) (hz : Pass w0 g A t 74 gm r9 wz) => Pass.truth (k := 50) hz s9.fit (by omega) (s9.bool rfl) hg ha hgw)
  have s10 := s9.step (.b 50)
  rw [stepM_b] at s10
  obtain ⟨r10, hr10⟩ : ∃ r10 : Cd × List Value, stepB r9 50 = r10 := ⟨_, rfl⟩
  rw [hr10] at s10 H10
  have H11 := Lib.hid (fun (wz : World) (hz : Pass w0 g A t 74 gm r10 wz) => Pass.truth (k := 51) hz s10.fit (by omega) (s10.bool rfl) hg ha hgw)
  have s11 := s10.step (.b 51)
  rw [stepM_b] at s11
  obtain ⟨r11, hr11⟩ : ∃ r11 : Cd × List Value, stepB r10 51 = r11 := ⟨_, rfl⟩
  rw [hr11] at s11 H11
  have H12 := Lib.hid (fun (wz : World) (hz : Pass w0 g A t 74 gm r11 wz) => vector_pass (off := 52) hz s11.fit (by omega) (s11.ints (by decide)) hg ha hgw)
  have s12 := s11.runN (ns 52 9) 900081 (by rw [ns_len]; omega)
  rw [runM_ns] at s12
  obtain ⟨r12, hr12⟩ : ∃ r12 : Cd × List Value, foldR r11 52 9 = r12 := ⟨_, rfl⟩
  rw [hr12] at s12 H12
  have H13 := Lib.hid (fun (wz : World) (hz : Pass w0 g A t 74 gm r12 wz) => vector_pass (off := 61) hz s12.fit (by omega) (s12.ints (by decide)) hg ha hgw)
  have s13 := s12.runN (ns 61 9) 900081 (by rw [ns_len]; omega)
  rw [runM_ns] at s13
  obtain ⟨r13, hr13⟩ : ∃ r13 : Cd × List Value, foldR r12 61 9 = r13 := ⟨_, rfl⟩
  rw [hr13] at s13 H13
  have HS13 := Lib.hid s13
  have s14 := s13.runN (ns 70 3) 300027 (by rw [ns_len]; omega)
  rw [runM_ns] at s14
  obtain ⟨r14, hr14⟩ : ∃ r14 : Cd × List Value, foldR r13 70 3 = r14 := ⟨_, rfl⟩
  rw [hr14] at s14
  have HS14 := Lib.hid s14
  have HE := Lib.hid (show runM msgM r = stepN r14 73 by
    unfold msgM
    simp only [runM_app, runM_cons, runM_nil, runM_ns, runM_chain, stepM_n, stepM_b, stepM_t, stepM_k, hr0, hr1, hr2, hr3, hr4, hr5, hr6, hr7, hr8, hr9, hr10, hr11, hr12, hr13, hr14])
  rw [hr0] at H0
  have HS0 := Lib.hid s0
  have HK0 := Lib.hid hk0
  have HE1 := Lib.hid e1
  clear hr0 hr1 hr2 hr3 hr5 hr6 hr7 hr8 hr9 hr10 hr11 hr12 hr13 s0 s1 s2 s3 s4 s5 s6 s7 s8 s9 s10 s11 s12 s13 s14 h hs ha hk0 e1
  go_enter Try.func38, Try.ntmps38
  go_upto_region 1 with (go_at_call 45; refine (H0.out w HP.out).mono ?_; rintro x9 wa ⟨rfl, hp⟩; have HPa := Lib.hid hp; clear hp HP H0)
  obtain ⟨A2, cap2, h1, h2, h3, h4⟩ := HPa.out.out
  have y1 := h2.cell HK0.out
  have y4 : wa.cell? ⟨g, 4, none⟩ = some (.bool r0.1.arg) := h1.B.cell (j := 4) rfl
  have yf := h1.B.fr
  clear h1 h2 h3 h4
  have HPA := Lib.hid (fun b => HPa.out.arg hg b)
  clear HPa
  go_upto_region 1 with fail
  go_cut [] (fun wx => MsRel w0 g A t gm r1 wx)
  case first =>
    cases harg : r0.1.arg
    · rw [harg] at y4 HE1
      by_cases hlo : k0 < 1
      · have d1 : decide (k0 < 1) = true := by simpa using hlo
        have HP1 : Hid (MsRel w0 g A t gm r1 (wa.setCell ⟨g, 4, none⟩ (.bool true))) := by
          have := HPA.out true
          refine ⟨?_⟩
          rw [HE1.out, d1]
          exact this
        clear HPA HE1 HK0 HS0 hlo harg
        go_wp2
        go_meet
        case rel => exact HP1.out
      · have d1 : decide (k0 < 1) = false := by simpa using hlo
        have HP1 : Hid (MsRel w0 g A t gm r1 (wa.setCell ⟨g, 4, none⟩ (.bool (decide (14 < k0))))) := by
          have := HPA.out (decide (14 < k0))
          refine ⟨?_⟩
          rw [HE1.out, d1]
          exact this
        clear HPA HE1 HK0 HS0 hlo harg
        go_wp2
        go_meet
        case rel => exact HP1.out
    · rw [harg] at y4 HE1
      have HP1 : Hid (MsRel w0 g A t gm r1 (wa.setCell ⟨g, 4, none⟩ (.bool true))) := by
        have := HPA.out true
        refine ⟨?_⟩
        rw [HE1.out]
        exact this
      clear HPA HE1 HK0 HS0 harg
      go_wp2
      go_meet
      case rel => exact HP1.out
  case rest =>
    have HP1 : Hid (Pass w0 g A t 74 gm r1 wc) := hcut.out
    clear hcut HPA HE1 HK0 HS0 y1 y4 yf
    obtain ⟨w1, hw1⟩ : ∃ w1, w1 = wc := ⟨_, rfl⟩
    subst hw1
    go_upto_region 3 with (go_at_call 55; refine (H2.out w1 HP1.out).mono ?_; rintro x9 w2 ⟨rfl, hp⟩; have HP2 := Lib.hid hp; clear hp HP1 H2)
    go_upto_region 4 with (go_at_call 55; refine (H3.out w2 HP2.out).mono ?_; rintro x9 w3 ⟨rfl, hp⟩; have HP3 := Lib.hid hp; clear hp HP2 H3)
    refine Reg.wp_region_w (by kernel_rfl) 129 18 rfl rfl (by kernel_rfl) (17) (fun _ => True) (17) (fun _ => False) (17) (fun _ => False)
      (fun i v u => match i with
        | 0 => v = .pointer (some ⟨g, 0, none⟩)
        | 1 => v = .pointer (some ⟨gm, 0, none⟩)
        | 2 => v = .pointer (some ⟨gm, 0, none⟩)
        | 3 => v = .pointer (some ⟨gm, 9, none⟩)
        | 4 => v = .pointer (some ⟨gm, 0, none⟩)
        | 5 => v = .pointer (some ⟨gm, 0, none⟩)
        | 6 => v = .pointer (some ⟨gm, 10, none⟩)
        | 7 => v = .pointer (some ⟨gm, 0, none⟩)
        | 8 => v = .pointer (some ⟨gm, 0, none⟩)
        | 9 => v = .pointer (some ⟨gm, 11, none⟩)
        | 10 => v = .pointer (some ⟨gm, 0, none⟩)
        | 11 => v = .pointer (some ⟨gm, 0, none⟩)
        | 12 => v = .pointer (some ⟨gm, 12, none⟩)
        | 13 => v = .pointer (some ⟨gm, 0, none⟩)
        | 14 => v = .pointer (some ⟨gm, 0, none⟩)
        | 15 => v = .pointer (some ⟨gm, 13, none⟩)
        | 16 => ∃ s, v = .slice (some ⟨s, 0, none⟩) 5 5 ∧ w3.heap.size ≤ s ∧ s + 1 ≤ u.heap.size ∧ Mem.Rd u (s + 1) (some ⟨s, 0, none⟩) [ptrV gm 9, ptrV gm 10, ptrV gm 11, ptrV gm 12, ptrV gm 13]
        | 17 => v = .tuple #[] ∧ Pass w0 g A t 74 gm ([9, 10, 11, 12, 13].foldl stepN r3) u
        | _ => True) ?_ ?_
    · refine Reg.Steps.cons ?_ (Reg.Steps.cons ?_ (Reg.Steps.cons ?_ (Reg.Steps.cons ?_ (Reg.Steps.cons ?_ (Reg.Steps.cons ?_ (Reg.Steps.cons ?_ (Reg.Steps.cons ?_ (Reg.Steps.cons ?_ (Reg.Steps.cons ?_ (Reg.Steps.cons ?_ (Reg.Steps.cons ?_ (Reg.Steps.cons ?_ (Reg.Steps.cons ?_ (Reg.Steps.cons ?_ (Reg.Steps.cons ?_ (Reg.Steps.cons ?_ (Reg.Steps.cons ?_ (Reg.Steps.nil _))))))))))))))))))
      · intro val ac u hR hp ha K hK      -- 0: t41 := Op.move t0
        have e0 : (ac.tmps[0]?).getD undef = .pointer (some ⟨g, 0, none⟩) := ha 0 (by decide)
        clear ha hp
        refine Reg.Op1.plain rfl ?_
        go_wp2
        exact ⟨rfl, hK _ _ rfl (Reg.Wr.same _)⟩
      · intro val ac u hR hp ha K hK      -- 1: t42 := Op.move t1
        have e1 : (ac.tmps[1]?).getD undef = .pointer (some ⟨gm, 0, none⟩) := ha 1 (by decide)
        clear ha hp
        refine Reg.Op1.plain rfl ?_
        go_wp2
        exact ⟨rfl, hK _ _ rfl (Reg.Wr.same _)⟩
      · intro val ac u hR hp ha K hK      -- 2: t43 := Op.nilCheck t42
        obtain ⟨w42, h42, r42⟩ := hp 1 (by decide)
        have e42 : (ac.tmps[42]?).getD undef = .pointer (some ⟨gm, 0, none⟩) := (ha 42 (by decide)).trans h42
        clear h42
        clear ha hp
        refine Reg.Op1.plain rfl ?_
        go_wp2
        exact ⟨rfl, hK _ _ rfl (Reg.Wr.same _)⟩
      · intro val ac u hR hp ha K hK      -- 3: t44 := Op.fieldAddr 55 t43 3
        obtain ⟨w43, h43, r43⟩ := hp 2 (by decide)
        have e43 : (ac.tmps[43]?).getD undef = .pointer (some ⟨gm, 0, none⟩) := (ha 43 (by decide)).trans h43
        clear h43
        clear ha hp
        refine Reg.Op1.plain rfl ?_
        go_wp2
        exact ⟨rfl, hK _ _ rfl (Reg.Wr.same _)⟩
      · intro val ac u hR hp ha K hK      -- 4: t45 := Op.move t1
        have e1 : (ac.tmps[1]?).getD undef = .pointer (some ⟨gm, 0, none⟩) := ha 1 (by decide)
        clear ha hp
        refine Reg.Op1.plain rfl ?_
        go_wp2
        exact ⟨rfl, hK _ _ rfl (Reg.Wr.same _)⟩
      · intro val ac u hR hp ha K hK      -- 5: t46 := Op.nilCheck t45
        obtain ⟨w45, h45, r45⟩ := hp 4 (by decide)
        have e45 : (ac.tmps[45]?).getD undef = .pointer (some ⟨gm, 0, none⟩) := (ha 45 (by decide)).trans h45
        clear h45
        clear ha hp
        refine Reg.Op1.plain rfl ?_
        go_wp2
        exact ⟨rfl, hK _ _ rfl (Reg.Wr.same _)⟩
      · intro val ac u hR hp ha K hK      -- 6: t47 := Op.fieldAddr 55 t46 4
        obtain ⟨w46, h46, r46⟩ := hp 5 (by decide)
        have e46 : (ac.tmps[46]?).getD undef = .pointer (some ⟨gm, 0, none⟩) := (ha 46 (by decide)).trans h46
        clear h46
        clear ha hp
        refine Reg.Op1.plain rfl ?_
        go_wp2
        exact ⟨rfl, hK _ _ rfl (Reg.Wr.same _)⟩
      · intro val ac u hR hp ha K hK      -- 7: t48 := Op.move t1
        have e1 : (ac.tmps[1]?).getD undef = .pointer (some ⟨gm, 0, none⟩) := ha 1 (by decide)
        clear ha hp
        refine Reg.Op1.plain rfl ?_
        go_wp2
        exact ⟨rfl, hK _ _ rfl (Reg.Wr.same _)⟩
      · intro val ac u hR hp ha K hK      -- 8: t49 := Op.nilCheck t48
        obtain ⟨w48, h48, r48⟩ := hp 7 (by decide)
        have e48 : (ac.tmps[48]?).getD undef = .pointer (some ⟨gm, 0, none⟩) := (ha 48 (by decide)).trans h48
        clear h48
        clear ha hp
        refine Reg.Op1.plain rfl ?_
        go_wp2
        exact ⟨rfl, hK _ _ rfl (Reg.Wr.same _)⟩
      · intro val ac u hR hp ha K hK      -- 9: t50 := Op.fieldAddr 55 t49 5
        obtain ⟨w49, h49, r49⟩ := hp 8 (by decide)
        have e49 : (ac.tmps[49]?).getD undef = .pointer (some ⟨gm, 0, none⟩) := (ha 49 (by decide)).trans h49
        clear h49
        clear ha hp
        refine Reg.Op1.plain rfl ?_
        go_wp2
        exact ⟨rfl, hK _ _ rfl (Reg.Wr.same _)⟩
      · intro val ac u hR hp ha K hK      -- 10: t51 := Op.move t1
        have e1 : (ac.tmps[1]?).getD undef = .pointer (some ⟨gm, 0, none⟩) := ha 1 (by decide)
        clear ha hp
        refine Reg.Op1.plain rfl ?_
        go_wp2
        exact ⟨rfl, hK _ _ rfl (Reg.Wr.same _)⟩
      · intro val ac u hR hp ha K hK      -- 11: t52 := Op.nilCheck t51
        obtain ⟨w51, h51, r51⟩ := hp 10 (by decide)
        have e51 : (ac.tmps[51]?).getD undef = .pointer (some ⟨gm, 0, none⟩) := (ha 51 (by decide)).trans h51
        clear h51
        clear ha hp
        refine Reg.Op1.plain rfl ?_
        go_wp2
        exact ⟨rfl, hK _ _ rfl (Reg.Wr.same _)⟩
      · intro val ac u hR hp ha K hK      -- 12: t53 := Op.fieldAddr 55 t52 6
        obtain ⟨w52, h52, r52⟩ := hp 11 (by decide)
        have e52 : (ac.tmps[52]?).getD undef = .pointer (some ⟨gm, 0, none⟩) := (ha 52 (by decide)).trans h52
        clear h52
        clear ha hp
        refine Reg.Op1.plain rfl ?_
        go_wp2
        exact ⟨rfl, hK _ _ rfl (Reg.Wr.same _)⟩
      · intro val ac u hR hp ha K hK      -- 13: t54 := Op.move t1
        have e1 : (ac.tmps[1]?).getD undef = .pointer (some ⟨gm, 0, none⟩) := ha 1 (by decide)
        clear ha hp
        refine Reg.Op1.plain rfl ?_
        go_wp2
        exact ⟨rfl, hK _ _ rfl (Reg.Wr.same _)⟩
      · intro val ac u hR hp ha K hK      -- 14: t55 := Op.nilCheck t54
        obtain ⟨w54, h54, r54⟩ := hp 13 (by decide)
        have e54 : (ac.tmps[54]?).getD undef = .pointer (some ⟨gm, 0, none⟩) := (ha 54 (by decide)).trans h54
        clear h54
        clear ha hp
        refine Reg.Op1.plain rfl ?_
        go_wp2
        exact ⟨rfl, hK _ _ rfl (Reg.Wr.same _)⟩
      · intro val ac u hR hp ha K hK      -- 15: t56 := Op.fieldAddr 55 t55 7
        obtain ⟨w55, h55, r55⟩ := hp 14 (by decide)
        have e55 : (ac.tmps[55]?).getD undef = .pointer (some ⟨gm, 0, none⟩) := (ha 55 (by decide)).trans h55
        clear h55
        clear ha hp
        refine Reg.Op1.plain rfl ?_
        go_wp2
        exact ⟨rfl, hK _ _ rfl (Reg.Wr.same _)⟩
      · intro val ac u hR hp ha K hK      -- 16: t57 := Op.buildSlice 127 5 #[(0, t44), (1, t47), (2, t50), (3, t53), (4, t56)]
        obtain ⟨w44, h44, r44⟩ := hp 3 (by decide)
        have e44 : (ac.tmps[44]?).getD undef = .pointer (some ⟨gm, 9, none⟩) := (ha 44 (by decide)).trans h44
        clear h44
        obtain ⟨w47, h47, r47⟩ := hp 6 (by decide)
        have e47 : (ac.tmps[47]?).getD undef = .pointer (some ⟨gm, 10, none⟩) := (ha 47 (by decide)).trans h47
        clear h47
        obtain ⟨w50, h50, r50⟩ := hp 9 (by decide)
        have e50 : (ac.tmps[50]?).getD undef = .pointer (some ⟨gm, 11, none⟩) := (ha 50 (by decide)).trans h50
        clear h50
        obtain ⟨w53, h53, r53⟩ := hp 12 (by decide)
        have e53 : (ac.tmps[53]?).getD undef = .pointer (some ⟨gm, 12, none⟩) := (ha 53 (by decide)).trans h53
        clear h53
        obtain ⟨w56, h56, r56⟩ := hp 15 (by decide)
        have e56 : (ac.tmps[56]?).getD undef = .pointer (some ⟨gm, 13, none⟩) := (ha 56 (by decide)).trans h56
        clear h56
        clear ha hp
        refine Reg.Op1.plain rfl ?_
        have hq := (Mem.Keeps.refl (fun _ => False) w3).drew.trans (Reg.Wr.none hR (by decide +kernel) (by decide +kernel) (by decide +kernel)) (fun _ h _ => h)
        go_wp2
        exact ⟨rfl, hK _ _ ⟨u.heap.size, rfl, hq.size, by simp, Mem.Rd.alloc_new u _ _ _ rfl⟩ (Reg.Wr.quiet ((Mem.Keeps.refl _ u).alloc _))⟩
      · intro val ac u hR hp ha K hK      -- 17: t58 := Op.call { value (Operand.func 56), args := #[t41, t57], argTypes := #[65, 127] }
        obtain ⟨w41, h41, r41⟩ := hp 0 (by decide)
        have e41 : (ac.tmps[41]?).getD undef = .pointer (some ⟨g, 0, none⟩) := (ha 41 (by decide)).trans h41
        clear h41
        obtain ⟨w57, h57, r57⟩ := hp 16 (by decide)
        have e57 : (ac.tmps[57]?).getD undef = val 16 := ha 57 (by decide)
        clear ha hp
        refine Reg.Op1.plain rfl ?_
        obtain ⟨s, hv, hs, hsz, hrd⟩ := h57
        rw [hv] at e57
        have hq := (Mem.Keeps.refl (fun _ => False) w3).drew.trans (Reg.Wr.none hR (by decide +kernel) (by decide +kernel) (by decide +kernel)) (fun _ h _ => h)
        have hrd' := hrd.keepsAt (Reg.Wr.none r57 (by decide +kernel) (by decide +kernel) (by decide +kernel)) hsz (fun _ _ h => h)
        have hn := Pass.numbers HP3.out hq hs [9, 10, 11, 12, 13] 5 HS3.out.fit (by show _ + 9 * 5 ≤ _; omega) (fun k hk => HS3.out.int (by simp at hk; rcases hk with h | h | h | h | h <;> rw [h] <;> rfl)) hg HA.out hgw hrd'
        go_wp2_with fail
        refine hn.mono ?_
        rintro x w' ⟨rfl, hp, hk9⟩
        go_wp2_with fail
        exact ⟨rfl, hK _ _ ⟨rfl, hp⟩ (Reg.Wr.does1 hk9)⟩
    · intro val u hR H
      obtain ⟨wb, ⟨hv8, hp⟩, rb⟩ := H 17 (by decide)
      have hk9 := Reg.Wr.none rb (by decide +kernel) (by decide +kernel) (by decide +kernel)
      have HP4 : Hid (Pass w0 g A t 74 gm r4 u) := by
        rw [foldR_5] at hr4
        show Pass _ _ _ _ _ _ _ _
        rw [← hr4]
        obtain ⟨A2, cap2, h1, h2, h3, h4⟩ := hp.out
        exact ⟨⟨A2, cap2, h1.keeps hk9 (fun _ _ h => h), h2.keeps hk9 id, h3.trans hk9 (fun _ h _ => h.elim), h4⟩, fun hr => (hp.rd hr).trans hk9 (fun _ h _ => h.elim)⟩
      simp only [List.map_cons, List.map_nil, Reg.lay, Act.put, List.setIfInBounds_toArray, List.set_cons_succ, List.set_cons_zero, Nat.reduceAdd]
      clear hR H rb hp hk9 hv8 HP3 hr4
      obtain ⟨w4, hw4⟩ : ∃ w4, w4 = u := ⟨_, rfl⟩
      subst hw4
      go_upto_region 6 with (go_at_call 47; refine (H5.out w4 HP4.out).mono ?_; rintro x9 w5 ⟨rfl, hp⟩; have HP5 := Lib.hid hp; clear hp HP4 H5)
      go_upto_region 7 with (go_at_call 46; refine (H6.out w5 HP5.out).mono ?_; rintro x9 w6 ⟨rfl, hp⟩; have HP6 := Lib.hid hp; clear hp HP5 H6)
      go_upto_region 8 with (go_at_call 57; refine (H7.out w6 HP6.out).mono ?_; rintro x9 w7 ⟨rfl, hp⟩; have HP7 := Lib.hid hp; clear hp HP6 H7)
      go_upto_region 9 with (go_at_call 58; refine (H8.out w7 HP7.out).mono ?_; rintro x9 w8 ⟨rfl, hp⟩; have HP8 := Lib.hid hp; clear hp HP7 H8)
      go_upto_region 10 with (go_at_call 58; refine (H9.out w8 HP8.out).mono ?_; rintro x9 w9 ⟨rfl, hp⟩; have HP9 := Lib.hid hp; clear hp HP8 H9)
      go_upto_region 11 with (go_at_call 57; refine (H10.out w9 HP9.out).mono ?_; rintro x9 w10 ⟨rfl, hp⟩; have HP10 := Lib.hid hp; clear hp HP9 H10)
      go_upto_region 12 with (go_at_call 57; refine (H11.out w10 HP10.out).mono ?_; rintro x9 w11 ⟨rfl, hp⟩; have HP11 := Lib.hid hp; clear hp HP10 H11)
      go_upto_region 13 with (go_at_call 59; refine (H12.out w11 HP11.out).mono ?_; rintro x9 w12 ⟨rfl, hp⟩; have HP12 := Lib.hid hp; clear hp HP11 H12)
      go_upto_region 14 with (go_at_call 59; refine (H13.out w12 HP12.out).mono ?_; rintro x9 w13 ⟨rfl, hp⟩; have HP13 := Lib.hid hp; clear hp HP12 H13)
      refine Reg.wp_region_w (by kernel_rfl) 129 15 rfl rfl (by kernel_rfl) (14) (fun _ => True) (14) (fun _ => False) (14) (fun _ => False)
        (fun i v u => match i with
          | 0 => v = .pointer (some ⟨g, 0, none⟩)
          | 1 => v = .pointer (some ⟨gm, 0, none⟩)
          | 2 => v = .pointer (some ⟨gm, 0, none⟩)
          | 3 => v = .pointer (some ⟨gm, 70, none⟩)
          | 4 => v = .pointer (some ⟨gm, 70, none⟩)
          | 5 => v = .pointer (some ⟨gm, 0, none⟩)
          | 6 => v = .pointer (some ⟨gm, 0, none⟩)
          | 7 => v = .pointer (some ⟨gm, 70, none⟩)
          | 8 => v = .pointer (some ⟨gm, 71, none⟩)
          | 9 => v = .pointer (some ⟨gm, 0, none⟩)
          | 10 => v = .pointer (some ⟨gm, 0, none⟩)
          | 11 => v = .pointer (some ⟨gm, 70, none⟩)
          | 12 => v = .pointer (some ⟨gm, 72, none⟩)
          | 13 => ∃ s, v = .slice (some ⟨s, 0, none⟩) 3 3 ∧ w13.heap.size ≤ s ∧ s + 1 ≤ u.heap.size ∧ Mem.Rd u (s + 1) (some ⟨s, 0, none⟩) [ptrV gm 70, ptrV gm 71, ptrV gm 72]
          | 14 => v = .tuple #[] ∧ Pass w0 g A t 74 gm ([70, 71, 72].foldl stepN r13) u
          | _ => True) ?_ ?_
      · refine Reg.Steps.cons ?_ (Reg.Steps.cons ?_ (Reg.Steps.cons ?_ (Reg.Steps.cons ?_ (Reg.Steps.cons ?_ (Reg.Steps.cons ?_ (Reg.Steps.cons ?_ (Reg.Steps.cons ?_ (Reg.Steps.cons ?_ (Reg.Steps.cons ?_ (Reg.Steps.cons ?_ (Reg.Steps.cons ?_ (Reg.Steps.cons ?_ (Reg.Steps.cons ?_ (Reg.Steps.cons ?_ (Reg.Steps.nil _)))))))))))))))
        · intro val ac u hR hp ha K hK      -- 0: t104 := Op.move t0
          have e0 : (ac.tmps[0]?).getD undef = .pointer (some ⟨g, 0, none⟩) := ha 0 (by decide)
          clear ha hp
          refine Reg.Op1.plain rfl ?_
          go_wp2
          exact ⟨rfl, hK _ _ rfl (Reg.Wr.same _)⟩
        · intro val ac u hR hp ha K hK      -- 1: t105 := Op.move t1
          have e1 : (ac.tmps[1]?).getD undef = .pointer (some ⟨gm, 0, none⟩) := ha 1 (by decide)
          clear ha hp
          refine Reg.Op1.plain rfl ?_
          go_wp2
          exact ⟨rfl, hK _ _ rfl (Reg.Wr.same _)⟩
        · intro val ac u hR hp ha K hK      -- 2: t106 := Op.nilCheck t105
          obtain ⟨w105, h105, r105⟩ := hp 1 (by decide)
          have e105 : (ac.tmps[105]?).getD undef = .pointer (some ⟨gm, 0, none⟩) := (ha 105 (by decide)).trans h105
          clear h105
          clear ha hp
          refine Reg.Op1.plain rfl ?_
          go_wp2
          exact ⟨rfl, hK _ _ rfl (Reg.Wr.same _)⟩
        · intro val ac u hR hp ha K hK      -- 3: t107 := Op.fieldAddr 55 t106 17
          obtain ⟨w106, h106, r106⟩ := hp 2 (by decide)
          have e106 : (ac.tmps[106]?).getD undef = .pointer (some ⟨gm, 0, none⟩) := (ha 106 (by decide)).trans h106
          clear h106
          clear ha hp
          refine Reg.Op1.plain rfl ?_
          go_wp2
          exact ⟨rfl, hK _ _ rfl (Reg.Wr.same _)⟩
        · intro val ac u hR hp ha K hK      -- 4: t108 := Op.indexAddr 53 t107 (const (0:i64))
          obtain ⟨w107, h107, r107⟩ := hp 3 (by decide)
          have e107 : (ac.tmps[107]?).getD undef = .pointer (some ⟨gm, 70, none⟩) := (ha 107 (by decide)).trans h107
          clear h107
          clear ha hp
          refine Reg.Op1.plain rfl ?_
          go_wp2
          exact ⟨rfl, hK _ _ rfl (Reg.Wr.same _)⟩
        · intro val ac u hR hp ha K hK      -- 5: t109 := Op.move t1
          have e1 : (ac.tmps[1]?).getD undef = .pointer (some ⟨gm, 0, none⟩) := ha 1 (by decide)
          clear ha hp
          refine Reg.Op1.plain rfl ?_
          go_wp2
          exact ⟨rfl, hK _ _ rfl (Reg.Wr.same _)⟩
        · intro val ac u hR hp ha K hK      -- 6: t110 := Op.nilCheck t109
          obtain ⟨w109, h109, r109⟩ := hp 5 (by decide)
          have e109 : (ac.tmps[109]?).getD undef = .pointer (some ⟨gm, 0, none⟩) := (ha 109 (by decide)).trans h109
          clear h109
          clear ha hp
          refine Reg.Op1.plain rfl ?_
          go_wp2
          exact ⟨rfl, hK _ _ rfl (Reg.Wr.same _)⟩
        · intro val ac u hR hp ha K hK      -- 7: t111 := Op.fieldAddr 55 t110 17
          obtain ⟨w110, h110, r110⟩ := hp 6 (by decide)
          have e110 : (ac.tmps[110]?).getD undef = .pointer (some ⟨gm, 0, none⟩) := (ha 110 (by decide)).trans h110
          clear h110
          clear ha hp
          refine Reg.Op1.plain rfl ?_
          go_wp2
          exact ⟨rfl, hK _ _ rfl (Reg.Wr.same _)⟩
        · intro val ac u hR hp ha K hK      -- 8: t112 := Op.indexAddr 53 t111 (const (1:i64))
          obtain ⟨w111, h111, r111⟩ := hp 7 (by decide)
          have e111 : (ac.tmps[111]?).getD undef = .pointer (some ⟨gm, 70, none⟩) := (ha 111 (by decide)).trans h111
          clear h111
          clear ha hp
          refine Reg.Op1.plain rfl ?_
          go_wp2
          exact ⟨rfl, hK _ _ rfl (Reg.Wr.same _)⟩
        · intro val ac u hR hp ha K hK      -- 9: t113 := Op.move t1
          have e1 : (ac.tmps[1]?).getD undef = .pointer (some ⟨gm, 0, none⟩) := ha 1 (by decide)
          clear ha hp
          refine Reg.Op1.plain rfl ?_
          go_wp2
          exact ⟨rfl, hK _ _ rfl (Reg.Wr.same _)⟩
        · intro val ac u hR hp ha K hK      -- 10: t114 := Op.nilCheck t113
          obtain ⟨w113, h113, r113⟩ := hp 9 (by decide)
          have e113 : (ac.tmps[113]?).getD undef = .pointer (some ⟨gm, 0, none⟩) := (ha 113 (by decide)).trans h113
          clear h113
          clear ha hp
          refine Reg.Op1.plain rfl ?_
          go_wp2
          exact ⟨rfl, hK _ _ rfl (Reg.Wr.same _)⟩
        · intro val ac u hR hp ha K hK      -- 11: t115 := Op.fieldAddr 55 t114 17
          obtain ⟨w114, h114, r114⟩ := hp 10 (by decide)
          have e114 : (ac.tmps[114]?).getD undef = .pointer (some ⟨gm, 0, none⟩) := (ha 114 (by decide)).trans h114
          clear h114
          clear ha hp
          refine Reg.Op1.plain rfl ?_
          go_wp2
          exact ⟨rfl, hK _ _ rfl (Reg.Wr.same _)⟩
        · intro val ac u hR hp ha K hK      -- 12: t116 := Op.indexAddr 53 t115 (const (2:i64))
          obtain ⟨w115, h115, r115⟩ := hp 11 (by decide)
          have e115 : (ac.tmps[115]?).getD undef = .pointer (some ⟨gm, 70, none⟩) := (ha 115 (by decide)).trans h115
          clear h115
          clear ha hp
          refine Reg.Op1.plain rfl ?_
          go_wp2
          exact ⟨rfl, hK _ _ rfl (Reg.Wr.same _)⟩
        · intro val ac u hR hp ha K hK      -- 13: t117 := Op.buildSlice 127 3 #[(0, t108), (1, t112), (2, t116)]
          obtain ⟨w108, h108, r108⟩ := hp 4 (by decide)
          have e108 : (ac.tmps[108]?).getD undef = .pointer (some ⟨gm, 70, none⟩) := (ha 108 (by decide)).trans h108
          clear h108
          obtain ⟨w112, h112, r112⟩ := hp 8 (by decide)
          have e112 : (ac.tmps[112]?).getD undef = .pointer (some ⟨gm, 71, none⟩) := (ha 112 (by decide)).trans h112
          clear h112
          obtain ⟨w116, h116, r116⟩ := hp 12 (by decide)
          have e116 : (ac.tmps[116]?).getD undef = .pointer (some ⟨gm, 72, none⟩) := (ha 116 (by decide)).trans h116
          clear h116
          clear ha hp
          refine Reg.Op1.plain rfl ?_
          have hq := (Mem.Keeps.refl (fun _ => False) w13).drew.trans (Reg.Wr.none hR (by decide +kernel) (by decide +kernel) (by decide +kernel)) (fun _ h _ => h)
          go_wp2
          exact ⟨rfl, hK _ _ ⟨u.heap.size, rfl, hq.size, by simp, Mem.Rd.alloc_new u _ _ _ rfl⟩ (Reg.Wr.quiet ((Mem.Keeps.refl _ u).alloc _))⟩
        · intro val ac u hR hp ha K hK      -- 14: t118 := Op.call { value (Operand.func 56), args := #[t104, t117], argTypes := #[65, 127] }
          obtain ⟨w104, h104, r104⟩ := hp 0 (by decide)
          have e104 : (ac.tmps[104]?).getD undef = .pointer (some ⟨g, 0, none⟩) := (ha 104 (by decide)).trans h104
          clear h104
          obtain ⟨w117, h117, r117⟩ := hp 13 (by decide)
          have e117 : (ac.tmps[117]?).getD undef = val 13 := ha 117 (by decide)
          clear ha hp
          refine Reg.Op1.plain rfl ?_
          obtain ⟨s, hv, hs, hsz, hrd⟩ := h117
          rw [hv] at e117
          have hq := (Mem.Keeps.refl (fun _ => False) w13).drew.trans (Reg.Wr.none hR (by decide +kernel) (by decide +kernel) (by decide +kernel)) (fun _ h _ => h)
          have hrd' := hrd.keepsAt (Reg.Wr.none r117 (by decide +kernel) (by decide +kernel) (by decide +kernel)) hsz (fun _ _ h => h)
          have hn := Pass.numbers HP13.out hq hs [70, 71, 72] 3 HS13.out.fit (by show _ + 9 * 3 ≤ _; omega) (fun k hk => HS13.out.int (by simp at hk; rcases hk with h | h | h <;> rw [h] <;> rfl)) hg HA.out hgw hrd'
          go_wp2_with fail
          refine hn.mono ?_
          rintro x w' ⟨rfl, hp, hk9⟩
          go_wp2_with fail
          exact ⟨rfl, hK _ _ ⟨rfl, hp⟩ (Reg.Wr.does1 hk9)⟩
      · intro val u hR H
        obtain ⟨wb, ⟨hv8, hp⟩, rb⟩ := H 14 (by decide)
        have hk9 := Reg.Wr.none rb (by decide +kernel) (by decide +kernel) (by decide +kernel)
        rw [foldR_3] at hr14
        rw [hr14] at hp
        obtain ⟨A2, cap2, h1, h2, h3, h4⟩ := hp.out
        have c1 : CAt u g A2 cap2 r14.1 := h1.keeps hk9 (fun _ _ h => h)
        have c2 := h2.keeps hk9 id
        have c3 := h3.trans hk9 (fun _ h _ => h.elim)
        simp only [List.map_cons, List.map_nil, Reg.lay, Act.put, List.setIfInBounds_toArray, List.set_cons_succ, List.set_cons_zero, Nat.reduceAdd]
        have hp14 := Lib.hid hp
        have hk914 := hk9
        clear hR H rb hp hk9 hv8 HP13 hr14 h1 h2 h3
        obtain ⟨w14, hw14⟩ : ∃ w14, w14 = u := ⟨_, rfl⟩
        subst hw14
        obtain ⟨vc, hvc⟩ := HS14.out.int (k := 73) rfl
        have z1 := c2.cell hvc
        have hgl := c1.B.lt
        have hgm := c2.lt
        have C1 := Lib.hid c1
        have C2 := Lib.hid c2
        have C3 := Lib.hid c3
        have C4 := Lib.hid h4
        have C5 : Hid (r14.1.reads = true → Mem.Keeps (fun q => q = g ∨ q = gm) w0 w14) := (fun hr => (hp14.out.rd hr).trans hk914 (fun _ h _ => h.elim))
        have HVC := Lib.hid hvc
        clear c1 c2 c3 h4 hvc hp14 hk914
        go_upto_region 16 with fail
        obtain ⟨w15, hw15⟩ : ∃ w15, w14.alloc (.cells #[.int .i64 vc] 3) = w15 := ⟨_, rfl⟩
        have HB1 : Hid (Mem.Bx w15 3 1 w14.heap.size [.int .i64 vc]) := (by show Mem.Bx _ _ _ _ _; rw [← hw15]; exact Mem.Bx.new w14 3 #[.int .i64 vc] rfl rfl)
        have hk1 : Below w14.heap.size w14 w15 := (by rw [← hw15]; exact Reg.below_new _ _)
        rw [hw15]
        have HC1 : Hid (CAt w15 g A2 cap2 r14.1) := C1.out.keeps (Mem.Keeps.of_below hk1) (fun _ _ h => h)
        have HLT := Lib.hid C1.out.lt
        have HN := Lib.hid (number_pass (t := 3) (n := 1) (gm := w14.heap.size) (r := (r14.1, [Value.int .i64 vc])) (k := 0) HC1.out HS14.out.fit (by omega) HB1.out ⟨vc, rfl⟩ (by omega) (fun h => by have := HLT.out _ h; omega))
        have HBX := Lib.hid (fun (w2 : World) (hp : Pass w15 g A2 3 1 w14.heap.size (stepN (r14.1, [Value.int .i64 vc]) 0) w2) => Pass.box (k := 73) C1.out C2.out C3.out C4.out C5.out HVC.out hg HA.out hgw rfl (hw15 ▸ hp))
        obtain ⟨gb, hgb⟩ : ∃ gb, w14.heap.size = gb := ⟨_, rfl⟩
        rw [hgb] at HN HBX ⊢
        clear hw15 hk1 HC1 HLT C1 C2 C3 C4 C5 HB1 hgb hgm hgl z1
        go_upto_region 17 with (go_at_call 45; refine HN.out.mono ?_; rintro x9 w16 ⟨rfl, hp⟩; have HPB := Lib.hid (HBX.out w16 hp); clear hp HN HBX)
        have hbx := HPB.out.1
        have HPP : Hid (Pass w0 g A t 74 gm (runM msgM r) (w16.setCell ⟨gm, 73, none⟩ (.int .i64 (stepNum r14.1 vc).2))) := (by show Pass _ _ _ _ _ _ _ _; rw [HE.out]; exact HPB.out.2.2)
        have y1 := hbx.cell (j := 0) rfl
        have yf := HPB.out.2.1.fr
        have z1 := HPB.out.2.1.cell HVC.out
        clear hbx HPB
        go_wp2
        first | go_end0 | ((try simp only [Exit.inBlock, Exit.then]); refine bodyPost_ret (results_none rfl _ _ _) rfl ?_)
        exact ⟨rfl, HPP.out⟩
end Go.Proofs.Ytkfgedgjpgehoaa
