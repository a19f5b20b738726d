/- The walk of WireBack. No conditions. -/
import Derived.Test.YtkfgedgjpgehoaaWire22
import Derived.Test.YtkfgedgjpgehoaaWire21
namespace Go.Proofs.Ytkfgedgjpgehoaa
open Go.ChangeShapes Go.WideShapes Go.ChangeAt Go.RowKit
set_option linter.unusedVariables false
set_option linter.unusedSimpArgs false
set_option maxRecDepth 100000
namespace Mem
section
variable {P : Program} {w : World} {ops : Array Oper} {rest : List Oper} {a : Act} {Q : Exit → Act → World → Prop} {d : Option Tmp} {ty : TypeId} {ps : String} {af : Array Edge}
theorem wpList_binG {op : BinOp} {x y : Operand} {gd : Option (Nat × Bool)} (t s : TypeId) (hw : Region.wanted { dst := d, op := .binOp op t x y s, type := ty, pos := ps, after := af, guard := gd } (yielded ops a.tmps) = true) (hm : P.eqGuardType P.depth t = false) (xs ys : Array Value) (b : Bool) (hx : a.eval x = .agg xs) (hy : a.eval y = .agg ys) (hb : ∀ w, (binOp op t (.agg xs) (.agg ys)).run P w = .ok (.bool b) w)
    (h : wpList P ops Q rest (a.put d (.bool b)) w) :
    wpList P ops Q ({ dst := d, op := .binOp op t x y s, type := ty, pos := ps, after := af, guard := gd } :: rest) a w := by
  unfold wpList
  rw [if_pos hw]
  refine .inl ?_
  unfold Oper.wp execOp
  simp only [hx, hy, Sem.run_bind, run_eqGuard_agg (P := P) w op t x y xs ys hm, hb, Result.andThen_ok, Sem.run_pure]
  exact h
end
end Mem
theorem msgBox_new (w : World) : Mem.Bx (w.alloc (.cells Try.zeroCells55 55)) 55 74 w.heap.size Wi.zeroM := by
  rw [msg_zero]; exact Mem.Bx.new w _ Wi.zeroM.toArray rfl rfl
namespace Wi
def RmE (w : World) (r : List Value × Int) (x : Ending) (w' : World) : Prop := x = .returned (.tuple #[.agg r.1.toArray, .int .i64 r.2]) ∧ Below w.heap.size w w'
end Wi
theorem readMsg_rm {w : World} {A : Option Addr} {cap : Nat} {bs : List UInt8} {r : List Value × Int} (h : Wi.readM bs = r) (hR : Mem.Rd w w.heap.size A (bs.map Mem.byteV)) (hl : bs.length ≤ cap) (hb : bs.length ≤ 1000000000) (hcap : cap ≤ maxLen) :
    Calls Try.prog 23 #[.slice A bs.length cap] w (Wi.RmE w r) := by
  subst h
  exact readMsg_any hR hl hb hcap
namespace wireBackOpen
open Wi
set_option maxHeartbeats 1000000 in
theorem walk (xs : List Value) (A : Option Addr) (c : Nat) (bs : List UInt8) (w : World) (h1 : MsgIn msgK xs) (hr : Mem.Rd w w.heap.size A (bs.map Mem.byteV)) (hc : bs.length ≤ c) (hc2 : c ≤ 140737488351232) :
    Calls Try.prog 12 #[.agg xs.toArray, .slice A bs.length c] w fun e w' => e = .returned (.bool true) ∧ Below w.heap.size w w' := by
  have H1 := Lib.hid h1
  have HRB := Lib.hid hr
  have hlx : Hid (xs.length = 74) := h1.ok.len
  obtain ⟨w1, hw1⟩ : ∃ w1, w.alloc (.cells xs.toArray 55) = w1 := ⟨_, rfl⟩
  have hz1 : Mem.Bx w1 55 74 w.heap.size xs := by rw [← hw1]; exact Mem.Bx.new w 55 xs.toArray (by rw [List.size_toArray, hlx.out]) rfl
  have hk1 : Below w.heap.size w w1 := by rw [← hw1]; exact Reg.below_new _ _
  have HZ : Hid (Mem.Bx w1 55 74 w.heap.size xs) := hz1
  have HB : Hid (Below w.heap.size w w1) := hk1
  obtain ⟨g, hg⟩ : ∃ g, w.heap.size = g := ⟨_, rfl⟩
  rw [hg] at HZ
  have HW1 := Lib.hid hw1
  have HG := Lib.hid hg
  clear hw1 hz1 hk1 hg
  clear h1 hr
  go_enter Try.func12, Try.ntmps12
  go_upto_region 1 with fail
  rw [HW1.out, HG.out]
  have HA := Lib.hid (wireAble_any w1)
  go_upto_region 3 with (go_at_call 14; refine HA.out.mono ?_; rintro x3 w3 ⟨rfl, hb3⟩; have HB3 : Hid (Below w.heap.size w w3) := HB.out.trans (hb3.mono HB.out.size); have HZ3 : Hid (Mem.Bx w3 55 74 g xs) := HZ.out.keeps (Mem.Keeps.of_below hb3) id; clear hb3 HA)
  have HL1 := fun v => Lib.hid (wireLong_any (w := v) H1.out rfl)
  clear HZ HB HW1
  cases hv1 : longV xs
  case' true =>
    rw [hv1] at HL1
    go_wp2_with (first | ((with_reducible refine Mem.load_agg _ _ msg_agg g 0 xs ?hxa hlx.out (fun j u hu => by rw [Nat.zero_add]; exact HZ3.out.cell hu) ?_); case hxa => exact rfl) | (go_at_call 19; refine (HL1 _).out.mono ?_; rintro x4 w4 ⟨rfl, hb4⟩; have HB4 := Lib.hid hb4; clear hb4 HL1))
    go_ret
    exact ⟨rfl, HB3.out.trans (HB4.out.mono HB3.out.size)⟩
  rw [hv1] at HL1
  have hfx := Lib.hid (fed_of H1.out hv1)
  clear hv1 H1
  by_cases hbl : bs.length ≤ 100000
  case neg =>
    have d1 : decide ((100000 : Int) < (bs.length : Int)) = true := by simp; omega
    clear hbl
    go_wp2_with (first | ((with_reducible refine Mem.load_agg _ _ msg_agg g 0 xs ?hxa hlx.out (fun j u hu => by rw [Nat.zero_add]; exact HZ3.out.cell hu) ?_); case hxa => exact rfl) | (go_at_call 19; refine (HL1 _).out.mono ?_; rintro x4 w4 ⟨rfl, hb4⟩; have HB4 := Lib.hid hb4; clear hb4 HL1))
    go_ret
    exact ⟨rfl, HB3.out.trans (HB4.out.mono HB3.out.size)⟩
  have d1 : decide ((100000 : Int) < (bs.length : Int)) = false := by simp; omega
  go_upto_region 5 with (first | ((with_reducible refine Mem.load_agg _ _ msg_agg g 0 xs ?hxa hlx.out (fun j u hu => by rw [Nat.zero_add]; exact HZ3.out.cell hu) ?_); case hxa => exact rfl) | (go_at_call 19; refine (HL1 _).out.mono ?_; rintro x4 w4 ⟨rfl, hb4⟩; have HB4 := Lib.hid hb4; clear hb4 HL1))
  have HB5 : Hid (Below w.heap.size w w4) := HB3.out.trans (HB4.out.mono HB3.out.size)
  have HZ5 : Hid (Mem.Bx w4 55 74 g xs) := HZ3.out.keeps (Mem.Keeps.of_below HB4.out) id
  clear HB3 HB4 HZ3 d1
  obtain ⟨fx, hfx0⟩ : ∃ fx, framedC (msgC xs) = fx := ⟨_, rfl⟩
  have HFX := Lib.hid hfx0
  clear hfx0
  have HM := fun v => Lib.hid (msg_any (w := v) hfx.out)
  go_upto_region 6 with (first | ((with_reducible refine Mem.load_agg _ _ msg_agg g 0 xs ?hxc hlx.out (fun j u hu => by rw [Nat.zero_add]; exact HZ5.out.cell hu) ?_); case hxc => exact rfl) | (go_at_call 20; refine (HM _).out.mono ?_; intro x5 w5 hfe; obtain ⟨A1, c1, rfl, h2, h3, h4⟩ := hfe; rw [HFX.out] at h2; have HO1 := Lib.hid h2; have HB6 := Lib.hid h4; clear h2 h3 h4 HM))
  rw [HFX.out]
  have HZ6 : Hid (Mem.Bx w5 55 74 g xs) := HZ5.out.keeps (Mem.Keeps.of_below HB6.out) id
  have HB7 : Hid (Below w.heap.size w w5) := HB5.out.trans (HB6.out.mono HB5.out.size)
  obtain ⟨f1, hf1⟩ : ∃ f1, fx.1 = f1 := ⟨_, rfl⟩
  have hlb : f1.length ≤ 2000 := by
    rw [← hf1]
    by_cases e1 : fx.2 = 0
    · have gx := good_of hfx.out (by rw [HFX.out]; exact e1)
      have q : fx.1 = frameB (enB xs) := by rw [← HFX.out, gx.fr]
      have := gx.len
      rw [q, frame_len]; omega
    · have := not_good (xs := xs) (by rw [HFX.out]; exact e1)
      rw [HFX.out] at this; rw [this]; exact Nat.zero_le _
  rw [hf1] at HO1 ⊢
  have HFB := Lib.hid hf1
  have HRD1 := Lib.hid HO1.out.rd
  clear hf1 HB5 HB6 HZ5 HO1
  obtain ⟨rm, hrm⟩ : ∃ rm, readM f1 = rm := ⟨_, rfl⟩
  have hrf : Fed msgK rm.1 := by rw [← hrm]; exact readM_fed _
  have hone : Hid (∀ y ∈ rm.1, y.oneCell' = true) := okL_one hrf.ok
  have hrl : Hid (rm.1.length = 74) := hrf.ok.len
  have HRM := Lib.hid hrm
  have HFD := Lib.hid hrf
  clear hrm hrf
  go_upto_region 7 with (first | (at_builtin; refine Mem.wpList_clone _ rfl (.tmp 28) (.tmp 29) _ rfl bytes_elem w5.heap.size rfl w5 w5.heap.size A1 f1.length c1 _ rfl ?_ rfl (Below.refl _ _) (Nat.le_refl _) HRD1.out (by simp) (Mem.bytes_one _) (by unfold maxLen; omega) (by omega); intro A2 c2 w6 hown hb2 hs2 hf2; have hrr := readMsg_rm HRM.out hown.rd hown.le (by omega) hown.cap; have HBa := Lib.hid hb2; have HRR := Lib.hid hrr; clear hown hb2 hs2 hf2 hrr) | (go_at_call 23; refine HRR.out.mono ?_; intro x7 w7 hrr; obtain ⟨rfl, h3⟩ := hrr; have HBb := Lib.hid h3; clear h3 HRR) | ((with_reducible refine Mem.store_agg _ _ msg_agg w7.heap.size zeroM rm.1 ?hx ?hy ?hb hrl.out hone.out ?_); ((case hx => exact rfl); (case hy => exact rfl); (case hb => exact msgBox_new w7); intro w8 hb4 hk4 hs4; have HY8 := Lib.hid hb4; have HKc : Hid (Below w7.heap.size w7 w8) := (hk4.newBox rfl).belowAll; clear hb4 hk4 hs4)))
  have HB8 : Hid (Below w5.heap.size w5 w8) := (HBa.out.trans (HBb.out.mono HBa.out.size)).trans (HKc.out.mono (HBa.out.trans (HBb.out.mono HBa.out.size)).size)
  have HL8 : Hid (w5.heap.size ≤ w7.heap.size) := (HBa.out.trans (HBb.out.mono HBa.out.size)).size
  clear hone HBa HBb HKc
  have hgw5 := HZ6.out.lt
  have HZ8 : Hid (Mem.Bx w8 55 74 g xs) := HZ6.out.keeps (Mem.Keeps.of_below HB8.out) id
  have HB9 : Hid (Below w.heap.size w w8) := HB7.out.trans (HB8.out.mono HB7.out.size)
  obtain ⟨gy, hgy⟩ : ∃ gy, w7.heap.size = gy := ⟨_, rfl⟩
  rw [hgy] at HY8 ⊢
  have hgg : g ≠ gy := by have := HL8.out; omega
  clear hgy HB7 HB8 HZ6 HRD1 HL8 hgw5
  have hlong : bs.length ≤ 1000000000 := by omega
  have step9 : Below w.heap.size w w8 := HB9.out
  have HRB8 : Hid (Mem.Rd w8 w8.heap.size A (bs.map Mem.byteV)) := (HRB.out.below step9).more step9.size
  clear step9
  have H7 : Hid ((fx.2 = 0 → rm = (xs, 0)) ∧ (fx.2 ≠ 0 → f1.length = 0)) := by
    refine ⟨fun e1 => ?_, fun e1 => ?_⟩
    · have gx := good_of hfx.out (by rw [HFX.out]; exact e1)
      have q : f1 = frameB (enB xs) := by rw [← HFB.out, ← HFX.out, gx.fr]
      rw [← HRM.out, q, readM_enc hfx.out gx]
    · have := not_good (xs := xs) (by rw [HFX.out]; exact e1)
      rw [HFX.out, HFB.out] at this; rw [this]; rfl
  by_cases e1 : fx.2 = 0
  case neg =>
    have d1 : (fx.2 == 0) = false := by simpa using e1
    have d2 : (fx.2 != 0) = true := by simpa using e1
    have d3 := H7.out.2 e1
    clear e1 H7 HZ8 HY8 HRM HFB HFX
    go_upto_region 9 with fail
    clear d1 d2 d3
    obtain ⟨rn, hrm⟩ : ∃ rn, readM bs = rn := ⟨_, rfl⟩
    have hrf : Fed msgK rn.1 := by rw [← hrm]; exact readM_fed _
    have hone : Hid (∀ y ∈ rn.1, y.oneCell' = true) := okL_one hrf.ok
    have hnl : Hid (rn.1.length = 74) := hrf.ok.len
    have HRN := Lib.hid hrm
    have HFN := Lib.hid hrf
    clear hrm hrf
    go_upto_region 10 with (first | (at_builtin; refine Mem.wpList_clone _ rfl (.tmp 55) (.tmp 56) _ rfl bytes_elem w8.heap.size rfl w8 w8.heap.size A bs.length c _ rfl ?_ rfl (Below.refl _ _) (Nat.le_refl _) HRB8.out (by simp) (Mem.bytes_one _) (by unfold maxLen; omega) (by omega); intro A3 c3 w9 hown hb2 hs2 hf2; have hrr := readMsg_rm HRN.out hown.rd hown.le (by omega) hown.cap; have HBa := Lib.hid hb2; have HRR := Lib.hid hrr; clear hown hb2 hs2 hf2 hrr) | (go_at_call 23; refine HRR.out.mono ?_; intro x7 w10 hrr; obtain ⟨rfl, h3⟩ := hrr; have HBb := Lib.hid h3; clear h3 HRR) | ((with_reducible refine Mem.store_agg _ _ msg_agg w10.heap.size zeroM rn.1 ?hx ?hy ?hb hnl.out hone.out ?_); ((case hx => exact rfl); (case hy => exact rfl); (case hb => exact msgBox_new w10); intro w11 hb4 hk4 hs4; have HY11 := Lib.hid hb4; have HKc : Hid (Below w10.heap.size w10 w11) := (hk4.newBox rfl).belowAll; clear hb4 hk4 hs4)))
    have HB11 : Hid (Below w8.heap.size w8 w11) := (HBa.out.trans (HBb.out.mono HBa.out.size)).trans (HKc.out.mono (HBa.out.trans (HBb.out.mono HBa.out.size)).size)
    have HL11 : Hid (w8.heap.size ≤ w10.heap.size) := (HBa.out.trans (HBb.out.mono HBa.out.size)).size
    clear hone HBa HBb HKc
    have HBF : Hid (Below w.heap.size w w11) := HB9.out.trans (HB11.out.mono HB9.out.size)
    have HRBf : Hid (Mem.Rd w11 w8.heap.size A (bs.map Mem.byteV)) := HRB8.out.below HB11.out
    obtain ⟨gq, hgq⟩ : ∃ gq, w10.heap.size = gq := ⟨_, rfl⟩
    rw [hgq] at HY11 ⊢
    have HLW : Hid (w8.heap.size ≤ w11.heap.size) := HB11.out.size
    clear hgq HB11 HL11 HRB8 HB9
    by_cases e2 : rn.2 = 0
    case neg =>
      have d1 : (rn.2 != 0) = true := by simpa using e2
      have hz := readM_bad (bs := bs) (by rw [HRN.out]; exact e2)
      rw [HRN.out] at hz
      have HK : Hid (∀ w, (binOp .eql 55 (.agg rn.1.toArray) (.agg zeroM.toArray)).run Try.prog w = .ok (.bool true) w) := fun w => by rw [hz, msgK_eq.eql zeroM_ok zeroM_ok, (Cells.eqL_iff zeroM_ok zeroM_ok).2 rfl]
      clear e2 hz HRN HFN HRBf
      go_wp2_with (first | ((with_reducible refine Mem.load_agg _ _ msg_agg gq 0 rn.1 ?hxq hnl.out (fun j u hu => by rw [Nat.zero_add]; exact HY11.out.cell hu) ?_); case hxq => exact rfl) | ((with_reducible refine Mem.wpList_bin _ _ ?hm8 rn.1.toArray zeroM.toArray true ?hx8 ?hy8 HK.out ?_); ((case hm8 => kernel_rfl); (case hx8 => exact rfl); (case hy8 => exact rfl))))
      go_ret
      exact ⟨rfl, HBF.out⟩
    have d1 : (rn.2 != 0) = false := by simpa using e2
    have hgd := readM_good (bs := bs) (by rw [HRN.out]; exact e2)
    rw [HRN.out] at hgd
    obtain ⟨fz, hfz⟩ : ∃ fz, framedC (msgC rn.1) = fz := ⟨_, rfl⟩
    rw [hfz] at hgd
    obtain ⟨hg1, hg2⟩ := hgd
    have HFZ := Lib.hid hfz
    have HG2 := Lib.hid hg2
    have HM2 := Lib.hid (msg_any (w := w11) HFN.out)
    have d2 : (fz.2 == 0) = true := by simpa using hg1
    clear hfz e2 HRN hg1 hg2
    go_upto_region 13 with (first | ((with_reducible refine Mem.load_agg _ _ msg_agg gq 0 rn.1 ?hxq hnl.out (fun j u hu => by rw [Nat.zero_add]; exact HY11.out.cell hu) ?_); case hxq => exact rfl) | (go_at_call 20; refine HM2.out.mono ?_; intro x12 w12 hfe; obtain ⟨A4, c4, rfl, h2, h3, h4⟩ := hfe; rw [HFZ.out] at h2; have HO4 := Lib.hid h2; have HB12 := Lib.hid h4; clear h2 h3 h4 HM2))
    rw [HFZ.out]
    have k1 := Mem.conv_all (P := Try.prog) (w := w12) (cap := c4) 39 9 5 bytes_under u8_under string_under HO4.out.rd rfl
    have k2 := Mem.conv_all (P := Try.prog) (w := w12) (cap := c) 39 9 5 bytes_under u8_under string_under (HRBf.out.below (HB12.out.mono HLW.out)) rfl
    have k3 : ((sB fz.1).toList == (sB bs).toList) = true := by rw [sB_eq, HG2.out]; simp
    have HBG : Hid (Below w.heap.size w w12) := HBF.out.trans (HB12.out.mono HBF.out.size)
    clear HO4 HRBf HB12 HBF HG2 HFZ HFN HY11
    go_wp2
    go_ret
    exact ⟨rfl, HBG.out⟩
  case pos =>
    have d1 : (fx.2 == 0) = true := by simpa using e1
    have d2 : (fx.2 != 0) = false := by simpa using e1
    have h9 := H7.out.1 e1
    subst h9
    have HK3 : Hid (∀ w, (binOp .neq 55 (.agg xs.toArray) (.agg xs.toArray)).run Try.prog w = .ok (.bool false) w) := fun w => by rw [msgK_eq.neq hfx.out.ok hfx.out.ok, (Cells.eqL_iff hfx.out.ok hfx.out.ok).2 rfl]; rfl
    clear e1 H7 HRM HFB HFX
    go_upto_region 9 with (first | ((with_reducible refine Mem.load_aggG _ _ msg_agg gy 0 xs ?hwe ?hxe hlx.out (fun j u hu => by rw [Nat.zero_add]; exact HY8.out.cell hu) ?_); ((case hwe => rfl); (case hxe => exact rfl))) | ((with_reducible refine Mem.load_aggG _ _ msg_agg g 0 xs ?hwf ?hxf hlx.out (fun j u hu => by rw [Nat.zero_add]; exact HZ8.out.cell hu) ?_); ((case hwf => rfl); (case hxf => exact rfl))) | ((with_reducible refine Mem.wpList_binG _ _ ?hw9 ?hm9 xs.toArray xs.toArray false ?hx9 ?hy9 HK3.out ?_); ((case hw9 => rfl); (case hm9 => kernel_rfl); (case hx9 => exact rfl); (case hy9 => exact rfl))))
    clear d1 d2 HK3
    obtain ⟨rn, hrm⟩ : ∃ rn, readM bs = rn := ⟨_, rfl⟩
    have hrf : Fed msgK rn.1 := by rw [← hrm]; exact readM_fed _
    have hone : Hid (∀ y ∈ rn.1, y.oneCell' = true) := okL_one hrf.ok
    have hnl : Hid (rn.1.length = 74) := hrf.ok.len
    have HRN := Lib.hid hrm
    have HFN := Lib.hid hrf
    clear hrm hrf
    go_upto_region 10 with (first | (at_builtin; refine Mem.wpList_clone _ rfl (.tmp 55) (.tmp 56) _ rfl bytes_elem w8.heap.size rfl w8 w8.heap.size A bs.length c _ rfl ?_ rfl (Below.refl _ _) (Nat.le_refl _) HRB8.out (by simp) (Mem.bytes_one _) (by unfold maxLen; omega) (by omega); intro A3 c3 w9 hown hb2 hs2 hf2; have hrr := readMsg_rm HRN.out hown.rd hown.le (by omega) hown.cap; have HBa := Lib.hid hb2; have HRR := Lib.hid hrr; clear hown hb2 hs2 hf2 hrr) | (go_at_call 23; refine HRR.out.mono ?_; intro x7 w10 hrr; obtain ⟨rfl, h3⟩ := hrr; have HBb := Lib.hid h3; clear h3 HRR) | ((with_reducible refine Mem.store_agg _ _ msg_agg w10.heap.size zeroM rn.1 ?hx ?hy ?hb hnl.out hone.out ?_); ((case hx => exact rfl); (case hy => exact rfl); (case hb => exact msgBox_new w10); intro w11 hb4 hk4 hs4; have HY11 := Lib.hid hb4; have HKc : Hid (Below w10.heap.size w10 w11) := (hk4.newBox rfl).belowAll; clear hb4 hk4 hs4)))
    have HB11 : Hid (Below w8.heap.size w8 w11) := (HBa.out.trans (HBb.out.mono HBa.out.size)).trans (HKc.out.mono (HBa.out.trans (HBb.out.mono HBa.out.size)).size)
    have HL11 : Hid (w8.heap.size ≤ w10.heap.size) := (HBa.out.trans (HBb.out.mono HBa.out.size)).size
    clear hone HBa HBb HKc
    have HBF : Hid (Below w.heap.size w w11) := HB9.out.trans (HB11.out.mono HB9.out.size)
    have HRBf : Hid (Mem.Rd w11 w8.heap.size A (bs.map Mem.byteV)) := HRB8.out.below HB11.out
    obtain ⟨gq, hgq⟩ : ∃ gq, w10.heap.size = gq := ⟨_, rfl⟩
    rw [hgq] at HY11 ⊢
    have HLW : Hid (w8.heap.size ≤ w11.heap.size) := HB11.out.size
    clear hgq HB11 HL11 HRB8 HB9
    by_cases e2 : rn.2 = 0
    case neg =>
      have d1 : (rn.2 != 0) = true := by simpa using e2
      have hz := readM_bad (bs := bs) (by rw [HRN.out]; exact e2)
      rw [HRN.out] at hz
      have HK : Hid (∀ w, (binOp .eql 55 (.agg rn.1.toArray) (.agg zeroM.toArray)).run Try.prog w = .ok (.bool true) w) := fun w => by rw [hz, msgK_eq.eql zeroM_ok zeroM_ok, (Cells.eqL_iff zeroM_ok zeroM_ok).2 rfl]
      clear e2 hz HRN HFN HRBf
      go_wp2_with (first | ((with_reducible refine Mem.load_agg _ _ msg_agg gq 0 rn.1 ?hxq hnl.out (fun j u hu => by rw [Nat.zero_add]; exact HY11.out.cell hu) ?_); case hxq => exact rfl) | ((with_reducible refine Mem.wpList_bin _ _ ?hm8 rn.1.toArray zeroM.toArray true ?hx8 ?hy8 HK.out ?_); ((case hm8 => kernel_rfl); (case hx8 => exact rfl); (case hy8 => exact rfl))))
      go_ret
      exact ⟨rfl, HBF.out⟩
    have d1 : (rn.2 != 0) = false := by simpa using e2
    have hgd := readM_good (bs := bs) (by rw [HRN.out]; exact e2)
    rw [HRN.out] at hgd
    obtain ⟨fz, hfz⟩ : ∃ fz, framedC (msgC rn.1) = fz := ⟨_, rfl⟩
    rw [hfz] at hgd
    obtain ⟨hg1, hg2⟩ := hgd
    have HFZ := Lib.hid hfz
    have HG2 := Lib.hid hg2
    have HM2 := Lib.hid (msg_any (w := w11) HFN.out)
    have d2 : (fz.2 == 0) = true := by simpa using hg1
    clear hfz e2 HRN hg1 hg2
    go_upto_region 13 with (first | ((with_reducible refine Mem.load_agg _ _ msg_agg gq 0 rn.1 ?hxq hnl.out (fun j u hu => by rw [Nat.zero_add]; exact HY11.out.cell hu) ?_); case hxq => exact rfl) | (go_at_call 20; refine HM2.out.mono ?_; intro x12 w12 hfe; obtain ⟨A4, c4, rfl, h2, h3, h4⟩ := hfe; rw [HFZ.out] at h2; have HO4 := Lib.hid h2; have HB12 := Lib.hid h4; clear h2 h3 h4 HM2))
    rw [HFZ.out]
    have k1 := Mem.conv_all (P := Try.prog) (w := w12) (cap := c4) 39 9 5 bytes_under u8_under string_under HO4.out.rd rfl
    have k2 := Mem.conv_all (P := Try.prog) (w := w12) (cap := c) 39 9 5 bytes_under u8_under string_under (HRBf.out.below (HB12.out.mono HLW.out)) rfl
    have k3 : ((sB fz.1).toList == (sB bs).toList) = true := by rw [sB_eq, HG2.out]; simp
    have HBG : Hid (Below w.heap.size w w12) := HBF.out.trans (HB12.out.mono HBF.out.size)
    clear HO4 HRBf HB12 HBF HG2 HFZ HFN HY11
    go_wp2
    go_ret
    exact ⟨rfl, HBG.out⟩
theorem opened {H : Type} (enc : TypeId × Value → H) (W : World) (base : Nat) (v0 v1 : Value) {d0 d1 : DataW H} {p0 p1 : List MemPlace}
    (o0 : Value.okWide Try.prog W .any base 55 v0) (o1 : Value.okWide Try.prog W .any base 39 v1)
    (k0 : DataW.Trod enc Try.prog W 0 (fun _ => true) true 55 v0 d0 p0) (k1 : DataW.Trod enc Try.prog W 0 (fun _ => true) true 39 v1 d1 p1)
    (z0 : (d0.weights Try.prog 55).all (· ≤ reachBytes) = true) (z1 : (d1.weights Try.prog 39).all (· ≤ reachBytes) = true) :
    Calls Try.prog 12 #[v0, v1] W fun e w' => e = .returned (.bool true) ∧ Below W.heap.size W w' := by
  obtain ⟨xs, rfl, h1⟩ := open_msg o0 k0 z0
  obtain ⟨A, c, bs, rfl, h2, h3, h4⟩ := open_bytes o1 k1 z1
  exact walk xs A c bs W h1 h4 h2 h3
end wireBackOpen
end Go.Proofs.Ytkfgedgjpgehoaa
