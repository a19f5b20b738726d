/- The walk of WireRecordReads. No conditions. -/
import Derived.Test.YtkfgedgjpgehoaaIn6
import Derived.Test.YtkfgedgjpgehoaaWire20
import Derived.Test.YtkfgedgjpgehoaaQuiet
import Derived.Test.YtkfgedgjpgehoaaWire22
namespace Go.Proofs.Ytkfgedgjpgehoaa
open Go.ChangeShapes Go.WideShapes Go.ChangeAt Go.RowKit
set_option linter.unusedVariables false
set_option linter.unusedSimpArgs false
set_option maxRecDepth 100000
namespace Wi
def RrE (w : World) (r : List Value × Nat × Int) (x : Ending) (w' : World) : Prop := x = .returned (.tuple #[.agg r.1.toArray, .int .i64 (r.2.1 : Nat), .int .i64 r.2.2]) ∧ Below w.heap.size w w'
theorem readR_ok {bs : List UInt8} : Cells.Ok recK (readR bs).1 := by
  unfold readR
  split
  · exact zeroR_ok
  · split
    · exact zeroR_ok
    · split
      · exact zeroR_ok
      · split
        · dsimp only; exact recF_ok (ks := recK) (r := (rdC _, zeroR)) zeroR_ok
        · exact zeroR_ok
end Wi
theorem readRec_rm {w : World} {A : Option Addr} {cap : Nat} {bs : List UInt8} {r : List Value × Nat × Int} (h : Wi.readR bs = r) (hR : Mem.Rd w w.heap.size A (bs.map Mem.byteV)) (hl : bs.length ≤ cap) (hb : bs.length ≤ 1000000000) (hcap : cap ≤ maxLen) :
    Calls Try.prog 17 #[.slice A bs.length cap] w (Wi.RrE w r) := by
  subst h
  exact readRecord_any hR hl hb hcap
theorem refRec_rm {w : World} {A : Option Addr} {cap : Nat} {bs : List UInt8} {r : List Value × Nat × Int} (h : Wi.refR bs = r) (hR : Mem.Rd w w.heap.size A (bs.map Mem.byteV)) (hl : bs.length ≤ cap) (hb : bs.length ≤ 1000000000) (hcap : cap ≤ maxLen) :
    Calls Try.prog 18 #[.slice A bs.length cap] w (Wi.RrE w r) := by
  subst h
  exact refReadRecord_any hR hl hb hcap
namespace wireRecordReadsOpen
open Wi
set_option maxHeartbeats 4000000 in
theorem walk (A : Option Addr) (c : Nat) (bs : List UInt8) (w : World) (hr : Mem.Rd w w.heap.size A (bs.map Mem.byteV)) (hc : bs.length ≤ c) (hc2 : c ≤ 140737488351232) :
    Calls Try.prog 4 #[.slice A bs.length c] w fun e w' => e = .returned (.bool true) ∧ Below w.heap.size w w' := by
  have HRB := Lib.hid hr
  clear hr
  go_enter Try.func4, Try.ntmps4
  have HA := Lib.hid (wireAble_any w)
  go_upto_region 3 with (go_at_call 14; refine HA.out.mono ?_; rintro x3 w3 ⟨rfl, hb3⟩; have HB3 := Lib.hid hb3; clear hb3 HA)
  by_cases hbl : bs.length ≤ 100000
  case neg =>
    have d1 : decide ((100000 : Int) < (bs.length : Int)) = true := by simp; omega
    clear hbl
    go_wp2
    go_ret
    exact ⟨rfl, HB3.out⟩
  have d1 : decide ((100000 : Int) < (bs.length : Int)) = false := by simp; omega
  have HRB3 : Hid (Mem.Rd w3 w3.heap.size A (bs.map Mem.byteV)) := (HRB.out.below HB3.out).more HB3.out.size
  have hbl' : bs.length ≤ 1000000000 := by omega
  have HBL := Lib.hid hbl
  go_upto_region 5 with fail
  clear d1
  go_upto_region 6 with (first | (at_builtin; refine Mem.wpList_clone _ rfl (.tmp 15) (.tmp 16) _ rfl bytes_elem w3.heap.size rfl w3 w3.heap.size A bs.length c _ rfl ?_ rfl (Below.refl _ _) (Nat.le_refl _) HRB3.out (by simp) (Mem.bytes_one _) (by unfold maxLen; omega) (by omega); intro A2 c2 w4 hown hb2 hs2 hf2; have HO2 := Lib.hid hown; have HB4 := Lib.hid hb2; have HF2 := Lib.hid hf2; clear hown hb2 hs2 hf2) | (at_builtin; refine Mem.wpList_app _ rfl (.tmp 17) (.tmp 18) _ rfl bytes_elem A2 bs.length c2 _ rfl (w4.heap.size + 1) (some ⟨w4.heap.size, 0, none⟩) 1 1 [.int .u8 77] rfl ?_ (HO2.out.alloc _) (Mem.Rd.alloc_new w4 _ _ _ rfl) rfl (by simp [Value.oneCell']) (by unfold maxLen; omega) (by omega); intro A3 c3 w5 hown hg2 hat; have hk5 := ((Mem.Keeps.refl (fun q => Mem.blk A2 = some q) w4).alloc (.cells #[.int .u8 77] 5)).grown hg2 (fun k hk _ => hk); have HK5 := Lib.hid hk5; have HO3 := Lib.hid hown; have HG3 := Lib.hid hg2; have HT3 := Lib.hid hat; clear hown hg2 hat hk5))
  have HB5 : Hid (Below w3.heap.size w3 w5) := HB4.out.trans (HK5.out.below (fun q h => HF2.out.blk q h) HB4.out.size)
  have HF3 : Hid (∀ k, Mem.blk A3 = some k → w3.heap.size ≤ k) := fun k hk => by
    rcases HT3.out with h | h
    · rw [h] at hk; exact HF2.out.blk k hk
    · rw [h] at hk; have e9 : (w4.alloc (.cells #[.int .u8 77] 5)).heap.size = k := (by simpa [Mem.blk] using hk); have := HB4.out.size; have e8 : (w4.alloc (.cells #[.int .u8 77] 5)).heap.size = w4.heap.size + 1 := Array.size_push _; omega
  have HO5 : Hid (Mem.Own w5 5 1 A3 (bs.length + 1) c3 ((bs ++ [77]).map Mem.byteV)) := by
    show Mem.Own _ _ _ _ _ _ _
    rw [List.map_append]; exact HO3.out
  have HRT : Hid (Mem.Rd w5 w5.heap.size A3 (bs.map Mem.byteV)) := by
    have h9 := HO5.out.rd.take bs.length
    rw [← List.map_take, List.take_left] at h9
    exact h9
  have hc3 : bs.length + 1 ≤ c3 := HO5.out.le
  have hc33 := HO5.out.cap
  obtain ⟨b3, o3, rfl⟩ := HO5.out.form (by omega)
  obtain ⟨rm, hrm⟩ : ∃ rm, readR bs = rm := ⟨_, rfl⟩
  have hrf : Cells.Ok recK rm.1 := by rw [← hrm]; exact readR_ok
  have hone : Hid (∀ y ∈ rm.1, y.oneCell' = true) := okL_one hrf
  have hrl : Hid (rm.1.length = 35) := hrf.len
  have HRM := Lib.hid hrm
  have HFD := Lib.hid hrf
  have hrr := readRec_rm hrm HRT.out (by omega) hbl' hc33
  have HRR := Lib.hid hrr
  have HC3 := Lib.hid hc3
  clear hrm hrf hrr HO2 HB4 HF2 HK5 HO3 HG3 HT3
  go_upto_region 7 with (first | (go_at_call 17; refine HRR.out.mono ?_; intro x7 w7 hrr; obtain ⟨rfl, h3⟩ := hrr; have HBb := Lib.hid h3; clear h3 HRR) | ((with_reducible refine Mem.store_agg _ _ record_agg w7.heap.size zeroR rm.1 ?hx ?hy ?hb hrl.out hone.out ?_); ((case hx => exact rfl); (case hy => exact rfl); (case hb => exact Mem.Bx.new w7 _ zeroR.toArray rfl rfl); intro w8 hb4 hk4 hs4; have HY8 := Lib.hid hb4; have HKc : Hid (Below w7.heap.size w7 w8) := (hk4.newBox rfl).belowAll; clear hb4 hk4 hs4)))
  have HB8 : Hid (Below w5.heap.size w5 w8) := HBb.out.trans (HKc.out.mono HBb.out.size)
  have HL8 : Hid (w5.heap.size ≤ w7.heap.size) := HBb.out.size
  have HB38 : Hid (Below w3.heap.size w3 w8) := HB5.out.trans (HB8.out.mono HB5.out.size)
  have HO8 : Hid (Mem.Own w8 5 1 (some ⟨b3, o3, none⟩) (bs.length + 1) c3 ((bs ++ [77]).map Mem.byteV)) := HO5.out.below HB8.out (fun k hk => HO5.out.lt hk)
  have HRB8 : Hid (Mem.Rd w8 w8.heap.size A (bs.map Mem.byteV)) := (HRB3.out.below HB38.out).more HB38.out.size
  obtain ⟨gy, hgy⟩ : ∃ gy, w7.heap.size = gy := ⟨_, rfl⟩
  have HGY : Hid (b3 < gy) := by have := HO5.out.lt (k := b3) rfl; have := HL8.out; show _ < _; omega
  have HG3 : Hid (w3.heap.size ≤ b3) := HF3.out b3 rfl
  rw [hgy] at HY8 ⊢
  have hcm : c ≤ maxLen := by unfold maxLen; omega
  have hrr := refRec_rm ((refR_eq HBL.out).trans HRM.out) HRB8.out hc hbl' hcm
  have HRR := Lib.hid hrr
  clear hgy hrr HBb HKc HB8 HL8 HO5 HRT HF3 hcm hc33
  go_upto_region 8 with (first | (go_at_call 18; refine HRR.out.mono ?_; intro x9 w9 hrr; obtain ⟨rfl, h3⟩ := hrr; have HBb := Lib.hid h3; clear h3 HRR) | ((with_reducible refine Mem.store_agg _ _ record_agg w9.heap.size zeroR rm.1 ?hx ?hy ?hb hrl.out hone.out ?_); ((case hx => exact rfl); (case hy => exact rfl); (case hb => exact Mem.Bx.new w9 _ zeroR.toArray rfl rfl); intro w10 hb4 hk4 hs4; have HZ10 := Lib.hid hb4; have HKc : Hid (Below w9.heap.size w9 w10) := (hk4.newBox rfl).belowAll; clear hb4 hk4 hs4)))
  have HB10 : Hid (Below w8.heap.size w8 w10) := HBb.out.trans (HKc.out.mono HBb.out.size)
  have HB310 : Hid (Below w3.heap.size w3 w10) := HB38.out.trans (HB10.out.mono HB38.out.size)
  have HL10 : Hid (w8.heap.size ≤ w9.heap.size) := HBb.out.size
  have HY10 : Hid (Mem.Bx w10 37 35 gy rm.1) := HY8.out.keeps (Mem.Keeps.of_below HB10.out) id
  have HO10 : Hid (Mem.Own w10 5 1 (some ⟨b3, o3, none⟩) (bs.length + 1) c3 ((bs ++ [77]).map Mem.byteV)) := HO8.out.below HB10.out (fun k hk => HO8.out.lt hk)
  have HRB10 : Hid (Mem.Rd w10 w10.heap.size A (bs.map Mem.byteV)) := (HRB8.out.below HB10.out).more HB10.out.size
  have HBW : Hid (Below w.heap.size w w10) := HB3.out.trans (HB310.out.mono HB3.out.size)
  obtain ⟨gz, hgz⟩ : ∃ gz, w9.heap.size = gz := ⟨_, rfl⟩
  have HGZ : Hid (gy < gz) := by have := HY8.out.lt; have := HL10.out; show _ < _; omega
  have HWS : Hid (w.heap.size ≤ w3.heap.size) := HB3.out.size
  rw [hgz] at HZ10 ⊢
  clear hgz HBb HKc HB10 HL10 HY8 HO8 HRB8 HB38 HB310 HRB3 HB3 HRB HB5 hone
  have h1 : Hid (∀ k, Mem.Rd (w10.drewN k) w10.heap.size (some ⟨b3, o3, none⟩) (bs.map Mem.byteV)) := fun k => by
    have h9 := HO10.out.rd.take bs.length
    rw [← List.map_take, List.take_left] at h9
    exact h9.drewN k
  have k1 : ∀ k, (convert 39 9 (.slice (some ⟨b3, o3, none⟩) bs.length c3)).run Try.prog (w10.drewN k) = .ok (.string (sB bs)) (w10.drewN k) := fun k =>
    Mem.conv_all (P := Try.prog) (w := w10.drewN k) (cap := c3) 39 9 5 bytes_under u8_under string_under (h1.out k) rfl
  have k2 : ∀ k, (convert 39 9 (.slice A bs.length c)).run Try.prog (w10.drewN k) = .ok (.string (sB bs)) (w10.drewN k) := fun k =>
    Mem.conv_all (P := Try.prog) (w := w10.drewN k) (cap := c) 39 9 5 bytes_under u8_under string_under (HRB10.out.drewN k) rfl
  have k3 : ∀ k, (w10.drewN k).cell? ⟨b3, o3 + bs.length, none⟩ = some (.int .u8 77) := fun k => (HO10.out.cell (j := bs.length) (u := Mem.byteV 77) (by rw [List.getElem?_map, List.getElem?_append_right (Nat.le_refl _), Nat.sub_self]; rfl) : w10.cell? ⟨b3, o3 + bs.length, none⟩ = _)
  have hc3 := HC3.out
  clear h1 HRB10
  have HK3 : Hid (∀ w, (binOp .eql 37 (.agg rm.1.toArray) (.agg rm.1.toArray)).run Try.prog w = .ok (.bool true) w) := fun w => by rw [recK_eq.eql HFD.out HFD.out, (Cells.eqL_iff HFD.out HFD.out).2 rfl]
  have z1 : Hid (∀ w, (∃ n, w = w10.drewN n) → ∀ (j : Nat) (u : Value), rm.1[j]? = some u → w.cell? ⟨gy, 0 + j, none⟩ = some u) := fun w hw j u hu => by
    obtain ⟨k, rfl⟩ := hw
    rw [Nat.zero_add]; exact (HY10.out.keeps ((Mem.Keeps.refl (fun _ => False) w10).drewN k) id).cell hu
  have z2 : Hid (∀ w, (∃ n, w = w10.drewN n) → ∀ (j : Nat) (u : Value), rm.1[j]? = some u → w.cell? ⟨gz, 0 + j, none⟩ = some u) := fun w hw j u hu => by
    obtain ⟨k, rfl⟩ := hw
    rw [Nat.zero_add]; exact (HZ10.out.keeps ((Mem.Keeps.refl (fun _ => False) w10).drewN k) id).cell hu
  go_upto_region 8 with fail
  refine wp_region_quiet_lit (by kernel_rfl) (by kernel_rfl) ?_
  go_big_quiet_want
  refine Mem.quiet_load _ _ record_agg gy 0 rm.1 rfl hrl.out z1.out ?_
  simp only [Act.put, List.setIfInBounds_toArray, List.set_cons_succ, List.set_cons_zero]
  go_big_quiet_on
  go_big_quiet_want
  refine Mem.quiet_load _ _ record_agg gz 0 rm.1 rfl hrl.out z2.out ?_
  simp only [Act.put, List.setIfInBounds_toArray, List.set_cons_succ, List.set_cons_zero]
  go_big_quiet_on
  go_big_quiet_want
  refine Mem.quiet_bin _ _ (by kernel_rfl) rm.1.toArray rm.1.toArray true rfl rfl HK3.out ?_
  simp only [Act.put, List.setIfInBounds_toArray, List.set_cons_succ, List.set_cons_zero]
  go_big_quiet_on
  repeat (go_big_quiet_step (fail))
  refine wpQuiet_nil ?_
  intro w11 hw11
  obtain ⟨nq, rfl⟩ := hw11
  try go_wp2
  go_ret
  exact ⟨rfl, HBW.out.trans (((Mem.Keeps.refl (fun _ => False) w10).drewN nq).below (fun q h => h.elim) HBW.out.size)⟩
theorem opened {H : Type} (enc : TypeId × Value → H) (W : World) (base : Nat) (v0 : Value) {d0 : DataW H} {p0 : List MemPlace}
    (o0 : Value.okWide Try.prog W .any base 39 v0)
    (k0 : DataW.Trod enc Try.prog W 0 (fun _ => true) true 39 v0 d0 p0)
    (z0 : (d0.weights Try.prog 39).all (· ≤ reachBytes) = true) :
    Calls Try.prog 4 #[v0] W fun e w' => e = .returned (.bool true) ∧ Below W.heap.size W w' := by
  obtain ⟨A, c, bs, rfl, h2, h3, h4⟩ := open_bytes o0 k0 z0
  exact walk A c bs W h4 h2 h3
end wireRecordReadsOpen
end Go.Proofs.Ytkfgedgjpgehoaa
