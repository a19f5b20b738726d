/- The walk of WireReads. No conditions. -/
import Derived.Test.YtkfgedgjpgehoaaIn5
import Derived.Test.YtkfgedgjpgehoaaWire21
import Derived.Test.YtkfgedgjpgehoaaWire22
namespace Go.Proofs.Ytkfgedgjpgehoaa
open Go.ChangeShapes Go.WideShapes Go.ChangeAt Go.RowKit
set_option linter.unusedVariables false
set_option linter.unusedSimpArgs false
set_option maxRecDepth 100000
namespace Wi
def RmE (w : World) (r : List Value × Int) (x : Ending) (w' : World) : Prop := x = .returned (.tuple #[.agg r.1.toArray, .int .i64 r.2]) ∧ Below w.heap.size w w'
end Wi
theorem readMsg_rm {w : World} {A : Option Addr} {cap : Nat} {bs : List UInt8} {r : List Value × Int} (h : Wi.readM bs = r) (hR : Mem.Rd w w.heap.size A (bs.map Mem.byteV)) (hl : bs.length ≤ cap) (hb : bs.length ≤ 1000000000) (hcap : cap ≤ maxLen) :
    Calls Try.prog 23 #[.slice A bs.length cap] w (Wi.RmE w r) := by
  subst h
  exact readMsg_any hR hl hb hcap
theorem refMsg_rm {w : World} {A : Option Addr} {cap : Nat} {bs : List UInt8} {r : List Value × Int} (h : Wi.refM bs = r) (hR : Mem.Rd w w.heap.size A (bs.map Mem.byteV)) (hl : bs.length ≤ cap) (hb : bs.length ≤ 1000000000) (hcap : cap ≤ maxLen) :
    Calls Try.prog 24 #[.slice A bs.length cap] w (Wi.RmE w r) := by
  subst h
  exact refReadMsg_any hR hl hb hcap
namespace wireReadsOpen
open Wi
structure RsRel (w : World) (A1 : Option Addr) (c1 n : Nat) (g1 g2 : Nat) (xs : List Value) (v8 : Value) (wr : World) : Prop where
  out : ∃ (k : Nat) (us : List UInt8), k ≤ n ∧ v8 = .int .i64 k ∧ us.length = n ∧ Hid (Mem.Own wr 5 1 A1 n c1 (us.map Mem.byteV)) ∧ Hid (Mem.Bx wr 55 74 g1 xs) ∧ Hid (Mem.Bx wr 55 74 g2 xs) ∧ Hid (Below w.heap.size w wr)
set_option maxHeartbeats 4000000 in
theorem walk (A : Option Addr) (c : Nat) (bs : List UInt8) (w : World) (hr : Mem.Rd w w.heap.size A (bs.map Mem.byteV)) (hc : bs.length ≤ c) (hc2 : c ≤ 140737488351232) :
    Calls Try.prog 11 #[.slice A bs.length c] w fun e w' => e = .returned (.bool true) ∧ Below w.heap.size w w' := by
  have HRB := Lib.hid hr
  clear hr
  go_enter Try.func11, Try.ntmps11
  have HA := Lib.hid (wireAble_any w)
  go_upto_region 3 with (go_at_call 14; refine HA.out.mono ?_; rintro x3 w3 ⟨rfl, hb3⟩; have HB3 := Lib.hid hb3; clear hb3 HA)
  by_cases hbl : bs.length ≤ 100000
  case neg =>
    have d1 : decide ((100000 : Int) < (bs.length : Int)) = true := by simp; omega
    clear hbl
    go_wp2
    go_ret
    exact ⟨rfl, HB3.out⟩
  have d1 : decide ((100000 : Int) < (bs.length : Int)) = false := by simp; omega
  have HRB3 : Hid (Mem.Rd w3 w3.heap.size A (bs.map Mem.byteV)) := (HRB.out.below HB3.out).more HB3.out.size
  have hbl' : bs.length ≤ 1000000000 := by omega
  have HBL := Lib.hid hbl
  go_upto_region 5 with fail
  clear d1
  go_upto_region 6 with (first | (at_builtin; refine Mem.wpList_clone _ rfl (.tmp 14) (.tmp 15) _ rfl bytes_elem w3.heap.size rfl w3 w3.heap.size A bs.length c _ rfl ?_ rfl (Below.refl _ _) (Nat.le_refl _) HRB3.out (by simp) (Mem.bytes_one _) (by unfold maxLen; omega) (by omega); intro A2 c2 w4 hown hb2 hs2 hf2; have HO2 := Lib.hid hown; have HB4 := Lib.hid hb2; have HF2 := Lib.hid hf2; clear hown hb2 hs2 hf2) | (at_builtin; refine Mem.wpList_app _ rfl (.tmp 16) (.tmp 17) _ rfl bytes_elem A2 bs.length c2 _ rfl (w4.heap.size + 1) (some ⟨w4.heap.size, 0, none⟩) 1 1 [.int .u8 77] rfl ?_ (HO2.out.alloc _) (Mem.Rd.alloc_new w4 _ _ _ rfl) rfl (by simp [Value.oneCell']) (by unfold maxLen; omega) (by omega); intro A3 c3 w5 hown hg2 hat; have hk5 := ((Mem.Keeps.refl (fun q => Mem.blk A2 = some q) w4).alloc (.cells #[.int .u8 77] 5)).grown hg2 (fun k hk _ => hk); have HK5 := Lib.hid hk5; have HO3 := Lib.hid hown; have HG3 := Lib.hid hg2; have HT3 := Lib.hid hat; clear hown hg2 hat hk5))
  have HB5 : Hid (Below w3.heap.size w3 w5) := HB4.out.trans (HK5.out.below (fun q h => HF2.out.blk q h) HB4.out.size)
  have HF3 : Hid (∀ k, Mem.blk A3 = some k → w3.heap.size ≤ k) := fun k hk => by
    rcases HT3.out with h | h
    · rw [h] at hk; exact HF2.out.blk k hk
    · rw [h] at hk; have e9 : (w4.alloc (.cells #[.int .u8 77] 5)).heap.size = k := (by simpa [Mem.blk] using hk); have := HB4.out.size; have e8 : (w4.alloc (.cells #[.int .u8 77] 5)).heap.size = w4.heap.size + 1 := Array.size_push _; omega
  have HO5 : Hid (Mem.Own w5 5 1 A3 (bs.length + 1) c3 ((bs ++ [77]).map Mem.byteV)) := by
    show Mem.Own _ _ _ _ _ _ _
    rw [List.map_append]; exact HO3.out
  have HRT : Hid (Mem.Rd w5 w5.heap.size A3 (bs.map Mem.byteV)) := by
    have h9 := HO5.out.rd.take bs.length
    rw [← List.map_take, List.take_left] at h9
    exact h9
  have hc3 : bs.length + 1 ≤ c3 := HO5.out.le
  have hc33 := HO5.out.cap
  obtain ⟨b3, o3, rfl⟩ := HO5.out.form (by omega)
  obtain ⟨rm, hrm⟩ : ∃ rm, readM bs = rm := ⟨_, rfl⟩
  have hrf : Fed msgK rm.1 := by rw [← hrm]; exact readM_fed _
  have hone : Hid (∀ y ∈ rm.1, y.oneCell' = true) := okL_one hrf.ok
  have hrl : Hid (rm.1.length = 74) := hrf.ok.len
  have HRM := Lib.hid hrm
  have HFD := Lib.hid hrf
  have hrr := readMsg_rm hrm HRT.out (by omega) hbl' hc33
  have HRR := Lib.hid hrr
  have HC3 := Lib.hid hc3
  clear hrm hrf hrr HO2 HB4 HF2 HK5 HO3 HG3 HT3
  go_upto_region 7 with (first | (go_at_call 23; refine HRR.out.mono ?_; intro x7 w7 hrr; obtain ⟨rfl, h3⟩ := hrr; have HBb := Lib.hid h3; clear h3 HRR) | ((with_reducible refine Mem.store_agg _ _ msg_agg w7.heap.size zeroM rm.1 ?hx ?hy ?hb hrl.out hone.out ?_); ((case hx => exact rfl); (case hy => exact rfl); (case hb => exact msgBox_new w7); intro w8 hb4 hk4 hs4; have HY8 := Lib.hid hb4; have HKc : Hid (Below w7.heap.size w7 w8) := (hk4.newBox rfl).belowAll; clear hb4 hk4 hs4)))
  have HB8 : Hid (Below w5.heap.size w5 w8) := HBb.out.trans (HKc.out.mono HBb.out.size)
  have HL8 : Hid (w5.heap.size ≤ w7.heap.size) := HBb.out.size
  have HB38 : Hid (Below w3.heap.size w3 w8) := HB5.out.trans (HB8.out.mono HB5.out.size)
  have HO8 : Hid (Mem.Own w8 5 1 (some ⟨b3, o3, none⟩) (bs.length + 1) c3 ((bs ++ [77]).map Mem.byteV)) := HO5.out.below HB8.out (fun k hk => HO5.out.lt hk)
  have HRB8 : Hid (Mem.Rd w8 w8.heap.size A (bs.map Mem.byteV)) := (HRB3.out.below HB38.out).more HB38.out.size
  obtain ⟨gy, hgy⟩ : ∃ gy, w7.heap.size = gy := ⟨_, rfl⟩
  have HGY : Hid (b3 < gy) := by have := HO5.out.lt (k := b3) rfl; have := HL8.out; show _ < _; omega
  have HG3 : Hid (w3.heap.size ≤ b3) := HF3.out b3 rfl
  rw [hgy] at HY8 ⊢
  have hcm : c ≤ maxLen := by unfold maxLen; omega
  have hrr := refMsg_rm ((refM_eq HBL.out).trans HRM.out) HRB8.out hc hbl' hcm
  have HRR := Lib.hid hrr
  clear hgy hrr HBb HKc HB8 HL8 HO5 HRT HF3 hcm hc33
  go_upto_region 8 with (first | (go_at_call 24; refine HRR.out.mono ?_; intro x9 w9 hrr; obtain ⟨rfl, h3⟩ := hrr; have HBb := Lib.hid h3; clear h3 HRR) | ((with_reducible refine Mem.store_agg _ _ msg_agg w9.heap.size zeroM rm.1 ?hx ?hy ?hb hrl.out hone.out ?_); ((case hx => exact rfl); (case hy => exact rfl); (case hb => exact msgBox_new w9); intro w10 hb4 hk4 hs4; have HZ10 := Lib.hid hb4; have HKc : Hid (Below w9.heap.size w9 w10) := (hk4.newBox rfl).belowAll; clear hb4 hk4 hs4)))
  have HB10 : Hid (Below w8.heap.size w8 w10) := HBb.out.trans (HKc.out.mono HBb.out.size)
  have HB310 : Hid (Below w3.heap.size w3 w10) := HB38.out.trans (HB10.out.mono HB38.out.size)
  have HL10 : Hid (w8.heap.size ≤ w9.heap.size) := HBb.out.size
  have HY10 : Hid (Mem.Bx w10 55 74 gy rm.1) := HY8.out.keeps (Mem.Keeps.of_below HB10.out) id
  have HO10 : Hid (Mem.Own w10 5 1 (some ⟨b3, o3, none⟩) (bs.length + 1) c3 ((bs ++ [77]).map Mem.byteV)) := HO8.out.below HB10.out (fun k hk => HO8.out.lt hk)
  have HRB10 : Hid (Mem.Rd w10 w10.heap.size A (bs.map Mem.byteV)) := (HRB8.out.below HB10.out).more HB10.out.size
  have HBW : Hid (Below w.heap.size w w10) := HB3.out.trans (HB310.out.mono HB3.out.size)
  obtain ⟨gz, hgz⟩ : ∃ gz, w9.heap.size = gz := ⟨_, rfl⟩
  have HGZ : Hid (gy < gz) := by have := HY8.out.lt; have := HL10.out; show _ < _; omega
  have HWS : Hid (w.heap.size ≤ w3.heap.size) := HB3.out.size
  rw [hgz] at HZ10 ⊢
  clear hgz HBb HKc HB10 HL10 HY8 HO8 HRB8 HB38 HB310 HRB3 HB3 HRB HB5 hone
  have h1 : Hid (∀ k, Mem.Rd (w10.drewN k) w10.heap.size (some ⟨b3, o3, none⟩) (bs.map Mem.byteV)) := fun k => by
    have h9 := HO10.out.rd.take bs.length
    rw [← List.map_take, List.take_left] at h9
    exact h9.drewN k
  have k1 : ∀ k, (convert 39 9 (.slice (some ⟨b3, o3, none⟩) bs.length c3)).run Try.prog (w10.drewN k) = .ok (.string (sB bs)) (w10.drewN k) := fun k =>
    Mem.conv_all (P := Try.prog) (w := w10.drewN k) (cap := c3) 39 9 5 bytes_under u8_under string_under (h1.out k) rfl
  have k2 : ∀ k, (convert 39 9 (.slice A bs.length c)).run Try.prog (w10.drewN k) = .ok (.string (sB bs)) (w10.drewN k) := fun k =>
    Mem.conv_all (P := Try.prog) (w := w10.drewN k) (cap := c) 39 9 5 bytes_under u8_under string_under (HRB10.out.drewN k) rfl
  have k3 : ∀ k, (w10.drewN k).cell? ⟨b3, o3 + bs.length, none⟩ = some (.int .u8 77) := fun k => (HO10.out.cell (j := bs.length) (u := Mem.byteV 77) (by rw [List.getElem?_map, List.getElem?_append_right (Nat.le_refl _), Nat.sub_self]; rfl) : w10.cell? ⟨b3, o3 + bs.length, none⟩ = _)
  have hc3 := HC3.out
  clear h1 HRB10
  go_wp2
  go_quiet (fail)
  obtain ⟨w11, hw11⟩ : ∃ w11, w10.drewN nq = w11 := ⟨_, rfl⟩
  have HO11 : Hid (Mem.Own w11 5 1 (some ⟨b3, o3, none⟩) (bs.length + 1) c3 ((bs ++ [77]).map Mem.byteV)) := by show Mem.Own _ _ _ _ _ _ _; rw [← hw11]; exact HO10.out.keeps ((Mem.Keeps.refl (fun _ => False) w10).drewN nq) (fun _ _ h => h)
  have HY11 : Hid (Mem.Bx w11 55 74 gy rm.1) := by show Mem.Bx _ _ _ _ _; rw [← hw11]; exact HY10.out.keeps ((Mem.Keeps.refl (fun _ => False) w10).drewN nq) id
  have HZ11 : Hid (Mem.Bx w11 55 74 gz rm.1) := by show Mem.Bx _ _ _ _ _; rw [← hw11]; exact HZ10.out.keeps ((Mem.Keeps.refl (fun _ => False) w10).drewN nq) id
  have HB11 : Hid (Below w.heap.size w w11) := by show Below _ _ _; rw [← hw11]; exact HBW.out.trans (((Mem.Keeps.refl (fun _ => False) w10).drewN nq).below (fun q h => h.elim) HBW.out.size)
  rw [hw11]
  clear hw11 k1 k2 k3 HO10 HY10 HZ10 HBW
  go_wp2
  go_loopw [8] (RsRel w (some ⟨b3, o3, none⟩) c3 (bs.length + 1) gy gz rm.1) (fun t _ => bs.length + 1 - (intOf t).toNat)
  case atStart => exact ⟨⟨0, bs ++ [77], by omega, rfl, by simp, HO11, HY11, HZ11, HB11⟩⟩
  case round =>
    obtain ⟨k, us, hk, rfl, hul, HX, HY, HZr, HBr⟩ := hrel.out
    clear hrel
    by_cases hlt : k < bs.length + 1
    · obtain ⟨uk, huk⟩ : ∃ uk, us[k]? = some uk := ⟨_, List.getElem?_eq_getElem (by omega)⟩
      have x0 := HX.out.cell (j := k) (u := Mem.byteV uk) (by rw [List.getElem?_map, huk]; rfl)
      have xf := HX.out.free (o := o3) (o3 + k)
      have hkS : Mem.Keeps (fun q => q = b3) wr (wr.setCell ⟨b3, o3 + k, none⟩ (.int .u8 255)) := (Mem.Keeps.refl (fun q => q = b3) wr).setCell (p := ⟨b3, o3 + k, none⟩) (fun _ => rfl) _
      have HX' : Hid (Mem.Own (wr.setCell ⟨b3, o3 + k, none⟩ (.int .u8 255)) 5 1 (some ⟨b3, o3, none⟩) (bs.length + 1) c3 ((us.set k 255).map Mem.byteV)) := by
        have := HX.out.set k (.int .u8 255)
        rw [List.map_set]
        exact this
      have HY' : Hid (Mem.Bx (wr.setCell ⟨b3, o3 + k, none⟩ (.int .u8 255)) 55 74 gy rm.1) := HY.out.keeps hkS (fun h => by have := HGY.out; omega)
      have HZ' : Hid (Mem.Bx (wr.setCell ⟨b3, o3 + k, none⟩ (.int .u8 255)) 55 74 gz rm.1) := HZr.out.keeps hkS (fun h => by have := HGY.out; have := HGZ.out; omega)
      have HB' : Hid (Below w.heap.size w (wr.setCell ⟨b3, o3 + k, none⟩ (.int .u8 255))) := HBr.out.trans (hkS.below (fun q h => by subst h; exact Nat.le_trans HWS.out HG3.out) HBr.out.size)
      have hsl : Hid ((us.set k 255).length = bs.length + 1) := by show _ = _; rw [List.length_set]; exact hul
      have d1 : decide ((k : Int) < (bs.length : Int) + 1) = true := by simp; omega
      clear HX HY HZr HBr hkS hul huk
      go_wp2
      go_roundw
      case rel => exact ⟨⟨k + 1, us.set k 255, by omega, by go_num, hsl.out, HX', HY', HZ', HB'⟩⟩
      case measure => simp [intOf]; omega
    · obtain rfl : k = bs.length + 1 := by omega
      have d1 : decide (((bs.length + 1 : Nat) : Int) < (bs.length : Int) + 1) = false := by simp
      have HK3 : Hid (∀ w, (binOp .eql 55 (.agg rm.1.toArray) (.agg rm.1.toArray)).run Try.prog w = .ok (.bool true) w) := fun w => by rw [msgK_eq.eql HFD.out.ok HFD.out.ok, (Cells.eqL_iff HFD.out.ok HFD.out.ok).2 rfl]
      clear hlt hk HX hul
      go_wp2_with (first | ((with_reducible refine Mem.load_agg _ _ msg_agg gy 0 rm.1 ?hxq hrl.out (fun j u hu => by rw [Nat.zero_add]; exact HY.out.cell hu) ?_); case hxq => exact rfl) | ((with_reducible refine Mem.load_agg _ _ msg_agg gz 0 rm.1 ?hxr hrl.out (fun j u hu => by rw [Nat.zero_add]; exact HZr.out.cell hu) ?_); case hxr => exact rfl) | ((with_reducible refine Mem.wpList_bin _ _ ?hm8 rm.1.toArray rm.1.toArray true ?hx8 ?hy8 HK3.out ?_); ((case hm8 => kernel_rfl); (case hx8 => exact rfl); (case hy8 => exact rfl))))
      go_ret
      exact ⟨rfl, HBr.out⟩
theorem opened {H : Type} (enc : TypeId × Value → H) (W : World) (base : Nat) (v0 : Value) {d0 : DataW H} {p0 : List MemPlace}
    (o0 : Value.okWide Try.prog W .any base 39 v0)
    (k0 : DataW.Trod enc Try.prog W 0 (fun _ => true) true 39 v0 d0 p0)
    (z0 : (d0.weights Try.prog 39).all (· ≤ reachBytes) = true) :
    Calls Try.prog 11 #[v0] W fun e w' => e = .returned (.bool true) ∧ Below W.heap.size W w' := by
  obtain ⟨A, c, bs, rfl, h2, h3, h4⟩ := open_bytes o0 k0 z0
  exact walk A c bs W h4 h2 h3
end wireReadsOpen
end Go.Proofs.Ytkfgedgjpgehoaa
