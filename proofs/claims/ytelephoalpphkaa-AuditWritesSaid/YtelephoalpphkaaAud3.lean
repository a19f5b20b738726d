/- The walks of audit.Closed, vec.Merge, vec.Past. No conditions but that lists are no great ones. -/
import Derived.Test.YtelephoalpphkaaAud2
import Derived.Test.YtelephoalpphkaaTyWith
set_option maxRecDepth 8000
namespace Go.Proofs.Ytelephoalpphkaa
open Go.ChangeShapes Go.WideShapes Go.ChangeAt Go.RowKit
set_option linter.unusedVariables false
set_option linter.unusedSimpArgs false
open Vec in
set_option maxHeartbeats 4000000 in
theorem closed_any (cut : Vec.Vc) (A : Option Addr) (c : Nat) (es : List Vec.Ent) (B : Nat) (w : World) (hr : Mem.Rd w B A (es.flatMap Vec.entCells)) (hB : B ≤ w.heap.size) (hn : es.length ≤ maxLen) :
    Calls Try.prog 17 #[.agg (Vec.vcCells cut).toArray, .slice A es.length c] w fun e w' => e = .returned (.bool (Vec.closedP cut es)) ∧ Below w.heap.size w w' := by
  unfold maxLen at hn
  have hm := Lib.hid (hr.more hB)
  clear hr
  go_enter Try.func17, Try.ntmps17
  go_wp2
  go_loopw [9] (ClRel w cut es) (fun t _ => es.length - (intOf t).toNat)
  case atStart => exact ⟨⟨0, by omega, rfl, rfl, Lib.hid (Mem.Bx.new w 33 (vcCells cut).toArray rfl rfl : Vec.VBx _ _ cut), Reg.below_new _ _⟩⟩
  case round =>
    obtain ⟨k, hk, rfl, HC, HV, HB⟩ := hrel.out
    have hz := HB.out.size
    have hz1 := HV.out.lt
    by_cases hlt : k < es.length
    · obtain ⟨b, o, e, rfl, hb, he, hat⟩ := ent_elem hm.out hlt
      have HAT := Lib.hid (hat.below HB.out hb)
      have hst : closedP cut (es.take (k + 1)) = (!hasD cut (dotE e) || coversV cut e.deps) := by
        unfold closedP
        rw [Mem.take_snoc he, List.all_append]
        have := HC.out
        unfold closedP at this
        rw [this]; simp
      have hal : (!hasD cut (dotE e) || coversV cut e.deps) = false → closedP cut es = false := by
        intro h
        unfold closedP
        rw [List.all_eq_false]
        exact ⟨e, List.mem_of_getElem? he, by simpa using h⟩
      have HST := Lib.hid hst
      have HAL := Lib.hid hal
      clear hat he hst hal
      go_upto_region 4 with (first | ((with_reducible refine Mem.load_agg _ _ entry_agg b (o + k * 20) (entCells e) ?hx (entCells_length e) HAT.out.c ?_); case hx => exact rfl) | ((with_reducible refine Mem.store_agg _ _ entry_agg wr.heap.size ?zs (entCells e) ?hx ?hy ?hb (entCells_length e) (ent_one e) ?_); (case hx => exact rfl); (case hy => exact rfl); (case hb => exact Mem.Bx.new wr _ _ rfl rfl); intro w2 hb2 hk2 hs2))
      have HK2 := Lib.hid (hk2.newBox rfl)
      have hs3 : wr.heap.size < w2.heap.size := hb2.lt
      have HE2 : Hid (EBx w2 wr.heap.size e) := hb2
      have HV2 : Hid (Vec.VBx w2 w.heap.size cut) := HV.out.keeps HK2.out id
      have HB2 : Hid (Below w.heap.size w w2) := HB.out.trans (HK2.out.below (fun k h => h.elim) HB.out.size)
      have HDOT : Hid (∀ j u, (dtCells (dotE e))[j]? = some u → w2.cell? ⟨wr.heap.size, 0 + j, none⟩ = some u) := HE2.out.part 0 rfl
      have HDEP : Hid (∀ w3, Below w2.heap.size w2 w3 → ∀ j u, (vcCells e.deps)[j]? = some u → w3.cell? ⟨wr.heap.size, 9 + j, none⟩ = some u) := fun w3 hb => (HE2.out.below hb hs3).part 9 rfl
      have HH := Lib.hid (hasD_any cut (dotE e) w2)
      obtain ⟨hs, hhs⟩ : ∃ hs, hasD cut (dotE e) = hs := ⟨_, rfl⟩
      obtain ⟨cv, hcv⟩ : ∃ cv, coversV cut e.deps = cv := ⟨_, rfl⟩
      rw [hhs] at HH HST HAL
      rw [hcv] at HST HAL
      have HCV := Lib.hid hcv
      clear hb2 hk2 hs2 HAT HV HB hhs hcv
      cases hs
      case false =>
        go_wp2_with (first | ((with_reducible refine Mem.load_agg _ _ vec_agg w.heap.size 0 (vcCells cut) ?hx (vcCells_length cut) (fun j u hu => by rw [Nat.zero_add]; exact HV2.out.cell hu) ?_); case hx => exact rfl) | ((with_reducible refine Mem.load_agg _ _ dot_agg wr.heap.size 0 (dtCells (dotE e)) ?hx (dtCells_length _) HDOT.out ?_); case hx => exact rfl) | (go_at_call 20; (refine HH.out.mono ?_); rintro x w4 ⟨rfl, hb4⟩; have HB4 := Lib.hid hb4; clear hb4 HH))
        go_roundw
        case rel => exact ⟨⟨k + 1, by omega, by go_num, by show _ = _; rw [HST.out]; rfl, Lib.hid (HV2.out.below HB4.out (by omega)), Lib.hid (HB2.out.trans (HB4.out.mono HB2.out.size))⟩⟩
        case measure => simp [intOf]; omega
      case true =>
        cases cv
        case false =>
          go_wp2_with (first | ((with_reducible refine Mem.load_agg _ _ vec_agg w.heap.size 0 (vcCells cut) ?hx (vcCells_length cut) (fun j u hu => by rw [Nat.zero_add]; exact HV2.out.cell hu) ?_); case hx => exact rfl) | ((with_reducible refine Mem.load_agg _ _ dot_agg wr.heap.size 0 (dtCells (dotE e)) ?hx (dtCells_length _) HDOT.out ?_); case hx => exact rfl) | (go_at_call 20; (refine HH.out.mono ?_); rintro x w4 ⟨rfl, hb4⟩; have HB4 := Lib.hid hb4; have HV4 : Hid (Vec.VBx w4 w.heap.size cut) := HV2.out.below hb4 (by omega); have HD4 := Lib.hid (HDEP.out w4 hb4); have HC4 := Lib.hid (coversV_any cut e.deps w4); rw [HCV.out] at HC4; clear hb4 HH) | ((with_reducible refine Mem.load_aggG _ _ vec_agg w.heap.size 0 (vcCells cut) rfl ?hx (vcCells_length cut) (fun j u hu => by rw [Nat.zero_add]; exact HV4.out.cell hu) ?_); case hx => exact rfl) | ((with_reducible refine Mem.load_aggG _ _ vec_agg wr.heap.size 9 (vcCells e.deps) rfl ?hx (vcCells_length _) HD4.out ?_); case hx => exact rfl) | (go_at_call 29; (refine HC4.out.mono ?_); rintro x w5 ⟨rfl, hb5⟩; have HB5 := Lib.hid hb5; clear hb5 HC4))
          go_ret
          exact ⟨by rw [HAL.out rfl]; rfl, HB2.out.trans ((HB4.out.trans (HB5.out.mono HB4.out.size)).mono HB2.out.size)⟩
        case true =>
          go_wp2_with (first | ((with_reducible refine Mem.load_agg _ _ vec_agg w.heap.size 0 (vcCells cut) ?hx (vcCells_length cut) (fun j u hu => by rw [Nat.zero_add]; exact HV2.out.cell hu) ?_); case hx => exact rfl) | ((with_reducible refine Mem.load_agg _ _ dot_agg wr.heap.size 0 (dtCells (dotE e)) ?hx (dtCells_length _) HDOT.out ?_); case hx => exact rfl) | (go_at_call 20; (refine HH.out.mono ?_); rintro x w4 ⟨rfl, hb4⟩; have HB4 := Lib.hid hb4; have HV4 : Hid (Vec.VBx w4 w.heap.size cut) := HV2.out.below hb4 (by omega); have HD4 := Lib.hid (HDEP.out w4 hb4); have HC4 := Lib.hid (coversV_any cut e.deps w4); rw [HCV.out] at HC4; clear hb4 HH) | ((with_reducible refine Mem.load_aggG _ _ vec_agg w.heap.size 0 (vcCells cut) rfl ?hx (vcCells_length cut) (fun j u hu => by rw [Nat.zero_add]; exact HV4.out.cell hu) ?_); case hx => exact rfl) | ((with_reducible refine Mem.load_aggG _ _ vec_agg wr.heap.size 9 (vcCells e.deps) rfl ?hx (vcCells_length _) HD4.out ?_); case hx => exact rfl) | (go_at_call 29; (refine HC4.out.mono ?_); rintro x w5 ⟨rfl, hb5⟩; have HB5 := Lib.hid hb5; clear hb5 HC4))
          have hz4 := HB4.out.size
          go_roundw
          case rel => exact ⟨⟨k + 1, by omega, by go_num, by show _ = _; rw [HST.out]; rfl, Lib.hid (HV4.out.below HB5.out (by omega)), Lib.hid (HB2.out.trans ((HB4.out.trans (HB5.out.mono HB4.out.size)).mono HB2.out.size))⟩⟩
          case measure => simp [intOf]; omega
    · obtain rfl : k = es.length := by omega
      have hc := HC.out
      rw [List.take_length] at hc
      have HC2 := Lib.hid hc
      clear hc HC
      go_wp2
      go_ret
      exact ⟨by rw [HC2.out]; rfl, HB.out⟩
end Go.Proofs.Ytelephoalpphkaa
