/- The walk of vec.Past. No conditions but that the list is no great one. -/
import Derived.Test.YtelephoalpphkaaAud4
set_option maxRecDepth 8000
namespace Go.Proofs.Ytelephoalpphkaa
open Go.ChangeShapes Go.WideShapes Go.ChangeAt Go.RowKit
set_option linter.unusedVariables false
set_option linter.unusedSimpArgs false
theorem vec_zero : (Try.prog.info? 33).map (fun i => (i.zero, i.size)) = some (some (.agg (Vec.vcCells Vec.vc0).toArray), 9) := by kernel_rfl
theorem dot_zero : (Try.prog.info? 28).map (fun i => (i.zero, i.size)) = some (some (.agg (Vec.dtCells ⟨0, 0, 0⟩).toArray), 3) := by kernel_rfl
namespace Vec
def pastM (es : List Ent) : Vc := es.foldl (fun m e => mergeL [m, e.deps]) vc0
def pastW (m : Vc) (es : List Ent) : Vc := es.foldl (fun m e => withL m [dotE e]) m
def pastL (es : List Ent) : Vc := pastW (pastM es) es
theorem pastM_snoc (es : List Ent) (e : Ent) : pastM (es ++ [e]) = mergeL [pastM es, e.deps] := by unfold pastM; rw [List.foldl_append]; rfl
theorem pastW_snoc (m : Vc) (es : List Ent) (e : Ent) : pastW m (es ++ [e]) = withL (pastW m es) [dotE e] := by unfold pastW; rw [List.foldl_append]; rfl
structure PaRel (w : World) (es : List Ent) (F : List Ent → Vc) (vi : Value) (wr : World) : Prop where
  out : ∃ k : Nat, k ≤ es.length ∧ vi = .int .i64 k ∧ Hid (Vec.VBx wr w.heap.size vc0) ∧ Hid (Vec.VBx wr (w.heap.size + 1) (F (es.take k))) ∧ Hid (Below w.heap.size w wr)
end Vec
open Vec in
set_option maxHeartbeats 8000000 in
theorem past_any (A : Option Addr) (c : Nat) (es : List Vec.Ent) (B : Nat) (w : World) (hr : Mem.Rd w B A (es.flatMap Vec.entCells)) (hB : B ≤ w.heap.size) (hn : es.length ≤ maxLen) :
    Calls Try.prog 21 #[.slice A es.length c] w fun e w' => e = .returned (.agg (Vec.vcCells (Vec.pastL es)).toArray) ∧ Below w.heap.size w w' := by
  unfold maxLen at hn
  have hm := Lib.hid (hr.more hB)
  clear hr
  go_enter Try.func21, Try.ntmps21
  go_wp2
  go_loopw [10] (PaRel w es pastM) (fun t _ => es.length - (intOf t).toNat)
  case atStart =>
    refine ⟨⟨0, by omega, rfl, ?_, ?_, ?_⟩⟩
    · exact (Mem.Bx.new w 33 (vcCells vc0).toArray rfl rfl : Vec.VBx _ _ vc0).below (Reg.below_new _ _) (by simp)
    · exact Mem.Bx.new (w.alloc _) 33 (vcCells vc0).toArray rfl (by simp)
    · exact (Reg.below_new _ _).alloc (by simp) _
  case round =>
    obtain ⟨k, hk, rfl, HZ, HO, HB⟩ := hrel.out
    clear hrel
    have hz := HB.out.size
    have hz1 := HO.out.lt
    by_cases hlt : k < es.length
    · obtain ⟨b, o, e, rfl, hb, he, hat⟩ := ent_elem hm.out hlt
      have HAT := Lib.hid (hat.below HB.out hb)
      have hts := Lib.hid (show pastM (es.take (k + 1)) = (mergeL [pastM (es.take k), e.deps]) by rw [Mem.take_snoc he, pastM_snoc])
      obtain ⟨m, hm2⟩ : ∃ m, pastM (es.take k) = m := ⟨_, rfl⟩
      rw [hm2] at HO hts
      obtain ⟨gv, hgv⟩ : ∃ gv, wr.heap.size = gv := ⟨_, rfl⟩
      have HGV := Lib.hid hgv
      clear hat he hm2 hgv
      go_upto_region 5 with (first | ((with_reducible refine Mem.load_agg _ _ entry_agg b (o + k * 20) (entCells e) ?hx (entCells_length e) HAT.out.c ?_); case hx => exact rfl) | ((with_reducible refine Mem.store_agg _ _ entry_agg wr.heap.size ?zs (entCells e) ?hx ?hy ?hb (entCells_length e) (ent_one e) ?_); (case hx => exact rfl); (case hy => exact rfl); (case hb => exact Mem.Bx.new wr _ _ rfl rfl); intro w2 hb2 hk2 hs2))
      have HK2 := Lib.hid (hk2.newBox rfl)
      have HG : Hid (EBx w2 gv e) := by show EBx _ _ _; rw [← HGV.out]; exact hb2
      have HZ2 : Hid (Vec.VBx w2 w.heap.size vc0) := HZ.out.keeps HK2.out id
      have HO2 : Hid (Vec.VBx w2 (w.heap.size + 1) m) := HO.out.keeps HK2.out id
      have HB2 : Hid (Below w.heap.size w w2) := HB.out.trans (HK2.out.below (fun k h => h.elim) HB.out.size)
      have hgw : gv < w2.heap.size := HG.out.lt
      have hgo : w.heap.size + 1 < gv := by have := HGV.out; omega
      rw [HGV.out]
      clear hb2 hk2 hs2 HAT HZ HO HB HK2
      have HDEP : Hid (∀ j u, (vcCells e.deps)[j]? = some u → w2.cell? ⟨gv, 9 + j, none⟩ = some u) := HG.out.part 9 rfl
      have HMG := Lib.hid (merge_any (some ⟨w2.heap.size, 0, none⟩) 2 [m, e.deps] (w2.heap.size + 1) (w2.alloc (.cells (vcCells m ++ vcCells e.deps).toArray 33)) (Mem.Rd.alloc_new w2 _ _ _ rfl) (by simp) (by simp [maxLen]))
      have HBA : Hid (Below w2.heap.size w2 (w2.alloc (.cells (vcCells m ++ vcCells e.deps).toArray 33))) := Reg.below_new _ _
      go_wp2_with (first | ((with_reducible refine Mem.load_agg _ _ vec_agg (w.heap.size + 1) 0 (vcCells m) ?hx (vcCells_length m) (fun j u hu => by rw [Nat.zero_add]; exact HO2.out.cell hu) ?_); case hx => exact rfl) | ((with_reducible refine Mem.load_agg _ _ vec_agg gv 9 (vcCells e.deps) ?hx (vcCells_length _) HDEP.out ?_); case hx => exact rfl) | ((with_reducible refine Mem.build2_agg _ _ 9 _ Try.underlying75 vec_zero (by decide) (by decide) (vcCells m) (vcCells e.deps) ?hx ?hy (vcCells_length _) (vcCells_length _) ?_); (case hx => exact rfl); (case hy => exact rfl)) | (go_at_call 19; (refine HMG.out.mono ?_); rintro x w3 ⟨rfl, hb3⟩; have HB3 := Lib.hid (HBA.out.trans (hb3.mono HBA.out.size)); clear hb3 HMG) | ((with_reducible refine Mem.store_agg _ _ vec_agg (w.heap.size + 1) (vcCells m) (vcCells (mergeL [m, e.deps])) ?hx ?hy (HO2.out.below HB3.out (by omega)) (vcCells_length _) (vc_one _) ?_); (case hx => exact rfl); (case hy => exact rfl); intro w4 hb4 hk4 hs4))
      have hs3 := HB3.out.size
      go_roundw
      case rel =>
        refine ⟨⟨k + 1, by omega, by go_num, (HZ2.out.below HB3.out (by omega)).keeps hk4 (by omega), ?_, ?_⟩⟩
        · show Vec.VBx _ _ _
          rw [hts.out]; exact hb4
        · exact (HB2.out.trans (HB3.out.mono HB2.out.size)).trans (hk4.below (fun k h => by omega) (by have := HB2.out.size; omega))
      case measure => simp [intOf]; omega
    · obtain rfl : k = es.length := by omega
      have ho := HO.out
      rw [List.take_length] at ho
      obtain ⟨m0, hm0⟩ : ∃ m0, pastM es = m0 := ⟨_, rfl⟩
      rw [hm0] at ho
      have HM0 := Lib.hid hm0
      have HO1 := Lib.hid ho
      obtain ⟨w9, hw9⟩ : ∃ w9, w9 = wr := ⟨_, rfl⟩
      subst hw9
      clear ho HO hm0
      go_wp2
      go_loopw [22] (PaRel w es (pastW m0)) (fun t _ => es.length - (intOf t).toNat)
      case atStart => exact ⟨⟨0, by omega, rfl, HZ, HO1, HB⟩⟩
      case round =>
        obtain ⟨k, hk, rfl, HZ, HO, HB⟩ := hrel.out
        clear hrel
        have hz := HB.out.size
        have hz1 := HO.out.lt
        by_cases hlt : k < es.length
        · obtain ⟨b, o, e, rfl, hb, he, hat⟩ := ent_elem hm.out hlt
          have HAT := Lib.hid (hat.below HB.out hb)
          have hts := Lib.hid (show pastW m0 (es.take (k + 1)) = (withL (pastW m0 (es.take k)) [dotE e]) by rw [Mem.take_snoc he, pastW_snoc])
          obtain ⟨m, hm2⟩ : ∃ m, pastW m0 (es.take k) = m := ⟨_, rfl⟩
          rw [hm2] at HO hts
          obtain ⟨gv, hgv⟩ : ∃ gv, wr.heap.size = gv := ⟨_, rfl⟩
          have HGV := Lib.hid hgv
          clear hat he hm2 hgv
          go_upto_region 10 with (first | ((with_reducible refine Mem.load_agg _ _ entry_agg b (o + k * 20) (entCells e) ?hx (entCells_length e) HAT.out.c ?_); case hx => exact rfl) | ((with_reducible refine Mem.store_agg _ _ entry_agg wr.heap.size ?zs (entCells e) ?hx ?hy ?hb (entCells_length e) (ent_one e) ?_); (case hx => exact rfl); (case hy => exact rfl); (case hb => exact Mem.Bx.new wr _ _ rfl rfl); intro w2 hb2 hk2 hs2))
          have HK2 := Lib.hid (hk2.newBox rfl)
          have HG : Hid (EBx w2 gv e) := by show EBx _ _ _; rw [← HGV.out]; exact hb2
          have HZ2 : Hid (Vec.VBx w2 w.heap.size vc0) := HZ.out.keeps HK2.out id
          have HO2 : Hid (Vec.VBx w2 (w.heap.size + 1) m) := HO.out.keeps HK2.out id
          have HB2 : Hid (Below w.heap.size w w2) := HB.out.trans (HK2.out.below (fun k h => h.elim) HB.out.size)
          have hgw : gv < w2.heap.size := HG.out.lt
          have hgo : w.heap.size + 1 < gv := by have := HGV.out; omega
          rw [HGV.out]
          clear hb2 hk2 hs2 HAT HZ HO HB HK2
          have HDOT : Hid (∀ j u, (dtCells (dotE e))[j]? = some u → w2.cell? ⟨gv, 0 + j, none⟩ = some u) := HG.out.part 0 rfl
          have HMG := Lib.hid (with_any m (some ⟨w2.heap.size, 0, none⟩) 1 [dotE e] (w2.heap.size + 1) (w2.alloc (.cells (dtCells (dotE e)).toArray 28)) (Mem.Rd.alloc_new w2 _ _ _ rfl) (by simp) (by simp [maxLen]))
          have HBA : Hid (Below w2.heap.size w2 (w2.alloc (.cells (dtCells (dotE e)).toArray 28))) := Reg.below_new _ _
          go_wp2_with (first | ((with_reducible refine Mem.load_agg _ _ vec_agg (w.heap.size + 1) 0 (vcCells m) ?hx (vcCells_length m) (fun j u hu => by rw [Nat.zero_add]; exact HO2.out.cell hu) ?_); case hx => exact rfl) | ((with_reducible refine Mem.load_agg _ _ dot_agg gv 0 (dtCells (dotE e)) ?hx (dtCells_length _) HDOT.out ?_); case hx => exact rfl) | ((with_reducible refine Mem.build1_agg _ _ 3 _ Try.underlying92 dot_zero (by decide) (by decide) (dtCells (dotE e)) ?hx (dtCells_length _) ?_); (case hx => exact rfl)) | (go_at_call 32; (refine HMG.out.mono ?_); rintro x w3 ⟨rfl, hb3⟩; have HB3 := Lib.hid (HBA.out.trans (hb3.mono HBA.out.size)); clear hb3 HMG) | ((with_reducible refine Mem.store_agg _ _ vec_agg (w.heap.size + 1) (vcCells m) (vcCells (withL m [dotE e])) ?hx ?hy (HO2.out.below HB3.out (by omega)) (vcCells_length _) (vc_one _) ?_); (case hx => exact rfl); (case hy => exact rfl); intro w4 hb4 hk4 hs4))
          have hs3 := HB3.out.size
          go_roundw
          case rel =>
            refine ⟨⟨k + 1, by omega, by go_num, (HZ2.out.below HB3.out (by omega)).keeps hk4 (by omega), ?_, ?_⟩⟩
            · show Vec.VBx _ _ _
              rw [hts.out]; exact hb4
            · exact (HB2.out.trans (HB3.out.mono HB2.out.size)).trans (hk4.below (fun k h => by omega) (by have := HB2.out.size; omega))
          case measure => simp [intOf]; omega
        · obtain rfl : k = es.length := by omega
          have ho := HO.out
          rw [List.take_length] at ho
          obtain ⟨m, hm2⟩ : ∃ m, pastW m0 es = m := ⟨_, rfl⟩
          rw [hm2] at ho
          have HM : Hid (pastL es = m) := by show _ = _; unfold pastL; rw [HM0.out]; exact hm2
          have HO2 := Lib.hid ho
          clear ho HO hm2
          go_wp2_with (first | ((with_reducible refine Mem.load_agg _ _ vec_agg (w.heap.size + 1) 0 (vcCells m) ?hx (vcCells_length m) (fun j u hu => by rw [Nat.zero_add]; exact HO2.out.cell hu) ?_); case hx => exact rfl) | ((with_reducible refine Mem.store_agg _ _ vec_agg w.heap.size (vcCells vc0) (vcCells m) ?hx ?hy HZ.out (vcCells_length m) (vc_one m) ?_); (case hx => exact rfl); (case hy => exact rfl); intro w3 hb3 hk3 hs3))
          refine bodyPost_ret (v := .agg (vcCells m).toArray) ?_ rfl ⟨by rw [HM.out], HB.out.trans (hk3.below (fun k h => by omega) HB.out.size)⟩
          rw [Mem.results_agg Try.results21 vec_agg rfl hb3]
end Go.Proofs.Ytelephoalpphkaa
