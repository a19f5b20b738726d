/- able, much of the statements on reads. No conditions. -/
import Derived.Test.YtiibgkgbghganaaSv2
import Derived.Test.YtiibgkgbghganaaSvEq
namespace Go.Proofs.Ytiibgkgbghganaa
open Go.ChangeShapes Go.WideShapes Go.ChangeAt Go.RowKit
set_option linter.unusedVariables false
set_option linter.unusedSimpArgs false

namespace Vec
def eA : Ent := ⟨0, 0, 1, ⟨1, 0, 0⟩, ⟨#[97]⟩, ⟨#[120]⟩, false, vc0, 0, 1⟩
def eB : Ent := ⟨0, 0, 2, ⟨3, 0, 0⟩, ⟨#[97]⟩, ⟨#[121]⟩, false, ⟨⟨1, 0, 0⟩, col0, col0⟩, 0, 2⟩
def q1 : Qy := ⟨⟨#[97]⟩, vc0, false, vc0, col0⟩
def q2 : Qy := ⟨⟨#[97]⟩, vc0, true, ⟨⟨1, 0, 0⟩, col0, col0⟩, col0⟩
def q3 : Qy := ⟨⟨#[97]⟩, ⟨⟨3, 0, 0⟩, col0, col0⟩, false, vc0, col0⟩
theorem read1 : Vec.read 0 q1 [eA, eB] = ⟨0, true, eB, ⟨2, 0, 0⟩⟩ := by rfl
theorem read2 : Vec.read 0 q2 [eA, eB] = ⟨0, true, eA, ⟨2, 0, 0⟩⟩ := by rfl
theorem read3 : Vec.read 0 q3 [eA, eB] = ⟨91, false, ent0, col0⟩ := by rfl
end Vec
open Vec in
set_option maxRecDepth 8000 in
set_option maxHeartbeats 4000000 in
theorem serveAble_any (w : World) :
    Calls Try.prog 8 #[] w fun e w' => e = .returned (.bool true) ∧ Below w.heap.size w w' := by
  go_enter Try.func8, Try.ntmps8
  have ho := ent_one eA
  go_upto_region 2 with ((with_reducible refine Mem.store_agg _ _ entry_agg w.heap.size (entCells ent0) (entCells eA) ?hx2 ?hy2 ?hb2 (entCells_length _) ho ?_); ((case hx2 => exact rfl); (case hy2 => exact rfl); (case hb2 => exact Mem.Bx.new w _ (entCells ent0).toArray rfl rfl); intro w1 hb2 hk2 hs2))
  have Hw1 : Hid (EBx w1 w.heap.size eA) := hb2
  have HKw1 : Hid (Below w.heap.size w w1) := (hk2.newBox rfl).belowAll
  clear hb2 hk2 hs2 ho
  have ho := ent_one eB
  go_upto_region 3 with ((with_reducible refine Mem.store_agg _ _ entry_agg w1.heap.size (entCells ent0) (entCells eB) ?hx3 ?hy3 ?hb3 (entCells_length _) ho ?_); ((case hx3 => exact rfl); (case hy3 => exact rfl); (case hb3 => exact Mem.Bx.new w1 _ (entCells ent0).toArray rfl rfl); intro w2 hb2 hk2 hs2))
  have Hw2 : Hid (EBx w2 w1.heap.size eB) := hb2
  have HKw2 : Hid (Below w1.heap.size w1 w2) := (hk2.newBox rfl).belowAll
  clear hb2 hk2 hs2 ho
  have hz1 := HKw1.out.size
  have hz2 := HKw2.out.size
  have hg1 := Hw1.out.lt
  have hg2 := Hw2.out.lt
  have HAw2 : Hid (EBx w2 w.heap.size eA) := Hw1.out.below HKw2.out hg1
  have HBw2 : Hid (EBx w2 w1.heap.size eB) := Hw2.out
  have HWw2 : Hid (Below w.heap.size w w2) := HKw1.out.trans (HKw2.out.mono hz1)
  clear Hw1 Hw2 HKw1 HKw2
  have ho := ans_one ⟨0,true,eB,⟨2,0,0⟩⟩
  go_upto_region 4 with (first | ((with_reducible refine Mem.load_agg _ _ entry_agg w.heap.size 0 (entCells eA) ?hp4 (entCells_length _) (fun j u hu => by rw [Nat.zero_add]; exact HAw2.out.cell hu) ?_); (case hp4 => exact rfl)) | ((with_reducible refine Mem.load_agg _ _ entry_agg w1.heap.size 0 (entCells eB) ?hq4 (entCells_length _) (fun j u hu => by rw [Nat.zero_add]; exact HBw2.out.cell hu) ?_); (case hq4 => exact rfl)) | ((with_reducible refine Mem.build2_agg _ _ 20 _ Try.underlying22 entry_zero (by decide) (by decide) (entCells eA) (entCells eB) ?hr4 ?hs4 (entCells_length _) (entCells_length _) ?_); ((case hr4 => exact rfl); (case hs4 => exact rfl))) | (go_at_call 11; refine (read_any 0 q1 (some ⟨w2.heap.size, 0, none⟩) 2 [eA, eB] (w2.heap.size + 1) _ (Mem.Rd.alloc_new w2 (entCells eA ++ entCells eB).toArray _ _ rfl) (by simp) (by decide)).mono ?_; rintro x v3 ⟨rfl, hbr⟩; rw [read1]) | ((with_reducible refine Mem.store_agg _ _ answer_agg v3.heap.size (ansCells ans0) (ansCells ⟨0,true,eB,⟨2,0,0⟩⟩) ?hx4 ?hy4 ?hb4 (ansCells_length _) ho ?_); ((case hx4 => exact rfl); (case hy4 => exact rfl); (case hb4 => exact Mem.Bx.new v3 _ (ansCells ans0).toArray rfl rfl); intro w3 hb2 hk2 hs2)))
  have hb3 : Below w2.heap.size w2 v3 := (Reg.below_new _ _).trans (hbr.mono (by simp))
  have HKw3 : Hid (Below w2.heap.size w2 w3) := hb3.trans ((hk2.newBox rfl).belowAll.mono hb3.size)
  have HRw3 : Hid (ABx w3 v3.heap.size ⟨0,true,eB,⟨2,0,0⟩⟩) := hb2
  have HAw3 : Hid (EBx w3 w.heap.size eA) := HAw2.out.below HKw3.out HAw2.out.lt
  have HBw3 : Hid (EBx w3 w1.heap.size eB) := HBw2.out.below HKw3.out HBw2.out.lt
  have HWw3 : Hid (Below w.heap.size w w3) := HWw2.out.trans (HKw3.out.mono HWw2.out.size)
  clear hb2 hk2 hs2 ho hb3 hbr
  have ho := ans_one ⟨0,true,eA,⟨2,0,0⟩⟩
  go_upto_region 5 with (first | ((with_reducible refine Mem.load_agg _ _ entry_agg w.heap.size 0 (entCells eA) ?hp5 (entCells_length _) (fun j u hu => by rw [Nat.zero_add]; exact HAw3.out.cell hu) ?_); (case hp5 => exact rfl)) | ((with_reducible refine Mem.load_agg _ _ entry_agg w1.heap.size 0 (entCells eB) ?hq5 (entCells_length _) (fun j u hu => by rw [Nat.zero_add]; exact HBw3.out.cell hu) ?_); (case hq5 => exact rfl)) | ((with_reducible refine Mem.build2_agg _ _ 20 _ Try.underlying22 entry_zero (by decide) (by decide) (entCells eA) (entCells eB) ?hr5 ?hs5 (entCells_length _) (entCells_length _) ?_); ((case hr5 => exact rfl); (case hs5 => exact rfl))) | (go_at_call 11; refine (read_any 0 q2 (some ⟨w3.heap.size, 0, none⟩) 2 [eA, eB] (w3.heap.size + 1) _ (Mem.Rd.alloc_new w3 (entCells eA ++ entCells eB).toArray _ _ rfl) (by simp) (by decide)).mono ?_; rintro x v4 ⟨rfl, hbr⟩; rw [read2]) | ((with_reducible refine Mem.store_agg _ _ answer_agg v4.heap.size (ansCells ans0) (ansCells ⟨0,true,eA,⟨2,0,0⟩⟩) ?hx5 ?hy5 ?hb5 (ansCells_length _) ho ?_); ((case hx5 => exact rfl); (case hy5 => exact rfl); (case hb5 => exact Mem.Bx.new v4 _ (ansCells ans0).toArray rfl rfl); intro w4 hb2 hk2 hs2)))
  have hb3 : Below w3.heap.size w3 v4 := (Reg.below_new _ _).trans (hbr.mono (by simp))
  have HKw4 : Hid (Below w3.heap.size w3 w4) := hb3.trans ((hk2.newBox rfl).belowAll.mono hb3.size)
  have HRw4 : Hid (ABx w4 v4.heap.size ⟨0,true,eA,⟨2,0,0⟩⟩) := hb2
  have HAw4 : Hid (EBx w4 w.heap.size eA) := HAw3.out.below HKw4.out HAw3.out.lt
  have HBw4 : Hid (EBx w4 w1.heap.size eB) := HBw3.out.below HKw4.out HBw3.out.lt
  have HWw4 : Hid (Below w.heap.size w w4) := HWw3.out.trans (HKw4.out.mono HWw3.out.size)
  clear hb2 hk2 hs2 ho hb3 hbr
  have ho := ans_one ⟨91,false,ent0,col0⟩
  go_upto_region 6 with (first | ((with_reducible refine Mem.load_agg _ _ entry_agg w.heap.size 0 (entCells eA) ?hp6 (entCells_length _) (fun j u hu => by rw [Nat.zero_add]; exact HAw4.out.cell hu) ?_); (case hp6 => exact rfl)) | ((with_reducible refine Mem.load_agg _ _ entry_agg w1.heap.size 0 (entCells eB) ?hq6 (entCells_length _) (fun j u hu => by rw [Nat.zero_add]; exact HBw4.out.cell hu) ?_); (case hq6 => exact rfl)) | ((with_reducible refine Mem.build2_agg _ _ 20 _ Try.underlying22 entry_zero (by decide) (by decide) (entCells eA) (entCells eB) ?hr6 ?hs6 (entCells_length _) (entCells_length _) ?_); ((case hr6 => exact rfl); (case hs6 => exact rfl))) | (go_at_call 11; refine (read_any 0 q3 (some ⟨w4.heap.size, 0, none⟩) 2 [eA, eB] (w4.heap.size + 1) _ (Mem.Rd.alloc_new w4 (entCells eA ++ entCells eB).toArray _ _ rfl) (by simp) (by decide)).mono ?_; rintro x v5 ⟨rfl, hbr⟩; rw [read3]) | ((with_reducible refine Mem.store_agg _ _ answer_agg v5.heap.size (ansCells ans0) (ansCells ⟨91,false,ent0,col0⟩) ?hx6 ?hy6 ?hb6 (ansCells_length _) ho ?_); ((case hx6 => exact rfl); (case hy6 => exact rfl); (case hb6 => exact Mem.Bx.new v5 _ (ansCells ans0).toArray rfl rfl); intro w5 hb2 hk2 hs2)))
  have hb3 : Below w4.heap.size w4 v5 := (Reg.below_new _ _).trans (hbr.mono (by simp))
  have HKw5 : Hid (Below w4.heap.size w4 w5) := hb3.trans ((hk2.newBox rfl).belowAll.mono hb3.size)
  have HRw5 : Hid (ABx w5 v5.heap.size ⟨91,false,ent0,col0⟩) := hb2
  have HAw5 : Hid (EBx w5 w.heap.size eA) := HAw4.out.below HKw5.out HAw4.out.lt
  have HBw5 : Hid (EBx w5 w1.heap.size eB) := HBw4.out.below HKw5.out HBw4.out.lt
  have HWw5 : Hid (Below w.heap.size w w5) := HWw4.out.trans (HKw5.out.mono HWw4.out.size)
  clear hb2 hk2 hs2 ho hb3 hbr
  have HR3 : Hid (ABx w5 v3.heap.size ⟨0, true, eB, ⟨2, 0, 0⟩⟩) := (HRw3.out.below HKw4.out HRw3.out.lt).below HKw5.out (Nat.lt_of_lt_of_le HRw3.out.lt HKw4.out.size)
  have HR4 : Hid (ABx w5 v4.heap.size ⟨0, true, eA, ⟨2, 0, 0⟩⟩) := HRw4.out.below HKw5.out HRw4.out.lt
  clear HRw3 HRw4 HKw3 HKw4 HKw5 HWw2 HWw3 HWw4 HAw2 HAw3 HAw4 HBw2 HBw3 HBw4
  have k0 := HR3.out.cell (j := 1) rfl
  have k1 := HR3.out.cell (j := 22) rfl
  have k2 := HR3.out.cell (j := 23) rfl
  have k3 := HR3.out.cell (j := 24) rfl
  have k4 := HR4.out.cell (j := 1) rfl
  have k5 := HRw5.out.cell (j := 0) rfl
  have e1 : ∀ W, (binOp .eql 33 (.agg (entCells eB).toArray) (.agg (entCells eB).toArray)).run Try.prog W = .ok (.bool true) W := fun W => by rw [eql_ent, eqEnt_iff.2 rfl]
  have e2 : ∀ W, (binOp .eql 33 (.agg (entCells eA).toArray) (.agg (entCells eA).toArray)).run Try.prog W = .ok (.bool true) W := fun W => by rw [eql_ent, eqEnt_iff.2 rfl]
  have e3 : ∀ W, (binOp .eql 37 (.agg #[.int .i64 2, .int .i64 0, .int .i64 0]) (.agg #[.int .i64 2, .int .i64 0, .int .i64 0])).run Try.prog W = .ok (.bool true) W := fun W => eql_col ⟨2, 0, 0⟩ ⟨2, 0, 0⟩ W
  go_wp2_with (first | ((with_reducible refine Mem.load_aggG _ _ entry_agg v3.heap.size 2 (entCells eB) ?hwa ?hxa (entCells_length _) (HR3.out.part 2 rfl) ?_); ((case hwa => rfl); (case hxa => exact rfl))) | ((with_reducible refine Mem.load_aggG _ _ entry_agg w1.heap.size 0 (entCells eB) ?hwb ?hxb (entCells_length _) (fun j u hu => by rw [Nat.zero_add]; exact HBw5.out.cell hu) ?_); ((case hwb => rfl); (case hxb => exact rfl))) | ((with_reducible refine Mem.load_aggG _ _ entry_agg v4.heap.size 2 (entCells eA) ?hwc ?hxc (entCells_length _) (HR4.out.part 2 rfl) ?_); ((case hwc => rfl); (case hxc => exact rfl))) | ((with_reducible refine Mem.load_aggG _ _ entry_agg w.heap.size 0 (entCells eA) ?hwd ?hxd (entCells_length _) (fun j u hu => by rw [Nat.zero_add]; exact HAw5.out.cell hu) ?_); ((case hwd => rfl); (case hxd => exact rfl))))
  go_ret
  exact ⟨rfl, HWw5.out⟩
end Go.Proofs.Ytiibgkgbghganaa
