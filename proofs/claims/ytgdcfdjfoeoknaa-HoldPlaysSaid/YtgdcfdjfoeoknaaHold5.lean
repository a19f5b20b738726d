/- able of the statements on holds. No conditions. -/
import Derived.Test.YtgdcfdjfoeoknaaHold4
namespace Go.Proofs.Ytgdcfdjfoeoknaa
open Go.ChangeShapes Go.WideShapes Go.ChangeAt Go.RowKit
set_option linter.unusedVariables false
set_option linter.unusedSimpArgs false

namespace Mem
section
variable {P : Program} {w : World} {ops : Array Oper} {rest : List Oper} {a : Act} {Q : Exit → Act → World → Prop} {d : Option Tmp} {ty : TypeId} {ps : String} {af : Array Edge}
/-- a slice literal of three values of many cells -/
theorem build3_agg {x y z : Operand} (t e : TypeId) (n : Nat) (zv : Value) (hu : P.underlying t = some (.slice e)) (hi : (P.info? e).map (fun i => (i.zero, i.size)) = some (some zv, n)) (hn : 0 < n) (hs : n ≤ 1024)
    (xs ys zs : List Value) (hx : a.eval x = .agg xs.toArray) (hy : a.eval y = .agg ys.toArray) (hz : a.eval z = .agg zs.toArray) (hl : xs.length = n) (hl2 : ys.length = n) (hl3 : zs.length = n) (h : wpList P ops Q rest (a.put d (.slice (some ⟨w.heap.size, 0, none⟩) 3 3)) (w.alloc (.cells (xs ++ (ys ++ zs)).toArray e))) :
    wpList P ops Q ({ dst := d, op := .buildSlice t 3 #[(0, x), (1, y), (2, z)], type := ty, pos := ps, after := af, guard := none } :: rest) a w := by
  refine build_agg t e n 3 zv hu hi hn [.agg xs.toArray, .agg ys.toArray, .agg zs.toArray] (xs ++ (ys ++ zs)) (by simp [hx, hy, hz]) rfl (by omega) (by omega) (fun v hv => ?_) (by simp [Value.cells]) h
  rcases List.mem_cons.1 hv with rfl | hv
  · simpa [Value.cells] using hl
  · rcases List.mem_cons.1 hv with rfl | hv
    · simpa [Value.cells] using hl2
    · rw [List.mem_singleton] at hv; subst hv; simpa [Value.cells] using hl3
end
end Mem
namespace Vec
def eA : Ent := ⟨1, 0, 1, ⟨1, 1, 0⟩, ⟨#[97]⟩, ⟨#[]⟩, false, vc0, 0, 1⟩
def eB : Ent := ⟨1, 0, 2, ⟨2, 1, 0⟩, ⟨#[97]⟩, ⟨#[]⟩, false, ⟨col0, ⟨1, 0, 0⟩, col0⟩, 0, 2⟩
theorem able_put : putL 0 [] [eB, eA, eA] = ([eB, eA], 2) := by kernel_rfl
theorem able_n1 : nextE vc0 [eB, eA] = (eA, true) := by kernel_rfl
theorem able_l1 : nextL vc0 [eB, eA] = [eB] := by kernel_rfl
theorem able_n2 : nextE vc0 [eB] = (ent0, false) := by kernel_rfl
theorem able_l2 : nextL vc0 [eB] = [eB] := by kernel_rfl
theorem able_rA : rightE eA = true := by kernel_rfl
theorem able_rB : rightE eB = true := by kernel_rfl
theorem able_ok : ∀ e ∈ [eB, eA], rightE e = true := by
  intro e he
  rcases List.mem_cons.1 he with rfl | he
  · exact able_rB
  · rw [List.mem_singleton] at he; subst he; exact able_rA
end Vec
open Vec in
set_option maxRecDepth 8000 in
set_option maxHeartbeats 4000000 in
theorem holdAble_any (w : World) :
    Calls Try.prog 7 #[] w fun e w' => e = .returned (.bool true) ∧ Below w.heap.size w w' := by
  go_enter Try.func7, Try.ntmps7
  go_upto_region 4 with (go_at_call 9; refine (holdNew_any 0 w).mono ?_; rintro x w1 ⟨rfl, hA1, hb1⟩; have HA1 := Lib.hid hA1; have HB1 := Lib.hid hb1; clear hA1 hb1)
  have ho := ent_one eA
  go_upto_region 5 with ((with_reducible refine Mem.store_agg _ _ entry_agg w1.heap.size (entCells ent0) (entCells eA) ?hx5 ?hy5 ?hb5 (entCells_length _) ho ?_); ((case hx5 => exact rfl); (case hy5 => exact rfl); (case hb5 => exact Mem.Bx.new w1 _ (entCells ent0).toArray rfl rfl); intro w2 hb2 hk2 hs2))
  have Hw2 : Hid (EBx w2 w1.heap.size eA) := hb2
  have HKw2 : Hid (Below w1.heap.size w1 w2) := (hk2.newBox rfl).belowAll
  clear hb2 hk2 hs2 ho
  have ho := ent_one eB
  go_upto_region 6 with ((with_reducible refine Mem.store_agg _ _ entry_agg w2.heap.size (entCells ent0) (entCells eB) ?hx6 ?hy6 ?hb6 (entCells_length _) ho ?_); ((case hx6 => exact rfl); (case hy6 => exact rfl); (case hb6 => exact Mem.Bx.new w2 _ (entCells ent0).toArray rfl rfl); intro w3 hb2 hk2 hs2))
  have Hw3 : Hid (EBx w3 w2.heap.size eB) := hb2
  have HKw3 : Hid (Below w2.heap.size w2 w3) := (hk2.newBox rfl).belowAll
  clear hb2 hk2 hs2 ho
  have HA3 := Lib.hid ((HA1.out.below HKw2.out).below HKw3.out)
  have HB3 : Hid (Below w.heap.size w w3) := (HB1.out.trans (HKw2.out.mono HB1.out.size)).trans (HKw3.out.mono (Nat.le_trans HB1.out.size HKw2.out.size))
  have Hw2' : Hid (EBx w3 w1.heap.size eA) := Hw2.out.below HKw3.out Hw2.out.lt
  obtain ⟨ga, hga⟩ : ∃ ga, w1.heap.size = ga := ⟨_, rfl⟩
  obtain ⟨gb, hgb⟩ : ∃ gb, w2.heap.size = gb := ⟨_, rfl⟩
  have hgal := Hw2'.out.lt
  have hgbl := Hw3.out.lt
  have hg0 := HA1.out.B.lt
  have hg1 := HKw2.out.size
  rw [hga] at Hw2' hgal hg0 ⊢
  rw [hgb] at Hw3 hgbl ⊢
  have hgw : w.heap.size ≠ ga ∧ w.heap.size ≠ gb := by omega
  clear Hw2 HKw2 HKw3 HA1 HB1
  have hNew : Mem.Own (w3.alloc (.cells (entCells eB ++ (entCells eA ++ entCells eA)).toArray 33)) 33 20 (some ⟨w3.heap.size, 0, none⟩) 3 3 ([eB, eA, eA].flatMap entCells) := Mem.Own.lit w3 _ 20 (entCells eB ++ (entCells eA ++ entCells eA)).toArray 3 rfl rfl (by simp [maxLen])
  have HNew := Lib.hid hNew
  have HA3' := Lib.hid (HA3.out.below (Reg.below_new (w := w3) (.cells (entCells eB ++ (entCells eA ++ entCells eA)).toArray 33)))
  clear hNew
  go_upto_region 7 with (first | ((with_reducible refine Mem.load_agg _ _ entry_agg ga 0 (entCells eA) ?hpa (entCells_length _) (fun j u hu => by rw [Nat.zero_add]; exact Hw2'.out.cell hu) ?_); (case hpa => exact rfl)) | ((with_reducible refine Mem.load_agg _ _ entry_agg gb 0 (entCells eB) ?hpb (entCells_length _) (fun j u hu => by rw [Nat.zero_add]; exact Hw3.out.cell hu) ?_); (case hpb => exact rfl)) | ((with_reducible refine Mem.build3_agg _ _ 20 _ Try.underlying24 entry_zero (by decide) (by decide) (entCells eB) (entCells eA) (entCells eA) ?hra ?hrb ?hrc (entCells_length _) (entCells_length _) (entCells_length _) ?_); ((case hra => exact rfl); (case hrb => exact rfl); (case hrc => exact rfl))))
  refine (put_any 0 w.heap.size none 0 [] (some ⟨w3.heap.size, 0, none⟩) 3 [eB, eA, eA] _ HA3'.out HNew.out (fun q hq h => by cases hq; rcases h with h | h; (have h' : w3.heap.size = w.heap.size := h; have := HA3.out.B.lt; omega); cases h)).mono ?_
  rintro x w4 ⟨A4, c4, rfl, hA4, hk4, hq4⟩
  rw [able_put] at hA4 ⊢
  have HA4 := Lib.hid hA4
  have HK4 := Lib.hid hk4
  clear hA4 hk4
  have HQ4 : Hid (∀ q, Mem.blk A4 = some q → w3.heap.size ≤ q) := fun q hq => by
    rcases hq4 q hq with h | h
    · cases h
    · simp at h; omega
  have HB4 : Hid (Below w.heap.size w w4) := (HB3.out.alloc HB3.out.size _).trans (HK4.out.below (fun q h => by rcases h with h | h; omega; cases h) (by have := HB3.out.size; simp; omega))
  have HGA4 : Hid (EBx w4 ga eA) := (Hw2'.out.below (Reg.below_new _ _) Hw2'.out.lt).keeps HK4.out (fun h => by rcases h with h | h; omega; cases h)
  clear hq4 HK4 HNew HA3' HA3 HB3 Hw2' Hw3
  have HX1 := Lib.hid (next_any vc0 0 w.heap.size A4 c4 [eB, eA] w4 HA4.out (by simp) able_ok)
  have ho1 := ent_one eA
  go_upto_region 8 with (first | (go_at_call 11; refine HX1.out.mono ?_; rintro x w5 ⟨rfl, hA5, hk5⟩; rw [able_n1]; rw [able_l1] at hA5; have HA5 := Lib.hid hA5; have HK5 := Lib.hid hk5; clear hA5 hk5) | ((with_reducible refine Mem.store_agg _ _ entry_agg w5.heap.size (entCells ent0) (entCells eA) ?hxc ?hyc ?hbc (entCells_length _) ho1 ?_); ((case hxc => exact rfl); (case hyc => exact rfl); (case hbc => exact Mem.Bx.new w5 _ (entCells ent0).toArray rfl rfl); intro w6 hb2 hk2 hs2)))
  have HK6 : Hid (Below w5.heap.size w5 w6) := (hk2.newBox rfl).belowAll
  have HE6 : Hid (EBx w6 w5.heap.size eA) := hb2
  have HA6 := Lib.hid (HA5.out.below HK6.out)
  have HGA5 : Hid (EBx w5 ga eA) := HGA4.out.keeps HK5.out (fun h => by rcases h with h | h; omega; have := HQ4.out _ h; omega)
  have HGA6 : Hid (EBx w6 ga eA) := HGA5.out.below HK6.out HGA5.out.lt
  have HB5 : Hid (Below w.heap.size w w5) := HB4.out.trans (HK5.out.below (fun q h => by rcases h with h | h; omega; have := HQ4.out _ h; have := hgw; omega) HB4.out.size)
  have HB6 : Hid (Below w.heap.size w w6) := HB5.out.trans (HK6.out.mono HB5.out.size)
  have hg6 : ga < w5.heap.size := HGA5.out.lt
  have hl5 := HA5.out.lt
  clear HX1 HA5 HK5 HK6 HGA4 HGA5 HB4 HB5 hb2 hk2 hs2 HA4 ho1
  obtain ⟨ge, hge⟩ : ∃ ge, w5.heap.size = ge := ⟨_, rfl⟩
  rw [hge] at HE6 hl5 hg6 ⊢
  clear hge
  have HX1 := Lib.hid (next_any vc0 0 w.heap.size A4 c4 [eB] w6 HA6.out (by simp) (fun e he => able_ok e (by simp at he; simp [he])))
  have ho1 := ent_one ent0
  go_upto_region 9 with (first | (go_at_call 11; refine HX1.out.mono ?_; rintro x w7 ⟨rfl, hA7, hk7⟩; rw [able_n2]; rw [able_l2] at hA7; have HA7 := Lib.hid hA7; have HK7 := Lib.hid hk7; clear hA7 hk7) | ((with_reducible refine Mem.store_agg _ _ entry_agg w7.heap.size (entCells ent0) (entCells ent0) ?hxd ?hyd ?hbd (entCells_length _) ho1 ?_); ((case hxd => exact rfl); (case hyd => exact rfl); (case hbd => exact Mem.Bx.new w7 _ (entCells ent0).toArray rfl rfl); intro w8 hb2 hk2 hs2)))
  have HK8 : Hid (Below w7.heap.size w7 w8) := (hk2.newBox rfl).belowAll
  have HA8 := Lib.hid (HA7.out.below HK8.out)
  have hE7 : EBx w7 ge eA := HE6.out.keeps HK7.out (fun h => by have := hl5 _ h; omega)
  have HE8 : Hid (EBx w8 ge eA) := hE7.below HK8.out hE7.lt
  have hG7 : EBx w7 ga eA := HGA6.out.keeps HK7.out (fun h => by rcases h with h | h; omega; have := HQ4.out _ h; omega)
  have HG8 : Hid (EBx w8 ga eA) := hG7.below HK8.out hG7.lt
  have HB7 : Below w.heap.size w w7 := HB6.out.trans (HK7.out.below (fun q h => by rcases h with h | h; omega; have := HQ4.out _ h; have := hgw; omega) HB6.out.size)
  have HB8 : Hid (Below w.heap.size w w8) := HB7.trans (HK8.out.mono HB7.size)
  have HL := Lib.hid (holdLen_any HA8.out)
  have e1 : ∀ W, (binOp .eql 33 (.agg (entCells eA).toArray) (.agg (entCells eA).toArray)).run Try.prog W = .ok (.bool true) W := fun W => by rw [eql_ent, eqEnt_iff.2 rfl]
  clear HX1 HA7 HK7 HK8 hE7 hG7 HB7 HB6 hb2 hk2 hs2 ho1 HA6 HE6 HGA6
  go_wp2_with (first | ((with_reducible refine Mem.load_aggG _ _ entry_agg ge 0 (entCells eA) ?hwa ?hxe (entCells_length _) (fun j u hu => by rw [Nat.zero_add]; exact HE8.out.cell hu) ?_); ((case hwa => rfl); (case hxe => exact rfl))) | ((with_reducible refine Mem.load_aggG _ _ entry_agg ga 0 (entCells eA) ?hwb ?hxf (entCells_length _) (fun j u hu => by rw [Nat.zero_add]; exact HG8.out.cell hu) ?_); ((case hwb => rfl); (case hxf => exact rfl))) | (go_at_call 12; refine HL.out.mono ?_; rintro x w9 ⟨rfl, rfl⟩))
  go_ret
  exact ⟨rfl, HB8.out⟩
end Go.Proofs.Ytgdcfdjfoeoknaa
