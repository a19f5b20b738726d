/- able of the statements on stores. No conditions. -/
import Derived.Test.YtfafehffnjbhnaaStMuch
set_option maxRecDepth 8000
namespace Go.Proofs.Ytfafehffnjbhnaa
open Go.ChangeShapes Go.WideShapes Go.ChangeAt Go.RowKit
set_option linter.unusedVariables false
set_option linter.unusedSimpArgs false

namespace Mem
section
variable {P : Program} {w : World} {ops : Array Oper} {rest : List Oper} {a : Act} {Q : Exit → Act → World → Prop} {d : Option Tmp} {ty : TypeId} {ps : String} {af : Array Edge}
/-- a slice literal of three values of many cells -/
theorem build3_agg {x y z : Operand} (t e : TypeId) (n : Nat) (zv : Value) (hu : P.underlying t = some (.slice e)) (hi : (P.info? e).map (fun i => (i.zero, i.size)) = some (some zv, n)) (hn : 0 < n) (hs : n ≤ 1024)
    (xs ys zs : List Value) (hx : a.eval x = .agg xs.toArray) (hy : a.eval y = .agg ys.toArray) (hz : a.eval z = .agg zs.toArray) (hl : xs.length = n) (hl2 : ys.length = n) (hl3 : zs.length = n) (h : wpList P ops Q rest (a.put d (.slice (some ⟨w.heap.size, 0, none⟩) 3 3)) (w.alloc (.cells (xs ++ (ys ++ zs)).toArray e))) :
    wpList P ops Q ({ dst := d, op := .buildSlice t 3 #[(0, x), (1, y), (2, z)], type := ty, pos := ps, after := af, guard := none } :: rest) a w := by
  refine build_agg t e n 3 zv hu hi hn [.agg xs.toArray, .agg ys.toArray, .agg zs.toArray] (xs ++ (ys ++ zs)) (by simp [hx, hy, hz]) rfl (by omega) (by omega) (fun v hv => ?_) (by simp [Value.cells]) h
  rcases List.mem_cons.1 hv with rfl | hv
  · simpa [Value.cells] using hl
  · rcases List.mem_cons.1 hv with rfl | hv
    · simpa [Value.cells] using hl2
    · rw [List.mem_singleton] at hv; subst hv; simpa [Value.cells] using hl3
end
end Mem
namespace Sto
open Vec
def eA : Ent := ⟨0, 0, 1, ⟨1, 0, 0⟩, ⟨#[97]⟩, ⟨#[120]⟩, false, vc0, 0, 1⟩
def eB : Ent := ⟨1, 0, 1, ⟨3, 1, 0⟩, ⟨#[97]⟩, ⟨#[121]⟩, false, vc0, 0, 2⟩
theorem able_put : putL 0 col0 [] [eB, eA, eA] = ([⟨⟨#[97]⟩, [eA, eB]⟩], 2) := by kernel_rfl
theorem able_lat : latest [⟨⟨#[97]⟩, [eA, eB]⟩] ⟨#[97]⟩ = (eB, true) := by kernel_rfl
theorem able_aso : asOf [⟨⟨#[97]⟩, [eA, eB]⟩] col0 ⟨#[97]⟩ ⟨1, 0, 0⟩ = ⟨eA, true, 0⟩ := by kernel_rfl
theorem Good.hdc {rng : Int} {rs : List LR} (h : Good rng (states rs)) : ∀ r ∈ rs, ∀ x ∈ r.l.es, 0 ≤ x.dc ∧ x.dc < 3 := fun r hr x hx => by
  have h1 := (h.ok r.l (List.mem_map.2 ⟨r, hr, rfl⟩) x hx).1
  unfold rightE Vec.g1 chain at h1
  simp only [Bool.and_eq_true, decide_eq_true_eq] at h1
  omega
theorem Good.hne {rng : Int} {rs : List LR} (h : Good rng (states rs)) : ∀ r ∈ rs, r.l.es ≠ [] := fun r hr => h.ne r.l (List.mem_map.2 ⟨r, hr, rfl⟩)
/-- a store that is the statement's own, above block B -/
structure Mine (B : Nat) (w : World) (g b : Nat) (rng : Int) (mk : Col) (rs : List LR) : Prop where
  S : SS w g b rng mk rs
  G : Good rng (states rs)
  a : ∀ k, fpS g b rs k → B ≤ k
theorem Mine.below {B : Nat} {w w' : World} {g b : Nat} {rng : Int} {mk : Col} {rs : List LR} (h : Mine B w g b rng mk rs) (hb : Below w.heap.size w w') : Mine B w' g b rng mk rs := ⟨h.S.below hb, h.G, h.a⟩
theorem Mine.keeps {B : Nat} {w w' : World} {g b : Nat} {rng : Int} {mk : Col} {rs : List LR} {S : Nat → Prop} (h : Mine B w g b rng mk rs) (hk : Mem.Keeps S w w') (hS : ∀ k, fpS g b rs k → ¬ S k) : Mine B w' g b rng mk rs := ⟨h.S.keeps hk hS, h.G, h.a⟩
theorem new_mine {w w' : World} {g b : Nat} {rng : Int} (h : SS w' g b rng col0 []) (hg : w.heap.size ≤ g) (hb : w.heap.size ≤ b) : Mine w.heap.size w' g b rng col0 [] :=
  ⟨h, Good.none _, fun k hk => by rcases hk with rfl | rfl | ⟨r, hr, _⟩; exact hg; exact hb; cases hr⟩
theorem put_mine {B : Nat} {w w' : World} {g b : Nat} {rng : Int} {mk : Col} {rs0 : List LR} {news : List Ent} {x : Ending} (h : Mine B w g b rng mk rs0) (hB : B ≤ w.heap.size) (he : PutEnd w g b rng mk rs0 news x w') :
    ∃ rs, x = .returned (.int .i64 ((putL rng mk (states rs0) news).2 : Nat)) ∧ states rs = (putL rng mk (states rs0) news).1 ∧ Mine B w' g b rng mk rs ∧ Mem.Keeps (fpS g b rs0) w w' ∧ Below B w w' := by
  obtain ⟨rs, h1, h2, h3, h4, h5, h6⟩ := he
  exact ⟨rs, h1, h2, ⟨h3, h4, fun k hk => (h6 k hk).elim (h.a k) (fun h => by omega)⟩, h5, h5.below h.a hB⟩
end Sto
open Vec Sto in
set_option maxRecDepth 8000 in
set_option maxHeartbeats 4000000 in
theorem storeAble_any (w : World) :
    Calls Try.prog 9 #[] w fun e w' => e = .returned (.bool true) ∧ Below w.heap.size w w' := by
  go_enter Try.func9, Try.ntmps9
  go_upto_region 4 with (go_at_call 11; refine (storeNew_any 0 w).mono ?_; rintro x w1 ⟨g, b, rfl, hA1, hb1, hg1, hg2⟩; have HM1 := Lib.hid (new_mine hA1 hg1 hg2); have HB1 := Lib.hid hb1; clear hA1 hb1 hg1 hg2)
  have ho := ent_one eA
  go_upto_region 5 with ((with_reducible refine Mem.store_agg _ _ entry_agg w1.heap.size (entCells ent0) (entCells eA) ?hx5 ?hy5 ?hb5 (entCells_length _) ho ?_); ((case hx5 => exact rfl); (case hy5 => exact rfl); (case hb5 => exact Mem.Bx.new w1 _ (entCells ent0).toArray rfl rfl); intro w2 hb2 hk2 hs2))
  have Hw2 : Hid (EBx w2 w1.heap.size eA) := hb2
  have HKw2 : Hid (Below w1.heap.size w1 w2) := (hk2.newBox rfl).belowAll
  clear hb2 hk2 hs2 ho
  have ho := ent_one eB
  go_upto_region 6 with ((with_reducible refine Mem.store_agg _ _ entry_agg w2.heap.size (entCells ent0) (entCells eB) ?hx6 ?hy6 ?hb6 (entCells_length _) ho ?_); ((case hx6 => exact rfl); (case hy6 => exact rfl); (case hb6 => exact Mem.Bx.new w2 _ (entCells ent0).toArray rfl rfl); intro w3 hb2 hk2 hs2))
  have Hw3 : Hid (EBx w3 w2.heap.size eB) := hb2
  have HKw3 : Hid (Below w2.heap.size w2 w3) := (hk2.newBox rfl).belowAll
  clear hb2 hk2 hs2 ho
  have HM3 := Lib.hid ((HM1.out.below HKw2.out).below HKw3.out)
  have HB3 : Hid (Below w.heap.size w w3) := (HB1.out.trans (HKw2.out.mono HB1.out.size)).trans (HKw3.out.mono (Nat.le_trans HB1.out.size HKw2.out.size))
  have Hw2' : Hid (EBx w3 w1.heap.size eA) := Hw2.out.below HKw3.out Hw2.out.lt
  have hlt1 : ∀ k, fpS g b [] k → k < w1.heap.size := fun k hk => HM1.out.S.lt hk
  have HLT1 := Lib.hid hlt1
  have hs2 := HKw2.out.size
  obtain ⟨ga, hga⟩ : ∃ ga, w1.heap.size = ga := ⟨_, rfl⟩
  obtain ⟨gb, hgb⟩ : ∃ gb, w2.heap.size = gb := ⟨_, rfl⟩
  rw [hga] at Hw2' HLT1 hs2 ⊢
  rw [hgb] at Hw3 hs2 ⊢
  clear Hw2 HKw2 HKw3 HM1 HB1 hlt1
  have hb4 : Below w3.heap.size w3 (w3.alloc (.cells (entCells eB ++ (entCells eA ++ entCells eA)).toArray 40)) := Reg.below_new _ _
  have hNew : EOwn (w3.alloc (.cells (entCells eB ++ (entCells eA ++ entCells eA)).toArray 40)) (some ⟨w3.heap.size, 0, none⟩) 3 [eB, eA, eA] := Mem.Own.lit w3 _ 20 (entCells eB ++ (entCells eA ++ entCells eA)).toArray 3 rfl rfl (by simp [maxLen])
  have HM4 := Lib.hid (HM3.out.below hb4)
  have HB4 := Lib.hid (HB3.out.trans (hb4.mono HB3.out.size))
  have HEA4 : Hid (EBx (w3.alloc (.cells (entCells eB ++ (entCells eA ++ entCells eA)).toArray 40)) ga eA) := Hw2'.out.below hb4 Hw2'.out.lt
  have HEB4 : Hid (EBx (w3.alloc (.cells (entCells eB ++ (entCells eA ++ entCells eA)).toArray 40)) gb eB) := Hw3.out.below hb4 Hw3.out.lt
  have HPUT := Lib.hid (storePut_any 0 g b col0 [] (some ⟨w3.heap.size, 0, none⟩) 3 [eB, eA, eA] _ HM4.out.S HM4.out.G hNew (fun q hq h => by cases hq; exact Nat.lt_irrefl _ (HM3.out.S.lt h)) (by simp [lenS, states]))
  clear hNew hb4
  go_upto_region 7 with (first | ((with_reducible refine Mem.load_agg _ _ entry_agg ga 0 (entCells eA) ?hpa (entCells_length _) (fun j u hu => by rw [Nat.zero_add]; exact Hw2'.out.cell hu) ?_); (case hpa => exact rfl)) | ((with_reducible refine Mem.load_agg _ _ entry_agg gb 0 (entCells eB) ?hpb (entCells_length _) (fun j u hu => by rw [Nat.zero_add]; exact Hw3.out.cell hu) ?_); (case hpb => exact rfl)) | ((with_reducible refine Mem.build3_agg _ _ 20 _ Try.underlying22 entry_zero (by decide) (by decide) (entCells eB) (entCells eA) (entCells eA) ?hra ?hrb ?hrc (entCells_length _) (entCells_length _) (entCells_length _) ?_); ((case hra => exact rfl); (case hrb => exact rfl); (case hrc => exact rfl))) | (go_at_call 12; refine HPUT.out.mono ?_; rintro x w5 he; obtain ⟨rs, rfl, hst, hM5, hK5, hb5⟩ := put_mine HM4.out HB4.out.size he; rw [show states ([] : List LR) = [] from rfl, able_put] at hst; rw [show states ([] : List LR) = [] from rfl, able_put]))
  have HM5 := Lib.hid hM5
  have HST := Lib.hid hst
  have HB5 := Lib.hid (HB4.out.trans hb5)
  have HEA5 : Hid (EBx w5 ga eA) := HEA4.out.keeps hK5 (fun h => by have := HLT1.out _ h; omega)
  have HEB5 : Hid (EBx w5 gb eB) := HEB4.out.keeps hK5 (fun h => by have := HLT1.out _ h; omega)
  clear hM5 hst hK5 hb5 HPUT HM4 HB4 HEA4 HEB4 HM3 HB3 Hw2' Hw3
  have hkey : okS ⟨#[97]⟩ := by unfold okS maxLen; decide
  have HLA := Lib.hid (storeLatest_any HM5.out.S hkey HM5.out.G.hne)
  rw [HST.out, able_lat] at HLA
  go_upto_region 8 with (first | (go_at_call 21; refine HLA.out.mono ?_; rintro x w6 ⟨rfl, hb6⟩) | ((with_reducible refine Mem.store_agg _ _ entry_agg w6.heap.size (entCells ent0) (entCells eB) ?hxc ?hyc ?hbc (entCells_length _) (ent_one eB) ?_); ((case hxc => exact rfl); (case hyc => exact rfl); (case hbc => exact Mem.Bx.new w6 _ (entCells ent0).toArray rfl rfl); intro w7 hb7 hk7 hs7)))
  have hb67 : Below w6.heap.size w6 w7 := (hk7.newBox rfl).belowAll
  have hB7 := hb6.trans (hb67.mono hb6.size)
  have HM7 := Lib.hid (HM5.out.below hB7)
  have HB7 := Lib.hid (HB5.out.trans (hB7.mono HB5.out.size))
  have HEA7 : Hid (EBx w7 ga eA) := HEA5.out.below hB7 HEA5.out.lt
  have HEB7 : Hid (EBx w7 gb eB) := HEB5.out.below hB7 HEB5.out.lt
  have HE7 : Hid (EBx w7 w6.heap.size eB) := hb7
  obtain ⟨ge, hge⟩ : ∃ ge, w6.heap.size = ge := ⟨_, rfl⟩
  rw [hge] at HE7 ⊢
  clear hb7 hk7 hs7 hb67 hB7 hb6 hge HLA HM5 HB5 HEA5 HEB5
  have HAO := Lib.hid (storeAsOf_any HM7.out.S hkey HM7.out.G.hdc (by rw [HST.out]; simp [lenS]) ⟨1, 0, 0⟩)
  rw [HST.out, able_aso] at HAO
  go_upto_region 9 with (first | (go_at_call 22; refine HAO.out.mono ?_; rintro x w8 ⟨rfl, hb8⟩) | ((with_reducible refine Mem.store_agg _ _ entry_agg w8.heap.size (entCells ent0) (entCells eA) ?hxd ?hyd ?hbd (entCells_length _) (ent_one eA) ?_); ((case hxd => exact rfl); (case hyd => exact rfl); (case hbd => exact Mem.Bx.new w8 _ (entCells ent0).toArray rfl rfl); intro w9 hb9 hk9 hs9)))
  have hb89 : Below w8.heap.size w8 w9 := (hk9.newBox rfl).belowAll
  have hB9 := hb8.trans (hb89.mono hb8.size)
  have HM9 := Lib.hid (HM7.out.below hB9)
  have HB9 := Lib.hid (HB7.out.trans (hB9.mono HB7.out.size))
  have HEA9 : Hid (EBx w9 ga eA) := HEA7.out.below hB9 HEA7.out.lt
  have HEB9 : Hid (EBx w9 gb eB) := HEB7.out.below hB9 HEB7.out.lt
  have HE9 : Hid (EBx w9 ge eB) := HE7.out.below hB9 HE7.out.lt
  have HF9 : Hid (EBx w9 w8.heap.size eA) := hb9
  obtain ⟨gf, hgf⟩ : ∃ gf, w8.heap.size = gf := ⟨_, rfl⟩
  rw [hgf] at HF9 ⊢
  clear hb9 hk9 hs9 hb89 hB9 hb8 hgf HAO HM7 HB7 HEA7 HEB7 HE7
  have HL := Lib.hid (storeLen_any HM9.out.S (by rw [HST.out]; simp [lenS]))
  rw [HST.out, show lenS [⟨⟨#[97]⟩, [eA, eB]⟩] = 2 from rfl] at HL
  have e1 : ∀ W, (binOp .eql 40 (.agg (entCells eA).toArray) (.agg (entCells eA).toArray)).run Try.prog W = .ok (.bool true) W := fun W => by rw [eql_ent, eqEnt_iff.2 rfl]
  have e2 : ∀ W, (binOp .eql 40 (.agg (entCells eB).toArray) (.agg (entCells eB).toArray)).run Try.prog W = .ok (.bool true) W := fun W => by rw [eql_ent, eqEnt_iff.2 rfl]
  go_wp2_with (first | ((with_reducible refine Mem.load_aggG _ _ entry_agg ge 0 (entCells eB) ?hwa ?hxe (entCells_length _) (fun j u hu => by rw [Nat.zero_add]; exact HE9.out.cell hu) ?_); ((case hwa => rfl); (case hxe => exact rfl))) | ((with_reducible refine Mem.load_aggG _ _ entry_agg gb 0 (entCells eB) ?hwb ?hxf (entCells_length _) (fun j u hu => by rw [Nat.zero_add]; exact HEB9.out.cell hu) ?_); ((case hwb => rfl); (case hxf => exact rfl))) | ((with_reducible refine Mem.load_aggG _ _ entry_agg gf 0 (entCells eA) ?hwc ?hxg (entCells_length _) (fun j u hu => by rw [Nat.zero_add]; exact HF9.out.cell hu) ?_); ((case hwc => rfl); (case hxg => exact rfl))) | ((with_reducible refine Mem.load_aggG _ _ entry_agg ga 0 (entCells eA) ?hwd ?hxh (entCells_length _) (fun j u hu => by rw [Nat.zero_add]; exact HEA9.out.cell hu) ?_); ((case hwd => rfl); (case hxh => exact rfl))) | (go_at_call 14; refine HL.out.mono ?_; rintro x w10 ⟨rfl, hb10⟩))
  go_ret
  exact ⟨rfl, HB9.out.trans (hb10.mono HB9.out.size)⟩
end Go.Proofs.Ytfafehffnjbhnaa
