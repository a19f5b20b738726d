/- The walks of all, rules$2, rules$5, rules$6. No conditions but that lists are few. -/
import Derived.Test.YtelephoalpphkaaAud11
set_option maxRecDepth 8000
namespace Go.Proofs.Ytelephoalpphkaa
open Go.ChangeShapes Go.WideShapes Go.ChangeAt Go.RowKit
set_option linter.unusedVariables false
set_option linter.unusedSimpArgs false
open Au in
set_option maxHeartbeats 4000000 in
theorem allAsked_any {w : World} {B gc bc gs bs : Nat} {k : Au.Ck} {s : Au.Ss} {e : Au.Ev} (hC : Au.Cx w B gc bc gs bs k s) (hE : Au.EvOk w B e) (hB : B ≤ w.heap.size) (hn : e.res.length ≤ 703687441776) :
    Calls Try.prog 48 #[.agg (Au.evCells e).toArray, .func (.func 49) #[.pointer (some ⟨gc, 0, none⟩)] #[]] w fun x w' => x = .returned (.bool (Au.r4 k e)) ∧ Below w.heap.size w w' := by
  have hB1 : Below w.heap.size w (w.alloc (.cells (Au.evCells e).toArray 46)) := Reg.below_new _ _
  have hX1 : Au.VBx (w.alloc (.cells (Au.evCells e).toArray 46)) w.heap.size e := Mem.Bx.new w 46 (Au.evCells e).toArray rfl rfl
  obtain ⟨w1, hw1⟩ : ∃ w1, w.alloc (.cells (Au.evCells e).toArray 46) = w1 := ⟨_, rfl⟩
  rw [hw1] at hB1 hX1
  have HB1 := Lib.hid hB1
  have HX1 := Lib.hid hX1
  unfold Au.evCells at hw1 ⊢
  clear hB1 hX1
  have HFB := Reg.below_new w1 (.cells #[.func (.func 49) #[.pointer (some ⟨gc, 0, none⟩)] #[]] 94)
  have HFX : Mem.Bx (w1.alloc (.cells #[.func (.func 49) #[.pointer (some ⟨gc, 0, none⟩)] #[]] 94)) 94 1 w1.heap.size [.func (.func 49) #[.pointer (some ⟨gc, 0, none⟩)] #[]] := Mem.Bx.new w1 _ #[.func (.func 49) #[.pointer (some ⟨gc, 0, none⟩)] #[]] rfl rfl
  obtain ⟨w2, hw2⟩ : ∃ w2, w1.alloc (.cells #[.func (.func 49) #[.pointer (some ⟨gc, 0, none⟩)] #[]] 94) = w2 := ⟨_, rfl⟩
  rw [hw2] at HFB HFX
  have HB2 : Hid (Below w.heap.size w w2) := HB1.out.trans (HFB.mono HB1.out.size)
  have HE2 := Lib.hid (HX1.out.below HFB HX1.out.lt)
  have HF2 := Lib.hid HFX
  have HFB2 := Lib.hid HFB
  have HOK2 := Lib.hid ((hE.below (HB1.out.mono hB) (Nat.le_refl _)).below (HFB2.out.mono (Nat.le_trans hB HB1.out.size)) (Nat.le_refl _))
  have hB2 : B ≤ w2.heap.size := Nat.le_trans hB HB2.out.size
  have hHAS := has_any HOK2.out hB2 hn
  have HHAS := Lib.hid hHAS
  have HC2 := Lib.hid ((hC.below HB1.out).below HFB2.out)
  clear HFB HFX hHAS hE
  go_enter Try.func48, Try.ntmps48
  go_upto_region 1 with fail
  try rw [hw1]
  try rw [hw2]
  clear hw1 hw2
  have HEV : Hid (∀ j u, (evCells e)[j]? = some u → w2.cell? ⟨w.heap.size, 0 + j, none⟩ = some u) := VBx.at HE2.out
  go_wp2_with (first
    | ((with_reducible refine Mem.load_agg _ _ event_agg w.heap.size 0 (evCells e) ?hx (evCells_length e) HEV.out ?_); case hx => exact rfl)
    | (go_at_call 65; (refine HHAS.out.mono ?_); rintro x w3 ⟨A3, c3, rfl, h1, h2, h3⟩; have HO3 := Lib.hid h1; have HB3 := Lib.hid h3; have HQ := Lib.hid (Ar.contains_any 66 #[.pointer (some ⟨w1.heap.size, 0, none⟩)] (fun r => !askedP k r) (enters_of Try.func66 (by kernel_rfl) rfl) A3 c3 (hasL e.res) w3.heap.size w3 (allAsked_tells (HC2.out.below HB3.out) (HF2.out.below HB3.out HF2.out.lt)) h1.rd (Nat.le_refl _) (Nat.le_trans h1.le h1.cap)); clear h1 h2 h3 HHAS)
    | (go_at_call 52; (refine HQ.out.mono ?_); rintro x w4 ⟨rfl, hb4⟩; have HB4 := Lib.hid (HB2.out.trans ((HB3.out.trans (hb4.mono HB3.out.size)).mono HB2.out.size)); clear hb4 HQ))
  go_ret
  exact ⟨rfl, HB4.out⟩
open Au in
set_option maxHeartbeats 4000000 in
theorem allPast_any {w : World} {B ge : Nat} {e : Au.Ev} (hV : Au.VBx w ge e) (hE : Au.EvOk w B e) (hB : B ≤ w.heap.size) (hn : e.res.length ≤ 703687441776) :
    Calls Try.prog 48 #[.agg (Au.evCells e).toArray, .func (.func 56) #[] #[.pointer (some ⟨ge, 0, none⟩)]] w fun x w' => x = .returned (.bool (Au.r7 e)) ∧ Below w.heap.size w w' := by
  have hB1 : Below w.heap.size w (w.alloc (.cells (Au.evCells e).toArray 46)) := Reg.below_new _ _
  have hX1 : Au.VBx (w.alloc (.cells (Au.evCells e).toArray 46)) w.heap.size e := Mem.Bx.new w 46 (Au.evCells e).toArray rfl rfl
  obtain ⟨w1, hw1⟩ : ∃ w1, w.alloc (.cells (Au.evCells e).toArray 46) = w1 := ⟨_, rfl⟩
  rw [hw1] at hB1 hX1
  have HB1 := Lib.hid hB1
  have HX1 := Lib.hid hX1
  unfold Au.evCells at hw1 ⊢
  clear hB1 hX1
  have HFB := Reg.below_new w1 (.cells #[.func (.func 56) #[] #[.pointer (some ⟨ge, 0, none⟩)]] 94)
  have HFX : Mem.Bx (w1.alloc (.cells #[.func (.func 56) #[] #[.pointer (some ⟨ge, 0, none⟩)]] 94)) 94 1 w1.heap.size [.func (.func 56) #[] #[.pointer (some ⟨ge, 0, none⟩)]] := Mem.Bx.new w1 _ #[.func (.func 56) #[] #[.pointer (some ⟨ge, 0, none⟩)]] rfl rfl
  obtain ⟨w2, hw2⟩ : ∃ w2, w1.alloc (.cells #[.func (.func 56) #[] #[.pointer (some ⟨ge, 0, none⟩)]] 94) = w2 := ⟨_, rfl⟩
  rw [hw2] at HFB HFX
  have HB2 : Hid (Below w.heap.size w w2) := HB1.out.trans (HFB.mono HB1.out.size)
  have HE2 := Lib.hid (HX1.out.below HFB HX1.out.lt)
  have HF2 := Lib.hid HFX
  have HFB2 := Lib.hid HFB
  have HOK2 := Lib.hid ((hE.below (HB1.out.mono hB) (Nat.le_refl _)).below (HFB2.out.mono (Nat.le_trans hB HB1.out.size)) (Nat.le_refl _))
  have hB2 : B ≤ w2.heap.size := Nat.le_trans hB HB2.out.size
  have hHAS := has_any HOK2.out hB2 hn
  have HHAS := Lib.hid hHAS
  have HC2 := Lib.hid ((hV.below HB1.out hV.lt).below HFB2.out (Nat.lt_of_lt_of_le hV.lt HB1.out.size))
  clear HFB HFX hHAS hE
  go_enter Try.func48, Try.ntmps48
  go_upto_region 1 with fail
  try rw [hw1]
  try rw [hw2]
  clear hw1 hw2
  have HEV : Hid (∀ j u, (evCells e)[j]? = some u → w2.cell? ⟨w.heap.size, 0 + j, none⟩ = some u) := VBx.at HE2.out
  go_wp2_with (first
    | ((with_reducible refine Mem.load_agg _ _ event_agg w.heap.size 0 (evCells e) ?hx (evCells_length e) HEV.out ?_); case hx => exact rfl)
    | (go_at_call 65; (refine HHAS.out.mono ?_); rintro x w3 ⟨A3, c3, rfl, h1, h2, h3⟩; have HO3 := Lib.hid h1; have HB3 := Lib.hid h3; have HQ := Lib.hid (Ar.contains_any 66 #[.pointer (some ⟨w1.heap.size, 0, none⟩)] (fun r => !pastP e r) (enters_of Try.func66 (by kernel_rfl) rfl) A3 c3 (hasL e.res) w3.heap.size w3 (allPast_tells (HC2.out.below HB3.out HC2.out.lt) (HF2.out.below HB3.out HF2.out.lt)) h1.rd (Nat.le_refl _) (Nat.le_trans h1.le h1.cap)); clear h1 h2 h3 HHAS)
    | (go_at_call 52; (refine HQ.out.mono ?_); rintro x w4 ⟨rfl, hb4⟩; have HB4 := Lib.hid (HB2.out.trans ((HB3.out.trans (hb4.mono HB3.out.size)).mono HB2.out.size)); clear hb4 HQ))
  go_ret
  exact ⟨rfl, HB4.out⟩
open Au in
set_option maxHeartbeats 4000000 in
theorem rule4_any {w : World} {B gc bc gs bs : Nat} {k : Au.Ck} {s : Au.Ss} {e : Au.Ev} (hC : Au.Cx w B gc bc gs bs k s) (hE : Au.EvOk w B e) (hn : e.res.length ≤ 703687441776) :
    Calls Try.prog 47 #[.agg (Au.evCells e).toArray, .pointer (some ⟨bc, 0, none⟩)] w fun x w' => x = .returned (.bool (Au.r4 k e)) ∧ Below w.heap.size w w' := by
  have hB1 : Below w.heap.size w (w.alloc (.cells (Au.evCells e).toArray 46)) := Reg.below_new _ _
  have hX1 : Au.VBx (w.alloc (.cells (Au.evCells e).toArray 46)) w.heap.size e := Mem.Bx.new w 46 (Au.evCells e).toArray rfl rfl
  obtain ⟨w1, hw1⟩ : ∃ w1, w.alloc (.cells (Au.evCells e).toArray 46) = w1 := ⟨_, rfl⟩
  rw [hw1] at hB1 hX1
  have HB1 := Lib.hid hB1
  have HX1 := Lib.hid hX1
  unfold Au.evCells at hw1 ⊢
  clear hB1 hX1
  have HC := Lib.hid (hC.below HB1.out)
  have HQ := Lib.hid (allAsked_any HC.out (hE.below (HB1.out.mono hC.le) (Nat.le_refl _)) HC.out.le hn)
  clear hC hE
  go_enter Try.func47, Try.ntmps47
  go_upto_region 1 with fail
  try rw [hw1]
  clear hw1
  have y0 : w1.cell? ⟨bc, 0, none⟩ = some (.pointer (some ⟨gc, 0, none⟩)) := HC.out.pc.cell (j := 0) rfl
  have HEV : Hid (∀ j u, (evCells e)[j]? = some u → w1.cell? ⟨w.heap.size, 0 + j, none⟩ = some u) := VBx.at HX1.out
  go_wp2_with (first
    | ((with_reducible refine Mem.load_agg _ _ event_agg w.heap.size 0 (evCells e) ?hx (evCells_length e) HEV.out ?_); case hx => exact rfl)
    | (go_at_call 48; (refine HQ.out.mono ?_); rintro x w3 ⟨rfl, h3⟩; have HB3 := Lib.hid h3; clear h3 HQ))
  go_ret
  exact ⟨rfl, HB1.out.trans (HB3.out.mono HB1.out.size)⟩
open Au in
set_option maxHeartbeats 4000000 in
theorem rule7_any {w : World} {B : Nat} {e : Au.Ev} (hE : Au.EvOk w B e) (hB : B ≤ w.heap.size) (hn : e.res.length ≤ 703687441776) :
    Calls Try.prog 55 #[.agg (Au.evCells e).toArray] w fun x w' => x = .returned (.bool (Au.r7 e)) ∧ Below w.heap.size w w' := by
  have hB1 : Below w.heap.size w (w.alloc (.cells (Au.evCells e).toArray 46)) := Reg.below_new _ _
  have hX1 : Au.VBx (w.alloc (.cells (Au.evCells e).toArray 46)) w.heap.size e := Mem.Bx.new w 46 (Au.evCells e).toArray rfl rfl
  obtain ⟨w1, hw1⟩ : ∃ w1, w.alloc (.cells (Au.evCells e).toArray 46) = w1 := ⟨_, rfl⟩
  rw [hw1] at hB1 hX1
  have HB1 := Lib.hid hB1
  have HX1 := Lib.hid hX1
  unfold Au.evCells at hw1 ⊢
  clear hB1 hX1
  have HQ := Lib.hid (allPast_any HX1.out (hE.below (HB1.out.mono hB) (Nat.le_refl _)) (Nat.le_trans hB HB1.out.size) hn)
  clear hE
  go_enter Try.func55, Try.ntmps55
  go_upto_region 1 with fail
  try rw [hw1]
  clear hw1
  have HEV : Hid (∀ j u, (evCells e)[j]? = some u → w1.cell? ⟨w.heap.size, 0 + j, none⟩ = some u) := VBx.at HX1.out
  go_wp2_with (first
    | ((with_reducible refine Mem.load_agg _ _ event_agg w.heap.size 0 (evCells e) ?hx (evCells_length e) HEV.out ?_); case hx => exact rfl)
    | (go_at_call 48; (refine HQ.out.mono ?_); rintro x w3 ⟨rfl, h3⟩; have HB3 := Lib.hid h3; clear h3 HQ))
  go_ret
  exact ⟨rfl, HB1.out.trans (HB3.out.mono HB1.out.size)⟩
end Go.Proofs.Ytelephoalpphkaa
