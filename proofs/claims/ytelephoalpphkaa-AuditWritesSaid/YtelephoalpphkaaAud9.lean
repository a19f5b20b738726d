/- The walks of asked and of what it asks of an event. No conditions but that lists are few. -/
import Derived.Test.YtelephoalpphkaaAud8
set_option maxRecDepth 8000
namespace Go.Proofs.Ytelephoalpphkaa
open Go.ChangeShapes Go.WideShapes Go.ChangeAt Go.RowKit
set_option linter.unusedVariables false
set_option linter.unusedSimpArgs false
namespace Au
def emp (b : ByteArray) : Bool := decide (b = ByteArray.empty)
/-- is an event the beginning that asked for a write? -/
def askM (x : Vec.Ent) (e : Ev) : Bool := !e.fresh && (!e.fin && (decide (e.cl = x.cl) && (decide (e.op = x.op) && (decide (e.keys = [x.key]) &&
  ((decide (e.kind = 1) && (decide (e.val = x.val) && !x.dead)) || (decide (e.kind = 2) && (x.dead && emp x.val)))))))
theorem isEmpty_no {b : ByteArray} (h : b ≠ ByteArray.empty) : b.toList.isEmpty = false := by
  have h1 : b.size ≠ 0 := fun h0 => h (ByteArray.size_eq_zero_iff.1 h0)
  rw [ByteArray.toList_eq]
  cases hl : b.data.toList with
  | nil => exact absurd (by have : b.data.size = 0 := by rw [← Array.length_toList, hl]; rfl
                            exact this) h1
  | cons x l => rfl
end Au
open Au in
set_option maxHeartbeats 8000000 in
theorem askM_any {w : World} {B gx : Nat} {x : Vec.Ent} {e : Au.Ev} (h : Au.EvOk w B e) (hB : B ≤ w.heap.size) (hX : Vec.EBx w gx x) :
    Calls Try.prog 68 #[.agg (Au.evCells e).toArray, .pointer (some ⟨gx, 0, none⟩)] w fun r w' => r = .returned (.bool (Au.askM x e)) ∧ Below w.heap.size w w' := by
  have hB1 : Below w.heap.size w (w.alloc (.cells (Au.evCells e).toArray 46)) := Reg.below_new _ _
  have hX1 : Au.VBx (w.alloc (.cells (Au.evCells e).toArray 46)) w.heap.size e := Mem.Bx.new w 46 (Au.evCells e).toArray rfl rfl
  obtain ⟨w1, hw1⟩ : ∃ w1, w.alloc (.cells (Au.evCells e).toArray 46) = w1 := ⟨_, rfl⟩
  rw [hw1] at hB1 hX1
  have HB1 := Lib.hid hB1
  have HX1 := Lib.hid hX1
  unfold Au.evCells at hw1 ⊢
  clear hB1 hX1
  have HX2 := Lib.hid (hX.below HB1.out hX.lt)
  have HK := Lib.hid ((h.k.more hB).below HB1.out)
  have hkm : e.keys.length ≤ maxLen := by have := h.kl; have := h.kn; unfold maxLen; omega
  clear h hX
  have HASK : Hid (∀ j u, (askCells e)[j]? = some u → w1.cell? ⟨w.heap.size, 2 + j, none⟩ = some u) := VBx.ask HX1.out
  go_enter Try.func68, Try.ntmps68
  go_upto_region 1 with fail
  try rw [hw1]
  clear hw1
  go_upto_region 2 with (first | ((with_reducible refine Mem.load_agg _ _ ask_agg w.heap.size 2 (askCells e) ?hx (askCells_length e) HASK.out ?_); case hx => exact rfl) | ((with_reducible refine Mem.store_agg _ _ ask_agg w1.heap.size ?zs (askCells e) ?hx ?hy ?hb (askCells_length e) (ask_one e) ?_); (case hx => exact rfl); (case hy => exact rfl); (case hb => exact Mem.Bx.new w1 _ _ rfl rfl); intro w2 hb2 hk2 hs2))
  have HK2 := Lib.hid (hk2.newBox rfl)
  have HA2 : Hid (Mem.Bx w2 42 4 w1.heap.size (askCells e)) := hb2
  have HE2 := Lib.hid (HX1.out.keeps HK2.out id)
  have HX3 := Lib.hid (HX2.out.keeps HK2.out id)
  have HKR := Lib.hid (HK.out.below (HK2.out.belowAll.mono HB1.out.size))
  have HB2 : Hid (Below w.heap.size w w2) := HB1.out.trans (HK2.out.belowAll.mono HB1.out.size)
  have HBA : Hid (Below w2.heap.size w2 (w2.alloc (.cells #[.string x.key] 9))) := Reg.below_new _ _
  have HQ := Lib.hid (equal_any (xs := e.keys) (ys := [x.key]) (A2 := some ⟨w2.heap.size, 0, none⟩) (c := e.kc) (c2 := 1) (((HKR.out.more HB2.out.size).below HBA.out).more HBA.out.size) ((Mem.Rd.alloc_new w2 #[.string x.key] 9 (0, 0) rfl).more (B' := (w2.alloc (.cells #[.string x.key] 9)).heap.size) (by simp)) (Nat.le_refl _) hkm (by simp [maxLen]))
  have hz2 := HB2.out.size
  have y7 : w2.cell? ⟨w.heap.size, 7, none⟩ = some (.bool e.fresh) := HE2.out.cell (j := 7) rfl
  have y8 : w2.cell? ⟨w.heap.size, 8, none⟩ = some (.bool e.fin) := HE2.out.cell (j := 8) rfl
  have y0 : w2.cell? ⟨w.heap.size, 0, none⟩ = some (.int .i64 e.cl) := HE2.out.cell (j := 0) rfl
  have y1 : w2.cell? ⟨w.heap.size, 1, none⟩ = some (.int .i64 e.op) := HE2.out.cell (j := 1) rfl
  have x18 : w2.cell? ⟨gx, 18, none⟩ = some (.int .i64 x.cl) := HX3.out.cell (j := 18) rfl
  have x19 : w2.cell? ⟨gx, 19, none⟩ = some (.int .i64 x.op) := HX3.out.cell (j := 19) rfl
  have x6 : w2.cell? ⟨gx, 6, none⟩ = some (.string x.key) := HX3.out.cell (j := 6) rfl
  have a1 : w2.cell? ⟨w1.heap.size, 1, none⟩ = some (.slice e.kA e.keys.length e.kc) := HA2.out.cell (j := 1) rfl
  clear hb2 hk2 hs2 HX1 HX2 HK HASK HK2 HE2 HKR
  cases hf : e.fresh with
  | true =>
    have HS : Hid (askM x e = false) := by show _ = _; simp [askM, hf]
    rw [hf] at y7
    clear hf
    go_wp2
    go_ret
    exact ⟨by rw [HS.out]; rfl, HB2.out⟩
  | false =>
  rw [hf] at y7
  cases hg : e.fin with
  | true =>
    have HS : Hid (askM x e = false) := by show _ = _; simp [askM, hg]
    rw [hg] at y8
    clear hg
    go_wp2
    go_ret
    exact ⟨by rw [HS.out]; rfl, HB2.out⟩
  | false =>
  rw [hg] at y8
  by_cases h1 : e.cl = x.cl
  case neg =>
    have HS : Hid (askM x e = false) := by show _ = _; simp [askM, h1]
    have b1 : (e.cl == x.cl) = false := by simpa using h1
    have b1' : (e.cl != x.cl) = true := by simpa using h1
    clear hf hg
    go_wp2
    go_ret
    exact ⟨by rw [HS.out]; rfl, HB2.out⟩
  by_cases h2 : e.op = x.op
  case neg =>
    have HS : Hid (askM x e = false) := by show _ = _; simp [askM, h2]
    rw [h1] at y0
    have b1 : (e.op == x.op) = false := by simpa using h2
    have b1' : (e.op != x.op) = true := by simpa using h2
    clear hf hg h1
    go_wp2
    go_ret
    exact ⟨by rw [HS.out]; rfl, HB2.out⟩
  have HH1 := Lib.hid h1
  have HH2 := Lib.hid h2
  rw [h1] at y0
  rw [h2] at y1
  clear h1 h2
  have HF := Lib.hid hf
  have HG := Lib.hid hg
  clear hf hg
  by_cases h3 : e.keys = [x.key]
  case neg =>
    have HS : Hid (askM x e = false) := by show _ = _; simp [askM, h3]
    rw [decide_eq_false h3] at HQ
    clear h3
    go_wp2_with (go_at_call 45; (refine HQ.out.mono ?_); rintro r w4 ⟨rfl, hb4⟩; have HB4 := Lib.hid (HB2.out.trans ((HBA.out.trans (hb4.mono HBA.out.size)).mono HB2.out.size)); clear hb4 HQ)
    go_ret
    exact ⟨by rw [HS.out]; rfl, HB4.out⟩
  rw [decide_eq_true h3] at HQ
  have HH3 := Lib.hid h3
  clear h3
  go_upto_region 4 with (go_at_call 45; (refine HQ.out.mono ?_); rintro r w4 ⟨rfl, hb4⟩; have HB24 := Lib.hid (HBA.out.trans (hb4.mono HBA.out.size)); clear hb4 HQ)
  have HB4 : Hid (Below w.heap.size w w4) := HB2.out.trans (HB24.out.mono HB2.out.size)
  have hA4 := HA2.out.below HB24.out HA2.out.lt
  have hX4 := HX3.out.below HB24.out HX3.out.lt
  have a0 : w4.cell? ⟨w1.heap.size, 0, none⟩ = some (.int .i64 e.kind) := hA4.cell (j := 0) rfl
  have a2 : w4.cell? ⟨w1.heap.size, 2, none⟩ = some (.string e.val) := hA4.cell (j := 2) rfl
  have x7 : w4.cell? ⟨gx, 7, none⟩ = some (.string x.val) := hX4.cell (j := 7) rfl
  have x8 : w4.cell? ⟨gx, 8, none⟩ = some (.bool x.dead) := hX4.cell (j := 8) rfl
  have HM : Hid (askM x e = ((decide (e.kind = 1) && (decide (e.val = x.val) && !x.dead)) || (decide (e.kind = 2) && (x.dead && emp x.val)))) := by show _ = _; simp [askM, HF.out, HG.out, HH1.out, HH2.out, HH3.out]
  clear hA4 hX4 y7 y8 y0 y1 x18 x19 x6 a1 HBA HA2 HX3
  by_cases k1 : e.kind = 1
  · rw [k1] at a0
    by_cases k2 : e.val = x.val
    · have s1 := Vec.str_eq k2
      cases k3 : x.dead with
      | true =>
        have HS : Hid (askM x e = false) := by show _ = _; rw [HM.out]; simp [k1, k3]
        rw [k3] at x8
        clear k1 k2 k3 HM
        go_wp2
        go_ret
        exact ⟨by rw [HS.out]; rfl, HB4.out⟩
      | false =>
        have HS : Hid (askM x e = true) := by show _ = _; rw [HM.out]; simp [k1, k2, k3]
        rw [k3] at x8
        clear k1 k2 k3 HM
        go_wp2
        go_ret
        exact ⟨by rw [HS.out]; rfl, HB4.out⟩
    · have s1 := Vec.str_ne k2
      have HS : Hid (askM x e = false) := by show _ = _; rw [HM.out]; simp [k1, k2]
      clear k1 k2 HM
      go_wp2
      go_ret
      exact ⟨by rw [HS.out]; rfl, HB4.out⟩
  · have b1 : (e.kind == 1) = false := by simpa using k1
    by_cases k2 : e.kind = 2
    · rw [k2] at a0
      cases k3 : x.dead with
      | false =>
        have HS : Hid (askM x e = false) := by show _ = _; rw [HM.out]; simp [k1, k3]
        rw [k3] at x8
        clear k1 k2 k3 HM b1
        go_wp2
        go_ret
        exact ⟨by rw [HS.out]; rfl, HB4.out⟩
      | true =>
        by_cases k4 : x.val = ByteArray.empty
        · have HS : Hid (askM x e = true) := by show _ = _; rw [HM.out]; simp [k2, k3, k4, emp]
          rw [k3] at x8
          rw [k4] at x7
          have x7 : w4.cell? ⟨gx, 7, none⟩ = some (.string ⟨#[]⟩) := x7
          clear k1 k2 k3 k4 HM b1
          go_wp2
          go_ret
          exact ⟨by rw [HS.out]; rfl, HB4.out⟩
        · have HS : Hid (askM x e = false) := by show _ = _; rw [HM.out]; simp [k1, k4, emp]
          have s2 := isEmpty_no k4
          have s3 : (x.val.toList == (⟨#[]⟩ : ByteArray).toList) = false := Vec.str_ne k4
          rw [k3] at x8
          clear k1 k2 k3 k4 HM b1
          go_wp2
          go_ret
          exact ⟨by rw [HS.out]; rfl, HB4.out⟩
    · have b2 : (e.kind == 2) = false := by simpa using k2
      have HS : Hid (askM x e = false) := by show _ = _; rw [HM.out]; simp [k1, k2]
      clear k1 k2 HM
      go_wp2
      go_ret
      exact ⟨by rw [HS.out]; rfl, HB4.out⟩
end Go.Proofs.Ytelephoalpphkaa
