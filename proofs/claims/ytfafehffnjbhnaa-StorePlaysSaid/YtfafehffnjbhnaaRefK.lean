/- The document's Greater. No conditions. -/
import Derived.Test.YtfafehffnjbhnaaRef4c
import Derived.Test.YtfafehffnjbhnaaGt
set_option maxRecDepth 8000
namespace Go.Proofs.Ytfafehffnjbhnaa
open Go.ChangeShapes Go.WideShapes Go.ChangeAt Go.RowKit
set_option linter.unusedVariables false
set_option linter.unusedSimpArgs false
theorem stamp_agg : Mem.Agg Try.prog 36 3 := Mem.agg_of Try.underlying36 rfl (by kernel_rfl)
namespace Vec
theorem gtE_pos (a b : Ent) : decide (0 < gtE a b) = (decide (0 < Stamp.cmpS a.st b.st) || ((Stamp.cmpS a.st b.st == 0) && decide (b.seq < a.seq))) := by
  unfold gtE
  obtain ⟨c, hc⟩ : ∃ c, Stamp.cmpS a.st b.st = c := ⟨_, rfl⟩
  rw [hc]
  by_cases h0 : c = 0
  · subst h0
    unfold Stamp.cmpI
    by_cases h1 : a.seq < b.seq
    · have : ¬ b.seq < a.seq := by omega
      simp [Stamp.firstNZ, h1, this]
    · by_cases h2 : b.seq < a.seq
      · simp [Stamp.firstNZ, h1, h2]
      · simp [Stamp.firstNZ, h1, h2]
  · simp [Stamp.firstNZ, h0]
end Vec
open Vec in
set_option maxHeartbeats 4000000 in
theorem refGreater_any (a b : Vec.Ent) (w : World) :
    Calls Try.prog 25 #[.agg (Vec.entCells a).toArray, .agg (Vec.entCells b).toArray] w fun e w' => e = .returned (.bool (decide (0 < Vec.gtE a b))) ∧ Below w.heap.size w w' := by
  rw [gtE_pos]
  have hcm := fun W => refCmp_any a.st b.st W
  obtain ⟨c, hc⟩ : ∃ c, Stamp.cmpS a.st b.st = c := ⟨_, rfl⟩
  rw [hc]
  simp only [hc] at hcm
  have HCM := Lib.hid hcm
  obtain ⟨z, hz0⟩ : ∃ z, (decide (0 < c) || ((c == 0) && decide (b.seq < a.seq))) = z := ⟨_, rfl⟩
  rw [hz0]
  have HZ := Lib.hid hz0
  clear hcm hc hz0
  go_enter Try.func25, Try.ntmps25
  go_upto_region 1 with fail
  have hz : (w.alloc (.cells (entCells a).toArray 40)).heap.size = w.heap.size + 1 := Array.size_push _
  obtain ⟨w2, hw2⟩ : ∃ z, (w.alloc (.cells (entCells a).toArray 40)).alloc (.cells (entCells b).toArray 40) = z := ⟨_, rfl⟩
  have HA2 : Hid (EBx w2 w.heap.size a) := by
    show Mem.Bx _ _ _ _ _
    rw [← hw2]
    exact Mem.Bx.below (Mem.Bx.new w 40 (entCells a).toArray rfl rfl) (Reg.below_new _ _) (by omega)
  have HE2 : Hid (EBx w2 (w.heap.size + 1) b) := by
    show Mem.Bx _ _ _ _ _
    rw [← hw2]
    exact Mem.Bx.new (w.alloc (.cells (entCells a).toArray 40)) 40 (entCells b).toArray rfl hz
  have HB2 : Hid (Below w.heap.size w w2) := by show Below _ _ _; rw [← hw2]; exact (Reg.below_new w _).trans ((Reg.below_new _ _).mono (by omega))
  try rw [hz]
  try rw [hw2]
  clear hw2 hz
  have HLA : Hid (∀ j u, ([.int .i64 a.st.c, .int .i64 a.st.d, .int .i64 a.st.r] : List Value)[j]? = some u → w2.cell? ⟨w.heap.size, 3 + j, none⟩ = some u) := HA2.out.part 3 rfl
  have HLB : Hid (∀ j u, ([.int .i64 b.st.c, .int .i64 b.st.d, .int .i64 b.st.r] : List Value)[j]? = some u → w2.cell? ⟨w.heap.size + 1, 3 + j, none⟩ = some u) := HE2.out.part 3 rfl
  have a2 := HA2.out.cell (j := 2) rfl
  have b2 := HE2.out.cell (j := 2) rfl
  by_cases h1 : 0 < c
  · have d1 : decide (0 < c) = true := by simpa using h1
    obtain rfl : z = true := by rw [← HZ.out, d1]; rfl
    clear h1
    go_wp2_with (first
      | ((with_reducible refine Mem.load_agg _ _ stamp_agg w.heap.size 3 [.int .i64 a.st.c, .int .i64 a.st.d, .int .i64 a.st.r] ?hx rfl HLA.out ?_); case hx => exact rfl)
      | ((with_reducible refine Mem.load_agg _ _ stamp_agg (w.heap.size + 1) 3 [.int .i64 b.st.c, .int .i64 b.st.d, .int .i64 b.st.r] ?hy rfl HLB.out ?_); case hy => exact rfl)
      | (go_at_call 44; (refine (HCM.out w2).mono ?_); rintro x w3 ⟨rfl, hb3⟩; have HB3 := Lib.hid (HB2.out.trans (hb3.mono HB2.out.size)); have x2 := (hb3.cell (p := ⟨w.heap.size, 2, none⟩) HA2.out.lt).trans a2; have y2 := (hb3.cell (p := ⟨w.heap.size + 1, 2, none⟩) HE2.out.lt).trans b2; clear hb3 a2 b2))
    go_ret
    exact ⟨rfl, HB3.out⟩
  · have d1 : decide (0 < c) = false := by simpa using h1
    cases d2 : (c == 0)
    · obtain rfl : z = false := by rw [← HZ.out, d1, d2]; rfl
      clear h1
      go_wp2_with (first
        | ((with_reducible refine Mem.load_agg _ _ stamp_agg w.heap.size 3 [.int .i64 a.st.c, .int .i64 a.st.d, .int .i64 a.st.r] ?hx rfl HLA.out ?_); case hx => exact rfl)
        | ((with_reducible refine Mem.load_agg _ _ stamp_agg (w.heap.size + 1) 3 [.int .i64 b.st.c, .int .i64 b.st.d, .int .i64 b.st.r] ?hy rfl HLB.out ?_); case hy => exact rfl)
        | (go_at_call 44; (refine (HCM.out w2).mono ?_); rintro x w3 ⟨rfl, hb3⟩; have HB3 := Lib.hid (HB2.out.trans (hb3.mono HB2.out.size)); have x2 := (hb3.cell (p := ⟨w.heap.size, 2, none⟩) HA2.out.lt).trans a2; have y2 := (hb3.cell (p := ⟨w.heap.size + 1, 2, none⟩) HE2.out.lt).trans b2; clear hb3 a2 b2))
      go_ret
      exact ⟨rfl, HB3.out⟩
    · obtain rfl : decide (b.seq < a.seq) = z := by rw [← HZ.out, d1, d2]; rfl
      clear h1
      go_wp2_with (first
        | ((with_reducible refine Mem.load_agg _ _ stamp_agg w.heap.size 3 [.int .i64 a.st.c, .int .i64 a.st.d, .int .i64 a.st.r] ?hx rfl HLA.out ?_); case hx => exact rfl)
        | ((with_reducible refine Mem.load_agg _ _ stamp_agg (w.heap.size + 1) 3 [.int .i64 b.st.c, .int .i64 b.st.d, .int .i64 b.st.r] ?hy rfl HLB.out ?_); case hy => exact rfl)
        | (go_at_call 44; (refine (HCM.out w2).mono ?_); rintro x w3 ⟨rfl, hb3⟩; have HB3 := Lib.hid (HB2.out.trans (hb3.mono HB2.out.size)); have x2 := (hb3.cell (p := ⟨w.heap.size, 2, none⟩) HA2.out.lt).trans a2; have y2 := (hb3.cell (p := ⟨w.heap.size + 1, 2, none⟩) HE2.out.lt).trans b2; clear hb3 a2 b2))
      go_ret
      exact ⟨rfl, HB3.out⟩
end Go.Proofs.Ytfafehffnjbhnaa
