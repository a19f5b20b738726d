/- The walk of rules$6. No conditions but that lists are few. -/
import Derived.Test.YtelephoalpphkaaAud13
set_option maxRecDepth 8000
namespace Go.Proofs.Ytelephoalpphkaa
open Go.ChangeShapes Go.WideShapes Go.ChangeAt Go.RowKit
set_option linter.unusedVariables false
set_option linter.unusedSimpArgs false
open Au in
theorem sees_tells {w : World} {B gc bc gs bs ge : Nat} {k : Au.Ck} {s : Au.Ss} {e : Au.Ev} (hC : Au.Cx w B gc bc gs bs k s) (hE : Au.VBx w ge e) :
    Ar.Tells 58 #[.pointer (some ⟨ge, 0, none⟩), .pointer (some ⟨bc, 0, none⟩)] (Au.seesF k e) (fun _ => False) w := by
  intro W r hk
  exact seesF_any (hC.below hk.belowAll) (hE.keeps hk id) r
open Au in
set_option maxHeartbeats 4000000 in
theorem rule8_any {w : World} {B gc bc gs bs : Nat} {k : Au.Ck} {s : Au.Ss} {e : Au.Ev} (hC : Au.Cx w B gc bc gs bs k s) (h : Au.EvOk w B e) :
    Calls Try.prog 57 #[.agg (Au.evCells e).toArray, .pointer (some ⟨bc, 0, none⟩)] w fun x w' => x = .returned (.bool (Au.r8 k e)) ∧ Below w.heap.size w w' := by
  have hB1 : Below w.heap.size w (w.alloc (.cells (Au.evCells e).toArray 46)) := Reg.below_new _ _
  have hX1 : Au.VBx (w.alloc (.cells (Au.evCells e).toArray 46)) w.heap.size e := Mem.Bx.new w 46 (Au.evCells e).toArray rfl rfl
  obtain ⟨w1, hw1⟩ : ∃ w1, w.alloc (.cells (Au.evCells e).toArray 46) = w1 := ⟨_, rfl⟩
  rw [hw1] at hB1 hX1
  have HB1 := Lib.hid hB1
  have HX1 := Lib.hid hX1
  unfold Au.evCells at hw1 ⊢
  clear hB1 hX1
  have HQ := Lib.hid (Ar.contains_any 58 #[.pointer (some ⟨w.heap.size, 0, none⟩), .pointer (some ⟨bc, 0, none⟩)] (Au.seesF k e) (enters_of Try.func58 (by kernel_rfl) rfl) e.rA e.rc e.res w1.heap.size w1 (sees_tells (hC.below HB1.out) HX1.out) (((h.r.more hC.le).below HB1.out).more HB1.out.size) (Nat.le_refl _) (by have := h.rl; have := h.rn; unfold maxLen; omega))
  clear h hC
  go_enter Try.func57, Try.ntmps57
  go_upto_region 1 with fail
  try rw [hw1]
  clear hw1
  have y10 : w1.cell? ⟨w.heap.size, 10, none⟩ = some (.slice e.rA e.res.length e.rc) := HX1.out.cell (j := 10) rfl
  go_wp2_with (go_at_call 52; (refine HQ.out.mono ?_); rintro x w3 ⟨rfl, hb3⟩; have HB3 := Lib.hid (HB1.out.trans (hb3.mono HB1.out.size)); clear hb3 HQ)
  go_ret
  exact ⟨rfl, HB3.out⟩
end Go.Proofs.Ytelephoalpphkaa
