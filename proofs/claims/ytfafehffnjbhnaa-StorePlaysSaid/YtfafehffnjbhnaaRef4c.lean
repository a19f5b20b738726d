/- The document's order of stamps. No conditions. -/
import Derived.Test.YtfafehffnjbhnaaStampC
namespace Go.Proofs.Ytfafehffnjbhnaa
open Go.RowKit
set_option linter.unusedVariables false
set_option linter.unusedSimpArgs false
theorem order_any (x y : Int) (w : World) :
    Calls Try.prog 58 #[.int .i64 x, .int .i64 y] w fun e w' => e = .returned (.int .i64 (Stamp.cmpI x y)) ∧ w = w' := by
  rcases Int.lt_trichotomy x y with h | h | h
  · go_enter Try.func58, Try.ntmps58
    go_wp2
    go_ret
    exact ⟨by show Ending.returned (.int .i64 (-1)) = _; rw [Stamp.cmpI, if_pos h], rfl⟩
  · subst h
    go_enter Try.func58, Try.ntmps58
    go_wp2
    go_ret
    exact ⟨by show Ending.returned (.int .i64 0) = _; rw [Stamp.cmpI, if_neg (by omega), if_neg (by omega)], rfl⟩
  · have h' : ¬ x < y := by omega
    go_enter Try.func58, Try.ntmps58
    go_wp2
    go_ret
    exact ⟨by show Ending.returned (.int .i64 1) = _; rw [Stamp.cmpI, if_neg (by omega), if_pos h], rfl⟩

namespace Stamp
theorem cmpI_eq {x y : Int} : cmpI x y = 0 ↔ x = y := by
  unfold cmpI
  constructor
  · intro h; split at h
    · omega
    · split at h <;> omega
  · intro h; rw [if_neg (by omega), if_neg (by omega)]
theorem cmpS_c {a b : St} (h : a.c ≠ b.c) : cmpS a b = cmpI a.c b.c := by
  unfold cmpS firstNZ; rw [if_neg (fun e => h (cmpI_eq.1 e))]
theorem cmpS_d {a b : St} (h : a.c = b.c) (h2 : a.d ≠ b.d) : cmpS a b = cmpI a.d b.d := by
  unfold cmpS; simp only [firstNZ]; rw [if_pos (cmpI_eq.2 h), if_neg (fun e => h2 (cmpI_eq.1 e))]
theorem cmpS_r {a b : St} (h : a.c = b.c) (h2 : a.d = b.d) : cmpS a b = cmpI a.r b.r := by
  unfold cmpS; simp only [firstNZ]; rw [if_pos (cmpI_eq.2 h), if_pos (cmpI_eq.2 h2)]; split
  · rename_i h3; rw [h3]
  · rfl
end Stamp

set_option maxHeartbeats 1000000 in
theorem refCmp_any (a b : Stamp.St) (w : World) :
    Calls Try.prog 44 #[Stamp.S a, Stamp.S b] w fun e w' => e = .returned (.int .i64 (Stamp.cmpS a b)) ∧ Below w.heap.size w w' := by
  have HB := Lib.hid (show Below w.heap.size w ((w.alloc (.cells #[.int .i64 a.c, .int .i64 a.d, .int .i64 a.r] 36)).alloc (.cells #[.int .i64 b.c, .int .i64 b.d, .int .i64 b.r] 36)) from (Reg.below_new _ _).alloc (by simp) _)
  by_cases h1 : a.c = b.c
  · have t1 : (a.c != b.c) = false := by simp [h1]
    by_cases h2 : a.d = b.d
    · have t2 : (a.d != b.d) = false := by simp [h2]
      have H := Lib.hid (Stamp.cmpS_r h1 h2)
      clear h1 h2
      go_enter Try.func44, Try.ntmps44
      go_wp2_with (go_at_call 58; refine (order_any _ _ _).mono ?_; rintro e w' ⟨rfl, rfl⟩)
      go_ret
      exact ⟨by rw [H.out]; rfl, HB.out⟩
    · have t2 : (a.d != b.d) = true := by simp [h2]
      have H := Lib.hid (Stamp.cmpS_d h1 h2)
      clear h1 h2
      go_enter Try.func44, Try.ntmps44
      go_wp2_with (go_at_call 58; refine (order_any _ _ _).mono ?_; rintro e w' ⟨rfl, rfl⟩)
      go_ret
      exact ⟨by rw [H.out]; rfl, HB.out⟩
  · have t1 : (a.c != b.c) = true := by simp [h1]
    have H := Lib.hid (Stamp.cmpS_c h1)
    clear h1
    go_enter Try.func44, Try.ntmps44
    go_wp2_with (go_at_call 58; refine (order_any _ _ _).mono ?_; rintro e w' ⟨rfl, rfl⟩)
    go_ret
    exact ⟨by rw [H.out]; rfl, HB.out⟩

end Go.Proofs.Ytfafehffnjbhnaa
