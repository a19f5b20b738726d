/- The walks of the order of stamps: cmp.Compare, cmp.Or, stamp.Right, stamp.Cmp: what each computes. No conditions. -/
import Derived.Test.YtfafehffnjbhnaaStampC
import Derived.Deep.QuietTactic
import Derived.BigQuiet
namespace Go.Proofs.Ytfafehffnjbhnaa
open Go.RowKit
set_option linter.unusedVariables false
set_option linter.unusedSimpArgs false

set_option maxHeartbeats 1000000 in
theorem right_any (s : Stamp.St) (w : World) :
    Calls Try.prog 37 #[Stamp.S s] w fun e w' => e = .returned (.bool (Stamp.right s)) ∧ Below w.heap.size w w' := by
  have fin : ∀ b : Bool, Hid (Stamp.right s = b) → ∀ (e : Ending) (o : Obj), e = .returned (.bool b) → e = .returned (.bool (Stamp.right s)) ∧ Below w.heap.size w (w.alloc o) := fun b hb e o he => by
    subst he; rw [hb.out]; exact ⟨rfl, Reg.below_new _ _⟩
  have FIN := Lib.hid fin
  clear fin
  by_cases h1 : 1 ≤ s.c
  · by_cases h2 : s.c ≤ 1099511627776
    · by_cases h3 : 0 ≤ s.d
      · by_cases h4 : s.d < 3
        · by_cases h5 : 0 ≤ s.r
          · by_cases h6 : s.r < 3
            · have H : Hid (Stamp.right s = true) := by show Stamp.right s = true; unfold Stamp.right; simp; omega
              go_enter Try.func37, Try.ntmps37
              go_wp2
              go_ret
              exact FIN.out _ H _ _ rfl
            · have H : Hid (Stamp.right s = false) := by show Stamp.right s = false; unfold Stamp.right; simp; omega
              go_enter Try.func37, Try.ntmps37
              go_wp2
              go_ret
              exact FIN.out _ H _ _ rfl
          · have H : Hid (Stamp.right s = false) := by show Stamp.right s = false; unfold Stamp.right; simp; omega
            go_enter Try.func37, Try.ntmps37
            go_wp2
            go_ret
            exact FIN.out _ H _ _ rfl
        · have H : Hid (Stamp.right s = false) := by show Stamp.right s = false; unfold Stamp.right; simp; omega
          go_enter Try.func37, Try.ntmps37
          go_wp2
          go_ret
          exact FIN.out _ H _ _ rfl
      · have H : Hid (Stamp.right s = false) := by show Stamp.right s = false; unfold Stamp.right; simp; omega
        go_enter Try.func37, Try.ntmps37
        go_wp2
        go_ret
        exact FIN.out _ H _ _ rfl
    · have H : Hid (Stamp.right s = false) := by show Stamp.right s = false; unfold Stamp.right; simp; omega
      go_enter Try.func37, Try.ntmps37
      go_wp2
      go_ret
      exact FIN.out _ H _ _ rfl
  · have H : Hid (Stamp.right s = false) := by show Stamp.right s = false; unfold Stamp.right; simp; omega
    go_enter Try.func37, Try.ntmps37
    go_wp2
    go_ret
    exact FIN.out _ H _ _ rfl

end Go.Proofs.Ytfafehffnjbhnaa
