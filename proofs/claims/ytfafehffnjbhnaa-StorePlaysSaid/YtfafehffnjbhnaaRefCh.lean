/- The document's vectors: covers, chain. No conditions. -/
import Derived.Test.YtfafehffnjbhnaaTyEq
import Derived.Test.YtfafehffnjbhnaaRef4c
namespace Go.Proofs.Ytfafehffnjbhnaa
open Go.ChangeShapes Go.WideShapes Go.ChangeAt Go.RowKit
set_option linter.unusedVariables false
set_option linter.unusedSimpArgs false

set_option maxHeartbeats 1000000 in
theorem refChain_any (d : Vec.Dt) (w : World) :
    Calls Try.prog 59 #[.agg (Vec.dtCells d).toArray] w fun e w' => e = .returned (.bool (Vec.chain d.dc d.rng)) ∧ Below w.heap.size w w' := by
  obtain ⟨dc, rng, q⟩ := d
  obtain ⟨b, hb, h⟩ := Vec.chain_arms dc rng
  show Calls Try.prog 59 #[.agg #[.int .i64 dc, .int .i64 rng, .int .i64 q]] w fun e w' => e = .returned (.bool (Vec.chain dc rng)) ∧ Below w.heap.size w w'
  rw [hb]
  clear hb
  have HB := Lib.hid (show Below w.heap.size w (w.alloc (.cells #[.int .i64 dc, .int .i64 rng, .int .i64 q] 34)) from Reg.below_new _ _)
  rcases h with ⟨rfl, h1, h2, h3, h4⟩ | ⟨rfl, h | ⟨h1, h⟩ | ⟨h1, h2, h⟩ | ⟨h1, h2, h3, h⟩⟩ <;>
  · go_enter Try.func59, Try.ntmps59
    go_wp2
    go_ret
    exact ⟨rfl, HB.out⟩
end Go.Proofs.Ytfafehffnjbhnaa
