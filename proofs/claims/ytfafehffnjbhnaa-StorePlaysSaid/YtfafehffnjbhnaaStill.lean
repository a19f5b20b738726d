/- A drawn region that reads and then does one thing: one walk, in a world of a name of its own. Plain lemmas over any program. -/
import Derived.Test.YtfafehffnjbhnaaKeep
import Derived.StillTailTactics
namespace Go.Proofs.Ytfafehffnjbhnaa
set_option linter.unusedVariables false
set_option linter.unusedSimpArgs false
open Go.RowKit
namespace Mem
theorem below_drewN {B : Nat} {w w' : World} (h : Below B w w') (n : Nat) : Below B w (w'.drewN n) := ⟨h.os, h.tape, h.output, h.size, h.block⟩
theorem Rd.keepsAt {S : Nat → Prop} {w W : World} {B : Nat} {D : Option Addr} {xs : List Value} (h : Rd w B D xs) (hk : Keeps S w W) (hB : B ≤ w.heap.size) (hS : ∀ k, blk D = some k → ¬ S k) : Rd W W.heap.size D xs := by
  rcases h with h | ⟨b, o, rfl, hb, hc⟩
  · exact .inl h
  · have := hk.size
    exact .inr ⟨b, o, rfl, by omega, fun j u hu => (hk.cell (p := ⟨b, o + j, none⟩) (by show b < _; omega) (hS b rfl)).trans (hc j u hu)⟩
theorem Rd.keepsLt {S : Nat → Prop} {w W : World} {B : Nat} {D : Option Addr} {xs : List Value} (h : Rd w B D xs) (hk : Keeps S w W) (hB : B ≤ w.heap.size) (hS : ∀ k, k < B → ¬ S k) : Rd W W.heap.size D xs := by
  rcases h with h | ⟨b, o, rfl, hb, hc⟩
  · exact .inl h
  · have := hk.size
    exact .inr ⟨b, o, rfl, by omega, fun j u hu => (hk.cell (p := ⟨b, o + j, none⟩) (by show b < _; omega) (hS b hb)).trans (hc j u hu)⟩
theorem From.of_blk {B : Nat} {A : Option Addr} (h : ∀ k, Mem.blk A = some k → B ≤ k) : From B A := fun ad e => h _ (by rw [e]; rfl)
end Mem
namespace Reg
theorem still_tail {P : Program} {id : Nat} {Q : Exit → Act → World → Prop} {a : Act} {w : World} {l : List Oper} (n : Nat) (hm : P.follows .mixedOrders = true) (hB : Region.lexTailB .any l.toArray n = true)
    (h : ∀ w5, w5 = w.drew → wpStill P l.toArray w5 (fun a' => wpList P l.toArray Q (l.drop n) a' w5) (l.take n) a) : (Code.region id l.toArray true).wp P Q a w :=
  wp_region_still_tail n hm hB (h _ rfl)
end Reg
end Go.Proofs.Ytfafehffnjbhnaa
