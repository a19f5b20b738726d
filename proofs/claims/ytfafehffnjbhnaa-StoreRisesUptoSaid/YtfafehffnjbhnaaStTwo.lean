/- Two stores side by side. Plain lemmas. -/
import Derived.Test.YtfafehffnjbhnaaStTwice
import Derived.Test.YtfafehffnjbhnaaStore6
import Derived.Test.YtfafehffnjbhnaaStoreQ
namespace Go.Proofs.Ytfafehffnjbhnaa
open Go.RowKit
set_option linter.unusedVariables false
set_option linter.unusedSimpArgs false
namespace Sto
open Vec
/-- store a (block ga, map ba) and store b, both above what there was when w was -/
structure Two (B : Nat) (W : World) (rng : Int) (ga ba : Nat) (mka : Col) (rsa : List LR) (gb bb : Nat) (mkb : Col) (rsb : List LR) : Prop where
  a : Mine B W ga ba rng mka rsa
  b : Mine B W gb bb rng mkb rsb
  ap : ∀ k, fpS ga ba rsa k → ¬ fpS gb bb rsb k
section
variable {B : Nat} {W W' : World} {rng : Int} {ga ba gb bb : Nat} {mka mkb mk' : Col} {rsa rsb rs' : List LR} {news : List Ent} {x : Ending} {S : Nat → Prop}
theorem Two.below (h : Two B W rng ga ba mka rsa gb bb mkb rsb) (hb : Below W.heap.size W W') : Two B W' rng ga ba mka rsa gb bb mkb rsb := ⟨h.a.below hb, h.b.below hb, h.ap⟩
theorem Two.swap (h : Two B W rng ga ba mka rsa gb bb mkb rsb) : Two B W rng gb bb mkb rsb ga ba mka rsa := ⟨h.b, h.a, fun k h1 h2 => h.ap k h2 h1⟩
theorem Two.turnA (h : Two B W rng ga ba mka rsa gb bb mkb rsb) (hB : B ≤ W.heap.size) (hS : SS W' ga ba rng mk' rs') (hG : Good rng (states rs')) (hk : Mem.Keeps (fpS ga ba rsa) W W') (hq : ∀ k, fpS ga ba rs' k → fpS ga ba rsa k ∨ W.heap.size ≤ k) :
    Two B W' rng ga ba mk' rs' gb bb mkb rsb :=
  ⟨⟨hS, hG, fun k hk9 => (hq k hk9).elim (h.a.a k) (fun h => Nat.le_trans hB h)⟩, ⟨h.b.S.keeps hk (fun k h1 h2 => h.ap k h2 h1), h.b.G, h.b.a⟩, fun k h1 h2 => by
    rcases hq k h1 with h3 | h3
    · exact h.ap k h3 h2
    · have := h.b.S.lt h2; omega⟩
theorem Two.putA (h : Two B W rng ga ba mka rsa gb bb mkb rsb) (hB : B ≤ W.heap.size) (he : PutEnd W ga ba rng mka rsa news x W') :
    ∃ rs', x = .returned (.int .i64 ((putL rng mka (states rsa) news).2 : Nat)) ∧ states rs' = (putL rng mka (states rsa) news).1 ∧ Two B W' rng ga ba mka rs' gb bb mkb rsb ∧ Mem.Keeps (fpS ga ba rsa) W W' := by
  obtain ⟨rs', h1, h2, h3, h4, h5, h6⟩ := he
  exact ⟨rs', h1, h2, h.turnA hB h3 h4 h5 h6, h5⟩
theorem Two.putB (h : Two B W rng ga ba mka rsa gb bb mkb rsb) (hB : B ≤ W.heap.size) (he : PutEnd W gb bb rng mkb rsb news x W') :
    ∃ rs', x = .returned (.int .i64 ((putL rng mkb (states rsb) news).2 : Nat)) ∧ states rs' = (putL rng mkb (states rsb) news).1 ∧ Two B W' rng ga ba mka rsa gb bb mkb rs' ∧ Mem.Keeps (fpS gb bb rsb) W W' := by
  obtain ⟨rs', h1, h2, h3, h4⟩ := h.swap.putA hB he
  exact ⟨rs', h1, h2, h3.swap, h4⟩
end
theorem two_new {w w3 w4 : World} {rng : Int} {ga ba gb bb : Nat} (h3 : SS w3 ga ba rng col0 []) (hg1 : w.heap.size ≤ ga) (hg2 : w.heap.size ≤ ba) (hs : w.heap.size ≤ w3.heap.size) (h4 : SS w4 gb bb rng col0 []) (hb : Below w3.heap.size w3 w4) (hg3 : w3.heap.size ≤ gb) (hg4 : w3.heap.size ≤ bb) :
    Two w.heap.size w4 rng ga ba col0 [] gb bb col0 [] := by
  have m3 := new_mine (w := w) h3 hg1 hg2
  have m4 := new_mine (w := w3) h4 hg3 hg4
  refine ⟨m3.below hb, ⟨m4.S, m4.G, fun k hk => Nat.le_trans hs (m4.a k hk)⟩, fun k h1 h2 => ?_⟩
  have := h3.lt h1
  have := m4.a k h2
  omega
end Sto
end Go.Proofs.Ytfafehffnjbhnaa
