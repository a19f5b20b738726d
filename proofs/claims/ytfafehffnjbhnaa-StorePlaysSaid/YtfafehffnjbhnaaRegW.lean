/- A region that draws its order, with up to three operations that write what is there: each of its own blocks. Plain lemmas over any program. -/
import Derived.Test.YtfafehffnjbhnaaReg
import Derived.Test.YtfafehffnjbhnaaKeep
import Derived.Test.YtfafehffnjbhnaaStill
namespace Go.Proofs.Ytfafehffnjbhnaa
set_option linter.unusedVariables false
set_option linter.unusedSimpArgs false
open Go.RowKit
namespace Reg
/-- may operation i come between what operation j leaves (n: what was there) and what operation k finds (n: the end)? -/
def btw (ops : Array Oper) (n i j k : Nat) : Bool := (decide (j = n) || (decide (j ≠ i) && !ahead ops i j)) && (decide (k = n) || (decide (k ≠ i) && !ahead ops k i))
theorem btw_of {ops : Array Oper} {n i j k : Nat} (hj : j = n ∨ j ≠ i ∧ ahead ops i j = false) (hk : k = n ∨ k ≠ i ∧ ahead ops k i = false) : btw ops n i j k = true := by
  unfold btw
  rcases hj with h | ⟨h1, h2⟩ <;> rcases hk with h3 | ⟨h3, h4⟩ <;> simp [*]
def Wr (ops : Array Oper) (n i1 : Nat) (S1 : Nat → Prop) (i2 : Nat) (S2 : Nat → Prop) (i3 : Nat) (S3 : Nat → Prop) (j k : Nat) (u v : World) : Prop :=
  Mem.Keeps (fun q => (S1 q ∧ btw ops n i1 j k = true) ∨ (S2 q ∧ btw ops n i2 j k = true) ∨ (S3 q ∧ btw ops n i3 j k = true)) u v
section
variable {P : Program} {ops : Array Oper} {n i1 i2 i3 j k : Nat} {S1 S2 S3 : Nat → Prop} {u v w w' : World}
theorem Wr.refl (ops : Array Oper) (n i1 : Nat) (S1 : Nat → Prop) (i2 : Nat) (S2 : Nat → Prop) (i3 : Nat) (S3 : Nat → Prop) (j k : Nat) (w : World) : Wr ops n i1 S1 i2 S2 i3 S3 j k w w := Mem.Keeps.refl _ _
theorem Wr.trans (ops : Array Oper) (n i1 : Nat) (S1 : Nat → Prop) (i2 : Nat) (S2 : Nat → Prop) (i3 : Nat) (S3 : Nat → Prop) (j k : Nat) (a b c : World) (h : Wr ops n i1 S1 i2 S2 i3 S3 j k a b) (h2 : Wr ops n i1 S1 i2 S2 i3 S3 j k b c) : Wr ops n i1 S1 i2 S2 i3 S3 j k a c :=
  Mem.Keeps.trans h h2 (fun _ h _ => h)
theorem Wr.same {i : Nat} (w : World) : Does ops n (Wr ops n i1 S1 i2 S2 i3 S3) i w w := fun _ _ _ _ => Wr.refl _ _ _ _ _ _ _ _ _ _ _
theorem Wr.quiet {i : Nat} (h : Mem.Keeps (fun _ => False) w w') : Does ops n (Wr ops n i1 S1 i2 S2 i3 S3) i w w' := fun _ _ _ _ => h.mono (fun _ h _ => h.elim)
theorem Wr.below {i : Nat} (h : Below w.heap.size w w') : Does ops n (Wr ops n i1 S1 i2 S2 i3 S3) i w w' := Wr.quiet (Mem.Keeps.of_below h)
theorem Wr.does1 (h : Mem.Keeps S1 w w') : Does ops n (Wr ops n i1 S1 i2 S2 i3 S3) i1 w w' := fun _ _ hj hk => h.mono (fun _ hq _ => .inl ⟨hq, btw_of hj hk⟩)
theorem Wr.does2 (h : Mem.Keeps S2 w w') : Does ops n (Wr ops n i1 S1 i2 S2 i3 S3) i2 w w' := fun _ _ hj hk => h.mono (fun _ hq _ => .inr (.inl ⟨hq, btw_of hj hk⟩))
theorem Wr.does3 (h : Mem.Keeps S3 w w') : Does ops n (Wr ops n i1 S1 i2 S2 i3 S3) i3 w w' := fun _ _ hj hk => h.mono (fun _ hq _ => .inr (.inr ⟨hq, btw_of hj hk⟩))
/-- all that may be written in between -/
theorem Wr.all (h : Wr ops n i1 S1 i2 S2 i3 S3 j k u v) : Mem.Keeps (fun q => S1 q ∨ S2 q ∨ S3 q) u v :=
  Mem.Keeps.mono h (fun _ h _ => h.elim (fun h => .inl h.1) (fun h => h.elim (fun h => .inr (.inl h.1)) (fun h => .inr (.inr h.1))))
theorem Wr.not1 (h : Wr ops n i1 S1 i2 S2 i3 S3 j k u v) (h1 : btw ops n i1 j k = false) : Mem.Keeps (fun q => S2 q ∨ S3 q) u v :=
  Mem.Keeps.mono h (fun _ h _ => h.elim (fun h => by rw [h1] at h; cases h.2) (fun h => h.elim (fun h => .inl h.1) (fun h => .inr h.1)))
theorem Wr.not2 (h : Wr ops n i1 S1 i2 S2 i3 S3 j k u v) (h1 : btw ops n i2 j k = false) : Mem.Keeps (fun q => S1 q ∨ S3 q) u v :=
  Mem.Keeps.mono h (fun _ h _ => h.elim (fun h => .inl h.1) (fun h => h.elim (fun h => by rw [h1] at h; cases h.2) (fun h => .inr h.1)))
theorem Wr.not3 (h : Wr ops n i1 S1 i2 S2 i3 S3 j k u v) (h1 : btw ops n i3 j k = false) : Mem.Keeps (fun q => S1 q ∨ S2 q) u v :=
  Mem.Keeps.mono h (fun _ h _ => h.elim (fun h => .inl h.1) (fun h => h.elim (fun h => .inr h.1) (fun h => by rw [h1] at h; cases h.2)))
theorem Wr.only1 (h : Wr ops n i1 S1 i2 S2 i3 S3 j k u v) (h2 : btw ops n i2 j k = false) (h3 : btw ops n i3 j k = false) : Mem.Keeps S1 u v :=
  Mem.Keeps.mono h (fun _ h _ => h.elim (fun h => h.1) (fun h => h.elim (fun h => by rw [h2] at h; cases h.2) (fun h => by rw [h3] at h; cases h.2)))
theorem Wr.only2 (h : Wr ops n i1 S1 i2 S2 i3 S3 j k u v) (h1 : btw ops n i1 j k = false) (h3 : btw ops n i3 j k = false) : Mem.Keeps S2 u v :=
  Mem.Keeps.mono h (fun _ h _ => h.elim (fun h => by rw [h1] at h; cases h.2) (fun h => h.elim (fun h => h.1) (fun h => by rw [h3] at h; cases h.2)))
theorem Wr.only3 (h : Wr ops n i1 S1 i2 S2 i3 S3 j k u v) (h1 : btw ops n i1 j k = false) (h2 : btw ops n i2 j k = false) : Mem.Keeps S3 u v :=
  Mem.Keeps.mono h (fun _ h _ => h.elim (fun h => by rw [h1] at h; cases h.2) (fun h => h.elim (fun h => by rw [h2] at h; cases h.2) (fun h => h.1)))
theorem Wr.none (h : Wr ops n i1 S1 i2 S2 i3 S3 j k u v) (h1 : btw ops n i1 j k = false) (h2 : btw ops n i2 j k = false) (h3 : btw ops n i3 j k = false) : Mem.Keeps (fun _ => False) u v :=
  Mem.Keeps.mono h (fun _ h _ => h.elim (fun h => by rw [h1] at h; cases h.2) (fun h => h.elim (fun h => by rw [h2] at h; cases h.2) (fun h => by rw [h3] at h; cases h.2)))
theorem wp_region_w {a0 : Act} {id : Nat} {Q : Exit → Act → World → Prop} {w1 : World} (hm : P.follows .mixedOrders = true) (size n : Nat) (hsz : a0.tmps.size = size) (hn : ops.size = n) (hfit : fit ops size = true)
    (i1 : Nat) (S1 : Nat → Prop) (i2 : Nat) (S2 : Nat → Prop) (i3 : Nat) (S3 : Nat → Prop) (V : Nat → Value → World → Prop)
    (steps : Steps P ops n (Wr ops n i1 S1 i2 S2 i3 S3) V a0 w1.drew 0 ops.toList)
    (fin : ∀ (val : Nat → Value) (w : World), Wr ops n i1 S1 i2 S2 i3 S3 n n w1.drew w → (∀ j, j < n → Held (Wr ops n i1 S1 i2 S2 i3 S3) V n j (val j) w) → Q .normal (lay val (ops.toList.map (·.dst)) 0 a0) w) :
    (Code.region id ops true).wp P Q a0 w1 :=
  wp_region_rel hm size n hsz hn hfit _ (Wr.refl _ _ _ _ _ _ _ _) (Wr.trans _ _ _ _ _ _ _ _) V steps fin
end
end Reg
end Go.Proofs.Ytfafehffnjbhnaa
