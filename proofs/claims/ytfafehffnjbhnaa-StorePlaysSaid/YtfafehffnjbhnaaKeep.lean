/- Frames by blocks: nothing but some blocks is turned, of what is there; and what stands over that: slices of the call's own, boxes. Plain lemmas over any program. -/
import Derived.Test.YtfafehffnjbhnaaMem
namespace Go.Proofs.Ytfafehffnjbhnaa
set_option linter.unusedVariables false
set_option linter.unusedSimpArgs false
open Go.RowKit
namespace Mem
/-- nothing but the blocks of S is turned, of what is there -/
structure Keeps (S : Nat → Prop) (w w' : World) : Prop where
  os : w'.os = w.os
  tape : w'.tape = w.tape
  output : w'.output = w.output
  size : w.heap.size ≤ w'.heap.size
  block : ∀ k, k < w.heap.size → ¬ S k → w'.heap[k]? = w.heap[k]?
section
variable {S T : Nat → Prop} {a b w w' w'' : World} {B : Nat}
theorem Keeps.refl (S : Nat → Prop) (w : World) : Keeps S w w := ⟨rfl, rfl, rfl, Nat.le_refl _, fun _ _ _ => rfl⟩
theorem Keeps.trans (h : Keeps S a b) (k : Keeps T b w) (hST : ∀ i, T i → i < a.heap.size → S i) : Keeps S a w :=
  ⟨k.os.trans h.os, k.tape.trans h.tape, k.output.trans h.output, Nat.le_trans h.size k.size, fun i hi hs =>
    (k.block i (Nat.lt_of_lt_of_le hi h.size) (fun ht => hs (hST i ht hi))).trans (h.block i hi hs)⟩
theorem Keeps.mono (h : Keeps S w w') (hST : ∀ i, S i → i < w.heap.size → T i) : Keeps T w w' := ⟨h.os, h.tape, h.output, h.size, fun i hi ht => h.block i hi fun hs => ht (hST i hs hi)⟩
theorem Keeps.drew (h : Keeps S a w) : Keeps S a w.drew := ⟨h.os, h.tape, h.output, h.size, h.block⟩
theorem Keeps.drewN (h : Keeps S a w) (n : Nat) : Keeps S a (w.drewN n) := ⟨h.os, h.tape, h.output, h.size, h.block⟩
theorem Keeps.alloc (h : Keeps S a w) (o : Obj) : Keeps S a (w.alloc o) :=
  ⟨h.os, h.tape, h.output, by have := h.size; simp; omega, fun i hi hs => (Below.heap_alloc w o i (Nat.lt_of_lt_of_le hi h.size)).trans (h.block i hi hs)⟩
theorem Keeps.setCell (h : Keeps S a w) {p : Addr} (hp : p.block < a.heap.size → S p.block) (u : Value) : Keeps S a (w.setCell p u) :=
  ⟨h.os, h.tape, h.output, by have := h.size; simpa [World.setCell] using this, fun i hi hs => (Below.heap_setCell w p u i (fun e => hs (e ▸ hp (e ▸ hi)))).trans (h.block i hi hs)⟩
theorem Keeps.grown {row : Option Nat} (h : Keeps S a w) (hg : w.grownBy w' row) (hr : ∀ k, row = some k → k < a.heap.size → S k) : Keeps S a w' :=
  ⟨hg.os.trans h.os, hg.tape.trans h.tape, hg.output.trans h.output, Nat.le_trans h.size hg.size, fun i hi hs =>
    (hg.block i (Nat.lt_of_lt_of_le hi h.size) (fun e => hs (hr i e.symm hi))).trans (h.block i hi hs)⟩
theorem Keeps.of_below (h : Below w.heap.size w w') : Keeps (fun _ => False) w w' := ⟨h.os, h.tape, h.output, h.size, fun i hi _ => h.block i hi⟩
theorem Keeps.belowAll (h : Keeps (fun _ => False) w w') : Below w.heap.size w w' := ⟨h.os, h.tape, h.output, h.size, fun i hi => h.block i hi id⟩
theorem Keeps.below (h : Keeps S w w') (hS : ∀ k, S k → B ≤ k) (hB : B ≤ w.heap.size) : Below B w w' :=
  ⟨h.os, h.tape, h.output, h.size, fun i hi => h.block i (by omega) fun hs => by have := hS i hs; omega⟩
theorem Keeps.cell (h : Keeps S w w') {p : Addr} (hp : p.block < w.heap.size) (hs : ¬ S p.block) : w'.cell? p = w.cell? p := World.cell?_of_block (w := w) (h.block _ hp hs)
theorem Own.keeps {e : TypeId} {sz n c : Nat} {A : Option Addr} {xs : List Value} (h : Own w e sz A n c xs) (hk : Keeps S w w') (hne : ∀ k, blk A = some k → ¬ S k) : Own w' e sz A n c xs := by
  refine ⟨h.1, ?_⟩
  rcases h.2 with ⟨h1, h2, h3⟩ | ⟨g, o, cur, rfl, hg, hrest⟩
  · exact .inl ⟨h1, h2, h3⟩
  · exact .inr ⟨g, o, cur, rfl, (hk.block g (Array.getElem?_eq_some_iff.1 hg).1 (hne g rfl)).trans hg, hrest⟩
theorem Rd.keeps {A : Option Addr} {xs : List Value} (h : Rd w B A xs) (hk : Keeps S w w') (hS : ∀ k, S k → B ≤ k) (hB : B ≤ w.heap.size) : Rd w' B A xs := h.below (hk.below hS hB)
/-- a slice of the call's own from its k-th element on -/
theorem Own.drop {e : TypeId} {sz n c g o : Nat} {xs : List Value} (h : Own w e sz (some ⟨g, o, none⟩) n c xs) {k : Nat} (hk : k ≤ n) : Own w e sz (some ⟨g, o + k * sz, none⟩) (n - k) (c - k) (xs.drop (k * sz)) := by
  refine ⟨by rw [List.length_drop, h.1, Nat.sub_mul], ?_⟩
  rcases h.2 with ⟨h1, _⟩ | ⟨g', o', cur, h0, hg, hnc, hcm, hcs, hcell⟩
  · cases h1
  · cases h0
    refine .inr ⟨g, o + k * sz, cur, rfl, hg, by omega, by omega, ?_, fun j u hu => ?_⟩
    · have h1 : (c - k) * sz + k * sz = c * sz := by rw [← Nat.add_mul]; congr 1; omega
      omega
    · rw [List.getElem?_drop] at hu
      have := hcell _ u hu
      rwa [← Nat.add_assoc] at this
/-- a slice of the call's own cut to its first k elements -/
theorem Own.take {e : TypeId} {sz n c : Nat} {A : Option Addr} {xs : List Value} (h : Own w e sz A n c xs) {k : Nat} (hk : k ≤ n) : Own w e sz A k c (xs.take (k * sz)) := by
  refine ⟨by rw [List.length_take, h.1]; exact Nat.min_eq_left (Nat.mul_le_mul_right _ hk), ?_⟩
  rcases h.2 with ⟨h1, h2, h3⟩ | ⟨g, o, cur, rfl, hg, hnc, hcm, hcs, hcell⟩
  · exact .inl ⟨h1, by omega, h3⟩
  · refine .inr ⟨g, o, cur, rfl, hg, by omega, hcm, hcs, fun j u hu => hcell j u ?_⟩
    rw [List.getElem?_take] at hu
    split at hu
    · exact hu
    · cases hu
end
end Mem
end Go.Proofs.Ytfafehffnjbhnaa
