/- Words for memory: a slice that came in, read as a list of cells, and what keeps the reading. Plain lemmas over any program. -/
import Derived.Test.YtejojfjbecpofaaRows
import Derived.WalkKit
import Derived.WalkSpells
import Derived.WalkLawsBesides
import Derived.Lib.Hide
namespace Go.Proofs.Ytejojfjbecpofaa
open Go.RowKit
namespace Mem

/-- The cells of a slice's elements, read from its address on, in a block below B; of no cells nothing is said. -/
def Rd (w : World) (B : Nat) (A : Option Addr) (xs : List Value) : Prop :=
  xs = [] ∨ ∃ b o, A = some ⟨b, o, none⟩ ∧ b < B ∧ ∀ j u, xs[j]? = some u → w.cell? ⟨b, o + j, none⟩ = some u

section
variable {w w' : World} {B B' : Nat} {A : Option Addr} {xs : List Value}
theorem Rd.nil (w : World) (B : Nat) (A : Option Addr) : Rd w B A [] := .inl rfl
theorem Rd.keep (h : Rd w B A xs) (hk : ∀ p : Addr, p.block < B → w'.cell? p = w.cell? p) : Rd w' B A xs := by
  rcases h with h | ⟨b, o, e, hb, hc⟩
  · exact .inl h
  · exact .inr ⟨b, o, e, hb, fun j u hu => (hk _ hb).trans (hc j u hu)⟩
theorem Rd.more (h : Rd w B A xs) (hB : B ≤ B') : Rd w B' A xs := by
  rcases h with h | ⟨b, o, e, hb, hc⟩
  · exact .inl h
  · exact .inr ⟨b, o, e, by omega, hc⟩
theorem Rd.below (h : Rd w B A xs) (hb : Below B w w') : Rd w' B A xs := h.keep fun _ hp => hb.cell hp
theorem Rd.drew (h : Rd w B A xs) : Rd w.drew B A xs := h
theorem Rd.drewN (h : Rd w B A xs) (k : Nat) : Rd (w.drewN k) B A xs := h
theorem Rd.at (h : Rd w B A xs) {k : Nat} (hk : k < xs.length) : ∃ b o, A = some ⟨b, o, none⟩ ∧ b < B ∧ w.cell? ⟨b, o + k, none⟩ = some xs[k] := by
  rcases h with rfl | ⟨b, o, e, hb, hc⟩
  · simp at hk
  · exact ⟨b, o, e, hb, hc k _ (List.getElem?_eq_getElem hk)⟩
theorem Rd.alloc (h : Rd w B A xs) (hB : B ≤ w.heap.size) (o : Obj) : Rd (w.alloc o) B A xs := h.keep fun p hp => World.cell?_alloc_lt w o p (by omega)
theorem Rd.alloc_new (w : World) (cs : Array Value) (t : TypeId) (fr : Nat × Nat) {s : Nat} (hs : w.heap.size = s) : Rd (w.alloc (.cells cs t fr)) (s + 1) (some ⟨s, 0, none⟩) cs.toList := by
  subst hs
  refine .inr ⟨w.heap.size, 0, rfl, by omega, fun j u hu => ?_⟩
  rw [Nat.zero_add, cell_of_row _ _ j cs t fr (heap_alloc_new w _)]
  simpa using hu
end

/-- a byte in a cell -/
abbrev byteV (c : UInt8) : Value := .int .u8 (c.toNat : Int)
theorem byte_hi (c : UInt8) : (c.toNat : Int) ≤ 255 := by have := c.toNat_lt; omega
theorem Rd.byte {w : World} {B : Nat} {A : Option Addr} {bs : List UInt8} (h : Rd w B A (bs.map byteV)) {k : Nat} (hk : k < bs.length) :
    ∃ b o c, A = some ⟨b, o, none⟩ ∧ bs[k]? = some c ∧ w.cell? ⟨b, o + k, none⟩ = some (byteV c) := by
  obtain ⟨b, o, e, _, hc⟩ := h.at (k := k) (by simpa using hk)
  exact ⟨b, o, bs[k], e, List.getElem?_eq_getElem hk, by simpa using hc⟩
theorem take_snoc {α : Type} {l : List α} {k : Nat} {c : α} (h : l[k]? = some c) : l.take (k + 1) = l.take k ++ [c] := by
  obtain ⟨hk, rfl⟩ := List.getElem?_eq_some_iff.1 h
  rw [List.take_succ_eq_append_getElem hk]
end Mem
end Go.Proofs.Ytejojfjbecpofaa
