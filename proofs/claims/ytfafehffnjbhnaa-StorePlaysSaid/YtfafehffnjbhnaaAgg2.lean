/- Values of many cells, stored into a part of a greater one. Plain lemmas over any program. -/
import Derived.Test.YtfafehffnjbhnaaAgg
namespace Go.Proofs.Ytfafehffnjbhnaa
open Go.RowKit
set_option linter.unusedVariables false
set_option linter.unusedSimpArgs false
namespace Mem
section
variable {P : Program} {w : World} {ops : Array Oper} {rest : List Oper} {a : Act} {Q : Exit → Act → World → Prop} {d : Option Tmp} {ty : TypeId} {ps : String} {af : Array Edge}
/-- a value of many cells is stored in a part of a box -/
theorem store_part {x y : Operand} (t : TypeId) (n : Nat) (hA : Agg P t n) (tb : TypeId) (nb g off : Nat) (zs ys : List Value) (hx : a.eval x = .pointer (some ⟨g, off, none⟩)) (hy : a.eval y = .agg ys.toArray) (hb : Bx w tb nb g zs) (hl : ys.length = n) (hle : off + ys.length ≤ zs.length) (h3 : ∀ y ∈ ys, y.oneCell' = true)
    (h : ∀ w', Bx w' tb nb g (zs.take off ++ ys ++ zs.drop (off + ys.length)) → Keeps (fun k => k = g) w w' → w'.heap.size = w.heap.size → wpList P ops Q rest a w') :
    wpList P ops Q ({ dst := none, op := .store t x y, type := ty, pos := ps, after := af, guard := none } :: rest) a w :=
  wpList_plain rfl fun _ hK => wp_storeAgg t n hA x y rfl g off ys hx hy hl (fun j hj => by
    have hj' : off + j < zs.length := by omega
    rw [hb.cell (List.getElem?_eq_getElem hj')]; rfl) hb.fr h3 (hK _ _ (h _ (by
      have h1 := setAll_own (o := 0) ys zs off hle hb
      rw [Nat.zero_add] at h1
      exact h1) (setAll_keeps _ _ _ _) (setAll_size g ys off w)))
/-- a value of many cells is loaded, by a guarded operation too -/
theorem load_aggG {x : Operand} {gd : Option (Nat × Bool)} (t : TypeId) (n : Nat) (hA : Agg P t n) (g off : Nat) (xs : List Value) (hw : Region.wanted { dst := d, op := .load t x, type := ty, pos := ps, after := af, guard := gd } (yielded ops a.tmps) = true)
    (hx : a.eval x = .pointer (some ⟨g, off, none⟩)) (hl : xs.length = n) (hc : ∀ j u, xs[j]? = some u → w.cell? ⟨g, off + j, none⟩ = some u) (h : wpList P ops Q rest (a.put d (.agg xs.toArray)) w) :
    wpList P ops Q ({ dst := d, op := .load t x, type := ty, pos := ps, after := af, guard := gd } :: rest) a w := by
  unfold wpList
  rw [if_pos hw]
  exact .inl (wp_loadAgg t n hA x rfl g off hx xs hl hc h)
/-- a slice literal of one value of many cells -/
theorem build1_agg {x : Operand} (t e : TypeId) (n : Nat) (z : Value) (hu : P.underlying t = some (.slice e)) (hi : (P.info? e).map (fun i => (i.zero, i.size)) = some (some z, n)) (hn : 0 < n) (hs : n ≤ 1024)
    (xs : List Value) (hx : a.eval x = .agg xs.toArray) (hl : xs.length = n) (h : wpList P ops Q rest (a.put d (.slice (some ⟨w.heap.size, 0, none⟩) 1 1)) (w.alloc (.cells xs.toArray e))) :
    wpList P ops Q ({ dst := d, op := .buildSlice t 1 #[(0, x)], type := ty, pos := ps, after := af, guard := none } :: rest) a w := by
  refine build_agg t e n 1 z hu hi hn [.agg xs.toArray] xs (by simp [hx]) rfl (by omega) (by omega) (fun v hv => ?_) (by simp [Value.cells]) h
  rw [List.mem_singleton] at hv; subst hv; simpa [Value.cells] using hl
/-- of two -/
theorem build2_agg {x y : Operand} (t e : TypeId) (n : Nat) (z : Value) (hu : P.underlying t = some (.slice e)) (hi : (P.info? e).map (fun i => (i.zero, i.size)) = some (some z, n)) (hn : 0 < n) (hs : n ≤ 1024)
    (xs ys : List Value) (hx : a.eval x = .agg xs.toArray) (hy : a.eval y = .agg ys.toArray) (hl : xs.length = n) (hl2 : ys.length = n) (h : wpList P ops Q rest (a.put d (.slice (some ⟨w.heap.size, 0, none⟩) 2 2)) (w.alloc (.cells (xs ++ ys).toArray e))) :
    wpList P ops Q ({ dst := d, op := .buildSlice t 2 #[(0, x), (1, y)], type := ty, pos := ps, after := af, guard := none } :: rest) a w := by
  refine build_agg t e n 2 z hu hi hn [.agg xs.toArray, .agg ys.toArray] (xs ++ ys) (by simp [hx, hy]) rfl (by omega) (by omega) (fun v hv => ?_) (by simp [Value.cells]) h
  rcases List.mem_cons.1 hv with rfl | hv
  · simpa [Value.cells] using hl
  · rw [List.mem_singleton] at hv; subst hv; simpa [Value.cells] using hl2
/-- a part of a box is loaded -/
theorem Bx.part {w : World} {t : TypeId} {n g : Nat} {zs xs : List Value} (h : Bx w t n g zs) (off : Nat) (hx : xs = (zs.drop off).take xs.length) : ∀ j u, xs[j]? = some u → w.cell? ⟨g, off + j, none⟩ = some u := fun j u hu => by
  rw [hx, List.getElem?_take] at hu
  split at hu
  · rw [List.getElem?_drop] at hu
    exact h.cell hu
  · cases hu
end
end Mem
end Go.Proofs.Ytfafehffnjbhnaa
