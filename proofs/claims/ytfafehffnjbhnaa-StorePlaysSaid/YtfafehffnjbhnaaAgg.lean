/- Values of many cells, loaded and stored whole. Plain lemmas over any program. -/
import Derived.Test.YtfafehffnjbhnaaKeep
import Derived.Laws.Rows
import Derived.Laws.Tables
import Derived.ProofKit
import Derived.Laws.ResultCell
import Derived.Great.BuildSlice
namespace Go.Proofs.Ytfafehffnjbhnaa
open Go.RowKit
set_option linter.unusedVariables false
set_option linter.unusedSimpArgs false

namespace Mem
/-- a block that holds one value of a type of n cells -/
def Bx (w : World) (t : TypeId) (n g : Nat) (xs : List Value) : Prop := Own w t n (some ⟨g, 0, none⟩) 1 1 xs
section
variable {w w' : World} {t : TypeId} {n g B : Nat} {xs : List Value}
theorem Bx.new (w : World) (t : TypeId) (cs : Array Value) (hc : cs.size = n) {g : Nat} (hg : w.heap.size = g) : Bx (w.alloc (.cells cs t)) t n g cs.toList :=
  Own.lit w t n cs 1 hg (by omega) (by simp [maxLen])
theorem Bx.cell (h : Bx w t n g xs) {j : Nat} {u : Value} (hu : xs[j]? = some u) : w.cell? ⟨g, j, none⟩ = some u := by
  have := Own.cell (j := j) h hu
  rwa [Nat.zero_add] at this
theorem Bx.fr (h : Bx w t n g xs) (i : Nat) : w.frozen? ⟨g, i, none⟩ = false := Own.free h i
theorem Bx.lt (h : Bx w t n g xs) : g < w.heap.size := Own.lt h rfl
theorem Bx.len (h : Bx w t n g xs) : xs.length = n := by have := Own.len h; omega
theorem Bx.below (h : Bx w t n g xs) (hb : Below B w w') (hg : g < B) : Bx w' t n g xs := Own.below h hb fun k hk => by cases hk; exact hg
theorem Bx.keeps {S : Nat → Prop} (h : Bx w t n g xs) (hk : Keeps S w w') (hne : ¬ S g) : Bx w' t n g xs := Own.keeps h hk (fun k hk => by cases hk; exact hne)
theorem Bx.set (h : Bx w t n g xs) (j : Nat) (u : Value) : Bx (w.setCell ⟨g, j, none⟩ u) t n g (xs.set j u) := by
  have := Own.set h j u
  rwa [Nat.zero_add] at this
theorem Bx.keep (h : Bx w t n g xs) {q : Nat} (hne : g ≠ q) (o : Nat) (u : Value) : Bx (w.setCell ⟨q, o, none⟩ u) t n g xs :=
  h.keeps ((Keeps.refl (fun k => k = q) w).setCell (fun _ => rfl) u) hne
end
/-- cells of a block, from o on -/
def setAll (g : Nat) : Nat → List Value → World → World
  | _, [], w => w
  | o, x :: xs, w => setAll g (o + 1) xs (w.setCell ⟨g, o, none⟩ x)
theorem setAll_own {e : TypeId} {sz n c g o : Nat} : ∀ (ys xs : List Value) (j : Nat), j + ys.length ≤ xs.length → ∀ {w : World}, Own w e sz (some ⟨g, o, none⟩) n c xs → Own (setAll g (o + j) ys w) e sz (some ⟨g, o, none⟩) n c (xs.take j ++ ys ++ xs.drop (j + ys.length))
  | [], xs, j, h, w, hb => by
    simp only [List.append_nil, List.length_nil, Nat.add_zero, List.take_append_drop]; exact hb
  | y :: ys, xs, j, h, w, hb => by
    rw [List.length_cons] at h
    have h1 := setAll_own ys (xs.set j y) (j + 1) (by rw [List.length_set]; omega) (hb.set j y)
    have h2 : (xs.set j y).take (j + 1) = xs.take j ++ [y] := by
      rw [List.take_add_one, List.take_set_of_le (Nat.le_refl _), List.getElem?_set_self (by omega)]; rfl
    have h3 : (xs.set j y).drop (j + 1 + ys.length) = xs.drop (j + (y :: ys).length) := by
      rw [List.drop_set_of_lt (by omega), List.length_cons]; congr 1; omega
    rw [h2, h3, List.append_assoc (xs.take j)] at h1
    simpa [setAll, Nat.add_assoc] using h1
theorem Bx.all {w : World} {t : TypeId} {n g : Nat} {xs : List Value} (h : Bx w t n g xs) (ys : List Value) (hy : ys.length = n) : Bx (setAll g 0 ys w) t n g ys := by
  have h1 := setAll_own (o := 0) ys xs 0 (by rw [h.len]; omega) h
  rw [List.take_zero, List.nil_append, List.drop_eq_nil_of_le (by rw [h.len]; omega), List.append_nil] at h1
  exact h1
theorem setAll_keeps (g : Nat) : ∀ (ys : List Value) (o : Nat) (w : World), Keeps (fun k => k = g) w (setAll g o ys w)
  | [], o, w => Keeps.refl _ _
  | y :: ys, o, w => ((Keeps.refl (fun k => k = g) w).setCell (p := ⟨g, o, none⟩) (fun _ => rfl) y).trans (setAll_keeps g ys (o + 1) _) (fun _ h _ => h)
theorem setAll_size (g : Nat) : ∀ (ys : List Value) (o : Nat) (w : World), (setAll g o ys w).heap.size = w.heap.size
  | [], o, w => rfl
  | y :: ys, o, w => by unfold setAll; rw [setAll_size g ys]; simp [World.setCell]
section
variable {P : Program} {w : World}
theorem run_storeAll (g o : Nat) : ∀ (ys : List Value) (i : Nat) (w : World), (∀ j, j < ys.length → (w.cell? ⟨g, o + i + j, none⟩).isSome = true) → (∀ k, w.frozen? ⟨g, k, none⟩ = false) → (∀ y ∈ ys, y.oneCell' = true) →
    (storeCells ⟨g, o, none⟩ ys i).run P w = .ok () (setAll g (o + i) ys w)
  | [], i, w, _, _, _ => rfl
  | y :: ys, i, w, h1, h2, h3 => by
    obtain ⟨v, hv⟩ := Option.isSome_iff_exists.1 (h1 0 (by simp))
    simp only [Nat.add_zero] at hv
    have h4 : (store (⟨g, o + i, none⟩ : Addr) y).run P w = .ok () (w.setCell ⟨g, o + i, none⟩ y) := by
      rw [run_store P w _ y _ (h3 y List.mem_cons_self), hv]
      simp only [h2]
      rfl
    simp only [storeCells, Sem.run_bind, add_flat, h4, Result.andThen_ok]
    rw [run_storeAll g o ys (i + 1) (w.setCell ⟨g, o + i, none⟩ y) (fun j hj => by rw [isSome_set]; have := h1 (j + 1) (by simp; omega); rwa [show o + i + (j + 1) = o + (i + 1) + j by omega] at this) (fun k => by rw [World.frozen?_setCell]; exact h2 k) (fun z hz => h3 z (List.mem_cons_of_mem _ hz))]
    rfl
/-- a type of many cells -/
structure Agg (P : Program) (t : TypeId) (n : Nat) : Prop where
  agg : ∀ w, (isAgg t).run P w = .ok true w
  size : ∀ w, (sizeOf t).run P w = .ok n w
theorem agg_of {t : TypeId} {n : Nat} {d : TypeDesc} (hu : P.underlying t = some d) (hd : (match d with | .struct _ | .array _ _ => true | _ => false) = true) (hi : (P.info? t).map (·.size) = some n) : Agg P t n := by
  cases hq : P.info? t with
  | none => simp [hq] at hi
  | some i =>
    have hs : i.size = n := by simpa [hq] using hi
    refine ⟨fun w => ?_, fun w => by simp [sizeOf, typeInfo, hq, hs]⟩
    unfold isAgg
    rw [Sem.run_bind, run_underlying hu w]
    cases d <;> simp_all
theorem run_loadAgg {t : TypeId} {n : Nat} (hA : Agg P t n) (g o : Nat) (xs : List Value) (hl : xs.length = n) (hc : ∀ j u, xs[j]? = some u → w.cell? ⟨g, o + j, none⟩ = some u) :
    (loadVar t ⟨g, o, none⟩).run P w = .ok (.agg xs.toArray) w := by
  have h1 : (loadCells ⟨g, o, none⟩ xs.length).run P w = .ok xs.toArray w := run_loadCells_list (P := P) w ⟨g, o, none⟩ xs (fun j v hv => by rw [add_flat]; exact hc j v hv)
  rw [hl] at h1
  simp [loadVar, Sem.run_bind, hA.agg, hA.size, h1]
theorem run_storeAgg {t : TypeId} {n : Nat} (hA : Agg P t n) (g o : Nat) (ys : List Value) (hl : ys.length = n) (h1 : ∀ j, j < ys.length → (w.cell? ⟨g, o + j, none⟩).isSome = true) (h2 : ∀ k, w.frozen? ⟨g, k, none⟩ = false) (h3 : ∀ y ∈ ys, y.oneCell' = true) :
    (storeVar t ⟨g, o, none⟩ (.agg ys.toArray)).run P w = .ok () (setAll g o ys w) := by
  have := run_storeAll (P := P) g o ys 0 w (by simpa using h1) h2 h3
  simp [storeVar, hA.size, Value.cells, hl, this]
variable {ops : Array Oper} {rest : List Oper} {a : Act} {Q : Exit → Act → World → Prop} {d : Option Tmp} {ty : TypeId} {ps : String} {af : Array Edge}
theorem wp_loadAgg {o : Oper} {K : Act → World → Prop} (t : TypeId) (n : Nat) (hA : Agg P t n) (x : Operand) (ho : o.op = .load t x) (g off : Nat) (hx : a.eval x = .pointer (some ⟨g, off, none⟩)) (xs : List Value) (hl : xs.length = n)
    (hc : ∀ j u, xs[j]? = some u → w.cell? ⟨g, off + j, none⟩ = some u) (h : K (a.put o.dst (.agg xs.toArray)) w) : o.wp P a w K Q := by
  unfold Oper.wp execOp
  simp only [ho, hx, Instr.loadAt, Instr.sureAddr, Sem.run_bind, Sem.run_pure, Result.andThen_ok, run_loadAgg hA g off xs hl hc]
  exact h
theorem wp_storeAgg {o : Oper} {K : Act → World → Prop} (t : TypeId) (n : Nat) (hA : Agg P t n) (x y : Operand) (ho : o.op = .store t x y) (g off : Nat) (ys : List Value) (hx : a.eval x = .pointer (some ⟨g, off, none⟩)) (hy : a.eval y = .agg ys.toArray) (hl : ys.length = n)
    (h1 : ∀ j, j < ys.length → (w.cell? ⟨g, off + j, none⟩).isSome = true) (h2 : ∀ k, w.frozen? ⟨g, k, none⟩ = false) (h3 : ∀ y ∈ ys, y.oneCell' = true) (h : K (a.put o.dst undef) (setAll g off ys w)) : o.wp P a w K Q := by
  unfold Oper.wp execOp
  simp only [ho, hx, hy, Instr.storeAt, Instr.sureAddr, Sem.run_bind, Sem.run_pure, Result.andThen_ok, run_storeAgg hA g off ys hl h1 h2 h3]
  exact h
/-- a value of many cells is loaded -/
theorem load_agg {x : Operand} (t : TypeId) (n : Nat) (hA : Agg P t n) (g off : Nat) (xs : List Value) (hx : a.eval x = .pointer (some ⟨g, off, none⟩)) (hl : xs.length = n)
    (hc : ∀ j u, xs[j]? = some u → w.cell? ⟨g, off + j, none⟩ = some u) (h : wpList P ops Q rest (a.put d (.agg xs.toArray)) w) :
    wpList P ops Q ({ dst := d, op := .load t x, type := ty, pos := ps, after := af, guard := none } :: rest) a w :=
  wpList_plain rfl fun _ hK => wp_loadAgg t n hA x rfl g off hx xs hl hc (hK _ _ h)
/-- a value of many cells is stored in a box -/
theorem store_agg {x y : Operand} (t : TypeId) (n : Nat) (hA : Agg P t n) (g : Nat) (zs ys : List Value) (hx : a.eval x = .pointer (some ⟨g, 0, none⟩)) (hy : a.eval y = .agg ys.toArray) (hb : Bx w t n g zs) (hl : ys.length = n) (h3 : ∀ y ∈ ys, y.oneCell' = true)
    (h : ∀ w', Bx w' t n g ys → Keeps (fun k => k = g) w w' → w'.heap.size = w.heap.size → wpList P ops Q rest a w') :
    wpList P ops Q ({ dst := none, op := .store t x y, type := ty, pos := ps, after := af, guard := none } :: rest) a w :=
  wpList_plain rfl fun _ hK => wp_storeAgg t n hA x y rfl g 0 ys hx hy hl (fun j hj => by
    rw [Nat.zero_add]
    have hj' : j < zs.length := by rw [hb.len]; omega
    rw [hb.cell (List.getElem?_eq_getElem hj')]; rfl) hb.fr h3 (hK _ _ (h _ (hb.all ys hl) (setAll_keeps _ _ _ _) (setAll_size g ys 0 w)))
/-- a slice literal of values of many cells -/
theorem build_agg {parts : Array (Nat × Operand)} (t e : TypeId) (n len : Nat) (z : Value) (hu : P.underlying t = some (.slice e)) (hi : (P.info? e).map (fun i => (i.zero, i.size)) = some (some z, n)) (hn : 0 < n)
    (vs cs : List Value) (hp : (parts.map fun (i, x) => (i, a.eval x)).toList = (vs.zipIdx 0).map fun x => (x.2, x.1)) (hlen : vs.length = len) (hpos : 0 < len) (hsmall : len * n ≤ 2 ^ 24) (h1 : ∀ v ∈ vs, v.cells.size = n)
    (hc : (vs.flatMap fun v => v.cells.toList) = cs) (h : wpList P ops Q rest (a.put d (.slice (some ⟨w.heap.size, 0, none⟩) len len)) (w.alloc (.cells cs.toArray e))) :
    wpList P ops Q ({ dst := d, op := .buildSlice t len parts, type := ty, pos := ps, after := af, guard := none } :: rest) a w := by
  cases hie : P.info? e with
  | none => simp [hie] at hi
  | some ie =>
    simp only [hie, Option.map_some, Option.some.injEq, Prod.mk.injEq] at hi
    obtain ⟨hz, hs⟩ := hi
    subst hs hc hlen
    have h0 : ¬ vs.length * ie.size = 0 := fun e0 => by rcases Nat.mul_eq_zero.1 e0 with e0 | e0 <;> omega
    refine wpList_buildSlice (o := { dst := d, op := .buildSlice t vs.length parts, type := ty, pos := ps, after := af, guard := none }) rfl t e vs.length parts rfl _ ie z hu hie hz (by omega) h0 ?_ h
    rw [hp]
    exact Great.fill_whole hn vs _ h1 (by simp)
theorem run_loadBx {t : TypeId} {n g : Nat} {xs : List Value} (hA : Agg P t n) (hb : Bx w t n g xs) : (loadVar t ⟨g, 0, none⟩).run P w = .ok (.agg xs.toArray) w :=
  run_loadAgg hA g 0 xs hb.len (fun j u hu => by rw [Nat.zero_add]; exact hb.cell hu)
theorem results_agg {fn : Func} {p : Tmp} {t : TypeId} {n g : Nat} {xs : List Value} {tmps : Array Value} (h : fn.results = #[.cell p t]) (hA : Agg P t n) (hp : tmps.getD p undef = .pointer (some ⟨g, 0, none⟩)) (hb : Bx w t n g xs) :
    (results fn tmps).run P w = .ok (.agg xs.toArray) w := by
  have hp' : tmps[p]?.getD undef = .pointer (some ⟨g, 0, none⟩) := by simpa using hp
  simp [results, h, hp', asAddr, run_loadBx hA hb]
theorem results_agg2 {fn : Func} {p u : Tmp} {t : TypeId} {n g : Nat} {xs : List Value} {tmps : Array Value} (h : fn.results = #[.cell p t, .tmp u]) (hA : Agg P t n) (hp : tmps.getD p undef = .pointer (some ⟨g, 0, none⟩)) (hb : Bx w t n g xs) :
    (results fn tmps).run P w = .ok (.tuple #[.agg xs.toArray, tmps.getD u undef]) w := by
  rw [results_cell_tmp h, hp]
  simp [asAddr, run_loadBx hA hb]
end
theorem Keeps.newBox {wr w2 : World} {o : Obj} {g : Nat} (hk : Keeps (fun k => k = g) (wr.alloc o) w2) (hg : wr.heap.size = g) : Keeps (fun _ => False) wr w2 :=
  ((Keeps.refl (fun _ => False) wr).alloc o).trans hk (fun i hi hlt => by omega)
end Mem
end Go.Proofs.Ytfafehffnjbhnaa
