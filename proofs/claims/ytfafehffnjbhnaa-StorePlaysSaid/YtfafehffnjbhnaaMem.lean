/- Words for memory: a slice that came in, read as a list of cells, and what keeps the reading. Plain lemmas over any program. -/
import Derived.Test.YtfafehffnjbhnaaRows
import Derived.WalkKit
import Derived.WalkSpells
import Derived.WalkLawsBesides
import Derived.Lib.Hide
import Derived.OwnWalk
import Derived.Laws.CopyRow
namespace Go.Proofs.Ytfafehffnjbhnaa
set_option linter.unusedVariables false
set_option linter.unusedSimpArgs false
open Go.RowKit
namespace Mem

/-- The cells of a slice's elements, read from its address on, in a block below B; of no cells nothing is said. -/
def Rd (w : World) (B : Nat) (A : Option Addr) (xs : List Value) : Prop :=
  xs = [] ∨ ∃ b o, A = some ⟨b, o, none⟩ ∧ b < B ∧ ∀ j u, xs[j]? = some u → w.cell? ⟨b, o + j, none⟩ = some u

section
variable {w w' : World} {B B' : Nat} {A : Option Addr} {xs : List Value}
theorem Rd.nil (w : World) (B : Nat) (A : Option Addr) : Rd w B A [] := .inl rfl
theorem Rd.keep (h : Rd w B A xs) (hk : ∀ p : Addr, p.block < B → w'.cell? p = w.cell? p) : Rd w' B A xs := by
  rcases h with h | ⟨b, o, e, hb, hc⟩
  · exact .inl h
  · exact .inr ⟨b, o, e, hb, fun j u hu => (hk _ hb).trans (hc j u hu)⟩
theorem Rd.more (h : Rd w B A xs) (hB : B ≤ B') : Rd w B' A xs := by
  rcases h with h | ⟨b, o, e, hb, hc⟩
  · exact .inl h
  · exact .inr ⟨b, o, e, by omega, hc⟩
theorem Rd.below (h : Rd w B A xs) (hb : Below B w w') : Rd w' B A xs := h.keep fun _ hp => hb.cell hp
theorem Rd.drew (h : Rd w B A xs) : Rd w.drew B A xs := h
theorem Rd.drewN (h : Rd w B A xs) (k : Nat) : Rd (w.drewN k) B A xs := h
theorem Rd.take (h : Rd w B A xs) (k : Nat) : Rd w B A (xs.take k) := by
  rcases h with rfl | ⟨b, o, e, hb, hc⟩
  · exact .inl (by simp)
  · exact .inr ⟨b, o, e, hb, fun j u hu => hc j u (by rw [List.getElem?_take] at hu; split at hu <;> simp_all)⟩
theorem Rd.left {ys : List Value} (h : Rd w B A (xs ++ ys)) : Rd w B A xs := by have := h.take xs.length; rwa [List.take_left] at this
theorem Rd.at (h : Rd w B A xs) {k : Nat} (hk : k < xs.length) : ∃ b o, A = some ⟨b, o, none⟩ ∧ b < B ∧ w.cell? ⟨b, o + k, none⟩ = some xs[k] := by
  rcases h with rfl | ⟨b, o, e, hb, hc⟩
  · simp at hk
  · exact ⟨b, o, e, hb, hc k _ (List.getElem?_eq_getElem hk)⟩
theorem Rd.alloc (h : Rd w B A xs) (hB : B ≤ w.heap.size) (o : Obj) : Rd (w.alloc o) B A xs := h.keep fun p hp => World.cell?_alloc_lt w o p (by omega)
theorem Rd.alloc_new (w : World) (cs : Array Value) (t : TypeId) (fr : Nat × Nat) {s : Nat} (hs : w.heap.size = s) : Rd (w.alloc (.cells cs t fr)) (s + 1) (some ⟨s, 0, none⟩) cs.toList := by
  subst hs
  refine .inr ⟨w.heap.size, 0, rfl, by omega, fun j u hu => ?_⟩
  rw [Nat.zero_add, cell_of_row _ _ j cs t fr (heap_alloc_new w _)]
  simpa using hu
theorem Rd.cells0 {b o : Nat} (h : Rd w B (some ⟨b, o, none⟩) xs) {k : Nat} (hk : k < xs.length) : w.cell? ⟨b, o + k, none⟩ = some xs[k] := by
  obtain ⟨b', o', e, _, hc⟩ := h.at hk
  cases e; exact hc
end

/-- what stands below, read as it was -/
theorem bcell {W w1 : World} (hb : Below W.heap.size W w1) : (∀ b o, b < W.heap.size → w1.cell? ⟨b, o, none⟩ = W.cell? ⟨b, o, none⟩) ∧ (∀ b o, b < W.heap.size → w1.frozen? ⟨b, o, none⟩ = W.frozen? ⟨b, o, none⟩) :=
  ⟨fun b o h => hb.cell (p := ⟨b, o, none⟩) h, fun b o h => hb.frozen (p := ⟨b, o, none⟩) h⟩
theorem set_same {W : World} {p : Addr} (u : Value) (h : (W.cell? p).isSome = true) : (W.setCell p u).cell? p = some u := by
  obtain ⟨v, hv⟩ := Option.isSome_iff_exists.1 h
  exact World.cell?_setCell_same _ _ _ hv
theorem isSome_set (W : World) (p q : Addr) (u : Value) : ((W.setCell p u).cell? q).isSome = (W.cell? q).isSome := by
  by_cases e : p = q
  · subst e
    cases h : W.cell? p with
    | some v => rw [World.cell?_setCell_same _ _ _ h]; rfl
    | none =>
      have hn : (W.setCell p u).cell? p = none := by
        unfold World.cell? World.setCell at *
        simp only [Array.getElem?_modify]
        cases hb : W.heap[p.block]? with
        | none => simp
        | some o =>
          rw [hb] at h
          cases o <;> simp_all
      rw [hn]
  · rw [World.cell?_setCell_other _ _ _ _ e]
theorem add_flat (g o j : Nat) : (⟨g, o, none⟩ : Addr).add j = ⟨g, o + j, none⟩ := by unfold Addr.add; split <;> simp_all

/-- The slice '.slice A n c' (elements of type e, sz cells each) holds the cells xs, in a block that is not frozen, with its spare room behind them; or it is nil. -/
def Own (w : World) (e : TypeId) (sz : Nat) (A : Option Addr) (n c : Nat) (xs : List Value) : Prop :=
  xs.length = n * sz ∧ ((A = none ∧ n = 0 ∧ c = 0) ∨ ∃ g o cur, A = some ⟨g, o, none⟩ ∧ w.heap[g]? = some (.cells cur e (0, 0)) ∧ n ≤ c ∧ c ≤ maxLen ∧ o + c * sz ≤ cur.size ∧ ∀ j u, xs[j]? = some u → cur[o + j]? = some u)
/-- its block is not below B -/
def From (B : Nat) (A : Option Addr) : Prop := ∀ ad, A = some ad → B ≤ ad.block
/-- its block's number -/
def blk (A : Option Addr) : Option Nat := A.map (·.block)

theorem From.none_ (B : Nat) : From B none := fun _ h => by cases h
theorem From.some_ {B g o : Nat} {s : Option Nat} (h : B ≤ g) : From B (some ⟨g, o, s⟩) := fun _ e => by cases e; exact h
theorem From.mono {B B' : Nat} {A : Option Addr} (h : From B A) (hb : B' ≤ B) : From B' A := fun ad e => Nat.le_trans hb (h ad e)
theorem From.blk {B : Nat} {A : Option Addr} (h : From B A) : ∀ k, blk A = some k → B ≤ k := by
  intro k hk
  cases A with
  | none => cases hk
  | some ad => cases hk; exact h ad rfl

section
variable {w w' : World} {e : TypeId} {sz n c : Nat} {A : Option Addr} {xs : List Value}
theorem Own.nil (w : World) (e : TypeId) (sz : Nat) : Own w e sz none 0 0 [] := ⟨by simp, .inl ⟨rfl, rfl, rfl⟩⟩
theorem Own.lit (w : World) (e : TypeId) (sz : Nat) (cs : Array Value) (n : Nat) {s : Nat} (hs : w.heap.size = s) (hc : cs.size = n * sz) (hn : n ≤ maxLen) : Own (w.alloc (.cells cs e)) e sz (some ⟨s, 0, none⟩) n n cs.toList := by
  subst hs
  exact ⟨by simpa using hc, .inr ⟨w.heap.size, 0, cs, rfl, heap_alloc_new w _, Nat.le_refl _, hn, by omega, fun j u h => by simpa using h⟩⟩
theorem Own.lt (h : Own w e sz A n c xs) {k : Nat} (hk : blk A = some k) : k < w.heap.size := by
  rcases h.2 with ⟨rfl, _⟩ | ⟨g, o, cur, rfl, hg, _⟩
  · cases hk
  · cases hk; exact (Array.getElem?_eq_some_iff.1 hg).1
theorem Own.kept {row : Option Nat} (h : Own w e sz A n c xs) (hg : w.grownBy w' row) (hne : blk A = none ∨ blk A ≠ row) : Own w' e sz A n c xs := by
  refine ⟨h.1, ?_⟩
  rcases h.2 with hn | ⟨g, o, cur, rfl, hgg, rest⟩
  · exact .inl hn
  · refine .inr ⟨g, o, cur, rfl, ?_, rest⟩
    rw [hg.block g (Array.getElem?_eq_some_iff.1 hgg).1 (by simpa [blk] using hne)]
    exact hgg
theorem Own.below {B : Nat} (h : Own w e sz A n c xs) (hb : Below B w w') (hlt : ∀ k, blk A = some k → k < B) : Own w' e sz A n c xs := by
  refine ⟨h.1, ?_⟩
  rcases h.2 with hn | ⟨g, o, cur, rfl, hgg, rest⟩
  · exact .inl hn
  · exact .inr ⟨g, o, cur, rfl, (hb.block g (hlt g rfl)).trans hgg, rest⟩
theorem Own.alloc (h : Own w e sz A n c xs) (x : Obj) : Own (w.alloc x) e sz A n c xs :=
  h.kept (World.grownBy_alloc w x none) (by cases hv : blk A <;> simp)
theorem Own.drew (h : Own w e sz A n c xs) : Own w.drew e sz A n c xs := h
theorem Own.rd (h : Own w e sz A n c xs) : Rd w w.heap.size A xs := by
  rcases h.2 with ⟨rfl, rfl, _⟩ | ⟨g, o, cur, rfl, hgg, _, _, _, hc⟩
  · exact .inl (List.eq_nil_of_length_eq_zero (by simpa using h.1))
  · refine .inr ⟨g, o, rfl, (Array.getElem?_eq_some_iff.1 hgg).1, fun j u hu => ?_⟩
    rw [cell_of_row w g (o + j) cur e (0, 0) hgg]; exact hc j u hu
/-- a store into one of its cells -/
theorem Own.set {g o : Nat} (h : Own w e sz (some ⟨g, o, none⟩) n c xs) (j : Nat) (u : Value) : Own (w.setCell ⟨g, o + j, none⟩ u) e sz (some ⟨g, o, none⟩) n c (xs.set j u) := by
  refine ⟨by simpa using h.1, ?_⟩
  rcases h.2 with ⟨h0, _⟩ | ⟨g', o', cur, h0, hg, hnc, hcm, hcs, hcell⟩
  · cases h0
  · cases h0
    refine .inr ⟨g, o, cur.setIfInBounds (o + j) u, rfl, ?_, hnc, hcm, by simpa using hcs, fun i v hv => ?_⟩
    · simp [World.setCell, Array.getElem?_modify, hg]
    · rw [List.getElem?_set] at hv
      by_cases hj : j = i
      · subst hj
        rw [if_pos rfl] at hv
        split at hv
        · rename_i hl
          have hc := hcell j (xs[j]) (List.getElem?_eq_getElem hl)
          have := (Array.getElem?_eq_some_iff.1 hc).1
          cases hv
          simp [this]
        · cases hv
      · rw [if_neg hj] at hv
        rw [Array.getElem?_setIfInBounds_ne (by omega)]
        exact hcell i v hv
theorem Own.form (h : Own w e sz A n c xs) (h0 : 0 < n) : ∃ g o, A = some ⟨g, o, none⟩ := by
  rcases h.2 with ⟨_, rfl, _⟩ | ⟨g, o, cur, rfl, _⟩
  · omega
  · exact ⟨g, o, rfl⟩
theorem Own.cell {g o : Nat} (h : Own w e sz (some ⟨g, o, none⟩) n c xs) {j : Nat} {u : Value} (hu : xs[j]? = some u) : w.cell? ⟨g, o + j, none⟩ = some u := by
  rcases h.2 with ⟨h0, _⟩ | ⟨g', o', cur, h0, hg, hnc, hcm, hcs, hcell⟩
  · cases h0
  · cases h0; rw [cell_of_row w g (o + j) cur e (0, 0) hg]; exact hcell j u hu
theorem Own.free {g o : Nat} (h : Own w e sz (some ⟨g, o, none⟩) n c xs) (i : Nat) : w.frozen? ⟨g, i, none⟩ = false := by
  rcases h.2 with ⟨h0, _⟩ | ⟨g', o', cur, h0, hg, hnc, hcm, hcs, hcell⟩
  · cases h0
  · cases h0; exact frozen_of_row w g i cur e hg
theorem Own.base {B : Nat} (h : Own w e sz A n c xs) (hA : From B A) (h0 : 0 < n) : B < w.heap.size := by
  rcases h.2 with ⟨_, rfl, _⟩ | ⟨g, o, cur, rfl, hgg, _⟩
  · omega
  · exact Nat.lt_of_le_of_lt (hA _ rfl) (Array.getElem?_eq_some_iff.1 hgg).1
theorem Own.len (h : Own w e sz A n c xs) : xs.length = n * sz := h.1
theorem Own.le (h : Own w e sz A n c xs) : n ≤ c := by
  rcases h.2 with ⟨_, rfl, rfl⟩ | ⟨_, _, _, _, _, h, _⟩
  · exact Nat.le_refl _
  · exact h
theorem Own.cap (h : Own w e sz A n c xs) : c ≤ maxLen := by
  rcases h.2 with ⟨_, rfl, rfl⟩ | ⟨_, _, _, _, _, _, h, _⟩
  · simp [maxLen]
  · exact h
end

/-- what append asks of the types: t a slice of e, whose values take sz cells, bytes bytes -/
def Elem (P : Program) (t e : TypeId) (sz bytes : Nat) : Prop :=
  P.underlying t = some (.slice e) ∧ 0 < sz ∧ ∃ i z, P.info? e = some i ∧ i.zero = some z ∧ i.size = sz ∧ i.bytes = bytes ∧ z.cells.size = sz
theorem elem_of {P : Program} {t e : TypeId} {sz bytes : Nat} {z : Value} (ht : P.underlying t = some (.slice e)) (h : (P.info? e).map (fun i => (i.zero, i.size, i.bytes)) = some (some z, sz, bytes)) (hz : z.cells.size = sz) (hs : 0 < sz) : Elem P t e sz bytes := by
  refine ⟨ht, hs, ?_⟩
  cases hi : P.info? e with
  | none => rw [hi] at h; cases h
  | some i =>
    rw [hi] at h
    simp only [Option.map_some, Option.some.injEq, Prod.mk.injEq] at h
    exact ⟨i, z, rfl, h.1, h.2.1, h.2.2, hz⟩

theorem Elem.make {P : Program} {t e : TypeId} {sz bytes : Nat} (hE : Elem P t e sz bytes) (n : Nat) (hb : bytes * n ≤ 281474976710656) (hn : n ≤ 9223372036854775807) :
    ∃ z : Value, z.cells.size = sz ∧ ∃ i, P.info? e = some i ∧ i.zero = some z ∧ ∀ W : World, (Instr.makeSlice t (.int .i64 (n : Int)) (.int .i64 (n : Int))).run P W = .ok (.slice (some ⟨W.heap.size, 0, none⟩) n n) (W.alloc (.cells (madeCells z.cells (n * sz)) e)) := by
  obtain ⟨ht, hsz, i, z, hi, hz, rfl, rfl, hzs⟩ := hE
  refine ⟨z, hzs, i, hi, hz, fun W => ?_⟩
  have hb' : (i.bytes : Int) * (n : Int) ≤ 281474976710656 := by
    have h : ((i.bytes * n : Nat) : Int) ≤ 281474976710656 := by omega
    rwa [Int.natCast_mul] at h
  have hr := run_make (P := P) W t e i z ht hi hz .i64 .i64 n n (by omega) (Int.le_refl _) hb' (by omega)
  simp only [Int.toNat_natCast] at hr
  exact hr

section
variable {P : Program} (w : World)
theorem run_app {t e : TypeId} {sz bytes : Nat} (hE : Elem P t e sz bytes) (ty : TypeId) (A : Option Addr) (n c : Nat) (xs : List Value) (hown : Own w e sz A n c xs)
    (B : Nat) (A2 : Option Addr) (m c2 : Nat) (news : List Value) (hr : Rd w B A2 news) (hl : news.length = m * sz) (h1 : ∀ u ∈ news, u.oneCell' = true)
    (h63 : n + m ≤ maxLen) (hbytes : (n + m) * bytes ≤ 140737488355328) :
    ∃ A' c' w', (Builtin.append_ #[t, t] ty #[.slice A n c, .slice A2 m c2]).run P w = .ok (.slice A' (n + m) c') w' ∧ Own w' e sz A' (n + m) c' (xs ++ news) ∧ w.grownBy w' (blk A) ∧
      (A' = A ∨ A' = some ⟨w.heap.size, 0, none⟩) := by
  obtain ⟨ht, hsz, i, z, hi, hz, rfl, rfl, hzs⟩ := hE
  have hsmall : n + m ≤ 9223372036854775807 := by simp only [maxLen] at h63; omega
  have hlen : (xs ++ news).length = (n + m) * i.size := by rw [List.length_append, hown.1, hl, Nat.add_mul]
  by_cases hm : m = 0
  · subst hm
    have hn : news = [] := List.eq_nil_of_length_eq_zero (by simpa using hl)
    subst hn
    refine ⟨A, c, w, ?_, by simpa using hown, ⟨rfl, rfl, rfl, Nat.le_refl _, fun _ _ _ => rfl⟩, .inl rfl⟩
    have hf : (Builtin.firstCells i.size 0 (.slice A2 0 c2)).run P w = .ok #[] w := by
      cases A2 with
      | none => exact run_firstCells_none w _ _ _ _
      | some b => exact run_firstCells_some (P := P) w i.size 0 b 0 c2 [] (by simp) (by simp)
    rcases hown.2 with ⟨rfl, rfl, rfl⟩ | ⟨g, o, cur, rfl, hg, hnc, _⟩
    · simp [Builtin.append_, run_underlying ht, sizeOf, typeInfo, hi, Builtin.lenOf, hf]
    · simp [Builtin.append_, run_underlying ht, sizeOf, typeInfo, hi, Builtin.lenOf, hnc, hf, storeCells]
  · have hne : news ≠ [] := by
      intro h
      rw [h] at hl
      simp only [List.length_nil] at hl
      have := Nat.mul_pos (Nat.pos_of_ne_zero hm) hsz
      omega
    rcases hr with hr | ⟨b, o2, rfl, _, hr⟩
    · exact absurd hr hne
    have hnews : ∀ j u, news[j]? = some u → w.cell? ((⟨b, o2, none⟩ : Addr).add j) = some u := fun j u hu => by rw [add_flat]; exact hr j u hu
    have grown : ∀ (old : Nat), old < n + m → ∀ (row : Option Nat),
        Own (w.drew.alloc (.cells (xs.toArray ++ news.toArray ++ Builtin.zeroCells z.cells (grownCap w (n + m) old e - (n + m))) e)) e i.size (some ⟨w.heap.size, 0, none⟩) (n + m) (grownCap w (n + m) old e) (xs ++ news) ∧
        w.grownBy (w.drew.alloc (.cells (xs.toArray ++ news.toArray ++ Builtin.zeroCells z.cells (grownCap w (n + m) old e - (n + m))) e)) row := by
      intro old ho row
      have hge := grownCap_ge w (n + m) old e
      have hcm : grownCap w (n + m) old e ≤ maxLen := grownCap_le_maxLen w (n + m) old e h63
      refine ⟨⟨hlen, .inr ⟨w.heap.size, 0, _, rfl, heap_alloc_new w.drew _, hge, hcm, ?_, fun j u hu => ?_⟩⟩, ⟨rfl, rfl, rfl, by simp, fun k hk _ => _root_.Go.heap_alloc_old w.drew _ hk⟩⟩
      · simp only [Array.size_append, List.size_toArray, size_zeroCells, hzs, hown.1, hl, ← Nat.add_mul]
        rw [Nat.zero_add]
        refine Nat.mul_le_mul_right _ ?_
        omega
      · have hj : j < (xs ++ news).length := (List.getElem?_eq_some_iff.1 hu).1
        rw [Nat.zero_add, Array.getElem?_append_left (by simpa using hj), ← hu]
        simp
    rcases hown.2 with ⟨rfl, rfl, rfl⟩ | ⟨g, o, cur, rfl, hg, hnc, hcm, hcs, hcell⟩
    · have hx : xs = [] := List.eq_nil_of_length_eq_zero (by simpa using hown.1)
      subst hx
      have hr := run_append_nil (P := P) w t ty e i z ht hi hz ⟨b, o2, none⟩ m c2 news hl hnews (by omega) (by omega) (by have hb := hbytes; simp only [Nat.zero_add] at hb; omega)
      have hgr := grown 0 (by omega) (blk none)
      simp only [Nat.zero_add, List.nil_append, Array.empty_append] at hgr ⊢
      exact ⟨_, _, _, hr, hgr.1, hgr.2, .inr rfl⟩
    · by_cases hroom : n + m ≤ c
      · have hfit : n * i.size + news.length ≤ c * i.size := by rw [hl, ← Nat.add_mul]; exact Nat.mul_le_mul_right _ hroom
        have hf := run_firstCells_some (P := P) w i.size m ⟨b, o2, none⟩ m c2 news hl hnews
        have hst := run_storeCells_at P g (o + n * i.size) e news 0 cur w hg (by omega) h1
        simp only [Nat.add_zero] at hst
        refine ⟨some ⟨g, o, none⟩, c, w.setRow g (cur.toList.take (o + n * i.size) ++ news ++ cur.toList.drop (o + n * i.size + news.length)).toArray, ?_, ⟨hlen, .inr ⟨g, o, _, rfl, setRow_heap w g cur _ e _ hg, hroom, hcm, ?_, fun j u hu => ?_⟩⟩, ⟨rfl, rfl, rfl, by simp, fun k _ hk => setRow_other w g k _ (fun e => hk (by simp [blk, e]))⟩, .inl rfl⟩
        · simp [Builtin.append_, run_underlying ht, sizeOf, typeInfo, hi, Builtin.lenOf, hroom, hf, add_flat, hst]
        · simp only [List.size_toArray, List.length_append, List.length_take, List.length_drop, Array.length_toList]
          omega
        · simp only [List.getElem?_toArray]
          have hxl := hown.1
          by_cases hj : j < xs.length
          · rw [List.getElem?_append_left (by simp; omega), List.getElem?_append_left (by simp; omega), List.getElem?_take, if_pos (by omega)]
            rw [List.getElem?_append_left hj] at hu
            simpa using hcell j u hu
          · have hj2 : j < (xs ++ news).length := (List.getElem?_eq_some_iff.1 hu).1
            rw [List.length_append] at hj2
            rw [List.getElem?_append_right (by omega)] at hu
            rw [List.getElem?_append_left (by simp; omega), List.getElem?_append_right (by simp; omega), ← hu]
            congr 1
            simp only [List.length_take, Array.length_toList]
            omega
      · have holds : ∀ j u, xs[j]? = some u → w.cell? ((⟨g, o, none⟩ : Addr).add j) = some u := fun j u hu => by rw [add_flat, cell_of_row w g (o + j) cur e (0, 0) hg]; exact hcell j u hu
        have hr := run_append_grow (P := P) w t ty e i z ht hi hz ⟨g, o, none⟩ n c xs hown.1 holds ⟨b, o2, none⟩ m c2 news hl hnews (by omega) (by omega) (growslice_fits (by omega) hbytes)
        have hgr := grown c (by omega) (blk (some ⟨g, o, none⟩))
        exact ⟨_, _, _, hr, hgr.1, hgr.2, .inr rfl⟩

theorem wp_app {o : Oper} {a : Act} {K : Act → World → Prop} {Q : Exit → Act → World → Prop} (s x : Operand) (t : TypeId)
    (ho : o.op = .call { callee := .builtin .append, args := #[s, x], argTypes := #[t, t] })
    {e : TypeId} {sz bytes : Nat} (hE : Elem P t e sz bytes) (A : Option Addr) (n c : Nat) (xs : List Value) (hs : a.eval s = .slice A n c) (hown : Own w e sz A n c xs)
    (B : Nat) (A2 : Option Addr) (m c2 : Nat) (news : List Value) (hx : a.eval x = .slice A2 m c2) (hr : Rd w B A2 news) (hl : news.length = m * sz) (h1 : ∀ u ∈ news, u.oneCell' = true)
    (h63 : n + m ≤ maxLen) (hbytes : (n + m) * bytes ≤ 140737488355328)
    (h : ∀ A' c' w', Own w' e sz A' (n + m) c' (xs ++ news) → w.grownBy w' (blk A) → (A' = A ∨ A' = some ⟨w.heap.size, 0, none⟩) → K (a.put o.dst (.slice A' (n + m) c')) w') : o.wp P a w K Q := by
  obtain ⟨A', c', w', hrun, h2, h3, h4⟩ := run_app (P := P) w hE o.type A n c xs hown B A2 m c2 news hr hl h1 h63 hbytes
  unfold Oper.wp execOp
  simp only [ho, resolve, invoke, builtin, Sem.run_bind, Sem.run_pure, Result.andThen_ok, List.map_toArray, List.map_cons, List.map_nil, hs, hx, hrun]
  exact h A' c' w' h2 h3 h4

theorem wpList_app {ops : Array Oper} {rest : List Oper} {o : Oper} {a : Act} {Q : Exit → Act → World → Prop} (hw : Region.wanted o (yielded ops a.tmps) = true) (s x : Operand) (t : TypeId)
    (ho : o.op = .call { callee := .builtin .append, args := #[s, x], argTypes := #[t, t] })
    {e : TypeId} {sz bytes : Nat} (hE : Elem P t e sz bytes) (A : Option Addr) (n c : Nat) (xs : List Value) (hs : a.eval s = .slice A n c)
    (B : Nat) (A2 : Option Addr) (m c2 : Nat) (news : List Value) (hx : a.eval x = .slice A2 m c2) (h : ∀ A' c' w', Own w' e sz A' (n + m) c' (xs ++ news) → w.grownBy w' (blk A) → (A' = A ∨ A' = some ⟨w.heap.size, 0, none⟩) → wpList P ops Q rest (a.put o.dst (.slice A' (n + m) c')) w')
    (hown : Own w e sz A n c xs) (hr : Rd w B A2 news) (hl : news.length = m * sz) (h1 : ∀ u ∈ news, u.oneCell' = true)
    (h63 : n + m ≤ maxLen) (hbytes : (n + m) * bytes ≤ 140737488355328) : wpList P ops Q (o :: rest) a w := by
  unfold wpList
  rw [if_pos hw]
  exact .inl (wp_app w s x t ho hE A n c xs hs hown B A2 m c2 news hx hr hl h1 h63 hbytes fun A' c' w' h2 h3 h4 => h A' c' w' h2 h3 h4)

/-- append onto a slice without room: nothing that is there is turned -/
theorem run_app0 {t e : TypeId} {sz bytes : Nat} (hE : Elem P t e sz bytes) (ty : TypeId) (A : Option Addr) (hown : Own w e sz A 0 0 [])
    (B : Nat) (A2 : Option Addr) (m c2 : Nat) (news : List Value) (hr : Rd w B A2 news) (hl : news.length = m * sz) (h1 : ∀ u ∈ news, u.oneCell' = true)
    (h63 : m ≤ maxLen) (hbytes : m * bytes ≤ 140737488355328) :
    ∃ A' c' w', (Builtin.append_ #[t, t] ty #[.slice A 0 0, .slice A2 m c2]).run P w = .ok (.slice A' m c') w' ∧ Own w' e sz A' m c' news ∧ Below w.heap.size w w' ∧ (A' = A ∨ A' = some ⟨w.heap.size, 0, none⟩) := by
  by_cases hm : m = 0
  · subst hm
    have hn : news = [] := List.eq_nil_of_length_eq_zero (by simpa using hl)
    subst hn
    obtain ⟨ht, hsz, i, z, hi, hz, rfl, rfl, hzs⟩ := hE
    refine ⟨A, 0, w, ?_, by simpa using hown, Below.refl _ _, .inl rfl⟩
    have hf : (Builtin.firstCells i.size 0 (.slice A2 0 c2)).run P w = .ok #[] w := by
      cases A2 with
      | none => exact run_firstCells_none w _ _ _ _
      | some b => exact run_firstCells_some (P := P) w i.size 0 b 0 c2 [] (by simp) (by simp)
    cases A with
    | none => simp [Builtin.append_, run_underlying ht, sizeOf, typeInfo, hi, Builtin.lenOf, hf]
    | some g => simp [Builtin.append_, run_underlying ht, sizeOf, typeInfo, hi, Builtin.lenOf, hf, storeCells]
  · obtain ⟨A', c', w', hrun, h2, h3, h4⟩ := run_app (P := P) w hE ty A 0 0 [] hown B A2 m c2 news hr hl h1 (by omega) (by rw [Nat.zero_add]; exact hbytes)
    obtain ⟨ht, hsz, i, z, hi, hz, rfl, rfl, hzs⟩ := hE
    have hne : news ≠ [] := by
      intro h
      rw [h] at hl
      simp only [List.length_nil] at hl
      have := Nat.mul_pos (Nat.pos_of_ne_zero hm) hsz
      omega
    rcases hr with hr | ⟨b, o2, rfl, _, hr⟩
    · exact absurd hr hne
    have hnews : ∀ j u, news[j]? = some u → w.cell? ((⟨b, o2, none⟩ : Addr).add j) = some u := fun j u hu => by rw [add_flat]; exact hr j u hu
    have hsmall : m ≤ 9223372036854775807 := by simp only [maxLen] at h63; omega
    have hw : w' = w.drew.alloc (.cells (news.toArray ++ Builtin.zeroCells z.cells (grownCap w m 0 e - m)) e) := by
      cases A with
      | none =>
        have hc : (A' = none ∨ True) := .inr trivial
        have hr' := run_append_nil (P := P) w t ty e i z ht hi hz ⟨b, o2, none⟩ m c2 news hl hnews (by omega) (by omega) (by omega)
        rw [hr'] at hrun
        injection hrun with _ hw
        exact hw.symm
      | some g =>
        have hr' := run_append_grow (P := P) w t ty e i z ht hi hz g 0 0 [] (by simp) (by simp) ⟨b, o2, none⟩ m c2 news hl hnews (by omega) (by omega) (growslice_fits (by omega) (by rw [Nat.zero_add]; exact hbytes))
        rw [hr'] at hrun
        injection hrun with _ hw
        simpa using hw.symm
    rw [Nat.zero_add] at hrun h2
    rw [List.nil_append] at h2
    exact ⟨A', c', w', hrun, h2, by rw [hw]; exact ((Below.refl _ _).drew).alloc (Nat.le_refl _) _, h4⟩

theorem wpList_app0 {ops : Array Oper} {rest : List Oper} {o : Oper} {a : Act} {Q : Exit → Act → World → Prop} (hw : Region.wanted o (yielded ops a.tmps) = true) (s x : Operand) (t : TypeId)
    (ho : o.op = .call { callee := .builtin .append, args := #[s, x], argTypes := #[t, t] })
    {e : TypeId} {sz bytes : Nat} (hE : Elem P t e sz bytes) (A : Option Addr) (hs : a.eval s = .slice A 0 0)
    (B : Nat) (A2 : Option Addr) (m c2 : Nat) (news : List Value) (hx : a.eval x = .slice A2 m c2)
    (h : ∀ A' c' w', Own w' e sz A' m c' news → Below w.heap.size w w' → (A' = A ∨ A' = some ⟨w.heap.size, 0, none⟩) → wpList P ops Q rest (a.put o.dst (.slice A' m c')) w')
    (hown : Own w e sz A 0 0 []) (hr : Rd w B A2 news) (hl : news.length = m * sz) (h1 : ∀ u ∈ news, u.oneCell' = true)
    (h63 : m ≤ maxLen) (hbytes : m * bytes ≤ 140737488355328) : wpList P ops Q (o :: rest) a w := by
  obtain ⟨A', c', w', hrun, h2, h3, h4⟩ := run_app0 (P := P) w hE o.type A hown B A2 m c2 news hr hl h1 h63 hbytes
  unfold wpList
  rw [if_pos hw]
  refine .inl ?_
  unfold Oper.wp execOp
  simp only [ho, resolve, invoke, builtin, Sem.run_bind, Sem.run_pure, Result.andThen_ok, List.map_toArray, List.map_cons, List.map_nil, hs, hx, hrun]
  exact h A' c' w' h2 h3 h4

/-- append onto a slice of no elements that was just made: a copy of what is read -/
theorem wpList_clone {ops : Array Oper} {rest : List Oper} {o : Oper} {a : Act} {Q : Exit → Act → World → Prop} (hw : Region.wanted o (yielded ops a.tmps) = true) (s x : Operand) (t : TypeId)
    (ho : o.op = .call { callee := .builtin .append, args := #[s, x], argTypes := #[t, t] })
    {e : TypeId} {sz bytes : Nat} (hE : Elem P t e sz bytes) (s0 : Nat) (hs : a.eval s = .slice (some ⟨s0, 0, none⟩) 0 0)
    (w0 : World) (B : Nat) (A2 : Option Addr) (m c2 : Nat) (news : List Value) (hx : a.eval x = .slice A2 m c2)
    (h : ∀ A' c' w', Own w' e sz A' m c' news → Below B w0 w' → s0 < w'.heap.size → From s0 A' → wpList P ops Q rest (a.put o.dst (.slice A' m c')) w')
    (hs0 : w.heap.size = s0) (hb : Below B w0 w) (hB : B ≤ s0) (hr : Rd w0 B A2 news) (hl : news.length = m * sz) (h1 : ∀ u ∈ news, u.oneCell' = true)
    (h63 : m ≤ maxLen) (hbytes : m * bytes ≤ 140737488355328) : wpList P ops Q (o :: rest) a (w.alloc (.cells #[] e)) := by
  subst hs0
  refine wpList_app (P := P) (w.alloc (.cells #[] e)) hw s x t ho hE (some ⟨w.heap.size, 0, none⟩) 0 0 [] hs B A2 m c2 news hx ?_ (Own.lit w e sz #[] 0 rfl (by simp) (by simp [maxLen])) ((hr.below hb).alloc hB _) hl h1 (by omega) (by rw [Nat.zero_add]; exact hbytes)
  intro A' c' w' hown hg hat
  rw [Nat.zero_add] at hown ⊢
  rw [List.nil_append] at hown
  refine h A' c' w' hown ((hb.alloc hB _).grown hg (by simp; omega) (From.blk (From.some_ hB))) (by have := hg.size; simp at this; omega) ?_
  rcases hat with rfl | rfl
  · exact From.some_ (Nat.le_refl _)
  · exact From.some_ (by simp)

theorem step_app {ops : Array Oper} {o : Oper} {a : Act} {K : Act → World → Prop} {Q : Exit → Act → World → Prop} {E : Prop} (hw : Region.wanted o (yielded ops a.tmps) = true) (s x : Operand) (t : TypeId)
    (ho : o.op = .call { callee := .builtin .append, args := #[s, x], argTypes := #[t, t] })
    {e : TypeId} {sz bytes : Nat} (hE : Elem P t e sz bytes) (A : Option Addr) (n c : Nat) (xs : List Value) (hs : a.eval s = .slice A n c)
    (B : Nat) (A2 : Option Addr) (m c2 : Nat) (news : List Value) (hx : a.eval x = .slice A2 m c2) (h : ∀ A' c' w', Own w' e sz A' (n + m) c' (xs ++ news) → w.grownBy w' (blk A) → (A' = A ∨ A' = some ⟨w.heap.size, 0, none⟩) → K (a.put o.dst (.slice A' (n + m) c')) w')
    (hown : Own w e sz A n c xs) (hr : Rd w B A2 news) (hl : news.length = m * sz) (h1 : ∀ u ∈ news, u.oneCell' = true)
    (h63 : n + m ≤ maxLen) (hbytes : (n + m) * bytes ≤ 140737488355328) :
    if Region.wanted o (yielded ops a.tmps) = true then Oper.wp P o a w K Q else E := by
  rw [if_pos hw]
  exact wp_app w s x t ho hE A n c xs hs hown B A2 m c2 news hx hr hl h1 h63 hbytes h
end

/-- a byte in a cell -/
abbrev byteV (c : UInt8) : Value := .int .u8 (c.toNat : Int)
theorem bytes_one (bs : List UInt8) : ∀ u ∈ bs.map byteV, u.oneCell' = true := by
  intro u hu
  obtain ⟨c, _, rfl⟩ := List.mem_map.1 hu
  rfl
theorem byte_hi (c : UInt8) : (c.toNat : Int) ≤ 255 := by have := c.toNat_lt; omega
theorem Rd.byte {w : World} {B : Nat} {A : Option Addr} {bs : List UInt8} (h : Rd w B A (bs.map byteV)) {k : Nat} (hk : k < bs.length) :
    ∃ b o c, A = some ⟨b, o, none⟩ ∧ bs[k]? = some c ∧ w.cell? ⟨b, o + k, none⟩ = some (byteV c) := by
  obtain ⟨b, o, e, _, hc⟩ := h.at (k := k) (by simpa using hk)
  exact ⟨b, o, bs[k], e, List.getElem?_eq_getElem hk, by simpa using hc⟩
theorem take_snoc {α : Type} {l : List α} {k : Nat} {c : α} (h : l[k]? = some c) : l.take (k + 1) = l.take k ++ [c] := by
  obtain ⟨hk, rfl⟩ := List.getElem?_eq_some_iff.1 h
  rw [List.take_succ_eq_append_getElem hk]
end Mem
end Go.Proofs.Ytfafehffnjbhnaa
