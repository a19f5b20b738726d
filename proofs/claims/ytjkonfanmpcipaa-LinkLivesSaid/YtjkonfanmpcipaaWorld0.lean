/- Two ends, what is under way between them, what was sent and has come: in memory, and in plain lists. Plain lemmas. -/
import Derived.Test.YtjkonfanmpcipaaPlays0
namespace Go.Proofs.Ytjkonfanmpcipaa
open Go.RowKit
set_option linter.unusedVariables false

namespace Link
/-- f with x at i -/
def upd {α : Type} (f : Nat → α) (i : Nat) (x : α) : Nat → α := fun j => if j = i then x else f j
theorem upd_same {α : Type} (f : Nat → α) (i : Nat) (x : α) : upd f i x i = x := if_pos rfl
theorem upd_other {α : Type} (f : Nat → α) {i j : Nat} (x : α) (h : j ≠ i) : upd f i x j = f j := if_neg h
/-- the state: ends 0 and 1; packets under way (fields 2 and 3); what was sent and has come (fields 4 .. 7) -/
structure WS where
  e : Nat → E
  pk : Nat → List Pk
  st : Nat → List ByteArray
/-- where it lies -/
structure Pl where
  g : Nat → Nat
  O : Nat → Option Addr
  oc : Nat → Nat
  X : Nat → Option Addr
  xc : Nat → Nat
def wCells (p : Pl) (s : WS) : List Value := [.pointer (some ⟨p.g 0, 0, none⟩), .pointer (some ⟨p.g 1, 0, none⟩), .slice (p.X 2) (s.pk 2).length (p.xc 2), .slice (p.X 3) (s.pk 3).length (p.xc 3),
  .slice (p.X 4) (s.st 4).length (p.xc 4), .slice (p.X 5) (s.st 5).length (p.xc 5), .slice (p.X 6) (s.st 6).length (p.xc 6), .slice (p.X 7) (s.st 7).length (p.xc 7)]
/-- all in memory; 'lab' says of each block whose it is -/
structure WL (w0 w : World) (g : Nat) (p : Pl) (s : WS) (lab : Nat → Nat) : Prop where
  box : Mem.Own w 31 8 (some ⟨g, 0, none⟩) 1 1 (wCells p s)
  en : ∀ i, i < 2 → At w (p.g i) (p.O i) (p.oc i) (s.e i)
  pk : ∀ i, 2 ≤ i → i < 4 → Mem.Own w 52 5 (p.X i) (s.pk i).length (p.xc i) ((s.pk i).flatMap pkCells)
  st : ∀ i, 4 ≤ i → i < 8 → Mem.Own w 9 1 (p.X i) (s.st i).length (p.xc i) ((s.st i).map strV)
  lg : lab g = 10
  le : ∀ i, i < 2 → lab (p.g i) = i
  lo : ∀ i, i < 2 → ∀ q, Mem.blk (p.O i) = some q → lab q = 8 + i
  lx : ∀ i, 2 ≤ i → i < 8 → ∀ q, Mem.blk (p.X i) = some q → lab q = i
  lw : ∀ q, q < w0.heap.size → lab q = 11
  bl : Below w0.heap.size w0 w
def relab (lab : Nat → Nat) (n i : Nat) : Nat → Nat := fun q => if q < n then lab q else i
section
variable {w0 w w' : World} {g : Nat} {p : Pl} {s : WS} {lab : Nat → Nat}
theorem WL.cell (h : WL w0 w g p s lab) {i : Nat} {u : Value} (hu : (wCells p s)[i]? = some u) : w.cell? ⟨g, i, none⟩ = some u := by
  have := Mem.Own.cell (j := i) h.box hu
  rwa [Nat.zero_add] at this
theorem WL.fr (h : WL w0 w g p s lab) (i : Nat) : w.frozen? ⟨g, i, none⟩ = false := Mem.Own.free h.box i
theorem WL.lt (h : WL w0 w g p s lab) : g < w.heap.size := Mem.Own.lt h.box rfl
theorem WL.ge (h : WL w0 w g p s lab) {q : Nat} (hq : lab q ≠ 11) : w0.heap.size ≤ q := by
  rcases Nat.lt_or_ge q w0.heap.size with hl | hl
  · exact absurd (h.lw q hl) hq
  · exact hl
/-- what the blocks of some labels may be turned, the others stay -/
theorem WL.belowK (h : WL w0 w g p s lab) {S : Nat → Prop} (k : Mem.Keeps S w w') (hS : ∀ q, S q → lab q ≠ 11) : Below w0.heap.size w0 w' :=
  h.bl.trans (k.below (fun q hq => h.ge (hS q hq)) h.bl.size)
theorem WL.quiet (h : WL w0 w g p s lab) (k : Mem.Keeps (fun _ => False) w w') : WL w0 w' g p s lab :=
  ⟨h.box.keeps k (fun _ _ h => h), fun i hi => (h.en i hi).keeps k (fun h => h) (fun _ _ h => h), fun i h1 h2 => (h.pk i h1 h2).keeps k (fun _ _ h => h), fun i h1 h2 => (h.st i h1 h2).keeps k (fun _ _ h => h),
    h.lg, h.le, h.lo, h.lx, h.lw, h.belowK k (fun _ h => h.elim)⟩
theorem WL.below (h : WL w0 w g p s lab) (k : Below w.heap.size w w') : WL w0 w' g p s lab := h.quiet (Mem.Keeps.of_below k)
theorem WL.ltg (h : WL w0 w g p s lab) {i : Nat} (hi : i < 2) : p.g i < w.heap.size := (h.en i hi).box.lt
theorem WL.ltO (h : WL w0 w g p s lab) {i : Nat} (hi : i < 2) {q : Nat} (hq : Mem.blk (p.O i) = some q) : q < w.heap.size := (h.en i hi).opn.lt hq
theorem WL.ltX (h : WL w0 w g p s lab) {i : Nat} (h2 : 2 ≤ i) (h8 : i < 8) {q : Nat} (hq : Mem.blk (p.X i) = some q) : q < w.heap.size := by
  by_cases h4 : i < 4
  · exact (h.pk i h2 h4).lt hq
  · exact (h.st i (by omega) h8).lt hq
theorem relab_lt {n i q : Nat} (h : q < n) : relab lab n i q = lab q := if_pos h
theorem relab_ge {n i q : Nat} (h : n ≤ q) : relab lab n i q = i := if_neg (by omega)
/-- an end is turned -/
theorem WL.endd {i c2 : Nat} {A2 : Option Addr} {e2 : E} (h : WL w0 w g p s lab) (hi : i < 2) (hA : At w' (p.g i) A2 c2 e2) (k : Mem.Keeps (fun q => lab q = i ∨ lab q = 8 + i) w w')
    (hm : Mem.blk A2 = Mem.blk (p.O i) ∨ Mem.blk A2 = none ∨ Mem.From w.heap.size A2) :
    WL w0 w' g { p with O := upd p.O i A2, oc := upd p.oc i c2 } { s with e := upd s.e i e2 } (relab lab w.heap.size (8 + i)) := by
  have hlt := h.lt
  refine ⟨?_, ?_, ?_, ?_, ?_, ?_, ?_, ?_, ?_, ?_⟩
  · refine Mem.Own.keeps h.box k (fun q hq hl => ?_)
    cases hq
    have := h.lg
    simp only at hl
    omega
  · intro j hj
    by_cases e : j = i
    · subst e
      simp only [upd_same]
      exact hA
    · simp only [upd_other _ _ e]
      refine (h.en j hj).keeps k (fun hl => ?_) (fun q hq hl => ?_)
      · have := h.le j hj; omega
      · have := h.lo j hj q hq; omega
  · intro j h1 h2
    refine (h.pk j h1 h2).keeps k (fun q hq hl => ?_)
    have := h.lx j h1 (by omega) q hq; omega
  · intro j h1 h2
    refine (h.st j h1 h2).keeps k (fun q hq hl => ?_)
    have := h.lx j (by omega) h2 q hq; omega
  · rw [relab_lt hlt]; exact h.lg
  · intro j hj
    rw [relab_lt (h.ltg hj)]; exact h.le j hj
  · intro j hj q hq
    by_cases e : j = i
    · subst e
      simp only [upd_same] at hq
      rcases hm with e1 | e1 | e1
      · rw [e1] at hq; rw [relab_lt (h.ltO hj hq)]; exact h.lo j hj q hq
      · rw [e1] at hq; cases hq
      · rw [relab_ge (e1.blk q hq)]
    · simp only [upd_other _ _ e] at hq
      rw [relab_lt (h.ltO hj hq)]; exact h.lo j hj q hq
  · intro j h1 h2 q hq
    rw [relab_lt (h.ltX h1 h2 hq)]; exact h.lx j h1 h2 q hq
  · intro q hq
    have := h.bl.size
    rw [relab_lt (by omega)]; exact h.lw q hq
  · exact h.belowK k (fun q hq => by omega)
theorem wCells_st {i : Nat} (h1 : 4 ≤ i) (h2 : i < 8) (X2 : Option Addr) (c2 : Nat) (l2 : List ByteArray) :
    (wCells p s).set i (.slice X2 l2.length c2) = wCells { p with X := upd p.X i X2, xc := upd p.xc i c2 } { s with st := upd s.st i l2 } := by
  have : i = 4 ∨ i = 5 ∨ i = 6 ∨ i = 7 := by omega
  rcases this with rfl | rfl | rfl | rfl <;> rfl
theorem wCells_pk {i : Nat} (h1 : 2 ≤ i) (h2 : i < 4) (X2 : Option Addr) (c2 : Nat) (l2 : List Pk) :
    (wCells p s).set i (.slice X2 l2.length c2) = wCells { p with X := upd p.X i X2, xc := upd p.xc i c2 } { s with pk := upd s.pk i l2 } := by
  have : i = 2 ∨ i = 3 := by omega
  rcases this with rfl | rfl <;> rfl
/-- a list of pieces is turned -/
theorem WL.strs {i c2 : Nat} {X2 : Option Addr} {l2 : List ByteArray} (h : WL w0 w g p s lab) (h1 : 4 ≤ i) (h2 : i < 8) (hO : Mem.Own w' 9 1 X2 l2.length c2 (l2.map strV))
    (hb : Mem.Own w' 31 8 (some ⟨g, 0, none⟩) 1 1 ((wCells p s).set i (.slice X2 l2.length c2))) (k : Mem.Keeps (fun q => lab q = i ∨ lab q = 10) w w')
    (hm : Mem.blk X2 = Mem.blk (p.X i) ∨ Mem.blk X2 = none ∨ Mem.From w.heap.size X2) :
    WL w0 w' g { p with X := upd p.X i X2, xc := upd p.xc i c2 } { s with st := upd s.st i l2 } (relab lab w.heap.size i) := by
  have hlt := h.lt
  rw [wCells_st h1 h2] at hb
  refine ⟨hb, ?_, ?_, ?_, ?_, ?_, ?_, ?_, ?_, ?_⟩
  · intro j hj
    refine (h.en j hj).keeps k (fun hl => ?_) (fun q hq hl => ?_)
    · have := h.le j hj; omega
    · have := h.lo j hj q hq; omega
  · intro j h3 h4
    simp only [upd_other _ _ (show j ≠ i by omega)]
    refine (h.pk j h3 h4).keeps k (fun q hq hl => ?_)
    have := h.lx j h3 (by omega) q hq; omega
  · intro j h3 h4
    by_cases e : j = i
    · subst e
      simp only [upd_same]
      exact hO
    · simp only [upd_other _ _ e]
      refine (h.st j h3 h4).keeps k (fun q hq hl => ?_)
      have := h.lx j (by omega) h4 q hq; omega
  · rw [relab_lt hlt]; exact h.lg
  · intro j hj
    rw [relab_lt (h.ltg hj)]; exact h.le j hj
  · intro j hj q hq
    rw [relab_lt (h.ltO hj hq)]; exact h.lo j hj q hq
  · intro j h3 h4 q hq
    by_cases e : j = i
    · subst e
      simp only [upd_same] at hq
      rcases hm with e1 | e1 | e1
      · rw [e1] at hq; rw [relab_lt (h.ltX h3 h4 hq)]; exact h.lx j h3 h4 q hq
      · rw [e1] at hq; cases hq
      · rw [relab_ge (e1.blk q hq)]
    · simp only [upd_other _ _ e] at hq
      rw [relab_lt (h.ltX h3 h4 hq)]; exact h.lx j h3 h4 q hq
  · intro q hq
    have := h.bl.size
    rw [relab_lt (by omega)]; exact h.lw q hq
  · exact h.belowK k (fun q hq => by omega)
/-- the packets under way are turned -/
theorem WL.pks {i c2 : Nat} {X2 : Option Addr} {l2 : List Pk} (h : WL w0 w g p s lab) (h1 : 2 ≤ i) (h2 : i < 4) (hO : Mem.Own w' 52 5 X2 l2.length c2 (l2.flatMap pkCells))
    (hb : Mem.Own w' 31 8 (some ⟨g, 0, none⟩) 1 1 ((wCells p s).set i (.slice X2 l2.length c2))) (k : Mem.Keeps (fun q => lab q = i ∨ lab q = 10) w w')
    (hm : Mem.blk X2 = Mem.blk (p.X i) ∨ Mem.blk X2 = none ∨ Mem.From w.heap.size X2) :
    WL w0 w' g { p with X := upd p.X i X2, xc := upd p.xc i c2 } { s with pk := upd s.pk i l2 } (relab lab w.heap.size i) := by
  have hlt := h.lt
  rw [wCells_pk h1 h2] at hb
  refine ⟨hb, ?_, ?_, ?_, ?_, ?_, ?_, ?_, ?_, ?_⟩
  · intro j hj
    refine (h.en j hj).keeps k (fun hl => ?_) (fun q hq hl => ?_)
    · have := h.le j hj; omega
    · have := h.lo j hj q hq; omega
  · intro j h3 h4
    by_cases e : j = i
    · subst e
      simp only [upd_same]
      exact hO
    · simp only [upd_other _ _ e]
      refine (h.pk j h3 h4).keeps k (fun q hq hl => ?_)
      have := h.lx j h3 (by omega) q hq; omega
  · intro j h3 h4
    simp only [upd_other _ _ (show j ≠ i by omega)]
    refine (h.st j h3 h4).keeps k (fun q hq hl => ?_)
    have := h.lx j (by omega) h4 q hq; omega
  · rw [relab_lt hlt]; exact h.lg
  · intro j hj
    rw [relab_lt (h.ltg hj)]; exact h.le j hj
  · intro j hj q hq
    rw [relab_lt (h.ltO hj hq)]; exact h.lo j hj q hq
  · intro j h3 h4 q hq
    by_cases e : j = i
    · subst e
      simp only [upd_same] at hq
      rcases hm with e1 | e1 | e1
      · rw [e1] at hq; rw [relab_lt (h.ltX h3 h4 hq)]; exact h.lx j h3 h4 q hq
      · rw [e1] at hq; cases hq
      · rw [relab_ge (e1.blk q hq)]
    · simp only [upd_other _ _ e] at hq
      rw [relab_lt (h.ltX h3 h4 hq)]; exact h.lx j h3 h4 q hq
  · intro q hq
    have := h.bl.size
    rw [relab_lt (by omega)]; exact h.lw q hq
  · exact h.belowK k (fun q hq => by omega)
/-- an end takes, and what has come is laid by: an end and a list of pieces are turned at once -/
theorem WL.took {i j c2 d2 : Nat} {A2 X2 : Option Addr} {e2 : E} {l2 : List ByteArray} (h : WL w0 w g p s lab) (hi : i < 2) (h1 : 4 ≤ j) (h2 : j < 8) (hA : At w' (p.g i) A2 c2 e2) (hO : Mem.Own w' 9 1 X2 l2.length d2 (l2.map strV))
    (hb : Mem.Own w' 31 8 (some ⟨g, 0, none⟩) 1 1 ((wCells p s).set j (.slice X2 l2.length d2))) (k : Mem.Keeps (fun q => lab q = i ∨ lab q = j ∨ lab q = 10) w w')
    (hm : Mem.blk A2 = Mem.blk (p.O i) ∨ Mem.blk A2 = none) (hx : Mem.blk X2 = Mem.blk (p.X j) ∨ Mem.blk X2 = none ∨ Mem.From w.heap.size X2) :
    WL w0 w' g { p with O := upd p.O i A2, oc := upd p.oc i c2, X := upd p.X j X2, xc := upd p.xc j d2 } { s with e := upd s.e i e2, st := upd s.st j l2 } (relab lab w.heap.size j) := by
  have hlt := h.lt
  rw [wCells_st h1 h2] at hb
  refine ⟨hb, ?_, ?_, ?_, ?_, ?_, ?_, ?_, ?_, ?_⟩
  · intro m hj
    by_cases e : m = i
    · subst e
      simp only [upd_same]
      exact hA
    · simp only [upd_other _ _ e]
      refine (h.en m hj).keeps k (fun hl => ?_) (fun q hq hl => ?_)
      · have := h.le m hj; omega
      · have := h.lo m hj q hq; omega
  · intro m h3 h4
    simp only [upd_other _ _ (show m ≠ j by omega)]
    refine (h.pk m h3 h4).keeps k (fun q hq hl => ?_)
    have := h.lx m h3 (by omega) q hq; omega
  · intro m h3 h4
    by_cases e : m = j
    · subst e
      simp only [upd_same]
      exact hO
    · simp only [upd_other _ _ e]
      refine (h.st m h3 h4).keeps k (fun q hq hl => ?_)
      have := h.lx m (by omega) h4 q hq; omega
  · rw [relab_lt hlt]; exact h.lg
  · intro m hj
    rw [relab_lt (h.ltg hj)]; exact h.le m hj
  · intro m hj q hq
    by_cases e : m = i
    · subst e
      simp only [upd_same] at hq
      rcases hm with e1 | e1
      · rw [e1] at hq; rw [relab_lt (h.ltO hj hq)]; exact h.lo m hj q hq
      · rw [e1] at hq; cases hq
    · simp only [upd_other _ _ e] at hq
      rw [relab_lt (h.ltO hj hq)]; exact h.lo m hj q hq
  · intro m h3 h4 q hq
    by_cases e : m = j
    · subst e
      simp only [upd_same] at hq
      rcases hx with e1 | e1 | e1
      · rw [e1] at hq; rw [relab_lt (h.ltX h3 h4 hq)]; exact h.lx m h3 h4 q hq
      · rw [e1] at hq; cases hq
      · rw [relab_ge (e1.blk q hq)]
    · simp only [upd_other _ _ e] at hq
      rw [relab_lt (h.ltX h3 h4 hq)]; exact h.lx m h3 h4 q hq
  · intro q hq
    have := h.bl.size
    rw [relab_lt (by omega)]; exact h.lw q hq
  · exact h.belowK k (fun q hq => by omega)
end
end Link
end Go.Proofs.Ytjkonfanmpcipaa
