/- Numbered logs, in plain lists: columns grow, what is found as of a vector. Plain lemmas. -/
import Derived.Test.YtiibgkgbghganaaSv5
namespace Go.Proofs.Ytiibgkgbghganaa
open Go.RowKit
set_option linter.unusedVariables false
set_option linter.unusedSimpArgs false

namespace Vec
theorem coversC_iff {x y : Col} : coversC x y = true ↔ y.a ≤ x.a ∧ y.b ≤ x.b ∧ y.c ≤ x.c := by unfold coversC; simp
theorem coversC_at {x y : Col} (h : coversC x y = true) (i : Nat) : y.at i ≤ x.at i := by
  obtain ⟨h1, h2, h3⟩ := coversC_iff.1 h
  match i with
  | 0 => exact h1
  | 1 => exact h2
  | _ + 2 => exact h3
theorem coversC_refl (x : Col) : coversC x x = true := coversC_iff.2 ⟨Int.le_refl _, Int.le_refl _, Int.le_refl _⟩
theorem coversC_trans {x y z : Col} (h : coversC x y = true) (h2 : coversC y z = true) : coversC x z = true := by
  obtain ⟨h1, h3, h4⟩ := coversC_iff.1 h
  obtain ⟨h5, h6, h7⟩ := coversC_iff.1 h2
  exact coversC_iff.2 ⟨by omega, by omega, by omega⟩
theorem set_at (c : Col) {i j : Nat} (hi : i < 3) (hj : j < 3) (x : Int) : (c.set i x).at j = if j = i then x else c.at j := by
  have h1 : i = 0 ∨ i = 1 ∨ i = 2 := by omega
  have h2 : j = 0 ∨ j = 1 ∨ j = 2 := by omega
  rcases h1 with rfl | rfl | rfl <;> rcases h2 with rfl | rfl | rfl <;> rfl
theorem colStep_ge (rng : Int) (c : Col) (e : Ent) : coversC (colStep rng c e) c = true := by
  unfold colStep
  split
  · rename_i h
    obtain ⟨h1, _⟩ := chain_nat h.2
    obtain ⟨i, hi⟩ : ∃ i, e.dc.toNat = i := ⟨_, rfl⟩
    rw [hi] at h1 ⊢
    have h2 : i = 0 ∨ i = 1 ∨ i = 2 := by omega
    rcases h2 with rfl | rfl | rfl <;> refine coversC_iff.2 ⟨?_, ?_, ?_⟩ <;> simp [Col.set, Col.at] <;> omega
  · exact coversC_refl _
theorem fold_ge (rng : Int) : ∀ (l : List Ent) (c : Col), coversC (l.foldl (colStep rng) c) c = true
  | [], c => coversC_refl c
  | e :: l, c => coversC_trans (fold_ge rng l _) (colStep_ge rng c e)
theorem column_app (rng : Int) (l1 l2 : List Ent) : coversC (column rng (l1 ++ l2)) (column rng l1) = true := by
  unfold column; rw [List.foldl_append]; exact fold_ge rng l2 _
theorem column_take (rng : Int) (l : List Ent) {m n : Nat} (h : m ≤ n) : coversC (column rng (l.take n)) (column rng (l.take m)) = true := by
  have h1 : l.take n = l.take m ++ (l.take n).drop m := by
    have := List.take_append_drop m (l.take n)
    rw [List.take_take, Nat.min_eq_left h] at this
    exact this.symm
  rw [h1]
  exact column_app rng _ _
theorem column_pos (rng : Int) (l : List Ent) : coversC (column rng l) col0 = true := fold_ge rng l col0
theorem part_zero (rng : Int) : part vc0 rng = col0 := by
  unfold part
  split
  · rename_i h
    obtain ⟨h1, h2⟩ := h
    have h3 : rng = 0 ∨ rng = 1 ∨ rng = 2 := by omega
    rcases h3 with rfl | rfl | rfl <;> rfl
  · rfl
/-- a query of the latest -/
def qL (key : ByteArray) : Qy := ⟨key, vc0, false, vc0, col0⟩
/-- a query as of a vector -/
def qS (key : ByteArray) (v : Vc) : Qy := ⟨key, vc0, true, v, col0⟩
theorem readL (rng : Int) (key : ByteArray) (l : List Ent) : Vec.read rng (qL key) l = ⟨0, (greatest key (seenL rng (qL key) col0 l)).2, (greatest key (seenL rng (qL key) col0 l)).1, column rng l⟩ := by
  have hb : behindQ rng (qL key) (column rng l) (part (qL key).at rng) = false := by
    unfold behindQ qL
    simp only [part_zero, column_pos]
    rfl
  have hg : goneQ (qL key) (part (qL key).at rng) = false := rfl
  unfold Vec.read
  rw [hb, hg]
  simp only [qL, part_zero]
  rfl
theorem readS (rng : Int) (key : ByteArray) (v : Vc) (l : List Ent) : Vec.read rng (qS key v) l =
    if coversC (column rng l) (part v rng) = true then (if coversC (part v rng) col0 = true then ⟨0, (greatest key (seenL rng (qS key v) (part v rng) l)).2, (greatest key (seenL rng (qS key v) (part v rng) l)).1, column rng l⟩ else ⟨60, false, ent0, col0⟩) else ⟨91, false, ent0, col0⟩ := by
  have hb : behindQ rng (qS key v) (column rng l) (part (qS key v).at rng) = !coversC (column rng l) (part v rng) := by
    unfold behindQ qS
    simp only [part_zero, column_pos]
    simp
  have hg : goneQ (qS key v) (part (qS key v).at rng) = !coversC (part v rng) col0 := rfl
  unfold Vec.read
  rw [hb, hg]
  cases coversC (column rng l) (part v rng) <;> cases coversC (part v rng) col0 <;> rfl
theorem seenL_mem {rng : Int} {q : Qy} {at' : Col} {l1 l2 : List Ent} (h : ∀ e ∈ l1, e ∈ l2) : ∀ e ∈ seenL rng q at' l1, e ∈ seenL rng q at' l2 := fun e he => by
  obtain ⟨h1, h2⟩ := List.mem_filter.1 he
  exact List.mem_filter.2 ⟨h e h1, h2⟩
/-- of more no lesser one is found -/
theorem greatest_more (key : ByteArray) {l1 l2 : List Ent} (h : ∀ e ∈ l1, e ∈ l2) (h1 : (greatest key l1).2 = true) : (greatest key l2).2 = true ∧ (greatest key l1).1.st.c ≤ (greatest key l2).1.st.c := by
  obtain ⟨m1, k1, _⟩ := (ginv key l1).yes h1
  have hm := h _ m1
  cases h2 : (greatest key l2).2
  · exact absurd k1 (((ginv key l2).no h2).2 _ hm)
  · exact ⟨rfl, ((ginv key l2).yes h2).2.2 _ hm k1⟩
/-- a numbered log -/
def NB (rng : Int) (l : List Ent) : Prop := ∀ k e, l[k]? = some e → e.rng = rng ∧ chain e.dc rng = true ∧ e.seq = (column rng (l.take k)).at e.dc.toNat + 1
theorem NB.step {rng : Int} {l : List Ent} (h : NB rng l) {k : Nat} {e : Ent} (he : l[k]? = some e) : (column rng (l.take (k + 1))).at e.dc.toNat = e.seq := by
  obtain ⟨h1, h2, h3⟩ := h k e he
  obtain ⟨hd, _⟩ := chain_nat h2
  rw [Mem.take_snoc he, column_snoc]
  unfold colStep
  rw [if_pos ⟨h1, h2⟩, set_at _ hd hd, if_pos rfl]
  omega
theorem NB.le {rng : Int} {l : List Ent} (h : NB rng l) {k : Nat} {e : Ent} (he : l[k]? = some e) : e.seq ≤ (column rng l).at e.dc.toNat := by
  have hk := (List.getElem?_eq_some_iff.1 he).1
  have h1 := coversC_at (column_take rng l (m := k + 1) (n := l.length) (by omega)) e.dc.toNat
  rw [List.take_length, h.step he] at h1
  exact h1
theorem NB.drop {rng : Int} {l : List Ent} (h : NB rng l) {n : Nat} {at' : Col} (hc : coversC (column rng (l.take n)) at' = true) {key : ByteArray} {v : Vc} : seenL rng (qS key v) at' (l.drop n) = [] := by
  unfold seenL
  rw [List.filter_eq_nil_iff]
  intro e he hs
  obtain ⟨j, hj⟩ := List.getElem?_of_mem he
  rw [List.getElem?_drop] at hj
  obtain ⟨_, h2, h3⟩ := h _ e hj
  have h4 := coversC_at (column_take rng l (m := n) (n := n + j) (by omega)) e.dc.toNat
  have h5 := coversC_at hc e.dc.toNat
  unfold seenE qS within at hs
  simp at hs
  omega
theorem NB.seen {rng : Int} {l : List Ent} (h : NB rng l) {n : Nat} {at' : Col} (hc : coversC (column rng (l.take n)) at' = true) {key : ByteArray} {v : Vc} : seenL rng (qS key v) at' l = seenL rng (qS key v) at' (l.take n) := by
  conv => lhs; rw [← List.take_append_drop n l]
  have := h.drop hc (key := key) (v := v)
  unfold seenL at this ⊢
  rw [List.filter_append, this, List.append_nil]
/-- as of a vector the longer prefix tells the same -/
theorem prefix_same {rng : Int} {l : List Ent} (h : NB rng l) (key : ByteArray) (v : Vc) (n : Nat) (h0 : (Vec.read rng (qS key v) (l.take n)).code = 0) :
    (Vec.read rng (qS key v) l).code = 0 ∧ (Vec.read rng (qS key v) l).has = (Vec.read rng (qS key v) (l.take n)).has ∧ (Vec.read rng (qS key v) l).ent = (Vec.read rng (qS key v) (l.take n)).ent := by
  rw [readS] at h0 ⊢
  rw [readS]
  by_cases h1 : coversC (column rng (l.take n)) (part v rng) = true
  · rw [if_pos h1] at h0 ⊢
    by_cases h2 : coversC (part v rng) col0 = true
    · rw [if_pos h2] at h0 ⊢
      have h3 : coversC (column rng l) (part v rng) = true := by
        have := column_app rng (l.take n) (l.drop n)
        rw [List.take_append_drop] at this
        exact coversC_trans this h1
      rw [if_pos h3, if_pos h2, h.seen h1]
      exact ⟨rfl, rfl, rfl⟩
    · rw [if_neg h2] at h0
      simp at h0
  · rw [if_neg h1] at h0
    simp at h0
def lay (v : Vc) (rng : Int) (c : Col) : Vc :=
  if 0 ≤ rng ∧ rng < 3 then ⟨v.a.set rng.toNat (max (v.a.at rng.toNat) c.a), v.b.set rng.toNat (max (v.b.at rng.toNat) c.b), v.c.set rng.toNat (max (v.c.at rng.toNat) c.c)⟩ else v
theorem part_lay {rng : Int} (hr : 0 ≤ rng ∧ rng < 3) {c : Col} (h : coversC c col0 = true) : part (lay vc0 rng c) rng = c := by
  obtain ⟨h1, h2, h3⟩ := coversC_iff.1 h
  unfold col0 at h1 h2 h3
  simp only at h1 h2 h3
  unfold part lay
  rw [if_pos hr, if_pos hr]
  obtain ⟨h4, h5⟩ := hr
  cases c
  have h6 : rng = 0 ∨ rng = 1 ∨ rng = 2 := by omega
  rcases h6 with rfl | rfl | rfl <;> simp [Col.at, Col.set, vc0, col0] <;> simp at h1 h2 h3 <;> omega
/-- as of its own column a log tells the latest -/
theorem own_same {rng : Int} {l : List Ent} (h : NB rng l) (hl : 0 < l.length) (key : ByteArray) :
    Vec.read rng (qS key (lay vc0 rng (column rng l))) l = Vec.read rng (qL key) l ∧ (Vec.read rng (qL key) l).code = 0 := by
  obtain ⟨h1, h2, _⟩ := h 0 _ (List.getElem?_eq_getElem hl)
  have hr := chain_nat h2
  rw [readL, readS, part_lay ⟨hr.2.2.1, hr.2.2.2⟩ (column_pos rng l), if_pos (coversC_refl _), if_pos (column_pos rng l)]
  have hs : seenL rng (qS key (lay vc0 rng (column rng l))) (column rng l) l = seenL rng (qL key) col0 l := by
    unfold seenL
    refine List.filter_congr fun e he => ?_
    obtain ⟨k, hk⟩ := List.getElem?_of_mem he
    obtain ⟨h3, h4, _⟩ := h k e hk
    have h5 := h.le hk
    have h6 := chain_nat h4
    have hw : within (column rng l) e.dc e.rng e.seq = true := decide_eq_true ⟨by rw [h3]; omega, by rw [h3]; omega, by omega, by omega, h5⟩
    rw [h3] at hw
    unfold seenE qS qL
    simp [hw, h3]
  rw [hs]
  exact ⟨rfl, rfl⟩
end Vec
end Go.Proofs.Ytiibgkgbghganaa
