/- What Check tells, plainly; its loops' relations. No conditions. -/
import Derived.Test.YtelephoalpphkaaAud21
set_option maxRecDepth 8000
namespace Go.Proofs.Ytelephoalpphkaa
open Go.ChangeShapes Go.WideShapes Go.ChangeAt Go.RowKit
set_option linter.unusedVariables false
set_option linter.unusedSimpArgs false
namespace Au
def atK (k : Ck) (j : Nat) : Ck := ⟨k.hA, k.hc, k.h, k.wA, k.wc, k.ws, j, k.bm⟩
/-- the sessions and the findings behind the first j events -/
def stC (k : Ck) : Nat → (Int → Ss) × List Fi
  | 0 => (fun _ => ss0, [])
  | j + 1 => match k.h[j]? with
    | none => stC k j
    | some e => (fun m => if m = e.cl then (evF (atK k j) ((stC k j).1 e.cl) e).2 else (stC k j).1 m, (stC k j).2 ++ (evF (atK k j) ((stC k j).1 e.cl) e).1.map fun r => ⟨j, r⟩)
theorem evF_le (k : Ck) (s : Ss) (e : Ev) : (evF k s e).1.length ≤ 8 := by
  unfold evF
  split
  · unfold begF; dsimp only; split <;> simp
  · split
    · simp
    · show (endF k s e).length ≤ 8
      exact outN_le k s e 8
theorem stC_le (k : Ck) : ∀ j, (stC k j).2.length ≤ 8 * j
  | 0 => Nat.le_refl _
  | j + 1 => by
    have ih := stC_le k j
    unfold stC
    split
    · omega
    · rename_i e he
      have := evF_le (atK k j) ((stC k j).1 e.cl) e
      simp only [List.length_append, List.length_map]
      omega
theorem stC_succ {k : Ck} {j : Nat} {e : Ev} (he : k.h[j]? = some e) : stC k (j + 1) = (fun m => if m = e.cl then (evF (atK k j) ((stC k j).1 e.cl) e).2 else (stC k j).1 m, (stC k j).2 ++ (evF (atK k j) ((stC k j).1 e.cl) e).1.map fun r => ⟨j, r⟩) := by
  rw [stC, he]
/-- the checker's own cell 'at' is written -/
theorem Chk.setAt {w : World} {B gc : Nat} {k : Ck} {ss : List SR} (h : Chk w B gc k ss) {j : Nat} (hj : j ≤ k.h.length) : Chk (w.setCell ⟨gc, 2, none⟩ (.int .i64 j)) B gc (atK k j) ss := by
  have hk := (Mem.Keeps.refl (fun y => y = gc) w).setCell (p := ⟨gc, 2, none⟩) (fun _ => rfl) (.int .i64 j)
  have hbw : Below B w (w.setCell ⟨gc, 2, none⟩ (.int .i64 j)) := hk.below (fun y e => by subst e; exact h.gB) h.le
  exact ⟨h.c.set 2 _, h.m.keeps hk (fun e => h.gb e.symm), fun r hr => ⟨(h.s r hr).1.keeps hk (h.gs r hr).1, (h.s r hr).2.below hbw (Nat.le_refl _)⟩, h.ne, h.gb, h.gs, h.gB, h.bB, h.H.below hbw, h.W.below hbw, fun e he => (h.E e he).below hbw (Nat.le_refl _), Nat.le_trans h.le hbw.size, h.hl, h.wl, h.hn, h.wn, hj⟩
/-- at the head of the loop over the events -/
structure CkRel (w : World) (gc : Nat) (k : Ck) (v6 vi : Value) (wr : World) : Prop where
  out : ∃ (j : Nat) (X : Option Addr) (c a0 : Nat) (ss : List SR), j ≤ k.h.length ∧ v6 = .slice X (stC k j).2.length c ∧ vi = .int .i64 j ∧ Hid (Mem.Own wr 50 2 X (stC k j).2.length c ((stC k j).2.flatMap fiCells)) ∧ Hid (Mem.From w.heap.size X) ∧
    Hid (Chk wr w.heap.size gc (atK k a0) ss) ∧ Hid (∀ m, sOf ss m = (stC k j).1 m) ∧ Hid (∀ q, Mem.blk X = some q → ¬ fpC k ss q ∧ q ≠ gc) ∧ Hid (Below w.heap.size w wr)
theorem Chk.keeps {S : Nat → Prop} {w w' : World} {B gc : Nat} {k : Ck} {ss : List SR} (h : Chk w B gc k ss) (hk : Mem.Keeps S w w') (hS : ∀ q, S q → q < w.heap.size → B ≤ q ∧ ¬ fpC k ss q ∧ q ≠ gc) : Chk w' B gc k ss := by
  have hbw : Below B w w' := by
    refine (hk.mono (T := fun q => B ≤ q) (fun q hq hl => (hS q hq hl).1)).below (fun q hq => hq) h.le
  have hg : ¬ S gc := fun q => (hS gc q h.c.lt).2.2 rfl
  have hm : ¬ S k.bm := fun q => (hS _ q h.m.lt).2.1 (.inl rfl)
  exact ⟨h.c.keeps hk hg, h.m.keeps hk hm, fun r hr => ⟨(h.s r hr).1.keeps hk (fun q => (hS _ q (h.s r hr).1.lt).2.1 (.inr ⟨r, hr, rfl⟩)), (h.s r hr).2.below hbw (Nat.le_refl _)⟩, h.ne, h.gb, h.gs, h.gB, h.bB, h.H.below hbw, h.W.below hbw, fun e he => (h.E e he).below hbw (Nat.le_refl _), Nat.le_trans h.le hbw.size, h.hl, h.wl, h.hn, h.wn, h.a⟩
/-- the findings of an event -/
def fis (j : Nat) (l : List Int) : List Fi := l.map fun r => ⟨j, r⟩
/-- at the head of the loop over an event's rules -/
structure InRel (w : World) (gc : Nat) (k : Ck) (ss : List SR) (pre : List Fi) (l : List Int) (D : Option Addr) (j : Nat) (v6 vi : Value) (wr : World) : Prop where
  out : ∃ (i : Nat) (X : Option Addr) (c : Nat), i ≤ l.length ∧ v6 = .slice X (pre ++ fis j (l.take i)).length c ∧ vi = .int .i64 i ∧ Hid (Mem.Own wr 50 2 X (pre ++ fis j (l.take i)).length c ((pre ++ fis j (l.take i)).flatMap fiCells)) ∧ Hid (Mem.From w.heap.size X) ∧
    Hid (Chk wr w.heap.size gc k ss) ∧ Hid (∀ q, Mem.blk X = some q → ¬ fpC k ss q ∧ q ≠ gc ∧ Mem.blk D ≠ some q) ∧ Hid (Mem.Rd wr wr.heap.size D (l.map (Value.int .i64))) ∧ Hid (Below w.heap.size w wr)
end Au
end Go.Proofs.Ytelephoalpphkaa
