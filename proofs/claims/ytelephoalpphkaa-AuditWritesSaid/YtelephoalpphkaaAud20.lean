/- The checker amid an event. No conditions. -/
import Derived.Test.YtelephoalpphkaaAud19
set_option maxRecDepth 8000
namespace Go.Proofs.Ytelephoalpphkaa
open Go.ChangeShapes Go.WideShapes Go.ChangeAt Go.RowKit
set_option linter.unusedVariables false
set_option linter.unusedSimpArgs false
namespace Au
/-- amid an event: the client's session is s, in block g -/
structure Mid (w : World) (B gc : Nat) (k : Ck) (ss : List SR) (e : Ev) (g : Nat) (s : Ss) (v : World) : Prop where
  o : ∃ ss7, findS ss7 e.cl = some ⟨e.cl, g, s⟩ ∧ Chk v B gc k ss7 ∧ (∀ m, m ≠ e.cl → sOf ss7 m = sOf ss m) ∧ (∀ y, fpC k ss7 y → fpC k ss y ∨ w.heap.size ≤ y)
  k : Mem.Keeps (fpC k ss) w v
  x : VBx v w.heap.size e
  gx : g ≠ w.heap.size
  e : EvOk v B e
theorem Mid.s {w : World} {B gc : Nat} {k : Ck} {ss : List SR} {e : Ev} {g : Nat} {s : Ss} {v : World} (h : Mid w B gc k ss e g s v) : SBx v g s := by
  obtain ⟨ss7, h1, h2, _⟩ := h.o
  exact (h2.s _ (findS_mem h1).1).1
theorem Mid.b {w : World} {B gc : Nat} {k : Ck} {ss : List SR} {e : Ev} {g : Nat} {s : Ss} {v : World} (h : Mid w B gc k ss e g s v) : EvOk v B s.begun := by
  obtain ⟨ss7, h1, h2, _⟩ := h.o
  exact (h2.s _ (findS_mem h1).1).2
theorem Mid.write {w : World} {B gc : Nat} {k : Ck} {ss : List SR} {e : Ev} {g : Nat} {s : Ss} {v u : World} {s' : Ss} (h : Mid w B gc k ss e g s v) (hk : Mem.Keeps (fun y => y = g) v u) (hb : SBx u g s') (ho : EvOk v B s'.begun) : Mid w B gc k ss e g s' u := by
  obtain ⟨ss7, h1, h2, h3, h4⟩ := h.o
  have hm := findS_mem h1
  have hbw : Below B v u := hk.below (fun y q => by subst q; exact (h2.gs _ hm.1).2.2) h2.le
  refine ⟨⟨setS ss7 g s', ?_, h2.set (r := ⟨e.cl, g, s⟩) hm.1 hk hb (ho.below hbw (Nat.le_refl _)), ?_, fun y hy => h4 y (fpC_set hy)⟩, h.k.trans hk (fun i hi hl => ?_), h.x.keeps hk (fun q => h.gx q.symm), h.gx, h.e.below hbw (Nat.le_refl _)⟩
  · rw [findS_set, h1]; simp [putS]
  · intro m hne
    rw [sOf_set (r := ⟨e.cl, g, s⟩) h2.ne h1, if_neg hne]
    exact h3 m hne
  · subst hi
    rcases h4 i (.inr ⟨_, hm.1, rfl⟩) with q | q
    · exact q
    · omega
theorem Mid.below {w : World} {B gc : Nat} {k : Ck} {ss : List SR} {e : Ev} {g : Nat} {s : Ss} {v u : World} (h : Mid w B gc k ss e g s v) (hb : Below v.heap.size v u) : Mid w B gc k ss e g s u := by
  obtain ⟨ss7, h1, h2, h3, h4⟩ := h.o
  exact ⟨⟨ss7, h1, h2.below hb, h3, h4⟩, h.k.trans (Mem.Keeps.of_below hb) (fun i hi _ => hi.elim), h.x.below hb h.x.lt, h.gx, h.e.below (hb.mono h2.le) (Nat.le_refl _)⟩
theorem Mid.lt {w : World} {B gc : Nat} {k : Ck} {ss : List SR} {e : Ev} {g : Nat} {s : Ss} {v : World} (h : Mid w B gc k ss e g s v) : g < v.heap.size := h.s.lt
theorem Mid.start {w w1 w2 : World} {B gc : Nat} {k : Ck} {ss ss2 : List SR} {e : Ev} {r : SR} (h : Chk w B gc k ss) (hb : Below w.heap.size w w1) (hx : VBx w1 w.heap.size e) (hE : EvOk w B e) (hl : w.heap.size < w1.heap.size)
    (hC : Chk w2 B gc k ss2) (hf : findS ss2 e.cl = some r) (hs : ∀ m, sOf ss2 m = sOf ss m) (hk : Mem.Keeps (fun y => y = k.bm) w1 w2) (hfp : ∀ y, fpC k ss2 y → fpC k ss y ∨ w1.heap.size ≤ y) : Mid w B gc k ss e r.g (sOf ss e.cl) w2 := by
  have hm := findS_mem hf
  have hr : r = ⟨e.cl, r.g, sOf ss e.cl⟩ := by
    have h1 : sOf ss2 e.cl = r.s := by unfold sOf; rw [hf]; rfl
    rw [← hs, h1, ← hm.2]
  refine ⟨⟨ss2, by rw [hf, ← hr], hC, fun m _ => hs m, fun y hy => (hfp y hy).imp id (fun q => by omega)⟩, ((Mem.Keeps.of_below hb).mono (fun _ q _ => q.elim)).trans hk (fun i q _ => .inl q), hx.keeps hk (fun q => by have := h.m.lt; omega), ?_, (hE.below (hb.mono h.le) (Nat.le_refl _)).below (hk.below (fun y q => by subst q; exact h.bB) (Nat.le_trans h.le hb.size)) (Nat.le_refl _)⟩
  intro q
  rcases hfp r.g (.inr ⟨r, hm.1, rfl⟩) with p | p
  · have := (h.fp p).2.1; omega
  · omega
/-- the end -/
theorem Mid.done {w : World} {B gc : Nat} {k : Ck} {ss : List SR} {e : Ev} {g : Nat} {s : Ss} {v : World} (h : Mid w B gc k ss e g s v) {out : List Int} {A : Option Addr} {c : Nat} (hq : evF k (sOf ss e.cl) e = (out, s)) (hr : Mem.Rd v v.heap.size A (out.map (Value.int .i64))) (hf : ∀ q, Mem.blk A = some q → w.heap.size ≤ q) : EvEnd w B gc k ss e (.returned (.slice A out.length c)) v := by
  obtain ⟨ss7, h1, h2, h3, h4⟩ := h.o
  refine ⟨ss7, A, c, by rw [hq], by rw [hq]; exact hr, h2, fun m => ?_, h.k, h4, hf⟩
  by_cases hm : m = e.cl
  · rw [if_pos hm, hm, hq]; unfold sOf; rw [h1]; rfl
  · rw [if_neg hm]; exact h3 m hm
/-- with the list that comes out -/
structure MidO (w : World) (B gc : Nat) (k : Ck) (ss : List SR) (e : Ev) (g : Nat) (s : Ss) (out : List Int) (A : Option Addr) (v : World) : Prop where
  m : Mid w B gc k ss e g s v
  r : Mem.Rd v v.heap.size A (out.map (Value.int .i64))
  n : ∀ q, Mem.blk A = some q → q ≠ g
  f : ∀ q, Mem.blk A = some q → w.heap.size ≤ q
theorem MidO.below {w : World} {B gc : Nat} {k : Ck} {ss : List SR} {e : Ev} {g : Nat} {s : Ss} {v u : World} {out : List Int} {A : Option Addr} (h : MidO w B gc k ss e g s out A v) (hb : Below v.heap.size v u) : MidO w B gc k ss e g s out A u :=
  ⟨h.m.below hb, (h.r.below hb).more hb.size, h.n, h.f⟩
theorem MidO.write {w : World} {B gc : Nat} {k : Ck} {ss : List SR} {e : Ev} {g : Nat} {s s' : Ss} {v u : World} {out : List Int} {A : Option Addr} (h : MidO w B gc k ss e g s out A v) (hk : Mem.Keeps (fun y => y = g) v u) (hb : SBx u g s') (ho : EvOk v B s'.begun) : MidO w B gc k ss e g s' out A u :=
  ⟨h.m.write hk hb ho, h.r.keepsAt hk (Nat.le_refl _) (fun q hq e => h.n q hq e), h.n, h.f⟩
theorem Mid.cx {w : World} {B gc : Nat} {k : Ck} {ss : List SR} {e : Ev} {g : Nat} {s : Ss} {v : World} (h : Mid w B gc k ss e g s v) {bc bs : Nat} (h1 : Mem.Bx v 63 1 bc [.pointer (some ⟨gc, 0, none⟩)]) (h2 : Mem.Bx v 78 1 bs [.pointer (some ⟨g, 0, none⟩)]) : Cx v B gc bc g bs k s := by
  obtain ⟨ss7, _, q, _⟩ := h.o
  exact ⟨q.c, h1, h.s, h2, q.H, q.W, q.E, h.b, q.le, q.hl, q.wl, q.hn, q.wn, q.a⟩
def outN (k : Ck) (s : Ss) (e : Ev) (j : Nat) : List Int := ((List.range j).filter fun i => !(rulesF k s e).getD i true).map fun (i : Nat) => (i : Int) + 2
theorem outN_succ (k : Ck) (s : Ss) (e : Ev) (j : Nat) : outN k s e (j + 1) = if (rulesF k s e).getD j true = true then outN k s e j else outN k s e j ++ [(j : Int) + 2] := by
  unfold outN
  rw [List.range_succ, List.filter_append, List.map_append]
  cases h : (rulesF k s e).getD j true
  · rw [List.filter_cons_of_pos (by rw [h]; rfl), List.filter_nil, if_neg Bool.false_ne_true]; rfl
  · rw [List.filter_cons_of_neg (by rw [h]; exact Bool.false_ne_true), List.filter_nil, if_pos rfl, List.map_nil, List.append_nil]
theorem outN_le (k : Ck) (s : Ss) (e : Ev) (j : Nat) : (outN k s e j).length ≤ j := by
  unfold outN
  rw [List.length_map]
  exact Nat.le_trans (List.length_filter_le _ _) (by simp)
/-- at the head of the loop over the rules -/
structure EvRel (w3 : World) (k : Ck) (s : Ss) (e : Ev) (v6 vi : Value) (wr : World) : Prop where
  out : ∃ (j : Nat) (X : Option Addr) (c : Nat), j ≤ 8 ∧ v6 = .slice X (outN k s e j).length c ∧ vi = .int .i64 j ∧ Hid (Mem.Own wr 3 1 X (outN k s e j).length c ((outN k s e j).map (Value.int .i64))) ∧ Hid (Mem.From w3.heap.size X) ∧ Hid (Below w3.heap.size w3 wr)
end Au
end Go.Proofs.Ytelephoalpphkaa
