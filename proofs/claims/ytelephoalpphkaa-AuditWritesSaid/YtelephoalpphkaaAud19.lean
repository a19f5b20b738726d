/- A session is written; what an event leaves, plainly. No conditions. -/
import Derived.Test.YtelephoalpphkaaAud18
set_option maxRecDepth 8000
namespace Go.Proofs.Ytelephoalpphkaa
open Go.ChangeShapes Go.WideShapes Go.ChangeAt Go.RowKit
set_option linter.unusedVariables false
set_option linter.unusedSimpArgs false
namespace Au
def begF (s : Ss) (e : Ev) : List Int × Ss :=
  (if (s.under || (s.some && decide (e.op ≤ s.op))) = true then [1] else [], ⟨true, e, if (!s.some || decide (s.op < e.op)) = true then e.op else s.op, true, s.cut⟩)
def endF (k : Ck) (s : Ss) (e : Ev) : List Int := ((List.range 8).filter fun i => !(rulesF k s e).getD i true).map fun (i : Nat) => (i : Int) + 2
def evF (k : Ck) (s : Ss) (e : Ev) : List Int × Ss :=
  if (!e.fresh && !e.fin) = true then begF s e
  else if e.fresh = true then ([], ⟨false, s.begun, s.op, s.some, Vec.vc0⟩)
  else (endF k s e, ⟨false, s.begun, s.op, s.some, e.cut⟩)
def putS (g : Nat) (s' : Ss) (q : SR) : SR := if q.g = g then ⟨q.cl, q.g, s'⟩ else q
theorem putS_cl (g : Nat) (s' : Ss) (q : SR) : (putS g s' q).cl = q.cl := by unfold putS; split <;> rfl
theorem putS_g (g : Nat) (s' : Ss) (q : SR) : (putS g s' q).g = q.g := by unfold putS; split <;> rfl
def setS (ss : List SR) (g : Nat) (s' : Ss) : List SR := ss.map (putS g s')
theorem setS_g (ss : List SR) (g : Nat) (s' : Ss) : (setS ss g s').map (·.g) = ss.map (·.g) := by unfold setS; rw [List.map_map]; exact List.map_congr_left fun q _ => putS_g g s' q
theorem setS_ent (ss : List SR) (g : Nat) (s' : Ss) : (setS ss g s').map sent = ss.map sent := by unfold setS; rw [List.map_map]; exact List.map_congr_left fun q _ => by show sent (putS g s' q) = sent q; unfold sent; rw [putS_cl, putS_g]
theorem findS_set (ss : List SR) (g : Nat) (s' : Ss) (m : Int) : findS (setS ss g s') m = (findS ss m).map (putS g s') := by
  unfold findS setS
  rw [List.find?_map]
  congr 1
  congr 1
  funext q
  show ((putS g s' q).cl == m) = _
  rw [putS_cl]
theorem inj_g : ∀ {ss : List SR}, (ss.map (·.g)).Nodup → ∀ {a b : SR}, a ∈ ss → b ∈ ss → a.g = b.g → a = b
  | [], _, _, _, h, _, _ => by cases h
  | q :: ss, hn, a, b, ha, hb, hab => by
    rw [List.map_cons, List.nodup_cons] at hn
    rcases List.mem_cons.1 ha with h1 | h1
    · rcases List.mem_cons.1 hb with h2 | h2
      · rw [h1, h2]
      · exact absurd (List.mem_map.2 ⟨b, h2, by rw [← hab, h1]⟩) hn.1
    · rcases List.mem_cons.1 hb with h2 | h2
      · exact absurd (List.mem_map.2 ⟨a, h1, by rw [hab, h2]⟩) hn.1
      · exact inj_g hn.2 h1 h2 hab
theorem sOf_set {ss : List SR} {n : Int} {r : SR} (hn : (ss.map (·.g)).Nodup) (hr : findS ss n = some r) (s' : Ss) (m : Int) : sOf (setS ss r.g s') m = if m = n then s' else sOf ss m := by
  unfold sOf
  rw [findS_set]
  by_cases h : m = n
  · rw [if_pos h, h, hr]
    simp [putS]
  · rw [if_neg h]
    cases hq : findS ss m with
    | none => rfl
    | some q =>
      have h1 := findS_mem hq
      have h2 := findS_mem hr
      have h3 : q.g ≠ r.g := fun e => h (by rw [← h1.2, ← h2.2, inj_g hn h1.1 h2.1 e])
      simp [putS, h3]
theorem Chk.set {w w' : World} {B gc : Nat} {k : Ck} {ss : List SR} {r : SR} {s' : Ss} (h : Chk w B gc k ss) (hr : r ∈ ss) (hk : Mem.Keeps (fun y => y = r.g) w w') (hb : SBx w' r.g s') (ho : EvOk w' B s'.begun) : Chk w' B gc k (setS ss r.g s') := by
  have hg := h.gs r hr
  have hbw : Below B w w' := hk.below (fun y e => by subst e; exact hg.2.2) h.le
  refine ⟨h.c.keeps hk (fun e => hg.1 e.symm), ?_, ?_, by rw [setS_g]; exact h.ne, h.gb, ?_, h.gB, h.bB, h.H.below hbw, h.W.below hbw, fun e he => (h.E e he).below hbw (Nat.le_refl _), Nat.le_trans h.le hbw.size, h.hl, h.wl, h.hn, h.wn, h.a⟩
  · rw [setS_ent]; exact h.m.keeps hk (fun e => hg.2.1 e.symm)
  · intro q hq
    obtain ⟨p, hp, rfl⟩ := List.mem_map.1 hq
    by_cases e : p.g = r.g
    · have : putS r.g s' p = ⟨p.cl, p.g, s'⟩ := by unfold putS; rw [if_pos e]
      rw [this]
      exact ⟨by show SBx w' p.g s'; rw [e]; exact hb, ho⟩
    · have : putS r.g s' p = p := by unfold putS; rw [if_neg e]
      rw [this]
      exact ⟨(h.s p hp).1.keeps hk e, (h.s p hp).2.below hbw (Nat.le_refl _)⟩
  · intro q hq
    obtain ⟨p, hp, rfl⟩ := List.mem_map.1 hq
    rw [putS_g]
    exact h.gs p hp
theorem fpC_set {k : Ck} {ss : List SR} {g : Nat} {s' : Ss} {y : Nat} (h : fpC k (setS ss g s') y) : fpC k ss y := by
  rcases h with h | ⟨q, hq, h⟩
  · exact .inl h
  · obtain ⟨p, hp, rfl⟩ := List.mem_map.1 hq
    rw [putS_g] at h
    exact .inr ⟨p, hp, h⟩
/-- what an event leaves -/
def EvEnd (w : World) (B gc : Nat) (k : Ck) (ss : List SR) (e : Ev) (x : Ending) (w' : World) : Prop :=
  ∃ ss' A c, x = .returned (.slice A (evF k (sOf ss e.cl) e).1.length c) ∧ Mem.Rd w' w'.heap.size A ((evF k (sOf ss e.cl) e).1.map (Value.int .i64)) ∧ Chk w' B gc k ss' ∧
    (∀ m, sOf ss' m = if m = e.cl then (evF k (sOf ss e.cl) e).2 else sOf ss m) ∧ Mem.Keeps (fpC k ss) w w' ∧ (∀ y, fpC k ss' y → fpC k ss y ∨ w.heap.size ≤ y) ∧ (∀ q, Mem.blk A = some q → w.heap.size ≤ q)
end Au
end Go.Proofs.Ytelephoalpphkaa
