/- A round of a range over a function: operations that are walked as everywhere are walked there too. Plain lemmas over any program. -/
import Derived.Test.YtfafehffnjbhnaaStill
import Derived.Test.YtfafehffnjbhnaaAgg
import Derived.Test.YtfafehffnjbhnaaReg
import Derived.Deep.Quiet
import Derived.RangeFuncNested
import Derived.RangeFuncBound
import Derived.RangeFuncCalls
import Derived.RangeFuncLeaves
namespace Go.Proofs.Ytfafehffnjbhnaa
open Go.RowKit
set_option linter.unusedVariables false
set_option linter.unusedSimpArgs false
namespace Reg
/-- the fence of a round of loop l -/
abbrev rd (l : Nat) : Fence := Fence.wide.inRound l
section
variable {P : Program} {ops : Array Oper} {Q : Exit → Act → World → Prop} {l n : Nat} {a : Act} {w : World}
theorem fence_op {o : Oper} (hd : ∀ c, o.op ≠ .defer c) {K K' : Act → World → Prop} (hK : ∀ a w, K a w → K' a w) (h : o.wp P a w K Q) : o.wpIn (rd l) n P a w K' Q := by
  refine ⟨fun _ _ => trivial, ?_⟩
  rw [Oper.semAt_eq _ _ _ hd]
  unfold Oper.wp at h
  generalize (execOp a.eval o).run P w = r at h ⊢
  cases r with
  | ok nx w1 =>
    cases nx with
    | value v => exact hK _ _ h
    | skip => exact hK _ _ h
    | defer d => exact hK _ _ h
    | enter f args => exact ⟨fun h1 => (by cases h1), CallsIn.inRound l (callsIn_wide.2 (Calls.mono h (fun e w2 h2 => by cases e <;> first | exact hK _ _ h2 | exact h2)))⟩
    | row row args =>
      refine ⟨fun h1 => (by cases h1), fun c cs _ => ?_⟩
      obtain ⟨v, w2, h2, h3⟩ := h c cs
      exact ⟨v, w2, hK _ _ h2, stepsIn_wide.2 h3⟩
    | _ => exact h.elim
  | halt x w1 => cases x <;> first | exact h | exact h.elim
theorem fence_list (hQ : ¬ LetsOut Q) : ∀ (L : List Oper), (∀ o ∈ L, ∀ c, o.op ≠ .defer c) → ∀ a w, wpList P ops Q L a w → wpListIn (rd l) n P ops Q L a w
  | [], _, _, _, h => h
  | o :: L, hd, a, w, h => by
    unfold wpList at h
    unfold wpListIn
    by_cases hw : Region.wanted o (yielded ops a.tmps) = true
    · rw [if_pos hw] at h ⊢
      rcases h with h | h
      · exact fence_op (hd o List.mem_cons_self) (fence_list hQ L fun o ho => hd o (List.mem_cons_of_mem _ ho)) h
      · exact (hQ h.2).elim
    · rw [if_neg hw] at h ⊢
      exact ⟨fun _ _ => trivial, fence_list hQ L (fun o ho => hd o (List.mem_cons_of_mem _ ho)) _ _ h⟩
theorem fence_ops (hQ : ¬ LetsOut Q) (hd : ∀ o ∈ ops.toList, ∀ c, o.op ≠ .defer c) : ∀ (L : List Nat) a w, wpOps P ops Q L a w → wpOpsIn (rd l) n P ops Q L a w
  | [], _, _, h => h
  | i :: L, a, w, h => by
    unfold wpOps at h
    unfold wpOpsIn
    cases ho : ops[i]? with
    | none => simp only [ho] at h ⊢; exact fence_ops hQ hd L a w h
    | some o =>
      simp only [ho] at h ⊢
      have hm : o ∈ ops.toList := by
        obtain ⟨hi, rfl⟩ := Array.getElem?_eq_some_iff.1 ho
        simp
      by_cases hw : Region.wanted o (yielded ops a.tmps) = true
      · rw [if_pos hw] at h ⊢
        rcases h with h | h
        · exact fence_op (hd o hm) (fence_ops hQ hd L) h
        · exact (hQ h.2).elim
      · rw [if_neg hw] at h ⊢
        exact ⟨fun _ _ => trivial, fence_ops hQ hd L _ _ h⟩
def noDefer (L : List Oper) : Bool := L.all fun o => match o.op with | .defer _ => false | _ => true
theorem noDefer_spec {L : List Oper} (h : noDefer L = true) : ∀ o ∈ L, ∀ c, o.op ≠ .defer c := fun o ho c e => by
  unfold noDefer at h
  have := List.all_eq_true.1 h o ho
  rw [e] at this
  cases this
theorem fence_lit {id : Nat} {L : List Oper} (hQ : ¬ LetsOut Q) (hd : noDefer L = true) (h : wpList P L.toArray Q L a w) : (Code.region id L.toArray false).wpIn (rd l) n P Q a w :=
  wpIn_region_lit (fence_list hQ L (noDefer_spec hd) a w h)
theorem fence_quiet {id : Nat} {L : List Oper} (hQ : ¬ LetsOut Q) (hd : noDefer L = true) (hm : P.follows .mixedOrders = true) (hB : Region.lexB .any L.toArray = true)
    (h : wpQuiet P L.toArray (fun w' => ∃ n, w' = w.drewN n) (fun a' => ∀ w', (∃ n, w' = w.drewN n) → Q .normal a' w') L a) : (Code.region id L.toArray true).wpIn (rd l) n P Q a w := by
  simp only [Region.lexB, Bool.and_eq_true] at hB
  refine wpIn_region_draw fun t => ?_
  refine fence_ops hQ (by simpa using noDefer_spec hd) _ _ _ ?_
  simp only [Region.schedule, hm, Bool.true_or, if_true]
  refine wpAny_sound L.toArray.size t _ a _ ?_
  refine wpAny_of_quiet (C := fun w' => ∃ n, w' = w.drewN n) (Q := fun a' => ∀ w', (∃ n, w' = w.drewN n) → Q .normal a' w') (fun _ w' hw' h => h w' hw') _ _ _ _ ⟨1, rfl⟩ ?_
  have := wpAnyQ_lex (C := fun w' => ∃ n, w' = w.drewN n) (md := .any) hB.1 L 0 (Array.replicate L.toArray.size false) a (by simp) (by simpa using hB.2) (by simpa using h)
  simpa using this
theorem fence_quietC {C : World → Prop} {id : Nat} {L : List Oper} (hQ : ¬ LetsOut Q) (hd : noDefer L = true) (hm : P.follows .mixedOrders = true) (hB : Region.lexB .any L.toArray = true) (hC : C w.drew)
    (h : wpQuiet P L.toArray C (fun a' => ∀ w', C w' → Q .normal a' w') L a) : (Code.region id L.toArray true).wpIn (rd l) n P Q a w := by
  simp only [Region.lexB, Bool.and_eq_true] at hB
  refine wpIn_region_draw fun t => ?_
  refine fence_ops hQ (by simpa using noDefer_spec hd) _ _ _ ?_
  simp only [Region.schedule, hm, Bool.true_or, if_true]
  refine wpAny_sound L.toArray.size t _ a _ ?_
  refine wpAny_of_quiet (C := C) (Q := fun a' => ∀ w', C w' → Q .normal a' w') (fun _ w' hw' h => h w' hw') _ _ _ _ hC ?_
  have := wpAnyQ_lex (C := C) (md := .any) hB.1 L 0 (Array.replicate L.toArray.size false) a (by simp) (by simpa using hB.2) (by simpa using h)
  simpa using this
/-- a value of many cells is loaded, in a fence -/
theorem load_aggIn {F : Fence} {rest : List Oper} {d : Option Tmp} {ty : TypeId} {ps : String} {af : Array Edge} {x : Operand} (t : TypeId) (m : Nat) (hA : Mem.Agg P t m) (g off : Nat) (xs : List Value) (hx : a.eval x = .pointer (some ⟨g, off, none⟩)) (hl : xs.length = m)
    (hc : ∀ j u, xs[j]? = some u → w.cell? ⟨g, off + j, none⟩ = some u) (h : wpListIn F n P ops Q rest (a.put d (.agg xs.toArray)) w) :
    wpListIn F n P ops Q ({ dst := d, op := .load t x, type := ty, pos := ps, after := af, guard := none } :: rest) a w :=
  wpListIn_plain rfl fun K hK => by
    refine ⟨fun f hf => by simp [Oper.about] at hf, ?_⟩
    rw [Oper.semAt_eq _ _ _ (by intro c h; cases h)]
    unfold execOp
    simp only [hx, Instr.loadAt, Instr.sureAddr, Sem.run_bind, Sem.run_pure, Result.andThen_ok, Mem.run_loadAgg hA g off xs hl hc]
    exact hK _ _ h
theorem wp_gen {c : Code} (F : World → Prop) (hF : F w) (h : ∀ w0, F w0 → c.wp P Q a w0) : c.wp P Q a w := h w hF
theorem wpIn_gen {F' : Fence} {c : Code} (F : World → Prop) (hF : F w) (h : ∀ w0, F w0 → c.wpIn F' n P Q a w0) : c.wpIn F' n P Q a w := h w hF
/-- a function that held a range over a function is left -/
theorem leave_mark {F : Fence} {fn : Func} {R : Ending → World → Prop} {ts : Array Value} {D : Nat} {W : World} {v : Value} (hK : W.heap[D]? = some (.deferred (some [])))
    (h : (results fn ts).run P (W.putObj D (.deferred none)) = .ok v (W.putObj D (.deferred none))) (hR : R (.returned v) (W.putObj D (.deferred none))) :
    bodyPostM F n P fn R .ret { tmps := ts, defers := [{ target := .collected D, args := #[] }] } W :=
  ⟨by simp, .inl ⟨_, _, rfl, run_takeDeferred hK, v, h, hR⟩⟩
theorem leave_plain {F : Fence} {fn : Func} {R : Ending → World → Prop} {ts : Array Value} {W : World} {v : Value} (h : (results fn ts).run P W = .ok v W) (hR : R (.returned v) W) :
    bodyPostM F n P fn R .ret { tmps := ts, defers := [] } W := ⟨v, h, hR⟩
/-- what is no cells is turned: a box is not -/
theorem Bx_kept {W W' : World} {t : TypeId} {m g : Nat} {xs : List Value} {row : Option Nat} (h : Mem.Bx W t m g xs) (hg : W.grownBy W' row) (hr : ∀ r, row = some r → ∃ o : Obj, W.heap[r]? = some o ∧ o.isCells = false) : Mem.Bx W' t m g xs := by
  refine Mem.Own.kept h hg (.inr fun e => ?_)
  obtain ⟨o, ho, hc⟩ := hr g e.symm
  rcases h.2 with ⟨h0, _⟩ | ⟨g', o', cur, h0, hg', _⟩
  · cases h0
  · cases h0
    rw [hg'] at ho
    cases ho
    cases hc
theorem keeps_row {W W' : World} {B : Nat} {row : Option Nat} (hg : W.grownBy W' row) (hr : ∀ r, row = some r → B ≤ r ∧ ∃ o : Obj, W.heap[r]? = some o ∧ o.isCells = false) : Mem.Keeps (fun k => B ≤ k) W W' :=
  (Mem.Keeps.refl _ W).grown hg (fun k e _ => (hr k e).1)
theorem keeps_put {W : World} {D : Nat} {o o' : Obj} (h : W.heap[D]? = some o) : Mem.Keeps (fun k => k = D) W (W.putObj D o') :=
  (Mem.Keeps.refl _ W).grown (grownBy_putObj' W D o') (fun k e _ => by cases e; rfl)
theorem keepsFrom_of {B : Nat} {W W' : World} (h : Mem.Keeps (fun k => k < B) W W') : KeepsFrom B W W' :=
  ⟨h.size, fun k o hB hk _ => (h.block k (Array.getElem?_eq_some_iff.1 hk).1 (by omega)).trans hk⟩
/-- the rule of text Reg for a region that draws its order, in a round -/
theorem fence_rel {id : Nat} {a0 : Act} {w1 : World} (hQ : ¬ LetsOut Q) (hd : noDefer ops.toList = true) (hm : P.follows .mixedOrders = true) (size m : Nat) (hsz : a0.tmps.size = size) (hn : ops.size = m) (hfit : fit ops size = true)
    (R : Nat → Nat → World → World → Prop) (hrefl : ∀ j k w, R j k w w) (htr : ∀ j k a b c, R j k a b → R j k b c → R j k a c) (V : Nat → Value → World → Prop)
    (steps : Steps P ops m R V a0 w1.drew 0 ops.toList)
    (fin : ∀ (val : Nat → Value) (w : World), R m m w1.drew w → (∀ j, j < m → Held R V m j (val j) w) → Q .normal (lay val (ops.toList.map (·.dst)) 0 a0) w) :
    (Code.region id ops true).wpIn (rd l) n P Q a0 w1 := by
  subst hsz
  subst hn
  refine wpIn_region_draw fun t => ?_
  refine fence_ops hQ (noDefer_spec hd) _ _ _ ?_
  simp only [Region.schedule, hm, Bool.true_or, if_true]
  refine wpAny_sound ops.size t _ a0 _ ?_
  refine wpAny_rel (w0 := w1.drew) (R := R) (V := V) hfit hrefl htr steps (fun val w h1 h2 => by rw [List.range_eq_range', puts_lay val ops.size 0 a0 (by omega), List.drop_zero]; exact fin val w h1 h2) ops.size (Array.replicate ops.size false) (fun _ => undef) a0 w1.drew (by simp) ?_ (fun k _ => hrefl _ k _) rfl rfl ?_ ?_ ?_ ?_
  · exact Nat.le_trans (List.length_filter_le _ _) (by simp)
  · intro j d hj; simp [Array.getElem?_replicate] at hj; split at hj <;> simp at hj
  · intro t _; rfl
  · intro k _ j hj h; simp [hj] at h
  · intro j k hj; simp [Array.getElem?_replicate] at hj; split at hj <;> simp at hj
theorem Own_kept {W W' : World} {t : TypeId} {sz c k : Nat} {A : Option Addr} {xs : List Value} {row : Option Nat} (h : Mem.Own W t sz A k c xs) (hg : W.grownBy W' row) (hr : ∀ r, row = some r → ∃ o : Obj, W.heap[r]? = some o ∧ o.isCells = false) : Mem.Own W' t sz A k c xs := by
  rcases h.2 with ⟨h0, _⟩ | ⟨g', o', cur, h0, hg', _⟩
  · exact Mem.Own.kept h hg (.inl (by rw [h0]; rfl))
  · refine Mem.Own.kept h hg (.inr fun e => ?_)
    subst h0
    obtain ⟨o, ho, hc⟩ := hr g' e.symm
    rw [hg'] at ho
    cases ho
    cases hc
/-- several marks, one behind the other -/
theorem leave_marks {F : Fence} {fn : Func} {R : Ending → World → Prop} {ts : Array Value} {v : Value} : ∀ (Ds : List Nat) (W : World), Ds.Nodup → (∀ D ∈ Ds, W.heap[D]? = some (.deferred (some []))) →
    (∀ W', Mem.Keeps (fun k => k ∈ Ds) W W' → (results fn ts).run P W' = .ok v W' ∧ R (.returned v) W') → LeavesInM F n P fn ts R (Ds.map fun D => { target := .collected D, args := #[] }) .returning W
  | [], W, _, _, h => ⟨v, h W (Mem.Keeps.refl _ _)⟩
  | D :: Ds, W, hn, hD, h => by
    rw [List.nodup_cons] at hn
    have h0 := hD D List.mem_cons_self
    have hk : Mem.Keeps (fun k => k = D) W (W.putObj D (.deferred none)) := keeps_put h0
    refine ⟨by simp, .inl ⟨D, _, rfl, run_takeDeferred h0, leave_marks Ds _ hn.2 (fun E hE => ?_) fun W' hk' => h W' ?_⟩⟩
    · have hne : E ≠ D := fun e => hn.1 (e ▸ hE)
      have hE0 := hD E (List.mem_cons_of_mem _ hE)
      exact (hk.block E (Array.getElem?_eq_some_iff.1 hE0).1 hne).trans hE0
    · exact (hk.mono (T := fun k => k ∈ D :: Ds) (fun k e _ => e ▸ List.mem_cons_self)).trans hk' (fun k hk _ => List.mem_cons_of_mem _ hk)
theorem letsOut_then {K : Act → World → Prop} (h : ¬ LetsOut Q) : ¬ LetsOut (Exit.then K Q) := fun ⟨a, w, h2⟩ => h ⟨a, w, h2⟩
theorem letsOut_block {id : Nat} (h : ¬ LetsOut Q) : ¬ LetsOut (Exit.inBlock id Q) := fun ⟨a, w, h2⟩ => h ⟨a, w, h2⟩
theorem letsOut_own {α : Type} {B : Nat} {Kp : World → World → Prop} {I : List α → World → Prop} {Ix : Code → List α → World → Prop} {xs : List α} {W : World} : ¬ LetsOut (ownPostG B Kp I Ix xs W) := fun ⟨_, _, h⟩ => h
theorem letsOut_false {K : Act → World → Prop} : ¬ LetsOut (Exit.then K (fun _ _ _ => False)) := fun ⟨_, _, h⟩ => h
end
end Reg
end Go.Proofs.Ytfafehffnjbhnaa
