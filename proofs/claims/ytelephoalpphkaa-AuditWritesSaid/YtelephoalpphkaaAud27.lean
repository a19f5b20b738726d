/- The document's Check, plainly, and that it is the program's. No conditions. -/
import Derived.Test.YtelephoalpphkaaAud25
set_option maxRecDepth 8000
namespace Go.Proofs.Ytelephoalpphkaa
set_option linter.unusedVariables false
set_option linter.unusedSimpArgs false
namespace Au
def beg (e : Ev) : Bool := !e.fresh && !e.fin
/-- the beginning under way of a client ahead of event j, -1: none -/
def und (h : List Ev) (cl : Int) : Nat → Int
  | 0 => -1
  | j + 1 => match h[j]? with
    | none => und h cl j
    | some e => if e.cl = cl then (if beg e = true then (j : Int) else -1) else und h cl j
theorem und_succ {h : List Ev} {j : Nat} {e : Ev} (he : h[j]? = some e) (cl : Int) : und h cl (j + 1) = if e.cl = cl then (if beg e = true then (j : Int) else -1) else und h cl j := by rw [und, he]
theorem und_lo (h : List Ev) (cl : Int) : ∀ j, -1 ≤ und h cl j
  | 0 => by unfold und; omega
  | j + 1 => by
    have ih := und_lo h cl j
    cases he : h[j]? with
    | none => rw [und, he]; exact ih
    | some e =>
      rw [und_succ he]
      split
      · split <;> omega
      · exact ih
theorem und_hi (h : List Ev) (cl : Int) : ∀ j, und h cl j < j
  | 0 => by unfold und; omega
  | j + 1 => by
    have ih := und_hi h cl j
    cases he : h[j]? with
    | none => rw [und, he]; show und h cl j < _; omega
    | some e =>
      rw [und_succ he]
      split
      · split <;> omega
      · omega
/-- the last cut of a client ahead of event j -/
def lastC (h : List Ev) (cl : Int) : Nat → Vec.Vc
  | 0 => Vec.vc0
  | j + 1 => match h[j]? with
    | none => lastC h cl j
    | some e => if e.cl = cl then (if e.fresh = true then Vec.vc0 else if e.fin = true then e.cut else lastC h cl j) else lastC h cl j
theorem lastC_succ {h : List Ev} {j : Nat} {e : Ev} (he : h[j]? = some e) (cl : Int) : lastC h cl (j + 1) = if e.cl = cl then (if e.fresh = true then Vec.vc0 else if e.fin = true then e.cut else lastC h cl j) else lastC h cl j := by rw [lastC, he]
/-- has an operation of that number or a greater one of the client begun ahead of event j? -/
def dupF (cl op : Int) (x : Ev) : Bool := beg x && (decide (x.cl = cl) && decide (op ≤ x.op))
def dup (h : List Ev) (cl op : Int) (j : Nat) : Bool := (h.take j).any (dupF cl op)
theorem dup_succ {h : List Ev} {j : Nat} {e : Ev} (he : h[j]? = some e) (cl op : Int) : dup h cl op (j + 1) = (dup h cl op j || dupF cl op e) := by
  unfold dup
  rw [Mem.take_snoc he, List.any_append]
  simp
/-- rule 2, as the document has it -/
def dR2 (h : List Ev) (j : Nat) (e : Ev) : Bool :=
  decide (und h e.cl j < 0) || (match h[(und h e.cl j).toNat]? with
    | none => true
    | some b => decide (b.op ≠ e.op) || (decide (b.kind ≠ e.kind) || (decide (b.val ≠ e.val) || !decide (b.keys = e.keys))))
def dFits (e : Ev) : Bool := if e.code ≠ 0 ∨ e.kind < 1 ∨ 4 < e.kind then ((e.res.length : Int) == 0) else decide (e.res.map (·.key) = e.keys)
def dW (h : List Ev) (ws : List Vec.Ent) (j : Nat) (e : Ev) (rule : Int) (r : Rs) : Bool :=
  if rule = 4 then r.has && !askedP (atK (kOf h ws) j) r
  else if rule = 5 then (e.code == 0 && putsP e.kind) && ownF e r
  else if rule = 7 then r.has && !pastP e r
  else seesF (kOf h ws) e r
/-- does event j break a rule, as the document has it? -/
def brk (h : List Ev) (ws : List Vec.Ent) (j : Nat) (e : Ev) (rule : Int) : Bool :=
  if rule = 1 then beg e && (dup h e.cl e.op j || decide (0 ≤ und h e.cl j))
  else if (!e.fin || e.fresh) = true then false
  else if rule = 2 then dR2 h j e
  else if rule = 3 then !dFits e
  else if rule = 6 then !Vec.coversV e.cut (lastC h e.cl j)
  else if rule = 9 then !Vec.closedP e.cut ws
  else e.res.any (dW h ws j e rule)
def brks (h : List Ev) (ws : List Vec.Ent) (j : Nat) (e : Ev) (n : Nat) : List Fi := ((List.range n).filter fun (i : Nat) => brk h ws j e ((i : Int) + 1)).map fun (i : Nat) => (⟨j, (i : Int) + 1⟩ : Fi)
/-- the document's findings of the first j events -/
def docC (h : List Ev) (ws : List Vec.Ent) : Nat → List Fi
  | 0 => []
  | j + 1 => match h[j]? with
    | none => docC h ws j
    | some e => docC h ws j ++ brks h ws j e 9
theorem docC_succ {h : List Ev} {ws : List Vec.Ent} {j : Nat} {e : Ev} (he : h[j]? = some e) : docC h ws (j + 1) = docC h ws j ++ brks h ws j e 9 := by rw [docC, he]
/-- what a client's session is, told by the events ahead -/
structure SInv (h : List Ev) (cl : Int) (j : Nat) (s : Ss) : Prop where
  u : s.under = decide (0 ≤ und h cl j)
  b : ∀ e, 0 ≤ und h cl j → h[(und h cl j).toNat]? = some e → s.begun = e
  o : ∀ op, dup h cl op j = (s.some && decide (op ≤ s.op))
  c : s.cut = lastC h cl j
theorem SInv.zero (h : List Ev) (cl : Int) : SInv h cl 0 ss0 := ⟨rfl, fun e h0 => absurd h0 (by unfold und; omega), fun op => rfl, rfl⟩
theorem SInv.skip {h : List Ev} {cl : Int} {j : Nat} {s : Ss} {e : Ev} (hi : SInv h cl j s) (he : h[j]? = some e) (hne : e.cl ≠ cl) : SInv h cl (j + 1) s := by
  have h1 := und_succ he cl
  rw [if_neg hne] at h1
  refine ⟨by rw [h1]; exact hi.u, fun x => by rw [h1]; exact hi.b x, fun op => ?_, by rw [lastC_succ he, if_neg hne]; exact hi.c⟩
  rw [dup_succ he, hi.o op]
  have : dupF cl op e = false := by unfold dupF; simp [hne]
  rw [this, Bool.or_false]
theorem SInv.next {h : List Ev} {j : Nat} {s : Ss} {e : Ev} (k : Ck) (hi : SInv h e.cl j s) (he : h[j]? = some e) : SInv h e.cl (j + 1) (evF k s e).2 := by
  have h1 := und_succ he e.cl
  have h2 := lastC_succ he e.cl
  have h3 := fun op => dup_succ he e.cl op
  rw [if_pos rfl] at h1 h2
  unfold evF
  by_cases hb : (!e.fresh && !e.fin) = true
  · have hb' : beg e = true := hb
    rw [if_pos hb]
    rw [if_pos hb'] at h1
    obtain ⟨hf, hn⟩ : e.fresh = false ∧ e.fin = false := by simpa using hb
    rw [if_neg (by simp [hf]), if_neg (by simp [hn])] at h2
    unfold begF
    refine ⟨?_, fun x _ hx => ?_, fun op => ?_, by rw [h2]; exact hi.c⟩
    · rw [h1]; symm; simp
    · rw [h1] at hx
      have : h[j]? = some x := by simpa using hx
      rw [he] at this
      exact Option.some.inj this
    · rw [h3, hi.o op]
      unfold dupF
      rw [hb']
      dsimp only
      cases hs : s.some
      · simp
      · by_cases ho : s.op < e.op
        · rw [if_pos (by simp [ho])]
          by_cases h5 : op ≤ e.op
          · simp [h5]
          · have : ¬ op ≤ s.op := by omega
            simp [h5, this]
        · rw [if_neg (by simp; omega)]
          by_cases h5 : op ≤ s.op
          · simp [h5]
          · have : ¬ op ≤ e.op := by omega
            simp [h5, this]
  · have hb' : ¬ beg e = true := hb
    rw [if_neg hb]
    rw [if_neg hb'] at h1
    have h4 : ∀ op, dup h e.cl op (j + 1) = dup h e.cl op j := fun op => by
      rw [h3]
      have : dupF e.cl op e = false := by unfold dupF; simp [hb']
      rw [this, Bool.or_false]
    by_cases hf : e.fresh = true
    · rw [if_pos hf]
      rw [if_pos hf] at h2
      exact ⟨by rw [h1]; rfl, fun x h0 => by rw [h1] at h0; exact absurd h0 (by decide), fun op => by rw [h4]; exact hi.o op, by rw [h2]⟩
    · rw [if_neg hf]
      rw [if_neg hf] at h2
      have hn : e.fin = true := by
        cases h5 : e.fin
        · exact absurd (by simp [h5, hf]) hb
        · rfl
      rw [if_pos hn] at h2
      exact ⟨by rw [h1]; rfl, fun x h0 => by rw [h1] at h0; exact absurd h0 (by decide), fun op => by rw [h4]; exact hi.o op, by rw [h2]⟩
theorem sinv (h : List Ev) (ws : List Vec.Ent) (cl : Int) : ∀ j, j ≤ h.length → SInv h cl j ((stC (kOf h ws) j).1 cl)
  | 0, _ => SInv.zero h cl
  | j + 1, hj => by
    obtain ⟨e, he⟩ : ∃ e, h[j]? = some e := ⟨_, List.getElem?_eq_getElem (by omega)⟩
    have he' : (kOf h ws).h[j]? = some e := he
    rw [stC_succ he']
    show SInv h cl (j + 1) (if cl = e.cl then _ else _)
    by_cases hc : cl = e.cl
    · subst hc
      rw [if_pos rfl]
      exact (sinv h ws e.cl j (by omega)).next _ he
    · rw [if_neg hc]
      exact (sinv h ws cl j (by omega)).skip he (fun q => hc q.symm)
theorem any_has (p : Rs → Bool) : ∀ l : List Rs, l.any (fun r => r.has && p r) = (hasL l).any p
  | [] => rfl
  | r :: l => by
    unfold hasL
    rw [List.any_cons, List.filter_cons, any_has p l]
    cases hr : r.has
    · simp [hasL]
    · simp [hasL]
theorem fits_shaped (e : Ev) : dFits e = shapedP e := by
  unfold dFits shapedP
  by_cases h1 : e.code ≠ 0 ∨ e.kind = 5
  · rw [if_pos h1, if_pos (by omega)]
  · rw [if_neg h1]
    by_cases h2 : e.kind < 1 ∨ 5 < e.kind
    · rw [if_pos h2, if_pos (by omega)]
    · rw [if_neg h2, if_neg (by omega)]
/-- the rules of an end, one by one -/
theorem brk_rule {h : List Ev} {ws : List Vec.Ent} {j : Nat} {s : Ss} {e : Ev} (hi : SInv h e.cl j s) (hj : j ≤ h.length) (hb : ¬ (!e.fin || e.fresh) = true) (i : Nat) (h8 : i < 8) :
    brk h ws j e ((i : Int) + 2) = !(rulesF (atK (kOf h ws) j) s e).getD i true := by
  unfold brk rulesF
  rw [if_neg (show ¬ (i : Int) + 2 = 1 by omega), if_neg hb]
  match i, h8 with
  | 0, _ =>
    show dR2 h j e = !r2 s e
    unfold dR2 r2
    rw [hi.u]
    by_cases hu : 0 ≤ und h e.cl j
    · obtain ⟨b, hb2⟩ : ∃ b, h[(und h e.cl j).toNat]? = some b := ⟨_, List.getElem?_eq_getElem (by have := und_hi h e.cl j; omega)⟩
      rw [hb2, hi.b b hu hb2]
      have h0 : ¬ und h e.cl j < 0 := by omega
      dsimp only
      simp only [h0, hu, decide_false, decide_true, Bool.false_or, Bool.true_and]
      rw [show decide (e.op = b.op) = decide (b.op = e.op) from decide_eq_decide.2 eq_comm, show decide (e.kind = b.kind) = decide (b.kind = e.kind) from decide_eq_decide.2 eq_comm,
        show decide (e.keys = b.keys) = decide (b.keys = e.keys) from decide_eq_decide.2 eq_comm, show decide (e.val = b.val) = decide (b.val = e.val) from decide_eq_decide.2 eq_comm]
      simp only [ne_eq, decide_not, Bool.not_and]
      cases decide (b.op = e.op) <;> cases decide (b.kind = e.kind) <;> cases decide (b.keys = e.keys) <;> cases decide (b.val = e.val) <;> rfl
    · have h0 : und h e.cl j < 0 := by omega
      simp [hu, h0]
  | 1, _ =>
    show (!dFits e) = !shapedP e
    rw [fits_shaped]
  | 2, _ =>
    show e.res.any (dW h ws j e 4) = !r4 (atK (kOf h ws) j) e
    unfold r4
    rw [Bool.not_not, ← any_has]
    rfl
  | 3, _ =>
    show e.res.any (dW h ws j e 5) = !r5 e
    unfold r5
    have : dW h ws j e 5 = fun r => (e.code == 0 && putsP e.kind) && ownF e r := rfl
    rw [this]
    cases hc : (e.code == 0)
    · have : (e.code != 0) = true := by simpa using hc
      simp [this]
    · have : (e.code != 0) = false := by simpa using hc
      rw [this]
      cases putsP e.kind <;> simp
  | 4, _ =>
    show (!Vec.coversV e.cut (lastC h e.cl j)) = !r6 s e
    unfold r6
    rw [hi.c]
  | 5, _ =>
    show e.res.any (dW h ws j e 7) = !r7 e
    unfold r7
    rw [Bool.not_not, ← any_has]
    rfl
  | 6, _ =>
    show e.res.any (dW h ws j e 8) = !r8 (atK (kOf h ws) j) e
    unfold r8
    rw [Bool.not_not]
    rfl
  | 7, _ => rfl
theorem brks_eq {h : List Ev} {ws : List Vec.Ent} {j : Nat} {s : Ss} {e : Ev} (hi : SInv h e.cl j s) (hj : j ≤ h.length) : brks h ws j e 9 = (evF (atK (kOf h ws) j) s e).1.map fun r => (⟨j, r⟩ : Fi) := by
  have h9 : List.range 9 = 0 :: (List.range 8).map (· + 1) := by decide
  unfold brks evF
  rw [h9, List.filter_cons, List.filter_map]
  by_cases hb : (!e.fresh && !e.fin) = true
  · obtain ⟨hf, hn⟩ : e.fresh = false ∧ e.fin = false := by simpa using hb
    have hb' : beg e = true := hb
    rw [if_pos hb]
    have h2 : (List.range 8).filter ((fun (i : Nat) => brk h ws j e ((i : Int) + 1)) ∘ (· + 1)) = [] := by
      rw [List.filter_eq_nil_iff]
      intro i hi2
      show ¬ brk h ws j e (((i + 1 : Nat) : Int) + 1) = true
      unfold brk
      rw [if_neg (by omega), if_pos (by simp [hn])]
      simp
    rw [h2]
    have h3 : brk h ws j e (((0 : Nat) : Int) + 1) = (s.under || (s.some && decide (e.op ≤ s.op))) := by
      unfold brk
      rw [if_pos (by omega), hb', hi.o, hi.u, Bool.true_and, Bool.or_comm]
    rw [h3]
    unfold begF
    cases (s.under || (s.some && decide (e.op ≤ s.op))) <;> rfl
  · have hb' : beg e = false := by cases hq : beg e; rfl; exact absurd hq hb
    rw [if_neg hb]
    have h3 : brk h ws j e (((0 : Nat) : Int) + 1) = false := by
      unfold brk
      rw [if_pos (by omega), hb', Bool.false_and]
    rw [h3]
    by_cases hf : e.fresh = true
    · rw [if_pos hf]
      have h2 : (List.range 8).filter ((fun (i : Nat) => brk h ws j e ((i : Int) + 1)) ∘ (· + 1)) = [] := by
        rw [List.filter_eq_nil_iff]
        intro i hi2
        show ¬ brk h ws j e (((i + 1 : Nat) : Int) + 1) = true
        unfold brk
        rw [if_neg (by omega), if_pos (by simp [hf])]
        simp
      rw [h2]
      rfl
    · rw [if_neg hf]
      have hn : ¬ (!e.fin || e.fresh) = true := by
        cases h5 : e.fin
        · exact absurd (by simp [h5, hf]) hb
        · simp [hf]
      unfold endF
      dsimp only
      have h2 : (List.range 8).filter ((fun (i : Nat) => brk h ws j e ((i : Int) + 1)) ∘ (· + 1)) = (List.range 8).filter fun i => !(rulesF (atK (kOf h ws) j) s e).getD i true := by
        refine List.filter_congr fun i hi2 => ?_
        show brk h ws j e (((i + 1 : Nat) : Int) + 1) = _
        rw [show ((i + 1 : Nat) : Int) + 1 = (i : Int) + 2 by omega]
        exact brk_rule hi hj hn i (List.mem_range.1 hi2)
      rw [h2]
      rw [if_neg (by simp), List.map_map, List.map_map]
      refine List.map_congr_left fun i _ => ?_
      show (⟨j, ((i + 1 : Nat) : Int) + 1⟩ : Fi) = ⟨j, (i : Int) + 2⟩
      rw [show ((i + 1 : Nat) : Int) + 1 = (i : Int) + 2 by omega]
/-- the document's findings are the program's -/
theorem doc_eq (h : List Ev) (ws : List Vec.Ent) : ∀ j, j ≤ h.length → docC h ws j = (stC (kOf h ws) j).2
  | 0, _ => rfl
  | j + 1, hj => by
    obtain ⟨e, he⟩ : ∃ e, h[j]? = some e := ⟨_, List.getElem?_eq_getElem (by omega)⟩
    have he' : (kOf h ws).h[j]? = some e := he
    rw [stC_succ he', docC_succ he, doc_eq h ws j (by omega), brks_eq (sinv h ws e.cl j (by omega)) (by omega)]
theorem doc_finds (h : List Ev) (ws : List Vec.Ent) : docC h ws h.length = findL h ws := by rw [doc_eq h ws _ (Nat.le_refl _), findL_eq]
end Au
end Go.Proofs.Ytelephoalpphkaa
