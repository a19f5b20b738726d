/- A rule for a region that draws its order: each operation is shown once, from what the operations that it waits for have left, in whatever world the others have made of the one at the beginning. Plain lemmas over any program. -/
import Derived.Test.YtfafehffnjbhnaaMem
import Derived.RegionTactic
namespace Go.Proofs.Ytfafehffnjbhnaa
set_option linter.unusedVariables false
set_option linter.unusedSimpArgs false
open Go.RowKit
namespace Reg

/-- the operations that an operation waits for -/
def pl (o : Oper) : List Nat := (o.after.toList.filter (Region.binds .any)).map (·.on)
/-- where operation j puts its value -/
def dstOf (ops : Array Oper) (j : Nat) : Option Tmp := (ops[j]?).bind (·.dst)
/-- the values of some operations, put into their slots -/
def puts (ops : Array Oper) (val : Nat → Value) : List Nat → Act → Act
  | [], a => a
  | j :: r, a => puts ops val r (a.put (dstOf ops j) (val j))

/-- i goes ahead of j in every order -/
def ahead (ops : Array Oper) (i j : Nat) : Bool := ((Region.before ops).getD j 0).testBit i
/-- What the rule asks of a region (reckoned): each operation's slot is its own; what an operation looks at was put by one that it waits for, or is put by none that may be ahead of it. -/
def fit (ops : Array Oper) (size : Nat) : Bool :=
  ((List.range ops.size).all fun j => decide ((Region.before ops).getD j 0 < 2 ^ ops.size)) && decide ((Region.before ops).size ≤ ops.size) &&
  (List.range ops.size).all fun i => match ops[i]? with
    | none => true
    | some o =>
      (match o.op with | .select .. => false | _ => true) &&
      (match o.dst with | some d => decide (d < size) | none => true) &&
      ((List.range ops.size).all fun j => j == i || o.dst.isNone || dstOf ops j != o.dst) &&
      ((pl o).all fun e => decide (e < i)) &&
      ((o.looksAt ops).all fun t => (pl o).any (fun j => dstOf ops j == some t) || (List.range ops.size).all (fun j => dstOf ops j != some t || j == i || ahead ops i j)) &&
      ((List.range ops.size).all fun k => !ahead ops k i || (pl o).any (fun e => e == k || ahead ops k e))

section
variable {P : Program} {ops : Array Oper} {R : Nat → Nat → World → World → Prop} {V : Nat → Value → World → Prop} {a0 : Act} {w0 : World} {n : Nat}

/-- what stands of an operation's value: it stood in an elder world -/
def Held (R : Nat → Nat → World → World → Prop) (V : Nat → Value → World → Prop) (i : Nat) (j : Nat) (v : Value) (w : World) : Prop := ∃ wj, V j v wj ∧ R j i wj w
/-- what operation i does to the world: R j k speaks of what operation j has left (j = the number of operations: of what was there at the beginning) and operation k is to find (k = that number: the end): of those between which i may come -/
def Does (ops : Array Oper) (n : Nat) (R : Nat → Nat → World → World → Prop) (i : Nat) (w w' : World) : Prop :=
  ∀ j k, (j = n ∨ j ≠ i ∧ ahead ops i j = false) → (k = n ∨ k ≠ i ∧ ahead ops k i = false) → R j k w w'
/-- what an operation finds in a slot: what the one has left that it waits for, or what was there at the beginning -/
def aval (ops : Array Oper) (val : Nat → Value) (a0 : Act) (o : Oper) (t : Tmp) : Value :=
  match (pl o).find? (fun j => dstOf ops j == some t) with
  | some j => val j
  | none => a0.tmps.getD t undef
/-- an operation's end -/
def FinK (K : Act → World → Prop) (e : Exit) (a' : Act) (w' : World) : Prop := e = .normal ∧ K a' w'
/-- one operation -/
def Op1 (P : Program) (ops : Array Oper) (o : Oper) (a : Act) (w : World) (K : Act → World → Prop) : Prop := wpList P ops (FinK K) [o] a w
def StepAt (P : Program) (ops : Array Oper) (n : Nat) (R : Nat → Nat → World → World → Prop) (V : Nat → Value → World → Prop) (a0 : Act) (w0 : World) (i : Nat) (o : Oper) : Prop :=
  ∀ (val : Nat → Value) (a : Act) (w : World), R n i w0 w → (∀ j ∈ pl o, Held R V i j (val j) w) → (∀ t ∈ o.looksAt ops, (a.tmps[t]?).getD undef = aval ops val a0 o t) →
    ∀ K : Act → World → Prop, (∀ v w', V i v w' → Does ops n R i w w' → K (a.put o.dst v) w') → Op1 P ops o a w K
theorem Op1.plain {o : Oper} {a : Act} {w : World} {K : Act → World → Prop} (hg : o.guard = none) (h : wpList P #[] (FinK K) [o] a w) : Op1 P ops o a w K := by
  unfold Op1 wpList at *
  have h1 : Region.wanted o (yielded ops a.tmps) = true := by simp [Region.wanted, hg]
  have h2 : Region.wanted o (yielded #[] a.tmps) = true := by simp [Region.wanted, hg]
  rw [if_pos h1]
  rw [if_pos h2] at h
  exact h
theorem getD_bool {a : Act} {d : Nat} {b : Bool} (h : (a.tmps[d]?).getD undef = .bool b) : a.tmps[d]? = some (.bool b) := by
  cases hd : a.tmps[d]? with
  | none => rw [hd] at h; cases h
  | some v => rw [hd] at h; simpa using h
/-- a guarded operation -/
theorem Op1.guarded {o : Oper} {a : Act} {w : World} {K : Act → World → Prop} {g d : Nat} {b want : Bool} (hg : o.guard = some (g, want)) (hd : dstOf ops g = some d) (hv : (a.tmps[d]?).getD undef = .bool b)
    (h1 : b = want → Op1 P ops { o with guard := none } a w K) (h2 : b ≠ want → K (a.put o.dst undef) w) : Op1 P ops o a w K := by
  have hy : yielded ops a.tmps g = some b := by
    unfold yielded
    rw [show (ops[g]?).bind (·.dst) = some d from hd]
    simp [getD_bool hv]
  unfold Op1 wpList
  by_cases hb : b = want
  · have hw : Region.wanted o (yielded ops a.tmps) = true := by simp [Region.wanted, hg, hy, hb]
    rw [if_pos hw]
    have h := h1 hb
    unfold Op1 wpList at h
    rw [if_pos (by simp [Region.wanted])] at h
    exact h
  · have hw : ¬ Region.wanted o (yielded ops a.tmps) = true := by simp [Region.wanted, hg, hy, hb]
    rw [if_neg hw]
    exact ⟨rfl, h2 hb⟩
inductive Steps (P : Program) (ops : Array Oper) (n : Nat) (R : Nat → Nat → World → World → Prop) (V : Nat → Value → World → Prop) (a0 : Act) (w0 : World) : Nat → List Oper → Prop
  | nil (i : Nat) : Steps P ops n R V a0 w0 i []
  | cons {i : Nat} {o : Oper} {l : List Oper} (h : StepAt P ops n R V a0 w0 i o) (t : Steps P ops n R V a0 w0 (i + 1) l) : Steps P ops n R V a0 w0 i (o :: l)

theorem Steps.at {l : List Oper} : ∀ {k : Nat}, Steps P ops n R V a0 w0 k l → ∀ (i : Nat) (o : Oper), l[i]? = some o → StepAt P ops n R V a0 w0 (k + i) o := by
  induction l with
  | nil => intro k _ i o h; simp at h
  | cons x l ih =>
    intro k h i o ho
    cases h with
    | cons h1 h2 =>
      cases i with
      | zero => simp at ho; subst ho; exact h1
      | succ i =>
        have := ih h2 i o (by simpa using ho)
        rwa [show k + 1 + i = k + (i + 1) by omega] at this

theorem size_put (a : Act) (d : Option Tmp) (v : Value) : (a.put d v).tmps.size = a.tmps.size := by cases d <;> simp [Act.put]
theorem defers_put (a : Act) (d : Option Tmp) (v : Value) : (a.put d v).defers = a.defers := by cases d <;> rfl
theorem get_put_same (a : Act) (d : Nat) (v : Value) (h : d < a.tmps.size) : (a.put (some d) v).tmps.getD d undef = v := by simp [Act.put, h]
theorem get_put_other (a : Act) (d : Option Tmp) (t : Nat) (v : Value) (h : d ≠ some t) : (a.put d v).tmps.getD t undef = a.tmps.getD t undef := by
  cases d with
  | none => rfl
  | some d =>
    have hne : d ≠ t := fun e => h (by rw [e])
    simp [Act.put, Array.getElem?_setIfInBounds_ne hne]
theorem size_puts (val : Nat → Value) (l : List Nat) : ∀ a : Act, (puts ops val l a).tmps.size = a.tmps.size := by
  induction l with
  | nil => intro a; rfl
  | cons j l ih => intro a; simp only [puts, ih, size_put]
theorem defers_puts (val : Nat → Value) (l : List Nat) : ∀ a : Act, (puts ops val l a).defers = a.defers := by
  induction l with
  | nil => intro a; rfl
  | cons j l ih => intro a; simp only [puts, ih, defers_put]
theorem get_puts_none (val : Nat → Value) (t : Nat) (l : List Nat) : ∀ a : Act, (∀ j ∈ l, dstOf ops j ≠ some t) → (puts ops val l a).tmps.getD t undef = a.tmps.getD t undef := by
  induction l with
  | nil => intro a _; rfl
  | cons j l ih =>
    intro a h
    simp only [puts]
    rw [ih _ (fun k hk => h k (List.mem_cons_of_mem _ hk)), get_put_other _ _ _ _ (h j List.mem_cons_self)]
theorem get_puts_some (val : Nat → Value) (t j : Nat) (l : List Nat) : ∀ a : Act, t < a.tmps.size → dstOf ops j = some t → (∀ k ∈ l, dstOf ops k = some t → k = j) → (j ∈ l ∨ a.tmps.getD t undef = val j) → (puts ops val l a).tmps.getD t undef = val j := by
  induction l with
  | nil => intro a _ _ _ h; rcases h with h | h
           · cases h
           · exact h
  | cons k l ih =>
    intro a ht hj hu h
    simp only [puts]
    refine ih _ (by rw [size_put]; exact ht) hj (fun k hk => hu k (List.mem_cons_of_mem _ hk)) ?_
    by_cases hk : dstOf ops k = some t
    · right
      have := hu k List.mem_cons_self hk
      subst this
      rw [hk, get_put_same _ _ _ ht]
    · rcases h with h | h
      · rcases List.mem_cons.1 h with rfl | h
        · exact absurd hj hk
        · exact .inl h
      · right; rw [get_put_other _ _ _ _ hk]; exact h

structure Fit (ops : Array Oper) (size : Nat) (i : Nat) (o : Oper) : Prop where
  nosel : ∀ cs b, o.op ≠ .select cs b
  lt : ∀ d, o.dst = some d → d < size
  own : ∀ j d, j ≠ i → o.dst = some d → dstOf ops j ≠ some d
  down : ∀ e ∈ pl o, e < i
  looks : ∀ t ∈ o.looksAt ops, (∃ j ∈ pl o, dstOf ops j = some t) ∨ ∀ j, dstOf ops j = some t → j = i ∨ ahead ops i j = true
  close : ∀ k, ahead ops k i = true → ∃ e ∈ pl o, e = k ∨ ahead ops k e = true

theorem dstOf_lt {j d : Nat} (h : dstOf ops j = some d) : j < ops.size := by
  unfold dstOf at h
  cases hj : ops[j]? with
  | none => rw [hj] at h; cases h
  | some o => exact (Array.getElem?_eq_some_iff.1 hj).1

theorem ahead_lt {size : Nat} (h : fit ops size = true) {i j : Nat} (ha : ahead ops i j = true) : i < ops.size := by
  unfold fit at h
  rw [Bool.and_eq_true, Bool.and_eq_true] at h
  obtain ⟨⟨h1, h2⟩, _⟩ := h
  unfold ahead at ha
  have hj : j < (Region.before ops).size := by
    rcases Nat.lt_or_ge j (Region.before ops).size with h | h
    · exact h
    · rw [Array.getD_eq_getD_getElem?, Array.getElem?_eq_none h] at ha
      simp at ha
  have hlt := List.all_eq_true.1 h1 j (List.mem_range.2 (Nat.lt_of_lt_of_le hj (by simpa using h2)))
  have hlt : (Region.before ops).getD j 0 < 2 ^ ops.size := by simpa using hlt
  rcases Nat.lt_or_ge i ops.size with h | h
  · exact h
  · exfalso
    have := Nat.testBit_lt_two_pow (Nat.lt_of_lt_of_le hlt (Nat.pow_le_pow_right (by omega) h))
    rw [this] at ha; cases ha
theorem fit_spec {size : Nat} (h : fit ops size = true) {i : Nat} {o : Oper} (ho : ops[i]? = some o) : Fit ops size i o := by
  have hi : i < ops.size := (Array.getElem?_eq_some_iff.1 ho).1
  have hb := fun (i j : Nat) => ahead_lt (i := i) (j := j) h
  have h0 := h
  unfold fit at h
  rw [Bool.and_eq_true] at h
  have h1 := List.all_eq_true.1 h.2 i (List.mem_range.2 hi)
  simp only [ho, Bool.and_eq_true] at h1
  obtain ⟨⟨⟨⟨⟨h1, h2⟩, h3⟩, h4⟩, h5⟩, h6⟩ := h1
  refine ⟨fun cs b e => (by rw [e] at h1; cases h1), fun d e => (by rw [e] at h2; simpa using h2), fun j d hne e hj => ?_, fun e he => (by simpa using List.all_eq_true.1 h4 e he), fun t ht => ?_, fun k hk => ?_⟩
  · have := List.all_eq_true.1 h3 j (List.mem_range.2 (dstOf_lt hj))
    simp [e, hj, hne] at this
  · have := List.all_eq_true.1 h5 t ht
    simp only [Bool.or_eq_true, List.any_eq_true, List.all_eq_true, List.mem_range, beq_iff_eq, bne_iff_ne] at this
    rcases this with ⟨j, hj, he⟩ | this
    · exact .inl ⟨j, hj, he⟩
    · refine .inr fun j hj => ?_
      rcases this j (dstOf_lt hj) with (h | h) | h
      · exact absurd hj h
      · exact .inl h
      · exact .inr h
  · have := List.all_eq_true.1 h6 k (List.mem_range.2 (hb k i hk))
    simp only [hk, Bool.not_true, Bool.false_or, List.any_eq_true, Bool.or_eq_true, beq_iff_eq] at this
    exact this

def ob : Option Value → Option Bool
  | some (.bool b) => some b
  | _ => none
theorem bool_of {x y : Option Value} (h : x.getD undef = y.getD undef) : ob x = ob y := by
  cases x with
  | none => cases y with
    | none => rfl
    | some y => simp only [Option.getD_none, Option.getD_some] at h; rw [← h]; rfl
  | some x => cases y with
    | none => simp only [Option.getD_none, Option.getD_some] at h; rw [h]; rfl
    | some y => simp only [Option.getD_some] at h; rw [h]
/-- one operation, shown with a continuation, is one operation of the region -/
theorem Op1.wpOp {i : Nat} {o : Oper} {a : Act} {w : World} {K : Act → World → Prop} {Q' : Exit → Act → World → Prop} (ho : ops[i]? = some o) (h : Op1 P ops o a w K) : wpOp P ops Q' i K a w := by
  unfold Go.wpOp
  simp only [ho]
  unfold Op1 wpList at h
  by_cases hw : Region.wanted o (yielded ops a.tmps) = true
  · rw [if_pos hw] at h ⊢
    rcases h with h | ⟨_, a1, w1, hl⟩
    case inr => cases hl.1
    refine .inl ?_
    unfold Oper.wp at *
    generalize (execOp a.eval o).run P w = r at *
    cases r with
    | ok n w' =>
      cases n <;> simp only [Oper.upon, wpList] at h ⊢
      case value u => exact h.2
      case skip => exact h.2
      case defer d => exact h.2
      case enter f args =>
        refine Calls.mono h fun e w'' he => ?_
        cases e with
        | returned u => exact he.2
        | panicked c => cases he.1
        | outgrown => obtain ⟨a1, w1, hl⟩ := he; cases hl.1
      case row row args => exact Rows.mono h fun u w'' he => he.2
    | halt x w' =>
      cases x <;> simp only [Oper.upon] at h ⊢
      case panic u => cases h.1
  · rw [if_neg hw] at h ⊢
    exact h.2

theorem wpAny_rel (hfit : fit ops a0.tmps.size = true) (hrefl : ∀ j k w, R j k w w) (htr : ∀ j k a b c, R j k a b → R j k b c → R j k a c) {Q : Exit → Act → World → Prop}
    (steps : Steps P ops ops.size R V a0 w0 0 ops.toList)
    (fin : ∀ (val : Nat → Value) (w : World), R ops.size ops.size w0 w → (∀ j, j < ops.size → Held R V ops.size j (val j) w) → Q .normal (puts ops val (List.range ops.size) a0) w) :
    ∀ (fuel : Nat) (listed : Array Bool) (val : Nat → Value) (a : Act) (w : World),
      listed.size = ops.size → ((List.range ops.size).filter fun j => !listed.getD j true).length ≤ fuel →
      (∀ k, (k = ops.size ∨ k < ops.size ∧ listed.getD k false = false) → R ops.size k w0 w) → a.defers = a0.defers → a.tmps.size = a0.tmps.size →
      (∀ j d, listed.getD j false = true → dstOf ops j = some d → a.tmps.getD d undef = val j) →
      (∀ t, (∀ j, listed.getD j false = true → dstOf ops j ≠ some t) → a.tmps.getD t undef = a0.tmps.getD t undef) →
      (∀ k, (k = ops.size ∨ k < ops.size ∧ listed.getD k false = false) → ∀ j, j < ops.size → listed.getD j false = true → Held R V k j (val j) w) →
      (∀ j k, listed.getD j false = true → ahead ops k j = true → listed.getD k false = true) →
      wpAny P .any ops Q fuel listed a w := by
  intro fuel
  have both : ∀ (listed : Array Bool) (j : Nat), listed.size = ops.size → j < ops.size → listed.getD j true = listed.getD j false := fun listed j hs hj => by
    have : j < listed.size := by omega
    simp [this]
  have done : ∀ (listed : Array Bool) (val : Nat → Value) (a : Act) (w : World), listed.size = ops.size → Region.ready .any ops listed = [] → R ops.size ops.size w0 w → a.defers = a0.defers → a.tmps.size = a0.tmps.size →
      (∀ j d, listed.getD j false = true → dstOf ops j = some d → a.tmps.getD d undef = val j) →
      (∀ t, (∀ j, listed.getD j false = true → dstOf ops j ≠ some t) → a.tmps.getD t undef = a0.tmps.getD t undef) →
      (∀ j, j < ops.size → listed.getD j false = true → Held R V ops.size j (val j) w) → Q .normal a w := by
    intro listed val a w hs hr hR hd hsz hv hf hH
    have all : ∀ j, j < ops.size → listed.getD j false = true := by
      intro j
      induction j using Nat.strongRecOn with
      | _ j ih =>
        intro hj
        cases hl : listed.getD j false with
        | true => rfl
        | false =>
          exfalso
          have ho : ops[j]? = some ops[j] := Array.getElem?_eq_getElem hj
          have F := fit_spec hfit ho
          have hm : j ∈ Region.ready .any ops listed := mem_ready.2 ⟨by rw [both listed j hs hj]; exact hl, ops[j], ho, fun e he hbi => by
            have hep : e.on ∈ pl ops[j] := List.mem_map.2 ⟨e, List.mem_filter.2 ⟨by simpa using he, hbi⟩, rfl⟩
            have := F.down _ hep
            exact ih e.on this (by omega)⟩
          rw [hr] at hm
          cases hm
    have ha : a = puts ops val (List.range ops.size) a0 := by
      have hat : a.tmps = (puts ops val (List.range ops.size) a0).tmps := by
        refine Array.ext (by rw [size_puts, hsz]) fun t h1 h2 => ?_
        have key : a.tmps.getD t undef = (puts ops val (List.range ops.size) a0).tmps.getD t undef := by
          by_cases hj : ∃ j, dstOf ops j = some t
          · obtain ⟨j, hj⟩ := hj
            have hjl := dstOf_lt hj
            rw [hv j t (all j hjl) hj]
            refine (get_puts_some val t j _ a0 (by omega) hj (fun k hk hkt => ?_) (.inl (List.mem_range.2 hjl))).symm
            have F := fit_spec hfit (Array.getElem?_eq_getElem hjl)
            cases Nat.decEq k j with
            | isTrue e => exact e
            | isFalse ne =>
              have hdj : (ops[j]).dst = some t := by unfold dstOf at hj; rw [Array.getElem?_eq_getElem hjl] at hj; simpa using hj
              exact absurd hkt (F.own k t ne hdj)
          · rw [hf t (fun j _ hjt => hj ⟨j, hjt⟩), get_puts_none val t _ a0 (fun j _ hjt => hj ⟨j, hjt⟩)]
        simp only [Array.getD_eq_getD_getElem?, Array.getElem?_eq_getElem h1, Array.getElem?_eq_getElem h2, Option.getD_some] at key
        exact key
      have had : a.defers = (puts ops val (List.range ops.size) a0).defers := by rw [defers_puts]; exact hd
      cases a
      cases hp : puts ops val (List.range ops.size) a0
      rw [hp] at hat had
      simp only at hat had
      rw [hat, had]
    rw [ha]
    exact fin val w hR fun j hj => hH j hj (all j hj)
  induction fuel with
  | zero =>
    intro listed val a w hs hn hR hd hsz hv hf hH hc
    have hr : Region.ready .any ops listed = [] := by
      cases hh : Region.ready .any ops listed with
      | nil => rfl
      | cons i rs =>
        exfalso
        have hm : i ∈ Region.ready .any ops listed := by rw [hh]; exact List.mem_cons_self
        obtain ⟨h0, o, ho, _⟩ := mem_ready.1 hm
        have hi := (Array.getElem?_eq_some_iff.1 ho).1
        have : i ∈ (List.range ops.size).filter fun j => !listed.getD j true := List.mem_filter.2 ⟨List.mem_range.2 hi, by simp [h0]⟩
        have hl := List.length_pos_of_mem this
        omega
    exact ⟨hr, done listed val a w hs hr (hR _ (.inl rfl)) hd hsz hv hf (hH _ (.inl rfl))⟩
  | succ fuel ih =>
    intro listed val a w hs hn hR hd hsz hv hf hH hc
    refine ⟨fun hr => done listed val a w hs hr (hR _ (.inl rfl)) hd hsz hv hf (hH _ (.inl rfl)), fun i hi => ?_⟩
    obtain ⟨h0, o, ho, hall⟩ := mem_ready.1 hi
    have hil := (Array.getElem?_eq_some_iff.1 ho).1
    have F := fit_spec hfit ho
    have hun : listed.getD i false = false := by rw [← both listed i hs hil]; exact h0
    have hpl : ∀ j ∈ pl o, listed.getD j false = true := fun j hj => by
      obtain ⟨e, he, rfl⟩ := List.mem_map.1 hj
      obtain ⟨h1, h2⟩ := List.mem_filter.1 he
      exact hall e (by simpa using h1) h2
    have hst := steps.at i o (by rw [← ho]; simp)
    rw [Nat.zero_add] at hst
    have hlook : ∀ t ∈ o.looksAt ops, (a.tmps[t]?).getD undef = aval ops val a0 o t := fun t ht => by
      rw [← Array.getD_eq_getD_getElem?]
      unfold aval
      cases hfd : (pl o).find? (fun j => dstOf ops j == some t) with
      | some j =>
        have h1 := List.mem_of_find?_eq_some hfd
        have h2 : dstOf ops j = some t := by simpa using List.find?_some hfd
        exact hv j t (hpl j h1) h2
      | none =>
        rcases F.looks t ht with ⟨j, hj, hjt⟩ | hno
        · have := List.find?_eq_none.1 hfd j hj
          simp [hjt] at this
        · exact hf t fun j hj hjt => by
            rcases hno j hjt with rfl | h
            · rw [hun] at hj; cases hj
            · have := hc j i hj h
              rw [hun] at this; cases this
    refine (hst val a w (hR i (.inr ⟨hil, hun⟩)) (fun j hj => hH i (.inr ⟨hil, hun⟩) j (Nat.lt_trans (F.down j hj) hil) (hpl j hj)) hlook _ fun v w' hV hRw => ?_).wpOp ho
    · have hm : V i v w' ∧ Does ops ops.size R i w w' := ⟨hV, hRw⟩
      clear hV hRw
      obtain ⟨hV, hRw⟩ := hm
      have hset : ∀ j, (listed.setIfInBounds i true).getD j false = true → j = i ∨ listed.getD j false = true := fun j hj => by
        by_cases hji : i = j
        · exact .inl hji.symm
        · rw [getD_set_ne false hji] at hj; exact .inr hj
      have hseti : (listed.setIfInBounds i true).getD i false = true := by simp [show i < listed.size by omega]
      have hkk : ∀ k, (k = ops.size ∨ k < ops.size ∧ (listed.setIfInBounds i true).getD k false = false) → (k = ops.size ∨ k < ops.size ∧ listed.getD k false = false) ∧ ∀ j, (j = ops.size ∨ j ≠ i ∧ ahead ops i j = false) → R j k w w' := fun k hk => by
        rcases hk with rfl | ⟨h1, h2⟩
        · exact ⟨.inl rfl, fun j hj => hRw j _ hj (.inl rfl)⟩
        · have hki : k ≠ i := fun e => by subst e; rw [hseti] at h2; cases h2
          have hl : listed.getD k false = false := by rw [getD_set_ne false (fun e => hki e.symm)] at h2; exact h2
          refine ⟨.inr ⟨h1, hl⟩, fun j hj => hRw j k hj (.inr ⟨hki, ?_⟩)⟩
          cases hah : ahead ops k i with
          | false => rfl
          | true =>
            exfalso
            obtain ⟨e, he, h | h⟩ := F.close k hah
            · subst h; rw [hpl e he] at hl; cases hl
            · rw [hc e k (hpl e he) h] at hl; cases hl
      refine ih (listed.setIfInBounds i true) (fun j => if j = i then v else val j) (a.put o.dst v) w' (by simpa using hs) ?_ (fun k hk => htr _ k _ _ _ (hR k (hkk k hk).1) ((hkk k hk).2 _ (.inl rfl))) (by rw [defers_put]; exact hd) (by rw [size_put]; exact hsz) ?_ ?_ ?_ ?_
      · have hsub : ((List.range ops.size).filter fun j => !(listed.setIfInBounds i true).getD j true).length < ((List.range ops.size).filter fun j => !listed.getD j true).length := by
          have e1 : ((List.range ops.size).filter fun j => !(listed.setIfInBounds i true).getD j true) = ((List.range ops.size).filter fun j => !listed.getD j true).filter fun j => decide (j ≠ i) := by
            rw [List.filter_filter]
            refine List.filter_congr fun j hj => ?_
            by_cases hji : i = j
            · subst hji; simp [show i < listed.size by omega]
            · have hji' : j ≠ i := fun e => hji e.symm
              rw [getD_set_ne true hji]; simp [hji']
          rw [e1]
          refine List.length_filter_lt_length_iff_exists.2 ⟨i, List.mem_filter.2 ⟨List.mem_range.2 hil, by simp [h0]⟩, by simp⟩
        omega
      · intro j d hj hjd
        by_cases hji : j = i
        · subst hji
          have hdo : o.dst = some d := by unfold dstOf at hjd; rw [ho] at hjd; simpa using hjd
          rw [hdo, get_put_same _ _ _ (by rw [hsz]; exact F.lt d hdo), if_pos rfl]
        · have hjl := (hset j hj).resolve_left hji
          rw [if_neg hji, get_put_other _ _ _ _ (fun e => F.own j d hji e hjd)]
          exact hv j d hjl hjd
      · intro t ht
        rw [get_put_other _ _ _ _ (fun e => ht i hseti (by unfold dstOf; rw [ho]; exact e))]
        exact hf t fun j hj => ht j (by
          by_cases hji : i = j
          · subst hji; exact hseti
          · rw [getD_set_ne false hji]; exact hj)
      · intro k hk j hjo hj
        by_cases hji : j = i
        · subst hji
          rw [if_pos rfl]
          exact ⟨w', hV, hrefl _ k w'⟩
        · rw [if_neg hji]
          have hjl := (hset j hj).resolve_left hji
          obtain ⟨wj, h1, h3⟩ := hH k (hkk k hk).1 j hjo hjl
          refine ⟨wj, h1, htr j k _ _ _ h3 ((hkk k hk).2 j (.inr ⟨hji, ?_⟩))⟩
          cases hah : ahead ops i j with
          | false => rfl
          | true => have := hc j i hjl hah; rw [hun] at this; cases this
      · intro j k hj hk
        by_cases hki : k = i
        · subst hki; exact hseti
        · have : listed.getD k false = true := by
            rcases hset j hj with rfl | hjl
            · obtain ⟨e, he, h | h⟩ := F.close k hk
              · subst h; exact hpl e he
              · exact hc e k (hpl e he) h
            · exact hc j k hjl hk
          rw [getD_set_ne false (fun e => hki e.symm)]; exact this

/-- all that a region leaves in its slots -/
def lay (val : Nat → Value) : List (Option Tmp) → Nat → Act → Act
  | [], _, a => a
  | d :: r, k, a => lay val r (k + 1) (a.put d (val k))
theorem puts_lay (val : Nat → Value) (n : Nat) : ∀ (k : Nat) (a : Act), k + n = ops.size → puts ops val (List.range' k n) a = lay val ((ops.toList.drop k).map (·.dst)) k a := by
  induction n with
  | zero =>
    intro k a h
    rw [List.drop_eq_nil_of_le (by simp; omega)]
    rfl
  | succ n ih =>
    intro k a h
    have hk : k < ops.toList.length := by simp; omega
    rw [List.range'_succ, List.drop_eq_getElem_cons hk]
    simp only [puts, List.map_cons, lay]
    rw [ih (k + 1) _ (by omega)]
    congr 1
    unfold dstOf
    rw [Array.getElem?_eq_getElem (by simpa using hk)]
    simp
/-- THE RULE. -/
theorem wp_region_rel {id : Nat} {Q : Exit → Act → World → Prop} {w1 : World} (hm : P.follows .mixedOrders = true) (size n : Nat) (hsz : a0.tmps.size = size) (hn : ops.size = n) (hfit : fit ops size = true)
    (R : Nat → Nat → World → World → Prop) (hrefl : ∀ j k w, R j k w w) (htr : ∀ j k a b c, R j k a b → R j k b c → R j k a c) (V : Nat → Value → World → Prop)
    (steps : Steps P ops n R V a0 w1.drew 0 ops.toList)
    (fin : ∀ (val : Nat → Value) (w : World), R n n w1.drew w → (∀ j, j < n → Held R V n j (val j) w) → Q .normal (lay val (ops.toList.map (·.dst)) 0 a0) w) :
    (Code.region id ops true).wp P Q a0 w1 := by
  subst hsz
  subst hn
  refine wp_region_any hm ?_
  refine wpAny_rel (w0 := w1.drew) (R := R) (V := V) hfit hrefl htr steps (fun val w h1 h2 => by rw [List.range_eq_range', puts_lay val ops.size 0 a0 (by omega), List.drop_zero]; exact fin val w h1 h2) ops.size (Array.replicate ops.size false) (fun _ => undef) a0 w1.drew (by simp) ?_ (fun k _ => hrefl _ k _) rfl rfl ?_ ?_ ?_ ?_
  · exact Nat.le_trans (List.length_filter_le _ _) (by simp)
  · intro j d hj; simp [Array.getElem?_replicate] at hj; split at hj <;> simp at hj
  · intro t _; rfl
  · intro k _ j hj h; simp [hj] at h
  · intro j k hj; simp [Array.getElem?_replicate] at hj; split at hj <;> simp at hj
end

/-- where nothing that is there is turned -/
def Adds (_ _ : Nat) (u v : World) : Prop := Below u.heap.size u v
theorem Adds.refl (j k : Nat) (w : World) : Adds j k w w := Below.refl _ _
theorem Adds.trans (j k : Nat) (a b c : World) (h : Adds j k a b) (h2 : Adds j k b c) : Adds j k a c := Below.trans h (Below.mono h2 h.size)
/-- where operation m (of n) alone turns what is there, and that from block B on; all behind it in the text goes behind it -/
def One (m n B j k : Nat) (u v : World) : Prop := if (m ≤ j ∧ j < n) ∨ k = m then Below u.heap.size u v else Below B u v
theorem One.refl (m n B j k : Nat) (w : World) : One m n B j k w w := by unfold One; split <;> exact Below.refl _ _
theorem One.trans (m n B j k : Nat) (a b c : World) (h : One m n B j k a b) (h2 : One m n B j k b c) : One m n B j k a c := by
  unfold One at *
  by_cases hc : (m ≤ j ∧ j < n) ∨ k = m
  · rw [if_pos hc] at *; exact Below.trans h (Below.mono h2 h.size)
  · rw [if_neg hc] at *; exact Below.trans h h2
theorem One.adds {m n B j k : Nat} {u v : World} (h : Below u.heap.size u v) (hB : B ≤ u.heap.size) : One m n B j k u v := by
  unfold One; split
  · exact h
  · exact h.mono hB
theorem One.weak {m n B j k : Nat} {u v : World} (h : One m n B j k u v) (hB : B ≤ u.heap.size) : Below B u v := by
  unfold One at h; split at h
  · exact h.mono hB
  · exact h
theorem One.toM {m n B j : Nat} {u v : World} (h : One m n B j m u v) : Below u.heap.size u v := by
  unfold One at h; rwa [if_pos (.inr rfl)] at h
theorem One.fromM {m n B j k : Nat} {u v : World} (h : One m n B j k u v) (hm : m ≤ j) (hn : j < n) : Below u.heap.size u v := by
  unfold One at h; rwa [if_pos (.inl ⟨hm, hn⟩)] at h
theorem One.writer {m n B : Nat} {ops : Array Oper} {u v : World} (h : Below B u v) (hm : m < n) (hall : (List.range n).all (fun j => decide (j ≤ m) || ahead ops m j) = true) : Does ops n (One m n B) m u v := by
  intro j k hj hk
  unfold One
  rw [if_neg]
  · exact h
  · rintro (⟨h1, h2⟩ | rfl)
    · rcases hj with h | ⟨h3, h4⟩
      · omega
      · have := List.all_eq_true.1 hall j (List.mem_range.2 h2)
        rw [h4] at this
        simp at this
        omega
    · rcases hk with h | h
      · omega
      · exact h.1 rfl
theorem eval_of {a : Act} {t : Nat} {v : Value} (h : (a.tmps[t]?).getD undef = v) : a.eval (.tmp t) = v := by
  show a.tmps.getD t undef = v
  rw [Array.getD_eq_getD_getElem?]; exact h
theorem cell_up {w : World} {p : Addr} {v : Value} (h : w.cell? p = some v) (o : Obj) : (w.alloc o).cell? p = some v := by
  rw [World.cell?_alloc_lt w o p (World.block_lt_of_cell? w p h)]; exact h
theorem drew_cell (w : World) (p : Addr) : w.drew.cell? p = w.cell? p := rfl
theorem below_new (w : World) (o : Obj) : Below w.heap.size w (w.alloc o) := (Below.refl _ _).alloc (Nat.le_refl _) o
end Reg
#print axioms Reg.wp_region_rel
end Go.Proofs.Ytfafehffnjbhnaa
