/- The rule for a region that draws its order, where an operation's fact may speak of what it found in its slots (a store: where it wrote). Plain lemmas over any program. -/
import Derived.Test.YtfafehffnjbhnaaReg
namespace Go.Proofs.Ytfafehffnjbhnaa
set_option linter.unusedVariables false
set_option linter.unusedSimpArgs false
open Go.RowKit
namespace Reg
section
variable {P : Program} {ops : Array Oper} {R : Nat → Nat → World → World → Prop} {V : Nat → (Nat → Value) → Value → World → Prop} {a0 : Act} {w0 : World} {n : Nat}
def HeldF (R : Nat → Nat → World → World → Prop) (V : Nat → (Nat → Value) → Value → World → Prop) (i : Nat) (j : Nat) (f : Nat → Value) (v : Value) (w : World) : Prop := ∃ wj, V j f v wj ∧ R j i wj w
/-- what operation j found -/
def fnd (ops : Array Oper) (val : Nat → Value) (a0 : Act) (j : Nat) (t : Nat) : Value := match ops[j]? with
  | some o => aval ops val a0 o t
  | none => undef
theorem aval_congr {val val' : Nat → Value} {o : Oper} (h : ∀ j ∈ pl o, val j = val' j) : aval ops val a0 o = aval ops val' a0 o := by
  funext t
  unfold aval
  cases hf : (pl o).find? (fun j => dstOf ops j == some t) with
  | none => rfl
  | some j => exact h j (List.mem_of_find?_eq_some hf)
theorem fnd_at {val : Nat → Value} {i : Nat} {o : Oper} (h : ops[i]? = some o) : fnd ops val a0 i = aval ops val a0 o := by funext t; unfold fnd; rw [h]
def StepAtF (P : Program) (ops : Array Oper) (n : Nat) (R : Nat → Nat → World → World → Prop) (V : Nat → (Nat → Value) → Value → World → Prop) (a0 : Act) (w0 : World) (i : Nat) (o : Oper) : Prop :=
  ∀ (val : Nat → Value) (a : Act) (w : World), R n i w0 w → (∀ j ∈ pl o, HeldF R V i j (fnd ops val a0 j) (val j) w) → (∀ t ∈ o.looksAt ops, (a.tmps[t]?).getD undef = aval ops val a0 o t) →
    ∀ K : Act → World → Prop, (∀ v w', V i (aval ops val a0 o) v w' → Does ops n R i w w' → K (a.put o.dst v) w') → Op1 P ops o a w K
inductive StepsF (P : Program) (ops : Array Oper) (n : Nat) (R : Nat → Nat → World → World → Prop) (V : Nat → (Nat → Value) → Value → World → Prop) (a0 : Act) (w0 : World) : Nat → List Oper → Prop
  | nil (i : Nat) : StepsF P ops n R V a0 w0 i []
  | cons {i : Nat} {o : Oper} {l : List Oper} (h : StepAtF P ops n R V a0 w0 i o) (t : StepsF P ops n R V a0 w0 (i + 1) l) : StepsF P ops n R V a0 w0 i (o :: l)

theorem StepsF.at {l : List Oper} : ∀ {k : Nat}, StepsF P ops n R V a0 w0 k l → ∀ (i : Nat) (o : Oper), l[i]? = some o → StepAtF P ops n R V a0 w0 (k + i) o := by
  induction l with
  | nil => intro k _ i o h; simp at h
  | cons x l ih =>
    intro k h i o ho
    cases h with
    | cons h1 h2 =>
      cases i with
      | zero => simp at ho; subst ho; exact h1
      | succ i =>
        have := ih h2 i o (by simpa using ho)
        rwa [show k + 1 + i = k + (i + 1) by omega] at this

theorem wpAny_relF (hfit : fit ops a0.tmps.size = true) (hrefl : ∀ j k w, R j k w w) (htr : ∀ j k a b c, R j k a b → R j k b c → R j k a c) {Q : Exit → Act → World → Prop}
    (steps : StepsF P ops ops.size R V a0 w0 0 ops.toList)
    (fin : ∀ (val : Nat → Value) (w : World), R ops.size ops.size w0 w → (∀ j, j < ops.size → HeldF R V ops.size j (fnd ops val a0 j) (val j) w) → Q .normal (puts ops val (List.range ops.size) a0) w) :
    ∀ (fuel : Nat) (listed : Array Bool) (val : Nat → Value) (a : Act) (w : World),
      listed.size = ops.size → ((List.range ops.size).filter fun j => !listed.getD j true).length ≤ fuel →
      (∀ k, (k = ops.size ∨ k < ops.size ∧ listed.getD k false = false) → R ops.size k w0 w) → a.defers = a0.defers → a.tmps.size = a0.tmps.size →
      (∀ j d, listed.getD j false = true → dstOf ops j = some d → a.tmps.getD d undef = val j) →
      (∀ t, (∀ j, listed.getD j false = true → dstOf ops j ≠ some t) → a.tmps.getD t undef = a0.tmps.getD t undef) →
      (∀ k, (k = ops.size ∨ k < ops.size ∧ listed.getD k false = false) → ∀ j, j < ops.size → listed.getD j false = true → HeldF R V k j (fnd ops val a0 j) (val j) w) →
      (∀ j k, listed.getD j false = true → ahead ops k j = true → listed.getD k false = true) →
      (∀ j o, listed.getD j false = true → ops[j]? = some o → ∀ e ∈ pl o, listed.getD e false = true) →
      wpAny P .any ops Q fuel listed a w := by
  intro fuel
  have both : ∀ (listed : Array Bool) (j : Nat), listed.size = ops.size → j < ops.size → listed.getD j true = listed.getD j false := fun listed j hs hj => by
    have : j < listed.size := by omega
    simp [this]
  have done : ∀ (listed : Array Bool) (val : Nat → Value) (a : Act) (w : World), listed.size = ops.size → Region.ready .any ops listed = [] → R ops.size ops.size w0 w → a.defers = a0.defers → a.tmps.size = a0.tmps.size →
      (∀ j d, listed.getD j false = true → dstOf ops j = some d → a.tmps.getD d undef = val j) →
      (∀ t, (∀ j, listed.getD j false = true → dstOf ops j ≠ some t) → a.tmps.getD t undef = a0.tmps.getD t undef) →
      (∀ j, j < ops.size → listed.getD j false = true → HeldF R V ops.size j (fnd ops val a0 j) (val j) w) → Q .normal a w := by
    intro listed val a w hs hr hR hd hsz hv hf hH
    have all : ∀ j, j < ops.size → listed.getD j false = true := by
      intro j
      induction j using Nat.strongRecOn with
      | _ j ih =>
        intro hj
        cases hl : listed.getD j false with
        | true => rfl
        | false =>
          exfalso
          have ho : ops[j]? = some ops[j] := Array.getElem?_eq_getElem hj
          have F := fit_spec hfit ho
          have hm : j ∈ Region.ready .any ops listed := mem_ready.2 ⟨by rw [both listed j hs hj]; exact hl, ops[j], ho, fun e he hbi => by
            have hep : e.on ∈ pl ops[j] := List.mem_map.2 ⟨e, List.mem_filter.2 ⟨by simpa using he, hbi⟩, rfl⟩
            have := F.down _ hep
            exact ih e.on this (by omega)⟩
          rw [hr] at hm
          cases hm
    have ha : a = puts ops val (List.range ops.size) a0 := by
      have hat : a.tmps = (puts ops val (List.range ops.size) a0).tmps := by
        refine Array.ext (by rw [size_puts, hsz]) fun t h1 h2 => ?_
        have key : a.tmps.getD t undef = (puts ops val (List.range ops.size) a0).tmps.getD t undef := by
          by_cases hj : ∃ j, dstOf ops j = some t
          · obtain ⟨j, hj⟩ := hj
            have hjl := dstOf_lt hj
            rw [hv j t (all j hjl) hj]
            refine (get_puts_some val t j _ a0 (by omega) hj (fun k hk hkt => ?_) (.inl (List.mem_range.2 hjl))).symm
            have F := fit_spec hfit (Array.getElem?_eq_getElem hjl)
            cases Nat.decEq k j with
            | isTrue e => exact e
            | isFalse ne =>
              have hdj : (ops[j]).dst = some t := by unfold dstOf at hj; rw [Array.getElem?_eq_getElem hjl] at hj; simpa using hj
              exact absurd hkt (F.own k t ne hdj)
          · rw [hf t (fun j _ hjt => hj ⟨j, hjt⟩), get_puts_none val t _ a0 (fun j _ hjt => hj ⟨j, hjt⟩)]
        simp only [Array.getD_eq_getD_getElem?, Array.getElem?_eq_getElem h1, Array.getElem?_eq_getElem h2, Option.getD_some] at key
        exact key
      have had : a.defers = (puts ops val (List.range ops.size) a0).defers := by rw [defers_puts]; exact hd
      cases a
      cases hp : puts ops val (List.range ops.size) a0
      rw [hp] at hat had
      simp only at hat had
      rw [hat, had]
    rw [ha]
    exact fin val w hR fun j hj => hH j hj (all j hj)
  induction fuel with
  | zero =>
    intro listed val a w hs hn hR hd hsz hv hf hH hc hq
    have hr : Region.ready .any ops listed = [] := by
      cases hh : Region.ready .any ops listed with
      | nil => rfl
      | cons i rs =>
        exfalso
        have hm : i ∈ Region.ready .any ops listed := by rw [hh]; exact List.mem_cons_self
        obtain ⟨h0, o, ho, _⟩ := mem_ready.1 hm
        have hi := (Array.getElem?_eq_some_iff.1 ho).1
        have : i ∈ (List.range ops.size).filter fun j => !listed.getD j true := List.mem_filter.2 ⟨List.mem_range.2 hi, by simp [h0]⟩
        have hl := List.length_pos_of_mem this
        omega
    exact ⟨hr, done listed val a w hs hr (hR _ (.inl rfl)) hd hsz hv hf (hH _ (.inl rfl))⟩
  | succ fuel ih =>
    intro listed val a w hs hn hR hd hsz hv hf hH hc hq
    refine ⟨fun hr => done listed val a w hs hr (hR _ (.inl rfl)) hd hsz hv hf (hH _ (.inl rfl)), fun i hi => ?_⟩
    obtain ⟨h0, o, ho, hall⟩ := mem_ready.1 hi
    have hil := (Array.getElem?_eq_some_iff.1 ho).1
    have F := fit_spec hfit ho
    have hun : listed.getD i false = false := by rw [← both listed i hs hil]; exact h0
    have hpl : ∀ j ∈ pl o, listed.getD j false = true := fun j hj => by
      obtain ⟨e, he, rfl⟩ := List.mem_map.1 hj
      obtain ⟨h1, h2⟩ := List.mem_filter.1 he
      exact hall e (by simpa using h1) h2
    have hst := steps.at i o (by rw [← ho]; simp)
    rw [Nat.zero_add] at hst
    have hlook : ∀ t ∈ o.looksAt ops, (a.tmps[t]?).getD undef = aval ops val a0 o t := fun t ht => by
      rw [← Array.getD_eq_getD_getElem?]
      unfold aval
      cases hfd : (pl o).find? (fun j => dstOf ops j == some t) with
      | some j =>
        have h1 := List.mem_of_find?_eq_some hfd
        have h2 : dstOf ops j = some t := by simpa using List.find?_some hfd
        exact hv j t (hpl j h1) h2
      | none =>
        rcases F.looks t ht with ⟨j, hj, hjt⟩ | hno
        · have := List.find?_eq_none.1 hfd j hj
          simp [hjt] at this
        · exact hf t fun j hj hjt => by
            rcases hno j hjt with rfl | h
            · rw [hun] at hj; cases hj
            · have := hc j i hj h
              rw [hun] at this; cases this
    refine (hst val a w (hR i (.inr ⟨hil, hun⟩)) (fun j hj => hH i (.inr ⟨hil, hun⟩) j (Nat.lt_trans (F.down j hj) hil) (hpl j hj)) hlook _ fun v w' hV hRw => ?_).wpOp ho
    · have hm : V i (aval ops val a0 o) v w' ∧ Does ops ops.size R i w w' := ⟨hV, hRw⟩
      clear hV hRw
      obtain ⟨hV, hRw⟩ := hm
      have hset : ∀ j, (listed.setIfInBounds i true).getD j false = true → j = i ∨ listed.getD j false = true := fun j hj => by
        by_cases hji : i = j
        · exact .inl hji.symm
        · rw [getD_set_ne false hji] at hj; exact .inr hj
      have hseti : (listed.setIfInBounds i true).getD i false = true := by simp [show i < listed.size by omega]
      have hkk : ∀ k, (k = ops.size ∨ k < ops.size ∧ (listed.setIfInBounds i true).getD k false = false) → (k = ops.size ∨ k < ops.size ∧ listed.getD k false = false) ∧ ∀ j, (j = ops.size ∨ j ≠ i ∧ ahead ops i j = false) → R j k w w' := fun k hk => by
        rcases hk with rfl | ⟨h1, h2⟩
        · exact ⟨.inl rfl, fun j hj => hRw j _ hj (.inl rfl)⟩
        · have hki : k ≠ i := fun e => by subst e; rw [hseti] at h2; cases h2
          have hl : listed.getD k false = false := by rw [getD_set_ne false (fun e => hki e.symm)] at h2; exact h2
          refine ⟨.inr ⟨h1, hl⟩, fun j hj => hRw j k hj (.inr ⟨hki, ?_⟩)⟩
          cases hah : ahead ops k i with
          | false => rfl
          | true =>
            exfalso
            obtain ⟨e, he, h | h⟩ := F.close k hah
            · subst h; rw [hpl e he] at hl; cases hl
            · rw [hc e k (hpl e he) h] at hl; cases hl
      refine ih (listed.setIfInBounds i true) (fun j => if j = i then v else val j) (a.put o.dst v) w' (by simpa using hs) ?_ (fun k hk => htr _ k _ _ _ (hR k (hkk k hk).1) ((hkk k hk).2 _ (.inl rfl))) (by rw [defers_put]; exact hd) (by rw [size_put]; exact hsz) ?_ ?_ ?_ ?_ ?_
      · have hsub : ((List.range ops.size).filter fun j => !(listed.setIfInBounds i true).getD j true).length < ((List.range ops.size).filter fun j => !listed.getD j true).length := by
          have e1 : ((List.range ops.size).filter fun j => !(listed.setIfInBounds i true).getD j true) = ((List.range ops.size).filter fun j => !listed.getD j true).filter fun j => decide (j ≠ i) := by
            rw [List.filter_filter]
            refine List.filter_congr fun j hj => ?_
            by_cases hji : i = j
            · subst hji; simp [show i < listed.size by omega]
            · have hji' : j ≠ i := fun e => hji e.symm
              rw [getD_set_ne true hji]; simp [hji']
          rw [e1]
          refine List.length_filter_lt_length_iff_exists.2 ⟨i, List.mem_filter.2 ⟨List.mem_range.2 hil, by simp [h0]⟩, by simp⟩
        omega
      · intro j d hj hjd
        by_cases hji : j = i
        · subst hji
          have hdo : o.dst = some d := by unfold dstOf at hjd; rw [ho] at hjd; simpa using hjd
          rw [hdo, get_put_same _ _ _ (by rw [hsz]; exact F.lt d hdo), if_pos rfl]
        · have hjl := (hset j hj).resolve_left hji
          rw [if_neg hji, get_put_other _ _ _ _ (fun e => F.own j d hji e hjd)]
          exact hv j d hjl hjd
      · intro t ht
        rw [get_put_other _ _ _ _ (fun e => ht i hseti (by unfold dstOf; rw [ho]; exact e))]
        exact hf t fun j hj => ht j (by
          by_cases hji : i = j
          · subst hji; exact hseti
          · rw [getD_set_ne false hji]; exact hj)
      · intro k hk j hjo hj
        by_cases hji : j = i
        · subst hji
          rw [if_pos rfl, fnd_at ho]
          have hc' : aval ops (fun q => if q = j then v else val q) a0 o = aval ops val a0 o := aval_congr fun e he => if_neg (by have := F.down e he; omega)
          rw [hc']
          exact ⟨w', hV, hrefl _ k w'⟩
        · rw [if_neg hji]
          have hjl := (hset j hj).resolve_left hji
          have hfj : fnd ops (fun q => if q = i then v else val q) a0 j = fnd ops val a0 j := by
            rw [fnd_at (Array.getElem?_eq_getElem hjo), fnd_at (Array.getElem?_eq_getElem hjo)]
            exact aval_congr fun e he => if_neg (fun h => by have := hq j _ hjl (Array.getElem?_eq_getElem hjo) e he; rw [h, hun] at this; cases this)
          rw [hfj]
          obtain ⟨wj, h1, h3⟩ := hH k (hkk k hk).1 j hjo hjl
          refine ⟨wj, h1, htr j k _ _ _ h3 ((hkk k hk).2 j (.inr ⟨hji, ?_⟩))⟩
          cases hah : ahead ops i j with
          | false => rfl
          | true => have := hc j i hjl hah; rw [hun] at this; cases this
      · intro j k hj hk
        by_cases hki : k = i
        · subst hki; exact hseti
        · have : listed.getD k false = true := by
            rcases hset j hj with rfl | hjl
            · obtain ⟨e, he, h | h⟩ := F.close k hk
              · subst h; exact hpl e he
              · exact hc e k (hpl e he) h
            · exact hc j k hjl hk
          rw [getD_set_ne false (fun e => hki e.symm)]; exact this
      · intro j oj hj hoj e he
        have hl : listed.getD e false = true := by
          rcases hset j hj with rfl | hjl
          · obtain rfl : oj = o := Option.some.inj (hoj.symm.trans ho)
            exact hpl e he
          · exact hq j oj hjl hoj e he
        rw [getD_set_ne false (fun h => by rw [← h, hun] at hl; cases hl)]
        exact hl

/-- THE RULE. -/
theorem wp_region_relF {id : Nat} {Q : Exit → Act → World → Prop} {w1 : World} (hm : P.follows .mixedOrders = true) (size n : Nat) (hsz : a0.tmps.size = size) (hn : ops.size = n) (hfit : fit ops size = true)
    (R : Nat → Nat → World → World → Prop) (hrefl : ∀ j k w, R j k w w) (htr : ∀ j k a b c, R j k a b → R j k b c → R j k a c) (V : Nat → (Nat → Value) → Value → World → Prop)
    (steps : StepsF P ops n R V a0 w1.drew 0 ops.toList)
    (fin : ∀ (val : Nat → Value) (w : World), R n n w1.drew w → (∀ j, j < n → HeldF R V n j (fnd ops val a0 j) (val j) w) → Q .normal (lay val (ops.toList.map (·.dst)) 0 a0) w) :
    (Code.region id ops true).wp P Q a0 w1 := by
  subst hsz
  subst hn
  refine wp_region_any hm ?_
  refine wpAny_relF (w0 := w1.drew) (R := R) (V := V) hfit hrefl htr steps (fun val w h1 h2 => by rw [List.range_eq_range', puts_lay val ops.size 0 a0 (by omega), List.drop_zero]; exact fin val w h1 h2) ops.size (Array.replicate ops.size false) (fun _ => undef) a0 w1.drew (by simp) ?_ (fun k _ => hrefl _ k _) rfl rfl ?_ ?_ ?_ ?_ ?_
  · exact Nat.le_trans (List.length_filter_le _ _) (by simp)
  · intro j d hj; simp [Array.getElem?_replicate] at hj; split at hj <;> simp at hj
  · intro t _; rfl
  · intro k _ j hj h; simp [hj] at h
  · intro j k hj; simp [Array.getElem?_replicate] at hj; split at hj <;> simp at hj
  · intro j o hj; simp [Array.getElem?_replicate] at hj; split at hj <;> simp at hj
end
/-- where operation m (of n) alone turns what is there, and that from block B on; all behind it in the text goes behind it, those of the list ahead of it -/
def One2 (m n B : Nat) (l : List Nat) (j k : Nat) (u v : World) : Prop := if (m ≤ j ∧ j < n) ∨ k = m ∨ l.contains k = true then Below u.heap.size u v else Below B u v
theorem One2.refl (m n B : Nat) (l : List Nat) (j k : Nat) (w : World) : One2 m n B l j k w w := by unfold One2; split <;> exact Below.refl _ _
theorem One2.trans (m n B : Nat) (l : List Nat) (j k : Nat) (a b c : World) (h : One2 m n B l j k a b) (h2 : One2 m n B l j k b c) : One2 m n B l j k a c := by
  unfold One2 at *
  by_cases hc : (m ≤ j ∧ j < n) ∨ k = m ∨ l.contains k = true
  · rw [if_pos hc] at *; exact Below.trans h (Below.mono h2 h.size)
  · rw [if_neg hc] at *; exact Below.trans h h2
theorem One2.adds {m n B j k : Nat} {l : List Nat} {u v : World} (h : Below u.heap.size u v) (hB : B ≤ u.heap.size) : One2 m n B l j k u v := by
  unfold One2; split
  · exact h
  · exact h.mono hB
theorem One2.weak {m n B j k : Nat} {l : List Nat} {u v : World} (h : One2 m n B l j k u v) (hB : B ≤ u.heap.size) : Below B u v := by
  unfold One2 at h; split at h
  · exact h.mono hB
  · exact h
theorem One2.toM {m n B j : Nat} {l : List Nat} {u v : World} (h : One2 m n B l j m u v) : Below u.heap.size u v := by
  unfold One2 at h; rwa [if_pos (.inr (.inl rfl))] at h
theorem One2.toL {m n B j k : Nat} {l : List Nat} {u v : World} (h : One2 m n B l j k u v) (hk : l.contains k = true) : Below u.heap.size u v := by
  unfold One2 at h; rwa [if_pos (.inr (.inr hk))] at h
theorem One2.fromM {m n B j k : Nat} {l : List Nat} {u v : World} (h : One2 m n B l j k u v) (hm : m ≤ j) (hn : j < n) : Below u.heap.size u v := by
  unfold One2 at h; rwa [if_pos (.inl ⟨hm, hn⟩)] at h
theorem One2.writer {m n B : Nat} {l : List Nat} {ops : Array Oper} {u v : World} (h : Below B u v) (hm : m < n) (hall : (List.range n).all (fun j => decide (j ≤ m) || ahead ops m j) = true) (hl : l.all (fun k => decide (k < n) && ahead ops k m) = true) : Does ops n (One2 m n B l) m u v := by
  intro j k hj hk
  unfold One2
  rw [if_neg]
  · exact h
  · rintro (⟨h1, h2⟩ | rfl | h3)
    · rcases hj with h | ⟨h3, h4⟩
      · omega
      · have := List.all_eq_true.1 hall j (List.mem_range.2 h2)
        rw [h4] at this
        simp at this
        omega
    · rcases hk with h | h
      · omega
      · exact h.1 rfl
    · have := List.all_eq_true.1 hl k (by simpa using h3)
      simp only [Bool.and_eq_true, decide_eq_true_eq] at this
      rcases hk with h | h
      · omega
      · rw [h.2] at this; cases this.2
end Reg
#print axioms Reg.wp_region_relF
end Go.Proofs.Ytfafehffnjbhnaa
