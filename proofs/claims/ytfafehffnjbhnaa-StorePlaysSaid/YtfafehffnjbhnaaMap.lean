/- Maps in memory, told by plain lists: the entries, in the order in which they came. Laws of look-up, store, delete, len, range, next. Plain lemmas over any program. -/
import Derived.Test.YtfafehffnjbhnaaKeep
import Derived.Maps.RangeWalk
import Derived.Maps.OwnOps
namespace Go.Proofs.Ytfafehffnjbhnaa
open Go.RowKit Go.ChangeMaps Go.MapKept Go.Maps Go.WideMaps
set_option linter.unusedVariables false
set_option linter.unusedSimpArgs false
namespace Mem
/-- a key's type, told by plain keys -/
structure MKey (P : Program) (k : TypeId) {κ : Type} (K : κ → Value) (ok : κ → Prop) : Prop where
  law : Keyed P k
  inj : ∀ {a b : κ}, K a = K b → a = b
  lit : ∀ {x : κ}, ok x → ∃ l, keyOf P k (K x) = some l
def pairs {κ : Type} (K : κ → Value) (l : List (κ × Value)) : List (Value × Value) := l.map fun p => (K p.1, p.2)
/-- the map in block b has these entries -/
def MapIs {κ : Type} (K : κ → Value) (ok : κ → Prop) (w : World) (b : Nat) (l : List (κ × Value)) : Prop :=
  ∃ es clock, w.heap[b]? = some (.map es clock) ∧ Stamped es clock ∧ es.toList.map (fun e => (e.key, e.val)) = pairs K l ∧ ∀ p ∈ l, ok p.1
/-- a range over it under way: 'left' are still to come, in any order -/
def IterIs {κ : Type} (K : κ → Value) (ok : κ → Prop) (w : World) (b r : Nat) (l left : List (κ × Value)) : Prop :=
  ∃ es clock since seen c0, w.heap[b]? = some (.map es clock) ∧ Stamped es clock ∧ es.toList.map (fun e => (e.key, e.val)) = pairs K l ∧ (∀ p ∈ l, ok p.1) ∧
    w.heap[r]? = some (.mapIter (some b) since seen c0) ∧ (∀ x ∈ es.toList, x.born < since) ∧ since ≤ c0 ∧ since ≤ clock ∧
    (leftOf es seen).toList.map (fun e => (e.key, e.val)) = pairs K left ∧ (∀ p ∈ left, p ∈ l)
def putL {κ : Type} [DecidableEq κ] (l : List (κ × Value)) (x : κ) (v : Value) : List (κ × Value) :=
  if (l.lookup x).isSome then l.map (fun p => if p.1 = x then (x, v) else p) else l ++ [(x, v)]
def delL {κ : Type} [DecidableEq κ] (l : List (κ × Value)) (x : κ) : List (κ × Value) := l.filter fun p => p.1 ≠ x
section
variable {P : Program} {k : TypeId} {κ : Type} {K : κ → Value} {ok : κ → Prop} {w w' : World} {b r : Nat} {l left : List (κ × Value)} {S : Nat → Prop}
theorem filter_erase {α β : Type} [DecidableEq β] (f : α → β) : ∀ {l : List α} {j : Nat} {a : α}, (l.map f).Nodup → l[j]? = some a → l.filter (fun p => decide (f p ≠ f a)) = l.eraseIdx j
  | [], _, _, _, h => by simp at h
  | c :: l, 0, a, hn, h => by
    have hc : c = a := by simpa using h
    subst hc
    rw [List.map_cons, List.nodup_cons] at hn
    rw [List.filter_cons, if_neg (by simp), List.eraseIdx_cons_zero, List.filter_eq_self]
    intro p hp
    have : f p ≠ f c := fun e => hn.1 (List.mem_map.2 ⟨p, hp, e⟩)
    simpa using this
  | c :: l, j + 1, a, hn, h => by
    rw [List.map_cons, List.nodup_cons] at hn
    have h2 : l[j]? = some a := by simpa using h
    have hne : f c ≠ f a := fun e => hn.1 (List.mem_map.2 ⟨a, List.mem_of_getElem? h2, e.symm⟩)
    rw [List.filter_cons, if_pos (by simpa using hne), List.eraseIdx_cons_succ, filter_erase f hn.2 h2]
theorem keys_nodup {es : Array MapEntry} {clock : Nat} (hs : Stamped es clock) (he : es.toList.map (fun e => (e.key, e.val)) = pairs K l) : (l.map (·.1)).Nodup := by
  have h1 : es.toList.map (·.key) = (l.map (·.1)).map K := by
    have := congrArg (List.map Prod.fst) he
    unfold pairs at this
    simpa [List.map_map, Function.comp_def] using this
  have h2 := hs.2.2
  rw [h1] at h2
  unfold List.Nodup at h2 ⊢
  rw [List.pairwise_map] at h2
  exact h2.imp fun h e => h (congrArg K e)
theorem lookup_at [DecidableEq κ] {x : κ} {v : Value} : ∀ {l : List (κ × Value)}, (l.map (·.1)).Nodup → (x, v) ∈ l → l.lookup x = some v
  | [], _, h => by cases h
  | (a, c) :: l, hn, h => by
    rw [List.map_cons, List.nodup_cons] at hn
    rcases List.mem_cons.1 h with h | h
    · cases h; simp
    · have hne : x ≠ a := fun e => hn.1 (List.mem_map.2 ⟨(x, v), h, e⟩)
      rw [List.lookup_cons, show (x == a) = false by simpa using hne]
      exact lookup_at hn.2 h
theorem lookup_no [DecidableEq κ] {x : κ} : ∀ {l : List (κ × Value)}, (∀ p ∈ l, p.1 ≠ x) → l.lookup x = none
  | [], _ => rfl
  | (a, c) :: l, h => by
    have hne : x ≠ a := fun e => h (a, c) List.mem_cons_self e.symm
    rw [List.lookup_cons, show (x == a) = false by simpa using hne]
    exact lookup_no fun p hp => h p (List.mem_cons_of_mem _ hp)
theorem MapIs.nodup (h : MapIs K ok w b l) : (l.map (·.1)).Nodup := by
  obtain ⟨es, clock, _, hs, he, _⟩ := h
  exact keys_nodup hs he
theorem MapIs.lt (h : MapIs K ok w b l) : b < w.heap.size := by
  obtain ⟨es, clock, hb, _⟩ := h
  exact (Array.getElem?_eq_some_iff.1 hb).1
theorem MapIs.keeps (h : MapIs K ok w b l) (hk : Keeps S w w') (hS : ¬ S b) : MapIs K ok w' b l := by
  have hlt := h.lt
  obtain ⟨es, clock, hb, rest⟩ := h
  exact ⟨es, clock, (hk.block b hlt hS).trans hb, rest⟩
theorem MapIs.new (w : World) : MapIs K ok (w.alloc (.map #[] 0)) w.heap.size [] :=
  ⟨#[], 0, (heap_alloc w _).1, stamped_empty 0, rfl, fun p h => by cases h⟩
@[go_sem] theorem run_makeMap (w : World) (t : TypeId) : (Instr.makeMap t none).run P w = .ok (.map (some w.heap.size)) (w.alloc (.map #[] 0)) := by
  simp [Instr.makeMap]
theorem find_es (hK : MKey P k K ok) {es : Array MapEntry} (he : es.toList.map (fun e => (e.key, e.val)) = pairs K l) (ho : ∀ p ∈ l, ok p.1) {x : κ} (hx : ok x) :
    ((Instr.findKey k (K x) es.toList).run P w = .ok none w ∧ (∀ e ∈ es.toList, e.key ≠ K x) ∧ ∀ p ∈ l, p.1 ≠ x) ∨
    ∃ j e, (Instr.findKey k (K x) es.toList).run P w = .ok (some (j, e.val)) w ∧ es.toList[j]? = some e ∧ e.key = K x ∧ l[j]? = some (x, e.val) := by
  obtain ⟨lx, hlx⟩ := hK.lit hx
  have hall : ∀ e ∈ es.toList, ∃ l, keyOf P k e.key = some l := by
    intro e hm
    have h1 : (e.key, e.val) ∈ pairs K l := by rw [← he]; exact List.mem_map.2 ⟨e, hm, rfl⟩
    obtain ⟨p, hp, hpe⟩ := List.mem_map.1 h1
    have h2 : K p.1 = e.key := congrArg Prod.fst hpe
    obtain ⟨l2, hl2⟩ := hK.lit (ho p hp)
    exact ⟨l2, h2 ▸ hl2⟩
  rcases hK.law.find w hlx es.toList hall with ⟨h1, h2⟩ | ⟨j, e, h1, h2, h3⟩
  · refine .inl ⟨h1, h2, fun p hp e1 => ?_⟩
    have h4 : (K p.1, p.2) ∈ es.toList.map (fun e => (e.key, e.val)) := by rw [he]; exact List.mem_map.2 ⟨p, hp, rfl⟩
    obtain ⟨e, hem, hee⟩ := List.mem_map.1 h4
    exact h2 e hem ((congrArg Prod.fst hee).trans (congrArg K e1))
  · refine .inr ⟨j, e, h1, h2, h3, ?_⟩
    have h4 : (pairs K l)[j]? = some (e.key, e.val) := by rw [← he, List.getElem?_map, h2]; rfl
    unfold pairs at h4
    rw [List.getElem?_map] at h4
    cases hl : l[j]? with
    | none => rw [hl] at h4; cases h4
    | some p =>
      rw [hl] at h4
      have h5 : (K p.1, p.2) = (e.key, e.val) := by simpa using h4
      have h6 : p.1 = x := hK.inj ((congrArg Prod.fst h5).trans h3)
      have h7 : p.2 = e.val := congrArg Prod.snd h5
      cases p
      subst h6 h7
      rfl
def lookV (c : Bool) (z : Value) : Option Value → Value
  | some v => if c then .tuple #[v, .bool true] else v
  | none => if c then .tuple #[z, .bool false] else z
theorem MapIs.look [DecidableEq κ] {t e : TypeId} (h : MapIs K ok w b l) (hK : MKey P k K ok) (ht : P.underlying t = some (.map k e)) {z : Value} (hz : (zeroValue e).run P w = .ok z w) (c : Bool) {x : κ} (hx : ok x) :
    (Instr.lookup t (.map (some b)) (K x) c).run P w = .ok (lookV c z (l.lookup x)) w := by
  have hn := h.nodup
  obtain ⟨es, clock, hb, hs, he, ho⟩ := h
  obtain ⟨lx, hlx⟩ := hK.lit hx
  rcases find_es (w := w) hK he ho hx with ⟨h1, _, h2⟩ | ⟨j, e0, h1, _, _, h2⟩
  · rw [lookup_no h2]
    simp [Instr.lookup, run_underlying ht, MapKept.run_getObj_map hb, hK.law.check w _ hlx, h1, hz, Result.andThen, lookV]
  · rw [lookup_at hn (List.mem_of_getElem? h2)]
    simp [Instr.lookup, run_underlying ht, MapKept.run_getObj_map hb, hK.law.check w _ hlx, h1, Result.andThen, lookV]
theorem keeps_set {o o' : Obj} (hb : w.heap[b]? = some o) : Keeps (fun q => q = b) w (setBlock w b o') :=
  ⟨rfl, rfl, rfl, by simp [setBlock], fun i hi hs => (MapKept.heap_set hb).2 i hs⟩
theorem size_set (o' : Obj) : (setBlock w b o').heap.size = w.heap.size := by simp [setBlock]
theorem MapIs.put [DecidableEq κ] {t e : TypeId} (h : MapIs K ok w b l) (hK : MKey P k K ok) (ht : P.underlying t = some (.map k e)) {x : κ} (hx : ok x) (v : Value) :
    ∃ w', (Instr.mapUpdate t (.map (some b)) (K x) v).run P w = .ok () w' ∧ MapIs K ok w' b (putL l x v) ∧ Keeps (fun q => q = b) w w' ∧ w'.heap.size = w.heap.size := by
  have hn := h.nodup
  obtain ⟨es, clock, hb, hs, he, ho⟩ := h
  obtain ⟨lx, hlx⟩ := hK.lit hx
  rcases find_es (w := w) hK he ho hx with ⟨h1, h2, h3⟩ | ⟨j, e0, h1, h2, h3, h4⟩
  · refine ⟨setBlock w b (.map (es.push ⟨K x, v, clock⟩) (clock + 1)), ?_, ⟨_, _, (heap_set hb).1, stamped_push hs h2, ?_, ?_⟩, keeps_set hb, size_set _⟩
    · simp [Instr.mapUpdate, run_underlying ht, MapKept.run_getObj_map hb, hK.law.check w false hlx, h1, MapKept.run_setObj_map _ hb, Result.andThen, setBlock]
    · unfold putL
      rw [lookup_no h3, if_neg (by simp), Array.toList_push, List.map_append, he]
      unfold pairs
      rw [List.map_append]
      rfl
    · unfold putL
      rw [lookup_no h3, if_neg (by simp)]
      intro p hp
      rcases List.mem_append.1 hp with hp | hp
      · exact ho p hp
      · simp at hp; subst hp; exact hx
  · have hj : es[j]? = some e0 := by simpa using h2
    have hkeyf : ∀ e', es[j]? = some e' → ({ e' with key := K x, val := v } : MapEntry).key = e'.key := fun e' he' => by rw [hj] at he'; cases he'; exact h3.symm
    refine ⟨setBlock w b (.map (es.modify j (fun e' => { e' with key := K x, val := v })) clock), ?_, ⟨_, _, (heap_set hb).1, stamped_modify hs _ _ (fun _ _ => rfl) (fun e' _ he' => hkeyf e' he'), ?_, ?_⟩, keeps_set hb, size_set _⟩
    · simp [Instr.mapUpdate, run_underlying ht, MapKept.run_getObj_map hb, hK.law.check w false hlx, h1, hj, h3, hK.law.stays w hlx, MapKept.run_setObj_map _ hb, Result.andThen, setBlock]
    · have hlk : l.lookup x = some e0.val := lookup_at hn (List.mem_of_getElem? h4)
      unfold putL
      rw [hlk, Option.isSome_some, if_pos rfl]
      apply List.ext_getElem?
      intro i
      have hei : (es.toList[i]?).map (fun e => (e.key, e.val)) = (l[i]?).map fun p => (K p.1, p.2) := by
        have := congrArg (fun q => q[i]?) he
        simpa [pairs] using this
      simp only [pairs, List.getElem?_map, Array.getElem?_toList, Array.getElem?_modify]
      by_cases hij : j = i
      · subst hij
        rw [h4, hj]
        simp
      · rw [if_neg hij, ← Array.getElem?_toList, hei]
        cases hl : l[i]? with
        | none => rfl
        | some p =>
          have hne : p.1 ≠ x := fun e1 => by
            have h5 : (l.map (·.1))[i]? = some x := by rw [List.getElem?_map, hl, ← e1]; rfl
            have h6 : (l.map (·.1))[j]? = some x := by rw [List.getElem?_map, h4]; rfl
            exact hij ((List.getElem?_inj (by exact (List.getElem?_eq_some_iff.1 h6).1) hn).1 (h6.trans h5.symm))
          simp [hne]
    · have hlk : l.lookup x = some e0.val := lookup_at hn (List.mem_of_getElem? h4)
      unfold putL
      rw [hlk, Option.isSome_some, if_pos rfl]
      intro p hp
      obtain ⟨q, hq, rfl⟩ := List.mem_map.1 hp
      split
      · exact hx
      · exact ho q hq
theorem MapIs.del [DecidableEq κ] {t e ty : TypeId} (h : MapIs K ok w b l) (hK : MKey P k K ok) (ht : P.underlying t = some (.map k e)) {x : κ} (hx : ok x) :
    ∃ w', (Builtin.delete_ #[t, k] ty #[.map (some b), K x]).run P w = .ok (.tuple #[]) w' ∧ MapIs K ok w' b (delL l x) ∧ Keeps (fun q => q = b) w w' ∧ w'.heap.size = w.heap.size := by
  have hn := h.nodup
  obtain ⟨es, clock, hb, hs, he, ho⟩ := h
  obtain ⟨lx, hlx⟩ := hK.lit hx
  rcases find_es (w := w) hK he ho hx with ⟨h1, h2, h3⟩ | ⟨j, e0, h1, h2, h3, h4⟩
  · refine ⟨setBlock w b (.map es clock), ?_, ⟨_, _, (heap_set hb).1, hs, ?_, ?_⟩, keeps_set hb, size_set _⟩
    · simp [Builtin.delete_, run_underlying ht, MapKept.run_getObj_map hb, hK.law.check w _ hlx, h1, MapKept.run_setObj_map _ hb, Result.andThen, setBlock]
    · have : delL l x = l := by unfold delL; rw [List.filter_eq_self]; intro p hp; simpa using h3 p hp
      rw [this]; exact he
    · intro p hp; exact ho p (List.mem_filter.1 hp).1
  · have hjl : j < es.size := by have := (List.getElem?_eq_some_iff.1 h2).1; simpa using this
    have hsub : (es.eraseIdxIfInBounds j).toList = es.toList.eraseIdx j := by
      unfold Array.eraseIdxIfInBounds
      rw [dif_pos hjl]
      simp
    refine ⟨setBlock w b (.map (es.eraseIdxIfInBounds j) clock), ?_, ⟨_, _, (heap_set hb).1, stamped_erase hs j, ?_, ?_⟩, keeps_set hb, size_set _⟩
    · simp [Builtin.delete_, run_underlying ht, MapKept.run_getObj_map hb, hK.law.check w _ hlx, h1, MapKept.run_setObj_map _ hb, Result.andThen, setBlock]
    · have hd : delL l x = l.eraseIdx j := filter_erase (fun p : κ × Value => p.1) hn h4
      rw [hsub, hd, ChangeMaps.map_eraseIdx, he]
      unfold pairs
      rw [ChangeMaps.map_eraseIdx]
    · intro p hp; exact ho p (List.mem_filter.1 hp).1
theorem MapIs.len {t e ty : TypeId} (h : MapIs K ok w b l) (ht : P.underlying t = some (.map k e)) : (Builtin.len_ #[t] ty #[.map (some b)]).run P w = .ok (.int .i64 l.length) w := by
  obtain ⟨es, clock, hb, hs, he, ho⟩ := h
  have hl : es.size = l.length := by
    have := congrArg List.length he
    simpa [pairs] using this
  simp [Builtin.len_, run_underlying ht, MapKept.run_getObj_map hb, goInt, hl]
theorem MapIs.range {t e : TypeId} (h : MapIs K ok w b l) (ht : P.underlying t = some (.map k e)) :
    ∃ w', (Instr.range t (.map (some b))).run P w = .ok (.pointer (some ⟨w.heap.size, 0, none⟩)) w' ∧ IterIs K ok w' b w.heap.size l l ∧ Keeps (fun _ => False) w w' ∧ w'.heap.size = w.heap.size + 1 := by
  have hlt := h.lt
  obtain ⟨es, clock, hb, hs, he, ho⟩ := h
  refine ⟨_, run_range_map w t k e b es clock ht hb, ⟨es, clock, clock, #[], clock, ((heap_alloc w _).2 b hlt).trans hb, hs, he, ho, (heap_alloc w _).1, hs.1, Nat.le_refl _, Nat.le_refl _, ?_, fun p hp => hp⟩, (Keeps.refl _ w).alloc _, by simp⟩
  rw [← he]
  have : leftOf es #[] = es := by unfold leftOf; rw [Array.filter_eq_self]; intro x _; simp
  rw [this]
theorem IterIs.is (h : IterIs K ok w b r l left) : MapIs K ok w b l := by
  obtain ⟨es, clock, since, seen, c0, hb, hs, he, ho, _⟩ := h
  exact ⟨es, clock, hb, hs, he, ho⟩
theorem IterIs.ne (h : IterIs K ok w b r l left) : r ≠ b := by
  obtain ⟨es, clock, since, seen, c0, hb, _, _, _, hr, _⟩ := h
  intro e
  rw [e, hb] at hr
  cases hr
theorem IterIs.lt (h : IterIs K ok w b r l left) : r < w.heap.size := by
  obtain ⟨es, clock, since, seen, c0, _, _, _, _, hr, _⟩ := h
  exact (Array.getElem?_eq_some_iff.1 hr).1
theorem IterIs.keeps (h : IterIs K ok w b r l left) (hk : Keeps S w w') (h1 : ¬ S b) (h2 : ¬ S r) : IterIs K ok w' b r l left := by
  have hb' := h.is.lt
  have hr' := h.lt
  obtain ⟨es, clock, since, seen, c0, hb, hs, he, ho, hr, rest⟩ := h
  exact ⟨es, clock, since, seen, c0, (hk.block b hb' h1).trans hb, hs, he, ho, (hk.block r hr' h2).trans hr, rest⟩
theorem IterIs.next (h : IterIs K ok w b r l left) (ty : TypeId) :
    (left = [] ∧ (Instr.next (.pointer (some ⟨r, 0, none⟩)) false ty).run P w = .ok (.tuple #[.bool false]) w) ∨
    ∃ i p w', left[i]? = some p ∧ (Instr.next (.pointer (some ⟨r, 0, none⟩)) false ty).run P w = .ok (.tuple #[.bool true, K p.1, p.2]) w' ∧ IterIs K ok w' b r l (left.eraseIdx i) ∧ Keeps (fun q => q = r) w w' ∧ w'.heap.size = w.heap.size ∧
      (Instr.entry (.pointer (some ⟨r, 0, none⟩))).run P w' = .ok (.tuple #[K p.1, p.2]) w' := by
  have hne := h.ne
  obtain ⟨es, clock, since, seen, c0, hb, hs, he, ho, hr, hold, hsc, hsk, hl, hsub⟩ := h
  rcases run_next_at (P := P) w ty r b since c0 seen es clock hr hb hold hsc with ⟨h0, hrun⟩ | ⟨e, hem, w1, hal, hrun⟩
  · refine .inl ⟨?_, hrun⟩
    have h1 := congrArg List.length hl
    rw [List.length_map, Array.length_toList, h0] at h1
    unfold pairs at h1
    rw [List.length_map] at h1
    exact List.eq_nil_of_length_eq_zero h1.symm
  · obtain ⟨i, hi⟩ := List.getElem?_of_mem hem
    obtain ⟨hme, hse⟩ := mem_left hem
    have hp : (pairs K left)[i]? = some (e.key, e.val) := by rw [← hl, List.getElem?_map, hi]; rfl
    unfold pairs at hp
    rw [List.getElem?_map] at hp
    cases hlp : left[i]? with
    | none => rw [hlp] at hp; cases hp
    | some p =>
      rw [hlp] at hp
      have h5 : (K p.1, p.2) = (e.key, e.val) := by simpa using hp
      have h6 : e.key = K p.1 := (congrArg Prod.fst h5).symm
      have h7 : e.val = p.2 := (congrArg Prod.snd h5).symm
      have hr1 : w1.heap[r]? = some (.mapIter (some b) since seen c0) := by rcases hal with rfl | rfl <;> exact hr
      have hb1 : w1.heap[b]? = some (.map es clock) := by rcases hal with rfl | rfl <;> exact hb
      have hset := heap_set (o' := .mapIter (some b) since (seen.push e.born) clock) hr1
      have hb' : (setBlock w1 r (.mapIter (some b) since (seen.push e.born) clock)).heap[b]? = some (.map es clock) := (hset.2 b (fun e1 => hne e1.symm)).trans hb1
      have hk : Keeps (fun q => q = r) w (setBlock w1 r (.mapIter (some b) since (seen.push e.born) clock)) := by
        have h8 := keeps_set (o' := .mapIter (some b) since (seen.push e.born) clock) hr1
        rcases hal with rfl | rfl
        · exact h8
        · exact ((Keeps.refl (fun q => q = r) w).drew).trans h8 (fun _ h _ => h)
      have hsz : (setBlock w1 r (.mapIter (some b) since (seen.push e.born) clock)).heap.size = w.heap.size := by
        rw [size_set]; rcases hal with rfl | rfl <;> rfl
      rw [h6, h7] at hrun
      refine .inr ⟨i, p, _, hlp, hrun, ⟨es, clock, since, seen.push e.born, clock, hb', hs, he, ho, hset.1, hold, hsk, hsk, ?_, fun q hq => hsub q ((List.eraseIdx_sublist _ _).subset hq)⟩, hk, hsz, ?_⟩
      · have h9 : (leftOf es (seen.push e.born)).toList = (leftOf es seen).toList.eraseIdx i := by
          have h10 : (leftOf es (seen.push e.born)).toList = (leftOf es seen).toList.filter (fun x => decide (x.born ≠ e.born)) := by
            unfold leftOf
            rw [Array.toList_filter, Array.toList_filter, List.filter_filter]
            apply List.filter_congr
            intro x hx
            rw [contains_push]
            by_cases hbe : x.born = e.born
            · rw [hbe]; cases seen.contains e.born <;> simp
            · have h13 : (x.born == e.born) = false := by simpa using hbe
              rw [h13]; cases seen.contains x.born <;> simp [hbe]
          rw [h10]
          refine filter_erase (fun x : MapEntry => x.born) ?_ hi
          have h11 : (leftOf es seen).toList.Sublist es.toList := by
            unfold leftOf
            rw [Array.toList_filter]
            exact List.filter_sublist
          exact (h11.map _).nodup hs.2.1
        rw [h9, ChangeMaps.map_eraseIdx, hl]
        unfold pairs
        rw [ChangeMaps.map_eraseIdx]
      · have h12 := run_entry_at (P := P) (setBlock w1 r (.mapIter (some b) since (seen.push e.born) clock)) r b since seen es clock e hset.1 hb' hme hs.2.1
        rw [h6, h7] at h12
        exact h12
/-- the step, whatever type the operation bears -/
theorem IterIs.nexts (P : Program) (h : IterIs K ok w b r l left) :
    (left = [] ∧ ∀ ty, (Instr.next (.pointer (some ⟨r, 0, none⟩)) false ty).run P w = .ok (.tuple #[.bool false]) w) ∨
    ∃ i p w', left[i]? = some p ∧ (∀ ty, (Instr.next (.pointer (some ⟨r, 0, none⟩)) false ty).run P w = .ok (.tuple #[.bool true, K p.1, p.2]) w') ∧ IterIs K ok w' b r l (left.eraseIdx i) ∧ Keeps (fun q => q = r) w w' ∧ w'.heap.size = w.heap.size ∧
      (Instr.entry (.pointer (some ⟨r, 0, none⟩))).run P w' = .ok (.tuple #[K p.1, p.2]) w' := by
  rcases h.next (P := P) 0 with ⟨h0, hrun⟩ | ⟨i, p, w', hp, hrun, r1, r2, r3, r4⟩
  · exact .inl ⟨h0, fun ty => hrun⟩
  · exact .inr ⟨i, p, w', hp, fun ty => hrun, r1, r2, r3, r4⟩
theorem IterIs.count (h : IterIs K ok w b r l left) : w.rangeLeft b r = left.length := by
  obtain ⟨es, clock, since, seen, c0, hb, hs, he, ho, hr, hold, hsc, hsk, hl, hsub⟩ := h
  simp only [World.rangeLeft, hb, hr]
  have h1 := congrArg List.length hl
  rw [List.length_map, Array.length_toList] at h1
  unfold pairs at h1
  rwa [List.length_map] at h1
end
section
variable {P : Program} {k : TypeId} {κ : Type} {K : κ → Value} {ok : κ → Prop} {w : World} {ops : Array Oper} {rest : List Oper} {a : Act} {Q : Exit → Act → World → Prop} {d : Option Tmp} {ty : TypeId} {ps : String} {af : Array Edge} {gd : Option (Nat × Bool)}
theorem wpList_mapPut [DecidableEq κ] {m x v : Operand} {t e : TypeId} (hK : MKey P k K ok) (ht : P.underlying t = some (.map k e)) (b : Nat) (l : List (κ × Value)) (y : κ) (u : Value) (hm : a.eval m = .map (some b)) (hx : a.eval x = K y) (hv : a.eval v = u) (h : MapIs K ok w b l) (hy : ok y)
    (hq : ∀ w', MapIs K ok w' b (putL l y u) → Keeps (fun q => q = b) w w' → w'.heap.size = w.heap.size → wpList P ops Q rest (a.put d undef) w') :
    wpList P ops Q ({ dst := d, op := .mapUpdate t m x v, type := ty, pos := ps, after := af, guard := none } :: rest) a w := by
  refine wpList_plain rfl fun K' hK' => ?_
  obtain ⟨w', hrun, r1, r2, r3⟩ := h.put hK ht hy u
  unfold Oper.wp
  simp [execOp, hm, hx, hv, hrun, Result.andThen]
  exact hK' _ _ (hq w' r1 r2 r3)
theorem wpList_mapDel [DecidableEq κ] {m x : Operand} {t e : TypeId} (hK : MKey P k K ok) (ht : P.underlying t = some (.map k e)) (b : Nat) (l : List (κ × Value)) (y : κ) (hm : a.eval m = .map (some b)) (hx : a.eval x = K y) (h : MapIs K ok w b l) (hy : ok y)
    (hq : ∀ w', MapIs K ok w' b (delL l y) → Keeps (fun q => q = b) w w' → w'.heap.size = w.heap.size → wpList P ops Q rest (a.put d (.tuple #[])) w') :
    wpList P ops Q ({ dst := d, op := .call { callee := .builtin .delete, args := #[m, x], argTypes := #[t, k] }, type := ty, pos := ps, after := af, guard := none } :: rest) a w := by
  refine wpList_plain rfl fun K' hK' => ?_
  obtain ⟨w', hrun, r1, r2, r3⟩ := h.del (ty := ty) hK ht hy
  unfold Oper.wp
  simp [execOp, resolve, invoke, builtin, hm, hx, hrun, Result.andThen]
  exact hK' _ _ (hq w' r1 r2 r3)
theorem wpList_mapRange {m : Operand} {t e : TypeId} (ht : P.underlying t = some (.map k e)) (b : Nat) (l : List (κ × Value)) (hm : a.eval m = .map (some b)) (h : MapIs K ok w b l)
    (hq : ∀ w', IterIs K ok w' b w.heap.size l l → Keeps (fun _ => False) w w' → w'.heap.size = w.heap.size + 1 → wpList P ops Q rest (a.put d (.pointer (some ⟨w.heap.size, 0, none⟩))) w') :
    wpList P ops Q ({ dst := d, op := .range t m, type := ty, pos := ps, after := af, guard := none } :: rest) a w := by
  refine wpList_plain rfl fun K' hK' => ?_
  obtain ⟨w', hrun, r1, r2, r3⟩ := h.range ht
  unfold Oper.wp
  simp [execOp, hm, hrun, Result.andThen]
  exact hK' _ _ (hq w' r1 r2 r3)
theorem wpList_mapNext {it : Operand} (b r : Nat) (l left : List (κ × Value)) (hit : a.eval it = .pointer (some ⟨r, 0, none⟩)) (h : IterIs K ok w b r l left)
    (hDone : left = [] → wpList P ops Q rest (a.put d (.tuple #[.bool false])) w)
    (hMore : ∀ i p w', left[i]? = some p → IterIs K ok w' b r l (left.eraseIdx i) → Keeps (fun q => q = r) w w' → w'.heap.size = w.heap.size → (Instr.entry (.pointer (some ⟨r, 0, none⟩))).run P w' = .ok (.tuple #[K p.1, p.2]) w' → wpList P ops Q rest (a.put d (.tuple #[.bool true, K p.1, p.2])) w') :
    wpList P ops Q ({ dst := d, op := .next it false, type := ty, pos := ps, after := af, guard := none } :: rest) a w := by
  refine wpList_plain rfl fun K' hK' => ?_
  unfold Oper.wp
  rcases h.next (P := P) ty with ⟨h0, hrun⟩ | ⟨i, p, w', hp, hrun, r1, r2, r3, r4⟩
  · simp [execOp, hit, hrun, Result.andThen]
    exact hK' _ _ (hDone h0)
  · simp [execOp, hit, hrun, Result.andThen]
    exact hK' _ _ (hMore i p w' hp r1 r2 r3 r4)
end
end Mem
end Go.Proofs.Ytfafehffnjbhnaa
