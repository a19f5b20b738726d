/- Opening what came in: a slice of whatever elements, by a reading of one element's cells. Plain lemmas over any program. -/
import Derived.Test.YtfafehffnjbhnaaMem
import Derived.Deep.Slices
import Derived.Deep.Fields
import Derived.ProofKit
import Derived.OpenShut
namespace Go.Proofs.Ytfafehffnjbhnaa
set_option linter.unusedVariables false
set_option linter.unusedSimpArgs false
open Go.ChangeShapes Go.WideShapes Go.RowKit Go.Deep
namespace Mem

theorem exists_list {α : Type} {p : Nat → α → Prop} : ∀ (n : Nat), (∀ i, i < n → ∃ a, p i a) → ∃ l : List α, l.length = n ∧ ∀ i a, l[i]? = some a → p i a
  | 0, _ => ⟨[], rfl, fun i a h => by simp at h⟩
  | n + 1, h => by
    obtain ⟨l, hl, hp⟩ := exists_list n (fun i hi => h i (by omega))
    obtain ⟨a, ha⟩ := h n (by omega)
    refine ⟨l ++ [a], by simp [hl], fun i b hb => ?_⟩
    by_cases hi : i < l.length
    · rw [List.getElem?_append_left hi] at hb; exact hp i b hb
    · have hlt : i < (l ++ [a]).length := (List.getElem?_eq_some_iff.1 hb).1
      have : i = n := by simp at hlt; omega
      subst this
      rw [List.getElem?_append_right (by omega), hl, Nat.sub_self] at hb
      simp at hb; subst hb; exact ha
section
variable {α : Type} {f : α → List Value} {sz : Nat}
theorem flat_length (hf : ∀ a, (f a).length = sz) (l : List α) : (l.flatMap f).length = l.length * sz := by
  induction l with
  | nil => simp
  | cons a l ih => simp only [List.flatMap_cons, List.length_append, hf, ih, List.length_cons, Nat.add_mul, Nat.one_mul]; omega
theorem flat_get (hf : ∀ a, (f a).length = sz) : ∀ (l : List α) (k j : Nat) (a : α), l[k]? = some a → j < sz → (l.flatMap f)[k * sz + j]? = (f a)[j]?
  | [], k, j, a, h, _ => by simp at h
  | b :: l, 0, j, a, h, hj => by
    simp at h; subst h
    simp only [List.flatMap_cons, Nat.zero_mul, Nat.zero_add]
    rw [List.getElem?_append_left (by rw [hf]; exact hj)]
  | b :: l, k + 1, j, a, h, hj => by
    simp only [List.flatMap_cons]
    have hle : sz ≤ (k + 1) * sz + j := by rw [Nat.add_mul, Nat.one_mul]; omega
    rw [List.getElem?_append_right (by rw [hf]; exact hle), hf]
    have e : (k + 1) * sz + j - sz = k * sz + j := by rw [Nat.add_mul, Nat.one_mul]; omega
    rw [e]
    exact flat_get hf l k j a (by simpa using h) hj
theorem flat_inv (hf : ∀ a, (f a).length = sz) (l : List α) (j : Nat) (u : Value) (h : (l.flatMap f)[j]? = some u) : ∃ a, l[j / sz]? = some a ∧ (f a)[j % sz]? = some u ∧ 0 < sz := by
  have hj := (List.getElem?_eq_some_iff.1 h).1
  rw [flat_length hf] at hj
  have hsz : 0 < sz := Nat.pos_of_ne_zero (fun e => by rw [e] at hj; simp at hj)
  have hk : j / sz < l.length := (Nat.div_lt_iff_lt_mul hsz).2 hj
  refine ⟨l[j / sz], List.getElem?_eq_getElem hk, ?_, hsz⟩
  rw [← flat_get hf l (j / sz) (j % sz) _ (List.getElem?_eq_getElem hk) (Nat.mod_lt _ hsz), ← h]
  congr 1
  rw [Nat.mul_comm]; exact Nat.div_add_mod j sz
/-- the cells of element k -/
theorem Rd.elem {w : World} {B : Nat} {A : Option Addr} {l : List α} (hf : ∀ a, (f a).length = sz) (h : Rd w B A (l.flatMap f)) {k : Nat} (hk : k < l.length) (hsz : 0 < sz) :
    ∃ b o, A = some ⟨b, o, none⟩ ∧ b < B ∧ ∀ j u, (f l[k])[j]? = some u → w.cell? ⟨b, o + (k * sz + j), none⟩ = some u := by
  rcases h with h | ⟨b, o, e, hb, hc⟩
  · have h0 : l.length * sz = 0 := by rw [← flat_length hf l, h]; rfl
    rcases Nat.mul_eq_zero.1 h0 with h0 | h0 <;> omega
  · refine ⟨b, o, e, hb, fun j u hu => hc _ _ ?_⟩
    have hj : j < sz := by have := (List.getElem?_eq_some_iff.1 hu).1; rw [hf] at this; exact this
    rw [flat_get hf l k j _ (List.getElem?_eq_getElem hk) hj]; exact hu
end

/-- an element's data bear weights within the reach -/
theorem weightsAll_mem {H : Type} {P : Program} {e : TypeId} : ∀ {l : List (DataW H)} {d : DataW H} {n : Nat}, d ∈ l → n ∈ d.weights P e → n ∈ DataW.weightsAll P e l
  | [], _, _, h, _ => by cases h
  | x :: l, d, n, h, hn => by
    simp only [DataW.weightsAll, List.mem_append]
    rcases List.mem_cons.1 h with rfl | h
    · exact .inl hn
    · exact .inr (weightsAll_mem h hn)
section
variable {H : Type} {enc : TypeId × Value → H} {P : Program} {W : World} {base : Nat} {α : Type}
/-- a slice that came in, by a reading of its elements' cells -/
theorem open_slice_of {t e : TypeId} {sz : Nat} {v : Value} {d : DataW H} {p : List MemPlace} (ht : P.underlying t = some (.slice e)) (hC : P.cellsOf e = sz) (hsz : 0 < sz) (f : α → List Value) (hf : ∀ a, (f a).length = sz) (G : α → Prop)
    (hdec : ∀ (n : Nat) (cs : List Value) (x : DataW H × List MemPlace), DataW.trod enc P W 0 (fun _ => true) true n e cs = some x → cs.length = sz → ∃ a, cs = f a ∧ G a)
    (o : Value.okWide P W .any base t v) (k : DataW.Trod enc P W 0 (fun _ => true) true t v d p) :
    ∃ (A : Option Addr) (c : Nat) (l : List α), v = .slice A l.length c ∧ l.length ≤ c ∧ c ≤ maxLen ∧ Rd W W.heap.size A (l.flatMap f) ∧ ∀ a ∈ l, G a := by
  obtain ⟨a0, len0, cap0, rfl⟩ := okWide_slice ht o
  obtain ⟨fuel, hk⟩ := k
  rcases open_slice ht hk with ⟨hcs, _⟩ | ⟨a, len, cap, m, n, D, Pl, hcs, _, hl, hm, hmm, _, hx⟩
  · simp [Value.cells] at hcs
    obtain ⟨rfl, rfl, rfl⟩ := hcs
    exact ⟨none, 0, [], rfl, by simp, by simp [maxLen], .inl rfl, fun a ha => by cases ha⟩
  · simp [Value.cells] at hcs
    obtain ⟨rfl, rfl, rfl⟩ := hcs
    rw [if_pos rfl] at hmm
    subst hmm
    rw [hC] at hx
    obtain ⟨l, hll, hp⟩ := exists_list (p := fun i (x : α) => (∀ j, j < sz → W.cell? (a.add (i * sz + j)) = (f x)[j]?) ∧ G x) len0 (fun i hi => by
      obtain ⟨cs', h1, h2⟩ := hx i (by omega)
      obtain ⟨_, hlen, hat⟩ := World.cells?_some h1
      obtain ⟨x, rfl, hg⟩ := hdec _ _ _ h2 hlen
      exact ⟨x, fun j hj => by rw [← hat j hj, Go.Deep.add_add], hg⟩)
    subst hll
    refine ⟨some a, _, l, rfl, hl, hm, ?_, fun x hx => ?_⟩
    · rcases Nat.eq_zero_or_pos l.length with h0 | h0
      · have : l = [] := List.eq_nil_of_length_eq_zero h0
        subst this; exact .inl rfl
      · have hc0 := (hp 0 l[0] (List.getElem?_eq_getElem h0)).1 0 hsz
        have h00 : (f l[0])[0]? = some ((f l[0])[0]'(by rw [hf]; exact hsz)) := List.getElem?_eq_getElem _
        rw [h00] at hc0
        obtain ⟨b, off, spot⟩ := a
        have hspot : spot = none := by simpa [Addr.add] using World.cell?_spot hc0
        subst hspot
        refine .inr ⟨b, off, rfl, by simpa [Addr.add] using World.block_lt_of_cell? W _ hc0, fun j u hu => ?_⟩
        obtain ⟨x, hx1, hx2, _⟩ := flat_inv hf l j u hu
        have := (hp _ _ hx1).1 (j % sz) (Nat.mod_lt _ hsz)
        rw [add_flat, hx2, show j / sz * sz + j % sz = j by rw [Nat.mul_comm]; exact Nat.div_add_mod j sz] at this
        exact this
    · obtain ⟨i, hi⟩ := List.mem_iff_getElem?.1 hx
      exact (hp i x hi).2
/-- the same, each element's data within the reach -/
theorem open_slice_sized {t e : TypeId} {sz : Nat} {v : Value} {d : DataW H} {p : List MemPlace} (ht : P.underlying t = some (.slice e)) (hC : P.cellsOf e = sz) (hsz : 0 < sz) (f : α → List Value) (hf : ∀ a, (f a).length = sz) (G : α → Prop)
    (hdec : ∀ (n : Nat) (cs : List Value) (x : DataW H × List MemPlace), DataW.trod enc P W 0 (fun _ => true) true n e cs = some x → cs.length = sz → (x.1.weights P e).all (· ≤ reachBytes) = true → ∃ a, cs = f a ∧ G a)
    (o : Value.okWide P W .any base t v) (k : DataW.Trod enc P W 0 (fun _ => true) true t v d p) (hz : (d.weights P t).all (· ≤ reachBytes) = true) :
    ∃ (A : Option Addr) (c : Nat) (l : List α), v = .slice A l.length c ∧ l.length ≤ c ∧ c ≤ maxLen ∧ Rd W W.heap.size A (l.flatMap f) ∧ ∀ a ∈ l, G a := by
  obtain ⟨a0, len0, cap0, rfl⟩ := okWide_slice ht o
  obtain ⟨fuel, hk⟩ := k
  rcases open_slice ht hk with ⟨hcs, _⟩ | ⟨a, len, cap, m, n, D, Pl, hcs, _, hl, hm, hmm, hd, hx⟩
  · simp [Value.cells] at hcs
    obtain ⟨rfl, rfl, rfl⟩ := hcs
    exact ⟨none, 0, [], rfl, by simp, by simp [maxLen], .inl rfl, fun a ha => by cases ha⟩
  · simp [Value.cells] at hcs
    obtain ⟨rfl, rfl, rfl⟩ := hcs
    rw [if_pos rfl] at hmm
    subst hmm
    rw [hC] at hx
    have hd1 : d = .slice ((List.range len0).map D) ((List.range (m - len0)).map fun j => D (len0 + j)) := congrArg Prod.fst hd
    have hw : ∀ i, i < len0 → ((D i).weights P e).all (· ≤ reachBytes) = true := fun i hi => by
      rw [List.all_eq_true]
      intro q hq
      refine List.all_eq_true.1 hz q ?_
      rw [hd1]
      simp only [DataW.weights, ht, List.mem_cons, List.mem_append]
      exact .inr (.inl (weightsAll_mem (List.mem_map.2 ⟨i, List.mem_range.2 hi, rfl⟩) hq))
    obtain ⟨l, hll, hp⟩ := exists_list (p := fun i (x : α) => (∀ j, j < sz → W.cell? (a.add (i * sz + j)) = (f x)[j]?) ∧ G x) len0 (fun i hi => by
      obtain ⟨cs', h1, h2⟩ := hx i (by omega)
      obtain ⟨_, hlen, hat⟩ := World.cells?_some h1
      obtain ⟨x, rfl, hg⟩ := hdec _ _ _ h2 hlen (hw i hi)
      exact ⟨x, fun j hj => by rw [← hat j hj, Go.Deep.add_add], hg⟩)
    subst hll
    refine ⟨some a, _, l, rfl, hl, hm, ?_, fun x hx => ?_⟩
    · rcases Nat.eq_zero_or_pos l.length with h0 | h0
      · have : l = [] := List.eq_nil_of_length_eq_zero h0
        subst this; exact .inl rfl
      · have hc0 := (hp 0 l[0] (List.getElem?_eq_getElem h0)).1 0 hsz
        have h00 : (f l[0])[0]? = some ((f l[0])[0]'(by rw [hf]; exact hsz)) := List.getElem?_eq_getElem _
        rw [h00] at hc0
        obtain ⟨b, off, spot⟩ := a
        have hspot : spot = none := by simpa [Addr.add] using World.cell?_spot hc0
        subst hspot
        refine .inr ⟨b, off, rfl, by simpa [Addr.add] using World.block_lt_of_cell? W _ hc0, fun j u hu => ?_⟩
        obtain ⟨x, hx1, hx2, _⟩ := flat_inv hf l j u hu
        have := (hp _ _ hx1).1 (j % sz) (Nat.mod_lt _ hsz)
        rw [add_flat, hx2, show j / sz * sz + j % sz = j by rw [Nat.mul_comm]; exact Nat.div_add_mod j sz] at this
        exact this
    · obtain ⟨i, hi⟩ := List.mem_iff_getElem?.1 hx
      exact (hp i x hi).2
/-- a field of one cell, of an element's cells -/
theorem field1 {t : TypeId} {fs : Array Field} {n : Nat} {cs : List Value} {x : DataW H × List MemPlace} (hs : P.underlying t = some (.struct fs)) (h : DataW.trod enc P W 0 (fun _ => true) true n t cs = some x)
    (i : Nat) (f : Field) (hf : fs[i]? = some f) : ∃ (m : Nat) (y : DataW H × List MemPlace), DataW.trod enc P W 0 (fun _ => true) true m f.type ((cs.drop f.offset).take (P.cellsOf f.type)) = some y := by
  obtain ⟨xs, m, _, _, _, hxl, hg⟩ := DataW.trod_struct hs h
  have hi := (Array.getElem?_eq_some_iff.1 hf).1
  exact ⟨m, xs[i]'(by omega), by rw [hg i f hf, List.getElem?_eq_getElem]⟩
end
end Mem
end Go.Proofs.Ytfafehffnjbhnaa
