/- Opening a slice that lies in an argument or in a field of an element: by a reading of one element's cells, with the reach. Plain lemmas over any program. -/
import Derived.Test.YtfafehffnjbhnaaOpen
namespace Go.Proofs.Ytfafehffnjbhnaa
set_option linter.unusedVariables false
set_option linter.unusedSimpArgs false
open Go.ChangeShapes Go.WideShapes Go.RowKit Go.Deep
namespace Mem
/-- data within the reach -/
def Sz {H : Type} (P : Program) (t : TypeId) (d : DataW H) : Prop := (d.weights P t).all (· ≤ reachBytes) = true
section
variable {H : Type} {enc : TypeId × Value → H} {P : Program} {W : World} {α : Type}
theorem field1_sz {t : TypeId} {fs : Array Field} {n : Nat} {cs : List Value} {x : DataW H × List MemPlace} (hs : P.underlying t = some (.struct fs)) (h : DataW.trod enc P W 0 (fun _ => true) true n t cs = some x) (hz : Sz P t x.1)
    (i : Nat) (f : Field) (hf : fs[i]? = some f) : ∃ (m : Nat) (y : DataW H × List MemPlace), DataW.trod enc P W 0 (fun _ => true) true m f.type ((cs.drop f.offset).take (P.cellsOf f.type)) = some y ∧ Sz P f.type y.1 := by
  obtain ⟨xs, m, _, hx, _, hxl, hg⟩ := DataW.trod_struct hs h
  have hi := (Array.getElem?_eq_some_iff.1 hf).1
  refine ⟨m, xs[i]'(by omega), by rw [hg i f hf, List.getElem?_eq_getElem], ?_⟩
  unfold Sz at *
  rw [List.all_eq_true] at *
  intro q hq
  refine hz q ?_
  rw [hx]
  simp only [DataW.weights, hs]
  exact DataW.weights_mem_each (j := i) (t := f.type) (d := (xs[i]'(by omega)).1) (by simp [hf]) (by simp [List.getElem?_eq_getElem (show i < xs.length by omega)]) q hq
theorem trod_slice_sz {t e : TypeId} {sz fuel : Nat} {cs : List Value} {x : DataW H × List MemPlace} (ht : P.underlying t = some (.slice e)) (hC : P.cellsOf e = sz) (hsz : 0 < sz) (f : α → List Value) (hf : ∀ a, (f a).length = sz) (G : α → Prop)
    (hdec : ∀ (n : Nat) (cs : List Value) (x : DataW H × List MemPlace), DataW.trod enc P W 0 (fun _ => true) true n e cs = some x → cs.length = sz → Sz P e x.1 → ∃ a, cs = f a ∧ G a)
    (hk : DataW.trod enc P W 0 (fun _ => true) true fuel t cs = some x) (hz : Sz P t x.1) :
    ∃ (A : Option Addr) (c : Nat) (l : List α), cs = [.slice A l.length c] ∧ l.length ≤ c ∧ c * P.bytesOf e ≤ reachBytes ∧ Rd W W.heap.size A (l.flatMap f) ∧ (∀ a ∈ l, G a) ∧ c ≤ maxLen := by
  rcases open_slice ht hk with ⟨rfl, _⟩ | ⟨a, len, cap, m, n, D, Pl, rfl, _, hl, hm, hmm, hd, hx⟩
  · exact ⟨none, 0, [], rfl, by simp, by simp, .inl rfl, (fun a ha => by cases ha), by simp [maxLen]⟩
  · rw [if_pos rfl] at hmm
    subst hmm
    rw [hC] at hx
    have hd1 : x.1 = .slice ((List.range len).map D) ((List.range (m - len)).map fun j => D (len + j)) := congrArg Prod.fst hd
    unfold Sz at hz
    rw [hd1] at hz
    simp only [DataW.weights, ht, List.all_cons, List.length_map, List.length_range, Bool.and_eq_true, decide_eq_true_eq, List.all_append] at hz
    obtain ⟨hz0, hz1, _⟩ := hz
    have hw : ∀ i, i < len → Sz P e (D i) := fun i hi => by
      unfold Sz
      rw [List.all_eq_true]
      intro q hq
      refine List.all_eq_true.1 hz1 q ?_
      exact weightsAll_mem (List.mem_map.2 ⟨i, List.mem_range.2 hi, rfl⟩) hq
    obtain ⟨l, hll, hp⟩ := exists_list (p := fun i (x : α) => (∀ j, j < sz → W.cell? (a.add (i * sz + j)) = (f x)[j]?) ∧ G x) len (fun i hi => by
      obtain ⟨cs', h1, h2⟩ := hx i (by omega)
      obtain ⟨_, hlen, hat⟩ := World.cells?_some h1
      obtain ⟨x, rfl, hg⟩ := hdec _ _ _ h2 hlen (hw i hi)
      exact ⟨x, fun j hj => by rw [← hat j hj, Go.Deep.add_add], hg⟩)
    subst hll
    refine ⟨some a, _, l, rfl, hl, by rw [show l.length + (m - l.length) = m by omega] at hz0; exact hz0, ?_, (fun x hx => ?_), hm⟩
    · rcases Nat.eq_zero_or_pos l.length with h0 | h0
      · have : l = [] := List.eq_nil_of_length_eq_zero h0
        subst this; exact .inl rfl
      · have hc0 := (hp 0 l[0] (List.getElem?_eq_getElem h0)).1 0 hsz
        have h00 : (f l[0])[0]? = some ((f l[0])[0]'(by rw [hf]; exact hsz)) := List.getElem?_eq_getElem _
        rw [h00] at hc0
        obtain ⟨b, off, spot⟩ := a
        have hspot : spot = none := by simpa [Addr.add] using World.cell?_spot hc0
        subst hspot
        refine .inr ⟨b, off, rfl, by simpa [Addr.add] using World.block_lt_of_cell? W _ hc0, fun j u hu => ?_⟩
        obtain ⟨x, hx1, hx2, _⟩ := flat_inv hf l j u hu
        have := (hp _ _ hx1).1 (j % sz) (Nat.mod_lt _ hsz)
        rw [add_flat, hx2, show j / sz * sz + j % sz = j by rw [Nat.mul_comm]; exact Nat.div_add_mod j sz] at this
        exact this
    · obtain ⟨i, hi⟩ := List.mem_iff_getElem?.1 hx
      exact (hp i x hi).2
theorem flat_one {α : Type} (f : α → Value) (l : List α) : l.flatMap (fun a => [f a]) = l.map f := by
  induction l with
  | nil => rfl
  | cons a l ih => simp only [List.flatMap_cons, List.map_cons, ih]; rfl
/-- a slice of strings -/
theorem trod_strings_sz {t e : TypeId} {fuel : Nat} {cs : List Value} {x : DataW H × List MemPlace} (ht : P.underlying t = some (.slice e)) (he : P.underlying e = some .string) (hC : P.cellsOf e = 1)
    (hk : DataW.trod enc P W 0 (fun _ => true) true fuel t cs = some x) (hz : Sz P t x.1) :
    ∃ (A : Option Addr) (c : Nat) (l : List ByteArray), cs = [.slice A l.length c] ∧ l.length ≤ c ∧ c * P.bytesOf e ≤ reachBytes ∧ Rd W W.heap.size A (l.map Value.string) ∧ (∀ s ∈ l, s.size ≤ reachBytes) ∧ c ≤ maxLen := by
  obtain ⟨A, c, l, h1, h2, h3, h4, h5⟩ := trod_slice_sz (α := ByteArray) (sz := 1) ht hC (by omega) (fun s => [.string s]) (fun _ => rfl) (fun s => s.size ≤ reachBytes) (fun n cs x h _ hz => by
    obtain ⟨s, h1, h2, _⟩ := DataW.trod_string he h
    refine ⟨s, h1, ?_⟩
    unfold Sz at hz
    rw [h2] at hz
    simpa [DataW.weights] using hz) hk hz
  exact ⟨A, c, l, h1, h2, h3, by rwa [flat_one] at h4, h5⟩
/-- a slice that is an argument -/
theorem open_slice_sz {base : Nat} {t e : TypeId} {sz : Nat} {v : Value} {d : DataW H} {p : List MemPlace} (ht : P.underlying t = some (.slice e)) (hC : P.cellsOf e = sz) (hsz : 0 < sz) (f : α → List Value) (hf : ∀ a, (f a).length = sz) (G : α → Prop)
    (hdec : ∀ (n : Nat) (cs : List Value) (x : DataW H × List MemPlace), DataW.trod enc P W 0 (fun _ => true) true n e cs = some x → cs.length = sz → Sz P e x.1 → ∃ a, cs = f a ∧ G a)
    (o : Value.okWide P W .any base t v) (k : DataW.Trod enc P W 0 (fun _ => true) true t v d p) (hz : (d.weights P t).all (· ≤ reachBytes) = true) :
    ∃ (A : Option Addr) (c : Nat) (l : List α), v = .slice A l.length c ∧ l.length ≤ c ∧ c * P.bytesOf e ≤ reachBytes ∧ Rd W W.heap.size A (l.flatMap f) ∧ (∀ a ∈ l, G a) ∧ c ≤ maxLen := by
  obtain ⟨a0, len0, cap0, rfl⟩ := okWide_slice ht o
  obtain ⟨fuel, hk⟩ := k
  obtain ⟨A, c, l, h1, h2⟩ := trod_slice_sz ht hC hsz f hf G hdec hk hz
  refine ⟨A, c, l, ?_, h2⟩
  simpa [Value.cells] using h1
end
end Mem
end Go.Proofs.Ytfafehffnjbhnaa
