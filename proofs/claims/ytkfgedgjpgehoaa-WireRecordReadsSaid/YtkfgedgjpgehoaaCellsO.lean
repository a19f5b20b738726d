/- Structs of numbers, truths and texts that came in: their cells are of the right kinds. Plain lemmas over any program. -/
import Derived.Test.YtkfgedgjpgehoaaCells
import Derived.Test.YtkfgedgjpgehoaaOpen2
namespace Go.Proofs.Ytkfgedgjpgehoaa
open Go.ChangeShapes Go.WideShapes Go.ChangeAt Go.RowKit
set_option linter.unusedVariables false
set_option linter.unusedSimpArgs false
namespace Cells
/-- texts within the reach, numbers within their kind -/
def In1 (v : Value) : Prop := (∀ s, v = .string s → s.size ≤ 140737488351232) ∧ (∀ n, v = .int .i64 n → -9223372036854775808 ≤ n ∧ n ≤ 9223372036854775807)
def In (xs : List Value) : Prop := ∀ v ∈ xs, In1 v
theorem In.app {xs ys : List Value} (h : In xs) (h2 : In ys) : In (xs ++ ys) := fun v hv => by
  rcases List.mem_append.1 hv with hv | hv
  · exact h v hv
  · exact h2 v hv
theorem items_ok {ks : List Kd} : ∀ (n : Nat) (cs : List Value), cs.length = n * ks.length → (∀ i, i < n → Ok ks ((cs.drop (i * ks.length)).take ks.length) ∧ In ((cs.drop (i * ks.length)).take ks.length)) → Ok (List.replicate n ks).flatten cs ∧ In cs
  | 0, cs, hl, _ => by
    have : cs = [] := List.eq_nil_of_length_eq_zero (by simpa using hl)
    subst this
    exact ⟨trivial, fun v hv => by cases hv⟩
  | n + 1, cs, hl, h => by
    have h0 := h 0 (by omega)
    rw [Nat.zero_mul, List.drop_zero] at h0
    have hl2 : (cs.drop ks.length).length = n * ks.length := by rw [List.length_drop, hl, Nat.add_mul, Nat.one_mul]; omega
    have h1 := items_ok n (cs.drop ks.length) hl2 (fun i hi => by
      have := h (i + 1) (by omega)
      rw [List.drop_drop, show ks.length + i * ks.length = (i + 1) * ks.length by rw [Nat.add_mul, Nat.one_mul]; omega]
      exact this)
    rw [List.replicate_succ, List.flatten_cons, ← List.take_append_drop ks.length cs]
    exact ⟨Ok.app h0.1 h1.1, h0.2.app h1.2⟩
theorem flds_ok {g : TypeId → Option (Bool × List Kd)} {cs : List Value} : ∀ (fs : List Field) (off : Nat) (ks : List Kd), chkF g off fs = some ks → cs.length = off + ks.length →
    (∀ f ∈ fs, ∀ ag k, g f.type = some (ag, k) → Ok k ((cs.drop f.offset).take k.length) ∧ In ((cs.drop f.offset).take k.length)) → Ok ks (cs.drop off) ∧ In (cs.drop off)
  | [], off, ks, h, hl, _ => by
    unfold chkF at h
    cases h
    have : cs.drop off = [] := List.drop_eq_nil_of_le (by simp at hl; omega)
    rw [this]
    exact ⟨trivial, fun v hv => by cases hv⟩
  | f :: fs, off, ks, h, hl, hf => by
    unfold chkF at h
    split at h
    · cases h
    · rename_i hno
      split at h
      · cases h
      · rename_i r hr
        split at h
        · cases h
        · rename_i r2 hr2
          cases h
          have ho : f.offset = off := Classical.byContradiction fun e => hno (.inr e)
          have h0 := hf f List.mem_cons_self r.1 r.2 hr
          rw [ho] at h0
          rw [List.length_append] at hl
          have h1 := flds_ok fs (off + r.2.length) r2 hr2 (by omega) (fun f hm => hf f (List.mem_cons_of_mem _ hm))
          rw [← List.take_append_drop r.2.length (cs.drop off), List.drop_drop]
          exact ⟨Ok.app h0.1 h1.1, h0.2.app h1.2⟩
section
variable {H : Type} {enc : TypeId × Value → H} {P : Program} {W : World}
theorem cellsOf_chk (W : World) {D : Nat} {t : TypeId} {ag : Bool} {ks : List Kd} (h : chk P D t = some (ag, ks)) : P.cellsOf t = ks.length := by
  have hE := chk_ok D t ag ks h
  obtain ⟨i, hi⟩ := hE.inf
  have e1 := run_sizeOf (P := P) W hi
  rw [hE.sz W] at e1
  injection e1 with e1 e2
  exact e1.symm
theorem open_chk : ∀ (D : Nat) (t : TypeId) (ag : Bool) (ks : List Kd), chk P D t = some (ag, ks) → ∀ (n : Nat) (cs : List Value) (x : DataW H × List MemPlace), DataW.trod enc P W 0 (fun _ => true) true n t cs = some x → Mem.Sz P t x.1 → Ok ks cs ∧ In cs
  | 0, t, ag, ks, h, n, cs, x, hx, hz => by cases h
  | D + 1, t, ag, ks, h, n, cs, x, hx, hz => by
    have hcells := cellsOf_chk W h
    unfold chk at h
    split at h
    · rename_i hu
      split at h
      · cases h
        obtain ⟨b, rfl, _⟩ := DataW.trod_bool hu hx
        refine ⟨⟨⟨b, rfl⟩, trivial⟩, fun v hv => ?_⟩
        rw [List.mem_singleton] at hv; subst hv
        exact ⟨(fun s h => by cases h), fun n h => by cases h⟩
      · cases h
    · rename_i hu
      split at h
      · cases h
        obtain ⟨s, rfl, hx1, _⟩ := DataW.trod_string hu hx
        refine ⟨⟨⟨s, rfl⟩, trivial⟩, fun v hv => ?_⟩
        rw [List.mem_singleton] at hv; subst hv
        refine ⟨fun s2 h => ?_, fun n h => by cases h⟩
        cases h
        unfold Mem.Sz at hz
        rw [hx1] at hz
        have z2 : s.size ≤ reachBytes := by simpa [DataW.weights] using hz
        unfold reachBytes at z2
        omega
      · cases h
    · rename_i hu
      split at h
      · cases h
        obtain ⟨m, rfl, _, hw⟩ := DataW.trod_int hu hx
        refine ⟨⟨⟨m, rfl⟩, trivial⟩, fun v hv => ?_⟩
        rw [List.mem_singleton] at hv; subst hv
        refine ⟨(fun s h => by cases h), fun n h => ?_⟩
        cases h
        exact bounds_i64 hw
      · cases h
    · rename_i n2 e hu
      split at h
      · cases h
      · rename_i r hr
        obtain ⟨ag2, ks2⟩ := r
        split at h
        · cases h
          have hc := cellsOf_chk W hr
          obtain ⟨xs, m, _, hx1, hl, hxl, hg⟩ := DataW.trod_array hu hx
          refine items_ok n2 cs (by rw [hl, hcells]; simp) (fun i hi => ?_)
          have h9 := hg i hi
          rw [hc, List.getElem?_eq_getElem (by omega)] at h9
          refine open_chk D e ag2 ks2 hr m _ _ h9 ?_
          unfold Mem.Sz at hz ⊢
          rw [List.all_eq_true] at hz ⊢
          intro q hq
          refine hz q ?_
          rw [hx1]
          simp only [DataW.weights, hu]
          exact Mem.weightsAll_mem (List.mem_map.2 ⟨xs[i]'(by omega), List.getElem_mem _, rfl⟩) hq
        · cases h
    · rename_i fs hu
      split at h
      · cases h
      · split at h
        · cases h
        · rename_i ks2 hr
          split at h
          · cases h
            obtain ⟨xs, m, _, _, hl, _⟩ := DataW.trod_struct hu hx
            have h9 := flds_ok fs.toList 0 ks hr (by rw [hl, hcells]; omega) (fun f hf ag2 k hk => by
              obtain ⟨i, hi⟩ := List.mem_iff_getElem?.1 hf
              obtain ⟨m2, y, hy, hyz⟩ := Mem.field1_sz hu hx hz i f (by simpa using hi)
              rw [cellsOf_chk W hk] at hy
              exact open_chk D f.type ag2 k hk m2 _ y hy hyz)
            rw [List.drop_zero] at h9
            exact h9
          · cases h
    · cases h
end
end Cells
end Go.Proofs.Ytkfgedgjpgehoaa
