/- slices.SortFunc and slices.Reverse at lists of writes of the call's own. No conditions but that the list is there. -/
import Derived.Test.YtfafehffnjbhnaaStLay
import Derived.Test.YtfafehffnjbhnaaGrow
import Derived.Test.YtfafehffnjbhnaaSlIx
set_option maxRecDepth 8000
namespace Go.Proofs.Ytfafehffnjbhnaa
open Go.RowKit Go.Sort
set_option linter.unusedVariables false
set_option linter.unusedSimpArgs false
instance : Inhabited Vec.Ent := ⟨Vec.ent0⟩
namespace Mem
section
variable {α : Type} [Inhabited α] {enc : α → List Value} {k : Nat} {w : World} {e : TypeId} {g o n c : Nat} {xs ys : List α}
theorem flatK_list (hk : ∀ x, (enc x).length = k) (h0 : 0 < k) (ys : List α) : flatK enc k ys.toArray = (ys.flatMap enc).toArray := by
  have hfl := flat_length hk ys
  apply Array.ext
  · rw [size_flatK, List.size_toArray, List.size_toArray, hfl]
  · intro t h1 h2
    rw [size_flatK, List.size_toArray] at h1
    have hd : t / k < ys.length := (Nat.div_lt_iff_lt_mul h0).2 h1
    have hg := get_flatK enc k ys.toArray t (by rw [List.size_toArray]; exact h1)
    rw [getElem!_pos _ t (by rw [size_flatK, List.size_toArray]; exact h1)] at hg
    rw [hg]
    have hm : t % k < k := Nat.mod_lt _ h0
    have h3 := flat_get hk ys (t / k) (t % k) _ (List.getElem?_eq_getElem hd) hm
    rw [Nat.mul_comm, Nat.div_add_mod] at h3
    have h4 : ys.toArray[t / k]! = ys[t / k] := by simp [hd]
    rw [h4, getElem!_pos _ _ (by rw [hk]; exact hm), List.getElem_toArray]
    rw [List.getElem?_eq_getElem (by rw [hfl]; exact h1), List.getElem?_eq_getElem (by rw [hk]; exact hm)] at h3
    exact (Option.some.inj h3).symm
theorem Own.rowK (hk : ∀ x, (enc x).length = k) (h0 : 0 < k) (h : Own w e k (some ⟨g, o, none⟩) xs.length c (xs.flatMap enc)) (hl : ys.length = xs.length) (m : Nat) (os : Array Obj) :
    Own (grow (putRowK enc k (Go.Sort.ahead w m) g o ys.toArray) os) e k (some ⟨g, o, none⟩) xs.length c (ys.flatMap enc) ∧ Keeps (fun j => j = g) w (grow (putRowK enc k (Go.Sort.ahead w m) g o ys.toArray) os) := by
  unfold putRowK
  rw [flatK_list hk h0]
  have hlen := h.1
  have hyl := flat_length hk ys
  refine ⟨⟨by rw [hyl, hl], ?_⟩, ?_⟩
  · rcases h.2 with ⟨h0, _⟩ | ⟨g', o', cur, h0, hg, hnc, hcm, hcs, hcell⟩
    · cases h0
    · cases h0
      have hlt : g < w.heap.size := (Array.getElem?_eq_some_iff.1 hg).1
      refine .inr ⟨g, o, putCells id o (ys.flatMap enc).toArray cur, rfl, ?_, hnc, hcm, by simpa [putCells] using hcs, ?_⟩
      · rw [heap_grow_old _ _ (by simpa [putRow, mapBlock, Go.Sort.ahead] using hlt)]
        simp [putRow, mapBlock, Go.Sort.ahead, Array.getElem?_modify, hg, onCells]
      · intro j u hu
        obtain ⟨h1, h2⟩ := List.getElem?_eq_some_iff.1 hu
        rw [hyl, hl, ← hlen] at h1
        have hx : cur[o + j]? = some ((xs.flatMap enc)[j]) := hcell j _ (List.getElem?_eq_getElem h1)
        simp only [putCells, Array.getElem?_mapIdx, hx, Option.map_some]
        rw [if_pos ⟨by omega, by rw [List.size_toArray, hyl, hl, ← hlen]; omega⟩, show o + j - o = j by omega, ← h2]
        have h3 : j < (ys.flatMap enc).length := by rw [hyl, hl, ← hlen]; exact h1
        simp only [id]
        rw [getElem!_pos _ j (by rw [List.size_toArray]; exact h3), List.getElem_toArray]
  · refine ⟨rfl, rfl, rfl, by simp [putRow, mapBlock, Go.Sort.ahead], fun j hj hs => ?_⟩
    rw [heap_grow_old _ _ (by simpa [putRow, mapBlock, Go.Sort.ahead] using hj)]
    simp only [putRow, mapBlock, Go.Sort.ahead, Array.getElem?_modify]
    rw [if_neg (fun e => hs e.symm)]
theorem Own.holdsK (hk : ∀ x, (enc x).length = k) (h0 : 0 < k) (h : Own w e k (some ⟨g, o, none⟩) n c (xs.flatMap enc)) : HoldsK enc k w g o xs.toArray := by
  unfold HoldsK
  rw [flatK_list hk h0]
  intro j hj
  rw [List.size_toArray] at hj
  refine ⟨?_, h.free _⟩
  rw [h.cell (List.getElem?_eq_getElem hj)]
  simp only [id]
  rw [getElem!_pos _ j (by rw [List.size_toArray]; exact hj), List.getElem_toArray]
end
end Mem
namespace Sto
theorem gtE_lt (x y : Vec.Ent) : Vec.gtE x y < 0 ↔ (x.st.c < y.st.c ∨ x.st.c = y.st.c ∧ (x.st.d < y.st.d ∨ x.st.d = y.st.d ∧ (x.st.r < y.st.r ∨ x.st.r = y.st.r ∧ x.seq < y.seq))) := by
  unfold Vec.gtE Stamp.cmpS Stamp.cmpI
  simp only [Stamp.firstNZ]
  repeat' split
  all_goals omega
theorem gtE_gt (x y : Vec.Ent) : 0 < Vec.gtE x y ↔ Vec.gtE y x < 0 := by
  rw [gtE_lt]
  unfold Vec.gtE Stamp.cmpS Stamp.cmpI
  simp only [Stamp.firstNZ]
  repeat' split
  all_goals omega
theorem ltOf_gt (x y : Vec.Ent) : ltOf Vec.gtE x y = decide (Vec.gtE x y < 0) := rfl
theorem gtE_swo : SWO (ltOf Vec.gtE) where
  irrefl x := by rw [ltOf_gt, decide_eq_false_iff_not, gtE_lt]; omega
  trans x y z h1 h2 := by rw [ltOf_gt, decide_eq_true_eq, gtE_lt] at *; omega
  ntrans x y z h1 h2 := by rw [ltOf_gt, decide_eq_false_iff_not, gtE_lt] at *; omega
end Sto
open Go.RowKit in
theorem sort_any (g o c : Nat) (es : List Vec.Ent) (w : World) (hO : Vec.EOwn w (some ⟨g, o, none⟩) c es) (hn : es.length ≤ 4611686018427387903) :
    Calls Try.prog 31 #[.slice (some ⟨g, o, none⟩) es.length c, .func (.func 32) #[] #[]] w fun x w' =>
      x = .returned (.tuple #[]) ∧ ∃ ys : List Vec.Ent, ys.Perm es ∧ ys.Pairwise (fun x y => ¬ Vec.gtE y x < 0) ∧ Vec.EOwn w' (some ⟨g, o, none⟩) c ys ∧ Mem.Keeps (fun k => k = g) w w' := by
  have hcon := AnyQ.slices_SortFunc stFuncLays 20 entry_agg.agg entry_agg.size Vec.entCells Vec.entCells_length Vec.ent_one Vec.gtE Sto.gtE_swo 32 #[] g o c es.toArray w
    (enters_of Try.func32 (by kernel_rfl) rfl) (fun m os dk hdk x y => (sortCmp_any x y _).mono fun e w' h => ⟨h.1, h.2.grown⟩) (Mem.Own.holdsK Vec.entCells_length (by omega) hO) (hO.lt rfl) (by rw [List.size_toArray]; omega)
  refine hcon.mono ?_
  rintro x w' ⟨rfl, d', n, os, ⟨hs, _, hp⟩, hso, rfl⟩
  replace hs : d'.size = es.length := by simpa using hs
  have h1 : d'.extract 0 es.length = d' := by rw [← hs, Array.extract_size]
  replace hp : (d'.extract 0 es.length).toList.Perm (es.toArray.extract 0 es.length).toList := hp
  rw [h1] at hp
  replace hp : d'.toList.Perm es := by simpa using hp
  obtain ⟨q1, q2⟩ := Mem.Own.rowK Vec.entCells_length (by omega) hO (ys := d'.toList) (by simpa using hs) n os
  have hl : d'.toList.length = es.length := by simpa using hs
  refine ⟨rfl, d'.toList, hp, ?_, ?_, ?_⟩
  · rw [List.pairwise_iff_getElem]
    intro i j hi hj hij
    have h3 := hso i j (Nat.zero_le _) hij (by show j < es.length; rw [← hs]; simpa using hj)
    rw [Sto.ltOf_gt, decide_eq_false_iff_not] at h3
    have hi' : i < d'.size := by simpa using hi
    have hj' : j < d'.size := by simpa using hj
    rw [getElem!_pos _ i hi', getElem!_pos _ j hj'] at h3
    simpa using h3
  · show Mem.Own _ _ _ _ d'.toList.length c _
    rw [hl]
    exact q1
  · exact q2
open Go.RowKit in
theorem reverse_any (g o c : Nat) (es : List Vec.Ent) (w : World) (hO : Vec.EOwn w (some ⟨g, o, none⟩) c es) (hn : es.length ≤ 4611686018427387903) :
    Calls Try.prog 42 #[.slice (some ⟨g, o, none⟩) es.length c] w fun x w' =>
      x = .returned (.tuple #[]) ∧ Vec.EOwn w' (some ⟨g, o, none⟩) c es.reverse ∧ Mem.Keeps (fun k => k = g) w w' := by
  have hcon := AnyQ.slices_Reverse stRevLays 20 entry_agg.agg entry_agg.size Vec.entCells Vec.entCells_length Vec.ent_one g o c es.toArray w (Mem.Own.holdsK Vec.entCells_length (by omega) hO) (by rw [List.size_toArray]; omega)
  refine hcon.mono ?_
  rintro x w' ⟨rfl, n, rfl⟩
  obtain ⟨q1, q2⟩ := Mem.Own.rowK Vec.entCells_length (by omega) hO (ys := es.reverse) (by simp) n #[]
  rw [List.reverse_toArray, ← grow_empty (putRowK _ _ _ _ _ _)]
  refine ⟨rfl, ?_, q2⟩
  show Mem.Own _ _ _ _ es.reverse.length c _
  rw [List.length_reverse]
  exact q1
open Go.RowKit in
theorem reverse_none (p : Option Addr) (c : Nat) (w : World) :
    Calls Try.prog 42 #[.slice p 0 c] w fun x w' => x = .returned (.tuple #[]) ∧ w' = w := by
  refine (AnyQ.slices_Reverse_empty stRevLays p c w).mono ?_
  rintro x w' ⟨rfl, h⟩
  exact ⟨rfl, h⟩
end Go.Proofs.Ytfafehffnjbhnaa
