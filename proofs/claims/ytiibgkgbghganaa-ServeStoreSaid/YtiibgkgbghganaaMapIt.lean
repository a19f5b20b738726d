/- A map's entry gets another value while the map is ranged over. Plain lemmas. -/
import Derived.Test.YtiibgkgbghganaaMap
namespace Go.Proofs.Ytiibgkgbghganaa
open Go.RowKit Go.ChangeMaps Go.MapKept Go.Maps Go.WideMaps
set_option linter.unusedVariables false
set_option linter.unusedSimpArgs false
namespace Mem
theorem filter_modify {α : Type} {p : α → Bool} {f : α → α} : ∀ {l : List α} {j : Nat} {a : α}, l[j]? = some a → p a = false → p (f a) = false → (l.modify j f).filter p = l.filter p
  | [], _, _, h, _, _ => by simp at h
  | c :: l, 0, a, h, h1, h2 => by
    have hc : c = a := by simpa using h
    subst hc
    simp [List.modify, List.filter_cons, h1, h2]
  | c :: l, j + 1, a, h, h1, h2 => by
    have h3 : l[j]? = some a := by simpa using h
    have ih := filter_modify h3 h1 h2
    simp only [List.modify_succ_cons, List.filter_cons, ih]
section
variable {P : Program} {k : TypeId} {κ : Type} {K : κ → Value} {ok : κ → Prop} {w w' : World} {b r : Nat} {l left : List (κ × Value)}
theorem IterIs.put [DecidableEq κ] {t e : TypeId} (h : IterIs K ok w b r l left) (hK : MKey P k K ok) (ht : P.underlying t = some (.map k e)) {x : κ} (hx : ok x) (v : Value) (hin : ∃ v0, (x, v0) ∈ l) (hno : ∀ p ∈ left, p.1 ≠ x) :
    ∃ w', (Instr.mapUpdate t (.map (some b)) (K x) v).run P w = .ok () w' ∧ IterIs K ok w' b r (putL l x v) left ∧ Keeps (fun q => q = b) w w' ∧ w'.heap.size = w.heap.size := by
  have hn := h.is.nodup
  have hne := h.ne
  obtain ⟨es, clock, since, seen, c0, hb, hs, he, ho, hr, hold, hsc, hsk, hlf, hsub⟩ := h
  obtain ⟨lx, hlx⟩ := hK.lit hx
  obtain ⟨v0, hv0⟩ := hin
  rcases find_es (w := w) hK he ho hx with ⟨h1, h2, h3⟩ | ⟨j, e0, h1, h2, h3, h4⟩
  · exact (h3 _ hv0 rfl).elim
  · have hj : es[j]? = some e0 := by simpa using h2
    have hkeyf : ∀ e', es[j]? = some e' → ({ e' with key := K x, val := v } : MapEntry).key = e'.key := fun e' he' => by rw [hj] at he'; cases he'; exact h3.symm
    have hbo : seen.contains e0.born = true := by
      cases hc : seen.contains e0.born with
      | true => rfl
      | false =>
        have hm : e0 ∈ (leftOf es seen).toList := by
          unfold leftOf
          rw [Array.toList_filter, List.mem_filter]
          exact ⟨List.mem_of_getElem? h2, by rw [hc]; rfl⟩
        have h5 : (e0.key, e0.val) ∈ pairs K left := by rw [← hlf]; exact List.mem_map.2 ⟨e0, hm, rfl⟩
        obtain ⟨p, hp, hpe⟩ := List.mem_map.1 h5
        have h6 : K p.1 = K x := (congrArg Prod.fst hpe).trans h3
        exact (hno p hp (hK.inj h6)).elim
    have hlk : l.lookup x = some e0.val := lookup_at hn (List.mem_of_getElem? h4)
    refine ⟨setBlock w b (.map (es.modify j (fun e' => { e' with key := K x, val := v })) clock), ?_, ⟨_, _, since, seen, c0, (heap_set hb).1, stamped_modify hs _ _ (fun _ _ => rfl) (fun e' _ he' => hkeyf e' he'), ?_, ?_, ?_, ?_, hsc, hsk, ?_, ?_⟩, keeps_set hb, size_set _⟩
    · simp [Instr.mapUpdate, run_underlying ht, MapKept.run_getObj_map hb, hK.law.check w false hlx, h1, hj, h3, hK.law.stays w hlx, MapKept.run_setObj_map _ hb, Result.andThen, setBlock]
    · unfold putL
      rw [hlk, Option.isSome_some, if_pos rfl]
      apply List.ext_getElem?
      intro i
      have hei : (es.toList[i]?).map (fun e => (e.key, e.val)) = (l[i]?).map fun p => (K p.1, p.2) := by
        have := congrArg (fun q => q[i]?) he
        simpa [pairs] using this
      simp only [pairs, List.getElem?_map, Array.getElem?_toList, Array.getElem?_modify]
      by_cases hij : j = i
      · subst hij
        rw [h4, hj]
        simp
      · rw [if_neg hij, ← Array.getElem?_toList, hei]
        cases hl : l[i]? with
        | none => rfl
        | some p =>
          have hne : p.1 ≠ x := fun e1 => by
            have h5 : (l.map (·.1))[i]? = some x := by rw [List.getElem?_map, hl, ← e1]; rfl
            have h6 : (l.map (·.1))[j]? = some x := by rw [List.getElem?_map, h4]; rfl
            exact hij ((List.getElem?_inj (by exact (List.getElem?_eq_some_iff.1 h6).1) hn).1 (h6.trans h5.symm))
          simp [hne]
    · unfold putL
      rw [hlk, Option.isSome_some, if_pos rfl]
      intro p hp
      obtain ⟨q, hq, rfl⟩ := List.mem_map.1 hp
      split
      · exact hx
      · exact ho q hq
    · exact ((heap_set hb).2 r hne).trans hr
    · intro y hy
      rw [Array.toList_modify] at hy
      obtain ⟨i, hi⟩ := List.getElem?_of_mem hy
      rw [List.getElem?_modify] at hi
      cases hei : es.toList[i]? with
      | none => rw [hei] at hi; simp at hi
      | some e9 =>
        rw [hei] at hi
        have h9 := hold e9 (List.mem_of_getElem? hei)
        by_cases hij : j = i
        · simp [hij] at hi; rw [← hi]; exact h9
        · simp [hij] at hi; rw [← hi]; exact h9
    · rw [← hlf]
      congr 1
      unfold leftOf
      rw [Array.toList_filter, Array.toList_filter, Array.toList_modify]
      exact filter_modify h2 (by rw [hbo]; rfl) (by dsimp only; rw [hbo]; rfl)
    · intro p hp
      unfold putL
      rw [hlk, Option.isSome_some, if_pos rfl]
      exact List.mem_map.2 ⟨p, hsub p hp, by rw [if_neg (hno p hp)]⟩
end
section
variable {P : Program} {k : TypeId} {κ : Type} {K : κ → Value} {ok : κ → Prop} {w : World} {ops : Array Oper} {rest : List Oper} {a : Act} {Q : Exit → Act → World → Prop} {d : Option Tmp} {ty : TypeId} {ps : String} {af : Array Edge}
theorem wpList_iterPut [DecidableEq κ] {m x v : Operand} {t e : TypeId} (hK : MKey P k K ok) (ht : P.underlying t = some (.map k e)) (b r : Nat) (l left : List (κ × Value)) (y : κ) (u : Value) (hm : a.eval m = .map (some b)) (hx : a.eval x = K y) (hv : a.eval v = u) (h : IterIs K ok w b r l left) (hy : ok y) (hin : ∃ v0, (y, v0) ∈ l) (hno : ∀ p ∈ left, p.1 ≠ y)
    (hq : ∀ w', IterIs K ok w' b r (putL l y u) left → Keeps (fun q => q = b) w w' → w'.heap.size = w.heap.size → wpList P ops Q rest (a.put d undef) w') :
    wpList P ops Q ({ dst := d, op := .mapUpdate t m x v, type := ty, pos := ps, after := af, guard := none } :: rest) a w := by
  refine wpList_plain rfl fun K' hK' => ?_
  obtain ⟨w', hrun, r1, r2, r3⟩ := h.put hK ht hy u hin hno
  unfold Oper.wp
  simp [execOp, hm, hx, hv, hrun, Result.andThen]
  exact hK' _ _ (hq w' r1 r2 r3)
end
end Mem
end Go.Proofs.Ytiibgkgbghganaa
