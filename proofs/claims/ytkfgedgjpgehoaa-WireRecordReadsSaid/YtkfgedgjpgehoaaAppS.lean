/- append of a string's bytes onto a slice of the call's own, at any offset; string(b) of bytes that are read. Plain lemmas over any program. -/
import Derived.Test.YtkfgedgjpgehoaaMem
import Derived.Lib.AppendStr
import Derived.Laws.IdiomStrings
namespace Go.Proofs.Ytkfgedgjpgehoaa
open Go.RowKit
set_option linter.unusedVariables false
set_option linter.unusedSimpArgs false
namespace Mem
open Go.Lib
section
variable {P : Program} (w : World)
theorem strCells_bytes (s : ByteArray) : strCells s = s.data.toList.map byteV := rfl
theorem run_appS {t u e : TypeId} {bytes : Nat} (hE : Elem P t e 1 bytes) (hu : P.underlying u = some .string) (ty : TypeId) (A : Option Addr) (n c : Nat) (xs : List Value) (hown : Own w e 1 A n c xs)
    (s : ByteArray) (h63 : n + s.size ≤ maxLen) (hbytes : (n + s.size) * bytes ≤ 140737488355328) :
    ∃ A' c' w', (Builtin.append_ #[t, u] ty #[.slice A n c, .string s]).run P w = .ok (.slice A' (n + s.size) c') w' ∧ Own w' e 1 A' (n + s.size) c' (xs ++ s.data.toList.map byteV) ∧ w.grownBy w' (blk A) ∧
      (A' = A ∨ A' = some ⟨w.heap.size, 0, none⟩) := by
  obtain ⟨ht, hsz, i, z, hi, hz, hsi, rfl, hzs⟩ := hE
  have hsmall : n + s.size ≤ 9223372036854775807 := by simp only [maxLen] at h63; omega
  rw [← strCells_bytes]
  have hl : (strCells s).length = s.size := strCells_length s
  have hlen : (xs ++ strCells s).length = (n + s.size) * 1 := by rw [List.length_append, hown.1, hl]; omega
  have hf := fun W => run_firstCells_string (P := P) W 1 s
  by_cases hm : s.size = 0
  · have hn : strCells s = [] := List.eq_nil_of_length_eq_zero (by omega)
    have hf0 := hf w
    rw [hn] at hf0 ⊢
    rw [hm] at hf0 ⊢
    refine ⟨A, c, w, ?_, by simpa using hown, ⟨rfl, rfl, rfl, Nat.le_refl _, fun _ _ _ => rfl⟩, .inl rfl⟩
    rcases hown.2 with ⟨rfl, rfl, rfl⟩ | ⟨g, o, cur, rfl, hg, hnc, _⟩
    · simp [Builtin.append_, run_underlying ht, run_underlying hu, sizeOf, typeInfo, hi, hsi, Builtin.lenOf, hm, hf0]
    · simp [Builtin.append_, run_underlying ht, run_underlying hu, sizeOf, typeInfo, hi, hsi, Builtin.lenOf, hm, hnc, hf0, storeCells]
  · have grown : ∀ (old : Nat), old < n + s.size → ∀ (row : Option Nat),
        Own (w.drew.alloc (.cells (xs.toArray ++ (strCells s).toArray ++ Builtin.zeroCells z.cells (grownCap w (n + s.size) old e - (n + s.size))) e)) e 1 (some ⟨w.heap.size, 0, none⟩) (n + s.size) (grownCap w (n + s.size) old e) (xs ++ strCells s) ∧
        w.grownBy (w.drew.alloc (.cells (xs.toArray ++ (strCells s).toArray ++ Builtin.zeroCells z.cells (grownCap w (n + s.size) old e - (n + s.size))) e)) row := by
      intro old ho row
      have hge := grownCap_ge w (n + s.size) old e
      have hcm : grownCap w (n + s.size) old e ≤ maxLen := grownCap_le_maxLen w (n + s.size) old e h63
      refine ⟨⟨hlen, .inr ⟨w.heap.size, 0, _, rfl, heap_alloc_new w.drew _, hge, hcm, ?_, fun j u hu => ?_⟩⟩, ⟨rfl, rfl, rfl, by simp, fun k hk _ => _root_.Go.heap_alloc_old w.drew _ hk⟩⟩
      · simp only [Array.size_append, List.size_toArray, size_zeroCells, hzs, hown.1, hl]
        omega
      · have hj : j < (xs ++ strCells s).length := (List.getElem?_eq_some_iff.1 hu).1
        rw [Nat.zero_add, Array.getElem?_append_left (by simpa using hj), ← hu]
        simp
    rcases hown.2 with ⟨rfl, rfl, rfl⟩ | ⟨g, o, cur, rfl, hg, hnc, hcm, hcs, hcell⟩
    · have hx : xs = [] := List.eq_nil_of_length_eq_zero (by simpa using hown.1)
      subst hx
      have hr := run_append_nil_string (P := P) w t u ty e i z ht hu hi hz s (by omega) (by omega) (by have hb := hbytes; simp only [Nat.zero_add] at hb; omega)
      have hgr := grown 0 (by omega) (blk none)
      simp only [Nat.zero_add, List.nil_append, Array.empty_append] at hgr ⊢
      have e1 : (s.data.map (fun b => Value.int .u8 b.toNat)) = (strCells s).toArray := by apply Array.ext'; simp [strCells]
      rw [e1] at hr
      exact ⟨_, _, _, hr, hgr.1, hgr.2, .inr rfl⟩
    · by_cases hroom : n + s.size ≤ c
      · have hst := run_storeCells_at P g (o + n) e (strCells s) 0 cur w hg (by omega) (strCells_oneCell s)
        simp only [Nat.add_zero] at hst
        refine ⟨some ⟨g, o, none⟩, c, w.setRow g (cur.toList.take (o + n) ++ strCells s ++ cur.toList.drop (o + n + (strCells s).length)).toArray, ?_, ⟨hlen, .inr ⟨g, o, _, rfl, setRow_heap w g cur _ e _ hg, hroom, hcm, ?_, fun j u hu => ?_⟩⟩, ⟨rfl, rfl, rfl, by simp, fun k _ hk => setRow_other w g k _ (fun e => hk (by rw [e]; rfl))⟩, .inl rfl⟩
        · simp [Builtin.append_, run_underlying ht, run_underlying hu, sizeOf, typeInfo, hi, hsi, Builtin.lenOf, hroom, hf, add_flat, hst]
        · simp only [List.size_toArray, List.length_append, List.length_take, List.length_drop, Array.length_toList]
          omega
        · simp only [List.getElem?_toArray]
          have hxl := hown.1
          by_cases hj : j < xs.length
          · rw [List.getElem?_append_left (by simp; omega), List.getElem?_append_left (by simp; omega), List.getElem?_take, if_pos (by omega)]
            rw [List.getElem?_append_left hj] at hu
            simpa using hcell j u hu
          · have hj2 : j < (xs ++ strCells s).length := (List.getElem?_eq_some_iff.1 hu).1
            rw [List.length_append] at hj2
            rw [List.getElem?_append_right (by omega)] at hu
            rw [List.getElem?_append_left (by simp; omega), List.getElem?_append_right (by simp; omega), ← hu]
            congr 1
            simp only [List.length_take, Array.length_toList]
            omega
      · have holds : ∀ j u, xs[j]? = some u → w.cell? ((⟨g, o, none⟩ : Addr).add j) = some u := fun j u hu => by rw [add_flat, cell_of_row w g (o + j) cur e (0, 0) hg]; exact hcell j u hu
        have hr := run_append_grow_string (P := P) w t u ty e i z ht hu hi hz ⟨g, o, none⟩ n c xs (by rw [hown.1, hsi]) holds s (by omega) (by omega) (growslice_fits (by omega) hbytes)
        have hgr := grown c (by omega) (blk (some ⟨g, o, none⟩))
        exact ⟨_, _, _, hr, hgr.1, hgr.2, .inr rfl⟩
theorem wp_appS {o : Oper} {a : Act} {K : Act → World → Prop} {Q : Exit → Act → World → Prop} (s x : Operand) (t u : TypeId)
    (ho : o.op = .call { callee := .builtin .append, args := #[s, x], argTypes := #[t, u] })
    {e : TypeId} {bytes : Nat} (hE : Elem P t e 1 bytes) (hu : P.underlying u = some .string) (A : Option Addr) (n c : Nat) (xs : List Value) (hs : a.eval s = .slice A n c) (hown : Own w e 1 A n c xs)
    (st : ByteArray) (hx : a.eval x = .string st) (h63 : n + st.size ≤ maxLen) (hbytes : (n + st.size) * bytes ≤ 140737488355328)
    (h : ∀ A' c' w', Own w' e 1 A' (n + st.size) c' (xs ++ st.data.toList.map byteV) → w.grownBy w' (blk A) → (A' = A ∨ A' = some ⟨w.heap.size, 0, none⟩) → K (a.put o.dst (.slice A' (n + st.size) c')) w') : o.wp P a w K Q := by
  obtain ⟨A', c', w', hrun, h2, h3, h4⟩ := run_appS (P := P) w hE hu o.type A n c xs hown st h63 hbytes
  unfold Oper.wp execOp
  simp only [ho, resolve, invoke, builtin, Sem.run_bind, Sem.run_pure, Result.andThen_ok, List.map_toArray, List.map_cons, List.map_nil, hs, hx, hrun]
  exact h A' c' w' h2 h3 h4
theorem wpList_appS {ops : Array Oper} {rest : List Oper} {o : Oper} {a : Act} {Q : Exit → Act → World → Prop} (hw : Region.wanted o (yielded ops a.tmps) = true) (s x : Operand) (t u : TypeId)
    (ho : o.op = .call { callee := .builtin .append, args := #[s, x], argTypes := #[t, u] })
    {e : TypeId} {bytes : Nat} (hE : Elem P t e 1 bytes) (hu : P.underlying u = some .string) (A : Option Addr) (n c : Nat) (xs : List Value) (hs : a.eval s = .slice A n c)
    (st : ByteArray) (hx : a.eval x = .string st) (h : ∀ A' c' w', Own w' e 1 A' (n + st.size) c' (xs ++ st.data.toList.map byteV) → w.grownBy w' (blk A) → (A' = A ∨ A' = some ⟨w.heap.size, 0, none⟩) → wpList P ops Q rest (a.put o.dst (.slice A' (n + st.size) c')) w')
    (hown : Own w e 1 A n c xs) (h63 : n + st.size ≤ maxLen) (hbytes : (n + st.size) * bytes ≤ 140737488355328) : wpList P ops Q (o :: rest) a w := by
  unfold wpList
  rw [if_pos hw]
  exact .inl (wp_appS w s x t u ho hE hu A n c xs hs hown st hx h63 hbytes fun A' c' w' h2 h3 h4 => h A' c' w' h2 h3 h4)
end
end Mem
end Go.Proofs.Ytkfgedgjpgehoaa
