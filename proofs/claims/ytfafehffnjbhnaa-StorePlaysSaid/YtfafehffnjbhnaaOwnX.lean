/- Slices of the call's own, once more: append within the room, clear, one element stored. Plain lemmas over any program. -/
import Derived.Test.YtfafehffnjbhnaaAgg2
namespace Go.Proofs.Ytfafehffnjbhnaa
open Go.RowKit
set_option linter.unusedVariables false
set_option linter.unusedSimpArgs false
namespace Mem
section
variable {P : Program} {w : World}
/-- append within the room -/
theorem run_app_in {t e : TypeId} {sz bytes : Nat} (hE : Elem P t e sz bytes) (ty : TypeId) (A : Option Addr) (n c : Nat) (xs : List Value) (hown : Own w e sz A n c xs)
    (B : Nat) (A2 : Option Addr) (m c2 : Nat) (news : List Value) (hr : Rd w B A2 news) (hl : news.length = m * sz) (h1 : ∀ u ∈ news, u.oneCell' = true) (hroom : n + m ≤ c) :
    ∃ w', (Builtin.append_ #[t, t] ty #[.slice A n c, .slice A2 m c2]).run P w = .ok (.slice A (n + m) c) w' ∧ Own w' e sz A (n + m) c (xs ++ news) ∧ w.grownBy w' (blk A) ∧ w'.heap.size = w.heap.size := by
  obtain ⟨ht, hsz, i, z, hi, hz, rfl, rfl, hzs⟩ := hE
  have hlen : (xs ++ news).length = (n + m) * i.size := by rw [List.length_append, hown.1, hl, Nat.add_mul]
  by_cases hm : m = 0
  · subst hm
    have hn : news = [] := List.eq_nil_of_length_eq_zero (by simpa using hl)
    subst hn
    refine ⟨w, ?_, by simpa using hown, ⟨rfl, rfl, rfl, Nat.le_refl _, fun _ _ _ => rfl⟩, rfl⟩
    have hf : (Builtin.firstCells i.size 0 (.slice A2 0 c2)).run P w = .ok #[] w := by
      cases A2 with
      | none => exact run_firstCells_none w _ _ _ _
      | some b => exact run_firstCells_some (P := P) w i.size 0 b 0 c2 [] (by simp) (by simp)
    rcases hown.2 with ⟨rfl, rfl, rfl⟩ | ⟨g, o, cur, rfl, hg, hnc, _⟩
    · simp [Builtin.append_, run_underlying ht, sizeOf, typeInfo, hi, Builtin.lenOf, hf]
    · simp [Builtin.append_, run_underlying ht, sizeOf, typeInfo, hi, Builtin.lenOf, hnc, hf, storeCells]
  · have hne : news ≠ [] := by
      intro h
      rw [h] at hl
      simp only [List.length_nil] at hl
      have := Nat.mul_pos (Nat.pos_of_ne_zero hm) hsz
      omega
    rcases hr with hr | ⟨b, o2, rfl, _, hr⟩
    · exact absurd hr hne
    have hnews : ∀ j u, news[j]? = some u → w.cell? ((⟨b, o2, none⟩ : Addr).add j) = some u := fun j u hu => by rw [add_flat]; exact hr j u hu
    rcases hown.2 with ⟨rfl, rfl, rfl⟩ | ⟨g, o, cur, rfl, hg, hnc, hcm, hcs, hcell⟩
    · omega
    · have hfit : n * i.size + news.length ≤ c * i.size := by rw [hl, ← Nat.add_mul]; exact Nat.mul_le_mul_right _ hroom
      have hf := run_firstCells_some (P := P) w i.size m ⟨b, o2, none⟩ m c2 news hl hnews
      have hst := run_storeCells_at P g (o + n * i.size) e news 0 cur w hg (by omega) h1
      simp only [Nat.add_zero] at hst
      refine ⟨w.setRow g (cur.toList.take (o + n * i.size) ++ news ++ cur.toList.drop (o + n * i.size + news.length)).toArray, ?_, ⟨hlen, .inr ⟨g, o, _, rfl, setRow_heap w g cur _ e _ hg, hroom, hcm, ?_, fun j u hu => ?_⟩⟩, ⟨rfl, rfl, rfl, by simp, fun k _ hk => setRow_other w g k _ (fun e => hk (by simp [blk, e]))⟩, by simp⟩
      · simp [Builtin.append_, run_underlying ht, sizeOf, typeInfo, hi, Builtin.lenOf, hroom, hf, add_flat, hst]
      · simp only [List.size_toArray, List.length_append, List.length_take, List.length_drop, Array.length_toList]
        omega
      · simp only [List.getElem?_toArray]
        have hxl := hown.1
        by_cases hj : j < xs.length
        · rw [List.getElem?_append_left (by simp; omega), List.getElem?_append_left (by simp; omega), List.getElem?_take, if_pos (by omega)]
          rw [List.getElem?_append_left hj] at hu
          simpa using hcell j u hu
        · have hj2 : j < (xs ++ news).length := (List.getElem?_eq_some_iff.1 hu).1
          rw [List.length_append] at hj2
          rw [List.getElem?_append_right (by omega)] at hu
          rw [List.getElem?_append_left (by simp; omega), List.getElem?_append_right (by simp; omega), ← hu]
          congr 1
          simp only [List.length_take, Array.length_toList]
          omega
/-- a cell of the room, stored -/
theorem Own.setRoom {e : TypeId} {sz n c g o : Nat} {xs : List Value} (h : Own w e sz (some ⟨g, o, none⟩) n c xs) (q : Nat) (hq : n * sz ≤ q) (u : Value) : Own (w.setCell ⟨g, o + q, none⟩ u) e sz (some ⟨g, o, none⟩) n c xs := by
  refine ⟨h.1, ?_⟩
  rcases h.2 with ⟨h0, _⟩ | ⟨g', o', cur, h0, hg, hnc, hcm, hcs, hcell⟩
  · cases h0
  · cases h0
    refine .inr ⟨g, o, cur.setIfInBounds (o + q) u, rfl, ?_, hnc, hcm, by simpa using hcs, fun i v hv => ?_⟩
    · simp [World.setCell, Array.getElem?_modify, hg]
    · have hi : i < xs.length := (List.getElem?_eq_some_iff.1 hv).1
      rw [h.1] at hi
      rw [Array.getElem?_setIfInBounds_ne (by omega)]
      exact hcell i v hv
theorem setAll_room {e : TypeId} {sz n c g o : Nat} {xs : List Value} : ∀ (ys : List Value) (q : Nat), n * sz ≤ q → ∀ {w : World}, Own w e sz (some ⟨g, o, none⟩) n c xs → Own (setAll g (o + q) ys w) e sz (some ⟨g, o, none⟩) n c xs
  | [], q, hq, w, h => h
  | y :: ys, q, hq, w, h => by
    have := setAll_room ys (q + 1) (by omega) (h.setRoom q hq y)
    simpa [setAll, Nat.add_assoc] using this
theorem Own.some_cell {e : TypeId} {sz n c g o : Nat} {xs : List Value} (h : Own w e sz (some ⟨g, o, none⟩) n c xs) {q : Nat} (hq : q < c * sz) : (w.cell? ⟨g, o + q, none⟩).isSome = true := by
  rcases h.2 with ⟨h0, _⟩ | ⟨g', o', cur, h0, hg, hnc, hcm, hcs, hcell⟩
  · cases h0
  · cases h0
    rw [cell_of_row w g (o + q) cur e (0, 0) hg, Array.getElem?_eq_getElem (by omega)]; rfl
theorem cells_length {z : Value} {sz : Nat} (hz : z.cells.size = sz) (m : Nat) : (Builtin.zeroCells z.cells m).toList.length = m * sz := by
  rw [Array.length_toList, size_zeroCells, hz]
theorem zero_one {z : Value} (h1 : ∀ y ∈ z.cells.toList, y.oneCell' = true) (m : Nat) : ∀ y ∈ (Builtin.zeroCells z.cells m).toList, y.oneCell' = true := by
  intro y hy
  simp only [Builtin.zeroCells, Array.toList_map, List.mem_map, Array.toList_range, List.mem_range] at hy
  obtain ⟨i, hi, rfl⟩ := hy
  have hs : 0 < z.cells.size := by
    rcases Nat.eq_zero_or_pos z.cells.size with h0 | h0
    · rw [h0] at hi; omega
    · exact h0
  have hlt := Nat.mod_lt i hs
  rw [getElem!_pos z.cells (i % z.cells.size) hlt]
  exact h1 _ (by simp)
/-- elements of the room, cleared -/
theorem run_clear {t e : TypeId} {z : Value} {sz : Nat} (ht : P.underlying t = some (.slice e)) (hi : (P.info? e).map (fun i => (i.zero, i.size)) = some (some z, sz)) (hzs : z.cells.size = sz) (hz1 : ∀ y ∈ z.cells.toList, y.oneCell' = true) (ty : TypeId)
    {n c g o : Nat} {xs : List Value} (hown : Own w e sz (some ⟨g, o, none⟩) n c xs) (k m c2 : Nat) (A2 : Option Addr) (hA : m = 0 ∨ A2 = some ⟨g, o + k * sz, none⟩) (hk : n ≤ k) (hkm : k + m ≤ c) :
    ∃ w', (Builtin.clear_ #[t] ty #[.slice A2 m c2]).run P w = .ok (.tuple #[]) w' ∧ Own w' e sz (some ⟨g, o, none⟩) n c xs ∧ Keeps (fun k => k = g) w w' ∧ w'.heap.size = w.heap.size := by
  rcases Nat.eq_zero_or_pos m with rfl | hm
  · refine ⟨w, ?_, hown, Keeps.refl _ _, rfl⟩
    cases A2 <;> simp [Builtin.clear_, run_underlying ht]
  · obtain rfl := hA.resolve_left (by omega)
    obtain ⟨m', rfl⟩ : ∃ m', m = m' + 1 := ⟨m - 1, by omega⟩
    cases hie : P.info? e with
    | none => simp [hie] at hi
    | some ie =>
      simp only [hie, Option.map_some, Option.some.injEq, Prod.mk.injEq] at hi
      obtain ⟨hz, hs⟩ := hi
      have hl := cells_length hzs (m' + 1)
      have hst := run_storeAll (P := P) g (o + k * sz) (Builtin.zeroCells z.cells (m' + 1)).toList 0 w (fun j hj => by
        rw [hl] at hj
        rw [Nat.add_zero, Nat.add_assoc]
        refine hown.some_cell ?_
        have : (k + (m' + 1)) * sz ≤ c * sz := Nat.mul_le_mul_right _ hkm
        rw [Nat.add_mul] at this
        omega) (fun i => hown.free i) (zero_one hz1 _)
      rw [Nat.add_zero] at hst
      refine ⟨setAll g (o + k * sz) (Builtin.zeroCells z.cells (m' + 1)).toList w, ?_, setAll_room _ (k * sz) (Nat.mul_le_mul_right _ hk) hown, setAll_keeps _ _ _ _, setAll_size _ _ _ _⟩
      simp [Builtin.clear_, run_underlying ht, zeroValue, typeInfo, hie, hz, hst]
variable {ops : Array Oper} {rest : List Oper} {a : Act} {Q : Exit → Act → World → Prop} {d : Option Tmp} {ty : TypeId} {ps : String} {af : Array Edge}
theorem wpList_clear {o : Oper} (hw : Region.wanted o (yielded ops a.tmps) = true) (x : Operand) (t : TypeId) (ho : o.op = .call { callee := .builtin .clear, args := #[x], argTypes := #[t] })
    {e : TypeId} {z : Value} {sz : Nat} (ht : P.underlying t = some (.slice e)) (hi : (P.info? e).map (fun i => (i.zero, i.size)) = some (some z, sz)) (hzs : z.cells.size = sz) (hz1 : ∀ y ∈ z.cells.toList, y.oneCell' = true)
    (n c g of : Nat) (xs : List Value) (k m c2 : Nat) (A2 : Option Addr) (hx : a.eval x = .slice A2 m c2)
    (h : ∀ w', Own w' e sz (some ⟨g, of, none⟩) n c xs → Keeps (fun k => k = g) w w' → w'.heap.size = w.heap.size → wpList P ops Q rest (a.put o.dst (.tuple #[])) w')
    (hown : Own w e sz (some ⟨g, of, none⟩) n c xs) (hA : m = 0 ∨ A2 = some ⟨g, of + k * sz, none⟩) (hk : n ≤ k) (hkm : k + m ≤ c) : wpList P ops Q (o :: rest) a w := by
  obtain ⟨w', hrun, h1, h2, h3⟩ := run_clear (P := P) ht hi hzs hz1 o.type hown k m c2 A2 hA hk hkm
  unfold wpList
  rw [if_pos hw]
  refine .inl ?_
  unfold Oper.wp execOp
  simp only [ho, resolve, invoke, builtin, Sem.run_bind, Sem.run_pure, Result.andThen_ok, List.map_toArray, List.map_cons, List.map_nil, hx, hrun]
  exact h w' h1 h2 h3
theorem wp_app_in {o : Oper} {K : Act → World → Prop} (s x : Operand) (t : TypeId)
    (ho : o.op = .call { callee := .builtin .append, args := #[s, x], argTypes := #[t, t] })
    {e : TypeId} {sz bytes : Nat} (hE : Elem P t e sz bytes) (A : Option Addr) (n c : Nat) (xs : List Value) (hs : a.eval s = .slice A n c) (hown : Own w e sz A n c xs)
    (B : Nat) (A2 : Option Addr) (m c2 : Nat) (news : List Value) (hx : a.eval x = .slice A2 m c2) (hr : Rd w B A2 news) (hl : news.length = m * sz) (h1 : ∀ u ∈ news, u.oneCell' = true) (hroom : n + m ≤ c)
    (h : ∀ w', Own w' e sz A (n + m) c (xs ++ news) → w.grownBy w' (blk A) → w'.heap.size = w.heap.size → K (a.put o.dst (.slice A (n + m) c)) w') : o.wp P a w K Q := by
  obtain ⟨w', hrun, h2, h3, h4⟩ := run_app_in (P := P) hE o.type A n c xs hown B A2 m c2 news hr hl h1 hroom
  unfold Oper.wp execOp
  simp only [ho, resolve, invoke, builtin, Sem.run_bind, Sem.run_pure, Result.andThen_ok, List.map_toArray, List.map_cons, List.map_nil, hs, hx, hrun]
  exact h w' h2 h3 h4
theorem wpList_app_in {o : Oper} (hw : Region.wanted o (yielded ops a.tmps) = true) (s x : Operand) (t : TypeId)
    (ho : o.op = .call { callee := .builtin .append, args := #[s, x], argTypes := #[t, t] })
    {e : TypeId} {sz bytes : Nat} (hE : Elem P t e sz bytes) (A : Option Addr) (n c : Nat) (xs : List Value) (hs : a.eval s = .slice A n c)
    (B : Nat) (A2 : Option Addr) (m c2 : Nat) (news : List Value) (hx : a.eval x = .slice A2 m c2)
    (h : ∀ w', Own w' e sz A (n + m) c (xs ++ news) → w.grownBy w' (blk A) → w'.heap.size = w.heap.size → wpList P ops Q rest (a.put o.dst (.slice A (n + m) c)) w')
    (hown : Own w e sz A n c xs) (hr : Rd w B A2 news) (hl : news.length = m * sz) (h1 : ∀ u ∈ news, u.oneCell' = true) (hroom : n + m ≤ c) : wpList P ops Q (o :: rest) a w := by
  unfold wpList
  rw [if_pos hw]
  exact .inl (wp_app_in s x t ho hE A n c xs hs hown B A2 m c2 news hx hr hl h1 hroom h)
/-- a value of many cells is stored as an element of a slice of the call's own -/
theorem store_elem {x y : Operand} (t : TypeId) (sz : Nat) (hA : Agg P t sz) (e : TypeId) (n c g of k : Nat) (xs ys : List Value) (hx : a.eval x = .pointer (some ⟨g, of + k * sz, none⟩)) (hy : a.eval y = .agg ys.toArray) (hb : Own w e sz (some ⟨g, of, none⟩) n c xs) (hl : ys.length = sz) (hk : k < n) (h3 : ∀ y ∈ ys, y.oneCell' = true)
    (h : ∀ w', Own w' e sz (some ⟨g, of, none⟩) n c (xs.take (k * sz) ++ ys ++ xs.drop (k * sz + ys.length)) → Keeps (fun k => k = g) w w' → w'.heap.size = w.heap.size → wpList P ops Q rest a w') :
    wpList P ops Q ({ dst := none, op := .store t x y, type := ty, pos := ps, after := af, guard := none } :: rest) a w := by
  have hkn : k * sz + ys.length ≤ n * sz := by rw [hl, ← Nat.succ_mul]; exact Nat.mul_le_mul_right _ hk
  have hc := hb.le
  have hnc : n * sz ≤ c * sz := Nat.mul_le_mul_right _ hc
  refine wpList_plain rfl fun _ hK => wp_storeAgg t sz hA x y rfl g (of + k * sz) ys hx hy hl (fun j hj => by
    rw [Nat.add_assoc]
    exact hb.some_cell (by omega)) (fun i => hb.free i) h3 (hK _ _ (h _ ?_ (setAll_keeps _ _ _ _) (setAll_size _ _ _ _)))
  exact setAll_own ys xs (k * sz) (by rw [hb.len]; exact hkn) hb
end
theorem flat_drop {α : Type} {f : α → List Value} {sz : Nat} (hf : ∀ a, (f a).length = sz) : ∀ (l : List α) (k : Nat), (l.flatMap f).drop (k * sz) = (l.drop k).flatMap f
  | [], k => by simp
  | a :: l, 0 => by simp
  | a :: l, k + 1 => by
    simp only [List.flatMap_cons, List.drop_succ_cons]
    rw [List.drop_append, hf, List.drop_of_length_le (by rw [hf, Nat.add_mul]; omega), show (k + 1) * sz - sz = k * sz by rw [Nat.add_mul]; omega, flat_drop hf l k, List.nil_append]
end Mem
end Go.Proofs.Ytfafehffnjbhnaa
