/- Lengths of what a store holds; columns opened. Plain lemmas. -/
import Derived.Test.YtfafehffnjbhnaaStore7
namespace Go.Proofs.Ytfafehffnjbhnaa
open Go.ChangeShapes Go.WideShapes Go.ChangeAt Go.RowKit
set_option linter.unusedVariables false
set_option linter.unusedSimpArgs false
namespace Sto
open Vec
theorem keys_length (rs : List LR) : (sortK (rs.map (·.l.k))).length = rs.length := by rw [sortK_len, List.length_map]
theorem rs_le : ∀ {rs : List LR}, (∀ r ∈ rs, r.l.es ≠ []) → rs.length ≤ lenS (states rs)
  | [], _ => Nat.zero_le _
  | r :: rs, h => by
    have h1 := rs_le (rs := rs) fun q hq => h q (List.mem_cons_of_mem _ hq)
    have h2 : lenS (states (r :: rs)) = r.l.es.length + lenS (states rs) := by simp [lenS, states]
    have h3 : 0 < r.l.es.length := List.length_pos_iff.2 (h r List.mem_cons_self)
    rw [h2, List.length_cons]
    omega
theorem put_le (rng : Int) (mk : Col) (st : List Ls) (news : List Ent) : lenS (putL rng mk st news).1 ≤ lenS st + news.length := by
  unfold putL
  have : ∀ (l : List Ent) (p : List Ls × Nat), lenS (l.foldl (putStep rng mk) p).1 ≤ lenS p.1 + l.length := by
    intro l
    induction l with
    | nil => intro p; exact Nat.le_refl _
    | cons a l ih =>
      intro p
      refine Nat.le_trans (ih _) ?_
      have h1 : lenS (putStep rng mk p a).1 ≤ lenS p.1 + 1 := by
        unfold putStep
        split
        · exact Nat.le_of_eq (putS_len _ _)
        · exact Nat.le_succ _
      rw [List.length_cons]
      omega
  exact this news (st, 0)
theorem okS_of {rng : Int} {rs : List LR} (h : Good rng (states rs)) : ∀ k ∈ rs.map (·.l.k), Sto.okS k := fun k hk => by
  obtain ⟨r, hr, rfl⟩ := List.mem_map.1 hk
  obtain ⟨x, hx⟩ := List.exists_mem_of_ne_nil _ (h.hne r hr)
  obtain ⟨h1, _, h2⟩ := h.ok r.l (List.mem_map.2 ⟨r, hr, rfl⟩) x hx
  unfold rightE Vec.g3 at h1
  simp only [Bool.and_eq_true, decide_eq_true_eq] at h1
  rw [← h2]
  unfold Sto.okS maxLen
  omega
theorem states_keys (rs : List LR) : (states rs).map (·.k) = rs.map (·.l.k) := by unfold states; rw [List.map_map]; rfl
theorem under0 {e : Ent} (h : rightE e = true) : under col0 e = false := by
  unfold rightE g1 at h
  simp only [Bool.and_eq_true, decide_eq_true_eq] at h
  unfold under
  rw [decide_eq_false_iff_not]
  have h0 : col0.at e.dc.toNat = 0 := by
    unfold Col.at col0
    split <;> rfl
  rw [h0]
  omega
theorem neq_col (x y : Col) (W : World) : (binOp .neq 26 (C x) (C y)).run Try.prog W = .ok (.bool (!eqCol x y)) W := by
  rw [run_neq_struct, eqIn_arr 26 Try.underlying26 9998]
  rfl
theorem colCells_length (c : Col) : (colCells c).length = 3 := rfl
end Sto
section
variable {H : Type} {enc : TypeId × Value → H} {W : World}
set_option maxRecDepth 20000 in
theorem open_cols {base : Nat} {v : Value} {d : DataW H} {p : List MemPlace} (o : Value.okWide Try.prog W .any base 61 v) (k : DataW.Trod enc Try.prog W 0 (fun _ => true) true 61 v d p) (hz : (d.weights Try.prog 61).all (· ≤ reachBytes) = true) :
    ∃ A c, ∃ cs : List Vec.Col, v = .slice A cs.length c ∧ cs.length ≤ c ∧ c ≤ 8796093022208 ∧ Mem.Rd W W.heap.size A (cs.flatMap Vec.colCells) := by
  obtain ⟨A, c, l, h1, h2, h3, h4, h5, _⟩ := Mem.open_slice_sz (α := Vec.Col) (sz := 3) Try.underlying61 (by kernel_rfl) (by omega) Vec.colCells (fun _ => rfl) (fun _ => True) (fun n cs x h hl hz => by obtain ⟨c, hc⟩ := dec_arr Try.underlying26 h hl; exact ⟨c, hc, trivial⟩) o k hz
  have kb : Try.prog.bytesOf 26 = 24 := by kernel_rfl
  rw [kb] at h3
  unfold reachBytes at h3
  exact ⟨A, c, l, h1, h2, by omega, h4⟩
set_option maxRecDepth 20000 in
theorem open_col {base : Nat} {v : Value} {d : DataW H} {p : List MemPlace} (o : Value.okWide Try.prog W .any base 26 v) (k : DataW.Trod enc Try.prog W 0 (fun _ => true) true 26 v d p) : ∃ c : Vec.Col, v = Vec.C c := by
  obtain ⟨cs, rfl, hl⟩ := agg_array Try.underlying26 o
  obtain ⟨m, hm⟩ := k
  obtain ⟨x, hx⟩ := dec_arr (x := (d, p)) Try.underlying26 hm (by rw [show (Value.agg cs.toArray).cells.toList = cs by simp [Value.cells], hl]; kernel_rfl)
  exact ⟨x, by rw [show cs = Vec.colCells x from by simpa [Value.cells] using hx]⟩
end
end Go.Proofs.Ytfafehffnjbhnaa
