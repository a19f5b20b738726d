/- The walk of DiskLimits: never more than 64 files, nor more than 2^20 bytes; what is refused turns nothing; what is removed makes room. No conditions. -/
import Derived.Test.YtfpfpdhfnleebaaDisk10
import Derived.Deep.OwnRows
import Derived.Laws.OwnMore
set_option maxRecDepth 8000
namespace Go.Proofs.Ytfpfpdhfnleebaa
open Go.ChangeShapes Go.WideShapes Go.ChangeAt Go.RowKit
set_option linter.unusedVariables false
set_option linter.unusedSimpArgs false
namespace Dk
structure Lim (d : D) (i u fi : Nat) : Prop where
  ok : Ok d i
  syn : ∀ f ∈ d.fs, f.syn = 0
  lt : ∀ f ∈ d.fs, 0 ≤ f.n ∧ f.n < i
  used : usedD d = u
  files : d.fs.length = fi
  loose : looseR d.lo = u
theorem Lim.nil : Lim ⟨[], []⟩ 0 0 0 := ⟨Ok.nil 0, (fun f h => by cases h), (fun f h => by cases h), rfl, rfl, rfl⟩
theorem Lim.no {d : D} {i used files : Nat} (h : Lim d i used files) : findF d.fs (i : Int) = none := by
  unfold findF
  rw [List.find?_eq_none]
  intro f hf he
  have := (h.lt f hf).2
  simp at he
  omega
theorem Lim.yes {d : D} {i used files m : Nat} (h : Lim d i used files) (hi : i ≤ 100) (hf : files < 64 ∧ used + m ≤ 1048576) : appE d i (List.replicate m 0) = 0 ∧ Lim (appD d i (List.replicate m 0)) (i + 1) (used + m) (files + 1) := by
  have h1 : appE d i (List.replicate m 0) = 0 := by
    unfold appE
    rw [if_neg (by omega), if_neg]
    rintro (⟨_, h2⟩ | h2)
    · rw [h.files] at h2; omega
    · rw [h.used, List.length_replicate] at h2; omega
  refine ⟨h1, ?_⟩
  have hok := h.ok.app i (List.replicate m 0)
  unfold appD at hok ⊢
  rw [if_neg (by omega), h.no] at hok ⊢
  dsimp only at hok ⊢
  refine ⟨hok, ?_, ?_, ?_, ?_, ?_⟩
  · intro f hf
    rcases List.mem_append.1 hf with hf | hf
    · exact h.syn f hf
    · simp at hf; subst hf; rfl
  · intro f hf
    rcases List.mem_append.1 hf with hf | hf
    · have := h.lt f hf; omega
    · simp at hf; subst hf; dsimp only; omega
  · have := h.used
    unfold usedD at this ⊢
    rw [List.map_append, List.sum_append, this]; simp
  · rw [List.length_append, h.files]; rfl
  · have := h.loose
    unfold looseR at this ⊢
    rw [List.map_append, List.sum_append, this]; simp
theorem Lim.not {d : D} {i used files m : Nat} (h : Lim d i used files) (hi : i ≤ 100) (hf : ¬ (files < 64 ∧ used + m ≤ 1048576)) : appE d i (List.replicate m 0) = 51 ∧ Lim (appD d i (List.replicate m 0)) (i + 1) used files := by
  have h1 : appE d i (List.replicate m 0) = 51 := by
    unfold appE
    rw [if_neg (by omega), if_pos]
    rw [h.no, h.files, h.used, List.length_replicate]
    by_cases h2 : files < 64
    · exact .inr (by omega)
    · exact .inl ⟨rfl, by omega⟩
  refine ⟨h1, ?_⟩
  have hd : appD d i (List.replicate m 0) = d := by unfold appD; rw [if_pos (by omega)]
  rw [hd]
  exact ⟨h.ok.mono (by omega), h.syn, fun f hf => by have := h.lt f hf; omega, h.used, h.files, h.loose⟩
theorem sortI_head {l : List Int} (hl : l ≠ []) : ∃ x, (sortI l)[0]? = some x ∧ x ∈ l := by
  have h0 : 0 < (sortI l).length := by rw [sortI_len]; exact List.length_pos_iff.2 hl
  refine ⟨(sortI l)[0], List.getElem?_eq_getElem h0, ?_⟩
  exact (List.mergeSort_perm l _).mem_iff.1 (List.getElem_mem h0)
theorem looseR_forget (n : Int) : ∀ lo : List (Int × Nat), looseR lo = looseR (forgetL n lo) + looseOf n lo
  | [] => rfl
  | p :: lo => by
    have ih := looseR_forget n lo
    unfold forgetL Pc.keptL at ih ⊢
    rw [List.filter_cons, looseOf_cons]
    have e : ∀ (q : Int × Nat) (l : List (Int × Nat)), looseR (q :: l) = q.2 + looseR l := fun q l => rfl
    by_cases hp : p.1 = n
    · rw [if_neg (by simp [hp]), if_pos hp, e]; omega
    · rw [if_pos (by simpa using hp), if_neg hp, e, e]; omega
theorem sum_filter_one {n : Int} : ∀ {fs : List Fl} {f : Fl}, (fs.map (·.n)).Nodup → f ∈ fs → f.n = n → (fs.map fun f => f.bs.length).sum = ((fs.filter (fun f => decide (f.n ≠ n))).map fun f => f.bs.length).sum + f.bs.length ∧ fs.length = (fs.filter (fun f => decide (f.n ≠ n))).length + 1
  | [], f, _, h, _ => by cases h
  | g :: fs, f, hn, h, hf => by
    rw [List.map_cons, List.nodup_cons] at hn
    rw [List.filter_cons]
    by_cases hg : g.n = n
    · have hno : ∀ q ∈ fs, q.n ≠ n := fun q hq e => hn.1 (by rw [hg, ← e]; exact List.mem_map.2 ⟨q, hq, rfl⟩)
      have hfg : f = g := by
        rcases List.mem_cons.1 h with rfl | h
        · rfl
        · exact absurd hf (hno f h)
      subst hfg
      rw [if_neg (by simp [hg]), List.filter_eq_self.2 (fun q hq => by simpa using hno q hq)]
      simp; omega
    · have h2 : f ∈ fs := by
        rcases List.mem_cons.1 h with rfl | h
        · exact absurd hf hg
        · exact h
      obtain ⟨h3, h4⟩ := sum_filter_one hn.2 h2 hf
      rw [if_pos (by simpa using hg)]
      simp only [List.map_cons, List.sum_cons, List.length_cons]
      omega
theorem Lim.first {d : D} {i used files : Nat} (h : Lim d i used files) (hf : 0 < files) (hi : i ≤ 100) : ∃ x : Int, ∃ m : Nat, (filesD d)[0]? = some x ∧ 0 ≤ x ∧ x < 100 ∧ lenF d.fs x = m ∧ m ≤ used ∧ Lim (removeD d x) i (used - m) (files - 1) := by
  have hne : d.fs.map (·.n) ≠ [] := by
    intro e
    have := congrArg List.length e
    rw [List.length_map, h.files] at this
    simp at this; omega
  obtain ⟨x, h1, h2⟩ := sortI_head hne
  obtain ⟨f, hfm, rfl⟩ := List.mem_map.1 h2
  have hl := h.lt f hfm
  have hfd := nodup_find h.ok.nd hfm
  obtain ⟨h3, h4⟩ := sum_filter_one h.ok.nd hfm rfl
  have hu := h.used
  have hfl := h.files
  have hlo := h.loose
  have heq := h.ok.eq f hfm
  rw [h.syn f hfm] at heq
  have hfg := looseR_forget f.n d.lo
  unfold usedD at hu
  refine ⟨f.n, f.bs.length, h1, hl.1, by omega, by unfold lenF; rw [hfd], by omega, ?_⟩
  have hok := h.ok.remove f.n
  unfold removeD at hok ⊢
  rw [hfd] at hok ⊢
  dsimp only at hok ⊢
  refine ⟨hok, fun g hg => h.syn g (List.mem_filter.1 hg).1, fun g hg => h.lt g (List.mem_filter.1 hg).1, ?_, ?_, ?_⟩
  · unfold usedD; dsimp only; omega
  · dsimp only; omega
  · dsimp only; omega
theorem low18 (n : Int) : ∃ m : Nat, m ≤ 262143 ∧ bits .and .i64 n 262143 = (m : Int) := by
  refine ⟨(BitVec.ofInt 64 n &&& 262143#64).toNat, ?_, ?_⟩
  · rw [BitVec.toNat_and]; exact Nat.and_le_right
  · show IntKind.i64.wrap ((BitVec.ofInt 64 n &&& BitVec.ofInt 64 262143).toNat : Int) = _
    have h : (BitVec.ofInt 64 n &&& 262143#64).toNat ≤ 262143 := by rw [BitVec.toNat_and]; exact Nat.and_le_right
    rw [show BitVec.ofInt 64 262143 = 262143#64 from rfl, IntKind.wrap_i64]; omega
structure LRel (w1 : World) (g L : Nat) (v4 v5 v6 : Value) (wr : World) : Prop where
  out : ∃ (k used files : Nat) (d : D), k ≤ L ∧ v4 = .int .i64 used ∧ v5 = .int .i64 files ∧ v6 = .int .i64 k ∧ Hid (Lim d k used files) ∧ Hid (Ds w1 (fun _ => False) [(g, d)] wr)
end Dk
theorem u8_info : (Try.prog.info? 5).map (fun i => (i.zero, i.size, i.bytes)) = some (some (.int .u8 0), 1, 1) := by kernel_rfl
theorem run_mk (m : Nat) (hm : m ≤ 262143) (W : World) : (Instr.makeSlice 24 (.int .i64 (m : Int)) (.int .i64 (m : Int))).run Try.prog W = .ok (.slice (some ⟨W.heap.size, 0, none⟩) m m) (W.alloc (.cells (madeCells #[.int .u8 0] m) 5)) :=
  run_make_row' 24 5 (.int .u8 0) 1 Try.underlying24 u8_info rfl .i64 .i64 m (by omega) (by omega) W
theorem run_rem5 (k : Nat) (hk : k ≤ 100) (W : World) : (binOp .rem 3 (.int .i64 (k : Int)) (.int .i64 5)).run Try.prog W = .ok (.int .i64 ((k % 5 : Nat) : Int)) W := by
  have h1 : Int.tmod (k : Int) 5 = ((k % 5 : Nat) : Int) := rfl
  simp [go_sem, h1]
  try omega
theorem run_and18 (x : Int) (m : Nat) (hm : bits .and .i64 x 262143 = (m : Int)) (W : World) : (binOp .and 3 (.int .i64 x) (.int .i64 262143)).run Try.prog W = .ok (.int .i64 (m : Int)) W := by
  simp [go_sem, hm]
end Go.Proofs.Ytfpfpdhfnleebaa
