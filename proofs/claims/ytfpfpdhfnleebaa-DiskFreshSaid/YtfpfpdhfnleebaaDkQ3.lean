/- Disks, plain: what a crash leaves, file by file; what syncs leave. No conditions. -/
import Derived.Test.YtfpfpdhfnleebaaDkQ2
set_option maxRecDepth 8000
namespace Go.Proofs.Ytfpfpdhfnleebaa
set_option linter.unusedVariables false
set_option linter.unusedSimpArgs false
namespace Dq
open Dk (D Fl Ok findF bsD synF usedD looseR crashD crashN cutF filesD syncD updF)
theorem find_map {F : Fl → Fl} (hF : ∀ f, (F f).n = f.n) (n : Int) : ∀ fs : List Fl, findF (fs.map F) n = (findF fs n).map F
  | [] => rfl
  | f :: fs => by
    have ih := find_map hF n fs
    unfold findF at ih ⊢
    rw [List.map_cons, List.find?_cons, List.find?_cons, hF]
    cases h : f.n == n
    · exact ih
    · rfl
theorem crash_find (d : D) (keep n : Int) : findF (crashD d keep).fs n = (findF d.fs n).map fun f => cutF (more ((ex d.lo).take keep.toNat) f) := by
  rw [crashD_eq]
  exact find_map (F := fun f => cutF (more ((ex d.lo).take keep.toNat) f)) (fun _ => rfl) n d.fs
theorem more_le {d : D} {K : Nat} (hok : Ok d K) {f : Fl} (hf : f ∈ d.fs) (k : Nat) : (more ((ex d.lo).take k) f).syn ≤ f.bs.length := by
  have h1 := hok.eq f hf
  rw [← ex_count] at h1
  have h2 : (ex d.lo).count f.n = ((ex d.lo).take k).count f.n + ((ex d.lo).drop k).count f.n := by rw [← List.count_append, List.take_append_drop]
  unfold more
  dsimp only
  omega
/-- a file behind a crash -/
structure Cut (d : D) (keep x : Int) : Prop where
  syn : synF d.fs x ≤ (bsD (crashD d keep) x).length
  le : (bsD (crashD d keep) x).length ≤ (bsD d x).length
  bs : bsD (crashD d keep) x = (bsD d x).take (bsD (crashD d keep) x).length
  all : synF (crashD d keep).fs x = (bsD (crashD d keep) x).length
theorem cut_of {d : D} {K : Nat} (hok : Ok d K) (keep x : Int) : Cut d keep x := by
  have hfd := crash_find d keep x
  cases hf : findF d.fs x with
  | none =>
    rw [hf] at hfd
    have h1 : bsD (crashD d keep) x = [] := by unfold bsD; rw [hfd]; rfl
    have h2 : synF d.fs x = 0 := by unfold synF; rw [hf]
    have h3 : synF (crashD d keep).fs x = 0 := by unfold synF; rw [hfd]; rfl
    refine ⟨by rw [h1, h2]; exact Nat.le_refl _, by rw [h1]; exact Nat.zero_le _, by rw [h1]; rfl, by rw [h1, h3]; rfl⟩
  | some f =>
    rw [hf] at hfd
    obtain ⟨hfm, _⟩ := Dk.find_some hf
    have hm := more_le hok hfm keep.toNat
    have h1 : bsD (crashD d keep) x = f.bs.take (more ((ex d.lo).take keep.toNat) f).syn := by unfold bsD; rw [hfd]; rfl
    have h2 : synF d.fs x = f.syn := by unfold synF; rw [hf]
    have h3 : synF (crashD d keep).fs x = (more ((ex d.lo).take keep.toNat) f).syn := by unfold synF; rw [hfd]; rfl
    have h4 : bsD d x = f.bs := by unfold bsD; rw [hf]
    have hl : (f.bs.take (more ((ex d.lo).take keep.toNat) f).syn).length = (more ((ex d.lo).take keep.toNat) f).syn := by rw [List.length_take]; omega
    have h5 : f.syn ≤ (more ((ex d.lo).take keep.toNat) f).syn := by unfold more; exact Nat.le_add_right _ _
    exact ⟨by rw [h1, h2, hl]; exact h5, by rw [h1, h4, hl]; exact hm, by rw [h1, hl, h4], by rw [h1, h3, hl]⟩
theorem crash_files (d : D) (keep : Int) : filesD (crashD d keep) = filesD d := by
  unfold filesD
  rw [crashD_eq]
  dsimp only
  rw [List.map_map]; rfl
theorem crash_loose (d : D) (keep : Int) : looseR (crashD d keep).lo = 0 := rfl
theorem crashN_loose (d : D) (keep : Int) : crashN d keep = looseR d.lo - keep.toNat := by rw [crashN_eq, ex_len]
theorem used_split {d : D} {K : Nat} (hok : Ok d K) (keep : Int) : usedD (crashD d keep) + crashN d keep = usedD d := by
  rw [crashN_eq, crashD_eq]
  unfold usedD
  dsimp only
  rw [List.map_map]
  have h1 : ∀ f ∈ d.fs, f.bs.length = (cutF (more ((ex d.lo).take keep.toNat) f)).bs.length + ((ex d.lo).drop keep.toNat).count f.n := fun f hf => by
    have h1 := hok.eq f hf
    rw [← ex_count] at h1
    have h2 : (ex d.lo).count f.n = ((ex d.lo).take keep.toNat).count f.n + ((ex d.lo).drop keep.toNat).count f.n := by rw [← List.count_append, List.take_append_drop]
    have h3 := more_le hok hf keep.toNat
    unfold cutF
    dsimp only
    rw [List.length_take, show (more ((ex d.lo).take keep.toNat) f).bs = f.bs from rfl, Nat.min_eq_left h3]
    unfold more
    dsimp only
    omega
  have h2 : (d.fs.map fun f => ((ex d.lo).drop keep.toNat).count f.n).sum = (ex d.lo).length - keep.toNat := by
    rw [sum_count _ _ hok.nd, List.filter_eq_self.2 (fun x hx => ?_), List.length_drop]
    have hx2 := List.mem_of_mem_drop hx
    unfold ex at hx2
    obtain ⟨p, hp, h1⟩ := List.mem_flatMap.1 hx2
    obtain ⟨f, h2, h3⟩ := hok.mem p hp
    have := List.eq_of_mem_replicate h1
    subst this
    simpa using ⟨f, h2, h3⟩
  rw [← h2]
  clear h2
  have : ∀ fs : List Fl, (∀ f ∈ fs, f.bs.length = (cutF (more ((ex d.lo).take keep.toNat) f)).bs.length + ((ex d.lo).drop keep.toNat).count f.n) → (fs.map ((fun f => f.bs.length) ∘ fun f => cutF (more ((ex d.lo).take keep.toNat) f))).sum + (fs.map fun f => ((ex d.lo).drop keep.toNat).count f.n).sum = (fs.map fun f => f.bs.length).sum := by
    intro fs
    induction fs with
    | nil => intro _; rfl
    | cons f fs ih =>
      intro h
      have h3 := h f List.mem_cons_self
      have h4 := ih (fun g hg => h g (List.mem_cons_of_mem _ hg))
      simp only [List.map_cons, List.sum_cons, Function.comp] at h4 ⊢
      omega
  exact this d.fs h1
/-- of two crashes -/
theorem cut_mono {d : D} {K : Nat} (hok : Ok d K) {a b : Int} (h : a ≤ b) (x : Int) : (bsD (crashD d a) x).length ≤ (bsD (crashD d b) x).length := by
  have ha := crash_find d a x
  have hb := crash_find d b x
  cases hf : findF d.fs x with
  | none =>
    rw [hf] at ha hb
    unfold bsD
    rw [ha]
    exact Nat.zero_le _
  | some f =>
    rw [hf] at ha hb
    obtain ⟨hfm, _⟩ := Dk.find_some hf
    have h1 := more_le hok hfm a.toNat
    have h2 := more_le hok hfm b.toNat
    have h3 : (more ((ex d.lo).take a.toNat) f).syn ≤ (more ((ex d.lo).take b.toNat) f).syn := by
      unfold more
      dsimp only
      have : ((ex d.lo).take a.toNat).Sublist ((ex d.lo).take b.toNat) := List.take_sublist_take_left (by omega)
      have := this.count_le f.n
      omega
    unfold bsD
    rw [ha, hb]
    show (f.bs.take _).length ≤ (f.bs.take _).length
    rw [List.length_take, List.length_take]
    omega
theorem cut_pre {d : D} {K : Nat} (hok : Ok d K) {a b : Int} (h : a ≤ b) (x : Int) : (bsD (crashD d b) x).take (bsD (crashD d a) x).length = bsD (crashD d a) x := by
  have h1 := (cut_of hok a x).bs
  have h2 := (cut_of hok b x).bs
  have h3 := cut_mono hok h x
  rw [h2, List.take_take, Nat.min_eq_left h3, ← h1]
theorem cut_full {d : D} {K : Nat} (hok : Ok d K) (x : Int) : bsD (crashD d (looseR d.lo)) x = bsD d x := by
  have ha := crash_find d (looseR d.lo) x
  cases hf : findF d.fs x with
  | none => rw [hf] at ha; unfold bsD; rw [ha, hf]; rfl
  | some f =>
    rw [hf] at ha
    obtain ⟨hfm, _⟩ := Dk.find_some hf
    unfold bsD
    rw [ha, hf]
    show f.bs.take _ = f.bs
    refine List.take_of_length_le ?_
    have h1 := hok.eq f hfm
    unfold more
    dsimp only
    rw [Int.toNat_natCast, ← ex_len, List.take_length, ex_count, h1]
    exact Nat.le_refl _
theorem sync_bs (d : D) (n x : Int) : bsD (syncD d n) x = bsD d x := by
  unfold syncD
  cases hf : findF d.fs n with
  | none => rfl
  | some f0 =>
    dsimp only
    unfold bsD
    dsimp only
    unfold updF
    rw [find_map (F := fun f => if f.n = n then { f with syn := f.bs.length } else f) (fun f => by split <;> rfl)]
    cases findF d.fs x with
    | none => rfl
    | some f =>
      show (if f.n = n then ({ f with syn := f.bs.length } : Fl) else f).bs = f.bs
      split <;> rfl
theorem sync_used (d : D) (n : Int) : usedD (syncD d n) = usedD d := by
  unfold syncD
  cases hf : findF d.fs n with
  | none => rfl
  | some f0 =>
    dsimp only
    unfold usedD updF
    dsimp only
    rw [List.map_map]
    congr 1
    refine List.map_congr_left fun f _ => ?_
    simp only [Function.comp]
    split <;> rfl
def syncs (d : D) (l : List Int) : D := l.foldl syncD d
theorem syncs_all (d : D) {K : Nat} (hok : Ok d K) : ∀ l : List Int, (∀ x, bsD (syncs d l) x = bsD d x) ∧ usedD (syncs d l) = usedD d ∧ Ok (syncs d l) K := by
  intro l
  induction l generalizing d with
  | nil => exact ⟨fun _ => rfl, rfl, hok⟩
  | cons n l ih =>
    obtain ⟨h1, h2, h3⟩ := ih (syncD d n) (hok.sync n)
    exact ⟨fun x => (h1 x).trans (sync_bs d n x), h2.trans (sync_used d n), h3⟩
theorem syncs_snoc (d : D) {l : List Int} {k : Nat} {x : Int} (h : l[k]? = some x) : syncs d (l.take (k + 1)) = syncD (syncs d (l.take k)) x := by
  unfold syncs
  rw [Mem.take_snoc h, List.foldl_append]; rfl
end Dq
end Go.Proofs.Ytfpfpdhfnleebaa
