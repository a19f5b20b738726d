/- Disks, plain: what holds of every disk that was made; the methods' contracts at such a disk. No conditions. -/
import Derived.Test.YtfpfpdhfnleebaaDisk7
import Derived.Test.YtfpfpdhfnleebaaDisk4
set_option maxRecDepth 8000
namespace Go.Proofs.Ytfpfpdhfnleebaa
open Go.ChangeShapes Go.WideShapes Go.ChangeAt Go.RowKit
set_option linter.unusedVariables false
set_option linter.unusedSimpArgs false
namespace Dk
structure Ok (d : D) (K : Nat) : Prop where
  nd : (d.fs.map (·.n)).Nodup
  mem : ∀ p ∈ d.lo, ∃ f ∈ d.fs, f.n = p.1
  eq : ∀ f ∈ d.fs, f.syn + looseOf f.n d.lo = f.bs.length
  used : usedD d ≤ 1048576
  cnt : d.fs.length ≤ 64
  len : d.lo.length ≤ K
theorem Ok.room {d : D} {K : Nat} (h : Ok d K) : Room d.fs d.lo := ⟨h.mem, fun f hf => Nat.le_of_eq (h.eq f hf)⟩
theorem Ok.mono {d : D} {K L : Nat} (h : Ok d K) (hl : K ≤ L) : Ok d L := ⟨h.nd, h.mem, h.eq, h.used, h.cnt, Nat.le_trans h.len hl⟩
theorem looseOf_nil (n : Int) : looseOf n [] = 0 := rfl
theorem looseOf_app (n : Int) (a b : List (Int × Nat)) : looseOf n (a ++ b) = looseOf n a + looseOf n b := by simp [looseOf]
theorem looseOf_rev (n : Int) (a : List (Int × Nat)) : looseOf n a.reverse = looseOf n a := by
  unfold looseOf
  rw [List.filter_reverse, List.map_reverse, List.sum_reverse]
theorem looseOf_cutR (n m : Int) : ∀ (lo : List (Int × Nat)) (off : Nat), looseOf n (cutR m off lo) = if n = m then looseOf n lo - off else looseOf n lo
  | [], off => by simp [cutR, looseOf_nil]
  | p :: lo, off => by
    rw [cutR]
    by_cases hp : p.1 = m
    · rw [if_pos hp, looseOf_cons, looseOf_cons, looseOf_cutR n m lo]
      dsimp only
      by_cases hn : n = m
      · rw [if_pos hn, if_pos hn, if_pos (by rw [hp, hn]), if_pos (by rw [hp, hn])]; omega
      · have : ¬ p.1 = n := fun e => hn (e.symm.trans hp)
        rw [if_neg hn, if_neg hn, if_neg this, if_neg this]
    · rw [if_neg hp, looseOf_cons, looseOf_cons, looseOf_cutR n m lo]
      by_cases hn : n = m
      · have : ¬ p.1 = n := fun e => hp (e.trans hn)
        rw [if_pos hn, if_pos hn, if_neg this]; omega
      · rw [if_neg hn, if_neg hn]
theorem looseOf_cut (n m : Int) (lo : List (Int × Nat)) (off : Nat) : looseOf n (cutLast m off lo) = if n = m then looseOf n lo - off else looseOf n lo := by
  unfold cutLast
  rw [looseOf_rev, looseOf_cutR, looseOf_rev]
theorem looseOf_forget (n m : Int) : ∀ lo : List (Int × Nat), looseOf n (forgetL m lo) = if n = m then 0 else looseOf n lo
  | [] => by simp [forgetL, Pc.keptL, looseOf_nil]
  | p :: lo => by
    have ih := looseOf_forget n m lo
    unfold forgetL Pc.keptL at ih ⊢
    rw [List.filter_cons]
    by_cases hp : p.1 = m
    · rw [if_neg (by simp [hp]), ih, looseOf_cons]
      by_cases hn : n = m
      · rw [if_pos hn, if_pos hn]
      · rw [if_neg hn, if_neg hn, if_neg (fun e => hn (e.symm.trans hp))]; omega
    · rw [if_pos (by simpa using hp), looseOf_cons, looseOf_cons, ih]
      by_cases hn : n = m
      · rw [if_pos hn, if_pos hn, if_neg (fun e => hp (e.trans hn))]
      · rw [if_neg hn, if_neg hn]
theorem forget_mem {m : Int} {lo : List (Int × Nat)} {p : Int × Nat} (h : p ∈ forgetL m lo) : p ∈ lo ∧ p.1 ≠ m := by
  unfold forgetL Pc.keptL at h
  obtain ⟨h1, h2⟩ := List.mem_filter.1 h
  exact ⟨h1, by simpa using h2⟩
theorem cutR_mem (m : Int) : ∀ (lo : List (Int × Nat)) (off : Nat) (q : Int × Nat), q ∈ cutR m off lo → ∃ p ∈ lo, p.1 = q.1
  | [], off, q, h => by unfold cutR at h; cases h
  | p :: lo, off, q, h => by
    rw [cutR] at h
    split at h
    · rcases List.mem_cons.1 h with h | h
      · exact ⟨p, List.mem_cons_self, by rw [h]⟩
      · obtain ⟨p2, h1, h2⟩ := cutR_mem m lo _ q h
        exact ⟨p2, List.mem_cons_of_mem _ h1, h2⟩
    · rcases List.mem_cons.1 h with h | h
      · exact ⟨p, List.mem_cons_self, by rw [h]⟩
      · obtain ⟨p2, h1, h2⟩ := cutR_mem m lo _ q h
        exact ⟨p2, List.mem_cons_of_mem _ h1, h2⟩
theorem cutR_len (m : Int) : ∀ (lo : List (Int × Nat)) (off : Nat), (cutR m off lo).length = lo.length
  | [], off => rfl
  | p :: lo, off => by
    rw [cutR]
    split
    · rw [List.length_cons, List.length_cons, cutR_len m lo]
    · rw [List.length_cons, List.length_cons, cutR_len m lo]
theorem cut_len (m : Int) (lo : List (Int × Nat)) (off : Nat) : (cutLast m off lo).length = lo.length := by unfold cutLast; rw [List.length_reverse, cutR_len, List.length_reverse]
theorem find_some {fs : List Fl} {n : Int} {f : Fl} (h : findF fs n = some f) : f ∈ fs ∧ f.n = n := by
  unfold findF at h
  exact ⟨List.mem_of_find?_eq_some h, by simpa using List.find?_some h⟩
theorem find_none {fs : List Fl} {n : Int} (h : findF fs n = none) : ∀ f ∈ fs, f.n ≠ n := by
  unfold findF at h
  rw [List.find?_eq_none] at h
  intro f hf e
  have := h f hf
  simp [e] at this
theorem upd_n {n : Int} {F : Fl → Fl} (hF : ∀ f, (F f).n = f.n) (fs : List Fl) : (updF n F fs).map (·.n) = fs.map (·.n) := by
  unfold updF
  rw [List.map_map]
  refine List.map_congr_left fun f hf => ?_
  simp only [Function.comp]
  split
  · exact hF f
  · rfl
theorem upd_mem {n : Int} {F : Fl → Fl} {fs : List Fl} {g : Fl} (h : g ∈ updF n F fs) : ∃ f ∈ fs, (f.n = n ∧ g = F f) ∨ (f.n ≠ n ∧ g = f) := by
  obtain ⟨f, hf, he⟩ := List.mem_map.1 h
  refine ⟨f, hf, ?_⟩
  split at he
  · rename_i h1; exact .inl ⟨h1, he.symm⟩
  · rename_i h1; exact .inr ⟨h1, he.symm⟩
theorem upd_ex {n : Int} {F : Fl → Fl} (hF : ∀ f, (F f).n = f.n) {fs : List Fl} {x : Int} (h : ∃ f ∈ fs, f.n = x) : ∃ f ∈ updF n F fs, f.n = x := by
  obtain ⟨f, hf, hx⟩ := h
  have h1 : x ∈ (updF n F fs).map (·.n) := by rw [upd_n hF]; exact List.mem_map.2 ⟨f, hf, hx⟩
  obtain ⟨g, hg, he⟩ := List.mem_map.1 h1
  exact ⟨g, hg, he⟩
theorem used_le {n : Int} {F : Fl → Fl} (hF : ∀ f, (F f).bs.length ≤ f.bs.length) : ∀ fs : List Fl, ((updF n F fs).map fun f => f.bs.length).sum ≤ (fs.map fun f => f.bs.length).sum
  | [] => Nat.le_refl _
  | f :: fs => by
    have ih := used_le (n := n) hF fs
    unfold updF at ih ⊢
    rw [List.map_cons, List.map_cons, List.sum_cons, List.map_cons, List.sum_cons]
    have : (if f.n = n then F f else f).bs.length ≤ f.bs.length := by
      split
      · exact hF f
      · exact Nat.le_refl _
    omega
theorem upd_no {n : Int} {F : Fl → Fl} {fs : List Fl} (h : ∀ f ∈ fs, f.n ≠ n) : updF n F fs = fs := by
  unfold updF
  rw [List.map_congr_left (g := id) (fun q hq => by rw [if_neg (h q hq)]; rfl), List.map_id]
theorem used_upd {n : Int} {F : Fl → Fl} {m : Nat} (hF : ∀ f, (F f).bs.length = f.bs.length + m) : ∀ {fs : List Fl}, (fs.map (·.n)).Nodup → (∃ f ∈ fs, f.n = n) → ((updF n F fs).map fun f => f.bs.length).sum = (fs.map fun f => f.bs.length).sum + m
  | [], _, h => by obtain ⟨f, hf, _⟩ := h; cases hf
  | f :: fs, hn, h => by
    rw [List.map_cons, List.nodup_cons] at hn
    by_cases hf : f.n = n
    · have hno : ∀ g ∈ fs, g.n ≠ n := fun g hg e => hn.1 (by rw [hf, ← e]; exact List.mem_map.2 ⟨g, hg, rfl⟩)
      have h2 := upd_no (F := F) hno
      unfold updF at h2 ⊢
      rw [List.map_cons, h2, if_pos hf, List.map_cons, List.sum_cons, List.map_cons, List.sum_cons, hF]
      omega
    · have h3 : ∃ f ∈ fs, f.n = n := by
        obtain ⟨g, hg, he⟩ := h
        rcases List.mem_cons.1 hg with rfl | hg
        · exact absurd he hf
        · exact ⟨g, hg, he⟩
      have ih := used_upd hF hn.2 h3
      unfold updF at ih ⊢
      rw [List.map_cons, if_neg hf, List.map_cons, List.sum_cons, List.map_cons, List.sum_cons, ih]
      omega
theorem Ok.nil (K : Nat) : Ok ⟨[], []⟩ K := ⟨by simp, (fun p hp => by cases hp), (fun f hf => by cases hf), by simp [usedD], by simp, by simp⟩
theorem Ok.app {d : D} {K : Nat} (h : Ok d K) (n : Int) (bs : List UInt8) : Ok (appD d n bs) (K + 1) := by
  unfold appD
  by_cases he : appE d n bs ≠ 0
  · rw [if_pos he]; exact h.mono (by omega)
  · rw [if_neg he]
    have hz : appE d n bs = 0 := by omega
    unfold appE at hz
    by_cases h1 : n < 0 ∨ 1099511627776 < n
    · rw [if_pos h1] at hz; cases hz
    rw [if_neg h1] at hz
    by_cases h2 : (findF d.fs n = none ∧ 64 ≤ d.fs.length) ∨ 1048576 < usedD d + bs.length
    · rw [if_pos h2] at hz; cases hz
    cases hf : findF d.fs n with
    | none =>
      have hno := find_none hf
      dsimp only
      refine ⟨?_, ?_, ?_, ?_, ?_, ?_⟩
      · rw [List.map_append, List.nodup_append]
        refine ⟨h.nd, by simp, ?_⟩
        intro a ha b hb
        obtain ⟨f, hfm, rfl⟩ := List.mem_map.1 ha
        simp at hb
        subst hb
        exact hno f hfm
      · intro p hp
        rcases List.mem_append.1 hp with hp | hp
        · obtain ⟨f, h3, h4⟩ := h.mem p hp
          exact ⟨f, List.mem_append_left _ h3, h4⟩
        · simp at hp; subst hp
          exact ⟨_, List.mem_append_right _ List.mem_cons_self, rfl⟩
      · intro f hfm
        rw [looseOf_app, looseOf_cons, looseOf_nil]
        rcases List.mem_append.1 hfm with hfm | hfm
        · have := h.eq f hfm
          rw [if_neg (fun e => hno f hfm e.symm)]; omega
        · simp at hfm; subst hfm
          have h5 : looseOf n d.lo = 0 := by
            unfold looseOf
            rw [List.filter_eq_nil_iff.2 (fun p hp e => by
              obtain ⟨f, h3, h4⟩ := h.mem p hp
              exact hno f h3 (h4.trans (by simpa using e)))]
            rfl
          dsimp only
          rw [h5, if_pos rfl]; omega
      · have := h.used
        unfold usedD at this h2 ⊢
        rw [List.map_append, List.sum_append]
        simp
        omega
      · have h3 : d.fs.length < 64 := by
          by_cases h4 : 64 ≤ d.fs.length
          · exact absurd (.inl ⟨hf, h4⟩) h2
          · omega
        rw [List.length_append]; exact h3
      · rw [List.length_append]; have := h.len; simp; omega
    | some f0 =>
      obtain ⟨hf1, hf2⟩ := find_some hf
      dsimp only
      refine ⟨by show (List.map (·.n) (updF n _ d.fs)).Nodup; rw [upd_n (F := fun f => { f with bs := f.bs ++ bs }) (fun f => rfl)]; exact h.nd, ?_, ?_, ?_, ?_, ?_⟩
      · intro p hp
        rcases List.mem_append.1 hp with hp | hp
        · exact upd_ex (F := fun f => { f with bs := f.bs ++ bs }) (fun f => rfl) (h.mem p hp)
        · simp at hp; subst hp
          exact upd_ex (F := fun f => { f with bs := f.bs ++ bs }) (fun f => rfl) ⟨f0, hf1, hf2⟩
      · intro g hg
        obtain ⟨f, hfm, h3⟩ := upd_mem hg
        have h4 := h.eq f hfm
        rw [looseOf_app, looseOf_cons, looseOf_nil]
        rcases h3 with ⟨h5, rfl⟩ | ⟨h5, rfl⟩
        · dsimp only
          rw [if_pos h5.symm, List.length_append]; omega
        · rw [if_neg (fun e => h5 e.symm)]; omega
      · unfold usedD
        rw [used_upd (F := fun f => { f with bs := f.bs ++ bs }) (m := bs.length) (fun f => by simp) h.nd ⟨f0, hf1, hf2⟩]
        have : ¬ 1048576 < usedD d + bs.length := fun e => h2 (.inr e)
        unfold usedD at this
        omega
      · show (updF _ _ _).length ≤ 64
        unfold updF; rw [List.length_map]; exact h.cnt
      · rw [List.length_append]; have := h.len; simp; omega
theorem Ok.sync {d : D} {K : Nat} (h : Ok d K) (n : Int) : Ok (syncD d n) K := by
  unfold syncD
  cases hf : findF d.fs n with
  | none => exact h
  | some f0 =>
    dsimp only
    refine ⟨by show (List.map (·.n) (updF n _ d.fs)).Nodup; rw [upd_n (F := fun f => { f with syn := f.bs.length }) (fun f => rfl)]; exact h.nd, ?_, ?_, ?_, ?_, ?_⟩
    · intro p hp
      exact upd_ex (F := fun f => { f with syn := f.bs.length }) (fun f => rfl) (h.mem p (forget_mem hp).1)
    · intro g hg
      obtain ⟨f, hfm, h3⟩ := upd_mem hg
      have h4 := h.eq f hfm
      rw [looseOf_forget]
      rcases h3 with ⟨h5, rfl⟩ | ⟨h5, rfl⟩
      · dsimp only; rw [if_pos h5]; omega
      · rw [if_neg h5]; exact h4
    · exact Nat.le_trans (used_le (F := fun f => { f with syn := f.bs.length }) (fun f => Nat.le_refl _) d.fs) h.used
    · show (updF _ _ _).length ≤ 64
      unfold updF; rw [List.length_map]; exact h.cnt
    · exact Nat.le_trans (Pc.keptL_le _ _) h.len
theorem sum_filter_le (p : Fl → Bool) : ∀ fs : List Fl, ((fs.filter p).map fun f => f.bs.length).sum ≤ (fs.map fun f => f.bs.length).sum
  | [] => Nat.le_refl _
  | f :: fs => by
    have ih := sum_filter_le p fs
    rw [List.filter_cons, List.map_cons, List.sum_cons]
    split
    · rw [List.map_cons, List.sum_cons]; omega
    · omega
theorem Ok.remove {d : D} {K : Nat} (h : Ok d K) (n : Int) : Ok (removeD d n) K := by
  unfold removeD
  cases hf : findF d.fs n with
  | none => exact h
  | some f0 =>
    dsimp only
    have hsub : (d.fs.filter (fun f => decide (f.n ≠ n))).Sublist d.fs := List.filter_sublist
    refine ⟨(hsub.map _).nodup h.nd, ?_, ?_, ?_, ?_, ?_⟩
    · intro p hp
      obtain ⟨h1, h2⟩ := forget_mem hp
      obtain ⟨f, h3, h4⟩ := h.mem p h1
      exact ⟨f, List.mem_filter.2 ⟨h3, by simpa using fun e => h2 (h4.symm.trans e)⟩, h4⟩
    · intro g hg
      obtain ⟨h1, h2⟩ := List.mem_filter.1 hg
      rw [looseOf_forget, if_neg (by simpa using h2)]
      exact h.eq g h1
    · have : ((d.fs.filter (fun f => decide (f.n ≠ n))).map fun f => f.bs.length).sum ≤ (d.fs.map fun f => f.bs.length).sum := sum_filter_le _ _
      exact Nat.le_trans this h.used
    · exact Nat.le_trans hsub.length_le h.cnt
    · exact Nat.le_trans (Pc.keptL_le _ _) h.len
theorem nodup_find {fs : List Fl} {f : Fl} (hn : (fs.map (·.n)).Nodup) (hf : f ∈ fs) : findF fs f.n = some f := by
  induction fs with
  | nil => cases hf
  | cons a fs ih =>
    rw [List.map_cons, List.nodup_cons] at hn
    unfold findF
    rw [List.find?_cons]
    rcases List.mem_cons.1 hf with rfl | hf
    · simp
    · have : (a.n == f.n) = false := by simpa using fun e => hn.1 (by rw [e]; exact List.mem_map.2 ⟨f, hf, rfl⟩)
      rw [this]
      exact ih hn.2 hf
theorem Ok.trunc {d : D} {K : Nat} (h : Ok d K) (n k : Int) : Ok (truD d n k) K := by
  unfold truD
  by_cases he : truE d n k ≠ 0
  · rw [if_pos he]; exact h
  · rw [if_neg he]
    have hz : truE d n k = 0 := by omega
    unfold truE at hz
    by_cases h1 : findF d.fs n = none
    · rw [if_pos h1] at hz; cases hz
    rw [if_neg h1] at hz
    by_cases h2 : k < 0 ∨ (lenF d.fs n : Int) < k
    · rw [if_pos h2] at hz; cases hz
    obtain ⟨f0, hf⟩ := Option.ne_none_iff_exists'.1 h1
    obtain ⟨hf1, hf2⟩ := find_some hf
    have hl : lenF d.fs n = f0.bs.length := by unfold lenF; rw [hf]
    have hs : synF d.fs n = f0.syn := by unfold synF; rw [hf]
    rw [hl] at h2
    rw [hl, hs]
    refine ⟨by show (List.map (·.n) (updF n _ d.fs)).Nodup; rw [upd_n (F := fun f => { f with bs := f.bs.take k.toNat, syn := min f.syn k.toNat }) (fun f => rfl)]; exact h.nd, ?_, ?_, ?_, ?_, ?_⟩
    · intro q hq
      have hq2 : q ∈ cutR n (f0.bs.length - max k.toNat f0.syn) d.lo.reverse := by
        have : q ∈ (cutR n (f0.bs.length - max k.toNat f0.syn) d.lo.reverse).reverse := hq
        simpa using this
      obtain ⟨p, hp, he⟩ := cutR_mem _ _ _ _ hq2
      have := h.mem p (by simpa using hp)
      rw [he] at this
      exact upd_ex (F := fun f => { f with bs := f.bs.take k.toNat, syn := min f.syn k.toNat }) (fun f => rfl) this
    · intro g hg
      obtain ⟨f, hfm, h3⟩ := upd_mem hg
      have h4 := h.eq f hfm
      rw [looseOf_cut]
      rcases h3 with ⟨h5, rfl⟩ | ⟨h5, rfl⟩
      · dsimp only
        rw [if_pos h5, List.length_take]
        have hff : f = f0 := by
          have := nodup_find h.nd hfm
          rw [h5, hf] at this
          exact (Option.some.inj this).symm
        subst hff
        have h6 := h4
        rw [h5] at h6 ⊢
        omega
      · rw [if_neg h5]; exact h4
    · refine Nat.le_trans (used_le (F := fun f => { f with bs := f.bs.take k.toNat, syn := min f.syn k.toNat }) (fun f => ?_) d.fs) h.used
      dsimp only; rw [List.length_take]; omega
    · show (updF _ _ _).length ≤ 64
      unfold updF; rw [List.length_map]; exact h.cnt
    · show (cutLast _ _ _).length ≤ K
      rw [cut_len]; exact h.len
theorem crFold_room : ∀ (lo : List (Int × Nat)) (s : Cs), Room s.fs lo → Room (crFold s lo).fs [] ∧ (crFold s lo).fs.map (·.n) = s.fs.map (·.n) ∧ (crFold s lo).fs.map (·.bs) = s.fs.map (·.bs)
  | [], s, h => ⟨h, rfl, rfl⟩
  | p :: lo, s, h => by
    have h1 := h.step (kept_le s.keep p.2)
    obtain ⟨h2, h3, h4⟩ := crFold_room lo (crStep s p) h1
    refine ⟨h2, h3.trans (upd_n (F := fun f => { f with syn := f.syn + keptI s.keep p.2 }) (fun f => rfl) s.fs), h4.trans ?_⟩
    show (updF p.1 _ s.fs).map (·.bs) = _
    unfold updF
    rw [List.map_map]
    refine List.map_congr_left fun f hf => ?_
    simp only [Function.comp]
    split <;> rfl
theorem Ok.crash {d : D} {K : Nat} (h : Ok d K) (keep : Int) : Ok (crashD d keep) K := by
  obtain ⟨h1, h2, h3⟩ := crFold_room d.lo ⟨keep, 0, d.fs⟩ h.room
  unfold crashD
  obtain ⟨fs, hfs⟩ : ∃ fs, (crFold ⟨keep, 0, d.fs⟩ d.lo).fs = fs := ⟨_, rfl⟩
  rw [hfs] at h1 h2 h3 ⊢
  have hlen : fs.length = d.fs.length := by have := congrArg List.length h2; simpa using this
  have hm : (fs.map cutF).map (·.n) = fs.map (·.n) := by rw [List.map_map]; rfl
  refine ⟨by rw [hm, h2]; exact h.nd, (fun p hp => by cases hp), ?_, ?_, by rw [List.length_map, hlen]; exact h.cnt, Nat.zero_le _⟩
  · intro g hg
    obtain ⟨f, hf, rfl⟩ := List.mem_map.1 hg
    have h4 := h1.le f hf
    rw [looseOf_nil] at h4 ⊢
    show f.syn + 0 = (f.bs.take f.syn).length
    rw [List.length_take]; omega
  · have h5 : ((fs.map cutF).map fun f => f.bs.length).sum ≤ (fs.map fun f => f.bs.length).sum := by
      clear h1 h2 h3 hfs hlen hm
      induction fs with
      | nil => exact Nat.le_refl _
      | cons f fs ih =>
        rw [List.map_cons, List.map_cons, List.sum_cons, List.map_cons, List.sum_cons]
        have : (cutF f).bs.length ≤ f.bs.length := by unfold cutF; dsimp only; rw [List.length_take]; omega
        omega
    have h6 : (fs.map fun f => f.bs.length) = d.fs.map fun f => f.bs.length := by
      have := congrArg (List.map List.length) h3
      simpa [List.map_map, Function.comp_def] using this
    rw [h6] at h5
    exact Nat.le_trans h5 h.used
theorem sum_if_le {x : Int} {m : Nat} : ∀ {fs : List Fl}, (∃ f ∈ fs, f.n = x) → m ≤ (fs.map fun f => if x = f.n then m else 0).sum
  | [], h => by obtain ⟨f, hf, _⟩ := h; cases hf
  | f :: fs, h => by
    rw [List.map_cons, List.sum_cons]
    by_cases hf : x = f.n
    · rw [if_pos hf]; omega
    · rw [if_neg hf, Nat.zero_add]
      obtain ⟨g, hg, he⟩ := h
      rcases List.mem_cons.1 hg with rfl | hg
      · exact absurd he.symm hf
      · exact sum_if_le ⟨g, hg, he⟩
theorem loose_sum (fs : List Fl) : ∀ (lo : List (Int × Nat)), (∀ p ∈ lo, ∃ f ∈ fs, f.n = p.1) → looseR lo ≤ (fs.map fun f => looseOf f.n lo).sum
  | [], _ => Nat.zero_le _
  | p :: lo, h => by
    have ih := loose_sum fs lo (fun q hq => h q (List.mem_cons_of_mem _ hq))
    have h1 := sum_if_le (m := p.2) (h p List.mem_cons_self)
    have h2 : (fs.map fun f => looseOf f.n (p :: lo)).sum = (fs.map fun f => if p.1 = f.n then p.2 else 0).sum + (fs.map fun f => looseOf f.n lo).sum := by
      clear ih h1 h
      induction fs with
      | nil => rfl
      | cons f fs ih =>
        rw [List.map_cons, List.sum_cons, ih, List.map_cons, List.sum_cons, List.map_cons, List.sum_cons, looseOf_cons]
        omega
    have h3 : looseR (p :: lo) = p.2 + looseR lo := rfl
    omega
theorem Ok.loose {d : D} {K : Nat} (h : Ok d K) : looseR d.lo ≤ 1048576 := by
  have h1 := loose_sum d.fs d.lo h.mem
  have h2 : (d.fs.map fun f => looseOf f.n d.lo).sum ≤ (d.fs.map fun f => f.bs.length).sum := by
    have : ∀ fs : List Fl, (∀ f ∈ fs, looseOf f.n d.lo ≤ f.bs.length) → (fs.map fun f => looseOf f.n d.lo).sum ≤ (fs.map fun f => f.bs.length).sum := by
      intro fs hfs
      induction fs with
      | nil => exact Nat.le_refl _
      | cons f fs ih =>
        rw [List.map_cons, List.sum_cons, List.map_cons, List.sum_cons]
        have := hfs f List.mem_cons_self
        have := ih (fun g hg => hfs g (List.mem_cons_of_mem _ hg))
        omega
    exact this d.fs (fun f hf => by have := h.eq f hf; omega)
  have := h.used
  unfold usedD at this
  omega
/-! the contracts -/
def filesD (d : D) : List Int := sortI (d.fs.map (·.n))
def bsD (d : D) (n : Int) : List UInt8 := match findF d.fs n with
  | some f => f.bs
  | none => []
theorem DAt.lt {w : World} {g : Nat} {d : D} {F : Nat → Prop} (h : DAt w g d F) {k : Nat} (hk : F k) : k < w.heap.size := by
  obtain ⟨b, A, c, rs, hD, _, hF⟩ := h
  exact hD.lt ((hF k).1 hk)
theorem DAt.keeps {w w' : World} {g : Nat} {d : D} {F S : Nat → Prop} (h : DAt w g d F) (hk : Mem.Keeps S w w') (hS : ∀ k, F k → ¬ S k) : DAt w' g d F := by
  obtain ⟨b, A, c, rs, hD, hf, hF⟩ := h
  exact ⟨b, A, c, rs, hD.keeps hk (fun k hk => hS k ((hF k).2 hk)), hf, hF⟩
theorem DEnd.of {w : World} {g : Nat} {F G : Nat → Prop} {d' : D} {v : Value} {x : Ending} {w' : World} (h : DEnd w g G d' v x w') (hF : ∀ k, F k ↔ G k) : DEnd w g F d' v x w' := by
  obtain ⟨F', h1, h2⟩ := h.a
  exact ⟨h.r, ⟨F', h1, fun k hk => (h2 k hk).imp (hF k).2 id⟩, h.k.mono (fun k hk _ => (hF k).2 hk)⟩
end Dk
open Dk
theorem used_rs {rs : List FR} {d : D} (hf : rs.map (·.f) = d.fs) : usedR rs = usedD d := by unfold usedR usedD; rw [← hf, List.map_map]; rfl
theorem append_at {w : World} {g : Nat} {d : D} {F : Nat → Prop} {K : Nat} (h : DAt w g d F) (hok : Ok d K) (hK : K ≤ 99999) {n : Int} (hn : okI n) {X : Option Addr} {cx : Nat} {bs : List UInt8} (hR : Mem.Rd w w.heap.size X (bs.map Mem.byteV)) (hX : ∀ k, Mem.blk X = some k → ¬ F k) (hb : bs.length ≤ 1000000000) :
    Calls Try.prog 11 #[.pointer (some ⟨g, 0, none⟩), .int .i64 n, .slice X bs.length cx] w (DEnd w g F (appD d n bs) (.int .i64 (appE d n bs))) := by
  obtain ⟨b, A, c, rs, hD, hf, hF⟩ := h
  have hu := hok.used
  have hc := hok.cnt
  have hl := hok.len
  have h1 := append_any hD hn (by rw [used_rs hf]; omega) (by omega) (by rw [← List.length_map (f := fun r : FR => r.f), hf]; omega) hR (cx := cx) (fun k hk h => hX k hk ((hF k).2 h)) hb
  rw [hf] at h1
  exact h1.mono fun x w' h => h.of hF
theorem sync_at {w : World} {g : Nat} {d : D} {F : Nat → Prop} {K : Nat} (h : DAt w g d F) (hok : Ok d K) (hK : K ≤ 100000) {n : Int} (hn : okI n) :
    Calls Try.prog 21 #[.pointer (some ⟨g, 0, none⟩), .int .i64 n] w (DEnd w g F (syncD d n) (.int .i64 (there d n))) := by
  obtain ⟨b, A, c, rs, hD, hf, hF⟩ := h
  have h1 := sync_any hD hn (Nat.le_trans hok.len hK)
  rw [hf] at h1
  exact h1.mono fun x w' h => h.of hF
theorem remove_at {w : World} {g : Nat} {d : D} {F : Nat → Prop} {K : Nat} (h : DAt w g d F) (hok : Ok d K) (hK : K ≤ 100000) {n : Int} (hn : okI n) :
    Calls Try.prog 26 #[.pointer (some ⟨g, 0, none⟩), .int .i64 n] w (DEnd w g F (removeD d n) (.int .i64 (there d n))) := by
  obtain ⟨b, A, c, rs, hD, hf, hF⟩ := h
  have h1 := remove_any hD hn (Nat.le_trans hok.len hK)
  rw [hf] at h1
  exact h1.mono fun x w' h => h.of hF
theorem truncate_at {w : World} {g : Nat} {d : D} {F : Nat → Prop} {K : Nat} (h : DAt w g d F) (hok : Ok d K) {n : Int} (hn : okI n) (k : Int) :
    Calls Try.prog 27 #[.pointer (some ⟨g, 0, none⟩), .int .i64 n, .int .i64 k] w (DEnd w g F (truD d n k) (.int .i64 (truE d n k))) := by
  have hu := hok.used
  have hlo := hok.loose
  obtain ⟨b, A, c, rs, hD, hf, hF⟩ := h
  have h1 := truncate_any hD hn k (by rw [used_rs hf]; omega) (by omega)
  rw [hf] at h1
  exact h1.mono fun x w' h => h.of hF
theorem crash_at {w : World} {g : Nat} {d : D} {F : Nat → Prop} {K : Nat} (h : DAt w g d F) (hok : Ok d K) {keep : Int} (hk : okI keep) :
    Calls Try.prog 12 #[.pointer (some ⟨g, 0, none⟩), .int .i64 keep] w (DEnd w g F (crashD d keep) (.int .i64 (crashN d keep))) := by
  have hlo := hok.loose
  obtain ⟨b, A, c, rs, hD, hf, hF⟩ := h
  have h1 := crash_any hD hk (by omega) (by rw [hf]; exact hok.room)
  rw [hf] at h1
  exact h1.mono fun x w' h => h.of hF
theorem read_at {w : World} {g : Nat} {d : D} {F : Nat → Prop} {K : Nat} (h : DAt w g d F) (hok : Ok d K) {n : Int} (hn : okI n) :
    Calls Try.prog 13 #[.pointer (some ⟨g, 0, none⟩), .int .i64 n] w fun x w' => ∃ A' c', x = .returned (.tuple #[.slice A' (bsD d n).length c', .int .i64 (there d n)]) ∧ Mem.Own w' 5 1 A' (bsD d n).length c' ((bsD d n).map Mem.byteV) ∧ Mem.From w.heap.size A' ∧ Below w.heap.size w w' := by
  have hu := hok.used
  obtain ⟨b, A, c, rs, hD, hf, hF⟩ := h
  have h1 := read_any hD hn (by rw [used_rs hf]; omega)
  have e1 : bsR rs n = bsD d n := by unfold bsR bsD; rw [← hf, find_fs]; cases findR rs n <;> rfl
  have e2 : rdE rs n = there d n := by unfold rdE there; rw [← hf, find_fs]; cases findR rs n <;> rfl
  rw [e1, e2] at h1
  exact h1
theorem size_at {w : World} {g : Nat} {d : D} {F : Nat → Prop} (h : DAt w g d F) {n : Int} (hn : okI n) :
    Calls Try.prog 25 #[.pointer (some ⟨g, 0, none⟩), .int .i64 n] w fun x w' => x = .returned (.int .i64 (lenF d.fs n)) ∧ w' = w := by
  obtain ⟨b, A, c, rs, hD, hf, hF⟩ := h
  have e1 : sizeR rs n = lenF d.fs n := by unfold sizeR lenF; rw [← hf, find_fs]; cases findR rs n <;> rfl
  rw [← e1]
  exact size_any hD hn
theorem synced_at {w : World} {g : Nat} {d : D} {F : Nat → Prop} (h : DAt w g d F) {n : Int} (hn : okI n) :
    Calls Try.prog 20 #[.pointer (some ⟨g, 0, none⟩), .int .i64 n] w fun x w' => x = .returned (.int .i64 (synF d.fs n)) ∧ w' = w := by
  obtain ⟨b, A, c, rs, hD, hf, hF⟩ := h
  have e1 : synR rs n = synF d.fs n := by unfold synR synF; rw [← hf, find_fs]; cases findR rs n <;> rfl
  rw [← e1]
  exact synced_any hD hn
theorem used_at {w : World} {g : Nat} {d : D} {F : Nat → Prop} {K : Nat} (h : DAt w g d F) (hok : Ok d K) :
    Calls Try.prog 19 #[.pointer (some ⟨g, 0, none⟩)] w fun x w' => x = .returned (.int .i64 (usedD d)) ∧ Below w.heap.size w w' := by
  have hu := hok.used
  obtain ⟨b, A, c, rs, hD, hf, hF⟩ := h
  rw [← used_rs hf] at hu ⊢
  exact used_any hD (by omega)
theorem loose_at {w : World} {g : Nat} {d : D} {F : Nat → Prop} {K : Nat} (h : DAt w g d F) (hok : Ok d K) :
    Calls Try.prog 18 #[.pointer (some ⟨g, 0, none⟩)] w fun x w' => x = .returned (.int .i64 (looseR d.lo)) ∧ Below w.heap.size w w' := by
  have hlo := hok.loose
  obtain ⟨b, A, c, rs, hD, hf, hF⟩ := h
  exact loose_any hD (by omega)
theorem files_at {w : World} {g : Nat} {d : D} {F : Nat → Prop} {K : Nat} (h : DAt w g d F) (hok : Ok d K) :
    Calls Try.prog 15 #[.pointer (some ⟨g, 0, none⟩)] w fun x w' => ∃ A' c', x = .returned (.slice A' (filesD d).length c') ∧ Mem.Own w' 3 1 A' (filesD d).length c' ((filesD d).map (Value.int .i64)) ∧ Mem.From w.heap.size A' ∧ Below w.heap.size w w' := by
  have hc := hok.cnt
  obtain ⟨b, A, c, rs, hD, hf, hF⟩ := h
  have e0 : rs.length = d.fs.length := by rw [← hf, List.length_map]
  have e1 : rs.map (·.f.n) = d.fs.map (·.n) := by rw [← hf, List.map_map]; rfl
  have h1 := files_any hD (by omega)
  rw [e1] at h1
  have e2 : (filesD d).length = rs.length := by unfold filesD; rw [sortI_len, List.length_map, e0]
  rw [e2]
  exact h1
theorem newD_at (w : World) :
    Calls Try.prog 10 #[] w fun x w' => ∃ g F, x = .returned (.pointer (some ⟨g, 0, none⟩)) ∧ DAt w' g ⟨[], []⟩ F ∧ Below w.heap.size w w' ∧ ∀ k, F k → w.heap.size ≤ k := by
  refine (new_any w).mono ?_
  rintro x w' ⟨g, b, rfl, h1, h2, h3, h4⟩
  refine ⟨g, fpD g b none [], rfl, h1.at rfl, h2, ?_⟩
  rintro k (rfl | rfl | hk | ⟨r, hr, _⟩)
  · exact h3
  · exact h4
  · cases hk
  · cases hr
end Go.Proofs.Ytfpfpdhfnleebaa
