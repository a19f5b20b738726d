/- The disk and the document's disk, plain: every act leaves them alike. No conditions. -/
import Derived.Test.YtfpfpdhfnleebaaDkQ0
import Derived.Test.YtfpfpdhfnleebaaDf7P
set_option maxRecDepth 8000
namespace Go.Proofs.Ytfpfpdhfnleebaa
set_option linter.unusedVariables false
set_option linter.unusedSimpArgs false
namespace Dq
open Df (low isAt atF Srt)
def img (P : List (Nat × Int)) (f : Dk.Fl) : Df.Fl := ⟨f.n, f.bs, List.replicate f.syn 0 ++ tm f.n P⟩
structure Rel (d : Dk.D) (q : Df.Q) (P : List (Nat × Int)) : Prop where
  ex : P.map (·.2) = ex d.lo
  up : (P.map (·.1)).Pairwise (· < ·)
  pos : ∀ p ∈ P, 0 < p.1 ∧ p.1 ≤ q.time
  srt : Srt q.l
  prm : q.l.Perm (d.fs.map (img P))
theorem get_low {n : Int} {l : List Df.Fl} {f : Df.Fl} (h : atF n l = some f) : l[low n l]? = some f ∧ f.n = n ∧ isAt n l = true := by
  unfold atF at h
  split at h
  · rename_i hi
    refine ⟨h, ?_, hi⟩
    unfold isAt at hi
    rw [h] at hi
    simpa using hi
  · cases h
theorem get_mem {n : Int} {l : List Df.Fl} {f : Df.Fl} (h : atF n l = some f) : f ∈ l ∧ f.n = n := ⟨List.mem_of_getElem? (get_low h).1, (get_low h).2.1⟩
theorem mem_get {l : List Df.Fl} (hs : Srt l) {f : Df.Fl} (h : f ∈ l) : atF f.n l = some f := by
  obtain ⟨k, hk⟩ := List.getElem?_of_mem h
  exact Df.at_at hs hk
theorem mod_map {l : List Df.Fl} (hs : Srt l) {k : Nat} {f : Df.Fl} (hk : l[k]? = some f) (F : Df.Fl → Df.Fl) : l.modify k F = l.map fun g => if g.n = f.n then F g else g := by
  refine List.ext_getElem? fun i => ?_
  rw [List.getElem?_modify, List.getElem?_map]
  cases hi : l[i]? with
  | none => simp
  | some g =>
    by_cases h : k = i
    · subst h
      rw [hk] at hi; cases hi
      simp
    · have : g.n ≠ f.n := fun e => by
        have h1 := Df.low_at hs hi
        have h2 := Df.low_at hs hk
        rw [e] at h1
        omega
      simp [h, this]
theorem set_mod {l : List Df.Fl} {k : Nat} {f : Df.Fl} (hk : l[k]? = some f) (G : Df.Fl → Df.Fl) : l.set k (G f) = l.modify k G := by
  refine List.ext_getElem? fun i => ?_
  rw [List.getElem?_modify, List.getElem?_set]
  by_cases h : k = i
  · subst h
    have := (List.getElem?_eq_some_iff.1 hk).1
    rw [if_pos rfl, hk]; simp [this]
  · simp [h]
theorem setQ_map {n : Int} {l : List Df.Fl} (hs : Srt l) (G : Df.Fl → Df.Fl) : Df.setQ n G l = l.map fun g => if g.n = n then G g else g := by
  unfold Df.setQ
  cases h : atF n l with
  | none =>
    dsimp only
    rw [List.map_congr_left (g := id) (fun g hg => by
      rw [if_neg]; rfl
      intro e
      have := mem_get hs hg
      rw [e, h] at this; cases this), List.map_id]
  | some f =>
    dsimp only
    have h1 := get_low h
    rw [set_mod h1.1, mod_map hs h1.1, h1.2.1]
theorem erase_filter {n : Int} {l : List Df.Fl} (hs : Srt l) {f : Df.Fl} (h : atF n l = some f) : l.eraseIdx (low n l) = l.filter fun g => decide (g.n ≠ n) := by
  have h1 := get_low h
  obtain ⟨pre, post, hl, hp⟩ := Df.split_at h1.1
  have hs2 := hs
  unfold Srt at hs2
  rw [hl, List.map_append, List.map_cons, List.pairwise_append, List.pairwise_cons] at hs2
  obtain ⟨_, ⟨h3, _⟩, h4⟩ := hs2
  rw [← hp]
  conv => lhs; rw [hl]
  conv => rhs; rw [hl]
  rw [List.eraseIdx_append_of_length_le (Nat.le_refl _), Nat.sub_self, List.eraseIdx_cons_zero, List.filter_append, List.filter_cons_of_neg (by simpa using h1.2.1)]
  rw [List.filter_eq_self.2 (fun g hg => by
    have := h4 g.n (List.mem_map.2 ⟨g, hg, rfl⟩) f.n List.mem_cons_self
    rw [h1.2.1] at this
    simp; omega), List.filter_eq_self.2 (fun g hg => by
    have := h3 g.n (List.mem_map.2 ⟨g, hg, rfl⟩)
    rw [h1.2.1] at this
    simp; omega)]
theorem srt_filter {l : List Df.Fl} (hs : Srt l) (p : Df.Fl → Bool) : Srt (l.filter p) := by
  unfold Srt at hs ⊢
  exact List.Pairwise.sublist (List.filter_sublist.map _) hs
theorem srt_keep {l : List Df.Fl} (hs : Srt l) {n : Int} {G : Df.Fl → Df.Fl} (hG : ∀ f, (G f).n = f.n) : Srt (l.map fun g => if g.n = n then G g else g) := by
  unfold Srt at hs ⊢
  rw [List.map_map, List.map_congr_left (g := (·.n)) (fun g _ => by
    simp only [Function.comp]
    split
    · exact hG g
    · rfl)]
  exact hs
theorem srt_ins {l : List Df.Fl} (hs : Srt l) {n : Int} (h : isAt n l = false) (x : Df.Fl) (hx : x.n = n) : Srt (l.take (low n l) ++ x :: l.drop (low n l)) := by
  have h1 : ∀ f ∈ l.take (low n l), f.n < n := fun f hf => by
    obtain ⟨k, hk⟩ := List.getElem?_of_mem hf
    rw [List.getElem?_take] at hk
    split at hk
    · obtain ⟨g, h2, h3⟩ := Df.low_lt ‹_›
      rw [h2] at hk; cases hk; exact h3
    · cases hk
  have hs0 := hs
  unfold Srt at hs ⊢
  have h2 : ∀ f ∈ l.drop (low n l), n < f.n := by
    cases hd : l.drop (low n l) with
    | nil => intro f hf; cases hf
    | cons g r =>
      have hg : l[low n l]? = some g := by
        have := congrArg (fun z => z[0]?) hd
        rw [List.getElem?_drop] at this
        simpa using this
      have h3 := Df.low_stop n l g hg
      have h4 : g.n ≠ n := fun e => by
        unfold isAt at h
        rw [hg] at h
        simp [e] at h
      have h5 : (l.drop (low n l)).map (·.n) |>.Pairwise (· < ·) := List.Pairwise.sublist ((List.drop_sublist _ _).map _) hs
      rw [hd, List.map_cons, List.pairwise_cons] at h5
      intro f hf
      rcases List.mem_cons.1 hf with rfl | hf
      · omega
      · have := h5.1 f.n (List.mem_map.2 ⟨f, hf, rfl⟩); omega
  rw [List.map_append, List.map_cons, List.pairwise_append, List.pairwise_cons]
  refine ⟨List.Pairwise.sublist ((List.take_sublist _ _).map _) hs, ⟨fun a ha => ?_, List.Pairwise.sublist ((List.drop_sublist _ _).map _) hs⟩, fun a ha b hb => ?_⟩
  · obtain ⟨f, hf, rfl⟩ := List.mem_map.1 ha
    rw [hx]; exact h2 f hf
  · obtain ⟨f, hf, rfl⟩ := List.mem_map.1 ha
    rcases List.mem_cons.1 hb with rfl | hb
    · rw [hx]; exact h1 f hf
    · obtain ⟨g, hg, rfl⟩ := List.mem_map.1 hb
      have := h1 f hf; have := h2 g hg; omega
/-- the whole of an append's plain law: where bytes are laid behind a file -/
theorem app_list {l : List Df.Fl} (hs : Srt l) (n : Int) (F : Df.Fl → Df.Fl) (hF : ∀ f, (F f).n = f.n) :
    Srt ((Df.insQ n l).modify (low n l) F) ∧ (isAt n l = true → (Df.insQ n l).modify (low n l) F = l.map fun g => if g.n = n then F g else g) ∧
      (isAt n l = false → ((Df.insQ n l).modify (low n l) F).Perm (F ⟨n, [], []⟩ :: l)) := by
  unfold Df.insQ
  cases hi : isAt n l with
  | true =>
    rw [if_pos rfl]
    obtain ⟨f, hf⟩ : ∃ f, atF n l = some f := by
      cases hf : atF n l with
      | none => have := Df.at_none hf; rw [hi] at this; cases this
      | some f => exact ⟨f, rfl⟩
    have h1 := get_low hf
    have h2 := mod_map hs h1.1 F
    rw [h1.2.1] at h2
    rw [h2]
    exact ⟨srt_keep hs hF, fun _ => rfl, fun h => by cases h⟩
  | false =>
    rw [if_neg (by simp)]
    have hl : (l.take (low n l)).length = low n l := by rw [List.length_take]; have := Df.low_le n l; omega
    have hm : (l.take (low n l) ++ ⟨n, [], []⟩ :: l.drop (low n l)).modify (low n l) F = l.take (low n l) ++ F ⟨n, [], []⟩ :: l.drop (low n l) := by
      have := Df.modify_mid F (⟨n, [], []⟩ : Df.Fl) (l.drop (low n l)) (l.take (low n l))
      rw [hl] at this
      exact this
    rw [hm]
    refine ⟨srt_ins hs hi _ (hF _), fun h => (by cases h), fun _ => ?_⟩
    have := List.perm_middle (a := F ⟨n, [], []⟩) (l₁ := l.take (low n l)) (l₂ := l.drop (low n l))
    rw [List.take_append_drop] at this
    exact this
theorem Rel.nil : Rel ⟨[], []⟩ ⟨[], 0⟩ [] := ⟨rfl, List.Pairwise.nil, (fun p hp => by cases hp), List.Pairwise.nil, List.Perm.nil⟩
section
variable {d : Dk.D} {q : Df.Q} {P : List (Nat × Int)} {K : Nat}
theorem Rel.find (h : Rel d q P) (hok : Dk.Ok d K) (n : Int) : atF n q.l = (Dk.findF d.fs n).map (img P) := by
  cases hf : Dk.findF d.fs n with
  | none =>
    cases ha : atF n q.l with
    | none => rfl
    | some g =>
      obtain ⟨h1, h2⟩ := get_mem ha
      obtain ⟨f, h3, rfl⟩ := List.mem_map.1 (h.prm.mem_iff.1 h1)
      exact absurd h2 (Dk.find_none hf f h3)
  | some f =>
    obtain ⟨h1, h2⟩ := Dk.find_some hf
    have h3 : img P f ∈ q.l := h.prm.mem_iff.2 (List.mem_map.2 ⟨f, h1, rfl⟩)
    have := mem_get h.srt h3
    rw [show (img P f).n = n from h2] at this
    exact this
theorem Rel.is (h : Rel d q P) (hok : Dk.Ok d K) (n : Int) : isAt n q.l = (Dk.findF d.fs n).isSome := by
  have hf := h.find hok n
  cases h1 : Dk.findF d.fs n with
  | none => rw [h1] at hf; exact Df.at_none hf
  | some f => rw [h1] at hf; exact (get_low hf).2.2
theorem Rel.used (h : Rel d q P) : Df.usedQ q.l = Dk.usedD d := by
  unfold Df.usedQ Dk.usedD
  rw [(h.prm.map _).sum_nat, List.map_map]; rfl
theorem Rel.count (h : Rel d q P) : q.l.length = d.fs.length := by rw [h.prm.length_eq, List.length_map]
theorem Rel.appE (h : Rel d q P) (hok : Dk.Ok d K) (n : Int) (bs : List UInt8) : Df.appE q n bs = Dk.appE d n bs := by
  unfold Df.appE Dk.appE
  rw [h.is hok, h.count, h.used]
  cases hf : Dk.findF d.fs n with
  | none => simp
  | some f => simp
theorem Rel.er (h : Rel d q P) (hok : Dk.Ok d K) (n : Int) : Df.erN n q.l = Dk.there d n := by
  unfold Df.erN Dk.there
  rw [h.find hok]
  cases Dk.findF d.fs n <;> rfl
theorem Rel.truE (h : Rel d q P) (hok : Dk.Ok d K) (n k : Int) : Df.truE q.l n k = Dk.truE d n k := by
  unfold Df.truE Dk.truE Dk.lenF
  rw [h.find hok]
  cases Dk.findF d.fs n with
  | none => rfl
  | some f =>
    dsimp only [Option.map_some]
    have e : ¬ (some f = none) := by simp
    rw [if_neg e]
    rfl
/-- how an act that turns one file leaves them -/
theorem Rel.turn (h : Rel d q P) {n : Int} {F : Dk.Fl → Dk.Fl} {G : Df.Fl → Df.Fl} {P' : List (Nat × Int)} {lo' : List (Int × Nat)} {t' : Nat} (hG : ∀ f, (G f).n = f.n)
    (he : P'.map (·.2) = Dq.ex lo') (hu : (P'.map (·.1)).Pairwise (· < ·)) (hp : ∀ p ∈ P', 0 < p.1 ∧ p.1 ≤ t') (h1 : ∀ f ∈ d.fs, f.n = n → G (img P f) = img P' (F f)) (h2 : ∀ f ∈ d.fs, f.n ≠ n → img P f = img P' f) :
    Rel ⟨Dk.updF n F d.fs, lo'⟩ ⟨q.l.map fun g => if g.n = n then G g else g, t'⟩ P' := by
  refine ⟨he, hu, hp, srt_keep h.srt hG, ?_⟩
  refine (h.prm.map _).trans ?_
  dsimp only
  unfold Dk.updF
  rw [List.map_map, List.map_map, List.map_congr_left (g := (img P' ∘ fun f => if f.n = n then F f else f))]
  intro f hf
  simp only [Function.comp]
  by_cases hn : f.n = n
  · rw [if_pos hn, if_pos (show (img P f).n = n from hn)]; exact h1 f hf hn
  · rw [if_neg hn, if_neg (show ¬ (img P f).n = n from hn)]; exact h2 f hf hn
theorem img_same {P P' : List (Nat × Int)} {f : Dk.Fl} (h : tm f.n P' = tm f.n P) : img P f = img P' f := by unfold img; rw [h]
theorem up_of {P P' : List (Nat × Int)} (hu : (P.map (·.1)).Pairwise (· < ·)) (hs : P'.Sublist P) : (P'.map (·.1)).Pairwise (· < ·) := List.Pairwise.sublist (hs.map _) hu
theorem Rel.append (h : Rel d q P) (hok : Dk.Ok d K) (n : Int) (bs : List UInt8) : ∃ P', Rel (Dk.appD d n bs) (Df.appQ q n bs) P' := by
  unfold Dk.appD Df.appQ
  rw [h.appE hok]
  by_cases hz : Dk.appE d n bs = 0
  · rw [if_pos hz, if_neg (by rw [hz]; simp)]
    have hPn : (P ++ (Df.tms q.time bs.length).map fun t => (t, n)).map (·.2) = Dq.ex (d.lo ++ [(n, bs.length)]) := by
      rw [ex_app, ← h.ex, List.map_append, List.map_map]
      congr 1
      show _ = List.replicate bs.length n ++ []
      rw [List.append_nil]
      have e : ∀ l : List Nat, l.map ((fun x : Nat × Int => x.2) ∘ fun t => (t, n)) = List.replicate l.length n := fun l => by
        rw [← List.map_const']; rfl
      rw [e, Df.tms_len]
    have hup : ((P ++ (Df.tms q.time bs.length).map fun t => (t, n)).map (·.1)).Pairwise (· < ·) := by
      rw [List.map_append, List.map_map, List.pairwise_append]
      have e : (Df.tms q.time bs.length).map (((fun x => x.1) : Nat × Int → Nat) ∘ fun t => (t, n)) = Df.tms q.time bs.length := by
        exact List.map_id _
      rw [e]
      refine ⟨h.up, ?_, ?_⟩
      · unfold Df.tms
        rw [List.pairwise_map]
        exact List.Pairwise.imp (fun {a b} hab => by omega) List.pairwise_lt_range
      · intro a ha b hb
        obtain ⟨p, hp, rfl⟩ := List.mem_map.1 ha
        have := (h.pos p hp).2
        unfold Df.tms at hb
        obtain ⟨j, _, rfl⟩ := List.mem_map.1 hb
        omega
    have hpo : ∀ p ∈ P ++ (Df.tms q.time bs.length).map fun t => (t, n), 0 < p.1 ∧ p.1 ≤ q.time + bs.length := by
      intro p hp
      rcases List.mem_append.1 hp with hp | hp
      · have := h.pos p hp; omega
      · obtain ⟨t, ht, rfl⟩ := List.mem_map.1 hp
        unfold Df.tms at ht
        obtain ⟨j, hj, rfl⟩ := List.mem_map.1 ht
        have := List.mem_range.1 hj
        dsimp only; omega
    have hl := app_list h.srt n (Df.appF bs q.time) (fun _ => rfl)
    have hoth : ∀ f : Dk.Fl, f.n ≠ n → tm f.n (P ++ (Df.tms q.time bs.length).map fun t => (t, n)) = tm f.n P := fun f hf => by rw [tm_app, tm_new_other hf, List.append_nil]
    refine ⟨P ++ (Df.tms q.time bs.length).map fun t => (t, n), ?_⟩
    cases hf : Dk.findF d.fs n with
    | none =>
      dsimp only
      have hi : isAt n q.l = false := by rw [h.is hok, hf]; rfl
      refine ⟨hPn, hup, hpo, hl.1, (hl.2.2 hi).trans ?_⟩
      dsimp only
      rw [List.map_append]
      refine List.Perm.trans ?_ (List.perm_append_comm)
      rw [List.map_singleton]
      have h0 : tm n P = [] := by
        rw [← List.length_eq_zero_iff, tm_len h.ex]
        unfold Dk.looseOf
        rw [List.filter_eq_nil_iff.2 (fun p hp e => by
          obtain ⟨f, h3, h4⟩ := hok.mem p hp
          exact Dk.find_none hf f h3 (h4.trans (by simpa using e)))]
        rfl
      have h1 : img (P ++ (Df.tms q.time bs.length).map fun t => (t, n)) ⟨n, bs, 0⟩ = Df.appF bs q.time ⟨n, [], []⟩ := by
        unfold img Df.appF
        dsimp only
        rw [tm_app, tm_new_own, h0]; rfl
      rw [h1]
      refine List.Perm.cons _ (h.prm.trans ?_)
      rw [List.map_congr_left (g := img (P ++ (Df.tms q.time bs.length).map fun t => (t, n))) (fun f hfm => img_same (hoth f (Dk.find_none hf f hfm)))]
      exact List.Perm.refl _
    | some f0 =>
      dsimp only
      have hi : isAt n q.l = true := by rw [h.is hok, hf]; rfl
      rw [hl.2.1 hi]
      refine h.turn (n := n) (fun _ => rfl) hPn hup hpo (fun f hfm hn => ?_) (fun f hfm hn => img_same (hoth f hn))
      unfold img Df.appF
      dsimp only
      rw [hn, tm_app, tm_new_own, List.append_assoc]
  · rw [if_neg hz, if_pos hz]; exact ⟨P, h⟩
theorem Rel.sync (h : Rel d q P) (hok : Dk.Ok d K) (n : Int) : ∃ P', Rel (Dk.syncD d n) (Df.syncQ q n) P' := by
  unfold Dk.syncD Df.syncQ
  rw [setQ_map h.srt]
  cases hf : Dk.findF d.fs n with
  | none =>
    dsimp only
    refine ⟨P, ?_⟩
    rw [List.map_congr_left (g := id) (fun g hg => by
      rw [if_neg]; rfl
      intro e
      obtain ⟨f, hfm, rfl⟩ := List.mem_map.1 (h.prm.mem_iff.1 hg)
      exact Dk.find_none hf f hfm e), List.map_id]
    exact h
  | some f0 =>
    dsimp only
    refine ⟨P.filter fun p => !(p.2 == n), h.turn (fun _ => rfl) ?_ (up_of h.up List.filter_sublist) (fun p hp => h.pos p (List.mem_filter.1 hp).1) (fun f hfm hn => ?_) (fun f hfm hn => img_same (tm_out_other hn P))⟩
    · rw [ex_forget, ← h.ex, List.filter_map]; rfl
    · unfold img
      dsimp only
      rw [hn, tm_out_own, List.append_nil, List.length_append, List.length_replicate, tm_len h.ex, ← hn, hok.eq f hfm]
theorem Rel.remove (h : Rel d q P) (hok : Dk.Ok d K) (n : Int) : ∃ P', Rel (Dk.removeD d n) (Df.removeQ q n) P' := by
  unfold Dk.removeD Df.removeQ
  rw [h.find hok]
  cases hf : Dk.findF d.fs n with
  | none => exact ⟨P, h⟩
  | some f0 =>
    dsimp only [Option.map_some]
    have hat : atF n q.l = some (img P f0) := by rw [h.find hok, hf]; rfl
    rw [erase_filter h.srt hat]
    refine ⟨P.filter fun p => !(p.2 == n), ?_, up_of h.up List.filter_sublist, (fun p hp => h.pos p (List.mem_filter.1 hp).1), srt_filter h.srt _, ?_⟩
    · rw [ex_forget, ← h.ex, List.filter_map]; rfl
    · refine (h.prm.filter _).trans ?_
      dsimp only
      rw [List.filter_map]
      have e : ((fun g : Df.Fl => decide (g.n ≠ n)) ∘ img P) = fun f : Dk.Fl => decide (f.n ≠ n) := rfl
      rw [e, List.map_congr_left (g := img (P.filter fun p => !(p.2 == n))) (fun f hfm => img_same (tm_out_other (by simpa using (List.mem_filter.1 hfm).2) P))]
theorem Rel.trunc (h : Rel d q P) (hok : Dk.Ok d K) (n k : Int) : ∃ P', Rel (Dk.truD d n k) (Df.truQ q n k) P' := by
  unfold Dk.truD Df.truQ
  rw [h.truE hok]
  by_cases hz : Dk.truE d n k = 0
  · rw [if_pos hz, if_neg (by rw [hz]; simp), setQ_map h.srt]
    unfold Dk.truE at hz
    by_cases h1 : Dk.findF d.fs n = none
    · rw [if_pos h1] at hz; cases hz
    rw [if_neg h1] at hz
    by_cases h2 : k < 0 ∨ (Dk.lenF d.fs n : Int) < k
    · rw [if_pos h2] at hz; cases hz
    obtain ⟨f0, hf⟩ := Option.ne_none_iff_exists'.1 h1
    obtain ⟨hf1, hf2⟩ := Dk.find_some hf
    have hl : Dk.lenF d.fs n = f0.bs.length := by unfold Dk.lenF; rw [hf]
    have hs : Dk.synF d.fs n = f0.syn := by unfold Dk.synF; rw [hf]
    rw [hl] at h2
    rw [hl, hs]
    refine ⟨cutP n (f0.bs.length - max k.toNat f0.syn) P, h.turn (fun _ => rfl) (ex_cut h.ex) (up_of h.up (cut_sub _ _ _)) (fun p hp => h.pos p ((cut_sub _ _ _).subset hp)) (fun f hfm hn => ?_) (fun f hfm hn => img_same (tm_cut_other hn _ P))⟩
    have hff : f = f0 := by
      have := Dk.nodup_find hok.nd hfm
      rw [hn, hf] at this
      exact (Option.some.inj this).symm
    subst hff
    have h4 := hok.eq f hfm
    have h5 := tm_len h.ex n
    rw [hn] at h4
    unfold img
    dsimp only
    rw [hn, tm_cut_own, List.take_append, List.take_replicate, List.length_replicate, h5]
    congr 1
    congr 1
    · rw [Nat.min_comm]
    · congr 1
      omega
  · rw [if_neg hz, if_pos hz]; exact ⟨P, h⟩
end
end Dq
end Go.Proofs.Ytfpfpdhfnleebaa
