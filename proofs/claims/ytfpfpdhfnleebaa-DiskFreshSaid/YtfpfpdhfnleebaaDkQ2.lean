/- The disk and the document's disk, plain: a crash; what is told. No conditions. -/
import Derived.Test.YtfpfpdhfnleebaaDkQ1
set_option maxRecDepth 8000
namespace Go.Proofs.Ytfpfpdhfnleebaa
set_option linter.unusedVariables false
set_option linter.unusedSimpArgs false
namespace Dq
open Df (low isAt atF Srt synL)
def cnt (ts : List Nat) (m : Nat) : Nat := ts.countP fun t => decide (t ≤ m)
/-- what nth tells -/
structure Nth (ts : List Nat) (k r : Nat) : Prop where
  lo : r = 0 ∨ cnt ts r ≤ k
  hi : (∀ t ∈ ts, t ≤ r) ∨ k < cnt ts (r + 1)
def timesQ (l : List Df.Fl) : List Nat := l.flatMap fun f => f.cm.drop (synL f.cm)
def LastOK (q : Df.Q) (k last : Nat) : Prop := if k < (timesQ q.l).length then Nth (timesQ q.l) k last else last = q.time
def nF (last : Nat) (f : Df.Fl) : Nat := (f.cm.takeWhile fun t => decide (t ≤ last)).length
def crF (last : Nat) (f : Df.Fl) : Df.Fl := ⟨f.n, f.bs.take (nF last f), List.replicate (nF last f) 0⟩
def crashQ (last : Nat) (q : Df.Q) : Df.Q := ⟨q.l.map (crF last), q.time⟩
def lostQ (last : Nat) (l : List Df.Fl) : Nat := (l.map fun f => f.bs.length - nF last f).sum
theorem keptI_eq (keep : Int) (n : Nat) : Dk.keptI keep n = min keep.toNat n := by unfold Dk.keptI; omega
def more (L : List Int) (f : Dk.Fl) : Dk.Fl := { f with syn := f.syn + L.count f.n }
theorem crFold_eq : ∀ (lo : List (Int × Nat)) (s : Dk.Cs), (Dk.crFold s lo).fs = s.fs.map (more ((ex lo).take s.keep.toNat)) ∧ (Dk.crFold s lo).lost = s.lost + ((ex lo).length - s.keep.toNat)
  | [], s => by
    refine ⟨?_, by show s.lost = _; simp [ex_nil]⟩
    show s.fs = _
    rw [List.map_congr_left (g := id) (fun f hf => by unfold more; simp [ex_nil]), List.map_id]
  | p :: lo, s => by
    obtain ⟨h1, h2⟩ := crFold_eq lo (Dk.crStep s p)
    show (Dk.crFold (Dk.crStep s p) lo).fs = _ ∧ (Dk.crFold (Dk.crStep s p) lo).lost = _
    have hk : (Dk.crStep s p).keep.toNat = s.keep.toNat - p.2 := by unfold Dk.crStep; dsimp only; rw [keptI_eq]; omega
    rw [h1, h2, hk]
    refine ⟨?_, ?_⟩
    · show (Dk.updF _ _ _).map _ = _
      unfold Dk.updF
      rw [List.map_map]
      refine List.map_congr_left fun f hf => ?_
      simp only [Function.comp]
      rw [ex_cons, List.take_append, List.take_replicate, List.length_replicate]
      unfold more
      rw [List.count_append, List.count_replicate]
      by_cases hn : f.n = p.1
      · rw [if_pos hn, if_pos (by simpa using hn.symm), keptI_eq]
        dsimp only
        rw [Nat.add_assoc]
      · rw [if_neg hn, if_neg (by simpa using fun e => hn e.symm), Nat.zero_add]
    · rw [ex_cons, List.length_append, List.length_replicate]
      unfold Dk.crStep
      dsimp only
      rw [keptI_eq]
      omega
theorem crashD_eq (d : Dk.D) (keep : Int) : Dk.crashD d keep = ⟨d.fs.map fun f => Dk.cutF (more ((ex d.lo).take keep.toNat) f), []⟩ := by
  unfold Dk.crashD
  rw [(crFold_eq d.lo ⟨keep, 0, d.fs⟩).1, List.map_map]; rfl
theorem crashN_eq (d : Dk.D) (keep : Int) : Dk.crashN d keep = (ex d.lo).length - keep.toNat := by
  unfold Dk.crashN
  rw [(crFold_eq d.lo ⟨keep, 0, d.fs⟩).2, Nat.zero_add]
theorem up_filter {α : Type} (g : α → Nat) (r : Nat) : ∀ {P : List α}, (P.map g).Pairwise (· < ·) → P.filter (fun p => decide (g p ≤ r)) = P.take (P.countP fun p => decide (g p ≤ r)) ∧ P.takeWhile (fun p => decide (g p ≤ r)) = P.filter (fun p => decide (g p ≤ r))
  | [], _ => ⟨rfl, rfl⟩
  | p :: P, h => by
    rw [List.map_cons, List.pairwise_cons] at h
    obtain ⟨h1, h2⟩ := up_filter g r h.2
    by_cases hp : g p ≤ r
    · rw [List.filter_cons_of_pos (by simpa using hp), List.countP_cons_of_pos (by simpa using hp), List.takeWhile_cons_of_pos (by simpa using hp), List.take_succ_cons, h2, ← h1]
      exact ⟨rfl, rfl⟩
    · have h3 : ∀ x ∈ P, ¬ g x ≤ r := fun x hx => by have := h.1 (g x) (List.mem_map.2 ⟨x, hx, rfl⟩); omega
      have h4 : P.countP (fun p => decide (g p ≤ r)) = 0 := List.countP_eq_zero.2 (fun x hx => by simpa using h3 x hx)
      rw [List.filter_cons_of_neg (by simpa using hp), List.countP_cons_of_neg (by simpa using hp), List.takeWhile_cons_of_neg (by simpa using hp), h4, List.filter_eq_nil_iff.2 (fun x hx => by simpa using h3 x hx)]
      exact ⟨rfl, rfl⟩
theorem cnt_succ {L : List Nat} (h : L.Nodup) (r : Nat) : cnt L (r + 1) ≤ cnt L r + 1 := by
  unfold cnt
  induction L with
  | nil => simp
  | cons t L ih =>
    rw [List.nodup_cons] at h
    by_cases ht : t = r + 1
    · subst ht
      have : L.countP (fun t => decide (t ≤ r + 1)) = L.countP fun t => decide (t ≤ r) := by
        refine List.countP_congr fun x hx => ?_
        have : x ≠ r + 1 := fun e => h.1 (e ▸ hx)
        simp; omega
      rw [List.countP_cons_of_pos (by simp), List.countP_cons_of_neg (by simp), this]
      omega
    · have := ih h.2
      by_cases h1 : t ≤ r
      · rw [List.countP_cons_of_pos (by simp; omega), List.countP_cons_of_pos (by simpa using h1)]; omega
      · rw [List.countP_cons_of_neg (by simp; omega), List.countP_cons_of_neg (by simpa using h1)]; omega
theorem nth_cnt {L : List Nat} (hd : L.Nodup) (hp : ∀ t ∈ L, 0 < t) {k r : Nat} (hk : k < L.length) (h : Nth L k r) : cnt L r = k := by
  have h1 : cnt L r ≤ k := by
    rcases h.lo with h0 | h0
    · subst h0
      unfold cnt
      rw [List.countP_eq_zero.2 (fun t ht => by have := hp t ht; simp; omega)]; omega
    · exact h0
  rcases h.hi with h2 | h2
  · have : cnt L r = L.length := by unfold cnt; exact List.countP_eq_length.2 (fun t ht => by simpa using h2 t ht)
    omega
  · have := cnt_succ hd r; omega
theorem filter_split {α : Type} (p q : α → Bool) (hpq : ∀ a, ¬ (p a = true ∧ q a = true)) : ∀ l : List α, (l.filter p ++ l.filter q).Perm (l.filter fun a => p a || q a)
  | [] => List.Perm.nil
  | a :: l => by
    have ih := filter_split p q hpq l
    cases h1 : p a <;> cases h2 : q a
    · rw [List.filter_cons_of_neg (by simp [h1]), List.filter_cons_of_neg (by simp [h2]), List.filter_cons_of_neg (by simp [h1, h2])]; exact ih
    · rw [List.filter_cons_of_neg (by simp [h1]), List.filter_cons_of_pos h2, List.filter_cons_of_pos (by simp [h2])]
      exact List.perm_middle.trans (ih.cons a)
    · rw [List.filter_cons_of_pos h1, List.filter_cons_of_neg (by simp [h2]), List.filter_cons_of_pos (by simp [h1]), List.cons_append]
      exact ih.cons a
    · exact absurd ⟨h1, h2⟩ (hpq a)
theorem tm_all (P : List (Nat × Int)) : ∀ ns : List Int, ns.Nodup → (ns.flatMap fun n => tm n P).Perm ((P.filter fun p => ns.contains p.2).map (·.1))
  | [], _ => by simp
  | n :: ns, h => by
    rw [List.nodup_cons] at h
    rw [List.flatMap_cons]
    refine (List.Perm.append_left _ (tm_all P ns h.2)).trans ?_
    unfold tm
    rw [← List.map_append]
    have := filter_split (fun p : Nat × Int => p.2 == n) (fun p => ns.contains p.2) (fun a ha => by
      obtain ⟨h1, h2⟩ := ha
      rw [eq_of_beq h1] at h2
      exact h.1 (by simpa using h2)) P
    refine (this.map _).trans ?_
    rw [List.filter_congr (q := fun p => (n :: ns).contains p.2) (fun p hp => by rw [List.contains_cons])]
theorem sum_count (L : List Int) : ∀ fs : List Dk.Fl, (fs.map (·.n)).Nodup → (fs.map fun f => L.count f.n).sum = (L.filter fun x => (fs.map (·.n)).contains x).length
  | [], _ => by
    rw [List.filter_eq_nil_iff.2 (fun x hx => by simp)]; rfl
  | f :: fs, h => by
    rw [List.map_cons, List.nodup_cons] at h
    rw [List.map_cons, List.sum_cons, sum_count L fs h.2]
    have := (filter_split (fun x => x == f.n) (fun x => (fs.map (·.n)).contains x) (fun a ha => by
      obtain ⟨h1, h2⟩ := ha
      rw [eq_of_beq h1] at h2
      exact h.1 (by simpa using h2)) L).length_eq
    rw [List.length_append] at this
    rw [List.count_eq_countP, List.countP_eq_length_filter, this, List.map_cons, List.filter_congr (q := fun x => (f.n :: fs.map (·.n)).contains x) (fun p hp => by rw [List.contains_cons])]
theorem synL_rep (s : Nat) {L : List Nat} (h : ∀ t ∈ L, 0 < t) : synL (List.replicate s 0 ++ L) = s := by
  unfold synL
  rw [List.takeWhile_append_of_pos (by intro a ha; simpa using (List.eq_of_mem_replicate ha)), List.length_append, List.length_replicate]
  cases L with
  | nil => rfl
  | cons t L =>
    rw [List.takeWhile_cons_of_neg (by have := h t List.mem_cons_self; simp; omega)]; rfl
section
variable {d : Dk.D} {q : Df.Q} {P : List (Nat × Int)} {K : Nat}
theorem Rel.tmpos (h : Rel d q P) (n : Int) : ∀ t ∈ tm n P, 0 < t := fun t ht => (h.pos _ (tm_mem ht)).1
theorem Rel.cover (h : Rel d q P) (hok : Dk.Ok d K) : ∀ x ∈ Dq.ex d.lo, (d.fs.map (·.n)).contains x = true := by
  intro x hx
  unfold Dq.ex at hx
  obtain ⟨p, hp, h1⟩ := List.mem_flatMap.1 hx
  obtain ⟨f, h2, h3⟩ := hok.mem p hp
  have := List.eq_of_mem_replicate h1
  subst this
  simpa using ⟨f, h2, h3⟩
theorem Rel.times (h : Rel d q P) (hok : Dk.Ok d K) : (timesQ q.l).Perm (P.map (·.1)) := by
  unfold timesQ
  refine (List.Perm.flatMap_right _ h.prm).trans ?_
  rw [List.flatMap_map]
  have e : (d.fs.flatMap fun f => (img P f).cm.drop (synL (img P f).cm)) = (d.fs.map (·.n)).flatMap fun n => tm n P := by
    rw [List.flatMap_map]
    congr 1
    funext f
    unfold img
    dsimp only
    rw [synL_rep f.syn (h.tmpos f.n)]
    exact List.drop_left' (by simp)
  rw [e]
  refine (tm_all P _ hok.nd).trans ?_
  rw [List.filter_eq_self.2 (fun p hp => h.cover hok p.2 (by rw [← h.ex]; exact List.mem_map.2 ⟨p, hp, rfl⟩))]
theorem Rel.last (h : Rel d q P) (hok : Dk.Ok d K) {k last : Nat} (hl : LastOK q k last) : P.filter (fun p => decide (p.1 ≤ last)) = P.take k := by
  have ht := h.times hok
  have hc : cnt (P.map (·.1)) last = P.countP fun p => decide (p.1 ≤ last) := by unfold cnt; rw [List.countP_map]; rfl
  have hlen : (timesQ q.l).length = P.length := by rw [ht.length_eq, List.length_map]
  have h9 := (up_filter (fun p : Nat × Int => p.1) last h.up).1
  rw [h9]
  unfold LastOK at hl
  rw [hlen] at hl
  by_cases hk : k < P.length
  · rw [if_pos hk] at hl
    have hn : Nth (P.map (·.1)) k last := ⟨hl.lo.imp id (fun e => by unfold cnt at e ⊢; rwa [← ht.countP_eq]), hl.hi.imp (fun e t ht' => e t (ht.mem_iff.2 ht')) (fun e => by unfold cnt at e ⊢; rwa [← ht.countP_eq])⟩
    have hd : (P.map (·.1)).Nodup := h.up.imp (fun {a b} hab => by omega)
    have := nth_cnt hd (fun t ht' => by obtain ⟨p, hp, rfl⟩ := List.mem_map.1 ht'; exact (h.pos p hp).1) (by rw [List.length_map]; exact hk) hn
    rw [← hc, this]
  · rw [if_neg hk] at hl
    subst hl
    rw [List.countP_eq_length.2 (fun p hp => by simpa using (h.pos p hp).2), List.take_length, List.take_of_length_le (by omega)]
theorem Rel.nf (h : Rel d q P) (hok : Dk.Ok d K) {k last : Nat} (hl : LastOK q k last) (f : Dk.Fl) : nF last (img P f) = f.syn + ((Dq.ex d.lo).take k).count f.n := by
  unfold nF img
  dsimp only
  rw [List.takeWhile_append_of_pos (by intro a ha; have := List.eq_of_mem_replicate ha; simp [this]), List.length_append, List.length_replicate]
  congr 1
  have hup : ((tm f.n P).map id).Pairwise (· < ·) := by
    rw [List.map_id]
    unfold tm
    exact up_of h.up List.filter_sublist
  have := (up_filter id last hup).2
  simp only [id] at this
  rw [this]
  have e : (tm f.n P).filter (fun t => decide (t ≤ last)) = tm f.n (P.take k) := by
    rw [← h.last hok hl]
    unfold tm
    rw [List.filter_map, List.filter_filter, List.filter_filter]
    congr 1
    refine List.filter_congr fun p hp => ?_
    simp only [Function.comp]
    rw [Bool.and_comm]
  rw [e, ← h.ex, ← List.map_take]
  unfold tm
  rw [List.length_map, List.count_eq_countP, List.countP_map, List.countP_eq_length_filter]
  rfl
theorem Rel.crash (h : Rel d q P) (hok : Dk.Ok d K) {keep : Int} {last : Nat} (hl : LastOK q keep.toNat last) : Rel (Dk.crashD d keep) (crashQ last q) [] ∧ lostQ last q.l = Dk.crashN d keep := by
  refine ⟨⟨by rw [crashD_eq]; rfl, List.Pairwise.nil, (fun p hp => by cases hp), ?_, ?_⟩, ?_⟩
  · have := h.srt
    unfold Srt at this ⊢
    unfold crashQ
    dsimp only
    rw [List.map_map]
    exact this
  · rw [crashD_eq]
    unfold crashQ
    refine (h.prm.map _).trans ?_
    dsimp only
    rw [List.map_map, List.map_map, List.map_congr_left (g := img [] ∘ fun f => Dk.cutF (more ((Dq.ex d.lo).take keep.toNat) f)) ?_]
    intro f hf
    simp only [Function.comp]
    unfold crF
    rw [h.nf hok hl]
    unfold img Dk.cutF more
    dsimp only
    congr 1
    show _ = _ ++ tm _ []
    unfold tm
    simp
  · unfold lostQ
    rw [(h.prm.map _).sum_nat, List.map_map, crashN_eq]
    rw [List.map_congr_left (g := fun f => ((Dq.ex d.lo).drop keep.toNat).count f.n) (fun f hf => by
      simp only [Function.comp]
      rw [h.nf hok hl]
      have h1 := hok.eq f hf
      rw [← ex_count] at h1
      have h2 : (Dq.ex d.lo).count f.n = ((Dq.ex d.lo).take keep.toNat).count f.n + ((Dq.ex d.lo).drop keep.toNat).count f.n := by rw [← List.count_append, List.take_append_drop]
      show f.bs.length - _ = _
      omega)]
    rw [sum_count _ _ hok.nd, List.filter_eq_self.2 (fun x hx => h.cover hok x (List.mem_of_mem_drop hx)), List.length_drop]
theorem Rel.loose (h : Rel d q P) (hok : Dk.Ok d K) : Df.looseQ q.l = Dk.looseR d.lo := by
  unfold Df.looseQ
  rw [(h.prm.map _).sum_nat, List.map_map, ← ex_len]
  rw [List.map_congr_left (g := fun f => (Dq.ex d.lo).count f.n) (fun f hf => by
    simp only [Function.comp]
    unfold img
    dsimp only
    rw [synL_rep f.syn (h.tmpos f.n), ex_count]
    have := hok.eq f hf
    omega)]
  rw [sum_count _ _ hok.nd, List.filter_eq_self.2 (h.cover hok)]
theorem Rel.files (h : Rel d q P) : q.l.map (·.n) = Dk.filesD d := by
  unfold Dk.filesD
  refine Dk.sorted_unique ?_ (Dk.sortI_sorted _) ?_
  · have := h.srt
    unfold Srt at this
    exact this.imp fun {a b} hab => by omega
  · refine ((h.prm.map _).trans ?_).trans (List.mergeSort_perm _ _).symm
    rw [List.map_map]
    exact List.Perm.refl _
theorem Rel.bs (h : Rel d q P) (hok : Dk.Ok d K) (n : Int) : Df.bsN n q.l = Dk.bsD d n := by
  unfold Df.bsN Dk.bsD
  rw [h.find hok]
  cases Dk.findF d.fs n <;> rfl
theorem Rel.len (h : Rel d q P) (hok : Dk.Ok d K) (n : Int) : Df.lenN n q.l = Dk.lenF d.fs n := by
  unfold Df.lenN Dk.lenF
  rw [h.find hok]
  cases Dk.findF d.fs n <;> rfl
theorem Rel.syn (h : Rel d q P) (hok : Dk.Ok d K) (n : Int) : Df.synN n q.l = Dk.synF d.fs n := by
  unfold Df.synN Dk.synF
  rw [h.find hok]
  cases hf : Dk.findF d.fs n with
  | none => rfl
  | some f => exact synL_rep f.syn (h.tmpos f.n)
end
end Dq
end Go.Proofs.Ytfpfpdhfnleebaa
