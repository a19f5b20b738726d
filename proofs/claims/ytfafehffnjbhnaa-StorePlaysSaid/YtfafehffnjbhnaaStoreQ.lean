/- Two stores that hold the same writes are told alike; the writes that come in, whatever their order. Plain lemmas. -/
import Derived.Test.YtfafehffnjbhnaaStAble
namespace Go.Proofs.Ytfafehffnjbhnaa
set_option linter.unusedVariables false
set_option linter.unusedSimpArgs false
namespace Sto
open Vec
def keyB (k : ByteArray) (x : Ent) : Bool := decide (x.key = k)
section
variable {rng : Int} {mk : Col} {st st' : List Ls} {e x y : Ent} {l : Ls} {k : ByteArray} {es : List Ent}
theorem filter_none {p : Ent → Bool} {l : List Ent} (h : ∀ x ∈ l, p x = false) : l.filter p = [] := by
  rw [List.filter_eq_nil_iff]
  intro x hx
  simp [h x hx]
theorem vers_filter : ∀ {st : List Ls}, (∀ l ∈ st, ∀ x ∈ l.es, x.key = l.k) → (st.map (·.k)).Nodup → ∀ k, vers st k = (all st).filter (keyB k)
  | [], _, _, k => rfl
  | a :: st, ho, hn, k => by
    rw [List.map_cons, List.nodup_cons] at hn
    have ih := vers_filter (fun l hl => ho l (List.mem_cons_of_mem _ hl)) hn.2 k
    unfold vers
    rw [all_cons, List.filter_append, ← ih]
    by_cases h : a.k = k
    · rw [if_pos h]
      have h1 : a.es.filter (keyB k) = a.es := by
        rw [List.filter_eq_self]
        intro x hx
        unfold keyB
        rw [ho a List.mem_cons_self x hx, h]
        simp
      have h2 : vers st k = [] := vers_none fun l hl e => hn.1 (List.mem_map.2 ⟨l, hl, by rw [e, h]⟩)
      rw [h1, h2, List.append_nil]
    · rw [if_neg h]
      have h1 : a.es.filter (keyB k) = [] := filter_none fun x hx => by
        unfold keyB
        rw [ho a List.mem_cons_self x hx]
        simpa using h
      rw [h1, List.nil_append]
theorem Good.vers_filter (h : Good rng st) (k : ByteArray) : vers st k = (all st).filter (keyB k) := Sto.vers_filter (fun l hl x hx => (h.ok l hl x hx).2.2) h.kd k
theorem sorted_same {a b : List Ent} (h : a.Perm b) (ha : a.Pairwise fun x y => gtE x y < 0) (hb : b.Pairwise fun x y => gtE x y < 0) : a = b :=
  List.Perm.eq_of_pairwise (le := fun x y => gtE x y < 0) (fun x y _ _ h1 h2 => (gtE_asym h1 h2).elim) ha hb h
theorem Good.key_mem (h : Good rng st) (k : ByteArray) : k ∈ st.map (·.k) ↔ ∃ x ∈ all st, x.key = k := by
  constructor
  · intro hk
    obtain ⟨l, hl, rfl⟩ := List.mem_map.1 hk
    obtain ⟨x, hx⟩ := List.exists_mem_of_ne_nil _ (h.ne l hl)
    exact ⟨x, List.mem_flatMap.2 ⟨l, hl, hx⟩, (h.ok l hl x hx).2.2⟩
  · rintro ⟨x, hx, rfl⟩
    obtain ⟨l, hl, hx⟩ := List.mem_flatMap.1 hx
    exact List.mem_map.2 ⟨l, hl, (h.ok l hl x hx).2.2.symm⟩
/-- what is told of a store hangs on its writes alone -/
theorem Good.same (h : Good rng st) (h' : Good rng st') (hp : (all st).Perm (all st')) : (∀ k, vers st k = vers st' k) ∧ (st.map (·.k)).Perm (st'.map (·.k)) ∧ lenS st = lenS st' := by
  refine ⟨fun k => ?_, ?_, ?_⟩
  · refine sorted_same ?_ (h.vers_so k) (h'.vers_so k)
    rw [h.vers_filter, h'.vers_filter]
    exact hp.filter _
  · refine (List.perm_ext_iff_of_nodup h.kd h'.kd).2 fun k => ?_
    rw [h.key_mem, h'.key_mem]
    exact ⟨fun ⟨x, hx, e⟩ => ⟨x, hp.subset hx, e⟩, fun ⟨x, hx, e⟩ => ⟨x, hp.symm.subset hx, e⟩⟩
  · rw [← all_len, ← all_len, hp.length_eq]
/-! the writes that come in -/
def keepP (rng : Int) (mk : Col) (e : Ent) : Bool := rightE e && (e.rng == rng && !under mk e)
theorem okP_keep : okP rng mk st e = (keepP rng mk e && !hasS st (dotE e)) := by
  unfold okP keepP
  cases rightE e <;> cases (e.rng == rng) <;> cases under mk e <;> rfl
theorem puts_all (rng : Int) (mk : Col) : ∀ (news : List Ent) (st : List Ls) (n : Nat), news.Pairwise (fun x y => ¬ dotQ x y) → (∀ e ∈ news, hasS st (dotE e) = false) →
    (all (news.foldl (putStep rng mk) (st, n)).1).Perm (news.filter (keepP rng mk) ++ all st)
  | [], st, n, _, _ => List.Perm.refl _
  | e :: news, st, n, hd, hh => by
    rw [List.pairwise_cons] at hd
    rw [List.foldl_cons]
    have h0 := hh e List.mem_cons_self
    by_cases hk : keepP rng mk e = true
    · have hok : okP rng mk st e = true := by rw [okP_keep, hk, h0]; rfl
      have h1 : putStep rng mk (st, n) e = (putS st e, n + 1) := by unfold putStep; rw [if_pos hok]
      rw [h1, List.filter_cons, if_pos hk]
      refine (puts_all rng mk news (putS st e) (n + 1) hd.2 fun x hx => ?_).trans ?_
      · cases h2 : hasS (putS st e) (dotE x) with
        | false => rfl
        | true =>
          obtain ⟨y, hy, hq⟩ := hasS_iff.1 h2
          rcases List.mem_cons.1 ((putS_all st e).subset hy) with rfl | hy
          · exact (hd.1 x hx hq).elim
          · have := hasS_iff.2 ⟨y, hy, hq⟩
            rw [hh x (List.mem_cons_of_mem _ hx)] at this
            cases this
      · exact ((putS_all st e).append_left _).trans List.perm_middle
    · have hok : okP rng mk st e = false := by rw [okP_keep]; simp [hk]
      have h1 : putStep rng mk (st, n) e = (st, n) := by unfold putStep; rw [if_neg (by simp [hok])]
      rw [h1, List.filter_cons, if_neg hk]
      exact puts_all rng mk news st n hd.2 fun x hx => hh x (List.mem_cons_of_mem _ hx)
theorem putL_good (h : Good rng st) (news : List Ent) : Good rng (putL rng mk st news).1 := by
  unfold putL
  have : ∀ (l : List Ent) (p : List Ls × Nat), Good rng p.1 → Good rng (l.foldl (putStep rng mk) p).1 := by
    intro l
    induction l with
    | nil => intro p h; exact h
    | cons a l ih => intro p h; exact ih _ (Good.step h a)
  exact this news (st, 0) h
/-- each write once -/
def onceStep (on : List Ent) (e : Ent) : List Ent := if (on.any fun x => eqD x (dotE e)) = true then on else on ++ [e]
def onceL (es : List Ent) : List Ent := es.foldl onceStep []
theorem onceL_snoc (es : List Ent) (e : Ent) : onceL (es ++ [e]) = onceStep (onceL es) e := by unfold onceL; rw [List.foldl_append]; rfl
theorem onceStep_apart {on : List Ent} (h : on.Pairwise fun x y => ¬ dotQ x y) (e : Ent) : (onceStep on e).Pairwise fun x y => ¬ dotQ x y := by
  unfold onceStep
  split
  · exact h
  · rename_i hn
    rw [List.pairwise_append]
    refine ⟨h, List.pairwise_singleton _ _, fun x hx y hy hq => hn ?_⟩
    rw [List.mem_singleton] at hy
    subst hy
    exact List.any_eq_true.2 ⟨x, hx, eqD_iff.2 hq⟩
theorem onceL_apart (es : List Ent) : (onceL es).Pairwise fun x y => ¬ dotQ x y := by
  unfold onceL
  have : ∀ (l on : List Ent), on.Pairwise (fun x y => ¬ dotQ x y) → (l.foldl onceStep on).Pairwise fun x y => ¬ dotQ x y := by
    intro l
    induction l with
    | nil => intro on h; exact h
    | cons a l ih => intro on h; exact ih _ (onceStep_apart h a)
  exact this es [] List.Pairwise.nil
/-- laid in from the front or from the back: the same writes -/
theorem order_same (on : List Ent) (h : on.Pairwise fun x y => ¬ dotQ x y) : (all (putL rng mk [] on).1).Perm (all (putL rng mk [] on.reverse).1) := by
  have h1 := puts_all rng mk on [] 0 h fun _ _ => rfl
  have h2 := puts_all rng mk on.reverse [] 0 (by rw [List.pairwise_reverse]; exact h.imp fun h1 h2 => h1 h2.symm) fun _ _ => rfl
  refine h1.trans (List.Perm.trans ?_ h2.symm)
  exact ((List.reverse_perm on).symm.filter _).append_right _
end
end Sto
end Go.Proofs.Ytfafehffnjbhnaa
