/- Several texts of this proof in one file, in the order in which they build: SvR, SvL, SvPl. No conditions but those that each theorem names. -/
import Derived.Test.YtiibgkgbghganaaSv7
import Derived.Test.YtiibgkgbghganaaTyOpen
import Derived.Test.YtiibgkgbghganaaSvN
section
/- Lengths of what a store holds; columns opened. Plain lemmas. -/
namespace Go.Proofs.Ytiibgkgbghganaa
open Go.ChangeShapes Go.WideShapes Go.ChangeAt Go.RowKit
set_option linter.unusedVariables false
set_option linter.unusedSimpArgs false
namespace Sto
open Vec
theorem rs_le : ∀ {rs : List LR}, (∀ r ∈ rs, r.l.es ≠ []) → rs.length ≤ lenS (states rs)
  | [], _ => Nat.zero_le _
  | r :: rs, h => by
    have h1 := rs_le (rs := rs) fun q hq => h q (List.mem_cons_of_mem _ hq)
    have h2 : lenS (states (r :: rs)) = r.l.es.length + lenS (states rs) := by simp [lenS, states]
    have h3 : 0 < r.l.es.length := List.length_pos_iff.2 (h r List.mem_cons_self)
    rw [h2, List.length_cons]
    omega
theorem put_le (rng : Int) (mk : Col) (st : List Ls) (news : List Ent) : lenS (putL rng mk st news).1 ≤ lenS st + news.length := by
  unfold putL
  have : ∀ (l : List Ent) (p : List Ls × Nat), lenS (l.foldl (putStep rng mk) p).1 ≤ lenS p.1 + l.length := by
    intro l
    induction l with
    | nil => intro p; exact Nat.le_refl _
    | cons a l ih =>
      intro p
      refine Nat.le_trans (ih _) ?_
      have h1 : lenS (putStep rng mk p a).1 ≤ lenS p.1 + 1 := by
        unfold putStep
        split
        · exact Nat.le_of_eq (putS_len _ _)
        · exact Nat.le_succ _
      rw [List.length_cons]
      omega
  exact this news (st, 0)
theorem okS_of {rng : Int} {rs : List LR} (h : Good rng (states rs)) : ∀ k ∈ rs.map (·.l.k), Sto.okS k := fun k hk => by
  obtain ⟨r, hr, rfl⟩ := List.mem_map.1 hk
  obtain ⟨x, hx⟩ := List.exists_mem_of_ne_nil _ (h.hne r hr)
  obtain ⟨h1, _, h2⟩ := h.ok r.l (List.mem_map.2 ⟨r, hr, rfl⟩) x hx
  unfold rightE Vec.g3 at h1
  simp only [Bool.and_eq_true, decide_eq_true_eq] at h1
  rw [← h2]
  unfold Sto.okS maxLen
  omega
theorem states_keys (rs : List LR) : (states rs).map (·.k) = rs.map (·.l.k) := by unfold states; rw [List.map_map]; rfl
theorem under0 {e : Ent} (h : rightE e = true) : under col0 e = false := by
  unfold rightE g1 at h
  simp only [Bool.and_eq_true, decide_eq_true_eq] at h
  unfold under
  rw [decide_eq_false_iff_not]
  have h0 : col0.at e.dc.toNat = 0 := by
    unfold Col.at col0
    split <;> rfl
  rw [h0]
  omega
theorem neq_col (x y : Col) (W : World) : (binOp .neq 37 (C x) (C y)).run Try.prog W = .ok (.bool (!eqCol x y)) W := by
  rw [run_neq_struct, eqIn_arr 37 Try.underlying37 9998]
  rfl
theorem colCells_length (c : Col) : (colCells c).length = 3 := rfl
end Sto
section
variable {H : Type} {enc : TypeId × Value → H} {W : World}
set_option maxRecDepth 20000 in
theorem open_col {base : Nat} {v : Value} {d : DataW H} {p : List MemPlace} (o : Value.okWide Try.prog W .any base 37 v) (k : DataW.Trod enc Try.prog W 0 (fun _ => true) true 37 v d p) : ∃ c : Vec.Col, v = Vec.C c := by
  obtain ⟨cs, rfl, hl⟩ := agg_array Try.underlying37 o
  obtain ⟨m, hm⟩ := k
  obtain ⟨x, hx⟩ := dec_arr (x := (d, p)) Try.underlying37 hm (by rw [show (Value.agg cs.toArray).cells.toList = cs by simp [Value.cells], hl]; kernel_rfl)
  exact ⟨x, by rw [show cs = Vec.colCells x from by simpa [Value.cells] using hx]⟩
end
end Go.Proofs.Ytiibgkgbghganaa
end
section
/- Collecting keeps a key's latest, and what is as of a column that covers the mark. Plain lemmas. -/
namespace Go.Proofs.Ytiibgkgbghganaa
set_option linter.unusedVariables false
set_option linter.unusedSimpArgs false
namespace Sto
open Vec
theorem kRec_find (mk : Col) {p : Ent → Bool} (hp : ∀ x, under mk x = true → p x = true) : ∀ l : List Ent, (kRec mk false l).find? p = l.find? p
  | [] => rfl
  | x :: l => by
    unfold kRec
    by_cases hu : under mk x = true
    · rw [if_pos hu, if_neg (by simp), List.find?_cons, List.find?_cons, hp x hu]
    · rw [if_neg hu, List.find?_cons, List.find?_cons, kRec_find mk hp l]
theorem kept_rev (mk : Col) (es : List Ent) : (kept mk es).reverse = kRec mk false es.reverse := by unfold kept; rw [List.reverse_reverse, kFold_eq]
theorem last_find (es : List Ent) : last es = match es.reverse.find? (fun _ => true) with
    | some e => (e, true)
    | none => (ent0, false) := by
  unfold last
  rw [List.getLast?_eq_head?_reverse]
  cases es.reverse with
  | nil => rfl
  | cons a l => rfl
theorem latest_collect (mk : Col) (st : List Ls) (k : ByteArray) : latest (collectS mk st) k = latest st k := by
  unfold latest
  rw [vers_collect, last_find, last_find, kept_rev, kRec_find mk (fun _ _ => rfl)]
theorem coversC_iff {x y : Col} : coversC x y = true ↔ y.a ≤ x.a ∧ y.b ≤ x.b ∧ y.c ≤ x.c := by unfold coversC; simp
theorem under_mono {c mk : Col} (h : coversC c mk = true) (x : Ent) (hu : under mk x = true) : under c x = true := by
  rw [coversC_iff] at h
  unfold under at hu ⊢
  rw [decide_eq_true_eq] at hu ⊢
  refine Int.le_trans hu ?_
  unfold Col.at
  split
  · exact h.1
  · exact h.2.1
  · exact h.2.2
theorem covers_max {t m c : Col} (h : coversC t (maxC m c) = true) : coversC t m = true := by
  rw [coversC_iff] at h ⊢
  unfold maxC at h
  dsimp only at h
  omega
theorem asOf_collect {m c t : Col} (st : List Ls) (k : ByteArray) (h : coversC t (maxC m c) = true) : asOf (collectS (maxC m c) st) (maxC m c) k t = asOf st m k t := by
  unfold asOf
  rw [if_pos h, if_pos (covers_max h), vers_collect, kept_rev]
  unfold asOfL
  rw [kRec_find _ (under_mono h)]
theorem asOf_gone {m t : Col} (st : List Ls) (k : ByteArray) (h : coversC t m = false) : asOf st m k t = ⟨ent0, false, 60⟩ := by
  unfold asOf
  rw [if_neg (by simp [h])]
end Sto
end Go.Proofs.Ytiibgkgbghganaa
end
section
/- What is found of a numbered log is what a store tells into which it was laid. Plain lemmas. -/
namespace Go.Proofs.Ytiibgkgbghganaa
set_option linter.unusedVariables false
set_option linter.unusedSimpArgs false
namespace Sto
open Vec
structure GMax (key : ByteArray) (M : List Ent) (p : Ent × Bool) : Prop where
  yes : p.2 = true → p.1 ∈ M ∧ p.1.key = key ∧ ∀ e ∈ M, e.key = key → ¬ gtE p.1 e < 0
  no : p.2 = false → p.1 = ent0 ∧ ∀ e ∈ M, e.key ≠ key
theorem GMax.step {key : ByteArray} {M : List Ent} {p : Ent × Bool} (h : GMax key M p) (e : Ent) : GMax key (M ++ [e]) (gStep key p e) := by
  have mem : ∀ {x : Ent}, x ∈ M ++ [e] → x ∈ M ∨ x = e := fun hx => (List.mem_append.1 hx).elim .inl (fun h => .inr (List.mem_singleton.1 h))
  unfold gStep
  by_cases hk : e.key = key
  · rw [if_pos hk]
    by_cases hc : p.2 = false ∨ 0 < gtE e p.1
    · rw [if_pos hc]
      refine ⟨fun _ => ⟨by simp, hk, fun x hx hxk => ?_⟩, fun h => by cases h⟩
      rcases mem hx with hx | rfl
      · rcases hc with hc | hc
        · exact ((h.no hc).2 x hx hxk).elim
        · cases hp : p.2 with
          | false => exact ((h.no hp).2 x hx hxk).elim
          | true =>
            have h1 := (h.yes hp).2.2 x hx hxk
            rw [gtE_gt] at hc
            exact fun h2 => h1 (gtE_trans hc h2)
      · exact gtE_irr
    · rw [if_neg hc]
      have hp : p.2 = true := by cases h9 : p.2 with
        | true => rfl
        | false => exact (hc (.inl h9)).elim
      refine ⟨fun _ => ⟨List.mem_append_left _ (h.yes hp).1, (h.yes hp).2.1, fun x hx hxk => ?_⟩, fun h9 => by rw [hp] at h9; cases h9⟩
      rcases mem hx with hx | rfl
      · exact (h.yes hp).2.2 x hx hxk
      · intro h9
        exact hc (.inr ((gtE_gt _ _).2 h9))
  · rw [if_neg hk]
    refine ⟨fun hp => ⟨List.mem_append_left _ (h.yes hp).1, (h.yes hp).2.1, fun x hx hxk => ?_⟩, fun hp => ⟨(h.no hp).1, fun x hx => ?_⟩⟩
    · rcases mem hx with hx | rfl
      · exact (h.yes hp).2.2 x hx hxk
      · exact (hk hxk).elim
    · rcases mem hx with hx | rfl
      · exact (h.no hp).2 x hx
      · exact hk
theorem gmax_fold (key : ByteArray) : ∀ (l M : List Ent) (p : Ent × Bool), GMax key M p → GMax key (M ++ l) (l.foldl (gStep key) p)
  | [], M, p, h => by simpa using h
  | e :: l, M, p, h => by
    have := gmax_fold key l (M ++ [e]) _ (h.step e)
    simpa using this
theorem gmax (key : ByteArray) (M : List Ent) : GMax key M (greatest key M) := gmax_fold key M [] (ent0, false) ⟨fun h => (by cases h), fun _ => ⟨rfl, fun x hx => (by cases hx)⟩⟩
theorem sel_same {key : ByteArray} {V M : List Ent} {p : Ent → Bool} (hs : V.Pairwise fun x y => gtE x y < 0) (hm : ∀ x, (x ∈ M ∧ x.key = key) ↔ (x ∈ V ∧ p x = true)) :
    greatest key M = match V.reverse.find? p with
      | some e => (e, true)
      | none => (ent0, false) := by
  have g := gmax key M
  obtain ⟨⟨m, t⟩, hg⟩ : ∃ q, greatest key M = q := ⟨_, rfl⟩
  rw [hg] at g ⊢
  cases hf : V.reverse.find? p with
  | none =>
    rw [List.find?_eq_none] at hf
    cases t with
    | false => have := (g.no rfl).1; dsimp only at this ⊢; rw [this]
    | true =>
      obtain ⟨h1, h2, _⟩ := g.yes rfl
      obtain ⟨h3, h4⟩ := (hm m).1 ⟨h1, h2⟩
      exact (hf m (List.mem_reverse.2 h3) h4).elim
  | some e =>
    rw [List.find?_eq_some_iff_append] at hf
    obtain ⟨hpe, fs, bs, hrv, hno⟩ := hf
    have hV : V = bs.reverse ++ e :: fs.reverse := by
      have := congrArg List.reverse hrv
      simpa using this
    have heV : e ∈ V := by rw [hV]; simp
    obtain ⟨he1, he2⟩ := (hm e).2 ⟨heV, hpe⟩
    cases t with
    | false => exact ((g.no rfl).2 e he1 he2).elim
    | true =>
      obtain ⟨h1, h2, h3⟩ := g.yes rfl
      obtain ⟨h4, h5⟩ := (hm m).1 ⟨h1, h2⟩
      dsimp only at h1 h2 h3 h4 h5 ⊢
      have hme : m = e := by
        rw [hV] at h4 hs
        rcases List.mem_append.1 h4 with h6 | h6
        · rw [List.pairwise_append] at hs
          exact (h3 e he1 he2 (hs.2.2 m h6 e List.mem_cons_self)).elim
        · rcases List.mem_cons.1 h6 with h6 | h6
          · exact h6
          · have := hno m (List.mem_reverse.1 h6)
            rw [h5] at this
            cases this
      rw [hme]
theorem nb_apart {rng : Int} {l : List Ent} (h : NB rng l) : l.Pairwise fun x y => ¬ dotQ x y := by
  rw [List.pairwise_iff_getElem]
  intro i j hi hj hij hq
  obtain ⟨h1, _, h3⟩ := hq
  have a1 := h.step (List.getElem?_eq_getElem hi)
  obtain ⟨_, _, a2⟩ := h j l[j] (List.getElem?_eq_getElem hj)
  have a3 := coversC_at (column_take rng l (m := i + 1) (n := j) (by omega)) l[i].dc.toNat
  rw [a1, h1] at a3
  omega
theorem log_all {rng : Int} {l : List Ent} (h : NB rng l) (hr : ∀ e ∈ l, rightE e = true) : (all (putL rng col0 [] l).1).Perm l := by
  have h1 := puts_all rng col0 l [] 0 (nb_apart h) fun _ _ => rfl
  have h2 : l.filter (keepP rng col0) = l := by
    rw [List.filter_eq_self]
    intro e he
    obtain ⟨k, hk⟩ := List.mem_iff_getElem?.1 he
    have h3 := (h k e hk).1
    unfold keepP
    rw [hr e he, under0 (hr e he), h3]
    simp
  rw [h2] at h1
  simpa [putL, all] using h1
/-- of a log the greatest of a key, of those that are chosen -/
theorem log_sel {rng : Int} {l : List Ent} (h : NB rng l) (hr : ∀ e ∈ l, rightE e = true) (key : ByteArray) {p : Ent → Bool} : greatest key (l.filter p) = match (vers (putL rng col0 [] l).1 key).reverse.find? p with
      | some e => (e, true)
      | none => (ent0, false) := by
  have hG : Good rng (putL rng col0 [] l).1 := putL_good (Good.none rng) l
  refine sel_same (hG.vers_so key) fun x => ?_
  rw [hG.vers_filter, List.mem_filter, List.mem_filter, (log_all h hr).mem_iff]
  unfold keyB
  rw [decide_eq_true_eq]
  exact ⟨fun ⟨⟨a, b⟩, c⟩ => ⟨⟨a, c⟩, b⟩, fun ⟨⟨a, c⟩, b⟩ => ⟨⟨a, b⟩, c⟩⟩
theorem log_latest {rng : Int} {l : List Ent} (h : NB rng l) (hr : ∀ e ∈ l, rightE e = true) (key : ByteArray) (mk : Col) : greatest key (seenL rng (qL key) col0 l) = latest (collectS mk (putL rng col0 [] l).1) key := by
  have h1 : seenL rng (qL key) col0 l = l.filter fun _ => true := by
    unfold seenL
    refine List.filter_congr fun e he => ?_
    obtain ⟨k, hk⟩ := List.mem_iff_getElem?.1 he
    unfold seenE
    rw [(h k e hk).1]
    simp [qL]
  rw [h1, log_sel h hr key, latest_collect]
  unfold latest
  rw [last_find]
  all_goals
    obtain ⟨o, ho⟩ : ∃ o, (vers (putL rng col0 [] l).1 key).reverse.find? (fun _ => true) = o := ⟨_, rfl⟩
    rw [ho]
    cases o <;> rfl
theorem log_asOf {rng : Int} {l : List Ent} (h : NB rng l) (hr : ∀ e ∈ l, rightE e = true) (key : ByteArray) (v : Vc) (mk : Col) :
    (Vec.read rng ⟨key, vc0, true, v, mk⟩ l).code = 91 ∨
      ((Vec.read rng ⟨key, vc0, true, v, mk⟩ l).code = (asOf (collectS mk (putL rng col0 [] l).1) mk key (Vec.part v rng)).err ∧
        ((asOf (collectS mk (putL rng col0 [] l).1) mk key (Vec.part v rng)).err = 60 ∨
          ((asOf (collectS mk (putL rng col0 [] l).1) mk key (Vec.part v rng)).err = 0 ∧ (Vec.read rng ⟨key, vc0, true, v, mk⟩ l).has = (asOf (collectS mk (putL rng col0 [] l).1) mk key (Vec.part v rng)).is ∧
            (Vec.read rng ⟨key, vc0, true, v, mk⟩ l).ent = (asOf (collectS mk (putL rng col0 [] l).1) mk key (Vec.part v rng)).e))) := by
  obtain ⟨at', hat⟩ : ∃ c, Vec.part v rng = c := ⟨_, rfl⟩
  unfold Vec.read
  rw [hat]
  by_cases hb : behindQ rng ⟨key, vc0, true, v, mk⟩ (column rng l) at' = true
  · rw [if_pos hb]; exact .inl rfl
  · rw [if_neg hb]
    refine .inr ?_
    cases hc : coversC at' mk with
    | false =>
      have hg : goneQ ⟨key, vc0, true, v, mk⟩ at' = true := by unfold goneQ; rw [hc]; rfl
      rw [if_pos hg, asOf_gone _ _ hc]
      exact ⟨rfl, .inl rfl⟩
    | true =>
      have hg : ¬ goneQ ⟨key, vc0, true, v, mk⟩ at' = true := by unfold goneQ; rw [hc]; simp
      rw [if_neg hg]
      have h1 : seenL rng ⟨key, vc0, true, v, mk⟩ at' l = l.filter (under at') := by
        unfold seenL
        refine List.filter_congr fun e he => ?_
        obtain ⟨k, hk⟩ := List.mem_iff_getElem?.1 he
        obtain ⟨a1, a2, _⟩ := h k e hk
        unfold chain at a2
        simp only [Bool.and_eq_true, decide_eq_true_eq] at a2
        unfold seenE within under
        rw [a1]
        simp only [decide_true, Bool.true_and, Bool.not_true, Bool.false_or]
        rw [decide_eq_decide]
        exact ⟨fun h => h.2.2.2.2, fun h => by refine ⟨?_, ?_, ?_, ?_, h⟩ <;> omega⟩
      have h2 : asOf (collectS mk (putL rng col0 [] l).1) mk key at' = asOfL at' (vers (putL rng col0 [] l).1 key).reverse := by
        unfold asOf
        rw [if_pos hc, vers_collect, kept_rev]
        unfold asOfL
        rw [kRec_find _ (under_mono hc)]
      dsimp only
      rw [h2, h1, log_sel h hr key]
      unfold asOfL
      cases (vers (putL rng col0 [] l).1 key).reverse.find? (under at') with
      | none => exact ⟨rfl, .inr ⟨rfl, rfl, rfl⟩⟩
      | some e => exact ⟨rfl, .inr ⟨rfl, rfl, rfl⟩⟩
end Sto
end Go.Proofs.Ytiibgkgbghganaa
end
