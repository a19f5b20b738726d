/- Several texts of this proof in one file, in the order in which they build: RsL, Rs5, Rs6, StPlays, StorePlaysP. No conditions but those that each theorem names. -/
import Derived.Test.YtfafehffnjbhnaaMpB
import Derived.Test.YtfafehffnjbhnaaMpA
import Derived.Test.YtfafehffnjbhnaaRegW
import Derived.WalkKit
import Derived.ProofKit
import Derived.OpenShut
import Derived.ShutString
import Derived.ChangeOld
import Derived.Below
import Derived.SizedLaws
section
/- The store and the document's store tell alike. Plain lemmas. -/
namespace Go.Proofs.Ytfafehffnjbhnaa
set_option linter.unusedVariables false
set_option linter.unusedSimpArgs false
namespace Sto
open Vec
def selQ (key : ByteArray) (c : Col) (al : Bool) (e : Ent) : Prop := e.key = key ∧ (al = true ∨ under c e = true)
structure RMax (key : ByteArray) (c : Col) (al : Bool) (M : List Ent) (p : Ent × Bool) : Prop where
  yes : p.2 = true → p.1 ∈ M ∧ selQ key c al p.1 ∧ ∀ e ∈ M, selQ key c al e → ¬ gtE p.1 e < 0
  no : p.2 = false → p.1 = ent0 ∧ ∀ e ∈ M, ¬ selQ key c al e
theorem RMax.step {key : ByteArray} {c : Col} {al : Bool} {M : List Ent} {p : Ent × Bool} (h : RMax key c al M p) (e : Ent) : RMax key c al (M ++ [e]) (gStep key c al p e) := by
  have mem : ∀ {x : Ent}, x ∈ M ++ [e] → x ∈ M ∨ x = e := fun hx => (List.mem_append.1 hx).elim .inl (fun h => .inr (List.mem_singleton.1 h))
  unfold gStep
  by_cases hk : selQ key c al e
  · by_cases hc : p.2 = false ∨ 0 < gtE e p.1
    · rw [if_pos ⟨hk.1, hk.2, hc⟩]
      refine ⟨fun _ => ⟨by simp, hk, fun x hx hxk => ?_⟩, fun h => by cases h⟩
      rcases mem hx with hx | rfl
      · rcases hc with hc | hc
        · exact ((h.no hc).2 x hx hxk).elim
        · cases hp : p.2 with
          | false => exact ((h.no hp).2 x hx hxk).elim
          | true =>
            have h1 := (h.yes hp).2.2 x hx hxk
            rw [gtE_gt] at hc
            exact fun h2 => h1 (gtE_trans hc h2)
      · exact gtE_irr
    · rw [if_neg (fun h9 => hc h9.2.2)]
      have hp : p.2 = true := by cases h9 : p.2 with
        | true => rfl
        | false => exact (hc (.inl h9)).elim
      refine ⟨fun _ => ⟨List.mem_append_left _ (h.yes hp).1, (h.yes hp).2.1, fun x hx hxk => ?_⟩, fun h9 => by rw [hp] at h9; cases h9⟩
      rcases mem hx with hx | rfl
      · exact (h.yes hp).2.2 x hx hxk
      · intro h9
        exact hc (.inr ((gtE_gt _ _).2 h9))
  · rw [if_neg (fun h9 => hk ⟨h9.1, h9.2.1⟩)]
    refine ⟨fun hp => ⟨List.mem_append_left _ (h.yes hp).1, (h.yes hp).2.1, fun x hx hxk => ?_⟩, fun hp => ⟨(h.no hp).1, fun x hx => ?_⟩⟩
    · rcases mem hx with hx | rfl
      · exact (h.yes hp).2.2 x hx hxk
      · exact (hk hxk).elim
    · rcases mem hx with hx | rfl
      · exact (h.no hp).2 x hx
      · exact hk
theorem rmax_fold (key : ByteArray) (c : Col) (al : Bool) : ∀ (l M : List Ent) (p : Ent × Bool), RMax key c al M p → RMax key c al (M ++ l) (l.foldl (gStep key c al) p)
  | [], M, p, h => by simpa using h
  | e :: l, M, p, h => by
    have := rmax_fold key c al l (M ++ [e]) _ (h.step e)
    simpa using this
theorem rmax (key : ByteArray) (c : Col) (al : Bool) (M : List Ent) : RMax key c al M (greatest key c al M) := rmax_fold key c al M [] (ent0, false) ⟨fun h => (by cases h), fun _ => ⟨rfl, fun x hx => (by cases hx)⟩⟩
theorem rsel_same {key : ByteArray} {c : Col} {al : Bool} {V M : List Ent} {p : Ent → Bool} (hs : V.Pairwise fun x y => gtE x y < 0) (hm : ∀ x, (x ∈ M ∧ selQ key c al x) ↔ (x ∈ V ∧ p x = true)) :
    greatest key c al M = match V.reverse.find? p with
      | some e => (e, true)
      | none => (ent0, false) := by
  have g := rmax key c al M
  obtain ⟨⟨m, t⟩, hg⟩ : ∃ q, greatest key c al M = q := ⟨_, rfl⟩
  rw [hg] at g ⊢
  cases hf : V.reverse.find? p with
  | none =>
    rw [List.find?_eq_none] at hf
    cases t with
    | false => have := (g.no rfl).1; dsimp only at this ⊢; rw [this]
    | true =>
      obtain ⟨h1, h2, _⟩ := g.yes rfl
      obtain ⟨h3, h4⟩ := (hm m).1 ⟨h1, h2⟩
      exact (hf m (List.mem_reverse.2 h3) h4).elim
  | some e =>
    rw [List.find?_eq_some_iff_append] at hf
    obtain ⟨hpe, fs, bs, hrv, hno⟩ := hf
    have hV : V = bs.reverse ++ e :: fs.reverse := by
      have := congrArg List.reverse hrv
      simpa using this
    have heV : e ∈ V := by rw [hV]; simp
    obtain ⟨he1, he2⟩ := (hm e).2 ⟨heV, hpe⟩
    cases t with
    | false => exact ((g.no rfl).2 e he1 he2).elim
    | true =>
      obtain ⟨h1, h2, h3⟩ := g.yes rfl
      obtain ⟨h4, h5⟩ := (hm m).1 ⟨h1, h2⟩
      dsimp only at h1 h2 h3 h4 h5 ⊢
      have hme : m = e := by
        rw [hV] at h4 hs
        rcases List.mem_append.1 h4 with h6 | h6
        · rw [List.pairwise_append] at hs
          exact (h3 e he1 he2 (hs.2.2 m h6 e List.mem_cons_self)).elim
        · rcases List.mem_cons.1 h6 with h6 | h6
          · exact h6
          · have := hno m (List.mem_reverse.1 h6)
            rw [h5] at this
            cases this
      rw [hme]
/-- the store and the document's -/
structure Twin (rng : Int) (st : List Ls) (L : List Ent) : Prop where
  G : Good rng st
  P : (all st).Perm L
theorem Twin.start (rng : Int) : Twin rng [] [] := ⟨Good.none rng, List.Perm.refl _⟩
section
variable {rng : Int} {mk : Col} {st : List Ls} {L : List Ent} {e : Ent} {key : ByteArray}
theorem there_iff : rThere L e = true ↔ ∃ x ∈ L, dotQ x e := by
  unfold rThere
  rw [List.any_eq_true]
  exact ⟨fun ⟨x, h1, h2⟩ => ⟨x, h1, eqD_iff.1 h2⟩, fun ⟨x, h1, h2⟩ => ⟨x, h1, eqD_iff.2 h2⟩⟩
theorem Twin.there (h : Twin rng st L) : hasS st (dotE e) = rThere L e := by
  rw [Bool.eq_iff_iff, hasS_iff, there_iff]
  exact ⟨fun ⟨x, hx, hq⟩ => ⟨x, h.P.subset hx, hq⟩, fun ⟨x, hx, hq⟩ => ⟨x, h.P.symm.subset hx, hq⟩⟩
theorem Twin.step (h : Twin rng st L) (n : Nat) (e : Ent) : (rStep rng mk (L, n) e).2 = (putStep rng mk (st, n) e).2 ∧ Twin rng (putStep rng mk (st, n) e).1 (rStep rng mk (L, n) e).1 := by
  have hc : (okP rng mk st e = true) ↔ (rOk rng mk e = true ∧ rThere L e = false) := by
    unfold okP rOk
    rw [h.there]
    cases rightE e <;> cases (e.rng == rng) <;> cases under mk e <;> cases rThere L e <;> simp
  unfold putStep rStep
  by_cases hk : okP rng mk st e = true
  · obtain ⟨h1, h2, _, h4⟩ := okP_spec hk
    rw [if_pos hk, if_pos (hc.1 hk)]
    exact ⟨rfl, h.G.put h1 h2 h4, (putS_all st e).trans ((h.P.cons e).trans (List.perm_append_comm (l₁ := [e])))⟩
  · rw [if_neg hk, if_neg (fun h9 => hk (hc.2 h9))]
    exact ⟨rfl, h⟩
theorem Twin.fold : ∀ (news : List Ent) (a : List Ls × Nat) (b : List Ent × Nat), b.2 = a.2 → Twin rng a.1 b.1 → (news.foldl (rStep rng mk) b).2 = (news.foldl (putStep rng mk) a).2 ∧ Twin rng (news.foldl (putStep rng mk) a).1 (news.foldl (rStep rng mk) b).1
  | [], a, b, h1, h2 => ⟨h1, h2⟩
  | e :: news, (st, n), (L, m), h1, h2 => by
    dsimp only at h1 h2
    subst h1
    have h := h2.step (mk := mk) m e
    exact Twin.fold news _ _ h.1 h.2
theorem Twin.put (h : Twin rng st L) (mk : Col) (news : List Ent) : (rPut rng mk L news).2 = (putL rng mk st news).2 ∧ Twin rng (putL rng mk st news).1 (rPut rng mk L news).1 := Twin.fold news (st, 0) (L, 0) rfl h
theorem Twin.len (h : Twin rng st L) : lenS st = L.length := by rw [← all_len, h.P.length_eq]
theorem Twin.right (h : Twin rng st L) : ∀ x ∈ L, rightE x = true ∧ x.rng = rng := fun x hx => h.G.all_ok (h.P.symm.subset hx)
theorem Twin.dc (h : Twin rng st L) : ∀ x ∈ L, 0 ≤ x.dc ∧ x.dc < 3 := fun x hx => by
  have h1 := (h.right x hx).1
  unfold rightE Vec.g1 chain at h1
  simp only [Bool.and_eq_true, decide_eq_true_eq] at h1
  omega
theorem Twin.apart (h : Twin rng st L) : L.Pairwise apartE := by
  have h1 : L.Pairwise fun x y => ¬ dotQ x y := (h.P.pairwise_iff (R := fun x y => ¬ dotQ x y) (fun {x y} h1 h2 => h1 h2.symm)).1 h.G.dd
  refine h1.imp_of_mem fun {x y} hx hy hn => ?_
  by_cases h2 : gtE x y < 0
  · exact .inl h2
  · by_cases h3 : gtE y x < 0
    · exact .inr h3
    · exact (hn (rank_dot (h.right x hx).1 (h.right y hy).1 h2 h3)).elim
theorem Twin.versP (h : Twin rng st L) (key : ByteArray) : (vers st key).Perm (L.filter (keyB key)) := by rw [h.G.vers_filter]; exact h.P.filter _
theorem Twin.vers (h : Twin rng st L) {ys : List Ent} (hp : ys.Perm (L.filter (keyB key))) (hs : ys.Pairwise fun x y => gtE x y < 0) : ys = vers st key :=
  sorted_same (hp.trans (h.versP key).symm) hs (h.G.vers_so key)
theorem Twin.mem (h : Twin rng st L) {x : Ent} : (x ∈ L ∧ x.key = key) ↔ x ∈ Sto.vers st key := by
  rw [(h.versP key).mem_iff, List.mem_filter]
  unfold keyB
  rw [decide_eq_true_eq]
theorem Twin.latest (h : Twin rng st L) (key : ByteArray) (c : Col) : greatest key c true L = latest st key := by
  rw [rsel_same (p := fun _ => true) (h.G.vers_so key) (fun x => by rw [← h.mem]; unfold selQ; simp)]
  unfold Sto.latest
  rw [last_find]
  obtain ⟨o, ho⟩ : ∃ o, (Sto.vers st key).reverse.find? (fun _ => true) = o := ⟨_, rfl⟩
  rw [ho]
  cases o <;> rfl
theorem Twin.sel (h : Twin rng st L) (key : ByteArray) (c : Col) : greatest key c false L = match (Sto.vers st key).reverse.find? (under c) with
      | some e => (e, true)
      | none => (ent0, false) :=
  rsel_same (h.G.vers_so key) (fun x => by rw [← h.mem]; unfold selQ; simp [and_assoc])
/-- what the document tells as of a column -/
def rAsOf (mk : Col) (L : List Ent) (key : ByteArray) (c : Col) : Ans := if coversC c mk = true then ⟨(greatest key c false L).1, (greatest key c false L).2, 0⟩ else ⟨ent0, false, 60⟩
theorem Twin.asOf (h : Twin rng st L) (mk : Col) (key : ByteArray) (c : Col) : rAsOf mk L key c = asOf st mk key c := by
  unfold rAsOf Sto.asOf
  split
  · rw [h.sel]
    unfold asOfL
    cases (Sto.vers st key).reverse.find? (under c) <;> rfl
  · rfl
/-! collecting -/
theorem kRec_mem (mk : Col) (x : Ent) : ∀ (f : Bool) (l : List Ent), x ∈ kRec mk f l ↔ (x ∈ l ∧ under mk x = false) ∨ (f = false ∧ l.find? (under mk) = some x)
  | f, [] => by simp [kRec]
  | f, e :: l => by
    have h1 := kRec_mem mk x true l
    have h2 := kRec_mem mk x f l
    unfold kRec
    by_cases hu : under mk e = true
    · rw [if_pos hu, List.find?_cons_of_pos hu]
      have hne : under mk x = false → x ≠ e := fun h9 h8 => by rw [h8, hu] at h9; cases h9
      by_cases hf : f = true
      · subst hf
        rw [if_pos rfl, h1]
        constructor
        · rintro (⟨h3, h4⟩ | ⟨h3, _⟩)
          · exact .inl ⟨List.mem_cons_of_mem _ h3, h4⟩
          · cases h3
        · rintro (⟨h3, h4⟩ | ⟨h3, _⟩)
          · exact .inl ⟨(List.mem_cons.1 h3).resolve_left (hne h4), h4⟩
          · cases h3
      · have hf' : f = false := by simpa using hf
        rw [if_neg hf, List.mem_cons, h1]
        constructor
        · rintro (h3 | ⟨h3, h4⟩ | ⟨h3, _⟩)
          · exact .inr ⟨hf', by rw [h3]⟩
          · exact .inl ⟨List.mem_cons_of_mem _ h3, h4⟩
          · cases h3
        · rintro (⟨h3, h4⟩ | ⟨_, h4⟩)
          · exact .inr (.inl ⟨(List.mem_cons.1 h3).resolve_left (hne h4), h4⟩)
          · exact .inl (Option.some.inj h4).symm
    · rw [if_neg hu, List.find?_cons_of_neg hu, List.mem_cons, h2]
      have hu' : under mk e = false := by simpa using hu
      constructor
      · rintro (h3 | ⟨h3, h4⟩ | h3)
        · exact .inl ⟨by rw [h3]; exact List.mem_cons_self, by rw [h3]; exact hu'⟩
        · exact .inl ⟨List.mem_cons_of_mem _ h3, h4⟩
        · exact .inr h3
      · rintro (⟨h3, h4⟩ | h3)
        · rcases List.mem_cons.1 h3 with h3 | h3
          · exact .inl h3
          · exact .inr (.inl ⟨h3, h4⟩)
        · exact .inr (.inr h3)
theorem kept_mem (mk : Col) (x : Ent) (V : List Ent) : x ∈ kept mk V ↔ (x ∈ V ∧ under mk x = false) ∨ V.reverse.find? (under mk) = some x := by
  unfold kept
  rw [kFold_eq, List.mem_reverse, kRec_mem, List.mem_reverse]
  simp
theorem nodup_dots {l : List Ent} (h : l.Pairwise fun x y => ¬ dotQ x y) : l.Nodup := h.imp fun {x y} hn e => hn (by rw [e]; exact ⟨rfl, rfl, rfl⟩)
theorem Twin.collect (h : Twin rng st L) (mk : Col) : Twin rng (collectS mk st) (rColl mk L) := by
  have hG := h.G.collect mk
  refine ⟨hG, ?_⟩
  have n1 := nodup_dots hG.dd
  have n2 : (rColl mk L).Nodup := ((h.P.nodup_iff).1 (nodup_dots h.G.dd)).sublist List.filter_sublist
  rw [List.perm_ext_iff_of_nodup n1 n2]
  intro x
  have a1 : x ∈ all (collectS mk st) ↔ x ∈ kept mk (Sto.vers st x.key) := by
    rw [← vers_collect, hG.vers_filter, List.mem_filter]
    unfold keyB
    simp
  rw [a1, kept_mem]
  unfold rColl rKeep
  rw [List.mem_filter, h.sel, Bool.or_eq_true, Bool.not_eq_true', eqEnt_iff]
  have hm : x ∈ L ↔ x ∈ Sto.vers st x.key := by rw [← h.mem]; simp
  rw [hm]
  cases hf : (Sto.vers st x.key).reverse.find? (under mk) with
  | none =>
    rw [List.find?_eq_none] at hf
    constructor
    · rintro (h3 | h3)
      · exact ⟨h3.1, .inl h3.2⟩
      · cases h3
    · rintro ⟨h3, _⟩
      exact .inl ⟨h3, by have := hf x (List.mem_reverse.2 h3); simpa using this⟩
  | some y =>
    dsimp only
    have hy : y ∈ Sto.vers st x.key := List.mem_reverse.1 (List.mem_of_find?_eq_some hf)
    constructor
    · rintro (h3 | h3)
      · exact ⟨h3.1, .inl h3.2⟩
      · have := Option.some.inj h3
        exact ⟨this ▸ hy, .inr this⟩
    · rintro ⟨h3, h4 | h4⟩
      · exact .inl ⟨h3, h4⟩
      · exact .inr (by rw [h4])
theorem Twin.collN (h : Twin rng st L) (mk : Col) : lenS st - lenS (collectS mk st) = L.length - (rColl mk L).length := by rw [h.len, (h.collect mk).len]
end
end Sto
end Go.Proofs.Ytfafehffnjbhnaa
end
section
/- The document's store: AsOf. -/
set_option maxRecDepth 8000
namespace Go.Proofs.Ytfafehffnjbhnaa
open Go.ChangeShapes Go.WideShapes Go.ChangeAt Go.RowKit
set_option linter.unusedVariables false
set_option linter.unusedSimpArgs false
theorem results_agg3 {P : Program} {w : World} {fn : Func} {p u v : Tmp} {t : TypeId} {n g : Nat} {xs : List Value} {tmps : Array Value} (h : fn.results = #[.cell p t, .tmp u, .tmp v]) (hA : Mem.Agg P t n) (hp : tmps.getD p undef = .pointer (some ⟨g, 0, none⟩)) (hb : Mem.Bx w t n g xs) :
    (results fn tmps).run P w = .ok (.tuple #[.agg xs.toArray, tmps.getD u undef, tmps.getD v undef]) w := by
  have hp' : tmps[p]?.getD undef = .pointer (some ⟨g, 0, none⟩) := by simpa using hp
  simp [results, h, hp', asAddr, Mem.run_loadBx hA hb]
open Vec Sto in
set_option maxRecDepth 20000 in
set_option maxHeartbeats 8000000 in
theorem refAsOf_any (rng : Int) (mk : Vec.Col) (g : Nat) (A : Option Addr) (c : Nat) (es : List Vec.Ent) (key : ByteArray) (cc : Vec.Col) (w : World) (hA : Sto.RAt w g A c rng mk es) (hu : es.length ≤ 1000000) (hdc : ∀ e ∈ es, 0 ≤ e.dc ∧ e.dc < 3) :
    Calls Try.prog 50 #[.pointer (some ⟨g, 0, none⟩), .string key, Vec.C cc] w fun x w' =>
      x = .returned (.tuple #[Vec.E (Sto.rAsOf mk es key cc).e, .bool (Sto.rAsOf mk es key cc).is, .int .i64 (Sto.rAsOf mk es key cc).err]) ∧ Below w.heap.size w w' := by
  have HA0 := Lib.hid hA
  have HDC := Lib.hid hdc
  clear hA hdc
  go_enter Try.func50, Try.ntmps50
  go_upto_region 1 with fail
  refine Reg.wp_gen (fun w0 => CBx w0 w.heap.size cc ∧ EBx w0 (w.heap.size + 1) ent0 ∧ Below w.heap.size w w0) ⟨?_, ?_, ?_⟩ ?_
  · exact (Mem.Bx.new w 26 (colCells cc).toArray rfl rfl).below (Reg.below_new _ _) (by simp)
  · exact Mem.Bx.new (w.alloc _) 40 (entCells ent0).toArray rfl (by simp)
  · exact (Reg.below_new _ _).alloc (by simp) _
  rintro w1 ⟨hC1, hE1, hb1⟩
  have HC1 := Lib.hid hC1
  have HE1 := Lib.hid hE1
  have HB1 := Lib.hid hb1
  have HA1 := Lib.hid (HA0.out.below hb1)
  obtain ⟨gc, hgc⟩ : ∃ gc, w.heap.size = gc := ⟨_, rfl⟩
  obtain ⟨ge, hge⟩ : ∃ ge, w.heap.size + 1 = ge := ⟨_, rfl⟩
  rw [hgc] at HC1
  rw [hge] at HE1 ⊢
  rw [hgc]
  have HWG : Hid (w.heap.size ≤ ge) := by show _ ≤ _; omega
  clear hC1 hE1 hb1 HA0 hgc hge
  cases hcv : coversC cc mk with
  | false =>
    have HCV := Lib.hid hcv
    clear hcv
    refine Reg.wp_region_rel (by kernel_rfl) 31 7 rfl rfl (by kernel_rfl) (Reg.Adds) (Reg.Adds.refl) (Reg.Adds.trans)
      (fun i v u => match i with
        | 0 => v = Vec.C cc
        | 1 => v = .pointer (some ⟨g, 0, none⟩)
        | 2 => v = .pointer (some ⟨g, 0, none⟩)
        | 3 => v = .pointer (some ⟨g, 2, none⟩)
        | 4 => v = Vec.C mk
        | 5 => v = .bool false
        | 6 => v = .bool true
        | _ => True) ?_ ?_
    · refine Reg.Steps.cons ?_ (Reg.Steps.cons ?_ (Reg.Steps.cons ?_ (Reg.Steps.cons ?_ (Reg.Steps.cons ?_ (Reg.Steps.cons ?_ (Reg.Steps.cons ?_ (Reg.Steps.nil _)))))))
      · intro val ac u hR hp ha K hK
        have e5 : (ac.tmps[5]?).getD undef = .pointer (some ⟨gc, 0, none⟩) := ha 5 (by decide); clear ha hp
        refine Reg.Op1.plain rfl ?_
        have hBu := Mem.Bx.below (w := w1.drew) HC1.out hR HC1.out.lt
        refine Mem.load_agg _ _ col_agg gc 0 (colCells cc) (Reg.eval_of e5) (Sto.colCells_length _) (fun j u' hu => by rw [Nat.zero_add]; exact hBu.cell hu) ?_
        exact ⟨rfl, hK _ _ rfl (fun j k _ _ => Reg.Adds.refl _ _ _)⟩
      · intro val ac u hR hp ha K hK
        have e0 : (ac.tmps[0]?).getD undef = .pointer (some ⟨g, 0, none⟩) := ha 0 (by decide); clear ha hp
        refine Reg.Op1.plain rfl ?_
        go_wp2
        exact ⟨rfl, hK _ _ rfl (fun j k _ _ => Reg.Adds.refl _ _ _)⟩
      · intro val ac u hR hp ha K hK
        obtain ⟨w12, h12, r12⟩ := hp 1 (by decide); have e12 : (ac.tmps[12]?).getD undef = .pointer (some ⟨g, 0, none⟩) := (ha 12 (by decide)).trans h12; clear h12 ha hp
        refine Reg.Op1.plain rfl ?_
        go_wp2
        exact ⟨rfl, hK _ _ rfl (fun j k _ _ => Reg.Adds.refl _ _ _)⟩
      · intro val ac u hR hp ha K hK
        obtain ⟨w13, h13, r13⟩ := hp 2 (by decide); have e13 : (ac.tmps[13]?).getD undef = .pointer (some ⟨g, 0, none⟩) := (ha 13 (by decide)).trans h13; clear h13 ha hp
        refine Reg.Op1.plain rfl ?_
        go_wp2
        exact ⟨rfl, hK _ _ rfl (fun j k _ _ => Reg.Adds.refl _ _ _)⟩
      · intro val ac u hR hp ha K hK
        obtain ⟨w14, h14, r14⟩ := hp 3 (by decide); have e14 : (ac.tmps[14]?).getD undef = .pointer (some ⟨g, 2, none⟩) := (ha 14 (by decide)).trans h14; clear h14 ha hp
        refine Reg.Op1.plain rfl ?_
        have hBu := Mem.Bx.below (w := w1.drew) HA1.out.B hR HA1.out.B.lt
        refine Mem.load_agg _ _ col_agg g 2 (colCells mk) (Reg.eval_of e14) (Sto.colCells_length _) (hBu.part 2 rfl) ?_
        exact ⟨rfl, hK _ _ rfl (fun j k _ _ => Reg.Adds.refl _ _ _)⟩
      · intro val ac u hR hp ha K hK
        obtain ⟨w11, h11, r11⟩ := hp 0 (by decide); have e11 : (ac.tmps[11]?).getD undef = Vec.C cc := (ha 11 (by decide)).trans h11; obtain ⟨w15, h15, r15⟩ := hp 4 (by decide); have e15 : (ac.tmps[15]?).getD undef = Vec.C mk := (ha 15 (by decide)).trans h15; clear h11 h15 ha hp
        refine Reg.Op1.plain rfl ?_
        go_wp2_with fail
        refine (refCoversC_any cc mk u).mono ?_
        rintro x w' ⟨rfl, hbw⟩
        rw [HCV.out]
        go_wp2_with fail
        exact ⟨rfl, hK _ _ rfl (fun j k _ _ => hbw)⟩
      · intro val ac u hR hp ha K hK
        obtain ⟨w16, h16, r16⟩ := hp 5 (by decide); have e16 : (ac.tmps[16]?).getD undef = .bool false := (ha 16 (by decide)).trans h16; clear h16 ha hp
        refine Reg.Op1.plain rfl ?_
        go_wp2
        exact ⟨rfl, hK _ _ rfl (fun j k _ _ => Reg.Adds.refl _ _ _)⟩
    intro val u hR H
    obtain ⟨_, hv, _⟩ := H 6 (by decide)
    have hv : val 6 = .bool true := hv
    have HBu : Hid (Below w1.heap.size w1 u) := (Below.refl _ w1).drew.trans hR
    simp only [List.map_cons, List.map_nil, Reg.lay, Act.put, List.setIfInBounds_toArray, List.set_cons_succ, List.set_cons_zero, Nat.reduceAdd, hv]
    clear hR H hv
    obtain ⟨w2, hw2⟩ : ∃ z, z = u := ⟨_, rfl⟩
    subst hw2
    have HA2 := Lib.hid (HA1.out.below HBu.out)
    have HC2 : Hid (Sto.CBx w2 gc cc) := HC1.out.below HBu.out HC1.out.lt
    have HE2 : Hid (EBx w2 ge ent0) := HE1.out.below HBu.out HE1.out.lt
    have HB2 : Hid (Below w.heap.size w w2) := HB1.out.trans (HBu.out.mono HB1.out.size)
    clear HA1 HC1 HE1 HB1 HBu
    go_wp2_with ((with_reducible refine Mem.store_agg _ _ entry_agg ge (entCells ent0) (entCells ent0) ?hxs ?hys HE2.out (entCells_length _) (ent_one ent0) ?_); ((case hxs => exact rfl); (case hys => exact rfl); intro w3 hb3 hk3 hs3))
    refine bodyPost_ret (v := .tuple #[E ent0, .bool false, .int .i64 60]) ?_ rfl ⟨by unfold rAsOf; rw [HCV.out]; rfl, HB2.out.trans (hk3.below (fun k h => by rw [h]; exact HWG.out) HB2.out.size)⟩
    rw [results_agg3 Try.results50 entry_agg rfl hb3]
    rfl
  | true =>
    have HCV := Lib.hid hcv
    clear hcv
    refine Reg.wp_region_rel (by kernel_rfl) 31 7 rfl rfl (by kernel_rfl) (Reg.Adds) (Reg.Adds.refl) (Reg.Adds.trans)
      (fun i v u => match i with
        | 0 => v = Vec.C cc
        | 1 => v = .pointer (some ⟨g, 0, none⟩)
        | 2 => v = .pointer (some ⟨g, 0, none⟩)
        | 3 => v = .pointer (some ⟨g, 2, none⟩)
        | 4 => v = Vec.C mk
        | 5 => v = .bool true
        | 6 => v = .bool false
        | _ => True) ?_ ?_
    · refine Reg.Steps.cons ?_ (Reg.Steps.cons ?_ (Reg.Steps.cons ?_ (Reg.Steps.cons ?_ (Reg.Steps.cons ?_ (Reg.Steps.cons ?_ (Reg.Steps.cons ?_ (Reg.Steps.nil _)))))))
      · intro val ac u hR hp ha K hK
        have e5 : (ac.tmps[5]?).getD undef = .pointer (some ⟨gc, 0, none⟩) := ha 5 (by decide); clear ha hp
        refine Reg.Op1.plain rfl ?_
        have hBu := Mem.Bx.below (w := w1.drew) HC1.out hR HC1.out.lt
        refine Mem.load_agg _ _ col_agg gc 0 (colCells cc) (Reg.eval_of e5) (Sto.colCells_length _) (fun j u' hu => by rw [Nat.zero_add]; exact hBu.cell hu) ?_
        exact ⟨rfl, hK _ _ rfl (fun j k _ _ => Reg.Adds.refl _ _ _)⟩
      · intro val ac u hR hp ha K hK
        have e0 : (ac.tmps[0]?).getD undef = .pointer (some ⟨g, 0, none⟩) := ha 0 (by decide); clear ha hp
        refine Reg.Op1.plain rfl ?_
        go_wp2
        exact ⟨rfl, hK _ _ rfl (fun j k _ _ => Reg.Adds.refl _ _ _)⟩
      · intro val ac u hR hp ha K hK
        obtain ⟨w12, h12, r12⟩ := hp 1 (by decide); have e12 : (ac.tmps[12]?).getD undef = .pointer (some ⟨g, 0, none⟩) := (ha 12 (by decide)).trans h12; clear h12 ha hp
        refine Reg.Op1.plain rfl ?_
        go_wp2
        exact ⟨rfl, hK _ _ rfl (fun j k _ _ => Reg.Adds.refl _ _ _)⟩
      · intro val ac u hR hp ha K hK
        obtain ⟨w13, h13, r13⟩ := hp 2 (by decide); have e13 : (ac.tmps[13]?).getD undef = .pointer (some ⟨g, 0, none⟩) := (ha 13 (by decide)).trans h13; clear h13 ha hp
        refine Reg.Op1.plain rfl ?_
        go_wp2
        exact ⟨rfl, hK _ _ rfl (fun j k _ _ => Reg.Adds.refl _ _ _)⟩
      · intro val ac u hR hp ha K hK
        obtain ⟨w14, h14, r14⟩ := hp 3 (by decide); have e14 : (ac.tmps[14]?).getD undef = .pointer (some ⟨g, 2, none⟩) := (ha 14 (by decide)).trans h14; clear h14 ha hp
        refine Reg.Op1.plain rfl ?_
        have hBu := Mem.Bx.below (w := w1.drew) HA1.out.B hR HA1.out.B.lt
        refine Mem.load_agg _ _ col_agg g 2 (colCells mk) (Reg.eval_of e14) (Sto.colCells_length _) (hBu.part 2 rfl) ?_
        exact ⟨rfl, hK _ _ rfl (fun j k _ _ => Reg.Adds.refl _ _ _)⟩
      · intro val ac u hR hp ha K hK
        obtain ⟨w11, h11, r11⟩ := hp 0 (by decide); have e11 : (ac.tmps[11]?).getD undef = Vec.C cc := (ha 11 (by decide)).trans h11; obtain ⟨w15, h15, r15⟩ := hp 4 (by decide); have e15 : (ac.tmps[15]?).getD undef = Vec.C mk := (ha 15 (by decide)).trans h15; clear h11 h15 ha hp
        refine Reg.Op1.plain rfl ?_
        go_wp2_with fail
        refine (refCoversC_any cc mk u).mono ?_
        rintro x w' ⟨rfl, hbw⟩
        rw [HCV.out]
        go_wp2_with fail
        exact ⟨rfl, hK _ _ rfl (fun j k _ _ => hbw)⟩
      · intro val ac u hR hp ha K hK
        obtain ⟨w16, h16, r16⟩ := hp 5 (by decide); have e16 : (ac.tmps[16]?).getD undef = .bool true := (ha 16 (by decide)).trans h16; clear h16 ha hp
        refine Reg.Op1.plain rfl ?_
        go_wp2
        exact ⟨rfl, hK _ _ rfl (fun j k _ _ => Reg.Adds.refl _ _ _)⟩
    intro val u hR H
    obtain ⟨_, hv, _⟩ := H 6 (by decide)
    have hv : val 6 = .bool false := hv
    have HBu : Hid (Below w1.heap.size w1 u) := (Below.refl _ w1).drew.trans hR
    simp only [List.map_cons, List.map_nil, Reg.lay, Act.put, List.setIfInBounds_toArray, List.set_cons_succ, List.set_cons_zero, Nat.reduceAdd, hv]
    clear hR H hv
    obtain ⟨w2, hw2⟩ : ∃ z, z = u := ⟨_, rfl⟩
    subst hw2
    have HA2 := Lib.hid (HA1.out.below HBu.out)
    have HC2 : Hid (Sto.CBx w2 gc cc) := HC1.out.below HBu.out HC1.out.lt
    have HE2 : Hid (EBx w2 ge ent0) := HE1.out.below HBu.out HE1.out.lt
    have HB2 : Hid (Below w.heap.size w w2) := HB1.out.trans (HBu.out.mono HB1.out.size)
    clear HA1 HC1 HE1 HB1 HBu
    obtain ⟨gr, hgr⟩ : ∃ gr, greatest key cc false es = gr := ⟨_, rfl⟩
    have HGR := Lib.hid hgr
    clear hgr
    go_upto_region 3 with fail
    refine Reg.wp_region_z (by kernel_rfl) 31 13 rfl rfl (by kernel_rfl) 90 91 (by decide) (11) (fun y => w2.heap.size ≤ y) (0) (fun _ => False) (0) (fun _ => False)
      (fun i f v u => match i with
        | 0 => v = .pointer (some ⟨g, 0, none⟩)
        | 1 => v = .pointer (some ⟨g, 0, none⟩)
        | 2 => v = .pointer (some ⟨g, 1, none⟩)
        | 3 => v = .slice A es.length c
        | 4 => v = .string key
        | 5 => v = Vec.C cc
        | 6 => v = .tuple #[Vec.E gr.1, .bool gr.2]
        | 7 => v = .tuple #[Vec.E gr.1, .bool gr.2]
        | 8 => v = Vec.E gr.1
        | 9 => v = .bool gr.2
        | 10 => ∃ s, v = .pointer (some ⟨s, 0, none⟩) ∧ w2.heap.size ≤ s ∧ EBx u s ent0
        | 11 => ∃ s, f 9 = .pointer (some ⟨s, 0, none⟩) ∧ w2.heap.size ≤ s ∧ EBx u s gr.1
        | 12 => v = .bool gr.2
        | _ => True) ?_ ?_
    · refine Reg.StepsZ.cons ?_ (Reg.StepsZ.cons ?_ (Reg.StepsZ.cons ?_ (Reg.StepsZ.cons ?_ (Reg.StepsZ.cons ?_ (Reg.StepsZ.cons ?_ (Reg.StepsZ.cons ?_ (Reg.StepsZ.cons ?_ (Reg.StepsZ.cons ?_ (Reg.StepsZ.cons ?_ (Reg.StepsZ.cons ?_ (Reg.StepsZ.cons ?_ (Reg.StepsZ.cons ?_ (Reg.StepsZ.nil _)))))))))))))
      · intro val ac u hR hp hpq ha K hK0
        have hK := fun v w' h1 h2 => hK0 v w' h1 h2 (fun j f v' h _ => by omega); have e0 : (ac.tmps[0]?).getD undef = .pointer (some ⟨g, 0, none⟩) := ha 0 (by decide); clear ha hp
        refine Reg.Op1.plain rfl ?_
        go_wp2
        exact ⟨rfl, hK _ _ rfl (Reg.Wr.same _)⟩
      · intro val ac u hR hp hpq ha K hK0
        have hK := fun v w' h1 h2 => hK0 v w' h1 h2 (fun j f v' h _ => by omega); obtain ⟨w20, h20, r20⟩ := hp 0 (by decide); have e20 : (ac.tmps[20]?).getD undef = .pointer (some ⟨g, 0, none⟩) := (ha 20 (by decide)).trans h20; clear h20 ha hp
        refine Reg.Op1.plain rfl ?_
        go_wp2
        exact ⟨rfl, hK _ _ rfl (Reg.Wr.same _)⟩
      · intro val ac u hR hp hpq ha K hK0
        have hK := fun v w' h1 h2 => hK0 v w' h1 h2 (fun j f v' h _ => by omega); obtain ⟨w21, h21, r21⟩ := hp 1 (by decide); have e21 : (ac.tmps[21]?).getD undef = .pointer (some ⟨g, 0, none⟩) := (ha 21 (by decide)).trans h21; clear h21 ha hp
        refine Reg.Op1.plain rfl ?_
        go_wp2
        exact ⟨rfl, hK _ _ rfl (Reg.Wr.same _)⟩
      · intro val ac u hR hp hpq ha K hK0
        have hK := fun v w' h1 h2 => hK0 v w' h1 h2 (fun j f v' h _ => by omega); obtain ⟨w22, h22, r22⟩ := hp 2 (by decide); have e22 : (ac.tmps[22]?).getD undef = .pointer (some ⟨g, 1, none⟩) := (ha 22 (by decide)).trans h22; clear h22 ha hp
        refine Reg.Op1.plain rfl ?_
        have hq : Mem.Keeps (fun y => w2.heap.size ≤ y ∨ False ∨ False) w2 u := (Mem.Keeps.refl (fun y => w2.heap.size ≤ y ∨ False ∨ False) w2).drew.trans (Reg.Wr.all hR) (fun _ h _ => h)
        have z0 := (HA2.out.B.keeps hq (fun h => by have := HA2.out.B.lt; rcases h with h | h | h <;> first | omega | exact h)).cell (j := 1) rfl
        go_wp2
        exact ⟨rfl, hK _ _ rfl (Reg.Wr.same _)⟩
      · intro val ac u hR hp hpq ha K hK0
        have hK := fun v w' h1 h2 => hK0 v w' h1 h2 (fun j f v' h _ => by omega); have e1 : (ac.tmps[1]?).getD undef = .string key := ha 1 (by decide); clear ha hp
        refine Reg.Op1.plain rfl ?_
        go_wp2
        exact ⟨rfl, hK _ _ rfl (Reg.Wr.same _)⟩
      · intro val ac u hR hp hpq ha K hK0
        have hK := fun v w' h1 h2 => hK0 v w' h1 h2 (fun j f v' h _ => by omega); have e5 : (ac.tmps[5]?).getD undef = .pointer (some ⟨gc, 0, none⟩) := ha 5 (by decide); clear ha hp
        refine Reg.Op1.plain rfl ?_
        have hq : Mem.Keeps (fun y => w2.heap.size ≤ y ∨ False ∨ False) w2 u := (Mem.Keeps.refl (fun y => w2.heap.size ≤ y ∨ False ∨ False) w2).drew.trans (Reg.Wr.all hR) (fun _ h _ => h)
        have hBu := (HC2.out.keeps hq (fun h => by have := HC2.out.lt; rcases h with h | h | h <;> first | omega | exact h))
        refine Mem.load_agg _ _ col_agg gc 0 (colCells cc) (Reg.eval_of e5) (Sto.colCells_length _) (fun j u' hu => by rw [Nat.zero_add]; exact hBu.cell hu) ?_
        exact ⟨rfl, hK _ _ rfl (Reg.Wr.same _)⟩
      · intro val ac u hR hp hpq ha K hK0
        have hK := fun v w' h1 h2 => hK0 v w' h1 h2 (fun j f v' h _ => by omega); obtain ⟨w23, h23, r23⟩ := hp 3 (by decide); have e23 : (ac.tmps[23]?).getD undef = .slice A es.length c := (ha 23 (by decide)).trans h23; obtain ⟨w24, h24, r24⟩ := hp 4 (by decide); have e24 : (ac.tmps[24]?).getD undef = .string key := (ha 24 (by decide)).trans h24; obtain ⟨w25, h25, r25⟩ := hp 5 (by decide); have e25 : (ac.tmps[25]?).getD undef = Vec.C cc := (ha 25 (by decide)).trans h25; clear h23 h24 h25 ha hp
        refine Reg.Op1.plain rfl ?_
        have hq : Mem.Keeps (fun _ => False ∨ False) w2 u := (Mem.Keeps.refl (fun _ => False ∨ False) w2).drew.trans (Reg.Wr.not1 hR (by decide +kernel)) (fun _ h _ => h)
        have hO := (HA2.out.keeps hq (fun _ _ h => h.elim id id)).O
        go_wp2_with fail
        refine (refGreatest_all key cc A c es u hO.rd (by unfold maxLen; omega) HDC.out false).mono ?_
        rintro x9 w' ⟨rfl, hbw9⟩
        rw [HGR.out]
        go_wp2_with fail
        exact ⟨rfl, hK _ _ rfl (Reg.Wr.below hbw9)⟩
      · intro val ac u hR hp hpq ha K hK0
        have hK := fun v w' h1 h2 => hK0 v w' h1 h2 (fun j f v' h _ => by omega); obtain ⟨w26, h26, r26⟩ := hp 6 (by decide); have e26 : (ac.tmps[26]?).getD undef = .tuple #[Vec.E gr.1, .bool gr.2] := (ha 26 (by decide)).trans h26; clear h26 ha hp
        refine Reg.Op1.plain rfl ?_
        go_wp2
        exact ⟨rfl, hK _ _ rfl (Reg.Wr.same _)⟩
      · intro val ac u hR hp hpq ha K hK0
        have hK := fun v w' h1 h2 => hK0 v w' h1 h2 (fun j f v' h _ => by omega); obtain ⟨w19, h19, r19⟩ := hp 7 (by decide); have e19 : (ac.tmps[19]?).getD undef = .tuple #[Vec.E gr.1, .bool gr.2] := (ha 19 (by decide)).trans h19; clear h19 ha hp
        refine Reg.Op1.plain rfl ?_
        go_wp2
        exact ⟨rfl, hK _ _ rfl (Reg.Wr.same _)⟩
      · intro val ac u hR hp hpq ha K hK0
        have hK := fun v w' h1 h2 => hK0 v w' h1 h2 (fun j f v' h _ => by omega); obtain ⟨w19, h19, r19⟩ := hp 7 (by decide); have e19 : (ac.tmps[19]?).getD undef = .tuple #[Vec.E gr.1, .bool gr.2] := (ha 19 (by decide)).trans h19; clear h19 ha hp
        refine Reg.Op1.plain rfl ?_
        go_wp2
        exact ⟨rfl, hK _ _ rfl (Reg.Wr.same _)⟩
      · intro val ac u hR hp hpq ha K hK0
        have hK := fun v w' h1 h2 => hK0 v w' h1 h2 (fun j f v' h _ => by omega); clear ha hp
        refine Reg.Op1.plain rfl ?_
        have hbu : w2.heap.size ≤ u.heap.size := (Reg.Wr.all hR).size
        go_wp2
        exact ⟨rfl, hK _ _ ⟨u.heap.size, rfl, hbu, Mem.Bx.new u 40 (entCells ent0).toArray rfl rfl⟩ (Reg.Wr.quiet ((Mem.Keeps.refl _ u).alloc _))⟩
      · intro val ac u hR hp hpq ha K hK0
        have hK := fun v w' h1 h2 => hK0 v w' h1 h2 (fun j f v' h _ => by omega); obtain ⟨w9, h9, r9⟩ := hp 10 (by decide); have e9 : (ac.tmps[9]?).getD undef = val 10 := ha 9 (by decide); obtain ⟨w27, h27, r27⟩ := hp 8 (by decide); have e27 : (ac.tmps[27]?).getD undef = Vec.E gr.1 := (ha 27 (by decide)).trans h27; clear h27 ha hp
        refine Reg.Op1.plain rfl ?_
        obtain ⟨s, hv, hs, hbx⟩ := h9
        have hv7 := hv
        rw [hv] at e9
        have hbx' : EBx u s ent0 := hbx.keeps (Reg.Wr.not1 r9 (by decide +kernel)) (fun h => h.elim id id)
        refine Mem.store_agg _ _ entry_agg s (entCells ent0) (entCells gr.1) (Reg.eval_of e9) (Reg.eval_of e27) hbx' (entCells_length _) (ent_one _) ?_
        intro w' hb hk hs'
        exact ⟨rfl, hK undef _ ⟨s, hv7, hs, hb⟩ (Reg.Wr.does1 (hk.mono (fun i h _ => by show w2.heap.size ≤ i; omega)))⟩
      · intro val ac u hR hp hpq ha K hK0
        have hK := fun v w' h1 h2 => hK0 v w' h1 h2 (fun j f v' h _ => by omega); obtain ⟨w28, h28, r28⟩ := hp 9 (by decide); have e28 : (ac.tmps[28]?).getD undef = .bool gr.2 := (ha 28 (by decide)).trans h28; clear h28 ha hp
        refine Reg.Op1.plain rfl ?_
        go_wp2
        exact ⟨rfl, hK _ _ rfl (Reg.Wr.same _)⟩
    intro val u hR H hZ
    obtain ⟨_, hva, _⟩ := H 12 (by decide)
    have hva : val 12 = .bool gr.2 := hva
    obtain ⟨wA, ⟨s, hv7, hs, hb⟩, rA⟩ := H 11 (by decide)
    have hv7 : val 10 = .pointer (some ⟨s, 0, none⟩) := hv7
    have hq : Mem.Keeps (fun y => w2.heap.size ≤ y ∨ False ∨ False) w2 u := (Mem.Keeps.refl (fun y => w2.heap.size ≤ y ∨ False ∨ False) w2).drew.trans (Reg.Wr.all hR) (fun _ h _ => h)
    have HBu : Hid (Below w2.heap.size w2 u) := hq.below (fun y h => by rcases h with h | h | h <;> first | exact h | exact h.elim) (Nat.le_refl _)
    have HS7 : Hid (EBx u s gr.1) := hb.keeps (Reg.Wr.not1 rA (by decide +kernel)) (fun h => h.elim id id)
    simp only [List.map_cons, List.map_nil, Reg.lay, Act.put, List.setIfInBounds_toArray, List.set_cons_succ, List.set_cons_zero, Nat.reduceAdd, hva, hv7]
    clear hR H hZ hq hb rA hv7 hva
    obtain ⟨w7, hw7⟩ : ∃ z, z = u := ⟨_, rfl⟩
    subst hw7
    obtain ⟨gs, hgs⟩ : ∃ z, z = s := ⟨_, rfl⟩
    subst hgs
    have HE7 : Hid (EBx w7 ge ent0) := HE2.out.below HBu.out HE2.out.lt
    have HB7 : Hid (Below w.heap.size w w7) := HB2.out.trans (HBu.out.mono HB2.out.size)
    obtain ⟨ge9, gb9⟩ := gr
    clear HA2 HC2 HE2 HB2 HBu hs
    go_wp2_with (first | ((with_reducible refine Mem.load_agg _ _ entry_agg gs 0 (entCells ge9) ?hz (entCells_length _) (fun j u hu => by rw [Nat.zero_add]; exact HS7.out.cell hu) ?_); case hz => exact rfl) | ((with_reducible refine Mem.store_agg _ _ entry_agg ge (entCells ent0) (entCells ge9) ?hxs ?hys HE7.out (entCells_length _) (ent_one ge9) ?_); ((case hxs => exact rfl); (case hys => exact rfl); intro w3 hb3 hk3 hs3)))
    refine bodyPost_ret (v := .tuple #[E ge9, .bool gb9, .int .i64 0]) ?_ rfl ⟨by unfold rAsOf; rw [HCV.out, HGR.out]; rfl, HB7.out.trans (hk3.below (fun k h => by rw [h]; exact HWG.out) HB7.out.size)⟩
    rw [results_agg3 Try.results50 entry_agg rfl hb3]
    rfl
end Go.Proofs.Ytfafehffnjbhnaa
end
section
/- What is told of the store and of the document's: looks. -/
set_option maxRecDepth 8000
namespace Go.Proofs.Ytfafehffnjbhnaa
open Go.ChangeShapes Go.WideShapes Go.ChangeAt Go.RowKit
set_option linter.unusedVariables false
set_option linter.unusedSimpArgs false
namespace Sto
open Vec
theorem Twin.keys {rng : Int} {st : List Ls} {L : List Ent} (h : Twin rng st L) {K : List ByteArray} (hs : K.Pairwise fun x y => bB x < bB y) (hm : ∀ q, q ∈ K ↔ ∃ x ∈ L, x.key = q) : K = sortK (st.map (·.k)) := by
  have n1 : K.Nodup := hs.imp fun {x y} hlt e => by rw [e] at hlt; exact List.lt_irrefl _ hlt
  have n2 : (sortK (st.map (·.k))).Nodup := ((sortK_self _).nodup_iff).2 h.G.kd
  refine List.Perm.eq_of_pairwise (le := fun x y => bB x ≤ bB y) (fun a b _ _ h1 h2 => bB_inj (List.le_antisymm h1 h2)) (hs.imp fun h => List.le_of_lt h) (sortK_sorted _) ?_
  rw [List.perm_ext_iff_of_nodup n1 n2]
  intro q
  rw [(sortK_self _).mem_iff, h.G.key_mem, hm]
  exact ⟨fun ⟨x, hx, e⟩ => ⟨x, h.P.symm.subset hx, e⟩, fun ⟨x, hx, e⟩ => ⟨x, h.P.subset hx, e⟩⟩
abbrev nob : ByteArray := ⟨#[110, 111, 98, 111, 100, 121]⟩
/-- the two stores and the columns in memory -/
structure LkS (w : World) (g b gd : Nat) (rng : Int) (mk : Col) (rs : List LR) (A : Option Addr) (c : Nat) (L : List Ent) (Aq : Option Addr) (cs : List Col) : Prop where
  S : SS w g b rng mk rs
  G : Good rng (states rs)
  D : RAt w gd A c rng mk L
  R : Mem.Rd w w.heap.size Aq (cs.flatMap colCells)
section
variable {w w' : World} {g b gd : Nat} {rng : Int} {mk : Col} {rs : List LR} {A : Option Addr} {c : Nat} {L : List Ent} {Aq : Option Addr} {cs : List Col}
theorem LkS.below (h : LkS w g b gd rng mk rs A c L Aq cs) (hb : Below w.heap.size w w') : LkS w' g b gd rng mk rs A c L Aq cs :=
  ⟨h.S.below hb, h.G, h.D.below hb, (h.R.below hb).more hb.size⟩
end
theorem keys_at {W : World} {g b : Nat} {rng : Int} {mk : Col} {rs : List LR} (h : SS W g b rng mk rs) (hr : rs.length ≤ 1000000) {ks : List ByteArray} (hk : sortK (rs.map (·.l.k)) = ks) :
    Calls Try.prog 16 #[.pointer (some ⟨g, 0, none⟩)] W fun x w' => ∃ A' c', x = .returned (.slice A' ks.length c') ∧ Mem.Own w' 9 1 A' ks.length c' (ks.map Value.string) ∧ Mem.From W.heap.size A' ∧ Below W.heap.size W w' := by
  subst hk
  rw [keys_length]
  exact storeKeys_any h hr
theorem vers_at {W : World} {g b : Nat} {rng : Int} {mk : Col} {rs : List LR} (h : SS W g b rng mk rs) {k : ByteArray} (hk : okS k) (hn : ∀ r ∈ rs, r.l.es.length ≤ 300) {V : List Ent} (hV : vers (states rs) k = V) :
    Calls Try.prog 15 #[.pointer (some ⟨g, 0, none⟩), .string k] W fun x w' => ∃ A' c', x = .returned (.slice A' V.length c') ∧ EOwn w' A' c' V ∧ Mem.From W.heap.size A' ∧ Below W.heap.size W w' := by
  subst hV
  exact storeVersions_any h hk hn
structure LkRel (w5 : World) (n : Nat) (v8 : Value) (wr : World) : Prop where
  out : ∃ j : Nat, j ≤ n ∧ v8 = .int .i64 j ∧ Hid (Below w5.heap.size w5 wr)
end Sto
open Vec Sto in
set_option maxRecDepth 20000 in
set_option maxHeartbeats 8000000 in
theorem looks_any {w : World} {g b gd : Nat} {rng : Int} {mk : Vec.Col} {rs : List Sto.LR} {A : Option Addr} {c : Nat} {L : List Vec.Ent} {Aq : Option Addr} {cc : Nat} {cs : List Vec.Col} (hW : Sto.LkS w g b gd rng mk rs A c L Aq cs) (hT : Sto.Twin rng (Sto.states rs) L) (hl : L.length ≤ 300) (hcs : cs.length ≤ 20) :
    Calls Try.prog 28 #[.pointer (some ⟨g, 0, none⟩), .pointer (some ⟨gd, 0, none⟩), .slice Aq cs.length cc] w fun x w' => x = .returned (.bool true) ∧ Below w.heap.size w w' := by
  have HW0 := Lib.hid hW
  have HT := Lib.hid hT
  have HLN : Hid (lenS (states rs) = L.length) := hT.len
  have HDC := Lib.hid hT.dc
  have HAP := Lib.hid hT.apart
  have hrl : rs.length ≤ 300 := Nat.le_trans (rs_le hW.G.hne) (by rw [HLN.out]; exact hl)
  have HES : Hid (∀ r ∈ rs, r.l.es.length ≤ 300) := fun r hr => by have h1 := ls_le hr; have h2 := HLN.out; omega
  have HLQ : Hid (lenS (states rs) ≤ 4611686018427387903) := by show _ ≤ _; rw [HLN.out]; omega
  obtain ⟨ks, hks⟩ : ∃ ks, sortK (rs.map (·.l.k)) = ks := ⟨_, rfl⟩
  have hkl : ks.length = rs.length := by rw [← hks, keys_length]
  have HKS := Lib.hid hks
  have HOKS : Hid (∀ q ∈ ks ++ [nob], okS q) := fun q hq => by
    rcases List.mem_append.1 hq with hq | hq
    · exact okS_of hW.G q ((sortK_self _).subset (hks ▸ hq))
    · rw [List.mem_singleton.1 hq]; show (6 : Nat) ≤ maxLen; unfold maxLen; omega
  have hkl3 : ks.length ≤ 300 := by omega
  have HKD := Lib.hid (refKeys_any rng mk gd A c L w hW.D (by omega))
  clear hW hT hks hkl
  go_enter Try.func28, Try.ntmps28
  go_upto_region 2 with (go_at_call 48; refine HKD.out.mono ?_; clear HKD; rintro x w1 ⟨Ak, ck, K, rfl, hs1, hm1, hO1, hF1, hb1⟩)
  have hKK : ks = K := by rw [← HKS.out, ← states_keys]; exact (HT.out.keys hs1 hm1).symm
  subst hKK
  have HW1 := Lib.hid (HW0.out.below hb1)
  have HK1 := Lib.hid hO1
  have HB1 := Lib.hid hb1
  have HKF := Lib.hid hF1
  clear hs1 hm1 hO1 hF1 hb1
  refine Reg.wp_region_rel (by kernel_rfl) 148 24 rfl rfl (by kernel_rfl) (Reg.Adds) (Reg.Adds.refl) (Reg.Adds.trans)
    (fun i v u => match i with
      | 0 => v = .pointer (some ⟨g, 0, none⟩)
      | 1 => ∃ A' c', v = .slice A' ks.length c' ∧ Mem.Own u 9 1 A' ks.length c' (ks.map Value.string)
      | 2 => v = .slice Ak ks.length ck
      | 3 => v = .bool true
      | 4 => v = .bool false
      | 5 => v = .bool false
      | 6 => v = .pointer (some ⟨g, 0, none⟩)
      | 7 => v = .int .i64 (L.length : Nat)
      | 8 => v = .pointer (some ⟨gd, 0, none⟩)
      | 9 => v = .pointer (some ⟨gd, 0, none⟩)
      | 10 => v = .pointer (some ⟨gd, 1, none⟩)
      | 11 => v = .slice A L.length c
      | 12 => v = .int .i64 ((L.length : Nat) : Int)
      | 13 => v = .bool false
      | 14 => v = .bool false
      | 15 => v = .bool false
      | 16 => v = .pointer (some ⟨g, 0, none⟩)
      | 17 => v = Vec.C mk
      | 18 => v = .pointer (some ⟨gd, 0, none⟩)
      | 19 => v = .pointer (some ⟨gd, 0, none⟩)
      | 20 => v = .pointer (some ⟨gd, 2, none⟩)
      | 21 => v = Vec.C mk
      | 22 => v = .bool false
      | 23 => v = .bool false
      | _ => True) ?_ ?_
  · refine Reg.Steps.cons ?_ (Reg.Steps.cons ?_ (Reg.Steps.cons ?_ (Reg.Steps.cons ?_ (Reg.Steps.cons ?_ (Reg.Steps.cons ?_ (Reg.Steps.cons ?_ (Reg.Steps.cons ?_ (Reg.Steps.cons ?_ (Reg.Steps.cons ?_ (Reg.Steps.cons ?_ (Reg.Steps.cons ?_ (Reg.Steps.cons ?_ (Reg.Steps.cons ?_ (Reg.Steps.cons ?_ (Reg.Steps.cons ?_ (Reg.Steps.cons ?_ (Reg.Steps.cons ?_ (Reg.Steps.cons ?_ (Reg.Steps.cons ?_ (Reg.Steps.cons ?_ (Reg.Steps.cons ?_ (Reg.Steps.cons ?_ (Reg.Steps.cons ?_ (Reg.Steps.nil _))))))))))))))))))))))))
    · intro val ac u hR hp ha K hK
      have e0 : (ac.tmps[0]?).getD undef = .pointer (some ⟨g, 0, none⟩) := ha 0 (by decide); clear ha hp
      refine Reg.Op1.plain rfl ?_
      go_wp2
      exact ⟨rfl, hK _ _ rfl (fun j k _ _ => Reg.Adds.refl _ _ _)⟩
    · intro val ac u hR hp ha K hK
      obtain ⟨w22, h22, r22⟩ := hp 0 (by decide); have e22 : (ac.tmps[22]?).getD undef = .pointer (some ⟨g, 0, none⟩) := (ha 22 (by decide)).trans h22; clear h22 ha hp
      refine Reg.Op1.plain rfl ?_
      have hM := HW1.out.below ((Below.refl _ w1).drew.trans hR)
      go_wp2_with fail
      refine (keys_at hM.S (by omega) HKS.out).mono ?_
      rintro x9 w' ⟨A', c', rfl, hO9, hF9, hb9⟩
      go_wp2_with fail
      exact ⟨rfl, hK _ _ ⟨A', c', rfl, hO9⟩ (fun j k _ _ => hb9)⟩
    · intro val ac u hR hp ha K hK
      have e7 : (ac.tmps[7]?).getD undef = .slice Ak ks.length ck := ha 7 (by decide); clear ha hp
      refine Reg.Op1.plain rfl ?_
      go_wp2
      exact ⟨rfl, hK _ _ rfl (fun j k _ _ => Reg.Adds.refl _ _ _)⟩
    · intro val ac u hR hp ha K hK
      obtain ⟨w23, h23, r23⟩ := hp 1 (by decide); have e23 : (ac.tmps[23]?).getD undef = val 1 := ha 23 (by decide); obtain ⟨w24, h24, r24⟩ := hp 2 (by decide); have e24 : (ac.tmps[24]?).getD undef = .slice Ak ks.length ck := (ha 24 (by decide)).trans h24; clear h24 ha hp
      refine Reg.Op1.plain rfl ?_
      obtain ⟨A', c', hv, hO⟩ := h23
      rw [hv] at e23
      have hO' := hO.below r23 (fun q hq => hO.lt hq)
      have hK' : Mem.Own u 9 1 Ak ks.length ck (ks.map Value.string) := HK1.out.below ((Below.refl _ w1).drew.trans hR) (fun q hq => HK1.out.lt hq)
      go_wp2_with fail
      refine (words_same A' Ak c' ck ks u hO'.rd hK'.rd (by unfold maxLen; omega)).mono ?_
      rintro x9 w' ⟨rfl, hb9⟩
      go_wp2_with fail
      exact ⟨rfl, hK _ _ rfl (fun j k _ _ => hb9)⟩
    · intro val ac u hR hp ha K hK
      obtain ⟨w25, h25, r25⟩ := hp 3 (by decide); have e25 : (ac.tmps[25]?).getD undef = .bool true := (ha 25 (by decide)).trans h25; clear h25 ha hp
      refine Reg.Op1.plain rfl ?_
      go_wp2
      exact ⟨rfl, hK _ _ rfl (fun j k _ _ => Reg.Adds.refl _ _ _)⟩
    · intro val ac u hR hp ha K hK
      obtain ⟨w26, h26, r26⟩ := hp 4 (by decide); have e26 : (ac.tmps[26]?).getD undef = .bool false := (ha 26 (by decide)).trans h26; clear h26 ha hp
      refine Reg.Op1.plain rfl ?_
      go_wp2
      exact ⟨rfl, hK _ _ rfl (fun j k _ _ => Reg.Adds.refl _ _ _)⟩
    · intro val ac u hR hp ha K hK
      have e0 : (ac.tmps[0]?).getD undef = .pointer (some ⟨g, 0, none⟩) := ha 0 (by decide); obtain ⟨w27, h27, r27⟩ := hp 5 (by decide); have e27 : (ac.tmps[27]?).getD undef = .bool false := (ha 27 (by decide)).trans h27; clear h27 ha hp
      refine Reg.Op1.guarded rfl rfl e27 (fun _ => Reg.Op1.plain rfl ?_) (fun h => absurd rfl h)
      go_wp2
      exact ⟨rfl, hK _ _ rfl (fun j k _ _ => Reg.Adds.refl _ _ _)⟩
    · intro val ac u hR hp ha K hK
      obtain ⟨w28, h28, r28⟩ := hp 6 (by decide); have e28 : (ac.tmps[28]?).getD undef = .pointer (some ⟨g, 0, none⟩) := (ha 28 (by decide)).trans h28; obtain ⟨w27, h27, r27⟩ := hp 5 (by decide); have e27 : (ac.tmps[27]?).getD undef = .bool false := (ha 27 (by decide)).trans h27; clear h28 h27 ha hp
      refine Reg.Op1.guarded rfl rfl e27 (fun _ => Reg.Op1.plain rfl ?_) (fun h => absurd rfl h)
      have hM := HW1.out.below ((Below.refl _ w1).drew.trans hR)
      have hln := storeLen_any hM.S (by rw [HLN.out]; omega)
      rw [HLN.out] at hln
      go_wp2_with fail
      refine hln.mono ?_
      rintro x9 w' ⟨rfl, hb9⟩
      go_wp2_with fail
      exact ⟨rfl, hK _ _ rfl (fun j k _ _ => hb9)⟩
    · intro val ac u hR hp ha K hK
      have e1 : (ac.tmps[1]?).getD undef = .pointer (some ⟨gd, 0, none⟩) := ha 1 (by decide); obtain ⟨w27, h27, r27⟩ := hp 5 (by decide); have e27 : (ac.tmps[27]?).getD undef = .bool false := (ha 27 (by decide)).trans h27; clear h27 ha hp
      refine Reg.Op1.guarded rfl rfl e27 (fun _ => Reg.Op1.plain rfl ?_) (fun h => absurd rfl h)
      go_wp2
      exact ⟨rfl, hK _ _ rfl (fun j k _ _ => Reg.Adds.refl _ _ _)⟩
    · intro val ac u hR hp ha K hK
      obtain ⟨w30, h30, r30⟩ := hp 8 (by decide); have e30 : (ac.tmps[30]?).getD undef = .pointer (some ⟨gd, 0, none⟩) := (ha 30 (by decide)).trans h30; obtain ⟨w27, h27, r27⟩ := hp 5 (by decide); have e27 : (ac.tmps[27]?).getD undef = .bool false := (ha 27 (by decide)).trans h27; clear h30 h27 ha hp
      refine Reg.Op1.guarded rfl rfl e27 (fun _ => Reg.Op1.plain rfl ?_) (fun h => absurd rfl h)
      go_wp2
      exact ⟨rfl, hK _ _ rfl (fun j k _ _ => Reg.Adds.refl _ _ _)⟩
    · intro val ac u hR hp ha K hK
      obtain ⟨w31, h31, r31⟩ := hp 9 (by decide); have e31 : (ac.tmps[31]?).getD undef = .pointer (some ⟨gd, 0, none⟩) := (ha 31 (by decide)).trans h31; obtain ⟨w27, h27, r27⟩ := hp 5 (by decide); have e27 : (ac.tmps[27]?).getD undef = .bool false := (ha 27 (by decide)).trans h27; clear h31 h27 ha hp
      refine Reg.Op1.guarded rfl rfl e27 (fun _ => Reg.Op1.plain rfl ?_) (fun h => absurd rfl h)
      go_wp2
      exact ⟨rfl, hK _ _ rfl (fun j k _ _ => Reg.Adds.refl _ _ _)⟩
    · intro val ac u hR hp ha K hK
      obtain ⟨w32, h32, r32⟩ := hp 10 (by decide); have e32 : (ac.tmps[32]?).getD undef = .pointer (some ⟨gd, 1, none⟩) := (ha 32 (by decide)).trans h32; obtain ⟨w27, h27, r27⟩ := hp 5 (by decide); have e27 : (ac.tmps[27]?).getD undef = .bool false := (ha 27 (by decide)).trans h27; clear h32 h27 ha hp
      have z0 := (hR.cell (p := ⟨gd, 1, none⟩) HW1.out.D.B.lt).trans (HW1.out.D.B.cell (j := 1) rfl)
      refine Reg.Op1.guarded rfl rfl e27 (fun _ => Reg.Op1.plain rfl ?_) (fun h => absurd rfl h)
      go_wp2
      exact ⟨rfl, hK _ _ rfl (fun j k _ _ => Reg.Adds.refl _ _ _)⟩
    · intro val ac u hR hp ha K hK
      obtain ⟨w33, h33, r33⟩ := hp 11 (by decide); have e33 : (ac.tmps[33]?).getD undef = .slice A L.length c := (ha 33 (by decide)).trans h33; obtain ⟨w27, h27, r27⟩ := hp 5 (by decide); have e27 : (ac.tmps[27]?).getD undef = .bool false := (ha 27 (by decide)).trans h27; clear h33 h27 ha hp
      refine Reg.Op1.guarded rfl rfl e27 (fun _ => Reg.Op1.plain rfl ?_) (fun h => absurd rfl h)
      go_wp2
      exact ⟨rfl, hK _ _ rfl (fun j k _ _ => Reg.Adds.refl _ _ _)⟩
    · intro val ac u hR hp ha K hK
      obtain ⟨w29, h29, r29⟩ := hp 7 (by decide); have e29 : (ac.tmps[29]?).getD undef = .int .i64 (L.length : Nat) := (ha 29 (by decide)).trans h29; obtain ⟨w34, h34, r34⟩ := hp 12 (by decide); have e34 : (ac.tmps[34]?).getD undef = .int .i64 ((L.length : Nat) : Int) := (ha 34 (by decide)).trans h34; obtain ⟨w27, h27, r27⟩ := hp 5 (by decide); have e27 : (ac.tmps[27]?).getD undef = .bool false := (ha 27 (by decide)).trans h27; clear h29 h34 h27 ha hp
      have z0 : ((L.length : Int) != (L.length : Int)) = false := by simp
      refine Reg.Op1.guarded rfl rfl e27 (fun _ => Reg.Op1.plain rfl ?_) (fun h => absurd rfl h)
      go_wp2
      exact ⟨rfl, hK _ _ rfl (fun j k _ _ => Reg.Adds.refl _ _ _)⟩
    · intro val ac u hR hp ha K hK
      obtain ⟨w27, h27, r27⟩ := hp 5 (by decide); have e27 : (ac.tmps[27]?).getD undef = .bool false := (ha 27 (by decide)).trans h27; obtain ⟨w35, h35, r35⟩ := hp 13 (by decide); have e35 : (ac.tmps[35]?).getD undef = .bool false := (ha 35 (by decide)).trans h35; clear h27 h35 ha hp
      refine Reg.Op1.plain rfl ?_
      go_wp2
      exact ⟨rfl, hK _ _ rfl (fun j k _ _ => Reg.Adds.refl _ _ _)⟩
    · intro val ac u hR hp ha K hK
      obtain ⟨w36, h36, r36⟩ := hp 14 (by decide); have e36 : (ac.tmps[36]?).getD undef = .bool false := (ha 36 (by decide)).trans h36; clear h36 ha hp
      refine Reg.Op1.plain rfl ?_
      go_wp2
      exact ⟨rfl, hK _ _ rfl (fun j k _ _ => Reg.Adds.refl _ _ _)⟩
    · intro val ac u hR hp ha K hK
      have e0 : (ac.tmps[0]?).getD undef = .pointer (some ⟨g, 0, none⟩) := ha 0 (by decide); obtain ⟨w37, h37, r37⟩ := hp 15 (by decide); have e37 : (ac.tmps[37]?).getD undef = .bool false := (ha 37 (by decide)).trans h37; clear h37 ha hp
      refine Reg.Op1.guarded rfl rfl e37 (fun _ => Reg.Op1.plain rfl ?_) (fun h => absurd rfl h)
      go_wp2
      exact ⟨rfl, hK _ _ rfl (fun j k _ _ => Reg.Adds.refl _ _ _)⟩
    · intro val ac u hR hp ha K hK
      obtain ⟨w38, h38, r38⟩ := hp 16 (by decide); have e38 : (ac.tmps[38]?).getD undef = .pointer (some ⟨g, 0, none⟩) := (ha 38 (by decide)).trans h38; obtain ⟨w37, h37, r37⟩ := hp 15 (by decide); have e37 : (ac.tmps[37]?).getD undef = .bool false := (ha 37 (by decide)).trans h37; clear h38 h37 ha hp
      refine Reg.Op1.guarded rfl rfl e37 (fun _ => Reg.Op1.plain rfl ?_) (fun h => absurd rfl h)
      have hM := HW1.out.below ((Below.refl _ w1).drew.trans hR)
      go_wp2_with fail
      refine (storeMark_any hM.S).mono ?_
      rintro x9 w' ⟨rfl, hb9⟩
      go_wp2_with fail
      exact ⟨rfl, hK _ _ rfl (fun j k _ _ => hb9)⟩
    · intro val ac u hR hp ha K hK
      have e1 : (ac.tmps[1]?).getD undef = .pointer (some ⟨gd, 0, none⟩) := ha 1 (by decide); obtain ⟨w37, h37, r37⟩ := hp 15 (by decide); have e37 : (ac.tmps[37]?).getD undef = .bool false := (ha 37 (by decide)).trans h37; clear h37 ha hp
      refine Reg.Op1.guarded rfl rfl e37 (fun _ => Reg.Op1.plain rfl ?_) (fun h => absurd rfl h)
      go_wp2
      exact ⟨rfl, hK _ _ rfl (fun j k _ _ => Reg.Adds.refl _ _ _)⟩
    · intro val ac u hR hp ha K hK
      obtain ⟨w40, h40, r40⟩ := hp 18 (by decide); have e40 : (ac.tmps[40]?).getD undef = .pointer (some ⟨gd, 0, none⟩) := (ha 40 (by decide)).trans h40; obtain ⟨w37, h37, r37⟩ := hp 15 (by decide); have e37 : (ac.tmps[37]?).getD undef = .bool false := (ha 37 (by decide)).trans h37; clear h40 h37 ha hp
      refine Reg.Op1.guarded rfl rfl e37 (fun _ => Reg.Op1.plain rfl ?_) (fun h => absurd rfl h)
      go_wp2
      exact ⟨rfl, hK _ _ rfl (fun j k _ _ => Reg.Adds.refl _ _ _)⟩
    · intro val ac u hR hp ha K hK
      obtain ⟨w41, h41, r41⟩ := hp 19 (by decide); have e41 : (ac.tmps[41]?).getD undef = .pointer (some ⟨gd, 0, none⟩) := (ha 41 (by decide)).trans h41; obtain ⟨w37, h37, r37⟩ := hp 15 (by decide); have e37 : (ac.tmps[37]?).getD undef = .bool false := (ha 37 (by decide)).trans h37; clear h41 h37 ha hp
      refine Reg.Op1.guarded rfl rfl e37 (fun _ => Reg.Op1.plain rfl ?_) (fun h => absurd rfl h)
      go_wp2
      exact ⟨rfl, hK _ _ rfl (fun j k _ _ => Reg.Adds.refl _ _ _)⟩
    · intro val ac u hR hp ha K hK
      obtain ⟨w42, h42, r42⟩ := hp 20 (by decide); have e42 : (ac.tmps[42]?).getD undef = .pointer (some ⟨gd, 2, none⟩) := (ha 42 (by decide)).trans h42; obtain ⟨w37, h37, r37⟩ := hp 15 (by decide); have e37 : (ac.tmps[37]?).getD undef = .bool false := (ha 37 (by decide)).trans h37; clear h42 h37 ha hp
      refine Reg.Op1.guarded rfl rfl e37 (fun _ => Reg.Op1.plain rfl ?_) (fun h => absurd rfl h)
      have hBu := Mem.Bx.below (w := w1.drew) HW1.out.D.B hR HW1.out.D.B.lt
      refine Mem.load_aggG _ _ col_agg gd 2 (colCells mk) (by simp [Region.wanted]) (Reg.eval_of e42) (Sto.colCells_length _) (hBu.part 2 rfl) ?_
      exact ⟨rfl, hK _ _ rfl (fun j k _ _ => Reg.Adds.refl _ _ _)⟩
    · intro val ac u hR hp ha K hK
      obtain ⟨w39, h39, r39⟩ := hp 17 (by decide); have e39 : (ac.tmps[39]?).getD undef = Vec.C mk := (ha 39 (by decide)).trans h39; obtain ⟨w43, h43, r43⟩ := hp 21 (by decide); have e43 : (ac.tmps[43]?).getD undef = Vec.C mk := (ha 43 (by decide)).trans h43; obtain ⟨w37, h37, r37⟩ := hp 15 (by decide); have e37 : (ac.tmps[37]?).getD undef = .bool false := (ha 37 (by decide)).trans h37; clear h39 h43 h37 ha hp
      have z0 := neq_col mk mk
      rw [show eqCol mk mk = true from eqCol_iff.2 rfl] at z0
      refine Reg.Op1.guarded rfl rfl e37 (fun _ => Reg.Op1.plain rfl ?_) (fun h => absurd rfl h)
      go_wp2
      exact ⟨rfl, hK _ _ rfl (fun j k _ _ => Reg.Adds.refl _ _ _)⟩
    · intro val ac u hR hp ha K hK
      obtain ⟨w37, h37, r37⟩ := hp 15 (by decide); have e37 : (ac.tmps[37]?).getD undef = .bool false := (ha 37 (by decide)).trans h37; obtain ⟨w44, h44, r44⟩ := hp 22 (by decide); have e44 : (ac.tmps[44]?).getD undef = .bool false := (ha 44 (by decide)).trans h44; clear h37 h44 ha hp
      refine Reg.Op1.plain rfl ?_
      go_wp2
      exact ⟨rfl, hK _ _ rfl (fun j k _ _ => Reg.Adds.refl _ _ _)⟩
  intro val u hR H
  obtain ⟨_, hv, _⟩ := H 23 (by decide)
  have hv : val 23 = .bool false := hv
  have HBu : Hid (Below w1.heap.size w1 u) := (Below.refl _ w1).drew.trans hR
  simp only [List.map_cons, List.map_nil, Reg.lay, Act.put, List.setIfInBounds_toArray, List.set_cons_succ, List.set_cons_zero, Nat.reduceAdd, hv]
  clear hR H hv
  obtain ⟨w2, hw2⟩ : ∃ z, z = u := ⟨_, rfl⟩
  subst hw2
  have HW2 := Lib.hid (HW1.out.below HBu.out)
  have HK2 : Hid (Mem.Own w2 9 1 Ak ks.length ck (ks.map Value.string)) := HK1.out.below HBu.out (fun q hq => HK1.out.lt hq)
  have HB2 : Hid (Below w.heap.size w w2) := HB1.out.trans (HBu.out.mono HB1.out.size)
  have HF2 : Hid (∀ q, Mem.blk Ak = some q → w.heap.size ≤ q) := HKF.out.blk
  clear HW1 HK1 HB1 HBu HW2
  go_upto_region 5 with (at_builtin; refine Mem.wpList_app _ rfl (.tmp 46) (.tmp 47) _ rfl strs_elem Ak ks.length ck _ rfl (w2.heap.size + 1) (some ⟨w2.heap.size, 0, none⟩) 1 1 [.string nob] rfl ?_ (HK2.out.alloc _) (Mem.Rd.alloc_new _ _ _ _ (by simp)) rfl (by simp [Value.oneCell']) (by unfold maxLen; omega) (by omega); intro A4 c4 w4 hown hgr hat; have HO4 := Lib.hid hown; have HG4 := Lib.hid hgr; clear hown hgr hat)
  have HK4 : Hid (Mem.Keeps (fun q => w.heap.size ≤ q) w2 w4) := ((Mem.Keeps.refl (fun q => w.heap.size ≤ q) w2).alloc _).grown HG4.out (fun k hk _ => HF2.out k hk)
  have HB4 : Hid (Below w.heap.size w w4) := HB2.out.trans (HK4.out.below (fun q h => h) HB2.out.size)
  have HW4 := Lib.hid (HW0.out.below HB4.out)
  obtain ⟨b4, o4, hA4⟩ := HO4.out.form (by omega)
  subst hA4
  obtain ⟨keys, hkeys⟩ : ∃ keys, ks ++ [nob] = keys := ⟨_, rfl⟩
  obtain ⟨nk, hnk⟩ : ∃ nk, ks.length + 1 = nk := ⟨_, rfl⟩
  have HNK : Hid (keys.length = nk) := by show _ = _; rw [← hkeys, ← hnk]; simp
  have HO5 : Hid (Mem.Own w4 9 1 (some ⟨b4, o4, none⟩) nk c4 (keys.map Value.string)) := by
    show Mem.Own _ _ _ _ _ _ _
    rw [← hkeys, ← hnk, List.map_append]
    exact HO4.out
  rw [hkeys] at HOKS
  rw [hnk]
  have hnk3 : nk ≤ 301 := by omega
  clear HO4 HG4 HK4 HK2 HB2 HF2 HKF HW0 HKS hkeys hnk hkl3
  go_wp2
  go_loopw [8] (LkRel w4 nk) (fun t _ => nk - (intOf t).toNat)
  case atStart => exact ⟨⟨0, by omega, rfl, Below.refl _ _⟩⟩
  case round =>
    obtain ⟨j, hj, rfl, HBr⟩ := hrel.out
    clear hrel
    by_cases hlj : j < nk
    · obtain ⟨wa, hwa⟩ : ∃ z, z = wr := ⟨_, rfl⟩
      subst hwa
      have HWr := Lib.hid (HW4.out.below HBr.out)
      have HKr : Hid (Mem.Own wa 9 1 (some ⟨b4, o4, none⟩) nk c4 (keys.map Value.string)) := HO5.out.below HBr.out (fun k hk => HO5.out.lt hk)
      obtain ⟨bk, hbk0⟩ : ∃ bk, b4 = bk := ⟨_, rfl⟩
      obtain ⟨ok, hok0⟩ : ∃ ok, o4 = ok := ⟨_, rfl⟩
      obtain ⟨ck, hck0⟩ : ∃ ck, c4 = ck := ⟨_, rfl⟩
      rw [hbk0, hok0, hck0] at HKr ⊢
      obtain ⟨q, hq⟩ : ∃ q, keys[j]? = some q := ⟨_, List.getElem?_eq_getElem (by rw [HNK.out]; exact hlj)⟩
      have x1 : wa.cell? ⟨bk, ok + j, none⟩ = some (.string q) := HKr.out.cell (j := j) (u := .string q) (by rw [List.getElem?_map, hq]; rfl)
      have hbk : bk < wa.heap.size := HKr.out.lt rfl
      have HQK := Lib.hid (HOKS.out q (List.mem_of_getElem? hq))
      obtain ⟨le, hle⟩ : ∃ le, latest (states rs) q = le := ⟨_, rfl⟩
      have HLE : Hid (latest (states rs) q = le) := hle
      have HLG : Hid (greatest q col0 true L = le) := by show _ = _; rw [HT.out.latest]; exact hle
      clear hq hle HKr hbk0 hok0 hck0
      have HWA := Lib.hid (storeLatest_any HWr.out.S HQK.out HWr.out.G.hne)
      rw [HLE.out] at HWA
      go_upto_region 9 with (first | (go_at_call 21; refine HWA.out.mono ?_; rintro x wx ⟨rfl, hbx⟩) | ((with_reducible refine Mem.store_agg _ _ entry_agg wx.heap.size (entCells ent0) (entCells le.1) ?hx9 ?hy9 ?hb9 (entCells_length _) (ent_one le.1) ?_); ((case hx9 => exact rfl); (case hy9 => exact rfl); (case hb9 => exact Mem.Bx.new wx _ (entCells ent0).toArray rfl rfl); intro wb hbn hkn hsn)))
      have hbz : Below wx.heap.size wx wb := (hkn.newBox rfl).belowAll
      have HBwb : Hid (Below wa.heap.size wa wb) := hbx.trans (hbz.mono hbx.size)
      have HEwb : Hid (EBx wb wx.heap.size le.1) := hbn
      obtain ⟨ge, hge⟩ : ∃ ge, wx.heap.size = ge := ⟨_, rfl⟩
      rw [hge] at HEwb ⊢
      have hgwb : wa.heap.size ≤ ge := by rw [← hge]; exact hbx.size
      clear hbn hkn hsn hbz hbx hge HWA
      have HWb := Lib.hid (HWr.out.below HBwb.out)
      have HQC : Hid (bk < wb.heap.size ∧ wb.cell? ⟨bk, ok + j, none⟩ = some (.string q)) := ⟨Nat.lt_of_lt_of_le hbk HBwb.out.size, (HBwb.out.cell (p := ⟨bk, ok + j, none⟩) hbk).trans x1⟩
      clear x1 HWr hgwb
      refine Reg.wp_region_z (by kernel_rfl) 148 16 rfl rfl (by kernel_rfl) 90 91 (by decide) (14) (fun y => wb.heap.size ≤ y) (0) (fun _ => False) (0) (fun _ => False)
        (fun i f v u => match i with
          | 0 => v = .pointer (some ⟨gd, 0, none⟩)
          | 1 => v = .pointer (some ⟨gd, 0, none⟩)
          | 2 => v = .pointer (some ⟨gd, 1, none⟩)
          | 3 => v = .slice A L.length c
          | 4 => v = .slice (some ⟨bk, ok, none⟩) nk ck
          | 5 => v = .int .i64 j
          | 6 => v = .pointer (some ⟨bk, ok + j, none⟩)
          | 7 => v = .string q
          | 8 => v = Vec.C Vec.col0
          | 9 => v = .tuple #[Vec.E le.1, .bool le.2]
          | 10 => v = .tuple #[Vec.E le.1, .bool le.2]
          | 11 => v = Vec.E le.1
          | 12 => v = .bool le.2
          | 13 => ∃ s, v = .pointer (some ⟨s, 0, none⟩) ∧ wb.heap.size ≤ s ∧ EBx u s ent0
          | 14 => ∃ s, f 11 = .pointer (some ⟨s, 0, none⟩) ∧ wb.heap.size ≤ s ∧ EBx u s le.1
          | 15 => v = .bool le.2
          | _ => True) ?_ ?_
      · refine Reg.StepsZ.cons ?_ (Reg.StepsZ.cons ?_ (Reg.StepsZ.cons ?_ (Reg.StepsZ.cons ?_ (Reg.StepsZ.cons ?_ (Reg.StepsZ.cons ?_ (Reg.StepsZ.cons ?_ (Reg.StepsZ.cons ?_ (Reg.StepsZ.cons ?_ (Reg.StepsZ.cons ?_ (Reg.StepsZ.cons ?_ (Reg.StepsZ.cons ?_ (Reg.StepsZ.cons ?_ (Reg.StepsZ.cons ?_ (Reg.StepsZ.cons ?_ (Reg.StepsZ.cons ?_ (Reg.StepsZ.nil _))))))))))))))))
        · intro val ac u hR hp hpq ha K hK0
          have hK := fun v w' h1 h2 => hK0 v w' h1 h2 (fun j f v' h _ => by omega); have e1 : (ac.tmps[1]?).getD undef = .pointer (some ⟨gd, 0, none⟩) := ha 1 (by decide); clear ha hp
          refine Reg.Op1.plain rfl ?_
          go_wp2
          exact ⟨rfl, hK _ _ rfl (Reg.Wr.same _)⟩
        · intro val ac u hR hp hpq ha K hK0
          have hK := fun v w' h1 h2 => hK0 v w' h1 h2 (fun j f v' h _ => by omega); obtain ⟨w65, h65, r65⟩ := hp 0 (by decide); have e65 : (ac.tmps[65]?).getD undef = .pointer (some ⟨gd, 0, none⟩) := (ha 65 (by decide)).trans h65; clear h65 ha hp
          refine Reg.Op1.plain rfl ?_
          go_wp2
          exact ⟨rfl, hK _ _ rfl (Reg.Wr.same _)⟩
        · intro val ac u hR hp hpq ha K hK0
          have hK := fun v w' h1 h2 => hK0 v w' h1 h2 (fun j f v' h _ => by omega); obtain ⟨w66, h66, r66⟩ := hp 1 (by decide); have e66 : (ac.tmps[66]?).getD undef = .pointer (some ⟨gd, 0, none⟩) := (ha 66 (by decide)).trans h66; clear h66 ha hp
          refine Reg.Op1.plain rfl ?_
          go_wp2
          exact ⟨rfl, hK _ _ rfl (Reg.Wr.same _)⟩
        · intro val ac u hR hp hpq ha K hK0
          have hK := fun v w' h1 h2 => hK0 v w' h1 h2 (fun j f v' h _ => by omega); obtain ⟨w67, h67, r67⟩ := hp 2 (by decide); have e67 : (ac.tmps[67]?).getD undef = .pointer (some ⟨gd, 1, none⟩) := (ha 67 (by decide)).trans h67; clear h67 ha hp
          refine Reg.Op1.plain rfl ?_
          have hq : Mem.Keeps (fun y => wb.heap.size ≤ y ∨ False ∨ False) wb u := (Mem.Keeps.refl (fun y => wb.heap.size ≤ y ∨ False ∨ False) wb).drew.trans (Reg.Wr.all hR) (fun _ h _ => h)
          have z0 := (HWb.out.D.B.keeps hq (fun h => by have := HWb.out.D.B.lt; rcases h with h | h | h <;> first | omega | exact h)).cell (j := 1) rfl
          go_wp2
          exact ⟨rfl, hK _ _ rfl (Reg.Wr.same _)⟩
        · intro val ac u hR hp hpq ha K hK0
          have hK := fun v w' h1 h2 => hK0 v w' h1 h2 (fun j f v' h _ => by omega); have e7 : (ac.tmps[7]?).getD undef = .slice (some ⟨bk, ok, none⟩) nk ck := ha 7 (by decide); clear ha hp
          refine Reg.Op1.plain rfl ?_
          go_wp2
          exact ⟨rfl, hK _ _ rfl (Reg.Wr.same _)⟩
        · intro val ac u hR hp hpq ha K hK0
          have hK := fun v w' h1 h2 => hK0 v w' h1 h2 (fun j f v' h _ => by omega); have e8 : (ac.tmps[8]?).getD undef = .int .i64 j := ha 8 (by decide); clear ha hp
          refine Reg.Op1.plain rfl ?_
          go_wp2
          exact ⟨rfl, hK _ _ rfl (Reg.Wr.same _)⟩
        · intro val ac u hR hp hpq ha K hK0
          have hK := fun v w' h1 h2 => hK0 v w' h1 h2 (fun j f v' h _ => by omega); obtain ⟨w69, h69, r69⟩ := hp 4 (by decide); have e69 : (ac.tmps[69]?).getD undef = .slice (some ⟨bk, ok, none⟩) nk ck := (ha 69 (by decide)).trans h69; obtain ⟨w70, h70, r70⟩ := hp 5 (by decide); have e70 : (ac.tmps[70]?).getD undef = .int .i64 j := (ha 70 (by decide)).trans h70; clear h69 h70 ha hp
          refine Reg.Op1.plain rfl ?_
          go_wp2
          exact ⟨rfl, hK _ _ rfl (Reg.Wr.same _)⟩
        · intro val ac u hR hp hpq ha K hK0
          have hK := fun v w' h1 h2 => hK0 v w' h1 h2 (fun j f v' h _ => by omega); obtain ⟨w71, h71, r71⟩ := hp 6 (by decide); have e71 : (ac.tmps[71]?).getD undef = .pointer (some ⟨bk, ok + j, none⟩) := (ha 71 (by decide)).trans h71; clear h71 ha hp
          refine Reg.Op1.plain rfl ?_
          have hq : Mem.Keeps (fun y => wb.heap.size ≤ y ∨ False ∨ False) wb u := (Mem.Keeps.refl (fun y => wb.heap.size ≤ y ∨ False ∨ False) wb).drew.trans (Reg.Wr.all hR) (fun _ h _ => h)
          have hne : ∀ y, y < wb.heap.size → ¬ (wb.heap.size ≤ y ∨ False ∨ False) := fun y hy h => by rcases h with h | h | h <;> first | omega | exact h
          have z0 := (hq.cell (p := ⟨bk, ok + j, none⟩) (HQC.out.1) (hne bk HQC.out.1)).trans HQC.out.2
          go_wp2
          exact ⟨rfl, hK _ _ rfl (Reg.Wr.same _)⟩
        · intro val ac u hR hp hpq ha K hK0
          have hK := fun v w' h1 h2 => hK0 v w' h1 h2 (fun j f v' h _ => by omega); clear ha hp
          refine Reg.Op1.plain rfl ?_
          go_wp2
          exact ⟨rfl, hK _ _ rfl (Reg.Wr.same _)⟩
        · intro val ac u hR hp hpq ha K hK0
          have hK := fun v w' h1 h2 => hK0 v w' h1 h2 (fun j f v' h _ => by omega); obtain ⟨w68, h68, r68⟩ := hp 3 (by decide); have e68 : (ac.tmps[68]?).getD undef = .slice A L.length c := (ha 68 (by decide)).trans h68; obtain ⟨w72, h72, r72⟩ := hp 7 (by decide); have e72 : (ac.tmps[72]?).getD undef = .string q := (ha 72 (by decide)).trans h72; obtain ⟨w73, h73, r73⟩ := hp 8 (by decide); have e73 : (ac.tmps[73]?).getD undef = Vec.C Vec.col0 := (ha 73 (by decide)).trans h73; clear h68 h72 h73 ha hp
          refine Reg.Op1.plain rfl ?_
          have hq : Mem.Keeps (fun _ => False ∨ False) wb u := (Mem.Keeps.refl (fun _ => False ∨ False) wb).drew.trans (Reg.Wr.not1 hR (by decide +kernel)) (fun _ h _ => h)
          have hO := (HWb.out.D.keeps hq (fun _ _ h => h.elim id id)).O
          go_wp2_with fail
          refine (refGreatest_all q col0 A c L u hO.rd (by unfold maxLen; omega) HDC.out true).mono ?_
          rintro x9 w' ⟨rfl, hbw9⟩
          rw [HLG.out]
          go_wp2_with fail
          exact ⟨rfl, hK _ _ rfl (Reg.Wr.below hbw9)⟩
        · intro val ac u hR hp hpq ha K hK0
          have hK := fun v w' h1 h2 => hK0 v w' h1 h2 (fun j f v' h _ => by omega); obtain ⟨w74, h74, r74⟩ := hp 9 (by decide); have e74 : (ac.tmps[74]?).getD undef = .tuple #[Vec.E le.1, .bool le.2] := (ha 74 (by decide)).trans h74; clear h74 ha hp
          refine Reg.Op1.plain rfl ?_
          go_wp2
          exact ⟨rfl, hK _ _ rfl (Reg.Wr.same _)⟩
        · intro val ac u hR hp hpq ha K hK0
          have hK := fun v w' h1 h2 => hK0 v w' h1 h2 (fun j f v' h _ => by omega); obtain ⟨w64, h64, r64⟩ := hp 10 (by decide); have e64 : (ac.tmps[64]?).getD undef = .tuple #[Vec.E le.1, .bool le.2] := (ha 64 (by decide)).trans h64; clear h64 ha hp
          refine Reg.Op1.plain rfl ?_
          go_wp2
          exact ⟨rfl, hK _ _ rfl (Reg.Wr.same _)⟩
        · intro val ac u hR hp hpq ha K hK0
          have hK := fun v w' h1 h2 => hK0 v w' h1 h2 (fun j f v' h _ => by omega); obtain ⟨w64, h64, r64⟩ := hp 10 (by decide); have e64 : (ac.tmps[64]?).getD undef = .tuple #[Vec.E le.1, .bool le.2] := (ha 64 (by decide)).trans h64; clear h64 ha hp
          refine Reg.Op1.plain rfl ?_
          go_wp2
          exact ⟨rfl, hK _ _ rfl (Reg.Wr.same _)⟩
        · intro val ac u hR hp hpq ha K hK0
          have hK := fun v w' h1 h2 => hK0 v w' h1 h2 (fun j f v' h _ => by omega); clear ha hp
          refine Reg.Op1.plain rfl ?_
          have hbu : wb.heap.size ≤ u.heap.size := (Reg.Wr.all hR).size
          go_wp2
          exact ⟨rfl, hK _ _ ⟨u.heap.size, rfl, hbu, Mem.Bx.new u 40 (entCells ent0).toArray rfl rfl⟩ (Reg.Wr.quiet ((Mem.Keeps.refl _ u).alloc _))⟩
        · intro val ac u hR hp hpq ha K hK0
          have hK := fun v w' h1 h2 => hK0 v w' h1 h2 (fun j f v' h _ => by omega); obtain ⟨w11, h11, r11⟩ := hp 13 (by decide); have e11 : (ac.tmps[11]?).getD undef = val 13 := ha 11 (by decide); obtain ⟨w75, h75, r75⟩ := hp 11 (by decide); have e75 : (ac.tmps[75]?).getD undef = Vec.E le.1 := (ha 75 (by decide)).trans h75; clear h75 ha hp
          refine Reg.Op1.plain rfl ?_
          obtain ⟨s, hv, hs, hbx⟩ := h11
          have hv7 := hv
          rw [hv] at e11
          have hbx' : EBx u s ent0 := hbx.keeps (Reg.Wr.not1 r11 (by decide +kernel)) (fun h => h.elim id id)
          refine Mem.store_agg _ _ entry_agg s (entCells ent0) (entCells le.1) (Reg.eval_of e11) (Reg.eval_of e75) hbx' (entCells_length _) (ent_one _) ?_
          intro w' hb hk hs'
          exact ⟨rfl, hK undef _ ⟨s, hv7, hs, hb⟩ (Reg.Wr.does1 (hk.mono (fun i h _ => by show wb.heap.size ≤ i; omega)))⟩
        · intro val ac u hR hp hpq ha K hK0
          have hK := fun v w' h1 h2 => hK0 v w' h1 h2 (fun j f v' h _ => by omega); obtain ⟨w76, h76, r76⟩ := hp 12 (by decide); have e76 : (ac.tmps[76]?).getD undef = .bool le.2 := (ha 76 (by decide)).trans h76; clear h76 ha hp
          refine Reg.Op1.plain rfl ?_
          go_wp2
          exact ⟨rfl, hK _ _ rfl (Reg.Wr.same _)⟩
      intro val u hR H hZ
      obtain ⟨_, hva, _⟩ := H 15 (by decide)
      have hva : val 15 = .bool le.2 := hva
      obtain ⟨wA, ⟨s, hv7, hs, hb⟩, rA⟩ := H 14 (by decide)
      have hv7 : val 13 = .pointer (some ⟨s, 0, none⟩) := hv7
      have hq : Mem.Keeps (fun y => wb.heap.size ≤ y ∨ False ∨ False) wb u := (Mem.Keeps.refl (fun y => wb.heap.size ≤ y ∨ False ∨ False) wb).drew.trans (Reg.Wr.all hR) (fun _ h _ => h)
      have HBwc : Hid (Below wb.heap.size wb u) := hq.below (fun y h => by rcases h with h | h | h <;> first | exact h | exact h.elim) (Nat.le_refl _)
      have HEwc : Hid (EBx u s le.1) := hb.keeps (Reg.Wr.not1 rA (by decide +kernel)) (fun h => h.elim id id)
      simp only [List.map_cons, List.map_nil, Reg.lay, Act.put, List.setIfInBounds_toArray, List.set_cons_succ, List.set_cons_zero, Nat.reduceAdd, hva, hv7]
      clear hR H hZ hq hb rA hv7 hva hs
      obtain ⟨wc, hwc⟩ : ∃ z, z = u := ⟨_, rfl⟩
      subst hwc
      obtain ⟨gf, hgf⟩ : ∃ z, z = s := ⟨_, rfl⟩
      subst hgf
      have HWc := Lib.hid (HWb.out.below HBwc.out)
      have HEb : Hid (EBx wc ge le.1) := HEwb.out.below HBwc.out HEwb.out.lt
      have HBc : Hid (Below wa.heap.size wa wc) := HBwb.out.trans (HBwc.out.mono HBwb.out.size)
      have HQC2 : Hid (bk < wc.heap.size ∧ wc.cell? ⟨bk, ok + j, none⟩ = some (.string q)) := ⟨Nat.lt_of_lt_of_le HQC.out.1 HBwc.out.size, (HBwc.out.cell (p := ⟨bk, ok + j, none⟩) HQC.out.1).trans HQC.out.2⟩
      obtain ⟨V, hV⟩ : ∃ V, vers (states rs) q = V := ⟨_, rfl⟩
      have HV := Lib.hid hV
      have hVl : V.length ≤ 300 := by
        have h1 := vers_len (states rs) q
        have h2 := HLN.out
        rw [hV] at h1
        omega
      clear HWb HEwb HBwb HBwc HQC hV hbk HLG HLE
      have HQC := HQC2
      clear HQC2
      go_upto_region 10 with fail
      refine Reg.wp_region_rel (by kernel_rfl) 148 24 rfl rfl (by kernel_rfl) (Reg.Adds) (Reg.Adds.refl) (Reg.Adds.trans)
        (fun i v u => match i with
          | 0 => v = .agg (entCells le.1).toArray
          | 1 => v = .agg (entCells le.1).toArray
          | 2 => v = .bool false
          | 3 => v = .bool false
          | 4 => v = .bool le.2
          | 5 => v = .bool le.2
          | 6 => v = .bool false
          | 7 => v = .bool false
          | 8 => v = .bool false
          | 9 => v = .pointer (some ⟨g, 0, none⟩)
          | 10 => v = .slice (some ⟨bk, ok, none⟩) nk ck
          | 11 => v = .int .i64 j
          | 12 => v = .pointer (some ⟨bk, ok + j, none⟩)
          | 13 => v = .string q
          | 14 => ∃ A' c', v = .slice A' V.length c' ∧ EOwn u A' c' V
          | 15 => v = .pointer (some ⟨gd, 0, none⟩)
          | 16 => v = .slice (some ⟨bk, ok, none⟩) nk ck
          | 17 => v = .int .i64 j
          | 18 => v = .pointer (some ⟨bk, ok + j, none⟩)
          | 19 => v = .string q
          | 20 => ∃ A' c', v = .slice A' V.length c' ∧ EOwn u A' c' V
          | 21 => v = .bool true
          | 22 => v = .bool false
          | 23 => v = .bool false
          | _ => True) ?_ ?_
      · refine Reg.Steps.cons ?_ (Reg.Steps.cons ?_ (Reg.Steps.cons ?_ (Reg.Steps.cons ?_ (Reg.Steps.cons ?_ (Reg.Steps.cons ?_ (Reg.Steps.cons ?_ (Reg.Steps.cons ?_ (Reg.Steps.cons ?_ (Reg.Steps.cons ?_ (Reg.Steps.cons ?_ (Reg.Steps.cons ?_ (Reg.Steps.cons ?_ (Reg.Steps.cons ?_ (Reg.Steps.cons ?_ (Reg.Steps.cons ?_ (Reg.Steps.cons ?_ (Reg.Steps.cons ?_ (Reg.Steps.cons ?_ (Reg.Steps.cons ?_ (Reg.Steps.cons ?_ (Reg.Steps.cons ?_ (Reg.Steps.cons ?_ (Reg.Steps.cons ?_ (Reg.Steps.nil _))))))))))))))))))))))))
        · intro val ac u hR hp ha K hK
          have e9 : (ac.tmps[9]?).getD undef = .pointer (some ⟨ge, 0, none⟩) := ha 9 (by decide); clear ha hp
          refine Reg.Op1.plain rfl ?_
          have hEu : EBx u ge le.1 := Mem.Bx.below (w := wc.drew) HEb.out hR HEb.out.lt
          refine Mem.load_agg _ _ entry_agg ge 0 (entCells le.1) (Reg.eval_of e9) (entCells_length _) (fun j u' hu => by rw [Nat.zero_add]; exact hEu.cell hu) ?_
          exact ⟨rfl, hK _ _ rfl (fun j k _ _ => Reg.Adds.refl _ _ _)⟩
        · intro val ac u hR hp ha K hK
          have e11 : (ac.tmps[11]?).getD undef = .pointer (some ⟨gf, 0, none⟩) := ha 11 (by decide); clear ha hp
          refine Reg.Op1.plain rfl ?_
          have hEu : EBx u gf le.1 := Mem.Bx.below (w := wc.drew) HEwc.out hR HEwc.out.lt
          refine Mem.load_agg _ _ entry_agg gf 0 (entCells le.1) (Reg.eval_of e11) (entCells_length _) (fun j u' hu => by rw [Nat.zero_add]; exact hEu.cell hu) ?_
          exact ⟨rfl, hK _ _ rfl (fun j k _ _ => Reg.Adds.refl _ _ _)⟩
        · intro val ac u hR hp ha K hK
          obtain ⟨w77, h77, r77⟩ := hp 0 (by decide); have e77 : (ac.tmps[77]?).getD undef = .agg (entCells le.1).toArray := (ha 77 (by decide)).trans h77; obtain ⟨w78, h78, r78⟩ := hp 1 (by decide); have e78 : (ac.tmps[78]?).getD undef = .agg (entCells le.1).toArray := (ha 78 (by decide)).trans h78; clear h77 h78 ha hp
          have e1 : ∀ W, (binOp .neq 40 (.agg (entCells le.1).toArray) (.agg (entCells le.1).toArray)).run Try.prog W = .ok (.bool false) W := fun W => by rw [neq_ent, eqEnt_iff.2 rfl]; rfl
          refine Reg.Op1.plain rfl ?_
          go_wp2
          exact ⟨rfl, hK _ _ rfl (fun j k _ _ => Reg.Adds.refl _ _ _)⟩
        · intro val ac u hR hp ha K hK
          obtain ⟨w79, h79, r79⟩ := hp 2 (by decide); have e79 : (ac.tmps[79]?).getD undef = .bool false := (ha 79 (by decide)).trans h79; clear h79 ha hp
          refine Reg.Op1.plain rfl ?_
          go_wp2
          exact ⟨rfl, hK _ _ rfl (fun j k _ _ => Reg.Adds.refl _ _ _)⟩
        · intro val ac u hR hp ha K hK
          have e10 : (ac.tmps[10]?).getD undef = .bool le.2 := ha 10 (by decide); obtain ⟨w80, h80, r80⟩ := hp 3 (by decide); have e80 : (ac.tmps[80]?).getD undef = .bool false := (ha 80 (by decide)).trans h80; clear h80 ha hp
          refine Reg.Op1.guarded rfl rfl e80 (fun _ => Reg.Op1.plain rfl ?_) (fun h => absurd rfl h)
          go_wp2
          exact ⟨rfl, hK _ _ rfl (fun j k _ _ => Reg.Adds.refl _ _ _)⟩
        · intro val ac u hR hp ha K hK
          have e12 : (ac.tmps[12]?).getD undef = .bool le.2 := ha 12 (by decide); obtain ⟨w80, h80, r80⟩ := hp 3 (by decide); have e80 : (ac.tmps[80]?).getD undef = .bool false := (ha 80 (by decide)).trans h80; clear h80 ha hp
          refine Reg.Op1.guarded rfl rfl e80 (fun _ => Reg.Op1.plain rfl ?_) (fun h => absurd rfl h)
          go_wp2
          exact ⟨rfl, hK _ _ rfl (fun j k _ _ => Reg.Adds.refl _ _ _)⟩
        · intro val ac u hR hp ha K hK
          obtain ⟨w81, h81, r81⟩ := hp 4 (by decide); have e81 : (ac.tmps[81]?).getD undef = .bool le.2 := (ha 81 (by decide)).trans h81; obtain ⟨w82, h82, r82⟩ := hp 5 (by decide); have e82 : (ac.tmps[82]?).getD undef = .bool le.2 := (ha 82 (by decide)).trans h82; obtain ⟨w80, h80, r80⟩ := hp 3 (by decide); have e80 : (ac.tmps[80]?).getD undef = .bool false := (ha 80 (by decide)).trans h80; clear h81 h82 h80 ha hp
          have b1 : (le.2 != le.2) = false := by cases le.2 <;> rfl
          refine Reg.Op1.guarded rfl rfl e80 (fun _ => Reg.Op1.plain rfl ?_) (fun h => absurd rfl h)
          go_wp2
          exact ⟨rfl, hK _ _ rfl (fun j k _ _ => Reg.Adds.refl _ _ _)⟩
        · intro val ac u hR hp ha K hK
          obtain ⟨w80, h80, r80⟩ := hp 3 (by decide); have e80 : (ac.tmps[80]?).getD undef = .bool false := (ha 80 (by decide)).trans h80; obtain ⟨w83, h83, r83⟩ := hp 6 (by decide); have e83 : (ac.tmps[83]?).getD undef = .bool false := (ha 83 (by decide)).trans h83; clear h80 h83 ha hp
          refine Reg.Op1.plain rfl ?_
          go_wp2
          exact ⟨rfl, hK _ _ rfl (fun j k _ _ => Reg.Adds.refl _ _ _)⟩
        · intro val ac u hR hp ha K hK
          obtain ⟨w84, h84, r84⟩ := hp 7 (by decide); have e84 : (ac.tmps[84]?).getD undef = .bool false := (ha 84 (by decide)).trans h84; clear h84 ha hp
          refine Reg.Op1.plain rfl ?_
          go_wp2
          exact ⟨rfl, hK _ _ rfl (fun j k _ _ => Reg.Adds.refl _ _ _)⟩
        · intro val ac u hR hp ha K hK
          have e0 : (ac.tmps[0]?).getD undef = .pointer (some ⟨g, 0, none⟩) := ha 0 (by decide); obtain ⟨w85, h85, r85⟩ := hp 8 (by decide); have e85 : (ac.tmps[85]?).getD undef = .bool false := (ha 85 (by decide)).trans h85; clear h85 ha hp
          refine Reg.Op1.guarded rfl rfl e85 (fun _ => Reg.Op1.plain rfl ?_) (fun h => absurd rfl h)
          go_wp2
          exact ⟨rfl, hK _ _ rfl (fun j k _ _ => Reg.Adds.refl _ _ _)⟩
        · intro val ac u hR hp ha K hK
          have e7 : (ac.tmps[7]?).getD undef = .slice (some ⟨bk, ok, none⟩) nk ck := ha 7 (by decide); obtain ⟨w85, h85, r85⟩ := hp 8 (by decide); have e85 : (ac.tmps[85]?).getD undef = .bool false := (ha 85 (by decide)).trans h85; clear h85 ha hp
          refine Reg.Op1.guarded rfl rfl e85 (fun _ => Reg.Op1.plain rfl ?_) (fun h => absurd rfl h)
          go_wp2
          exact ⟨rfl, hK _ _ rfl (fun j k _ _ => Reg.Adds.refl _ _ _)⟩
        · intro val ac u hR hp ha K hK
          have e8 : (ac.tmps[8]?).getD undef = .int .i64 j := ha 8 (by decide); obtain ⟨w85, h85, r85⟩ := hp 8 (by decide); have e85 : (ac.tmps[85]?).getD undef = .bool false := (ha 85 (by decide)).trans h85; clear h85 ha hp
          refine Reg.Op1.guarded rfl rfl e85 (fun _ => Reg.Op1.plain rfl ?_) (fun h => absurd rfl h)
          go_wp2
          exact ⟨rfl, hK _ _ rfl (fun j k _ _ => Reg.Adds.refl _ _ _)⟩
        · intro val ac u hR hp ha K hK
          obtain ⟨w87, h87, r87⟩ := hp 10 (by decide); have e87 : (ac.tmps[87]?).getD undef = .slice (some ⟨bk, ok, none⟩) nk ck := (ha 87 (by decide)).trans h87; obtain ⟨w88, h88, r88⟩ := hp 11 (by decide); have e88 : (ac.tmps[88]?).getD undef = .int .i64 j := (ha 88 (by decide)).trans h88; obtain ⟨w85, h85, r85⟩ := hp 8 (by decide); have e85 : (ac.tmps[85]?).getD undef = .bool false := (ha 85 (by decide)).trans h85; clear h87 h88 h85 ha hp
          refine Reg.Op1.guarded rfl rfl e85 (fun _ => Reg.Op1.plain rfl ?_) (fun h => absurd rfl h)
          go_wp2
          exact ⟨rfl, hK _ _ rfl (fun j k _ _ => Reg.Adds.refl _ _ _)⟩
        · intro val ac u hR hp ha K hK
          obtain ⟨w89, h89, r89⟩ := hp 12 (by decide); have e89 : (ac.tmps[89]?).getD undef = .pointer (some ⟨bk, ok + j, none⟩) := (ha 89 (by decide)).trans h89; obtain ⟨w85, h85, r85⟩ := hp 8 (by decide); have e85 : (ac.tmps[85]?).getD undef = .bool false := (ha 85 (by decide)).trans h85; clear h89 h85 ha hp
          refine Reg.Op1.guarded rfl rfl e85 (fun _ => Reg.Op1.plain rfl ?_) (fun h => absurd rfl h)
          have z0 := (hR.cell (p := ⟨bk, ok + j, none⟩) HQC.out.1).trans HQC.out.2
          go_wp2
          exact ⟨rfl, hK _ _ rfl (fun j k _ _ => Reg.Adds.refl _ _ _)⟩
        · intro val ac u hR hp ha K hK
          obtain ⟨w86, h86, r86⟩ := hp 9 (by decide); have e86 : (ac.tmps[86]?).getD undef = .pointer (some ⟨g, 0, none⟩) := (ha 86 (by decide)).trans h86; obtain ⟨w90, h90, r90⟩ := hp 13 (by decide); have e90 : (ac.tmps[90]?).getD undef = .string q := (ha 90 (by decide)).trans h90; obtain ⟨w85, h85, r85⟩ := hp 8 (by decide); have e85 : (ac.tmps[85]?).getD undef = .bool false := (ha 85 (by decide)).trans h85; clear h86 h90 h85 ha hp
          refine Reg.Op1.guarded rfl rfl e85 (fun _ => Reg.Op1.plain rfl ?_) (fun h => absurd rfl h)
          have hM := HWc.out.below ((Below.refl _ wc).drew.trans hR)
          go_wp2_with fail
          refine (vers_at hM.S HQK.out HES.out HV.out).mono ?_
          rintro x9 w' ⟨A', c', rfl, hO9, hF9, hb9⟩
          go_wp2_with fail
          exact ⟨rfl, hK _ _ ⟨A', c', rfl, hO9⟩ (fun j k _ _ => hb9)⟩
        · intro val ac u hR hp ha K hK
          have e1 : (ac.tmps[1]?).getD undef = .pointer (some ⟨gd, 0, none⟩) := ha 1 (by decide); obtain ⟨w85, h85, r85⟩ := hp 8 (by decide); have e85 : (ac.tmps[85]?).getD undef = .bool false := (ha 85 (by decide)).trans h85; clear h85 ha hp
          refine Reg.Op1.guarded rfl rfl e85 (fun _ => Reg.Op1.plain rfl ?_) (fun h => absurd rfl h)
          go_wp2
          exact ⟨rfl, hK _ _ rfl (fun j k _ _ => Reg.Adds.refl _ _ _)⟩
        · intro val ac u hR hp ha K hK
          have e7 : (ac.tmps[7]?).getD undef = .slice (some ⟨bk, ok, none⟩) nk ck := ha 7 (by decide); obtain ⟨w85, h85, r85⟩ := hp 8 (by decide); have e85 : (ac.tmps[85]?).getD undef = .bool false := (ha 85 (by decide)).trans h85; clear h85 ha hp
          refine Reg.Op1.guarded rfl rfl e85 (fun _ => Reg.Op1.plain rfl ?_) (fun h => absurd rfl h)
          go_wp2
          exact ⟨rfl, hK _ _ rfl (fun j k _ _ => Reg.Adds.refl _ _ _)⟩
        · intro val ac u hR hp ha K hK
          have e8 : (ac.tmps[8]?).getD undef = .int .i64 j := ha 8 (by decide); obtain ⟨w85, h85, r85⟩ := hp 8 (by decide); have e85 : (ac.tmps[85]?).getD undef = .bool false := (ha 85 (by decide)).trans h85; clear h85 ha hp
          refine Reg.Op1.guarded rfl rfl e85 (fun _ => Reg.Op1.plain rfl ?_) (fun h => absurd rfl h)
          go_wp2
          exact ⟨rfl, hK _ _ rfl (fun j k _ _ => Reg.Adds.refl _ _ _)⟩
        · intro val ac u hR hp ha K hK
          obtain ⟨w93, h93, r93⟩ := hp 16 (by decide); have e93 : (ac.tmps[93]?).getD undef = .slice (some ⟨bk, ok, none⟩) nk ck := (ha 93 (by decide)).trans h93; obtain ⟨w94, h94, r94⟩ := hp 17 (by decide); have e94 : (ac.tmps[94]?).getD undef = .int .i64 j := (ha 94 (by decide)).trans h94; obtain ⟨w85, h85, r85⟩ := hp 8 (by decide); have e85 : (ac.tmps[85]?).getD undef = .bool false := (ha 85 (by decide)).trans h85; clear h93 h94 h85 ha hp
          refine Reg.Op1.guarded rfl rfl e85 (fun _ => Reg.Op1.plain rfl ?_) (fun h => absurd rfl h)
          go_wp2
          exact ⟨rfl, hK _ _ rfl (fun j k _ _ => Reg.Adds.refl _ _ _)⟩
        · intro val ac u hR hp ha K hK
          obtain ⟨w95, h95, r95⟩ := hp 18 (by decide); have e95 : (ac.tmps[95]?).getD undef = .pointer (some ⟨bk, ok + j, none⟩) := (ha 95 (by decide)).trans h95; obtain ⟨w85, h85, r85⟩ := hp 8 (by decide); have e85 : (ac.tmps[85]?).getD undef = .bool false := (ha 85 (by decide)).trans h85; clear h95 h85 ha hp
          refine Reg.Op1.guarded rfl rfl e85 (fun _ => Reg.Op1.plain rfl ?_) (fun h => absurd rfl h)
          have z0 := (hR.cell (p := ⟨bk, ok + j, none⟩) HQC.out.1).trans HQC.out.2
          go_wp2
          exact ⟨rfl, hK _ _ rfl (fun j k _ _ => Reg.Adds.refl _ _ _)⟩
        · intro val ac u hR hp ha K hK
          obtain ⟨w92, h92, r92⟩ := hp 15 (by decide); have e92 : (ac.tmps[92]?).getD undef = .pointer (some ⟨gd, 0, none⟩) := (ha 92 (by decide)).trans h92; obtain ⟨w96, h96, r96⟩ := hp 19 (by decide); have e96 : (ac.tmps[96]?).getD undef = .string q := (ha 96 (by decide)).trans h96; obtain ⟨w85, h85, r85⟩ := hp 8 (by decide); have e85 : (ac.tmps[85]?).getD undef = .bool false := (ha 85 (by decide)).trans h85; clear h92 h96 h85 ha hp
          refine Reg.Op1.guarded rfl rfl e85 (fun _ => Reg.Op1.plain rfl ?_) (fun h => absurd rfl h)
          have hM := HWc.out.below ((Below.refl _ wc).drew.trans hR)
          go_wp2_with fail
          refine (refVersions_any rng mk gd A c L q u hM.D (by omega) HAP.out).mono ?_
          rintro x9 w' ⟨A', c', ys, rfl, hp9, hs9, hO9, hF9, hb9⟩
          have hys : ys = V := by rw [← HV.out]; exact HT.out.vers hp9 hs9
          subst hys
          go_wp2_with fail
          exact ⟨rfl, hK _ _ ⟨A', c', rfl, hO9⟩ (fun j k _ _ => hb9)⟩
        · intro val ac u hR hp ha K hK
          obtain ⟨w91, h91, r91⟩ := hp 14 (by decide); have e91 : (ac.tmps[91]?).getD undef = val 14 := ha 91 (by decide); obtain ⟨w97, h97, r97⟩ := hp 20 (by decide); have e97 : (ac.tmps[97]?).getD undef = val 20 := ha 97 (by decide); obtain ⟨w85, h85, r85⟩ := hp 8 (by decide); have e85 : (ac.tmps[85]?).getD undef = .bool false := (ha 85 (by decide)).trans h85; clear h85 ha hp
          refine Reg.Op1.guarded rfl rfl e85 (fun _ => Reg.Op1.plain rfl ?_) (fun h => absurd rfl h)
          obtain ⟨A1, c1, hv1, hO1⟩ := h91
          obtain ⟨A2, c2, hv2, hO2⟩ := h97
          rw [hv1] at e91
          rw [hv2] at e97
          have hO1' := hO1.below r91 (fun q hq => hO1.lt hq)
          have hO2' := hO2.below r97 (fun q hq => hO2.lt hq)
          go_wp2_with fail
          refine (entries_same A1 A2 c1 c2 V u hO1'.rd hO2'.rd (by unfold maxLen; omega)).mono ?_
          rintro x9 w' ⟨rfl, hb9⟩
          go_wp2_with fail
          exact ⟨rfl, hK _ _ rfl (fun j k _ _ => hb9)⟩
        · intro val ac u hR hp ha K hK
          obtain ⟨w98, h98, r98⟩ := hp 21 (by decide); have e98 : (ac.tmps[98]?).getD undef = .bool true := (ha 98 (by decide)).trans h98; obtain ⟨w85, h85, r85⟩ := hp 8 (by decide); have e85 : (ac.tmps[85]?).getD undef = .bool false := (ha 85 (by decide)).trans h85; clear h98 h85 ha hp
          refine Reg.Op1.guarded rfl rfl e85 (fun _ => Reg.Op1.plain rfl ?_) (fun h => absurd rfl h)
          go_wp2
          exact ⟨rfl, hK _ _ rfl (fun j k _ _ => Reg.Adds.refl _ _ _)⟩
        · intro val ac u hR hp ha K hK
          obtain ⟨w85, h85, r85⟩ := hp 8 (by decide); have e85 : (ac.tmps[85]?).getD undef = .bool false := (ha 85 (by decide)).trans h85; obtain ⟨w99, h99, r99⟩ := hp 22 (by decide); have e99 : (ac.tmps[99]?).getD undef = .bool false := (ha 99 (by decide)).trans h99; clear h85 h99 ha hp
          refine Reg.Op1.plain rfl ?_
          go_wp2
          exact ⟨rfl, hK _ _ rfl (fun j k _ _ => Reg.Adds.refl _ _ _)⟩
      intro val u hR H
      obtain ⟨_, hv, _⟩ := H 23 (by decide)
      have hv : val 23 = .bool false := hv
      have HBu : Hid (Below wc.heap.size wc u) := (Below.refl _ wc).drew.trans hR
      simp only [List.map_cons, List.map_nil, Reg.lay, Act.put, List.setIfInBounds_toArray, List.set_cons_succ, List.set_cons_zero, Nat.reduceAdd, hv]
      clear hR H hv
      obtain ⟨wd, hwd⟩ : ∃ z, z = u := ⟨_, rfl⟩
      subst hwd
      have HWd := Lib.hid (HWc.out.below HBu.out)
      have HBd : Hid (Below wa.heap.size wa wd) := HBc.out.trans (HBu.out.mono HBc.out.size)
      have HQD : Hid (bk < wd.heap.size ∧ wd.cell? ⟨bk, ok + j, none⟩ = some (.string q)) := ⟨Nat.lt_of_lt_of_le HQC.out.1 HBu.out.size, (HBu.out.cell (p := ⟨bk, ok + j, none⟩) HQC.out.1).trans HQC.out.2⟩
      clear HWc HBc HQC HBu HEb HEwc HV hVl
      go_wp2
      go_loopw [13] (LkRel wd cs.length) (fun t _ => cs.length - (intOf t).toNat)
      case atStart => exact ⟨⟨0, by omega, rfl, Below.refl _ _⟩⟩
      case round =>
        obtain ⟨m, hm, rfl, HBm⟩ := hrel.out
        clear hrel
        by_cases hlm : m < cs.length
        · obtain ⟨we, hwe⟩ : ∃ z, z = wr := ⟨_, rfl⟩
          subst hwe
          have HWe := Lib.hid (HWd.out.below HBm.out)
          obtain ⟨bc, oc, hAq, hbc, hcell⟩ := Mem.Rd.elem colCells_length HWe.out.R hlm (by omega)
          subst hAq
          obtain ⟨y, hy⟩ : ∃ y, cs[m] = y := ⟨_, rfl⟩
          rw [hy] at hcell
          have HCC : Hid (bc < we.heap.size ∧ ∀ i u, (colCells y)[i]? = some u → we.cell? ⟨bc, oc + m * 3 + i, none⟩ = some u) := ⟨hbc, fun i u hu => by rw [Nat.add_assoc]; exact hcell i u hu⟩
          have HQC : Hid (bk < we.heap.size ∧ we.cell? ⟨bk, ok + j, none⟩ = some (.string q)) := ⟨Nat.lt_of_lt_of_le HQD.out.1 HBm.out.size, (HBm.out.cell (p := ⟨bk, ok + j, none⟩) HQD.out.1).trans HQD.out.2⟩
          obtain ⟨an, han⟩ : ∃ an, asOf (states rs) mk q y = an := ⟨_, rfl⟩
          have HAN := Lib.hid han
          have HAD : Hid (rAsOf mk L q y = an) := by show _ = _; rw [HT.out.asOf]; exact han
          clear hcell hy han
          go_upto_region 15 with fail
          refine Reg.wp_region_z (by kernel_rfl) 148 18 rfl rfl (by kernel_rfl) 90 91 (by decide) (15) (fun y => we.heap.size ≤ y) (0) (fun _ => False) (0) (fun _ => False)
            (fun i f v u => match i with
              | 0 => v = .pointer (some ⟨g, 0, none⟩)
              | 1 => v = .slice (some ⟨bk, ok, none⟩) nk ck
              | 2 => v = .int .i64 j
              | 3 => v = .pointer (some ⟨bk, ok + j, none⟩)
              | 4 => v = .string q
              | 5 => v = .slice (some ⟨bc, oc, none⟩) cs.length cc
              | 6 => v = .int .i64 m
              | 7 => v = .pointer (some ⟨bc, oc + m * 3, none⟩)
              | 8 => v = Vec.C y
              | 9 => v = .tuple #[Vec.E an.e, .bool an.is, .int .i64 an.err]
              | 10 => v = .tuple #[Vec.E an.e, .bool an.is, .int .i64 an.err]
              | 11 => v = Vec.E an.e
              | 12 => v = .bool an.is
              | 13 => v = .int .i64 an.err
              | 14 => ∃ s, v = .pointer (some ⟨s, 0, none⟩) ∧ we.heap.size ≤ s ∧ EBx u s ent0
              | 15 => ∃ s, f 14 = .pointer (some ⟨s, 0, none⟩) ∧ we.heap.size ≤ s ∧ EBx u s an.e
              | 16 => v = .bool an.is
              | 17 => v = .int .i64 an.err
              | _ => True) ?_ ?_
          · refine Reg.StepsZ.cons ?_ (Reg.StepsZ.cons ?_ (Reg.StepsZ.cons ?_ (Reg.StepsZ.cons ?_ (Reg.StepsZ.cons ?_ (Reg.StepsZ.cons ?_ (Reg.StepsZ.cons ?_ (Reg.StepsZ.cons ?_ (Reg.StepsZ.cons ?_ (Reg.StepsZ.cons ?_ (Reg.StepsZ.cons ?_ (Reg.StepsZ.cons ?_ (Reg.StepsZ.cons ?_ (Reg.StepsZ.cons ?_ (Reg.StepsZ.cons ?_ (Reg.StepsZ.cons ?_ (Reg.StepsZ.cons ?_ (Reg.StepsZ.cons ?_ (Reg.StepsZ.nil _))))))))))))))))))
            · intro val ac u hR hp hpq ha K hK0
              have hK := fun v w' h1 h2 => hK0 v w' h1 h2 (fun j f v' h _ => by omega); have e0 : (ac.tmps[0]?).getD undef = .pointer (some ⟨g, 0, none⟩) := ha 0 (by decide); clear ha hp
              refine Reg.Op1.plain rfl ?_
              go_wp2
              exact ⟨rfl, hK _ _ rfl (Reg.Wr.same _)⟩
            · intro val ac u hR hp hpq ha K hK0
              have hK := fun v w' h1 h2 => hK0 v w' h1 h2 (fun j f v' h _ => by omega); have e7 : (ac.tmps[7]?).getD undef = .slice (some ⟨bk, ok, none⟩) nk ck := ha 7 (by decide); clear ha hp
              refine Reg.Op1.plain rfl ?_
              go_wp2
              exact ⟨rfl, hK _ _ rfl (Reg.Wr.same _)⟩
            · intro val ac u hR hp hpq ha K hK0
              have hK := fun v w' h1 h2 => hK0 v w' h1 h2 (fun j f v' h _ => by omega); have e8 : (ac.tmps[8]?).getD undef = .int .i64 j := ha 8 (by decide); clear ha hp
              refine Reg.Op1.plain rfl ?_
              go_wp2
              exact ⟨rfl, hK _ _ rfl (Reg.Wr.same _)⟩
            · intro val ac u hR hp hpq ha K hK0
              have hK := fun v w' h1 h2 => hK0 v w' h1 h2 (fun j f v' h _ => by omega); obtain ⟨w109, h109, r109⟩ := hp 1 (by decide); have e109 : (ac.tmps[109]?).getD undef = .slice (some ⟨bk, ok, none⟩) nk ck := (ha 109 (by decide)).trans h109; obtain ⟨w110, h110, r110⟩ := hp 2 (by decide); have e110 : (ac.tmps[110]?).getD undef = .int .i64 j := (ha 110 (by decide)).trans h110; clear h109 h110 ha hp
              refine Reg.Op1.plain rfl ?_
              go_wp2
              exact ⟨rfl, hK _ _ rfl (Reg.Wr.same _)⟩
            · intro val ac u hR hp hpq ha K hK0
              have hK := fun v w' h1 h2 => hK0 v w' h1 h2 (fun j f v' h _ => by omega); obtain ⟨w111, h111, r111⟩ := hp 3 (by decide); have e111 : (ac.tmps[111]?).getD undef = .pointer (some ⟨bk, ok + j, none⟩) := (ha 111 (by decide)).trans h111; clear h111 ha hp
              refine Reg.Op1.plain rfl ?_
              have hq : Mem.Keeps (fun y => we.heap.size ≤ y ∨ False ∨ False) we u := (Mem.Keeps.refl (fun y => we.heap.size ≤ y ∨ False ∨ False) we).drew.trans (Reg.Wr.all hR) (fun _ h _ => h)
              have hne : ∀ y, y < we.heap.size → ¬ (we.heap.size ≤ y ∨ False ∨ False) := fun y hy h => by rcases h with h | h | h <;> first | omega | exact h
              have z0 := (hq.cell (p := ⟨bk, ok + j, none⟩) (HQC.out.1) (hne bk HQC.out.1)).trans HQC.out.2
              go_wp2
              exact ⟨rfl, hK _ _ rfl (Reg.Wr.same _)⟩
            · intro val ac u hR hp hpq ha K hK0
              have hK := fun v w' h1 h2 => hK0 v w' h1 h2 (fun j f v' h _ => by omega); have e2 : (ac.tmps[2]?).getD undef = .slice (some ⟨bc, oc, none⟩) cs.length cc := ha 2 (by decide); clear ha hp
              refine Reg.Op1.plain rfl ?_
              go_wp2
              exact ⟨rfl, hK _ _ rfl (Reg.Wr.same _)⟩
            · intro val ac u hR hp hpq ha K hK0
              have hK := fun v w' h1 h2 => hK0 v w' h1 h2 (fun j f v' h _ => by omega); have e13 : (ac.tmps[13]?).getD undef = .int .i64 m := ha 13 (by decide); clear ha hp
              refine Reg.Op1.plain rfl ?_
              go_wp2
              exact ⟨rfl, hK _ _ rfl (Reg.Wr.same _)⟩
            · intro val ac u hR hp hpq ha K hK0
              have hK := fun v w' h1 h2 => hK0 v w' h1 h2 (fun j f v' h _ => by omega); obtain ⟨w113, h113, r113⟩ := hp 5 (by decide); have e113 : (ac.tmps[113]?).getD undef = .slice (some ⟨bc, oc, none⟩) cs.length cc := (ha 113 (by decide)).trans h113; obtain ⟨w114, h114, r114⟩ := hp 6 (by decide); have e114 : (ac.tmps[114]?).getD undef = .int .i64 m := (ha 114 (by decide)).trans h114; clear h113 h114 ha hp
              refine Reg.Op1.plain rfl ?_
              go_wp2
              exact ⟨rfl, hK _ _ rfl (Reg.Wr.same _)⟩
            · intro val ac u hR hp hpq ha K hK0
              have hK := fun v w' h1 h2 => hK0 v w' h1 h2 (fun j f v' h _ => by omega); obtain ⟨w115, h115, r115⟩ := hp 7 (by decide); have e115 : (ac.tmps[115]?).getD undef = .pointer (some ⟨bc, oc + m * 3, none⟩) := (ha 115 (by decide)).trans h115; clear h115 ha hp
              refine Reg.Op1.plain rfl ?_
              have hq : Mem.Keeps (fun y => we.heap.size ≤ y ∨ False ∨ False) we u := (Mem.Keeps.refl (fun y => we.heap.size ≤ y ∨ False ∨ False) we).drew.trans (Reg.Wr.all hR) (fun _ h _ => h)
              have hne : ∀ y, y < we.heap.size → ¬ (we.heap.size ≤ y ∨ False ∨ False) := fun y hy h => by rcases h with h | h | h <;> first | omega | exact h
              refine Mem.load_agg _ _ col_agg bc (oc + m * 3) (colCells y) (Reg.eval_of e115) (Sto.colCells_length _) (fun i u' hu => (hq.cell (p := ⟨bc, oc + m * 3 + i, none⟩) (HCC.out.1) (hne bc HCC.out.1)).trans (HCC.out.2 i u' hu)) ?_
              exact ⟨rfl, hK _ _ rfl (Reg.Wr.same _)⟩
            · intro val ac u hR hp hpq ha K hK0
              have hK := fun v w' h1 h2 => hK0 v w' h1 h2 (fun j f v' h _ => by omega); obtain ⟨w108, h108, r108⟩ := hp 0 (by decide); have e108 : (ac.tmps[108]?).getD undef = .pointer (some ⟨g, 0, none⟩) := (ha 108 (by decide)).trans h108; obtain ⟨w112, h112, r112⟩ := hp 4 (by decide); have e112 : (ac.tmps[112]?).getD undef = .string q := (ha 112 (by decide)).trans h112; obtain ⟨w116, h116, r116⟩ := hp 8 (by decide); have e116 : (ac.tmps[116]?).getD undef = Vec.C y := (ha 116 (by decide)).trans h116; clear h108 h112 h116 ha hp
              refine Reg.Op1.plain rfl ?_
              have hq : Mem.Keeps (fun _ => False ∨ False) we u := (Mem.Keeps.refl (fun _ => False ∨ False) we).drew.trans (Reg.Wr.not1 hR (by decide +kernel)) (fun _ h _ => h)
              have hM := HWe.out.below (hq.mono (T := fun _ => False) (fun _ h _ => h.elim id id)).belowAll
              go_wp2_with fail
              refine (storeAsOf_any hM.S HQK.out hM.G.hdc HLQ.out y).mono ?_
              rintro x9 w' ⟨rfl, hbw9⟩
              rw [HAN.out]
              go_wp2_with fail
              exact ⟨rfl, hK _ _ rfl (Reg.Wr.below hbw9)⟩
            · intro val ac u hR hp hpq ha K hK0
              have hK := fun v w' h1 h2 => hK0 v w' h1 h2 (fun j f v' h _ => by omega); obtain ⟨w117, h117, r117⟩ := hp 9 (by decide); have e117 : (ac.tmps[117]?).getD undef = .tuple #[Vec.E an.e, .bool an.is, .int .i64 an.err] := (ha 117 (by decide)).trans h117; clear h117 ha hp
              refine Reg.Op1.plain rfl ?_
              go_wp2
              exact ⟨rfl, hK _ _ rfl (Reg.Wr.same _)⟩
            · intro val ac u hR hp hpq ha K hK0
              have hK := fun v w' h1 h2 => hK0 v w' h1 h2 (fun j f v' h _ => by omega); obtain ⟨w107, h107, r107⟩ := hp 10 (by decide); have e107 : (ac.tmps[107]?).getD undef = .tuple #[Vec.E an.e, .bool an.is, .int .i64 an.err] := (ha 107 (by decide)).trans h107; clear h107 ha hp
              refine Reg.Op1.plain rfl ?_
              go_wp2
              exact ⟨rfl, hK _ _ rfl (Reg.Wr.same _)⟩
            · intro val ac u hR hp hpq ha K hK0
              have hK := fun v w' h1 h2 => hK0 v w' h1 h2 (fun j f v' h _ => by omega); obtain ⟨w107, h107, r107⟩ := hp 10 (by decide); have e107 : (ac.tmps[107]?).getD undef = .tuple #[Vec.E an.e, .bool an.is, .int .i64 an.err] := (ha 107 (by decide)).trans h107; clear h107 ha hp
              refine Reg.Op1.plain rfl ?_
              go_wp2
              exact ⟨rfl, hK _ _ rfl (Reg.Wr.same _)⟩
            · intro val ac u hR hp hpq ha K hK0
              have hK := fun v w' h1 h2 => hK0 v w' h1 h2 (fun j f v' h _ => by omega); obtain ⟨w107, h107, r107⟩ := hp 10 (by decide); have e107 : (ac.tmps[107]?).getD undef = .tuple #[Vec.E an.e, .bool an.is, .int .i64 an.err] := (ha 107 (by decide)).trans h107; clear h107 ha hp
              refine Reg.Op1.plain rfl ?_
              go_wp2
              exact ⟨rfl, hK _ _ rfl (Reg.Wr.same _)⟩
            · intro val ac u hR hp hpq ha K hK0
              have hK := fun v w' h1 h2 => hK0 v w' h1 h2 (fun j f v' h _ => by omega); clear ha hp
              refine Reg.Op1.plain rfl ?_
              have hbu : we.heap.size ≤ u.heap.size := (Reg.Wr.all hR).size
              go_wp2
              exact ⟨rfl, hK _ _ ⟨u.heap.size, rfl, hbu, Mem.Bx.new u 40 (entCells ent0).toArray rfl rfl⟩ (Reg.Wr.quiet ((Mem.Keeps.refl _ u).alloc _))⟩
            · intro val ac u hR hp hpq ha K hK0
              have hK := fun v w' h1 h2 => hK0 v w' h1 h2 (fun j f v' h _ => by omega); obtain ⟨w14, h14, r14⟩ := hp 14 (by decide); have e14 : (ac.tmps[14]?).getD undef = val 14 := ha 14 (by decide); obtain ⟨w118, h118, r118⟩ := hp 11 (by decide); have e118 : (ac.tmps[118]?).getD undef = Vec.E an.e := (ha 118 (by decide)).trans h118; clear h118 ha hp
              refine Reg.Op1.plain rfl ?_
              obtain ⟨s, hv, hs, hbx⟩ := h14
              have hv7 := hv
              rw [hv] at e14
              have hbx' : EBx u s ent0 := hbx.keeps (Reg.Wr.not1 r14 (by decide +kernel)) (fun h => h.elim id id)
              refine Mem.store_agg _ _ entry_agg s (entCells ent0) (entCells an.e) (Reg.eval_of e14) (Reg.eval_of e118) hbx' (entCells_length _) (ent_one _) ?_
              intro w' hb hk hs'
              exact ⟨rfl, hK undef _ ⟨s, hv7, hs, hb⟩ (Reg.Wr.does1 (hk.mono (fun i h _ => by show we.heap.size ≤ i; omega)))⟩
            · intro val ac u hR hp hpq ha K hK0
              have hK := fun v w' h1 h2 => hK0 v w' h1 h2 (fun j f v' h _ => by omega); obtain ⟨w119, h119, r119⟩ := hp 12 (by decide); have e119 : (ac.tmps[119]?).getD undef = .bool an.is := (ha 119 (by decide)).trans h119; clear h119 ha hp
              refine Reg.Op1.plain rfl ?_
              go_wp2
              exact ⟨rfl, hK _ _ rfl (Reg.Wr.same _)⟩
            · intro val ac u hR hp hpq ha K hK0
              have hK := fun v w' h1 h2 => hK0 v w' h1 h2 (fun j f v' h _ => by omega); obtain ⟨w120, h120, r120⟩ := hp 13 (by decide); have e120 : (ac.tmps[120]?).getD undef = .int .i64 an.err := (ha 120 (by decide)).trans h120; clear h120 ha hp
              refine Reg.Op1.plain rfl ?_
              go_wp2
              exact ⟨rfl, hK _ _ rfl (Reg.Wr.same _)⟩
          intro val u hR H hZ
          obtain ⟨_, hva, _⟩ := H 16 (by decide)
          have hva : val 16 = .bool an.is := hva
          obtain ⟨_, hvb, _⟩ := H 17 (by decide)
          have hvb : val 17 = .int .i64 an.err := hvb
          obtain ⟨wA, ⟨s, hv7, hs, hb⟩, rA⟩ := H 15 (by decide)
          have hv7 : val 14 = .pointer (some ⟨s, 0, none⟩) := hv7
          have hq : Mem.Keeps (fun y => we.heap.size ≤ y ∨ False ∨ False) we u := (Mem.Keeps.refl (fun y => we.heap.size ≤ y ∨ False ∨ False) we).drew.trans (Reg.Wr.all hR) (fun _ h _ => h)
          have HBwf : Hid (Below we.heap.size we u) := hq.below (fun y h => by rcases h with h | h | h <;> first | exact h | exact h.elim) (Nat.le_refl _)
          have HEwf : Hid (EBx u s an.e) := hb.keeps (Reg.Wr.not1 rA (by decide +kernel)) (fun h => h.elim id id)
          simp only [List.map_cons, List.map_nil, Reg.lay, Act.put, List.setIfInBounds_toArray, List.set_cons_succ, List.set_cons_zero, Nat.reduceAdd, hva, hvb, hv7]
          clear hR H hZ hq hb rA hv7 hva hvb
          obtain ⟨wf, hwf⟩ : ∃ z, z = u := ⟨_, rfl⟩
          subst hwf
          obtain ⟨gx, hgx⟩ : ∃ z, z = s := ⟨_, rfl⟩
          subst hgx
          have HWf := Lib.hid (HWe.out.below HBwf.out)
          have HCC2 : Hid (bc < wf.heap.size ∧ ∀ i u, (colCells y)[i]? = some u → wf.cell? ⟨bc, oc + m * 3 + i, none⟩ = some u) := ⟨Nat.lt_of_lt_of_le HCC.out.1 HBwf.out.size, fun i u hu => (HBwf.out.cell (p := ⟨bc, oc + m * 3 + i, none⟩) HCC.out.1).trans (HCC.out.2 i u hu)⟩
          have HQC2 : Hid (bk < wf.heap.size ∧ wf.cell? ⟨bk, ok + j, none⟩ = some (.string q)) := ⟨Nat.lt_of_lt_of_le HQC.out.1 HBwf.out.size, (HBwf.out.cell (p := ⟨bk, ok + j, none⟩) HQC.out.1).trans HQC.out.2⟩
          clear HCC HQC hs
          have HCC := HCC2
          have HQC := HQC2
          clear HCC2 HQC2 HWe
          go_upto_region 16 with fail
          refine Reg.wp_region_z (by kernel_rfl) 148 18 rfl rfl (by kernel_rfl) 90 91 (by decide) (15) (fun y => wf.heap.size ≤ y) (0) (fun _ => False) (0) (fun _ => False)
            (fun i f v u => match i with
              | 0 => v = .pointer (some ⟨gd, 0, none⟩)
              | 1 => v = .slice (some ⟨bk, ok, none⟩) nk ck
              | 2 => v = .int .i64 j
              | 3 => v = .pointer (some ⟨bk, ok + j, none⟩)
              | 4 => v = .string q
              | 5 => v = .slice (some ⟨bc, oc, none⟩) cs.length cc
              | 6 => v = .int .i64 m
              | 7 => v = .pointer (some ⟨bc, oc + m * 3, none⟩)
              | 8 => v = Vec.C y
              | 9 => v = .tuple #[Vec.E an.e, .bool an.is, .int .i64 an.err]
              | 10 => v = .tuple #[Vec.E an.e, .bool an.is, .int .i64 an.err]
              | 11 => v = Vec.E an.e
              | 12 => v = .bool an.is
              | 13 => v = .int .i64 an.err
              | 14 => ∃ s, v = .pointer (some ⟨s, 0, none⟩) ∧ wf.heap.size ≤ s ∧ EBx u s ent0
              | 15 => ∃ s, f 17 = .pointer (some ⟨s, 0, none⟩) ∧ wf.heap.size ≤ s ∧ EBx u s an.e
              | 16 => v = .bool an.is
              | 17 => v = .int .i64 an.err
              | _ => True) ?_ ?_
          · refine Reg.StepsZ.cons ?_ (Reg.StepsZ.cons ?_ (Reg.StepsZ.cons ?_ (Reg.StepsZ.cons ?_ (Reg.StepsZ.cons ?_ (Reg.StepsZ.cons ?_ (Reg.StepsZ.cons ?_ (Reg.StepsZ.cons ?_ (Reg.StepsZ.cons ?_ (Reg.StepsZ.cons ?_ (Reg.StepsZ.cons ?_ (Reg.StepsZ.cons ?_ (Reg.StepsZ.cons ?_ (Reg.StepsZ.cons ?_ (Reg.StepsZ.cons ?_ (Reg.StepsZ.cons ?_ (Reg.StepsZ.cons ?_ (Reg.StepsZ.cons ?_ (Reg.StepsZ.nil _))))))))))))))))))
            · intro val ac u hR hp hpq ha K hK0
              have hK := fun v w' h1 h2 => hK0 v w' h1 h2 (fun j f v' h _ => by omega); have e1 : (ac.tmps[1]?).getD undef = .pointer (some ⟨gd, 0, none⟩) := ha 1 (by decide); clear ha hp
              refine Reg.Op1.plain rfl ?_
              go_wp2
              exact ⟨rfl, hK _ _ rfl (Reg.Wr.same _)⟩
            · intro val ac u hR hp hpq ha K hK0
              have hK := fun v w' h1 h2 => hK0 v w' h1 h2 (fun j f v' h _ => by omega); have e7 : (ac.tmps[7]?).getD undef = .slice (some ⟨bk, ok, none⟩) nk ck := ha 7 (by decide); clear ha hp
              refine Reg.Op1.plain rfl ?_
              go_wp2
              exact ⟨rfl, hK _ _ rfl (Reg.Wr.same _)⟩
            · intro val ac u hR hp hpq ha K hK0
              have hK := fun v w' h1 h2 => hK0 v w' h1 h2 (fun j f v' h _ => by omega); have e8 : (ac.tmps[8]?).getD undef = .int .i64 j := ha 8 (by decide); clear ha hp
              refine Reg.Op1.plain rfl ?_
              go_wp2
              exact ⟨rfl, hK _ _ rfl (Reg.Wr.same _)⟩
            · intro val ac u hR hp hpq ha K hK0
              have hK := fun v w' h1 h2 => hK0 v w' h1 h2 (fun j f v' h _ => by omega); obtain ⟨w123, h123, r123⟩ := hp 1 (by decide); have e123 : (ac.tmps[123]?).getD undef = .slice (some ⟨bk, ok, none⟩) nk ck := (ha 123 (by decide)).trans h123; obtain ⟨w124, h124, r124⟩ := hp 2 (by decide); have e124 : (ac.tmps[124]?).getD undef = .int .i64 j := (ha 124 (by decide)).trans h124; clear h123 h124 ha hp
              refine Reg.Op1.plain rfl ?_
              go_wp2
              exact ⟨rfl, hK _ _ rfl (Reg.Wr.same _)⟩
            · intro val ac u hR hp hpq ha K hK0
              have hK := fun v w' h1 h2 => hK0 v w' h1 h2 (fun j f v' h _ => by omega); obtain ⟨w125, h125, r125⟩ := hp 3 (by decide); have e125 : (ac.tmps[125]?).getD undef = .pointer (some ⟨bk, ok + j, none⟩) := (ha 125 (by decide)).trans h125; clear h125 ha hp
              refine Reg.Op1.plain rfl ?_
              have hq : Mem.Keeps (fun y => wf.heap.size ≤ y ∨ False ∨ False) wf u := (Mem.Keeps.refl (fun y => wf.heap.size ≤ y ∨ False ∨ False) wf).drew.trans (Reg.Wr.all hR) (fun _ h _ => h)
              have hne : ∀ y, y < wf.heap.size → ¬ (wf.heap.size ≤ y ∨ False ∨ False) := fun y hy h => by rcases h with h | h | h <;> first | omega | exact h
              have z0 := (hq.cell (p := ⟨bk, ok + j, none⟩) (HQC.out.1) (hne bk HQC.out.1)).trans HQC.out.2
              go_wp2
              exact ⟨rfl, hK _ _ rfl (Reg.Wr.same _)⟩
            · intro val ac u hR hp hpq ha K hK0
              have hK := fun v w' h1 h2 => hK0 v w' h1 h2 (fun j f v' h _ => by omega); have e2 : (ac.tmps[2]?).getD undef = .slice (some ⟨bc, oc, none⟩) cs.length cc := ha 2 (by decide); clear ha hp
              refine Reg.Op1.plain rfl ?_
              go_wp2
              exact ⟨rfl, hK _ _ rfl (Reg.Wr.same _)⟩
            · intro val ac u hR hp hpq ha K hK0
              have hK := fun v w' h1 h2 => hK0 v w' h1 h2 (fun j f v' h _ => by omega); have e13 : (ac.tmps[13]?).getD undef = .int .i64 m := ha 13 (by decide); clear ha hp
              refine Reg.Op1.plain rfl ?_
              go_wp2
              exact ⟨rfl, hK _ _ rfl (Reg.Wr.same _)⟩
            · intro val ac u hR hp hpq ha K hK0
              have hK := fun v w' h1 h2 => hK0 v w' h1 h2 (fun j f v' h _ => by omega); obtain ⟨w127, h127, r127⟩ := hp 5 (by decide); have e127 : (ac.tmps[127]?).getD undef = .slice (some ⟨bc, oc, none⟩) cs.length cc := (ha 127 (by decide)).trans h127; obtain ⟨w128, h128, r128⟩ := hp 6 (by decide); have e128 : (ac.tmps[128]?).getD undef = .int .i64 m := (ha 128 (by decide)).trans h128; clear h127 h128 ha hp
              refine Reg.Op1.plain rfl ?_
              go_wp2
              exact ⟨rfl, hK _ _ rfl (Reg.Wr.same _)⟩
            · intro val ac u hR hp hpq ha K hK0
              have hK := fun v w' h1 h2 => hK0 v w' h1 h2 (fun j f v' h _ => by omega); obtain ⟨w129, h129, r129⟩ := hp 7 (by decide); have e129 : (ac.tmps[129]?).getD undef = .pointer (some ⟨bc, oc + m * 3, none⟩) := (ha 129 (by decide)).trans h129; clear h129 ha hp
              refine Reg.Op1.plain rfl ?_
              have hq : Mem.Keeps (fun y => wf.heap.size ≤ y ∨ False ∨ False) wf u := (Mem.Keeps.refl (fun y => wf.heap.size ≤ y ∨ False ∨ False) wf).drew.trans (Reg.Wr.all hR) (fun _ h _ => h)
              have hne : ∀ y, y < wf.heap.size → ¬ (wf.heap.size ≤ y ∨ False ∨ False) := fun y hy h => by rcases h with h | h | h <;> first | omega | exact h
              refine Mem.load_agg _ _ col_agg bc (oc + m * 3) (colCells y) (Reg.eval_of e129) (Sto.colCells_length _) (fun i u' hu => (hq.cell (p := ⟨bc, oc + m * 3 + i, none⟩) (HCC.out.1) (hne bc HCC.out.1)).trans (HCC.out.2 i u' hu)) ?_
              exact ⟨rfl, hK _ _ rfl (Reg.Wr.same _)⟩
            · intro val ac u hR hp hpq ha K hK0
              have hK := fun v w' h1 h2 => hK0 v w' h1 h2 (fun j f v' h _ => by omega); obtain ⟨w122, h122, r122⟩ := hp 0 (by decide); have e122 : (ac.tmps[122]?).getD undef = .pointer (some ⟨gd, 0, none⟩) := (ha 122 (by decide)).trans h122; obtain ⟨w126, h126, r126⟩ := hp 4 (by decide); have e126 : (ac.tmps[126]?).getD undef = .string q := (ha 126 (by decide)).trans h126; obtain ⟨w130, h130, r130⟩ := hp 8 (by decide); have e130 : (ac.tmps[130]?).getD undef = Vec.C y := (ha 130 (by decide)).trans h130; clear h122 h126 h130 ha hp
              refine Reg.Op1.plain rfl ?_
              have hq : Mem.Keeps (fun _ => False ∨ False) wf u := (Mem.Keeps.refl (fun _ => False ∨ False) wf).drew.trans (Reg.Wr.not1 hR (by decide +kernel)) (fun _ h _ => h)
              have hM := HWf.out.below (hq.mono (T := fun _ => False) (fun _ h _ => h.elim id id)).belowAll
              go_wp2_with fail
              refine (refAsOf_any rng mk gd A c L q y u hM.D (by omega) HDC.out).mono ?_
              rintro x9 w' ⟨rfl, hbw9⟩
              rw [HAD.out]
              go_wp2_with fail
              exact ⟨rfl, hK _ _ rfl (Reg.Wr.below hbw9)⟩
            · intro val ac u hR hp hpq ha K hK0
              have hK := fun v w' h1 h2 => hK0 v w' h1 h2 (fun j f v' h _ => by omega); obtain ⟨w131, h131, r131⟩ := hp 9 (by decide); have e131 : (ac.tmps[131]?).getD undef = .tuple #[Vec.E an.e, .bool an.is, .int .i64 an.err] := (ha 131 (by decide)).trans h131; clear h131 ha hp
              refine Reg.Op1.plain rfl ?_
              go_wp2
              exact ⟨rfl, hK _ _ rfl (Reg.Wr.same _)⟩
            · intro val ac u hR hp hpq ha K hK0
              have hK := fun v w' h1 h2 => hK0 v w' h1 h2 (fun j f v' h _ => by omega); obtain ⟨w121, h121, r121⟩ := hp 10 (by decide); have e121 : (ac.tmps[121]?).getD undef = .tuple #[Vec.E an.e, .bool an.is, .int .i64 an.err] := (ha 121 (by decide)).trans h121; clear h121 ha hp
              refine Reg.Op1.plain rfl ?_
              go_wp2
              exact ⟨rfl, hK _ _ rfl (Reg.Wr.same _)⟩
            · intro val ac u hR hp hpq ha K hK0
              have hK := fun v w' h1 h2 => hK0 v w' h1 h2 (fun j f v' h _ => by omega); obtain ⟨w121, h121, r121⟩ := hp 10 (by decide); have e121 : (ac.tmps[121]?).getD undef = .tuple #[Vec.E an.e, .bool an.is, .int .i64 an.err] := (ha 121 (by decide)).trans h121; clear h121 ha hp
              refine Reg.Op1.plain rfl ?_
              go_wp2
              exact ⟨rfl, hK _ _ rfl (Reg.Wr.same _)⟩
            · intro val ac u hR hp hpq ha K hK0
              have hK := fun v w' h1 h2 => hK0 v w' h1 h2 (fun j f v' h _ => by omega); obtain ⟨w121, h121, r121⟩ := hp 10 (by decide); have e121 : (ac.tmps[121]?).getD undef = .tuple #[Vec.E an.e, .bool an.is, .int .i64 an.err] := (ha 121 (by decide)).trans h121; clear h121 ha hp
              refine Reg.Op1.plain rfl ?_
              go_wp2
              exact ⟨rfl, hK _ _ rfl (Reg.Wr.same _)⟩
            · intro val ac u hR hp hpq ha K hK0
              have hK := fun v w' h1 h2 => hK0 v w' h1 h2 (fun j f v' h _ => by omega); clear ha hp
              refine Reg.Op1.plain rfl ?_
              have hbu : wf.heap.size ≤ u.heap.size := (Reg.Wr.all hR).size
              go_wp2
              exact ⟨rfl, hK _ _ ⟨u.heap.size, rfl, hbu, Mem.Bx.new u 40 (entCells ent0).toArray rfl rfl⟩ (Reg.Wr.quiet ((Mem.Keeps.refl _ u).alloc _))⟩
            · intro val ac u hR hp hpq ha K hK0
              have hK := fun v w' h1 h2 => hK0 v w' h1 h2 (fun j f v' h _ => by omega); obtain ⟨w17, h17, r17⟩ := hp 14 (by decide); have e17 : (ac.tmps[17]?).getD undef = val 14 := ha 17 (by decide); obtain ⟨w132, h132, r132⟩ := hp 11 (by decide); have e132 : (ac.tmps[132]?).getD undef = Vec.E an.e := (ha 132 (by decide)).trans h132; clear h132 ha hp
              refine Reg.Op1.plain rfl ?_
              obtain ⟨s, hv, hs, hbx⟩ := h17
              have hv7 := hv
              rw [hv] at e17
              have hbx' : EBx u s ent0 := hbx.keeps (Reg.Wr.not1 r17 (by decide +kernel)) (fun h => h.elim id id)
              refine Mem.store_agg _ _ entry_agg s (entCells ent0) (entCells an.e) (Reg.eval_of e17) (Reg.eval_of e132) hbx' (entCells_length _) (ent_one _) ?_
              intro w' hb hk hs'
              exact ⟨rfl, hK undef _ ⟨s, hv7, hs, hb⟩ (Reg.Wr.does1 (hk.mono (fun i h _ => by show wf.heap.size ≤ i; omega)))⟩
            · intro val ac u hR hp hpq ha K hK0
              have hK := fun v w' h1 h2 => hK0 v w' h1 h2 (fun j f v' h _ => by omega); obtain ⟨w133, h133, r133⟩ := hp 12 (by decide); have e133 : (ac.tmps[133]?).getD undef = .bool an.is := (ha 133 (by decide)).trans h133; clear h133 ha hp
              refine Reg.Op1.plain rfl ?_
              go_wp2
              exact ⟨rfl, hK _ _ rfl (Reg.Wr.same _)⟩
            · intro val ac u hR hp hpq ha K hK0
              have hK := fun v w' h1 h2 => hK0 v w' h1 h2 (fun j f v' h _ => by omega); obtain ⟨w134, h134, r134⟩ := hp 13 (by decide); have e134 : (ac.tmps[134]?).getD undef = .int .i64 an.err := (ha 134 (by decide)).trans h134; clear h134 ha hp
              refine Reg.Op1.plain rfl ?_
              go_wp2
              exact ⟨rfl, hK _ _ rfl (Reg.Wr.same _)⟩
          intro val u hR H hZ
          obtain ⟨_, hva, _⟩ := H 16 (by decide)
          have hva : val 16 = .bool an.is := hva
          obtain ⟨_, hvb, _⟩ := H 17 (by decide)
          have hvb : val 17 = .int .i64 an.err := hvb
          obtain ⟨wA, ⟨s, hv7, hs, hb⟩, rA⟩ := H 15 (by decide)
          have hv7 : val 14 = .pointer (some ⟨s, 0, none⟩) := hv7
          have hq : Mem.Keeps (fun y => wf.heap.size ≤ y ∨ False ∨ False) wf u := (Mem.Keeps.refl (fun y => wf.heap.size ≤ y ∨ False ∨ False) wf).drew.trans (Reg.Wr.all hR) (fun _ h _ => h)
          have HBwg : Hid (Below wf.heap.size wf u) := hq.below (fun y h => by rcases h with h | h | h <;> first | exact h | exact h.elim) (Nat.le_refl _)
          have HEwg : Hid (EBx u s an.e) := hb.keeps (Reg.Wr.not1 rA (by decide +kernel)) (fun h => h.elim id id)
          simp only [List.map_cons, List.map_nil, Reg.lay, Act.put, List.setIfInBounds_toArray, List.set_cons_succ, List.set_cons_zero, Nat.reduceAdd, hva, hvb, hv7]
          clear hR H hZ hq hb rA hv7 hva hvb
          obtain ⟨wg, hwg⟩ : ∃ z, z = u := ⟨_, rfl⟩
          subst hwg
          obtain ⟨gy, hgy⟩ : ∃ z, z = s := ⟨_, rfl⟩
          subst hgy
          have HEf : Hid (EBx wg gx an.e) := HEwf.out.below HBwg.out HEwf.out.lt
          have HBg : Hid (Below wd.heap.size wd wg) := HBm.out.trans ((HBwf.out.trans (HBwg.out.mono HBwf.out.size)).mono HBm.out.size)
          have e3 : ∀ W, (binOp .neq 40 (.agg (entCells an.e).toArray) (.agg (entCells an.e).toArray)).run Try.prog W = .ok (.bool false) W := fun W => by rw [neq_ent, eqEnt_iff.2 rfl]; rfl
          have b2 : (an.is != an.is) = false := by cases an.is <;> rfl
          have b3 : (an.err != an.err) = false := by simp
          clear HCC HQC hs HWf HAN HAD HEwf HBwf
          go_wp2_with (first | ((with_reducible refine Mem.load_agg _ _ entry_agg gx 0 (entCells an.e) ?hxe (entCells_length _) (fun j u hu => by rw [Nat.zero_add]; exact HEf.out.cell hu) ?_); (case hxe => exact rfl)) | ((with_reducible refine Mem.load_agg _ _ entry_agg gy 0 (entCells an.e) ?hxf (entCells_length _) (fun j u hu => by rw [Nat.zero_add]; exact HEwg.out.cell hu) ?_); (case hxf => exact rfl)))
          go_roundw
          case rel => exact ⟨⟨m + 1, by omega, by go_num, HBg⟩⟩
          case measure => simp [intOf]; omega
        · obtain rfl : m = cs.length := by omega
          have HBz : Hid (Below w4.heap.size w4 wr) := HBr.out.trans ((HBd.out.trans (HBm.out.mono HBd.out.size)).mono HBr.out.size)
          go_wp2
          go_roundw
          case rel => exact ⟨⟨j + 1, by omega, by go_num, HBz⟩⟩
          case measure => simp [intOf]; omega
    · obtain rfl : j = nk := by omega
      go_wp2
      go_ret
      exact ⟨rfl, HB4.out.trans (HBr.out.mono HB4.out.size)⟩
end Go.Proofs.Ytfafehffnjbhnaa
end
section
/- The walk of StorePlays. Nothing is asked but what the row's form asks of its arguments. -/
set_option maxRecDepth 8000
namespace Go.Proofs.Ytfafehffnjbhnaa
open Go.ChangeShapes Go.WideShapes Go.ChangeAt Go.RowKit
set_option linter.unusedVariables false
set_option linter.unusedSimpArgs false
namespace Sto
open Vec
/-- the program's store and the document's, side by side -/
structure SBoth (w : World) (g b gd : Nat) (rng : Int) (mk : Col) (rs : List LR) (A : Option Addr) (c : Nat) (md : Col) (L : List Ent) (wx : World) : Prop where
  M : Mine w.heap.size wx g b rng mk rs
  D : RAt wx gd A c rng md L
  bw : Below w.heap.size w wx
  dw : ∀ k, RB gd A k → w.heap.size ≤ k
  ap : ∀ k, fpS g b rs k → ¬ RB gd A k
section
variable {w w1 w2 : World} {g b gd : Nat} {rng : Int} {mk mk' md md' : Col} {rs rs' : List LR} {A A' : Option Addr} {c c' : Nat} {L L' : List Ent}
theorem SBoth.quiet (h : SBoth w g b gd rng mk rs A c md L w1) (hk : Mem.Keeps (fun _ => False) w1 w2) : SBoth w g b gd rng mk rs A c md L w2 :=
  ⟨h.M.keeps hk (fun _ _ h => h), h.D.keeps hk (fun _ _ h => h), h.bw.trans (hk.below (fun _ h => h.elim) h.bw.size), h.dw, h.ap⟩
theorem SBoth.below (h : SBoth w g b gd rng mk rs A c md L w1) (hb : Below w1.heap.size w1 w2) : SBoth w g b gd rng mk rs A c md L w2 := h.quiet (Mem.Keeps.of_below hb)
theorem SBoth.stepS (h : SBoth w g b gd rng mk rs A c md L w1) (hS : SS w2 g b rng mk' rs') (hG : Good rng (states rs')) (hk : Mem.Keeps (fpS g b rs) w1 w2) (hq : ∀ q, fpS g b rs' q → fpS g b rs q ∨ w1.heap.size ≤ q) : SBoth w g b gd rng mk' rs' A c md L w2 :=
  ⟨⟨hS, hG, fun q h9 => (hq q h9).elim (h.M.a q) (fun h8 => Nat.le_trans h.bw.size h8)⟩, h.D.keeps hk (fun k h1 h2 => h.ap k h2 h1), h.bw.trans (hk.below h.M.a h.bw.size), h.dw, fun k h9 h7 => by
    rcases hq k h9 with h8 | h8
    · exact h.ap k h8 h7
    · have := h.D.lt k h7; omega⟩
theorem SBoth.stepD (h : SBoth w g b gd rng mk rs A c md L w1) (hA : RAt w2 gd A' c' rng md' L') (hk : Mem.Keeps (RB gd A) w1 w2) (hq : ∀ q, Mem.blk A' = some q → Mem.blk A = some q ∨ w1.heap.size ≤ q) : SBoth w g b gd rng mk rs A' c' md' L' w2 :=
  ⟨h.M.keeps hk (fun k h1 h2 => h.ap k h1 h2), hA, h.bw.trans (hk.below h.dw h.bw.size), fun k h9 => by
    rcases h9 with h9 | h9
    · exact h.dw k (.inl h9)
    · rcases hq k h9 with h8 | h8
      · exact h.dw k (.inr h8)
      · exact Nat.le_trans h.bw.size h8, fun k h7 h9 => by
    rcases h9 with h9 | h9
    · exact h.ap k h7 (.inl h9)
    · rcases hq k h9 with h8 | h8
      · exact h.ap k h7 (.inr h8)
      · have := h.M.S.lt h7; omega⟩
theorem SBoth.look (h : SBoth w g b gd rng mk rs A c mk L w1) {Aq : Option Addr} {cs : List Col} (hR : Mem.Rd w w.heap.size Aq (cs.flatMap colCells)) : LkS w1 g b gd rng mk rs A c L Aq cs :=
  ⟨h.M.S, h.M.G, h.D, (hR.below h.bw).more h.bw.size⟩
end
structure SpRel (w : World) (g b gd : Nat) (rng : Int) (acs : List Ac) (v9 : Value) (wr : World) : Prop where
  out : ∃ (k : Nat) (mk : Col) (rs : List LR) (A : Option Addr) (c : Nat) (L : List Ent), k ≤ acs.length ∧ v9 = .int .i64 k ∧ L.length ≤ lenA (acs.take k) ∧ Hid (SBoth w g b gd rng mk rs A c mk L wr) ∧ Hid (Sto.Twin rng (states rs) L)
theorem lenA_mem {l : List Ac} {a : Ac} (h : a ∈ l) : a.es.length ≤ lenA l := by
  induction l with
  | nil => cases h
  | cons x l ih =>
    simp only [lenA, List.map_cons, List.sum_cons] at ih ⊢
    rcases List.mem_cons.1 h with rfl | h
    · omega
    · have := ih h; omega
theorem rd_blk {w : World} {B : Nat} {A : Option Addr} {xs : List Value} (h : Mem.Rd w B A xs) (h0 : xs ≠ []) : ∀ q, Mem.blk A = some q → q < B := fun q hq => by
  rcases h with h | ⟨b, o, rfl, hb, _⟩
  · exact absurd h h0
  · cases hq; exact hb
def ac0 : Ac := ⟨0, none, 0, [], col0⟩
def e77 : Ent := { ent0 with op := -77 }
theorem ac_one (a : Ac) : ∀ y ∈ acCells a, y.oneCell' = true := by simp [acCells, colCells, Value.oneCell']
theorem Twin.lenPut {rng : Int} {mk : Col} {st : List Ls} {L : List Ent} (h : Twin rng st L) (news : List Ent) : (rPut rng mk L news).1.length ≤ L.length + news.length := by
  have h1 := (h.put mk news).2.len
  have h2 := h.len
  have h3 := put_le rng mk st news
  omega
theorem rColl_len (mk : Col) (L : List Ent) : (rColl mk L).length ≤ L.length := List.length_filter_le _ _
end Sto
theorem act_agg : Mem.Agg Try.prog 28 5 := Mem.agg_of Try.underlying28 rfl (by kernel_rfl)
namespace storePlaysOpen
open Vec Sto
set_option maxRecDepth 20000 in
set_option maxHeartbeats 8000000 in
theorem walk (rng : Int) (A : Option Addr) (ca : Nat) (acs : List Ac) (Aq : Option Addr) (cc : Nat) (cs : List Col) (w : World) (hr : Mem.Rd w w.heap.size A (acs.flatMap acCells)) (hd : ∀ a ∈ acs, AcOk w w.heap.size a) (hn : acs.length ≤ 8796093022208)
    (hrc : Mem.Rd w w.heap.size Aq (cs.flatMap colCells)) :
    Calls Try.prog 7 #[.int .i64 rng, .slice A acs.length ca, .slice Aq cs.length cc] w fun e w' => e = .returned (.bool true) ∧ Below w.heap.size w w' := by
  have HR := Lib.hid hr
  have HD := Lib.hid hd
  have HRC := Lib.hid hrc
  clear hr hd hrc
  go_enter Try.func7, Try.ntmps7
  go_wp2_with fail
  refine (storeAble_any w).mono ?_
  rintro x w1 ⟨rfl, hb1⟩
  have HB1 := Lib.hid hb1
  clear hb1
  have HMU := Lib.hid (much_any A ca acs w1 w1 ((HR.out.below HB1.out).more HB1.out.size) hn (fun a ha => ⟨((HD.out a ha).rd.below HB1.out).more HB1.out.size, (HD.out a ha).len, (HD.out a ha).cap, (HD.out a ha).ein⟩) (Below.refl _ _))
  go_wp2_with fail
  refine HMU.out.mono ?_
  clear HMU
  rintro x w2 ⟨bq, rfl, hbn, hb2⟩
  have HB2 : Hid (Below w.heap.size w w2) := HB1.out.trans (hb2.mono HB1.out.size)
  clear hb2 HB1
  cases bq
  case true =>
    go_wp2
    go_ret
    exact ⟨rfl, HB2.out⟩
  have hn3 : lenA acs + acs.length ≤ 300 := hbn rfl
  clear hbn
  by_cases hcs : cs.length ≤ 20
  case neg =>
    have d20 : decide (20 < cs.length) = true := by simp; omega
    have d20' : decide ((20 : Int) < (cs.length : Int)) = true := by simp; omega
    go_wp2
    go_ret
    exact ⟨rfl, HB2.out⟩
  have d20 : decide (20 < cs.length) = false := by simp; omega
  have d20' : decide ((20 : Int) < (cs.length : Int)) = false := by simp; omega
  go_upto_region 6 with (go_at_call 11; refine (storeNew_any rng w2).mono ?_; rintro x w3 ⟨g, b, rfl, hA3, hb3, hg1, hg2⟩)
  clear d20 d20'
  go_upto_region 7 with fail
  have hM3 : Mine w.heap.size w3 g b rng col0 [] := by
    have h9 := new_mine hA3 hg1 hg2
    exact ⟨h9.S, h9.G, fun k hk => Nat.le_trans HB2.out.size (h9.a k hk)⟩
  have HB3 : Hid (Below w.heap.size w w3) := HB2.out.trans (hb3.mono HB2.out.size)
  refine Reg.wp_gen (fun w4 => SBoth w g b w3.heap.size rng col0 [] none 0 col0 [] w4) ?_ ?_
  · have hb : Below w3.heap.size w3 (w3.alloc (.cells #[.int .i64 rng, .slice none 0 0, .int .i64 0, .int .i64 0, .int .i64 0] 64)) := Reg.below_new _ _
    exact ⟨hM3.below hb, ⟨Mem.Bx.new w3 64 #[.int .i64 rng, .slice none 0 0, .int .i64 0, .int .i64 0, .int .i64 0] rfl rfl, Mem.Own.nil _ _ _, fun k h => by cases h⟩, HB3.out.trans (hb.mono HB3.out.size),
      (fun k h => by (rcases h with rfl | h); exact HB3.out.size; cases h), (fun k h h2 => by (rcases h2 with h2 | h2); (have h3 := hM3.S.lt h; omega); cases h2)⟩
  intro w4 hT4
  have HT4 := Lib.hid hT4
  obtain ⟨gd, hgd⟩ : ∃ gd, w3.heap.size = gd := ⟨_, rfl⟩
  rw [hgd] at HT4 ⊢
  clear hT4 hgd hM3 HB3 HB2 hA3 hb3 hg1 hg2
  go_wp2
  go_loopw [9] (SpRel w g b gd rng acs) (fun t _ => acs.length - (intOf t).toNat)
  case atStart => exact ⟨⟨0, col0, [], none, 0, [], Nat.zero_le _, rfl, by simp, HT4, Twin.start rng⟩⟩
  case round =>
    clear HT4
    obtain ⟨k, mk, rs, A1, c, L, hk, rfl, hll, HT, HTW0⟩ := hrel.out
    clear hrel
    have hlk := lenA_take acs k
    by_cases hlt : k < acs.length
    · obtain ⟨bq, o, hA0, hb, hcc⟩ := Mem.Rd.elem acCells_length HR.out hlt (by omega)
      subst hA0
      obtain ⟨a, haa⟩ : ∃ a, acs[k] = a := ⟨_, rfl⟩
      have hpk : acs[k]? = some a := by rw [← haa]; exact List.getElem?_eq_getElem hlt
      rw [haa] at hcc
      have HAC := Lib.hid (HD.out a (List.mem_of_getElem? hpk))
      have hts : lenA (acs.take (k + 1)) = lenA (acs.take k) + a.es.length := by rw [Mem.take_snoc hpk, lenA_snoc]
      have hlk1 := lenA_take acs (k + 1)
      obtain ⟨n, hna⟩ : ∃ n, a.es.length = n := ⟨_, rfl⟩
      have hn300 : a.es.length ≤ 300 := by omega
      have hl3 : L.length ≤ 300 := by omega
      have HLN : Hid (lenS (states rs) = L.length) := HTW0.out.len
      have HLS : Hid (lenS (states rs) + a.es.length ≤ 1000000) := by show _ ≤ _; rw [HLN.out]; omega
      have HLC : Hid (lenS (states rs) ≤ 1000000) := by show _ ≤ _; rw [HLN.out]; omega
      have HDC := Lib.hid HTW0.out.dc
      have HCC : Hid (∀ j u, (acCells a)[j]? = some u → wr.cell? ⟨bq, o + k * 5 + j, none⟩ = some u) := fun j u hu => by
        rw [Nat.add_assoc]
        exact (HT.out.bw.cell (p := ⟨bq, o + (k * 5 + j), none⟩) hb).trans (hcc j u hu)
      have hao := ac_one a
      have hl9 : lenA (acs.take k) + a.es.length ≤ 300 := by omega
      have HTS := Lib.hid hts
      clear hcc haa hpk hts
      go_upto_region 11 with (first | ((with_reducible refine Mem.load_agg _ _ act_agg bq (o + k * 5) (acCells a) ?hxpa (acCells_length _) HCC.out ?_); (case hxpa => exact rfl)) | ((with_reducible refine Mem.store_agg _ _ act_agg wr.heap.size (acCells ac0) (acCells a) ?hxpb ?hypb ?hbpb (acCells_length _) hao ?_); ((case hxpb => exact rfl); (case hypb => exact rfl); (case hbpb => exact Mem.Bx.new wr _ (acCells ac0).toArray rfl rfl); intro w5 hbq hkq hsq; have Hb5 := Lib.hid hbq; have Hk5 := Lib.hid hkq; clear hbq hkq hsq)))
      have HK5 : Hid (Below wr.heap.size wr w5) := (Hk5.out.newBox rfl).belowAll
      have HT5 := Lib.hid (HT.out.below HK5.out)
      have hgl : ∀ q, fpS g b rs q ∨ RB gd A1 q ∨ False → q < wr.heap.size := fun q h => by rcases h with h | h | h; exact HT.out.M.S.lt h; exact HT.out.D.lt q h; exact h.elim
      obtain ⟨ga, hga⟩ : ∃ ga, wr.heap.size = ga := ⟨_, rfl⟩
      have hwa : w.heap.size ≤ ga := by rw [← hga]; exact HT.out.bw.size
      rw [hga] at Hb5 hgl ⊢
      have HX5 : Hid (Mem.Bx w5 28 5 ga (acCells a)) := Hb5
      have HXn : Hid (¬ (fpS g b rs ga ∨ RB gd A1 ga ∨ False)) := fun h => by have := hgl _ h; omega
      have HGL := Lib.hid hgl
      have hg5 : ga < w5.heap.size := HX5.out.lt
      have x0 := HX5.out.cell (j := 0) rfl
      clear hga hgl Hb5 Hk5 HK5 HT HCC hao
      by_cases k1 : a.kind = 1
      · rw [k1] at x0
        have x1 := HX5.out.cell (j := 1) rfl
        rw [hna] at x1
        have hol : (a.es.flatMap entCells).length = n * 20 := by rw [ents_len, hna]
        have hoo := ents_one a.es
        have HLn : Hid (a.es ≠ [] → ∀ q, Mem.blk a.L = some q → q < w.heap.size) := fun h0 q h => rd_blk HAC.out.rd (fun h1 => by have h2 := hol; rw [h1] at h2; simp at h2; exact h0 (List.eq_nil_of_length_eq_zero (by omega))) q h
        have HRD5 := Lib.hid ((HAC.out.rd.below HT5.out.bw).alloc (Nat.le_trans (Nat.le_refl _) HT5.out.bw.size) (.cells #[] 40))
        have hn3' : n ≤ 300 := by omega
        have hn4 : n + 1 ≤ 301 := by omega
        have HTP := Lib.hid (HTW0.out.put mk a.es)
        have hlp : (rPut rng mk L a.es).1.length ≤ L.length + a.es.length := HTW0.out.lenPut a.es
        have HLP := Lib.hid hlp
        clear k1 hlp
        go_upto_region 14 with (first | (at_builtin; refine Mem.wpList_app0 _ rfl (.tmp 40) (.tmp 42) _ rfl entries_elem (some ⟨w5.heap.size, 0, none⟩) rfl w.heap.size a.L n a.lc (a.es.flatMap entCells) rfl ?_ (Mem.Own.lit w5 _ 20 #[] 0 rfl rfl (by simp [maxLen])) HRD5.out hol hoo (by unfold maxLen; omega) (by omega); intro B1 c1 w6 hown hbq hat; have HO6 := Lib.hid hown; have HB6 : Hid (Below w5.heap.size w5 w6) := (Reg.below_new _ _).trans (hbq.mono (by simp)); have HF6 : Hid (∀ q, Mem.blk B1 = some q → w5.heap.size ≤ q) := (fun q h => by rcases hat with h1 | h1; (rw [h1] at h; simp [Mem.blk] at h; omega); (rw [h1] at h; simp [Mem.blk] at h; omega)); have HRD6 := Lib.hid (Mem.Rd.alloc_new w6 (entCells e77).toArray 40 (0, 0) rfl); have HO6' := Lib.hid (HO6.out.keeps ((Mem.Keeps.refl (fun _ => False) w6).alloc (.cells (entCells e77).toArray 40)) (fun _ _ h => h)); clear hown hbq hat) | ((with_reducible refine Mem.build1_agg _ _ 20 _ Try.underlying22 entry_zero (by decide) (by decide) (entCells e77) ?hra (entCells_length _) ?_); (case hra => exact rfl)) | (at_builtin; refine Mem.wpList_app _ rfl (.tmp 43) (.tmp 45) _ rfl entries_elem B1 n c1 (a.es.flatMap entCells) rfl (w6.heap.size + 1) (some ⟨w6.heap.size, 0, none⟩) 1 1 (entCells e77) rfl ?_ HO6'.out HRD6.out rfl (ent_one e77) (by unfold maxLen; omega) (by omega); intro B2 c2 w7 hown hgr hat; have HG7 := Lib.hid hown; have HGr := Lib.hid hgr; have HAt := Lib.hid hat; clear hown hgr hat))
        have HK7 : Hid (Mem.Keeps (fun y => Mem.blk B1 = some y) w6 w7) := (((Mem.Keeps.refl (fun y => Mem.blk B1 = some y) w6).alloc _).grown HGr.out (fun k h _ => h))
        have HB7 : Hid (Below w5.heap.size w5 w7) := HB6.out.trans (HK7.out.below (fun q h => HF6.out q h) HB6.out.size)
        have HT7 := Lib.hid (HT5.out.below HB7.out)
        have HX7 : Hid (Mem.Bx w7 28 5 ga (acCells a)) := HX5.out.below HB7.out hg5
        have hB2 : ∀ q, Mem.blk B2 = some q → w5.heap.size ≤ q := fun q h => by
          rcases HAt.out with h1 | h1
          · rw [h1] at h; exact HF6.out q h
          · have := HB6.out.size
            rw [h1] at h; simp [Mem.blk] at h; omega
        obtain ⟨bB, oB, hB0⟩ := HG7.out.form (by omega)
        subst hB0
        have HBn : Hid (∀ q, Mem.blk (some (⟨bB, oB, none⟩ : Addr)) = some q → ¬ (fpS g b rs q ∨ RB gd A1 q)) := fun q h h2 => by
          have h3 := hB2 q h
          have h4 := HGL.out q (by rcases h2 with h2 | h2; exact .inl h2; exact .inr (.inl h2))
          omega
        have HEs : Hid (∀ U : World, Mem.Own U 40 20 (some ⟨bB, oB, none⟩) (n + 1) c2 (a.es.flatMap entCells ++ entCells e77) → EOwn U (some ⟨bB, oB, none⟩) c2 a.es) := fun U hU => by
          have h9 := hU.take (k := n) (by omega)
          rw [List.take_append, hol, Nat.sub_self, List.take_zero, List.append_nil, List.take_of_length_le (by omega)] at h9
          show Mem.Own _ _ _ _ _ _ _
          rw [hna]
          exact h9
        have hbB : bB < w7.heap.size := HG7.out.lt rfl
        have hc2 : n + 1 ≤ c2 := HG7.out.le
        have hc3 : n ≤ c2 := by omega
        have H77 : Hid (w7.cell? ⟨bB, oB + n * 20 + 19, none⟩ = some (.int .i64 (-77))) := by
          have h9 := HG7.out.cell (j := n * 20 + 19) (u := .int .i64 (-77)) (by rw [List.getElem?_append_right (by omega), hol, show n * 20 + 19 - n * 20 = 19 by omega]; rfl)
          rw [← Nat.add_assoc] at h9
          exact h9
        clear HO6 HB6 HF6 HRD6 HO6' HGr HAt HK7 HB7 hB2 HRD5 x0 x1 hol hoo
        refine Reg.wp_region_w (by kernel_rfl) 96 33 rfl rfl (by kernel_rfl) (6) (fpS g b rs) (10) (RB gd A1) (6) (fun _ => False)
          (fun i v u => match i with
            | 0 => v = .pointer (some ⟨g, 0, none⟩)
            | 1 => v = .slice (some ⟨bB, oB, none⟩) (n + 1) c2
            | 2 => v = .pointer (some ⟨ga, 1, none⟩)
            | 3 => v = .slice a.L n a.lc
            | 4 => v = .int .i64 ((n : Nat) : Int)
            | 5 => v = .slice (some ⟨bB, oB, none⟩) n c2
            | 6 => v = .int .i64 ((putL rng mk (states rs) a.es).2 : Nat) ∧ ∃ rs', states rs' = (putL rng mk (states rs) a.es).1 ∧ SBoth w g b gd rng mk rs' A1 c mk L u
            | 7 => v = .pointer (some ⟨gd, 0, none⟩)
            | 8 => v = .pointer (some ⟨ga, 1, none⟩)
            | 9 => v = .slice a.L n a.lc
            | 10 => v = .int .i64 ((putL rng mk (states rs) a.es).2 : Nat) ∧ ∃ rs' A' c', states rs' = (putL rng mk (states rs) a.es).1 ∧ SBoth w g b gd rng mk rs' A' c' mk (rPut rng mk L a.es).1 u
            | 11 => v = .bool false
            | 12 => v = .bool false
            | 13 => v = .slice (some ⟨bB, oB, none⟩) (n + 1) c2
            | 14 => v = .pointer (some ⟨ga, 1, none⟩)
            | 15 => v = .slice a.L n a.lc
            | 16 => v = .int .i64 ((n : Nat) : Int)
            | 17 => v = .slice (some ⟨bB, oB, none⟩) n c2
            | 18 => v = .pointer (some ⟨ga, 1, none⟩)
            | 19 => v = .slice a.L n a.lc
            | 20 => v = .bool true
            | 21 => v = .bool false
            | 22 => v = .bool false
            | 23 => v = .bool false
            | 24 => v = .slice (some ⟨bB, oB, none⟩) (n + 1) c2
            | 25 => v = .pointer (some ⟨ga, 1, none⟩)
            | 26 => v = .slice a.L n a.lc
            | 27 => v = .int .i64 ((n : Nat) : Int)
            | 28 => v = .pointer (some ⟨bB, oB + n * 20, none⟩)
            | 29 => v = .pointer (some ⟨bB, oB + n * 20 + 19, none⟩)
            | 30 => v = .int .i64 (-77)
            | 31 => v = .bool false
            | 32 => v = .bool false
            | _ => True) ?_ ?_
        · refine Reg.Steps.cons ?_ (Reg.Steps.cons ?_ (Reg.Steps.cons ?_ (Reg.Steps.cons ?_ (Reg.Steps.cons ?_ (Reg.Steps.cons ?_ (Reg.Steps.cons ?_ (Reg.Steps.cons ?_ (Reg.Steps.cons ?_ (Reg.Steps.cons ?_ (Reg.Steps.cons ?_ (Reg.Steps.cons ?_ (Reg.Steps.cons ?_ (Reg.Steps.cons ?_ (Reg.Steps.cons ?_ (Reg.Steps.cons ?_ (Reg.Steps.cons ?_ (Reg.Steps.cons ?_ (Reg.Steps.cons ?_ (Reg.Steps.cons ?_ (Reg.Steps.cons ?_ (Reg.Steps.cons ?_ (Reg.Steps.cons ?_ (Reg.Steps.cons ?_ (Reg.Steps.cons ?_ (Reg.Steps.cons ?_ (Reg.Steps.cons ?_ (Reg.Steps.cons ?_ (Reg.Steps.cons ?_ (Reg.Steps.cons ?_ (Reg.Steps.cons ?_ (Reg.Steps.cons ?_ (Reg.Steps.cons ?_ (Reg.Steps.nil _)))))))))))))))))))))))))))))))))
          · intro val ac u hR hp ha K hK
            have e7 : (ac.tmps[7]?).getD undef = .pointer (some ⟨g, 0, none⟩) := ha 7 (by decide); clear ha hp
            refine Reg.Op1.plain rfl ?_
            go_wp2
            exact ⟨rfl, hK _ _ rfl (Reg.Wr.same _)⟩
          · intro val ac u hR hp ha K hK
            have e11 : (ac.tmps[11]?).getD undef = .slice (some ⟨bB, oB, none⟩) (n + 1) c2 := ha 11 (by decide); clear ha hp
            refine Reg.Op1.plain rfl ?_
            go_wp2
            exact ⟨rfl, hK _ _ rfl (Reg.Wr.same _)⟩
          · intro val ac u hR hp ha K hK
            have e10 : (ac.tmps[10]?).getD undef = .pointer (some ⟨ga, 0, none⟩) := ha 10 (by decide); clear ha hp
            refine Reg.Op1.plain rfl ?_
            go_wp2
            exact ⟨rfl, hK _ _ rfl (Reg.Wr.same _)⟩
          · intro val ac u hR hp ha K hK
            obtain ⟨w49, h49, r49⟩ := hp 2 (by decide); have e49 : (ac.tmps[49]?).getD undef = .pointer (some ⟨ga, 1, none⟩) := (ha 49 (by decide)).trans h49; clear h49 ha hp
            refine Reg.Op1.plain rfl ?_
            have hq := (Mem.Keeps.refl (fun k => fpS g b rs k ∨ RB gd A1 k ∨ False) w7).drew.trans (Reg.Wr.all hR) (fun _ h _ => h)
            have x0 := (HX7.out.keeps hq HXn.out).cell (j := 1) rfl
            rw [hna] at x0
            go_wp2
            exact ⟨rfl, hK _ _ rfl (Reg.Wr.same _)⟩
          · intro val ac u hR hp ha K hK
            obtain ⟨w50, h50, r50⟩ := hp 3 (by decide); have e50 : (ac.tmps[50]?).getD undef = .slice a.L n a.lc := (ha 50 (by decide)).trans h50; clear h50 ha hp
            refine Reg.Op1.plain rfl ?_
            go_wp2
            exact ⟨rfl, hK _ _ rfl (Reg.Wr.same _)⟩
          · intro val ac u hR hp ha K hK
            obtain ⟨w48, h48, r48⟩ := hp 1 (by decide); have e48 : (ac.tmps[48]?).getD undef = .slice (some ⟨bB, oB, none⟩) (n + 1) c2 := (ha 48 (by decide)).trans h48; obtain ⟨w51, h51, r51⟩ := hp 4 (by decide); have e51 : (ac.tmps[51]?).getD undef = .int .i64 ((n : Nat) : Int) := (ha 51 (by decide)).trans h51; clear h48 h51 ha hp
            refine Reg.Op1.plain rfl ?_
            go_wp2
            exact ⟨rfl, hK _ _ rfl (Reg.Wr.same _)⟩
          · intro val ac u hR hp ha K hK
            obtain ⟨w47, h47, r47⟩ := hp 0 (by decide); have e47 : (ac.tmps[47]?).getD undef = .pointer (some ⟨g, 0, none⟩) := (ha 47 (by decide)).trans h47; obtain ⟨w52, h52, r52⟩ := hp 5 (by decide); have e52 : (ac.tmps[52]?).getD undef = .slice (some ⟨bB, oB, none⟩) n c2 := (ha 52 (by decide)).trans h52; clear h47 h52 ha hp
            refine Reg.Op1.plain rfl ?_
            have hq := (Mem.Keeps.refl (fun _ => False) w7).drew.trans (Reg.Wr.none hR (by decide +kernel) (by decide +kernel) (by decide +kernel)) (fun _ h _ => h)
            have hT := HT7.out.quiet hq
            have hG := HG7.out.keeps hq (fun _ _ h => h)
            have hne : ∀ q, Mem.blk (some (⟨bB, oB, none⟩ : Addr)) = some q → ¬ fpS g b rs q := fun q h h2 => HBn.out q h (.inl h2)
            have hp := storePut_any rng g b mk rs (some ⟨bB, oB, none⟩) c2 a.es u hT.M.S hT.M.G (HEs.out u hG) hne HLS.out
            rw [hna] at hp
            go_wp2_with fail
            refine hp.mono ?_
            rintro x w' ⟨rs', rfl, h1, h2, h3, h4, h5⟩
            go_wp2_with fail
            exact ⟨rfl, hK _ _ ⟨by first | rfl | rw [h1], rs', h1, hT.stepS h2 h3 h4 h5⟩ (Reg.Wr.does1 h4)⟩
          · intro val ac u hR hp ha K hK
            have e8 : (ac.tmps[8]?).getD undef = .pointer (some ⟨gd, 0, none⟩) := ha 8 (by decide); clear ha hp
            refine Reg.Op1.plain rfl ?_
            go_wp2
            exact ⟨rfl, hK _ _ rfl (Reg.Wr.same _)⟩
          · intro val ac u hR hp ha K hK
            have e10 : (ac.tmps[10]?).getD undef = .pointer (some ⟨ga, 0, none⟩) := ha 10 (by decide); clear ha hp
            refine Reg.Op1.plain rfl ?_
            go_wp2
            exact ⟨rfl, hK _ _ rfl (Reg.Wr.same _)⟩
          · intro val ac u hR hp ha K hK
            obtain ⟨w55, h55, r55⟩ := hp 8 (by decide); have e55 : (ac.tmps[55]?).getD undef = .pointer (some ⟨ga, 1, none⟩) := (ha 55 (by decide)).trans h55; clear h55 ha hp
            refine Reg.Op1.plain rfl ?_
            have hq := (Mem.Keeps.refl (fun k => fpS g b rs k ∨ RB gd A1 k ∨ False) w7).drew.trans (Reg.Wr.all hR) (fun _ h _ => h)
            have x0 := (HX7.out.keeps hq HXn.out).cell (j := 1) rfl
            rw [hna] at x0
            go_wp2
            exact ⟨rfl, hK _ _ rfl (Reg.Wr.same _)⟩
          · intro val ac u hR hp ha K hK
            obtain ⟨w54, h54, r54⟩ := hp 7 (by decide); have e54 : (ac.tmps[54]?).getD undef = .pointer (some ⟨gd, 0, none⟩) := (ha 54 (by decide)).trans h54; obtain ⟨w56, h56, r56⟩ := hp 9 (by decide); have e56 : (ac.tmps[56]?).getD undef = .slice a.L n a.lc := (ha 56 (by decide)).trans h56; obtain ⟨w53, h53, r53⟩ := hp 6 (by decide); clear h54 h56 ha hp
            refine Reg.Op1.plain rfl ?_
            obtain ⟨_, rs', hs', hT0⟩ := h53
            have hT := hT0.quiet (Reg.Wr.none r53 (by decide +kernel) (by decide +kernel) (by decide +kernel))
            have hp := refPut_any rng mk gd A1 c L a.L a.lc a.es u hT.D ((HAC.out.rd.below hT.bw).more hT.bw.size) hn300 (by omega) (fun h0 q h h2 => by have h3 := hT.dw q h2; have h4 := HLn.out h0 q h; omega)
            rw [hna] at hp
            go_wp2_with fail
            refine hp.mono ?_
            rintro x w' ⟨A', c', rfl, hA', hk', hq'⟩
            rw [HTP.out.1]
            go_wp2_with fail
            exact ⟨rfl, hK _ _ ⟨rfl, rs', A', c', hs', hT.stepD hA' hk' hq'⟩ (Reg.Wr.does2 hk')⟩
          · intro val ac u hR hp ha K hK
            obtain ⟨w53, h53, r53⟩ := hp 6 (by decide); have e53 : (ac.tmps[53]?).getD undef = val 6 := ha 53 (by decide); obtain ⟨w57, h57, r57⟩ := hp 10 (by decide); have e57 : (ac.tmps[57]?).getD undef = val 10 := ha 57 (by decide); clear ha hp
            refine Reg.Op1.plain rfl ?_
            rw [h53.1] at e53
            rw [h57.1] at e57
            have hbb : (((putL rng mk (states rs) a.es).2 : Int) != ((putL rng mk (states rs) a.es).2 : Int)) = false := by simp
            go_wp2
            exact ⟨rfl, hK _ _ rfl (Reg.Wr.same _)⟩
          · intro val ac u hR hp ha K hK
            obtain ⟨w58, h58, r58⟩ := hp 11 (by decide); have e58 : (ac.tmps[58]?).getD undef = .bool false := (ha 58 (by decide)).trans h58; clear h58 ha hp
            refine Reg.Op1.plain rfl ?_
            go_wp2
            exact ⟨rfl, hK _ _ rfl (Reg.Wr.same _)⟩
          · intro val ac u hR hp ha K hK
            have e11 : (ac.tmps[11]?).getD undef = .slice (some ⟨bB, oB, none⟩) (n + 1) c2 := ha 11 (by decide); obtain ⟨w59, h59, r59⟩ := hp 12 (by decide); have e59 : (ac.tmps[59]?).getD undef = .bool false := (ha 59 (by decide)).trans h59; clear h59 ha hp
            refine Reg.Op1.guarded rfl rfl e59 (fun _ => Reg.Op1.plain rfl ?_) (fun h => absurd rfl h)
            go_wp2
            exact ⟨rfl, hK _ _ rfl (Reg.Wr.same _)⟩
          · intro val ac u hR hp ha K hK
            have e10 : (ac.tmps[10]?).getD undef = .pointer (some ⟨ga, 0, none⟩) := ha 10 (by decide); obtain ⟨w59, h59, r59⟩ := hp 12 (by decide); have e59 : (ac.tmps[59]?).getD undef = .bool false := (ha 59 (by decide)).trans h59; clear h59 ha hp
            refine Reg.Op1.guarded rfl rfl e59 (fun _ => Reg.Op1.plain rfl ?_) (fun h => absurd rfl h)
            go_wp2
            exact ⟨rfl, hK _ _ rfl (Reg.Wr.same _)⟩
          · intro val ac u hR hp ha K hK
            obtain ⟨w61, h61, r61⟩ := hp 14 (by decide); have e61 : (ac.tmps[61]?).getD undef = .pointer (some ⟨ga, 1, none⟩) := (ha 61 (by decide)).trans h61; obtain ⟨w59, h59, r59⟩ := hp 12 (by decide); have e59 : (ac.tmps[59]?).getD undef = .bool false := (ha 59 (by decide)).trans h59; clear h61 h59 ha hp
            refine Reg.Op1.guarded rfl rfl e59 (fun _ => Reg.Op1.plain rfl ?_) (fun h => absurd rfl h)
            have hq := (Mem.Keeps.refl (fun k => fpS g b rs k ∨ RB gd A1 k ∨ False) w7).drew.trans (Reg.Wr.all hR) (fun _ h _ => h)
            have x0 := (HX7.out.keeps hq HXn.out).cell (j := 1) rfl
            rw [hna] at x0
            go_wp2
            exact ⟨rfl, hK _ _ rfl (Reg.Wr.same _)⟩
          · intro val ac u hR hp ha K hK
            obtain ⟨w62, h62, r62⟩ := hp 15 (by decide); have e62 : (ac.tmps[62]?).getD undef = .slice a.L n a.lc := (ha 62 (by decide)).trans h62; obtain ⟨w59, h59, r59⟩ := hp 12 (by decide); have e59 : (ac.tmps[59]?).getD undef = .bool false := (ha 59 (by decide)).trans h59; clear h62 h59 ha hp
            refine Reg.Op1.guarded rfl rfl e59 (fun _ => Reg.Op1.plain rfl ?_) (fun h => absurd rfl h)
            go_wp2
            exact ⟨rfl, hK _ _ rfl (Reg.Wr.same _)⟩
          · intro val ac u hR hp ha K hK
            obtain ⟨w60, h60, r60⟩ := hp 13 (by decide); have e60 : (ac.tmps[60]?).getD undef = .slice (some ⟨bB, oB, none⟩) (n + 1) c2 := (ha 60 (by decide)).trans h60; obtain ⟨w63, h63, r63⟩ := hp 16 (by decide); have e63 : (ac.tmps[63]?).getD undef = .int .i64 ((n : Nat) : Int) := (ha 63 (by decide)).trans h63; obtain ⟨w59, h59, r59⟩ := hp 12 (by decide); have e59 : (ac.tmps[59]?).getD undef = .bool false := (ha 59 (by decide)).trans h59; clear h60 h63 h59 ha hp
            refine Reg.Op1.guarded rfl rfl e59 (fun _ => Reg.Op1.plain rfl ?_) (fun h => absurd rfl h)
            go_wp2
            exact ⟨rfl, hK _ _ rfl (Reg.Wr.same _)⟩
          · intro val ac u hR hp ha K hK
            have e10 : (ac.tmps[10]?).getD undef = .pointer (some ⟨ga, 0, none⟩) := ha 10 (by decide); obtain ⟨w59, h59, r59⟩ := hp 12 (by decide); have e59 : (ac.tmps[59]?).getD undef = .bool false := (ha 59 (by decide)).trans h59; clear h59 ha hp
            refine Reg.Op1.guarded rfl rfl e59 (fun _ => Reg.Op1.plain rfl ?_) (fun h => absurd rfl h)
            go_wp2
            exact ⟨rfl, hK _ _ rfl (Reg.Wr.same _)⟩
          · intro val ac u hR hp ha K hK
            obtain ⟨w65, h65, r65⟩ := hp 18 (by decide); have e65 : (ac.tmps[65]?).getD undef = .pointer (some ⟨ga, 1, none⟩) := (ha 65 (by decide)).trans h65; obtain ⟨w59, h59, r59⟩ := hp 12 (by decide); have e59 : (ac.tmps[59]?).getD undef = .bool false := (ha 59 (by decide)).trans h59; clear h65 h59 ha hp
            refine Reg.Op1.guarded rfl rfl e59 (fun _ => Reg.Op1.plain rfl ?_) (fun h => absurd rfl h)
            have hq := (Mem.Keeps.refl (fun k => fpS g b rs k ∨ RB gd A1 k ∨ False) w7).drew.trans (Reg.Wr.all hR) (fun _ h _ => h)
            have x0 := (HX7.out.keeps hq HXn.out).cell (j := 1) rfl
            rw [hna] at x0
            go_wp2
            exact ⟨rfl, hK _ _ rfl (Reg.Wr.same _)⟩
          · intro val ac u hR hp ha K hK
            obtain ⟨w64, h64, r64⟩ := hp 17 (by decide); have e64 : (ac.tmps[64]?).getD undef = .slice (some ⟨bB, oB, none⟩) n c2 := (ha 64 (by decide)).trans h64; obtain ⟨w66, h66, r66⟩ := hp 19 (by decide); have e66 : (ac.tmps[66]?).getD undef = .slice a.L n a.lc := (ha 66 (by decide)).trans h66; obtain ⟨w59, h59, r59⟩ := hp 12 (by decide); have e59 : (ac.tmps[59]?).getD undef = .bool false := (ha 59 (by decide)).trans h59; clear h64 h66 h59 ha hp
            refine Reg.Op1.guarded rfl rfl e59 (fun _ => Reg.Op1.plain rfl ?_) (fun h => absurd rfl h)
            have hq := (Mem.Keeps.refl (fun k => fpS g b rs k ∨ RB gd A1 k ∨ False) w7).drew.trans (Reg.Wr.all hR) (fun _ h _ => h)
            have hG := HG7.out.keeps hq (fun q h h2 => HBn.out q h (by rcases h2 with h2 | h2 | h2; exact .inl h2; exact .inr h2; exact h2.elim))
            have hbu : Below w.heap.size w u := HT7.out.bw.trans (hq.below (fun q h2 => by rcases h2 with h2 | h2 | h2; exact HT7.out.M.a q h2; exact HT7.out.dw q h2; exact h2.elim) HT7.out.bw.size)
            have hp := entries_same (some ⟨bB, oB, none⟩) a.L c2 a.lc a.es u (HEs.out u hG).rd ((HAC.out.rd.below hbu).more hbu.size) (by unfold maxLen; omega)
            rw [hna] at hp
            go_wp2_with fail
            refine hp.mono ?_
            rintro x w' ⟨rfl, hbw⟩
            go_wp2_with fail
            exact ⟨rfl, hK _ _ rfl (Reg.Wr.below hbw)⟩
          · intro val ac u hR hp ha K hK
            obtain ⟨w67, h67, r67⟩ := hp 20 (by decide); have e67 : (ac.tmps[67]?).getD undef = .bool true := (ha 67 (by decide)).trans h67; obtain ⟨w59, h59, r59⟩ := hp 12 (by decide); have e59 : (ac.tmps[59]?).getD undef = .bool false := (ha 59 (by decide)).trans h59; clear h67 h59 ha hp
            refine Reg.Op1.guarded rfl rfl e59 (fun _ => Reg.Op1.plain rfl ?_) (fun h => absurd rfl h)
            go_wp2
            exact ⟨rfl, hK _ _ rfl (Reg.Wr.same _)⟩
          · intro val ac u hR hp ha K hK
            obtain ⟨w59, h59, r59⟩ := hp 12 (by decide); have e59 : (ac.tmps[59]?).getD undef = .bool false := (ha 59 (by decide)).trans h59; obtain ⟨w68, h68, r68⟩ := hp 21 (by decide); have e68 : (ac.tmps[68]?).getD undef = .bool false := (ha 68 (by decide)).trans h68; clear h59 h68 ha hp
            refine Reg.Op1.plain rfl ?_
            go_wp2
            exact ⟨rfl, hK _ _ rfl (Reg.Wr.same _)⟩
          · intro val ac u hR hp ha K hK
            obtain ⟨w69, h69, r69⟩ := hp 22 (by decide); have e69 : (ac.tmps[69]?).getD undef = .bool false := (ha 69 (by decide)).trans h69; clear h69 ha hp
            refine Reg.Op1.plain rfl ?_
            go_wp2
            exact ⟨rfl, hK _ _ rfl (Reg.Wr.same _)⟩
          · intro val ac u hR hp ha K hK
            have e11 : (ac.tmps[11]?).getD undef = .slice (some ⟨bB, oB, none⟩) (n + 1) c2 := ha 11 (by decide); obtain ⟨w70, h70, r70⟩ := hp 23 (by decide); have e70 : (ac.tmps[70]?).getD undef = .bool false := (ha 70 (by decide)).trans h70; clear h70 ha hp
            refine Reg.Op1.guarded rfl rfl e70 (fun _ => Reg.Op1.plain rfl ?_) (fun h => absurd rfl h)
            go_wp2
            exact ⟨rfl, hK _ _ rfl (Reg.Wr.same _)⟩
          · intro val ac u hR hp ha K hK
            have e10 : (ac.tmps[10]?).getD undef = .pointer (some ⟨ga, 0, none⟩) := ha 10 (by decide); obtain ⟨w70, h70, r70⟩ := hp 23 (by decide); have e70 : (ac.tmps[70]?).getD undef = .bool false := (ha 70 (by decide)).trans h70; clear h70 ha hp
            refine Reg.Op1.guarded rfl rfl e70 (fun _ => Reg.Op1.plain rfl ?_) (fun h => absurd rfl h)
            go_wp2
            exact ⟨rfl, hK _ _ rfl (Reg.Wr.same _)⟩
          · intro val ac u hR hp ha K hK
            obtain ⟨w72, h72, r72⟩ := hp 25 (by decide); have e72 : (ac.tmps[72]?).getD undef = .pointer (some ⟨ga, 1, none⟩) := (ha 72 (by decide)).trans h72; obtain ⟨w70, h70, r70⟩ := hp 23 (by decide); have e70 : (ac.tmps[70]?).getD undef = .bool false := (ha 70 (by decide)).trans h70; clear h72 h70 ha hp
            refine Reg.Op1.guarded rfl rfl e70 (fun _ => Reg.Op1.plain rfl ?_) (fun h => absurd rfl h)
            have hq := (Mem.Keeps.refl (fun k => fpS g b rs k ∨ RB gd A1 k ∨ False) w7).drew.trans (Reg.Wr.all hR) (fun _ h _ => h)
            have x0 := (HX7.out.keeps hq HXn.out).cell (j := 1) rfl
            rw [hna] at x0
            go_wp2
            exact ⟨rfl, hK _ _ rfl (Reg.Wr.same _)⟩
          · intro val ac u hR hp ha K hK
            obtain ⟨w73, h73, r73⟩ := hp 26 (by decide); have e73 : (ac.tmps[73]?).getD undef = .slice a.L n a.lc := (ha 73 (by decide)).trans h73; obtain ⟨w70, h70, r70⟩ := hp 23 (by decide); have e70 : (ac.tmps[70]?).getD undef = .bool false := (ha 70 (by decide)).trans h70; clear h73 h70 ha hp
            refine Reg.Op1.guarded rfl rfl e70 (fun _ => Reg.Op1.plain rfl ?_) (fun h => absurd rfl h)
            go_wp2
            exact ⟨rfl, hK _ _ rfl (Reg.Wr.same _)⟩
          · intro val ac u hR hp ha K hK
            obtain ⟨w71, h71, r71⟩ := hp 24 (by decide); have e71 : (ac.tmps[71]?).getD undef = .slice (some ⟨bB, oB, none⟩) (n + 1) c2 := (ha 71 (by decide)).trans h71; obtain ⟨w74, h74, r74⟩ := hp 27 (by decide); have e74 : (ac.tmps[74]?).getD undef = .int .i64 ((n : Nat) : Int) := (ha 74 (by decide)).trans h74; obtain ⟨w70, h70, r70⟩ := hp 23 (by decide); have e70 : (ac.tmps[70]?).getD undef = .bool false := (ha 70 (by decide)).trans h70; clear h71 h74 h70 ha hp
            refine Reg.Op1.guarded rfl rfl e70 (fun _ => Reg.Op1.plain rfl ?_) (fun h => absurd rfl h)
            go_wp2
            exact ⟨rfl, hK _ _ rfl (Reg.Wr.same _)⟩
          · intro val ac u hR hp ha K hK
            obtain ⟨w75, h75, r75⟩ := hp 28 (by decide); have e75 : (ac.tmps[75]?).getD undef = .pointer (some ⟨bB, oB + n * 20, none⟩) := (ha 75 (by decide)).trans h75; obtain ⟨w70, h70, r70⟩ := hp 23 (by decide); have e70 : (ac.tmps[70]?).getD undef = .bool false := (ha 70 (by decide)).trans h70; clear h75 h70 ha hp
            refine Reg.Op1.guarded rfl rfl e70 (fun _ => Reg.Op1.plain rfl ?_) (fun h => absurd rfl h)
            go_wp2
            exact ⟨rfl, hK _ _ rfl (Reg.Wr.same _)⟩
          · intro val ac u hR hp ha K hK
            obtain ⟨w76, h76, r76⟩ := hp 29 (by decide); have e76 : (ac.tmps[76]?).getD undef = .pointer (some ⟨bB, oB + n * 20 + 19, none⟩) := (ha 76 (by decide)).trans h76; obtain ⟨w70, h70, r70⟩ := hp 23 (by decide); have e70 : (ac.tmps[70]?).getD undef = .bool false := (ha 70 (by decide)).trans h70; clear h76 h70 ha hp
            refine Reg.Op1.guarded rfl rfl e70 (fun _ => Reg.Op1.plain rfl ?_) (fun h => absurd rfl h)
            have hq := (Mem.Keeps.refl (fun k => fpS g b rs k ∨ RB gd A1 k ∨ False) w7).drew.trans (Reg.Wr.all hR) (fun _ h _ => h)
            have x0 := (hq.cell (p := ⟨bB, oB + n * 20 + 19, none⟩) hbB (fun h2 => HBn.out bB rfl (by rcases h2 with h2 | h2 | h2; exact .inl h2; exact .inr h2; exact h2.elim))).trans H77.out
            go_wp2
            exact ⟨rfl, hK _ _ rfl (Reg.Wr.same _)⟩
          · intro val ac u hR hp ha K hK
            obtain ⟨w77, h77, r77⟩ := hp 30 (by decide); have e77 : (ac.tmps[77]?).getD undef = .int .i64 (-77) := (ha 77 (by decide)).trans h77; obtain ⟨w70, h70, r70⟩ := hp 23 (by decide); have e70 : (ac.tmps[70]?).getD undef = .bool false := (ha 70 (by decide)).trans h70; clear h77 h70 ha hp
            refine Reg.Op1.guarded rfl rfl e70 (fun _ => Reg.Op1.plain rfl ?_) (fun h => absurd rfl h)
            go_wp2
            exact ⟨rfl, hK _ _ rfl (Reg.Wr.same _)⟩
          · intro val ac u hR hp ha K hK
            obtain ⟨w70, h70, r70⟩ := hp 23 (by decide); have e70 : (ac.tmps[70]?).getD undef = .bool false := (ha 70 (by decide)).trans h70; obtain ⟨w78, h78, r78⟩ := hp 31 (by decide); have e78 : (ac.tmps[78]?).getD undef = .bool false := (ha 78 (by decide)).trans h78; clear h70 h78 ha hp
            refine Reg.Op1.plain rfl ?_
            go_wp2
            exact ⟨rfl, hK _ _ rfl (Reg.Wr.same _)⟩
        intro val u hR H
        obtain ⟨_, hv, _⟩ := H 32 (by decide)
        have hv : val 32 = .bool false := hv
        obtain ⟨wb, ⟨_, rs', A', c', hs', hT0⟩, rb⟩ := H 10 (by decide)
        have hT := hT0.quiet (Reg.Wr.none rb (by decide +kernel) (by decide +kernel) (by decide +kernel))
        have HTB := Lib.hid hT
        have HTW : Hid (Sto.Twin rng (states rs') (rPut rng mk L a.es).1) := by show Sto.Twin _ _ _; rw [hs']; exact HTP.out.2
        simp only [List.map_cons, List.map_nil, Reg.lay, Act.put, List.setIfInBounds_toArray, List.set_cons_succ, List.set_cons_zero, Nat.reduceAdd, hv]
        clear hR H hv rb hT hT0 hs'
        obtain ⟨w8, hw8⟩ : ∃ z, z = u := ⟨_, rfl⟩
        subst hw8
        have hl8 : (rPut rng mk L a.es).1.length ≤ 300 := by have := HLP.out; omega
        have hm8 : (rPut rng mk L a.es).1.length ≤ lenA (acs.take (k + 1)) := by have := HLP.out; have := HTS.out; omega
        obtain ⟨L', hL'⟩ : ∃ L', (rPut rng mk L a.es).1 = L' := ⟨_, rfl⟩
        rw [hL'] at hl8 hm8 HTB HTW
        clear HT7 HX7 HG7 HEs H77 HTP HLP hL' hc2 hc3 hbB HBn HT5 HX5 HXn HGL
        have HLK := Lib.hid (looks_any (cc := cc) (HTB.out.look HRC.out) HTW.out hl8 hcs)
        go_wp2_with (go_at_call 28; refine HLK.out.mono ?_; clear HLK; rintro x w9 ⟨rfl, hb9⟩; have HT9 := Lib.hid (HTB.out.below hb9))
        go_roundw
        case rel => exact ⟨⟨k + 1, mk, rs', A', c', L', by omega, by go_num, hm8, HT9, HTW⟩⟩
        case measure => simp [intOf]; omega
      · by_cases k2 : a.kind = 2
        · rw [k2] at x0
          have HTC := Lib.hid (HTW0.out.collect (maxC mk a.col))
          have HTN := Lib.hid (HTW0.out.collN (maxC mk a.col))
          clear k1 k2
          go_upto_region 17 with fail
          clear x0
          refine Reg.wp_region_w (by kernel_rfl) 96 9 rfl rfl (by kernel_rfl) (3) (fpS g b rs) (7) (RB gd A1) (3) (fun _ => False)
            (fun i v u => match i with
              | 0 => v = .pointer (some ⟨g, 0, none⟩)
              | 1 => v = .pointer (some ⟨ga, 2, none⟩)
              | 2 => v = Vec.C a.col
              | 3 => v = .int .i64 ((lenS (states rs) - lenS (collectS (maxC mk a.col) (states rs)) : Nat)) ∧ ∃ rs', states rs' = collectS (maxC mk a.col) (states rs) ∧ SBoth w g b gd rng (maxC mk a.col) rs' A1 c mk L u
              | 4 => v = .pointer (some ⟨gd, 0, none⟩)
              | 5 => v = .pointer (some ⟨ga, 2, none⟩)
              | 6 => v = Vec.C a.col
              | 7 => v = .int .i64 ((lenS (states rs) - lenS (collectS (maxC mk a.col) (states rs)) : Nat)) ∧ ∃ rs' A' c', states rs' = collectS (maxC mk a.col) (states rs) ∧ SBoth w g b gd rng (maxC mk a.col) rs' A' c' (maxC mk a.col) (rColl (maxC mk a.col) L) u
              | 8 => v = .bool false
              | _ => True) ?_ ?_
          · refine Reg.Steps.cons ?_ (Reg.Steps.cons ?_ (Reg.Steps.cons ?_ (Reg.Steps.cons ?_ (Reg.Steps.cons ?_ (Reg.Steps.cons ?_ (Reg.Steps.cons ?_ (Reg.Steps.cons ?_ (Reg.Steps.cons ?_ (Reg.Steps.nil _)))))))))
            · intro val ac u hR hp ha K hK
              have e7 : (ac.tmps[7]?).getD undef = .pointer (some ⟨g, 0, none⟩) := ha 7 (by decide); clear ha hp
              refine Reg.Op1.plain rfl ?_
              go_wp2
              exact ⟨rfl, hK _ _ rfl (Reg.Wr.same _)⟩
            · intro val ac u hR hp ha K hK
              have e10 : (ac.tmps[10]?).getD undef = .pointer (some ⟨ga, 0, none⟩) := ha 10 (by decide); clear ha hp
              refine Reg.Op1.plain rfl ?_
              go_wp2
              exact ⟨rfl, hK _ _ rfl (Reg.Wr.same _)⟩
            · intro val ac u hR hp ha K hK
              obtain ⟨w83, h83, r83⟩ := hp 1 (by decide); have e83 : (ac.tmps[83]?).getD undef = .pointer (some ⟨ga, 2, none⟩) := (ha 83 (by decide)).trans h83; clear h83 ha hp
              refine Reg.Op1.plain rfl ?_
              have hq := (Mem.Keeps.refl (fun k => fpS g b rs k ∨ RB gd A1 k ∨ False) w5).drew.trans (Reg.Wr.all hR) (fun _ h _ => h)
              refine Mem.load_agg _ _ col_agg ga 2 (colCells a.col) (Reg.eval_of e83) (Sto.colCells_length _) ((HX5.out.keeps hq HXn.out).part 2 rfl) ?_
              exact ⟨rfl, hK _ _ rfl (Reg.Wr.same _)⟩
            · intro val ac u hR hp ha K hK
              obtain ⟨w82, h82, r82⟩ := hp 0 (by decide); have e82 : (ac.tmps[82]?).getD undef = .pointer (some ⟨g, 0, none⟩) := (ha 82 (by decide)).trans h82; obtain ⟨w84, h84, r84⟩ := hp 2 (by decide); have e84 : (ac.tmps[84]?).getD undef = Vec.C a.col := (ha 84 (by decide)).trans h84; clear h82 h84 ha hp
              refine Reg.Op1.plain rfl ?_
              have hq := (Mem.Keeps.refl (fun _ => False) w5).drew.trans (Reg.Wr.none hR (by decide +kernel) (by decide +kernel) (by decide +kernel)) (fun _ h _ => h)
              have hT := HT5.out.quiet hq
              have hp := storeCollect_any hT.M.S hT.M.G HLC.out a.col
              go_wp2_with fail
              refine hp.mono ?_
              rintro x w' ⟨rs', rfl, h1, h2, h4, h5⟩
              rw [h1]
              go_wp2_with fail
              exact ⟨rfl, hK _ _ ⟨rfl, rs', h1, hT.stepS h2 (by rw [h1]; exact hT.M.G.collect _) h4 h5⟩ (Reg.Wr.does1 h4)⟩
            · intro val ac u hR hp ha K hK
              have e8 : (ac.tmps[8]?).getD undef = .pointer (some ⟨gd, 0, none⟩) := ha 8 (by decide); clear ha hp
              refine Reg.Op1.plain rfl ?_
              go_wp2
              exact ⟨rfl, hK _ _ rfl (Reg.Wr.same _)⟩
            · intro val ac u hR hp ha K hK
              have e10 : (ac.tmps[10]?).getD undef = .pointer (some ⟨ga, 0, none⟩) := ha 10 (by decide); clear ha hp
              refine Reg.Op1.plain rfl ?_
              go_wp2
              exact ⟨rfl, hK _ _ rfl (Reg.Wr.same _)⟩
            · intro val ac u hR hp ha K hK
              obtain ⟨w87, h87, r87⟩ := hp 5 (by decide); have e87 : (ac.tmps[87]?).getD undef = .pointer (some ⟨ga, 2, none⟩) := (ha 87 (by decide)).trans h87; clear h87 ha hp
              refine Reg.Op1.plain rfl ?_
              have hq := (Mem.Keeps.refl (fun k => fpS g b rs k ∨ RB gd A1 k ∨ False) w5).drew.trans (Reg.Wr.all hR) (fun _ h _ => h)
              refine Mem.load_agg _ _ col_agg ga 2 (colCells a.col) (Reg.eval_of e87) (Sto.colCells_length _) ((HX5.out.keeps hq HXn.out).part 2 rfl) ?_
              exact ⟨rfl, hK _ _ rfl (Reg.Wr.same _)⟩
            · intro val ac u hR hp ha K hK
              obtain ⟨w86, h86, r86⟩ := hp 4 (by decide); have e86 : (ac.tmps[86]?).getD undef = .pointer (some ⟨gd, 0, none⟩) := (ha 86 (by decide)).trans h86; obtain ⟨w88, h88, r88⟩ := hp 6 (by decide); have e88 : (ac.tmps[88]?).getD undef = Vec.C a.col := (ha 88 (by decide)).trans h88; obtain ⟨w85, h85, r85⟩ := hp 3 (by decide); clear h86 h88 ha hp
              refine Reg.Op1.plain rfl ?_
              obtain ⟨_, rs', hs', hT0⟩ := h85
              have hT := hT0.quiet (Reg.Wr.none r85 (by decide +kernel) (by decide +kernel) (by decide +kernel))
              have hp := refCollect_any rng mk a.col gd A1 c L u hT.D (by omega) HDC.out
              go_wp2_with fail
              refine hp.mono ?_
              rintro x w' ⟨A', c', rfl, hA', hk', hq'⟩
              have hk9 : Mem.Keeps (RB gd A1) u w' := hk'.mono (fun k h _ => .inl h)
              rw [← HTN.out]
              go_wp2_with fail
              exact ⟨rfl, hK _ _ ⟨rfl, rs', A', c', hs', hT.stepD hA' hk9 (fun q h => .inr (hq' q h))⟩ (Reg.Wr.does2 hk9)⟩
            · intro val ac u hR hp ha K hK
              obtain ⟨w85, h85, r85⟩ := hp 3 (by decide); have e85 : (ac.tmps[85]?).getD undef = val 3 := ha 85 (by decide); obtain ⟨w89, h89, r89⟩ := hp 7 (by decide); have e89 : (ac.tmps[89]?).getD undef = val 7 := ha 89 (by decide); clear ha hp
              refine Reg.Op1.plain rfl ?_
              rw [h85.1] at e85
              rw [h89.1] at e89
              have hbb : (((lenS (states rs) - lenS (collectS (maxC mk a.col) (states rs)) : Nat) : Int) != ((lenS (states rs) - lenS (collectS (maxC mk a.col) (states rs)) : Nat) : Int)) = false := by simp
              go_wp2
              exact ⟨rfl, hK _ _ rfl (Reg.Wr.same _)⟩
          intro val u hR H
          obtain ⟨_, hv, _⟩ := H 8 (by decide)
          have hv : val 8 = .bool false := hv
          obtain ⟨wb, ⟨_, rs', A', c', hs', hT0⟩, rb⟩ := H 7 (by decide)
          have hT := hT0.quiet (Reg.Wr.none rb (by decide +kernel) (by decide +kernel) (by decide +kernel))
          have HTB := Lib.hid hT
          have HTW : Hid (Sto.Twin rng (states rs') (rColl (maxC mk a.col) L)) := by show Sto.Twin _ _ _; rw [hs']; exact HTC.out
          simp only [List.map_cons, List.map_nil, Reg.lay, Act.put, List.setIfInBounds_toArray, List.set_cons_succ, List.set_cons_zero, Nat.reduceAdd, hv]
          clear hR H hv rb hT hT0 hs'
          obtain ⟨w8, hw8⟩ : ∃ z, z = u := ⟨_, rfl⟩
          subst hw8
          have hrl := rColl_len (maxC mk a.col) L
          have hl8 : (rColl (maxC mk a.col) L).length ≤ 300 := by omega
          have hm8 : (rColl (maxC mk a.col) L).length ≤ lenA (acs.take (k + 1)) := by have := HTS.out; omega
          obtain ⟨L', hL'⟩ : ∃ L', rColl (maxC mk a.col) L = L' := ⟨_, rfl⟩
          rw [hL'] at hl8 hm8 HTB HTW
          clear HTC HTN hL' hrl HT5 HX5 HXn HGL
          have HLK := Lib.hid (looks_any (cc := cc) (HTB.out.look HRC.out) HTW.out hl8 hcs)
          go_wp2_with (go_at_call 28; refine HLK.out.mono ?_; clear HLK; rintro x w9 ⟨rfl, hb9⟩; have HT9 := Lib.hid (HTB.out.below hb9))
          go_roundw
          case rel => exact ⟨⟨k + 1, (maxC mk a.col), rs', A', c', L', by omega, by go_num, hm8, HT9, HTW⟩⟩
          case measure => simp [intOf]; omega
        · have b1 : (a.kind == 1) = false := by simpa using k1
          have b2 : (a.kind == 2) = false := by simpa using k2
          have hm8 : L.length ≤ lenA (acs.take (k + 1)) := by have := HTS.out; omega
          clear k1 k2 HX5 HXn HGL
          have HLK := Lib.hid (looks_any (cc := cc) (HT5.out.look HRC.out) HTW0.out hl3 hcs)
          go_wp2_with (go_at_call 28; refine HLK.out.mono ?_; clear HLK; rintro x w9 ⟨rfl, hb9⟩; have HT9 := Lib.hid (HT5.out.below hb9))
          go_roundw
          case rel => exact ⟨⟨k + 1, mk, rs, A1, c, L, by omega, by go_num, hm8, HT9, HTW0⟩⟩
          case measure => simp [intOf]; omega
    · obtain rfl : k = acs.length := by omega
      go_wp2
      go_ret
      exact ⟨rfl, HT.out.bw⟩
set_option maxRecDepth 20000 in
theorem opened {H : Type} (enc : TypeId × Value → H) (W : World) (base : Nat) (v0 v1 v2 : Value) {d0 d1 d2 : DataW H} {p0 p1 p2 : List MemPlace}
    (o0 : Value.okWide Try.prog W .any base 3 v0) (o1 : Value.okWide Try.prog W .any base 29 v1) (o2 : Value.okWide Try.prog W .any base 61 v2)
    (k0 : DataW.Trod enc Try.prog W 0 (fun _ => true) true 3 v0 d0 p0) (k1 : DataW.Trod enc Try.prog W 0 (fun _ => true) true 29 v1 d1 p1) (k2 : DataW.Trod enc Try.prog W 0 (fun _ => true) true 61 v2 d2 p2)
    (z0 : (d0.weights Try.prog 3).all (· ≤ reachBytes) = true) (z1 : (d1.weights Try.prog 29).all (· ≤ reachBytes) = true) (z2 : (d2.weights Try.prog 61).all (· ≤ reachBytes) = true) :
    Calls Try.prog 7 #[v0, v1, v2] W fun e w' => e = .returned (.bool true) ∧ Below W.heap.size W w' := by
  obtain ⟨n, rfl, _⟩ := open_num o0 k0
  obtain ⟨A, c, acs, rfl, h1, h2, h3, h4⟩ := open_acts o1 k1 z1
  obtain ⟨Aq, cc, cs, rfl, q1, q2, q3⟩ := open_cols o2 k2 z2
  exact walk n A c acs Aq cc cs W h3 h4 (Nat.le_trans h1 h2) q3
end storePlaysOpen
end Go.Proofs.Ytfafehffnjbhnaa
end
section
/- 'causewaylaw9.StorePlays' returns true for every input and leaves what it was handed as it was: the given statement, by the walk of the text that is imported. No conditions. -/
namespace Go.Proofs.Ytfafehffnjbhnaa.storePlays
open Go.ChangeShapes Go.WideShapes Go.ChangeAt Go.RowKit
set_option linter.unusedVariables false
set_option linter.unusedSimpArgs false
theorem own : ownKnob Try.prog.godebug = none := by kernel_rfl
theorem laidOut : laidOutB Try.prog = true := by kernel_rfl
set_option maxRecDepth 100000 in
theorem lifted (os : Os) (started : os.Started) (H : Type) (enc : TypeId × Value → H) :
    ReturnsInHanded {} Try.checked os 7 .any (Rows.storePlaysSpec.pre6 enc Try.prog Try.f7 Rows.storePlaysRow.domain false) (Rows.storePlaysSpec.post enc Try.prog Try.f7 false true false false) := by
  refine returnsInHanded_of_change_sized (C := Try.checked) own started (by kernel_rfl) Try.func7
    (ChangeSpec.witness6 (enc := enc) (C := Try.checked) false ⟨#[], #[.int .i64 0, .slice none 0 0, .slice none 0 0], []⟩ 8 (by kernel_rfl) (by kernel_rfl) (by kernel_rfl) (by kernel_rfl)) ?_
  intro W base args ds gs before hval0 hW hcnd hsz _
  have hval : ∀ (j : Nat) t v, Try.f7.params[j]? = some t → args[j]? = some v → Value.okWide Try.prog W .any base t v := hval0
  have hW' := hW
  obtain ⟨p, q, hA0, hV, rfl, hfz, hnd⟩ := hW
  have hA : DataW.TrodAll enc Try.prog W 0 (fun _ => true) true Try.f7.params.toList args.toList ds p := hA0
  rw [Try.params7] at hA hval
  obtain ⟨v0, vs0, d0, ds0, p0, q0, hargs, rfl, rfl, h0, r0⟩ := trodAll_cons hA
  obtain ⟨v1, vs1, d1, ds1, p1, q1, rfl, rfl, rfl, h1, r1⟩ := trodAll_cons r0
  obtain ⟨v2, vs2, d2, ds2, p2, q2, rfl, rfl, rfl, h2, r2⟩ := trodAll_cons r1
  obtain ⟨rfl, rfl, rfl⟩ := trodAll_nil r2
  obtain rfl : args = #[v0, v1, v2] := by cases args; simp_all
  obtain ⟨rfl, rfl⟩ := trodVars_none hV
  have lt0 : ∀ x ∈ p0, x.block < W.heap.size := by obtain ⟨m, hm⟩ := h0; exact DataW.trod_lt m _ _ _ hm
  have lt1 : ∀ x ∈ p1, x.block < W.heap.size := by obtain ⟨m, hm⟩ := h1; exact DataW.trod_lt m _ _ _ hm
  have lt2 : ∀ x ∈ p2, x.block < W.heap.size := by obtain ⟨m, hm⟩ := h2; exact DataW.trod_lt m _ _ _ hm
  have z0 : (d0.weights Try.prog 3).all (· ≤ reachBytes) = true := by rw [List.all_eq_true]; intro n hn; exact List.all_eq_true.1 hsz n (DataW.weights_mem_each (j := 0) (by kernel_rfl) rfl n hn)
  have z1 : (d1.weights Try.prog 29).all (· ≤ reachBytes) = true := by rw [List.all_eq_true]; intro n hn; exact List.all_eq_true.1 hsz n (DataW.weights_mem_each (j := 1) (by kernel_rfl) rfl n hn)
  have z2 : (d2.weights Try.prog 61).all (· ≤ reachBytes) = true := by rw [List.all_eq_true]; intro n hn; exact List.all_eq_true.1 hsz n (DataW.weights_mem_each (j := 2) (by kernel_rfl) rfl n hn)
  clear hA0
  refine (storePlaysOpen.opened enc W base v0 v1 v2 (hval 0 3 v0 rfl rfl) (hval 1 29 v1 rfl rfl) (hval 2 61 v2 rfl rfl) h0 h1 h2 z0 z1 z2).mono fun e W' ⟨he, bel⟩ => ?_
  subst he
  exact ⟨_, rfl, _, _, _, [], _, [], hW', trodAll_mk1 (shut_bool Try.underlying4 _), (trodAll_cons_mk (Below.trod laidOut (by kernel_rfl) (of_decide_eq_true (by kernel_rfl)) h0 bel lt0) (trodAll_cons_mk (Below.trod laidOut (by kernel_rfl) (of_decide_eq_true (by kernel_rfl)) h1 bel lt1) (trodAll_cons_mk (Below.trod laidOut (by kernel_rfl) (of_decide_eq_true (by kernel_rfl)) h2 bel lt2) trodAll_mk0))), rfl, bel.frame _, fun h => by cases h⟩
theorem over : Rows.storePlaysRow.holds Try.pinned (OpenSpec.ofChange Rows.storePlaysSpec) :=
  OpenClaim.holds_of_wide 7 Try.f7 rfl rfl rfl rfl rfl rfl rfl ⟨rfl, rfl, rfl, rfl, rfl⟩ rfl rfl rfl rfl rfl (by kernel_rfl) Try.func7 (by kernel_rfl)
    (of_decide_eq_true (by kernel_rfl)) (by unfold Func.isWrapper; first | (rw [if_pos (by decide +kernel)]; kernel_rfl) | (rw [if_neg (by decide +kernel)]; exact ⟨rfl, rfl⟩))
    (fun os started H enc _ => lifted os started H enc)
/-- THE STATEMENT -/
theorem proved : Rows.StorePlaysSaid := over
#print axioms proved
end Go.Proofs.Ytfafehffnjbhnaa.storePlays
end
