/- Messages and records, plain: what is written is read as it was; how long they are. Cells of the right kinds, short texts. -/
import Derived.Test.YtkfgedgjpgehoaaWireK2
namespace Go.Proofs.Ytkfgedgjpgehoaa
open Go.ChangeShapes Go.WideShapes Go.ChangeAt Go.RowKit
set_option linter.unusedVariables false
set_option linter.unusedSimpArgs false
set_option maxRecDepth 100000
namespace Wi
def arB (xs : List Value) : Bool := msgM.any (argM xs)
def loB (xs : List Value) : Bool := msgM.any (longM xs)
def enB (xs : List Value) : List UInt8 := encL msgM xs
theorem msgC_eq {xs : List Value} (h : Fed msgK xs) : msgC xs = { c0 with bs := enB xs, arg := arB xs, long := loB xs } := by
  unfold msgC enB arB loB
  rw [runM_wr h.str msgM rfl]
  simp [c0]
/-- a message that can be written -/
structure GoodM (xs : List Value) : Prop where
  arg : arB xs = false
  long : loB xs = false
  fr : framedC (msgC xs) = (frameB (enB xs), 0)
  len : (enB xs).length ≤ 1018
  pos : 1 ≤ (enB xs).length
theorem encL_pos {xs : List Value} {op : Mo} {ops : List Mo} (hm : op ∈ ops) (h : 0 < (encM xs op).length) : 0 < (encL ops xs).length := by
  unfold encL
  obtain ⟨a, b, rfl⟩ := List.append_of_mem hm
  rw [List.flatMap_append, List.flatMap_cons, List.length_append, List.length_append]
  omega
theorem msg0 : Mo.n 0 ∈ msgM := by unfold msgM; simp
theorem good_of {xs : List Value} (h : Fed msgK xs) (h0 : (framedC (msgC xs)).2 = 0) : GoodM xs := by
  have he := msgC_eq h
  rw [he] at h0
  have ha : arB xs = false := by
    cases hx : arB xs
    · rfl
    · unfold framedC at h0; dsimp only at h0; rw [hx, if_pos rfl] at h0; exact absurd h0 (by decide)
  have hl : loB xs = false := by
    cases hx : loB xs
    · rfl
    · unfold framedC at h0; dsimp only at h0; rw [ha, hx, if_neg (by decide), if_pos rfl] at h0; exact absurd h0 (by decide)
  refine ⟨ha, hl, ?_, ?_, ?_⟩
  · rw [he]
    unfold framedC
    dsimp only
    rw [ha, hl, if_neg (by decide), if_neg (by decide)]
  · exact Nat.le_trans (encL_cap msgM (by decide +kernel) hl) (by decide +kernel)
  · refine encL_pos (op := .n 0) msg0 ?_
    obtain ⟨_, hx, v, rfl⟩ := h.ok.get (k := 0) (kd := .i) rfl
    rw [encM_n hx]
    have hv : argM xs (.n 0) = false := by
      unfold arB at ha
      rw [List.any_eq_false] at ha
      have := ha (.n 0) msg0
      simpa using this
    rw [argM_n hx] at hv
    rw [if_neg (by simpa using hv)]
    exact vb_pos _
theorem not_good {xs : List Value} (h0 : (framedC (msgC xs)).2 ≠ 0) : (framedC (msgC xs)).1 = [] := by
  unfold framedC at h0 ⊢
  split
  · rfl
  · split
    · rfl
    · rename_i h1 h2
      rw [if_neg h1, if_neg h2] at h0
      exact absurd rfl h0
theorem keys_msg : ∀ j, j < 74 → j ∈ keysL [] msgM := by decide +kernel
theorem like_nil (xs zs : List Value) : Like [] xs zs zs := ⟨(fun j h => by cases h), fun j _ => rfl⟩
theorem runMs_enc {xs : List Value} (h : Fed msgK xs) (ha : arB xs = false) : runMs (enB xs) = ({ rdC (enB xs) with pos := (enB xs).length }, xs) := by
  obtain ⟨zs2, h1, h2, h3⟩ := runM_rb (ks := msgK) (zs := zeroM) (c := rdC (enB xs)) (D := []) (zs' := zeroM) (rest := []) h.str h.ok msgM rfl (by unfold enB rdC; simp) ha zeroM_ok (like_nil _ _) (by decide +kernel) (by decide +kernel)
  unfold runMs
  rw [h1]
  have hz : zs2 = xs := by
    apply List.ext_getElem?
    intro j
    by_cases hj : j < 74
    · exact h3.yes j (keys_msg j hj)
    · rw [List.getElem?_eq_none (by have := h2.len; rw [this]; exact Nat.le_of_not_lt hj), List.getElem?_eq_none (by have := h.ok.len; rw [this]; exact Nat.le_of_not_lt hj)]
  rw [hz]
  simp [rdC, enB]
/-- what is written is read as it was -/
theorem readM_enc {xs : List Value} (h : Fed msgK xs) (hg : GoodM xs) : readM (frameB (enB xs)) = (xs, 0) := by
  have hb : (enB xs).length < 65536 := by have := hg.len; omega
  have b0 := bodyC_frame hb []
  have b1 := hdN_frame hb []
  have b2 := sub_frame (enB xs) []
  rw [List.append_nil] at b0 b1 b2
  unfold readM
  rw [b0, b1, b2, if_neg (by decide), if_neg (by rw [frame_len]; simp), runMs_enc h hg.arg, if_neg (by simp [poor, rdC]), hg.fr, if_pos ⟨rfl, rfl⟩]
theorem readM_good {bs : List UInt8} (h : (readM bs).2 = 0) : (framedC (msgC (readM bs).1)).2 = 0 ∧ (framedC (msgC (readM bs).1)).1 = bs := by
  unfold readM at h ⊢
  split
  · rename_i h1; rw [if_pos h1] at h; exact absurd h (by decide)
  · rename_i h1
    rw [if_neg h1] at h
    split
    · rename_i h2; rw [if_pos h2] at h; exact absurd h (by decide)
    · rename_i h2
      rw [if_neg h2] at h
      split
      · rename_i h3; rw [if_pos h3] at h; exact absurd h (by decide)
      · rename_i h3
        rw [if_neg h3] at h
        split
        · rename_i h4; dsimp only; exact h4
        · rename_i h4; rw [if_neg h4] at h; exact absurd h (by decide)
theorem readM_bad {bs : List UInt8} (h : (readM bs).2 ≠ 0) : (readM bs).1 = zeroM := by
  unfold readM at h ⊢
  split
  · rfl
  · rename_i h1
    rw [if_neg h1] at h
    split
    · rfl
    · rename_i h2
      rw [if_neg h2] at h
      split
      · rfl
      · rename_i h3
        rw [if_neg h3] at h
        split
        · rename_i h4; rw [if_pos h4] at h; exact absurd rfl h
        · rfl
theorem readM_odd {bs : List UInt8} (h : bodyC bs ≠ 0 ∨ bs.length ≠ hdN bs + 6) : (readM bs).2 ≠ 0 := by
  unfold readM
  split
  · decide
  · first | decide | (rw [if_pos h]; decide)
theorem readM_cut {bs : List UInt8} (h : bodyC bs = 40) : readM bs = (zeroM, 40) := by
  unfold readM; rw [if_pos h]
/-- what was read has cells of the right kinds, and short texts -/
theorem runMs_fed {bs : List UInt8} (hb : bs.length ≤ 100000) : Fed msgK (runMs bs).2 := by
  have hbs := runM_rd (r := (rdC bs, zeroM)) (M := 100000) msgM rfl hb (zeroM_sh _)
  have e : runMs bs = runM msgM (rdC bs, zeroM) := by unfold runMs; rfl
  rw [← e] at hbs
  obtain ⟨r, hr⟩ : ∃ r, runMs bs = r := ⟨_, rfl⟩
  rw [hr] at hbs e ⊢
  exact ⟨runM_okE e zeroM_ok, hbs.2⟩
theorem zeroM_fed : Fed msgK zeroM := ⟨zeroM_ok, zeroM_sh _⟩
theorem readM_fed (bs : List UInt8) : Fed msgK (readM bs).1 := by
  have hn := hdN_lt bs
  have hf : Fed msgK (runMs (Mem.sub bs 2 (hdN bs))).2 := runMs_fed (by unfold Mem.sub; rw [List.length_take]; omega)
  unfold readM
  split
  · exact zeroM_fed
  · split
    · exact zeroM_fed
    · split
      · exact zeroM_fed
      · split
        · dsimp only; exact hf
        · exact zeroM_fed
theorem frame_inj {a b : List UInt8} (ha : a.length < 65536) (hb : b.length < 65536) (h : frameB a = frameB b) : a = b := by
  have h1 := congrArg List.length h
  rw [frame_len, frame_len] at h1
  have h2 := sub_frame a []
  have h3 := sub_frame b []
  rw [List.append_nil] at h2 h3
  have h4 : a.length = b.length := by omega
  rw [h, h4] at h2
  rw [← h2, h3]
theorem msg_inj {xs ys : List Value} (hx : Fed msgK xs) (hy : Fed msgK ys) (gx : GoodM xs) (gy : GoodM ys) (h : frameB (enB xs) = frameB (enB ys)) : xs = ys := by
  have h1 := readM_enc hx gx
  rw [h, readM_enc hy gy] at h1
  exact (Prod.mk.inj h1).1.symm
/-! records -/
def recM (k : Int) : List Mo := .n 0 :: (if k = 1 then writeM 1 else if k = 2 then chainM 21 ++ [.n 34] else [])
def enR (k : Int) (xs : List Value) : List UInt8 := encL (recM k) xs
structure GoodR (k : Int) (xs : List Value) : Prop where
  kd : k = 1 ∨ k = 2 ∨ k = 3
  at0 : xs[0]? = some (.int .i64 k)
  arg : (recM k).any (argM xs) = false
  bare : bareL xs = xs
  fr : framedC (recC xs) = (frameB (enR k xs), 0)
  len : (enR k xs).length ≤ 506
  pos : 1 ≤ (enR k xs).length
theorem recB_eq {r : Cd × List Value} {k : Int} (h : (stepN r 0).2[0]? = some (.int .i64 k)) (hk : k = 1 ∨ k = 2 ∨ k = 3) : recB (stepN r 0) = runM (recM k) r := by
  unfold recM
  rw [runM_cons, stepM_n]
  rcases hk with rfl | rfl | rfl
  · rw [recB_1 h]; rfl
  · rw [recB_2 h, if_neg (by decide), if_pos rfl, runM_app, runM_chain, runM_n]
  · rw [recB_3 h]; rfl
theorem bare_ok {xs : List Value} (h : Cells.Ok recK xs) : Cells.Ok recK (bareL xs) := by
  obtain ⟨_, h0, k, rfl⟩ := h.get (k := 0) (kd := .i) rfl
  have h' := h
  unfold recK at h'
  simp only [List.append_assoc] at h'
  have s1 := Cells.Ok.split (ks := [.i]) (ks2 := entryK ++ (chainKd ++ [.i])) h'
  have s1' : Cells.Ok (entryK ++ (chainKd ++ [.i])) (xs.drop 1) := s1.2
  have s2 := Cells.Ok.split s1'
  have s2' : Cells.Ok (chainKd ++ [.i]) (xs.drop 21) := by
    have := s2.2
    rw [List.drop_drop] at this
    exact this
  have s3 := Cells.Ok.split s2'
  have e1 : Cells.Ok entryK ((xs.drop 1).take 20) := s2.1
  have e2 : Cells.Ok chainKd ((xs.drop 21).take 13) := s3.1
  have e3 : Cells.Ok [.i] ((xs.drop 34).take 1) := by
    have := s3.2
    rw [List.drop_drop] at this
    rw [List.take_of_length_le (by rw [List.length_drop, h.len]; decide)]
    exact this
  have z1 : Cells.Ok entryK entZ := by simp [entryK, entZ, z0, Cells.Ok, Cells.ok]
  have z2 : Cells.Ok chainKd chZ := by simp [chainKd, chZ, z0, Cells.Ok, Cells.ok]
  have z3 : Cells.Ok [.i] [z0] := by simp [z0, Cells.Ok, Cells.ok]
  have i1 : Cells.Ok [.i] [.int .i64 k] := ⟨⟨k, rfl⟩, trivial⟩
  unfold bareL
  rw [h0]
  unfold recK
  refine Cells.Ok.app (Cells.Ok.app (Cells.Ok.app i1 ?_) ?_) ?_
  · split
    · exact e1
    · exact z1
  · split
    · exact e2
    · exact z2
  · split
    · exact e3
    · exact z3
theorem recC_eq {xs : List Value} {k : Int} (h : Fed recK xs) (h0 : xs[0]? = some (.int .i64 k)) (hk : k = 1 ∨ k = 2 ∨ k = 3) : recC xs = { c0 with bs := enR k xs, arg := (recM k).any (argM xs) || !Cells.eqL (bareL xs) xs, long := (recM k).any (longM xs) } := by
  have h1 : (stepN (c0, xs) 0).2[0]? = some (.int .i64 k) := by
    rw [stepN_w (r := (c0, xs)) rfl]; exact h0
  unfold recC recF
  rw [recB_eq h1 hk, runM_wr h.str (recM k) rfl]
  simp [c0, enR]
theorem recC_odd {xs : List Value} {k : Int} (h0 : xs[0]? = some (.int .i64 k)) (hk : ¬ (k = 1 ∨ k = 2 ∨ k = 3)) : (recC xs).arg = true := by
  have h1 : (stepN (c0, xs) 0).2[0]? = some (.int .i64 k) := by
    rw [stepN_w (r := (c0, xs)) rfl]; exact h0
  unfold recC recF
  rw [recB_x h1 (fun h => hk (.inl h)) (fun h => hk (.inr (.inl h))) (fun h => hk (.inr (.inr h)))]
  rfl
theorem caps_rec : ∀ k : Int, (k = 1 ∨ k = 2 ∨ k = 3) → (recM k).all capOk = true ∧ ((recM k).map capM).sum ≤ 506 := by
  rintro k (rfl | rfl | rfl) <;> exact ⟨by decide +kernel, by decide +kernel⟩
theorem goodR_of {xs : List Value} (h : Fed recK xs) (h0 : (framedC (recC xs)).2 = 0) : ∃ k, GoodR k xs := by
  obtain ⟨_, hx, k, rfl⟩ := h.ok.get (k := 0) (kd := .i) rfl
  by_cases hk : k = 1 ∨ k = 2 ∨ k = 3
  case neg =>
    unfold framedC at h0
    rw [recC_odd hx hk, if_pos rfl] at h0
    exact absurd h0 (by decide)
  have he := recC_eq h hx hk
  rw [he] at h0
  have ha : ((recM k).any (argM xs) || !Cells.eqL (bareL xs) xs) = false := by
    cases hy : ((recM k).any (argM xs) || !Cells.eqL (bareL xs) xs)
    · rfl
    · unfold framedC at h0; dsimp only at h0; rw [hy, if_pos rfl] at h0; exact absurd h0 (by decide)
  have hl : (recM k).any (longM xs) = false := by
    cases hy : (recM k).any (longM xs)
    · rfl
    · unfold framedC at h0; dsimp only at h0; rw [ha, hy, if_neg (by decide), if_pos rfl] at h0; exact absurd h0 (by decide)
  have ha2 := Bool.or_eq_false_iff.1 ha
  obtain ⟨k1, k2⟩ := caps_rec k hk
  refine ⟨k, hk, hx, ha2.1, (Cells.eqL_iff (bare_ok h.ok) h.ok).1 (by simpa using ha2.2), ?_, Nat.le_trans (encL_cap _ k1 hl) k2, ?_⟩
  · rw [he]
    unfold framedC
    dsimp only
    rw [ha, hl, if_neg (by decide), if_neg (by decide)]
  · refine encL_pos (op := .n 0) (by unfold recM; exact List.mem_cons_self) ?_
    rw [encM_n hx]
    have hv : argM xs (.n 0) = false := by
      have := ha2.1
      rw [List.any_eq_false] at this
      have := this (.n 0) (by unfold recM; exact List.mem_cons_self)
      simpa using this
    rw [argM_n hx] at hv
    rw [if_neg (by simpa using hv)]
    exact vb_pos _
theorem not_goodR {xs : List Value} (h0 : (framedC (recC xs)).2 ≠ 0) : (framedC (recC xs)).1 = [] := by
  unfold framedC at h0 ⊢
  split
  · rfl
  · split
    · rfl
    · rename_i h1 h2
      rw [if_neg h1, if_neg h2] at h0
      exact absurd rfl h0
theorem keys_rec : ∀ k : Int, (k = 1 ∨ k = 2 ∨ k = 3) → (recM k).all (wk recK) = true ∧ ordL [] (recM k) = true ∧ (k = 1 → ∀ j, j < 21 → j ∈ keysL [] (recM k)) ∧ (k = 2 → ∀ j, j < 35 → (j = 0 ∨ 21 ≤ j) → j ∈ keysL [] (recM k)) ∧ 0 ∈ keysL [] (recM k) := by
  rintro k (rfl | rfl | rfl) <;> exact ⟨by decide +kernel, by decide +kernel, by decide +kernel, by decide +kernel, by decide +kernel⟩
theorem mid_get {α : Type} {p m s p' s' : List α} (hp : p.length = p'.length) {j : Nat} (h1 : p.length ≤ j) (h2 : j < p.length + m.length) : (p ++ m ++ s)[j]? = (p' ++ m ++ s')[j]? := by
  have e1 : (p ++ m ++ s)[j]? = m[j - p.length]? := by rw [List.append_assoc, List.getElem?_append_right h1, List.getElem?_append_left (by omega)]
  have e2 : (p' ++ m ++ s')[j]? = m[j - p'.length]? := by rw [List.append_assoc, List.getElem?_append_right (by omega), List.getElem?_append_left (by omega)]
  rw [e1, e2, hp]
theorem right_get {α : Type} {p p' s : List α} (hp : p.length = p'.length) {j : Nat} (h1 : p.length ≤ j) : (p ++ s)[j]? = (p' ++ s)[j]? := by
  have e1 : (p ++ s)[j]? = s[j - p.length]? := by rw [List.getElem?_append_right h1]
  have e2 : (p' ++ s)[j]? = s[j - p'.length]? := by rw [List.getElem?_append_right (by omega)]
  rw [e1, e2, hp]
theorem like_rec {k : Int} {xs zs : List Value} (hg : GoodR k xs) (hx : Cells.Ok recK xs) (hz : Cells.Ok recK zs) (h : Like (keysL [] (recM k)) xs zeroR zs) : zs = xs := by
  obtain ⟨_, _, q1, q2, q3⟩ := keys_rec k hg.kd
  have hb := hg.bare
  apply List.ext_getElem?
  intro j
  by_cases hj : j < 35
  case neg => rw [List.getElem?_eq_none (by rw [hz.len]; exact Nat.le_of_not_lt hj), List.getElem?_eq_none (by rw [hx.len]; exact Nat.le_of_not_lt hj)]
  by_cases hm : j ∈ keysL [] (recM k)
  · exact h.yes j hm
  · rw [h.no j hm]
    have h20 : ((xs.drop 1).take 20).length = 20 := by rw [List.length_take, List.length_drop, hx.len]; rfl
    rcases hg.kd with rfl | rfl | rfl
    · have hj2 : 21 ≤ j := Nat.le_of_not_lt fun h => hm (q1 rfl j h)
      have e : xs = ([.int .i64 1] ++ (xs.drop 1).take 20) ++ (chZ ++ [z0]) := by
        rw [← List.append_assoc, ← bareL_1 hg.at0, hb]
      exact (right_get (p := [z0] ++ entZ) (p' := [.int .i64 1] ++ (xs.drop 1).take 20) (s := chZ ++ [z0]) (by rw [List.length_append, List.length_append, h20]; rfl) hj2).trans (congrArg (fun l : List Value => l[j]?) e).symm
    · have hj2 : 1 ≤ j ∧ j < 21 := by
        rcases Nat.lt_or_ge j 1 with h9 | h9
        · exact absurd (q2 rfl j hj (.inl (by omega))) hm
        · exact ⟨h9, Nat.lt_of_not_le fun h => hm (q2 rfl j hj (.inr h))⟩
      have e : xs = [.int .i64 2] ++ entZ ++ ((xs.drop 21).take 13 ++ (xs.drop 34).take 1) := by
        rw [← List.append_assoc, ← bareL_2 hg.at0, hb]
      exact (mid_get (p := [z0]) (m := entZ) (s := chZ ++ [z0]) (p' := [.int .i64 2]) (s' := (xs.drop 21).take 13 ++ (xs.drop 34).take 1) rfl hj2.1 hj2.2).trans (congrArg (fun l : List Value => l[j]?) e).symm
    · have hj2 : 1 ≤ j := by
        rcases Nat.lt_or_ge j 1 with h9 | h9
        · obtain rfl : j = 0 := by omega
          exact absurd q3 hm
        · exact h9
      have e : xs = [.int .i64 3] ++ (entZ ++ chZ ++ [z0]) := by
        rw [← List.append_assoc, ← List.append_assoc, ← bareL_x hg.at0 (by decide) (by decide), hb]
      exact (right_get (p := [z0]) (p' := [.int .i64 3]) (s := entZ ++ chZ ++ [z0]) rfl hj2).trans (congrArg (fun l : List Value => l[j]?) e).symm
theorem runR_enc {k : Int} {xs : List Value} (h : Fed recK xs) (hg : GoodR k xs) : runR (enR k xs) = ({ rdC (enR k xs) with pos := (enR k xs).length }, xs) := by
  obtain ⟨q0, q1, _, _, q2⟩ := keys_rec k hg.kd
  have hd : (rdC (enR k xs)).bs.drop (rdC (enR k xs)).pos = encL (recM k) xs ++ [] := by unfold enR rdC; simp
  obtain ⟨zs2, h1, h2, h3⟩ := runM_rb (ks := recK) (zs := zeroR) (c := rdC (enR k xs)) (D := []) (zs' := zeroR) (rest := []) h.str h.ok (recM k) rfl hd hg.arg zeroR_ok (like_nil _ _) q0 q1
  have hz := like_rec hg h.ok h2 h3
  subst hz
  have hs0 : ∃ zs1, stepM (rdC (enR k zs2), zeroR) (.n 0) = ({ rdC (enR k zs2) with pos := (rdC (enR k zs2)).pos + (encM zs2 (.n 0)).length }, zs1) ∧ Cells.Ok recK zs1 ∧ Like (keyM (.n 0) ++ []) zs2 zeroR zs1 := by
    refine stepM_rb (rest := encL (if k = 1 then writeM 1 else if k = 2 then chainM 21 ++ [.n 34] else []) zs2) rfl h.str (.n 0) ?_ ?_ h.ok zeroR_ok (like_nil _ _) rfl rfl
    · rw [hd, List.append_nil]
      unfold recM encL
      rw [List.flatMap_cons]
    · have := hg.arg
      unfold recM at this
      rw [List.any_cons, Bool.or_eq_false_iff] at this
      exact this.1
  obtain ⟨zs1, e1, e2, e3⟩ := hs0
  rw [stepM_n] at e1
  have h0 : (stepN (rdC (enR k zs2), zeroR) 0).2[0]? = some (.int .i64 k) := by
    rw [e1, ← hg.at0]
    exact e3.yes 0 (by simp [keyM])
  unfold runR recF
  rw [recB_eq h0 hg.kd, h1]
  dsimp only
  rw [(Cells.eqL_iff (bare_ok h2) h2).2 hg.bare]
  simp [rdC, enR]
theorem readR_frame {bs : List UInt8} (h : bs.length < 65536) (m : List UInt8) : readR (frameB bs ++ m) = if poor (runR bs) bs.length = true then (zeroR, 0, 41) else if (framedC (recC (runR bs).2)).2 = 0 ∧ (framedC (recC (runR bs).2)).1 = frameB bs then ((runR bs).2, (framedC (recC (runR bs).2)).1.length, 0) else (zeroR, 0, 41) := by
  have b0 := bodyC_frame h m
  have b1 := hdN_frame h m
  have b2 := sub_frame bs m
  unfold readR
  rw [if_neg (by rw [frame_eq]; simp), b0, if_neg (by decide), b1, b2, sub_all]
/-- the record at the front is read as it was, with as many bytes as it took -/
theorem readR_enc {k : Int} {xs : List Value} (h : Fed recK xs) (hg : GoodR k xs) (m : List UInt8) : readR (frameB (enR k xs) ++ m) = (xs, (frameB (enR k xs)).length, 0) := by
  rw [readR_frame (by have := hg.len; omega), runR_enc h hg, if_neg (by simp [poor, rdC])]
  dsimp only
  rw [hg.fr, if_pos ⟨rfl, rfl⟩]
theorem readR_cut {bs : List UInt8} (h : bs.length < 65536) {k : Nat} (hk : k < (frameB bs).length) : readR ((frameB bs).take k) = (zeroR, 0, if k = 0 then 3 else 40) := by
  unfold readR
  by_cases h0 : k = 0
  · subst h0; rw [List.take_zero, if_pos rfl, if_pos rfl]
  · rw [if_neg (by
      intro h9
      have := congrArg List.length h9
      rw [List.length_take, Nat.min_eq_left (by omega)] at this
      exact h0 this), bodyC_cut h hk, if_pos (by decide), if_neg h0]
end Wi
end Go.Proofs.Ytkfgedgjpgehoaa
