/- What the document's ReadRecord answers, plain: it is what the program's answer. Bytes that are few. -/
import Derived.Test.YtkfgedgjpgehoaaInM
namespace Go.Proofs.Ytkfgedgjpgehoaa
open Go.ChangeShapes Go.WideShapes Go.ChangeAt Go.RowKit
set_option linter.unusedVariables false
set_option linter.unusedSimpArgs false
set_option maxRecDepth 100000
namespace Wi
def tlR (k : Nat) : List Mo := if k = 1 then writeM 1 else if k = 2 then chainM 21 ++ [.n 34] else []
def offR (k : Nat) : Nat := if k = 2 then 21 else 1
def cellsR (k : Nat) (D : List Value) : List Value := [.int .i64 (k : Nat)] ++ (if k = 1 then D ++ zeroR.drop 21 else if k = 2 then entZ ++ D else zeroR.drop 1)
def refRc (k : Nat) (i : Id) : Id × List Value := if k = 1 ∨ k = 2 ∨ k = 3 then ((rdI (tlR k) i).1, cellsR k (rdI (tlR k) i).2) else ({ i with bad := true }, zeroR)
def refR (bs : List UInt8) : List Value × Nat × Int :=
  if bs = [] then (zeroR, 0, 3) else if bodyC bs ≠ 0 then (zeroR, 0, bodyC bs)
  else if sick (refRc (inNum (inI (Mem.sub bs 2 (hdN bs)))).2 (inNum (inI (Mem.sub bs 2 (hdN bs)))).1) (hdN bs) = true then (zeroR, 0, 41)
  else ((refRc (inNum (inI (Mem.sub bs 2 (hdN bs)))).2 (inNum (inI (Mem.sub bs 2 (hdN bs)))).1).2, hdN bs + 6, 0)
theorem recM_tl (k : Nat) : recM (k : Int) = .n 0 :: tlR k := by
  unfold recM tlR
  by_cases h1 : k = 1
  · subst h1; rfl
  · by_cases h2 : k = 2
    · subst h2; rfl
    · rw [if_neg (by omega), if_neg (by omega), if_neg h1, if_neg h2]
theorem seq_tl (k : Nat) : seqK (offR k) (tlR k) = true := by
  unfold tlR offR
  by_cases h1 : k = 1
  · subst h1; decide +kernel
  · by_cases h2 : k = 2
    · subst h2; decide +kernel
    · rw [if_neg h1, if_neg h2, if_neg h2]; rfl
theorem all_tl (k : Nat) : (tlR k).all noK = true := by
  unfold tlR
  split
  · decide +kernel
  · split
    · decide +kernel
    · rfl
theorem wk_tl (k : Nat) : (tlR k).all (wk recK) = true := by
  unfold tlR
  split
  · decide +kernel
  · split
    · decide +kernel
    · rfl
theorem zero_21 : zeroR.drop 21 = chZ ++ [z0] := rfl
theorem zero_1 : zeroR.drop 1 = entZ ++ (chZ ++ [z0]) := rfl
theorem entZ_ok : Cells.Ok entryK entZ := by simp [entryK, entZ, z0, Cells.Ok, Cells.ok]
theorem chZ_ok : Cells.Ok (chainKd ++ [.i]) (chZ ++ [z0]) := by simp [chainKd, chZ, z0, Cells.Ok, Cells.ok]
theorem recK_parts : recK = [.i] ++ (entryK ++ (chainKd ++ [.i])) := by unfold recK; simp only [List.append_assoc]
theorem tl_len (k : Nat) (i : Id) : (rdI (tlR k) i).2.length = if k = 1 then 20 else if k = 2 then 14 else 0 := by
  rw [rdI_len]
  unfold tlR
  split
  · decide +kernel
  · split
    · decide +kernel
    · rfl
theorem cellsR_ok {k : Nat} (i : Id) (hk : k = 1 ∨ k = 2 ∨ k = 3) : Cells.Ok recK (cellsR k (rdI (tlR k) i).2) := by
  have hi : Cells.Ok [.i] [.int .i64 (k : Nat)] := ⟨⟨_, rfl⟩, trivial⟩
  have hD := rdI_ok (tlR k) i
  rw [recK_parts]
  unfold cellsR
  refine Cells.Ok.app hi ?_
  rcases hk with rfl | rfl | rfl
  · rw [if_pos rfl, zero_21]
    rw [show ((tlR 1).filter noK).map kdM = entryK by decide +kernel] at hD
    exact hD.app chZ_ok
  · rw [if_neg (by decide), if_pos rfl]
    rw [show ((tlR 2).filter noK).map kdM = chainKd ++ [.i] by decide +kernel] at hD
    exact entZ_ok.app hD
  · rw [if_neg (by decide), if_neg (by decide), zero_1]
    exact entZ_ok.app chZ_ok
theorem cellsR_bare {k : Nat} (i : Id) (hk : k = 1 ∨ k = 2 ∨ k = 3) : bareL (cellsR k (rdI (tlR k) i).2) = cellsR k (rdI (tlR k) i).2 := by
  have hl := tl_len k i
  obtain ⟨D, hD⟩ : ∃ D, (rdI (tlR k) i).2 = D := ⟨_, rfl⟩
  rw [hD] at hl ⊢
  rcases hk with rfl | rfl | rfl
  · rw [if_pos rfl] at hl
    unfold cellsR bareL
    rw [if_pos rfl, zero_21]
    dsimp only [List.cons_append, List.nil_append, List.getElem?_cons_zero, List.drop_succ_cons, List.drop_zero]
    rw [if_pos (show ((1 : Nat) : Int) = 1 from rfl), if_neg (show ¬ ((1 : Nat) : Int) = 2 by decide), if_neg (show ¬ ((1 : Nat) : Int) = 2 by decide)]
    rw [show List.drop 1 (Value.int IntKind.i64 ((1 : Nat) : Int) :: (D ++ (chZ ++ [z0]))) = D ++ (chZ ++ [z0]) from rfl, List.take_append_of_le_length (by omega), List.take_of_length_le (by omega), List.append_assoc]
  · rw [if_neg (by decide), if_pos rfl] at hl
    unfold cellsR bareL
    rw [if_neg (by decide), if_pos rfl]
    have h1 : ([Value.int .i64 ((2 : Nat) : Int)] ++ (entZ ++ D)).drop 21 = D := rfl
    have h2 : ([Value.int .i64 ((2 : Nat) : Int)] ++ (entZ ++ D)).drop 34 = D.drop 13 := rfl
    have h0 : ([Value.int .i64 ((2 : Nat) : Int)] ++ (entZ ++ D))[0]? = some (.int .i64 ((2 : Nat) : Int)) := rfl
    rw [h1, h2, h0]
    dsimp only
    rw [if_neg (show ¬ ((2 : Nat) : Int) = 1 by decide), if_pos (show ((2 : Nat) : Int) = 2 from rfl), if_pos (show ((2 : Nat) : Int) = 2 from rfl), List.append_assoc, List.append_assoc]
    congr 2
    rw [List.take_of_length_le (l := D.drop 13) (by rw [List.length_drop]; omega), List.take_append_drop]
  · rfl
theorem cellsR_seg {k : Nat} (i : Id) (hk : k = 1 ∨ k = 2 ∨ k = 3) : ∀ (j : Nat) (u : Value), (rdI (tlR k) i).2[j]? = some u → (cellsR k (rdI (tlR k) i).2)[offR k + j]? = some u := by
  have hl := tl_len k i
  obtain ⟨D, hD⟩ : ∃ D, (rdI (tlR k) i).2 = D := ⟨_, rfl⟩
  rw [hD] at hl ⊢
  intro j u hu
  rcases hk with rfl | rfl | rfl
  · obtain ⟨h1, _⟩ := List.getElem?_eq_some_iff.1 hu
    unfold cellsR offR
    rw [if_pos rfl, if_neg (by decide), Nat.add_comm 1 j]
    show (D ++ zeroR.drop 21)[j]? = _
    rw [List.getElem?_append_left h1, hu]
  · unfold cellsR offR
    rw [if_neg (by decide), if_pos rfl, if_pos rfl, ← List.append_assoc, List.getElem?_append_right (by simp [entZ])]
    rw [show 21 + j - ([Value.int .i64 ((2 : Nat) : Int)] ++ entZ).length = j by simp [entZ], hu]
  · rw [if_neg (by decide), if_neg (by decide)] at hl
    obtain ⟨h1, _⟩ := List.getElem?_eq_some_iff.1 hu
    omega
theorem refRc_bad {k : Nat} {i : Id} {n : Nat} (h : ¬ sick (refRc k i) n = true) : (k = 1 ∨ k = 2 ∨ k = 3) ∧ (rdI (tlR k) i).1.bad = false ∧ (rdI (tlR k) i).1.pos = n ∧ (refRc k i).2 = cellsR k (rdI (tlR k) i).2 := by
  by_cases hk : k = 1 ∨ k = 2 ∨ k = 3
  · have he : refRc k i = ((rdI (tlR k) i).1, cellsR k (rdI (tlR k) i).2) := by unfold refRc; rw [if_pos hk]
    rw [he] at h ⊢
    obtain ⟨h1, h2⟩ := sick_no h
    exact ⟨hk, h1, h2, rfl⟩
  · have he : refRc k i = ({ i with bad := true }, zeroR) := by unfold refRc; rw [if_neg hk]
    rw [he] at h
    exact absurd rfl h
theorem rdI_bs : ∀ (ops : List Mo) (i : Id), (rdI ops i).1.bs = i.bs
  | [], i => rfl
  | .n _ :: a, i => (rdI_bs a _).trans (inNum_bs i)
  | .b _ :: a, i => (rdI_bs a _).trans (inTru_bs i)
  | .t _ m :: a, i => (rdI_bs a _).trans (inTxt_bs i _)
  | .k _ _ _ :: a, i => rdI_bs a i
theorem refR_good {B : List UInt8} {n : Nat} (hn : B.length = n) (hl : n ≤ 100000) (h : ¬ sick (refRc (inNum (inI B)).2 (inNum (inI B)).1) n = true) :
    ∃ k : Int, Fed recK (refRc (inNum (inI B)).2 (inNum (inI B)).1).2 ∧ GoodR k (refRc (inNum (inI B)).2 (inNum (inI B)).1).2 ∧ enR k (refRc (inNum (inI B)).2 (inNum (inI B)).1).2 = B := by
  obtain ⟨hk, hb, hp, he⟩ := refRc_bad h
  have hib : (inNum (inI B)).1.bs = B := inNum_bs _
  have hipl : (inNum (inI B)).1.pos ≤ (inNum (inI B)).1.bs.length := inNum_pl (Nat.zero_le _)
  have hA := rdI_A (xs := cellsR (inNum (inI B)).2 (rdI (tlR (inNum (inI B)).2) (inNum (inI B)).1).2) (tlR (inNum (inI B)).2) (offR (inNum (inI B)).2) (inNum (inI B)).1 (seq_tl _) hipl hb (cellsR_seg _ hk)
  obtain ⟨h1, h2, h3, h4⟩ := inNum_A hA.bad
  have hok := cellsR_ok (inNum (inI B)).1 hk
  have hba := cellsR_bare (inNum (inI B)).1 hk
  have hsh : Sm (cellsR (inNum (inI B)).2 (rdI (tlR (inNum (inI B)).2) (inNum (inI B)).1).2) := by
    intro j s hj
    have h5 := List.mem_of_getElem? hj
    have h6 := rdI_sh (M := 100000) (tlR (inNum (inI B)).2) (inNum (inI B)).1 (by rw [hib]; omega)
    have h7 : ∀ v ∈ zeroR, ∀ s, v = .string s → s.size ≤ 100000 := by
      intro v hv s hs
      subst hs
      obtain ⟨q, hq⟩ := List.getElem?_of_mem hv
      exact zeroR_sh 100000 q s hq
    unfold cellsR at h5
    rcases List.mem_append.1 h5 with h5 | h5
    · rw [List.mem_singleton] at h5; cases h5
    · split at h5
      · rcases List.mem_append.1 h5 with h5 | h5
        · exact h6 _ h5 s rfl
        · exact h7 _ (List.mem_of_mem_drop h5) s rfl
      · split at h5
        · rcases List.mem_append.1 h5 with h5 | h5
          · exact h7 _ (by rw [show zeroR = [z0] ++ entZ ++ (chZ ++ [z0]) from rfl]; exact List.mem_append_left _ (List.mem_append_right _ h5)) s rfl
          · exact h6 _ h5 s rfl
        · exact h7 _ (List.mem_of_mem_drop h5) s rfl
  rw [he]
  obtain ⟨k, hkk⟩ : ∃ k, (inNum (inI B)).2 = k := ⟨_, rfl⟩
  obtain ⟨i1, hi1⟩ : ∃ i1, (inNum (inI B)).1 = i1 := ⟨_, rfl⟩
  rw [hkk] at hk
  rw [hkk, hi1] at hb hp hA hok hba hsh ⊢
  rw [hkk] at h2 h3 h4
  rw [hi1] at hib h3
  obtain ⟨xs, hxs⟩ : ∃ xs, cellsR k (rdI (tlR k) i1).2 = xs := ⟨_, rfl⟩
  have h0 : xs[0]? = some (.int .i64 (k : Nat)) := by rw [← hxs]; rfl
  rw [hxs] at hA hok hba hsh ⊢
  have hf : Fed recK xs := ⟨hok, hsh⟩
  have hv : ¬ ((k : Int) < 0 ∨ 4611686018427387904 < (k : Int)) := by omega
  have e1 : encM xs (.n 0) = vb k := by rw [encM_n h0, if_neg hv]; rfl
  have hk' : (k : Int) = 1 ∨ (k : Int) = 2 ∨ (k : Int) = 3 := by omega
  have he2 : enR (k : Int) xs = B := by
    unfold enR
    rw [recM_tl, encL_cons, e1]
    have h5 := hA.drop
    have h6 := hA.pos
    rw [h6] at hp
    rw [h3] at h5 hp
    dsimp only at h5 hp
    rw [hp] at h5
    have h7 : (inI B).bs.drop (inI B).pos = B := rfl
    have h8 : (inI B).bs.drop n = [] := by show B.drop n = []; rw [List.drop_eq_nil_of_le (by omega)]
    rw [h8, List.append_nil] at h5
    rw [h7, h5] at h4
    exact h4.symm
  have harg : (recM (k : Int)).any (argM xs) = false := by
    rw [recM_tl, List.any_cons, Bool.or_eq_false_iff]
    refine ⟨by rw [argM_n h0]; simpa using hv, ?_⟩
    rw [List.any_eq_false]
    intro op hop
    rw [hA.arg op hop (List.all_eq_true.1 (all_tl k) op hop)]; decide
  have hlong : (recM (k : Int)).any (longM xs) = false := by
    rw [recM_tl, List.any_cons, Bool.or_eq_false_iff]
    refine ⟨rfl, ?_⟩
    rw [List.any_eq_false]
    intro op hop
    rw [hA.long op hop]; decide
  have hr := recC_eq hf h0 hk'
  rw [harg, hlong, hba, (Cells.eqL_iff hok hok).2 rfl] at hr
  have hfr : (framedC (recC xs)).2 = 0 := by rw [hr]; rfl
  obtain ⟨k2, hg⟩ := goodR_of hf hfr
  have h9 := hg.at0
  rw [h0] at h9
  have h10 : k2 = (k : Int) := by injection h9 with h9; injection h9 with _ h9; exact h9.symm
  subst h10
  exact ⟨_, hf, hg, he2⟩
theorem refR_back {k : Int} {xs : List Value} (hf : Fed recK xs) (hg : GoodR k xs) (hl : (recM k).any (longM xs) = false) : sick (refRc (inNum (inI (enR k xs))).2 (inNum (inI (enR k xs))).1) (enR k xs).length = false := by
  obtain ⟨q, rfl⟩ : ∃ q : Nat, k = q := ⟨k.toNat, by have := hg.kd; omega⟩
  have hv : ¬ ((q : Int) < 0 ∨ 4611686018427387904 < (q : Int)) := by have := hg.kd; omega
  have e1 : encM xs (.n 0) = vb q := by rw [encM_n hg.at0, if_neg hv]; rfl
  have e2 : enR (q : Int) xs = vb q ++ encL (tlR q) xs := by unfold enR; rw [recM_tl, encL_cons, e1]
  obtain ⟨B, hB⟩ : ∃ B, enR (q : Int) xs = B := ⟨_, rfl⟩
  rw [hB]
  have hn := inNum_B (i := inI B) (m := q) (rest := encL (tlR q) xs) rfl (by show B = _; rw [← hB, e2]) (by omega)
  rw [hn]
  have ha := hg.arg
  rw [recM_tl, List.any_cons, Bool.or_eq_false_iff] at ha hl
  have hd : B.drop (0 + (vb q).length) = encL (tlR q) xs := by rw [← hB, e2, Nat.zero_add, List.drop_left]
  obtain ⟨h1, h2⟩ := rdI_B hf.ok hf.str (tlR q) (offR q) { inI B with pos := (inI B).pos + (vb q).length } [] (seq_tl q) (wk_tl q) rfl (by rw [List.append_nil]; exact hd) ha.2 hl.2
  have hk : q = 1 ∨ q = 2 ∨ q = 3 := by have := hg.kd; omega
  unfold refRc
  rw [if_pos hk, h1]
  have h3 : B.length = (vb q).length + (encL (tlR q) xs).length := by rw [← hB, e2, List.length_append]
  unfold sick inI
  dsimp only
  simp
  omega
theorem refR_eq {bs : List UInt8} (hb : bs.length ≤ 100000) : refR bs = readR bs := by
  by_cases hne : bs = []
  · unfold refR readR; rw [if_pos hne, if_pos hne]
  by_cases hc0 : bodyC bs ≠ 0
  · unfold refR readR; rw [if_neg hne, if_pos hc0, if_neg hne, if_pos hc0]
  have hc : bodyC bs = 0 := by
    by_cases h : bodyC bs = 0
    · exact h
    · exact absurd h hc0
  have hle := bodyC_good hc
  have hn : (Mem.sub bs 2 (hdN bs)).length = hdN bs := Mem.sub_len (by omega)
  have h65 := hdN_lt bs
  have hfr := sub_of_good hc
  have hall : bs = frameB (Mem.sub bs 2 (hdN bs)) ++ bs.drop (hdN bs + 6) := by
    rw [← hfr]; unfold Mem.sub; rw [List.drop_zero, List.take_append_drop]
  unfold refR
  rw [if_neg hne, if_neg hc0]
  by_cases hs : sick (refRc (inNum (inI (Mem.sub bs 2 (hdN bs)))).2 (inNum (inI (Mem.sub bs 2 (hdN bs)))).1) (hdN bs) = true
  · rw [if_pos hs]
    unfold readR
    rw [if_neg hne, if_neg hc0]
    split
    · rfl
    · split
      · rename_i h1 h2
        exfalso
        obtain ⟨g1, g2⟩ := h2
        have hok := recF_ok (ks := recK) (r := (rdC (Mem.sub bs 2 (hdN bs)), zeroR)) zeroR_ok
        have hbs := recF_rd (r := (rdC (Mem.sub bs 2 (hdN bs)), zeroR)) (M := 100000) rfl (by show (Mem.sub bs 2 (hdN bs)).length ≤ _; omega) (zeroR_sh _)
        have hf : Fed recK (runR (Mem.sub bs 2 (hdN bs))).2 := ⟨hok, hbs.2⟩
        obtain ⟨k, hg⟩ := goodR_of hf g1
        rw [hg.fr, hfr] at g2
        have he : enR k (runR (Mem.sub bs 2 (hdN bs))).2 = Mem.sub bs 2 (hdN bs) := frame_inj (by have := hg.len; omega) (by omega) g2
        have hlo : (recM k).any (longM (runR (Mem.sub bs 2 (hdN bs))).2) = false := by
          have h3 := recC_eq hf hg.at0 hg.kd
          have h4 := g1
          rw [h3] at h4
          unfold framedC at h4
          dsimp only at h4
          split at h4
          · cases h4
          · split at h4
            · cases h4
            · rename_i h5; simpa using h5
        have hb2 := refR_back hf hg hlo
        rw [he, hn] at hb2
        rw [hb2] at hs
        cases hs
      · rfl
  · rw [if_neg hs]
    obtain ⟨k, g1, g2, g3⟩ := refR_good hn (by omega) hs
    have h8 := readR_enc g1 g2 (bs.drop (hdN bs + 6))
    rw [g3, ← hall] at h8
    rw [h8, frame_len, hn]
end Wi
end Go.Proofs.Ytkfgedgjpgehoaa
