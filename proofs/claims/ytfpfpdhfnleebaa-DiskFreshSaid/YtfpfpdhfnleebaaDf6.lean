/- The walk of the document's disk: Remove. No conditions but that it is no great one. -/
import Derived.Test.YtfpfpdhfnleebaaDf5
set_option maxRecDepth 8000
namespace Go.Proofs.Ytfpfpdhfnleebaa
open Go.ChangeShapes Go.WideShapes Go.ChangeAt Go.RowKit
set_option linter.unusedVariables false
set_option linter.unusedSimpArgs false
namespace Df
def removeQ (q : Q) (n : Int) : Q := match atF n q.l with
  | some f => ⟨q.l.eraseIdx (low n q.l), q.time⟩
  | none => q
theorem ptr_elem : Mem.Elem Try.prog 63 78 1 8 := Mem.elem_of Try.underlying63 (z := .pointer none) (by kernel_rfl) rfl (by omega)
theorem ptr_one (rs : List R) : ∀ u ∈ rs.map ptr, u.oneCell' = true := by
  intro u hu
  obtain ⟨r, _, rfl⟩ := List.mem_map.1 hu
  rfl
/-- the tail of a slice -/
theorem rd_tail {w : World} {B : Nat} {b o c l s : Nat} {xs : List Value} (h : Mem.Rd w B (some ⟨b, o, none⟩) xs) (hc : xs.length ≤ c) (hs : s = 1) : Mem.Rd w B (if c = l then some ⟨b, o, none⟩ else (some (⟨b, o, none⟩ : Addr)).map (·.add (l * s))) (xs.drop l) := by
  subst hs
  by_cases hcl : c = l
  · subst hcl
    rw [if_pos rfl, List.drop_of_length_le hc]
    exact .inl rfl
  · rw [if_neg hcl]
    rcases h with h | ⟨b', o', he, hb, hcell⟩
    · subst h; exact .inl (by simp)
    · cases he
      refine .inr ⟨b, o + l, by simp [Addr.add], hb, fun j u hu => ?_⟩
      rw [List.getElem?_drop] at hu
      have := hcell _ u hu
      rwa [← Nat.add_assoc] at this
end Df
open Df in
set_option maxHeartbeats 2000000 in
theorem dfRemove_any {w : World} {g c time : Nat} {A : Option Addr} {rs : List Df.R} (h : Df.DS w g A c rs time) (n : Int) (hsm : rs.length ≤ 1000000) :
    Calls Try.prog 34 #[.pointer (some ⟨g, 0, none⟩), .int .i64 n] w (Df.QEnd w g (Df.fpD g A rs) (Df.removeQ ⟨rs.map (·.f), time⟩ n) (.int .i64 (Df.erN n (rs.map (·.f))))) := by
  have HFD := Lib.hid (dfFind_any h n)
  have HD := Lib.hid h
  cases hf : atF n (rs.map (·.f)) with
  | none =>
    have hat := at_none hf
    have HS : Hid (erN n (rs.map (·.f)) = 50) := by show _ = _; unfold erN; rw [hf]
    have HQ : Hid (removeQ ⟨rs.map (·.f), time⟩ n = ⟨rs.map (·.f), time⟩) := by show _ = _; unfold removeQ; dsimp only; rw [hf]
    unfold fnd at HFD
    rw [hat] at HFD
    clear h hat hf
    go_enter Try.func34, Try.ntmps34
    go_wp2_with (go_at_call 46; (refine HFD.out.mono ?_); rintro x w1 ⟨rfl, m1, rfl⟩; clear HFD)
    go_ret
    exact ⟨by rw [HS.out]; rfl, ⟨_, by rw [HQ.out]; exact (HD.out.drewN m1).qat rfl, fun k hk => .inl hk⟩, ((Mem.Keeps.refl _ w).drewN m1)⟩
  | some f =>
    obtain ⟨hat, r, hr, rfl, hn⟩ := at_some hf
    have HS : Hid (erN n (rs.map (·.f)) = 0) := by show _ = _; unfold erN; rw [hf]
    have hq : removeQ ⟨rs.map (·.f), time⟩ n = ⟨(rs.map (·.f)).eraseIdx (low n (rs.map (·.f))), time⟩ := by unfold removeQ; dsimp only; rw [hf]
    unfold fnd at HFD
    rw [hat] at HFD
    obtain ⟨K, hK⟩ : ∃ K, low n (rs.map (·.f)) = K := ⟨_, rfl⟩
    rw [hK] at hr HFD hq
    have hkl := (List.getElem?_eq_some_iff.1 hr).1
    obtain ⟨pre, post, hrs, hpl⟩ := split_at hr
    have HQ := Lib.hid hq
    have HRS := Lib.hid hrs
    have HPL := Lib.hid hpl
    have hpo : rs.length - (K + 1) = post.length := by rw [hrs]; simp; omega
    obtain ⟨b, o, rfl⟩ := h.O.form (by omega)
    have hlc : rs.length ≤ c := h.O.le
    have hcc : c ≤ 9223372036854775807 := by have := h.O.cap; unfold maxLen at this; omega
    clear h hat hf hn hr hK hq hrs hpl
    go_enter Try.func34, Try.ntmps34
    go_upto_region 5 with (go_at_call 46; (refine HFD.out.mono ?_); rintro x w1 ⟨rfl, m1, hw1⟩; have HW1 := Lib.hid hw1; clear HFD hw1)
    have HD1 : Hid (DS w1 g (some ⟨b, o, none⟩) c rs time) := by show DS _ _ _ _ _ _; rw [HW1.out]; exact HD.out.drewN m1
    have HK1 : Hid (Mem.Keeps (fun _ => False) w w1) := by show Mem.Keeps _ _ _; rw [HW1.out]; exact (Mem.Keeps.refl _ w).drewN m1
    clear HW1 HD
    have x0 : w1.cell? ⟨g, 0, none⟩ = some (.slice (some ⟨b, o, none⟩) rs.length c) := HD1.out.B.cell (j := 0) rfl
    have hrd := HD1.out.O.rd
    have hr1 := hrd.take K
    have hr2 := rd_tail (c := c) (l := K + 1) (s := 1) hrd (by rw [List.length_map]; exact hlc) rfl
    have e1 : (rs.map ptr).take K = pre.map ptr := by rw [HRS.out, ← HPL.out]; simp
    have e2 : (rs.map ptr).drop (K + 1) = post.map ptr := by rw [HRS.out, ← HPL.out, show pre ++ r :: post = (pre ++ [r]) ++ post by simp, List.map_append]; exact List.drop_left' (by simp)
    rw [e1] at hr1
    rw [e2] at hr2
    have HR1 := Lib.hid hr1
    have HR2 := Lib.hid hr2
    have hpl : (pre.map ptr).length = K * 1 := by rw [List.length_map, HPL.out, Nat.mul_one]
    have hKm : K ≤ maxLen := by unfold maxLen; omega
    have hPm : K + post.length ≤ maxLen := by unfold maxLen; omega
    have hPs : K + post.length ≤ 1000000 := by omega
    clear hrd hr1 hr2 e1 e2
    go_upto_region 6 with (at_builtin; refine Mem.wpList_app _ rfl (.tmp 16) (.tmp 22) _ rfl ptr_elem none 0 0 [] rfl w1.heap.size (some ⟨b, o, none⟩) K c (pre.map ptr) rfl ?_ (Mem.Own.nil _ _ _) HR1.out hpl (ptr_one pre) (by omega) (by omega); intro X cx w2 hown hg2 hat; have hb2 : Below w1.heap.size w1 w2 := (Below.refl _ _).grown hg2 (Nat.le_refl _) (fun q hq => by cases hq); have hfx : Mem.From w1.heap.size X := (by rcases hat with rfl | rfl; exact Mem.From.none_ _; exact Mem.From.some_ (Nat.le_refl _)); rw [Nat.zero_add] at hown ⊢; rw [List.nil_append] at hown; have HO2 := Lib.hid hown; have HB2 := Lib.hid hb2; have HF2 := Lib.hid hfx; clear hown hg2 hat hb2 hfx)
    have x0' : w2.cell? ⟨g, 0, none⟩ = some (.slice (some ⟨b, o, none⟩) rs.length c) := (HB2.out.cell (p := ⟨g, 0, none⟩) HD1.out.B.lt).trans x0
    clear x0
    have hgl := HD1.out.B.lt
    have hg2l : g < w2.heap.size := Nat.lt_of_lt_of_le hgl HB2.out.size
    by_cases hcl : c = K + 1
    · have hr3 : Mem.Rd w2 w1.heap.size (some ⟨b, o, none⟩) (post.map ptr) := by
        have := HR2.out.below HB2.out
        rw [if_pos hcl] at this
        exact this
      have HR3 := Lib.hid hr3
      clear hr3
      subst hcl
      go_upto_region 7 with (at_builtin; refine Mem.wpList_app _ rfl (.tmp 25) (.tmp 32) _ rfl ptr_elem X K cx (pre.map ptr) rfl w1.heap.size (some ⟨b, o, none⟩) post.length _ (post.map ptr) rfl ?_ HO2.out HR3.out (by rw [List.length_map, Nat.mul_one]) (ptr_one post) hPm (by omega); intro X2 c3 w3 hown hg3 hat; have hb3 := HB2.out.grown hg3 HB2.out.size HF2.out.blk; have hfx : Mem.From w1.heap.size X2 := (by rcases hat with rfl | rfl; exact HF2.out; exact Mem.From.some_ HB2.out.size); have hB3 := HD1.out.B.below hb3 HD1.out.B.lt; have x3 : w3.cell? ⟨g, 0, none⟩ = some (.slice (some ⟨b, o, none⟩) rs.length _) := hB3.cell (j := 0) rfl; have f3 := hB3.fr; have hg3l := hB3.lt; have HB3 := Lib.hid hB3; have HO3 := Lib.hid hown; have HBB := Lib.hid hb3; have HF3 := Lib.hid hfx; clear hown hg3 hat hb3 hfx hB3 x0')
      go_wp2
      go_ret
      have hpl2 : (pre ++ post).length = K + post.length := by rw [List.length_append, HPL.out]
      have hB4 := HB3.out.set 0 (.slice X2 (K + post.length) c3)
      have hk4 : Mem.Keeps (fun q => q = g) w1 (w3.setCell ⟨g, 0, none⟩ (.slice X2 (K + post.length) c3)) := ((Mem.Keeps.of_below HBB.out).mono (T := fun q => q = g) (fun _ h _ => h.elim)).setCell (p := ⟨g, 0, none⟩) (fun _ => rfl) _
      have hne : ∀ k, Mem.blk X2 = some k → k ≠ g := fun k hk => by have := HF3.out.blk k hk; omega
      have hO4 := HO3.out.keeps ((Mem.Keeps.refl (fun q => q = g) w3).setCell (p := ⟨g, 0, none⟩) (fun _ => rfl) (.slice X2 (K + post.length) c3)) hne
      have hS := HD1.out.S.p
      rw [HRS.out] at hS
      have hS2 : (pre ++ post).Pairwise (fun r q => ∀ k, r.fp k → ¬ q.fp k) := List.Pairwise.sublist (List.Sublist.append_left (List.sublist_cons_self r post) pre) hS
      obtain ⟨e1, e2, e3⟩ := HD1.out.list (A' := X2) (c' := c3) (rs' := pre ++ post) (by rw [hpl2]; exact hB4) (by rw [hpl2, List.map_append]; exact hO4) (fun k hk => HF3.out.blk k hk) (fun q hq => .inl (by rw [HRS.out]; rcases List.mem_append.1 hq with h | h; exact List.mem_append_left _ h; exact List.mem_append_right _ (List.mem_cons_of_mem _ h))) hS2 hk4
      have hqa := e1.qat (l := (rs.map (·.f)).eraseIdx K) (by rw [HRS.out, ← HPL.out, List.map_append, List.map_append, List.map_cons, List.eraseIdx_append_of_length_le (by simp), List.length_map, Nat.sub_self]; rfl)
      refine ⟨by rw [HS.out]; rfl, ⟨_, by rw [HQ.out]; exact hqa, fun q hq => ?_⟩, ?_⟩
      · rcases e3 q hq with h | h
        · exact .inl h
        · exact .inr (Nat.le_trans HK1.out.size h)
      · exact (HK1.out.mono (T := fpD g (some ⟨b, o, none⟩) rs) (fun _ h _ => h.elim)).trans e2 (fun _ h _ => h)
    · have hr3 : Mem.Rd w2 w1.heap.size (some ⟨b, o + (K + 1), none⟩) (post.map ptr) := by
        have := HR2.out.below HB2.out
        rw [if_neg hcl] at this
        simpa [Addr.add] using this
      have HR3 := Lib.hid hr3
      clear hr3
      go_upto_region 7 with (at_builtin; refine Mem.wpList_app _ rfl (.tmp 25) (.tmp 32) _ rfl ptr_elem X K cx (pre.map ptr) rfl w1.heap.size (some ⟨b, (o+(K+1)), none⟩) post.length _ (post.map ptr) rfl ?_ HO2.out HR3.out (by rw [List.length_map, Nat.mul_one]) (ptr_one post) hPm (by omega); intro X2 c3 w3 hown hg3 hat; have hb3 := HB2.out.grown hg3 HB2.out.size HF2.out.blk; have hfx : Mem.From w1.heap.size X2 := (by rcases hat with rfl | rfl; exact HF2.out; exact Mem.From.some_ HB2.out.size); have hB3 := HD1.out.B.below hb3 HD1.out.B.lt; have x3 : w3.cell? ⟨g, 0, none⟩ = some (.slice (some ⟨b, o, none⟩) rs.length _) := hB3.cell (j := 0) rfl; have f3 := hB3.fr; have hg3l := hB3.lt; have HB3 := Lib.hid hB3; have HO3 := Lib.hid hown; have HBB := Lib.hid hb3; have HF3 := Lib.hid hfx; clear hown hg3 hat hb3 hfx hB3 x0')
      go_wp2
      go_ret
      have hpl2 : (pre ++ post).length = K + post.length := by rw [List.length_append, HPL.out]
      have hB4 := HB3.out.set 0 (.slice X2 (K + post.length) c3)
      have hk4 : Mem.Keeps (fun q => q = g) w1 (w3.setCell ⟨g, 0, none⟩ (.slice X2 (K + post.length) c3)) := ((Mem.Keeps.of_below HBB.out).mono (T := fun q => q = g) (fun _ h _ => h.elim)).setCell (p := ⟨g, 0, none⟩) (fun _ => rfl) _
      have hne : ∀ k, Mem.blk X2 = some k → k ≠ g := fun k hk => by have := HF3.out.blk k hk; omega
      have hO4 := HO3.out.keeps ((Mem.Keeps.refl (fun q => q = g) w3).setCell (p := ⟨g, 0, none⟩) (fun _ => rfl) (.slice X2 (K + post.length) c3)) hne
      have hS := HD1.out.S.p
      rw [HRS.out] at hS
      have hS2 : (pre ++ post).Pairwise (fun r q => ∀ k, r.fp k → ¬ q.fp k) := List.Pairwise.sublist (List.Sublist.append_left (List.sublist_cons_self r post) pre) hS
      obtain ⟨e1, e2, e3⟩ := HD1.out.list (A' := X2) (c' := c3) (rs' := pre ++ post) (by rw [hpl2]; exact hB4) (by rw [hpl2, List.map_append]; exact hO4) (fun k hk => HF3.out.blk k hk) (fun q hq => .inl (by rw [HRS.out]; rcases List.mem_append.1 hq with h | h; exact List.mem_append_left _ h; exact List.mem_append_right _ (List.mem_cons_of_mem _ h))) hS2 hk4
      have hqa := e1.qat (l := (rs.map (·.f)).eraseIdx K) (by rw [HRS.out, ← HPL.out, List.map_append, List.map_append, List.map_cons, List.eraseIdx_append_of_length_le (by simp), List.length_map, Nat.sub_self]; rfl)
      refine ⟨by rw [HS.out]; rfl, ⟨_, by rw [HQ.out]; exact hqa, fun q hq => ?_⟩, ?_⟩
      · rcases e3 q hq with h | h
        · exact .inl h
        · exact .inr (Nat.le_trans HK1.out.size h)
      · exact (HK1.out.mono (T := fpD g (some ⟨b, o, none⟩) rs) (fun _ h _ => h.elim)).trans e2 (fun _ h _ => h)
end Go.Proofs.Ytfpfpdhfnleebaa
