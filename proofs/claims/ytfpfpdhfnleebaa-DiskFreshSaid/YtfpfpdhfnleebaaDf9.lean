/- The walk of the document's disk: Crash. No conditions but that it is no great one. -/
import Derived.Test.YtfpfpdhfnleebaaDf8
import Derived.Test.YtfpfpdhfnleebaaDf7
set_option maxRecDepth 8000
namespace Go.Proofs.Ytfpfpdhfnleebaa
open Go.ChangeShapes Go.WideShapes Go.ChangeAt Go.RowKit
set_option linter.unusedVariables false
set_option linter.unusedSimpArgs false
namespace Df
open Dq (timesQ nF crF crashQ lostQ LastOK)
theorem times_snoc {l : List Fl} {k : Nat} {f : Fl} (h : l[k]? = some f) : timesQ (l.take (k + 1)) = timesQ (l.take k) ++ f.cm.drop (synL f.cm) := by
  unfold timesQ
  rw [Mem.take_snoc h, List.flatMap_append]
  simp
theorem lost_snoc {l : List Fl} {k : Nat} {f : Fl} (last : Nat) (h : l[k]? = some f) : lostQ last (l.take (k + 1)) = lostQ last (l.take k) + (f.bs.length - nF last f) := by
  unfold lostQ
  rw [Mem.take_snoc h, List.map_append, List.sum_append]
  simp
theorem times_le : ∀ {l : List Fl}, (∀ f ∈ l, f.cm.length = f.bs.length) → (timesQ l).length ≤ usedQ l
  | [], _ => Nat.zero_le _
  | f :: l, h => by
    have ih := times_le (l := l) (fun g hg => h g (List.mem_cons_of_mem _ hg))
    have := h f List.mem_cons_self
    unfold timesQ usedQ at *
    rw [List.flatMap_cons, List.length_append, List.map_cons, List.sum_cons, List.length_drop]
    omega
theorem lost_le (last : Nat) (l : List Fl) : lostQ last l ≤ usedQ l := by
  induction l with
  | nil => exact Nat.le_refl _
  | cons f l ih =>
    unfold lostQ usedQ at *
    rw [List.map_cons, List.sum_cons, List.map_cons, List.sum_cons]; omega
theorem nF_le (last : Nat) (f : Fl) : nF last f ≤ f.cm.length := by unfold nF; exact (List.takeWhile_sublist _).length_le
theorem tw_lt {α : Type} (p : α → Bool) : ∀ {l : List α} {k : Nat}, k < (l.takeWhile p).length → ∃ t, l[k]? = some t ∧ p t = true
  | [], k, h => by simp at h
  | t :: l, k, h => by
    rw [List.takeWhile_cons] at h
    by_cases ht : p t = true
    · rw [if_pos ht] at h
      cases k with
      | zero => exact ⟨t, rfl, ht⟩
      | succ k =>
        rw [List.length_cons] at h
        exact tw_lt p (l := l) (k := k) (by omega)
    · rw [if_neg ht] at h; simp at h
theorem tw_stop {α : Type} (p : α → Bool) : ∀ (l : List α) (t : α), l[(l.takeWhile p).length]? = some t → p t = false
  | [], t, h => by simp at h
  | s :: l, t, h => by
    rw [List.takeWhile_cons] at h
    by_cases hs : p s = true
    · rw [if_pos hs, List.length_cons, List.getElem?_cons_succ] at h
      exact tw_stop p l t h
    · rw [if_neg hs] at h
      simp at h
      subst h; simpa using hs
structure C1 (w : World) (ls : List Fl) (v5 v6 : Value) (wr : World) : Prop where
  out : ∃ (i : Nat) (X : Option Addr) (cx n : Nat), i ≤ ls.length ∧ v6 = .int .i64 i ∧ v5 = .slice X n cx ∧ Hid (n = (timesQ (ls.take i)).length) ∧ Hid (Mem.Own wr 3 1 X n cx ((timesQ (ls.take i)).map tmV)) ∧ Hid (Mem.From w.heap.size X) ∧ Hid (Below w.heap.size w wr)
structure C2 (w : World) (ls : List Fl) (i : Nat) (cm : List Nat) (v5 v7 : Value) (wr : World) : Prop where
  out : ∃ (k : Nat) (X : Option Addr) (cx n : Nat), synL cm ≤ k ∧ k ≤ cm.length ∧ v7 = .int .i64 k ∧ v5 = .slice X n cx ∧ Hid (n = (timesQ (ls.take i)).length + (k - synL cm)) ∧ Hid (Mem.Own wr 3 1 X n cx ((timesQ (ls.take i) ++ (cm.take k).drop (synL cm)).map tmV)) ∧ Hid (Mem.From w.heap.size X) ∧ Hid (Below w.heap.size w wr)
structure C3 (w : World) (g : Nat) (A : Option Addr) (c : Nat) (rs : List R) (time last : Nat) (v9 v10 : Value) (wr : World) : Prop where
  out : ∃ (i lost : Nat) (rk : List R), i ≤ rs.length ∧ v10 = .int .i64 i ∧ v9 = .int .i64 lost ∧ Hid (lost = lostQ last ((rs.map (·.f)).take i)) ∧ Hid (DS wr g A c rk time) ∧ Hid (rk.map (·.f) = ((rs.map (·.f)).take i).map (crF last) ++ (rs.map (·.f)).drop i) ∧
    Hid (∀ k, fpD g A rk k ↔ fpD g A rs k) ∧ Hid (Mem.Keeps (fpD g A rs) w wr)
structure C4 (w1 : World) (T : Option Addr) (e last : Nat) (f : Fl) (v : Value) (wr : World) : Prop where
  out : ∃ k, k ≤ nF last f ∧ v = .int .i64 k ∧ Hid (Mem.Own wr 3 1 T f.cm.length e ((List.replicate k 0 ++ f.cm.drop k).map tmV)) ∧ Hid (Mem.Keeps (fun q => Mem.blk T = some q) w1 wr)
end Df
open Df in
open Dq (timesQ nF crF crashQ lostQ LastOK) in
set_option maxHeartbeats 4000000 in
theorem dfCrash_any {w : World} {g c time : Nat} {A : Option Addr} {rs : List Df.R} (h : Df.DS w g A c rs time) (keep : Int) (hk : -9223372036854775808 ≤ keep ∧ keep ≤ 9223372036854775807) (hu : Df.usedQ (rs.map (·.f)) ≤ 1048576) (ht : time ≤ 1000000000) (hs : Df.Srt (rs.map (·.f))) (htm : ∀ f ∈ rs.map (·.f), ∀ t ∈ f.cm, t ≤ 1000000000) :
    Calls Try.prog 35 #[.pointer (some ⟨g, 0, none⟩), .int .i64 keep] w fun x w' => ∃ last, LastOK ⟨rs.map (·.f), time⟩ keep.toNat last ∧ Df.QEnd w g (Df.fpD g A rs) (crashQ last ⟨rs.map (·.f), time⟩) (.int .i64 (lostQ last (rs.map (·.f)) : Nat)) x w' := by
  have hlm : rs.length ≤ maxLen := Nat.le_trans h.O.le h.O.cap
  unfold maxLen at hlm
  have hcl : ∀ f ∈ rs.map (·.f), f.cm.length = f.bs.length := fun f hf => by
    obtain ⟨r, hr, rfl⟩ := List.mem_map.1 hf
    exact (h.F r hr).len
  have HCL := Lib.hid hcl
  have HTM := Lib.hid htm
  have HS := Lib.hid hs
  have HD := Lib.hid h
  have hmx : ∀ ts t' W, (Builtin.max_ ts t' #[.int .i64 0, .int .i64 keep]).run Try.prog W = .ok (.int .i64 (keep.toNat : Int)) W := fun ts t' W => by rw [run_max2]; congr 2; omega
  have hkk : keep.toNat ≤ 9223372036854775807 := by omega
  obtain ⟨kk, hkk2⟩ : ∃ kk, keep.toNat = kk := ⟨_, rfl⟩
  rw [hkk2] at hmx hkk ⊢
  obtain ⟨ls, hls⟩ : ∃ ls, rs.map (·.f) = ls := ⟨_, rfl⟩
  have hll : ls.length = rs.length := by rw [← hls, List.length_map]
  have HLS := Lib.hid hls
  rw [hls] at hu HCL HTM HS ⊢
  clear h hcl htm hs hkk2 hls
  go_enter Try.func35, Try.ntmps35
  go_wp2
  clear hmx
  go_loopw [5, 6] (C1 w ls) (fun _ t _ => rs.length - (intOf t).toNat)
  case atStart => exact ⟨⟨0, none, 0, 0, by omega, rfl, rfl, rfl, Mem.Own.nil _ _ _, Mem.From.none_ _, Below.refl _ _⟩⟩
  case round =>
    obtain ⟨ix, X, cx, n, hi, rfl, rfl, HN, HX, HF, HB⟩ := hrel.out
    clear hrel
    have HDR := Lib.hid (HD.out.below HB.out)
    have x0 : wr.cell? ⟨g, 0, none⟩ = some (.slice A rs.length c) := HDR.out.B.cell (j := 0) rfl
    by_cases hlt : ix < rs.length
    · obtain ⟨r, hr⟩ : ∃ r, rs[ix]? = some r := ⟨_, List.getElem?_eq_getElem hlt⟩
      obtain ⟨b, o, rfl, y0, y1, y2, y3, hFA⟩ := HDR.out.at hr
      have hlr : ls[ix]? = some r.f := by rw [← HLS.out, List.getElem?_map, hr]; rfl
      have hsy : synN r.f.n (rs.map (·.f)) = synL r.f.cm := by rw [HLS.out]; unfold synN; rw [at_at HS.out hlr]
      have hsl := synL_le r.f.cm
      obtain ⟨sl, hsl2⟩ : ∃ sl, synL r.f.cm = sl := ⟨_, rfl⟩
      have HSL := Lib.hid hsl2
      rw [hsl2] at hsy hsl
      have hq0 := dfSynced_any HDR.out r.f.n
      rw [hsy] at hq0
      have HQ := Lib.hid hq0
      have hle := used_take_le ls (ix + 1)
      rw [used_snoc hlr] at hle
      have hlen := hFA.len
      have htl := times_le (l := ls.take ix) (fun f hf => HCL.out f (List.mem_of_mem_take hf))
      have hn9 : n + r.f.bs.length ≤ 1048576 := by rw [HN.out]; omega
      have HLR := Lib.hid hlr
      have HR := Lib.hid hr
      have d0 : decide ((ix : Int) < (rs.length : Int)) = true := by simp; omega
      clear hsy hsl2 hle hlr hr hFA htl hq0
      go_wp2_with (go_at_call 41; (refine HQ.out.mono ?_); rintro x w1 ⟨rfl, nq, hw1⟩; have HW1 := Lib.hid hw1; clear HQ hw1)
      have HB1 : Hid (Below w.heap.size w w1) := by show Below _ _ _; rw [HW1.out]; exact Mem.below_drewN HB.out nq
      have HX1 : Hid (Mem.Own w1 3 1 X n cx ((timesQ (ls.take ix)).map tmV)) := by show Mem.Own _ _ _ _ _ _ _; rw [HW1.out]; exact HX.out.keeps ((Mem.Keeps.refl (fun _ => False) wr).drewN nq) (fun _ _ h => h)
      clear HW1 HB HX HDR x0 y0 y1 y2 y3
      go_loopw [5, 7] (C2 w ls ix r.f.cm) (fun _ t _ => r.f.cm.length - (intOf t).toNat)
      case atStart => exact ⟨⟨sl, X, cx, n, by rw [HSL.out]; omega, by omega, rfl, rfl, by show _ = _; rw [HSL.out, HN.out]; omega, Lib.hid (by rw [HSL.out, List.drop_of_length_le (by rw [List.length_take]; omega), List.append_nil]; exact HX1.out), HF, HB1⟩⟩
      case round =>
        obtain ⟨k, Y, cy, m, hk1, hk2, rfl, rfl, HM, HY, HG, HBr⟩ := hrel.out
        clear hrel
        rw [HSL.out] at hk1 HM HY
        have hDR := HD.out.below HBr.out
        have x0 : wr.cell? ⟨g, 0, none⟩ = some (.slice (some ⟨b, o, none⟩) rs.length c) := hDR.B.cell (j := 0) rfl
        obtain ⟨b', o', he, y0, y1, y2, y3, hFA⟩ := hDR.at HR.out
        obtain ⟨rfl, rfl⟩ : b = b' ∧ o = o' := by simpa using he
        clear he hDR
        have hm9 : m ≤ 1048576 := by have h1 := HM.out; have h2 := HN.out; omega
        by_cases hlt2 : k < r.f.cm.length
        · obtain ⟨t, htk⟩ : ∃ t, r.f.cm[k]? = some t := ⟨_, List.getElem?_eq_getElem hlt2⟩
          obtain ⟨b2, o2, hT⟩ := hFA.P.form (by omega)
          have hP := hFA.P
          rw [hT] at hP y3
          have yt : wr.cell? ⟨b2, o2 + k, none⟩ = some (.int .i64 (t : Int)) := hP.cell (by rw [List.getElem?_map, htk]; rfl)
          have d1 : decide ((k : Int) < (r.f.bs.length : Int)) = true := by simp; omega
          have HY2 : Hid ((timesQ (ls.take ix) ++ (r.f.cm.take k).drop sl).map tmV ++ [.int .i64 (t : Int)] = (timesQ (ls.take ix) ++ (r.f.cm.take (k + 1)).drop sl).map tmV) := by
            show _ = _
            rw [Mem.take_snoc htk, List.drop_append, List.length_take, Nat.min_eq_left (by omega), Nat.sub_eq_zero_of_le hk1, List.drop_zero, ← List.append_assoc]
            conv => rhs; rw [List.map_append]
            rfl
          have hn63 : m + 1 ≤ maxLen := by unfold maxLen; omega
          clear hFA hP htk
          go_wp2_with (at_builtin; refine Mem.wpList_app _ rfl (.tmp 51) (.tmp 65) _ rfl ints_elem Y m cy _ rfl (wr.heap.size + 1) (some ⟨wr.heap.size, 0, none⟩) 1 1 [.int .i64 (t : Int)] rfl ?_ (HY.out.alloc _) (Mem.Rd.alloc_new wr _ _ _ rfl) rfl (by simp [Value.oneCell']) hn63 (by omega); intro X2 c2 w4 hown hg4 hat; have HO4 := Lib.hid hown; have hs4 := hg4.size; have HB4 : Hid (Below w.heap.size w w4) := (HBr.out.alloc HBr.out.size _).grown hg4 (by simp; have := HBr.out.size; omega) (fun q hq => HG.out.blk q hq); have HF4 : Hid (Mem.From w.heap.size X2) := (by rcases hat with rfl | rfl; exact HG.out; exact Mem.From.some_ (by simp; have := HBr.out.size; omega)); clear hown hg4 hat)
          go_roundw
          case rel => exact ⟨⟨k + 1, X2, c2, m + 1, by rw [HSL.out]; omega, by omega, by go_num, rfl, by show _ = _; rw [HSL.out, HM.out]; omega, Lib.hid (by rw [HSL.out, ← HY2.out]; exact HO4.out), HF4, HB4⟩⟩
          case measure => simp [intOf]; omega
        · obtain rfl : k = r.f.cm.length := by omega
          have d1 : decide ((r.f.cm.length : Int) < (r.f.bs.length : Int)) = false := by simp; omega
          have HY2 : Hid (Mem.Own wr 3 1 Y m cy ((timesQ (ls.take (ix + 1))).map tmV)) := by
            have := HY.out
            rw [List.take_length] at this
            show Mem.Own _ _ _ _ _ _ _
            rw [times_snoc HLR.out, HSL.out]; exact this
          have HM2 : Hid (m = (timesQ (ls.take (ix + 1))).length) := by show _ = _; rw [times_snoc HLR.out, HSL.out, List.length_append, List.length_drop]; exact HM.out
          clear HY HM hFA
          go_wp2
          go_roundw
          case rel => exact ⟨⟨ix + 1, Y, cy, m, by omega, by go_num, rfl, HM2, HY2, HG, HBr⟩⟩
          case measure => simp [intOf]; omega
    · obtain rfl : ix = rs.length := by omega
      have d0 : decide ((rs.length : Int) < (rs.length : Int)) = false := by simp
      have HX2 : Hid (Mem.Own wr 3 1 X n cx ((timesQ ls).map tmV)) := by
        have := HX.out
        rw [List.take_of_length_le (by omega)] at this
        exact this
      have HN2 : Hid (n = (timesQ ls).length) := by have := HN.out; rw [List.take_of_length_le (by omega)] at this; exact this
      clear HX HN
      have z1 : wr.cell? ⟨g, 1, none⟩ = some (tmV time) := HDR.out.B.cell (j := 1) rfl
      unfold tmV at z1
      clear HDR
      have hn9 : n ≤ 1048576 := by
        have h1 := HN2.out
        have h2 := times_le (l := ls) HCL.out
        omega
      obtain ⟨w2, hw2⟩ : ∃ w2, w2 = wr := ⟨_, rfl⟩
      subst hw2
      have HB2 := Lib.hid HB.out
      clear HB
      by_cases hkn : kk < n
      · have d1 : decide ((kk : Int) < (n : Int)) = true := by simp; omega
        have hbt : ∀ t ∈ timesQ ls, t ≤ 1000000000 := fun t ht => by
          unfold timesQ at ht
          obtain ⟨f, hf, ht2⟩ := List.mem_flatMap.1 ht
          exact HTM.out f hf t (List.mem_of_mem_drop ht2)
        have hnth := dfNth_any (cx := cx) HX2.out.rd (by rw [← HN2.out]; omega) hbt kk (by omega)
        rw [← HN2.out] at hnth
        have HNTH := Lib.hid hnth
        clear hnth hbt
        go_upto_region 14 with (go_at_call 47; (refine HNTH.out.mono ?_); rintro x w3 ⟨last, rfl, hw3, hlast, hl9⟩; have HL0 := Lib.hid hlast; have HW3 := Lib.hid hw3; clear HNTH hlast hw3)
        have hww := HW3.out.symm
        subst hww
        have HLAST : Hid (LastOK ⟨ls, time⟩ kk last) := by show LastOK _ _ _; unfold LastOK; dsimp only; rw [← HN2.out, if_pos hkn]; exact HL0.out
        clear HL0 HW3 z1 x0
        have HD2 := Lib.hid (HD.out.below HB2.out)
        go_wp2
        go_loopw [9, 10] (C3 w2 g A c rs time last) (fun _ t _ => rs.length - (intOf t).toNat)
        case atStart => exact ⟨⟨0, 0, rs, by omega, rfl, rfl, rfl, HD2, Lib.hid (by simp), Lib.hid (fun k => Iff.rfl), Mem.Keeps.refl _ _⟩⟩
        case round =>
          obtain ⟨ix, lost, rk, hi, rfl, rfl, HLo, HDk, HRK, HFP, HK⟩ := hrel.out
          clear hrel
          rw [HLS.out] at HLo HRK
          have hrl : rk.length = rs.length := by
            have := congrArg List.length HRK.out
            rw [List.length_map, List.length_append, List.length_map, List.length_take, List.length_drop] at this
            omega
          have x0 : wr.cell? ⟨g, 0, none⟩ = some (.slice A rs.length c) := by rw [← hrl]; exact HDk.out.B.cell (j := 0) rfl
          by_cases hlt : ix < rs.length
          · obtain ⟨r, hr⟩ : ∃ r, rk[ix]? = some r := ⟨_, List.getElem?_eq_getElem (by omega)⟩
            obtain ⟨b, o, rfl, y0, _, y1, y2, hFA⟩ := HDk.out.at hr
            have hlr : ls[ix]? = some r.f := by
              have h1 : (rk.map (·.f))[ix]? = some r.f := by rw [List.getElem?_map, hr]; rfl
              rw [HRK.out, List.getElem?_append_right (by rw [List.length_map, List.length_take]; omega), List.length_map, List.length_take, Nat.min_eq_left (by omega), Nat.sub_self, List.getElem?_drop, Nat.add_zero] at h1
              exact h1
            have hlen := hFA.len
            have hle := lost_le last (ls.take (ix + 1))
            have hle2 := used_take_le ls (ix + 1)
            have hlo := lost_snoc last hlr
            rw [← HLo.out] at hlo
            have hus := used_snoc hlr
            have hlou := lost_le last (ls.take ix)
            rw [← HLo.out] at hlou
            have hnf := nF_le last r.f
            obtain ⟨kk, hkk⟩ : ∃ kk, nF last r.f = kk := ⟨_, rfl⟩
            rw [hkk] at hlo hnf
            have HKK := Lib.hid hkk
            have HEND : Hid (∀ (wt wu : World), Mem.Own wt 3 1 r.T r.f.cm.length r.e ((List.replicate kk 0 ++ r.f.cm.drop kk).map tmV) → Mem.Keeps (fun q => Mem.blk r.T = some q) wr wt → Mem.Bx wu 80 3 r.h [.int .i64 r.f.n, .slice r.A kk r.c, .slice r.T kk r.e] → Mem.Keeps (fun q => q = r.h) wt wu →
                C3 w2 g (some ⟨b, o, none⟩) c rs time last (.int .i64 ((lost : Int) + (r.f.bs.length : Int) - (kk : Int))) (.int .i64 ((ix : Int) + 1)) wu) := by
              intro wt wu hP hkt hBu hku
              obtain ⟨pre, post, hrk, hpl⟩ := split_at hr
              have hcl : (List.replicate kk 0 ++ r.f.cm.drop kk).length = r.f.cm.length := by rw [List.length_append, List.length_replicate, List.length_drop]; omega
              have hf1 := hFA.times hcl hP hkt
              have hrf : (List.replicate kk 0 ++ r.f.cm.drop kk).take kk = List.replicate kk 0 := List.take_left' (by rw [List.length_replicate])
              have hf2 : FAt wu { r with f := crF last r.f } := by
                have h1 := hf1.cut (k := kk) (by show kk ≤ r.f.bs.length; omega) hBu hku
                dsimp only at h1
                rw [hrf] at h1
                unfold crF
                rw [HKK.out]
                exact h1
              have hD := HDk.out
              rw [hrk] at hD
              obtain ⟨e1, e2, e3⟩ := hD.file (r' := { r with f := crF last r.f }) rfl hf2 ((hkt.mono (T := r.fp) (fun q h _ => .inr (.inr h))).trans (hku.mono (T := r.fp) (fun q h _ => .inl h)) (fun _ h _ => h)) (fun q hq => .inl hq)
              have hfp : ∀ k, fpD g (some ⟨b, o, none⟩) (pre ++ { r with f := crF last r.f } :: post) k ↔ fpD g (some ⟨b, o, none⟩) rk k := by
                intro k
                rw [hrk]
                unfold fpD
                simp only [List.mem_append, List.mem_cons]
                constructor
                · rintro (h | h | ⟨q, (h | h | h), hf⟩)
                  · exact .inl h
                  · exact .inr (.inl h)
                  · exact .inr (.inr ⟨q, .inl h, hf⟩)
                  · subst h; exact .inr (.inr ⟨r, .inr (.inl rfl), hf⟩)
                  · exact .inr (.inr ⟨q, .inr (.inr h), hf⟩)
                · rintro (h | h | ⟨q, (h | h | h), hf⟩)
                  · exact .inl h
                  · exact .inr (.inl h)
                  · exact .inr (.inr ⟨q, .inl h, hf⟩)
                  · subst h; exact .inr (.inr ⟨_, .inr (.inl rfl), hf⟩)
                  · exact .inr (.inr ⟨q, .inr (.inr h), hf⟩)
              refine ⟨⟨ix + 1, lost + (r.f.bs.length - kk), pre ++ { r with f := crF last r.f } :: post, by omega, by go_num, ?_, ?_, Lib.hid e1, ?_, fun k => (hfp k).trans (HFP.out k), ?_⟩⟩
              · congr 1; omega
              · show _ = _
                rw [HLS.out, lost_snoc last hlr, HKK.out, HLo.out]
              · show _ = _
                have h1 := HRK.out
                rw [hrk, List.map_append, List.map_cons] at h1
                have hl1 : (pre.map (·.f)).length = ((ls.take ix).map (crF last)).length := by rw [List.length_map, List.length_map, List.length_take, hpl]; omega
                have h2 := List.append_inj h1 hl1
                have h3 : ls.drop ix = r.f :: ls.drop (ix + 1) := by
                  obtain ⟨h4, h5⟩ := List.getElem?_eq_some_iff.1 hlr
                  rw [List.drop_eq_getElem_cons h4, h5]
                rw [h3] at h2
                have h6 := (List.cons.inj h2.2).2
                rw [HLS.out, Mem.take_snoc hlr, List.map_append, List.map_append, List.map_cons, h2.1, h6, List.append_assoc]; rfl
              · exact HK.out.trans (by rw [← hrk] at e2; exact e2) (fun k hk _ => (HFP.out k).1 hk)
            have HR := Lib.hid hr
            have HFA := Lib.hid hFA
            have HLR := Lib.hid hlr
            have d0 : decide ((ix : Int) < (rs.length : Int)) = true := by simp; omega
            have hlo9 : lost + r.f.bs.length ≤ 1048576 := by omega
            clear hr hFA hlr hle hle2 hkk hlo hus hlou
            rename World => w3
            go_wp2
            go_loopw [12] (C4 w3 r.T r.e last r.f) (fun t _ => r.f.cm.length - (intOf t).toNat)
            case atStart => exact ⟨⟨0, by omega, rfl, Lib.hid (by simpa using HFA.out.P), Mem.Keeps.refl _ _⟩⟩
            case round =>
              obtain ⟨k, hk, rfl, HP, HKT⟩ := hrel.out
              clear hrel
              rw [HKK.out] at hk
              have HFB4 := Lib.hid (HFA.out.B.keeps HKT.out (fun h => HFA.out.nt _ h rfl))
              have y1 : wr.cell? ⟨r.h, 1, none⟩ = some (.slice r.A r.f.bs.length r.c) := HFB4.out.cell (j := 1) rfl
              have y2 : wr.cell? ⟨r.h, 2, none⟩ = some (.slice r.T r.f.cm.length r.e) := HFB4.out.cell (j := 2) rfl
              by_cases hlt2 : k < kk
              · obtain ⟨t, htk, htl⟩ := tw_lt (fun t => decide (t ≤ last)) (l := r.f.cm) (k := k) (by have := HKK.out; unfold nF at this; omega)
                obtain ⟨b2, o2, hT⟩ := HP.out.form (by omega)
                have hP := HP.out
                rw [hT] at hP y2
                have hlk := (List.getElem?_eq_some_iff.1 htk).1
                have yt : wr.cell? ⟨b2, o2 + k, none⟩ = some (.int .i64 (t : Int)) := hP.cell (by rw [List.getElem?_map, List.getElem?_append_right (by simp), List.length_replicate, Nat.sub_self, List.getElem?_drop, Nat.add_zero, htk]; rfl)
                have yf : ∀ i, wr.frozen? ⟨b2, i, none⟩ = false := hP.free
                have d1 : decide ((k : Int) < (r.f.bs.length : Int)) = true := by simp; omega
                have d2 : decide ((t : Int) ≤ (last : Int)) = true := by simpa using htl
                have e1 : k < r.f.bs.length := by omega
                have e2 : t ≤ last := by simpa using htl
                have hP2 := hP.set k (tmV 0)
                rw [← List.map_set, rep_set _ hlk] at hP2
                have HP2 := Lib.hid hP2
                have HT := Lib.hid hT
                clear hP hP2 hT htk htl
                have hk4 : Mem.Keeps (fun q => Mem.blk r.T = some q) w3 (wr.setCell ⟨b2, o2 + k, none⟩ (tmV 0)) := HKT.out.setCell (p := ⟨b2, o2 + k, none⟩) (fun _ => by rw [HT.out]; rfl) _
                have HK4 := Lib.hid hk4
                clear hk4 HP HKT HEND
                go_wp2
                go_roundw
                case rel => exact ⟨⟨k + 1, by rw [HKK.out]; omega, by go_num, Lib.hid (by rw [HT.out]; exact HP2.out), HK4⟩⟩
                case measure => simp [intOf]; omega
              · obtain rfl : kk = k := by omega
                obtain ⟨w4, hw4⟩ : ∃ w4, w4 = wr := ⟨_, rfl⟩
                subst hw4
                by_cases hend : kk = r.f.cm.length
                · have d1 : decide ((kk : Int) < (r.f.bs.length : Int)) = false := by simp; omega
                  have e1 : ¬ kk < r.f.bs.length := by omega
                  clear hend
                  have yf : ∀ i, w4.frozen? ⟨r.h, i, none⟩ = false := HFB4.out.fr
                  have hB8 := (HFB4.out.set 1 (.slice r.A kk r.c)).set 2 (.slice r.T kk r.e)
                  have hK8 := ((Mem.Keeps.refl (fun q => q = r.h) w4).setCell (p := ⟨r.h, 1, none⟩) (fun _ => rfl) (.slice r.A kk r.c)).setCell (p := ⟨r.h, 2, none⟩) (fun _ => rfl) (.slice r.T kk r.e)
                  have HSTEP := HEND.out _ _ HP.out HKT.out hB8 hK8
                  have HSTEP2 := Lib.hid HSTEP
                  have hc1 : kk ≤ r.c := by have := HFA.out.O.le; omega
                  have hc2 : kk ≤ r.e := by have := HFA.out.P.le; omega
                  have hrh : r.h < w4.heap.size := HFB4.out.lt
                  clear HSTEP hB8 hK8 HEND HP HKT HFB4
                  go_wp2
                  go_roundw
                  case rel => first | exact HSTEP2.out | (have h9 := HSTEP2.out; rw [HT.out] at h9; exact h9)
                  case measure => simp [intOf]; omega
                · obtain ⟨t, htk⟩ : ∃ t, r.f.cm[kk]? = some t := ⟨_, List.getElem?_eq_getElem (by omega)⟩
                  have hts := tw_stop (fun t => decide (t ≤ last)) r.f.cm t (by have := HKK.out; unfold nF at this; rw [this]; exact htk)
                  obtain ⟨b2, o2, hT⟩ := HP.out.form (by omega)
                  have hP := HP.out
                  rw [hT] at hP y2
                  have yt : w4.cell? ⟨b2, o2 + kk, none⟩ = some (.int .i64 (t : Int)) := hP.cell (by rw [List.getElem?_map, List.getElem?_append_right (by simp), List.length_replicate, Nat.sub_self, List.getElem?_drop, Nat.add_zero, htk]; rfl)
                  have d1 : decide ((kk : Int) < (r.f.bs.length : Int)) = true := by simp; omega
                  have d2 : decide ((t : Int) ≤ (last : Int)) = false := by simpa using hts
                  have e1 : kk < r.f.bs.length := by omega
                  have e2 : ¬ t ≤ last := by simpa using hts
                  have HT := Lib.hid hT
                  clear hP hT htk hts
                  have yf : ∀ i, w4.frozen? ⟨r.h, i, none⟩ = false := HFB4.out.fr
                  have hB8 := (HFB4.out.set 1 (.slice r.A kk r.c)).set 2 (.slice r.T kk r.e)
                  have hK8 := ((Mem.Keeps.refl (fun q => q = r.h) w4).setCell (p := ⟨r.h, 1, none⟩) (fun _ => rfl) (.slice r.A kk r.c)).setCell (p := ⟨r.h, 2, none⟩) (fun _ => rfl) (.slice r.T kk r.e)
                  have HSTEP := HEND.out _ _ HP.out HKT.out hB8 hK8
                  have HSTEP2 := Lib.hid HSTEP
                  have hc1 : kk ≤ r.c := by have := HFA.out.O.le; omega
                  have hc2 : kk ≤ r.e := by have := HFA.out.P.le; omega
                  have hrh : r.h < w4.heap.size := HFB4.out.lt
                  clear HSTEP hB8 hK8 HEND HP HKT HFB4
                  go_wp2
                  go_roundw
                  case rel => first | exact HSTEP2.out | (have h9 := HSTEP2.out; rw [HT.out] at h9; exact h9)
                  case measure => simp [intOf]; omega
          · obtain rfl : ix = rs.length := by omega
            have d0 : decide ((rs.length : Int) < (rs.length : Int)) = false := by simp
            have HEQ : Hid (rk.map (·.f) = ls.map (crF last)) := by
              have := HRK.out
              rw [List.take_of_length_le (by omega), List.drop_of_length_le (by omega), List.append_nil] at this
              exact this
            have HLO2 : Hid (lost = lostQ last ls) := by have := HLo.out; rw [List.take_of_length_le (by omega)] at this; exact this
            go_wp2
            go_ret
            refine ⟨last, HLAST.out, by rw [HLO2.out]; rfl, ⟨_, HDk.out.qat HEQ.out, fun q hq => .inl ((HFP.out q).1 hq)⟩, ?_⟩
            exact (Mem.Keeps.mono (T := fpD g A rs) (Mem.Keeps.of_below HB2.out) (fun _ h _ => h.elim)).trans HK.out (fun _ h _ => h)
      · have d1 : decide ((kk : Int) < (n : Int)) = false := by simp; omega
        go_upto_region 14 with fail
        clear z1 x0
        obtain ⟨last, hlast⟩ : ∃ last, last = time := ⟨_, rfl⟩
        have HLAST : Hid (LastOK ⟨ls, time⟩ kk last) := by show LastOK _ _ _; rw [hlast]; unfold LastOK; dsimp only; rw [← HN2.out, if_neg hkn]
        have hl9 : last ≤ 1000000001 := by omega
        rw [show (time : Int) = (last : Int) by rw [hlast]]
        clear hlast
        have HD2 := Lib.hid (HD.out.below HB2.out)
        go_wp2
        go_loopw [9, 10] (C3 w2 g A c rs time last) (fun _ t _ => rs.length - (intOf t).toNat)
        case atStart => exact ⟨⟨0, 0, rs, by omega, rfl, rfl, rfl, HD2, Lib.hid (by simp), Lib.hid (fun k => Iff.rfl), Mem.Keeps.refl _ _⟩⟩
        case round =>
          obtain ⟨ix, lost, rk, hi, rfl, rfl, HLo, HDk, HRK, HFP, HK⟩ := hrel.out
          clear hrel
          rw [HLS.out] at HLo HRK
          have hrl : rk.length = rs.length := by
            have := congrArg List.length HRK.out
            rw [List.length_map, List.length_append, List.length_map, List.length_take, List.length_drop] at this
            omega
          have x0 : wr.cell? ⟨g, 0, none⟩ = some (.slice A rs.length c) := by rw [← hrl]; exact HDk.out.B.cell (j := 0) rfl
          by_cases hlt : ix < rs.length
          · obtain ⟨r, hr⟩ : ∃ r, rk[ix]? = some r := ⟨_, List.getElem?_eq_getElem (by omega)⟩
            obtain ⟨b, o, rfl, y0, _, y1, y2, hFA⟩ := HDk.out.at hr
            have hlr : ls[ix]? = some r.f := by
              have h1 : (rk.map (·.f))[ix]? = some r.f := by rw [List.getElem?_map, hr]; rfl
              rw [HRK.out, List.getElem?_append_right (by rw [List.length_map, List.length_take]; omega), List.length_map, List.length_take, Nat.min_eq_left (by omega), Nat.sub_self, List.getElem?_drop, Nat.add_zero] at h1
              exact h1
            have hlen := hFA.len
            have hle := lost_le last (ls.take (ix + 1))
            have hle2 := used_take_le ls (ix + 1)
            have hlo := lost_snoc last hlr
            rw [← HLo.out] at hlo
            have hus := used_snoc hlr
            have hlou := lost_le last (ls.take ix)
            rw [← HLo.out] at hlou
            have hnf := nF_le last r.f
            obtain ⟨kk, hkk⟩ : ∃ kk, nF last r.f = kk := ⟨_, rfl⟩
            rw [hkk] at hlo hnf
            have HKK := Lib.hid hkk
            have HEND : Hid (∀ (wt wu : World), Mem.Own wt 3 1 r.T r.f.cm.length r.e ((List.replicate kk 0 ++ r.f.cm.drop kk).map tmV) → Mem.Keeps (fun q => Mem.blk r.T = some q) wr wt → Mem.Bx wu 80 3 r.h [.int .i64 r.f.n, .slice r.A kk r.c, .slice r.T kk r.e] → Mem.Keeps (fun q => q = r.h) wt wu →
                C3 w2 g (some ⟨b, o, none⟩) c rs time last (.int .i64 ((lost : Int) + (r.f.bs.length : Int) - (kk : Int))) (.int .i64 ((ix : Int) + 1)) wu) := by
              intro wt wu hP hkt hBu hku
              obtain ⟨pre, post, hrk, hpl⟩ := split_at hr
              have hcl : (List.replicate kk 0 ++ r.f.cm.drop kk).length = r.f.cm.length := by rw [List.length_append, List.length_replicate, List.length_drop]; omega
              have hf1 := hFA.times hcl hP hkt
              have hrf : (List.replicate kk 0 ++ r.f.cm.drop kk).take kk = List.replicate kk 0 := List.take_left' (by rw [List.length_replicate])
              have hf2 : FAt wu { r with f := crF last r.f } := by
                have h1 := hf1.cut (k := kk) (by show kk ≤ r.f.bs.length; omega) hBu hku
                dsimp only at h1
                rw [hrf] at h1
                unfold crF
                rw [HKK.out]
                exact h1
              have hD := HDk.out
              rw [hrk] at hD
              obtain ⟨e1, e2, e3⟩ := hD.file (r' := { r with f := crF last r.f }) rfl hf2 ((hkt.mono (T := r.fp) (fun q h _ => .inr (.inr h))).trans (hku.mono (T := r.fp) (fun q h _ => .inl h)) (fun _ h _ => h)) (fun q hq => .inl hq)
              have hfp : ∀ k, fpD g (some ⟨b, o, none⟩) (pre ++ { r with f := crF last r.f } :: post) k ↔ fpD g (some ⟨b, o, none⟩) rk k := by
                intro k
                rw [hrk]
                unfold fpD
                simp only [List.mem_append, List.mem_cons]
                constructor
                · rintro (h | h | ⟨q, (h | h | h), hf⟩)
                  · exact .inl h
                  · exact .inr (.inl h)
                  · exact .inr (.inr ⟨q, .inl h, hf⟩)
                  · subst h; exact .inr (.inr ⟨r, .inr (.inl rfl), hf⟩)
                  · exact .inr (.inr ⟨q, .inr (.inr h), hf⟩)
                · rintro (h | h | ⟨q, (h | h | h), hf⟩)
                  · exact .inl h
                  · exact .inr (.inl h)
                  · exact .inr (.inr ⟨q, .inl h, hf⟩)
                  · subst h; exact .inr (.inr ⟨_, .inr (.inl rfl), hf⟩)
                  · exact .inr (.inr ⟨q, .inr (.inr h), hf⟩)
              refine ⟨⟨ix + 1, lost + (r.f.bs.length - kk), pre ++ { r with f := crF last r.f } :: post, by omega, by go_num, ?_, ?_, Lib.hid e1, ?_, fun k => (hfp k).trans (HFP.out k), ?_⟩⟩
              · congr 1; omega
              · show _ = _
                rw [HLS.out, lost_snoc last hlr, HKK.out, HLo.out]
              · show _ = _
                have h1 := HRK.out
                rw [hrk, List.map_append, List.map_cons] at h1
                have hl1 : (pre.map (·.f)).length = ((ls.take ix).map (crF last)).length := by rw [List.length_map, List.length_map, List.length_take, hpl]; omega
                have h2 := List.append_inj h1 hl1
                have h3 : ls.drop ix = r.f :: ls.drop (ix + 1) := by
                  obtain ⟨h4, h5⟩ := List.getElem?_eq_some_iff.1 hlr
                  rw [List.drop_eq_getElem_cons h4, h5]
                rw [h3] at h2
                have h6 := (List.cons.inj h2.2).2
                rw [HLS.out, Mem.take_snoc hlr, List.map_append, List.map_append, List.map_cons, h2.1, h6, List.append_assoc]; rfl
              · exact HK.out.trans (by rw [← hrk] at e2; exact e2) (fun k hk _ => (HFP.out k).1 hk)
            have HR := Lib.hid hr
            have HFA := Lib.hid hFA
            have HLR := Lib.hid hlr
            have d0 : decide ((ix : Int) < (rs.length : Int)) = true := by simp; omega
            have hlo9 : lost + r.f.bs.length ≤ 1048576 := by omega
            clear hr hFA hlr hle hle2 hkk hlo hus hlou
            rename World => w3
            go_wp2
            go_loopw [12] (C4 w3 r.T r.e last r.f) (fun t _ => r.f.cm.length - (intOf t).toNat)
            case atStart => exact ⟨⟨0, by omega, rfl, Lib.hid (by simpa using HFA.out.P), Mem.Keeps.refl _ _⟩⟩
            case round =>
              obtain ⟨k, hk, rfl, HP, HKT⟩ := hrel.out
              clear hrel
              rw [HKK.out] at hk
              have HFB4 := Lib.hid (HFA.out.B.keeps HKT.out (fun h => HFA.out.nt _ h rfl))
              have y1 : wr.cell? ⟨r.h, 1, none⟩ = some (.slice r.A r.f.bs.length r.c) := HFB4.out.cell (j := 1) rfl
              have y2 : wr.cell? ⟨r.h, 2, none⟩ = some (.slice r.T r.f.cm.length r.e) := HFB4.out.cell (j := 2) rfl
              by_cases hlt2 : k < kk
              · obtain ⟨t, htk, htl⟩ := tw_lt (fun t => decide (t ≤ last)) (l := r.f.cm) (k := k) (by have := HKK.out; unfold nF at this; omega)
                obtain ⟨b2, o2, hT⟩ := HP.out.form (by omega)
                have hP := HP.out
                rw [hT] at hP y2
                have hlk := (List.getElem?_eq_some_iff.1 htk).1
                have yt : wr.cell? ⟨b2, o2 + k, none⟩ = some (.int .i64 (t : Int)) := hP.cell (by rw [List.getElem?_map, List.getElem?_append_right (by simp), List.length_replicate, Nat.sub_self, List.getElem?_drop, Nat.add_zero, htk]; rfl)
                have yf : ∀ i, wr.frozen? ⟨b2, i, none⟩ = false := hP.free
                have d1 : decide ((k : Int) < (r.f.bs.length : Int)) = true := by simp; omega
                have d2 : decide ((t : Int) ≤ (last : Int)) = true := by simpa using htl
                have e1 : k < r.f.bs.length := by omega
                have e2 : t ≤ last := by simpa using htl
                have hP2 := hP.set k (tmV 0)
                rw [← List.map_set, rep_set _ hlk] at hP2
                have HP2 := Lib.hid hP2
                have HT := Lib.hid hT
                clear hP hP2 hT htk htl
                have hk4 : Mem.Keeps (fun q => Mem.blk r.T = some q) w3 (wr.setCell ⟨b2, o2 + k, none⟩ (tmV 0)) := HKT.out.setCell (p := ⟨b2, o2 + k, none⟩) (fun _ => by rw [HT.out]; rfl) _
                have HK4 := Lib.hid hk4
                clear hk4 HP HKT HEND
                go_wp2
                go_roundw
                case rel => exact ⟨⟨k + 1, by rw [HKK.out]; omega, by go_num, Lib.hid (by rw [HT.out]; exact HP2.out), HK4⟩⟩
                case measure => simp [intOf]; omega
              · obtain rfl : kk = k := by omega
                obtain ⟨w4, hw4⟩ : ∃ w4, w4 = wr := ⟨_, rfl⟩
                subst hw4
                by_cases hend : kk = r.f.cm.length
                · have d1 : decide ((kk : Int) < (r.f.bs.length : Int)) = false := by simp; omega
                  have e1 : ¬ kk < r.f.bs.length := by omega
                  clear hend
                  have yf : ∀ i, w4.frozen? ⟨r.h, i, none⟩ = false := HFB4.out.fr
                  have hB8 := (HFB4.out.set 1 (.slice r.A kk r.c)).set 2 (.slice r.T kk r.e)
                  have hK8 := ((Mem.Keeps.refl (fun q => q = r.h) w4).setCell (p := ⟨r.h, 1, none⟩) (fun _ => rfl) (.slice r.A kk r.c)).setCell (p := ⟨r.h, 2, none⟩) (fun _ => rfl) (.slice r.T kk r.e)
                  have HSTEP := HEND.out _ _ HP.out HKT.out hB8 hK8
                  have HSTEP2 := Lib.hid HSTEP
                  have hc1 : kk ≤ r.c := by have := HFA.out.O.le; omega
                  have hc2 : kk ≤ r.e := by have := HFA.out.P.le; omega
                  have hrh : r.h < w4.heap.size := HFB4.out.lt
                  clear HSTEP hB8 hK8 HEND HP HKT HFB4
                  go_wp2
                  go_roundw
                  case rel => first | exact HSTEP2.out | (have h9 := HSTEP2.out; rw [HT.out] at h9; exact h9)
                  case measure => simp [intOf]; omega
                · obtain ⟨t, htk⟩ : ∃ t, r.f.cm[kk]? = some t := ⟨_, List.getElem?_eq_getElem (by omega)⟩
                  have hts := tw_stop (fun t => decide (t ≤ last)) r.f.cm t (by have := HKK.out; unfold nF at this; rw [this]; exact htk)
                  obtain ⟨b2, o2, hT⟩ := HP.out.form (by omega)
                  have hP := HP.out
                  rw [hT] at hP y2
                  have yt : w4.cell? ⟨b2, o2 + kk, none⟩ = some (.int .i64 (t : Int)) := hP.cell (by rw [List.getElem?_map, List.getElem?_append_right (by simp), List.length_replicate, Nat.sub_self, List.getElem?_drop, Nat.add_zero, htk]; rfl)
                  have d1 : decide ((kk : Int) < (r.f.bs.length : Int)) = true := by simp; omega
                  have d2 : decide ((t : Int) ≤ (last : Int)) = false := by simpa using hts
                  have e1 : kk < r.f.bs.length := by omega
                  have e2 : ¬ t ≤ last := by simpa using hts
                  have HT := Lib.hid hT
                  clear hP hT htk hts
                  have yf : ∀ i, w4.frozen? ⟨r.h, i, none⟩ = false := HFB4.out.fr
                  have hB8 := (HFB4.out.set 1 (.slice r.A kk r.c)).set 2 (.slice r.T kk r.e)
                  have hK8 := ((Mem.Keeps.refl (fun q => q = r.h) w4).setCell (p := ⟨r.h, 1, none⟩) (fun _ => rfl) (.slice r.A kk r.c)).setCell (p := ⟨r.h, 2, none⟩) (fun _ => rfl) (.slice r.T kk r.e)
                  have HSTEP := HEND.out _ _ HP.out HKT.out hB8 hK8
                  have HSTEP2 := Lib.hid HSTEP
                  have hc1 : kk ≤ r.c := by have := HFA.out.O.le; omega
                  have hc2 : kk ≤ r.e := by have := HFA.out.P.le; omega
                  have hrh : r.h < w4.heap.size := HFB4.out.lt
                  clear HSTEP hB8 hK8 HEND HP HKT HFB4
                  go_wp2
                  go_roundw
                  case rel => first | exact HSTEP2.out | (have h9 := HSTEP2.out; rw [HT.out] at h9; exact h9)
                  case measure => simp [intOf]; omega
          · obtain rfl : ix = rs.length := by omega
            have d0 : decide ((rs.length : Int) < (rs.length : Int)) = false := by simp
            have HEQ : Hid (rk.map (·.f) = ls.map (crF last)) := by
              have := HRK.out
              rw [List.take_of_length_le (by omega), List.drop_of_length_le (by omega), List.append_nil] at this
              exact this
            have HLO2 : Hid (lost = lostQ last ls) := by have := HLo.out; rw [List.take_of_length_le (by omega)] at this; exact this
            go_wp2
            go_ret
            refine ⟨last, HLAST.out, by rw [HLO2.out]; rfl, ⟨_, HDk.out.qat HEQ.out, fun q hq => .inl ((HFP.out q).1 hq)⟩, ?_⟩
            exact (Mem.Keeps.mono (T := fpD g A rs) (Mem.Keeps.of_below HB2.out) (fun _ h _ => h.elim)).trans HK.out (fun _ h _ => h)
end Go.Proofs.Ytfpfpdhfnleebaa
