/- The walks of the document's disk that only read: Size, Read, Synced, Used, Loose, Files. No conditions but that it is no great one. -/
import Derived.Test.YtfpfpdhfnleebaaDf1
set_option maxRecDepth 8000
namespace Go.Proofs.Ytfpfpdhfnleebaa
open Go.ChangeShapes Go.WideShapes Go.ChangeAt Go.RowKit
set_option linter.unusedVariables false
set_option linter.unusedSimpArgs false
namespace Df
/-- the file of a number -/
def atF (n : Int) (l : List Fl) : Option Fl := if isAt n l then l[low n l]? else none
theorem at_none {n : Int} {l : List Fl} (h : atF n l = none) : isAt n l = false := by
  unfold atF at h
  cases hb : isAt n l with
  | false => rfl
  | true =>
    rw [hb, if_pos rfl] at h
    unfold isAt at hb
    rw [h] at hb; cases hb
theorem at_some {n : Int} {rs : List R} {f : Fl} (h : atF n (rs.map (·.f)) = some f) : isAt n (rs.map (·.f)) = true ∧ ∃ r, rs[low n (rs.map (·.f))]? = some r ∧ r.f = f ∧ f.n = n := by
  unfold atF at h
  cases hb : isAt n (rs.map (·.f)) with
  | false => rw [hb] at h; cases h
  | true =>
    rw [hb, if_pos rfl] at h
    obtain ⟨r, h1, h2⟩ := get_f h
    refine ⟨rfl, r, h1, h2, ?_⟩
    unfold isAt at hb
    rw [h] at hb
    simpa using hb
def synL (cm : List Nat) : Nat := (cm.takeWhile fun t => decide (t = 0)).length
def lenN (n : Int) (l : List Fl) : Nat := match atF n l with
  | some f => f.bs.length
  | none => 0
def synN (n : Int) (l : List Fl) : Nat := match atF n l with
  | some f => synL f.cm
  | none => 0
def bsN (n : Int) (l : List Fl) : List UInt8 := match atF n l with
  | some f => f.bs
  | none => []
def erN (n : Int) (l : List Fl) : Int := match atF n l with
  | some f => 0
  | none => 50
theorem synL_le (cm : List Nat) : synL cm ≤ cm.length := by unfold synL; exact (List.takeWhile_sublist _).length_le
theorem synL_lt : ∀ {cm : List Nat} {k : Nat}, k < synL cm → cm[k]? = some 0
  | [], k, h => by unfold synL at h; simp at h
  | t :: cm, k, h => by
    unfold synL at h
    rw [List.takeWhile_cons] at h
    by_cases ht : t = 0
    · rw [if_pos (by simpa using ht)] at h
      cases k with
      | zero => subst ht; rfl
      | succ k =>
        rw [List.length_cons] at h
        have := synL_lt (cm := cm) (k := k) (by unfold synL; omega)
        simpa using this
    · rw [if_neg (by simpa using ht)] at h; simp at h
theorem synL_stop : ∀ (cm : List Nat) (t : Nat), cm[synL cm]? = some t → t ≠ 0
  | [], t, h => by simp at h
  | s :: cm, t, h => by
    unfold synL at h
    rw [List.takeWhile_cons] at h
    by_cases hs : s = 0
    · rw [if_pos (by simpa using hs), List.length_cons, List.getElem?_cons_succ] at h
      exact synL_stop cm t (by unfold synL; exact h)
    · rw [if_neg (by simpa using hs)] at h
      simp at h
      subst h; exact hs
structure SyRel (w : World) (cm : List Nat) (v : Value) (wr : World) : Prop where
  out : ∃ k, k ≤ synL cm ∧ v = .int .i64 k ∧ ∃ m, wr = w.drewN m
end Df
open Df in
set_option maxHeartbeats 1000000 in
theorem dfSize_any {w : World} {g c time : Nat} {A : Option Addr} {rs : List Df.R} (h : Df.DS w g A c rs time) (n : Int) :
    Calls Try.prog 40 #[.pointer (some ⟨g, 0, none⟩), .int .i64 n] w fun x w' => x = .returned (.int .i64 (Df.lenN n (rs.map (·.f)))) ∧ ∃ m, w' = w.drewN m := by
  have x0 : w.cell? ⟨g, 0, none⟩ = some (.slice A rs.length c) := h.B.cell (j := 0) rfl
  have hlm : rs.length ≤ maxLen := Nat.le_trans h.O.le h.O.cap
  unfold maxLen at hlm
  have HFD := Lib.hid (dfFind_any h n)
  cases hf : atF n (rs.map (·.f)) with
  | none =>
    have hat := at_none hf
    have HS : Hid (lenN n (rs.map (·.f)) = 0) := by show _ = _; unfold lenN; rw [hf]
    unfold fnd at HFD
    rw [hat] at HFD
    clear h hat hf
    go_enter Try.func40, Try.ntmps40
    go_wp2_with (go_at_call 46; (refine HFD.out.mono ?_); rintro x w1 ⟨rfl, m1, rfl⟩; clear HFD)
    go_ret
    exact ⟨by rw [HS.out]; rfl, _, rfl⟩
  | some f =>
    obtain ⟨hat, r, hr, rfl, hn⟩ := at_some hf
    have HS : Hid (lenN n (rs.map (·.f)) = r.f.bs.length) := by show _ = _; unfold lenN; rw [hf]
    obtain ⟨b, o, rfl, y0, y1, y2, y3, hFA⟩ := h.at hr
    have hkl := (List.getElem?_eq_some_iff.1 hr).1
    unfold fnd at HFD
    rw [hat] at HFD
    obtain ⟨K, hK⟩ : ∃ K, low n (rs.map (·.f)) = K := ⟨_, rfl⟩
    rw [hK] at y0 HFD hkl
    clear hf hat hn hr hK hFA h
    go_enter Try.func40, Try.ntmps40
    go_wp2_with (go_at_call 46; (refine HFD.out.mono ?_); rintro x w1 ⟨rfl, m1, rfl⟩; clear HFD)
    go_ret
    exact ⟨by rw [HS.out]; rfl, _, rfl⟩
open Df in
set_option maxHeartbeats 1000000 in
theorem dfRead_any {w : World} {g c time : Nat} {A : Option Addr} {rs : List Df.R} (h : Df.DS w g A c rs time) (n : Int) :
    Calls Try.prog 39 #[.pointer (some ⟨g, 0, none⟩), .int .i64 n] w fun x w' => ∃ A' c' m, x = .returned (.tuple #[.slice A' (Df.bsN n (rs.map (·.f))).length c', .int .i64 (Df.erN n (rs.map (·.f)))]) ∧ w' = w.drewN m ∧ Mem.Rd w w.heap.size A' ((Df.bsN n (rs.map (·.f))).map Mem.byteV) := by
  have x0 : w.cell? ⟨g, 0, none⟩ = some (.slice A rs.length c) := h.B.cell (j := 0) rfl
  have hlm : rs.length ≤ maxLen := Nat.le_trans h.O.le h.O.cap
  unfold maxLen at hlm
  have HFD := Lib.hid (dfFind_any h n)
  cases hf : atF n (rs.map (·.f)) with
  | none =>
    have hat := at_none hf
    have HS : Hid (bsN n (rs.map (·.f)) = []) := by show _ = _; unfold bsN; rw [hf]
    have HS2 : Hid (erN n (rs.map (·.f)) = 50) := by show _ = _; unfold erN; rw [hf]
    unfold fnd at HFD
    rw [hat] at HFD
    clear h hat hf
    go_enter Try.func39, Try.ntmps39
    go_wp2_with (go_at_call 46; (refine HFD.out.mono ?_); rintro x w1 ⟨rfl, m1, rfl⟩; clear HFD)
    refine bodyPost_ret (v := .tuple #[.slice none 0 0, .int .i64 50]) (by simp [results, Try.results39, go_sem]) rfl ?_
    exact ⟨none, 0, m1, by rw [HS.out, HS2.out]; rfl, rfl, by rw [HS.out]; exact .inl rfl⟩
  | some f =>
    obtain ⟨hat, r, hr, rfl, hn⟩ := at_some hf
    have HS : Hid (bsN n (rs.map (·.f)) = r.f.bs) := by show _ = _; unfold bsN; rw [hf]
    have HS2 : Hid (erN n (rs.map (·.f)) = 0) := by show _ = _; unfold erN; rw [hf]
    obtain ⟨b, o, rfl, y0, y1, y2, y3, hFA⟩ := h.at hr
    have hkl := (List.getElem?_eq_some_iff.1 hr).1
    have HR := Lib.hid hFA.O.rd
    unfold fnd at HFD
    rw [hat] at HFD
    obtain ⟨K, hK⟩ : ∃ K, low n (rs.map (·.f)) = K := ⟨_, rfl⟩
    rw [hK] at y0 HFD hkl
    clear hf hat hn hr hK hFA h
    go_enter Try.func39, Try.ntmps39
    go_wp2_with (go_at_call 46; (refine HFD.out.mono ?_); rintro x w1 ⟨rfl, m1, rfl⟩; clear HFD)
    refine bodyPost_ret (v := .tuple #[.slice r.A r.f.bs.length r.c, .int .i64 0]) (by simp [results, Try.results39, go_sem]) rfl ?_
    exact ⟨r.A, r.c, m1, by rw [HS.out, HS2.out], rfl, by rw [HS.out]; exact HR.out⟩
open Df in
set_option maxHeartbeats 1000000 in
theorem dfSynced_any {w : World} {g c time : Nat} {A : Option Addr} {rs : List Df.R} (h : Df.DS w g A c rs time) (n : Int) :
    Calls Try.prog 41 #[.pointer (some ⟨g, 0, none⟩), .int .i64 n] w fun x w' => x = .returned (.int .i64 (Df.synN n (rs.map (·.f)))) ∧ ∃ m, w' = w.drewN m := by
  have x0 : w.cell? ⟨g, 0, none⟩ = some (.slice A rs.length c) := h.B.cell (j := 0) rfl
  have hlm : rs.length ≤ maxLen := Nat.le_trans h.O.le h.O.cap
  unfold maxLen at hlm
  have HFD := Lib.hid (dfFind_any h n)
  cases hf : atF n (rs.map (·.f)) with
  | none =>
    have hat := at_none hf
    have HS : Hid (synN n (rs.map (·.f)) = 0) := by show _ = _; unfold synN; rw [hf]
    unfold fnd at HFD
    rw [hat] at HFD
    clear h hat hf
    go_enter Try.func41, Try.ntmps41
    go_wp2_with (go_at_call 46; (refine HFD.out.mono ?_); rintro x w1 ⟨rfl, m1, rfl⟩; clear HFD)
    go_loopw [7] (SyRel w []) (fun t _ => (intOf t).toNat)
    case atStart => exact ⟨⟨0, by omega, rfl, m1, rfl⟩⟩
    case round =>
      obtain ⟨k, hk, rfl, m, rfl⟩ := hrel.out
      obtain rfl : k = 0 := by have : synL [] = 0 := rfl; omega
      clear hrel hk
      go_wp2
      go_ret
      exact ⟨by rw [HS.out]; rfl, _, rfl⟩
  | some f =>
    obtain ⟨hat, r, hr, rfl, hn⟩ := at_some hf
    have HS : Hid (synN n (rs.map (·.f)) = synL r.f.cm) := by show _ = _; unfold synN; rw [hf]
    obtain ⟨b, o, rfl, y0, y1, y2, y3, hFA⟩ := h.at hr
    have hkl := (List.getElem?_eq_some_iff.1 hr).1
    have HP := Lib.hid hFA.P
    have hcl : r.f.cm.length ≤ maxLen := Nat.le_trans hFA.P.le hFA.P.cap
    unfold maxLen at hcl
    unfold fnd at HFD
    rw [hat] at HFD
    obtain ⟨K, hK⟩ : ∃ K, low n (rs.map (·.f)) = K := ⟨_, rfl⟩
    rw [hK] at y0 HFD hkl
    clear hf hat hn hr hK hFA h
    have hsl := synL_le r.f.cm
    go_enter Try.func41, Try.ntmps41
    go_wp2_with (go_at_call 46; (refine HFD.out.mono ?_); rintro x w1 ⟨rfl, m1, rfl⟩; clear HFD)
    go_loopw [7] (SyRel w r.f.cm) (fun t _ => r.f.cm.length + 1 - (intOf t).toNat)
    case atStart => exact ⟨⟨0, by omega, rfl, m1, rfl⟩⟩
    case round =>
      obtain ⟨k, hk, rfl, m, rfl⟩ := hrel.out
      clear hrel
      by_cases hlt : k < r.f.cm.length
      · obtain ⟨t, ht⟩ : ∃ t, r.f.cm[k]? = some t := ⟨_, List.getElem?_eq_getElem hlt⟩
        obtain ⟨b2, o2, hT⟩ := HP.out.form (by omega)
        have yt : w.cell? ⟨b2, o2 + k, none⟩ = some (.int .i64 (t : Int)) := by
          have hP := HP.out
          rw [hT] at hP
          exact hP.cell (by rw [List.getElem?_map, ht]; rfl)
        rw [hT] at y3
        have d0 : decide ((k : Int) < (r.f.cm.length : Int)) = true := by simp; omega
        by_cases hks : k < synL r.f.cm
        · have ht0 := synL_lt hks
          rw [ht] at ht0
          obtain rfl : t = 0 := Option.some.inj ht0
          clear ht ht0 hT
          go_wp2
          go_roundw
          case rel => exact ⟨⟨k + 1, by omega, by go_num, m, rfl⟩⟩
          case measure => simp [intOf]; omega
        · obtain rfl : k = synL r.f.cm := by omega
          have ht0 := synL_stop _ _ ht
          have d1 : decide ((t : Int) = 0) = false := by simp; omega
          have d2 : ((t : Int) == 0) = false := by simp; omega
          obtain ⟨sl, hsl2⟩ : ∃ sl, synL r.f.cm = sl := ⟨_, rfl⟩
          rw [hsl2] at yt d0 hlt HS ⊢
          clear ht ht0 hT hks hk hsl hsl2
          go_wp2
          go_ret
          exact ⟨by rw [HS.out]; rfl, _, rfl⟩
      · obtain rfl : k = synL r.f.cm := by omega
        obtain ⟨sl, hsl2⟩ : ∃ sl, synL r.f.cm = sl := ⟨_, rfl⟩
        rw [hsl2] at hlt HS ⊢
        have d0 : decide ((sl : Int) < (r.f.cm.length : Int)) = false := by simp; omega
        clear hk hsl hsl2
        go_wp2
        go_ret
        exact ⟨by rw [HS.out]; rfl, _, rfl⟩
end Go.Proofs.Ytfpfpdhfnleebaa
