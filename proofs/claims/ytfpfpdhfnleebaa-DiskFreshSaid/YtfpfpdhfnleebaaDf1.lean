/- The walks of the document's disk that only read: find, Used, Read, Size, Synced, Loose, Files. No conditions but that it is no great one. -/
import Derived.Test.YtfpfpdhfnleebaaDf0
set_option maxRecDepth 8000
namespace Go.Proofs.Ytfpfpdhfnleebaa
open Go.ChangeShapes Go.WideShapes Go.ChangeAt Go.RowKit
set_option linter.unusedVariables false
set_option linter.unusedSimpArgs false
namespace Df
theorem DS.drewN {w : World} {g c time : Nat} {A : Option Addr} {rs : List R} (h : DS w g A c rs time) (m : Nat) : DS (w.drewN m) g A c rs time := h.keeps ((Mem.Keeps.refl (fun _ => False) w).drewN m) (fun _ _ h => h)
/-- the cells of a file of the list -/
theorem DS.at {w : World} {g c time k : Nat} {A : Option Addr} {rs : List R} {r : R} (h : DS w g A c rs time) (hr : rs[k]? = some r) :
    ∃ b o, A = some ⟨b, o, none⟩ ∧ w.cell? ⟨b, o + k, none⟩ = some (.pointer (some ⟨r.h, 0, none⟩)) ∧ w.cell? ⟨r.h, 0, none⟩ = some (.int .i64 r.f.n) ∧ w.cell? ⟨r.h, 1, none⟩ = some (.slice r.A r.f.bs.length r.c) ∧ w.cell? ⟨r.h, 2, none⟩ = some (.slice r.T r.f.cm.length r.e) ∧ FAt w r := by
  have hk := (List.getElem?_eq_some_iff.1 hr).1
  obtain ⟨b, o, rfl⟩ := h.O.form (by omega)
  have hf := h.F r (List.mem_of_getElem? hr)
  refine ⟨b, o, rfl, ?_, hf.B.cell (j := 0) rfl, hf.B.cell (j := 1) rfl, hf.B.cell (j := 2) rfl, hf⟩
  exact h.O.cell (by rw [List.getElem?_map, hr]; rfl)
def fnd (n : Int) (l : List Fl) : Value := .tuple #[.int .i64 (low n l : Nat), .bool (isAt n l)]
structure FnRel (w : World) (n : Int) (l : List Fl) (v : Value) (wr : World) : Prop where
  out : ∃ k, k ≤ low n l ∧ v = .int .i64 k ∧ wr = w
theorem get_f {rs : List R} {k : Nat} {f : Fl} (h : (rs.map (·.f))[k]? = some f) : ∃ r, rs[k]? = some r ∧ r.f = f := by
  rw [List.getElem?_map] at h
  obtain ⟨r, h1, h2⟩ := Option.map_eq_some_iff.1 h
  exact ⟨r, h1, h2⟩
end Df
open Df in
set_option maxHeartbeats 1000000 in
theorem dfFind_any {w : World} {g c time : Nat} {A : Option Addr} {rs : List Df.R} (h : Df.DS w g A c rs time) (n : Int) :
    Calls Try.prog 46 #[.pointer (some ⟨g, 0, none⟩), .int .i64 n] w fun x w' => x = .returned (Df.fnd n (rs.map (·.f))) ∧ ∃ m, w' = w.drewN m := by
  have x0 : w.cell? ⟨g, 0, none⟩ = some (.slice A rs.length c) := h.B.cell (j := 0) rfl
  have hlm : rs.length ≤ maxLen := Nat.le_trans h.O.le h.O.cap
  unfold maxLen at hlm
  have HD := Lib.hid h
  clear h
  have hll := low_le n (rs.map (·.f))
  rw [List.length_map] at hll
  go_enter Try.func46, Try.ntmps46
  go_wp2
  go_loopw [6] (FnRel w n (rs.map (·.f))) (fun t _ => rs.length + 1 - (intOf t).toNat)
  case atStart => exact ⟨⟨0, by omega, rfl, rfl⟩⟩
  case round =>
    obtain ⟨k, hk, rfl, rfl⟩ := hrel.out
    clear hrel
    by_cases hlt : k < low n (rs.map (·.f))
    · obtain ⟨f, hf1, hf2⟩ := low_lt hlt
      obtain ⟨r, hr, rfl⟩ := get_f hf1
      obtain ⟨b, o, rfl, y0, y1, _, _, _⟩ := HD.out.at hr
      have d0 : decide ((k : Int) < (rs.length : Int)) = true := by simp; omega
      have d1 : decide (r.f.n < n) = true := by simpa using hf2
      have hkl : k < rs.length := by omega
      clear hr hf1 hf2
      go_wp2
      go_roundw
      case rel => exact ⟨⟨k + 1, by omega, by go_num, rfl⟩⟩
      case measure => simp [intOf]; omega
    · obtain rfl : k = low n (rs.map (·.f)) := by omega
      by_cases hkl : low n (rs.map (·.f)) < rs.length
      · obtain ⟨r, hr⟩ : ∃ r, rs[low n (rs.map (·.f))]? = some r := ⟨_, List.getElem?_eq_getElem hkl⟩
        have hr2 : (rs.map (·.f))[low n (rs.map (·.f))]? = some r.f := by rw [List.getElem?_map, hr]; rfl
        have hns := low_stop n _ _ hr2
        have hat : isAt n (rs.map (·.f)) = (r.f.n == n) := by unfold isAt; rw [hr2]
        obtain ⟨b, o, rfl, y0, y1, _, _, _⟩ := HD.out.at hr
        have d0 : decide ((low n (rs.map (·.f)) : Int) < (rs.length : Int)) = true := by simp; omega
        have d1 : decide (r.f.n < n) = false := by simpa using hns
        have HFN : Hid (fnd n (rs.map (·.f)) = .tuple #[.int .i64 (low n (rs.map (·.f)) : Nat), .bool (r.f.n == n)]) := by show fnd _ _ = _; unfold fnd; rw [hat]
        obtain ⟨K, hK⟩ : ∃ K, low n (rs.map (·.f)) = K := ⟨_, rfl⟩
        rw [hK] at y0 d0 hkl HFN ⊢
        clear hr hr2 hns hat hK hll hlt hk
        go_wp2
        go_quiet (fail)
        go_wp2
        refine bodyPost_ret (v := .tuple #[.int .i64 K, .bool (r.f.n == n)]) (by simp [results, Try.results46, go_sem]) rfl ?_
        exact ⟨by rw [HFN.out], _, rfl⟩
      · have hr2 : (rs.map (·.f))[low n (rs.map (·.f))]? = none := List.getElem?_eq_none (by rw [List.length_map]; omega)
        have hat : isAt n (rs.map (·.f)) = false := by unfold isAt; rw [hr2]
        have d0 : decide ((low n (rs.map (·.f)) : Int) < (rs.length : Int)) = false := by simp; omega
        have HFN : Hid (fnd n (rs.map (·.f)) = .tuple #[.int .i64 (low n (rs.map (·.f)) : Nat), .bool false]) := by show fnd _ _ = _; unfold fnd; rw [hat]
        obtain ⟨K, hK⟩ : ∃ K, low n (rs.map (·.f)) = K := ⟨_, rfl⟩
        rw [hK] at d0 hkl HFN ⊢
        clear hr2 hat hK hll hlt hk
        go_wp2
        go_quiet (fail)
        go_wp2
        refine bodyPost_ret (v := .tuple #[.int .i64 K, .bool false]) (by simp [results, Try.results46, go_sem]) rfl ?_
        exact ⟨by rw [HFN.out], _, rfl⟩
end Go.Proofs.Ytfpfpdhfnleebaa
