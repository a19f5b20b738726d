/- The walk of the document's disk: nth. No conditions but that it is no great one. -/
import Derived.Test.YtfpfpdhfnleebaaDkQ2
set_option maxRecDepth 8000
namespace Go.Proofs.Ytfpfpdhfnleebaa
open Go.ChangeShapes Go.WideShapes Go.ChangeAt Go.RowKit
set_option linter.unusedVariables false
set_option linter.unusedSimpArgs false
namespace Df
structure N1 (w : World) (ts : List Nat) (v6 v7 : Value) (wr : World) : Prop where
  out : ∃ k hi : Nat, k ≤ ts.length ∧ v6 = .int .i64 hi ∧ v7 = .int .i64 k ∧ 1 ≤ hi ∧ hi ≤ 1000000001 ∧ Hid (∀ t ∈ ts.take k, t ≤ hi) ∧ wr = w
structure N2 (w : World) (ts : List Nat) (k : Nat) (v5 v6 : Value) (wr : World) : Prop where
  out : ∃ lo hi : Nat, v5 = .int .i64 lo ∧ v6 = .int .i64 hi ∧ lo ≤ hi ∧ hi ≤ 1000000001 ∧ Hid (lo = 0 ∨ Dq.cnt ts lo ≤ k) ∧ Hid ((∀ t ∈ ts, t ≤ hi) ∨ k < Dq.cnt ts (hi + 1)) ∧ wr = w
structure N3 (w : World) (ts : List Nat) (m : Nat) (v9 v10 : Value) (wr : World) : Prop where
  out : ∃ j n : Nat, j ≤ ts.length ∧ v9 = .int .i64 n ∧ v10 = .int .i64 j ∧ n ≤ j ∧ Hid (n = Dq.cnt (ts.take j) m) ∧ wr = w
theorem half (lo hi : Nat) (h : lo < hi) : ∃ m : Nat, Int.tdiv ((lo : Int) + (hi : Int) + 1) 2 = (m : Int) ∧ lo < m ∧ m ≤ hi := by
  refine ⟨(lo + hi + 1) / 2, ?_, by omega, by omega⟩
  rw [Int.tdiv_eq_ediv_of_nonneg (by omega)]
  omega
theorem cnt_take {ts : List Nat} {j t m : Nat} (h : ts[j]? = some t) : Dq.cnt (ts.take (j + 1)) m = Dq.cnt (ts.take j) m + if t ≤ m then 1 else 0 := by
  rw [Mem.take_snoc h]
  unfold Dq.cnt
  rw [List.countP_append]
  by_cases hm : t ≤ m
  · rw [if_pos hm, List.countP_cons_of_pos (by simpa using hm)]; rfl
  · rw [if_neg hm, List.countP_cons_of_neg (by simpa using hm)]; rfl
end Df
open Df in
set_option maxHeartbeats 1000000 in
theorem dfNth_any {w : World} {B : Nat} {X : Option Addr} {cx : Nat} {ts : List Nat} (hR : Mem.Rd w B X (ts.map Df.tmV)) (hl : ts.length ≤ 1000000000) (ht : ∀ t ∈ ts, t ≤ 1000000000) (k : Nat) (hk : k ≤ 1000000000) :
    Calls Try.prog 47 #[.slice X ts.length cx, .int .i64 k] w fun x w' => ∃ r : Nat, x = .returned (.int .i64 r) ∧ w' = w ∧ Dq.Nth ts k r ∧ r ≤ 1000000001 := by
  have HR := Lib.hid hR
  have HT := Lib.hid ht
  clear hR ht
  go_enter Try.func47, Try.ntmps47
  go_wp2
  go_loopw [6, 7] (N1 w ts) (fun _ t _ => ts.length - (intOf t).toNat)
  case atStart => exact ⟨⟨0, 1, by omega, rfl, rfl, by omega, by omega, (fun t h => by simp at h), rfl⟩⟩
  case round =>
    obtain ⟨j, hi, hj, rfl, rfl, h1, h2, HH, rfl⟩ := hrel.out
    clear hrel
    by_cases hlt : j < ts.length
    · obtain ⟨t, htj⟩ : ∃ t, ts[j]? = some t := ⟨_, List.getElem?_eq_getElem hlt⟩
      have htm := HT.out t (List.mem_of_getElem? htj)
      obtain ⟨b, o, rfl, hb, hc⟩ := HR.out.at (k := j) (by simpa using hlt)
      have y0 : wr.cell? ⟨b, o + j, none⟩ = some (.int .i64 (t : Int)) := by
        rw [hc, List.getElem_map, (List.getElem?_eq_some_iff.1 htj).2]; rfl
      have d0 : decide ((j : Int) < (ts.length : Int)) = true := by simp; omega
      obtain ⟨mx, hmx⟩ : ∃ mx, max hi t = mx := ⟨_, rfl⟩
      have hmx2 : ∀ ts t', (Builtin.max_ ts t' #[.int .i64 (hi : Int), .int .i64 (t : Int)]).run Try.prog wr = .ok (.int .i64 (mx : Int)) wr := fun ts t' => Dk.run_maxN ts t' wr hi t mx hmx
      have HH2 : Hid (∀ t ∈ ts.take (j + 1), t ≤ mx) := fun s hs => by
        rw [Mem.take_snoc htj] at hs
        rcases List.mem_append.1 hs with h | h
        · have := HH.out s h; omega
        · simp at h; subst h; omega
      have hm1 : 1 ≤ mx := by omega
      have hm2 : mx ≤ 1000000001 := by omega
      clear hc htj hmx
      go_wp2
      go_roundw
      case rel => exact ⟨⟨j + 1, mx, by omega, rfl, by go_num, hm1, hm2, HH2, rfl⟩⟩
      case measure => simp [intOf]; omega
    · obtain rfl : j = ts.length := by omega
      have d0 : decide ((ts.length : Int) < (ts.length : Int)) = false := by simp
      have HT2 : Hid ((∀ t ∈ ts, t ≤ hi) ∨ k < Dq.cnt ts (hi + 1)) := .inl (by have := HH.out; rw [List.take_length] at this; exact this)
      clear HH
      rename World => w0
      go_wp2
      go_loopw [5, 6] (N2 w0 ts k) (fun a b _ => (intOf b - intOf a).toNat)
      case atStart => exact ⟨⟨0, hi, rfl, rfl, by omega, h2, .inl rfl, HT2, rfl⟩⟩
      case round =>
        obtain ⟨lo, hh, rfl, rfl, hlh, hh2, HL, HU, rfl⟩ := hrel.out
        clear hrel
        by_cases hlt : lo < hh
        · have d0 : decide ((lo : Int) < (hh : Int)) = true := by simp; omega
          obtain ⟨m, hm, hm1, hm2⟩ := half lo hh hlt
          go_upto_region 9 with fail
          clear hm
          rename World => w1
          go_wp2
          go_loopw [9, 10] (N3 w1 ts m) (fun _ t _ => ts.length - (intOf t).toNat)
          case atStart => exact ⟨⟨0, 0, by omega, rfl, rfl, by omega, rfl, rfl⟩⟩
          case round =>
            obtain ⟨j, n, hj, rfl, rfl, hnj, HN, rfl⟩ := hrel.out
            clear hrel
            by_cases hlt2 : j < ts.length
            · obtain ⟨t, htj⟩ : ∃ t, ts[j]? = some t := ⟨_, List.getElem?_eq_getElem hlt2⟩
              have htm := HT.out t (List.mem_of_getElem? htj)
              obtain ⟨b, o, rfl, hb, hc⟩ := HR.out.at (k := j) (by simpa using hlt2)
              have y0 : wr.cell? ⟨b, o + j, none⟩ = some (.int .i64 (t : Int)) := by
                rw [hc, List.getElem_map, (List.getElem?_eq_some_iff.1 htj).2]; rfl
              have d1 : decide ((j : Int) < (ts.length : Int)) = true := by simp; omega
              have hst := cnt_take (m := m) htj
              rw [← HN.out] at hst
              have HST := Lib.hid hst
              clear hc htj hst HN
              by_cases htm2 : t ≤ m
              · have d2 : decide ((t : Int) ≤ (m : Int)) = true := by simp; omega
                go_wp2
                go_roundw
                case rel => exact ⟨⟨j + 1, n + 1, by omega, by go_num, by go_num, by omega, by show _ = _; rw [HST.out, if_pos htm2], rfl⟩⟩
                case measure => simp [intOf]; omega
              · have d2 : decide ((t : Int) ≤ (m : Int)) = false := by simp; omega
                go_wp2
                go_roundw
                case rel => exact ⟨⟨j + 1, n, by omega, rfl, by go_num, by omega, by show _ = _; rw [HST.out, if_neg htm2]; rfl, rfl⟩⟩
                case measure => simp [intOf]; omega
            · obtain rfl : j = ts.length := by omega
              have d1 : decide ((ts.length : Int) < (ts.length : Int)) = false := by simp
              have hn := HN.out
              rw [List.take_length] at hn
              have HN2 := Lib.hid hn
              clear HN hn
              by_cases hkn : n ≤ k
              · have d2 : decide ((n : Int) ≤ (k : Int)) = true := by simp; omega
                go_wp2
                go_roundw
                case rel => exact ⟨⟨m, hh, rfl, rfl, by omega, by omega, .inr (by rw [← HN2.out]; exact hkn), HU, rfl⟩⟩
                case measure => simp [intOf]; omega
              · have d2 : decide ((n : Int) ≤ (k : Int)) = false := by simp; omega
                have hm9 : m - 1 + 1 = m := by omega
                go_wp2
                go_roundw
                case rel => exact ⟨⟨lo, m - 1, rfl, by go_num, by omega, by omega, HL, .inr (by rw [hm9, ← HN2.out]; omega), rfl⟩⟩
                case measure => simp [intOf]; omega
        · obtain rfl : lo = hh := by omega
          have d0 : decide ((lo : Int) < (lo : Int)) = false := by simp
          go_wp2
          go_ret
          exact ⟨lo, rfl, rfl, ⟨HL.out, HU.out⟩, by omega⟩
end Go.Proofs.Ytfpfpdhfnleebaa
