/- The walks of a disk's Read, Used, Loose. Files and pieces that are few. -/
import Derived.Test.YtfpfpdhfnleebaaDisk1
set_option maxRecDepth 8000
namespace Go.Proofs.Ytfpfpdhfnleebaa
open Go.ChangeShapes Go.WideShapes Go.ChangeAt Go.RowKit
set_option linter.unusedVariables false
set_option linter.unusedSimpArgs false
namespace Dk
def bsR (rs : List FR) (n : Int) : List UInt8 := match findR rs n with
  | some r => r.f.bs
  | none => []
def rdE (rs : List FR) (n : Int) : Int := match findR rs n with
  | some _ => 0
  | none => 50
def usedR (rs : List FR) : Nat := (rs.map fun r => r.f.bs.length).sum
def looseR (lo : List (Int × Nat)) : Nat := (lo.map (·.2)).sum
structure UsRel (w : World) (rs : List FR) (b r : Nat) (v3 : Value) (wr : World) : Prop where
  out : ∃ lf dn : List FR, Hid ((dn ++ lf).Perm rs) ∧ v3 = .int .i64 (usedR dn : Nat) ∧ usedR dn + usedR lf = usedR rs ∧ Hid (Mem.IterIs (Value.int .i64) okI wr b r (rs.map ent) (lf.map ent)) ∧ Hid (Mem.Keeps (fun _ => False) w wr)
theorem used_perm {a b : List FR} (h : a.Perm b) : usedR a = usedR b := (h.map fun r : FR => r.f.bs.length).sum_nat
theorem used_app (a b : List FR) : usedR (a ++ b) = usedR a + usedR b := by simp [usedR]
theorem erase_perm {α : Type} : ∀ {l : List α} {i : Nat} {a : α}, l[i]? = some a → (a :: l.eraseIdx i).Perm l
  | [], _, _, h => by simp at h
  | c :: l, 0, a, h => by
    have : c = a := by simpa using h
    subst this
    exact List.Perm.refl _
  | c :: l, i + 1, a, h => by
    have h2 : l[i]? = some a := by simpa using h
    rw [List.eraseIdx_cons_succ]
    exact (List.Perm.swap c a _).trans (List.Perm.cons c (erase_perm h2))
structure LoRel (w : World) (lo : List (Int × Nat)) (v3 v11 : Value) (wr : World) : Prop where
  out : ∃ k : Nat, k ≤ lo.length ∧ v11 = .int .i64 k ∧ v3 = .int .i64 (looseR (lo.take k) : Nat) ∧ Hid (Below w.heap.size w wr)
theorem loose_le (lo : List (Int × Nat)) (k : Nat) : looseR (lo.take k) ≤ looseR lo := by
  have h : looseR lo = looseR (lo.take k) + looseR (lo.drop k) := by
    unfold looseR
    rw [← List.sum_append_nat, ← List.map_append, List.take_append_drop]
  omega
theorem loose_step {lo : List (Int × Nat)} {k : Nat} {p : Int × Nat} (h : lo[k]? = some p) : looseR (lo.take (k + 1)) = looseR (lo.take k) + p.2 := by
  unfold looseR
  rw [List.take_add_one, h]
  simp
theorem pcs_get {lo : List (Int × Nat)} {k : Nat} {p : Int × Nat} (h : lo[k]? = some p) : (lo.flatMap pcs)[k * 2]? = some (.int .i64 p.1) ∧ (lo.flatMap pcs)[k * 2 + 1]? = some (.int .i64 p.2) := by
  induction lo generalizing k with
  | nil => simp at h
  | cons q lo ih =>
    cases k with
    | zero =>
      have hq : q = p := by simpa using h
      subst hq
      exact ⟨rfl, rfl⟩
    | succ k =>
      have h2 : lo[k]? = some p := by simpa using h
      obtain ⟨h3, h4⟩ := ih h2
      have e : (q :: lo).flatMap pcs = .int .i64 q.1 :: .int .i64 q.2 :: lo.flatMap pcs := rfl
      rw [e]
      refine ⟨?_, ?_⟩
      · rw [show (k + 1) * 2 = k * 2 + 1 + 1 by omega, List.getElem?_cons_succ, List.getElem?_cons_succ, h3]
      · rw [show (k + 1) * 2 + 1 = k * 2 + 1 + 1 + 1 by omega, List.getElem?_cons_succ, List.getElem?_cons_succ, h4]
theorem pcs_len (lo : List (Int × Nat)) : (lo.flatMap pcs).length = lo.length * 2 := by
  induction lo with
  | nil => rfl
  | cons p lo ih => show (lo.flatMap pcs).length + 2 = _; rw [ih, List.length_cons]; omega
end Dk
open Dk in
theorem read_any {w : World} {g b c : Nat} {A : Option Addr} {rs : List Dk.FR} {lo : List (Int × Nat)} (h : Dk.DS w g b A c rs lo) {n : Int} (hn : Dk.okI n) (hu : Dk.usedR rs ≤ 1000000000) :
    Calls Try.prog 13 #[.pointer (some ⟨g, 0, none⟩), .int .i64 n] w fun x w' => ∃ A' c', x = .returned (.tuple #[.slice A' (Dk.bsR rs n).length c', .int .i64 (Dk.rdE rs n)]) ∧ Mem.Own w' 5 1 A' (Dk.bsR rs n).length c' ((Dk.bsR rs n).map Mem.byteV) ∧ Mem.From w.heap.size A' ∧ Below w.heap.size w w' := by
  have x0 : w.cell? ⟨g, 0, none⟩ = some (.map (some b)) := h.B.cell (j := 0) rfl
  have hl := look_at h hn
  cases hf : findR rs n with
  | none =>
    have hs : Hid (bsR rs n = []) := by show _ = _; unfold bsR; rw [hf]
    have he : Hid (rdE rs n = 50) := by show _ = _; unfold rdE; rw [hf]
    rw [hf] at hl
    clear hf h
    unfold ptrV at hl
    go_enter Try.func13, Try.ntmps13
    go_wp2
    refine bodyPost_ret (v := .tuple #[.slice none 0 0, .int .i64 50]) (by simp [results, Try.results13, go_sem]) rfl ?_
    rw [hs.out, he.out]
    exact ⟨none, 0, rfl, Mem.Own.nil _ _ _, Mem.From.none_ _, Below.refl _ _⟩
  | some r =>
    have hs : Hid (bsR rs n = r.f.bs) := by show _ = _; unfold bsR; rw [hf]
    have he : Hid (rdE rs n = 0) := by show _ = _; unfold rdE; rw [hf]
    obtain ⟨pre, post, rfl, _, _⟩ := find_split hf
    have hF := h.F r (by simp)
    have y0 : w.cell? ⟨r.h, 0, none⟩ = some (.slice r.A r.f.bs.length r.c) := hF.B.cell (j := 0) rfl
    have hlen : r.f.bs.length ≤ 1000000000 := by
      rw [used_app] at hu
      have : usedR (r :: post) = r.f.bs.length + usedR post := rfl
      omega
    have hA : r.A = none → r.c = 0 := fun e => by
      rcases hF.O.2 with ⟨_, _, h3⟩ | ⟨_, _, _, h3, _⟩
      · exact h3
      · rw [e] at h3; cases h3
    have hcl := cloneB_any hF.O.rd hA (by omega)
    have HCL := Lib.hid hcl
    rw [hf] at hl
    clear hf h hF hcl hA
    unfold ptrV at hl
    obtain ⟨f, fh, fA, fc⟩ := r
    dsimp only at y0 hlen HCL hs hl
    go_enter Try.func13, Try.ntmps13
    go_wp2_with (go_at_call 28; refine HCL.out.mono ?_; rintro x9 w9 ⟨A9, c9, rfl, h2, h3, h4⟩; have HO := Lib.hid h2; have HF := Lib.hid h3; have HB := Lib.hid h4; clear h2 h3 h4 HCL)
    refine bodyPost_ret (v := .tuple #[.slice A9 f.bs.length c9, .int .i64 0]) (by simp [results, Try.results13, go_sem]) rfl ?_
    rw [hs.out, he.out]
    exact ⟨A9, c9, rfl, HO.out, HF.out, HB.out⟩
open Dk in
set_option maxHeartbeats 1000000 in
theorem used_any {w : World} {g b c : Nat} {A : Option Addr} {rs : List Dk.FR} {lo : List (Int × Nat)} (h : Dk.DS w g b A c rs lo) (hu : Dk.usedR rs ≤ 1000000000) :
    Calls Try.prog 19 #[.pointer (some ⟨g, 0, none⟩)] w fun x w' => x = .returned (.int .i64 (Dk.usedR rs)) ∧ Below w.heap.size w w' := by
  have x0 : w.cell? ⟨g, 0, none⟩ = some (.map (some b)) := h.B.cell (j := 0) rfl
  obtain ⟨w1, hrun, hI, hk1, hs1⟩ := h.M.range (P := Try.prog) Try.underlying51
  have HD := Lib.hid h
  have HI1 := Lib.hid hI
  have HK1 := Lib.hid hk1
  clear h hI hk1
  obtain ⟨gt, hgt⟩ : ∃ gt, w.heap.size = gt := ⟨_, rfl⟩
  rw [hgt] at hrun HI1
  have HGT := Lib.hid hgt
  clear hgt hs1
  go_enter Try.func19, Try.ntmps19
  go_wp2
  clear hrun x0
  go_loopw [3] (UsRel w rs b gt) (fun _ wq => wq.rangeLeft b gt)
  case atStart => exact ⟨⟨rs, [], List.Perm.refl _, rfl, by simp [usedR], HI1, HK1⟩⟩
  case round =>
    obtain ⟨lf, dn, HP, rfl, hsum, HI, HK⟩ := hrel.out
    clear hrel
    rcases HI.out.nexts Try.prog with ⟨hl, hrun⟩ | ⟨i, p, w2, hp, hrun, hI2, hk2, hs2, hen⟩
    · have hlf : lf = [] := by simpa using hl
      subst hlf
      have hsum2 : usedR dn = usedR rs := by rw [← hsum]; rfl
      have HS := Lib.hid hsum2
      clear hl hsum hsum2
      go_wp2
      go_ret
      exact ⟨by rw [← HS.out]; rfl, HK.out.below (fun k h => h.elim) (Nat.le_refl _)⟩
    · obtain ⟨r, hr, hpr⟩ : ∃ r, lf[i]? = some r ∧ p = ent r := by
        rw [List.getElem?_map] at hp
        cases hl : lf[i]? with
        | none => rw [hl] at hp; cases hp
        | some r => rw [hl] at hp; exact ⟨r, rfl, by simpa using hp.symm⟩
      subst hpr
      have hmem : r ∈ rs := HP.out.subset (List.mem_append_right _ (List.mem_of_getElem? hr))
      have hK2 : Mem.Keeps (fun _ => False) w w2 := HK.out.trans hk2 (fun q hq hlt => by have := HGT.out; omega)
      have y0 : w2.cell? ⟨r.h, 0, none⟩ = some (.slice r.A r.f.bs.length r.c) := ((HD.out.F r hmem).keeps hK2 (fun _ _ h => h)).B.cell (j := 0) rfl
      have hpe := erase_perm hr
      have hus : r.f.bs.length + usedR (lf.eraseIdx i) = usedR lf := by rw [← used_perm hpe]; rfl
      have hI3 : Mem.IterIs (Value.int .i64) okI w2 b gt (rs.map ent) ((lf.eraseIdx i).map ent) := by rw [ChangeMaps.map_eraseIdx]; exact hI2
      have hcnt : w2.rangeLeft b gt < wr.rangeLeft b gt := by
        rw [hI3.count, HI.out.count, List.length_map, List.length_map, List.length_eraseIdx, if_pos (List.getElem?_eq_some_iff.1 hr).1]
        have := (List.getElem?_eq_some_iff.1 hr).1
        omega
      have hP2 : ((dn ++ [r]) ++ lf.eraseIdx i).Perm rs := by
        rw [List.append_assoc]
        exact (List.Perm.append_left dn hpe).trans HP.out
      have hud : usedR (dn ++ [r]) = usedR dn + r.f.bs.length := by rw [used_app]; rfl
      have HI3 := Lib.hid hI3
      have HK2 := Lib.hid hK2
      have HP2 := Lib.hid hP2
      have HCN := Lib.hid hcnt
      have HUD := Lib.hid hud
      unfold ent at hrun hen
      dsimp only at hrun hen
      obtain ⟨nd, hnd⟩ : ∃ nd, usedR dn = nd := ⟨_, rfl⟩
      rw [hnd] at HUD hsum
      rw [hnd]
      have hb9 : nd + r.f.bs.length ≤ 1000000000 := by omega
      clear hp hr hmem hpe hI2 hI3 hk2 hs2 hK2 hP2 hcnt hud HI HK HP
      go_wp2
      go_roundw
      case rel => exact ⟨⟨lf.eraseIdx i, dn ++ [r], HP2, by rw [HUD.out]; go_num, by rw [HUD.out]; omega, HI3, HK2⟩⟩
      case measure => exact HCN.out
open Dk in
set_option maxHeartbeats 1000000 in
theorem loose_any {w : World} {g b c : Nat} {A : Option Addr} {rs : List Dk.FR} {lo : List (Int × Nat)} (h : Dk.DS w g b A c rs lo) (hu : Dk.looseR lo ≤ 1000000000) :
    Calls Try.prog 18 #[.pointer (some ⟨g, 0, none⟩)] w fun x w' => x = .returned (.int .i64 (Dk.looseR lo)) ∧ Below w.heap.size w w' := by
  have x0 : w.cell? ⟨g, 1, none⟩ = some (.slice A lo.length c) := h.B.cell (j := 1) rfl
  have hlm : lo.length ≤ maxLen := Nat.le_trans h.O.le h.O.cap
  unfold maxLen at hlm
  have HD := Lib.hid h
  clear h
  go_enter Try.func18, Try.ntmps18
  go_wp2
  clear x0
  go_loopw [3, 11] (LoRel w lo) (fun _ t _ => lo.length - (intOf t).toNat)
  case atStart => exact ⟨⟨0, by omega, rfl, rfl, Below.refl _ _⟩⟩
  case round =>
    obtain ⟨k, hk, rfl, rfl, HB⟩ := hrel.out
    clear hrel
    by_cases hlt : k < lo.length
    · obtain ⟨p, hp⟩ : ∃ p, lo[k]? = some p := ⟨_, List.getElem?_eq_getElem hlt⟩
      obtain ⟨b2, o2, hA⟩ := HD.out.O.form (by omega)
      subst hA
      obtain ⟨q0, q1⟩ := pcs_get hp
      have hO := HD.out.O.below HB.out (fun k hk => HD.out.O.lt hk)
      have y0 : wr.cell? ⟨b2, o2 + k * 2, none⟩ = some (.int .i64 p.1) := hO.cell q0
      have y1 : wr.cell? ⟨b2, o2 + k * 2 + 1, none⟩ = some (.int .i64 p.2) := by have := hO.cell q1; rwa [← Nat.add_assoc] at this
      have hst := loose_step hp
      have hle := loose_le lo (k + 1)
      obtain ⟨nd, hnd⟩ : ∃ nd, looseR (lo.take k) = nd := ⟨_, rfl⟩
      rw [hnd] at hst ⊢
      have HST := Lib.hid hst
      have hb9 : nd + p.2 ≤ 1000000000 := by omega
      have d1 : decide ((k : Int) < (lo.length : Int)) = true := by simp; omega
      have hbn := HB.out.size
      have HB2 : Hid (Below w.heap.size w (wr.alloc (.cells #[.int .i64 p.1, .int .i64 p.2] 59))) := HB.out.alloc hbn _
      clear hp q0 q1 hO hst hle HB
      go_wp2
      go_roundw
      case rel => exact ⟨⟨k + 1, by omega, by go_num, by rw [HST.out]; go_num, HB2⟩⟩
      case measure => simp [intOf]; omega
    · obtain rfl : k = lo.length := by omega
      rw [List.take_of_length_le (Nat.le_refl _)]
      have d1 : decide ((lo.length : Int) < (lo.length : Int)) = false := by simp
      clear hlt hk
      go_wp2
      go_ret
      exact ⟨rfl, HB.out⟩
end Go.Proofs.Ytfpfpdhfnleebaa
