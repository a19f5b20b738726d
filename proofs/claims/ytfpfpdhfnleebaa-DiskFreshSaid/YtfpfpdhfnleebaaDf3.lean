/- The walks of the document's disk that only read: Used, Loose, Files, nth; New. No conditions but that it is no great one. -/
import Derived.Test.YtfpfpdhfnleebaaDf2
set_option maxRecDepth 8000
namespace Go.Proofs.Ytfpfpdhfnleebaa
open Go.ChangeShapes Go.WideShapes Go.ChangeAt Go.RowKit
set_option linter.unusedVariables false
set_option linter.unusedSimpArgs false
namespace Df
def usedQ (l : List Fl) : Nat := (l.map fun f => f.bs.length).sum
def looseQ (l : List Fl) : Nat := (l.map fun f => f.bs.length - synL f.cm).sum
def Srt (l : List Fl) : Prop := (l.map (·.n)).Pairwise (· < ·)
theorem low_at {l : List Fl} (hs : Srt l) : ∀ {k : Nat} {f : Fl}, l[k]? = some f → low f.n l = k := by
  induction l with
  | nil => intro k f h; simp at h
  | cons g l ih =>
    intro k f h
    unfold Srt at hs
    rw [List.map_cons, List.pairwise_cons] at hs
    unfold low
    rw [List.takeWhile_cons]
    cases k with
    | zero =>
      have : g = f := by simpa using h
      subst this
      simp
    | succ k =>
      have h2 : l[k]? = some f := by simpa using h
      have := hs.1 f.n (List.mem_map.2 ⟨f, List.mem_of_getElem? h2, rfl⟩)
      rw [if_pos (by simpa using this), List.length_cons]
      have := ih hs.2 h2
      unfold low at this
      omega
theorem at_at {l : List Fl} (hs : Srt l) {k : Nat} {f : Fl} (h : l[k]? = some f) : atF f.n l = some f := by
  have h1 := low_at hs h
  unfold atF isAt
  rw [h1, h]
  simp
theorem used_take_le (l : List Fl) (k : Nat) : usedQ (l.take k) ≤ usedQ l := by
  conv => rhs; rw [← List.take_append_drop k l]
  unfold usedQ
  rw [List.map_append, List.sum_append]; omega
theorem used_snoc {l : List Fl} {k : Nat} {f : Fl} (h : l[k]? = some f) : usedQ (l.take (k + 1)) = usedQ (l.take k) + f.bs.length := by
  unfold usedQ; rw [Mem.take_snoc h]; simp
theorem loose_snoc {l : List Fl} {k : Nat} {f : Fl} (h : l[k]? = some f) : looseQ (l.take (k + 1)) = looseQ (l.take k) + (f.bs.length - synL f.cm) := by
  unfold looseQ; rw [Mem.take_snoc h]; simp
theorem loose_le_used (l : List Fl) : looseQ l ≤ usedQ l := by
  induction l with
  | nil => exact Nat.le_refl _
  | cons f l ih =>
    unfold looseQ usedQ at *
    rw [List.map_cons, List.sum_cons, List.map_cons, List.sum_cons]; omega
theorem synced_quiet {w : World} {g c time : Nat} {A : Option Addr} {rs : List R} (h : DS w g A c rs time) {n : Int} {s : Nat} (hs : synN n (rs.map (·.f)) = s) (m : Nat) :
    Calls Try.prog 41 #[.pointer (some ⟨g, 0, none⟩), .int .i64 n] (w.drewN m) fun x w' => x = .returned (.int .i64 s) ∧ ∃ m, w' = w.drewN m := by
  rw [← hs]
  refine (dfSynced_any (h.drewN m) n).mono ?_
  rintro x w' ⟨rfl, k, rfl⟩
  exact ⟨rfl, m + k, World.drewN_drewN _ _ _⟩
structure UsRel (w : World) (l : List Fl) (v3 v4 : Value) (wr : World) : Prop where
  out : ∃ k, k ≤ l.length ∧ v3 = .int .i64 (usedQ (l.take k)) ∧ v4 = .int .i64 k ∧ wr = w
structure LoRel (w : World) (l : List Fl) (v3 v4 : Value) (wr : World) : Prop where
  out : ∃ k m, k ≤ l.length ∧ v3 = .int .i64 (looseQ (l.take k)) ∧ v4 = .int .i64 k ∧ wr = w.drewN m
structure FiRel (w : World) (l : List Fl) (v3 v4 : Value) (wr : World) : Prop where
  out : ∃ (k : Nat) (X : Option Addr) (cx : Nat), k ≤ l.length ∧ v3 = .slice X k cx ∧ v4 = .int .i64 k ∧ Hid (Mem.Own wr 3 1 X k cx ((l.take k).map fun f => Value.int .i64 f.n)) ∧ Hid (Mem.From w.heap.size X) ∧ Hid (Below w.heap.size w wr)
theorem ints_elem : Mem.Elem Try.prog 33 3 1 8 := Mem.elem_of Try.underlying33 (z := .int .i64 0) (by kernel_rfl) rfl (by omega)
end Df
open Df in
set_option maxHeartbeats 1000000 in
theorem dfUsed_any {w : World} {g c time : Nat} {A : Option Addr} {rs : List Df.R} (h : Df.DS w g A c rs time) (hu : Df.usedQ (rs.map (·.f)) ≤ 1000000000) :
    Calls Try.prog 37 #[.pointer (some ⟨g, 0, none⟩)] w fun x w' => x = .returned (.int .i64 (Df.usedQ (rs.map (·.f)))) ∧ w' = w := by
  have x0 : w.cell? ⟨g, 0, none⟩ = some (.slice A rs.length c) := h.B.cell (j := 0) rfl
  have hlm : rs.length ≤ maxLen := Nat.le_trans h.O.le h.O.cap
  unfold maxLen at hlm
  have HD := Lib.hid h
  clear h
  obtain ⟨ls, hls⟩ : ∃ ls, rs.map (·.f) = ls := ⟨_, rfl⟩
  have hll : ls.length = rs.length := by rw [← hls, List.length_map]
  rw [hls] at hu ⊢
  go_enter Try.func37, Try.ntmps37
  go_wp2
  go_loopw [3, 4] (UsRel w ls) (fun _ t _ => rs.length - (intOf t).toNat)
  case atStart => exact ⟨⟨0, by omega, rfl, rfl, rfl⟩⟩
  case round =>
    obtain ⟨k, hk, rfl, rfl, rfl⟩ := hrel.out
    clear hrel
    by_cases hlt : k < rs.length
    · obtain ⟨r, hr⟩ : ∃ r, rs[k]? = some r := ⟨_, List.getElem?_eq_getElem hlt⟩
      obtain ⟨b, o, rfl, y0, _, y1, _, _⟩ := HD.out.at hr
      have hst := used_snoc (l := ls) (k := k) (f := r.f) (by rw [← hls, List.getElem?_map, hr]; rfl)
      have hle := used_take_le ls (k + 1)
      obtain ⟨nd, hnd⟩ : ∃ nd, usedQ (ls.take k) = nd := ⟨_, rfl⟩
      rw [hnd] at hst ⊢
      have HST := Lib.hid hst
      have hb9 : nd + r.f.bs.length ≤ 1000000000 := by omega
      have d0 : decide ((k : Int) < (rs.length : Int)) = true := by simp; omega
      clear hst hle hr hnd
      go_wp2
      go_roundw
      case rel => exact ⟨⟨k + 1, by omega, by rw [HST.out]; go_num, by go_num, rfl⟩⟩
      case measure => simp [intOf]; omega
    · obtain rfl : k = rs.length := by omega
      rw [List.take_of_length_le (by omega)]
      have d0 : decide ((rs.length : Int) < (rs.length : Int)) = false := by simp
      go_wp2
      go_ret
      exact ⟨rfl, rfl⟩
open Df in
set_option maxHeartbeats 1000000 in
theorem dfLoose_any {w : World} {g c time : Nat} {A : Option Addr} {rs : List Df.R} (h : Df.DS w g A c rs time) (hu : Df.usedQ (rs.map (·.f)) ≤ 1000000000) (hs : Df.Srt (rs.map (·.f))) :
    Calls Try.prog 38 #[.pointer (some ⟨g, 0, none⟩)] w fun x w' => x = .returned (.int .i64 (Df.looseQ (rs.map (·.f)))) ∧ ∃ m, w' = w.drewN m := by
  have x0 : w.cell? ⟨g, 0, none⟩ = some (.slice A rs.length c) := h.B.cell (j := 0) rfl
  have hlm : rs.length ≤ maxLen := Nat.le_trans h.O.le h.O.cap
  unfold maxLen at hlm
  have HD := Lib.hid h
  clear h
  obtain ⟨ls, hls⟩ : ∃ ls, rs.map (·.f) = ls := ⟨_, rfl⟩
  have hll : ls.length = rs.length := by rw [← hls, List.length_map]
  rw [hls] at hu hs ⊢
  go_enter Try.func38, Try.ntmps38
  go_wp2
  go_loopw [3, 4] (LoRel w ls) (fun _ t _ => rs.length - (intOf t).toNat)
  case atStart => exact ⟨⟨0, 0, by omega, rfl, rfl, rfl⟩⟩
  case round =>
    obtain ⟨k, m, hk, rfl, rfl, hwr⟩ := hrel.out
    clear hrel
    have HDR : Hid (DS wr g A c rs time) := by show DS _ _ _ _ _ _; rw [hwr]; exact HD.out.drewN m
    have x0r : wr.cell? ⟨g, 0, none⟩ = some (.slice A rs.length c) := by rw [hwr]; exact x0
    by_cases hlt : k < rs.length
    · obtain ⟨r, hr⟩ : ∃ r, rs[k]? = some r := ⟨_, List.getElem?_eq_getElem hlt⟩
      obtain ⟨b, o, rfl, y0, y1, y2, y3, hFA⟩ := HDR.out.at hr
      have hlr : ls[k]? = some r.f := by rw [← hls, List.getElem?_map, hr]; rfl
      have hst := loose_snoc hlr
      have hsu := used_snoc hlr
      have hle := used_take_le ls (k + 1)
      have hlu := loose_le_used (ls.take k)
      have hsy : synN r.f.n (rs.map (·.f)) = synL r.f.cm := by rw [hls]; unfold synN; rw [at_at hs hlr]
      have hsl := synL_le r.f.cm
      rw [hFA.len] at hsl
      obtain ⟨sl, hsl2⟩ : ∃ sl, synL r.f.cm = sl := ⟨_, rfl⟩
      rw [hsl2] at hst hsy hsl
      have HQ : Hid (∀ m, _) := fun m => synced_quiet HDR.out hsy m
      obtain ⟨nd, hnd⟩ : ∃ nd, looseQ (ls.take k) = nd := ⟨_, rfl⟩
      rw [hnd] at hst hlu ⊢
      have HST := Lib.hid hst
      have hb9 : nd + r.f.bs.length ≤ 1000000000 := by omega
      have q1 : IntKind.i64.wrap ((nd : Int) + (r.f.bs.length : Int)) = (nd : Int) + (r.f.bs.length : Int) := IntWalk.i64_in _ (by omega)
      have q2 : IntKind.i64.wrap ((nd : Int) + (r.f.bs.length : Int) - (sl : Int)) = ((nd + (r.f.bs.length - sl) : Nat) : Int) := by rw [IntWalk.i64_in _ (by omega)]; omega
      have d0 : decide ((k : Int) < (rs.length : Int)) = true := by simp; omega
      have HWR := Lib.hid hwr
      clear hst hsu hle hlu hr hlr hnd hFA hsl2 hsy hwr x0
      go_upto_region 5 with fail
      go_quiet ((go_at_call 41; with_reducible exact HQ.out _))
      go_wp2
      go_roundw
      case rel => exact ⟨⟨k + 1, m + nq, by omega, by rw [HST.out]; (try rw [q1]); (try rw [q2]); simp, by go_num, by rw [HWR.out, World.drewN_drewN]⟩⟩
      case measure => simp [intOf]; omega
    · obtain rfl : k = rs.length := by omega
      rw [List.take_of_length_le (by omega)]
      have d0 : decide ((rs.length : Int) < (rs.length : Int)) = false := by simp
      have HWR := Lib.hid hwr
      clear x0 hwr
      go_wp2
      go_ret
      exact ⟨rfl, m, HWR.out⟩
open Df in
set_option maxHeartbeats 1000000 in
theorem dfFiles_any {w : World} {g c time : Nat} {A : Option Addr} {rs : List Df.R} (h : Df.DS w g A c rs time) (hl : rs.length ≤ 1000000) :
    Calls Try.prog 36 #[.pointer (some ⟨g, 0, none⟩)] w fun x w' => ∃ X cx, x = .returned (.slice X rs.length cx) ∧ Mem.Own w' 3 1 X rs.length cx ((rs.map (·.f)).map fun f => Value.int .i64 f.n) ∧ Mem.From w.heap.size X ∧ Below w.heap.size w w' := by
  have HD := Lib.hid h
  clear h
  obtain ⟨ls, hls⟩ : ∃ ls, rs.map (·.f) = ls := ⟨_, rfl⟩
  have hll : ls.length = rs.length := by rw [← hls, List.length_map]
  rw [hls]
  go_enter Try.func36, Try.ntmps36
  go_wp2
  go_loopw [3, 4] (FiRel w ls) (fun _ t _ => rs.length - (intOf t).toNat)
  case atStart => exact ⟨⟨0, none, 0, by omega, rfl, rfl, Mem.Own.nil _ _ _, Mem.From.none_ _, Below.refl _ _⟩⟩
  case round =>
    obtain ⟨k, X, cx, hk, rfl, rfl, HX, HF, HB⟩ := hrel.out
    clear hrel
    have HDR := Lib.hid (HD.out.below HB.out)
    have x0 : wr.cell? ⟨g, 0, none⟩ = some (.slice A rs.length c) := HDR.out.B.cell (j := 0) rfl
    by_cases hlt : k < rs.length
    · obtain ⟨r, hr⟩ : ∃ r, rs[k]? = some r := ⟨_, List.getElem?_eq_getElem hlt⟩
      obtain ⟨b, o, rfl, y0, y1, _, _, _⟩ := HDR.out.at hr
      have hlr : ls[k]? = some r.f := by rw [← hls, List.getElem?_map, hr]; rfl
      have HLR := Lib.hid hlr
      have d0 : decide ((k : Int) < (rs.length : Int)) = true := by simp; omega
      have hn63 : k + 1 ≤ maxLen := by unfold maxLen; omega
      clear hr hlr
      go_wp2_with (at_builtin; refine Mem.wpList_app _ rfl (.tmp 14) (.tmp 25) _ rfl ints_elem X k cx _ rfl (wr.heap.size + 1) (some ⟨wr.heap.size, 0, none⟩) 1 1 [.int .i64 r.f.n] rfl ?_ (HX.out.alloc _) (Mem.Rd.alloc_new wr _ _ _ rfl) rfl (by simp [Value.oneCell']) hn63 (by omega); intro X2 c2 w4 hown hg4 hat; have HO4 := Lib.hid hown; have hs4 := hg4.size; have HB4 : Hid (Below w.heap.size w w4) := (HB.out.alloc HB.out.size _).grown hg4 (by simp; have := HB.out.size; omega) (fun q hq => HF.out.blk q hq); have HF4 : Hid (Mem.From w.heap.size X2) := (by rcases hat with rfl | rfl; exact HF.out; exact Mem.From.some_ (by simp; have := HB.out.size; omega)); clear hown hg4 hat)
      go_roundw
      case rel => exact ⟨⟨k + 1, X2, c2, by omega, rfl, by go_num, Lib.hid (by rw [Mem.take_snoc HLR.out, List.map_append]; exact HO4.out), HF4, HB4⟩⟩
      case measure => simp [intOf]; omega
    · obtain rfl : k = rs.length := by omega
      have d0 : decide ((rs.length : Int) < (rs.length : Int)) = false := by simp
      have HX2 : Hid (Mem.Own wr 3 1 X rs.length cx (ls.map fun f => Value.int .i64 f.n)) := by
        have := HX.out
        rw [List.take_of_length_le (by omega)] at this
        exact this
      clear HX
      go_wp2
      go_ret
      exact ⟨X, cx, rfl, HX2.out, HF.out, HB.out⟩
end Go.Proofs.Ytfpfpdhfnleebaa
