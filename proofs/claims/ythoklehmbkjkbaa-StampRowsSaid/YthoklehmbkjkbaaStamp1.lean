/- The walks of the document's own order of stamps, and of the next stamp. No conditions but that numbers fit. -/
import Derived.Test.YthoklehmbkjkbaaStamp0
namespace Go.Proofs.Ythoklehmbkjkbaa
open Go.RowKit
set_option linter.unusedVariables false

set_option maxHeartbeats 1000000 in
theorem refRight_any (s : Stamp.St) (w : World) :
    Calls Try.prog 11 #[Stamp.S s] w fun e w' => e = .returned (.bool (Stamp.right s)) ∧ Below w.heap.size w w' := by
  have fin : ∀ b : Bool, Hid (Stamp.right s = b) → ∀ (e : Ending) (o : Obj), e = .returned (.bool b) → e = .returned (.bool (Stamp.right s)) ∧ Below w.heap.size w (w.alloc o) := fun b hb e o he => by
    subst he; rw [hb.out]; exact ⟨rfl, Reg.below_new _ _⟩
  have FIN := Lib.hid fin
  clear fin
  by_cases h1 : 1 ≤ s.c
  · by_cases h2 : s.c ≤ 1099511627776
    · by_cases h3 : 0 ≤ s.d
      · by_cases h4 : s.d < 3
        · by_cases h5 : 0 ≤ s.r
          · by_cases h6 : s.r < 3
            · have H : Hid (Stamp.right s = true) := by show Stamp.right s = true; unfold Stamp.right; simp; omega
              go_enter Try.func11, Try.ntmps11
              go_wp2
              go_ret
              exact FIN.out _ H _ _ rfl
            · have H : Hid (Stamp.right s = false) := by show Stamp.right s = false; unfold Stamp.right; simp; omega
              go_enter Try.func11, Try.ntmps11
              go_wp2
              go_ret
              exact FIN.out _ H _ _ rfl
          · have H : Hid (Stamp.right s = false) := by show Stamp.right s = false; unfold Stamp.right; simp; omega
            go_enter Try.func11, Try.ntmps11
            go_wp2
            go_ret
            exact FIN.out _ H _ _ rfl
        · have H : Hid (Stamp.right s = false) := by show Stamp.right s = false; unfold Stamp.right; simp; omega
          go_enter Try.func11, Try.ntmps11
          go_wp2
          go_ret
          exact FIN.out _ H _ _ rfl
      · have H : Hid (Stamp.right s = false) := by show Stamp.right s = false; unfold Stamp.right; simp; omega
        go_enter Try.func11, Try.ntmps11
        go_wp2
        go_ret
        exact FIN.out _ H _ _ rfl
    · have H : Hid (Stamp.right s = false) := by show Stamp.right s = false; unfold Stamp.right; simp; omega
      go_enter Try.func11, Try.ntmps11
      go_wp2
      go_ret
      exact FIN.out _ H _ _ rfl
  · have H : Hid (Stamp.right s = false) := by show Stamp.right s = false; unfold Stamp.right; simp; omega
    go_enter Try.func11, Try.ntmps11
    go_wp2
    go_ret
    exact FIN.out _ H _ _ rfl

theorem order_any (x y : Int) (w : World) :
    Calls Try.prog 20 #[.int .i64 x, .int .i64 y] w fun e w' => e = .returned (.int .i64 (Stamp.cmpI x y)) ∧ w = w' := by
  rcases Int.lt_trichotomy x y with h | h | h
  · go_enter Try.func20, Try.ntmps20
    go_wp2
    go_ret
    exact ⟨by show Ending.returned (.int .i64 (-1)) = _; rw [Stamp.cmpI, if_pos h], rfl⟩
  · subst h
    go_enter Try.func20, Try.ntmps20
    go_wp2
    go_ret
    exact ⟨by show Ending.returned (.int .i64 0) = _; rw [Stamp.cmpI, if_neg (by omega), if_neg (by omega)], rfl⟩
  · have h' : ¬ x < y := by omega
    go_enter Try.func20, Try.ntmps20
    go_wp2
    go_ret
    exact ⟨by show Ending.returned (.int .i64 1) = _; rw [Stamp.cmpI, if_neg (by omega), if_pos h], rfl⟩

namespace Stamp
theorem cmpI_eq {x y : Int} : cmpI x y = 0 ↔ x = y := by
  unfold cmpI
  constructor
  · intro h; split at h
    · omega
    · split at h <;> omega
  · intro h; rw [if_neg (by omega), if_neg (by omega)]
theorem cmpS_c {a b : St} (h : a.c ≠ b.c) : cmpS a b = cmpI a.c b.c := by
  unfold cmpS firstNZ; rw [if_neg (fun e => h (cmpI_eq.1 e))]
theorem cmpS_d {a b : St} (h : a.c = b.c) (h2 : a.d ≠ b.d) : cmpS a b = cmpI a.d b.d := by
  unfold cmpS; simp only [firstNZ]; rw [if_pos (cmpI_eq.2 h), if_neg (fun e => h2 (cmpI_eq.1 e))]
theorem cmpS_r {a b : St} (h : a.c = b.c) (h2 : a.d = b.d) : cmpS a b = cmpI a.r b.r := by
  unfold cmpS; simp only [firstNZ]; rw [if_pos (cmpI_eq.2 h), if_pos (cmpI_eq.2 h2)]; split
  · rename_i h3; rw [h3]
  · rfl
/-- the greatest count, of 0 and some -/
def topOf (zs : List Int) : Int := zs.foldl max 0
theorem topOf_snoc (zs : List Int) (x : Int) : topOf (zs ++ [x]) = max (topOf zs) x := by unfold topOf; rw [List.foldl_append]; rfl
theorem topOf_nonneg (zs : List Int) : 0 ≤ topOf zs := by
  have h : ∀ (l : List Int) (m : Int), m ≤ l.foldl max m := by
    intro l
    induction l with
    | nil => intro m; exact Int.le_refl _
    | cons x l ih => intro m; exact Int.le_trans (Int.le_max_left m x) (ih _)
  exact h zs 0
/-- what Next answers -/
def nextS (dc rng : Int) (zs : List Int) : St × Bool :=
  if right ⟨min (topOf zs) 1099511627776 + 1, dc, rng⟩ then (⟨min (topOf zs) 1099511627776 + 1, dc, rng⟩, true) else (⟨0, 0, 0⟩, false)
end Stamp

set_option maxHeartbeats 1000000 in
theorem refCmp_any (a b : Stamp.St) (w : World) :
    Calls Try.prog 13 #[Stamp.S a, Stamp.S b] w fun e w' => e = .returned (.int .i64 (Stamp.cmpS a b)) ∧ Below w.heap.size w w' := by
  have HB := Lib.hid (show Below w.heap.size w ((w.alloc (.cells #[.int .i64 a.c, .int .i64 a.d, .int .i64 a.r] 23)).alloc (.cells #[.int .i64 b.c, .int .i64 b.d, .int .i64 b.r] 23)) from (Reg.below_new _ _).alloc (by simp) _)
  by_cases h1 : a.c = b.c
  · have t1 : (a.c != b.c) = false := by simp [h1]
    by_cases h2 : a.d = b.d
    · have t2 : (a.d != b.d) = false := by simp [h2]
      have H := Lib.hid (Stamp.cmpS_r h1 h2)
      clear h1 h2
      go_enter Try.func13, Try.ntmps13
      go_wp2_with (go_at_call 20; refine (order_any _ _ _).mono ?_; rintro e w' ⟨rfl, rfl⟩)
      go_ret
      exact ⟨by rw [H.out]; rfl, HB.out⟩
    · have t2 : (a.d != b.d) = true := by simp [h2]
      have H := Lib.hid (Stamp.cmpS_d h1 h2)
      clear h1 h2
      go_enter Try.func13, Try.ntmps13
      go_wp2_with (go_at_call 20; refine (order_any _ _ _).mono ?_; rintro e w' ⟨rfl, rfl⟩)
      go_ret
      exact ⟨by rw [H.out]; rfl, HB.out⟩
  · have t1 : (a.c != b.c) = true := by simp [h1]
    have H := Lib.hid (Stamp.cmpS_c h1)
    clear h1
    go_enter Try.func13, Try.ntmps13
    go_wp2_with (go_at_call 20; refine (order_any _ _ _).mono ?_; rintro e w' ⟨rfl, rfl⟩)
    go_ret
    exact ⟨by rw [H.out]; rfl, HB.out⟩

theorem run_max2 (ts : Array TypeId) (t : TypeId) (W : World) (x y : Int) : (Builtin.max_ ts t #[.int .i64 x, .int .i64 y]).run Try.prog W = .ok (.int .i64 (max x y)) W := by
  have h : (Builtin.max_ ts t #[.int .i64 x, .int .i64 y]).run Try.prog W = .ok (.int .i64 (if x < y then y else x)) W := by simp [go_sem]
  rw [h]; congr 2; split <;> omega
theorem run_min2 (ts : Array TypeId) (t : TypeId) (W : World) (x y : Int) : (Builtin.min_ ts t #[.int .i64 x, .int .i64 y]).run Try.prog W = .ok (.int .i64 (min x y)) W := by
  have h : (Builtin.min_ ts t #[.int .i64 x, .int .i64 y]).run Try.prog W = .ok (.int .i64 (if y < x then y else x)) W := by simp [go_sem]
  rw [h]; congr 2; split <;> omega

/-- numbers that fit -/
def Fits (zs : List Int) : Prop := ∀ z ∈ zs, -9223372036854775808 ≤ z ∧ z ≤ 9223372036854775807

set_option maxHeartbeats 1000000 in
theorem next_any (dc rng : Int) (A : Option Addr) (c : Nat) (zs : List Int) (B : Nat) (w : World) (hr : Mem.Rd w B A (zs.map Stamp.intV)) (hB : B ≤ w.heap.size) (hn : zs.length ≤ maxLen) :
    Calls Try.prog 14 #[.int .i64 dc, .int .i64 rng, .slice A zs.length c] w fun e w' => e = .returned (.tuple #[Stamp.S (Stamp.nextS dc rng zs).1, .bool (Stamp.nextS dc rng zs).2]) ∧ Below w.heap.size w w' := by
  unfold maxLen at hn
  have hm := Lib.hid ((hr.alloc hB (.cells #[.int .i64 0, .int .i64 0, .int .i64 0] 23)))
  clear hr
  have hmx := fun ts t W x y => run_max2 ts t W x y
  have hmn := fun ts t W x y => run_min2 ts t W x y
  go_enter Try.func14, Try.ntmps14
  go_wp2
  go_loop [8, 14] (fun vm vi => ∃ (k : Nat), k ≤ zs.length ∧ vm = .int .i64 (Stamp.topOf (zs.take k)) ∧ vi = .int .i64 k) (fun _ t => zs.length - (intOf t).toNat)
  case atStart => exact ⟨0, by omega, rfl, rfl⟩
  case round =>
    obtain ⟨k, hk, rfl, rfl⟩ := hrel
    by_cases hlt : k < zs.length
    · obtain ⟨b, o, hA, hb, hc⟩ := hm.out.at (k := k) (by simpa using hlt)
      obtain rfl := hA
      simp only [List.getElem_map] at hc
      have hts := Lib.hid (Mem.take_snoc (List.getElem?_eq_getElem hlt))
      obtain ⟨x, hx⟩ : ∃ x, zs[k] = x := ⟨_, rfl⟩
      rw [hx] at hc hts
      clear hx
      go_wp2
      go_round
      case rel => exact ⟨k + 1, by omega, by rw [hts.out, Stamp.topOf_snoc], by go_num⟩
      case measure => simp [intOf]; omega
    · obtain rfl : k = zs.length := by omega
      have ht0 := Stamp.topOf_nonneg zs
      have hfull := Lib.hid (show zs.take zs.length = zs from List.take_length)
      have hmin0 : 0 ≤ min (Stamp.topOf zs) 1099511627776 := by omega
      have hmin1 : min (Stamp.topOf zs) 1099511627776 ≤ 1099511627776 := by omega
      cases hrt : Stamp.right ⟨min (Stamp.topOf zs) 1099511627776 + 1, dc, rng⟩
      · have HN : Hid (Stamp.nextS dc rng zs = (⟨0, 0, 0⟩, false)) := by show Stamp.nextS dc rng zs = _; unfold Stamp.nextS; rw [hrt]; rfl
        have hrt' := Lib.hid hrt
        clear hrt
        rw [hfull.out]
        go_wp2_with (go_at_call 10; refine (right_any ⟨min (Stamp.topOf zs) 1099511627776 + 1, dc, rng⟩ _).mono ?_; rintro e w1 ⟨rfl, hb1⟩; rw [hrt'.out]; obtain ⟨hc1, hf1⟩ := Mem.bcell hb1; have hz1 := hb1.size; simp only [World.size_alloc] at hz1)
        have hB1 := Lib.hid (((Reg.below_new w (.cells #[.int .i64 0, .int .i64 0, .int .i64 0] 23)).alloc (by simp) (.cells #[.int .i64 (min (Stamp.topOf zs) 1099511627776 + 1), .int .i64 dc, .int .i64 rng] 23)).trans (hb1.mono (by simp; omega)))
        have k0 : w1.cell? ⟨w.heap.size, 0, none⟩ = some (.int .i64 0) := (hc1 _ _ (by simp; omega)).trans (by simp)
        have k1 : w1.cell? ⟨w.heap.size, 1, none⟩ = some (.int .i64 0) := (hc1 _ _ (by simp; omega)).trans (by simp)
        have k2 : w1.cell? ⟨w.heap.size, 2, none⟩ = some (.int .i64 0) := (hc1 _ _ (by simp; omega)).trans (by simp)
        clear hc1 hf1
        refine bodyPost_ret (v := .tuple #[Stamp.S ⟨0, 0, 0⟩, .bool false]) ?_ rfl ⟨by rw [HN.out], ?_⟩
        · simp [results, Try.results14, go_sem, Mem.set_same, Mem.isSome_set, k0, k1, k2]
        · first | exact hB1.out | exact ((hB1.out.setCell (by simp) _).setCell (by simp) _).setCell (by simp) _
      · have HN : Hid (Stamp.nextS dc rng zs = (⟨min (Stamp.topOf zs) 1099511627776 + 1, dc, rng⟩, true)) := by show Stamp.nextS dc rng zs = _; unfold Stamp.nextS; rw [hrt]; rfl
        have hrt' := Lib.hid hrt
        clear hrt
        rw [hfull.out]
        go_wp2_with (go_at_call 10; refine (right_any ⟨min (Stamp.topOf zs) 1099511627776 + 1, dc, rng⟩ _).mono ?_; rintro e w1 ⟨rfl, hb1⟩; rw [hrt'.out]; obtain ⟨hc1, hf1⟩ := Mem.bcell hb1; have hz1 := hb1.size; simp only [World.size_alloc] at hz1)
        have hB1 := Lib.hid (((Reg.below_new w (.cells #[.int .i64 0, .int .i64 0, .int .i64 0] 23)).alloc (by simp) (.cells #[.int .i64 (min (Stamp.topOf zs) 1099511627776 + 1), .int .i64 dc, .int .i64 rng] 23)).trans (hb1.mono (by simp; omega)))
        have k0 : w1.cell? ⟨w.heap.size, 0, none⟩ = some (.int .i64 0) := (hc1 _ _ (by simp; omega)).trans (by simp)
        have k1 : w1.cell? ⟨w.heap.size, 1, none⟩ = some (.int .i64 0) := (hc1 _ _ (by simp; omega)).trans (by simp)
        have k2 : w1.cell? ⟨w.heap.size, 2, none⟩ = some (.int .i64 0) := (hc1 _ _ (by simp; omega)).trans (by simp)
        clear hc1 hf1
        refine bodyPost_ret (v := .tuple #[Stamp.S ⟨min (Stamp.topOf zs) 1099511627776 + 1, dc, rng⟩, .bool true]) ?_ rfl ⟨by rw [HN.out], ?_⟩
        · simp [results, Try.results14, go_sem, Mem.set_same, Mem.isSome_set, k0, k1, k2]
        · first | exact hB1.out | exact ((hB1.out.setCell (by simp) _).setCell (by simp) _).setCell (by simp) _

set_option maxHeartbeats 1000000 in
theorem refNext_any (dc rng : Int) (A : Option Addr) (c : Nat) (zs : List Int) (B : Nat) (w : World) (hr : Mem.Rd w B A (zs.map Stamp.intV)) (hB : B ≤ w.heap.size) (hn : zs.length ≤ maxLen) :
    Calls Try.prog 15 #[.int .i64 dc, .int .i64 rng, .slice A zs.length c] w fun e w' => e = .returned (.tuple #[Stamp.S (Stamp.nextS dc rng zs).1, .bool (Stamp.nextS dc rng zs).2]) ∧ Below w.heap.size w w' := by
  unfold maxLen at hn
  have hm := Lib.hid ((hr.alloc hB (.cells #[.int .i64 0, .int .i64 0, .int .i64 0] 23)))
  clear hr
  have hmx := fun ts t W x y => run_max2 ts t W x y
  go_enter Try.func15, Try.ntmps15
  go_wp2
  go_loop [8, 9] (fun vm vi => ∃ (k : Nat), k ≤ zs.length ∧ vm = .int .i64 (Stamp.topOf (zs.take k)) ∧ vi = .int .i64 k) (fun _ t => zs.length - (intOf t).toNat)
  case atStart => exact ⟨0, by omega, rfl, rfl⟩
  case round =>
    obtain ⟨k, hk, rfl, rfl⟩ := hrel
    by_cases hlt : k < zs.length
    · obtain ⟨b, o, hA, hb, hc⟩ := hm.out.at (k := k) (by simpa using hlt)
      obtain rfl := hA
      simp only [List.getElem_map] at hc
      have hts := Lib.hid (Mem.take_snoc (List.getElem?_eq_getElem hlt))
      obtain ⟨x, hx⟩ : ∃ x, zs[k] = x := ⟨_, rfl⟩
      rw [hx] at hc hts
      clear hx
      go_wp2
      go_round
      case rel => exact ⟨k + 1, by omega, by rw [hts.out, Stamp.topOf_snoc], by go_num⟩
      case measure => simp [intOf]; omega
    · obtain rfl : k = zs.length := by omega
      have ht0 := Stamp.topOf_nonneg zs
      have hfull := Lib.hid (show zs.take zs.length = zs from List.take_length)
      by_cases hbig : 1099511627776 ≤ Stamp.topOf zs
      · have HN : Hid (Stamp.nextS dc rng zs = (⟨0, 0, 0⟩, false)) := by
          show Stamp.nextS dc rng zs = _
          unfold Stamp.nextS
          rw [if_neg]
          unfold Stamp.right
          simp only [decide_eq_true_eq]
          omega
        rw [hfull.out]
        go_wp2
        refine bodyPost_ret (v := .tuple #[Stamp.S ⟨0, 0, 0⟩, .bool false]) ?_ rfl ⟨by rw [HN.out], ?_⟩
        · simp [results, Try.results15, go_sem]
        · exact (Below.refl _ _).alloc (Nat.le_refl _) _
      have hmin : min (Stamp.topOf zs) 1099511627776 = Stamp.topOf zs := by omega
      have hhi : Stamp.topOf zs ≤ 1099511627776 := by omega
      cases hrt : Stamp.right ⟨Stamp.topOf zs + 1, dc, rng⟩
      · have HN : Hid (Stamp.nextS dc rng zs = (⟨0, 0, 0⟩, false)) := by show Stamp.nextS dc rng zs = _; unfold Stamp.nextS; rw [hmin, hrt]; rfl
        have hrt' := Lib.hid hrt
        clear hrt hmin
        rw [hfull.out]
        go_wp2_with (go_at_call 11; refine (refRight_any ⟨Stamp.topOf zs + 1, dc, rng⟩ _).mono ?_; rintro e w1 ⟨rfl, hb1⟩; rw [hrt'.out]; obtain ⟨hc1, hf1⟩ := Mem.bcell hb1; have hz1 := hb1.size; simp only [World.size_alloc] at hz1)
        have hB1 := Lib.hid (((Reg.below_new w (.cells #[.int .i64 0, .int .i64 0, .int .i64 0] 23)).alloc (by simp) (.cells #[.int .i64 (Stamp.topOf zs + 1), .int .i64 dc, .int .i64 rng] 23)).trans (hb1.mono (by simp; omega)))
        have k0 : w1.cell? ⟨w.heap.size, 0, none⟩ = some (.int .i64 0) := (hc1 _ _ (by simp; omega)).trans (by simp)
        have k1 : w1.cell? ⟨w.heap.size, 1, none⟩ = some (.int .i64 0) := (hc1 _ _ (by simp; omega)).trans (by simp)
        have k2 : w1.cell? ⟨w.heap.size, 2, none⟩ = some (.int .i64 0) := (hc1 _ _ (by simp; omega)).trans (by simp)
        clear hc1 hf1
        refine bodyPost_ret (v := .tuple #[Stamp.S ⟨0, 0, 0⟩, .bool false]) ?_ rfl ⟨by rw [HN.out], ?_⟩
        · simp [results, Try.results15, go_sem, Mem.set_same, Mem.isSome_set, k0, k1, k2]
        · first | exact hB1.out | exact ((hB1.out.setCell (by simp) _).setCell (by simp) _).setCell (by simp) _
      · have HN : Hid (Stamp.nextS dc rng zs = (⟨Stamp.topOf zs + 1, dc, rng⟩, true)) := by show Stamp.nextS dc rng zs = _; unfold Stamp.nextS; rw [hmin, hrt]; rfl
        have hrt' := Lib.hid hrt
        clear hrt hmin
        rw [hfull.out]
        go_wp2_with (go_at_call 11; refine (refRight_any ⟨Stamp.topOf zs + 1, dc, rng⟩ _).mono ?_; rintro e w1 ⟨rfl, hb1⟩; rw [hrt'.out]; obtain ⟨hc1, hf1⟩ := Mem.bcell hb1; have hz1 := hb1.size; simp only [World.size_alloc] at hz1)
        have hB1 := Lib.hid (((Reg.below_new w (.cells #[.int .i64 0, .int .i64 0, .int .i64 0] 23)).alloc (by simp) (.cells #[.int .i64 (Stamp.topOf zs + 1), .int .i64 dc, .int .i64 rng] 23)).trans (hb1.mono (by simp; omega)))
        have k0 : w1.cell? ⟨w.heap.size, 0, none⟩ = some (.int .i64 0) := (hc1 _ _ (by simp; omega)).trans (by simp)
        have k1 : w1.cell? ⟨w.heap.size, 1, none⟩ = some (.int .i64 0) := (hc1 _ _ (by simp; omega)).trans (by simp)
        have k2 : w1.cell? ⟨w.heap.size, 2, none⟩ = some (.int .i64 0) := (hc1 _ _ (by simp; omega)).trans (by simp)
        clear hc1 hf1
        refine bodyPost_ret (v := .tuple #[Stamp.S ⟨Stamp.topOf zs + 1, dc, rng⟩, .bool true]) ?_ rfl ⟨by rw [HN.out], ?_⟩
        · simp [results, Try.results15, go_sem, Mem.set_same, Mem.isSome_set, k0, k1, k2]
        · first | exact hB1.out | exact ((hB1.out.setCell (by simp) _).setCell (by simp) _).setCell (by simp) _

end Go.Proofs.Ythoklehmbkjkbaa
