/- The order of stamps: cmp.Compare, cmp.Or, stamp.Cmp. No conditions. -/
import Derived.Test.YtfafehffnjbhnaaReg
import Derived.Deep.QuietTactic
import Derived.BigQuiet
namespace Go.Proofs.Ytfafehffnjbhnaa
open Go.RowKit
set_option linter.unusedVariables false
set_option linter.unusedSimpArgs false

namespace Stamp
/-- a stamp -/
structure St where
  c : Int
  d : Int
  r : Int
/-- a stamp's value -/
abbrev S (s : St) : Value := .agg #[.int .i64 s.c, .int .i64 s.d, .int .i64 s.r]
def right (s : St) : Bool := decide (1 ≤ s.c ∧ s.c ≤ 1099511627776 ∧ 0 ≤ s.d ∧ s.d < 3 ∧ 0 ≤ s.r ∧ s.r < 3)
def cmpI (x y : Int) : Int := if x < y then -1 else if y < x then 1 else 0
/-- the first number that is not 0 -/
def firstNZ : List Int → Int
  | [] => 0
  | x :: l => if x = 0 then firstNZ l else x
def cmpS (a b : St) : Int := firstNZ [cmpI a.c b.c, cmpI a.d b.d, cmpI a.r b.r]
theorem cmpI_lo (x y : Int) : -1 ≤ cmpI x y := by unfold cmpI; split <;> (try split) <;> omega
theorem cmpI_hi (x y : Int) : cmpI x y ≤ 1 := by unfold cmpI; split <;> (try split) <;> omega
theorem firstNZ_take (l : List Int) (k : Nat) (x : Int) (hk : l[k]? = some x) (h0 : ∀ j, j < k → ∀ y, l[j]? = some y → y = 0) (hx : x ≠ 0) : firstNZ l = x := by
  induction l generalizing k with
  | nil => simp at hk
  | cons a l ih =>
    cases k with
    | zero => simp at hk; subst hk; simp [firstNZ, hx]
    | succ k =>
      have ha := h0 0 (by omega) a rfl
      subst ha
      simp only [firstNZ, if_true]
      exact ih k (by simpa using hk) (fun j hj y hy => h0 (j + 1) (by omega) y (by simpa using hy))
theorem firstNZ_none (l : List Int) (h0 : ∀ j, j < l.length → ∀ y, l[j]? = some y → y = 0) : firstNZ l = 0 := by
  induction l with
  | nil => rfl
  | cons a l ih =>
    have ha := h0 0 (by simp) a rfl
    subst ha
    simp only [firstNZ, if_true]
    exact ih fun j hj y hy => h0 (j + 1) (by simp; omega) y (by simpa using hy)
/-- a number in a cell -/
abbrev intV (n : Int) : Value := .int .i64 n
end Stamp

theorem compare_any (x y : Int) (w : World) :
    Calls Try.prog 35 #[.int .i64 x, .int .i64 y] w fun e w' => e = .returned (.int .i64 (Stamp.cmpI x y)) ∧ w = w' := by
  rcases Int.lt_trichotomy x y with h | h | h
  · go_enter Try.func35, Try.ntmps35
    go_wp2
    go_ret
    exact ⟨by show Ending.returned (.int .i64 (-1)) = _; rw [Stamp.cmpI, if_pos h], rfl⟩
  · subst h
    go_enter Try.func35, Try.ntmps35
    go_wp2
    go_ret
    exact ⟨by show Ending.returned (.int .i64 0) = _; rw [Stamp.cmpI, if_neg (by omega), if_neg (by omega)], rfl⟩
  · have h' : ¬ x < y := by omega
    go_enter Try.func35, Try.ntmps35
    go_wp2
    go_ret
    exact ⟨by show Ending.returned (.int .i64 1) = _; rw [Stamp.cmpI, if_neg (by omega), if_pos h], rfl⟩

set_option maxHeartbeats 400000 in
theorem or_any (A : Option Addr) (c : Nat) (zs : List Int) (B : Nat) (w : World) (hr : Mem.Rd w B A (zs.map Stamp.intV)) (hn : zs.length ≤ maxLen) :
    Calls Try.prog 33 #[.slice A zs.length c] w fun e w' => e = .returned (.int .i64 (Stamp.firstNZ zs)) ∧ w = w' := by
  unfold maxLen at hn
  have hm := Lib.hid hr
  clear hr
  go_enter Try.func33, Try.ntmps33
  go_wp2
  go_loop [8] (fun vi => ∃ (k : Nat), k ≤ zs.length ∧ vi = .int .i64 k ∧ Hid (∀ j, j < k → ∀ y, zs[j]? = some y → y = 0)) (fun t => zs.length - (intOf t).toNat)
  case atStart => exact ⟨0, by omega, rfl, fun j hj => by omega⟩
  case round =>
    obtain ⟨k, hk, rfl, H⟩ := hrel
    by_cases hlt : k < zs.length
    · obtain ⟨b, o, hA, hb, hc⟩ := hm.out.at (k := k) (by simpa using hlt)
      obtain rfl := hA
      simp only [List.getElem_map] at hc
      obtain ⟨x, hx⟩ : ∃ x, zs[k] = x := ⟨_, rfl⟩
      rw [hx] at hc
      have hx' := Lib.hid hx
      clear hx
      by_cases h0 : x = 0
      · have ht : (x != 0) = false := by simp [h0]
        have h0' := Lib.hid h0
        clear h0
        go_wp2
        go_round
        case rel =>
          refine ⟨k + 1, by omega, by go_num, ?_⟩
          intro j hj y hy
          by_cases hjk : j = k
          · subst hjk
            rw [List.getElem?_eq_getElem hlt, hx'.out] at hy
            cases hy; exact h0'.out
          · exact H.out j (by omega) y hy
        case measure => simp [intOf]; omega
      · have ht : (x != 0) = true := by simp [h0]
        have h0' := Lib.hid h0
        clear h0
        go_wp2
        go_ret
        exact ⟨by show Ending.returned (.int .i64 x) = _; rw [Stamp.firstNZ_take zs k x (by rw [List.getElem?_eq_getElem hlt, hx'.out]) H.out h0'.out], rfl⟩
    · obtain rfl : k = zs.length := by omega
      go_wp2
      go_ret
      exact ⟨by show Ending.returned (.int .i64 0) = _; rw [Stamp.firstNZ_none zs H.out], rfl⟩

set_option maxHeartbeats 2000000 in
theorem cmp_any (a b : Stamp.St) (w : World) :
    Calls Try.prog 34 #[Stamp.S a, Stamp.S b] w fun e w' => e = .returned (.int .i64 (Stamp.cmpS a b)) ∧ Below w.heap.size w w' := by
  have HB : Below w.heap.size w ((w.alloc (.cells #[.int .i64 a.c, .int .i64 a.d, .int .i64 a.r] 36)).alloc (.cells #[.int .i64 b.c, .int .i64 b.d, .int .i64 b.r] 36)) := (Reg.below_new _ _).alloc (by simp) _
  have HB' := Lib.hid HB
  clear HB
  go_enter Try.func34, Try.ntmps34
  go_wp2
  refine Reg.wp_region_rel (by kernel_rfl) 22 18 rfl rfl (by kernel_rfl) (Reg.Adds) (Reg.Adds.refl) (Reg.Adds.trans)
    (fun i v u => match i with
      | 0 => v = .pointer (some ⟨w.heap.size, 0, none⟩)
      | 1 => v = .int .i64 a.c
      | 2 => v = .pointer (some ⟨w.heap.size + 1, 0, none⟩)
      | 3 => v = .int .i64 b.c
      | 4 => v = .int .i64 (Stamp.cmpI a.c b.c)
      | 5 => v = .pointer (some ⟨w.heap.size, 1, none⟩)
      | 6 => v = .int .i64 a.d
      | 7 => v = .pointer (some ⟨w.heap.size + 1, 1, none⟩)
      | 8 => v = .int .i64 b.d
      | 9 => v = .int .i64 (Stamp.cmpI a.d b.d)
      | 10 => v = .pointer (some ⟨w.heap.size, 2, none⟩)
      | 11 => v = .int .i64 a.r
      | 12 => v = .pointer (some ⟨w.heap.size + 1, 2, none⟩)
      | 13 => v = .int .i64 b.r
      | 14 => v = .int .i64 (Stamp.cmpI a.r b.r)
      | 15 => ∃ s, v = .slice (some ⟨s, 0, none⟩) 3 3 ∧ Mem.Rd u (s + 1) (some ⟨s, 0, none⟩) ([Stamp.cmpI a.c b.c, Stamp.cmpI a.d b.d, Stamp.cmpI a.r b.r].map Stamp.intV) ∧ s + 1 ≤ u.heap.size
      | 16 => v = .int .i64 (Stamp.cmpS a b)
      | 17 => v = .int .i64 (Stamp.cmpS a b)
      | _ => True) ?_ ?_
  · refine Reg.Steps.cons ?_ (Reg.Steps.cons ?_ (Reg.Steps.cons ?_ (Reg.Steps.cons ?_ (Reg.Steps.cons ?_ (Reg.Steps.cons ?_ (Reg.Steps.cons ?_ (Reg.Steps.cons ?_ (Reg.Steps.cons ?_ (Reg.Steps.cons ?_ (Reg.Steps.cons ?_ (Reg.Steps.cons ?_ (Reg.Steps.cons ?_ (Reg.Steps.cons ?_ (Reg.Steps.cons ?_ (Reg.Steps.cons ?_ (Reg.Steps.cons ?_ (Reg.Steps.cons ?_ (Reg.Steps.nil _))))))))))))))))))
    · intro val ac u hR hp ha K hK
      have e2 : (ac.tmps[2]?).getD undef = .pointer (some ⟨w.heap.size, 0, none⟩) := ha 2 (by decide); clear ha hp
      refine Reg.Op1.plain rfl ?_
      go_wp2
      exact ⟨rfl, hK _ _ rfl (fun j k _ _ => Reg.Adds.refl _ _ _)⟩
    · intro val ac u hR hp ha K hK
      obtain ⟨w5, h5, r5⟩ := hp 0 (by decide); have e5 : (ac.tmps[5]?).getD undef = .pointer (some ⟨w.heap.size, 0, none⟩) := (ha 5 (by decide)).trans h5; clear h5 ha hp
      have hc0 : u.cell? ⟨w.heap.size, 0, none⟩ = some (.int .i64 a.c) := (hR.cell (p := ⟨w.heap.size, 0, none⟩) (by simp; try omega)).trans (by show World.cell? _ _ = _; first | (simp; done) | (refine Reg.cell_up ?_ _; simp; done) | (refine Reg.cell_up (Reg.cell_up ?_ _) _; simp; done) | (refine Reg.cell_up (Reg.cell_up (Reg.cell_up ?_ _) _) _; simp; done))
      refine Reg.Op1.plain rfl ?_
      go_wp2
      exact ⟨rfl, hK _ _ rfl (fun j k _ _ => Reg.Adds.refl _ _ _)⟩
    · intro val ac u hR hp ha K hK
      have e3 : (ac.tmps[3]?).getD undef = .pointer (some ⟨w.heap.size + 1, 0, none⟩) := ha 3 (by decide); clear ha hp
      refine Reg.Op1.plain rfl ?_
      go_wp2
      exact ⟨rfl, hK _ _ rfl (fun j k _ _ => Reg.Adds.refl _ _ _)⟩
    · intro val ac u hR hp ha K hK
      obtain ⟨w7, h7, r7⟩ := hp 2 (by decide); have e7 : (ac.tmps[7]?).getD undef = .pointer (some ⟨w.heap.size + 1, 0, none⟩) := (ha 7 (by decide)).trans h7; clear h7 ha hp
      have hc0 : u.cell? ⟨w.heap.size + 1, 0, none⟩ = some (.int .i64 b.c) := (hR.cell (p := ⟨w.heap.size + 1, 0, none⟩) (by simp; try omega)).trans (by show World.cell? _ _ = _; first | (simp; done) | (refine Reg.cell_up ?_ _; simp; done) | (refine Reg.cell_up (Reg.cell_up ?_ _) _; simp; done) | (refine Reg.cell_up (Reg.cell_up (Reg.cell_up ?_ _) _) _; simp; done))
      refine Reg.Op1.plain rfl ?_
      go_wp2
      exact ⟨rfl, hK _ _ rfl (fun j k _ _ => Reg.Adds.refl _ _ _)⟩
    · intro val ac u hR hp ha K hK
      obtain ⟨w6, h6, r6⟩ := hp 1 (by decide); have e6 : (ac.tmps[6]?).getD undef = .int .i64 a.c := (ha 6 (by decide)).trans h6; obtain ⟨w8, h8, r8⟩ := hp 3 (by decide); have e8 : (ac.tmps[8]?).getD undef = .int .i64 b.c := (ha 8 (by decide)).trans h8; clear h6 h8 ha hp
      refine Reg.Op1.plain rfl ?_
      go_wp2_with fail
      refine (compare_any _ _ _).mono ?_
      rintro e w' ⟨rfl, rfl⟩
      go_wp2_with fail
      exact ⟨rfl, hK _ _ rfl (fun j k _ _ => Reg.Adds.refl _ _ _)⟩
    · intro val ac u hR hp ha K hK
      have e2 : (ac.tmps[2]?).getD undef = .pointer (some ⟨w.heap.size, 0, none⟩) := ha 2 (by decide); clear ha hp
      refine Reg.Op1.plain rfl ?_
      go_wp2
      exact ⟨rfl, hK _ _ rfl (fun j k _ _ => Reg.Adds.refl _ _ _)⟩
    · intro val ac u hR hp ha K hK
      obtain ⟨w10, h10, r10⟩ := hp 5 (by decide); have e10 : (ac.tmps[10]?).getD undef = .pointer (some ⟨w.heap.size, 1, none⟩) := (ha 10 (by decide)).trans h10; clear h10 ha hp
      have hc0 : u.cell? ⟨w.heap.size, 1, none⟩ = some (.int .i64 a.d) := (hR.cell (p := ⟨w.heap.size, 1, none⟩) (by simp; try omega)).trans (by show World.cell? _ _ = _; first | (simp; done) | (refine Reg.cell_up ?_ _; simp; done) | (refine Reg.cell_up (Reg.cell_up ?_ _) _; simp; done) | (refine Reg.cell_up (Reg.cell_up (Reg.cell_up ?_ _) _) _; simp; done))
      refine Reg.Op1.plain rfl ?_
      go_wp2
      exact ⟨rfl, hK _ _ rfl (fun j k _ _ => Reg.Adds.refl _ _ _)⟩
    · intro val ac u hR hp ha K hK
      have e3 : (ac.tmps[3]?).getD undef = .pointer (some ⟨w.heap.size + 1, 0, none⟩) := ha 3 (by decide); clear ha hp
      refine Reg.Op1.plain rfl ?_
      go_wp2
      exact ⟨rfl, hK _ _ rfl (fun j k _ _ => Reg.Adds.refl _ _ _)⟩
    · intro val ac u hR hp ha K hK
      obtain ⟨w12, h12, r12⟩ := hp 7 (by decide); have e12 : (ac.tmps[12]?).getD undef = .pointer (some ⟨w.heap.size + 1, 1, none⟩) := (ha 12 (by decide)).trans h12; clear h12 ha hp
      have hc0 : u.cell? ⟨w.heap.size + 1, 1, none⟩ = some (.int .i64 b.d) := (hR.cell (p := ⟨w.heap.size + 1, 1, none⟩) (by simp; try omega)).trans (by show World.cell? _ _ = _; first | (simp; done) | (refine Reg.cell_up ?_ _; simp; done) | (refine Reg.cell_up (Reg.cell_up ?_ _) _; simp; done) | (refine Reg.cell_up (Reg.cell_up (Reg.cell_up ?_ _) _) _; simp; done))
      refine Reg.Op1.plain rfl ?_
      go_wp2
      exact ⟨rfl, hK _ _ rfl (fun j k _ _ => Reg.Adds.refl _ _ _)⟩
    · intro val ac u hR hp ha K hK
      obtain ⟨w11, h11, r11⟩ := hp 6 (by decide); have e11 : (ac.tmps[11]?).getD undef = .int .i64 a.d := (ha 11 (by decide)).trans h11; obtain ⟨w13, h13, r13⟩ := hp 8 (by decide); have e13 : (ac.tmps[13]?).getD undef = .int .i64 b.d := (ha 13 (by decide)).trans h13; clear h11 h13 ha hp
      refine Reg.Op1.plain rfl ?_
      go_wp2_with fail
      refine (compare_any _ _ _).mono ?_
      rintro e w' ⟨rfl, rfl⟩
      go_wp2_with fail
      exact ⟨rfl, hK _ _ rfl (fun j k _ _ => Reg.Adds.refl _ _ _)⟩
    · intro val ac u hR hp ha K hK
      have e2 : (ac.tmps[2]?).getD undef = .pointer (some ⟨w.heap.size, 0, none⟩) := ha 2 (by decide); clear ha hp
      refine Reg.Op1.plain rfl ?_
      go_wp2
      exact ⟨rfl, hK _ _ rfl (fun j k _ _ => Reg.Adds.refl _ _ _)⟩
    · intro val ac u hR hp ha K hK
      obtain ⟨w15, h15, r15⟩ := hp 10 (by decide); have e15 : (ac.tmps[15]?).getD undef = .pointer (some ⟨w.heap.size, 2, none⟩) := (ha 15 (by decide)).trans h15; clear h15 ha hp
      have hc0 : u.cell? ⟨w.heap.size, 2, none⟩ = some (.int .i64 a.r) := (hR.cell (p := ⟨w.heap.size, 2, none⟩) (by simp; try omega)).trans (by show World.cell? _ _ = _; first | (simp; done) | (refine Reg.cell_up ?_ _; simp; done) | (refine Reg.cell_up (Reg.cell_up ?_ _) _; simp; done) | (refine Reg.cell_up (Reg.cell_up (Reg.cell_up ?_ _) _) _; simp; done))
      refine Reg.Op1.plain rfl ?_
      go_wp2
      exact ⟨rfl, hK _ _ rfl (fun j k _ _ => Reg.Adds.refl _ _ _)⟩
    · intro val ac u hR hp ha K hK
      have e3 : (ac.tmps[3]?).getD undef = .pointer (some ⟨w.heap.size + 1, 0, none⟩) := ha 3 (by decide); clear ha hp
      refine Reg.Op1.plain rfl ?_
      go_wp2
      exact ⟨rfl, hK _ _ rfl (fun j k _ _ => Reg.Adds.refl _ _ _)⟩
    · intro val ac u hR hp ha K hK
      obtain ⟨w17, h17, r17⟩ := hp 12 (by decide); have e17 : (ac.tmps[17]?).getD undef = .pointer (some ⟨w.heap.size + 1, 2, none⟩) := (ha 17 (by decide)).trans h17; clear h17 ha hp
      have hc0 : u.cell? ⟨w.heap.size + 1, 2, none⟩ = some (.int .i64 b.r) := (hR.cell (p := ⟨w.heap.size + 1, 2, none⟩) (by simp; try omega)).trans (by show World.cell? _ _ = _; first | (simp; done) | (refine Reg.cell_up ?_ _; simp; done) | (refine Reg.cell_up (Reg.cell_up ?_ _) _; simp; done) | (refine Reg.cell_up (Reg.cell_up (Reg.cell_up ?_ _) _) _; simp; done))
      refine Reg.Op1.plain rfl ?_
      go_wp2
      exact ⟨rfl, hK _ _ rfl (fun j k _ _ => Reg.Adds.refl _ _ _)⟩
    · intro val ac u hR hp ha K hK
      obtain ⟨w16, h16, r16⟩ := hp 11 (by decide); have e16 : (ac.tmps[16]?).getD undef = .int .i64 a.r := (ha 16 (by decide)).trans h16; obtain ⟨w18, h18, r18⟩ := hp 13 (by decide); have e18 : (ac.tmps[18]?).getD undef = .int .i64 b.r := (ha 18 (by decide)).trans h18; clear h16 h18 ha hp
      refine Reg.Op1.plain rfl ?_
      go_wp2_with fail
      refine (compare_any _ _ _).mono ?_
      rintro e w' ⟨rfl, rfl⟩
      go_wp2_with fail
      exact ⟨rfl, hK _ _ rfl (fun j k _ _ => Reg.Adds.refl _ _ _)⟩
    · intro val ac u hR hp ha K hK
      obtain ⟨w9, h9, r9⟩ := hp 4 (by decide); have e9 : (ac.tmps[9]?).getD undef = .int .i64 (Stamp.cmpI a.c b.c) := (ha 9 (by decide)).trans h9; obtain ⟨w14, h14, r14⟩ := hp 9 (by decide); have e14 : (ac.tmps[14]?).getD undef = .int .i64 (Stamp.cmpI a.d b.d) := (ha 14 (by decide)).trans h14; obtain ⟨w19, h19, r19⟩ := hp 14 (by decide); have e19 : (ac.tmps[19]?).getD undef = .int .i64 (Stamp.cmpI a.r b.r) := (ha 19 (by decide)).trans h19; clear h9 h14 h19 ha hp
      refine Reg.Op1.plain rfl ?_
      go_wp2
      exact ⟨rfl, hK _ _ ⟨u.heap.size, rfl, Mem.Rd.alloc_new u _ _ _ rfl, by simp⟩ (fun j k _ _ => Reg.below_new _ _)⟩
    · intro val ac u hR hp ha K hK
      obtain ⟨w20, h20, r20⟩ := hp 15 (by decide); have e20 : (ac.tmps[20]?).getD undef = val 15 := ha 20 (by decide); clear ha hp
      refine Reg.Op1.plain rfl ?_
      obtain ⟨s, hv, hb, hs⟩ := h20
      rw [hv] at e20
      go_wp2_with fail
      refine (or_any (some ⟨s, 0, none⟩) 3 [Stamp.cmpI a.c b.c, Stamp.cmpI a.d b.d, Stamp.cmpI a.r b.r] (s + 1) u (hb.below (r20.mono hs)) (by simp [maxLen])).mono ?_
      rintro e w' ⟨rfl, rfl⟩
      go_wp2_with fail
      exact ⟨rfl, hK _ _ rfl (fun j k _ _ => Reg.Adds.refl _ _ _)⟩
    · intro val ac u hR hp ha K hK
      obtain ⟨w21, h21, r21⟩ := hp 16 (by decide); have e21 : (ac.tmps[21]?).getD undef = .int .i64 (Stamp.cmpS a b) := (ha 21 (by decide)).trans h21; clear h21 ha hp
      refine Reg.Op1.plain rfl ?_
      go_wp2
      exact ⟨rfl, hK _ _ rfl (fun j k _ _ => Reg.Adds.refl _ _ _)⟩
  · intro val u hR H
    obtain ⟨w21, hv, hr⟩ := H 17 (by decide)
    have hv : val 17 = .int .i64 (Stamp.cmpS a b) := hv
    simp only [List.map_cons, List.map_nil, Reg.lay, Act.put, List.setIfInBounds_toArray, List.set_cons_succ, List.set_cons_zero, Nat.reduceAdd, hv]
    have HB2 := Lib.hid (HB'.out.drew.trans (Below.mono hR (by simp; omega)))
    clear hv hr H hR
    go_wp2
    go_ret
    exact ⟨rfl, HB2.out⟩
end Go.Proofs.Ytfafehffnjbhnaa
