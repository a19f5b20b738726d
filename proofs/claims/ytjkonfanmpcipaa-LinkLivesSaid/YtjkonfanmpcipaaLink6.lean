/- The walks of the statements' helpers: the same packets, the same words, able. No conditions. -/
import Derived.Test.YtjkonfanmpcipaaLink5
namespace Go.Proofs.Ytjkonfanmpcipaa
open Go.RowKit
set_option linter.unusedVariables false

theorem neq_pk (p : Link.Pk) (w : World) : (binOp .neq 52 (Link.P p) (Link.P p)).run Try.prog w = .ok (.bool false) w := by
  simp [go_sem]

set_option maxHeartbeats 1000000 in
theorem packets_same {w : World} (l : List Link.Pk) (A B : Option Addr) (ac bc : Nat) (hA : Mem.Rd w w.heap.size A (l.flatMap Link.pkCells)) (hB : Mem.Rd w w.heap.size B (l.flatMap Link.pkCells)) (hn : l.length ≤ maxLen) :
    Calls Try.prog 24 #[.slice A l.length ac, .slice B l.length bc] w fun e w' => e = .returned (.bool true) ∧ Below w.heap.size w w' := by
  unfold maxLen at hn
  have HA := Lib.hid hA
  have HB := Lib.hid hB
  clear hA hB
  go_enter Try.func24, Try.ntmps24
  go_wp2
  go_loopw [5] (fun vi wr => ∃ k : Nat, k ≤ l.length ∧ vi = .int .i64 k ∧ Hid (Below w.heap.size w wr)) (fun t _ => l.length - (intOf t).toNat)
  case atStart => exact ⟨0, by omega, rfl, Below.refl _ _⟩
  case round =>
    obtain ⟨k, hk, rfl, HW⟩ := hrel
    by_cases hlt : k < l.length
    · obtain ⟨b, o, p, rfl, hb, hp, q0, q1, q2, q3, q4⟩ := Link.pk_elem (HA.out.below HW.out) hlt
      obtain ⟨b', o', p', rfl, hb', hp', r0, r1, r2, r3, r4⟩ := Link.pk_elem (HB.out.below HW.out) hlt
      obtain rfl : p = p' := by rw [hp] at hp'; exact Option.some.inj hp'
      have hne := fun W => neq_pk p W
      clear hp hp'
      go_wp2
      go_quiet (fail)
      go_wp2
      go_roundw
      case rel => exact ⟨k + 1, by omega, by go_num, Mem.below_drewN HW.out _⟩
      case measure => simp [intOf]; omega
    · obtain rfl : k = l.length := by omega
      go_wp2
      go_ret
      exact ⟨rfl, HW.out⟩

set_option maxHeartbeats 1000000 in
theorem words_same {w : World} (l : List ByteArray) (A B : Option Addr) (ac bc : Nat) (hA : Mem.Rd w w.heap.size A (l.map Link.strV)) (hB : Mem.Rd w w.heap.size B (l.map Link.strV)) (hn : l.length ≤ maxLen) :
    Calls Try.prog 14 #[.slice A l.length ac, .slice B l.length bc] w fun e w' => e = .returned (.bool true) ∧ Below w.heap.size w w' := by
  unfold maxLen at hn
  have HA := Lib.hid hA
  have HB := Lib.hid hB
  clear hA hB
  go_enter Try.func14, Try.ntmps14
  go_wp2
  go_loopw [5] (fun vi wr => ∃ k : Nat, k ≤ l.length ∧ vi = .int .i64 k ∧ Hid (Below w.heap.size w wr)) (fun t _ => l.length - (intOf t).toNat)
  case atStart => exact ⟨0, by omega, rfl, Below.refl _ _⟩
  case round =>
    obtain ⟨k, hk, rfl, HW⟩ := hrel
    by_cases hlt : k < l.length
    · obtain ⟨b, o, rfl, hb, q0⟩ := (HA.out.below HW.out).at (k := k) (by simpa using hlt)
      obtain ⟨b', o', rfl, hb', r0⟩ := (HB.out.below HW.out).at (k := k) (by simpa using hlt)
      simp only [List.getElem_map] at q0 r0
      go_wp2
      go_quiet (fail)
      go_wp2
      go_roundw
      case rel => exact ⟨k + 1, by omega, by go_num, Mem.below_drewN HW.out _⟩
      case measure => simp [intOf]; omega
    · obtain rfl : k = l.length := by omega
      go_wp2
      go_ret
      exact ⟨rfl, HW.out⟩

namespace Link
theorem At.below {w w' : World} {g : Nat} {A : Option Addr} {c : Nat} {e : E} {B : Nat} (h : At w g A c e) (hb : Below B w w') (h1 : g < B) (h2 : ∀ k, Mem.blk A = some k → k < B) : At w' g A c e :=
  ⟨Mem.Own.below h.box hb (fun k hk => by cases hk; exact h1), h.opn.below hb h2, h.ne⟩
abbrev bx : ByteArray := ⟨#[120]⟩
abbrev byy : ByteArray := ⟨#[121]⟩
end Link
set_option maxHeartbeats 2000000 in
theorem linkAble_any (w : World) : Calls Try.prog 8 #[] w fun e w' => e = .returned (.bool true) ∧ Below w.heap.size w w' := by
  go_enter Try.func8, Try.ntmps8
  go_wp2_with fail
  refine (new_any 1 w w.heap.size rfl).mono ?_
  rintro x w1 ⟨rfl, hA, hb1, hs1⟩
  go_wp2_with fail
  refine (new_any 1 w1 (w.heap.size + 1) hs1).mono ?_
  rintro x w2 ⟨rfl, hB, hb2, hs2⟩
  have HA := Lib.hid (hA.below hb2 (by omega) (fun k hk => by cases hk))
  have HB := Lib.hid hB
  have HW := Lib.hid (hb1.trans (hb2.mono (by omega)))
  have HS := Lib.hid hs2
  clear hA hb1 hs1 hB hb2 hs2
  go_wp2_with fail
  obtain ⟨w3, hw3⟩ : ∃ w3, w2.alloc (Obj.cells #[Value.string { data := #[120] }, Value.string { data := #[121] }] 9) = w3 := ⟨_, rfl⟩
  have k3 : Mem.Keeps (fun _ => False) w2 w3 := by rw [← hw3]; exact (Mem.Keeps.refl _ _).alloc _
  have HA3 := Lib.hid (HA.out.keeps k3 (fun h => h) (fun _ _ h => h))
  have HB3 := Lib.hid (HB.out.keeps k3 (fun h => h) (fun _ _ h => h))
  have HW3 := Lib.hid (HW.out.trans (k3.belowAll.mono HW.out.size))
  have r3 : Mem.Rd w3 (w2.heap.size + 1) (some ⟨w2.heap.size, 0, none⟩) [Link.strV Link.bx, Link.strV Link.byy] := by rw [← hw3]; exact Mem.Rd.alloc_new w2 _ _ _ rfl
  have hz2 := HS.out
  have hz3 : w.heap.size + 3 ≤ w3.heap.size := by rw [← hw3]; simp; omega
  rw [hw3]
  refine (send_any HA3.out (some ⟨w2.heap.size, 0, none⟩) 2 [Link.bx, Link.byy] (fun W hk => r3.keepsAt hk (by omega) (fun k hk => ?_)) (by simp [maxLen]) (by simp) (by simp) (by simp)).mono ?_
  · cases hk
    rintro (h | h)
    · simp only at h; omega
    · cases h
  rintro x w4 ⟨A4, c4, rfl, hA4, hk4, hm4⟩
  have hA4' : Link.At w4 w.heap.size A4 c4 ⟨1, 2, 0, [Link.bx, Link.byy]⟩ := hA4
  have hblk4 : Hid (∀ k, Mem.blk A4 = some k → w.heap.size + 2 ≤ k) := fun k hk => by
    rcases hm4 with h | h
    · rw [h] at hk; cases hk
    · have := h.blk k hk; omega
  have HA4 := Lib.hid hA4'
  have HB4 := Lib.hid (HB3.out.keeps hk4 (by rintro (h | h); omega; cases h) (fun _ h => by cases h))
  have HW4 := Lib.hid (HW3.out.trans (hk4.below (B := w.heap.size) (by rintro k (h | h); omega; cases h) (by omega)))
  have hz4 : w.heap.size + 3 ≤ w4.heap.size := Nat.le_trans hz3 hk4.size
  clear hw3 k3 r3 hz2 hz3 hA4 hA4' hk4 hm4 HA HB HA3 HB3 HW HW3 HS
  go_wp2_with fail
  refine (out_any HA4.out (by simp) (by simp) (by simp)).mono ?_
  rintro x w5 ⟨O, oc, rfl, hO, hb5, hfO⟩
  rw [show Link.out ⟨1, 2, 0, [Link.bx, Link.byy]⟩ = [⟨1, 1, 0, true, Link.bx⟩, ⟨1, 2, 0, true, Link.byy⟩] from rfl] at hO ⊢
  have HA5 := Lib.hid (HA4.out.keeps (Mem.Keeps.of_below hb5) (fun h => h) (fun _ _ h => h))
  have HB5 := Lib.hid (HB4.out.keeps (Mem.Keeps.of_below hb5) (fun h => h) (fun _ _ h => h))
  have HW5 := Lib.hid (HW4.out.trans (hb5.mono (by omega)))
  have hz5 : w.heap.size + 3 ≤ w5.heap.size := Nat.le_trans hz4 hb5.size
  have HO5 := Lib.hid hO
  have HF5 := Lib.hid (hfO.mono (show w.heap.size + 3 ≤ w4.heap.size by omega))
  clear hO hb5 hfO HA4 HB4 HW4 hz4
  go_wp2_with fail
  refine (take_any HB5.out O oc [⟨1, 1, 0, true, Link.bx⟩, ⟨1, 2, 0, true, Link.byy⟩] (fun W hk => HO5.out.rd.keepsAt hk (Nat.le_refl _) (fun k hk h => by have := HF5.out.blk k hk; omega)) (by simp) (Link.Fine.new 1) (by omega)).mono ?_
  rintro x w6 ⟨A6, O6, c6, oc6, rfl, hB6, hO6, hf6, hk6, hm6⟩
  rw [show Link.take ⟨1, 0, 0, []⟩ [⟨1, 1, 0, true, Link.bx⟩, ⟨1, 2, 0, true, Link.byy⟩] = (⟨1, 0, 2, []⟩, [Link.bx, Link.byy]) from by rfl] at *
  have hz6 : w.heap.size + 3 ≤ w6.heap.size := Nat.le_trans hz5 hk6.size
  have hn6 : Mem.blk A6 = none := by rcases hm6 with h | h; exact h; exact h
  have HA6 := Lib.hid (HA5.out.keeps hk6 (fun h => by omega) (fun k hk h => by have := hblk4.out k hk; omega))
  have HB6 := Lib.hid hB6
  have HW6 := Lib.hid (HW5.out.trans (hk6.below (B := w.heap.size) (by rintro k h; omega) (by omega)))
  have HO6 := Lib.hid (HO5.out.keeps hk6 (fun k hk h => by have := HF5.out.blk k hk; omega))
  obtain ⟨gp, op, rfl⟩ := hO6.form (by simp)
  have hgp : w.heap.size + 3 ≤ gp := Nat.le_trans hz5 (hf6 _ rfl)
  have hP6 : Hid (w6.cell? ⟨gp, op + 1, none⟩ = some (.string Link.byy)) := Mem.Own.cell (j := 1) hO6 rfl
  have hP6l : Hid (gp < w6.heap.size) := hO6.lt rfl
  have HN6 := Lib.hid hn6
  clear hB6 hO6 hf6 hk6 hm6 HA5 HB5 HW5 hz5 HO5 hn6
  go_wp2_with fail
  refine (take_any HB6.out O oc [⟨1, 1, 0, true, Link.bx⟩, ⟨1, 2, 0, true, Link.byy⟩] (fun W hk => HO6.out.rd.keepsAt hk (Nat.le_refl _) (fun k hk h => by have := HF5.out.blk k hk; omega)) (by simp) (N := 2) ⟨by simp, by simp, by simp, by simp, by simp, by simp⟩ (by omega)).mono ?_
  rintro x w7 ⟨A7, O7, c7, oc7, rfl, hB7, hO7, hf7, hk7, hm7⟩
  rw [show Link.take ⟨1, 0, 2, []⟩ [⟨1, 1, 0, true, Link.bx⟩, ⟨1, 2, 0, true, Link.byy⟩] = (⟨1, 0, 2, []⟩, []) from by rfl] at *
  have hz7 : w.heap.size + 3 ≤ w7.heap.size := Nat.le_trans hz6 hk7.size
  have hn7 : Mem.blk A7 = none := by rcases hm7 with h | h; exact h.trans HN6.out; exact h
  have HA7 := Lib.hid (HA6.out.keeps hk7 (fun h => by omega) (fun k hk h => by have := hblk4.out k hk; omega))
  have HB7 := Lib.hid hB7
  have HW7 := Lib.hid (HW6.out.trans (hk7.below (B := w.heap.size) (by rintro k h; omega) (by omega)))
  have hP7 : Hid (w7.cell? ⟨gp, op + 1, none⟩ = some (.string Link.byy)) := (hk7.cell (p := ⟨gp, op + 1, none⟩) hP6l.out (fun h => by simp only at h; omega)).trans hP6.out
  have hP7l : Hid (gp < w7.heap.size) := Nat.lt_of_lt_of_le hP6l.out hk7.size
  have HN7 := Lib.hid hn7
  clear hB7 hO7 hf7 hk7 hm7 HA6 HB6 HW6 hz6 HO6 hn7 hP6 hP6l HN6 HF5
  go_wp2_with fail
  refine (out_any HB7.out (by simp) (by simp) (by simp)).mono ?_
  rintro x w8 ⟨O8, oc8, rfl, hO8, hb8, hf8⟩
  rw [show Link.out ⟨1, 0, 2, []⟩ = [⟨1, 0, 2, false, ByteArray.empty⟩] from rfl] at hO8 ⊢
  have hz8 : w.heap.size + 3 ≤ w8.heap.size := Nat.le_trans hz7 hb8.size
  have HA8 := Lib.hid (HA7.out.keeps (Mem.Keeps.of_below hb8) (fun h => h) (fun _ _ h => h))
  have HB8 := Lib.hid (HB7.out.keeps (Mem.Keeps.of_below hb8) (fun h => h) (fun _ _ h => h))
  have HW8 := Lib.hid (HW7.out.trans (hb8.mono (by omega)))
  have HO8 := Lib.hid hO8
  have HF8 := Lib.hid (hf8.mono (show w.heap.size + 3 ≤ w7.heap.size by omega))
  have hP8 : Hid (w8.cell? ⟨gp, op + 1, none⟩ = some (.string Link.byy)) := (hb8.cell (p := ⟨gp, op + 1, none⟩) hP7l.out).trans hP7.out
  have hP8l : Hid (gp < w8.heap.size) := Nat.lt_of_lt_of_le hP7l.out hb8.size
  clear hO8 hf8 hb8 HA7 HB7 HW7 hz7 hP7 hP7l
  go_wp2_with fail
  refine (take_any HA8.out O8 oc8 [⟨1, 0, 2, false, ByteArray.empty⟩] (fun W hk => HO8.out.rd.keepsAt hk (Nat.le_refl _) (fun k hk h => by have := HF8.out.blk k hk; omega)) (by simp) (N := 2) ⟨by simp, by simp, by simp, by simp, by simp, by simp⟩ (by omega)).mono ?_
  rintro x w9 ⟨A9, O9, c9, oc9, rfl, hA9, hO9, hf9, hk9, hm9⟩
  rw [show Link.take ⟨1, 2, 0, [Link.bx, Link.byy]⟩ [⟨1, 0, 2, false, ByteArray.empty⟩] = (⟨1, 2, 0, []⟩, []) from by rfl] at *
  have HA9 := Lib.hid hA9
  have HB9 := Lib.hid (HB8.out.keeps hk9 (fun h => by omega) (fun k hk h => by rw [HN7.out] at hk; cases hk))
  have HW9 := Lib.hid (HW8.out.trans (hk9.below (B := w.heap.size) (by rintro k h; omega) (by omega)))
  have hP9 : w9.cell? ⟨gp, op + 1, none⟩ = some (.string Link.byy) := (hk9.cell (p := ⟨gp, op + 1, none⟩) hP8l.out (fun h => by simp only at h; omega)).trans hP8.out
  clear hA9 hO9 hf9 hk9 hm9 HA8 HB8 HW8 hz8 hP8 hP8l HN7
  have ho := open_any HA9.out.box
  have hg := got_any HB9.out.box
  have HOp := Lib.hid ho
  have HGo := Lib.hid hg
  clear ho hg
  go_wp2_with fail
  refine HOp.out.mono ?_
  rintro x w10 ⟨rfl, rfl⟩
  go_wp2_with fail
  refine HGo.out.mono ?_
  rintro x w10 ⟨rfl, rfl⟩
  go_wp2
  go_ret
  exact ⟨rfl, HW9.out⟩
end Go.Proofs.Ytjkonfanmpcipaa
