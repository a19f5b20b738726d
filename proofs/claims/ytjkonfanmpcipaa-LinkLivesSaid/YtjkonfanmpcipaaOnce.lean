/- The walk of LinkOnce. No conditions. -/
import Derived.Test.YtjkonfanmpcipaaWorld3
namespace Go.Proofs.Ytjkonfanmpcipaa
open Go.ChangeShapes Go.WideShapes Go.ChangeAt Go.RowKit
set_option linter.unusedVariables false

theorem quiet1_open {w : World} {g : Nat} {life sent got : Int} {A : Option Addr} {n c : Nat} (h : Link.Cell w g life sent got A n c) (m : Nat) :
    Calls Try.prog 15 #[.pointer (some ⟨g, 0, none⟩)] (w.drewN m) fun e w' => e = .returned (.int .i64 n) ∧ ∃ m, w' = w.drewN m :=
  (open_any (w := w.drewN m) h).mono fun _ _ h => ⟨h.1, m, h.2.symm⟩
theorem quiet1_sent {w : World} {g : Nat} {life sent got : Int} {A : Option Addr} {n c : Nat} (h : Link.Cell w g life sent got A n c) (m : Nat) :
    Calls Try.prog 18 #[.pointer (some ⟨g, 0, none⟩)] (w.drewN m) fun e w' => e = .returned (.int .i64 sent) ∧ ∃ m, w' = w.drewN m :=
  (sent_any (w := w.drewN m) h).mono fun _ _ h => ⟨h.1, m, h.2.symm⟩
theorem quiet1_got {w : World} {g : Nat} {life sent got : Int} {A : Option Addr} {n c : Nat} (h : Link.Cell w g life sent got A n c) (m : Nat) :
    Calls Try.prog 17 #[.pointer (some ⟨g, 0, none⟩)] (w.drewN m) fun e w' => e = .returned (.int .i64 got) ∧ ∃ m, w' = w.drewN m :=
  (got_any (w := w.drewN m) h).mono fun _ _ h => ⟨h.1, m, h.2.symm⟩
theorem quiet1_life {w : World} {g : Nat} {life sent got : Int} {A : Option Addr} {n c : Nat} (h : Link.Cell w g life sent got A n c) (m : Nat) :
    Calls Try.prog 19 #[.pointer (some ⟨g, 0, none⟩)] (w.drewN m) fun e w' => e = .returned (.int .i64 life) ∧ ∃ m, w' = w.drewN m :=
  (life_any (w := w.drewN m) h).mono fun _ _ h => ⟨h.1, m, h.2.symm⟩
namespace Link
/-- acts and pieces -/
def len1 (acs : List Ac) : Nat := (acs.map fun a => 1 + a.data.length).sum
theorem len1_snoc (acs : List Ac) (a : Ac) : len1 (acs ++ [a]) = len1 acs + (1 + a.data.length) := by simp [len1]
theorem len1_le : ∀ acs : List Ac, len1 acs ≤ acs.length + costsA acs
  | [] => by simp [len1]
  | a :: acs => by have := len1_le acs; have := costS_len a.data; simp only [len1, costsA, List.map_cons, List.sum_cons, List.length_cons] at *; omega
theorem len1_take (acs : List Ac) (k : Nat) : len1 (acs.take k) ≤ len1 acs := by
  have h : len1 acs = len1 (acs.take k) + len1 (acs.drop k) := by
    conv => lhs; rw [← List.take_append_drop k acs]
    unfold len1
    rw [List.map_append, List.sum_append]
  omega
def pl0 (ga gb : Nat) : Pl := ⟨fun i => if i = 0 then ga else gb, fun _ => none, fun _ => 0, fun _ => none, fun _ => 0⟩
def lab0 (n g ga gb : Nat) : Nat → Nat := fun q => if q < n then 11 else if q = g then 10 else if q = ga then 0 else if q = gb then 1 else 12
theorem WL.start {w w3 : World} {g ga gb : Nat} (hb : Mem.Own w3 31 8 (some ⟨g, 0, none⟩) 1 1 (wCells (pl0 ga gb) ws0)) (hA : At w3 ga none 0 ⟨1, 0, 0, []⟩) (hB : At w3 gb none 0 ⟨1, 0, 0, []⟩) (hbl : Below w.heap.size w w3)
    (h1 : w.heap.size ≤ ga) (h2 : w.heap.size ≤ gb) (h3 : w.heap.size ≤ g) (h4 : g ≠ ga) (h5 : g ≠ gb) (h6 : ga ≠ gb) : WL w w3 g (pl0 ga gb) ws0 (lab0 w.heap.size g ga gb) := by
  refine ⟨hb, ?_, fun i _ _ => Mem.Own.nil _ _ _, fun i _ _ => Mem.Own.nil _ _ _, ?_, ?_, (fun i _ q hq => by cases hq), (fun i _ _ q hq => by cases hq), (fun q hq => if_pos hq), hbl⟩
  · intro i hi
    have : i = 0 ∨ i = 1 := by omega
    rcases this with rfl | rfl
    · exact hA
    · exact hB
  · unfold lab0; rw [if_neg (by omega), if_pos rfl]
  · intro i hi
    have : i = 0 ∨ i = 1 := by omega
    rcases this with rfl | rfl
    · show lab0 _ _ _ _ ga = 0
      unfold lab0; rw [if_neg (by omega), if_neg (by omega), if_pos rfl]
    · show lab0 _ _ _ _ gb = 1
      unfold lab0; rw [if_neg (by omega), if_neg (by omega), if_neg (by omega), if_pos rfl]
theorem lose_len (s : WS) (f k : Nat) (t : Bool) (i : Nat) : ((lose s f k t).pk i).length ≤ (s.pk i).length := by
  unfold lose
  split
  · exact Nat.le_refl _
  · unfold upd
    simp only
    split
    · rename_i e; subst e; rw [List.length_append, List.length_take, List.length_drop]; omega
    · exact Nat.le_refl _
theorem comeAt_len (s : WS) (a : Ac) (i f o k j : Nat) : ((comeAt s a i f o k).pk j).length ≤ (s.pk j).length := by
  unfold comeAt
  split
  · exact Nat.le_refl _
  · split
    · exact lose_len s f k a.twice j
    · exact lose_len s f k a.twice j
theorem step_pk {s : WS} {N : Nat} {a : Ac} (h : Bd s N) : ((stepW s a).pk 2).length + ((stepW s a).pk 3).length ≤ (s.pk 2).length + (s.pk 3).length + 8 := by
  unfold stepW
  split
  · show (s.pk 2).length + (s.pk 3).length ≤ _; omega
  split
  · show (s.pk 2).length + (s.pk 3).length ≤ _; omega
  split
  · have := out_len (s.e 0) (h.fe 0 (by omega)).o8
    show (s.pk 2).length + (s.pk 3 ++ out (s.e 0)).length ≤ _
    rw [List.length_append]; omega
  split
  · have := out_len (s.e 1) (h.fe 1 (by omega)).o8
    show (s.pk 2 ++ out (s.e 1)).length + (s.pk 3).length ≤ _
    rw [List.length_append]; omega
  split
  · unfold comeW
    split
    · omega
    split
    · have := comeAt_len s a 0 2 6 (comeK s a.n) 2; have := comeAt_len s a 0 2 6 (comeK s a.n) 3; omega
    · have := comeAt_len s a 1 3 7 (comeK s a.n - (s.pk 2).length) 2; have := comeAt_len s a 1 3 7 (comeK s a.n - (s.pk 2).length) 3; omega
  · omega
structure ORel (w : World) (g : Nat) (acs : List Ac) (vi : Value) (wr : World) : Prop where
  out : ∃ (k : Nat) (p : Pl) (s : WS) (lab : Nat → Nat), k ≤ acs.length ∧ vi = .int .i64 k ∧ Hid (WL w wr g p s lab) ∧ Hid (Good s) ∧ Hid (Bd s (len1 (acs.take k))) ∧ (s.pk 2).length + (s.pk 3).length ≤ 600
end Link
namespace linkOnceOpen
open Link
set_option maxRecDepth 100000 in
set_option maxHeartbeats 8000000 in
theorem walk (A : Option Addr) (c : Nat) (acs : List Ac) (w : World) (hr : Mem.Rd w w.heap.size A (acs.flatMap acCells)) (hn : acs.length ≤ 8796093022208) (hd : ∀ a ∈ acs, AcIn w a) :
    Calls Try.prog 4 #[.slice A acs.length c] w fun e w' => e = .returned (.bool true) ∧ Below w.heap.size w w' := by
  have HR := Lib.hid hr
  have HD := Lib.hid hd
  clear hr hd
  go_enter Try.func4, Try.ntmps4
  go_wp2_with fail
  refine (linkAble_any w).mono ?_
  rintro x w1 ⟨rfl, hb1⟩
  have HB1 := Lib.hid hb1
  clear hb1
  go_wp2_with fail
  refine (much_any A c acs HR.out (by omega) HD.out HB1.out).mono ?_
  rintro x w2 ⟨b, rfl, hbn, hb2⟩
  have HB2 := Lib.hid (HB1.out.trans (hb2.mono HB1.out.size))
  clear hb2
  cases b
  case true =>
    clear hbn
    go_wp2
    go_ret
    exact ⟨rfl, HB2.out⟩
  case false =>
  have HC : Hid (len1 acs ≤ 2000) := by have := hbn rfl; have := len1_le acs; show _ ≤ _; omega
  clear hbn
  go_wp2_with fail
  refine (new_any 1 w2 w2.heap.size rfl).mono ?_
  rintro x w3 ⟨rfl, hA, hb3, hs3⟩
  have HS3 := Lib.hid hs3
  clear hs3
  go_wp2_with fail
  refine (new_any 1 w3 w3.heap.size rfl).mono ?_
  rintro x w4 ⟨rfl, hB, hb4, hs4⟩
  have HS4 := Lib.hid hs4
  clear hs4
  go_upto_region 6 with fail
  obtain ⟨w5, hw5⟩ : ∃ w5, w4.alloc (.cells #[.pointer (some ⟨w2.heap.size, 0, none⟩), .pointer (some ⟨w3.heap.size, 0, none⟩), .slice none 0 0, .slice none 0 0, .slice none 0 0, .slice none 0 0, .slice none 0 0, .slice none 0 0] 31) = w5 := ⟨_, rfl⟩
  have hz2 := HB2.out.size
  have hs3 := HS3.out
  have hs4 := HS4.out
  have HT0 : Hid (WL w w5 w4.heap.size (pl0 w2.heap.size w3.heap.size) ws0 (lab0 w.heap.size w4.heap.size w2.heap.size w3.heap.size)) := by
    show WL _ _ _ _ _ _
    rw [← hw5]
    have k4 : Mem.Keeps (fun _ => False) w4 (w4.alloc (.cells #[.pointer (some ⟨w2.heap.size, 0, none⟩), .pointer (some ⟨w3.heap.size, 0, none⟩), .slice none 0 0, .slice none 0 0, .slice none 0 0, .slice none 0 0, .slice none 0 0, .slice none 0 0] 31)) := (Mem.Keeps.refl _ _).alloc _
    refine WL.start (Mem.Own.lit w4 _ 8 #[.pointer (some ⟨w2.heap.size, 0, none⟩), .pointer (some ⟨w3.heap.size, 0, none⟩), .slice none 0 0, .slice none 0 0, .slice none 0 0, .slice none 0 0, .slice none 0 0, .slice none 0 0] 1 rfl rfl (by simp [maxLen])) ?_ (hB.keeps k4 (fun h => h) (fun _ _ h => h)) ?_ hz2 (by omega) (by omega) (by omega) (by omega) (by omega)
    · exact ((hA.keeps (Mem.Keeps.of_below hb4) (fun h => h) (fun _ _ h => h))).keeps k4 (fun h => h) (fun _ _ h => h)
    · exact ((HB2.out.trans (hb3.mono hz2)).trans (hb4.mono (by omega))).alloc (by omega) _
  obtain ⟨g, hg⟩ : ∃ g, w4.heap.size = g := ⟨_, rfl⟩
  rw [hg] at HT0 ⊢
  rw [hw5]
  obtain ⟨p0, hp0⟩ : ∃ p0, pl0 w2.heap.size w3.heap.size = p0 := ⟨_, rfl⟩
  obtain ⟨l0, hl0⟩ : ∃ l0, lab0 w.heap.size g w2.heap.size w3.heap.size = l0 := ⟨_, rfl⟩
  rw [hp0, hl0] at HT0
  clear hw5 hg hp0 hl0 hA hB hb3 hb4 hs3 hs4 hz2 HB1 HB2
  go_wp2
  go_loopw [4] (ORel w g acs) (fun t _ => acs.length - (intOf t).toNat)
  case atStart => exact ⟨⟨0, p0, ws0, l0, by omega, rfl, HT0, Good.start, Bd.start.mono (by omega), by simp [ws0]⟩⟩
  case round =>
    obtain ⟨k, p, s, lab, hk, rfl, HW, HG, HBd, hp6⟩ := hrel.out
    clear HT0
    by_cases hlt : k < acs.length
    · obtain ⟨b, o, a, rfl, hb, hp, p0', p1', p2', p3'⟩ := ac_elem HR.out hlt
      have q0 := (HW.out.bl.cell (p := ⟨b, o + k * 4, none⟩) hb).trans p0'
      have q1 := (HW.out.bl.cell (p := ⟨b, o + k * 4 + 1, none⟩) hb).trans p1'
      have q2 := (HW.out.bl.cell (p := ⟨b, o + k * 4 + 2, none⟩) hb).trans p2'
      have q3 := (HW.out.bl.cell (p := ⟨b, o + k * 4 + 3, none⟩) hb).trans p3'
      have HAI := Lib.hid (HD.out a (List.mem_of_getElem? hp))
      have HTS : Hid (len1 (acs.take (k + 1)) = len1 (acs.take k) + (1 + a.data.length)) := by show _ = _; rw [Mem.take_snoc hp, len1_snoc]
      have hcost : len1 (acs.take k) + (1 + a.data.length) ≤ 2000 := by have := len1_take acs (k + 1); rw [HTS.out] at this; have := HC.out; omega
      have c2 := HW.out.cell (i := 2) rfl
      have c3 := HW.out.cell (i := 3) rfl
      have hw1 : IntKind.i64.wrap (((s.pk 2).length : Int) + ((s.pk 3).length : Int)) = ((s.pk 2).length : Int) + ((s.pk 3).length : Int) := IntWalk.i64_in _ (by omega)
      clear hp p0' p1' p2' p3'
      by_cases h5 : 500 < (s.pk 2).length + (s.pk 3).length
      · have h5d : decide ((500 : Int) < ((s.pk 2).length : Int) + ((s.pk 3).length : Int)) = true := by simp; omega
        clear h5
        go_wp2
        go_quiet (fail)
        go_wp2
        go_ret
        exact ⟨rfl, Mem.below_drewN HW.out.bl _⟩
      · have h5d : decide ((500 : Int) < ((s.pk 2).length : Int) + ((s.pk 3).length : Int)) = false := by simp; omega
        have hs5 : (s.pk 2).length + (s.pk 3).length ≤ 100000 := by omega
        have H5 := Lib.hid h5
        clear h5
        go_wp2
        go_quiet (fail)
        clear hw1
        go_wp2_with fail
        refine (step_any (HW.out.quiet ((Mem.Keeps.refl _ _).drewN _)) a HAI.out.ok (by omega) hs5 (fun i hi => (HBd.out.fe i hi).mono (by omega)) (fun i h1 h2 => Nat.le_trans (HBd.out.fs i h1 h2) (by omega))).mono ?_
        rintro x w6 ⟨rfl, p2, lab2, hW2⟩
        have hpk2 := step_pk (a := a) HBd.out
        obtain ⟨s2, hs2⟩ : ∃ s2, stepW s a = s2 := ⟨_, rfl⟩
        have hG2 := HG.out.step (a := a)
        have hB2 := HBd.out.step (a := a)
        rw [hs2] at hW2 hG2 hB2 hpk2
        have HW2 := Lib.hid hW2
        have HG2 := Lib.hid hG2
        have HB2 : Hid (Bd s2 (len1 (acs.take (k + 1)))) := by show Bd _ _; rw [HTS.out]; exact hB2
        have hk2 : len1 (acs.take (k + 1)) ≤ 2000 := by rw [HTS.out]; exact hcost
        have HPK : Hid ((s2.pk 2).length + (s2.pk 3).length ≤ 600) := by have := H5.out; show _ ≤ _; omega
        clear hs2 hW2 hG2 hB2 HW HG HBd c2 c3 q0 q1 q2 q3 hs5 hpk2 hp6
        have c0 := HW2.out.cell (i := 0) rfl
        have c1 := HW2.out.cell (i := 1) rfl
        have c4 := HW2.out.cell (i := 4) rfl
        have c5 := HW2.out.cell (i := 5) rfl
        have c6 := HW2.out.cell (i := 6) rfl
        have c7 := HW2.out.cell (i := 7) rfl
        have o4 := HW2.out.st 4 (by omega) (by omega)
        have o5 := HW2.out.st 5 (by omega) (by omega)
        have o6 := HW2.out.st 6 (by omega) (by omega)
        have o7 := HW2.out.st 7 (by omega) (by omega)
        have HP1 : Hid (∀ n, _) := fun n => prefix_quiet2 n (s2.st 7) (s2.st 4) (p2.X 7) (p2.X 4) (p2.xc 7) (p2.xc 4) HG2.out.ab.pre HG2.out.ab.gl o7.rd o4.rd o4.le o4.cap
        have HP2 : Hid (∀ n, _) := fun n => prefix_quiet2 n (s2.st 6) (s2.st 5) (p2.X 6) (p2.X 5) (p2.xc 6) (p2.xc 5) HG2.out.ba.pre HG2.out.ba.gl o6.rd o5.rd o5.le o5.cap
        have HE0 := Lib.hid (HW2.out.en 0 (by omega))
        have HE1 := Lib.hid (HW2.out.en 1 (by omega))
        have g1 : ((s2.e 1).got != ((s2.st 7).length : Int)) = false := by rw [HG2.out.ab.fg]; simp
        have g0 : ((s2.e 0).got != ((s2.st 6).length : Int)) = false := by rw [HG2.out.ba.fg]; simp
        have s0 : ((s2.e 0).sent != ((s2.st 4).length : Int)) = false := by rw [HG2.out.ab.fs]; simp
        have b0 := HB2.out.fe 0 (by omega)
        have b1 := HB2.out.fe 1 (by omega)
        have a0 := HG2.out.ab.fa
        have a1 := HG2.out.ba.fa
        have f0 := HG2.out.ab.fs
        have f1 := HG2.out.ba.fs
        have v0 : decide (((s2.st 7).length : Int) < (s2.e 0).sent - ((s2.e 0).opn.length : Int)) = false := by simp; omega
        have v1 : decide (((s2.st 6).length : Int) < (s2.e 1).sent - ((s2.e 1).opn.length : Int)) = false := by simp; omega
        have w0' : IntKind.i64.wrap ((s2.e 0).sent - ((s2.e 0).opn.length : Int)) = (s2.e 0).sent - ((s2.e 0).opn.length : Int) := IntWalk.i64_in _ (by have := b0.s0; have := b0.sN; have := b0.o8; omega)
        have w1' : IntKind.i64.wrap ((s2.e 1).sent - ((s2.e 1).opn.length : Int)) = (s2.e 1).sent - ((s2.e 1).opn.length : Int) := IntWalk.i64_in _ (by have := b1.s0; have := b1.sN; have := b1.o8; omega)
        clear o4 o5 o6 o7 b0 b1 a0 a1 f0 f1
        go_wp2
        go_quiet ((first | (go_at_call 16; with_reducible exact HP1.out _) | (go_at_call 16; with_reducible exact HP2.out _) | (go_at_call 17; with_reducible exact quiet1_got HE0.out.box _) | (go_at_call 17; with_reducible exact quiet1_got HE1.out.box _)))
        go_upto_region 13 with fail
        obtain ⟨w7, hw7⟩ : ∃ w7, w6.drewN nq = w7 := ⟨_, rfl⟩
        have HW7 : Hid (WL w w7 g p2 s2 lab2) := by show WL _ _ _ _ _ _; rw [← hw7]; exact HW2.out.quiet ((Mem.Keeps.refl _ _).drewN _)
        rw [hw7]
        clear hw7 c0 c1 c4 c5 c6 c7 HE0 HE1 HP1 HP2 HW2 g0 g1
        have c0 := HW7.out.cell (i := 0) rfl
        have c1 := HW7.out.cell (i := 1) rfl
        have c4 := HW7.out.cell (i := 4) rfl
        have c6 := HW7.out.cell (i := 6) rfl
        have c7 := HW7.out.cell (i := 7) rfl
        have HE0 := Lib.hid (HW7.out.en 0 (by omega))
        have HE1 := Lib.hid (HW7.out.en 1 (by omega))
        have HRELm := fun (m : Nat) => (⟨⟨k + 1, p2, s2, lab2, by omega, by go_num, HW7.out.quiet ((Mem.Keeps.refl _ _).drewN m), HG2, HB2, HPK.out⟩⟩ : ORel w g acs (.int .i64 ((k : Int) + 1)) (w7.drewN m))
        have HREL := Lib.hid HRELm
        clear HRELm
        go_wp2
        go_quiet ((first | (go_at_call 18; with_reducible exact quiet1_sent HE0.out.box _) | (go_at_call 15; with_reducible exact quiet1_open HE0.out.box _) | (go_at_call 18; with_reducible exact quiet1_sent HE1.out.box _) | (go_at_call 15; with_reducible exact quiet1_open HE1.out.box _)))
        go_wp2
        go_roundw
        case rel => exact HREL.out _
        case measure => simp [intOf]; omega
    · obtain rfl : k = acs.length := by omega
      go_wp2
      go_ret
      exact ⟨rfl, HW.out.bl⟩
theorem opened {H : Type} (enc : TypeId × Value → H) (W : World) (base : Nat) (v0 : Value) {d0 : DataW H} {p0 : List MemPlace}
    (o0 : Value.okWide Try.prog W .any base 22 v0) (k0 : DataW.Trod enc Try.prog W 0 (fun _ => true) true 22 v0 d0 p0) (z0 : (d0.weights Try.prog 22).all (· ≤ reachBytes) = true) :
    Calls Try.prog 4 #[v0] W fun e w' => e = .returned (.bool true) ∧ Below W.heap.size W w' := by
  obtain ⟨A, c, acs, rfl, h1, h2, h3, h4⟩ := open_acts o0 k0 z0
  exact walk A c acs W h3 (by omega) h4
end linkOnceOpen
end Go.Proofs.Ytjkonfanmpcipaa
