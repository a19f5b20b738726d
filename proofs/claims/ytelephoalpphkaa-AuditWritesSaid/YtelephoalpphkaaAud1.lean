/- The walks of audit's small functions: has, puts, slices.Equal of texts, slices.EqualFunc at shaped. Lists that are few. -/
import Derived.Test.YtelephoalpphkaaAuR
import Derived.Test.YtelephoalpphkaaAuE
set_option maxRecDepth 8000
namespace Go.Proofs.Ytelephoalpphkaa
open Go.ChangeShapes Go.WideShapes Go.ChangeAt Go.RowKit
set_option linter.unusedVariables false
set_option linter.unusedSimpArgs false
namespace Au
theorem rs_len (l : List Rs) : (l.flatMap rsCells).length = l.length * 22 := Mem.flat_length rsCells_length l
theorem rs_ones (l : List Rs) : ∀ u ∈ l.flatMap rsCells, u.oneCell' = true := fun u hu => by
  obtain ⟨e, _, he⟩ := List.mem_flatMap.1 hu
  exact rs_one e u he
end Au
open Ar in
set_option maxHeartbeats 4000000 in
theorem Ar.clone_rd (A : Option Addr) (c : Nat) (es : List Ar.Ent) (w : World) (hr : Mem.Rd w w.heap.size A (es.flatMap Ar.entCells)) (hn : es.length ≤ 703687441776) :
    Calls Try.prog 74 #[.slice A es.length c] w fun x w' => ∃ A' c', x = .returned (.slice A' es.length c') ∧ Ar.EOwn w' A' c' es ∧ Mem.From w.heap.size A' ∧ Below w.heap.size w w' := by
  have hol := ents_len es
  have hoo := ents_one es
  have hnil := fun W (a : Option Addr) n c => Lib.run_eql_slice_nil (P := Try.prog) W 44 48 a n c 0 0 Try.underlying44
  cases A with
  | none =>
    obtain rfl : es = [] := by
      rcases hr with h | ⟨b, o, h, _⟩
      · exact List.eq_nil_of_length_eq_zero (by have := congrArg List.length h; rw [hol] at this; simp only [List.length_nil] at this; omega)
      · cases h
    go_enter Try.func74, Try.ntmps74
    go_wp2
    go_ret
    exact ⟨none, 0, rfl, Mem.Own.nil _ _ _, Mem.From.none_ _, Below.refl _ _⟩
  | some a =>
    have HR := Lib.hid hr
    clear hr
    go_enter Try.func74, Try.ntmps74
    go_wp2_with (at_builtin; refine Mem.wpList_clone _ rfl (.tmp 5) (.tmp 6) _ rfl results_elem _ rfl w w.heap.size (some a) es.length c (es.flatMap entCells) rfl ?_ rfl (Below.refl _ _) (Nat.le_refl _) HR.out hol hoo (by unfold maxLen; omega) (by omega); intro A1 c1 w3 hown hb3 hs3 hf3)
    go_ret
    exact ⟨A1, c1, rfl, hown, hf3, hb3⟩
theorem hasF_tells (S : Nat → Prop) (w : World) : Ar.Tells 75 #[] (fun r => !r.has) S w := by
  intro W e hk
  show Calls _ _ #[.agg (Au.rsCells e).toArray] _ _
  unfold Au.rsCells Vec.entCells
  go_enter Try.func75, Try.ntmps75
  go_wp2
  go_ret
  exact ⟨rfl, Reg.below_new _ _⟩
namespace Au
/-- the results that have a write -/
def hasL (l : List Rs) : List Rs := l.filter fun r => r.has
theorem kept_has (l : List Rs) : Ar.keptL (fun r => !r.has) l = hasL l := by
  unfold Ar.keptL hasL
  congr 1
  funext r
  simp
end Au
open Au in
set_option maxHeartbeats 1000000 in
theorem has_any {w : World} {B : Nat} {e : Au.Ev} (h : Au.EvOk w B e) (hB : B ≤ w.heap.size) (hn : e.res.length ≤ 703687441776) :
    Calls Try.prog 65 #[.agg (Au.evCells e).toArray] w fun x w' => ∃ A' c', x = .returned (.slice A' (Au.hasL e.res).length c') ∧ Mem.Own w' 48 22 A' (Au.hasL e.res).length c' ((Au.hasL e.res).flatMap Au.rsCells) ∧ Mem.From w.heap.size A' ∧ Below w.heap.size w w' := by
  have HB1 : Hid (Below w.heap.size w (w.alloc (.cells (evCells e).toArray 46))) := Reg.below_new _ _
  have HC := Lib.hid (Ar.clone_rd e.rA e.rc e.res (w.alloc (.cells (evCells e).toArray 46)) (((h.r.more hB).below HB1.out).more (by simp)) hn)
  have hy : (w.alloc (.cells (evCells e).toArray 46)).cell? ⟨w.heap.size, 10, none⟩ = some (.slice e.rA e.res.length e.rc) := (Mem.Bx.new w 46 (evCells e).toArray rfl rfl : VBx _ _ e).cell (j := 10) rfl
  obtain ⟨w1, hw1⟩ : ∃ w1, w.alloc (.cells (evCells e).toArray 46) = w1 := ⟨_, rfl⟩
  rw [hw1] at HB1 HC hy
  have HY := Lib.hid hy
  unfold evCells at hw1 ⊢
  clear h hy
  go_enter Try.func65, Try.ntmps65
  go_upto_region 1 with fail
  try rw [hw1]
  have y0 := HY.out
  clear hw1
  go_wp2_with (first
    | (go_at_call 74; (refine HC.out.mono ?_); rintro x w2 ⟨A2, c2, rfl, h1, h2, h3⟩; have HF2 : Hid (Mem.From w.heap.size A2) := h2.mono HB1.out.size; have HB2 := Lib.hid (HB1.out.trans (h3.mono HB1.out.size)); have HD := Lib.hid (Ar.deleteFunc_any 75 #[] _ (enters_of Try.func75 (by kernel_rfl) rfl) A2 c2 e.res w2 (hasF_tells _ w2) h1 hn); clear h1 h2 h3 HC)
    | (go_at_call 73; (refine HD.out.mono ?_); rintro x w3 ⟨rfl, h1, h2⟩; have HO3 := Lib.hid h1; have HK3 := Lib.hid h2; clear h1 h2 HD))
  go_ret
  have ho := HO3.out
  rw [kept_has] at ho
  exact ⟨A2, c2, by rw [← kept_has]; rfl, ho, HF2.out, HB2.out.trans (HK3.out.below (fun k hk => HF2.out.blk k hk) HB2.out.size)⟩
theorem puts_any (k : Int) (w : World) : Calls Try.prog 51 #[.int .i64 k] w fun x w' => x = .returned (.bool (k == 1 || k == 2)) ∧ w' = w := by
  go_enter Try.func51, Try.ntmps51
  by_cases h1 : k = 1
  · subst h1
    go_wp2
    go_ret
    exact ⟨rfl, rfl⟩
  · have b1 : (k == 1) = false := by simpa using h1
    go_wp2
    go_ret
    exact ⟨by simp [b1], rfl⟩
namespace Au
structure EqRel (w : World) (xs ys : List ByteArray) (v : Value) (wr : World) : Prop where
  out : ∃ k, k ≤ xs.length ∧ v = .int .i64 k ∧ Hid (xs.take k = ys.take k) ∧ Hid (Below w.heap.size w wr)
theorem eq_len {xs ys : List ByteArray} (h : xs.length ≠ ys.length) : decide (xs = ys) = false := by
  rw [decide_eq_false_iff_not]; intro e; exact h (by rw [e])
end Au
open Au in
set_option maxHeartbeats 4000000 in
theorem equal_any {w : World} {B : Nat} {A A2 : Option Addr} {c c2 : Nat} {xs ys : List ByteArray} (hx : Mem.Rd w B A (xs.map Au.sv)) (hy : Mem.Rd w B A2 (ys.map Au.sv)) (hB : B ≤ w.heap.size) (hxl : xs.length ≤ maxLen) (hyl : ys.length ≤ maxLen) :
    Calls Try.prog 45 #[.slice A xs.length c, .slice A2 ys.length c2] w fun e w' => e = .returned (.bool (decide (xs = ys))) ∧ Below w.heap.size w w' := by
  have HXR := Lib.hid (hx.more hB)
  have HYR := Lib.hid (hy.more hB)
  unfold maxLen at hxl hyl
  clear hx hy
  go_enter Try.func45, Try.ntmps45
  by_cases hl : xs.length = ys.length
  · have hl2 : ys.length = xs.length := hl.symm
    rw [hl2]
    rw [hl2] at hyl
    have HL := Lib.hid hl
    clear hl hl2
    go_wp2
    go_loopw [13] (EqRel w xs ys) (fun t _ => xs.length - (intOf t).toNat)
    case atStart => exact ⟨⟨0, by omega, rfl, rfl, Below.refl _ _⟩⟩
    case round =>
      obtain ⟨k, hk, rfl, HT, HB⟩ := hrel.out
      clear hrel
      by_cases hlt : k < xs.length
      · obtain ⟨x, hx⟩ : ∃ x, xs[k]? = some x := ⟨_, List.getElem?_eq_getElem hlt⟩
        obtain ⟨y, hy⟩ : ∃ y, ys[k]? = some y := ⟨_, List.getElem?_eq_getElem (by have := HL.out; omega)⟩
        obtain ⟨b, o, rfl, hb, hc⟩ := (HXR.out.below HB.out).at (k := k) (by simpa using hlt)
        obtain ⟨b2, o2, rfl, hb2, hc2⟩ := (HYR.out.below HB.out).at (k := k) (by have := HL.out; simp; omega)
        have y0 : wr.cell? ⟨b, o + k, none⟩ = some (.string x) := by rw [hc]; simp [(List.getElem?_eq_some_iff.1 hx).2, sv]
        have y1 : wr.cell? ⟨b2, o2 + k, none⟩ = some (.string y) := by rw [hc2]; simp [(List.getElem?_eq_some_iff.1 hy).2, sv]
        have d1 : decide ((k : Int) < (xs.length : Int)) = true := by simp; omega
        have HX := Lib.hid hx
        have HY := Lib.hid hy
        clear hx hy hc hc2
        by_cases he : x = y
        · subst he
          go_upto_region 6 with fail
          go_quiet (fail)
          go_wp2
          go_roundw
          case rel => exact ⟨⟨k + 1, by omega, by go_num, Lib.hid (by rw [Mem.take_snoc HX.out, Mem.take_snoc HY.out, HT.out]), Mem.below_drewN HB.out _⟩⟩
          case measure => simp [intOf]; omega
        · have hd : decide (xs = ys) = false := by
            have h1 := HX.out; have h2 := HY.out
            rw [decide_eq_false_iff_not]; intro e; subst e; rw [h1] at h2; exact he (Option.some.inj h2)
          have HDD := Lib.hid hd
          have s1 := Vec.str_ne he
          clear hd he
          go_upto_region 6 with fail
          go_quiet (fail)
          go_wp2
          go_ret
          exact ⟨by rw [HDD.out]; rfl, Mem.below_drewN HB.out _⟩
      · obtain rfl : k = xs.length := by omega
        have hd : decide (xs = ys) = true := by
          have h1 := HT.out
          rw [List.take_of_length_le (Nat.le_refl _), List.take_of_length_le (by have := HL.out; omega)] at h1
          exact decide_eq_true h1
        have HDD := Lib.hid hd
        have d1 : decide ((xs.length : Int) < (xs.length : Int)) = false := by simp
        clear hd HT
        go_wp2
        go_ret
        exact ⟨by rw [HDD.out]; rfl, HB.out⟩
  · have HDD := Lib.hid (eq_len hl)
    have b1 : ((xs.length : Int) == (ys.length : Int)) = false := by simp; omega
    clear hl
    go_wp2
    go_ret
    exact ⟨by rw [HDD.out]; rfl, Below.refl _ _⟩
end Go.Proofs.Ytelephoalpphkaa
