/- The walks of slices.EqualFunc at shaped, of shaped, of rules$3. No conditions but that lists are few. -/
import Derived.Test.YtelephoalpphkaaAud5
import Derived.Test.YtelephoalpphkaaAud1
set_option maxRecDepth 8000
namespace Go.Proofs.Ytelephoalpphkaa
open Go.ChangeShapes Go.WideShapes Go.ChangeAt Go.RowKit
set_option linter.unusedVariables false
set_option linter.unusedSimpArgs false
theorem shapedF_any (r : Au.Rs) (k : ByteArray) (w : World) : Calls Try.prog 64 #[.agg (Au.rsCells r).toArray, .string k] w fun x w' => x = .returned (.bool (decide (r.key = k))) ∧ Below w.heap.size w w' := by
  unfold Au.rsCells Vec.entCells
  by_cases h : r.key = k
  · have s1 := Vec.str_eq h
    have HD : Hid (decide (r.key = k) = true) := decide_eq_true h
    clear h
    go_enter Try.func64, Try.ntmps64
    go_wp2
    go_ret
    exact ⟨by rw [HD.out]; rfl, Reg.below_new _ _⟩
  · have s1 := Vec.str_ne h
    have HD : Hid (decide (r.key = k) = false) := decide_eq_false h
    clear h
    go_enter Try.func64, Try.ntmps64
    go_wp2
    go_ret
    exact ⟨by rw [HD.out]; rfl, Reg.below_new _ _⟩
namespace Au
structure EfRel (w : World) (rs : List Rs) (ks : List ByteArray) (v : Value) (wr : World) : Prop where
  out : ∃ k, k ≤ rs.length ∧ v = .int .i64 k ∧ Hid ((rs.map (·.key)).take k = ks.take k) ∧ Hid (Below w.heap.size w wr)
theorem rs_elem {w : World} {B : Nat} {A : Option Addr} {l : List Rs} (h : Mem.Rd w B A (l.flatMap rsCells)) {k : Nat} (hk : k < l.length) :
    ∃ b o e, A = some ⟨b, o, none⟩ ∧ b < B ∧ l[k]? = some e ∧ ∀ j u, (rsCells e)[j]? = some u → w.cell? ⟨b, o + k * 22 + j, none⟩ = some u := by
  obtain ⟨b, o, e, hb, hc⟩ := Mem.Rd.elem rsCells_length h hk (by omega)
  exact ⟨b, o, l[k], e, hb, List.getElem?_eq_getElem hk, fun j u hu => by rw [Nat.add_assoc]; exact hc j u hu⟩
end Au
open Au in
set_option maxHeartbeats 4000000 in
theorem equalF_any {w : World} {B : Nat} {A A2 : Option Addr} {c c2 : Nat} {rs : List Au.Rs} {ks : List ByteArray} (hx : Mem.Rd w B A (rs.flatMap Au.rsCells)) (hy : Mem.Rd w B A2 (ks.map Au.sv)) (hB : B ≤ w.heap.size) (hxl : rs.length ≤ maxLen) (hyl : ks.length ≤ maxLen) :
    Calls Try.prog 63 #[.slice A rs.length c, .slice A2 ks.length c2, .func (.func 64) #[] #[]] w fun e w' => e = .returned (.bool (decide (rs.map (·.key) = ks))) ∧ Below w.heap.size w w' := by
  have HXR := Lib.hid (hx.more hB)
  have HYR := Lib.hid (hy.more hB)
  unfold maxLen at hxl hyl
  clear hx hy
  go_enter Try.func63, Try.ntmps63
  by_cases hl : rs.length = ks.length
  · have hl2 : ks.length = rs.length := hl.symm
    rw [hl2]
    rw [hl2] at hyl
    have HL := Lib.hid hl
    clear hl hl2
    go_wp2
    go_loopw [17] (EfRel w rs ks) (fun t _ => rs.length - (intOf t).toNat)
    case atStart => exact ⟨⟨0, by omega, rfl, rfl, Below.refl _ _⟩⟩
    case round =>
      obtain ⟨k, hk, rfl, HT, HB⟩ := hrel.out
      clear hrel
      by_cases hlt : k < rs.length
      · obtain ⟨b, o, r, rfl, hb, hr, hc⟩ := rs_elem HXR.out hlt
        obtain ⟨y, hy⟩ : ∃ y, ks[k]? = some y := ⟨_, List.getElem?_eq_getElem (by have := HL.out; omega)⟩
        obtain ⟨b2, o2, rfl, hb2', hc2⟩ := (HYR.out.below HB.out).at (k := k) (by have := HL.out; simp; omega)
        have hat2 : ∀ j u, (rsCells r)[j]? = some u → wr.cell? ⟨b, o + k * 22 + j, none⟩ = some u := fun j u hu => (HB.out.cell (p := ⟨b, o + k * 22 + j, none⟩) hb).trans (hc j u hu)
        have HAT := Lib.hid hat2
        have y1 : wr.cell? ⟨b2, o2 + k, none⟩ = some (.string y) := by rw [hc2]; simp [(List.getElem?_eq_some_iff.1 hy).2, sv]
        have d1 : decide ((k : Int) < (rs.length : Int)) = true := by simp; omega
        have HX : Hid ((rs.map (·.key))[k]? = some r.key) := by show _ = _; rw [List.getElem?_map, hr]; rfl
        have HY := Lib.hid hy
        have hz := HB.out.size
        clear hr hy hc hc2 hat2
        by_cases he : r.key = y
        · have HS := Lib.hid (fun W => shapedF_any r y W)
          rw [decide_eq_true he] at HS
          have HE := Lib.hid he
          clear he
          go_wp2_with (first | ((with_reducible refine Mem.load_agg _ _ result_agg b (o + k * 22) (rsCells r) ?hx (rsCells_length r) HAT.out ?_); case hx => exact rfl) | ((with_reducible refine Mem.store_agg _ _ result_agg wr.heap.size ?zs (rsCells r) ?hx ?hy ?hb (rsCells_length r) (rs_one r) ?_); (case hx => exact rfl); (case hy => exact rfl); (case hb => exact Mem.Bx.new wr _ _ rfl rfl); intro w2 hb2 hk2 hs2; have HB2 : Hid (Below w.heap.size w w2) := HB.out.trans ((hk2.newBox rfl).below (fun k h => h.elim) hz); have HR2 : Hid (RBx w2 wr.heap.size r) := hb2; have y2 : w2.cell? ⟨b2, o2 + k, none⟩ = some (.string y) := ((hk2.newBox rfl).cell (p := ⟨b2, o2 + k, none⟩) (Nat.lt_of_lt_of_le hb2' hz) id).trans y1; clear hb2 hk2 hs2) | ((with_reducible refine Mem.load_agg _ _ result_agg wr.heap.size 0 (rsCells r) ?hz (rsCells_length r) (fun j u hu => by rw [Nat.zero_add]; exact HR2.out.cell hu) ?_); case hz => exact rfl) | (go_at_call 64; (refine (HS.out w2).mono ?_); rintro x w3 ⟨rfl, hb3⟩; have HB3 := Lib.hid (HB2.out.trans (hb3.mono HB2.out.size)); clear hb3))
          go_roundw
          case rel => exact ⟨⟨k + 1, by omega, by go_num, Lib.hid (by rw [Mem.take_snoc HX.out, Mem.take_snoc HY.out, HT.out, HE.out]), HB3⟩⟩
          case measure => simp [intOf]; omega
        · have hd : decide (rs.map (·.key) = ks) = false := by
            have h1 := HX.out; have h2 := HY.out
            rw [decide_eq_false_iff_not]; intro e; rw [e, h2] at h1; exact he (Option.some.inj h1).symm
          have HDD := Lib.hid hd
          have HS := Lib.hid (fun W => shapedF_any r y W)
          rw [decide_eq_false he] at HS
          clear hd he
          go_wp2_with (first | ((with_reducible refine Mem.load_agg _ _ result_agg b (o + k * 22) (rsCells r) ?hx (rsCells_length r) HAT.out ?_); case hx => exact rfl) | ((with_reducible refine Mem.store_agg _ _ result_agg wr.heap.size ?zs (rsCells r) ?hx ?hy ?hb (rsCells_length r) (rs_one r) ?_); (case hx => exact rfl); (case hy => exact rfl); (case hb => exact Mem.Bx.new wr _ _ rfl rfl); intro w2 hb2 hk2 hs2; have HB2 : Hid (Below w.heap.size w w2) := HB.out.trans ((hk2.newBox rfl).below (fun k h => h.elim) hz); have HR2 : Hid (RBx w2 wr.heap.size r) := hb2; have y2 : w2.cell? ⟨b2, o2 + k, none⟩ = some (.string y) := ((hk2.newBox rfl).cell (p := ⟨b2, o2 + k, none⟩) (Nat.lt_of_lt_of_le hb2' hz) id).trans y1; clear hb2 hk2 hs2) | ((with_reducible refine Mem.load_agg _ _ result_agg wr.heap.size 0 (rsCells r) ?hz (rsCells_length r) (fun j u hu => by rw [Nat.zero_add]; exact HR2.out.cell hu) ?_); case hz => exact rfl) | (go_at_call 64; (refine (HS.out w2).mono ?_); rintro x w3 ⟨rfl, hb3⟩; have HB3 := Lib.hid (HB2.out.trans (hb3.mono HB2.out.size)); clear hb3))
          go_ret
          exact ⟨by rw [HDD.out]; rfl, HB3.out⟩
      · obtain rfl : k = rs.length := by omega
        have hd : decide (rs.map (·.key) = ks) = true := by
          have h1 := HT.out
          rw [List.take_of_length_le (by rw [List.length_map]; exact Nat.le_refl _), List.take_of_length_le (by have := HL.out; omega)] at h1
          exact decide_eq_true h1
        have HDD := Lib.hid hd
        have d1 : decide ((rs.length : Int) < (rs.length : Int)) = false := by simp
        clear hd HT
        go_wp2
        go_ret
        exact ⟨by rw [HDD.out]; rfl, HB.out⟩
  · have hd : decide (rs.map (·.key) = ks) = false := by
      rw [decide_eq_false_iff_not]; intro e; exact hl (by rw [← e, List.length_map])
    have HDD := Lib.hid hd
    have b1 : ((rs.length : Int) == (ks.length : Int)) = false := by simp; omega
    clear hl hd
    go_wp2
    go_ret
    exact ⟨by rw [HDD.out]; rfl, Below.refl _ _⟩
end Go.Proofs.Ytelephoalpphkaa
