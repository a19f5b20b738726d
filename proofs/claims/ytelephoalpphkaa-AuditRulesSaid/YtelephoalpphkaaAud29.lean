/- The walk of able: a get that has not found what it has seen is found. No conditions. -/
import Derived.Test.YtelephoalpphkaaAud28
set_option maxRecDepth 8000
namespace Go.Proofs.Ytelephoalpphkaa
open Go.ChangeShapes Go.WideShapes Go.ChangeAt Go.RowKit
set_option linter.unusedVariables false
set_option linter.unusedSimpArgs false
namespace Mem
section
variable {P : Program} {w : World} {ops : Array Oper} {rest : List Oper} {a : Act} {Q : Exit → Act → World → Prop} {d : Option Tmp} {ty : TypeId} {ps : String} {af : Array Edge}
/-- a slice literal of one value of many cells, by a guarded operation too -/
theorem build1_aggG {x : Operand} {gd : Option (Nat × Bool)} (t e : TypeId) (n : Nat) (z : Value) (hu : P.underlying t = some (.slice e)) (hi : (P.info? e).map (fun i => (i.zero, i.size)) = some (some z, n)) (hn : 0 < n) (hs : n ≤ 1024)
    (xs : List Value) (hw : Region.wanted { dst := d, op := .buildSlice t 1 #[(0, x)], type := ty, pos := ps, after := af, guard := gd } (yielded ops a.tmps) = true)
    (hx : a.eval x = .agg xs.toArray) (hl : xs.length = n) (h : wpList P ops Q rest (a.put d (.slice (some ⟨w.heap.size, 0, none⟩) 1 1)) (w.alloc (.cells xs.toArray e))) :
    wpList P ops Q ({ dst := d, op := .buildSlice t 1 #[(0, x)], type := ty, pos := ps, after := af, guard := gd } :: rest) a w := by
  cases hie : P.info? e with
  | none => simp [hie] at hi
  | some ie =>
    simp only [hie, Option.map_some, Option.some.injEq, Prod.mk.injEq] at hi
    obtain ⟨hz, hsz⟩ := hi
    subst hsz
    unfold wpList
    rw [if_pos hw]
    refine .inl (wp_buildSlice t e 1 #[(0, x)] rfl xs.toArray ie z hu hie hz (by omega) (by omega) ?_ h)
    have hp : ((#[(0, x)] : Array (Nat × Operand)).map fun (i, x) => (i, a.eval x)).toList = (([.agg xs.toArray] : List Value).zipIdx 0).map fun x => (x.2, x.1) := by simp [hx]
    have hc : (([.agg xs.toArray] : List Value).flatMap fun v => v.cells.toList) = xs := by simp [Value.cells]
    rw [hp]
    refine (Great.fill_whole hn [.agg xs.toArray] _ (fun v hv => ?_) (by simp)).trans (by rw [hc])
    rw [List.mem_singleton] at hv; subst hv; simpa [Value.cells] using hl
end
end Mem
namespace Au
open Vec (Ent Vc)
def eW : Ent := ⟨0, 0, 1, ⟨1, 0, 0⟩, ⟨#[107]⟩, ⟨#[118]⟩, false, Vec.vc0, 0, 1⟩
def cW : Vc := ⟨⟨1, 0, 0⟩, Vec.col0, Vec.col0⟩
def askE (p : Nat) : Ev := ⟨0, 0, 3, some ⟨p, 0, none⟩, 1, [⟨#[107]⟩], ByteArray.empty, 0, 0, false, false, 0, none, 0, [], Vec.vc0⟩
def evA (p : Nat) : Ev := ⟨1, 1, 3, some ⟨p, 0, none⟩, 1, [⟨#[107]⟩], ByteArray.empty, 0, 0, false, false, 0, none, 0, [], Vec.vc0⟩
def rB : Rs := ⟨⟨#[107]⟩, false, Vec.ent0⟩
def evB (p q : Nat) : Ev := ⟨1, 1, 3, some ⟨p, 0, none⟩, 1, [⟨#[107]⟩], ByteArray.empty, 0, 0, false, true, 0, some ⟨q, 0, none⟩, 1, [rB], cW⟩
theorem able_finds (p q : Nat) : findL [evA p, evB p q] [eW] = [⟨1, 8⟩] := by rfl
theorem ok1 : okI 1 := by unfold okI; decide
theorem able_finds0 : findL [] [] = [] := by rfl
theorem able_sees : Vec.visible ⟨#[107]⟩ cW [eW] = (eW, true) := by rfl
theorem able_closed : Vec.closedP cW [eW] = true := by rfl
theorem res_zero : (Try.prog.info? 48).map (fun i => (i.zero, i.size)) = some (some (.agg (rsCells rs0).toArray), 22) := by kernel_rfl
end Au
open Au in
open Vec (EBx entCells ent0 entCells_length ent_one) in
set_option maxHeartbeats 4000000 in
theorem auditAble_any (w : World) :
    Calls Try.prog 9 #[] w fun e w' => e = .returned (.bool true) ∧ Below w.heap.size w w' := by
  go_enter Try.func9, Try.ntmps9
  have ho := ent_one eW
  go_upto_region 2 with ((with_reducible refine Mem.store_agg _ _ entry_agg w.heap.size (entCells ent0) (entCells eW) ?hx2 ?hy2 ?hb2 (entCells_length _) ho ?_); ((case hx2 => exact rfl); (case hy2 => exact rfl); (case hb2 => exact Mem.Bx.new w _ (entCells ent0).toArray rfl rfl); intro w1 hb2 hk2 hs2))
  have Hw1 : Hid (EBx w1 w.heap.size eW) := hb2
  have HKw1 : Hid (Below w.heap.size w w1) := (hk2.newBox rfl).belowAll
  clear hb2 hk2 hs2 ho
  go_upto_region 3 with fail
  obtain ⟨w2, hw2⟩ : ∃ z, ((w1.alloc (.cells #[.string ⟨#[107]⟩] 9)).alloc (.cells #[.int .i64 3, .slice (some ⟨w1.heap.size, 0, none⟩) 1 1, .string ⟨#[]⟩, .int .i64 0] 42)) = z := ⟨_, rfl⟩
  have hb12 : Below w1.heap.size w1 w2 := by rw [← hw2]; exact (Reg.below_new w1 _).trans ((Reg.below_new _ _).mono (Reg.below_new w1 _).size)
  have HA2 : Hid (Mem.Bx w2 42 4 (w1.heap.size + 1) (askCells (askE w1.heap.size))) := by
    show Mem.Bx _ _ _ _ _
    rw [← hw2]
    exact Mem.Bx.new (w1.alloc (.cells #[.string ⟨#[107]⟩] 9)) 42 (askCells (askE w1.heap.size)).toArray rfl (Array.size_push _)
  have HK2 : Hid (Mem.Rd w2 w2.heap.size (some ⟨w1.heap.size, 0, none⟩) [sv ⟨#[107]⟩]) := by
    have h0 : Mem.Rd (w1.alloc (.cells #[.string ⟨#[107]⟩] 9)) (w1.heap.size + 1) (some ⟨w1.heap.size, 0, none⟩) [sv ⟨#[107]⟩] := Mem.Rd.alloc_new w1 #[.string ⟨#[107]⟩] 9 _ rfl
    have h1 : (w1.alloc (.cells #[.string ⟨#[107]⟩] 9)).heap.size = w1.heap.size + 1 := Array.size_push _
    show Mem.Rd _ _ _ _
    rw [← hw2]
    exact (h0.alloc (by omega) _).more (by have := (Reg.below_new (w1.alloc (.cells #[.string ⟨#[107]⟩] 9)) (.cells #[.int .i64 3, .slice (some ⟨w1.heap.size, 0, none⟩) 1 1, .string ⟨#[]⟩, .int .i64 0] 42)).size; omega)
  have HW2 : Hid (EBx w2 w.heap.size eW) := Hw1.out.below hb12 Hw1.out.lt
  have HB2 : Hid (Below w.heap.size w w2) := HKw1.out.trans (hb12.mono HKw1.out.size)
  have HAC : Hid (∀ j u, ([.int .i64 3, .slice (some ⟨w1.heap.size, 0, none⟩) 1 1, .string ⟨#[]⟩, .int .i64 0] : List Value)[j]? = some u → w2.cell? ⟨w1.heap.size + 1, 0 + j, none⟩ = some u) := fun j u hu => by rw [Nat.zero_add]; exact HA2.out.cell hu
  have hs2 : w1.heap.size < w2.heap.size := Nat.lt_trans (Nat.lt_succ_self _) HA2.out.lt
  have HS2 := Lib.hid hs2
  obtain ⟨g1, hg1⟩ : ∃ z, w1.heap.size = z := ⟨_, rfl⟩
  try rw [hw2]
  rw [hg1] at HA2 HK2 HAC HS2
  rw [hg1]
  clear hw2 hb12 hs2 hg1 Hw1 HKw1
  go_upto_region 4 with (first
    | ((with_reducible refine Mem.load_agg _ _ ask_agg (g1 + 1) 0 [.int .i64 3, .slice (some ⟨g1, 0, none⟩) 1 1, .string ⟨#[]⟩, .int .i64 0] ?hx rfl HAC.out ?_); case hx => exact rfl)
    | ((with_reducible refine Mem.build1_agg _ _ 22 _ Try.underlying44 res_zero (by decide) (by decide) (rsCells rB) ?hra (rsCells_length _) ?_); (case hra => exact rfl))
    | ((with_reducible refine Mem.build2_agg _ _ 20 _ Try.underlying22 ev_zero (by decide) (by decide) (evCells (evA g1)) (evCells (evB g1 w2.heap.size)) ?hrZ ?hsZ (evCells_length _) (evCells_length _) ?_); ((case hrZ => exact rfl); (case hsZ => exact rfl))))
  obtain ⟨w4, hw4⟩ : ∃ z, ((w2.alloc (.cells (rsCells rB).toArray 48)).alloc (.cells (evCells (evA g1) ++ evCells (evB g1 w2.heap.size)).toArray 46)) = z := ⟨_, rfl⟩
  obtain ⟨w3, hw3⟩ : ∃ z, w2.alloc (.cells (rsCells rB).toArray 48) = z := ⟨_, rfl⟩
  have hb3 : Below w2.heap.size w2 w3 := by rw [← hw3]; exact Reg.below_new _ _
  have hz3 : w3.heap.size = w2.heap.size + 1 := by rw [← hw3]; exact Array.size_push _
  have hw34 : w3.alloc (.cells (evCells (evA g1) ++ evCells (evB g1 w2.heap.size)).toArray 46) = w4 := by rw [← hw3]; exact hw4
  have hb34 : Below w3.heap.size w3 w4 := by rw [← hw34]; exact Reg.below_new _ _
  have hz4 : w4.heap.size = w3.heap.size + 1 := by rw [← hw34]; exact Array.size_push _
  have hb4 : Below w2.heap.size w2 w4 := hb3.trans (hb34.mono hb3.size)
  have HR4 : Hid (Mem.Rd w4 w4.heap.size (some ⟨w2.heap.size, 0, none⟩) (rsCells rB)) := by
    have h0 : Mem.Rd w3 (w2.heap.size + 1) (some ⟨w2.heap.size, 0, none⟩) (rsCells rB) := by rw [← hw3]; exact Mem.Rd.alloc_new w2 (rsCells rB).toArray _ _ rfl
    exact (h0.below (hb34.mono (by omega))).more (by omega)
  have HK4 : Hid (Mem.Rd w4 w4.heap.size (some ⟨g1, 0, none⟩) [sv ⟨#[107]⟩]) := (HK2.out.below hb4).more hb4.size
  have HH4 : Hid (Mem.Rd w4 w4.heap.size (some ⟨w2.heap.size + 1, 0, none⟩) ([evA g1, evB g1 w2.heap.size].flatMap evCells)) := by
    have h0 : Mem.Rd w4 (w3.heap.size + 1) (some ⟨w3.heap.size, 0, none⟩) (evCells (evA g1) ++ evCells (evB g1 w2.heap.size)) := by rw [← hw34]; exact Mem.Rd.alloc_new w3 (evCells (evA g1) ++ evCells (evB g1 w2.heap.size)).toArray _ _ rfl
    rw [hz3] at h0
    have e1 : [evA g1, evB g1 w2.heap.size].flatMap evCells = evCells (evA g1) ++ evCells (evB g1 w2.heap.size) := by rw [List.flatMap_cons, List.flatMap_cons, List.flatMap_nil, List.append_nil]
    show Mem.Rd _ _ _ _
    rw [e1]
    exact h0.more (by omega)
  have HW4 : Hid (EBx w4 w.heap.size eW) := HW2.out.below hb4 HW2.out.lt
  have HB4 : Hid (Below w.heap.size w w4) := HB2.out.trans (hb4.mono HB2.out.size)
  have HEW : Hid (∀ j u, (entCells eW)[j]? = some u → w4.cell? ⟨w.heap.size, 0 + j, none⟩ = some u) := fun j u hu => by rw [Nat.zero_add]; exact HW4.out.cell hu
  have hb5 : Below w4.heap.size w4 (w4.alloc (.cells (entCells eW).toArray 35)) := Reg.below_new _ _
  have HCK : Hid (Calls Try.prog 12 #[.slice (some ⟨w2.heap.size + 1, 0, none⟩) 2 2, .slice (some ⟨w4.heap.size, 0, none⟩) 1 1] (w4.alloc (.cells (entCells eW).toArray 35)) fun x w' => ∃ X c, x = .returned (.slice X 1 c) ∧ Mem.Own w' 50 2 X 1 c [.int .i64 1, .int .i64 8] ∧ Mem.From w4.heap.size X ∧ Below w4.heap.size w4 w') := by
    have hz5 : (w4.alloc (.cells (entCells eW).toArray 35)).heap.size = w4.heap.size + 1 := Array.size_push _
    have h1 := checkL_any (hA := some ⟨w2.heap.size + 1, 0, none⟩) (hc := 2) (h := [evA g1, evB g1 w2.heap.size]) (wA := some ⟨w4.heap.size, 0, none⟩) (wc := 1) (ws := [eW]) (w := w4.alloc (.cells (entCells eW).toArray 35)) ((HH4.out.below hb5).more hb5.size)
      ((Mem.Rd.alloc_new w4 (entCells eW).toArray _ _ rfl : Mem.Rd _ (w4.heap.size + 1) _ _).more (by omega))
      (fun e he => by
        have hk := (HK4.out.below hb5).more hb5.size
        have hr := (HR4.out.below hb5).more hb5.size
        rcases List.mem_cons.1 he with rfl | he
        · exact ⟨⟨hk, .inl rfl, Nat.le_refl _, Nat.le_refl _, by show (1 : Nat) ≤ _; decide, by show (0 : Nat) ≤ _; decide⟩, ok1, by show (0 : Nat) ≤ _; decide⟩
        · rw [List.mem_singleton] at he
          subst he
          exact ⟨⟨hk, hr, Nat.le_refl _, Nat.le_refl _, by show (1 : Nat) ≤ _; decide, by show (1 : Nat) ≤ _; decide⟩, ok1, by show (1 : Nat) ≤ _; decide⟩)
      (Nat.le_refl _) (Nat.le_refl _) (by decide) (by decide) (by show (2 : Nat) ≤ _; decide)
    rw [able_finds] at h1
    refine h1.mono ?_
    rintro x w' ⟨X, c, hx, ho, hf, hb⟩
    exact ⟨X, c, hx, ho, hf.mono hb5.size, hb5.trans (hb.mono hb5.size)⟩
  rw [hw4]
  clear hw4 hw3 hw34 hb3 hz3 hb34 hz4 hb4 hb5 HA2 HK2 HAC HS2 HW2 HB2
  go_upto_region 5 with (first
    | ((with_reducible refine Mem.load_agg _ _ entry_agg w.heap.size 0 (entCells eW) ?hx (entCells_length _) HEW.out ?_); case hx => exact rfl)
    | ((with_reducible refine Mem.build1_agg _ _ 20 _ Try.underlying23 entry_zero (by decide) (by decide) (entCells eW) ?hra (entCells_length _) ?_); (case hra => exact rfl))
    | (go_at_call 12; (refine HCK.out.mono ?_); rintro x w5 ⟨X, cX, rfl, hO5, hF5, hB5⟩; have HO5 := Lib.hid hO5; have HF5 := Lib.hid hF5; have HB5 := Lib.hid hB5; clear hO5 hF5 hB5))
  have HW5 : Hid (EBx w5 w.heap.size eW) := HW4.out.below HB5.out HW4.out.lt
  have HBW5 : Hid (Below w.heap.size w w5) := HB4.out.trans (HB5.out.mono HB4.out.size)
  have HEW5 : Hid (∀ j u, (entCells eW)[j]? = some u → w5.cell? ⟨w.heap.size, 0 + j, none⟩ = some u) := fun j u hu => by rw [Nat.zero_add]; exact HW5.out.cell hu
  have HVS : Hid (Calls Try.prog 15 #[.string ⟨#[107]⟩, .agg (Vec.vcCells cW).toArray, .slice (some ⟨w5.heap.size, 0, none⟩) 1 1] (w5.alloc (.cells (entCells eW).toArray 35)) fun x w' => x = .returned (.tuple #[.agg (entCells eW).toArray, .bool true]) ∧ Below w5.heap.size w5 w') := by
    have hb6 : Below w5.heap.size w5 (w5.alloc (.cells (entCells eW).toArray 35)) := Reg.below_new _ _
    have h1 := visible_any ⟨#[107]⟩ cW (some ⟨w5.heap.size, 0, none⟩) 1 [eW] (w5.heap.size + 1) (w5.alloc (.cells (entCells eW).toArray 35)) (Mem.Rd.alloc_new w5 (entCells eW).toArray _ _ rfl) (Nat.le_of_eq (Array.size_push _).symm) (by decide)
    rw [able_sees] at h1
    refine h1.mono ?_
    rintro x w' ⟨hx, hb⟩
    exact ⟨hx, hb6.trans (hb.mono hb6.size)⟩
  have ho := ent_one eW
  go_upto_region 6 with (first
    | ((with_reducible refine Mem.load_agg _ _ entry_agg w.heap.size 0 (entCells eW) ?hx (entCells_length _) HEW5.out ?_); case hx => exact rfl)
    | ((with_reducible refine Mem.build1_agg _ _ 20 _ Try.underlying23 entry_zero (by decide) (by decide) (entCells eW) ?hra (entCells_length _) ?_); (case hra => exact rfl))
    | (go_at_call 15; (refine HVS.out.mono ?_); rintro x w6 ⟨rfl, hB6⟩; have HB6 := Lib.hid hB6; clear hB6)
    | ((with_reducible refine Mem.store_agg _ _ entry_agg w6.heap.size (entCells ent0) (entCells eW) ?hxj ?hyj ?hbj (entCells_length _) ho ?_); ((case hxj => exact rfl); (case hyj => exact rfl); (case hbj => exact Mem.Bx.new w6 _ (entCells ent0).toArray rfl rfl)); intro w7 hb7 hk7 hs7))
  have HB67 : Hid (Below w5.heap.size w5 w7) := HB6.out.trans ((hk7.newBox rfl).belowAll.mono HB6.out.size)
  have HE7 : Hid (EBx w7 w6.heap.size eW) := hb7
  have HW7 : Hid (EBx w7 w.heap.size eW) := HW5.out.below HB67.out HW5.out.lt
  have HBW7 : Hid (Below w.heap.size w w7) := HBW5.out.trans (HB67.out.mono HBW5.out.size)
  obtain ⟨gX, oX, rfl⟩ := HO5.out.form (by decide)
  have hO7 := HO5.out.below HB67.out (fun q hq => HO5.out.lt hq)
  have y0 : w7.cell? ⟨gX, oX, none⟩ = some (.int .i64 1) := by have := hO7.cell (j := 0) rfl; rwa [Nat.add_zero] at this
  have y1 : w7.cell? ⟨gX, oX + 1, none⟩ = some (.int .i64 8) := hO7.cell (j := 1) rfl
  have e0 : ∀ W, (binOp .eql 50 (.agg #[.int .i64 1, .int .i64 8]) (.agg #[.int .i64 1, .int .i64 8])).run Try.prog W = .ok (.bool true) W := fun W => eql_fi ⟨1, 8⟩ ⟨1, 8⟩ W
  have e1 : ∀ W, (binOp .eql 35 (.agg (entCells eW).toArray) (.agg (entCells eW).toArray)).run Try.prog W = .ok (.bool true) W := fun W => by rw [eql_ent, Vec.eqEnt_iff.2 rfl]
  have HF1 : Hid (∀ j u, (entCells eW)[j]? = some u → w7.cell? ⟨w6.heap.size, 0 + j, none⟩ = some u) := fun j u hu => by rw [Nat.zero_add]; exact HE7.out.cell hu
  have HF2 : Hid (∀ j u, (entCells eW)[j]? = some u → w7.cell? ⟨w.heap.size, 0 + j, none⟩ = some u) := fun j u hu => by rw [Nat.zero_add]; exact HW7.out.cell hu
  have HCL : Hid (Calls Try.prog 17 #[.agg (Vec.vcCells cW).toArray, .slice (some ⟨w7.heap.size, 0, none⟩) 1 1] (w7.alloc (.cells (entCells eW).toArray 35)) fun x w' => x = .returned (.bool true) ∧ Below w7.heap.size w7 w') := by
    have hb8 : Below w7.heap.size w7 (w7.alloc (.cells (entCells eW).toArray 35)) := Reg.below_new _ _
    have h1 := closed_any cW (some ⟨w7.heap.size, 0, none⟩) 1 [eW] (w7.heap.size + 1) (w7.alloc (.cells (entCells eW).toArray 35)) (Mem.Rd.alloc_new w7 (entCells eW).toArray _ _ rfl) (Nat.le_of_eq (Array.size_push _).symm) (by decide)
    rw [able_closed] at h1
    refine h1.mono ?_
    rintro x w' ⟨hx, hb⟩
    exact ⟨hx, hb8.trans (hb.mono hb8.size)⟩
  have HC0 : Hid (∀ w8 : World, Calls Try.prog 12 #[.slice none 0 0, .slice none 0 0] w8 fun x w' => ∃ X c, x = .returned (.slice X 0 c) ∧ Below w8.heap.size w8 w') := fun w8 => by
    have h1 := checkL_any (hA := none) (hc := 0) (h := []) (wA := none) (wc := 0) (ws := []) (w := w8) (.inl rfl) (.inl rfl) (fun e he => by cases he) (Nat.le_refl _) (Nat.le_refl _) (by decide) (by decide) (by show (0 : Nat) ≤ _; decide)
    rw [able_finds0] at h1
    refine h1.mono ?_
    rintro x w' ⟨X, c, hx, ho, hf, hb⟩
    exact ⟨X, c, hx, hb⟩
  clear hb7 hk7 hs7 ho hO7 HO5 HF5 HB5 HVS HCK HEW HEW5 HW4 HW5 HB4 HBW5 HB6 HH4 HK4 HR4
  go_wp2_with (first
    | ((with_reducible refine Mem.load_aggG _ _ entry_agg w6.heap.size 0 (entCells eW) ?hwa ?hxa (entCells_length _) HF1.out ?_); ((case hwa => rfl); (case hxa => exact rfl)))
    | ((with_reducible refine Mem.load_aggG _ _ entry_agg w.heap.size 0 (entCells eW) ?hwb ?hxb (entCells_length _) HF2.out ?_); ((case hwb => rfl); (case hxb => exact rfl)))
    | ((with_reducible refine Mem.build1_aggG _ _ 20 _ Try.underlying23 entry_zero (by decide) (by decide) (entCells eW) ?hwc ?hrc (entCells_length _) ?_); ((case hwc => rfl); (case hrc => exact rfl)))
    | (go_at_call 17; (refine HCL.out.mono ?_); rintro x w8 ⟨rfl, hB8⟩; have HB8 := Lib.hid hB8; clear hB8)
    | (go_at_call 12; (refine (HC0.out w8).mono ?_); rintro x w9 ⟨X9, c9, rfl, hB9⟩; have HB9 := Lib.hid hB9; clear hB9))
  go_ret
  exact ⟨rfl, HBW7.out.trans ((HB8.out.trans (HB9.out.mono HB8.out.size)).mono HBW7.out.size)⟩
end Go.Proofs.Ytelephoalpphkaa
