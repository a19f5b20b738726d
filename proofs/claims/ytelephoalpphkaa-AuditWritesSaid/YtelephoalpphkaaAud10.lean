/- The walks of asked, of all, of rules$2, rules$5, rules$6. No conditions but that lists are few. -/
import Derived.Test.YtelephoalpphkaaAud9
set_option maxRecDepth 8000
namespace Go.Proofs.Ytelephoalpphkaa
open Go.ChangeShapes Go.WideShapes Go.ChangeAt Go.RowKit
set_option linter.unusedVariables false
set_option linter.unusedSimpArgs false
namespace Au
def askedP (k : Ck) (r : Rs) : Bool := decide (r.e.key = r.key) && (k.h.take k.at').any (askM r.e)
theorem sliced_front {A : Option Addr} {c : Nat} (s k : Nat) : sliced A 0 k c s = .slice A k c := by
  unfold sliced
  by_cases h : c = 0
  · simp [h]
  · rw [if_neg h]
    cases A with
    | none => simp
    | some a =>
      obtain ⟨b, o, p⟩ := a
      simp [Addr.add]
end Au
open Au in
set_option maxHeartbeats 8000000 in
theorem asked_any {w : World} {B gc bc gs bs : Nat} {k : Au.Ck} {s : Au.Ss} (hC : Au.Cx w B gc bc gs bs k s) (r : Au.Rs) :
    Calls Try.prog 49 #[.pointer (some ⟨gc, 0, none⟩), .agg (Au.rsCells r).toArray] w fun x w' => x = .returned (.bool (Au.askedP k r)) ∧ Below w.heap.size w w' := by
  have hB1 : Below w.heap.size w (w.alloc (.cells (Au.rsCells r).toArray 48)) := Reg.below_new _ _
  have hX1 : Au.RBx (w.alloc (.cells (Au.rsCells r).toArray 48)) w.heap.size r := Mem.Bx.new w 48 (Au.rsCells r).toArray rfl rfl
  obtain ⟨w1, hw1⟩ : ∃ w1, w.alloc (.cells (Au.rsCells r).toArray 48) = w1 := ⟨_, rfl⟩
  rw [hw1] at hB1 hX1
  have HB1 := Lib.hid hB1
  have HX1 := Lib.hid hX1
  unfold Au.rsCells Vec.entCells at hw1 ⊢
  simp only [List.cons_append, List.nil_append] at hw1 ⊢
  clear hB1 hX1
  have HC1 := Lib.hid (hC.below HB1.out)
  clear hC
  go_enter Try.func49, Try.ntmps49
  go_upto_region 1 with fail
  try rw [hw1]
  clear hw1
  have HENT : Hid (∀ j u, (Vec.entCells r.e)[j]? = some u → w1.cell? ⟨w.heap.size, 2 + j, none⟩ = some u) := RBx.ent HX1.out
  go_upto_region 2 with (first | ((with_reducible refine Mem.load_agg _ _ entry_agg w.heap.size 2 (Vec.entCells r.e) ?hx (Vec.entCells_length r.e) HENT.out ?_); case hx => exact rfl) | ((with_reducible refine Mem.store_agg _ _ entry_agg w1.heap.size ?zs (Vec.entCells r.e) ?hx ?hy ?hb (Vec.entCells_length r.e) (Vec.ent_one r.e) ?_); (case hx => exact rfl); (case hy => exact rfl); (case hb => exact Mem.Bx.new w1 _ _ rfl rfl); intro w2 hb2 hk2 hs2))
  have HK2 := Lib.hid (hk2.newBox rfl)
  have HE2 : Hid (Vec.EBx w2 w1.heap.size r.e) := hb2
  have HX2 := Lib.hid (HX1.out.keeps HK2.out id)
  have HC2 := Lib.hid (HC1.out.below HK2.out.belowAll)
  have HB2 : Hid (Below w.heap.size w w2) := HB1.out.trans (HK2.out.belowAll.mono HB1.out.size)
  clear hb2 hk2 hs2 HENT HC1 HX1
  have x6 : w2.cell? ⟨w1.heap.size, 6, none⟩ = some (.string r.e.key) := HE2.out.cell (j := 6) rfl
  have y0 : w2.cell? ⟨w.heap.size, 0, none⟩ = some (.string r.key) := HX2.out.cell (j := 0) rfl
  have c0 : w2.cell? ⟨gc, 0, none⟩ = some (.slice k.hA k.h.length k.hc) := HC2.out.c.cell (j := 0) rfl
  have c2 : w2.cell? ⟨gc, 2, none⟩ = some (.int .i64 k.at') := HC2.out.c.cell (j := 2) rfl
  have hxl : w1.heap.size < w2.heap.size := HE2.out.lt
  have hyl : w.heap.size < w2.heap.size := HX2.out.lt
  have hcl : gc < w2.heap.size := HC2.out.c.lt
  have hat : k.at' ≤ k.hc := Nat.le_trans HC2.out.a HC2.out.hl
  obtain ⟨gx, hgx⟩ : ∃ gx, w1.heap.size = gx := ⟨_, rfl⟩
  rw [hgx] at x6 HE2 hxl
  rw [hgx]
  clear hgx
  by_cases hkey : r.e.key = r.key
  · have s1 := Vec.str_eq hkey
    have HS : Hid (askedP k r = (k.h.take k.at').any (askM r.e)) := by show _ = _; simp [askedP, hkey]
    clear hkey
    refine Reg.wp_region_w (by kernel_rfl) 26 19 rfl rfl (by kernel_rfl) (0) (fun _ => False) (0) (fun _ => False) (0) (fun _ => False)
      (fun i v u => match i with
        | 0 => v = .pointer (some ⟨gx, 6, none⟩)
        | 1 => v = .string r.e.key
        | 2 => v = .pointer (some ⟨w.heap.size, 0, none⟩)
        | 3 => v = .string r.key
        | 4 => v = .bool true
        | 5 => v = .bool true
        | 6 => v = .pointer (some ⟨gc, 0, none⟩)
        | 7 => v = .pointer (some ⟨gc, 0, none⟩)
        | 8 => v = .pointer (some ⟨gc, 0, none⟩)
        | 9 => v = .slice k.hA k.h.length k.hc
        | 10 => v = .pointer (some ⟨gc, 0, none⟩)
        | 11 => v = .pointer (some ⟨gc, 0, none⟩)
        | 12 => v = .pointer (some ⟨gc, 2, none⟩)
        | 13 => v = .int .i64 (k.at' : Int)
        | 14 => v = .slice k.hA k.at' k.hc
        | 15 => v = .func (.func 68) #[] #[.pointer (some ⟨gx, 0, none⟩)]
        | 16 => v = .bool ((k.h.take k.at').any (askM r.e))
        | 17 => v = .bool ((k.h.take k.at').any (askM r.e))
        | 18 => v = .bool ((k.h.take k.at').any (askM r.e))
        | _ => True) ?_ ?_
    · refine Reg.Steps.cons ?_ (Reg.Steps.cons ?_ (Reg.Steps.cons ?_ (Reg.Steps.cons ?_ (Reg.Steps.cons ?_ (Reg.Steps.cons ?_ (Reg.Steps.cons ?_ (Reg.Steps.cons ?_ (Reg.Steps.cons ?_ (Reg.Steps.cons ?_ (Reg.Steps.cons ?_ (Reg.Steps.cons ?_ (Reg.Steps.cons ?_ (Reg.Steps.cons ?_ (Reg.Steps.cons ?_ (Reg.Steps.cons ?_ (Reg.Steps.cons ?_ (Reg.Steps.cons ?_ (Reg.Steps.cons ?_ (Reg.Steps.nil _)))))))))))))))))))
      · intro val ac u hR hp ha K hK      -- 0: t8 := Op.fieldAddr 35 t5 2
        have e5 : (ac.tmps[5]?).getD undef = .pointer (some ⟨gx, 0, none⟩) := ha 5 (by decide)
        clear ha hp
        refine Reg.Op1.plain rfl ?_
        go_wp2
        exact ⟨rfl, hK _ _ rfl (Reg.Wr.same _)⟩
      · intro val ac u hR hp ha K hK      -- 1: t9 := Op.load 9 t8
        obtain ⟨w8, h8, r8⟩ := hp 0 (by decide)
        have e8 : (ac.tmps[8]?).getD undef = .pointer (some ⟨gx, 6, none⟩) := (ha 8 (by decide)).trans h8
        clear h8
        clear ha hp
        refine Reg.Op1.plain rfl ?_
        have x0 := (((Reg.Wr.all hR)).cell (p := ⟨gx, 6, none⟩) (hxl) ((fun h => h.elim id (fun h => h.elim id id)))).trans (x6)
        go_wp2
        exact ⟨rfl, hK _ _ rfl (Reg.Wr.same _)⟩
      · intro val ac u hR hp ha K hK      -- 2: t10 := Op.fieldAddr 48 t3 0
        have e3 : (ac.tmps[3]?).getD undef = .pointer (some ⟨w.heap.size, 0, none⟩) := ha 3 (by decide)
        clear ha hp
        refine Reg.Op1.plain rfl ?_
        go_wp2
        exact ⟨rfl, hK _ _ rfl (Reg.Wr.same _)⟩
      · intro val ac u hR hp ha K hK      -- 3: t11 := Op.load 9 t10
        obtain ⟨w10, h10, r10⟩ := hp 2 (by decide)
        have e10 : (ac.tmps[10]?).getD undef = .pointer (some ⟨w.heap.size, 0, none⟩) := (ha 10 (by decide)).trans h10
        clear h10
        clear ha hp
        refine Reg.Op1.plain rfl ?_
        have x0 := (((Reg.Wr.all hR)).cell (p := ⟨w.heap.size, 0, none⟩) (hyl) ((fun h => h.elim id (fun h => h.elim id id)))).trans (y0)
        go_wp2
        exact ⟨rfl, hK _ _ rfl (Reg.Wr.same _)⟩
      · intro val ac u hR hp ha K hK      -- 4: t12 := Op.binOp BinOp.eql 9 t9 t11 9
        obtain ⟨w9, h9, r9⟩ := hp 1 (by decide)
        have e9 : (ac.tmps[9]?).getD undef = .string r.e.key := (ha 9 (by decide)).trans h9
        clear h9
        obtain ⟨w11, h11, r11⟩ := hp 3 (by decide)
        have e11 : (ac.tmps[11]?).getD undef = .string r.key := (ha 11 (by decide)).trans h11
        clear h11
        clear ha hp
        refine Reg.Op1.plain rfl ?_
        go_wp2
        exact ⟨rfl, hK _ _ rfl (Reg.Wr.same _)⟩
      · intro val ac u hR hp ha K hK      -- 5: t13 := Op.move t12
        obtain ⟨w12, h12, r12⟩ := hp 4 (by decide)
        have e12 : (ac.tmps[12]?).getD undef = .bool true := (ha 12 (by decide)).trans h12
        clear h12
        clear ha hp
        refine Reg.Op1.plain rfl ?_
        go_wp2
        exact ⟨rfl, hK _ _ rfl (Reg.Wr.same _)⟩
      · intro val ac u hR hp ha K hK      -- 6: t14 := Op.move t0
        have e0 : (ac.tmps[0]?).getD undef = .pointer (some ⟨gc, 0, none⟩) := ha 0 (by decide)
        obtain ⟨w13, h13, r13⟩ := hp 5 (by decide)
        have e13 : (ac.tmps[13]?).getD undef = .bool true := (ha 13 (by decide)).trans h13
        clear h13
        clear ha hp
        refine Reg.Op1.guarded rfl rfl e13 (fun _ => Reg.Op1.plain rfl ?_) (fun h => absurd rfl h)
        go_wp2
        exact ⟨rfl, hK _ _ rfl (Reg.Wr.same _)⟩
      · intro val ac u hR hp ha K hK      -- 7: t15 := Op.nilCheck t14
        obtain ⟨w14, h14, r14⟩ := hp 6 (by decide)
        have e14 : (ac.tmps[14]?).getD undef = .pointer (some ⟨gc, 0, none⟩) := (ha 14 (by decide)).trans h14
        clear h14
        obtain ⟨w13, h13, r13⟩ := hp 5 (by decide)
        have e13 : (ac.tmps[13]?).getD undef = .bool true := (ha 13 (by decide)).trans h13
        clear h13
        clear ha hp
        refine Reg.Op1.guarded rfl rfl e13 (fun _ => Reg.Op1.plain rfl ?_) (fun h => absurd rfl h)
        go_wp2
        exact ⟨rfl, hK _ _ rfl (Reg.Wr.same _)⟩
      · intro val ac u hR hp ha K hK      -- 8: t16 := Op.fieldAddr 66 t15 0
        obtain ⟨w15, h15, r15⟩ := hp 7 (by decide)
        have e15 : (ac.tmps[15]?).getD undef = .pointer (some ⟨gc, 0, none⟩) := (ha 15 (by decide)).trans h15
        clear h15
        obtain ⟨w13, h13, r13⟩ := hp 5 (by decide)
        have e13 : (ac.tmps[13]?).getD undef = .bool true := (ha 13 (by decide)).trans h13
        clear h13
        clear ha hp
        refine Reg.Op1.guarded rfl rfl e13 (fun _ => Reg.Op1.plain rfl ?_) (fun h => absurd rfl h)
        go_wp2
        exact ⟨rfl, hK _ _ rfl (Reg.Wr.same _)⟩
      · intro val ac u hR hp ha K hK      -- 9: t17 := Op.load 22 t16
        obtain ⟨w16, h16, r16⟩ := hp 8 (by decide)
        have e16 : (ac.tmps[16]?).getD undef = .pointer (some ⟨gc, 0, none⟩) := (ha 16 (by decide)).trans h16
        clear h16
        obtain ⟨w13, h13, r13⟩ := hp 5 (by decide)
        have e13 : (ac.tmps[13]?).getD undef = .bool true := (ha 13 (by decide)).trans h13
        clear h13
        clear ha hp
        refine Reg.Op1.guarded rfl rfl e13 (fun _ => Reg.Op1.plain rfl ?_) (fun h => absurd rfl h)
        have x0 := (((Reg.Wr.all hR)).cell (p := ⟨gc, 0, none⟩) (hcl) ((fun h => h.elim id (fun h => h.elim id id)))).trans (c0)
        go_wp2
        exact ⟨rfl, hK _ _ rfl (Reg.Wr.same _)⟩
      · intro val ac u hR hp ha K hK      -- 10: t18 := Op.move t0
        have e0 : (ac.tmps[0]?).getD undef = .pointer (some ⟨gc, 0, none⟩) := ha 0 (by decide)
        obtain ⟨w13, h13, r13⟩ := hp 5 (by decide)
        have e13 : (ac.tmps[13]?).getD undef = .bool true := (ha 13 (by decide)).trans h13
        clear h13
        clear ha hp
        refine Reg.Op1.guarded rfl rfl e13 (fun _ => Reg.Op1.plain rfl ?_) (fun h => absurd rfl h)
        go_wp2
        exact ⟨rfl, hK _ _ rfl (Reg.Wr.same _)⟩
      · intro val ac u hR hp ha K hK      -- 11: t19 := Op.nilCheck t18
        obtain ⟨w18, h18, r18⟩ := hp 10 (by decide)
        have e18 : (ac.tmps[18]?).getD undef = .pointer (some ⟨gc, 0, none⟩) := (ha 18 (by decide)).trans h18
        clear h18
        obtain ⟨w13, h13, r13⟩ := hp 5 (by decide)
        have e13 : (ac.tmps[13]?).getD undef = .bool true := (ha 13 (by decide)).trans h13
        clear h13
        clear ha hp
        refine Reg.Op1.guarded rfl rfl e13 (fun _ => Reg.Op1.plain rfl ?_) (fun h => absurd rfl h)
        go_wp2
        exact ⟨rfl, hK _ _ rfl (Reg.Wr.same _)⟩
      · intro val ac u hR hp ha K hK      -- 12: t20 := Op.fieldAddr 66 t19 2
        obtain ⟨w19, h19, r19⟩ := hp 11 (by decide)
        have e19 : (ac.tmps[19]?).getD undef = .pointer (some ⟨gc, 0, none⟩) := (ha 19 (by decide)).trans h19
        clear h19
        obtain ⟨w13, h13, r13⟩ := hp 5 (by decide)
        have e13 : (ac.tmps[13]?).getD undef = .bool true := (ha 13 (by decide)).trans h13
        clear h13
        clear ha hp
        refine Reg.Op1.guarded rfl rfl e13 (fun _ => Reg.Op1.plain rfl ?_) (fun h => absurd rfl h)
        go_wp2
        exact ⟨rfl, hK _ _ rfl (Reg.Wr.same _)⟩
      · intro val ac u hR hp ha K hK      -- 13: t21 := Op.load 3 t20
        obtain ⟨w20, h20, r20⟩ := hp 12 (by decide)
        have e20 : (ac.tmps[20]?).getD undef = .pointer (some ⟨gc, 2, none⟩) := (ha 20 (by decide)).trans h20
        clear h20
        obtain ⟨w13, h13, r13⟩ := hp 5 (by decide)
        have e13 : (ac.tmps[13]?).getD undef = .bool true := (ha 13 (by decide)).trans h13
        clear h13
        clear ha hp
        refine Reg.Op1.guarded rfl rfl e13 (fun _ => Reg.Op1.plain rfl ?_) (fun h => absurd rfl h)
        have x0 := (((Reg.Wr.all hR)).cell (p := ⟨gc, 2, none⟩) (hcl) ((fun h => h.elim id (fun h => h.elim id id)))).trans (c2)
        go_wp2
        exact ⟨rfl, hK _ _ rfl (Reg.Wr.same _)⟩
      · intro val ac u hR hp ha K hK      -- 14: t22 := Op.slice 22 t17 none (some t21) none
        obtain ⟨w17, h17, r17⟩ := hp 9 (by decide)
        have e17 : (ac.tmps[17]?).getD undef = .slice k.hA k.h.length k.hc := (ha 17 (by decide)).trans h17
        clear h17
        obtain ⟨w21, h21, r21⟩ := hp 13 (by decide)
        have e21 : (ac.tmps[21]?).getD undef = .int .i64 (k.at' : Int) := (ha 21 (by decide)).trans h21
        clear h21
        obtain ⟨w13, h13, r13⟩ := hp 5 (by decide)
        have e13 : (ac.tmps[13]?).getD undef = .bool true := (ha 13 (by decide)).trans h13
        clear h13
        clear ha hp
        refine Reg.Op1.guarded rfl rfl e13 (fun _ => Reg.Op1.plain rfl ?_) (fun h => absurd rfl h)
        have s5 := fun s => sliced_front (A := k.hA) (c := k.hc) s k.at'
        go_wp2
        exact ⟨rfl, hK _ _ rfl (Reg.Wr.same _)⟩
      · intro val ac u hR hp ha K hK      -- 15: t23 := Op.makeFunc (Fn.func 68) #[] #[t5]
        have e5 : (ac.tmps[5]?).getD undef = .pointer (some ⟨gx, 0, none⟩) := ha 5 (by decide)
        obtain ⟨w13, h13, r13⟩ := hp 5 (by decide)
        have e13 : (ac.tmps[13]?).getD undef = .bool true := (ha 13 (by decide)).trans h13
        clear h13
        clear ha hp
        refine Reg.Op1.guarded rfl rfl e13 (fun _ => Reg.Op1.plain rfl ?_) (fun h => absurd rfl h)
        go_wp2
        exact ⟨rfl, hK _ _ rfl (Reg.Wr.same _)⟩
      · intro val ac u hR hp ha K hK      -- 16: t24 := Op.call { value (Operand.func 67), args := #[t22, t23], argTypes := #[22, 84] }
        obtain ⟨w22, h22, r22⟩ := hp 14 (by decide)
        have e22 : (ac.tmps[22]?).getD undef = .slice k.hA k.at' k.hc := (ha 22 (by decide)).trans h22
        clear h22
        obtain ⟨w23, h23, r23⟩ := hp 15 (by decide)
        have e23 : (ac.tmps[23]?).getD undef = .func (.func 68) #[] #[.pointer (some ⟨gx, 0, none⟩)] := (ha 23 (by decide)).trans h23
        clear h23
        obtain ⟨w13, h13, r13⟩ := hp 5 (by decide)
        have e13 : (ac.tmps[13]?).getD undef = .bool true := (ha 13 (by decide)).trans h13
        clear h13
        clear ha hp
        refine Reg.Op1.guarded rfl rfl e13 (fun _ => Reg.Op1.plain rfl ?_) (fun h => absurd rfl h)
        have hk0 : Mem.Keeps (fun _ => False) w2 u := (Mem.Keeps.refl (fun _ => False) w2).drew.trans (Reg.Wr.all hR) (fun _ h _ => h.elim id (fun h => h.elim id id))
        have hCu := HC2.out.below hk0.belowAll
        have hEu := HE2.out.keeps hk0 id
        have hlen : (k.h.take k.at').length = k.at' := by rw [List.length_take]; have := hCu.a; omega
        have hrd := hCu.H.take (k.at' * 20)
        rw [Mem.flat_take evCells_length] at hrd
        have hp := Ae.contains_any 68 #[.pointer (some ⟨gx, 0, none⟩)] (askM r.e) (enters_of Try.func68 (by kernel_rfl) rfl) k.hA k.hc (k.h.take k.at') B u (fun W e he hkk => askM_any ((hCu.E e (List.mem_of_mem_take he)).below (hkk.belowAll.mono hCu.le) (Nat.le_refl _)) (Nat.le_trans hCu.le hkk.size) (hEu.keeps hkk id)) hrd hCu.le (by rw [hlen]; have := hCu.hn; unfold maxLen; omega)
        rw [hlen] at hp
        clear hCu hEu hrd hlen
        go_wp2_with fail
        refine hp.mono ?_
        rintro x w' ⟨rfl, hb'⟩
        go_wp2_with fail
        exact ⟨rfl, hK _ _ rfl (Reg.Wr.below hb')⟩
      · intro val ac u hR hp ha K hK      -- 17: t25 := Op.pick t13 t24 (const (Value.bool false))
        obtain ⟨w13, h13, r13⟩ := hp 5 (by decide)
        have e13 : (ac.tmps[13]?).getD undef = .bool true := (ha 13 (by decide)).trans h13
        clear h13
        obtain ⟨w24, h24, r24⟩ := hp 16 (by decide)
        have e24 : (ac.tmps[24]?).getD undef = .bool ((k.h.take k.at').any (askM r.e)) := (ha 24 (by decide)).trans h24
        clear h24
        clear ha hp
        refine Reg.Op1.plain rfl ?_
        go_wp2
        exact ⟨rfl, hK _ _ rfl (Reg.Wr.same _)⟩
      · intro val ac u hR hp ha K hK      -- 18: t4 := Op.assign t25
        obtain ⟨w25, h25, r25⟩ := hp 17 (by decide)
        have e25 : (ac.tmps[25]?).getD undef = .bool ((k.h.take k.at').any (askM r.e)) := (ha 25 (by decide)).trans h25
        clear h25
        clear ha hp
        refine Reg.Op1.plain rfl ?_
        go_wp2
        exact ⟨rfl, hK _ _ rfl (Reg.Wr.same _)⟩
    intro val u hR H
    obtain ⟨_, hv9, _⟩ := H 18 (by decide)
    have hk8 : Mem.Keeps (fun _ => False) w2 u := ((Mem.Keeps.refl (fun _ => False) w2).drew.trans (Reg.Wr.all hR) (fun _ h _ => h.elim id (fun h => h.elim id id)))
    simp only [List.map_cons, List.map_nil, Reg.lay, Act.put, List.setIfInBounds_toArray, List.set_cons_succ, List.set_cons_zero, Nat.reduceAdd]
    rw [hv9]
    have HK8 := Lib.hid hk8
    clear hR H hv9 hk8
    go_wp2
    go_ret
    exact ⟨by rw [HS.out]; rfl, HB2.out.trans (HK8.out.belowAll.mono HB2.out.size)⟩
  · have s1 := Vec.str_ne hkey
    have HS : Hid (askedP k r = false) := by show _ = _; simp [askedP, hkey]
    clear hkey
    go_upto_region 2 with fail
    go_quiet (fail)
    go_wp2
    go_ret
    exact ⟨by rw [HS.out]; rfl, Mem.below_drewN HB2.out _⟩
end Go.Proofs.Ytelephoalpphkaa
