/- The walks of rules$6 and rules$1. No conditions but that lists are few. -/
import Derived.Test.YtelephoalpphkaaAud12
set_option maxRecDepth 8000
namespace Go.Proofs.Ytelephoalpphkaa
open Go.ChangeShapes Go.WideShapes Go.ChangeAt Go.RowKit
set_option linter.unusedVariables false
set_option linter.unusedSimpArgs false
namespace Au
/-- is a result not what its cut sees? -/
def seesF (k : Ck) (e : Ev) (r : Rs) : Bool := ((Vec.visible r.key e.cut k.ws).2 != r.has) || !Vec.eqEnt (Vec.visible r.key e.cut k.ws).1 r.e
def r8 (k : Ck) (e : Ev) : Bool := !(e.res.any (seesF k e))
def r2 (s : Ss) (e : Ev) : Bool := s.under && (decide (e.op = s.begun.op) && (decide (e.kind = s.begun.kind) && (decide (e.keys = s.begun.keys) && decide (e.val = s.begun.val))))
end Au
open Au in
set_option maxHeartbeats 4000000 in
theorem seesF_any {w : World} {B gc bc gs bs ge : Nat} {k : Au.Ck} {s : Au.Ss} {e : Au.Ev} (hC : Au.Cx w B gc bc gs bs k s) (hE : Au.VBx w ge e) (r : Au.Rs) :
    Calls Try.prog 58 #[.agg (Au.rsCells r).toArray, .pointer (some ⟨ge, 0, none⟩), .pointer (some ⟨bc, 0, none⟩)] w fun x w' => x = .returned (.bool (Au.seesF k e r)) ∧ Below w.heap.size w w' := by
  have hB1 : Below w.heap.size w (w.alloc (.cells (Au.rsCells r).toArray 48)) := Reg.below_new _ _
  have hX1 : Au.RBx (w.alloc (.cells (Au.rsCells r).toArray 48)) w.heap.size r := Mem.Bx.new w 48 (Au.rsCells r).toArray rfl rfl
  obtain ⟨w1, hw1⟩ : ∃ w1, w.alloc (.cells (Au.rsCells r).toArray 48) = w1 := ⟨_, rfl⟩
  rw [hw1] at hB1 hX1
  have HB1 := Lib.hid hB1
  have HX1 := Lib.hid hX1
  unfold Au.rsCells Vec.entCells at hw1 ⊢
  simp only [List.cons_append, List.nil_append] at hw1 ⊢
  clear hB1 hX1
  have HE1 := Lib.hid (hE.below HB1.out hE.lt)
  have HC1 := Lib.hid (hC.below HB1.out)
  clear hE hC
  go_enter Try.func58, Try.ntmps58
  go_upto_region 1 with fail
  try rw [hw1]
  clear hw1
  have x0 : w1.cell? ⟨w.heap.size, 0, none⟩ = some (.string r.key) := HX1.out.cell (j := 0) rfl
  have y0 : w1.cell? ⟨bc, 0, none⟩ = some (.pointer (some ⟨gc, 0, none⟩)) := HC1.out.pc.cell (j := 0) rfl
  have y1 : w1.cell? ⟨gc, 1, none⟩ = some (.slice k.wA k.ws.length k.wc) := HC1.out.c.cell (j := 1) rfl
  have hxl : w.heap.size < w1.heap.size := HX1.out.lt
  have hbl : bc < w1.heap.size := HC1.out.pc.lt
  have hgl : gc < w1.heap.size := HC1.out.c.lt
  have nxl : ¬ (w1.heap.size ≤ w.heap.size ∨ False ∨ False) := fun h => h.elim (fun h => by omega) (fun h => h.elim id id)
  have nbl : ¬ (w1.heap.size ≤ bc ∨ False ∨ False) := fun h => h.elim (fun h => by omega) (fun h => h.elim id id)
  have ngl : ¬ (w1.heap.size ≤ gc ∨ False ∨ False) := fun h => h.elim (fun h => by omega) (fun h => h.elim id id)
  have hwm : k.ws.length ≤ maxLen := by have := HC1.out.wl; have := HC1.out.wn; unfold maxLen; omega
  obtain ⟨⟨m, fd⟩, hmf⟩ : ∃ mf, Vec.visible r.key e.cut k.ws = mf := ⟨_, rfl⟩
  have HS : Hid (seesF k e r = ((fd != r.has) || !Vec.eqEnt m r.e)) := by show _ = _; unfold seesF; rw [hmf]
  have HVF : Hid (∀ w, Mem.Rd w B k.wA (k.ws.flatMap Vec.entCells) → B ≤ w.heap.size → Calls Try.prog 15 #[.string r.key, .agg (Vec.vcCells e.cut).toArray, .slice k.wA k.ws.length k.wc] w fun x w' => x = .returned (.tuple #[.agg (Vec.entCells m).toArray, .bool fd]) ∧ Below w.heap.size w w') := fun w h1 h2 => by
    have := visible_any r.key e.cut k.wA k.wc k.ws B w h1 h2 hwm
    rw [hmf] at this
    exact this
  clear hmf
  refine Reg.wp_region_z (by kernel_rfl) 29 15 rfl rfl (by kernel_rfl) 90 91 (by decide) (13) (fun y => w1.heap.size ≤ y) (0) (fun _ => False) (0) (fun _ => False)
    (fun i f v u => match i with
      | 0 => v = .pointer (some ⟨w.heap.size, 0, none⟩)
      | 1 => v = .string r.key
      | 2 => v = .pointer (some ⟨ge, 11, none⟩)
      | 3 => v = .agg (Vec.vcCells e.cut).toArray
      | 4 => v = .pointer (some ⟨gc, 0, none⟩)
      | 5 => v = .pointer (some ⟨gc, 0, none⟩)
      | 6 => v = .pointer (some ⟨gc, 1, none⟩)
      | 7 => v = .slice k.wA k.ws.length k.wc
      | 8 => v = .tuple #[.agg (Vec.entCells m).toArray, .bool fd]
      | 9 => v = .tuple #[.agg (Vec.entCells m).toArray, .bool fd]
      | 10 => v = .agg (Vec.entCells m).toArray
      | 11 => v = .bool fd
      | 12 => ∃ q, v = .pointer (some ⟨q, 0, none⟩) ∧ w1.heap.size ≤ q ∧ Vec.EBx u q Vec.ent0
      | 13 => ∃ q, f 5 = .pointer (some ⟨q, 0, none⟩) ∧ w1.heap.size ≤ q ∧ Vec.EBx u q m
      | 14 => v = .bool fd
      | _ => True) ?_ ?_
  · refine Reg.StepsZ.cons ?_ (Reg.StepsZ.cons ?_ (Reg.StepsZ.cons ?_ (Reg.StepsZ.cons ?_ (Reg.StepsZ.cons ?_ (Reg.StepsZ.cons ?_ (Reg.StepsZ.cons ?_ (Reg.StepsZ.cons ?_ (Reg.StepsZ.cons ?_ (Reg.StepsZ.cons ?_ (Reg.StepsZ.cons ?_ (Reg.StepsZ.cons ?_ (Reg.StepsZ.cons ?_ (Reg.StepsZ.cons ?_ (Reg.StepsZ.cons ?_ (Reg.StepsZ.nil _)))))))))))))))
    · intro val ac u hR hp hpq ha K hK0      -- 0: t8 := Op.fieldAddr 48 t3 0
      have hK := fun v w' h1 h2 => hK0 v w' h1 h2 (fun j f v' h _ => by omega)
      have e3 : (ac.tmps[3]?).getD undef = .pointer (some ⟨w.heap.size, 0, none⟩) := ha 3 (by decide)
      clear ha hp
      refine Reg.Op1.plain rfl ?_
      go_wp2
      exact ⟨rfl, hK _ _ rfl (Reg.Wr.same _)⟩
    · intro val ac u hR hp hpq ha K hK0      -- 1: t9 := Op.load 9 t8
      have hK := fun v w' h1 h2 => hK0 v w' h1 h2 (fun j f v' h _ => by omega)
      obtain ⟨w8, h8, r8⟩ := hp 0 (by decide)
      have e8 : (ac.tmps[8]?).getD undef = .pointer (some ⟨w.heap.size, 0, none⟩) := (ha 8 (by decide)).trans h8
      clear h8
      clear ha hp
      refine Reg.Op1.plain rfl ?_
      have x0 := (((Reg.Wr.all hR)).cell (p := ⟨w.heap.size, 0, none⟩) (hxl) (nxl)).trans (x0)
      go_wp2
      exact ⟨rfl, hK _ _ rfl (Reg.Wr.same _)⟩
    · intro val ac u hR hp hpq ha K hK0      -- 2: t10 := Op.fieldAddr 46 t1 8
      have hK := fun v w' h1 h2 => hK0 v w' h1 h2 (fun j f v' h _ => by omega)
      have e1 : (ac.tmps[1]?).getD undef = .pointer (some ⟨ge, 0, none⟩) := ha 1 (by decide)
      clear ha hp
      refine Reg.Op1.plain rfl ?_
      go_wp2
      exact ⟨rfl, hK _ _ rfl (Reg.Wr.same _)⟩
    · intro val ac u hR hp hpq ha K hK0      -- 3: t11 := Op.load 33 t10
      have hK := fun v w' h1 h2 => hK0 v w' h1 h2 (fun j f v' h _ => by omega)
      obtain ⟨w10, h10, r10⟩ := hp 2 (by decide)
      have e10 : (ac.tmps[10]?).getD undef = .pointer (some ⟨ge, 11, none⟩) := (ha 10 (by decide)).trans h10
      clear h10
      clear ha hp
      refine Reg.Op1.plain rfl ?_
      have hXu := HE1.out.keeps ((Mem.Keeps.refl (fun y => w1.heap.size ≤ y ∨ False ∨ False) w1).drew.trans (Reg.Wr.all hR) (fun _ h _ => h)) (fun h => h.elim (fun h => by have := HE1.out.lt; omega) (fun h => h.elim id id))
      refine Mem.load_agg _ _ vec_agg ge 11 (Vec.vcCells e.cut) (Reg.eval_of e10) (Vec.vcCells_length _) (VBx.cut hXu) ?_
      exact ⟨rfl, hK _ _ rfl (Reg.Wr.same _)⟩
    · intro val ac u hR hp hpq ha K hK0      -- 4: t12 := Op.load 63 t2
      have hK := fun v w' h1 h2 => hK0 v w' h1 h2 (fun j f v' h _ => by omega)
      have e2 : (ac.tmps[2]?).getD undef = .pointer (some ⟨bc, 0, none⟩) := ha 2 (by decide)
      clear ha hp
      refine Reg.Op1.plain rfl ?_
      have x0 := (((Reg.Wr.all hR)).cell (p := ⟨bc, 0, none⟩) (hbl) (nbl)).trans (y0)
      go_wp2
      exact ⟨rfl, hK _ _ rfl (Reg.Wr.same _)⟩
    · intro val ac u hR hp hpq ha K hK0      -- 5: t13 := Op.nilCheck t12
      have hK := fun v w' h1 h2 => hK0 v w' h1 h2 (fun j f v' h _ => by omega)
      obtain ⟨w12, h12, r12⟩ := hp 4 (by decide)
      have e12 : (ac.tmps[12]?).getD undef = .pointer (some ⟨gc, 0, none⟩) := (ha 12 (by decide)).trans h12
      clear h12
      clear ha hp
      refine Reg.Op1.plain rfl ?_
      go_wp2
      exact ⟨rfl, hK _ _ rfl (Reg.Wr.same _)⟩
    · intro val ac u hR hp hpq ha K hK0      -- 6: t14 := Op.fieldAddr 66 t13 1
      have hK := fun v w' h1 h2 => hK0 v w' h1 h2 (fun j f v' h _ => by omega)
      obtain ⟨w13, h13, r13⟩ := hp 5 (by decide)
      have e13 : (ac.tmps[13]?).getD undef = .pointer (some ⟨gc, 0, none⟩) := (ha 13 (by decide)).trans h13
      clear h13
      clear ha hp
      refine Reg.Op1.plain rfl ?_
      go_wp2
      exact ⟨rfl, hK _ _ rfl (Reg.Wr.same _)⟩
    · intro val ac u hR hp hpq ha K hK0      -- 7: t15 := Op.load 23 t14
      have hK := fun v w' h1 h2 => hK0 v w' h1 h2 (fun j f v' h _ => by omega)
      obtain ⟨w14, h14, r14⟩ := hp 6 (by decide)
      have e14 : (ac.tmps[14]?).getD undef = .pointer (some ⟨gc, 1, none⟩) := (ha 14 (by decide)).trans h14
      clear h14
      clear ha hp
      refine Reg.Op1.plain rfl ?_
      have x0 := (((Reg.Wr.all hR)).cell (p := ⟨gc, 1, none⟩) (hgl) (ngl)).trans (y1)
      go_wp2
      exact ⟨rfl, hK _ _ rfl (Reg.Wr.same _)⟩
    · intro val ac u hR hp hpq ha K hK0      -- 8: t16 := Op.call { value (Operand.func 15), args := #[t9, t11, t15], argTypes := #[9, 33, 23] }
      have hK := fun v w' h1 h2 => hK0 v w' h1 h2 (fun j f v' h _ => by omega)
      obtain ⟨w9, h9, r9⟩ := hp 1 (by decide)
      have e9 : (ac.tmps[9]?).getD undef = .string r.key := (ha 9 (by decide)).trans h9
      clear h9
      obtain ⟨w11, h11, r11⟩ := hp 3 (by decide)
      have e11 : (ac.tmps[11]?).getD undef = .agg (Vec.vcCells e.cut).toArray := (ha 11 (by decide)).trans h11
      clear h11
      obtain ⟨w15, h15, r15⟩ := hp 7 (by decide)
      have e15 : (ac.tmps[15]?).getD undef = .slice k.wA k.ws.length k.wc := (ha 15 (by decide)).trans h15
      clear h15
      clear ha hp
      refine Reg.Op1.plain rfl ?_
      have hk0 := ((Mem.Keeps.refl (fun y => w1.heap.size ≤ y ∨ False ∨ False) w1).drew.trans (Reg.Wr.all hR) (fun _ h _ => h))
      have hrd := HC1.out.W.keeps hk0 (fun q h => h.elim (fun h => Nat.le_trans HC1.out.le h) (fun h => (h.elim id id).elim)) HC1.out.le
      go_wp2_with fail
      refine (HVF.out u hrd (Nat.le_trans HC1.out.le hk0.size)).mono ?_
      rintro x w' ⟨rfl, hb'⟩
      go_wp2_with fail
      exact ⟨rfl, hK _ _ rfl (Reg.Wr.below hb')⟩
    · intro val ac u hR hp hpq ha K hK0      -- 9: t7 := Op.move t16
      have hK := fun v w' h1 h2 => hK0 v w' h1 h2 (fun j f v' h _ => by omega)
      obtain ⟨w16, h16, r16⟩ := hp 8 (by decide)
      have e16 : (ac.tmps[16]?).getD undef = .tuple #[.agg (Vec.entCells m).toArray, .bool fd] := (ha 16 (by decide)).trans h16
      clear h16
      clear ha hp
      refine Reg.Op1.plain rfl ?_
      go_wp2
      exact ⟨rfl, hK _ _ rfl (Reg.Wr.same _)⟩
    · intro val ac u hR hp hpq ha K hK0      -- 10: t17 := Op.extract t7 0
      have hK := fun v w' h1 h2 => hK0 v w' h1 h2 (fun j f v' h _ => by omega)
      obtain ⟨w7, h7, r7⟩ := hp 9 (by decide)
      have e7 : (ac.tmps[7]?).getD undef = .tuple #[.agg (Vec.entCells m).toArray, .bool fd] := (ha 7 (by decide)).trans h7
      clear h7
      clear ha hp
      refine Reg.Op1.plain rfl ?_
      go_wp2
      exact ⟨rfl, hK _ _ rfl (Reg.Wr.same _)⟩
    · intro val ac u hR hp hpq ha K hK0      -- 11: t18 := Op.extract t7 1
      have hK := fun v w' h1 h2 => hK0 v w' h1 h2 (fun j f v' h _ => by omega)
      obtain ⟨w7, h7, r7⟩ := hp 9 (by decide)
      have e7 : (ac.tmps[7]?).getD undef = .tuple #[.agg (Vec.entCells m).toArray, .bool fd] := (ha 7 (by decide)).trans h7
      clear h7
      clear ha hp
      refine Reg.Op1.plain rfl ?_
      go_wp2
      exact ⟨rfl, hK _ _ rfl (Reg.Wr.same _)⟩
    · intro val ac u hR hp hpq ha K hK0      -- 12: t5 := Op.alloc 35
      have hK := fun v w' h1 h2 => hK0 v w' h1 h2 (fun j f v' h _ => by omega)
      clear ha hp
      refine Reg.Op1.plain rfl ?_
      have hbu : w1.heap.size ≤ u.heap.size := (Reg.Wr.all hR).size
      go_wp2
      exact ⟨rfl, hK _ _ ⟨u.heap.size, rfl, hbu, Mem.Bx.new u 35 (Vec.entCells Vec.ent0).toArray rfl rfl⟩ (Reg.Wr.quiet ((Mem.Keeps.refl _ u).alloc _))⟩
    · intro val ac u hR hp hpq ha K hK0      -- 13: Op.store 35 t5 t17
      have hK := fun v w' h1 h2 => hK0 v w' h1 h2 (fun j f v' h _ => by omega)
      obtain ⟨w5, h5, r5⟩ := hp 12 (by decide)
      have e5 : (ac.tmps[5]?).getD undef = val 12 := ha 5 (by decide)
      obtain ⟨w17, h17, r17⟩ := hp 10 (by decide)
      have e17 : (ac.tmps[17]?).getD undef = .agg (Vec.entCells m).toArray := (ha 17 (by decide)).trans h17
      clear h17
      clear ha hp
      refine Reg.Op1.plain rfl ?_
      obtain ⟨q, hv, hs, hbx⟩ := h5
      have hv7 := hv
      rw [hv] at e5
      have hbx' : Vec.EBx u q Vec.ent0 := hbx.keeps (Reg.Wr.not1 r5 (by decide +kernel)) (fun h => h.elim id id)
      refine Mem.store_agg _ _ entry_agg q (Vec.entCells Vec.ent0) (Vec.entCells m) (Reg.eval_of e5) (Reg.eval_of e17) hbx' (Vec.entCells_length _) (Vec.ent_one _) ?_
      intro w' hb hk hs'
      exact ⟨rfl, hK undef _ ⟨q, hv7, hs, hb⟩ (Reg.Wr.does1 (hk.mono (fun i h _ => by show w1.heap.size ≤ i; omega)))⟩
    · intro val ac u hR hp hpq ha K hK0      -- 14: t6 := Op.assign t18
      have hK := fun v w' h1 h2 => hK0 v w' h1 h2 (fun j f v' h _ => by omega)
      obtain ⟨w18, h18, r18⟩ := hp 11 (by decide)
      have e18 : (ac.tmps[18]?).getD undef = .bool fd := (ha 18 (by decide)).trans h18
      clear h18
      clear ha hp
      refine Reg.Op1.plain rfl ?_
      go_wp2
      exact ⟨rfl, hK _ _ rfl (Reg.Wr.same _)⟩
  intro val u hR H hZ
  obtain ⟨wA, ⟨q, hv7, hs, hb⟩, rA⟩ := H 13 (by decide)
  have hv7 : val 12 = .pointer (some ⟨q, 0, none⟩) := hv7
  obtain ⟨_, hv14, _⟩ := H 14 (by decide)
  have HM2 : Hid (Vec.EBx u q m) := hb.keeps (Reg.Wr.not1 rA (by decide +kernel)) (fun h => h.elim id id)
  have hk8 := ((Mem.Keeps.refl (fun y => w1.heap.size ≤ y ∨ False ∨ False) w1).drew.trans (Reg.Wr.all hR) (fun _ h _ => h))
  have HX2 : Hid (RBx u w.heap.size r) := HX1.out.keeps hk8 (fun h => h.elim (fun h => by omega) (fun h => h.elim id id))
  have HB2 : Hid (Below w.heap.size w u) := HB1.out.trans (hk8.below (fun y h => h.elim (fun h => by have := HB1.out.size; omega) (fun h => (h.elim id id).elim)) HB1.out.size)
  simp only [List.map_cons, List.map_nil, Reg.lay, Act.put, List.setIfInBounds_toArray, List.set_cons_succ, List.set_cons_zero, Nat.reduceAdd]
  rw [hv7, hv14]
  clear hR H hZ hk8 hv7 hv14 hs hb rA x0 y0 y1
  have x1 : u.cell? ⟨w.heap.size, 1, none⟩ = some (.bool r.has) := HX2.out.cell (j := 1) rfl
  have HENT : Hid (∀ j u', (Vec.entCells r.e)[j]? = some u' → u.cell? ⟨w.heap.size, 2 + j, none⟩ = some u') := RBx.ent HX2.out
  have HMC : Hid (∀ j u', (Vec.entCells m)[j]? = some u' → u.cell? ⟨q, 0 + j, none⟩ = some u') := fun j u' hu => by rw [Nat.zero_add]; exact HM2.out.cell hu
  have hne : ∀ W, (binOp .neq 35 (.agg (Vec.entCells m).toArray) (.agg (Vec.entCells r.e).toArray)).run Try.prog W = .ok (.bool (!Vec.eqEnt m r.e)) W := fun W => neq_ent m r.e W
  obtain ⟨rh, hrh⟩ : ∃ rh, r.has = rh := ⟨_, rfl⟩
  rw [hrh] at HS x1
  clear hrh
  obtain ⟨eq, heq⟩ : ∃ eq, Vec.eqEnt m r.e = eq := ⟨_, rfl⟩
  rw [heq] at HS
  simp only [heq] at hne
  have HNE := Lib.hid hne
  clear hne
  clear heq
  cases rh
  · cases fd
    ·
      have HS2 : Hid (seesF k e r = !eq) := by show _ = _; rw [HS.out]; simp
      clear HS
      clear HC1 HE1 HB1 HX1 HVF hxl hbl hgl nxl nbl ngl hwm HM2 HX2
      go_wp2_with (first | ((with_reducible refine Mem.load_aggG _ _ entry_agg q 0 (Vec.entCells m) ?hwa ?hxa (Vec.entCells_length _) HMC.out ?_); ((case hwa => rfl); (case hxa => exact rfl); clear HMC; have hne := HNE.out)) | ((with_reducible refine Mem.load_aggG _ _ entry_agg w.heap.size 2 (Vec.entCells r.e) ?hwb ?hxb (Vec.entCells_length _) HENT.out ?_); ((case hwb => rfl); (case hxb => exact rfl))))
      go_ret
      exact ⟨by rw [HS2.out]; rfl, HB2.out⟩
    ·
      have HS2 : Hid (seesF k e r = true) := by show _ = _; rw [HS.out]; simp
      clear HS
      go_wp2
      go_ret
      exact ⟨by rw [HS2.out]; rfl, HB2.out⟩
  · cases fd
    ·
      have HS2 : Hid (seesF k e r = true) := by show _ = _; rw [HS.out]; simp
      clear HS
      go_wp2
      go_ret
      exact ⟨by rw [HS2.out]; rfl, HB2.out⟩
    ·
      have HS2 : Hid (seesF k e r = !eq) := by show _ = _; rw [HS.out]; simp
      clear HS
      clear HC1 HE1 HB1 HX1 HVF hxl hbl hgl nxl nbl ngl hwm HM2 HX2
      go_wp2_with (first | ((with_reducible refine Mem.load_aggG _ _ entry_agg q 0 (Vec.entCells m) ?hwa ?hxa (Vec.entCells_length _) HMC.out ?_); ((case hwa => rfl); (case hxa => exact rfl); clear HMC; have hne := HNE.out)) | ((with_reducible refine Mem.load_aggG _ _ entry_agg w.heap.size 2 (Vec.entCells r.e) ?hwb ?hxb (Vec.entCells_length _) HENT.out ?_); ((case hwb => rfl); (case hxb => exact rfl))))
      go_ret
      exact ⟨by rw [HS2.out]; rfl, HB2.out⟩
end Go.Proofs.Ytelephoalpphkaa
