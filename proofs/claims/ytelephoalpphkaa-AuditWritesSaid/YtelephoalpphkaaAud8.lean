/- The walks of rules$3, rules$4, rules$7, rules$1. No conditions but that lists are few. -/
import Derived.Test.YtelephoalpphkaaAud7
set_option maxRecDepth 8000
namespace Go.Proofs.Ytelephoalpphkaa
open Go.ChangeShapes Go.WideShapes Go.ChangeAt Go.RowKit
set_option linter.unusedVariables false
set_option linter.unusedSimpArgs false
open Au in
set_option maxHeartbeats 4000000 in
theorem rule5_any {w : World} {B : Nat} {e : Au.Ev} (h : Au.EvOk w B e) (hB : B ≤ w.heap.size) :
    Calls Try.prog 50 #[.agg (Au.evCells e).toArray] w fun x w' => x = .returned (.bool (Au.r5 e)) ∧ Below w.heap.size w w' := by
  have hB1 : Below w.heap.size w (w.alloc (.cells (Au.evCells e).toArray 46)) := Reg.below_new _ _
  have hX1 : Au.VBx (w.alloc (.cells (Au.evCells e).toArray 46)) w.heap.size e := Mem.Bx.new w 46 (Au.evCells e).toArray rfl rfl
  obtain ⟨w1, hw1⟩ : ∃ w1, w.alloc (.cells (Au.evCells e).toArray 46) = w1 := ⟨_, rfl⟩
  rw [hw1] at hB1 hX1
  have HB1 := Lib.hid hB1
  have HX1 := Lib.hid hX1
  unfold Au.evCells at hw1 ⊢
  clear hB1 hX1
  have HQ := Lib.hid (Ar.contains_any 53 #[.pointer (some ⟨w.heap.size, 0, none⟩)] (Au.ownF e) (enters_of Try.func53 (by kernel_rfl) rfl) e.rA e.rc e.res w1.heap.size w1 (ownF_tells HX1.out id) (((h.r.more hB).below HB1.out).more HB1.out.size) (Nat.le_refl _) (by have := h.rl; have := h.rn; unfold maxLen; omega))
  have HP := Lib.hid (puts_any e.kind w1)
  clear h
  go_enter Try.func50, Try.ntmps50
  go_upto_region 1 with fail
  try rw [hw1]
  clear hw1
  have y2 : w1.cell? ⟨w.heap.size, 2, none⟩ = some (.int .i64 e.kind) := HX1.out.cell (j := 2) rfl
  have y9 : w1.cell? ⟨w.heap.size, 9, none⟩ = some (.int .i64 e.code) := HX1.out.cell (j := 9) rfl
  have y10 : w1.cell? ⟨w.heap.size, 10, none⟩ = some (.slice e.rA e.res.length e.rc) := HX1.out.cell (j := 10) rfl
  by_cases hc : e.code = 0
  · rw [hc] at y9
    obtain ⟨pk, hpk⟩ : ∃ pk, putsP e.kind = pk := ⟨_, rfl⟩
    have hpk2 : (e.kind == 1 || e.kind == 2) = pk := hpk
    rw [hpk2] at HP
    cases pk with
    | false =>
      have HS : Hid (r5 e = true) := by show _ = _; unfold r5; rw [hpk]; simp
      clear hc hpk hpk2
      go_wp2_with (go_at_call 51; (refine HP.out.mono ?_); rintro x w2 ⟨rfl, hw2⟩; obtain rfl := hw2.symm; clear HP hw2)
      go_ret
      exact ⟨by rw [HS.out]; rfl, HB1.out⟩
    | true =>
      have HS : Hid (r5 e = !(e.res.any (ownF e))) := by show _ = _; unfold r5; rw [hpk, hc]; simp
      clear hc hpk hpk2
      go_wp2_with (first | (go_at_call 51; (refine HP.out.mono ?_); rintro x w2 ⟨rfl, hw2⟩; obtain rfl := hw2.symm; clear HP hw2) | (go_at_call 52; (refine HQ.out.mono ?_); rintro x w3 ⟨rfl, hb3⟩; have HB3 := Lib.hid (HB1.out.trans (hb3.mono HB1.out.size)); clear hb3 HQ))
      go_ret
      exact ⟨by rw [HS.out]; rfl, HB3.out⟩
  · have HS : Hid (r5 e = true) := by show _ = _; unfold r5; simp [hc]
    have b0 : (e.code == 0) = false := by simpa using hc
    have b1 : (e.code != 0) = true := by simpa using hc
    go_wp2
    go_ret
    exact ⟨by rw [HS.out]; rfl, HB1.out⟩
namespace Au
/-- what the checker holds -/
structure Ck where
  hA : Option Addr
  hc : Nat
  h : List Ev
  wA : Option Addr
  wc : Nat
  ws : List Vec.Ent
  at' : Nat
  bm : Nat
def ckCells (k : Ck) : List Value := [.slice k.hA k.h.length k.hc, .slice k.wA k.ws.length k.wc, .int .i64 k.at', .map (some k.bm)]
/-- the checker, a session, their pointers' boxes in memory, as the rules find them -/
structure Cx (w : World) (B : Nat) (gc bc gs bs : Nat) (k : Ck) (s : Ss) : Prop where
  c : Mem.Bx w 66 4 gc (ckCells k)
  pc : Mem.Bx w 63 1 bc [.pointer (some ⟨gc, 0, none⟩)]
  sb : SBx w gs s
  ps : Mem.Bx w 78 1 bs [.pointer (some ⟨gs, 0, none⟩)]
  H : Mem.Rd w B k.hA (k.h.flatMap evCells)
  W : Mem.Rd w B k.wA (k.ws.flatMap Vec.entCells)
  E : ∀ e ∈ k.h, EvOk w B e
  b : EvOk w B s.begun
  le : B ≤ w.heap.size
  hl : k.h.length ≤ k.hc
  wl : k.ws.length ≤ k.wc
  hn : k.hc ≤ 9223372036854775807
  wn : k.wc ≤ 9223372036854775807
  a : k.at' ≤ k.h.length
theorem Cx.below {w w' : World} {B gc bc gs bs : Nat} {k : Ck} {s : Ss} (h : Cx w B gc bc gs bs k s) (hb : Below w.heap.size w w') : Cx w' B gc bc gs bs k s :=
  ⟨h.c.below hb h.c.lt, h.pc.below hb h.pc.lt, h.sb.below hb h.sb.lt, h.ps.below hb h.ps.lt, h.H.below (hb.mono h.le), h.W.below (hb.mono h.le), fun e he => (h.E e he).below (hb.mono h.le) (Nat.le_refl _), h.b.below (hb.mono h.le) (Nat.le_refl _), Nat.le_trans h.le hb.size, h.hl, h.wl, h.hn, h.wn, h.a⟩
def r6 (s : Ss) (e : Ev) : Bool := Vec.coversV e.cut s.cut
def r9 (k : Ck) (e : Ev) : Bool := Vec.closedP e.cut k.ws
end Au
open Au in
set_option maxHeartbeats 4000000 in
theorem rule6_any {w : World} {B gc bc gs bs : Nat} {k : Au.Ck} {s : Au.Ss} {e : Au.Ev} (hC : Au.Cx w B gc bc gs bs k s) :
    Calls Try.prog 54 #[.agg (Au.evCells e).toArray, .pointer (some ⟨bs, 0, none⟩)] w fun x w' => x = .returned (.bool (Au.r6 s e)) ∧ Below w.heap.size w w' := by
  have hB1 : Below w.heap.size w (w.alloc (.cells (Au.evCells e).toArray 46)) := Reg.below_new _ _
  have hX1 : Au.VBx (w.alloc (.cells (Au.evCells e).toArray 46)) w.heap.size e := Mem.Bx.new w 46 (Au.evCells e).toArray rfl rfl
  obtain ⟨w1, hw1⟩ : ∃ w1, w.alloc (.cells (Au.evCells e).toArray 46) = w1 := ⟨_, rfl⟩
  rw [hw1] at hB1 hX1
  have HB1 := Lib.hid hB1
  have HX1 := Lib.hid hX1
  unfold Au.evCells at hw1 ⊢
  clear hB1 hX1
  have HC := Lib.hid (hC.below HB1.out)
  clear hC
  go_enter Try.func54, Try.ntmps54
  go_upto_region 1 with fail
  try rw [hw1]
  clear hw1
  have y0 : w1.cell? ⟨bs, 0, none⟩ = some (.pointer (some ⟨gs, 0, none⟩)) := HC.out.ps.cell (j := 0) rfl
  have hbs : bs < w1.heap.size := HC.out.ps.lt
  refine Reg.wp_region_w (by kernel_rfl) 11 8 rfl rfl (by kernel_rfl) (0) (fun _ => False) (0) (fun _ => False) (0) (fun _ => False)
    (fun i v u => match i with
      | 0 => v = .pointer (some ⟨w.heap.size, 11, none⟩)
      | 1 => v = .agg (Vec.vcCells e.cut).toArray
      | 2 => v = .pointer (some ⟨gs, 0, none⟩)
      | 3 => v = .pointer (some ⟨gs, 0, none⟩)
      | 4 => v = .pointer (some ⟨gs, 23, none⟩)
      | 5 => v = .agg (Vec.vcCells s.cut).toArray
      | 6 => v = .bool (r6 s e)
      | 7 => v = .bool (r6 s e)
      | _ => True) ?_ ?_
  · refine Reg.Steps.cons ?_ (Reg.Steps.cons ?_ (Reg.Steps.cons ?_ (Reg.Steps.cons ?_ (Reg.Steps.cons ?_ (Reg.Steps.cons ?_ (Reg.Steps.cons ?_ (Reg.Steps.cons ?_ (Reg.Steps.nil _))))))))
    · intro val ac u hR hp ha K hK      -- 0: t4 := Op.fieldAddr 46 t2 8
      have e2 : (ac.tmps[2]?).getD undef = .pointer (some ⟨w.heap.size, 0, none⟩) := ha 2 (by decide)
      clear ha hp
      refine Reg.Op1.plain rfl ?_
      go_wp2
      exact ⟨rfl, hK _ _ rfl (Reg.Wr.same _)⟩
    · intro val ac u hR hp ha K hK      -- 1: t5 := Op.load 33 t4
      obtain ⟨w4, h4, r4⟩ := hp 0 (by decide)
      have e4 : (ac.tmps[4]?).getD undef = .pointer (some ⟨w.heap.size, 11, none⟩) := (ha 4 (by decide)).trans h4
      clear h4
      clear ha hp
      refine Reg.Op1.plain rfl ?_
      have hk0 : Mem.Keeps (fun _ => False) w1 u := (Mem.Keeps.refl (fun _ => False) w1).drew.trans (Reg.Wr.all hR) (fun _ h _ => h.elim id (fun h => h.elim id id))
      have hXu := HX1.out.keeps hk0 id
      refine Mem.load_agg _ _ vec_agg w.heap.size 11 (Vec.vcCells e.cut) (Reg.eval_of e4) (Vec.vcCells_length _) (VBx.cut hXu) ?_
      exact ⟨rfl, hK _ _ rfl (Reg.Wr.same _)⟩
    · intro val ac u hR hp ha K hK      -- 2: t6 := Op.load 78 t1
      have e1 : (ac.tmps[1]?).getD undef = .pointer (some ⟨bs, 0, none⟩) := ha 1 (by decide)
      clear ha hp
      refine Reg.Op1.plain rfl ?_
      have x0 := (((Reg.Wr.all hR)).cell (p := ⟨bs, 0, none⟩) (hbs) ((fun h => h.elim id (fun h => h.elim id id)))).trans (y0)
      go_wp2
      exact ⟨rfl, hK _ _ rfl (Reg.Wr.same _)⟩
    · intro val ac u hR hp ha K hK      -- 3: t7 := Op.nilCheck t6
      obtain ⟨w6, h6, r6⟩ := hp 2 (by decide)
      have e6 : (ac.tmps[6]?).getD undef = .pointer (some ⟨gs, 0, none⟩) := (ha 6 (by decide)).trans h6
      clear h6
      clear ha hp
      refine Reg.Op1.plain rfl ?_
      go_wp2
      exact ⟨rfl, hK _ _ rfl (Reg.Wr.same _)⟩
    · intro val ac u hR hp ha K hK      -- 4: t8 := Op.fieldAddr 81 t7 4
      obtain ⟨w7, h7, r7⟩ := hp 3 (by decide)
      have e7 : (ac.tmps[7]?).getD undef = .pointer (some ⟨gs, 0, none⟩) := (ha 7 (by decide)).trans h7
      clear h7
      clear ha hp
      refine Reg.Op1.plain rfl ?_
      go_wp2
      exact ⟨rfl, hK _ _ rfl (Reg.Wr.same _)⟩
    · intro val ac u hR hp ha K hK      -- 5: t9 := Op.load 33 t8
      obtain ⟨w8, h8, r8⟩ := hp 4 (by decide)
      have e8 : (ac.tmps[8]?).getD undef = .pointer (some ⟨gs, 23, none⟩) := (ha 8 (by decide)).trans h8
      clear h8
      clear ha hp
      refine Reg.Op1.plain rfl ?_
      have hk0 : Mem.Keeps (fun _ => False) w1 u := (Mem.Keeps.refl (fun _ => False) w1).drew.trans (Reg.Wr.all hR) (fun _ h _ => h.elim id (fun h => h.elim id id))
      have hSu := HC.out.sb.keeps hk0 id
      refine Mem.load_agg _ _ vec_agg gs 23 (Vec.vcCells s.cut) (Reg.eval_of e8) (Vec.vcCells_length _) (SBx.cut hSu) ?_
      exact ⟨rfl, hK _ _ rfl (Reg.Wr.same _)⟩
    · intro val ac u hR hp ha K hK      -- 6: t10 := Op.call { value (Operand.func 29), args := #[t5, t9], argTypes := #[33, 33] }
      obtain ⟨w5, h5, r5⟩ := hp 1 (by decide)
      have e5 : (ac.tmps[5]?).getD undef = .agg (Vec.vcCells e.cut).toArray := (ha 5 (by decide)).trans h5
      clear h5
      obtain ⟨w9, h9, r9⟩ := hp 5 (by decide)
      have e9 : (ac.tmps[9]?).getD undef = .agg (Vec.vcCells s.cut).toArray := (ha 9 (by decide)).trans h9
      clear h9
      clear ha hp
      refine Reg.Op1.plain rfl ?_
      go_wp2_with fail
      refine (coversV_any e.cut s.cut u).mono ?_
      rintro x w' ⟨rfl, hb'⟩
      go_wp2_with fail
      exact ⟨rfl, hK _ _ rfl (Reg.Wr.below hb')⟩
    · intro val ac u hR hp ha K hK      -- 7: t3 := Op.assign t10
      obtain ⟨w10, h10, r10⟩ := hp 6 (by decide)
      have e10 : (ac.tmps[10]?).getD undef = .bool (r6 s e) := (ha 10 (by decide)).trans h10
      clear h10
      clear ha hp
      refine Reg.Op1.plain rfl ?_
      go_wp2
      exact ⟨rfl, hK _ _ rfl (Reg.Wr.same _)⟩
  intro val u hR H
  obtain ⟨_, hv9, _⟩ := H 7 (by decide)
  have hk8 : Mem.Keeps (fun _ => False) w1 u := ((Mem.Keeps.refl (fun _ => False) w1).drew.trans (Reg.Wr.all hR) (fun _ h _ => h.elim id (fun h => h.elim id id)))
  simp only [List.map_cons, List.map_nil, Reg.lay, Act.put, List.setIfInBounds_toArray, List.set_cons_succ, List.set_cons_zero, Nat.reduceAdd]
  rw [hv9]
  have HK8 := Lib.hid hk8
  clear hR H hv9 hk8
  go_wp2
  go_ret
  exact ⟨rfl, HB1.out.trans (HK8.out.belowAll.mono HB1.out.size)⟩
open Au in
set_option maxHeartbeats 4000000 in
theorem rule9_any {w : World} {B gc bc gs bs : Nat} {k : Au.Ck} {s : Au.Ss} {e : Au.Ev} (hC : Au.Cx w B gc bc gs bs k s) :
    Calls Try.prog 59 #[.agg (Au.evCells e).toArray, .pointer (some ⟨bc, 0, none⟩)] w fun x w' => x = .returned (.bool (Au.r9 k e)) ∧ Below w.heap.size w w' := by
  have hB1 : Below w.heap.size w (w.alloc (.cells (Au.evCells e).toArray 46)) := Reg.below_new _ _
  have hX1 : Au.VBx (w.alloc (.cells (Au.evCells e).toArray 46)) w.heap.size e := Mem.Bx.new w 46 (Au.evCells e).toArray rfl rfl
  obtain ⟨w1, hw1⟩ : ∃ w1, w.alloc (.cells (Au.evCells e).toArray 46) = w1 := ⟨_, rfl⟩
  rw [hw1] at hB1 hX1
  have HB1 := Lib.hid hB1
  have HX1 := Lib.hid hX1
  unfold Au.evCells at hw1 ⊢
  clear hB1 hX1
  have HC := Lib.hid (hC.below HB1.out)
  have hwm : k.ws.length ≤ maxLen := by have := hC.wl; have := hC.wn; unfold maxLen; omega
  clear hC
  go_enter Try.func59, Try.ntmps59
  go_upto_region 1 with fail
  try rw [hw1]
  clear hw1
  have y0 : w1.cell? ⟨bc, 0, none⟩ = some (.pointer (some ⟨gc, 0, none⟩)) := HC.out.pc.cell (j := 0) rfl
  have y1 : w1.cell? ⟨gc, 1, none⟩ = some (.slice k.wA k.ws.length k.wc) := HC.out.c.cell (j := 1) rfl
  have hbs : bc < w1.heap.size := HC.out.pc.lt
  have hgs : gc < w1.heap.size := HC.out.c.lt
  refine Reg.wp_region_w (by kernel_rfl) 11 8 rfl rfl (by kernel_rfl) (0) (fun _ => False) (0) (fun _ => False) (0) (fun _ => False)
    (fun i v u => match i with
      | 0 => v = .pointer (some ⟨w.heap.size, 11, none⟩)
      | 1 => v = .agg (Vec.vcCells e.cut).toArray
      | 2 => v = .pointer (some ⟨gc, 0, none⟩)
      | 3 => v = .pointer (some ⟨gc, 0, none⟩)
      | 4 => v = .pointer (some ⟨gc, 1, none⟩)
      | 5 => v = .slice k.wA k.ws.length k.wc
      | 6 => v = .bool (r9 k e)
      | 7 => v = .bool (r9 k e)
      | _ => True) ?_ ?_
  · refine Reg.Steps.cons ?_ (Reg.Steps.cons ?_ (Reg.Steps.cons ?_ (Reg.Steps.cons ?_ (Reg.Steps.cons ?_ (Reg.Steps.cons ?_ (Reg.Steps.cons ?_ (Reg.Steps.cons ?_ (Reg.Steps.nil _))))))))
    · intro val ac u hR hp ha K hK      -- 0: t4 := Op.fieldAddr 46 t2 8
      have e2 : (ac.tmps[2]?).getD undef = .pointer (some ⟨w.heap.size, 0, none⟩) := ha 2 (by decide)
      clear ha hp
      refine Reg.Op1.plain rfl ?_
      go_wp2
      exact ⟨rfl, hK _ _ rfl (Reg.Wr.same _)⟩
    · intro val ac u hR hp ha K hK      -- 1: t5 := Op.load 33 t4
      obtain ⟨w4, h4, r4⟩ := hp 0 (by decide)
      have e4 : (ac.tmps[4]?).getD undef = .pointer (some ⟨w.heap.size, 11, none⟩) := (ha 4 (by decide)).trans h4
      clear h4
      clear ha hp
      refine Reg.Op1.plain rfl ?_
      have hk0 : Mem.Keeps (fun _ => False) w1 u := (Mem.Keeps.refl (fun _ => False) w1).drew.trans (Reg.Wr.all hR) (fun _ h _ => h.elim id (fun h => h.elim id id))
      have hXu := HX1.out.keeps hk0 id
      refine Mem.load_agg _ _ vec_agg w.heap.size 11 (Vec.vcCells e.cut) (Reg.eval_of e4) (Vec.vcCells_length _) (VBx.cut hXu) ?_
      exact ⟨rfl, hK _ _ rfl (Reg.Wr.same _)⟩
    · intro val ac u hR hp ha K hK      -- 2: t6 := Op.load 63 t1
      have e1 : (ac.tmps[1]?).getD undef = .pointer (some ⟨bc, 0, none⟩) := ha 1 (by decide)
      clear ha hp
      refine Reg.Op1.plain rfl ?_
      have x0 := (((Reg.Wr.all hR)).cell (p := ⟨bc, 0, none⟩) (hbs) ((fun h => h.elim id (fun h => h.elim id id)))).trans (y0)
      go_wp2
      exact ⟨rfl, hK _ _ rfl (Reg.Wr.same _)⟩
    · intro val ac u hR hp ha K hK      -- 3: t7 := Op.nilCheck t6
      obtain ⟨w6, h6, r6⟩ := hp 2 (by decide)
      have e6 : (ac.tmps[6]?).getD undef = .pointer (some ⟨gc, 0, none⟩) := (ha 6 (by decide)).trans h6
      clear h6
      clear ha hp
      refine Reg.Op1.plain rfl ?_
      go_wp2
      exact ⟨rfl, hK _ _ rfl (Reg.Wr.same _)⟩
    · intro val ac u hR hp ha K hK      -- 4: t8 := Op.fieldAddr 66 t7 1
      obtain ⟨w7, h7, r7⟩ := hp 3 (by decide)
      have e7 : (ac.tmps[7]?).getD undef = .pointer (some ⟨gc, 0, none⟩) := (ha 7 (by decide)).trans h7
      clear h7
      clear ha hp
      refine Reg.Op1.plain rfl ?_
      go_wp2
      exact ⟨rfl, hK _ _ rfl (Reg.Wr.same _)⟩
    · intro val ac u hR hp ha K hK      -- 5: t9 := Op.load 23 t8
      obtain ⟨w8, h8, r8⟩ := hp 4 (by decide)
      have e8 : (ac.tmps[8]?).getD undef = .pointer (some ⟨gc, 1, none⟩) := (ha 8 (by decide)).trans h8
      clear h8
      clear ha hp
      refine Reg.Op1.plain rfl ?_
      have x0 := (((Reg.Wr.all hR)).cell (p := ⟨gc, 1, none⟩) (hgs) ((fun h => h.elim id (fun h => h.elim id id)))).trans (y1)
      go_wp2
      exact ⟨rfl, hK _ _ rfl (Reg.Wr.same _)⟩
    · intro val ac u hR hp ha K hK      -- 6: t10 := Op.call { value (Operand.func 17), args := #[t5, t9], argTypes := #[33, 23] }
      obtain ⟨w5, h5, r5⟩ := hp 1 (by decide)
      have e5 : (ac.tmps[5]?).getD undef = .agg (Vec.vcCells e.cut).toArray := (ha 5 (by decide)).trans h5
      clear h5
      obtain ⟨w9, h9, r9⟩ := hp 5 (by decide)
      have e9 : (ac.tmps[9]?).getD undef = .slice k.wA k.ws.length k.wc := (ha 9 (by decide)).trans h9
      clear h9
      clear ha hp
      refine Reg.Op1.plain rfl ?_
      have hk0 : Mem.Keeps (fun _ => False) w1 u := (Mem.Keeps.refl (fun _ => False) w1).drew.trans (Reg.Wr.all hR) (fun _ h _ => h.elim id (fun h => h.elim id id))
      go_wp2_with fail
      refine (closed_any e.cut k.wA k.wc k.ws B u (HC.out.W.keeps hk0 (fun _ h => h.elim) HC.out.le) (Nat.le_trans HC.out.le hk0.size) hwm).mono ?_
      rintro x w' ⟨rfl, hb'⟩
      go_wp2_with fail
      exact ⟨rfl, hK _ _ rfl (Reg.Wr.below hb')⟩
    · intro val ac u hR hp ha K hK      -- 7: t3 := Op.assign t10
      obtain ⟨w10, h10, r10⟩ := hp 6 (by decide)
      have e10 : (ac.tmps[10]?).getD undef = .bool (r9 k e) := (ha 10 (by decide)).trans h10
      clear h10
      clear ha hp
      refine Reg.Op1.plain rfl ?_
      go_wp2
      exact ⟨rfl, hK _ _ rfl (Reg.Wr.same _)⟩
  intro val u hR H
  obtain ⟨_, hv9, _⟩ := H 7 (by decide)
  have hk8 : Mem.Keeps (fun _ => False) w1 u := ((Mem.Keeps.refl (fun _ => False) w1).drew.trans (Reg.Wr.all hR) (fun _ h _ => h.elim id (fun h => h.elim id id)))
  simp only [List.map_cons, List.map_nil, Reg.lay, Act.put, List.setIfInBounds_toArray, List.set_cons_succ, List.set_cons_zero, Nat.reduceAdd]
  rw [hv9]
  have HK8 := Lib.hid hk8
  clear hR H hv9 hk8
  go_wp2
  go_ret
  exact ⟨rfl, HB1.out.trans (HK8.out.belowAll.mono HB1.out.size)⟩
end Go.Proofs.Ytelephoalpphkaa
