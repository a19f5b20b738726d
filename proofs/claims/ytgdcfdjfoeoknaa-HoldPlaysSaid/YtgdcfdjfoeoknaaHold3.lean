/- The walks of a hold's Purge and Next. No conditions. -/
import Derived.Test.YtgdcfdjfoeoknaaHold2
namespace Go.Proofs.Ytgdcfdjfoeoknaa
open Go.ChangeShapes Go.WideShapes Go.ChangeAt Go.RowKit
set_option linter.unusedVariables false
set_option linter.unusedSimpArgs false

namespace Vec
def hasE (v : Vc) (x : Ent) : Bool := hasD v ⟨x.dc, x.rng, x.seq⟩
def purged (v : Vc) (es : List Ent) : List Ent := keptL (hasE v) es
structure PurgeEnd (t : TypeId) (w : World) (g : Nat) (A : Option Addr) (c : Nat) (rng : Int) (es : List Ent) (v : Vc) (x : Ending) (w' : World) : Prop where
  r : x = .returned (.int .i64 (es.length - (purged v es).length : Nat))
  h : HAt t w' g A c rng (purged v es)
  k : Mem.Keeps (HB g A) w w'
end Vec
open Vec in
set_option maxHeartbeats 4000000 in
theorem purge_any (v : Vec.Vc) (rng : Int) (g : Nat) (A : Option Addr) (c : Nat) (es : List Vec.Ent) (w : World) (hA : Vec.HAt 61 w g A c rng es) (hn : es.length ≤ 300) :
    Calls Try.prog 21 #[.pointer (some ⟨g, 0, none⟩), .agg (vcCells v).toArray] w (Vec.PurgeEnd 61 w g A c rng es v) := by
  have HA := Lib.hid hA
  clear hA
  have hmf : ∀ (fn : Fn) (first cap : Array Value) (w : World), (Instr.makeFunc fn first cap).run Try.prog w = .ok (.func fn first cap) w := fun _ _ _ _ => rfl
  go_enter Try.func21, Try.ntmps21
  go_upto_region 1 with fail
  obtain ⟨w1, hw1⟩ : ∃ w1, w.alloc (.cells (vcCells v).toArray 27) = w1 := ⟨_, rfl⟩
  have HV : Hid (VBx w1 w.heap.size v) := by show VBx _ _ _; rw [← hw1]; exact Mem.Bx.new w 27 (vcCells v).toArray rfl rfl
  have HB1 : Hid (Below w.heap.size w w1) := by show Below _ _ _; rw [← hw1]; exact Reg.below_new _ _
  rw [hw1]
  clear hw1
  have HA1 := Lib.hid (HA.out.below HB1.out)
  have hlt := HA.out.lt
  have HD := Lib.hid (deleteFunc_any 36 #[.pointer (some ⟨w.heap.size, 0, none⟩)] _ (enters_of Try.func36 (by kernel_rfl) rfl) A c es w1 (has_tells (fun k => Mem.blk A = some k) w1 w.heap.size v HV.out (fun h => by have := hlt _ (.inr h); omega)) HA1.out.O hn)
  have x1 := HA1.out.B.cell (j := 1) rfl
  have hgw := HA1.out.B.lt
  have hne := HA1.out.ne
  have HLT := Lib.hid hlt
  clear hlt
  have hpl : (purged v es).length ≤ es.length := keptL_le _ _
  go_upto_region 2 with fail
  go_wp2_with (go_at_call 35; refine HD.out.mono ?_; rintro x w2 ⟨rfl, hO2, hK2⟩; have hB2 := HA1.out.B.keeps hK2 (fun h => hne g h rfl); have y1 := hB2.cell (j := 1) rfl; have yf := hB2.fr)
  go_ret
  have hw : wrap64 ((es.length : Int) - ((purged v es).length : Int)) = ((es.length - (purged v es).length : Nat) : Int) := by
    rw [IntWalk.wrap64_in _ (by omega)]; omega
  refine ⟨?_, HAt.set hB2 hO2 hne, ?_⟩
  · rw [← hw]; rfl
  · exact (((Mem.Keeps.of_below HB1.out).mono (fun _ h _ => h.elim)).trans (S := HB g A) (hK2.mono (T := HB g A) (fun k h _ => .inr h)) (fun _ h _ => h)).setCell (p := ⟨g, 1, none⟩) (fun _ => .inl rfl) _
namespace Vec
def dueE (v : Vc) (e : Ent) : Bool := e.seq == wrap64 (v.get e.dc.toNat e.rng.toNat + 1) && coversV v e.deps
def nextStep (v : Vc) (es : List Ent) (b : Option Nat) (k : Nat) (e : Ent) : Option Nat :=
  if dueE v e = true then (match b with | none => some k | some j => if Stamp.cmpS e.st (es.getD j ent0).st < 0 then some k else some j) else b
def bestTo (v : Vc) (es : List Ent) : Nat → Option Nat
  | 0 => none
  | k + 1 => match es[k]? with | none => bestTo v es k | some e => nextStep v es (bestTo v es k) k e
def bI : Option Nat → Int | none => -1 | some j => j
theorem bestTo_lt (v : Vc) (es : List Ent) : ∀ (k j : Nat), bestTo v es k = some j → j < k ∧ j < es.length
  | 0, j, h => by cases h
  | k + 1, j, h => by
    unfold bestTo at h
    cases he : es[k]? with
    | none => rw [he] at h; have := bestTo_lt v es k j h; omega
    | some e =>
      rw [he] at h
      have hk : k < es.length := (List.getElem?_eq_some_iff.1 he).1
      simp only [nextStep] at h
      split at h
      · split at h
        · cases h; omega
        · rename_i j' hj'
          have := bestTo_lt v es k j' hj'
          split at h <;> cases h <;> omega
      · have := bestTo_lt v es k j h; omega
theorem bestTo_snoc {v : Vc} {es : List Ent} {k : Nat} {e : Ent} (he : es[k]? = some e) : bestTo v es (k + 1) = nextStep v es (bestTo v es k) k e := by
  simp only [bestTo, he]
/-- what stands in Next's variables -/
structure NxAt (t : TypeId) (w : World) (g : Nat) (A : Option Addr) (c : Nat) (rng : Int) (es : List Ent) (v : Vc) (wr : World) : Prop where
  H : HAt t wr g A c rng es
  V : VBx wr w.heap.size v
  E : EBx wr (w.heap.size + 1) ent0
  b : Below w.heap.size w wr
theorem NxAt.below {t : TypeId} {w : World} {g : Nat} {A : Option Addr} {c : Nat} {rng : Int} {es : List Ent} {v : Vc} {w1 w2 : World} (h : NxAt t w g A c rng es v w1) (hb : Below w1.heap.size w1 w2) : NxAt t w g A c rng es v w2 :=
  ⟨h.H.below hb, h.V.below hb h.V.lt, h.E.below hb h.E.lt, h.b.trans (hb.mono h.b.size)⟩
structure NxRel (t : TypeId) (w : World) (g : Nat) (A : Option Addr) (c : Nat) (rng : Int) (es : List Ent) (v : Vc) (v6 v16 : Value) (wr : World) : Prop where
  out : ∃ k : Nat, k ≤ es.length ∧ v6 = .int .i64 (bI (bestTo v es k)) ∧ v16 = .int .i64 k ∧ Hid (NxAt t w g A c rng es v wr)
def nextE (v : Vc) (es : List Ent) : Ent × Bool := match bestTo v es es.length with | none => (ent0, false) | some j => (es.getD j ent0, true)
def nextL (v : Vc) (es : List Ent) : List Ent := match bestTo v es es.length with | none => es | some j => es.eraseIdx j
structure NextEnd (t : TypeId) (w : World) (g : Nat) (A : Option Addr) (c : Nat) (rng : Int) (es : List Ent) (v : Vc) (x : Ending) (w' : World) : Prop where
  r : x = .returned (.tuple #[.agg (entCells (nextE v es).1).toArray, .bool (nextE v es).2])
  h : HAt t w' g A c rng (nextL v es)
  k : Mem.Keeps (HB g A) w w'
end Vec
open Vec in
set_option maxRecDepth 20000 in
set_option maxHeartbeats 8000000 in
theorem next_any (vv : Vec.Vc) (rng : Int) (g : Nat) (A : Option Addr) (c : Nat) (es : List Vec.Ent) (w : World) (hA : Vec.HAt 61 w g A c rng es) (hn : es.length ≤ 300) (hok : ∀ e ∈ es, Vec.rightE e = true) :
    Calls Try.prog 11 #[.pointer (some ⟨g, 0, none⟩), .agg (vcCells vv).toArray] w (Vec.NextEnd 61 w g A c rng es vv) := by
  have HA := Lib.hid hA
  have HOK := Lib.hid hok
  clear hA hok
  have hmf : ∀ (fn : Fn) (first cap : Array Value) (w : World), (Instr.makeFunc fn first cap).run Try.prog w = .ok (.func fn first cap) w := fun _ _ _ _ => rfl
  go_enter Try.func11, Try.ntmps11
  go_upto_region 1 with fail
  obtain ⟨w1, hw1⟩ : ∃ w1, (w.alloc (.cells (vcCells vv).toArray 27)).alloc (.cells (entCells ent0).toArray 33) = w1 := ⟨_, rfl⟩
  have HN : Hid (NxAt 61 w g A c rng es vv w1) := by
    show NxAt _ _ _ _ _ _ _ _ _
    rw [← hw1]
    have hb : Below w.heap.size w ((w.alloc (.cells (vcCells vv).toArray 27)).alloc (.cells (entCells ent0).toArray 33)) := (Reg.below_new _ _).alloc (by simp) _
    exact ⟨HA.out.below hb, (Mem.Bx.new w 27 (vcCells vv).toArray rfl rfl).below (Reg.below_new _ _) (by simp), EBx.new (w.alloc _) ent0 (by simp), hb⟩
  change Code.wp _ _ _ _ ((w.alloc (.cells (vcCells vv).toArray 27)).alloc (.cells (entCells ent0).toArray 33))
  rw [hw1]
  clear hw1
  have x1 := HN.out.H.B.cell (j := 1) rfl
  go_wp2
  clear x1
  go_loopw [6, 16] (NxRel 61 w g A c rng es vv) (fun _ t _ => es.length - (intOf t).toNat)
  case atStart => exact ⟨⟨0, by omega, rfl, rfl, HN⟩⟩
  case round =>
    clear HN
    obtain ⟨k, hk, rfl, rfl, HN⟩ := hrel.out
    by_cases hlt : k < es.length
    · obtain ⟨b, o, e, rfl, hb, he, hat⟩ := ent_elem HN.out.H.O.rd hlt
      have HAT := Lib.hid hat
      have HTS := Lib.hid (bestTo_snoc (v := vv) he)
      have hre := HOK.out e (List.mem_of_getElem? he)
      have hch : chain e.dc e.rng = true := by unfold rightE g1 at hre; simp at hre; exact hre.1.1
      clear hat he hre
      go_upto_region 5 with (first | ((with_reducible refine Mem.load_agg _ _ entry_agg b (o + k * 20) (entCells e) ?hx (entCells_length e) HAT.out.c ?_); case hx => exact rfl) | ((with_reducible refine Mem.store_agg _ _ entry_agg wr.heap.size (entCells ent0) (entCells e) ?hxa ?hya ?hba (entCells_length e) (ent_one e) ?_); ((case hxa => exact rfl); (case hya => exact rfl); (case hba => exact Mem.Bx.new wr _ (entCells ent0).toArray rfl rfl); intro w2 hb2 hk2 hs2)))
      have HE2 : Hid (EBx w2 wr.heap.size e) := hb2
      have HN2 := Lib.hid (HN.out.below (hk2.newBox rfl).belowAll)
      have hzr := HN.out.E.lt
      clear hb2 hk2 hs2 HAT HN
      obtain ⟨hd3, hd4, hr0, hr3⟩ := chain_nat hch
      obtain ⟨dn, hdn0⟩ : ∃ dn, e.dc.toNat = dn := ⟨_, rfl⟩
      obtain ⟨rn, hrn0⟩ : ∃ rn, e.rng.toNat = rn := ⟨_, rfl⟩
      have hdn : e.dc = (dn : Int) := by omega
      have hrn : e.rng = (rn : Int) := by omega
      have hr4 : rn < 3 := by omega
      rw [hdn0] at hd3
      obtain ⟨dv, hdv⟩ : ∃ dv, vv.get dn rn = dv := ⟨_, rfl⟩
      obtain ⟨nx, hnx⟩ : ∃ nx, wrap64 (dv + 1) = nx := ⟨_, rfl⟩
      have hnx2 : IntKind.i64.wrap (dv + 1) = nx := (IntWalk.i64_left _).trans hnx
      have hde : dueE vv e = (e.seq == nx && coversV vv e.deps) := by unfold dueE; rw [hdn0, hrn0, hdv, hnx]
      clear hch hd4 hr0 hr3
      go_cut [9] (fun v9 wx => v9 = .bool (dueE vv e) ∧ Below w2.heap.size w2 wx)
      case first =>
        by_cases hs : e.seq = nx
        · have d1 : (e.seq == nx) = true := by simp [hs]
          clear hs
          cases hcv : coversV vv e.deps
          · have hdue : dueE vv e = false := by rw [hde, hcv, d1]; rfl
            refine Reg.wp_region_rel (by kernel_rfl) 84 21 rfl rfl (by kernel_rfl) (Reg.Adds) (Reg.Adds.refl) (Reg.Adds.trans)
              (fun i v u => match i with
                | 0 => v = .pointer (some ⟨wr.heap.size, 0, none⟩)
                | 1 => v = .pointer (some ⟨wr.heap.size, 2, none⟩)
                | 2 => v = .int .i64 e.seq
                | 3 => v = .pointer (some ⟨wr.heap.size, 0, none⟩)
                | 4 => v = .pointer (some ⟨wr.heap.size, 0, none⟩)
                | 5 => v = .int .i64 (dn : Int)
                | 6 => v = .pointer (some ⟨wr.heap.size, 0, none⟩)
                | 7 => v = .pointer (some ⟨wr.heap.size, 1, none⟩)
                | 8 => v = .int .i64 (rn : Int)
                | 9 => v = .pointer (some ⟨w.heap.size, dn * 3, none⟩)
                | 10 => v = .pointer (some ⟨w.heap.size, dn * 3 + rn, none⟩)
                | 11 => v = .int .i64 dv
                | 12 => v = .int .i64 nx
                | 13 => v = .bool true
                | 14 => v = .bool true
                | 15 => v = .agg (vcCells vv).toArray
                | 16 => v = .pointer (some ⟨wr.heap.size, 9, none⟩)
                | 17 => v = .agg (vcCells e.deps).toArray
                | 18 => v = .bool false
                | 19 => v = .bool false
                | 20 => v = .bool false
                | _ => True) ?_ ?_
            · refine Reg.Steps.cons ?_ (Reg.Steps.cons ?_ (Reg.Steps.cons ?_ (Reg.Steps.cons ?_ (Reg.Steps.cons ?_ (Reg.Steps.cons ?_ (Reg.Steps.cons ?_ (Reg.Steps.cons ?_ (Reg.Steps.cons ?_ (Reg.Steps.cons ?_ (Reg.Steps.cons ?_ (Reg.Steps.cons ?_ (Reg.Steps.cons ?_ (Reg.Steps.cons ?_ (Reg.Steps.cons ?_ (Reg.Steps.cons ?_ (Reg.Steps.cons ?_ (Reg.Steps.cons ?_ (Reg.Steps.cons ?_ (Reg.Steps.cons ?_ (Reg.Steps.cons ?_ (Reg.Steps.nil _)))))))))))))))))))))
              · intro val ac u hR hp ha K hK      -- 0: t21 := Op.fieldAddr 33 t8 0
                have e8 : (ac.tmps[8]?).getD undef = .pointer (some ⟨wr.heap.size, 0, none⟩) := ha 8 (by decide)
                clear ha hp
                refine Reg.Op1.plain rfl ?_
                go_wp2
                exact ⟨rfl, hK _ _ rfl (fun j k _ _ => Reg.Adds.refl _ _ _)⟩
              · intro val ac u hR hp ha K hK      -- 1: t22 := Op.fieldAddr 29 t21 2
                obtain ⟨w21, h21, r21⟩ := hp 0 (by decide)
                have e21 : (ac.tmps[21]?).getD undef = .pointer (some ⟨wr.heap.size, 0, none⟩) := (ha 21 (by decide)).trans h21
                clear h21
                clear ha hp
                refine Reg.Op1.plain rfl ?_
                go_wp2
                exact ⟨rfl, hK _ _ rfl (fun j k _ _ => Reg.Adds.refl _ _ _)⟩
              · intro val ac u hR hp ha K hK      -- 2: t23 := Op.load 3 t22
                obtain ⟨w22, h22, r22⟩ := hp 1 (by decide)
                have e22 : (ac.tmps[22]?).getD undef = .pointer (some ⟨wr.heap.size, 2, none⟩) := (ha 22 (by decide)).trans h22
                clear h22
                clear ha hp
                refine Reg.Op1.plain rfl ?_
                have x0 := (hR.cell (p := ⟨wr.heap.size, 2, none⟩) HE2.out.lt).trans (HE2.out.cell (j := 2) rfl)
                go_wp2
                exact ⟨rfl, hK _ _ rfl (fun j k _ _ => Reg.Adds.refl _ _ _)⟩
              · intro val ac u hR hp ha K hK      -- 3: t24 := Op.fieldAddr 33 t8 0
                have e8 : (ac.tmps[8]?).getD undef = .pointer (some ⟨wr.heap.size, 0, none⟩) := ha 8 (by decide)
                clear ha hp
                refine Reg.Op1.plain rfl ?_
                go_wp2
                exact ⟨rfl, hK _ _ rfl (fun j k _ _ => Reg.Adds.refl _ _ _)⟩
              · intro val ac u hR hp ha K hK      -- 4: t25 := Op.fieldAddr 29 t24 0
                obtain ⟨w24, h24, r24⟩ := hp 3 (by decide)
                have e24 : (ac.tmps[24]?).getD undef = .pointer (some ⟨wr.heap.size, 0, none⟩) := (ha 24 (by decide)).trans h24
                clear h24
                clear ha hp
                refine Reg.Op1.plain rfl ?_
                go_wp2
                exact ⟨rfl, hK _ _ rfl (fun j k _ _ => Reg.Adds.refl _ _ _)⟩
              · intro val ac u hR hp ha K hK      -- 5: t26 := Op.load 3 t25
                obtain ⟨w25, h25, r25⟩ := hp 4 (by decide)
                have e25 : (ac.tmps[25]?).getD undef = .pointer (some ⟨wr.heap.size, 0, none⟩) := (ha 25 (by decide)).trans h25
                clear h25
                clear ha hp
                refine Reg.Op1.plain rfl ?_
                have x0 := (hR.cell (p := ⟨wr.heap.size, 0, none⟩) HE2.out.lt).trans (HE2.out.cell (j := 0) rfl)
                rw [hdn] at x0
                go_wp2
                exact ⟨rfl, hK _ _ rfl (fun j k _ _ => Reg.Adds.refl _ _ _)⟩
              · intro val ac u hR hp ha K hK      -- 6: t27 := Op.fieldAddr 33 t8 0
                have e8 : (ac.tmps[8]?).getD undef = .pointer (some ⟨wr.heap.size, 0, none⟩) := ha 8 (by decide)
                clear ha hp
                refine Reg.Op1.plain rfl ?_
                go_wp2
                exact ⟨rfl, hK _ _ rfl (fun j k _ _ => Reg.Adds.refl _ _ _)⟩
              · intro val ac u hR hp ha K hK      -- 7: t28 := Op.fieldAddr 29 t27 1
                obtain ⟨w27, h27, r27⟩ := hp 6 (by decide)
                have e27 : (ac.tmps[27]?).getD undef = .pointer (some ⟨wr.heap.size, 0, none⟩) := (ha 27 (by decide)).trans h27
                clear h27
                clear ha hp
                refine Reg.Op1.plain rfl ?_
                go_wp2
                exact ⟨rfl, hK _ _ rfl (fun j k _ _ => Reg.Adds.refl _ _ _)⟩
              · intro val ac u hR hp ha K hK      -- 8: t29 := Op.load 3 t28
                obtain ⟨w28, h28, r28⟩ := hp 7 (by decide)
                have e28 : (ac.tmps[28]?).getD undef = .pointer (some ⟨wr.heap.size, 1, none⟩) := (ha 28 (by decide)).trans h28
                clear h28
                clear ha hp
                refine Reg.Op1.plain rfl ?_
                have x0 := (hR.cell (p := ⟨wr.heap.size, 1, none⟩) HE2.out.lt).trans (HE2.out.cell (j := 1) rfl)
                rw [hrn] at x0
                go_wp2
                exact ⟨rfl, hK _ _ rfl (fun j k _ _ => Reg.Adds.refl _ _ _)⟩
              · intro val ac u hR hp ha K hK      -- 9: t30 := Op.indexAddr 27 t3 t26
                have e3 : (ac.tmps[3]?).getD undef = .pointer (some ⟨w.heap.size, 0, none⟩) := ha 3 (by decide)
                obtain ⟨w26, h26, r26⟩ := hp 5 (by decide)
                have e26 : (ac.tmps[26]?).getD undef = .int .i64 (dn : Int) := (ha 26 (by decide)).trans h26
                clear h26
                clear ha hp
                refine Reg.Op1.plain rfl ?_
                go_wp2
                exact ⟨rfl, hK _ _ rfl (fun j k _ _ => Reg.Adds.refl _ _ _)⟩
              · intro val ac u hR hp ha K hK      -- 10: t31 := Op.indexAddr 25 t30 t29
                obtain ⟨w30, h30, r30⟩ := hp 9 (by decide)
                have e30 : (ac.tmps[30]?).getD undef = .pointer (some ⟨w.heap.size, dn * 3, none⟩) := (ha 30 (by decide)).trans h30
                clear h30
                obtain ⟨w29, h29, r29⟩ := hp 8 (by decide)
                have e29 : (ac.tmps[29]?).getD undef = .int .i64 (rn : Int) := (ha 29 (by decide)).trans h29
                clear h29
                clear ha hp
                refine Reg.Op1.plain rfl ?_
                go_wp2
                exact ⟨rfl, hK _ _ rfl (fun j k _ _ => Reg.Adds.refl _ _ _)⟩
              · intro val ac u hR hp ha K hK      -- 11: t32 := Op.load 3 t31
                obtain ⟨w31, h31, r31⟩ := hp 10 (by decide)
                have e31 : (ac.tmps[31]?).getD undef = .pointer (some ⟨w.heap.size, dn * 3 + rn, none⟩) := (ha 31 (by decide)).trans h31
                clear h31
                clear ha hp
                refine Reg.Op1.plain rfl ?_
                have x0 := (hR.cell (p := ⟨w.heap.size, dn * 3 + rn, none⟩) HN2.out.V.lt).trans (HN2.out.V.cell (j := dn * 3 + rn) (vc_cell vv hd3 hr4))
                rw [hdv] at x0
                go_wp2
                exact ⟨rfl, hK _ _ rfl (fun j k _ _ => Reg.Adds.refl _ _ _)⟩
              · intro val ac u hR hp ha K hK      -- 12: t33 := Op.binOp BinOp.add 3 t32 (const (1:i64)) 3
                obtain ⟨w32, h32, r32⟩ := hp 11 (by decide)
                have e32 : (ac.tmps[32]?).getD undef = .int .i64 dv := (ha 32 (by decide)).trans h32
                clear h32
                clear ha hp
                refine Reg.Op1.plain rfl ?_
                go_wp2
                exact ⟨rfl, hK _ _ rfl (fun j k _ _ => Reg.Adds.refl _ _ _)⟩
              · intro val ac u hR hp ha K hK      -- 13: t34 := Op.binOp BinOp.eql 3 t23 t33 3
                obtain ⟨w23, h23, r23⟩ := hp 2 (by decide)
                have e23 : (ac.tmps[23]?).getD undef = .int .i64 e.seq := (ha 23 (by decide)).trans h23
                clear h23
                obtain ⟨w33, h33, r33⟩ := hp 12 (by decide)
                have e33 : (ac.tmps[33]?).getD undef = .int .i64 nx := (ha 33 (by decide)).trans h33
                clear h33
                clear ha hp
                refine Reg.Op1.plain rfl ?_
                go_wp2
                exact ⟨rfl, hK _ _ rfl (fun j k _ _ => Reg.Adds.refl _ _ _)⟩
              · intro val ac u hR hp ha K hK      -- 14: t35 := Op.move t34
                obtain ⟨w34, h34, r34⟩ := hp 13 (by decide)
                have e34 : (ac.tmps[34]?).getD undef = .bool true := (ha 34 (by decide)).trans h34
                clear h34
                clear ha hp
                refine Reg.Op1.plain rfl ?_
                go_wp2
                exact ⟨rfl, hK _ _ rfl (fun j k _ _ => Reg.Adds.refl _ _ _)⟩
              · intro val ac u hR hp ha K hK      -- 15: t36 := Op.load 27 t3
                have e3 : (ac.tmps[3]?).getD undef = .pointer (some ⟨w.heap.size, 0, none⟩) := ha 3 (by decide)
                obtain ⟨w35, h35, r35⟩ := hp 14 (by decide)
                have e35 : (ac.tmps[35]?).getD undef = .bool true := (ha 35 (by decide)).trans h35
                clear h35
                clear ha hp
                refine Reg.Op1.guarded rfl rfl e35 (fun _ => Reg.Op1.plain rfl ?_) (fun h => absurd rfl h)
                have hVu : VBx u w.heap.size vv := Mem.Bx.below (w := w2.drew) HN2.out.V hR HN2.out.V.lt
                refine Mem.load_aggG _ _ vec_agg w.heap.size 0 (vcCells vv) (by assumption) (Reg.eval_of e3) (vcCells_length _) (fun j u' hu => by rw [Nat.zero_add]; exact hVu.cell hu) ?_
                exact ⟨rfl, hK _ _ rfl (fun j k _ _ => Reg.Adds.refl _ _ _)⟩
              · intro val ac u hR hp ha K hK      -- 16: t37 := Op.fieldAddr 33 t8 5
                have e8 : (ac.tmps[8]?).getD undef = .pointer (some ⟨wr.heap.size, 0, none⟩) := ha 8 (by decide)
                obtain ⟨w35, h35, r35⟩ := hp 14 (by decide)
                have e35 : (ac.tmps[35]?).getD undef = .bool true := (ha 35 (by decide)).trans h35
                clear h35
                clear ha hp
                refine Reg.Op1.guarded rfl rfl e35 (fun _ => Reg.Op1.plain rfl ?_) (fun h => absurd rfl h)
                go_wp2
                exact ⟨rfl, hK _ _ rfl (fun j k _ _ => Reg.Adds.refl _ _ _)⟩
              · intro val ac u hR hp ha K hK      -- 17: t38 := Op.load 27 t37
                obtain ⟨w37, h37, r37⟩ := hp 16 (by decide)
                have e37 : (ac.tmps[37]?).getD undef = .pointer (some ⟨wr.heap.size, 9, none⟩) := (ha 37 (by decide)).trans h37
                clear h37
                obtain ⟨w35, h35, r35⟩ := hp 14 (by decide)
                have e35 : (ac.tmps[35]?).getD undef = .bool true := (ha 35 (by decide)).trans h35
                clear h35
                clear ha hp
                refine Reg.Op1.guarded rfl rfl e35 (fun _ => Reg.Op1.plain rfl ?_) (fun h => absurd rfl h)
                have hEu : EBx u wr.heap.size e := Mem.Bx.below (w := w2.drew) HE2.out hR HE2.out.lt
                refine Mem.load_aggG _ _ vec_agg wr.heap.size 9 (vcCells e.deps) (by assumption) (Reg.eval_of e37) (vcCells_length _) (hEu.part 9 rfl) ?_
                exact ⟨rfl, hK _ _ rfl (fun j k _ _ => Reg.Adds.refl _ _ _)⟩
              · intro val ac u hR hp ha K hK      -- 18: t39 := Op.call { value (Operand.func 14), args := #[t36, t38], argTypes := #[27, 27] }
                obtain ⟨w36, h36, r36⟩ := hp 15 (by decide)
                have e36 : (ac.tmps[36]?).getD undef = .agg (vcCells vv).toArray := (ha 36 (by decide)).trans h36
                clear h36
                obtain ⟨w38, h38, r38⟩ := hp 17 (by decide)
                have e38 : (ac.tmps[38]?).getD undef = .agg (vcCells e.deps).toArray := (ha 38 (by decide)).trans h38
                clear h38
                obtain ⟨w35, h35, r35⟩ := hp 14 (by decide)
                have e35 : (ac.tmps[35]?).getD undef = .bool true := (ha 35 (by decide)).trans h35
                clear h35
                clear ha hp
                refine Reg.Op1.guarded rfl rfl e35 (fun _ => Reg.Op1.plain rfl ?_) (fun h => absurd rfl h)
                go_wp2_with fail
                refine (coversV_any vv e.deps u).mono ?_
                rintro x w' ⟨rfl, hbw⟩
                rw [hcv]
                go_wp2_with fail
                exact ⟨rfl, hK _ _ rfl (fun j k _ _ => hbw)⟩
              · intro val ac u hR hp ha K hK      -- 19: t40 := Op.pick t35 t39 (const (Value.bool false))
                obtain ⟨w35, h35, r35⟩ := hp 14 (by decide)
                have e35 : (ac.tmps[35]?).getD undef = .bool true := (ha 35 (by decide)).trans h35
                clear h35
                obtain ⟨w39, h39, r39⟩ := hp 18 (by decide)
                have e39 : (ac.tmps[39]?).getD undef = .bool false := (ha 39 (by decide)).trans h39
                clear h39
                clear ha hp
                refine Reg.Op1.plain rfl ?_
                go_wp2
                exact ⟨rfl, hK _ _ rfl (fun j k _ _ => Reg.Adds.refl _ _ _)⟩
              · intro val ac u hR hp ha K hK      -- 20: t9 := Op.assign t40
                obtain ⟨w40, h40, r40⟩ := hp 19 (by decide)
                have e40 : (ac.tmps[40]?).getD undef = .bool false := (ha 40 (by decide)).trans h40
                clear h40
                clear ha hp
                refine Reg.Op1.plain rfl ?_
                go_wp2
                exact ⟨rfl, hK _ _ rfl (fun j k _ _ => Reg.Adds.refl _ _ _)⟩
            · intro val u hR H
              obtain ⟨_, hv, _⟩ := H 20 (by decide)
              have hv : val 20 = .bool false := hv
              have HK6 : Hid (Below w2.heap.size w2 u) := (Below.refl _ w2).drew.trans hR
              simp only [List.map_cons, List.map_nil, Reg.lay, Act.put, List.setIfInBounds_toArray, List.set_cons_succ, List.set_cons_zero, Nat.reduceAdd, hv]
              clear hR H hv
              go_wp2
              go_meet
              case rel => exact ⟨by rw [hdue], HK6.out⟩
          · have hdue : dueE vv e = true := by rw [hde, hcv, d1]; rfl
            refine Reg.wp_region_rel (by kernel_rfl) 84 21 rfl rfl (by kernel_rfl) (Reg.Adds) (Reg.Adds.refl) (Reg.Adds.trans)
              (fun i v u => match i with
                | 0 => v = .pointer (some ⟨wr.heap.size, 0, none⟩)
                | 1 => v = .pointer (some ⟨wr.heap.size, 2, none⟩)
                | 2 => v = .int .i64 e.seq
                | 3 => v = .pointer (some ⟨wr.heap.size, 0, none⟩)
                | 4 => v = .pointer (some ⟨wr.heap.size, 0, none⟩)
                | 5 => v = .int .i64 (dn : Int)
                | 6 => v = .pointer (some ⟨wr.heap.size, 0, none⟩)
                | 7 => v = .pointer (some ⟨wr.heap.size, 1, none⟩)
                | 8 => v = .int .i64 (rn : Int)
                | 9 => v = .pointer (some ⟨w.heap.size, dn * 3, none⟩)
                | 10 => v = .pointer (some ⟨w.heap.size, dn * 3 + rn, none⟩)
                | 11 => v = .int .i64 dv
                | 12 => v = .int .i64 nx
                | 13 => v = .bool true
                | 14 => v = .bool true
                | 15 => v = .agg (vcCells vv).toArray
                | 16 => v = .pointer (some ⟨wr.heap.size, 9, none⟩)
                | 17 => v = .agg (vcCells e.deps).toArray
                | 18 => v = .bool true
                | 19 => v = .bool true
                | 20 => v = .bool true
                | _ => True) ?_ ?_
            · refine Reg.Steps.cons ?_ (Reg.Steps.cons ?_ (Reg.Steps.cons ?_ (Reg.Steps.cons ?_ (Reg.Steps.cons ?_ (Reg.Steps.cons ?_ (Reg.Steps.cons ?_ (Reg.Steps.cons ?_ (Reg.Steps.cons ?_ (Reg.Steps.cons ?_ (Reg.Steps.cons ?_ (Reg.Steps.cons ?_ (Reg.Steps.cons ?_ (Reg.Steps.cons ?_ (Reg.Steps.cons ?_ (Reg.Steps.cons ?_ (Reg.Steps.cons ?_ (Reg.Steps.cons ?_ (Reg.Steps.cons ?_ (Reg.Steps.cons ?_ (Reg.Steps.cons ?_ (Reg.Steps.nil _)))))))))))))))))))))
              · intro val ac u hR hp ha K hK      -- 0: t21 := Op.fieldAddr 33 t8 0
                have e8 : (ac.tmps[8]?).getD undef = .pointer (some ⟨wr.heap.size, 0, none⟩) := ha 8 (by decide)
                clear ha hp
                refine Reg.Op1.plain rfl ?_
                go_wp2
                exact ⟨rfl, hK _ _ rfl (fun j k _ _ => Reg.Adds.refl _ _ _)⟩
              · intro val ac u hR hp ha K hK      -- 1: t22 := Op.fieldAddr 29 t21 2
                obtain ⟨w21, h21, r21⟩ := hp 0 (by decide)
                have e21 : (ac.tmps[21]?).getD undef = .pointer (some ⟨wr.heap.size, 0, none⟩) := (ha 21 (by decide)).trans h21
                clear h21
                clear ha hp
                refine Reg.Op1.plain rfl ?_
                go_wp2
                exact ⟨rfl, hK _ _ rfl (fun j k _ _ => Reg.Adds.refl _ _ _)⟩
              · intro val ac u hR hp ha K hK      -- 2: t23 := Op.load 3 t22
                obtain ⟨w22, h22, r22⟩ := hp 1 (by decide)
                have e22 : (ac.tmps[22]?).getD undef = .pointer (some ⟨wr.heap.size, 2, none⟩) := (ha 22 (by decide)).trans h22
                clear h22
                clear ha hp
                refine Reg.Op1.plain rfl ?_
                have x0 := (hR.cell (p := ⟨wr.heap.size, 2, none⟩) HE2.out.lt).trans (HE2.out.cell (j := 2) rfl)
                go_wp2
                exact ⟨rfl, hK _ _ rfl (fun j k _ _ => Reg.Adds.refl _ _ _)⟩
              · intro val ac u hR hp ha K hK      -- 3: t24 := Op.fieldAddr 33 t8 0
                have e8 : (ac.tmps[8]?).getD undef = .pointer (some ⟨wr.heap.size, 0, none⟩) := ha 8 (by decide)
                clear ha hp
                refine Reg.Op1.plain rfl ?_
                go_wp2
                exact ⟨rfl, hK _ _ rfl (fun j k _ _ => Reg.Adds.refl _ _ _)⟩
              · intro val ac u hR hp ha K hK      -- 4: t25 := Op.fieldAddr 29 t24 0
                obtain ⟨w24, h24, r24⟩ := hp 3 (by decide)
                have e24 : (ac.tmps[24]?).getD undef = .pointer (some ⟨wr.heap.size, 0, none⟩) := (ha 24 (by decide)).trans h24
                clear h24
                clear ha hp
                refine Reg.Op1.plain rfl ?_
                go_wp2
                exact ⟨rfl, hK _ _ rfl (fun j k _ _ => Reg.Adds.refl _ _ _)⟩
              · intro val ac u hR hp ha K hK      -- 5: t26 := Op.load 3 t25
                obtain ⟨w25, h25, r25⟩ := hp 4 (by decide)
                have e25 : (ac.tmps[25]?).getD undef = .pointer (some ⟨wr.heap.size, 0, none⟩) := (ha 25 (by decide)).trans h25
                clear h25
                clear ha hp
                refine Reg.Op1.plain rfl ?_
                have x0 := (hR.cell (p := ⟨wr.heap.size, 0, none⟩) HE2.out.lt).trans (HE2.out.cell (j := 0) rfl)
                rw [hdn] at x0
                go_wp2
                exact ⟨rfl, hK _ _ rfl (fun j k _ _ => Reg.Adds.refl _ _ _)⟩
              · intro val ac u hR hp ha K hK      -- 6: t27 := Op.fieldAddr 33 t8 0
                have e8 : (ac.tmps[8]?).getD undef = .pointer (some ⟨wr.heap.size, 0, none⟩) := ha 8 (by decide)
                clear ha hp
                refine Reg.Op1.plain rfl ?_
                go_wp2
                exact ⟨rfl, hK _ _ rfl (fun j k _ _ => Reg.Adds.refl _ _ _)⟩
              · intro val ac u hR hp ha K hK      -- 7: t28 := Op.fieldAddr 29 t27 1
                obtain ⟨w27, h27, r27⟩ := hp 6 (by decide)
                have e27 : (ac.tmps[27]?).getD undef = .pointer (some ⟨wr.heap.size, 0, none⟩) := (ha 27 (by decide)).trans h27
                clear h27
                clear ha hp
                refine Reg.Op1.plain rfl ?_
                go_wp2
                exact ⟨rfl, hK _ _ rfl (fun j k _ _ => Reg.Adds.refl _ _ _)⟩
              · intro val ac u hR hp ha K hK      -- 8: t29 := Op.load 3 t28
                obtain ⟨w28, h28, r28⟩ := hp 7 (by decide)
                have e28 : (ac.tmps[28]?).getD undef = .pointer (some ⟨wr.heap.size, 1, none⟩) := (ha 28 (by decide)).trans h28
                clear h28
                clear ha hp
                refine Reg.Op1.plain rfl ?_
                have x0 := (hR.cell (p := ⟨wr.heap.size, 1, none⟩) HE2.out.lt).trans (HE2.out.cell (j := 1) rfl)
                rw [hrn] at x0
                go_wp2
                exact ⟨rfl, hK _ _ rfl (fun j k _ _ => Reg.Adds.refl _ _ _)⟩
              · intro val ac u hR hp ha K hK      -- 9: t30 := Op.indexAddr 27 t3 t26
                have e3 : (ac.tmps[3]?).getD undef = .pointer (some ⟨w.heap.size, 0, none⟩) := ha 3 (by decide)
                obtain ⟨w26, h26, r26⟩ := hp 5 (by decide)
                have e26 : (ac.tmps[26]?).getD undef = .int .i64 (dn : Int) := (ha 26 (by decide)).trans h26
                clear h26
                clear ha hp
                refine Reg.Op1.plain rfl ?_
                go_wp2
                exact ⟨rfl, hK _ _ rfl (fun j k _ _ => Reg.Adds.refl _ _ _)⟩
              · intro val ac u hR hp ha K hK      -- 10: t31 := Op.indexAddr 25 t30 t29
                obtain ⟨w30, h30, r30⟩ := hp 9 (by decide)
                have e30 : (ac.tmps[30]?).getD undef = .pointer (some ⟨w.heap.size, dn * 3, none⟩) := (ha 30 (by decide)).trans h30
                clear h30
                obtain ⟨w29, h29, r29⟩ := hp 8 (by decide)
                have e29 : (ac.tmps[29]?).getD undef = .int .i64 (rn : Int) := (ha 29 (by decide)).trans h29
                clear h29
                clear ha hp
                refine Reg.Op1.plain rfl ?_
                go_wp2
                exact ⟨rfl, hK _ _ rfl (fun j k _ _ => Reg.Adds.refl _ _ _)⟩
              · intro val ac u hR hp ha K hK      -- 11: t32 := Op.load 3 t31
                obtain ⟨w31, h31, r31⟩ := hp 10 (by decide)
                have e31 : (ac.tmps[31]?).getD undef = .pointer (some ⟨w.heap.size, dn * 3 + rn, none⟩) := (ha 31 (by decide)).trans h31
                clear h31
                clear ha hp
                refine Reg.Op1.plain rfl ?_
                have x0 := (hR.cell (p := ⟨w.heap.size, dn * 3 + rn, none⟩) HN2.out.V.lt).trans (HN2.out.V.cell (j := dn * 3 + rn) (vc_cell vv hd3 hr4))
                rw [hdv] at x0
                go_wp2
                exact ⟨rfl, hK _ _ rfl (fun j k _ _ => Reg.Adds.refl _ _ _)⟩
              · intro val ac u hR hp ha K hK      -- 12: t33 := Op.binOp BinOp.add 3 t32 (const (1:i64)) 3
                obtain ⟨w32, h32, r32⟩ := hp 11 (by decide)
                have e32 : (ac.tmps[32]?).getD undef = .int .i64 dv := (ha 32 (by decide)).trans h32
                clear h32
                clear ha hp
                refine Reg.Op1.plain rfl ?_
                go_wp2
                exact ⟨rfl, hK _ _ rfl (fun j k _ _ => Reg.Adds.refl _ _ _)⟩
              · intro val ac u hR hp ha K hK      -- 13: t34 := Op.binOp BinOp.eql 3 t23 t33 3
                obtain ⟨w23, h23, r23⟩ := hp 2 (by decide)
                have e23 : (ac.tmps[23]?).getD undef = .int .i64 e.seq := (ha 23 (by decide)).trans h23
                clear h23
                obtain ⟨w33, h33, r33⟩ := hp 12 (by decide)
                have e33 : (ac.tmps[33]?).getD undef = .int .i64 nx := (ha 33 (by decide)).trans h33
                clear h33
                clear ha hp
                refine Reg.Op1.plain rfl ?_
                go_wp2
                exact ⟨rfl, hK _ _ rfl (fun j k _ _ => Reg.Adds.refl _ _ _)⟩
              · intro val ac u hR hp ha K hK      -- 14: t35 := Op.move t34
                obtain ⟨w34, h34, r34⟩ := hp 13 (by decide)
                have e34 : (ac.tmps[34]?).getD undef = .bool true := (ha 34 (by decide)).trans h34
                clear h34
                clear ha hp
                refine Reg.Op1.plain rfl ?_
                go_wp2
                exact ⟨rfl, hK _ _ rfl (fun j k _ _ => Reg.Adds.refl _ _ _)⟩
              · intro val ac u hR hp ha K hK      -- 15: t36 := Op.load 27 t3
                have e3 : (ac.tmps[3]?).getD undef = .pointer (some ⟨w.heap.size, 0, none⟩) := ha 3 (by decide)
                obtain ⟨w35, h35, r35⟩ := hp 14 (by decide)
                have e35 : (ac.tmps[35]?).getD undef = .bool true := (ha 35 (by decide)).trans h35
                clear h35
                clear ha hp
                refine Reg.Op1.guarded rfl rfl e35 (fun _ => Reg.Op1.plain rfl ?_) (fun h => absurd rfl h)
                have hVu : VBx u w.heap.size vv := Mem.Bx.below (w := w2.drew) HN2.out.V hR HN2.out.V.lt
                refine Mem.load_aggG _ _ vec_agg w.heap.size 0 (vcCells vv) (by assumption) (Reg.eval_of e3) (vcCells_length _) (fun j u' hu => by rw [Nat.zero_add]; exact hVu.cell hu) ?_
                exact ⟨rfl, hK _ _ rfl (fun j k _ _ => Reg.Adds.refl _ _ _)⟩
              · intro val ac u hR hp ha K hK      -- 16: t37 := Op.fieldAddr 33 t8 5
                have e8 : (ac.tmps[8]?).getD undef = .pointer (some ⟨wr.heap.size, 0, none⟩) := ha 8 (by decide)
                obtain ⟨w35, h35, r35⟩ := hp 14 (by decide)
                have e35 : (ac.tmps[35]?).getD undef = .bool true := (ha 35 (by decide)).trans h35
                clear h35
                clear ha hp
                refine Reg.Op1.guarded rfl rfl e35 (fun _ => Reg.Op1.plain rfl ?_) (fun h => absurd rfl h)
                go_wp2
                exact ⟨rfl, hK _ _ rfl (fun j k _ _ => Reg.Adds.refl _ _ _)⟩
              · intro val ac u hR hp ha K hK      -- 17: t38 := Op.load 27 t37
                obtain ⟨w37, h37, r37⟩ := hp 16 (by decide)
                have e37 : (ac.tmps[37]?).getD undef = .pointer (some ⟨wr.heap.size, 9, none⟩) := (ha 37 (by decide)).trans h37
                clear h37
                obtain ⟨w35, h35, r35⟩ := hp 14 (by decide)
                have e35 : (ac.tmps[35]?).getD undef = .bool true := (ha 35 (by decide)).trans h35
                clear h35
                clear ha hp
                refine Reg.Op1.guarded rfl rfl e35 (fun _ => Reg.Op1.plain rfl ?_) (fun h => absurd rfl h)
                have hEu : EBx u wr.heap.size e := Mem.Bx.below (w := w2.drew) HE2.out hR HE2.out.lt
                refine Mem.load_aggG _ _ vec_agg wr.heap.size 9 (vcCells e.deps) (by assumption) (Reg.eval_of e37) (vcCells_length _) (hEu.part 9 rfl) ?_
                exact ⟨rfl, hK _ _ rfl (fun j k _ _ => Reg.Adds.refl _ _ _)⟩
              · intro val ac u hR hp ha K hK      -- 18: t39 := Op.call { value (Operand.func 14), args := #[t36, t38], argTypes := #[27, 27] }
                obtain ⟨w36, h36, r36⟩ := hp 15 (by decide)
                have e36 : (ac.tmps[36]?).getD undef = .agg (vcCells vv).toArray := (ha 36 (by decide)).trans h36
                clear h36
                obtain ⟨w38, h38, r38⟩ := hp 17 (by decide)
                have e38 : (ac.tmps[38]?).getD undef = .agg (vcCells e.deps).toArray := (ha 38 (by decide)).trans h38
                clear h38
                obtain ⟨w35, h35, r35⟩ := hp 14 (by decide)
                have e35 : (ac.tmps[35]?).getD undef = .bool true := (ha 35 (by decide)).trans h35
                clear h35
                clear ha hp
                refine Reg.Op1.guarded rfl rfl e35 (fun _ => Reg.Op1.plain rfl ?_) (fun h => absurd rfl h)
                go_wp2_with fail
                refine (coversV_any vv e.deps u).mono ?_
                rintro x w' ⟨rfl, hbw⟩
                rw [hcv]
                go_wp2_with fail
                exact ⟨rfl, hK _ _ rfl (fun j k _ _ => hbw)⟩
              · intro val ac u hR hp ha K hK      -- 19: t40 := Op.pick t35 t39 (const (Value.bool false))
                obtain ⟨w35, h35, r35⟩ := hp 14 (by decide)
                have e35 : (ac.tmps[35]?).getD undef = .bool true := (ha 35 (by decide)).trans h35
                clear h35
                obtain ⟨w39, h39, r39⟩ := hp 18 (by decide)
                have e39 : (ac.tmps[39]?).getD undef = .bool true := (ha 39 (by decide)).trans h39
                clear h39
                clear ha hp
                refine Reg.Op1.plain rfl ?_
                go_wp2
                exact ⟨rfl, hK _ _ rfl (fun j k _ _ => Reg.Adds.refl _ _ _)⟩
              · intro val ac u hR hp ha K hK      -- 20: t9 := Op.assign t40
                obtain ⟨w40, h40, r40⟩ := hp 19 (by decide)
                have e40 : (ac.tmps[40]?).getD undef = .bool true := (ha 40 (by decide)).trans h40
                clear h40
                clear ha hp
                refine Reg.Op1.plain rfl ?_
                go_wp2
                exact ⟨rfl, hK _ _ rfl (fun j k _ _ => Reg.Adds.refl _ _ _)⟩
            · intro val u hR H
              obtain ⟨_, hv, _⟩ := H 20 (by decide)
              have hv : val 20 = .bool true := hv
              have HK6 : Hid (Below w2.heap.size w2 u) := (Below.refl _ w2).drew.trans hR
              simp only [List.map_cons, List.map_nil, Reg.lay, Act.put, List.setIfInBounds_toArray, List.set_cons_succ, List.set_cons_zero, Nat.reduceAdd, hv]
              clear hR H hv
              go_wp2
              go_meet
              case rel => exact ⟨by rw [hdue], HK6.out⟩
        · have d1 : (e.seq == nx) = false := by simp [hs]
          have hdue : dueE vv e = false := by rw [hde, d1]; rfl
          clear hs
          refine Reg.wp_region_rel (by kernel_rfl) 84 21 rfl rfl (by kernel_rfl) (Reg.Adds) (Reg.Adds.refl) (Reg.Adds.trans)
            (fun i v u => match i with
              | 0 => v = .pointer (some ⟨wr.heap.size, 0, none⟩)
              | 1 => v = .pointer (some ⟨wr.heap.size, 2, none⟩)
              | 2 => v = .int .i64 e.seq
              | 3 => v = .pointer (some ⟨wr.heap.size, 0, none⟩)
              | 4 => v = .pointer (some ⟨wr.heap.size, 0, none⟩)
              | 5 => v = .int .i64 (dn : Int)
              | 6 => v = .pointer (some ⟨wr.heap.size, 0, none⟩)
              | 7 => v = .pointer (some ⟨wr.heap.size, 1, none⟩)
              | 8 => v = .int .i64 (rn : Int)
              | 9 => v = .pointer (some ⟨w.heap.size, dn * 3, none⟩)
              | 10 => v = .pointer (some ⟨w.heap.size, dn * 3 + rn, none⟩)
              | 11 => v = .int .i64 dv
              | 12 => v = .int .i64 nx
              | 13 => v = .bool false
              | 14 => v = .bool false
              | 15 => v = undef
              | 16 => v = undef
              | 17 => v = undef
              | 18 => v = undef
              | 19 => v = .bool false
              | 20 => v = .bool false
              | _ => True) ?_ ?_
          · refine Reg.Steps.cons ?_ (Reg.Steps.cons ?_ (Reg.Steps.cons ?_ (Reg.Steps.cons ?_ (Reg.Steps.cons ?_ (Reg.Steps.cons ?_ (Reg.Steps.cons ?_ (Reg.Steps.cons ?_ (Reg.Steps.cons ?_ (Reg.Steps.cons ?_ (Reg.Steps.cons ?_ (Reg.Steps.cons ?_ (Reg.Steps.cons ?_ (Reg.Steps.cons ?_ (Reg.Steps.cons ?_ (Reg.Steps.cons ?_ (Reg.Steps.cons ?_ (Reg.Steps.cons ?_ (Reg.Steps.cons ?_ (Reg.Steps.cons ?_ (Reg.Steps.cons ?_ (Reg.Steps.nil _)))))))))))))))))))))
            · intro val ac u hR hp ha K hK      -- 0: t21 := Op.fieldAddr 33 t8 0
              have e8 : (ac.tmps[8]?).getD undef = .pointer (some ⟨wr.heap.size, 0, none⟩) := ha 8 (by decide)
              clear ha hp
              refine Reg.Op1.plain rfl ?_
              go_wp2
              exact ⟨rfl, hK _ _ rfl (fun j k _ _ => Reg.Adds.refl _ _ _)⟩
            · intro val ac u hR hp ha K hK      -- 1: t22 := Op.fieldAddr 29 t21 2
              obtain ⟨w21, h21, r21⟩ := hp 0 (by decide)
              have e21 : (ac.tmps[21]?).getD undef = .pointer (some ⟨wr.heap.size, 0, none⟩) := (ha 21 (by decide)).trans h21
              clear h21
              clear ha hp
              refine Reg.Op1.plain rfl ?_
              go_wp2
              exact ⟨rfl, hK _ _ rfl (fun j k _ _ => Reg.Adds.refl _ _ _)⟩
            · intro val ac u hR hp ha K hK      -- 2: t23 := Op.load 3 t22
              obtain ⟨w22, h22, r22⟩ := hp 1 (by decide)
              have e22 : (ac.tmps[22]?).getD undef = .pointer (some ⟨wr.heap.size, 2, none⟩) := (ha 22 (by decide)).trans h22
              clear h22
              clear ha hp
              refine Reg.Op1.plain rfl ?_
              have x0 := (hR.cell (p := ⟨wr.heap.size, 2, none⟩) HE2.out.lt).trans (HE2.out.cell (j := 2) rfl)
              go_wp2
              exact ⟨rfl, hK _ _ rfl (fun j k _ _ => Reg.Adds.refl _ _ _)⟩
            · intro val ac u hR hp ha K hK      -- 3: t24 := Op.fieldAddr 33 t8 0
              have e8 : (ac.tmps[8]?).getD undef = .pointer (some ⟨wr.heap.size, 0, none⟩) := ha 8 (by decide)
              clear ha hp
              refine Reg.Op1.plain rfl ?_
              go_wp2
              exact ⟨rfl, hK _ _ rfl (fun j k _ _ => Reg.Adds.refl _ _ _)⟩
            · intro val ac u hR hp ha K hK      -- 4: t25 := Op.fieldAddr 29 t24 0
              obtain ⟨w24, h24, r24⟩ := hp 3 (by decide)
              have e24 : (ac.tmps[24]?).getD undef = .pointer (some ⟨wr.heap.size, 0, none⟩) := (ha 24 (by decide)).trans h24
              clear h24
              clear ha hp
              refine Reg.Op1.plain rfl ?_
              go_wp2
              exact ⟨rfl, hK _ _ rfl (fun j k _ _ => Reg.Adds.refl _ _ _)⟩
            · intro val ac u hR hp ha K hK      -- 5: t26 := Op.load 3 t25
              obtain ⟨w25, h25, r25⟩ := hp 4 (by decide)
              have e25 : (ac.tmps[25]?).getD undef = .pointer (some ⟨wr.heap.size, 0, none⟩) := (ha 25 (by decide)).trans h25
              clear h25
              clear ha hp
              refine Reg.Op1.plain rfl ?_
              have x0 := (hR.cell (p := ⟨wr.heap.size, 0, none⟩) HE2.out.lt).trans (HE2.out.cell (j := 0) rfl)
              rw [hdn] at x0
              go_wp2
              exact ⟨rfl, hK _ _ rfl (fun j k _ _ => Reg.Adds.refl _ _ _)⟩
            · intro val ac u hR hp ha K hK      -- 6: t27 := Op.fieldAddr 33 t8 0
              have e8 : (ac.tmps[8]?).getD undef = .pointer (some ⟨wr.heap.size, 0, none⟩) := ha 8 (by decide)
              clear ha hp
              refine Reg.Op1.plain rfl ?_
              go_wp2
              exact ⟨rfl, hK _ _ rfl (fun j k _ _ => Reg.Adds.refl _ _ _)⟩
            · intro val ac u hR hp ha K hK      -- 7: t28 := Op.fieldAddr 29 t27 1
              obtain ⟨w27, h27, r27⟩ := hp 6 (by decide)
              have e27 : (ac.tmps[27]?).getD undef = .pointer (some ⟨wr.heap.size, 0, none⟩) := (ha 27 (by decide)).trans h27
              clear h27
              clear ha hp
              refine Reg.Op1.plain rfl ?_
              go_wp2
              exact ⟨rfl, hK _ _ rfl (fun j k _ _ => Reg.Adds.refl _ _ _)⟩
            · intro val ac u hR hp ha K hK      -- 8: t29 := Op.load 3 t28
              obtain ⟨w28, h28, r28⟩ := hp 7 (by decide)
              have e28 : (ac.tmps[28]?).getD undef = .pointer (some ⟨wr.heap.size, 1, none⟩) := (ha 28 (by decide)).trans h28
              clear h28
              clear ha hp
              refine Reg.Op1.plain rfl ?_
              have x0 := (hR.cell (p := ⟨wr.heap.size, 1, none⟩) HE2.out.lt).trans (HE2.out.cell (j := 1) rfl)
              rw [hrn] at x0
              go_wp2
              exact ⟨rfl, hK _ _ rfl (fun j k _ _ => Reg.Adds.refl _ _ _)⟩
            · intro val ac u hR hp ha K hK      -- 9: t30 := Op.indexAddr 27 t3 t26
              have e3 : (ac.tmps[3]?).getD undef = .pointer (some ⟨w.heap.size, 0, none⟩) := ha 3 (by decide)
              obtain ⟨w26, h26, r26⟩ := hp 5 (by decide)
              have e26 : (ac.tmps[26]?).getD undef = .int .i64 (dn : Int) := (ha 26 (by decide)).trans h26
              clear h26
              clear ha hp
              refine Reg.Op1.plain rfl ?_
              go_wp2
              exact ⟨rfl, hK _ _ rfl (fun j k _ _ => Reg.Adds.refl _ _ _)⟩
            · intro val ac u hR hp ha K hK      -- 10: t31 := Op.indexAddr 25 t30 t29
              obtain ⟨w30, h30, r30⟩ := hp 9 (by decide)
              have e30 : (ac.tmps[30]?).getD undef = .pointer (some ⟨w.heap.size, dn * 3, none⟩) := (ha 30 (by decide)).trans h30
              clear h30
              obtain ⟨w29, h29, r29⟩ := hp 8 (by decide)
              have e29 : (ac.tmps[29]?).getD undef = .int .i64 (rn : Int) := (ha 29 (by decide)).trans h29
              clear h29
              clear ha hp
              refine Reg.Op1.plain rfl ?_
              go_wp2
              exact ⟨rfl, hK _ _ rfl (fun j k _ _ => Reg.Adds.refl _ _ _)⟩
            · intro val ac u hR hp ha K hK      -- 11: t32 := Op.load 3 t31
              obtain ⟨w31, h31, r31⟩ := hp 10 (by decide)
              have e31 : (ac.tmps[31]?).getD undef = .pointer (some ⟨w.heap.size, dn * 3 + rn, none⟩) := (ha 31 (by decide)).trans h31
              clear h31
              clear ha hp
              refine Reg.Op1.plain rfl ?_
              have x0 := (hR.cell (p := ⟨w.heap.size, dn * 3 + rn, none⟩) HN2.out.V.lt).trans (HN2.out.V.cell (j := dn * 3 + rn) (vc_cell vv hd3 hr4))
              rw [hdv] at x0
              go_wp2
              exact ⟨rfl, hK _ _ rfl (fun j k _ _ => Reg.Adds.refl _ _ _)⟩
            · intro val ac u hR hp ha K hK      -- 12: t33 := Op.binOp BinOp.add 3 t32 (const (1:i64)) 3
              obtain ⟨w32, h32, r32⟩ := hp 11 (by decide)
              have e32 : (ac.tmps[32]?).getD undef = .int .i64 dv := (ha 32 (by decide)).trans h32
              clear h32
              clear ha hp
              refine Reg.Op1.plain rfl ?_
              go_wp2
              exact ⟨rfl, hK _ _ rfl (fun j k _ _ => Reg.Adds.refl _ _ _)⟩
            · intro val ac u hR hp ha K hK      -- 13: t34 := Op.binOp BinOp.eql 3 t23 t33 3
              obtain ⟨w23, h23, r23⟩ := hp 2 (by decide)
              have e23 : (ac.tmps[23]?).getD undef = .int .i64 e.seq := (ha 23 (by decide)).trans h23
              clear h23
              obtain ⟨w33, h33, r33⟩ := hp 12 (by decide)
              have e33 : (ac.tmps[33]?).getD undef = .int .i64 nx := (ha 33 (by decide)).trans h33
              clear h33
              clear ha hp
              refine Reg.Op1.plain rfl ?_
              go_wp2
              exact ⟨rfl, hK _ _ rfl (fun j k _ _ => Reg.Adds.refl _ _ _)⟩
            · intro val ac u hR hp ha K hK      -- 14: t35 := Op.move t34
              obtain ⟨w34, h34, r34⟩ := hp 13 (by decide)
              have e34 : (ac.tmps[34]?).getD undef = .bool false := (ha 34 (by decide)).trans h34
              clear h34
              clear ha hp
              refine Reg.Op1.plain rfl ?_
              go_wp2
              exact ⟨rfl, hK _ _ rfl (fun j k _ _ => Reg.Adds.refl _ _ _)⟩
            · intro val ac u hR hp ha K hK      -- 15: t36 := Op.load 27 t3
              obtain ⟨w35, h35, r35⟩ := hp 14 (by decide)
              have e35 : (ac.tmps[35]?).getD undef = .bool false := (ha 35 (by decide)).trans h35
              clear h35
              clear ha hp
              exact Reg.Op1.guarded rfl rfl e35 (fun h => by cases h) (fun _ => hK _ _ rfl (fun j k _ _ => Reg.Adds.refl _ _ _))
            · intro val ac u hR hp ha K hK      -- 16: t37 := Op.fieldAddr 33 t8 5
              obtain ⟨w35, h35, r35⟩ := hp 14 (by decide)
              have e35 : (ac.tmps[35]?).getD undef = .bool false := (ha 35 (by decide)).trans h35
              clear h35
              clear ha hp
              exact Reg.Op1.guarded rfl rfl e35 (fun h => by cases h) (fun _ => hK _ _ rfl (fun j k _ _ => Reg.Adds.refl _ _ _))
            · intro val ac u hR hp ha K hK      -- 17: t38 := Op.load 27 t37
              obtain ⟨w35, h35, r35⟩ := hp 14 (by decide)
              have e35 : (ac.tmps[35]?).getD undef = .bool false := (ha 35 (by decide)).trans h35
              clear h35
              clear ha hp
              exact Reg.Op1.guarded rfl rfl e35 (fun h => by cases h) (fun _ => hK _ _ rfl (fun j k _ _ => Reg.Adds.refl _ _ _))
            · intro val ac u hR hp ha K hK      -- 18: t39 := Op.call { value (Operand.func 14), args := #[t36, t38], argTypes := #[27, 27] }
              obtain ⟨w35, h35, r35⟩ := hp 14 (by decide)
              have e35 : (ac.tmps[35]?).getD undef = .bool false := (ha 35 (by decide)).trans h35
              clear h35
              clear ha hp
              exact Reg.Op1.guarded rfl rfl e35 (fun h => by cases h) (fun _ => hK _ _ rfl (fun j k _ _ => Reg.Adds.refl _ _ _))
            · intro val ac u hR hp ha K hK      -- 19: t40 := Op.pick t35 t39 (const (Value.bool false))
              obtain ⟨w35, h35, r35⟩ := hp 14 (by decide)
              have e35 : (ac.tmps[35]?).getD undef = .bool false := (ha 35 (by decide)).trans h35
              clear h35
              obtain ⟨w39, h39, r39⟩ := hp 18 (by decide)
              have e39 : (ac.tmps[39]?).getD undef = undef := (ha 39 (by decide)).trans h39
              clear h39
              clear ha hp
              refine Reg.Op1.plain rfl ?_
              go_wp2
              exact ⟨rfl, hK _ _ rfl (fun j k _ _ => Reg.Adds.refl _ _ _)⟩
            · intro val ac u hR hp ha K hK      -- 20: t9 := Op.assign t40
              obtain ⟨w40, h40, r40⟩ := hp 19 (by decide)
              have e40 : (ac.tmps[40]?).getD undef = .bool false := (ha 40 (by decide)).trans h40
              clear h40
              clear ha hp
              refine Reg.Op1.plain rfl ?_
              go_wp2
              exact ⟨rfl, hK _ _ rfl (fun j k _ _ => Reg.Adds.refl _ _ _)⟩
          · intro val u hR H
            obtain ⟨_, hv, _⟩ := H 20 (by decide)
            have hv : val 20 = .bool false := hv
            have HK6 : Hid (Below w2.heap.size w2 u) := (Below.refl _ w2).drew.trans hR
            simp only [List.map_cons, List.map_nil, Reg.lay, Act.put, List.setIfInBounds_toArray, List.set_cons_succ, List.set_cons_zero, Nat.reduceAdd, hv]
            clear hR H hv
            go_wp2
            go_meet
            case rel => exact ⟨by rw [hdue], HK6.out⟩
      case rest =>
        obtain ⟨rfl, hbc⟩ := hcut
        have HE3 : Hid (EBx wc wr.heap.size e) := HE2.out.below hbc HE2.out.lt
        have HN3 := Lib.hid (HN2.out.below hbc)
        have hbl : b < wc.heap.size := HN3.out.H.O.lt rfl
        obtain ⟨gb, hgb⟩ : ∃ gb, wr.heap.size = gb := ⟨_, rfl⟩
        rw [hgb] at HE3 ⊢
        clear hbc HN2 HE2 hde hnx hnx2 hdv hdn hrn hdn0 hrn0 hd3 hr4 hgb hzr
        rename World => w3
        obtain ⟨m0, hm0⟩ : ∃ m0 : Ent, m0 = e := ⟨_, rfl⟩
        cases hdue : dueE vv e
        case false =>
          have HT2 : Hid (bestTo vv es (k + 1) = bestTo vv es k) := by show _ = _; rw [HTS.out]; unfold nextStep; rw [if_neg (by simp [hdue])]
          obtain ⟨bb, hbb⟩ : ∃ bb, bI (bestTo vv es k) = bb := ⟨_, rfl⟩
          have HT1 : Hid (bI (bestTo vv es (k + 1)) = bb) := by show _ = _; rw [HT2.out, hbb]
          rw [hbb]
          clear hbb hdue HTS HT2
          go_upto_region 6 with fail
          refine Reg.wp_region_rel (by kernel_rfl) 84 19 rfl rfl (by kernel_rfl) (Reg.Adds) (Reg.Adds.refl) (Reg.Adds.trans)
            (fun i v u => match i with
              | 0 => v = .bool false
              | 1 => v = .bool false
              | 2 => v = undef
              | 3 => v = undef
              | 4 => v = undef
              | 5 => v = undef
              | 6 => v = undef
              | 7 => v = undef
              | 8 => v = undef
              | 9 => v = undef
              | 10 => v = undef
              | 11 => v = undef
              | 12 => v = undef
              | 13 => v = undef
              | 14 => v = undef
              | 15 => v = undef
              | 16 => v = undef
              | 17 => v = undef
              | 18 => v = .bool false
              | _ => True) ?_ ?_
          · refine Reg.Steps.cons ?_ (Reg.Steps.cons ?_ (Reg.Steps.cons ?_ (Reg.Steps.cons ?_ (Reg.Steps.cons ?_ (Reg.Steps.cons ?_ (Reg.Steps.cons ?_ (Reg.Steps.cons ?_ (Reg.Steps.cons ?_ (Reg.Steps.cons ?_ (Reg.Steps.cons ?_ (Reg.Steps.cons ?_ (Reg.Steps.cons ?_ (Reg.Steps.cons ?_ (Reg.Steps.cons ?_ (Reg.Steps.cons ?_ (Reg.Steps.cons ?_ (Reg.Steps.cons ?_ (Reg.Steps.cons ?_ (Reg.Steps.nil _)))))))))))))))))))
            · intro val ac u hR hp ha K hK      -- 0: t41 := Op.move t9
              have e9 : (ac.tmps[9]?).getD undef = .bool false := ha 9 (by decide)
              clear ha hp
              refine Reg.Op1.plain rfl ?_
              go_wp2
              exact ⟨rfl, hK _ _ rfl (fun j k _ _ => Reg.Adds.refl _ _ _)⟩
            · intro val ac u hR hp ha K hK      -- 1: t42 := Op.move t41
              obtain ⟨w41, h41, r41⟩ := hp 0 (by decide)
              have e41 : (ac.tmps[41]?).getD undef = .bool false := (ha 41 (by decide)).trans h41
              clear h41
              clear ha hp
              refine Reg.Op1.plain rfl ?_
              go_wp2
              exact ⟨rfl, hK _ _ rfl (fun j k _ _ => Reg.Adds.refl _ _ _)⟩
            · intro val ac u hR hp ha K hK      -- 2: t43 := Op.move t6
              obtain ⟨w42, h42, r42⟩ := hp 1 (by decide)
              have e42 : (ac.tmps[42]?).getD undef = .bool false := (ha 42 (by decide)).trans h42
              clear h42
              clear ha hp
              exact Reg.Op1.guarded rfl rfl e42 (fun h => by cases h) (fun _ => hK _ _ rfl (fun j k _ _ => Reg.Adds.refl _ _ _))
            · intro val ac u hR hp ha K hK      -- 3: t44 := Op.binOp BinOp.lss 3 t43 (const (0:i64)) 3
              obtain ⟨w42, h42, r42⟩ := hp 1 (by decide)
              have e42 : (ac.tmps[42]?).getD undef = .bool false := (ha 42 (by decide)).trans h42
              clear h42
              clear ha hp
              exact Reg.Op1.guarded rfl rfl e42 (fun h => by cases h) (fun _ => hK _ _ rfl (fun j k _ _ => Reg.Adds.refl _ _ _))
            · intro val ac u hR hp ha K hK      -- 4: t45 := Op.move t44
              obtain ⟨w42, h42, r42⟩ := hp 1 (by decide)
              have e42 : (ac.tmps[42]?).getD undef = .bool false := (ha 42 (by decide)).trans h42
              clear h42
              clear ha hp
              exact Reg.Op1.guarded rfl rfl e42 (fun h => by cases h) (fun _ => hK _ _ rfl (fun j k _ _ => Reg.Adds.refl _ _ _))
            · intro val ac u hR hp ha K hK      -- 5: t46 := Op.fieldAddr 33 t8 1
              obtain ⟨w45, h45, r45⟩ := hp 4 (by decide)
              have e45 : (ac.tmps[45]?).getD undef = undef := (ha 45 (by decide)).trans h45
              clear h45
              clear ha hp
              exact Reg.Op1.passed rfl rfl e45 (hK _ _ rfl (fun j k _ _ => Reg.Adds.refl _ _ _))
            · intro val ac u hR hp ha K hK      -- 6: t47 := Op.load 31 t46
              obtain ⟨w45, h45, r45⟩ := hp 4 (by decide)
              have e45 : (ac.tmps[45]?).getD undef = undef := (ha 45 (by decide)).trans h45
              clear h45
              clear ha hp
              exact Reg.Op1.passed rfl rfl e45 (hK _ _ rfl (fun j k _ _ => Reg.Adds.refl _ _ _))
            · intro val ac u hR hp ha K hK      -- 7: t48 := Op.move t0
              obtain ⟨w45, h45, r45⟩ := hp 4 (by decide)
              have e45 : (ac.tmps[45]?).getD undef = undef := (ha 45 (by decide)).trans h45
              clear h45
              clear ha hp
              exact Reg.Op1.passed rfl rfl e45 (hK _ _ rfl (fun j k _ _ => Reg.Adds.refl _ _ _))
            · intro val ac u hR hp ha K hK      -- 8: t49 := Op.nilCheck t48
              obtain ⟨w45, h45, r45⟩ := hp 4 (by decide)
              have e45 : (ac.tmps[45]?).getD undef = undef := (ha 45 (by decide)).trans h45
              clear h45
              clear ha hp
              exact Reg.Op1.passed rfl rfl e45 (hK _ _ rfl (fun j k _ _ => Reg.Adds.refl _ _ _))
            · intro val ac u hR hp ha K hK      -- 9: t50 := Op.fieldAddr 61 t49 1
              obtain ⟨w45, h45, r45⟩ := hp 4 (by decide)
              have e45 : (ac.tmps[45]?).getD undef = undef := (ha 45 (by decide)).trans h45
              clear h45
              clear ha hp
              exact Reg.Op1.passed rfl rfl e45 (hK _ _ rfl (fun j k _ _ => Reg.Adds.refl _ _ _))
            · intro val ac u hR hp ha K hK      -- 10: t51 := Op.load 24 t50
              obtain ⟨w45, h45, r45⟩ := hp 4 (by decide)
              have e45 : (ac.tmps[45]?).getD undef = undef := (ha 45 (by decide)).trans h45
              clear h45
              clear ha hp
              exact Reg.Op1.passed rfl rfl e45 (hK _ _ rfl (fun j k _ _ => Reg.Adds.refl _ _ _))
            · intro val ac u hR hp ha K hK      -- 11: t52 := Op.move t6
              obtain ⟨w45, h45, r45⟩ := hp 4 (by decide)
              have e45 : (ac.tmps[45]?).getD undef = undef := (ha 45 (by decide)).trans h45
              clear h45
              clear ha hp
              exact Reg.Op1.passed rfl rfl e45 (hK _ _ rfl (fun j k _ _ => Reg.Adds.refl _ _ _))
            · intro val ac u hR hp ha K hK      -- 12: t53 := Op.indexAddr 24 t51 t52
              obtain ⟨w45, h45, r45⟩ := hp 4 (by decide)
              have e45 : (ac.tmps[45]?).getD undef = undef := (ha 45 (by decide)).trans h45
              clear h45
              clear ha hp
              exact Reg.Op1.passed rfl rfl e45 (hK _ _ rfl (fun j k _ _ => Reg.Adds.refl _ _ _))
            · intro val ac u hR hp ha K hK      -- 13: t54 := Op.fieldAddr 33 t53 1
              obtain ⟨w45, h45, r45⟩ := hp 4 (by decide)
              have e45 : (ac.tmps[45]?).getD undef = undef := (ha 45 (by decide)).trans h45
              clear h45
              clear ha hp
              exact Reg.Op1.passed rfl rfl e45 (hK _ _ rfl (fun j k _ _ => Reg.Adds.refl _ _ _))
            · intro val ac u hR hp ha K hK      -- 14: t55 := Op.load 31 t54
              obtain ⟨w45, h45, r45⟩ := hp 4 (by decide)
              have e45 : (ac.tmps[45]?).getD undef = undef := (ha 45 (by decide)).trans h45
              clear h45
              clear ha hp
              exact Reg.Op1.passed rfl rfl e45 (hK _ _ rfl (fun j k _ _ => Reg.Adds.refl _ _ _))
            · intro val ac u hR hp ha K hK      -- 15: t56 := Op.call { value (Operand.func 26), args := #[t47, t55], argTypes := #[31, 31] }
              obtain ⟨w45, h45, r45⟩ := hp 4 (by decide)
              have e45 : (ac.tmps[45]?).getD undef = undef := (ha 45 (by decide)).trans h45
              clear h45
              clear ha hp
              exact Reg.Op1.passed rfl rfl e45 (hK _ _ rfl (fun j k _ _ => Reg.Adds.refl _ _ _))
            · intro val ac u hR hp ha K hK      -- 16: t57 := Op.binOp BinOp.lss 3 t56 (const (0:i64)) 3
              obtain ⟨w45, h45, r45⟩ := hp 4 (by decide)
              have e45 : (ac.tmps[45]?).getD undef = undef := (ha 45 (by decide)).trans h45
              clear h45
              clear ha hp
              exact Reg.Op1.passed rfl rfl e45 (hK _ _ rfl (fun j k _ _ => Reg.Adds.refl _ _ _))
            · intro val ac u hR hp ha K hK      -- 17: t58 := Op.pick t45 (const (Value.bool true)) t57
              obtain ⟨w42, h42, r42⟩ := hp 1 (by decide)
              have e42 : (ac.tmps[42]?).getD undef = .bool false := (ha 42 (by decide)).trans h42
              clear h42
              clear ha hp
              exact Reg.Op1.guarded rfl rfl e42 (fun h => by cases h) (fun _ => hK _ _ rfl (fun j k _ _ => Reg.Adds.refl _ _ _))
            · intro val ac u hR hp ha K hK      -- 18: t59 := Op.pick t42 t58 (const (Value.bool false))
              obtain ⟨w42, h42, r42⟩ := hp 1 (by decide)
              have e42 : (ac.tmps[42]?).getD undef = .bool false := (ha 42 (by decide)).trans h42
              clear h42
              obtain ⟨w58, h58, r58⟩ := hp 17 (by decide)
              have e58 : (ac.tmps[58]?).getD undef = undef := (ha 58 (by decide)).trans h58
              clear h58
              clear ha hp
              refine Reg.Op1.plain rfl ?_
              go_wp2
              exact ⟨rfl, hK _ _ rfl (fun j k _ _ => Reg.Adds.refl _ _ _)⟩
          · intro val u hR H
            obtain ⟨_, hv, _⟩ := H 18 (by decide)
            have hv : val 18 = .bool false := hv
            have HK6 : Hid (Below w3.heap.size w3 u) := (Below.refl _ w3).drew.trans hR
            have HN4 := Lib.hid (HN3.out.below HK6.out)
            simp only [List.map_cons, List.map_nil, Reg.lay, Act.put, List.setIfInBounds_toArray, List.set_cons_succ, List.set_cons_zero, Nat.reduceAdd, hv]
            clear hR H hv
            go_wp2
            go_roundw
            case rel => exact ⟨⟨k + 1, by omega, by rw [HT1.out], by go_num, HN4⟩⟩
            case measure => simp [intOf]; omega
        case true =>
          cases hbt : bestTo vv es k with
          | none =>
            have HT2 : Hid (bestTo vv es (k + 1) = some k) := by show _ = _; rw [HTS.out]; unfold nextStep; rw [if_pos hdue, hbt]
            have HT1 : Hid (bI (bestTo vv es (k + 1)) = (k : Int)) := by show _ = _; rw [HT2.out]; rfl
            rw [show bI none = -1 from rfl]
            clear hbt hdue HTS HT2
            go_upto_region 6 with fail
            refine Reg.wp_region_rel (by kernel_rfl) 84 19 rfl rfl (by kernel_rfl) (Reg.Adds) (Reg.Adds.refl) (Reg.Adds.trans)
              (fun i v u => match i with
                | 0 => v = .bool true
                | 1 => v = .bool true
                | 2 => v = .int .i64 (-1)
                | 3 => v = .bool true
                | 4 => v = .bool true
                | 5 => v = undef
                | 6 => v = undef
                | 7 => v = undef
                | 8 => v = undef
                | 9 => v = undef
                | 10 => v = undef
                | 11 => v = undef
                | 12 => v = undef
                | 13 => v = undef
                | 14 => v = undef
                | 15 => v = undef
                | 16 => v = undef
                | 17 => v = .bool true
                | 18 => v = .bool true
                | _ => True) ?_ ?_
            · refine Reg.Steps.cons ?_ (Reg.Steps.cons ?_ (Reg.Steps.cons ?_ (Reg.Steps.cons ?_ (Reg.Steps.cons ?_ (Reg.Steps.cons ?_ (Reg.Steps.cons ?_ (Reg.Steps.cons ?_ (Reg.Steps.cons ?_ (Reg.Steps.cons ?_ (Reg.Steps.cons ?_ (Reg.Steps.cons ?_ (Reg.Steps.cons ?_ (Reg.Steps.cons ?_ (Reg.Steps.cons ?_ (Reg.Steps.cons ?_ (Reg.Steps.cons ?_ (Reg.Steps.cons ?_ (Reg.Steps.cons ?_ (Reg.Steps.nil _)))))))))))))))))))
              · intro val ac u hR hp ha K hK      -- 0: t41 := Op.move t9
                have e9 : (ac.tmps[9]?).getD undef = .bool true := ha 9 (by decide)
                clear ha hp
                refine Reg.Op1.plain rfl ?_
                go_wp2
                exact ⟨rfl, hK _ _ rfl (fun j k _ _ => Reg.Adds.refl _ _ _)⟩
              · intro val ac u hR hp ha K hK      -- 1: t42 := Op.move t41
                obtain ⟨w41, h41, r41⟩ := hp 0 (by decide)
                have e41 : (ac.tmps[41]?).getD undef = .bool true := (ha 41 (by decide)).trans h41
                clear h41
                clear ha hp
                refine Reg.Op1.plain rfl ?_
                go_wp2
                exact ⟨rfl, hK _ _ rfl (fun j k _ _ => Reg.Adds.refl _ _ _)⟩
              · intro val ac u hR hp ha K hK      -- 2: t43 := Op.move t6
                have e6 : (ac.tmps[6]?).getD undef = .int .i64 (-1) := ha 6 (by decide)
                obtain ⟨w42, h42, r42⟩ := hp 1 (by decide)
                have e42 : (ac.tmps[42]?).getD undef = .bool true := (ha 42 (by decide)).trans h42
                clear h42
                clear ha hp
                refine Reg.Op1.guarded rfl rfl e42 (fun _ => Reg.Op1.plain rfl ?_) (fun h => absurd rfl h)
                go_wp2
                exact ⟨rfl, hK _ _ rfl (fun j k _ _ => Reg.Adds.refl _ _ _)⟩
              · intro val ac u hR hp ha K hK      -- 3: t44 := Op.binOp BinOp.lss 3 t43 (const (0:i64)) 3
                obtain ⟨w43, h43, r43⟩ := hp 2 (by decide)
                have e43 : (ac.tmps[43]?).getD undef = .int .i64 (-1) := (ha 43 (by decide)).trans h43
                clear h43
                obtain ⟨w42, h42, r42⟩ := hp 1 (by decide)
                have e42 : (ac.tmps[42]?).getD undef = .bool true := (ha 42 (by decide)).trans h42
                clear h42
                clear ha hp
                refine Reg.Op1.guarded rfl rfl e42 (fun _ => Reg.Op1.plain rfl ?_) (fun h => absurd rfl h)
                go_wp2
                exact ⟨rfl, hK _ _ rfl (fun j k _ _ => Reg.Adds.refl _ _ _)⟩
              · intro val ac u hR hp ha K hK      -- 4: t45 := Op.move t44
                obtain ⟨w44, h44, r44⟩ := hp 3 (by decide)
                have e44 : (ac.tmps[44]?).getD undef = .bool true := (ha 44 (by decide)).trans h44
                clear h44
                obtain ⟨w42, h42, r42⟩ := hp 1 (by decide)
                have e42 : (ac.tmps[42]?).getD undef = .bool true := (ha 42 (by decide)).trans h42
                clear h42
                clear ha hp
                refine Reg.Op1.guarded rfl rfl e42 (fun _ => Reg.Op1.plain rfl ?_) (fun h => absurd rfl h)
                go_wp2
                exact ⟨rfl, hK _ _ rfl (fun j k _ _ => Reg.Adds.refl _ _ _)⟩
              · intro val ac u hR hp ha K hK      -- 5: t46 := Op.fieldAddr 33 t8 1
                obtain ⟨w45, h45, r45⟩ := hp 4 (by decide)
                have e45 : (ac.tmps[45]?).getD undef = .bool true := (ha 45 (by decide)).trans h45
                clear h45
                clear ha hp
                exact Reg.Op1.guarded rfl rfl e45 (fun h => by cases h) (fun _ => hK _ _ rfl (fun j k _ _ => Reg.Adds.refl _ _ _))
              · intro val ac u hR hp ha K hK      -- 6: t47 := Op.load 31 t46
                obtain ⟨w45, h45, r45⟩ := hp 4 (by decide)
                have e45 : (ac.tmps[45]?).getD undef = .bool true := (ha 45 (by decide)).trans h45
                clear h45
                clear ha hp
                exact Reg.Op1.guarded rfl rfl e45 (fun h => by cases h) (fun _ => hK _ _ rfl (fun j k _ _ => Reg.Adds.refl _ _ _))
              · intro val ac u hR hp ha K hK      -- 7: t48 := Op.move t0
                obtain ⟨w45, h45, r45⟩ := hp 4 (by decide)
                have e45 : (ac.tmps[45]?).getD undef = .bool true := (ha 45 (by decide)).trans h45
                clear h45
                clear ha hp
                exact Reg.Op1.guarded rfl rfl e45 (fun h => by cases h) (fun _ => hK _ _ rfl (fun j k _ _ => Reg.Adds.refl _ _ _))
              · intro val ac u hR hp ha K hK      -- 8: t49 := Op.nilCheck t48
                obtain ⟨w45, h45, r45⟩ := hp 4 (by decide)
                have e45 : (ac.tmps[45]?).getD undef = .bool true := (ha 45 (by decide)).trans h45
                clear h45
                clear ha hp
                exact Reg.Op1.guarded rfl rfl e45 (fun h => by cases h) (fun _ => hK _ _ rfl (fun j k _ _ => Reg.Adds.refl _ _ _))
              · intro val ac u hR hp ha K hK      -- 9: t50 := Op.fieldAddr 61 t49 1
                obtain ⟨w45, h45, r45⟩ := hp 4 (by decide)
                have e45 : (ac.tmps[45]?).getD undef = .bool true := (ha 45 (by decide)).trans h45
                clear h45
                clear ha hp
                exact Reg.Op1.guarded rfl rfl e45 (fun h => by cases h) (fun _ => hK _ _ rfl (fun j k _ _ => Reg.Adds.refl _ _ _))
              · intro val ac u hR hp ha K hK      -- 10: t51 := Op.load 24 t50
                obtain ⟨w45, h45, r45⟩ := hp 4 (by decide)
                have e45 : (ac.tmps[45]?).getD undef = .bool true := (ha 45 (by decide)).trans h45
                clear h45
                clear ha hp
                exact Reg.Op1.guarded rfl rfl e45 (fun h => by cases h) (fun _ => hK _ _ rfl (fun j k _ _ => Reg.Adds.refl _ _ _))
              · intro val ac u hR hp ha K hK      -- 11: t52 := Op.move t6
                obtain ⟨w45, h45, r45⟩ := hp 4 (by decide)
                have e45 : (ac.tmps[45]?).getD undef = .bool true := (ha 45 (by decide)).trans h45
                clear h45
                clear ha hp
                exact Reg.Op1.guarded rfl rfl e45 (fun h => by cases h) (fun _ => hK _ _ rfl (fun j k _ _ => Reg.Adds.refl _ _ _))
              · intro val ac u hR hp ha K hK      -- 12: t53 := Op.indexAddr 24 t51 t52
                obtain ⟨w45, h45, r45⟩ := hp 4 (by decide)
                have e45 : (ac.tmps[45]?).getD undef = .bool true := (ha 45 (by decide)).trans h45
                clear h45
                clear ha hp
                exact Reg.Op1.guarded rfl rfl e45 (fun h => by cases h) (fun _ => hK _ _ rfl (fun j k _ _ => Reg.Adds.refl _ _ _))
              · intro val ac u hR hp ha K hK      -- 13: t54 := Op.fieldAddr 33 t53 1
                obtain ⟨w45, h45, r45⟩ := hp 4 (by decide)
                have e45 : (ac.tmps[45]?).getD undef = .bool true := (ha 45 (by decide)).trans h45
                clear h45
                clear ha hp
                exact Reg.Op1.guarded rfl rfl e45 (fun h => by cases h) (fun _ => hK _ _ rfl (fun j k _ _ => Reg.Adds.refl _ _ _))
              · intro val ac u hR hp ha K hK      -- 14: t55 := Op.load 31 t54
                obtain ⟨w45, h45, r45⟩ := hp 4 (by decide)
                have e45 : (ac.tmps[45]?).getD undef = .bool true := (ha 45 (by decide)).trans h45
                clear h45
                clear ha hp
                exact Reg.Op1.guarded rfl rfl e45 (fun h => by cases h) (fun _ => hK _ _ rfl (fun j k _ _ => Reg.Adds.refl _ _ _))
              · intro val ac u hR hp ha K hK      -- 15: t56 := Op.call { value (Operand.func 26), args := #[t47, t55], argTypes := #[31, 31] }
                obtain ⟨w45, h45, r45⟩ := hp 4 (by decide)
                have e45 : (ac.tmps[45]?).getD undef = .bool true := (ha 45 (by decide)).trans h45
                clear h45
                clear ha hp
                exact Reg.Op1.guarded rfl rfl e45 (fun h => by cases h) (fun _ => hK _ _ rfl (fun j k _ _ => Reg.Adds.refl _ _ _))
              · intro val ac u hR hp ha K hK      -- 16: t57 := Op.binOp BinOp.lss 3 t56 (const (0:i64)) 3
                obtain ⟨w45, h45, r45⟩ := hp 4 (by decide)
                have e45 : (ac.tmps[45]?).getD undef = .bool true := (ha 45 (by decide)).trans h45
                clear h45
                clear ha hp
                exact Reg.Op1.guarded rfl rfl e45 (fun h => by cases h) (fun _ => hK _ _ rfl (fun j k _ _ => Reg.Adds.refl _ _ _))
              · intro val ac u hR hp ha K hK      -- 17: t58 := Op.pick t45 (const (Value.bool true)) t57
                obtain ⟨w45, h45, r45⟩ := hp 4 (by decide)
                have e45 : (ac.tmps[45]?).getD undef = .bool true := (ha 45 (by decide)).trans h45
                clear h45
                obtain ⟨w57, h57, r57⟩ := hp 16 (by decide)
                have e57 : (ac.tmps[57]?).getD undef = undef := (ha 57 (by decide)).trans h57
                clear h57
                obtain ⟨w42, h42, r42⟩ := hp 1 (by decide)
                have e42 : (ac.tmps[42]?).getD undef = .bool true := (ha 42 (by decide)).trans h42
                clear h42
                clear ha hp
                refine Reg.Op1.guarded rfl rfl e42 (fun _ => Reg.Op1.plain rfl ?_) (fun h => absurd rfl h)
                go_wp2
                exact ⟨rfl, hK _ _ rfl (fun j k _ _ => Reg.Adds.refl _ _ _)⟩
              · intro val ac u hR hp ha K hK      -- 18: t59 := Op.pick t42 t58 (const (Value.bool false))
                obtain ⟨w42, h42, r42⟩ := hp 1 (by decide)
                have e42 : (ac.tmps[42]?).getD undef = .bool true := (ha 42 (by decide)).trans h42
                clear h42
                obtain ⟨w58, h58, r58⟩ := hp 17 (by decide)
                have e58 : (ac.tmps[58]?).getD undef = .bool true := (ha 58 (by decide)).trans h58
                clear h58
                clear ha hp
                refine Reg.Op1.plain rfl ?_
                go_wp2
                exact ⟨rfl, hK _ _ rfl (fun j k _ _ => Reg.Adds.refl _ _ _)⟩
            · intro val u hR H
              obtain ⟨_, hv, _⟩ := H 18 (by decide)
              have hv : val 18 = .bool true := hv
              have HK6 : Hid (Below w3.heap.size w3 u) := (Below.refl _ w3).drew.trans hR
              have HN4 := Lib.hid (HN3.out.below HK6.out)
              simp only [List.map_cons, List.map_nil, Reg.lay, Act.put, List.setIfInBounds_toArray, List.set_cons_succ, List.set_cons_zero, Nat.reduceAdd, hv]
              clear hR H hv
              go_wp2
              go_roundw
              case rel => exact ⟨⟨k + 1, by omega, by rw [HT1.out], by go_num, HN4⟩⟩
              case measure => simp [intOf]; omega
          | some j =>
            obtain ⟨hj1, hj2⟩ := bestTo_lt vv es k j hbt
            obtain ⟨b', o', m, hb1, hb2, hm, HM0⟩ := ent_elem HN3.out.H.O.rd hj2
            obtain ⟨rfl, rfl⟩ : b = b' ∧ o = o' := by injection hb1 with h; injection h with h1 h2; exact ⟨h1, h2⟩
            have HM := Lib.hid HM0
            have hgm : es.getD j ent0 = m := by rw [List.getD_eq_getElem?_getD, hm]; rfl
            have HT0 : Hid (bestTo vv es (k + 1) = if Stamp.cmpS e.st m.st < 0 then some k else some j) := by show _ = _; rw [HTS.out]; unfold nextStep; rw [if_pos hdue, hbt]; simp only [hgm]
            have hbj : bI (some j) = (j : Int) := rfl
            have d2 : decide ((j : Int) < 0) = false := by simp
            clear hb1 hm HM0 hgm hbt hdue
            rw [hbj]
            by_cases hcm : Stamp.cmpS e.st m.st < 0
            · have d3 : decide (Stamp.cmpS e.st m.st < 0) = true := by simpa using hcm
              have HT1 : Hid (bI (bestTo vv es (k + 1)) = (k : Int)) := by show _ = _; rw [HT0.out, if_pos hcm]; rfl
              clear hcm HT0
              go_upto_region 6 with fail
              refine Reg.wp_region_rel (by kernel_rfl) 84 19 rfl rfl (by kernel_rfl) (Reg.Adds) (Reg.Adds.refl) (Reg.Adds.trans)
                (fun i v u => match i with
                  | 0 => v = .bool true
                  | 1 => v = .bool true
                  | 2 => v = .int .i64 j
                  | 3 => v = .bool false
                  | 4 => v = .bool false
                  | 5 => v = .pointer (some ⟨gb, 3, none⟩)
                  | 6 => v = Stamp.S e.st
                  | 7 => v = .pointer (some ⟨g, 0, none⟩)
                  | 8 => v = .pointer (some ⟨g, 0, none⟩)
                  | 9 => v = .pointer (some ⟨g, 1, none⟩)
                  | 10 => v = .slice (some ⟨b, o, none⟩) es.length c
                  | 11 => v = .int .i64 j
                  | 12 => v = .pointer (some ⟨b, o + j * 20, none⟩)
                  | 13 => v = .pointer (some ⟨b, o + j * 20 + 3, none⟩)
                  | 14 => v = Stamp.S m.st
                  | 15 => v = .int .i64 (Stamp.cmpS e.st m.st)
                  | 16 => v = .bool true
                  | 17 => v = .bool true
                  | 18 => v = .bool true
                  | _ => True) ?_ ?_
              · refine Reg.Steps.cons ?_ (Reg.Steps.cons ?_ (Reg.Steps.cons ?_ (Reg.Steps.cons ?_ (Reg.Steps.cons ?_ (Reg.Steps.cons ?_ (Reg.Steps.cons ?_ (Reg.Steps.cons ?_ (Reg.Steps.cons ?_ (Reg.Steps.cons ?_ (Reg.Steps.cons ?_ (Reg.Steps.cons ?_ (Reg.Steps.cons ?_ (Reg.Steps.cons ?_ (Reg.Steps.cons ?_ (Reg.Steps.cons ?_ (Reg.Steps.cons ?_ (Reg.Steps.cons ?_ (Reg.Steps.cons ?_ (Reg.Steps.nil _)))))))))))))))))))
                · intro val ac u hR hp ha K hK      -- 0: t41 := Op.move t9
                  have e9 : (ac.tmps[9]?).getD undef = .bool true := ha 9 (by decide)
                  clear ha hp
                  refine Reg.Op1.plain rfl ?_
                  go_wp2
                  exact ⟨rfl, hK _ _ rfl (fun j k _ _ => Reg.Adds.refl _ _ _)⟩
                · intro val ac u hR hp ha K hK      -- 1: t42 := Op.move t41
                  obtain ⟨w41, h41, r41⟩ := hp 0 (by decide)
                  have e41 : (ac.tmps[41]?).getD undef = .bool true := (ha 41 (by decide)).trans h41
                  clear h41
                  clear ha hp
                  refine Reg.Op1.plain rfl ?_
                  go_wp2
                  exact ⟨rfl, hK _ _ rfl (fun j k _ _ => Reg.Adds.refl _ _ _)⟩
                · intro val ac u hR hp ha K hK      -- 2: t43 := Op.move t6
                  have e6 : (ac.tmps[6]?).getD undef = .int .i64 j := ha 6 (by decide)
                  obtain ⟨w42, h42, r42⟩ := hp 1 (by decide)
                  have e42 : (ac.tmps[42]?).getD undef = .bool true := (ha 42 (by decide)).trans h42
                  clear h42
                  clear ha hp
                  refine Reg.Op1.guarded rfl rfl e42 (fun _ => Reg.Op1.plain rfl ?_) (fun h => absurd rfl h)
                  go_wp2
                  exact ⟨rfl, hK _ _ rfl (fun j k _ _ => Reg.Adds.refl _ _ _)⟩
                · intro val ac u hR hp ha K hK      -- 3: t44 := Op.binOp BinOp.lss 3 t43 (const (0:i64)) 3
                  obtain ⟨w43, h43, r43⟩ := hp 2 (by decide)
                  have e43 : (ac.tmps[43]?).getD undef = .int .i64 j := (ha 43 (by decide)).trans h43
                  clear h43
                  obtain ⟨w42, h42, r42⟩ := hp 1 (by decide)
                  have e42 : (ac.tmps[42]?).getD undef = .bool true := (ha 42 (by decide)).trans h42
                  clear h42
                  clear ha hp
                  refine Reg.Op1.guarded rfl rfl e42 (fun _ => Reg.Op1.plain rfl ?_) (fun h => absurd rfl h)
                  go_wp2
                  exact ⟨rfl, hK _ _ rfl (fun j k _ _ => Reg.Adds.refl _ _ _)⟩
                · intro val ac u hR hp ha K hK      -- 4: t45 := Op.move t44
                  obtain ⟨w44, h44, r44⟩ := hp 3 (by decide)
                  have e44 : (ac.tmps[44]?).getD undef = .bool false := (ha 44 (by decide)).trans h44
                  clear h44
                  obtain ⟨w42, h42, r42⟩ := hp 1 (by decide)
                  have e42 : (ac.tmps[42]?).getD undef = .bool true := (ha 42 (by decide)).trans h42
                  clear h42
                  clear ha hp
                  refine Reg.Op1.guarded rfl rfl e42 (fun _ => Reg.Op1.plain rfl ?_) (fun h => absurd rfl h)
                  go_wp2
                  exact ⟨rfl, hK _ _ rfl (fun j k _ _ => Reg.Adds.refl _ _ _)⟩
                · intro val ac u hR hp ha K hK      -- 5: t46 := Op.fieldAddr 33 t8 1
                  have e8 : (ac.tmps[8]?).getD undef = .pointer (some ⟨gb, 0, none⟩) := ha 8 (by decide)
                  obtain ⟨w45, h45, r45⟩ := hp 4 (by decide)
                  have e45 : (ac.tmps[45]?).getD undef = .bool false := (ha 45 (by decide)).trans h45
                  clear h45
                  clear ha hp
                  refine Reg.Op1.guarded rfl rfl e45 (fun _ => Reg.Op1.plain rfl ?_) (fun h => absurd rfl h)
                  go_wp2
                  exact ⟨rfl, hK _ _ rfl (fun j k _ _ => Reg.Adds.refl _ _ _)⟩
                · intro val ac u hR hp ha K hK      -- 6: t47 := Op.load 31 t46
                  obtain ⟨w46, h46, r46⟩ := hp 5 (by decide)
                  have e46 : (ac.tmps[46]?).getD undef = .pointer (some ⟨gb, 3, none⟩) := (ha 46 (by decide)).trans h46
                  clear h46
                  obtain ⟨w45, h45, r45⟩ := hp 4 (by decide)
                  have e45 : (ac.tmps[45]?).getD undef = .bool false := (ha 45 (by decide)).trans h45
                  clear h45
                  clear ha hp
                  refine Reg.Op1.guarded rfl rfl e45 (fun _ => Reg.Op1.plain rfl ?_) (fun h => absurd rfl h)
                  obtain ⟨x3, x4, x5⟩ := HE3.out.st
                  have z3 := (hR.cell (p := ⟨gb, 3, none⟩) HE3.out.lt).trans x3
                  have z4 := (hR.cell (p := ⟨gb, 4, none⟩) HE3.out.lt).trans x4
                  have z5 := (hR.cell (p := ⟨gb, 5, none⟩) HE3.out.lt).trans x5
                  go_wp2
                  exact ⟨rfl, hK _ _ rfl (fun j k _ _ => Reg.Adds.refl _ _ _)⟩
                · intro val ac u hR hp ha K hK      -- 7: t48 := Op.move t0
                  have e0 : (ac.tmps[0]?).getD undef = .pointer (some ⟨g, 0, none⟩) := ha 0 (by decide)
                  obtain ⟨w45, h45, r45⟩ := hp 4 (by decide)
                  have e45 : (ac.tmps[45]?).getD undef = .bool false := (ha 45 (by decide)).trans h45
                  clear h45
                  clear ha hp
                  refine Reg.Op1.guarded rfl rfl e45 (fun _ => Reg.Op1.plain rfl ?_) (fun h => absurd rfl h)
                  go_wp2
                  exact ⟨rfl, hK _ _ rfl (fun j k _ _ => Reg.Adds.refl _ _ _)⟩
                · intro val ac u hR hp ha K hK      -- 8: t49 := Op.nilCheck t48
                  obtain ⟨w48, h48, r48⟩ := hp 7 (by decide)
                  have e48 : (ac.tmps[48]?).getD undef = .pointer (some ⟨g, 0, none⟩) := (ha 48 (by decide)).trans h48
                  clear h48
                  obtain ⟨w45, h45, r45⟩ := hp 4 (by decide)
                  have e45 : (ac.tmps[45]?).getD undef = .bool false := (ha 45 (by decide)).trans h45
                  clear h45
                  clear ha hp
                  refine Reg.Op1.guarded rfl rfl e45 (fun _ => Reg.Op1.plain rfl ?_) (fun h => absurd rfl h)
                  go_wp2
                  exact ⟨rfl, hK _ _ rfl (fun j k _ _ => Reg.Adds.refl _ _ _)⟩
                · intro val ac u hR hp ha K hK      -- 9: t50 := Op.fieldAddr 61 t49 1
                  obtain ⟨w49, h49, r49⟩ := hp 8 (by decide)
                  have e49 : (ac.tmps[49]?).getD undef = .pointer (some ⟨g, 0, none⟩) := (ha 49 (by decide)).trans h49
                  clear h49
                  obtain ⟨w45, h45, r45⟩ := hp 4 (by decide)
                  have e45 : (ac.tmps[45]?).getD undef = .bool false := (ha 45 (by decide)).trans h45
                  clear h45
                  clear ha hp
                  refine Reg.Op1.guarded rfl rfl e45 (fun _ => Reg.Op1.plain rfl ?_) (fun h => absurd rfl h)
                  go_wp2
                  exact ⟨rfl, hK _ _ rfl (fun j k _ _ => Reg.Adds.refl _ _ _)⟩
                · intro val ac u hR hp ha K hK      -- 10: t51 := Op.load 24 t50
                  obtain ⟨w50, h50, r50⟩ := hp 9 (by decide)
                  have e50 : (ac.tmps[50]?).getD undef = .pointer (some ⟨g, 1, none⟩) := (ha 50 (by decide)).trans h50
                  clear h50
                  obtain ⟨w45, h45, r45⟩ := hp 4 (by decide)
                  have e45 : (ac.tmps[45]?).getD undef = .bool false := (ha 45 (by decide)).trans h45
                  clear h45
                  clear ha hp
                  refine Reg.Op1.guarded rfl rfl e45 (fun _ => Reg.Op1.plain rfl ?_) (fun h => absurd rfl h)
                  have x0 := (hR.cell (p := ⟨g, 1, none⟩) HN3.out.H.B.lt).trans (HN3.out.H.B.cell (j := 1) rfl)
                  go_wp2
                  exact ⟨rfl, hK _ _ rfl (fun j k _ _ => Reg.Adds.refl _ _ _)⟩
                · intro val ac u hR hp ha K hK      -- 11: t52 := Op.move t6
                  have e6 : (ac.tmps[6]?).getD undef = .int .i64 j := ha 6 (by decide)
                  obtain ⟨w45, h45, r45⟩ := hp 4 (by decide)
                  have e45 : (ac.tmps[45]?).getD undef = .bool false := (ha 45 (by decide)).trans h45
                  clear h45
                  clear ha hp
                  refine Reg.Op1.guarded rfl rfl e45 (fun _ => Reg.Op1.plain rfl ?_) (fun h => absurd rfl h)
                  go_wp2
                  exact ⟨rfl, hK _ _ rfl (fun j k _ _ => Reg.Adds.refl _ _ _)⟩
                · intro val ac u hR hp ha K hK      -- 12: t53 := Op.indexAddr 24 t51 t52
                  obtain ⟨w51, h51, r51⟩ := hp 10 (by decide)
                  have e51 : (ac.tmps[51]?).getD undef = .slice (some ⟨b, o, none⟩) es.length c := (ha 51 (by decide)).trans h51
                  clear h51
                  obtain ⟨w52, h52, r52⟩ := hp 11 (by decide)
                  have e52 : (ac.tmps[52]?).getD undef = .int .i64 j := (ha 52 (by decide)).trans h52
                  clear h52
                  obtain ⟨w45, h45, r45⟩ := hp 4 (by decide)
                  have e45 : (ac.tmps[45]?).getD undef = .bool false := (ha 45 (by decide)).trans h45
                  clear h45
                  clear ha hp
                  refine Reg.Op1.guarded rfl rfl e45 (fun _ => Reg.Op1.plain rfl ?_) (fun h => absurd rfl h)
                  go_wp2
                  exact ⟨rfl, hK _ _ rfl (fun j k _ _ => Reg.Adds.refl _ _ _)⟩
                · intro val ac u hR hp ha K hK      -- 13: t54 := Op.fieldAddr 33 t53 1
                  obtain ⟨w53, h53, r53⟩ := hp 12 (by decide)
                  have e53 : (ac.tmps[53]?).getD undef = .pointer (some ⟨b, o + j * 20, none⟩) := (ha 53 (by decide)).trans h53
                  clear h53
                  obtain ⟨w45, h45, r45⟩ := hp 4 (by decide)
                  have e45 : (ac.tmps[45]?).getD undef = .bool false := (ha 45 (by decide)).trans h45
                  clear h45
                  clear ha hp
                  refine Reg.Op1.guarded rfl rfl e45 (fun _ => Reg.Op1.plain rfl ?_) (fun h => absurd rfl h)
                  go_wp2
                  exact ⟨rfl, hK _ _ rfl (fun j k _ _ => Reg.Adds.refl _ _ _)⟩
                · intro val ac u hR hp ha K hK      -- 14: t55 := Op.load 31 t54
                  obtain ⟨w54, h54, r54⟩ := hp 13 (by decide)
                  have e54 : (ac.tmps[54]?).getD undef = .pointer (some ⟨b, o + j * 20 + 3, none⟩) := (ha 54 (by decide)).trans h54
                  clear h54
                  obtain ⟨w45, h45, r45⟩ := hp 4 (by decide)
                  have e45 : (ac.tmps[45]?).getD undef = .bool false := (ha 45 (by decide)).trans h45
                  clear h45
                  clear ha hp
                  refine Reg.Op1.guarded rfl rfl e45 (fun _ => Reg.Op1.plain rfl ?_) (fun h => absurd rfl h)
                  have z3 := (hR.cell (p := ⟨b, o + j * 20 + 3, none⟩) hbl).trans (HM.out.c 3 _ rfl)
                  have z4 := (hR.cell (p := ⟨b, o + j * 20 + 4, none⟩) hbl).trans (HM.out.c 4 _ rfl)
                  have z5 := (hR.cell (p := ⟨b, o + j * 20 + 5, none⟩) hbl).trans (HM.out.c 5 _ rfl)
                  go_wp2
                  exact ⟨rfl, hK _ _ rfl (fun j k _ _ => Reg.Adds.refl _ _ _)⟩
                · intro val ac u hR hp ha K hK      -- 15: t56 := Op.call { value (Operand.func 26), args := #[t47, t55], argTypes := #[31, 31] }
                  obtain ⟨w47, h47, r47⟩ := hp 6 (by decide)
                  have e47 : (ac.tmps[47]?).getD undef = Stamp.S e.st := (ha 47 (by decide)).trans h47
                  clear h47
                  obtain ⟨w55, h55, r55⟩ := hp 14 (by decide)
                  have e55 : (ac.tmps[55]?).getD undef = Stamp.S m.st := (ha 55 (by decide)).trans h55
                  clear h55
                  obtain ⟨w45, h45, r45⟩ := hp 4 (by decide)
                  have e45 : (ac.tmps[45]?).getD undef = .bool false := (ha 45 (by decide)).trans h45
                  clear h45
                  clear ha hp
                  refine Reg.Op1.guarded rfl rfl e45 (fun _ => Reg.Op1.plain rfl ?_) (fun h => absurd rfl h)
                  go_wp2_with fail
                  refine (cmp_any _ _ _).mono ?_
                  rintro x w' ⟨rfl, hbw⟩
                  go_wp2_with fail
                  exact ⟨rfl, hK _ _ rfl (fun j k _ _ => hbw)⟩
                · intro val ac u hR hp ha K hK      -- 16: t57 := Op.binOp BinOp.lss 3 t56 (const (0:i64)) 3
                  obtain ⟨w56, h56, r56⟩ := hp 15 (by decide)
                  have e56 : (ac.tmps[56]?).getD undef = .int .i64 (Stamp.cmpS e.st m.st) := (ha 56 (by decide)).trans h56
                  clear h56
                  obtain ⟨w45, h45, r45⟩ := hp 4 (by decide)
                  have e45 : (ac.tmps[45]?).getD undef = .bool false := (ha 45 (by decide)).trans h45
                  clear h45
                  clear ha hp
                  refine Reg.Op1.guarded rfl rfl e45 (fun _ => Reg.Op1.plain rfl ?_) (fun h => absurd rfl h)
                  go_wp2
                  exact ⟨rfl, hK _ _ rfl (fun j k _ _ => Reg.Adds.refl _ _ _)⟩
                · intro val ac u hR hp ha K hK      -- 17: t58 := Op.pick t45 (const (Value.bool true)) t57
                  obtain ⟨w45, h45, r45⟩ := hp 4 (by decide)
                  have e45 : (ac.tmps[45]?).getD undef = .bool false := (ha 45 (by decide)).trans h45
                  clear h45
                  obtain ⟨w57, h57, r57⟩ := hp 16 (by decide)
                  have e57 : (ac.tmps[57]?).getD undef = .bool true := (ha 57 (by decide)).trans h57
                  clear h57
                  obtain ⟨w42, h42, r42⟩ := hp 1 (by decide)
                  have e42 : (ac.tmps[42]?).getD undef = .bool true := (ha 42 (by decide)).trans h42
                  clear h42
                  clear ha hp
                  refine Reg.Op1.guarded rfl rfl e42 (fun _ => Reg.Op1.plain rfl ?_) (fun h => absurd rfl h)
                  go_wp2
                  exact ⟨rfl, hK _ _ rfl (fun j k _ _ => Reg.Adds.refl _ _ _)⟩
                · intro val ac u hR hp ha K hK      -- 18: t59 := Op.pick t42 t58 (const (Value.bool false))
                  obtain ⟨w42, h42, r42⟩ := hp 1 (by decide)
                  have e42 : (ac.tmps[42]?).getD undef = .bool true := (ha 42 (by decide)).trans h42
                  clear h42
                  obtain ⟨w58, h58, r58⟩ := hp 17 (by decide)
                  have e58 : (ac.tmps[58]?).getD undef = .bool true := (ha 58 (by decide)).trans h58
                  clear h58
                  clear ha hp
                  refine Reg.Op1.plain rfl ?_
                  go_wp2
                  exact ⟨rfl, hK _ _ rfl (fun j k _ _ => Reg.Adds.refl _ _ _)⟩
              · intro val u hR H
                obtain ⟨_, hv, _⟩ := H 18 (by decide)
                have hv : val 18 = .bool true := hv
                have HK6 : Hid (Below w3.heap.size w3 u) := (Below.refl _ w3).drew.trans hR
                have HN4 := Lib.hid (HN3.out.below HK6.out)
                simp only [List.map_cons, List.map_nil, Reg.lay, Act.put, List.setIfInBounds_toArray, List.set_cons_succ, List.set_cons_zero, Nat.reduceAdd, hv]
                clear hR H hv
                go_wp2
                go_roundw
                case rel => exact ⟨⟨k + 1, by omega, by rw [HT1.out], by go_num, HN4⟩⟩
                case measure => simp [intOf]; omega
            · have d3 : decide (Stamp.cmpS e.st m.st < 0) = false := by simpa using hcm
              have HT1 : Hid (bI (bestTo vv es (k + 1)) = (j : Int)) := by show _ = _; rw [HT0.out, if_neg hcm]; rfl
              clear hcm HT0
              go_upto_region 6 with fail
              refine Reg.wp_region_rel (by kernel_rfl) 84 19 rfl rfl (by kernel_rfl) (Reg.Adds) (Reg.Adds.refl) (Reg.Adds.trans)
                (fun i v u => match i with
                  | 0 => v = .bool true
                  | 1 => v = .bool true
                  | 2 => v = .int .i64 j
                  | 3 => v = .bool false
                  | 4 => v = .bool false
                  | 5 => v = .pointer (some ⟨gb, 3, none⟩)
                  | 6 => v = Stamp.S e.st
                  | 7 => v = .pointer (some ⟨g, 0, none⟩)
                  | 8 => v = .pointer (some ⟨g, 0, none⟩)
                  | 9 => v = .pointer (some ⟨g, 1, none⟩)
                  | 10 => v = .slice (some ⟨b, o, none⟩) es.length c
                  | 11 => v = .int .i64 j
                  | 12 => v = .pointer (some ⟨b, o + j * 20, none⟩)
                  | 13 => v = .pointer (some ⟨b, o + j * 20 + 3, none⟩)
                  | 14 => v = Stamp.S m.st
                  | 15 => v = .int .i64 (Stamp.cmpS e.st m.st)
                  | 16 => v = .bool false
                  | 17 => v = .bool false
                  | 18 => v = .bool false
                  | _ => True) ?_ ?_
              · refine Reg.Steps.cons ?_ (Reg.Steps.cons ?_ (Reg.Steps.cons ?_ (Reg.Steps.cons ?_ (Reg.Steps.cons ?_ (Reg.Steps.cons ?_ (Reg.Steps.cons ?_ (Reg.Steps.cons ?_ (Reg.Steps.cons ?_ (Reg.Steps.cons ?_ (Reg.Steps.cons ?_ (Reg.Steps.cons ?_ (Reg.Steps.cons ?_ (Reg.Steps.cons ?_ (Reg.Steps.cons ?_ (Reg.Steps.cons ?_ (Reg.Steps.cons ?_ (Reg.Steps.cons ?_ (Reg.Steps.cons ?_ (Reg.Steps.nil _)))))))))))))))))))
                · intro val ac u hR hp ha K hK      -- 0: t41 := Op.move t9
                  have e9 : (ac.tmps[9]?).getD undef = .bool true := ha 9 (by decide)
                  clear ha hp
                  refine Reg.Op1.plain rfl ?_
                  go_wp2
                  exact ⟨rfl, hK _ _ rfl (fun j k _ _ => Reg.Adds.refl _ _ _)⟩
                · intro val ac u hR hp ha K hK      -- 1: t42 := Op.move t41
                  obtain ⟨w41, h41, r41⟩ := hp 0 (by decide)
                  have e41 : (ac.tmps[41]?).getD undef = .bool true := (ha 41 (by decide)).trans h41
                  clear h41
                  clear ha hp
                  refine Reg.Op1.plain rfl ?_
                  go_wp2
                  exact ⟨rfl, hK _ _ rfl (fun j k _ _ => Reg.Adds.refl _ _ _)⟩
                · intro val ac u hR hp ha K hK      -- 2: t43 := Op.move t6
                  have e6 : (ac.tmps[6]?).getD undef = .int .i64 j := ha 6 (by decide)
                  obtain ⟨w42, h42, r42⟩ := hp 1 (by decide)
                  have e42 : (ac.tmps[42]?).getD undef = .bool true := (ha 42 (by decide)).trans h42
                  clear h42
                  clear ha hp
                  refine Reg.Op1.guarded rfl rfl e42 (fun _ => Reg.Op1.plain rfl ?_) (fun h => absurd rfl h)
                  go_wp2
                  exact ⟨rfl, hK _ _ rfl (fun j k _ _ => Reg.Adds.refl _ _ _)⟩
                · intro val ac u hR hp ha K hK      -- 3: t44 := Op.binOp BinOp.lss 3 t43 (const (0:i64)) 3
                  obtain ⟨w43, h43, r43⟩ := hp 2 (by decide)
                  have e43 : (ac.tmps[43]?).getD undef = .int .i64 j := (ha 43 (by decide)).trans h43
                  clear h43
                  obtain ⟨w42, h42, r42⟩ := hp 1 (by decide)
                  have e42 : (ac.tmps[42]?).getD undef = .bool true := (ha 42 (by decide)).trans h42
                  clear h42
                  clear ha hp
                  refine Reg.Op1.guarded rfl rfl e42 (fun _ => Reg.Op1.plain rfl ?_) (fun h => absurd rfl h)
                  go_wp2
                  exact ⟨rfl, hK _ _ rfl (fun j k _ _ => Reg.Adds.refl _ _ _)⟩
                · intro val ac u hR hp ha K hK      -- 4: t45 := Op.move t44
                  obtain ⟨w44, h44, r44⟩ := hp 3 (by decide)
                  have e44 : (ac.tmps[44]?).getD undef = .bool false := (ha 44 (by decide)).trans h44
                  clear h44
                  obtain ⟨w42, h42, r42⟩ := hp 1 (by decide)
                  have e42 : (ac.tmps[42]?).getD undef = .bool true := (ha 42 (by decide)).trans h42
                  clear h42
                  clear ha hp
                  refine Reg.Op1.guarded rfl rfl e42 (fun _ => Reg.Op1.plain rfl ?_) (fun h => absurd rfl h)
                  go_wp2
                  exact ⟨rfl, hK _ _ rfl (fun j k _ _ => Reg.Adds.refl _ _ _)⟩
                · intro val ac u hR hp ha K hK      -- 5: t46 := Op.fieldAddr 33 t8 1
                  have e8 : (ac.tmps[8]?).getD undef = .pointer (some ⟨gb, 0, none⟩) := ha 8 (by decide)
                  obtain ⟨w45, h45, r45⟩ := hp 4 (by decide)
                  have e45 : (ac.tmps[45]?).getD undef = .bool false := (ha 45 (by decide)).trans h45
                  clear h45
                  clear ha hp
                  refine Reg.Op1.guarded rfl rfl e45 (fun _ => Reg.Op1.plain rfl ?_) (fun h => absurd rfl h)
                  go_wp2
                  exact ⟨rfl, hK _ _ rfl (fun j k _ _ => Reg.Adds.refl _ _ _)⟩
                · intro val ac u hR hp ha K hK      -- 6: t47 := Op.load 31 t46
                  obtain ⟨w46, h46, r46⟩ := hp 5 (by decide)
                  have e46 : (ac.tmps[46]?).getD undef = .pointer (some ⟨gb, 3, none⟩) := (ha 46 (by decide)).trans h46
                  clear h46
                  obtain ⟨w45, h45, r45⟩ := hp 4 (by decide)
                  have e45 : (ac.tmps[45]?).getD undef = .bool false := (ha 45 (by decide)).trans h45
                  clear h45
                  clear ha hp
                  refine Reg.Op1.guarded rfl rfl e45 (fun _ => Reg.Op1.plain rfl ?_) (fun h => absurd rfl h)
                  obtain ⟨x3, x4, x5⟩ := HE3.out.st
                  have z3 := (hR.cell (p := ⟨gb, 3, none⟩) HE3.out.lt).trans x3
                  have z4 := (hR.cell (p := ⟨gb, 4, none⟩) HE3.out.lt).trans x4
                  have z5 := (hR.cell (p := ⟨gb, 5, none⟩) HE3.out.lt).trans x5
                  go_wp2
                  exact ⟨rfl, hK _ _ rfl (fun j k _ _ => Reg.Adds.refl _ _ _)⟩
                · intro val ac u hR hp ha K hK      -- 7: t48 := Op.move t0
                  have e0 : (ac.tmps[0]?).getD undef = .pointer (some ⟨g, 0, none⟩) := ha 0 (by decide)
                  obtain ⟨w45, h45, r45⟩ := hp 4 (by decide)
                  have e45 : (ac.tmps[45]?).getD undef = .bool false := (ha 45 (by decide)).trans h45
                  clear h45
                  clear ha hp
                  refine Reg.Op1.guarded rfl rfl e45 (fun _ => Reg.Op1.plain rfl ?_) (fun h => absurd rfl h)
                  go_wp2
                  exact ⟨rfl, hK _ _ rfl (fun j k _ _ => Reg.Adds.refl _ _ _)⟩
                · intro val ac u hR hp ha K hK      -- 8: t49 := Op.nilCheck t48
                  obtain ⟨w48, h48, r48⟩ := hp 7 (by decide)
                  have e48 : (ac.tmps[48]?).getD undef = .pointer (some ⟨g, 0, none⟩) := (ha 48 (by decide)).trans h48
                  clear h48
                  obtain ⟨w45, h45, r45⟩ := hp 4 (by decide)
                  have e45 : (ac.tmps[45]?).getD undef = .bool false := (ha 45 (by decide)).trans h45
                  clear h45
                  clear ha hp
                  refine Reg.Op1.guarded rfl rfl e45 (fun _ => Reg.Op1.plain rfl ?_) (fun h => absurd rfl h)
                  go_wp2
                  exact ⟨rfl, hK _ _ rfl (fun j k _ _ => Reg.Adds.refl _ _ _)⟩
                · intro val ac u hR hp ha K hK      -- 9: t50 := Op.fieldAddr 61 t49 1
                  obtain ⟨w49, h49, r49⟩ := hp 8 (by decide)
                  have e49 : (ac.tmps[49]?).getD undef = .pointer (some ⟨g, 0, none⟩) := (ha 49 (by decide)).trans h49
                  clear h49
                  obtain ⟨w45, h45, r45⟩ := hp 4 (by decide)
                  have e45 : (ac.tmps[45]?).getD undef = .bool false := (ha 45 (by decide)).trans h45
                  clear h45
                  clear ha hp
                  refine Reg.Op1.guarded rfl rfl e45 (fun _ => Reg.Op1.plain rfl ?_) (fun h => absurd rfl h)
                  go_wp2
                  exact ⟨rfl, hK _ _ rfl (fun j k _ _ => Reg.Adds.refl _ _ _)⟩
                · intro val ac u hR hp ha K hK      -- 10: t51 := Op.load 24 t50
                  obtain ⟨w50, h50, r50⟩ := hp 9 (by decide)
                  have e50 : (ac.tmps[50]?).getD undef = .pointer (some ⟨g, 1, none⟩) := (ha 50 (by decide)).trans h50
                  clear h50
                  obtain ⟨w45, h45, r45⟩ := hp 4 (by decide)
                  have e45 : (ac.tmps[45]?).getD undef = .bool false := (ha 45 (by decide)).trans h45
                  clear h45
                  clear ha hp
                  refine Reg.Op1.guarded rfl rfl e45 (fun _ => Reg.Op1.plain rfl ?_) (fun h => absurd rfl h)
                  have x0 := (hR.cell (p := ⟨g, 1, none⟩) HN3.out.H.B.lt).trans (HN3.out.H.B.cell (j := 1) rfl)
                  go_wp2
                  exact ⟨rfl, hK _ _ rfl (fun j k _ _ => Reg.Adds.refl _ _ _)⟩
                · intro val ac u hR hp ha K hK      -- 11: t52 := Op.move t6
                  have e6 : (ac.tmps[6]?).getD undef = .int .i64 j := ha 6 (by decide)
                  obtain ⟨w45, h45, r45⟩ := hp 4 (by decide)
                  have e45 : (ac.tmps[45]?).getD undef = .bool false := (ha 45 (by decide)).trans h45
                  clear h45
                  clear ha hp
                  refine Reg.Op1.guarded rfl rfl e45 (fun _ => Reg.Op1.plain rfl ?_) (fun h => absurd rfl h)
                  go_wp2
                  exact ⟨rfl, hK _ _ rfl (fun j k _ _ => Reg.Adds.refl _ _ _)⟩
                · intro val ac u hR hp ha K hK      -- 12: t53 := Op.indexAddr 24 t51 t52
                  obtain ⟨w51, h51, r51⟩ := hp 10 (by decide)
                  have e51 : (ac.tmps[51]?).getD undef = .slice (some ⟨b, o, none⟩) es.length c := (ha 51 (by decide)).trans h51
                  clear h51
                  obtain ⟨w52, h52, r52⟩ := hp 11 (by decide)
                  have e52 : (ac.tmps[52]?).getD undef = .int .i64 j := (ha 52 (by decide)).trans h52
                  clear h52
                  obtain ⟨w45, h45, r45⟩ := hp 4 (by decide)
                  have e45 : (ac.tmps[45]?).getD undef = .bool false := (ha 45 (by decide)).trans h45
                  clear h45
                  clear ha hp
                  refine Reg.Op1.guarded rfl rfl e45 (fun _ => Reg.Op1.plain rfl ?_) (fun h => absurd rfl h)
                  go_wp2
                  exact ⟨rfl, hK _ _ rfl (fun j k _ _ => Reg.Adds.refl _ _ _)⟩
                · intro val ac u hR hp ha K hK      -- 13: t54 := Op.fieldAddr 33 t53 1
                  obtain ⟨w53, h53, r53⟩ := hp 12 (by decide)
                  have e53 : (ac.tmps[53]?).getD undef = .pointer (some ⟨b, o + j * 20, none⟩) := (ha 53 (by decide)).trans h53
                  clear h53
                  obtain ⟨w45, h45, r45⟩ := hp 4 (by decide)
                  have e45 : (ac.tmps[45]?).getD undef = .bool false := (ha 45 (by decide)).trans h45
                  clear h45
                  clear ha hp
                  refine Reg.Op1.guarded rfl rfl e45 (fun _ => Reg.Op1.plain rfl ?_) (fun h => absurd rfl h)
                  go_wp2
                  exact ⟨rfl, hK _ _ rfl (fun j k _ _ => Reg.Adds.refl _ _ _)⟩
                · intro val ac u hR hp ha K hK      -- 14: t55 := Op.load 31 t54
                  obtain ⟨w54, h54, r54⟩ := hp 13 (by decide)
                  have e54 : (ac.tmps[54]?).getD undef = .pointer (some ⟨b, o + j * 20 + 3, none⟩) := (ha 54 (by decide)).trans h54
                  clear h54
                  obtain ⟨w45, h45, r45⟩ := hp 4 (by decide)
                  have e45 : (ac.tmps[45]?).getD undef = .bool false := (ha 45 (by decide)).trans h45
                  clear h45
                  clear ha hp
                  refine Reg.Op1.guarded rfl rfl e45 (fun _ => Reg.Op1.plain rfl ?_) (fun h => absurd rfl h)
                  have z3 := (hR.cell (p := ⟨b, o + j * 20 + 3, none⟩) hbl).trans (HM.out.c 3 _ rfl)
                  have z4 := (hR.cell (p := ⟨b, o + j * 20 + 4, none⟩) hbl).trans (HM.out.c 4 _ rfl)
                  have z5 := (hR.cell (p := ⟨b, o + j * 20 + 5, none⟩) hbl).trans (HM.out.c 5 _ rfl)
                  go_wp2
                  exact ⟨rfl, hK _ _ rfl (fun j k _ _ => Reg.Adds.refl _ _ _)⟩
                · intro val ac u hR hp ha K hK      -- 15: t56 := Op.call { value (Operand.func 26), args := #[t47, t55], argTypes := #[31, 31] }
                  obtain ⟨w47, h47, r47⟩ := hp 6 (by decide)
                  have e47 : (ac.tmps[47]?).getD undef = Stamp.S e.st := (ha 47 (by decide)).trans h47
                  clear h47
                  obtain ⟨w55, h55, r55⟩ := hp 14 (by decide)
                  have e55 : (ac.tmps[55]?).getD undef = Stamp.S m.st := (ha 55 (by decide)).trans h55
                  clear h55
                  obtain ⟨w45, h45, r45⟩ := hp 4 (by decide)
                  have e45 : (ac.tmps[45]?).getD undef = .bool false := (ha 45 (by decide)).trans h45
                  clear h45
                  clear ha hp
                  refine Reg.Op1.guarded rfl rfl e45 (fun _ => Reg.Op1.plain rfl ?_) (fun h => absurd rfl h)
                  go_wp2_with fail
                  refine (cmp_any _ _ _).mono ?_
                  rintro x w' ⟨rfl, hbw⟩
                  go_wp2_with fail
                  exact ⟨rfl, hK _ _ rfl (fun j k _ _ => hbw)⟩
                · intro val ac u hR hp ha K hK      -- 16: t57 := Op.binOp BinOp.lss 3 t56 (const (0:i64)) 3
                  obtain ⟨w56, h56, r56⟩ := hp 15 (by decide)
                  have e56 : (ac.tmps[56]?).getD undef = .int .i64 (Stamp.cmpS e.st m.st) := (ha 56 (by decide)).trans h56
                  clear h56
                  obtain ⟨w45, h45, r45⟩ := hp 4 (by decide)
                  have e45 : (ac.tmps[45]?).getD undef = .bool false := (ha 45 (by decide)).trans h45
                  clear h45
                  clear ha hp
                  refine Reg.Op1.guarded rfl rfl e45 (fun _ => Reg.Op1.plain rfl ?_) (fun h => absurd rfl h)
                  go_wp2
                  exact ⟨rfl, hK _ _ rfl (fun j k _ _ => Reg.Adds.refl _ _ _)⟩
                · intro val ac u hR hp ha K hK      -- 17: t58 := Op.pick t45 (const (Value.bool true)) t57
                  obtain ⟨w45, h45, r45⟩ := hp 4 (by decide)
                  have e45 : (ac.tmps[45]?).getD undef = .bool false := (ha 45 (by decide)).trans h45
                  clear h45
                  obtain ⟨w57, h57, r57⟩ := hp 16 (by decide)
                  have e57 : (ac.tmps[57]?).getD undef = .bool false := (ha 57 (by decide)).trans h57
                  clear h57
                  obtain ⟨w42, h42, r42⟩ := hp 1 (by decide)
                  have e42 : (ac.tmps[42]?).getD undef = .bool true := (ha 42 (by decide)).trans h42
                  clear h42
                  clear ha hp
                  refine Reg.Op1.guarded rfl rfl e42 (fun _ => Reg.Op1.plain rfl ?_) (fun h => absurd rfl h)
                  go_wp2
                  exact ⟨rfl, hK _ _ rfl (fun j k _ _ => Reg.Adds.refl _ _ _)⟩
                · intro val ac u hR hp ha K hK      -- 18: t59 := Op.pick t42 t58 (const (Value.bool false))
                  obtain ⟨w42, h42, r42⟩ := hp 1 (by decide)
                  have e42 : (ac.tmps[42]?).getD undef = .bool true := (ha 42 (by decide)).trans h42
                  clear h42
                  obtain ⟨w58, h58, r58⟩ := hp 17 (by decide)
                  have e58 : (ac.tmps[58]?).getD undef = .bool false := (ha 58 (by decide)).trans h58
                  clear h58
                  clear ha hp
                  refine Reg.Op1.plain rfl ?_
                  go_wp2
                  exact ⟨rfl, hK _ _ rfl (fun j k _ _ => Reg.Adds.refl _ _ _)⟩
              · intro val u hR H
                obtain ⟨_, hv, _⟩ := H 18 (by decide)
                have hv : val 18 = .bool false := hv
                have HK6 : Hid (Below w3.heap.size w3 u) := (Below.refl _ w3).drew.trans hR
                have HN4 := Lib.hid (HN3.out.below HK6.out)
                simp only [List.map_cons, List.map_nil, Reg.lay, Act.put, List.setIfInBounds_toArray, List.set_cons_succ, List.set_cons_zero, Nat.reduceAdd, hv]
                clear hR H hv
                go_wp2
                go_roundw
                case rel => exact ⟨⟨k + 1, by omega, by rw [HT1.out], by go_num, HN4⟩⟩
                case measure => simp [intOf]; omega
    · obtain rfl : k = es.length := by omega
      cases hbt : bestTo vv es es.length with
      | none =>
        have HE : Hid (nextE vv es = (ent0, false)) := by show _ = _; unfold nextE; rw [hbt]
        have HL : Hid (nextL vv es = es) := by show _ = _; unfold nextL; rw [hbt]
        rw [show bI none = -1 from rfl]
        clear hbt
        go_wp2_with ((with_reducible refine Mem.store_agg _ _ entry_agg (w.heap.size + 1) (entCells ent0) (entCells ent0) ?hxb ?hyb HN.out.E (entCells_length _) (ent_one ent0) ?_); ((case hxb => exact rfl); (case hyb => exact rfl); intro w3 hb3 hk3 hs3))
        refine bodyPost_ret (v := .tuple #[.agg (entCells ent0).toArray, .bool false]) ?_ rfl ⟨by rw [HE.out], ?_, ?_⟩
        · rw [Mem.results_agg2 Try.results11 entry_agg rfl hb3]
          rfl
        · rw [HL.out]
          exact HN.out.H.keeps hk3 (fun q hq h => by have := HA.out.lt q hq; omega)
        · exact ((Mem.Keeps.of_below HN.out.b).mono (fun _ h _ => h.elim)).trans hk3 (fun q h hlt => by omega)
      | some j =>
        obtain ⟨hj1, hj2⟩ := bestTo_lt vv es es.length j hbt
        obtain ⟨b, o, m, rfl, hb2, hm, HM0⟩ := ent_elem HN.out.H.O.rd hj2
        have hgm : es.getD j ent0 = m := by rw [List.getD_eq_getElem?_getD, hm]; rfl
        have HE : Hid (nextE vv es = (m, true)) := by show _ = _; unfold nextE; rw [hbt]; simp only [hgm]
        have HL : Hid (nextL vv es = es.eraseIdx j) := by show _ = _; unfold nextL; rw [hbt]
        have HM := Lib.hid HM0
        rw [show bI (some j) = (j : Int) from rfl]
        have d2 : decide ((j : Int) < 0) = false := by simp
        have x1 := HN.out.H.B.cell (j := 1) rfl
        clear hbt hgm hm HM0
        go_upto_region 12 with (first | ((with_reducible refine Mem.load_agg _ _ entry_agg b (o + j * 20) (entCells m) ?hx (entCells_length m) HM.out.c ?_); case hx => exact rfl) | ((with_reducible refine Mem.store_agg _ _ entry_agg wr.heap.size (entCells ent0) (entCells m) ?hxa ?hya ?hba (entCells_length m) (ent_one m) ?_); ((case hxa => exact rfl); (case hya => exact rfl); (case hba => exact Mem.Bx.new wr _ (entCells ent0).toArray rfl rfl); intro w2 hb2' hk2 hs2)))
        have HE2 : Hid (EBx w2 wr.heap.size m) := hb2'
        have HN2 := Lib.hid (HN.out.below (hk2.newBox rfl).belowAll)
        have hzr := HN.out.E.lt
        clear hb2' hk2 hs2 HN HM x1
        have x1 := HN2.out.H.B.cell (j := 1) rfl
        have hne := HN2.out.H.ne
        have HD := Lib.hid (delete_any (some ⟨b, o, none⟩) c es j w2 HN2.out.H.O hn hj2)
        have hlA := HA.out.lt
        go_upto_region 13 with (go_at_call 27; refine HD.out.mono ?_; rintro x w3 ⟨rfl, hO3, hK3⟩; have hB3 := HN2.out.H.B.keeps hK3 (fun h => hne g h rfl); have y1 := hB3.cell (j := 1) rfl; have yf := hB3.fr)
        have hA4 := HAt.set (es' := es.eraseIdx j) hB3 hO3 hne
        have hk4 : Mem.Keeps (HB g (some ⟨b, o, none⟩)) w2 (w3.setCell ⟨g, 1, none⟩ (.slice (some ⟨b, o, none⟩) (es.eraseIdx j).length c)) := (hK3.mono (T := HB g (some ⟨b, o, none⟩)) (fun k h _ => .inr h)).setCell (p := ⟨g, 1, none⟩) (fun _ => .inl rfl) _
        obtain ⟨w4, hw4⟩ : ∃ w4, w3.setCell ⟨g, 1, none⟩ (.slice (some ⟨b, o, none⟩) (es.eraseIdx j).length c) = w4 := ⟨_, rfl⟩
        rw [hw4] at hA4 hk4 ⊢
        have HE4 : Hid (EBx w4 wr.heap.size m) := HE2.out.keeps hk4 (fun h => by have := hlA _ h; omega)
        have H04 : Hid (EBx w4 (w.heap.size + 1) ent0) := HN2.out.E.keeps hk4 (fun h => by have := hlA _ h; omega)
        have HA4 := Lib.hid hA4
        have HK4 : Hid (Mem.Keeps (HB g (some ⟨b, o, none⟩)) w w4) := ((Mem.Keeps.of_below HN2.out.b).mono (fun _ h _ => h.elim)).trans hk4 (fun _ h _ => h)
        have HLA := Lib.hid hlA
        clear hw4 hA4 hk4 hB3 y1 yf hO3 hK3 x1 hlA
        go_wp2_with (first | ((with_reducible refine Mem.load_agg _ _ entry_agg wr.heap.size 0 (entCells m) ?hz (entCells_length m) (fun j u hu => by rw [Nat.zero_add]; exact HE4.out.cell hu) ?_); case hz => exact rfl) | ((with_reducible refine Mem.store_agg _ _ entry_agg (w.heap.size + 1) (entCells ent0) (entCells m) ?hxb ?hyb H04.out (entCells_length _) (ent_one m) ?_); ((case hxb => exact rfl); (case hyb => exact rfl); intro w5 hb5 hk5 hs5)))
        refine bodyPost_ret (v := .tuple #[.agg (entCells m).toArray, .bool true]) ?_ rfl ⟨by rw [HE.out], ?_, ?_⟩
        · rw [Mem.results_agg2 Try.results11 entry_agg rfl hb5]
          rfl
        · rw [HL.out]
          exact HA4.out.keeps hk5 (fun q hq h => by have := HLA.out q hq; omega)
        · exact HK4.out.trans hk5 (fun q h hlt => by omega)
end Go.Proofs.Ytgdcfdjfoeoknaa
