/- The walk of HoldOrders: what is taken out by Next, in order. No conditions. -/
import Derived.Test.YtgdcfdjfoeoknaaHold6
namespace Go.Proofs.Ytgdcfdjfoeoknaa
open Go.ChangeShapes Go.WideShapes Go.ChangeAt Go.RowKit
set_option linter.unusedVariables false
set_option linter.unusedSimpArgs false

namespace Vec
theorem bestTo_due (v : Vc) (es : List Ent) : ∀ (k j : Nat), bestTo v es k = some j → ∃ e, es[j]? = some e ∧ dueE v e = true
  | 0, j, h => by cases h
  | k + 1, j, h => by
    unfold bestTo at h
    cases he : es[k]? with
    | none => rw [he] at h; exact bestTo_due v es k j h
    | some e =>
      rw [he] at h
      simp only [nextStep] at h
      split at h
      · rename_i hd
        split at h
        · cases h; exact ⟨e, he, hd⟩
        · rename_i j' hj'
          split at h
          · cases h; exact ⟨e, he, hd⟩
          · cases h; exact bestTo_due v es k j hj'
      · exact bestTo_due v es k j h
theorem bestTo_none (v : Vc) (es : List Ent) : ∀ (k : Nat), bestTo v es k = none → ∀ (j : Nat) (e : Ent), j < k → es[j]? = some e → dueE v e = false
  | 0, _, j, e, hj, _ => by omega
  | k + 1, h, j, e, hj, hje => by
    unfold bestTo at h
    cases he : es[k]? with
    | none =>
      rw [he] at h
      have : j < es.length := (List.getElem?_eq_some_iff.1 hje).1
      have : es.length ≤ k := List.getElem?_eq_none_iff.1 he
      exact bestTo_none v es k h j e (by omega) hje
    | some e0 =>
      rw [he] at h
      simp only [nextStep] at h
      split at h
      · split at h
        · cases h
        · split at h <;> cases h
      · rename_i hd
        by_cases hjk : j = k
        · subst hjk
          rw [he] at hje
          cases hje
          exact Bool.eq_false_iff.2 hd
        · exact bestTo_none v es k h j e (by omega) hje
theorem next_yes {v : Vc} {es : List Ent} {x : Ent} (h : nextE v es = (x, true)) : x ∈ es ∧ dueE v x = true ∧ (nextL v es).length + 1 = es.length ∧ ∀ e ∈ nextL v es, e ∈ es := by
  unfold nextE at h
  unfold nextL
  cases hb : bestTo v es es.length with
  | none => rw [hb] at h; cases h
  | some j =>
    rw [hb] at h
    obtain ⟨e, he, hd⟩ := bestTo_due v es _ j hb
    have hj := (bestTo_lt v es _ j hb).2
    obtain ⟨rfl, -⟩ := Prod.mk.inj h
    rw [List.getD_eq_getElem?_getD, he]
    refine ⟨List.mem_of_getElem? he, hd, ?_, fun e he => List.mem_of_mem_eraseIdx he⟩
    show (es.eraseIdx j).length + 1 = _
    rw [List.length_eraseIdx_of_lt hj]; omega
theorem next_no {v : Vc} {es : List Ent} {x : Ent} (h : nextE v es = (x, false)) : x = ent0 ∧ nextL v es = es ∧ ∀ e ∈ es, dueE v e = false := by
  unfold nextE at h
  unfold nextL
  cases hb : bestTo v es es.length with
  | some j => rw [hb] at h; cases h
  | none =>
    rw [hb] at h
    refine ⟨(Prod.mk.inj h).1.symm, rfl, fun e he => ?_⟩
    obtain ⟨j, hj⟩ := List.getElem?_of_mem he
    exact bestTo_none v es _ hb j e (List.getElem?_eq_some_iff.1 hj).1 hj
theorem right_chain {e : Ent} (h : rightE e = true) : chain e.dc e.rng = true ∧ 1 ≤ e.seq ∧ e.seq ≤ 1099511627776 := by
  unfold rightE g1 at h
  simp at h
  exact ⟨h.1.1, h.1.2.1, h.1.2.2⟩
theorem get_put (v : Vc) (d r : Nat) (hd : d < 3) (hr : r < 3) (x : Int) : (v.put d r x).get d r = x := by
  have h1 : d = 0 ∨ d = 1 ∨ d = 2 := by omega
  have h2 : r = 0 ∨ r = 1 ∨ r = 2 := by omega
  rcases h1 with rfl | rfl | rfl <;> rcases h2 with rfl | rfl | rfl <;> rfl
/-- what is due: covered by what is there, not there, and what stands behind it is another vector -/
theorem due_facts {v : Vc} {e : Ent} (hr : rightE e = true) (hv : ∀ d r, -9223372036854775808 ≤ v.get d r ∧ v.get d r ≤ 9223372036854775807) (hd : dueE v e = true) :
    coversV v e.deps = true ∧ hasD v ⟨e.dc, e.rng, e.seq⟩ = false ∧ eqVc (withL v [⟨e.dc, e.rng, e.seq⟩]) v = false := by
  obtain ⟨hc, h1, h2⟩ := right_chain hr
  obtain ⟨a1, a2, a3, a4⟩ := chain_nat hc
  unfold dueE at hd
  simp at hd
  have hq := hd.1
  have hb := hv e.dc.toNat e.rng.toNat
  have hw : e.seq = v.get e.dc.toNat e.rng.toNat + 1 := by
    rw [hq] at h1 h2 ⊢
    by_cases hx : v.get e.dc.toNat e.rng.toNat = 9223372036854775807
    · rw [hx] at h1; have : wrap64 (9223372036854775807 + 1) = -9223372036854775808 := by rw [← IntWalk.i64_left]; rfl
      omega
    · exact IntWalk.wrap64_in _ (by omega)
  refine ⟨hd.2, ?_, ?_⟩
  · unfold hasD
    simp
    intro _ _
    show v.get e.dc.toNat e.rng.toNat < e.seq
    omega
  · rw [Bool.eq_false_iff]
    intro h
    have h' := eqVc_iff.1 h
    have h3 : (withL v [⟨e.dc, e.rng, e.seq⟩]).get e.dc.toNat e.rng.toNat = e.seq := by
      show (withD v ⟨e.dc, e.rng, e.seq⟩).get _ _ = _
      unfold withD
      rw [if_pos hc, get_put _ _ _ a1 (by show e.rng.toNat < 3; omega)]
      show max (v.get e.dc.toNat e.rng.toNat) e.seq = e.seq
      omega
    rw [h'] at h3
    omega
theorem HSt.setV {w : World} {gh : Nat} {A : Option Addr} {c : Nat} {rng : Int} {hs : List Ent} {vv v' : Vc} {w1 w2 : World} (h : HSt w gh A c rng hs vv w1) (hV : VBx w2 w.heap.size v') (hk : Mem.Keeps (fun k => k = w.heap.size) w1 w2) : HSt w gh A c rng hs v' w2 :=
  ⟨h.H.keeps hk (fun k h1 h2 => by have := h.G k h1; omega), hV, h.b.trans (hk.below (fun k h9 => by omega) h.b.size), h.G⟩
theorem get_with (v : Vc) {d : Dt} (hc : chain d.dc d.rng = true) (h0 : ∀ d r, -9223372036854775808 ≤ v.get d r ∧ v.get d r ≤ 9223372036854775807) (h1 : -9223372036854775808 ≤ d.seq ∧ d.seq ≤ 9223372036854775807) :
    ∀ d' r', -9223372036854775808 ≤ (withL v [d]).get d' r' ∧ (withL v [d]).get d' r' ≤ 9223372036854775807 := by
  have hx : ∀ x y, -9223372036854775808 ≤ v.get x y ∧ v.get x y ≤ 9223372036854775807 := h0
  have hm : -9223372036854775808 ≤ max (v.get d.dc.toNat d.rng.toNat) d.seq ∧ max (v.get d.dc.toNat d.rng.toNat) d.seq ≤ 9223372036854775807 := by have := h0 d.dc.toNat d.rng.toNat; omega
  have e1 : withL v [d] = v.put d.dc.toNat d.rng.toNat (max (v.get d.dc.toNat d.rng.toNat) d.seq) := by show withD v d = _; unfold withD; rw [if_pos hc]
  rw [e1]
  generalize max (v.get d.dc.toNat d.rng.toNat) d.seq = m at hm
  generalize d.dc.toNat = a
  generalize d.rng.toNat = b
  intro d' r'
  have e2 : (v.put a b m).get d' r' = m ∨ (v.put a b m).get d' r' = v.get d' r' := by
    unfold Vc.put Vc.get
    rcases a with _ | _ | a <;> rcases d' with _ | _ | d' <;> first | exact .inr rfl | skip
    all_goals (show (Col.set _ b m).at r' = m ∨ (Col.set _ b m).at r' = Col.at _ r'; rcases b with _ | _ | b <;> rcases r' with _ | _ | r' <;> first | exact .inl rfl | exact .inr rfl)
  rcases e2 with e2 | e2 <;> rw [e2]
  · exact hm
  · exact hx _ _
theorem deps_at (e : Ent) {q : Nat} {u : Value} (h : (vcCells e.deps)[q]? = some u) : (entCells e)[9 + q]? = some u := by
  have hq : q < 9 := (List.getElem?_eq_some_iff.1 h).1
  have h2 : (entCells e)[9 + q]? = (vcCells e.deps)[q]? := by
    have : q = 0 ∨ q = 1 ∨ q = 2 ∨ q = 3 ∨ q = 4 ∨ q = 5 ∨ q = 6 ∨ q = 7 ∨ q = 8 := by omega
    rcases this with rfl | rfl | rfl | rfl | rfl | rfl | rfl | rfl | rfl <;> rfl
  exact h2.trans h
structure LastRel (w5 : World) (n : Nat) (v14 : Value) (wr : World) : Prop where
  out : ∃ i : Nat, i ≤ n ∧ v14 = .int .i64 i ∧ Hid (Below w5.heap.size w5 wr)
structure OrdRel (w : World) (gh : Nat) (A : Option Addr) (c : Nat) (rng : Int) (n : Nat) (v9 : Value) (wr : World) : Prop where
  out : ∃ (i : Nat) (hs : List Ent) (vv : Vc), i + hs.length = n ∧ v9 = .int .i64 i ∧ Hid (HSt w gh A c rng hs vv wr) ∧ Hid (∀ e ∈ hs, rightE e = true ∧ e.rng = rng) ∧ Hid (∀ d r, -9223372036854775808 ≤ vv.get d r ∧ vv.get d r ≤ 9223372036854775807)
end Vec
theorem dot_agg : Mem.Agg Try.prog 29 3 := Mem.agg_of Try.underlying29 rfl (by kernel_rfl)
theorem dot_zero : (Try.prog.info? 29).map (fun i => (i.zero, i.size)) = some (some (.agg (Vec.dtCells ⟨0, 0, 0⟩).toArray), 3) := by kernel_rfl
theorem eql_vec (a b : Vec.Vc) (w : World) : (binOp .eql 27 (.agg (Vec.vcCells a).toArray) (.agg (Vec.vcCells b).toArray)).run Try.prog w = .ok (.bool (Vec.eqVc a b)) w := by
  have h := eqIn_vec 27 25 Try.underlying27 Try.underlying25 (by kernel_rfl) (by kernel_rfl) 9997 a b w
  show (binOp .eql 27 (Vec.V a) (Vec.V b)).run Try.prog w = _
  unfold Vec.V
  rw [run_eql_struct]
  unfold Vec.V at h
  rw [h]
  rfl
section
variable {H : Type} {enc : TypeId × Value → H} {W : World}
open Vec in
set_option maxRecDepth 20000 in
theorem dec_arr_in {t : TypeId} (hu : Try.prog.underlying t = some (.array 3 3)) {n : Nat} {cs : List Value} {x : DataW H × List MemPlace} (h : DataW.trod enc Try.prog W 0 (fun _ => true) true n t cs = some x) (hl : cs.length = 3) : ∃ c : Vec.Col, cs = Vec.colCells c ∧ ∀ r, -9223372036854775808 ≤ c.at r ∧ c.at r ≤ 9223372036854775807 := by
  obtain ⟨m0, y0, e0⟩ := arr1 hu h (i := 0) (by omega)
  obtain ⟨m1, y1, e1⟩ := arr1 hu h (i := 1) (by omega)
  obtain ⟨m2, y2, e2⟩ := arr1 hu h (i := 2) (by omega)
  obtain ⟨a0, q0, _, b0⟩ := DataW.trod_int Try.underlying3 e0
  obtain ⟨a1, q1, _, b1⟩ := DataW.trod_int Try.underlying3 e1
  obtain ⟨a2, q2, _, b2⟩ := DataW.trod_int Try.underlying3 e2
  have k1 : Try.prog.cellsOf 3 = 1 := by kernel_rfl
  obtain ⟨x0, x1, x2, rfl⟩ := len3 hl
  rw [k1] at q0 q1 q2
  simp at q0 q1 q2
  refine ⟨⟨a0, a1, a2⟩, by rw [q0, q1, q2], fun r => ?_⟩
  rcases r with _ | _ | r
  · exact bounds_i64 b0
  · exact bounds_i64 b1
  · exact bounds_i64 b2
open Vec in
set_option maxRecDepth 20000 in
theorem dec_vec_in {n : Nat} {cs : List Value} {x : DataW H × List MemPlace} (h : DataW.trod enc Try.prog W 0 (fun _ => true) true n 27 cs = some x) (hl : cs.length = 9) : ∃ v : Vec.Vc, cs = Vec.vcCells v ∧ ∀ d r, -9223372036854775808 ≤ v.get d r ∧ v.get d r ≤ 9223372036854775807 := by
  have k3 : Try.prog.cellsOf 25 = 3 := by kernel_rfl
  obtain ⟨m0, y0, e0⟩ := arr1 Try.underlying27 h (i := 0) (by omega)
  obtain ⟨m1, y1, e1⟩ := arr1 Try.underlying27 h (i := 1) (by omega)
  obtain ⟨m2, y2, e2⟩ := arr1 Try.underlying27 h (i := 2) (by omega)
  rw [k3] at e0 e1 e2
  obtain ⟨x0, x1, x2, x3, x4, x5, x6, x7, x8, rfl⟩ := len9 hl
  obtain ⟨c0, q0, b0⟩ := dec_arr_in Try.underlying25 e0 (by simp)
  obtain ⟨c1, q1, b1⟩ := dec_arr_in Try.underlying25 e1 (by simp)
  obtain ⟨c2, q2, b2⟩ := dec_arr_in Try.underlying25 e2 (by simp)
  simp at q0 q1 q2
  refine ⟨⟨c0, c1, c2⟩, ?_, fun d r => ?_⟩
  · obtain ⟨r0, r1, r2⟩ := q0
    obtain ⟨r3, r4, r5⟩ := q1
    obtain ⟨r6, r7, r8⟩ := q2
    subst r0 r1 r2 r3 r4 r5 r6 r7 r8
    rfl
  · rcases d with _ | _ | d
    · exact b0 r
    · exact b1 r
    · exact b2 r
open Vec in
set_option maxRecDepth 20000 in
theorem open_vec_in {base : Nat} {v : Value} {d : DataW H} {p : List MemPlace} (o : Value.okWide Try.prog W .any base 27 v) (k : DataW.Trod enc Try.prog W 0 (fun _ => true) true 27 v d p) : ∃ x : Vec.Vc, v = .agg (Vec.vcCells x).toArray ∧ ∀ d r, -9223372036854775808 ≤ x.get d r ∧ x.get d r ≤ 9223372036854775807 := by
  obtain ⟨cs, rfl, hl⟩ := agg_array Try.underlying27 o
  obtain ⟨m, hm⟩ := k
  obtain ⟨x, hx, hb⟩ := dec_vec_in (x := (d, p)) hm (by rw [show (Value.agg cs.toArray).cells.toList = cs by simp [Value.cells], hl]; kernel_rfl)
  exact ⟨x, by rw [← hx]; simp [Value.cells], hb⟩
end
namespace holdOrdersOpen
open Vec
set_option maxRecDepth 20000 in
set_option maxHeartbeats 8000000 in
theorem walk (rng : Int) (A : Option Addr) (c : Nat) (es : List Ent) (vv : Vc) (w : World) (hr : Mem.Rd w w.heap.size A (es.flatMap entCells)) (hec : es.length ≤ c) (hcc : c ≤ 8796093022208) (hd : ∀ e ∈ es, EntIn e) (hvv : ∀ d r, -9223372036854775808 ≤ vv.get d r ∧ vv.get d r ≤ 9223372036854775807) :
    Calls Try.prog 4 #[.int .i64 rng, .slice A es.length c, .agg (vcCells vv).toArray] w fun e w' => e = .returned (.bool true) ∧ Below w.heap.size w w' := by
  have HR := Lib.hid hr
  have HD := Lib.hid hd
  have HVV := Lib.hid hvv
  clear hr hd hvv
  go_enter Try.func4, Try.ntmps4
  go_upto_region 1 with fail
  obtain ⟨w0, hw0⟩ : ∃ w0, w.alloc (.cells (vcCells vv).toArray 27) = w0 := ⟨_, rfl⟩
  have HV0 : Hid (VBx w0 w.heap.size vv) := by show VBx _ _ _; rw [← hw0]; exact Mem.Bx.new w 27 (vcCells vv).toArray rfl rfl
  have HB0 : Hid (Below w.heap.size w w0) := by show Below _ _ _; rw [← hw0]; exact Reg.below_new _ _
  change Code.wp _ _ _ _ (w.alloc (.cells (vcCells vv).toArray 27))
  rw [hw0]
  clear hw0
  go_wp2_with fail
  refine (holdAble_any w0).mono ?_
  rintro x w1 ⟨rfl, hb1⟩
  have HV1 : Hid (VBx w1 w.heap.size vv) := HV0.out.below hb1 HV0.out.lt
  have HB1 : Hid (Below w.heap.size w w1) := HB0.out.trans (hb1.mono HB0.out.size)
  clear hb1 HV0 HB0
  go_wp2_with fail
  have hrd : Mem.Rd (w1.alloc (.cells (acCells ⟨0, A, c, es, vc0⟩).toArray 44)) (w1.alloc (.cells (acCells ⟨0, A, c, es, vc0⟩).toArray 44)).heap.size (some ⟨w1.heap.size, 0, none⟩) ([(⟨0, A, c, es, vc0⟩ : Ac)].flatMap acCells) := by
    have h9 := Mem.Rd.alloc_new w1 (acCells ⟨0, A, c, es, vc0⟩).toArray 44 (0, 0) rfl
    simpa using h9
  refine (much_any (some ⟨w1.heap.size, 0, none⟩) 1 [⟨0, A, c, es, vc0⟩] (w1.alloc (.cells (acCells ⟨0, A, c, es, vc0⟩).toArray 44)) _ hrd (by simp) (fun a ha => ?_) (Below.refl _ _)).mono ?_
  · rw [List.mem_singleton] at ha
    subst ha
    exact ⟨((HR.out.below HB1.out).more HB1.out.size).alloc (Nat.le_refl _) _ |>.more (by simp), hec, hcc, HD.out⟩
  rintro x w2 ⟨bq, rfl, hbn, hb2⟩
  have hb2' : Below w1.heap.size w1 w2 := (Reg.below_new _ _).trans (hb2.mono (by simp))
  have HV2 : Hid (VBx w2 w.heap.size vv) := HV1.out.below hb2' HV1.out.lt
  have HB2 : Hid (Below w.heap.size w w2) := HB1.out.trans (hb2'.mono HB1.out.size)
  clear hb2 hb2' HV1 HB1 hrd
  cases bq
  case true =>
    go_wp2
    go_ret
    exact ⟨rfl, HB2.out⟩
  have hn3 : es.length ≤ 199 := by have := hbn rfl; simp [lenA] at this; omega
  clear hbn
  have hol := ents_len es
  have hoo := ents_one es
  go_upto_region 7 with (first | (go_at_call 9; refine (holdNew_any rng w2).mono ?_; rintro x w3 ⟨rfl, hA3, hb3⟩; have HA3 := Lib.hid hA3; have HB3 := Lib.hid hb3; have hrd3 := ((HR.out.below (HB2.out.trans (hb3.mono HB2.out.size))).more (Nat.le_trans HB2.out.size hb3.size)).alloc (Nat.le_refl _) (.cells #[] 33); clear hA3 hb3) | (at_builtin; refine Mem.wpList_app0 _ rfl (.tmp 24) (.tmp 25) _ rfl entries_elem (some ⟨w3.heap.size, 0, none⟩) rfl w3.heap.size A es.length c (es.flatMap entCells) rfl ?_ (Mem.Own.lit w3 _ 20 #[] 0 rfl rfl (by simp [maxLen])) hrd3 hol hoo (by unfold maxLen; omega) (by omega); intro A1 c1 w4 hown hb4 hat4; have HO4 := Lib.hid hown; have HB4 : Hid (Below w3.heap.size w3 w4) := (Reg.below_new _ _).trans (hb4.mono (by simp)); have HF4 : Hid (Mem.From w3.heap.size A1) := hat4.elim (fun h => by rw [h]; exact Mem.From.some_ (Nat.le_refl _)) (fun h => by rw [h]; exact Mem.From.some_ (by simp)); clear hown hb4 hat4 hrd3) | (go_at_call 10; refine (put_any rng w2.heap.size none 0 [] A1 c1 es w4 (HA3.out.below HB4.out) HO4.out (fun q hq h => by have h1 := HF4.out.blk q hq; have h2 := HA3.out.B.lt; rcases h with h | h; omega; cases h)).mono ?_; rintro x w5 ⟨A5, c5, rfl, hA5, hk5, hq5⟩; have HP5 := Lib.hid hA5; have HK5 := Lib.hid hk5; have HQ5 := Lib.hid hq5; clear hA5 hk5 hq5))
  have HS3 : Hid (HSt w w2.heap.size none 0 rng [] vv w3) := ⟨HA3.out, HV2.out.below HB3.out HV2.out.lt, HB2.out.trans (HB3.out.mono HB2.out.size), fun k h => by rcases h with rfl | h; exact HV2.out.lt; cases h⟩
  have HS5 := Lib.hid ((HS3.out.below HB4.out).step HP5.out HK5.out HQ5.out)
  obtain ⟨gh, hgh⟩ : ∃ gh, w2.heap.size = gh := ⟨_, rfl⟩
  obtain ⟨hs, hhs1⟩ : ∃ hs, (putL rng [] es).1 = hs := ⟨_, rfl⟩
  obtain ⟨nh, hhs2⟩ : ∃ nh, (putL rng [] es).2 = nh := ⟨_, rfl⟩
  have hcnt := putL_count rng [] es
  have hmax := putL_max rng [] es (by simp)
  have hrt := Lib.hid (putL_right rng [] es (fun e he => by cases he))
  rw [hhs1, hhs2] at hcnt
  rw [hhs1] at hmax hrt HS5
  skip
  rw [hgh] at HS5 ⊢
  clear hol hoo HS3 HP5 HK5 HQ5 HA3 HB3 HO4 HB4 HF4 HV2 HB2 hgh hhs1 hhs2
  obtain rfl : nh = hs.length := by simp at hcnt; omega
  clear hcnt
  go_upto_region 8 with (go_at_call 12; refine (holdLen_any HS5.out.H).mono ?_; rintro x w6 ⟨rfl, rfl⟩)
  go_wp2
  go_loopw [9] (OrdRel w gh A5 c5 rng hs.length) (fun t _ => hs.length + 1 - (intOf t).toNat)
  case atStart => exact ⟨⟨0, hs, vv, by omega, rfl, HS5, hrt, HVV⟩⟩
  case round =>
    obtain ⟨i, ls, vi, hil, rfl, HSr, HRt, HVi⟩ := hrel.out
    have di : decide ((i : Int) ≤ (hs.length : Int)) = true := by simp; omega
    have hiw : wrap64 ((i : Int) + 1) = ((i + 1 : Nat) : Int) := by rw [IntWalk.wrap64_in _ (by omega)]; omega
    obtain ⟨x, b, hnx⟩ : ∃ x b, nextE vi ls = (x, b) := ⟨_, _, rfl⟩
    have HNx := Lib.hid hnx
    have HX1 := Lib.hid (next_any vi rng gh A5 c5 ls wr HSr.out.H (by omega) (fun e he => (HRt.out e he).1))
    have ho1 := ent_one x
    clear hnx
    go_upto_region 12 with (first | ((with_reducible refine Mem.load_agg _ _ vec_agg w.heap.size 0 (vcCells vi) ?hxa (vcCells_length vi) (fun j u hu => by rw [Nat.zero_add]; exact HSr.out.V.cell hu) ?_); case hxa => exact rfl) | (go_at_call 11; refine HX1.out.mono ?_; rintro x9 w25 ⟨rfl, hA25, hk25⟩; rw [HNx.out]) | ((with_reducible refine Mem.store_agg _ _ entry_agg (w25.heap.size) (entCells ent0) (entCells x) ?hxc ?hyc ?hbc (entCells_length _) ho1 ?_); ((case hxc => exact rfl); (case hyc => exact rfl); (case hbc => exact Mem.Bx.new w25 _ (entCells ent0).toArray rfl rfl); intro w26 hb26 hk26 hs26)))
    have HS25 := Lib.hid (HSr.out.step hA25 hk25 (fun q h => .inl h))
    have HK26 : Hid (Below w25.heap.size w25 w26) := (hk26.newBox rfl).belowAll
    have HS26 := Lib.hid (HS25.out.below HK26.out)
    have HE26 : Hid (EBx w26 w25.heap.size x) := hb26
    obtain ⟨ge, hge⟩ : ∃ ge, w25.heap.size = ge := ⟨_, rfl⟩
    rw [hge] at HE26 ⊢
    clear hA25 hk25 hb26 hk26 hs26 HS25 HK26 HX1 hge ho1 HSr
    cases b
    case true =>
      obtain ⟨hxm, hxd, hxl, hxs⟩ := next_yes HNx.out
      have HXS := Lib.hid hxs
      have hxr := (HRt.out x hxm).1
      obtain ⟨f1, f2, f3⟩ := due_facts hxr HVi.out hxd
      obtain ⟨hxc, hq1, hq2⟩ := right_chain hxr
      have HGW := Lib.hid (get_with vi (d := ⟨x.dc, x.rng, x.seq⟩) hxc HVi.out ⟨by show _ ≤ x.seq; omega, by show x.seq ≤ _; omega⟩)
      obtain ⟨ns, hns⟩ : ∃ ns, nextL vi ls = ns := ⟨_, rfl⟩
      rw [hns] at HS26 hxl HXS
      have HRn : Hid (∀ e ∈ ns, rightE e = true ∧ e.rng = rng) := fun e he => HRt.out e (HXS.out e he)
      have din : ((i : Int) == (hs.length : Int)) = false := by simp; omega
      clear hns HXS HVi hxm hxd hxc hq1 hq2 HNx
      go_upto_region 15 with (first | ((with_reducible refine Mem.load_aggG _ _ vec_agg (w.heap.size) 0 (vcCells vi) ?hwd ?hxd (vcCells_length _) (fun j u hu => by rw [Nat.zero_add]; exact HS26.out.V.cell hu) ?_); ((case hwd => rfl); (case hxd => exact rfl))) | ((with_reducible refine Mem.load_aggG _ _ vec_agg (ge) 9 (vcCells x.deps) ?hwe ?hxe (vcCells_length _) (HE26.out.part 9 rfl) ?_); ((case hwe => rfl); (case hxe => exact rfl))) | (go_at_call 14; refine (coversV_any vi x.deps w26).mono ?_; rintro x9 w27 ⟨rfl, hb27⟩; rw [f1]; have HS27 := Lib.hid (HS26.out.below hb27); have HE27 := Lib.hid (HE26.out.below hb27 HE26.out.lt); clear hb27) | ((with_reducible refine Mem.load_aggG _ _ vec_agg (w.heap.size) 0 (vcCells vi) ?hwf ?hxf (vcCells_length _) (fun j u hu => by rw [Nat.zero_add]; exact HS27.out.V.cell hu) ?_); ((case hwf => rfl); (case hxf => exact rfl))) | ((with_reducible refine Mem.load_aggG _ _ dot_agg (ge) 0 (dtCells ⟨x.dc, x.rng, x.seq⟩) ?hwg ?hxg (dtCells_length _) (HE27.out.part 0 rfl) ?_); ((case hwg => rfl); (case hxg => exact rfl))) | (go_at_call 15; refine (hasD_any vi ⟨x.dc, x.rng, x.seq⟩ w27).mono ?_; rintro x9 w28 ⟨rfl, hb28⟩; rw [f2]; have HS28 := Lib.hid (HS27.out.below hb28); have HE28 := Lib.hid (HE27.out.below hb28 HE27.out.lt); clear hb28) | ((with_reducible refine Mem.load_aggG _ _ entry_agg (ge) 0 (entCells x) ?hwh ?hxh (entCells_length _) (fun j u hu => by rw [Nat.zero_add]; exact HE28.out.cell hu) ?_); ((case hwh => rfl); (case hxh => exact rfl))) | (go_at_call 16; refine (rightE_any x w28).mono ?_; rintro x9 w29 ⟨rfl, hb29⟩; rw [hxr]; have HS29 := Lib.hid (HS28.out.below hb29); have HE29 := Lib.hid (HE28.out.below hb29 HE28.out.lt); clear hb29))
      have hov := vc_one vi
      clear HS26 HS27 HS28 HE26 HE27 HE28 f1 f2 hxr
      go_upto_region 16 with (first | ((with_reducible refine Mem.load_aggG _ _ vec_agg (w.heap.size) 0 (vcCells vi) ?hwi ?hxi (vcCells_length _) (fun j u hu => by rw [Nat.zero_add]; exact HS29.out.V.cell hu) ?_); ((case hwi => rfl); (case hxi => exact rfl))) | ((with_reducible refine Mem.store_agg _ _ vec_agg (w29.heap.size) (vcCells vc0) (vcCells vi) ?hxj ?hyj ?hbj (vcCells_length _) hov ?_); ((case hxj => exact rfl); (case hyj => exact rfl); (case hbj => exact Mem.Bx.new w29 _ (vcCells vc0).toArray rfl rfl); intro w30 hb30 hk30 hs30)))
      have HK30 : Hid (Below w29.heap.size w29 w30) := (hk30.newBox rfl).belowAll
      have HS30 := Lib.hid (HS29.out.below HK30.out)
      have HE30 := Lib.hid (HE29.out.below HK30.out HE29.out.lt)
      have HP30 : Hid (VBx w30 w29.heap.size vi) := hb30
      obtain ⟨gp, hgp⟩ : ∃ gp, w29.heap.size = gp := ⟨_, rfl⟩
      have hgpw : w.heap.size < gp := by rw [← hgp]; exact HS29.out.V.lt
      rw [hgp] at HP30 ⊢
      clear hb30 hk30 hs30 HK30 HS29 HE29 hgp hov
      have hrd : Mem.Rd (w30.alloc (.cells (dtCells ⟨x.dc, x.rng, x.seq⟩).toArray 29)) (w30.alloc (.cells (dtCells ⟨x.dc, x.rng, x.seq⟩).toArray 29)).heap.size (some ⟨w30.heap.size, 0, none⟩) ([(⟨x.dc, x.rng, x.seq⟩ : Dt)].flatMap dtCells) := by
        have h9 := Mem.Rd.alloc_new w30 (dtCells ⟨x.dc, x.rng, x.seq⟩).toArray 29 (0, 0) rfl
        simpa using h9
      have HRD := Lib.hid hrd
      obtain ⟨vn, hvn⟩ : ∃ vn, withL vi [⟨x.dc, x.rng, x.seq⟩] = vn := ⟨_, rfl⟩
      rw [hvn] at f3 HGW
      have hov := vc_one vn
      have HVN := Lib.hid hvn
      clear hrd hvn
      go_upto_region 17 with (first | ((with_reducible refine Mem.load_aggG _ _ vec_agg (w.heap.size) 0 (vcCells vi) ?hwk ?hxk (vcCells_length _) (fun j u hu => by rw [Nat.zero_add]; exact HS30.out.V.cell hu) ?_); ((case hwk => rfl); (case hxk => exact rfl))) | ((with_reducible refine Mem.load_aggG _ _ dot_agg (ge) 0 (dtCells ⟨x.dc, x.rng, x.seq⟩) ?hwl ?hxl (dtCells_length _) (HE30.out.part 0 rfl) ?_); ((case hwl => rfl); (case hxl => exact rfl))) | ((with_reducible refine Mem.build1_agg _ _ 3 _ Try.underlying58 dot_zero (by decide) (by decide) (dtCells ⟨x.dc, x.rng, x.seq⟩) ?hra (dtCells_length _) ?_); (case hra => exact rfl)) | (go_at_call 8; refine (with_any vi (some ⟨w30.heap.size, 0, none⟩) 1 [⟨x.dc, x.rng, x.seq⟩] _ _ HRD.out (Nat.le_refl _) (by simp [maxLen])).mono ?_; rintro x9 w31 ⟨rfl, hb31⟩; rw [HVN.out]; have HK31 : Hid (Below w30.heap.size w30 w31) := (Reg.below_new _ _).trans (hb31.mono (by simp)); clear hb31; have HS31 := Lib.hid (HS30.out.below HK31.out); have HP31 := Lib.hid (HP30.out.below HK31.out HP30.out.lt)) | ((with_reducible refine Mem.store_agg _ _ vec_agg (w.heap.size) (vcCells vi) (vcCells vn) ?hxm ?hym ?hbm (vcCells_length _) hov ?_); ((case hxm => exact rfl); (case hym => exact rfl); (case hbm => exact HS31.out.V); intro w32 hb32 hk32 hs32)))
      have HS32 := Lib.hid (HS31.out.setV hb32 hk32)
      have HP32 : Hid (VBx w32 gp vi) := HP31.out.keeps hk32 (fun h => by omega)
      clear hb32 hk32 hs32 HS31 HS30 HP31 HP30 HK31 HRD HE30 hov
      have e1 : ∀ W, (binOp .eql 27 (.agg (vcCells vn).toArray) (.agg (vcCells vi).toArray)).run Try.prog W = .ok (.bool false) W := fun W => by rw [← f3]; exact eql_vec _ _ W
      have HL := Lib.hid (holdLen_any HS32.out.H)
      have hw1 : wrap64 ((hs.length : Int) - (i : Int)) = ((hs.length - i : Nat) : Int) := by rw [IntWalk.wrap64_in _ (by omega)]; omega
      have hw2 : wrap64 (((hs.length - i : Nat) : Int) - 1) = (ns.length : Int) := by rw [IntWalk.wrap64_in _ (by omega)]; omega
      have hw3 : wrap64 (wrap64 ((hs.length : Int) - (i : Int)) - 1) = (ns.length : Int) := by rw [hw1, hw2]
      have dnn : ((ns.length : Int) != (ns.length : Int)) = false := by simp
      clear f3 HVN
      go_wp2_with (first | ((with_reducible refine Mem.load_aggG _ _ vec_agg (w.heap.size) 0 (vcCells vn) ?hwn ?hxn (vcCells_length _) (fun j u hu => by rw [Nat.zero_add]; exact HS32.out.V.cell hu) ?_); ((case hwn => rfl); (case hxn => exact rfl))) | ((with_reducible refine Mem.load_aggG _ _ vec_agg (gp) 0 (vcCells vi) ?hwo ?hxo (vcCells_length _) (fun j u hu => by rw [Nat.zero_add]; exact HP32.out.cell hu) ?_); ((case hwo => rfl); (case hxo => exact rfl))) | (go_at_call 12; refine HL.out.mono ?_; rintro x9 w33 ⟨rfl, rfl⟩))
      go_roundw
      case rel => exact ⟨⟨i + 1, ns, vn, by omega, by go_num, HS32, HRn, HGW⟩⟩
      case measure => simp [intOf]; omega
    case false =>
      obtain ⟨rfl, hnl, hnd⟩ := next_no HNx.out
      rw [hnl] at HS26
      have HND := Lib.hid hnd
      clear hnl hnd HNx
      go_upto_region 20 with (go_at_call 17; refine (holdEntries_any HS26.out.H (by omega)).mono ?_; rintro x9 w27 ⟨Al, cl, rfl, hO27, hF27, hb27⟩)
      have HS27 := Lib.hid (HS26.out.below hb27)
      have HO27 := Lib.hid hO27
      clear hO27 hF27 hb27 HS26 HE26
      go_wp2
      go_loopw [14] (LastRel w27 ls.length) (fun t _ => ls.length - (intOf t).toNat)
      case atStart => exact ⟨⟨0, by omega, rfl, Below.refl _ _⟩⟩
      case round =>
        obtain ⟨k, hk, rfl, HBr⟩ := hrel.out
        have HSr := Lib.hid (HS27.out.below HBr.out)
        by_cases hlt : k < ls.length
        · obtain ⟨b, o, e, rfl, hbl, he, hat⟩ := ent_elem (HO27.out.keeps (Mem.Keeps.of_below HBr.out) (fun _ _ h => h)).rd hlt
          have HAT := Lib.hid hat
          have hem := List.mem_of_getElem? he
          have hdue := HND.out e hem
          have hch := (right_chain (HRt.out e hem).1).1
          have hkw : wrap64 ((k : Int) + 1) = ((k + 1 : Nat) : Int) := by rw [IntWalk.wrap64_in _ (by omega)]; omega
          clear hat he hem
          obtain ⟨hd3, hd4, hr0, hr3⟩ := chain_nat hch
          obtain ⟨dn, hdn0⟩ : ∃ dn, e.dc.toNat = dn := ⟨_, rfl⟩
          obtain ⟨rn, hrn0⟩ : ∃ rn, e.rng.toNat = rn := ⟨_, rfl⟩
          have hdn : e.dc = (dn : Int) := by omega
          have hrn : e.rng = (rn : Int) := by omega
          have hr4 : rn < 3 := by omega
          rw [hdn0] at hd3
          obtain ⟨dv, hdv⟩ : ∃ dv, vi.get dn rn = dv := ⟨_, rfl⟩
          obtain ⟨nx, hnx⟩ : ∃ nx, wrap64 (dv + 1) = nx := ⟨_, rfl⟩
          have hnx2 : IntKind.i64.wrap (dv + 1) = nx := (IntWalk.i64_left _).trans hnx
          have hde : dueE vi e = (e.seq == nx && coversV vi e.deps) := by unfold dueE; rw [hdn0, hrn0, hdv, hnx]
          rw [hde] at hdue
          clear hch hd4 hr0 hr3 hde
          go_upto_region 23 with fail
          by_cases hs1 : e.seq = nx
          · have d1 : (e.seq == nx) = true := by simp [hs1]
            have hcv : coversV vi e.deps = false := by rw [d1] at hdue; simpa using hdue
            clear hs1 hdue
            refine Reg.wp_region_rel (by kernel_rfl) 122 32 rfl rfl (by kernel_rfl) (Reg.Adds) (Reg.Adds.refl) (Reg.Adds.trans)
              (fun i v u => match i with
                | 0 => v = .slice (some ⟨b, o, none⟩) ls.length cl
                | 1 => v = .int .i64 k
                | 2 => v = .pointer (some ⟨b, o + k * 20, none⟩)
                | 3 => v = .pointer (some ⟨b, o + k * 20, none⟩)
                | 4 => v = .pointer (some ⟨b, o + k * 20 + 2, none⟩)
                | 5 => v = .int .i64 e.seq
                | 6 => v = .slice (some ⟨b, o, none⟩) ls.length cl
                | 7 => v = .int .i64 k
                | 8 => v = .pointer (some ⟨b, o + k * 20, none⟩)
                | 9 => v = .pointer (some ⟨b, o + k * 20, none⟩)
                | 10 => v = .pointer (some ⟨b, o + k * 20, none⟩)
                | 11 => v = .int .i64 (dn : Int)
                | 12 => v = .slice (some ⟨b, o, none⟩) ls.length cl
                | 13 => v = .int .i64 k
                | 14 => v = .pointer (some ⟨b, o + k * 20, none⟩)
                | 15 => v = .pointer (some ⟨b, o + k * 20, none⟩)
                | 16 => v = .pointer (some ⟨b, o + k * 20 + 1, none⟩)
                | 17 => v = .int .i64 (rn : Int)
                | 18 => v = .pointer (some ⟨w.heap.size, dn * 3, none⟩)
                | 19 => v = .pointer (some ⟨w.heap.size, dn * 3 + rn, none⟩)
                | 20 => v = .int .i64 dv
                | 21 => v = .int .i64 nx
                | 22 => v = .bool true
                | 23 => v = .bool true
                | 24 => v = .agg (vcCells vi).toArray
                | 25 => v = .slice (some ⟨b, o, none⟩) ls.length cl
                | 26 => v = .int .i64 k
                | 27 => v = .pointer (some ⟨b, o + k * 20, none⟩)
                | 28 => v = .pointer (some ⟨b, o + k * 20 + 9, none⟩)
                | 29 => v = .agg (vcCells e.deps).toArray
                | 30 => v = .bool false
                | 31 => v = .bool false
                | _ => True) ?_ ?_
            · refine Reg.Steps.cons ?_ (Reg.Steps.cons ?_ (Reg.Steps.cons ?_ (Reg.Steps.cons ?_ (Reg.Steps.cons ?_ (Reg.Steps.cons ?_ (Reg.Steps.cons ?_ (Reg.Steps.cons ?_ (Reg.Steps.cons ?_ (Reg.Steps.cons ?_ (Reg.Steps.cons ?_ (Reg.Steps.cons ?_ (Reg.Steps.cons ?_ (Reg.Steps.cons ?_ (Reg.Steps.cons ?_ (Reg.Steps.cons ?_ (Reg.Steps.cons ?_ (Reg.Steps.cons ?_ (Reg.Steps.cons ?_ (Reg.Steps.cons ?_ (Reg.Steps.cons ?_ (Reg.Steps.cons ?_ (Reg.Steps.cons ?_ (Reg.Steps.cons ?_ (Reg.Steps.cons ?_ (Reg.Steps.cons ?_ (Reg.Steps.cons ?_ (Reg.Steps.cons ?_ (Reg.Steps.cons ?_ (Reg.Steps.cons ?_ (Reg.Steps.cons ?_ (Reg.Steps.cons ?_ (Reg.Steps.nil _))))))))))))))))))))))))))))))))
              · intro val ac u hR hp ha K hK      -- 0: t90 := Op.move t13
                have e13 : (ac.tmps[13]?).getD undef = .slice (some ⟨b, o, none⟩) ls.length cl := ha 13 (by decide)
                clear ha hp
                refine Reg.Op1.plain rfl ?_
                go_wp2
                exact ⟨rfl, hK _ _ rfl (fun j k _ _ => Reg.Adds.refl _ _ _)⟩
              · intro val ac u hR hp ha K hK      -- 1: t91 := Op.move t14
                have e14 : (ac.tmps[14]?).getD undef = .int .i64 k := ha 14 (by decide)
                clear ha hp
                refine Reg.Op1.plain rfl ?_
                go_wp2
                exact ⟨rfl, hK _ _ rfl (fun j k _ _ => Reg.Adds.refl _ _ _)⟩
              · intro val ac u hR hp ha K hK      -- 2: t92 := Op.indexAddr 24 t90 t91
                obtain ⟨w90, h90, r90⟩ := hp 0 (by decide)
                have e90 : (ac.tmps[90]?).getD undef = .slice (some ⟨b, o, none⟩) ls.length cl := (ha 90 (by decide)).trans h90
                clear h90
                obtain ⟨w91, h91, r91⟩ := hp 1 (by decide)
                have e91 : (ac.tmps[91]?).getD undef = .int .i64 k := (ha 91 (by decide)).trans h91
                clear h91
                clear ha hp
                refine Reg.Op1.plain rfl ?_
                go_wp2
                exact ⟨rfl, hK _ _ rfl (fun j k _ _ => Reg.Adds.refl _ _ _)⟩
              · intro val ac u hR hp ha K hK      -- 3: t93 := Op.fieldAddr 33 t92 0
                obtain ⟨w92, h92, r92⟩ := hp 2 (by decide)
                have e92 : (ac.tmps[92]?).getD undef = .pointer (some ⟨b, o + k * 20, none⟩) := (ha 92 (by decide)).trans h92
                clear h92
                clear ha hp
                refine Reg.Op1.plain rfl ?_
                go_wp2
                exact ⟨rfl, hK _ _ rfl (fun j k _ _ => Reg.Adds.refl _ _ _)⟩
              · intro val ac u hR hp ha K hK      -- 4: t94 := Op.fieldAddr 29 t93 2
                obtain ⟨w93, h93, r93⟩ := hp 3 (by decide)
                have e93 : (ac.tmps[93]?).getD undef = .pointer (some ⟨b, o + k * 20, none⟩) := (ha 93 (by decide)).trans h93
                clear h93
                clear ha hp
                refine Reg.Op1.plain rfl ?_
                go_wp2
                exact ⟨rfl, hK _ _ rfl (fun j k _ _ => Reg.Adds.refl _ _ _)⟩
              · intro val ac u hR hp ha K hK      -- 5: t95 := Op.load 3 t94
                obtain ⟨w94, h94, r94⟩ := hp 4 (by decide)
                have e94 : (ac.tmps[94]?).getD undef = .pointer (some ⟨b, o + k * 20 + 2, none⟩) := (ha 94 (by decide)).trans h94
                clear h94
                clear ha hp
                refine Reg.Op1.plain rfl ?_
                have x0 := (hR.cell (p := ⟨b, o + k * 20 + 2, none⟩) hbl).trans (HAT.out.c 2 _ rfl)
                go_wp2
                exact ⟨rfl, hK _ _ rfl (fun j k _ _ => Reg.Adds.refl _ _ _)⟩
              · intro val ac u hR hp ha K hK      -- 6: t96 := Op.move t13
                have e13 : (ac.tmps[13]?).getD undef = .slice (some ⟨b, o, none⟩) ls.length cl := ha 13 (by decide)
                clear ha hp
                refine Reg.Op1.plain rfl ?_
                go_wp2
                exact ⟨rfl, hK _ _ rfl (fun j k _ _ => Reg.Adds.refl _ _ _)⟩
              · intro val ac u hR hp ha K hK      -- 7: t97 := Op.move t14
                have e14 : (ac.tmps[14]?).getD undef = .int .i64 k := ha 14 (by decide)
                clear ha hp
                refine Reg.Op1.plain rfl ?_
                go_wp2
                exact ⟨rfl, hK _ _ rfl (fun j k _ _ => Reg.Adds.refl _ _ _)⟩
              · intro val ac u hR hp ha K hK      -- 8: t98 := Op.indexAddr 24 t96 t97
                obtain ⟨w96, h96, r96⟩ := hp 6 (by decide)
                have e96 : (ac.tmps[96]?).getD undef = .slice (some ⟨b, o, none⟩) ls.length cl := (ha 96 (by decide)).trans h96
                clear h96
                obtain ⟨w97, h97, r97⟩ := hp 7 (by decide)
                have e97 : (ac.tmps[97]?).getD undef = .int .i64 k := (ha 97 (by decide)).trans h97
                clear h97
                clear ha hp
                refine Reg.Op1.plain rfl ?_
                go_wp2
                exact ⟨rfl, hK _ _ rfl (fun j k _ _ => Reg.Adds.refl _ _ _)⟩
              · intro val ac u hR hp ha K hK      -- 9: t99 := Op.fieldAddr 33 t98 0
                obtain ⟨w98, h98, r98⟩ := hp 8 (by decide)
                have e98 : (ac.tmps[98]?).getD undef = .pointer (some ⟨b, o + k * 20, none⟩) := (ha 98 (by decide)).trans h98
                clear h98
                clear ha hp
                refine Reg.Op1.plain rfl ?_
                go_wp2
                exact ⟨rfl, hK _ _ rfl (fun j k _ _ => Reg.Adds.refl _ _ _)⟩
              · intro val ac u hR hp ha K hK      -- 10: t100 := Op.fieldAddr 29 t99 0
                obtain ⟨w99, h99, r99⟩ := hp 9 (by decide)
                have e99 : (ac.tmps[99]?).getD undef = .pointer (some ⟨b, o + k * 20, none⟩) := (ha 99 (by decide)).trans h99
                clear h99
                clear ha hp
                refine Reg.Op1.plain rfl ?_
                go_wp2
                exact ⟨rfl, hK _ _ rfl (fun j k _ _ => Reg.Adds.refl _ _ _)⟩
              · intro val ac u hR hp ha K hK      -- 11: t101 := Op.load 3 t100
                obtain ⟨w100, h100, r100⟩ := hp 10 (by decide)
                have e100 : (ac.tmps[100]?).getD undef = .pointer (some ⟨b, o + k * 20, none⟩) := (ha 100 (by decide)).trans h100
                clear h100
                clear ha hp
                refine Reg.Op1.plain rfl ?_
                have x0 := (hR.cell (p := ⟨b, o + k * 20, none⟩) hbl).trans (HAT.out.c 0 _ rfl)
                rw [hdn] at x0
                go_wp2
                exact ⟨rfl, hK _ _ rfl (fun j k _ _ => Reg.Adds.refl _ _ _)⟩
              · intro val ac u hR hp ha K hK      -- 12: t102 := Op.move t13
                have e13 : (ac.tmps[13]?).getD undef = .slice (some ⟨b, o, none⟩) ls.length cl := ha 13 (by decide)
                clear ha hp
                refine Reg.Op1.plain rfl ?_
                go_wp2
                exact ⟨rfl, hK _ _ rfl (fun j k _ _ => Reg.Adds.refl _ _ _)⟩
              · intro val ac u hR hp ha K hK      -- 13: t103 := Op.move t14
                have e14 : (ac.tmps[14]?).getD undef = .int .i64 k := ha 14 (by decide)
                clear ha hp
                refine Reg.Op1.plain rfl ?_
                go_wp2
                exact ⟨rfl, hK _ _ rfl (fun j k _ _ => Reg.Adds.refl _ _ _)⟩
              · intro val ac u hR hp ha K hK      -- 14: t104 := Op.indexAddr 24 t102 t103
                obtain ⟨w102, h102, r102⟩ := hp 12 (by decide)
                have e102 : (ac.tmps[102]?).getD undef = .slice (some ⟨b, o, none⟩) ls.length cl := (ha 102 (by decide)).trans h102
                clear h102
                obtain ⟨w103, h103, r103⟩ := hp 13 (by decide)
                have e103 : (ac.tmps[103]?).getD undef = .int .i64 k := (ha 103 (by decide)).trans h103
                clear h103
                clear ha hp
                refine Reg.Op1.plain rfl ?_
                go_wp2
                exact ⟨rfl, hK _ _ rfl (fun j k _ _ => Reg.Adds.refl _ _ _)⟩
              · intro val ac u hR hp ha K hK      -- 15: t105 := Op.fieldAddr 33 t104 0
                obtain ⟨w104, h104, r104⟩ := hp 14 (by decide)
                have e104 : (ac.tmps[104]?).getD undef = .pointer (some ⟨b, o + k * 20, none⟩) := (ha 104 (by decide)).trans h104
                clear h104
                clear ha hp
                refine Reg.Op1.plain rfl ?_
                go_wp2
                exact ⟨rfl, hK _ _ rfl (fun j k _ _ => Reg.Adds.refl _ _ _)⟩
              · intro val ac u hR hp ha K hK      -- 16: t106 := Op.fieldAddr 29 t105 1
                obtain ⟨w105, h105, r105⟩ := hp 15 (by decide)
                have e105 : (ac.tmps[105]?).getD undef = .pointer (some ⟨b, o + k * 20, none⟩) := (ha 105 (by decide)).trans h105
                clear h105
                clear ha hp
                refine Reg.Op1.plain rfl ?_
                go_wp2
                exact ⟨rfl, hK _ _ rfl (fun j k _ _ => Reg.Adds.refl _ _ _)⟩
              · intro val ac u hR hp ha K hK      -- 17: t107 := Op.load 3 t106
                obtain ⟨w106, h106, r106⟩ := hp 16 (by decide)
                have e106 : (ac.tmps[106]?).getD undef = .pointer (some ⟨b, o + k * 20 + 1, none⟩) := (ha 106 (by decide)).trans h106
                clear h106
                clear ha hp
                refine Reg.Op1.plain rfl ?_
                have x0 := (hR.cell (p := ⟨b, o + k * 20 + 1, none⟩) hbl).trans (HAT.out.c 1 _ rfl)
                rw [hrn] at x0
                go_wp2
                exact ⟨rfl, hK _ _ rfl (fun j k _ _ => Reg.Adds.refl _ _ _)⟩
              · intro val ac u hR hp ha K hK      -- 18: t108 := Op.indexAddr 27 t5 t101
                have e5 : (ac.tmps[5]?).getD undef = .pointer (some ⟨w.heap.size, 0, none⟩) := ha 5 (by decide)
                obtain ⟨w101, h101, r101⟩ := hp 11 (by decide)
                have e101 : (ac.tmps[101]?).getD undef = .int .i64 (dn : Int) := (ha 101 (by decide)).trans h101
                clear h101
                clear ha hp
                refine Reg.Op1.plain rfl ?_
                go_wp2
                exact ⟨rfl, hK _ _ rfl (fun j k _ _ => Reg.Adds.refl _ _ _)⟩
              · intro val ac u hR hp ha K hK      -- 19: t109 := Op.indexAddr 25 t108 t107
                obtain ⟨w108, h108, r108⟩ := hp 18 (by decide)
                have e108 : (ac.tmps[108]?).getD undef = .pointer (some ⟨w.heap.size, dn * 3, none⟩) := (ha 108 (by decide)).trans h108
                clear h108
                obtain ⟨w107, h107, r107⟩ := hp 17 (by decide)
                have e107 : (ac.tmps[107]?).getD undef = .int .i64 (rn : Int) := (ha 107 (by decide)).trans h107
                clear h107
                clear ha hp
                refine Reg.Op1.plain rfl ?_
                go_wp2
                exact ⟨rfl, hK _ _ rfl (fun j k _ _ => Reg.Adds.refl _ _ _)⟩
              · intro val ac u hR hp ha K hK      -- 20: t110 := Op.load 3 t109
                obtain ⟨w109, h109, r109⟩ := hp 19 (by decide)
                have e109 : (ac.tmps[109]?).getD undef = .pointer (some ⟨w.heap.size, dn * 3 + rn, none⟩) := (ha 109 (by decide)).trans h109
                clear h109
                clear ha hp
                refine Reg.Op1.plain rfl ?_
                have x0 := (hR.cell (p := ⟨w.heap.size, dn * 3 + rn, none⟩) HSr.out.V.lt).trans (HSr.out.V.cell (j := dn * 3 + rn) (vc_cell vi hd3 hr4))
                rw [hdv] at x0
                go_wp2
                exact ⟨rfl, hK _ _ rfl (fun j k _ _ => Reg.Adds.refl _ _ _)⟩
              · intro val ac u hR hp ha K hK      -- 21: t111 := Op.binOp BinOp.add 3 t110 (const (1:i64)) 3
                obtain ⟨w110, h110, r110⟩ := hp 20 (by decide)
                have e110 : (ac.tmps[110]?).getD undef = .int .i64 dv := (ha 110 (by decide)).trans h110
                clear h110
                clear ha hp
                refine Reg.Op1.plain rfl ?_
                go_wp2
                exact ⟨rfl, hK _ _ rfl (fun j k _ _ => Reg.Adds.refl _ _ _)⟩
              · intro val ac u hR hp ha K hK      -- 22: t112 := Op.binOp BinOp.eql 3 t95 t111 3
                obtain ⟨w95, h95, r95⟩ := hp 5 (by decide)
                have e95 : (ac.tmps[95]?).getD undef = .int .i64 e.seq := (ha 95 (by decide)).trans h95
                clear h95
                obtain ⟨w111, h111, r111⟩ := hp 21 (by decide)
                have e111 : (ac.tmps[111]?).getD undef = .int .i64 nx := (ha 111 (by decide)).trans h111
                clear h111
                clear ha hp
                refine Reg.Op1.plain rfl ?_
                go_wp2
                exact ⟨rfl, hK _ _ rfl (fun j k _ _ => Reg.Adds.refl _ _ _)⟩
              · intro val ac u hR hp ha K hK      -- 23: t113 := Op.move t112
                obtain ⟨w112, h112, r112⟩ := hp 22 (by decide)
                have e112 : (ac.tmps[112]?).getD undef = .bool true := (ha 112 (by decide)).trans h112
                clear h112
                clear ha hp
                refine Reg.Op1.plain rfl ?_
                go_wp2
                exact ⟨rfl, hK _ _ rfl (fun j k _ _ => Reg.Adds.refl _ _ _)⟩
              · intro val ac u hR hp ha K hK      -- 24: t114 := Op.load 27 t5
                have e5 : (ac.tmps[5]?).getD undef = .pointer (some ⟨w.heap.size, 0, none⟩) := ha 5 (by decide)
                obtain ⟨w113, h113, r113⟩ := hp 23 (by decide)
                have e113 : (ac.tmps[113]?).getD undef = .bool true := (ha 113 (by decide)).trans h113
                clear h113
                clear ha hp
                refine Reg.Op1.guarded rfl rfl e113 (fun _ => Reg.Op1.plain rfl ?_) (fun h => absurd rfl h)
                have hVu : VBx u w.heap.size vi := Mem.Bx.below (w := wr.drew) HSr.out.V hR HSr.out.V.lt
                refine Mem.load_aggG _ _ vec_agg w.heap.size 0 (vcCells vi) (by assumption) (Reg.eval_of e5) (vcCells_length _) (fun j u' hu => by rw [Nat.zero_add]; exact hVu.cell hu) ?_
                exact ⟨rfl, hK _ _ rfl (fun j k _ _ => Reg.Adds.refl _ _ _)⟩
              · intro val ac u hR hp ha K hK      -- 25: t115 := Op.move t13
                have e13 : (ac.tmps[13]?).getD undef = .slice (some ⟨b, o, none⟩) ls.length cl := ha 13 (by decide)
                obtain ⟨w113, h113, r113⟩ := hp 23 (by decide)
                have e113 : (ac.tmps[113]?).getD undef = .bool true := (ha 113 (by decide)).trans h113
                clear h113
                clear ha hp
                refine Reg.Op1.guarded rfl rfl e113 (fun _ => Reg.Op1.plain rfl ?_) (fun h => absurd rfl h)
                go_wp2
                exact ⟨rfl, hK _ _ rfl (fun j k _ _ => Reg.Adds.refl _ _ _)⟩
              · intro val ac u hR hp ha K hK      -- 26: t116 := Op.move t14
                have e14 : (ac.tmps[14]?).getD undef = .int .i64 k := ha 14 (by decide)
                obtain ⟨w113, h113, r113⟩ := hp 23 (by decide)
                have e113 : (ac.tmps[113]?).getD undef = .bool true := (ha 113 (by decide)).trans h113
                clear h113
                clear ha hp
                refine Reg.Op1.guarded rfl rfl e113 (fun _ => Reg.Op1.plain rfl ?_) (fun h => absurd rfl h)
                go_wp2
                exact ⟨rfl, hK _ _ rfl (fun j k _ _ => Reg.Adds.refl _ _ _)⟩
              · intro val ac u hR hp ha K hK      -- 27: t117 := Op.indexAddr 24 t115 t116
                obtain ⟨w115, h115, r115⟩ := hp 25 (by decide)
                have e115 : (ac.tmps[115]?).getD undef = .slice (some ⟨b, o, none⟩) ls.length cl := (ha 115 (by decide)).trans h115
                clear h115
                obtain ⟨w116, h116, r116⟩ := hp 26 (by decide)
                have e116 : (ac.tmps[116]?).getD undef = .int .i64 k := (ha 116 (by decide)).trans h116
                clear h116
                obtain ⟨w113, h113, r113⟩ := hp 23 (by decide)
                have e113 : (ac.tmps[113]?).getD undef = .bool true := (ha 113 (by decide)).trans h113
                clear h113
                clear ha hp
                refine Reg.Op1.guarded rfl rfl e113 (fun _ => Reg.Op1.plain rfl ?_) (fun h => absurd rfl h)
                go_wp2
                exact ⟨rfl, hK _ _ rfl (fun j k _ _ => Reg.Adds.refl _ _ _)⟩
              · intro val ac u hR hp ha K hK      -- 28: t118 := Op.fieldAddr 33 t117 5
                obtain ⟨w117, h117, r117⟩ := hp 27 (by decide)
                have e117 : (ac.tmps[117]?).getD undef = .pointer (some ⟨b, o + k * 20, none⟩) := (ha 117 (by decide)).trans h117
                clear h117
                obtain ⟨w113, h113, r113⟩ := hp 23 (by decide)
                have e113 : (ac.tmps[113]?).getD undef = .bool true := (ha 113 (by decide)).trans h113
                clear h113
                clear ha hp
                refine Reg.Op1.guarded rfl rfl e113 (fun _ => Reg.Op1.plain rfl ?_) (fun h => absurd rfl h)
                go_wp2
                exact ⟨rfl, hK _ _ rfl (fun j k _ _ => Reg.Adds.refl _ _ _)⟩
              · intro val ac u hR hp ha K hK      -- 29: t119 := Op.load 27 t118
                obtain ⟨w118, h118, r118⟩ := hp 28 (by decide)
                have e118 : (ac.tmps[118]?).getD undef = .pointer (some ⟨b, o + k * 20 + 9, none⟩) := (ha 118 (by decide)).trans h118
                clear h118
                obtain ⟨w113, h113, r113⟩ := hp 23 (by decide)
                have e113 : (ac.tmps[113]?).getD undef = .bool true := (ha 113 (by decide)).trans h113
                clear h113
                clear ha hp
                refine Reg.Op1.guarded rfl rfl e113 (fun _ => Reg.Op1.plain rfl ?_) (fun h => absurd rfl h)
                refine Mem.load_aggG _ _ vec_agg b (o + k * 20 + 9) (vcCells e.deps) (by assumption) (Reg.eval_of e118) (vcCells_length _) (fun q u' hu => (hR.cell (p := ⟨b, o + k * 20 + 9 + q, none⟩) hbl).trans (by have h9 := HAT.out.c (9 + q) u' (deps_at e hu); rw [← Nat.add_assoc] at h9; exact h9)) ?_
                exact ⟨rfl, hK _ _ rfl (fun j k _ _ => Reg.Adds.refl _ _ _)⟩
              · intro val ac u hR hp ha K hK      -- 30: t120 := Op.call { value (Operand.func 14), args := #[t114, t119], argTypes := #[27, 27] }
                obtain ⟨w114, h114, r114⟩ := hp 24 (by decide)
                have e114 : (ac.tmps[114]?).getD undef = .agg (vcCells vi).toArray := (ha 114 (by decide)).trans h114
                clear h114
                obtain ⟨w119, h119, r119⟩ := hp 29 (by decide)
                have e119 : (ac.tmps[119]?).getD undef = .agg (vcCells e.deps).toArray := (ha 119 (by decide)).trans h119
                clear h119
                obtain ⟨w113, h113, r113⟩ := hp 23 (by decide)
                have e113 : (ac.tmps[113]?).getD undef = .bool true := (ha 113 (by decide)).trans h113
                clear h113
                clear ha hp
                refine Reg.Op1.guarded rfl rfl e113 (fun _ => Reg.Op1.plain rfl ?_) (fun h => absurd rfl h)
                go_wp2_with fail
                refine (coversV_any vi e.deps u).mono ?_
                rintro x w' ⟨rfl, hbw⟩
                rw [hcv]
                go_wp2_with fail
                exact ⟨rfl, hK _ _ rfl (fun j k _ _ => hbw)⟩
              · intro val ac u hR hp ha K hK      -- 31: t121 := Op.pick t113 t120 (const (Value.bool false))
                obtain ⟨w113, h113, r113⟩ := hp 23 (by decide)
                have e113 : (ac.tmps[113]?).getD undef = .bool true := (ha 113 (by decide)).trans h113
                clear h113
                obtain ⟨w120, h120, r120⟩ := hp 30 (by decide)
                have e120 : (ac.tmps[120]?).getD undef = .bool false := (ha 120 (by decide)).trans h120
                clear h120
                clear ha hp
                refine Reg.Op1.plain rfl ?_
                go_wp2
                exact ⟨rfl, hK _ _ rfl (fun j k _ _ => Reg.Adds.refl _ _ _)⟩
            · intro val u hR H
              obtain ⟨_, hv, _⟩ := H 31 (by decide)
              have hv : val 31 = .bool false := hv
              have HBu : Hid (Below w27.heap.size w27 u) := HBr.out.trans (((Below.refl _ wr).drew.trans hR).mono HBr.out.size)
              simp only [List.map_cons, List.map_nil, Reg.lay, Act.put, List.setIfInBounds_toArray, List.set_cons_succ, List.set_cons_zero, Nat.reduceAdd, hv]
              clear hR H hv
              go_wp2
              go_roundw
              case rel => exact ⟨⟨k + 1, by omega, by go_num, HBu⟩⟩
              case measure => simp [intOf]; omega
          · have d1 : (e.seq == nx) = false := by simp [hs1]
            clear hs1 hdue
            refine Reg.wp_region_rel (by kernel_rfl) 122 32 rfl rfl (by kernel_rfl) (Reg.Adds) (Reg.Adds.refl) (Reg.Adds.trans)
              (fun i v u => match i with
                | 0 => v = .slice (some ⟨b, o, none⟩) ls.length cl
                | 1 => v = .int .i64 k
                | 2 => v = .pointer (some ⟨b, o + k * 20, none⟩)
                | 3 => v = .pointer (some ⟨b, o + k * 20, none⟩)
                | 4 => v = .pointer (some ⟨b, o + k * 20 + 2, none⟩)
                | 5 => v = .int .i64 e.seq
                | 6 => v = .slice (some ⟨b, o, none⟩) ls.length cl
                | 7 => v = .int .i64 k
                | 8 => v = .pointer (some ⟨b, o + k * 20, none⟩)
                | 9 => v = .pointer (some ⟨b, o + k * 20, none⟩)
                | 10 => v = .pointer (some ⟨b, o + k * 20, none⟩)
                | 11 => v = .int .i64 (dn : Int)
                | 12 => v = .slice (some ⟨b, o, none⟩) ls.length cl
                | 13 => v = .int .i64 k
                | 14 => v = .pointer (some ⟨b, o + k * 20, none⟩)
                | 15 => v = .pointer (some ⟨b, o + k * 20, none⟩)
                | 16 => v = .pointer (some ⟨b, o + k * 20 + 1, none⟩)
                | 17 => v = .int .i64 (rn : Int)
                | 18 => v = .pointer (some ⟨w.heap.size, dn * 3, none⟩)
                | 19 => v = .pointer (some ⟨w.heap.size, dn * 3 + rn, none⟩)
                | 20 => v = .int .i64 dv
                | 21 => v = .int .i64 nx
                | 22 => v = .bool false
                | 23 => v = .bool false
                | 24 => v = undef
                | 25 => v = undef
                | 26 => v = undef
                | 27 => v = undef
                | 28 => v = undef
                | 29 => v = undef
                | 30 => v = undef
                | 31 => v = .bool false
                | _ => True) ?_ ?_
            · refine Reg.Steps.cons ?_ (Reg.Steps.cons ?_ (Reg.Steps.cons ?_ (Reg.Steps.cons ?_ (Reg.Steps.cons ?_ (Reg.Steps.cons ?_ (Reg.Steps.cons ?_ (Reg.Steps.cons ?_ (Reg.Steps.cons ?_ (Reg.Steps.cons ?_ (Reg.Steps.cons ?_ (Reg.Steps.cons ?_ (Reg.Steps.cons ?_ (Reg.Steps.cons ?_ (Reg.Steps.cons ?_ (Reg.Steps.cons ?_ (Reg.Steps.cons ?_ (Reg.Steps.cons ?_ (Reg.Steps.cons ?_ (Reg.Steps.cons ?_ (Reg.Steps.cons ?_ (Reg.Steps.cons ?_ (Reg.Steps.cons ?_ (Reg.Steps.cons ?_ (Reg.Steps.cons ?_ (Reg.Steps.cons ?_ (Reg.Steps.cons ?_ (Reg.Steps.cons ?_ (Reg.Steps.cons ?_ (Reg.Steps.cons ?_ (Reg.Steps.cons ?_ (Reg.Steps.cons ?_ (Reg.Steps.nil _))))))))))))))))))))))))))))))))
              · intro val ac u hR hp ha K hK      -- 0: t90 := Op.move t13
                have e13 : (ac.tmps[13]?).getD undef = .slice (some ⟨b, o, none⟩) ls.length cl := ha 13 (by decide)
                clear ha hp
                refine Reg.Op1.plain rfl ?_
                go_wp2
                exact ⟨rfl, hK _ _ rfl (fun j k _ _ => Reg.Adds.refl _ _ _)⟩
              · intro val ac u hR hp ha K hK      -- 1: t91 := Op.move t14
                have e14 : (ac.tmps[14]?).getD undef = .int .i64 k := ha 14 (by decide)
                clear ha hp
                refine Reg.Op1.plain rfl ?_
                go_wp2
                exact ⟨rfl, hK _ _ rfl (fun j k _ _ => Reg.Adds.refl _ _ _)⟩
              · intro val ac u hR hp ha K hK      -- 2: t92 := Op.indexAddr 24 t90 t91
                obtain ⟨w90, h90, r90⟩ := hp 0 (by decide)
                have e90 : (ac.tmps[90]?).getD undef = .slice (some ⟨b, o, none⟩) ls.length cl := (ha 90 (by decide)).trans h90
                clear h90
                obtain ⟨w91, h91, r91⟩ := hp 1 (by decide)
                have e91 : (ac.tmps[91]?).getD undef = .int .i64 k := (ha 91 (by decide)).trans h91
                clear h91
                clear ha hp
                refine Reg.Op1.plain rfl ?_
                go_wp2
                exact ⟨rfl, hK _ _ rfl (fun j k _ _ => Reg.Adds.refl _ _ _)⟩
              · intro val ac u hR hp ha K hK      -- 3: t93 := Op.fieldAddr 33 t92 0
                obtain ⟨w92, h92, r92⟩ := hp 2 (by decide)
                have e92 : (ac.tmps[92]?).getD undef = .pointer (some ⟨b, o + k * 20, none⟩) := (ha 92 (by decide)).trans h92
                clear h92
                clear ha hp
                refine Reg.Op1.plain rfl ?_
                go_wp2
                exact ⟨rfl, hK _ _ rfl (fun j k _ _ => Reg.Adds.refl _ _ _)⟩
              · intro val ac u hR hp ha K hK      -- 4: t94 := Op.fieldAddr 29 t93 2
                obtain ⟨w93, h93, r93⟩ := hp 3 (by decide)
                have e93 : (ac.tmps[93]?).getD undef = .pointer (some ⟨b, o + k * 20, none⟩) := (ha 93 (by decide)).trans h93
                clear h93
                clear ha hp
                refine Reg.Op1.plain rfl ?_
                go_wp2
                exact ⟨rfl, hK _ _ rfl (fun j k _ _ => Reg.Adds.refl _ _ _)⟩
              · intro val ac u hR hp ha K hK      -- 5: t95 := Op.load 3 t94
                obtain ⟨w94, h94, r94⟩ := hp 4 (by decide)
                have e94 : (ac.tmps[94]?).getD undef = .pointer (some ⟨b, o + k * 20 + 2, none⟩) := (ha 94 (by decide)).trans h94
                clear h94
                clear ha hp
                refine Reg.Op1.plain rfl ?_
                have x0 := (hR.cell (p := ⟨b, o + k * 20 + 2, none⟩) hbl).trans (HAT.out.c 2 _ rfl)
                go_wp2
                exact ⟨rfl, hK _ _ rfl (fun j k _ _ => Reg.Adds.refl _ _ _)⟩
              · intro val ac u hR hp ha K hK      -- 6: t96 := Op.move t13
                have e13 : (ac.tmps[13]?).getD undef = .slice (some ⟨b, o, none⟩) ls.length cl := ha 13 (by decide)
                clear ha hp
                refine Reg.Op1.plain rfl ?_
                go_wp2
                exact ⟨rfl, hK _ _ rfl (fun j k _ _ => Reg.Adds.refl _ _ _)⟩
              · intro val ac u hR hp ha K hK      -- 7: t97 := Op.move t14
                have e14 : (ac.tmps[14]?).getD undef = .int .i64 k := ha 14 (by decide)
                clear ha hp
                refine Reg.Op1.plain rfl ?_
                go_wp2
                exact ⟨rfl, hK _ _ rfl (fun j k _ _ => Reg.Adds.refl _ _ _)⟩
              · intro val ac u hR hp ha K hK      -- 8: t98 := Op.indexAddr 24 t96 t97
                obtain ⟨w96, h96, r96⟩ := hp 6 (by decide)
                have e96 : (ac.tmps[96]?).getD undef = .slice (some ⟨b, o, none⟩) ls.length cl := (ha 96 (by decide)).trans h96
                clear h96
                obtain ⟨w97, h97, r97⟩ := hp 7 (by decide)
                have e97 : (ac.tmps[97]?).getD undef = .int .i64 k := (ha 97 (by decide)).trans h97
                clear h97
                clear ha hp
                refine Reg.Op1.plain rfl ?_
                go_wp2
                exact ⟨rfl, hK _ _ rfl (fun j k _ _ => Reg.Adds.refl _ _ _)⟩
              · intro val ac u hR hp ha K hK      -- 9: t99 := Op.fieldAddr 33 t98 0
                obtain ⟨w98, h98, r98⟩ := hp 8 (by decide)
                have e98 : (ac.tmps[98]?).getD undef = .pointer (some ⟨b, o + k * 20, none⟩) := (ha 98 (by decide)).trans h98
                clear h98
                clear ha hp
                refine Reg.Op1.plain rfl ?_
                go_wp2
                exact ⟨rfl, hK _ _ rfl (fun j k _ _ => Reg.Adds.refl _ _ _)⟩
              · intro val ac u hR hp ha K hK      -- 10: t100 := Op.fieldAddr 29 t99 0
                obtain ⟨w99, h99, r99⟩ := hp 9 (by decide)
                have e99 : (ac.tmps[99]?).getD undef = .pointer (some ⟨b, o + k * 20, none⟩) := (ha 99 (by decide)).trans h99
                clear h99
                clear ha hp
                refine Reg.Op1.plain rfl ?_
                go_wp2
                exact ⟨rfl, hK _ _ rfl (fun j k _ _ => Reg.Adds.refl _ _ _)⟩
              · intro val ac u hR hp ha K hK      -- 11: t101 := Op.load 3 t100
                obtain ⟨w100, h100, r100⟩ := hp 10 (by decide)
                have e100 : (ac.tmps[100]?).getD undef = .pointer (some ⟨b, o + k * 20, none⟩) := (ha 100 (by decide)).trans h100
                clear h100
                clear ha hp
                refine Reg.Op1.plain rfl ?_
                have x0 := (hR.cell (p := ⟨b, o + k * 20, none⟩) hbl).trans (HAT.out.c 0 _ rfl)
                rw [hdn] at x0
                go_wp2
                exact ⟨rfl, hK _ _ rfl (fun j k _ _ => Reg.Adds.refl _ _ _)⟩
              · intro val ac u hR hp ha K hK      -- 12: t102 := Op.move t13
                have e13 : (ac.tmps[13]?).getD undef = .slice (some ⟨b, o, none⟩) ls.length cl := ha 13 (by decide)
                clear ha hp
                refine Reg.Op1.plain rfl ?_
                go_wp2
                exact ⟨rfl, hK _ _ rfl (fun j k _ _ => Reg.Adds.refl _ _ _)⟩
              · intro val ac u hR hp ha K hK      -- 13: t103 := Op.move t14
                have e14 : (ac.tmps[14]?).getD undef = .int .i64 k := ha 14 (by decide)
                clear ha hp
                refine Reg.Op1.plain rfl ?_
                go_wp2
                exact ⟨rfl, hK _ _ rfl (fun j k _ _ => Reg.Adds.refl _ _ _)⟩
              · intro val ac u hR hp ha K hK      -- 14: t104 := Op.indexAddr 24 t102 t103
                obtain ⟨w102, h102, r102⟩ := hp 12 (by decide)
                have e102 : (ac.tmps[102]?).getD undef = .slice (some ⟨b, o, none⟩) ls.length cl := (ha 102 (by decide)).trans h102
                clear h102
                obtain ⟨w103, h103, r103⟩ := hp 13 (by decide)
                have e103 : (ac.tmps[103]?).getD undef = .int .i64 k := (ha 103 (by decide)).trans h103
                clear h103
                clear ha hp
                refine Reg.Op1.plain rfl ?_
                go_wp2
                exact ⟨rfl, hK _ _ rfl (fun j k _ _ => Reg.Adds.refl _ _ _)⟩
              · intro val ac u hR hp ha K hK      -- 15: t105 := Op.fieldAddr 33 t104 0
                obtain ⟨w104, h104, r104⟩ := hp 14 (by decide)
                have e104 : (ac.tmps[104]?).getD undef = .pointer (some ⟨b, o + k * 20, none⟩) := (ha 104 (by decide)).trans h104
                clear h104
                clear ha hp
                refine Reg.Op1.plain rfl ?_
                go_wp2
                exact ⟨rfl, hK _ _ rfl (fun j k _ _ => Reg.Adds.refl _ _ _)⟩
              · intro val ac u hR hp ha K hK      -- 16: t106 := Op.fieldAddr 29 t105 1
                obtain ⟨w105, h105, r105⟩ := hp 15 (by decide)
                have e105 : (ac.tmps[105]?).getD undef = .pointer (some ⟨b, o + k * 20, none⟩) := (ha 105 (by decide)).trans h105
                clear h105
                clear ha hp
                refine Reg.Op1.plain rfl ?_
                go_wp2
                exact ⟨rfl, hK _ _ rfl (fun j k _ _ => Reg.Adds.refl _ _ _)⟩
              · intro val ac u hR hp ha K hK      -- 17: t107 := Op.load 3 t106
                obtain ⟨w106, h106, r106⟩ := hp 16 (by decide)
                have e106 : (ac.tmps[106]?).getD undef = .pointer (some ⟨b, o + k * 20 + 1, none⟩) := (ha 106 (by decide)).trans h106
                clear h106
                clear ha hp
                refine Reg.Op1.plain rfl ?_
                have x0 := (hR.cell (p := ⟨b, o + k * 20 + 1, none⟩) hbl).trans (HAT.out.c 1 _ rfl)
                rw [hrn] at x0
                go_wp2
                exact ⟨rfl, hK _ _ rfl (fun j k _ _ => Reg.Adds.refl _ _ _)⟩
              · intro val ac u hR hp ha K hK      -- 18: t108 := Op.indexAddr 27 t5 t101
                have e5 : (ac.tmps[5]?).getD undef = .pointer (some ⟨w.heap.size, 0, none⟩) := ha 5 (by decide)
                obtain ⟨w101, h101, r101⟩ := hp 11 (by decide)
                have e101 : (ac.tmps[101]?).getD undef = .int .i64 (dn : Int) := (ha 101 (by decide)).trans h101
                clear h101
                clear ha hp
                refine Reg.Op1.plain rfl ?_
                go_wp2
                exact ⟨rfl, hK _ _ rfl (fun j k _ _ => Reg.Adds.refl _ _ _)⟩
              · intro val ac u hR hp ha K hK      -- 19: t109 := Op.indexAddr 25 t108 t107
                obtain ⟨w108, h108, r108⟩ := hp 18 (by decide)
                have e108 : (ac.tmps[108]?).getD undef = .pointer (some ⟨w.heap.size, dn * 3, none⟩) := (ha 108 (by decide)).trans h108
                clear h108
                obtain ⟨w107, h107, r107⟩ := hp 17 (by decide)
                have e107 : (ac.tmps[107]?).getD undef = .int .i64 (rn : Int) := (ha 107 (by decide)).trans h107
                clear h107
                clear ha hp
                refine Reg.Op1.plain rfl ?_
                go_wp2
                exact ⟨rfl, hK _ _ rfl (fun j k _ _ => Reg.Adds.refl _ _ _)⟩
              · intro val ac u hR hp ha K hK      -- 20: t110 := Op.load 3 t109
                obtain ⟨w109, h109, r109⟩ := hp 19 (by decide)
                have e109 : (ac.tmps[109]?).getD undef = .pointer (some ⟨w.heap.size, dn * 3 + rn, none⟩) := (ha 109 (by decide)).trans h109
                clear h109
                clear ha hp
                refine Reg.Op1.plain rfl ?_
                have x0 := (hR.cell (p := ⟨w.heap.size, dn * 3 + rn, none⟩) HSr.out.V.lt).trans (HSr.out.V.cell (j := dn * 3 + rn) (vc_cell vi hd3 hr4))
                rw [hdv] at x0
                go_wp2
                exact ⟨rfl, hK _ _ rfl (fun j k _ _ => Reg.Adds.refl _ _ _)⟩
              · intro val ac u hR hp ha K hK      -- 21: t111 := Op.binOp BinOp.add 3 t110 (const (1:i64)) 3
                obtain ⟨w110, h110, r110⟩ := hp 20 (by decide)
                have e110 : (ac.tmps[110]?).getD undef = .int .i64 dv := (ha 110 (by decide)).trans h110
                clear h110
                clear ha hp
                refine Reg.Op1.plain rfl ?_
                go_wp2
                exact ⟨rfl, hK _ _ rfl (fun j k _ _ => Reg.Adds.refl _ _ _)⟩
              · intro val ac u hR hp ha K hK      -- 22: t112 := Op.binOp BinOp.eql 3 t95 t111 3
                obtain ⟨w95, h95, r95⟩ := hp 5 (by decide)
                have e95 : (ac.tmps[95]?).getD undef = .int .i64 e.seq := (ha 95 (by decide)).trans h95
                clear h95
                obtain ⟨w111, h111, r111⟩ := hp 21 (by decide)
                have e111 : (ac.tmps[111]?).getD undef = .int .i64 nx := (ha 111 (by decide)).trans h111
                clear h111
                clear ha hp
                refine Reg.Op1.plain rfl ?_
                go_wp2
                exact ⟨rfl, hK _ _ rfl (fun j k _ _ => Reg.Adds.refl _ _ _)⟩
              · intro val ac u hR hp ha K hK      -- 23: t113 := Op.move t112
                obtain ⟨w112, h112, r112⟩ := hp 22 (by decide)
                have e112 : (ac.tmps[112]?).getD undef = .bool false := (ha 112 (by decide)).trans h112
                clear h112
                clear ha hp
                refine Reg.Op1.plain rfl ?_
                go_wp2
                exact ⟨rfl, hK _ _ rfl (fun j k _ _ => Reg.Adds.refl _ _ _)⟩
              · intro val ac u hR hp ha K hK      -- 24: t114 := Op.load 27 t5
                obtain ⟨w113, h113, r113⟩ := hp 23 (by decide)
                have e113 : (ac.tmps[113]?).getD undef = .bool false := (ha 113 (by decide)).trans h113
                clear h113
                clear ha hp
                exact Reg.Op1.guarded rfl rfl e113 (fun h => by cases h) (fun _ => hK _ _ rfl (fun j k _ _ => Reg.Adds.refl _ _ _))
              · intro val ac u hR hp ha K hK      -- 25: t115 := Op.move t13
                obtain ⟨w113, h113, r113⟩ := hp 23 (by decide)
                have e113 : (ac.tmps[113]?).getD undef = .bool false := (ha 113 (by decide)).trans h113
                clear h113
                clear ha hp
                exact Reg.Op1.guarded rfl rfl e113 (fun h => by cases h) (fun _ => hK _ _ rfl (fun j k _ _ => Reg.Adds.refl _ _ _))
              · intro val ac u hR hp ha K hK      -- 26: t116 := Op.move t14
                obtain ⟨w113, h113, r113⟩ := hp 23 (by decide)
                have e113 : (ac.tmps[113]?).getD undef = .bool false := (ha 113 (by decide)).trans h113
                clear h113
                clear ha hp
                exact Reg.Op1.guarded rfl rfl e113 (fun h => by cases h) (fun _ => hK _ _ rfl (fun j k _ _ => Reg.Adds.refl _ _ _))
              · intro val ac u hR hp ha K hK      -- 27: t117 := Op.indexAddr 24 t115 t116
                obtain ⟨w113, h113, r113⟩ := hp 23 (by decide)
                have e113 : (ac.tmps[113]?).getD undef = .bool false := (ha 113 (by decide)).trans h113
                clear h113
                clear ha hp
                exact Reg.Op1.guarded rfl rfl e113 (fun h => by cases h) (fun _ => hK _ _ rfl (fun j k _ _ => Reg.Adds.refl _ _ _))
              · intro val ac u hR hp ha K hK      -- 28: t118 := Op.fieldAddr 33 t117 5
                obtain ⟨w113, h113, r113⟩ := hp 23 (by decide)
                have e113 : (ac.tmps[113]?).getD undef = .bool false := (ha 113 (by decide)).trans h113
                clear h113
                clear ha hp
                exact Reg.Op1.guarded rfl rfl e113 (fun h => by cases h) (fun _ => hK _ _ rfl (fun j k _ _ => Reg.Adds.refl _ _ _))
              · intro val ac u hR hp ha K hK      -- 29: t119 := Op.load 27 t118
                obtain ⟨w113, h113, r113⟩ := hp 23 (by decide)
                have e113 : (ac.tmps[113]?).getD undef = .bool false := (ha 113 (by decide)).trans h113
                clear h113
                clear ha hp
                exact Reg.Op1.guarded rfl rfl e113 (fun h => by cases h) (fun _ => hK _ _ rfl (fun j k _ _ => Reg.Adds.refl _ _ _))
              · intro val ac u hR hp ha K hK      -- 30: t120 := Op.call { value (Operand.func 14), args := #[t114, t119], argTypes := #[27, 27] }
                obtain ⟨w113, h113, r113⟩ := hp 23 (by decide)
                have e113 : (ac.tmps[113]?).getD undef = .bool false := (ha 113 (by decide)).trans h113
                clear h113
                clear ha hp
                exact Reg.Op1.guarded rfl rfl e113 (fun h => by cases h) (fun _ => hK _ _ rfl (fun j k _ _ => Reg.Adds.refl _ _ _))
              · intro val ac u hR hp ha K hK      -- 31: t121 := Op.pick t113 t120 (const (Value.bool false))
                obtain ⟨w113, h113, r113⟩ := hp 23 (by decide)
                have e113 : (ac.tmps[113]?).getD undef = .bool false := (ha 113 (by decide)).trans h113
                clear h113
                obtain ⟨w120, h120, r120⟩ := hp 30 (by decide)
                have e120 : (ac.tmps[120]?).getD undef = undef := (ha 120 (by decide)).trans h120
                clear h120
                clear ha hp
                refine Reg.Op1.plain rfl ?_
                go_wp2
                exact ⟨rfl, hK _ _ rfl (fun j k _ _ => Reg.Adds.refl _ _ _)⟩
            · intro val u hR H
              obtain ⟨_, hv, _⟩ := H 31 (by decide)
              have hv : val 31 = .bool false := hv
              have HBu : Hid (Below w27.heap.size w27 u) := HBr.out.trans (((Below.refl _ wr).drew.trans hR).mono HBr.out.size)
              simp only [List.map_cons, List.map_nil, Reg.lay, Act.put, List.setIfInBounds_toArray, List.set_cons_succ, List.set_cons_zero, Nat.reduceAdd, hv]
              clear hR H hv
              go_wp2
              go_roundw
              case rel => exact ⟨⟨k + 1, by omega, by go_num, HBu⟩⟩
              case measure => simp [intOf]; omega
        · obtain rfl : k = ls.length := by omega
          go_wp2
          go_ret
          exact ⟨rfl, HSr.out.b⟩
set_option maxRecDepth 20000 in
theorem opened {H : Type} (enc : TypeId × Value → H) (W : World) (base : Nat) (v0 v1 v2 : Value) {d0 d1 d2 : DataW H} {p0 p1 p2 : List MemPlace}
    (o0 : Value.okWide Try.prog W .any base 3 v0) (o1 : Value.okWide Try.prog W .any base 24 v1) (o2 : Value.okWide Try.prog W .any base 27 v2)
    (k0 : DataW.Trod enc Try.prog W 0 (fun _ => true) true 3 v0 d0 p0) (k1 : DataW.Trod enc Try.prog W 0 (fun _ => true) true 24 v1 d1 p1) (k2 : DataW.Trod enc Try.prog W 0 (fun _ => true) true 27 v2 d2 p2)
    (z0 : (d0.weights Try.prog 3).all (· ≤ reachBytes) = true) (z1 : (d1.weights Try.prog 24).all (· ≤ reachBytes) = true) (z2 : (d2.weights Try.prog 27).all (· ≤ reachBytes) = true) :
    Calls Try.prog 4 #[v0, v1, v2] W fun e w' => e = .returned (.bool true) ∧ Below W.heap.size W w' := by
  obtain ⟨n, rfl, _⟩ := open_num o0 k0
  obtain ⟨A, c, es, rfl, h1, h2, h3, h4⟩ := open_ents o1 k1 z1
  obtain ⟨v, rfl, hv⟩ := open_vec_in o2 k2
  exact walk n A c es v W h3 h1 h2 h4 hv
end holdOrdersOpen
end Go.Proofs.Ytgdcfdjfoeoknaa
