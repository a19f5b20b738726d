/- The walk of StoreTwice. Nothing is asked but what the row's form asks of its arguments. -/
import Derived.Test.YtfafehffnjbhnaaStAble
set_option maxRecDepth 8000
namespace Go.Proofs.Ytfafehffnjbhnaa
open Go.ChangeShapes Go.WideShapes Go.ChangeAt Go.RowKit
set_option linter.unusedVariables false
set_option linter.unusedSimpArgs false
namespace Mem
section
variable {P : Program} {w : World} {ops : Array Oper} {rest : List Oper} {a : Act} {Q : Exit → Act → World → Prop} {d : Option Tmp} {ty : TypeId} {ps : String} {af : Array Edge}
/-- a slice literal of one value of many cells, by a guarded operation too -/
theorem build1_aggG {x : Operand} {gd : Option (Nat × Bool)} (t e : TypeId) (n : Nat) (z : Value) (hu : P.underlying t = some (.slice e)) (hi : (P.info? e).map (fun i => (i.zero, i.size)) = some (some z, n)) (hn : 0 < n) (hs : n ≤ 1024)
    (hw : Region.wanted { dst := d, op := .buildSlice t 1 #[(0, x)], type := ty, pos := ps, after := af, guard := gd } (yielded ops a.tmps) = true)
    (xs : List Value) (hx : a.eval x = .agg xs.toArray) (hl : xs.length = n) (h : wpList P ops Q rest (a.put d (.slice (some ⟨w.heap.size, 0, none⟩) 1 1)) (w.alloc (.cells xs.toArray e))) :
    wpList P ops Q ({ dst := d, op := .buildSlice t 1 #[(0, x)], type := ty, pos := ps, after := af, guard := gd } :: rest) a w := by
  have h9 := build1_agg (P := P) (w := w) (ops := ops) (rest := rest) (a := a) (Q := Q) (d := d) (ty := ty) (ps := ps) (af := af) (x := x) t e n z hu hi hn hs xs hx hl h
  unfold wpList at h9 ⊢
  rw [if_pos hw]
  rw [if_pos (by simp [Region.wanted])] at h9
  exact h9
end
end Mem
namespace Sto
open Vec
theorem putL_one (rng : Int) (mk : Col) (st : List Ls) (e : Ent) : putL rng mk st [e] = putStep rng mk (st, 0) e := rfl
theorem hasS_put {st : List Ls} {e : Ent} {d : Ent} : hasS (putS st e) (dotE d) = true ↔ dotQ e d ∨ hasS st (dotE d) = true := by
  rw [hasS_iff, hasS_iff]
  constructor
  · rintro ⟨x, hx, hd⟩
    rcases List.mem_cons.1 ((putS_all st e).subset hx) with rfl | hx
    · exact .inl hd
    · exact .inr ⟨x, hx, hd⟩
  · rintro (hd | ⟨x, hx, hd⟩)
    · exact ⟨e, (putS_all st e).symm.subset List.mem_cons_self, hd⟩
    · exact ⟨x, (putS_all st e).symm.subset (List.mem_cons_of_mem _ hx), hd⟩
theorem okP_put_self {rng : Int} {mk : Col} {st : List Ls} {e : Ent} : okP rng mk (putS st e) e = false := by
  have h : hasS (putS st e) (dotE e) = true := hasS_put.2 (.inl ⟨rfl, rfl, rfl⟩)
  unfold okP
  rw [h]
  simp
theorem okP_put {rng : Int} {mk : Col} {st : List Ls} {e x : Ent} (h : okP rng mk st x = false) : okP rng mk (putS st e) x = false := by
  cases h2 : okP rng mk (putS st e) x with
  | false => rfl
  | true =>
    obtain ⟨h3, h4, h5, h6⟩ := okP_spec h2
    have h7 : hasS st (dotE x) = false := by
      cases h8 : hasS st (dotE x) with
      | false => rfl
      | true => rw [hasS_put.2 (.inr h8)] at h6; cases h6
    have h9 : okP rng mk st x = true := by
      unfold okP
      rw [h3, h5, h7]
      simp [h4]
    rw [h] at h9
    cases h9
theorem putL_none {rng : Int} {mk : Col} {st : List Ls} : ∀ {es : List Ent}, (∀ e ∈ es, okP rng mk st e = false) → putL rng mk st es = (st, 0) := by
  have : ∀ (es : List Ent) (n : Nat), (∀ e ∈ es, okP rng mk st e = false) → es.foldl (putStep rng mk) (st, n) = (st, n) := by
    intro es
    induction es with
    | nil => intro n _; rfl
    | cons a es ih =>
      intro n h
      rw [List.foldl_cons]
      have h1 : putStep rng mk (st, n) a = (st, n) := by unfold putStep; rw [if_neg (by simp [h a List.mem_cons_self])]
      rw [h1]
      exact ih n fun e he => h e (List.mem_cons_of_mem _ he)
  intro es h
  exact this es 0 h
theorem vers_put (st : List Ls) (e : Ent) : vers (putS st e) e.key = insE e (vers st e.key) := by unfold putS; rw [vers_set, if_pos rfl]
theorem mem_put (st : List Ls) (e : Ent) : e ∈ vers (putS st e) e.key := by rw [vers_put]; exact (insE_perm e _).symm.subset List.mem_cons_self
structure TwRel (w : World) (g b : Nat) (rng : Int) (es : List Ent) (v6 v7 : Value) (wr : World) : Prop where
  out : ∃ (k : Nat) (rs : List LR), k ≤ es.length ∧ v6 = .int .i64 (lenS (states rs) : Nat) ∧ v7 = .int .i64 k ∧ lenS (states rs) ≤ k ∧ Hid (∀ e ∈ es.take k, okP rng col0 (states rs) e = false) ∧ Hid (Mine w.heap.size wr g b rng col0 rs) ∧ Hid (Below w.heap.size w wr)
structure FdRel (w8 : World) (l : List Ent) (e : Ent) (v9 v11 : Value) (wr : World) : Prop where
  out : ∃ j : Nat, j ≤ l.length ∧ v9 = .bool ((l.take j).any fun x => eqEnt x e) ∧ v11 = .int .i64 j ∧ Hid (Below w8.heap.size w8 wr)
/-- one write laid in -/
theorem put_one {B : Nat} {w : World} {g b : Nat} {rng : Int} {mk : Col} {rs : List LR} (h : Mine B w g b rng mk rs) (hB : B ≤ w.heap.size) (e : Ent) (hl : lenS (states rs) ≤ 1000) :
    Calls Try.prog 12 #[.pointer (some ⟨g, 0, none⟩), .slice (some ⟨w.heap.size, 0, none⟩) 1 1] (w.alloc (.cells (entCells e).toArray 40)) fun x w' =>
      ∃ rs', x = .returned (.int .i64 (if okP rng mk (states rs) e = true then 1 else 0)) ∧ states rs' = (if okP rng mk (states rs) e = true then putS (states rs) e else states rs) ∧ Mine B w' g b rng mk rs' ∧ Below B w w' := by
  have hb5 : Below w.heap.size w (w.alloc (.cells (entCells e).toArray 40)) := Reg.below_new _ _
  have hO5 : EOwn (w.alloc (.cells (entCells e).toArray 40)) (some ⟨w.heap.size, 0, none⟩) 1 [e] := by
    have := Mem.Own.lit w 40 20 (entCells e).toArray 1 rfl rfl (by simp [maxLen])
    simpa [EOwn] using this
  have hM := h.below hb5
  refine (storePut_any rng g b mk rs (some ⟨w.heap.size, 0, none⟩) 1 [e] _ hM.S hM.G hO5 (fun q hq h9 => by cases hq; exact Nat.lt_irrefl _ (h.S.lt h9)) (by simp; omega)).mono ?_
  intro x w' he
  obtain ⟨rs', rfl, h2, h3, _, h4⟩ := put_mine hM (Nat.le_trans hB hb5.size) he
  rw [putL_one] at h2 ⊢
  have h5 := (hb5.mono hB).trans h4
  unfold putStep at h2 ⊢
  by_cases hok : okP rng mk (states rs) e = true
  · simp only [hok, if_true] at h2 ⊢
    exact ⟨rs', rfl, h2, h3, h5⟩
  · simp only [hok] at h2 ⊢
    exact ⟨rs', rfl, h2, h3, h5⟩
end Sto
namespace storeTwiceOpen
open Vec Sto
set_option maxRecDepth 20000 in
set_option maxHeartbeats 8000000 in
theorem walk (rng : Int) (A : Option Addr) (c : Nat) (es : List Ent) (w : World) (hr : Mem.Rd w w.heap.size A (es.flatMap entCells)) (hec : es.length ≤ c) (hcc : c ≤ 8796093022208) (hd : ∀ e ∈ es, EntIn e) :
    Calls Try.prog 3 #[.int .i64 rng, .slice A es.length c] w fun e w' => e = .returned (.bool true) ∧ Below w.heap.size w w' := by
  have HR := Lib.hid hr
  have HD := Lib.hid hd
  clear hr hd
  go_enter Try.func3, Try.ntmps3
  go_wp2_with fail
  refine (storeAble_any w).mono ?_
  rintro x w1 ⟨rfl, hb1⟩
  have HB1 := Lib.hid hb1
  clear hb1
  go_wp2_with fail
  have hrd : Mem.Rd (w1.alloc (.cells (acCells ⟨0, A, c, es, col0⟩).toArray 28)) (w1.alloc (.cells (acCells ⟨0, A, c, es, col0⟩).toArray 28)).heap.size (some ⟨w1.heap.size, 0, none⟩) ([(⟨0, A, c, es, col0⟩ : Ac)].flatMap acCells) := by
    have h9 := Mem.Rd.alloc_new w1 (acCells ⟨0, A, c, es, col0⟩).toArray 28 (0, 0) rfl
    simpa using h9
  refine (much_any (some ⟨w1.heap.size, 0, none⟩) 1 [⟨0, A, c, es, col0⟩] (w1.alloc (.cells (acCells ⟨0, A, c, es, col0⟩).toArray 28)) _ hrd (by simp) (fun a ha => ?_) (Below.refl _ _)).mono ?_
  · rw [List.mem_singleton] at ha
    subst ha
    exact ⟨((HR.out.below HB1.out).more HB1.out.size).alloc (Nat.le_refl _) _ |>.more (by simp), hec, hcc, HD.out⟩
  rintro x w2 ⟨bq, rfl, hbn, hb2⟩
  have hb2' : Below w1.heap.size w1 w2 := (Reg.below_new _ _).trans (hb2.mono (by simp))
  have HB2 : Hid (Below w.heap.size w w2) := HB1.out.trans (hb2'.mono HB1.out.size)
  clear hb2 hb2' HB1 hrd
  cases bq
  case true =>
    go_wp2
    go_ret
    exact ⟨rfl, HB2.out⟩
  have hn3 : es.length ≤ 299 := by have := hbn rfl; simp [lenA] at this; omega
  clear hbn
  go_upto_region 6 with (go_at_call 11; refine (storeNew_any rng w2).mono ?_; rintro x w3 ⟨g, b, rfl, hA3, hb3, hg1, hg2⟩)
  have HM3 : Hid (Mine w.heap.size w3 g b rng col0 []) := by
    have h9 := new_mine hA3 hg1 hg2
    exact ⟨h9.S, h9.G, fun k hk => Nat.le_trans HB2.out.size (h9.a k hk)⟩
  have HB3 : Hid (Below w.heap.size w w3) := HB2.out.trans (hb3.mono HB2.out.size)
  clear hA3 hb3 hg1 hg2 HB2
  go_wp2
  go_loopw [6, 7] (TwRel w g b rng es) (fun _ t _ => es.length - (intOf t).toNat)
  case atStart => exact ⟨⟨0, [], by omega, rfl, rfl, by simp [lenS, states], fun e he => (by simp at he), HM3, HB3⟩⟩
  case round =>
    obtain ⟨k, rs, hk, rfl, rfl, hle, HN, HM, HB⟩ := hrel.out
    clear hrel HM3 HB3
    have hz := HB.out.size
    by_cases hlt : k < es.length
    · obtain ⟨bb, o, e, rfl, hb, he, hat⟩ := ent_elem HR.out hlt
      have HAT : Hid (EntAt wr bb (o + k * 20) e) := hat.below HB.out hb
      have HTK := Lib.hid (Mem.take_snoc he)
      have hbw : bb < w.heap.size := hb
      have hei := HD.out e (List.mem_of_getElem? he)
      clear hat he hb
      obtain ⟨nl, hnl⟩ : ∃ nl, lenS (states rs) = nl := ⟨_, rfl⟩
      rw [hnl] at hle ⊢
      have HPUT := Lib.hid (put_one HM.out hz e (by rw [hnl]; omega))
      have HNL := Lib.hid hnl
      clear hnl
      cases hok : okP rng col0 (states rs) e with
      | true =>
        simp only [hok, if_true] at HPUT
        go_upto_region 11 with (first | ((with_reducible refine Mem.load_agg _ _ entry_agg bb (o + k * 20) (entCells e) ?hx (entCells_length e) HAT.out.c ?_); case hx => exact rfl) | ((with_reducible refine Mem.build1_agg _ _ 20 _ Try.underlying22 entry_zero (by decide) (by decide) (entCells e) ?hra (entCells_length _) ?_); (case hra => exact rfl)) | (go_at_call 12; refine HPUT.out.mono ?_; rintro x w5 ⟨rs1, rfl, hs1, hM5, hb5⟩))
        have HM5 := Lib.hid hM5
        have HB5 : Hid (Below w.heap.size w w5) := HB.out.trans hb5
        have HS1 := Lib.hid hs1
        have HAT5 : Hid (EntAt w5 bb (o + k * 20) e) := HAT.out.below hb5 hbw
        have hl1 : lenS (states rs1) = nl + 1 := by rw [hs1]; rw [putS_len, HNL.out]
        have hno : okP rng col0 (states rs1) e = false := by rw [hs1]; exact okP_put_self
        have HNO := Lib.hid hno
        clear hM5 hb5 hs1 HPUT HAT
        obtain ⟨q1, q2, q3, q4⟩ := okP_spec hok
        have HR1 := Lib.hid q1
        have d2 : (e.rng != rng) = false := by simp [q2]
        have hkey : okS e.key := by
          have h1 := q1
          unfold rightE Vec.g3 at h1
          simp only [Bool.and_eq_true, decide_eq_true_eq] at h1
          unfold okS maxLen
          omega
        have HKEY := Lib.hid hkey
        have HL1 := Lib.hid hl1
        have d9 : (((nl + 1 : Nat) : Int) != (nl : Int) + 1) = false := by simp
        have HNK : Hid (∀ x ∈ es.take k, okP rng col0 (states rs1) x = false) := fun x hx => by rw [HS1.out]; exact okP_put (HN.out x hx)
        clear hok q1 q2 q3 q4 hkey hl1 hno
        go_upto_region 14 with (first | ((with_reducible refine Mem.load_aggG _ _ entry_agg bb (o + k * 20) (entCells e) ?hwa ?hxa (entCells_length e) HAT5.out.c ?_); ((case hwa => rfl); (case hxa => exact rfl))) | (go_at_call 13; refine (rightE_any e w5).mono ?_; rintro x w6 ⟨rfl, hb6⟩; rw [HR1.out]; have HAT6 := Lib.hid (HAT5.out.below hb6 (Nat.lt_of_lt_of_le hbw HB5.out.size)); have y1 := HAT6.out.c 1 _ rfl; have HM6 := Lib.hid (HM5.out.below hb6); have HB6 := Lib.hid (HB5.out.trans (hb6.mono HB5.out.size)); have HPUT6 := Lib.hid (put_one HM6.out HB6.out.size e (by rw [HL1.out]; omega)); simp only [HNO.out] at HPUT6; clear hb6) | ((with_reducible refine Mem.load_aggG _ _ entry_agg bb (o + k * 20) (entCells e) ?hwb ?hxb (entCells_length e) HAT6.out.c ?_); ((case hwb => rfl); (case hxb => exact rfl))) | ((with_reducible refine Mem.build1_aggG _ _ 20 _ Try.underlying22 entry_zero (by decide) (by decide) ?hwc (entCells e) ?hrc (entCells_length _) ?_); ((case hwc => rfl); (case hrc => exact rfl))))
        refine HPUT6.out.mono ?_
        rintro x w7 ⟨rs2, rfl, hs2, hM7, hb7⟩
        have hl2 : lenS (states rs2) = nl + 1 := by rw [show states rs2 = states rs1 from hs2]; exact HL1.out
        have HLEN := Lib.hid (storeLen_any hM7.S (by rw [hl2]; omega))
        rw [hl2] at HLEN
        have HM7 := Lib.hid hM7
        have HB7 : Hid (Below w.heap.size w w7) := HB6.out.trans hb7
        have HAT7 : Hid (EntAt w7 bb (o + k * 20) e) := HAT6.out.below hb7 hbw
        have HS2 := Lib.hid hs2
        clear hM7 hs2 hb7 HPUT6 HM6 HB6 HAT6 HM5 HB5 HAT5
        go_upto_region 14 with (go_at_call 14; refine HLEN.out.mono ?_; rintro x w8 ⟨rfl, hb8⟩)
        have HM8 := Lib.hid (HM7.out.below hb8)
        have HB8 : Hid (Below w.heap.size w w8) := HB7.out.trans (hb8.mono HB7.out.size)
        have HAT8 : Hid (EntAt w8 bb (o + k * 20) e) := HAT7.out.below hb8 (Nat.lt_of_lt_of_le hbw HB7.out.size)
        have hst2 : states rs2 = putS (states rs) e := by rw [show states rs2 = states rs1 from HS2.out]; exact HS1.out
        have hin : e ∈ vers (states rs2) e.key := by rw [hst2]; exact mem_put _ _
        have hl2 : lenS (states rs2) = nl + 1 := by rw [show states rs2 = states rs1 from HS2.out]; exact HL1.out
        have HVE := Lib.hid (storeVersions_any HM8.out.S HKEY.out (fun r hr => by
          have h1 : r.l.es.length ≤ lenS (states rs2) := by
            rw [← vers_mem (List.mem_map.2 ⟨r, hr, rfl⟩ : r.l ∈ states rs2) HM8.out.G.kd]
            exact vers_len _ _
          omega))
        obtain ⟨l, hl⟩ : ∃ l, vers (states rs2) e.key = l := ⟨_, rfl⟩
        rw [hl] at hin HVE
        have hll : l.length ≤ nl + 1 := by rw [← hl, ← hl2]; exact vers_len _ _
        have y6 := HAT8.out.c 6 _ rfl
        have HIN := Lib.hid hin
        have HNK2 : Hid (∀ x ∈ es.take (k + 1), okP rng col0 (states rs2) x = false) := fun x hx => by
          rw [show states rs2 = states rs1 from HS2.out]
          rw [HTK.out, List.mem_append, List.mem_singleton] at hx
          rcases hx with hx | rfl
          · exact HNK.out x hx
          · exact HNO.out
        have HL2 := Lib.hid hl2
        clear hb8 hst2 hin hl hl2 HM7 HB7 HAT7 HLEN HNK HNO HS2 HS1 HL1
        go_upto_region 17 with (go_at_call 15; refine HVE.out.mono ?_; rintro x w9 ⟨Al, cl, rfl, hO9, hF9, hb9⟩)
        have HM9 := Lib.hid (HM8.out.below hb9)
        have HB9 : Hid (Below w.heap.size w w9) := HB8.out.trans (hb9.mono HB8.out.size)
        have HAT9 : Hid (EntAt w9 bb (o + k * 20) e) := HAT8.out.below hb9 (Nat.lt_of_lt_of_le hbw HB8.out.size)
        have HO9 := Lib.hid hO9
        clear hO9 hF9 hb9 HM8 HB8 HAT8 HVE y6
        go_wp2
        go_loopw [9, 11] (FdRel w9 l e) (fun _ t _ => l.length - (intOf t).toNat)
        case atStart => exact ⟨⟨0, by omega, rfl, rfl, Below.refl _ _⟩⟩
        case round =>
          obtain ⟨j, hj, rfl, rfl, HBr⟩ := hrel.out
          clear hrel
          by_cases hlj : j < l.length
          · obtain ⟨b2, o2, x, rfl, hb2, hx, hatx⟩ := ent_elem HO9.out.rd hlj
            have HATX : Hid (EntAt wr b2 (o2 + j * 20) x) := hatx.below HBr.out hb2
            have HATE : Hid (EntAt wr bb (o + k * 20) e) := HAT9.out.below HBr.out (Nat.lt_of_lt_of_le hbw HB9.out.size)
            have hb2r : b2 < wr.heap.size := Nat.lt_of_lt_of_le hb2 HBr.out.size
            have hbbr : bb < wr.heap.size := Nat.lt_of_lt_of_le hbw (Nat.le_trans HB9.out.size HBr.out.size)
            have hst : ((l.take (j + 1)).any fun x => eqEnt x e) = (((l.take j).any fun x => eqEnt x e) || eqEnt x e) := by rw [Mem.take_snoc hx, List.any_append]; simp
            have HST := Lib.hid hst
            have hq := eql_ent x e
            clear hatx hx hst
            obtain ⟨fd, hfd⟩ : ∃ fd, (l.take j).any (fun x => eqEnt x e) = fd := ⟨_, rfl⟩
            rw [hfd] at HST ⊢
            clear hfd
            go_upto_region 20 with fail
            cases fd with
            | true =>
              refine Reg.wp_region_rel (by kernel_rfl) 111 13 rfl rfl (by kernel_rfl) (Reg.Adds) (Reg.Adds.refl) (Reg.Adds.trans)
                (fun i v u => match i with
                  | 0 => v = .bool true
                  | 1 => v = .bool true
                  | 2 => v = undef
                  | 3 => v = undef
                  | 4 => v = undef
                  | 5 => v = undef
                  | 6 => v = undef
                  | 7 => v = undef
                  | 8 => v = undef
                  | 9 => v = undef
                  | 10 => v = undef
                  | 11 => v = .bool (true || eqEnt x e)
                  | 12 => v = .bool (true || eqEnt x e)
                  | _ => True) ?_ ?_
              · refine Reg.Steps.cons ?_ (Reg.Steps.cons ?_ (Reg.Steps.cons ?_ (Reg.Steps.cons ?_ (Reg.Steps.cons ?_ (Reg.Steps.cons ?_ (Reg.Steps.cons ?_ (Reg.Steps.cons ?_ (Reg.Steps.cons ?_ (Reg.Steps.cons ?_ (Reg.Steps.cons ?_ (Reg.Steps.cons ?_ (Reg.Steps.cons ?_ (Reg.Steps.nil _)))))))))))))
                · intro val ac u hR hp ha K hK      -- 0: t91 := Op.move t9
                  have e9 : (ac.tmps[9]?).getD undef = .bool true := ha 9 (by decide)
                  clear ha hp
                  refine Reg.Op1.plain rfl ?_
                  go_wp2
                  exact ⟨rfl, hK _ _ rfl (fun j k _ _ => Reg.Adds.refl _ _ _)⟩
                · intro val ac u hR hp ha K hK      -- 1: t92 := Op.move t91
                  obtain ⟨w91, h91, r91⟩ := hp 0 (by decide)
                  have e91 : (ac.tmps[91]?).getD undef = .bool true := (ha 91 (by decide)).trans h91
                  clear h91
                  clear ha hp
                  refine Reg.Op1.plain rfl ?_
                  go_wp2
                  exact ⟨rfl, hK _ _ rfl (fun j k _ _ => Reg.Adds.refl _ _ _)⟩
                · intro val ac u hR hp ha K hK      -- 2: t93 := Op.move t10
                  obtain ⟨w92, h92, r92⟩ := hp 1 (by decide)
                  have e92 : (ac.tmps[92]?).getD undef = .bool true := (ha 92 (by decide)).trans h92
                  clear h92
                  clear ha hp
                  exact Reg.Op1.guarded rfl rfl e92 (fun h => by cases h) (fun _ => hK _ _ rfl (fun j k _ _ => Reg.Adds.refl _ _ _))
                · intro val ac u hR hp ha K hK      -- 3: t94 := Op.move t11
                  obtain ⟨w92, h92, r92⟩ := hp 1 (by decide)
                  have e92 : (ac.tmps[92]?).getD undef = .bool true := (ha 92 (by decide)).trans h92
                  clear h92
                  clear ha hp
                  exact Reg.Op1.guarded rfl rfl e92 (fun h => by cases h) (fun _ => hK _ _ rfl (fun j k _ _ => Reg.Adds.refl _ _ _))
                · intro val ac u hR hp ha K hK      -- 4: t95 := Op.indexAddr 22 t93 t94
                  obtain ⟨w92, h92, r92⟩ := hp 1 (by decide)
                  have e92 : (ac.tmps[92]?).getD undef = .bool true := (ha 92 (by decide)).trans h92
                  clear h92
                  clear ha hp
                  exact Reg.Op1.guarded rfl rfl e92 (fun h => by cases h) (fun _ => hK _ _ rfl (fun j k _ _ => Reg.Adds.refl _ _ _))
                · intro val ac u hR hp ha K hK      -- 5: t96 := Op.load 40 t95
                  obtain ⟨w92, h92, r92⟩ := hp 1 (by decide)
                  have e92 : (ac.tmps[92]?).getD undef = .bool true := (ha 92 (by decide)).trans h92
                  clear h92
                  clear ha hp
                  exact Reg.Op1.guarded rfl rfl e92 (fun h => by cases h) (fun _ => hK _ _ rfl (fun j k _ _ => Reg.Adds.refl _ _ _))
                · intro val ac u hR hp ha K hK      -- 6: t97 := Op.move t1
                  obtain ⟨w92, h92, r92⟩ := hp 1 (by decide)
                  have e92 : (ac.tmps[92]?).getD undef = .bool true := (ha 92 (by decide)).trans h92
                  clear h92
                  clear ha hp
                  exact Reg.Op1.guarded rfl rfl e92 (fun h => by cases h) (fun _ => hK _ _ rfl (fun j k _ _ => Reg.Adds.refl _ _ _))
                · intro val ac u hR hp ha K hK      -- 7: t98 := Op.move t7
                  obtain ⟨w92, h92, r92⟩ := hp 1 (by decide)
                  have e92 : (ac.tmps[92]?).getD undef = .bool true := (ha 92 (by decide)).trans h92
                  clear h92
                  clear ha hp
                  exact Reg.Op1.guarded rfl rfl e92 (fun h => by cases h) (fun _ => hK _ _ rfl (fun j k _ _ => Reg.Adds.refl _ _ _))
                · intro val ac u hR hp ha K hK      -- 8: t99 := Op.indexAddr 22 t97 t98
                  obtain ⟨w92, h92, r92⟩ := hp 1 (by decide)
                  have e92 : (ac.tmps[92]?).getD undef = .bool true := (ha 92 (by decide)).trans h92
                  clear h92
                  clear ha hp
                  exact Reg.Op1.guarded rfl rfl e92 (fun h => by cases h) (fun _ => hK _ _ rfl (fun j k _ _ => Reg.Adds.refl _ _ _))
                · intro val ac u hR hp ha K hK      -- 9: t100 := Op.load 40 t99
                  obtain ⟨w92, h92, r92⟩ := hp 1 (by decide)
                  have e92 : (ac.tmps[92]?).getD undef = .bool true := (ha 92 (by decide)).trans h92
                  clear h92
                  clear ha hp
                  exact Reg.Op1.guarded rfl rfl e92 (fun h => by cases h) (fun _ => hK _ _ rfl (fun j k _ _ => Reg.Adds.refl _ _ _))
                · intro val ac u hR hp ha K hK      -- 10: t101 := Op.binOp BinOp.eql 40 t96 t100 40
                  obtain ⟨w92, h92, r92⟩ := hp 1 (by decide)
                  have e92 : (ac.tmps[92]?).getD undef = .bool true := (ha 92 (by decide)).trans h92
                  clear h92
                  clear ha hp
                  exact Reg.Op1.guarded rfl rfl e92 (fun h => by cases h) (fun _ => hK _ _ rfl (fun j k _ _ => Reg.Adds.refl _ _ _))
                · intro val ac u hR hp ha K hK      -- 11: t102 := Op.pick t92 (const (Value.bool true)) t101
                  obtain ⟨w92, h92, r92⟩ := hp 1 (by decide)
                  have e92 : (ac.tmps[92]?).getD undef = .bool true := (ha 92 (by decide)).trans h92
                  clear h92
                  obtain ⟨w101, h101, r101⟩ := hp 10 (by decide)
                  have e101 : (ac.tmps[101]?).getD undef = undef := (ha 101 (by decide)).trans h101
                  clear h101
                  clear ha hp
                  refine Reg.Op1.plain rfl ?_
                  go_wp2
                  exact ⟨rfl, hK _ _ rfl (fun j k _ _ => Reg.Adds.refl _ _ _)⟩
                · intro val ac u hR hp ha K hK      -- 12: t9 := Op.assign t102
                  obtain ⟨w102, h102, r102⟩ := hp 11 (by decide)
                  have e102 : (ac.tmps[102]?).getD undef = .bool (true || eqEnt x e) := (ha 102 (by decide)).trans h102
                  clear h102
                  clear ha hp
                  refine Reg.Op1.plain rfl ?_
                  go_wp2
                  exact ⟨rfl, hK _ _ rfl (fun j k _ _ => Reg.Adds.refl _ _ _)⟩
              · intro val u hR H
                obtain ⟨_, hv, _⟩ := H 12 (by decide)
                have hv : val 12 = .bool (true || eqEnt x e) := hv
                have HBu : Hid (Below w9.heap.size w9 u) := HBr.out.trans (((Below.refl _ wr).drew.trans hR).mono HBr.out.size)
                simp only [List.map_cons, List.map_nil, Reg.lay, Act.put, List.setIfInBounds_toArray, List.set_cons_succ, List.set_cons_zero, Nat.reduceAdd, hv]
                clear hR H hv
                go_wp2
                go_roundw
                case rel => exact ⟨⟨j + 1, by omega, by rw [HST.out], by go_num, HBu⟩⟩
                case measure => simp [intOf]; omega
            | false =>
              refine Reg.wp_region_rel (by kernel_rfl) 111 13 rfl rfl (by kernel_rfl) (Reg.Adds) (Reg.Adds.refl) (Reg.Adds.trans)
                (fun i v u => match i with
                  | 0 => v = .bool false
                  | 1 => v = .bool false
                  | 2 => v = .slice (some ⟨b2, o2, none⟩) l.length cl
                  | 3 => v = .int .i64 j
                  | 4 => v = .pointer (some ⟨b2, o2 + j * 20, none⟩)
                  | 5 => v = .agg (entCells x).toArray
                  | 6 => v = .slice (some ⟨bb, o, none⟩) es.length c
                  | 7 => v = .int .i64 k
                  | 8 => v = .pointer (some ⟨bb, o + k * 20, none⟩)
                  | 9 => v = .agg (entCells e).toArray
                  | 10 => v = .bool (eqEnt x e)
                  | 11 => v = .bool (false || eqEnt x e)
                  | 12 => v = .bool (false || eqEnt x e)
                  | _ => True) ?_ ?_
              · refine Reg.Steps.cons ?_ (Reg.Steps.cons ?_ (Reg.Steps.cons ?_ (Reg.Steps.cons ?_ (Reg.Steps.cons ?_ (Reg.Steps.cons ?_ (Reg.Steps.cons ?_ (Reg.Steps.cons ?_ (Reg.Steps.cons ?_ (Reg.Steps.cons ?_ (Reg.Steps.cons ?_ (Reg.Steps.cons ?_ (Reg.Steps.cons ?_ (Reg.Steps.nil _)))))))))))))
                · intro val ac u hR hp ha K hK      -- 0: t91 := Op.move t9
                  have e9 : (ac.tmps[9]?).getD undef = .bool false := ha 9 (by decide)
                  clear ha hp
                  refine Reg.Op1.plain rfl ?_
                  go_wp2
                  exact ⟨rfl, hK _ _ rfl (fun j k _ _ => Reg.Adds.refl _ _ _)⟩
                · intro val ac u hR hp ha K hK      -- 1: t92 := Op.move t91
                  obtain ⟨w91, h91, r91⟩ := hp 0 (by decide)
                  have e91 : (ac.tmps[91]?).getD undef = .bool false := (ha 91 (by decide)).trans h91
                  clear h91
                  clear ha hp
                  refine Reg.Op1.plain rfl ?_
                  go_wp2
                  exact ⟨rfl, hK _ _ rfl (fun j k _ _ => Reg.Adds.refl _ _ _)⟩
                · intro val ac u hR hp ha K hK      -- 2: t93 := Op.move t10
                  have e10 : (ac.tmps[10]?).getD undef = .slice (some ⟨b2, o2, none⟩) l.length cl := ha 10 (by decide)
                  obtain ⟨w92, h92, r92⟩ := hp 1 (by decide)
                  have e92 : (ac.tmps[92]?).getD undef = .bool false := (ha 92 (by decide)).trans h92
                  clear h92
                  clear ha hp
                  refine Reg.Op1.guarded rfl rfl e92 (fun _ => Reg.Op1.plain rfl ?_) (fun h => absurd rfl h)
                  go_wp2
                  exact ⟨rfl, hK _ _ rfl (fun j k _ _ => Reg.Adds.refl _ _ _)⟩
                · intro val ac u hR hp ha K hK      -- 3: t94 := Op.move t11
                  have e11 : (ac.tmps[11]?).getD undef = .int .i64 j := ha 11 (by decide)
                  obtain ⟨w92, h92, r92⟩ := hp 1 (by decide)
                  have e92 : (ac.tmps[92]?).getD undef = .bool false := (ha 92 (by decide)).trans h92
                  clear h92
                  clear ha hp
                  refine Reg.Op1.guarded rfl rfl e92 (fun _ => Reg.Op1.plain rfl ?_) (fun h => absurd rfl h)
                  go_wp2
                  exact ⟨rfl, hK _ _ rfl (fun j k _ _ => Reg.Adds.refl _ _ _)⟩
                · intro val ac u hR hp ha K hK      -- 4: t95 := Op.indexAddr 22 t93 t94
                  obtain ⟨w93, h93, r93⟩ := hp 2 (by decide)
                  have e93 : (ac.tmps[93]?).getD undef = .slice (some ⟨b2, o2, none⟩) l.length cl := (ha 93 (by decide)).trans h93
                  clear h93
                  obtain ⟨w94, h94, r94⟩ := hp 3 (by decide)
                  have e94 : (ac.tmps[94]?).getD undef = .int .i64 j := (ha 94 (by decide)).trans h94
                  clear h94
                  obtain ⟨w92, h92, r92⟩ := hp 1 (by decide)
                  have e92 : (ac.tmps[92]?).getD undef = .bool false := (ha 92 (by decide)).trans h92
                  clear h92
                  clear ha hp
                  refine Reg.Op1.guarded rfl rfl e92 (fun _ => Reg.Op1.plain rfl ?_) (fun h => absurd rfl h)
                  go_wp2
                  exact ⟨rfl, hK _ _ rfl (fun j k _ _ => Reg.Adds.refl _ _ _)⟩
                · intro val ac u hR hp ha K hK      -- 5: t96 := Op.load 40 t95
                  obtain ⟨w95, h95, r95⟩ := hp 4 (by decide)
                  have e95 : (ac.tmps[95]?).getD undef = .pointer (some ⟨b2, o2 + j * 20, none⟩) := (ha 95 (by decide)).trans h95
                  clear h95
                  obtain ⟨w92, h92, r92⟩ := hp 1 (by decide)
                  have e92 : (ac.tmps[92]?).getD undef = .bool false := (ha 92 (by decide)).trans h92
                  clear h92
                  clear ha hp
                  refine Reg.Op1.guarded rfl rfl e92 (fun _ => Reg.Op1.plain rfl ?_) (fun h => absurd rfl h)
                  refine Mem.load_aggG _ _ entry_agg b2 (o2 + j * 20) (entCells x) (by simp [Region.wanted]) (Reg.eval_of e95) (entCells_length _) (fun q u' hu => (hR.cell (p := ⟨b2, o2 + j * 20 + q, none⟩) hb2r).trans (HATX.out.c q u' hu)) ?_
                  exact ⟨rfl, hK _ _ rfl (fun j k _ _ => Reg.Adds.refl _ _ _)⟩
                · intro val ac u hR hp ha K hK      -- 6: t97 := Op.move t1
                  have e1 : (ac.tmps[1]?).getD undef = .slice (some ⟨bb, o, none⟩) es.length c := ha 1 (by decide)
                  obtain ⟨w92, h92, r92⟩ := hp 1 (by decide)
                  have e92 : (ac.tmps[92]?).getD undef = .bool false := (ha 92 (by decide)).trans h92
                  clear h92
                  clear ha hp
                  refine Reg.Op1.guarded rfl rfl e92 (fun _ => Reg.Op1.plain rfl ?_) (fun h => absurd rfl h)
                  go_wp2
                  exact ⟨rfl, hK _ _ rfl (fun j k _ _ => Reg.Adds.refl _ _ _)⟩
                · intro val ac u hR hp ha K hK      -- 7: t98 := Op.move t7
                  have e7 : (ac.tmps[7]?).getD undef = .int .i64 k := ha 7 (by decide)
                  obtain ⟨w92, h92, r92⟩ := hp 1 (by decide)
                  have e92 : (ac.tmps[92]?).getD undef = .bool false := (ha 92 (by decide)).trans h92
                  clear h92
                  clear ha hp
                  refine Reg.Op1.guarded rfl rfl e92 (fun _ => Reg.Op1.plain rfl ?_) (fun h => absurd rfl h)
                  go_wp2
                  exact ⟨rfl, hK _ _ rfl (fun j k _ _ => Reg.Adds.refl _ _ _)⟩
                · intro val ac u hR hp ha K hK      -- 8: t99 := Op.indexAddr 22 t97 t98
                  obtain ⟨w97, h97, r97⟩ := hp 6 (by decide)
                  have e97 : (ac.tmps[97]?).getD undef = .slice (some ⟨bb, o, none⟩) es.length c := (ha 97 (by decide)).trans h97
                  clear h97
                  obtain ⟨w98, h98, r98⟩ := hp 7 (by decide)
                  have e98 : (ac.tmps[98]?).getD undef = .int .i64 k := (ha 98 (by decide)).trans h98
                  clear h98
                  obtain ⟨w92, h92, r92⟩ := hp 1 (by decide)
                  have e92 : (ac.tmps[92]?).getD undef = .bool false := (ha 92 (by decide)).trans h92
                  clear h92
                  clear ha hp
                  refine Reg.Op1.guarded rfl rfl e92 (fun _ => Reg.Op1.plain rfl ?_) (fun h => absurd rfl h)
                  go_wp2
                  exact ⟨rfl, hK _ _ rfl (fun j k _ _ => Reg.Adds.refl _ _ _)⟩
                · intro val ac u hR hp ha K hK      -- 9: t100 := Op.load 40 t99
                  obtain ⟨w99, h99, r99⟩ := hp 8 (by decide)
                  have e99 : (ac.tmps[99]?).getD undef = .pointer (some ⟨bb, o + k * 20, none⟩) := (ha 99 (by decide)).trans h99
                  clear h99
                  obtain ⟨w92, h92, r92⟩ := hp 1 (by decide)
                  have e92 : (ac.tmps[92]?).getD undef = .bool false := (ha 92 (by decide)).trans h92
                  clear h92
                  clear ha hp
                  refine Reg.Op1.guarded rfl rfl e92 (fun _ => Reg.Op1.plain rfl ?_) (fun h => absurd rfl h)
                  refine Mem.load_aggG _ _ entry_agg bb (o + k * 20) (entCells e) (by simp [Region.wanted]) (Reg.eval_of e99) (entCells_length _) (fun q u' hu => (hR.cell (p := ⟨bb, o + k * 20 + q, none⟩) hbbr).trans (HATE.out.c q u' hu)) ?_
                  exact ⟨rfl, hK _ _ rfl (fun j k _ _ => Reg.Adds.refl _ _ _)⟩
                · intro val ac u hR hp ha K hK      -- 10: t101 := Op.binOp BinOp.eql 40 t96 t100 40
                  obtain ⟨w96, h96, r96⟩ := hp 5 (by decide)
                  have e96 : (ac.tmps[96]?).getD undef = .agg (entCells x).toArray := (ha 96 (by decide)).trans h96
                  clear h96
                  obtain ⟨w100, h100, r100⟩ := hp 9 (by decide)
                  have e100 : (ac.tmps[100]?).getD undef = .agg (entCells e).toArray := (ha 100 (by decide)).trans h100
                  clear h100
                  obtain ⟨w92, h92, r92⟩ := hp 1 (by decide)
                  have e92 : (ac.tmps[92]?).getD undef = .bool false := (ha 92 (by decide)).trans h92
                  clear h92
                  clear ha hp
                  refine Reg.Op1.guarded rfl rfl e92 (fun _ => Reg.Op1.plain rfl ?_) (fun h => absurd rfl h)
                  go_wp2
                  exact ⟨rfl, hK _ _ rfl (fun j k _ _ => Reg.Adds.refl _ _ _)⟩
                · intro val ac u hR hp ha K hK      -- 11: t102 := Op.pick t92 (const (Value.bool true)) t101
                  obtain ⟨w92, h92, r92⟩ := hp 1 (by decide)
                  have e92 : (ac.tmps[92]?).getD undef = .bool false := (ha 92 (by decide)).trans h92
                  clear h92
                  obtain ⟨w101, h101, r101⟩ := hp 10 (by decide)
                  have e101 : (ac.tmps[101]?).getD undef = .bool (eqEnt x e) := (ha 101 (by decide)).trans h101
                  clear h101
                  clear ha hp
                  refine Reg.Op1.plain rfl ?_
                  go_wp2
                  exact ⟨rfl, hK _ _ rfl (fun j k _ _ => Reg.Adds.refl _ _ _)⟩
                · intro val ac u hR hp ha K hK      -- 12: t9 := Op.assign t102
                  obtain ⟨w102, h102, r102⟩ := hp 11 (by decide)
                  have e102 : (ac.tmps[102]?).getD undef = .bool (false || eqEnt x e) := (ha 102 (by decide)).trans h102
                  clear h102
                  clear ha hp
                  refine Reg.Op1.plain rfl ?_
                  go_wp2
                  exact ⟨rfl, hK _ _ rfl (fun j k _ _ => Reg.Adds.refl _ _ _)⟩
              · intro val u hR H
                obtain ⟨_, hv, _⟩ := H 12 (by decide)
                have hv : val 12 = .bool (false || eqEnt x e) := hv
                have HBu : Hid (Below w9.heap.size w9 u) := HBr.out.trans (((Below.refl _ wr).drew.trans hR).mono HBr.out.size)
                simp only [List.map_cons, List.map_nil, Reg.lay, Act.put, List.setIfInBounds_toArray, List.set_cons_succ, List.set_cons_zero, Nat.reduceAdd, hv]
                clear hR H hv
                go_wp2
                go_roundw
                case rel => exact ⟨⟨j + 1, by omega, by rw [HST.out], by go_num, HBu⟩⟩
                case measure => simp [intOf]; omega
          · obtain rfl : j = l.length := by omega
            rw [List.take_length]
            have hfd : (l.any fun x => eqEnt x e) = true := List.any_eq_true.2 ⟨e, HIN.out, eqEnt_iff.2 rfl⟩
            rw [hfd]
            go_wp2
            go_roundw
            case rel => exact ⟨⟨k + 1, rs2, by omega, by rw [HL2.out]; go_num, by go_num, by rw [HL2.out]; omega, HNK2, HM9.out.below HBr.out, HB9.out.trans (HBr.out.mono HB9.out.size)⟩⟩
            case measure => simp [intOf]; omega
      | false =>
        simp only [hok, Bool.false_eq_true, if_false] at HPUT
        go_upto_region 11 with (first | ((with_reducible refine Mem.load_agg _ _ entry_agg bb (o + k * 20) (entCells e) ?hx (entCells_length e) HAT.out.c ?_); case hx => exact rfl) | ((with_reducible refine Mem.build1_agg _ _ 20 _ Try.underlying22 entry_zero (by decide) (by decide) (entCells e) ?hra (entCells_length _) ?_); (case hra => exact rfl)) | (go_at_call 12; refine HPUT.out.mono ?_; rintro x w5 ⟨rs1, rfl, hs1, hM5, hb5⟩))
        have HM5 := Lib.hid hM5
        have HB5 : Hid (Below w.heap.size w w5) := HB.out.trans hb5
        have HS1 := Lib.hid hs1
        have HAT5 : Hid (EntAt w5 bb (o + k * 20) e) := HAT.out.below hb5 hbw
        have hl1 : lenS (states rs1) = nl + 0 := by rw [hs1]; rw [HNL.out]; rfl
        have hno : okP rng col0 (states rs1) e = false := by rw [hs1]; exact hok
        have HNO := Lib.hid hno
        clear hM5 hb5 hs1 HPUT HAT
        have HL1 := Lib.hid hl1
        have d9 : ((nl : Int) != (nl : Int)) = false := by simp
        have HPUT6 := Lib.hid (put_one HM5.out HB5.out.size e (by rw [hl1]; omega))
        simp only [hno, Bool.false_eq_true, if_false] at HPUT6
        clear hok hl1 hno
        go_upto_region 14 with (first | ((with_reducible refine Mem.load_aggG _ _ entry_agg bb (o + k * 20) (entCells e) ?hwa ?hxa (entCells_length e) HAT5.out.c ?_); ((case hwa => rfl); (case hxa => exact rfl))) | ((with_reducible refine Mem.build1_aggG _ _ 20 _ Try.underlying22 entry_zero (by decide) (by decide) ?hwc (entCells e) ?hrc (entCells_length _) ?_); ((case hwc => rfl); (case hrc => exact rfl))))
        refine HPUT6.out.mono ?_
        rintro x w7 ⟨rs2, rfl, hs2, hM7, hb7⟩
        have hl2 : lenS (states rs2) = nl := by rw [hs2]; exact HL1.out
        have HLEN := Lib.hid (storeLen_any hM7.S (by rw [hl2]; omega))
        rw [hl2] at HLEN
        have HM7 := Lib.hid hM7
        have HB7 : Hid (Below w.heap.size w w7) := HB5.out.trans hb7
        have hst2 : states rs2 = states rs := hs2.trans HS1.out
        have HNK2 : Hid (∀ x ∈ es.take (k + 1), okP rng col0 (states rs2) x = false) := fun x hx => by
          rw [hs2]
          rw [HTK.out, List.mem_append, List.mem_singleton] at hx
          rcases hx with hx | rfl
          · rw [HS1.out]; exact HN.out x hx
          · exact HNO.out
        have HL2 := Lib.hid hl2
        clear hM7 hs2 hb7 HPUT6 HM5 HB5 HAT5 hl2 hst2
        go_upto_region 14 with (go_at_call 14; refine HLEN.out.mono ?_; rintro x w8 ⟨rfl, hb8⟩)
        have HM8 := Lib.hid (HM7.out.below hb8)
        have HB8 : Hid (Below w.heap.size w w8) := HB7.out.trans (hb8.mono HB7.out.size)
        clear hb8 HLEN
        go_wp2
        go_roundw
        case rel => exact ⟨⟨k + 1, rs2, by omega, by rw [HL2.out], by go_num, by rw [HL2.out]; omega, HNK2, HM8, HB8⟩⟩
        case measure => simp [intOf]; omega
    · obtain rfl : k = es.length := by omega
      rw [List.take_length] at HN
      have hol := ents_len es
      have hoo := ents_one es
      have hrd3 := ((HR.out.below HB.out).more HB.out.size).alloc (Nat.le_refl _) (.cells #[] 40)
      have hpn := putL_none (mk := col0) HN.out
      have HPN := Lib.hid hpn
      have hlr : lenS (states rs) + es.length ≤ 1000000 := by omega
      clear hpn hle
      go_wp2_with (first | (at_builtin; refine Mem.wpList_app0 _ rfl (.tmp 106) (.tmp 107) _ rfl entries_elem (some ⟨wr.heap.size, 0, none⟩) rfl wr.heap.size A es.length c (es.flatMap entCells) rfl ?_ (Mem.Own.lit wr _ 20 #[] 0 rfl rfl (by simp [maxLen])) hrd3 hol hoo (by unfold maxLen; omega) (by omega); intro A1 c1 w4 hown hb4 hat4; have HO4 := Lib.hid hown; have HB4 : Hid (Below wr.heap.size wr w4) := (Reg.below_new _ _).trans (hb4.mono (by simp)); have HF4 : Hid (Mem.From wr.heap.size A1) := hat4.elim (fun h => by rw [h]; exact Mem.From.some_ (Nat.le_refl _)) (fun h => by rw [h]; exact Mem.From.some_ (by simp)); clear hown hb4 hat4 hrd3) | (go_at_call 12; refine (storePut_any rng g b col0 rs A1 c1 es w4 (HM.out.S.below HB4.out) HM.out.G HO4.out (fun q hq h => by have h1 := HF4.out.blk q hq; have h2 := HM.out.S.lt h; omega) hlr).mono ?_; rintro x w5 ⟨rs5, rfl, h5⟩; rw [HPN.out]))
      go_ret
      refine ⟨rfl, ?_⟩
      obtain ⟨_, _, _, hk5, _⟩ := h5
      exact (HB.out.trans (HB4.out.mono hz)).trans (hk5.below HM.out.a (Nat.le_trans hz HB4.out.size))
set_option maxRecDepth 20000 in
theorem opened {H : Type} (enc : TypeId × Value → H) (W : World) (base : Nat) (v0 v1 : Value) {d0 d1 : DataW H} {p0 p1 : List MemPlace}
    (o0 : Value.okWide Try.prog W .any base 3 v0) (o1 : Value.okWide Try.prog W .any base 22 v1)
    (k0 : DataW.Trod enc Try.prog W 0 (fun _ => true) true 3 v0 d0 p0) (k1 : DataW.Trod enc Try.prog W 0 (fun _ => true) true 22 v1 d1 p1)
    (z0 : (d0.weights Try.prog 3).all (· ≤ reachBytes) = true) (z1 : (d1.weights Try.prog 22).all (· ≤ reachBytes) = true) :
    Calls Try.prog 3 #[v0, v1] W fun e w' => e = .returned (.bool true) ∧ Below W.heap.size W w' := by
  obtain ⟨n, rfl, _⟩ := open_num o0 k0
  obtain ⟨A, c, es, rfl, h1, h2, h3, h4⟩ := open_ents o1 k1 z1
  exact walk n A c es W h3 h1 h2 h4
end storeTwiceOpen
end Go.Proofs.Ytfafehffnjbhnaa
