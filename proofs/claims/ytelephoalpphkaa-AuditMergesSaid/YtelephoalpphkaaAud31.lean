/- Merged cuts, plainly; the walk of AuditMerges. No conditions. -/
import Derived.Test.YtelephoalpphkaaAud30
set_option maxRecDepth 8000
namespace Go.Proofs.Ytelephoalpphkaa
open Go.ChangeShapes Go.WideShapes Go.ChangeAt Go.RowKit
set_option linter.unusedVariables false
set_option linter.unusedSimpArgs false
namespace Vec
theorem merge_get (a b : Vc) (d r : Nat) : (mergeL [a, b]).get d r = max (max 0 (a.get d r)) (b.get d r) := by
  match d, r with
  | 0, 0 => rfl
  | 0, 1 => rfl
  | 0, n + 2 => rfl
  | 1, 0 => rfl
  | 1, 1 => rfl
  | 1, n + 2 => rfl
  | m + 2, 0 => rfl
  | m + 2, 1 => rfl
  | m + 2, n + 2 => rfl
theorem covers_get {x y : Vc} : coversV x y = true ↔ ∀ d r, y.get d r ≤ x.get d r := by
  constructor
  · intro h d r
    simp only [coversV, covV, covP, Bool.and_eq_true, decide_eq_true_eq] at h
    match d, r with
    | 0, 0 => exact h.1.1
    | 0, 1 => exact h.1.2.1
    | 0, n + 2 => exact h.1.2.2
    | 1, 0 => exact h.2.1.1
    | 1, 1 => exact h.2.1.2.1
    | 1, n + 2 => exact h.2.1.2.2
    | m + 2, 0 => exact h.2.2.1
    | m + 2, 1 => exact h.2.2.2.1
    | m + 2, n + 2 => exact h.2.2.2.2
  · intro h
    simp only [coversV, covV, covP, Bool.and_eq_true, decide_eq_true_eq]
    exact ⟨⟨h 0 0, h 0 1, h 0 2⟩, ⟨h 1 0, h 1 1, h 1 2⟩, h 2 0, h 2 1, h 2 2⟩
theorem merge_covers (a b v : Vc) (h : coversV a v = true ∨ coversV b v = true) : coversV (mergeL [a, b]) v = true := by
  rw [covers_get]
  intro d r
  rw [merge_get]
  rcases h with h | h
  · have := covers_get.1 h d r; omega
  · have := covers_get.1 h d r; omega
theorem merge_has (a b : Vc) (d : Dt) : hasD (mergeL [a, b]) d = (hasD a d || hasD b d) := by
  unfold hasD
  rw [merge_get]
  cases chain d.dc d.rng
  · rfl
  · simp only [Bool.true_and]
    by_cases h1 : 1 ≤ d.seq
    · simp only [h1, decide_true, Bool.true_and]
      rw [Bool.eq_iff_iff]
      simp only [Bool.or_eq_true, decide_eq_true_eq]
      omega
    · simp [h1]
theorem merge_closed {a b : Vc} {es : List Ent} (ha : closedP a es = true) (hb : closedP b es = true) : closedP (mergeL [a, b]) es = true := by
  unfold closedP at *
  rw [List.all_eq_true] at *
  intro e he
  have h1 := ha e he
  have h2 := hb e he
  rw [Bool.or_eq_true] at *
  rw [merge_has]
  cases hx : hasD a (dotE e)
  · cases hy : hasD b (dotE e)
    · exact .inl rfl
    · rw [hy] at h2
      exact .inr (merge_covers a b _ (.inr (h2.resolve_left (by simp))))
  · rw [hx] at h1
    exact .inr (merge_covers a b _ (.inl (h1.resolve_left (by simp))))
theorem merge_seen {key : ByteArray} {a b : Vc} {es : List Ent} {x y : Ent} {too : Bool} (hx : SInv key a es (x, true)) (hy : SInv key (mergeL [a, b]) es (y, too)) : too = true ∧ x.st.c ≤ y.st.c ∧ hasD a (dotE x) = true ∧ x.key = key := by
  obtain ⟨h1, h2, _⟩ := hx.yes rfl
  obtain ⟨h3, h4⟩ := seenV_iff.1 h2
  have h5 : seenV key (mergeL [a, b]) x = true := seenV_iff.2 ⟨h3, by rw [merge_has, h4]; rfl⟩
  cases too with
  | true => exact ⟨rfl, (hy.yes rfl).2.2 x h1 h5, h4, h3⟩
  | false => rw [(hy.no rfl).2 x h1] at h5; cases h5
end Vec
namespace auditMergesOpen
open Vec
set_option maxRecDepth 20000 in
set_option maxHeartbeats 8000000 in
theorem walk (key : ByteArray) (va vb : Vc) (A : Option Addr) (c : Nat) (es : List Ent) (w : World) (hr : Mem.Rd w w.heap.size A (es.flatMap entCells)) (hn : es.length ≤ 8796093022208) (hd : ∀ e ∈ es, EntIn e) (hks : key.size ≤ 140737488351232) :
    Calls Try.prog 5 #[.string key, .agg (vcCells va).toArray, .agg (vcCells vb).toArray, .slice A es.length c] w fun e w' => e = .returned (.bool true) ∧ Below w.heap.size w w' := by
  have HR := Lib.hid hr
  have HD := Lib.hid hd
  clear hr hd
  go_enter Try.func5, Try.ntmps5
  go_upto_region 1 with fail
  obtain ⟨w1, hw1⟩ : ∃ z, (w.alloc (.cells (vcCells va).toArray 33)).alloc (.cells (vcCells vb).toArray 33) = z := ⟨_, rfl⟩
  have hz : (w.alloc (.cells (vcCells va).toArray 33)).heap.size = w.heap.size + 1 := Array.size_push _
  have HV1 : Hid (Vec.VBx w1 w.heap.size va) := by
    show Mem.Bx _ _ _ _ _
    rw [← hw1]
    exact Mem.Bx.below (Mem.Bx.new w 33 (vcCells va).toArray rfl rfl) (Reg.below_new _ _) (by omega)
  have HU1 : Hid (Vec.VBx w1 (w.heap.size + 1) vb) := by
    show Mem.Bx _ _ _ _ _
    rw [← hw1]
    exact Mem.Bx.new (w.alloc (.cells (vcCells va).toArray 33)) 33 (vcCells vb).toArray rfl hz
  have HB1 : Hid (Below w.heap.size w w1) := by show Below _ _ _; rw [← hw1]; exact (Reg.below_new w _).trans ((Reg.below_new _ _).mono (by omega))
  try rw [hz]
  try rw [hw1]
  clear hw1 hz
  go_wp2_with fail
  refine (auditAble_any w1).mono ?_
  rintro x w2 ⟨rfl, hb2⟩
  have HV2 : Hid (Vec.VBx w2 w.heap.size va) := HV1.out.below hb2 HV1.out.lt
  have HU2 : Hid (Vec.VBx w2 (w.heap.size + 1) vb) := HU1.out.below hb2 HU1.out.lt
  have HB2 : Hid (Below w.heap.size w w2) := HB1.out.trans (hb2.mono HB1.out.size)
  clear hb2 HV1 HB1 HU1
  go_wp2_with fail
  refine (muchA_any none 0 [] A c es w w2 (.inl rfl) HR.out (by simp) (by omega) (fun e he => by cases he) HD.out HB2.out).mono ?_
  rintro x w3 ⟨b, rfl, hbn, hb3⟩
  have HV3 : Hid (Vec.VBx w3 w.heap.size va) := HV2.out.below hb3 HV2.out.lt
  have HU3 : Hid (Vec.VBx w3 (w.heap.size + 1) vb) := HU2.out.below hb3 HU2.out.lt
  have HB3 : Hid (Below w.heap.size w w3) := HB2.out.trans (hb3.mono HB2.out.size)
  clear hb3 HV2 HB2 HU2
  by_cases hyes : b = true ∨ 1000 < key.size
  · skip
    rcases hyes with rfl | hk1
    · go_wp2
      go_ret
      exact ⟨rfl, HB3.out⟩
    · have hkd : decide ((1000 : Int) < (key.size : Int)) = true := by simp; omega
      cases b
      · go_wp2
        go_ret
        exact ⟨rfl, HB3.out⟩
      · go_wp2
        go_ret
        exact ⟨rfl, HB3.out⟩
  · obtain rfl : b = false := by cases b; rfl; exact absurd (.inl rfl) hyes
    have hkd : decide ((1000 : Int) < (key.size : Int)) = false := by simp; omega
    have hn3 : es.length ≤ 360 := by have := hbn rfl; simpa using this
    clear hyes hbn hn hks
    have hol := ents_len es
    have hoo := ents_one es
    obtain ⟨vm, hvm⟩ : ∃ z, mergeL [va, vb] = z := ⟨_, rfl⟩
    have HVMD := Lib.hid hvm
    have HLA : Hid (∀ j u, (vcCells va)[j]? = some u → w3.cell? ⟨w.heap.size, 0 + j, none⟩ = some u) := fun j u hu => by rw [Nat.zero_add]; exact HV3.out.cell hu
    have HLB : Hid (∀ j u, (vcCells vb)[j]? = some u → w3.cell? ⟨w.heap.size + 1, 0 + j, none⟩ = some u) := fun j u hu => by rw [Nat.zero_add]; exact HU3.out.cell hu
    have HMG : Hid (Calls Try.prog 19 #[.slice (some ⟨w3.heap.size, 0, none⟩) 2 2] (w3.alloc (.cells (vcCells va ++ vcCells vb).toArray 33)) fun x w' => x = .returned (.agg (vcCells vm).toArray) ∧ Below w3.heap.size w3 w') := by
      have hb8 : Below w3.heap.size w3 (w3.alloc (.cells (vcCells va ++ vcCells vb).toArray 33)) := Reg.below_new _ _
      have e1 : [va, vb].flatMap vcCells = vcCells va ++ vcCells vb := by rw [List.flatMap_cons, List.flatMap_cons, List.flatMap_nil, List.append_nil]
      have h1 := merge_any (some ⟨w3.heap.size, 0, none⟩) 2 [va, vb] (w3.heap.size + 1) (w3.alloc (.cells (vcCells va ++ vcCells vb).toArray 33)) (by rw [e1]; exact Mem.Rd.alloc_new w3 (vcCells va ++ vcCells vb).toArray _ _ rfl) (Nat.le_of_eq (Array.size_push _).symm) (by show (2 : Nat) ≤ _; decide)
      rw [hvm] at h1
      refine h1.mono ?_
      rintro x w' ⟨hx, hb⟩
      exact ⟨hx, hb8.trans (hb.mono hb8.size)⟩
    clear hvm
    go_upto_region 6 with (first
      | ((with_reducible refine Mem.load_agg _ _ vec_agg w.heap.size 0 (vcCells va) ?hx (vcCells_length _) HLA.out ?_); case hx => exact rfl)
      | ((with_reducible refine Mem.load_agg _ _ vec_agg (w.heap.size + 1) 0 (vcCells vb) ?hy (vcCells_length _) HLB.out ?_); case hy => exact rfl)
      | ((with_reducible refine Mem.build2_agg _ _ 9 _ Try.underlying75 vec_zero (by decide) (by decide) (vcCells va) (vcCells vb) ?hrZ ?hsZ (vcCells_length _) (vcCells_length _) ?_); ((case hrZ => exact rfl); (case hsZ => exact rfl)))
      | (go_at_call 19; (refine HMG.out.mono ?_); rintro x w4 ⟨rfl, hB4⟩; have HBM := Lib.hid hB4; clear hB4))
    obtain ⟨w5, hw5⟩ : ∃ z, w4.alloc (.cells #[.int .i64 vm.a.a, .int .i64 vm.a.b, .int .i64 vm.a.c, .int .i64 vm.b.a, .int .i64 vm.b.b, .int .i64 vm.b.c, .int .i64 vm.c.a, .int .i64 vm.c.b, .int .i64 vm.c.c] 33) = z := ⟨_, rfl⟩
    have hb45 : Below w4.heap.size w4 w5 := by rw [← hw5]; exact Reg.below_new _ _
    have hb35 : Below w3.heap.size w3 w5 := HBM.out.trans (hb45.mono HBM.out.size)
    have HVM : Hid (Vec.VBx w5 w4.heap.size vm) := by show Mem.Bx _ _ _ _ _; rw [← hw5]; exact Mem.Bx.new w4 33 (vcCells vm).toArray rfl rfl
    have HVA : Hid (Vec.VBx w5 w.heap.size va) := HV3.out.below hb35 HV3.out.lt
    have HVB : Hid (Vec.VBx w5 (w.heap.size + 1) vb) := HU3.out.below hb35 HU3.out.lt
    have HB5 : Hid (Below w.heap.size w w5) := HB3.out.trans (hb35.mono HB3.out.size)
    rw [hw5]
    clear hw5 hb45 hb35 HBM HMG HLA HLB HV3 HU3 HB3
    go_cut [46] (fun v wx => v = .bool false ∧ Below w5.heap.size w5 wx)
    case first =>
      have HC3 : Hid (closedP va es = true → closedP vb es = true → closedP vm es = true) := fun h1 h2 => by rw [← HVMD.out]; exact merge_closed h1 h2
      have HC30 := HC3
      cases hca : closedP va es
      · have HC1 := Lib.hid hca
        have HC2 : Hid (closedP vb es = closedP vb es) := rfl
        have HC3 : Hid (closedP vm es = closedP vm es) := rfl
        clear hca HC30
        refine Reg.wp_region_rel (by kernel_rfl) 91 20 rfl rfl (by kernel_rfl) (Reg.Adds) (Reg.Adds.refl) (Reg.Adds.trans)
          (fun i v u => match i with
            | 0 => v = .agg (vcCells va).toArray
            | 1 => ∃ s0, v = .slice (some ⟨s0, 0, none⟩) 0 0 ∧ Mem.Own u 35 20 (some ⟨s0, 0, none⟩) 0 0 []
            | 2 => v = .slice A es.length c
            | 3 => ∃ A1 c1, v = .slice A1 es.length c1 ∧ Mem.Own u 35 20 A1 es.length c1 (es.flatMap entCells)
            | 4 => v = .bool false
            | 5 => v = .bool false
            | 6 => v = undef
            | 7 => v = undef
            | 8 => v = undef
            | 9 => v = undef
            | 10 => v = undef
            | 11 => v = .bool false
            | 12 => v = .bool false
            | 13 => v = undef
            | 14 => v = undef
            | 15 => v = undef
            | 16 => v = undef
            | 17 => v = undef
            | 18 => v = undef
            | 19 => v = .bool false
            | _ => True) ?_ ?_
        · refine Reg.Steps.cons ?_ (Reg.Steps.cons ?_ (Reg.Steps.cons ?_ (Reg.Steps.cons ?_ (Reg.Steps.cons ?_ (Reg.Steps.cons ?_ (Reg.Steps.cons ?_ (Reg.Steps.cons ?_ (Reg.Steps.cons ?_ (Reg.Steps.cons ?_ (Reg.Steps.cons ?_ (Reg.Steps.cons ?_ (Reg.Steps.cons ?_ (Reg.Steps.cons ?_ (Reg.Steps.cons ?_ (Reg.Steps.cons ?_ (Reg.Steps.cons ?_ (Reg.Steps.cons ?_ (Reg.Steps.cons ?_ (Reg.Steps.cons ?_ (Reg.Steps.nil _))))))))))))))))))))
          · intro val ac u hR hp ha K hK      -- 0: t27 := Op.load 33 t5
            have e5 : (ac.tmps[5]?).getD undef = .pointer (some ⟨w.heap.size, 0, none⟩) := ha 5 (by decide)
            clear ha hp
            refine Reg.Op1.plain rfl ?_
            have hVu := HVA.out.below (w := w5.drew) hR HVA.out.lt
            refine Mem.load_agg _ _ vec_agg w.heap.size 0 (vcCells va) (Reg.eval_of e5) (vcCells_length _) (fun j u' hu => by rw [Nat.zero_add]; exact hVu.cell hu) ?_
            exact ⟨rfl, hK _ _ rfl (fun j k _ _ => Reg.Adds.refl _ _ _)⟩
          · intro val ac u hR hp ha K hK      -- 1: t28 := Op.buildSlice 23 0 #[]
            clear ha hp
            refine Reg.Op1.plain rfl ?_
            go_wp2
            exact ⟨rfl, hK _ _ ⟨u.heap.size, rfl, Mem.Own.lit u _ 20 #[] 0 rfl rfl (by simp [maxLen])⟩ (fun j k _ _ => Reg.below_new u _)⟩
          · intro val ac u hR hp ha K hK      -- 2: t29 := Op.move t3
            have e3 : (ac.tmps[3]?).getD undef = .slice A es.length c := ha 3 (by decide)
            clear ha hp
            refine Reg.Op1.plain rfl ?_
            go_wp2
            exact ⟨rfl, hK _ _ rfl (fun j k _ _ => Reg.Adds.refl _ _ _)⟩
          · intro val ac u hR hp ha K hK      -- 3: t30 := Op.call { builtin append, args := #[t28, t29], argTypes := #[23, 23] }
            obtain ⟨w28, h28, r28⟩ := hp 1 (by decide)
            have e28 : (ac.tmps[28]?).getD undef = val 1 := ha 28 (by decide)
            obtain ⟨w29, h29, r29⟩ := hp 2 (by decide)
            have e29 : (ac.tmps[29]?).getD undef = .slice A es.length c := (ha 29 (by decide)).trans h29
            clear h29
            clear ha hp
            refine Reg.Op1.plain rfl ?_
            obtain ⟨s0, hv, ho⟩ := h28
            rw [hv] at e28
            have ho' := ho.below r28 (fun q hq => ho.lt hq)
            have hbu := HB5.out.trans (((Below.refl w5.heap.size w5).drew.trans hR).mono HB5.out.size)
            refine Mem.wpList_app0 u rfl (.tmp 28) (.tmp 29) _ rfl entries_elem (some ⟨s0, 0, none⟩) (Reg.eval_of e28) w.heap.size A es.length c (es.flatMap entCells) (Reg.eval_of e29) ?_ ho' (HR.out.below hbu) hol hoo (by unfold maxLen; omega) (by omega)
            intro A' c' w' hown hbl hat
            exact ⟨rfl, hK _ _ ⟨A', c', rfl, hown⟩ (fun j k _ _ => hbl)⟩
          · intro val ac u hR hp ha K hK      -- 4: t31 := Op.call { value (Operand.func 17), args := #[t27, t30], argTypes := #[33, 23] }
            obtain ⟨w27, h27, r27⟩ := hp 0 (by decide)
            have e27 : (ac.tmps[27]?).getD undef = .agg (vcCells va).toArray := (ha 27 (by decide)).trans h27
            clear h27
            obtain ⟨w30, h30, r30⟩ := hp 3 (by decide)
            have e30 : (ac.tmps[30]?).getD undef = val 3 := ha 30 (by decide)
            clear ha hp
            refine Reg.Op1.plain rfl ?_
            obtain ⟨A1, c1, hv, ho⟩ := h30
            rw [hv] at e30
            have ho' := ho.below r30 (fun q hq => ho.lt hq)
            go_wp2_with fail
            refine (closed_any va A1 c1 es u.heap.size u ho'.rd (Nat.le_refl _) (by unfold maxLen; omega)).mono ?_
            rintro x w' ⟨rfl, hbw⟩
            rw [HC1.out]
            go_wp2_with fail
            exact ⟨rfl, hK _ _ rfl (fun j k _ _ => hbw)⟩
          · intro val ac u hR hp ha K hK      -- 5: t32 := Op.move t31
            obtain ⟨w31, h31, r31⟩ := hp 4 (by decide)
            have e31 : (ac.tmps[31]?).getD undef = .bool false := (ha 31 (by decide)).trans h31
            clear h31
            clear ha hp
            refine Reg.Op1.plain rfl ?_
            go_wp2
            exact ⟨rfl, hK _ _ rfl (fun j k _ _ => Reg.Adds.refl _ _ _)⟩
          · intro val ac u hR hp ha K hK      -- 6: t33 := Op.load 33 t6
            obtain ⟨w32, h32, r32⟩ := hp 5 (by decide)
            have e32 : (ac.tmps[32]?).getD undef = .bool false := (ha 32 (by decide)).trans h32
            clear h32
            clear ha hp
            exact Reg.Op1.guarded rfl rfl e32 (fun h => by cases h) (fun _ => hK _ _ rfl (fun j k _ _ => Reg.Adds.refl _ _ _))
          · intro val ac u hR hp ha K hK      -- 7: t34 := Op.buildSlice 23 0 #[]
            obtain ⟨w32, h32, r32⟩ := hp 5 (by decide)
            have e32 : (ac.tmps[32]?).getD undef = .bool false := (ha 32 (by decide)).trans h32
            clear h32
            clear ha hp
            exact Reg.Op1.guarded rfl rfl e32 (fun h => by cases h) (fun _ => hK _ _ rfl (fun j k _ _ => Reg.Adds.refl _ _ _))
          · intro val ac u hR hp ha K hK      -- 8: t35 := Op.move t3
            obtain ⟨w32, h32, r32⟩ := hp 5 (by decide)
            have e32 : (ac.tmps[32]?).getD undef = .bool false := (ha 32 (by decide)).trans h32
            clear h32
            clear ha hp
            exact Reg.Op1.guarded rfl rfl e32 (fun h => by cases h) (fun _ => hK _ _ rfl (fun j k _ _ => Reg.Adds.refl _ _ _))
          · intro val ac u hR hp ha K hK      -- 9: t36 := Op.call { builtin append, args := #[t34, t35], argTypes := #[23, 23] }
            obtain ⟨w32, h32, r32⟩ := hp 5 (by decide)
            have e32 : (ac.tmps[32]?).getD undef = .bool false := (ha 32 (by decide)).trans h32
            clear h32
            clear ha hp
            exact Reg.Op1.guarded rfl rfl e32 (fun h => by cases h) (fun _ => hK _ _ rfl (fun j k _ _ => Reg.Adds.refl _ _ _))
          · intro val ac u hR hp ha K hK      -- 10: t37 := Op.call { value (Operand.func 17), args := #[t33, t36], argTypes := #[33, 23] }
            obtain ⟨w32, h32, r32⟩ := hp 5 (by decide)
            have e32 : (ac.tmps[32]?).getD undef = .bool false := (ha 32 (by decide)).trans h32
            clear h32
            clear ha hp
            exact Reg.Op1.guarded rfl rfl e32 (fun h => by cases h) (fun _ => hK _ _ rfl (fun j k _ _ => Reg.Adds.refl _ _ _))
          · intro val ac u hR hp ha K hK      -- 11: t38 := Op.pick t32 t37 (const (Value.bool false))
            obtain ⟨w32, h32, r32⟩ := hp 5 (by decide)
            have e32 : (ac.tmps[32]?).getD undef = .bool false := (ha 32 (by decide)).trans h32
            clear h32
            obtain ⟨w37, h37, r37⟩ := hp 10 (by decide)
            have e37 : (ac.tmps[37]?).getD undef = undef := (ha 37 (by decide)).trans h37
            clear h37
            clear ha hp
            refine Reg.Op1.plain rfl ?_
            go_wp2
            exact ⟨rfl, hK _ _ rfl (fun j k _ _ => Reg.Adds.refl _ _ _)⟩
          · intro val ac u hR hp ha K hK      -- 12: t39 := Op.move t38
            obtain ⟨w38, h38, r38⟩ := hp 11 (by decide)
            have e38 : (ac.tmps[38]?).getD undef = .bool false := (ha 38 (by decide)).trans h38
            clear h38
            clear ha hp
            refine Reg.Op1.plain rfl ?_
            go_wp2
            exact ⟨rfl, hK _ _ rfl (fun j k _ _ => Reg.Adds.refl _ _ _)⟩
          · intro val ac u hR hp ha K hK      -- 13: t40 := Op.load 33 t9
            obtain ⟨w39, h39, r39⟩ := hp 12 (by decide)
            have e39 : (ac.tmps[39]?).getD undef = .bool false := (ha 39 (by decide)).trans h39
            clear h39
            clear ha hp
            exact Reg.Op1.guarded rfl rfl e39 (fun h => by cases h) (fun _ => hK _ _ rfl (fun j k _ _ => Reg.Adds.refl _ _ _))
          · intro val ac u hR hp ha K hK      -- 14: t41 := Op.buildSlice 23 0 #[]
            obtain ⟨w39, h39, r39⟩ := hp 12 (by decide)
            have e39 : (ac.tmps[39]?).getD undef = .bool false := (ha 39 (by decide)).trans h39
            clear h39
            clear ha hp
            exact Reg.Op1.guarded rfl rfl e39 (fun h => by cases h) (fun _ => hK _ _ rfl (fun j k _ _ => Reg.Adds.refl _ _ _))
          · intro val ac u hR hp ha K hK      -- 15: t42 := Op.move t3
            obtain ⟨w39, h39, r39⟩ := hp 12 (by decide)
            have e39 : (ac.tmps[39]?).getD undef = .bool false := (ha 39 (by decide)).trans h39
            clear h39
            clear ha hp
            exact Reg.Op1.guarded rfl rfl e39 (fun h => by cases h) (fun _ => hK _ _ rfl (fun j k _ _ => Reg.Adds.refl _ _ _))
          · intro val ac u hR hp ha K hK      -- 16: t43 := Op.call { builtin append, args := #[t41, t42], argTypes := #[23, 23] }
            obtain ⟨w39, h39, r39⟩ := hp 12 (by decide)
            have e39 : (ac.tmps[39]?).getD undef = .bool false := (ha 39 (by decide)).trans h39
            clear h39
            clear ha hp
            exact Reg.Op1.guarded rfl rfl e39 (fun h => by cases h) (fun _ => hK _ _ rfl (fun j k _ _ => Reg.Adds.refl _ _ _))
          · intro val ac u hR hp ha K hK      -- 17: t44 := Op.call { value (Operand.func 17), args := #[t40, t43], argTypes := #[33, 23] }
            obtain ⟨w39, h39, r39⟩ := hp 12 (by decide)
            have e39 : (ac.tmps[39]?).getD undef = .bool false := (ha 39 (by decide)).trans h39
            clear h39
            clear ha hp
            exact Reg.Op1.guarded rfl rfl e39 (fun h => by cases h) (fun _ => hK _ _ rfl (fun j k _ _ => Reg.Adds.refl _ _ _))
          · intro val ac u hR hp ha K hK      -- 18: t45 := Op.unOp UnOp.not 4 t44
            obtain ⟨w39, h39, r39⟩ := hp 12 (by decide)
            have e39 : (ac.tmps[39]?).getD undef = .bool false := (ha 39 (by decide)).trans h39
            clear h39
            clear ha hp
            exact Reg.Op1.guarded rfl rfl e39 (fun h => by cases h) (fun _ => hK _ _ rfl (fun j k _ _ => Reg.Adds.refl _ _ _))
          · intro val ac u hR hp ha K hK      -- 19: t46 := Op.pick t39 t45 (const (Value.bool false))
            obtain ⟨w39, h39, r39⟩ := hp 12 (by decide)
            have e39 : (ac.tmps[39]?).getD undef = .bool false := (ha 39 (by decide)).trans h39
            clear h39
            obtain ⟨w45, h45, r45⟩ := hp 18 (by decide)
            have e45 : (ac.tmps[45]?).getD undef = undef := (ha 45 (by decide)).trans h45
            clear h45
            clear ha hp
            refine Reg.Op1.plain rfl ?_
            go_wp2
            exact ⟨rfl, hK _ _ rfl (fun j k _ _ => Reg.Adds.refl _ _ _)⟩
        · intro val u hR H
          obtain ⟨_, hv, _⟩ := H 19 (by decide)
          have hv : val 19 = .bool false := hv
          have HKu : Hid (Below w5.heap.size w5 u) := (Below.refl _ w5).drew.trans hR
          simp only [List.map_cons, List.map_nil, Reg.lay, Act.put, List.setIfInBounds_toArray, List.set_cons_succ, List.set_cons_zero, Nat.reduceAdd, hv]
          clear hR H hv
          go_wp2
          go_meet
          case rel => exact ⟨rfl, HKu.out⟩
      · cases hcb : closedP vb es
        · have HC1 := Lib.hid hca
          have HC2 := Lib.hid hcb
          have HC3 : Hid (closedP vm es = closedP vm es) := rfl
          clear hca hcb HC30
          refine Reg.wp_region_rel (by kernel_rfl) 91 20 rfl rfl (by kernel_rfl) (Reg.Adds) (Reg.Adds.refl) (Reg.Adds.trans)
            (fun i v u => match i with
              | 0 => v = .agg (vcCells va).toArray
              | 1 => ∃ s0, v = .slice (some ⟨s0, 0, none⟩) 0 0 ∧ Mem.Own u 35 20 (some ⟨s0, 0, none⟩) 0 0 []
              | 2 => v = .slice A es.length c
              | 3 => ∃ A1 c1, v = .slice A1 es.length c1 ∧ Mem.Own u 35 20 A1 es.length c1 (es.flatMap entCells)
              | 4 => v = .bool true
              | 5 => v = .bool true
              | 6 => v = .agg (vcCells vb).toArray
              | 7 => ∃ s0, v = .slice (some ⟨s0, 0, none⟩) 0 0 ∧ Mem.Own u 35 20 (some ⟨s0, 0, none⟩) 0 0 []
              | 8 => v = .slice A es.length c
              | 9 => ∃ A1 c1, v = .slice A1 es.length c1 ∧ Mem.Own u 35 20 A1 es.length c1 (es.flatMap entCells)
              | 10 => v = .bool false
              | 11 => v = .bool false
              | 12 => v = .bool false
              | 13 => v = undef
              | 14 => v = undef
              | 15 => v = undef
              | 16 => v = undef
              | 17 => v = undef
              | 18 => v = undef
              | 19 => v = .bool false
              | _ => True) ?_ ?_
          · refine Reg.Steps.cons ?_ (Reg.Steps.cons ?_ (Reg.Steps.cons ?_ (Reg.Steps.cons ?_ (Reg.Steps.cons ?_ (Reg.Steps.cons ?_ (Reg.Steps.cons ?_ (Reg.Steps.cons ?_ (Reg.Steps.cons ?_ (Reg.Steps.cons ?_ (Reg.Steps.cons ?_ (Reg.Steps.cons ?_ (Reg.Steps.cons ?_ (Reg.Steps.cons ?_ (Reg.Steps.cons ?_ (Reg.Steps.cons ?_ (Reg.Steps.cons ?_ (Reg.Steps.cons ?_ (Reg.Steps.cons ?_ (Reg.Steps.cons ?_ (Reg.Steps.nil _))))))))))))))))))))
            · intro val ac u hR hp ha K hK      -- 0: t27 := Op.load 33 t5
              have e5 : (ac.tmps[5]?).getD undef = .pointer (some ⟨w.heap.size, 0, none⟩) := ha 5 (by decide)
              clear ha hp
              refine Reg.Op1.plain rfl ?_
              have hVu := HVA.out.below (w := w5.drew) hR HVA.out.lt
              refine Mem.load_agg _ _ vec_agg w.heap.size 0 (vcCells va) (Reg.eval_of e5) (vcCells_length _) (fun j u' hu => by rw [Nat.zero_add]; exact hVu.cell hu) ?_
              exact ⟨rfl, hK _ _ rfl (fun j k _ _ => Reg.Adds.refl _ _ _)⟩
            · intro val ac u hR hp ha K hK      -- 1: t28 := Op.buildSlice 23 0 #[]
              clear ha hp
              refine Reg.Op1.plain rfl ?_
              go_wp2
              exact ⟨rfl, hK _ _ ⟨u.heap.size, rfl, Mem.Own.lit u _ 20 #[] 0 rfl rfl (by simp [maxLen])⟩ (fun j k _ _ => Reg.below_new u _)⟩
            · intro val ac u hR hp ha K hK      -- 2: t29 := Op.move t3
              have e3 : (ac.tmps[3]?).getD undef = .slice A es.length c := ha 3 (by decide)
              clear ha hp
              refine Reg.Op1.plain rfl ?_
              go_wp2
              exact ⟨rfl, hK _ _ rfl (fun j k _ _ => Reg.Adds.refl _ _ _)⟩
            · intro val ac u hR hp ha K hK      -- 3: t30 := Op.call { builtin append, args := #[t28, t29], argTypes := #[23, 23] }
              obtain ⟨w28, h28, r28⟩ := hp 1 (by decide)
              have e28 : (ac.tmps[28]?).getD undef = val 1 := ha 28 (by decide)
              obtain ⟨w29, h29, r29⟩ := hp 2 (by decide)
              have e29 : (ac.tmps[29]?).getD undef = .slice A es.length c := (ha 29 (by decide)).trans h29
              clear h29
              clear ha hp
              refine Reg.Op1.plain rfl ?_
              obtain ⟨s0, hv, ho⟩ := h28
              rw [hv] at e28
              have ho' := ho.below r28 (fun q hq => ho.lt hq)
              have hbu := HB5.out.trans (((Below.refl w5.heap.size w5).drew.trans hR).mono HB5.out.size)
              refine Mem.wpList_app0 u rfl (.tmp 28) (.tmp 29) _ rfl entries_elem (some ⟨s0, 0, none⟩) (Reg.eval_of e28) w.heap.size A es.length c (es.flatMap entCells) (Reg.eval_of e29) ?_ ho' (HR.out.below hbu) hol hoo (by unfold maxLen; omega) (by omega)
              intro A' c' w' hown hbl hat
              exact ⟨rfl, hK _ _ ⟨A', c', rfl, hown⟩ (fun j k _ _ => hbl)⟩
            · intro val ac u hR hp ha K hK      -- 4: t31 := Op.call { value (Operand.func 17), args := #[t27, t30], argTypes := #[33, 23] }
              obtain ⟨w27, h27, r27⟩ := hp 0 (by decide)
              have e27 : (ac.tmps[27]?).getD undef = .agg (vcCells va).toArray := (ha 27 (by decide)).trans h27
              clear h27
              obtain ⟨w30, h30, r30⟩ := hp 3 (by decide)
              have e30 : (ac.tmps[30]?).getD undef = val 3 := ha 30 (by decide)
              clear ha hp
              refine Reg.Op1.plain rfl ?_
              obtain ⟨A1, c1, hv, ho⟩ := h30
              rw [hv] at e30
              have ho' := ho.below r30 (fun q hq => ho.lt hq)
              go_wp2_with fail
              refine (closed_any va A1 c1 es u.heap.size u ho'.rd (Nat.le_refl _) (by unfold maxLen; omega)).mono ?_
              rintro x w' ⟨rfl, hbw⟩
              rw [HC1.out]
              go_wp2_with fail
              exact ⟨rfl, hK _ _ rfl (fun j k _ _ => hbw)⟩
            · intro val ac u hR hp ha K hK      -- 5: t32 := Op.move t31
              obtain ⟨w31, h31, r31⟩ := hp 4 (by decide)
              have e31 : (ac.tmps[31]?).getD undef = .bool true := (ha 31 (by decide)).trans h31
              clear h31
              clear ha hp
              refine Reg.Op1.plain rfl ?_
              go_wp2
              exact ⟨rfl, hK _ _ rfl (fun j k _ _ => Reg.Adds.refl _ _ _)⟩
            · intro val ac u hR hp ha K hK      -- 6: t33 := Op.load 33 t6
              have e6 : (ac.tmps[6]?).getD undef = .pointer (some ⟨w.heap.size + 1, 0, none⟩) := ha 6 (by decide)
              obtain ⟨w32, h32, r32⟩ := hp 5 (by decide)
              have e32 : (ac.tmps[32]?).getD undef = .bool true := (ha 32 (by decide)).trans h32
              clear h32
              clear ha hp
              refine Reg.Op1.guarded rfl rfl e32 (fun _ => Reg.Op1.plain rfl ?_) (fun h => absurd rfl h)
              have hVu := HVB.out.below (w := w5.drew) hR HVB.out.lt
              refine Mem.load_aggG _ _ vec_agg (w.heap.size + 1) 0 (vcCells vb) (by simp [Region.wanted]) (Reg.eval_of e6) (vcCells_length _) (fun j u' hu => by rw [Nat.zero_add]; exact hVu.cell hu) ?_
              exact ⟨rfl, hK _ _ rfl (fun j k _ _ => Reg.Adds.refl _ _ _)⟩
            · intro val ac u hR hp ha K hK      -- 7: t34 := Op.buildSlice 23 0 #[]
              obtain ⟨w32, h32, r32⟩ := hp 5 (by decide)
              have e32 : (ac.tmps[32]?).getD undef = .bool true := (ha 32 (by decide)).trans h32
              clear h32
              clear ha hp
              refine Reg.Op1.guarded rfl rfl e32 (fun _ => Reg.Op1.plain rfl ?_) (fun h => absurd rfl h)
              go_wp2
              exact ⟨rfl, hK _ _ ⟨u.heap.size, rfl, Mem.Own.lit u _ 20 #[] 0 rfl rfl (by simp [maxLen])⟩ (fun j k _ _ => Reg.below_new u _)⟩
            · intro val ac u hR hp ha K hK      -- 8: t35 := Op.move t3
              have e3 : (ac.tmps[3]?).getD undef = .slice A es.length c := ha 3 (by decide)
              obtain ⟨w32, h32, r32⟩ := hp 5 (by decide)
              have e32 : (ac.tmps[32]?).getD undef = .bool true := (ha 32 (by decide)).trans h32
              clear h32
              clear ha hp
              refine Reg.Op1.guarded rfl rfl e32 (fun _ => Reg.Op1.plain rfl ?_) (fun h => absurd rfl h)
              go_wp2
              exact ⟨rfl, hK _ _ rfl (fun j k _ _ => Reg.Adds.refl _ _ _)⟩
            · intro val ac u hR hp ha K hK      -- 9: t36 := Op.call { builtin append, args := #[t34, t35], argTypes := #[23, 23] }
              obtain ⟨w34, h34, r34⟩ := hp 7 (by decide)
              have e34 : (ac.tmps[34]?).getD undef = val 7 := ha 34 (by decide)
              obtain ⟨w35, h35, r35⟩ := hp 8 (by decide)
              have e35 : (ac.tmps[35]?).getD undef = .slice A es.length c := (ha 35 (by decide)).trans h35
              clear h35
              obtain ⟨w32, h32, r32⟩ := hp 5 (by decide)
              have e32 : (ac.tmps[32]?).getD undef = .bool true := (ha 32 (by decide)).trans h32
              clear h32
              clear ha hp
              refine Reg.Op1.guarded rfl rfl e32 (fun _ => Reg.Op1.plain rfl ?_) (fun h => absurd rfl h)
              obtain ⟨s0, hv, ho⟩ := h34
              rw [hv] at e34
              have ho' := ho.below r34 (fun q hq => ho.lt hq)
              have hbu := HB5.out.trans (((Below.refl w5.heap.size w5).drew.trans hR).mono HB5.out.size)
              refine Mem.wpList_app0 u (by simp [Region.wanted]) (.tmp 34) (.tmp 35) _ rfl entries_elem (some ⟨s0, 0, none⟩) (Reg.eval_of e34) w.heap.size A es.length c (es.flatMap entCells) (Reg.eval_of e35) ?_ ho' (HR.out.below hbu) hol hoo (by unfold maxLen; omega) (by omega)
              intro A' c' w' hown hbl hat
              exact ⟨rfl, hK _ _ ⟨A', c', rfl, hown⟩ (fun j k _ _ => hbl)⟩
            · intro val ac u hR hp ha K hK      -- 10: t37 := Op.call { value (Operand.func 17), args := #[t33, t36], argTypes := #[33, 23] }
              obtain ⟨w33, h33, r33⟩ := hp 6 (by decide)
              have e33 : (ac.tmps[33]?).getD undef = .agg (vcCells vb).toArray := (ha 33 (by decide)).trans h33
              clear h33
              obtain ⟨w36, h36, r36⟩ := hp 9 (by decide)
              have e36 : (ac.tmps[36]?).getD undef = val 9 := ha 36 (by decide)
              obtain ⟨w32, h32, r32⟩ := hp 5 (by decide)
              have e32 : (ac.tmps[32]?).getD undef = .bool true := (ha 32 (by decide)).trans h32
              clear h32
              clear ha hp
              refine Reg.Op1.guarded rfl rfl e32 (fun _ => Reg.Op1.plain rfl ?_) (fun h => absurd rfl h)
              obtain ⟨A1, c1, hv, ho⟩ := h36
              rw [hv] at e36
              have ho' := ho.below r36 (fun q hq => ho.lt hq)
              go_wp2_with fail
              refine (closed_any vb A1 c1 es u.heap.size u ho'.rd (Nat.le_refl _) (by unfold maxLen; omega)).mono ?_
              rintro x w' ⟨rfl, hbw⟩
              rw [HC2.out]
              go_wp2_with fail
              exact ⟨rfl, hK _ _ rfl (fun j k _ _ => hbw)⟩
            · intro val ac u hR hp ha K hK      -- 11: t38 := Op.pick t32 t37 (const (Value.bool false))
              obtain ⟨w32, h32, r32⟩ := hp 5 (by decide)
              have e32 : (ac.tmps[32]?).getD undef = .bool true := (ha 32 (by decide)).trans h32
              clear h32
              obtain ⟨w37, h37, r37⟩ := hp 10 (by decide)
              have e37 : (ac.tmps[37]?).getD undef = .bool false := (ha 37 (by decide)).trans h37
              clear h37
              clear ha hp
              refine Reg.Op1.plain rfl ?_
              go_wp2
              exact ⟨rfl, hK _ _ rfl (fun j k _ _ => Reg.Adds.refl _ _ _)⟩
            · intro val ac u hR hp ha K hK      -- 12: t39 := Op.move t38
              obtain ⟨w38, h38, r38⟩ := hp 11 (by decide)
              have e38 : (ac.tmps[38]?).getD undef = .bool false := (ha 38 (by decide)).trans h38
              clear h38
              clear ha hp
              refine Reg.Op1.plain rfl ?_
              go_wp2
              exact ⟨rfl, hK _ _ rfl (fun j k _ _ => Reg.Adds.refl _ _ _)⟩
            · intro val ac u hR hp ha K hK      -- 13: t40 := Op.load 33 t9
              obtain ⟨w39, h39, r39⟩ := hp 12 (by decide)
              have e39 : (ac.tmps[39]?).getD undef = .bool false := (ha 39 (by decide)).trans h39
              clear h39
              clear ha hp
              exact Reg.Op1.guarded rfl rfl e39 (fun h => by cases h) (fun _ => hK _ _ rfl (fun j k _ _ => Reg.Adds.refl _ _ _))
            · intro val ac u hR hp ha K hK      -- 14: t41 := Op.buildSlice 23 0 #[]
              obtain ⟨w39, h39, r39⟩ := hp 12 (by decide)
              have e39 : (ac.tmps[39]?).getD undef = .bool false := (ha 39 (by decide)).trans h39
              clear h39
              clear ha hp
              exact Reg.Op1.guarded rfl rfl e39 (fun h => by cases h) (fun _ => hK _ _ rfl (fun j k _ _ => Reg.Adds.refl _ _ _))
            · intro val ac u hR hp ha K hK      -- 15: t42 := Op.move t3
              obtain ⟨w39, h39, r39⟩ := hp 12 (by decide)
              have e39 : (ac.tmps[39]?).getD undef = .bool false := (ha 39 (by decide)).trans h39
              clear h39
              clear ha hp
              exact Reg.Op1.guarded rfl rfl e39 (fun h => by cases h) (fun _ => hK _ _ rfl (fun j k _ _ => Reg.Adds.refl _ _ _))
            · intro val ac u hR hp ha K hK      -- 16: t43 := Op.call { builtin append, args := #[t41, t42], argTypes := #[23, 23] }
              obtain ⟨w39, h39, r39⟩ := hp 12 (by decide)
              have e39 : (ac.tmps[39]?).getD undef = .bool false := (ha 39 (by decide)).trans h39
              clear h39
              clear ha hp
              exact Reg.Op1.guarded rfl rfl e39 (fun h => by cases h) (fun _ => hK _ _ rfl (fun j k _ _ => Reg.Adds.refl _ _ _))
            · intro val ac u hR hp ha K hK      -- 17: t44 := Op.call { value (Operand.func 17), args := #[t40, t43], argTypes := #[33, 23] }
              obtain ⟨w39, h39, r39⟩ := hp 12 (by decide)
              have e39 : (ac.tmps[39]?).getD undef = .bool false := (ha 39 (by decide)).trans h39
              clear h39
              clear ha hp
              exact Reg.Op1.guarded rfl rfl e39 (fun h => by cases h) (fun _ => hK _ _ rfl (fun j k _ _ => Reg.Adds.refl _ _ _))
            · intro val ac u hR hp ha K hK      -- 18: t45 := Op.unOp UnOp.not 4 t44
              obtain ⟨w39, h39, r39⟩ := hp 12 (by decide)
              have e39 : (ac.tmps[39]?).getD undef = .bool false := (ha 39 (by decide)).trans h39
              clear h39
              clear ha hp
              exact Reg.Op1.guarded rfl rfl e39 (fun h => by cases h) (fun _ => hK _ _ rfl (fun j k _ _ => Reg.Adds.refl _ _ _))
            · intro val ac u hR hp ha K hK      -- 19: t46 := Op.pick t39 t45 (const (Value.bool false))
              obtain ⟨w39, h39, r39⟩ := hp 12 (by decide)
              have e39 : (ac.tmps[39]?).getD undef = .bool false := (ha 39 (by decide)).trans h39
              clear h39
              obtain ⟨w45, h45, r45⟩ := hp 18 (by decide)
              have e45 : (ac.tmps[45]?).getD undef = undef := (ha 45 (by decide)).trans h45
              clear h45
              clear ha hp
              refine Reg.Op1.plain rfl ?_
              go_wp2
              exact ⟨rfl, hK _ _ rfl (fun j k _ _ => Reg.Adds.refl _ _ _)⟩
          · intro val u hR H
            obtain ⟨_, hv, _⟩ := H 19 (by decide)
            have hv : val 19 = .bool false := hv
            have HKu : Hid (Below w5.heap.size w5 u) := (Below.refl _ w5).drew.trans hR
            simp only [List.map_cons, List.map_nil, Reg.lay, Act.put, List.setIfInBounds_toArray, List.set_cons_succ, List.set_cons_zero, Nat.reduceAdd, hv]
            clear hR H hv
            go_wp2
            go_meet
            case rel => exact ⟨rfl, HKu.out⟩
        · have HC1 := Lib.hid hca
          have HC2 := Lib.hid hcb
          have HC3 := Lib.hid (HC30.out hca hcb)
          clear hca hcb HC30
          refine Reg.wp_region_rel (by kernel_rfl) 91 20 rfl rfl (by kernel_rfl) (Reg.Adds) (Reg.Adds.refl) (Reg.Adds.trans)
            (fun i v u => match i with
              | 0 => v = .agg (vcCells va).toArray
              | 1 => ∃ s0, v = .slice (some ⟨s0, 0, none⟩) 0 0 ∧ Mem.Own u 35 20 (some ⟨s0, 0, none⟩) 0 0 []
              | 2 => v = .slice A es.length c
              | 3 => ∃ A1 c1, v = .slice A1 es.length c1 ∧ Mem.Own u 35 20 A1 es.length c1 (es.flatMap entCells)
              | 4 => v = .bool true
              | 5 => v = .bool true
              | 6 => v = .agg (vcCells vb).toArray
              | 7 => ∃ s0, v = .slice (some ⟨s0, 0, none⟩) 0 0 ∧ Mem.Own u 35 20 (some ⟨s0, 0, none⟩) 0 0 []
              | 8 => v = .slice A es.length c
              | 9 => ∃ A1 c1, v = .slice A1 es.length c1 ∧ Mem.Own u 35 20 A1 es.length c1 (es.flatMap entCells)
              | 10 => v = .bool true
              | 11 => v = .bool true
              | 12 => v = .bool true
              | 13 => v = .agg (vcCells vm).toArray
              | 14 => ∃ s0, v = .slice (some ⟨s0, 0, none⟩) 0 0 ∧ Mem.Own u 35 20 (some ⟨s0, 0, none⟩) 0 0 []
              | 15 => v = .slice A es.length c
              | 16 => ∃ A1 c1, v = .slice A1 es.length c1 ∧ Mem.Own u 35 20 A1 es.length c1 (es.flatMap entCells)
              | 17 => v = .bool true
              | 18 => v = .bool false
              | 19 => v = .bool false
              | _ => True) ?_ ?_
          · refine Reg.Steps.cons ?_ (Reg.Steps.cons ?_ (Reg.Steps.cons ?_ (Reg.Steps.cons ?_ (Reg.Steps.cons ?_ (Reg.Steps.cons ?_ (Reg.Steps.cons ?_ (Reg.Steps.cons ?_ (Reg.Steps.cons ?_ (Reg.Steps.cons ?_ (Reg.Steps.cons ?_ (Reg.Steps.cons ?_ (Reg.Steps.cons ?_ (Reg.Steps.cons ?_ (Reg.Steps.cons ?_ (Reg.Steps.cons ?_ (Reg.Steps.cons ?_ (Reg.Steps.cons ?_ (Reg.Steps.cons ?_ (Reg.Steps.cons ?_ (Reg.Steps.nil _))))))))))))))))))))
            · intro val ac u hR hp ha K hK      -- 0: t27 := Op.load 33 t5
              have e5 : (ac.tmps[5]?).getD undef = .pointer (some ⟨w.heap.size, 0, none⟩) := ha 5 (by decide)
              clear ha hp
              refine Reg.Op1.plain rfl ?_
              have hVu := HVA.out.below (w := w5.drew) hR HVA.out.lt
              refine Mem.load_agg _ _ vec_agg w.heap.size 0 (vcCells va) (Reg.eval_of e5) (vcCells_length _) (fun j u' hu => by rw [Nat.zero_add]; exact hVu.cell hu) ?_
              exact ⟨rfl, hK _ _ rfl (fun j k _ _ => Reg.Adds.refl _ _ _)⟩
            · intro val ac u hR hp ha K hK      -- 1: t28 := Op.buildSlice 23 0 #[]
              clear ha hp
              refine Reg.Op1.plain rfl ?_
              go_wp2
              exact ⟨rfl, hK _ _ ⟨u.heap.size, rfl, Mem.Own.lit u _ 20 #[] 0 rfl rfl (by simp [maxLen])⟩ (fun j k _ _ => Reg.below_new u _)⟩
            · intro val ac u hR hp ha K hK      -- 2: t29 := Op.move t3
              have e3 : (ac.tmps[3]?).getD undef = .slice A es.length c := ha 3 (by decide)
              clear ha hp
              refine Reg.Op1.plain rfl ?_
              go_wp2
              exact ⟨rfl, hK _ _ rfl (fun j k _ _ => Reg.Adds.refl _ _ _)⟩
            · intro val ac u hR hp ha K hK      -- 3: t30 := Op.call { builtin append, args := #[t28, t29], argTypes := #[23, 23] }
              obtain ⟨w28, h28, r28⟩ := hp 1 (by decide)
              have e28 : (ac.tmps[28]?).getD undef = val 1 := ha 28 (by decide)
              obtain ⟨w29, h29, r29⟩ := hp 2 (by decide)
              have e29 : (ac.tmps[29]?).getD undef = .slice A es.length c := (ha 29 (by decide)).trans h29
              clear h29
              clear ha hp
              refine Reg.Op1.plain rfl ?_
              obtain ⟨s0, hv, ho⟩ := h28
              rw [hv] at e28
              have ho' := ho.below r28 (fun q hq => ho.lt hq)
              have hbu := HB5.out.trans (((Below.refl w5.heap.size w5).drew.trans hR).mono HB5.out.size)
              refine Mem.wpList_app0 u rfl (.tmp 28) (.tmp 29) _ rfl entries_elem (some ⟨s0, 0, none⟩) (Reg.eval_of e28) w.heap.size A es.length c (es.flatMap entCells) (Reg.eval_of e29) ?_ ho' (HR.out.below hbu) hol hoo (by unfold maxLen; omega) (by omega)
              intro A' c' w' hown hbl hat
              exact ⟨rfl, hK _ _ ⟨A', c', rfl, hown⟩ (fun j k _ _ => hbl)⟩
            · intro val ac u hR hp ha K hK      -- 4: t31 := Op.call { value (Operand.func 17), args := #[t27, t30], argTypes := #[33, 23] }
              obtain ⟨w27, h27, r27⟩ := hp 0 (by decide)
              have e27 : (ac.tmps[27]?).getD undef = .agg (vcCells va).toArray := (ha 27 (by decide)).trans h27
              clear h27
              obtain ⟨w30, h30, r30⟩ := hp 3 (by decide)
              have e30 : (ac.tmps[30]?).getD undef = val 3 := ha 30 (by decide)
              clear ha hp
              refine Reg.Op1.plain rfl ?_
              obtain ⟨A1, c1, hv, ho⟩ := h30
              rw [hv] at e30
              have ho' := ho.below r30 (fun q hq => ho.lt hq)
              go_wp2_with fail
              refine (closed_any va A1 c1 es u.heap.size u ho'.rd (Nat.le_refl _) (by unfold maxLen; omega)).mono ?_
              rintro x w' ⟨rfl, hbw⟩
              rw [HC1.out]
              go_wp2_with fail
              exact ⟨rfl, hK _ _ rfl (fun j k _ _ => hbw)⟩
            · intro val ac u hR hp ha K hK      -- 5: t32 := Op.move t31
              obtain ⟨w31, h31, r31⟩ := hp 4 (by decide)
              have e31 : (ac.tmps[31]?).getD undef = .bool true := (ha 31 (by decide)).trans h31
              clear h31
              clear ha hp
              refine Reg.Op1.plain rfl ?_
              go_wp2
              exact ⟨rfl, hK _ _ rfl (fun j k _ _ => Reg.Adds.refl _ _ _)⟩
            · intro val ac u hR hp ha K hK      -- 6: t33 := Op.load 33 t6
              have e6 : (ac.tmps[6]?).getD undef = .pointer (some ⟨w.heap.size + 1, 0, none⟩) := ha 6 (by decide)
              obtain ⟨w32, h32, r32⟩ := hp 5 (by decide)
              have e32 : (ac.tmps[32]?).getD undef = .bool true := (ha 32 (by decide)).trans h32
              clear h32
              clear ha hp
              refine Reg.Op1.guarded rfl rfl e32 (fun _ => Reg.Op1.plain rfl ?_) (fun h => absurd rfl h)
              have hVu := HVB.out.below (w := w5.drew) hR HVB.out.lt
              refine Mem.load_aggG _ _ vec_agg (w.heap.size + 1) 0 (vcCells vb) (by simp [Region.wanted]) (Reg.eval_of e6) (vcCells_length _) (fun j u' hu => by rw [Nat.zero_add]; exact hVu.cell hu) ?_
              exact ⟨rfl, hK _ _ rfl (fun j k _ _ => Reg.Adds.refl _ _ _)⟩
            · intro val ac u hR hp ha K hK      -- 7: t34 := Op.buildSlice 23 0 #[]
              obtain ⟨w32, h32, r32⟩ := hp 5 (by decide)
              have e32 : (ac.tmps[32]?).getD undef = .bool true := (ha 32 (by decide)).trans h32
              clear h32
              clear ha hp
              refine Reg.Op1.guarded rfl rfl e32 (fun _ => Reg.Op1.plain rfl ?_) (fun h => absurd rfl h)
              go_wp2
              exact ⟨rfl, hK _ _ ⟨u.heap.size, rfl, Mem.Own.lit u _ 20 #[] 0 rfl rfl (by simp [maxLen])⟩ (fun j k _ _ => Reg.below_new u _)⟩
            · intro val ac u hR hp ha K hK      -- 8: t35 := Op.move t3
              have e3 : (ac.tmps[3]?).getD undef = .slice A es.length c := ha 3 (by decide)
              obtain ⟨w32, h32, r32⟩ := hp 5 (by decide)
              have e32 : (ac.tmps[32]?).getD undef = .bool true := (ha 32 (by decide)).trans h32
              clear h32
              clear ha hp
              refine Reg.Op1.guarded rfl rfl e32 (fun _ => Reg.Op1.plain rfl ?_) (fun h => absurd rfl h)
              go_wp2
              exact ⟨rfl, hK _ _ rfl (fun j k _ _ => Reg.Adds.refl _ _ _)⟩
            · intro val ac u hR hp ha K hK      -- 9: t36 := Op.call { builtin append, args := #[t34, t35], argTypes := #[23, 23] }
              obtain ⟨w34, h34, r34⟩ := hp 7 (by decide)
              have e34 : (ac.tmps[34]?).getD undef = val 7 := ha 34 (by decide)
              obtain ⟨w35, h35, r35⟩ := hp 8 (by decide)
              have e35 : (ac.tmps[35]?).getD undef = .slice A es.length c := (ha 35 (by decide)).trans h35
              clear h35
              obtain ⟨w32, h32, r32⟩ := hp 5 (by decide)
              have e32 : (ac.tmps[32]?).getD undef = .bool true := (ha 32 (by decide)).trans h32
              clear h32
              clear ha hp
              refine Reg.Op1.guarded rfl rfl e32 (fun _ => Reg.Op1.plain rfl ?_) (fun h => absurd rfl h)
              obtain ⟨s0, hv, ho⟩ := h34
              rw [hv] at e34
              have ho' := ho.below r34 (fun q hq => ho.lt hq)
              have hbu := HB5.out.trans (((Below.refl w5.heap.size w5).drew.trans hR).mono HB5.out.size)
              refine Mem.wpList_app0 u (by simp [Region.wanted]) (.tmp 34) (.tmp 35) _ rfl entries_elem (some ⟨s0, 0, none⟩) (Reg.eval_of e34) w.heap.size A es.length c (es.flatMap entCells) (Reg.eval_of e35) ?_ ho' (HR.out.below hbu) hol hoo (by unfold maxLen; omega) (by omega)
              intro A' c' w' hown hbl hat
              exact ⟨rfl, hK _ _ ⟨A', c', rfl, hown⟩ (fun j k _ _ => hbl)⟩
            · intro val ac u hR hp ha K hK      -- 10: t37 := Op.call { value (Operand.func 17), args := #[t33, t36], argTypes := #[33, 23] }
              obtain ⟨w33, h33, r33⟩ := hp 6 (by decide)
              have e33 : (ac.tmps[33]?).getD undef = .agg (vcCells vb).toArray := (ha 33 (by decide)).trans h33
              clear h33
              obtain ⟨w36, h36, r36⟩ := hp 9 (by decide)
              have e36 : (ac.tmps[36]?).getD undef = val 9 := ha 36 (by decide)
              obtain ⟨w32, h32, r32⟩ := hp 5 (by decide)
              have e32 : (ac.tmps[32]?).getD undef = .bool true := (ha 32 (by decide)).trans h32
              clear h32
              clear ha hp
              refine Reg.Op1.guarded rfl rfl e32 (fun _ => Reg.Op1.plain rfl ?_) (fun h => absurd rfl h)
              obtain ⟨A1, c1, hv, ho⟩ := h36
              rw [hv] at e36
              have ho' := ho.below r36 (fun q hq => ho.lt hq)
              go_wp2_with fail
              refine (closed_any vb A1 c1 es u.heap.size u ho'.rd (Nat.le_refl _) (by unfold maxLen; omega)).mono ?_
              rintro x w' ⟨rfl, hbw⟩
              rw [HC2.out]
              go_wp2_with fail
              exact ⟨rfl, hK _ _ rfl (fun j k _ _ => hbw)⟩
            · intro val ac u hR hp ha K hK      -- 11: t38 := Op.pick t32 t37 (const (Value.bool false))
              obtain ⟨w32, h32, r32⟩ := hp 5 (by decide)
              have e32 : (ac.tmps[32]?).getD undef = .bool true := (ha 32 (by decide)).trans h32
              clear h32
              obtain ⟨w37, h37, r37⟩ := hp 10 (by decide)
              have e37 : (ac.tmps[37]?).getD undef = .bool true := (ha 37 (by decide)).trans h37
              clear h37
              clear ha hp
              refine Reg.Op1.plain rfl ?_
              go_wp2
              exact ⟨rfl, hK _ _ rfl (fun j k _ _ => Reg.Adds.refl _ _ _)⟩
            · intro val ac u hR hp ha K hK      -- 12: t39 := Op.move t38
              obtain ⟨w38, h38, r38⟩ := hp 11 (by decide)
              have e38 : (ac.tmps[38]?).getD undef = .bool true := (ha 38 (by decide)).trans h38
              clear h38
              clear ha hp
              refine Reg.Op1.plain rfl ?_
              go_wp2
              exact ⟨rfl, hK _ _ rfl (fun j k _ _ => Reg.Adds.refl _ _ _)⟩
            · intro val ac u hR hp ha K hK      -- 13: t40 := Op.load 33 t9
              have e9 : (ac.tmps[9]?).getD undef = .pointer (some ⟨w4.heap.size, 0, none⟩) := ha 9 (by decide)
              obtain ⟨w39, h39, r39⟩ := hp 12 (by decide)
              have e39 : (ac.tmps[39]?).getD undef = .bool true := (ha 39 (by decide)).trans h39
              clear h39
              clear ha hp
              refine Reg.Op1.guarded rfl rfl e39 (fun _ => Reg.Op1.plain rfl ?_) (fun h => absurd rfl h)
              have hVu := HVM.out.below (w := w5.drew) hR HVM.out.lt
              refine Mem.load_aggG _ _ vec_agg w4.heap.size 0 (vcCells vm) (by simp [Region.wanted]) (Reg.eval_of e9) (vcCells_length _) (fun j u' hu => by rw [Nat.zero_add]; exact hVu.cell hu) ?_
              exact ⟨rfl, hK _ _ rfl (fun j k _ _ => Reg.Adds.refl _ _ _)⟩
            · intro val ac u hR hp ha K hK      -- 14: t41 := Op.buildSlice 23 0 #[]
              obtain ⟨w39, h39, r39⟩ := hp 12 (by decide)
              have e39 : (ac.tmps[39]?).getD undef = .bool true := (ha 39 (by decide)).trans h39
              clear h39
              clear ha hp
              refine Reg.Op1.guarded rfl rfl e39 (fun _ => Reg.Op1.plain rfl ?_) (fun h => absurd rfl h)
              go_wp2
              exact ⟨rfl, hK _ _ ⟨u.heap.size, rfl, Mem.Own.lit u _ 20 #[] 0 rfl rfl (by simp [maxLen])⟩ (fun j k _ _ => Reg.below_new u _)⟩
            · intro val ac u hR hp ha K hK      -- 15: t42 := Op.move t3
              have e3 : (ac.tmps[3]?).getD undef = .slice A es.length c := ha 3 (by decide)
              obtain ⟨w39, h39, r39⟩ := hp 12 (by decide)
              have e39 : (ac.tmps[39]?).getD undef = .bool true := (ha 39 (by decide)).trans h39
              clear h39
              clear ha hp
              refine Reg.Op1.guarded rfl rfl e39 (fun _ => Reg.Op1.plain rfl ?_) (fun h => absurd rfl h)
              go_wp2
              exact ⟨rfl, hK _ _ rfl (fun j k _ _ => Reg.Adds.refl _ _ _)⟩
            · intro val ac u hR hp ha K hK      -- 16: t43 := Op.call { builtin append, args := #[t41, t42], argTypes := #[23, 23] }
              obtain ⟨w41, h41, r41⟩ := hp 14 (by decide)
              have e41 : (ac.tmps[41]?).getD undef = val 14 := ha 41 (by decide)
              obtain ⟨w42, h42, r42⟩ := hp 15 (by decide)
              have e42 : (ac.tmps[42]?).getD undef = .slice A es.length c := (ha 42 (by decide)).trans h42
              clear h42
              obtain ⟨w39, h39, r39⟩ := hp 12 (by decide)
              have e39 : (ac.tmps[39]?).getD undef = .bool true := (ha 39 (by decide)).trans h39
              clear h39
              clear ha hp
              refine Reg.Op1.guarded rfl rfl e39 (fun _ => Reg.Op1.plain rfl ?_) (fun h => absurd rfl h)
              obtain ⟨s0, hv, ho⟩ := h41
              rw [hv] at e41
              have ho' := ho.below r41 (fun q hq => ho.lt hq)
              have hbu := HB5.out.trans (((Below.refl w5.heap.size w5).drew.trans hR).mono HB5.out.size)
              refine Mem.wpList_app0 u (by simp [Region.wanted]) (.tmp 41) (.tmp 42) _ rfl entries_elem (some ⟨s0, 0, none⟩) (Reg.eval_of e41) w.heap.size A es.length c (es.flatMap entCells) (Reg.eval_of e42) ?_ ho' (HR.out.below hbu) hol hoo (by unfold maxLen; omega) (by omega)
              intro A' c' w' hown hbl hat
              exact ⟨rfl, hK _ _ ⟨A', c', rfl, hown⟩ (fun j k _ _ => hbl)⟩
            · intro val ac u hR hp ha K hK      -- 17: t44 := Op.call { value (Operand.func 17), args := #[t40, t43], argTypes := #[33, 23] }
              obtain ⟨w40, h40, r40⟩ := hp 13 (by decide)
              have e40 : (ac.tmps[40]?).getD undef = .agg (vcCells vm).toArray := (ha 40 (by decide)).trans h40
              clear h40
              obtain ⟨w43, h43, r43⟩ := hp 16 (by decide)
              have e43 : (ac.tmps[43]?).getD undef = val 16 := ha 43 (by decide)
              obtain ⟨w39, h39, r39⟩ := hp 12 (by decide)
              have e39 : (ac.tmps[39]?).getD undef = .bool true := (ha 39 (by decide)).trans h39
              clear h39
              clear ha hp
              refine Reg.Op1.guarded rfl rfl e39 (fun _ => Reg.Op1.plain rfl ?_) (fun h => absurd rfl h)
              obtain ⟨A1, c1, hv, ho⟩ := h43
              rw [hv] at e43
              have ho' := ho.below r43 (fun q hq => ho.lt hq)
              go_wp2_with fail
              refine (closed_any vm A1 c1 es u.heap.size u ho'.rd (Nat.le_refl _) (by unfold maxLen; omega)).mono ?_
              rintro x w' ⟨rfl, hbw⟩
              rw [HC3.out]
              go_wp2_with fail
              exact ⟨rfl, hK _ _ rfl (fun j k _ _ => hbw)⟩
            · intro val ac u hR hp ha K hK      -- 18: t45 := Op.unOp UnOp.not 4 t44
              obtain ⟨w44, h44, r44⟩ := hp 17 (by decide)
              have e44 : (ac.tmps[44]?).getD undef = .bool true := (ha 44 (by decide)).trans h44
              clear h44
              obtain ⟨w39, h39, r39⟩ := hp 12 (by decide)
              have e39 : (ac.tmps[39]?).getD undef = .bool true := (ha 39 (by decide)).trans h39
              clear h39
              clear ha hp
              refine Reg.Op1.guarded rfl rfl e39 (fun _ => Reg.Op1.plain rfl ?_) (fun h => absurd rfl h)
              go_wp2
              exact ⟨rfl, hK _ _ rfl (fun j k _ _ => Reg.Adds.refl _ _ _)⟩
            · intro val ac u hR hp ha K hK      -- 19: t46 := Op.pick t39 t45 (const (Value.bool false))
              obtain ⟨w39, h39, r39⟩ := hp 12 (by decide)
              have e39 : (ac.tmps[39]?).getD undef = .bool true := (ha 39 (by decide)).trans h39
              clear h39
              obtain ⟨w45, h45, r45⟩ := hp 18 (by decide)
              have e45 : (ac.tmps[45]?).getD undef = .bool false := (ha 45 (by decide)).trans h45
              clear h45
              clear ha hp
              refine Reg.Op1.plain rfl ?_
              go_wp2
              exact ⟨rfl, hK _ _ rfl (fun j k _ _ => Reg.Adds.refl _ _ _)⟩
          · intro val u hR H
            obtain ⟨_, hv, _⟩ := H 19 (by decide)
            have hv : val 19 = .bool false := hv
            have HKu : Hid (Below w5.heap.size w5 u) := (Below.refl _ w5).drew.trans hR
            simp only [List.map_cons, List.map_nil, Reg.lay, Act.put, List.setIfInBounds_toArray, List.set_cons_succ, List.set_cons_zero, Nat.reduceAdd, hv]
            clear hR H hv
            go_wp2
            go_meet
            case rel => exact ⟨rfl, HKu.out⟩
    case rest =>
      obtain ⟨rfl, hcut⟩ := hcut
      rename World => w6
      have HV5 : Hid (Vec.VBx w6 w.heap.size va) := HVA.out.below hcut HVA.out.lt
      have HM6 : Hid (Vec.VBx w6 w4.heap.size vm) := HVM.out.below hcut HVM.out.lt
      have HB6 : Hid (Below w.heap.size w w6) := HB5.out.trans (hcut.mono HB5.out.size)
      obtain ⟨gm, hgm⟩ : ∃ z, w4.heap.size = z := ⟨_, rfl⟩
      rw [hgm] at HM6
      try rw [hgm]
      clear hcut hgm HVA HVM HVB HB5
      have HB5 := HB6
      obtain ⟨⟨x, fx⟩, hmf⟩ : ∃ mf, visible key va es = mf := ⟨_, rfl⟩
      have HMF5 := Lib.hid hmf
      have HSX := Lib.hid (hmf ▸ sinvV key va es : SInv key va es (x, fx))
      clear hmf
      obtain ⟨⟨y, fy⟩, hmf⟩ : ∃ mf, visible key vm es = mf := ⟨_, rfl⟩
      have HMF9 := Lib.hid hmf
      have HSY := Lib.hid (hmf ▸ sinvV key vm es : SInv key vm es (y, fy))
      clear hmf
      go_upto_region 8 with fail
      refine Reg.wp_region_z (by kernel_rfl) 91 12 rfl rfl (by kernel_rfl) 90 91 (by decide) (10) (fun y => w6.heap.size ≤ y) (0) (fun _ => False) (0) (fun _ => False)
        (fun i f v u => match i with
          | 0 => v = .string key
          | 1 => v = .agg (vcCells va).toArray
          | 2 => ∃ s0, v = .slice (some ⟨s0, 0, none⟩) 0 0 ∧ Mem.Own u 35 20 (some ⟨s0, 0, none⟩) 0 0 []
          | 3 => v = .slice A es.length c
          | 4 => ∃ A1 c1, v = .slice A1 es.length c1 ∧ Mem.Own u 35 20 A1 es.length c1 (es.flatMap entCells)
          | 5 => v = .tuple #[.agg (entCells x).toArray, .bool fx]
          | 6 => v = .tuple #[.agg (entCells x).toArray, .bool fx]
          | 7 => v = .agg (entCells x).toArray
          | 8 => v = .bool fx
          | 9 => ∃ s, v = .pointer (some ⟨s, 0, none⟩) ∧ w6.heap.size ≤ s ∧ EBx u s ent0
          | 10 => ∃ s, f 10 = .pointer (some ⟨s, 0, none⟩) ∧ w6.heap.size ≤ s ∧ EBx u s x
          | 11 => v = .bool fx
          | _ => True) ?_ ?_
      · refine Reg.StepsZ.cons ?_ (Reg.StepsZ.cons ?_ (Reg.StepsZ.cons ?_ (Reg.StepsZ.cons ?_ (Reg.StepsZ.cons ?_ (Reg.StepsZ.cons ?_ (Reg.StepsZ.cons ?_ (Reg.StepsZ.cons ?_ (Reg.StepsZ.cons ?_ (Reg.StepsZ.cons ?_ (Reg.StepsZ.cons ?_ (Reg.StepsZ.cons ?_ (Reg.StepsZ.nil _))))))))))))
        · intro val ac u hR hp hpq ha K hK0      -- 0: t48 := Op.move t0
          have hK := fun v w' h1 h2 => hK0 v w' h1 h2 (fun j f v' h _ => by omega)
          have e0 : (ac.tmps[0]?).getD undef = .string key := ha 0 (by decide)
          clear ha hp
          refine Reg.Op1.plain rfl ?_
          go_wp2
          exact ⟨rfl, hK _ _ rfl (Reg.Wr.same _)⟩
        · intro val ac u hR hp hpq ha K hK0      -- 1: t49 := Op.load 33 t5
          have hK := fun v w' h1 h2 => hK0 v w' h1 h2 (fun j f v' h _ => by omega)
          have e5 : (ac.tmps[5]?).getD undef = .pointer (some ⟨w.heap.size, 0, none⟩) := ha 5 (by decide)
          clear ha hp
          refine Reg.Op1.plain rfl ?_
          have hq : Mem.Keeps (fun _ => False ∨ False) w6 u := (Mem.Keeps.refl (fun _ => False ∨ False) w6).drew.trans (Reg.Wr.not1 hR (by decide +kernel)) (fun _ h _ => h)
          have hQu := HV5.out.keeps hq (fun h => h.elim id id)
          refine Mem.load_agg _ _ vec_agg w.heap.size 0 (vcCells va) (Reg.eval_of e5) (vcCells_length _) (fun j u' hu => by rw [Nat.zero_add]; exact hQu.cell hu) ?_
          exact ⟨rfl, hK _ _ rfl (Reg.Wr.same _)⟩
        · intro val ac u hR hp hpq ha K hK0      -- 2: t50 := Op.buildSlice 23 0 #[]
          have hK := fun v w' h1 h2 => hK0 v w' h1 h2 (fun j f v' h _ => by omega)
          clear ha hp
          refine Reg.Op1.plain rfl ?_
          go_wp2
          exact ⟨rfl, hK _ _ ⟨u.heap.size, rfl, Mem.Own.lit u _ 20 #[] 0 rfl rfl (by simp [maxLen])⟩ (Reg.Wr.quiet ((Mem.Keeps.refl _ u).alloc _))⟩
        · intro val ac u hR hp hpq ha K hK0      -- 3: t51 := Op.move t3
          have hK := fun v w' h1 h2 => hK0 v w' h1 h2 (fun j f v' h _ => by omega)
          have e3 : (ac.tmps[3]?).getD undef = .slice A es.length c := ha 3 (by decide)
          clear ha hp
          refine Reg.Op1.plain rfl ?_
          go_wp2
          exact ⟨rfl, hK _ _ rfl (Reg.Wr.same _)⟩
        · intro val ac u hR hp hpq ha K hK0      -- 4: t52 := Op.call { builtin append, args := #[t50, t51], argTypes := #[23, 23] }
          have hK := fun v w' h1 h2 => hK0 v w' h1 h2 (fun j f v' h _ => by omega)
          obtain ⟨w50, h50, r50⟩ := hp 2 (by decide)
          have e50 : (ac.tmps[50]?).getD undef = val 2 := ha 50 (by decide)
          obtain ⟨w51, h51, r51⟩ := hp 3 (by decide)
          have e51 : (ac.tmps[51]?).getD undef = .slice A es.length c := (ha 51 (by decide)).trans h51
          clear h51
          clear ha hp
          refine Reg.Op1.plain rfl ?_
          obtain ⟨s0, hv, ho⟩ := h50
          rw [hv] at e50
          have ho' := ho.keeps (Reg.Wr.not1 r50 (by decide +kernel)) (fun _ _ h => h.elim id id)
          have hq : Mem.Keeps (fun _ => False ∨ False) w6 u := (Mem.Keeps.refl (fun _ => False ∨ False) w6).drew.trans (Reg.Wr.not1 hR (by decide +kernel)) (fun _ h _ => h)
          have hbu := HB5.out.trans (hq.below (B := w.heap.size) (fun k h => h.elim (fun h => h.elim) (fun h => h.elim)) HB5.out.size)
          refine Mem.wpList_app0 u rfl (.tmp 50) (.tmp 51) _ rfl entries_elem (some ⟨s0, 0, none⟩) (Reg.eval_of e50) w.heap.size A es.length c (es.flatMap entCells) (Reg.eval_of e51) ?_ ho' (HR.out.below hbu) hol hoo (by unfold maxLen; omega) (by omega)
          intro A' c' w' hown hbl hat
          exact ⟨rfl, hK _ _ ⟨A', c', rfl, hown⟩ (Reg.Wr.below hbl)⟩
        · intro val ac u hR hp hpq ha K hK0      -- 5: t53 := Op.call { value (Operand.func 15), args := #[t48, t49, t52], argTypes := #[9, 33, 23] }
          have hK := fun v w' h1 h2 => hK0 v w' h1 h2 (fun j f v' h _ => by omega)
          obtain ⟨w48, h48, r48⟩ := hp 0 (by decide)
          have e48 : (ac.tmps[48]?).getD undef = .string key := (ha 48 (by decide)).trans h48
          clear h48
          obtain ⟨w49, h49, r49⟩ := hp 1 (by decide)
          have e49 : (ac.tmps[49]?).getD undef = .agg (vcCells va).toArray := (ha 49 (by decide)).trans h49
          clear h49
          obtain ⟨w52, h52, r52⟩ := hp 4 (by decide)
          have e52 : (ac.tmps[52]?).getD undef = val 4 := ha 52 (by decide)
          clear ha hp
          refine Reg.Op1.plain rfl ?_
          obtain ⟨A1, c1, hv, ho⟩ := h52
          rw [hv] at e52
          have ho' := ho.keeps (Reg.Wr.not1 r52 (by decide +kernel)) (fun _ _ h => h.elim id id)
          go_wp2_with fail
          refine (visible_any key va A1 c1 es u.heap.size u ho'.rd (Nat.le_refl _) (by unfold maxLen; omega)).mono ?_
          rintro x w' ⟨rfl, hbw⟩
          rw [HMF5.out]
          go_wp2_with fail
          exact ⟨rfl, hK _ _ rfl (Reg.Wr.below hbw)⟩
        · intro val ac u hR hp hpq ha K hK0      -- 6: t47 := Op.move t53
          have hK := fun v w' h1 h2 => hK0 v w' h1 h2 (fun j f v' h _ => by omega)
          obtain ⟨w53, h53, r53⟩ := hp 5 (by decide)
          have e53 : (ac.tmps[53]?).getD undef = .tuple #[.agg (entCells x).toArray, .bool fx] := (ha 53 (by decide)).trans h53
          clear h53
          clear ha hp
          refine Reg.Op1.plain rfl ?_
          go_wp2
          exact ⟨rfl, hK _ _ rfl (Reg.Wr.same _)⟩
        · intro val ac u hR hp hpq ha K hK0      -- 7: t54 := Op.extract t47 0
          have hK := fun v w' h1 h2 => hK0 v w' h1 h2 (fun j f v' h _ => by omega)
          obtain ⟨w47, h47, r47⟩ := hp 6 (by decide)
          have e47 : (ac.tmps[47]?).getD undef = .tuple #[.agg (entCells x).toArray, .bool fx] := (ha 47 (by decide)).trans h47
          clear h47
          clear ha hp
          refine Reg.Op1.plain rfl ?_
          go_wp2
          exact ⟨rfl, hK _ _ rfl (Reg.Wr.same _)⟩
        · intro val ac u hR hp hpq ha K hK0      -- 8: t55 := Op.extract t47 1
          have hK := fun v w' h1 h2 => hK0 v w' h1 h2 (fun j f v' h _ => by omega)
          obtain ⟨w47, h47, r47⟩ := hp 6 (by decide)
          have e47 : (ac.tmps[47]?).getD undef = .tuple #[.agg (entCells x).toArray, .bool fx] := (ha 47 (by decide)).trans h47
          clear h47
          clear ha hp
          refine Reg.Op1.plain rfl ?_
          go_wp2
          exact ⟨rfl, hK _ _ rfl (Reg.Wr.same _)⟩
        · intro val ac u hR hp hpq ha K hK0      -- 9: t10 := Op.alloc 35
          have hK := fun v w' h1 h2 => hK0 v w' h1 h2 (fun j f v' h _ => by omega)
          clear ha hp
          refine Reg.Op1.plain rfl ?_
          have hbu : w6.heap.size ≤ u.heap.size := (Reg.Wr.all hR).size
          go_wp2
          exact ⟨rfl, hK _ _ ⟨u.heap.size, rfl, hbu, Mem.Bx.new u 35 (entCells ent0).toArray rfl rfl⟩ (Reg.Wr.quiet ((Mem.Keeps.refl _ u).alloc _))⟩
        · intro val ac u hR hp hpq ha K hK0      -- 10: Op.store 35 t10 t54
          have hK := fun v w' h1 h2 => hK0 v w' h1 h2 (fun j f v' h _ => by omega)
          obtain ⟨w10, h10, r10⟩ := hp 9 (by decide)
          have e10 : (ac.tmps[10]?).getD undef = val 9 := ha 10 (by decide)
          obtain ⟨w54, h54, r54⟩ := hp 7 (by decide)
          have e54 : (ac.tmps[54]?).getD undef = .agg (entCells x).toArray := (ha 54 (by decide)).trans h54
          clear h54
          clear ha hp
          refine Reg.Op1.plain rfl ?_
          obtain ⟨s, hv, hs, hbx⟩ := h10
          have hv7 := hv
          rw [hv] at e10
          have hbx' : EBx u s ent0 := hbx.keeps (Reg.Wr.not1 r10 (by decide +kernel)) (fun h => h.elim id id)
          refine Mem.store_agg _ _ entry_agg s (entCells ent0) (entCells x) (Reg.eval_of e10) (Reg.eval_of e54) hbx' (entCells_length _) (ent_one _) ?_
          intro w' hb hk hs'
          exact ⟨rfl, hK undef _ ⟨s, hv7, hs, hb⟩ (Reg.Wr.does1 (hk.mono (fun i h _ => by show w6.heap.size ≤ i; omega)))⟩
        · intro val ac u hR hp hpq ha K hK0      -- 11: t11 := Op.assign t55
          have hK := fun v w' h1 h2 => hK0 v w' h1 h2 (fun j f v' h _ => by omega)
          obtain ⟨w55, h55, r55⟩ := hp 8 (by decide)
          have e55 : (ac.tmps[55]?).getD undef = .bool fx := (ha 55 (by decide)).trans h55
          clear h55
          clear ha hp
          refine Reg.Op1.plain rfl ?_
          go_wp2
          exact ⟨rfl, hK _ _ rfl (Reg.Wr.same _)⟩
      intro val u hR H hZ
      obtain ⟨wA, ⟨s, hv7, hs, hb⟩, rA⟩ := H 10 (by decide)
      have hv7 : val 9 = .pointer (some ⟨s, 0, none⟩) := hv7
      obtain ⟨wB, hv8, rB⟩ := H 11 (by decide)
      have hv8 : val 11 = .bool fx := hv8
      have hq : Mem.Keeps (fun y => w6.heap.size ≤ y ∨ False ∨ False) w6 u := (Mem.Keeps.refl (fun y => w6.heap.size ≤ y ∨ False ∨ False) w6).drew.trans (Reg.Wr.all hR) (fun _ h _ => h)
      have hne : ∀ y, y < w6.heap.size → ¬ (w6.heap.size ≤ y ∨ False ∨ False) := fun y hy h => by rcases h with h | h | h <;> first | omega | exact h
      have HE10 : Hid (EBx u s x) := hb.keeps (Reg.Wr.not1 rA (by decide +kernel)) (fun h => h.elim id id)
      have HK10 : Hid (Below w6.heap.size w6 u) := hq.below (fun y h => by rcases h with h | h | h <;> first | exact h | exact h.elim) (Nat.le_refl _)
      simp only [List.map_cons, List.map_nil, Reg.lay, Act.put, List.setIfInBounds_toArray, List.set_cons_succ, List.set_cons_zero, Nat.reduceAdd, hv7, hv8]
      clear hR H hZ hq hb rA rB hv7 hv8 hne hs
      obtain ⟨w7, hw7⟩ : ∃ z, z = u := ⟨_, rfl⟩
      subst hw7
      obtain ⟨s10, hs10⟩ : ∃ z, z = s := ⟨_, rfl⟩
      subst hs10
      have HV7 : Hid (Vec.VBx w7 w.heap.size va) := HV5.out.below HK10.out HV5.out.lt
      have HV9 : Hid (Vec.VBx w7 gm vm) := HM6.out.below HK10.out HM6.out.lt
      have HB9 : Hid (Below w.heap.size w w7) := HB5.out.trans (HK10.out.mono HB5.out.size)
      clear HV5 HM6 HB5 HB6 HK10 HMF5
      go_upto_region 9 with fail
      refine Reg.wp_region_z (by kernel_rfl) 91 12 rfl rfl (by kernel_rfl) 90 91 (by decide) (10) (fun y => w7.heap.size ≤ y) (0) (fun _ => False) (0) (fun _ => False)
        (fun i f v u => match i with
          | 0 => v = .string key
          | 1 => v = .agg (vcCells vm).toArray
          | 2 => ∃ s0, v = .slice (some ⟨s0, 0, none⟩) 0 0 ∧ Mem.Own u 35 20 (some ⟨s0, 0, none⟩) 0 0 []
          | 3 => v = .slice A es.length c
          | 4 => ∃ A1 c1, v = .slice A1 es.length c1 ∧ Mem.Own u 35 20 A1 es.length c1 (es.flatMap entCells)
          | 5 => v = .tuple #[.agg (entCells y).toArray, .bool fy]
          | 6 => v = .tuple #[.agg (entCells y).toArray, .bool fy]
          | 7 => v = .agg (entCells y).toArray
          | 8 => v = .bool fy
          | 9 => ∃ s, v = .pointer (some ⟨s, 0, none⟩) ∧ w7.heap.size ≤ s ∧ EBx u s ent0
          | 10 => ∃ s, f 12 = .pointer (some ⟨s, 0, none⟩) ∧ w7.heap.size ≤ s ∧ EBx u s y
          | 11 => v = .bool fy
          | _ => True) ?_ ?_
      · refine Reg.StepsZ.cons ?_ (Reg.StepsZ.cons ?_ (Reg.StepsZ.cons ?_ (Reg.StepsZ.cons ?_ (Reg.StepsZ.cons ?_ (Reg.StepsZ.cons ?_ (Reg.StepsZ.cons ?_ (Reg.StepsZ.cons ?_ (Reg.StepsZ.cons ?_ (Reg.StepsZ.cons ?_ (Reg.StepsZ.cons ?_ (Reg.StepsZ.cons ?_ (Reg.StepsZ.nil _))))))))))))
        · intro val ac u hR hp hpq ha K hK0      -- 0: t57 := Op.move t0
          have hK := fun v w' h1 h2 => hK0 v w' h1 h2 (fun j f v' h _ => by omega)
          have e0 : (ac.tmps[0]?).getD undef = .string key := ha 0 (by decide)
          clear ha hp
          refine Reg.Op1.plain rfl ?_
          go_wp2
          exact ⟨rfl, hK _ _ rfl (Reg.Wr.same _)⟩
        · intro val ac u hR hp hpq ha K hK0      -- 1: t58 := Op.load 33 t9
          have hK := fun v w' h1 h2 => hK0 v w' h1 h2 (fun j f v' h _ => by omega)
          have e9 : (ac.tmps[9]?).getD undef = .pointer (some ⟨gm, 0, none⟩) := ha 9 (by decide)
          clear ha hp
          refine Reg.Op1.plain rfl ?_
          have hq : Mem.Keeps (fun _ => False ∨ False) w7 u := (Mem.Keeps.refl (fun _ => False ∨ False) w7).drew.trans (Reg.Wr.not1 hR (by decide +kernel)) (fun _ h _ => h)
          have hQu := HV9.out.keeps hq (fun h => h.elim id id)
          refine Mem.load_agg _ _ vec_agg gm 0 (vcCells vm) (Reg.eval_of e9) (vcCells_length _) (fun j u' hu => by rw [Nat.zero_add]; exact hQu.cell hu) ?_
          exact ⟨rfl, hK _ _ rfl (Reg.Wr.same _)⟩
        · intro val ac u hR hp hpq ha K hK0      -- 2: t59 := Op.buildSlice 23 0 #[]
          have hK := fun v w' h1 h2 => hK0 v w' h1 h2 (fun j f v' h _ => by omega)
          clear ha hp
          refine Reg.Op1.plain rfl ?_
          go_wp2
          exact ⟨rfl, hK _ _ ⟨u.heap.size, rfl, Mem.Own.lit u _ 20 #[] 0 rfl rfl (by simp [maxLen])⟩ (Reg.Wr.quiet ((Mem.Keeps.refl _ u).alloc _))⟩
        · intro val ac u hR hp hpq ha K hK0      -- 3: t60 := Op.move t3
          have hK := fun v w' h1 h2 => hK0 v w' h1 h2 (fun j f v' h _ => by omega)
          have e3 : (ac.tmps[3]?).getD undef = .slice A es.length c := ha 3 (by decide)
          clear ha hp
          refine Reg.Op1.plain rfl ?_
          go_wp2
          exact ⟨rfl, hK _ _ rfl (Reg.Wr.same _)⟩
        · intro val ac u hR hp hpq ha K hK0      -- 4: t61 := Op.call { builtin append, args := #[t59, t60], argTypes := #[23, 23] }
          have hK := fun v w' h1 h2 => hK0 v w' h1 h2 (fun j f v' h _ => by omega)
          obtain ⟨w59, h59, r59⟩ := hp 2 (by decide)
          have e59 : (ac.tmps[59]?).getD undef = val 2 := ha 59 (by decide)
          obtain ⟨w60, h60, r60⟩ := hp 3 (by decide)
          have e60 : (ac.tmps[60]?).getD undef = .slice A es.length c := (ha 60 (by decide)).trans h60
          clear h60
          clear ha hp
          refine Reg.Op1.plain rfl ?_
          obtain ⟨s0, hv, ho⟩ := h59
          rw [hv] at e59
          have ho' := ho.keeps (Reg.Wr.not1 r59 (by decide +kernel)) (fun _ _ h => h.elim id id)
          have hq : Mem.Keeps (fun _ => False ∨ False) w7 u := (Mem.Keeps.refl (fun _ => False ∨ False) w7).drew.trans (Reg.Wr.not1 hR (by decide +kernel)) (fun _ h _ => h)
          have hbu := HB9.out.trans (hq.below (B := w.heap.size) (fun k h => h.elim (fun h => h.elim) (fun h => h.elim)) HB9.out.size)
          refine Mem.wpList_app0 u rfl (.tmp 59) (.tmp 60) _ rfl entries_elem (some ⟨s0, 0, none⟩) (Reg.eval_of e59) w.heap.size A es.length c (es.flatMap entCells) (Reg.eval_of e60) ?_ ho' (HR.out.below hbu) hol hoo (by unfold maxLen; omega) (by omega)
          intro A' c' w' hown hbl hat
          exact ⟨rfl, hK _ _ ⟨A', c', rfl, hown⟩ (Reg.Wr.below hbl)⟩
        · intro val ac u hR hp hpq ha K hK0      -- 5: t62 := Op.call { value (Operand.func 15), args := #[t57, t58, t61], argTypes := #[9, 33, 23] }
          have hK := fun v w' h1 h2 => hK0 v w' h1 h2 (fun j f v' h _ => by omega)
          obtain ⟨w57, h57, r57⟩ := hp 0 (by decide)
          have e57 : (ac.tmps[57]?).getD undef = .string key := (ha 57 (by decide)).trans h57
          clear h57
          obtain ⟨w58, h58, r58⟩ := hp 1 (by decide)
          have e58 : (ac.tmps[58]?).getD undef = .agg (vcCells vm).toArray := (ha 58 (by decide)).trans h58
          clear h58
          obtain ⟨w61, h61, r61⟩ := hp 4 (by decide)
          have e61 : (ac.tmps[61]?).getD undef = val 4 := ha 61 (by decide)
          clear ha hp
          refine Reg.Op1.plain rfl ?_
          obtain ⟨A1, c1, hv, ho⟩ := h61
          rw [hv] at e61
          have ho' := ho.keeps (Reg.Wr.not1 r61 (by decide +kernel)) (fun _ _ h => h.elim id id)
          go_wp2_with fail
          refine (visible_any key vm A1 c1 es u.heap.size u ho'.rd (Nat.le_refl _) (by unfold maxLen; omega)).mono ?_
          rintro x w' ⟨rfl, hbw⟩
          rw [HMF9.out]
          go_wp2_with fail
          exact ⟨rfl, hK _ _ rfl (Reg.Wr.below hbw)⟩
        · intro val ac u hR hp hpq ha K hK0      -- 6: t56 := Op.move t62
          have hK := fun v w' h1 h2 => hK0 v w' h1 h2 (fun j f v' h _ => by omega)
          obtain ⟨w62, h62, r62⟩ := hp 5 (by decide)
          have e62 : (ac.tmps[62]?).getD undef = .tuple #[.agg (entCells y).toArray, .bool fy] := (ha 62 (by decide)).trans h62
          clear h62
          clear ha hp
          refine Reg.Op1.plain rfl ?_
          go_wp2
          exact ⟨rfl, hK _ _ rfl (Reg.Wr.same _)⟩
        · intro val ac u hR hp hpq ha K hK0      -- 7: t63 := Op.extract t56 0
          have hK := fun v w' h1 h2 => hK0 v w' h1 h2 (fun j f v' h _ => by omega)
          obtain ⟨w56, h56, r56⟩ := hp 6 (by decide)
          have e56 : (ac.tmps[56]?).getD undef = .tuple #[.agg (entCells y).toArray, .bool fy] := (ha 56 (by decide)).trans h56
          clear h56
          clear ha hp
          refine Reg.Op1.plain rfl ?_
          go_wp2
          exact ⟨rfl, hK _ _ rfl (Reg.Wr.same _)⟩
        · intro val ac u hR hp hpq ha K hK0      -- 8: t64 := Op.extract t56 1
          have hK := fun v w' h1 h2 => hK0 v w' h1 h2 (fun j f v' h _ => by omega)
          obtain ⟨w56, h56, r56⟩ := hp 6 (by decide)
          have e56 : (ac.tmps[56]?).getD undef = .tuple #[.agg (entCells y).toArray, .bool fy] := (ha 56 (by decide)).trans h56
          clear h56
          clear ha hp
          refine Reg.Op1.plain rfl ?_
          go_wp2
          exact ⟨rfl, hK _ _ rfl (Reg.Wr.same _)⟩
        · intro val ac u hR hp hpq ha K hK0      -- 9: t12 := Op.alloc 35
          have hK := fun v w' h1 h2 => hK0 v w' h1 h2 (fun j f v' h _ => by omega)
          clear ha hp
          refine Reg.Op1.plain rfl ?_
          have hbu : w7.heap.size ≤ u.heap.size := (Reg.Wr.all hR).size
          go_wp2
          exact ⟨rfl, hK _ _ ⟨u.heap.size, rfl, hbu, Mem.Bx.new u 35 (entCells ent0).toArray rfl rfl⟩ (Reg.Wr.quiet ((Mem.Keeps.refl _ u).alloc _))⟩
        · intro val ac u hR hp hpq ha K hK0      -- 10: Op.store 35 t12 t63
          have hK := fun v w' h1 h2 => hK0 v w' h1 h2 (fun j f v' h _ => by omega)
          obtain ⟨w12, h12, r12⟩ := hp 9 (by decide)
          have e12 : (ac.tmps[12]?).getD undef = val 9 := ha 12 (by decide)
          obtain ⟨w63, h63, r63⟩ := hp 7 (by decide)
          have e63 : (ac.tmps[63]?).getD undef = .agg (entCells y).toArray := (ha 63 (by decide)).trans h63
          clear h63
          clear ha hp
          refine Reg.Op1.plain rfl ?_
          obtain ⟨s, hv, hs, hbx⟩ := h12
          have hv7 := hv
          rw [hv] at e12
          have hbx' : EBx u s ent0 := hbx.keeps (Reg.Wr.not1 r12 (by decide +kernel)) (fun h => h.elim id id)
          refine Mem.store_agg _ _ entry_agg s (entCells ent0) (entCells y) (Reg.eval_of e12) (Reg.eval_of e63) hbx' (entCells_length _) (ent_one _) ?_
          intro w' hb hk hs'
          exact ⟨rfl, hK undef _ ⟨s, hv7, hs, hb⟩ (Reg.Wr.does1 (hk.mono (fun i h _ => by show w7.heap.size ≤ i; omega)))⟩
        · intro val ac u hR hp hpq ha K hK0      -- 11: t13 := Op.assign t64
          have hK := fun v w' h1 h2 => hK0 v w' h1 h2 (fun j f v' h _ => by omega)
          obtain ⟨w64, h64, r64⟩ := hp 8 (by decide)
          have e64 : (ac.tmps[64]?).getD undef = .bool fy := (ha 64 (by decide)).trans h64
          clear h64
          clear ha hp
          refine Reg.Op1.plain rfl ?_
          go_wp2
          exact ⟨rfl, hK _ _ rfl (Reg.Wr.same _)⟩
      intro val u hR H hZ
      obtain ⟨wA, ⟨s, hv7, hs, hb⟩, rA⟩ := H 10 (by decide)
      have hv7 : val 9 = .pointer (some ⟨s, 0, none⟩) := hv7
      obtain ⟨wB, hv8, rB⟩ := H 11 (by decide)
      have hv8 : val 11 = .bool fy := hv8
      have hq : Mem.Keeps (fun y => w7.heap.size ≤ y ∨ False ∨ False) w7 u := (Mem.Keeps.refl (fun y => w7.heap.size ≤ y ∨ False ∨ False) w7).drew.trans (Reg.Wr.all hR) (fun _ h _ => h)
      have hne : ∀ y, y < w7.heap.size → ¬ (w7.heap.size ≤ y ∨ False ∨ False) := fun y hy h => by rcases h with h | h | h <;> first | omega | exact h
      have HE12 : Hid (EBx u s y) := hb.keeps (Reg.Wr.not1 rA (by decide +kernel)) (fun h => h.elim id id)
      have HK12 : Hid (Below w7.heap.size w7 u) := hq.below (fun y h => by rcases h with h | h | h <;> first | exact h | exact h.elim) (Nat.le_refl _)
      simp only [List.map_cons, List.map_nil, Reg.lay, Act.put, List.setIfInBounds_toArray, List.set_cons_succ, List.set_cons_zero, Nat.reduceAdd, hv7, hv8]
      clear hR H hZ hq hb rA rB hv7 hv8 hne hs
      obtain ⟨w8, hw8⟩ : ∃ z, z = u := ⟨_, rfl⟩
      subst hw8
      obtain ⟨s12, hs12⟩ : ∃ z, z = s := ⟨_, rfl⟩
      subst hs12
      have HV8 : Hid (Vec.VBx w8 w.heap.size va) := HV7.out.below HK12.out HV7.out.lt
      have HX8 : Hid (EBx w8 s10 x) := HE10.out.below HK12.out HE10.out.lt
      have HB8 : Hid (Below w.heap.size w w8) := HB9.out.trans (HK12.out.mono HB9.out.size)
      clear HV7 HV9 HB9 HE10 HK12 HMF9 hol hoo
      cases fx
      case false =>
        go_wp2
        go_ret
        exact ⟨rfl, HB8.out⟩
      case true =>
        rw [← HVMD.out] at HSY
        obtain ⟨rfl, h2, h3, h4⟩ := merge_seen HSX.out HSY.out
        have x3 := HX8.out.cell (j := 3) rfl
        have x6 := HX8.out.cell (j := 6) rfl
        have y3 := HE12.out.cell (j := 3) rfl
        have hcd : decide (x.st.c ≤ y.st.c) = true := by simpa using h2
        have hkd2 := Vec.str_eq h4
        have HHD := Lib.hid h3
        have HLV : Hid (∀ j u, (vcCells va)[j]? = some u → w8.cell? ⟨w.heap.size, 0 + j, none⟩ = some u) := fun j u hu => by rw [Nat.zero_add]; exact HV8.out.cell hu
        have HLD : Hid (∀ j u, (dtCells (dotE x))[j]? = some u → w8.cell? ⟨s10, 0 + j, none⟩ = some u) := fun j u hu => by rw [Nat.zero_add]; exact HX8.out.cell (Vec.dot_at x hu)
        clear h2 h3 h4 HSX HSY
        go_wp2_with (first
          | ((with_reducible refine Mem.load_aggG _ _ vec_agg w.heap.size 0 (vcCells va) ?hwa ?hxa (vcCells_length _) HLV.out ?_); ((case hwa => rfl); (case hxa => exact rfl)))
          | ((with_reducible refine Mem.load_aggG _ _ dot_agg s10 0 (dtCells (dotE x)) ?hwb ?hxb (dtCells_length _) HLD.out ?_); ((case hwb => rfl); (case hxb => exact rfl)))
          | (go_at_call 20; (refine (hasD_any va (dotE x) w8).mono ?_); rintro x9 w9 ⟨rfl, hB9⟩; have HB9 := Lib.hid hB9; have x69 := (hB9.cell (p := ⟨s10, 6, none⟩) HX8.out.lt).trans x6; clear hB9; rw [HHD.out]))
        go_ret
        exact ⟨rfl, HB8.out.trans (HB9.out.mono HB8.out.size)⟩
set_option maxRecDepth 20000 in
theorem opened {H : Type} (enc : TypeId × Value → H) (W : World) (base : Nat) (v0 v1 v2 v3 : Value) {d0 d1 d2 d3 : DataW H} {p0 p1 p2 p3 : List MemPlace}
    (o0 : Value.okWide Try.prog W .any base 9 v0) (o1 : Value.okWide Try.prog W .any base 33 v1) (o2 : Value.okWide Try.prog W .any base 33 v2) (o3 : Value.okWide Try.prog W .any base 23 v3)
    (k0 : DataW.Trod enc Try.prog W 0 (fun _ => true) true 9 v0 d0 p0) (k1 : DataW.Trod enc Try.prog W 0 (fun _ => true) true 33 v1 d1 p1) (k2 : DataW.Trod enc Try.prog W 0 (fun _ => true) true 33 v2 d2 p2) (k3 : DataW.Trod enc Try.prog W 0 (fun _ => true) true 23 v3 d3 p3)
    (z0 : (d0.weights Try.prog 9).all (· ≤ reachBytes) = true) (z1 : (d1.weights Try.prog 33).all (· ≤ reachBytes) = true) (z2 : (d2.weights Try.prog 33).all (· ≤ reachBytes) = true) (z3 : (d3.weights Try.prog 23).all (· ≤ reachBytes) = true) :
    Calls Try.prog 5 #[v0, v1, v2, v3] W fun e w' => e = .returned (.bool true) ∧ Below W.heap.size W w' := by
  obtain ⟨s, rfl, hs⟩ := open_text o0 k0 z0
  obtain ⟨a, rfl⟩ := open_vec o1 k1
  obtain ⟨b, rfl⟩ := open_vec o2 k2
  obtain ⟨A, c, es, rfl, h1, h2, h3, h4⟩ := open_ents o3 k3 z3
  exact walk s a b A c es W h3 (by omega) h4 hs
end auditMergesOpen
end Go.Proofs.Ytelephoalpphkaa
