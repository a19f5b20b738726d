/- What a cut sees, in plain lists; the walk of AuditVisible. No conditions. -/
import Derived.Test.YtelephoalpphkaaAud29
set_option maxRecDepth 8000
namespace Go.Proofs.Ytelephoalpphkaa
open Go.ChangeShapes Go.WideShapes Go.ChangeAt Go.RowKit
set_option linter.unusedVariables false
set_option linter.unusedSimpArgs false
namespace Vec
theorem gtE_le {e m : Ent} (h : ¬ 0 < gtE e m) : e.st.c ≤ m.st.c := by
  rcases Int.lt_or_le m.st.c e.st.c with h1 | h1
  · exfalso; apply h
    have h2 : Stamp.cmpI e.st.c m.st.c = 1 := by unfold Stamp.cmpI; rw [if_neg (by omega), if_pos h1]
    simp [gtE, Stamp.cmpS, Stamp.firstNZ, h2]
  · exact h1
theorem gtE_ge {e m : Ent} (h : 0 < gtE e m) : m.st.c ≤ e.st.c := by
  rcases Int.lt_or_le e.st.c m.st.c with h1 | h1
  · exfalso
    have h2 : Stamp.cmpI e.st.c m.st.c = -1 := by unfold Stamp.cmpI; rw [if_pos h1]
    simp [gtE, Stamp.cmpS, Stamp.firstNZ, h2] at h
  · exact h1
theorem dot_at (e : Ent) {q : Nat} {u : Value} (hu : (dtCells (dotE e))[q]? = some u) : (entCells e)[q]? = some u := by
  match q, hu with
  | 0, hu => exact hu
  | 1, hu => exact hu
  | 2, hu => exact hu
  | q + 3, hu => cases hu
/-- is it a write of that key that the cut has? -/
def seenV (key : ByteArray) (cut : Vc) (e : Ent) : Bool := e.key.toList == key.toList && hasD cut (dotE e)
theorem seenV_iff {key : ByteArray} {cut : Vc} {e : Ent} : seenV key cut e = true ↔ e.key = key ∧ hasD cut (dotE e) = true := by
  unfold seenV
  rw [Bool.and_eq_true, beq_iff_eq]
  exact ⟨fun h => ⟨toList_inj h.1, h.2⟩, fun h => ⟨by rw [h.1], h.2⟩⟩
structure SInv (key : ByteArray) (cut : Vc) (seen : List Ent) (p : Ent × Bool) : Prop where
  yes : p.2 = true → p.1 ∈ seen ∧ seenV key cut p.1 = true ∧ ∀ e ∈ seen, seenV key cut e = true → e.st.c ≤ p.1.st.c
  no : p.2 = false → p.1 = ent0 ∧ ∀ e ∈ seen, seenV key cut e = false
theorem SInv.step {key : ByteArray} {cut : Vc} {seen : List Ent} {p : Ent × Bool} (h : SInv key cut seen p) (e : Ent) : SInv key cut (seen ++ [e]) (vStep key cut p e) := by
  have mem : ∀ {x : Ent}, x ∈ seen ++ [e] → x ∈ seen ∨ x = e := fun hx => (List.mem_append.1 hx).elim .inl (fun h => .inr (List.mem_singleton.1 h))
  unfold vStep
  by_cases hk : e.key = key ∧ hasD cut (dotE e) = true
  · have hk' := seenV_iff.2 hk
    rw [if_pos hk]
    by_cases hc : p.2 = false ∨ 0 < gtE e p.1
    · rw [if_pos hc]
      refine ⟨fun _ => ⟨by simp, hk', fun x hx hxk => ?_⟩, fun h => by cases h⟩
      rcases mem hx with hx | rfl
      · rcases hc with hc | hc
        · rw [(h.no hc).2 x hx] at hxk; cases hxk
        · cases hp : p.2
          · rw [(h.no hp).2 x hx] at hxk; cases hxk
          · exact Int.le_trans ((h.yes hp).2.2 x hx hxk) (gtE_ge hc)
      · exact Int.le_refl _
    · rw [if_neg hc]
      have hp : p.2 = true := by cases hp : p.2; exact absurd (.inl hp) hc; rfl
      refine ⟨fun _ => ⟨List.mem_append_left _ (h.yes hp).1, (h.yes hp).2.1, fun x hx hxk => ?_⟩, fun h => by rw [hp] at h; cases h⟩
      rcases mem hx with hx | rfl
      · exact (h.yes hp).2.2 x hx hxk
      · exact gtE_le (fun hg => hc (.inr hg))
  · have hk' : seenV key cut e = false := by cases hq : seenV key cut e; rfl; exact absurd (seenV_iff.1 hq) hk
    rw [if_neg hk]
    refine ⟨fun hp => ⟨List.mem_append_left _ (h.yes hp).1, (h.yes hp).2.1, fun x hx hxk => ?_⟩, fun hp => ⟨(h.no hp).1, fun x hx => ?_⟩⟩
    · rcases mem hx with hx | rfl
      · exact (h.yes hp).2.2 x hx hxk
      · rw [hk'] at hxk; cases hxk
    · rcases mem hx with hx | rfl
      · exact (h.no hp).2 x hx
      · exact hk'
theorem sinv_fold (key : ByteArray) (cut : Vc) : ∀ (l seen : List Ent) (p : Ent × Bool), SInv key cut seen p → SInv key cut (seen ++ l) (l.foldl (vStep key cut) p)
  | [], seen, p, h => by rw [List.append_nil]; exact h
  | e :: l, seen, p, h => by
    have := sinv_fold key cut l (seen ++ [e]) _ (h.step e)
    rw [List.append_assoc] at this
    exact this
theorem sinvV (key : ByteArray) (cut : Vc) (es : List Ent) : SInv key cut es (visible key cut es) := sinv_fold key cut es [] (ent0, false) ⟨fun h => (by cases h), fun _ => ⟨rfl, fun x hx => (by cases hx)⟩⟩
def anyS (key : ByteArray) (cut : Vc) (es : List Ent) : Bool := es.any (seenV key cut)
def anyT (key : ByteArray) (cut : Vc) (m : Ent) (es : List Ent) : Bool := es.any fun e => seenV key cut e && eqEnt e m
theorem anyS_snoc (key : ByteArray) (cut : Vc) (es : List Ent) (e : Ent) : anyS key cut (es ++ [e]) = (anyS key cut es || seenV key cut e) := by unfold anyS; rw [List.any_append]; simp
theorem anyT_snoc (key : ByteArray) (cut : Vc) (m : Ent) (es : List Ent) (e : Ent) : anyT key cut m (es ++ [e]) = (anyT key cut m es || (seenV key cut e && eqEnt e m)) := by unfold anyT; rw [List.any_append]; simp
/-- seen just if there is one; what is seen is one of them -/
theorem SInv.all {key : ByteArray} {cut : Vc} {es : List Ent} {m : Ent} {f : Bool} (h : SInv key cut es (m, f)) : f = anyS key cut es ∧ anyT key cut m es = anyS key cut es ∧ (f = false → m = ent0) := by
  cases f with
  | true =>
    have h1 := h.yes rfl
    have h2 : anyS key cut es = true := List.any_eq_true.2 ⟨m, h1.1, h1.2.1⟩
    have h3 : anyT key cut m es = true := List.any_eq_true.2 ⟨m, h1.1, by rw [h1.2.1, eqEnt_iff.2 rfl]; rfl⟩
    exact ⟨h2.symm, by rw [h2, h3], fun h => by cases h⟩
  | false =>
    have h1 := h.no rfl
    have h2 : anyS key cut es = false := List.any_eq_false.2 fun e he => by rw [h1.2 e he]; simp
    have h3 : anyT key cut m es = false := List.any_eq_false.2 fun e he => by rw [h1.2 e he]; simp
    exact ⟨h2.symm, by rw [h2, h3], fun _ => h1.1⟩
structure AvRel (w : World) (key : ByteArray) (cut : Vc) (es : List Ent) (m : Ent) (s : Nat) (vs vt vi : Value) (wr : World) : Prop where
  out : ∃ k : Nat, k ≤ es.length ∧ vs = .bool (anyS key cut (es.take k)) ∧ vt = .bool (anyT key cut m (es.take k)) ∧ vi = .int .i64 k ∧ Hid (EBx wr s m) ∧ Hid (Vec.VBx wr w.heap.size cut) ∧ Hid (Below w.heap.size w wr)
end Vec
namespace auditVisibleOpen
open Vec
set_option maxRecDepth 20000 in
set_option maxHeartbeats 8000000 in
theorem walk (key : ByteArray) (cut : Vc) (A : Option Addr) (c : Nat) (es : List Ent) (w : World) (hr : Mem.Rd w w.heap.size A (es.flatMap entCells)) (hn : es.length ≤ 8796093022208) (hd : ∀ e ∈ es, EntIn e) (hks : key.size ≤ 140737488351232) :
    Calls Try.prog 8 #[.string key, .agg (vcCells cut).toArray, .slice A es.length c] w fun e w' => e = .returned (.bool true) ∧ Below w.heap.size w w' := by
  have HR := Lib.hid hr
  have HD := Lib.hid hd
  clear hr hd
  go_enter Try.func8, Try.ntmps8
  go_upto_region 1 with fail
  obtain ⟨w1, hw1⟩ : ∃ z, w.alloc (.cells (vcCells cut).toArray 33) = z := ⟨_, rfl⟩
  have HV1 : Hid (Vec.VBx w1 w.heap.size cut) := by show Mem.Bx _ _ _ _ _; rw [← hw1]; exact Mem.Bx.new w 33 (vcCells cut).toArray rfl rfl
  have HB1 : Hid (Below w.heap.size w w1) := by show Below _ _ _; rw [← hw1]; exact Reg.below_new _ _
  rw [hw1]
  clear hw1
  go_wp2_with fail
  refine (auditAble_any w1).mono ?_
  rintro x w2 ⟨rfl, hb2⟩
  have HV2 : Hid (Vec.VBx w2 w.heap.size cut) := HV1.out.below hb2 HV1.out.lt
  have HB2 : Hid (Below w.heap.size w w2) := HB1.out.trans (hb2.mono HB1.out.size)
  clear hb2 HV1 HB1
  go_wp2_with fail
  refine (muchA_any none 0 [] A c es w w2 (.inl rfl) HR.out (by simp) (by omega) (fun e he => by cases he) HD.out HB2.out).mono ?_
  rintro x w3 ⟨b, rfl, hbn, hb3⟩
  have HV3 : Hid (Vec.VBx w3 w.heap.size cut) := HV2.out.below hb3 HV2.out.lt
  have HB3 : Hid (Below w.heap.size w w3) := HB2.out.trans (hb3.mono HB2.out.size)
  clear hb3 HV2 HB2
  by_cases hyes : b = true ∨ 1000 < key.size
  · skip
    rcases hyes with rfl | hk1
    · go_wp2
      go_ret
      exact ⟨rfl, HB3.out⟩
    · have hkd : decide ((1000 : Int) < (key.size : Int)) = true := by simp; omega
      cases b
      · go_wp2
        go_ret
        exact ⟨rfl, HB3.out⟩
      · go_wp2
        go_ret
        exact ⟨rfl, HB3.out⟩
  · obtain rfl : b = false := by cases b; rfl; exact absurd (.inl rfl) hyes
    have hkd : decide ((1000 : Int) < (key.size : Int)) = false := by simp; omega
    have hn3 : es.length ≤ 360 := by have := hbn rfl; simpa using this
    clear hyes hbn hn hks
    have hol := ents_len es
    have hoo := ents_one es
    obtain ⟨⟨m, fd⟩, hmf⟩ : ∃ mf, visible key cut es = mf := ⟨_, rfl⟩
    have HMF4 := Lib.hid hmf
    have HS := Lib.hid (hmf ▸ sinvV key cut es : SInv key cut es (m, fd))
    have HV4 := HV3
    have HB4 := HB3
    clear hmf
    go_upto_region 5 with fail
    refine Reg.wp_region_z (by kernel_rfl) 91 12 rfl rfl (by kernel_rfl) 90 91 (by decide) (10) (fun y => w3.heap.size ≤ y) (0) (fun _ => False) (0) (fun _ => False)
      (fun i f v u => match i with
        | 0 => v = .string key
        | 1 => v = .agg (vcCells cut).toArray
        | 2 => ∃ s0, v = .slice (some ⟨s0, 0, none⟩) 0 0 ∧ Mem.Own u 35 20 (some ⟨s0, 0, none⟩) 0 0 []
        | 3 => v = .slice A es.length c
        | 4 => ∃ A1 c1, v = .slice A1 es.length c1 ∧ Mem.Own u 35 20 A1 es.length c1 (es.flatMap entCells)
        | 5 => v = .tuple #[.agg (entCells m).toArray, .bool fd]
        | 6 => v = .tuple #[.agg (entCells m).toArray, .bool fd]
        | 7 => v = .agg (entCells m).toArray
        | 8 => v = .bool fd
        | 9 => ∃ s, v = .pointer (some ⟨s, 0, none⟩) ∧ w3.heap.size ≤ s ∧ EBx u s ent0
        | 10 => ∃ s, f 7 = .pointer (some ⟨s, 0, none⟩) ∧ w3.heap.size ≤ s ∧ EBx u s m
        | 11 => v = .bool fd
        | _ => True) ?_ ?_
    · refine Reg.StepsZ.cons ?_ (Reg.StepsZ.cons ?_ (Reg.StepsZ.cons ?_ (Reg.StepsZ.cons ?_ (Reg.StepsZ.cons ?_ (Reg.StepsZ.cons ?_ (Reg.StepsZ.cons ?_ (Reg.StepsZ.cons ?_ (Reg.StepsZ.cons ?_ (Reg.StepsZ.cons ?_ (Reg.StepsZ.cons ?_ (Reg.StepsZ.cons ?_ (Reg.StepsZ.nil _))))))))))))
      · intro val ac u hR hp hpq ha K hK0      -- 0: t22 := Op.move t0
        have hK := fun v w' h1 h2 => hK0 v w' h1 h2 (fun j f v' h _ => by omega)
        have e0 : (ac.tmps[0]?).getD undef = .string key := ha 0 (by decide)
        clear ha hp
        refine Reg.Op1.plain rfl ?_
        go_wp2
        exact ⟨rfl, hK _ _ rfl (Reg.Wr.same _)⟩
      · intro val ac u hR hp hpq ha K hK0      -- 1: t23 := Op.load 33 t4
        have hK := fun v w' h1 h2 => hK0 v w' h1 h2 (fun j f v' h _ => by omega)
        have e4 : (ac.tmps[4]?).getD undef = .pointer (some ⟨w.heap.size, 0, none⟩) := ha 4 (by decide)
        clear ha hp
        refine Reg.Op1.plain rfl ?_
        have hq : Mem.Keeps (fun _ => False ∨ False) w3 u := (Mem.Keeps.refl (fun _ => False ∨ False) w3).drew.trans (Reg.Wr.not1 hR (by decide +kernel)) (fun _ h _ => h)
        have hQu := HV4.out.keeps hq (fun h => h.elim id id)
        refine Mem.load_agg _ _ vec_agg w.heap.size 0 (vcCells cut) (Reg.eval_of e4) (vcCells_length _) (fun j u' hu => by rw [Nat.zero_add]; exact hQu.cell hu) ?_
        exact ⟨rfl, hK _ _ rfl (Reg.Wr.same _)⟩
      · intro val ac u hR hp hpq ha K hK0      -- 2: t24 := Op.buildSlice 23 0 #[]
        have hK := fun v w' h1 h2 => hK0 v w' h1 h2 (fun j f v' h _ => by omega)
        clear ha hp
        refine Reg.Op1.plain rfl ?_
        go_wp2
        exact ⟨rfl, hK _ _ ⟨u.heap.size, rfl, Mem.Own.lit u _ 20 #[] 0 rfl rfl (by simp [maxLen])⟩ (Reg.Wr.quiet ((Mem.Keeps.refl _ u).alloc _))⟩
      · intro val ac u hR hp hpq ha K hK0      -- 3: t25 := Op.move t2
        have hK := fun v w' h1 h2 => hK0 v w' h1 h2 (fun j f v' h _ => by omega)
        have e2 : (ac.tmps[2]?).getD undef = .slice A es.length c := ha 2 (by decide)
        clear ha hp
        refine Reg.Op1.plain rfl ?_
        go_wp2
        exact ⟨rfl, hK _ _ rfl (Reg.Wr.same _)⟩
      · intro val ac u hR hp hpq ha K hK0      -- 4: t26 := Op.call { builtin append, args := #[t24, t25], argTypes := #[23, 23] }
        have hK := fun v w' h1 h2 => hK0 v w' h1 h2 (fun j f v' h _ => by omega)
        obtain ⟨w24, h24, r24⟩ := hp 2 (by decide)
        have e24 : (ac.tmps[24]?).getD undef = val 2 := ha 24 (by decide)
        obtain ⟨w25, h25, r25⟩ := hp 3 (by decide)
        have e25 : (ac.tmps[25]?).getD undef = .slice A es.length c := (ha 25 (by decide)).trans h25
        clear h25
        clear ha hp
        refine Reg.Op1.plain rfl ?_
        obtain ⟨s0, hv, ho⟩ := h24
        rw [hv] at e24
        have ho' := ho.keeps (Reg.Wr.not1 r24 (by decide +kernel)) (fun _ _ h => h.elim id id)
        have hq : Mem.Keeps (fun _ => False ∨ False) w3 u := (Mem.Keeps.refl (fun _ => False ∨ False) w3).drew.trans (Reg.Wr.not1 hR (by decide +kernel)) (fun _ h _ => h)
        have hbu := HB4.out.trans (hq.below (B := w.heap.size) (fun k h => h.elim (fun h => h.elim) (fun h => h.elim)) HB4.out.size)
        refine Mem.wpList_app0 u rfl (.tmp 24) (.tmp 25) _ rfl entries_elem (some ⟨s0, 0, none⟩) (Reg.eval_of e24) w.heap.size A es.length c (es.flatMap entCells) (Reg.eval_of e25) ?_ ho' (HR.out.below hbu) hol hoo (by unfold maxLen; omega) (by omega)
        intro A' c' w' hown hbl hat
        exact ⟨rfl, hK _ _ ⟨A', c', rfl, hown⟩ (Reg.Wr.below hbl)⟩
      · intro val ac u hR hp hpq ha K hK0      -- 5: t27 := Op.call { value (Operand.func 15), args := #[t22, t23, t26], argTypes := #[9, 33, 23] }
        have hK := fun v w' h1 h2 => hK0 v w' h1 h2 (fun j f v' h _ => by omega)
        obtain ⟨w22, h22, r22⟩ := hp 0 (by decide)
        have e22 : (ac.tmps[22]?).getD undef = .string key := (ha 22 (by decide)).trans h22
        clear h22
        obtain ⟨w23, h23, r23⟩ := hp 1 (by decide)
        have e23 : (ac.tmps[23]?).getD undef = .agg (vcCells cut).toArray := (ha 23 (by decide)).trans h23
        clear h23
        obtain ⟨w26, h26, r26⟩ := hp 4 (by decide)
        have e26 : (ac.tmps[26]?).getD undef = val 4 := ha 26 (by decide)
        clear ha hp
        refine Reg.Op1.plain rfl ?_
        obtain ⟨A1, c1, hv, ho⟩ := h26
        rw [hv] at e26
        have ho' := ho.keeps (Reg.Wr.not1 r26 (by decide +kernel)) (fun _ _ h => h.elim id id)
        go_wp2_with fail
        refine (visible_any key cut A1 c1 es u.heap.size u ho'.rd (Nat.le_refl _) (by unfold maxLen; omega)).mono ?_
        rintro x w' ⟨rfl, hbw⟩
        rw [HMF4.out]
        go_wp2_with fail
        exact ⟨rfl, hK _ _ rfl (Reg.Wr.below hbw)⟩
      · intro val ac u hR hp hpq ha K hK0      -- 6: t21 := Op.move t27
        have hK := fun v w' h1 h2 => hK0 v w' h1 h2 (fun j f v' h _ => by omega)
        obtain ⟨w27, h27, r27⟩ := hp 5 (by decide)
        have e27 : (ac.tmps[27]?).getD undef = .tuple #[.agg (entCells m).toArray, .bool fd] := (ha 27 (by decide)).trans h27
        clear h27
        clear ha hp
        refine Reg.Op1.plain rfl ?_
        go_wp2
        exact ⟨rfl, hK _ _ rfl (Reg.Wr.same _)⟩
      · intro val ac u hR hp hpq ha K hK0      -- 7: t28 := Op.extract t21 0
        have hK := fun v w' h1 h2 => hK0 v w' h1 h2 (fun j f v' h _ => by omega)
        obtain ⟨w21, h21, r21⟩ := hp 6 (by decide)
        have e21 : (ac.tmps[21]?).getD undef = .tuple #[.agg (entCells m).toArray, .bool fd] := (ha 21 (by decide)).trans h21
        clear h21
        clear ha hp
        refine Reg.Op1.plain rfl ?_
        go_wp2
        exact ⟨rfl, hK _ _ rfl (Reg.Wr.same _)⟩
      · intro val ac u hR hp hpq ha K hK0      -- 8: t29 := Op.extract t21 1
        have hK := fun v w' h1 h2 => hK0 v w' h1 h2 (fun j f v' h _ => by omega)
        obtain ⟨w21, h21, r21⟩ := hp 6 (by decide)
        have e21 : (ac.tmps[21]?).getD undef = .tuple #[.agg (entCells m).toArray, .bool fd] := (ha 21 (by decide)).trans h21
        clear h21
        clear ha hp
        refine Reg.Op1.plain rfl ?_
        go_wp2
        exact ⟨rfl, hK _ _ rfl (Reg.Wr.same _)⟩
      · intro val ac u hR hp hpq ha K hK0      -- 9: t7 := Op.alloc 35
        have hK := fun v w' h1 h2 => hK0 v w' h1 h2 (fun j f v' h _ => by omega)
        clear ha hp
        refine Reg.Op1.plain rfl ?_
        have hbu : w3.heap.size ≤ u.heap.size := (Reg.Wr.all hR).size
        go_wp2
        exact ⟨rfl, hK _ _ ⟨u.heap.size, rfl, hbu, Mem.Bx.new u 35 (entCells ent0).toArray rfl rfl⟩ (Reg.Wr.quiet ((Mem.Keeps.refl _ u).alloc _))⟩
      · intro val ac u hR hp hpq ha K hK0      -- 10: Op.store 35 t7 t28
        have hK := fun v w' h1 h2 => hK0 v w' h1 h2 (fun j f v' h _ => by omega)
        obtain ⟨w7, h7, r7⟩ := hp 9 (by decide)
        have e7 : (ac.tmps[7]?).getD undef = val 9 := ha 7 (by decide)
        obtain ⟨w28, h28, r28⟩ := hp 7 (by decide)
        have e28 : (ac.tmps[28]?).getD undef = .agg (entCells m).toArray := (ha 28 (by decide)).trans h28
        clear h28
        clear ha hp
        refine Reg.Op1.plain rfl ?_
        obtain ⟨s, hv, hs, hbx⟩ := h7
        have hv7 := hv
        rw [hv] at e7
        have hbx' : EBx u s ent0 := hbx.keeps (Reg.Wr.not1 r7 (by decide +kernel)) (fun h => h.elim id id)
        refine Mem.store_agg _ _ entry_agg s (entCells ent0) (entCells m) (Reg.eval_of e7) (Reg.eval_of e28) hbx' (entCells_length _) (ent_one _) ?_
        intro w' hb hk hs'
        exact ⟨rfl, hK undef _ ⟨s, hv7, hs, hb⟩ (Reg.Wr.does1 (hk.mono (fun i h _ => by show w3.heap.size ≤ i; omega)))⟩
      · intro val ac u hR hp hpq ha K hK0      -- 11: t8 := Op.assign t29
        have hK := fun v w' h1 h2 => hK0 v w' h1 h2 (fun j f v' h _ => by omega)
        obtain ⟨w29, h29, r29⟩ := hp 8 (by decide)
        have e29 : (ac.tmps[29]?).getD undef = .bool fd := (ha 29 (by decide)).trans h29
        clear h29
        clear ha hp
        refine Reg.Op1.plain rfl ?_
        go_wp2
        exact ⟨rfl, hK _ _ rfl (Reg.Wr.same _)⟩
    intro val u hR H hZ
    obtain ⟨wA, ⟨s, hv7, hs, hb⟩, rA⟩ := H 10 (by decide)
    have hv7 : val 9 = .pointer (some ⟨s, 0, none⟩) := hv7
    obtain ⟨wB, hv8, rB⟩ := H 11 (by decide)
    have hv8 : val 11 = .bool fd := hv8
    have hq : Mem.Keeps (fun y => w3.heap.size ≤ y ∨ False ∨ False) w3 u := (Mem.Keeps.refl (fun y => w3.heap.size ≤ y ∨ False ∨ False) w3).drew.trans (Reg.Wr.all hR) (fun _ h _ => h)
    have hne : ∀ y, y < w3.heap.size → ¬ (w3.heap.size ≤ y ∨ False ∨ False) := fun y hy h => by rcases h with h | h | h <;> first | omega | exact h
    have HE7 : Hid (EBx u s m) := hb.keeps (Reg.Wr.not1 rA (by decide +kernel)) (fun h => h.elim id id)
    have HK7 : Hid (Below w3.heap.size w3 u) := hq.below (fun y h => by rcases h with h | h | h <;> first | exact h | exact h.elim) (Nat.le_refl _)
    simp only [List.map_cons, List.map_nil, Reg.lay, Act.put, List.setIfInBounds_toArray, List.set_cons_succ, List.set_cons_zero, Nat.reduceAdd, hv7, hv8]
    clear hR H hZ hq hb rA rB hv7 hv8 hne hs
    obtain ⟨w4, hw4⟩ : ∃ z, z = u := ⟨_, rfl⟩
    subst hw4
    have HV5 : Hid (Vec.VBx w4 w.heap.size cut) := HV4.out.below HK7.out HV4.out.lt
    have HB5 : Hid (Below w.heap.size w w4) := HB4.out.trans (HK7.out.mono HB4.out.size)
    clear HV4 HB4 HV3 HB3 HK7 hol hoo
    go_wp2
    go_loopw [9, 10, 11] (AvRel w key cut es m s) (fun _ _ t _ => es.length - (intOf t).toNat)
    case atStart => exact ⟨⟨0, by omega, rfl, rfl, rfl, HE7, HV5, HB5⟩⟩
    case round =>
      clear HE7 HV5 HB5
      obtain ⟨k, hk, rfl, rfl, rfl, HE, HV, HB⟩ := hrel.out
      clear hrel
      by_cases hlt : k < es.length
      · obtain ⟨b, o, e, rfl, hb, he, hat⟩ := Vec.ent_elem HR.out hlt
        have d0 : decide ((k : Int) < (es.length : Int)) = true := by simp; omega
        have HTK := Lib.hid (show anyS key cut (es.take (k + 1)) = (anyS key cut (es.take k) || seenV key cut e) by rw [Mem.take_snoc he, anyS_snoc])
        have HTT := Lib.hid (show anyT key cut m (es.take (k + 1)) = (anyT key cut m (es.take k) || (seenV key cut e && eqEnt e m)) by rw [Mem.take_snoc he, anyT_snoc])
        have HME := Lib.hid (List.mem_of_getElem? he)
        have HLT := Lib.hid hlt
        have HAT := Lib.hid (hat.below HB.out hb)
        have hbw := Nat.lt_of_lt_of_le hb HB.out.size
        clear hat he hlt
        go_upto_region 10 with fail
        by_cases hkey : e.key = key
        · have HKD : Hid ((e.key.toList == key.toList) = true) := Vec.str_eq hkey
          cases hhd : hasD cut (dotE e)
          · have hsv : seenV key cut e = false := by unfold seenV; rw [hhd, Bool.and_false]
            have HHD := Lib.hid hhd
            clear hkey hhd
            have HAK : Hid (anyS key cut (es.take (k + 1)) = anyS key cut (es.take k)) := by show _ = _; rw [HTK.out, hsv, Bool.or_false]
            have HAT2 : Hid (anyT key cut m (es.take (k + 1)) = anyT key cut m (es.take k)) := by show _ = _; rw [HTT.out, hsv, Bool.false_and, Bool.or_false]
            clear hsv HTK HTT HME
            refine Reg.wp_region_rel (by kernel_rfl) 91 17 rfl rfl (by kernel_rfl) (Reg.Adds) (Reg.Adds.refl) (Reg.Adds.trans)
              (fun i v u => match i with
                | 0 => v = .slice (some ⟨b, o, none⟩) es.length c
                | 1 => v = .int .i64 k
                | 2 => v = .pointer (some ⟨b, o + k * 20, none⟩)
                | 3 => v = .pointer (some ⟨b, o + k * 20 + 6, none⟩)
                | 4 => v = .string e.key
                | 5 => v = .string key
                | 6 => v = .bool false
                | 7 => v = .bool false
                | 8 => v = .agg (vcCells cut).toArray
                | 9 => v = .slice (some ⟨b, o, none⟩) es.length c
                | 10 => v = .int .i64 k
                | 11 => v = .pointer (some ⟨b, o + k * 20, none⟩)
                | 12 => v = .pointer (some ⟨b, o + k * 20, none⟩)
                | 13 => v = .agg (dtCells (dotE e)).toArray
                | 14 => v = .bool false
                | 15 => v = .bool true
                | 16 => v = .bool true
                | _ => True) ?_ ?_
            · refine Reg.Steps.cons ?_ (Reg.Steps.cons ?_ (Reg.Steps.cons ?_ (Reg.Steps.cons ?_ (Reg.Steps.cons ?_ (Reg.Steps.cons ?_ (Reg.Steps.cons ?_ (Reg.Steps.cons ?_ (Reg.Steps.cons ?_ (Reg.Steps.cons ?_ (Reg.Steps.cons ?_ (Reg.Steps.cons ?_ (Reg.Steps.cons ?_ (Reg.Steps.cons ?_ (Reg.Steps.cons ?_ (Reg.Steps.cons ?_ (Reg.Steps.cons ?_ (Reg.Steps.nil _)))))))))))))))))
              · intro val ac u hR hp ha K hK      -- 0: t36 := Op.move t2
                have e2 : (ac.tmps[2]?).getD undef = .slice (some ⟨b, o, none⟩) es.length c := ha 2 (by decide)
                clear ha hp
                refine Reg.Op1.plain rfl ?_
                go_wp2
                exact ⟨rfl, hK _ _ rfl (fun j k _ _ => Reg.Adds.refl _ _ _)⟩
              · intro val ac u hR hp ha K hK      -- 1: t37 := Op.move t11
                have e11 : (ac.tmps[11]?).getD undef = .int .i64 k := ha 11 (by decide)
                clear ha hp
                refine Reg.Op1.plain rfl ?_
                go_wp2
                exact ⟨rfl, hK _ _ rfl (fun j k _ _ => Reg.Adds.refl _ _ _)⟩
              · intro val ac u hR hp ha K hK      -- 2: t38 := Op.indexAddr 23 t36 t37
                obtain ⟨w36, h36, r36⟩ := hp 0 (by decide)
                have e36 : (ac.tmps[36]?).getD undef = .slice (some ⟨b, o, none⟩) es.length c := (ha 36 (by decide)).trans h36
                clear h36
                obtain ⟨w37, h37, r37⟩ := hp 1 (by decide)
                have e37 : (ac.tmps[37]?).getD undef = .int .i64 k := (ha 37 (by decide)).trans h37
                clear h37
                clear ha hp
                refine Reg.Op1.plain rfl ?_
                go_wp2
                exact ⟨rfl, hK _ _ rfl (fun j k _ _ => Reg.Adds.refl _ _ _)⟩
              · intro val ac u hR hp ha K hK      -- 3: t39 := Op.fieldAddr 35 t38 2
                obtain ⟨w38, h38, r38⟩ := hp 2 (by decide)
                have e38 : (ac.tmps[38]?).getD undef = .pointer (some ⟨b, o + k * 20, none⟩) := (ha 38 (by decide)).trans h38
                clear h38
                clear ha hp
                refine Reg.Op1.plain rfl ?_
                go_wp2
                exact ⟨rfl, hK _ _ rfl (fun j k _ _ => Reg.Adds.refl _ _ _)⟩
              · intro val ac u hR hp ha K hK      -- 4: t40 := Op.load 9 t39
                obtain ⟨w39, h39, r39⟩ := hp 3 (by decide)
                have e39 : (ac.tmps[39]?).getD undef = .pointer (some ⟨b, o + k * 20 + 6, none⟩) := (ha 39 (by decide)).trans h39
                clear h39
                clear ha hp
                refine Reg.Op1.plain rfl ?_
                have x6 := (hR.cell (p := ⟨b, o + k * 20 + 6, none⟩) hbw).trans (HAT.out.c 6 _ rfl)
                go_wp2
                exact ⟨rfl, hK _ _ rfl (fun j k _ _ => Reg.Adds.refl _ _ _)⟩
              · intro val ac u hR hp ha K hK      -- 5: t41 := Op.move t0
                have e0 : (ac.tmps[0]?).getD undef = .string key := ha 0 (by decide)
                clear ha hp
                refine Reg.Op1.plain rfl ?_
                go_wp2
                exact ⟨rfl, hK _ _ rfl (fun j k _ _ => Reg.Adds.refl _ _ _)⟩
              · intro val ac u hR hp ha K hK      -- 6: t42 := Op.binOp BinOp.neq 9 t40 t41 9
                obtain ⟨w40, h40, r40⟩ := hp 4 (by decide)
                have e40 : (ac.tmps[40]?).getD undef = .string e.key := (ha 40 (by decide)).trans h40
                clear h40
                obtain ⟨w41, h41, r41⟩ := hp 5 (by decide)
                have e41 : (ac.tmps[41]?).getD undef = .string key := (ha 41 (by decide)).trans h41
                clear h41
                clear ha hp
                have hkd := HKD.out
                refine Reg.Op1.plain rfl ?_
                go_wp2
                exact ⟨rfl, hK _ _ rfl (fun j k _ _ => Reg.Adds.refl _ _ _)⟩
              · intro val ac u hR hp ha K hK      -- 7: t43 := Op.move t42
                obtain ⟨w42, h42, r42⟩ := hp 6 (by decide)
                have e42 : (ac.tmps[42]?).getD undef = .bool false := (ha 42 (by decide)).trans h42
                clear h42
                clear ha hp
                refine Reg.Op1.plain rfl ?_
                go_wp2
                exact ⟨rfl, hK _ _ rfl (fun j k _ _ => Reg.Adds.refl _ _ _)⟩
              · intro val ac u hR hp ha K hK      -- 8: t44 := Op.load 33 t4
                have e4 : (ac.tmps[4]?).getD undef = .pointer (some ⟨w.heap.size, 0, none⟩) := ha 4 (by decide)
                obtain ⟨w43, h43, r43⟩ := hp 7 (by decide)
                have e43 : (ac.tmps[43]?).getD undef = .bool false := (ha 43 (by decide)).trans h43
                clear h43
                clear ha hp
                refine Reg.Op1.guarded rfl rfl e43 (fun _ => Reg.Op1.plain rfl ?_) (fun h => absurd rfl h)
                have hVu : Vec.VBx u w.heap.size cut := Mem.Bx.below (w := wr.drew) HV.out hR HV.out.lt
                refine Mem.load_aggG _ _ vec_agg w.heap.size 0 (vcCells cut) (by simp [Region.wanted]) (Reg.eval_of e4) (vcCells_length _) (fun j u' hu => by rw [Nat.zero_add]; exact hVu.cell hu) ?_
                exact ⟨rfl, hK _ _ rfl (fun j k _ _ => Reg.Adds.refl _ _ _)⟩
              · intro val ac u hR hp ha K hK      -- 9: t45 := Op.move t2
                have e2 : (ac.tmps[2]?).getD undef = .slice (some ⟨b, o, none⟩) es.length c := ha 2 (by decide)
                obtain ⟨w43, h43, r43⟩ := hp 7 (by decide)
                have e43 : (ac.tmps[43]?).getD undef = .bool false := (ha 43 (by decide)).trans h43
                clear h43
                clear ha hp
                refine Reg.Op1.guarded rfl rfl e43 (fun _ => Reg.Op1.plain rfl ?_) (fun h => absurd rfl h)
                go_wp2
                exact ⟨rfl, hK _ _ rfl (fun j k _ _ => Reg.Adds.refl _ _ _)⟩
              · intro val ac u hR hp ha K hK      -- 10: t46 := Op.move t11
                have e11 : (ac.tmps[11]?).getD undef = .int .i64 k := ha 11 (by decide)
                obtain ⟨w43, h43, r43⟩ := hp 7 (by decide)
                have e43 : (ac.tmps[43]?).getD undef = .bool false := (ha 43 (by decide)).trans h43
                clear h43
                clear ha hp
                refine Reg.Op1.guarded rfl rfl e43 (fun _ => Reg.Op1.plain rfl ?_) (fun h => absurd rfl h)
                go_wp2
                exact ⟨rfl, hK _ _ rfl (fun j k _ _ => Reg.Adds.refl _ _ _)⟩
              · intro val ac u hR hp ha K hK      -- 11: t47 := Op.indexAddr 23 t45 t46
                obtain ⟨w45, h45, r45⟩ := hp 9 (by decide)
                have e45 : (ac.tmps[45]?).getD undef = .slice (some ⟨b, o, none⟩) es.length c := (ha 45 (by decide)).trans h45
                clear h45
                obtain ⟨w46, h46, r46⟩ := hp 10 (by decide)
                have e46 : (ac.tmps[46]?).getD undef = .int .i64 k := (ha 46 (by decide)).trans h46
                clear h46
                obtain ⟨w43, h43, r43⟩ := hp 7 (by decide)
                have e43 : (ac.tmps[43]?).getD undef = .bool false := (ha 43 (by decide)).trans h43
                clear h43
                clear ha hp
                refine Reg.Op1.guarded rfl rfl e43 (fun _ => Reg.Op1.plain rfl ?_) (fun h => absurd rfl h)
                go_wp2
                exact ⟨rfl, hK _ _ rfl (fun j k _ _ => Reg.Adds.refl _ _ _)⟩
              · intro val ac u hR hp ha K hK      -- 12: t48 := Op.fieldAddr 35 t47 0
                obtain ⟨w47, h47, r47⟩ := hp 11 (by decide)
                have e47 : (ac.tmps[47]?).getD undef = .pointer (some ⟨b, o + k * 20, none⟩) := (ha 47 (by decide)).trans h47
                clear h47
                obtain ⟨w43, h43, r43⟩ := hp 7 (by decide)
                have e43 : (ac.tmps[43]?).getD undef = .bool false := (ha 43 (by decide)).trans h43
                clear h43
                clear ha hp
                refine Reg.Op1.guarded rfl rfl e43 (fun _ => Reg.Op1.plain rfl ?_) (fun h => absurd rfl h)
                go_wp2
                exact ⟨rfl, hK _ _ rfl (fun j k _ _ => Reg.Adds.refl _ _ _)⟩
              · intro val ac u hR hp ha K hK      -- 13: t49 := Op.load 28 t48
                obtain ⟨w48, h48, r48⟩ := hp 12 (by decide)
                have e48 : (ac.tmps[48]?).getD undef = .pointer (some ⟨b, o + k * 20, none⟩) := (ha 48 (by decide)).trans h48
                clear h48
                obtain ⟨w43, h43, r43⟩ := hp 7 (by decide)
                have e43 : (ac.tmps[43]?).getD undef = .bool false := (ha 43 (by decide)).trans h43
                clear h43
                clear ha hp
                refine Reg.Op1.guarded rfl rfl e43 (fun _ => Reg.Op1.plain rfl ?_) (fun h => absurd rfl h)
                refine Mem.load_aggG _ _ dot_agg b (o + k * 20) (dtCells (dotE e)) (by simp [Region.wanted]) (Reg.eval_of e48) (dtCells_length _) (fun q u' hu => (hR.cell (p := ⟨b, o + k * 20 + q, none⟩) hbw).trans (HAT.out.c q u' (Vec.dot_at e hu))) ?_
                exact ⟨rfl, hK _ _ rfl (fun j k _ _ => Reg.Adds.refl _ _ _)⟩
              · intro val ac u hR hp ha K hK      -- 14: t50 := Op.call { value (Operand.func 20), args := #[t44, t49], argTypes := #[33, 28] }
                obtain ⟨w44, h44, r44⟩ := hp 8 (by decide)
                have e44 : (ac.tmps[44]?).getD undef = .agg (vcCells cut).toArray := (ha 44 (by decide)).trans h44
                clear h44
                obtain ⟨w49, h49, r49⟩ := hp 13 (by decide)
                have e49 : (ac.tmps[49]?).getD undef = .agg (dtCells (dotE e)).toArray := (ha 49 (by decide)).trans h49
                clear h49
                obtain ⟨w43, h43, r43⟩ := hp 7 (by decide)
                have e43 : (ac.tmps[43]?).getD undef = .bool false := (ha 43 (by decide)).trans h43
                clear h43
                clear ha hp
                refine Reg.Op1.guarded rfl rfl e43 (fun _ => Reg.Op1.plain rfl ?_) (fun h => absurd rfl h)
                go_wp2_with fail
                refine (hasD_any cut (dotE e) u).mono ?_
                rintro x w' ⟨rfl, hbw⟩
                rw [HHD.out]
                go_wp2_with fail
                exact ⟨rfl, hK _ _ rfl (fun j k _ _ => hbw)⟩
              · intro val ac u hR hp ha K hK      -- 15: t51 := Op.unOp UnOp.not 4 t50
                obtain ⟨w50, h50, r50⟩ := hp 14 (by decide)
                have e50 : (ac.tmps[50]?).getD undef = .bool false := (ha 50 (by decide)).trans h50
                clear h50
                obtain ⟨w43, h43, r43⟩ := hp 7 (by decide)
                have e43 : (ac.tmps[43]?).getD undef = .bool false := (ha 43 (by decide)).trans h43
                clear h43
                clear ha hp
                refine Reg.Op1.guarded rfl rfl e43 (fun _ => Reg.Op1.plain rfl ?_) (fun h => absurd rfl h)
                go_wp2
                exact ⟨rfl, hK _ _ rfl (fun j k _ _ => Reg.Adds.refl _ _ _)⟩
              · intro val ac u hR hp ha K hK      -- 16: t52 := Op.pick t43 (const (Value.bool true)) t51
                obtain ⟨w43, h43, r43⟩ := hp 7 (by decide)
                have e43 : (ac.tmps[43]?).getD undef = .bool false := (ha 43 (by decide)).trans h43
                clear h43
                obtain ⟨w51, h51, r51⟩ := hp 15 (by decide)
                have e51 : (ac.tmps[51]?).getD undef = .bool true := (ha 51 (by decide)).trans h51
                clear h51
                clear ha hp
                refine Reg.Op1.plain rfl ?_
                go_wp2
                exact ⟨rfl, hK _ _ rfl (fun j k _ _ => Reg.Adds.refl _ _ _)⟩
            intro val u hR H
            obtain ⟨wB, hv, rB⟩ := H 16 (by decide)
            have hv : val 16 = .bool true := hv
            have HKu : Hid (Below wr.heap.size wr u) := (Below.refl _ wr).drew.trans hR
            simp only [List.map_cons, List.map_nil, Reg.lay, Act.put, List.setIfInBounds_toArray, List.set_cons_succ, List.set_cons_zero, Nat.reduceAdd, hv]
            clear hR H hv rB
            obtain ⟨wy, hwy⟩ : ∃ z, z = u := ⟨_, rfl⟩
            subst hwy
            go_wp2
            go_roundw
            case rel => exact ⟨⟨k + 1, HLT.out, by rw [HAK.out], by rw [HAT2.out], by go_num, HE.out.below HKu.out HE.out.lt, HV.out.below HKu.out HV.out.lt, HB.out.trans (HKu.out.mono HB.out.size)⟩⟩
            case measure => exact Au.meas_lt HLT.out
          · have hsv : seenV key cut e = true := by unfold seenV; rw [hhd, HKD.out]; rfl
            have HHD := Lib.hid hhd
            have hfd : fd = true := by
              cases hfd : fd
              · have h1 := (HS.out.no hfd).2 e HME.out
                rw [h1] at hsv; cases hsv
              · rfl
            have hcnt := (HS.out.yes hfd).2.2 e HME.out hsv
            have HAK : Hid (anyS key cut (es.take (k + 1)) = true) := by show _ = _; rw [HTK.out, hsv, Bool.or_true]
            have HAT2 : Hid (anyT key cut m (es.take (k + 1)) = (anyT key cut m (es.take k) || eqEnt e m)) := by show _ = _; rw [HTT.out, hsv, Bool.true_and]
            have HCNT : Hid (decide (m.st.c < e.st.c) = false) := by show _ = _; simp; omega
            subst hfd
            clear hkey hhd hsv hcnt HTK HTT HME
            refine Reg.wp_region_rel (by kernel_rfl) 91 17 rfl rfl (by kernel_rfl) (Reg.Adds) (Reg.Adds.refl) (Reg.Adds.trans)
              (fun i v u => match i with
                | 0 => v = .slice (some ⟨b, o, none⟩) es.length c
                | 1 => v = .int .i64 k
                | 2 => v = .pointer (some ⟨b, o + k * 20, none⟩)
                | 3 => v = .pointer (some ⟨b, o + k * 20 + 6, none⟩)
                | 4 => v = .string e.key
                | 5 => v = .string key
                | 6 => v = .bool false
                | 7 => v = .bool false
                | 8 => v = .agg (vcCells cut).toArray
                | 9 => v = .slice (some ⟨b, o, none⟩) es.length c
                | 10 => v = .int .i64 k
                | 11 => v = .pointer (some ⟨b, o + k * 20, none⟩)
                | 12 => v = .pointer (some ⟨b, o + k * 20, none⟩)
                | 13 => v = .agg (dtCells (dotE e)).toArray
                | 14 => v = .bool true
                | 15 => v = .bool false
                | 16 => v = .bool false
                | _ => True) ?_ ?_
            · refine Reg.Steps.cons ?_ (Reg.Steps.cons ?_ (Reg.Steps.cons ?_ (Reg.Steps.cons ?_ (Reg.Steps.cons ?_ (Reg.Steps.cons ?_ (Reg.Steps.cons ?_ (Reg.Steps.cons ?_ (Reg.Steps.cons ?_ (Reg.Steps.cons ?_ (Reg.Steps.cons ?_ (Reg.Steps.cons ?_ (Reg.Steps.cons ?_ (Reg.Steps.cons ?_ (Reg.Steps.cons ?_ (Reg.Steps.cons ?_ (Reg.Steps.cons ?_ (Reg.Steps.nil _)))))))))))))))))
              · intro val ac u hR hp ha K hK      -- 0: t36 := Op.move t2
                have e2 : (ac.tmps[2]?).getD undef = .slice (some ⟨b, o, none⟩) es.length c := ha 2 (by decide)
                clear ha hp
                refine Reg.Op1.plain rfl ?_
                go_wp2
                exact ⟨rfl, hK _ _ rfl (fun j k _ _ => Reg.Adds.refl _ _ _)⟩
              · intro val ac u hR hp ha K hK      -- 1: t37 := Op.move t11
                have e11 : (ac.tmps[11]?).getD undef = .int .i64 k := ha 11 (by decide)
                clear ha hp
                refine Reg.Op1.plain rfl ?_
                go_wp2
                exact ⟨rfl, hK _ _ rfl (fun j k _ _ => Reg.Adds.refl _ _ _)⟩
              · intro val ac u hR hp ha K hK      -- 2: t38 := Op.indexAddr 23 t36 t37
                obtain ⟨w36, h36, r36⟩ := hp 0 (by decide)
                have e36 : (ac.tmps[36]?).getD undef = .slice (some ⟨b, o, none⟩) es.length c := (ha 36 (by decide)).trans h36
                clear h36
                obtain ⟨w37, h37, r37⟩ := hp 1 (by decide)
                have e37 : (ac.tmps[37]?).getD undef = .int .i64 k := (ha 37 (by decide)).trans h37
                clear h37
                clear ha hp
                refine Reg.Op1.plain rfl ?_
                go_wp2
                exact ⟨rfl, hK _ _ rfl (fun j k _ _ => Reg.Adds.refl _ _ _)⟩
              · intro val ac u hR hp ha K hK      -- 3: t39 := Op.fieldAddr 35 t38 2
                obtain ⟨w38, h38, r38⟩ := hp 2 (by decide)
                have e38 : (ac.tmps[38]?).getD undef = .pointer (some ⟨b, o + k * 20, none⟩) := (ha 38 (by decide)).trans h38
                clear h38
                clear ha hp
                refine Reg.Op1.plain rfl ?_
                go_wp2
                exact ⟨rfl, hK _ _ rfl (fun j k _ _ => Reg.Adds.refl _ _ _)⟩
              · intro val ac u hR hp ha K hK      -- 4: t40 := Op.load 9 t39
                obtain ⟨w39, h39, r39⟩ := hp 3 (by decide)
                have e39 : (ac.tmps[39]?).getD undef = .pointer (some ⟨b, o + k * 20 + 6, none⟩) := (ha 39 (by decide)).trans h39
                clear h39
                clear ha hp
                refine Reg.Op1.plain rfl ?_
                have x6 := (hR.cell (p := ⟨b, o + k * 20 + 6, none⟩) hbw).trans (HAT.out.c 6 _ rfl)
                go_wp2
                exact ⟨rfl, hK _ _ rfl (fun j k _ _ => Reg.Adds.refl _ _ _)⟩
              · intro val ac u hR hp ha K hK      -- 5: t41 := Op.move t0
                have e0 : (ac.tmps[0]?).getD undef = .string key := ha 0 (by decide)
                clear ha hp
                refine Reg.Op1.plain rfl ?_
                go_wp2
                exact ⟨rfl, hK _ _ rfl (fun j k _ _ => Reg.Adds.refl _ _ _)⟩
              · intro val ac u hR hp ha K hK      -- 6: t42 := Op.binOp BinOp.neq 9 t40 t41 9
                obtain ⟨w40, h40, r40⟩ := hp 4 (by decide)
                have e40 : (ac.tmps[40]?).getD undef = .string e.key := (ha 40 (by decide)).trans h40
                clear h40
                obtain ⟨w41, h41, r41⟩ := hp 5 (by decide)
                have e41 : (ac.tmps[41]?).getD undef = .string key := (ha 41 (by decide)).trans h41
                clear h41
                clear ha hp
                have hkd := HKD.out
                refine Reg.Op1.plain rfl ?_
                go_wp2
                exact ⟨rfl, hK _ _ rfl (fun j k _ _ => Reg.Adds.refl _ _ _)⟩
              · intro val ac u hR hp ha K hK      -- 7: t43 := Op.move t42
                obtain ⟨w42, h42, r42⟩ := hp 6 (by decide)
                have e42 : (ac.tmps[42]?).getD undef = .bool false := (ha 42 (by decide)).trans h42
                clear h42
                clear ha hp
                refine Reg.Op1.plain rfl ?_
                go_wp2
                exact ⟨rfl, hK _ _ rfl (fun j k _ _ => Reg.Adds.refl _ _ _)⟩
              · intro val ac u hR hp ha K hK      -- 8: t44 := Op.load 33 t4
                have e4 : (ac.tmps[4]?).getD undef = .pointer (some ⟨w.heap.size, 0, none⟩) := ha 4 (by decide)
                obtain ⟨w43, h43, r43⟩ := hp 7 (by decide)
                have e43 : (ac.tmps[43]?).getD undef = .bool false := (ha 43 (by decide)).trans h43
                clear h43
                clear ha hp
                refine Reg.Op1.guarded rfl rfl e43 (fun _ => Reg.Op1.plain rfl ?_) (fun h => absurd rfl h)
                have hVu : Vec.VBx u w.heap.size cut := Mem.Bx.below (w := wr.drew) HV.out hR HV.out.lt
                refine Mem.load_aggG _ _ vec_agg w.heap.size 0 (vcCells cut) (by simp [Region.wanted]) (Reg.eval_of e4) (vcCells_length _) (fun j u' hu => by rw [Nat.zero_add]; exact hVu.cell hu) ?_
                exact ⟨rfl, hK _ _ rfl (fun j k _ _ => Reg.Adds.refl _ _ _)⟩
              · intro val ac u hR hp ha K hK      -- 9: t45 := Op.move t2
                have e2 : (ac.tmps[2]?).getD undef = .slice (some ⟨b, o, none⟩) es.length c := ha 2 (by decide)
                obtain ⟨w43, h43, r43⟩ := hp 7 (by decide)
                have e43 : (ac.tmps[43]?).getD undef = .bool false := (ha 43 (by decide)).trans h43
                clear h43
                clear ha hp
                refine Reg.Op1.guarded rfl rfl e43 (fun _ => Reg.Op1.plain rfl ?_) (fun h => absurd rfl h)
                go_wp2
                exact ⟨rfl, hK _ _ rfl (fun j k _ _ => Reg.Adds.refl _ _ _)⟩
              · intro val ac u hR hp ha K hK      -- 10: t46 := Op.move t11
                have e11 : (ac.tmps[11]?).getD undef = .int .i64 k := ha 11 (by decide)
                obtain ⟨w43, h43, r43⟩ := hp 7 (by decide)
                have e43 : (ac.tmps[43]?).getD undef = .bool false := (ha 43 (by decide)).trans h43
                clear h43
                clear ha hp
                refine Reg.Op1.guarded rfl rfl e43 (fun _ => Reg.Op1.plain rfl ?_) (fun h => absurd rfl h)
                go_wp2
                exact ⟨rfl, hK _ _ rfl (fun j k _ _ => Reg.Adds.refl _ _ _)⟩
              · intro val ac u hR hp ha K hK      -- 11: t47 := Op.indexAddr 23 t45 t46
                obtain ⟨w45, h45, r45⟩ := hp 9 (by decide)
                have e45 : (ac.tmps[45]?).getD undef = .slice (some ⟨b, o, none⟩) es.length c := (ha 45 (by decide)).trans h45
                clear h45
                obtain ⟨w46, h46, r46⟩ := hp 10 (by decide)
                have e46 : (ac.tmps[46]?).getD undef = .int .i64 k := (ha 46 (by decide)).trans h46
                clear h46
                obtain ⟨w43, h43, r43⟩ := hp 7 (by decide)
                have e43 : (ac.tmps[43]?).getD undef = .bool false := (ha 43 (by decide)).trans h43
                clear h43
                clear ha hp
                refine Reg.Op1.guarded rfl rfl e43 (fun _ => Reg.Op1.plain rfl ?_) (fun h => absurd rfl h)
                go_wp2
                exact ⟨rfl, hK _ _ rfl (fun j k _ _ => Reg.Adds.refl _ _ _)⟩
              · intro val ac u hR hp ha K hK      -- 12: t48 := Op.fieldAddr 35 t47 0
                obtain ⟨w47, h47, r47⟩ := hp 11 (by decide)
                have e47 : (ac.tmps[47]?).getD undef = .pointer (some ⟨b, o + k * 20, none⟩) := (ha 47 (by decide)).trans h47
                clear h47
                obtain ⟨w43, h43, r43⟩ := hp 7 (by decide)
                have e43 : (ac.tmps[43]?).getD undef = .bool false := (ha 43 (by decide)).trans h43
                clear h43
                clear ha hp
                refine Reg.Op1.guarded rfl rfl e43 (fun _ => Reg.Op1.plain rfl ?_) (fun h => absurd rfl h)
                go_wp2
                exact ⟨rfl, hK _ _ rfl (fun j k _ _ => Reg.Adds.refl _ _ _)⟩
              · intro val ac u hR hp ha K hK      -- 13: t49 := Op.load 28 t48
                obtain ⟨w48, h48, r48⟩ := hp 12 (by decide)
                have e48 : (ac.tmps[48]?).getD undef = .pointer (some ⟨b, o + k * 20, none⟩) := (ha 48 (by decide)).trans h48
                clear h48
                obtain ⟨w43, h43, r43⟩ := hp 7 (by decide)
                have e43 : (ac.tmps[43]?).getD undef = .bool false := (ha 43 (by decide)).trans h43
                clear h43
                clear ha hp
                refine Reg.Op1.guarded rfl rfl e43 (fun _ => Reg.Op1.plain rfl ?_) (fun h => absurd rfl h)
                refine Mem.load_aggG _ _ dot_agg b (o + k * 20) (dtCells (dotE e)) (by simp [Region.wanted]) (Reg.eval_of e48) (dtCells_length _) (fun q u' hu => (hR.cell (p := ⟨b, o + k * 20 + q, none⟩) hbw).trans (HAT.out.c q u' (Vec.dot_at e hu))) ?_
                exact ⟨rfl, hK _ _ rfl (fun j k _ _ => Reg.Adds.refl _ _ _)⟩
              · intro val ac u hR hp ha K hK      -- 14: t50 := Op.call { value (Operand.func 20), args := #[t44, t49], argTypes := #[33, 28] }
                obtain ⟨w44, h44, r44⟩ := hp 8 (by decide)
                have e44 : (ac.tmps[44]?).getD undef = .agg (vcCells cut).toArray := (ha 44 (by decide)).trans h44
                clear h44
                obtain ⟨w49, h49, r49⟩ := hp 13 (by decide)
                have e49 : (ac.tmps[49]?).getD undef = .agg (dtCells (dotE e)).toArray := (ha 49 (by decide)).trans h49
                clear h49
                obtain ⟨w43, h43, r43⟩ := hp 7 (by decide)
                have e43 : (ac.tmps[43]?).getD undef = .bool false := (ha 43 (by decide)).trans h43
                clear h43
                clear ha hp
                refine Reg.Op1.guarded rfl rfl e43 (fun _ => Reg.Op1.plain rfl ?_) (fun h => absurd rfl h)
                go_wp2_with fail
                refine (hasD_any cut (dotE e) u).mono ?_
                rintro x w' ⟨rfl, hbw⟩
                rw [HHD.out]
                go_wp2_with fail
                exact ⟨rfl, hK _ _ rfl (fun j k _ _ => hbw)⟩
              · intro val ac u hR hp ha K hK      -- 15: t51 := Op.unOp UnOp.not 4 t50
                obtain ⟨w50, h50, r50⟩ := hp 14 (by decide)
                have e50 : (ac.tmps[50]?).getD undef = .bool true := (ha 50 (by decide)).trans h50
                clear h50
                obtain ⟨w43, h43, r43⟩ := hp 7 (by decide)
                have e43 : (ac.tmps[43]?).getD undef = .bool false := (ha 43 (by decide)).trans h43
                clear h43
                clear ha hp
                refine Reg.Op1.guarded rfl rfl e43 (fun _ => Reg.Op1.plain rfl ?_) (fun h => absurd rfl h)
                go_wp2
                exact ⟨rfl, hK _ _ rfl (fun j k _ _ => Reg.Adds.refl _ _ _)⟩
              · intro val ac u hR hp ha K hK      -- 16: t52 := Op.pick t43 (const (Value.bool true)) t51
                obtain ⟨w43, h43, r43⟩ := hp 7 (by decide)
                have e43 : (ac.tmps[43]?).getD undef = .bool false := (ha 43 (by decide)).trans h43
                clear h43
                obtain ⟨w51, h51, r51⟩ := hp 15 (by decide)
                have e51 : (ac.tmps[51]?).getD undef = .bool false := (ha 51 (by decide)).trans h51
                clear h51
                clear ha hp
                refine Reg.Op1.plain rfl ?_
                go_wp2
                exact ⟨rfl, hK _ _ rfl (fun j k _ _ => Reg.Adds.refl _ _ _)⟩
            intro val u hR H
            obtain ⟨wB, hv, rB⟩ := H 16 (by decide)
            have hv : val 16 = .bool false := hv
            have HKu : Hid (Below wr.heap.size wr u) := (Below.refl _ wr).drew.trans hR
            simp only [List.map_cons, List.map_nil, Reg.lay, Act.put, List.setIfInBounds_toArray, List.set_cons_succ, List.set_cons_zero, Nat.reduceAdd, hv]
            clear hR H hv rB
            obtain ⟨wy, hwy⟩ : ∃ z, z = u := ⟨_, rfl⟩
            subst hwy
            have hbw2 : b < wy.heap.size := Nat.lt_of_lt_of_le hbw HKu.out.size
            have HAT3 : Hid (EntAt wy b (o + k * 20) e) := HAT.out.below HKu.out hbw
            have HE3 := Lib.hid (HE.out.below HKu.out HE.out.lt)
            have HV3 := Lib.hid (HV.out.below HKu.out HV.out.lt)
            have HB3 := Lib.hid (HB.out.trans (HKu.out.mono HB.out.size))
            clear HE HV HB HKu HAT HKD HHD hbw
            go_upto_region 12 with fail
            go_cut [9, 10, 11] (fun v9 v10 v11 wx => v9 = .bool true ∧ v10 = .bool (anyT key cut m (es.take (k + 1))) ∧ v11 = .int .i64 k ∧ Below wy.heap.size wy wx)
            case first =>
              cases hat : anyT key cut m (es.take k)
              case true =>
                have HAT4 : Hid (anyT key cut m (es.take (k + 1)) = true) := by show _ = _; rw [HAT2.out, hat, Bool.true_or]
                go_wp2
                go_quiet (fail)
                go_wp2
                go_meet
                case rel => exact ⟨rfl, by rw [HAT4.out], rfl, Mem.below_drewN (Below.refl _ _) _⟩
              case false =>
                obtain ⟨q, hq⟩ : ∃ q, eqEnt e m = q := ⟨_, rfl⟩
                have HAT4 : Hid (anyT key cut m (es.take (k + 1)) = q) := by show _ = _; rw [HAT2.out, hat, Bool.false_or, hq]
                have HQ : Hid (∀ W, (binOp .eql 35 (.agg (entCells e).toArray) (.agg (entCells m).toArray)).run Try.prog W = .ok (.bool q) W) := fun W => by rw [eql_ent, hq]
                clear hq
                refine Reg.wp_region_rel (by kernel_rfl) 91 10 rfl rfl (by kernel_rfl) (Reg.Adds) (Reg.Adds.refl) (Reg.Adds.trans)
                  (fun i v u => match i with
                    | 0 => v = .bool false
                    | 1 => v = .bool false
                    | 2 => v = .slice (some ⟨b, o, none⟩) es.length c
                    | 3 => v = .int .i64 k
                    | 4 => v = .pointer (some ⟨b, o + k * 20, none⟩)
                    | 5 => v = .agg (entCells e).toArray
                    | 6 => v = .agg (entCells m).toArray
                    | 7 => v = .bool q
                    | 8 => v = .bool q
                    | 9 => v = .bool q
                    | _ => True) ?_ ?_
                · refine Reg.Steps.cons ?_ (Reg.Steps.cons ?_ (Reg.Steps.cons ?_ (Reg.Steps.cons ?_ (Reg.Steps.cons ?_ (Reg.Steps.cons ?_ (Reg.Steps.cons ?_ (Reg.Steps.cons ?_ (Reg.Steps.cons ?_ (Reg.Steps.cons ?_ (Reg.Steps.nil _))))))))))
                  · intro val ac u hR hp ha K hK      -- 0: t53 := Op.move t10
                    have e10 : (ac.tmps[10]?).getD undef = .bool false := ha 10 (by decide)
                    clear ha hp
                    refine Reg.Op1.plain rfl ?_
                    go_wp2
                    exact ⟨rfl, hK _ _ rfl (fun j k _ _ => Reg.Adds.refl _ _ _)⟩
                  · intro val ac u hR hp ha K hK      -- 1: t54 := Op.move t53
                    obtain ⟨w53, h53, r53⟩ := hp 0 (by decide)
                    have e53 : (ac.tmps[53]?).getD undef = .bool false := (ha 53 (by decide)).trans h53
                    clear h53
                    clear ha hp
                    refine Reg.Op1.plain rfl ?_
                    go_wp2
                    exact ⟨rfl, hK _ _ rfl (fun j k _ _ => Reg.Adds.refl _ _ _)⟩
                  · intro val ac u hR hp ha K hK      -- 2: t55 := Op.move t2
                    have e2 : (ac.tmps[2]?).getD undef = .slice (some ⟨b, o, none⟩) es.length c := ha 2 (by decide)
                    obtain ⟨w54, h54, r54⟩ := hp 1 (by decide)
                    have e54 : (ac.tmps[54]?).getD undef = .bool false := (ha 54 (by decide)).trans h54
                    clear h54
                    clear ha hp
                    refine Reg.Op1.guarded rfl rfl e54 (fun _ => Reg.Op1.plain rfl ?_) (fun h => absurd rfl h)
                    go_wp2
                    exact ⟨rfl, hK _ _ rfl (fun j k _ _ => Reg.Adds.refl _ _ _)⟩
                  · intro val ac u hR hp ha K hK      -- 3: t56 := Op.move t11
                    have e11 : (ac.tmps[11]?).getD undef = .int .i64 k := ha 11 (by decide)
                    obtain ⟨w54, h54, r54⟩ := hp 1 (by decide)
                    have e54 : (ac.tmps[54]?).getD undef = .bool false := (ha 54 (by decide)).trans h54
                    clear h54
                    clear ha hp
                    refine Reg.Op1.guarded rfl rfl e54 (fun _ => Reg.Op1.plain rfl ?_) (fun h => absurd rfl h)
                    go_wp2
                    exact ⟨rfl, hK _ _ rfl (fun j k _ _ => Reg.Adds.refl _ _ _)⟩
                  · intro val ac u hR hp ha K hK      -- 4: t57 := Op.indexAddr 23 t55 t56
                    obtain ⟨w55, h55, r55⟩ := hp 2 (by decide)
                    have e55 : (ac.tmps[55]?).getD undef = .slice (some ⟨b, o, none⟩) es.length c := (ha 55 (by decide)).trans h55
                    clear h55
                    obtain ⟨w56, h56, r56⟩ := hp 3 (by decide)
                    have e56 : (ac.tmps[56]?).getD undef = .int .i64 k := (ha 56 (by decide)).trans h56
                    clear h56
                    obtain ⟨w54, h54, r54⟩ := hp 1 (by decide)
                    have e54 : (ac.tmps[54]?).getD undef = .bool false := (ha 54 (by decide)).trans h54
                    clear h54
                    clear ha hp
                    refine Reg.Op1.guarded rfl rfl e54 (fun _ => Reg.Op1.plain rfl ?_) (fun h => absurd rfl h)
                    go_wp2
                    exact ⟨rfl, hK _ _ rfl (fun j k _ _ => Reg.Adds.refl _ _ _)⟩
                  · intro val ac u hR hp ha K hK      -- 5: t58 := Op.load 35 t57
                    obtain ⟨w57, h57, r57⟩ := hp 4 (by decide)
                    have e57 : (ac.tmps[57]?).getD undef = .pointer (some ⟨b, o + k * 20, none⟩) := (ha 57 (by decide)).trans h57
                    clear h57
                    obtain ⟨w54, h54, r54⟩ := hp 1 (by decide)
                    have e54 : (ac.tmps[54]?).getD undef = .bool false := (ha 54 (by decide)).trans h54
                    clear h54
                    clear ha hp
                    refine Reg.Op1.guarded rfl rfl e54 (fun _ => Reg.Op1.plain rfl ?_) (fun h => absurd rfl h)
                    refine Mem.load_aggG _ _ entry_agg b (o + k * 20) (entCells e) (by simp [Region.wanted]) (Reg.eval_of e57) (entCells_length _) (fun j u' hu => (hR.cell (p := ⟨b, o + k * 20 + j, none⟩) hbw2).trans (HAT3.out.c j u' hu)) ?_
                    exact ⟨rfl, hK _ _ rfl (fun j k _ _ => Reg.Adds.refl _ _ _)⟩
                  · intro val ac u hR hp ha K hK      -- 6: t59 := Op.load 35 t7
                    have e7 : (ac.tmps[7]?).getD undef = .pointer (some ⟨s, 0, none⟩) := ha 7 (by decide)
                    obtain ⟨w54, h54, r54⟩ := hp 1 (by decide)
                    have e54 : (ac.tmps[54]?).getD undef = .bool false := (ha 54 (by decide)).trans h54
                    clear h54
                    clear ha hp
                    refine Reg.Op1.guarded rfl rfl e54 (fun _ => Reg.Op1.plain rfl ?_) (fun h => absurd rfl h)
                    refine Mem.load_aggG _ _ entry_agg s 0 (entCells m) (by simp [Region.wanted]) (Reg.eval_of e7) (entCells_length _) (fun j u' hu => by rw [Nat.zero_add]; exact (hR.cell (p := ⟨s, j, none⟩) HE3.out.lt).trans (HE3.out.cell hu)) ?_
                    exact ⟨rfl, hK _ _ rfl (fun j k _ _ => Reg.Adds.refl _ _ _)⟩
                  · intro val ac u hR hp ha K hK      -- 7: t60 := Op.binOp BinOp.eql 35 t58 t59 35
                    obtain ⟨w58, h58, r58⟩ := hp 5 (by decide)
                    have e58 : (ac.tmps[58]?).getD undef = .agg (entCells e).toArray := (ha 58 (by decide)).trans h58
                    clear h58
                    obtain ⟨w59, h59, r59⟩ := hp 6 (by decide)
                    have e59 : (ac.tmps[59]?).getD undef = .agg (entCells m).toArray := (ha 59 (by decide)).trans h59
                    clear h59
                    obtain ⟨w54, h54, r54⟩ := hp 1 (by decide)
                    have e54 : (ac.tmps[54]?).getD undef = .bool false := (ha 54 (by decide)).trans h54
                    clear h54
                    clear ha hp
                    refine Reg.Op1.guarded rfl rfl e54 (fun _ => Reg.Op1.plain rfl ?_) (fun h => absurd rfl h)
                    have hqq := HQ.out
                    go_wp2
                    exact ⟨rfl, hK _ _ rfl (fun j k _ _ => Reg.Adds.refl _ _ _)⟩
                  · intro val ac u hR hp ha K hK      -- 8: t61 := Op.pick t54 (const (Value.bool true)) t60
                    obtain ⟨w54, h54, r54⟩ := hp 1 (by decide)
                    have e54 : (ac.tmps[54]?).getD undef = .bool false := (ha 54 (by decide)).trans h54
                    clear h54
                    obtain ⟨w60, h60, r60⟩ := hp 7 (by decide)
                    have e60 : (ac.tmps[60]?).getD undef = .bool q := (ha 60 (by decide)).trans h60
                    clear h60
                    clear ha hp
                    refine Reg.Op1.plain rfl ?_
                    go_wp2
                    exact ⟨rfl, hK _ _ rfl (fun j k _ _ => Reg.Adds.refl _ _ _)⟩
                  · intro val ac u hR hp ha K hK      -- 9: t10 := Op.assign t61
                    obtain ⟨w61, h61, r61⟩ := hp 8 (by decide)
                    have e61 : (ac.tmps[61]?).getD undef = .bool q := (ha 61 (by decide)).trans h61
                    clear h61
                    clear ha hp
                    refine Reg.Op1.plain rfl ?_
                    go_wp2
                    exact ⟨rfl, hK _ _ rfl (fun j k _ _ => Reg.Adds.refl _ _ _)⟩
                · intro val u hR H
                  obtain ⟨_, hv, _⟩ := H 9 (by decide)
                  have hv : val 9 = .bool q := hv
                  have HR2 : Hid (Below wy.heap.size wy u) := (Below.refl _ wy).drew.trans hR
                  simp only [List.map_cons, List.map_nil, Reg.lay, Act.put, List.setIfInBounds_toArray, List.set_cons_succ, List.set_cons_zero, Nat.reduceAdd, hv]
                  clear hR H hv
                  go_wp2
                  go_meet
                  case rel => exact ⟨rfl, by rw [HAT4.out], rfl, HR2.out⟩
            case rest =>
              obtain ⟨rfl, rfl, rfl, hbc⟩ := hcut
              have HBC := Lib.hid hbc
              clear hbc HAT2
              rename World => wz
              have q3 := (HAT3.out.below HBC.out hbw2).c 3 _ rfl
              have x3 := (HE3.out.below HBC.out HE3.out.lt).cell (j := 3) rfl
              have hcd := HCNT.out
              clear hbw2
              go_wp2
              go_quiet (fail)
              go_wp2
              go_roundw
              case rel => exact ⟨⟨k + 1, HLT.out, by rw [HAK.out], rfl, by go_num, (HE3.out.below HBC.out HE3.out.lt).keeps ((Mem.Keeps.refl (fun _ => False) _).drewN _) id, (HV3.out.below HBC.out HV3.out.lt).keeps ((Mem.Keeps.refl (fun _ => False) _).drewN _) id, Mem.below_drewN (HB3.out.trans (HBC.out.mono HB3.out.size)) _⟩⟩
              case measure => exact Au.meas_lt HLT.out
        · have HKD : Hid ((e.key.toList == key.toList) = false) := Vec.str_ne hkey
          have hsv : seenV key cut e = false := by unfold seenV; rw [HKD.out, Bool.false_and]
          have HHD : Hid (hasD cut (dotE e) = hasD cut (dotE e)) := rfl
          clear hkey
          have HAK : Hid (anyS key cut (es.take (k + 1)) = anyS key cut (es.take k)) := by show _ = _; rw [HTK.out, hsv, Bool.or_false]
          have HAT2 : Hid (anyT key cut m (es.take (k + 1)) = anyT key cut m (es.take k)) := by show _ = _; rw [HTT.out, hsv, Bool.false_and, Bool.or_false]
          clear hsv HTK HTT HME
          refine Reg.wp_region_rel (by kernel_rfl) 91 17 rfl rfl (by kernel_rfl) (Reg.Adds) (Reg.Adds.refl) (Reg.Adds.trans)
            (fun i v u => match i with
              | 0 => v = .slice (some ⟨b, o, none⟩) es.length c
              | 1 => v = .int .i64 k
              | 2 => v = .pointer (some ⟨b, o + k * 20, none⟩)
              | 3 => v = .pointer (some ⟨b, o + k * 20 + 6, none⟩)
              | 4 => v = .string e.key
              | 5 => v = .string key
              | 6 => v = .bool true
              | 7 => v = .bool true
              | 8 => v = undef
              | 9 => v = undef
              | 10 => v = undef
              | 11 => v = undef
              | 12 => v = undef
              | 13 => v = undef
              | 14 => v = undef
              | 15 => v = undef
              | 16 => v = .bool true
              | _ => True) ?_ ?_
          · refine Reg.Steps.cons ?_ (Reg.Steps.cons ?_ (Reg.Steps.cons ?_ (Reg.Steps.cons ?_ (Reg.Steps.cons ?_ (Reg.Steps.cons ?_ (Reg.Steps.cons ?_ (Reg.Steps.cons ?_ (Reg.Steps.cons ?_ (Reg.Steps.cons ?_ (Reg.Steps.cons ?_ (Reg.Steps.cons ?_ (Reg.Steps.cons ?_ (Reg.Steps.cons ?_ (Reg.Steps.cons ?_ (Reg.Steps.cons ?_ (Reg.Steps.cons ?_ (Reg.Steps.nil _)))))))))))))))))
            · intro val ac u hR hp ha K hK      -- 0: t36 := Op.move t2
              have e2 : (ac.tmps[2]?).getD undef = .slice (some ⟨b, o, none⟩) es.length c := ha 2 (by decide)
              clear ha hp
              refine Reg.Op1.plain rfl ?_
              go_wp2
              exact ⟨rfl, hK _ _ rfl (fun j k _ _ => Reg.Adds.refl _ _ _)⟩
            · intro val ac u hR hp ha K hK      -- 1: t37 := Op.move t11
              have e11 : (ac.tmps[11]?).getD undef = .int .i64 k := ha 11 (by decide)
              clear ha hp
              refine Reg.Op1.plain rfl ?_
              go_wp2
              exact ⟨rfl, hK _ _ rfl (fun j k _ _ => Reg.Adds.refl _ _ _)⟩
            · intro val ac u hR hp ha K hK      -- 2: t38 := Op.indexAddr 23 t36 t37
              obtain ⟨w36, h36, r36⟩ := hp 0 (by decide)
              have e36 : (ac.tmps[36]?).getD undef = .slice (some ⟨b, o, none⟩) es.length c := (ha 36 (by decide)).trans h36
              clear h36
              obtain ⟨w37, h37, r37⟩ := hp 1 (by decide)
              have e37 : (ac.tmps[37]?).getD undef = .int .i64 k := (ha 37 (by decide)).trans h37
              clear h37
              clear ha hp
              refine Reg.Op1.plain rfl ?_
              go_wp2
              exact ⟨rfl, hK _ _ rfl (fun j k _ _ => Reg.Adds.refl _ _ _)⟩
            · intro val ac u hR hp ha K hK      -- 3: t39 := Op.fieldAddr 35 t38 2
              obtain ⟨w38, h38, r38⟩ := hp 2 (by decide)
              have e38 : (ac.tmps[38]?).getD undef = .pointer (some ⟨b, o + k * 20, none⟩) := (ha 38 (by decide)).trans h38
              clear h38
              clear ha hp
              refine Reg.Op1.plain rfl ?_
              go_wp2
              exact ⟨rfl, hK _ _ rfl (fun j k _ _ => Reg.Adds.refl _ _ _)⟩
            · intro val ac u hR hp ha K hK      -- 4: t40 := Op.load 9 t39
              obtain ⟨w39, h39, r39⟩ := hp 3 (by decide)
              have e39 : (ac.tmps[39]?).getD undef = .pointer (some ⟨b, o + k * 20 + 6, none⟩) := (ha 39 (by decide)).trans h39
              clear h39
              clear ha hp
              refine Reg.Op1.plain rfl ?_
              have x6 := (hR.cell (p := ⟨b, o + k * 20 + 6, none⟩) hbw).trans (HAT.out.c 6 _ rfl)
              go_wp2
              exact ⟨rfl, hK _ _ rfl (fun j k _ _ => Reg.Adds.refl _ _ _)⟩
            · intro val ac u hR hp ha K hK      -- 5: t41 := Op.move t0
              have e0 : (ac.tmps[0]?).getD undef = .string key := ha 0 (by decide)
              clear ha hp
              refine Reg.Op1.plain rfl ?_
              go_wp2
              exact ⟨rfl, hK _ _ rfl (fun j k _ _ => Reg.Adds.refl _ _ _)⟩
            · intro val ac u hR hp ha K hK      -- 6: t42 := Op.binOp BinOp.neq 9 t40 t41 9
              obtain ⟨w40, h40, r40⟩ := hp 4 (by decide)
              have e40 : (ac.tmps[40]?).getD undef = .string e.key := (ha 40 (by decide)).trans h40
              clear h40
              obtain ⟨w41, h41, r41⟩ := hp 5 (by decide)
              have e41 : (ac.tmps[41]?).getD undef = .string key := (ha 41 (by decide)).trans h41
              clear h41
              clear ha hp
              have hkd := HKD.out
              refine Reg.Op1.plain rfl ?_
              go_wp2
              exact ⟨rfl, hK _ _ rfl (fun j k _ _ => Reg.Adds.refl _ _ _)⟩
            · intro val ac u hR hp ha K hK      -- 7: t43 := Op.move t42
              obtain ⟨w42, h42, r42⟩ := hp 6 (by decide)
              have e42 : (ac.tmps[42]?).getD undef = .bool true := (ha 42 (by decide)).trans h42
              clear h42
              clear ha hp
              refine Reg.Op1.plain rfl ?_
              go_wp2
              exact ⟨rfl, hK _ _ rfl (fun j k _ _ => Reg.Adds.refl _ _ _)⟩
            · intro val ac u hR hp ha K hK      -- 8: t44 := Op.load 33 t4
              obtain ⟨w43, h43, r43⟩ := hp 7 (by decide)
              have e43 : (ac.tmps[43]?).getD undef = .bool true := (ha 43 (by decide)).trans h43
              clear h43
              clear ha hp
              exact Reg.Op1.guarded rfl rfl e43 (fun h => by cases h) (fun _ => hK _ _ rfl (fun j k _ _ => Reg.Adds.refl _ _ _))
            · intro val ac u hR hp ha K hK      -- 9: t45 := Op.move t2
              obtain ⟨w43, h43, r43⟩ := hp 7 (by decide)
              have e43 : (ac.tmps[43]?).getD undef = .bool true := (ha 43 (by decide)).trans h43
              clear h43
              clear ha hp
              exact Reg.Op1.guarded rfl rfl e43 (fun h => by cases h) (fun _ => hK _ _ rfl (fun j k _ _ => Reg.Adds.refl _ _ _))
            · intro val ac u hR hp ha K hK      -- 10: t46 := Op.move t11
              obtain ⟨w43, h43, r43⟩ := hp 7 (by decide)
              have e43 : (ac.tmps[43]?).getD undef = .bool true := (ha 43 (by decide)).trans h43
              clear h43
              clear ha hp
              exact Reg.Op1.guarded rfl rfl e43 (fun h => by cases h) (fun _ => hK _ _ rfl (fun j k _ _ => Reg.Adds.refl _ _ _))
            · intro val ac u hR hp ha K hK      -- 11: t47 := Op.indexAddr 23 t45 t46
              obtain ⟨w43, h43, r43⟩ := hp 7 (by decide)
              have e43 : (ac.tmps[43]?).getD undef = .bool true := (ha 43 (by decide)).trans h43
              clear h43
              clear ha hp
              exact Reg.Op1.guarded rfl rfl e43 (fun h => by cases h) (fun _ => hK _ _ rfl (fun j k _ _ => Reg.Adds.refl _ _ _))
            · intro val ac u hR hp ha K hK      -- 12: t48 := Op.fieldAddr 35 t47 0
              obtain ⟨w43, h43, r43⟩ := hp 7 (by decide)
              have e43 : (ac.tmps[43]?).getD undef = .bool true := (ha 43 (by decide)).trans h43
              clear h43
              clear ha hp
              exact Reg.Op1.guarded rfl rfl e43 (fun h => by cases h) (fun _ => hK _ _ rfl (fun j k _ _ => Reg.Adds.refl _ _ _))
            · intro val ac u hR hp ha K hK      -- 13: t49 := Op.load 28 t48
              obtain ⟨w43, h43, r43⟩ := hp 7 (by decide)
              have e43 : (ac.tmps[43]?).getD undef = .bool true := (ha 43 (by decide)).trans h43
              clear h43
              clear ha hp
              exact Reg.Op1.guarded rfl rfl e43 (fun h => by cases h) (fun _ => hK _ _ rfl (fun j k _ _ => Reg.Adds.refl _ _ _))
            · intro val ac u hR hp ha K hK      -- 14: t50 := Op.call { value (Operand.func 20), args := #[t44, t49], argTypes := #[33, 28] }
              obtain ⟨w43, h43, r43⟩ := hp 7 (by decide)
              have e43 : (ac.tmps[43]?).getD undef = .bool true := (ha 43 (by decide)).trans h43
              clear h43
              clear ha hp
              exact Reg.Op1.guarded rfl rfl e43 (fun h => by cases h) (fun _ => hK _ _ rfl (fun j k _ _ => Reg.Adds.refl _ _ _))
            · intro val ac u hR hp ha K hK      -- 15: t51 := Op.unOp UnOp.not 4 t50
              obtain ⟨w43, h43, r43⟩ := hp 7 (by decide)
              have e43 : (ac.tmps[43]?).getD undef = .bool true := (ha 43 (by decide)).trans h43
              clear h43
              clear ha hp
              exact Reg.Op1.guarded rfl rfl e43 (fun h => by cases h) (fun _ => hK _ _ rfl (fun j k _ _ => Reg.Adds.refl _ _ _))
            · intro val ac u hR hp ha K hK      -- 16: t52 := Op.pick t43 (const (Value.bool true)) t51
              obtain ⟨w43, h43, r43⟩ := hp 7 (by decide)
              have e43 : (ac.tmps[43]?).getD undef = .bool true := (ha 43 (by decide)).trans h43
              clear h43
              obtain ⟨w51, h51, r51⟩ := hp 15 (by decide)
              have e51 : (ac.tmps[51]?).getD undef = undef := (ha 51 (by decide)).trans h51
              clear h51
              clear ha hp
              refine Reg.Op1.plain rfl ?_
              go_wp2
              exact ⟨rfl, hK _ _ rfl (fun j k _ _ => Reg.Adds.refl _ _ _)⟩
          intro val u hR H
          obtain ⟨wB, hv, rB⟩ := H 16 (by decide)
          have hv : val 16 = .bool true := hv
          have HKu : Hid (Below wr.heap.size wr u) := (Below.refl _ wr).drew.trans hR
          simp only [List.map_cons, List.map_nil, Reg.lay, Act.put, List.setIfInBounds_toArray, List.set_cons_succ, List.set_cons_zero, Nat.reduceAdd, hv]
          clear hR H hv rB
          obtain ⟨wy, hwy⟩ : ∃ z, z = u := ⟨_, rfl⟩
          subst hwy
          go_wp2
          go_roundw
          case rel => exact ⟨⟨k + 1, HLT.out, by rw [HAK.out], by rw [HAT2.out], by go_num, HE.out.below HKu.out HE.out.lt, HV.out.below HKu.out HV.out.lt, HB.out.trans (HKu.out.mono HB.out.size)⟩⟩
          case measure => exact Au.meas_lt HLT.out
      · obtain rfl : k = es.length := by omega
        have d0 : decide ((es.length : Int) < (es.length : Int)) = false := by simp
        rw [List.take_length]
        obtain ⟨h1, h2, h3⟩ := HS.out.all
        rw [h2, ← h1]
        clear h1 h2
        cases fd
        case true =>
          go_wp2
          go_ret
          exact ⟨rfl, HB.out⟩
        case false =>
          obtain rfl := h3 rfl
          have e1 : ∀ W, (binOp .eql 35 (.agg (entCells ent0).toArray) (.agg #[.int .i64 0, .int .i64 0, .int .i64 0, .int .i64 0, .int .i64 0, .int .i64 0, .string ⟨#[]⟩, .string ⟨#[]⟩, .bool false, .int .i64 0, .int .i64 0, .int .i64 0, .int .i64 0, .int .i64 0, .int .i64 0, .int .i64 0, .int .i64 0, .int .i64 0, .int .i64 0, .int .i64 0])).run Try.prog W = .ok (.bool true) W := fun W => (eql_ent ent0 ent0 W).trans (by rw [eqEnt_iff.2 rfl])
          go_wp2_with ((with_reducible refine Mem.load_aggG _ _ entry_agg s 0 (entCells ent0) ?hwa ?hxb (entCells_length _) (fun j u hu => by rw [Nat.zero_add]; exact HE.out.cell hu) ?_); ((case hwa => rfl); (case hxb => exact rfl)))
          go_ret
          exact ⟨rfl, HB.out⟩
set_option maxRecDepth 20000 in
theorem opened {H : Type} (enc : TypeId × Value → H) (W : World) (base : Nat) (v0 v1 v2 : Value) {d0 d1 d2 : DataW H} {p0 p1 p2 : List MemPlace}
    (o0 : Value.okWide Try.prog W .any base 9 v0) (o1 : Value.okWide Try.prog W .any base 33 v1) (o2 : Value.okWide Try.prog W .any base 23 v2)
    (k0 : DataW.Trod enc Try.prog W 0 (fun _ => true) true 9 v0 d0 p0) (k1 : DataW.Trod enc Try.prog W 0 (fun _ => true) true 33 v1 d1 p1) (k2 : DataW.Trod enc Try.prog W 0 (fun _ => true) true 23 v2 d2 p2)
    (z0 : (d0.weights Try.prog 9).all (· ≤ reachBytes) = true) (z1 : (d1.weights Try.prog 33).all (· ≤ reachBytes) = true) (z2 : (d2.weights Try.prog 23).all (· ≤ reachBytes) = true) :
    Calls Try.prog 8 #[v0, v1, v2] W fun e w' => e = .returned (.bool true) ∧ Below W.heap.size W w' := by
  obtain ⟨s, rfl, hs⟩ := open_text o0 k0 z0
  obtain ⟨v, rfl⟩ := open_vec o1 k1
  obtain ⟨A, c, es, rfl, h1, h2, h3, h4⟩ := open_ents o2 k2 z2
  exact walk s v A c es W h3 (by omega) h4 hs
end auditVisibleOpen
end Go.Proofs.Ytelephoalpphkaa
