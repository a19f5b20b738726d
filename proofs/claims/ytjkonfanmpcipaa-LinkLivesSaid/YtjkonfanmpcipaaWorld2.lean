/- The walk of 'step': an act in a world. No conditions but that numbers fit. -/
import Derived.Test.YtjkonfanmpcipaaWorld1
namespace Go.Proofs.Ytjkonfanmpcipaa
open Go.RowKit
set_option linter.unusedVariables false

namespace Link
structure AcOk (W : World) (a : Ac) : Prop where
  rd : Mem.Rd W W.heap.size a.D (a.data.map strV)
  dl : a.data.length ≤ a.dc
  dm : a.dc ≤ 8796093022208
def sendW (s : WS) (i : Nat) (data : List ByteArray) : WS := { s with e := upd s.e i (sendTo (s.e i) data (sendK (s.e i) data)), st := upd s.st (4 + i) (s.st (4 + i) ++ data.take (sendK (s.e i) data)) }
def outW (s : WS) (i : Nat) : WS := { s with pk := upd s.pk (3 - i) (s.pk (3 - i) ++ out (s.e i)) }
def stepW (s : WS) (a : Ac) : WS :=
  if a.kind = 1 then sendW s 0 a.data else if a.kind = 2 then sendW s 1 a.data else if a.kind = 3 then outW s 0 else if a.kind = 4 then outW s 1 else if a.kind = 5 ∨ a.kind = 6 then comeW s a else s
def SendMid (w0 : World) (g b kk : Nat) (s' : WS) (a : Ac) (v : Value) (w' : World) : Prop := v = .int .i64 (kk : Int) ∧ ∃ p' lab', Hid (WL w0 w' g p' s' lab') ∧ Hid (w'.cell? ⟨b, 3, none⟩ = some (.slice a.D a.data.length a.dc)) ∧ Hid (b < w'.heap.size) ∧ Hid (lab' b = 11)
theorem str_one (l : List ByteArray) : ∀ u ∈ l.map strV, u.oneCell' = true := by
  intro u hu
  obtain ⟨c, _, rfl⟩ := List.mem_map.1 hu
  rfl
theorem out_len (e : E) (h : e.opn.length ≤ 8) : (out e).length ≤ 8 := by
  unfold out
  split
  · simp
  · rw [pks_length]; exact h
theorem run_mink (ts : Array TypeId) (t : TypeId) (W : World) (k n : Nat) (h : k ≤ n) : (Builtin.min_ ts t #[.int .i64 (k : Int), .int .i64 (n : Int)]).run Try.prog W = .ok (.int .i64 (k : Int)) W := by
  have h1 : ∀ x y : Int, (Builtin.min_ ts t #[.int .i64 x, .int .i64 y]).run Try.prog W = .ok (.int .i64 (if y < x then y else x)) W := fun x y => by simp [go_sem]
  rw [h1]; congr 2; split <;> omega
end Link

set_option maxRecDepth 100000 in
set_option maxHeartbeats 8000000 in
theorem step_any {w0 w : World} {g : Nat} {p : Link.Pl} {s : Link.WS} {lab : Nat → Nat} (h : Link.WL w0 w g p s lab) (a : Link.Ac) (hok : Link.AcOk w0 a) (hal : a.data.length ≤ 2000) (hn : (s.pk 2).length + (s.pk 3).length ≤ 100000) (hf : ∀ i, i < 2 → Link.Fine 100000 (s.e i))
    (hst : ∀ i, 4 ≤ i → i < 8 → (s.st i).length ≤ 100000) :
    Calls Try.prog 11 #[.pointer (some ⟨g, 0, none⟩), Link.AcV a] w (Link.WEnd w0 g (Link.stepW s a)) := by
  have HW := Lib.hid h
  have HF := Lib.hid hf
  have HST := Lib.hid hst
  have HOK := Lib.hid hok
  have hdl := hok.dl
  have hdm := hok.dm
  clear h hf hst hok
  go_enter Try.func11, Try.ntmps11
  go_upto_region 1 with fail
  obtain ⟨w5, hw5⟩ : ∃ w5, w.alloc (.cells #[.int .i64 a.kind, .int .i64 a.n, .bool a.twice, .slice a.D a.data.length a.dc] 34) = w5 := ⟨_, rfl⟩
  have H5 : Hid (Link.WL w0 w5 g p s (Link.relab lab w.heap.size 11)) := by show Link.WL _ _ _ _ _ _; rw [← hw5]; exact HW.out.fresh.quiet ((Mem.Keeps.refl _ _).alloc _)
  have hz : ∀ j, w5.cell? ⟨w.heap.size, j, none⟩ = #[Value.int .i64 a.kind, .int .i64 a.n, .bool a.twice, .slice a.D a.data.length a.dc][j]? := fun j => by rw [← hw5, cell_of_row _ _ _ _ _ _ (heap_alloc_new w _)]
  have z0 := hz 0
  have z1 := hz 1
  have z2 := hz 2
  have z3 := hz 3
  simp only [List.getElem?_toArray, List.getElem?_cons_zero, List.getElem?_cons_succ] at z0 z1 z2 z3
  have HZ3 := Lib.hid z3
  have HZ5 : Hid (w5.heap.size = w.heap.size + 1) := by show _ = _; rw [← hw5, World.size_alloc]
  rw [hw5]
  clear hz hw5
  by_cases hkd : a.kind = 1
  · have d1 : (a.kind == 1) = true := by simp [hkd]
    have HSW : Hid (Link.stepW s a = Link.sendW s 0 a.data) := by show _ = _; unfold Link.stepW; simp [hkd]
    obtain ⟨kk, hkk⟩ : ∃ kk, Link.sendK (s.e 0) a.data = kk := ⟨_, rfl⟩
    have hkl : kk ≤ a.data.length ∧ kk ≤ 8 := by rw [← hkk]; unfold Link.sendK; omega
    have HKK := Lib.hid hkk
    obtain ⟨fe, hfe⟩ : ∃ fe : Int, (if kk = a.data.length then 0 else 2) = fe := ⟨_, rfl⟩
    have HFE := Lib.hid hfe
    clear hkd hkk hfe
    go_upto_region 3 with fail
    go_cut [4] (fun v wx => Link.SendMid w0 g w.heap.size kk { s with e := Link.upd s.e 0 (Link.sendTo (s.e 0) a.data kk) } a v wx)
    case first =>
      have e0 := H5.out.cell (i := 0) rfl
      have z3 := HZ3.out
      have hg5 := H5.out.lt
      have hgn : ¬ (w5.heap.size ≤ g ∨ False) := fun h => h.elim (fun h => by omega) id
      have hbn : ¬ (w5.heap.size ≤ w.heap.size ∨ False) := fun h => h.elim (fun h => by have := HZ5.out; omega) id
      have hb5 : w.heap.size < w5.heap.size := by have := HZ5.out; omega
      refine Reg.wp_region_w (by kernel_rfl) 106 14 rfl rfl (by kernel_rfl) (7) (fun y => w5.heap.size ≤ y) (8) (fun y => Link.Bl (p.g 0) (p.O 0) y) (0) (fun _ => False)
        (fun i v u => match i with
          | 0 => v = .pointer (some ⟨g, 0, none⟩)
          | 1 => v = .pointer (some ⟨g, 0, none⟩)
          | 2 => v = .pointer (some ⟨g, 0, none⟩)
          | 3 => v = .pointer (some ⟨p.g 0, 0, none⟩)
          | 4 => ∃ s0, v = .slice (some ⟨s0, 0, none⟩) 0 0 ∧ w5.heap.size ≤ s0 ∧ Mem.Own u 9 1 (some ⟨s0, 0, none⟩) 0 0 []
          | 5 => v = .pointer (some ⟨w.heap.size, 3, none⟩)
          | 6 => v = .slice a.D a.data.length a.dc
          | 7 => ∃ A1 c1, v = .slice A1 a.data.length c1 ∧ Mem.From w5.heap.size A1 ∧ Mem.Own u 9 1 A1 a.data.length c1 (a.data.map Link.strV)
          | 8 => v = .tuple #[.int .i64 (kk : Int), .int .i64 fe] ∧ ∃ A2 c2, Link.At u (p.g 0) A2 c2 (Link.sendTo (s.e 0) a.data kk) ∧ (Mem.blk A2 = Mem.blk (p.O 0) ∨ Mem.From w5.heap.size A2)
          | 9 => v = .tuple #[.int .i64 (kk : Int), .int .i64 fe]
          | 10 => v = .int .i64 (kk : Int)
          | 11 => v = .int .i64 fe
          | 12 => v = .int .i64 (kk : Int)
          | 13 => v = .int .i64 fe
          | _ => True) ?_ ?_
      · refine Reg.Steps.cons ?_ (Reg.Steps.cons ?_ (Reg.Steps.cons ?_ (Reg.Steps.cons ?_ (Reg.Steps.cons ?_ (Reg.Steps.cons ?_ (Reg.Steps.cons ?_ (Reg.Steps.cons ?_ (Reg.Steps.cons ?_ (Reg.Steps.cons ?_ (Reg.Steps.cons ?_ (Reg.Steps.cons ?_ (Reg.Steps.cons ?_ (Reg.Steps.cons ?_ (Reg.Steps.nil _))))))))))))))
        · intro val ac u hR hp ha K hK      -- 0: t13 := Op.move t0
          have e0 : (ac.tmps[0]?).getD undef = .pointer (some ⟨g, 0, none⟩) := ha 0 (by decide)
          clear ha hp
          refine Reg.Op1.plain rfl ?_
          go_wp2
          exact ⟨rfl, hK _ _ rfl (Reg.Wr.same _)⟩
        · intro val ac u hR hp ha K hK      -- 1: t14 := Op.nilCheck t13
          obtain ⟨w13, h13, r13⟩ := hp 0 (by decide)
          have e13 : (ac.tmps[13]?).getD undef = .pointer (some ⟨g, 0, none⟩) := (ha 13 (by decide)).trans h13
          clear h13
          clear ha hp
          refine Reg.Op1.plain rfl ?_
          go_wp2
          exact ⟨rfl, hK _ _ rfl (Reg.Wr.same _)⟩
        · intro val ac u hR hp ha K hK      -- 2: t15 := Op.fieldAddr 31 t14 0
          obtain ⟨w14, h14, r14⟩ := hp 1 (by decide)
          have e14 : (ac.tmps[14]?).getD undef = .pointer (some ⟨g, 0, none⟩) := (ha 14 (by decide)).trans h14
          clear h14
          clear ha hp
          refine Reg.Op1.plain rfl ?_
          go_wp2
          exact ⟨rfl, hK _ _ rfl (Reg.Wr.same _)⟩
        · intro val ac u hR hp ha K hK      -- 3: t16 := Op.load 26 t15
          obtain ⟨w15, h15, r15⟩ := hp 2 (by decide)
          have e15 : (ac.tmps[15]?).getD undef = .pointer (some ⟨g, 0, none⟩) := (ha 15 (by decide)).trans h15
          clear h15
          clear ha hp
          refine Reg.Op1.plain rfl ?_
          have x0 := (((Reg.Wr.not2 hR (by decide +kernel))).cell (p := ⟨g, 0, none⟩) (hg5) (hgn)).trans (e0)
          go_wp2
          exact ⟨rfl, hK _ _ rfl (Reg.Wr.same _)⟩
        · intro val ac u hR hp ha K hK      -- 4: t17 := Op.buildSlice 29 0 #[]
          clear ha hp
          refine Reg.Op1.plain rfl ?_
          have hbu : w5.heap.size ≤ u.heap.size := (Reg.Wr.all hR).size
          go_wp2
          exact ⟨rfl, hK _ _ ⟨u.heap.size, rfl, hbu, Mem.Own.lit u _ 1 #[] 0 rfl rfl (by simp [maxLen])⟩ (Reg.Wr.quiet ((Mem.Keeps.refl _ u).alloc _))⟩
        · intro val ac u hR hp ha K hK      -- 5: t18 := Op.fieldAddr 34 t3 3
          have e3 : (ac.tmps[3]?).getD undef = .pointer (some ⟨w.heap.size, 0, none⟩) := ha 3 (by decide)
          clear ha hp
          refine Reg.Op1.plain rfl ?_
          go_wp2
          exact ⟨rfl, hK _ _ rfl (Reg.Wr.same _)⟩
        · intro val ac u hR hp ha K hK      -- 6: t19 := Op.load 29 t18
          obtain ⟨w18, h18, r18⟩ := hp 5 (by decide)
          have e18 : (ac.tmps[18]?).getD undef = .pointer (some ⟨w.heap.size, 3, none⟩) := (ha 18 (by decide)).trans h18
          clear h18
          clear ha hp
          refine Reg.Op1.plain rfl ?_
          have x0 := (((Reg.Wr.not2 hR (by decide +kernel))).cell (p := ⟨w.heap.size, 3, none⟩) (hb5) (hbn)).trans (z3)
          go_wp2
          exact ⟨rfl, hK _ _ rfl (Reg.Wr.same _)⟩
        · intro val ac u hR hp ha K hK      -- 7: t20 := Op.call { builtin append, args := #[t17, t19], argTypes := #[29, 29] }
          obtain ⟨w17, h17, r17⟩ := hp 4 (by decide)
          have e17 : (ac.tmps[17]?).getD undef = val 4 := ha 17 (by decide)
          obtain ⟨w19, h19, r19⟩ := hp 6 (by decide)
          have e19 : (ac.tmps[19]?).getD undef = .slice a.D a.data.length a.dc := (ha 19 (by decide)).trans h19
          clear h19
          clear ha hp
          refine Reg.Op1.plain rfl ?_
          obtain ⟨s0, hv, hs0, ho⟩ := h17
          rw [hv] at e17
          have ho' := ho.keeps (Reg.Wr.only3 r17 (by decide +kernel) (by decide +kernel)) (fun _ _ h => h)
          have hq : Mem.Keeps (fun _ => False) w5 u := (Mem.Keeps.refl (fun _ => False) w5).drew.trans (Reg.Wr.only3 hR (by decide +kernel) (by decide +kernel)) (fun _ h _ => h)
          have hbu := hq.size
          have hrd : Mem.Rd u u.heap.size a.D (a.data.map Link.strV) := ((HOK.out.rd.below H5.out.bl).more H5.out.bl.size).keepsAt hq (Nat.le_refl _) (fun _ _ h => h)
          refine Mem.wpList_app u rfl (.tmp 17) (.tmp 19) _ rfl strs_elem (some ⟨s0, 0, none⟩) 0 0 [] (Reg.eval_of e17) u.heap.size a.D a.data.length a.dc (a.data.map Link.strV) (Reg.eval_of e19) ?_ ho' hrd (by simp) (by simp [Value.oneCell']) (by unfold maxLen; omega) (by omega)
          intro X' d' u' hown hg hat
          rw [Nat.zero_add] at hown ⊢
          rw [List.nil_append] at hown
          refine ⟨rfl, hK _ _ ⟨X', d', rfl, ?_, hown⟩ (Reg.Wr.does1 ((Mem.Keeps.refl _ u).grown hg (fun q hq _ => by have h' : s0 = q := Option.some.inj hq; omega)))⟩
          rcases hat with rfl | rfl
          · exact Mem.From.some_ hs0
          · exact Mem.From.some_ hbu
        · intro val ac u hR hp ha K hK      -- 8: t21 := Op.call { value (Operand.func 21), args := #[t16, t20], argTypes := #[26, 29] }
          obtain ⟨w16, h16, r16⟩ := hp 3 (by decide)
          have e16 : (ac.tmps[16]?).getD undef = .pointer (some ⟨p.g 0, 0, none⟩) := (ha 16 (by decide)).trans h16
          clear h16
          obtain ⟨w20, h20, r20⟩ := hp 7 (by decide)
          have e20 : (ac.tmps[20]?).getD undef = val 7 := ha 20 (by decide)
          clear ha hp
          refine Reg.Op1.plain rfl ?_
          obtain ⟨A1, c1, hv, hf1, ho⟩ := h20
          rw [hv] at e20
          have ho' := ho.keeps (Reg.Wr.only3 r20 (by decide +kernel) (by decide +kernel)) (fun _ _ h => h)
          have hq : Mem.Keeps (fun y => w5.heap.size ≤ y ∨ False) w5 u := (Mem.Keeps.refl (fun y => w5.heap.size ≤ y ∨ False) w5).drew.trans (Reg.Wr.not2 hR (by decide +kernel)) (fun _ h _ => h)
          have hgi := H5.out.ltg (i := 0) (by omega)
          have hoi : ∀ y, Mem.blk (p.O 0) = some y → y < w5.heap.size := fun y hy => H5.out.ltO (by omega) hy
          have hen := (H5.out.en 0 (by omega)).keeps hq (fun h => h.elim (fun h => by omega) id) (fun y hy h => h.elim (fun h => by have := hoi y hy; omega) id)
          have hbu := hq.size
          have hfi := HF.out 0 (by omega)
          go_wp2_with fail
          refine (send_any hen A1 c1 a.data (fun W hk => ho'.rd.keepsAt hk (Nat.le_refl _) (fun y h1 h => by
            have := hf1.blk y h1
            rcases h with h | h
            · omega
            · have := hoi y h; omega)) (by unfold maxLen; omega) hfi.s0 (by have := hfi.sN; omega) (by have := hfi.o8; omega)).mono ?_
          rintro x w' ⟨A2, c2, rfl, hA2, hk2, hm2⟩
          rw [HKK.out] at hA2 ⊢
          rw [HFE.out]
          go_wp2_with fail
          exact ⟨rfl, hK _ _ ⟨rfl, A2, c2, hA2, hm2.elim .inl (fun h => .inr (h.mono hbu))⟩ (Reg.Wr.does2 hk2)⟩
        · intro val ac u hR hp ha K hK      -- 9: t12 := Op.move t21
          obtain ⟨w21, h21, r21⟩ := hp 8 (by decide)
          have e21 : (ac.tmps[21]?).getD undef = val 8 := ha 21 (by decide)
          clear ha hp
          refine Reg.Op1.plain rfl ?_
          obtain ⟨hv, _⟩ := h21
          rw [hv] at e21
          go_wp2
          exact ⟨rfl, hK _ _ rfl (Reg.Wr.same _)⟩
        · intro val ac u hR hp ha K hK      -- 10: t22 := Op.extract t12 0
          obtain ⟨w12, h12, r12⟩ := hp 9 (by decide)
          have e12 : (ac.tmps[12]?).getD undef = .tuple #[.int .i64 (kk : Int), .int .i64 fe] := (ha 12 (by decide)).trans h12
          clear h12
          clear ha hp
          refine Reg.Op1.plain rfl ?_
          go_wp2
          exact ⟨rfl, hK _ _ rfl (Reg.Wr.same _)⟩
        · intro val ac u hR hp ha K hK      -- 11: t23 := Op.extract t12 1
          obtain ⟨w12, h12, r12⟩ := hp 9 (by decide)
          have e12 : (ac.tmps[12]?).getD undef = .tuple #[.int .i64 (kk : Int), .int .i64 fe] := (ha 12 (by decide)).trans h12
          clear h12
          clear ha hp
          refine Reg.Op1.plain rfl ?_
          go_wp2
          exact ⟨rfl, hK _ _ rfl (Reg.Wr.same _)⟩
        · intro val ac u hR hp ha K hK      -- 12: t4 := Op.assign t22
          obtain ⟨w22, h22, r22⟩ := hp 10 (by decide)
          have e22 : (ac.tmps[22]?).getD undef = .int .i64 (kk : Int) := (ha 22 (by decide)).trans h22
          clear h22
          clear ha hp
          refine Reg.Op1.plain rfl ?_
          go_wp2
          exact ⟨rfl, hK _ _ rfl (Reg.Wr.same _)⟩
        · intro val ac u hR hp ha K hK      -- 13: t5 := Op.assign t23
          obtain ⟨w23, h23, r23⟩ := hp 11 (by decide)
          have e23 : (ac.tmps[23]?).getD undef = .int .i64 fe := (ha 23 (by decide)).trans h23
          clear h23
          clear ha hp
          refine Reg.Op1.plain rfl ?_
          go_wp2
          exact ⟨rfl, hK _ _ rfl (Reg.Wr.same _)⟩
      · intro val u hR H
        obtain ⟨wA, ⟨_, A2, c2, hA2, hmA⟩, rA⟩ := H 8 (by decide)
        obtain ⟨wB, hv, _⟩ := H 12 (by decide)
        have hv : val 12 = .int .i64 (kk : Int) := hv
        have hgi := H5.out.ltg (i := 0) (by omega)
        have hkA := Reg.Wr.not2 rA (by decide +kernel)
        have hzA : Hid (True) := trivial
        have hk : Mem.Keeps (fun y => w5.heap.size ≤ y ∨ Link.Bl (p.g 0) (p.O 0) y ∨ False) w5 u := (Mem.Keeps.refl (fun y => w5.heap.size ≤ y ∨ Link.Bl (p.g 0) (p.O 0) y ∨ False) w5).drew.trans (Reg.Wr.all hR) (fun _ h _ => h)
        have hA3 := hA2.keeps (Reg.Wr.only3 rA (by decide +kernel) (by decide +kernel)) (fun h => h) (fun _ _ h => h)
        have hk2 : Mem.Keeps (fun y => Link.relab lab w.heap.size 11 y = 0 ∨ Link.relab lab w.heap.size 11 y = 8 + 0) w5 u := Mem.Keeps.mono hk (fun y h hl => by
          rcases h with h | h | h
          · omega
          · rcases h with h | h
            · exact .inl (by rw [h]; exact H5.out.le 0 (by omega))
            · exact .inr (H5.out.lo 0 (by omega) y h)
          · exact h.elim)
        have hwl := H5.out.endd (i := 0) (by omega) hA3 hk2 (hmA.elim .inl (fun h => .inr (.inr h)))
        have hlb : Link.relab lab w.heap.size 11 w.heap.size = 11 := Link.relab_ge (Nat.le_refl _)
        have HM : Hid (Link.SendMid w0 g w.heap.size kk { s with e := Link.upd s.e 0 (Link.sendTo (s.e 0) a.data kk) } a (.int .i64 (kk : Int)) u) := by
          have hkz := hk.size
          have hz5 := HZ5.out
          refine ⟨rfl, _, _, hwl, ?_, ?_, ?_⟩
          · refine (hk.cell (p := ⟨w.heap.size, 3, none⟩) (by show w.heap.size < _; omega) ?_).trans HZ3.out
            rintro (h | h | h)
            · simp only at h; omega
            · rcases h with h | h
              · have := H5.out.le 0 (by omega); simp only at h; rw [← h, hlb] at this; omega
              · have := H5.out.lo 0 (by omega) _ h; simp only at this; omega
            · exact h
          · show w.heap.size < _; omega
          · show Link.relab _ _ _ _ = 11
            rw [Link.relab_lt (by omega)]; exact hlb
        simp only [List.map_cons, List.map_nil, Reg.lay, Act.put, List.setIfInBounds_toArray, List.set_cons_succ, List.set_cons_zero, Nat.reduceAdd, hv]
        clear hR H hk hk2 hA3 hA2 rA hwl hv hkA
        go_wp2
        go_meet
        case rel => exact HM.out
    case rest =>
      obtain ⟨rfl, p6, lab6, H6, HZ6, HB6, HL6⟩ := hcut
      have e1 := H6.out.cell (i := 4) rfl
      have z3 := HZ6.out
      have hb6 := HB6.out
      have hg6 := H6.out.lt
      have hst1 := HST.out 4 (by omega) (by omega)
      have hmn : ∀ ts t W, (Builtin.min_ ts t #[.int .i64 (kk : Int), .int .i64 (a.data.length : Int)]).run Try.prog W = .ok (.int .i64 (kk : Int)) W := fun ts t W => Link.run_mink ts t W kk _ hkl.1
      have hkl1 := hkl.1
      have HX : Hid (∀ y, Mem.blk (p6.X 4) = some y → lab6 y = 4) := fun y hy => H6.out.lx 4 (by omega) (by omega) y hy
      have HGG := Lib.hid H6.out.lg
      have HN2 : Hid (∀ y, Mem.blk (p6.X 4) = some y → ¬ (y = g ∨ False)) := fun y hy h => by
        have := HX.out _ hy
        rcases h with h | h
        · rw [h, HGG.out] at this; omega
        · exact h
      have HNG : Hid (Mem.blk (p6.X 4) ≠ some g) := fun h => HN2.out g h (.inl rfl)
      go_upto_region 4 with fail
      refine Reg.wp_region_w (by kernel_rfl) 106 17 rfl rfl (by kernel_rfl) (13) (fun y => Mem.blk (p6.X 4) = some y) (16) (fun y => y = g) (0) (fun _ => False)
        (fun i v u => match i with
          | 0 => v = .pointer (some ⟨g, 0, none⟩)
          | 1 => v = .pointer (some ⟨g, 0, none⟩)
          | 2 => v = .pointer (some ⟨g, 0, none⟩)
          | 3 => v = .pointer (some ⟨g, 4, none⟩)
          | 4 => v = .slice (p6.X 4) (s.st 4).length (p6.xc 4)
          | 5 => v = .pointer (some ⟨w.heap.size, 3, none⟩)
          | 6 => v = .slice a.D a.data.length a.dc
          | 7 => v = .int .i64 (kk : Int)
          | 8 => v = .pointer (some ⟨w.heap.size, 3, none⟩)
          | 9 => v = .slice a.D a.data.length a.dc
          | 10 => v = .int .i64 ((a.data.length : Nat) : Int)
          | 11 => v = .int .i64 (kk : Int)
          | 12 => v = .slice a.D kk a.dc
          | 13 => ∃ X2 d2, v = .slice X2 ((s.st 4).length + kk) d2 ∧ Mem.Own u 9 1 X2 ((s.st 4).length + kk) d2 ((s.st 4).map Link.strV ++ (a.data.take kk).map Link.strV) ∧ (X2 = p6.X 4 ∨ Mem.From wc.heap.size X2)
          | 14 => v = .pointer (some ⟨g, 0, none⟩)
          | 15 => v = .pointer (some ⟨g, 4, none⟩)
          | 16 => ∃ X2 d2, Mem.Own u 9 1 X2 (s.st 4 ++ a.data.take kk).length d2 ((s.st 4 ++ a.data.take kk).map Link.strV) ∧ (X2 = p6.X 4 ∨ Mem.From wc.heap.size X2) ∧ Mem.Own u 31 8 (some ⟨g, 0, none⟩) 1 1 ((Link.wCells p6 { s with e := Link.upd s.e 0 (Link.sendTo (s.e 0) a.data kk) }).set 4 (.slice X2 (s.st 4 ++ a.data.take kk).length d2))
          | _ => True) ?_ ?_
      · refine Reg.Steps.cons ?_ (Reg.Steps.cons ?_ (Reg.Steps.cons ?_ (Reg.Steps.cons ?_ (Reg.Steps.cons ?_ (Reg.Steps.cons ?_ (Reg.Steps.cons ?_ (Reg.Steps.cons ?_ (Reg.Steps.cons ?_ (Reg.Steps.cons ?_ (Reg.Steps.cons ?_ (Reg.Steps.cons ?_ (Reg.Steps.cons ?_ (Reg.Steps.cons ?_ (Reg.Steps.cons ?_ (Reg.Steps.cons ?_ (Reg.Steps.cons ?_ (Reg.Steps.nil _)))))))))))))))))
        · intro val ac u hR hp ha K hK      -- 0: t24 := Op.move t0
          have e0 : (ac.tmps[0]?).getD undef = .pointer (some ⟨g, 0, none⟩) := ha 0 (by decide)
          clear ha hp
          refine Reg.Op1.plain rfl ?_
          go_wp2
          exact ⟨rfl, hK _ _ rfl (Reg.Wr.same _)⟩
        · intro val ac u hR hp ha K hK      -- 1: t25 := Op.move t0
          have e0 : (ac.tmps[0]?).getD undef = .pointer (some ⟨g, 0, none⟩) := ha 0 (by decide)
          clear ha hp
          refine Reg.Op1.plain rfl ?_
          go_wp2
          exact ⟨rfl, hK _ _ rfl (Reg.Wr.same _)⟩
        · intro val ac u hR hp ha K hK      -- 2: t26 := Op.nilCheck t25
          obtain ⟨w25, h25, r25⟩ := hp 1 (by decide)
          have e25 : (ac.tmps[25]?).getD undef = .pointer (some ⟨g, 0, none⟩) := (ha 25 (by decide)).trans h25
          clear h25
          clear ha hp
          refine Reg.Op1.plain rfl ?_
          go_wp2
          exact ⟨rfl, hK _ _ rfl (Reg.Wr.same _)⟩
        · intro val ac u hR hp ha K hK      -- 3: t27 := Op.fieldAddr 31 t26 4
          obtain ⟨w26, h26, r26⟩ := hp 2 (by decide)
          have e26 : (ac.tmps[26]?).getD undef = .pointer (some ⟨g, 0, none⟩) := (ha 26 (by decide)).trans h26
          clear h26
          clear ha hp
          refine Reg.Op1.plain rfl ?_
          go_wp2
          exact ⟨rfl, hK _ _ rfl (Reg.Wr.same _)⟩
        · intro val ac u hR hp ha K hK      -- 4: t28 := Op.load 29 t27
          obtain ⟨w27, h27, r27⟩ := hp 3 (by decide)
          have e27 : (ac.tmps[27]?).getD undef = .pointer (some ⟨g, 4, none⟩) := (ha 27 (by decide)).trans h27
          clear h27
          clear ha hp
          refine Reg.Op1.plain rfl ?_
          have x0 := (((Reg.Wr.only3 hR (by decide +kernel) (by decide +kernel))).cell (p := ⟨g, 4, none⟩) (hg6) (fun h => h)).trans (e1)
          go_wp2
          exact ⟨rfl, hK _ _ rfl (Reg.Wr.same _)⟩
        · intro val ac u hR hp ha K hK      -- 5: t29 := Op.fieldAddr 34 t3 3
          have e3 : (ac.tmps[3]?).getD undef = .pointer (some ⟨w.heap.size, 0, none⟩) := ha 3 (by decide)
          clear ha hp
          refine Reg.Op1.plain rfl ?_
          go_wp2
          exact ⟨rfl, hK _ _ rfl (Reg.Wr.same _)⟩
        · intro val ac u hR hp ha K hK      -- 6: t30 := Op.load 29 t29
          obtain ⟨w29, h29, r29⟩ := hp 5 (by decide)
          have e29 : (ac.tmps[29]?).getD undef = .pointer (some ⟨w.heap.size, 3, none⟩) := (ha 29 (by decide)).trans h29
          clear h29
          clear ha hp
          refine Reg.Op1.plain rfl ?_
          have x0 := (((Reg.Wr.only3 hR (by decide +kernel) (by decide +kernel))).cell (p := ⟨w.heap.size, 3, none⟩) (hb6) (fun h => h)).trans (z3)
          go_wp2
          exact ⟨rfl, hK _ _ rfl (Reg.Wr.same _)⟩
        · intro val ac u hR hp ha K hK      -- 7: t31 := Op.move t4
          have e4 : (ac.tmps[4]?).getD undef = .int .i64 (kk : Int) := ha 4 (by decide)
          clear ha hp
          refine Reg.Op1.plain rfl ?_
          go_wp2
          exact ⟨rfl, hK _ _ rfl (Reg.Wr.same _)⟩
        · intro val ac u hR hp ha K hK      -- 8: t32 := Op.fieldAddr 34 t3 3
          have e3 : (ac.tmps[3]?).getD undef = .pointer (some ⟨w.heap.size, 0, none⟩) := ha 3 (by decide)
          clear ha hp
          refine Reg.Op1.plain rfl ?_
          go_wp2
          exact ⟨rfl, hK _ _ rfl (Reg.Wr.same _)⟩
        · intro val ac u hR hp ha K hK      -- 9: t33 := Op.load 29 t32
          obtain ⟨w32, h32, r32⟩ := hp 8 (by decide)
          have e32 : (ac.tmps[32]?).getD undef = .pointer (some ⟨w.heap.size, 3, none⟩) := (ha 32 (by decide)).trans h32
          clear h32
          clear ha hp
          refine Reg.Op1.plain rfl ?_
          have x0 := (((Reg.Wr.only3 hR (by decide +kernel) (by decide +kernel))).cell (p := ⟨w.heap.size, 3, none⟩) (hb6) (fun h => h)).trans (z3)
          go_wp2
          exact ⟨rfl, hK _ _ rfl (Reg.Wr.same _)⟩
        · intro val ac u hR hp ha K hK      -- 10: t34 := Op.call { builtin len, args := #[t33], argTypes := #[29] }
          obtain ⟨w33, h33, r33⟩ := hp 9 (by decide)
          have e33 : (ac.tmps[33]?).getD undef = .slice a.D a.data.length a.dc := (ha 33 (by decide)).trans h33
          clear h33
          clear ha hp
          refine Reg.Op1.plain rfl ?_
          go_wp2
          exact ⟨rfl, hK _ _ rfl (Reg.Wr.same _)⟩
        · intro val ac u hR hp ha K hK      -- 11: t35 := Op.call { builtin min, args := #[t31, t34], argTypes := #[3, 3] }
          obtain ⟨w31, h31, r31⟩ := hp 7 (by decide)
          have e31 : (ac.tmps[31]?).getD undef = .int .i64 (kk : Int) := (ha 31 (by decide)).trans h31
          clear h31
          obtain ⟨w34, h34, r34⟩ := hp 10 (by decide)
          have e34 : (ac.tmps[34]?).getD undef = .int .i64 ((a.data.length : Nat) : Int) := (ha 34 (by decide)).trans h34
          clear h34
          clear ha hp
          refine Reg.Op1.plain rfl ?_
          go_wp2
          exact ⟨rfl, hK _ _ rfl (Reg.Wr.same _)⟩
        · intro val ac u hR hp ha K hK      -- 12: t36 := Op.slice 29 t30 none (some t35) none
          obtain ⟨w30, h30, r30⟩ := hp 6 (by decide)
          have e30 : (ac.tmps[30]?).getD undef = .slice a.D a.data.length a.dc := (ha 30 (by decide)).trans h30
          clear h30
          obtain ⟨w35, h35, r35⟩ := hp 11 (by decide)
          have e35 : (ac.tmps[35]?).getD undef = .int .i64 (kk : Int) := (ha 35 (by decide)).trans h35
          clear h35
          clear ha hp
          refine Reg.Op1.plain rfl ?_
          go_wp2
          exact ⟨rfl, hK _ _ rfl (Reg.Wr.same _)⟩
        · intro val ac u hR hp ha K hK      -- 13: t37 := Op.call { builtin append, args := #[t28, t36], argTypes := #[29, 29] }
          obtain ⟨w28, h28, r28⟩ := hp 4 (by decide)
          have e28 : (ac.tmps[28]?).getD undef = .slice (p6.X 4) (s.st 4).length (p6.xc 4) := (ha 28 (by decide)).trans h28
          clear h28
          obtain ⟨w36, h36, r36⟩ := hp 12 (by decide)
          have e36 : (ac.tmps[36]?).getD undef = .slice a.D kk a.dc := (ha 36 (by decide)).trans h36
          clear h36
          clear ha hp
          refine Reg.Op1.plain rfl ?_
          have hq : Mem.Keeps (fun _ => False) wc u := (Mem.Keeps.refl (fun _ => False) wc).drew.trans (Reg.Wr.only3 hR (by decide +kernel) (by decide +kernel)) (fun _ h _ => h)
          have hX' := (H6.out.st 4 (by omega) (by omega)).keeps hq (fun _ _ h => h)
          have hbu := hq.size
          have hrd : Mem.Rd u u.heap.size a.D ((a.data.take kk).map Link.strV) := by
            have h1 := (((HOK.out.rd.below H6.out.bl).more H6.out.bl.size).keepsAt hq (Nat.le_refl _) (fun _ _ h => h)).take kk
            rwa [← List.map_take] at h1
          refine Mem.wpList_app u rfl (.tmp 28) (.tmp 36) _ rfl strs_elem (p6.X 4) (s.st 4).length (p6.xc 4) _ (Reg.eval_of e28) u.heap.size a.D kk a.dc ((a.data.take kk).map Link.strV) (Reg.eval_of e36) ?_ hX' hrd (by simp; omega) (Link.str_one _) (by unfold maxLen; omega) (by omega)
          intro X' d' u' hown hg hat
          exact ⟨rfl, hK _ _ ⟨X', d', rfl, hown, hat.elim .inl (fun h => .inr (h ▸ Mem.From.some_ hbu))⟩ (Reg.Wr.does1 ((Mem.Keeps.refl _ u).grown hg (fun y hy _ => hy)))⟩
        · intro val ac u hR hp ha K hK      -- 14: t38 := Op.nilCheck t24
          obtain ⟨w24, h24, r24⟩ := hp 0 (by decide)
          have e24 : (ac.tmps[24]?).getD undef = .pointer (some ⟨g, 0, none⟩) := (ha 24 (by decide)).trans h24
          clear h24
          clear ha hp
          refine Reg.Op1.plain rfl ?_
          go_wp2
          exact ⟨rfl, hK _ _ rfl (Reg.Wr.same _)⟩
        · intro val ac u hR hp ha K hK      -- 15: t39 := Op.fieldAddr 31 t38 4
          obtain ⟨w38, h38, r38⟩ := hp 14 (by decide)
          have e38 : (ac.tmps[38]?).getD undef = .pointer (some ⟨g, 0, none⟩) := (ha 38 (by decide)).trans h38
          clear h38
          clear ha hp
          refine Reg.Op1.plain rfl ?_
          go_wp2
          exact ⟨rfl, hK _ _ rfl (Reg.Wr.same _)⟩
        · intro val ac u hR hp ha K hK      -- 16: Op.store 29 t39 t37
          obtain ⟨w39, h39, r39⟩ := hp 15 (by decide)
          have e39 : (ac.tmps[39]?).getD undef = .pointer (some ⟨g, 4, none⟩) := (ha 39 (by decide)).trans h39
          clear h39
          obtain ⟨w37, h37, r37⟩ := hp 13 (by decide)
          have e37 : (ac.tmps[37]?).getD undef = val 13 := ha 37 (by decide)
          clear ha hp
          refine Reg.Op1.plain rfl ?_
          obtain ⟨X2, d2, hv, hO, hm⟩ := h37
          rw [hv] at e37
          have hO' := hO.keeps (Reg.Wr.only3 r37 (by decide +kernel) (by decide +kernel)) (fun _ _ h => h)
          have hq3 : Mem.Keeps (fun y => Mem.blk (p6.X 4) = some y ∨ False) wc u := (Mem.Keeps.refl (fun y => Mem.blk (p6.X 4) = some y ∨ False) wc).drew.trans (Reg.Wr.not2 hR (by decide +kernel)) (fun _ h _ => h)
          have hgx : ¬ (Mem.blk (p6.X 4) = some g ∨ False) := fun h => h.elim HNG.out id
          have hbx := Mem.Own.keeps H6.out.box hq3 (fun y hy h => by cases hy; exact hgx h)
          have xf := Mem.Own.free hbx
          have x0 := (hq3.cell (p := ⟨g, 4, none⟩) hg6 hgx).trans e1
          have hln : (s.st 4 ++ a.data.take kk).length = (s.st 4).length + kk := by rw [List.length_append, List.length_take]; omega
          go_wp2
          refine ⟨rfl, hK undef _ ⟨X2, d2, ?_, hm, ?_⟩ (Reg.Wr.does2 ((Mem.Keeps.refl (fun q => q = g) u).setCell (p := ⟨g, 4, none⟩) (fun _ => rfl) _))⟩
          · rw [hln, List.map_append]
            refine hO'.keeps ((Mem.Keeps.refl (fun q => q = g) u).setCell (p := ⟨g, 4, none⟩) (fun _ => rfl) _) (fun y h1 h => ?_)
            rcases hm with h2 | h2
            · exact HNG.out (by rw [← h2, h1, h])
            · have := h2.blk y h1; omega
          · rw [hln]; have := Mem.Own.set hbx 4 (.slice X2 ((s.st 4).length + kk) d2); exact this
      · intro val u hR H
        obtain ⟨wB, ⟨X2, d2, hO3, hmX, hb3⟩, rB⟩ := H 16 (by decide)
        have hO4 := hO3.keeps (Reg.Wr.only3 rB (by decide +kernel) (by decide +kernel)) (fun _ _ h => h)
        have hb4 := hb3.keeps (Reg.Wr.only3 rB (by decide +kernel) (by decide +kernel)) (fun _ _ h => h)
        have hk : Mem.Keeps (fun y => lab6 y = 4 ∨ lab6 y = 10) wc u := ((Mem.Keeps.refl (fun y => Mem.blk (p6.X 4) = some y ∨ y = g ∨ False) wc).drew.trans (Reg.Wr.all hR) (fun _ h _ => h)).mono (fun y h _ => by
          rcases h with h | h | h
          · exact .inl (HX.out _ h)
          · exact .inr (by rw [h]; exact HGG.out)
          · exact h.elim)
        have hwl := H6.out.strs (i := 4) (by omega) (by omega) hO4 hb4 hk (hmX.elim (fun h => .inl (by rw [h])) (fun h => .inr (.inr h)))
        have hgs : Link.stepW s a = { s with e := Link.upd s.e 0 (Link.sendTo (s.e 0) a.data kk), st := Link.upd s.st 4 (s.st 4 ++ a.data.take kk) } := by rw [HSW.out]; unfold Link.sendW; rw [HKK.out]
        have HWL : Hid (∃ p' lab', Link.WL w0 u g p' (Link.stepW s a) lab') := by
          show ∃ p' lab', Link.WL w0 u g p' (Link.stepW s a) lab'
          rw [hgs]
          exact ⟨_, _, hwl⟩
        simp only [List.map_cons, List.map_nil, Reg.lay, Act.put, List.setIfInBounds_toArray, List.set_cons_succ, List.set_cons_zero, Nat.reduceAdd]
        clear hR H hk hb4 hO4 hb3 hO3 rB hwl hgs
        go_wp2
        go_end0
        exact ⟨rfl, HWL.out⟩
  by_cases hkd : a.kind = 2
  · have d1 : (a.kind == 1) = false := by simp [hkd]
    have d2 : (a.kind == 2) = true := by simp [hkd]
    have HSW : Hid (Link.stepW s a = Link.sendW s 1 a.data) := by show _ = _; unfold Link.stepW; simp [hkd]
    obtain ⟨kk, hkk⟩ : ∃ kk, Link.sendK (s.e 1) a.data = kk := ⟨_, rfl⟩
    have hkl : kk ≤ a.data.length ∧ kk ≤ 8 := by rw [← hkk]; unfold Link.sendK; omega
    have HKK := Lib.hid hkk
    obtain ⟨fe, hfe⟩ : ∃ fe : Int, (if kk = a.data.length then 0 else 2) = fe := ⟨_, rfl⟩
    have HFE := Lib.hid hfe
    clear hkd hkk hfe
    go_upto_region 6 with fail
    go_cut [6] (fun v wx => Link.SendMid w0 g w.heap.size kk { s with e := Link.upd s.e 1 (Link.sendTo (s.e 1) a.data kk) } a v wx)
    case first =>
      have e0 := H5.out.cell (i := 1) rfl
      have z3 := HZ3.out
      have hg5 := H5.out.lt
      have hgn : ¬ (w5.heap.size ≤ g ∨ False) := fun h => h.elim (fun h => by omega) id
      have hbn : ¬ (w5.heap.size ≤ w.heap.size ∨ False) := fun h => h.elim (fun h => by have := HZ5.out; omega) id
      have hb5 : w.heap.size < w5.heap.size := by have := HZ5.out; omega
      refine Reg.wp_region_w (by kernel_rfl) 106 14 rfl rfl (by kernel_rfl) (7) (fun y => w5.heap.size ≤ y) (8) (fun y => Link.Bl (p.g 1) (p.O 1) y) (0) (fun _ => False)
        (fun i v u => match i with
          | 0 => v = .pointer (some ⟨g, 0, none⟩)
          | 1 => v = .pointer (some ⟨g, 0, none⟩)
          | 2 => v = .pointer (some ⟨g, 1, none⟩)
          | 3 => v = .pointer (some ⟨p.g 1, 0, none⟩)
          | 4 => ∃ s0, v = .slice (some ⟨s0, 0, none⟩) 0 0 ∧ w5.heap.size ≤ s0 ∧ Mem.Own u 9 1 (some ⟨s0, 0, none⟩) 0 0 []
          | 5 => v = .pointer (some ⟨w.heap.size, 3, none⟩)
          | 6 => v = .slice a.D a.data.length a.dc
          | 7 => ∃ A1 c1, v = .slice A1 a.data.length c1 ∧ Mem.From w5.heap.size A1 ∧ Mem.Own u 9 1 A1 a.data.length c1 (a.data.map Link.strV)
          | 8 => v = .tuple #[.int .i64 (kk : Int), .int .i64 fe] ∧ ∃ A2 c2, Link.At u (p.g 1) A2 c2 (Link.sendTo (s.e 1) a.data kk) ∧ (Mem.blk A2 = Mem.blk (p.O 1) ∨ Mem.From w5.heap.size A2)
          | 9 => v = .tuple #[.int .i64 (kk : Int), .int .i64 fe]
          | 10 => v = .int .i64 (kk : Int)
          | 11 => v = .int .i64 fe
          | 12 => v = .int .i64 (kk : Int)
          | 13 => v = .int .i64 fe
          | _ => True) ?_ ?_
      · refine Reg.Steps.cons ?_ (Reg.Steps.cons ?_ (Reg.Steps.cons ?_ (Reg.Steps.cons ?_ (Reg.Steps.cons ?_ (Reg.Steps.cons ?_ (Reg.Steps.cons ?_ (Reg.Steps.cons ?_ (Reg.Steps.cons ?_ (Reg.Steps.cons ?_ (Reg.Steps.cons ?_ (Reg.Steps.cons ?_ (Reg.Steps.cons ?_ (Reg.Steps.cons ?_ (Reg.Steps.nil _))))))))))))))
        · intro val ac u hR hp ha K hK      -- 0: t43 := Op.move t0
          have e0 : (ac.tmps[0]?).getD undef = .pointer (some ⟨g, 0, none⟩) := ha 0 (by decide)
          clear ha hp
          refine Reg.Op1.plain rfl ?_
          go_wp2
          exact ⟨rfl, hK _ _ rfl (Reg.Wr.same _)⟩
        · intro val ac u hR hp ha K hK      -- 1: t44 := Op.nilCheck t43
          obtain ⟨w43, h43, r43⟩ := hp 0 (by decide)
          have e43 : (ac.tmps[43]?).getD undef = .pointer (some ⟨g, 0, none⟩) := (ha 43 (by decide)).trans h43
          clear h43
          clear ha hp
          refine Reg.Op1.plain rfl ?_
          go_wp2
          exact ⟨rfl, hK _ _ rfl (Reg.Wr.same _)⟩
        · intro val ac u hR hp ha K hK      -- 2: t45 := Op.fieldAddr 31 t44 1
          obtain ⟨w44, h44, r44⟩ := hp 1 (by decide)
          have e44 : (ac.tmps[44]?).getD undef = .pointer (some ⟨g, 0, none⟩) := (ha 44 (by decide)).trans h44
          clear h44
          clear ha hp
          refine Reg.Op1.plain rfl ?_
          go_wp2
          exact ⟨rfl, hK _ _ rfl (Reg.Wr.same _)⟩
        · intro val ac u hR hp ha K hK      -- 3: t46 := Op.load 26 t45
          obtain ⟨w45, h45, r45⟩ := hp 2 (by decide)
          have e45 : (ac.tmps[45]?).getD undef = .pointer (some ⟨g, 1, none⟩) := (ha 45 (by decide)).trans h45
          clear h45
          clear ha hp
          refine Reg.Op1.plain rfl ?_
          have x0 := (((Reg.Wr.not2 hR (by decide +kernel))).cell (p := ⟨g, 1, none⟩) (hg5) (hgn)).trans (e0)
          go_wp2
          exact ⟨rfl, hK _ _ rfl (Reg.Wr.same _)⟩
        · intro val ac u hR hp ha K hK      -- 4: t47 := Op.buildSlice 29 0 #[]
          clear ha hp
          refine Reg.Op1.plain rfl ?_
          have hbu : w5.heap.size ≤ u.heap.size := (Reg.Wr.all hR).size
          go_wp2
          exact ⟨rfl, hK _ _ ⟨u.heap.size, rfl, hbu, Mem.Own.lit u _ 1 #[] 0 rfl rfl (by simp [maxLen])⟩ (Reg.Wr.quiet ((Mem.Keeps.refl _ u).alloc _))⟩
        · intro val ac u hR hp ha K hK      -- 5: t48 := Op.fieldAddr 34 t3 3
          have e3 : (ac.tmps[3]?).getD undef = .pointer (some ⟨w.heap.size, 0, none⟩) := ha 3 (by decide)
          clear ha hp
          refine Reg.Op1.plain rfl ?_
          go_wp2
          exact ⟨rfl, hK _ _ rfl (Reg.Wr.same _)⟩
        · intro val ac u hR hp ha K hK      -- 6: t49 := Op.load 29 t48
          obtain ⟨w48, h48, r48⟩ := hp 5 (by decide)
          have e48 : (ac.tmps[48]?).getD undef = .pointer (some ⟨w.heap.size, 3, none⟩) := (ha 48 (by decide)).trans h48
          clear h48
          clear ha hp
          refine Reg.Op1.plain rfl ?_
          have x0 := (((Reg.Wr.not2 hR (by decide +kernel))).cell (p := ⟨w.heap.size, 3, none⟩) (hb5) (hbn)).trans (z3)
          go_wp2
          exact ⟨rfl, hK _ _ rfl (Reg.Wr.same _)⟩
        · intro val ac u hR hp ha K hK      -- 7: t50 := Op.call { builtin append, args := #[t47, t49], argTypes := #[29, 29] }
          obtain ⟨w47, h47, r47⟩ := hp 4 (by decide)
          have e47 : (ac.tmps[47]?).getD undef = val 4 := ha 47 (by decide)
          obtain ⟨w49, h49, r49⟩ := hp 6 (by decide)
          have e49 : (ac.tmps[49]?).getD undef = .slice a.D a.data.length a.dc := (ha 49 (by decide)).trans h49
          clear h49
          clear ha hp
          refine Reg.Op1.plain rfl ?_
          obtain ⟨s0, hv, hs0, ho⟩ := h47
          rw [hv] at e47
          have ho' := ho.keeps (Reg.Wr.only3 r47 (by decide +kernel) (by decide +kernel)) (fun _ _ h => h)
          have hq : Mem.Keeps (fun _ => False) w5 u := (Mem.Keeps.refl (fun _ => False) w5).drew.trans (Reg.Wr.only3 hR (by decide +kernel) (by decide +kernel)) (fun _ h _ => h)
          have hbu := hq.size
          have hrd : Mem.Rd u u.heap.size a.D (a.data.map Link.strV) := ((HOK.out.rd.below H5.out.bl).more H5.out.bl.size).keepsAt hq (Nat.le_refl _) (fun _ _ h => h)
          refine Mem.wpList_app u rfl (.tmp 47) (.tmp 49) _ rfl strs_elem (some ⟨s0, 0, none⟩) 0 0 [] (Reg.eval_of e47) u.heap.size a.D a.data.length a.dc (a.data.map Link.strV) (Reg.eval_of e49) ?_ ho' hrd (by simp) (by simp [Value.oneCell']) (by unfold maxLen; omega) (by omega)
          intro X' d' u' hown hg hat
          rw [Nat.zero_add] at hown ⊢
          rw [List.nil_append] at hown
          refine ⟨rfl, hK _ _ ⟨X', d', rfl, ?_, hown⟩ (Reg.Wr.does1 ((Mem.Keeps.refl _ u).grown hg (fun q hq _ => by have h' : s0 = q := Option.some.inj hq; omega)))⟩
          rcases hat with rfl | rfl
          · exact Mem.From.some_ hs0
          · exact Mem.From.some_ hbu
        · intro val ac u hR hp ha K hK      -- 8: t51 := Op.call { value (Operand.func 21), args := #[t46, t50], argTypes := #[26, 29] }
          obtain ⟨w46, h46, r46⟩ := hp 3 (by decide)
          have e46 : (ac.tmps[46]?).getD undef = .pointer (some ⟨p.g 1, 0, none⟩) := (ha 46 (by decide)).trans h46
          clear h46
          obtain ⟨w50, h50, r50⟩ := hp 7 (by decide)
          have e50 : (ac.tmps[50]?).getD undef = val 7 := ha 50 (by decide)
          clear ha hp
          refine Reg.Op1.plain rfl ?_
          obtain ⟨A1, c1, hv, hf1, ho⟩ := h50
          rw [hv] at e50
          have ho' := ho.keeps (Reg.Wr.only3 r50 (by decide +kernel) (by decide +kernel)) (fun _ _ h => h)
          have hq : Mem.Keeps (fun y => w5.heap.size ≤ y ∨ False) w5 u := (Mem.Keeps.refl (fun y => w5.heap.size ≤ y ∨ False) w5).drew.trans (Reg.Wr.not2 hR (by decide +kernel)) (fun _ h _ => h)
          have hgi := H5.out.ltg (i := 1) (by omega)
          have hoi : ∀ y, Mem.blk (p.O 1) = some y → y < w5.heap.size := fun y hy => H5.out.ltO (by omega) hy
          have hen := (H5.out.en 1 (by omega)).keeps hq (fun h => h.elim (fun h => by omega) id) (fun y hy h => h.elim (fun h => by have := hoi y hy; omega) id)
          have hbu := hq.size
          have hfi := HF.out 1 (by omega)
          go_wp2_with fail
          refine (send_any hen A1 c1 a.data (fun W hk => ho'.rd.keepsAt hk (Nat.le_refl _) (fun y h1 h => by
            have := hf1.blk y h1
            rcases h with h | h
            · omega
            · have := hoi y h; omega)) (by unfold maxLen; omega) hfi.s0 (by have := hfi.sN; omega) (by have := hfi.o8; omega)).mono ?_
          rintro x w' ⟨A2, c2, rfl, hA2, hk2, hm2⟩
          rw [HKK.out] at hA2 ⊢
          rw [HFE.out]
          go_wp2_with fail
          exact ⟨rfl, hK _ _ ⟨rfl, A2, c2, hA2, hm2.elim .inl (fun h => .inr (h.mono hbu))⟩ (Reg.Wr.does2 hk2)⟩
        · intro val ac u hR hp ha K hK      -- 9: t42 := Op.move t51
          obtain ⟨w51, h51, r51⟩ := hp 8 (by decide)
          have e51 : (ac.tmps[51]?).getD undef = val 8 := ha 51 (by decide)
          clear ha hp
          refine Reg.Op1.plain rfl ?_
          obtain ⟨hv, _⟩ := h51
          rw [hv] at e51
          go_wp2
          exact ⟨rfl, hK _ _ rfl (Reg.Wr.same _)⟩
        · intro val ac u hR hp ha K hK      -- 10: t52 := Op.extract t42 0
          obtain ⟨w42, h42, r42⟩ := hp 9 (by decide)
          have e42 : (ac.tmps[42]?).getD undef = .tuple #[.int .i64 (kk : Int), .int .i64 fe] := (ha 42 (by decide)).trans h42
          clear h42
          clear ha hp
          refine Reg.Op1.plain rfl ?_
          go_wp2
          exact ⟨rfl, hK _ _ rfl (Reg.Wr.same _)⟩
        · intro val ac u hR hp ha K hK      -- 11: t53 := Op.extract t42 1
          obtain ⟨w42, h42, r42⟩ := hp 9 (by decide)
          have e42 : (ac.tmps[42]?).getD undef = .tuple #[.int .i64 (kk : Int), .int .i64 fe] := (ha 42 (by decide)).trans h42
          clear h42
          clear ha hp
          refine Reg.Op1.plain rfl ?_
          go_wp2
          exact ⟨rfl, hK _ _ rfl (Reg.Wr.same _)⟩
        · intro val ac u hR hp ha K hK      -- 12: t6 := Op.assign t52
          obtain ⟨w52, h52, r52⟩ := hp 10 (by decide)
          have e52 : (ac.tmps[52]?).getD undef = .int .i64 (kk : Int) := (ha 52 (by decide)).trans h52
          clear h52
          clear ha hp
          refine Reg.Op1.plain rfl ?_
          go_wp2
          exact ⟨rfl, hK _ _ rfl (Reg.Wr.same _)⟩
        · intro val ac u hR hp ha K hK      -- 13: t7 := Op.assign t53
          obtain ⟨w53, h53, r53⟩ := hp 11 (by decide)
          have e53 : (ac.tmps[53]?).getD undef = .int .i64 fe := (ha 53 (by decide)).trans h53
          clear h53
          clear ha hp
          refine Reg.Op1.plain rfl ?_
          go_wp2
          exact ⟨rfl, hK _ _ rfl (Reg.Wr.same _)⟩
      · intro val u hR H
        obtain ⟨wA, ⟨_, A2, c2, hA2, hmA⟩, rA⟩ := H 8 (by decide)
        obtain ⟨wB, hv, _⟩ := H 12 (by decide)
        have hv : val 12 = .int .i64 (kk : Int) := hv
        have hgi := H5.out.ltg (i := 1) (by omega)
        have hkA := Reg.Wr.not2 rA (by decide +kernel)
        have hzA : Hid (True) := trivial
        have hk : Mem.Keeps (fun y => w5.heap.size ≤ y ∨ Link.Bl (p.g 1) (p.O 1) y ∨ False) w5 u := (Mem.Keeps.refl (fun y => w5.heap.size ≤ y ∨ Link.Bl (p.g 1) (p.O 1) y ∨ False) w5).drew.trans (Reg.Wr.all hR) (fun _ h _ => h)
        have hA3 := hA2.keeps (Reg.Wr.only3 rA (by decide +kernel) (by decide +kernel)) (fun h => h) (fun _ _ h => h)
        have hk2 : Mem.Keeps (fun y => Link.relab lab w.heap.size 11 y = 1 ∨ Link.relab lab w.heap.size 11 y = 8 + 1) w5 u := Mem.Keeps.mono hk (fun y h hl => by
          rcases h with h | h | h
          · omega
          · rcases h with h | h
            · exact .inl (by rw [h]; exact H5.out.le 1 (by omega))
            · exact .inr (H5.out.lo 1 (by omega) y h)
          · exact h.elim)
        have hwl := H5.out.endd (i := 1) (by omega) hA3 hk2 (hmA.elim .inl (fun h => .inr (.inr h)))
        have hlb : Link.relab lab w.heap.size 11 w.heap.size = 11 := Link.relab_ge (Nat.le_refl _)
        have HM : Hid (Link.SendMid w0 g w.heap.size kk { s with e := Link.upd s.e 1 (Link.sendTo (s.e 1) a.data kk) } a (.int .i64 (kk : Int)) u) := by
          have hkz := hk.size
          have hz5 := HZ5.out
          refine ⟨rfl, _, _, hwl, ?_, ?_, ?_⟩
          · refine (hk.cell (p := ⟨w.heap.size, 3, none⟩) (by show w.heap.size < _; omega) ?_).trans HZ3.out
            rintro (h | h | h)
            · simp only at h; omega
            · rcases h with h | h
              · have := H5.out.le 1 (by omega); simp only at h; rw [← h, hlb] at this; omega
              · have := H5.out.lo 1 (by omega) _ h; simp only at this; omega
            · exact h
          · show w.heap.size < _; omega
          · show Link.relab _ _ _ _ = 11
            rw [Link.relab_lt (by omega)]; exact hlb
        simp only [List.map_cons, List.map_nil, Reg.lay, Act.put, List.setIfInBounds_toArray, List.set_cons_succ, List.set_cons_zero, Nat.reduceAdd, hv]
        clear hR H hk hk2 hA3 hA2 rA hwl hv hkA
        go_wp2
        go_meet
        case rel => exact HM.out
    case rest =>
      obtain ⟨rfl, p6, lab6, H6, HZ6, HB6, HL6⟩ := hcut
      have e1 := H6.out.cell (i := 5) rfl
      have z3 := HZ6.out
      have hb6 := HB6.out
      have hg6 := H6.out.lt
      have hst1 := HST.out 5 (by omega) (by omega)
      have hmn : ∀ ts t W, (Builtin.min_ ts t #[.int .i64 (kk : Int), .int .i64 (a.data.length : Int)]).run Try.prog W = .ok (.int .i64 (kk : Int)) W := fun ts t W => Link.run_mink ts t W kk _ hkl.1
      have hkl1 := hkl.1
      have HX : Hid (∀ y, Mem.blk (p6.X 5) = some y → lab6 y = 5) := fun y hy => H6.out.lx 5 (by omega) (by omega) y hy
      have HGG := Lib.hid H6.out.lg
      have HN2 : Hid (∀ y, Mem.blk (p6.X 5) = some y → ¬ (y = g ∨ False)) := fun y hy h => by
        have := HX.out _ hy
        rcases h with h | h
        · rw [h, HGG.out] at this; omega
        · exact h
      have HNG : Hid (Mem.blk (p6.X 5) ≠ some g) := fun h => HN2.out g h (.inl rfl)
      go_upto_region 7 with fail
      refine Reg.wp_region_w (by kernel_rfl) 106 17 rfl rfl (by kernel_rfl) (13) (fun y => Mem.blk (p6.X 5) = some y) (16) (fun y => y = g) (0) (fun _ => False)
        (fun i v u => match i with
          | 0 => v = .pointer (some ⟨g, 0, none⟩)
          | 1 => v = .pointer (some ⟨g, 0, none⟩)
          | 2 => v = .pointer (some ⟨g, 0, none⟩)
          | 3 => v = .pointer (some ⟨g, 5, none⟩)
          | 4 => v = .slice (p6.X 5) (s.st 5).length (p6.xc 5)
          | 5 => v = .pointer (some ⟨w.heap.size, 3, none⟩)
          | 6 => v = .slice a.D a.data.length a.dc
          | 7 => v = .int .i64 (kk : Int)
          | 8 => v = .pointer (some ⟨w.heap.size, 3, none⟩)
          | 9 => v = .slice a.D a.data.length a.dc
          | 10 => v = .int .i64 ((a.data.length : Nat) : Int)
          | 11 => v = .int .i64 (kk : Int)
          | 12 => v = .slice a.D kk a.dc
          | 13 => ∃ X2 d2, v = .slice X2 ((s.st 5).length + kk) d2 ∧ Mem.Own u 9 1 X2 ((s.st 5).length + kk) d2 ((s.st 5).map Link.strV ++ (a.data.take kk).map Link.strV) ∧ (X2 = p6.X 5 ∨ Mem.From wc.heap.size X2)
          | 14 => v = .pointer (some ⟨g, 0, none⟩)
          | 15 => v = .pointer (some ⟨g, 5, none⟩)
          | 16 => ∃ X2 d2, Mem.Own u 9 1 X2 (s.st 5 ++ a.data.take kk).length d2 ((s.st 5 ++ a.data.take kk).map Link.strV) ∧ (X2 = p6.X 5 ∨ Mem.From wc.heap.size X2) ∧ Mem.Own u 31 8 (some ⟨g, 0, none⟩) 1 1 ((Link.wCells p6 { s with e := Link.upd s.e 1 (Link.sendTo (s.e 1) a.data kk) }).set 5 (.slice X2 (s.st 5 ++ a.data.take kk).length d2))
          | _ => True) ?_ ?_
      · refine Reg.Steps.cons ?_ (Reg.Steps.cons ?_ (Reg.Steps.cons ?_ (Reg.Steps.cons ?_ (Reg.Steps.cons ?_ (Reg.Steps.cons ?_ (Reg.Steps.cons ?_ (Reg.Steps.cons ?_ (Reg.Steps.cons ?_ (Reg.Steps.cons ?_ (Reg.Steps.cons ?_ (Reg.Steps.cons ?_ (Reg.Steps.cons ?_ (Reg.Steps.cons ?_ (Reg.Steps.cons ?_ (Reg.Steps.cons ?_ (Reg.Steps.cons ?_ (Reg.Steps.nil _)))))))))))))))))
        · intro val ac u hR hp ha K hK      -- 0: t54 := Op.move t0
          have e0 : (ac.tmps[0]?).getD undef = .pointer (some ⟨g, 0, none⟩) := ha 0 (by decide)
          clear ha hp
          refine Reg.Op1.plain rfl ?_
          go_wp2
          exact ⟨rfl, hK _ _ rfl (Reg.Wr.same _)⟩
        · intro val ac u hR hp ha K hK      -- 1: t55 := Op.move t0
          have e0 : (ac.tmps[0]?).getD undef = .pointer (some ⟨g, 0, none⟩) := ha 0 (by decide)
          clear ha hp
          refine Reg.Op1.plain rfl ?_
          go_wp2
          exact ⟨rfl, hK _ _ rfl (Reg.Wr.same _)⟩
        · intro val ac u hR hp ha K hK      -- 2: t56 := Op.nilCheck t55
          obtain ⟨w55, h55, r55⟩ := hp 1 (by decide)
          have e55 : (ac.tmps[55]?).getD undef = .pointer (some ⟨g, 0, none⟩) := (ha 55 (by decide)).trans h55
          clear h55
          clear ha hp
          refine Reg.Op1.plain rfl ?_
          go_wp2
          exact ⟨rfl, hK _ _ rfl (Reg.Wr.same _)⟩
        · intro val ac u hR hp ha K hK      -- 3: t57 := Op.fieldAddr 31 t56 5
          obtain ⟨w56, h56, r56⟩ := hp 2 (by decide)
          have e56 : (ac.tmps[56]?).getD undef = .pointer (some ⟨g, 0, none⟩) := (ha 56 (by decide)).trans h56
          clear h56
          clear ha hp
          refine Reg.Op1.plain rfl ?_
          go_wp2
          exact ⟨rfl, hK _ _ rfl (Reg.Wr.same _)⟩
        · intro val ac u hR hp ha K hK      -- 4: t58 := Op.load 29 t57
          obtain ⟨w57, h57, r57⟩ := hp 3 (by decide)
          have e57 : (ac.tmps[57]?).getD undef = .pointer (some ⟨g, 5, none⟩) := (ha 57 (by decide)).trans h57
          clear h57
          clear ha hp
          refine Reg.Op1.plain rfl ?_
          have x0 := (((Reg.Wr.only3 hR (by decide +kernel) (by decide +kernel))).cell (p := ⟨g, 5, none⟩) (hg6) (fun h => h)).trans (e1)
          go_wp2
          exact ⟨rfl, hK _ _ rfl (Reg.Wr.same _)⟩
        · intro val ac u hR hp ha K hK      -- 5: t59 := Op.fieldAddr 34 t3 3
          have e3 : (ac.tmps[3]?).getD undef = .pointer (some ⟨w.heap.size, 0, none⟩) := ha 3 (by decide)
          clear ha hp
          refine Reg.Op1.plain rfl ?_
          go_wp2
          exact ⟨rfl, hK _ _ rfl (Reg.Wr.same _)⟩
        · intro val ac u hR hp ha K hK      -- 6: t60 := Op.load 29 t59
          obtain ⟨w59, h59, r59⟩ := hp 5 (by decide)
          have e59 : (ac.tmps[59]?).getD undef = .pointer (some ⟨w.heap.size, 3, none⟩) := (ha 59 (by decide)).trans h59
          clear h59
          clear ha hp
          refine Reg.Op1.plain rfl ?_
          have x0 := (((Reg.Wr.only3 hR (by decide +kernel) (by decide +kernel))).cell (p := ⟨w.heap.size, 3, none⟩) (hb6) (fun h => h)).trans (z3)
          go_wp2
          exact ⟨rfl, hK _ _ rfl (Reg.Wr.same _)⟩
        · intro val ac u hR hp ha K hK      -- 7: t61 := Op.move t6
          have e6 : (ac.tmps[6]?).getD undef = .int .i64 (kk : Int) := ha 6 (by decide)
          clear ha hp
          refine Reg.Op1.plain rfl ?_
          go_wp2
          exact ⟨rfl, hK _ _ rfl (Reg.Wr.same _)⟩
        · intro val ac u hR hp ha K hK      -- 8: t62 := Op.fieldAddr 34 t3 3
          have e3 : (ac.tmps[3]?).getD undef = .pointer (some ⟨w.heap.size, 0, none⟩) := ha 3 (by decide)
          clear ha hp
          refine Reg.Op1.plain rfl ?_
          go_wp2
          exact ⟨rfl, hK _ _ rfl (Reg.Wr.same _)⟩
        · intro val ac u hR hp ha K hK      -- 9: t63 := Op.load 29 t62
          obtain ⟨w62, h62, r62⟩ := hp 8 (by decide)
          have e62 : (ac.tmps[62]?).getD undef = .pointer (some ⟨w.heap.size, 3, none⟩) := (ha 62 (by decide)).trans h62
          clear h62
          clear ha hp
          refine Reg.Op1.plain rfl ?_
          have x0 := (((Reg.Wr.only3 hR (by decide +kernel) (by decide +kernel))).cell (p := ⟨w.heap.size, 3, none⟩) (hb6) (fun h => h)).trans (z3)
          go_wp2
          exact ⟨rfl, hK _ _ rfl (Reg.Wr.same _)⟩
        · intro val ac u hR hp ha K hK      -- 10: t64 := Op.call { builtin len, args := #[t63], argTypes := #[29] }
          obtain ⟨w63, h63, r63⟩ := hp 9 (by decide)
          have e63 : (ac.tmps[63]?).getD undef = .slice a.D a.data.length a.dc := (ha 63 (by decide)).trans h63
          clear h63
          clear ha hp
          refine Reg.Op1.plain rfl ?_
          go_wp2
          exact ⟨rfl, hK _ _ rfl (Reg.Wr.same _)⟩
        · intro val ac u hR hp ha K hK      -- 11: t65 := Op.call { builtin min, args := #[t61, t64], argTypes := #[3, 3] }
          obtain ⟨w61, h61, r61⟩ := hp 7 (by decide)
          have e61 : (ac.tmps[61]?).getD undef = .int .i64 (kk : Int) := (ha 61 (by decide)).trans h61
          clear h61
          obtain ⟨w64, h64, r64⟩ := hp 10 (by decide)
          have e64 : (ac.tmps[64]?).getD undef = .int .i64 ((a.data.length : Nat) : Int) := (ha 64 (by decide)).trans h64
          clear h64
          clear ha hp
          refine Reg.Op1.plain rfl ?_
          go_wp2
          exact ⟨rfl, hK _ _ rfl (Reg.Wr.same _)⟩
        · intro val ac u hR hp ha K hK      -- 12: t66 := Op.slice 29 t60 none (some t65) none
          obtain ⟨w60, h60, r60⟩ := hp 6 (by decide)
          have e60 : (ac.tmps[60]?).getD undef = .slice a.D a.data.length a.dc := (ha 60 (by decide)).trans h60
          clear h60
          obtain ⟨w65, h65, r65⟩ := hp 11 (by decide)
          have e65 : (ac.tmps[65]?).getD undef = .int .i64 (kk : Int) := (ha 65 (by decide)).trans h65
          clear h65
          clear ha hp
          refine Reg.Op1.plain rfl ?_
          go_wp2
          exact ⟨rfl, hK _ _ rfl (Reg.Wr.same _)⟩
        · intro val ac u hR hp ha K hK      -- 13: t67 := Op.call { builtin append, args := #[t58, t66], argTypes := #[29, 29] }
          obtain ⟨w58, h58, r58⟩ := hp 4 (by decide)
          have e58 : (ac.tmps[58]?).getD undef = .slice (p6.X 5) (s.st 5).length (p6.xc 5) := (ha 58 (by decide)).trans h58
          clear h58
          obtain ⟨w66, h66, r66⟩ := hp 12 (by decide)
          have e66 : (ac.tmps[66]?).getD undef = .slice a.D kk a.dc := (ha 66 (by decide)).trans h66
          clear h66
          clear ha hp
          refine Reg.Op1.plain rfl ?_
          have hq : Mem.Keeps (fun _ => False) wc u := (Mem.Keeps.refl (fun _ => False) wc).drew.trans (Reg.Wr.only3 hR (by decide +kernel) (by decide +kernel)) (fun _ h _ => h)
          have hX' := (H6.out.st 5 (by omega) (by omega)).keeps hq (fun _ _ h => h)
          have hbu := hq.size
          have hrd : Mem.Rd u u.heap.size a.D ((a.data.take kk).map Link.strV) := by
            have h1 := (((HOK.out.rd.below H6.out.bl).more H6.out.bl.size).keepsAt hq (Nat.le_refl _) (fun _ _ h => h)).take kk
            rwa [← List.map_take] at h1
          refine Mem.wpList_app u rfl (.tmp 58) (.tmp 66) _ rfl strs_elem (p6.X 5) (s.st 5).length (p6.xc 5) _ (Reg.eval_of e58) u.heap.size a.D kk a.dc ((a.data.take kk).map Link.strV) (Reg.eval_of e66) ?_ hX' hrd (by simp; omega) (Link.str_one _) (by unfold maxLen; omega) (by omega)
          intro X' d' u' hown hg hat
          exact ⟨rfl, hK _ _ ⟨X', d', rfl, hown, hat.elim .inl (fun h => .inr (h ▸ Mem.From.some_ hbu))⟩ (Reg.Wr.does1 ((Mem.Keeps.refl _ u).grown hg (fun y hy _ => hy)))⟩
        · intro val ac u hR hp ha K hK      -- 14: t68 := Op.nilCheck t54
          obtain ⟨w54, h54, r54⟩ := hp 0 (by decide)
          have e54 : (ac.tmps[54]?).getD undef = .pointer (some ⟨g, 0, none⟩) := (ha 54 (by decide)).trans h54
          clear h54
          clear ha hp
          refine Reg.Op1.plain rfl ?_
          go_wp2
          exact ⟨rfl, hK _ _ rfl (Reg.Wr.same _)⟩
        · intro val ac u hR hp ha K hK      -- 15: t69 := Op.fieldAddr 31 t68 5
          obtain ⟨w68, h68, r68⟩ := hp 14 (by decide)
          have e68 : (ac.tmps[68]?).getD undef = .pointer (some ⟨g, 0, none⟩) := (ha 68 (by decide)).trans h68
          clear h68
          clear ha hp
          refine Reg.Op1.plain rfl ?_
          go_wp2
          exact ⟨rfl, hK _ _ rfl (Reg.Wr.same _)⟩
        · intro val ac u hR hp ha K hK      -- 16: Op.store 29 t69 t67
          obtain ⟨w69, h69, r69⟩ := hp 15 (by decide)
          have e69 : (ac.tmps[69]?).getD undef = .pointer (some ⟨g, 5, none⟩) := (ha 69 (by decide)).trans h69
          clear h69
          obtain ⟨w67, h67, r67⟩ := hp 13 (by decide)
          have e67 : (ac.tmps[67]?).getD undef = val 13 := ha 67 (by decide)
          clear ha hp
          refine Reg.Op1.plain rfl ?_
          obtain ⟨X2, d2, hv, hO, hm⟩ := h67
          rw [hv] at e67
          have hO' := hO.keeps (Reg.Wr.only3 r67 (by decide +kernel) (by decide +kernel)) (fun _ _ h => h)
          have hq3 : Mem.Keeps (fun y => Mem.blk (p6.X 5) = some y ∨ False) wc u := (Mem.Keeps.refl (fun y => Mem.blk (p6.X 5) = some y ∨ False) wc).drew.trans (Reg.Wr.not2 hR (by decide +kernel)) (fun _ h _ => h)
          have hgx : ¬ (Mem.blk (p6.X 5) = some g ∨ False) := fun h => h.elim HNG.out id
          have hbx := Mem.Own.keeps H6.out.box hq3 (fun y hy h => by cases hy; exact hgx h)
          have xf := Mem.Own.free hbx
          have x0 := (hq3.cell (p := ⟨g, 5, none⟩) hg6 hgx).trans e1
          have hln : (s.st 5 ++ a.data.take kk).length = (s.st 5).length + kk := by rw [List.length_append, List.length_take]; omega
          go_wp2
          refine ⟨rfl, hK undef _ ⟨X2, d2, ?_, hm, ?_⟩ (Reg.Wr.does2 ((Mem.Keeps.refl (fun q => q = g) u).setCell (p := ⟨g, 5, none⟩) (fun _ => rfl) _))⟩
          · rw [hln, List.map_append]
            refine hO'.keeps ((Mem.Keeps.refl (fun q => q = g) u).setCell (p := ⟨g, 5, none⟩) (fun _ => rfl) _) (fun y h1 h => ?_)
            rcases hm with h2 | h2
            · exact HNG.out (by rw [← h2, h1, h])
            · have := h2.blk y h1; omega
          · rw [hln]; have := Mem.Own.set hbx 5 (.slice X2 ((s.st 5).length + kk) d2); exact this
      · intro val u hR H
        obtain ⟨wB, ⟨X2, d2, hO3, hmX, hb3⟩, rB⟩ := H 16 (by decide)
        have hO4 := hO3.keeps (Reg.Wr.only3 rB (by decide +kernel) (by decide +kernel)) (fun _ _ h => h)
        have hb4 := hb3.keeps (Reg.Wr.only3 rB (by decide +kernel) (by decide +kernel)) (fun _ _ h => h)
        have hk : Mem.Keeps (fun y => lab6 y = 5 ∨ lab6 y = 10) wc u := ((Mem.Keeps.refl (fun y => Mem.blk (p6.X 5) = some y ∨ y = g ∨ False) wc).drew.trans (Reg.Wr.all hR) (fun _ h _ => h)).mono (fun y h _ => by
          rcases h with h | h | h
          · exact .inl (HX.out _ h)
          · exact .inr (by rw [h]; exact HGG.out)
          · exact h.elim)
        have hwl := H6.out.strs (i := 5) (by omega) (by omega) hO4 hb4 hk (hmX.elim (fun h => .inl (by rw [h])) (fun h => .inr (.inr h)))
        have hgs : Link.stepW s a = { s with e := Link.upd s.e 1 (Link.sendTo (s.e 1) a.data kk), st := Link.upd s.st 5 (s.st 5 ++ a.data.take kk) } := by rw [HSW.out]; unfold Link.sendW; rw [HKK.out]
        have HWL : Hid (∃ p' lab', Link.WL w0 u g p' (Link.stepW s a) lab') := by
          show ∃ p' lab', Link.WL w0 u g p' (Link.stepW s a) lab'
          rw [hgs]
          exact ⟨_, _, hwl⟩
        simp only [List.map_cons, List.map_nil, Reg.lay, Act.put, List.setIfInBounds_toArray, List.set_cons_succ, List.set_cons_zero, Nat.reduceAdd]
        clear hR H hk hb4 hO4 hb3 hO3 rB hwl hgs
        go_wp2
        go_end0
        exact ⟨rfl, HWL.out⟩
  by_cases hkd : a.kind = 3
  · have d1 : (a.kind == 1) = false := by simp [hkd]
    have d2 : (a.kind == 2) = false := by simp [hkd]
    have d3 : (a.kind == 3) = true := by simp [hkd]
    have HSW : Hid (Link.stepW s a = Link.outW s 0) := by show _ = _; unfold Link.stepW; simp [hkd]
    have e0 := H5.out.cell (i := 0) rfl
    have e1 := H5.out.cell (i := 3) rfl
    have hg5 := H5.out.lt
    have hfi := HF.out 0 (by omega)
    have HFI := Lib.hid hfi
    obtain ⟨l, hl⟩ : ∃ l, Link.out (s.e 0) = l := ⟨_, rfl⟩
    have hll : l.length ≤ 8 := by rw [← hl]; exact Link.out_len _ hfi.o8
    have HLL := Lib.hid hl
    have HX : Hid (∀ y, Mem.blk (p.X 3) = some y → Link.relab lab w.heap.size 11 y = 3) := fun y hy => H5.out.lx 3 (by omega) (by omega) y hy
    have HGG := Lib.hid H5.out.lg
    have HNG : Hid (Mem.blk (p.X 3) ≠ some g) := fun h => by have := HX.out g h; rw [HGG.out] at this; omega
    have hpl : (s.pk 3).length ≤ 100000 := by omega
    clear hkd hl hfi
    go_upto_region 9 with fail
    refine Reg.wp_region_w (by kernel_rfl) 106 14 rfl rfl (by kernel_rfl) (10) (fun y => Mem.blk (p.X 3) = some y) (13) (fun y => y = g) (0) (fun _ => False)
      (fun i v u => match i with
        | 0 => v = .pointer (some ⟨g, 0, none⟩)
        | 1 => v = .pointer (some ⟨g, 0, none⟩)
        | 2 => v = .pointer (some ⟨g, 0, none⟩)
        | 3 => v = .pointer (some ⟨g, 3, none⟩)
        | 4 => v = .slice (p.X 3) (s.pk 3).length (p.xc 3)
        | 5 => v = .pointer (some ⟨g, 0, none⟩)
        | 6 => v = .pointer (some ⟨g, 0, none⟩)
        | 7 => v = .pointer (some ⟨g, 0, none⟩)
        | 8 => v = .pointer (some ⟨p.g 0, 0, none⟩)
        | 9 => ∃ O oc, v = .slice O l.length oc ∧ Mem.Own u 52 5 O l.length oc (l.flatMap Link.pkCells)
        | 10 => ∃ X2 d2, v = .slice X2 ((s.pk 3).length + l.length) d2 ∧ Mem.Own u 52 5 X2 ((s.pk 3).length + l.length) d2 ((s.pk 3).flatMap Link.pkCells ++ l.flatMap Link.pkCells) ∧ (X2 = p.X 3 ∨ Mem.From w5.heap.size X2)
        | 11 => v = .pointer (some ⟨g, 0, none⟩)
        | 12 => v = .pointer (some ⟨g, 3, none⟩)
        | 13 => ∃ X2 d2, Mem.Own u 52 5 X2 (s.pk 3 ++ l).length d2 ((s.pk 3 ++ l).flatMap Link.pkCells) ∧ (X2 = p.X 3 ∨ Mem.From w5.heap.size X2) ∧ Mem.Own u 31 8 (some ⟨g, 0, none⟩) 1 1 ((Link.wCells p s).set 3 (.slice X2 (s.pk 3 ++ l).length d2))
        | _ => True) ?_ ?_
    · refine Reg.Steps.cons ?_ (Reg.Steps.cons ?_ (Reg.Steps.cons ?_ (Reg.Steps.cons ?_ (Reg.Steps.cons ?_ (Reg.Steps.cons ?_ (Reg.Steps.cons ?_ (Reg.Steps.cons ?_ (Reg.Steps.cons ?_ (Reg.Steps.cons ?_ (Reg.Steps.cons ?_ (Reg.Steps.cons ?_ (Reg.Steps.cons ?_ (Reg.Steps.cons ?_ (Reg.Steps.nil _))))))))))))))
      · intro val ac u hR hp ha K hK      -- 0: t72 := Op.move t0
        have e0 : (ac.tmps[0]?).getD undef = .pointer (some ⟨g, 0, none⟩) := ha 0 (by decide)
        clear ha hp
        refine Reg.Op1.plain rfl ?_
        go_wp2
        exact ⟨rfl, hK _ _ rfl (Reg.Wr.same _)⟩
      · intro val ac u hR hp ha K hK      -- 1: t73 := Op.move t0
        have e0 : (ac.tmps[0]?).getD undef = .pointer (some ⟨g, 0, none⟩) := ha 0 (by decide)
        clear ha hp
        refine Reg.Op1.plain rfl ?_
        go_wp2
        exact ⟨rfl, hK _ _ rfl (Reg.Wr.same _)⟩
      · intro val ac u hR hp ha K hK      -- 2: t74 := Op.nilCheck t73
        obtain ⟨w73, h73, r73⟩ := hp 1 (by decide)
        have e73 : (ac.tmps[73]?).getD undef = .pointer (some ⟨g, 0, none⟩) := (ha 73 (by decide)).trans h73
        clear h73
        clear ha hp
        refine Reg.Op1.plain rfl ?_
        go_wp2
        exact ⟨rfl, hK _ _ rfl (Reg.Wr.same _)⟩
      · intro val ac u hR hp ha K hK      -- 3: t75 := Op.fieldAddr 31 t74 3
        obtain ⟨w74, h74, r74⟩ := hp 2 (by decide)
        have e74 : (ac.tmps[74]?).getD undef = .pointer (some ⟨g, 0, none⟩) := (ha 74 (by decide)).trans h74
        clear h74
        clear ha hp
        refine Reg.Op1.plain rfl ?_
        go_wp2
        exact ⟨rfl, hK _ _ rfl (Reg.Wr.same _)⟩
      · intro val ac u hR hp ha K hK      -- 4: t76 := Op.load 28 t75
        obtain ⟨w75, h75, r75⟩ := hp 3 (by decide)
        have e75 : (ac.tmps[75]?).getD undef = .pointer (some ⟨g, 3, none⟩) := (ha 75 (by decide)).trans h75
        clear h75
        clear ha hp
        refine Reg.Op1.plain rfl ?_
        have x0 := (((Reg.Wr.only3 hR (by decide +kernel) (by decide +kernel))).cell (p := ⟨g, 3, none⟩) (hg5) (fun h => h)).trans (e1)
        go_wp2
        exact ⟨rfl, hK _ _ rfl (Reg.Wr.same _)⟩
      · intro val ac u hR hp ha K hK      -- 5: t77 := Op.move t0
        have e0 : (ac.tmps[0]?).getD undef = .pointer (some ⟨g, 0, none⟩) := ha 0 (by decide)
        clear ha hp
        refine Reg.Op1.plain rfl ?_
        go_wp2
        exact ⟨rfl, hK _ _ rfl (Reg.Wr.same _)⟩
      · intro val ac u hR hp ha K hK      -- 6: t78 := Op.nilCheck t77
        obtain ⟨w77, h77, r77⟩ := hp 5 (by decide)
        have e77 : (ac.tmps[77]?).getD undef = .pointer (some ⟨g, 0, none⟩) := (ha 77 (by decide)).trans h77
        clear h77
        clear ha hp
        refine Reg.Op1.plain rfl ?_
        go_wp2
        exact ⟨rfl, hK _ _ rfl (Reg.Wr.same _)⟩
      · intro val ac u hR hp ha K hK      -- 7: t79 := Op.fieldAddr 31 t78 0
        obtain ⟨w78, h78, r78⟩ := hp 6 (by decide)
        have e78 : (ac.tmps[78]?).getD undef = .pointer (some ⟨g, 0, none⟩) := (ha 78 (by decide)).trans h78
        clear h78
        clear ha hp
        refine Reg.Op1.plain rfl ?_
        go_wp2
        exact ⟨rfl, hK _ _ rfl (Reg.Wr.same _)⟩
      · intro val ac u hR hp ha K hK      -- 8: t80 := Op.load 26 t79
        obtain ⟨w79, h79, r79⟩ := hp 7 (by decide)
        have e79 : (ac.tmps[79]?).getD undef = .pointer (some ⟨g, 0, none⟩) := (ha 79 (by decide)).trans h79
        clear h79
        clear ha hp
        refine Reg.Op1.plain rfl ?_
        have x0 := (((Reg.Wr.only3 hR (by decide +kernel) (by decide +kernel))).cell (p := ⟨g, 0, none⟩) (hg5) (fun h => h)).trans (e0)
        go_wp2
        exact ⟨rfl, hK _ _ rfl (Reg.Wr.same _)⟩
      · intro val ac u hR hp ha K hK      -- 9: t81 := Op.call { value (Operand.func 13), args := #[t80], argTypes := #[26] }
        obtain ⟨w80, h80, r80⟩ := hp 8 (by decide)
        have e80 : (ac.tmps[80]?).getD undef = .pointer (some ⟨p.g 0, 0, none⟩) := (ha 80 (by decide)).trans h80
        clear h80
        clear ha hp
        refine Reg.Op1.plain rfl ?_
        have hq : Mem.Keeps (fun _ => False) w5 u := (Mem.Keeps.refl (fun _ => False) w5).drew.trans (Reg.Wr.only3 hR (by decide +kernel) (by decide +kernel)) (fun _ h _ => h)
        have hen := (H5.out.en 0 (by omega)).keeps hq (fun h => h) (fun _ _ h => h)
        go_wp2_with fail
        refine (out_any hen HFI.out.s0 (by have := HFI.out.sN; omega) (by have := HFI.out.o8; omega)).mono ?_
        rintro x w' ⟨O, oc, rfl, hO, hb, hf⟩
        rw [HLL.out] at hO ⊢
        go_wp2_with fail
        exact ⟨rfl, hK _ _ ⟨O, oc, rfl, hO⟩ (Reg.Wr.below hb)⟩
      · intro val ac u hR hp ha K hK      -- 10: t82 := Op.call { builtin append, args := #[t76, t81], argTypes := #[28, 28] }
        obtain ⟨w76, h76, r76⟩ := hp 4 (by decide)
        have e76 : (ac.tmps[76]?).getD undef = .slice (p.X 3) (s.pk 3).length (p.xc 3) := (ha 76 (by decide)).trans h76
        clear h76
        obtain ⟨w81, h81, r81⟩ := hp 9 (by decide)
        have e81 : (ac.tmps[81]?).getD undef = val 9 := ha 81 (by decide)
        clear ha hp
        refine Reg.Op1.plain rfl ?_
        obtain ⟨O, oc, hv, hO⟩ := h81
        rw [hv] at e81
        have hO' := hO.keeps (Reg.Wr.only3 r81 (by decide +kernel) (by decide +kernel)) (fun _ _ h => h)
        have hq : Mem.Keeps (fun _ => False) w5 u := (Mem.Keeps.refl (fun _ => False) w5).drew.trans (Reg.Wr.only3 hR (by decide +kernel) (by decide +kernel)) (fun _ h _ => h)
        have hX' := (H5.out.pk 3 (by omega) (by omega)).keeps hq (fun _ _ h => h)
        have hbu := hq.size
        refine Mem.wpList_app u rfl (.tmp 76) (.tmp 81) _ rfl packets_elem (p.X 3) (s.pk 3).length (p.xc 3) _ (Reg.eval_of e76) u.heap.size O l.length oc (l.flatMap Link.pkCells) (Reg.eval_of e81) ?_ hX' hO'.rd (Mem.flat_length Link.pkCells_length _) Link.pk_one (by unfold maxLen; omega) (by omega)
        intro X' d' u' hown hg hat
        exact ⟨rfl, hK _ _ ⟨X', d', rfl, hown, hat.elim .inl (fun h => .inr (h ▸ Mem.From.some_ hbu))⟩ (Reg.Wr.does1 ((Mem.Keeps.refl _ u).grown hg (fun y hy _ => hy)))⟩
      · intro val ac u hR hp ha K hK      -- 11: t83 := Op.nilCheck t72
        obtain ⟨w72, h72, r72⟩ := hp 0 (by decide)
        have e72 : (ac.tmps[72]?).getD undef = .pointer (some ⟨g, 0, none⟩) := (ha 72 (by decide)).trans h72
        clear h72
        clear ha hp
        refine Reg.Op1.plain rfl ?_
        go_wp2
        exact ⟨rfl, hK _ _ rfl (Reg.Wr.same _)⟩
      · intro val ac u hR hp ha K hK      -- 12: t84 := Op.fieldAddr 31 t83 3
        obtain ⟨w83, h83, r83⟩ := hp 11 (by decide)
        have e83 : (ac.tmps[83]?).getD undef = .pointer (some ⟨g, 0, none⟩) := (ha 83 (by decide)).trans h83
        clear h83
        clear ha hp
        refine Reg.Op1.plain rfl ?_
        go_wp2
        exact ⟨rfl, hK _ _ rfl (Reg.Wr.same _)⟩
      · intro val ac u hR hp ha K hK      -- 13: Op.store 28 t84 t82
        obtain ⟨w84, h84, r84⟩ := hp 12 (by decide)
        have e84 : (ac.tmps[84]?).getD undef = .pointer (some ⟨g, 3, none⟩) := (ha 84 (by decide)).trans h84
        clear h84
        obtain ⟨w82, h82, r82⟩ := hp 10 (by decide)
        have e82 : (ac.tmps[82]?).getD undef = val 10 := ha 82 (by decide)
        clear ha hp
        refine Reg.Op1.plain rfl ?_
        obtain ⟨X2, d2, hv, hO, hm⟩ := h82
        rw [hv] at e82
        have hO' := hO.keeps (Reg.Wr.only3 r82 (by decide +kernel) (by decide +kernel)) (fun _ _ h => h)
        have hq3 : Mem.Keeps (fun y => Mem.blk (p.X 3) = some y ∨ False) w5 u := (Mem.Keeps.refl (fun y => Mem.blk (p.X 3) = some y ∨ False) w5).drew.trans (Reg.Wr.not2 hR (by decide +kernel)) (fun _ h _ => h)
        have hgx : ¬ (Mem.blk (p.X 3) = some g ∨ False) := fun h => h.elim HNG.out id
        have hbx := Mem.Own.keeps H5.out.box hq3 (fun y hy h => by cases hy; exact hgx h)
        have xf := Mem.Own.free hbx
        have x0 := (hq3.cell (p := ⟨g, 3, none⟩) hg5 hgx).trans e1
        have hln : (s.pk 3 ++ l).length = (s.pk 3).length + l.length := List.length_append
        go_wp2
        refine ⟨rfl, hK undef _ ⟨X2, d2, ?_, hm, ?_⟩ (Reg.Wr.does2 ((Mem.Keeps.refl (fun q => q = g) u).setCell (p := ⟨g, 3, none⟩) (fun _ => rfl) _))⟩
        · rw [hln, List.flatMap_append]
          refine hO'.keeps ((Mem.Keeps.refl (fun q => q = g) u).setCell (p := ⟨g, 3, none⟩) (fun _ => rfl) _) (fun y h1 h => ?_)
          rcases hm with h2 | h2
          · exact HNG.out (by rw [← h2, h1, h])
          · have := h2.blk y h1; omega
        · rw [hln]; have := Mem.Own.set hbx 3 (.slice X2 ((s.pk 3).length + l.length) d2); exact this
    · intro val u hR H
      obtain ⟨wB, ⟨X2, d2, hO3, hmX, hb3⟩, rB⟩ := H 13 (by decide)
      have hO4 := hO3.keeps (Reg.Wr.only3 rB (by decide +kernel) (by decide +kernel)) (fun _ _ h => h)
      have hb4 := hb3.keeps (Reg.Wr.only3 rB (by decide +kernel) (by decide +kernel)) (fun _ _ h => h)
      have hk : Mem.Keeps (fun y => Link.relab lab w.heap.size 11 y = 3 ∨ Link.relab lab w.heap.size 11 y = 10) w5 u := ((Mem.Keeps.refl (fun y => Mem.blk (p.X 3) = some y ∨ y = g ∨ False) w5).drew.trans (Reg.Wr.all hR) (fun _ h _ => h)).mono (fun y h _ => by
        rcases h with h | h | h
        · exact .inl (HX.out _ h)
        · exact .inr (by rw [h]; exact HGG.out)
        · exact h.elim)
      have hwl := H5.out.pks (i := 3) (by omega) (by omega) hO4 hb4 hk (hmX.elim (fun h => .inl (by rw [h])) (fun h => .inr (.inr h)))
      have hgs : Link.stepW s a = { s with pk := Link.upd s.pk 3 (s.pk 3 ++ l) } := by rw [HSW.out]; unfold Link.outW; rw [HLL.out]
      have HWL : Hid (∃ p' lab', Link.WL w0 u g p' (Link.stepW s a) lab') := by
        show ∃ p' lab', Link.WL w0 u g p' (Link.stepW s a) lab'
        rw [hgs]
        exact ⟨_, _, hwl⟩
      simp only [List.map_cons, List.map_nil, Reg.lay, Act.put, List.setIfInBounds_toArray, List.set_cons_succ, List.set_cons_zero, Nat.reduceAdd]
      clear hR H hk hb4 hO4 hb3 hO3 rB hwl hgs
      go_wp2
      go_end0
      exact ⟨rfl, HWL.out⟩
  by_cases hkd : a.kind = 4
  · have d1 : (a.kind == 1) = false := by simp [hkd]
    have d2 : (a.kind == 2) = false := by simp [hkd]
    have d3 : (a.kind == 3) = false := by simp [hkd]
    have d4 : (a.kind == 4) = true := by simp [hkd]
    have HSW : Hid (Link.stepW s a = Link.outW s 1) := by show _ = _; unfold Link.stepW; simp [hkd]
    have e0 := H5.out.cell (i := 1) rfl
    have e1 := H5.out.cell (i := 2) rfl
    have hg5 := H5.out.lt
    have hfi := HF.out 1 (by omega)
    have HFI := Lib.hid hfi
    obtain ⟨l, hl⟩ : ∃ l, Link.out (s.e 1) = l := ⟨_, rfl⟩
    have hll : l.length ≤ 8 := by rw [← hl]; exact Link.out_len _ hfi.o8
    have HLL := Lib.hid hl
    have HX : Hid (∀ y, Mem.blk (p.X 2) = some y → Link.relab lab w.heap.size 11 y = 2) := fun y hy => H5.out.lx 2 (by omega) (by omega) y hy
    have HGG := Lib.hid H5.out.lg
    have HNG : Hid (Mem.blk (p.X 2) ≠ some g) := fun h => by have := HX.out g h; rw [HGG.out] at this; omega
    have hpl : (s.pk 2).length ≤ 100000 := by omega
    clear hkd hl hfi
    go_upto_region 11 with fail
    refine Reg.wp_region_w (by kernel_rfl) 106 14 rfl rfl (by kernel_rfl) (10) (fun y => Mem.blk (p.X 2) = some y) (13) (fun y => y = g) (0) (fun _ => False)
      (fun i v u => match i with
        | 0 => v = .pointer (some ⟨g, 0, none⟩)
        | 1 => v = .pointer (some ⟨g, 0, none⟩)
        | 2 => v = .pointer (some ⟨g, 0, none⟩)
        | 3 => v = .pointer (some ⟨g, 2, none⟩)
        | 4 => v = .slice (p.X 2) (s.pk 2).length (p.xc 2)
        | 5 => v = .pointer (some ⟨g, 0, none⟩)
        | 6 => v = .pointer (some ⟨g, 0, none⟩)
        | 7 => v = .pointer (some ⟨g, 1, none⟩)
        | 8 => v = .pointer (some ⟨p.g 1, 0, none⟩)
        | 9 => ∃ O oc, v = .slice O l.length oc ∧ Mem.Own u 52 5 O l.length oc (l.flatMap Link.pkCells)
        | 10 => ∃ X2 d2, v = .slice X2 ((s.pk 2).length + l.length) d2 ∧ Mem.Own u 52 5 X2 ((s.pk 2).length + l.length) d2 ((s.pk 2).flatMap Link.pkCells ++ l.flatMap Link.pkCells) ∧ (X2 = p.X 2 ∨ Mem.From w5.heap.size X2)
        | 11 => v = .pointer (some ⟨g, 0, none⟩)
        | 12 => v = .pointer (some ⟨g, 2, none⟩)
        | 13 => ∃ X2 d2, Mem.Own u 52 5 X2 (s.pk 2 ++ l).length d2 ((s.pk 2 ++ l).flatMap Link.pkCells) ∧ (X2 = p.X 2 ∨ Mem.From w5.heap.size X2) ∧ Mem.Own u 31 8 (some ⟨g, 0, none⟩) 1 1 ((Link.wCells p s).set 2 (.slice X2 (s.pk 2 ++ l).length d2))
        | _ => True) ?_ ?_
    · refine Reg.Steps.cons ?_ (Reg.Steps.cons ?_ (Reg.Steps.cons ?_ (Reg.Steps.cons ?_ (Reg.Steps.cons ?_ (Reg.Steps.cons ?_ (Reg.Steps.cons ?_ (Reg.Steps.cons ?_ (Reg.Steps.cons ?_ (Reg.Steps.cons ?_ (Reg.Steps.cons ?_ (Reg.Steps.cons ?_ (Reg.Steps.cons ?_ (Reg.Steps.cons ?_ (Reg.Steps.nil _))))))))))))))
      · intro val ac u hR hp ha K hK      -- 0: t87 := Op.move t0
        have e0 : (ac.tmps[0]?).getD undef = .pointer (some ⟨g, 0, none⟩) := ha 0 (by decide)
        clear ha hp
        refine Reg.Op1.plain rfl ?_
        go_wp2
        exact ⟨rfl, hK _ _ rfl (Reg.Wr.same _)⟩
      · intro val ac u hR hp ha K hK      -- 1: t88 := Op.move t0
        have e0 : (ac.tmps[0]?).getD undef = .pointer (some ⟨g, 0, none⟩) := ha 0 (by decide)
        clear ha hp
        refine Reg.Op1.plain rfl ?_
        go_wp2
        exact ⟨rfl, hK _ _ rfl (Reg.Wr.same _)⟩
      · intro val ac u hR hp ha K hK      -- 2: t89 := Op.nilCheck t88
        obtain ⟨w88, h88, r88⟩ := hp 1 (by decide)
        have e88 : (ac.tmps[88]?).getD undef = .pointer (some ⟨g, 0, none⟩) := (ha 88 (by decide)).trans h88
        clear h88
        clear ha hp
        refine Reg.Op1.plain rfl ?_
        go_wp2
        exact ⟨rfl, hK _ _ rfl (Reg.Wr.same _)⟩
      · intro val ac u hR hp ha K hK      -- 3: t90 := Op.fieldAddr 31 t89 2
        obtain ⟨w89, h89, r89⟩ := hp 2 (by decide)
        have e89 : (ac.tmps[89]?).getD undef = .pointer (some ⟨g, 0, none⟩) := (ha 89 (by decide)).trans h89
        clear h89
        clear ha hp
        refine Reg.Op1.plain rfl ?_
        go_wp2
        exact ⟨rfl, hK _ _ rfl (Reg.Wr.same _)⟩
      · intro val ac u hR hp ha K hK      -- 4: t91 := Op.load 28 t90
        obtain ⟨w90, h90, r90⟩ := hp 3 (by decide)
        have e90 : (ac.tmps[90]?).getD undef = .pointer (some ⟨g, 2, none⟩) := (ha 90 (by decide)).trans h90
        clear h90
        clear ha hp
        refine Reg.Op1.plain rfl ?_
        have x0 := (((Reg.Wr.only3 hR (by decide +kernel) (by decide +kernel))).cell (p := ⟨g, 2, none⟩) (hg5) (fun h => h)).trans (e1)
        go_wp2
        exact ⟨rfl, hK _ _ rfl (Reg.Wr.same _)⟩
      · intro val ac u hR hp ha K hK      -- 5: t92 := Op.move t0
        have e0 : (ac.tmps[0]?).getD undef = .pointer (some ⟨g, 0, none⟩) := ha 0 (by decide)
        clear ha hp
        refine Reg.Op1.plain rfl ?_
        go_wp2
        exact ⟨rfl, hK _ _ rfl (Reg.Wr.same _)⟩
      · intro val ac u hR hp ha K hK      -- 6: t93 := Op.nilCheck t92
        obtain ⟨w92, h92, r92⟩ := hp 5 (by decide)
        have e92 : (ac.tmps[92]?).getD undef = .pointer (some ⟨g, 0, none⟩) := (ha 92 (by decide)).trans h92
        clear h92
        clear ha hp
        refine Reg.Op1.plain rfl ?_
        go_wp2
        exact ⟨rfl, hK _ _ rfl (Reg.Wr.same _)⟩
      · intro val ac u hR hp ha K hK      -- 7: t94 := Op.fieldAddr 31 t93 1
        obtain ⟨w93, h93, r93⟩ := hp 6 (by decide)
        have e93 : (ac.tmps[93]?).getD undef = .pointer (some ⟨g, 0, none⟩) := (ha 93 (by decide)).trans h93
        clear h93
        clear ha hp
        refine Reg.Op1.plain rfl ?_
        go_wp2
        exact ⟨rfl, hK _ _ rfl (Reg.Wr.same _)⟩
      · intro val ac u hR hp ha K hK      -- 8: t95 := Op.load 26 t94
        obtain ⟨w94, h94, r94⟩ := hp 7 (by decide)
        have e94 : (ac.tmps[94]?).getD undef = .pointer (some ⟨g, 1, none⟩) := (ha 94 (by decide)).trans h94
        clear h94
        clear ha hp
        refine Reg.Op1.plain rfl ?_
        have x0 := (((Reg.Wr.only3 hR (by decide +kernel) (by decide +kernel))).cell (p := ⟨g, 1, none⟩) (hg5) (fun h => h)).trans (e0)
        go_wp2
        exact ⟨rfl, hK _ _ rfl (Reg.Wr.same _)⟩
      · intro val ac u hR hp ha K hK      -- 9: t96 := Op.call { value (Operand.func 13), args := #[t95], argTypes := #[26] }
        obtain ⟨w95, h95, r95⟩ := hp 8 (by decide)
        have e95 : (ac.tmps[95]?).getD undef = .pointer (some ⟨p.g 1, 0, none⟩) := (ha 95 (by decide)).trans h95
        clear h95
        clear ha hp
        refine Reg.Op1.plain rfl ?_
        have hq : Mem.Keeps (fun _ => False) w5 u := (Mem.Keeps.refl (fun _ => False) w5).drew.trans (Reg.Wr.only3 hR (by decide +kernel) (by decide +kernel)) (fun _ h _ => h)
        have hen := (H5.out.en 1 (by omega)).keeps hq (fun h => h) (fun _ _ h => h)
        go_wp2_with fail
        refine (out_any hen HFI.out.s0 (by have := HFI.out.sN; omega) (by have := HFI.out.o8; omega)).mono ?_
        rintro x w' ⟨O, oc, rfl, hO, hb, hf⟩
        rw [HLL.out] at hO ⊢
        go_wp2_with fail
        exact ⟨rfl, hK _ _ ⟨O, oc, rfl, hO⟩ (Reg.Wr.below hb)⟩
      · intro val ac u hR hp ha K hK      -- 10: t97 := Op.call { builtin append, args := #[t91, t96], argTypes := #[28, 28] }
        obtain ⟨w91, h91, r91⟩ := hp 4 (by decide)
        have e91 : (ac.tmps[91]?).getD undef = .slice (p.X 2) (s.pk 2).length (p.xc 2) := (ha 91 (by decide)).trans h91
        clear h91
        obtain ⟨w96, h96, r96⟩ := hp 9 (by decide)
        have e96 : (ac.tmps[96]?).getD undef = val 9 := ha 96 (by decide)
        clear ha hp
        refine Reg.Op1.plain rfl ?_
        obtain ⟨O, oc, hv, hO⟩ := h96
        rw [hv] at e96
        have hO' := hO.keeps (Reg.Wr.only3 r96 (by decide +kernel) (by decide +kernel)) (fun _ _ h => h)
        have hq : Mem.Keeps (fun _ => False) w5 u := (Mem.Keeps.refl (fun _ => False) w5).drew.trans (Reg.Wr.only3 hR (by decide +kernel) (by decide +kernel)) (fun _ h _ => h)
        have hX' := (H5.out.pk 2 (by omega) (by omega)).keeps hq (fun _ _ h => h)
        have hbu := hq.size
        refine Mem.wpList_app u rfl (.tmp 91) (.tmp 96) _ rfl packets_elem (p.X 2) (s.pk 2).length (p.xc 2) _ (Reg.eval_of e91) u.heap.size O l.length oc (l.flatMap Link.pkCells) (Reg.eval_of e96) ?_ hX' hO'.rd (Mem.flat_length Link.pkCells_length _) Link.pk_one (by unfold maxLen; omega) (by omega)
        intro X' d' u' hown hg hat
        exact ⟨rfl, hK _ _ ⟨X', d', rfl, hown, hat.elim .inl (fun h => .inr (h ▸ Mem.From.some_ hbu))⟩ (Reg.Wr.does1 ((Mem.Keeps.refl _ u).grown hg (fun y hy _ => hy)))⟩
      · intro val ac u hR hp ha K hK      -- 11: t98 := Op.nilCheck t87
        obtain ⟨w87, h87, r87⟩ := hp 0 (by decide)
        have e87 : (ac.tmps[87]?).getD undef = .pointer (some ⟨g, 0, none⟩) := (ha 87 (by decide)).trans h87
        clear h87
        clear ha hp
        refine Reg.Op1.plain rfl ?_
        go_wp2
        exact ⟨rfl, hK _ _ rfl (Reg.Wr.same _)⟩
      · intro val ac u hR hp ha K hK      -- 12: t99 := Op.fieldAddr 31 t98 2
        obtain ⟨w98, h98, r98⟩ := hp 11 (by decide)
        have e98 : (ac.tmps[98]?).getD undef = .pointer (some ⟨g, 0, none⟩) := (ha 98 (by decide)).trans h98
        clear h98
        clear ha hp
        refine Reg.Op1.plain rfl ?_
        go_wp2
        exact ⟨rfl, hK _ _ rfl (Reg.Wr.same _)⟩
      · intro val ac u hR hp ha K hK      -- 13: Op.store 28 t99 t97
        obtain ⟨w99, h99, r99⟩ := hp 12 (by decide)
        have e99 : (ac.tmps[99]?).getD undef = .pointer (some ⟨g, 2, none⟩) := (ha 99 (by decide)).trans h99
        clear h99
        obtain ⟨w97, h97, r97⟩ := hp 10 (by decide)
        have e97 : (ac.tmps[97]?).getD undef = val 10 := ha 97 (by decide)
        clear ha hp
        refine Reg.Op1.plain rfl ?_
        obtain ⟨X2, d2, hv, hO, hm⟩ := h97
        rw [hv] at e97
        have hO' := hO.keeps (Reg.Wr.only3 r97 (by decide +kernel) (by decide +kernel)) (fun _ _ h => h)
        have hq3 : Mem.Keeps (fun y => Mem.blk (p.X 2) = some y ∨ False) w5 u := (Mem.Keeps.refl (fun y => Mem.blk (p.X 2) = some y ∨ False) w5).drew.trans (Reg.Wr.not2 hR (by decide +kernel)) (fun _ h _ => h)
        have hgx : ¬ (Mem.blk (p.X 2) = some g ∨ False) := fun h => h.elim HNG.out id
        have hbx := Mem.Own.keeps H5.out.box hq3 (fun y hy h => by cases hy; exact hgx h)
        have xf := Mem.Own.free hbx
        have x0 := (hq3.cell (p := ⟨g, 2, none⟩) hg5 hgx).trans e1
        have hln : (s.pk 2 ++ l).length = (s.pk 2).length + l.length := List.length_append
        go_wp2
        refine ⟨rfl, hK undef _ ⟨X2, d2, ?_, hm, ?_⟩ (Reg.Wr.does2 ((Mem.Keeps.refl (fun q => q = g) u).setCell (p := ⟨g, 2, none⟩) (fun _ => rfl) _))⟩
        · rw [hln, List.flatMap_append]
          refine hO'.keeps ((Mem.Keeps.refl (fun q => q = g) u).setCell (p := ⟨g, 2, none⟩) (fun _ => rfl) _) (fun y h1 h => ?_)
          rcases hm with h2 | h2
          · exact HNG.out (by rw [← h2, h1, h])
          · have := h2.blk y h1; omega
        · rw [hln]; have := Mem.Own.set hbx 2 (.slice X2 ((s.pk 2).length + l.length) d2); exact this
    · intro val u hR H
      obtain ⟨wB, ⟨X2, d2, hO3, hmX, hb3⟩, rB⟩ := H 13 (by decide)
      have hO4 := hO3.keeps (Reg.Wr.only3 rB (by decide +kernel) (by decide +kernel)) (fun _ _ h => h)
      have hb4 := hb3.keeps (Reg.Wr.only3 rB (by decide +kernel) (by decide +kernel)) (fun _ _ h => h)
      have hk : Mem.Keeps (fun y => Link.relab lab w.heap.size 11 y = 2 ∨ Link.relab lab w.heap.size 11 y = 10) w5 u := ((Mem.Keeps.refl (fun y => Mem.blk (p.X 2) = some y ∨ y = g ∨ False) w5).drew.trans (Reg.Wr.all hR) (fun _ h _ => h)).mono (fun y h _ => by
        rcases h with h | h | h
        · exact .inl (HX.out _ h)
        · exact .inr (by rw [h]; exact HGG.out)
        · exact h.elim)
      have hwl := H5.out.pks (i := 2) (by omega) (by omega) hO4 hb4 hk (hmX.elim (fun h => .inl (by rw [h])) (fun h => .inr (.inr h)))
      have hgs : Link.stepW s a = { s with pk := Link.upd s.pk 2 (s.pk 2 ++ l) } := by rw [HSW.out]; unfold Link.outW; rw [HLL.out]
      have HWL : Hid (∃ p' lab', Link.WL w0 u g p' (Link.stepW s a) lab') := by
        show ∃ p' lab', Link.WL w0 u g p' (Link.stepW s a) lab'
        rw [hgs]
        exact ⟨_, _, hwl⟩
      simp only [List.map_cons, List.map_nil, Reg.lay, Act.put, List.setIfInBounds_toArray, List.set_cons_succ, List.set_cons_zero, Nat.reduceAdd]
      clear hR H hk hb4 hO4 hb3 hO3 rB hwl hgs
      go_wp2
      go_end0
      exact ⟨rfl, HWL.out⟩
  rename_i k1 k2 k3
  have d1 : (a.kind == 1) = false := by simp [k1]
  have d2 : (a.kind == 2) = false := by simp [k2]
  have d3 : (a.kind == 3) = false := by simp [k3]
  have d4 : (a.kind == 4) = false := by simp [hkd]
  by_cases k5 : a.kind = 5
  · have d5 : (a.kind == 5) = true := by simp [k5]
    have HSW : Hid (Link.stepW s a = Link.comeW s a) := by show _ = _; unfold Link.stepW; rw [if_neg k1, if_neg k2, if_neg k3, if_neg hkd, if_pos (.inl k5)]
    clear k1 k2 k3 hkd k5
    go_wp2_with fail
    refine (come_any H5.out a hn HF.out HST.out).mono ?_
    rintro x w9 ⟨rfl, h9⟩
    have H9 := Lib.hid h9
    clear h9
    go_wp2
    go_end0
    exact ⟨rfl, by rw [HSW.out]; exact H9.out⟩
  by_cases k6 : a.kind = 6
  · have d5 : (a.kind == 5) = false := by simp [k5]
    have d6 : (a.kind == 6) = true := by simp [k6]
    have HSW : Hid (Link.stepW s a = Link.comeW s a) := by show _ = _; unfold Link.stepW; rw [if_neg k1, if_neg k2, if_neg k3, if_neg hkd, if_pos (.inr k6)]
    clear k1 k2 k3 hkd k5 k6
    go_wp2_with fail
    refine (come_any H5.out a hn HF.out HST.out).mono ?_
    rintro x w9 ⟨rfl, h9⟩
    have H9 := Lib.hid h9
    clear h9
    go_wp2
    go_end0
    exact ⟨rfl, by rw [HSW.out]; exact H9.out⟩
  · have d5 : (a.kind == 5) = false := by simp [k5]
    have d6 : (a.kind == 6) = false := by simp [k6]
    have HSW : Hid (Link.stepW s a = s) := by show _ = _; unfold Link.stepW; rw [if_neg k1, if_neg k2, if_neg k3, if_neg hkd, if_neg (by omega)]
    clear k1 k2 k3 hkd k5 k6
    go_wp2
    go_end0
    exact ⟨rfl, p, _, by rw [HSW.out]; exact H5.out⟩
end Go.Proofs.Ytjkonfanmpcipaa
