/- The walk of WireTells. No conditions. -/
import Derived.Test.YtkfgedgjpgehoaaWire22
import Derived.Test.YtkfgedgjpgehoaaWire16
namespace Go.Proofs.Ytkfgedgjpgehoaa
open Go.ChangeShapes Go.WideShapes Go.ChangeAt Go.RowKit
set_option linter.unusedVariables false
set_option linter.unusedSimpArgs false
set_option maxRecDepth 100000
theorem load_drew {t : TypeId} {n g : Nat} {xs : List Value} {w : World} (hA : Mem.Agg Try.prog t n) (hb : Mem.Bx w t n g xs) (k : Nat) : (loadVar t ⟨g, 0, none⟩).run Try.prog (w.drewN k) = .ok (.agg xs.toArray) (w.drewN k) :=
  Mem.run_loadBx hA (hb.keeps ((Mem.Keeps.refl (fun _ => False) _).drewN _) id)
theorem conv_drew {w : World} {A : Option Addr} {bs : List UInt8} {cap B : Nat} (hR : Mem.Rd w B A (bs.map Mem.byteV)) (k : Nat) : (convert 39 9 (.slice A bs.length cap)).run Try.prog (w.drewN k) = .ok (.string (Wi.sB bs)) (w.drewN k) :=
  Mem.conv_all (P := Try.prog) 39 9 5 bytes_under u8_under string_under (hR.drewN k) rfl
namespace wireTellsOpen
open Wi
set_option maxHeartbeats 4000000 in
theorem walk (xs ys : List Value) (w : World) (h1 : MsgIn msgK xs) (h2 : MsgIn msgK ys) :
    Calls Try.prog 10 #[.agg xs.toArray, .agg ys.toArray] w fun e w' => e = .returned (.bool true) ∧ Below w.heap.size w w' := by
  have H1 := Lib.hid h1
  have H2 := Lib.hid h2
  have hlx : Hid (xs.length = 74) := h1.ok.len
  obtain ⟨w1, hw1⟩ : ∃ w1, w.alloc (.cells xs.toArray 55) = w1 := ⟨_, rfl⟩
  have hz1 : Mem.Bx w1 55 74 w.heap.size xs := by rw [← hw1]; exact Mem.Bx.new w 55 xs.toArray (by rw [List.size_toArray, hlx.out]) rfl
  have hk1 : Below w.heap.size w w1 := by rw [← hw1]; exact Reg.below_new _ _
  have hly : Hid (ys.length = 74) := h2.ok.len
  obtain ⟨w2, hw2⟩ : ∃ w2, w1.alloc (.cells ys.toArray 55) = w2 := ⟨_, rfl⟩
  have hz2 : Mem.Bx w2 55 74 w1.heap.size ys := by rw [← hw2]; exact Mem.Bx.new w1 55 ys.toArray (by rw [List.size_toArray, hly.out]) rfl
  have hk2 : Below w1.heap.size w1 w2 := by rw [← hw2]; exact Reg.below_new _ _
  have hs1 : w1.heap.size = w.heap.size + 1 := by rw [← hw1]; simp
  have HZ : Hid (Mem.Bx w2 55 74 w.heap.size xs) := hz1.keeps (Mem.Keeps.of_below hk2) id
  have HY : Hid (Mem.Bx w2 55 74 w1.heap.size ys) := hz2
  have HB : Hid (Below w.heap.size w w2) := hk1.trans (hk2.mono hk1.size)
  obtain ⟨g, hg⟩ : ∃ g, w.heap.size = g := ⟨_, rfl⟩
  rw [hg] at HZ hs1
  rw [hs1] at HY
  have HW1 := Lib.hid hw1
  have HW2 := Lib.hid hw2
  have HG := Lib.hid hg
  clear h1 h2 hw1 hw2 hz1 hz2 hk1 hk2 hg hs1
  go_enter Try.func10, Try.ntmps10
  go_upto_region 1 with fail
  rw [HW1.out, HW2.out, HG.out]
  have HA := Lib.hid (wireAble_any w2)
  go_upto_region 3 with (go_at_call 14; refine HA.out.mono ?_; rintro x3 w3 ⟨rfl, hb3⟩; have HB3 : Hid (Below w.heap.size w w3) := HB.out.trans (hb3.mono HB.out.size); have HZ3 : Hid (Mem.Bx w3 55 74 g xs) := HZ.out.keeps (Mem.Keeps.of_below hb3) id; have HY3 : Hid (Mem.Bx w3 55 74 (g + 1) ys) := HY.out.keeps (Mem.Keeps.of_below hb3) id; clear hb3 HA)
  have HL1 := fun v => Lib.hid (wireLong_any (w := v) H1.out rfl)
  have HL2 := fun v => Lib.hid (wireLong_any (w := v) H2.out rfl)
  clear HZ HY HB HW1 HW2
  cases hv1 : longV xs
  case' true =>
    rw [hv1] at HL1
    go_wp2_with (first | ((with_reducible refine Mem.load_agg _ _ msg_agg g 0 xs ?hxa hlx.out (fun j u hu => by rw [Nat.zero_add]; exact HZ3.out.cell hu) ?_); case hxa => exact rfl) | (go_at_call 19; refine (HL1 _).out.mono ?_; rintro x4 w4 ⟨rfl, hb4⟩; have HB4 := Lib.hid hb4; clear hb4 HL1))
    go_ret
    exact ⟨rfl, HB3.out.trans (HB4.out.mono HB3.out.size)⟩
  rw [hv1] at HL1
  have hfx := Lib.hid (fed_of H1.out hv1)
  clear hv1
  cases hv2 : longV ys
  case' true =>
    rw [hv2] at HL2
    go_wp2_with (first | ((with_reducible refine Mem.load_agg _ _ msg_agg g 0 xs ?hxa hlx.out (fun j u hu => by rw [Nat.zero_add]; exact HZ3.out.cell hu) ?_); case hxa => exact rfl) | (go_at_call 19; refine (HL1 _).out.mono ?_; rintro x4 w4 ⟨rfl, hb4⟩; have HB4 := Lib.hid hb4; clear hb4 HL1) | ((with_reducible refine Mem.load_aggG _ _ msg_agg (g + 1) 0 ys ?hwb ?hxb hly.out (fun j u hu => by rw [Nat.zero_add]; exact (HY3.out.keeps (Mem.Keeps.of_below HB4.out) id).cell hu) ?_); ((case hwb => rfl); (case hxb => exact rfl))) | (go_at_call 19; refine (HL2 _).out.mono ?_; rintro x5 w5 ⟨rfl, hb5⟩; have HB5 := Lib.hid hb5; clear hb5 HL2))
    go_ret
    exact ⟨rfl, (HB3.out.trans (HB4.out.mono HB3.out.size)).trans (HB5.out.mono (HB3.out.trans (HB4.out.mono HB3.out.size)).size)⟩
  rw [hv2] at HL2
  have hfy := Lib.hid (fed_of H2.out hv2)
  clear hv2 H1 H2
  go_upto_region 5 with (first | ((with_reducible refine Mem.load_agg _ _ msg_agg g 0 xs ?hxa hlx.out (fun j u hu => by rw [Nat.zero_add]; exact HZ3.out.cell hu) ?_); case hxa => exact rfl) | (go_at_call 19; refine (HL1 _).out.mono ?_; rintro x4 w4 ⟨rfl, hb4⟩; have HB4 := Lib.hid hb4; clear hb4 HL1) | ((with_reducible refine Mem.load_aggG _ _ msg_agg (g + 1) 0 ys ?hwb ?hxb hly.out (fun j u hu => by rw [Nat.zero_add]; exact (HY3.out.keeps (Mem.Keeps.of_below HB4.out) id).cell hu) ?_); ((case hwb => rfl); (case hxb => exact rfl))) | (go_at_call 19; refine (HL2 _).out.mono ?_; rintro x5 w5 ⟨rfl, hb5⟩; have HB5 := Lib.hid hb5; clear hb5 HL2))
  have hk5 : Below w3.heap.size w3 w5 := HB4.out.trans (HB5.out.mono HB4.out.size)
  have HB6 : Hid (Below w.heap.size w w5) := HB3.out.trans (hk5.mono HB3.out.size)
  have HZ5 : Hid (Mem.Bx w5 55 74 g xs) := HZ3.out.keeps (Mem.Keeps.of_below hk5) id
  have HY5 : Hid (Mem.Bx w5 55 74 (g + 1) ys) := HY3.out.keeps (Mem.Keeps.of_below hk5) id
  clear hk5 HB3 HB4 HB5 HZ3 HY3
  obtain ⟨fx, hfx0⟩ : ∃ fx, framedC (msgC xs) = fx := ⟨_, rfl⟩
  obtain ⟨fy, hfy0⟩ : ∃ fy, framedC (msgC ys) = fy := ⟨_, rfl⟩
  have HFX := Lib.hid hfx0
  have HFY := Lib.hid hfy0
  clear hfx0 hfy0
  have HM1 := Lib.hid (msg_any (w := w5) hfx.out)
  go_upto_region 6 with (first | ((with_reducible refine Mem.load_agg _ _ msg_agg g 0 xs ?hxc hlx.out (fun j u hu => by rw [Nat.zero_add]; exact HZ5.out.cell hu) ?_); case hxc => exact rfl) | (go_at_call 20; refine HM1.out.mono ?_; intro x7 w7 hfe; obtain ⟨A1, c1, rfl, h2, h3, h4⟩ := hfe; rw [HFX.out] at h2; have HO1 := Lib.hid h2; have HB7 := Lib.hid h4; clear h2 h3 h4 HM1))
  rw [HFX.out]
  have HZ7 : Hid (Mem.Bx w7 55 74 g xs) := HZ5.out.keeps (Mem.Keeps.of_below HB7.out) id
  have HY7 : Hid (Mem.Bx w7 55 74 (g + 1) ys) := HY5.out.keeps (Mem.Keeps.of_below HB7.out) id
  have HM2 := Lib.hid (msg_any (w := w7) hfy.out)
  go_upto_region 7 with (first | ((with_reducible refine Mem.load_agg _ _ msg_agg (g + 1) 0 ys ?hxd hly.out (fun j u hu => by rw [Nat.zero_add]; exact HY7.out.cell hu) ?_); case hxd => exact rfl) | (go_at_call 20; refine HM2.out.mono ?_; intro x8 w8 hfe; obtain ⟨A2, c2, rfl, h2, h3, h4⟩ := hfe; rw [HFY.out] at h2; have HO2 := Lib.hid h2; have HB8 := Lib.hid h4; clear h2 h3 h4 HM2))
  rw [HFY.out]
  have HBE : Hid (Below w.heap.size w w8) := (HB6.out.trans (HB7.out.mono HB6.out.size)).trans (HB8.out.mono (HB6.out.trans (HB7.out.mono HB6.out.size)).size)
  by_cases e1 : fx.2 = 0
  case neg =>
    have d1 : (fx.2 != 0) = true := by simpa using e1
    clear e1 HZ7 HY7 HO1 HO2 HB6 HB7 HB8 HFX HFY
    go_wp2
    go_quiet (fail)
    go_wp2
    go_ret
    exact ⟨rfl, Mem.below_drewN HBE.out _⟩
  by_cases e2 : fy.2 = 0
  case neg =>
    have d1 : (fx.2 != 0) = false := by simpa using e1
    have d2 : (fy.2 != 0) = true := by simpa using e2
    clear e1 e2 HZ7 HY7 HO1 HO2 HB6 HB7 HB8 HFX HFY
    go_wp2
    go_quiet (fail)
    go_wp2
    go_ret
    exact ⟨rfl, Mem.below_drewN HBE.out _⟩
  have d1 : (fx.2 != 0) = false := by simpa using e1
  have d2 : (fy.2 != 0) = false := by simpa using e2
  have g1 := good_of hfx.out (by rw [HFX.out]; exact e1)
  have g2 := good_of hfy.out (by rw [HFY.out]; exact e2)
  have q1 : fx.1 = frameB (enB xs) := by rw [← HFX.out, g1.fr]
  have q2 : fy.1 = frameB (enB ys) := by rw [← HFY.out, g2.fr]
  have hz8 : Mem.Bx w8 55 74 g xs := HZ7.out.keeps (Mem.Keeps.of_below HB8.out) id
  have hy8 : Mem.Bx w8 55 74 (g + 1) ys := HY7.out.keeps (Mem.Keeps.of_below HB8.out) id
  have k3 := msgK_eq.eql hfx.out.ok hfy.out.ok
  have k4 : ((sB fx.1).toList == (sB fy.1).toList) = Cells.eqL xs ys := by
    rw [sB_eq, q1, q2, Bool.eq_iff_iff, Cells.eqL_iff hfx.out.ok hfy.out.ok, decide_eq_true_iff]
    exact ⟨fun h => msg_inj hfx.out hfy.out g1 g2 h, fun h => by rw [h]⟩
  have HZ8 := Lib.hid hz8
  have HY8 := Lib.hid hy8
  have HR1 := Lib.hid (HO1.out.rd.below HB8.out)
  have HR2 := Lib.hid HO2.out.rd
  have hs7 := HB8.out.size
  have hg8 := hz8.lt
  have hg9 := hy8.lt
  clear e1 e2 g1 g2 q1 q2 hz8 hy8 HZ7 HY7 HO1 HO2 HB6 HB7 HB8 HFX HFY hfx hfy
  go_upto_region 7 with fail
  refine Reg.wp_region_rel (by kernel_rfl) 44 18 rfl rfl (by kernel_rfl) (Reg.Adds) (Reg.Adds.refl) (Reg.Adds.trans)
    (fun i v u => match i with
      | 0 => v = .int .i64 fx.2
      | 1 => v = .bool false
      | 2 => v = .bool false
      | 3 => v = .int .i64 fy.2
      | 4 => v = .bool false
      | 5 => v = .bool false
      | 6 => v = .bool false
      | 7 => v = .slice A1 fx.1.length c1
      | 8 => v = .string (sB fx.1)
      | 9 => v = .slice A2 fy.1.length c2
      | 10 => v = .string (sB fy.1)
      | 11 => v = .bool (Cells.eqL xs ys)
      | 12 => v = .agg xs.toArray
      | 13 => v = .agg ys.toArray
      | 14 => v = .bool (Cells.eqL xs ys)
      | 15 => v = .bool true
      | 16 => v = .bool true
      | 17 => v = .bool true
      | _ => True) ?_ ?_
  · refine Reg.Steps.cons ?_ (Reg.Steps.cons ?_ (Reg.Steps.cons ?_ (Reg.Steps.cons ?_ (Reg.Steps.cons ?_ (Reg.Steps.cons ?_ (Reg.Steps.cons ?_ (Reg.Steps.cons ?_ (Reg.Steps.cons ?_ (Reg.Steps.cons ?_ (Reg.Steps.cons ?_ (Reg.Steps.cons ?_ (Reg.Steps.cons ?_ (Reg.Steps.cons ?_ (Reg.Steps.cons ?_ (Reg.Steps.cons ?_ (Reg.Steps.cons ?_ (Reg.Steps.cons ?_ (Reg.Steps.nil _))))))))))))))))))
    · intro val ac u hR hp ha K hK      -- 0: t27 := Op.move t6
      have e6 : (ac.tmps[6]?).getD undef = .int .i64 fx.2 := ha 6 (by decide)
      clear ha hp
      refine Reg.Op1.plain rfl ?_
      go_wp2
      exact ⟨rfl, hK _ _ rfl (fun j k _ _ => Reg.Adds.refl _ _ _)⟩
    · intro val ac u hR hp ha K hK      -- 1: t28 := Op.binOp BinOp.neq 40 t27 (const (0:i64)) 40
      obtain ⟨w27, h27, r27⟩ := hp 0 (by decide)
      have e27 : (ac.tmps[27]?).getD undef = .int .i64 fx.2 := (ha 27 (by decide)).trans h27
      clear h27
      clear ha hp
      refine Reg.Op1.plain rfl ?_
      go_wp2
      exact ⟨rfl, hK _ _ rfl (fun j k _ _ => Reg.Adds.refl _ _ _)⟩
    · intro val ac u hR hp ha K hK      -- 2: t29 := Op.move t28
      obtain ⟨w28, h28, r28⟩ := hp 1 (by decide)
      have e28 : (ac.tmps[28]?).getD undef = .bool false := (ha 28 (by decide)).trans h28
      clear h28
      clear ha hp
      refine Reg.Op1.plain rfl ?_
      go_wp2
      exact ⟨rfl, hK _ _ rfl (fun j k _ _ => Reg.Adds.refl _ _ _)⟩
    · intro val ac u hR hp ha K hK      -- 3: t30 := Op.move t8
      have e8 : (ac.tmps[8]?).getD undef = .int .i64 fy.2 := ha 8 (by decide)
      obtain ⟨w29, h29, r29⟩ := hp 2 (by decide)
      have e29 : (ac.tmps[29]?).getD undef = .bool false := (ha 29 (by decide)).trans h29
      clear h29
      clear ha hp
      refine Reg.Op1.guarded rfl rfl e29 (fun _ => Reg.Op1.plain rfl ?_) (fun h => absurd rfl h)
      go_wp2
      exact ⟨rfl, hK _ _ rfl (fun j k _ _ => Reg.Adds.refl _ _ _)⟩
    · intro val ac u hR hp ha K hK      -- 4: t31 := Op.binOp BinOp.neq 40 t30 (const (0:i64)) 40
      obtain ⟨w30, h30, r30⟩ := hp 3 (by decide)
      have e30 : (ac.tmps[30]?).getD undef = .int .i64 fy.2 := (ha 30 (by decide)).trans h30
      clear h30
      obtain ⟨w29, h29, r29⟩ := hp 2 (by decide)
      have e29 : (ac.tmps[29]?).getD undef = .bool false := (ha 29 (by decide)).trans h29
      clear h29
      clear ha hp
      refine Reg.Op1.guarded rfl rfl e29 (fun _ => Reg.Op1.plain rfl ?_) (fun h => absurd rfl h)
      go_wp2
      exact ⟨rfl, hK _ _ rfl (fun j k _ _ => Reg.Adds.refl _ _ _)⟩
    · intro val ac u hR hp ha K hK      -- 5: t32 := Op.pick t29 (const (Value.bool true)) t31
      obtain ⟨w29, h29, r29⟩ := hp 2 (by decide)
      have e29 : (ac.tmps[29]?).getD undef = .bool false := (ha 29 (by decide)).trans h29
      clear h29
      obtain ⟨w31, h31, r31⟩ := hp 4 (by decide)
      have e31 : (ac.tmps[31]?).getD undef = .bool false := (ha 31 (by decide)).trans h31
      clear h31
      clear ha hp
      refine Reg.Op1.plain rfl ?_
      go_wp2
      exact ⟨rfl, hK _ _ rfl (fun j k _ _ => Reg.Adds.refl _ _ _)⟩
    · intro val ac u hR hp ha K hK      -- 6: t33 := Op.move t32
      obtain ⟨w32, h32, r32⟩ := hp 5 (by decide)
      have e32 : (ac.tmps[32]?).getD undef = .bool false := (ha 32 (by decide)).trans h32
      clear h32
      clear ha hp
      refine Reg.Op1.plain rfl ?_
      go_wp2
      exact ⟨rfl, hK _ _ rfl (fun j k _ _ => Reg.Adds.refl _ _ _)⟩
    · intro val ac u hR hp ha K hK      -- 7: t34 := Op.move t5
      have e5 : (ac.tmps[5]?).getD undef = .slice A1 fx.1.length c1 := ha 5 (by decide)
      obtain ⟨w33, h33, r33⟩ := hp 6 (by decide)
      have e33 : (ac.tmps[33]?).getD undef = .bool false := (ha 33 (by decide)).trans h33
      clear h33
      clear ha hp
      refine Reg.Op1.guarded rfl rfl e33 (fun _ => Reg.Op1.plain rfl ?_) (fun h => absurd rfl h)
      go_wp2
      exact ⟨rfl, hK _ _ rfl (fun j k _ _ => Reg.Adds.refl _ _ _)⟩
    · intro val ac u hR hp ha K hK      -- 8: t35 := Op.convert 39 9 t34
      obtain ⟨w34, h34, r34⟩ := hp 7 (by decide)
      have e34 : (ac.tmps[34]?).getD undef = .slice A1 fx.1.length c1 := (ha 34 (by decide)).trans h34
      clear h34
      obtain ⟨w33, h33, r33⟩ := hp 6 (by decide)
      have e33 : (ac.tmps[33]?).getD undef = .bool false := (ha 33 (by decide)).trans h33
      clear h33
      clear ha hp
      refine Reg.Op1.guarded rfl rfl e33 (fun _ => Reg.Op1.plain rfl ?_) (fun h => absurd rfl h)
      have hcv := Mem.conv_all (P := Try.prog) (w := u) (cap := c1) 39 9 5 bytes_under u8_under string_under ((Mem.Rd.drew HR1.out).below (hR.mono hs7)) rfl
      go_wp2
      exact ⟨rfl, hK _ _ rfl (fun j k _ _ => Reg.Adds.refl _ _ _)⟩
    · intro val ac u hR hp ha K hK      -- 9: t36 := Op.move t7
      have e7 : (ac.tmps[7]?).getD undef = .slice A2 fy.1.length c2 := ha 7 (by decide)
      obtain ⟨w33, h33, r33⟩ := hp 6 (by decide)
      have e33 : (ac.tmps[33]?).getD undef = .bool false := (ha 33 (by decide)).trans h33
      clear h33
      clear ha hp
      refine Reg.Op1.guarded rfl rfl e33 (fun _ => Reg.Op1.plain rfl ?_) (fun h => absurd rfl h)
      go_wp2
      exact ⟨rfl, hK _ _ rfl (fun j k _ _ => Reg.Adds.refl _ _ _)⟩
    · intro val ac u hR hp ha K hK      -- 10: t37 := Op.convert 39 9 t36
      obtain ⟨w36, h36, r36⟩ := hp 9 (by decide)
      have e36 : (ac.tmps[36]?).getD undef = .slice A2 fy.1.length c2 := (ha 36 (by decide)).trans h36
      clear h36
      obtain ⟨w33, h33, r33⟩ := hp 6 (by decide)
      have e33 : (ac.tmps[33]?).getD undef = .bool false := (ha 33 (by decide)).trans h33
      clear h33
      clear ha hp
      refine Reg.Op1.guarded rfl rfl e33 (fun _ => Reg.Op1.plain rfl ?_) (fun h => absurd rfl h)
      have hcv := Mem.conv_all (P := Try.prog) (w := u) (cap := c2) 39 9 5 bytes_under u8_under string_under ((Mem.Rd.drew HR2.out).below hR) rfl
      go_wp2
      exact ⟨rfl, hK _ _ rfl (fun j k _ _ => Reg.Adds.refl _ _ _)⟩
    · intro val ac u hR hp ha K hK      -- 11: t38 := Op.binOp BinOp.eql 9 t35 t37 9
      obtain ⟨w35, h35, r35⟩ := hp 8 (by decide)
      have e35 : (ac.tmps[35]?).getD undef = .string (sB fx.1) := (ha 35 (by decide)).trans h35
      clear h35
      obtain ⟨w37, h37, r37⟩ := hp 10 (by decide)
      have e37 : (ac.tmps[37]?).getD undef = .string (sB fy.1) := (ha 37 (by decide)).trans h37
      clear h37
      obtain ⟨w33, h33, r33⟩ := hp 6 (by decide)
      have e33 : (ac.tmps[33]?).getD undef = .bool false := (ha 33 (by decide)).trans h33
      clear h33
      clear ha hp
      refine Reg.Op1.guarded rfl rfl e33 (fun _ => Reg.Op1.plain rfl ?_) (fun h => absurd rfl h)
      go_wp2
      exact ⟨rfl, hK _ _ rfl (fun j k _ _ => Reg.Adds.refl _ _ _)⟩
    · intro val ac u hR hp ha K hK      -- 12: t39 := Op.load 55 t2
      have e2 : (ac.tmps[2]?).getD undef = .pointer (some ⟨g, 0, none⟩) := ha 2 (by decide)
      obtain ⟨w33, h33, r33⟩ := hp 6 (by decide)
      have e33 : (ac.tmps[33]?).getD undef = .bool false := (ha 33 (by decide)).trans h33
      clear h33
      clear ha hp
      refine Reg.Op1.guarded rfl rfl e33 (fun _ => Reg.Op1.plain rfl ?_) (fun h => absurd rfl h)
      have hVu : Mem.Bx u 55 74 g xs := Mem.Bx.below (w := w8.drew) HZ8.out hR hg8
      refine Mem.load_aggG _ _ msg_agg g 0 xs (by simp [Region.wanted]) (Reg.eval_of e2) hlx.out (fun j u' hu => by rw [Nat.zero_add]; exact hVu.cell hu) ?_
      exact ⟨rfl, hK _ _ rfl (fun j k _ _ => Reg.Adds.refl _ _ _)⟩
    · intro val ac u hR hp ha K hK      -- 13: t40 := Op.load 55 t3
      have e3 : (ac.tmps[3]?).getD undef = .pointer (some ⟨g + 1, 0, none⟩) := ha 3 (by decide)
      obtain ⟨w33, h33, r33⟩ := hp 6 (by decide)
      have e33 : (ac.tmps[33]?).getD undef = .bool false := (ha 33 (by decide)).trans h33
      clear h33
      clear ha hp
      refine Reg.Op1.guarded rfl rfl e33 (fun _ => Reg.Op1.plain rfl ?_) (fun h => absurd rfl h)
      have hVu : Mem.Bx u 55 74 (g + 1) ys := Mem.Bx.below (w := w8.drew) HY8.out hR hg9
      refine Mem.load_aggG _ _ msg_agg (g + 1) 0 ys (by simp [Region.wanted]) (Reg.eval_of e3) hly.out (fun j u' hu => by rw [Nat.zero_add]; exact hVu.cell hu) ?_
      exact ⟨rfl, hK _ _ rfl (fun j k _ _ => Reg.Adds.refl _ _ _)⟩
    · intro val ac u hR hp ha K hK      -- 14: t41 := Op.binOp BinOp.eql 55 t39 t40 55
      obtain ⟨w39, h39, r39⟩ := hp 12 (by decide)
      have e39 : (ac.tmps[39]?).getD undef = .agg xs.toArray := (ha 39 (by decide)).trans h39
      clear h39
      obtain ⟨w40, h40, r40⟩ := hp 13 (by decide)
      have e40 : (ac.tmps[40]?).getD undef = .agg ys.toArray := (ha 40 (by decide)).trans h40
      clear h40
      obtain ⟨w33, h33, r33⟩ := hp 6 (by decide)
      have e33 : (ac.tmps[33]?).getD undef = .bool false := (ha 33 (by decide)).trans h33
      clear h33
      clear ha hp
      refine Reg.Op1.guarded rfl rfl e33 (fun _ => Reg.Op1.plain rfl ?_) (fun h => absurd rfl h)
      go_wp2
      exact ⟨rfl, hK _ _ rfl (fun j k _ _ => Reg.Adds.refl _ _ _)⟩
    · intro val ac u hR hp ha K hK      -- 15: t42 := Op.binOp BinOp.eql 4 t38 t41 4
      obtain ⟨w38, h38, r38⟩ := hp 11 (by decide)
      have e38 : (ac.tmps[38]?).getD undef = .bool (Cells.eqL xs ys) := (ha 38 (by decide)).trans h38
      clear h38
      obtain ⟨w41, h41, r41⟩ := hp 14 (by decide)
      have e41 : (ac.tmps[41]?).getD undef = .bool (Cells.eqL xs ys) := (ha 41 (by decide)).trans h41
      clear h41
      obtain ⟨w33, h33, r33⟩ := hp 6 (by decide)
      have e33 : (ac.tmps[33]?).getD undef = .bool false := (ha 33 (by decide)).trans h33
      clear h33
      clear ha hp
      refine Reg.Op1.guarded rfl rfl e33 (fun _ => Reg.Op1.plain rfl ?_) (fun h => absurd rfl h)
      go_wp2
      exact ⟨rfl, hK _ _ rfl (fun j k _ _ => Reg.Adds.refl _ _ _)⟩
    · intro val ac u hR hp ha K hK      -- 16: t43 := Op.pick t33 (const (Value.bool true)) t42
      obtain ⟨w33, h33, r33⟩ := hp 6 (by decide)
      have e33 : (ac.tmps[33]?).getD undef = .bool false := (ha 33 (by decide)).trans h33
      clear h33
      obtain ⟨w42, h42, r42⟩ := hp 15 (by decide)
      have e42 : (ac.tmps[42]?).getD undef = .bool true := (ha 42 (by decide)).trans h42
      clear h42
      clear ha hp
      refine Reg.Op1.plain rfl ?_
      go_wp2
      exact ⟨rfl, hK _ _ rfl (fun j k _ _ => Reg.Adds.refl _ _ _)⟩
    · intro val ac u hR hp ha K hK      -- 17: t4 := Op.assign t43
      obtain ⟨w43, h43, r43⟩ := hp 16 (by decide)
      have e43 : (ac.tmps[43]?).getD undef = .bool true := (ha 43 (by decide)).trans h43
      clear h43
      clear ha hp
      refine Reg.Op1.plain rfl ?_
      go_wp2
      exact ⟨rfl, hK _ _ rfl (fun j k _ _ => Reg.Adds.refl _ _ _)⟩
  · intro val u hR H
    have hbe := Below.trans (show Below w.heap.size w w8.drew from Mem.below_drewN HBE.out 1) (hR.mono HBE.out.size)
    have HBF := Lib.hid hbe
    obtain ⟨_, hv, _⟩ := H 17 (by decide)
    have hv : val 17 = .bool true := hv
    simp only [List.map_cons, List.map_nil, Reg.lay, Act.put, List.setIfInBounds_toArray, List.set_cons_succ, List.set_cons_zero, Nat.reduceAdd, hv]
    clear hR H hv hbe
    go_wp2
    go_ret
    exact ⟨rfl, HBF.out⟩
theorem opened {H : Type} (enc : TypeId × Value → H) (W : World) (base : Nat) (v0 v1 : Value) {d0 d1 : DataW H} {p0 p1 : List MemPlace}
    (o0 : Value.okWide Try.prog W .any base 55 v0) (o1 : Value.okWide Try.prog W .any base 55 v1)
    (k0 : DataW.Trod enc Try.prog W 0 (fun _ => true) true 55 v0 d0 p0) (k1 : DataW.Trod enc Try.prog W 0 (fun _ => true) true 55 v1 d1 p1)
    (z0 : (d0.weights Try.prog 55).all (· ≤ reachBytes) = true) (z1 : (d1.weights Try.prog 55).all (· ≤ reachBytes) = true) :
    Calls Try.prog 10 #[v0, v1] W fun e w' => e = .returned (.bool true) ∧ Below W.heap.size W w' := by
  obtain ⟨xs, rfl, h1⟩ := open_msg o0 k0 z0
  obtain ⟨ys, rfl, h2⟩ := open_msg o1 k1 z1
  exact walk xs ys W h1 h2
end wireTellsOpen
end Go.Proofs.Ytkfgedgjpgehoaa
