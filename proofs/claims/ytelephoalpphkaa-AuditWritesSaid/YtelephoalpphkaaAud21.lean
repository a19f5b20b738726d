/- The walk of event. No conditions but that lists are few. -/
import Derived.Test.YtelephoalpphkaaAud20
set_option maxRecDepth 8000
namespace Go.Proofs.Ytelephoalpphkaa
open Go.ChangeShapes Go.WideShapes Go.ChangeAt Go.RowKit
set_option linter.unusedVariables false
set_option linter.unusedSimpArgs false
theorem Au.SBx.keeps' {S : Nat → Prop} {w w' : World} {g : Nat} {s : Au.Ss} (h : Au.SBx w g s) (hk : Mem.Keeps S w w') (hS : ¬ S g) : Au.SBx w' g s := Mem.Bx.keeps h hk hS
open Au in
set_option maxHeartbeats 8000000 in
theorem event_any {w : World} {B gc : Nat} {k : Au.Ck} {ss : List Au.SR} {e : Au.Ev} (h : Au.Chk w B gc k ss) (hE : Au.EvOk w B e) (hcl : Au.okI e.cl) (hn : e.res.length ≤ 703687441776) :
    Calls Try.prog 22 #[.pointer (some ⟨gc, 0, none⟩), .agg (Au.evCells e).toArray] w (Au.EvEnd w B gc k ss e) := by
  have hB1 : Below w.heap.size w (w.alloc (.cells (Au.evCells e).toArray 46)) := Reg.below_new _ _
  have hX1 : Au.VBx (w.alloc (.cells (Au.evCells e).toArray 46)) w.heap.size e := Mem.Bx.new w 46 (Au.evCells e).toArray rfl rfl
  obtain ⟨w1, hw1⟩ : ∃ w1, w.alloc (.cells (Au.evCells e).toArray 46) = w1 := ⟨_, rfl⟩
  rw [hw1] at hB1 hX1
  have HB1 := Lib.hid hB1
  have HX1 := Lib.hid hX1
  unfold Au.evCells at hw1 ⊢
  clear hB1 hX1
  have hl1 : w.heap.size < w1.heap.size := HX1.out.lt
  have HO := Lib.hid (of_any (h.below HB1.out) hcl)
  have HCHK := Lib.hid h
  have HEE := Lib.hid hE
  clear h hE hcl
  go_enter Try.func22, Try.ntmps22
  go_upto_region 1 with fail
  try rw [hw1]
  clear hw1
  have y0 : w1.cell? ⟨w.heap.size, 0, none⟩ = some (.int .i64 e.cl) := HX1.out.cell (j := 0) rfl
  go_upto_region 2 with (go_at_call 33; (refine HO.out.mono ?_); rintro x w2 ⟨ss2, r, rfl, hC2, hf, hs, hk, hfp⟩; have HM := Lib.hid (Mid.start HCHK.out HB1.out HX1.out HEE.out hl1 hC2 hf hs hk hfp); obtain ⟨g, hg⟩ : ∃ z, r.g = z := ⟨_, rfl⟩; rw [hg] at HM ⊢; clear hC2 hf hs hk hfp hg HO HCHK HEE HX1 HB1 hl1 y0)
  clear r ss2
  obtain ⟨s, hs0⟩ : ∃ z, sOf ss e.cl = z := ⟨_, rfl⟩
  rw [hs0] at HM
  have HS0 := Lib.hid hs0
  clear hs0
  have y7 : w2.cell? ⟨w.heap.size, 7, none⟩ = some (.bool e.fresh) := HM.out.x.cell (j := 7) rfl
  have y8 : w2.cell? ⟨w.heap.size, 8, none⟩ = some (.bool e.fin) := HM.out.x.cell (j := 8) rfl
  obtain ⟨fr, hfr⟩ : ∃ z, e.fresh = z := ⟨_, rfl⟩
  obtain ⟨fi, hfi⟩ : ∃ z, e.fin = z := ⟨_, rfl⟩
  rw [hfr] at y7
  rw [hfi] at y8
  have HFR := Lib.hid hfr
  have HFI := Lib.hid hfi
  clear hfr hfi
  cases fr
  · cases fi
    · have z0 : w2.cell? ⟨g, 0, none⟩ = some (.bool s.under) := HM.out.s.cell (j := 0) rfl
      have z22 : w2.cell? ⟨g, 22, none⟩ = some (.bool s.some) := HM.out.s.cell (j := 22) rfl
      have z21 : w2.cell? ⟨g, 21, none⟩ = some (.int .i64 s.op) := HM.out.s.cell (j := 21) rfl
      have y1 : w2.cell? ⟨w.heap.size, 1, none⟩ = some (.int .i64 e.op) := HM.out.x.cell (j := 1) rfl
      obtain ⟨c1, hc1⟩ : ∃ z, (s.under || (s.some && decide (e.op ≤ s.op))) = z := ⟨_, rfl⟩
      have HC1 := Lib.hid hc1
      clear hc1
      go_upto_region 4 with fail
      clear y7 y8
      go_cut [39] (fun v wx => v = .bool c1 ∧ Mid w B gc k ss e g s wx)
      case first =>
        have hc1 := HC1.out
        cases hu : s.under
        · cases hs : s.some
          · have hc2 : c1 = false := by rw [← hc1, hu, hs]; rfl
            have HC2 := Lib.hid hc2
            rw [hu] at z0; rw [hs] at z22
            clear hu hs hc1 hc2
            go_quiet (fail)
            go_wp2
            go_meet
            case rel => exact ⟨by rw [HC2.out], HM.out.below (Mem.below_drewN (Below.refl _ _) _)⟩
          · by_cases ho : e.op ≤ s.op
            · have hc2 : c1 = true := by rw [← hc1, hu, hs]; simp [ho]
              have HC2 := Lib.hid hc2
              have ho2 : decide (e.op ≤ s.op) = true := decide_eq_true ho
              rw [hu] at z0; rw [hs] at z22
              clear hu hs hc1 hc2
              go_quiet (fail)
              go_wp2
              go_meet
              case rel => exact ⟨by rw [HC2.out], HM.out.below (Mem.below_drewN (Below.refl _ _) _)⟩
            · have hc2 : c1 = false := by rw [← hc1, hu, hs]; simp [ho]
              have HC2 := Lib.hid hc2
              have ho2 : decide (e.op ≤ s.op) = false := decide_eq_false ho
              rw [hu] at z0; rw [hs] at z22
              clear hu hs hc1 hc2
              go_quiet (fail)
              go_wp2
              go_meet
              case rel => exact ⟨by rw [HC2.out], HM.out.below (Mem.below_drewN (Below.refl _ _) _)⟩
        · have hc2 : c1 = true := by rw [← hc1, hu]; rfl
          have HC2 := Lib.hid hc2
          rw [hu] at z0
          clear hu hc1 hc2
          go_quiet (fail)
          go_wp2
          go_meet
          case rel => exact ⟨by rw [HC2.out], HM.out.below (Mem.below_drewN (Below.refl _ _) _)⟩
      case rest =>
        obtain ⟨rfl, hM⟩ := hcut
        have HM3 := Lib.hid hM
        rename World => w3
        clear hM z0 z22 z21 y1 HM
        go_upto_if 39 with fail
        go_cut [6] (fun v wx => ∃ A c, v = .slice A (begF s e).1.length c ∧ MidO w B gc k ss e g s (begF s e).1 A wx)
        case first =>
          cases c1
          · have HBG : Hid ((begF s e).1 = []) := by show _ = _; unfold begF; rw [if_neg (by rw [HC1.out]; simp)]
            go_wp2
            go_meet
            case rel => exact ⟨none, 0, by rw [HBG.out]; rfl, ⟨HM3.out, by rw [HBG.out]; exact .inl rfl, (fun q hq => by cases hq), (fun q hq => by cases hq)⟩⟩
          · have HBG : Hid ((begF s e).1 = [1]) := by show _ = _; unfold begF; rw [if_pos HC1.out]
            go_wp2
            go_meet
            case rel =>
              have hb := Reg.below_new w3 (.cells #[.int .i64 1] 3)
              have hx : Mem.Bx (w3.alloc (.cells #[.int .i64 1] 3)) 3 1 w3.heap.size [.int .i64 1] := Mem.Bx.new w3 _ #[.int .i64 1] rfl rfl
              exact ⟨some ⟨w3.heap.size, 0, none⟩, 1, by rw [HBG.out]; rfl, ⟨HM3.out.below hb, by rw [HBG.out]; exact .inr ⟨_, 0, rfl, hx.lt, fun j u hu => by rw [Nat.zero_add]; exact hx.cell hu⟩, (fun q hq => by cases hq; exact fun e => absurd HM3.out.lt (by show ¬ g < w3.heap.size; rw [← e]; exact Nat.lt_irrefl _)), fun q hq => by cases hq; exact HM3.out.k.size⟩⟩
        case rest =>
          obtain ⟨A, c, rfl, hM⟩ := hcut
          have HM4 := Lib.hid hM
          rename World => w4
          clear hM HM3 w3
          have z22 : w4.cell? ⟨g, 22, none⟩ = some (.bool s.some) := HM4.out.m.s.cell (j := 22) rfl
          have z21 : w4.cell? ⟨g, 21, none⟩ = some (.int .i64 s.op) := HM4.out.m.s.cell (j := 21) rfl
          have y1 : w4.cell? ⟨w.heap.size, 1, none⟩ = some (.int .i64 e.op) := HM4.out.m.x.cell (j := 1) rfl
          obtain ⟨o1, ho1⟩ : ∃ z, (begF s e).1 = z := ⟨_, rfl⟩
          rw [ho1] at HM4
          rw [ho1]
          have HO1 := Lib.hid ho1
          clear ho1
          obtain ⟨c2, hc2⟩ : ∃ z, (!s.some || decide (s.op < e.op)) = z := ⟨_, rfl⟩
          have HC2 := Lib.hid hc2
          clear hc2
          go_upto_region 6 with fail
          go_cut [54] (fun v wx => v = .bool c2 ∧ MidO w B gc k ss e g s o1 A wx)
          case first =>
            have hc1 := HC2.out
            cases hs : s.some
            · have hc3 : c2 = true := by rw [← hc1, hs]; rfl
              have HC3 := Lib.hid hc3
              rw [hs] at z22
              clear hs hc1 hc3
              go_quiet (fail)
              go_wp2
              go_meet
              case rel => exact ⟨by rw [HC3.out], HM4.out.below (Mem.below_drewN (Below.refl _ _) _)⟩
            · by_cases ho : s.op < e.op
              · have hc3 : c2 = true := by rw [← hc1, hs]; simp [ho]
                have HC3 := Lib.hid hc3
                have ho2 : decide (s.op < e.op) = true := decide_eq_true ho
                rw [hs] at z22
                clear hs hc1 hc3
                go_quiet (fail)
                go_wp2
                go_meet
                case rel => exact ⟨by rw [HC3.out], HM4.out.below (Mem.below_drewN (Below.refl _ _) _)⟩
              · have hc3 : c2 = false := by rw [← hc1, hs]; simp [ho]
                have HC3 := Lib.hid hc3
                have ho2 : decide (s.op < e.op) = false := decide_eq_false ho
                rw [hs] at z22
                clear hs hc1 hc3
                go_quiet (fail)
                go_wp2
                go_meet
                case rel => exact ⟨by rw [HC3.out], HM4.out.below (Mem.below_drewN (Below.refl _ _) _)⟩
          case rest =>
            obtain ⟨rfl, hM⟩ := hcut
            have HM5 := Lib.hid hM
            rename World => w5
            clear hM z22 z21 y1 HM4 w4
            obtain ⟨s7, hs7⟩ : ∃ z, (⟨s.under, s.begun, if c2 = true then e.op else s.op, s.some, s.cut⟩ : Ss) = z := ⟨_, rfl⟩
            have HS7 := Lib.hid hs7
            clear hs7
            go_upto_if 54 with fail
            go_cut [] (fun wx => MidO w B gc k ss e g s7 o1 A wx)
            case first =>
              cases c2
              · have hs8 : s7 = s := by rw [← HS7.out]; rfl
                have HS8 := Lib.hid hs8
                clear hs8
                go_wp2
                go_meet
                case rel => rw [HS8.out]; exact HM5.out
              · have hs8 : (⟨s.under, s.begun, e.op, s.some, s.cut⟩ : Ss) = s7 := by rw [← HS7.out]; rfl
                have HS8 := Lib.hid hs8
                clear hs8
                have z21 : w5.cell? ⟨g, 21, none⟩ = some (.int .i64 s.op) := HM5.out.m.s.cell (j := 21) rfl
                have y1 : w5.cell? ⟨w.heap.size, 1, none⟩ = some (.int .i64 e.op) := HM5.out.m.x.cell (j := 1) rfl
                have xf := HM5.out.m.s.fr
                go_wp2
                go_meet
                case rel => rw [← HS8.out]; exact HM5.out.write ((Mem.Keeps.refl (fun y => y = g) w5).setCell (fun _ => rfl) _) (HM5.out.m.s.set 21 _) HM5.out.m.b
            case rest =>
              have HM6 := Lib.hid hcut
              rename World => w6
              clear hcut HM5 w5
              go_upto_region 8 with fail
              refine Reg.wp_region_w (by kernel_rfl) 108 13 rfl rfl (by kernel_rfl) (6) (fun y => y = g) (9) (fun y => y = g) (12) (fun y => y = g)
                (fun i v u => match i with
                  | 0 => v = .pointer (some ⟨g, 0, none⟩)
                  | 1 => v = .pointer (some ⟨g, 0, none⟩)
                  | 2 => v = .pointer (some ⟨g, 0, none⟩)
                  | 3 => v = .agg (evCells e).toArray
                  | 4 => v = .pointer (some ⟨g, 0, none⟩)
                  | 5 => v = .pointer (some ⟨g, 0, none⟩)
                  | 6 => SBx u g ⟨true, s7.begun, s7.op, s7.some, s7.cut⟩
                  | 7 => v = .pointer (some ⟨g, 0, none⟩)
                  | 8 => v = .pointer (some ⟨g, 1, none⟩)
                  | 9 => SBx u g ⟨true, e, s7.op, s7.some, s7.cut⟩
                  | 10 => v = .pointer (some ⟨g, 0, none⟩)
                  | 11 => v = .pointer (some ⟨g, 22, none⟩)
                  | 12 => SBx u g ⟨true, e, s7.op, true, s7.cut⟩
                  | _ => True) ?_ ?_
              · refine Reg.Steps.cons ?_ (Reg.Steps.cons ?_ (Reg.Steps.cons ?_ (Reg.Steps.cons ?_ (Reg.Steps.cons ?_ (Reg.Steps.cons ?_ (Reg.Steps.cons ?_ (Reg.Steps.cons ?_ (Reg.Steps.cons ?_ (Reg.Steps.cons ?_ (Reg.Steps.cons ?_ (Reg.Steps.cons ?_ (Reg.Steps.cons ?_ (Reg.Steps.nil _)))))))))))))
                · intro val ac u hR hp ha K hK      -- 0: t60 := Op.move t5
                  have e5 : (ac.tmps[5]?).getD undef = .pointer (some ⟨g, 0, none⟩) := ha 5 (by decide)
                  clear ha hp
                  refine Reg.Op1.plain rfl ?_
                  go_wp2
                  exact ⟨rfl, hK _ _ rfl (Reg.Wr.same _)⟩
                · intro val ac u hR hp ha K hK      -- 1: t61 := Op.move t5
                  have e5 : (ac.tmps[5]?).getD undef = .pointer (some ⟨g, 0, none⟩) := ha 5 (by decide)
                  clear ha hp
                  refine Reg.Op1.plain rfl ?_
                  go_wp2
                  exact ⟨rfl, hK _ _ rfl (Reg.Wr.same _)⟩
                · intro val ac u hR hp ha K hK      -- 2: t62 := Op.move t5
                  have e5 : (ac.tmps[5]?).getD undef = .pointer (some ⟨g, 0, none⟩) := ha 5 (by decide)
                  clear ha hp
                  refine Reg.Op1.plain rfl ?_
                  go_wp2
                  exact ⟨rfl, hK _ _ rfl (Reg.Wr.same _)⟩
                · intro val ac u hR hp ha K hK      -- 3: t63 := Op.load 46 t3
                  have e3 : (ac.tmps[3]?).getD undef = .pointer (some ⟨w.heap.size, 0, none⟩) := ha 3 (by decide)
                  clear ha hp
                  refine Reg.Op1.plain rfl ?_
                  have hXu := HM6.out.m.x.keeps ((Mem.Keeps.refl (fun y => y = g) w6).drew.trans (Reg.Wr.all hR) (fun _ h _ => by rcases h with h | h | h <;> exact h)) (fun q => HM6.out.m.gx q.symm)
                  refine Mem.load_agg _ _ event_agg w.heap.size 0 (evCells e) (Reg.eval_of e3) (evCells_length _) (VBx.at hXu) ?_
                  exact ⟨rfl, hK _ _ rfl (Reg.Wr.same _)⟩
                · intro val ac u hR hp ha K hK      -- 4: t64 := Op.nilCheck t60
                  obtain ⟨w60, h60, r60⟩ := hp 0 (by decide)
                  have e60 : (ac.tmps[60]?).getD undef = .pointer (some ⟨g, 0, none⟩) := (ha 60 (by decide)).trans h60
                  clear h60
                  clear ha hp
                  refine Reg.Op1.plain rfl ?_
                  go_wp2
                  exact ⟨rfl, hK _ _ rfl (Reg.Wr.same _)⟩
                · intro val ac u hR hp ha K hK      -- 5: t65 := Op.fieldAddr 81 t64 0
                  obtain ⟨w64, h64, r64⟩ := hp 4 (by decide)
                  have e64 : (ac.tmps[64]?).getD undef = .pointer (some ⟨g, 0, none⟩) := (ha 64 (by decide)).trans h64
                  clear h64
                  clear ha hp
                  refine Reg.Op1.plain rfl ?_
                  go_wp2
                  exact ⟨rfl, hK _ _ rfl (Reg.Wr.same _)⟩
                · intro val ac u hR hp ha K hK      -- 6: Op.store 4 t65 (const (Value.bool true))
                  obtain ⟨w65, h65, r65⟩ := hp 5 (by decide)
                  have e65 : (ac.tmps[65]?).getD undef = .pointer (some ⟨g, 0, none⟩) := (ha 65 (by decide)).trans h65
                  clear h65
                  clear ha hp
                  refine Reg.Op1.plain rfl ?_
                  have hS : SBx u g s7 := SBx.keeps' HM6.out.m.s ((Mem.Keeps.refl (fun _ => False) w6).drew.trans (Reg.Wr.none hR (by decide +kernel) (by decide +kernel) (by decide +kernel)) (fun _ h _ => h)) id
                  have x0 := hS.cell (j := 0) rfl
                  have xf := hS.fr
                  go_wp2
                  exact ⟨rfl, hK undef _ (hS.set 0 _) (Reg.Wr.does1 ((Mem.Keeps.refl (fun y => y = g) u).setCell (fun _ => rfl) _))⟩
                · intro val ac u hR hp ha K hK      -- 7: t66 := Op.nilCheck t61
                  obtain ⟨w61, h61, r61⟩ := hp 1 (by decide)
                  have e61 : (ac.tmps[61]?).getD undef = .pointer (some ⟨g, 0, none⟩) := (ha 61 (by decide)).trans h61
                  clear h61
                  clear ha hp
                  refine Reg.Op1.plain rfl ?_
                  go_wp2
                  exact ⟨rfl, hK _ _ rfl (Reg.Wr.same _)⟩
                · intro val ac u hR hp ha K hK      -- 8: t67 := Op.fieldAddr 81 t66 1
                  obtain ⟨w66, h66, r66⟩ := hp 7 (by decide)
                  have e66 : (ac.tmps[66]?).getD undef = .pointer (some ⟨g, 0, none⟩) := (ha 66 (by decide)).trans h66
                  clear h66
                  clear ha hp
                  refine Reg.Op1.plain rfl ?_
                  go_wp2
                  exact ⟨rfl, hK _ _ rfl (Reg.Wr.same _)⟩
                · intro val ac u hR hp ha K hK      -- 9: Op.store 46 t67 t63
                  obtain ⟨w67, h67, r67⟩ := hp 8 (by decide)
                  have e67 : (ac.tmps[67]?).getD undef = .pointer (some ⟨g, 1, none⟩) := (ha 67 (by decide)).trans h67
                  clear h67
                  obtain ⟨w63, h63, r63⟩ := hp 3 (by decide)
                  have e63 : (ac.tmps[63]?).getD undef = .agg (evCells e).toArray := (ha 63 (by decide)).trans h63
                  clear h63
                  obtain ⟨w_6, h_6, r_6⟩ := hp 6 (by decide)
                  clear ha hp
                  refine Reg.Op1.plain rfl ?_
                  have hS : SBx u g ⟨true, s7.begun, s7.op, s7.some, s7.cut⟩ := SBx.keeps' h_6 (Reg.Wr.none r_6 (by decide +kernel) (by decide +kernel) (by decide +kernel)) id
                  refine Mem.store_part _ _ event_agg _ _ g 1 _ (evCells e) (Reg.eval_of e67) (Reg.eval_of e63) hS (evCells_length _) (show 21 ≤ 32 by decide) (ev_one _) ?_
                  intro w' hb hk hs'
                  exact ⟨rfl, hK undef _ hb (Reg.Wr.does2 hk)⟩
                · intro val ac u hR hp ha K hK      -- 10: t68 := Op.nilCheck t62
                  obtain ⟨w62, h62, r62⟩ := hp 2 (by decide)
                  have e62 : (ac.tmps[62]?).getD undef = .pointer (some ⟨g, 0, none⟩) := (ha 62 (by decide)).trans h62
                  clear h62
                  clear ha hp
                  refine Reg.Op1.plain rfl ?_
                  go_wp2
                  exact ⟨rfl, hK _ _ rfl (Reg.Wr.same _)⟩
                · intro val ac u hR hp ha K hK      -- 11: t69 := Op.fieldAddr 81 t68 3
                  obtain ⟨w68, h68, r68⟩ := hp 10 (by decide)
                  have e68 : (ac.tmps[68]?).getD undef = .pointer (some ⟨g, 0, none⟩) := (ha 68 (by decide)).trans h68
                  clear h68
                  clear ha hp
                  refine Reg.Op1.plain rfl ?_
                  go_wp2
                  exact ⟨rfl, hK _ _ rfl (Reg.Wr.same _)⟩
                · intro val ac u hR hp ha K hK      -- 12: Op.store 4 t69 (const (Value.bool true))
                  obtain ⟨w69, h69, r69⟩ := hp 11 (by decide)
                  have e69 : (ac.tmps[69]?).getD undef = .pointer (some ⟨g, 22, none⟩) := (ha 69 (by decide)).trans h69
                  clear h69
                  obtain ⟨w_9, h_9, r_9⟩ := hp 9 (by decide)
                  clear ha hp
                  refine Reg.Op1.plain rfl ?_
                  have hS : SBx u g ⟨true, e, s7.op, s7.some, s7.cut⟩ := SBx.keeps' h_9 (Reg.Wr.none r_9 (by decide +kernel) (by decide +kernel) (by decide +kernel)) id
                  have x0 := hS.cell (j := 22) rfl
                  have xf := hS.fr
                  go_wp2
                  exact ⟨rfl, hK undef _ (hS.set 22 _) (Reg.Wr.does3 ((Mem.Keeps.refl (fun y => y = g) u).setCell (fun _ => rfl) _))⟩
              intro val u hR H
              obtain ⟨wA, hb1, rA⟩ := H 12 (by decide)
              have hb2 := SBx.keeps' hb1 (Reg.Wr.none rA (by decide +kernel) (by decide +kernel) (by decide +kernel)) id
              have hk1 : Mem.Keeps (fun y => y = g) w6 u := ((Mem.Keeps.refl (fun y => y = g) w6).drew.trans (Reg.Wr.all hR) (fun _ h _ => by rcases h with h | h | h <;> exact h))
              have HM7 := Lib.hid (HM6.out.write hk1 hb2 HM6.out.m.e)
              simp only [List.map_cons, List.map_nil, Reg.lay, Act.put, List.setIfInBounds_toArray, List.set_cons_succ, List.set_cons_zero, Nat.reduceAdd]
              clear hR H hk1 hb1 hb2 rA HM6
              go_wp2
              go_ret
              exact HM7.out.m.done (out := o1) (by
                rw [HS0.out]; unfold evF; rw [HFR.out, HFI.out]
                show begF s e = _
                have h1 := HS7.out
                subst h1
                refine Prod.ext HO1.out ?_
                unfold begF
                rw [HC2.out]) HM7.out.r HM7.out.f
    · go_upto_region 13 with fail
      clear y7 y8
      go_upto_region 14 with (go_at_call 34; (refine (rulesV_any w2 gc g).mono ?_); rintro x w3 ⟨bc, bs, A, rfl, hA, h1, h2, _, _, hA2, hb⟩; have HM3 := Lib.hid (HM.out.below hb); have HA3 := Lib.hid hA; have HC3 := Lib.hid (HM3.out.cx h1 h2); clear hA h1 h2 hA2 hb HM)
      go_loopw [6, 84] (EvRel w3 k s e) (fun _ t _ => 8 - (intOf t).toNat)
      case atStart => exact ⟨⟨0, none, 0, by omega, rfl, rfl, Mem.Own.nil _ _ _, Mem.From.none_ _, Below.refl _ _⟩⟩
      case round =>
        obtain ⟨j, X, cx, hj, rfl, rfl, HX, HF, HB⟩ := hrel.out
        clear hrel
        have hlen := outN_le k s e j
        by_cases hlt : j < 8
        · obtain ⟨⟨G, lb⟩, hG⟩ : ∃ z, (rulesL bc bs)[j]? = some z := ⟨_, List.getElem?_eq_getElem (show j < (rulesL bc bs).length from hlt)⟩
          have HC4 := Lib.hid (HC3.out.below HB.out)
          have HM4 := Lib.hid (HM3.out.below HB.out)
          have hR := rules_tell HC4.out HM4.out.e hn hG
          obtain ⟨eg, hcall⟩ := hR
          have HCALL := Lib.hid hcall
          obtain ⟨bA, oA, hA1, hA2, hA3⟩ : ∃ b o, A = some ⟨b, o, none⟩ ∧ b < w3.heap.size ∧ ∀ j u, ((rulesL bc bs).map funV)[j]? = some u → w3.cell? ⟨b, o + j, none⟩ = some u := by
            rcases HA3.out with h | h
            · cases h
            · exact h
          subst hA1
          have xr : wr.cell? ⟨bA, oA + j, none⟩ = some (.func (.func G) #[] lb) := (HB.out.cell (p := ⟨bA, oA + j, none⟩) hA2).trans (hA3 j _ (by rw [List.getElem?_map, hG]; rfl))
          have d0 : decide ((j : Int) < 8) = true := by simp; omega
          have HEV : Hid (∀ j u, (evCells e)[j]? = some u → wr.cell? ⟨w.heap.size, 0 + j, none⟩ = some u) := VBx.at HM4.out.x
          have HSU := Lib.hid (outN_succ k s e j)
          clear hG hcall hA3
          obtain ⟨ans, hans⟩ : ∃ z, (rulesF k s e).getD j true = z := ⟨_, rfl⟩
          rw [hans] at HSU HCALL
          clear hans
          have q1 : IntKind.i64.wrap ((j : Int) + 2) = (j : Int) + 2 := IntWalk.i64_in _ (by omega)
          cases ans
          · have HS2 : Hid (outN k s e (j + 1) = outN k s e j ++ [(j : Int) + 2]) := by show _ = _; rw [HSU.out]; rfl
            obtain ⟨out, hout⟩ : ∃ z, outN k s e j = z := ⟨_, rfl⟩
            rw [hout] at HX HS2 hlen
            rw [hout]
            clear hout HSU
            have hn63 : out.length + 1 ≤ maxLen := by unfold maxLen; omega
            go_wp2_with (first | ((with_reducible refine Mem.load_agg _ _ event_agg w.heap.size 0 (evCells e) ?hx (evCells_length e) HEV.out ?_); case hx => exact rfl) | (go_at_fn G; refine HCALL.out.mono ?_; rintro x w5 ⟨rfl, hb5⟩; have HB5 := Lib.hid (HB.out.trans (hb5.mono HB.out.size)); have HX5 := Lib.hid (HX.out.below hb5 (fun q hq => HX.out.lt hq)); clear hb5) | (at_builtin; refine Mem.wpList_app _ rfl (.tmp 93) (.tmp 96) _ rfl ints_elem X out.length cx _ rfl (w5.heap.size + 1) (some ⟨w5.heap.size, 0, none⟩) 1 1 [.int .i64 ((j : Int) + 2)] rfl ?_ (HX5.out.alloc _) (Mem.Rd.alloc_new w5 _ _ _ rfl) rfl (by simp [Value.oneCell']) hn63 (by omega); intro X2 c2 w6 hown hg4 hat; have HO6 := Lib.hid hown; have hs4 := hg4.size; have HB6 : Hid (Below w3.heap.size w3 w6) := (HB5.out.alloc HB5.out.size _).grown hg4 (by simp; have := HB5.out.size; omega) (fun q hq => HF.out.blk q hq); have HF6 : Hid (Mem.From w3.heap.size X2) := (by rcases hat with rfl | rfl; exact HF.out; exact Mem.From.some_ (by simp; have := HB5.out.size; omega)); clear hown hg4 hat))
            go_roundw
            case rel => exact ⟨⟨j + 1, X2, c2, by omega, by rw [HS2.out, List.length_append]; rfl, by go_num, Lib.hid (by rw [HS2.out, List.length_append, List.map_append]; exact HO6.out), HF6, HB6⟩⟩
            case measure => simp [intOf]; omega
          · have HS2 : Hid (outN k s e (j + 1) = outN k s e j) := by show _ = _; rw [HSU.out]; rfl
            obtain ⟨out, hout⟩ : ∃ z, outN k s e j = z := ⟨_, rfl⟩
            rw [hout] at HX HS2 hlen
            rw [hout]
            clear hout HSU
            go_wp2_with (first | ((with_reducible refine Mem.load_agg _ _ event_agg w.heap.size 0 (evCells e) ?hx (evCells_length e) HEV.out ?_); case hx => exact rfl) | (go_at_fn G; refine HCALL.out.mono ?_; rintro x w5 ⟨rfl, hb5⟩; have HB5 := Lib.hid (HB.out.trans (hb5.mono HB.out.size)); have HX5 := Lib.hid (HX.out.below hb5 (fun q hq => HX.out.lt hq)); clear hb5))
            go_roundw
            case rel => exact ⟨⟨j + 1, X, cx, by omega, by rw [HS2.out], by go_num, Lib.hid (by rw [HS2.out]; exact HX5.out), HF, HB5⟩⟩
            case measure => simp [intOf]; omega
        · obtain rfl : j = 8 := by omega
          have HX2 : Hid (Mem.Own wr 3 1 X (endF k s e).length cx ((endF k s e).map (Value.int .i64))) := HX.out
          rw [show outN k s e 8 = endF k s e from rfl]
          obtain ⟨out, hout⟩ : ∃ z, endF k s e = z := ⟨_, rfl⟩
          rw [hout] at HX2
          rw [hout]
          have HOUT := Lib.hid hout
          clear hout HX hlen
          have HMO : Hid (MidO w B gc k ss e g s out X wr) := ⟨HM3.out.below HB.out, HX2.out.rd, (fun q hq e => by have h1 := HF.out.blk q hq; have h2 := HM3.out.lt; omega), fun q hq => Nat.le_trans HM3.out.k.size (HF.out.blk q hq)⟩
          go_upto_region 19 with fail
          refine Reg.wp_region_w (by kernel_rfl) 108 10 rfl rfl (by kernel_rfl) (6) (fun y => y = g) (9) (fun y => y = g) (0) (fun _ => False)
            (fun i v u => match i with
              | 0 => v = .pointer (some ⟨g, 0, none⟩)
              | 1 => v = .pointer (some ⟨g, 0, none⟩)
              | 2 => v = .pointer (some ⟨w.heap.size, 11, none⟩)
              | 3 => v = .agg (Vec.vcCells e.cut).toArray
              | 4 => v = .pointer (some ⟨g, 0, none⟩)
              | 5 => v = .pointer (some ⟨g, 0, none⟩)
              | 6 => SBx u g ⟨false, s.begun, s.op, s.some, s.cut⟩
              | 7 => v = .pointer (some ⟨g, 0, none⟩)
              | 8 => v = .pointer (some ⟨g, 23, none⟩)
              | 9 => SBx u g ⟨false, s.begun, s.op, s.some, e.cut⟩
              | _ => True) ?_ ?_
          · refine Reg.Steps.cons ?_ (Reg.Steps.cons ?_ (Reg.Steps.cons ?_ (Reg.Steps.cons ?_ (Reg.Steps.cons ?_ (Reg.Steps.cons ?_ (Reg.Steps.cons ?_ (Reg.Steps.cons ?_ (Reg.Steps.cons ?_ (Reg.Steps.cons ?_ (Reg.Steps.nil _))))))))))
            · intro val ac u hR hp ha K hK      -- 0: t99 := Op.move t5
              have e5 : (ac.tmps[5]?).getD undef = .pointer (some ⟨g, 0, none⟩) := ha 5 (by decide)
              clear ha hp
              refine Reg.Op1.plain rfl ?_
              go_wp2
              exact ⟨rfl, hK _ _ rfl (Reg.Wr.same _)⟩
            · intro val ac u hR hp ha K hK      -- 1: t100 := Op.move t5
              have e5 : (ac.tmps[5]?).getD undef = .pointer (some ⟨g, 0, none⟩) := ha 5 (by decide)
              clear ha hp
              refine Reg.Op1.plain rfl ?_
              go_wp2
              exact ⟨rfl, hK _ _ rfl (Reg.Wr.same _)⟩
            · intro val ac u hR hp ha K hK      -- 2: t101 := Op.fieldAddr 46 t3 8
              have e3 : (ac.tmps[3]?).getD undef = .pointer (some ⟨w.heap.size, 0, none⟩) := ha 3 (by decide)
              clear ha hp
              refine Reg.Op1.plain rfl ?_
              go_wp2
              exact ⟨rfl, hK _ _ rfl (Reg.Wr.same _)⟩
            · intro val ac u hR hp ha K hK      -- 3: t102 := Op.load 33 t101
              obtain ⟨w101, h101, r101⟩ := hp 2 (by decide)
              have e101 : (ac.tmps[101]?).getD undef = .pointer (some ⟨w.heap.size, 11, none⟩) := (ha 101 (by decide)).trans h101
              clear h101
              clear ha hp
              refine Reg.Op1.plain rfl ?_
              have hXu := HMO.out.m.x.keeps ((Mem.Keeps.refl (fun y => y = g) wr).drew.trans (Reg.Wr.all hR) (fun _ h _ => by rcases h with h | h | h <;> first | exact h | exact h.elim)) (fun q => HMO.out.m.gx q.symm)
              refine Mem.load_agg _ _ vec_agg w.heap.size 11 (Vec.vcCells e.cut) (Reg.eval_of e101) (Vec.vcCells_length _) (VBx.cut hXu) ?_
              exact ⟨rfl, hK _ _ rfl (Reg.Wr.same _)⟩
            · intro val ac u hR hp ha K hK      -- 4: t103 := Op.nilCheck t99
              obtain ⟨w99, h99, r99⟩ := hp 0 (by decide)
              have e99 : (ac.tmps[99]?).getD undef = .pointer (some ⟨g, 0, none⟩) := (ha 99 (by decide)).trans h99
              clear h99
              clear ha hp
              refine Reg.Op1.plain rfl ?_
              go_wp2
              exact ⟨rfl, hK _ _ rfl (Reg.Wr.same _)⟩
            · intro val ac u hR hp ha K hK      -- 5: t104 := Op.fieldAddr 81 t103 0
              obtain ⟨w103, h103, r103⟩ := hp 4 (by decide)
              have e103 : (ac.tmps[103]?).getD undef = .pointer (some ⟨g, 0, none⟩) := (ha 103 (by decide)).trans h103
              clear h103
              clear ha hp
              refine Reg.Op1.plain rfl ?_
              go_wp2
              exact ⟨rfl, hK _ _ rfl (Reg.Wr.same _)⟩
            · intro val ac u hR hp ha K hK      -- 6: Op.store 4 t104 (const (Value.bool false))
              obtain ⟨w104, h104, r104⟩ := hp 5 (by decide)
              have e104 : (ac.tmps[104]?).getD undef = .pointer (some ⟨g, 0, none⟩) := (ha 104 (by decide)).trans h104
              clear h104
              clear ha hp
              refine Reg.Op1.plain rfl ?_
              have hS : SBx u g s := SBx.keeps' HMO.out.m.s ((Mem.Keeps.refl (fun _ => False) wr).drew.trans (Reg.Wr.only3 hR (by decide +kernel) (by decide +kernel)) (fun _ h _ => h)) id
              have x0 := hS.cell (j := 0) rfl
              have xf := hS.fr
              go_wp2
              exact ⟨rfl, hK undef _ (hS.set 0 _) (Reg.Wr.does1 ((Mem.Keeps.refl (fun y => y = g) u).setCell (fun _ => rfl) _))⟩
            · intro val ac u hR hp ha K hK      -- 7: t105 := Op.nilCheck t100
              obtain ⟨w100, h100, r100⟩ := hp 1 (by decide)
              have e100 : (ac.tmps[100]?).getD undef = .pointer (some ⟨g, 0, none⟩) := (ha 100 (by decide)).trans h100
              clear h100
              clear ha hp
              refine Reg.Op1.plain rfl ?_
              go_wp2
              exact ⟨rfl, hK _ _ rfl (Reg.Wr.same _)⟩
            · intro val ac u hR hp ha K hK      -- 8: t106 := Op.fieldAddr 81 t105 4
              obtain ⟨w105, h105, r105⟩ := hp 7 (by decide)
              have e105 : (ac.tmps[105]?).getD undef = .pointer (some ⟨g, 0, none⟩) := (ha 105 (by decide)).trans h105
              clear h105
              clear ha hp
              refine Reg.Op1.plain rfl ?_
              go_wp2
              exact ⟨rfl, hK _ _ rfl (Reg.Wr.same _)⟩
            · intro val ac u hR hp ha K hK      -- 9: Op.store 33 t106 t102
              obtain ⟨w106, h106, r106⟩ := hp 8 (by decide)
              have e106 : (ac.tmps[106]?).getD undef = .pointer (some ⟨g, 23, none⟩) := (ha 106 (by decide)).trans h106
              clear h106
              obtain ⟨w102, h102, r102⟩ := hp 3 (by decide)
              have e102 : (ac.tmps[102]?).getD undef = .agg (Vec.vcCells e.cut).toArray := (ha 102 (by decide)).trans h102
              clear h102
              obtain ⟨w_6, h_6, r_6⟩ := hp 6 (by decide)
              clear ha hp
              refine Reg.Op1.plain rfl ?_
              have hS : SBx u g ⟨false, s.begun, s.op, s.some, s.cut⟩ := SBx.keeps' h_6 (Reg.Wr.only3 r_6 (by decide +kernel) (by decide +kernel)) id
              refine Mem.store_part _ _ vec_agg _ _ g 23 _ (Vec.vcCells e.cut) (Reg.eval_of e106) (Reg.eval_of e102) hS (Vec.vcCells_length _) (Nat.le_refl 32) (Vec.vc_one _) ?_
              intro w' hb hk hs'
              exact ⟨rfl, hK undef _ hb (Reg.Wr.does2 hk)⟩
          intro val u hR H
          obtain ⟨wA, hb1, rA⟩ := H 9 (by decide)
          have hb2 := SBx.keeps' hb1 (Reg.Wr.only3 rA (by decide +kernel) (by decide +kernel)) id
          have hk1 : Mem.Keeps (fun y => y = g) wr u := ((Mem.Keeps.refl (fun y => y = g) wr).drew.trans (Reg.Wr.all hR) (fun _ h _ => by rcases h with h | h | h <;> first | exact h | exact h.elim))
          have HM7 := Lib.hid (HMO.out.write hk1 hb2 HMO.out.m.b)
          simp only [List.map_cons, List.map_nil, Reg.lay, Act.put, List.setIfInBounds_toArray, List.set_cons_succ, List.set_cons_zero, Nat.reduceAdd]
          clear hR H hk1 hb1 hb2 rA
          go_wp2
          go_ret
          exact HM7.out.m.done (out := out) (by rw [HS0.out]; unfold evF; rw [HFR.out, HFI.out, ← HOUT.out]; rfl) HM7.out.r HM7.out.f
  · have x0 : w2.cell? ⟨g, 0, none⟩ = some (.bool s.under) := HM.out.s.cell (j := 0) rfl
    have xf := HM.out.s.fr
    go_upto_region 11 with fail
    go_wp2_with ((with_reducible refine Mem.store_part _ _ vec_agg 81 32 g 23 (ssCells ⟨false, s.begun, s.op, s.some, s.cut⟩) (Vec.vcCells Vec.vc0) ?hx ?hy ?hb (Vec.vcCells_length _) ?hle (Vec.vc_one _) ?_); (case hx => exact rfl); (case hy => exact rfl); (case hb => exact HM.out.s.set 0 _); (case hle => exact Nat.le_refl 32); intro w3 hb3 hk3 hs3; have HM3 := Lib.hid (HM.out.write (s' := ⟨false, s.begun, s.op, s.some, Vec.vc0⟩) (((Mem.Keeps.refl (fun y => y = g) w2).setCell (fun _ => rfl) _).trans hk3 (fun _ h _ => h)) hb3 HM.out.b); clear hb3 hk3 hs3)
    go_ret
    exact HM3.out.done (out := []) (by rw [HS0.out]; unfold evF; rw [HFR.out]; rfl) (.inl rfl) (fun q hq => by cases hq)
end Go.Proofs.Ytelephoalpphkaa
