/- The walk of the document's own right writes. No conditions. -/
import Derived.Test.YtfafehffnjbhnaaRefV
import Derived.Test.YtfafehffnjbhnaaRefCh
import Derived.Test.YtfafehffnjbhnaaAgg2
namespace Go.Proofs.Ytfafehffnjbhnaa
open Go.ChangeShapes Go.WideShapes Go.ChangeAt Go.RowKit
set_option linter.unusedVariables false
set_option linter.unusedSimpArgs false
namespace Vec
structure RrAt (w : World) (e : Ent) (wx : World) : Prop where
  E : EBx wx w.heap.size e
  b : Below w.heap.size w wx
theorem RrAt.below {w : World} {e : Ent} {w1 w2 : World} (h : RrAt w e w1) (hb : Below w1.heap.size w1 w2) : RrAt w e w2 :=
  ⟨h.E.below hb h.E.lt, h.b.trans (hb.mono h.b.size)⟩
end Vec
open Vec in
set_option maxRecDepth 20000 in
set_option maxHeartbeats 8000000 in
theorem refRightE_any (e : Vec.Ent) (w : World) :
    Calls Try.prog 45 #[.agg (Vec.entCells e).toArray] w fun x w' => x = .returned (.bool (Vec.rightE e)) ∧ Below w.heap.size w w' := by
  go_enter Try.func45, Try.ntmps45
  go_upto_region 1 with fail
  obtain ⟨w0, hw0⟩ : ∃ w0, w.alloc (.cells (entCells e).toArray 40) = w0 := ⟨_, rfl⟩
  have hE0 : EBx w0 w.heap.size e := by rw [← hw0]; exact EBx.new w e rfl
  have hb0 : Below w.heap.size w w0 := by rw [← hw0]; exact Reg.below_new _ _
  have H0 : Hid (RrAt w e w0) := ⟨hE0, hb0⟩
  have x0 := hE0.cell (j := 0) rfl
  have x1 := hE0.cell (j := 1) rfl
  have x2 := hE0.cell (j := 2) rfl
  rw [hw0]
  clear hw0 hE0 hb0
  go_cut [42] (fun v wx => v = .bool (!(g1 e && g2 e)) ∧ RrAt w e wx)
  case first =>
    go_wp2_with fail
    refine (refChain_any ⟨e.dc, e.rng, e.seq⟩ w0).mono ?_
    rintro x wy ⟨rfl, hbw⟩
    have HN : Hid (RrAt w e wy) := H0.out.below hbw
    clear x0 x1 x2 hbw
    have x0 := HN.out.E.cell (j := 0) rfl
    have x1 := HN.out.E.cell (j := 1) rfl
    have x2 := HN.out.E.cell (j := 2) rfl
    have x3 := HN.out.E.cell (j := 3) rfl
    have x4 := HN.out.E.cell (j := 4) rfl
    have x5 := HN.out.E.cell (j := 5) rfl
    cases hch : Vec.chain e.dc e.rng
    · have hg : (g1 e && g2 e) = false := by simp [g1, hch]
      go_wp2
      go_meet
      case rel => exact ⟨by rw [hg]; rfl, HN.out⟩
    · by_cases h1 : 1 ≤ e.seq
      · have d1 : decide (e.seq < 1) = false := by simp; omega
        by_cases h2 : e.seq ≤ 1099511627776
        · have d2 : decide (1099511627776 < e.seq) = false := by simp; omega
          have hg1 : g1 e = true := by simp [g1, hch, h1, h2]
          clear h1 h2
          go_wp2_with fail
          refine (refRight_any e.st wy).mono ?_
          rintro x wz ⟨rfl, hbz⟩
          have HZ : Hid (RrAt w e wz) := HN.out.below hbz
          clear x0 x1 x2 x3 x4 x5 hbz
          have x0 := HZ.out.E.cell (j := 0) rfl
          have x1 := HZ.out.E.cell (j := 1) rfl
          have x4 := HZ.out.E.cell (j := 4) rfl
          have x5 := HZ.out.E.cell (j := 5) rfl
          cases hst : Stamp.right e.st
          · have hg : (g1 e && g2 e) = false := by simp [g2, hst]
            clear hg1
            go_wp2
            go_meet
            case rel => exact ⟨by rw [hg]; rfl, HZ.out⟩
          · by_cases h3 : e.st.d = e.dc
            · have d3 : (e.st.d != e.dc) = false := by simp [h3]
              by_cases h4 : e.st.r = e.rng
              · have d4 : (e.st.r != e.rng) = false := by simp [h4]
                have hg : (g1 e && g2 e) = true := by simp [hg1, g2, hst, h3, h4]
                clear h3 h4 hg1
                go_wp2
                go_meet
                case rel => exact ⟨by rw [hg]; rfl, HZ.out⟩
              · have d4 : (e.st.r != e.rng) = true := by simp [h4]
                have hg : (g1 e && g2 e) = false := by simp [g2, h4]
                clear h3 h4 hg1
                go_wp2
                go_meet
                case rel => exact ⟨by rw [hg]; rfl, HZ.out⟩
            · have d3 : (e.st.d != e.dc) = true := by simp [h3]
              have hg : (g1 e && g2 e) = false := by simp [g2, h3]
              clear h3 hg1
              go_wp2
              go_meet
              case rel => exact ⟨by rw [hg]; rfl, HZ.out⟩
        · have d2 : decide (1099511627776 < e.seq) = true := by simp; omega
          have hg : (g1 e && g2 e) = false := by simp [g1, h2]
          go_wp2
          go_meet
          case rel => exact ⟨by rw [hg]; rfl, HN.out⟩
      · have d1 : decide (e.seq < 1) = true := by simp; omega
        have hg : (g1 e && g2 e) = false := by simp [g1, h1]
        go_wp2
        go_meet
        case rel => exact ⟨by rw [hg]; rfl, HN.out⟩
  case rest =>
    obtain ⟨rfl, hR1⟩ := hcut
    have H3 := Lib.hid hR1
    clear hR1 H0
    cases hg12 : (g1 e && g2 e)
    · have hr : Vec.rightE e = false := by unfold rightE; rw [← Bool.and_assoc, hg12]; rfl
      go_wp2
      go_ret
      exact ⟨by rw [hr]; rfl, H3.out.b⟩
    · obtain ⟨hg1, hg2⟩ : g1 e = true ∧ g2 e = true := by simpa using hg12
      clear hg12 x0 x1 x2
      go_upto_region 3 with fail
      go_cut [67] (fun v wx => v = .bool (!g3 e) ∧ RrAt w e wx)
      case first =>
        have x6 := H3.out.E.cell (j := 6) rfl
        have x7 := H3.out.E.cell (j := 7) rfl
        have x8 := H3.out.E.cell (j := 8) rfl
        by_cases h1 : 1 ≤ e.key.size
        · have d1 : decide ((e.key.size : Int) < 1) = false := by simp; omega
          by_cases h2 : e.key.size ≤ 16
          · have d2 : decide ((16 : Int) < (e.key.size : Int)) = false := by simp; omega
            by_cases h3 : e.val.size ≤ 32
            · have d3 : decide ((32 : Int) < (e.val.size : Int)) = false := by simp; omega
              cases hdd : e.dead
              · have hg : g3 e = true := by simp [g3, h1, h2, h3, hdd]
                rw [hdd] at x8
                go_wp2
                go_meet
                case rel => exact ⟨by rw [hg]; rfl, H3.out⟩
              · rw [hdd] at x8
                by_cases h4 : e.val.size = 0
                · have hg : g3 e = true := by simp [g3, h1, h2, h3, h4]
                  have hve := size0 h4
                  rw [hve] at x7
                  clear h4
                  go_wp2
                  go_meet
                  case rel => exact ⟨by rw [hg]; rfl, H3.out⟩
                · have hg : g3 e = false := by simp [g3, hdd, h4]
                  have hvn : e.val.toList.isEmpty = false := isEmpty_no h4
                  go_wp2
                  go_meet
                  case rel => exact ⟨by rw [hg]; rfl, H3.out⟩
            · have d3 : decide ((32 : Int) < (e.val.size : Int)) = true := by simp; omega
              have hg : g3 e = false := by simp [g3, h3]
              go_wp2
              go_meet
              case rel => exact ⟨by rw [hg]; rfl, H3.out⟩
          · have d2 : decide ((16 : Int) < (e.key.size : Int)) = true := by simp; omega
            have hg : g3 e = false := by simp [g3, h2]
            go_wp2
            go_meet
            case rel => exact ⟨by rw [hg]; rfl, H3.out⟩
        · have d1 : decide ((e.key.size : Int) < 1) = true := by simp; omega
          have hg : g3 e = false := by simp [g3, h1]
          go_wp2
          go_meet
          case rel => exact ⟨by rw [hg]; rfl, H3.out⟩
      case rest =>
        obtain ⟨rfl, hR1⟩ := hcut
        have H4 := Lib.hid hR1
        clear hR1 H3
        rename World => w9
        cases hg3 : g3 e
        ·
          have hr : Vec.rightE e = false := by simp [Vec.rightE, hg3]
          go_wp2
          go_ret
          exact ⟨by rw [hr]; rfl, H4.out.b⟩
        · obtain ⟨hch, hs1, hs2⟩ : Vec.chain e.dc e.rng = true ∧ 1 ≤ e.seq ∧ e.seq ≤ 1099511627776 := by simpa [g1] using hg1
          obtain ⟨hd3, hd4, hr1, hr2⟩ := (show e.dc.toNat < 3 ∧ (e.dc.toNat : Int) = e.dc ∧ 0 ≤ e.rng ∧ e.rng < 3 by unfold Vec.chain at hch; simp at hch; omega)
          obtain ⟨dn, hdn0⟩ : ∃ dn, e.dc.toNat = dn := ⟨_, rfl⟩
          obtain ⟨rn, hrn0⟩ : ∃ rn, e.rng.toNat = rn := ⟨_, rfl⟩
          have hdn : e.dc = (dn : Int) := by omega
          have hrn : e.rng = (rn : Int) := by omega
          have hr3 : rn < 3 := by omega
          rw [hdn0] at hd3
          obtain ⟨dv, hdv⟩ : ∃ dv, (e.deps.row dn).at rn = dv := ⟨_, rfl⟩
          have hwr : IntKind.i64.wrap (e.seq - 1) = e.seq - 1 := IntWalk.i64_in _ (by omega)
          have hwr2 : wrap64 (e.seq - 1) = e.seq - 1 := IntWalk.wrap64_in _ (by omega)
          clear hch hd4 hr1 hr2
          go_upto_region 5 with fail
          cases hrv : Vec.rightV e.deps
          · have hr : rightE e = false := by simp [rightE, g4, hrv]
            refine Reg.wp_region_rel (by kernel_rfl) 108 41 rfl rfl (by kernel_rfl) (Reg.Adds) (Reg.Adds.refl) (Reg.Adds.trans)
              (fun i v u => match i with
                | 0 => v = .pointer (some ⟨w.heap.size, 9, none⟩)
                | 1 => v = .agg (vcCells e.deps).toArray
                | 2 => v = .bool false
                | 3 => v = .bool false
                | 4 => v = undef
                | 5 => v = undef
                | 6 => v = undef
                | 7 => v = undef
                | 8 => v = undef
                | 9 => v = undef
                | 10 => v = undef
                | 11 => v = undef
                | 12 => v = undef
                | 13 => v = undef
                | 14 => v = undef
                | 15 => v = undef
                | 16 => v = undef
                | 17 => v = undef
                | 18 => v = undef
                | 19 => v = .bool false
                | 20 => v = .bool false
                | 21 => v = undef
                | 22 => v = undef
                | 23 => v = undef
                | 24 => v = .bool false
                | 25 => v = .bool false
                | 26 => v = undef
                | 27 => v = undef
                | 28 => v = undef
                | 29 => v = .bool false
                | 30 => v = .bool false
                | 31 => v = undef
                | 32 => v = undef
                | 33 => v = undef
                | 34 => v = .bool false
                | 35 => v = .bool false
                | 36 => v = undef
                | 37 => v = undef
                | 38 => v = undef
                | 39 => v = .bool false
                | 40 => v = .bool false
                | _ => True) ?_ ?_
            · refine Reg.Steps.cons ?_ (Reg.Steps.cons ?_ (Reg.Steps.cons ?_ (Reg.Steps.cons ?_ (Reg.Steps.cons ?_ (Reg.Steps.cons ?_ (Reg.Steps.cons ?_ (Reg.Steps.cons ?_ (Reg.Steps.cons ?_ (Reg.Steps.cons ?_ (Reg.Steps.cons ?_ (Reg.Steps.cons ?_ (Reg.Steps.cons ?_ (Reg.Steps.cons ?_ (Reg.Steps.cons ?_ (Reg.Steps.cons ?_ (Reg.Steps.cons ?_ (Reg.Steps.cons ?_ (Reg.Steps.cons ?_ (Reg.Steps.cons ?_ (Reg.Steps.cons ?_ (Reg.Steps.cons ?_ (Reg.Steps.cons ?_ (Reg.Steps.cons ?_ (Reg.Steps.cons ?_ (Reg.Steps.cons ?_ (Reg.Steps.cons ?_ (Reg.Steps.cons ?_ (Reg.Steps.cons ?_ (Reg.Steps.cons ?_ (Reg.Steps.cons ?_ (Reg.Steps.cons ?_ (Reg.Steps.cons ?_ (Reg.Steps.cons ?_ (Reg.Steps.cons ?_ (Reg.Steps.cons ?_ (Reg.Steps.cons ?_ (Reg.Steps.cons ?_ (Reg.Steps.cons ?_ (Reg.Steps.cons ?_ (Reg.Steps.cons ?_ (Reg.Steps.nil _)))))))))))))))))))))))))))))))))))))))))
              · intro val ac u hR hp ha K hK
                have e1 : (ac.tmps[1]?).getD undef = .pointer (some ⟨w.heap.size, 0, none⟩) := ha 1 (by decide); clear ha hp
                refine Reg.Op1.plain rfl ?_
                go_wp2
                exact ⟨rfl, hK _ _ rfl (fun j k _ _ => Reg.Adds.refl _ _ _)⟩
              · intro val ac u hR hp ha K hK
                obtain ⟨w68, h68, r68⟩ := hp 0 (by decide); have e68 : (ac.tmps[68]?).getD undef = .pointer (some ⟨w.heap.size, 9, none⟩) := (ha 68 (by decide)).trans h68; clear h68 ha hp
                refine Reg.Op1.plain rfl ?_
                have hEu : EBx u w.heap.size e := Mem.Bx.below (w := w9.drew) H4.out.E hR H4.out.E.lt
                refine Mem.load_agg _ _ vec_agg w.heap.size 9 (vcCells e.deps) (Reg.eval_of e68) (vcCells_length _) (hEu.part 9 rfl) ?_
                exact ⟨rfl, hK _ _ rfl (fun j k _ _ => Reg.Adds.refl _ _ _)⟩
              · intro val ac u hR hp ha K hK
                obtain ⟨w69, h69, r69⟩ := hp 1 (by decide); have e69 : (ac.tmps[69]?).getD undef = .agg (vcCells e.deps).toArray := (ha 69 (by decide)).trans h69; clear h69 ha hp
                refine Reg.Op1.plain rfl ?_
                go_wp2_with fail
                refine (refVRight_any e.deps u).mono ?_
                rintro x w' ⟨rfl, hbw⟩
                rw [hrv]
                go_wp2_with fail
                exact ⟨rfl, hK _ _ rfl (fun j k _ _ => hbw)⟩
              · intro val ac u hR hp ha K hK
                obtain ⟨w70, h70, r70⟩ := hp 2 (by decide); have e70 : (ac.tmps[70]?).getD undef = .bool false := (ha 70 (by decide)).trans h70; clear h70 ha hp
                refine Reg.Op1.plain rfl ?_
                go_wp2
                exact ⟨rfl, hK _ _ rfl (fun j k _ _ => Reg.Adds.refl _ _ _)⟩
              · intro val ac u hR hp ha K hK; obtain ⟨_, h, _⟩ := hp 3 (by decide); exact Reg.Op1.guarded rfl rfl ((ha 71 (by decide)).trans h) (fun h => by cases h) (fun _ => hK _ _ rfl (fun j k _ _ => Reg.Adds.refl _ _ _))
              · intro val ac u hR hp ha K hK; obtain ⟨_, h, _⟩ := hp 3 (by decide); exact Reg.Op1.guarded rfl rfl ((ha 71 (by decide)).trans h) (fun h => by cases h) (fun _ => hK _ _ rfl (fun j k _ _ => Reg.Adds.refl _ _ _))
              · intro val ac u hR hp ha K hK; obtain ⟨_, h, _⟩ := hp 3 (by decide); exact Reg.Op1.guarded rfl rfl ((ha 71 (by decide)).trans h) (fun h => by cases h) (fun _ => hK _ _ rfl (fun j k _ _ => Reg.Adds.refl _ _ _))
              · intro val ac u hR hp ha K hK; obtain ⟨_, h, _⟩ := hp 3 (by decide); exact Reg.Op1.guarded rfl rfl ((ha 71 (by decide)).trans h) (fun h => by cases h) (fun _ => hK _ _ rfl (fun j k _ _ => Reg.Adds.refl _ _ _))
              · intro val ac u hR hp ha K hK; obtain ⟨_, h, _⟩ := hp 3 (by decide); exact Reg.Op1.guarded rfl rfl ((ha 71 (by decide)).trans h) (fun h => by cases h) (fun _ => hK _ _ rfl (fun j k _ _ => Reg.Adds.refl _ _ _))
              · intro val ac u hR hp ha K hK; obtain ⟨_, h, _⟩ := hp 3 (by decide); exact Reg.Op1.guarded rfl rfl ((ha 71 (by decide)).trans h) (fun h => by cases h) (fun _ => hK _ _ rfl (fun j k _ _ => Reg.Adds.refl _ _ _))
              · intro val ac u hR hp ha K hK; obtain ⟨_, h, _⟩ := hp 3 (by decide); exact Reg.Op1.guarded rfl rfl ((ha 71 (by decide)).trans h) (fun h => by cases h) (fun _ => hK _ _ rfl (fun j k _ _ => Reg.Adds.refl _ _ _))
              · intro val ac u hR hp ha K hK; obtain ⟨_, h, _⟩ := hp 3 (by decide); exact Reg.Op1.guarded rfl rfl ((ha 71 (by decide)).trans h) (fun h => by cases h) (fun _ => hK _ _ rfl (fun j k _ _ => Reg.Adds.refl _ _ _))
              · intro val ac u hR hp ha K hK; obtain ⟨_, h, _⟩ := hp 3 (by decide); exact Reg.Op1.guarded rfl rfl ((ha 71 (by decide)).trans h) (fun h => by cases h) (fun _ => hK _ _ rfl (fun j k _ _ => Reg.Adds.refl _ _ _))
              · intro val ac u hR hp ha K hK; obtain ⟨_, h, _⟩ := hp 3 (by decide); exact Reg.Op1.guarded rfl rfl ((ha 71 (by decide)).trans h) (fun h => by cases h) (fun _ => hK _ _ rfl (fun j k _ _ => Reg.Adds.refl _ _ _))
              · intro val ac u hR hp ha K hK; obtain ⟨_, h, _⟩ := hp 3 (by decide); exact Reg.Op1.guarded rfl rfl ((ha 71 (by decide)).trans h) (fun h => by cases h) (fun _ => hK _ _ rfl (fun j k _ _ => Reg.Adds.refl _ _ _))
              · intro val ac u hR hp ha K hK; obtain ⟨_, h, _⟩ := hp 3 (by decide); exact Reg.Op1.guarded rfl rfl ((ha 71 (by decide)).trans h) (fun h => by cases h) (fun _ => hK _ _ rfl (fun j k _ _ => Reg.Adds.refl _ _ _))
              · intro val ac u hR hp ha K hK; obtain ⟨_, h, _⟩ := hp 3 (by decide); exact Reg.Op1.guarded rfl rfl ((ha 71 (by decide)).trans h) (fun h => by cases h) (fun _ => hK _ _ rfl (fun j k _ _ => Reg.Adds.refl _ _ _))
              · intro val ac u hR hp ha K hK; obtain ⟨_, h, _⟩ := hp 3 (by decide); exact Reg.Op1.guarded rfl rfl ((ha 71 (by decide)).trans h) (fun h => by cases h) (fun _ => hK _ _ rfl (fun j k _ _ => Reg.Adds.refl _ _ _))
              · intro val ac u hR hp ha K hK; obtain ⟨_, h, _⟩ := hp 3 (by decide); exact Reg.Op1.guarded rfl rfl ((ha 71 (by decide)).trans h) (fun h => by cases h) (fun _ => hK _ _ rfl (fun j k _ _ => Reg.Adds.refl _ _ _))
              · intro val ac u hR hp ha K hK
                obtain ⟨w71, h71, r71⟩ := hp 3 (by decide); have e71 : (ac.tmps[71]?).getD undef = .bool false := (ha 71 (by decide)).trans h71; obtain ⟨w86, h86, r86⟩ := hp 18 (by decide); have e86 : (ac.tmps[86]?).getD undef = undef := (ha 86 (by decide)).trans h86; clear h71 h86 ha hp
                refine Reg.Op1.plain rfl ?_
                go_wp2
                exact ⟨rfl, hK _ _ rfl (fun j k _ _ => Reg.Adds.refl _ _ _)⟩
              · intro val ac u hR hp ha K hK
                obtain ⟨w87, h87, r87⟩ := hp 19 (by decide); have e87 : (ac.tmps[87]?).getD undef = .bool false := (ha 87 (by decide)).trans h87; clear h87 ha hp
                refine Reg.Op1.plain rfl ?_
                go_wp2
                exact ⟨rfl, hK _ _ rfl (fun j k _ _ => Reg.Adds.refl _ _ _)⟩
              · intro val ac u hR hp ha K hK; obtain ⟨_, h, _⟩ := hp 20 (by decide); exact Reg.Op1.guarded rfl rfl ((ha 88 (by decide)).trans h) (fun h => by cases h) (fun _ => hK _ _ rfl (fun j k _ _ => Reg.Adds.refl _ _ _))
              · intro val ac u hR hp ha K hK; obtain ⟨_, h, _⟩ := hp 20 (by decide); exact Reg.Op1.guarded rfl rfl ((ha 88 (by decide)).trans h) (fun h => by cases h) (fun _ => hK _ _ rfl (fun j k _ _ => Reg.Adds.refl _ _ _))
              · intro val ac u hR hp ha K hK; obtain ⟨_, h, _⟩ := hp 20 (by decide); exact Reg.Op1.guarded rfl rfl ((ha 88 (by decide)).trans h) (fun h => by cases h) (fun _ => hK _ _ rfl (fun j k _ _ => Reg.Adds.refl _ _ _))
              · intro val ac u hR hp ha K hK
                obtain ⟨w88, h88, r88⟩ := hp 20 (by decide); have e88 : (ac.tmps[88]?).getD undef = .bool false := (ha 88 (by decide)).trans h88; obtain ⟨w91, h91, r91⟩ := hp 23 (by decide); have e91 : (ac.tmps[91]?).getD undef = undef := (ha 91 (by decide)).trans h91; clear h88 h91 ha hp
                refine Reg.Op1.plain rfl ?_
                go_wp2
                exact ⟨rfl, hK _ _ rfl (fun j k _ _ => Reg.Adds.refl _ _ _)⟩
              · intro val ac u hR hp ha K hK
                obtain ⟨w92, h92, r92⟩ := hp 24 (by decide); have e92 : (ac.tmps[92]?).getD undef = .bool false := (ha 92 (by decide)).trans h92; clear h92 ha hp
                refine Reg.Op1.plain rfl ?_
                go_wp2
                exact ⟨rfl, hK _ _ rfl (fun j k _ _ => Reg.Adds.refl _ _ _)⟩
              · intro val ac u hR hp ha K hK; obtain ⟨_, h, _⟩ := hp 25 (by decide); exact Reg.Op1.guarded rfl rfl ((ha 93 (by decide)).trans h) (fun h => by cases h) (fun _ => hK _ _ rfl (fun j k _ _ => Reg.Adds.refl _ _ _))
              · intro val ac u hR hp ha K hK; obtain ⟨_, h, _⟩ := hp 25 (by decide); exact Reg.Op1.guarded rfl rfl ((ha 93 (by decide)).trans h) (fun h => by cases h) (fun _ => hK _ _ rfl (fun j k _ _ => Reg.Adds.refl _ _ _))
              · intro val ac u hR hp ha K hK; obtain ⟨_, h, _⟩ := hp 25 (by decide); exact Reg.Op1.guarded rfl rfl ((ha 93 (by decide)).trans h) (fun h => by cases h) (fun _ => hK _ _ rfl (fun j k _ _ => Reg.Adds.refl _ _ _))
              · intro val ac u hR hp ha K hK
                obtain ⟨w93, h93, r93⟩ := hp 25 (by decide); have e93 : (ac.tmps[93]?).getD undef = .bool false := (ha 93 (by decide)).trans h93; obtain ⟨w96, h96, r96⟩ := hp 28 (by decide); have e96 : (ac.tmps[96]?).getD undef = undef := (ha 96 (by decide)).trans h96; clear h93 h96 ha hp
                refine Reg.Op1.plain rfl ?_
                go_wp2
                exact ⟨rfl, hK _ _ rfl (fun j k _ _ => Reg.Adds.refl _ _ _)⟩
              · intro val ac u hR hp ha K hK
                obtain ⟨w97, h97, r97⟩ := hp 29 (by decide); have e97 : (ac.tmps[97]?).getD undef = .bool false := (ha 97 (by decide)).trans h97; clear h97 ha hp
                refine Reg.Op1.plain rfl ?_
                go_wp2
                exact ⟨rfl, hK _ _ rfl (fun j k _ _ => Reg.Adds.refl _ _ _)⟩
              · intro val ac u hR hp ha K hK; obtain ⟨_, h, _⟩ := hp 30 (by decide); exact Reg.Op1.guarded rfl rfl ((ha 98 (by decide)).trans h) (fun h => by cases h) (fun _ => hK _ _ rfl (fun j k _ _ => Reg.Adds.refl _ _ _))
              · intro val ac u hR hp ha K hK; obtain ⟨_, h, _⟩ := hp 30 (by decide); exact Reg.Op1.guarded rfl rfl ((ha 98 (by decide)).trans h) (fun h => by cases h) (fun _ => hK _ _ rfl (fun j k _ _ => Reg.Adds.refl _ _ _))
              · intro val ac u hR hp ha K hK; obtain ⟨_, h, _⟩ := hp 30 (by decide); exact Reg.Op1.guarded rfl rfl ((ha 98 (by decide)).trans h) (fun h => by cases h) (fun _ => hK _ _ rfl (fun j k _ _ => Reg.Adds.refl _ _ _))
              · intro val ac u hR hp ha K hK
                obtain ⟨w98, h98, r98⟩ := hp 30 (by decide); have e98 : (ac.tmps[98]?).getD undef = .bool false := (ha 98 (by decide)).trans h98; obtain ⟨w101, h101, r101⟩ := hp 33 (by decide); have e101 : (ac.tmps[101]?).getD undef = undef := (ha 101 (by decide)).trans h101; clear h98 h101 ha hp
                refine Reg.Op1.plain rfl ?_
                go_wp2
                exact ⟨rfl, hK _ _ rfl (fun j k _ _ => Reg.Adds.refl _ _ _)⟩
              · intro val ac u hR hp ha K hK
                obtain ⟨w102, h102, r102⟩ := hp 34 (by decide); have e102 : (ac.tmps[102]?).getD undef = .bool false := (ha 102 (by decide)).trans h102; clear h102 ha hp
                refine Reg.Op1.plain rfl ?_
                go_wp2
                exact ⟨rfl, hK _ _ rfl (fun j k _ _ => Reg.Adds.refl _ _ _)⟩
              · intro val ac u hR hp ha K hK; obtain ⟨_, h, _⟩ := hp 35 (by decide); exact Reg.Op1.guarded rfl rfl ((ha 103 (by decide)).trans h) (fun h => by cases h) (fun _ => hK _ _ rfl (fun j k _ _ => Reg.Adds.refl _ _ _))
              · intro val ac u hR hp ha K hK; obtain ⟨_, h, _⟩ := hp 35 (by decide); exact Reg.Op1.guarded rfl rfl ((ha 103 (by decide)).trans h) (fun h => by cases h) (fun _ => hK _ _ rfl (fun j k _ _ => Reg.Adds.refl _ _ _))
              · intro val ac u hR hp ha K hK; obtain ⟨_, h, _⟩ := hp 35 (by decide); exact Reg.Op1.guarded rfl rfl ((ha 103 (by decide)).trans h) (fun h => by cases h) (fun _ => hK _ _ rfl (fun j k _ _ => Reg.Adds.refl _ _ _))
              · intro val ac u hR hp ha K hK
                obtain ⟨w103, h103, r103⟩ := hp 35 (by decide); have e103 : (ac.tmps[103]?).getD undef = .bool false := (ha 103 (by decide)).trans h103; obtain ⟨w106, h106, r106⟩ := hp 38 (by decide); have e106 : (ac.tmps[106]?).getD undef = undef := (ha 106 (by decide)).trans h106; clear h103 h106 ha hp
                refine Reg.Op1.plain rfl ?_
                go_wp2
                exact ⟨rfl, hK _ _ rfl (fun j k _ _ => Reg.Adds.refl _ _ _)⟩
              · intro val ac u hR hp ha K hK
                obtain ⟨w107, h107, r107⟩ := hp 39 (by decide); have e107 : (ac.tmps[107]?).getD undef = .bool false := (ha 107 (by decide)).trans h107; clear h107 ha hp
                refine Reg.Op1.plain rfl ?_
                go_wp2
                exact ⟨rfl, hK _ _ rfl (fun j k _ _ => Reg.Adds.refl _ _ _)⟩
            · intro val u hR H
              obtain ⟨_, hv, _⟩ := H 40 (by decide)
              have hv : val 40 = .bool false := hv
              have HN : Hid (RrAt w e u) := H4.out.below ((Below.refl _ w9).drew.trans hR)
              simp only [List.map_cons, List.map_nil, Reg.lay, Act.put, List.setIfInBounds_toArray, List.set_cons_succ, List.set_cons_zero, Nat.reduceAdd, hv]
              clear hR H hv
              go_wp2
              go_ret
              first | exact ⟨rfl, HN.out.b⟩ | exact ⟨by rw [hr]; rfl, HN.out.b⟩
          · by_cases heq : dv = e.seq - 1
            · have hne : (dv == e.seq - 1) = true := by simp [heq]
              have hg4 : g4 e = true := by simp [g4, hrv, hdn0, hrn0, hdv, heq]
              clear heq
              by_cases h1 : 0 ≤ e.cl
              · have d1 : decide (0 ≤ e.cl) = true := by simpa using h1
                by_cases h2 : e.cl < 4
                · have d2 : decide (e.cl < 4) = true := by simpa using h2
                  by_cases h3 : 1 ≤ e.op
                  · have d3 : decide (1 ≤ e.op) = true := by simpa using h3
                    by_cases h4 : e.op ≤ 1099511627776
                    · have d4 : decide (e.op ≤ 1099511627776) = true := by simpa using h4
                      have hr : rightE e = true := by simp [rightE, hg1, hg2, hg3, hg4, g5, h1, h2, h3, h4]
                      clear h1 h2 h3 h4
                      refine Reg.wp_region_rel (by kernel_rfl) 108 41 rfl rfl (by kernel_rfl) (Reg.Adds) (Reg.Adds.refl) (Reg.Adds.trans)
                        (fun i v u => match i with
                          | 0 => v = .pointer (some ⟨w.heap.size, 9, none⟩)
                          | 1 => v = .agg (vcCells e.deps).toArray
                          | 2 => v = .bool true
                          | 3 => v = .bool true
                          | 4 => v = .pointer (some ⟨w.heap.size, 0, none⟩)
                          | 5 => v = .pointer (some ⟨w.heap.size, 0, none⟩)
                          | 6 => v = .int .i64 (dn : Int)
                          | 7 => v = .pointer (some ⟨w.heap.size, 0, none⟩)
                          | 8 => v = .pointer (some ⟨w.heap.size, 1, none⟩)
                          | 9 => v = .int .i64 (rn : Int)
                          | 10 => v = .pointer (some ⟨w.heap.size, 9, none⟩)
                          | 11 => v = .pointer (some ⟨w.heap.size, 9 + dn * 3, none⟩)
                          | 12 => v = .pointer (some ⟨w.heap.size, 9 + dn * 3 + rn, none⟩)
                          | 13 => v = .int .i64 dv
                          | 14 => v = .pointer (some ⟨w.heap.size, 0, none⟩)
                          | 15 => v = .pointer (some ⟨w.heap.size, 2, none⟩)
                          | 16 => v = .int .i64 e.seq
                          | 17 => v = .int .i64 (e.seq - 1)
                          | 18 => v = .bool true
                          | 19 => v = .bool true
                          | 20 => v = .bool true
                          | 21 => v = .pointer (some ⟨w.heap.size, 18, none⟩)
                          | 22 => v = .int .i64 e.cl
                          | 23 => v = .bool true
                          | 24 => v = .bool true
                          | 25 => v = .bool true
                          | 26 => v = .pointer (some ⟨w.heap.size, 18, none⟩)
                          | 27 => v = .int .i64 e.cl
                          | 28 => v = .bool true
                          | 29 => v = .bool true
                          | 30 => v = .bool true
                          | 31 => v = .pointer (some ⟨w.heap.size, 19, none⟩)
                          | 32 => v = .int .i64 e.op
                          | 33 => v = .bool true
                          | 34 => v = .bool true
                          | 35 => v = .bool true
                          | 36 => v = .pointer (some ⟨w.heap.size, 19, none⟩)
                          | 37 => v = .int .i64 e.op
                          | 38 => v = .bool true
                          | 39 => v = .bool true
                          | 40 => v = .bool true
                          | _ => True) ?_ ?_
                      · refine Reg.Steps.cons ?_ (Reg.Steps.cons ?_ (Reg.Steps.cons ?_ (Reg.Steps.cons ?_ (Reg.Steps.cons ?_ (Reg.Steps.cons ?_ (Reg.Steps.cons ?_ (Reg.Steps.cons ?_ (Reg.Steps.cons ?_ (Reg.Steps.cons ?_ (Reg.Steps.cons ?_ (Reg.Steps.cons ?_ (Reg.Steps.cons ?_ (Reg.Steps.cons ?_ (Reg.Steps.cons ?_ (Reg.Steps.cons ?_ (Reg.Steps.cons ?_ (Reg.Steps.cons ?_ (Reg.Steps.cons ?_ (Reg.Steps.cons ?_ (Reg.Steps.cons ?_ (Reg.Steps.cons ?_ (Reg.Steps.cons ?_ (Reg.Steps.cons ?_ (Reg.Steps.cons ?_ (Reg.Steps.cons ?_ (Reg.Steps.cons ?_ (Reg.Steps.cons ?_ (Reg.Steps.cons ?_ (Reg.Steps.cons ?_ (Reg.Steps.cons ?_ (Reg.Steps.cons ?_ (Reg.Steps.cons ?_ (Reg.Steps.cons ?_ (Reg.Steps.cons ?_ (Reg.Steps.cons ?_ (Reg.Steps.cons ?_ (Reg.Steps.cons ?_ (Reg.Steps.cons ?_ (Reg.Steps.cons ?_ (Reg.Steps.cons ?_ (Reg.Steps.nil _)))))))))))))))))))))))))))))))))))))))))
                        · intro val ac u hR hp ha K hK
                          have e1 : (ac.tmps[1]?).getD undef = .pointer (some ⟨w.heap.size, 0, none⟩) := ha 1 (by decide); clear ha hp
                          refine Reg.Op1.plain rfl ?_
                          go_wp2
                          exact ⟨rfl, hK _ _ rfl (fun j k _ _ => Reg.Adds.refl _ _ _)⟩
                        · intro val ac u hR hp ha K hK
                          obtain ⟨w68, h68, r68⟩ := hp 0 (by decide); have e68 : (ac.tmps[68]?).getD undef = .pointer (some ⟨w.heap.size, 9, none⟩) := (ha 68 (by decide)).trans h68; clear h68 ha hp
                          refine Reg.Op1.plain rfl ?_
                          have hEu : EBx u w.heap.size e := Mem.Bx.below (w := w9.drew) H4.out.E hR H4.out.E.lt
                          refine Mem.load_agg _ _ vec_agg w.heap.size 9 (vcCells e.deps) (Reg.eval_of e68) (vcCells_length _) (hEu.part 9 rfl) ?_
                          exact ⟨rfl, hK _ _ rfl (fun j k _ _ => Reg.Adds.refl _ _ _)⟩
                        · intro val ac u hR hp ha K hK
                          obtain ⟨w69, h69, r69⟩ := hp 1 (by decide); have e69 : (ac.tmps[69]?).getD undef = .agg (vcCells e.deps).toArray := (ha 69 (by decide)).trans h69; clear h69 ha hp
                          refine Reg.Op1.plain rfl ?_
                          go_wp2_with fail
                          refine (refVRight_any e.deps u).mono ?_
                          rintro x w' ⟨rfl, hbw⟩
                          rw [hrv]
                          go_wp2_with fail
                          exact ⟨rfl, hK _ _ rfl (fun j k _ _ => hbw)⟩
                        · intro val ac u hR hp ha K hK
                          obtain ⟨w70, h70, r70⟩ := hp 2 (by decide); have e70 : (ac.tmps[70]?).getD undef = .bool true := (ha 70 (by decide)).trans h70; clear h70 ha hp
                          refine Reg.Op1.plain rfl ?_
                          go_wp2
                          exact ⟨rfl, hK _ _ rfl (fun j k _ _ => Reg.Adds.refl _ _ _)⟩
                        · intro val ac u hR hp ha K hK
                          have e1 : (ac.tmps[1]?).getD undef = .pointer (some ⟨w.heap.size, 0, none⟩) := ha 1 (by decide); obtain ⟨w71, h71, r71⟩ := hp 3 (by decide); have e71 : (ac.tmps[71]?).getD undef = .bool true := (ha 71 (by decide)).trans h71; clear h71 ha hp
                          refine Reg.Op1.guarded rfl rfl e71 (fun _ => Reg.Op1.plain rfl ?_) (fun h => absurd rfl h)
                          go_wp2
                          exact ⟨rfl, hK _ _ rfl (fun j k _ _ => Reg.Adds.refl _ _ _)⟩
                        · intro val ac u hR hp ha K hK
                          obtain ⟨w72, h72, r72⟩ := hp 4 (by decide); have e72 : (ac.tmps[72]?).getD undef = .pointer (some ⟨w.heap.size, 0, none⟩) := (ha 72 (by decide)).trans h72; obtain ⟨w71, h71, r71⟩ := hp 3 (by decide); have e71 : (ac.tmps[71]?).getD undef = .bool true := (ha 71 (by decide)).trans h71; clear h72 h71 ha hp
                          refine Reg.Op1.guarded rfl rfl e71 (fun _ => Reg.Op1.plain rfl ?_) (fun h => absurd rfl h)
                          go_wp2
                          exact ⟨rfl, hK _ _ rfl (fun j k _ _ => Reg.Adds.refl _ _ _)⟩
                        · intro val ac u hR hp ha K hK
                          obtain ⟨w73, h73, r73⟩ := hp 5 (by decide); have e73 : (ac.tmps[73]?).getD undef = .pointer (some ⟨w.heap.size, 0, none⟩) := (ha 73 (by decide)).trans h73; obtain ⟨w71, h71, r71⟩ := hp 3 (by decide); have e71 : (ac.tmps[71]?).getD undef = .bool true := (ha 71 (by decide)).trans h71; clear h73 h71 ha hp
                          refine Reg.Op1.guarded rfl rfl e71 (fun _ => Reg.Op1.plain rfl ?_) (fun h => absurd rfl h)
                          have x0 := (hR.cell (p := ⟨w.heap.size, 0, none⟩) H4.out.E.lt).trans (H4.out.E.cell (j := 0) rfl)
                          rw [hdn] at x0
                          go_wp2
                          exact ⟨rfl, hK _ _ rfl (fun j k _ _ => Reg.Adds.refl _ _ _)⟩
                        · intro val ac u hR hp ha K hK
                          have e1 : (ac.tmps[1]?).getD undef = .pointer (some ⟨w.heap.size, 0, none⟩) := ha 1 (by decide); obtain ⟨w71, h71, r71⟩ := hp 3 (by decide); have e71 : (ac.tmps[71]?).getD undef = .bool true := (ha 71 (by decide)).trans h71; clear h71 ha hp
                          refine Reg.Op1.guarded rfl rfl e71 (fun _ => Reg.Op1.plain rfl ?_) (fun h => absurd rfl h)
                          go_wp2
                          exact ⟨rfl, hK _ _ rfl (fun j k _ _ => Reg.Adds.refl _ _ _)⟩
                        · intro val ac u hR hp ha K hK
                          obtain ⟨w75, h75, r75⟩ := hp 7 (by decide); have e75 : (ac.tmps[75]?).getD undef = .pointer (some ⟨w.heap.size, 0, none⟩) := (ha 75 (by decide)).trans h75; obtain ⟨w71, h71, r71⟩ := hp 3 (by decide); have e71 : (ac.tmps[71]?).getD undef = .bool true := (ha 71 (by decide)).trans h71; clear h75 h71 ha hp
                          refine Reg.Op1.guarded rfl rfl e71 (fun _ => Reg.Op1.plain rfl ?_) (fun h => absurd rfl h)
                          go_wp2
                          exact ⟨rfl, hK _ _ rfl (fun j k _ _ => Reg.Adds.refl _ _ _)⟩
                        · intro val ac u hR hp ha K hK
                          obtain ⟨w76, h76, r76⟩ := hp 8 (by decide); have e76 : (ac.tmps[76]?).getD undef = .pointer (some ⟨w.heap.size, 1, none⟩) := (ha 76 (by decide)).trans h76; obtain ⟨w71, h71, r71⟩ := hp 3 (by decide); have e71 : (ac.tmps[71]?).getD undef = .bool true := (ha 71 (by decide)).trans h71; clear h76 h71 ha hp
                          refine Reg.Op1.guarded rfl rfl e71 (fun _ => Reg.Op1.plain rfl ?_) (fun h => absurd rfl h)
                          have x0 := (hR.cell (p := ⟨w.heap.size, 1, none⟩) H4.out.E.lt).trans (H4.out.E.cell (j := 1) rfl)
                          rw [hrn] at x0
                          go_wp2
                          exact ⟨rfl, hK _ _ rfl (fun j k _ _ => Reg.Adds.refl _ _ _)⟩
                        · intro val ac u hR hp ha K hK
                          have e1 : (ac.tmps[1]?).getD undef = .pointer (some ⟨w.heap.size, 0, none⟩) := ha 1 (by decide); obtain ⟨w71, h71, r71⟩ := hp 3 (by decide); have e71 : (ac.tmps[71]?).getD undef = .bool true := (ha 71 (by decide)).trans h71; clear h71 ha hp
                          refine Reg.Op1.guarded rfl rfl e71 (fun _ => Reg.Op1.plain rfl ?_) (fun h => absurd rfl h)
                          go_wp2
                          exact ⟨rfl, hK _ _ rfl (fun j k _ _ => Reg.Adds.refl _ _ _)⟩
                        · intro val ac u hR hp ha K hK
                          obtain ⟨w78, h78, r78⟩ := hp 10 (by decide); have e78 : (ac.tmps[78]?).getD undef = .pointer (some ⟨w.heap.size, 9, none⟩) := (ha 78 (by decide)).trans h78; obtain ⟨w74, h74, r74⟩ := hp 6 (by decide); have e74 : (ac.tmps[74]?).getD undef = .int .i64 (dn : Int) := (ha 74 (by decide)).trans h74; obtain ⟨w71, h71, r71⟩ := hp 3 (by decide); have e71 : (ac.tmps[71]?).getD undef = .bool true := (ha 71 (by decide)).trans h71; clear h78 h74 h71 ha hp
                          refine Reg.Op1.guarded rfl rfl e71 (fun _ => Reg.Op1.plain rfl ?_) (fun h => absurd rfl h)
                          go_wp2
                          exact ⟨rfl, hK _ _ rfl (fun j k _ _ => Reg.Adds.refl _ _ _)⟩
                        · intro val ac u hR hp ha K hK
                          obtain ⟨w79, h79, r79⟩ := hp 11 (by decide); have e79 : (ac.tmps[79]?).getD undef = .pointer (some ⟨w.heap.size, 9 + dn * 3, none⟩) := (ha 79 (by decide)).trans h79; obtain ⟨w77, h77, r77⟩ := hp 9 (by decide); have e77 : (ac.tmps[77]?).getD undef = .int .i64 (rn : Int) := (ha 77 (by decide)).trans h77; obtain ⟨w71, h71, r71⟩ := hp 3 (by decide); have e71 : (ac.tmps[71]?).getD undef = .bool true := (ha 71 (by decide)).trans h71; clear h79 h77 h71 ha hp
                          refine Reg.Op1.guarded rfl rfl e71 (fun _ => Reg.Op1.plain rfl ?_) (fun h => absurd rfl h)
                          go_wp2
                          exact ⟨rfl, hK _ _ rfl (fun j k _ _ => Reg.Adds.refl _ _ _)⟩
                        · intro val ac u hR hp ha K hK
                          obtain ⟨w80, h80, r80⟩ := hp 12 (by decide); have e80 : (ac.tmps[80]?).getD undef = .pointer (some ⟨w.heap.size, 9 + dn * 3 + rn, none⟩) := (ha 80 (by decide)).trans h80; obtain ⟨w71, h71, r71⟩ := hp 3 (by decide); have e71 : (ac.tmps[71]?).getD undef = .bool true := (ha 71 (by decide)).trans h71; clear h80 h71 ha hp
                          refine Reg.Op1.guarded rfl rfl e71 (fun _ => Reg.Op1.plain rfl ?_) (fun h => absurd rfl h)
                          have x0 := (hR.cell (p := ⟨w.heap.size, 9 + dn * 3 + rn, none⟩) H4.out.E.lt).trans (H4.out.E.cell (j := 9 + dn * 3 + rn) (deps_cell e hd3 hr3))
                          rw [hdv] at x0
                          go_wp2
                          exact ⟨rfl, hK _ _ rfl (fun j k _ _ => Reg.Adds.refl _ _ _)⟩
                        · intro val ac u hR hp ha K hK
                          have e1 : (ac.tmps[1]?).getD undef = .pointer (some ⟨w.heap.size, 0, none⟩) := ha 1 (by decide); obtain ⟨w71, h71, r71⟩ := hp 3 (by decide); have e71 : (ac.tmps[71]?).getD undef = .bool true := (ha 71 (by decide)).trans h71; clear h71 ha hp
                          refine Reg.Op1.guarded rfl rfl e71 (fun _ => Reg.Op1.plain rfl ?_) (fun h => absurd rfl h)
                          go_wp2
                          exact ⟨rfl, hK _ _ rfl (fun j k _ _ => Reg.Adds.refl _ _ _)⟩
                        · intro val ac u hR hp ha K hK
                          obtain ⟨w82, h82, r82⟩ := hp 14 (by decide); have e82 : (ac.tmps[82]?).getD undef = .pointer (some ⟨w.heap.size, 0, none⟩) := (ha 82 (by decide)).trans h82; obtain ⟨w71, h71, r71⟩ := hp 3 (by decide); have e71 : (ac.tmps[71]?).getD undef = .bool true := (ha 71 (by decide)).trans h71; clear h82 h71 ha hp
                          refine Reg.Op1.guarded rfl rfl e71 (fun _ => Reg.Op1.plain rfl ?_) (fun h => absurd rfl h)
                          go_wp2
                          exact ⟨rfl, hK _ _ rfl (fun j k _ _ => Reg.Adds.refl _ _ _)⟩
                        · intro val ac u hR hp ha K hK
                          obtain ⟨w83, h83, r83⟩ := hp 15 (by decide); have e83 : (ac.tmps[83]?).getD undef = .pointer (some ⟨w.heap.size, 2, none⟩) := (ha 83 (by decide)).trans h83; obtain ⟨w71, h71, r71⟩ := hp 3 (by decide); have e71 : (ac.tmps[71]?).getD undef = .bool true := (ha 71 (by decide)).trans h71; clear h83 h71 ha hp
                          refine Reg.Op1.guarded rfl rfl e71 (fun _ => Reg.Op1.plain rfl ?_) (fun h => absurd rfl h)
                          have x0 := (hR.cell (p := ⟨w.heap.size, 2, none⟩) H4.out.E.lt).trans (H4.out.E.cell (j := 2) rfl)
                          go_wp2
                          exact ⟨rfl, hK _ _ rfl (fun j k _ _ => Reg.Adds.refl _ _ _)⟩
                        · intro val ac u hR hp ha K hK
                          obtain ⟨w84, h84, r84⟩ := hp 16 (by decide); have e84 : (ac.tmps[84]?).getD undef = .int .i64 e.seq := (ha 84 (by decide)).trans h84; obtain ⟨w71, h71, r71⟩ := hp 3 (by decide); have e71 : (ac.tmps[71]?).getD undef = .bool true := (ha 71 (by decide)).trans h71; clear h84 h71 ha hp
                          refine Reg.Op1.guarded rfl rfl e71 (fun _ => Reg.Op1.plain rfl ?_) (fun h => absurd rfl h)
                          go_wp2
                          exact ⟨rfl, hK _ _ rfl (fun j k _ _ => Reg.Adds.refl _ _ _)⟩
                        · intro val ac u hR hp ha K hK
                          obtain ⟨w81, h81, r81⟩ := hp 13 (by decide); have e81 : (ac.tmps[81]?).getD undef = .int .i64 dv := (ha 81 (by decide)).trans h81; obtain ⟨w85, h85, r85⟩ := hp 17 (by decide); have e85 : (ac.tmps[85]?).getD undef = .int .i64 (e.seq - 1) := (ha 85 (by decide)).trans h85; obtain ⟨w71, h71, r71⟩ := hp 3 (by decide); have e71 : (ac.tmps[71]?).getD undef = .bool true := (ha 71 (by decide)).trans h71; clear h81 h85 h71 ha hp
                          refine Reg.Op1.guarded rfl rfl e71 (fun _ => Reg.Op1.plain rfl ?_) (fun h => absurd rfl h)
                          go_wp2
                          exact ⟨rfl, hK _ _ rfl (fun j k _ _ => Reg.Adds.refl _ _ _)⟩
                        · intro val ac u hR hp ha K hK
                          obtain ⟨w71, h71, r71⟩ := hp 3 (by decide); have e71 : (ac.tmps[71]?).getD undef = .bool true := (ha 71 (by decide)).trans h71; obtain ⟨w86, h86, r86⟩ := hp 18 (by decide); have e86 : (ac.tmps[86]?).getD undef = .bool true := (ha 86 (by decide)).trans h86; clear h71 h86 ha hp
                          refine Reg.Op1.plain rfl ?_
                          go_wp2
                          exact ⟨rfl, hK _ _ rfl (fun j k _ _ => Reg.Adds.refl _ _ _)⟩
                        · intro val ac u hR hp ha K hK
                          obtain ⟨w87, h87, r87⟩ := hp 19 (by decide); have e87 : (ac.tmps[87]?).getD undef = .bool true := (ha 87 (by decide)).trans h87; clear h87 ha hp
                          refine Reg.Op1.plain rfl ?_
                          go_wp2
                          exact ⟨rfl, hK _ _ rfl (fun j k _ _ => Reg.Adds.refl _ _ _)⟩
                        · intro val ac u hR hp ha K hK
                          have e1 : (ac.tmps[1]?).getD undef = .pointer (some ⟨w.heap.size, 0, none⟩) := ha 1 (by decide); obtain ⟨w88, h88, r88⟩ := hp 20 (by decide); have e88 : (ac.tmps[88]?).getD undef = .bool true := (ha 88 (by decide)).trans h88; clear h88 ha hp
                          refine Reg.Op1.guarded rfl rfl e88 (fun _ => Reg.Op1.plain rfl ?_) (fun h => absurd rfl h)
                          go_wp2
                          exact ⟨rfl, hK _ _ rfl (fun j k _ _ => Reg.Adds.refl _ _ _)⟩
                        · intro val ac u hR hp ha K hK
                          obtain ⟨w89, h89, r89⟩ := hp 21 (by decide); have e89 : (ac.tmps[89]?).getD undef = .pointer (some ⟨w.heap.size, 18, none⟩) := (ha 89 (by decide)).trans h89; obtain ⟨w88, h88, r88⟩ := hp 20 (by decide); have e88 : (ac.tmps[88]?).getD undef = .bool true := (ha 88 (by decide)).trans h88; clear h89 h88 ha hp
                          refine Reg.Op1.guarded rfl rfl e88 (fun _ => Reg.Op1.plain rfl ?_) (fun h => absurd rfl h)
                          have x0 := (hR.cell (p := ⟨w.heap.size, 18, none⟩) H4.out.E.lt).trans (H4.out.E.cell (j := 18) rfl)
                          go_wp2
                          exact ⟨rfl, hK _ _ rfl (fun j k _ _ => Reg.Adds.refl _ _ _)⟩
                        · intro val ac u hR hp ha K hK
                          obtain ⟨w90, h90, r90⟩ := hp 22 (by decide); have e90 : (ac.tmps[90]?).getD undef = .int .i64 e.cl := (ha 90 (by decide)).trans h90; obtain ⟨w88, h88, r88⟩ := hp 20 (by decide); have e88 : (ac.tmps[88]?).getD undef = .bool true := (ha 88 (by decide)).trans h88; clear h90 h88 ha hp
                          refine Reg.Op1.guarded rfl rfl e88 (fun _ => Reg.Op1.plain rfl ?_) (fun h => absurd rfl h)
                          go_wp2
                          exact ⟨rfl, hK _ _ rfl (fun j k _ _ => Reg.Adds.refl _ _ _)⟩
                        · intro val ac u hR hp ha K hK
                          obtain ⟨w88, h88, r88⟩ := hp 20 (by decide); have e88 : (ac.tmps[88]?).getD undef = .bool true := (ha 88 (by decide)).trans h88; obtain ⟨w91, h91, r91⟩ := hp 23 (by decide); have e91 : (ac.tmps[91]?).getD undef = .bool true := (ha 91 (by decide)).trans h91; clear h88 h91 ha hp
                          refine Reg.Op1.plain rfl ?_
                          go_wp2
                          exact ⟨rfl, hK _ _ rfl (fun j k _ _ => Reg.Adds.refl _ _ _)⟩
                        · intro val ac u hR hp ha K hK
                          obtain ⟨w92, h92, r92⟩ := hp 24 (by decide); have e92 : (ac.tmps[92]?).getD undef = .bool true := (ha 92 (by decide)).trans h92; clear h92 ha hp
                          refine Reg.Op1.plain rfl ?_
                          go_wp2
                          exact ⟨rfl, hK _ _ rfl (fun j k _ _ => Reg.Adds.refl _ _ _)⟩
                        · intro val ac u hR hp ha K hK
                          have e1 : (ac.tmps[1]?).getD undef = .pointer (some ⟨w.heap.size, 0, none⟩) := ha 1 (by decide); obtain ⟨w93, h93, r93⟩ := hp 25 (by decide); have e93 : (ac.tmps[93]?).getD undef = .bool true := (ha 93 (by decide)).trans h93; clear h93 ha hp
                          refine Reg.Op1.guarded rfl rfl e93 (fun _ => Reg.Op1.plain rfl ?_) (fun h => absurd rfl h)
                          go_wp2
                          exact ⟨rfl, hK _ _ rfl (fun j k _ _ => Reg.Adds.refl _ _ _)⟩
                        · intro val ac u hR hp ha K hK
                          obtain ⟨w94, h94, r94⟩ := hp 26 (by decide); have e94 : (ac.tmps[94]?).getD undef = .pointer (some ⟨w.heap.size, 18, none⟩) := (ha 94 (by decide)).trans h94; obtain ⟨w93, h93, r93⟩ := hp 25 (by decide); have e93 : (ac.tmps[93]?).getD undef = .bool true := (ha 93 (by decide)).trans h93; clear h94 h93 ha hp
                          refine Reg.Op1.guarded rfl rfl e93 (fun _ => Reg.Op1.plain rfl ?_) (fun h => absurd rfl h)
                          have x0 := (hR.cell (p := ⟨w.heap.size, 18, none⟩) H4.out.E.lt).trans (H4.out.E.cell (j := 18) rfl)
                          go_wp2
                          exact ⟨rfl, hK _ _ rfl (fun j k _ _ => Reg.Adds.refl _ _ _)⟩
                        · intro val ac u hR hp ha K hK
                          obtain ⟨w95, h95, r95⟩ := hp 27 (by decide); have e95 : (ac.tmps[95]?).getD undef = .int .i64 e.cl := (ha 95 (by decide)).trans h95; obtain ⟨w93, h93, r93⟩ := hp 25 (by decide); have e93 : (ac.tmps[93]?).getD undef = .bool true := (ha 93 (by decide)).trans h93; clear h95 h93 ha hp
                          refine Reg.Op1.guarded rfl rfl e93 (fun _ => Reg.Op1.plain rfl ?_) (fun h => absurd rfl h)
                          go_wp2
                          exact ⟨rfl, hK _ _ rfl (fun j k _ _ => Reg.Adds.refl _ _ _)⟩
                        · intro val ac u hR hp ha K hK
                          obtain ⟨w93, h93, r93⟩ := hp 25 (by decide); have e93 : (ac.tmps[93]?).getD undef = .bool true := (ha 93 (by decide)).trans h93; obtain ⟨w96, h96, r96⟩ := hp 28 (by decide); have e96 : (ac.tmps[96]?).getD undef = .bool true := (ha 96 (by decide)).trans h96; clear h93 h96 ha hp
                          refine Reg.Op1.plain rfl ?_
                          go_wp2
                          exact ⟨rfl, hK _ _ rfl (fun j k _ _ => Reg.Adds.refl _ _ _)⟩
                        · intro val ac u hR hp ha K hK
                          obtain ⟨w97, h97, r97⟩ := hp 29 (by decide); have e97 : (ac.tmps[97]?).getD undef = .bool true := (ha 97 (by decide)).trans h97; clear h97 ha hp
                          refine Reg.Op1.plain rfl ?_
                          go_wp2
                          exact ⟨rfl, hK _ _ rfl (fun j k _ _ => Reg.Adds.refl _ _ _)⟩
                        · intro val ac u hR hp ha K hK
                          have e1 : (ac.tmps[1]?).getD undef = .pointer (some ⟨w.heap.size, 0, none⟩) := ha 1 (by decide); obtain ⟨w98, h98, r98⟩ := hp 30 (by decide); have e98 : (ac.tmps[98]?).getD undef = .bool true := (ha 98 (by decide)).trans h98; clear h98 ha hp
                          refine Reg.Op1.guarded rfl rfl e98 (fun _ => Reg.Op1.plain rfl ?_) (fun h => absurd rfl h)
                          go_wp2
                          exact ⟨rfl, hK _ _ rfl (fun j k _ _ => Reg.Adds.refl _ _ _)⟩
                        · intro val ac u hR hp ha K hK
                          obtain ⟨w99, h99, r99⟩ := hp 31 (by decide); have e99 : (ac.tmps[99]?).getD undef = .pointer (some ⟨w.heap.size, 19, none⟩) := (ha 99 (by decide)).trans h99; obtain ⟨w98, h98, r98⟩ := hp 30 (by decide); have e98 : (ac.tmps[98]?).getD undef = .bool true := (ha 98 (by decide)).trans h98; clear h99 h98 ha hp
                          refine Reg.Op1.guarded rfl rfl e98 (fun _ => Reg.Op1.plain rfl ?_) (fun h => absurd rfl h)
                          have x0 := (hR.cell (p := ⟨w.heap.size, 19, none⟩) H4.out.E.lt).trans (H4.out.E.cell (j := 19) rfl)
                          go_wp2
                          exact ⟨rfl, hK _ _ rfl (fun j k _ _ => Reg.Adds.refl _ _ _)⟩
                        · intro val ac u hR hp ha K hK
                          obtain ⟨w100, h100, r100⟩ := hp 32 (by decide); have e100 : (ac.tmps[100]?).getD undef = .int .i64 e.op := (ha 100 (by decide)).trans h100; obtain ⟨w98, h98, r98⟩ := hp 30 (by decide); have e98 : (ac.tmps[98]?).getD undef = .bool true := (ha 98 (by decide)).trans h98; clear h100 h98 ha hp
                          refine Reg.Op1.guarded rfl rfl e98 (fun _ => Reg.Op1.plain rfl ?_) (fun h => absurd rfl h)
                          go_wp2
                          exact ⟨rfl, hK _ _ rfl (fun j k _ _ => Reg.Adds.refl _ _ _)⟩
                        · intro val ac u hR hp ha K hK
                          obtain ⟨w98, h98, r98⟩ := hp 30 (by decide); have e98 : (ac.tmps[98]?).getD undef = .bool true := (ha 98 (by decide)).trans h98; obtain ⟨w101, h101, r101⟩ := hp 33 (by decide); have e101 : (ac.tmps[101]?).getD undef = .bool true := (ha 101 (by decide)).trans h101; clear h98 h101 ha hp
                          refine Reg.Op1.plain rfl ?_
                          go_wp2
                          exact ⟨rfl, hK _ _ rfl (fun j k _ _ => Reg.Adds.refl _ _ _)⟩
                        · intro val ac u hR hp ha K hK
                          obtain ⟨w102, h102, r102⟩ := hp 34 (by decide); have e102 : (ac.tmps[102]?).getD undef = .bool true := (ha 102 (by decide)).trans h102; clear h102 ha hp
                          refine Reg.Op1.plain rfl ?_
                          go_wp2
                          exact ⟨rfl, hK _ _ rfl (fun j k _ _ => Reg.Adds.refl _ _ _)⟩
                        · intro val ac u hR hp ha K hK
                          have e1 : (ac.tmps[1]?).getD undef = .pointer (some ⟨w.heap.size, 0, none⟩) := ha 1 (by decide); obtain ⟨w103, h103, r103⟩ := hp 35 (by decide); have e103 : (ac.tmps[103]?).getD undef = .bool true := (ha 103 (by decide)).trans h103; clear h103 ha hp
                          refine Reg.Op1.guarded rfl rfl e103 (fun _ => Reg.Op1.plain rfl ?_) (fun h => absurd rfl h)
                          go_wp2
                          exact ⟨rfl, hK _ _ rfl (fun j k _ _ => Reg.Adds.refl _ _ _)⟩
                        · intro val ac u hR hp ha K hK
                          obtain ⟨w104, h104, r104⟩ := hp 36 (by decide); have e104 : (ac.tmps[104]?).getD undef = .pointer (some ⟨w.heap.size, 19, none⟩) := (ha 104 (by decide)).trans h104; obtain ⟨w103, h103, r103⟩ := hp 35 (by decide); have e103 : (ac.tmps[103]?).getD undef = .bool true := (ha 103 (by decide)).trans h103; clear h104 h103 ha hp
                          refine Reg.Op1.guarded rfl rfl e103 (fun _ => Reg.Op1.plain rfl ?_) (fun h => absurd rfl h)
                          have x0 := (hR.cell (p := ⟨w.heap.size, 19, none⟩) H4.out.E.lt).trans (H4.out.E.cell (j := 19) rfl)
                          go_wp2
                          exact ⟨rfl, hK _ _ rfl (fun j k _ _ => Reg.Adds.refl _ _ _)⟩
                        · intro val ac u hR hp ha K hK
                          obtain ⟨w105, h105, r105⟩ := hp 37 (by decide); have e105 : (ac.tmps[105]?).getD undef = .int .i64 e.op := (ha 105 (by decide)).trans h105; obtain ⟨w103, h103, r103⟩ := hp 35 (by decide); have e103 : (ac.tmps[103]?).getD undef = .bool true := (ha 103 (by decide)).trans h103; clear h105 h103 ha hp
                          refine Reg.Op1.guarded rfl rfl e103 (fun _ => Reg.Op1.plain rfl ?_) (fun h => absurd rfl h)
                          go_wp2
                          exact ⟨rfl, hK _ _ rfl (fun j k _ _ => Reg.Adds.refl _ _ _)⟩
                        · intro val ac u hR hp ha K hK
                          obtain ⟨w103, h103, r103⟩ := hp 35 (by decide); have e103 : (ac.tmps[103]?).getD undef = .bool true := (ha 103 (by decide)).trans h103; obtain ⟨w106, h106, r106⟩ := hp 38 (by decide); have e106 : (ac.tmps[106]?).getD undef = .bool true := (ha 106 (by decide)).trans h106; clear h103 h106 ha hp
                          refine Reg.Op1.plain rfl ?_
                          go_wp2
                          exact ⟨rfl, hK _ _ rfl (fun j k _ _ => Reg.Adds.refl _ _ _)⟩
                        · intro val ac u hR hp ha K hK
                          obtain ⟨w107, h107, r107⟩ := hp 39 (by decide); have e107 : (ac.tmps[107]?).getD undef = .bool true := (ha 107 (by decide)).trans h107; clear h107 ha hp
                          refine Reg.Op1.plain rfl ?_
                          go_wp2
                          exact ⟨rfl, hK _ _ rfl (fun j k _ _ => Reg.Adds.refl _ _ _)⟩
                      · intro val u hR H
                        obtain ⟨_, hv, _⟩ := H 40 (by decide)
                        have hv : val 40 = .bool true := hv
                        have HN : Hid (RrAt w e u) := H4.out.below ((Below.refl _ w9).drew.trans hR)
                        simp only [List.map_cons, List.map_nil, Reg.lay, Act.put, List.setIfInBounds_toArray, List.set_cons_succ, List.set_cons_zero, Nat.reduceAdd, hv]
                        clear hR H hv
                        go_wp2
                        go_ret
                        first | exact ⟨rfl, HN.out.b⟩ | exact ⟨by rw [hr]; rfl, HN.out.b⟩
                    · have d4 : decide (e.op ≤ 1099511627776) = false := by simpa using h4
                      have hr : rightE e = false := by simp [rightE, g5, h4]
                      clear h1 h2 h3 h4
                      refine Reg.wp_region_rel (by kernel_rfl) 108 41 rfl rfl (by kernel_rfl) (Reg.Adds) (Reg.Adds.refl) (Reg.Adds.trans)
                        (fun i v u => match i with
                          | 0 => v = .pointer (some ⟨w.heap.size, 9, none⟩)
                          | 1 => v = .agg (vcCells e.deps).toArray
                          | 2 => v = .bool true
                          | 3 => v = .bool true
                          | 4 => v = .pointer (some ⟨w.heap.size, 0, none⟩)
                          | 5 => v = .pointer (some ⟨w.heap.size, 0, none⟩)
                          | 6 => v = .int .i64 (dn : Int)
                          | 7 => v = .pointer (some ⟨w.heap.size, 0, none⟩)
                          | 8 => v = .pointer (some ⟨w.heap.size, 1, none⟩)
                          | 9 => v = .int .i64 (rn : Int)
                          | 10 => v = .pointer (some ⟨w.heap.size, 9, none⟩)
                          | 11 => v = .pointer (some ⟨w.heap.size, 9 + dn * 3, none⟩)
                          | 12 => v = .pointer (some ⟨w.heap.size, 9 + dn * 3 + rn, none⟩)
                          | 13 => v = .int .i64 dv
                          | 14 => v = .pointer (some ⟨w.heap.size, 0, none⟩)
                          | 15 => v = .pointer (some ⟨w.heap.size, 2, none⟩)
                          | 16 => v = .int .i64 e.seq
                          | 17 => v = .int .i64 (e.seq - 1)
                          | 18 => v = .bool true
                          | 19 => v = .bool true
                          | 20 => v = .bool true
                          | 21 => v = .pointer (some ⟨w.heap.size, 18, none⟩)
                          | 22 => v = .int .i64 e.cl
                          | 23 => v = .bool true
                          | 24 => v = .bool true
                          | 25 => v = .bool true
                          | 26 => v = .pointer (some ⟨w.heap.size, 18, none⟩)
                          | 27 => v = .int .i64 e.cl
                          | 28 => v = .bool true
                          | 29 => v = .bool true
                          | 30 => v = .bool true
                          | 31 => v = .pointer (some ⟨w.heap.size, 19, none⟩)
                          | 32 => v = .int .i64 e.op
                          | 33 => v = .bool true
                          | 34 => v = .bool true
                          | 35 => v = .bool true
                          | 36 => v = .pointer (some ⟨w.heap.size, 19, none⟩)
                          | 37 => v = .int .i64 e.op
                          | 38 => v = .bool false
                          | 39 => v = .bool false
                          | 40 => v = .bool false
                          | _ => True) ?_ ?_
                      · refine Reg.Steps.cons ?_ (Reg.Steps.cons ?_ (Reg.Steps.cons ?_ (Reg.Steps.cons ?_ (Reg.Steps.cons ?_ (Reg.Steps.cons ?_ (Reg.Steps.cons ?_ (Reg.Steps.cons ?_ (Reg.Steps.cons ?_ (Reg.Steps.cons ?_ (Reg.Steps.cons ?_ (Reg.Steps.cons ?_ (Reg.Steps.cons ?_ (Reg.Steps.cons ?_ (Reg.Steps.cons ?_ (Reg.Steps.cons ?_ (Reg.Steps.cons ?_ (Reg.Steps.cons ?_ (Reg.Steps.cons ?_ (Reg.Steps.cons ?_ (Reg.Steps.cons ?_ (Reg.Steps.cons ?_ (Reg.Steps.cons ?_ (Reg.Steps.cons ?_ (Reg.Steps.cons ?_ (Reg.Steps.cons ?_ (Reg.Steps.cons ?_ (Reg.Steps.cons ?_ (Reg.Steps.cons ?_ (Reg.Steps.cons ?_ (Reg.Steps.cons ?_ (Reg.Steps.cons ?_ (Reg.Steps.cons ?_ (Reg.Steps.cons ?_ (Reg.Steps.cons ?_ (Reg.Steps.cons ?_ (Reg.Steps.cons ?_ (Reg.Steps.cons ?_ (Reg.Steps.cons ?_ (Reg.Steps.cons ?_ (Reg.Steps.cons ?_ (Reg.Steps.nil _)))))))))))))))))))))))))))))))))))))))))
                        · intro val ac u hR hp ha K hK
                          have e1 : (ac.tmps[1]?).getD undef = .pointer (some ⟨w.heap.size, 0, none⟩) := ha 1 (by decide); clear ha hp
                          refine Reg.Op1.plain rfl ?_
                          go_wp2
                          exact ⟨rfl, hK _ _ rfl (fun j k _ _ => Reg.Adds.refl _ _ _)⟩
                        · intro val ac u hR hp ha K hK
                          obtain ⟨w68, h68, r68⟩ := hp 0 (by decide); have e68 : (ac.tmps[68]?).getD undef = .pointer (some ⟨w.heap.size, 9, none⟩) := (ha 68 (by decide)).trans h68; clear h68 ha hp
                          refine Reg.Op1.plain rfl ?_
                          have hEu : EBx u w.heap.size e := Mem.Bx.below (w := w9.drew) H4.out.E hR H4.out.E.lt
                          refine Mem.load_agg _ _ vec_agg w.heap.size 9 (vcCells e.deps) (Reg.eval_of e68) (vcCells_length _) (hEu.part 9 rfl) ?_
                          exact ⟨rfl, hK _ _ rfl (fun j k _ _ => Reg.Adds.refl _ _ _)⟩
                        · intro val ac u hR hp ha K hK
                          obtain ⟨w69, h69, r69⟩ := hp 1 (by decide); have e69 : (ac.tmps[69]?).getD undef = .agg (vcCells e.deps).toArray := (ha 69 (by decide)).trans h69; clear h69 ha hp
                          refine Reg.Op1.plain rfl ?_
                          go_wp2_with fail
                          refine (refVRight_any e.deps u).mono ?_
                          rintro x w' ⟨rfl, hbw⟩
                          rw [hrv]
                          go_wp2_with fail
                          exact ⟨rfl, hK _ _ rfl (fun j k _ _ => hbw)⟩
                        · intro val ac u hR hp ha K hK
                          obtain ⟨w70, h70, r70⟩ := hp 2 (by decide); have e70 : (ac.tmps[70]?).getD undef = .bool true := (ha 70 (by decide)).trans h70; clear h70 ha hp
                          refine Reg.Op1.plain rfl ?_
                          go_wp2
                          exact ⟨rfl, hK _ _ rfl (fun j k _ _ => Reg.Adds.refl _ _ _)⟩
                        · intro val ac u hR hp ha K hK
                          have e1 : (ac.tmps[1]?).getD undef = .pointer (some ⟨w.heap.size, 0, none⟩) := ha 1 (by decide); obtain ⟨w71, h71, r71⟩ := hp 3 (by decide); have e71 : (ac.tmps[71]?).getD undef = .bool true := (ha 71 (by decide)).trans h71; clear h71 ha hp
                          refine Reg.Op1.guarded rfl rfl e71 (fun _ => Reg.Op1.plain rfl ?_) (fun h => absurd rfl h)
                          go_wp2
                          exact ⟨rfl, hK _ _ rfl (fun j k _ _ => Reg.Adds.refl _ _ _)⟩
                        · intro val ac u hR hp ha K hK
                          obtain ⟨w72, h72, r72⟩ := hp 4 (by decide); have e72 : (ac.tmps[72]?).getD undef = .pointer (some ⟨w.heap.size, 0, none⟩) := (ha 72 (by decide)).trans h72; obtain ⟨w71, h71, r71⟩ := hp 3 (by decide); have e71 : (ac.tmps[71]?).getD undef = .bool true := (ha 71 (by decide)).trans h71; clear h72 h71 ha hp
                          refine Reg.Op1.guarded rfl rfl e71 (fun _ => Reg.Op1.plain rfl ?_) (fun h => absurd rfl h)
                          go_wp2
                          exact ⟨rfl, hK _ _ rfl (fun j k _ _ => Reg.Adds.refl _ _ _)⟩
                        · intro val ac u hR hp ha K hK
                          obtain ⟨w73, h73, r73⟩ := hp 5 (by decide); have e73 : (ac.tmps[73]?).getD undef = .pointer (some ⟨w.heap.size, 0, none⟩) := (ha 73 (by decide)).trans h73; obtain ⟨w71, h71, r71⟩ := hp 3 (by decide); have e71 : (ac.tmps[71]?).getD undef = .bool true := (ha 71 (by decide)).trans h71; clear h73 h71 ha hp
                          refine Reg.Op1.guarded rfl rfl e71 (fun _ => Reg.Op1.plain rfl ?_) (fun h => absurd rfl h)
                          have x0 := (hR.cell (p := ⟨w.heap.size, 0, none⟩) H4.out.E.lt).trans (H4.out.E.cell (j := 0) rfl)
                          rw [hdn] at x0
                          go_wp2
                          exact ⟨rfl, hK _ _ rfl (fun j k _ _ => Reg.Adds.refl _ _ _)⟩
                        · intro val ac u hR hp ha K hK
                          have e1 : (ac.tmps[1]?).getD undef = .pointer (some ⟨w.heap.size, 0, none⟩) := ha 1 (by decide); obtain ⟨w71, h71, r71⟩ := hp 3 (by decide); have e71 : (ac.tmps[71]?).getD undef = .bool true := (ha 71 (by decide)).trans h71; clear h71 ha hp
                          refine Reg.Op1.guarded rfl rfl e71 (fun _ => Reg.Op1.plain rfl ?_) (fun h => absurd rfl h)
                          go_wp2
                          exact ⟨rfl, hK _ _ rfl (fun j k _ _ => Reg.Adds.refl _ _ _)⟩
                        · intro val ac u hR hp ha K hK
                          obtain ⟨w75, h75, r75⟩ := hp 7 (by decide); have e75 : (ac.tmps[75]?).getD undef = .pointer (some ⟨w.heap.size, 0, none⟩) := (ha 75 (by decide)).trans h75; obtain ⟨w71, h71, r71⟩ := hp 3 (by decide); have e71 : (ac.tmps[71]?).getD undef = .bool true := (ha 71 (by decide)).trans h71; clear h75 h71 ha hp
                          refine Reg.Op1.guarded rfl rfl e71 (fun _ => Reg.Op1.plain rfl ?_) (fun h => absurd rfl h)
                          go_wp2
                          exact ⟨rfl, hK _ _ rfl (fun j k _ _ => Reg.Adds.refl _ _ _)⟩
                        · intro val ac u hR hp ha K hK
                          obtain ⟨w76, h76, r76⟩ := hp 8 (by decide); have e76 : (ac.tmps[76]?).getD undef = .pointer (some ⟨w.heap.size, 1, none⟩) := (ha 76 (by decide)).trans h76; obtain ⟨w71, h71, r71⟩ := hp 3 (by decide); have e71 : (ac.tmps[71]?).getD undef = .bool true := (ha 71 (by decide)).trans h71; clear h76 h71 ha hp
                          refine Reg.Op1.guarded rfl rfl e71 (fun _ => Reg.Op1.plain rfl ?_) (fun h => absurd rfl h)
                          have x0 := (hR.cell (p := ⟨w.heap.size, 1, none⟩) H4.out.E.lt).trans (H4.out.E.cell (j := 1) rfl)
                          rw [hrn] at x0
                          go_wp2
                          exact ⟨rfl, hK _ _ rfl (fun j k _ _ => Reg.Adds.refl _ _ _)⟩
                        · intro val ac u hR hp ha K hK
                          have e1 : (ac.tmps[1]?).getD undef = .pointer (some ⟨w.heap.size, 0, none⟩) := ha 1 (by decide); obtain ⟨w71, h71, r71⟩ := hp 3 (by decide); have e71 : (ac.tmps[71]?).getD undef = .bool true := (ha 71 (by decide)).trans h71; clear h71 ha hp
                          refine Reg.Op1.guarded rfl rfl e71 (fun _ => Reg.Op1.plain rfl ?_) (fun h => absurd rfl h)
                          go_wp2
                          exact ⟨rfl, hK _ _ rfl (fun j k _ _ => Reg.Adds.refl _ _ _)⟩
                        · intro val ac u hR hp ha K hK
                          obtain ⟨w78, h78, r78⟩ := hp 10 (by decide); have e78 : (ac.tmps[78]?).getD undef = .pointer (some ⟨w.heap.size, 9, none⟩) := (ha 78 (by decide)).trans h78; obtain ⟨w74, h74, r74⟩ := hp 6 (by decide); have e74 : (ac.tmps[74]?).getD undef = .int .i64 (dn : Int) := (ha 74 (by decide)).trans h74; obtain ⟨w71, h71, r71⟩ := hp 3 (by decide); have e71 : (ac.tmps[71]?).getD undef = .bool true := (ha 71 (by decide)).trans h71; clear h78 h74 h71 ha hp
                          refine Reg.Op1.guarded rfl rfl e71 (fun _ => Reg.Op1.plain rfl ?_) (fun h => absurd rfl h)
                          go_wp2
                          exact ⟨rfl, hK _ _ rfl (fun j k _ _ => Reg.Adds.refl _ _ _)⟩
                        · intro val ac u hR hp ha K hK
                          obtain ⟨w79, h79, r79⟩ := hp 11 (by decide); have e79 : (ac.tmps[79]?).getD undef = .pointer (some ⟨w.heap.size, 9 + dn * 3, none⟩) := (ha 79 (by decide)).trans h79; obtain ⟨w77, h77, r77⟩ := hp 9 (by decide); have e77 : (ac.tmps[77]?).getD undef = .int .i64 (rn : Int) := (ha 77 (by decide)).trans h77; obtain ⟨w71, h71, r71⟩ := hp 3 (by decide); have e71 : (ac.tmps[71]?).getD undef = .bool true := (ha 71 (by decide)).trans h71; clear h79 h77 h71 ha hp
                          refine Reg.Op1.guarded rfl rfl e71 (fun _ => Reg.Op1.plain rfl ?_) (fun h => absurd rfl h)
                          go_wp2
                          exact ⟨rfl, hK _ _ rfl (fun j k _ _ => Reg.Adds.refl _ _ _)⟩
                        · intro val ac u hR hp ha K hK
                          obtain ⟨w80, h80, r80⟩ := hp 12 (by decide); have e80 : (ac.tmps[80]?).getD undef = .pointer (some ⟨w.heap.size, 9 + dn * 3 + rn, none⟩) := (ha 80 (by decide)).trans h80; obtain ⟨w71, h71, r71⟩ := hp 3 (by decide); have e71 : (ac.tmps[71]?).getD undef = .bool true := (ha 71 (by decide)).trans h71; clear h80 h71 ha hp
                          refine Reg.Op1.guarded rfl rfl e71 (fun _ => Reg.Op1.plain rfl ?_) (fun h => absurd rfl h)
                          have x0 := (hR.cell (p := ⟨w.heap.size, 9 + dn * 3 + rn, none⟩) H4.out.E.lt).trans (H4.out.E.cell (j := 9 + dn * 3 + rn) (deps_cell e hd3 hr3))
                          rw [hdv] at x0
                          go_wp2
                          exact ⟨rfl, hK _ _ rfl (fun j k _ _ => Reg.Adds.refl _ _ _)⟩
                        · intro val ac u hR hp ha K hK
                          have e1 : (ac.tmps[1]?).getD undef = .pointer (some ⟨w.heap.size, 0, none⟩) := ha 1 (by decide); obtain ⟨w71, h71, r71⟩ := hp 3 (by decide); have e71 : (ac.tmps[71]?).getD undef = .bool true := (ha 71 (by decide)).trans h71; clear h71 ha hp
                          refine Reg.Op1.guarded rfl rfl e71 (fun _ => Reg.Op1.plain rfl ?_) (fun h => absurd rfl h)
                          go_wp2
                          exact ⟨rfl, hK _ _ rfl (fun j k _ _ => Reg.Adds.refl _ _ _)⟩
                        · intro val ac u hR hp ha K hK
                          obtain ⟨w82, h82, r82⟩ := hp 14 (by decide); have e82 : (ac.tmps[82]?).getD undef = .pointer (some ⟨w.heap.size, 0, none⟩) := (ha 82 (by decide)).trans h82; obtain ⟨w71, h71, r71⟩ := hp 3 (by decide); have e71 : (ac.tmps[71]?).getD undef = .bool true := (ha 71 (by decide)).trans h71; clear h82 h71 ha hp
                          refine Reg.Op1.guarded rfl rfl e71 (fun _ => Reg.Op1.plain rfl ?_) (fun h => absurd rfl h)
                          go_wp2
                          exact ⟨rfl, hK _ _ rfl (fun j k _ _ => Reg.Adds.refl _ _ _)⟩
                        · intro val ac u hR hp ha K hK
                          obtain ⟨w83, h83, r83⟩ := hp 15 (by decide); have e83 : (ac.tmps[83]?).getD undef = .pointer (some ⟨w.heap.size, 2, none⟩) := (ha 83 (by decide)).trans h83; obtain ⟨w71, h71, r71⟩ := hp 3 (by decide); have e71 : (ac.tmps[71]?).getD undef = .bool true := (ha 71 (by decide)).trans h71; clear h83 h71 ha hp
                          refine Reg.Op1.guarded rfl rfl e71 (fun _ => Reg.Op1.plain rfl ?_) (fun h => absurd rfl h)
                          have x0 := (hR.cell (p := ⟨w.heap.size, 2, none⟩) H4.out.E.lt).trans (H4.out.E.cell (j := 2) rfl)
                          go_wp2
                          exact ⟨rfl, hK _ _ rfl (fun j k _ _ => Reg.Adds.refl _ _ _)⟩
                        · intro val ac u hR hp ha K hK
                          obtain ⟨w84, h84, r84⟩ := hp 16 (by decide); have e84 : (ac.tmps[84]?).getD undef = .int .i64 e.seq := (ha 84 (by decide)).trans h84; obtain ⟨w71, h71, r71⟩ := hp 3 (by decide); have e71 : (ac.tmps[71]?).getD undef = .bool true := (ha 71 (by decide)).trans h71; clear h84 h71 ha hp
                          refine Reg.Op1.guarded rfl rfl e71 (fun _ => Reg.Op1.plain rfl ?_) (fun h => absurd rfl h)
                          go_wp2
                          exact ⟨rfl, hK _ _ rfl (fun j k _ _ => Reg.Adds.refl _ _ _)⟩
                        · intro val ac u hR hp ha K hK
                          obtain ⟨w81, h81, r81⟩ := hp 13 (by decide); have e81 : (ac.tmps[81]?).getD undef = .int .i64 dv := (ha 81 (by decide)).trans h81; obtain ⟨w85, h85, r85⟩ := hp 17 (by decide); have e85 : (ac.tmps[85]?).getD undef = .int .i64 (e.seq - 1) := (ha 85 (by decide)).trans h85; obtain ⟨w71, h71, r71⟩ := hp 3 (by decide); have e71 : (ac.tmps[71]?).getD undef = .bool true := (ha 71 (by decide)).trans h71; clear h81 h85 h71 ha hp
                          refine Reg.Op1.guarded rfl rfl e71 (fun _ => Reg.Op1.plain rfl ?_) (fun h => absurd rfl h)
                          go_wp2
                          exact ⟨rfl, hK _ _ rfl (fun j k _ _ => Reg.Adds.refl _ _ _)⟩
                        · intro val ac u hR hp ha K hK
                          obtain ⟨w71, h71, r71⟩ := hp 3 (by decide); have e71 : (ac.tmps[71]?).getD undef = .bool true := (ha 71 (by decide)).trans h71; obtain ⟨w86, h86, r86⟩ := hp 18 (by decide); have e86 : (ac.tmps[86]?).getD undef = .bool true := (ha 86 (by decide)).trans h86; clear h71 h86 ha hp
                          refine Reg.Op1.plain rfl ?_
                          go_wp2
                          exact ⟨rfl, hK _ _ rfl (fun j k _ _ => Reg.Adds.refl _ _ _)⟩
                        · intro val ac u hR hp ha K hK
                          obtain ⟨w87, h87, r87⟩ := hp 19 (by decide); have e87 : (ac.tmps[87]?).getD undef = .bool true := (ha 87 (by decide)).trans h87; clear h87 ha hp
                          refine Reg.Op1.plain rfl ?_
                          go_wp2
                          exact ⟨rfl, hK _ _ rfl (fun j k _ _ => Reg.Adds.refl _ _ _)⟩
                        · intro val ac u hR hp ha K hK
                          have e1 : (ac.tmps[1]?).getD undef = .pointer (some ⟨w.heap.size, 0, none⟩) := ha 1 (by decide); obtain ⟨w88, h88, r88⟩ := hp 20 (by decide); have e88 : (ac.tmps[88]?).getD undef = .bool true := (ha 88 (by decide)).trans h88; clear h88 ha hp
                          refine Reg.Op1.guarded rfl rfl e88 (fun _ => Reg.Op1.plain rfl ?_) (fun h => absurd rfl h)
                          go_wp2
                          exact ⟨rfl, hK _ _ rfl (fun j k _ _ => Reg.Adds.refl _ _ _)⟩
                        · intro val ac u hR hp ha K hK
                          obtain ⟨w89, h89, r89⟩ := hp 21 (by decide); have e89 : (ac.tmps[89]?).getD undef = .pointer (some ⟨w.heap.size, 18, none⟩) := (ha 89 (by decide)).trans h89; obtain ⟨w88, h88, r88⟩ := hp 20 (by decide); have e88 : (ac.tmps[88]?).getD undef = .bool true := (ha 88 (by decide)).trans h88; clear h89 h88 ha hp
                          refine Reg.Op1.guarded rfl rfl e88 (fun _ => Reg.Op1.plain rfl ?_) (fun h => absurd rfl h)
                          have x0 := (hR.cell (p := ⟨w.heap.size, 18, none⟩) H4.out.E.lt).trans (H4.out.E.cell (j := 18) rfl)
                          go_wp2
                          exact ⟨rfl, hK _ _ rfl (fun j k _ _ => Reg.Adds.refl _ _ _)⟩
                        · intro val ac u hR hp ha K hK
                          obtain ⟨w90, h90, r90⟩ := hp 22 (by decide); have e90 : (ac.tmps[90]?).getD undef = .int .i64 e.cl := (ha 90 (by decide)).trans h90; obtain ⟨w88, h88, r88⟩ := hp 20 (by decide); have e88 : (ac.tmps[88]?).getD undef = .bool true := (ha 88 (by decide)).trans h88; clear h90 h88 ha hp
                          refine Reg.Op1.guarded rfl rfl e88 (fun _ => Reg.Op1.plain rfl ?_) (fun h => absurd rfl h)
                          go_wp2
                          exact ⟨rfl, hK _ _ rfl (fun j k _ _ => Reg.Adds.refl _ _ _)⟩
                        · intro val ac u hR hp ha K hK
                          obtain ⟨w88, h88, r88⟩ := hp 20 (by decide); have e88 : (ac.tmps[88]?).getD undef = .bool true := (ha 88 (by decide)).trans h88; obtain ⟨w91, h91, r91⟩ := hp 23 (by decide); have e91 : (ac.tmps[91]?).getD undef = .bool true := (ha 91 (by decide)).trans h91; clear h88 h91 ha hp
                          refine Reg.Op1.plain rfl ?_
                          go_wp2
                          exact ⟨rfl, hK _ _ rfl (fun j k _ _ => Reg.Adds.refl _ _ _)⟩
                        · intro val ac u hR hp ha K hK
                          obtain ⟨w92, h92, r92⟩ := hp 24 (by decide); have e92 : (ac.tmps[92]?).getD undef = .bool true := (ha 92 (by decide)).trans h92; clear h92 ha hp
                          refine Reg.Op1.plain rfl ?_
                          go_wp2
                          exact ⟨rfl, hK _ _ rfl (fun j k _ _ => Reg.Adds.refl _ _ _)⟩
                        · intro val ac u hR hp ha K hK
                          have e1 : (ac.tmps[1]?).getD undef = .pointer (some ⟨w.heap.size, 0, none⟩) := ha 1 (by decide); obtain ⟨w93, h93, r93⟩ := hp 25 (by decide); have e93 : (ac.tmps[93]?).getD undef = .bool true := (ha 93 (by decide)).trans h93; clear h93 ha hp
                          refine Reg.Op1.guarded rfl rfl e93 (fun _ => Reg.Op1.plain rfl ?_) (fun h => absurd rfl h)
                          go_wp2
                          exact ⟨rfl, hK _ _ rfl (fun j k _ _ => Reg.Adds.refl _ _ _)⟩
                        · intro val ac u hR hp ha K hK
                          obtain ⟨w94, h94, r94⟩ := hp 26 (by decide); have e94 : (ac.tmps[94]?).getD undef = .pointer (some ⟨w.heap.size, 18, none⟩) := (ha 94 (by decide)).trans h94; obtain ⟨w93, h93, r93⟩ := hp 25 (by decide); have e93 : (ac.tmps[93]?).getD undef = .bool true := (ha 93 (by decide)).trans h93; clear h94 h93 ha hp
                          refine Reg.Op1.guarded rfl rfl e93 (fun _ => Reg.Op1.plain rfl ?_) (fun h => absurd rfl h)
                          have x0 := (hR.cell (p := ⟨w.heap.size, 18, none⟩) H4.out.E.lt).trans (H4.out.E.cell (j := 18) rfl)
                          go_wp2
                          exact ⟨rfl, hK _ _ rfl (fun j k _ _ => Reg.Adds.refl _ _ _)⟩
                        · intro val ac u hR hp ha K hK
                          obtain ⟨w95, h95, r95⟩ := hp 27 (by decide); have e95 : (ac.tmps[95]?).getD undef = .int .i64 e.cl := (ha 95 (by decide)).trans h95; obtain ⟨w93, h93, r93⟩ := hp 25 (by decide); have e93 : (ac.tmps[93]?).getD undef = .bool true := (ha 93 (by decide)).trans h93; clear h95 h93 ha hp
                          refine Reg.Op1.guarded rfl rfl e93 (fun _ => Reg.Op1.plain rfl ?_) (fun h => absurd rfl h)
                          go_wp2
                          exact ⟨rfl, hK _ _ rfl (fun j k _ _ => Reg.Adds.refl _ _ _)⟩
                        · intro val ac u hR hp ha K hK
                          obtain ⟨w93, h93, r93⟩ := hp 25 (by decide); have e93 : (ac.tmps[93]?).getD undef = .bool true := (ha 93 (by decide)).trans h93; obtain ⟨w96, h96, r96⟩ := hp 28 (by decide); have e96 : (ac.tmps[96]?).getD undef = .bool true := (ha 96 (by decide)).trans h96; clear h93 h96 ha hp
                          refine Reg.Op1.plain rfl ?_
                          go_wp2
                          exact ⟨rfl, hK _ _ rfl (fun j k _ _ => Reg.Adds.refl _ _ _)⟩
                        · intro val ac u hR hp ha K hK
                          obtain ⟨w97, h97, r97⟩ := hp 29 (by decide); have e97 : (ac.tmps[97]?).getD undef = .bool true := (ha 97 (by decide)).trans h97; clear h97 ha hp
                          refine Reg.Op1.plain rfl ?_
                          go_wp2
                          exact ⟨rfl, hK _ _ rfl (fun j k _ _ => Reg.Adds.refl _ _ _)⟩
                        · intro val ac u hR hp ha K hK
                          have e1 : (ac.tmps[1]?).getD undef = .pointer (some ⟨w.heap.size, 0, none⟩) := ha 1 (by decide); obtain ⟨w98, h98, r98⟩ := hp 30 (by decide); have e98 : (ac.tmps[98]?).getD undef = .bool true := (ha 98 (by decide)).trans h98; clear h98 ha hp
                          refine Reg.Op1.guarded rfl rfl e98 (fun _ => Reg.Op1.plain rfl ?_) (fun h => absurd rfl h)
                          go_wp2
                          exact ⟨rfl, hK _ _ rfl (fun j k _ _ => Reg.Adds.refl _ _ _)⟩
                        · intro val ac u hR hp ha K hK
                          obtain ⟨w99, h99, r99⟩ := hp 31 (by decide); have e99 : (ac.tmps[99]?).getD undef = .pointer (some ⟨w.heap.size, 19, none⟩) := (ha 99 (by decide)).trans h99; obtain ⟨w98, h98, r98⟩ := hp 30 (by decide); have e98 : (ac.tmps[98]?).getD undef = .bool true := (ha 98 (by decide)).trans h98; clear h99 h98 ha hp
                          refine Reg.Op1.guarded rfl rfl e98 (fun _ => Reg.Op1.plain rfl ?_) (fun h => absurd rfl h)
                          have x0 := (hR.cell (p := ⟨w.heap.size, 19, none⟩) H4.out.E.lt).trans (H4.out.E.cell (j := 19) rfl)
                          go_wp2
                          exact ⟨rfl, hK _ _ rfl (fun j k _ _ => Reg.Adds.refl _ _ _)⟩
                        · intro val ac u hR hp ha K hK
                          obtain ⟨w100, h100, r100⟩ := hp 32 (by decide); have e100 : (ac.tmps[100]?).getD undef = .int .i64 e.op := (ha 100 (by decide)).trans h100; obtain ⟨w98, h98, r98⟩ := hp 30 (by decide); have e98 : (ac.tmps[98]?).getD undef = .bool true := (ha 98 (by decide)).trans h98; clear h100 h98 ha hp
                          refine Reg.Op1.guarded rfl rfl e98 (fun _ => Reg.Op1.plain rfl ?_) (fun h => absurd rfl h)
                          go_wp2
                          exact ⟨rfl, hK _ _ rfl (fun j k _ _ => Reg.Adds.refl _ _ _)⟩
                        · intro val ac u hR hp ha K hK
                          obtain ⟨w98, h98, r98⟩ := hp 30 (by decide); have e98 : (ac.tmps[98]?).getD undef = .bool true := (ha 98 (by decide)).trans h98; obtain ⟨w101, h101, r101⟩ := hp 33 (by decide); have e101 : (ac.tmps[101]?).getD undef = .bool true := (ha 101 (by decide)).trans h101; clear h98 h101 ha hp
                          refine Reg.Op1.plain rfl ?_
                          go_wp2
                          exact ⟨rfl, hK _ _ rfl (fun j k _ _ => Reg.Adds.refl _ _ _)⟩
                        · intro val ac u hR hp ha K hK
                          obtain ⟨w102, h102, r102⟩ := hp 34 (by decide); have e102 : (ac.tmps[102]?).getD undef = .bool true := (ha 102 (by decide)).trans h102; clear h102 ha hp
                          refine Reg.Op1.plain rfl ?_
                          go_wp2
                          exact ⟨rfl, hK _ _ rfl (fun j k _ _ => Reg.Adds.refl _ _ _)⟩
                        · intro val ac u hR hp ha K hK
                          have e1 : (ac.tmps[1]?).getD undef = .pointer (some ⟨w.heap.size, 0, none⟩) := ha 1 (by decide); obtain ⟨w103, h103, r103⟩ := hp 35 (by decide); have e103 : (ac.tmps[103]?).getD undef = .bool true := (ha 103 (by decide)).trans h103; clear h103 ha hp
                          refine Reg.Op1.guarded rfl rfl e103 (fun _ => Reg.Op1.plain rfl ?_) (fun h => absurd rfl h)
                          go_wp2
                          exact ⟨rfl, hK _ _ rfl (fun j k _ _ => Reg.Adds.refl _ _ _)⟩
                        · intro val ac u hR hp ha K hK
                          obtain ⟨w104, h104, r104⟩ := hp 36 (by decide); have e104 : (ac.tmps[104]?).getD undef = .pointer (some ⟨w.heap.size, 19, none⟩) := (ha 104 (by decide)).trans h104; obtain ⟨w103, h103, r103⟩ := hp 35 (by decide); have e103 : (ac.tmps[103]?).getD undef = .bool true := (ha 103 (by decide)).trans h103; clear h104 h103 ha hp
                          refine Reg.Op1.guarded rfl rfl e103 (fun _ => Reg.Op1.plain rfl ?_) (fun h => absurd rfl h)
                          have x0 := (hR.cell (p := ⟨w.heap.size, 19, none⟩) H4.out.E.lt).trans (H4.out.E.cell (j := 19) rfl)
                          go_wp2
                          exact ⟨rfl, hK _ _ rfl (fun j k _ _ => Reg.Adds.refl _ _ _)⟩
                        · intro val ac u hR hp ha K hK
                          obtain ⟨w105, h105, r105⟩ := hp 37 (by decide); have e105 : (ac.tmps[105]?).getD undef = .int .i64 e.op := (ha 105 (by decide)).trans h105; obtain ⟨w103, h103, r103⟩ := hp 35 (by decide); have e103 : (ac.tmps[103]?).getD undef = .bool true := (ha 103 (by decide)).trans h103; clear h105 h103 ha hp
                          refine Reg.Op1.guarded rfl rfl e103 (fun _ => Reg.Op1.plain rfl ?_) (fun h => absurd rfl h)
                          go_wp2
                          exact ⟨rfl, hK _ _ rfl (fun j k _ _ => Reg.Adds.refl _ _ _)⟩
                        · intro val ac u hR hp ha K hK
                          obtain ⟨w103, h103, r103⟩ := hp 35 (by decide); have e103 : (ac.tmps[103]?).getD undef = .bool true := (ha 103 (by decide)).trans h103; obtain ⟨w106, h106, r106⟩ := hp 38 (by decide); have e106 : (ac.tmps[106]?).getD undef = .bool false := (ha 106 (by decide)).trans h106; clear h103 h106 ha hp
                          refine Reg.Op1.plain rfl ?_
                          go_wp2
                          exact ⟨rfl, hK _ _ rfl (fun j k _ _ => Reg.Adds.refl _ _ _)⟩
                        · intro val ac u hR hp ha K hK
                          obtain ⟨w107, h107, r107⟩ := hp 39 (by decide); have e107 : (ac.tmps[107]?).getD undef = .bool false := (ha 107 (by decide)).trans h107; clear h107 ha hp
                          refine Reg.Op1.plain rfl ?_
                          go_wp2
                          exact ⟨rfl, hK _ _ rfl (fun j k _ _ => Reg.Adds.refl _ _ _)⟩
                      · intro val u hR H
                        obtain ⟨_, hv, _⟩ := H 40 (by decide)
                        have hv : val 40 = .bool false := hv
                        have HN : Hid (RrAt w e u) := H4.out.below ((Below.refl _ w9).drew.trans hR)
                        simp only [List.map_cons, List.map_nil, Reg.lay, Act.put, List.setIfInBounds_toArray, List.set_cons_succ, List.set_cons_zero, Nat.reduceAdd, hv]
                        clear hR H hv
                        go_wp2
                        go_ret
                        first | exact ⟨rfl, HN.out.b⟩ | exact ⟨by rw [hr]; rfl, HN.out.b⟩
                  · have d3 : decide (1 ≤ e.op) = false := by simpa using h3
                    have hr : rightE e = false := by simp [rightE, g5, h3]
                    clear h1 h2 h3
                    refine Reg.wp_region_rel (by kernel_rfl) 108 41 rfl rfl (by kernel_rfl) (Reg.Adds) (Reg.Adds.refl) (Reg.Adds.trans)
                      (fun i v u => match i with
                        | 0 => v = .pointer (some ⟨w.heap.size, 9, none⟩)
                        | 1 => v = .agg (vcCells e.deps).toArray
                        | 2 => v = .bool true
                        | 3 => v = .bool true
                        | 4 => v = .pointer (some ⟨w.heap.size, 0, none⟩)
                        | 5 => v = .pointer (some ⟨w.heap.size, 0, none⟩)
                        | 6 => v = .int .i64 (dn : Int)
                        | 7 => v = .pointer (some ⟨w.heap.size, 0, none⟩)
                        | 8 => v = .pointer (some ⟨w.heap.size, 1, none⟩)
                        | 9 => v = .int .i64 (rn : Int)
                        | 10 => v = .pointer (some ⟨w.heap.size, 9, none⟩)
                        | 11 => v = .pointer (some ⟨w.heap.size, 9 + dn * 3, none⟩)
                        | 12 => v = .pointer (some ⟨w.heap.size, 9 + dn * 3 + rn, none⟩)
                        | 13 => v = .int .i64 dv
                        | 14 => v = .pointer (some ⟨w.heap.size, 0, none⟩)
                        | 15 => v = .pointer (some ⟨w.heap.size, 2, none⟩)
                        | 16 => v = .int .i64 e.seq
                        | 17 => v = .int .i64 (e.seq - 1)
                        | 18 => v = .bool true
                        | 19 => v = .bool true
                        | 20 => v = .bool true
                        | 21 => v = .pointer (some ⟨w.heap.size, 18, none⟩)
                        | 22 => v = .int .i64 e.cl
                        | 23 => v = .bool true
                        | 24 => v = .bool true
                        | 25 => v = .bool true
                        | 26 => v = .pointer (some ⟨w.heap.size, 18, none⟩)
                        | 27 => v = .int .i64 e.cl
                        | 28 => v = .bool true
                        | 29 => v = .bool true
                        | 30 => v = .bool true
                        | 31 => v = .pointer (some ⟨w.heap.size, 19, none⟩)
                        | 32 => v = .int .i64 e.op
                        | 33 => v = .bool false
                        | 34 => v = .bool false
                        | 35 => v = .bool false
                        | 36 => v = undef
                        | 37 => v = undef
                        | 38 => v = undef
                        | 39 => v = .bool false
                        | 40 => v = .bool false
                        | _ => True) ?_ ?_
                    · refine Reg.Steps.cons ?_ (Reg.Steps.cons ?_ (Reg.Steps.cons ?_ (Reg.Steps.cons ?_ (Reg.Steps.cons ?_ (Reg.Steps.cons ?_ (Reg.Steps.cons ?_ (Reg.Steps.cons ?_ (Reg.Steps.cons ?_ (Reg.Steps.cons ?_ (Reg.Steps.cons ?_ (Reg.Steps.cons ?_ (Reg.Steps.cons ?_ (Reg.Steps.cons ?_ (Reg.Steps.cons ?_ (Reg.Steps.cons ?_ (Reg.Steps.cons ?_ (Reg.Steps.cons ?_ (Reg.Steps.cons ?_ (Reg.Steps.cons ?_ (Reg.Steps.cons ?_ (Reg.Steps.cons ?_ (Reg.Steps.cons ?_ (Reg.Steps.cons ?_ (Reg.Steps.cons ?_ (Reg.Steps.cons ?_ (Reg.Steps.cons ?_ (Reg.Steps.cons ?_ (Reg.Steps.cons ?_ (Reg.Steps.cons ?_ (Reg.Steps.cons ?_ (Reg.Steps.cons ?_ (Reg.Steps.cons ?_ (Reg.Steps.cons ?_ (Reg.Steps.cons ?_ (Reg.Steps.cons ?_ (Reg.Steps.cons ?_ (Reg.Steps.cons ?_ (Reg.Steps.cons ?_ (Reg.Steps.cons ?_ (Reg.Steps.cons ?_ (Reg.Steps.nil _)))))))))))))))))))))))))))))))))))))))))
                      · intro val ac u hR hp ha K hK
                        have e1 : (ac.tmps[1]?).getD undef = .pointer (some ⟨w.heap.size, 0, none⟩) := ha 1 (by decide); clear ha hp
                        refine Reg.Op1.plain rfl ?_
                        go_wp2
                        exact ⟨rfl, hK _ _ rfl (fun j k _ _ => Reg.Adds.refl _ _ _)⟩
                      · intro val ac u hR hp ha K hK
                        obtain ⟨w68, h68, r68⟩ := hp 0 (by decide); have e68 : (ac.tmps[68]?).getD undef = .pointer (some ⟨w.heap.size, 9, none⟩) := (ha 68 (by decide)).trans h68; clear h68 ha hp
                        refine Reg.Op1.plain rfl ?_
                        have hEu : EBx u w.heap.size e := Mem.Bx.below (w := w9.drew) H4.out.E hR H4.out.E.lt
                        refine Mem.load_agg _ _ vec_agg w.heap.size 9 (vcCells e.deps) (Reg.eval_of e68) (vcCells_length _) (hEu.part 9 rfl) ?_
                        exact ⟨rfl, hK _ _ rfl (fun j k _ _ => Reg.Adds.refl _ _ _)⟩
                      · intro val ac u hR hp ha K hK
                        obtain ⟨w69, h69, r69⟩ := hp 1 (by decide); have e69 : (ac.tmps[69]?).getD undef = .agg (vcCells e.deps).toArray := (ha 69 (by decide)).trans h69; clear h69 ha hp
                        refine Reg.Op1.plain rfl ?_
                        go_wp2_with fail
                        refine (refVRight_any e.deps u).mono ?_
                        rintro x w' ⟨rfl, hbw⟩
                        rw [hrv]
                        go_wp2_with fail
                        exact ⟨rfl, hK _ _ rfl (fun j k _ _ => hbw)⟩
                      · intro val ac u hR hp ha K hK
                        obtain ⟨w70, h70, r70⟩ := hp 2 (by decide); have e70 : (ac.tmps[70]?).getD undef = .bool true := (ha 70 (by decide)).trans h70; clear h70 ha hp
                        refine Reg.Op1.plain rfl ?_
                        go_wp2
                        exact ⟨rfl, hK _ _ rfl (fun j k _ _ => Reg.Adds.refl _ _ _)⟩
                      · intro val ac u hR hp ha K hK
                        have e1 : (ac.tmps[1]?).getD undef = .pointer (some ⟨w.heap.size, 0, none⟩) := ha 1 (by decide); obtain ⟨w71, h71, r71⟩ := hp 3 (by decide); have e71 : (ac.tmps[71]?).getD undef = .bool true := (ha 71 (by decide)).trans h71; clear h71 ha hp
                        refine Reg.Op1.guarded rfl rfl e71 (fun _ => Reg.Op1.plain rfl ?_) (fun h => absurd rfl h)
                        go_wp2
                        exact ⟨rfl, hK _ _ rfl (fun j k _ _ => Reg.Adds.refl _ _ _)⟩
                      · intro val ac u hR hp ha K hK
                        obtain ⟨w72, h72, r72⟩ := hp 4 (by decide); have e72 : (ac.tmps[72]?).getD undef = .pointer (some ⟨w.heap.size, 0, none⟩) := (ha 72 (by decide)).trans h72; obtain ⟨w71, h71, r71⟩ := hp 3 (by decide); have e71 : (ac.tmps[71]?).getD undef = .bool true := (ha 71 (by decide)).trans h71; clear h72 h71 ha hp
                        refine Reg.Op1.guarded rfl rfl e71 (fun _ => Reg.Op1.plain rfl ?_) (fun h => absurd rfl h)
                        go_wp2
                        exact ⟨rfl, hK _ _ rfl (fun j k _ _ => Reg.Adds.refl _ _ _)⟩
                      · intro val ac u hR hp ha K hK
                        obtain ⟨w73, h73, r73⟩ := hp 5 (by decide); have e73 : (ac.tmps[73]?).getD undef = .pointer (some ⟨w.heap.size, 0, none⟩) := (ha 73 (by decide)).trans h73; obtain ⟨w71, h71, r71⟩ := hp 3 (by decide); have e71 : (ac.tmps[71]?).getD undef = .bool true := (ha 71 (by decide)).trans h71; clear h73 h71 ha hp
                        refine Reg.Op1.guarded rfl rfl e71 (fun _ => Reg.Op1.plain rfl ?_) (fun h => absurd rfl h)
                        have x0 := (hR.cell (p := ⟨w.heap.size, 0, none⟩) H4.out.E.lt).trans (H4.out.E.cell (j := 0) rfl)
                        rw [hdn] at x0
                        go_wp2
                        exact ⟨rfl, hK _ _ rfl (fun j k _ _ => Reg.Adds.refl _ _ _)⟩
                      · intro val ac u hR hp ha K hK
                        have e1 : (ac.tmps[1]?).getD undef = .pointer (some ⟨w.heap.size, 0, none⟩) := ha 1 (by decide); obtain ⟨w71, h71, r71⟩ := hp 3 (by decide); have e71 : (ac.tmps[71]?).getD undef = .bool true := (ha 71 (by decide)).trans h71; clear h71 ha hp
                        refine Reg.Op1.guarded rfl rfl e71 (fun _ => Reg.Op1.plain rfl ?_) (fun h => absurd rfl h)
                        go_wp2
                        exact ⟨rfl, hK _ _ rfl (fun j k _ _ => Reg.Adds.refl _ _ _)⟩
                      · intro val ac u hR hp ha K hK
                        obtain ⟨w75, h75, r75⟩ := hp 7 (by decide); have e75 : (ac.tmps[75]?).getD undef = .pointer (some ⟨w.heap.size, 0, none⟩) := (ha 75 (by decide)).trans h75; obtain ⟨w71, h71, r71⟩ := hp 3 (by decide); have e71 : (ac.tmps[71]?).getD undef = .bool true := (ha 71 (by decide)).trans h71; clear h75 h71 ha hp
                        refine Reg.Op1.guarded rfl rfl e71 (fun _ => Reg.Op1.plain rfl ?_) (fun h => absurd rfl h)
                        go_wp2
                        exact ⟨rfl, hK _ _ rfl (fun j k _ _ => Reg.Adds.refl _ _ _)⟩
                      · intro val ac u hR hp ha K hK
                        obtain ⟨w76, h76, r76⟩ := hp 8 (by decide); have e76 : (ac.tmps[76]?).getD undef = .pointer (some ⟨w.heap.size, 1, none⟩) := (ha 76 (by decide)).trans h76; obtain ⟨w71, h71, r71⟩ := hp 3 (by decide); have e71 : (ac.tmps[71]?).getD undef = .bool true := (ha 71 (by decide)).trans h71; clear h76 h71 ha hp
                        refine Reg.Op1.guarded rfl rfl e71 (fun _ => Reg.Op1.plain rfl ?_) (fun h => absurd rfl h)
                        have x0 := (hR.cell (p := ⟨w.heap.size, 1, none⟩) H4.out.E.lt).trans (H4.out.E.cell (j := 1) rfl)
                        rw [hrn] at x0
                        go_wp2
                        exact ⟨rfl, hK _ _ rfl (fun j k _ _ => Reg.Adds.refl _ _ _)⟩
                      · intro val ac u hR hp ha K hK
                        have e1 : (ac.tmps[1]?).getD undef = .pointer (some ⟨w.heap.size, 0, none⟩) := ha 1 (by decide); obtain ⟨w71, h71, r71⟩ := hp 3 (by decide); have e71 : (ac.tmps[71]?).getD undef = .bool true := (ha 71 (by decide)).trans h71; clear h71 ha hp
                        refine Reg.Op1.guarded rfl rfl e71 (fun _ => Reg.Op1.plain rfl ?_) (fun h => absurd rfl h)
                        go_wp2
                        exact ⟨rfl, hK _ _ rfl (fun j k _ _ => Reg.Adds.refl _ _ _)⟩
                      · intro val ac u hR hp ha K hK
                        obtain ⟨w78, h78, r78⟩ := hp 10 (by decide); have e78 : (ac.tmps[78]?).getD undef = .pointer (some ⟨w.heap.size, 9, none⟩) := (ha 78 (by decide)).trans h78; obtain ⟨w74, h74, r74⟩ := hp 6 (by decide); have e74 : (ac.tmps[74]?).getD undef = .int .i64 (dn : Int) := (ha 74 (by decide)).trans h74; obtain ⟨w71, h71, r71⟩ := hp 3 (by decide); have e71 : (ac.tmps[71]?).getD undef = .bool true := (ha 71 (by decide)).trans h71; clear h78 h74 h71 ha hp
                        refine Reg.Op1.guarded rfl rfl e71 (fun _ => Reg.Op1.plain rfl ?_) (fun h => absurd rfl h)
                        go_wp2
                        exact ⟨rfl, hK _ _ rfl (fun j k _ _ => Reg.Adds.refl _ _ _)⟩
                      · intro val ac u hR hp ha K hK
                        obtain ⟨w79, h79, r79⟩ := hp 11 (by decide); have e79 : (ac.tmps[79]?).getD undef = .pointer (some ⟨w.heap.size, 9 + dn * 3, none⟩) := (ha 79 (by decide)).trans h79; obtain ⟨w77, h77, r77⟩ := hp 9 (by decide); have e77 : (ac.tmps[77]?).getD undef = .int .i64 (rn : Int) := (ha 77 (by decide)).trans h77; obtain ⟨w71, h71, r71⟩ := hp 3 (by decide); have e71 : (ac.tmps[71]?).getD undef = .bool true := (ha 71 (by decide)).trans h71; clear h79 h77 h71 ha hp
                        refine Reg.Op1.guarded rfl rfl e71 (fun _ => Reg.Op1.plain rfl ?_) (fun h => absurd rfl h)
                        go_wp2
                        exact ⟨rfl, hK _ _ rfl (fun j k _ _ => Reg.Adds.refl _ _ _)⟩
                      · intro val ac u hR hp ha K hK
                        obtain ⟨w80, h80, r80⟩ := hp 12 (by decide); have e80 : (ac.tmps[80]?).getD undef = .pointer (some ⟨w.heap.size, 9 + dn * 3 + rn, none⟩) := (ha 80 (by decide)).trans h80; obtain ⟨w71, h71, r71⟩ := hp 3 (by decide); have e71 : (ac.tmps[71]?).getD undef = .bool true := (ha 71 (by decide)).trans h71; clear h80 h71 ha hp
                        refine Reg.Op1.guarded rfl rfl e71 (fun _ => Reg.Op1.plain rfl ?_) (fun h => absurd rfl h)
                        have x0 := (hR.cell (p := ⟨w.heap.size, 9 + dn * 3 + rn, none⟩) H4.out.E.lt).trans (H4.out.E.cell (j := 9 + dn * 3 + rn) (deps_cell e hd3 hr3))
                        rw [hdv] at x0
                        go_wp2
                        exact ⟨rfl, hK _ _ rfl (fun j k _ _ => Reg.Adds.refl _ _ _)⟩
                      · intro val ac u hR hp ha K hK
                        have e1 : (ac.tmps[1]?).getD undef = .pointer (some ⟨w.heap.size, 0, none⟩) := ha 1 (by decide); obtain ⟨w71, h71, r71⟩ := hp 3 (by decide); have e71 : (ac.tmps[71]?).getD undef = .bool true := (ha 71 (by decide)).trans h71; clear h71 ha hp
                        refine Reg.Op1.guarded rfl rfl e71 (fun _ => Reg.Op1.plain rfl ?_) (fun h => absurd rfl h)
                        go_wp2
                        exact ⟨rfl, hK _ _ rfl (fun j k _ _ => Reg.Adds.refl _ _ _)⟩
                      · intro val ac u hR hp ha K hK
                        obtain ⟨w82, h82, r82⟩ := hp 14 (by decide); have e82 : (ac.tmps[82]?).getD undef = .pointer (some ⟨w.heap.size, 0, none⟩) := (ha 82 (by decide)).trans h82; obtain ⟨w71, h71, r71⟩ := hp 3 (by decide); have e71 : (ac.tmps[71]?).getD undef = .bool true := (ha 71 (by decide)).trans h71; clear h82 h71 ha hp
                        refine Reg.Op1.guarded rfl rfl e71 (fun _ => Reg.Op1.plain rfl ?_) (fun h => absurd rfl h)
                        go_wp2
                        exact ⟨rfl, hK _ _ rfl (fun j k _ _ => Reg.Adds.refl _ _ _)⟩
                      · intro val ac u hR hp ha K hK
                        obtain ⟨w83, h83, r83⟩ := hp 15 (by decide); have e83 : (ac.tmps[83]?).getD undef = .pointer (some ⟨w.heap.size, 2, none⟩) := (ha 83 (by decide)).trans h83; obtain ⟨w71, h71, r71⟩ := hp 3 (by decide); have e71 : (ac.tmps[71]?).getD undef = .bool true := (ha 71 (by decide)).trans h71; clear h83 h71 ha hp
                        refine Reg.Op1.guarded rfl rfl e71 (fun _ => Reg.Op1.plain rfl ?_) (fun h => absurd rfl h)
                        have x0 := (hR.cell (p := ⟨w.heap.size, 2, none⟩) H4.out.E.lt).trans (H4.out.E.cell (j := 2) rfl)
                        go_wp2
                        exact ⟨rfl, hK _ _ rfl (fun j k _ _ => Reg.Adds.refl _ _ _)⟩
                      · intro val ac u hR hp ha K hK
                        obtain ⟨w84, h84, r84⟩ := hp 16 (by decide); have e84 : (ac.tmps[84]?).getD undef = .int .i64 e.seq := (ha 84 (by decide)).trans h84; obtain ⟨w71, h71, r71⟩ := hp 3 (by decide); have e71 : (ac.tmps[71]?).getD undef = .bool true := (ha 71 (by decide)).trans h71; clear h84 h71 ha hp
                        refine Reg.Op1.guarded rfl rfl e71 (fun _ => Reg.Op1.plain rfl ?_) (fun h => absurd rfl h)
                        go_wp2
                        exact ⟨rfl, hK _ _ rfl (fun j k _ _ => Reg.Adds.refl _ _ _)⟩
                      · intro val ac u hR hp ha K hK
                        obtain ⟨w81, h81, r81⟩ := hp 13 (by decide); have e81 : (ac.tmps[81]?).getD undef = .int .i64 dv := (ha 81 (by decide)).trans h81; obtain ⟨w85, h85, r85⟩ := hp 17 (by decide); have e85 : (ac.tmps[85]?).getD undef = .int .i64 (e.seq - 1) := (ha 85 (by decide)).trans h85; obtain ⟨w71, h71, r71⟩ := hp 3 (by decide); have e71 : (ac.tmps[71]?).getD undef = .bool true := (ha 71 (by decide)).trans h71; clear h81 h85 h71 ha hp
                        refine Reg.Op1.guarded rfl rfl e71 (fun _ => Reg.Op1.plain rfl ?_) (fun h => absurd rfl h)
                        go_wp2
                        exact ⟨rfl, hK _ _ rfl (fun j k _ _ => Reg.Adds.refl _ _ _)⟩
                      · intro val ac u hR hp ha K hK
                        obtain ⟨w71, h71, r71⟩ := hp 3 (by decide); have e71 : (ac.tmps[71]?).getD undef = .bool true := (ha 71 (by decide)).trans h71; obtain ⟨w86, h86, r86⟩ := hp 18 (by decide); have e86 : (ac.tmps[86]?).getD undef = .bool true := (ha 86 (by decide)).trans h86; clear h71 h86 ha hp
                        refine Reg.Op1.plain rfl ?_
                        go_wp2
                        exact ⟨rfl, hK _ _ rfl (fun j k _ _ => Reg.Adds.refl _ _ _)⟩
                      · intro val ac u hR hp ha K hK
                        obtain ⟨w87, h87, r87⟩ := hp 19 (by decide); have e87 : (ac.tmps[87]?).getD undef = .bool true := (ha 87 (by decide)).trans h87; clear h87 ha hp
                        refine Reg.Op1.plain rfl ?_
                        go_wp2
                        exact ⟨rfl, hK _ _ rfl (fun j k _ _ => Reg.Adds.refl _ _ _)⟩
                      · intro val ac u hR hp ha K hK
                        have e1 : (ac.tmps[1]?).getD undef = .pointer (some ⟨w.heap.size, 0, none⟩) := ha 1 (by decide); obtain ⟨w88, h88, r88⟩ := hp 20 (by decide); have e88 : (ac.tmps[88]?).getD undef = .bool true := (ha 88 (by decide)).trans h88; clear h88 ha hp
                        refine Reg.Op1.guarded rfl rfl e88 (fun _ => Reg.Op1.plain rfl ?_) (fun h => absurd rfl h)
                        go_wp2
                        exact ⟨rfl, hK _ _ rfl (fun j k _ _ => Reg.Adds.refl _ _ _)⟩
                      · intro val ac u hR hp ha K hK
                        obtain ⟨w89, h89, r89⟩ := hp 21 (by decide); have e89 : (ac.tmps[89]?).getD undef = .pointer (some ⟨w.heap.size, 18, none⟩) := (ha 89 (by decide)).trans h89; obtain ⟨w88, h88, r88⟩ := hp 20 (by decide); have e88 : (ac.tmps[88]?).getD undef = .bool true := (ha 88 (by decide)).trans h88; clear h89 h88 ha hp
                        refine Reg.Op1.guarded rfl rfl e88 (fun _ => Reg.Op1.plain rfl ?_) (fun h => absurd rfl h)
                        have x0 := (hR.cell (p := ⟨w.heap.size, 18, none⟩) H4.out.E.lt).trans (H4.out.E.cell (j := 18) rfl)
                        go_wp2
                        exact ⟨rfl, hK _ _ rfl (fun j k _ _ => Reg.Adds.refl _ _ _)⟩
                      · intro val ac u hR hp ha K hK
                        obtain ⟨w90, h90, r90⟩ := hp 22 (by decide); have e90 : (ac.tmps[90]?).getD undef = .int .i64 e.cl := (ha 90 (by decide)).trans h90; obtain ⟨w88, h88, r88⟩ := hp 20 (by decide); have e88 : (ac.tmps[88]?).getD undef = .bool true := (ha 88 (by decide)).trans h88; clear h90 h88 ha hp
                        refine Reg.Op1.guarded rfl rfl e88 (fun _ => Reg.Op1.plain rfl ?_) (fun h => absurd rfl h)
                        go_wp2
                        exact ⟨rfl, hK _ _ rfl (fun j k _ _ => Reg.Adds.refl _ _ _)⟩
                      · intro val ac u hR hp ha K hK
                        obtain ⟨w88, h88, r88⟩ := hp 20 (by decide); have e88 : (ac.tmps[88]?).getD undef = .bool true := (ha 88 (by decide)).trans h88; obtain ⟨w91, h91, r91⟩ := hp 23 (by decide); have e91 : (ac.tmps[91]?).getD undef = .bool true := (ha 91 (by decide)).trans h91; clear h88 h91 ha hp
                        refine Reg.Op1.plain rfl ?_
                        go_wp2
                        exact ⟨rfl, hK _ _ rfl (fun j k _ _ => Reg.Adds.refl _ _ _)⟩
                      · intro val ac u hR hp ha K hK
                        obtain ⟨w92, h92, r92⟩ := hp 24 (by decide); have e92 : (ac.tmps[92]?).getD undef = .bool true := (ha 92 (by decide)).trans h92; clear h92 ha hp
                        refine Reg.Op1.plain rfl ?_
                        go_wp2
                        exact ⟨rfl, hK _ _ rfl (fun j k _ _ => Reg.Adds.refl _ _ _)⟩
                      · intro val ac u hR hp ha K hK
                        have e1 : (ac.tmps[1]?).getD undef = .pointer (some ⟨w.heap.size, 0, none⟩) := ha 1 (by decide); obtain ⟨w93, h93, r93⟩ := hp 25 (by decide); have e93 : (ac.tmps[93]?).getD undef = .bool true := (ha 93 (by decide)).trans h93; clear h93 ha hp
                        refine Reg.Op1.guarded rfl rfl e93 (fun _ => Reg.Op1.plain rfl ?_) (fun h => absurd rfl h)
                        go_wp2
                        exact ⟨rfl, hK _ _ rfl (fun j k _ _ => Reg.Adds.refl _ _ _)⟩
                      · intro val ac u hR hp ha K hK
                        obtain ⟨w94, h94, r94⟩ := hp 26 (by decide); have e94 : (ac.tmps[94]?).getD undef = .pointer (some ⟨w.heap.size, 18, none⟩) := (ha 94 (by decide)).trans h94; obtain ⟨w93, h93, r93⟩ := hp 25 (by decide); have e93 : (ac.tmps[93]?).getD undef = .bool true := (ha 93 (by decide)).trans h93; clear h94 h93 ha hp
                        refine Reg.Op1.guarded rfl rfl e93 (fun _ => Reg.Op1.plain rfl ?_) (fun h => absurd rfl h)
                        have x0 := (hR.cell (p := ⟨w.heap.size, 18, none⟩) H4.out.E.lt).trans (H4.out.E.cell (j := 18) rfl)
                        go_wp2
                        exact ⟨rfl, hK _ _ rfl (fun j k _ _ => Reg.Adds.refl _ _ _)⟩
                      · intro val ac u hR hp ha K hK
                        obtain ⟨w95, h95, r95⟩ := hp 27 (by decide); have e95 : (ac.tmps[95]?).getD undef = .int .i64 e.cl := (ha 95 (by decide)).trans h95; obtain ⟨w93, h93, r93⟩ := hp 25 (by decide); have e93 : (ac.tmps[93]?).getD undef = .bool true := (ha 93 (by decide)).trans h93; clear h95 h93 ha hp
                        refine Reg.Op1.guarded rfl rfl e93 (fun _ => Reg.Op1.plain rfl ?_) (fun h => absurd rfl h)
                        go_wp2
                        exact ⟨rfl, hK _ _ rfl (fun j k _ _ => Reg.Adds.refl _ _ _)⟩
                      · intro val ac u hR hp ha K hK
                        obtain ⟨w93, h93, r93⟩ := hp 25 (by decide); have e93 : (ac.tmps[93]?).getD undef = .bool true := (ha 93 (by decide)).trans h93; obtain ⟨w96, h96, r96⟩ := hp 28 (by decide); have e96 : (ac.tmps[96]?).getD undef = .bool true := (ha 96 (by decide)).trans h96; clear h93 h96 ha hp
                        refine Reg.Op1.plain rfl ?_
                        go_wp2
                        exact ⟨rfl, hK _ _ rfl (fun j k _ _ => Reg.Adds.refl _ _ _)⟩
                      · intro val ac u hR hp ha K hK
                        obtain ⟨w97, h97, r97⟩ := hp 29 (by decide); have e97 : (ac.tmps[97]?).getD undef = .bool true := (ha 97 (by decide)).trans h97; clear h97 ha hp
                        refine Reg.Op1.plain rfl ?_
                        go_wp2
                        exact ⟨rfl, hK _ _ rfl (fun j k _ _ => Reg.Adds.refl _ _ _)⟩
                      · intro val ac u hR hp ha K hK
                        have e1 : (ac.tmps[1]?).getD undef = .pointer (some ⟨w.heap.size, 0, none⟩) := ha 1 (by decide); obtain ⟨w98, h98, r98⟩ := hp 30 (by decide); have e98 : (ac.tmps[98]?).getD undef = .bool true := (ha 98 (by decide)).trans h98; clear h98 ha hp
                        refine Reg.Op1.guarded rfl rfl e98 (fun _ => Reg.Op1.plain rfl ?_) (fun h => absurd rfl h)
                        go_wp2
                        exact ⟨rfl, hK _ _ rfl (fun j k _ _ => Reg.Adds.refl _ _ _)⟩
                      · intro val ac u hR hp ha K hK
                        obtain ⟨w99, h99, r99⟩ := hp 31 (by decide); have e99 : (ac.tmps[99]?).getD undef = .pointer (some ⟨w.heap.size, 19, none⟩) := (ha 99 (by decide)).trans h99; obtain ⟨w98, h98, r98⟩ := hp 30 (by decide); have e98 : (ac.tmps[98]?).getD undef = .bool true := (ha 98 (by decide)).trans h98; clear h99 h98 ha hp
                        refine Reg.Op1.guarded rfl rfl e98 (fun _ => Reg.Op1.plain rfl ?_) (fun h => absurd rfl h)
                        have x0 := (hR.cell (p := ⟨w.heap.size, 19, none⟩) H4.out.E.lt).trans (H4.out.E.cell (j := 19) rfl)
                        go_wp2
                        exact ⟨rfl, hK _ _ rfl (fun j k _ _ => Reg.Adds.refl _ _ _)⟩
                      · intro val ac u hR hp ha K hK
                        obtain ⟨w100, h100, r100⟩ := hp 32 (by decide); have e100 : (ac.tmps[100]?).getD undef = .int .i64 e.op := (ha 100 (by decide)).trans h100; obtain ⟨w98, h98, r98⟩ := hp 30 (by decide); have e98 : (ac.tmps[98]?).getD undef = .bool true := (ha 98 (by decide)).trans h98; clear h100 h98 ha hp
                        refine Reg.Op1.guarded rfl rfl e98 (fun _ => Reg.Op1.plain rfl ?_) (fun h => absurd rfl h)
                        go_wp2
                        exact ⟨rfl, hK _ _ rfl (fun j k _ _ => Reg.Adds.refl _ _ _)⟩
                      · intro val ac u hR hp ha K hK
                        obtain ⟨w98, h98, r98⟩ := hp 30 (by decide); have e98 : (ac.tmps[98]?).getD undef = .bool true := (ha 98 (by decide)).trans h98; obtain ⟨w101, h101, r101⟩ := hp 33 (by decide); have e101 : (ac.tmps[101]?).getD undef = .bool false := (ha 101 (by decide)).trans h101; clear h98 h101 ha hp
                        refine Reg.Op1.plain rfl ?_
                        go_wp2
                        exact ⟨rfl, hK _ _ rfl (fun j k _ _ => Reg.Adds.refl _ _ _)⟩
                      · intro val ac u hR hp ha K hK
                        obtain ⟨w102, h102, r102⟩ := hp 34 (by decide); have e102 : (ac.tmps[102]?).getD undef = .bool false := (ha 102 (by decide)).trans h102; clear h102 ha hp
                        refine Reg.Op1.plain rfl ?_
                        go_wp2
                        exact ⟨rfl, hK _ _ rfl (fun j k _ _ => Reg.Adds.refl _ _ _)⟩
                      · intro val ac u hR hp ha K hK; obtain ⟨_, h, _⟩ := hp 35 (by decide); exact Reg.Op1.guarded rfl rfl ((ha 103 (by decide)).trans h) (fun h => by cases h) (fun _ => hK _ _ rfl (fun j k _ _ => Reg.Adds.refl _ _ _))
                      · intro val ac u hR hp ha K hK; obtain ⟨_, h, _⟩ := hp 35 (by decide); exact Reg.Op1.guarded rfl rfl ((ha 103 (by decide)).trans h) (fun h => by cases h) (fun _ => hK _ _ rfl (fun j k _ _ => Reg.Adds.refl _ _ _))
                      · intro val ac u hR hp ha K hK; obtain ⟨_, h, _⟩ := hp 35 (by decide); exact Reg.Op1.guarded rfl rfl ((ha 103 (by decide)).trans h) (fun h => by cases h) (fun _ => hK _ _ rfl (fun j k _ _ => Reg.Adds.refl _ _ _))
                      · intro val ac u hR hp ha K hK
                        obtain ⟨w103, h103, r103⟩ := hp 35 (by decide); have e103 : (ac.tmps[103]?).getD undef = .bool false := (ha 103 (by decide)).trans h103; obtain ⟨w106, h106, r106⟩ := hp 38 (by decide); have e106 : (ac.tmps[106]?).getD undef = undef := (ha 106 (by decide)).trans h106; clear h103 h106 ha hp
                        refine Reg.Op1.plain rfl ?_
                        go_wp2
                        exact ⟨rfl, hK _ _ rfl (fun j k _ _ => Reg.Adds.refl _ _ _)⟩
                      · intro val ac u hR hp ha K hK
                        obtain ⟨w107, h107, r107⟩ := hp 39 (by decide); have e107 : (ac.tmps[107]?).getD undef = .bool false := (ha 107 (by decide)).trans h107; clear h107 ha hp
                        refine Reg.Op1.plain rfl ?_
                        go_wp2
                        exact ⟨rfl, hK _ _ rfl (fun j k _ _ => Reg.Adds.refl _ _ _)⟩
                    · intro val u hR H
                      obtain ⟨_, hv, _⟩ := H 40 (by decide)
                      have hv : val 40 = .bool false := hv
                      have HN : Hid (RrAt w e u) := H4.out.below ((Below.refl _ w9).drew.trans hR)
                      simp only [List.map_cons, List.map_nil, Reg.lay, Act.put, List.setIfInBounds_toArray, List.set_cons_succ, List.set_cons_zero, Nat.reduceAdd, hv]
                      clear hR H hv
                      go_wp2
                      go_ret
                      first | exact ⟨rfl, HN.out.b⟩ | exact ⟨by rw [hr]; rfl, HN.out.b⟩
                · have d2 : decide (e.cl < 4) = false := by simpa using h2
                  have hr : rightE e = false := by simp [rightE, g5, h2]
                  clear h1 h2
                  refine Reg.wp_region_rel (by kernel_rfl) 108 41 rfl rfl (by kernel_rfl) (Reg.Adds) (Reg.Adds.refl) (Reg.Adds.trans)
                    (fun i v u => match i with
                      | 0 => v = .pointer (some ⟨w.heap.size, 9, none⟩)
                      | 1 => v = .agg (vcCells e.deps).toArray
                      | 2 => v = .bool true
                      | 3 => v = .bool true
                      | 4 => v = .pointer (some ⟨w.heap.size, 0, none⟩)
                      | 5 => v = .pointer (some ⟨w.heap.size, 0, none⟩)
                      | 6 => v = .int .i64 (dn : Int)
                      | 7 => v = .pointer (some ⟨w.heap.size, 0, none⟩)
                      | 8 => v = .pointer (some ⟨w.heap.size, 1, none⟩)
                      | 9 => v = .int .i64 (rn : Int)
                      | 10 => v = .pointer (some ⟨w.heap.size, 9, none⟩)
                      | 11 => v = .pointer (some ⟨w.heap.size, 9 + dn * 3, none⟩)
                      | 12 => v = .pointer (some ⟨w.heap.size, 9 + dn * 3 + rn, none⟩)
                      | 13 => v = .int .i64 dv
                      | 14 => v = .pointer (some ⟨w.heap.size, 0, none⟩)
                      | 15 => v = .pointer (some ⟨w.heap.size, 2, none⟩)
                      | 16 => v = .int .i64 e.seq
                      | 17 => v = .int .i64 (e.seq - 1)
                      | 18 => v = .bool true
                      | 19 => v = .bool true
                      | 20 => v = .bool true
                      | 21 => v = .pointer (some ⟨w.heap.size, 18, none⟩)
                      | 22 => v = .int .i64 e.cl
                      | 23 => v = .bool true
                      | 24 => v = .bool true
                      | 25 => v = .bool true
                      | 26 => v = .pointer (some ⟨w.heap.size, 18, none⟩)
                      | 27 => v = .int .i64 e.cl
                      | 28 => v = .bool false
                      | 29 => v = .bool false
                      | 30 => v = .bool false
                      | 31 => v = undef
                      | 32 => v = undef
                      | 33 => v = undef
                      | 34 => v = .bool false
                      | 35 => v = .bool false
                      | 36 => v = undef
                      | 37 => v = undef
                      | 38 => v = undef
                      | 39 => v = .bool false
                      | 40 => v = .bool false
                      | _ => True) ?_ ?_
                  · refine Reg.Steps.cons ?_ (Reg.Steps.cons ?_ (Reg.Steps.cons ?_ (Reg.Steps.cons ?_ (Reg.Steps.cons ?_ (Reg.Steps.cons ?_ (Reg.Steps.cons ?_ (Reg.Steps.cons ?_ (Reg.Steps.cons ?_ (Reg.Steps.cons ?_ (Reg.Steps.cons ?_ (Reg.Steps.cons ?_ (Reg.Steps.cons ?_ (Reg.Steps.cons ?_ (Reg.Steps.cons ?_ (Reg.Steps.cons ?_ (Reg.Steps.cons ?_ (Reg.Steps.cons ?_ (Reg.Steps.cons ?_ (Reg.Steps.cons ?_ (Reg.Steps.cons ?_ (Reg.Steps.cons ?_ (Reg.Steps.cons ?_ (Reg.Steps.cons ?_ (Reg.Steps.cons ?_ (Reg.Steps.cons ?_ (Reg.Steps.cons ?_ (Reg.Steps.cons ?_ (Reg.Steps.cons ?_ (Reg.Steps.cons ?_ (Reg.Steps.cons ?_ (Reg.Steps.cons ?_ (Reg.Steps.cons ?_ (Reg.Steps.cons ?_ (Reg.Steps.cons ?_ (Reg.Steps.cons ?_ (Reg.Steps.cons ?_ (Reg.Steps.cons ?_ (Reg.Steps.cons ?_ (Reg.Steps.cons ?_ (Reg.Steps.cons ?_ (Reg.Steps.nil _)))))))))))))))))))))))))))))))))))))))))
                    · intro val ac u hR hp ha K hK
                      have e1 : (ac.tmps[1]?).getD undef = .pointer (some ⟨w.heap.size, 0, none⟩) := ha 1 (by decide); clear ha hp
                      refine Reg.Op1.plain rfl ?_
                      go_wp2
                      exact ⟨rfl, hK _ _ rfl (fun j k _ _ => Reg.Adds.refl _ _ _)⟩
                    · intro val ac u hR hp ha K hK
                      obtain ⟨w68, h68, r68⟩ := hp 0 (by decide); have e68 : (ac.tmps[68]?).getD undef = .pointer (some ⟨w.heap.size, 9, none⟩) := (ha 68 (by decide)).trans h68; clear h68 ha hp
                      refine Reg.Op1.plain rfl ?_
                      have hEu : EBx u w.heap.size e := Mem.Bx.below (w := w9.drew) H4.out.E hR H4.out.E.lt
                      refine Mem.load_agg _ _ vec_agg w.heap.size 9 (vcCells e.deps) (Reg.eval_of e68) (vcCells_length _) (hEu.part 9 rfl) ?_
                      exact ⟨rfl, hK _ _ rfl (fun j k _ _ => Reg.Adds.refl _ _ _)⟩
                    · intro val ac u hR hp ha K hK
                      obtain ⟨w69, h69, r69⟩ := hp 1 (by decide); have e69 : (ac.tmps[69]?).getD undef = .agg (vcCells e.deps).toArray := (ha 69 (by decide)).trans h69; clear h69 ha hp
                      refine Reg.Op1.plain rfl ?_
                      go_wp2_with fail
                      refine (refVRight_any e.deps u).mono ?_
                      rintro x w' ⟨rfl, hbw⟩
                      rw [hrv]
                      go_wp2_with fail
                      exact ⟨rfl, hK _ _ rfl (fun j k _ _ => hbw)⟩
                    · intro val ac u hR hp ha K hK
                      obtain ⟨w70, h70, r70⟩ := hp 2 (by decide); have e70 : (ac.tmps[70]?).getD undef = .bool true := (ha 70 (by decide)).trans h70; clear h70 ha hp
                      refine Reg.Op1.plain rfl ?_
                      go_wp2
                      exact ⟨rfl, hK _ _ rfl (fun j k _ _ => Reg.Adds.refl _ _ _)⟩
                    · intro val ac u hR hp ha K hK
                      have e1 : (ac.tmps[1]?).getD undef = .pointer (some ⟨w.heap.size, 0, none⟩) := ha 1 (by decide); obtain ⟨w71, h71, r71⟩ := hp 3 (by decide); have e71 : (ac.tmps[71]?).getD undef = .bool true := (ha 71 (by decide)).trans h71; clear h71 ha hp
                      refine Reg.Op1.guarded rfl rfl e71 (fun _ => Reg.Op1.plain rfl ?_) (fun h => absurd rfl h)
                      go_wp2
                      exact ⟨rfl, hK _ _ rfl (fun j k _ _ => Reg.Adds.refl _ _ _)⟩
                    · intro val ac u hR hp ha K hK
                      obtain ⟨w72, h72, r72⟩ := hp 4 (by decide); have e72 : (ac.tmps[72]?).getD undef = .pointer (some ⟨w.heap.size, 0, none⟩) := (ha 72 (by decide)).trans h72; obtain ⟨w71, h71, r71⟩ := hp 3 (by decide); have e71 : (ac.tmps[71]?).getD undef = .bool true := (ha 71 (by decide)).trans h71; clear h72 h71 ha hp
                      refine Reg.Op1.guarded rfl rfl e71 (fun _ => Reg.Op1.plain rfl ?_) (fun h => absurd rfl h)
                      go_wp2
                      exact ⟨rfl, hK _ _ rfl (fun j k _ _ => Reg.Adds.refl _ _ _)⟩
                    · intro val ac u hR hp ha K hK
                      obtain ⟨w73, h73, r73⟩ := hp 5 (by decide); have e73 : (ac.tmps[73]?).getD undef = .pointer (some ⟨w.heap.size, 0, none⟩) := (ha 73 (by decide)).trans h73; obtain ⟨w71, h71, r71⟩ := hp 3 (by decide); have e71 : (ac.tmps[71]?).getD undef = .bool true := (ha 71 (by decide)).trans h71; clear h73 h71 ha hp
                      refine Reg.Op1.guarded rfl rfl e71 (fun _ => Reg.Op1.plain rfl ?_) (fun h => absurd rfl h)
                      have x0 := (hR.cell (p := ⟨w.heap.size, 0, none⟩) H4.out.E.lt).trans (H4.out.E.cell (j := 0) rfl)
                      rw [hdn] at x0
                      go_wp2
                      exact ⟨rfl, hK _ _ rfl (fun j k _ _ => Reg.Adds.refl _ _ _)⟩
                    · intro val ac u hR hp ha K hK
                      have e1 : (ac.tmps[1]?).getD undef = .pointer (some ⟨w.heap.size, 0, none⟩) := ha 1 (by decide); obtain ⟨w71, h71, r71⟩ := hp 3 (by decide); have e71 : (ac.tmps[71]?).getD undef = .bool true := (ha 71 (by decide)).trans h71; clear h71 ha hp
                      refine Reg.Op1.guarded rfl rfl e71 (fun _ => Reg.Op1.plain rfl ?_) (fun h => absurd rfl h)
                      go_wp2
                      exact ⟨rfl, hK _ _ rfl (fun j k _ _ => Reg.Adds.refl _ _ _)⟩
                    · intro val ac u hR hp ha K hK
                      obtain ⟨w75, h75, r75⟩ := hp 7 (by decide); have e75 : (ac.tmps[75]?).getD undef = .pointer (some ⟨w.heap.size, 0, none⟩) := (ha 75 (by decide)).trans h75; obtain ⟨w71, h71, r71⟩ := hp 3 (by decide); have e71 : (ac.tmps[71]?).getD undef = .bool true := (ha 71 (by decide)).trans h71; clear h75 h71 ha hp
                      refine Reg.Op1.guarded rfl rfl e71 (fun _ => Reg.Op1.plain rfl ?_) (fun h => absurd rfl h)
                      go_wp2
                      exact ⟨rfl, hK _ _ rfl (fun j k _ _ => Reg.Adds.refl _ _ _)⟩
                    · intro val ac u hR hp ha K hK
                      obtain ⟨w76, h76, r76⟩ := hp 8 (by decide); have e76 : (ac.tmps[76]?).getD undef = .pointer (some ⟨w.heap.size, 1, none⟩) := (ha 76 (by decide)).trans h76; obtain ⟨w71, h71, r71⟩ := hp 3 (by decide); have e71 : (ac.tmps[71]?).getD undef = .bool true := (ha 71 (by decide)).trans h71; clear h76 h71 ha hp
                      refine Reg.Op1.guarded rfl rfl e71 (fun _ => Reg.Op1.plain rfl ?_) (fun h => absurd rfl h)
                      have x0 := (hR.cell (p := ⟨w.heap.size, 1, none⟩) H4.out.E.lt).trans (H4.out.E.cell (j := 1) rfl)
                      rw [hrn] at x0
                      go_wp2
                      exact ⟨rfl, hK _ _ rfl (fun j k _ _ => Reg.Adds.refl _ _ _)⟩
                    · intro val ac u hR hp ha K hK
                      have e1 : (ac.tmps[1]?).getD undef = .pointer (some ⟨w.heap.size, 0, none⟩) := ha 1 (by decide); obtain ⟨w71, h71, r71⟩ := hp 3 (by decide); have e71 : (ac.tmps[71]?).getD undef = .bool true := (ha 71 (by decide)).trans h71; clear h71 ha hp
                      refine Reg.Op1.guarded rfl rfl e71 (fun _ => Reg.Op1.plain rfl ?_) (fun h => absurd rfl h)
                      go_wp2
                      exact ⟨rfl, hK _ _ rfl (fun j k _ _ => Reg.Adds.refl _ _ _)⟩
                    · intro val ac u hR hp ha K hK
                      obtain ⟨w78, h78, r78⟩ := hp 10 (by decide); have e78 : (ac.tmps[78]?).getD undef = .pointer (some ⟨w.heap.size, 9, none⟩) := (ha 78 (by decide)).trans h78; obtain ⟨w74, h74, r74⟩ := hp 6 (by decide); have e74 : (ac.tmps[74]?).getD undef = .int .i64 (dn : Int) := (ha 74 (by decide)).trans h74; obtain ⟨w71, h71, r71⟩ := hp 3 (by decide); have e71 : (ac.tmps[71]?).getD undef = .bool true := (ha 71 (by decide)).trans h71; clear h78 h74 h71 ha hp
                      refine Reg.Op1.guarded rfl rfl e71 (fun _ => Reg.Op1.plain rfl ?_) (fun h => absurd rfl h)
                      go_wp2
                      exact ⟨rfl, hK _ _ rfl (fun j k _ _ => Reg.Adds.refl _ _ _)⟩
                    · intro val ac u hR hp ha K hK
                      obtain ⟨w79, h79, r79⟩ := hp 11 (by decide); have e79 : (ac.tmps[79]?).getD undef = .pointer (some ⟨w.heap.size, 9 + dn * 3, none⟩) := (ha 79 (by decide)).trans h79; obtain ⟨w77, h77, r77⟩ := hp 9 (by decide); have e77 : (ac.tmps[77]?).getD undef = .int .i64 (rn : Int) := (ha 77 (by decide)).trans h77; obtain ⟨w71, h71, r71⟩ := hp 3 (by decide); have e71 : (ac.tmps[71]?).getD undef = .bool true := (ha 71 (by decide)).trans h71; clear h79 h77 h71 ha hp
                      refine Reg.Op1.guarded rfl rfl e71 (fun _ => Reg.Op1.plain rfl ?_) (fun h => absurd rfl h)
                      go_wp2
                      exact ⟨rfl, hK _ _ rfl (fun j k _ _ => Reg.Adds.refl _ _ _)⟩
                    · intro val ac u hR hp ha K hK
                      obtain ⟨w80, h80, r80⟩ := hp 12 (by decide); have e80 : (ac.tmps[80]?).getD undef = .pointer (some ⟨w.heap.size, 9 + dn * 3 + rn, none⟩) := (ha 80 (by decide)).trans h80; obtain ⟨w71, h71, r71⟩ := hp 3 (by decide); have e71 : (ac.tmps[71]?).getD undef = .bool true := (ha 71 (by decide)).trans h71; clear h80 h71 ha hp
                      refine Reg.Op1.guarded rfl rfl e71 (fun _ => Reg.Op1.plain rfl ?_) (fun h => absurd rfl h)
                      have x0 := (hR.cell (p := ⟨w.heap.size, 9 + dn * 3 + rn, none⟩) H4.out.E.lt).trans (H4.out.E.cell (j := 9 + dn * 3 + rn) (deps_cell e hd3 hr3))
                      rw [hdv] at x0
                      go_wp2
                      exact ⟨rfl, hK _ _ rfl (fun j k _ _ => Reg.Adds.refl _ _ _)⟩
                    · intro val ac u hR hp ha K hK
                      have e1 : (ac.tmps[1]?).getD undef = .pointer (some ⟨w.heap.size, 0, none⟩) := ha 1 (by decide); obtain ⟨w71, h71, r71⟩ := hp 3 (by decide); have e71 : (ac.tmps[71]?).getD undef = .bool true := (ha 71 (by decide)).trans h71; clear h71 ha hp
                      refine Reg.Op1.guarded rfl rfl e71 (fun _ => Reg.Op1.plain rfl ?_) (fun h => absurd rfl h)
                      go_wp2
                      exact ⟨rfl, hK _ _ rfl (fun j k _ _ => Reg.Adds.refl _ _ _)⟩
                    · intro val ac u hR hp ha K hK
                      obtain ⟨w82, h82, r82⟩ := hp 14 (by decide); have e82 : (ac.tmps[82]?).getD undef = .pointer (some ⟨w.heap.size, 0, none⟩) := (ha 82 (by decide)).trans h82; obtain ⟨w71, h71, r71⟩ := hp 3 (by decide); have e71 : (ac.tmps[71]?).getD undef = .bool true := (ha 71 (by decide)).trans h71; clear h82 h71 ha hp
                      refine Reg.Op1.guarded rfl rfl e71 (fun _ => Reg.Op1.plain rfl ?_) (fun h => absurd rfl h)
                      go_wp2
                      exact ⟨rfl, hK _ _ rfl (fun j k _ _ => Reg.Adds.refl _ _ _)⟩
                    · intro val ac u hR hp ha K hK
                      obtain ⟨w83, h83, r83⟩ := hp 15 (by decide); have e83 : (ac.tmps[83]?).getD undef = .pointer (some ⟨w.heap.size, 2, none⟩) := (ha 83 (by decide)).trans h83; obtain ⟨w71, h71, r71⟩ := hp 3 (by decide); have e71 : (ac.tmps[71]?).getD undef = .bool true := (ha 71 (by decide)).trans h71; clear h83 h71 ha hp
                      refine Reg.Op1.guarded rfl rfl e71 (fun _ => Reg.Op1.plain rfl ?_) (fun h => absurd rfl h)
                      have x0 := (hR.cell (p := ⟨w.heap.size, 2, none⟩) H4.out.E.lt).trans (H4.out.E.cell (j := 2) rfl)
                      go_wp2
                      exact ⟨rfl, hK _ _ rfl (fun j k _ _ => Reg.Adds.refl _ _ _)⟩
                    · intro val ac u hR hp ha K hK
                      obtain ⟨w84, h84, r84⟩ := hp 16 (by decide); have e84 : (ac.tmps[84]?).getD undef = .int .i64 e.seq := (ha 84 (by decide)).trans h84; obtain ⟨w71, h71, r71⟩ := hp 3 (by decide); have e71 : (ac.tmps[71]?).getD undef = .bool true := (ha 71 (by decide)).trans h71; clear h84 h71 ha hp
                      refine Reg.Op1.guarded rfl rfl e71 (fun _ => Reg.Op1.plain rfl ?_) (fun h => absurd rfl h)
                      go_wp2
                      exact ⟨rfl, hK _ _ rfl (fun j k _ _ => Reg.Adds.refl _ _ _)⟩
                    · intro val ac u hR hp ha K hK
                      obtain ⟨w81, h81, r81⟩ := hp 13 (by decide); have e81 : (ac.tmps[81]?).getD undef = .int .i64 dv := (ha 81 (by decide)).trans h81; obtain ⟨w85, h85, r85⟩ := hp 17 (by decide); have e85 : (ac.tmps[85]?).getD undef = .int .i64 (e.seq - 1) := (ha 85 (by decide)).trans h85; obtain ⟨w71, h71, r71⟩ := hp 3 (by decide); have e71 : (ac.tmps[71]?).getD undef = .bool true := (ha 71 (by decide)).trans h71; clear h81 h85 h71 ha hp
                      refine Reg.Op1.guarded rfl rfl e71 (fun _ => Reg.Op1.plain rfl ?_) (fun h => absurd rfl h)
                      go_wp2
                      exact ⟨rfl, hK _ _ rfl (fun j k _ _ => Reg.Adds.refl _ _ _)⟩
                    · intro val ac u hR hp ha K hK
                      obtain ⟨w71, h71, r71⟩ := hp 3 (by decide); have e71 : (ac.tmps[71]?).getD undef = .bool true := (ha 71 (by decide)).trans h71; obtain ⟨w86, h86, r86⟩ := hp 18 (by decide); have e86 : (ac.tmps[86]?).getD undef = .bool true := (ha 86 (by decide)).trans h86; clear h71 h86 ha hp
                      refine Reg.Op1.plain rfl ?_
                      go_wp2
                      exact ⟨rfl, hK _ _ rfl (fun j k _ _ => Reg.Adds.refl _ _ _)⟩
                    · intro val ac u hR hp ha K hK
                      obtain ⟨w87, h87, r87⟩ := hp 19 (by decide); have e87 : (ac.tmps[87]?).getD undef = .bool true := (ha 87 (by decide)).trans h87; clear h87 ha hp
                      refine Reg.Op1.plain rfl ?_
                      go_wp2
                      exact ⟨rfl, hK _ _ rfl (fun j k _ _ => Reg.Adds.refl _ _ _)⟩
                    · intro val ac u hR hp ha K hK
                      have e1 : (ac.tmps[1]?).getD undef = .pointer (some ⟨w.heap.size, 0, none⟩) := ha 1 (by decide); obtain ⟨w88, h88, r88⟩ := hp 20 (by decide); have e88 : (ac.tmps[88]?).getD undef = .bool true := (ha 88 (by decide)).trans h88; clear h88 ha hp
                      refine Reg.Op1.guarded rfl rfl e88 (fun _ => Reg.Op1.plain rfl ?_) (fun h => absurd rfl h)
                      go_wp2
                      exact ⟨rfl, hK _ _ rfl (fun j k _ _ => Reg.Adds.refl _ _ _)⟩
                    · intro val ac u hR hp ha K hK
                      obtain ⟨w89, h89, r89⟩ := hp 21 (by decide); have e89 : (ac.tmps[89]?).getD undef = .pointer (some ⟨w.heap.size, 18, none⟩) := (ha 89 (by decide)).trans h89; obtain ⟨w88, h88, r88⟩ := hp 20 (by decide); have e88 : (ac.tmps[88]?).getD undef = .bool true := (ha 88 (by decide)).trans h88; clear h89 h88 ha hp
                      refine Reg.Op1.guarded rfl rfl e88 (fun _ => Reg.Op1.plain rfl ?_) (fun h => absurd rfl h)
                      have x0 := (hR.cell (p := ⟨w.heap.size, 18, none⟩) H4.out.E.lt).trans (H4.out.E.cell (j := 18) rfl)
                      go_wp2
                      exact ⟨rfl, hK _ _ rfl (fun j k _ _ => Reg.Adds.refl _ _ _)⟩
                    · intro val ac u hR hp ha K hK
                      obtain ⟨w90, h90, r90⟩ := hp 22 (by decide); have e90 : (ac.tmps[90]?).getD undef = .int .i64 e.cl := (ha 90 (by decide)).trans h90; obtain ⟨w88, h88, r88⟩ := hp 20 (by decide); have e88 : (ac.tmps[88]?).getD undef = .bool true := (ha 88 (by decide)).trans h88; clear h90 h88 ha hp
                      refine Reg.Op1.guarded rfl rfl e88 (fun _ => Reg.Op1.plain rfl ?_) (fun h => absurd rfl h)
                      go_wp2
                      exact ⟨rfl, hK _ _ rfl (fun j k _ _ => Reg.Adds.refl _ _ _)⟩
                    · intro val ac u hR hp ha K hK
                      obtain ⟨w88, h88, r88⟩ := hp 20 (by decide); have e88 : (ac.tmps[88]?).getD undef = .bool true := (ha 88 (by decide)).trans h88; obtain ⟨w91, h91, r91⟩ := hp 23 (by decide); have e91 : (ac.tmps[91]?).getD undef = .bool true := (ha 91 (by decide)).trans h91; clear h88 h91 ha hp
                      refine Reg.Op1.plain rfl ?_
                      go_wp2
                      exact ⟨rfl, hK _ _ rfl (fun j k _ _ => Reg.Adds.refl _ _ _)⟩
                    · intro val ac u hR hp ha K hK
                      obtain ⟨w92, h92, r92⟩ := hp 24 (by decide); have e92 : (ac.tmps[92]?).getD undef = .bool true := (ha 92 (by decide)).trans h92; clear h92 ha hp
                      refine Reg.Op1.plain rfl ?_
                      go_wp2
                      exact ⟨rfl, hK _ _ rfl (fun j k _ _ => Reg.Adds.refl _ _ _)⟩
                    · intro val ac u hR hp ha K hK
                      have e1 : (ac.tmps[1]?).getD undef = .pointer (some ⟨w.heap.size, 0, none⟩) := ha 1 (by decide); obtain ⟨w93, h93, r93⟩ := hp 25 (by decide); have e93 : (ac.tmps[93]?).getD undef = .bool true := (ha 93 (by decide)).trans h93; clear h93 ha hp
                      refine Reg.Op1.guarded rfl rfl e93 (fun _ => Reg.Op1.plain rfl ?_) (fun h => absurd rfl h)
                      go_wp2
                      exact ⟨rfl, hK _ _ rfl (fun j k _ _ => Reg.Adds.refl _ _ _)⟩
                    · intro val ac u hR hp ha K hK
                      obtain ⟨w94, h94, r94⟩ := hp 26 (by decide); have e94 : (ac.tmps[94]?).getD undef = .pointer (some ⟨w.heap.size, 18, none⟩) := (ha 94 (by decide)).trans h94; obtain ⟨w93, h93, r93⟩ := hp 25 (by decide); have e93 : (ac.tmps[93]?).getD undef = .bool true := (ha 93 (by decide)).trans h93; clear h94 h93 ha hp
                      refine Reg.Op1.guarded rfl rfl e93 (fun _ => Reg.Op1.plain rfl ?_) (fun h => absurd rfl h)
                      have x0 := (hR.cell (p := ⟨w.heap.size, 18, none⟩) H4.out.E.lt).trans (H4.out.E.cell (j := 18) rfl)
                      go_wp2
                      exact ⟨rfl, hK _ _ rfl (fun j k _ _ => Reg.Adds.refl _ _ _)⟩
                    · intro val ac u hR hp ha K hK
                      obtain ⟨w95, h95, r95⟩ := hp 27 (by decide); have e95 : (ac.tmps[95]?).getD undef = .int .i64 e.cl := (ha 95 (by decide)).trans h95; obtain ⟨w93, h93, r93⟩ := hp 25 (by decide); have e93 : (ac.tmps[93]?).getD undef = .bool true := (ha 93 (by decide)).trans h93; clear h95 h93 ha hp
                      refine Reg.Op1.guarded rfl rfl e93 (fun _ => Reg.Op1.plain rfl ?_) (fun h => absurd rfl h)
                      go_wp2
                      exact ⟨rfl, hK _ _ rfl (fun j k _ _ => Reg.Adds.refl _ _ _)⟩
                    · intro val ac u hR hp ha K hK
                      obtain ⟨w93, h93, r93⟩ := hp 25 (by decide); have e93 : (ac.tmps[93]?).getD undef = .bool true := (ha 93 (by decide)).trans h93; obtain ⟨w96, h96, r96⟩ := hp 28 (by decide); have e96 : (ac.tmps[96]?).getD undef = .bool false := (ha 96 (by decide)).trans h96; clear h93 h96 ha hp
                      refine Reg.Op1.plain rfl ?_
                      go_wp2
                      exact ⟨rfl, hK _ _ rfl (fun j k _ _ => Reg.Adds.refl _ _ _)⟩
                    · intro val ac u hR hp ha K hK
                      obtain ⟨w97, h97, r97⟩ := hp 29 (by decide); have e97 : (ac.tmps[97]?).getD undef = .bool false := (ha 97 (by decide)).trans h97; clear h97 ha hp
                      refine Reg.Op1.plain rfl ?_
                      go_wp2
                      exact ⟨rfl, hK _ _ rfl (fun j k _ _ => Reg.Adds.refl _ _ _)⟩
                    · intro val ac u hR hp ha K hK; obtain ⟨_, h, _⟩ := hp 30 (by decide); exact Reg.Op1.guarded rfl rfl ((ha 98 (by decide)).trans h) (fun h => by cases h) (fun _ => hK _ _ rfl (fun j k _ _ => Reg.Adds.refl _ _ _))
                    · intro val ac u hR hp ha K hK; obtain ⟨_, h, _⟩ := hp 30 (by decide); exact Reg.Op1.guarded rfl rfl ((ha 98 (by decide)).trans h) (fun h => by cases h) (fun _ => hK _ _ rfl (fun j k _ _ => Reg.Adds.refl _ _ _))
                    · intro val ac u hR hp ha K hK; obtain ⟨_, h, _⟩ := hp 30 (by decide); exact Reg.Op1.guarded rfl rfl ((ha 98 (by decide)).trans h) (fun h => by cases h) (fun _ => hK _ _ rfl (fun j k _ _ => Reg.Adds.refl _ _ _))
                    · intro val ac u hR hp ha K hK
                      obtain ⟨w98, h98, r98⟩ := hp 30 (by decide); have e98 : (ac.tmps[98]?).getD undef = .bool false := (ha 98 (by decide)).trans h98; obtain ⟨w101, h101, r101⟩ := hp 33 (by decide); have e101 : (ac.tmps[101]?).getD undef = undef := (ha 101 (by decide)).trans h101; clear h98 h101 ha hp
                      refine Reg.Op1.plain rfl ?_
                      go_wp2
                      exact ⟨rfl, hK _ _ rfl (fun j k _ _ => Reg.Adds.refl _ _ _)⟩
                    · intro val ac u hR hp ha K hK
                      obtain ⟨w102, h102, r102⟩ := hp 34 (by decide); have e102 : (ac.tmps[102]?).getD undef = .bool false := (ha 102 (by decide)).trans h102; clear h102 ha hp
                      refine Reg.Op1.plain rfl ?_
                      go_wp2
                      exact ⟨rfl, hK _ _ rfl (fun j k _ _ => Reg.Adds.refl _ _ _)⟩
                    · intro val ac u hR hp ha K hK; obtain ⟨_, h, _⟩ := hp 35 (by decide); exact Reg.Op1.guarded rfl rfl ((ha 103 (by decide)).trans h) (fun h => by cases h) (fun _ => hK _ _ rfl (fun j k _ _ => Reg.Adds.refl _ _ _))
                    · intro val ac u hR hp ha K hK; obtain ⟨_, h, _⟩ := hp 35 (by decide); exact Reg.Op1.guarded rfl rfl ((ha 103 (by decide)).trans h) (fun h => by cases h) (fun _ => hK _ _ rfl (fun j k _ _ => Reg.Adds.refl _ _ _))
                    · intro val ac u hR hp ha K hK; obtain ⟨_, h, _⟩ := hp 35 (by decide); exact Reg.Op1.guarded rfl rfl ((ha 103 (by decide)).trans h) (fun h => by cases h) (fun _ => hK _ _ rfl (fun j k _ _ => Reg.Adds.refl _ _ _))
                    · intro val ac u hR hp ha K hK
                      obtain ⟨w103, h103, r103⟩ := hp 35 (by decide); have e103 : (ac.tmps[103]?).getD undef = .bool false := (ha 103 (by decide)).trans h103; obtain ⟨w106, h106, r106⟩ := hp 38 (by decide); have e106 : (ac.tmps[106]?).getD undef = undef := (ha 106 (by decide)).trans h106; clear h103 h106 ha hp
                      refine Reg.Op1.plain rfl ?_
                      go_wp2
                      exact ⟨rfl, hK _ _ rfl (fun j k _ _ => Reg.Adds.refl _ _ _)⟩
                    · intro val ac u hR hp ha K hK
                      obtain ⟨w107, h107, r107⟩ := hp 39 (by decide); have e107 : (ac.tmps[107]?).getD undef = .bool false := (ha 107 (by decide)).trans h107; clear h107 ha hp
                      refine Reg.Op1.plain rfl ?_
                      go_wp2
                      exact ⟨rfl, hK _ _ rfl (fun j k _ _ => Reg.Adds.refl _ _ _)⟩
                  · intro val u hR H
                    obtain ⟨_, hv, _⟩ := H 40 (by decide)
                    have hv : val 40 = .bool false := hv
                    have HN : Hid (RrAt w e u) := H4.out.below ((Below.refl _ w9).drew.trans hR)
                    simp only [List.map_cons, List.map_nil, Reg.lay, Act.put, List.setIfInBounds_toArray, List.set_cons_succ, List.set_cons_zero, Nat.reduceAdd, hv]
                    clear hR H hv
                    go_wp2
                    go_ret
                    first | exact ⟨rfl, HN.out.b⟩ | exact ⟨by rw [hr]; rfl, HN.out.b⟩
              · have d1 : decide (0 ≤ e.cl) = false := by simpa using h1
                have hr : rightE e = false := by simp [rightE, g5, h1]
                clear h1
                refine Reg.wp_region_rel (by kernel_rfl) 108 41 rfl rfl (by kernel_rfl) (Reg.Adds) (Reg.Adds.refl) (Reg.Adds.trans)
                  (fun i v u => match i with
                    | 0 => v = .pointer (some ⟨w.heap.size, 9, none⟩)
                    | 1 => v = .agg (vcCells e.deps).toArray
                    | 2 => v = .bool true
                    | 3 => v = .bool true
                    | 4 => v = .pointer (some ⟨w.heap.size, 0, none⟩)
                    | 5 => v = .pointer (some ⟨w.heap.size, 0, none⟩)
                    | 6 => v = .int .i64 (dn : Int)
                    | 7 => v = .pointer (some ⟨w.heap.size, 0, none⟩)
                    | 8 => v = .pointer (some ⟨w.heap.size, 1, none⟩)
                    | 9 => v = .int .i64 (rn : Int)
                    | 10 => v = .pointer (some ⟨w.heap.size, 9, none⟩)
                    | 11 => v = .pointer (some ⟨w.heap.size, 9 + dn * 3, none⟩)
                    | 12 => v = .pointer (some ⟨w.heap.size, 9 + dn * 3 + rn, none⟩)
                    | 13 => v = .int .i64 dv
                    | 14 => v = .pointer (some ⟨w.heap.size, 0, none⟩)
                    | 15 => v = .pointer (some ⟨w.heap.size, 2, none⟩)
                    | 16 => v = .int .i64 e.seq
                    | 17 => v = .int .i64 (e.seq - 1)
                    | 18 => v = .bool true
                    | 19 => v = .bool true
                    | 20 => v = .bool true
                    | 21 => v = .pointer (some ⟨w.heap.size, 18, none⟩)
                    | 22 => v = .int .i64 e.cl
                    | 23 => v = .bool false
                    | 24 => v = .bool false
                    | 25 => v = .bool false
                    | 26 => v = undef
                    | 27 => v = undef
                    | 28 => v = undef
                    | 29 => v = .bool false
                    | 30 => v = .bool false
                    | 31 => v = undef
                    | 32 => v = undef
                    | 33 => v = undef
                    | 34 => v = .bool false
                    | 35 => v = .bool false
                    | 36 => v = undef
                    | 37 => v = undef
                    | 38 => v = undef
                    | 39 => v = .bool false
                    | 40 => v = .bool false
                    | _ => True) ?_ ?_
                · refine Reg.Steps.cons ?_ (Reg.Steps.cons ?_ (Reg.Steps.cons ?_ (Reg.Steps.cons ?_ (Reg.Steps.cons ?_ (Reg.Steps.cons ?_ (Reg.Steps.cons ?_ (Reg.Steps.cons ?_ (Reg.Steps.cons ?_ (Reg.Steps.cons ?_ (Reg.Steps.cons ?_ (Reg.Steps.cons ?_ (Reg.Steps.cons ?_ (Reg.Steps.cons ?_ (Reg.Steps.cons ?_ (Reg.Steps.cons ?_ (Reg.Steps.cons ?_ (Reg.Steps.cons ?_ (Reg.Steps.cons ?_ (Reg.Steps.cons ?_ (Reg.Steps.cons ?_ (Reg.Steps.cons ?_ (Reg.Steps.cons ?_ (Reg.Steps.cons ?_ (Reg.Steps.cons ?_ (Reg.Steps.cons ?_ (Reg.Steps.cons ?_ (Reg.Steps.cons ?_ (Reg.Steps.cons ?_ (Reg.Steps.cons ?_ (Reg.Steps.cons ?_ (Reg.Steps.cons ?_ (Reg.Steps.cons ?_ (Reg.Steps.cons ?_ (Reg.Steps.cons ?_ (Reg.Steps.cons ?_ (Reg.Steps.cons ?_ (Reg.Steps.cons ?_ (Reg.Steps.cons ?_ (Reg.Steps.cons ?_ (Reg.Steps.cons ?_ (Reg.Steps.nil _)))))))))))))))))))))))))))))))))))))))))
                  · intro val ac u hR hp ha K hK
                    have e1 : (ac.tmps[1]?).getD undef = .pointer (some ⟨w.heap.size, 0, none⟩) := ha 1 (by decide); clear ha hp
                    refine Reg.Op1.plain rfl ?_
                    go_wp2
                    exact ⟨rfl, hK _ _ rfl (fun j k _ _ => Reg.Adds.refl _ _ _)⟩
                  · intro val ac u hR hp ha K hK
                    obtain ⟨w68, h68, r68⟩ := hp 0 (by decide); have e68 : (ac.tmps[68]?).getD undef = .pointer (some ⟨w.heap.size, 9, none⟩) := (ha 68 (by decide)).trans h68; clear h68 ha hp
                    refine Reg.Op1.plain rfl ?_
                    have hEu : EBx u w.heap.size e := Mem.Bx.below (w := w9.drew) H4.out.E hR H4.out.E.lt
                    refine Mem.load_agg _ _ vec_agg w.heap.size 9 (vcCells e.deps) (Reg.eval_of e68) (vcCells_length _) (hEu.part 9 rfl) ?_
                    exact ⟨rfl, hK _ _ rfl (fun j k _ _ => Reg.Adds.refl _ _ _)⟩
                  · intro val ac u hR hp ha K hK
                    obtain ⟨w69, h69, r69⟩ := hp 1 (by decide); have e69 : (ac.tmps[69]?).getD undef = .agg (vcCells e.deps).toArray := (ha 69 (by decide)).trans h69; clear h69 ha hp
                    refine Reg.Op1.plain rfl ?_
                    go_wp2_with fail
                    refine (refVRight_any e.deps u).mono ?_
                    rintro x w' ⟨rfl, hbw⟩
                    rw [hrv]
                    go_wp2_with fail
                    exact ⟨rfl, hK _ _ rfl (fun j k _ _ => hbw)⟩
                  · intro val ac u hR hp ha K hK
                    obtain ⟨w70, h70, r70⟩ := hp 2 (by decide); have e70 : (ac.tmps[70]?).getD undef = .bool true := (ha 70 (by decide)).trans h70; clear h70 ha hp
                    refine Reg.Op1.plain rfl ?_
                    go_wp2
                    exact ⟨rfl, hK _ _ rfl (fun j k _ _ => Reg.Adds.refl _ _ _)⟩
                  · intro val ac u hR hp ha K hK
                    have e1 : (ac.tmps[1]?).getD undef = .pointer (some ⟨w.heap.size, 0, none⟩) := ha 1 (by decide); obtain ⟨w71, h71, r71⟩ := hp 3 (by decide); have e71 : (ac.tmps[71]?).getD undef = .bool true := (ha 71 (by decide)).trans h71; clear h71 ha hp
                    refine Reg.Op1.guarded rfl rfl e71 (fun _ => Reg.Op1.plain rfl ?_) (fun h => absurd rfl h)
                    go_wp2
                    exact ⟨rfl, hK _ _ rfl (fun j k _ _ => Reg.Adds.refl _ _ _)⟩
                  · intro val ac u hR hp ha K hK
                    obtain ⟨w72, h72, r72⟩ := hp 4 (by decide); have e72 : (ac.tmps[72]?).getD undef = .pointer (some ⟨w.heap.size, 0, none⟩) := (ha 72 (by decide)).trans h72; obtain ⟨w71, h71, r71⟩ := hp 3 (by decide); have e71 : (ac.tmps[71]?).getD undef = .bool true := (ha 71 (by decide)).trans h71; clear h72 h71 ha hp
                    refine Reg.Op1.guarded rfl rfl e71 (fun _ => Reg.Op1.plain rfl ?_) (fun h => absurd rfl h)
                    go_wp2
                    exact ⟨rfl, hK _ _ rfl (fun j k _ _ => Reg.Adds.refl _ _ _)⟩
                  · intro val ac u hR hp ha K hK
                    obtain ⟨w73, h73, r73⟩ := hp 5 (by decide); have e73 : (ac.tmps[73]?).getD undef = .pointer (some ⟨w.heap.size, 0, none⟩) := (ha 73 (by decide)).trans h73; obtain ⟨w71, h71, r71⟩ := hp 3 (by decide); have e71 : (ac.tmps[71]?).getD undef = .bool true := (ha 71 (by decide)).trans h71; clear h73 h71 ha hp
                    refine Reg.Op1.guarded rfl rfl e71 (fun _ => Reg.Op1.plain rfl ?_) (fun h => absurd rfl h)
                    have x0 := (hR.cell (p := ⟨w.heap.size, 0, none⟩) H4.out.E.lt).trans (H4.out.E.cell (j := 0) rfl)
                    rw [hdn] at x0
                    go_wp2
                    exact ⟨rfl, hK _ _ rfl (fun j k _ _ => Reg.Adds.refl _ _ _)⟩
                  · intro val ac u hR hp ha K hK
                    have e1 : (ac.tmps[1]?).getD undef = .pointer (some ⟨w.heap.size, 0, none⟩) := ha 1 (by decide); obtain ⟨w71, h71, r71⟩ := hp 3 (by decide); have e71 : (ac.tmps[71]?).getD undef = .bool true := (ha 71 (by decide)).trans h71; clear h71 ha hp
                    refine Reg.Op1.guarded rfl rfl e71 (fun _ => Reg.Op1.plain rfl ?_) (fun h => absurd rfl h)
                    go_wp2
                    exact ⟨rfl, hK _ _ rfl (fun j k _ _ => Reg.Adds.refl _ _ _)⟩
                  · intro val ac u hR hp ha K hK
                    obtain ⟨w75, h75, r75⟩ := hp 7 (by decide); have e75 : (ac.tmps[75]?).getD undef = .pointer (some ⟨w.heap.size, 0, none⟩) := (ha 75 (by decide)).trans h75; obtain ⟨w71, h71, r71⟩ := hp 3 (by decide); have e71 : (ac.tmps[71]?).getD undef = .bool true := (ha 71 (by decide)).trans h71; clear h75 h71 ha hp
                    refine Reg.Op1.guarded rfl rfl e71 (fun _ => Reg.Op1.plain rfl ?_) (fun h => absurd rfl h)
                    go_wp2
                    exact ⟨rfl, hK _ _ rfl (fun j k _ _ => Reg.Adds.refl _ _ _)⟩
                  · intro val ac u hR hp ha K hK
                    obtain ⟨w76, h76, r76⟩ := hp 8 (by decide); have e76 : (ac.tmps[76]?).getD undef = .pointer (some ⟨w.heap.size, 1, none⟩) := (ha 76 (by decide)).trans h76; obtain ⟨w71, h71, r71⟩ := hp 3 (by decide); have e71 : (ac.tmps[71]?).getD undef = .bool true := (ha 71 (by decide)).trans h71; clear h76 h71 ha hp
                    refine Reg.Op1.guarded rfl rfl e71 (fun _ => Reg.Op1.plain rfl ?_) (fun h => absurd rfl h)
                    have x0 := (hR.cell (p := ⟨w.heap.size, 1, none⟩) H4.out.E.lt).trans (H4.out.E.cell (j := 1) rfl)
                    rw [hrn] at x0
                    go_wp2
                    exact ⟨rfl, hK _ _ rfl (fun j k _ _ => Reg.Adds.refl _ _ _)⟩
                  · intro val ac u hR hp ha K hK
                    have e1 : (ac.tmps[1]?).getD undef = .pointer (some ⟨w.heap.size, 0, none⟩) := ha 1 (by decide); obtain ⟨w71, h71, r71⟩ := hp 3 (by decide); have e71 : (ac.tmps[71]?).getD undef = .bool true := (ha 71 (by decide)).trans h71; clear h71 ha hp
                    refine Reg.Op1.guarded rfl rfl e71 (fun _ => Reg.Op1.plain rfl ?_) (fun h => absurd rfl h)
                    go_wp2
                    exact ⟨rfl, hK _ _ rfl (fun j k _ _ => Reg.Adds.refl _ _ _)⟩
                  · intro val ac u hR hp ha K hK
                    obtain ⟨w78, h78, r78⟩ := hp 10 (by decide); have e78 : (ac.tmps[78]?).getD undef = .pointer (some ⟨w.heap.size, 9, none⟩) := (ha 78 (by decide)).trans h78; obtain ⟨w74, h74, r74⟩ := hp 6 (by decide); have e74 : (ac.tmps[74]?).getD undef = .int .i64 (dn : Int) := (ha 74 (by decide)).trans h74; obtain ⟨w71, h71, r71⟩ := hp 3 (by decide); have e71 : (ac.tmps[71]?).getD undef = .bool true := (ha 71 (by decide)).trans h71; clear h78 h74 h71 ha hp
                    refine Reg.Op1.guarded rfl rfl e71 (fun _ => Reg.Op1.plain rfl ?_) (fun h => absurd rfl h)
                    go_wp2
                    exact ⟨rfl, hK _ _ rfl (fun j k _ _ => Reg.Adds.refl _ _ _)⟩
                  · intro val ac u hR hp ha K hK
                    obtain ⟨w79, h79, r79⟩ := hp 11 (by decide); have e79 : (ac.tmps[79]?).getD undef = .pointer (some ⟨w.heap.size, 9 + dn * 3, none⟩) := (ha 79 (by decide)).trans h79; obtain ⟨w77, h77, r77⟩ := hp 9 (by decide); have e77 : (ac.tmps[77]?).getD undef = .int .i64 (rn : Int) := (ha 77 (by decide)).trans h77; obtain ⟨w71, h71, r71⟩ := hp 3 (by decide); have e71 : (ac.tmps[71]?).getD undef = .bool true := (ha 71 (by decide)).trans h71; clear h79 h77 h71 ha hp
                    refine Reg.Op1.guarded rfl rfl e71 (fun _ => Reg.Op1.plain rfl ?_) (fun h => absurd rfl h)
                    go_wp2
                    exact ⟨rfl, hK _ _ rfl (fun j k _ _ => Reg.Adds.refl _ _ _)⟩
                  · intro val ac u hR hp ha K hK
                    obtain ⟨w80, h80, r80⟩ := hp 12 (by decide); have e80 : (ac.tmps[80]?).getD undef = .pointer (some ⟨w.heap.size, 9 + dn * 3 + rn, none⟩) := (ha 80 (by decide)).trans h80; obtain ⟨w71, h71, r71⟩ := hp 3 (by decide); have e71 : (ac.tmps[71]?).getD undef = .bool true := (ha 71 (by decide)).trans h71; clear h80 h71 ha hp
                    refine Reg.Op1.guarded rfl rfl e71 (fun _ => Reg.Op1.plain rfl ?_) (fun h => absurd rfl h)
                    have x0 := (hR.cell (p := ⟨w.heap.size, 9 + dn * 3 + rn, none⟩) H4.out.E.lt).trans (H4.out.E.cell (j := 9 + dn * 3 + rn) (deps_cell e hd3 hr3))
                    rw [hdv] at x0
                    go_wp2
                    exact ⟨rfl, hK _ _ rfl (fun j k _ _ => Reg.Adds.refl _ _ _)⟩
                  · intro val ac u hR hp ha K hK
                    have e1 : (ac.tmps[1]?).getD undef = .pointer (some ⟨w.heap.size, 0, none⟩) := ha 1 (by decide); obtain ⟨w71, h71, r71⟩ := hp 3 (by decide); have e71 : (ac.tmps[71]?).getD undef = .bool true := (ha 71 (by decide)).trans h71; clear h71 ha hp
                    refine Reg.Op1.guarded rfl rfl e71 (fun _ => Reg.Op1.plain rfl ?_) (fun h => absurd rfl h)
                    go_wp2
                    exact ⟨rfl, hK _ _ rfl (fun j k _ _ => Reg.Adds.refl _ _ _)⟩
                  · intro val ac u hR hp ha K hK
                    obtain ⟨w82, h82, r82⟩ := hp 14 (by decide); have e82 : (ac.tmps[82]?).getD undef = .pointer (some ⟨w.heap.size, 0, none⟩) := (ha 82 (by decide)).trans h82; obtain ⟨w71, h71, r71⟩ := hp 3 (by decide); have e71 : (ac.tmps[71]?).getD undef = .bool true := (ha 71 (by decide)).trans h71; clear h82 h71 ha hp
                    refine Reg.Op1.guarded rfl rfl e71 (fun _ => Reg.Op1.plain rfl ?_) (fun h => absurd rfl h)
                    go_wp2
                    exact ⟨rfl, hK _ _ rfl (fun j k _ _ => Reg.Adds.refl _ _ _)⟩
                  · intro val ac u hR hp ha K hK
                    obtain ⟨w83, h83, r83⟩ := hp 15 (by decide); have e83 : (ac.tmps[83]?).getD undef = .pointer (some ⟨w.heap.size, 2, none⟩) := (ha 83 (by decide)).trans h83; obtain ⟨w71, h71, r71⟩ := hp 3 (by decide); have e71 : (ac.tmps[71]?).getD undef = .bool true := (ha 71 (by decide)).trans h71; clear h83 h71 ha hp
                    refine Reg.Op1.guarded rfl rfl e71 (fun _ => Reg.Op1.plain rfl ?_) (fun h => absurd rfl h)
                    have x0 := (hR.cell (p := ⟨w.heap.size, 2, none⟩) H4.out.E.lt).trans (H4.out.E.cell (j := 2) rfl)
                    go_wp2
                    exact ⟨rfl, hK _ _ rfl (fun j k _ _ => Reg.Adds.refl _ _ _)⟩
                  · intro val ac u hR hp ha K hK
                    obtain ⟨w84, h84, r84⟩ := hp 16 (by decide); have e84 : (ac.tmps[84]?).getD undef = .int .i64 e.seq := (ha 84 (by decide)).trans h84; obtain ⟨w71, h71, r71⟩ := hp 3 (by decide); have e71 : (ac.tmps[71]?).getD undef = .bool true := (ha 71 (by decide)).trans h71; clear h84 h71 ha hp
                    refine Reg.Op1.guarded rfl rfl e71 (fun _ => Reg.Op1.plain rfl ?_) (fun h => absurd rfl h)
                    go_wp2
                    exact ⟨rfl, hK _ _ rfl (fun j k _ _ => Reg.Adds.refl _ _ _)⟩
                  · intro val ac u hR hp ha K hK
                    obtain ⟨w81, h81, r81⟩ := hp 13 (by decide); have e81 : (ac.tmps[81]?).getD undef = .int .i64 dv := (ha 81 (by decide)).trans h81; obtain ⟨w85, h85, r85⟩ := hp 17 (by decide); have e85 : (ac.tmps[85]?).getD undef = .int .i64 (e.seq - 1) := (ha 85 (by decide)).trans h85; obtain ⟨w71, h71, r71⟩ := hp 3 (by decide); have e71 : (ac.tmps[71]?).getD undef = .bool true := (ha 71 (by decide)).trans h71; clear h81 h85 h71 ha hp
                    refine Reg.Op1.guarded rfl rfl e71 (fun _ => Reg.Op1.plain rfl ?_) (fun h => absurd rfl h)
                    go_wp2
                    exact ⟨rfl, hK _ _ rfl (fun j k _ _ => Reg.Adds.refl _ _ _)⟩
                  · intro val ac u hR hp ha K hK
                    obtain ⟨w71, h71, r71⟩ := hp 3 (by decide); have e71 : (ac.tmps[71]?).getD undef = .bool true := (ha 71 (by decide)).trans h71; obtain ⟨w86, h86, r86⟩ := hp 18 (by decide); have e86 : (ac.tmps[86]?).getD undef = .bool true := (ha 86 (by decide)).trans h86; clear h71 h86 ha hp
                    refine Reg.Op1.plain rfl ?_
                    go_wp2
                    exact ⟨rfl, hK _ _ rfl (fun j k _ _ => Reg.Adds.refl _ _ _)⟩
                  · intro val ac u hR hp ha K hK
                    obtain ⟨w87, h87, r87⟩ := hp 19 (by decide); have e87 : (ac.tmps[87]?).getD undef = .bool true := (ha 87 (by decide)).trans h87; clear h87 ha hp
                    refine Reg.Op1.plain rfl ?_
                    go_wp2
                    exact ⟨rfl, hK _ _ rfl (fun j k _ _ => Reg.Adds.refl _ _ _)⟩
                  · intro val ac u hR hp ha K hK
                    have e1 : (ac.tmps[1]?).getD undef = .pointer (some ⟨w.heap.size, 0, none⟩) := ha 1 (by decide); obtain ⟨w88, h88, r88⟩ := hp 20 (by decide); have e88 : (ac.tmps[88]?).getD undef = .bool true := (ha 88 (by decide)).trans h88; clear h88 ha hp
                    refine Reg.Op1.guarded rfl rfl e88 (fun _ => Reg.Op1.plain rfl ?_) (fun h => absurd rfl h)
                    go_wp2
                    exact ⟨rfl, hK _ _ rfl (fun j k _ _ => Reg.Adds.refl _ _ _)⟩
                  · intro val ac u hR hp ha K hK
                    obtain ⟨w89, h89, r89⟩ := hp 21 (by decide); have e89 : (ac.tmps[89]?).getD undef = .pointer (some ⟨w.heap.size, 18, none⟩) := (ha 89 (by decide)).trans h89; obtain ⟨w88, h88, r88⟩ := hp 20 (by decide); have e88 : (ac.tmps[88]?).getD undef = .bool true := (ha 88 (by decide)).trans h88; clear h89 h88 ha hp
                    refine Reg.Op1.guarded rfl rfl e88 (fun _ => Reg.Op1.plain rfl ?_) (fun h => absurd rfl h)
                    have x0 := (hR.cell (p := ⟨w.heap.size, 18, none⟩) H4.out.E.lt).trans (H4.out.E.cell (j := 18) rfl)
                    go_wp2
                    exact ⟨rfl, hK _ _ rfl (fun j k _ _ => Reg.Adds.refl _ _ _)⟩
                  · intro val ac u hR hp ha K hK
                    obtain ⟨w90, h90, r90⟩ := hp 22 (by decide); have e90 : (ac.tmps[90]?).getD undef = .int .i64 e.cl := (ha 90 (by decide)).trans h90; obtain ⟨w88, h88, r88⟩ := hp 20 (by decide); have e88 : (ac.tmps[88]?).getD undef = .bool true := (ha 88 (by decide)).trans h88; clear h90 h88 ha hp
                    refine Reg.Op1.guarded rfl rfl e88 (fun _ => Reg.Op1.plain rfl ?_) (fun h => absurd rfl h)
                    go_wp2
                    exact ⟨rfl, hK _ _ rfl (fun j k _ _ => Reg.Adds.refl _ _ _)⟩
                  · intro val ac u hR hp ha K hK
                    obtain ⟨w88, h88, r88⟩ := hp 20 (by decide); have e88 : (ac.tmps[88]?).getD undef = .bool true := (ha 88 (by decide)).trans h88; obtain ⟨w91, h91, r91⟩ := hp 23 (by decide); have e91 : (ac.tmps[91]?).getD undef = .bool false := (ha 91 (by decide)).trans h91; clear h88 h91 ha hp
                    refine Reg.Op1.plain rfl ?_
                    go_wp2
                    exact ⟨rfl, hK _ _ rfl (fun j k _ _ => Reg.Adds.refl _ _ _)⟩
                  · intro val ac u hR hp ha K hK
                    obtain ⟨w92, h92, r92⟩ := hp 24 (by decide); have e92 : (ac.tmps[92]?).getD undef = .bool false := (ha 92 (by decide)).trans h92; clear h92 ha hp
                    refine Reg.Op1.plain rfl ?_
                    go_wp2
                    exact ⟨rfl, hK _ _ rfl (fun j k _ _ => Reg.Adds.refl _ _ _)⟩
                  · intro val ac u hR hp ha K hK; obtain ⟨_, h, _⟩ := hp 25 (by decide); exact Reg.Op1.guarded rfl rfl ((ha 93 (by decide)).trans h) (fun h => by cases h) (fun _ => hK _ _ rfl (fun j k _ _ => Reg.Adds.refl _ _ _))
                  · intro val ac u hR hp ha K hK; obtain ⟨_, h, _⟩ := hp 25 (by decide); exact Reg.Op1.guarded rfl rfl ((ha 93 (by decide)).trans h) (fun h => by cases h) (fun _ => hK _ _ rfl (fun j k _ _ => Reg.Adds.refl _ _ _))
                  · intro val ac u hR hp ha K hK; obtain ⟨_, h, _⟩ := hp 25 (by decide); exact Reg.Op1.guarded rfl rfl ((ha 93 (by decide)).trans h) (fun h => by cases h) (fun _ => hK _ _ rfl (fun j k _ _ => Reg.Adds.refl _ _ _))
                  · intro val ac u hR hp ha K hK
                    obtain ⟨w93, h93, r93⟩ := hp 25 (by decide); have e93 : (ac.tmps[93]?).getD undef = .bool false := (ha 93 (by decide)).trans h93; obtain ⟨w96, h96, r96⟩ := hp 28 (by decide); have e96 : (ac.tmps[96]?).getD undef = undef := (ha 96 (by decide)).trans h96; clear h93 h96 ha hp
                    refine Reg.Op1.plain rfl ?_
                    go_wp2
                    exact ⟨rfl, hK _ _ rfl (fun j k _ _ => Reg.Adds.refl _ _ _)⟩
                  · intro val ac u hR hp ha K hK
                    obtain ⟨w97, h97, r97⟩ := hp 29 (by decide); have e97 : (ac.tmps[97]?).getD undef = .bool false := (ha 97 (by decide)).trans h97; clear h97 ha hp
                    refine Reg.Op1.plain rfl ?_
                    go_wp2
                    exact ⟨rfl, hK _ _ rfl (fun j k _ _ => Reg.Adds.refl _ _ _)⟩
                  · intro val ac u hR hp ha K hK; obtain ⟨_, h, _⟩ := hp 30 (by decide); exact Reg.Op1.guarded rfl rfl ((ha 98 (by decide)).trans h) (fun h => by cases h) (fun _ => hK _ _ rfl (fun j k _ _ => Reg.Adds.refl _ _ _))
                  · intro val ac u hR hp ha K hK; obtain ⟨_, h, _⟩ := hp 30 (by decide); exact Reg.Op1.guarded rfl rfl ((ha 98 (by decide)).trans h) (fun h => by cases h) (fun _ => hK _ _ rfl (fun j k _ _ => Reg.Adds.refl _ _ _))
                  · intro val ac u hR hp ha K hK; obtain ⟨_, h, _⟩ := hp 30 (by decide); exact Reg.Op1.guarded rfl rfl ((ha 98 (by decide)).trans h) (fun h => by cases h) (fun _ => hK _ _ rfl (fun j k _ _ => Reg.Adds.refl _ _ _))
                  · intro val ac u hR hp ha K hK
                    obtain ⟨w98, h98, r98⟩ := hp 30 (by decide); have e98 : (ac.tmps[98]?).getD undef = .bool false := (ha 98 (by decide)).trans h98; obtain ⟨w101, h101, r101⟩ := hp 33 (by decide); have e101 : (ac.tmps[101]?).getD undef = undef := (ha 101 (by decide)).trans h101; clear h98 h101 ha hp
                    refine Reg.Op1.plain rfl ?_
                    go_wp2
                    exact ⟨rfl, hK _ _ rfl (fun j k _ _ => Reg.Adds.refl _ _ _)⟩
                  · intro val ac u hR hp ha K hK
                    obtain ⟨w102, h102, r102⟩ := hp 34 (by decide); have e102 : (ac.tmps[102]?).getD undef = .bool false := (ha 102 (by decide)).trans h102; clear h102 ha hp
                    refine Reg.Op1.plain rfl ?_
                    go_wp2
                    exact ⟨rfl, hK _ _ rfl (fun j k _ _ => Reg.Adds.refl _ _ _)⟩
                  · intro val ac u hR hp ha K hK; obtain ⟨_, h, _⟩ := hp 35 (by decide); exact Reg.Op1.guarded rfl rfl ((ha 103 (by decide)).trans h) (fun h => by cases h) (fun _ => hK _ _ rfl (fun j k _ _ => Reg.Adds.refl _ _ _))
                  · intro val ac u hR hp ha K hK; obtain ⟨_, h, _⟩ := hp 35 (by decide); exact Reg.Op1.guarded rfl rfl ((ha 103 (by decide)).trans h) (fun h => by cases h) (fun _ => hK _ _ rfl (fun j k _ _ => Reg.Adds.refl _ _ _))
                  · intro val ac u hR hp ha K hK; obtain ⟨_, h, _⟩ := hp 35 (by decide); exact Reg.Op1.guarded rfl rfl ((ha 103 (by decide)).trans h) (fun h => by cases h) (fun _ => hK _ _ rfl (fun j k _ _ => Reg.Adds.refl _ _ _))
                  · intro val ac u hR hp ha K hK
                    obtain ⟨w103, h103, r103⟩ := hp 35 (by decide); have e103 : (ac.tmps[103]?).getD undef = .bool false := (ha 103 (by decide)).trans h103; obtain ⟨w106, h106, r106⟩ := hp 38 (by decide); have e106 : (ac.tmps[106]?).getD undef = undef := (ha 106 (by decide)).trans h106; clear h103 h106 ha hp
                    refine Reg.Op1.plain rfl ?_
                    go_wp2
                    exact ⟨rfl, hK _ _ rfl (fun j k _ _ => Reg.Adds.refl _ _ _)⟩
                  · intro val ac u hR hp ha K hK
                    obtain ⟨w107, h107, r107⟩ := hp 39 (by decide); have e107 : (ac.tmps[107]?).getD undef = .bool false := (ha 107 (by decide)).trans h107; clear h107 ha hp
                    refine Reg.Op1.plain rfl ?_
                    go_wp2
                    exact ⟨rfl, hK _ _ rfl (fun j k _ _ => Reg.Adds.refl _ _ _)⟩
                · intro val u hR H
                  obtain ⟨_, hv, _⟩ := H 40 (by decide)
                  have hv : val 40 = .bool false := hv
                  have HN : Hid (RrAt w e u) := H4.out.below ((Below.refl _ w9).drew.trans hR)
                  simp only [List.map_cons, List.map_nil, Reg.lay, Act.put, List.setIfInBounds_toArray, List.set_cons_succ, List.set_cons_zero, Nat.reduceAdd, hv]
                  clear hR H hv
                  go_wp2
                  go_ret
                  first | exact ⟨rfl, HN.out.b⟩ | exact ⟨by rw [hr]; rfl, HN.out.b⟩
            · have hne : (dv == e.seq - 1) = false := by simp [heq]
              have hr : rightE e = false := by simp [rightE, g4, hdn0, hrn0, hdv, heq]
              clear heq
              refine Reg.wp_region_rel (by kernel_rfl) 108 41 rfl rfl (by kernel_rfl) (Reg.Adds) (Reg.Adds.refl) (Reg.Adds.trans)
                (fun i v u => match i with
                  | 0 => v = .pointer (some ⟨w.heap.size, 9, none⟩)
                  | 1 => v = .agg (vcCells e.deps).toArray
                  | 2 => v = .bool true
                  | 3 => v = .bool true
                  | 4 => v = .pointer (some ⟨w.heap.size, 0, none⟩)
                  | 5 => v = .pointer (some ⟨w.heap.size, 0, none⟩)
                  | 6 => v = .int .i64 (dn : Int)
                  | 7 => v = .pointer (some ⟨w.heap.size, 0, none⟩)
                  | 8 => v = .pointer (some ⟨w.heap.size, 1, none⟩)
                  | 9 => v = .int .i64 (rn : Int)
                  | 10 => v = .pointer (some ⟨w.heap.size, 9, none⟩)
                  | 11 => v = .pointer (some ⟨w.heap.size, 9 + dn * 3, none⟩)
                  | 12 => v = .pointer (some ⟨w.heap.size, 9 + dn * 3 + rn, none⟩)
                  | 13 => v = .int .i64 dv
                  | 14 => v = .pointer (some ⟨w.heap.size, 0, none⟩)
                  | 15 => v = .pointer (some ⟨w.heap.size, 2, none⟩)
                  | 16 => v = .int .i64 e.seq
                  | 17 => v = .int .i64 (e.seq - 1)
                  | 18 => v = .bool false
                  | 19 => v = .bool false
                  | 20 => v = .bool false
                  | 21 => v = undef
                  | 22 => v = undef
                  | 23 => v = undef
                  | 24 => v = .bool false
                  | 25 => v = .bool false
                  | 26 => v = undef
                  | 27 => v = undef
                  | 28 => v = undef
                  | 29 => v = .bool false
                  | 30 => v = .bool false
                  | 31 => v = undef
                  | 32 => v = undef
                  | 33 => v = undef
                  | 34 => v = .bool false
                  | 35 => v = .bool false
                  | 36 => v = undef
                  | 37 => v = undef
                  | 38 => v = undef
                  | 39 => v = .bool false
                  | 40 => v = .bool false
                  | _ => True) ?_ ?_
              · refine Reg.Steps.cons ?_ (Reg.Steps.cons ?_ (Reg.Steps.cons ?_ (Reg.Steps.cons ?_ (Reg.Steps.cons ?_ (Reg.Steps.cons ?_ (Reg.Steps.cons ?_ (Reg.Steps.cons ?_ (Reg.Steps.cons ?_ (Reg.Steps.cons ?_ (Reg.Steps.cons ?_ (Reg.Steps.cons ?_ (Reg.Steps.cons ?_ (Reg.Steps.cons ?_ (Reg.Steps.cons ?_ (Reg.Steps.cons ?_ (Reg.Steps.cons ?_ (Reg.Steps.cons ?_ (Reg.Steps.cons ?_ (Reg.Steps.cons ?_ (Reg.Steps.cons ?_ (Reg.Steps.cons ?_ (Reg.Steps.cons ?_ (Reg.Steps.cons ?_ (Reg.Steps.cons ?_ (Reg.Steps.cons ?_ (Reg.Steps.cons ?_ (Reg.Steps.cons ?_ (Reg.Steps.cons ?_ (Reg.Steps.cons ?_ (Reg.Steps.cons ?_ (Reg.Steps.cons ?_ (Reg.Steps.cons ?_ (Reg.Steps.cons ?_ (Reg.Steps.cons ?_ (Reg.Steps.cons ?_ (Reg.Steps.cons ?_ (Reg.Steps.cons ?_ (Reg.Steps.cons ?_ (Reg.Steps.cons ?_ (Reg.Steps.cons ?_ (Reg.Steps.nil _)))))))))))))))))))))))))))))))))))))))))
                · intro val ac u hR hp ha K hK
                  have e1 : (ac.tmps[1]?).getD undef = .pointer (some ⟨w.heap.size, 0, none⟩) := ha 1 (by decide); clear ha hp
                  refine Reg.Op1.plain rfl ?_
                  go_wp2
                  exact ⟨rfl, hK _ _ rfl (fun j k _ _ => Reg.Adds.refl _ _ _)⟩
                · intro val ac u hR hp ha K hK
                  obtain ⟨w68, h68, r68⟩ := hp 0 (by decide); have e68 : (ac.tmps[68]?).getD undef = .pointer (some ⟨w.heap.size, 9, none⟩) := (ha 68 (by decide)).trans h68; clear h68 ha hp
                  refine Reg.Op1.plain rfl ?_
                  have hEu : EBx u w.heap.size e := Mem.Bx.below (w := w9.drew) H4.out.E hR H4.out.E.lt
                  refine Mem.load_agg _ _ vec_agg w.heap.size 9 (vcCells e.deps) (Reg.eval_of e68) (vcCells_length _) (hEu.part 9 rfl) ?_
                  exact ⟨rfl, hK _ _ rfl (fun j k _ _ => Reg.Adds.refl _ _ _)⟩
                · intro val ac u hR hp ha K hK
                  obtain ⟨w69, h69, r69⟩ := hp 1 (by decide); have e69 : (ac.tmps[69]?).getD undef = .agg (vcCells e.deps).toArray := (ha 69 (by decide)).trans h69; clear h69 ha hp
                  refine Reg.Op1.plain rfl ?_
                  go_wp2_with fail
                  refine (refVRight_any e.deps u).mono ?_
                  rintro x w' ⟨rfl, hbw⟩
                  rw [hrv]
                  go_wp2_with fail
                  exact ⟨rfl, hK _ _ rfl (fun j k _ _ => hbw)⟩
                · intro val ac u hR hp ha K hK
                  obtain ⟨w70, h70, r70⟩ := hp 2 (by decide); have e70 : (ac.tmps[70]?).getD undef = .bool true := (ha 70 (by decide)).trans h70; clear h70 ha hp
                  refine Reg.Op1.plain rfl ?_
                  go_wp2
                  exact ⟨rfl, hK _ _ rfl (fun j k _ _ => Reg.Adds.refl _ _ _)⟩
                · intro val ac u hR hp ha K hK
                  have e1 : (ac.tmps[1]?).getD undef = .pointer (some ⟨w.heap.size, 0, none⟩) := ha 1 (by decide); obtain ⟨w71, h71, r71⟩ := hp 3 (by decide); have e71 : (ac.tmps[71]?).getD undef = .bool true := (ha 71 (by decide)).trans h71; clear h71 ha hp
                  refine Reg.Op1.guarded rfl rfl e71 (fun _ => Reg.Op1.plain rfl ?_) (fun h => absurd rfl h)
                  go_wp2
                  exact ⟨rfl, hK _ _ rfl (fun j k _ _ => Reg.Adds.refl _ _ _)⟩
                · intro val ac u hR hp ha K hK
                  obtain ⟨w72, h72, r72⟩ := hp 4 (by decide); have e72 : (ac.tmps[72]?).getD undef = .pointer (some ⟨w.heap.size, 0, none⟩) := (ha 72 (by decide)).trans h72; obtain ⟨w71, h71, r71⟩ := hp 3 (by decide); have e71 : (ac.tmps[71]?).getD undef = .bool true := (ha 71 (by decide)).trans h71; clear h72 h71 ha hp
                  refine Reg.Op1.guarded rfl rfl e71 (fun _ => Reg.Op1.plain rfl ?_) (fun h => absurd rfl h)
                  go_wp2
                  exact ⟨rfl, hK _ _ rfl (fun j k _ _ => Reg.Adds.refl _ _ _)⟩
                · intro val ac u hR hp ha K hK
                  obtain ⟨w73, h73, r73⟩ := hp 5 (by decide); have e73 : (ac.tmps[73]?).getD undef = .pointer (some ⟨w.heap.size, 0, none⟩) := (ha 73 (by decide)).trans h73; obtain ⟨w71, h71, r71⟩ := hp 3 (by decide); have e71 : (ac.tmps[71]?).getD undef = .bool true := (ha 71 (by decide)).trans h71; clear h73 h71 ha hp
                  refine Reg.Op1.guarded rfl rfl e71 (fun _ => Reg.Op1.plain rfl ?_) (fun h => absurd rfl h)
                  have x0 := (hR.cell (p := ⟨w.heap.size, 0, none⟩) H4.out.E.lt).trans (H4.out.E.cell (j := 0) rfl)
                  rw [hdn] at x0
                  go_wp2
                  exact ⟨rfl, hK _ _ rfl (fun j k _ _ => Reg.Adds.refl _ _ _)⟩
                · intro val ac u hR hp ha K hK
                  have e1 : (ac.tmps[1]?).getD undef = .pointer (some ⟨w.heap.size, 0, none⟩) := ha 1 (by decide); obtain ⟨w71, h71, r71⟩ := hp 3 (by decide); have e71 : (ac.tmps[71]?).getD undef = .bool true := (ha 71 (by decide)).trans h71; clear h71 ha hp
                  refine Reg.Op1.guarded rfl rfl e71 (fun _ => Reg.Op1.plain rfl ?_) (fun h => absurd rfl h)
                  go_wp2
                  exact ⟨rfl, hK _ _ rfl (fun j k _ _ => Reg.Adds.refl _ _ _)⟩
                · intro val ac u hR hp ha K hK
                  obtain ⟨w75, h75, r75⟩ := hp 7 (by decide); have e75 : (ac.tmps[75]?).getD undef = .pointer (some ⟨w.heap.size, 0, none⟩) := (ha 75 (by decide)).trans h75; obtain ⟨w71, h71, r71⟩ := hp 3 (by decide); have e71 : (ac.tmps[71]?).getD undef = .bool true := (ha 71 (by decide)).trans h71; clear h75 h71 ha hp
                  refine Reg.Op1.guarded rfl rfl e71 (fun _ => Reg.Op1.plain rfl ?_) (fun h => absurd rfl h)
                  go_wp2
                  exact ⟨rfl, hK _ _ rfl (fun j k _ _ => Reg.Adds.refl _ _ _)⟩
                · intro val ac u hR hp ha K hK
                  obtain ⟨w76, h76, r76⟩ := hp 8 (by decide); have e76 : (ac.tmps[76]?).getD undef = .pointer (some ⟨w.heap.size, 1, none⟩) := (ha 76 (by decide)).trans h76; obtain ⟨w71, h71, r71⟩ := hp 3 (by decide); have e71 : (ac.tmps[71]?).getD undef = .bool true := (ha 71 (by decide)).trans h71; clear h76 h71 ha hp
                  refine Reg.Op1.guarded rfl rfl e71 (fun _ => Reg.Op1.plain rfl ?_) (fun h => absurd rfl h)
                  have x0 := (hR.cell (p := ⟨w.heap.size, 1, none⟩) H4.out.E.lt).trans (H4.out.E.cell (j := 1) rfl)
                  rw [hrn] at x0
                  go_wp2
                  exact ⟨rfl, hK _ _ rfl (fun j k _ _ => Reg.Adds.refl _ _ _)⟩
                · intro val ac u hR hp ha K hK
                  have e1 : (ac.tmps[1]?).getD undef = .pointer (some ⟨w.heap.size, 0, none⟩) := ha 1 (by decide); obtain ⟨w71, h71, r71⟩ := hp 3 (by decide); have e71 : (ac.tmps[71]?).getD undef = .bool true := (ha 71 (by decide)).trans h71; clear h71 ha hp
                  refine Reg.Op1.guarded rfl rfl e71 (fun _ => Reg.Op1.plain rfl ?_) (fun h => absurd rfl h)
                  go_wp2
                  exact ⟨rfl, hK _ _ rfl (fun j k _ _ => Reg.Adds.refl _ _ _)⟩
                · intro val ac u hR hp ha K hK
                  obtain ⟨w78, h78, r78⟩ := hp 10 (by decide); have e78 : (ac.tmps[78]?).getD undef = .pointer (some ⟨w.heap.size, 9, none⟩) := (ha 78 (by decide)).trans h78; obtain ⟨w74, h74, r74⟩ := hp 6 (by decide); have e74 : (ac.tmps[74]?).getD undef = .int .i64 (dn : Int) := (ha 74 (by decide)).trans h74; obtain ⟨w71, h71, r71⟩ := hp 3 (by decide); have e71 : (ac.tmps[71]?).getD undef = .bool true := (ha 71 (by decide)).trans h71; clear h78 h74 h71 ha hp
                  refine Reg.Op1.guarded rfl rfl e71 (fun _ => Reg.Op1.plain rfl ?_) (fun h => absurd rfl h)
                  go_wp2
                  exact ⟨rfl, hK _ _ rfl (fun j k _ _ => Reg.Adds.refl _ _ _)⟩
                · intro val ac u hR hp ha K hK
                  obtain ⟨w79, h79, r79⟩ := hp 11 (by decide); have e79 : (ac.tmps[79]?).getD undef = .pointer (some ⟨w.heap.size, 9 + dn * 3, none⟩) := (ha 79 (by decide)).trans h79; obtain ⟨w77, h77, r77⟩ := hp 9 (by decide); have e77 : (ac.tmps[77]?).getD undef = .int .i64 (rn : Int) := (ha 77 (by decide)).trans h77; obtain ⟨w71, h71, r71⟩ := hp 3 (by decide); have e71 : (ac.tmps[71]?).getD undef = .bool true := (ha 71 (by decide)).trans h71; clear h79 h77 h71 ha hp
                  refine Reg.Op1.guarded rfl rfl e71 (fun _ => Reg.Op1.plain rfl ?_) (fun h => absurd rfl h)
                  go_wp2
                  exact ⟨rfl, hK _ _ rfl (fun j k _ _ => Reg.Adds.refl _ _ _)⟩
                · intro val ac u hR hp ha K hK
                  obtain ⟨w80, h80, r80⟩ := hp 12 (by decide); have e80 : (ac.tmps[80]?).getD undef = .pointer (some ⟨w.heap.size, 9 + dn * 3 + rn, none⟩) := (ha 80 (by decide)).trans h80; obtain ⟨w71, h71, r71⟩ := hp 3 (by decide); have e71 : (ac.tmps[71]?).getD undef = .bool true := (ha 71 (by decide)).trans h71; clear h80 h71 ha hp
                  refine Reg.Op1.guarded rfl rfl e71 (fun _ => Reg.Op1.plain rfl ?_) (fun h => absurd rfl h)
                  have x0 := (hR.cell (p := ⟨w.heap.size, 9 + dn * 3 + rn, none⟩) H4.out.E.lt).trans (H4.out.E.cell (j := 9 + dn * 3 + rn) (deps_cell e hd3 hr3))
                  rw [hdv] at x0
                  go_wp2
                  exact ⟨rfl, hK _ _ rfl (fun j k _ _ => Reg.Adds.refl _ _ _)⟩
                · intro val ac u hR hp ha K hK
                  have e1 : (ac.tmps[1]?).getD undef = .pointer (some ⟨w.heap.size, 0, none⟩) := ha 1 (by decide); obtain ⟨w71, h71, r71⟩ := hp 3 (by decide); have e71 : (ac.tmps[71]?).getD undef = .bool true := (ha 71 (by decide)).trans h71; clear h71 ha hp
                  refine Reg.Op1.guarded rfl rfl e71 (fun _ => Reg.Op1.plain rfl ?_) (fun h => absurd rfl h)
                  go_wp2
                  exact ⟨rfl, hK _ _ rfl (fun j k _ _ => Reg.Adds.refl _ _ _)⟩
                · intro val ac u hR hp ha K hK
                  obtain ⟨w82, h82, r82⟩ := hp 14 (by decide); have e82 : (ac.tmps[82]?).getD undef = .pointer (some ⟨w.heap.size, 0, none⟩) := (ha 82 (by decide)).trans h82; obtain ⟨w71, h71, r71⟩ := hp 3 (by decide); have e71 : (ac.tmps[71]?).getD undef = .bool true := (ha 71 (by decide)).trans h71; clear h82 h71 ha hp
                  refine Reg.Op1.guarded rfl rfl e71 (fun _ => Reg.Op1.plain rfl ?_) (fun h => absurd rfl h)
                  go_wp2
                  exact ⟨rfl, hK _ _ rfl (fun j k _ _ => Reg.Adds.refl _ _ _)⟩
                · intro val ac u hR hp ha K hK
                  obtain ⟨w83, h83, r83⟩ := hp 15 (by decide); have e83 : (ac.tmps[83]?).getD undef = .pointer (some ⟨w.heap.size, 2, none⟩) := (ha 83 (by decide)).trans h83; obtain ⟨w71, h71, r71⟩ := hp 3 (by decide); have e71 : (ac.tmps[71]?).getD undef = .bool true := (ha 71 (by decide)).trans h71; clear h83 h71 ha hp
                  refine Reg.Op1.guarded rfl rfl e71 (fun _ => Reg.Op1.plain rfl ?_) (fun h => absurd rfl h)
                  have x0 := (hR.cell (p := ⟨w.heap.size, 2, none⟩) H4.out.E.lt).trans (H4.out.E.cell (j := 2) rfl)
                  go_wp2
                  exact ⟨rfl, hK _ _ rfl (fun j k _ _ => Reg.Adds.refl _ _ _)⟩
                · intro val ac u hR hp ha K hK
                  obtain ⟨w84, h84, r84⟩ := hp 16 (by decide); have e84 : (ac.tmps[84]?).getD undef = .int .i64 e.seq := (ha 84 (by decide)).trans h84; obtain ⟨w71, h71, r71⟩ := hp 3 (by decide); have e71 : (ac.tmps[71]?).getD undef = .bool true := (ha 71 (by decide)).trans h71; clear h84 h71 ha hp
                  refine Reg.Op1.guarded rfl rfl e71 (fun _ => Reg.Op1.plain rfl ?_) (fun h => absurd rfl h)
                  go_wp2
                  exact ⟨rfl, hK _ _ rfl (fun j k _ _ => Reg.Adds.refl _ _ _)⟩
                · intro val ac u hR hp ha K hK
                  obtain ⟨w81, h81, r81⟩ := hp 13 (by decide); have e81 : (ac.tmps[81]?).getD undef = .int .i64 dv := (ha 81 (by decide)).trans h81; obtain ⟨w85, h85, r85⟩ := hp 17 (by decide); have e85 : (ac.tmps[85]?).getD undef = .int .i64 (e.seq - 1) := (ha 85 (by decide)).trans h85; obtain ⟨w71, h71, r71⟩ := hp 3 (by decide); have e71 : (ac.tmps[71]?).getD undef = .bool true := (ha 71 (by decide)).trans h71; clear h81 h85 h71 ha hp
                  refine Reg.Op1.guarded rfl rfl e71 (fun _ => Reg.Op1.plain rfl ?_) (fun h => absurd rfl h)
                  go_wp2
                  exact ⟨rfl, hK _ _ rfl (fun j k _ _ => Reg.Adds.refl _ _ _)⟩
                · intro val ac u hR hp ha K hK
                  obtain ⟨w71, h71, r71⟩ := hp 3 (by decide); have e71 : (ac.tmps[71]?).getD undef = .bool true := (ha 71 (by decide)).trans h71; obtain ⟨w86, h86, r86⟩ := hp 18 (by decide); have e86 : (ac.tmps[86]?).getD undef = .bool false := (ha 86 (by decide)).trans h86; clear h71 h86 ha hp
                  refine Reg.Op1.plain rfl ?_
                  go_wp2
                  exact ⟨rfl, hK _ _ rfl (fun j k _ _ => Reg.Adds.refl _ _ _)⟩
                · intro val ac u hR hp ha K hK
                  obtain ⟨w87, h87, r87⟩ := hp 19 (by decide); have e87 : (ac.tmps[87]?).getD undef = .bool false := (ha 87 (by decide)).trans h87; clear h87 ha hp
                  refine Reg.Op1.plain rfl ?_
                  go_wp2
                  exact ⟨rfl, hK _ _ rfl (fun j k _ _ => Reg.Adds.refl _ _ _)⟩
                · intro val ac u hR hp ha K hK; obtain ⟨_, h, _⟩ := hp 20 (by decide); exact Reg.Op1.guarded rfl rfl ((ha 88 (by decide)).trans h) (fun h => by cases h) (fun _ => hK _ _ rfl (fun j k _ _ => Reg.Adds.refl _ _ _))
                · intro val ac u hR hp ha K hK; obtain ⟨_, h, _⟩ := hp 20 (by decide); exact Reg.Op1.guarded rfl rfl ((ha 88 (by decide)).trans h) (fun h => by cases h) (fun _ => hK _ _ rfl (fun j k _ _ => Reg.Adds.refl _ _ _))
                · intro val ac u hR hp ha K hK; obtain ⟨_, h, _⟩ := hp 20 (by decide); exact Reg.Op1.guarded rfl rfl ((ha 88 (by decide)).trans h) (fun h => by cases h) (fun _ => hK _ _ rfl (fun j k _ _ => Reg.Adds.refl _ _ _))
                · intro val ac u hR hp ha K hK
                  obtain ⟨w88, h88, r88⟩ := hp 20 (by decide); have e88 : (ac.tmps[88]?).getD undef = .bool false := (ha 88 (by decide)).trans h88; obtain ⟨w91, h91, r91⟩ := hp 23 (by decide); have e91 : (ac.tmps[91]?).getD undef = undef := (ha 91 (by decide)).trans h91; clear h88 h91 ha hp
                  refine Reg.Op1.plain rfl ?_
                  go_wp2
                  exact ⟨rfl, hK _ _ rfl (fun j k _ _ => Reg.Adds.refl _ _ _)⟩
                · intro val ac u hR hp ha K hK
                  obtain ⟨w92, h92, r92⟩ := hp 24 (by decide); have e92 : (ac.tmps[92]?).getD undef = .bool false := (ha 92 (by decide)).trans h92; clear h92 ha hp
                  refine Reg.Op1.plain rfl ?_
                  go_wp2
                  exact ⟨rfl, hK _ _ rfl (fun j k _ _ => Reg.Adds.refl _ _ _)⟩
                · intro val ac u hR hp ha K hK; obtain ⟨_, h, _⟩ := hp 25 (by decide); exact Reg.Op1.guarded rfl rfl ((ha 93 (by decide)).trans h) (fun h => by cases h) (fun _ => hK _ _ rfl (fun j k _ _ => Reg.Adds.refl _ _ _))
                · intro val ac u hR hp ha K hK; obtain ⟨_, h, _⟩ := hp 25 (by decide); exact Reg.Op1.guarded rfl rfl ((ha 93 (by decide)).trans h) (fun h => by cases h) (fun _ => hK _ _ rfl (fun j k _ _ => Reg.Adds.refl _ _ _))
                · intro val ac u hR hp ha K hK; obtain ⟨_, h, _⟩ := hp 25 (by decide); exact Reg.Op1.guarded rfl rfl ((ha 93 (by decide)).trans h) (fun h => by cases h) (fun _ => hK _ _ rfl (fun j k _ _ => Reg.Adds.refl _ _ _))
                · intro val ac u hR hp ha K hK
                  obtain ⟨w93, h93, r93⟩ := hp 25 (by decide); have e93 : (ac.tmps[93]?).getD undef = .bool false := (ha 93 (by decide)).trans h93; obtain ⟨w96, h96, r96⟩ := hp 28 (by decide); have e96 : (ac.tmps[96]?).getD undef = undef := (ha 96 (by decide)).trans h96; clear h93 h96 ha hp
                  refine Reg.Op1.plain rfl ?_
                  go_wp2
                  exact ⟨rfl, hK _ _ rfl (fun j k _ _ => Reg.Adds.refl _ _ _)⟩
                · intro val ac u hR hp ha K hK
                  obtain ⟨w97, h97, r97⟩ := hp 29 (by decide); have e97 : (ac.tmps[97]?).getD undef = .bool false := (ha 97 (by decide)).trans h97; clear h97 ha hp
                  refine Reg.Op1.plain rfl ?_
                  go_wp2
                  exact ⟨rfl, hK _ _ rfl (fun j k _ _ => Reg.Adds.refl _ _ _)⟩
                · intro val ac u hR hp ha K hK; obtain ⟨_, h, _⟩ := hp 30 (by decide); exact Reg.Op1.guarded rfl rfl ((ha 98 (by decide)).trans h) (fun h => by cases h) (fun _ => hK _ _ rfl (fun j k _ _ => Reg.Adds.refl _ _ _))
                · intro val ac u hR hp ha K hK; obtain ⟨_, h, _⟩ := hp 30 (by decide); exact Reg.Op1.guarded rfl rfl ((ha 98 (by decide)).trans h) (fun h => by cases h) (fun _ => hK _ _ rfl (fun j k _ _ => Reg.Adds.refl _ _ _))
                · intro val ac u hR hp ha K hK; obtain ⟨_, h, _⟩ := hp 30 (by decide); exact Reg.Op1.guarded rfl rfl ((ha 98 (by decide)).trans h) (fun h => by cases h) (fun _ => hK _ _ rfl (fun j k _ _ => Reg.Adds.refl _ _ _))
                · intro val ac u hR hp ha K hK
                  obtain ⟨w98, h98, r98⟩ := hp 30 (by decide); have e98 : (ac.tmps[98]?).getD undef = .bool false := (ha 98 (by decide)).trans h98; obtain ⟨w101, h101, r101⟩ := hp 33 (by decide); have e101 : (ac.tmps[101]?).getD undef = undef := (ha 101 (by decide)).trans h101; clear h98 h101 ha hp
                  refine Reg.Op1.plain rfl ?_
                  go_wp2
                  exact ⟨rfl, hK _ _ rfl (fun j k _ _ => Reg.Adds.refl _ _ _)⟩
                · intro val ac u hR hp ha K hK
                  obtain ⟨w102, h102, r102⟩ := hp 34 (by decide); have e102 : (ac.tmps[102]?).getD undef = .bool false := (ha 102 (by decide)).trans h102; clear h102 ha hp
                  refine Reg.Op1.plain rfl ?_
                  go_wp2
                  exact ⟨rfl, hK _ _ rfl (fun j k _ _ => Reg.Adds.refl _ _ _)⟩
                · intro val ac u hR hp ha K hK; obtain ⟨_, h, _⟩ := hp 35 (by decide); exact Reg.Op1.guarded rfl rfl ((ha 103 (by decide)).trans h) (fun h => by cases h) (fun _ => hK _ _ rfl (fun j k _ _ => Reg.Adds.refl _ _ _))
                · intro val ac u hR hp ha K hK; obtain ⟨_, h, _⟩ := hp 35 (by decide); exact Reg.Op1.guarded rfl rfl ((ha 103 (by decide)).trans h) (fun h => by cases h) (fun _ => hK _ _ rfl (fun j k _ _ => Reg.Adds.refl _ _ _))
                · intro val ac u hR hp ha K hK; obtain ⟨_, h, _⟩ := hp 35 (by decide); exact Reg.Op1.guarded rfl rfl ((ha 103 (by decide)).trans h) (fun h => by cases h) (fun _ => hK _ _ rfl (fun j k _ _ => Reg.Adds.refl _ _ _))
                · intro val ac u hR hp ha K hK
                  obtain ⟨w103, h103, r103⟩ := hp 35 (by decide); have e103 : (ac.tmps[103]?).getD undef = .bool false := (ha 103 (by decide)).trans h103; obtain ⟨w106, h106, r106⟩ := hp 38 (by decide); have e106 : (ac.tmps[106]?).getD undef = undef := (ha 106 (by decide)).trans h106; clear h103 h106 ha hp
                  refine Reg.Op1.plain rfl ?_
                  go_wp2
                  exact ⟨rfl, hK _ _ rfl (fun j k _ _ => Reg.Adds.refl _ _ _)⟩
                · intro val ac u hR hp ha K hK
                  obtain ⟨w107, h107, r107⟩ := hp 39 (by decide); have e107 : (ac.tmps[107]?).getD undef = .bool false := (ha 107 (by decide)).trans h107; clear h107 ha hp
                  refine Reg.Op1.plain rfl ?_
                  go_wp2
                  exact ⟨rfl, hK _ _ rfl (fun j k _ _ => Reg.Adds.refl _ _ _)⟩
              · intro val u hR H
                obtain ⟨_, hv, _⟩ := H 40 (by decide)
                have hv : val 40 = .bool false := hv
                have HN : Hid (RrAt w e u) := H4.out.below ((Below.refl _ w9).drew.trans hR)
                simp only [List.map_cons, List.map_nil, Reg.lay, Act.put, List.setIfInBounds_toArray, List.set_cons_succ, List.set_cons_zero, Nat.reduceAdd, hv]
                clear hR H hv
                go_wp2
                go_ret
                first | exact ⟨rfl, HN.out.b⟩ | exact ⟨by rw [hr]; rfl, HN.out.b⟩
end Go.Proofs.Ytfafehffnjbhnaa
