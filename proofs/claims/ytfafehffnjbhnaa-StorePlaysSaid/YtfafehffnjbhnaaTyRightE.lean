/- The walk of vec.RightEntry: what it computes. No conditions. -/
import Derived.Test.YtfafehffnjbhnaaTyRight
import Derived.Test.YtfafehffnjbhnaaStamp0
namespace Go.Proofs.Ytfafehffnjbhnaa
open Go.ChangeShapes Go.WideShapes Go.ChangeAt Go.RowKit
set_option linter.unusedVariables false
set_option linter.unusedSimpArgs false

namespace Vec
def g1 (e : Ent) : Bool := chain e.dc e.rng && (decide (1 ≤ e.seq) && decide (e.seq ≤ 1099511627776))
def g2 (e : Ent) : Bool := Stamp.right e.st && ((e.st.d == e.dc) && (e.st.r == e.rng))
def g3 (e : Ent) : Bool := decide (1 ≤ e.key.size) && (decide (e.key.size ≤ 16) && (decide (e.val.size ≤ 32) && (!e.dead || decide (e.val.size = 0))))
def g4 (e : Ent) : Bool := rightV e.deps && ((e.deps.row e.dc.toNat).at e.rng.toNat == e.seq - 1)
def g5 (e : Ent) : Bool := decide (0 ≤ e.cl) && (decide (e.cl < 4) && (decide (1 ≤ e.op) && decide (e.op ≤ 1099511627776)))
def rightE (e : Ent) : Bool := g1 e && (g2 e && (g3 e && (g4 e && g5 e)))
def dCells (e : Ent) : List Value := [.int .i64 e.dc, .int .i64 e.rng, .int .i64 e.seq]
structure REAt (w : World) (e : Ent) (wx : World) : Prop where
  E : EBx wx w.heap.size e
  D : Mem.Bx wx 34 3 (w.heap.size + 1) (dCells e)
  b : Below w.heap.size w wx
theorem REAt.below {w : World} {e : Ent} {w1 w2 : World} (h : REAt w e w1) (hb : Below w1.heap.size w1 w2) : REAt w e w2 :=
  ⟨h.E.below hb h.E.lt, h.D.below hb h.D.lt, h.b.trans (hb.mono h.b.size)⟩
theorem deps_cell (e : Ent) {d r : Nat} (hd : d < 3) (hr : r < 3) : (entCells e)[9 + d * 3 + r]? = some (.int .i64 ((e.deps.row d).at r)) := by
  have h1 : d = 0 ∨ d = 1 ∨ d = 2 := by omega
  have h2 : r = 0 ∨ r = 1 ∨ r = 2 := by omega
  rcases h1 with rfl | rfl | rfl <;> rcases h2 with rfl | rfl | rfl <;> rfl
theorem isEmpty_no {b : ByteArray} (h : b.size ≠ 0) : b.toList.isEmpty = false := by
  rw [ByteArray.toList_eq]
  cases hb : b.data.toList with
  | nil => exact absurd (show b.size = 0 by have := congrArg List.length hb; simpa using this) h
  | cons => rfl
theorem size0 {b : ByteArray} (h : b.size = 0) : b = ⟨#[]⟩ := by
  cases b with
  | mk a => congr 1; exact Array.eq_empty_of_size_eq_zero h
end Vec
open Vec in
set_option maxRecDepth 20000 in
set_option maxHeartbeats 8000000 in
theorem rightE_any (e : Vec.Ent) (w : World) :
    Calls Try.prog 13 #[.agg (Vec.entCells e).toArray] w fun x w' => x = .returned (.bool (Vec.rightE e)) ∧ Below w.heap.size w w' := by
  go_enter Try.func13, Try.ntmps13
  go_upto_region 1 with fail
  obtain ⟨w0, hw0⟩ : ∃ w0, w.alloc (.cells (entCells e).toArray 40) = w0 := ⟨_, rfl⟩
  have hE0 : EBx w0 w.heap.size e := by rw [← hw0]; exact EBx.new w e rfl
  have hz0 : w0.heap.size = w.heap.size + 1 := by rw [← hw0]; simp
  have hb0 : Below w.heap.size w w0 := by rw [← hw0]; exact Reg.below_new _ _
  have HE0 := Lib.hid hE0
  have HB0 := Lib.hid hb0
  have HZ0 := Lib.hid hz0
  have x0 := hE0.cell (j := 0) rfl
  have x1 := hE0.cell (j := 1) rfl
  have x2 := hE0.cell (j := 2) rfl
  rw [hw0]
  clear hw0 hE0 hb0 hz0
  go_upto_region 2 with fail
  obtain ⟨w1, hw1⟩ : ∃ w1, w0.alloc (.cells #[.int .i64 e.dc, .int .i64 e.rng, .int .i64 e.seq] 34) = w1 := ⟨_, rfl⟩
  have H1 : Hid (REAt w e w1) := by
    show REAt _ _ _
    rw [← hw1]
    exact ⟨HE0.out.below (Reg.below_new _ _) HE0.out.lt, Mem.Bx.new w0 34 (dCells e).toArray rfl HZ0.out, HB0.out.alloc HB0.out.size _⟩
  rw [hw1, HZ0.out]
  clear hw1 x0 x1 x2 HE0 HB0 HZ0
  go_cut [6] (fun v wx => v = .bool (!g1 e) ∧ REAt w e wx)
  case first =>
    have x3 := H1.out.D.cell (j := 0) rfl
    have x4 := H1.out.D.cell (j := 1) rfl
    have x5 := H1.out.D.cell (j := 2) rfl
    cases hch : Vec.chain e.dc e.rng
    · have hg : g1 e = false := by simp [g1, hch]
      go_wp2_with fail
      refine (chain_any _ _ _).mono ?_
      rintro _ _ ⟨rfl, rfl⟩
      rw [hch]
      go_wp2
      go_meet
      case rel => exact ⟨by rw [hg]; rfl, H1.out⟩
    · by_cases h1 : 1 ≤ e.seq
      · have d1 : decide (e.seq < 1) = false := by simp; omega
        by_cases h2 : e.seq ≤ 1099511627776
        · have d2 : decide (1099511627776 < e.seq) = false := by simp; omega
          have hg : g1 e = true := by simp [g1, hch, h1, h2]
          go_wp2_with fail
          refine (chain_any _ _ _).mono ?_
          rintro _ _ ⟨rfl, rfl⟩
          rw [hch]
          go_wp2
          go_meet
          case rel => exact ⟨by rw [hg]; rfl, H1.out⟩
        · have d2 : decide (1099511627776 < e.seq) = true := by simp; omega
          have hg : g1 e = false := by simp [g1, h2]
          go_wp2_with fail
          refine (chain_any _ _ _).mono ?_
          rintro _ _ ⟨rfl, rfl⟩
          rw [hch]
          go_wp2
          go_meet
          case rel => exact ⟨by rw [hg]; rfl, H1.out⟩
      · have d1 : decide (e.seq < 1) = true := by simp; omega
        have hg : g1 e = false := by simp [g1, h1]
        go_wp2_with fail
        refine (chain_any _ _ _).mono ?_
        rintro _ _ ⟨rfl, rfl⟩
        rw [hch]
        go_wp2
        go_meet
        case rel => exact ⟨by rw [hg]; rfl, H1.out⟩
  case rest =>
    obtain ⟨rfl, hR1⟩ := hcut
    have H2 := Lib.hid hR1
    clear hR1 H1
    cases hg1 : g1 e
    · 
      have hr : Vec.rightE e = false := by simp [Vec.rightE, hg1]
      go_wp2
      go_ret
      exact ⟨by rw [hr]; rfl, H2.out.b⟩
    · go_upto_region 4 with fail
      go_cut [23] (fun v wx => v = .bool (!g2 e) ∧ REAt w e wx)
      case first =>
        have x0 := H2.out.E.cell (j := 3) rfl
        have x5 := H2.out.E.cell (j := 4) rfl
        have x6 := H2.out.E.cell (j := 5) rfl
        cases hst : Stamp.right e.st
        · have hg : g2 e = false := by simp [g2, hst]
          go_wp2_with fail
          refine (right_any e.st wc).mono ?_
          rintro x wy ⟨rfl, hbw⟩
          rw [hst]
          have HN : Hid (Vec.REAt w e wy) := H2.out.below hbw
          have x1 := HN.out.E.cell (j := 4) rfl
          have x2 := HN.out.E.cell (j := 5) rfl
          have x3 := HN.out.D.cell (j := 0) rfl
          have x4 := HN.out.D.cell (j := 1) rfl
          clear hbw
          go_wp2
          go_meet
          case rel => exact ⟨by rw [hg]; rfl, HN.out⟩
        · by_cases h1 : e.st.d = e.dc
          · have d1 : (e.st.d == e.dc) = true := by simp [h1]
            have d1' : (e.st.d != e.dc) = false := by simp [h1]
            by_cases h2 : e.st.r = e.rng
            · have d2 : (e.st.r == e.rng) = true := by simp [h2]
              have d2' : (e.st.r != e.rng) = false := by simp [h2]
              have hg : g2 e = true := by simp [g2, hst, h1, h2]
              clear h1 h2
              go_wp2_with fail
              refine (right_any e.st wc).mono ?_
              rintro x wy ⟨rfl, hbw⟩
              rw [hst]
              have HN : Hid (Vec.REAt w e wy) := H2.out.below hbw
              have x1 := HN.out.E.cell (j := 4) rfl
              have x2 := HN.out.E.cell (j := 5) rfl
              have x3 := HN.out.D.cell (j := 0) rfl
              have x4 := HN.out.D.cell (j := 1) rfl
              clear hbw
              go_wp2
              go_meet
              case rel => exact ⟨by rw [hg]; rfl, HN.out⟩
            · have d2' : (e.st.r != e.rng) = true := by simp [h2]
              have hg : g2 e = false := by simp [g2, h2]
              clear h1
              go_wp2_with fail
              refine (right_any e.st wc).mono ?_
              rintro x wy ⟨rfl, hbw⟩
              rw [hst]
              have HN : Hid (Vec.REAt w e wy) := H2.out.below hbw
              have x1 := HN.out.E.cell (j := 4) rfl
              have x2 := HN.out.E.cell (j := 5) rfl
              have x3 := HN.out.D.cell (j := 0) rfl
              have x4 := HN.out.D.cell (j := 1) rfl
              clear hbw
              go_wp2
              go_meet
              case rel => exact ⟨by rw [hg]; rfl, HN.out⟩
          · have d1' : (e.st.d != e.dc) = true := by simp [h1]
            have hg : g2 e = false := by simp [g2, h1]
            go_wp2_with fail
            refine (right_any e.st wc).mono ?_
            rintro x wy ⟨rfl, hbw⟩
            rw [hst]
            have HN : Hid (Vec.REAt w e wy) := H2.out.below hbw
            have x1 := HN.out.E.cell (j := 4) rfl
            have x2 := HN.out.E.cell (j := 5) rfl
            have x3 := HN.out.D.cell (j := 0) rfl
            have x4 := HN.out.D.cell (j := 1) rfl
            clear hbw
            go_wp2
            go_meet
            case rel => exact ⟨by rw [hg]; rfl, HN.out⟩
      case rest =>
        obtain ⟨rfl, hR1⟩ := hcut
        have H3 := Lib.hid hR1
        clear hR1 H2
        cases hg2 : g2 e
        ·
          have hr : Vec.rightE e = false := by simp [Vec.rightE, hg2]
          go_wp2
          go_ret
          exact ⟨by rw [hr]; rfl, H3.out.b⟩
        · go_upto_region 6 with fail
          go_cut [44] (fun v wx => v = .bool (!g3 e) ∧ REAt w e wx)
          case first =>
            have x6 := H3.out.E.cell (j := 6) rfl
            have x7 := H3.out.E.cell (j := 7) rfl
            have x8 := H3.out.E.cell (j := 8) rfl
            by_cases h1 : 1 ≤ e.key.size
            · have d1 : decide ((e.key.size : Int) < 1) = false := by simp; omega
              by_cases h2 : e.key.size ≤ 16
              · have d2 : decide ((16 : Int) < (e.key.size : Int)) = false := by simp; omega
                by_cases h3 : e.val.size ≤ 32
                · have d3 : decide ((32 : Int) < (e.val.size : Int)) = false := by simp; omega
                  cases hdd : e.dead
                  · have hg : g3 e = true := by simp [g3, h1, h2, h3, hdd]
                    rw [hdd] at x8
                    go_wp2
                    go_meet
                    case rel => exact ⟨by rw [hg]; rfl, H3.out⟩
                  · rw [hdd] at x8
                    by_cases h4 : e.val.size = 0
                    · have hg : g3 e = true := by simp [g3, h1, h2, h3, h4]
                      have hve := size0 h4
                      rw [hve] at x7
                      clear h4
                      go_wp2
                      go_meet
                      case rel => exact ⟨by rw [hg]; rfl, H3.out⟩
                    · have hg : g3 e = false := by simp [g3, hdd, h4]
                      have hvn : e.val.toList.isEmpty = false := isEmpty_no h4
                      go_wp2
                      go_meet
                      case rel => exact ⟨by rw [hg]; rfl, H3.out⟩
                · have d3 : decide ((32 : Int) < (e.val.size : Int)) = true := by simp; omega
                  have hg : g3 e = false := by simp [g3, h3]
                  go_wp2
                  go_meet
                  case rel => exact ⟨by rw [hg]; rfl, H3.out⟩
              · have d2 : decide ((16 : Int) < (e.key.size : Int)) = true := by simp; omega
                have hg : g3 e = false := by simp [g3, h2]
                go_wp2
                go_meet
                case rel => exact ⟨by rw [hg]; rfl, H3.out⟩
            · have d1 : decide ((e.key.size : Int) < 1) = true := by simp; omega
              have hg : g3 e = false := by simp [g3, h1]
              go_wp2
              go_meet
              case rel => exact ⟨by rw [hg]; rfl, H3.out⟩
          case rest =>
            obtain ⟨rfl, hR1⟩ := hcut
            have H4 := Lib.hid hR1
            clear hR1 H3
            rename World => w9
            cases hg3 : g3 e
            ·
              have hr : Vec.rightE e = false := by simp [Vec.rightE, hg3]
              go_wp2
              go_ret
              exact ⟨by rw [hr]; rfl, H4.out.b⟩
            · obtain ⟨hch, hs1, hs2⟩ : Vec.chain e.dc e.rng = true ∧ 1 ≤ e.seq ∧ e.seq ≤ 1099511627776 := by simpa [g1] using hg1
              obtain ⟨hd3, hd4, hr1, hr2⟩ := (show e.dc.toNat < 3 ∧ (e.dc.toNat : Int) = e.dc ∧ 0 ≤ e.rng ∧ e.rng < 3 by unfold Vec.chain at hch; simp at hch; omega)
              obtain ⟨dn, hdn0⟩ : ∃ dn, e.dc.toNat = dn := ⟨_, rfl⟩
              obtain ⟨rn, hrn0⟩ : ∃ rn, e.rng.toNat = rn := ⟨_, rfl⟩
              have hdn : e.dc = (dn : Int) := by omega
              have hrn : e.rng = (rn : Int) := by omega
              have hr3 : rn < 3 := by omega
              rw [hdn0] at hd3
              obtain ⟨dv, hdv⟩ : ∃ dv, (e.deps.row dn).at rn = dv := ⟨_, rfl⟩
              have hwr : IntKind.i64.wrap (e.seq - 1) = e.seq - 1 := IntWalk.i64_in _ (by omega)
              have hwr2 : wrap64 (e.seq - 1) = e.seq - 1 := IntWalk.wrap64_in _ (by omega)
              clear hch hd4 hr1 hr2
              go_upto_region 8 with fail
              go_cut [70] (fun v wx => v = .bool (!g4 e) ∧ REAt w e wx)
              case first =>
                cases hrv : Vec.rightV e.deps
                · have hg : g4 e = false := by simp [g4, hrv]
                  refine Reg.wp_region_rel (by kernel_rfl) 107 19 rfl rfl (by kernel_rfl) (Reg.Adds) (Reg.Adds.refl) (Reg.Adds.trans)
                    (fun i v u => match i with
                      | 0 => v = .pointer (some ⟨w.heap.size, 9, none⟩)
                      | 1 => v = .agg (vcCells e.deps).toArray
                      | 2 => v = .bool false
                      | 3 => v = .bool true
                      | 4 => v = .bool true
                      | 5 => v = undef
                      | 6 => v = undef
                      | 7 => v = undef
                      | 8 => v = undef
                      | 9 => v = undef
                      | 10 => v = undef
                      | 11 => v = undef
                      | 12 => v = undef
                      | 13 => v = undef
                      | 14 => v = undef
                      | 15 => v = undef
                      | 16 => v = undef
                      | 17 => v = .bool true
                      | 18 => v = .bool true
                      | _ => True) ?_ ?_
                  · refine Reg.Steps.cons ?_ (Reg.Steps.cons ?_ (Reg.Steps.cons ?_ (Reg.Steps.cons ?_ (Reg.Steps.cons ?_ (Reg.Steps.cons ?_ (Reg.Steps.cons ?_ (Reg.Steps.cons ?_ (Reg.Steps.cons ?_ (Reg.Steps.cons ?_ (Reg.Steps.cons ?_ (Reg.Steps.cons ?_ (Reg.Steps.cons ?_ (Reg.Steps.cons ?_ (Reg.Steps.cons ?_ (Reg.Steps.cons ?_ (Reg.Steps.cons ?_ (Reg.Steps.cons ?_ (Reg.Steps.cons ?_ (Reg.Steps.nil _)))))))))))))))))))
                    · intro val ac u hR hp ha K hK
                      have e1 : (ac.tmps[1]?).getD undef = .pointer (some ⟨w.heap.size, 0, none⟩) := ha 1 (by decide); clear ha hp
                      refine Reg.Op1.plain rfl ?_
                      go_wp2
                      exact ⟨rfl, hK _ _ rfl (fun j k _ _ => Reg.Adds.refl _ _ _)⟩
                    · intro val ac u hR hp ha K hK
                      obtain ⟨w71, h71, r71⟩ := hp 0 (by decide); have e71 : (ac.tmps[71]?).getD undef = .pointer (some ⟨w.heap.size, 9, none⟩) := (ha 71 (by decide)).trans h71; clear h71 ha hp
                      refine Reg.Op1.plain rfl ?_
                      have hEu : EBx u w.heap.size e := Mem.Bx.below (w := w9.drew) H4.out.E hR H4.out.E.lt
                      have x0 := hEu.cell (j := 9) rfl
                      have x1 := hEu.cell (j := 10) rfl
                      have x2 := hEu.cell (j := 11) rfl
                      have x3 := hEu.cell (j := 12) rfl
                      have x4 := hEu.cell (j := 13) rfl
                      have x5 := hEu.cell (j := 14) rfl
                      have x6 := hEu.cell (j := 15) rfl
                      have x7 := hEu.cell (j := 16) rfl
                      have x8 := hEu.cell (j := 17) rfl
                      clear hEu
                      go_wp2
                      exact ⟨rfl, hK _ _ rfl (fun j k _ _ => Reg.Adds.refl _ _ _)⟩
                    · intro val ac u hR hp ha K hK
                      obtain ⟨w72, h72, r72⟩ := hp 1 (by decide); have e72 : (ac.tmps[72]?).getD undef = .agg (vcCells e.deps).toArray := (ha 72 (by decide)).trans h72; clear h72 ha hp
                      refine Reg.Op1.plain rfl ?_
                      go_wp2_with fail
                      refine (vright_any e.deps u).mono ?_
                      rintro x w' ⟨rfl, hbw⟩
                      rw [hrv]
                      go_wp2_with fail
                      exact ⟨rfl, hK _ _ rfl (fun j k _ _ => hbw)⟩
                    · intro val ac u hR hp ha K hK
                      obtain ⟨w73, h73, r73⟩ := hp 2 (by decide); have e73 : (ac.tmps[73]?).getD undef = .bool false := (ha 73 (by decide)).trans h73; clear h73 ha hp
                      refine Reg.Op1.plain rfl ?_
                      go_wp2
                      exact ⟨rfl, hK _ _ rfl (fun j k _ _ => Reg.Adds.refl _ _ _)⟩
                    · intro val ac u hR hp ha K hK
                      obtain ⟨w74, h74, r74⟩ := hp 3 (by decide); have e74 : (ac.tmps[74]?).getD undef = .bool true := (ha 74 (by decide)).trans h74; clear h74 ha hp
                      refine Reg.Op1.plain rfl ?_
                      go_wp2
                      exact ⟨rfl, hK _ _ rfl (fun j k _ _ => Reg.Adds.refl _ _ _)⟩
                    · intro val ac u hR hp ha K hK; obtain ⟨_, h, _⟩ := hp 4 (by decide); exact Reg.Op1.guarded rfl rfl ((ha 75 (by decide)).trans h) (fun h => by cases h) (fun _ => hK _ _ rfl (fun j k _ _ => Reg.Adds.refl _ _ _))
                    · intro val ac u hR hp ha K hK; obtain ⟨_, h, _⟩ := hp 4 (by decide); exact Reg.Op1.guarded rfl rfl ((ha 75 (by decide)).trans h) (fun h => by cases h) (fun _ => hK _ _ rfl (fun j k _ _ => Reg.Adds.refl _ _ _))
                    · intro val ac u hR hp ha K hK; obtain ⟨_, h, _⟩ := hp 4 (by decide); exact Reg.Op1.guarded rfl rfl ((ha 75 (by decide)).trans h) (fun h => by cases h) (fun _ => hK _ _ rfl (fun j k _ _ => Reg.Adds.refl _ _ _))
                    · intro val ac u hR hp ha K hK; obtain ⟨_, h, _⟩ := hp 4 (by decide); exact Reg.Op1.guarded rfl rfl ((ha 75 (by decide)).trans h) (fun h => by cases h) (fun _ => hK _ _ rfl (fun j k _ _ => Reg.Adds.refl _ _ _))
                    · intro val ac u hR hp ha K hK; obtain ⟨_, h, _⟩ := hp 4 (by decide); exact Reg.Op1.guarded rfl rfl ((ha 75 (by decide)).trans h) (fun h => by cases h) (fun _ => hK _ _ rfl (fun j k _ _ => Reg.Adds.refl _ _ _))
                    · intro val ac u hR hp ha K hK; obtain ⟨_, h, _⟩ := hp 4 (by decide); exact Reg.Op1.guarded rfl rfl ((ha 75 (by decide)).trans h) (fun h => by cases h) (fun _ => hK _ _ rfl (fun j k _ _ => Reg.Adds.refl _ _ _))
                    · intro val ac u hR hp ha K hK; obtain ⟨_, h, _⟩ := hp 4 (by decide); exact Reg.Op1.guarded rfl rfl ((ha 75 (by decide)).trans h) (fun h => by cases h) (fun _ => hK _ _ rfl (fun j k _ _ => Reg.Adds.refl _ _ _))
                    · intro val ac u hR hp ha K hK; obtain ⟨_, h, _⟩ := hp 4 (by decide); exact Reg.Op1.guarded rfl rfl ((ha 75 (by decide)).trans h) (fun h => by cases h) (fun _ => hK _ _ rfl (fun j k _ _ => Reg.Adds.refl _ _ _))
                    · intro val ac u hR hp ha K hK; obtain ⟨_, h, _⟩ := hp 4 (by decide); exact Reg.Op1.guarded rfl rfl ((ha 75 (by decide)).trans h) (fun h => by cases h) (fun _ => hK _ _ rfl (fun j k _ _ => Reg.Adds.refl _ _ _))
                    · intro val ac u hR hp ha K hK; obtain ⟨_, h, _⟩ := hp 4 (by decide); exact Reg.Op1.guarded rfl rfl ((ha 75 (by decide)).trans h) (fun h => by cases h) (fun _ => hK _ _ rfl (fun j k _ _ => Reg.Adds.refl _ _ _))
                    · intro val ac u hR hp ha K hK; obtain ⟨_, h, _⟩ := hp 4 (by decide); exact Reg.Op1.guarded rfl rfl ((ha 75 (by decide)).trans h) (fun h => by cases h) (fun _ => hK _ _ rfl (fun j k _ _ => Reg.Adds.refl _ _ _))
                    · intro val ac u hR hp ha K hK; obtain ⟨_, h, _⟩ := hp 4 (by decide); exact Reg.Op1.guarded rfl rfl ((ha 75 (by decide)).trans h) (fun h => by cases h) (fun _ => hK _ _ rfl (fun j k _ _ => Reg.Adds.refl _ _ _))
                    · intro val ac u hR hp ha K hK
                      obtain ⟨w75, h75, r75⟩ := hp 4 (by decide); have e75 : (ac.tmps[75]?).getD undef = .bool true := (ha 75 (by decide)).trans h75; obtain ⟨w87, h87, r87⟩ := hp 16 (by decide); have e87 : (ac.tmps[87]?).getD undef = undef := (ha 87 (by decide)).trans h87; clear h75 h87 ha hp
                      refine Reg.Op1.plain rfl ?_
                      go_wp2
                      exact ⟨rfl, hK _ _ rfl (fun j k _ _ => Reg.Adds.refl _ _ _)⟩
                    · intro val ac u hR hp ha K hK
                      obtain ⟨w88, h88, r88⟩ := hp 17 (by decide); have e88 : (ac.tmps[88]?).getD undef = .bool true := (ha 88 (by decide)).trans h88; clear h88 ha hp
                      refine Reg.Op1.plain rfl ?_
                      go_wp2
                      exact ⟨rfl, hK _ _ rfl (fun j k _ _ => Reg.Adds.refl _ _ _)⟩
                  · intro val u hR H
                    obtain ⟨_, hv, _⟩ := H 18 (by decide)
                    have hv : val 18 = .bool true := hv
                    have HN : Hid (REAt w e u) := H4.out.below ((Below.refl _ w9).drew.trans hR)
                    simp only [List.map_cons, List.map_nil, Reg.lay, Act.put, List.setIfInBounds_toArray, List.set_cons_succ, List.set_cons_zero, Nat.reduceAdd, hv]
                    clear hR H hv
                    go_wp2
                    go_meet
                    case rel => exact ⟨by rw [hg]; rfl, HN.out⟩
                · by_cases heq : dv = e.seq - 1
                  · have hg : g4 e = true := by simp [g4, hrv, hdn0, hrn0, hdv, heq]
                    have hne : (dv != e.seq - 1) = false := by simp [heq]
                    clear heq
                    refine Reg.wp_region_rel (by kernel_rfl) 107 19 rfl rfl (by kernel_rfl) (Reg.Adds) (Reg.Adds.refl) (Reg.Adds.trans)
                      (fun i v u => match i with
                        | 0 => v = .pointer (some ⟨w.heap.size, 9, none⟩)
                        | 1 => v = .agg (vcCells e.deps).toArray
                        | 2 => v = .bool true
                        | 3 => v = .bool false
                        | 4 => v = .bool false
                        | 5 => v = .pointer (some ⟨w.heap.size + 1, 0, none⟩)
                        | 6 => v = .int .i64 (dn : Int)
                        | 7 => v = .pointer (some ⟨w.heap.size + 1, 1, none⟩)
                        | 8 => v = .int .i64 (rn : Int)
                        | 9 => v = .pointer (some ⟨w.heap.size, 9, none⟩)
                        | 10 => v = .pointer (some ⟨w.heap.size, 9 + dn * 3, none⟩)
                        | 11 => v = .pointer (some ⟨w.heap.size, 9 + dn * 3 + rn, none⟩)
                        | 12 => v = .int .i64 dv
                        | 13 => v = .pointer (some ⟨w.heap.size + 1, 2, none⟩)
                        | 14 => v = .int .i64 e.seq
                        | 15 => v = .int .i64 (e.seq - 1)
                        | 16 => v = .bool false
                        | 17 => v = .bool false
                        | 18 => v = .bool false
                        | _ => True) ?_ ?_
                    · refine Reg.Steps.cons ?_ (Reg.Steps.cons ?_ (Reg.Steps.cons ?_ (Reg.Steps.cons ?_ (Reg.Steps.cons ?_ (Reg.Steps.cons ?_ (Reg.Steps.cons ?_ (Reg.Steps.cons ?_ (Reg.Steps.cons ?_ (Reg.Steps.cons ?_ (Reg.Steps.cons ?_ (Reg.Steps.cons ?_ (Reg.Steps.cons ?_ (Reg.Steps.cons ?_ (Reg.Steps.cons ?_ (Reg.Steps.cons ?_ (Reg.Steps.cons ?_ (Reg.Steps.cons ?_ (Reg.Steps.cons ?_ (Reg.Steps.nil _)))))))))))))))))))
                      · intro val ac u hR hp ha K hK
                        have e1 : (ac.tmps[1]?).getD undef = .pointer (some ⟨w.heap.size, 0, none⟩) := ha 1 (by decide); clear ha hp
                        refine Reg.Op1.plain rfl ?_
                        go_wp2
                        exact ⟨rfl, hK _ _ rfl (fun j k _ _ => Reg.Adds.refl _ _ _)⟩
                      · intro val ac u hR hp ha K hK
                        obtain ⟨w71, h71, r71⟩ := hp 0 (by decide); have e71 : (ac.tmps[71]?).getD undef = .pointer (some ⟨w.heap.size, 9, none⟩) := (ha 71 (by decide)).trans h71; clear h71 ha hp
                        refine Reg.Op1.plain rfl ?_
                        have hEu : EBx u w.heap.size e := Mem.Bx.below (w := w9.drew) H4.out.E hR H4.out.E.lt
                        have x0 := hEu.cell (j := 9) rfl
                        have x1 := hEu.cell (j := 10) rfl
                        have x2 := hEu.cell (j := 11) rfl
                        have x3 := hEu.cell (j := 12) rfl
                        have x4 := hEu.cell (j := 13) rfl
                        have x5 := hEu.cell (j := 14) rfl
                        have x6 := hEu.cell (j := 15) rfl
                        have x7 := hEu.cell (j := 16) rfl
                        have x8 := hEu.cell (j := 17) rfl
                        clear hEu
                        go_wp2
                        exact ⟨rfl, hK _ _ rfl (fun j k _ _ => Reg.Adds.refl _ _ _)⟩
                      · intro val ac u hR hp ha K hK
                        obtain ⟨w72, h72, r72⟩ := hp 1 (by decide); have e72 : (ac.tmps[72]?).getD undef = .agg (vcCells e.deps).toArray := (ha 72 (by decide)).trans h72; clear h72 ha hp
                        refine Reg.Op1.plain rfl ?_
                        go_wp2_with fail
                        refine (vright_any e.deps u).mono ?_
                        rintro x w' ⟨rfl, hbw⟩
                        rw [hrv]
                        go_wp2_with fail
                        exact ⟨rfl, hK _ _ rfl (fun j k _ _ => hbw)⟩
                      · intro val ac u hR hp ha K hK
                        obtain ⟨w73, h73, r73⟩ := hp 2 (by decide); have e73 : (ac.tmps[73]?).getD undef = .bool true := (ha 73 (by decide)).trans h73; clear h73 ha hp
                        refine Reg.Op1.plain rfl ?_
                        go_wp2
                        exact ⟨rfl, hK _ _ rfl (fun j k _ _ => Reg.Adds.refl _ _ _)⟩
                      · intro val ac u hR hp ha K hK
                        obtain ⟨w74, h74, r74⟩ := hp 3 (by decide); have e74 : (ac.tmps[74]?).getD undef = .bool false := (ha 74 (by decide)).trans h74; clear h74 ha hp
                        refine Reg.Op1.plain rfl ?_
                        go_wp2
                        exact ⟨rfl, hK _ _ rfl (fun j k _ _ => Reg.Adds.refl _ _ _)⟩
                      · intro val ac u hR hp ha K hK
                        have e3 : (ac.tmps[3]?).getD undef = .pointer (some ⟨w.heap.size + 1, 0, none⟩) := ha 3 (by decide); obtain ⟨w75, h75, r75⟩ := hp 4 (by decide); have e75 : (ac.tmps[75]?).getD undef = .bool false := (ha 75 (by decide)).trans h75; clear h75 ha hp
                        refine Reg.Op1.guarded rfl rfl e75 (fun _ => Reg.Op1.plain rfl ?_) (fun h => absurd rfl h)
                        go_wp2
                        exact ⟨rfl, hK _ _ rfl (fun j k _ _ => Reg.Adds.refl _ _ _)⟩
                      · intro val ac u hR hp ha K hK
                        obtain ⟨w76, h76, r76⟩ := hp 5 (by decide); have e76 : (ac.tmps[76]?).getD undef = .pointer (some ⟨w.heap.size + 1, 0, none⟩) := (ha 76 (by decide)).trans h76; obtain ⟨w75, h75, r75⟩ := hp 4 (by decide); have e75 : (ac.tmps[75]?).getD undef = .bool false := (ha 75 (by decide)).trans h75; clear h76 h75 ha hp
                        refine Reg.Op1.guarded rfl rfl e75 (fun _ => Reg.Op1.plain rfl ?_) (fun h => absurd rfl h)
                        have x0 := (hR.cell (p := ⟨w.heap.size + 1, 0, none⟩) H4.out.D.lt).trans (H4.out.D.cell (j := 0) rfl)
                        rw [hdn] at x0
                        go_wp2
                        exact ⟨rfl, hK _ _ rfl (fun j k _ _ => Reg.Adds.refl _ _ _)⟩
                      · intro val ac u hR hp ha K hK
                        have e3 : (ac.tmps[3]?).getD undef = .pointer (some ⟨w.heap.size + 1, 0, none⟩) := ha 3 (by decide); obtain ⟨w75, h75, r75⟩ := hp 4 (by decide); have e75 : (ac.tmps[75]?).getD undef = .bool false := (ha 75 (by decide)).trans h75; clear h75 ha hp
                        refine Reg.Op1.guarded rfl rfl e75 (fun _ => Reg.Op1.plain rfl ?_) (fun h => absurd rfl h)
                        go_wp2
                        exact ⟨rfl, hK _ _ rfl (fun j k _ _ => Reg.Adds.refl _ _ _)⟩
                      · intro val ac u hR hp ha K hK
                        obtain ⟨w78, h78, r78⟩ := hp 7 (by decide); have e78 : (ac.tmps[78]?).getD undef = .pointer (some ⟨w.heap.size + 1, 1, none⟩) := (ha 78 (by decide)).trans h78; obtain ⟨w75, h75, r75⟩ := hp 4 (by decide); have e75 : (ac.tmps[75]?).getD undef = .bool false := (ha 75 (by decide)).trans h75; clear h78 h75 ha hp
                        refine Reg.Op1.guarded rfl rfl e75 (fun _ => Reg.Op1.plain rfl ?_) (fun h => absurd rfl h)
                        have x0 := (hR.cell (p := ⟨w.heap.size + 1, 1, none⟩) H4.out.D.lt).trans (H4.out.D.cell (j := 1) rfl)
                        rw [hrn] at x0
                        go_wp2
                        exact ⟨rfl, hK _ _ rfl (fun j k _ _ => Reg.Adds.refl _ _ _)⟩
                      · intro val ac u hR hp ha K hK
                        have e1 : (ac.tmps[1]?).getD undef = .pointer (some ⟨w.heap.size, 0, none⟩) := ha 1 (by decide); obtain ⟨w75, h75, r75⟩ := hp 4 (by decide); have e75 : (ac.tmps[75]?).getD undef = .bool false := (ha 75 (by decide)).trans h75; clear h75 ha hp
                        refine Reg.Op1.guarded rfl rfl e75 (fun _ => Reg.Op1.plain rfl ?_) (fun h => absurd rfl h)
                        go_wp2
                        exact ⟨rfl, hK _ _ rfl (fun j k _ _ => Reg.Adds.refl _ _ _)⟩
                      · intro val ac u hR hp ha K hK
                        obtain ⟨w80, h80, r80⟩ := hp 9 (by decide); have e80 : (ac.tmps[80]?).getD undef = .pointer (some ⟨w.heap.size, 9, none⟩) := (ha 80 (by decide)).trans h80; obtain ⟨w77, h77, r77⟩ := hp 6 (by decide); have e77 : (ac.tmps[77]?).getD undef = .int .i64 (dn : Int) := (ha 77 (by decide)).trans h77; obtain ⟨w75, h75, r75⟩ := hp 4 (by decide); have e75 : (ac.tmps[75]?).getD undef = .bool false := (ha 75 (by decide)).trans h75; clear h80 h77 h75 ha hp
                        refine Reg.Op1.guarded rfl rfl e75 (fun _ => Reg.Op1.plain rfl ?_) (fun h => absurd rfl h)
                        go_wp2
                        exact ⟨rfl, hK _ _ rfl (fun j k _ _ => Reg.Adds.refl _ _ _)⟩
                      · intro val ac u hR hp ha K hK
                        obtain ⟨w81, h81, r81⟩ := hp 10 (by decide); have e81 : (ac.tmps[81]?).getD undef = .pointer (some ⟨w.heap.size, 9 + dn * 3, none⟩) := (ha 81 (by decide)).trans h81; obtain ⟨w79, h79, r79⟩ := hp 8 (by decide); have e79 : (ac.tmps[79]?).getD undef = .int .i64 (rn : Int) := (ha 79 (by decide)).trans h79; obtain ⟨w75, h75, r75⟩ := hp 4 (by decide); have e75 : (ac.tmps[75]?).getD undef = .bool false := (ha 75 (by decide)).trans h75; clear h81 h79 h75 ha hp
                        refine Reg.Op1.guarded rfl rfl e75 (fun _ => Reg.Op1.plain rfl ?_) (fun h => absurd rfl h)
                        go_wp2
                        exact ⟨rfl, hK _ _ rfl (fun j k _ _ => Reg.Adds.refl _ _ _)⟩
                      · intro val ac u hR hp ha K hK
                        obtain ⟨w82, h82, r82⟩ := hp 11 (by decide); have e82 : (ac.tmps[82]?).getD undef = .pointer (some ⟨w.heap.size, 9 + dn * 3 + rn, none⟩) := (ha 82 (by decide)).trans h82; obtain ⟨w75, h75, r75⟩ := hp 4 (by decide); have e75 : (ac.tmps[75]?).getD undef = .bool false := (ha 75 (by decide)).trans h75; clear h82 h75 ha hp
                        refine Reg.Op1.guarded rfl rfl e75 (fun _ => Reg.Op1.plain rfl ?_) (fun h => absurd rfl h)
                        have x0 := (hR.cell (p := ⟨w.heap.size, 9 + dn * 3 + rn, none⟩) H4.out.E.lt).trans (H4.out.E.cell (j := 9 + dn * 3 + rn) (deps_cell e hd3 hr3))
                        rw [hdv] at x0
                        go_wp2
                        exact ⟨rfl, hK _ _ rfl (fun j k _ _ => Reg.Adds.refl _ _ _)⟩
                      · intro val ac u hR hp ha K hK
                        have e3 : (ac.tmps[3]?).getD undef = .pointer (some ⟨w.heap.size + 1, 0, none⟩) := ha 3 (by decide); obtain ⟨w75, h75, r75⟩ := hp 4 (by decide); have e75 : (ac.tmps[75]?).getD undef = .bool false := (ha 75 (by decide)).trans h75; clear h75 ha hp
                        refine Reg.Op1.guarded rfl rfl e75 (fun _ => Reg.Op1.plain rfl ?_) (fun h => absurd rfl h)
                        go_wp2
                        exact ⟨rfl, hK _ _ rfl (fun j k _ _ => Reg.Adds.refl _ _ _)⟩
                      · intro val ac u hR hp ha K hK
                        obtain ⟨w84, h84, r84⟩ := hp 13 (by decide); have e84 : (ac.tmps[84]?).getD undef = .pointer (some ⟨w.heap.size + 1, 2, none⟩) := (ha 84 (by decide)).trans h84; obtain ⟨w75, h75, r75⟩ := hp 4 (by decide); have e75 : (ac.tmps[75]?).getD undef = .bool false := (ha 75 (by decide)).trans h75; clear h84 h75 ha hp
                        refine Reg.Op1.guarded rfl rfl e75 (fun _ => Reg.Op1.plain rfl ?_) (fun h => absurd rfl h)
                        have x0 := (hR.cell (p := ⟨w.heap.size + 1, 2, none⟩) H4.out.D.lt).trans (H4.out.D.cell (j := 2) rfl)
                        go_wp2
                        exact ⟨rfl, hK _ _ rfl (fun j k _ _ => Reg.Adds.refl _ _ _)⟩
                      · intro val ac u hR hp ha K hK
                        obtain ⟨w85, h85, r85⟩ := hp 14 (by decide); have e85 : (ac.tmps[85]?).getD undef = .int .i64 e.seq := (ha 85 (by decide)).trans h85; obtain ⟨w75, h75, r75⟩ := hp 4 (by decide); have e75 : (ac.tmps[75]?).getD undef = .bool false := (ha 75 (by decide)).trans h75; clear h85 h75 ha hp
                        refine Reg.Op1.guarded rfl rfl e75 (fun _ => Reg.Op1.plain rfl ?_) (fun h => absurd rfl h)
                        go_wp2
                        exact ⟨rfl, hK _ _ rfl (fun j k _ _ => Reg.Adds.refl _ _ _)⟩
                      · intro val ac u hR hp ha K hK
                        obtain ⟨w83, h83, r83⟩ := hp 12 (by decide); have e83 : (ac.tmps[83]?).getD undef = .int .i64 dv := (ha 83 (by decide)).trans h83; obtain ⟨w86, h86, r86⟩ := hp 15 (by decide); have e86 : (ac.tmps[86]?).getD undef = .int .i64 (e.seq - 1) := (ha 86 (by decide)).trans h86; obtain ⟨w75, h75, r75⟩ := hp 4 (by decide); have e75 : (ac.tmps[75]?).getD undef = .bool false := (ha 75 (by decide)).trans h75; clear h83 h86 h75 ha hp
                        refine Reg.Op1.guarded rfl rfl e75 (fun _ => Reg.Op1.plain rfl ?_) (fun h => absurd rfl h)
                        go_wp2
                        exact ⟨rfl, hK _ _ rfl (fun j k _ _ => Reg.Adds.refl _ _ _)⟩
                      · intro val ac u hR hp ha K hK
                        obtain ⟨w75, h75, r75⟩ := hp 4 (by decide); have e75 : (ac.tmps[75]?).getD undef = .bool false := (ha 75 (by decide)).trans h75; obtain ⟨w87, h87, r87⟩ := hp 16 (by decide); have e87 : (ac.tmps[87]?).getD undef = .bool false := (ha 87 (by decide)).trans h87; clear h75 h87 ha hp
                        refine Reg.Op1.plain rfl ?_
                        go_wp2
                        exact ⟨rfl, hK _ _ rfl (fun j k _ _ => Reg.Adds.refl _ _ _)⟩
                      · intro val ac u hR hp ha K hK
                        obtain ⟨w88, h88, r88⟩ := hp 17 (by decide); have e88 : (ac.tmps[88]?).getD undef = .bool false := (ha 88 (by decide)).trans h88; clear h88 ha hp
                        refine Reg.Op1.plain rfl ?_
                        go_wp2
                        exact ⟨rfl, hK _ _ rfl (fun j k _ _ => Reg.Adds.refl _ _ _)⟩
                    · intro val u hR H
                      obtain ⟨_, hv, _⟩ := H 18 (by decide)
                      have hv : val 18 = .bool false := hv
                      have HN : Hid (REAt w e u) := H4.out.below ((Below.refl _ w9).drew.trans hR)
                      simp only [List.map_cons, List.map_nil, Reg.lay, Act.put, List.setIfInBounds_toArray, List.set_cons_succ, List.set_cons_zero, Nat.reduceAdd, hv]
                      clear hR H hv
                      go_wp2
                      go_meet
                      case rel => exact ⟨by rw [hg]; rfl, HN.out⟩
                  · have hg : g4 e = false := by simp [g4, hdn0, hrn0, hdv, heq]
                    have hne : (dv != e.seq - 1) = true := by simp [heq]
                    clear heq
                    refine Reg.wp_region_rel (by kernel_rfl) 107 19 rfl rfl (by kernel_rfl) (Reg.Adds) (Reg.Adds.refl) (Reg.Adds.trans)
                      (fun i v u => match i with
                        | 0 => v = .pointer (some ⟨w.heap.size, 9, none⟩)
                        | 1 => v = .agg (vcCells e.deps).toArray
                        | 2 => v = .bool true
                        | 3 => v = .bool false
                        | 4 => v = .bool false
                        | 5 => v = .pointer (some ⟨w.heap.size + 1, 0, none⟩)
                        | 6 => v = .int .i64 (dn : Int)
                        | 7 => v = .pointer (some ⟨w.heap.size + 1, 1, none⟩)
                        | 8 => v = .int .i64 (rn : Int)
                        | 9 => v = .pointer (some ⟨w.heap.size, 9, none⟩)
                        | 10 => v = .pointer (some ⟨w.heap.size, 9 + dn * 3, none⟩)
                        | 11 => v = .pointer (some ⟨w.heap.size, 9 + dn * 3 + rn, none⟩)
                        | 12 => v = .int .i64 dv
                        | 13 => v = .pointer (some ⟨w.heap.size + 1, 2, none⟩)
                        | 14 => v = .int .i64 e.seq
                        | 15 => v = .int .i64 (e.seq - 1)
                        | 16 => v = .bool true
                        | 17 => v = .bool true
                        | 18 => v = .bool true
                        | _ => True) ?_ ?_
                    · refine Reg.Steps.cons ?_ (Reg.Steps.cons ?_ (Reg.Steps.cons ?_ (Reg.Steps.cons ?_ (Reg.Steps.cons ?_ (Reg.Steps.cons ?_ (Reg.Steps.cons ?_ (Reg.Steps.cons ?_ (Reg.Steps.cons ?_ (Reg.Steps.cons ?_ (Reg.Steps.cons ?_ (Reg.Steps.cons ?_ (Reg.Steps.cons ?_ (Reg.Steps.cons ?_ (Reg.Steps.cons ?_ (Reg.Steps.cons ?_ (Reg.Steps.cons ?_ (Reg.Steps.cons ?_ (Reg.Steps.cons ?_ (Reg.Steps.nil _)))))))))))))))))))
                      · intro val ac u hR hp ha K hK
                        have e1 : (ac.tmps[1]?).getD undef = .pointer (some ⟨w.heap.size, 0, none⟩) := ha 1 (by decide); clear ha hp
                        refine Reg.Op1.plain rfl ?_
                        go_wp2
                        exact ⟨rfl, hK _ _ rfl (fun j k _ _ => Reg.Adds.refl _ _ _)⟩
                      · intro val ac u hR hp ha K hK
                        obtain ⟨w71, h71, r71⟩ := hp 0 (by decide); have e71 : (ac.tmps[71]?).getD undef = .pointer (some ⟨w.heap.size, 9, none⟩) := (ha 71 (by decide)).trans h71; clear h71 ha hp
                        refine Reg.Op1.plain rfl ?_
                        have hEu : EBx u w.heap.size e := Mem.Bx.below (w := w9.drew) H4.out.E hR H4.out.E.lt
                        have x0 := hEu.cell (j := 9) rfl
                        have x1 := hEu.cell (j := 10) rfl
                        have x2 := hEu.cell (j := 11) rfl
                        have x3 := hEu.cell (j := 12) rfl
                        have x4 := hEu.cell (j := 13) rfl
                        have x5 := hEu.cell (j := 14) rfl
                        have x6 := hEu.cell (j := 15) rfl
                        have x7 := hEu.cell (j := 16) rfl
                        have x8 := hEu.cell (j := 17) rfl
                        clear hEu
                        go_wp2
                        exact ⟨rfl, hK _ _ rfl (fun j k _ _ => Reg.Adds.refl _ _ _)⟩
                      · intro val ac u hR hp ha K hK
                        obtain ⟨w72, h72, r72⟩ := hp 1 (by decide); have e72 : (ac.tmps[72]?).getD undef = .agg (vcCells e.deps).toArray := (ha 72 (by decide)).trans h72; clear h72 ha hp
                        refine Reg.Op1.plain rfl ?_
                        go_wp2_with fail
                        refine (vright_any e.deps u).mono ?_
                        rintro x w' ⟨rfl, hbw⟩
                        rw [hrv]
                        go_wp2_with fail
                        exact ⟨rfl, hK _ _ rfl (fun j k _ _ => hbw)⟩
                      · intro val ac u hR hp ha K hK
                        obtain ⟨w73, h73, r73⟩ := hp 2 (by decide); have e73 : (ac.tmps[73]?).getD undef = .bool true := (ha 73 (by decide)).trans h73; clear h73 ha hp
                        refine Reg.Op1.plain rfl ?_
                        go_wp2
                        exact ⟨rfl, hK _ _ rfl (fun j k _ _ => Reg.Adds.refl _ _ _)⟩
                      · intro val ac u hR hp ha K hK
                        obtain ⟨w74, h74, r74⟩ := hp 3 (by decide); have e74 : (ac.tmps[74]?).getD undef = .bool false := (ha 74 (by decide)).trans h74; clear h74 ha hp
                        refine Reg.Op1.plain rfl ?_
                        go_wp2
                        exact ⟨rfl, hK _ _ rfl (fun j k _ _ => Reg.Adds.refl _ _ _)⟩
                      · intro val ac u hR hp ha K hK
                        have e3 : (ac.tmps[3]?).getD undef = .pointer (some ⟨w.heap.size + 1, 0, none⟩) := ha 3 (by decide); obtain ⟨w75, h75, r75⟩ := hp 4 (by decide); have e75 : (ac.tmps[75]?).getD undef = .bool false := (ha 75 (by decide)).trans h75; clear h75 ha hp
                        refine Reg.Op1.guarded rfl rfl e75 (fun _ => Reg.Op1.plain rfl ?_) (fun h => absurd rfl h)
                        go_wp2
                        exact ⟨rfl, hK _ _ rfl (fun j k _ _ => Reg.Adds.refl _ _ _)⟩
                      · intro val ac u hR hp ha K hK
                        obtain ⟨w76, h76, r76⟩ := hp 5 (by decide); have e76 : (ac.tmps[76]?).getD undef = .pointer (some ⟨w.heap.size + 1, 0, none⟩) := (ha 76 (by decide)).trans h76; obtain ⟨w75, h75, r75⟩ := hp 4 (by decide); have e75 : (ac.tmps[75]?).getD undef = .bool false := (ha 75 (by decide)).trans h75; clear h76 h75 ha hp
                        refine Reg.Op1.guarded rfl rfl e75 (fun _ => Reg.Op1.plain rfl ?_) (fun h => absurd rfl h)
                        have x0 := (hR.cell (p := ⟨w.heap.size + 1, 0, none⟩) H4.out.D.lt).trans (H4.out.D.cell (j := 0) rfl)
                        rw [hdn] at x0
                        go_wp2
                        exact ⟨rfl, hK _ _ rfl (fun j k _ _ => Reg.Adds.refl _ _ _)⟩
                      · intro val ac u hR hp ha K hK
                        have e3 : (ac.tmps[3]?).getD undef = .pointer (some ⟨w.heap.size + 1, 0, none⟩) := ha 3 (by decide); obtain ⟨w75, h75, r75⟩ := hp 4 (by decide); have e75 : (ac.tmps[75]?).getD undef = .bool false := (ha 75 (by decide)).trans h75; clear h75 ha hp
                        refine Reg.Op1.guarded rfl rfl e75 (fun _ => Reg.Op1.plain rfl ?_) (fun h => absurd rfl h)
                        go_wp2
                        exact ⟨rfl, hK _ _ rfl (fun j k _ _ => Reg.Adds.refl _ _ _)⟩
                      · intro val ac u hR hp ha K hK
                        obtain ⟨w78, h78, r78⟩ := hp 7 (by decide); have e78 : (ac.tmps[78]?).getD undef = .pointer (some ⟨w.heap.size + 1, 1, none⟩) := (ha 78 (by decide)).trans h78; obtain ⟨w75, h75, r75⟩ := hp 4 (by decide); have e75 : (ac.tmps[75]?).getD undef = .bool false := (ha 75 (by decide)).trans h75; clear h78 h75 ha hp
                        refine Reg.Op1.guarded rfl rfl e75 (fun _ => Reg.Op1.plain rfl ?_) (fun h => absurd rfl h)
                        have x0 := (hR.cell (p := ⟨w.heap.size + 1, 1, none⟩) H4.out.D.lt).trans (H4.out.D.cell (j := 1) rfl)
                        rw [hrn] at x0
                        go_wp2
                        exact ⟨rfl, hK _ _ rfl (fun j k _ _ => Reg.Adds.refl _ _ _)⟩
                      · intro val ac u hR hp ha K hK
                        have e1 : (ac.tmps[1]?).getD undef = .pointer (some ⟨w.heap.size, 0, none⟩) := ha 1 (by decide); obtain ⟨w75, h75, r75⟩ := hp 4 (by decide); have e75 : (ac.tmps[75]?).getD undef = .bool false := (ha 75 (by decide)).trans h75; clear h75 ha hp
                        refine Reg.Op1.guarded rfl rfl e75 (fun _ => Reg.Op1.plain rfl ?_) (fun h => absurd rfl h)
                        go_wp2
                        exact ⟨rfl, hK _ _ rfl (fun j k _ _ => Reg.Adds.refl _ _ _)⟩
                      · intro val ac u hR hp ha K hK
                        obtain ⟨w80, h80, r80⟩ := hp 9 (by decide); have e80 : (ac.tmps[80]?).getD undef = .pointer (some ⟨w.heap.size, 9, none⟩) := (ha 80 (by decide)).trans h80; obtain ⟨w77, h77, r77⟩ := hp 6 (by decide); have e77 : (ac.tmps[77]?).getD undef = .int .i64 (dn : Int) := (ha 77 (by decide)).trans h77; obtain ⟨w75, h75, r75⟩ := hp 4 (by decide); have e75 : (ac.tmps[75]?).getD undef = .bool false := (ha 75 (by decide)).trans h75; clear h80 h77 h75 ha hp
                        refine Reg.Op1.guarded rfl rfl e75 (fun _ => Reg.Op1.plain rfl ?_) (fun h => absurd rfl h)
                        go_wp2
                        exact ⟨rfl, hK _ _ rfl (fun j k _ _ => Reg.Adds.refl _ _ _)⟩
                      · intro val ac u hR hp ha K hK
                        obtain ⟨w81, h81, r81⟩ := hp 10 (by decide); have e81 : (ac.tmps[81]?).getD undef = .pointer (some ⟨w.heap.size, 9 + dn * 3, none⟩) := (ha 81 (by decide)).trans h81; obtain ⟨w79, h79, r79⟩ := hp 8 (by decide); have e79 : (ac.tmps[79]?).getD undef = .int .i64 (rn : Int) := (ha 79 (by decide)).trans h79; obtain ⟨w75, h75, r75⟩ := hp 4 (by decide); have e75 : (ac.tmps[75]?).getD undef = .bool false := (ha 75 (by decide)).trans h75; clear h81 h79 h75 ha hp
                        refine Reg.Op1.guarded rfl rfl e75 (fun _ => Reg.Op1.plain rfl ?_) (fun h => absurd rfl h)
                        go_wp2
                        exact ⟨rfl, hK _ _ rfl (fun j k _ _ => Reg.Adds.refl _ _ _)⟩
                      · intro val ac u hR hp ha K hK
                        obtain ⟨w82, h82, r82⟩ := hp 11 (by decide); have e82 : (ac.tmps[82]?).getD undef = .pointer (some ⟨w.heap.size, 9 + dn * 3 + rn, none⟩) := (ha 82 (by decide)).trans h82; obtain ⟨w75, h75, r75⟩ := hp 4 (by decide); have e75 : (ac.tmps[75]?).getD undef = .bool false := (ha 75 (by decide)).trans h75; clear h82 h75 ha hp
                        refine Reg.Op1.guarded rfl rfl e75 (fun _ => Reg.Op1.plain rfl ?_) (fun h => absurd rfl h)
                        have x0 := (hR.cell (p := ⟨w.heap.size, 9 + dn * 3 + rn, none⟩) H4.out.E.lt).trans (H4.out.E.cell (j := 9 + dn * 3 + rn) (deps_cell e hd3 hr3))
                        rw [hdv] at x0
                        go_wp2
                        exact ⟨rfl, hK _ _ rfl (fun j k _ _ => Reg.Adds.refl _ _ _)⟩
                      · intro val ac u hR hp ha K hK
                        have e3 : (ac.tmps[3]?).getD undef = .pointer (some ⟨w.heap.size + 1, 0, none⟩) := ha 3 (by decide); obtain ⟨w75, h75, r75⟩ := hp 4 (by decide); have e75 : (ac.tmps[75]?).getD undef = .bool false := (ha 75 (by decide)).trans h75; clear h75 ha hp
                        refine Reg.Op1.guarded rfl rfl e75 (fun _ => Reg.Op1.plain rfl ?_) (fun h => absurd rfl h)
                        go_wp2
                        exact ⟨rfl, hK _ _ rfl (fun j k _ _ => Reg.Adds.refl _ _ _)⟩
                      · intro val ac u hR hp ha K hK
                        obtain ⟨w84, h84, r84⟩ := hp 13 (by decide); have e84 : (ac.tmps[84]?).getD undef = .pointer (some ⟨w.heap.size + 1, 2, none⟩) := (ha 84 (by decide)).trans h84; obtain ⟨w75, h75, r75⟩ := hp 4 (by decide); have e75 : (ac.tmps[75]?).getD undef = .bool false := (ha 75 (by decide)).trans h75; clear h84 h75 ha hp
                        refine Reg.Op1.guarded rfl rfl e75 (fun _ => Reg.Op1.plain rfl ?_) (fun h => absurd rfl h)
                        have x0 := (hR.cell (p := ⟨w.heap.size + 1, 2, none⟩) H4.out.D.lt).trans (H4.out.D.cell (j := 2) rfl)
                        go_wp2
                        exact ⟨rfl, hK _ _ rfl (fun j k _ _ => Reg.Adds.refl _ _ _)⟩
                      · intro val ac u hR hp ha K hK
                        obtain ⟨w85, h85, r85⟩ := hp 14 (by decide); have e85 : (ac.tmps[85]?).getD undef = .int .i64 e.seq := (ha 85 (by decide)).trans h85; obtain ⟨w75, h75, r75⟩ := hp 4 (by decide); have e75 : (ac.tmps[75]?).getD undef = .bool false := (ha 75 (by decide)).trans h75; clear h85 h75 ha hp
                        refine Reg.Op1.guarded rfl rfl e75 (fun _ => Reg.Op1.plain rfl ?_) (fun h => absurd rfl h)
                        go_wp2
                        exact ⟨rfl, hK _ _ rfl (fun j k _ _ => Reg.Adds.refl _ _ _)⟩
                      · intro val ac u hR hp ha K hK
                        obtain ⟨w83, h83, r83⟩ := hp 12 (by decide); have e83 : (ac.tmps[83]?).getD undef = .int .i64 dv := (ha 83 (by decide)).trans h83; obtain ⟨w86, h86, r86⟩ := hp 15 (by decide); have e86 : (ac.tmps[86]?).getD undef = .int .i64 (e.seq - 1) := (ha 86 (by decide)).trans h86; obtain ⟨w75, h75, r75⟩ := hp 4 (by decide); have e75 : (ac.tmps[75]?).getD undef = .bool false := (ha 75 (by decide)).trans h75; clear h83 h86 h75 ha hp
                        refine Reg.Op1.guarded rfl rfl e75 (fun _ => Reg.Op1.plain rfl ?_) (fun h => absurd rfl h)
                        go_wp2
                        exact ⟨rfl, hK _ _ rfl (fun j k _ _ => Reg.Adds.refl _ _ _)⟩
                      · intro val ac u hR hp ha K hK
                        obtain ⟨w75, h75, r75⟩ := hp 4 (by decide); have e75 : (ac.tmps[75]?).getD undef = .bool false := (ha 75 (by decide)).trans h75; obtain ⟨w87, h87, r87⟩ := hp 16 (by decide); have e87 : (ac.tmps[87]?).getD undef = .bool true := (ha 87 (by decide)).trans h87; clear h75 h87 ha hp
                        refine Reg.Op1.plain rfl ?_
                        go_wp2
                        exact ⟨rfl, hK _ _ rfl (fun j k _ _ => Reg.Adds.refl _ _ _)⟩
                      · intro val ac u hR hp ha K hK
                        obtain ⟨w88, h88, r88⟩ := hp 17 (by decide); have e88 : (ac.tmps[88]?).getD undef = .bool true := (ha 88 (by decide)).trans h88; clear h88 ha hp
                        refine Reg.Op1.plain rfl ?_
                        go_wp2
                        exact ⟨rfl, hK _ _ rfl (fun j k _ _ => Reg.Adds.refl _ _ _)⟩
                    · intro val u hR H
                      obtain ⟨_, hv, _⟩ := H 18 (by decide)
                      have hv : val 18 = .bool true := hv
                      have HN : Hid (REAt w e u) := H4.out.below ((Below.refl _ w9).drew.trans hR)
                      simp only [List.map_cons, List.map_nil, Reg.lay, Act.put, List.setIfInBounds_toArray, List.set_cons_succ, List.set_cons_zero, Nat.reduceAdd, hv]
                      clear hR H hv
                      go_wp2
                      go_meet
                      case rel => exact ⟨by rw [hg]; rfl, HN.out⟩
              case rest =>
                obtain ⟨rfl, hR1⟩ := hcut
                have H5 := Lib.hid hR1
                clear hR1 H4
                cases hg4 : g4 e
                ·
                  have hr : Vec.rightE e = false := by simp [Vec.rightE, hg4]
                  go_wp2
                  go_ret
                  exact ⟨by rw [hr]; rfl, H5.out.b⟩
                · have x0 := H5.out.E.cell (j := 18) rfl
                  have x1 := H5.out.E.cell (j := 19) rfl
                  by_cases h1 : 0 ≤ e.cl
                  · have d1 : decide (0 ≤ e.cl) = true := by simpa using h1
                    by_cases h2 : e.cl < 4
                    · have d2 : decide (e.cl < 4) = true := by simpa using h2
                      by_cases h3 : 1 ≤ e.op
                      · have d3 : decide (1 ≤ e.op) = true := by simpa using h3
                        by_cases h4 : e.op ≤ 1099511627776
                        · have d4 : decide (e.op ≤ 1099511627776) = true := by simpa using h4
                          have hr : rightE e = true := by simp [rightE, hg1, hg2, hg3, hg4, g5, h1, h2, h3, h4]
                          go_wp2
                          go_ret
                          first | exact ⟨rfl, H5.out.b⟩ | exact ⟨by rw [hr]; rfl, H5.out.b⟩
                        · have d4 : decide (e.op ≤ 1099511627776) = false := by simpa using h4
                          have hr : rightE e = false := by simp [rightE, g5, h4]
                          go_wp2
                          go_ret
                          first | exact ⟨rfl, H5.out.b⟩ | exact ⟨by rw [hr]; rfl, H5.out.b⟩
                      · have d3 : decide (1 ≤ e.op) = false := by simpa using h3
                        have hr : rightE e = false := by simp [rightE, g5, h3]
                        go_wp2
                        go_ret
                        first | exact ⟨rfl, H5.out.b⟩ | exact ⟨by rw [hr]; rfl, H5.out.b⟩
                    · have d2 : decide (e.cl < 4) = false := by simpa using h2
                      have hr : rightE e = false := by simp [rightE, g5, h2]
                      go_wp2
                      go_ret
                      first | exact ⟨rfl, H5.out.b⟩ | exact ⟨by rw [hr]; rfl, H5.out.b⟩
                  · have d1 : decide (0 ≤ e.cl) = false := by simpa using h1
                    have hr : rightE e = false := by simp [rightE, g5, h1]
                    go_wp2
                    go_ret
                    first | exact ⟨rfl, H5.out.b⟩ | exact ⟨by rw [hr]; rfl, H5.out.b⟩
end Go.Proofs.Ytfafehffnjbhnaa
