/- The walks of vec.With and vec.Lay: what they compute. No conditions. -/
import Derived.Test.YtelephoalpphkaaTyIdx
import Derived.StillTailTactics
namespace Go.Proofs.Ytelephoalpphkaa
open Go.ChangeShapes Go.WideShapes Go.ChangeAt Go.RowKit
set_option linter.unusedVariables false
set_option linter.unusedSimpArgs false

namespace Vec
structure WithRel (w : World) (v : Vc) (ds : List Dt) (vi : Value) (wr : World) : Prop where
  out : ∃ k : Nat, k ≤ ds.length ∧ vi = .int .i64 k ∧ Hid (VBx wr w.heap.size (withL v (ds.take k))) ∧ Hid (VBx wr (w.heap.size + 1) vc0) ∧ Hid (Below w.heap.size w wr)
end Vec
open Vec in
set_option maxRecDepth 20000 in
set_option maxHeartbeats 8000000 in
theorem with_any (v : Vec.Vc) (A : Option Addr) (c : Nat) (ds : List Vec.Dt) (B : Nat) (w : World) (hr : Mem.Rd w B A (ds.flatMap Vec.dtCells)) (hB : B ≤ w.heap.size) (hn : ds.length ≤ maxLen) :
    Calls Try.prog 32 #[.agg (Vec.vcCells v).toArray, .slice A ds.length c] w fun e w' => e = .returned (.agg (Vec.vcCells (Vec.withL v ds)).toArray) ∧ Below w.heap.size w w' := by
  unfold maxLen at hn
  have hm := Lib.hid (hr.more hB)
  clear hr
  go_enter Try.func32, Try.ntmps32
  go_wp2
  go_loopw [9] (WithRel w v ds) (fun t _ => ds.length - (intOf t).toNat)
  case atStart =>
    refine ⟨⟨0, by omega, rfl, ?_, ?_, ?_⟩⟩
    · exact (Mem.Bx.new w 33 (vcCells v).toArray rfl rfl).below (Reg.below_new _ _) (by simp)
    · exact Mem.Bx.new (w.alloc _) 33 (vcCells vc0).toArray rfl (by simp)
    · exact (Reg.below_new _ _).alloc (by simp) _
  case round =>
    obtain ⟨k, hk, rfl, HV, H0, HB⟩ := hrel.out
    have hz := HB.out.size
    have hz1 := H0.out.lt
    by_cases hlt : k < ds.length
    · obtain ⟨b, o, rfl, hb, hc⟩ := Mem.Rd.elem dtCells_length hm.out hlt (by omega)
      obtain ⟨dd, hdd⟩ : ∃ dd, ds[k] = dd := ⟨_, rfl⟩
      have hpk : ds[k]? = some dd := by rw [← hdd]; exact List.getElem?_eq_getElem hlt
      rw [hdd] at hc
      have q0 : wr.cell? ⟨b, o + k * 3, none⟩ = some (.int .i64 dd.dc) := (HB.out.cell (p := ⟨b, o + k * 3, none⟩) hb).trans (by simpa using hc 0 _ rfl)
      have q1 : wr.cell? ⟨b, o + k * 3 + 1, none⟩ = some (.int .i64 dd.rng) := (HB.out.cell (p := ⟨b, o + k * 3 + 1, none⟩) hb).trans (by simpa [Nat.add_assoc] using hc 1 _ rfl)
      have q2 : wr.cell? ⟨b, o + k * 3 + 2, none⟩ = some (.int .i64 dd.seq) := (HB.out.cell (p := ⟨b, o + k * 3 + 2, none⟩) hb).trans (by simpa [Nat.add_assoc] using hc 2 _ rfl)
      have HTS := Lib.hid (show withL v (ds.take (k + 1)) = withD (withL v (ds.take k)) dd by rw [Mem.take_snoc hpk, withL_snoc])
      obtain ⟨vv, hvv⟩ : ∃ vv, withL v (ds.take k) = vv := ⟨_, rfl⟩
      rw [hvv] at HV HTS
      clear hc hdd hpk hvv
      go_upto_region 4 with fail
      obtain ⟨w2, hw2⟩ : ∃ w2, wr.alloc (.cells #[.int .i64 dd.dc, .int .i64 dd.rng, .int .i64 dd.seq] 28) = w2 := ⟨_, rfl⟩
      have HB2 : Hid (Below w.heap.size w w2) := by show Below _ _ _; rw [← hw2]; exact HB.out.alloc hz _
      have HV2 : Hid (VBx w2 w.heap.size vv) := by show VBx _ _ _; rw [← hw2]; exact HV.out.below (Reg.below_new _ _) HV.out.lt
      have H02 : Hid (VBx w2 (w.heap.size + 1) vc0) := by show VBx _ _ _; rw [← hw2]; exact H0.out.below (Reg.below_new _ _) hz1
      have HD2 : Hid (Mem.Bx w2 28 3 wr.heap.size (dtCells dd)) := by show Mem.Bx _ _ _ _ _; rw [← hw2]; exact Mem.Bx.new wr _ (dtCells dd).toArray rfl rfl
      have hzw : wr.heap.size < w2.heap.size := HD2.out.lt
      have x0 := HD2.out.cell (j := 0) rfl
      have x1 := HD2.out.cell (j := 1) rfl
      have x2 := HD2.out.cell (j := 2) rfl
      rw [hw2]
      clear hw2 q0 q1 q2 HV H0 HB
      cases hch : Vec.chain dd.dc dd.rng
      · have hwd : withD vv dd = vv := by unfold withD; rw [hch]; rfl
        go_wp2_with fail
        refine (chain_any _ _ _).mono ?_
        rintro _ _ ⟨rfl, rfl⟩
        rw [hch]
        go_wp2
        go_roundw
        case rel => exact ⟨⟨k + 1, by omega, by go_num, by show VBx _ _ _; rw [HTS.out, hwd]; exact HV2.out, H02, HB2⟩⟩
        case measure => simp [intOf]; omega
      · have hwd : withD vv dd = vv.put dd.dc.toNat dd.rng.toNat (max (vv.get dd.dc.toNat dd.rng.toNat) dd.seq) := by unfold withD; rw [hch]; rfl
        obtain ⟨hd3, hd4, hr0, hr3⟩ := chain_nat hch
        obtain ⟨dn, hdn0⟩ : ∃ dn, dd.dc.toNat = dn := ⟨_, rfl⟩
        obtain ⟨rn, hrn0⟩ : ∃ rn, dd.rng.toNat = rn := ⟨_, rfl⟩
        have hdn : dd.dc = (dn : Int) := by omega
        have hrn : dd.rng = (rn : Int) := by omega
        have hr4 : rn < 3 := by omega
        rw [hdn0] at hd3
        rw [hdn0, hrn0] at hwd
        rw [hdn] at x0
        rw [hrn] at x1
        rw [hdn, hrn] at hch
        have HCH := Lib.hid hch
        have HWD := Lib.hid hwd
        obtain ⟨cv, hcv⟩ : ∃ cv, vv.get dn rn = cv := ⟨_, rfl⟩
        have y0 : w2.cell? ⟨w.heap.size, dn * 3 + rn, none⟩ = some (.int .i64 cv) := by rw [← hcv]; exact HV2.out.cell (j := dn * 3 + rn) (vc_cell vv hd3 hr4)
        have HCV := Lib.hid hcv
        have f1 := HV2.out.fr (dn * 3 + rn)
        clear hch hwd hd4 hr0 hr3 hcv hdn hrn hdn0 hrn0
        have h9 : dn = 0 ∨ dn = 1 ∨ dn = 2 := by omega
        have h10 : rn = 0 ∨ rn = 1 ∨ rn = 2 := by omega
        rcases h9 with rfl | rfl | rfl
        · rcases h10 with rfl | rfl | rfl
          ·
            have y0 : w2.cell? ⟨w.heap.size, 0, none⟩ = some (.int .i64 cv) := y0
            have f1 : w2.frozen? ⟨w.heap.size, 0, none⟩ = false := f1
            go_wp2_with fail
            refine (chain_any _ _ _).mono ?_
            rintro _ _ ⟨rfl, rfl⟩
            rw [show Vec.chain 0 0 = true from rfl]
            have hmx : ∀ ts t W, (Builtin.max_ ts t #[.int .i64 cv, .int .i64 dd.seq]).run Try.prog W = .ok (.int .i64 (max cv dd.seq)) W := fun ts t W => run_max2 ts t W _ _
            go_wp2
            refine Reg.still_tail 16 (by kernel_rfl) (by kernel_rfl) ?_
            intro w5 hw5
            simp only [List.take_succ_cons, List.take_zero, List.drop_succ_cons, List.drop_zero]
            have x0' : w5.cell? ⟨wr.heap.size, 0, none⟩ = some (.int .i64 0) := by rw [hw5]; exact x0
            have x1' : w5.cell? ⟨wr.heap.size, 1, none⟩ = some (.int .i64 0) := by rw [hw5]; exact x1
            have x2' : w5.cell? ⟨wr.heap.size, 2, none⟩ = some (.int .i64 dd.seq) := by rw [hw5]; exact x2
            have y0' : w5.cell? ⟨w.heap.size, 0, none⟩ = some (.int .i64 cv) := by rw [hw5]; exact y0
            have f1' : w5.frozen? ⟨w.heap.size, 0, none⟩ = false := by rw [hw5]; exact f1
            have HK5 : Hid (Mem.Keeps (fun _ => False) w2 w5) := by show Mem.Keeps _ _ _; rw [hw5]; exact (Mem.Keeps.refl _ w2).drew
            clear hw5 x0 x1 x2 y0 f1
            repeat still_step
            refine wpStill_nil ?_
            go_wp2
            go_roundw
            case rel =>
              refine ⟨⟨k + 1, by omega, by go_num, ?_, (H02.out.keeps HK5.out id).keep (by omega) _ _, ?_⟩⟩
              · show VBx _ _ _
                have h1 := (HV2.out.keeps HK5.out id).set (0 * 3 + 0) (.int .i64 (max cv dd.seq))
                rw [vc_set vv hd3 hr4] at h1
                rw [HTS.out, HWD.out, HCV.out]
                exact h1
              · exact (HB2.out.trans (HK5.out.below (fun k h => h.elim) HB2.out.size)).setCell (by simp) _
            case measure => simp [intOf]; omega
          ·
            have y0 : w2.cell? ⟨w.heap.size, 1, none⟩ = some (.int .i64 cv) := y0
            have f1 : w2.frozen? ⟨w.heap.size, 1, none⟩ = false := f1
            go_wp2_with fail
            refine (chain_any _ _ _).mono ?_
            rintro _ _ ⟨rfl, rfl⟩
            rw [show Vec.chain 0 1 = true from rfl]
            have hmx : ∀ ts t W, (Builtin.max_ ts t #[.int .i64 cv, .int .i64 dd.seq]).run Try.prog W = .ok (.int .i64 (max cv dd.seq)) W := fun ts t W => run_max2 ts t W _ _
            go_wp2
            refine Reg.still_tail 16 (by kernel_rfl) (by kernel_rfl) ?_
            intro w5 hw5
            simp only [List.take_succ_cons, List.take_zero, List.drop_succ_cons, List.drop_zero]
            have x0' : w5.cell? ⟨wr.heap.size, 0, none⟩ = some (.int .i64 0) := by rw [hw5]; exact x0
            have x1' : w5.cell? ⟨wr.heap.size, 1, none⟩ = some (.int .i64 1) := by rw [hw5]; exact x1
            have x2' : w5.cell? ⟨wr.heap.size, 2, none⟩ = some (.int .i64 dd.seq) := by rw [hw5]; exact x2
            have y0' : w5.cell? ⟨w.heap.size, 1, none⟩ = some (.int .i64 cv) := by rw [hw5]; exact y0
            have f1' : w5.frozen? ⟨w.heap.size, 1, none⟩ = false := by rw [hw5]; exact f1
            have HK5 : Hid (Mem.Keeps (fun _ => False) w2 w5) := by show Mem.Keeps _ _ _; rw [hw5]; exact (Mem.Keeps.refl _ w2).drew
            clear hw5 x0 x1 x2 y0 f1
            repeat still_step
            refine wpStill_nil ?_
            go_wp2
            go_roundw
            case rel =>
              refine ⟨⟨k + 1, by omega, by go_num, ?_, (H02.out.keeps HK5.out id).keep (by omega) _ _, ?_⟩⟩
              · show VBx _ _ _
                have h1 := (HV2.out.keeps HK5.out id).set (0 * 3 + 1) (.int .i64 (max cv dd.seq))
                rw [vc_set vv hd3 hr4] at h1
                rw [HTS.out, HWD.out, HCV.out]
                exact h1
              · exact (HB2.out.trans (HK5.out.below (fun k h => h.elim) HB2.out.size)).setCell (by simp) _
            case measure => simp [intOf]; omega
          ·
            have y0 : w2.cell? ⟨w.heap.size, 2, none⟩ = some (.int .i64 cv) := y0
            have f1 : w2.frozen? ⟨w.heap.size, 2, none⟩ = false := f1
            go_wp2_with fail
            refine (chain_any _ _ _).mono ?_
            rintro _ _ ⟨rfl, rfl⟩
            rw [show Vec.chain 0 2 = true from rfl]
            have hmx : ∀ ts t W, (Builtin.max_ ts t #[.int .i64 cv, .int .i64 dd.seq]).run Try.prog W = .ok (.int .i64 (max cv dd.seq)) W := fun ts t W => run_max2 ts t W _ _
            go_wp2
            refine Reg.still_tail 16 (by kernel_rfl) (by kernel_rfl) ?_
            intro w5 hw5
            simp only [List.take_succ_cons, List.take_zero, List.drop_succ_cons, List.drop_zero]
            have x0' : w5.cell? ⟨wr.heap.size, 0, none⟩ = some (.int .i64 0) := by rw [hw5]; exact x0
            have x1' : w5.cell? ⟨wr.heap.size, 1, none⟩ = some (.int .i64 2) := by rw [hw5]; exact x1
            have x2' : w5.cell? ⟨wr.heap.size, 2, none⟩ = some (.int .i64 dd.seq) := by rw [hw5]; exact x2
            have y0' : w5.cell? ⟨w.heap.size, 2, none⟩ = some (.int .i64 cv) := by rw [hw5]; exact y0
            have f1' : w5.frozen? ⟨w.heap.size, 2, none⟩ = false := by rw [hw5]; exact f1
            have HK5 : Hid (Mem.Keeps (fun _ => False) w2 w5) := by show Mem.Keeps _ _ _; rw [hw5]; exact (Mem.Keeps.refl _ w2).drew
            clear hw5 x0 x1 x2 y0 f1
            repeat still_step
            refine wpStill_nil ?_
            go_wp2
            go_roundw
            case rel =>
              refine ⟨⟨k + 1, by omega, by go_num, ?_, (H02.out.keeps HK5.out id).keep (by omega) _ _, ?_⟩⟩
              · show VBx _ _ _
                have h1 := (HV2.out.keeps HK5.out id).set (0 * 3 + 2) (.int .i64 (max cv dd.seq))
                rw [vc_set vv hd3 hr4] at h1
                rw [HTS.out, HWD.out, HCV.out]
                exact h1
              · exact (HB2.out.trans (HK5.out.below (fun k h => h.elim) HB2.out.size)).setCell (by simp) _
            case measure => simp [intOf]; omega
        · rcases h10 with rfl | rfl | rfl
          ·
            have y0 : w2.cell? ⟨w.heap.size, 3, none⟩ = some (.int .i64 cv) := y0
            have f1 : w2.frozen? ⟨w.heap.size, 3, none⟩ = false := f1
            go_wp2_with fail
            refine (chain_any _ _ _).mono ?_
            rintro _ _ ⟨rfl, rfl⟩
            rw [show Vec.chain 1 0 = true from rfl]
            have hmx : ∀ ts t W, (Builtin.max_ ts t #[.int .i64 cv, .int .i64 dd.seq]).run Try.prog W = .ok (.int .i64 (max cv dd.seq)) W := fun ts t W => run_max2 ts t W _ _
            go_wp2
            refine Reg.still_tail 16 (by kernel_rfl) (by kernel_rfl) ?_
            intro w5 hw5
            simp only [List.take_succ_cons, List.take_zero, List.drop_succ_cons, List.drop_zero]
            have x0' : w5.cell? ⟨wr.heap.size, 0, none⟩ = some (.int .i64 1) := by rw [hw5]; exact x0
            have x1' : w5.cell? ⟨wr.heap.size, 1, none⟩ = some (.int .i64 0) := by rw [hw5]; exact x1
            have x2' : w5.cell? ⟨wr.heap.size, 2, none⟩ = some (.int .i64 dd.seq) := by rw [hw5]; exact x2
            have y0' : w5.cell? ⟨w.heap.size, 3, none⟩ = some (.int .i64 cv) := by rw [hw5]; exact y0
            have f1' : w5.frozen? ⟨w.heap.size, 3, none⟩ = false := by rw [hw5]; exact f1
            have HK5 : Hid (Mem.Keeps (fun _ => False) w2 w5) := by show Mem.Keeps _ _ _; rw [hw5]; exact (Mem.Keeps.refl _ w2).drew
            clear hw5 x0 x1 x2 y0 f1
            repeat still_step
            refine wpStill_nil ?_
            go_wp2
            go_roundw
            case rel =>
              refine ⟨⟨k + 1, by omega, by go_num, ?_, (H02.out.keeps HK5.out id).keep (by omega) _ _, ?_⟩⟩
              · show VBx _ _ _
                have h1 := (HV2.out.keeps HK5.out id).set (1 * 3 + 0) (.int .i64 (max cv dd.seq))
                rw [vc_set vv hd3 hr4] at h1
                rw [HTS.out, HWD.out, HCV.out]
                exact h1
              · exact (HB2.out.trans (HK5.out.below (fun k h => h.elim) HB2.out.size)).setCell (by simp) _
            case measure => simp [intOf]; omega
          ·
            have y0 : w2.cell? ⟨w.heap.size, 4, none⟩ = some (.int .i64 cv) := y0
            have f1 : w2.frozen? ⟨w.heap.size, 4, none⟩ = false := f1
            go_wp2_with fail
            refine (chain_any _ _ _).mono ?_
            rintro _ _ ⟨rfl, rfl⟩
            rw [show Vec.chain 1 1 = true from rfl]
            have hmx : ∀ ts t W, (Builtin.max_ ts t #[.int .i64 cv, .int .i64 dd.seq]).run Try.prog W = .ok (.int .i64 (max cv dd.seq)) W := fun ts t W => run_max2 ts t W _ _
            go_wp2
            refine Reg.still_tail 16 (by kernel_rfl) (by kernel_rfl) ?_
            intro w5 hw5
            simp only [List.take_succ_cons, List.take_zero, List.drop_succ_cons, List.drop_zero]
            have x0' : w5.cell? ⟨wr.heap.size, 0, none⟩ = some (.int .i64 1) := by rw [hw5]; exact x0
            have x1' : w5.cell? ⟨wr.heap.size, 1, none⟩ = some (.int .i64 1) := by rw [hw5]; exact x1
            have x2' : w5.cell? ⟨wr.heap.size, 2, none⟩ = some (.int .i64 dd.seq) := by rw [hw5]; exact x2
            have y0' : w5.cell? ⟨w.heap.size, 4, none⟩ = some (.int .i64 cv) := by rw [hw5]; exact y0
            have f1' : w5.frozen? ⟨w.heap.size, 4, none⟩ = false := by rw [hw5]; exact f1
            have HK5 : Hid (Mem.Keeps (fun _ => False) w2 w5) := by show Mem.Keeps _ _ _; rw [hw5]; exact (Mem.Keeps.refl _ w2).drew
            clear hw5 x0 x1 x2 y0 f1
            repeat still_step
            refine wpStill_nil ?_
            go_wp2
            go_roundw
            case rel =>
              refine ⟨⟨k + 1, by omega, by go_num, ?_, (H02.out.keeps HK5.out id).keep (by omega) _ _, ?_⟩⟩
              · show VBx _ _ _
                have h1 := (HV2.out.keeps HK5.out id).set (1 * 3 + 1) (.int .i64 (max cv dd.seq))
                rw [vc_set vv hd3 hr4] at h1
                rw [HTS.out, HWD.out, HCV.out]
                exact h1
              · exact (HB2.out.trans (HK5.out.below (fun k h => h.elim) HB2.out.size)).setCell (by simp) _
            case measure => simp [intOf]; omega
          ·
            have y0 : w2.cell? ⟨w.heap.size, 5, none⟩ = some (.int .i64 cv) := y0
            have f1 : w2.frozen? ⟨w.heap.size, 5, none⟩ = false := f1
            go_wp2_with fail
            refine (chain_any _ _ _).mono ?_
            rintro _ _ ⟨rfl, rfl⟩
            rw [show Vec.chain 1 2 = true from rfl]
            have hmx : ∀ ts t W, (Builtin.max_ ts t #[.int .i64 cv, .int .i64 dd.seq]).run Try.prog W = .ok (.int .i64 (max cv dd.seq)) W := fun ts t W => run_max2 ts t W _ _
            go_wp2
            refine Reg.still_tail 16 (by kernel_rfl) (by kernel_rfl) ?_
            intro w5 hw5
            simp only [List.take_succ_cons, List.take_zero, List.drop_succ_cons, List.drop_zero]
            have x0' : w5.cell? ⟨wr.heap.size, 0, none⟩ = some (.int .i64 1) := by rw [hw5]; exact x0
            have x1' : w5.cell? ⟨wr.heap.size, 1, none⟩ = some (.int .i64 2) := by rw [hw5]; exact x1
            have x2' : w5.cell? ⟨wr.heap.size, 2, none⟩ = some (.int .i64 dd.seq) := by rw [hw5]; exact x2
            have y0' : w5.cell? ⟨w.heap.size, 5, none⟩ = some (.int .i64 cv) := by rw [hw5]; exact y0
            have f1' : w5.frozen? ⟨w.heap.size, 5, none⟩ = false := by rw [hw5]; exact f1
            have HK5 : Hid (Mem.Keeps (fun _ => False) w2 w5) := by show Mem.Keeps _ _ _; rw [hw5]; exact (Mem.Keeps.refl _ w2).drew
            clear hw5 x0 x1 x2 y0 f1
            repeat still_step
            refine wpStill_nil ?_
            go_wp2
            go_roundw
            case rel =>
              refine ⟨⟨k + 1, by omega, by go_num, ?_, (H02.out.keeps HK5.out id).keep (by omega) _ _, ?_⟩⟩
              · show VBx _ _ _
                have h1 := (HV2.out.keeps HK5.out id).set (1 * 3 + 2) (.int .i64 (max cv dd.seq))
                rw [vc_set vv hd3 hr4] at h1
                rw [HTS.out, HWD.out, HCV.out]
                exact h1
              · exact (HB2.out.trans (HK5.out.below (fun k h => h.elim) HB2.out.size)).setCell (by simp) _
            case measure => simp [intOf]; omega
        · rcases h10 with rfl | rfl | rfl
          ·
            have y0 : w2.cell? ⟨w.heap.size, 6, none⟩ = some (.int .i64 cv) := y0
            have f1 : w2.frozen? ⟨w.heap.size, 6, none⟩ = false := f1
            go_wp2_with fail
            refine (chain_any _ _ _).mono ?_
            rintro _ _ ⟨rfl, rfl⟩
            rw [show Vec.chain 2 0 = true from rfl]
            have hmx : ∀ ts t W, (Builtin.max_ ts t #[.int .i64 cv, .int .i64 dd.seq]).run Try.prog W = .ok (.int .i64 (max cv dd.seq)) W := fun ts t W => run_max2 ts t W _ _
            go_wp2
            refine Reg.still_tail 16 (by kernel_rfl) (by kernel_rfl) ?_
            intro w5 hw5
            simp only [List.take_succ_cons, List.take_zero, List.drop_succ_cons, List.drop_zero]
            have x0' : w5.cell? ⟨wr.heap.size, 0, none⟩ = some (.int .i64 2) := by rw [hw5]; exact x0
            have x1' : w5.cell? ⟨wr.heap.size, 1, none⟩ = some (.int .i64 0) := by rw [hw5]; exact x1
            have x2' : w5.cell? ⟨wr.heap.size, 2, none⟩ = some (.int .i64 dd.seq) := by rw [hw5]; exact x2
            have y0' : w5.cell? ⟨w.heap.size, 6, none⟩ = some (.int .i64 cv) := by rw [hw5]; exact y0
            have f1' : w5.frozen? ⟨w.heap.size, 6, none⟩ = false := by rw [hw5]; exact f1
            have HK5 : Hid (Mem.Keeps (fun _ => False) w2 w5) := by show Mem.Keeps _ _ _; rw [hw5]; exact (Mem.Keeps.refl _ w2).drew
            clear hw5 x0 x1 x2 y0 f1
            repeat still_step
            refine wpStill_nil ?_
            go_wp2
            go_roundw
            case rel =>
              refine ⟨⟨k + 1, by omega, by go_num, ?_, (H02.out.keeps HK5.out id).keep (by omega) _ _, ?_⟩⟩
              · show VBx _ _ _
                have h1 := (HV2.out.keeps HK5.out id).set (2 * 3 + 0) (.int .i64 (max cv dd.seq))
                rw [vc_set vv hd3 hr4] at h1
                rw [HTS.out, HWD.out, HCV.out]
                exact h1
              · exact (HB2.out.trans (HK5.out.below (fun k h => h.elim) HB2.out.size)).setCell (by simp) _
            case measure => simp [intOf]; omega
          ·
            have y0 : w2.cell? ⟨w.heap.size, 7, none⟩ = some (.int .i64 cv) := y0
            have f1 : w2.frozen? ⟨w.heap.size, 7, none⟩ = false := f1
            go_wp2_with fail
            refine (chain_any _ _ _).mono ?_
            rintro _ _ ⟨rfl, rfl⟩
            rw [show Vec.chain 2 1 = true from rfl]
            have hmx : ∀ ts t W, (Builtin.max_ ts t #[.int .i64 cv, .int .i64 dd.seq]).run Try.prog W = .ok (.int .i64 (max cv dd.seq)) W := fun ts t W => run_max2 ts t W _ _
            go_wp2
            refine Reg.still_tail 16 (by kernel_rfl) (by kernel_rfl) ?_
            intro w5 hw5
            simp only [List.take_succ_cons, List.take_zero, List.drop_succ_cons, List.drop_zero]
            have x0' : w5.cell? ⟨wr.heap.size, 0, none⟩ = some (.int .i64 2) := by rw [hw5]; exact x0
            have x1' : w5.cell? ⟨wr.heap.size, 1, none⟩ = some (.int .i64 1) := by rw [hw5]; exact x1
            have x2' : w5.cell? ⟨wr.heap.size, 2, none⟩ = some (.int .i64 dd.seq) := by rw [hw5]; exact x2
            have y0' : w5.cell? ⟨w.heap.size, 7, none⟩ = some (.int .i64 cv) := by rw [hw5]; exact y0
            have f1' : w5.frozen? ⟨w.heap.size, 7, none⟩ = false := by rw [hw5]; exact f1
            have HK5 : Hid (Mem.Keeps (fun _ => False) w2 w5) := by show Mem.Keeps _ _ _; rw [hw5]; exact (Mem.Keeps.refl _ w2).drew
            clear hw5 x0 x1 x2 y0 f1
            repeat still_step
            refine wpStill_nil ?_
            go_wp2
            go_roundw
            case rel =>
              refine ⟨⟨k + 1, by omega, by go_num, ?_, (H02.out.keeps HK5.out id).keep (by omega) _ _, ?_⟩⟩
              · show VBx _ _ _
                have h1 := (HV2.out.keeps HK5.out id).set (2 * 3 + 1) (.int .i64 (max cv dd.seq))
                rw [vc_set vv hd3 hr4] at h1
                rw [HTS.out, HWD.out, HCV.out]
                exact h1
              · exact (HB2.out.trans (HK5.out.below (fun k h => h.elim) HB2.out.size)).setCell (by simp) _
            case measure => simp [intOf]; omega
          ·
            have y0 : w2.cell? ⟨w.heap.size, 8, none⟩ = some (.int .i64 cv) := y0
            have f1 : w2.frozen? ⟨w.heap.size, 8, none⟩ = false := f1
            go_wp2_with fail
            refine (chain_any _ _ _).mono ?_
            rintro _ _ ⟨rfl, rfl⟩
            rw [show Vec.chain 2 2 = true from rfl]
            have hmx : ∀ ts t W, (Builtin.max_ ts t #[.int .i64 cv, .int .i64 dd.seq]).run Try.prog W = .ok (.int .i64 (max cv dd.seq)) W := fun ts t W => run_max2 ts t W _ _
            go_wp2
            refine Reg.still_tail 16 (by kernel_rfl) (by kernel_rfl) ?_
            intro w5 hw5
            simp only [List.take_succ_cons, List.take_zero, List.drop_succ_cons, List.drop_zero]
            have x0' : w5.cell? ⟨wr.heap.size, 0, none⟩ = some (.int .i64 2) := by rw [hw5]; exact x0
            have x1' : w5.cell? ⟨wr.heap.size, 1, none⟩ = some (.int .i64 2) := by rw [hw5]; exact x1
            have x2' : w5.cell? ⟨wr.heap.size, 2, none⟩ = some (.int .i64 dd.seq) := by rw [hw5]; exact x2
            have y0' : w5.cell? ⟨w.heap.size, 8, none⟩ = some (.int .i64 cv) := by rw [hw5]; exact y0
            have f1' : w5.frozen? ⟨w.heap.size, 8, none⟩ = false := by rw [hw5]; exact f1
            have HK5 : Hid (Mem.Keeps (fun _ => False) w2 w5) := by show Mem.Keeps _ _ _; rw [hw5]; exact (Mem.Keeps.refl _ w2).drew
            clear hw5 x0 x1 x2 y0 f1
            repeat still_step
            refine wpStill_nil ?_
            go_wp2
            go_roundw
            case rel =>
              refine ⟨⟨k + 1, by omega, by go_num, ?_, (H02.out.keeps HK5.out id).keep (by omega) _ _, ?_⟩⟩
              · show VBx _ _ _
                have h1 := (HV2.out.keeps HK5.out id).set (2 * 3 + 2) (.int .i64 (max cv dd.seq))
                rw [vc_set vv hd3 hr4] at h1
                rw [HTS.out, HWD.out, HCV.out]
                exact h1
              · exact (HB2.out.trans (HK5.out.below (fun k h => h.elim) HB2.out.size)).setCell (by simp) _
            case measure => simp [intOf]; omega
    · obtain rfl : k = ds.length := by omega
      rw [List.take_length] at HV
      obtain ⟨m, hmm⟩ : ∃ m, withL v ds = m := ⟨_, rfl⟩
      rw [hmm] at HV
      have HM := Lib.hid hmm
      clear hmm
      go_wp2_with (first | ((with_reducible refine Mem.load_agg _ _ vec_agg w.heap.size 0 (vcCells m) ?hxa (vcCells_length m) (fun j u hu => by rw [Nat.zero_add]; exact HV.out.cell hu) ?_); case hxa => exact rfl) | ((with_reducible refine Mem.store_agg _ _ vec_agg (w.heap.size + 1) (vcCells vc0) (vcCells m) ?hxb ?hyb H0.out (vcCells_length m) (vc_one m) ?_); ((case hxb => exact rfl); (case hyb => exact rfl); intro w3 hb3 hk3 hs3)))
      refine bodyPost_ret (v := .agg (vcCells m).toArray) ?_ rfl ⟨by rw [HM.out], HB.out.trans (hk3.below (fun k h => by omega) HB.out.size)⟩
      exact Mem.results_agg Try.results32 vec_agg rfl hb3
end Go.Proofs.Ytelephoalpphkaa
