/- The walks of vec.Merge and vec.Past. No conditions but that lists are no great ones. -/
import Derived.Test.YtelephoalpphkaaAud3
set_option maxRecDepth 20000
namespace Go.Proofs.Ytelephoalpphkaa
open Go.ChangeShapes Go.WideShapes Go.ChangeAt Go.RowKit
set_option linter.unusedVariables false
set_option linter.unusedSimpArgs false
namespace Vec
/-- the first n numbers are the greater ones -/
def mrgTo (x y : Vc) : Nat → Vc
  | 0 => x
  | n + 1 => (mrgTo x y n).put (n / 3) (n % 3) (max ((mrgTo x y n).get (n / 3) (n % 3)) (y.get (n / 3) (n % 3)))
def mrg (x y : Vc) : Vc := mrgTo x y 9
def mergeL (vs : List Vc) : Vc := vs.foldl mrg vc0
theorem merge_snoc (vs : List Vc) (v : Vc) : mergeL (vs ++ [v]) = mrg (mergeL vs) v := by unfold mergeL; rw [List.foldl_append]; rfl
structure Mg1 (w : World) (vs : List Vc) (vi : Value) (wr : World) : Prop where
  out : ∃ k : Nat, k ≤ vs.length ∧ vi = .int .i64 k ∧ Hid (Vec.VBx wr w.heap.size vc0) ∧ Hid (Vec.VBx wr (w.heap.size + 1) (mergeL (vs.take k))) ∧ Hid (Below w.heap.size w wr)
structure Mg2 (w : World) (gv : Nat) (m v : Vc) (w2 : World) (vi : Value) (wr : World) : Prop where
  out : ∃ d : Nat, d ≤ 3 ∧ vi = .int .i64 d ∧ Hid (Vec.VBx wr w.heap.size vc0) ∧ Hid (Vec.VBx wr (w.heap.size + 1) (mrgTo m v (d * 3))) ∧ Hid (Vec.VBx wr gv v) ∧ Hid (Below w.heap.size w wr) ∧ gv < wr.heap.size
structure Mg3 (w : World) (gv : Nat) (m v : Vc) (d : Nat) (vi : Value) (wr : World) : Prop where
  out : ∃ r : Nat, r ≤ 3 ∧ vi = .int .i64 r ∧ Hid (Vec.VBx wr w.heap.size vc0) ∧ Hid (Vec.VBx wr (w.heap.size + 1) (mrgTo m v (d * 3 + r))) ∧ Hid (Vec.VBx wr gv v) ∧ Hid (Below w.heap.size w wr) ∧ gv < wr.heap.size
theorem vec_elem {w : World} {B : Nat} {A : Option Addr} {l : List Vc} (h : Mem.Rd w B A (l.flatMap vcCells)) {k : Nat} (hk : k < l.length) :
    ∃ b o e, A = some ⟨b, o, none⟩ ∧ b < B ∧ l[k]? = some e ∧ ∀ j u, (vcCells e)[j]? = some u → w.cell? ⟨b, o + k * 9 + j, none⟩ = some u := by
  obtain ⟨b, o, e, hb, hc⟩ := Mem.Rd.elem vcCells_length h hk (by omega)
  exact ⟨b, o, l[k], e, hb, List.getElem?_eq_getElem hk, fun j u hu => by rw [Nat.add_assoc]; exact hc j u hu⟩
end Vec
open Vec in
set_option maxHeartbeats 8000000 in
theorem merge_any (A : Option Addr) (c : Nat) (vs : List Vec.Vc) (B : Nat) (w : World) (hr : Mem.Rd w B A (vs.flatMap Vec.vcCells)) (hB : B ≤ w.heap.size) (hn : vs.length ≤ maxLen) :
    Calls Try.prog 19 #[.slice A vs.length c] w fun e w' => e = .returned (.agg (Vec.vcCells (Vec.mergeL vs)).toArray) ∧ Below w.heap.size w w' := by
  unfold maxLen at hn
  have hm := Lib.hid (hr.more hB)
  clear hr
  go_enter Try.func19, Try.ntmps19
  go_wp2
  go_loopw [10] (Mg1 w vs) (fun t _ => vs.length - (intOf t).toNat)
  case atStart =>
    refine ⟨⟨0, by omega, rfl, ?_, ?_, ?_⟩⟩
    · exact (Mem.Bx.new w 33 (vcCells vc0).toArray rfl rfl : Vec.VBx _ _ vc0).below (Reg.below_new _ _) (by simp)
    · exact Mem.Bx.new (w.alloc _) 33 (vcCells vc0).toArray rfl (by simp)
    · exact (Reg.below_new _ _).alloc (by simp) _
  case round =>
    obtain ⟨k, hk, rfl, HZ, HO, HB⟩ := hrel.out
    clear hrel
    have hz := HB.out.size
    have hz1 := HO.out.lt
    by_cases hlt : k < vs.length
    · obtain ⟨b, o, v, rfl, hb, he, hat⟩ := vec_elem hm.out hlt
      have hat2 : ∀ j u, (vcCells v)[j]? = some u → wr.cell? ⟨b, o + k * 9 + j, none⟩ = some u := fun j u hu => (HB.out.cell (p := ⟨b, o + k * 9 + j, none⟩) hb).trans (hat j u hu)
      have HAT := Lib.hid hat2
      have hts := Lib.hid (show mergeL (vs.take (k + 1)) = mrg (mergeL (vs.take k)) v by rw [Mem.take_snoc he, merge_snoc])
      obtain ⟨m, hm2⟩ : ∃ m, mergeL (vs.take k) = m := ⟨_, rfl⟩
      rw [hm2] at HO hts
      obtain ⟨gv, hgv⟩ : ∃ gv, wr.heap.size = gv := ⟨_, rfl⟩
      have HGV := Lib.hid hgv
      clear hat hat2 he hm2 hgv
      go_upto_region 5 with (first | ((with_reducible refine Mem.load_agg _ _ vec_agg b (o + k * 9) (vcCells v) ?hx (vcCells_length v) HAT.out ?_); case hx => exact rfl) | ((with_reducible refine Mem.store_agg _ _ vec_agg wr.heap.size ?zs (vcCells v) ?hx ?hy ?hb (vcCells_length v) (vc_one v) ?_); (case hx => exact rfl); (case hy => exact rfl); (case hb => exact Mem.Bx.new wr _ _ rfl rfl); intro w2 hb2 hk2 hs2))
      have HK2 := Lib.hid (hk2.newBox rfl)
      have HG : Hid (Vec.VBx w2 gv v) := by show Vec.VBx _ _ _; rw [← HGV.out]; exact hb2
      have HZ2 : Hid (Vec.VBx w2 w.heap.size vc0) := HZ.out.keeps HK2.out id
      have HO2 : Hid (Vec.VBx w2 (w.heap.size + 1) m) := HO.out.keeps HK2.out id
      have HB2 : Hid (Below w.heap.size w w2) := HB.out.trans (HK2.out.below (fun k h => h.elim) HB.out.size)
      have hgw : gv < w2.heap.size := HG.out.lt
      have hgo : w.heap.size + 1 < gv := by have := HGV.out; omega
      rw [HGV.out]
      clear hb2 hk2 hs2 HAT HZ HO HB HK2
      go_wp2
      go_loopw [14] (Mg2 w gv m v w2) (fun t _ => 3 - (intOf t).toNat)
      case atStart => exact ⟨⟨0, by omega, rfl, HZ2, HO2, HG, HB2, hgw⟩⟩
      case round =>
        obtain ⟨d, hd, rfl, HZ, HO, HG, HB, hgw⟩ := hrel.out
        clear hrel
        by_cases hlt2 : d < 3
        · have d0 : decide ((d : Int) < 3) = true := by simp; omega
          obtain ⟨w3, hw3⟩ : ∃ w3, w3 = wr := ⟨_, rfl⟩
          subst hw3
          go_wp2
          go_loopw [17] (Mg3 w gv m v d) (fun t _ => 3 - (intOf t).toNat)
          case atStart => exact ⟨⟨0, by omega, rfl, HZ, HO, HG, HB, hgw⟩⟩
          case round =>
            obtain ⟨r, hr, rfl, HZ, HO, HG, HB, hgw⟩ := hrel.out
            clear hrel
            obtain ⟨w3, hw3⟩ : ∃ w3, w3 = wr := ⟨_, rfl⟩
            subst hw3
            have h9 : d = 0 ∨ d = 1 ∨ d = 2 := by omega
            have h10 : r = 0 ∨ r = 1 ∨ r = 2 ∨ r = 3 := by omega
            clear hlt2 d0
            by_cases h3 : r = 3
            · subst h3
              have d1 : decide ((3 : Int) < 3) = false := by decide
              go_wp2
              go_roundw
              case rel => exact ⟨⟨d + 1, by omega, by go_num, HZ, Lib.hid (by rw [show (d + 1) * 3 = d * 3 + 3 by omega]; exact HO.out), HG, HB, hgw⟩⟩
              case measure => simp [intOf]; omega
            have h10 : r = 0 ∨ r = 1 ∨ r = 2 := by omega
            clear h3
            rcases h9 with rfl | rfl | rfl
            · rcases h10 with rfl | rfl | rfl
              ·
                obtain ⟨M, hM⟩ : ∃ M, mrgTo m v 0 = M := ⟨_, rfl⟩
                have HO : Hid (Vec.VBx w3 (w.heap.size + 1) M) := by show Vec.VBx _ _ _; rw [← hM]; exact HO.out
                have HMM := Lib.hid hM
                obtain ⟨cv, hcv⟩ : ∃ cv, M.get 0 0 = cv := ⟨_, rfl⟩
                obtain ⟨yv, hyv⟩ : ∃ yv, v.get 0 0 = yv := ⟨_, rfl⟩
                have HCV := Lib.hid hcv
                have HYV := Lib.hid hyv
                clear hM hcv hyv
                have x0 : w3.cell? ⟨w.heap.size + 1, 0, none⟩ = some (.int .i64 cv) := by rw [← HCV.out]; exact HO.out.cell (j := 0) rfl
                have x1 : w3.cell? ⟨gv, 0, none⟩ = some (.int .i64 yv) := by rw [← HYV.out]; exact HG.out.cell (j := 0) rfl
                have f1 := HO.out.fr 0
                have hol := HO.out.lt
                go_upto_region 11 with fail
                refine Reg.still_tail 15 (by kernel_rfl) (by kernel_rfl) ?_
                intro w5 hw5
                simp only [List.take_succ_cons, List.take_zero, List.drop_succ_cons, List.drop_zero]
                have x0' : w5.cell? ⟨w.heap.size + 1, 0, none⟩ = some (.int .i64 cv) := by rw [hw5]; exact x0
                have x1' : w5.cell? ⟨gv, 0, none⟩ = some (.int .i64 yv) := by rw [hw5]; exact x1
                have f1' : w5.frozen? ⟨w.heap.size + 1, 0, none⟩ = false := by rw [hw5]; exact f1
                have HK5 : Hid (Mem.Keeps (fun _ => False) w3 w5) := by show Mem.Keeps _ _ _; rw [hw5]; exact (Mem.Keeps.refl _ w3).drew
                have hmx : ∀ ts t W, (Builtin.max_ ts t #[.int .i64 cv, .int .i64 yv]).run Try.prog W = .ok (.int .i64 (max cv yv)) W := fun ts t W => run_max2 ts t W _ _
                clear hw5 x0 x1 f1
                repeat still_step
                refine wpStill_nil ?_
                clear hmx
                go_wp2
                go_roundw
                case rel =>
                  have h0 := HZ.out.keeps HK5.out id
                  have h1 := (HO.out.keeps HK5.out id).set 0 (.int .i64 (max cv yv))
                  have h2 := HG.out.keeps HK5.out id
                  refine ⟨⟨0 + 1, by omega, by go_num, h0.keep (by omega) _ _, ?_, h2.keep (by omega) _ _, ?_, ?_⟩⟩
                  · show Vec.VBx _ _ (Vc.put (mrgTo m v 0) 0 0 (max ((mrgTo m v 0).get 0 0) (v.get 0 0)))
                    rw [HMM.out, HCV.out, HYV.out]
                    exact h1
                  · exact (HB.out.trans (HK5.out.belowAll.mono HB.out.size)).setCell (by simp) _
                  · have := HK5.out.size; simp; omega
                case measure => simp [intOf]
              ·
                obtain ⟨M, hM⟩ : ∃ M, mrgTo m v 1 = M := ⟨_, rfl⟩
                have HO : Hid (Vec.VBx w3 (w.heap.size + 1) M) := by show Vec.VBx _ _ _; rw [← hM]; exact HO.out
                have HMM := Lib.hid hM
                obtain ⟨cv, hcv⟩ : ∃ cv, M.get 0 1 = cv := ⟨_, rfl⟩
                obtain ⟨yv, hyv⟩ : ∃ yv, v.get 0 1 = yv := ⟨_, rfl⟩
                have HCV := Lib.hid hcv
                have HYV := Lib.hid hyv
                clear hM hcv hyv
                have x0 : w3.cell? ⟨w.heap.size + 1, 1, none⟩ = some (.int .i64 cv) := by rw [← HCV.out]; exact HO.out.cell (j := 1) rfl
                have x1 : w3.cell? ⟨gv, 1, none⟩ = some (.int .i64 yv) := by rw [← HYV.out]; exact HG.out.cell (j := 1) rfl
                have f1 := HO.out.fr 1
                have hol := HO.out.lt
                go_upto_region 11 with fail
                refine Reg.still_tail 15 (by kernel_rfl) (by kernel_rfl) ?_
                intro w5 hw5
                simp only [List.take_succ_cons, List.take_zero, List.drop_succ_cons, List.drop_zero]
                have x0' : w5.cell? ⟨w.heap.size + 1, 1, none⟩ = some (.int .i64 cv) := by rw [hw5]; exact x0
                have x1' : w5.cell? ⟨gv, 1, none⟩ = some (.int .i64 yv) := by rw [hw5]; exact x1
                have f1' : w5.frozen? ⟨w.heap.size + 1, 1, none⟩ = false := by rw [hw5]; exact f1
                have HK5 : Hid (Mem.Keeps (fun _ => False) w3 w5) := by show Mem.Keeps _ _ _; rw [hw5]; exact (Mem.Keeps.refl _ w3).drew
                have hmx : ∀ ts t W, (Builtin.max_ ts t #[.int .i64 cv, .int .i64 yv]).run Try.prog W = .ok (.int .i64 (max cv yv)) W := fun ts t W => run_max2 ts t W _ _
                clear hw5 x0 x1 f1
                repeat still_step
                refine wpStill_nil ?_
                clear hmx
                go_wp2
                go_roundw
                case rel =>
                  have h0 := HZ.out.keeps HK5.out id
                  have h1 := (HO.out.keeps HK5.out id).set 1 (.int .i64 (max cv yv))
                  have h2 := HG.out.keeps HK5.out id
                  refine ⟨⟨1 + 1, by omega, by go_num, h0.keep (by omega) _ _, ?_, h2.keep (by omega) _ _, ?_, ?_⟩⟩
                  · show Vec.VBx _ _ (Vc.put (mrgTo m v 1) 0 1 (max ((mrgTo m v 1).get 0 1) (v.get 0 1)))
                    rw [HMM.out, HCV.out, HYV.out]
                    exact h1
                  · exact (HB.out.trans (HK5.out.belowAll.mono HB.out.size)).setCell (by simp) _
                  · have := HK5.out.size; simp; omega
                case measure => simp [intOf]
              ·
                obtain ⟨M, hM⟩ : ∃ M, mrgTo m v 2 = M := ⟨_, rfl⟩
                have HO : Hid (Vec.VBx w3 (w.heap.size + 1) M) := by show Vec.VBx _ _ _; rw [← hM]; exact HO.out
                have HMM := Lib.hid hM
                obtain ⟨cv, hcv⟩ : ∃ cv, M.get 0 2 = cv := ⟨_, rfl⟩
                obtain ⟨yv, hyv⟩ : ∃ yv, v.get 0 2 = yv := ⟨_, rfl⟩
                have HCV := Lib.hid hcv
                have HYV := Lib.hid hyv
                clear hM hcv hyv
                have x0 : w3.cell? ⟨w.heap.size + 1, 2, none⟩ = some (.int .i64 cv) := by rw [← HCV.out]; exact HO.out.cell (j := 2) rfl
                have x1 : w3.cell? ⟨gv, 2, none⟩ = some (.int .i64 yv) := by rw [← HYV.out]; exact HG.out.cell (j := 2) rfl
                have f1 := HO.out.fr 2
                have hol := HO.out.lt
                go_upto_region 11 with fail
                refine Reg.still_tail 15 (by kernel_rfl) (by kernel_rfl) ?_
                intro w5 hw5
                simp only [List.take_succ_cons, List.take_zero, List.drop_succ_cons, List.drop_zero]
                have x0' : w5.cell? ⟨w.heap.size + 1, 2, none⟩ = some (.int .i64 cv) := by rw [hw5]; exact x0
                have x1' : w5.cell? ⟨gv, 2, none⟩ = some (.int .i64 yv) := by rw [hw5]; exact x1
                have f1' : w5.frozen? ⟨w.heap.size + 1, 2, none⟩ = false := by rw [hw5]; exact f1
                have HK5 : Hid (Mem.Keeps (fun _ => False) w3 w5) := by show Mem.Keeps _ _ _; rw [hw5]; exact (Mem.Keeps.refl _ w3).drew
                have hmx : ∀ ts t W, (Builtin.max_ ts t #[.int .i64 cv, .int .i64 yv]).run Try.prog W = .ok (.int .i64 (max cv yv)) W := fun ts t W => run_max2 ts t W _ _
                clear hw5 x0 x1 f1
                repeat still_step
                refine wpStill_nil ?_
                clear hmx
                go_wp2
                go_roundw
                case rel =>
                  have h0 := HZ.out.keeps HK5.out id
                  have h1 := (HO.out.keeps HK5.out id).set 2 (.int .i64 (max cv yv))
                  have h2 := HG.out.keeps HK5.out id
                  refine ⟨⟨2 + 1, by omega, by go_num, h0.keep (by omega) _ _, ?_, h2.keep (by omega) _ _, ?_, ?_⟩⟩
                  · show Vec.VBx _ _ (Vc.put (mrgTo m v 2) 0 2 (max ((mrgTo m v 2).get 0 2) (v.get 0 2)))
                    rw [HMM.out, HCV.out, HYV.out]
                    exact h1
                  · exact (HB.out.trans (HK5.out.belowAll.mono HB.out.size)).setCell (by simp) _
                  · have := HK5.out.size; simp; omega
                case measure => simp [intOf]
            · rcases h10 with rfl | rfl | rfl
              ·
                obtain ⟨M, hM⟩ : ∃ M, mrgTo m v 3 = M := ⟨_, rfl⟩
                have HO : Hid (Vec.VBx w3 (w.heap.size + 1) M) := by show Vec.VBx _ _ _; rw [← hM]; exact HO.out
                have HMM := Lib.hid hM
                obtain ⟨cv, hcv⟩ : ∃ cv, M.get 1 0 = cv := ⟨_, rfl⟩
                obtain ⟨yv, hyv⟩ : ∃ yv, v.get 1 0 = yv := ⟨_, rfl⟩
                have HCV := Lib.hid hcv
                have HYV := Lib.hid hyv
                clear hM hcv hyv
                have x0 : w3.cell? ⟨w.heap.size + 1, 3, none⟩ = some (.int .i64 cv) := by rw [← HCV.out]; exact HO.out.cell (j := 3) rfl
                have x1 : w3.cell? ⟨gv, 3, none⟩ = some (.int .i64 yv) := by rw [← HYV.out]; exact HG.out.cell (j := 3) rfl
                have f1 := HO.out.fr 3
                have hol := HO.out.lt
                go_upto_region 11 with fail
                refine Reg.still_tail 15 (by kernel_rfl) (by kernel_rfl) ?_
                intro w5 hw5
                simp only [List.take_succ_cons, List.take_zero, List.drop_succ_cons, List.drop_zero]
                have x0' : w5.cell? ⟨w.heap.size + 1, 3, none⟩ = some (.int .i64 cv) := by rw [hw5]; exact x0
                have x1' : w5.cell? ⟨gv, 3, none⟩ = some (.int .i64 yv) := by rw [hw5]; exact x1
                have f1' : w5.frozen? ⟨w.heap.size + 1, 3, none⟩ = false := by rw [hw5]; exact f1
                have HK5 : Hid (Mem.Keeps (fun _ => False) w3 w5) := by show Mem.Keeps _ _ _; rw [hw5]; exact (Mem.Keeps.refl _ w3).drew
                have hmx : ∀ ts t W, (Builtin.max_ ts t #[.int .i64 cv, .int .i64 yv]).run Try.prog W = .ok (.int .i64 (max cv yv)) W := fun ts t W => run_max2 ts t W _ _
                clear hw5 x0 x1 f1
                repeat still_step
                refine wpStill_nil ?_
                clear hmx
                go_wp2
                go_roundw
                case rel =>
                  have h0 := HZ.out.keeps HK5.out id
                  have h1 := (HO.out.keeps HK5.out id).set 3 (.int .i64 (max cv yv))
                  have h2 := HG.out.keeps HK5.out id
                  refine ⟨⟨0 + 1, by omega, by go_num, h0.keep (by omega) _ _, ?_, h2.keep (by omega) _ _, ?_, ?_⟩⟩
                  · show Vec.VBx _ _ (Vc.put (mrgTo m v 3) 1 0 (max ((mrgTo m v 3).get 1 0) (v.get 1 0)))
                    rw [HMM.out, HCV.out, HYV.out]
                    exact h1
                  · exact (HB.out.trans (HK5.out.belowAll.mono HB.out.size)).setCell (by simp) _
                  · have := HK5.out.size; simp; omega
                case measure => simp [intOf]
              ·
                obtain ⟨M, hM⟩ : ∃ M, mrgTo m v 4 = M := ⟨_, rfl⟩
                have HO : Hid (Vec.VBx w3 (w.heap.size + 1) M) := by show Vec.VBx _ _ _; rw [← hM]; exact HO.out
                have HMM := Lib.hid hM
                obtain ⟨cv, hcv⟩ : ∃ cv, M.get 1 1 = cv := ⟨_, rfl⟩
                obtain ⟨yv, hyv⟩ : ∃ yv, v.get 1 1 = yv := ⟨_, rfl⟩
                have HCV := Lib.hid hcv
                have HYV := Lib.hid hyv
                clear hM hcv hyv
                have x0 : w3.cell? ⟨w.heap.size + 1, 4, none⟩ = some (.int .i64 cv) := by rw [← HCV.out]; exact HO.out.cell (j := 4) rfl
                have x1 : w3.cell? ⟨gv, 4, none⟩ = some (.int .i64 yv) := by rw [← HYV.out]; exact HG.out.cell (j := 4) rfl
                have f1 := HO.out.fr 4
                have hol := HO.out.lt
                go_upto_region 11 with fail
                refine Reg.still_tail 15 (by kernel_rfl) (by kernel_rfl) ?_
                intro w5 hw5
                simp only [List.take_succ_cons, List.take_zero, List.drop_succ_cons, List.drop_zero]
                have x0' : w5.cell? ⟨w.heap.size + 1, 4, none⟩ = some (.int .i64 cv) := by rw [hw5]; exact x0
                have x1' : w5.cell? ⟨gv, 4, none⟩ = some (.int .i64 yv) := by rw [hw5]; exact x1
                have f1' : w5.frozen? ⟨w.heap.size + 1, 4, none⟩ = false := by rw [hw5]; exact f1
                have HK5 : Hid (Mem.Keeps (fun _ => False) w3 w5) := by show Mem.Keeps _ _ _; rw [hw5]; exact (Mem.Keeps.refl _ w3).drew
                have hmx : ∀ ts t W, (Builtin.max_ ts t #[.int .i64 cv, .int .i64 yv]).run Try.prog W = .ok (.int .i64 (max cv yv)) W := fun ts t W => run_max2 ts t W _ _
                clear hw5 x0 x1 f1
                repeat still_step
                refine wpStill_nil ?_
                clear hmx
                go_wp2
                go_roundw
                case rel =>
                  have h0 := HZ.out.keeps HK5.out id
                  have h1 := (HO.out.keeps HK5.out id).set 4 (.int .i64 (max cv yv))
                  have h2 := HG.out.keeps HK5.out id
                  refine ⟨⟨1 + 1, by omega, by go_num, h0.keep (by omega) _ _, ?_, h2.keep (by omega) _ _, ?_, ?_⟩⟩
                  · show Vec.VBx _ _ (Vc.put (mrgTo m v 4) 1 1 (max ((mrgTo m v 4).get 1 1) (v.get 1 1)))
                    rw [HMM.out, HCV.out, HYV.out]
                    exact h1
                  · exact (HB.out.trans (HK5.out.belowAll.mono HB.out.size)).setCell (by simp) _
                  · have := HK5.out.size; simp; omega
                case measure => simp [intOf]
              ·
                obtain ⟨M, hM⟩ : ∃ M, mrgTo m v 5 = M := ⟨_, rfl⟩
                have HO : Hid (Vec.VBx w3 (w.heap.size + 1) M) := by show Vec.VBx _ _ _; rw [← hM]; exact HO.out
                have HMM := Lib.hid hM
                obtain ⟨cv, hcv⟩ : ∃ cv, M.get 1 2 = cv := ⟨_, rfl⟩
                obtain ⟨yv, hyv⟩ : ∃ yv, v.get 1 2 = yv := ⟨_, rfl⟩
                have HCV := Lib.hid hcv
                have HYV := Lib.hid hyv
                clear hM hcv hyv
                have x0 : w3.cell? ⟨w.heap.size + 1, 5, none⟩ = some (.int .i64 cv) := by rw [← HCV.out]; exact HO.out.cell (j := 5) rfl
                have x1 : w3.cell? ⟨gv, 5, none⟩ = some (.int .i64 yv) := by rw [← HYV.out]; exact HG.out.cell (j := 5) rfl
                have f1 := HO.out.fr 5
                have hol := HO.out.lt
                go_upto_region 11 with fail
                refine Reg.still_tail 15 (by kernel_rfl) (by kernel_rfl) ?_
                intro w5 hw5
                simp only [List.take_succ_cons, List.take_zero, List.drop_succ_cons, List.drop_zero]
                have x0' : w5.cell? ⟨w.heap.size + 1, 5, none⟩ = some (.int .i64 cv) := by rw [hw5]; exact x0
                have x1' : w5.cell? ⟨gv, 5, none⟩ = some (.int .i64 yv) := by rw [hw5]; exact x1
                have f1' : w5.frozen? ⟨w.heap.size + 1, 5, none⟩ = false := by rw [hw5]; exact f1
                have HK5 : Hid (Mem.Keeps (fun _ => False) w3 w5) := by show Mem.Keeps _ _ _; rw [hw5]; exact (Mem.Keeps.refl _ w3).drew
                have hmx : ∀ ts t W, (Builtin.max_ ts t #[.int .i64 cv, .int .i64 yv]).run Try.prog W = .ok (.int .i64 (max cv yv)) W := fun ts t W => run_max2 ts t W _ _
                clear hw5 x0 x1 f1
                repeat still_step
                refine wpStill_nil ?_
                clear hmx
                go_wp2
                go_roundw
                case rel =>
                  have h0 := HZ.out.keeps HK5.out id
                  have h1 := (HO.out.keeps HK5.out id).set 5 (.int .i64 (max cv yv))
                  have h2 := HG.out.keeps HK5.out id
                  refine ⟨⟨2 + 1, by omega, by go_num, h0.keep (by omega) _ _, ?_, h2.keep (by omega) _ _, ?_, ?_⟩⟩
                  · show Vec.VBx _ _ (Vc.put (mrgTo m v 5) 1 2 (max ((mrgTo m v 5).get 1 2) (v.get 1 2)))
                    rw [HMM.out, HCV.out, HYV.out]
                    exact h1
                  · exact (HB.out.trans (HK5.out.belowAll.mono HB.out.size)).setCell (by simp) _
                  · have := HK5.out.size; simp; omega
                case measure => simp [intOf]
            · rcases h10 with rfl | rfl | rfl
              ·
                obtain ⟨M, hM⟩ : ∃ M, mrgTo m v 6 = M := ⟨_, rfl⟩
                have HO : Hid (Vec.VBx w3 (w.heap.size + 1) M) := by show Vec.VBx _ _ _; rw [← hM]; exact HO.out
                have HMM := Lib.hid hM
                obtain ⟨cv, hcv⟩ : ∃ cv, M.get 2 0 = cv := ⟨_, rfl⟩
                obtain ⟨yv, hyv⟩ : ∃ yv, v.get 2 0 = yv := ⟨_, rfl⟩
                have HCV := Lib.hid hcv
                have HYV := Lib.hid hyv
                clear hM hcv hyv
                have x0 : w3.cell? ⟨w.heap.size + 1, 6, none⟩ = some (.int .i64 cv) := by rw [← HCV.out]; exact HO.out.cell (j := 6) rfl
                have x1 : w3.cell? ⟨gv, 6, none⟩ = some (.int .i64 yv) := by rw [← HYV.out]; exact HG.out.cell (j := 6) rfl
                have f1 := HO.out.fr 6
                have hol := HO.out.lt
                go_upto_region 11 with fail
                refine Reg.still_tail 15 (by kernel_rfl) (by kernel_rfl) ?_
                intro w5 hw5
                simp only [List.take_succ_cons, List.take_zero, List.drop_succ_cons, List.drop_zero]
                have x0' : w5.cell? ⟨w.heap.size + 1, 6, none⟩ = some (.int .i64 cv) := by rw [hw5]; exact x0
                have x1' : w5.cell? ⟨gv, 6, none⟩ = some (.int .i64 yv) := by rw [hw5]; exact x1
                have f1' : w5.frozen? ⟨w.heap.size + 1, 6, none⟩ = false := by rw [hw5]; exact f1
                have HK5 : Hid (Mem.Keeps (fun _ => False) w3 w5) := by show Mem.Keeps _ _ _; rw [hw5]; exact (Mem.Keeps.refl _ w3).drew
                have hmx : ∀ ts t W, (Builtin.max_ ts t #[.int .i64 cv, .int .i64 yv]).run Try.prog W = .ok (.int .i64 (max cv yv)) W := fun ts t W => run_max2 ts t W _ _
                clear hw5 x0 x1 f1
                repeat still_step
                refine wpStill_nil ?_
                clear hmx
                go_wp2
                go_roundw
                case rel =>
                  have h0 := HZ.out.keeps HK5.out id
                  have h1 := (HO.out.keeps HK5.out id).set 6 (.int .i64 (max cv yv))
                  have h2 := HG.out.keeps HK5.out id
                  refine ⟨⟨0 + 1, by omega, by go_num, h0.keep (by omega) _ _, ?_, h2.keep (by omega) _ _, ?_, ?_⟩⟩
                  · show Vec.VBx _ _ (Vc.put (mrgTo m v 6) 2 0 (max ((mrgTo m v 6).get 2 0) (v.get 2 0)))
                    rw [HMM.out, HCV.out, HYV.out]
                    exact h1
                  · exact (HB.out.trans (HK5.out.belowAll.mono HB.out.size)).setCell (by simp) _
                  · have := HK5.out.size; simp; omega
                case measure => simp [intOf]
              ·
                obtain ⟨M, hM⟩ : ∃ M, mrgTo m v 7 = M := ⟨_, rfl⟩
                have HO : Hid (Vec.VBx w3 (w.heap.size + 1) M) := by show Vec.VBx _ _ _; rw [← hM]; exact HO.out
                have HMM := Lib.hid hM
                obtain ⟨cv, hcv⟩ : ∃ cv, M.get 2 1 = cv := ⟨_, rfl⟩
                obtain ⟨yv, hyv⟩ : ∃ yv, v.get 2 1 = yv := ⟨_, rfl⟩
                have HCV := Lib.hid hcv
                have HYV := Lib.hid hyv
                clear hM hcv hyv
                have x0 : w3.cell? ⟨w.heap.size + 1, 7, none⟩ = some (.int .i64 cv) := by rw [← HCV.out]; exact HO.out.cell (j := 7) rfl
                have x1 : w3.cell? ⟨gv, 7, none⟩ = some (.int .i64 yv) := by rw [← HYV.out]; exact HG.out.cell (j := 7) rfl
                have f1 := HO.out.fr 7
                have hol := HO.out.lt
                go_upto_region 11 with fail
                refine Reg.still_tail 15 (by kernel_rfl) (by kernel_rfl) ?_
                intro w5 hw5
                simp only [List.take_succ_cons, List.take_zero, List.drop_succ_cons, List.drop_zero]
                have x0' : w5.cell? ⟨w.heap.size + 1, 7, none⟩ = some (.int .i64 cv) := by rw [hw5]; exact x0
                have x1' : w5.cell? ⟨gv, 7, none⟩ = some (.int .i64 yv) := by rw [hw5]; exact x1
                have f1' : w5.frozen? ⟨w.heap.size + 1, 7, none⟩ = false := by rw [hw5]; exact f1
                have HK5 : Hid (Mem.Keeps (fun _ => False) w3 w5) := by show Mem.Keeps _ _ _; rw [hw5]; exact (Mem.Keeps.refl _ w3).drew
                have hmx : ∀ ts t W, (Builtin.max_ ts t #[.int .i64 cv, .int .i64 yv]).run Try.prog W = .ok (.int .i64 (max cv yv)) W := fun ts t W => run_max2 ts t W _ _
                clear hw5 x0 x1 f1
                repeat still_step
                refine wpStill_nil ?_
                clear hmx
                go_wp2
                go_roundw
                case rel =>
                  have h0 := HZ.out.keeps HK5.out id
                  have h1 := (HO.out.keeps HK5.out id).set 7 (.int .i64 (max cv yv))
                  have h2 := HG.out.keeps HK5.out id
                  refine ⟨⟨1 + 1, by omega, by go_num, h0.keep (by omega) _ _, ?_, h2.keep (by omega) _ _, ?_, ?_⟩⟩
                  · show Vec.VBx _ _ (Vc.put (mrgTo m v 7) 2 1 (max ((mrgTo m v 7).get 2 1) (v.get 2 1)))
                    rw [HMM.out, HCV.out, HYV.out]
                    exact h1
                  · exact (HB.out.trans (HK5.out.belowAll.mono HB.out.size)).setCell (by simp) _
                  · have := HK5.out.size; simp; omega
                case measure => simp [intOf]
              ·
                obtain ⟨M, hM⟩ : ∃ M, mrgTo m v 8 = M := ⟨_, rfl⟩
                have HO : Hid (Vec.VBx w3 (w.heap.size + 1) M) := by show Vec.VBx _ _ _; rw [← hM]; exact HO.out
                have HMM := Lib.hid hM
                obtain ⟨cv, hcv⟩ : ∃ cv, M.get 2 2 = cv := ⟨_, rfl⟩
                obtain ⟨yv, hyv⟩ : ∃ yv, v.get 2 2 = yv := ⟨_, rfl⟩
                have HCV := Lib.hid hcv
                have HYV := Lib.hid hyv
                clear hM hcv hyv
                have x0 : w3.cell? ⟨w.heap.size + 1, 8, none⟩ = some (.int .i64 cv) := by rw [← HCV.out]; exact HO.out.cell (j := 8) rfl
                have x1 : w3.cell? ⟨gv, 8, none⟩ = some (.int .i64 yv) := by rw [← HYV.out]; exact HG.out.cell (j := 8) rfl
                have f1 := HO.out.fr 8
                have hol := HO.out.lt
                go_upto_region 11 with fail
                refine Reg.still_tail 15 (by kernel_rfl) (by kernel_rfl) ?_
                intro w5 hw5
                simp only [List.take_succ_cons, List.take_zero, List.drop_succ_cons, List.drop_zero]
                have x0' : w5.cell? ⟨w.heap.size + 1, 8, none⟩ = some (.int .i64 cv) := by rw [hw5]; exact x0
                have x1' : w5.cell? ⟨gv, 8, none⟩ = some (.int .i64 yv) := by rw [hw5]; exact x1
                have f1' : w5.frozen? ⟨w.heap.size + 1, 8, none⟩ = false := by rw [hw5]; exact f1
                have HK5 : Hid (Mem.Keeps (fun _ => False) w3 w5) := by show Mem.Keeps _ _ _; rw [hw5]; exact (Mem.Keeps.refl _ w3).drew
                have hmx : ∀ ts t W, (Builtin.max_ ts t #[.int .i64 cv, .int .i64 yv]).run Try.prog W = .ok (.int .i64 (max cv yv)) W := fun ts t W => run_max2 ts t W _ _
                clear hw5 x0 x1 f1
                repeat still_step
                refine wpStill_nil ?_
                clear hmx
                go_wp2
                go_roundw
                case rel =>
                  have h0 := HZ.out.keeps HK5.out id
                  have h1 := (HO.out.keeps HK5.out id).set 8 (.int .i64 (max cv yv))
                  have h2 := HG.out.keeps HK5.out id
                  refine ⟨⟨2 + 1, by omega, by go_num, h0.keep (by omega) _ _, ?_, h2.keep (by omega) _ _, ?_, ?_⟩⟩
                  · show Vec.VBx _ _ (Vc.put (mrgTo m v 8) 2 2 (max ((mrgTo m v 8).get 2 2) (v.get 2 2)))
                    rw [HMM.out, HCV.out, HYV.out]
                    exact h1
                  · exact (HB.out.trans (HK5.out.belowAll.mono HB.out.size)).setCell (by simp) _
                  · have := HK5.out.size; simp; omega
                case measure => simp [intOf]
        · obtain rfl : d = 3 := by omega
          have d0 : decide ((3 : Int) < 3) = false := by decide
          go_wp2
          go_roundw
          case rel => exact ⟨⟨k + 1, by omega, by go_num, HZ, Lib.hid (by rw [hts.out]; exact HO.out), HB⟩⟩
          case measure => simp [intOf]; omega
    · obtain rfl : k = vs.length := by omega
      have ho := HO.out
      rw [List.take_length] at ho
      obtain ⟨m, hm2⟩ : ∃ m, mergeL vs = m := ⟨_, rfl⟩
      rw [hm2] at ho
      have HM := Lib.hid hm2
      have HO2 := Lib.hid ho
      clear ho HO hm2
      go_wp2_with (first | ((with_reducible refine Mem.load_agg _ _ vec_agg (w.heap.size + 1) 0 (vcCells m) ?hx (vcCells_length m) (fun j u hu => by rw [Nat.zero_add]; exact HO2.out.cell hu) ?_); case hx => exact rfl) | ((with_reducible refine Mem.store_agg _ _ vec_agg w.heap.size (vcCells vc0) (vcCells m) ?hx ?hy HZ.out (vcCells_length m) (vc_one m) ?_); (case hx => exact rfl); (case hy => exact rfl); intro w3 hb3 hk3 hs3))
      refine bodyPost_ret (v := .agg (vcCells m).toArray) ?_ rfl ⟨by rw [HM.out], HB.out.trans (hk3.below (fun k h => by omega) HB.out.size)⟩
      rw [Mem.results_agg Try.results19 vec_agg rfl hb3]
end Go.Proofs.Ytelephoalpphkaa
