/- Writes: what they are, in memory and as values; Column: what it computes. No conditions. -/
import Derived.Test.YtiibgkgbghganaaTy
import Derived.StillTailTactics
import Derived.Deep.DeepCutAuto
import Derived.Deep.CutBlock
import Derived.Outline
namespace Go.Proofs.Ytiibgkgbghganaa
open Go.ChangeShapes Go.WideShapes Go.ChangeAt Go.RowKit
set_option linter.unusedVariables false
set_option linter.unusedSimpArgs false

namespace Vec
def colStep (rng : Int) (c : Col) (e : Ent) : Col := if e.rng = rng ∧ chain e.dc rng = true then c.set e.dc.toNat (max (c.at e.dc.toNat) e.seq) else c
def column (rng : Int) (es : List Ent) : Col := es.foldl (colStep rng) col0
theorem column_snoc (rng : Int) (es : List Ent) (e : Ent) : column rng (es ++ [e]) = colStep rng (column rng es) e := by unfold column; rw [List.foldl_append]; rfl
structure ColRel (w : World) (rng : Int) (es : List Ent) (vi : Value) (wr : World) : Prop where
  out : ∃ k : Nat, k ≤ es.length ∧ vi = .int .i64 k ∧ Hid (Mem.Bx wr 37 3 w.heap.size (colCells col0)) ∧ Hid (Mem.Bx wr 37 3 (w.heap.size + 1) (colCells (column rng (es.take k)))) ∧ Hid (Below w.heap.size w wr)
end Vec
open Vec in
set_option maxRecDepth 8000 in
set_option maxHeartbeats 4000000 in
theorem column_any (rng : Int) (A : Option Addr) (c : Nat) (es : List Vec.Ent) (B : Nat) (w : World) (hr : Mem.Rd w B A (es.flatMap Vec.entCells)) (hB : B ≤ w.heap.size) (hn : es.length ≤ maxLen) :
    Calls Try.prog 12 #[.int .i64 rng, .slice A es.length c] w fun e w' => e = .returned (Vec.C (Vec.column rng es)) ∧ Below w.heap.size w w' := by
  unfold maxLen at hn
  have hm := Lib.hid (hr.more hB)
  clear hr
  go_enter Try.func12, Try.ntmps12
  go_wp2
  go_loopw [10] (ColRel w rng es) (fun t _ => es.length - (intOf t).toNat)
  case atStart =>
    refine ⟨⟨0, by omega, rfl, ?_, ?_, ?_⟩⟩
    · exact (Mem.Bx.new w 37 (colCells col0).toArray rfl rfl).below (Reg.below_new _ _) (by simp)
    · exact Mem.Bx.new (w.alloc _) 37 (colCells col0).toArray rfl (by simp)
    · exact (Reg.below_new _ _).alloc (by simp) _
  case round =>
    obtain ⟨k, hk, rfl, H0, H1, HB⟩ := hrel.out
    have hz := HB.out.size
    have hz1 := H1.out.lt
    by_cases hlt : k < es.length
    · obtain ⟨b, o, e, rfl, hb, he, hat⟩ := ent_elem hm.out hlt
      have HAT := Lib.hid (hat.below HB.out hb)
      have hts := Lib.hid (show column rng (es.take (k + 1)) = colStep rng (column rng (es.take k)) e by rw [Mem.take_snoc he, column_snoc])
      clear hat he
      go_upto_region 5 with (first | ((with_reducible refine Mem.load_agg _ _ entry_agg b (o + k * 20) (entCells e) ?hx (entCells_length e) HAT.out.c ?_); case hx => exact rfl) | ((with_reducible refine Mem.store_agg _ _ entry_agg wr.heap.size ?zs (entCells e) ?hx ?hy ?hb (entCells_length e) (ent_one e) ?_); (case hx => exact rfl); (case hy => exact rfl); (case hb => exact Mem.Bx.new wr _ _ rfl rfl); intro w2 hb2 hk2 hs2))
      have HK2 := Lib.hid (hk2.newBox rfl)
      have hs3 : wr.heap.size < w2.heap.size := hb2.lt
      have x0 := hb2.cell (j := 0) rfl
      have x1 := hb2.cell (j := 1) rfl
      have x2 := hb2.cell (j := 2) rfl
      have H0' := Lib.hid (H0.out.keeps HK2.out id)
      have H1' := Lib.hid (H1.out.keeps HK2.out id)
      have HB' : Hid (Below w.heap.size w w2) := HB.out.trans (HK2.out.below (fun k h => h.elim) HB.out.size)
      clear hb2 hk2 hs2 HAT
      by_cases hrg : e.rng = rng
      · have hd : (e.rng == rng) = true := by simp [hrg]
        by_cases hch : Vec.chain e.dc rng = true
        · have hcs : colStep rng (column rng (es.take k)) e = (column rng (es.take k)).set e.dc.toNat (max ((column rng (es.take k)).at e.dc.toNat) e.seq) := if_pos ⟨hrg, hch⟩
          have hdc : e.dc = 0 ∨ e.dc = 1 ∨ e.dc = 2 := by unfold Vec.chain at hch; simp at hch; omega
          obtain ⟨cc, hcc⟩ : ∃ cc, column rng (es.take k) = cc := ⟨_, rfl⟩
          rw [hcc] at H1' hcs
          obtain ⟨dd, hdd⟩ : ∃ dd, e.dc = dd := ⟨_, rfl⟩
          rw [hdd] at x0 hch hdc hcs
          have HTS := Lib.hid hts.out
          rw [hcc] at HTS
          have HCC := Lib.hid hcc
          have HCH := Lib.hid hch
          clear hcc hdd H1 H0 hts
          rcases hdc with rfl | rfl | rfl
          ·
            go_wp2_with fail
            refine (chain_any _ _ _).mono ?_
            rintro _ _ ⟨rfl, rfl⟩
            rw [HCH.out]
            have y0 := H1'.out.cell (j := 0) rfl
            have f1 := H1'.out.fr 0
            have hmx : ∀ ts t W, (Builtin.max_ ts t #[.int .i64 cc.a, .int .i64 e.seq]).run Try.prog W = .ok (.int .i64 (max cc.a e.seq)) W := fun ts t W => run_max2 ts t W _ _
            go_wp2
            refine Reg.still_tail 13 (by kernel_rfl) (by kernel_rfl) ?_
            intro w5 hw5
            simp only [List.take_succ_cons, List.take_zero, List.drop_succ_cons, List.drop_zero]
            have x0' : w5.cell? ⟨wr.heap.size, 0, none⟩ = some (.int .i64 0) := by rw [hw5]; exact x0
            have x2' : w5.cell? ⟨wr.heap.size, 2, none⟩ = some (.int .i64 e.seq) := by rw [hw5]; exact x2
            have y0' : w5.cell? ⟨w.heap.size + 1, 0, none⟩ = some (.int .i64 cc.a) := by rw [hw5]; exact y0
            have f1' : w5.frozen? ⟨w.heap.size + 1, 0, none⟩ = false := by rw [hw5]; exact f1
            have HK5 : Hid (Mem.Keeps (fun _ => False) w2 w5) := by show Mem.Keeps _ _ _; rw [hw5]; exact (Mem.Keeps.refl _ w2).drew
            clear hw5 x0 x1 x2 y0 f1
            repeat still_step
            refine wpStill_nil ?_
            go_wp2
            go_roundw
            case rel =>
              refine ⟨⟨k + 1, by omega, by go_num, (H0'.out.keeps HK5.out id).keep (by omega) _ _, ?_, ?_⟩⟩
              · show Mem.Bx _ _ _ _ _
                rw [HTS.out, hcs]
                exact (H1'.out.keeps HK5.out id).set 0 _
              · exact (HB'.out.trans (HK5.out.below (fun k h => h.elim) HB'.out.size)).setCell (by simp) _
            case measure => simp [intOf]; omega
          ·
            go_wp2_with fail
            refine (chain_any _ _ _).mono ?_
            rintro _ _ ⟨rfl, rfl⟩
            rw [HCH.out]
            have y0 := H1'.out.cell (j := 1) rfl
            have f1 := H1'.out.fr 1
            have hmx : ∀ ts t W, (Builtin.max_ ts t #[.int .i64 cc.b, .int .i64 e.seq]).run Try.prog W = .ok (.int .i64 (max cc.b e.seq)) W := fun ts t W => run_max2 ts t W _ _
            go_wp2
            refine Reg.still_tail 13 (by kernel_rfl) (by kernel_rfl) ?_
            intro w5 hw5
            simp only [List.take_succ_cons, List.take_zero, List.drop_succ_cons, List.drop_zero]
            have x0' : w5.cell? ⟨wr.heap.size, 0, none⟩ = some (.int .i64 1) := by rw [hw5]; exact x0
            have x2' : w5.cell? ⟨wr.heap.size, 2, none⟩ = some (.int .i64 e.seq) := by rw [hw5]; exact x2
            have y0' : w5.cell? ⟨w.heap.size + 1, 1, none⟩ = some (.int .i64 cc.b) := by rw [hw5]; exact y0
            have f1' : w5.frozen? ⟨w.heap.size + 1, 1, none⟩ = false := by rw [hw5]; exact f1
            have HK5 : Hid (Mem.Keeps (fun _ => False) w2 w5) := by show Mem.Keeps _ _ _; rw [hw5]; exact (Mem.Keeps.refl _ w2).drew
            clear hw5 x0 x1 x2 y0 f1
            repeat still_step
            refine wpStill_nil ?_
            go_wp2
            go_roundw
            case rel =>
              refine ⟨⟨k + 1, by omega, by go_num, (H0'.out.keeps HK5.out id).keep (by omega) _ _, ?_, ?_⟩⟩
              · show Mem.Bx _ _ _ _ _
                rw [HTS.out, hcs]
                exact (H1'.out.keeps HK5.out id).set 1 _
              · exact (HB'.out.trans (HK5.out.below (fun k h => h.elim) HB'.out.size)).setCell (by simp) _
            case measure => simp [intOf]; omega
          ·
            go_wp2_with fail
            refine (chain_any _ _ _).mono ?_
            rintro _ _ ⟨rfl, rfl⟩
            rw [HCH.out]
            have y0 := H1'.out.cell (j := 2) rfl
            have f1 := H1'.out.fr 2
            have hmx : ∀ ts t W, (Builtin.max_ ts t #[.int .i64 cc.c, .int .i64 e.seq]).run Try.prog W = .ok (.int .i64 (max cc.c e.seq)) W := fun ts t W => run_max2 ts t W _ _
            go_wp2
            refine Reg.still_tail 13 (by kernel_rfl) (by kernel_rfl) ?_
            intro w5 hw5
            simp only [List.take_succ_cons, List.take_zero, List.drop_succ_cons, List.drop_zero]
            have x0' : w5.cell? ⟨wr.heap.size, 0, none⟩ = some (.int .i64 2) := by rw [hw5]; exact x0
            have x2' : w5.cell? ⟨wr.heap.size, 2, none⟩ = some (.int .i64 e.seq) := by rw [hw5]; exact x2
            have y0' : w5.cell? ⟨w.heap.size + 1, 2, none⟩ = some (.int .i64 cc.c) := by rw [hw5]; exact y0
            have f1' : w5.frozen? ⟨w.heap.size + 1, 2, none⟩ = false := by rw [hw5]; exact f1
            have HK5 : Hid (Mem.Keeps (fun _ => False) w2 w5) := by show Mem.Keeps _ _ _; rw [hw5]; exact (Mem.Keeps.refl _ w2).drew
            clear hw5 x0 x1 x2 y0 f1
            repeat still_step
            refine wpStill_nil ?_
            go_wp2
            go_roundw
            case rel =>
              refine ⟨⟨k + 1, by omega, by go_num, (H0'.out.keeps HK5.out id).keep (by omega) _ _, ?_, ?_⟩⟩
              · show Mem.Bx _ _ _ _ _
                rw [HTS.out, hcs]
                exact (H1'.out.keeps HK5.out id).set 2 _
              · exact (HB'.out.trans (HK5.out.below (fun k h => h.elim) HB'.out.size)).setCell (by simp) _
            case measure => simp [intOf]; omega
        · have hcs : colStep rng (column rng (es.take k)) e = column rng (es.take k) := if_neg (fun h => hch h.2)
          have hch' : Vec.chain e.dc rng = false := by simpa using hch
          go_wp2_with fail
          refine (chain_any _ _ _).mono ?_
          rintro _ _ ⟨rfl, rfl⟩
          rw [hch']
          go_wp2
          go_roundw
          case rel => exact ⟨⟨k + 1, by omega, by go_num, H0', by show Mem.Bx _ _ _ _ _; rw [hts.out, hcs]; exact H1'.out, HB'⟩⟩
          case measure => simp [intOf]; omega
      · have hd : (e.rng == rng) = false := by simp [hrg]
        have hcs : colStep rng (column rng (es.take k)) e = column rng (es.take k) := if_neg (fun h => hrg h.1)
        go_wp2
        go_roundw
        case rel => exact ⟨⟨k + 1, by omega, by go_num, H0', by show Mem.Bx _ _ _ _ _; rw [hts.out, hcs]; exact H1'.out, HB'⟩⟩
        case measure => simp [intOf]; omega
    · obtain rfl : k = es.length := by omega
      rw [List.take_length] at H1
      have y0 := H1.out.cell (j := 0) rfl
      have y1 := H1.out.cell (j := 1) rfl
      have y2 := H1.out.cell (j := 2) rfl
      have z0 := H0.out.cell (j := 0) rfl
      have z1 := H0.out.cell (j := 1) rfl
      have z2 := H0.out.cell (j := 2) rfl
      have zf := H0.out.fr
      obtain ⟨m, hmm⟩ : ∃ m, column rng es = m := ⟨_, rfl⟩
      rw [hmm] at H1 y0 y1 y2
      have HM := Lib.hid hmm
      clear hmm
      go_wp2
      refine bodyPost_ret (v := Vec.C m) ?_ rfl ⟨by rw [HM.out], ?_⟩
      · simp [results, Try.results12, go_sem, Mem.set_same, Mem.isSome_set, z0, z1, z2]
      · exact ((HB.out.setCell (by simp) _).setCell (by simp) _).setCell (by simp) _
end Go.Proofs.Ytiibgkgbghganaa
