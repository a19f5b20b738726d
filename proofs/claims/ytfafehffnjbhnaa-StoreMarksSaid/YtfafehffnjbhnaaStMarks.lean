/- The walk of StoreMarks. Nothing is asked but what the row's form asks of its arguments. -/
import Derived.Test.YtfafehffnjbhnaaStoreR
import Derived.Test.YtfafehffnjbhnaaRegW
set_option maxRecDepth 8000
namespace Go.Proofs.Ytfafehffnjbhnaa
open Go.ChangeShapes Go.WideShapes Go.ChangeAt Go.RowKit
set_option linter.unusedVariables false
set_option linter.unusedSimpArgs false
namespace Sto
open Vec
theorem few_of {st : List Ls} {p : Ent → Bool} (h : ∀ l ∈ st, (l.es.filter p).length ≤ 1) (k : ByteArray) : ((vers st k).filter p).length ≤ 1 := by
  rcases vers_cases st k with ⟨l, h1, _, h3⟩ | ⟨h1, _⟩
  · rw [h3]; exact h l h1
  · rw [h1]; exact Nat.zero_le _
theorem few_collect {st : List Ls} (mk : Col) : ∀ l ∈ collectS mk st, (l.es.filter (under mk)).length ≤ 1 := fun l hl => by
  obtain ⟨l0, _, rfl⟩ := List.mem_map.1 hl
  exact kept_few mk l0.es
theorem few_none {rng : Int} {st : List Ls} (h : Good rng st) : ∀ l ∈ st, (l.es.filter (under col0)).length ≤ 1 := fun l hl => by
  rw [List.filter_eq_nil_iff.2 (fun x hx => by rw [under0 (h.ok l hl x hx).1]; simp)]
  exact Nat.zero_le _
structure MaRel (w : World) (g b gm : Nat) (rng : Int) (n : Nat) (v9 : Value) (wr : World) : Prop where
  out : ∃ (k : Nat) (mk : Col) (rs : List LR), k ≤ n ∧ v9 = .int .i64 k ∧ lenS (states rs) ≤ 299 ∧ Hid (Mine w.heap.size wr g b rng mk rs) ∧ Hid (CBx wr gm mk) ∧ Hid (¬ fpS g b rs gm) ∧ Hid (∀ l ∈ states rs, (l.es.filter (under mk)).length ≤ 1) ∧ Hid (Below w.heap.size w wr)
structure CxRel (w5 : World) (gm : Nat) (mk c : Col) (v10 : Value) (wr : World) : Prop where
  out : ∃ k : Nat, k ≤ 3 ∧ v10 = .int .i64 k ∧ Hid (CBx wr gm (mkTo mk c k)) ∧ Hid (Mem.Keeps (fun q => q = gm) w5 wr)
structure KoRel (w8 : World) (n : Nat) (v12 : Value) (wr : World) : Prop where
  out : ∃ j : Nat, j ≤ n ∧ v12 = .int .i64 j ∧ Hid (Below w8.heap.size w8 wr)
structure CnRel (w9 : World) (l : List Ent) (mk : Col) (v13 v15 : Value) (wr : World) : Prop where
  out : ∃ j : Nat, j ≤ l.length ∧ v13 = .int .i64 ((l.take j).filter (under mk)).length ∧ v15 = .int .i64 j ∧ Hid (Below w9.heap.size w9 wr)
end Sto
namespace storeMarksOpen
open Vec Sto
set_option maxRecDepth 20000 in
set_option maxHeartbeats 8000000 in
theorem walk (rng : Int) (A : Option Addr) (c : Nat) (es : List Ent) (Aq : Option Addr) (cc : Nat) (cs : List Col) (w : World) (hr : Mem.Rd w w.heap.size A (es.flatMap entCells)) (hec : es.length ≤ c) (hcc : c ≤ 8796093022208) (hd : ∀ e ∈ es, EntIn e)
    (hrc : Mem.Rd w w.heap.size Aq (cs.flatMap colCells)) (hcs : cs.length ≤ cc) (hcm : cc ≤ 8796093022208) :
    Calls Try.prog 8 #[.int .i64 rng, .slice A es.length c, .slice Aq cs.length cc] w fun e w' => e = .returned (.bool true) ∧ Below w.heap.size w w' := by
  have HR := Lib.hid hr
  have HD := Lib.hid hd
  have HRC := Lib.hid hrc
  clear hr hd hrc
  go_enter Try.func8, Try.ntmps8
  go_wp2_with fail
  refine (storeAble_any w).mono ?_
  rintro x w1 ⟨rfl, hb1⟩
  have HB1 := Lib.hid hb1
  clear hb1
  go_wp2_with fail
  have hrd : Mem.Rd (w1.alloc (.cells (acCells ⟨0, A, c, es, col0⟩).toArray 28)) (w1.alloc (.cells (acCells ⟨0, A, c, es, col0⟩).toArray 28)).heap.size (some ⟨w1.heap.size, 0, none⟩) ([(⟨0, A, c, es, col0⟩ : Ac)].flatMap acCells) := by
    have h9 := Mem.Rd.alloc_new w1 (acCells ⟨0, A, c, es, col0⟩).toArray 28 (0, 0) rfl
    simpa using h9
  refine (much_any (some ⟨w1.heap.size, 0, none⟩) 1 [⟨0, A, c, es, col0⟩] (w1.alloc (.cells (acCells ⟨0, A, c, es, col0⟩).toArray 28)) _ hrd (by simp) (fun a ha => ?_) (Below.refl _ _)).mono ?_
  · rw [List.mem_singleton] at ha
    subst ha
    exact ⟨((HR.out.below HB1.out).more HB1.out.size).alloc (Nat.le_refl _) _ |>.more (by simp), hec, hcc, HD.out⟩
  rintro x w2 ⟨bq, rfl, hbn, hb2⟩
  have hb2' : Below w1.heap.size w1 w2 := (Reg.below_new _ _).trans (hb2.mono (by simp))
  have HB2 : Hid (Below w.heap.size w w2) := HB1.out.trans (hb2'.mono HB1.out.size)
  clear hb2 hb2' HB1 hrd
  cases bq
  case true =>
    go_wp2
    go_ret
    exact ⟨rfl, HB2.out⟩
  have hn3 : es.length ≤ 299 := by have := hbn rfl; simp [lenA] at this; omega
  clear hbn
  by_cases hcl : cs.length ≤ 50
  · have d50 : decide ((50 : Int) < (cs.length : Int)) = false := by simp; omega
    have hol := ents_len es
    have hoo := ents_one es
    go_upto_region 6 with (go_at_call 11; refine (storeNew_any rng w2).mono ?_; rintro x w3 ⟨g, b, rfl, hA3, hb3, hg1, hg2⟩)
    have hM3 : Mine w.heap.size w3 g b rng col0 [] := by
      have h9 := new_mine hA3 hg1 hg2
      exact ⟨h9.S, h9.G, fun k hk => Nat.le_trans HB2.out.size (h9.a k hk)⟩
    have HM3 := Lib.hid hM3
    have HB3 : Hid (Below w.heap.size w w3) := HB2.out.trans (hb3.mono HB2.out.size)
    have hrd3 := ((HR.out.below HB3.out).more HB3.out.size).alloc (Nat.le_refl _) (.cells #[] 40)
    clear hA3 hb3 hg1 hg2 HB2 hM3
    go_upto_region 7 with (first | (at_builtin; refine Mem.wpList_app0 _ rfl (.tmp 30) (.tmp 31) _ rfl entries_elem (some ⟨w3.heap.size, 0, none⟩) rfl w3.heap.size A es.length c (es.flatMap entCells) rfl ?_ (Mem.Own.lit w3 _ 20 #[] 0 rfl rfl (by simp [maxLen])) hrd3 hol hoo (by unfold maxLen; omega) (by omega); intro A1 c1 w4 hown hb4 hat4; have HO4 := Lib.hid hown; have HB4 : Hid (Below w3.heap.size w3 w4) := (Reg.below_new _ _).trans (hb4.mono (by simp)); have HF4 : Hid (Mem.From w3.heap.size A1) := hat4.elim (fun h => by rw [h]; exact Mem.From.some_ (Nat.le_refl _)) (fun h => by rw [h]; exact Mem.From.some_ (by simp)); clear hown hb4 hat4 hrd3) | (go_at_call 12; refine (storePut_any rng g b col0 [] A1 c1 es w4 (HM3.out.S.below HB4.out) HM3.out.G HO4.out (fun q hq h => by have h1 := HF4.out.blk q hq; have h2 := HM3.out.S.lt h; omega) (by simp [lenS, states]; omega)).mono ?_; rintro x w5 ⟨rs5, rfl, h5⟩))
    have HM5 : Hid (Mine w.heap.size w5 g b rng col0 rs5) := by
      obtain ⟨_, h2, h3, h4, h6⟩ := h5
      exact ⟨h2, h3, fun k hk => (h6 k hk).elim (HM3.out.a k) (fun h => Nat.le_trans HB3.out.size (Nat.le_trans HB4.out.size h))⟩
    have HB5 : Hid (Below w.heap.size w w5) := (HB3.out.trans (HB4.out.mono HB3.out.size)).trans (h5.2.2.2.1.below HM3.out.a (Nat.le_trans HB3.out.size HB4.out.size))
    have hl5 : lenS (states rs5) ≤ 299 := by
      rw [h5.1]
      have h9 := put_le rng col0 (states []) es
      have h0 : lenS (states []) = 0 := rfl
      omega
    have HF5 := Lib.hid (few_none HM5.out.G)
    clear h5 HO4 HB4 HF4 HM3 HB3 hol hoo
    go_upto_region 8 with fail
    refine Reg.wp_gen (fun w6 => CBx w6 w5.heap.size col0 ∧ Below w5.heap.size w5 w6) ⟨?_, ?_⟩ ?_
    · exact Mem.Bx.new w5 26 (colCells col0).toArray rfl rfl
    · exact Reg.below_new _ _
    rintro w6 ⟨hC6, hb6⟩
    obtain ⟨gm, hgm⟩ : ∃ gm, w5.heap.size = gm := ⟨_, rfl⟩
    rw [hgm] at hC6 ⊢
    have hgw : w.heap.size ≤ gm := by rw [← hgm]; exact HB5.out.size
    have HM6 := Lib.hid (HM5.out.below hb6)
    have HB6 : Hid (Below w.heap.size w w6) := HB5.out.trans (hb6.mono HB5.out.size)
    have HG6 : Hid (¬ fpS g b rs5 gm) := fun h => by have := HM5.out.S.lt h; omega
    have HC6 := Lib.hid hC6
    clear hC6 hb6 HM5 HB5 hgm
    go_wp2
    go_loopw [9] (MaRel w g b gm rng cs.length) (fun t _ => cs.length - (intOf t).toNat)
    case atStart => exact ⟨⟨0, col0, rs5, by omega, rfl, hl5, HM6, HC6, HG6, HF5, HB6⟩⟩
    case round =>
      obtain ⟨k, mk, rs, hk, rfl, hln, HM, HC, HG, HF, HB⟩ := hrel.out
      clear hrel HM6 HB6 HC6 HG6 HF5 hl5
      by_cases hlt : k < cs.length
      · obtain ⟨bc, oc, rfl, hbc, hcell⟩ := Mem.Rd.elem colCells_length HRC.out hlt (by omega)
        obtain ⟨y, hy⟩ : ∃ y, cs[k] = y := ⟨_, rfl⟩
        rw [hy] at hcell
        have HCW : Hid (∀ j u, (colCells y)[j]? = some u → w.cell? ⟨bc, oc + k * 3 + j, none⟩ = some u) := fun j u hu => by rw [Nat.add_assoc]; exact hcell j u hu
        have HCR : Hid (∀ j u, (colCells y)[j]? = some u → wr.cell? ⟨bc, oc + k * 3 + j, none⟩ = some u) := fun j u hu => (HB.out.cell (p := ⟨bc, oc + k * 3 + j, none⟩) hbc).trans (HCW.out j u hu)
        have HCO := Lib.hid (storeCollect_any HM.out.S HM.out.G (by omega) y)
        clear hcell hy
        go_upto_region 12 with (first | ((with_reducible refine Mem.load_agg _ _ col_agg bc (oc + k * 3) (colCells y) ?hx (colCells_length y) HCR.out ?_); case hx => exact rfl) | (go_at_call 20; refine HCO.out.mono ?_; rintro x w5 ⟨rs1, rfl, hs1, hS5, hk5, hq5⟩))
        have HM5 : Hid (Mine w.heap.size w5 g b rng (maxC mk y) rs1) := ⟨hS5, by rw [hs1]; exact HM.out.G.collect _, fun q hq => (hq5 q hq).elim (HM.out.a q) (fun h => Nat.le_trans HB.out.size h)⟩
        have HB5 : Hid (Below w.heap.size w w5) := HB.out.trans (hk5.below HM.out.a HB.out.size)
        have HG5 : Hid (¬ fpS g b rs1 gm) := fun h => (hq5 gm h).elim HG.out (fun h => by have := HC.out.lt; omega)
        have HC5 : Hid (CBx w5 gm mk) := HC.out.keeps hk5 HG.out
        have HCC : Hid (∀ j u, (colCells y)[j]? = some u → w5.cell? ⟨bc, oc + k * 3 + j, none⟩ = some u) := fun j u hu => (HB5.out.cell (p := ⟨bc, oc + k * 3 + j, none⟩) hbc).trans (HCW.out j u hu)
        have HS1 := Lib.hid hs1
        have hl1 : lenS (states rs1) ≤ 299 := by rw [hs1]; exact Nat.le_trans (collect_len _ _) hln
        clear hS5 hk5 hq5 hs1 HCO HCR
        go_wp2
        go_loopw [10] (CxRel w5 gm mk y) (fun t _ => 3 - (intOf t).toNat)
        case atStart => exact ⟨⟨0, by omega, rfl, HC5, Mem.Keeps.refl _ _⟩⟩
        case round =>
          obtain ⟨d, hd, rfl, HC, HK⟩ := hrel.out
          clear hrel HC5
          have hc : d = 0 ∨ d = 1 ∨ d = 2 ∨ d = 3 := by omega
          rcases hc with rfl | rfl | rfl | rfl
          ·
            have y0 := HC.out.cell (j := 0) rfl
            have f1 := HC.out.fr 0
            have c0 : wr.cell? ⟨bc, oc + k * 3, none⟩ = some (.int .i64 y.a) := (HK.out.cell (p := ⟨bc, oc + k * 3, none⟩) (by show bc < _; have := HB5.out.size; omega) (by show ¬ bc = gm; omega)).trans (HCC.out 0 _ rfl)
            have hmx : ∀ ts t W, (Builtin.max_ ts t #[.int .i64 mk.a, .int .i64 y.a]).run Try.prog W = .ok (.int .i64 (max mk.a y.a)) W := fun ts t W => run_max2 ts t W _ _
            go_upto_region 15 with fail
            refine Reg.still_tail 12 (by kernel_rfl) (by kernel_rfl) ?_
            intro w6 hw6
            simp only [List.take_succ_cons, List.take_zero, List.drop_succ_cons, List.drop_zero]
            have y0' : w6.cell? ⟨gm, 0, none⟩ = some (.int .i64 mk.a) := by rw [hw6]; exact y0
            have f1' : w6.frozen? ⟨gm, 0, none⟩ = false := by rw [hw6]; exact f1
            have c0' : w6.cell? ⟨bc, oc + k * 3, none⟩ = some (.int .i64 y.a) := by rw [hw6]; exact c0
            have HK6 : Hid (Mem.Keeps (fun _ => False) wr w6) := by show Mem.Keeps _ _ _; rw [hw6]; exact (Mem.Keeps.refl _ wr).drew
            clear hw6 y0 f1 c0
            repeat still_step
            refine wpStill_nil ?_
            go_wp2
            go_roundw
            case rel =>
              refine ⟨⟨0 + 1, by omega, rfl, ?_, ?_⟩⟩
              · exact (HC.out.keeps HK6.out id).set 0 (.int .i64 (max mk.a y.a))
              · exact ((HK.out.trans HK6.out (fun _ h _ => h.elim)).setCell (p := ⟨gm, 0, none⟩) (fun _ => rfl) _)
            case measure => simp [intOf]
          ·
            have y0 := HC.out.cell (j := 1) rfl
            have f1 := HC.out.fr 1
            have c0 : wr.cell? ⟨bc, oc + k * 3 + 1, none⟩ = some (.int .i64 y.b) := (HK.out.cell (p := ⟨bc, oc + k * 3 + 1, none⟩) (by show bc < _; have := HB5.out.size; omega) (by show ¬ bc = gm; omega)).trans (HCC.out 1 _ rfl)
            have hmx : ∀ ts t W, (Builtin.max_ ts t #[.int .i64 mk.b, .int .i64 y.b]).run Try.prog W = .ok (.int .i64 (max mk.b y.b)) W := fun ts t W => run_max2 ts t W _ _
            go_upto_region 15 with fail
            refine Reg.still_tail 12 (by kernel_rfl) (by kernel_rfl) ?_
            intro w6 hw6
            simp only [List.take_succ_cons, List.take_zero, List.drop_succ_cons, List.drop_zero]
            have y0' : w6.cell? ⟨gm, 1, none⟩ = some (.int .i64 mk.b) := by rw [hw6]; exact y0
            have f1' : w6.frozen? ⟨gm, 1, none⟩ = false := by rw [hw6]; exact f1
            have c0' : w6.cell? ⟨bc, oc + k * 3 + 1, none⟩ = some (.int .i64 y.b) := by rw [hw6]; exact c0
            have HK6 : Hid (Mem.Keeps (fun _ => False) wr w6) := by show Mem.Keeps _ _ _; rw [hw6]; exact (Mem.Keeps.refl _ wr).drew
            clear hw6 y0 f1 c0
            repeat still_step
            refine wpStill_nil ?_
            go_wp2
            go_roundw
            case rel =>
              refine ⟨⟨1 + 1, by omega, rfl, ?_, ?_⟩⟩
              · exact (HC.out.keeps HK6.out id).set 1 (.int .i64 (max mk.b y.b))
              · exact ((HK.out.trans HK6.out (fun _ h _ => h.elim)).setCell (p := ⟨gm, 1, none⟩) (fun _ => rfl) _)
            case measure => simp [intOf]
          ·
            have y0 := HC.out.cell (j := 2) rfl
            have f1 := HC.out.fr 2
            have c0 : wr.cell? ⟨bc, oc + k * 3 + 2, none⟩ = some (.int .i64 y.c) := (HK.out.cell (p := ⟨bc, oc + k * 3 + 2, none⟩) (by show bc < _; have := HB5.out.size; omega) (by show ¬ bc = gm; omega)).trans (HCC.out 2 _ rfl)
            have hmx : ∀ ts t W, (Builtin.max_ ts t #[.int .i64 mk.c, .int .i64 y.c]).run Try.prog W = .ok (.int .i64 (max mk.c y.c)) W := fun ts t W => run_max2 ts t W _ _
            go_upto_region 15 with fail
            refine Reg.still_tail 12 (by kernel_rfl) (by kernel_rfl) ?_
            intro w6 hw6
            simp only [List.take_succ_cons, List.take_zero, List.drop_succ_cons, List.drop_zero]
            have y0' : w6.cell? ⟨gm, 2, none⟩ = some (.int .i64 mk.c) := by rw [hw6]; exact y0
            have f1' : w6.frozen? ⟨gm, 2, none⟩ = false := by rw [hw6]; exact f1
            have c0' : w6.cell? ⟨bc, oc + k * 3 + 2, none⟩ = some (.int .i64 y.c) := by rw [hw6]; exact c0
            have HK6 : Hid (Mem.Keeps (fun _ => False) wr w6) := by show Mem.Keeps _ _ _; rw [hw6]; exact (Mem.Keeps.refl _ wr).drew
            clear hw6 y0 f1 c0
            repeat still_step
            refine wpStill_nil ?_
            go_wp2
            go_roundw
            case rel =>
              refine ⟨⟨2 + 1, by omega, rfl, ?_, ?_⟩⟩
              · exact (HC.out.keeps HK6.out id).set 2 (.int .i64 (max mk.c y.c))
              · exact ((HK.out.trans HK6.out (fun _ h _ => h.elim)).setCell (p := ⟨gm, 2, none⟩) (fun _ => rfl) _)
            case measure => simp [intOf]
          · have HC7 : Hid (CBx wr gm (maxC mk y)) := HC.out
            have HM7 : Hid (Mine w.heap.size wr g b rng (maxC mk y) rs1) := HM5.out.keeps HK.out (fun q hq e => HG5.out (e ▸ hq))
            have HB7 : Hid (Below w.heap.size w wr) := HB5.out.trans (HK.out.below (fun q e => by rw [e]; exact hgw) HB5.out.size)
            have HCC7 : Hid (∀ j u, (colCells y)[j]? = some u → wr.cell? ⟨bc, oc + k * 3 + j, none⟩ = some u) := fun j u hu => (HB7.out.cell (p := ⟨bc, oc + k * 3 + j, none⟩) hbc).trans (HCW.out j u hu)
            have hbw : bc < w.heap.size := hbc
            have hag : collectS (maxC (maxC mk y) y) (states rs1) = states rs1 := by rw [maxC_idem, HS1.out, collect_again]
            have HAG := Lib.hid hag
            have heq : eqCol (maxC mk y) (maxC mk y) = true := eqCol_iff.2 rfl
            clear hag HC HK HM HB HG HF HM5 HB5 HCC hbc hd
            go_upto_region 16 with fail
            refine Reg.wp_region_w (by kernel_rfl) 114 13 rfl rfl (by kernel_rfl) (10) (fpS g b rs1) (10) (fun _ => False) (10) (fun _ => False)
              (fun i v u => match i with
                | 0 => v = .pointer (some ⟨g, 0, none⟩)
                | 1 => v = Vec.C (maxC mk y)
                | 2 => v = Vec.C (maxC mk y)
                | 3 => v = .bool false
                | 4 => v = .bool false
                | 5 => v = .pointer (some ⟨g, 0, none⟩)
                | 6 => v = .slice (some ⟨bc, oc, none⟩) cs.length cc
                | 7 => v = .int .i64 k
                | 8 => v = .pointer (some ⟨bc, oc + k * 3, none⟩)
                | 9 => v = Vec.C y
                | 10 => v = .int .i64 0 ∧ ∃ rs2, Mine w.heap.size u g b rng (maxC mk y) rs2 ∧ states rs2 = states rs1 ∧ ∀ q, fpS g b rs2 q → fpS g b rs1 q ∨ wr.heap.size ≤ q
                | 11 => v = .bool false
                | 12 => v = .bool false
                | _ => True) ?_ ?_
            · refine Reg.Steps.cons ?_ (Reg.Steps.cons ?_ (Reg.Steps.cons ?_ (Reg.Steps.cons ?_ (Reg.Steps.cons ?_ (Reg.Steps.cons ?_ (Reg.Steps.cons ?_ (Reg.Steps.cons ?_ (Reg.Steps.cons ?_ (Reg.Steps.cons ?_ (Reg.Steps.cons ?_ (Reg.Steps.cons ?_ (Reg.Steps.cons ?_ (Reg.Steps.nil _)))))))))))))
              · intro val ac u hR hp ha K hK      -- 0: t62 := Op.move t7
                have e7 : (ac.tmps[7]?).getD undef = .pointer (some ⟨g, 0, none⟩) := ha 7 (by decide)
                clear ha hp
                refine Reg.Op1.plain rfl ?_
                go_wp2
                exact ⟨rfl, hK _ _ rfl (Reg.Wr.same _)⟩
              · intro val ac u hR hp ha K hK      -- 1: t63 := Op.call { value (Operand.func 24), args := #[t62], argTypes := #[30] }
                obtain ⟨w62, h62, r62⟩ := hp 0 (by decide)
                have e62 : (ac.tmps[62]?).getD undef = .pointer (some ⟨g, 0, none⟩) := (ha 62 (by decide)).trans h62
                clear h62
                clear ha hp
                refine Reg.Op1.plain rfl ?_
                have hq := (Mem.Keeps.refl (fun _ => False) wr).drew.trans (Reg.Wr.none hR (by decide +kernel) (by decide +kernel) (by decide +kernel)) (fun _ h _ => h)
                go_wp2_with fail
                refine (storeMark_any (HM7.out.keeps hq (fun _ _ h => h)).S).mono ?_
                rintro x9 w' ⟨rfl, hbw9⟩
                go_wp2_with fail
                exact ⟨rfl, hK _ _ rfl (Reg.Wr.below hbw9)⟩
              · intro val ac u hR hp ha K hK      -- 2: t64 := Op.load 26 t8
                have e8 : (ac.tmps[8]?).getD undef = .pointer (some ⟨gm, 0, none⟩) := ha 8 (by decide)
                clear ha hp
                refine Reg.Op1.plain rfl ?_
                have hq := (Mem.Keeps.refl (fun q => fpS g b rs1 q ∨ False ∨ False) wr).drew.trans (Reg.Wr.all hR) (fun _ h _ => h)
                have hCu := HC7.out.keeps hq (fun h => h.elim HG5.out (fun h => h.elim id id))
                refine Mem.load_agg _ _ col_agg gm 0 (colCells (maxC mk y)) (Reg.eval_of e8) (colCells_length _) (fun j u' hu => by rw [Nat.zero_add]; exact hCu.cell hu) ?_
                exact ⟨rfl, hK _ _ rfl (Reg.Wr.same _)⟩
              · intro val ac u hR hp ha K hK      -- 3: t65 := Op.binOp BinOp.neq 26 t63 t64 26
                obtain ⟨w63, h63, r63⟩ := hp 1 (by decide)
                have e63 : (ac.tmps[63]?).getD undef = Vec.C (maxC mk y) := (ha 63 (by decide)).trans h63
                clear h63
                obtain ⟨w64, h64, r64⟩ := hp 2 (by decide)
                have e64 : (ac.tmps[64]?).getD undef = Vec.C (maxC mk y) := (ha 64 (by decide)).trans h64
                clear h64
                clear ha hp
                refine Reg.Op1.plain rfl ?_
                have hne := neq_col (maxC mk y) (maxC mk y)
                rw [heq] at hne
                go_wp2
                exact ⟨rfl, hK _ _ rfl (Reg.Wr.same _)⟩
              · intro val ac u hR hp ha K hK      -- 4: t66 := Op.move t65
                obtain ⟨w65, h65, r65⟩ := hp 3 (by decide)
                have e65 : (ac.tmps[65]?).getD undef = .bool false := (ha 65 (by decide)).trans h65
                clear h65
                clear ha hp
                refine Reg.Op1.plain rfl ?_
                go_wp2
                exact ⟨rfl, hK _ _ rfl (Reg.Wr.same _)⟩
              · intro val ac u hR hp ha K hK      -- 5: t67 := Op.move t7
                have e7 : (ac.tmps[7]?).getD undef = .pointer (some ⟨g, 0, none⟩) := ha 7 (by decide)
                obtain ⟨w66, h66, r66⟩ := hp 4 (by decide)
                have e66 : (ac.tmps[66]?).getD undef = .bool false := (ha 66 (by decide)).trans h66
                clear h66
                clear ha hp
                refine Reg.Op1.guarded rfl rfl e66 (fun _ => Reg.Op1.plain rfl ?_) (fun h => absurd rfl h)
                go_wp2
                exact ⟨rfl, hK _ _ rfl (Reg.Wr.same _)⟩
              · intro val ac u hR hp ha K hK      -- 6: t68 := Op.move t2
                have e2 : (ac.tmps[2]?).getD undef = .slice (some ⟨bc, oc, none⟩) cs.length cc := ha 2 (by decide)
                obtain ⟨w66, h66, r66⟩ := hp 4 (by decide)
                have e66 : (ac.tmps[66]?).getD undef = .bool false := (ha 66 (by decide)).trans h66
                clear h66
                clear ha hp
                refine Reg.Op1.guarded rfl rfl e66 (fun _ => Reg.Op1.plain rfl ?_) (fun h => absurd rfl h)
                go_wp2
                exact ⟨rfl, hK _ _ rfl (Reg.Wr.same _)⟩
              · intro val ac u hR hp ha K hK      -- 7: t69 := Op.move t9
                have e9 : (ac.tmps[9]?).getD undef = .int .i64 k := ha 9 (by decide)
                obtain ⟨w66, h66, r66⟩ := hp 4 (by decide)
                have e66 : (ac.tmps[66]?).getD undef = .bool false := (ha 66 (by decide)).trans h66
                clear h66
                clear ha hp
                refine Reg.Op1.guarded rfl rfl e66 (fun _ => Reg.Op1.plain rfl ?_) (fun h => absurd rfl h)
                go_wp2
                exact ⟨rfl, hK _ _ rfl (Reg.Wr.same _)⟩
              · intro val ac u hR hp ha K hK      -- 8: t70 := Op.indexAddr 61 t68 t69
                obtain ⟨w68, h68, r68⟩ := hp 6 (by decide)
                have e68 : (ac.tmps[68]?).getD undef = .slice (some ⟨bc, oc, none⟩) cs.length cc := (ha 68 (by decide)).trans h68
                clear h68
                obtain ⟨w69, h69, r69⟩ := hp 7 (by decide)
                have e69 : (ac.tmps[69]?).getD undef = .int .i64 k := (ha 69 (by decide)).trans h69
                clear h69
                obtain ⟨w66, h66, r66⟩ := hp 4 (by decide)
                have e66 : (ac.tmps[66]?).getD undef = .bool false := (ha 66 (by decide)).trans h66
                clear h66
                clear ha hp
                refine Reg.Op1.guarded rfl rfl e66 (fun _ => Reg.Op1.plain rfl ?_) (fun h => absurd rfl h)
                go_wp2
                exact ⟨rfl, hK _ _ rfl (Reg.Wr.same _)⟩
              · intro val ac u hR hp ha K hK      -- 9: t71 := Op.load 26 t70
                obtain ⟨w70, h70, r70⟩ := hp 8 (by decide)
                have e70 : (ac.tmps[70]?).getD undef = .pointer (some ⟨bc, oc + k * 3, none⟩) := (ha 70 (by decide)).trans h70
                clear h70
                obtain ⟨w66, h66, r66⟩ := hp 4 (by decide)
                have e66 : (ac.tmps[66]?).getD undef = .bool false := (ha 66 (by decide)).trans h66
                clear h66
                clear ha hp
                refine Reg.Op1.guarded rfl rfl e66 (fun _ => Reg.Op1.plain rfl ?_) (fun h => absurd rfl h)
                have hq := (Mem.Keeps.refl (fun q => fpS g b rs1 q ∨ False ∨ False) wr).drew.trans (Reg.Wr.all hR) (fun _ h _ => h)
                refine Mem.load_aggG _ _ col_agg bc (oc + k * 3) (colCells y) (by simp [Region.wanted]) (Reg.eval_of e70) (colCells_length _) (fun j u' hu => ?_) ?_
                · refine (hq.cell (p := ⟨bc, oc + k * 3 + j, none⟩) (Nat.lt_of_lt_of_le hbw HB7.out.size) (fun h => h.elim (fun h => by have := HM7.out.a bc h; omega) (fun h => h.elim id id))).trans (HCC7.out j u' hu)
                exact ⟨rfl, hK _ _ rfl (Reg.Wr.same _)⟩
              · intro val ac u hR hp ha K hK      -- 10: t72 := Op.call { value (Operand.func 20), args := #[t67, t71], argTypes := #[30, 26] }
                obtain ⟨w67, h67, r67⟩ := hp 5 (by decide)
                have e67 : (ac.tmps[67]?).getD undef = .pointer (some ⟨g, 0, none⟩) := (ha 67 (by decide)).trans h67
                clear h67
                obtain ⟨w71, h71, r71⟩ := hp 9 (by decide)
                have e71 : (ac.tmps[71]?).getD undef = Vec.C y := (ha 71 (by decide)).trans h71
                clear h71
                obtain ⟨w66, h66, r66⟩ := hp 4 (by decide)
                have e66 : (ac.tmps[66]?).getD undef = .bool false := (ha 66 (by decide)).trans h66
                clear h66
                clear ha hp
                refine Reg.Op1.guarded rfl rfl e66 (fun _ => Reg.Op1.plain rfl ?_) (fun h => absurd rfl h)
                have hq := (Mem.Keeps.refl (fun _ => False) wr).drew.trans (Reg.Wr.none hR (by decide +kernel) (by decide +kernel) (by decide +kernel)) (fun _ h _ => h)
                have hMu := HM7.out.keeps hq (fun _ _ h => h)
                go_wp2_with fail
                refine (storeCollect_any hMu.S hMu.G (by omega) y).mono ?_
                rintro x9 w' ⟨rs2, rfl, hs2, hS2, hk2, hq2⟩
                rw [HAG.out] at hs2
                rw [maxC_idem] at hS2
                rw [hs2, Nat.sub_self]
                go_wp2_with fail
                exact ⟨rfl, hK _ _ ⟨rfl, rs2, ⟨hS2, by rw [hs2]; exact hMu.G, fun q hq9 => (hq2 q hq9).elim (hMu.a q) (fun h => Nat.le_trans HB7.out.size (Nat.le_trans hq.size h))⟩, hs2, fun q hq9 => (hq2 q hq9).imp id (fun h => Nat.le_trans hq.size h)⟩ (Reg.Wr.does1 hk2)⟩
              · intro val ac u hR hp ha K hK      -- 11: t73 := Op.binOp BinOp.neq 3 t72 (const (0:i64)) 3
                obtain ⟨w72, h72, r72⟩ := hp 10 (by decide)
                have e72 : (ac.tmps[72]?).getD undef = val 10 := ha 72 (by decide)
                obtain ⟨w66, h66, r66⟩ := hp 4 (by decide)
                have e66 : (ac.tmps[66]?).getD undef = .bool false := (ha 66 (by decide)).trans h66
                clear h66
                clear ha hp
                refine Reg.Op1.guarded rfl rfl e66 (fun _ => Reg.Op1.plain rfl ?_) (fun h => absurd rfl h)
                rw [h72.1] at e72
                have hbb : ((0 : Int) != 0) = false := rfl
                go_wp2
                exact ⟨rfl, hK _ _ rfl (Reg.Wr.same _)⟩
              · intro val ac u hR hp ha K hK      -- 12: t74 := Op.pick t66 (const (Value.bool true)) t73
                obtain ⟨w66, h66, r66⟩ := hp 4 (by decide)
                have e66 : (ac.tmps[66]?).getD undef = .bool false := (ha 66 (by decide)).trans h66
                clear h66
                obtain ⟨w73, h73, r73⟩ := hp 11 (by decide)
                have e73 : (ac.tmps[73]?).getD undef = .bool false := (ha 73 (by decide)).trans h73
                clear h73
                clear ha hp
                refine Reg.Op1.plain rfl ?_
                go_wp2
                exact ⟨rfl, hK _ _ rfl (Reg.Wr.same _)⟩
            intro val u hR H
            obtain ⟨_, hv, _⟩ := H 12 (by decide)
            have hv : val 12 = .bool false := hv
            obtain ⟨wb, ⟨_, rs2, hM9, hs9, hq9⟩, rb⟩ := H 10 (by decide)
            have HM9 := Lib.hid (hM9.keeps (Reg.Wr.none rb (by decide +kernel) (by decide +kernel) (by decide +kernel)) (fun _ _ h => h))
            have hkk := (Mem.Keeps.refl (fun q => fpS g b rs1 q ∨ False ∨ False) wr).drew.trans (Reg.Wr.all hR) (fun _ h _ => h)
            have hkk9 : Mem.Keeps (fpS g b rs1) wr u := hkk.mono (fun q h _ => h.elim id (fun h => (h.elim id id : False).elim))
            have HC9 : Hid (CBx u gm (maxC mk y)) := HC7.out.keeps hkk9 HG5.out
            have HG9 : Hid (¬ fpS g b rs2 gm) := fun h => (hq9 gm h).elim HG5.out (fun h => by have := HC7.out.lt; omega)
            have HB9 : Hid (Below w.heap.size w u) := HB7.out.trans (hkk9.below HM7.out.a HB7.out.size)
            have HF9 : Hid (∀ l ∈ states rs2, (l.es.filter (under (maxC mk y))).length ≤ 1) := by show ∀ l ∈ states rs2, _; rw [hs9, HS1.out]; exact few_collect _
            have hl9 : lenS (states rs2) ≤ 299 := by rw [hs9]; exact hl1
            simp only [List.map_cons, List.map_nil, Reg.lay, Act.put, List.setIfInBounds_toArray, List.set_cons_succ, List.set_cons_zero, Nat.reduceAdd, hv]
            clear hR H hv rb hM9 hs9 hq9 hkk hkk9
            go_wp2
            go_roundw
            case rel => exact ⟨⟨k + 1, maxC mk y, rs2, by omega, by go_num, hl9, HM9, HC9, HG9, HF9, HB9⟩⟩
            case measure => simp [intOf]; omega
      · obtain rfl : k = cs.length := by omega
        have hra : rs.length ≤ 299 := Nat.le_trans (rs_le HM.out.G.hne) hln
        obtain ⟨ks, hks⟩ : ∃ ks, sortK (rs.map (·.l.k)) = ks := ⟨_, rfl⟩
        have hkl : ks.length = rs.length := by rw [← hks, keys_length]
        have hokS : ∀ q ∈ ks, okS q := fun q hq => okS_of HM.out.G q ((sortK_self _).subset (hks ▸ hq))
        have HKY := Lib.hid (storeKeys_any HM.out.S (by omega))
        rw [hks, ← hkl] at HKY
        have HOK := Lib.hid hokS
        have hkl3 : ks.length ≤ 299 := by omega
        clear hks hkl hokS
        go_upto_region 19 with (go_at_call 16; refine HKY.out.mono ?_; clear HKY; rintro x8 w8 ⟨Ak, ck, rfl, hO8, hF8, hb8⟩)
        have HM8 := Lib.hid (HM.out.below hb8)
        have HC8 : Hid (CBx w8 gm mk) := HC.out.below hb8 HC.out.lt
        have HB8 : Hid (Below w.heap.size w w8) := HB.out.trans (hb8.mono HB.out.size)
        have HK8 := Lib.hid hO8
        have HES : Hid (∀ r ∈ rs, r.l.es.length ≤ 300) := fun r hr => by have := ls_le hr; omega
        clear hO8 hF8 hb8 HM HC HB HG
        go_wp2
        go_loopw [12] (KoRel w8 ks.length) (fun t _ => ks.length - (intOf t).toNat)
        case atStart => exact ⟨⟨0, by omega, rfl, Below.refl _ _⟩⟩
        case round =>
          obtain ⟨jk, hjk, rfl, HBr⟩ := hrel.out
          clear hrel
          by_cases hljk : jk < ks.length
          · have HMr := Lib.hid (HM8.out.below HBr.out)
            have HKr : Hid (Mem.Own wr 9 1 Ak ks.length ck (ks.map Value.string)) := HK8.out.below HBr.out (fun k hk => HK8.out.lt hk)
            obtain ⟨bk, ok, hAk⟩ := HKr.out.form (by omega)
            subst hAk
            obtain ⟨q, hq⟩ : ∃ q, ks[jk]? = some q := ⟨_, List.getElem?_eq_getElem hljk⟩
            have x1 := HKr.out.cell (j := jk) (u := .string q) (by rw [List.getElem?_map, hq]; rfl)
            have HVE := Lib.hid (storeVersions_any HMr.out.S (HOK.out q (List.mem_of_getElem? hq)) HES.out)
            obtain ⟨l, hl⟩ : ∃ l, vers (states rs) q = l := ⟨_, rfl⟩
            rw [hl] at HVE
            have hll : l.length ≤ 299 := by rw [← hl]; exact Nat.le_trans (vers_len _ _) hln
            have hfew : (l.filter (under mk)).length ≤ 1 := by rw [← hl]; exact few_of HF.out q
            have HFEW := Lib.hid hfew
            have HLD : Hid (∀ x ∈ l, 0 ≤ x.dc ∧ x.dc < 3) := fun x hx => by
              have h1 := (HMr.out.G.vers_ok (hl ▸ hx)).1
              unfold rightE Vec.g1 chain at h1
              simp only [Bool.and_eq_true, decide_eq_true_eq] at h1
              omega
            clear hq hl hfew
            go_upto_region 24 with (go_at_call 15; refine HVE.out.mono ?_; rintro x9 w9 ⟨Al, cl, rfl, hO9, hF9, hb9⟩)
            have HO9 := Lib.hid hO9
            have HB9 : Hid (Below w8.heap.size w8 w9) := HBr.out.trans (hb9.mono HBr.out.size)
            have HC9 : Hid (CBx w9 gm mk) := HC8.out.below HB9.out HC8.out.lt
            clear hO9 hF9 hb9 HVE HBr HMr HKr x1
            go_wp2
            go_loopw [13, 15] (CnRel w9 l mk) (fun _ t _ => l.length - (intOf t).toNat)
            case atStart => exact ⟨⟨0, by omega, rfl, rfl, Below.refl _ _⟩⟩
            case round =>
              obtain ⟨j, hj, rfl, rfl, HBr⟩ := hrel.out
              clear hrel
              obtain ⟨n, hn⟩ : ∃ n, ((l.take j).filter (under mk)).length = n := ⟨_, rfl⟩
              have hnj : n ≤ j := by rw [← hn]; exact Nat.le_trans (List.length_filter_le _ _) (by rw [List.length_take]; omega)
              by_cases hlj : j < l.length
              · obtain ⟨b2, o2, x, rfl, hb2, hx, hatx⟩ := ent_elem HO9.out.rd hlj
                have HATX : Hid (EntAt wr b2 (o2 + j * 20) x) := hatx.below HBr.out hb2
                have HCr : Hid (CBx wr gm mk) := HC9.out.below HBr.out HC9.out.lt
                have hb2r : b2 < wr.heap.size := Nat.lt_of_lt_of_le hb2 HBr.out.size
                have hgm : gm < wr.heap.size := HCr.out.lt
                have HST : Hid (((l.take (j + 1)).filter (under mk)).length = n + (if under mk x = true then 1 else 0)) := by
                  show _ = _
                  rw [Mem.take_snoc hx, List.filter_append, List.length_append, hn, List.filter_cons]
                  split <;> rfl
                have hdc := HLD.out x (List.mem_of_getElem? hx)
                rw [hn]
                clear hatx hx hn
                have hdd : x.dc = 0 ∨ x.dc = 1 ∨ x.dc = 2 := by omega
                clear hdc
                go_upto_region 27 with fail
                rcases hdd with hxd | hxd | hxd
                ·
                  refine Reg.wp_region_rel (by kernel_rfl) 114 15 rfl rfl (by kernel_rfl) (Reg.Adds) (Reg.Adds.refl) (Reg.Adds.trans)
                    (fun i v u => match i with
                      | 0 => v = .slice (some ⟨b2, o2, none⟩) l.length cl
                      | 1 => v = .int .i64 j
                      | 2 => v = .pointer (some ⟨b2, o2 + j * 20, none⟩)
                      | 3 => v = .pointer (some ⟨b2, o2 + j * 20, none⟩)
                      | 4 => v = .pointer (some ⟨b2, o2 + j * 20 + 2, none⟩)
                      | 5 => v = .int .i64 x.seq
                      | 6 => v = .slice (some ⟨b2, o2, none⟩) l.length cl
                      | 7 => v = .int .i64 j
                      | 8 => v = .pointer (some ⟨b2, o2 + j * 20, none⟩)
                      | 9 => v = .pointer (some ⟨b2, o2 + j * 20, none⟩)
                      | 10 => v = .pointer (some ⟨b2, o2 + j * 20, none⟩)
                      | 11 => v = .int .i64 0
                      | 12 => v = .pointer (some ⟨gm, 0, none⟩)
                      | 13 => v = .int .i64 mk.a
                      | 14 => v = .bool (decide (x.seq ≤ mk.a))
                      | _ => True) ?_ ?_
                  · refine Reg.Steps.cons ?_ (Reg.Steps.cons ?_ (Reg.Steps.cons ?_ (Reg.Steps.cons ?_ (Reg.Steps.cons ?_ (Reg.Steps.cons ?_ (Reg.Steps.cons ?_ (Reg.Steps.cons ?_ (Reg.Steps.cons ?_ (Reg.Steps.cons ?_ (Reg.Steps.cons ?_ (Reg.Steps.cons ?_ (Reg.Steps.cons ?_ (Reg.Steps.cons ?_ (Reg.Steps.cons ?_ (Reg.Steps.nil _)))))))))))))))
                    · intro val ac u hR hp ha K hK      -- 0: t95 := Op.move t14
                      have e14 : (ac.tmps[14]?).getD undef = .slice (some ⟨b2, o2, none⟩) l.length cl := ha 14 (by decide)
                      clear ha hp
                      refine Reg.Op1.plain rfl ?_
                      go_wp2
                      exact ⟨rfl, hK _ _ rfl (fun j k _ _ => Reg.Adds.refl _ _ _)⟩
                    · intro val ac u hR hp ha K hK      -- 1: t96 := Op.move t15
                      have e15 : (ac.tmps[15]?).getD undef = .int .i64 j := ha 15 (by decide)
                      clear ha hp
                      refine Reg.Op1.plain rfl ?_
                      go_wp2
                      exact ⟨rfl, hK _ _ rfl (fun j k _ _ => Reg.Adds.refl _ _ _)⟩
                    · intro val ac u hR hp ha K hK      -- 2: t97 := Op.indexAddr 22 t95 t96
                      obtain ⟨w95, h95, r95⟩ := hp 0 (by decide)
                      have e95 : (ac.tmps[95]?).getD undef = .slice (some ⟨b2, o2, none⟩) l.length cl := (ha 95 (by decide)).trans h95
                      clear h95
                      obtain ⟨w96, h96, r96⟩ := hp 1 (by decide)
                      have e96 : (ac.tmps[96]?).getD undef = .int .i64 j := (ha 96 (by decide)).trans h96
                      clear h96
                      clear ha hp
                      refine Reg.Op1.plain rfl ?_
                      go_wp2
                      exact ⟨rfl, hK _ _ rfl (fun j k _ _ => Reg.Adds.refl _ _ _)⟩
                    · intro val ac u hR hp ha K hK      -- 3: t98 := Op.fieldAddr 40 t97 0
                      obtain ⟨w97, h97, r97⟩ := hp 2 (by decide)
                      have e97 : (ac.tmps[97]?).getD undef = .pointer (some ⟨b2, o2 + j * 20, none⟩) := (ha 97 (by decide)).trans h97
                      clear h97
                      clear ha hp
                      refine Reg.Op1.plain rfl ?_
                      go_wp2
                      exact ⟨rfl, hK _ _ rfl (fun j k _ _ => Reg.Adds.refl _ _ _)⟩
                    · intro val ac u hR hp ha K hK      -- 4: t99 := Op.fieldAddr 34 t98 2
                      obtain ⟨w98, h98, r98⟩ := hp 3 (by decide)
                      have e98 : (ac.tmps[98]?).getD undef = .pointer (some ⟨b2, o2 + j * 20, none⟩) := (ha 98 (by decide)).trans h98
                      clear h98
                      clear ha hp
                      refine Reg.Op1.plain rfl ?_
                      go_wp2
                      exact ⟨rfl, hK _ _ rfl (fun j k _ _ => Reg.Adds.refl _ _ _)⟩
                    · intro val ac u hR hp ha K hK      -- 5: t100 := Op.load 3 t99
                      obtain ⟨w99, h99, r99⟩ := hp 4 (by decide)
                      have e99 : (ac.tmps[99]?).getD undef = .pointer (some ⟨b2, o2 + j * 20 + 2, none⟩) := (ha 99 (by decide)).trans h99
                      clear h99
                      clear ha hp
                      have z2 := (hR.cell (p := ⟨b2, o2 + j * 20 + 2, none⟩) hb2r).trans (HATX.out.c 2 _ rfl)
                      refine Reg.Op1.plain rfl ?_
                      go_wp2
                      exact ⟨rfl, hK _ _ rfl (fun j k _ _ => Reg.Adds.refl _ _ _)⟩
                    · intro val ac u hR hp ha K hK      -- 6: t101 := Op.move t14
                      have e14 : (ac.tmps[14]?).getD undef = .slice (some ⟨b2, o2, none⟩) l.length cl := ha 14 (by decide)
                      clear ha hp
                      refine Reg.Op1.plain rfl ?_
                      go_wp2
                      exact ⟨rfl, hK _ _ rfl (fun j k _ _ => Reg.Adds.refl _ _ _)⟩
                    · intro val ac u hR hp ha K hK      -- 7: t102 := Op.move t15
                      have e15 : (ac.tmps[15]?).getD undef = .int .i64 j := ha 15 (by decide)
                      clear ha hp
                      refine Reg.Op1.plain rfl ?_
                      go_wp2
                      exact ⟨rfl, hK _ _ rfl (fun j k _ _ => Reg.Adds.refl _ _ _)⟩
                    · intro val ac u hR hp ha K hK      -- 8: t103 := Op.indexAddr 22 t101 t102
                      obtain ⟨w101, h101, r101⟩ := hp 6 (by decide)
                      have e101 : (ac.tmps[101]?).getD undef = .slice (some ⟨b2, o2, none⟩) l.length cl := (ha 101 (by decide)).trans h101
                      clear h101
                      obtain ⟨w102, h102, r102⟩ := hp 7 (by decide)
                      have e102 : (ac.tmps[102]?).getD undef = .int .i64 j := (ha 102 (by decide)).trans h102
                      clear h102
                      clear ha hp
                      refine Reg.Op1.plain rfl ?_
                      go_wp2
                      exact ⟨rfl, hK _ _ rfl (fun j k _ _ => Reg.Adds.refl _ _ _)⟩
                    · intro val ac u hR hp ha K hK      -- 9: t104 := Op.fieldAddr 40 t103 0
                      obtain ⟨w103, h103, r103⟩ := hp 8 (by decide)
                      have e103 : (ac.tmps[103]?).getD undef = .pointer (some ⟨b2, o2 + j * 20, none⟩) := (ha 103 (by decide)).trans h103
                      clear h103
                      clear ha hp
                      refine Reg.Op1.plain rfl ?_
                      go_wp2
                      exact ⟨rfl, hK _ _ rfl (fun j k _ _ => Reg.Adds.refl _ _ _)⟩
                    · intro val ac u hR hp ha K hK      -- 10: t105 := Op.fieldAddr 34 t104 0
                      obtain ⟨w104, h104, r104⟩ := hp 9 (by decide)
                      have e104 : (ac.tmps[104]?).getD undef = .pointer (some ⟨b2, o2 + j * 20, none⟩) := (ha 104 (by decide)).trans h104
                      clear h104
                      clear ha hp
                      refine Reg.Op1.plain rfl ?_
                      go_wp2
                      exact ⟨rfl, hK _ _ rfl (fun j k _ _ => Reg.Adds.refl _ _ _)⟩
                    · intro val ac u hR hp ha K hK      -- 11: t106 := Op.load 3 t105
                      obtain ⟨w105, h105, r105⟩ := hp 10 (by decide)
                      have e105 : (ac.tmps[105]?).getD undef = .pointer (some ⟨b2, o2 + j * 20, none⟩) := (ha 105 (by decide)).trans h105
                      clear h105
                      clear ha hp
                      have z0 := (hR.cell (p := ⟨b2, o2 + j * 20, none⟩) hb2r).trans (HATX.out.c 0 _ rfl)
                      rw [hxd] at z0
                      refine Reg.Op1.plain rfl ?_
                      go_wp2
                      exact ⟨rfl, hK _ _ rfl (fun j k _ _ => Reg.Adds.refl _ _ _)⟩
                    · intro val ac u hR hp ha K hK      -- 12: t107 := Op.indexAddr 26 t8 t106
                      have e8 : (ac.tmps[8]?).getD undef = .pointer (some ⟨gm, 0, none⟩) := ha 8 (by decide)
                      obtain ⟨w106, h106, r106⟩ := hp 11 (by decide)
                      have e106 : (ac.tmps[106]?).getD undef = .int .i64 0 := (ha 106 (by decide)).trans h106
                      clear h106
                      clear ha hp
                      refine Reg.Op1.plain rfl ?_
                      go_wp2
                      exact ⟨rfl, hK _ _ rfl (fun j k _ _ => Reg.Adds.refl _ _ _)⟩
                    · intro val ac u hR hp ha K hK      -- 13: t108 := Op.load 3 t107
                      obtain ⟨w107, h107, r107⟩ := hp 12 (by decide)
                      have e107 : (ac.tmps[107]?).getD undef = .pointer (some ⟨gm, 0, none⟩) := (ha 107 (by decide)).trans h107
                      clear h107
                      clear ha hp
                      have z0 := (hR.cell (p := ⟨gm, 0, none⟩) hgm).trans (HCr.out.cell (j := 0) rfl)
                      refine Reg.Op1.plain rfl ?_
                      go_wp2
                      exact ⟨rfl, hK _ _ rfl (fun j k _ _ => Reg.Adds.refl _ _ _)⟩
                    · intro val ac u hR hp ha K hK      -- 14: t109 := Op.binOp BinOp.leq 3 t100 t108 3
                      obtain ⟨w100, h100, r100⟩ := hp 5 (by decide)
                      have e100 : (ac.tmps[100]?).getD undef = .int .i64 x.seq := (ha 100 (by decide)).trans h100
                      clear h100
                      obtain ⟨w108, h108, r108⟩ := hp 13 (by decide)
                      have e108 : (ac.tmps[108]?).getD undef = .int .i64 mk.a := (ha 108 (by decide)).trans h108
                      clear h108
                      clear ha hp
                      refine Reg.Op1.plain rfl ?_
                      go_wp2
                      exact ⟨rfl, hK _ _ rfl (fun j k _ _ => Reg.Adds.refl _ _ _)⟩
                  intro val u hR H
                  obtain ⟨_, hv, _⟩ := H 14 (by decide)
                  have hv : val 14 = .bool (decide (x.seq ≤ mk.a)) := hv
                  have hud : under mk x = decide (x.seq ≤ mk.a) := by unfold under; rw [hxd]; rfl
                  have HBu : Hid (Below w9.heap.size w9 u) := HBr.out.trans (((Below.refl _ wr).drew.trans hR).mono HBr.out.size)
                  simp only [List.map_cons, List.map_nil, Reg.lay, Act.put, List.setIfInBounds_toArray, List.set_cons_succ, List.set_cons_zero, Nat.reduceAdd, hv]
                  clear hR H hv
                  rw [hud] at HST
                  clear hud
                  by_cases hse : x.seq ≤ mk.a
                  · have hsd : decide (x.seq ≤ mk.a) = true := by simpa using hse
                    have HST2 : Hid (((l.take (j + 1)).filter (under mk)).length = n + 1) := by show _ = _; rw [HST.out, hsd]; rfl
                    rw [hsd]
                    go_wp2
                    go_roundw
                    case rel => exact ⟨⟨j + 1, by omega, by rw [HST2.out]; go_num, by go_num, HBu⟩⟩
                    case measure => simp [intOf]; omega
                  · have hsd : decide (x.seq ≤ mk.a) = false := by simpa using hse
                    have HST2 : Hid (((l.take (j + 1)).filter (under mk)).length = n) := by show _ = _; rw [HST.out, hsd]; rfl
                    rw [hsd]
                    go_wp2
                    go_roundw
                    case rel => exact ⟨⟨j + 1, by omega, by rw [HST2.out], by go_num, HBu⟩⟩
                    case measure => simp [intOf]; omega
                ·
                  refine Reg.wp_region_rel (by kernel_rfl) 114 15 rfl rfl (by kernel_rfl) (Reg.Adds) (Reg.Adds.refl) (Reg.Adds.trans)
                    (fun i v u => match i with
                      | 0 => v = .slice (some ⟨b2, o2, none⟩) l.length cl
                      | 1 => v = .int .i64 j
                      | 2 => v = .pointer (some ⟨b2, o2 + j * 20, none⟩)
                      | 3 => v = .pointer (some ⟨b2, o2 + j * 20, none⟩)
                      | 4 => v = .pointer (some ⟨b2, o2 + j * 20 + 2, none⟩)
                      | 5 => v = .int .i64 x.seq
                      | 6 => v = .slice (some ⟨b2, o2, none⟩) l.length cl
                      | 7 => v = .int .i64 j
                      | 8 => v = .pointer (some ⟨b2, o2 + j * 20, none⟩)
                      | 9 => v = .pointer (some ⟨b2, o2 + j * 20, none⟩)
                      | 10 => v = .pointer (some ⟨b2, o2 + j * 20, none⟩)
                      | 11 => v = .int .i64 1
                      | 12 => v = .pointer (some ⟨gm, 1, none⟩)
                      | 13 => v = .int .i64 mk.b
                      | 14 => v = .bool (decide (x.seq ≤ mk.b))
                      | _ => True) ?_ ?_
                  · refine Reg.Steps.cons ?_ (Reg.Steps.cons ?_ (Reg.Steps.cons ?_ (Reg.Steps.cons ?_ (Reg.Steps.cons ?_ (Reg.Steps.cons ?_ (Reg.Steps.cons ?_ (Reg.Steps.cons ?_ (Reg.Steps.cons ?_ (Reg.Steps.cons ?_ (Reg.Steps.cons ?_ (Reg.Steps.cons ?_ (Reg.Steps.cons ?_ (Reg.Steps.cons ?_ (Reg.Steps.cons ?_ (Reg.Steps.nil _)))))))))))))))
                    · intro val ac u hR hp ha K hK      -- 0: t95 := Op.move t14
                      have e14 : (ac.tmps[14]?).getD undef = .slice (some ⟨b2, o2, none⟩) l.length cl := ha 14 (by decide)
                      clear ha hp
                      refine Reg.Op1.plain rfl ?_
                      go_wp2
                      exact ⟨rfl, hK _ _ rfl (fun j k _ _ => Reg.Adds.refl _ _ _)⟩
                    · intro val ac u hR hp ha K hK      -- 1: t96 := Op.move t15
                      have e15 : (ac.tmps[15]?).getD undef = .int .i64 j := ha 15 (by decide)
                      clear ha hp
                      refine Reg.Op1.plain rfl ?_
                      go_wp2
                      exact ⟨rfl, hK _ _ rfl (fun j k _ _ => Reg.Adds.refl _ _ _)⟩
                    · intro val ac u hR hp ha K hK      -- 2: t97 := Op.indexAddr 22 t95 t96
                      obtain ⟨w95, h95, r95⟩ := hp 0 (by decide)
                      have e95 : (ac.tmps[95]?).getD undef = .slice (some ⟨b2, o2, none⟩) l.length cl := (ha 95 (by decide)).trans h95
                      clear h95
                      obtain ⟨w96, h96, r96⟩ := hp 1 (by decide)
                      have e96 : (ac.tmps[96]?).getD undef = .int .i64 j := (ha 96 (by decide)).trans h96
                      clear h96
                      clear ha hp
                      refine Reg.Op1.plain rfl ?_
                      go_wp2
                      exact ⟨rfl, hK _ _ rfl (fun j k _ _ => Reg.Adds.refl _ _ _)⟩
                    · intro val ac u hR hp ha K hK      -- 3: t98 := Op.fieldAddr 40 t97 0
                      obtain ⟨w97, h97, r97⟩ := hp 2 (by decide)
                      have e97 : (ac.tmps[97]?).getD undef = .pointer (some ⟨b2, o2 + j * 20, none⟩) := (ha 97 (by decide)).trans h97
                      clear h97
                      clear ha hp
                      refine Reg.Op1.plain rfl ?_
                      go_wp2
                      exact ⟨rfl, hK _ _ rfl (fun j k _ _ => Reg.Adds.refl _ _ _)⟩
                    · intro val ac u hR hp ha K hK      -- 4: t99 := Op.fieldAddr 34 t98 2
                      obtain ⟨w98, h98, r98⟩ := hp 3 (by decide)
                      have e98 : (ac.tmps[98]?).getD undef = .pointer (some ⟨b2, o2 + j * 20, none⟩) := (ha 98 (by decide)).trans h98
                      clear h98
                      clear ha hp
                      refine Reg.Op1.plain rfl ?_
                      go_wp2
                      exact ⟨rfl, hK _ _ rfl (fun j k _ _ => Reg.Adds.refl _ _ _)⟩
                    · intro val ac u hR hp ha K hK      -- 5: t100 := Op.load 3 t99
                      obtain ⟨w99, h99, r99⟩ := hp 4 (by decide)
                      have e99 : (ac.tmps[99]?).getD undef = .pointer (some ⟨b2, o2 + j * 20 + 2, none⟩) := (ha 99 (by decide)).trans h99
                      clear h99
                      clear ha hp
                      have z2 := (hR.cell (p := ⟨b2, o2 + j * 20 + 2, none⟩) hb2r).trans (HATX.out.c 2 _ rfl)
                      refine Reg.Op1.plain rfl ?_
                      go_wp2
                      exact ⟨rfl, hK _ _ rfl (fun j k _ _ => Reg.Adds.refl _ _ _)⟩
                    · intro val ac u hR hp ha K hK      -- 6: t101 := Op.move t14
                      have e14 : (ac.tmps[14]?).getD undef = .slice (some ⟨b2, o2, none⟩) l.length cl := ha 14 (by decide)
                      clear ha hp
                      refine Reg.Op1.plain rfl ?_
                      go_wp2
                      exact ⟨rfl, hK _ _ rfl (fun j k _ _ => Reg.Adds.refl _ _ _)⟩
                    · intro val ac u hR hp ha K hK      -- 7: t102 := Op.move t15
                      have e15 : (ac.tmps[15]?).getD undef = .int .i64 j := ha 15 (by decide)
                      clear ha hp
                      refine Reg.Op1.plain rfl ?_
                      go_wp2
                      exact ⟨rfl, hK _ _ rfl (fun j k _ _ => Reg.Adds.refl _ _ _)⟩
                    · intro val ac u hR hp ha K hK      -- 8: t103 := Op.indexAddr 22 t101 t102
                      obtain ⟨w101, h101, r101⟩ := hp 6 (by decide)
                      have e101 : (ac.tmps[101]?).getD undef = .slice (some ⟨b2, o2, none⟩) l.length cl := (ha 101 (by decide)).trans h101
                      clear h101
                      obtain ⟨w102, h102, r102⟩ := hp 7 (by decide)
                      have e102 : (ac.tmps[102]?).getD undef = .int .i64 j := (ha 102 (by decide)).trans h102
                      clear h102
                      clear ha hp
                      refine Reg.Op1.plain rfl ?_
                      go_wp2
                      exact ⟨rfl, hK _ _ rfl (fun j k _ _ => Reg.Adds.refl _ _ _)⟩
                    · intro val ac u hR hp ha K hK      -- 9: t104 := Op.fieldAddr 40 t103 0
                      obtain ⟨w103, h103, r103⟩ := hp 8 (by decide)
                      have e103 : (ac.tmps[103]?).getD undef = .pointer (some ⟨b2, o2 + j * 20, none⟩) := (ha 103 (by decide)).trans h103
                      clear h103
                      clear ha hp
                      refine Reg.Op1.plain rfl ?_
                      go_wp2
                      exact ⟨rfl, hK _ _ rfl (fun j k _ _ => Reg.Adds.refl _ _ _)⟩
                    · intro val ac u hR hp ha K hK      -- 10: t105 := Op.fieldAddr 34 t104 0
                      obtain ⟨w104, h104, r104⟩ := hp 9 (by decide)
                      have e104 : (ac.tmps[104]?).getD undef = .pointer (some ⟨b2, o2 + j * 20, none⟩) := (ha 104 (by decide)).trans h104
                      clear h104
                      clear ha hp
                      refine Reg.Op1.plain rfl ?_
                      go_wp2
                      exact ⟨rfl, hK _ _ rfl (fun j k _ _ => Reg.Adds.refl _ _ _)⟩
                    · intro val ac u hR hp ha K hK      -- 11: t106 := Op.load 3 t105
                      obtain ⟨w105, h105, r105⟩ := hp 10 (by decide)
                      have e105 : (ac.tmps[105]?).getD undef = .pointer (some ⟨b2, o2 + j * 20, none⟩) := (ha 105 (by decide)).trans h105
                      clear h105
                      clear ha hp
                      have z0 := (hR.cell (p := ⟨b2, o2 + j * 20, none⟩) hb2r).trans (HATX.out.c 0 _ rfl)
                      rw [hxd] at z0
                      refine Reg.Op1.plain rfl ?_
                      go_wp2
                      exact ⟨rfl, hK _ _ rfl (fun j k _ _ => Reg.Adds.refl _ _ _)⟩
                    · intro val ac u hR hp ha K hK      -- 12: t107 := Op.indexAddr 26 t8 t106
                      have e8 : (ac.tmps[8]?).getD undef = .pointer (some ⟨gm, 0, none⟩) := ha 8 (by decide)
                      obtain ⟨w106, h106, r106⟩ := hp 11 (by decide)
                      have e106 : (ac.tmps[106]?).getD undef = .int .i64 1 := (ha 106 (by decide)).trans h106
                      clear h106
                      clear ha hp
                      refine Reg.Op1.plain rfl ?_
                      go_wp2
                      exact ⟨rfl, hK _ _ rfl (fun j k _ _ => Reg.Adds.refl _ _ _)⟩
                    · intro val ac u hR hp ha K hK      -- 13: t108 := Op.load 3 t107
                      obtain ⟨w107, h107, r107⟩ := hp 12 (by decide)
                      have e107 : (ac.tmps[107]?).getD undef = .pointer (some ⟨gm, 1, none⟩) := (ha 107 (by decide)).trans h107
                      clear h107
                      clear ha hp
                      have z0 := (hR.cell (p := ⟨gm, 1, none⟩) hgm).trans (HCr.out.cell (j := 1) rfl)
                      refine Reg.Op1.plain rfl ?_
                      go_wp2
                      exact ⟨rfl, hK _ _ rfl (fun j k _ _ => Reg.Adds.refl _ _ _)⟩
                    · intro val ac u hR hp ha K hK      -- 14: t109 := Op.binOp BinOp.leq 3 t100 t108 3
                      obtain ⟨w100, h100, r100⟩ := hp 5 (by decide)
                      have e100 : (ac.tmps[100]?).getD undef = .int .i64 x.seq := (ha 100 (by decide)).trans h100
                      clear h100
                      obtain ⟨w108, h108, r108⟩ := hp 13 (by decide)
                      have e108 : (ac.tmps[108]?).getD undef = .int .i64 mk.b := (ha 108 (by decide)).trans h108
                      clear h108
                      clear ha hp
                      refine Reg.Op1.plain rfl ?_
                      go_wp2
                      exact ⟨rfl, hK _ _ rfl (fun j k _ _ => Reg.Adds.refl _ _ _)⟩
                  intro val u hR H
                  obtain ⟨_, hv, _⟩ := H 14 (by decide)
                  have hv : val 14 = .bool (decide (x.seq ≤ mk.b)) := hv
                  have hud : under mk x = decide (x.seq ≤ mk.b) := by unfold under; rw [hxd]; rfl
                  have HBu : Hid (Below w9.heap.size w9 u) := HBr.out.trans (((Below.refl _ wr).drew.trans hR).mono HBr.out.size)
                  simp only [List.map_cons, List.map_nil, Reg.lay, Act.put, List.setIfInBounds_toArray, List.set_cons_succ, List.set_cons_zero, Nat.reduceAdd, hv]
                  clear hR H hv
                  rw [hud] at HST
                  clear hud
                  by_cases hse : x.seq ≤ mk.b
                  · have hsd : decide (x.seq ≤ mk.b) = true := by simpa using hse
                    have HST2 : Hid (((l.take (j + 1)).filter (under mk)).length = n + 1) := by show _ = _; rw [HST.out, hsd]; rfl
                    rw [hsd]
                    go_wp2
                    go_roundw
                    case rel => exact ⟨⟨j + 1, by omega, by rw [HST2.out]; go_num, by go_num, HBu⟩⟩
                    case measure => simp [intOf]; omega
                  · have hsd : decide (x.seq ≤ mk.b) = false := by simpa using hse
                    have HST2 : Hid (((l.take (j + 1)).filter (under mk)).length = n) := by show _ = _; rw [HST.out, hsd]; rfl
                    rw [hsd]
                    go_wp2
                    go_roundw
                    case rel => exact ⟨⟨j + 1, by omega, by rw [HST2.out], by go_num, HBu⟩⟩
                    case measure => simp [intOf]; omega
                ·
                  refine Reg.wp_region_rel (by kernel_rfl) 114 15 rfl rfl (by kernel_rfl) (Reg.Adds) (Reg.Adds.refl) (Reg.Adds.trans)
                    (fun i v u => match i with
                      | 0 => v = .slice (some ⟨b2, o2, none⟩) l.length cl
                      | 1 => v = .int .i64 j
                      | 2 => v = .pointer (some ⟨b2, o2 + j * 20, none⟩)
                      | 3 => v = .pointer (some ⟨b2, o2 + j * 20, none⟩)
                      | 4 => v = .pointer (some ⟨b2, o2 + j * 20 + 2, none⟩)
                      | 5 => v = .int .i64 x.seq
                      | 6 => v = .slice (some ⟨b2, o2, none⟩) l.length cl
                      | 7 => v = .int .i64 j
                      | 8 => v = .pointer (some ⟨b2, o2 + j * 20, none⟩)
                      | 9 => v = .pointer (some ⟨b2, o2 + j * 20, none⟩)
                      | 10 => v = .pointer (some ⟨b2, o2 + j * 20, none⟩)
                      | 11 => v = .int .i64 2
                      | 12 => v = .pointer (some ⟨gm, 2, none⟩)
                      | 13 => v = .int .i64 mk.c
                      | 14 => v = .bool (decide (x.seq ≤ mk.c))
                      | _ => True) ?_ ?_
                  · refine Reg.Steps.cons ?_ (Reg.Steps.cons ?_ (Reg.Steps.cons ?_ (Reg.Steps.cons ?_ (Reg.Steps.cons ?_ (Reg.Steps.cons ?_ (Reg.Steps.cons ?_ (Reg.Steps.cons ?_ (Reg.Steps.cons ?_ (Reg.Steps.cons ?_ (Reg.Steps.cons ?_ (Reg.Steps.cons ?_ (Reg.Steps.cons ?_ (Reg.Steps.cons ?_ (Reg.Steps.cons ?_ (Reg.Steps.nil _)))))))))))))))
                    · intro val ac u hR hp ha K hK      -- 0: t95 := Op.move t14
                      have e14 : (ac.tmps[14]?).getD undef = .slice (some ⟨b2, o2, none⟩) l.length cl := ha 14 (by decide)
                      clear ha hp
                      refine Reg.Op1.plain rfl ?_
                      go_wp2
                      exact ⟨rfl, hK _ _ rfl (fun j k _ _ => Reg.Adds.refl _ _ _)⟩
                    · intro val ac u hR hp ha K hK      -- 1: t96 := Op.move t15
                      have e15 : (ac.tmps[15]?).getD undef = .int .i64 j := ha 15 (by decide)
                      clear ha hp
                      refine Reg.Op1.plain rfl ?_
                      go_wp2
                      exact ⟨rfl, hK _ _ rfl (fun j k _ _ => Reg.Adds.refl _ _ _)⟩
                    · intro val ac u hR hp ha K hK      -- 2: t97 := Op.indexAddr 22 t95 t96
                      obtain ⟨w95, h95, r95⟩ := hp 0 (by decide)
                      have e95 : (ac.tmps[95]?).getD undef = .slice (some ⟨b2, o2, none⟩) l.length cl := (ha 95 (by decide)).trans h95
                      clear h95
                      obtain ⟨w96, h96, r96⟩ := hp 1 (by decide)
                      have e96 : (ac.tmps[96]?).getD undef = .int .i64 j := (ha 96 (by decide)).trans h96
                      clear h96
                      clear ha hp
                      refine Reg.Op1.plain rfl ?_
                      go_wp2
                      exact ⟨rfl, hK _ _ rfl (fun j k _ _ => Reg.Adds.refl _ _ _)⟩
                    · intro val ac u hR hp ha K hK      -- 3: t98 := Op.fieldAddr 40 t97 0
                      obtain ⟨w97, h97, r97⟩ := hp 2 (by decide)
                      have e97 : (ac.tmps[97]?).getD undef = .pointer (some ⟨b2, o2 + j * 20, none⟩) := (ha 97 (by decide)).trans h97
                      clear h97
                      clear ha hp
                      refine Reg.Op1.plain rfl ?_
                      go_wp2
                      exact ⟨rfl, hK _ _ rfl (fun j k _ _ => Reg.Adds.refl _ _ _)⟩
                    · intro val ac u hR hp ha K hK      -- 4: t99 := Op.fieldAddr 34 t98 2
                      obtain ⟨w98, h98, r98⟩ := hp 3 (by decide)
                      have e98 : (ac.tmps[98]?).getD undef = .pointer (some ⟨b2, o2 + j * 20, none⟩) := (ha 98 (by decide)).trans h98
                      clear h98
                      clear ha hp
                      refine Reg.Op1.plain rfl ?_
                      go_wp2
                      exact ⟨rfl, hK _ _ rfl (fun j k _ _ => Reg.Adds.refl _ _ _)⟩
                    · intro val ac u hR hp ha K hK      -- 5: t100 := Op.load 3 t99
                      obtain ⟨w99, h99, r99⟩ := hp 4 (by decide)
                      have e99 : (ac.tmps[99]?).getD undef = .pointer (some ⟨b2, o2 + j * 20 + 2, none⟩) := (ha 99 (by decide)).trans h99
                      clear h99
                      clear ha hp
                      have z2 := (hR.cell (p := ⟨b2, o2 + j * 20 + 2, none⟩) hb2r).trans (HATX.out.c 2 _ rfl)
                      refine Reg.Op1.plain rfl ?_
                      go_wp2
                      exact ⟨rfl, hK _ _ rfl (fun j k _ _ => Reg.Adds.refl _ _ _)⟩
                    · intro val ac u hR hp ha K hK      -- 6: t101 := Op.move t14
                      have e14 : (ac.tmps[14]?).getD undef = .slice (some ⟨b2, o2, none⟩) l.length cl := ha 14 (by decide)
                      clear ha hp
                      refine Reg.Op1.plain rfl ?_
                      go_wp2
                      exact ⟨rfl, hK _ _ rfl (fun j k _ _ => Reg.Adds.refl _ _ _)⟩
                    · intro val ac u hR hp ha K hK      -- 7: t102 := Op.move t15
                      have e15 : (ac.tmps[15]?).getD undef = .int .i64 j := ha 15 (by decide)
                      clear ha hp
                      refine Reg.Op1.plain rfl ?_
                      go_wp2
                      exact ⟨rfl, hK _ _ rfl (fun j k _ _ => Reg.Adds.refl _ _ _)⟩
                    · intro val ac u hR hp ha K hK      -- 8: t103 := Op.indexAddr 22 t101 t102
                      obtain ⟨w101, h101, r101⟩ := hp 6 (by decide)
                      have e101 : (ac.tmps[101]?).getD undef = .slice (some ⟨b2, o2, none⟩) l.length cl := (ha 101 (by decide)).trans h101
                      clear h101
                      obtain ⟨w102, h102, r102⟩ := hp 7 (by decide)
                      have e102 : (ac.tmps[102]?).getD undef = .int .i64 j := (ha 102 (by decide)).trans h102
                      clear h102
                      clear ha hp
                      refine Reg.Op1.plain rfl ?_
                      go_wp2
                      exact ⟨rfl, hK _ _ rfl (fun j k _ _ => Reg.Adds.refl _ _ _)⟩
                    · intro val ac u hR hp ha K hK      -- 9: t104 := Op.fieldAddr 40 t103 0
                      obtain ⟨w103, h103, r103⟩ := hp 8 (by decide)
                      have e103 : (ac.tmps[103]?).getD undef = .pointer (some ⟨b2, o2 + j * 20, none⟩) := (ha 103 (by decide)).trans h103
                      clear h103
                      clear ha hp
                      refine Reg.Op1.plain rfl ?_
                      go_wp2
                      exact ⟨rfl, hK _ _ rfl (fun j k _ _ => Reg.Adds.refl _ _ _)⟩
                    · intro val ac u hR hp ha K hK      -- 10: t105 := Op.fieldAddr 34 t104 0
                      obtain ⟨w104, h104, r104⟩ := hp 9 (by decide)
                      have e104 : (ac.tmps[104]?).getD undef = .pointer (some ⟨b2, o2 + j * 20, none⟩) := (ha 104 (by decide)).trans h104
                      clear h104
                      clear ha hp
                      refine Reg.Op1.plain rfl ?_
                      go_wp2
                      exact ⟨rfl, hK _ _ rfl (fun j k _ _ => Reg.Adds.refl _ _ _)⟩
                    · intro val ac u hR hp ha K hK      -- 11: t106 := Op.load 3 t105
                      obtain ⟨w105, h105, r105⟩ := hp 10 (by decide)
                      have e105 : (ac.tmps[105]?).getD undef = .pointer (some ⟨b2, o2 + j * 20, none⟩) := (ha 105 (by decide)).trans h105
                      clear h105
                      clear ha hp
                      have z0 := (hR.cell (p := ⟨b2, o2 + j * 20, none⟩) hb2r).trans (HATX.out.c 0 _ rfl)
                      rw [hxd] at z0
                      refine Reg.Op1.plain rfl ?_
                      go_wp2
                      exact ⟨rfl, hK _ _ rfl (fun j k _ _ => Reg.Adds.refl _ _ _)⟩
                    · intro val ac u hR hp ha K hK      -- 12: t107 := Op.indexAddr 26 t8 t106
                      have e8 : (ac.tmps[8]?).getD undef = .pointer (some ⟨gm, 0, none⟩) := ha 8 (by decide)
                      obtain ⟨w106, h106, r106⟩ := hp 11 (by decide)
                      have e106 : (ac.tmps[106]?).getD undef = .int .i64 2 := (ha 106 (by decide)).trans h106
                      clear h106
                      clear ha hp
                      refine Reg.Op1.plain rfl ?_
                      go_wp2
                      exact ⟨rfl, hK _ _ rfl (fun j k _ _ => Reg.Adds.refl _ _ _)⟩
                    · intro val ac u hR hp ha K hK      -- 13: t108 := Op.load 3 t107
                      obtain ⟨w107, h107, r107⟩ := hp 12 (by decide)
                      have e107 : (ac.tmps[107]?).getD undef = .pointer (some ⟨gm, 2, none⟩) := (ha 107 (by decide)).trans h107
                      clear h107
                      clear ha hp
                      have z0 := (hR.cell (p := ⟨gm, 2, none⟩) hgm).trans (HCr.out.cell (j := 2) rfl)
                      refine Reg.Op1.plain rfl ?_
                      go_wp2
                      exact ⟨rfl, hK _ _ rfl (fun j k _ _ => Reg.Adds.refl _ _ _)⟩
                    · intro val ac u hR hp ha K hK      -- 14: t109 := Op.binOp BinOp.leq 3 t100 t108 3
                      obtain ⟨w100, h100, r100⟩ := hp 5 (by decide)
                      have e100 : (ac.tmps[100]?).getD undef = .int .i64 x.seq := (ha 100 (by decide)).trans h100
                      clear h100
                      obtain ⟨w108, h108, r108⟩ := hp 13 (by decide)
                      have e108 : (ac.tmps[108]?).getD undef = .int .i64 mk.c := (ha 108 (by decide)).trans h108
                      clear h108
                      clear ha hp
                      refine Reg.Op1.plain rfl ?_
                      go_wp2
                      exact ⟨rfl, hK _ _ rfl (fun j k _ _ => Reg.Adds.refl _ _ _)⟩
                  intro val u hR H
                  obtain ⟨_, hv, _⟩ := H 14 (by decide)
                  have hv : val 14 = .bool (decide (x.seq ≤ mk.c)) := hv
                  have hud : under mk x = decide (x.seq ≤ mk.c) := by unfold under; rw [hxd]; rfl
                  have HBu : Hid (Below w9.heap.size w9 u) := HBr.out.trans (((Below.refl _ wr).drew.trans hR).mono HBr.out.size)
                  simp only [List.map_cons, List.map_nil, Reg.lay, Act.put, List.setIfInBounds_toArray, List.set_cons_succ, List.set_cons_zero, Nat.reduceAdd, hv]
                  clear hR H hv
                  rw [hud] at HST
                  clear hud
                  by_cases hse : x.seq ≤ mk.c
                  · have hsd : decide (x.seq ≤ mk.c) = true := by simpa using hse
                    have HST2 : Hid (((l.take (j + 1)).filter (under mk)).length = n + 1) := by show _ = _; rw [HST.out, hsd]; rfl
                    rw [hsd]
                    go_wp2
                    go_roundw
                    case rel => exact ⟨⟨j + 1, by omega, by rw [HST2.out]; go_num, by go_num, HBu⟩⟩
                    case measure => simp [intOf]; omega
                  · have hsd : decide (x.seq ≤ mk.c) = false := by simpa using hse
                    have HST2 : Hid (((l.take (j + 1)).filter (under mk)).length = n) := by show _ = _; rw [HST.out, hsd]; rfl
                    rw [hsd]
                    go_wp2
                    go_roundw
                    case rel => exact ⟨⟨j + 1, by omega, by rw [HST2.out], by go_num, HBu⟩⟩
                    case measure => simp [intOf]; omega
              · obtain rfl : j = l.length := by omega
                rw [List.take_length] at hn ⊢
                rw [hn]
                have hn1 : n ≤ 1 := by rw [← hn]; exact HFEW.out
                have d1 : decide ((1 : Int) < (n : Int)) = false := by simp; omega
                clear hn
                go_wp2
                go_roundw
                case rel => exact ⟨⟨jk + 1, by omega, by go_num, HB9.out.trans (HBr.out.mono HB9.out.size)⟩⟩
                case measure => simp [intOf]; omega
          · obtain rfl : jk = ks.length := by omega
            go_wp2
            go_ret
            exact ⟨rfl, HB8.out.trans (HBr.out.mono HB8.out.size)⟩
  · have d50 : decide ((50 : Int) < (cs.length : Int)) = true := by simp; omega
    go_wp2
    go_ret
    exact ⟨rfl, HB2.out⟩
set_option maxRecDepth 20000 in
theorem opened {H : Type} (enc : TypeId × Value → H) (W : World) (base : Nat) (v0 v1 v2 : Value) {d0 d1 d2 : DataW H} {p0 p1 p2 : List MemPlace}
    (o0 : Value.okWide Try.prog W .any base 3 v0) (o1 : Value.okWide Try.prog W .any base 22 v1) (o2 : Value.okWide Try.prog W .any base 61 v2)
    (k0 : DataW.Trod enc Try.prog W 0 (fun _ => true) true 3 v0 d0 p0) (k1 : DataW.Trod enc Try.prog W 0 (fun _ => true) true 22 v1 d1 p1) (k2 : DataW.Trod enc Try.prog W 0 (fun _ => true) true 61 v2 d2 p2)
    (z0 : (d0.weights Try.prog 3).all (· ≤ reachBytes) = true) (z1 : (d1.weights Try.prog 22).all (· ≤ reachBytes) = true) (z2 : (d2.weights Try.prog 61).all (· ≤ reachBytes) = true) :
    Calls Try.prog 8 #[v0, v1, v2] W fun e w' => e = .returned (.bool true) ∧ Below W.heap.size W w' := by
  obtain ⟨n, rfl, _⟩ := open_num o0 k0
  obtain ⟨A, c, es, rfl, h1, h2, h3, h4⟩ := open_ents o1 k1 z1
  obtain ⟨Aq, cc, cs, rfl, q1, q2, q3⟩ := open_cols o2 k2 z2
  exact walk n A c es Aq cc cs W h3 h1 h2 h4 q3 q1 q2
end storeMarksOpen
end Go.Proofs.Ytfafehffnjbhnaa
