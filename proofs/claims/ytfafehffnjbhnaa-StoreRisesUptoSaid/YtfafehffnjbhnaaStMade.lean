/- A store behind a script; acts opened; the document's own covering of columns. -/
import Derived.Test.YtfafehffnjbhnaaStoreR
set_option maxRecDepth 8000
namespace Go.Proofs.Ytfafehffnjbhnaa
open Go.ChangeShapes Go.WideShapes Go.ChangeAt Go.RowKit
set_option linter.unusedVariables false
set_option linter.unusedSimpArgs false
namespace Sto
open Vec
def actS (rng : Int) (p : List Ls × Col) (a : Ac) : List Ls × Col := if a.kind = 1 then ((putL rng p.2 p.1 a.es).1, p.2) else if a.kind = 2 then (collectS (maxC p.2 a.col) p.1, maxC p.2 a.col) else p
def play (rng : Int) (acs : List Ac) : List Ls × Col := acs.foldl (actS rng) ([], col0)
theorem play_snoc (rng : Int) (acs : List Ac) (a : Ac) : play rng (acs ++ [a]) = actS rng (play rng acs) a := by unfold play; rw [List.foldl_append]; rfl
structure MdRel (w : World) (g b : Nat) (rng : Int) (acs : List Ac) (v6 : Value) (wr : World) : Prop where
  out : ∃ (k : Nat) (mk : Col) (rs : List LR), k ≤ acs.length ∧ v6 = .int .i64 k ∧ lenS (states rs) ≤ lenA (acs.take k) ∧ Hid (play rng (acs.take k) = (states rs, mk)) ∧ Hid (Mine w.heap.size wr g b rng mk rs) ∧ Hid (Below w.heap.size w wr)
theorem lenA_take (acs : List Ac) (k : Nat) : lenA (acs.take k) ≤ lenA acs := by
  have h : ∀ a b : List Ac, lenA (a ++ b) = lenA a + lenA b := fun a b => by simp [lenA]
  have h2 := h (acs.take k) (acs.drop k)
  rw [List.take_append_drop] at h2
  omega
end Sto
open Vec Sto in
set_option maxRecDepth 20000 in
set_option maxHeartbeats 8000000 in
theorem made_any (rng : Int) (A : Option Addr) (c : Nat) (acs : List Vec.Ac) (w : World) (hr : Mem.Rd w w.heap.size A (acs.flatMap Vec.acCells)) (hd : ∀ a ∈ acs, Vec.AcOk w w.heap.size a) (hm : Vec.lenA acs + acs.length ≤ 300) :
    Calls Try.prog 19 #[.int .i64 rng, .slice A acs.length c] w fun x w' =>
      ∃ g b mk rs, x = .returned (.pointer (some ⟨g, 0, none⟩)) ∧ Sto.play rng acs = (Sto.states rs, mk) ∧ Sto.lenS (Sto.states rs) ≤ 300 ∧ Sto.Mine w.heap.size w' g b rng mk rs ∧ Below w.heap.size w w' := by
  have HR := Lib.hid hr
  have HD := Lib.hid hd
  clear hr hd
  go_enter Try.func19, Try.ntmps19
  go_upto_region 2 with (go_at_call 11; refine (storeNew_any rng w).mono ?_; rintro x w3 ⟨g, b, rfl, hA3, hb3, hg1, hg2⟩)
  have HM3 := Lib.hid (new_mine hA3 hg1 hg2)
  have HB3 := Lib.hid hb3
  clear hA3 hb3 hg1 hg2
  go_wp2
  go_loopw [6] (MdRel w g b rng acs) (fun t _ => acs.length - (intOf t).toNat)
  case atStart => exact ⟨⟨0, col0, [], by omega, rfl, by simp [lenS, states], rfl, HM3, HB3⟩⟩
  case round =>
    obtain ⟨k, mk, rs, hk, rfl, hln, HP, HM, HB⟩ := hrel.out
    clear hrel HM3 HB3
    have hz := HB.out.size
    have hlk := lenA_take acs k
    by_cases hlt : k < acs.length
    · obtain ⟨bq, o, rfl, hb, hc⟩ := Mem.Rd.elem acCells_length HR.out hlt (by omega)
      obtain ⟨a, ha⟩ : ∃ a, acs[k] = a := ⟨_, rfl⟩
      have hpk : acs[k]? = some a := by rw [← ha]; exact List.getElem?_eq_getElem hlt
      rw [ha] at hc
      have HAI := Lib.hid (HD.out a (List.mem_of_getElem? hpk))
      have HTS := Lib.hid (show lenA (acs.take (k + 1)) = lenA (acs.take k) + a.es.length by rw [Mem.take_snoc hpk, lenA_snoc])
      have HPS := Lib.hid (show play rng (acs.take (k + 1)) = actS rng (states rs, mk) a by rw [Mem.take_snoc hpk, play_snoc, HP.out])
      have hlk1 := lenA_take acs (k + 1)
      have q0 : wr.cell? ⟨bq, o + k * 5, none⟩ = some (.int .i64 a.kind) := (HB.out.cell (p := ⟨bq, o + k * 5, none⟩) hb).trans (by simpa [Nat.add_assoc] using hc 0 _ rfl)
      have q1 : wr.cell? ⟨bq, o + k * 5 + 1, none⟩ = some (.slice a.L a.es.length a.lc) := (HB.out.cell (p := ⟨bq, o + k * 5 + 1, none⟩) hb).trans (by simpa [Nat.add_assoc] using hc 1 _ rfl)
      have HQ2 : Hid (∀ j u, (colCells a.col)[j]? = some u → wr.cell? ⟨bq, o + k * 5 + 2 + j, none⟩ = some u) := fun j u hu => (HB.out.cell (p := ⟨bq, o + k * 5 + 2 + j, none⟩) hb).trans (by
        have h9 := hc (2 + j) u (by show (acCells a)[2 + j]? = some u; unfold acCells; rw [List.getElem?_append_right (by simp)]; simpa using hu)
        simpa [Nat.add_assoc] using h9)
      have hbw := Nat.lt_of_lt_of_le hb hz
      clear hc ha hpk
      by_cases h1 : a.kind = 1
      · have HPS1 : Hid (play rng (acs.take (k + 1)) = ((putL rng mk (states rs) a.es).1, mk)) := by show _ = _; rw [HPS.out]; unfold actS; rw [if_pos h1]
        rw [h1] at q0
        have hol := ents_len a.es
        have hoo := ents_one a.es
        have hel : a.es.length ≤ 300 := by have := HTS.out; omega
        have hac1 := HAI.out.len
        have hac2 := HAI.out.cap
        have hrd3 := ((HAI.out.rd.below HB.out).more hz).alloc (Nat.le_refl _) (.cells #[] 40)
        have q1' := ((Reg.below_new wr (.cells #[] 40)).cell (p := ⟨bq, o + k * 5 + 1, none⟩) hbw).trans q1
        clear HQ2 HPS h1
        go_upto_region 7 with (first | (at_builtin; refine Mem.wpList_app0 _ rfl (.tmp 22) (.tmp 27) _ rfl entries_elem (some ⟨wr.heap.size, 0, none⟩) rfl wr.heap.size a.L a.es.length a.lc (a.es.flatMap entCells) rfl ?_ (Mem.Own.lit wr _ 20 #[] 0 rfl rfl (by simp [maxLen])) hrd3 hol hoo (by unfold maxLen; omega) (by omega); intro A1 c1 w4 hown hb4 hat4; have HO4 := Lib.hid hown; have HB4 : Hid (Below wr.heap.size wr w4) := (Reg.below_new _ _).trans (hb4.mono (by simp)); have HF4 : Hid (Mem.From wr.heap.size A1) := hat4.elim (fun h => by rw [h]; exact Mem.From.some_ (Nat.le_refl _)) (fun h => by rw [h]; exact Mem.From.some_ (by simp)); have q0' := (HB4.out.cell (p := ⟨bq, o + k * 5, none⟩) hbw).trans q0; clear hown hb4 hat4 hrd3) | (go_at_call 12; refine (storePut_any rng g b mk rs A1 c1 a.es w4 (HM.out.S.below HB4.out) HM.out.G HO4.out (fun q hq h => by have h1 := HF4.out.blk q hq; have h2 := HM.out.S.lt h; omega) (by omega)).mono ?_; rintro x w5 ⟨rs5, rfl, h5⟩))
        have HM5 : Hid (Mine w.heap.size w5 g b rng mk rs5) := by
          obtain ⟨_, h2, h3, h4, h6⟩ := h5
          exact ⟨h2, h3, fun k hk => (h6 k hk).elim (HM.out.a k) (fun h => Nat.le_trans hz (Nat.le_trans HB4.out.size h))⟩
        have HB5 : Hid (Below w.heap.size w w5) := (HB.out.trans (HB4.out.mono hz)).trans (h5.2.2.2.1.below HM.out.a (Nat.le_trans hz HB4.out.size))
        have q5 : w5.cell? ⟨bq, o + k * 5, none⟩ = some (.int .i64 1) := (h5.2.2.2.1.cell (p := ⟨bq, o + k * 5, none⟩) (Nat.lt_of_lt_of_le hbw HB4.out.size) (fun h => by have := HM.out.a bq h; omega)).trans q0'
        have hl5 : lenS (states rs5) ≤ lenA (acs.take (k + 1)) := by
          rw [h5.1, HTS.out]
          have h9 := put_le rng mk (states rs) a.es
          omega
        have HP5 : Hid (play rng (acs.take (k + 1)) = (states rs5, mk)) := by show _ = _; rw [HPS1.out, h5.1]
        clear h5 HO4 HB4 HF4 hol hoo q0 q1 q1' q0' HPS1
        go_wp2
        go_roundw
        case rel => exact ⟨⟨k + 1, mk, rs5, by omega, by go_num, hl5, HP5, HM5, HB5⟩⟩
        case measure => simp [intOf]; omega
      · by_cases h2 : a.kind = 2
        · have HPS1 : Hid (play rng (acs.take (k + 1)) = (collectS (maxC mk a.col) (states rs), maxC mk a.col)) := by show _ = _; rw [HPS.out]; unfold actS; rw [if_neg h1, if_pos h2]
          rw [h2] at q0
          have HCO := Lib.hid (storeCollect_any HM.out.S HM.out.G (by omega) a.col)
          clear HPS h1 h2 q1
          go_wp2_with (first | ((with_reducible refine Mem.load_agg _ _ col_agg bq (o + k * 5 + 2) (colCells a.col) ?hx (colCells_length _) HQ2.out ?_); case hx => exact rfl) | (go_at_call 20; refine HCO.out.mono ?_; rintro x w5 ⟨rs5, rfl, hs1, hS5, hk5, hq5⟩))
          have HM5 : Hid (Mine w.heap.size w5 g b rng (maxC mk a.col) rs5) := ⟨hS5, by rw [hs1]; exact HM.out.G.collect _, fun q hq => (hq5 q hq).elim (HM.out.a q) (fun h => Nat.le_trans hz h)⟩
          have HB5 : Hid (Below w.heap.size w w5) := HB.out.trans (hk5.below HM.out.a hz)
          have hl5 : lenS (states rs5) ≤ lenA (acs.take (k + 1)) := by
            rw [hs1, HTS.out]
            have h9 := collect_len (maxC mk a.col) (states rs)
            omega
          have HP5 : Hid (play rng (acs.take (k + 1)) = (states rs5, maxC mk a.col)) := by show _ = _; rw [HPS1.out, hs1]
          clear hS5 hs1 hk5 hq5 HCO HPS1 q0 HQ2
          go_roundw
          case rel => exact ⟨⟨k + 1, maxC mk a.col, rs5, by omega, by go_num, hl5, HP5, HM5, HB5⟩⟩
          case measure => simp [intOf]; omega
        · have HPS1 : Hid (play rng (acs.take (k + 1)) = (states rs, mk)) := by show _ = _; rw [HPS.out]; unfold actS; rw [if_neg h1, if_neg h2]
          have d1 : decide (a.kind = 1) = false := by simpa using h1
          have d2 : decide (a.kind = 2) = false := by simpa using h2
          have b1 : (a.kind == 1) = false := by simpa using h1
          have b2 : (a.kind == 2) = false := by simpa using h2
          have hl5 : lenS (states rs) ≤ lenA (acs.take (k + 1)) := by rw [HTS.out]; omega
          clear HPS HQ2 q1
          go_wp2
          go_roundw
          case rel => exact ⟨⟨k + 1, mk, rs, by omega, by go_num, hl5, HPS1, HM, HB⟩⟩
          case measure => simp [intOf]; omega
    · obtain rfl : k = acs.length := by omega
      rw [List.take_length] at hln HP
      go_wp2
      go_ret
      exact ⟨g, b, mk, rs, rfl, HP.out, by omega, HM.out, HB.out⟩
open Vec Sto in
set_option maxHeartbeats 2000000 in
theorem refCoversC_any (x y : Vec.Col) (w : World) :
    Calls Try.prog 23 #[Vec.C x, Vec.C y] w fun e w' => e = .returned (.bool (Vec.coversC x y)) ∧ Below w.heap.size w w' := by
  go_enter Try.func23, Try.ntmps23
  go_upto_region 1 with fail
  refine Reg.wp_gen (fun w0 => CBx w0 w.heap.size x ∧ CBx w0 (w.heap.size + 1) y ∧ Below w.heap.size w w0) ⟨?_, ?_, ?_⟩ ?_
  · exact (Mem.Bx.new w 26 (colCells x).toArray rfl rfl).below (Reg.below_new _ _) (by simp)
  · exact Mem.Bx.new (w.alloc _) 26 (colCells y).toArray rfl (by simp)
  · exact (Reg.below_new _ _).alloc (by simp) _
  rintro w0 ⟨H1, H2, HB⟩
  have x0 := H1.cell (j := 0) rfl
  have x1 := H1.cell (j := 1) rfl
  have x2 := H1.cell (j := 2) rfl
  have y0 := H2.cell (j := 0) rfl
  have y1 := H2.cell (j := 1) rfl
  have y2 := H2.cell (j := 2) rfl
  have HB := Lib.hid HB
  clear H1 H2
  have hcv : Vec.coversC x y = (decide (y.a ≤ x.a) && (decide (y.b ≤ x.b) && decide (y.c ≤ x.c))) := by unfold Vec.coversC; simp [Bool.and_assoc]
  cases da : decide (y.a ≤ x.a) with
  | false =>
    go_wp2
    go_ret
    exact ⟨by rw [hcv, da]; rfl, HB.out⟩
  | true =>
    cases db : decide (y.b ≤ x.b) with
    | false =>
      go_wp2
      go_ret
      exact ⟨by rw [hcv, da, db]; rfl, HB.out⟩
    | true =>
      cases dc : decide (y.c ≤ x.c) with
      | false =>
        go_wp2
        go_ret
        exact ⟨by rw [hcv, da, db, dc]; rfl, HB.out⟩
      | true =>
        go_wp2
        go_ret
        exact ⟨by rw [hcv, da, db, dc]; rfl, HB.out⟩
section
variable {H : Type} {enc : TypeId × Value → H} {W : World}
open Vec
set_option maxRecDepth 20000 in
theorem dec_act {n : Nat} {cs : List Value} {x : DataW H × List MemPlace} (h : DataW.trod enc Try.prog W 0 (fun _ => true) true n 28 cs = some x) (hl : cs.length = 5) (hz : Mem.Sz Try.prog 28 x.1) : ∃ a : Vec.Ac, cs = Vec.acCells a ∧ AcOk W W.heap.size a := by
  obtain ⟨m0, y0, e0, _⟩ := Mem.field1_sz Try.underlying28 h hz 0 _ rfl
  obtain ⟨m1, y1, e1, z1⟩ := Mem.field1_sz Try.underlying28 h hz 1 _ rfl
  obtain ⟨m2, y2, e2, _⟩ := Mem.field1_sz Try.underlying28 h hz 2 _ rfl
  have k1 : Try.prog.cellsOf 3 = 1 := by kernel_rfl
  have k2 : Try.prog.cellsOf 22 = 1 := by kernel_rfl
  have k3 : Try.prog.cellsOf 26 = 3 := by kernel_rfl
  have kb : Try.prog.bytesOf 40 = 176 := by kernel_rfl
  change DataW.trod enc Try.prog W 0 (fun _ => true) true m0 3 ((cs.drop 0).take (Try.prog.cellsOf 3)) = some y0 at e0
  change DataW.trod enc Try.prog W 0 (fun _ => true) true m1 22 ((cs.drop 1).take (Try.prog.cellsOf 22)) = some y1 at e1
  change DataW.trod enc Try.prog W 0 (fun _ => true) true m2 26 ((cs.drop 2).take (Try.prog.cellsOf 26)) = some y2 at e2
  rw [k1] at e0
  rw [k2] at e1
  rw [k3] at e2
  obtain ⟨a0, q0, _⟩ := DataW.trod_int Try.underlying3 e0
  obtain ⟨A, c, l, q1, d1, d2, d3, d4, _⟩ := Mem.trod_slice_sz (α := Vec.Ent) (sz := 20) Try.underlying22 (by kernel_rfl) (by omega) Vec.entCells Vec.entCells_length Vec.EntIn (fun n cs x h hl hz => dec_ent h hl hz) e1 z1
  obtain ⟨v, q2⟩ := dec_arr Try.underlying26 e2 (by rw [List.length_take, List.length_drop]; omega)
  rw [kb] at d2
  unfold reachBytes at d2
  refine ⟨⟨a0, A, c, l, v⟩, ?_, ⟨d3, d1, by show c ≤ _; omega, d4⟩⟩
  have hd : cs = (cs.drop 0).take 1 ++ ((cs.drop 1).take 1 ++ (cs.drop 2).take 3) := by
    have h1 : ∀ a b : Nat, cs.drop a = (cs.drop a).take b ++ cs.drop (a + b) := fun a b => by rw [← List.drop_drop, List.take_append_drop]
    conv => lhs; rw [← List.drop_zero (l := cs), h1 0 1, h1 1 1, h1 2 3, List.drop_eq_nil_of_le (show cs.length ≤ 2 + 3 by omega), List.append_nil]
  rw [hd, q0, q1, q2]
  rfl
theorem open_acts {base : Nat} {v : Value} {d : DataW H} {p : List MemPlace} (o : Value.okWide Try.prog W .any base 29 v) (k : DataW.Trod enc Try.prog W 0 (fun _ => true) true 29 v d p) (hz : (d.weights Try.prog 29).all (· ≤ reachBytes) = true) :
    ∃ A c, ∃ acs : List Vec.Ac, v = .slice A acs.length c ∧ acs.length ≤ c ∧ c ≤ 8796093022208 ∧ Mem.Rd W W.heap.size A (acs.flatMap Vec.acCells) ∧ ∀ a ∈ acs, AcOk W W.heap.size a := by
  obtain ⟨A, c, l, h1, h2, h3, h4, h5, _⟩ := Mem.open_slice_sz (α := Vec.Ac) (sz := 5) Try.underlying29 (by kernel_rfl) (by omega) Vec.acCells Vec.acCells_length (fun a => AcOk W W.heap.size a) (fun n cs x h hl hz => dec_act h hl hz) o k hz
  have kb : Try.prog.bytesOf 28 = 56 := by kernel_rfl
  rw [kb] at h3
  unfold reachBytes at h3
  exact ⟨A, c, l, h1, h2, by omega, h4, h5⟩
end
end Go.Proofs.Ytfafehffnjbhnaa
