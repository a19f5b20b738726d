/- The walk of the document's Record: it answers as the program's. Cells of the right kinds, short texts. -/
import Derived.Test.YtkfgedgjpgehoaaOut5
namespace Go.Proofs.Ytkfgedgjpgehoaa
open Go.ChangeShapes Go.WideShapes Go.ChangeAt Go.RowKit
set_option linter.unusedVariables false
set_option linter.unusedSimpArgs false
set_option maxRecDepth 100000
namespace Wi
theorem kN_rec (xs : List Value) : ∀ k : Int, (k = 1 ∨ k = 2 ∨ k = 3) → (recM k).any (kN xs) = false := by
  rintro k (rfl | rfl | rfl) <;> simp [recM, writeM, chainM, ns, kN, List.any_append, List.range']
theorem arg_rec (xs : List Value) {k : Int} (hk : k = 1 ∨ k = 2 ∨ k = 3) : (recM k).any (argM xs) = (recM k).any (badN xs) := by
  rw [any_split, kN_rec xs k hk, Bool.or_false]
theorem bad0 {xs : List Value} {k : Int} (h : xs[0]? = some (.int .i64 k)) (hk : k = 1 ∨ k = 2 ∨ k = 3) : badN xs (.n 0) = false := by
  show argM xs (.n 0) = false
  rw [argM_n h]
  rcases hk with rfl | rfl | rfl <;> decide
def tinyE (es : List Value) : List Value := (es.set 6 (.string ⟨#[]⟩)).set 7 (.string ⟨#[]⟩)
theorem tinyE_ok {es : List Value} (h : Cells.Ok entryK es) : Cells.Ok entryK (tinyE es) := by
  obtain ⟨_, h6, s6, rfl⟩ := h.get (k := 6) (kd := .s) rfl
  obtain ⟨_, h7, s7, rfl⟩ := h.get (k := 7) (kd := .s) rfl
  have g1 := h.same (v' := .string ⟨#[]⟩) h6 (fun _ h => Cells.ok_str h)
  exact g1.same (k := 7) (v := .string s7) (v' := .string ⟨#[]⟩) (by rw [List.getElem?_set_ne (by decide)]; exact h7) (fun _ h => Cells.ok_str h)
theorem tinyE_sm {es : List Value} (h : Sm es) : Sm (tinyE es) := sm_set (sm_set h 6) 7
theorem tinyE_bad (es : List Value) : (outL (writeM 0) (tinyE es) o0).bad = (outL (writeM 0) es o0).bad := by
  show (false || _) = (false || _)
  congr 1
  refine any_bad (J := [6, 7]) (fun k hk => ?_) (writeM 0) (by decide +kernel)
  simp at hk
  unfold tinyE
  rw [List.getElem?_set_ne (by omega), List.getElem?_set_ne (by omega)]
theorem write_sh : (writeM 0).map (shM 1) = writeM 1 := rfl
theorem chain_sh : (chainM 0).map (shM 21) = chainM 21 := rfl
theorem eqL_comm {ks : List Cells.Kd} {xs ys : List Value} (h : Cells.Ok ks xs) (h2 : Cells.Ok ks ys) : Cells.eqL xs ys = Cells.eqL ys xs := by
  rw [Bool.eq_iff_iff, Cells.eqL_iff h h2, Cells.eqL_iff h2 h]
  exact ⟨fun e => e.symm, fun e => e.symm⟩
/-- the probe's answer -/
theorem bad_rec {xs : List Value} {k : Int} (h : xs[0]? = some (.int .i64 k)) (hk : k = 1 ∨ k = 2 ∨ k = 3) {ops : List Mo} (he : recM k = .n 0 :: ops) : (recM k).any (badN xs) = (outL ops xs o0).bad := by
  rw [he, List.any_cons, bad0 h hk]; rfl
theorem longM_rec {xs : List Value} {k : Int} {s7 s8 : ByteArray} (h7 : xs[7]? = some (.string s7)) (h8 : xs[8]? = some (.string s8)) (hk : k = 1 ∨ k = 2 ∨ k = 3) (h0 : xs[0]? = some (.int .i64 k)) (hb : bareL xs = xs) :
    (recM k).any (longM xs) = longS [(s7, s8)] := by
  rcases hk with rfl | rfl | rfl
  · have e16 : ∀ n : Nat, decide ((16 : Int) < (n : Int)) = decide (16 < n) := fun n => decide_eq_decide.2 (by omega)
    have e32 : ∀ n : Nat, decide ((32 : Int) < (n : Int)) = decide (32 < n) := fun n => decide_eq_decide.2 (by omega)
    unfold longS longP
    simp [recM, writeM, ns, longM, h7, h8, List.any_append, List.range']
    rw [e16, e32]
  · have g7 : s7 = ⟨#[]⟩ := by
      have e := congrArg (fun l : List Value => l[7]?) hb
      simp only [bareL_2 h0] at e
      rw [h7] at e
      have e2 : (([.int .i64 2] ++ entZ ++ (xs.drop 21).take 13 ++ (xs.drop 34).take 1 : List Value))[7]? = some (.string ⟨#[]⟩) := rfl
      rw [e2] at e
      cases e; rfl
    have g8 : s8 = ⟨#[]⟩ := by
      have e := congrArg (fun l : List Value => l[8]?) hb
      simp only [bareL_2 h0] at e
      rw [h8] at e
      have e2 : (([.int .i64 2] ++ entZ ++ (xs.drop 21).take 13 ++ (xs.drop 34).take 1 : List Value))[8]? = some (.string ⟨#[]⟩) := rfl
      rw [e2] at e
      cases e; rfl
    subst g7 g8
    simp [recM, chainM, ns, longM, longS, longP, List.any_append, List.range']
    exact ⟨Nat.zero_le _, Nat.zero_le _⟩
  · have g7 : s7 = ⟨#[]⟩ := by
      have e := congrArg (fun l : List Value => l[7]?) hb
      simp only [bareL_x h0 (by decide) (by decide)] at e
      rw [h7] at e
      have e2 : (([.int .i64 3] ++ entZ ++ chZ ++ [z0] : List Value))[7]? = some (.string ⟨#[]⟩) := rfl
      rw [e2] at e
      cases e; rfl
    have g8 : s8 = ⟨#[]⟩ := by
      have e := congrArg (fun l : List Value => l[8]?) hb
      simp only [bareL_x h0 (by decide) (by decide)] at e
      rw [h8] at e
      have e2 : (([.int .i64 3] ++ entZ ++ chZ ++ [z0] : List Value))[8]? = some (.string ⟨#[]⟩) := rfl
      rw [e2] at e
      cases e; rfl
    subst g7 g8
    simp [recM, longM, longS, longP]
    exact ⟨Nat.zero_le _, Nat.zero_le _⟩
theorem neq_val {xs : List Value} (h : Cells.Ok recK xs) : ∀ w : World, (binOp .neq 37 (.agg xs.toArray) (.agg (bareL xs).toArray)).run Try.prog w = .ok (.bool (!Cells.eqL xs (bareL xs))) w := fun w => recK_eq.neq h (bare_ok h) w
theorem o1_len {xs : List Value} {k : Int} (h0 : xs[0]? = some (.int .i64 k)) (hs : Sm xs) : (outN o0 k).bs.length ≤ 870000000 := by
  rw [outL_n h0]
  exact Nat.le_trans (outL_len hs o0 _) (by show 0 + 100009 * 1 ≤ _; omega)
/-- what the program answers, by the document's tests -/
theorem recC_rf {xs : List Value} {k : Int} {s7 s8 : ByteArray} (h : Fed recK xs) (h0 : xs[0]? = some (.int .i64 k)) (hk : k = 1 ∨ k = 2 ∨ k = 3) (h7 : xs[7]? = some (.string s7)) (h8 : xs[8]? = some (.string s8)) :
    framedC (recC xs) = if (recM k).any (badN xs) = true then ([], 1) else if Cells.eqL xs (bareL xs) = false then ([], 1) else if longS [(s7, s8)] = true then ([], 42) else (frameB (enR k xs), 0) := by
  rw [recC_eq h h0 hk, arg_rec xs hk, eqL_comm (bare_ok h.ok) h.ok]
  unfold framedC
  cases hb : (recM k).any (badN xs)
  · cases he : Cells.eqL xs (bareL xs)
    · rfl
    · have hbe : bareL xs = xs := ((Cells.eqL_iff h.ok (bare_ok h.ok)).1 he).symm
      rw [longM_rec h7 h8 hk h0 hbe]
      rfl
  · rfl
theorem recC_no {xs : List Value} {k : Int} (h0 : xs[0]? = some (.int .i64 k)) (hk : ¬ (k = 1 ∨ k = 2 ∨ k = 3)) : framedC (recC xs) = ([], 1) := by
  unfold framedC; rw [recC_odd h0 hk]; rfl
end Wi
theorem entryZ_box (w : World) : Mem.Bx (w.alloc (.cells Wi.entZ.toArray 30)) 30 20 w.heap.size Wi.entZ := Mem.Bx.new w 30 Wi.entZ.toArray rfl rfl
open Wi in
set_option maxHeartbeats 4000000 in
theorem rRec_any {w : World} {xs : List Value} (hf : Wi.Fed Wi.recK xs) :
    Calls Try.prog 16 #[.agg xs.toArray] w (Wi.FrEnd w (Wi.recC xs)) := by
  have HF := Lib.hid hf
  have hlx : Hid (xs.length = 35) := hf.ok.len
  have hone := Lib.hid (okL_one hf.ok)
  obtain ⟨v0, e0⟩ : ∃ v, xs[0]? = some (.int .i64 v) := by obtain ⟨_, h1, s, rfl⟩ := hf.ok.get (k := 0) (kd := .i) rfl; exact ⟨s, h1⟩
  have E0 := Lib.hid e0
  obtain ⟨w1, hw1⟩ : ∃ w1, w.alloc (.cells xs.toArray 37) = w1 := ⟨_, rfl⟩
  have hz1 : Mem.Bx w1 37 35 w.heap.size xs := by rw [← hw1]; exact Mem.Bx.new w 37 xs.toArray (by rw [List.size_toArray, hlx.out]) rfl
  have hk1 : Below w.heap.size w w1 := by rw [← hw1]; exact Reg.below_new _ _
  obtain ⟨g, hg⟩ : ∃ g, w.heap.size = g := ⟨_, rfl⟩
  have hgl := hz1.lt
  rw [hg] at hz1 hgl
  have HZ1 := Lib.hid hz1
  have HW1 := Lib.hid hw1
  have HB1 := Lib.hid hk1
  have HG := Lib.hid hg
  have z0' : w1.cell? ⟨g, 0, none⟩ = some (.int .i64 v0) := hz1.cell e0
  clear hf hw1 hz1 hk1 hg e0
  go_enter Try.func16, Try.ntmps16
  go_upto_region 1 with fail
  rw [HW1.out, HG.out]
  go_upto_region 2 with ((with_reducible refine Mem.store_agg _ _ record_agg w1.heap.size zeroR (recZ v0) ?hx ?hy ?hb rfl (recZ_one v0) ?_); ((case hx => exact rfl); (case hy => exact rfl); (case hb => exact Mem.Bx.new w1 _ zeroR.toArray rfl rfl); intro w2 hb4 hk4 hs4; have HQ2 := Lib.hid hb4; have HK2 : Hid (Below w1.heap.size w1 w2) := (hk4.newBox rfl).belowAll; clear hb4 hk4 hs4))
  obtain ⟨g4, hg4⟩ : ∃ g4, w1.heap.size = g4 := ⟨_, rfl⟩
  rw [hg4] at HQ2 hgl ⊢
  have HZ2 : Hid (Mem.Bx w2 37 35 g xs) := HZ1.out.keeps (Mem.Keeps.of_below HK2.out) id
  have HB2 : Hid (Below w.heap.size w w2) := HB1.out.trans (HK2.out.mono HB1.out.size)
  have hgl2 := HQ2.out.lt
  have hgw : w.heap.size ≤ g := Nat.le_of_eq HG.out
  clear z0' hg4 HZ1 HK2 HB1 HW1
  go_upto_region 3 with fail
  obtain ⟨w3, hw3⟩ : ∃ w3, w2.alloc (.cells #[.slice none 0 0, .bool false] 73) = w3 := ⟨_, rfl⟩
  have hoa : OAt w3 w2.heap.size none 0 o0 := by rw [← hw3]; exact out_new w2
  have hk23 : Below w2.heap.size w2 w3 := by rw [← hw3]; exact Reg.below_new _ _
  have hs3 : w3.heap.size = w2.heap.size + 1 := by rw [← hw3]; simp
  obtain ⟨g5, hg5⟩ : ∃ g5, w2.heap.size = g5 := ⟨_, rfl⟩
  rw [hg5] at hoa hgl2 hs3 ⊢
  rw [hw3]
  have HZ3 : Hid (Mem.Bx w3 37 35 g xs) := HZ2.out.keeps (Mem.Keeps.of_below hk23) id
  have HQ3 : Hid (Mem.Bx w3 37 35 g4 (recZ v0)) := HQ2.out.keeps (Mem.Keeps.of_below hk23) id
  have HB3 : Hid (Below w.heap.size w w3) := HB2.out.trans (hk23.mono HB2.out.size)
  have HN := Lib.hid (oNumber_any v0 hoa (by show (0 : Nat) ≤ _; omega))
  have x0 : w3.cell? ⟨g, 0, none⟩ = some (.int .i64 v0) := HZ3.out.cell E0.out
  clear hw3 hoa hk23 hg5 HZ2 HQ2 HB2
  go_upto_region 4 with (go_at_call 27; refine HN.out.mono ?_; rintro x4 w4 ⟨rfl, hp⟩; have HP := Lib.hid hp; clear hp HN)
  clear x0
  obtain ⟨A4, c4, hoa4, hk34, hq4⟩ := HP.out.out
  have HOA4 := Lib.hid hoa4
  have hblk : ∀ q, Mem.blk A4 = some q → g5 < q ∧ q < w4.heap.size := fun q h => by
    have h1 := hoa4.O.lt h
    rcases hq4 q h with h2 | h2
    · simp [Mem.blk] at h2
    · omega
  have HBLK := Lib.hid hblk
  have HZ4 : Hid (Mem.Bx w4 37 35 g xs) := HZ3.out.keeps hk34 (fun h => by rcases h with h | h; omega; simp [Mem.blk] at h)
  have HQ4 : Hid (Mem.Bx w4 37 35 g4 (recZ v0)) := HQ3.out.keeps hk34 (fun h => by rcases h with h | h; omega; simp [Mem.blk] at h)
  have HB4 : Hid (Below w.heap.size w w4) := HB3.out.trans (hk34.below (fun q h => by rcases h with h | h; omega; simp [Mem.blk] at h) HB3.out.size)
  have hgl5 := hoa4.B.lt
  obtain ⟨es, hes⟩ : ∃ es, (xs.drop 1).take 20 = es := ⟨_, rfl⟩
  have HES := Lib.hid hes
  have heo : Cells.Ok entryK es := by rw [← hes]; exact Cells.Ok.part HF.out.ok 1 20
  have hem : Sm es := by rw [← hes]; exact sm_part HF.out.str 1 20
  have hel : Hid (es.length = 20) := heo.len
  have hen := Lib.hid (okL_one heo)
  have hcs : Hid (∀ j u, es[j]? = some u → w4.cell? ⟨g, 1 + j, none⟩ = some u) := by rw [← hes]; exact bx_part HZ4.out 1 20
  have hcs' : Hid (∀ o : Obj, ∀ j u, es[j]? = some u → (w4.alloc o).cell? ⟨g, 1 + j, none⟩ = some u) := fun o j u hu => Reg.cell_up (hcs.out j u hu) o
  have HEO := Lib.hid heo
  have HEM := Lib.hid hem
  clear hoa4 hk34 hq4 hblk hes heo hem HP HZ3 HQ3 HB3
  go_upto_region 5 with (first | ((with_reducible refine Mem.load_agg _ _ wentry_agg g 1 es ?hxa hel.out hcs.out ?_); case hxa => exact rfl) | ((with_reducible refine Mem.store_agg _ _ wentry_agg w4.heap.size entZ es ?hx ?hy ?hb hel.out hen.out ?_); ((case hx => exact rfl); (case hy => exact rfl); (case hb => exact entryZ_box w4); intro w5 hb4 hk4 hs4; have HE5 := Lib.hid hb4; have HK5 : Hid (Below w4.heap.size w4 w5) := (hk4.newBox rfl).belowAll; clear hb4 hk4 hs4)))
  obtain ⟨g6, hg6⟩ : ∃ g6, w4.heap.size = g6 := ⟨_, rfl⟩
  have HG6 := Lib.hid hg6
  rw [hg6] at HE5 hgl5 ⊢
  obtain ⟨s7, e7⟩ : ∃ s, xs[7]? = some (.string s) := by obtain ⟨_, h1, s, rfl⟩ := HF.out.ok.get (k := 7) (kd := .s) rfl; exact ⟨s, h1⟩
  obtain ⟨s8, e8⟩ : ∃ s, xs[8]? = some (.string s) := by obtain ⟨_, h1, s, rfl⟩ := HF.out.ok.get (k := 8) (kd := .s) rfl; exact ⟨s, h1⟩
  have y6 : w5.cell? ⟨g6, 6, none⟩ = some (.string s7) := HE5.out.cell (by rw [← HES.out, part_get (by omega)]; exact e7)
  have y7 : w5.cell? ⟨g6, 7, none⟩ = some (.string s8) := HE5.out.cell (by rw [← HES.out, part_get (by omega)]; exact e8)
  have yf := HE5.out.fr
  have E7 := Lib.hid e7
  have E8 := Lib.hid e8
  clear e7 e8 hg6 hcs hcs'
  go_upto_region 7 with fail
  obtain ⟨w6, hw6⟩ : ∃ w6, ((w5.setCell ⟨g6, 6, none⟩ (.string ⟨#[]⟩)).setCell ⟨g6, 7, none⟩ (.string ⟨#[]⟩)) = w6 := ⟨_, rfl⟩
  have HE6 : Hid (Mem.Bx w6 30 20 g6 (tinyE es)) := by show Mem.Bx _ _ _ _ _; rw [← hw6]; exact (HE5.out.set 6 _).set 7 _
  have hk56 : Mem.Keeps (fun q => q = g6) w5 w6 := by
    rw [← hw6]
    exact ((Mem.Keeps.refl (fun q => q = g6) w5).setCell (p := ⟨g6, 6, none⟩) (fun _ => rfl) _).setCell (p := ⟨g6, 7, none⟩) (fun _ => rfl) _
  have HK46 : Hid (Below w4.heap.size w4 w6) := HK5.out.trans (hk56.below (fun q h => by rw [h, HG6.out]; exact Nat.le_refl _) HK5.out.size)
  rw [hw6]
  clear hw6 hk56 y6 y7 yf HE5 HK5
  go_upto_region 8 with fail
  obtain ⟨w7, hw7⟩ : ∃ w7, w6.alloc (.cells #[.slice none 0 0, .bool false] 73) = w7 := ⟨_, rfl⟩
  have hob : OAt w7 w6.heap.size none 0 o0 := by rw [← hw7]; exact out_new w6
  have hk67 : Below w6.heap.size w6 w7 := by rw [← hw7]; exact Reg.below_new _ _
  have hs7 : w7.heap.size = w6.heap.size + 1 := by rw [← hw7]; simp
  have hgl6 := HE6.out.lt
  have hgl46 := HK46.out.size
  obtain ⟨g7, hg7⟩ : ∃ g7, w6.heap.size = g7 := ⟨_, rfl⟩
  rw [hg7] at hob hgl6 hgl46 hs7 ⊢
  rw [hw7]
  have hk47 : Below w4.heap.size w4 w7 := HK46.out.trans (hk67.mono HK46.out.size)
  have HZ7 : Hid (Mem.Bx w7 37 35 g xs) := HZ4.out.keeps (Mem.Keeps.of_below hk47) id
  have HQ7 : Hid (Mem.Bx w7 37 35 g4 (recZ v0)) := HQ4.out.keeps (Mem.Keeps.of_below hk47) id
  have HOA7 : Hid (OAt w7 g5 A4 c4 (outN o0 v0)) := HOA4.out.keeps (Mem.Keeps.of_below hk47) (fun _ _ h => h)
  have HE7 : Hid (Mem.Bx w7 30 20 g6 (tinyE es)) := HE6.out.keeps (Mem.Keeps.of_below hk67) id
  have HOB7 := Lib.hid hob
  have HB7 : Hid (Below w.heap.size w w7) := HB4.out.trans (hk47.mono HB4.out.size)
  have z0 : w7.cell? ⟨g, 0, none⟩ = some (.int .i64 v0) := HZ7.out.cell E0.out
  have hgw6 : g6 = w4.heap.size := HG6.out.symm
  have HBLK7 : Hid (∀ q, Mem.blk A4 = some q → g5 < q ∧ q < g6) := fun q h => by have := HBLK.out q h; omega
  have hgo : g < g4 ∧ g4 < g5 ∧ g5 < g6 ∧ g6 < g7 := by omega
  have HGO := Lib.hid hgo
  have HFE := Lib.hid (recC_no (xs := xs) E0.out)
  clear hw7 hob hk67 hg7 hk47 HE6 HK46 HZ4 HQ4 HOA4 HB4 HBLK hgl hgl2 hgl5 hgl6 hgl46 hgw6 hgo hs3 hs7
  by_cases hk : v0 = 1 ∨ v0 = 2 ∨ v0 = 3
  case neg =>
    have d1 : (v0 == 1) = false := by simp; omega
    have d2 : (v0 == 2) = false := by simp; omega
    have d3 : (v0 == 3) = false := by simp; omega
    have HE : Hid (framedC (recC xs) = ([], 1)) := HFE.out hk
    clear hk HFE
    go_wp2
    go_ret2
    refine ⟨none, 0, ?_, ?_, Mem.From.of_blk (fun k h => by cases h), HB7.out⟩
    · rw [HE.out]; rfl
    · rw [HE.out]; exact own_none
  have HFR := Lib.hid (recC_rf HF.out E0.out hk E7.out E8.out)
  have HK := Lib.hid hk
  clear HFE
  rcases hk with rfl | rfl | rfl
  · have hcs : Hid (∀ j u, es[j]? = some u → w7.cell? ⟨g, 1 + j, none⟩ = some u) := by rw [← HES.out]; exact bx_part HZ7.out 1 20
    go_upto_region 12 with (first | ((with_reducible refine Mem.load_agg _ _ wentry_agg g 1 es ?hxc hel.out hcs.out ?_); case hxc => exact rfl) | ((with_reducible refine Mem.store_part _ _ wentry_agg 37 35 g4 1 (recZ 1) es ?hxb ?hyb HQ7.out hel.out (by rw [hel.out]; exact recZ_21 1) hen.out ?_); (case hxb => exact rfl); (case hyb => exact rfl); intro w8 hb8 hk8 hs8; have HQ8 := Lib.hid hb8; have HK8 := Lib.hid hk8; clear hb8 hk8 hs8))
    have hgo := HGO.out
    have HQB8 : Hid (Mem.Bx w8 37 35 g4 (bareL xs)) := by
      show Mem.Bx _ _ _ _ _
      have e9 : List.take 1 (recZ 1) ++ es ++ List.drop (1 + es.length) (recZ 1) = bareL xs := by rw [bareL_1 E0.out, HES.out, hel.out]; simp [recZ, entZ, chZ]
      rw [← e9]; exact HQ8.out
    have HZ8 : Hid (Mem.Bx w8 37 35 g xs) := HZ7.out.keeps HK8.out (by omega)
    have HOA8 : Hid (OAt w8 g5 A4 c4 (outN o0 1)) := HOA7.out.keeps HK8.out (fun q hq h => by rcases hq with hq | hq; omega; have := HBLK7.out q hq; omega)
    have HOB8 : Hid (OAt w8 g7 none 0 o0) := HOB7.out.keeps HK8.out (fun q hq h => by rcases hq with hq | hq; omega; simp [Mem.blk] at hq)
    have HE8 : Hid (Mem.Bx w8 30 20 g6 (tinyE es)) := HE7.out.keeps HK8.out (by omega)
    have HB8 : Hid (Below w.heap.size w w8) := HB7.out.trans (HK8.out.below (fun q h => by omega) HB7.out.size)
    obtain ⟨ts, hts⟩ : ∃ ts, tinyE es = ts := ⟨_, rfl⟩
    have hto : Cells.Ok entryK ts := by rw [← hts]; exact tinyE_ok HEO.out
    have htm : Sm ts := by rw [← hts]; exact tinyE_sm HEM.out
    have htl : Hid (ts.length = 20) := hto.len
    have HTS := Lib.hid hts
    rw [hts] at HE8
    have HOE := Lib.hid (oEntry_any hto htm HOB8.out (by show (0 : Nat) ≤ _; omega))
    clear hgo hts hto htm HQ8 HQ7 HZ7 HOA7 HOB7 HE7 HB7 hcs z0
    go_upto_region 19 with (first | ((with_reducible refine Mem.load_agg _ _ wentry_agg g6 0 ts ?hxd htl.out (fun j u hu => by rw [Nat.zero_add]; exact HE8.out.cell hu) ?_); case hxd => exact rfl) | (go_at_call 28; refine HOE.out.mono ?_; rintro x9 w9 ⟨rfl, hp⟩; have HP9 := Lib.hid hp; clear hp HOE))
    obtain ⟨A9, c9, hoa9, hk9, hq9⟩ := HP9.out.out
    have hgo := HGO.out
    have z1 : w9.cell? ⟨g7, 1, none⟩ = some (.bool (outL (writeM 0) ts o0).bad) := hoa9.B.cell (j := 1) rfl
    have HPB : Hid ((recM 1).any (badN xs) = (outL (writeM 0) ts o0).bad) := by
      show _ = _
      rw [bad_rec E0.out (.inl rfl) (ops := writeM 1) rfl, ← HTS.out, tinyE_bad, ← HES.out, ← outL_sh (off := 1) (n := 20) o0 (by decide +kernel), write_sh]
    have HZ9 : Hid (Mem.Bx w9 37 35 g xs) := HZ8.out.keeps hk9 (fun h => by rcases h with h | h; omega; simp [Mem.blk] at h)
    have HQ9 : Hid (Mem.Bx w9 37 35 g4 (bareL xs)) := HQB8.out.keeps hk9 (fun h => by rcases h with h | h; omega; simp [Mem.blk] at h)
    have HOA9 : Hid (OAt w9 g5 A4 c4 (outN o0 1)) := HOA8.out.keeps hk9 (fun q hq h => by rcases h with h | h; (rcases hq with hq | hq; omega; have := HBLK7.out q hq; omega); simp [Mem.blk] at h)
    have HB9 : Hid (Below w.heap.size w w9) := HB8.out.trans (hk9.below (fun q h => by rcases h with h | h; omega; simp [Mem.blk] at h) HB8.out.size)
    have hbl : Hid ((bareL xs).length = 35) := (bare_ok HF.out.ok).len
    clear hgo hoa9 hk9 hq9 HP9 HTS HE8 HOB8 HOA8 HZ8 HQB8 HB8
    have HONE0 := Lib.hid (own_none (w := w9) (e := 5) (sz := 1))
    cases hpb : (recM 1).any (badN xs)
    case' true =>
      have HE : Hid (framedC (recC xs) = ([], 1)) := by show _ = _; rw [HFR.out, if_pos hpb]
      rw [← HPB.out, hpb] at z1
      clear hpb
      go_wp2
      go_ret2
      refine ⟨none, 0, ?_, ?_, Mem.From.of_blk (fun k h => by cases h), HB9.out⟩
      · rw [HE.out]; rfl
      · rw [HE.out]; exact own_none
    have z1' : w9.cell? ⟨g7, 1, none⟩ = some (.bool false) := by rw [z1, ← HPB.out, hpb]
    clear z1
    cases heq : Cells.eqL xs (bareL xs)
    case' false =>
      have HE : Hid (framedC (recC xs) = ([], 1)) := by show _ = _; rw [HFR.out, if_neg (by rw [hpb]; decide), if_pos heq]
      have HKn : Hid (∀ w : World, (binOp .neq 37 (.agg xs.toArray) (.agg (bareL xs).toArray)).run Try.prog w = .ok (.bool true) w) := fun w => by rw [neq_val HF.out.ok, heq]; rfl
      clear hpb heq
      go_wp2_with (first | ((with_reducible refine Mem.load_aggG _ _ record_agg g 0 xs ?hwa ?hxa hlx.out (fun j u hu => by rw [Nat.zero_add]; exact HZ9.out.cell hu) ?_); ((case hwa => rfl); (case hxa => exact rfl))) | ((with_reducible refine Mem.load_aggG _ _ record_agg g4 0 (bareL xs) ?hwb ?hxb hbl.out (fun j u hu => by rw [Nat.zero_add]; exact HQ9.out.cell hu) ?_); ((case hwb => rfl); (case hxb => exact rfl))) | ((with_reducible refine Mem.wpList_binG _ _ ?hw9 ?hm9 xs.toArray (bareL xs).toArray true ?hx9 ?hy9 HKn.out ?_); ((case hw9 => rfl); (case hm9 => kernel_rfl); (case hx9 => exact rfl); (case hy9 => exact rfl))))
      go_ret2
      refine ⟨none, 0, ?_, ?_, Mem.From.of_blk (fun k h => by cases h), HB9.out⟩
      · rw [HE.out]; rfl
      · rw [HE.out]; exact own_none
    have HFL : Hid (framedC (recC xs) = if longS [(s7, s8)] = true then ([], 42) else (frameB (enR 1 xs), 0)) := by show _ = _; rw [HFR.out, if_neg (by rw [hpb]; decide), if_neg (by rw [heq]; decide)]
    have HKn : Hid (∀ w : World, (binOp .neq 37 (.agg xs.toArray) (.agg (bareL xs).toArray)).run Try.prog w = .ok (.bool false) w) := fun w => by rw [neq_val HF.out.ok, heq]; rfl
    have x7 : w9.cell? ⟨g, 7, none⟩ = some (.string s7) := HZ9.out.cell E7.out
    have x8 := fun o : Obj => Reg.cell_up (show w9.cell? ⟨g, 8, none⟩ = some (.string s8) from HZ9.out.cell E8.out) o
    clear hpb heq HFR
    go_upto_region 22 with (first | ((with_reducible refine Mem.load_aggG _ _ record_agg g 0 xs ?hwa ?hxa hlx.out (fun j u hu => by rw [Nat.zero_add]; exact HZ9.out.cell hu) ?_); ((case hwa => rfl); (case hxa => exact rfl))) | ((with_reducible refine Mem.load_aggG _ _ record_agg g4 0 (bareL xs) ?hwb ?hxb hbl.out (fun j u hu => by rw [Nat.zero_add]; exact HQ9.out.cell hu) ?_); ((case hwb => rfl); (case hxb => exact rfl))) | ((with_reducible refine Mem.wpList_binG _ _ ?hw9 ?hm9 xs.toArray (bareL xs).toArray false ?hx9 ?hy9 HKn.out ?_); ((case hw9 => rfl); (case hm9 => kernel_rfl); (case hx9 => exact rfl); (case hy9 => exact rfl))))
    obtain ⟨w10, hw10⟩ : ∃ w10, w9.alloc (.cells #[.string s7] 9) = w10 := ⟨_, rfl⟩
    have hr10 : Mem.Rd w10 (w9.heap.size + 1) (some ⟨w9.heap.size, 0, none⟩) [.string s7] := by rw [← hw10]; exact Mem.Rd.alloc_new w9 _ _ _ rfl
    have hk910 : Below w9.heap.size w9 w10 := by rw [← hw10]; exact Reg.below_new _ _
    have hs10 : w10.heap.size = w9.heap.size + 1 := by rw [← hw10]; simp
    rw [hw10]
    obtain ⟨w11, hw11⟩ : ∃ w11, w10.alloc (.cells #[.string s8] 9) = w11 := ⟨_, rfl⟩
    have hr11 : Mem.Rd w11 (w10.heap.size + 1) (some ⟨w10.heap.size, 0, none⟩) [.string s8] := by rw [← hw11]; exact Mem.Rd.alloc_new w10 _ _ _ rfl
    have hk1011 : Below w10.heap.size w10 w11 := by rw [← hw11]; exact Reg.below_new _ _
    have hs11 : w11.heap.size = w10.heap.size + 1 := by rw [← hw11]; simp
    rw [hw11]
    have hr10' : Mem.Rd w11 w11.heap.size (some ⟨w9.heap.size, 0, none⟩) [.string s7] := (hr10.below (by rw [← hs10]; exact hk1011)).more (by omega)
    have hr11' : Mem.Rd w11 w11.heap.size (some ⟨w10.heap.size, 0, none⟩) [.string s8] := hr11.more (by omega)
    rw [hs10] at hr11'
    have hz4 : ∀ p ∈ [(s7, s8)], p.1.size ≤ 100000 ∧ p.2.size ≤ 100000 := fun p hp => by
      rw [List.mem_singleton] at hp; subst hp
      exact ⟨HF.out.str _ _ E7.out, HF.out.str _ _ E8.out⟩
    have hlg := rLong_any (w := w11) (cK := 1) (cV := 1) (ps := [(s7, s8)]) hr10' hr11' hz4 (by simp)
    have HLG := Lib.hid hlg
    have hk911 : Below w9.heap.size w9 w11 := hk910.trans (hk1011.mono hk910.size)
    have HK911 := Lib.hid hk911
    clear hw10 hr10 hk910 hs10 hw11 hr11 hk1011 hs11 hr10' hr11' hz4 hlg hk911 x7 x8 z1'
    refine HLG.out.mono ?_
    rintro x12 w12 ⟨rfl, hb12⟩
    have hk912 : Below w9.heap.size w9 w12 := HK911.out.trans (hb12.mono HK911.out.size)
    have HB12 : Hid (Below w.heap.size w w12) := HB9.out.trans (hk912.mono HB9.out.size)
    have HZ12 : Hid (Mem.Bx w12 37 35 g xs) := HZ9.out.keeps (Mem.Keeps.of_below hk912) id
    have HOA12 : Hid (OAt w12 g5 A4 c4 (outN o0 1)) := HOA9.out.keeps (Mem.Keeps.of_below hk912) (fun _ _ h => h)
    clear hk912 hb12 HLG HK911 HZ9 HQ9 HOA9 HB9 HKn
    cases hlo : longS [(s7, s8)]
    case' true =>
      have HE : Hid (framedC (recC xs) = ([], 42)) := by show _ = _; rw [HFL.out, if_pos hlo]
      clear hlo
      go_wp2
      go_ret2
      refine ⟨none, 0, ?_, ?_, Mem.From.of_blk (fun k h => by cases h), HB12.out⟩
      · rw [HE.out]; rfl
      · rw [HE.out]; exact own_none
    have HE : Hid (framedC (recC xs) = (frameB (enR 1 xs), 0)) := by show _ = _; rw [HFL.out, if_neg (by rw [hlo]; decide)]
    have z0 : w12.cell? ⟨g, 0, none⟩ = some (.int .i64 1) := HZ12.out.cell E0.out
    clear hlo HFL
    have hcs : Hid (∀ j u, es[j]? = some u → w12.cell? ⟨g, 1 + j, none⟩ = some u) := by rw [← HES.out]; exact bx_part HZ12.out 1 20
    have HOE2 := Lib.hid (oEntry_any HEO.out HEM.out HOA12.out (o1_len E0.out HF.out.str))
    go_upto_region 25 with (first | ((with_reducible refine Mem.load_agg _ _ wentry_agg g 1 es ?hxe hel.out hcs.out ?_); case hxe => exact rfl) | (go_at_call 28; refine HOE2.out.mono ?_; rintro x13 w13 ⟨rfl, hp⟩; have HP13 := Lib.hid hp; clear hp HOE2))
    clear hcs
    obtain ⟨A13, c13, hoa13, hk13, hq13⟩ := HP13.out.out
    have HB13 : Hid (Below w.heap.size w w13) := HB12.out.trans (hk13.below (fun q h => by rcases h with h | h; (have := HGO.out; omega); (have := HBLK7.out q h; have := HGO.out; omega)) HB12.out.size)
    have hzz : w13.cell? ⟨g, 0, none⟩ = some (.int .i64 1) := (HZ12.out.keeps hk13 (fun h => by rcases h with h | h; (have := HGO.out; omega); (have := HBLK7.out _ h; have := HGO.out; omega))).cell E0.out
    obtain ⟨o13, ho13⟩ : ∃ z, outL (writeM 0) es (outN o0 1) = z := ⟨_, rfl⟩
    have hob13 : o13.bs = enR 1 xs := by
      rw [← ho13]
      rw [outL_n E0.out, ← HES.out, ← outL_sh (off := 1) (n := 20) _ (by decide +kernel), write_sh, ← outL_app]
      unfold outL enR o0 recM
      simp
    rw [ho13] at hoa13
    have z3 : w13.cell? ⟨g5, 0, none⟩ = some (.slice A13 o13.bs.length c13) := hoa13.B.cell (j := 0) rfl
    have hol : o13.bs.length ≤ 900000000 := by
      rw [hob13]
      have h9 := outL_len HF.out.str o0 (recM 1)
      have e9 : (outL (recM 1) xs o0).bs = enR 1 xs := by unfold outL o0 enR; simp
      rw [e9] at h9
      exact Nat.le_trans h9 (by rw [show (recM 1).length = 21 from by decide +kernel]; show 0 + 100009 * _ ≤ _; omega)
    have hfr := rFrame_any (cap := c13) hoa13.O.rd hol
    rw [hob13] at hfr
    rw [hob13] at z3
    have HFr := Lib.hid hfr
    clear hoa13 hk13 hq13 hob13 ho13 hol hfr HP13 HZ12 HOA12
    go_wp2_with (go_at_call 31; refine HFr.out.mono ?_; intro x14 w14 hfe; obtain ⟨A14, c14, rfl, h2, h3, h4⟩ := hfe; have HO14 := Lib.hid h2; have HF14 := Lib.hid h3; have HB14 := Lib.hid h4; clear h2 h3 h4 HFr)
    go_ret2
    refine ⟨A14, c14, ?_, ?_, HF14.out.mono HB13.out.size, HB13.out.trans (HB14.out.mono HB13.out.size)⟩
    · rw [HE.out]; rfl
    · rw [HE.out]; exact HO14.out
  · obtain ⟨cs, hcs0⟩ : ∃ cs, (xs.drop 21).take 13 = cs := ⟨_, rfl⟩
    have HCS := Lib.hid hcs0
    have hco : Cells.Ok chainKd cs := by rw [← hcs0]; exact Cells.Ok.part HF.out.ok 21 13
    have hcm : Sm cs := by rw [← hcs0]; exact sm_part HF.out.str 21 13
    have hcl : Hid (cs.length = 13) := hco.len
    have hcn := Lib.hid (okL_one hco)
    have HCO := Lib.hid hco
    have HCM := Lib.hid hcm
    have hcc : Hid (∀ j u, cs[j]? = some u → w7.cell? ⟨g, 21 + j, none⟩ = some u) := by rw [← hcs0]; exact bx_part HZ7.out 21 13
    obtain ⟨kv, e34⟩ : ∃ v, xs[34]? = some (.int .i64 v) := by obtain ⟨_, h1, s, rfl⟩ := HF.out.ok.get (k := 34) (kd := .i) rfl; exact ⟨s, h1⟩
    have E34 := Lib.hid e34
    clear hcs0 hco hcm e34
    go_upto_region 15 with (first | ((with_reducible refine Mem.load_agg _ _ wconfig_agg g 21 cs ?hxc hcl.out hcc.out ?_); case hxc => exact rfl) | ((with_reducible refine Mem.store_part _ _ wconfig_agg 37 35 g4 21 (recZ 2) cs ?hxb ?hyb HQ7.out hcl.out (by rw [hcl.out]; exact recZ_34 2) hcn.out ?_); (case hxb => exact rfl); (case hyb => exact rfl); intro w8 hb8 hk8 hs8; have HQ8 := Lib.hid hb8; have HK8 := Lib.hid hk8; clear hb8 hk8 hs8))
    obtain ⟨qs, hqs⟩ : ∃ qs, List.take 21 (recZ 2) ++ cs ++ List.drop (21 + cs.length) (recZ 2) = qs := ⟨_, rfl⟩
    have e9 : qs.set 34 (.int .i64 kv) = bareL xs := by
      have h1 := box_2 2 cs hcl.out (.int .i64 kv) (.int .i64 2)
      rw [hcl.out] at hqs
      rw [hqs] at h1
      have h2 : (qs.set 34 (.int .i64 kv)).set 0 (.int .i64 2) = qs.set 34 (.int .i64 kv) := set_self (by rw [List.getElem?_set_ne (by decide), ← hqs]; rfl)
      rw [h2] at h1
      rw [h1, bareL_2 E0.out, HCS.out]
      have h3 : (xs.drop 34).take 1 = [.int .i64 kv] := by
        obtain ⟨hlt, he⟩ := List.getElem?_eq_some_iff.1 E34.out
        rw [List.drop_eq_getElem_cons hlt, he]; rfl
      rw [h3]
    have hgo := HGO.out
    have hq8 := HQ8.out
    rw [hqs] at hq8
    have HZ8 : Hid (Mem.Bx w8 37 35 g xs) := HZ7.out.keeps HK8.out (by omega)
    have x34 : w8.cell? ⟨g, 34, none⟩ = some (.int .i64 kv) := HZ8.out.cell E34.out
    obtain ⟨v9, hv9⟩ : ∃ v9, qs[34]? = some v9 := ⟨_, List.getElem?_eq_getElem (by have := hq8.len; omega)⟩
    have y34 := hq8.cell hv9
    have yf := hq8.fr
    have HQ8' := Lib.hid hq8
    have HE9 := Lib.hid e9
    clear hqs e9 hv9 hq8 HQ8 hcc z0
    go_upto_region 16 with fail
    obtain ⟨wb, hwb⟩ : ∃ wb, w8.setCell ⟨g4, 34, none⟩ (.int .i64 kv) = wb := ⟨_, rfl⟩
    have HQB : Hid (Mem.Bx wb 37 35 g4 (bareL xs)) := by show Mem.Bx _ _ _ _ _; rw [← hwb, ← HE9.out]; exact HQ8'.out.set 34 _
    have hkb : Mem.Keeps (fun q => q = g4) w7 wb := by
      rw [← hwb]
      exact HK8.out.setCell (p := ⟨g4, 34, none⟩) (fun _ => rfl) _
    have HZB : Hid (Mem.Bx wb 37 35 g xs) := HZ7.out.keeps hkb (by omega)
    have HOAB : Hid (OAt wb g5 A4 c4 (outN o0 2)) := HOA7.out.keeps hkb (fun q hq h => by rcases hq with hq | hq; omega; have := HBLK7.out q hq; omega)
    have HOBB : Hid (OAt wb g7 none 0 o0) := HOB7.out.keeps hkb (fun q hq h => by rcases hq with hq | hq; omega; simp [Mem.blk] at hq)
    have HBB : Hid (Below w.heap.size w wb) := HB7.out.trans (hkb.below (fun q h => by omega) HB7.out.size)
    have hcc : Hid (∀ j u, cs[j]? = some u → wb.cell? ⟨g, 21 + j, none⟩ = some u) := by rw [← HCS.out]; exact bx_part HZB.out 21 13
    have HOC := Lib.hid (oConfig_any HCO.out HCM.out HOBB.out (by show (0 : Nat) ≤ _; omega))
    rw [hwb]
    clear hwb hkb x34 y34 yf HQ8' HK8 HZ8 HQ7 HZ7 HOA7 HOB7 HE7 HB7
    go_upto_region 17 with (first | ((with_reducible refine Mem.load_agg _ _ wconfig_agg g 21 cs ?hxd hcl.out hcc.out ?_); case hxd => exact rfl) | (go_at_call 29; refine HOC.out.mono ?_; rintro xa wa ⟨rfl, hp⟩; have HPA := Lib.hid hp; clear hp HOC))
    have hza := HPA.out.box HZB.out (show g ≠ g7 by omega) (by simp [Mem.blk])
    have x34 : wa.cell? ⟨g, 34, none⟩ = some (.int .i64 kv) := hza.cell E34.out
    have hcl2 : (outL (chainM 0) cs o0).bs.length ≤ 1000000000 := Nat.le_trans (outL_len HCM.out o0 _) (by rw [chainM_len]; show 0 + _ ≤ _; omega)
    have HNA := Lib.hid (HPA.out.lift fun A1 c1 hA => oNumber_any kv hA hcl2)
    clear hza hcl2 hcc hgo
    go_upto_region 19 with (go_at_call 27; refine HNA.out.mono ?_; rintro x9 w9 ⟨rfl, hp⟩; have HP9 := Lib.hid hp; clear hp HNA)
    obtain ⟨A9, c9, hoa9, hk9, hq9⟩ := HP9.out.out
    have hgo := HGO.out
    have z1 : w9.cell? ⟨g7, 1, none⟩ = some (.bool (outN (outL (chainM 0) cs o0) kv).bad) := hoa9.B.cell (j := 1) rfl
    have HPB : Hid ((recM 2).any (badN xs) = (outN (outL (chainM 0) cs o0) kv).bad) := by
      show _ = _
      rw [bad_rec E0.out (.inr (.inl rfl)) (ops := chainM 21 ++ [.n 34]) rfl, outL_app, outL_n E34.out, ← HCS.out, ← outL_sh (off := 21) (n := 13) o0 (by decide +kernel), chain_sh]
    have HZ9 : Hid (Mem.Bx w9 37 35 g xs) := HZB.out.keeps hk9 (fun h => by rcases h with h | h; omega; simp [Mem.blk] at h)
    have HQ9 : Hid (Mem.Bx w9 37 35 g4 (bareL xs)) := HQB.out.keeps hk9 (fun h => by rcases h with h | h; omega; simp [Mem.blk] at h)
    have HOA9 : Hid (OAt w9 g5 A4 c4 (outN o0 2)) := HOAB.out.keeps hk9 (fun q hq h => by rcases h with h | h; (rcases hq with hq | hq; omega; have := HBLK7.out q hq; omega); simp [Mem.blk] at h)
    have HB9 : Hid (Below w.heap.size w w9) := HBB.out.trans (hk9.below (fun q h => by rcases h with h | h; omega; simp [Mem.blk] at h) HBB.out.size)
    have hbl : Hid ((bareL xs).length = 35) := (bare_ok HF.out.ok).len
    clear hgo hoa9 hk9 hq9 HP9 HPA x34 HOBB HOAB HZB HQB HBB
    have HONE0 := Lib.hid (own_none (w := w9) (e := 5) (sz := 1))
    cases hpb : (recM 2).any (badN xs)
    case' true =>
      have HE : Hid (framedC (recC xs) = ([], 1)) := by show _ = _; rw [HFR.out, if_pos hpb]
      rw [← HPB.out, hpb] at z1
      clear hpb
      go_wp2
      go_ret2
      refine ⟨none, 0, ?_, ?_, Mem.From.of_blk (fun k h => by cases h), HB9.out⟩
      · rw [HE.out]; rfl
      · rw [HE.out]; exact own_none
    have z1' : w9.cell? ⟨g7, 1, none⟩ = some (.bool false) := by rw [z1, ← HPB.out, hpb]
    clear z1
    cases heq : Cells.eqL xs (bareL xs)
    case' false =>
      have HE : Hid (framedC (recC xs) = ([], 1)) := by show _ = _; rw [HFR.out, if_neg (by rw [hpb]; decide), if_pos heq]
      have HKn : Hid (∀ w : World, (binOp .neq 37 (.agg xs.toArray) (.agg (bareL xs).toArray)).run Try.prog w = .ok (.bool true) w) := fun w => by rw [neq_val HF.out.ok, heq]; rfl
      clear hpb heq
      go_wp2_with (first | ((with_reducible refine Mem.load_aggG _ _ record_agg g 0 xs ?hwa ?hxa hlx.out (fun j u hu => by rw [Nat.zero_add]; exact HZ9.out.cell hu) ?_); ((case hwa => rfl); (case hxa => exact rfl))) | ((with_reducible refine Mem.load_aggG _ _ record_agg g4 0 (bareL xs) ?hwb ?hxb hbl.out (fun j u hu => by rw [Nat.zero_add]; exact HQ9.out.cell hu) ?_); ((case hwb => rfl); (case hxb => exact rfl))) | ((with_reducible refine Mem.wpList_binG _ _ ?hw9 ?hm9 xs.toArray (bareL xs).toArray true ?hx9 ?hy9 HKn.out ?_); ((case hw9 => rfl); (case hm9 => kernel_rfl); (case hx9 => exact rfl); (case hy9 => exact rfl))))
      go_ret2
      refine ⟨none, 0, ?_, ?_, Mem.From.of_blk (fun k h => by cases h), HB9.out⟩
      · rw [HE.out]; rfl
      · rw [HE.out]; exact own_none
    have HFL : Hid (framedC (recC xs) = if longS [(s7, s8)] = true then ([], 42) else (frameB (enR 2 xs), 0)) := by show _ = _; rw [HFR.out, if_neg (by rw [hpb]; decide), if_neg (by rw [heq]; decide)]
    have HKn : Hid (∀ w : World, (binOp .neq 37 (.agg xs.toArray) (.agg (bareL xs).toArray)).run Try.prog w = .ok (.bool false) w) := fun w => by rw [neq_val HF.out.ok, heq]; rfl
    have x7 : w9.cell? ⟨g, 7, none⟩ = some (.string s7) := HZ9.out.cell E7.out
    have x8 := fun o : Obj => Reg.cell_up (show w9.cell? ⟨g, 8, none⟩ = some (.string s8) from HZ9.out.cell E8.out) o
    clear hpb heq HFR
    go_upto_region 22 with (first | ((with_reducible refine Mem.load_aggG _ _ record_agg g 0 xs ?hwa ?hxa hlx.out (fun j u hu => by rw [Nat.zero_add]; exact HZ9.out.cell hu) ?_); ((case hwa => rfl); (case hxa => exact rfl))) | ((with_reducible refine Mem.load_aggG _ _ record_agg g4 0 (bareL xs) ?hwb ?hxb hbl.out (fun j u hu => by rw [Nat.zero_add]; exact HQ9.out.cell hu) ?_); ((case hwb => rfl); (case hxb => exact rfl))) | ((with_reducible refine Mem.wpList_binG _ _ ?hw9 ?hm9 xs.toArray (bareL xs).toArray false ?hx9 ?hy9 HKn.out ?_); ((case hw9 => rfl); (case hm9 => kernel_rfl); (case hx9 => exact rfl); (case hy9 => exact rfl))))
    obtain ⟨w10, hw10⟩ : ∃ w10, w9.alloc (.cells #[.string s7] 9) = w10 := ⟨_, rfl⟩
    have hr10 : Mem.Rd w10 (w9.heap.size + 1) (some ⟨w9.heap.size, 0, none⟩) [.string s7] := by rw [← hw10]; exact Mem.Rd.alloc_new w9 _ _ _ rfl
    have hk910 : Below w9.heap.size w9 w10 := by rw [← hw10]; exact Reg.below_new _ _
    have hs10 : w10.heap.size = w9.heap.size + 1 := by rw [← hw10]; simp
    rw [hw10]
    obtain ⟨w11, hw11⟩ : ∃ w11, w10.alloc (.cells #[.string s8] 9) = w11 := ⟨_, rfl⟩
    have hr11 : Mem.Rd w11 (w10.heap.size + 1) (some ⟨w10.heap.size, 0, none⟩) [.string s8] := by rw [← hw11]; exact Mem.Rd.alloc_new w10 _ _ _ rfl
    have hk1011 : Below w10.heap.size w10 w11 := by rw [← hw11]; exact Reg.below_new _ _
    have hs11 : w11.heap.size = w10.heap.size + 1 := by rw [← hw11]; simp
    rw [hw11]
    have hr10' : Mem.Rd w11 w11.heap.size (some ⟨w9.heap.size, 0, none⟩) [.string s7] := (hr10.below (by rw [← hs10]; exact hk1011)).more (by omega)
    have hr11' : Mem.Rd w11 w11.heap.size (some ⟨w10.heap.size, 0, none⟩) [.string s8] := hr11.more (by omega)
    rw [hs10] at hr11'
    have hz4 : ∀ p ∈ [(s7, s8)], p.1.size ≤ 100000 ∧ p.2.size ≤ 100000 := fun p hp => by
      rw [List.mem_singleton] at hp; subst hp
      exact ⟨HF.out.str _ _ E7.out, HF.out.str _ _ E8.out⟩
    have hlg := rLong_any (w := w11) (cK := 1) (cV := 1) (ps := [(s7, s8)]) hr10' hr11' hz4 (by simp)
    have HLG := Lib.hid hlg
    have hk911 : Below w9.heap.size w9 w11 := hk910.trans (hk1011.mono hk910.size)
    have HK911 := Lib.hid hk911
    clear hw10 hr10 hk910 hs10 hw11 hr11 hk1011 hs11 hr10' hr11' hz4 hlg hk911 x7 x8 z1'
    refine HLG.out.mono ?_
    rintro x12 w12 ⟨rfl, hb12⟩
    have hk912 : Below w9.heap.size w9 w12 := HK911.out.trans (hb12.mono HK911.out.size)
    have HB12 : Hid (Below w.heap.size w w12) := HB9.out.trans (hk912.mono HB9.out.size)
    have HZ12 : Hid (Mem.Bx w12 37 35 g xs) := HZ9.out.keeps (Mem.Keeps.of_below hk912) id
    have HOA12 : Hid (OAt w12 g5 A4 c4 (outN o0 2)) := HOA9.out.keeps (Mem.Keeps.of_below hk912) (fun _ _ h => h)
    clear hk912 hb12 HLG HK911 HZ9 HQ9 HOA9 HB9 HKn
    cases hlo : longS [(s7, s8)]
    case' true =>
      have HE : Hid (framedC (recC xs) = ([], 42)) := by show _ = _; rw [HFL.out, if_pos hlo]
      clear hlo
      go_wp2
      go_ret2
      refine ⟨none, 0, ?_, ?_, Mem.From.of_blk (fun k h => by cases h), HB12.out⟩
      · rw [HE.out]; rfl
      · rw [HE.out]; exact own_none
    have HE : Hid (framedC (recC xs) = (frameB (enR 2 xs), 0)) := by show _ = _; rw [HFL.out, if_neg (by rw [hlo]; decide)]
    have z0 : w12.cell? ⟨g, 0, none⟩ = some (.int .i64 2) := HZ12.out.cell E0.out
    clear hlo HFL
    have hcc : Hid (∀ j u, cs[j]? = some u → w12.cell? ⟨g, 21 + j, none⟩ = some u) := by rw [← HCS.out]; exact bx_part HZ12.out 21 13
    have HOC2 := Lib.hid (oConfig_any HCO.out HCM.out HOA12.out (Nat.le_trans (o1_len E0.out HF.out.str) (by omega)))
    go_upto_region 27 with (first | ((with_reducible refine Mem.load_agg _ _ wconfig_agg g 21 cs ?hxe hcl.out hcc.out ?_); case hxe => exact rfl) | (go_at_call 29; refine HOC2.out.mono ?_; rintro xa wa ⟨rfl, hp⟩; have HPA := Lib.hid hp; clear hp HOC2))
    have hgo := HGO.out
    have hza := HPA.out.box HZ12.out (show g ≠ g5 by omega) (fun h => by have := HBLK7.out _ h; omega)
    have x34 : wa.cell? ⟨g, 34, none⟩ = some (.int .i64 kv) := hza.cell E34.out
    have hcl2 : (outL (chainM 0) cs (outN o0 2)).bs.length ≤ 1000000000 := Nat.le_trans (outL_len HCM.out _ _) (Nat.le_trans (Nat.add_le_add_right (o1_len E0.out HF.out.str) _) (by rw [chainM_len]; omega))
    have HNA := Lib.hid (HPA.out.lift fun A1 c1 hA => oNumber_any kv hA hcl2)
    clear hza hcl2 hcc hgo z0
    go_upto_region 28 with (go_at_call 27; refine HNA.out.mono ?_; rintro x13 w13 ⟨rfl, hp⟩; have HP13 := Lib.hid hp; clear hp HNA)
    clear HPA x34
    obtain ⟨A13, c13, hoa13, hk13, hq13⟩ := HP13.out.out
    have HB13 : Hid (Below w.heap.size w w13) := HB12.out.trans (hk13.below (fun q h => by rcases h with h | h; (have := HGO.out; omega); (have := HBLK7.out q h; have := HGO.out; omega)) HB12.out.size)
    have hzz : w13.cell? ⟨g, 0, none⟩ = some (.int .i64 2) := (HZ12.out.keeps hk13 (fun h => by rcases h with h | h; (have := HGO.out; omega); (have := HBLK7.out _ h; have := HGO.out; omega))).cell E0.out
    obtain ⟨o13, ho13⟩ : ∃ z, outN (outL (chainM 0) cs (outN o0 2)) kv = z := ⟨_, rfl⟩
    have hob13 : o13.bs = enR 2 xs := by
      rw [← ho13]
      rw [outL_n E0.out, ← HCS.out, ← outL_sh (off := 21) (n := 13) _ (by decide +kernel), chain_sh, outL_n E34.out, ← outL_app, ← outL_app]
      unfold outL enR o0 recM
      simp
    rw [ho13] at hoa13
    have z3 : w13.cell? ⟨g5, 0, none⟩ = some (.slice A13 o13.bs.length c13) := hoa13.B.cell (j := 0) rfl
    have hol : o13.bs.length ≤ 900000000 := by
      rw [hob13]
      have h9 := outL_len HF.out.str o0 (recM 2)
      have e9 : (outL (recM 2) xs o0).bs = enR 2 xs := by unfold outL o0 enR; simp
      rw [e9] at h9
      exact Nat.le_trans h9 (by rw [show (recM 2).length = 15 from by decide +kernel]; show 0 + 100009 * _ ≤ _; omega)
    have hfr := rFrame_any (cap := c13) hoa13.O.rd hol
    rw [hob13] at hfr
    rw [hob13] at z3
    have HFr := Lib.hid hfr
    clear hoa13 hk13 hq13 hob13 ho13 hol hfr HP13 HZ12 HOA12
    go_wp2_with (go_at_call 31; refine HFr.out.mono ?_; intro x14 w14 hfe; obtain ⟨A14, c14, rfl, h2, h3, h4⟩ := hfe; have HO14 := Lib.hid h2; have HF14 := Lib.hid h3; have HB14 := Lib.hid h4; clear h2 h3 h4 HFr)
    go_ret2
    refine ⟨A14, c14, ?_, ?_, HF14.out.mono HB13.out.size, HB13.out.trans (HB14.out.mono HB13.out.size)⟩
    · rw [HE.out]; rfl
    · rw [HE.out]; exact HO14.out
  · have HQ7' : Hid (Mem.Bx w7 37 35 g4 (bareL xs)) := by
      show Mem.Bx _ _ _ _ _
      rw [bareL_x E0.out (by decide) (by decide)]
      exact HQ7.out
    go_upto_region 19 with fail
    obtain ⟨w9, hw9⟩ : ∃ w9, w7 = w9 := ⟨_, rfl⟩
    subst hw9
    have z1 : w7.cell? ⟨g7, 1, none⟩ = some (.bool false) := HOB7.out.B.cell (j := 1) rfl
    have HPB : Hid ((recM 3).any (badN xs) = false) := by
      show _ = _
      rw [bad_rec E0.out (.inr (.inr rfl)) (ops := []) rfl]; rfl
    have HZ9 := HZ7
    have HQ9 := HQ7'
    have HOA9 := HOA7
    have HB9 := HB7
    have hbl : Hid ((bareL xs).length = 35) := (bare_ok HF.out.ok).len
    clear HQ7 HQ7' HZ7 HOA7 HOB7 HE7 HB7 z0
    have HONE0 := Lib.hid (own_none (w := w7) (e := 5) (sz := 1))
    cases hpb : (recM 3).any (badN xs)
    case' true =>
      have HE : Hid (framedC (recC xs) = ([], 1)) := by show _ = _; rw [HFR.out, if_pos hpb]
      rw [← HPB.out, hpb] at z1
      clear hpb
      go_wp2
      go_ret2
      refine ⟨none, 0, ?_, ?_, Mem.From.of_blk (fun k h => by cases h), HB9.out⟩
      · rw [HE.out]; rfl
      · rw [HE.out]; exact own_none
    have z1' : w7.cell? ⟨g7, 1, none⟩ = some (.bool false) := by rw [z1, ← HPB.out, hpb]
    clear z1
    cases heq : Cells.eqL xs (bareL xs)
    case' false =>
      have HE : Hid (framedC (recC xs) = ([], 1)) := by show _ = _; rw [HFR.out, if_neg (by rw [hpb]; decide), if_pos heq]
      have HKn : Hid (∀ w : World, (binOp .neq 37 (.agg xs.toArray) (.agg (bareL xs).toArray)).run Try.prog w = .ok (.bool true) w) := fun w => by rw [neq_val HF.out.ok, heq]; rfl
      clear hpb heq
      go_wp2_with (first | ((with_reducible refine Mem.load_aggG _ _ record_agg g 0 xs ?hwa ?hxa hlx.out (fun j u hu => by rw [Nat.zero_add]; exact HZ9.out.cell hu) ?_); ((case hwa => rfl); (case hxa => exact rfl))) | ((with_reducible refine Mem.load_aggG _ _ record_agg g4 0 (bareL xs) ?hwb ?hxb hbl.out (fun j u hu => by rw [Nat.zero_add]; exact HQ9.out.cell hu) ?_); ((case hwb => rfl); (case hxb => exact rfl))) | ((with_reducible refine Mem.wpList_binG _ _ ?hw9 ?hm9 xs.toArray (bareL xs).toArray true ?hx9 ?hy9 HKn.out ?_); ((case hw9 => rfl); (case hm9 => kernel_rfl); (case hx9 => exact rfl); (case hy9 => exact rfl))))
      go_ret2
      refine ⟨none, 0, ?_, ?_, Mem.From.of_blk (fun k h => by cases h), HB9.out⟩
      · rw [HE.out]; rfl
      · rw [HE.out]; exact own_none
    have HFL : Hid (framedC (recC xs) = if longS [(s7, s8)] = true then ([], 42) else (frameB (enR 3 xs), 0)) := by show _ = _; rw [HFR.out, if_neg (by rw [hpb]; decide), if_neg (by rw [heq]; decide)]
    have HKn : Hid (∀ w : World, (binOp .neq 37 (.agg xs.toArray) (.agg (bareL xs).toArray)).run Try.prog w = .ok (.bool false) w) := fun w => by rw [neq_val HF.out.ok, heq]; rfl
    have x7 : w7.cell? ⟨g, 7, none⟩ = some (.string s7) := HZ9.out.cell E7.out
    have x8 := fun o : Obj => Reg.cell_up (show w7.cell? ⟨g, 8, none⟩ = some (.string s8) from HZ9.out.cell E8.out) o
    clear hpb heq HFR
    go_upto_region 22 with (first | ((with_reducible refine Mem.load_aggG _ _ record_agg g 0 xs ?hwa ?hxa hlx.out (fun j u hu => by rw [Nat.zero_add]; exact HZ9.out.cell hu) ?_); ((case hwa => rfl); (case hxa => exact rfl))) | ((with_reducible refine Mem.load_aggG _ _ record_agg g4 0 (bareL xs) ?hwb ?hxb hbl.out (fun j u hu => by rw [Nat.zero_add]; exact HQ9.out.cell hu) ?_); ((case hwb => rfl); (case hxb => exact rfl))) | ((with_reducible refine Mem.wpList_binG _ _ ?hw9 ?hm9 xs.toArray (bareL xs).toArray false ?hx9 ?hy9 HKn.out ?_); ((case hw9 => rfl); (case hm9 => kernel_rfl); (case hx9 => exact rfl); (case hy9 => exact rfl))))
    obtain ⟨w10, hw10⟩ : ∃ w10, w7.alloc (.cells #[.string s7] 9) = w10 := ⟨_, rfl⟩
    have hr10 : Mem.Rd w10 (w7.heap.size + 1) (some ⟨w7.heap.size, 0, none⟩) [.string s7] := by rw [← hw10]; exact Mem.Rd.alloc_new w7 _ _ _ rfl
    have hk910 : Below w7.heap.size w7 w10 := by rw [← hw10]; exact Reg.below_new _ _
    have hs10 : w10.heap.size = w7.heap.size + 1 := by rw [← hw10]; simp
    rw [hw10]
    obtain ⟨w11, hw11⟩ : ∃ w11, w10.alloc (.cells #[.string s8] 9) = w11 := ⟨_, rfl⟩
    have hr11 : Mem.Rd w11 (w10.heap.size + 1) (some ⟨w10.heap.size, 0, none⟩) [.string s8] := by rw [← hw11]; exact Mem.Rd.alloc_new w10 _ _ _ rfl
    have hk1011 : Below w10.heap.size w10 w11 := by rw [← hw11]; exact Reg.below_new _ _
    have hs11 : w11.heap.size = w10.heap.size + 1 := by rw [← hw11]; simp
    rw [hw11]
    have hr10' : Mem.Rd w11 w11.heap.size (some ⟨w7.heap.size, 0, none⟩) [.string s7] := (hr10.below (by rw [← hs10]; exact hk1011)).more (by omega)
    have hr11' : Mem.Rd w11 w11.heap.size (some ⟨w10.heap.size, 0, none⟩) [.string s8] := hr11.more (by omega)
    rw [hs10] at hr11'
    have hz4 : ∀ p ∈ [(s7, s8)], p.1.size ≤ 100000 ∧ p.2.size ≤ 100000 := fun p hp => by
      rw [List.mem_singleton] at hp; subst hp
      exact ⟨HF.out.str _ _ E7.out, HF.out.str _ _ E8.out⟩
    have hlg := rLong_any (w := w11) (cK := 1) (cV := 1) (ps := [(s7, s8)]) hr10' hr11' hz4 (by simp)
    have HLG := Lib.hid hlg
    have hk911 : Below w7.heap.size w7 w11 := hk910.trans (hk1011.mono hk910.size)
    have HK911 := Lib.hid hk911
    clear hw10 hr10 hk910 hs10 hw11 hr11 hk1011 hs11 hr10' hr11' hz4 hlg hk911 x7 x8 z1'
    refine HLG.out.mono ?_
    rintro x12 w12 ⟨rfl, hb12⟩
    have hk912 : Below w7.heap.size w7 w12 := HK911.out.trans (hb12.mono HK911.out.size)
    have HB12 : Hid (Below w.heap.size w w12) := HB9.out.trans (hk912.mono HB9.out.size)
    have HZ12 : Hid (Mem.Bx w12 37 35 g xs) := HZ9.out.keeps (Mem.Keeps.of_below hk912) id
    have HOA12 : Hid (OAt w12 g5 A4 c4 (outN o0 3)) := HOA9.out.keeps (Mem.Keeps.of_below hk912) (fun _ _ h => h)
    clear hk912 hb12 HLG HK911 HZ9 HQ9 HOA9 HB9 HKn
    cases hlo : longS [(s7, s8)]
    case' true =>
      have HE : Hid (framedC (recC xs) = ([], 42)) := by show _ = _; rw [HFL.out, if_pos hlo]
      clear hlo
      go_wp2
      go_ret2
      refine ⟨none, 0, ?_, ?_, Mem.From.of_blk (fun k h => by cases h), HB12.out⟩
      · rw [HE.out]; rfl
      · rw [HE.out]; exact own_none
    have HE : Hid (framedC (recC xs) = (frameB (enR 3 xs), 0)) := by show _ = _; rw [HFL.out, if_neg (by rw [hlo]; decide)]
    have z0 : w12.cell? ⟨g, 0, none⟩ = some (.int .i64 3) := HZ12.out.cell E0.out
    clear hlo HFL
    go_upto_region 28 with fail
    have HP13 : Hid (OP w12 g5 A4 (outN o0 3) w12) := OP.refl HOA12.out
    clear z0
    obtain ⟨A13, c13, hoa13, hk13, hq13⟩ := HP13.out.out
    have HB13 : Hid (Below w.heap.size w w12) := HB12.out.trans (hk13.below (fun q h => by rcases h with h | h; (have := HGO.out; omega); (have := HBLK7.out q h; have := HGO.out; omega)) HB12.out.size)
    have hzz : w12.cell? ⟨g, 0, none⟩ = some (.int .i64 3) := (HZ12.out.keeps hk13 (fun h => by rcases h with h | h; (have := HGO.out; omega); (have := HBLK7.out _ h; have := HGO.out; omega))).cell E0.out
    obtain ⟨o13, ho13⟩ : ∃ z, outN o0 3 = z := ⟨_, rfl⟩
    have hob13 : o13.bs = enR 3 xs := by
      rw [← ho13]
      rw [outL_n E0.out]
      unfold outL enR o0 recM
      simp
    rw [ho13] at hoa13
    have z3 : w12.cell? ⟨g5, 0, none⟩ = some (.slice A13 o13.bs.length c13) := hoa13.B.cell (j := 0) rfl
    have hol : o13.bs.length ≤ 900000000 := by
      rw [hob13]
      have h9 := outL_len HF.out.str o0 (recM 3)
      have e9 : (outL (recM 3) xs o0).bs = enR 3 xs := by unfold outL o0 enR; simp
      rw [e9] at h9
      exact Nat.le_trans h9 (by rw [show (recM 3).length = 1 from by decide +kernel]; show 0 + 100009 * _ ≤ _; omega)
    have hfr := rFrame_any (cap := c13) hoa13.O.rd hol
    rw [hob13] at hfr
    rw [hob13] at z3
    have HFr := Lib.hid hfr
    clear hoa13 hk13 hq13 hob13 ho13 hol hfr HP13 HZ12 HOA12
    go_wp2_with (go_at_call 31; refine HFr.out.mono ?_; intro x14 w14 hfe; obtain ⟨A14, c14, rfl, h2, h3, h4⟩ := hfe; have HO14 := Lib.hid h2; have HF14 := Lib.hid h3; have HB14 := Lib.hid h4; clear h2 h3 h4 HFr)
    go_ret2
    refine ⟨A14, c14, ?_, ?_, HF14.out.mono HB13.out.size, HB13.out.trans (HB14.out.mono HB13.out.size)⟩
    · rw [HE.out]; rfl
    · rw [HE.out]; exact HO14.out
end Go.Proofs.Ytkfgedgjpgehoaa
