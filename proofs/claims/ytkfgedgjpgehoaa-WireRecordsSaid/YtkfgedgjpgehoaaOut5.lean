/- The walk of the document's Msg: it answers as the program's. Cells of the right kinds, short texts. -/
import Derived.Test.YtkfgedgjpgehoaaOut4
import Derived.Test.YtkfgedgjpgehoaaWireLR
namespace Go.Proofs.Ytkfgedgjpgehoaa
open Go.ChangeShapes Go.WideShapes Go.ChangeAt Go.RowKit
set_option linter.unusedVariables false
set_option linter.unusedSimpArgs false
set_option maxRecDepth 100000
namespace Wi
def kN (xs : List Value) : Mo → Bool
  | .k k lo hi => argM xs (.k k lo hi)
  | _ => false
theorem arg_split (xs : List Value) (op : Mo) : argM xs op = (badN xs op || kN xs op) := by
  cases op <;> simp [argM, badN, kN]
theorem any_split (xs : List Value) : ∀ ops : List Mo, ops.any (argM xs) = (ops.any (badN xs) || ops.any (kN xs))
  | [] => rfl
  | op :: ops => by
    rw [List.any_cons, List.any_cons, List.any_cons, arg_split, any_split xs ops]
    cases badN xs op <;> cases kN xs op <;> simp
def notK (J : List Nat) : Mo → Bool
  | .n k => !J.contains k
  | _ => true
theorem any_bad {xs ys : List Value} {J : List Nat} (h : ∀ k, k ∉ J → xs[k]? = ys[k]?) : ∀ ops : List Mo, ops.all (notK J) = true → ops.any (badN xs) = ops.any (badN ys)
  | [], _ => rfl
  | op :: ops, ha => by
    rw [List.all_cons, Bool.and_eq_true] at ha
    rw [List.any_cons, List.any_cons, any_bad h ops ha.2]
    congr 1
    cases op with
    | n k =>
      have hk : k ∉ J := by have := ha.1; simpa [notK] using this
      simp only [badN, argM, h k hk]
    | b k => rfl
    | t k m => rfl
    | k k lo hi => rfl
def o0 : Od := ⟨[], false⟩
theorem arB_eq {xs : List Value} {v0 : Int} (h : xs[0]? = some (.int .i64 v0)) : arB xs = (msgM.any (badN xs) || (decide (v0 < 1) || decide (14 < v0))) := by
  unfold arB
  rw [any_split]
  congr 1
  simp [msgM, ns, chainM, writeM, kN, argM_k h, List.any_append, List.range']
theorem loB_eq {xs : List Value} {s33 s34 s48 s49 : ByteArray} (h33 : xs[33]? = some (.string s33)) (h34 : xs[34]? = some (.string s34)) (h48 : xs[48]? = some (.string s48)) (h49 : xs[49]? = some (.string s49)) : loB xs = longS [(s48, s49), (s33, s34)] := by
  unfold loB longS longP
  simp [msgM, ns, chainM, writeM, longM, h33, h34, h48, h49, List.any_append, List.range']
  have e16 : ∀ n : Nat, decide ((16 : Int) < (n : Int)) = decide (16 < n) := fun n => decide_eq_decide.2 (by omega)
  have e32 : ∀ n : Nat, decide ((32 : Int) < (n : Int)) = decide (32 < n) := fun n => decide_eq_decide.2 (by omega)
  rw [e16, e32, e16, e32]
  cases decide (16 < s33.size) <;> cases decide (32 < s34.size) <;> cases decide (16 < s48.size) <;> cases decide (32 < s49.size) <;> rfl
theorem msgM_length : msgM.length = 75 := by simp [msgM, ns, chainM, writeM]
def tinyM (xs : List Value) : List Value := (((xs.set 48 (.string ⟨#[]⟩)).set 49 (.string ⟨#[]⟩)).set 33 (.string ⟨#[]⟩)).set 34 (.string ⟨#[]⟩)
theorem tiny_ok {xs : List Value} (h : Cells.Ok msgK xs) : Cells.Ok msgK (tinyM xs) := by
  obtain ⟨_, h33, s33, rfl⟩ := h.get (k := 33) (kd := .s) rfl
  obtain ⟨_, h34, s34, rfl⟩ := h.get (k := 34) (kd := .s) rfl
  obtain ⟨_, h48, s48, rfl⟩ := h.get (k := 48) (kd := .s) rfl
  obtain ⟨_, h49, s49, rfl⟩ := h.get (k := 49) (kd := .s) rfl
  have g1 := h.same (v' := .string ⟨#[]⟩) h48 (fun _ h => Cells.ok_str h)
  have g2 := g1.same (k := 49) (v := .string s49) (v' := .string ⟨#[]⟩) (by rw [List.getElem?_set_ne (by decide)]; exact h49) (fun _ h => Cells.ok_str h)
  have g3 := g2.same (k := 33) (v := .string s33) (v' := .string ⟨#[]⟩) (by rw [List.getElem?_set_ne (by decide), List.getElem?_set_ne (by decide)]; exact h33) (fun _ h => Cells.ok_str h)
  exact g3.same (k := 34) (v := .string s34) (v' := .string ⟨#[]⟩) (by rw [List.getElem?_set_ne (by decide), List.getElem?_set_ne (by decide), List.getElem?_set_ne (by decide)]; exact h34) (fun _ h => Cells.ok_str h)
theorem sm_set {xs : List Value} (h : Sm xs) (k : Nat) : Sm (xs.set k (.string ⟨#[]⟩)) := fun j s hj => by
  by_cases hk : k = j
  · subst hk
    by_cases hl : k < xs.length
    · rw [List.getElem?_set_self hl] at hj; cases hj; exact Nat.zero_le _
    · rw [List.set_eq_of_length_le (by omega)] at hj; exact h k s hj
  · rw [List.getElem?_set_ne hk] at hj; exact h j s hj
theorem tiny_sm {xs : List Value} (h : Sm xs) : Sm (tinyM xs) := sm_set (sm_set (sm_set (sm_set h 48) 49) 33) 34
theorem tiny_bad (xs : List Value) : msgM.any (badN (tinyM xs)) = msgM.any (badN xs) := by
  refine any_bad (J := [33, 34, 48, 49]) (fun k hk => ?_) msgM (by decide +kernel)
  simp at hk
  unfold tinyM
  rw [List.getElem?_set_ne (by omega), List.getElem?_set_ne (by omega), List.getElem?_set_ne (by omega), List.getElem?_set_ne (by omega)]
end Wi
@[go_sem] theorem build_out0 (w : World) : (Instr.build 73 #[]).run Try.prog w = .ok (.agg #[.slice none 0 0, .bool false]) w := run_build w _ _ _ (by kernel_rfl)
theorem out_new (w : World) : Wi.OAt (w.alloc (.cells #[.slice none 0 0, .bool false] 73)) w.heap.size none 0 Wi.o0 :=
  ⟨Mem.Bx.new w 73 #[.slice none 0 0, .bool false] rfl rfl, Wi.own_none, fun k h => by simp [Mem.blk] at h⟩
open Wi in
set_option maxHeartbeats 4000000 in
theorem rMsg_any {w : World} {xs : List Value} (hf : Wi.Fed Wi.msgK xs) :
    Calls Try.prog 21 #[.agg xs.toArray] w (Wi.FrEnd w (Wi.msgC xs)) := by
  have HF := Lib.hid hf
  have hlx : Hid (xs.length = 74) := hf.ok.len
  have hone := Lib.hid (okL_one hf.ok)
  obtain ⟨w1, hw1⟩ : ∃ w1, w.alloc (.cells xs.toArray 55) = w1 := ⟨_, rfl⟩
  have hz1 : Mem.Bx w1 55 74 w.heap.size xs := by rw [← hw1]; exact Mem.Bx.new w 55 xs.toArray (by rw [List.size_toArray, hlx.out]) rfl
  have hk1 : Below w.heap.size w w1 := by rw [← hw1]; exact Reg.below_new _ _
  obtain ⟨g, hg⟩ : ∃ g, w.heap.size = g := ⟨_, rfl⟩
  have hgl := hz1.lt
  rw [hg] at hz1 hgl
  have HZ1 := Lib.hid hz1
  have HW1 := Lib.hid hw1
  have HB1 := Lib.hid hk1
  have HG := Lib.hid hg
  clear hf hw1 hz1 hk1 hg
  go_enter Try.func21, Try.ntmps21
  go_upto_region 1 with fail
  rw [HW1.out, HG.out]
  go_upto_region 2 with fail
  go_upto_region 3 with (first | ((with_reducible refine Mem.load_agg _ _ msg_agg g 0 xs ?hxa hlx.out (fun j u hu => by rw [Nat.zero_add]; exact (HZ1.out.keeps ((Mem.Keeps.refl (fun _ => False) w1).alloc _) (fun h => h)).cell hu) ?_); case hxa => exact rfl) | ((with_reducible refine Mem.store_agg _ _ msg_agg w1.heap.size zeroM xs ?hx ?hy ?hb hlx.out hone.out ?_); ((case hx => exact rfl); (case hy => exact rfl); (case hb => exact msgBox_new w1); intro w3 hb4 hk4 hs4; have HY3 := Lib.hid hb4; have HK3 : Hid (Below w1.heap.size w1 w3) := (hk4.newBox rfl).belowAll; clear hb4 hk4 hs4)))
  obtain ⟨g2, hg2⟩ : ∃ g2, w1.heap.size = g2 := ⟨_, rfl⟩
  rw [hg2] at HY3 hgl ⊢
  have HG2 := Lib.hid hg2
  obtain ⟨s33, e33⟩ : ∃ s, xs[33]? = some (.string s) := by obtain ⟨_, h1, s, rfl⟩ := HF.out.ok.get (k := 33) (kd := .s) rfl; exact ⟨s, h1⟩
  obtain ⟨s34, e34⟩ : ∃ s, xs[34]? = some (.string s) := by obtain ⟨_, h1, s, rfl⟩ := HF.out.ok.get (k := 34) (kd := .s) rfl; exact ⟨s, h1⟩
  obtain ⟨s48, e48⟩ : ∃ s, xs[48]? = some (.string s) := by obtain ⟨_, h1, s, rfl⟩ := HF.out.ok.get (k := 48) (kd := .s) rfl; exact ⟨s, h1⟩
  obtain ⟨s49, e49⟩ : ∃ s, xs[49]? = some (.string s) := by obtain ⟨_, h1, s, rfl⟩ := HF.out.ok.get (k := 49) (kd := .s) rfl; exact ⟨s, h1⟩
  obtain ⟨v0, e0⟩ : ∃ v, xs[0]? = some (.int .i64 v) := by obtain ⟨_, h1, s, rfl⟩ := HF.out.ok.get (k := 0) (kd := .i) rfl; exact ⟨s, h1⟩
  have y33 : w3.cell? ⟨g2, 33, none⟩ = some (.string s33) := HY3.out.cell e33
  have y34 : w3.cell? ⟨g2, 34, none⟩ = some (.string s34) := HY3.out.cell e34
  have y48 : w3.cell? ⟨g2, 48, none⟩ = some (.string s48) := HY3.out.cell e48
  have y49 : w3.cell? ⟨g2, 49, none⟩ = some (.string s49) := HY3.out.cell e49
  have yf := HY3.out.fr
  have E33 := Lib.hid e33
  have E34 := Lib.hid e34
  have E48 := Lib.hid e48
  have E49 := Lib.hid e49
  have E0 := Lib.hid e0
  clear e33 e34 e48 e49 e0 hg2
  go_upto_region 7 with fail
  obtain ⟨w4, hw4⟩ : ∃ w4, ((((w3.setCell ⟨g2, 48, none⟩ (.string ⟨#[]⟩)).setCell ⟨g2, 49, none⟩ (.string ⟨#[]⟩)).setCell ⟨g2, 33, none⟩ (.string ⟨#[]⟩)).setCell ⟨g2, 34, none⟩ (.string ⟨#[]⟩)) = w4 := ⟨_, rfl⟩
  have HY4 : Hid (Mem.Bx w4 55 74 g2 (tinyM xs)) := by show Mem.Bx _ _ _ _ _; rw [← hw4]; exact (((HY3.out.set 48 _).set 49 _).set 33 _).set 34 _
  have hk34 : Mem.Keeps (fun q => q = g2) w3 w4 := by
    rw [← hw4]
    exact ((((Mem.Keeps.refl (fun q => q = g2) w3).setCell (p := ⟨g2, 48, none⟩) (fun _ => rfl) _).setCell (p := ⟨g2, 49, none⟩) (fun _ => rfl) _).setCell (p := ⟨g2, 33, none⟩) (fun _ => rfl) _).setCell (p := ⟨g2, 34, none⟩) (fun _ => rfl) _
  have hg2g : g2 ≠ g := by omega
  have HZ4 : Hid (Mem.Bx w4 55 74 g xs) := (HZ1.out.keeps (Mem.Keeps.of_below HK3.out) id).keeps hk34 (fun h => hg2g h.symm)
  have hgw : w.heap.size ≤ g := Nat.le_of_eq HG.out
  have hb3 : Below w.heap.size w w3 := HB1.out.trans (HK3.out.mono HB1.out.size)
  have HB4 : Hid (Below w.heap.size w w4) := hb3.trans (hk34.below (fun q h => by omega) hb3.size)
  rw [hw4]
  clear hw4 hk34 hb3 y33 y34 y48 y49 yf HY3 HZ1 HK3 HB1 hone
  go_upto_region 8 with fail
  obtain ⟨w5, hw5⟩ : ∃ w5, w4.alloc (.cells #[.slice none 0 0, .bool false] 73) = w5 := ⟨_, rfl⟩
  have hoa : OAt w5 w4.heap.size none 0 o0 := by rw [← hw5]; exact out_new w4
  have hk45 : Below w4.heap.size w4 w5 := by rw [← hw5]; exact Reg.below_new _ _
  have HY5 : Hid (Mem.Bx w5 55 74 g2 (tinyM xs)) := HY4.out.keeps (Mem.Keeps.of_below hk45) id
  have HZ5 : Hid (Mem.Bx w5 55 74 g xs) := HZ4.out.keeps (Mem.Keeps.of_below hk45) id
  have HB5 : Hid (Below w.heap.size w w5) := HB4.out.trans (hk45.mono HB4.out.size)
  have hgl4 := HZ4.out.lt
  have hwl4 := HB4.out.size
  obtain ⟨g3, hg3⟩ : ∃ g3, w4.heap.size = g3 := ⟨_, rfl⟩
  rw [hg3] at hoa hgl4 hwl4 ⊢
  have hgl5 := hoa.B.lt
  rw [hw5]
  obtain ⟨ys, hys⟩ : ∃ ys, tinyM xs = ys := ⟨_, rfl⟩
  have hyo : Cells.Ok msgK ys := by rw [← hys]; exact tiny_ok HF.out.ok
  have hym : Sm ys := by rw [← hys]; exact tiny_sm HF.out.str
  have hbd : (outL msgM ys o0).bad = msgM.any (badN xs) := by rw [← hys, ← tiny_bad xs]; rfl
  rw [hys] at HY5
  have hly : Hid (ys.length = 74) := hyo.len
  have HM := Lib.hid (oMessage_any hyo hym hoa (by show (0 : Nat) ≤ _; omega))
  have HBD := Lib.hid hbd
  clear hw5 hoa hk45 hg3 hys hyo hym hbd HY4 HZ4 HB4
  go_upto_region 9 with (first | ((with_reducible refine Mem.load_agg _ _ msg_agg g2 0 ys ?hxb hly.out (fun j u hu => by rw [Nat.zero_add]; exact HY5.out.cell hu) ?_); case hxb => exact rfl) | (go_at_call 39; refine HM.out.mono ?_; rintro x6 w6 ⟨rfl, hp⟩; have HP := Lib.hid hp; clear hp HM))
  obtain ⟨A6, c6, hoa6, hk6, hq6⟩ := HP.out.out
  have z1 : w6.cell? ⟨g3, 1, none⟩ = some (.bool (msgM.any (badN xs))) := by rw [← HBD.out]; exact hoa6.B.cell (j := 1) rfl
  have hZ6 : Mem.Bx w6 55 74 g xs := HZ5.out.keeps hk6 (fun h => by rcases h with h | h; omega; simp [Mem.blk] at h)
  have HZ6 := Lib.hid hZ6
  have z0 : w6.cell? ⟨g, 0, none⟩ = some (.int .i64 v0) := hZ6.cell E0.out
  have HB6 : Hid (Below w.heap.size w w6) := HB5.out.trans (hk6.below (fun q h => by rcases h with h | h; omega; simp [Mem.blk] at h) HB5.out.size)
  have harg : arB xs = (msgM.any (badN xs) || (decide (v0 < 1) || decide (14 < v0))) := arB_eq E0.out
  have hfe : framedC (msgC xs) = if arB xs = true then ([], 1) else if loB xs = true then ([], 42) else (frameB (enB xs), 0) := by rw [msgC_eq HF.out]; rfl
  have hlo : loB xs = longS [(s48, s49), (s33, s34)] := loB_eq E33.out E34.out E48.out E49.out
  have HAR := Lib.hid harg
  have HFE := Lib.hid hfe
  have HLO := Lib.hid hlo
  obtain ⟨bd, hbd⟩ : ∃ bd, msgM.any (badN xs) = bd := ⟨_, rfl⟩
  rw [hbd] at z1 HAR
  clear hoa6 hk6 hq6 hZ6 harg hfe hlo hbd HP HY5 HZ5 HB5 HBD
  have bad : arB xs = true → Hid (framedC (msgC xs) = ([], 1)) := fun h => by show _ = _; rw [HFE.out, if_pos h]
  cases bd
  case' true =>
    have HE := bad (by rw [HAR.out]; rfl)
    clear bad
    go_wp2
    go_ret2
    refine ⟨none, 0, ?_, ?_, Mem.From.of_blk (fun k h => by cases h), HB6.out⟩
    · rw [HE.out]; rfl
    · rw [HE.out]; exact own_none
  by_cases e1 : v0 < 1
  case' pos =>
    have d1 : decide (v0 < 1) = true := by simpa using e1
    have HE := bad (by rw [HAR.out, d1]; rfl)
    clear bad e1
    go_wp2
    go_ret2
    refine ⟨none, 0, ?_, ?_, Mem.From.of_blk (fun k h => by cases h), HB6.out⟩
    · rw [HE.out]; rfl
    · rw [HE.out]; exact own_none
  have d1 : decide (v0 < 1) = false := by simp; omega
  by_cases e2 : 14 < v0
  case' pos =>
    have d2 : decide (14 < v0) = true := by simpa using e2
    have HE := bad (by rw [HAR.out, d1, d2]; rfl)
    clear bad e1 e2
    go_wp2
    go_ret2
    refine ⟨none, 0, ?_, ?_, Mem.From.of_blk (fun k h => by cases h), HB6.out⟩
    · rw [HE.out]; rfl
    · rw [HE.out]; exact own_none
  have d2 : decide (14 < v0) = false := by simp; omega
  have har : arB xs = false := by rw [HAR.out, d1, d2]; rfl
  have HA0 := Lib.hid har
  have x48 : w6.cell? ⟨g, 48, none⟩ = some (.string s48) := HZ6.out.cell E48.out
  have x33 : w6.cell? ⟨g, 33, none⟩ = some (.string s33) := HZ6.out.cell E33.out
  have x49 := fun o : Obj => Reg.cell_up (show w6.cell? ⟨g, 49, none⟩ = some (.string s49) from HZ6.out.cell E49.out) o
  have x34 := fun o : Obj => Reg.cell_up (show w6.cell? ⟨g, 34, none⟩ = some (.string s34) from HZ6.out.cell E34.out) o
  have hz4 : ∀ p ∈ [(s48, s49), (s33, s34)], p.1.size ≤ 100000 ∧ p.2.size ≤ 100000 := fun p hp => by
    rcases List.mem_cons.1 hp with rfl | hp
    · exact ⟨HF.out.str _ _ E48.out, HF.out.str _ _ E49.out⟩
    · rw [List.mem_singleton] at hp; subst hp
      exact ⟨HF.out.str _ _ E33.out, HF.out.str _ _ E34.out⟩
  have HZ4 := Lib.hid hz4
  clear bad har e1 e2 hz4
  go_upto_region 11 with fail
  clear d1 d2 z0 z1
  go_upto_region 12 with fail
  obtain ⟨w7, hw7⟩ : ∃ w7, w6.alloc (.cells #[.string s48, .string s33] 9) = w7 := ⟨_, rfl⟩
  have hr7 : Mem.Rd w7 (w6.heap.size + 1) (some ⟨w6.heap.size, 0, none⟩) [.string s48, .string s33] := by rw [← hw7]; exact Mem.Rd.alloc_new w6 _ _ _ rfl
  have hk67 : Below w6.heap.size w6 w7 := by rw [← hw7]; exact Reg.below_new _ _
  have hs7 : w7.heap.size = w6.heap.size + 1 := by rw [← hw7]; simp
  rw [hw7]
  obtain ⟨w8, hw8⟩ : ∃ w8, w7.alloc (.cells #[.string s49, .string s34] 9) = w8 := ⟨_, rfl⟩
  have hr8 : Mem.Rd w8 (w7.heap.size + 1) (some ⟨w7.heap.size, 0, none⟩) [.string s49, .string s34] := by rw [← hw8]; exact Mem.Rd.alloc_new w7 _ _ _ rfl
  have hk78 : Below w7.heap.size w7 w8 := by rw [← hw8]; exact Reg.below_new _ _
  have hs8 : w8.heap.size = w7.heap.size + 1 := by rw [← hw8]; simp
  rw [hw8]
  have hr7' : Mem.Rd w8 w8.heap.size (some ⟨w6.heap.size, 0, none⟩) [.string s48, .string s33] := (hr7.below (by rw [← hs7]; exact hk78)).more (by omega)
  have hr8' : Mem.Rd w8 w8.heap.size (some ⟨w7.heap.size, 0, none⟩) [.string s49, .string s34] := hr8.more (by omega)
  rw [hs7] at hr8'
  have hlg := rLong_any (w := w8) (cK := 2) (cV := 2) (ps := [(s48, s49), (s33, s34)]) hr7' hr8' HZ4.out (by simp)
  rw [← HLO.out] at hlg
  have HLG := Lib.hid hlg
  have hk68 : Below w6.heap.size w6 w8 := hk67.trans (hk78.mono hk67.size)
  have HB8 : Hid (Below w.heap.size w w8) := HB6.out.trans (hk68.mono HB6.out.size)
  have HZ8 : Hid (Mem.Bx w8 55 74 g xs) := HZ6.out.keeps (Mem.Keeps.of_below hk68) id
  clear hw7 hr7 hk67 hs7 hw8 hr8 hk78 hs8 hr7' hr8' hlg hk68 x48 x33 x49 x34 HB6 HZ6 HZ4
  refine HLG.out.mono ?_
  rintro x9 w9 ⟨rfl, hb9⟩
  have HB9 : Hid (Below w.heap.size w w9) := HB8.out.trans (hb9.mono HB8.out.size)
  have HZ9 : Hid (Mem.Bx w9 55 74 g xs) := HZ8.out.keeps (Mem.Keeps.of_below hb9) id
  clear hb9 HLG HB8 HZ8
  cases hlo : loB xs
  case' true =>
    have HE : Hid (framedC (msgC xs) = ([], 42)) := by show _ = _; rw [HFE.out, if_neg (by rw [HA0.out]; decide), if_pos hlo]
    clear hlo
    go_wp2
    go_ret2
    refine ⟨none, 0, ?_, ?_, Mem.From.of_blk (fun k h => by cases h), HB9.out⟩
    · rw [HE.out]; rfl
    · rw [HE.out]; exact own_none
  have HE : Hid (framedC (msgC xs) = (frameB (enB xs), 0)) := by show _ = _; rw [HFE.out, if_neg (by rw [HA0.out]; decide), if_neg (by rw [hlo]; decide)]
  clear hlo
  go_upto_region 14 with fail
  obtain ⟨w10, hw10⟩ : ∃ w10, w9.alloc (.cells #[.slice none 0 0, .bool false] 73) = w10 := ⟨_, rfl⟩
  have hoa : OAt w10 w9.heap.size none 0 o0 := by rw [← hw10]; exact out_new w9
  have hk10 : Below w9.heap.size w9 w10 := by rw [← hw10]; exact Reg.below_new _ _
  have HZ10 : Hid (Mem.Bx w10 55 74 g xs) := HZ9.out.keeps (Mem.Keeps.of_below hk10) id
  have HB10 : Hid (Below w.heap.size w w10) := HB9.out.trans (hk10.mono HB9.out.size)
  have hwl9 := HB9.out.size
  obtain ⟨g4, hg4⟩ : ∃ g4, w9.heap.size = g4 := ⟨_, rfl⟩
  rw [hg4] at hoa hwl9 ⊢
  rw [hw10]
  have HM2 := Lib.hid (oMessage_any HF.out.ok HF.out.str hoa (by show (0 : Nat) ≤ _; omega))
  clear hw10 hoa hk10 hg4 HZ9 HB9
  go_upto_region 15 with (first | ((with_reducible refine Mem.load_agg _ _ msg_agg g 0 xs ?hxc hlx.out (fun j u hu => by rw [Nat.zero_add]; exact HZ10.out.cell hu) ?_); case hxc => exact rfl) | (go_at_call 39; refine HM2.out.mono ?_; rintro x11 w11 ⟨rfl, hp⟩; have HP2 := Lib.hid hp; clear hp HM2))
  obtain ⟨A11, c11, hoa11, hk11, hq11⟩ := HP2.out.out
  have HB11 : Hid (Below w.heap.size w w11) := HB10.out.trans (hk11.below (fun q h => by rcases h with h | h; omega; simp [Mem.blk] at h) HB10.out.size)
  have hob : (outL msgM xs o0).bs = enB xs := by unfold outL o0 enB; simp
  obtain ⟨oo, hoo⟩ : ∃ oo, outL msgM xs o0 = oo := ⟨_, rfl⟩
  rw [hoo] at hoa11 hob
  have z0 : w11.cell? ⟨g4, 0, none⟩ = some (.slice A11 oo.bs.length c11) := hoa11.B.cell (j := 0) rfl
  have hol : oo.bs.length ≤ 900000000 := by
    rw [← hoo]
    exact Nat.le_trans (outL_len HF.out.str o0 msgM) (by rw [msgM_length]; show 0 + 100009 * _ ≤ _; omega)
  have hfr := rFrame_any (cap := c11) hoa11.O.rd hol
  rw [hob] at hfr
  have HFR := Lib.hid hfr
  rw [hob] at z0
  clear hoa11 hk11 hq11 hob hoo hol hfr HP2 HZ10 HB10
  go_wp2_with (go_at_call 31; refine HFR.out.mono ?_; intro x12 w12 hfe; obtain ⟨A12, c12, rfl, h2, h3, h4⟩ := hfe; have HO12 := Lib.hid h2; have HF12 := Lib.hid h3; have HB12 := Lib.hid h4; clear h2 h3 h4 HFR)
  go_ret2
  refine ⟨A12, c12, ?_, ?_, HF12.out.mono HB11.out.size, HB11.out.trans (HB12.out.mono HB11.out.size)⟩
  · rw [HE.out]; rfl
  · rw [HE.out]; exact HO12.out
end Go.Proofs.Ytkfgedgjpgehoaa
