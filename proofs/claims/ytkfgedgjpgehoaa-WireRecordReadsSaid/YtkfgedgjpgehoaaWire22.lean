/- able and long of the statements on wire; messages and records that came in. No conditions. -/
import Derived.Test.YtkfgedgjpgehoaaWireK3
import Derived.Test.YtkfgedgjpgehoaaWire20
import Derived.Test.YtkfgedgjpgehoaaCellsO
namespace Go.Proofs.Ytkfgedgjpgehoaa
open Go.ChangeShapes Go.WideShapes Go.ChangeAt Go.RowKit
set_option linter.unusedVariables false
set_option linter.unusedSimpArgs false
namespace Wi
set_option maxRecDepth 100000 in
theorem cutC : framedC (recC (recZ 3)) = ([0, 1, 3, 75, 11, 190, 55], 0) := by decide +kernel
theorem recZ_ok (k : Int) : Cells.Ok recK (recZ k) := by simp [recK, entryK, chainKd, recZ, entZ, chZ, z0, Cells.Ok, Cells.ok]
theorem recZ_str (k : Int) : Sm (recZ k) := fun j s h => by
  have := List.mem_of_getElem? h
  simp [recZ, entZ, chZ, z0] at this
  subst this; exact Nat.zero_le _
theorem recZ_fed (k : Int) : Fed recK (recZ k) := ⟨recZ_ok k, recZ_str k⟩
set_option maxRecDepth 100000 in
theorem cutR : readR [0, 1, 3, 75, 11, 190, 55] = (recZ 3, 7, 0) := by
  obtain ⟨k, hg⟩ := goodR_of (recZ_fed 3) (by rw [cutC])
  have h1 := hg.fr
  rw [cutC] at h1
  have h2 := readR_enc (recZ_fed 3) hg []
  rw [List.append_nil, ← (Prod.mk.inj h1).1] at h2
  exact h2
theorem cutS : sB [0, 1, 3, 75, 11, 190, 55] = ⟨#[0, 1, 3, 75, 11, 190, 55]⟩ := rfl
end Wi
@[go_sem] theorem build_cut (w : World) : (Instr.build 37 #[(0, Value.int .i64 3)]).run Try.prog w = .ok (.agg (Wi.recZ 3).toArray) w := run_build w _ _ _ (by kernel_rfl)
open Wi in
set_option maxRecDepth 100000 in
set_option maxHeartbeats 4000000 in
theorem wireAble_any (w : World) :
    Calls Try.prog 14 #[] w fun e w' => e = .returned (.bool true) ∧ Below w.heap.size w w' := by
  have HR := Lib.hid (rec_any (w := w) (recZ_fed 3))
  go_enter Try.func14, Try.ntmps14
  go_upto_region 2 with (go_at_call 15; refine HR.out.mono ?_; intro x1 w1 hfe; obtain ⟨A1, c1, rfl, h2, h3, h4⟩ := hfe; rw [cutC] at h2; have HO := Lib.hid h2; have HB := Lib.hid h4; clear h2 h3 h4 HR)
  rw [cutC]
  obtain ⟨g1, o1, rfl⟩ := HO.out.form (by decide)
  have hone := Lib.hid (okL_one (recZ_ok 3))
  go_upto_region 3 with (first
    | (at_builtin; refine Mem.wpList_clone _ rfl (.tmp 12) (.tmp 13) _ rfl bytes_elem w1.heap.size rfl w1 w1.heap.size (some ⟨g1, o1, none⟩) 7 c1 _ rfl ?_ rfl (Below.refl _ _) (Nat.le_refl _) HO.out.rd rfl (Mem.bytes_one _) (by unfold maxLen; omega) (by omega); intro A2 c2 w2 hown hb2 hs2 hf2; have HO2 := Lib.hid hown; have HB2 := Lib.hid hb2; have HRR := Lib.hid (readRecord_any hown.rd hown.le (by simp) hown.cap); clear hown hb2 hs2 hf2)
    | (go_at_call 17; refine HRR.out.mono ?_; intro x3 w3 hrr; obtain ⟨rfl, h3⟩ := hrr; have HB3 := Lib.hid h3; clear h3 HRR; rw [cutR])
    | ((with_reducible refine Mem.store_agg _ _ record_agg w3.heap.size zeroR (recZ 3) ?hx ?hy ?hb rfl hone.out ?_); ((case hx => exact rfl); (case hy => exact rfl); (case hb => exact Mem.Bx.new w3 _ zeroR.toArray rfl rfl); intro w4 hb4 hk4 hs4; have HZ4 := Lib.hid hb4; have HK4 : Hid (Below w3.heap.size w3 w4) := (hk4.newBox rfl).belowAll; clear hb4 hk4 hs4)))
  have hB13 : Below w1.heap.size w1 w4 := (HB2.out.trans (HB3.out.mono HB2.out.size)).trans (HK4.out.mono (HB2.out.trans (HB3.out.mono HB2.out.size)).size)
  have HBE : Hid (Below w.heap.size w w4) := HB.out.trans (hB13.mono HB.out.size)
  have hcv := Mem.conv_all (P := Try.prog) (w := w4) (cap := c1) 39 9 5 bytes_under u8_under string_under ((HO.out.rd).below hB13) (n := 7) rfl
  rw [cutS] at hcv
  have x0 : w4.cell? ⟨w3.heap.size, 0, none⟩ = some (.int .i64 3) := HZ4.out.cell rfl
  clear hB13 HO HO2 HB2 HB3 HK4 HZ4 HB hone
  go_wp2
  go_ret
  exact ⟨rfl, HBE.out⟩
namespace Wi
/-- a message or a record that came in -/
structure MsgIn (ks : List Cells.Kd) (xs : List Value) : Prop where
  ok : Cells.Ok ks xs
  inn : Cells.In xs
theorem kd_str : ∀ k, k < 74 → msgK[k]? = some .s → k = 33 ∨ k = 34 ∨ k = 48 ∨ k = 49 := by decide +kernel
theorem ok_str_at {ks : List Cells.Kd} {xs : List Value} (h : Cells.Ok ks xs) {k : Nat} {s : ByteArray} (hk : xs[k]? = some (.string s)) : ks[k]? = some .s := by
  have hl := (List.getElem?_eq_some_iff.1 hk).1
  rw [h.len] at hl
  obtain ⟨v, h1, h2⟩ := h.get (k := k) (kd := ks[k]) (List.getElem?_eq_getElem hl)
  rw [hk] at h1
  cases h1
  rw [List.getElem?_eq_getElem hl]
  match hkd : ks[k], h2 with
  | .s, _ => rfl
  | .i, h2 => obtain ⟨n, h2⟩ := h2; cases h2
  | .b, h2 => obtain ⟨n, h2⟩ := h2; cases h2
theorem MsgIn.str {ks : List Cells.Kd} {xs : List Value} (h : MsgIn ks xs) {k : Nat} (hk : ks[k]? = some .s) : ∃ s : ByteArray, xs[k]? = some (.string s) ∧ s.size ≤ 140737488351232 := by
  obtain ⟨_, h1, s, rfl⟩ := h.ok.get hk
  exact ⟨s, h1, (h.inn _ (List.mem_of_getElem? h1)).1 s rfl⟩
def strN (xs : List Value) (k : Nat) : Nat := match xs[k]? with
  | some (.string s) => s.size
  | _ => 0
theorem strN_of {xs : List Value} {k : Nat} {s : ByteArray} (h : xs[k]? = some (.string s)) : strN xs k = s.size := by unfold strN; rw [h]
/-- is it long -/
def longV (xs : List Value) : Bool := decide (100000 < strN xs 48 + strN xs 49 + strN xs 33 + strN xs 34)
theorem fed_of {xs : List Value} (h : MsgIn msgK xs) (hl : longV xs = false) : Fed msgK xs := by
  obtain ⟨s33, e33, z33⟩ := h.str (k := 33) rfl
  obtain ⟨s34, e34, z34⟩ := h.str (k := 34) rfl
  obtain ⟨s48, e48, z48⟩ := h.str (k := 48) rfl
  obtain ⟨s49, e49, z49⟩ := h.str (k := 49) rfl
  have hle : ¬ 100000 < strN xs 48 + strN xs 49 + strN xs 33 + strN xs 34 := by unfold longV at hl; simpa using hl
  rw [strN_of e33, strN_of e34, strN_of e48, strN_of e49] at hle
  refine ⟨h.ok, fun k s hk => ?_⟩
  have hlt := (List.getElem?_eq_some_iff.1 hk).1
  rw [h.ok.len] at hlt
  rcases kd_str k hlt (ok_str_at h.ok hk) with rfl | rfl | rfl | rfl
  · rw [e33] at hk; cases hk; omega
  · rw [e34] at hk; cases hk; omega
  · rw [e48] at hk; cases hk; omega
  · rw [e49] at hk; cases hk; omega
def LgEnd (w : World) (b : Bool) (x : Ending) (w' : World) : Prop := x = .returned (.bool b) ∧ Below w.heap.size w w'
end Wi
open Wi in
set_option maxRecDepth 100000 in
set_option maxHeartbeats 4000000 in
theorem wireLong_any {w : World} {xs : List Value} {b : Bool} (h : Wi.MsgIn Wi.msgK xs) (hb : Wi.longV xs = b) :
    Calls Try.prog 19 #[.agg xs.toArray] w (Wi.LgEnd w b) := by
  obtain ⟨s33, e33, z33⟩ := h.str (k := 33) rfl
  obtain ⟨s34, e34, z34⟩ := h.str (k := 34) rfl
  obtain ⟨s48, e48, z48⟩ := h.str (k := 48) rfl
  obtain ⟨s49, e49, z49⟩ := h.str (k := 49) rfl
  have d1 : decide ((100000 : Int) < (s48.size : Int) + (s49.size : Int) + (s33.size : Int) + (s34.size : Int)) = b := by
    rw [← hb]; unfold longV
    rw [strN_of e33, strN_of e34, strN_of e48, strN_of e49]
    by_cases h9 : 100000 < s48.size + s49.size + s33.size + s34.size
    · rw [decide_eq_true h9]; simp; omega
    · rw [decide_eq_false h9]; simp; omega
  obtain ⟨w1, hw1⟩ : ∃ w1, w.alloc (.cells xs.toArray 55) = w1 := ⟨_, rfl⟩
  have hz1 : Mem.Bx w1 55 74 w.heap.size xs := by rw [← hw1]; exact Mem.Bx.new w 55 xs.toArray (by rw [List.size_toArray, h.ok.len]; rfl) rfl
  have x33 : w1.cell? ⟨w.heap.size, 33, none⟩ = some (.string s33) := hz1.cell e33
  have x34 : w1.cell? ⟨w.heap.size, 34, none⟩ = some (.string s34) := hz1.cell e34
  have x48 : w1.cell? ⟨w.heap.size, 48, none⟩ = some (.string s48) := hz1.cell e48
  have x49 : w1.cell? ⟨w.heap.size, 49, none⟩ = some (.string s49) := hz1.cell e49
  have HB : Hid (Below w.heap.size w w1) := by show Below _ _ _; rw [← hw1]; exact Reg.below_new _ _
  clear hb h e33 e34 e48 e49 hz1
  go_enter Try.func19, Try.ntmps19
  go_upto_region 1 with fail
  try rw [hw1]
  clear hw1
  cases b
  · go_wp2
    go_ret
    exact ⟨rfl, HB.out⟩
  · go_wp2
    go_ret
    exact ⟨rfl, HB.out⟩
theorem msgK_chk : Cells.chk Try.prog 9 55 = some (true, Wi.msgK) := by kernel_rfl
theorem recK_chk : Cells.chk Try.prog 9 37 = some (true, Wi.recK) := by kernel_rfl
theorem msgK_eq : Cells.EqT Try.prog 55 9 true Wi.msgK := Cells.chk_ok 9 _ _ _ msgK_chk
theorem agg_struct {P : Program} {W : World} {base : Nat} {t : TypeId} {fs : Array Field} {v : Value} (hu : P.underlying t = some (.struct fs)) (o : Value.okWide P W .any base t v) : ∃ cs : List Value, v = .agg cs.toArray ∧ cs.length = P.cellsOf t := by
  simp only [Value.okWide, hu] at o
  obtain ⟨cs, h1, h2, _⟩ := o
  exact ⟨cs.toList, by rw [h1], by rw [← h2]; simp⟩
set_option maxRecDepth 100000
section
variable {H : Type} {enc : TypeId × Value → H} {W : World}
theorem open_msg {base : Nat} {v : Value} {d : DataW H} {p : List MemPlace} (o : Value.okWide Try.prog W .any base 55 v) (k : DataW.Trod enc Try.prog W 0 (fun _ => true) true 55 v d p) (hz : (d.weights Try.prog 55).all (· ≤ reachBytes) = true) :
    ∃ xs : List Value, v = .agg xs.toArray ∧ Wi.MsgIn Wi.msgK xs := by
  obtain ⟨cs, rfl, hl⟩ := agg_struct Try.underlying55 o
  obtain ⟨m, hm⟩ := k
  have h := Cells.open_chk 9 _ _ _ msgK_chk m _ (d, p) hm hz
  rw [show (Value.agg cs.toArray).cells.toList = cs by simp [Value.cells]] at h
  exact ⟨cs, rfl, h.1, h.2⟩
theorem open_rec {base : Nat} {v : Value} {d : DataW H} {p : List MemPlace} (o : Value.okWide Try.prog W .any base 37 v) (k : DataW.Trod enc Try.prog W 0 (fun _ => true) true 37 v d p) (hz : (d.weights Try.prog 37).all (· ≤ reachBytes) = true) :
    ∃ xs : List Value, v = .agg xs.toArray ∧ Wi.MsgIn Wi.recK xs := by
  obtain ⟨cs, rfl, hl⟩ := agg_struct Try.underlying37 o
  obtain ⟨m, hm⟩ := k
  have h := Cells.open_chk 9 _ _ _ recK_chk m _ (d, p) hm hz
  rw [show (Value.agg cs.toArray).cells.toList = cs by simp [Value.cells]] at h
  exact ⟨cs, rfl, h.1, h.2⟩
theorem dec_byte {n : Nat} {cs : List Value} {x : DataW H × List MemPlace} (h : DataW.trod enc Try.prog W 0 (fun _ => true) true n 5 cs = some x) : ∃ c : UInt8, cs = [Mem.byteV c] := by
  obtain ⟨m, rfl, _, hw⟩ := DataW.trod_int Try.underlying5 h
  obtain ⟨h1, h2⟩ := bounds_u8 hw
  refine ⟨UInt8.ofNat m.toNat, ?_⟩
  unfold Mem.byteV
  have e : (UInt8.ofNat m.toNat).toNat = m.toNat := by simp; omega
  rw [e, show ((m.toNat : Nat) : Int) = m by omega]
theorem open_bytes {base : Nat} {v : Value} {d : DataW H} {p : List MemPlace} (o : Value.okWide Try.prog W .any base 39 v) (k : DataW.Trod enc Try.prog W 0 (fun _ => true) true 39 v d p) (hz : (d.weights Try.prog 39).all (· ≤ reachBytes) = true) :
    ∃ (A : Option Addr) (c : Nat) (bs : List UInt8), v = .slice A bs.length c ∧ bs.length ≤ c ∧ c ≤ 140737488351232 ∧ Mem.Rd W W.heap.size A (bs.map Mem.byteV) := by
  obtain ⟨A, c, l, h1, h2, h3, h4, h5, _⟩ := Mem.open_slice_sz (α := UInt8) (sz := 1) Try.underlying39 (by kernel_rfl) (by omega) (fun b => [Mem.byteV b]) (fun _ => rfl) (fun _ => True) (fun n cs x h hl hz => by obtain ⟨b, hb⟩ := dec_byte h; exact ⟨b, hb, trivial⟩) o k hz
  have kb : Try.prog.bytesOf 5 = 1 := by kernel_rfl
  rw [kb] at h3
  unfold reachBytes at h3
  rw [Mem.flat_one] at h4
  exact ⟨A, c, l, h1, h2, by omega, h4⟩
end
end Go.Proofs.Ytkfgedgjpgehoaa
