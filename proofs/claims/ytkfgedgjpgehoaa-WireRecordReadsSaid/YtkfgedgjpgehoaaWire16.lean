/- The walks of Msg and Record. Cells of the right kinds; its texts are not longer than a statement's. -/
import Derived.Test.YtkfgedgjpgehoaaWire17
namespace Go.Proofs.Ytkfgedgjpgehoaa
open Go.ChangeShapes Go.WideShapes Go.ChangeAt Go.RowKit
set_option linter.unusedVariables false
set_option linter.unusedSimpArgs false
namespace Wi
def c0 : Cd := ⟨[], 0, false, false, false, false⟩
structure Fed (ks : List Cells.Kd) (xs : List Value) : Prop where
  ok : Cells.Ok ks xs
  str : ∀ (k : Nat) (s : ByteArray), xs[k]? = some (.string s) → s.size ≤ 100000
theorem Fed.sz {ks : List Cells.Kd} {xs : List Value} (h : Fed ks xs) : Sz ks (c0, xs) 0 := ⟨⟨Nat.le_refl _, Nat.le_refl _⟩, h.ok, fun _ => h.str⟩
theorem cat_new {w : World} {g : Nat} (hB : Mem.Bx w 67 6 g (cdCells none 0 c0)) : CAt w g none 0 c0 :=
  ⟨hB, by simp [c0, Mem.Rd], fun _ => own_none, fun k h => by simp [Mem.blk] at h, ⟨Nat.le_refl _, Nat.zero_le _⟩, fun k h => by simp [Mem.blk] at h⟩
def msgC (xs : List Value) : Cd := (runM msgM (c0, xs)).1
def recC (xs : List Value) : Cd := (recF (c0, xs)).1
theorem Sz.mono {ks : List Cells.Kd} {r : Cd × List Value} {L M : Nat} (h : Sz ks r L) (hM : L ≤ M) : Sz ks r M := ⟨h.fit.mono hM, h.ok, h.str⟩
theorem recB_sz {r : Cd × List Value} {L : Nat} (h : Sz recK r L) : Fit (recB r).1 (L + 3000000) := by
  have key : ∀ ops : List Mo, 100009 * ops.length ≤ 3000000 → Fit (runM ops r).1 (L + 3000000) := fun ops hM => (h.runN ops 3000000 hM).fit
  have k1 := key (writeM 1) (by rw [writeM_len]; omega)
  have k2 := key (chainM 21 ++ [.n 34]) (by rw [List.length_append, chainM_len]; simp)
  obtain ⟨k, hk⟩ := h.int (k := 0) rfl
  by_cases e1 : k = 1
  · subst e1; rw [recB_1 hk]; exact k1
  · by_cases e2 : k = 2
    · subst e2; rw [recB_2 hk]; rw [runM_app, runM_chain, runM_n] at k2; exact k2
    · by_cases e3 : k = 3
      · subst e3; rw [recB_3 hk]; exact h.fit.mono (by omega)
      · rw [recB_x hk e1 e2 e3]; exact ⟨h.fit.pos, Nat.le_trans h.fit.len (by omega)⟩
theorem recF_fit {r : Cd × List Value} {L : Nat} (h : Sz recK r L) : Fit (recF r).1 (L + 4000000) := by
  have h1 := recB_sz (h.step (.n 0))
  rw [stepM_n] at h1
  exact ⟨h1.pos, Nat.le_trans h1.len (by omega)⟩
theorem msgM_fit {r : Cd × List Value} {L : Nat} (h : Sz msgK r L) : Fit (runM msgM r).1 (L + 8000000) :=
  (h.runN msgM 8000000 (by simp [msgM, ns, chainM_len, writeM_len])).fit
/-- what a call that writes on a coder of its own leaves, framed -/
theorem FrEnd.up {w w3 w4 : World} {c : Cd} {x : Ending} (h : FrEnd w3 c x w4) (hb : Below w.heap.size w w3) : FrEnd w c x w4 := by
  obtain ⟨A', cap', h1, h2, h3, h4⟩ := h
  exact ⟨A', cap', h1, h2, h3.mono hb.size, hb.trans (h4.mono hb.size)⟩
end Wi
open Wi in
set_option maxRecDepth 100000 in
set_option maxHeartbeats 4000000 in
theorem msg_any {w : World} {xs : List Value} (hf : Wi.Fed Wi.msgK xs) :
    Calls Try.prog 20 #[.agg xs.toArray] w (Wi.FrEnd w (Wi.msgC xs)) := by
  have HF := Lib.hid hf
  have hlen := Lib.hid hf.ok.len
  clear hf
  go_enter Try.func20, Try.ntmps20
  go_upto_region 2 with fail
  obtain ⟨w1, hw1⟩ : ∃ w1, w.alloc (.cells xs.toArray 55) = w1 := ⟨_, rfl⟩
  have hz1 : Mem.Bx w1 55 74 w.heap.size xs := by rw [← hw1]; exact Mem.Bx.new w 55 xs.toArray (by rw [List.size_toArray, hlen.out]; rfl) rfl
  have hk1 : Below w.heap.size w w1 := by rw [← hw1]; exact Reg.below_new _ _
  have hg' : w1.heap.size = w.heap.size + 1 := by rw [← hw1]; simp
  rw [hw1]
  obtain ⟨w2, hw2⟩ : ∃ w2, w1.alloc (.cells #[.slice none 0 0, .int .i64 0, .bool false, .bool false, .bool false, .bool false] 67) = w2 := ⟨_, rfl⟩
  have hb2 : Mem.Bx w2 67 6 w1.heap.size (cdCells none 0 c0) := by rw [← hw2]; exact Mem.Bx.new w1 67 #[.slice none 0 0, .int .i64 0, .bool false, .bool false, .bool false, .bool false] rfl rfl
  have hk2 : Below w1.heap.size w1 w2 := by rw [← hw2]; exact Reg.below_new _ _
  have HC : Hid (CAt w2 w1.heap.size none 0 c0) := cat_new hb2
  have HZ : Hid (Mem.Bx w2 55 74 w.heap.size xs) := hz1.keeps (Mem.Keeps.of_below hk2) id
  have HB : Hid (Below w.heap.size w w2) := hk1.trans (hk2.mono hk1.size)
  have hgm := hz1.lt
  have hg2 := HC.out.B.lt
  obtain ⟨gm, hgm'⟩ : ∃ gm, w.heap.size = gm := ⟨_, rfl⟩
  rw [hw2]
  rw [hgm'] at hg'
  rw [hgm'] at HZ hgm ⊢
  rw [hg'] at HC hgm hg2
  have HGM := Lib.hid hgm'
  clear hw1 hw2 hz1 hk1 hb2 hk2 hgm' hg'
  have HN := Lib.hid (message_pass (t := 55) (A := none) (r := (c0, xs)) (Pass.refl HC.out HZ.out) HF.out.sz (by omega) (by omega) (by simp [Mem.blk]) HZ.out.lt)
  have hft := msgM_fit HF.out.sz
  obtain ⟨r, hr⟩ : ∃ r, runM msgM (c0, xs) = r := ⟨_, rfl⟩
  have hcr : msgC xs = r.1 := by unfold msgC; rw [hr]
  rw [hr] at HN hft
  have HCR := Lib.hid hcr
  clear hr hcr
  go_upto_region 3 with (go_at_call 38; refine HN.out.mono ?_; rintro x9 w3 ⟨rfl, hp⟩; have HP := Lib.hid hp; clear hp HN)
  obtain ⟨A2, cap2, p1, p2, p3, p4⟩ := HP.out.out
  have HB3 : Hid (Below w.heap.size w w3) := HB.out.trans (p3.below (B := w.heap.size) (fun q h => by rcases h with (h | h) | h; (have := HGM.out; omega); (simp [Mem.blk] at h); (have := HGM.out; omega)) HB.out.size)
  have HFR := Lib.hid (framed_any p1 (Nat.le_trans hft.len (by omega)))
  clear p1 p2 p3 p4 HP hft hgm hg2
  go_wp2_with (go_at_call 26; refine HFR.out.mono ?_; intro x9 w4 hfe; have hfe2 := hfe.up HB3.out; obtain ⟨A', cap', rfl, h2, h3, h4⟩ := hfe2; have HO := Lib.hid h2; have HFm := Lib.hid h3; have HBl := Lib.hid h4; clear hfe h2 h3 h4 HFR)
  go_ret2
  show Wi.FrEnd _ _ _ _
  rw [HCR.out]
  exact ⟨A', cap', rfl, HO.out, HFm.out, HBl.out⟩
open Wi in
set_option maxRecDepth 100000 in
set_option maxHeartbeats 4000000 in
theorem rec_any {w : World} {xs : List Value} (hf : Wi.Fed Wi.recK xs) :
    Calls Try.prog 15 #[.agg xs.toArray] w (Wi.FrEnd w (Wi.recC xs)) := by
  have HF := Lib.hid hf
  have hlen := Lib.hid hf.ok.len
  clear hf
  go_enter Try.func15, Try.ntmps15
  go_upto_region 2 with fail
  obtain ⟨w1, hw1⟩ : ∃ w1, w.alloc (.cells xs.toArray 37) = w1 := ⟨_, rfl⟩
  have hz1 : Mem.Bx w1 37 35 w.heap.size xs := by rw [← hw1]; exact Mem.Bx.new w 37 xs.toArray (by rw [List.size_toArray, hlen.out]; rfl) rfl
  have hk1 : Below w.heap.size w w1 := by rw [← hw1]; exact Reg.below_new _ _
  have hg' : w1.heap.size = w.heap.size + 1 := by rw [← hw1]; simp
  rw [hw1]
  obtain ⟨w2, hw2⟩ : ∃ w2, w1.alloc (.cells #[.slice none 0 0, .int .i64 0, .bool false, .bool false, .bool false, .bool false] 67) = w2 := ⟨_, rfl⟩
  have hb2 : Mem.Bx w2 67 6 w1.heap.size (cdCells none 0 c0) := by rw [← hw2]; exact Mem.Bx.new w1 67 #[.slice none 0 0, .int .i64 0, .bool false, .bool false, .bool false, .bool false] rfl rfl
  have hk2 : Below w1.heap.size w1 w2 := by rw [← hw2]; exact Reg.below_new _ _
  have HC : Hid (CAt w2 w1.heap.size none 0 c0) := cat_new hb2
  have HZ : Hid (Mem.Bx w2 37 35 w.heap.size xs) := hz1.keeps (Mem.Keeps.of_below hk2) id
  have HB : Hid (Below w.heap.size w w2) := hk1.trans (hk2.mono hk1.size)
  have hgm := hz1.lt
  have hg2 := HC.out.B.lt
  obtain ⟨gm, hgm'⟩ : ∃ gm, w.heap.size = gm := ⟨_, rfl⟩
  rw [hw2]
  rw [hgm'] at hg'
  rw [hgm'] at HZ hgm ⊢
  rw [hg'] at HC hgm hg2
  have HGM := Lib.hid hgm'
  clear hw1 hw2 hz1 hk1 hb2 hk2 hgm' hg'
  have HN := Lib.hid (record_pass (A := none) (r := (c0, xs)) HC.out HZ.out HF.out.sz (by omega) (by omega) (by simp [Mem.blk]))
  have hft := recF_fit HF.out.sz
  obtain ⟨r, hr⟩ : ∃ r, recF (c0, xs) = r := ⟨_, rfl⟩
  have hcr : recC xs = r.1 := by unfold recC; rw [hr]
  rw [hr] at HN hft
  have HCR := Lib.hid hcr
  clear hr hcr
  go_upto_region 3 with (go_at_call 25; refine HN.out.mono ?_; rintro x9 w3 ⟨rfl, hp⟩; have HP := Lib.hid hp; clear hp HN)
  obtain ⟨A2, cap2, p1, p2, p3, p4⟩ := HP.out.out
  have HB3 : Hid (Below w.heap.size w w3) := HB.out.trans (p3.below (B := w.heap.size) (fun q h => by rcases h with (h | h) | h; (have := HGM.out; omega); (simp [Mem.blk] at h); (have := HGM.out; omega)) HB.out.size)
  have HFR := Lib.hid (framed_any p1 (Nat.le_trans hft.len (by omega)))
  clear p1 p2 p3 p4 HP hft hgm hg2
  go_wp2_with (go_at_call 26; refine HFR.out.mono ?_; intro x9 w4 hfe; have hfe2 := hfe.up HB3.out; obtain ⟨A', cap', rfl, h2, h3, h4⟩ := hfe2; have HO := Lib.hid h2; have HFm := Lib.hid h3; have HBl := Lib.hid h4; clear hfe h2 h3 h4 HFR)
  go_ret2
  show Wi.FrEnd _ _ _ _
  rw [HCR.out]
  exact ⟨A', cap', rfl, HO.out, HFm.out, HBl.out⟩
end Go.Proofs.Ytkfgedgjpgehoaa
