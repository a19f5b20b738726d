/- The walks of shaped and of rules$3. No conditions but that lists are few. -/
import Derived.Test.YtelephoalpphkaaAud6
set_option maxRecDepth 8000
namespace Go.Proofs.Ytelephoalpphkaa
open Go.ChangeShapes Go.WideShapes Go.ChangeAt Go.RowKit
set_option linter.unusedVariables false
set_option linter.unusedSimpArgs false
namespace Au
def shapedP (e : Ev) : Bool := if e.code ≠ 0 ∨ e.kind = 5 then ((e.res.length : Int) == 0) else if e.kind < 1 ∨ 5 < e.kind then ((e.res.length : Int) == 0) else decide (e.res.map (·.key) = e.keys)
def putsP (k : Int) : Bool := k == 1 || k == 2
def ownF (e : Ev) (r : Rs) : Bool := !r.has || (r.e.cl != e.cl || r.e.op != e.op)
def r5 (e : Ev) : Bool := e.code != 0 || (!putsP e.kind || !(e.res.any (ownF e)))
end Au
open Au in
set_option maxHeartbeats 4000000 in
theorem shaped_any {w : World} {B : Nat} {e : Au.Ev} (h : Au.EvOk w B e) (hB : B ≤ w.heap.size) :
    Calls Try.prog 46 #[.agg (Au.evCells e).toArray] w fun x w' => x = .returned (.bool (Au.shapedP e)) ∧ Below w.heap.size w w' := by
  have hB1 : Below w.heap.size w (w.alloc (.cells (Au.evCells e).toArray 46)) := Reg.below_new _ _
  have hX1 : Au.VBx (w.alloc (.cells (Au.evCells e).toArray 46)) w.heap.size e := Mem.Bx.new w 46 (Au.evCells e).toArray rfl rfl
  obtain ⟨w1, hw1⟩ : ∃ w1, w.alloc (.cells (Au.evCells e).toArray 46) = w1 := ⟨_, rfl⟩
  rw [hw1] at hB1 hX1
  have HB1 := Lib.hid hB1
  have HX1 := Lib.hid hX1
  unfold Au.evCells at hw1 ⊢
  clear hB1 hX1
  have HQ := Lib.hid (equalF_any (c := e.rc) (c2 := e.kc) ((h.r.more hB).below HB1.out) ((h.k.more hB).below HB1.out) HB1.out.size (by have := h.rl; have := h.rn; unfold maxLen; omega) (by have := h.kl; have := h.kn; unfold maxLen; omega))
  clear h
  go_enter Try.func46, Try.ntmps46
  go_upto_region 1 with fail
  try rw [hw1]
  clear hw1
  have y2 : w1.cell? ⟨w.heap.size, 2, none⟩ = some (.int .i64 e.kind) := HX1.out.cell (j := 2) rfl
  have y9 : w1.cell? ⟨w.heap.size, 9, none⟩ = some (.int .i64 e.code) := HX1.out.cell (j := 9) rfl
  have y3 : w1.cell? ⟨w.heap.size, 3, none⟩ = some (.slice e.kA e.keys.length e.kc) := HX1.out.cell (j := 3) rfl
  have y10 : w1.cell? ⟨w.heap.size, 10, none⟩ = some (.slice e.rA e.res.length e.rc) := HX1.out.cell (j := 10) rfl
  by_cases hc : e.code = 0
  · rw [hc] at y9
    by_cases h5 : e.kind = 5
    · have HS : Hid (shapedP e = ((e.res.length : Int) == 0)) := by show _ = _; unfold shapedP; rw [if_pos (.inr h5)]
      rw [h5] at y2
      clear hc h5
      go_wp2
      go_ret
      exact ⟨by rw [HS.out]; rfl, HB1.out⟩
    · have b5 : (e.kind == 5) = false := by simpa using h5
      by_cases h6 : e.kind < 1 ∨ 5 < e.kind
      · have HS : Hid (shapedP e = ((e.res.length : Int) == 0)) := by show _ = _; unfold shapedP; rw [if_neg (by omega), if_pos h6]
        clear hc
        by_cases h7 : e.kind < 1
        · have b7 : decide (e.kind < 1) = true := decide_eq_true h7
          go_wp2
          go_ret
          exact ⟨by rw [HS.out]; rfl, HB1.out⟩
        · have b7 : decide (e.kind < 1) = false := decide_eq_false h7
          have h8 : 5 < e.kind := by omega
          have b8 : decide (5 < e.kind) = true := decide_eq_true h8
          go_wp2
          go_ret
          exact ⟨by rw [HS.out]; rfl, HB1.out⟩
      · have HS : Hid (shapedP e = decide (e.res.map (·.key) = e.keys)) := by show _ = _; unfold shapedP; rw [if_neg (by omega), if_neg h6]
        have h7 : ¬ e.kind < 1 := by omega
        have h8 : ¬ 5 < e.kind := by omega
        have b7 : decide (e.kind < 1) = false := decide_eq_false h7
        have b8 : decide (5 < e.kind) = false := decide_eq_false h8
        clear hc h6
        go_wp2_with (go_at_call 63; (refine HQ.out.mono ?_); rintro x w2 ⟨rfl, hb2⟩; have HB2 := Lib.hid hb2; clear hb2 HQ)
        go_ret
        exact ⟨by rw [HS.out]; rfl, HB1.out.trans (HB2.out.mono HB1.out.size)⟩
  · have HS : Hid (shapedP e = ((e.res.length : Int) == 0)) := by show _ = _; unfold shapedP; rw [if_pos (.inl hc)]
    have b0 : (e.code == 0) = false := by simpa using hc
    clear hc
    go_wp2
    go_ret
    exact ⟨by rw [HS.out]; rfl, HB1.out⟩
open Au in
set_option maxHeartbeats 4000000 in
theorem ownF_tells {S : Nat → Prop} {w : World} {ge : Nat} {e : Au.Ev} (hX : Au.VBx w ge e) (hS : ¬ S ge) : Ar.Tells 53 #[.pointer (some ⟨ge, 0, none⟩)] (Au.ownF e) S w := by
  intro W r hk
  have hx := hX.keeps hk hS
  have HX := Lib.hid (hx.below (Reg.below_new W (.cells (Au.rsCells r).toArray 48)) hx.lt)
  have HR : Hid (RBx (W.alloc (.cells (Au.rsCells r).toArray 48)) W.heap.size r) := Mem.Bx.new W 48 (Au.rsCells r).toArray rfl rfl
  have HB : Hid (Below W.heap.size W (W.alloc (.cells (Au.rsCells r).toArray 48))) := Reg.below_new _ _
  obtain ⟨w1, hw1⟩ : ∃ w1, W.alloc (.cells (Au.rsCells r).toArray 48) = w1 := ⟨_, rfl⟩
  rw [hw1] at HX HR HB
  show Calls _ _ #[.agg (Au.rsCells r).toArray, .pointer (some ⟨ge, 0, none⟩)] _ _
  unfold Au.rsCells Vec.entCells at hw1 ⊢
  simp only [List.cons_append, List.nil_append] at hw1 ⊢
  clear hX hx hk hS
  go_enter Try.func53, Try.ntmps53
  go_upto_region 1 with fail
  try rw [hw1]
  clear hw1
  have x1 : w1.cell? ⟨W.heap.size, 1, none⟩ = some (.bool r.has) := HR.out.cell (j := 1) rfl
  have x20 : w1.cell? ⟨W.heap.size, 20, none⟩ = some (.int .i64 r.e.cl) := HR.out.cell (j := 20) rfl
  have x21 : w1.cell? ⟨W.heap.size, 21, none⟩ = some (.int .i64 r.e.op) := HR.out.cell (j := 21) rfl
  have y0 : w1.cell? ⟨ge, 0, none⟩ = some (.int .i64 e.cl) := HX.out.cell (j := 0) rfl
  have y1 : w1.cell? ⟨ge, 1, none⟩ = some (.int .i64 e.op) := HX.out.cell (j := 1) rfl
  have HF : Hid (ownF e r = (!r.has || (r.e.cl != e.cl || r.e.op != e.op))) := rfl
  cases hh : r.has with
  | false =>
    rw [hh] at x1 HF
    go_wp2
    go_ret
    exact ⟨by rw [HF.out]; rfl, HB.out⟩
  | true =>
    rw [hh] at x1 HF
    by_cases h1 : r.e.cl = e.cl
    · have b1 : (r.e.cl == e.cl) = true := by simpa using h1
      have b1' : (r.e.cl != e.cl) = false := by simpa using h1
      have HF2 : Hid (ownF e r = (r.e.op != e.op)) := by show _ = _; rw [HF.out, b1']; rfl
      clear HF h1
      go_wp2
      go_ret
      exact ⟨by rw [HF2.out]; rfl, HB.out⟩
    · have b1 : (r.e.cl == e.cl) = false := by simpa using h1
      have b1' : (r.e.cl != e.cl) = true := by simpa using h1
      have HF2 : Hid (ownF e r = true) := by show _ = _; rw [HF.out, b1']; rfl
      clear HF h1
      go_wp2
      go_ret
      exact ⟨by rw [HF2.out]; rfl, HB.out⟩
end Go.Proofs.Ytelephoalpphkaa
