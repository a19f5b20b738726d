/- The walk of truth. No conditions but that the bytes are few. -/
import Derived.Test.YtkfgedgjpgehoaaWire2
namespace Go.Proofs.Ytkfgedgjpgehoaa
open Go.ChangeShapes Go.WideShapes Go.ChangeAt Go.RowKit
set_option linter.unusedVariables false
set_option linter.unusedSimpArgs false
namespace Wi
def b2i (b : Bool) : Int := if b = true then 1 else 0
def stepTru (c : Cd) (b : Bool) : Cd × Bool := ({ (stepNum c (b2i b)).1 with bad := (stepNum c (b2i b)).1.bad || decide (1 < (stepNum c (b2i b)).2) }, (stepNum c (b2i b)).2 == 1)
def stepB (r : Cd × List Value) (k : Nat) : Cd × List Value := match r.2[k]? with
  | some (.bool b) => ((stepTru r.1 b).1, r.2.set k (.bool (stepTru r.1 b).2))
  | _ => r
theorem stepB_reads (r : Cd × List Value) (k : Nat) : (stepB r k).1.reads = r.1.reads := by
  unfold stepB
  split
  · exact stepNum_reads _ _
  · rfl
theorem stepTru_fit {c : Cd} {L : Nat} (h : Fit c L) (b : Bool) : Fit (stepTru c b).1 (L + 9) := by
  have h1 := stepNum_fit h (b2i b)
  exact ⟨h1.pos, h1.len⟩
end Wi
open Wi in
set_option maxRecDepth 8000 in
set_option maxHeartbeats 4000000 in
theorem truth_pass {w : World} {g : Nat} {A : Option Addr} {cap : Nat} {t : TypeId} {n gm : Nat} {r : Wi.Cd × List Value} {k : Nat} {L : Nat} {b : Bool} (h : Wi.CAt w g A cap r.1) (hf : Wi.Fit r.1 L) (hL : L + 9 ≤ 1000000000) (hz : Mem.Bx w t n gm r.2) (hv : r.2[k]? = some (.bool b)) (hg : gm ≠ g) (ha : Mem.blk A ≠ some gm) :
    Calls Try.prog 57 #[.pointer (some ⟨g, 0, none⟩), .pointer (some ⟨gm, k, none⟩)] w fun x w' => x = .returned (.tuple #[]) ∧ Wi.Pass w g A t n gm (Wi.stepB r k) w' := by
  have HC := Lib.hid h
  have HZ := Lib.hid hz
  have HA := Lib.hid ha
  have z0 := hz.cell hv
  have hgm := hz.lt
  have hgl := h.B.lt
  have HAl := Lib.hid h.lt
  have hst : stepB r k = ((stepTru r.1 b).1, r.2.set k (.bool (stepTru r.1 b).2)) := by unfold stepB; rw [hv]
  have HST := Lib.hid hst
  have HV := Lib.hid hv
  clear h hz ha hst hv
  go_enter Try.func57, Try.ntmps57
  cases b
  ·
    go_upto_region 3 with fail
    obtain ⟨w1, hw1⟩ : ∃ w1, w.alloc (.cells #[.int .i64 0] 3) = w1 := ⟨_, rfl⟩
    have HB1 : Hid (Mem.Bx w1 3 1 w.heap.size [.int .i64 0]) := by show Mem.Bx _ _ _ _ _; rw [← hw1]; exact Mem.Bx.new w 3 #[.int .i64 0] rfl rfl
    have HK1 : Hid (Below w.heap.size w w1) := by show Below _ _ _; rw [← hw1]; exact Reg.below_new _ _
    rw [hw1]
    clear hw1 z0
    have HC1 : Hid (CAt w1 g A cap r.1) := HC.out.keeps (Mem.Keeps.of_below HK1.out) (fun _ _ h => h)
    have HZ1 : Hid (Mem.Bx w1 t n gm r.2) := HZ.out.below HK1.out HZ.out.lt
    obtain ⟨gb, hgb⟩ : ∃ gb, w.heap.size = gb := ⟨_, rfl⟩
    have HGB := Lib.hid hgb
    rw [hgb] at HB1 hgm hgl ⊢
    have HAg : Hid (Mem.blk A ≠ some gb) := fun h => by have := HAl.out gb h; omega
    have HN := Lib.hid (number_pass (t := 3) (n := 1) (gm := gb) (r := (r.1, [Value.int .i64 0])) (k := 0) HC1.out hf (by omega) HB1.out ⟨0, rfl⟩ (by omega) HAg.out)
    clear hgb
    go_upto_region 4 with (go_at_call 45; refine HN.out.mono ?_; rintro x9 w2 ⟨rfl, hp⟩; have HP := Lib.hid hp; clear hp)
    obtain ⟨A2, cap2, p1, p2, p3, p4⟩ := HP.out.out
    obtain ⟨q, hq⟩ : ∃ q, stepNum r.1 0 = q := ⟨_, rfl⟩
    have hq1 : stepN (r.1, [Value.int .i64 0]) 0 = (q.1, [Value.int .i64 q.2]) := by show ((stepNum r.1 0).1, [Value.int .i64 (stepNum r.1 0).2]) = _; rw [hq]
    have prd := HP.out.rd
    rw [hq1] at prd
    have PRD := Lib.hid prd
    clear prd
    rw [hq1] at p1 p2
    have HQ := Lib.hid hq
    have HC2 : Hid (CAt w2 g A2 cap2 q.1) := p1
    have HB2 : Hid (Mem.Bx w2 3 1 gb [.int .i64 q.2]) := p2
    have HK2 := Lib.hid p3
    have HA2 := Lib.hid p4
    have HZ2 : Hid (Mem.Bx w2 t n gm r.2) := HZ1.out.keeps p3 (fun h => by rcases h with (h | h) | h; exact hg h; exact HA.out h; omega)
    have HAm : Hid (Mem.blk A2 ≠ some gm) := fun h => by
      rcases p4 gm h with h1 | h1
      · exact HA.out h1
      · have := HK1.out.size; have := HGB.out; omega
    have HAb : Hid (∀ q, Mem.blk A2 = some q → Mem.blk A = some q ∨ w.heap.size ≤ q) := fun q h => (p4 q h).imp id (Nat.le_trans HK1.out.size)
    clear hq hq1 p1 p2 p3 p4 HP HN HC1 HB1 HZ1
    have y0 : w2.cell? ⟨gb, 0, none⟩ = some (.int .i64 q.2) := HB2.out.cell (j := 0) rfl
    have y1 := HZ2.out.cell HV.out
    have yf := HZ2.out.fr
    go_upto_region 5 with fail
    have hk3 : Mem.Keeps (fun q => q = gm) w2 (w2.setCell ⟨gm, k, none⟩ (.bool (q.2 == 1))) := (Mem.Keeps.refl (fun q => q = gm) w2).setCell (p := ⟨gm, k, none⟩) (fun _ => rfl) _
    have hz3 := HZ2.out.set k (.bool (q.2 == 1))
    obtain ⟨w3, hw3⟩ : ∃ w3, w2.setCell ⟨gm, k, none⟩ (.bool (q.2 == 1)) = w3 := ⟨_, rfl⟩
    rw [hw3] at hk3 hz3 ⊢
    have HC3 : Hid (CAt w3 g A2 cap2 q.1) := HC2.out.keeps hk3 (fun j h1 h2 => by rcases h1 with h1 | h1; (exact hg (h2 ▸ h1 ▸ rfl)); (exact HAm.out (h2 ▸ h1)))
    have HB3 : Hid (Mem.Bx w3 3 1 gb [.int .i64 q.2]) := HB2.out.keeps hk3 (fun h => by omega)
    have HZ3 := Lib.hid hz3
    have HK3 := Lib.hid hk3
    clear hw3 hk3 hz3 y0 y1 yf HC2 HB2 HZ2
    have y0 : w3.cell? ⟨gb, 0, none⟩ = some (.int .i64 q.2) := HB3.out.cell (j := 0) rfl
    have y3 : w3.cell? ⟨g, 3, none⟩ = some (.bool q.1.bad) := HC3.out.B.cell (j := 3) rfl
    have yf := HC3.out.B.fr
    have HE : Hid (∀ bb, bb = (q.1.bad || decide (1 < q.2)) → Pass w g A t n gm (stepB r k) (w3.setCell ⟨g, 3, none⟩ (.bool bb))) := fun bb hbb => by
      have hk4 : Mem.Keeps (fun q => q = g) w3 (w3.setCell ⟨g, 3, none⟩ (.bool bb)) := (Mem.Keeps.refl (fun q => q = g) w3).setCell (p := ⟨g, 3, none⟩) (fun _ => rfl) _
      rw [HST.out]
      have e1 : stepTru r.1 false = ({ q.1 with bad := bb }, q.2 == 1) := by
        unfold stepTru
        rw [show b2i false = 0 from rfl, HQ.out, hbb]
      rw [e1]
      refine ⟨⟨A2, cap2, HC3.out.set (c' := { q.1 with bad := bb }) 3 (.bool bb) rfl rfl (by simp [cdCells]), HZ3.out.keeps hk4 (fun h => hg h), ?_, HAb.out⟩, fun hr => ?_⟩
      rotate_left
      · exact ((((Mem.Keeps.of_below HK1.out).mono (T := fun q => q = g ∨ q = gm) (fun _ h _ => h.elim)).trans (PRD.out hr) (fun q h hlt => h.elim .inl (fun h => by have := HGB.out; omega))).trans HK3.out (fun q h _ => .inr h)).trans hk4 (fun q h _ => .inl h)
      have k1 : Mem.Keeps (fun q => (q = g ∨ Mem.blk A = some q) ∨ q = gm) w w2 := ((Mem.Keeps.of_below HK1.out).mono (T := fun q => (q = g ∨ Mem.blk A = some q) ∨ q = gm) (fun _ h _ => h.elim)).trans HK2.out (fun q h hlt => by
        rcases h with h | h
        · exact .inl h
        · have := HGB.out; omega)
      exact (k1.trans HK3.out (fun q h _ => .inr h)).trans hk4 (fun q h _ => .inl (.inl h))
    clear HK3 HB3 HZ3 HC3 HAm HAb HK2 HK1 HA2 PRD
    cases hbd : q.1.bad
    · rw [hbd] at y3
      by_cases h1 : 1 < q.2
      · have d1 : decide (1 < q.2) = true := by simpa using h1
        have HE1 := Lib.hid (HE.out true (by rw [hbd, d1]; rfl))
        clear h1 hbd HE
        go_wp2
        first | go_end0 | ((try simp only [Exit.inBlock, Exit.then]); refine bodyPost_ret (results_none rfl _ _ _) rfl ?_)
        exact ⟨rfl, HE1.out⟩
      · have d1 : decide (1 < q.2) = false := by simpa using h1
        have HE1 := Lib.hid (HE.out false (by rw [hbd, d1]; rfl))
        clear h1 hbd HE
        go_wp2
        first | go_end0 | ((try simp only [Exit.inBlock, Exit.then]); refine bodyPost_ret (results_none rfl _ _ _) rfl ?_)
        exact ⟨rfl, HE1.out⟩
    · rw [hbd] at y3
      have HE1 := Lib.hid (HE.out true (by rw [hbd]; rfl))
      clear hbd HE
      go_wp2
      first | go_end0 | ((try simp only [Exit.inBlock, Exit.then]); refine bodyPost_ret (results_none rfl _ _ _) rfl ?_)
      exact ⟨rfl, HE1.out⟩
  ·
    go_upto_region 3 with fail
    obtain ⟨w1, hw1⟩ : ∃ w1, w.alloc (.cells #[.int .i64 1] 3) = w1 := ⟨_, rfl⟩
    have HB1 : Hid (Mem.Bx w1 3 1 w.heap.size [.int .i64 1]) := by show Mem.Bx _ _ _ _ _; rw [← hw1]; exact Mem.Bx.new w 3 #[.int .i64 1] rfl rfl
    have HK1 : Hid (Below w.heap.size w w1) := by show Below _ _ _; rw [← hw1]; exact Reg.below_new _ _
    rw [hw1]
    clear hw1 z0
    have HC1 : Hid (CAt w1 g A cap r.1) := HC.out.keeps (Mem.Keeps.of_below HK1.out) (fun _ _ h => h)
    have HZ1 : Hid (Mem.Bx w1 t n gm r.2) := HZ.out.below HK1.out HZ.out.lt
    obtain ⟨gb, hgb⟩ : ∃ gb, w.heap.size = gb := ⟨_, rfl⟩
    have HGB := Lib.hid hgb
    rw [hgb] at HB1 hgm hgl ⊢
    have HAg : Hid (Mem.blk A ≠ some gb) := fun h => by have := HAl.out gb h; omega
    have HN := Lib.hid (number_pass (t := 3) (n := 1) (gm := gb) (r := (r.1, [Value.int .i64 1])) (k := 0) HC1.out hf (by omega) HB1.out ⟨1, rfl⟩ (by omega) HAg.out)
    clear hgb
    go_upto_region 4 with (go_at_call 45; refine HN.out.mono ?_; rintro x9 w2 ⟨rfl, hp⟩; have HP := Lib.hid hp; clear hp)
    obtain ⟨A2, cap2, p1, p2, p3, p4⟩ := HP.out.out
    obtain ⟨q, hq⟩ : ∃ q, stepNum r.1 1 = q := ⟨_, rfl⟩
    have hq1 : stepN (r.1, [Value.int .i64 1]) 0 = (q.1, [Value.int .i64 q.2]) := by show ((stepNum r.1 1).1, [Value.int .i64 (stepNum r.1 1).2]) = _; rw [hq]
    have prd := HP.out.rd
    rw [hq1] at prd
    have PRD := Lib.hid prd
    clear prd
    rw [hq1] at p1 p2
    have HQ := Lib.hid hq
    have HC2 : Hid (CAt w2 g A2 cap2 q.1) := p1
    have HB2 : Hid (Mem.Bx w2 3 1 gb [.int .i64 q.2]) := p2
    have HK2 := Lib.hid p3
    have HA2 := Lib.hid p4
    have HZ2 : Hid (Mem.Bx w2 t n gm r.2) := HZ1.out.keeps p3 (fun h => by rcases h with (h | h) | h; exact hg h; exact HA.out h; omega)
    have HAm : Hid (Mem.blk A2 ≠ some gm) := fun h => by
      rcases p4 gm h with h1 | h1
      · exact HA.out h1
      · have := HK1.out.size; have := HGB.out; omega
    have HAb : Hid (∀ q, Mem.blk A2 = some q → Mem.blk A = some q ∨ w.heap.size ≤ q) := fun q h => (p4 q h).imp id (Nat.le_trans HK1.out.size)
    clear hq hq1 p1 p2 p3 p4 HP HN HC1 HB1 HZ1
    have y0 : w2.cell? ⟨gb, 0, none⟩ = some (.int .i64 q.2) := HB2.out.cell (j := 0) rfl
    have y1 := HZ2.out.cell HV.out
    have yf := HZ2.out.fr
    go_upto_region 5 with fail
    have hk3 : Mem.Keeps (fun q => q = gm) w2 (w2.setCell ⟨gm, k, none⟩ (.bool (q.2 == 1))) := (Mem.Keeps.refl (fun q => q = gm) w2).setCell (p := ⟨gm, k, none⟩) (fun _ => rfl) _
    have hz3 := HZ2.out.set k (.bool (q.2 == 1))
    obtain ⟨w3, hw3⟩ : ∃ w3, w2.setCell ⟨gm, k, none⟩ (.bool (q.2 == 1)) = w3 := ⟨_, rfl⟩
    rw [hw3] at hk3 hz3 ⊢
    have HC3 : Hid (CAt w3 g A2 cap2 q.1) := HC2.out.keeps hk3 (fun j h1 h2 => by rcases h1 with h1 | h1; (exact hg (h2 ▸ h1 ▸ rfl)); (exact HAm.out (h2 ▸ h1)))
    have HB3 : Hid (Mem.Bx w3 3 1 gb [.int .i64 q.2]) := HB2.out.keeps hk3 (fun h => by omega)
    have HZ3 := Lib.hid hz3
    have HK3 := Lib.hid hk3
    clear hw3 hk3 hz3 y0 y1 yf HC2 HB2 HZ2
    have y0 : w3.cell? ⟨gb, 0, none⟩ = some (.int .i64 q.2) := HB3.out.cell (j := 0) rfl
    have y3 : w3.cell? ⟨g, 3, none⟩ = some (.bool q.1.bad) := HC3.out.B.cell (j := 3) rfl
    have yf := HC3.out.B.fr
    have HE : Hid (∀ bb, bb = (q.1.bad || decide (1 < q.2)) → Pass w g A t n gm (stepB r k) (w3.setCell ⟨g, 3, none⟩ (.bool bb))) := fun bb hbb => by
      have hk4 : Mem.Keeps (fun q => q = g) w3 (w3.setCell ⟨g, 3, none⟩ (.bool bb)) := (Mem.Keeps.refl (fun q => q = g) w3).setCell (p := ⟨g, 3, none⟩) (fun _ => rfl) _
      rw [HST.out]
      have e1 : stepTru r.1 true = ({ q.1 with bad := bb }, q.2 == 1) := by
        unfold stepTru
        rw [show b2i true = 1 from rfl, HQ.out, hbb]
      rw [e1]
      refine ⟨⟨A2, cap2, HC3.out.set (c' := { q.1 with bad := bb }) 3 (.bool bb) rfl rfl (by simp [cdCells]), HZ3.out.keeps hk4 (fun h => hg h), ?_, HAb.out⟩, fun hr => ?_⟩
      rotate_left
      · exact ((((Mem.Keeps.of_below HK1.out).mono (T := fun q => q = g ∨ q = gm) (fun _ h _ => h.elim)).trans (PRD.out hr) (fun q h hlt => h.elim .inl (fun h => by have := HGB.out; omega))).trans HK3.out (fun q h _ => .inr h)).trans hk4 (fun q h _ => .inl h)
      have k1 : Mem.Keeps (fun q => (q = g ∨ Mem.blk A = some q) ∨ q = gm) w w2 := ((Mem.Keeps.of_below HK1.out).mono (T := fun q => (q = g ∨ Mem.blk A = some q) ∨ q = gm) (fun _ h _ => h.elim)).trans HK2.out (fun q h hlt => by
        rcases h with h | h
        · exact .inl h
        · have := HGB.out; omega)
      exact (k1.trans HK3.out (fun q h _ => .inr h)).trans hk4 (fun q h _ => .inl (.inl h))
    clear HK3 HB3 HZ3 HC3 HAm HAb HK2 HK1 HA2 PRD
    cases hbd : q.1.bad
    · rw [hbd] at y3
      by_cases h1 : 1 < q.2
      · have d1 : decide (1 < q.2) = true := by simpa using h1
        have HE1 := Lib.hid (HE.out true (by rw [hbd, d1]; rfl))
        clear h1 hbd HE
        go_wp2
        first | go_end0 | ((try simp only [Exit.inBlock, Exit.then]); refine bodyPost_ret (results_none rfl _ _ _) rfl ?_)
        exact ⟨rfl, HE1.out⟩
      · have d1 : decide (1 < q.2) = false := by simpa using h1
        have HE1 := Lib.hid (HE.out false (by rw [hbd, d1]; rfl))
        clear h1 hbd HE
        go_wp2
        first | go_end0 | ((try simp only [Exit.inBlock, Exit.then]); refine bodyPost_ret (results_none rfl _ _ _) rfl ?_)
        exact ⟨rfl, HE1.out⟩
    · rw [hbd] at y3
      have HE1 := Lib.hid (HE.out true (by rw [hbd]; rfl))
      clear hbd HE
      go_wp2
      first | go_end0 | ((try simp only [Exit.inBlock, Exit.then]); refine bodyPost_ret (results_none rfl _ _ _) rfl ?_)
      exact ⟨rfl, HE1.out⟩
end Go.Proofs.Ytkfgedgjpgehoaa
