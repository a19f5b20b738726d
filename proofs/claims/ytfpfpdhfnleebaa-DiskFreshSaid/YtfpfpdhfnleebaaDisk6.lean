/- The walk of a disk's Truncate. Files and pieces that are few. -/
import Derived.Test.YtfpfpdhfnleebaaDisk5
set_option maxRecDepth 8000
namespace Go.Proofs.Ytfpfpdhfnleebaa
open Go.ChangeShapes Go.WideShapes Go.ChangeAt Go.RowKit
set_option linter.unusedVariables false
set_option linter.unusedSimpArgs false
theorem run_max2 (ts : Array TypeId) (t : TypeId) (W : World) (x y : Int) : (Builtin.max_ ts t #[.int .i64 x, .int .i64 y]).run Try.prog W = .ok (.int .i64 (max x y)) W := by
  have h : (Builtin.max_ ts t #[.int .i64 x, .int .i64 y]).run Try.prog W = .ok (.int .i64 (if x < y then y else x)) W := by simp [go_sem]
  rw [h]; congr 2; split <;> omega
theorem run_min2 (ts : Array TypeId) (t : TypeId) (W : World) (x y : Int) : (Builtin.min_ ts t #[.int .i64 x, .int .i64 y]).run Try.prog W = .ok (.int .i64 (min x y)) W := by
  have h : (Builtin.min_ ts t #[.int .i64 x, .int .i64 y]).run Try.prog W = .ok (.int .i64 (if y < x then y else x)) W := by simp [go_sem]
  rw [h]; congr 2; split <;> omega
namespace Dk
theorem run_maxN (ts : Array TypeId) (t : TypeId) (W : World) (x y m : Nat) (hm : max x y = m) : (Builtin.max_ ts t #[.int .i64 x, .int .i64 y]).run Try.prog W = .ok (.int .i64 m) W := by
  rw [run_max2, show max (x : Int) (y : Int) = (m : Int) by omega]
theorem run_minN (ts : Array TypeId) (t : TypeId) (W : World) (x y m : Nat) (hm : min x y = m) : (Builtin.min_ ts t #[.int .i64 x, .int .i64 y]).run Try.prog W = .ok (.int .i64 m) W := by
  rw [run_min2, show min (x : Int) (y : Int) = (m : Int) by omega]
/-- loose bytes of a file go, the last ones first -/
def cutR (n : Int) : Nat → List (Int × Nat) → List (Int × Nat)
  | _, [] => []
  | off, p :: ps => if p.1 = n then (p.1, p.2 - off) :: cutR n (off - p.2) ps else p :: cutR n off ps
theorem cutR_zero (n : Int) : ∀ ps : List (Int × Nat), cutR n 0 ps = ps
  | [] => rfl
  | p :: ps => by
    unfold cutR
    split
    · rw [Nat.sub_zero, Nat.zero_sub, cutR_zero n ps]
    · rw [cutR_zero n ps]
def cutLast (n : Int) (off : Nat) (lo : List (Int × Nat)) : List (Int × Nat) := (cutR n off lo.reverse).reverse
def lenF (fs : List Fl) (n : Int) : Nat := match findF fs n with
  | none => 0
  | some f => f.bs.length
def synF (fs : List Fl) (n : Int) : Nat := match findF fs n with
  | none => 0
  | some f => f.syn
def truE (d : D) (n k : Int) : Int := if findF d.fs n = none then 50 else if k < 0 ∨ (lenF d.fs n : Int) < k then 1 else 0
def truD (d : D) (n k : Int) : D := if truE d n k ≠ 0 then d else
  ⟨updF n (fun f => { f with bs := f.bs.take k.toNat, syn := min f.syn k.toNat }) d.fs, cutLast n (lenF d.fs n - max k.toNat (synF d.fs n)) d.lo⟩
theorem pcs_set {lo : List (Int × Nat)} {k : Nat} {p : Int × Nat} (m : Nat) (h : lo[k]? = some p) : (lo.flatMap pcs).set (k * 2 + 1) (.int .i64 m) = (lo.set k (p.1, m)).flatMap pcs := by
  induction lo generalizing k with
  | nil => simp at h
  | cons q lo ih =>
    have e : ∀ (z : Int × Nat) (l : List (Int × Nat)), (z :: l).flatMap pcs = .int .i64 z.1 :: .int .i64 z.2 :: l.flatMap pcs := fun _ _ => rfl
    cases k with
    | zero =>
      have hq : q = p := by simpa using h
      subst hq
      rfl
    | succ k =>
      have h2 : lo[k]? = some p := by simpa using h
      rw [List.set_cons_succ, e, e, ← ih h2, show (k + 1) * 2 + 1 = k * 2 + 1 + 1 + 1 by omega, List.set_cons_succ, List.set_cons_succ]
theorem loose_mem {lo : List (Int × Nat)} {p : Int × Nat} (h : p ∈ lo) : p.2 ≤ looseR lo := by
  obtain ⟨a, b, rfl⟩ := List.append_of_mem h
  simp [looseR]
  omega
structure TrRel (w2 : World) (n : Int) (A : Option Addr) (c : Nat) (lo fin : List (Int × Nat)) (v8 v9 : Value) (wr : World) : Prop where
  out : ∃ (L : List (Int × Nat)) (j off : Nat), j ≤ lo.length ∧ off ≤ 1000000000 ∧ v8 = .int .i64 off ∧ v9 = .int .i64 ((j : Int) - 1) ∧ L.length = lo.length ∧ Hid (L.take j = lo.take j) ∧ Hid (fin = (L.drop j).reverse ++ cutR n off (lo.take j).reverse) ∧
    Hid (Mem.Own wr 59 2 A lo.length c (L.flatMap pcs)) ∧ Hid (Mem.Keeps (fun q => Mem.blk A = some q) w2 wr)
end Dk
open Dk in
set_option maxHeartbeats 4000000 in
theorem truncate_any {w : World} {g b c : Nat} {A : Option Addr} {rs : List Dk.FR} {lo : List (Int × Nat)} (h : Dk.DS w g b A c rs lo) {n : Int} (hn : Dk.okI n) (k : Int) (hu : Dk.usedR rs ≤ 1000000000) (hl : Dk.looseR lo ≤ 1000000000) :
    Calls Try.prog 27 #[.pointer (some ⟨g, 0, none⟩), .int .i64 n, .int .i64 k] w (Dk.DEnd w g (Dk.fpD g b A rs) (Dk.truD ⟨rs.map (·.f), lo⟩ n k) (.int .i64 (Dk.truE ⟨rs.map (·.f), lo⟩ n k))) := by
  have x0 : w.cell? ⟨g, 0, none⟩ = some (.map (some b)) := h.B.cell (j := 0) rfl
  have hlk := look_at h hn
  have HD := Lib.hid h
  have hnd := h.nodup
  clear h hn
  obtain ⟨fs0, hfs0⟩ : ∃ z, rs.map (·.f) = z := ⟨_, rfl⟩
  rw [hfs0]
  have HFS0 := Lib.hid hfs0
  clear hfs0
  have stay : ∀ (e : Int), truE ⟨fs0, lo⟩ n k = e → e ≠ 0 → DEnd w g (fpD g b A rs) (truD ⟨fs0, lo⟩ n k) (.int .i64 (truE ⟨fs0, lo⟩ n k)) (.returned (.int .i64 e)) w := fun e he hk => by
    have hd : truD ⟨fs0, lo⟩ n k = ⟨fs0, lo⟩ := by unfold truD; rw [he, if_pos hk]
    rw [hd, he]
    exact ⟨rfl, ⟨_, HD.out.at HFS0.out, fun k hk => .inl hk⟩, Mem.Keeps.refl _ _⟩
  have STAY := Lib.hid stay
  clear stay
  cases hf : findR rs n with
  | none =>
    have he : truE ⟨fs0, lo⟩ n k = 50 := by unfold truE; dsimp only; rw [← HFS0.out, find_fs, hf]; rfl
    have HE := Lib.hid he
    rw [hf] at hlk
    clear hf he
    unfold ptrV at hlk
    go_enter Try.func27, Try.ntmps27
    go_wp2
    go_ret
    exact STAY.out 50 HE.out (by decide)
  | some r =>
    have hfn : findF fs0 n = some r.f := by rw [← HFS0.out, find_fs, hf]; rfl
    have HLN : Hid (lenF fs0 n = r.f.bs.length ∧ synF fs0 n = r.f.syn) := by show _ ∧ _; unfold lenF synF; rw [hfn]; exact ⟨rfl, rfl⟩
    have HE0 : Hid (truE ⟨fs0, lo⟩ n k = if k < 0 ∨ (r.f.bs.length : Int) < k then 1 else 0) := by
      show _ = _; unfold truE; rw [hfn, if_neg (by simp), HLN.out.1]
    obtain ⟨pre, post, rfl, hrn, _⟩ := find_split hf
    rw [hf] at hlk
    clear hf hfn
    unfold ptrV at hlk
    have hF := HD.out.F r (by simp)
    have y0 : w.cell? ⟨r.h, 0, none⟩ = some (.slice r.A r.f.bs.length r.c) := hF.B.cell (j := 0) rfl
    have y1 : w.cell? ⟨r.h, 1, none⟩ = some (.int .i64 r.f.syn) := hF.B.cell (j := 1) rfl
    have hsl := hF.syn
    have hlen : r.f.bs.length ≤ 1000000000 := by
      rw [used_app] at hu
      have : usedR (r :: post) = r.f.bs.length + usedR post := rfl
      omega
    have HND := Lib.hid hnd
    have HRN := Lib.hid hrn
    clear hF hnd hrn
    obtain ⟨rf, rh, rA, rc⟩ := r
    dsimp only at hlk y0 y1 hsl hlen HE0 HLN
    obtain ⟨l0, hl0⟩ : ∃ l0, rf.bs.length = l0 := ⟨_, rfl⟩
    obtain ⟨s0, hs0⟩ : ∃ s0, rf.syn = s0 := ⟨_, rfl⟩
    rw [hl0] at y0 hsl hlen HE0 HLN
    rw [hs0] at y1 hsl HLN
    have HL0 := Lib.hid hl0
    have HS0 := Lib.hid hs0
    clear hl0 hs0
    by_cases hneg : k < 0
    · have he := HE0.out
      rw [if_pos (.inl hneg)] at he
      have HE := Lib.hid he
      have d1 : decide (k < 0) = true := by simpa using hneg
      clear he hneg
      go_enter Try.func27, Try.ntmps27
      go_wp2
      go_ret
      exact STAY.out 1 HE.out (by decide)
    have d1 : decide (k < 0) = false := by simp; omega
    by_cases hbig : (l0 : Int) < k
    · have he := HE0.out
      rw [if_pos (.inr hbig)] at he
      have HE := Lib.hid he
      have d2 : decide ((l0 : Int) < k) = true := by simpa using hbig
      clear he hneg hbig
      go_enter Try.func27, Try.ntmps27
      go_wp2
      go_ret
      exact STAY.out 1 HE.out (by decide)
    have d2 : decide ((l0 : Int) < k) = false := by simp; omega
    have he := HE0.out
    rw [if_neg (by omega)] at he
    obtain ⟨m, rfl⟩ : ∃ m : Nat, k = m := ⟨k.toNat, by omega⟩
    have hml : m ≤ l0 := by omega
    obtain ⟨m0, hm0⟩ : ∃ m0, max m s0 = m0 := ⟨_, rfl⟩
    have hmx : ∀ ts t W, (Builtin.max_ ts t #[.int .i64 m, .int .i64 s0]).run Try.prog W = .ok (.int .i64 m0) W := fun ts t W => run_maxN ts t W m s0 m0 hm0
    have hm0l : m0 ≤ l0 := by omega
    have hd : truD ⟨fs0, lo⟩ n m = ⟨updF n (fun f => { f with bs := f.bs.take m, syn := min f.syn m }) fs0, cutLast n (l0 - m0) lo⟩ := by
      unfold truD; rw [he, if_neg (by decide)]; dsimp only; rw [HLN.out.1, HLN.out.2, Int.toNat_natCast, hm0]
    have HE := Lib.hid he
    have HDD := Lib.hid hd
    obtain ⟨off0, hoff⟩ : ∃ off0, l0 - m0 = off0 := ⟨_, rfl⟩
    have hofl : off0 ≤ 1000000000 := by omega
    have hofi : (l0 : Int) - (m0 : Int) = (off0 : Int) := by omega
    rw [hoff] at HDD
    have x1 : w.cell? ⟨g, 1, none⟩ = some (.slice A lo.length c) := HD.out.B.cell (j := 1) rfl
    have hlol : lo.length ≤ maxLen := Nat.le_trans HD.out.O.le HD.out.O.cap
    unfold maxLen at hlol
    clear he hd hneg hbig hm0 hoff HE0 HLN STAY
    go_enter Try.func27, Try.ntmps27
    go_upto_region 6 with fail
    go_quiet (fail)
    obtain ⟨w2, hw2⟩ : ∃ w2, w.drewN nq = w2 := ⟨_, rfl⟩
    have hk2 : Mem.Keeps (fun _ => False) w w2 := by rw [← hw2]; exact (Mem.Keeps.refl _ w).drewN nq
    have hs2 : w2.heap.size = w.heap.size := by rw [← hw2]; rfl
    have hD2 := HD.out.keeps hk2 (fun _ _ h => h)
    have HD2 := Lib.hid hD2
    have HK2 := Lib.hid hk2
    have HS2 := Lib.hid hs2
    have z1 : w2.cell? ⟨g, 1, none⟩ = some (.slice A lo.length c) := hD2.B.cell (j := 1) rfl
    try rw [hofi]
    rw [hw2]
    clear hw2 hk2 hs2 hD2 x0 x1 hlk y0 y1 hofi hmx
    go_upto_region 8 with fail
    clear z1
    go_loopw [8, 9] (TrRel w2 n A c lo (cutR n off0 lo.reverse)) (fun _ t _ => (intOf t + 1).toNat)
    case atStart => exact ⟨⟨lo, lo.length, off0, Nat.le_refl _, hofl, rfl, rfl, rfl, rfl, by show _ = _; rw [List.drop_of_length_le (Nat.le_refl _), List.take_of_length_le (Nat.le_refl _)]; rfl, HD2.out.O, Mem.Keeps.refl _ _⟩⟩
    case round =>
      obtain ⟨L, j, off, hj, hofb, rfl, rfl, hLl, HT, HFI, HO, HK⟩ := hrel.out
      clear hrel
      by_cases hj0 : j = 0
      · subst hj0
        have hfin : L = cutLast n off0 lo := by
          unfold cutLast
          rw [HFI.out, List.drop_zero, List.take_zero]
          show L = (L.reverse ++ cutR n off []).reverse
          rw [show cutR n off [] = [] by unfold cutR; rfl, List.append_nil, List.reverse_reverse]
        have HFIN := Lib.hid hfin
        have hBw : Mem.Bx wr 54 2 g [.map (some b), .slice A L.length c] := by rw [hLl]; exact HD2.out.B.keeps HK.out (fun h => (HD2.out.S.a g h).1 rfl)
        have hOw : Mem.Own wr 59 2 A L.length c (L.flatMap pcs) := by rw [hLl]; exact HO.out
        obtain ⟨e1, e2, _⟩ := HD2.out.loose hBw hOw (HK.out.mono (fun k h _ => .inr h)) (fun k h => .inl h)
        have HF9 := Lib.hid (e1.F (⟨rf, rh, rA, rc⟩ : FR) (by simp))
        have HE1 := Lib.hid e1
        have HE2 := Lib.hid e2
        have y0 : wr.cell? ⟨rh, 0, none⟩ = some (.slice rA l0 rc) := by rw [← HL0.out]; exact HF9.out.B.cell (j := 0) rfl
        have y1 : wr.cell? ⟨rh, 1, none⟩ = some (.int .i64 s0) := by rw [← HS0.out]; exact HF9.out.B.cell (j := 1) rfl
        have hrh : rh < wr.heap.size := HF9.out.B.lt
        have HAA : Hid ((rA = none ∧ l0 = 0 ∧ rc = 0 ∧ m = 0) ∨ ∃ b2 o2, rA = some ⟨b2, o2, none⟩ ∧ l0 ≤ rc) := by
          have hO := HF9.out.O
          rcases hO.2 with ⟨h1, h2, h3⟩ | ⟨b2, o2, cur, h1, _⟩
          · dsimp only at h1 h2 h3
            rw [HL0.out] at h2
            exact .inl ⟨h1, h2, h3, by omega⟩
          · have := hO.le
            dsimp only at h1 this
            rw [HL0.out] at this
            exact .inr ⟨b2, o2, h1, this⟩
        obtain ⟨m1, hm1⟩ : ∃ m1, min s0 m = m1 := ⟨_, rfl⟩
        have HM1 := Lib.hid hm1
        have hmn : ∀ ts t W, (Builtin.min_ ts t #[.int .i64 s0, .int .i64 m]).run Try.prog W = .ok (.int .i64 m1) W := fun ts t W => run_minN ts t W s0 m m1 hm1
        clear hfin hBw hOw e1 e2 hm1 HO HK HT HFI HD2 hLl hofb
        go_upto_region 15 with fail
        refine Reg.wp_region_w (by kernel_rfl) 106 20 rfl rfl (by kernel_rfl) (16) (fun q => q = rh) (19) (fun q => q = rh) (16) (fun _ => False)
          (fun i v u => match i with
            | 0 => v = .pointer (some ⟨rh, 0, none⟩)
            | 1 => v = .pointer (some ⟨rh, 0, none⟩)
            | 2 => v = .pointer (some ⟨rh, 0, none⟩)
            | 3 => v = .pointer (some ⟨rh, 0, none⟩)
            | 4 => v = .pointer (some ⟨rh, 0, none⟩)
            | 5 => v = .slice rA l0 rc
            | 6 => v = .int .i64 m
            | 7 => v = .slice rA m rc
            | 8 => v = .pointer (some ⟨rh, 0, none⟩)
            | 9 => v = .pointer (some ⟨rh, 0, none⟩)
            | 10 => v = .pointer (some ⟨rh, 1, none⟩)
            | 11 => v = .int .i64 s0
            | 12 => v = .int .i64 m
            | 13 => v = .int .i64 m1
            | 14 => v = .pointer (some ⟨rh, 0, none⟩)
            | 15 => v = .pointer (some ⟨rh, 0, none⟩)
            | 16 => Mem.Bx u 57 2 rh [.slice rA m rc, .int .i64 s0]
            | 17 => v = .pointer (some ⟨rh, 0, none⟩)
            | 18 => v = .pointer (some ⟨rh, 1, none⟩)
            | 19 => Mem.Bx u 57 2 rh [.slice rA m rc, .int .i64 m1]
            | _ => True) ?_ ?_
        · refine Reg.Steps.cons ?_ (Reg.Steps.cons ?_ (Reg.Steps.cons ?_ (Reg.Steps.cons ?_ (Reg.Steps.cons ?_ (Reg.Steps.cons ?_ (Reg.Steps.cons ?_ (Reg.Steps.cons ?_ (Reg.Steps.cons ?_ (Reg.Steps.cons ?_ (Reg.Steps.cons ?_ (Reg.Steps.cons ?_ (Reg.Steps.cons ?_ (Reg.Steps.cons ?_ (Reg.Steps.cons ?_ (Reg.Steps.cons ?_ (Reg.Steps.cons ?_ (Reg.Steps.cons ?_ (Reg.Steps.cons ?_ (Reg.Steps.cons ?_ (Reg.Steps.nil _))))))))))))))))))))
          · intro val ac u hR hp ha K hK      -- 0: t88 := Op.move t7
            have e7 : (ac.tmps[7]?).getD undef = .pointer (some ⟨rh, 0, none⟩) := ha 7 (by decide)
            clear ha hp
            refine Reg.Op1.plain rfl ?_
            go_wp2
            exact ⟨rfl, hK _ _ rfl (Reg.Wr.same _)⟩
          · intro val ac u hR hp ha K hK      -- 1: t89 := Op.move t7
            have e7 : (ac.tmps[7]?).getD undef = .pointer (some ⟨rh, 0, none⟩) := ha 7 (by decide)
            clear ha hp
            refine Reg.Op1.plain rfl ?_
            go_wp2
            exact ⟨rfl, hK _ _ rfl (Reg.Wr.same _)⟩
          · intro val ac u hR hp ha K hK      -- 2: t90 := Op.move t7
            have e7 : (ac.tmps[7]?).getD undef = .pointer (some ⟨rh, 0, none⟩) := ha 7 (by decide)
            clear ha hp
            refine Reg.Op1.plain rfl ?_
            go_wp2
            exact ⟨rfl, hK _ _ rfl (Reg.Wr.same _)⟩
          · intro val ac u hR hp ha K hK      -- 3: t91 := Op.nilCheck t90
            obtain ⟨w90, h90, r90⟩ := hp 2 (by decide)
            have e90 : (ac.tmps[90]?).getD undef = .pointer (some ⟨rh, 0, none⟩) := (ha 90 (by decide)).trans h90
            clear h90
            clear ha hp
            refine Reg.Op1.plain rfl ?_
            go_wp2
            exact ⟨rfl, hK _ _ rfl (Reg.Wr.same _)⟩
          · intro val ac u hR hp ha K hK      -- 4: t92 := Op.fieldAddr 57 t91 0
            obtain ⟨w91, h91, r91⟩ := hp 3 (by decide)
            have e91 : (ac.tmps[91]?).getD undef = .pointer (some ⟨rh, 0, none⟩) := (ha 91 (by decide)).trans h91
            clear h91
            clear ha hp
            refine Reg.Op1.plain rfl ?_
            go_wp2
            exact ⟨rfl, hK _ _ rfl (Reg.Wr.same _)⟩
          · intro val ac u hR hp ha K hK      -- 5: t93 := Op.load 24 t92
            obtain ⟨w92, h92, r92⟩ := hp 4 (by decide)
            have e92 : (ac.tmps[92]?).getD undef = .pointer (some ⟨rh, 0, none⟩) := (ha 92 (by decide)).trans h92
            clear h92
            clear ha hp
            refine Reg.Op1.plain rfl ?_
            have x0 := (((Reg.Wr.none hR (by decide +kernel) (by decide +kernel) (by decide +kernel))).cell (p := ⟨rh, 0, none⟩) (hrh) (id)).trans (y0)
            go_wp2
            exact ⟨rfl, hK _ _ rfl (Reg.Wr.same _)⟩
          · intro val ac u hR hp ha K hK      -- 6: t94 := Op.move t2
            have e2 : (ac.tmps[2]?).getD undef = .int .i64 m := ha 2 (by decide)
            clear ha hp
            refine Reg.Op1.plain rfl ?_
            go_wp2
            exact ⟨rfl, hK _ _ rfl (Reg.Wr.same _)⟩
          · intro val ac u hR hp ha K hK      -- 7: t95 := Op.slice 24 t93 none (some t94) none
            obtain ⟨w93, h93, r93⟩ := hp 5 (by decide)
            have e93 : (ac.tmps[93]?).getD undef = .slice rA l0 rc := (ha 93 (by decide)).trans h93
            clear h93
            obtain ⟨w94, h94, r94⟩ := hp 6 (by decide)
            have e94 : (ac.tmps[94]?).getD undef = .int .i64 m := (ha 94 (by decide)).trans h94
            clear h94
            clear ha hp
            refine Reg.Op1.plain rfl ?_
            rcases HAA.out with ⟨h1, h2, h3, h4⟩ | ⟨b2, o2, h1, h2⟩
            · subst h1 h2 h3 h4
              go_wp2
              exact ⟨rfl, hK _ _ rfl (Reg.Wr.same _)⟩
            · subst h1
              go_wp2
              exact ⟨rfl, hK _ _ rfl (Reg.Wr.same _)⟩
          · intro val ac u hR hp ha K hK      -- 8: t96 := Op.move t7
            have e7 : (ac.tmps[7]?).getD undef = .pointer (some ⟨rh, 0, none⟩) := ha 7 (by decide)
            clear ha hp
            refine Reg.Op1.plain rfl ?_
            go_wp2
            exact ⟨rfl, hK _ _ rfl (Reg.Wr.same _)⟩
          · intro val ac u hR hp ha K hK      -- 9: t97 := Op.nilCheck t96
            obtain ⟨w96, h96, r96⟩ := hp 8 (by decide)
            have e96 : (ac.tmps[96]?).getD undef = .pointer (some ⟨rh, 0, none⟩) := (ha 96 (by decide)).trans h96
            clear h96
            clear ha hp
            refine Reg.Op1.plain rfl ?_
            go_wp2
            exact ⟨rfl, hK _ _ rfl (Reg.Wr.same _)⟩
          · intro val ac u hR hp ha K hK      -- 10: t98 := Op.fieldAddr 57 t97 1
            obtain ⟨w97, h97, r97⟩ := hp 9 (by decide)
            have e97 : (ac.tmps[97]?).getD undef = .pointer (some ⟨rh, 0, none⟩) := (ha 97 (by decide)).trans h97
            clear h97
            clear ha hp
            refine Reg.Op1.plain rfl ?_
            go_wp2
            exact ⟨rfl, hK _ _ rfl (Reg.Wr.same _)⟩
          · intro val ac u hR hp ha K hK      -- 11: t99 := Op.load 3 t98
            obtain ⟨w98, h98, r98⟩ := hp 10 (by decide)
            have e98 : (ac.tmps[98]?).getD undef = .pointer (some ⟨rh, 1, none⟩) := (ha 98 (by decide)).trans h98
            clear h98
            clear ha hp
            refine Reg.Op1.plain rfl ?_
            have x0 := (((Reg.Wr.none hR (by decide +kernel) (by decide +kernel) (by decide +kernel))).cell (p := ⟨rh, 1, none⟩) (hrh) (id)).trans (y1)
            go_wp2
            exact ⟨rfl, hK _ _ rfl (Reg.Wr.same _)⟩
          · intro val ac u hR hp ha K hK      -- 12: t100 := Op.move t2
            have e2 : (ac.tmps[2]?).getD undef = .int .i64 m := ha 2 (by decide)
            clear ha hp
            refine Reg.Op1.plain rfl ?_
            go_wp2
            exact ⟨rfl, hK _ _ rfl (Reg.Wr.same _)⟩
          · intro val ac u hR hp ha K hK      -- 13: t101 := Op.call { builtin min, args := #[t99, t100], argTypes := #[3, 3] }
            obtain ⟨w99, h99, r99⟩ := hp 11 (by decide)
            have e99 : (ac.tmps[99]?).getD undef = .int .i64 s0 := (ha 99 (by decide)).trans h99
            clear h99
            obtain ⟨w100, h100, r100⟩ := hp 12 (by decide)
            have e100 : (ac.tmps[100]?).getD undef = .int .i64 m := (ha 100 (by decide)).trans h100
            clear h100
            clear ha hp
            refine Reg.Op1.plain rfl ?_
            go_wp2
            exact ⟨rfl, hK _ _ rfl (Reg.Wr.same _)⟩
          · intro val ac u hR hp ha K hK      -- 14: t102 := Op.nilCheck t88
            obtain ⟨w88, h88, r88⟩ := hp 0 (by decide)
            have e88 : (ac.tmps[88]?).getD undef = .pointer (some ⟨rh, 0, none⟩) := (ha 88 (by decide)).trans h88
            clear h88
            clear ha hp
            refine Reg.Op1.plain rfl ?_
            go_wp2
            exact ⟨rfl, hK _ _ rfl (Reg.Wr.same _)⟩
          · intro val ac u hR hp ha K hK      -- 15: t103 := Op.fieldAddr 57 t102 0
            obtain ⟨w102, h102, r102⟩ := hp 14 (by decide)
            have e102 : (ac.tmps[102]?).getD undef = .pointer (some ⟨rh, 0, none⟩) := (ha 102 (by decide)).trans h102
            clear h102
            clear ha hp
            refine Reg.Op1.plain rfl ?_
            go_wp2
            exact ⟨rfl, hK _ _ rfl (Reg.Wr.same _)⟩
          · intro val ac u hR hp ha K hK      -- 16: Op.store 24 t103 t95
            obtain ⟨w103, h103, r103⟩ := hp 15 (by decide)
            have e103 : (ac.tmps[103]?).getD undef = .pointer (some ⟨rh, 0, none⟩) := (ha 103 (by decide)).trans h103
            clear h103
            obtain ⟨w95, h95, r95⟩ := hp 7 (by decide)
            have e95 : (ac.tmps[95]?).getD undef = .slice rA m rc := (ha 95 (by decide)).trans h95
            clear h95
            clear ha hp
            refine Reg.Op1.plain rfl ?_
            have hq : Mem.Keeps (fun _ => False) wr u := (Mem.Keeps.refl (fun _ => False) wr).drew.trans (Reg.Wr.none hR (by decide +kernel) (by decide +kernel) (by decide +kernel)) (fun _ h _ => h)
            have hB := HF9.out.B.keeps hq id
            have hB2 : Mem.Bx u 57 2 rh [.slice rA l0 rc, .int .i64 s0] := by rw [← HL0.out, ← HS0.out]; exact hB
            have x1 := hB2.cell (j := 0) rfl
            have xf := hB2.fr
            go_wp2
            exact ⟨rfl, hK undef _ (hB2.set 0 (.slice rA m rc)) (Reg.Wr.does1 ((Mem.Keeps.refl (fun q => q = rh) u).setCell (p := ⟨rh, 0, none⟩) (fun _ => rfl) _))⟩
          · intro val ac u hR hp ha K hK      -- 17: t104 := Op.nilCheck t89
            obtain ⟨w89, h89, r89⟩ := hp 1 (by decide)
            have e89 : (ac.tmps[89]?).getD undef = .pointer (some ⟨rh, 0, none⟩) := (ha 89 (by decide)).trans h89
            clear h89
            clear ha hp
            refine Reg.Op1.plain rfl ?_
            go_wp2
            exact ⟨rfl, hK _ _ rfl (Reg.Wr.same _)⟩
          · intro val ac u hR hp ha K hK      -- 18: t105 := Op.fieldAddr 57 t104 1
            obtain ⟨w104, h104, r104⟩ := hp 17 (by decide)
            have e104 : (ac.tmps[104]?).getD undef = .pointer (some ⟨rh, 0, none⟩) := (ha 104 (by decide)).trans h104
            clear h104
            clear ha hp
            refine Reg.Op1.plain rfl ?_
            go_wp2
            exact ⟨rfl, hK _ _ rfl (Reg.Wr.same _)⟩
          · intro val ac u hR hp ha K hK      -- 19: Op.store 3 t105 t101
            obtain ⟨w105, h105, r105⟩ := hp 18 (by decide)
            have e105 : (ac.tmps[105]?).getD undef = .pointer (some ⟨rh, 1, none⟩) := (ha 105 (by decide)).trans h105
            clear h105
            obtain ⟨w101, h101, r101⟩ := hp 13 (by decide)
            have e101 : (ac.tmps[101]?).getD undef = .int .i64 m1 := (ha 101 (by decide)).trans h101
            clear h101
            obtain ⟨w_16, h_16, r_16⟩ := hp 16 (by decide)
            clear ha hp
            refine Reg.Op1.plain rfl ?_
            have hB2 := h_16.keeps (Reg.Wr.none r_16 (by decide +kernel) (by decide +kernel) (by decide +kernel)) id
            have x1 := hB2.cell (j := 1) rfl
            have xf := hB2.fr
            go_wp2
            exact ⟨rfl, hK undef _ (hB2.set 1 (.int .i64 m1)) (Reg.Wr.does2 ((Mem.Keeps.refl (fun q => q = rh) u).setCell (p := ⟨rh, 1, none⟩) (fun _ => rfl) _))⟩
        · intro val u hR H
          obtain ⟨w19, hB19, r19⟩ := H 19 (by decide)
          have hB20 := Mem.Bx.keeps hB19 (Reg.Wr.none r19 (by decide +kernel) (by decide +kernel) (by decide +kernel)) id
          have hKu : Mem.Keeps (fun q => q = rh) wr u := ((Mem.Keeps.refl (fun q => q = rh ∨ q = rh ∨ False) wr).drew.trans (Reg.Wr.all hR) (fun _ h _ => h)).mono (fun q h _ => h.elim id (fun h => h.elim id (fun h => h.elim)))
          simp only [List.map_cons, List.map_nil, Reg.lay, Act.put, List.setIfInBounds_toArray, List.set_cons_succ, List.set_cons_zero, Nat.reduceAdd]
          have hml2 : (rf.bs.take m).length = m := by rw [List.length_take]; have := HL0.out; omega
          have hfu : FAt u ⟨{ rf with bs := rf.bs.take m, syn := min rf.syn m }, rh, rA, rc⟩ := by
            refine ⟨?_, ?_, HF9.out.ne, ?_⟩
            · show Mem.Bx _ _ _ _ [.slice rA (rf.bs.take m).length rc, .int .i64 (min rf.syn m : Nat)]
              rw [hml2, show min rf.syn m = m1 by rw [show rf.syn = s0 from HS0.out]; exact HM1.out]
              exact hB20
            · have h9 := (HF9.out.O.keeps hKu (fun k hk => HF9.out.ne k hk)).take (k := m) (by show m ≤ rf.bs.length; have := HL0.out; omega)
              show Mem.Own _ _ _ rA (rf.bs.take m).length rc ((rf.bs.take m).map Mem.byteV)
              rw [hml2, List.map_take]
              rw [Nat.mul_one] at h9
              exact h9
            · show min rf.syn m ≤ (rf.bs.take m).length
              rw [hml2]; omega
          obtain ⟨f1, f2, f3⟩ := HE1.out.file (r' := ⟨{ rf with bs := rf.bs.take m, syn := min rf.syn m }, rh, rA, rc⟩) rfl rfl hfu (hKu.mono (fun k h _ => .inl h)) (fun k h => .inl h)
          have HF1 := Lib.hid f1
          have HF2 := Lib.hid f2
          have HF3 := Lib.hid f3
          clear hB19 hB20 hKu hfu f1 f2 f3 hR H r19 hml2 y0 y1 hmn
          go_wp2
          go_ret
          rw [HE.out, HDD.out, ← HFIN.out, ← HFS0.out]
          have hfs := upd_split (pre := pre) (post := post) (r := ⟨rf, rh, rA, rc⟩) (r' := ⟨{ rf with bs := rf.bs.take m, syn := min rf.syn m }, rh, rA, rc⟩) (F := fun f => { f with bs := f.bs.take m, syn := min f.syn m }) HRN.out HND.out rfl
          have hKw : Mem.Keeps (fpD g b A (pre ++ (⟨rf, rh, rA, rc⟩ : FR) :: post)) w wr := (HK2.out.mono (T := fpD g b A (pre ++ (⟨rf, rh, rA, rc⟩ : FR) :: post)) (fun _ h _ => h.elim)).trans HE2.out (fun _ h _ => h)
          refine ⟨rfl, ⟨_, HF1.out.at hfs, fun k hk => ?_⟩, hKw.trans HF2.out (fun _ h _ => h)⟩
          rcases HF3.out k hk with h1 | h1
          · exact .inl h1
          · exact .inr (Nat.le_trans hKw.size h1)
      obtain ⟨i, rfl⟩ : ∃ i, j = i + 1 := ⟨j - 1, by omega⟩
      have ei : ((i + 1 : Nat) : Int) - 1 = (i : Int) := by omega
      rw [ei]
      by_cases hof0 : off = 0
      · subst hof0
        have hfin : L = cutLast n off0 lo := by
          unfold cutLast
          rw [HFI.out, cutR_zero, ← HT.out, ← List.reverse_append, List.take_append_drop, List.reverse_reverse]
        clear hj0
        have HFIN := Lib.hid hfin
        have hBw : Mem.Bx wr 54 2 g [.map (some b), .slice A L.length c] := by rw [hLl]; exact HD2.out.B.keeps HK.out (fun h => (HD2.out.S.a g h).1 rfl)
        have hOw : Mem.Own wr 59 2 A L.length c (L.flatMap pcs) := by rw [hLl]; exact HO.out
        obtain ⟨e1, e2, _⟩ := HD2.out.loose hBw hOw (HK.out.mono (fun k h _ => .inr h)) (fun k h => .inl h)
        have HF9 := Lib.hid (e1.F (⟨rf, rh, rA, rc⟩ : FR) (by simp))
        have HE1 := Lib.hid e1
        have HE2 := Lib.hid e2
        have y0 : wr.cell? ⟨rh, 0, none⟩ = some (.slice rA l0 rc) := by rw [← HL0.out]; exact HF9.out.B.cell (j := 0) rfl
        have y1 : wr.cell? ⟨rh, 1, none⟩ = some (.int .i64 s0) := by rw [← HS0.out]; exact HF9.out.B.cell (j := 1) rfl
        have hrh : rh < wr.heap.size := HF9.out.B.lt
        have HAA : Hid ((rA = none ∧ l0 = 0 ∧ rc = 0 ∧ m = 0) ∨ ∃ b2 o2, rA = some ⟨b2, o2, none⟩ ∧ l0 ≤ rc) := by
          have hO := HF9.out.O
          rcases hO.2 with ⟨h1, h2, h3⟩ | ⟨b2, o2, cur, h1, _⟩
          · dsimp only at h1 h2 h3
            rw [HL0.out] at h2
            exact .inl ⟨h1, h2, h3, by omega⟩
          · have := hO.le
            dsimp only at h1 this
            rw [HL0.out] at this
            exact .inr ⟨b2, o2, h1, this⟩
        obtain ⟨m1, hm1⟩ : ∃ m1, min s0 m = m1 := ⟨_, rfl⟩
        have HM1 := Lib.hid hm1
        have hmn : ∀ ts t W, (Builtin.min_ ts t #[.int .i64 s0, .int .i64 m]).run Try.prog W = .ok (.int .i64 m1) W := fun ts t W => run_minN ts t W s0 m m1 hm1
        clear hfin hBw hOw e1 e2 hm1 HO HK HT HFI HD2 hLl hofb
        go_upto_region 15 with fail
        refine Reg.wp_region_w (by kernel_rfl) 106 20 rfl rfl (by kernel_rfl) (16) (fun q => q = rh) (19) (fun q => q = rh) (16) (fun _ => False)
          (fun i v u => match i with
            | 0 => v = .pointer (some ⟨rh, 0, none⟩)
            | 1 => v = .pointer (some ⟨rh, 0, none⟩)
            | 2 => v = .pointer (some ⟨rh, 0, none⟩)
            | 3 => v = .pointer (some ⟨rh, 0, none⟩)
            | 4 => v = .pointer (some ⟨rh, 0, none⟩)
            | 5 => v = .slice rA l0 rc
            | 6 => v = .int .i64 m
            | 7 => v = .slice rA m rc
            | 8 => v = .pointer (some ⟨rh, 0, none⟩)
            | 9 => v = .pointer (some ⟨rh, 0, none⟩)
            | 10 => v = .pointer (some ⟨rh, 1, none⟩)
            | 11 => v = .int .i64 s0
            | 12 => v = .int .i64 m
            | 13 => v = .int .i64 m1
            | 14 => v = .pointer (some ⟨rh, 0, none⟩)
            | 15 => v = .pointer (some ⟨rh, 0, none⟩)
            | 16 => Mem.Bx u 57 2 rh [.slice rA m rc, .int .i64 s0]
            | 17 => v = .pointer (some ⟨rh, 0, none⟩)
            | 18 => v = .pointer (some ⟨rh, 1, none⟩)
            | 19 => Mem.Bx u 57 2 rh [.slice rA m rc, .int .i64 m1]
            | _ => True) ?_ ?_
        · refine Reg.Steps.cons ?_ (Reg.Steps.cons ?_ (Reg.Steps.cons ?_ (Reg.Steps.cons ?_ (Reg.Steps.cons ?_ (Reg.Steps.cons ?_ (Reg.Steps.cons ?_ (Reg.Steps.cons ?_ (Reg.Steps.cons ?_ (Reg.Steps.cons ?_ (Reg.Steps.cons ?_ (Reg.Steps.cons ?_ (Reg.Steps.cons ?_ (Reg.Steps.cons ?_ (Reg.Steps.cons ?_ (Reg.Steps.cons ?_ (Reg.Steps.cons ?_ (Reg.Steps.cons ?_ (Reg.Steps.cons ?_ (Reg.Steps.cons ?_ (Reg.Steps.nil _))))))))))))))))))))
          · intro val ac u hR hp ha K hK      -- 0: t88 := Op.move t7
            have e7 : (ac.tmps[7]?).getD undef = .pointer (some ⟨rh, 0, none⟩) := ha 7 (by decide)
            clear ha hp
            refine Reg.Op1.plain rfl ?_
            go_wp2
            exact ⟨rfl, hK _ _ rfl (Reg.Wr.same _)⟩
          · intro val ac u hR hp ha K hK      -- 1: t89 := Op.move t7
            have e7 : (ac.tmps[7]?).getD undef = .pointer (some ⟨rh, 0, none⟩) := ha 7 (by decide)
            clear ha hp
            refine Reg.Op1.plain rfl ?_
            go_wp2
            exact ⟨rfl, hK _ _ rfl (Reg.Wr.same _)⟩
          · intro val ac u hR hp ha K hK      -- 2: t90 := Op.move t7
            have e7 : (ac.tmps[7]?).getD undef = .pointer (some ⟨rh, 0, none⟩) := ha 7 (by decide)
            clear ha hp
            refine Reg.Op1.plain rfl ?_
            go_wp2
            exact ⟨rfl, hK _ _ rfl (Reg.Wr.same _)⟩
          · intro val ac u hR hp ha K hK      -- 3: t91 := Op.nilCheck t90
            obtain ⟨w90, h90, r90⟩ := hp 2 (by decide)
            have e90 : (ac.tmps[90]?).getD undef = .pointer (some ⟨rh, 0, none⟩) := (ha 90 (by decide)).trans h90
            clear h90
            clear ha hp
            refine Reg.Op1.plain rfl ?_
            go_wp2
            exact ⟨rfl, hK _ _ rfl (Reg.Wr.same _)⟩
          · intro val ac u hR hp ha K hK      -- 4: t92 := Op.fieldAddr 57 t91 0
            obtain ⟨w91, h91, r91⟩ := hp 3 (by decide)
            have e91 : (ac.tmps[91]?).getD undef = .pointer (some ⟨rh, 0, none⟩) := (ha 91 (by decide)).trans h91
            clear h91
            clear ha hp
            refine Reg.Op1.plain rfl ?_
            go_wp2
            exact ⟨rfl, hK _ _ rfl (Reg.Wr.same _)⟩
          · intro val ac u hR hp ha K hK      -- 5: t93 := Op.load 24 t92
            obtain ⟨w92, h92, r92⟩ := hp 4 (by decide)
            have e92 : (ac.tmps[92]?).getD undef = .pointer (some ⟨rh, 0, none⟩) := (ha 92 (by decide)).trans h92
            clear h92
            clear ha hp
            refine Reg.Op1.plain rfl ?_
            have x0 := (((Reg.Wr.none hR (by decide +kernel) (by decide +kernel) (by decide +kernel))).cell (p := ⟨rh, 0, none⟩) (hrh) (id)).trans (y0)
            go_wp2
            exact ⟨rfl, hK _ _ rfl (Reg.Wr.same _)⟩
          · intro val ac u hR hp ha K hK      -- 6: t94 := Op.move t2
            have e2 : (ac.tmps[2]?).getD undef = .int .i64 m := ha 2 (by decide)
            clear ha hp
            refine Reg.Op1.plain rfl ?_
            go_wp2
            exact ⟨rfl, hK _ _ rfl (Reg.Wr.same _)⟩
          · intro val ac u hR hp ha K hK      -- 7: t95 := Op.slice 24 t93 none (some t94) none
            obtain ⟨w93, h93, r93⟩ := hp 5 (by decide)
            have e93 : (ac.tmps[93]?).getD undef = .slice rA l0 rc := (ha 93 (by decide)).trans h93
            clear h93
            obtain ⟨w94, h94, r94⟩ := hp 6 (by decide)
            have e94 : (ac.tmps[94]?).getD undef = .int .i64 m := (ha 94 (by decide)).trans h94
            clear h94
            clear ha hp
            refine Reg.Op1.plain rfl ?_
            rcases HAA.out with ⟨h1, h2, h3, h4⟩ | ⟨b2, o2, h1, h2⟩
            · subst h1 h2 h3 h4
              go_wp2
              exact ⟨rfl, hK _ _ rfl (Reg.Wr.same _)⟩
            · subst h1
              go_wp2
              exact ⟨rfl, hK _ _ rfl (Reg.Wr.same _)⟩
          · intro val ac u hR hp ha K hK      -- 8: t96 := Op.move t7
            have e7 : (ac.tmps[7]?).getD undef = .pointer (some ⟨rh, 0, none⟩) := ha 7 (by decide)
            clear ha hp
            refine Reg.Op1.plain rfl ?_
            go_wp2
            exact ⟨rfl, hK _ _ rfl (Reg.Wr.same _)⟩
          · intro val ac u hR hp ha K hK      -- 9: t97 := Op.nilCheck t96
            obtain ⟨w96, h96, r96⟩ := hp 8 (by decide)
            have e96 : (ac.tmps[96]?).getD undef = .pointer (some ⟨rh, 0, none⟩) := (ha 96 (by decide)).trans h96
            clear h96
            clear ha hp
            refine Reg.Op1.plain rfl ?_
            go_wp2
            exact ⟨rfl, hK _ _ rfl (Reg.Wr.same _)⟩
          · intro val ac u hR hp ha K hK      -- 10: t98 := Op.fieldAddr 57 t97 1
            obtain ⟨w97, h97, r97⟩ := hp 9 (by decide)
            have e97 : (ac.tmps[97]?).getD undef = .pointer (some ⟨rh, 0, none⟩) := (ha 97 (by decide)).trans h97
            clear h97
            clear ha hp
            refine Reg.Op1.plain rfl ?_
            go_wp2
            exact ⟨rfl, hK _ _ rfl (Reg.Wr.same _)⟩
          · intro val ac u hR hp ha K hK      -- 11: t99 := Op.load 3 t98
            obtain ⟨w98, h98, r98⟩ := hp 10 (by decide)
            have e98 : (ac.tmps[98]?).getD undef = .pointer (some ⟨rh, 1, none⟩) := (ha 98 (by decide)).trans h98
            clear h98
            clear ha hp
            refine Reg.Op1.plain rfl ?_
            have x0 := (((Reg.Wr.none hR (by decide +kernel) (by decide +kernel) (by decide +kernel))).cell (p := ⟨rh, 1, none⟩) (hrh) (id)).trans (y1)
            go_wp2
            exact ⟨rfl, hK _ _ rfl (Reg.Wr.same _)⟩
          · intro val ac u hR hp ha K hK      -- 12: t100 := Op.move t2
            have e2 : (ac.tmps[2]?).getD undef = .int .i64 m := ha 2 (by decide)
            clear ha hp
            refine Reg.Op1.plain rfl ?_
            go_wp2
            exact ⟨rfl, hK _ _ rfl (Reg.Wr.same _)⟩
          · intro val ac u hR hp ha K hK      -- 13: t101 := Op.call { builtin min, args := #[t99, t100], argTypes := #[3, 3] }
            obtain ⟨w99, h99, r99⟩ := hp 11 (by decide)
            have e99 : (ac.tmps[99]?).getD undef = .int .i64 s0 := (ha 99 (by decide)).trans h99
            clear h99
            obtain ⟨w100, h100, r100⟩ := hp 12 (by decide)
            have e100 : (ac.tmps[100]?).getD undef = .int .i64 m := (ha 100 (by decide)).trans h100
            clear h100
            clear ha hp
            refine Reg.Op1.plain rfl ?_
            go_wp2
            exact ⟨rfl, hK _ _ rfl (Reg.Wr.same _)⟩
          · intro val ac u hR hp ha K hK      -- 14: t102 := Op.nilCheck t88
            obtain ⟨w88, h88, r88⟩ := hp 0 (by decide)
            have e88 : (ac.tmps[88]?).getD undef = .pointer (some ⟨rh, 0, none⟩) := (ha 88 (by decide)).trans h88
            clear h88
            clear ha hp
            refine Reg.Op1.plain rfl ?_
            go_wp2
            exact ⟨rfl, hK _ _ rfl (Reg.Wr.same _)⟩
          · intro val ac u hR hp ha K hK      -- 15: t103 := Op.fieldAddr 57 t102 0
            obtain ⟨w102, h102, r102⟩ := hp 14 (by decide)
            have e102 : (ac.tmps[102]?).getD undef = .pointer (some ⟨rh, 0, none⟩) := (ha 102 (by decide)).trans h102
            clear h102
            clear ha hp
            refine Reg.Op1.plain rfl ?_
            go_wp2
            exact ⟨rfl, hK _ _ rfl (Reg.Wr.same _)⟩
          · intro val ac u hR hp ha K hK      -- 16: Op.store 24 t103 t95
            obtain ⟨w103, h103, r103⟩ := hp 15 (by decide)
            have e103 : (ac.tmps[103]?).getD undef = .pointer (some ⟨rh, 0, none⟩) := (ha 103 (by decide)).trans h103
            clear h103
            obtain ⟨w95, h95, r95⟩ := hp 7 (by decide)
            have e95 : (ac.tmps[95]?).getD undef = .slice rA m rc := (ha 95 (by decide)).trans h95
            clear h95
            clear ha hp
            refine Reg.Op1.plain rfl ?_
            have hq : Mem.Keeps (fun _ => False) wr u := (Mem.Keeps.refl (fun _ => False) wr).drew.trans (Reg.Wr.none hR (by decide +kernel) (by decide +kernel) (by decide +kernel)) (fun _ h _ => h)
            have hB := HF9.out.B.keeps hq id
            have hB2 : Mem.Bx u 57 2 rh [.slice rA l0 rc, .int .i64 s0] := by rw [← HL0.out, ← HS0.out]; exact hB
            have x1 := hB2.cell (j := 0) rfl
            have xf := hB2.fr
            go_wp2
            exact ⟨rfl, hK undef _ (hB2.set 0 (.slice rA m rc)) (Reg.Wr.does1 ((Mem.Keeps.refl (fun q => q = rh) u).setCell (p := ⟨rh, 0, none⟩) (fun _ => rfl) _))⟩
          · intro val ac u hR hp ha K hK      -- 17: t104 := Op.nilCheck t89
            obtain ⟨w89, h89, r89⟩ := hp 1 (by decide)
            have e89 : (ac.tmps[89]?).getD undef = .pointer (some ⟨rh, 0, none⟩) := (ha 89 (by decide)).trans h89
            clear h89
            clear ha hp
            refine Reg.Op1.plain rfl ?_
            go_wp2
            exact ⟨rfl, hK _ _ rfl (Reg.Wr.same _)⟩
          · intro val ac u hR hp ha K hK      -- 18: t105 := Op.fieldAddr 57 t104 1
            obtain ⟨w104, h104, r104⟩ := hp 17 (by decide)
            have e104 : (ac.tmps[104]?).getD undef = .pointer (some ⟨rh, 0, none⟩) := (ha 104 (by decide)).trans h104
            clear h104
            clear ha hp
            refine Reg.Op1.plain rfl ?_
            go_wp2
            exact ⟨rfl, hK _ _ rfl (Reg.Wr.same _)⟩
          · intro val ac u hR hp ha K hK      -- 19: Op.store 3 t105 t101
            obtain ⟨w105, h105, r105⟩ := hp 18 (by decide)
            have e105 : (ac.tmps[105]?).getD undef = .pointer (some ⟨rh, 1, none⟩) := (ha 105 (by decide)).trans h105
            clear h105
            obtain ⟨w101, h101, r101⟩ := hp 13 (by decide)
            have e101 : (ac.tmps[101]?).getD undef = .int .i64 m1 := (ha 101 (by decide)).trans h101
            clear h101
            obtain ⟨w_16, h_16, r_16⟩ := hp 16 (by decide)
            clear ha hp
            refine Reg.Op1.plain rfl ?_
            have hB2 := h_16.keeps (Reg.Wr.none r_16 (by decide +kernel) (by decide +kernel) (by decide +kernel)) id
            have x1 := hB2.cell (j := 1) rfl
            have xf := hB2.fr
            go_wp2
            exact ⟨rfl, hK undef _ (hB2.set 1 (.int .i64 m1)) (Reg.Wr.does2 ((Mem.Keeps.refl (fun q => q = rh) u).setCell (p := ⟨rh, 1, none⟩) (fun _ => rfl) _))⟩
        · intro val u hR H
          obtain ⟨w19, hB19, r19⟩ := H 19 (by decide)
          have hB20 := Mem.Bx.keeps hB19 (Reg.Wr.none r19 (by decide +kernel) (by decide +kernel) (by decide +kernel)) id
          have hKu : Mem.Keeps (fun q => q = rh) wr u := ((Mem.Keeps.refl (fun q => q = rh ∨ q = rh ∨ False) wr).drew.trans (Reg.Wr.all hR) (fun _ h _ => h)).mono (fun q h _ => h.elim id (fun h => h.elim id (fun h => h.elim)))
          simp only [List.map_cons, List.map_nil, Reg.lay, Act.put, List.setIfInBounds_toArray, List.set_cons_succ, List.set_cons_zero, Nat.reduceAdd]
          have hml2 : (rf.bs.take m).length = m := by rw [List.length_take]; have := HL0.out; omega
          have hfu : FAt u ⟨{ rf with bs := rf.bs.take m, syn := min rf.syn m }, rh, rA, rc⟩ := by
            refine ⟨?_, ?_, HF9.out.ne, ?_⟩
            · show Mem.Bx _ _ _ _ [.slice rA (rf.bs.take m).length rc, .int .i64 (min rf.syn m : Nat)]
              rw [hml2, show min rf.syn m = m1 by rw [show rf.syn = s0 from HS0.out]; exact HM1.out]
              exact hB20
            · have h9 := (HF9.out.O.keeps hKu (fun k hk => HF9.out.ne k hk)).take (k := m) (by show m ≤ rf.bs.length; have := HL0.out; omega)
              show Mem.Own _ _ _ rA (rf.bs.take m).length rc ((rf.bs.take m).map Mem.byteV)
              rw [hml2, List.map_take]
              rw [Nat.mul_one] at h9
              exact h9
            · show min rf.syn m ≤ (rf.bs.take m).length
              rw [hml2]; omega
          obtain ⟨f1, f2, f3⟩ := HE1.out.file (r' := ⟨{ rf with bs := rf.bs.take m, syn := min rf.syn m }, rh, rA, rc⟩) rfl rfl hfu (hKu.mono (fun k h _ => .inl h)) (fun k h => .inl h)
          have HF1 := Lib.hid f1
          have HF2 := Lib.hid f2
          have HF3 := Lib.hid f3
          clear hB19 hB20 hKu hfu f1 f2 f3 hR H r19 hml2 y0 y1 hmn
          go_wp2
          go_ret
          rw [HE.out, HDD.out, ← HFIN.out, ← HFS0.out]
          have hfs := upd_split (pre := pre) (post := post) (r := ⟨rf, rh, rA, rc⟩) (r' := ⟨{ rf with bs := rf.bs.take m, syn := min rf.syn m }, rh, rA, rc⟩) (F := fun f => { f with bs := f.bs.take m, syn := min f.syn m }) HRN.out HND.out rfl
          have hKw : Mem.Keeps (fpD g b A (pre ++ (⟨rf, rh, rA, rc⟩ : FR) :: post)) w wr := (HK2.out.mono (T := fpD g b A (pre ++ (⟨rf, rh, rA, rc⟩ : FR) :: post)) (fun _ h _ => h.elim)).trans HE2.out (fun _ h _ => h)
          refine ⟨rfl, ⟨_, HF1.out.at hfs, fun k hk => ?_⟩, hKw.trans HF2.out (fun _ h _ => h)⟩
          rcases HF3.out k hk with h1 | h1
          · exact .inl h1
          · exact .inr (Nat.le_trans hKw.size h1)
      have d3 : decide ((0 : Int) < (off : Int)) = true := by simp; omega
      have d3' : decide (0 < off) = true := by simp; omega
      obtain ⟨p, hp⟩ : ∃ p, lo[i]? = some p := ⟨_, List.getElem?_eq_getElem (by omega)⟩
      have hpL : L[i]? = some p := by
        have h1 : (L.take (i + 1))[i]? = L[i]? := by rw [List.getElem?_take, if_pos (by omega)]
        have h2 : (lo.take (i + 1))[i]? = lo[i]? := by rw [List.getElem?_take, if_pos (by omega)]
        rw [← h1, HT.out, h2, hp]
      have hTi : L.take i = lo.take i := by
        have h1 : (L.take (i + 1)).take i = L.take i := by rw [List.take_take, Nat.min_eq_left (by omega)]
        have h2 : (lo.take (i + 1)).take i = lo.take i := by rw [List.take_take, Nat.min_eq_left (by omega)]
        rw [← h1, HT.out, h2]
      have hrv : (lo.take (i + 1)).reverse = p :: (lo.take i).reverse := by rw [Mem.take_snoc hp, List.reverse_append]; rfl
      have hdr : L.drop i = p :: L.drop (i + 1) := by
        obtain ⟨h1, h2⟩ := List.getElem?_eq_some_iff.1 hpL
        rw [List.drop_eq_getElem_cons h1, h2]
      have hp2 : p.2 ≤ 1000000000 := Nat.le_trans (loose_mem (List.mem_of_getElem? hp)) hl
      obtain ⟨b2, o2, hA⟩ := HO.out.form (by omega)
      subst hA
      obtain ⟨q0, q1⟩ := pcs_get hpL
      have x1 : wr.cell? ⟨g, 1, none⟩ = some (.slice (some ⟨b2, o2, none⟩) lo.length c) := (HD2.out.B.keeps HK.out (fun h => (HD2.out.S.a g h).1 rfl)).cell (j := 1) rfl
      have z0 : wr.cell? ⟨b2, o2 + i * 2, none⟩ = some (.int .i64 p.1) := HO.out.cell q0
      have z1 : wr.cell? ⟨b2, o2 + i * 2 + 1, none⟩ = some (.int .i64 p.2) := by have := HO.out.cell q1; rwa [← Nat.add_assoc] at this
      have zf := HO.out.free (o := o2)
      have HTI := Lib.hid hTi
      have HRV := Lib.hid hrv
      have HDR := Lib.hid hdr
      have HPL := Lib.hid hpL
      have hij : i < lo.length := by omega
      clear hp hpL hTi hrv hdr q0 q1 ei hj0 hof0
      by_cases hpn : p.1 = n
      · have d4 : (p.1 == n) = true := by simpa using hpn
        have HPN := Lib.hid hpn
        obtain ⟨m2, hm2⟩ : ∃ m2, min p.2 off = m2 := ⟨_, rfl⟩
        have hmn : ∀ ts t W, (Builtin.min_ ts t #[.int .i64 p.2, .int .i64 off]).run Try.prog W = .ok (.int .i64 m2) W := fun ts t W => run_minN ts t W p.2 off m2 hm2
        have hv1 : (p.2 : Int) - (m2 : Int) = ((p.2 - off : Nat) : Int) := by omega
        have hv2 : (off : Int) - (m2 : Int) = ((off - p.2 : Nat) : Int) := by omega
        have hO2 := HO.out.set (i * 2 + 1) (.int .i64 ((p.2 - off : Nat) : Int))
        rw [pcs_set _ HPL.out, ← Nat.add_assoc] at hO2
        have HO2 := Lib.hid hO2
        have HK3 : Hid (Mem.Keeps (fun q => Mem.blk (some (⟨b2, o2, none⟩ : Addr)) = some q) w2 (wr.setCell ⟨b2, o2 + i * 2 + 1, none⟩ (.int .i64 ((p.2 - off : Nat) : Int)))) := HK.out.setCell (p := ⟨b2, o2 + i * 2 + 1, none⟩) (fun _ => rfl) _
        have HV1 := Lib.hid hv1
        have HV2 := Lib.hid hv2
        clear hO2 hm2 hpn HO HK HT
        go_wp2
        try rw [HV1.out]
        try rw [HV2.out]
        clear hv1 hv2
        go_roundw
        case rel =>
          refine ⟨⟨L.set i (p.1, p.2 - off), i, off - p.2, by omega, by omega, by first | rfl | rw [← HV2.out], by go_num, by rw [List.length_set]; exact hLl, ?_, ?_, HO2, HK3⟩⟩
          · show _ = _
            rw [List.take_set_of_le (Nat.le_refl _)]; exact HTI.out
          · show _ = _
            rw [HFI.out, HRV.out]
            have e9 : (L.set i (p.1, p.2 - off)).drop i = (p.1, p.2 - off) :: L.drop (i + 1) := by
              have hi : i < (L.set i (p.1, p.2 - off)).length := by rw [List.length_set]; omega
              rw [List.drop_eq_getElem_cons hi, List.getElem_set_self, List.drop_set_of_lt (by omega)]
            rw [e9, List.reverse_cons, List.append_assoc]
            congr 1
            show cutR n off (p :: _) = _
            rw [cutR, if_pos HPN.out]; rfl
        case measure => first | (simp [intOf]; done) | (simp [intOf]; omega)
      · have d4 : (p.1 == n) = false := by simpa using hpn
        have HPN := Lib.hid hpn
        clear hpn HT
        go_wp2
        go_roundw
        case rel =>
          refine ⟨⟨L, i, off, by omega, hofb, rfl, by go_num, hLl, HTI, ?_, HO, HK⟩⟩
          show _ = _
          rw [HFI.out, HRV.out, HDR.out, List.reverse_cons, List.append_assoc]
          congr 1
          rw [cutR, if_neg HPN.out]; rfl
        case measure => first | (simp [intOf]; done) | (simp [intOf]; omega)
end Go.Proofs.Ytfpfpdhfnleebaa
