/- The walk of the document's disk: Append. No conditions but that it is no great one. -/
import Derived.Test.YtfpfpdhfnleebaaDf7P
set_option maxRecDepth 8000
namespace Go.Proofs.Ytfpfpdhfnleebaa
open Go.ChangeShapes Go.WideShapes Go.ChangeAt Go.RowKit
set_option linter.unusedVariables false
set_option linter.unusedSimpArgs false
namespace Df
/-- bytes come to a file one by one -/
structure AppRel (w1 : World) (g : Nat) (A : Option Addr) (c : Nat) (pre post : List R) (r0 : R) (t : Nat) (bs : List UInt8) (v : Value) (wr : World) : Prop where
  out : ∃ (i : Nat) (r : R), i ≤ bs.length ∧ v = .int .i64 i ∧ Hid (r.h = r0.h) ∧ Hid (r.f = ⟨r0.f.n, r0.f.bs ++ bs.take i, r0.f.cm ++ tms t i⟩) ∧ Hid (DS wr g A c (pre ++ r :: post) (t + i)) ∧
    Hid (Mem.Keeps (fpD g A (pre ++ r0 :: post)) w1 wr) ∧ Hid (∀ k, fpD g A (pre ++ r :: post) k → fpD g A (pre ++ r0 :: post) k ∨ w1.heap.size ≤ k)
theorem FAt.bytes {w w' : World} {r : R} {X : Option Addr} {cx : Nat} {bs : List UInt8} {cm : List Nat} {Y : Option Addr} {cy : Nat} (h : FAt w r) (hB : Mem.Bx w' 80 3 r.h [.int .i64 r.f.n, .slice X bs.length cx, .slice Y cm.length cy]) (hO : Mem.Own w' 5 1 X bs.length cx (bs.map Mem.byteV)) (hP : Mem.Own w' 3 1 Y cm.length cy (cm.map tmV))
    (hX : Mem.blk X = Mem.blk r.A ∨ ∀ k, Mem.blk X = some k → w.heap.size ≤ k) (hY : Mem.blk Y = Mem.blk r.T ∨ ∀ k, Mem.blk Y = some k → w.heap.size ≤ k ∧ Mem.blk X ≠ some k) (hl : cm.length = bs.length) :
    FAt w' { r with f := { r.f with bs := bs, cm := cm }, A := X, c := cx, T := Y, e := cy } := by
  refine ⟨hB, hO, hP, fun k hk => ?_, fun k hk => ?_, hl⟩
  · rcases hX with hX | hX
    · have h1 := h.ne k (hX ▸ hk)
      refine ⟨h1.1, fun hh => ?_⟩
      rcases hY with hY | hY
      · exact h1.2 (hY ▸ hh)
      · exact (hY k hh).2 hk
    · have h1 := hX k hk
      refine ⟨fun e => ?_, fun hh => ?_⟩
      · have := h.B.lt; dsimp only at e; omega
      · rcases hY with hY | hY
        · have := h.P.lt (hY ▸ hh); omega
        · exact (hY k hh).2 hk
  · rcases hY with hY | hY
    · exact h.nt k (hY ▸ hk)
    · have := (hY k hk).1; have := h.B.lt; intro e; dsimp only at e; omega
end Df
open Df in
set_option maxHeartbeats 4000000 in
theorem dfAppend_any {w : World} {g c time : Nat} {A : Option Addr} {rs : List Df.R} (h : Df.DS w g A c rs time) (n : Int) {B : Nat} {X : Option Addr} {cx : Nat} {bs : List UInt8} (hR : Mem.Rd w B X (bs.map Mem.byteV)) (hB : ∀ k, Df.fpD g A rs k → B ≤ k) (hBw : B ≤ w.heap.size) (hb : bs.length ≤ 1000000000) (hu : Df.usedQ (rs.map (·.f)) ≤ 1048576) (ht : time ≤ 1000000000) (hl64 : rs.length ≤ 64) :
    Calls Try.prog 31 #[.pointer (some ⟨g, 0, none⟩), .int .i64 n, .slice X bs.length cx] w (Df.QEnd w g (Df.fpD g A rs) (Df.appQ ⟨rs.map (·.f), time⟩ n bs) (.int .i64 (Df.appE ⟨rs.map (·.f), time⟩ n bs))) := by
  have HFD := Lib.hid (dfFind_any h n)
  have HD := Lib.hid h
  have HR := Lib.hid hR
  have HBB := Lib.hid hB
  have STAY : Hid (∀ (e : Int) (w1 : World), appE ⟨rs.map (·.f), time⟩ n bs = e → e ≠ 0 → Mem.Keeps (fun _ => False) w w1 → QEnd w g (fpD g A rs) (appQ ⟨rs.map (·.f), time⟩ n bs) (.int .i64 (appE ⟨rs.map (·.f), time⟩ n bs)) (.returned (.int .i64 e)) w1) := fun e w1 he hne hk => by
    have hq : appQ ⟨rs.map (·.f), time⟩ n bs = ⟨rs.map (·.f), time⟩ := by unfold appQ; rw [he, if_neg hne]
    exact ⟨by rw [he], ⟨_, by rw [hq]; exact (h.keeps hk (fun _ _ h => h)).qat rfl, fun k hk => .inl hk⟩, hk.mono (fun _ h _ => h.elim)⟩
  clear hR hB
  go_enter Try.func31, Try.ntmps31
  by_cases hn0 : n < 0
  · have he : appE ⟨rs.map (·.f), time⟩ n bs = 50 := by unfold appE; rw [if_pos (.inl hn0)]
    have HE := Lib.hid he
    clear h he
    go_wp2
    go_ret
    exact STAY.out 50 w HE.out (by decide) (Mem.Keeps.refl _ _)
  by_cases hn1 : 1099511627776 < n
  · have he : appE ⟨rs.map (·.f), time⟩ n bs = 50 := by unfold appE; rw [if_pos (.inr hn1)]
    have HE := Lib.hid he
    clear h he
    go_wp2
    go_ret
    exact STAY.out 50 w HE.out (by decide) (Mem.Keeps.refl _ _)
  have he0 : appE ⟨rs.map (·.f), time⟩ n bs = if (isAt n (rs.map (·.f)) = false ∧ 64 ≤ rs.length) ∨ 1048576 < usedQ (rs.map (·.f)) + bs.length then 51 else 0 := by unfold appE; rw [if_neg (by omega), List.length_map]
  have HE0 := Lib.hid he0
  have hq1 : appE ⟨rs.map (·.f), time⟩ n bs = 0 → appQ ⟨rs.map (·.f), time⟩ n bs = ⟨(insQ n (rs.map (·.f))).modify (low n (rs.map (·.f))) (appF bs time), time + bs.length⟩ := fun h => by unfold appQ; rw [if_pos h]
  have HQ1 := Lib.hid hq1
  have hll := low_le n (rs.map (·.f))
  rw [List.length_map] at hll
  have HAT : Hid (isAt n (rs.map (·.f)) = true → ∃ r, rs[low n (rs.map (·.f))]? = some r ∧ r.f.n = n) := fun hi => by
    cases hf : atF n (rs.map (·.f)) with
    | none => rw [at_none hf] at hi; cases hi
    | some f =>
      obtain ⟨_, r, h1, h2, h3⟩ := at_some hf
      exact ⟨r, h1, by rw [h2]; exact h3⟩
  have HINS : Hid (isAt n (rs.map (·.f)) = false → insQ n (rs.map (·.f)) = (rs.map (·.f)).take (low n (rs.map (·.f))) ++ ⟨n, [], []⟩ :: (rs.map (·.f)).drop (low n (rs.map (·.f)))) := fun hi => by unfold insQ; rw [hi]; rfl
  have HINY : Hid (isAt n (rs.map (·.f)) = true → insQ n (rs.map (·.f)) = rs.map (·.f)) := fun hi => by unfold insQ; rw [hi]; rfl
  unfold fnd at HFD
  obtain ⟨K, hK⟩ : ∃ K, low n (rs.map (·.f)) = K := ⟨_, rfl⟩
  obtain ⟨yes, hyes⟩ : ∃ yes, isAt n (rs.map (·.f)) = yes := ⟨_, rfl⟩
  rw [hK] at HFD HQ1 HAT HINS hll
  rw [hyes] at HFD HE0 HAT HINS HINY
  have HU : Hid (∀ m, Calls Try.prog 37 #[.pointer (some ⟨g, 0, none⟩)] (w.drewN m) fun x w' => x = .returned (.int .i64 (usedQ (rs.map (·.f)))) ∧ w' = w.drewN m) := fun m => dfUsed_any (h.drewN m) (by omega)
  obtain ⟨us, hus⟩ : ∃ us, usedQ (rs.map (·.f)) = us := ⟨_, rfl⟩
  rw [hus] at HU HE0
  have HUS : Hid (usedQ (rs.map (·.f)) ≤ 1048576) := hu
  rw [hus] at hu
  have x00 : ∀ m, (w.drewN m).cell? ⟨g, 0, none⟩ = some (.slice A rs.length c) := fun m => (h.drewN m).B.cell (j := 0) rfl
  clear h he0 hq1 hus hyes hK
  go_upto_region 4 with (go_at_call 46; (refine HFD.out.mono ?_); rintro x w1 ⟨rfl, m1, hw1⟩; have HW1 := Lib.hid hw1; clear HFD hw1)
  have hU1 := HU.out m1
  have x0 := x00 m1
  rw [← HW1.out] at hU1 x0
  have HU1 := Lib.hid hU1
  have HK1 : Hid (Mem.Keeps (fun _ => False) w w1) := by show Mem.Keeps _ _ _; rw [HW1.out]; exact (Mem.Keeps.refl _ w).drewN m1
  have HD1 : Hid (DS w1 g A c rs time) := by show DS _ _ _ _ _ _; rw [HW1.out]; exact HD.out.drewN m1
  clear HW1 hU1 HU x00 HD
  by_cases hov : 1048576 < us + bs.length
  · have he : appE ⟨rs.map (·.f), time⟩ n bs = 51 := by rw [HE0.out, if_pos (.inr hov)]
    have HE := Lib.hid he
    have d5 : decide ((1048576 : Int) - (us : Int) < (bs.length : Int)) = true := by simp; omega
    clear he
    cases yes with
    | true =>
      go_wp2_with (go_at_call 37; refine HU1.out.mono ?_; rintro x w2 ⟨rfl, rfl⟩; clear HU1)
      go_ret
      exact STAY.out 51 _ HE.out (by decide) HK1.out
    | false =>
      by_cases h64 : 64 ≤ rs.length
      · go_wp2
        go_ret
        exact STAY.out 51 _ HE.out (by decide) HK1.out
      · go_wp2_with (go_at_call 37; refine HU1.out.mono ?_; rintro x w2 ⟨rfl, rfl⟩; clear HU1)
        go_ret
        exact STAY.out 51 _ HE.out (by decide) HK1.out
  have d5 : decide ((1048576 : Int) - (us : Int) < (bs.length : Int)) = false := by simp; omega
  cases yes with
  | true =>
    have he : appE ⟨rs.map (·.f), time⟩ n bs = 0 := by rw [HE0.out, if_neg (fun h => by rcases h with h | h; cases h.1; exact hov h)]
    have HE := Lib.hid he
    clear he
    go_upto_region 11 with (go_at_call 37; refine HU1.out.mono ?_; rintro x w2 ⟨rfl, rfl⟩; clear HU1)
    obtain ⟨r0, hr0, hrn⟩ := HAT.out (by simp)
    obtain ⟨pre, post, hrs, hpl⟩ := split_at hr0
    have HPL := Lib.hid hpl
    have HEND : Hid (appQ ⟨rs.map (·.f), time⟩ n bs = ⟨pre.map (·.f) ++ appF bs time r0.f :: post.map (·.f), time + bs.length⟩) := by
      show _ = _
      rw [HQ1.out HE.out, HINY.out (by simp), hrs, ← hpl]
      rw [List.map_append, List.map_cons, ← List.length_map (f := fun r : R => r.f), modify_mid]
    obtain ⟨A2, hA2⟩ : ∃ A2, A = A2 := ⟨_, rfl⟩
    obtain ⟨c2, hc2⟩ : ∃ c2, c = c2 := ⟨_, rfl⟩
    obtain ⟨L2, hL2⟩ : ∃ L2, rs.length = L2 := ⟨_, rfl⟩
    have HL2 : Hid ((pre ++ r0 :: post).length = L2) := by show _ = _; rw [← hrs]; exact hL2
    have HD2 : Hid (DS w2 g A2 c2 (pre ++ r0 :: post) time) := by show DS _ _ _ _ _ _; rw [← hA2, ← hc2, ← hrs]; exact HD1.out
    have HK2 : Hid (Mem.Keeps (fpD g A rs) w w2) := by show Mem.Keeps _ _ _; exact HK1.out.mono (fun _ h _ => h.elim)
    have HG2 : Hid (∀ k, fpD g A2 (pre ++ r0 :: post) k → fpD g A rs k ∨ w.heap.size ≤ k) := by show ∀ k, _; rw [← hA2, ← hrs]; exact fun k hk => .inl hk
    have HLB : Hid (r0.f.bs.length ≤ 1048576) := by
      show _ ≤ _
      have := used_take_le (rs.map (·.f)) (K + 1)
      rw [used_snoc (f := r0.f) (by rw [List.getElem?_map, hr0]; rfl)] at this
      have h9 := HUS.out
      omega
    try rw [hL2]
    clear HD1 HK1 hL2 hc2 hA2 hrs hpl hr0 hrn HAT HINS HINY HQ1 x0
    have hL2 : (pre ++ r0 :: post).length = L2 := HL2.out
    have x0 : w2.cell? ⟨g, 0, none⟩ = some (.slice A2 L2 c2) := by rw [← hL2]; exact HD2.out.B.cell (j := 0) rfl
    have hr0 : (pre ++ r0 :: post)[K]? = some r0 := by rw [← HPL.out]; simp
    have hKL : K < L2 := by rw [← hL2]; exact (List.getElem?_eq_some_iff.1 hr0).1
    obtain ⟨b0, o0, hA2, y0, _, _, _, _⟩ := HD2.out.at hr0
    subst hA2
    clear hL2 hr0
    go_wp2
    clear x0 y0
    go_loopw [11] (AppRel w2 g (some ⟨b0, o0, none⟩) c2 pre post r0 time bs) (fun t _ => bs.length - (intOf t).toNat)
    case atStart => exact ⟨⟨0, r0, by omega, rfl, rfl, Lib.hid (by simp [tms]), HD2, Mem.Keeps.refl _ _, fun k hk => .inl hk⟩⟩
    case round =>
      obtain ⟨ix, r, hi, rfl, HRH, HRF, HDr, HKr, HGr⟩ := hrel.out
      clear hrel
      by_cases hlt : ix < bs.length
      · obtain ⟨bt, hbt⟩ : ∃ bt, bs[ix]? = some bt := ⟨_, List.getElem?_eq_getElem hlt⟩
        have hgl := HDr.out.B.lt
        have x1 : wr.cell? ⟨g, 1, none⟩ = some (.int .i64 ((time + ix : Nat) : Int)) := HDr.out.B.cell (j := 1) rfl
        have xf : ∀ j, wr.frozen? ⟨g, j, none⟩ = false := HDr.out.B.fr
        have d0 : decide ((ix : Int) < (bs.length : Int)) = true := by simp; omega
        obtain ⟨tm, htm⟩ : ∃ tm, time + ix = tm := ⟨_, rfl⟩
        have htb : tm ≤ 2000000000 := by omega
        rw [htm] at x1
        have hB3 := HDr.out.B.set 1 (.int .i64 ((tm + 1 : Nat) : Int))
        have hD3 := HDr.out.root (t' := tm + 1) hB3 ((Mem.Keeps.refl (fun q => q = g) wr).setCell (p := ⟨g, 1, none⟩) (fun _ => rfl) _)
        have hK3 : Mem.Keeps (fpD g (some ⟨b0, o0, none⟩) (pre ++ r :: post)) wr (wr.setCell ⟨g, 1, none⟩ (.int .i64 ((tm + 1 : Nat) : Int))) := (Mem.Keeps.refl _ wr).setCell (p := ⟨g, 1, none⟩) (fun _ => .inl rfl) _
        have HD3 := Lib.hid hD3
        have HK3 := Lib.hid hK3
        have HTM := Lib.hid htm
        clear hB3 hD3 hK3 htm
        go_upto_region 16 with fail
        rw [show ((tm : Int) + 1) = ((tm + 1 : Nat) : Int) by omega]
        obtain ⟨w3, hw3⟩ : ∃ w3, wr.setCell ⟨g, 1, none⟩ (.int .i64 ((tm + 1 : Nat) : Int)) = w3 := ⟨_, rfl⟩
        rw [hw3] at HD3 HK3 ⊢
        clear hw3 x1 xf
        have hrm : r ∈ pre ++ r :: post := by simp
        have hFA := HD3.out.F r hrm
        have HFA := Lib.hid hFA
        have hne := HD3.out.S.f r hrm
        have HNE := Lib.hid hne
        have hKw3 : Mem.Keeps (fun q => B ≤ q) w w3 := (HK2.out.mono (T := fun q => B ≤ q) (fun q h _ => HBB.out q h)).trans ((HKr.out.trans HK3.out (fun q h hl => by rcases HGr.out q h with h | h; exact h; omega)).mono (T := fun q => B ≤ q) (fun q h _ => by rcases HG2.out q h with h | h; exact HBB.out q h; exact Nat.le_trans hBw h)) (fun _ h _ => h)
        have hRd := HR.out.keeps hKw3 (fun _ h => h) hBw
        obtain ⟨bx, ox, hXe, hbx, hcx⟩ := hRd.at (k := ix) (by simpa using hlt)
        have yb : w3.cell? ⟨bx, ox + ix, none⟩ = some (Mem.byteV bt) := by rw [hcx]; simp [(List.getElem?_eq_some_iff.1 hbt).2]
        unfold Mem.byteV at yb
        have hfe : r.f.bs.length = r0.f.bs.length + ix := by rw [HRF.out]; simp; omega
        have hce : r.f.cm.length = r.f.bs.length := hFA.len
        have hlb := HLB.out
        obtain ⟨nb, hnb⟩ : ∃ nb, r.f.bs.length = nb := ⟨_, rfl⟩
        have hn1 : nb + 1 ≤ 2000000000 := by omega
        have hn2 : nb + 1 ≤ maxLen := by unfold maxLen; omega
        have hBx : Mem.Bx w3 80 3 r0.h [.int .i64 r.f.n, .slice r.A nb r.c, .slice r.T nb r.e] := by rw [← HRH.out, ← hnb]; have := hFA.B; unfold fCells at this; rw [hce] at this; exact this
        have hOx : Mem.Own w3 5 1 r.A nb r.c (r.f.bs.map Mem.byteV) := by rw [← hnb]; exact hFA.O
        have hPx : Mem.Own w3 3 1 r.T nb r.e (r.f.cm.map tmV) := by rw [← hnb, ← hce]; exact hFA.P
        have HNA : Hid (∀ k, Mem.blk r.A = some k → k ≠ r0.h ∧ Mem.blk r.T ≠ some k) := by show ∀ k, _; rw [← HRH.out]; exact hFA.ne
        have HNT : Hid (∀ k, Mem.blk r.T = some k → k ≠ r0.h) := by show ∀ k, _; rw [← HRH.out]; exact hFA.nt
        have HNB := Lib.hid hnb
        have HCE := Lib.hid hce
        have HBX := Lib.hid hBx
        have HOX := Lib.hid hOx
        have HPX := Lib.hid hPx
        have hbx3 : bx < w3.heap.size := Nat.lt_of_lt_of_le hbx (Nat.le_trans hBw hKw3.size)
        have HG3 : Hid (w3.cell? ⟨g, 1, none⟩ = some (.int .i64 ((tm + 1 : Nat) : Int))) := HD3.out.B.cell (j := 1) rfl
        have hgl3 := HD3.out.B.lt
        have hgr : g ≠ r0.h := by rw [← HRH.out]; exact fun e => (HNE.out r.h (.inl rfl)).1 e.symm
        have hgA : ∀ k, Mem.blk r.A = some k → k ≠ g := fun k hk => (HNE.out k (.inr (.inl hk))).1
        have HGA := Lib.hid hgA
        subst hXe
        clear hFA hne hRd hcx hfe hce hnb hBx hOx hPx hgA hrm
        have y2 : w3.cell? ⟨r0.h, 1, none⟩ = some (.slice r.A nb r.c) := HBX.out.cell (j := 1) rfl
        have hrl3 : r0.h < w3.heap.size := HBX.out.lt
        refine Reg.wp_region_w (by kernel_rfl) 115 14 rfl rfl (by kernel_rfl) (10) (fun q => Mem.blk r.A = some q) (13) (fun q => q = r0.h) (10) (fun _ => False)
          (fun i v u => match i with
            | 0 => v = .pointer (some ⟨r0.h, 0, none⟩)
            | 1 => v = .pointer (some ⟨r0.h, 0, none⟩)
            | 2 => v = .pointer (some ⟨r0.h, 0, none⟩)
            | 3 => v = .pointer (some ⟨r0.h, 1, none⟩)
            | 4 => v = .slice r.A nb r.c
            | 5 => v = .slice (some ⟨bx, ox, none⟩) bs.length cx
            | 6 => v = .int .i64 (ix : Int)
            | 7 => v = .pointer (some ⟨bx, ox + ix, none⟩)
            | 8 => v = .int .u8 (bt.toNat : Int)
            | 9 => ∃ s, v = .slice (some ⟨s, 0, none⟩) 1 1 ∧ w3.heap.size ≤ s ∧ Mem.Own u 5 1 (some ⟨s, 0, none⟩) 1 1 [.int .u8 (bt.toNat : Int)]
            | 10 => ∃ X5 c5, v = .slice X5 (nb + 1) c5 ∧ Mem.Own u 5 1 X5 (nb + 1) c5 (r.f.bs.map Mem.byteV ++ [.int .u8 (bt.toNat : Int)]) ∧ (X5 = r.A ∨ ∀ k, Mem.blk X5 = some k → w3.heap.size ≤ k)
            | 11 => v = .pointer (some ⟨r0.h, 0, none⟩)
            | 12 => v = .pointer (some ⟨r0.h, 1, none⟩)
            | 13 => ∃ X5 c5, Mem.Own u 5 1 X5 (nb + 1) c5 (r.f.bs.map Mem.byteV ++ [.int .u8 (bt.toNat : Int)]) ∧ (X5 = r.A ∨ ∀ k, Mem.blk X5 = some k → w3.heap.size ≤ k) ∧ Mem.Bx u 80 3 r0.h [.int .i64 r.f.n, .slice X5 (nb + 1) c5, .slice r.T nb r.e]
            | _ => True) ?_ ?_
        · refine Reg.Steps.cons ?_ (Reg.Steps.cons ?_ (Reg.Steps.cons ?_ (Reg.Steps.cons ?_ (Reg.Steps.cons ?_ (Reg.Steps.cons ?_ (Reg.Steps.cons ?_ (Reg.Steps.cons ?_ (Reg.Steps.cons ?_ (Reg.Steps.cons ?_ (Reg.Steps.cons ?_ (Reg.Steps.cons ?_ (Reg.Steps.cons ?_ (Reg.Steps.cons ?_ (Reg.Steps.nil _))))))))))))))
          · intro val ac u hR hp ha K hK      -- 0: t89 := Op.move t10
            have e10 : (ac.tmps[10]?).getD undef = .pointer (some ⟨r0.h, 0, none⟩) := ha 10 (by decide)
            clear ha hp
            refine Reg.Op1.plain rfl ?_
            go_wp2
            exact ⟨rfl, hK _ _ rfl (Reg.Wr.same _)⟩
          · intro val ac u hR hp ha K hK      -- 1: t90 := Op.move t10
            have e10 : (ac.tmps[10]?).getD undef = .pointer (some ⟨r0.h, 0, none⟩) := ha 10 (by decide)
            clear ha hp
            refine Reg.Op1.plain rfl ?_
            go_wp2
            exact ⟨rfl, hK _ _ rfl (Reg.Wr.same _)⟩
          · intro val ac u hR hp ha K hK      -- 2: t91 := Op.nilCheck t90
            obtain ⟨w90, h90, r90⟩ := hp 1 (by decide)
            have e90 : (ac.tmps[90]?).getD undef = .pointer (some ⟨r0.h, 0, none⟩) := (ha 90 (by decide)).trans h90
            clear h90
            clear ha hp
            refine Reg.Op1.plain rfl ?_
            go_wp2
            exact ⟨rfl, hK _ _ rfl (Reg.Wr.same _)⟩
          · intro val ac u hR hp ha K hK      -- 3: t92 := Op.fieldAddr 80 t91 1
            obtain ⟨w91, h91, r91⟩ := hp 2 (by decide)
            have e91 : (ac.tmps[91]?).getD undef = .pointer (some ⟨r0.h, 0, none⟩) := (ha 91 (by decide)).trans h91
            clear h91
            clear ha hp
            refine Reg.Op1.plain rfl ?_
            go_wp2
            exact ⟨rfl, hK _ _ rfl (Reg.Wr.same _)⟩
          · intro val ac u hR hp ha K hK      -- 4: t93 := Op.load 24 t92
            obtain ⟨w92, h92, r92⟩ := hp 3 (by decide)
            have e92 : (ac.tmps[92]?).getD undef = .pointer (some ⟨r0.h, 1, none⟩) := (ha 92 (by decide)).trans h92
            clear h92
            clear ha hp
            refine Reg.Op1.plain rfl ?_
            have x0 := (((Reg.Wr.none hR (by decide +kernel) (by decide +kernel) (by decide +kernel))).cell (p := ⟨r0.h, 1, none⟩) (hrl3) (id)).trans (y2)
            go_wp2
            exact ⟨rfl, hK _ _ rfl (Reg.Wr.same _)⟩
          · intro val ac u hR hp ha K hK      -- 5: t94 := Op.move t2
            have e2 : (ac.tmps[2]?).getD undef = .slice (some ⟨bx, ox, none⟩) bs.length cx := ha 2 (by decide)
            clear ha hp
            refine Reg.Op1.plain rfl ?_
            go_wp2
            exact ⟨rfl, hK _ _ rfl (Reg.Wr.same _)⟩
          · intro val ac u hR hp ha K hK      -- 6: t95 := Op.move t11
            have e11 : (ac.tmps[11]?).getD undef = .int .i64 (ix : Int) := ha 11 (by decide)
            clear ha hp
            refine Reg.Op1.plain rfl ?_
            go_wp2
            exact ⟨rfl, hK _ _ rfl (Reg.Wr.same _)⟩
          · intro val ac u hR hp ha K hK      -- 7: t96 := Op.indexAddr 24 t94 t95
            obtain ⟨w94, h94, r94⟩ := hp 5 (by decide)
            have e94 : (ac.tmps[94]?).getD undef = .slice (some ⟨bx, ox, none⟩) bs.length cx := (ha 94 (by decide)).trans h94
            clear h94
            obtain ⟨w95, h95, r95⟩ := hp 6 (by decide)
            have e95 : (ac.tmps[95]?).getD undef = .int .i64 (ix : Int) := (ha 95 (by decide)).trans h95
            clear h95
            clear ha hp
            refine Reg.Op1.plain rfl ?_
            go_wp2
            exact ⟨rfl, hK _ _ rfl (Reg.Wr.same _)⟩
          · intro val ac u hR hp ha K hK      -- 8: t97 := Op.load 5 t96
            obtain ⟨w96, h96, r96⟩ := hp 7 (by decide)
            have e96 : (ac.tmps[96]?).getD undef = .pointer (some ⟨bx, ox + ix, none⟩) := (ha 96 (by decide)).trans h96
            clear h96
            clear ha hp
            refine Reg.Op1.plain rfl ?_
            have x0 := (((Reg.Wr.none hR (by decide +kernel) (by decide +kernel) (by decide +kernel))).cell (p := ⟨bx, ox + ix, none⟩) (hbx3) (id)).trans (yb)
            go_wp2
            exact ⟨rfl, hK _ _ rfl (Reg.Wr.same _)⟩
          · intro val ac u hR hp ha K hK      -- 9: t98 := Op.buildSlice 24 1 #[(0, t97)]
            obtain ⟨w97, h97, r97⟩ := hp 8 (by decide)
            have e97 : (ac.tmps[97]?).getD undef = .int .u8 (bt.toNat : Int) := (ha 97 (by decide)).trans h97
            clear h97
            clear ha hp
            refine Reg.Op1.plain rfl ?_
            have hz := (Mem.Keeps.trans ((Mem.Keeps.refl (fun q => Mem.blk r.A = some q ∨ q = r0.h ∨ False) w3).drew) (Reg.Wr.all hR) (fun _ h _ => h)).size
            go_wp2
            exact ⟨rfl, hK _ _ ⟨_, rfl, hz, Mem.Own.lit u _ 1 #[.int .u8 (bt.toNat : Int)] 1 rfl rfl (by simp [maxLen])⟩ (Reg.Wr.below (Reg.below_new _ _))⟩
          · intro val ac u hR hp ha K hK      -- 10: t99 := Op.call { builtin append, args := #[t93, t98], argTypes := #[24, 24] }
            obtain ⟨w93, h93, r93⟩ := hp 4 (by decide)
            have e93 : (ac.tmps[93]?).getD undef = .slice r.A nb r.c := (ha 93 (by decide)).trans h93
            clear h93
            obtain ⟨w98, h98, r98⟩ := hp 9 (by decide)
            have e98 : (ac.tmps[98]?).getD undef = val 9 := ha 98 (by decide)
            clear ha hp
            refine Reg.Op1.plain rfl ?_
            obtain ⟨s, hv, hs, ho⟩ := h98
            rw [hv] at e98
            have ho' := ho.keeps (Reg.Wr.none r98 (by decide +kernel) (by decide +kernel) (by decide +kernel)) (fun _ _ h => h)
            have hq : Mem.Keeps (fun _ => False) w3 u := (Mem.Keeps.refl (fun _ => False) w3).drew.trans (Reg.Wr.none hR (by decide +kernel) (by decide +kernel) (by decide +kernel)) (fun _ h _ => h)
            have hO := HOX.out.keeps hq (fun _ _ h => h)
            have hz := hq.size
            refine Mem.wpList_app u rfl (.tmp 93) (.tmp 98) _ rfl bytes_elem r.A nb r.c _ (Reg.eval_of e93) u.heap.size (some ⟨s, 0, none⟩) 1 1 [.int .u8 (bt.toNat : Int)] (Reg.eval_of e98) ?_ hO ho'.rd rfl (by simp [Value.oneCell']) hn2 (by omega)
            intro X' d' u' hown hg hat
            exact ⟨rfl, hK _ _ ⟨X', d', rfl, hown, hat.imp id (fun h k hk => by rw [h] at hk; cases hk; exact hz)⟩ (Reg.Wr.does1 ((Mem.Keeps.refl _ u).grown hg (fun y hy _ => hy)))⟩
          · intro val ac u hR hp ha K hK      -- 11: t100 := Op.nilCheck t89
            obtain ⟨w89, h89, r89⟩ := hp 0 (by decide)
            have e89 : (ac.tmps[89]?).getD undef = .pointer (some ⟨r0.h, 0, none⟩) := (ha 89 (by decide)).trans h89
            clear h89
            clear ha hp
            refine Reg.Op1.plain rfl ?_
            go_wp2
            exact ⟨rfl, hK _ _ rfl (Reg.Wr.same _)⟩
          · intro val ac u hR hp ha K hK      -- 12: t101 := Op.fieldAddr 80 t100 1
            obtain ⟨w100, h100, r100⟩ := hp 11 (by decide)
            have e100 : (ac.tmps[100]?).getD undef = .pointer (some ⟨r0.h, 0, none⟩) := (ha 100 (by decide)).trans h100
            clear h100
            clear ha hp
            refine Reg.Op1.plain rfl ?_
            go_wp2
            exact ⟨rfl, hK _ _ rfl (Reg.Wr.same _)⟩
          · intro val ac u hR hp ha K hK      -- 13: Op.store 24 t101 t99
            obtain ⟨w101, h101, r101⟩ := hp 12 (by decide)
            have e101 : (ac.tmps[101]?).getD undef = .pointer (some ⟨r0.h, 1, none⟩) := (ha 101 (by decide)).trans h101
            clear h101
            obtain ⟨w99, h99, r99⟩ := hp 10 (by decide)
            have e99 : (ac.tmps[99]?).getD undef = val 10 := ha 99 (by decide)
            clear ha hp
            refine Reg.Op1.plain rfl ?_
            obtain ⟨X5, c5, hv, ho, hx⟩ := h99
            rw [hv] at e99
            have ho' := ho.keeps (Reg.Wr.none r99 (by decide +kernel) (by decide +kernel) (by decide +kernel)) (fun _ _ h => h)
            have hq : Mem.Keeps (fun q => Mem.blk r.A = some q ∨ False) w3 u := (Mem.Keeps.refl (fun q => Mem.blk r.A = some q ∨ False) w3).drew.trans (Reg.Wr.not2 hR (by decide +kernel)) (fun _ h _ => h)
            have hB := HBX.out.keeps hq (fun h => h.elim (fun h => (HNA.out _ h).1 rfl) id)
            have x1 := hB.cell (j := 1) rfl
            have xf := hB.fr
            have hbl := hB.lt
            have hXne : ∀ k, Mem.blk X5 = some k → k ≠ r0.h := fun k hk => by rcases hx with h | h; exact (HNA.out k (h ▸ hk)).1; have := h k hk; omega
            have hs9 := (Mem.Keeps.refl (fun q => q = r0.h) u).setCell (p := ⟨r0.h, 1, none⟩) (fun _ => rfl) (.slice X5 (nb + 1) c5)
            have ho9 := ho'.keeps hs9 hXne
            have hB9 := hB.set 1 (.slice X5 (nb + 1) c5)
            clear ho ho' hq hB hv
            go_wp2
            exact ⟨rfl, hK undef _ ⟨X5, c5, ho9, hx, hB9⟩ (Reg.Wr.does2 hs9)⟩
        intro val u hR H
        obtain ⟨w13, ⟨X5, c5, hO6a, hX5, hB6a⟩, r13⟩ := H 13 (by decide)
        have hk13 := Reg.Wr.none r13 (by decide +kernel) (by decide +kernel) (by decide +kernel)
        have HO6 := Lib.hid (hO6a.keeps hk13 (fun _ _ h => h))
        have HB6 := Lib.hid (hB6a.keeps hk13 id)
        have HX5 := Lib.hid hX5
        have hk36 : Mem.Keeps (fun q => Mem.blk r.A = some q ∨ q = r0.h) w3 u := ((Mem.Keeps.refl (fun q => Mem.blk r.A = some q ∨ q = r0.h ∨ False) w3).drew.trans (Reg.Wr.all hR) (fun _ h _ => h)).mono (fun q h _ => h.imp id (fun h => h.elim id (fun h => h.elim)))
        obtain ⟨w6, hw6⟩ : ∃ w6, u = w6 := ⟨_, rfl⟩
        rw [hw6] at HO6 HB6 hk36
        rw [hw6]
        simp only [List.map_cons, List.map_nil, Reg.lay, Act.put, List.setIfInBounds_toArray, List.set_cons_succ, List.set_cons_zero, Nat.reduceAdd]
        clear hO6a hB6a hX5 r13 hk13 hR H hw6 y2 yb
        go_upto_region 17 with fail
        have HP6 := Lib.hid (HPX.out.keeps hk36 (fun k hk h => by rcases h with h | h; exact (HNA.out k h).2 hk; exact HNT.out k hk h))
        have hG6 : w6.cell? ⟨g, 1, none⟩ = some (.int .i64 ((tm + 1 : Nat) : Int)) := (hk36.cell (p := ⟨g, 1, none⟩) hgl3 (fun h => by rcases h with h | h; exact HGA.out g h rfl; exact hgr h)).trans HG3.out
        have hX6 : ∀ k, Mem.blk X5 = some k → k < w6.heap.size := fun k hk => HO6.out.lt hk
        have HX6 := Lib.hid hX6
        have HK36 := Lib.hid hk36
        have hgl6 : g < w6.heap.size := Nat.lt_of_lt_of_le hgl3 hk36.size
        clear hk36 hX6
        have y3 : w6.cell? ⟨r0.h, 2, none⟩ = some (.slice r.T nb r.e) := HB6.out.cell (j := 2) rfl
        have hrl6 : r0.h < w6.heap.size := HB6.out.lt
        refine Reg.wp_region_w (by kernel_rfl) 115 14 rfl rfl (by kernel_rfl) (10) (fun q => Mem.blk r.T = some q) (13) (fun q => q = r0.h) (10) (fun _ => False)
          (fun i v u => match i with
            | 0 => v = .pointer (some ⟨r0.h, 0, none⟩)
            | 1 => v = .pointer (some ⟨r0.h, 0, none⟩)
            | 2 => v = .pointer (some ⟨r0.h, 0, none⟩)
            | 3 => v = .pointer (some ⟨r0.h, 2, none⟩)
            | 4 => v = .slice r.T nb r.e
            | 5 => v = .pointer (some ⟨g, 0, none⟩)
            | 6 => v = .pointer (some ⟨g, 0, none⟩)
            | 7 => v = .pointer (some ⟨g, 1, none⟩)
            | 8 => v = .int .i64 ((tm + 1 : Nat) : Int)
            | 9 => ∃ s, v = .slice (some ⟨s, 0, none⟩) 1 1 ∧ w6.heap.size ≤ s ∧ Mem.Own u 3 1 (some ⟨s, 0, none⟩) 1 1 [.int .i64 ((tm + 1 : Nat) : Int)]
            | 10 => ∃ Y8 c8, v = .slice Y8 (nb + 1) c8 ∧ Mem.Own u 3 1 Y8 (nb + 1) c8 (r.f.cm.map tmV ++ [.int .i64 ((tm + 1 : Nat) : Int)]) ∧ (Y8 = r.T ∨ ∀ k, Mem.blk Y8 = some k → w6.heap.size ≤ k)
            | 11 => v = .pointer (some ⟨r0.h, 0, none⟩)
            | 12 => v = .pointer (some ⟨r0.h, 2, none⟩)
            | 13 => ∃ Y8 c8, Mem.Own u 3 1 Y8 (nb + 1) c8 (r.f.cm.map tmV ++ [.int .i64 ((tm + 1 : Nat) : Int)]) ∧ (Y8 = r.T ∨ ∀ k, Mem.blk Y8 = some k → w6.heap.size ≤ k) ∧ Mem.Bx u 80 3 r0.h [.int .i64 r.f.n, .slice X5 (nb + 1) c5, .slice Y8 (nb + 1) c8]
            | _ => True) ?_ ?_
        · refine Reg.Steps.cons ?_ (Reg.Steps.cons ?_ (Reg.Steps.cons ?_ (Reg.Steps.cons ?_ (Reg.Steps.cons ?_ (Reg.Steps.cons ?_ (Reg.Steps.cons ?_ (Reg.Steps.cons ?_ (Reg.Steps.cons ?_ (Reg.Steps.cons ?_ (Reg.Steps.cons ?_ (Reg.Steps.cons ?_ (Reg.Steps.cons ?_ (Reg.Steps.cons ?_ (Reg.Steps.nil _))))))))))))))
          · intro val ac u hR hp ha K hK      -- 0: t102 := Op.move t10
            have e10 : (ac.tmps[10]?).getD undef = .pointer (some ⟨r0.h, 0, none⟩) := ha 10 (by decide)
            clear ha hp
            refine Reg.Op1.plain rfl ?_
            go_wp2
            exact ⟨rfl, hK _ _ rfl (Reg.Wr.same _)⟩
          · intro val ac u hR hp ha K hK      -- 1: t103 := Op.move t10
            have e10 : (ac.tmps[10]?).getD undef = .pointer (some ⟨r0.h, 0, none⟩) := ha 10 (by decide)
            clear ha hp
            refine Reg.Op1.plain rfl ?_
            go_wp2
            exact ⟨rfl, hK _ _ rfl (Reg.Wr.same _)⟩
          · intro val ac u hR hp ha K hK      -- 2: t104 := Op.nilCheck t103
            obtain ⟨w103, h103, r103⟩ := hp 1 (by decide)
            have e103 : (ac.tmps[103]?).getD undef = .pointer (some ⟨r0.h, 0, none⟩) := (ha 103 (by decide)).trans h103
            clear h103
            clear ha hp
            refine Reg.Op1.plain rfl ?_
            go_wp2
            exact ⟨rfl, hK _ _ rfl (Reg.Wr.same _)⟩
          · intro val ac u hR hp ha K hK      -- 3: t105 := Op.fieldAddr 80 t104 2
            obtain ⟨w104, h104, r104⟩ := hp 2 (by decide)
            have e104 : (ac.tmps[104]?).getD undef = .pointer (some ⟨r0.h, 0, none⟩) := (ha 104 (by decide)).trans h104
            clear h104
            clear ha hp
            refine Reg.Op1.plain rfl ?_
            go_wp2
            exact ⟨rfl, hK _ _ rfl (Reg.Wr.same _)⟩
          · intro val ac u hR hp ha K hK      -- 4: t106 := Op.load 33 t105
            obtain ⟨w105, h105, r105⟩ := hp 3 (by decide)
            have e105 : (ac.tmps[105]?).getD undef = .pointer (some ⟨r0.h, 2, none⟩) := (ha 105 (by decide)).trans h105
            clear h105
            clear ha hp
            refine Reg.Op1.plain rfl ?_
            have x0 := (((Reg.Wr.none hR (by decide +kernel) (by decide +kernel) (by decide +kernel))).cell (p := ⟨r0.h, 2, none⟩) (hrl6) (id)).trans (y3)
            go_wp2
            exact ⟨rfl, hK _ _ rfl (Reg.Wr.same _)⟩
          · intro val ac u hR hp ha K hK      -- 5: t107 := Op.move t0
            have e0 : (ac.tmps[0]?).getD undef = .pointer (some ⟨g, 0, none⟩) := ha 0 (by decide)
            clear ha hp
            refine Reg.Op1.plain rfl ?_
            go_wp2
            exact ⟨rfl, hK _ _ rfl (Reg.Wr.same _)⟩
          · intro val ac u hR hp ha K hK      -- 6: t108 := Op.nilCheck t107
            obtain ⟨w107, h107, r107⟩ := hp 5 (by decide)
            have e107 : (ac.tmps[107]?).getD undef = .pointer (some ⟨g, 0, none⟩) := (ha 107 (by decide)).trans h107
            clear h107
            clear ha hp
            refine Reg.Op1.plain rfl ?_
            go_wp2
            exact ⟨rfl, hK _ _ rfl (Reg.Wr.same _)⟩
          · intro val ac u hR hp ha K hK      -- 7: t109 := Op.fieldAddr 65 t108 1
            obtain ⟨w108, h108, r108⟩ := hp 6 (by decide)
            have e108 : (ac.tmps[108]?).getD undef = .pointer (some ⟨g, 0, none⟩) := (ha 108 (by decide)).trans h108
            clear h108
            clear ha hp
            refine Reg.Op1.plain rfl ?_
            go_wp2
            exact ⟨rfl, hK _ _ rfl (Reg.Wr.same _)⟩
          · intro val ac u hR hp ha K hK      -- 8: t110 := Op.load 3 t109
            obtain ⟨w109, h109, r109⟩ := hp 7 (by decide)
            have e109 : (ac.tmps[109]?).getD undef = .pointer (some ⟨g, 1, none⟩) := (ha 109 (by decide)).trans h109
            clear h109
            clear ha hp
            refine Reg.Op1.plain rfl ?_
            have x0 := (((Reg.Wr.none hR (by decide +kernel) (by decide +kernel) (by decide +kernel))).cell (p := ⟨g, 1, none⟩) (hgl6) (id)).trans (hG6)
            go_wp2
            exact ⟨rfl, hK _ _ rfl (Reg.Wr.same _)⟩
          · intro val ac u hR hp ha K hK      -- 9: t111 := Op.buildSlice 33 1 #[(0, t110)]
            obtain ⟨w110, h110, r110⟩ := hp 8 (by decide)
            have e110 : (ac.tmps[110]?).getD undef = .int .i64 ((tm + 1 : Nat) : Int) := (ha 110 (by decide)).trans h110
            clear h110
            clear ha hp
            refine Reg.Op1.plain rfl ?_
            have hz := (Mem.Keeps.trans ((Mem.Keeps.refl (fun q => Mem.blk r.T = some q ∨ q = r0.h ∨ False) w6).drew) (Reg.Wr.all hR) (fun _ h _ => h)).size
            go_wp2
            exact ⟨rfl, hK _ _ ⟨_, rfl, hz, Mem.Own.lit u _ 1 #[.int .i64 ((tm + 1 : Nat) : Int)] 1 rfl rfl (by simp [maxLen])⟩ (Reg.Wr.below (Reg.below_new _ _))⟩
          · intro val ac u hR hp ha K hK      -- 10: t112 := Op.call { builtin append, args := #[t106, t111], argTypes := #[33, 33] }
            obtain ⟨w106, h106, r106⟩ := hp 4 (by decide)
            have e106 : (ac.tmps[106]?).getD undef = .slice r.T nb r.e := (ha 106 (by decide)).trans h106
            clear h106
            obtain ⟨w111, h111, r111⟩ := hp 9 (by decide)
            have e111 : (ac.tmps[111]?).getD undef = val 9 := ha 111 (by decide)
            clear ha hp
            refine Reg.Op1.plain rfl ?_
            obtain ⟨s, hv, hs, ho⟩ := h111
            rw [hv] at e111
            have ho' := ho.keeps (Reg.Wr.none r111 (by decide +kernel) (by decide +kernel) (by decide +kernel)) (fun _ _ h => h)
            have hq : Mem.Keeps (fun _ => False) w6 u := (Mem.Keeps.refl (fun _ => False) w6).drew.trans (Reg.Wr.none hR (by decide +kernel) (by decide +kernel) (by decide +kernel)) (fun _ h _ => h)
            have hO := HP6.out.keeps hq (fun _ _ h => h)
            have hz := hq.size
            refine Mem.wpList_app u rfl (.tmp 106) (.tmp 111) _ rfl ints_elem r.T nb r.e _ (Reg.eval_of e106) u.heap.size (some ⟨s, 0, none⟩) 1 1 [.int .i64 ((tm + 1 : Nat) : Int)] (Reg.eval_of e111) ?_ hO ho'.rd rfl (by simp [Value.oneCell']) hn2 (by omega)
            intro X' d' u' hown hg hat
            exact ⟨rfl, hK _ _ ⟨X', d', rfl, hown, hat.imp id (fun h k hk => by rw [h] at hk; cases hk; exact hz)⟩ (Reg.Wr.does1 ((Mem.Keeps.refl _ u).grown hg (fun y hy _ => hy)))⟩
          · intro val ac u hR hp ha K hK      -- 11: t113 := Op.nilCheck t102
            obtain ⟨w102, h102, r102⟩ := hp 0 (by decide)
            have e102 : (ac.tmps[102]?).getD undef = .pointer (some ⟨r0.h, 0, none⟩) := (ha 102 (by decide)).trans h102
            clear h102
            clear ha hp
            refine Reg.Op1.plain rfl ?_
            go_wp2
            exact ⟨rfl, hK _ _ rfl (Reg.Wr.same _)⟩
          · intro val ac u hR hp ha K hK      -- 12: t114 := Op.fieldAddr 80 t113 2
            obtain ⟨w113, h113, r113⟩ := hp 11 (by decide)
            have e113 : (ac.tmps[113]?).getD undef = .pointer (some ⟨r0.h, 0, none⟩) := (ha 113 (by decide)).trans h113
            clear h113
            clear ha hp
            refine Reg.Op1.plain rfl ?_
            go_wp2
            exact ⟨rfl, hK _ _ rfl (Reg.Wr.same _)⟩
          · intro val ac u hR hp ha K hK      -- 13: Op.store 33 t114 t112
            obtain ⟨w114, h114, r114⟩ := hp 12 (by decide)
            have e114 : (ac.tmps[114]?).getD undef = .pointer (some ⟨r0.h, 2, none⟩) := (ha 114 (by decide)).trans h114
            clear h114
            obtain ⟨w112, h112, r112⟩ := hp 10 (by decide)
            have e112 : (ac.tmps[112]?).getD undef = val 10 := ha 112 (by decide)
            clear ha hp
            refine Reg.Op1.plain rfl ?_
            obtain ⟨Y8, c8, hv, ho, hx⟩ := h112
            rw [hv] at e112
            have ho' := ho.keeps (Reg.Wr.none r112 (by decide +kernel) (by decide +kernel) (by decide +kernel)) (fun _ _ h => h)
            have hq : Mem.Keeps (fun q => Mem.blk r.T = some q ∨ False) w6 u := (Mem.Keeps.refl (fun q => Mem.blk r.T = some q ∨ False) w6).drew.trans (Reg.Wr.not2 hR (by decide +kernel)) (fun _ h _ => h)
            have hB := HB6.out.keeps hq (fun h => h.elim (fun h => HNT.out _ h rfl) id)
            have x1 := hB.cell (j := 2) rfl
            have xf := hB.fr
            have hbl := hB.lt
            have hXne : ∀ k, Mem.blk Y8 = some k → k ≠ r0.h := fun k hk => by rcases hx with h | h; exact HNT.out k (h ▸ hk); have := h k hk; omega
            have hs9 := (Mem.Keeps.refl (fun q => q = r0.h) u).setCell (p := ⟨r0.h, 2, none⟩) (fun _ => rfl) (.slice Y8 (nb + 1) c8)
            have ho9 := ho'.keeps hs9 hXne
            have hB9 := hB.set 2 (.slice Y8 (nb + 1) c8)
            clear ho ho' hq hB hv
            go_wp2
            exact ⟨rfl, hK undef _ ⟨Y8, c8, ho9, hx, hB9⟩ (Reg.Wr.does2 hs9)⟩
        intro val u hR H
        obtain ⟨w13, ⟨Y8, c8, hP9a, hY8, hB9a⟩, r13⟩ := H 13 (by decide)
        have hk13 := Reg.Wr.none r13 (by decide +kernel) (by decide +kernel) (by decide +kernel)
        have hP9 := hP9a.keeps hk13 (fun _ _ h => h)
        have hB9 := hB9a.keeps hk13 id
        have HY8 := Lib.hid hY8
        have hk69 : Mem.Keeps (fun q => Mem.blk r.T = some q ∨ q = r0.h) w6 u := ((Mem.Keeps.refl (fun q => Mem.blk r.T = some q ∨ q = r0.h ∨ False) w6).drew.trans (Reg.Wr.all hR) (fun _ h _ => h)).mono (fun q h _ => h.imp id (fun h => h.elim id (fun h => h.elim)))
        obtain ⟨w9, hw9⟩ : ∃ w9, u = w9 := ⟨_, rfl⟩
        rw [hw9] at hP9 hB9 hk69
        rw [hw9]
        simp only [List.map_cons, List.map_nil, Reg.lay, Act.put, List.setIfInBounds_toArray, List.set_cons_succ, List.set_cons_zero, Nat.reduceAdd]
        clear hP9a hB9a hY8 r13 hk13 hR H hw9 y3 hG6
        have h36z := HK36.out.size
        have hXT : ∀ k, Mem.blk X5 = some k → ¬ (Mem.blk r.T = some k ∨ k = r0.h) := fun k hk hh => by
          have hXr : k ≠ r0.h := by
            rcases HX5.out with h5 | h5
            · exact (HNA.out k (h5 ▸ hk)).1
            · have := h5 k hk; have h1 := HBX.out.lt; omega
          rcases hh with hh | hh
          · rcases HX5.out with h | h
            · exact (HNA.out k (h ▸ hk)).2 hh
            · have := h k hk; have := HPX.out.lt hh; omega
          · exact hXr hh
        have hO9 := HO6.out.keeps hk69 hXT
        have hk39 : Mem.Keeps r.fp w3 w9 := (HK36.out.mono (T := r.fp) (fun q h _ => by rcases h with h | h; exact .inr (.inl h); exact .inl (h.trans HRH.out.symm))).trans (hk69.mono (T := r.fp) (fun q h _ => by rcases h with h | h; exact .inr (.inr h); exact .inl (h.trans HRH.out.symm))) (fun _ h _ => h)
        have hXX : Mem.blk X5 = Mem.blk r.A ∨ ∀ k, Mem.blk X5 = some k → w3.heap.size ≤ k := HX5.out.imp (fun h => by rw [h]) (fun h k hk => h k hk)
        have hYY : Mem.blk Y8 = Mem.blk r.T ∨ ∀ k, Mem.blk Y8 = some k → w3.heap.size ≤ k ∧ Mem.blk X5 ≠ some k := HY8.out.imp (fun h => by rw [h]) (fun h k hk => ⟨by have := h k hk; omega, fun hh => by have := h k hk; have := HX6.out k hh; omega⟩)
        have hbl : (r.f.bs ++ [bt]).length = nb + 1 := by rw [List.length_append, HNB.out]; rfl
        have hcl : (r.f.cm ++ [tm + 1]).length = nb + 1 := by rw [List.length_append, HCE.out, HNB.out]; rfl
        have hf9 : FAt w9 { r with f := { r.f with bs := r.f.bs ++ [bt], cm := r.f.cm ++ [tm + 1] }, A := X5, c := c5, T := Y8, e := c8 } :=
          HFA.out.bytes (by rw [hbl, hcl, HRH.out]; exact hB9) (by rw [hbl, List.map_append]; exact hO9) (by rw [hcl, List.map_append]; exact hP9) hXX hYY (by rw [hbl, hcl])
        have hq9 : ∀ k, R.fp { r with f := { r.f with bs := r.f.bs ++ [bt], cm := r.f.cm ++ [tm + 1] }, A := X5, c := c5, T := Y8, e := c8 } k → r.fp k ∨ w3.heap.size ≤ k := fun k hk => by
          rcases hk with hk | hk | hk
          · exact .inl (.inl hk)
          · rcases hXX with h | h
            · exact .inl (.inr (.inl (h ▸ hk)))
            · exact .inr (h k hk)
          · rcases hYY with h | h
            · exact .inl (.inr (.inr (h ▸ hk)))
            · exact .inr (h k hk).1
        obtain ⟨e1, e2, e3⟩ := HD3.out.file (r' := { r with f := { r.f with bs := r.f.bs ++ [bt], cm := r.f.cm ++ [tm + 1] }, A := X5, c := c5, T := Y8, e := c8 }) rfl hf9 hk39 hq9
        have HE1 := Lib.hid e1
        have HF9 : Hid ((⟨r.f.n, r.f.bs ++ [bt], r.f.cm ++ [tm + 1]⟩ : Fl) = ⟨r0.f.n, r0.f.bs ++ bs.take (ix + 1), r0.f.cm ++ tms time (ix + 1)⟩) := by
          show _ = _
          rw [HRF.out, Mem.take_snoc hbt, tms_succ, HTM.out, List.append_assoc, List.append_assoc]
        have hks : w2.heap.size ≤ w3.heap.size := Nat.le_trans HKr.out.size HK3.out.size
        have hgr2 : ∀ k, fpD g (some ⟨b0, o0, none⟩) (pre ++ { r with f := { r.f with bs := r.f.bs ++ [bt], cm := r.f.cm ++ [tm + 1] }, A := X5, c := c5, T := Y8, e := c8 } :: post) k → fpD g (some ⟨b0, o0, none⟩) (pre ++ r0 :: post) k ∨ w2.heap.size ≤ k := fun k hk => by
          rcases e3 k hk with h | h
          · exact HGr.out k h
          · exact .inr (Nat.le_trans hks h)
        have hk2 : Mem.Keeps (fpD g (some ⟨b0, o0, none⟩) (pre ++ r0 :: post)) w2 w9 := HKr.out.trans (HK3.out.trans e2 (fun _ h _ => h)) (fun k hk hl => by rcases HGr.out k hk with h | h; exact h; omega)
        have HG9 := Lib.hid hgr2
        have HK9 := Lib.hid hk2
        have htt : time + (ix + 1) = tm + 1 := by have := HTM.out; omega
        have HTT := Lib.hid htt
        clear hB9 h36z hXT hO9 hP9 hk69 hk39 hXX hYY hbl hcl hf9 hq9 e1 e2 e3 hks hgr2 hk2 htt
        go_wp2
        go_roundw
        case rel => exact ⟨⟨ix + 1, (⟨⟨r.f.n, r.f.bs ++ [bt], r.f.cm ++ [tm + 1]⟩, r.h, X5, c5, Y8, c8⟩ : R), by omega, by go_num, Lib.hid HRH.out, HF9, Lib.hid (by rw [HTT.out]; exact HE1.out), HK9, HG9⟩⟩
        case measure => simp [intOf]; omega
      · obtain rfl : ix = bs.length := by omega
        have d0 : decide ((bs.length : Int) < (bs.length : Int)) = false := by simp
        have HF : Hid (r.f = appF bs time r0.f) := by
          show _ = _
          rw [HRF.out, List.take_length]; rfl
        clear hlt hi
        go_wp2
        go_ret
        have hqa := HDr.out.qat (l := pre.map (·.f) ++ appF bs time r0.f :: post.map (·.f)) (by rw [List.map_append, List.map_cons, HF.out])
        refine ⟨by rw [HE.out]; rfl, ⟨_, by rw [HEND.out]; exact hqa, fun q hq => ?_⟩, ?_⟩
        · rcases HGr.out q hq with h | h
          · exact HG2.out q h
          · exact .inr (Nat.le_trans HK2.out.size h)
        · exact HK2.out.trans HKr.out (fun k hk hl => by rcases HG2.out k hk with h | h; exact h; omega)
  | false =>
    by_cases h64 : 64 ≤ rs.length
    · have he : appE ⟨rs.map (·.f), time⟩ n bs = 51 := by rw [HE0.out, if_pos (.inl ⟨rfl, h64⟩)]
      have HE := Lib.hid he
      clear he
      go_wp2
      go_ret
      exact STAY.out 51 _ HE.out (by decide) HK1.out
    have he : appE ⟨rs.map (·.f), time⟩ n bs = 0 := by rw [HE0.out, if_neg (fun h => by rcases h with h | h; exact h64 h.2; exact hov h)]
    have HE := Lib.hid he
    clear he
    go_upto_region 8 with (go_at_call 37; refine HU1.out.mono ?_; rintro x w2 ⟨rfl, rfl⟩; clear HU1)
    obtain ⟨w1, hw1⟩ : ∃ w1, w1 = w2 := ⟨_, rfl⟩
    subst hw1
    obtain ⟨pre, hpre⟩ : ∃ pre, rs.take K = pre := ⟨_, rfl⟩
    obtain ⟨post, hpost⟩ : ∃ post, rs.drop K = post := ⟨_, rfl⟩
    have hrs : rs = pre ++ post := by rw [← hpre, ← hpost, List.take_append_drop]
    have hpl : pre.length = K := by rw [← hpre, List.length_take]; omega
    have hpo : rs.length - K = post.length := by rw [← hpost, List.length_drop]
    have hlc : rs.length ≤ c := HD1.out.O.le
    have hcc : c ≤ 9223372036854775807 := by have := HD1.out.O.cap; unfold maxLen at this; omega
    have f1 := form_of HD1.out.O
    have s1 := fun s => sliced_cut s K f1
    have hrd := HD1.out.O.rd
    have hr1 := hrd.take K
    rw [← List.map_take, hpre] at hr1
    have HR1 := Lib.hid hr1
    have hq2 : Mem.Rd w1 w1.heap.size (if c = K then A else A.map (·.add (K * 1))) (post.map ptr) := by
      rcases f1 with ⟨h1, h2, h3⟩ | ⟨b, o, h1⟩
      · have : post = [] := by rw [← hpost]; exact List.drop_of_length_le (by omega)
        subst this; exact .inl rfl
      · subst h1
        have := rd_tail (c := c) (l := K) (s := 1) hrd (by rw [List.length_map]; exact hlc) rfl
        rw [← List.map_drop, hpost] at this
        exact this
    have HR2 := Lib.hid hq2
    have HRS := Lib.hid hrs
    have HPL := Lib.hid hpl
    have hplk : (pre.map ptr).length = K * 1 := by rw [List.length_map, hpl, Nat.mul_one]
    have hKm : K ≤ maxLen := by unfold maxLen; omega
    have hK64 : K ≤ 64 := by omega
    have hp64 : post.length ≤ 64 := by omega
    have hKn : K + 1 ≤ maxLen := by unfold maxLen; omega
    have hKp : K + 1 + post.length ≤ maxLen := by unfold maxLen; omega
    have HFM := Lib.hid f1
    clear hrd hr1 hpre hpost hrs hpl f1 hq2
    go_upto_region 9 with (at_builtin; refine Mem.wpList_app _ rfl (.tmp 44) (.tmp 50) _ rfl ptr_elem none 0 0 [] rfl w1.heap.size A K c (pre.map ptr) rfl ?_ (Mem.Own.nil _ _ _) HR1.out hplk (ptr_one pre) (by omega) (by omega); intro X3 c3 w3 hown hg3 hat; have hb3 : Below w1.heap.size w1 w3 := (Below.refl _ _).grown hg3 (Nat.le_refl _) (fun q hq => by cases hq); have hfx : Mem.From w1.heap.size X3 := (by rcases hat with rfl | rfl; exact Mem.From.none_ _; exact Mem.From.some_ (Nat.le_refl _)); rw [Nat.zero_add] at hown ⊢; rw [List.nil_append] at hown; have HO3 := Lib.hid hown; have HB3 := Lib.hid hb3; have HF3 := Lib.hid hfx; clear hown hg3 hat hb3 hfx)
    have HA3 := Lib.hid (HO3.out.alloc (.cells #[.int .i64 n, .slice none 0 0, .slice none 0 0] 80))
    have HZ3 : Hid (Mem.Bx (w3.alloc (.cells #[.int .i64 n, .slice none 0 0, .slice none 0 0] 80)) 80 3 w3.heap.size [.int .i64 n, .slice none 0 0, .slice none 0 0]) := Mem.Bx.new w3 80 #[.int .i64 n, .slice none 0 0, .slice none 0 0] rfl rfl
    have HL3 : Hid (∀ k, Mem.blk X3 = some k → k < w3.heap.size) := fun k hk => HO3.out.lt hk
    go_upto_region 10 with (at_builtin; refine Mem.wpList_app _ rfl (.tmp 52) (.tmp 56) _ rfl ptr_elem X3 K c3 (pre.map ptr) rfl _ _ 1 1 [.pointer (some ⟨w3.heap.size, 0, none⟩)] rfl ?_ (HA3.out.alloc _) (Mem.Rd.alloc_new _ _ _ _ (by simp)) rfl (by simp [Value.oneCell']) hKn (by omega); intro X4 c4 w4 hown hg4 hat; have HO4 := Lib.hid hown; have HG4 := Lib.hid hg4; have HAT4 := Lib.hid hat; clear hown hg4 hat)
    have hb4 := ((HB3.out.alloc HB3.out.size (.cells #[.int .i64 n, .slice none 0 0, .slice none 0 0] 80)).alloc (by simp; have := HB3.out.size; omega) (.cells #[.pointer (some ⟨w3.heap.size, 0, none⟩)] 78)).grown HG4.out (by simp; have := HB3.out.size; omega) HF3.out.blk
    have hz4 := HG4.out.size
    simp at hz4
    have hZ4 := HZ3.out.keeps (((Mem.Keeps.refl (fun q => Mem.blk X3 = some q) _).alloc (.cells #[.pointer (some ⟨w3.heap.size, 0, none⟩)] 78)).grown HG4.out (fun q hq _ => hq)) (fun h => by have := HL3.out _ h; omega)
    have hf4 : ∀ k, Mem.blk X4 = some k → w1.heap.size ≤ k ∧ k ≠ w3.heap.size := fun k hk => by
      rcases HAT4.out with h | h
      · rw [h] at hk; have h9 := HF3.out.blk k hk; have h8 := HL3.out k hk; exact ⟨h9, by omega⟩
      · rw [h] at hk; cases hk; have := HB3.out.size; simp; omega
    have HGF : Hid (w1.heap.size ≤ w3.heap.size) := HB3.out.size
    obtain ⟨gf, hgf⟩ : ∃ gf, w3.heap.size = gf := ⟨_, rfl⟩
    have hO4 := HO4.out
    rw [hgf] at hZ4 hf4 HGF hz4 hO4
    clear HO4
    have HO4 := Lib.hid hO4
    have HZ4 := Lib.hid hZ4
    have HF4 := Lib.hid hf4
    have HB4 := Lib.hid hb4
    have x0 : w4.cell? ⟨g, 0, none⟩ = some (.slice A rs.length c) := (HD1.out.B.below hb4 HD1.out.B.lt).cell (j := 0) rfl
    have hg4l : g < w4.heap.size := Nat.lt_of_lt_of_le HD1.out.B.lt hb4.size
    clear hZ4 hf4 hb4 hO4 HG4 HAT4 HO3 HB3 HF3 HA3 HZ3 HL3 hgf HR1
    by_cases hcl : c = K
    · have hr3 : Mem.Rd w4 w1.heap.size A (post.map ptr) := by
        have := HR2.out.below HB4.out
        rw [if_pos hcl] at this
        exact this
      have HR3 := Lib.hid hr3
      clear hr3
      have hcl2 : K = c := hcl.symm
      clear hcl
      subst hcl2
      go_upto_region 11 with (at_builtin; refine Mem.wpList_app _ rfl (.tmp 59) (.tmp 65) _ rfl ptr_elem X4 (K + 1) c4 _ rfl w1.heap.size A post.length _ (post.map ptr) rfl ?_ HO4.out HR3.out (by rw [List.length_map, Nat.mul_one]) (ptr_one post) hKp (by omega); intro X5 c5 w5 hown hg5 hat; have hb5 := HB4.out.grown hg5 HB4.out.size (fun k hk => (HF4.out k hk).1); have hf5 : ∀ k, Mem.blk X5 = some k → w1.heap.size ≤ k ∧ k ≠ gf := (fun k hk => by rcases hat with rfl | rfl; exact HF4.out k hk; cases hk; exact ⟨HB4.out.size, by simp; omega⟩); have hB5 := HD1.out.B.below hb5 HD1.out.B.lt; have x5 : w5.cell? ⟨g, 0, none⟩ = some (.slice A rs.length _) := hB5.cell (j := 0) rfl; have f5 := hB5.fr; have hg5l := hB5.lt; have hZ5 := HZ4.out.keeps ((Mem.Keeps.refl (fun q => Mem.blk X4 = some q) w4).grown hg5 (fun q hq _ => hq)) (fun h => (HF4.out _ h).2 rfl); have HB5 := Lib.hid hB5; have HO5 := Lib.hid hown; have HBB5 := Lib.hid hb5; have HF5 := Lib.hid hf5; have HZ5 := Lib.hid hZ5; clear hown hg5 hat hb5 hf5 hB5 hZ5 x0)
      have hB6 := HB5.out.set 0 (.slice X5 (K + 1 + post.length) c5)
      have hk6 : Mem.Keeps (fun q => q = g) w1 (w5.setCell ⟨g, 0, none⟩ (.slice X5 (K + 1 + post.length) c5)) := ((Mem.Keeps.of_below HBB5.out).mono (T := fun q => q = g) (fun _ h _ => h.elim)).setCell (p := ⟨g, 0, none⟩) (fun _ => rfl) _
      have hk56 := (Mem.Keeps.refl (fun q => q = g) w5).setCell (p := ⟨g, 0, none⟩) (fun _ => rfl) (.slice X5 (K + 1 + post.length) c5)
      have hgl := HD1.out.B.lt
      have hO6 := HO5.out.keeps hk56 (fun k hk e => by have := (HF5.out k hk).1; omega)
      have hZ6 := HZ5.out.keeps hk56 (fun e => by have := HGF.out; omega)
      obtain ⟨w2, hw2⟩ : ∃ w2, w5.setCell ⟨g, 0, none⟩ (.slice X5 (K + 1 + post.length) c5) = w2 := ⟨_, rfl⟩
      rw [hw2] at hB6 hk6 hO6 hZ6
      try rw [hw2]
      obtain ⟨r0, hr0⟩ : ∃ r0 : R, (⟨⟨n, [], []⟩, gf, none, 0, none, 0⟩ : R) = r0 := ⟨_, rfl⟩
      have hfn : FAt w2 r0 := by rw [← hr0]; exact ⟨hZ6, Mem.Own.nil _ _ _, Mem.Own.nil _ _ _, (fun k hk => by cases hk), (fun k hk => by cases hk), rfl⟩
      have hfp : ∀ k, r0.fp k → k = gf := fun k hk => by rw [← hr0] at hk; rcases hk with h | h | h; exact h; cases h; cases h
      have hlen : (pre ++ r0 :: post).length = K + 1 + post.length := by rw [List.length_append, List.length_cons, HPL.out]; omega
      have hmap : (pre ++ r0 :: post).map ptr = (pre.map ptr ++ [.pointer (some ⟨gf, 0, none⟩)]) ++ post.map ptr := by rw [← hr0]; simp [ptr]
      have hmem : ∀ q ∈ pre ++ r0 :: post, q ∈ rs ∨ q = r0 := fun q hq => by
        rw [HRS.out]
        rcases List.mem_append.1 hq with h | h
        · exact .inl (List.mem_append_left _ h)
        · rcases List.mem_cons.1 h with h | h
          · exact .inr h
          · exact .inl (List.mem_append_right _ h)
      have hpw := HD1.out.S.p
      rw [HRS.out, List.pairwise_append] at hpw
      have hold : ∀ q ∈ rs, ∀ k, q.fp k → ¬ r0.fp k := fun q hq k hk h => by have := (HD1.out.F q hq).lt hk; have := hfp k h; have := HGF.out; omega
      have hpw2 : (pre ++ r0 :: post).Pairwise (fun r q => ∀ k, r.fp k → ¬ q.fp k) := by
        rw [List.pairwise_append, List.pairwise_cons]
        refine ⟨hpw.1, ⟨fun q hq k h1 h2 => hold q (by rw [HRS.out]; exact List.mem_append_right _ hq) k h2 h1, hpw.2.1⟩, fun q hq q' hq' k h1 h2 => ?_⟩
        rcases List.mem_cons.1 hq' with rfl | hq'
        · exact hold q (by rw [HRS.out]; exact List.mem_append_left _ hq) k h1 h2
        · exact hpw.2.2 q hq q' hq' k h1 h2
      obtain ⟨e1, e2, e3⟩ := HD1.out.list (A' := X5) (c' := c5) (rs' := pre ++ r0 :: post) (by rw [hlen]; exact hB6) (by rw [hlen, hmap]; exact hO6) (fun k hk => (HF5.out k hk).1) (fun q hq => (hmem q hq).imp id (fun h => by subst h; exact ⟨hfn, fun k hk => by have hx := hfp k hk; have hy := HGF.out; exact ⟨by omega, fun hb => (HF5.out k hb).2 hx⟩⟩)) hpw2 hk6
      have HD2 := Lib.hid e1
      have HK2 : Hid (Mem.Keeps (fpD g A rs) w w2) := (HK1.out.mono (T := fpD g A rs) (fun _ h _ => h.elim)).trans e2 (fun _ h _ => h)
      have HG2 : Hid (∀ k, fpD g X5 (pre ++ r0 :: post) k → fpD g A rs k ∨ w.heap.size ≤ k) := fun k hk => (e3 k hk).imp id (fun h => Nat.le_trans HK1.out.size h)
      have HEND : Hid (appQ ⟨rs.map (·.f), time⟩ n bs = ⟨pre.map (·.f) ++ appF bs time r0.f :: post.map (·.f), time + bs.length⟩) := by
        show _ = _
        have hp1 : (rs.map (·.f)).take K = pre.map (·.f) := by rw [HRS.out, List.map_append]; exact List.take_left' (by rw [List.length_map]; exact HPL.out)
        have hp2 : (rs.map (·.f)).drop K = post.map (·.f) := by rw [HRS.out, List.map_append]; exact List.drop_left' (by rw [List.length_map]; exact HPL.out)
        have hl : (pre.map (·.f)).length = K := by rw [List.length_map]; exact HPL.out
        rw [HQ1.out HE.out, HINS.out (by simp), hp1, hp2]
        have := modify_mid (appF bs time) r0.f (post.map (·.f)) (pre.map (·.f))
        rw [hl] at this
        rw [show (⟨n, [], []⟩ : Fl) = r0.f by rw [← hr0]]
        rw [this]
      have HL2 := Lib.hid hlen
      have HLB : Hid (r0.f.bs.length ≤ 1048576) := by show _ ≤ _; rw [← hr0]; simp
      obtain ⟨A2, hA2⟩ : ∃ A2, A2 = X5 := ⟨_, rfl⟩
      obtain ⟨c2, hc2⟩ : ∃ c2, c2 = c5 := ⟨_, rfl⟩
      obtain ⟨L2, hL2⟩ : ∃ L2, K + 1 + post.length = L2 := ⟨_, rfl⟩
      rw [hL2] at HL2
      subst hA2 hc2
      try rw [hL2]
      clear hB6 hk6 hk56 hO6 hZ6 hw2 hfn hfp hlen hmap hmem hpw hold hpw2 e1 e2 e3 hr0 hL2 HB5 HO5 HBB5 HF5 HZ5 HGF HF4 HO4 HZ4 HB4 HD1 HK1 HRS HINS HINY HQ1 HR3 s1 hgl x5 f5 hg5l HAT
      have hL2 : (pre ++ r0 :: post).length = L2 := HL2.out
      have x0 : w2.cell? ⟨g, 0, none⟩ = some (.slice A2 L2 c2) := by rw [← hL2]; exact HD2.out.B.cell (j := 0) rfl
      have hr0 : (pre ++ r0 :: post)[K]? = some r0 := by rw [← HPL.out]; simp
      have hKL : K < L2 := by rw [← hL2]; exact (List.getElem?_eq_some_iff.1 hr0).1
      obtain ⟨b0, o0, hA2, y0, _, _, _, _⟩ := HD2.out.at hr0
      subst hA2
      clear hL2 hr0
      go_wp2
      clear x0 y0
      go_loopw [11] (AppRel w2 g (some ⟨b0, o0, none⟩) c2 pre post r0 time bs) (fun t _ => bs.length - (intOf t).toNat)
      case atStart => exact ⟨⟨0, r0, by omega, rfl, rfl, Lib.hid (by simp [tms]), HD2, Mem.Keeps.refl _ _, fun k hk => .inl hk⟩⟩
      case round =>
        obtain ⟨ix, r, hi, rfl, HRH, HRF, HDr, HKr, HGr⟩ := hrel.out
        clear hrel
        by_cases hlt : ix < bs.length
        · obtain ⟨bt, hbt⟩ : ∃ bt, bs[ix]? = some bt := ⟨_, List.getElem?_eq_getElem hlt⟩
          have hgl := HDr.out.B.lt
          have x1 : wr.cell? ⟨g, 1, none⟩ = some (.int .i64 ((time + ix : Nat) : Int)) := HDr.out.B.cell (j := 1) rfl
          have xf : ∀ j, wr.frozen? ⟨g, j, none⟩ = false := HDr.out.B.fr
          have d0 : decide ((ix : Int) < (bs.length : Int)) = true := by simp; omega
          obtain ⟨tm, htm⟩ : ∃ tm, time + ix = tm := ⟨_, rfl⟩
          have htb : tm ≤ 2000000000 := by omega
          rw [htm] at x1
          have hB3 := HDr.out.B.set 1 (.int .i64 ((tm + 1 : Nat) : Int))
          have hD3 := HDr.out.root (t' := tm + 1) hB3 ((Mem.Keeps.refl (fun q => q = g) wr).setCell (p := ⟨g, 1, none⟩) (fun _ => rfl) _)
          have hK3 : Mem.Keeps (fpD g (some ⟨b0, o0, none⟩) (pre ++ r :: post)) wr (wr.setCell ⟨g, 1, none⟩ (.int .i64 ((tm + 1 : Nat) : Int))) := (Mem.Keeps.refl _ wr).setCell (p := ⟨g, 1, none⟩) (fun _ => .inl rfl) _
          have HD3 := Lib.hid hD3
          have HK3 := Lib.hid hK3
          have HTM := Lib.hid htm
          clear hB3 hD3 hK3 htm
          go_upto_region 16 with fail
          rw [show ((tm : Int) + 1) = ((tm + 1 : Nat) : Int) by omega]
          obtain ⟨w3, hw3⟩ : ∃ w3, wr.setCell ⟨g, 1, none⟩ (.int .i64 ((tm + 1 : Nat) : Int)) = w3 := ⟨_, rfl⟩
          rw [hw3] at HD3 HK3 ⊢
          clear hw3 x1 xf
          have hrm : r ∈ pre ++ r :: post := by simp
          have hFA := HD3.out.F r hrm
          have HFA := Lib.hid hFA
          have hne := HD3.out.S.f r hrm
          have HNE := Lib.hid hne
          have hKw3 : Mem.Keeps (fun q => B ≤ q) w w3 := (HK2.out.mono (T := fun q => B ≤ q) (fun q h _ => HBB.out q h)).trans ((HKr.out.trans HK3.out (fun q h hl => by rcases HGr.out q h with h | h; exact h; omega)).mono (T := fun q => B ≤ q) (fun q h _ => by rcases HG2.out q h with h | h; exact HBB.out q h; exact Nat.le_trans hBw h)) (fun _ h _ => h)
          have hRd := HR.out.keeps hKw3 (fun _ h => h) hBw
          obtain ⟨bx, ox, hXe, hbx, hcx⟩ := hRd.at (k := ix) (by simpa using hlt)
          have yb : w3.cell? ⟨bx, ox + ix, none⟩ = some (Mem.byteV bt) := by rw [hcx]; simp [(List.getElem?_eq_some_iff.1 hbt).2]
          unfold Mem.byteV at yb
          have hfe : r.f.bs.length = r0.f.bs.length + ix := by rw [HRF.out]; simp; omega
          have hce : r.f.cm.length = r.f.bs.length := hFA.len
          have hlb := HLB.out
          obtain ⟨nb, hnb⟩ : ∃ nb, r.f.bs.length = nb := ⟨_, rfl⟩
          have hn1 : nb + 1 ≤ 2000000000 := by omega
          have hn2 : nb + 1 ≤ maxLen := by unfold maxLen; omega
          have hBx : Mem.Bx w3 80 3 r0.h [.int .i64 r.f.n, .slice r.A nb r.c, .slice r.T nb r.e] := by rw [← HRH.out, ← hnb]; have := hFA.B; unfold fCells at this; rw [hce] at this; exact this
          have hOx : Mem.Own w3 5 1 r.A nb r.c (r.f.bs.map Mem.byteV) := by rw [← hnb]; exact hFA.O
          have hPx : Mem.Own w3 3 1 r.T nb r.e (r.f.cm.map tmV) := by rw [← hnb, ← hce]; exact hFA.P
          have HNA : Hid (∀ k, Mem.blk r.A = some k → k ≠ r0.h ∧ Mem.blk r.T ≠ some k) := by show ∀ k, _; rw [← HRH.out]; exact hFA.ne
          have HNT : Hid (∀ k, Mem.blk r.T = some k → k ≠ r0.h) := by show ∀ k, _; rw [← HRH.out]; exact hFA.nt
          have HNB := Lib.hid hnb
          have HCE := Lib.hid hce
          have HBX := Lib.hid hBx
          have HOX := Lib.hid hOx
          have HPX := Lib.hid hPx
          have hbx3 : bx < w3.heap.size := Nat.lt_of_lt_of_le hbx (Nat.le_trans hBw hKw3.size)
          have HG3 : Hid (w3.cell? ⟨g, 1, none⟩ = some (.int .i64 ((tm + 1 : Nat) : Int))) := HD3.out.B.cell (j := 1) rfl
          have hgl3 := HD3.out.B.lt
          have hgr : g ≠ r0.h := by rw [← HRH.out]; exact fun e => (HNE.out r.h (.inl rfl)).1 e.symm
          have hgA : ∀ k, Mem.blk r.A = some k → k ≠ g := fun k hk => (HNE.out k (.inr (.inl hk))).1
          have HGA := Lib.hid hgA
          subst hXe
          clear hFA hne hRd hcx hfe hce hnb hBx hOx hPx hgA hrm
          have y2 : w3.cell? ⟨r0.h, 1, none⟩ = some (.slice r.A nb r.c) := HBX.out.cell (j := 1) rfl
          have hrl3 : r0.h < w3.heap.size := HBX.out.lt
          refine Reg.wp_region_w (by kernel_rfl) 115 14 rfl rfl (by kernel_rfl) (10) (fun q => Mem.blk r.A = some q) (13) (fun q => q = r0.h) (10) (fun _ => False)
            (fun i v u => match i with
              | 0 => v = .pointer (some ⟨r0.h, 0, none⟩)
              | 1 => v = .pointer (some ⟨r0.h, 0, none⟩)
              | 2 => v = .pointer (some ⟨r0.h, 0, none⟩)
              | 3 => v = .pointer (some ⟨r0.h, 1, none⟩)
              | 4 => v = .slice r.A nb r.c
              | 5 => v = .slice (some ⟨bx, ox, none⟩) bs.length cx
              | 6 => v = .int .i64 (ix : Int)
              | 7 => v = .pointer (some ⟨bx, ox + ix, none⟩)
              | 8 => v = .int .u8 (bt.toNat : Int)
              | 9 => ∃ s, v = .slice (some ⟨s, 0, none⟩) 1 1 ∧ w3.heap.size ≤ s ∧ Mem.Own u 5 1 (some ⟨s, 0, none⟩) 1 1 [.int .u8 (bt.toNat : Int)]
              | 10 => ∃ X5 c5, v = .slice X5 (nb + 1) c5 ∧ Mem.Own u 5 1 X5 (nb + 1) c5 (r.f.bs.map Mem.byteV ++ [.int .u8 (bt.toNat : Int)]) ∧ (X5 = r.A ∨ ∀ k, Mem.blk X5 = some k → w3.heap.size ≤ k)
              | 11 => v = .pointer (some ⟨r0.h, 0, none⟩)
              | 12 => v = .pointer (some ⟨r0.h, 1, none⟩)
              | 13 => ∃ X5 c5, Mem.Own u 5 1 X5 (nb + 1) c5 (r.f.bs.map Mem.byteV ++ [.int .u8 (bt.toNat : Int)]) ∧ (X5 = r.A ∨ ∀ k, Mem.blk X5 = some k → w3.heap.size ≤ k) ∧ Mem.Bx u 80 3 r0.h [.int .i64 r.f.n, .slice X5 (nb + 1) c5, .slice r.T nb r.e]
              | _ => True) ?_ ?_
          · refine Reg.Steps.cons ?_ (Reg.Steps.cons ?_ (Reg.Steps.cons ?_ (Reg.Steps.cons ?_ (Reg.Steps.cons ?_ (Reg.Steps.cons ?_ (Reg.Steps.cons ?_ (Reg.Steps.cons ?_ (Reg.Steps.cons ?_ (Reg.Steps.cons ?_ (Reg.Steps.cons ?_ (Reg.Steps.cons ?_ (Reg.Steps.cons ?_ (Reg.Steps.cons ?_ (Reg.Steps.nil _))))))))))))))
            · intro val ac u hR hp ha K hK      -- 0: t89 := Op.move t10
              have e10 : (ac.tmps[10]?).getD undef = .pointer (some ⟨r0.h, 0, none⟩) := ha 10 (by decide)
              clear ha hp
              refine Reg.Op1.plain rfl ?_
              go_wp2
              exact ⟨rfl, hK _ _ rfl (Reg.Wr.same _)⟩
            · intro val ac u hR hp ha K hK      -- 1: t90 := Op.move t10
              have e10 : (ac.tmps[10]?).getD undef = .pointer (some ⟨r0.h, 0, none⟩) := ha 10 (by decide)
              clear ha hp
              refine Reg.Op1.plain rfl ?_
              go_wp2
              exact ⟨rfl, hK _ _ rfl (Reg.Wr.same _)⟩
            · intro val ac u hR hp ha K hK      -- 2: t91 := Op.nilCheck t90
              obtain ⟨w90, h90, r90⟩ := hp 1 (by decide)
              have e90 : (ac.tmps[90]?).getD undef = .pointer (some ⟨r0.h, 0, none⟩) := (ha 90 (by decide)).trans h90
              clear h90
              clear ha hp
              refine Reg.Op1.plain rfl ?_
              go_wp2
              exact ⟨rfl, hK _ _ rfl (Reg.Wr.same _)⟩
            · intro val ac u hR hp ha K hK      -- 3: t92 := Op.fieldAddr 80 t91 1
              obtain ⟨w91, h91, r91⟩ := hp 2 (by decide)
              have e91 : (ac.tmps[91]?).getD undef = .pointer (some ⟨r0.h, 0, none⟩) := (ha 91 (by decide)).trans h91
              clear h91
              clear ha hp
              refine Reg.Op1.plain rfl ?_
              go_wp2
              exact ⟨rfl, hK _ _ rfl (Reg.Wr.same _)⟩
            · intro val ac u hR hp ha K hK      -- 4: t93 := Op.load 24 t92
              obtain ⟨w92, h92, r92⟩ := hp 3 (by decide)
              have e92 : (ac.tmps[92]?).getD undef = .pointer (some ⟨r0.h, 1, none⟩) := (ha 92 (by decide)).trans h92
              clear h92
              clear ha hp
              refine Reg.Op1.plain rfl ?_
              have x0 := (((Reg.Wr.none hR (by decide +kernel) (by decide +kernel) (by decide +kernel))).cell (p := ⟨r0.h, 1, none⟩) (hrl3) (id)).trans (y2)
              go_wp2
              exact ⟨rfl, hK _ _ rfl (Reg.Wr.same _)⟩
            · intro val ac u hR hp ha K hK      -- 5: t94 := Op.move t2
              have e2 : (ac.tmps[2]?).getD undef = .slice (some ⟨bx, ox, none⟩) bs.length cx := ha 2 (by decide)
              clear ha hp
              refine Reg.Op1.plain rfl ?_
              go_wp2
              exact ⟨rfl, hK _ _ rfl (Reg.Wr.same _)⟩
            · intro val ac u hR hp ha K hK      -- 6: t95 := Op.move t11
              have e11 : (ac.tmps[11]?).getD undef = .int .i64 (ix : Int) := ha 11 (by decide)
              clear ha hp
              refine Reg.Op1.plain rfl ?_
              go_wp2
              exact ⟨rfl, hK _ _ rfl (Reg.Wr.same _)⟩
            · intro val ac u hR hp ha K hK      -- 7: t96 := Op.indexAddr 24 t94 t95
              obtain ⟨w94, h94, r94⟩ := hp 5 (by decide)
              have e94 : (ac.tmps[94]?).getD undef = .slice (some ⟨bx, ox, none⟩) bs.length cx := (ha 94 (by decide)).trans h94
              clear h94
              obtain ⟨w95, h95, r95⟩ := hp 6 (by decide)
              have e95 : (ac.tmps[95]?).getD undef = .int .i64 (ix : Int) := (ha 95 (by decide)).trans h95
              clear h95
              clear ha hp
              refine Reg.Op1.plain rfl ?_
              go_wp2
              exact ⟨rfl, hK _ _ rfl (Reg.Wr.same _)⟩
            · intro val ac u hR hp ha K hK      -- 8: t97 := Op.load 5 t96
              obtain ⟨w96, h96, r96⟩ := hp 7 (by decide)
              have e96 : (ac.tmps[96]?).getD undef = .pointer (some ⟨bx, ox + ix, none⟩) := (ha 96 (by decide)).trans h96
              clear h96
              clear ha hp
              refine Reg.Op1.plain rfl ?_
              have x0 := (((Reg.Wr.none hR (by decide +kernel) (by decide +kernel) (by decide +kernel))).cell (p := ⟨bx, ox + ix, none⟩) (hbx3) (id)).trans (yb)
              go_wp2
              exact ⟨rfl, hK _ _ rfl (Reg.Wr.same _)⟩
            · intro val ac u hR hp ha K hK      -- 9: t98 := Op.buildSlice 24 1 #[(0, t97)]
              obtain ⟨w97, h97, r97⟩ := hp 8 (by decide)
              have e97 : (ac.tmps[97]?).getD undef = .int .u8 (bt.toNat : Int) := (ha 97 (by decide)).trans h97
              clear h97
              clear ha hp
              refine Reg.Op1.plain rfl ?_
              have hz := (Mem.Keeps.trans ((Mem.Keeps.refl (fun q => Mem.blk r.A = some q ∨ q = r0.h ∨ False) w3).drew) (Reg.Wr.all hR) (fun _ h _ => h)).size
              go_wp2
              exact ⟨rfl, hK _ _ ⟨_, rfl, hz, Mem.Own.lit u _ 1 #[.int .u8 (bt.toNat : Int)] 1 rfl rfl (by simp [maxLen])⟩ (Reg.Wr.below (Reg.below_new _ _))⟩
            · intro val ac u hR hp ha K hK      -- 10: t99 := Op.call { builtin append, args := #[t93, t98], argTypes := #[24, 24] }
              obtain ⟨w93, h93, r93⟩ := hp 4 (by decide)
              have e93 : (ac.tmps[93]?).getD undef = .slice r.A nb r.c := (ha 93 (by decide)).trans h93
              clear h93
              obtain ⟨w98, h98, r98⟩ := hp 9 (by decide)
              have e98 : (ac.tmps[98]?).getD undef = val 9 := ha 98 (by decide)
              clear ha hp
              refine Reg.Op1.plain rfl ?_
              obtain ⟨s, hv, hs, ho⟩ := h98
              rw [hv] at e98
              have ho' := ho.keeps (Reg.Wr.none r98 (by decide +kernel) (by decide +kernel) (by decide +kernel)) (fun _ _ h => h)
              have hq : Mem.Keeps (fun _ => False) w3 u := (Mem.Keeps.refl (fun _ => False) w3).drew.trans (Reg.Wr.none hR (by decide +kernel) (by decide +kernel) (by decide +kernel)) (fun _ h _ => h)
              have hO := HOX.out.keeps hq (fun _ _ h => h)
              have hz := hq.size
              refine Mem.wpList_app u rfl (.tmp 93) (.tmp 98) _ rfl bytes_elem r.A nb r.c _ (Reg.eval_of e93) u.heap.size (some ⟨s, 0, none⟩) 1 1 [.int .u8 (bt.toNat : Int)] (Reg.eval_of e98) ?_ hO ho'.rd rfl (by simp [Value.oneCell']) hn2 (by omega)
              intro X' d' u' hown hg hat
              exact ⟨rfl, hK _ _ ⟨X', d', rfl, hown, hat.imp id (fun h k hk => by rw [h] at hk; cases hk; exact hz)⟩ (Reg.Wr.does1 ((Mem.Keeps.refl _ u).grown hg (fun y hy _ => hy)))⟩
            · intro val ac u hR hp ha K hK      -- 11: t100 := Op.nilCheck t89
              obtain ⟨w89, h89, r89⟩ := hp 0 (by decide)
              have e89 : (ac.tmps[89]?).getD undef = .pointer (some ⟨r0.h, 0, none⟩) := (ha 89 (by decide)).trans h89
              clear h89
              clear ha hp
              refine Reg.Op1.plain rfl ?_
              go_wp2
              exact ⟨rfl, hK _ _ rfl (Reg.Wr.same _)⟩
            · intro val ac u hR hp ha K hK      -- 12: t101 := Op.fieldAddr 80 t100 1
              obtain ⟨w100, h100, r100⟩ := hp 11 (by decide)
              have e100 : (ac.tmps[100]?).getD undef = .pointer (some ⟨r0.h, 0, none⟩) := (ha 100 (by decide)).trans h100
              clear h100
              clear ha hp
              refine Reg.Op1.plain rfl ?_
              go_wp2
              exact ⟨rfl, hK _ _ rfl (Reg.Wr.same _)⟩
            · intro val ac u hR hp ha K hK      -- 13: Op.store 24 t101 t99
              obtain ⟨w101, h101, r101⟩ := hp 12 (by decide)
              have e101 : (ac.tmps[101]?).getD undef = .pointer (some ⟨r0.h, 1, none⟩) := (ha 101 (by decide)).trans h101
              clear h101
              obtain ⟨w99, h99, r99⟩ := hp 10 (by decide)
              have e99 : (ac.tmps[99]?).getD undef = val 10 := ha 99 (by decide)
              clear ha hp
              refine Reg.Op1.plain rfl ?_
              obtain ⟨X5, c5, hv, ho, hx⟩ := h99
              rw [hv] at e99
              have ho' := ho.keeps (Reg.Wr.none r99 (by decide +kernel) (by decide +kernel) (by decide +kernel)) (fun _ _ h => h)
              have hq : Mem.Keeps (fun q => Mem.blk r.A = some q ∨ False) w3 u := (Mem.Keeps.refl (fun q => Mem.blk r.A = some q ∨ False) w3).drew.trans (Reg.Wr.not2 hR (by decide +kernel)) (fun _ h _ => h)
              have hB := HBX.out.keeps hq (fun h => h.elim (fun h => (HNA.out _ h).1 rfl) id)
              have x1 := hB.cell (j := 1) rfl
              have xf := hB.fr
              have hbl := hB.lt
              have hXne : ∀ k, Mem.blk X5 = some k → k ≠ r0.h := fun k hk => by rcases hx with h | h; exact (HNA.out k (h ▸ hk)).1; have := h k hk; omega
              have hs9 := (Mem.Keeps.refl (fun q => q = r0.h) u).setCell (p := ⟨r0.h, 1, none⟩) (fun _ => rfl) (.slice X5 (nb + 1) c5)
              have ho9 := ho'.keeps hs9 hXne
              have hB9 := hB.set 1 (.slice X5 (nb + 1) c5)
              clear ho ho' hq hB hv
              go_wp2
              exact ⟨rfl, hK undef _ ⟨X5, c5, ho9, hx, hB9⟩ (Reg.Wr.does2 hs9)⟩
          intro val u hR H
          obtain ⟨w13, ⟨X5, c5, hO6a, hX5, hB6a⟩, r13⟩ := H 13 (by decide)
          have hk13 := Reg.Wr.none r13 (by decide +kernel) (by decide +kernel) (by decide +kernel)
          have HO6 := Lib.hid (hO6a.keeps hk13 (fun _ _ h => h))
          have HB6 := Lib.hid (hB6a.keeps hk13 id)
          have HX5 := Lib.hid hX5
          have hk36 : Mem.Keeps (fun q => Mem.blk r.A = some q ∨ q = r0.h) w3 u := ((Mem.Keeps.refl (fun q => Mem.blk r.A = some q ∨ q = r0.h ∨ False) w3).drew.trans (Reg.Wr.all hR) (fun _ h _ => h)).mono (fun q h _ => h.imp id (fun h => h.elim id (fun h => h.elim)))
          obtain ⟨w6, hw6⟩ : ∃ w6, u = w6 := ⟨_, rfl⟩
          rw [hw6] at HO6 HB6 hk36
          rw [hw6]
          simp only [List.map_cons, List.map_nil, Reg.lay, Act.put, List.setIfInBounds_toArray, List.set_cons_succ, List.set_cons_zero, Nat.reduceAdd]
          clear hO6a hB6a hX5 r13 hk13 hR H hw6 y2 yb
          go_upto_region 17 with fail
          have HP6 := Lib.hid (HPX.out.keeps hk36 (fun k hk h => by rcases h with h | h; exact (HNA.out k h).2 hk; exact HNT.out k hk h))
          have hG6 : w6.cell? ⟨g, 1, none⟩ = some (.int .i64 ((tm + 1 : Nat) : Int)) := (hk36.cell (p := ⟨g, 1, none⟩) hgl3 (fun h => by rcases h with h | h; exact HGA.out g h rfl; exact hgr h)).trans HG3.out
          have hX6 : ∀ k, Mem.blk X5 = some k → k < w6.heap.size := fun k hk => HO6.out.lt hk
          have HX6 := Lib.hid hX6
          have HK36 := Lib.hid hk36
          have hgl6 : g < w6.heap.size := Nat.lt_of_lt_of_le hgl3 hk36.size
          clear hk36 hX6
          have y3 : w6.cell? ⟨r0.h, 2, none⟩ = some (.slice r.T nb r.e) := HB6.out.cell (j := 2) rfl
          have hrl6 : r0.h < w6.heap.size := HB6.out.lt
          refine Reg.wp_region_w (by kernel_rfl) 115 14 rfl rfl (by kernel_rfl) (10) (fun q => Mem.blk r.T = some q) (13) (fun q => q = r0.h) (10) (fun _ => False)
            (fun i v u => match i with
              | 0 => v = .pointer (some ⟨r0.h, 0, none⟩)
              | 1 => v = .pointer (some ⟨r0.h, 0, none⟩)
              | 2 => v = .pointer (some ⟨r0.h, 0, none⟩)
              | 3 => v = .pointer (some ⟨r0.h, 2, none⟩)
              | 4 => v = .slice r.T nb r.e
              | 5 => v = .pointer (some ⟨g, 0, none⟩)
              | 6 => v = .pointer (some ⟨g, 0, none⟩)
              | 7 => v = .pointer (some ⟨g, 1, none⟩)
              | 8 => v = .int .i64 ((tm + 1 : Nat) : Int)
              | 9 => ∃ s, v = .slice (some ⟨s, 0, none⟩) 1 1 ∧ w6.heap.size ≤ s ∧ Mem.Own u 3 1 (some ⟨s, 0, none⟩) 1 1 [.int .i64 ((tm + 1 : Nat) : Int)]
              | 10 => ∃ Y8 c8, v = .slice Y8 (nb + 1) c8 ∧ Mem.Own u 3 1 Y8 (nb + 1) c8 (r.f.cm.map tmV ++ [.int .i64 ((tm + 1 : Nat) : Int)]) ∧ (Y8 = r.T ∨ ∀ k, Mem.blk Y8 = some k → w6.heap.size ≤ k)
              | 11 => v = .pointer (some ⟨r0.h, 0, none⟩)
              | 12 => v = .pointer (some ⟨r0.h, 2, none⟩)
              | 13 => ∃ Y8 c8, Mem.Own u 3 1 Y8 (nb + 1) c8 (r.f.cm.map tmV ++ [.int .i64 ((tm + 1 : Nat) : Int)]) ∧ (Y8 = r.T ∨ ∀ k, Mem.blk Y8 = some k → w6.heap.size ≤ k) ∧ Mem.Bx u 80 3 r0.h [.int .i64 r.f.n, .slice X5 (nb + 1) c5, .slice Y8 (nb + 1) c8]
              | _ => True) ?_ ?_
          · refine Reg.Steps.cons ?_ (Reg.Steps.cons ?_ (Reg.Steps.cons ?_ (Reg.Steps.cons ?_ (Reg.Steps.cons ?_ (Reg.Steps.cons ?_ (Reg.Steps.cons ?_ (Reg.Steps.cons ?_ (Reg.Steps.cons ?_ (Reg.Steps.cons ?_ (Reg.Steps.cons ?_ (Reg.Steps.cons ?_ (Reg.Steps.cons ?_ (Reg.Steps.cons ?_ (Reg.Steps.nil _))))))))))))))
            · intro val ac u hR hp ha K hK      -- 0: t102 := Op.move t10
              have e10 : (ac.tmps[10]?).getD undef = .pointer (some ⟨r0.h, 0, none⟩) := ha 10 (by decide)
              clear ha hp
              refine Reg.Op1.plain rfl ?_
              go_wp2
              exact ⟨rfl, hK _ _ rfl (Reg.Wr.same _)⟩
            · intro val ac u hR hp ha K hK      -- 1: t103 := Op.move t10
              have e10 : (ac.tmps[10]?).getD undef = .pointer (some ⟨r0.h, 0, none⟩) := ha 10 (by decide)
              clear ha hp
              refine Reg.Op1.plain rfl ?_
              go_wp2
              exact ⟨rfl, hK _ _ rfl (Reg.Wr.same _)⟩
            · intro val ac u hR hp ha K hK      -- 2: t104 := Op.nilCheck t103
              obtain ⟨w103, h103, r103⟩ := hp 1 (by decide)
              have e103 : (ac.tmps[103]?).getD undef = .pointer (some ⟨r0.h, 0, none⟩) := (ha 103 (by decide)).trans h103
              clear h103
              clear ha hp
              refine Reg.Op1.plain rfl ?_
              go_wp2
              exact ⟨rfl, hK _ _ rfl (Reg.Wr.same _)⟩
            · intro val ac u hR hp ha K hK      -- 3: t105 := Op.fieldAddr 80 t104 2
              obtain ⟨w104, h104, r104⟩ := hp 2 (by decide)
              have e104 : (ac.tmps[104]?).getD undef = .pointer (some ⟨r0.h, 0, none⟩) := (ha 104 (by decide)).trans h104
              clear h104
              clear ha hp
              refine Reg.Op1.plain rfl ?_
              go_wp2
              exact ⟨rfl, hK _ _ rfl (Reg.Wr.same _)⟩
            · intro val ac u hR hp ha K hK      -- 4: t106 := Op.load 33 t105
              obtain ⟨w105, h105, r105⟩ := hp 3 (by decide)
              have e105 : (ac.tmps[105]?).getD undef = .pointer (some ⟨r0.h, 2, none⟩) := (ha 105 (by decide)).trans h105
              clear h105
              clear ha hp
              refine Reg.Op1.plain rfl ?_
              have x0 := (((Reg.Wr.none hR (by decide +kernel) (by decide +kernel) (by decide +kernel))).cell (p := ⟨r0.h, 2, none⟩) (hrl6) (id)).trans (y3)
              go_wp2
              exact ⟨rfl, hK _ _ rfl (Reg.Wr.same _)⟩
            · intro val ac u hR hp ha K hK      -- 5: t107 := Op.move t0
              have e0 : (ac.tmps[0]?).getD undef = .pointer (some ⟨g, 0, none⟩) := ha 0 (by decide)
              clear ha hp
              refine Reg.Op1.plain rfl ?_
              go_wp2
              exact ⟨rfl, hK _ _ rfl (Reg.Wr.same _)⟩
            · intro val ac u hR hp ha K hK      -- 6: t108 := Op.nilCheck t107
              obtain ⟨w107, h107, r107⟩ := hp 5 (by decide)
              have e107 : (ac.tmps[107]?).getD undef = .pointer (some ⟨g, 0, none⟩) := (ha 107 (by decide)).trans h107
              clear h107
              clear ha hp
              refine Reg.Op1.plain rfl ?_
              go_wp2
              exact ⟨rfl, hK _ _ rfl (Reg.Wr.same _)⟩
            · intro val ac u hR hp ha K hK      -- 7: t109 := Op.fieldAddr 65 t108 1
              obtain ⟨w108, h108, r108⟩ := hp 6 (by decide)
              have e108 : (ac.tmps[108]?).getD undef = .pointer (some ⟨g, 0, none⟩) := (ha 108 (by decide)).trans h108
              clear h108
              clear ha hp
              refine Reg.Op1.plain rfl ?_
              go_wp2
              exact ⟨rfl, hK _ _ rfl (Reg.Wr.same _)⟩
            · intro val ac u hR hp ha K hK      -- 8: t110 := Op.load 3 t109
              obtain ⟨w109, h109, r109⟩ := hp 7 (by decide)
              have e109 : (ac.tmps[109]?).getD undef = .pointer (some ⟨g, 1, none⟩) := (ha 109 (by decide)).trans h109
              clear h109
              clear ha hp
              refine Reg.Op1.plain rfl ?_
              have x0 := (((Reg.Wr.none hR (by decide +kernel) (by decide +kernel) (by decide +kernel))).cell (p := ⟨g, 1, none⟩) (hgl6) (id)).trans (hG6)
              go_wp2
              exact ⟨rfl, hK _ _ rfl (Reg.Wr.same _)⟩
            · intro val ac u hR hp ha K hK      -- 9: t111 := Op.buildSlice 33 1 #[(0, t110)]
              obtain ⟨w110, h110, r110⟩ := hp 8 (by decide)
              have e110 : (ac.tmps[110]?).getD undef = .int .i64 ((tm + 1 : Nat) : Int) := (ha 110 (by decide)).trans h110
              clear h110
              clear ha hp
              refine Reg.Op1.plain rfl ?_
              have hz := (Mem.Keeps.trans ((Mem.Keeps.refl (fun q => Mem.blk r.T = some q ∨ q = r0.h ∨ False) w6).drew) (Reg.Wr.all hR) (fun _ h _ => h)).size
              go_wp2
              exact ⟨rfl, hK _ _ ⟨_, rfl, hz, Mem.Own.lit u _ 1 #[.int .i64 ((tm + 1 : Nat) : Int)] 1 rfl rfl (by simp [maxLen])⟩ (Reg.Wr.below (Reg.below_new _ _))⟩
            · intro val ac u hR hp ha K hK      -- 10: t112 := Op.call { builtin append, args := #[t106, t111], argTypes := #[33, 33] }
              obtain ⟨w106, h106, r106⟩ := hp 4 (by decide)
              have e106 : (ac.tmps[106]?).getD undef = .slice r.T nb r.e := (ha 106 (by decide)).trans h106
              clear h106
              obtain ⟨w111, h111, r111⟩ := hp 9 (by decide)
              have e111 : (ac.tmps[111]?).getD undef = val 9 := ha 111 (by decide)
              clear ha hp
              refine Reg.Op1.plain rfl ?_
              obtain ⟨s, hv, hs, ho⟩ := h111
              rw [hv] at e111
              have ho' := ho.keeps (Reg.Wr.none r111 (by decide +kernel) (by decide +kernel) (by decide +kernel)) (fun _ _ h => h)
              have hq : Mem.Keeps (fun _ => False) w6 u := (Mem.Keeps.refl (fun _ => False) w6).drew.trans (Reg.Wr.none hR (by decide +kernel) (by decide +kernel) (by decide +kernel)) (fun _ h _ => h)
              have hO := HP6.out.keeps hq (fun _ _ h => h)
              have hz := hq.size
              refine Mem.wpList_app u rfl (.tmp 106) (.tmp 111) _ rfl ints_elem r.T nb r.e _ (Reg.eval_of e106) u.heap.size (some ⟨s, 0, none⟩) 1 1 [.int .i64 ((tm + 1 : Nat) : Int)] (Reg.eval_of e111) ?_ hO ho'.rd rfl (by simp [Value.oneCell']) hn2 (by omega)
              intro X' d' u' hown hg hat
              exact ⟨rfl, hK _ _ ⟨X', d', rfl, hown, hat.imp id (fun h k hk => by rw [h] at hk; cases hk; exact hz)⟩ (Reg.Wr.does1 ((Mem.Keeps.refl _ u).grown hg (fun y hy _ => hy)))⟩
            · intro val ac u hR hp ha K hK      -- 11: t113 := Op.nilCheck t102
              obtain ⟨w102, h102, r102⟩ := hp 0 (by decide)
              have e102 : (ac.tmps[102]?).getD undef = .pointer (some ⟨r0.h, 0, none⟩) := (ha 102 (by decide)).trans h102
              clear h102
              clear ha hp
              refine Reg.Op1.plain rfl ?_
              go_wp2
              exact ⟨rfl, hK _ _ rfl (Reg.Wr.same _)⟩
            · intro val ac u hR hp ha K hK      -- 12: t114 := Op.fieldAddr 80 t113 2
              obtain ⟨w113, h113, r113⟩ := hp 11 (by decide)
              have e113 : (ac.tmps[113]?).getD undef = .pointer (some ⟨r0.h, 0, none⟩) := (ha 113 (by decide)).trans h113
              clear h113
              clear ha hp
              refine Reg.Op1.plain rfl ?_
              go_wp2
              exact ⟨rfl, hK _ _ rfl (Reg.Wr.same _)⟩
            · intro val ac u hR hp ha K hK      -- 13: Op.store 33 t114 t112
              obtain ⟨w114, h114, r114⟩ := hp 12 (by decide)
              have e114 : (ac.tmps[114]?).getD undef = .pointer (some ⟨r0.h, 2, none⟩) := (ha 114 (by decide)).trans h114
              clear h114
              obtain ⟨w112, h112, r112⟩ := hp 10 (by decide)
              have e112 : (ac.tmps[112]?).getD undef = val 10 := ha 112 (by decide)
              clear ha hp
              refine Reg.Op1.plain rfl ?_
              obtain ⟨Y8, c8, hv, ho, hx⟩ := h112
              rw [hv] at e112
              have ho' := ho.keeps (Reg.Wr.none r112 (by decide +kernel) (by decide +kernel) (by decide +kernel)) (fun _ _ h => h)
              have hq : Mem.Keeps (fun q => Mem.blk r.T = some q ∨ False) w6 u := (Mem.Keeps.refl (fun q => Mem.blk r.T = some q ∨ False) w6).drew.trans (Reg.Wr.not2 hR (by decide +kernel)) (fun _ h _ => h)
              have hB := HB6.out.keeps hq (fun h => h.elim (fun h => HNT.out _ h rfl) id)
              have x1 := hB.cell (j := 2) rfl
              have xf := hB.fr
              have hbl := hB.lt
              have hXne : ∀ k, Mem.blk Y8 = some k → k ≠ r0.h := fun k hk => by rcases hx with h | h; exact HNT.out k (h ▸ hk); have := h k hk; omega
              have hs9 := (Mem.Keeps.refl (fun q => q = r0.h) u).setCell (p := ⟨r0.h, 2, none⟩) (fun _ => rfl) (.slice Y8 (nb + 1) c8)
              have ho9 := ho'.keeps hs9 hXne
              have hB9 := hB.set 2 (.slice Y8 (nb + 1) c8)
              clear ho ho' hq hB hv
              go_wp2
              exact ⟨rfl, hK undef _ ⟨Y8, c8, ho9, hx, hB9⟩ (Reg.Wr.does2 hs9)⟩
          intro val u hR H
          obtain ⟨w13, ⟨Y8, c8, hP9a, hY8, hB9a⟩, r13⟩ := H 13 (by decide)
          have hk13 := Reg.Wr.none r13 (by decide +kernel) (by decide +kernel) (by decide +kernel)
          have hP9 := hP9a.keeps hk13 (fun _ _ h => h)
          have hB9 := hB9a.keeps hk13 id
          have HY8 := Lib.hid hY8
          have hk69 : Mem.Keeps (fun q => Mem.blk r.T = some q ∨ q = r0.h) w6 u := ((Mem.Keeps.refl (fun q => Mem.blk r.T = some q ∨ q = r0.h ∨ False) w6).drew.trans (Reg.Wr.all hR) (fun _ h _ => h)).mono (fun q h _ => h.imp id (fun h => h.elim id (fun h => h.elim)))
          obtain ⟨w9, hw9⟩ : ∃ w9, u = w9 := ⟨_, rfl⟩
          rw [hw9] at hP9 hB9 hk69
          rw [hw9]
          simp only [List.map_cons, List.map_nil, Reg.lay, Act.put, List.setIfInBounds_toArray, List.set_cons_succ, List.set_cons_zero, Nat.reduceAdd]
          clear hP9a hB9a hY8 r13 hk13 hR H hw9 y3 hG6
          have h36z := HK36.out.size
          have hXT : ∀ k, Mem.blk X5 = some k → ¬ (Mem.blk r.T = some k ∨ k = r0.h) := fun k hk hh => by
            have hXr : k ≠ r0.h := by
              rcases HX5.out with h5 | h5
              · exact (HNA.out k (h5 ▸ hk)).1
              · have := h5 k hk; have h1 := HBX.out.lt; omega
            rcases hh with hh | hh
            · rcases HX5.out with h | h
              · exact (HNA.out k (h ▸ hk)).2 hh
              · have := h k hk; have := HPX.out.lt hh; omega
            · exact hXr hh
          have hO9 := HO6.out.keeps hk69 hXT
          have hk39 : Mem.Keeps r.fp w3 w9 := (HK36.out.mono (T := r.fp) (fun q h _ => by rcases h with h | h; exact .inr (.inl h); exact .inl (h.trans HRH.out.symm))).trans (hk69.mono (T := r.fp) (fun q h _ => by rcases h with h | h; exact .inr (.inr h); exact .inl (h.trans HRH.out.symm))) (fun _ h _ => h)
          have hXX : Mem.blk X5 = Mem.blk r.A ∨ ∀ k, Mem.blk X5 = some k → w3.heap.size ≤ k := HX5.out.imp (fun h => by rw [h]) (fun h k hk => h k hk)
          have hYY : Mem.blk Y8 = Mem.blk r.T ∨ ∀ k, Mem.blk Y8 = some k → w3.heap.size ≤ k ∧ Mem.blk X5 ≠ some k := HY8.out.imp (fun h => by rw [h]) (fun h k hk => ⟨by have := h k hk; omega, fun hh => by have := h k hk; have := HX6.out k hh; omega⟩)
          have hbl : (r.f.bs ++ [bt]).length = nb + 1 := by rw [List.length_append, HNB.out]; rfl
          have hcl : (r.f.cm ++ [tm + 1]).length = nb + 1 := by rw [List.length_append, HCE.out, HNB.out]; rfl
          have hf9 : FAt w9 { r with f := { r.f with bs := r.f.bs ++ [bt], cm := r.f.cm ++ [tm + 1] }, A := X5, c := c5, T := Y8, e := c8 } :=
            HFA.out.bytes (by rw [hbl, hcl, HRH.out]; exact hB9) (by rw [hbl, List.map_append]; exact hO9) (by rw [hcl, List.map_append]; exact hP9) hXX hYY (by rw [hbl, hcl])
          have hq9 : ∀ k, R.fp { r with f := { r.f with bs := r.f.bs ++ [bt], cm := r.f.cm ++ [tm + 1] }, A := X5, c := c5, T := Y8, e := c8 } k → r.fp k ∨ w3.heap.size ≤ k := fun k hk => by
            rcases hk with hk | hk | hk
            · exact .inl (.inl hk)
            · rcases hXX with h | h
              · exact .inl (.inr (.inl (h ▸ hk)))
              · exact .inr (h k hk)
            · rcases hYY with h | h
              · exact .inl (.inr (.inr (h ▸ hk)))
              · exact .inr (h k hk).1
          obtain ⟨e1, e2, e3⟩ := HD3.out.file (r' := { r with f := { r.f with bs := r.f.bs ++ [bt], cm := r.f.cm ++ [tm + 1] }, A := X5, c := c5, T := Y8, e := c8 }) rfl hf9 hk39 hq9
          have HE1 := Lib.hid e1
          have HF9 : Hid ((⟨r.f.n, r.f.bs ++ [bt], r.f.cm ++ [tm + 1]⟩ : Fl) = ⟨r0.f.n, r0.f.bs ++ bs.take (ix + 1), r0.f.cm ++ tms time (ix + 1)⟩) := by
            show _ = _
            rw [HRF.out, Mem.take_snoc hbt, tms_succ, HTM.out, List.append_assoc, List.append_assoc]
          have hks : w2.heap.size ≤ w3.heap.size := Nat.le_trans HKr.out.size HK3.out.size
          have hgr2 : ∀ k, fpD g (some ⟨b0, o0, none⟩) (pre ++ { r with f := { r.f with bs := r.f.bs ++ [bt], cm := r.f.cm ++ [tm + 1] }, A := X5, c := c5, T := Y8, e := c8 } :: post) k → fpD g (some ⟨b0, o0, none⟩) (pre ++ r0 :: post) k ∨ w2.heap.size ≤ k := fun k hk => by
            rcases e3 k hk with h | h
            · exact HGr.out k h
            · exact .inr (Nat.le_trans hks h)
          have hk2 : Mem.Keeps (fpD g (some ⟨b0, o0, none⟩) (pre ++ r0 :: post)) w2 w9 := HKr.out.trans (HK3.out.trans e2 (fun _ h _ => h)) (fun k hk hl => by rcases HGr.out k hk with h | h; exact h; omega)
          have HG9 := Lib.hid hgr2
          have HK9 := Lib.hid hk2
          have htt : time + (ix + 1) = tm + 1 := by have := HTM.out; omega
          have HTT := Lib.hid htt
          clear hB9 h36z hXT hO9 hP9 hk69 hk39 hXX hYY hbl hcl hf9 hq9 e1 e2 e3 hks hgr2 hk2 htt
          go_wp2
          go_roundw
          case rel => exact ⟨⟨ix + 1, (⟨⟨r.f.n, r.f.bs ++ [bt], r.f.cm ++ [tm + 1]⟩, r.h, X5, c5, Y8, c8⟩ : R), by omega, by go_num, Lib.hid HRH.out, HF9, Lib.hid (by rw [HTT.out]; exact HE1.out), HK9, HG9⟩⟩
          case measure => simp [intOf]; omega
        · obtain rfl : ix = bs.length := by omega
          have d0 : decide ((bs.length : Int) < (bs.length : Int)) = false := by simp
          have HF : Hid (r.f = appF bs time r0.f) := by
            show _ = _
            rw [HRF.out, List.take_length]; rfl
          clear hlt hi
          go_wp2
          go_ret
          have hqa := HDr.out.qat (l := pre.map (·.f) ++ appF bs time r0.f :: post.map (·.f)) (by rw [List.map_append, List.map_cons, HF.out])
          refine ⟨by rw [HE.out]; rfl, ⟨_, by rw [HEND.out]; exact hqa, fun q hq => ?_⟩, ?_⟩
          · rcases HGr.out q hq with h | h
            · exact HG2.out q h
            · exact .inr (Nat.le_trans HK2.out.size h)
          · exact HK2.out.trans HKr.out (fun k hk hl => by rcases HG2.out k hk with h | h; exact h; omega)
    · rcases HFM.out with ⟨hA, h2, h3⟩ | ⟨b, o, hA⟩
      · exact absurd (show c = K by omega) hcl
      subst hA
      have hr3 : Mem.Rd w4 w1.heap.size (some ⟨b, o + K, none⟩) (post.map ptr) := by
        have := HR2.out.below HB4.out
        rw [if_neg hcl, Option.map_some, Nat.mul_one, Mem.add_flat] at this
        exact this
      have HR3 := Lib.hid hr3
      clear hr3
      go_upto_region 11 with (at_builtin; refine Mem.wpList_app _ rfl (.tmp 59) (.tmp 65) _ rfl ptr_elem X4 (K + 1) c4 _ rfl w1.heap.size (some ⟨b, o + K, none⟩) post.length _ (post.map ptr) rfl ?_ HO4.out HR3.out (by rw [List.length_map, Nat.mul_one]) (ptr_one post) hKp (by omega); intro X5 c5 w5 hown hg5 hat; have hb5 := HB4.out.grown hg5 HB4.out.size (fun k hk => (HF4.out k hk).1); have hf5 : ∀ k, Mem.blk X5 = some k → w1.heap.size ≤ k ∧ k ≠ gf := (fun k hk => by rcases hat with rfl | rfl; exact HF4.out k hk; cases hk; exact ⟨HB4.out.size, by simp; omega⟩); have hB5 := HD1.out.B.below hb5 HD1.out.B.lt; have x5 : w5.cell? ⟨g, 0, none⟩ = some (.slice (some ⟨b, o, none⟩) rs.length _) := hB5.cell (j := 0) rfl; have f5 := hB5.fr; have hg5l := hB5.lt; have hZ5 := HZ4.out.keeps ((Mem.Keeps.refl (fun q => Mem.blk X4 = some q) w4).grown hg5 (fun q hq _ => hq)) (fun h => (HF4.out _ h).2 rfl); have HB5 := Lib.hid hB5; have HO5 := Lib.hid hown; have HBB5 := Lib.hid hb5; have HF5 := Lib.hid hf5; have HZ5 := Lib.hid hZ5; clear hown hg5 hat hb5 hf5 hB5 hZ5 x0)
      have hB6 := HB5.out.set 0 (.slice X5 (K + 1 + post.length) c5)
      have hk6 : Mem.Keeps (fun q => q = g) w1 (w5.setCell ⟨g, 0, none⟩ (.slice X5 (K + 1 + post.length) c5)) := ((Mem.Keeps.of_below HBB5.out).mono (T := fun q => q = g) (fun _ h _ => h.elim)).setCell (p := ⟨g, 0, none⟩) (fun _ => rfl) _
      have hk56 := (Mem.Keeps.refl (fun q => q = g) w5).setCell (p := ⟨g, 0, none⟩) (fun _ => rfl) (.slice X5 (K + 1 + post.length) c5)
      have hgl := HD1.out.B.lt
      have hO6 := HO5.out.keeps hk56 (fun k hk e => by have := (HF5.out k hk).1; omega)
      have hZ6 := HZ5.out.keeps hk56 (fun e => by have := HGF.out; omega)
      obtain ⟨w2, hw2⟩ : ∃ w2, w5.setCell ⟨g, 0, none⟩ (.slice X5 (K + 1 + post.length) c5) = w2 := ⟨_, rfl⟩
      rw [hw2] at hB6 hk6 hO6 hZ6
      try rw [hw2]
      obtain ⟨r0, hr0⟩ : ∃ r0 : R, (⟨⟨n, [], []⟩, gf, none, 0, none, 0⟩ : R) = r0 := ⟨_, rfl⟩
      have hfn : FAt w2 r0 := by rw [← hr0]; exact ⟨hZ6, Mem.Own.nil _ _ _, Mem.Own.nil _ _ _, (fun k hk => by cases hk), (fun k hk => by cases hk), rfl⟩
      have hfp : ∀ k, r0.fp k → k = gf := fun k hk => by rw [← hr0] at hk; rcases hk with h | h | h; exact h; cases h; cases h
      have hlen : (pre ++ r0 :: post).length = K + 1 + post.length := by rw [List.length_append, List.length_cons, HPL.out]; omega
      have hmap : (pre ++ r0 :: post).map ptr = (pre.map ptr ++ [.pointer (some ⟨gf, 0, none⟩)]) ++ post.map ptr := by rw [← hr0]; simp [ptr]
      have hmem : ∀ q ∈ pre ++ r0 :: post, q ∈ rs ∨ q = r0 := fun q hq => by
        rw [HRS.out]
        rcases List.mem_append.1 hq with h | h
        · exact .inl (List.mem_append_left _ h)
        · rcases List.mem_cons.1 h with h | h
          · exact .inr h
          · exact .inl (List.mem_append_right _ h)
      have hpw := HD1.out.S.p
      rw [HRS.out, List.pairwise_append] at hpw
      have hold : ∀ q ∈ rs, ∀ k, q.fp k → ¬ r0.fp k := fun q hq k hk h => by have := (HD1.out.F q hq).lt hk; have := hfp k h; have := HGF.out; omega
      have hpw2 : (pre ++ r0 :: post).Pairwise (fun r q => ∀ k, r.fp k → ¬ q.fp k) := by
        rw [List.pairwise_append, List.pairwise_cons]
        refine ⟨hpw.1, ⟨fun q hq k h1 h2 => hold q (by rw [HRS.out]; exact List.mem_append_right _ hq) k h2 h1, hpw.2.1⟩, fun q hq q' hq' k h1 h2 => ?_⟩
        rcases List.mem_cons.1 hq' with rfl | hq'
        · exact hold q (by rw [HRS.out]; exact List.mem_append_left _ hq) k h1 h2
        · exact hpw.2.2 q hq q' hq' k h1 h2
      obtain ⟨e1, e2, e3⟩ := HD1.out.list (A' := X5) (c' := c5) (rs' := pre ++ r0 :: post) (by rw [hlen]; exact hB6) (by rw [hlen, hmap]; exact hO6) (fun k hk => (HF5.out k hk).1) (fun q hq => (hmem q hq).imp id (fun h => by subst h; exact ⟨hfn, fun k hk => by have hx := hfp k hk; have hy := HGF.out; exact ⟨by omega, fun hb => (HF5.out k hb).2 hx⟩⟩)) hpw2 hk6
      have HD2 := Lib.hid e1
      have HK2 : Hid (Mem.Keeps (fpD g (some ⟨b, o, none⟩) rs) w w2) := (HK1.out.mono (T := fpD g (some ⟨b, o, none⟩) rs) (fun _ h _ => h.elim)).trans e2 (fun _ h _ => h)
      have HG2 : Hid (∀ k, fpD g X5 (pre ++ r0 :: post) k → fpD g (some ⟨b, o, none⟩) rs k ∨ w.heap.size ≤ k) := fun k hk => (e3 k hk).imp id (fun h => Nat.le_trans HK1.out.size h)
      have HEND : Hid (appQ ⟨rs.map (·.f), time⟩ n bs = ⟨pre.map (·.f) ++ appF bs time r0.f :: post.map (·.f), time + bs.length⟩) := by
        show _ = _
        have hp1 : (rs.map (·.f)).take K = pre.map (·.f) := by rw [HRS.out, List.map_append]; exact List.take_left' (by rw [List.length_map]; exact HPL.out)
        have hp2 : (rs.map (·.f)).drop K = post.map (·.f) := by rw [HRS.out, List.map_append]; exact List.drop_left' (by rw [List.length_map]; exact HPL.out)
        have hl : (pre.map (·.f)).length = K := by rw [List.length_map]; exact HPL.out
        rw [HQ1.out HE.out, HINS.out (by simp), hp1, hp2]
        have := modify_mid (appF bs time) r0.f (post.map (·.f)) (pre.map (·.f))
        rw [hl] at this
        rw [show (⟨n, [], []⟩ : Fl) = r0.f by rw [← hr0]]
        rw [this]
      have HL2 := Lib.hid hlen
      have HLB : Hid (r0.f.bs.length ≤ 1048576) := by show _ ≤ _; rw [← hr0]; simp
      obtain ⟨A2, hA2⟩ : ∃ A2, A2 = X5 := ⟨_, rfl⟩
      obtain ⟨c2, hc2⟩ : ∃ c2, c2 = c5 := ⟨_, rfl⟩
      obtain ⟨L2, hL2⟩ : ∃ L2, K + 1 + post.length = L2 := ⟨_, rfl⟩
      rw [hL2] at HL2
      subst hA2 hc2
      try rw [hL2]
      clear hB6 hk6 hk56 hO6 hZ6 hw2 hfn hfp hlen hmap hmem hpw hold hpw2 e1 e2 e3 hr0 hL2 HB5 HO5 HBB5 HF5 HZ5 HGF HF4 HO4 HZ4 HB4 HD1 HK1 HRS HINS HINY HQ1 HR3 s1 hgl x5 f5 hg5l HAT
      have hL2 : (pre ++ r0 :: post).length = L2 := HL2.out
      have x0 : w2.cell? ⟨g, 0, none⟩ = some (.slice A2 L2 c2) := by rw [← hL2]; exact HD2.out.B.cell (j := 0) rfl
      have hr0 : (pre ++ r0 :: post)[K]? = some r0 := by rw [← HPL.out]; simp
      have hKL : K < L2 := by rw [← hL2]; exact (List.getElem?_eq_some_iff.1 hr0).1
      obtain ⟨b0, o0, hA2, y0, _, _, _, _⟩ := HD2.out.at hr0
      subst hA2
      clear hL2 hr0
      go_wp2
      clear x0 y0
      go_loopw [11] (AppRel w2 g (some ⟨b0, o0, none⟩) c2 pre post r0 time bs) (fun t _ => bs.length - (intOf t).toNat)
      case atStart => exact ⟨⟨0, r0, by omega, rfl, rfl, Lib.hid (by simp [tms]), HD2, Mem.Keeps.refl _ _, fun k hk => .inl hk⟩⟩
      case round =>
        obtain ⟨ix, r, hi, rfl, HRH, HRF, HDr, HKr, HGr⟩ := hrel.out
        clear hrel
        by_cases hlt : ix < bs.length
        · obtain ⟨bt, hbt⟩ : ∃ bt, bs[ix]? = some bt := ⟨_, List.getElem?_eq_getElem hlt⟩
          have hgl := HDr.out.B.lt
          have x1 : wr.cell? ⟨g, 1, none⟩ = some (.int .i64 ((time + ix : Nat) : Int)) := HDr.out.B.cell (j := 1) rfl
          have xf : ∀ j, wr.frozen? ⟨g, j, none⟩ = false := HDr.out.B.fr
          have d0 : decide ((ix : Int) < (bs.length : Int)) = true := by simp; omega
          obtain ⟨tm, htm⟩ : ∃ tm, time + ix = tm := ⟨_, rfl⟩
          have htb : tm ≤ 2000000000 := by omega
          rw [htm] at x1
          have hB3 := HDr.out.B.set 1 (.int .i64 ((tm + 1 : Nat) : Int))
          have hD3 := HDr.out.root (t' := tm + 1) hB3 ((Mem.Keeps.refl (fun q => q = g) wr).setCell (p := ⟨g, 1, none⟩) (fun _ => rfl) _)
          have hK3 : Mem.Keeps (fpD g (some ⟨b0, o0, none⟩) (pre ++ r :: post)) wr (wr.setCell ⟨g, 1, none⟩ (.int .i64 ((tm + 1 : Nat) : Int))) := (Mem.Keeps.refl _ wr).setCell (p := ⟨g, 1, none⟩) (fun _ => .inl rfl) _
          have HD3 := Lib.hid hD3
          have HK3 := Lib.hid hK3
          have HTM := Lib.hid htm
          clear hB3 hD3 hK3 htm
          go_upto_region 16 with fail
          rw [show ((tm : Int) + 1) = ((tm + 1 : Nat) : Int) by omega]
          obtain ⟨w3, hw3⟩ : ∃ w3, wr.setCell ⟨g, 1, none⟩ (.int .i64 ((tm + 1 : Nat) : Int)) = w3 := ⟨_, rfl⟩
          rw [hw3] at HD3 HK3 ⊢
          clear hw3 x1 xf
          have hrm : r ∈ pre ++ r :: post := by simp
          have hFA := HD3.out.F r hrm
          have HFA := Lib.hid hFA
          have hne := HD3.out.S.f r hrm
          have HNE := Lib.hid hne
          have hKw3 : Mem.Keeps (fun q => B ≤ q) w w3 := (HK2.out.mono (T := fun q => B ≤ q) (fun q h _ => HBB.out q h)).trans ((HKr.out.trans HK3.out (fun q h hl => by rcases HGr.out q h with h | h; exact h; omega)).mono (T := fun q => B ≤ q) (fun q h _ => by rcases HG2.out q h with h | h; exact HBB.out q h; exact Nat.le_trans hBw h)) (fun _ h _ => h)
          have hRd := HR.out.keeps hKw3 (fun _ h => h) hBw
          obtain ⟨bx, ox, hXe, hbx, hcx⟩ := hRd.at (k := ix) (by simpa using hlt)
          have yb : w3.cell? ⟨bx, ox + ix, none⟩ = some (Mem.byteV bt) := by rw [hcx]; simp [(List.getElem?_eq_some_iff.1 hbt).2]
          unfold Mem.byteV at yb
          have hfe : r.f.bs.length = r0.f.bs.length + ix := by rw [HRF.out]; simp; omega
          have hce : r.f.cm.length = r.f.bs.length := hFA.len
          have hlb := HLB.out
          obtain ⟨nb, hnb⟩ : ∃ nb, r.f.bs.length = nb := ⟨_, rfl⟩
          have hn1 : nb + 1 ≤ 2000000000 := by omega
          have hn2 : nb + 1 ≤ maxLen := by unfold maxLen; omega
          have hBx : Mem.Bx w3 80 3 r0.h [.int .i64 r.f.n, .slice r.A nb r.c, .slice r.T nb r.e] := by rw [← HRH.out, ← hnb]; have := hFA.B; unfold fCells at this; rw [hce] at this; exact this
          have hOx : Mem.Own w3 5 1 r.A nb r.c (r.f.bs.map Mem.byteV) := by rw [← hnb]; exact hFA.O
          have hPx : Mem.Own w3 3 1 r.T nb r.e (r.f.cm.map tmV) := by rw [← hnb, ← hce]; exact hFA.P
          have HNA : Hid (∀ k, Mem.blk r.A = some k → k ≠ r0.h ∧ Mem.blk r.T ≠ some k) := by show ∀ k, _; rw [← HRH.out]; exact hFA.ne
          have HNT : Hid (∀ k, Mem.blk r.T = some k → k ≠ r0.h) := by show ∀ k, _; rw [← HRH.out]; exact hFA.nt
          have HNB := Lib.hid hnb
          have HCE := Lib.hid hce
          have HBX := Lib.hid hBx
          have HOX := Lib.hid hOx
          have HPX := Lib.hid hPx
          have hbx3 : bx < w3.heap.size := Nat.lt_of_lt_of_le hbx (Nat.le_trans hBw hKw3.size)
          have HG3 : Hid (w3.cell? ⟨g, 1, none⟩ = some (.int .i64 ((tm + 1 : Nat) : Int))) := HD3.out.B.cell (j := 1) rfl
          have hgl3 := HD3.out.B.lt
          have hgr : g ≠ r0.h := by rw [← HRH.out]; exact fun e => (HNE.out r.h (.inl rfl)).1 e.symm
          have hgA : ∀ k, Mem.blk r.A = some k → k ≠ g := fun k hk => (HNE.out k (.inr (.inl hk))).1
          have HGA := Lib.hid hgA
          subst hXe
          clear hFA hne hRd hcx hfe hce hnb hBx hOx hPx hgA hrm
          have y2 : w3.cell? ⟨r0.h, 1, none⟩ = some (.slice r.A nb r.c) := HBX.out.cell (j := 1) rfl
          have hrl3 : r0.h < w3.heap.size := HBX.out.lt
          refine Reg.wp_region_w (by kernel_rfl) 115 14 rfl rfl (by kernel_rfl) (10) (fun q => Mem.blk r.A = some q) (13) (fun q => q = r0.h) (10) (fun _ => False)
            (fun i v u => match i with
              | 0 => v = .pointer (some ⟨r0.h, 0, none⟩)
              | 1 => v = .pointer (some ⟨r0.h, 0, none⟩)
              | 2 => v = .pointer (some ⟨r0.h, 0, none⟩)
              | 3 => v = .pointer (some ⟨r0.h, 1, none⟩)
              | 4 => v = .slice r.A nb r.c
              | 5 => v = .slice (some ⟨bx, ox, none⟩) bs.length cx
              | 6 => v = .int .i64 (ix : Int)
              | 7 => v = .pointer (some ⟨bx, ox + ix, none⟩)
              | 8 => v = .int .u8 (bt.toNat : Int)
              | 9 => ∃ s, v = .slice (some ⟨s, 0, none⟩) 1 1 ∧ w3.heap.size ≤ s ∧ Mem.Own u 5 1 (some ⟨s, 0, none⟩) 1 1 [.int .u8 (bt.toNat : Int)]
              | 10 => ∃ X5 c5, v = .slice X5 (nb + 1) c5 ∧ Mem.Own u 5 1 X5 (nb + 1) c5 (r.f.bs.map Mem.byteV ++ [.int .u8 (bt.toNat : Int)]) ∧ (X5 = r.A ∨ ∀ k, Mem.blk X5 = some k → w3.heap.size ≤ k)
              | 11 => v = .pointer (some ⟨r0.h, 0, none⟩)
              | 12 => v = .pointer (some ⟨r0.h, 1, none⟩)
              | 13 => ∃ X5 c5, Mem.Own u 5 1 X5 (nb + 1) c5 (r.f.bs.map Mem.byteV ++ [.int .u8 (bt.toNat : Int)]) ∧ (X5 = r.A ∨ ∀ k, Mem.blk X5 = some k → w3.heap.size ≤ k) ∧ Mem.Bx u 80 3 r0.h [.int .i64 r.f.n, .slice X5 (nb + 1) c5, .slice r.T nb r.e]
              | _ => True) ?_ ?_
          · refine Reg.Steps.cons ?_ (Reg.Steps.cons ?_ (Reg.Steps.cons ?_ (Reg.Steps.cons ?_ (Reg.Steps.cons ?_ (Reg.Steps.cons ?_ (Reg.Steps.cons ?_ (Reg.Steps.cons ?_ (Reg.Steps.cons ?_ (Reg.Steps.cons ?_ (Reg.Steps.cons ?_ (Reg.Steps.cons ?_ (Reg.Steps.cons ?_ (Reg.Steps.cons ?_ (Reg.Steps.nil _))))))))))))))
            · intro val ac u hR hp ha K hK      -- 0: t89 := Op.move t10
              have e10 : (ac.tmps[10]?).getD undef = .pointer (some ⟨r0.h, 0, none⟩) := ha 10 (by decide)
              clear ha hp
              refine Reg.Op1.plain rfl ?_
              go_wp2
              exact ⟨rfl, hK _ _ rfl (Reg.Wr.same _)⟩
            · intro val ac u hR hp ha K hK      -- 1: t90 := Op.move t10
              have e10 : (ac.tmps[10]?).getD undef = .pointer (some ⟨r0.h, 0, none⟩) := ha 10 (by decide)
              clear ha hp
              refine Reg.Op1.plain rfl ?_
              go_wp2
              exact ⟨rfl, hK _ _ rfl (Reg.Wr.same _)⟩
            · intro val ac u hR hp ha K hK      -- 2: t91 := Op.nilCheck t90
              obtain ⟨w90, h90, r90⟩ := hp 1 (by decide)
              have e90 : (ac.tmps[90]?).getD undef = .pointer (some ⟨r0.h, 0, none⟩) := (ha 90 (by decide)).trans h90
              clear h90
              clear ha hp
              refine Reg.Op1.plain rfl ?_
              go_wp2
              exact ⟨rfl, hK _ _ rfl (Reg.Wr.same _)⟩
            · intro val ac u hR hp ha K hK      -- 3: t92 := Op.fieldAddr 80 t91 1
              obtain ⟨w91, h91, r91⟩ := hp 2 (by decide)
              have e91 : (ac.tmps[91]?).getD undef = .pointer (some ⟨r0.h, 0, none⟩) := (ha 91 (by decide)).trans h91
              clear h91
              clear ha hp
              refine Reg.Op1.plain rfl ?_
              go_wp2
              exact ⟨rfl, hK _ _ rfl (Reg.Wr.same _)⟩
            · intro val ac u hR hp ha K hK      -- 4: t93 := Op.load 24 t92
              obtain ⟨w92, h92, r92⟩ := hp 3 (by decide)
              have e92 : (ac.tmps[92]?).getD undef = .pointer (some ⟨r0.h, 1, none⟩) := (ha 92 (by decide)).trans h92
              clear h92
              clear ha hp
              refine Reg.Op1.plain rfl ?_
              have x0 := (((Reg.Wr.none hR (by decide +kernel) (by decide +kernel) (by decide +kernel))).cell (p := ⟨r0.h, 1, none⟩) (hrl3) (id)).trans (y2)
              go_wp2
              exact ⟨rfl, hK _ _ rfl (Reg.Wr.same _)⟩
            · intro val ac u hR hp ha K hK      -- 5: t94 := Op.move t2
              have e2 : (ac.tmps[2]?).getD undef = .slice (some ⟨bx, ox, none⟩) bs.length cx := ha 2 (by decide)
              clear ha hp
              refine Reg.Op1.plain rfl ?_
              go_wp2
              exact ⟨rfl, hK _ _ rfl (Reg.Wr.same _)⟩
            · intro val ac u hR hp ha K hK      -- 6: t95 := Op.move t11
              have e11 : (ac.tmps[11]?).getD undef = .int .i64 (ix : Int) := ha 11 (by decide)
              clear ha hp
              refine Reg.Op1.plain rfl ?_
              go_wp2
              exact ⟨rfl, hK _ _ rfl (Reg.Wr.same _)⟩
            · intro val ac u hR hp ha K hK      -- 7: t96 := Op.indexAddr 24 t94 t95
              obtain ⟨w94, h94, r94⟩ := hp 5 (by decide)
              have e94 : (ac.tmps[94]?).getD undef = .slice (some ⟨bx, ox, none⟩) bs.length cx := (ha 94 (by decide)).trans h94
              clear h94
              obtain ⟨w95, h95, r95⟩ := hp 6 (by decide)
              have e95 : (ac.tmps[95]?).getD undef = .int .i64 (ix : Int) := (ha 95 (by decide)).trans h95
              clear h95
              clear ha hp
              refine Reg.Op1.plain rfl ?_
              go_wp2
              exact ⟨rfl, hK _ _ rfl (Reg.Wr.same _)⟩
            · intro val ac u hR hp ha K hK      -- 8: t97 := Op.load 5 t96
              obtain ⟨w96, h96, r96⟩ := hp 7 (by decide)
              have e96 : (ac.tmps[96]?).getD undef = .pointer (some ⟨bx, ox + ix, none⟩) := (ha 96 (by decide)).trans h96
              clear h96
              clear ha hp
              refine Reg.Op1.plain rfl ?_
              have x0 := (((Reg.Wr.none hR (by decide +kernel) (by decide +kernel) (by decide +kernel))).cell (p := ⟨bx, ox + ix, none⟩) (hbx3) (id)).trans (yb)
              go_wp2
              exact ⟨rfl, hK _ _ rfl (Reg.Wr.same _)⟩
            · intro val ac u hR hp ha K hK      -- 9: t98 := Op.buildSlice 24 1 #[(0, t97)]
              obtain ⟨w97, h97, r97⟩ := hp 8 (by decide)
              have e97 : (ac.tmps[97]?).getD undef = .int .u8 (bt.toNat : Int) := (ha 97 (by decide)).trans h97
              clear h97
              clear ha hp
              refine Reg.Op1.plain rfl ?_
              have hz := (Mem.Keeps.trans ((Mem.Keeps.refl (fun q => Mem.blk r.A = some q ∨ q = r0.h ∨ False) w3).drew) (Reg.Wr.all hR) (fun _ h _ => h)).size
              go_wp2
              exact ⟨rfl, hK _ _ ⟨_, rfl, hz, Mem.Own.lit u _ 1 #[.int .u8 (bt.toNat : Int)] 1 rfl rfl (by simp [maxLen])⟩ (Reg.Wr.below (Reg.below_new _ _))⟩
            · intro val ac u hR hp ha K hK      -- 10: t99 := Op.call { builtin append, args := #[t93, t98], argTypes := #[24, 24] }
              obtain ⟨w93, h93, r93⟩ := hp 4 (by decide)
              have e93 : (ac.tmps[93]?).getD undef = .slice r.A nb r.c := (ha 93 (by decide)).trans h93
              clear h93
              obtain ⟨w98, h98, r98⟩ := hp 9 (by decide)
              have e98 : (ac.tmps[98]?).getD undef = val 9 := ha 98 (by decide)
              clear ha hp
              refine Reg.Op1.plain rfl ?_
              obtain ⟨s, hv, hs, ho⟩ := h98
              rw [hv] at e98
              have ho' := ho.keeps (Reg.Wr.none r98 (by decide +kernel) (by decide +kernel) (by decide +kernel)) (fun _ _ h => h)
              have hq : Mem.Keeps (fun _ => False) w3 u := (Mem.Keeps.refl (fun _ => False) w3).drew.trans (Reg.Wr.none hR (by decide +kernel) (by decide +kernel) (by decide +kernel)) (fun _ h _ => h)
              have hO := HOX.out.keeps hq (fun _ _ h => h)
              have hz := hq.size
              refine Mem.wpList_app u rfl (.tmp 93) (.tmp 98) _ rfl bytes_elem r.A nb r.c _ (Reg.eval_of e93) u.heap.size (some ⟨s, 0, none⟩) 1 1 [.int .u8 (bt.toNat : Int)] (Reg.eval_of e98) ?_ hO ho'.rd rfl (by simp [Value.oneCell']) hn2 (by omega)
              intro X' d' u' hown hg hat
              exact ⟨rfl, hK _ _ ⟨X', d', rfl, hown, hat.imp id (fun h k hk => by rw [h] at hk; cases hk; exact hz)⟩ (Reg.Wr.does1 ((Mem.Keeps.refl _ u).grown hg (fun y hy _ => hy)))⟩
            · intro val ac u hR hp ha K hK      -- 11: t100 := Op.nilCheck t89
              obtain ⟨w89, h89, r89⟩ := hp 0 (by decide)
              have e89 : (ac.tmps[89]?).getD undef = .pointer (some ⟨r0.h, 0, none⟩) := (ha 89 (by decide)).trans h89
              clear h89
              clear ha hp
              refine Reg.Op1.plain rfl ?_
              go_wp2
              exact ⟨rfl, hK _ _ rfl (Reg.Wr.same _)⟩
            · intro val ac u hR hp ha K hK      -- 12: t101 := Op.fieldAddr 80 t100 1
              obtain ⟨w100, h100, r100⟩ := hp 11 (by decide)
              have e100 : (ac.tmps[100]?).getD undef = .pointer (some ⟨r0.h, 0, none⟩) := (ha 100 (by decide)).trans h100
              clear h100
              clear ha hp
              refine Reg.Op1.plain rfl ?_
              go_wp2
              exact ⟨rfl, hK _ _ rfl (Reg.Wr.same _)⟩
            · intro val ac u hR hp ha K hK      -- 13: Op.store 24 t101 t99
              obtain ⟨w101, h101, r101⟩ := hp 12 (by decide)
              have e101 : (ac.tmps[101]?).getD undef = .pointer (some ⟨r0.h, 1, none⟩) := (ha 101 (by decide)).trans h101
              clear h101
              obtain ⟨w99, h99, r99⟩ := hp 10 (by decide)
              have e99 : (ac.tmps[99]?).getD undef = val 10 := ha 99 (by decide)
              clear ha hp
              refine Reg.Op1.plain rfl ?_
              obtain ⟨X5, c5, hv, ho, hx⟩ := h99
              rw [hv] at e99
              have ho' := ho.keeps (Reg.Wr.none r99 (by decide +kernel) (by decide +kernel) (by decide +kernel)) (fun _ _ h => h)
              have hq : Mem.Keeps (fun q => Mem.blk r.A = some q ∨ False) w3 u := (Mem.Keeps.refl (fun q => Mem.blk r.A = some q ∨ False) w3).drew.trans (Reg.Wr.not2 hR (by decide +kernel)) (fun _ h _ => h)
              have hB := HBX.out.keeps hq (fun h => h.elim (fun h => (HNA.out _ h).1 rfl) id)
              have x1 := hB.cell (j := 1) rfl
              have xf := hB.fr
              have hbl := hB.lt
              have hXne : ∀ k, Mem.blk X5 = some k → k ≠ r0.h := fun k hk => by rcases hx with h | h; exact (HNA.out k (h ▸ hk)).1; have := h k hk; omega
              have hs9 := (Mem.Keeps.refl (fun q => q = r0.h) u).setCell (p := ⟨r0.h, 1, none⟩) (fun _ => rfl) (.slice X5 (nb + 1) c5)
              have ho9 := ho'.keeps hs9 hXne
              have hB9 := hB.set 1 (.slice X5 (nb + 1) c5)
              clear ho ho' hq hB hv
              go_wp2
              exact ⟨rfl, hK undef _ ⟨X5, c5, ho9, hx, hB9⟩ (Reg.Wr.does2 hs9)⟩
          intro val u hR H
          obtain ⟨w13, ⟨X5, c5, hO6a, hX5, hB6a⟩, r13⟩ := H 13 (by decide)
          have hk13 := Reg.Wr.none r13 (by decide +kernel) (by decide +kernel) (by decide +kernel)
          have HO6 := Lib.hid (hO6a.keeps hk13 (fun _ _ h => h))
          have HB6 := Lib.hid (hB6a.keeps hk13 id)
          have HX5 := Lib.hid hX5
          have hk36 : Mem.Keeps (fun q => Mem.blk r.A = some q ∨ q = r0.h) w3 u := ((Mem.Keeps.refl (fun q => Mem.blk r.A = some q ∨ q = r0.h ∨ False) w3).drew.trans (Reg.Wr.all hR) (fun _ h _ => h)).mono (fun q h _ => h.imp id (fun h => h.elim id (fun h => h.elim)))
          obtain ⟨w6, hw6⟩ : ∃ w6, u = w6 := ⟨_, rfl⟩
          rw [hw6] at HO6 HB6 hk36
          rw [hw6]
          simp only [List.map_cons, List.map_nil, Reg.lay, Act.put, List.setIfInBounds_toArray, List.set_cons_succ, List.set_cons_zero, Nat.reduceAdd]
          clear hO6a hB6a hX5 r13 hk13 hR H hw6 y2 yb
          go_upto_region 17 with fail
          have HP6 := Lib.hid (HPX.out.keeps hk36 (fun k hk h => by rcases h with h | h; exact (HNA.out k h).2 hk; exact HNT.out k hk h))
          have hG6 : w6.cell? ⟨g, 1, none⟩ = some (.int .i64 ((tm + 1 : Nat) : Int)) := (hk36.cell (p := ⟨g, 1, none⟩) hgl3 (fun h => by rcases h with h | h; exact HGA.out g h rfl; exact hgr h)).trans HG3.out
          have hX6 : ∀ k, Mem.blk X5 = some k → k < w6.heap.size := fun k hk => HO6.out.lt hk
          have HX6 := Lib.hid hX6
          have HK36 := Lib.hid hk36
          have hgl6 : g < w6.heap.size := Nat.lt_of_lt_of_le hgl3 hk36.size
          clear hk36 hX6
          have y3 : w6.cell? ⟨r0.h, 2, none⟩ = some (.slice r.T nb r.e) := HB6.out.cell (j := 2) rfl
          have hrl6 : r0.h < w6.heap.size := HB6.out.lt
          refine Reg.wp_region_w (by kernel_rfl) 115 14 rfl rfl (by kernel_rfl) (10) (fun q => Mem.blk r.T = some q) (13) (fun q => q = r0.h) (10) (fun _ => False)
            (fun i v u => match i with
              | 0 => v = .pointer (some ⟨r0.h, 0, none⟩)
              | 1 => v = .pointer (some ⟨r0.h, 0, none⟩)
              | 2 => v = .pointer (some ⟨r0.h, 0, none⟩)
              | 3 => v = .pointer (some ⟨r0.h, 2, none⟩)
              | 4 => v = .slice r.T nb r.e
              | 5 => v = .pointer (some ⟨g, 0, none⟩)
              | 6 => v = .pointer (some ⟨g, 0, none⟩)
              | 7 => v = .pointer (some ⟨g, 1, none⟩)
              | 8 => v = .int .i64 ((tm + 1 : Nat) : Int)
              | 9 => ∃ s, v = .slice (some ⟨s, 0, none⟩) 1 1 ∧ w6.heap.size ≤ s ∧ Mem.Own u 3 1 (some ⟨s, 0, none⟩) 1 1 [.int .i64 ((tm + 1 : Nat) : Int)]
              | 10 => ∃ Y8 c8, v = .slice Y8 (nb + 1) c8 ∧ Mem.Own u 3 1 Y8 (nb + 1) c8 (r.f.cm.map tmV ++ [.int .i64 ((tm + 1 : Nat) : Int)]) ∧ (Y8 = r.T ∨ ∀ k, Mem.blk Y8 = some k → w6.heap.size ≤ k)
              | 11 => v = .pointer (some ⟨r0.h, 0, none⟩)
              | 12 => v = .pointer (some ⟨r0.h, 2, none⟩)
              | 13 => ∃ Y8 c8, Mem.Own u 3 1 Y8 (nb + 1) c8 (r.f.cm.map tmV ++ [.int .i64 ((tm + 1 : Nat) : Int)]) ∧ (Y8 = r.T ∨ ∀ k, Mem.blk Y8 = some k → w6.heap.size ≤ k) ∧ Mem.Bx u 80 3 r0.h [.int .i64 r.f.n, .slice X5 (nb + 1) c5, .slice Y8 (nb + 1) c8]
              | _ => True) ?_ ?_
          · refine Reg.Steps.cons ?_ (Reg.Steps.cons ?_ (Reg.Steps.cons ?_ (Reg.Steps.cons ?_ (Reg.Steps.cons ?_ (Reg.Steps.cons ?_ (Reg.Steps.cons ?_ (Reg.Steps.cons ?_ (Reg.Steps.cons ?_ (Reg.Steps.cons ?_ (Reg.Steps.cons ?_ (Reg.Steps.cons ?_ (Reg.Steps.cons ?_ (Reg.Steps.cons ?_ (Reg.Steps.nil _))))))))))))))
            · intro val ac u hR hp ha K hK      -- 0: t102 := Op.move t10
              have e10 : (ac.tmps[10]?).getD undef = .pointer (some ⟨r0.h, 0, none⟩) := ha 10 (by decide)
              clear ha hp
              refine Reg.Op1.plain rfl ?_
              go_wp2
              exact ⟨rfl, hK _ _ rfl (Reg.Wr.same _)⟩
            · intro val ac u hR hp ha K hK      -- 1: t103 := Op.move t10
              have e10 : (ac.tmps[10]?).getD undef = .pointer (some ⟨r0.h, 0, none⟩) := ha 10 (by decide)
              clear ha hp
              refine Reg.Op1.plain rfl ?_
              go_wp2
              exact ⟨rfl, hK _ _ rfl (Reg.Wr.same _)⟩
            · intro val ac u hR hp ha K hK      -- 2: t104 := Op.nilCheck t103
              obtain ⟨w103, h103, r103⟩ := hp 1 (by decide)
              have e103 : (ac.tmps[103]?).getD undef = .pointer (some ⟨r0.h, 0, none⟩) := (ha 103 (by decide)).trans h103
              clear h103
              clear ha hp
              refine Reg.Op1.plain rfl ?_
              go_wp2
              exact ⟨rfl, hK _ _ rfl (Reg.Wr.same _)⟩
            · intro val ac u hR hp ha K hK      -- 3: t105 := Op.fieldAddr 80 t104 2
              obtain ⟨w104, h104, r104⟩ := hp 2 (by decide)
              have e104 : (ac.tmps[104]?).getD undef = .pointer (some ⟨r0.h, 0, none⟩) := (ha 104 (by decide)).trans h104
              clear h104
              clear ha hp
              refine Reg.Op1.plain rfl ?_
              go_wp2
              exact ⟨rfl, hK _ _ rfl (Reg.Wr.same _)⟩
            · intro val ac u hR hp ha K hK      -- 4: t106 := Op.load 33 t105
              obtain ⟨w105, h105, r105⟩ := hp 3 (by decide)
              have e105 : (ac.tmps[105]?).getD undef = .pointer (some ⟨r0.h, 2, none⟩) := (ha 105 (by decide)).trans h105
              clear h105
              clear ha hp
              refine Reg.Op1.plain rfl ?_
              have x0 := (((Reg.Wr.none hR (by decide +kernel) (by decide +kernel) (by decide +kernel))).cell (p := ⟨r0.h, 2, none⟩) (hrl6) (id)).trans (y3)
              go_wp2
              exact ⟨rfl, hK _ _ rfl (Reg.Wr.same _)⟩
            · intro val ac u hR hp ha K hK      -- 5: t107 := Op.move t0
              have e0 : (ac.tmps[0]?).getD undef = .pointer (some ⟨g, 0, none⟩) := ha 0 (by decide)
              clear ha hp
              refine Reg.Op1.plain rfl ?_
              go_wp2
              exact ⟨rfl, hK _ _ rfl (Reg.Wr.same _)⟩
            · intro val ac u hR hp ha K hK      -- 6: t108 := Op.nilCheck t107
              obtain ⟨w107, h107, r107⟩ := hp 5 (by decide)
              have e107 : (ac.tmps[107]?).getD undef = .pointer (some ⟨g, 0, none⟩) := (ha 107 (by decide)).trans h107
              clear h107
              clear ha hp
              refine Reg.Op1.plain rfl ?_
              go_wp2
              exact ⟨rfl, hK _ _ rfl (Reg.Wr.same _)⟩
            · intro val ac u hR hp ha K hK      -- 7: t109 := Op.fieldAddr 65 t108 1
              obtain ⟨w108, h108, r108⟩ := hp 6 (by decide)
              have e108 : (ac.tmps[108]?).getD undef = .pointer (some ⟨g, 0, none⟩) := (ha 108 (by decide)).trans h108
              clear h108
              clear ha hp
              refine Reg.Op1.plain rfl ?_
              go_wp2
              exact ⟨rfl, hK _ _ rfl (Reg.Wr.same _)⟩
            · intro val ac u hR hp ha K hK      -- 8: t110 := Op.load 3 t109
              obtain ⟨w109, h109, r109⟩ := hp 7 (by decide)
              have e109 : (ac.tmps[109]?).getD undef = .pointer (some ⟨g, 1, none⟩) := (ha 109 (by decide)).trans h109
              clear h109
              clear ha hp
              refine Reg.Op1.plain rfl ?_
              have x0 := (((Reg.Wr.none hR (by decide +kernel) (by decide +kernel) (by decide +kernel))).cell (p := ⟨g, 1, none⟩) (hgl6) (id)).trans (hG6)
              go_wp2
              exact ⟨rfl, hK _ _ rfl (Reg.Wr.same _)⟩
            · intro val ac u hR hp ha K hK      -- 9: t111 := Op.buildSlice 33 1 #[(0, t110)]
              obtain ⟨w110, h110, r110⟩ := hp 8 (by decide)
              have e110 : (ac.tmps[110]?).getD undef = .int .i64 ((tm + 1 : Nat) : Int) := (ha 110 (by decide)).trans h110
              clear h110
              clear ha hp
              refine Reg.Op1.plain rfl ?_
              have hz := (Mem.Keeps.trans ((Mem.Keeps.refl (fun q => Mem.blk r.T = some q ∨ q = r0.h ∨ False) w6).drew) (Reg.Wr.all hR) (fun _ h _ => h)).size
              go_wp2
              exact ⟨rfl, hK _ _ ⟨_, rfl, hz, Mem.Own.lit u _ 1 #[.int .i64 ((tm + 1 : Nat) : Int)] 1 rfl rfl (by simp [maxLen])⟩ (Reg.Wr.below (Reg.below_new _ _))⟩
            · intro val ac u hR hp ha K hK      -- 10: t112 := Op.call { builtin append, args := #[t106, t111], argTypes := #[33, 33] }
              obtain ⟨w106, h106, r106⟩ := hp 4 (by decide)
              have e106 : (ac.tmps[106]?).getD undef = .slice r.T nb r.e := (ha 106 (by decide)).trans h106
              clear h106
              obtain ⟨w111, h111, r111⟩ := hp 9 (by decide)
              have e111 : (ac.tmps[111]?).getD undef = val 9 := ha 111 (by decide)
              clear ha hp
              refine Reg.Op1.plain rfl ?_
              obtain ⟨s, hv, hs, ho⟩ := h111
              rw [hv] at e111
              have ho' := ho.keeps (Reg.Wr.none r111 (by decide +kernel) (by decide +kernel) (by decide +kernel)) (fun _ _ h => h)
              have hq : Mem.Keeps (fun _ => False) w6 u := (Mem.Keeps.refl (fun _ => False) w6).drew.trans (Reg.Wr.none hR (by decide +kernel) (by decide +kernel) (by decide +kernel)) (fun _ h _ => h)
              have hO := HP6.out.keeps hq (fun _ _ h => h)
              have hz := hq.size
              refine Mem.wpList_app u rfl (.tmp 106) (.tmp 111) _ rfl ints_elem r.T nb r.e _ (Reg.eval_of e106) u.heap.size (some ⟨s, 0, none⟩) 1 1 [.int .i64 ((tm + 1 : Nat) : Int)] (Reg.eval_of e111) ?_ hO ho'.rd rfl (by simp [Value.oneCell']) hn2 (by omega)
              intro X' d' u' hown hg hat
              exact ⟨rfl, hK _ _ ⟨X', d', rfl, hown, hat.imp id (fun h k hk => by rw [h] at hk; cases hk; exact hz)⟩ (Reg.Wr.does1 ((Mem.Keeps.refl _ u).grown hg (fun y hy _ => hy)))⟩
            · intro val ac u hR hp ha K hK      -- 11: t113 := Op.nilCheck t102
              obtain ⟨w102, h102, r102⟩ := hp 0 (by decide)
              have e102 : (ac.tmps[102]?).getD undef = .pointer (some ⟨r0.h, 0, none⟩) := (ha 102 (by decide)).trans h102
              clear h102
              clear ha hp
              refine Reg.Op1.plain rfl ?_
              go_wp2
              exact ⟨rfl, hK _ _ rfl (Reg.Wr.same _)⟩
            · intro val ac u hR hp ha K hK      -- 12: t114 := Op.fieldAddr 80 t113 2
              obtain ⟨w113, h113, r113⟩ := hp 11 (by decide)
              have e113 : (ac.tmps[113]?).getD undef = .pointer (some ⟨r0.h, 0, none⟩) := (ha 113 (by decide)).trans h113
              clear h113
              clear ha hp
              refine Reg.Op1.plain rfl ?_
              go_wp2
              exact ⟨rfl, hK _ _ rfl (Reg.Wr.same _)⟩
            · intro val ac u hR hp ha K hK      -- 13: Op.store 33 t114 t112
              obtain ⟨w114, h114, r114⟩ := hp 12 (by decide)
              have e114 : (ac.tmps[114]?).getD undef = .pointer (some ⟨r0.h, 2, none⟩) := (ha 114 (by decide)).trans h114
              clear h114
              obtain ⟨w112, h112, r112⟩ := hp 10 (by decide)
              have e112 : (ac.tmps[112]?).getD undef = val 10 := ha 112 (by decide)
              clear ha hp
              refine Reg.Op1.plain rfl ?_
              obtain ⟨Y8, c8, hv, ho, hx⟩ := h112
              rw [hv] at e112
              have ho' := ho.keeps (Reg.Wr.none r112 (by decide +kernel) (by decide +kernel) (by decide +kernel)) (fun _ _ h => h)
              have hq : Mem.Keeps (fun q => Mem.blk r.T = some q ∨ False) w6 u := (Mem.Keeps.refl (fun q => Mem.blk r.T = some q ∨ False) w6).drew.trans (Reg.Wr.not2 hR (by decide +kernel)) (fun _ h _ => h)
              have hB := HB6.out.keeps hq (fun h => h.elim (fun h => HNT.out _ h rfl) id)
              have x1 := hB.cell (j := 2) rfl
              have xf := hB.fr
              have hbl := hB.lt
              have hXne : ∀ k, Mem.blk Y8 = some k → k ≠ r0.h := fun k hk => by rcases hx with h | h; exact HNT.out k (h ▸ hk); have := h k hk; omega
              have hs9 := (Mem.Keeps.refl (fun q => q = r0.h) u).setCell (p := ⟨r0.h, 2, none⟩) (fun _ => rfl) (.slice Y8 (nb + 1) c8)
              have ho9 := ho'.keeps hs9 hXne
              have hB9 := hB.set 2 (.slice Y8 (nb + 1) c8)
              clear ho ho' hq hB hv
              go_wp2
              exact ⟨rfl, hK undef _ ⟨Y8, c8, ho9, hx, hB9⟩ (Reg.Wr.does2 hs9)⟩
          intro val u hR H
          obtain ⟨w13, ⟨Y8, c8, hP9a, hY8, hB9a⟩, r13⟩ := H 13 (by decide)
          have hk13 := Reg.Wr.none r13 (by decide +kernel) (by decide +kernel) (by decide +kernel)
          have hP9 := hP9a.keeps hk13 (fun _ _ h => h)
          have hB9 := hB9a.keeps hk13 id
          have HY8 := Lib.hid hY8
          have hk69 : Mem.Keeps (fun q => Mem.blk r.T = some q ∨ q = r0.h) w6 u := ((Mem.Keeps.refl (fun q => Mem.blk r.T = some q ∨ q = r0.h ∨ False) w6).drew.trans (Reg.Wr.all hR) (fun _ h _ => h)).mono (fun q h _ => h.imp id (fun h => h.elim id (fun h => h.elim)))
          obtain ⟨w9, hw9⟩ : ∃ w9, u = w9 := ⟨_, rfl⟩
          rw [hw9] at hP9 hB9 hk69
          rw [hw9]
          simp only [List.map_cons, List.map_nil, Reg.lay, Act.put, List.setIfInBounds_toArray, List.set_cons_succ, List.set_cons_zero, Nat.reduceAdd]
          clear hP9a hB9a hY8 r13 hk13 hR H hw9 y3 hG6
          have h36z := HK36.out.size
          have hXT : ∀ k, Mem.blk X5 = some k → ¬ (Mem.blk r.T = some k ∨ k = r0.h) := fun k hk hh => by
            have hXr : k ≠ r0.h := by
              rcases HX5.out with h5 | h5
              · exact (HNA.out k (h5 ▸ hk)).1
              · have := h5 k hk; have h1 := HBX.out.lt; omega
            rcases hh with hh | hh
            · rcases HX5.out with h | h
              · exact (HNA.out k (h ▸ hk)).2 hh
              · have := h k hk; have := HPX.out.lt hh; omega
            · exact hXr hh
          have hO9 := HO6.out.keeps hk69 hXT
          have hk39 : Mem.Keeps r.fp w3 w9 := (HK36.out.mono (T := r.fp) (fun q h _ => by rcases h with h | h; exact .inr (.inl h); exact .inl (h.trans HRH.out.symm))).trans (hk69.mono (T := r.fp) (fun q h _ => by rcases h with h | h; exact .inr (.inr h); exact .inl (h.trans HRH.out.symm))) (fun _ h _ => h)
          have hXX : Mem.blk X5 = Mem.blk r.A ∨ ∀ k, Mem.blk X5 = some k → w3.heap.size ≤ k := HX5.out.imp (fun h => by rw [h]) (fun h k hk => h k hk)
          have hYY : Mem.blk Y8 = Mem.blk r.T ∨ ∀ k, Mem.blk Y8 = some k → w3.heap.size ≤ k ∧ Mem.blk X5 ≠ some k := HY8.out.imp (fun h => by rw [h]) (fun h k hk => ⟨by have := h k hk; omega, fun hh => by have := h k hk; have := HX6.out k hh; omega⟩)
          have hbl : (r.f.bs ++ [bt]).length = nb + 1 := by rw [List.length_append, HNB.out]; rfl
          have hcl : (r.f.cm ++ [tm + 1]).length = nb + 1 := by rw [List.length_append, HCE.out, HNB.out]; rfl
          have hf9 : FAt w9 { r with f := { r.f with bs := r.f.bs ++ [bt], cm := r.f.cm ++ [tm + 1] }, A := X5, c := c5, T := Y8, e := c8 } :=
            HFA.out.bytes (by rw [hbl, hcl, HRH.out]; exact hB9) (by rw [hbl, List.map_append]; exact hO9) (by rw [hcl, List.map_append]; exact hP9) hXX hYY (by rw [hbl, hcl])
          have hq9 : ∀ k, R.fp { r with f := { r.f with bs := r.f.bs ++ [bt], cm := r.f.cm ++ [tm + 1] }, A := X5, c := c5, T := Y8, e := c8 } k → r.fp k ∨ w3.heap.size ≤ k := fun k hk => by
            rcases hk with hk | hk | hk
            · exact .inl (.inl hk)
            · rcases hXX with h | h
              · exact .inl (.inr (.inl (h ▸ hk)))
              · exact .inr (h k hk)
            · rcases hYY with h | h
              · exact .inl (.inr (.inr (h ▸ hk)))
              · exact .inr (h k hk).1
          obtain ⟨e1, e2, e3⟩ := HD3.out.file (r' := { r with f := { r.f with bs := r.f.bs ++ [bt], cm := r.f.cm ++ [tm + 1] }, A := X5, c := c5, T := Y8, e := c8 }) rfl hf9 hk39 hq9
          have HE1 := Lib.hid e1
          have HF9 : Hid ((⟨r.f.n, r.f.bs ++ [bt], r.f.cm ++ [tm + 1]⟩ : Fl) = ⟨r0.f.n, r0.f.bs ++ bs.take (ix + 1), r0.f.cm ++ tms time (ix + 1)⟩) := by
            show _ = _
            rw [HRF.out, Mem.take_snoc hbt, tms_succ, HTM.out, List.append_assoc, List.append_assoc]
          have hks : w2.heap.size ≤ w3.heap.size := Nat.le_trans HKr.out.size HK3.out.size
          have hgr2 : ∀ k, fpD g (some ⟨b0, o0, none⟩) (pre ++ { r with f := { r.f with bs := r.f.bs ++ [bt], cm := r.f.cm ++ [tm + 1] }, A := X5, c := c5, T := Y8, e := c8 } :: post) k → fpD g (some ⟨b0, o0, none⟩) (pre ++ r0 :: post) k ∨ w2.heap.size ≤ k := fun k hk => by
            rcases e3 k hk with h | h
            · exact HGr.out k h
            · exact .inr (Nat.le_trans hks h)
          have hk2 : Mem.Keeps (fpD g (some ⟨b0, o0, none⟩) (pre ++ r0 :: post)) w2 w9 := HKr.out.trans (HK3.out.trans e2 (fun _ h _ => h)) (fun k hk hl => by rcases HGr.out k hk with h | h; exact h; omega)
          have HG9 := Lib.hid hgr2
          have HK9 := Lib.hid hk2
          have htt : time + (ix + 1) = tm + 1 := by have := HTM.out; omega
          have HTT := Lib.hid htt
          clear hB9 h36z hXT hO9 hP9 hk69 hk39 hXX hYY hbl hcl hf9 hq9 e1 e2 e3 hks hgr2 hk2 htt
          go_wp2
          go_roundw
          case rel => exact ⟨⟨ix + 1, (⟨⟨r.f.n, r.f.bs ++ [bt], r.f.cm ++ [tm + 1]⟩, r.h, X5, c5, Y8, c8⟩ : R), by omega, by go_num, Lib.hid HRH.out, HF9, Lib.hid (by rw [HTT.out]; exact HE1.out), HK9, HG9⟩⟩
          case measure => simp [intOf]; omega
        · obtain rfl : ix = bs.length := by omega
          have d0 : decide ((bs.length : Int) < (bs.length : Int)) = false := by simp
          have HF : Hid (r.f = appF bs time r0.f) := by
            show _ = _
            rw [HRF.out, List.take_length]; rfl
          clear hlt hi
          go_wp2
          go_ret
          have hqa := HDr.out.qat (l := pre.map (·.f) ++ appF bs time r0.f :: post.map (·.f)) (by rw [List.map_append, List.map_cons, HF.out])
          refine ⟨by rw [HE.out]; rfl, ⟨_, by rw [HEND.out]; exact hqa, fun q hq => ?_⟩, ?_⟩
          · rcases HGr.out q hq with h | h
            · exact HG2.out q h
            · exact .inr (Nat.le_trans HK2.out.size h)
          · exact HK2.out.trans HKr.out (fun k hk hl => by rcases HG2.out k hk with h | h; exact h; omega)
end Go.Proofs.Ytfpfpdhfnleebaa
