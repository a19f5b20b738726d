/- The walk of a disk's Append. Files and pieces that are few. -/
import Derived.Test.YtfpfpdhfnleebaaDisk3
set_option maxRecDepth 8000
namespace Go.Proofs.Ytfpfpdhfnleebaa
open Go.ChangeShapes Go.WideShapes Go.ChangeAt Go.RowKit
set_option linter.unusedVariables false
set_option linter.unusedSimpArgs false
namespace Dk
def usedD (d : D) : Nat := (d.fs.map fun f => f.bs.length).sum
def appE (d : D) (n : Int) (bs : List UInt8) : Int :=
  if n < 0 ∨ 1099511627776 < n then 50 else if (findF d.fs n = none ∧ 64 ≤ d.fs.length) ∨ 1048576 < usedD d + bs.length then 51 else 0
def appD (d : D) (n : Int) (bs : List UInt8) : D :=
  if appE d n bs ≠ 0 then d else
    ⟨(match findF d.fs n with
      | none => d.fs ++ [⟨n, bs, 0⟩]
      | some _ => updF n (fun f => { f with bs := f.bs ++ bs }) d.fs), d.lo ++ [(n, bs.length)]⟩
theorem used_fs (rs : List FR) (lo : List (Int × Nat)) : usedD ⟨rs.map (·.f), lo⟩ = usedR rs := by unfold usedD usedR; rw [List.map_map]; rfl
theorem piece_new (w : World) (p : Int × Nat) : (w.alloc (.cells (pcs p).toArray 59)) = w.alloc (.cells #[.int .i64 p.1, .int .i64 p.2] 59) := rfl
end Dk
open Dk in
set_option maxHeartbeats 4000000 in
theorem append_any {w : World} {g b c : Nat} {A : Option Addr} {rs : List Dk.FR} {lo : List (Int × Nat)} (h : Dk.DS w g b A c rs lo) {n : Int} (hn : Dk.okI n) (hu : Dk.usedR rs ≤ 1000000000) (hl : lo.length ≤ 99999) (hrl0 : rs.length ≤ 100000)
    {X : Option Addr} {cx : Nat} {bs : List UInt8} (hR : Mem.Rd w w.heap.size X (bs.map Mem.byteV)) (hX : ∀ k, Mem.blk X = some k → ¬ Dk.fpD g b A rs k) (hb : bs.length ≤ 1000000000) :
    Calls Try.prog 11 #[.pointer (some ⟨g, 0, none⟩), .int .i64 n, .slice X bs.length cx] w (Dk.DEnd w g (Dk.fpD g b A rs) (Dk.appD ⟨rs.map (·.f), lo⟩ n bs) (.int .i64 (Dk.appE ⟨rs.map (·.f), lo⟩ n bs))) := by
  have x0 : w.cell? ⟨g, 0, none⟩ = some (.map (some b)) := h.B.cell (j := 0) rfl
  have hlk := look_at h hn
  have hlen : ∀ ty, (Builtin.len_ #[51] ty #[.map (some b)]).run Try.prog w = .ok (.int .i64 rs.length) w := fun ty => by rw [h.M.len Try.underlying51, List.length_map]
  have HD := Lib.hid h
  have hnd := h.nodup
  have HU := Lib.hid (used_any h hu)
  have HRDX := Lib.hid hR
  have HXX := Lib.hid hX
  have HN := Lib.hid hn
  have hnn : -9223372036854775808 ≤ n ∧ n ≤ 9223372036854775807 := hn
  obtain ⟨hn1, hn2⟩ := hnn
  clear h hR hn hX
  have stay : ∀ (k : Int) (w' : World), appE ⟨rs.map (·.f), lo⟩ n bs = k → k ≠ 0 → Below w.heap.size w w' → DEnd w g (fpD g b A rs) (appD ⟨rs.map (·.f), lo⟩ n bs) (.int .i64 (appE ⟨rs.map (·.f), lo⟩ n bs)) (.returned (.int .i64 k)) w' := fun k w' he hk hb => by
    have hd : appD ⟨rs.map (·.f), lo⟩ n bs = ⟨rs.map (·.f), lo⟩ := by unfold appD; rw [he, if_pos hk]
    rw [hd, he]
    exact ⟨rfl, ⟨_, (HD.out.below hb).at rfl, fun k hk => .inl hk⟩, (Mem.Keeps.of_below hb).mono (fun _ h _ => h.elim)⟩
  have STAY := Lib.hid stay
  clear stay
  by_cases hneg : n < 0
  · have he : appE ⟨rs.map (·.f), lo⟩ n bs = 50 := by unfold appE; rw [if_pos (.inl hneg)]
    have HE := Lib.hid he
    have d1 : decide (n < 0) = true := by simpa using hneg
    clear he hneg
    cases hf : findR rs n with
    | none =>
      rw [hf] at hlk
      unfold ptrV at hlk
      clear hf
      go_enter Try.func11, Try.ntmps11
      go_wp2
      go_ret
      exact STAY.out 50 w HE.out (by decide) (Below.refl _ _)
    | some r =>
      rw [hf] at hlk
      unfold ptrV at hlk
      clear hf
      go_enter Try.func11, Try.ntmps11
      go_wp2
      go_ret
      exact STAY.out 50 w HE.out (by decide) (Below.refl _ _)
  have d1 : decide (n < 0) = false := by simp; omega
  by_cases hbig : 1099511627776 < n
  · have he : appE ⟨rs.map (·.f), lo⟩ n bs = 50 := by unfold appE; rw [if_pos (.inr hbig)]
    have HE := Lib.hid he
    have d2 : decide (1099511627776 < n) = true := by simpa using hbig
    clear he hneg hbig
    cases hf : findR rs n with
    | none =>
      rw [hf] at hlk
      unfold ptrV at hlk
      clear hf
      go_enter Try.func11, Try.ntmps11
      go_wp2
      go_ret
      exact STAY.out 50 w HE.out (by decide) (Below.refl _ _)
    | some r =>
      rw [hf] at hlk
      unfold ptrV at hlk
      clear hf
      go_enter Try.func11, Try.ntmps11
      go_wp2
      go_ret
      exact STAY.out 50 w HE.out (by decide) (Below.refl _ _)
  have d2 : decide (1099511627776 < n) = false := by simp; omega
  have hr0 : ¬ (n < 0 ∨ 1099511627776 < n) := by omega
  have HE0 : Hid (appE ⟨rs.map (·.f), lo⟩ n bs = if (findF (rs.map (·.f)) n = none ∧ 64 ≤ rs.length) ∨ 1048576 < usedR rs + bs.length then 51 else 0) := by
    show _ = _
    unfold appE; rw [if_neg hr0, used_fs]; dsimp only; rw [List.length_map]
  clear hneg hbig hr0
  obtain ⟨us, hus⟩ : ∃ us, usedR rs = us := ⟨_, rfl⟩
  rw [hus] at HU HE0 hu
  have HUS := Lib.hid hus
  clear hus
  cases hf : findR rs n with
  | none =>
    have HFN : Hid (findF (rs.map (·.f)) n = none) := by show _ = _; rw [find_fs, hf]; rfl
    have HFR := Lib.hid hf
    rw [hf] at hlk
    unfold ptrV at hlk
    clear hf
    by_cases h64 : 64 ≤ rs.length
    · have he : appE ⟨rs.map (·.f), lo⟩ n bs = 51 := by rw [HE0.out, if_pos (.inl ⟨HFN.out, h64⟩)]
      have HE := Lib.hid he
      have d3 : decide ((64 : Int) ≤ (rs.length : Int)) = true := by simp; omega
      clear he h64
      go_enter Try.func11, Try.ntmps11
      go_wp2
      go_ret
      exact STAY.out 51 w HE.out (by decide) (Below.refl _ _)
    have d3 : decide ((64 : Int) ≤ (rs.length : Int)) = false := by simp; omega
    by_cases hov : 1048576 < us + bs.length
    · have he : appE ⟨rs.map (·.f), lo⟩ n bs = 51 := by rw [HE0.out, if_pos (.inr hov)]
      have HE := Lib.hid he
      have d4 : decide ((1048576 : Int) < (us : Int) + (bs.length : Int)) = true := by simp; omega
      clear he h64 hov
      go_enter Try.func11, Try.ntmps11
      go_wp2_with (go_at_call 19; refine HU.out.mono ?_; rintro x1 w1 ⟨rfl, hb1⟩; have HB1 := Lib.hid hb1; clear hb1 HU)
      go_ret
      exact STAY.out 51 w1 HE.out (by decide) HB1.out
    have d4 : decide ((1048576 : Int) < (us : Int) + (bs.length : Int)) = false := by simp; omega
    have he : appE ⟨rs.map (·.f), lo⟩ n bs = 0 := by rw [HE0.out, if_neg (fun h => by rcases h with h | h; exact h64 h.2; exact hov h)]
    have hd : appD ⟨rs.map (·.f), lo⟩ n bs = ⟨rs.map (·.f) ++ [⟨n, bs, 0⟩], lo ++ [(n, bs.length)]⟩ := by unfold appD; rw [he, if_neg (by decide), HFN.out]
    have HE := Lib.hid he
    have HDD := Lib.hid hd
    clear he hd h64 hov
    go_enter Try.func11, Try.ntmps11
    go_upto_region 7 with (go_at_call 19; refine HU.out.mono ?_; rintro x1 w1 ⟨rfl, hb1⟩; have HB1 := Lib.hid hb1; clear hb1 HU)
    obtain ⟨v1, hv1⟩ : ∃ v1, w1.alloc (.cells #[.slice none 0 0, .int .i64 0] 57) = v1 := ⟨_, rfl⟩
    have hbv : Below w1.heap.size w1 v1 := by rw [← hv1]; exact (Below.refl _ w1).alloc (Nat.le_refl _) _
    have hBf : Mem.Bx v1 57 2 w1.heap.size [.slice none 0 0, .int .i64 0] := by rw [← hv1]; exact Mem.Bx.new w1 57 #[.slice none 0 0, .int .i64 0] rfl rfl
    obtain ⟨rh, hrh⟩ : ∃ rh, w1.heap.size = rh := ⟨_, rfl⟩
    rw [hrh] at hBf
    have hbw : Below w.heap.size w v1 := HB1.out.trans (hbv.mono HB1.out.size)
    have hwg : w.heap.size ≤ rh := by rw [← hrh]; exact HB1.out.size
    have hDv := HD.out.below hbw
    have HBW := Lib.hid hbw
    have HWG := Lib.hid hwg
    have HDV := Lib.hid hDv
    have HBF := Lib.hid hBf
    have x9 : v1.cell? ⟨g, 0, none⟩ = some (.map (some b)) := hDv.B.cell (j := 0) rfl
    have HF0 : Hid (Dk.FAt v1 ⟨⟨n, [], 0⟩, rh, none, 0⟩) := ⟨hBf, Mem.Own.nil _ _ _, (fun k hk => by cases hk), Nat.le_refl _⟩
    have hlf : v1.heap.size = rh + 1 := by rw [← hv1, ← hrh]; exact Array.size_push _
    have HLF := Lib.hid hlf
    have hput : Mem.putL (rs.map ent) n (.pointer (some ⟨rh, 0, none⟩)) = (rs ++ [(⟨⟨n, [], 0⟩, rh, none, 0⟩ : FR)]).map ent := by
      unfold Mem.putL
      rw [look_find, HFR.out, if_neg (by simp), List.map_append]; rfl
    have HPUT := Lib.hid hput
    clear x0 hlk hlen hbv hBf hbw hwg hDv hlf hput d3 d4
    go_upto_region 8 with fail
    try rw [hv1]
    try rw [hrh]
    clear hv1 hrh
    go_upto_region 9 with (refine Mem.wpList_mapPut intKey Try.underlying51 b (rs.map ent) n (.pointer (some ⟨rh, 0, none⟩)) rfl rfl rfl HDV.out.M HN.out ?_; intro w2 hM2 hk2 hs2; rw [HPUT.out] at hM2; have HM2 := Lib.hid hM2; have HK2 := Lib.hid hk2; have HS2 := Lib.hid hs2; clear hM2 hk2 hs2)
    have hbrh : b ≠ rh := by have := HD.out.M.lt; have := HWG.out; omega
    have hf2 : Dk.FAt w2 ⟨⟨n, [], 0⟩, rh, none, 0⟩ := HF0.out.keeps HK2.out (fun k hk e => by
      rcases hk with hk | hk
      · exact hbrh (e.symm.trans hk)
      · cases hk)
    have hadd : DS w2 g b A c (rs ++ [(⟨⟨n, [], 0⟩, rh, none, 0⟩ : FR)]) lo := by
      have hS := HDV.out.S
      refine ⟨HDV.out.B.keeps HK2.out hS.gb, HM2.out, HDV.out.O.keeps HK2.out (fun k hb => (hS.a k hb).2), ?_, ⟨hS.gb, hS.a, ?_, ?_⟩⟩
      · intro q hqm
        rcases List.mem_append.1 hqm with hqm | hqm
        · exact (HDV.out.F q hqm).keeps HK2.out (fun k hf => (hS.f q hqm k hf).2.1)
        · rw [List.mem_singleton] at hqm; subst hqm; exact hf2
      · intro q hqm k hqk
        rcases List.mem_append.1 hqm with hqm | hqm
        · exact hS.f q hqm k hqk
        · rw [List.mem_singleton] at hqm; subst hqm
          rcases hqk with rfl | hqk
          · have h1 := HWG.out
            have h2 := HD.out.B.lt
            have h3 := HD.out.M.lt
            exact ⟨by omega, by omega, fun hb => by have := HD.out.O.lt hb; omega⟩
          · cases hqk
      · rw [List.pairwise_append]
        refine ⟨hS.p, List.pairwise_singleton _ _, ?_⟩
        intro q hqm s hs k h1 h2
        rw [List.mem_singleton] at hs; subst hs
        rcases h2 with rfl | h2
        · have := (HD.out.F q hqm).lt h1
          have := HWG.out
          omega
        · cases h2
    have hkw2 : Mem.Keeps (fpD g b A rs) w w2 := ((Mem.Keeps.of_below HBW.out).mono (T := fpD g b A rs) (fun _ h _ => h.elim)).trans HK2.out (fun k h _ => .inr (.inl h))
    have hfp2 : ∀ k, fpD g b A (rs ++ [(⟨⟨n, [], 0⟩, rh, none, 0⟩ : FR)]) k → fpD g b A rs k ∨ w.heap.size ≤ k := by
      rintro k (hk1 | hk1 | hk1 | ⟨q, hqm, hqk⟩)
      · exact .inl (.inl hk1)
      · exact .inl (.inr (.inl hk1))
      · exact .inl (.inr (.inr (.inl hk1)))
      · rcases List.mem_append.1 hqm with hqm | hqm
        · exact .inl (.inr (.inr (.inr ⟨q, hqm, hqk⟩)))
        · rw [List.mem_singleton] at hqm; subst hqm
          rcases hqk with rfl | hqk
          · exact .inr HWG.out
          · cases hqk
    have HRD : Hid (Mem.Rd w2 w2.heap.size X (bs.map Mem.byteV)) := HRDX.out.keepsAt hkw2 (Nat.le_refl _) HXX.out
    have HKW2 := Lib.hid hkw2
    have HFP2 := Lib.hid hfp2
    obtain ⟨rf, hrf⟩ : ∃ z : Fl, (⟨n, [], 0⟩ : Fl) = z := ⟨_, rfl⟩
    obtain ⟨rA, hrA⟩ : ∃ z : Option Addr, none = z := ⟨_, rfl⟩
    obtain ⟨rc, hrc⟩ : ∃ z : Nat, 0 = z := ⟨_, rfl⟩
    have HD2 : Hid (DS w2 g b A c (rs ++ (⟨rf, rh, rA, rc⟩ : FR) :: []) lo) := by show DS _ _ _ _ _ _ _; rw [← hrf, ← hrA, ← hrc]; exact hadd
    have HFP : Hid (∀ k, fpD g b A (rs ++ (⟨rf, rh, rA, rc⟩ : FR) :: []) k → fpD g b A rs k ∨ w.heap.size ≤ k) := by show ∀ k, _ → _; rw [← hrf, ← hrA, ← hrc]; exact hfp2
    have HRF := Lib.hid hrf
    have hrl : rf.bs.length ≤ 1000000000 := by rw [← hrf]; exact Nat.zero_le _
    clear hrf hrA hrc hadd hkw2 hfp2 hf2 hbrh x9 HFR HN HBW HWG HDV HBF HF0 HLF HPUT HM2 HK2 HS2 HFP2
    have hF : Dk.FAt w2 ⟨rf, rh, rA, rc⟩ := HD2.out.F _ (by simp)
    have y0 : w2.cell? ⟨rh, 0, none⟩ = some (.slice rA rf.bs.length rc) := hF.B.cell (j := 0) rfl
    have HFF := Lib.hid hF
    obtain ⟨l0, hl0⟩ : ∃ l0, rf.bs.length = l0 := ⟨_, rfl⟩
    have HL0 := Lib.hid hl0
    have hO0 : Mem.Own w2 5 1 rA l0 rc (rf.bs.map Mem.byteV) := by rw [← hl0]; exact hF.O
    have HO0 := Lib.hid hO0
    rw [hl0] at y0 hrl
    clear hF hO0 hl0
    go_upto_region 10 with (at_builtin; refine Mem.wpList_app _ rfl (.tmp 54) (.tmp 55) _ rfl bytes_elem rA l0 rc _ rfl w2.heap.size X bs.length cx (bs.map Mem.byteV) rfl ?_ HO0.out HRD.out (by simp) (Mem.bytes_one _) (by unfold maxLen; omega) (by omega); intro A3 c3 w3 hown hg2 hat; have hk3 := (Mem.Keeps.refl (fun q => Mem.blk rA = some q) w2).grown hg2 (fun k hk _ => hk); have hB3 := HFF.out.B.keeps hk3 (fun h => HFF.out.ne _ h rfl); have y3 := hB3.cell (j := 0) rfl; have yf3 := hB3.fr; have HB3 := Lib.hid hB3; have HK3 := Lib.hid hk3; have HO3 := Lib.hid hown; have HAT := Lib.hid hat; clear hown hg2 hat hk3 hB3)
    obtain ⟨w4, hw4⟩ : ∃ w4, w3.setCell ⟨rh, 0, none⟩ (.slice A3 (l0 + bs.length) c3) = w4 := ⟨_, rfl⟩
    have hA3 : ∀ k, Mem.blk A3 = some k → Mem.blk rA = some k ∨ w2.heap.size ≤ k := fun k hk => by
      rcases HAT.out with h | h
      · rw [h] at hk; exact .inl hk
      · rw [h] at hk
        have e9 : w2.heap.size = k := (by simpa [Mem.blk] using hk)
        exact .inr (by omega)
    have hne3 : ∀ k, Mem.blk A3 = some k → k ≠ rh := fun k hk e => by
      rcases hA3 k hk with h | h
      · exact HFF.out.ne k h e
      · have := HFF.out.B.lt; dsimp only at this; omega
    have hk34 : Mem.Keeps (fun q => q = rh) w3 w4 := by rw [← hw4]; exact (Mem.Keeps.refl (fun q => q = rh) w3).setCell (p := ⟨rh, 0, none⟩) (fun _ => rfl) _
    have hf4 : Dk.FAt w4 ⟨{ rf with bs := rf.bs ++ bs }, rh, A3, c3⟩ := by
      refine ⟨?_, ?_, hne3, ?_⟩
      · have h9 := HB3.out.set 0 (.slice A3 (l0 + bs.length) c3)
        rw [hw4] at h9
        show Mem.Bx _ _ _ _ [.slice A3 (rf.bs ++ bs).length c3, _]
        rw [List.length_append, show rf.bs.length = l0 from HL0.out]
        exact h9
      · show Mem.Own _ _ _ A3 (rf.bs ++ bs).length c3 ((rf.bs ++ bs).map Mem.byteV)
        rw [List.length_append, show rf.bs.length = l0 from HL0.out, List.map_append]
        exact HO3.out.keeps hk34 hne3
      · have := HFF.out.syn
        show rf.syn ≤ (rf.bs ++ bs).length
        rw [List.length_append]; dsimp only at this; omega
    have hk24 : Mem.Keeps (Dk.FR.fp ⟨rf, rh, rA, rc⟩) w2 w4 := (HK3.out.mono (T := Dk.FR.fp ⟨rf, rh, rA, rc⟩) (fun k h _ => .inr h)).trans hk34 (fun k h _ => .inl h)
    obtain ⟨e1, e2, e3⟩ := HD2.out.file (r' := ⟨{ rf with bs := rf.bs ++ bs }, rh, A3, c3⟩) rfl rfl hf4 hk24 (fun k hk => by
      rcases hk with hk | hk
      · exact .inl (.inl hk)
      · rcases hA3 k hk with h | h
        · exact .inl (.inr h)
        · exact .inr h)
    have HE1 := Lib.hid e1
    have HE2 := Lib.hid e2
    have HE3 := Lib.hid e3
    rw [hw4]
    have x1 : w4.cell? ⟨g, 1, none⟩ = some (.slice A lo.length c) := e1.B.cell (j := 1) rfl
    have HPR : Hid (Mem.Rd (w4.alloc (.cells #[.int .i64 n, .int .i64 bs.length] 59)) (w4.heap.size + 1) (some ⟨w4.heap.size, 0, none⟩) (Dk.pcs (n, bs.length))) := Mem.Rd.alloc_new w4 #[.int .i64 n, .int .i64 bs.length] 59 (0, 0) rfl
    have HKA : Hid (Mem.Keeps (fun q => Mem.blk A = some q) w4 (w4.alloc (.cells #[.int .i64 n, .int .i64 bs.length] 59))) := (Mem.Keeps.refl _ w4).alloc _
    have HBA : Hid (Mem.Bx (w4.alloc (.cells #[.int .i64 n, .int .i64 bs.length] 59)) 54 2 g [.map (some b), .slice A lo.length c]) := e1.B.keeps ((Mem.Keeps.refl (fun _ => False) w4).alloc _) id
    have HOA : Hid (Mem.Own (w4.alloc (.cells #[.int .i64 n, .int .i64 bs.length] 59)) 59 2 A lo.length c (lo.flatMap Dk.pcs)) := e1.O.alloc _
    have HP1 : Hid (∀ u ∈ Dk.pcs (n, bs.length), u.oneCell' = true) := by show ∀ u ∈ _, _; simp [Dk.pcs, Value.oneCell']
    have hps : ∀ k, Mem.blk A = some k → k ≠ g := fun k hk => (e1.S.a k hk).1
    have HPS := Lib.hid hps
    clear hA3 hne3 hk34 hf4 hk24 e1 e2 e3 hw4 y0 y3 yf3 HB3 HK3 HO3 HAT HO0 HFF HRD hps hrl HL0
    go_upto_region 11 with (first | (at_builtin; refine Mem.wpList_app _ rfl (.tmp 63) (.tmp 68) _ rfl disk_elem A lo.length c _ rfl (w4.heap.size + 1) (some ⟨w4.heap.size, 0, none⟩) 1 1 (Dk.pcs (n, bs.length)) rfl ?_ HOA.out HPR.out rfl HP1.out (by unfold maxLen; omega) (by omega); intro A5 c5 w5 hown hg2 hat; have hk5 := HKA.out.grown hg2 (fun k hk _ => hk); have hB5 := HBA.out.keeps ((Mem.Keeps.refl (fun q => Mem.blk A = some q) _).grown hg2 (fun k hk _ => hk)) (fun h => HPS.out _ h rfl); have y5 := hB5.cell (j := 1) rfl; have yf5 := hB5.fr; have HB5 := Lib.hid hB5; have HK5 := Lib.hid hk5; have HO5 := Lib.hid hown; have HAT5 := Lib.hid hat; clear hown hg2 hat hk5 hB5) | ((with_reducible refine Mem.build1_agg _ _ 2 _ Try.underlying52 Pc.zero (by decide) (by decide) (Dk.pcs (n, bs.length)) ?hra rfl ?_); (case hra => exact rfl)))
    have hsz : (w4.alloc (.cells #[.int .i64 n, .int .i64 bs.length] 59)).heap.size = w4.heap.size + 1 := Array.size_push _
    have hA5 : ∀ k, Mem.blk A5 = some k → Mem.blk A = some k ∨ w4.heap.size ≤ k := fun k hk => by
      rcases HAT5.out with h | h
      · rw [h] at hk; exact .inl hk
      · rw [h] at hk
        have e9 : (w4.alloc (.cells #[.int .i64 n, .int .i64 bs.length] 59)).heap.size = k := (by simpa [Mem.blk] using hk)
        exact .inr (by omega)
    have hne5 : ∀ k, Mem.blk A5 = some k → k ≠ g := fun k hk e => by
      rcases hA5 k hk with h | h
      · exact HPS.out k h e
      · have := HE1.out.B.lt; omega
    obtain ⟨w6, hw6⟩ : ∃ w6, w5.setCell ⟨g, 1, none⟩ (.slice A5 (lo.length + 1) c5) = w6 := ⟨_, rfl⟩
    have hk56 : Mem.Keeps (fun q => q = g) w5 w6 := by rw [← hw6]; exact (Mem.Keeps.refl (fun q => q = g) w5).setCell (p := ⟨g, 1, none⟩) (fun _ => rfl) _
    have hB6 : Mem.Bx w6 54 2 g [.map (some b), .slice A5 (lo ++ [(n, bs.length)]).length c5] := by
      have h9 := HB5.out.set 1 (.slice A5 (lo.length + 1) c5)
      rw [hw6] at h9
      rw [List.length_append]
      exact h9
    have hO6 : Mem.Own w6 59 2 A5 (lo ++ [(n, bs.length)]).length c5 ((lo ++ [(n, bs.length)]).flatMap Dk.pcs) := by
      rw [List.length_append, List.flatMap_append]
      have h9 := HO5.out.keeps hk56 hne5
      simpa using h9
    have hk46 : Mem.Keeps (fun k => k = g ∨ Mem.blk A = some k) w4 w6 := (HK5.out.mono (T := fun k => k = g ∨ Mem.blk A = some k) (fun k h _ => .inr h)).trans hk56 (fun k h _ => .inl h)
    obtain ⟨f1, f2, f3⟩ := HE1.out.loose hB6 hO6 hk46 hA5
    have HF1 := Lib.hid f1
    have HF2 := Lib.hid f2
    have HF3 := Lib.hid f3
    rw [hw6]
    clear hsz hA5 hne5 hw6 hk56 hB6 hO6 hk46 f1 f2 f3 x1 y5 yf5 HB5 HK5 HO5 HAT5 HPR HKA HBA HOA HP1 HPS
    go_wp2
    go_ret
    rw [HE.out, HDD.out]
    have hfs : (rs ++ (⟨{ rf with bs := rf.bs ++ bs }, rh, A3, c3⟩ : FR) :: []).map (·.f) = rs.map (·.f) ++ [⟨n, bs, 0⟩] := by
      rw [List.map_append]
      show _ ++ [{ rf with bs := rf.bs ++ bs }] = _
      rw [← HRF.out]; rfl
    refine ⟨rfl, ⟨_, HF1.out.at hfs, fun k hk => ?_⟩, ?_⟩
    · rcases HF3.out k hk with h1 | h1
      · rcases HE3.out k h1 with h2 | h2
        · exact HFP.out k h2
        · exact .inr (Nat.le_trans HKW2.out.size h2)
      · exact .inr (Nat.le_trans (HKW2.out.trans HE2.out (fun k hk hlt => by rcases HFP.out k hk with h | h; exact h; omega)).size h1)
    · refine (HKW2.out.trans HE2.out (fun k hk hlt => ?_)).trans HF2.out (fun k hk hlt => ?_)
      · rcases HFP.out k hk with h | h
        · exact h
        · omega
      · rcases HE3.out k hk with h2 | h2
        · rcases HFP.out k h2 with h | h
          · exact h
          · omega
        · have := HKW2.out.size; omega
  | some r =>
    have HFN : Hid (findF (rs.map (·.f)) n = some r.f) := by show _ = _; rw [find_fs, hf]; rfl
    obtain ⟨pre, post, rfl, hrn, _⟩ := find_split hf
    rw [hf] at hlk
    unfold ptrV at hlk
    clear hf
    by_cases hov : 1048576 < us + bs.length
    · have he : appE ⟨(pre ++ r :: post).map (·.f), lo⟩ n bs = 51 := by rw [HE0.out, if_pos (.inr hov)]
      have HE := Lib.hid he
      have d4 : decide ((1048576 : Int) < (us : Int) + (bs.length : Int)) = true := by simp; omega
      clear he hov
      go_enter Try.func11, Try.ntmps11
      go_wp2_with (go_at_call 19; refine HU.out.mono ?_; rintro x1 w1 ⟨rfl, hb1⟩; have HB1 := Lib.hid hb1; clear hb1 HU)
      go_ret
      exact STAY.out 51 w1 HE.out (by decide) HB1.out
    have d4 : decide ((1048576 : Int) < (us : Int) + (bs.length : Int)) = false := by simp; omega
    have he : appE ⟨(pre ++ r :: post).map (·.f), lo⟩ n bs = 0 := by
      rw [HE0.out, if_neg (fun h => by
        rcases h with h | h
        · have := h.1; rw [HFN.out] at this; cases this
        · exact hov h)]
    have hd : appD ⟨(pre ++ r :: post).map (·.f), lo⟩ n bs = ⟨updF n (fun f => { f with bs := f.bs ++ bs }) ((pre ++ r :: post).map (·.f)), lo ++ [(n, bs.length)]⟩ := by unfold appD; rw [he, if_neg (by decide), HFN.out]
    have HE := Lib.hid he
    have HDD := Lib.hid hd
    have hrl : r.f.bs.length ≤ 1000000000 := by
      have h1 := HUS.out
      rw [used_app] at h1
      have : usedR (r :: post) = r.f.bs.length + usedR post := rfl
      omega
    have HND := Lib.hid hnd
    have HRN := Lib.hid hrn
    clear he hd hov hnd hrn
    obtain ⟨rf, rh, rA, rc⟩ := r
    dsimp only at hlk hrl
    go_enter Try.func11, Try.ntmps11
    go_upto_region 9 with (go_at_call 19; refine HU.out.mono ?_; rintro x1 w2 ⟨rfl, hb1⟩; have HB1 := Lib.hid hb1; clear hb1 HU)
    have HD2 : Hid (DS w2 g b A c (pre ++ (⟨rf, rh, rA, rc⟩ : FR) :: post) lo) := HD.out.below HB1.out
    have HRD : Hid (Mem.Rd w2 w2.heap.size X (bs.map Mem.byteV)) := (HRDX.out.below HB1.out).more HB1.out.size
    have HKW2 : Hid (Mem.Keeps (fpD g b A (pre ++ (⟨rf, rh, rA, rc⟩ : FR) :: post)) w w2) := (Mem.Keeps.of_below HB1.out).mono (fun _ h _ => h.elim)
    clear x0 hlk hlen d4 d1 d2 HN
    have hF : Dk.FAt w2 ⟨rf, rh, rA, rc⟩ := HD2.out.F _ (by simp)
    have y0 : w2.cell? ⟨rh, 0, none⟩ = some (.slice rA rf.bs.length rc) := hF.B.cell (j := 0) rfl
    have HFF := Lib.hid hF
    obtain ⟨l0, hl0⟩ : ∃ l0, rf.bs.length = l0 := ⟨_, rfl⟩
    have HL0 := Lib.hid hl0
    have hO0 : Mem.Own w2 5 1 rA l0 rc (rf.bs.map Mem.byteV) := by rw [← hl0]; exact hF.O
    have HO0 := Lib.hid hO0
    rw [hl0] at y0 hrl
    clear hF hO0 hl0
    go_upto_region 10 with (at_builtin; refine Mem.wpList_app _ rfl (.tmp 54) (.tmp 55) _ rfl bytes_elem rA l0 rc _ rfl w2.heap.size X bs.length cx (bs.map Mem.byteV) rfl ?_ HO0.out HRD.out (by simp) (Mem.bytes_one _) (by unfold maxLen; omega) (by omega); intro A3 c3 w3 hown hg2 hat; have hk3 := (Mem.Keeps.refl (fun q => Mem.blk rA = some q) w2).grown hg2 (fun k hk _ => hk); have hB3 := HFF.out.B.keeps hk3 (fun h => HFF.out.ne _ h rfl); have y3 := hB3.cell (j := 0) rfl; have yf3 := hB3.fr; have HB3 := Lib.hid hB3; have HK3 := Lib.hid hk3; have HO3 := Lib.hid hown; have HAT := Lib.hid hat; clear hown hg2 hat hk3 hB3)
    obtain ⟨w4, hw4⟩ : ∃ w4, w3.setCell ⟨rh, 0, none⟩ (.slice A3 (l0 + bs.length) c3) = w4 := ⟨_, rfl⟩
    have hA3 : ∀ k, Mem.blk A3 = some k → Mem.blk rA = some k ∨ w2.heap.size ≤ k := fun k hk => by
      rcases HAT.out with h | h
      · rw [h] at hk; exact .inl hk
      · rw [h] at hk
        have e9 : w2.heap.size = k := (by simpa [Mem.blk] using hk)
        exact .inr (by omega)
    have hne3 : ∀ k, Mem.blk A3 = some k → k ≠ rh := fun k hk e => by
      rcases hA3 k hk with h | h
      · exact HFF.out.ne k h e
      · have := HFF.out.B.lt; dsimp only at this; omega
    have hk34 : Mem.Keeps (fun q => q = rh) w3 w4 := by rw [← hw4]; exact (Mem.Keeps.refl (fun q => q = rh) w3).setCell (p := ⟨rh, 0, none⟩) (fun _ => rfl) _
    have hf4 : Dk.FAt w4 ⟨{ rf with bs := rf.bs ++ bs }, rh, A3, c3⟩ := by
      refine ⟨?_, ?_, hne3, ?_⟩
      · have h9 := HB3.out.set 0 (.slice A3 (l0 + bs.length) c3)
        rw [hw4] at h9
        show Mem.Bx _ _ _ _ [.slice A3 (rf.bs ++ bs).length c3, _]
        rw [List.length_append, show rf.bs.length = l0 from HL0.out]
        exact h9
      · show Mem.Own _ _ _ A3 (rf.bs ++ bs).length c3 ((rf.bs ++ bs).map Mem.byteV)
        rw [List.length_append, show rf.bs.length = l0 from HL0.out, List.map_append]
        exact HO3.out.keeps hk34 hne3
      · have := HFF.out.syn
        show rf.syn ≤ (rf.bs ++ bs).length
        rw [List.length_append]; dsimp only at this; omega
    have hk24 : Mem.Keeps (Dk.FR.fp ⟨rf, rh, rA, rc⟩) w2 w4 := (HK3.out.mono (T := Dk.FR.fp ⟨rf, rh, rA, rc⟩) (fun k h _ => .inr h)).trans hk34 (fun k h _ => .inl h)
    obtain ⟨e1, e2, e3⟩ := HD2.out.file (r' := ⟨{ rf with bs := rf.bs ++ bs }, rh, A3, c3⟩) rfl rfl hf4 hk24 (fun k hk => by
      rcases hk with hk | hk
      · exact .inl (.inl hk)
      · rcases hA3 k hk with h | h
        · exact .inl (.inr h)
        · exact .inr h)
    have HE1 := Lib.hid e1
    have HE2 := Lib.hid e2
    have HE3 := Lib.hid e3
    rw [hw4]
    have x1 : w4.cell? ⟨g, 1, none⟩ = some (.slice A lo.length c) := e1.B.cell (j := 1) rfl
    have HPR : Hid (Mem.Rd (w4.alloc (.cells #[.int .i64 n, .int .i64 bs.length] 59)) (w4.heap.size + 1) (some ⟨w4.heap.size, 0, none⟩) (Dk.pcs (n, bs.length))) := Mem.Rd.alloc_new w4 #[.int .i64 n, .int .i64 bs.length] 59 (0, 0) rfl
    have HKA : Hid (Mem.Keeps (fun q => Mem.blk A = some q) w4 (w4.alloc (.cells #[.int .i64 n, .int .i64 bs.length] 59))) := (Mem.Keeps.refl _ w4).alloc _
    have HBA : Hid (Mem.Bx (w4.alloc (.cells #[.int .i64 n, .int .i64 bs.length] 59)) 54 2 g [.map (some b), .slice A lo.length c]) := e1.B.keeps ((Mem.Keeps.refl (fun _ => False) w4).alloc _) id
    have HOA : Hid (Mem.Own (w4.alloc (.cells #[.int .i64 n, .int .i64 bs.length] 59)) 59 2 A lo.length c (lo.flatMap Dk.pcs)) := e1.O.alloc _
    have HP1 : Hid (∀ u ∈ Dk.pcs (n, bs.length), u.oneCell' = true) := by show ∀ u ∈ _, _; simp [Dk.pcs, Value.oneCell']
    have hps : ∀ k, Mem.blk A = some k → k ≠ g := fun k hk => (e1.S.a k hk).1
    have HPS := Lib.hid hps
    clear hA3 hne3 hk34 hf4 hk24 e1 e2 e3 hw4 y0 y3 yf3 HB3 HK3 HO3 HAT HO0 HFF HRD hps hrl HL0
    go_upto_region 11 with (first | (at_builtin; refine Mem.wpList_app _ rfl (.tmp 63) (.tmp 68) _ rfl disk_elem A lo.length c _ rfl (w4.heap.size + 1) (some ⟨w4.heap.size, 0, none⟩) 1 1 (Dk.pcs (n, bs.length)) rfl ?_ HOA.out HPR.out rfl HP1.out (by unfold maxLen; omega) (by omega); intro A5 c5 w5 hown hg2 hat; have hk5 := HKA.out.grown hg2 (fun k hk _ => hk); have hB5 := HBA.out.keeps ((Mem.Keeps.refl (fun q => Mem.blk A = some q) _).grown hg2 (fun k hk _ => hk)) (fun h => HPS.out _ h rfl); have y5 := hB5.cell (j := 1) rfl; have yf5 := hB5.fr; have HB5 := Lib.hid hB5; have HK5 := Lib.hid hk5; have HO5 := Lib.hid hown; have HAT5 := Lib.hid hat; clear hown hg2 hat hk5 hB5) | ((with_reducible refine Mem.build1_agg _ _ 2 _ Try.underlying52 Pc.zero (by decide) (by decide) (Dk.pcs (n, bs.length)) ?hra rfl ?_); (case hra => exact rfl)))
    have hsz : (w4.alloc (.cells #[.int .i64 n, .int .i64 bs.length] 59)).heap.size = w4.heap.size + 1 := Array.size_push _
    have hA5 : ∀ k, Mem.blk A5 = some k → Mem.blk A = some k ∨ w4.heap.size ≤ k := fun k hk => by
      rcases HAT5.out with h | h
      · rw [h] at hk; exact .inl hk
      · rw [h] at hk
        have e9 : (w4.alloc (.cells #[.int .i64 n, .int .i64 bs.length] 59)).heap.size = k := (by simpa [Mem.blk] using hk)
        exact .inr (by omega)
    have hne5 : ∀ k, Mem.blk A5 = some k → k ≠ g := fun k hk e => by
      rcases hA5 k hk with h | h
      · exact HPS.out k h e
      · have := HE1.out.B.lt; omega
    obtain ⟨w6, hw6⟩ : ∃ w6, w5.setCell ⟨g, 1, none⟩ (.slice A5 (lo.length + 1) c5) = w6 := ⟨_, rfl⟩
    have hk56 : Mem.Keeps (fun q => q = g) w5 w6 := by rw [← hw6]; exact (Mem.Keeps.refl (fun q => q = g) w5).setCell (p := ⟨g, 1, none⟩) (fun _ => rfl) _
    have hB6 : Mem.Bx w6 54 2 g [.map (some b), .slice A5 (lo ++ [(n, bs.length)]).length c5] := by
      have h9 := HB5.out.set 1 (.slice A5 (lo.length + 1) c5)
      rw [hw6] at h9
      rw [List.length_append]
      exact h9
    have hO6 : Mem.Own w6 59 2 A5 (lo ++ [(n, bs.length)]).length c5 ((lo ++ [(n, bs.length)]).flatMap Dk.pcs) := by
      rw [List.length_append, List.flatMap_append]
      have h9 := HO5.out.keeps hk56 hne5
      simpa using h9
    have hk46 : Mem.Keeps (fun k => k = g ∨ Mem.blk A = some k) w4 w6 := (HK5.out.mono (T := fun k => k = g ∨ Mem.blk A = some k) (fun k h _ => .inr h)).trans hk56 (fun k h _ => .inl h)
    obtain ⟨f1, f2, f3⟩ := HE1.out.loose hB6 hO6 hk46 hA5
    have HF1 := Lib.hid f1
    have HF2 := Lib.hid f2
    have HF3 := Lib.hid f3
    rw [hw6]
    clear hsz hA5 hne5 hw6 hk56 hB6 hO6 hk46 f1 f2 f3 x1 y5 yf5 HB5 HK5 HO5 HAT5 HPR HKA HBA HOA HP1 HPS
    go_wp2
    go_ret
    rw [HE.out, HDD.out]
    have hfs := upd_split (pre := pre) (post := post) (r := ⟨rf, rh, rA, rc⟩) (r' := ⟨{ rf with bs := rf.bs ++ bs }, rh, A3, c3⟩) (F := fun f => { f with bs := f.bs ++ bs }) HRN.out HND.out rfl
    refine ⟨rfl, ⟨_, HF1.out.at hfs, fun k hk => ?_⟩, ?_⟩
    · rcases HF3.out k hk with h1 | h1
      · rcases HE3.out k h1 with h2 | h2
        · exact .inl h2
        · exact .inr (Nat.le_trans HKW2.out.size h2)
      · exact .inr (Nat.le_trans (HKW2.out.trans HE2.out (fun k hk hlt => hk)).size h1)
    · refine (HKW2.out.trans HE2.out (fun k hk hlt => hk)).trans HF2.out (fun k hk hlt => ?_)
      rcases HE3.out k hk with h2 | h2
      · exact h2
      · have := HKW2.out.size; omega
end Go.Proofs.Ytfpfpdhfnleebaa
