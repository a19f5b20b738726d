/- The walk of DiskLimits: never more than 64 files, nor more than 2^20 bytes; what is refused turns nothing; what is removed makes room. No conditions. -/
import Derived.Test.YtfpfpdhfnleebaaDisk12
set_option maxRecDepth 8000
namespace Go.Proofs.Ytfpfpdhfnleebaa
open Go.ChangeShapes Go.WideShapes Go.ChangeAt Go.RowKit
set_option linter.unusedVariables false
set_option linter.unusedSimpArgs false
namespace Dk
theorem open_intsR {H : Type} {enc : TypeId × Value → H} {W : World} {base : Nat} {v : Value} {d : DataW H} {p : List MemPlace} (o : Value.okWide Try.prog W .any base 33 v) (k : DataW.Trod enc Try.prog W 0 (fun _ => true) true 33 v d p) :
    ∃ A c, ∃ zs : List Int, v = .slice A zs.length c ∧ zs.length ≤ c ∧ c ≤ maxLen ∧ Mem.Rd W W.heap.size A (zs.map (Value.int .i64)) := by
  obtain ⟨a0, len0, cap0, rfl⟩ := okWide_slice Try.underlying33 o
  obtain ⟨fuel, hf⟩ := k
  rcases open_ints Try.underlying33 Try.underlying3 (by kernel_rfl) hf with ⟨hcs, _⟩ | ⟨x, l, c, zs, hcs, _, hl, hm, hz, _, hcell, hwz⟩
  · simp [Value.cells] at hcs
    obtain ⟨rfl, rfl, rfl⟩ := hcs
    exact ⟨none, 0, [], rfl, by simp, by simp [maxLen], .inl rfl⟩
  · simp [Value.cells] at hcs
    obtain ⟨rfl, rfl, rfl⟩ := hcs
    have hzl : zs.length = cap0 := by simpa using hz
    have hlen : (zs.take len0).length = len0 := by simp; omega
    refine ⟨some x, cap0, zs.take len0, by rw [hlen], by omega, hm, ?_⟩
    by_cases h0 : len0 = 0
    · subst h0; exact .inl rfl
    · obtain ⟨b, off, spot⟩ := x
      have hc0 := hcell 0 (by omega)
      have hspot : spot = none := by simpa [Addr.add] using World.cell?_spot hc0
      subst hspot
      refine .inr ⟨b, off, rfl, by simpa [Addr.add] using World.block_lt_of_cell? W _ hc0, fun j u hu => ?_⟩
      simp only [List.getElem?_map, Option.map_eq_some_iff] at hu
      obtain ⟨z, hz1, rfl⟩ := hu
      rw [List.getElem?_take] at hz1
      split at hz1
      · have hj2 : j < zs.length := (List.getElem?_eq_some_iff.1 hz1).1
        have hc := hcell j hj2
        rw [Mem.add_flat] at hc
        rw [hc, List.getD_eq_getElem?_getD, hz1]
        rfl
      · cases hz1
end Dk
namespace diskLimitsOpen
open Dk
set_option maxHeartbeats 8000000 in
theorem walk (A : Option Addr) (c : Nat) (xs : List Int) (w : World) (hr : Mem.Rd w w.heap.size A (xs.map (Value.int .i64))) (hl : xs.length ≤ 9223372036854775807) :
    Calls Try.prog 8 #[.slice A xs.length c] w fun e w' => e = .returned (.bool true) ∧ Below w.heap.size w w' := by
  have hr0 := Lib.hid hr
  clear hr
  have HN : Hid (∀ w1 : World, Calls Try.prog 10 #[] w1 fun x w' => ∃ g, x = .returned (.pointer (some ⟨g, 0, none⟩)) ∧ Ds w1 (fun _ => False) ([] ++ [(g, ⟨[], []⟩)]) w' ∧ Below w1.heap.size w1 w') := fun w1 => new_m (Mem.Many.none DAt w1)
  go_enter Try.func8, Try.ntmps8
  by_cases hlen : 100 < xs.length
  · have d1 : decide ((100 : Int) < (xs.length : Int)) = true := by simp; omega
    go_wp2_with (go_at_call 9; refine (diskAble_any _).mono ?_; rintro e w1 ⟨rfl, hb1⟩)
    go_ret
    exact ⟨rfl, hb1⟩
  · have d1 : decide ((100 : Int) < (xs.length : Int)) = false := by simp; omega
    go_wp2_with (first | (go_at_call 9; refine (diskAble_any _).mono ?_; rintro e w1 ⟨rfl, hb1⟩; have HB1 := Lib.hid hb1; clear hb1) | (go_at_call 10; (refine (HN.out w1).mono ?_); rintro x w2 ⟨g, rfl, h1, _⟩; rw [List.nil_append] at h1; have HM2 := Lib.hid h1; clear h1 HN))
    go_loopw [4, 5, 6] (LRel w1 g xs.length) (fun _ _ t _ => xs.length - (intOf t).toNat)
    case atStart => exact ⟨⟨0, 0, 0, _, by omega, rfl, rfl, rfl, Lib.hid Lim.nil, HM2⟩⟩
    case round =>
      obtain ⟨k, used, files, d, hk, rfl, rfl, rfl, HL, HM⟩ := hrel.out
      clear hrel
      by_cases hlt : k < xs.length
      · obtain ⟨x, hx⟩ : ∃ x, xs[k]? = some x := ⟨_, List.getElem?_eq_getElem hlt⟩
        obtain ⟨b, o, rfl, hb, hc⟩ := ((hr0.out.below HB1.out).below (HM.out.bel.mono HB1.out.size)).at (k := k) (by simpa using hlt)
        have y0 : wr.cell? ⟨b, o + k, none⟩ = some (.int .i64 x) := by rw [hc]; simp [(List.getElem?_eq_some_iff.1 hx).2]
        have dlt : decide ((k : Int) < (xs.length : Int)) = true := by simp; omega
        obtain ⟨m, hm, hm2⟩ := low18 x

        have hmk := run_mk m hm
        have hk100 : k ≤ 100 := by omega
        have hk101 : k + 1 ≤ 100 := by omega
        have hu : used ≤ 1048576 := by rw [← HL.out.used]; exact HL.out.ok.used
        have hfi : files ≤ 64 := by rw [← HL.out.files]; exact HL.out.ok.cnt
        have HX1 := Lib.hid (append_m (HM.out.more stands (Reg.below_new (w := wr) (.cells (madeCells #[.int .u8 0] m) 5)) (R' := fun q => q = wr.heap.size) (fun q hq => by subst hq; simp)) (i := 0) rfl HL.out.ok (by omega) (n := (k : Int)) (by unfold okI; omega) (X := some ⟨wr.heap.size, 0, none⟩) (bs := List.replicate m 0) (cx := m)
          (by have h9 : Mem.Rd (wr.alloc (.cells (madeCells #[.int .u8 0] m) 5)) (wr.heap.size + 1) (some ⟨wr.heap.size, 0, none⟩) (madeCells #[.int .u8 0] m).toList := Mem.Rd.alloc_new _ _ _ _ rfl; replace h9 := h9.more (B' := (wr.alloc (.cells (madeCells #[.int .u8 0] m) 5)).heap.size) (by simp); rw [toList_madeCells_one] at h9; rw [List.map_replicate]; exact h9) (fun q hq => by cases hq; exact .inr (.inr rfl)) (by rw [List.length_replicate]; omega))
        rw [List.length_replicate] at HX1
        clear hx hc
        skip
        by_cases hfit : files < 64 ∧ used + m ≤ 1048576
        · obtain ⟨he, hlim⟩ := HL.out.yes hk100 hfit
          rw [he] at HX1
          have d7 : decide ((files : Int) < 64) = true := by simp; omega
          have d8 : decide ((used : Int) + (m : Int) ≤ 1048576) = true := by simp; omega
          clear he
          go_upto_region 18 with (go_at_call 11; (refine HX1.out.mono ?_); rintro x w8 ⟨rfl, h8, _⟩; have HM8 := Lib.hid (h8.less (R' := fun _ => False) (fun _ h => h.elim)); clear h8 HX1 HM)
          simp only [List.set_cons_zero] at HM8
          obtain ⟨uu, huu⟩ : ∃ uu, used + m = uu := ⟨_, rfl⟩
          obtain ⟨ff, hff⟩ : ∃ ff, files + 1 = ff := ⟨_, rfl⟩
          rw [huu, hff] at hlim
          have hu1 : ((used : Int) + (m : Int)) = (uu : Int) := by omega
          have hf1 : ((files : Int) + 1) = (ff : Int) := by omega
          try rw [hu1]
          try rw [hf1]
          clear huu hff hu1 hf1
          have HLM := Lib.hid hlim
          have hfl : (filesD (appD d k (List.replicate m 0))).length = ff := by unfold filesD; rw [sortI_len, List.length_map]; exact hlim.files
          have HFL := Lib.hid hfl
          have HXU := Lib.hid (used_m HM8.out (i := 0) rfl hlim.ok)
          rw [hlim.used] at HXU
          have hub : uu ≤ 1048576 := by rw [← hlim.used]; exact hlim.ok.used
          have hfb : ff ≤ 64 := by rw [← hlim.files]; exact hlim.ok.cnt
          obtain ⟨dn, hdn⟩ : ∃ dn, appD d k (List.replicate m 0) = dn := ⟨_, rfl⟩
          rw [hdn] at HM8 HLM HFL
          clear hlim hfl hdn
          go_upto_region 20 with (first | (go_at_call 19; (refine HXU.out.mono ?_); rintro x w12 ⟨rfl, hb⟩; have HM12 := Lib.hid (HM8.out.below stands hb); have HXF := Lib.hid (files_m HM12.out (i := 0) rfl HLM.out.ok); clear hb HXU HM8) | (go_at_call 15; (refine HXF.out.mono ?_); rintro x w13 ⟨A3, c3, rfl, _, _, hb⟩; have HM13 := Lib.hid (HM12.out.below stands hb); have HXL := Lib.hid (loose_m HM13.out (i := 0) rfl HLM.out.ok); rw [HLM.out.loose] at HXL; rw [HFL.out]; clear hb HXF HM12) | (go_at_call 18; (refine HXL.out.mono ?_); rintro x w14 ⟨rfl, hb⟩; have HM14 := Lib.hid (HM13.out.below stands hb); clear hb HXL HM13))
          have HXF := Lib.hid (files_m HM14.out (i := 0) rfl HLM.out.ok)
          obtain ⟨r5, hrem⟩ : ∃ r5 : Nat, Int.tmod (k : Int) 5 = (r5 : Int) := ⟨k % 5, rfl⟩
          by_cases h4 : r5 = 4
          · subst h4
            by_cases hf0 : 0 < ff
            · have d3 : decide ((0 : Int) < (ff : Int)) = true := by simp; omega
              obtain ⟨x0, m0, g1, g2, g3, g4, g5, g6⟩ := HLM.out.first hf0 hk101
              have HG1 := Lib.hid g1
              have HG6 := Lib.hid g6
              have hx0 : okI x0 := by unfold okI; omega
              clear g1 g6
              go_upto_region 21 with (go_at_call 15; (refine HXF.out.mono ?_); rintro x w15 ⟨A3, c3, rfl, _, _, hb⟩; have HM15 := Lib.hid (HM14.out.below stands hb); rw [HFL.out]; clear hb HXF HM14)
              have HXF := Lib.hid (files_m HM15.out (i := 0) rfl HLM.out.ok)
              go_upto_region 22 with (go_at_call 15; (refine HXF.out.mono ?_); rintro x w16 ⟨A4, c4, rfl, h1, _, hb⟩; have HM16 := Lib.hid (HM15.out.below stands hb); rw [HFL.out] at h1 ⊢; obtain ⟨b4, o4, rfl⟩ := h1.form hf0; have y0 : w16.cell? ⟨b4, o4, none⟩ = some (.int .i64 x0) := h1.cell (j := 0) (by rw [List.getElem?_map, HG1.out]; rfl); clear h1 hb HXF HM15)
              have HXS := Lib.hid (size_m HM16.out (i := 0) rfl hx0)
              rw [g4] at HXS
              go_upto_region 24 with (go_at_call 25; (refine HXS.out.mono ?_); rintro x w17 ⟨rfl, rfl⟩; clear HXS)
              have HXR := Lib.hid (remove_m HM16.out (i := 0) rfl HLM.out.ok (by omega) hx0)
              go_wp2_with (go_at_call 26; (refine HXR.out.mono ?_); rintro x w18 ⟨rfl, h1, _⟩; have HM18 := Lib.hid h1; clear h1 HXR HM16)
              go_roundw
              case rel => exact ⟨⟨k + 1, uu - m0, ff - 1, _, by omega, by rw [show ((uu - m0 : Nat) : Int) = (uu : Int) - (m0 : Int) by omega], by rw [show ((ff - 1 : Nat) : Int) = (ff : Int) - 1 by omega], by go_num, HG6, HM18⟩⟩
              case measure => simp [intOf]; omega
            · obtain rfl : ff = 0 := by omega
              go_wp2_with (go_at_call 15; (refine HXF.out.mono ?_); rintro x w15 ⟨A3, c3, rfl, _, _, hb⟩; have HM15 := Lib.hid (HM14.out.below stands hb); rw [HFL.out]; clear hb HXF HM14)
              go_roundw
              case rel => exact ⟨⟨k + 1, uu, 0, _, by omega, rfl, rfl, by go_num, HLM, HM15⟩⟩
              case measure => simp [intOf]; omega
          · have d4 : decide ((r5 : Int) = 4) = false := by simp; omega
            have d5 : ((r5 : Int) == 4) = false := by simp; omega
            go_wp2
            go_roundw
            case rel => exact ⟨⟨k + 1, uu, ff, _, by omega, rfl, rfl, by go_num, HLM, HM14⟩⟩
            case measure => simp [intOf]; omega
        · obtain ⟨he, hlim⟩ := HL.out.not hk100 hfit
          rw [he] at HX1
          clear he
          obtain ⟨uu, huu⟩ : ∃ uu, used = uu := ⟨_, rfl⟩
          obtain ⟨ff, hff⟩ : ∃ ff, files = ff := ⟨_, rfl⟩
          by_cases h7 : files < 64
          · have d7 : decide ((files : Int) < 64) = true := by simp; omega
            have d8 : decide ((used : Int) + (m : Int) ≤ 1048576) = false := by simp; omega
            go_upto_region 18 with (go_at_call 11; (refine HX1.out.mono ?_); rintro x w8 ⟨rfl, h8, _⟩; have HM8 := Lib.hid (h8.less (R' := fun _ => False) (fun _ h => h.elim)); clear h8 HX1 HM)
            simp only [List.set_cons_zero] at HM8
            clear d7 d8
            subst huu hff
            have HLM := Lib.hid hlim
            have hfl : (filesD (appD d k (List.replicate m 0))).length = files := by unfold filesD; rw [sortI_len, List.length_map]; exact hlim.files
            have HFL := Lib.hid hfl
            have HXU := Lib.hid (used_m HM8.out (i := 0) rfl hlim.ok)
            rw [hlim.used] at HXU
            have hub : used ≤ 1048576 := by rw [← hlim.used]; exact hlim.ok.used
            have hfb : files ≤ 64 := by rw [← hlim.files]; exact hlim.ok.cnt
            obtain ⟨dn, hdn⟩ : ∃ dn, appD d k (List.replicate m 0) = dn := ⟨_, rfl⟩
            rw [hdn] at HM8 HLM HFL
            clear hlim hfl hdn
            go_upto_region 20 with (first | (go_at_call 19; (refine HXU.out.mono ?_); rintro x w12 ⟨rfl, hb⟩; have HM12 := Lib.hid (HM8.out.below stands hb); have HXF := Lib.hid (files_m HM12.out (i := 0) rfl HLM.out.ok); clear hb HXU HM8) | (go_at_call 15; (refine HXF.out.mono ?_); rintro x w13 ⟨A3, c3, rfl, _, _, hb⟩; have HM13 := Lib.hid (HM12.out.below stands hb); have HXL := Lib.hid (loose_m HM13.out (i := 0) rfl HLM.out.ok); rw [HLM.out.loose] at HXL; rw [HFL.out]; clear hb HXF HM12) | (go_at_call 18; (refine HXL.out.mono ?_); rintro x w14 ⟨rfl, hb⟩; have HM14 := Lib.hid (HM13.out.below stands hb); clear hb HXL HM13))
            have HXF := Lib.hid (files_m HM14.out (i := 0) rfl HLM.out.ok)
            obtain ⟨r5, hrem⟩ : ∃ r5 : Nat, Int.tmod (k : Int) 5 = (r5 : Int) := ⟨k % 5, rfl⟩
            by_cases h4 : r5 = 4
            · subst h4
              by_cases hf0 : 0 < files
              · have d3 : decide ((0 : Int) < (files : Int)) = true := by simp; omega
                obtain ⟨x0, m0, g1, g2, g3, g4, g5, g6⟩ := HLM.out.first hf0 hk101
                have HG1 := Lib.hid g1
                have HG6 := Lib.hid g6
                have hx0 : okI x0 := by unfold okI; omega
                clear g1 g6
                go_upto_region 21 with (go_at_call 15; (refine HXF.out.mono ?_); rintro x w15 ⟨A3, c3, rfl, _, _, hb⟩; have HM15 := Lib.hid (HM14.out.below stands hb); rw [HFL.out]; clear hb HXF HM14)
                have HXF := Lib.hid (files_m HM15.out (i := 0) rfl HLM.out.ok)
                go_upto_region 22 with (go_at_call 15; (refine HXF.out.mono ?_); rintro x w16 ⟨A4, c4, rfl, h1, _, hb⟩; have HM16 := Lib.hid (HM15.out.below stands hb); rw [HFL.out] at h1 ⊢; obtain ⟨b4, o4, rfl⟩ := h1.form hf0; have y0 : w16.cell? ⟨b4, o4, none⟩ = some (.int .i64 x0) := h1.cell (j := 0) (by rw [List.getElem?_map, HG1.out]; rfl); clear h1 hb HXF HM15)
                have HXS := Lib.hid (size_m HM16.out (i := 0) rfl hx0)
                rw [g4] at HXS
                go_upto_region 24 with (go_at_call 25; (refine HXS.out.mono ?_); rintro x w17 ⟨rfl, rfl⟩; clear HXS)
                have HXR := Lib.hid (remove_m HM16.out (i := 0) rfl HLM.out.ok (by omega) hx0)
                go_wp2_with (go_at_call 26; (refine HXR.out.mono ?_); rintro x w18 ⟨rfl, h1, _⟩; have HM18 := Lib.hid h1; clear h1 HXR HM16)
                go_roundw
                case rel => exact ⟨⟨k + 1, used - m0, files - 1, _, by omega, by rw [show ((used - m0 : Nat) : Int) = (used : Int) - (m0 : Int) by omega], by rw [show ((files - 1 : Nat) : Int) = (files : Int) - 1 by omega], by go_num, HG6, HM18⟩⟩
                case measure => simp [intOf]; omega
              · obtain rfl : files = 0 := by omega
                go_wp2_with (go_at_call 15; (refine HXF.out.mono ?_); rintro x w15 ⟨A3, c3, rfl, _, _, hb⟩; have HM15 := Lib.hid (HM14.out.below stands hb); rw [HFL.out]; clear hb HXF HM14)
                go_roundw
                case rel => exact ⟨⟨k + 1, used, 0, _, by omega, rfl, rfl, by go_num, HLM, HM15⟩⟩
                case measure => simp [intOf]; omega
            · have d4 : decide ((r5 : Int) = 4) = false := by simp; omega
              have d5 : ((r5 : Int) == 4) = false := by simp; omega
              go_wp2
              go_roundw
              case rel => exact ⟨⟨k + 1, used, files, _, by omega, rfl, rfl, by go_num, HLM, HM14⟩⟩
              case measure => simp [intOf]; omega
          · have d7 : decide ((files : Int) < 64) = false := by simp; omega
            go_upto_region 18 with (go_at_call 11; (refine HX1.out.mono ?_); rintro x w8 ⟨rfl, h8, _⟩; have HM8 := Lib.hid (h8.less (R' := fun _ => False) (fun _ h => h.elim)); clear h8 HX1 HM)
            simp only [List.set_cons_zero] at HM8
            clear d7
            subst huu hff
            have HLM := Lib.hid hlim
            have hfl : (filesD (appD d k (List.replicate m 0))).length = files := by unfold filesD; rw [sortI_len, List.length_map]; exact hlim.files
            have HFL := Lib.hid hfl
            have HXU := Lib.hid (used_m HM8.out (i := 0) rfl hlim.ok)
            rw [hlim.used] at HXU
            have hub : used ≤ 1048576 := by rw [← hlim.used]; exact hlim.ok.used
            have hfb : files ≤ 64 := by rw [← hlim.files]; exact hlim.ok.cnt
            obtain ⟨dn, hdn⟩ : ∃ dn, appD d k (List.replicate m 0) = dn := ⟨_, rfl⟩
            rw [hdn] at HM8 HLM HFL
            clear hlim hfl hdn
            go_upto_region 20 with (first | (go_at_call 19; (refine HXU.out.mono ?_); rintro x w12 ⟨rfl, hb⟩; have HM12 := Lib.hid (HM8.out.below stands hb); have HXF := Lib.hid (files_m HM12.out (i := 0) rfl HLM.out.ok); clear hb HXU HM8) | (go_at_call 15; (refine HXF.out.mono ?_); rintro x w13 ⟨A3, c3, rfl, _, _, hb⟩; have HM13 := Lib.hid (HM12.out.below stands hb); have HXL := Lib.hid (loose_m HM13.out (i := 0) rfl HLM.out.ok); rw [HLM.out.loose] at HXL; rw [HFL.out]; clear hb HXF HM12) | (go_at_call 18; (refine HXL.out.mono ?_); rintro x w14 ⟨rfl, hb⟩; have HM14 := Lib.hid (HM13.out.below stands hb); clear hb HXL HM13))
            have HXF := Lib.hid (files_m HM14.out (i := 0) rfl HLM.out.ok)
            obtain ⟨r5, hrem⟩ : ∃ r5 : Nat, Int.tmod (k : Int) 5 = (r5 : Int) := ⟨k % 5, rfl⟩
            by_cases h4 : r5 = 4
            · subst h4
              by_cases hf0 : 0 < files
              · have d3 : decide ((0 : Int) < (files : Int)) = true := by simp; omega
                obtain ⟨x0, m0, g1, g2, g3, g4, g5, g6⟩ := HLM.out.first hf0 hk101
                have HG1 := Lib.hid g1
                have HG6 := Lib.hid g6
                have hx0 : okI x0 := by unfold okI; omega
                clear g1 g6
                go_upto_region 21 with (go_at_call 15; (refine HXF.out.mono ?_); rintro x w15 ⟨A3, c3, rfl, _, _, hb⟩; have HM15 := Lib.hid (HM14.out.below stands hb); rw [HFL.out]; clear hb HXF HM14)
                have HXF := Lib.hid (files_m HM15.out (i := 0) rfl HLM.out.ok)
                go_upto_region 22 with (go_at_call 15; (refine HXF.out.mono ?_); rintro x w16 ⟨A4, c4, rfl, h1, _, hb⟩; have HM16 := Lib.hid (HM15.out.below stands hb); rw [HFL.out] at h1 ⊢; obtain ⟨b4, o4, rfl⟩ := h1.form hf0; have y0 : w16.cell? ⟨b4, o4, none⟩ = some (.int .i64 x0) := h1.cell (j := 0) (by rw [List.getElem?_map, HG1.out]; rfl); clear h1 hb HXF HM15)
                have HXS := Lib.hid (size_m HM16.out (i := 0) rfl hx0)
                rw [g4] at HXS
                go_upto_region 24 with (go_at_call 25; (refine HXS.out.mono ?_); rintro x w17 ⟨rfl, rfl⟩; clear HXS)
                have HXR := Lib.hid (remove_m HM16.out (i := 0) rfl HLM.out.ok (by omega) hx0)
                go_wp2_with (go_at_call 26; (refine HXR.out.mono ?_); rintro x w18 ⟨rfl, h1, _⟩; have HM18 := Lib.hid h1; clear h1 HXR HM16)
                go_roundw
                case rel => exact ⟨⟨k + 1, used - m0, files - 1, _, by omega, by rw [show ((used - m0 : Nat) : Int) = (used : Int) - (m0 : Int) by omega], by rw [show ((files - 1 : Nat) : Int) = (files : Int) - 1 by omega], by go_num, HG6, HM18⟩⟩
                case measure => simp [intOf]; omega
              · obtain rfl : files = 0 := by omega
                go_wp2_with (go_at_call 15; (refine HXF.out.mono ?_); rintro x w15 ⟨A3, c3, rfl, _, _, hb⟩; have HM15 := Lib.hid (HM14.out.below stands hb); rw [HFL.out]; clear hb HXF HM14)
                go_roundw
                case rel => exact ⟨⟨k + 1, used, 0, _, by omega, rfl, rfl, by go_num, HLM, HM15⟩⟩
                case measure => simp [intOf]; omega
            · have d4 : decide ((r5 : Int) = 4) = false := by simp; omega
              have d5 : ((r5 : Int) == 4) = false := by simp; omega
              go_wp2
              go_roundw
              case rel => exact ⟨⟨k + 1, used, files, _, by omega, rfl, rfl, by go_num, HLM, HM14⟩⟩
              case measure => simp [intOf]; omega
      · obtain rfl : k = xs.length := by omega
        have dlt : decide ((xs.length : Int) < (xs.length : Int)) = false := by simp
        go_wp2
        go_ret
        exact ⟨rfl, HB1.out.trans (HM.out.bel.mono HB1.out.size)⟩
theorem opened {H : Type} (enc : TypeId × Value → H) (W : World) (base : Nat) (v0 : Value) {d0 : DataW H} {p0 : List MemPlace}
    (o0 : Value.okWide Try.prog W .any base 33 v0)
    (k0 : DataW.Trod enc Try.prog W 0 (fun _ => true) true 33 v0 d0 p0) :
    Calls Try.prog 8 #[v0] W fun e w' => e = .returned (.bool true) ∧ Below W.heap.size W w' := by
  obtain ⟨A, c, xs, rfl, h1, h2, h3⟩ := open_intsR o0 k0
  unfold maxLen at h2
  exact walk A c xs W h3 (by omega)
end diskLimitsOpen
end Go.Proofs.Ytfpfpdhfnleebaa
