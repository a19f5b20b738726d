/- The walk of DiskOrder: of two crashes the one that keeps more keeps all that the other one keeps. No conditions. -/
import Derived.Test.YtfpfpdhfnleebaaDisk15
set_option maxRecDepth 8000
namespace Go.Proofs.Ytfpfpdhfnleebaa
open Go.ChangeShapes Go.WideShapes Go.ChangeAt Go.RowKit
set_option linter.unusedVariables false
set_option linter.unusedSimpArgs false
namespace Dq
structure OrRel (w0 w : World) (R : Nat → Prop) (g1 g2 g3 g4 : Nat) (X Y Z0 Fu : Dk.D) (L : Option Addr) (cl : Nat) (xs : List Int) (v : Value) (wr : World) : Prop where
  out : ∃ k, k ≤ xs.length ∧ v = .int .i64 k ∧ Hid (Dk.Ds w R [(g1, X), (g2, Y), (g3, syncs Z0 (xs.take k)), (g4, Fu)] wr) ∧ Hid (Mem.Own wr 3 1 L xs.length cl (xs.map (Value.int .i64)))
end Dq
namespace diskOrderOpen
open Dq
set_option maxHeartbeats 8000000 in
theorem walk (A : Option Addr) (c : Nat) (ps : List Ac) (a b : Int) (w : World) (ha : Dk.okI a) (hb : Dk.okI b) (hR : Mem.Rd w w.heap.size A (ps.flatMap acCells)) (hok : ∀ a ∈ ps, AcOk w w.heap.size a) (hl : ps.length ≤ c) (hc : c ≤ 17592186044416) :
    Calls Try.prog 6 #[.slice A ps.length c, .int .i64 a, .int .i64 b] w fun e w' => e = .returned (.bool true) ∧ Below w.heap.size w w' := by
  have HR := Lib.hid hR
  have HOK := Lib.hid hok
  have HA := Lib.hid (diskAble_any w)
  clear hR hok
  go_enter Try.func6, Try.ntmps6
  go_upto_region 3 with (go_at_call 9; (refine HA.out.mono ?_); rintro x w1 ⟨rfl, hb1⟩; have HB1 := Lib.hid hb1; clear hb1 HA)
  have HR1 := Lib.hid (HR.out.below HB1.out)
  have HMU := Lib.hid (dkMuch_any (c := c) HR1.out (by omega) (fun a ha => (HOK.out a ha).2.2.2.2.2.2))
  obtain ⟨bg, hbg⟩ : ∃ bg, bigS ps = bg := ⟨_, rfl⟩
  rw [hbg] at HMU
  by_cases hbt : bg = true
  · subst hbt
    go_wp2_with (go_at_call 16; (refine HMU.out.mono ?_); rintro x w2 ⟨rfl, rfl⟩; clear HMU)
    go_ret
    exact ⟨rfl, HB1.out⟩
  obtain rfl : bg = false := by simpa using hbt
  have ht : tot ps ps.length ≤ 20000 := by unfold bigS at hbg; simpa using hbg
  have HT := Lib.hid ht
  have hlen : ps.length ≤ 1000 := by have := tot_le ps 0; rw [tot_zero] at this; omega
  have HOK1 : Hid (∀ a ∈ ps, AcOk w1 w.heap.size a) := fun a ha => (HOK.out a ha).below HB1.out (Nat.le_refl _)
  have HN := Lib.hid (made_m (Mem.Many.none Dk.DAt w1) HR1.out HB1.out.size HOK1.out hl hc ht)
  have hok9 := (play_ok ps).mono hlen
  have hfs9 := play_fs (fun a ha => (HOK.out a ha).2.2.2.2.1)
  have HFO := Lib.hid (files_ok hfs9)
  obtain ⟨D, hD⟩ : ∃ D, playD ps = D := ⟨_, rfl⟩
  have HPD := Lib.hid hD
  rw [hD] at HN hok9 HFO
  have HKD := Lib.hid hok9
  clear hbg ht hbt hok9 hfs9 hD
  by_cases hab : b < a
  · have d5 : decide (b < a) = true := by simpa using hab
    have hAB : b ≤ a := by omega
    go_upto_region 8 with (first
      | (go_at_call 16; (refine HMU.out.mono ?_); rintro x w2 ⟨rfl, hw2⟩; obtain rfl := hw2.symm; clear HMU hw2)
      | (go_at_call 17; first
        | ((refine HN.out.mono ?_); rintro x w2 ⟨g1, rfl, h1, hb1⟩; clear HN; have HN2 := Lib.hid (made_m h1 (HR1.out.below (hb1.mono HB1.out.size)) (Nat.le_trans HB1.out.size hb1.size) (fun a ha => (HOK1.out a ha).below (hb1.mono HB1.out.size) (Nat.le_refl _)) hl hc HT.out); rw [HPD.out] at HN2; have HB2 := Lib.hid hb1; clear hb1 h1)
        | ((refine HN2.out.mono ?_); rintro x w3 ⟨g2, rfl, h2, hb2⟩; clear HN2; have HN3 := Lib.hid (made_m h2 (HR1.out.below ((HB2.out.trans (hb2.mono HB2.out.size)).mono HB1.out.size)) (Nat.le_trans HB1.out.size (Nat.le_trans HB2.out.size hb2.size)) (fun a ha => (HOK1.out a ha).below ((HB2.out.trans (hb2.mono HB2.out.size)).mono HB1.out.size) (Nat.le_refl _)) hl hc HT.out); rw [HPD.out] at HN3; clear h2 hb2)
        | ((refine HN3.out.mono ?_); rintro x w4 ⟨g3, rfl, h3, hb3⟩; clear HN3; have HM4 : Hid (Dk.Ds w1 (fun _ => False) [(g1, D), (g2, D), (g3, D)] w4) := h3; clear h3 hb3)))
    have HXL := Lib.hid (loose_m HM4.out (i := 2) rfl HKD.out)
    obtain ⟨L, hL⟩ : ∃ L, Dk.looseR D.lo = L := ⟨_, rfl⟩
    have hL9 := HKD.out.loose
    have HLL := Lib.hid hL
    rw [hL] at HXL hL9
    clear hL
    go_upto_region 9 with (go_at_call 18; (refine HXL.out.mono ?_); rintro x w5 ⟨rfl, hb⟩; have HM5 := Lib.hid (HM4.out.below Dk.stands hb); clear hb HXL HM4)
    have HXC := Lib.hid (crash_m HM5.out (i := 0) rfl HKD.out hb)
    go_upto_region 10 with (go_at_call 12; (refine HXC.out.mono ?_); rintro x w6 ⟨rfl, h5, _⟩; have HM6 := Lib.hid h5; clear h5 HXC HM5)
    simp only [List.set_cons_zero] at HM6
    have HXC := Lib.hid (crash_m HM6.out (i := 1) rfl HKD.out ha)
    go_upto_region 11 with (go_at_call 12; (refine HXC.out.mono ?_); rintro x w7 ⟨rfl, h5, _⟩; have HM7 := Lib.hid h5; clear h5 HXC HM6)
    simp only [List.set_cons_succ, List.set_cons_zero] at HM7
    have HXC := Lib.hid (made_m HM7.out (HR1.out.below (HM7.out.bel.mono HB1.out.size)) (Nat.le_trans HB1.out.size HM7.out.bel.size) (fun a ha => (HOK1.out a ha).below (HM7.out.bel.mono HB1.out.size) (Nat.le_refl _)) hl hc HT.out)
    rw [HPD.out] at HXC
    go_upto_region 12 with (go_at_call 17; (refine HXC.out.mono ?_); rintro x w8 ⟨g4, rfl, h4, hb4⟩; have HM8 : Hid (Dk.Ds w1 (fun _ => False) [(g1, Dk.crashD D b), (g2, Dk.crashD D a), (g3, D), (g4, D)] w8) := h4; clear h4 hb4 HXC HM7)
    have HXC := Lib.hid (crash_m HM8.out (i := 3) rfl HKD.out (keep := (L : Int)) ⟨by omega, by omega⟩)
    go_upto_region 13 with (go_at_call 12; (refine HXC.out.mono ?_); rintro x w9 ⟨rfl, h5, _⟩; have HM9 := Lib.hid h5; clear h5 HXC HM8)
    simp only [List.set_cons_succ, List.set_cons_zero] at HM9
    obtain ⟨EX, hEX⟩ : ∃ EX, Dk.crashD D b = EX := ⟨_, rfl⟩
    obtain ⟨EY, hEY⟩ : ∃ EY, Dk.crashD D a = EY := ⟨_, rfl⟩
    obtain ⟨EF, hEF⟩ : ∃ EF, Dk.crashD D (L : Int) = EF := ⟨_, rfl⟩
    have HOX := Lib.hid (HKD.out.crash b)
    have HOY := Lib.hid (HKD.out.crash a)
    have HOF := Lib.hid (HKD.out.crash (L : Int))
    have HUF : Hid (Dk.usedD EF = Dk.usedD D) := by
      show _ = _
      have h1 := used_split HKD.out (L : Int)
      rw [hEF, crashN_loose, HLL.out] at h1
      omega
    have HPRE : Hid (∀ x, (Dk.bsD EY x).take (Dk.bsD EX x).length = Dk.bsD EX x ∧ (Dk.bsD EX x).length ≤ (Dk.bsD EY x).length) := fun x => by rw [← hEX, ← hEY]; exact ⟨cut_pre HKD.out hAB x, cut_mono HKD.out hAB x⟩
    have HFUL : Hid (∀ x, Dk.bsD EF x = Dk.bsD D x) := fun x => by rw [← hEF, ← HLL.out]; exact cut_full HKD.out x
    rw [hEX, hEY, hEF] at HM9
    rw [hEX] at HOX
    rw [hEY] at HOY
    rw [hEF] at HOF
    have HXF := Lib.hid (files_m HM9.out (i := 2) rfl HKD.out)
    unfold FsEnd at HXF
    obtain ⟨fl, hfl⟩ : ∃ fl, Dk.filesD D = fl := ⟨_, rfl⟩
    have hnl : fl.length ≤ 64 := by rw [← hfl, files_len]; exact HKD.out.cnt
    rw [hfl] at HFO HXF
    clear hEX hEY hEF hfl HLL
    go_upto_region 14 with (go_at_call 15; (refine HXF.out.mono ?_); rintro x w12 ⟨Lx, cl, rfl, h1, hF, hb⟩; have HM12 := Lib.hid (HM9.out.more Dk.stands hb (R' := fun k => Mem.blk Lx = some k) (fun k hk => ⟨hF.blk k hk, h1.lt hk⟩)); have HL12 := Lib.hid h1; clear hb h1 hF HXF HM9)
    clear HR1 HOK1 HPD HR HOK HT
    go_wp2
    go_loopw [13] (OrRel w w1 (fun k => False ∨ Mem.blk Lx = some k) g1 g2 g3 g4 EX EY D EF Lx cl fl) (fun t _ => fl.length - (intOf t).toNat)
    case atStart => exact ⟨⟨0, by omega, rfl, HM12, HL12⟩⟩
    case round =>
      obtain ⟨k, hk, rfl, HM, HO⟩ := hrel.out
      clear hrel
      obtain ⟨hs1, hs2, hs3⟩ := syncs_all D HKD.out (fl.take k)
      have HSK := Lib.hid hs3
      by_cases hlt : k < fl.length
      · obtain ⟨x, hx⟩ : ∃ x, fl[k]? = some x := ⟨_, List.getElem?_eq_getElem hlt⟩
        have hxi := HFO.out x (List.mem_of_getElem? hx)
        have HX := Lib.hid hx
        obtain ⟨bL, oL, rfl⟩ := HO.out.form (by omega)
        have y0 : wr.cell? ⟨bL, oL + k, none⟩ = some (.int .i64 x) := HO.out.cell (by rw [List.getElem?_map, hx]; rfl)
        have HX1 := Lib.hid (sync_m HM.out (i := 2) rfl HSK.out (by omega) hxi)
        rw [← syncs_snoc D hx] at HX1
        obtain ⟨ht1, ht2, ht3⟩ := syncs_all D HKD.out (fl.take (k + 1))
        have HTK := Lib.hid ht3
        obtain ⟨Zk, hZk⟩ : ∃ Zk, syncs D (fl.take (k + 1)) = Zk := ⟨_, rfl⟩
        have HZK := Lib.hid hZk
        have HB3 : Hid (Dk.bsD Zk x = Dk.bsD D x) := by show _ = _; rw [← hZk]; exact ht1 x
        rw [hZk] at HX1 HTK
        obtain ⟨hp1, hp2⟩ := HPRE.out x
        have hp3 := HFUL.out x
        obtain ⟨bs1, hbs1⟩ : ∃ bs1, Dk.bsD EX x = bs1 := ⟨_, rfl⟩
        obtain ⟨bs2, hbs2⟩ : ∃ bs2, Dk.bsD EY x = bs2 := ⟨_, rfl⟩
        obtain ⟨bs3, hbs3⟩ : ∃ bs3, Dk.bsD D x = bs3 := ⟨_, rfl⟩
        obtain ⟨n1, hn1⟩ : ∃ n1, bs1.length = n1 := ⟨_, rfl⟩
        obtain ⟨n2, hn2⟩ : ∃ n2, bs2.length = n2 := ⟨_, rfl⟩
        obtain ⟨n3, hn3⟩ : ∃ n3, bs3.length = n3 := ⟨_, rfl⟩
        rw [hbs1, hbs2, hn1] at hp1
        rw [hbs1, hbs2, hn1, hn2] at hp2
        rw [hbs3] at hp3 HB3
        have H1 := Lib.hid hbs1
        have H2 := Lib.hid hbs2
        have H3 := Lib.hid hp3
        have HN1 := Lib.hid hn1
        have HN2 := Lib.hid hn2
        have HN3 := Lib.hid hn3
        have HC3 := Lib.hid hp1
        have d0 : decide ((k : Int) < (fl.length : Int)) = true := by simp; omega
        clear hx hbs1 hbs2 hbs3 hn1 hn2 hn3 hp1 hp3 ht1 ht2 ht3 hs1 hs2 hs3 hZk HM HSK
        go_upto_region 18 with (go_at_call 21; (refine HX1.out.mono ?_); rintro y w13 ⟨rfl, h5, hk5⟩; have HM13 := Lib.hid h5; have HK13 := Lib.hid hk5; clear h5 hk5 HX1)
        simp only [List.set_cons_succ, List.set_cons_zero] at HM13
        have HO13 := Lib.hid (HO.out.keeps HK13.out (fun k hk h => h.2 (.inr hk)))
        clear HO HK13
        clear y0
        have y0 : w13.cell? ⟨bL, oL + k, none⟩ = some (.int .i64 x) := HO13.out.cell (by rw [List.getElem?_map, HX.out]; rfl)
        have HX1 := Lib.hid (read_m HM13.out (i := 0) rfl HOX.out hxi)
        unfold RdEnd at HX1
        rw [H1.out, HN1.out] at HX1
        go_upto_region 19 with (go_at_call 13; (refine HX1.out.mono ?_); rintro y w14 ⟨AP, cP, rfl, h1, _, hb⟩; have HM14 := Lib.hid (HM13.out.below Dk.stands hb); have HO14 := Lib.hid (HO13.out.below hb (fun _ hk => HO13.out.lt hk)); have HP14 := Lib.hid h1; clear h1 hb HX1 HM13 HO13)
        clear y0
        have y0 : w14.cell? ⟨bL, oL + k, none⟩ = some (.int .i64 x) := HO14.out.cell (by rw [List.getElem?_map, HX.out]; rfl)
        have HX1 := Lib.hid (read_m HM14.out (i := 1) rfl HOY.out hxi)
        unfold RdEnd at HX1
        rw [H2.out, HN2.out] at HX1
        go_upto_region 20 with (go_at_call 13; (refine HX1.out.mono ?_); rintro y w15 ⟨AQ, cQ, rfl, h1, _, hb⟩; have HM15 := Lib.hid (HM14.out.below Dk.stands hb); have HO15 := Lib.hid (HO14.out.below hb (fun _ hk => HO14.out.lt hk)); have HP15 := Lib.hid (HP14.out.below hb (fun _ hk => HP14.out.lt hk)); have HQ15 := Lib.hid h1; clear h1 hb HX1 HM14 HO14 HP14)
        clear y0
        have y0 : w15.cell? ⟨bL, oL + k, none⟩ = some (.int .i64 x) := HO15.out.cell (by rw [List.getElem?_map, HX.out]; rfl)
        have HX1 := Lib.hid (read_m HM15.out (i := 2) rfl HTK.out hxi)
        unfold RdEnd at HX1
        rw [HB3.out, HN3.out] at HX1
        go_upto_region 21 with (go_at_call 13; (refine HX1.out.mono ?_); rintro y w16 ⟨AR, cR, rfl, h1, _, hb⟩; have HM16 := Lib.hid (HM15.out.below Dk.stands hb); have HO16 := Lib.hid (HO15.out.below hb (fun _ hk => HO15.out.lt hk)); have HP16 := Lib.hid (HP15.out.below hb (fun _ hk => HP15.out.lt hk)); have HQ16 := Lib.hid (HQ15.out.below hb (fun _ hk => HQ15.out.lt hk)); have HR16 := Lib.hid h1; clear h1 hb HX1 HM15 HO15 HP15 HQ15)
        clear y0
        have y0 : w16.cell? ⟨bL, oL + k, none⟩ = some (.int .i64 x) := HO16.out.cell (by rw [List.getElem?_map, HX.out]; rfl)
        have HX1 := Lib.hid (read_m HM16.out (i := 3) rfl HOF.out hxi)
        unfold RdEnd at HX1
        rw [H3.out, HN3.out] at HX1
        go_upto_region 22 with (go_at_call 13; (refine HX1.out.mono ?_); rintro y w17 ⟨AS, cS, rfl, h1, _, hb⟩; have HM17 := Lib.hid (HM16.out.below Dk.stands hb); have HO17 := Lib.hid (HO16.out.below hb (fun _ hk => HO16.out.lt hk)); have HP17 := Lib.hid (HP16.out.below hb (fun _ hk => HP16.out.lt hk)); have HQ17 := Lib.hid (HQ16.out.below hb (fun _ hk => HQ16.out.lt hk)); have HR17 := Lib.hid (HR16.out.below hb (fun _ hk => HR16.out.lt hk)); have HS17 := Lib.hid h1; clear h1 hb HX1 HM16 HO16 HP16 HQ16 HR16)
        have hr5 := HQ17.out.rd.take n1
        rw [← List.map_take, HC3.out] at hr5
        have HR5 := Lib.hid hr5
        have hf5 := Df.form_of HQ17.out
        have hc5 : n1 ≤ cQ := by have := HQ17.out.le; omega
        have s5 := fun s => Df.sliced_cut s n1 hf5
        have S5 := Lib.hid s5
        clear hr5 hf5 s5 y0
        refine Reg.wp_region_w (by kernel_rfl) 127 22 rfl rfl (by kernel_rfl) (0) (fun _ => False) (0) (fun _ => False) (0) (fun _ => False)
          (fun i v u => match i with
            | 0 => v = .slice AP n1 cP
            | 1 => v = .int .i64 ((n1 : Nat) : Int)
            | 2 => v = .slice AQ n2 cQ
            | 3 => v = .int .i64 ((n2 : Nat) : Int)
            | 4 => v = .bool false
            | 5 => v = .bool false
            | 6 => v = .slice AQ n2 cQ
            | 7 => v = .slice AP n1 cP
            | 8 => v = .int .i64 ((n1 : Nat) : Int)
            | 9 => v = .slice AQ n1 cQ
            | 10 => v = .string ⟨bs1.toArray⟩
            | 11 => v = .slice AP n1 cP
            | 12 => v = .string ⟨bs1.toArray⟩
            | 13 => v = .bool false
            | 14 => v = .bool false
            | 15 => v = .bool false
            | 16 => v = .slice AR n3 cR
            | 17 => v = .string ⟨bs3.toArray⟩
            | 18 => v = .slice AS n3 cS
            | 19 => v = .string ⟨bs3.toArray⟩
            | 20 => v = .bool false
            | 21 => v = .bool false
            | _ => True) ?_ ?_
        · refine Reg.Steps.cons ?_ (Reg.Steps.cons ?_ (Reg.Steps.cons ?_ (Reg.Steps.cons ?_ (Reg.Steps.cons ?_ (Reg.Steps.cons ?_ (Reg.Steps.cons ?_ (Reg.Steps.cons ?_ (Reg.Steps.cons ?_ (Reg.Steps.cons ?_ (Reg.Steps.cons ?_ (Reg.Steps.cons ?_ (Reg.Steps.cons ?_ (Reg.Steps.cons ?_ (Reg.Steps.cons ?_ (Reg.Steps.cons ?_ (Reg.Steps.cons ?_ (Reg.Steps.cons ?_ (Reg.Steps.cons ?_ (Reg.Steps.cons ?_ (Reg.Steps.cons ?_ (Reg.Steps.cons ?_ (Reg.Steps.nil _))))))))))))))))))))))
          · intro val ac u hR hp ha K hK      -- 0: t100 := Op.move t14
            have e14 : (ac.tmps[14]?).getD undef = .slice AP n1 cP := ha 14 (by decide)
            clear ha hp
            refine Reg.Op1.plain rfl ?_
            go_wp2
            exact ⟨rfl, hK _ _ rfl (Reg.Wr.same _)⟩
          · intro val ac u hR hp ha K hK      -- 1: t101 := Op.call { builtin len, args := #[t100], argTypes := #[24] }
            obtain ⟨w100, h100, r100⟩ := hp 0 (by decide)
            have e100 : (ac.tmps[100]?).getD undef = .slice AP n1 cP := (ha 100 (by decide)).trans h100
            clear h100
            clear ha hp
            refine Reg.Op1.plain rfl ?_
            go_wp2
            exact ⟨rfl, hK _ _ rfl (Reg.Wr.same _)⟩
          · intro val ac u hR hp ha K hK      -- 2: t102 := Op.move t16
            have e16 : (ac.tmps[16]?).getD undef = .slice AQ n2 cQ := ha 16 (by decide)
            clear ha hp
            refine Reg.Op1.plain rfl ?_
            go_wp2
            exact ⟨rfl, hK _ _ rfl (Reg.Wr.same _)⟩
          · intro val ac u hR hp ha K hK      -- 3: t103 := Op.call { builtin len, args := #[t102], argTypes := #[24] }
            obtain ⟨w102, h102, r102⟩ := hp 2 (by decide)
            have e102 : (ac.tmps[102]?).getD undef = .slice AQ n2 cQ := (ha 102 (by decide)).trans h102
            clear h102
            clear ha hp
            refine Reg.Op1.plain rfl ?_
            go_wp2
            exact ⟨rfl, hK _ _ rfl (Reg.Wr.same _)⟩
          · intro val ac u hR hp ha K hK      -- 4: t104 := Op.binOp BinOp.gtr 3 t101 t103 3
            obtain ⟨w101, h101, r101⟩ := hp 1 (by decide)
            have e101 : (ac.tmps[101]?).getD undef = .int .i64 ((n1 : Nat) : Int) := (ha 101 (by decide)).trans h101
            clear h101
            obtain ⟨w103, h103, r103⟩ := hp 3 (by decide)
            have e103 : (ac.tmps[103]?).getD undef = .int .i64 ((n2 : Nat) : Int) := (ha 103 (by decide)).trans h103
            clear h103
            clear ha hp
            refine Reg.Op1.plain rfl ?_
            go_wp2
            exact ⟨rfl, hK _ _ (by simp; omega) (Reg.Wr.same _)⟩
          · intro val ac u hR hp ha K hK      -- 5: t105 := Op.move t104
            obtain ⟨w104, h104, r104⟩ := hp 4 (by decide)
            have e104 : (ac.tmps[104]?).getD undef = .bool false := (ha 104 (by decide)).trans h104
            clear h104
            clear ha hp
            refine Reg.Op1.plain rfl ?_
            go_wp2
            exact ⟨rfl, hK _ _ rfl (Reg.Wr.same _)⟩
          · intro val ac u hR hp ha K hK      -- 6: t106 := Op.move t16
            have e16 : (ac.tmps[16]?).getD undef = .slice AQ n2 cQ := ha 16 (by decide)
            obtain ⟨w105, h105, r105⟩ := hp 5 (by decide)
            have e105 : (ac.tmps[105]?).getD undef = .bool false := (ha 105 (by decide)).trans h105
            clear h105
            clear ha hp
            refine Reg.Op1.guarded rfl rfl e105 (fun _ => Reg.Op1.plain rfl ?_) (fun h => absurd rfl h)
            go_wp2
            exact ⟨rfl, hK _ _ rfl (Reg.Wr.same _)⟩
          · intro val ac u hR hp ha K hK      -- 7: t107 := Op.move t14
            have e14 : (ac.tmps[14]?).getD undef = .slice AP n1 cP := ha 14 (by decide)
            obtain ⟨w105, h105, r105⟩ := hp 5 (by decide)
            have e105 : (ac.tmps[105]?).getD undef = .bool false := (ha 105 (by decide)).trans h105
            clear h105
            clear ha hp
            refine Reg.Op1.guarded rfl rfl e105 (fun _ => Reg.Op1.plain rfl ?_) (fun h => absurd rfl h)
            go_wp2
            exact ⟨rfl, hK _ _ rfl (Reg.Wr.same _)⟩
          · intro val ac u hR hp ha K hK      -- 8: t108 := Op.call { builtin len, args := #[t107], argTypes := #[24] }
            obtain ⟨w107, h107, r107⟩ := hp 7 (by decide)
            have e107 : (ac.tmps[107]?).getD undef = .slice AP n1 cP := (ha 107 (by decide)).trans h107
            clear h107
            obtain ⟨w105, h105, r105⟩ := hp 5 (by decide)
            have e105 : (ac.tmps[105]?).getD undef = .bool false := (ha 105 (by decide)).trans h105
            clear h105
            clear ha hp
            refine Reg.Op1.guarded rfl rfl e105 (fun _ => Reg.Op1.plain rfl ?_) (fun h => absurd rfl h)
            go_wp2
            exact ⟨rfl, hK _ _ rfl (Reg.Wr.same _)⟩
          · intro val ac u hR hp ha K hK      -- 9: t109 := Op.slice 24 t106 none (some t108) none
            obtain ⟨w106, h106, r106⟩ := hp 6 (by decide)
            have e106 : (ac.tmps[106]?).getD undef = .slice AQ n2 cQ := (ha 106 (by decide)).trans h106
            clear h106
            obtain ⟨w108, h108, r108⟩ := hp 8 (by decide)
            have e108 : (ac.tmps[108]?).getD undef = .int .i64 ((n1 : Nat) : Int) := (ha 108 (by decide)).trans h108
            clear h108
            obtain ⟨w105, h105, r105⟩ := hp 5 (by decide)
            have e105 : (ac.tmps[105]?).getD undef = .bool false := (ha 105 (by decide)).trans h105
            clear h105
            clear ha hp
            refine Reg.Op1.guarded rfl rfl e105 (fun _ => Reg.Op1.plain rfl ?_) (fun h => absurd rfl h)
            have s5 := S5.out
            go_wp2
            exact ⟨rfl, hK _ _ rfl (Reg.Wr.same _)⟩
          · intro val ac u hR hp ha K hK      -- 10: t110 := Op.convert 24 9 t109
            obtain ⟨w109, h109, r109⟩ := hp 9 (by decide)
            have e109 : (ac.tmps[109]?).getD undef = .slice AQ n1 cQ := (ha 109 (by decide)).trans h109
            clear h109
            obtain ⟨w105, h105, r105⟩ := hp 5 (by decide)
            have e105 : (ac.tmps[105]?).getD undef = .bool false := (ha 105 (by decide)).trans h105
            clear h105
            clear ha hp
            refine Reg.Op1.guarded rfl rfl e105 (fun _ => Reg.Op1.plain rfl ?_) (fun h => absurd rfl h)
            have hk0 : Mem.Keeps (fun _ => False) w17 u := (Mem.Keeps.refl (fun _ => False) w17).drew.trans (Reg.Wr.all hR) (fun _ h _ => h.elim id (fun h => h.elim id id))
            have hv := Dk.conv_bytes (W := u) cQ (HR5.out.keeps hk0 (fun _ h => h.elim) (Nat.le_refl _))
            rw [HN1.out] at hv
            go_wp2
            exact ⟨rfl, hK _ _ rfl (Reg.Wr.same _)⟩
          · intro val ac u hR hp ha K hK      -- 11: t111 := Op.move t14
            have e14 : (ac.tmps[14]?).getD undef = .slice AP n1 cP := ha 14 (by decide)
            obtain ⟨w105, h105, r105⟩ := hp 5 (by decide)
            have e105 : (ac.tmps[105]?).getD undef = .bool false := (ha 105 (by decide)).trans h105
            clear h105
            clear ha hp
            refine Reg.Op1.guarded rfl rfl e105 (fun _ => Reg.Op1.plain rfl ?_) (fun h => absurd rfl h)
            go_wp2
            exact ⟨rfl, hK _ _ rfl (Reg.Wr.same _)⟩
          · intro val ac u hR hp ha K hK      -- 12: t112 := Op.convert 24 9 t111
            obtain ⟨w111, h111, r111⟩ := hp 11 (by decide)
            have e111 : (ac.tmps[111]?).getD undef = .slice AP n1 cP := (ha 111 (by decide)).trans h111
            clear h111
            obtain ⟨w105, h105, r105⟩ := hp 5 (by decide)
            have e105 : (ac.tmps[105]?).getD undef = .bool false := (ha 105 (by decide)).trans h105
            clear h105
            clear ha hp
            refine Reg.Op1.guarded rfl rfl e105 (fun _ => Reg.Op1.plain rfl ?_) (fun h => absurd rfl h)
            have hk0 : Mem.Keeps (fun _ => False) w17 u := (Mem.Keeps.refl (fun _ => False) w17).drew.trans (Reg.Wr.all hR) (fun _ h _ => h.elim id (fun h => h.elim id id))
            have hv := Dk.conv_bytes (W := u) cP (HP17.out.keeps hk0 (fun _ _ h => h)).rd
            rw [HN1.out] at hv
            go_wp2
            exact ⟨rfl, hK _ _ rfl (Reg.Wr.same _)⟩
          · intro val ac u hR hp ha K hK      -- 13: t113 := Op.binOp BinOp.neq 9 t110 t112 9
            obtain ⟨w110, h110, r110⟩ := hp 10 (by decide)
            have e110 : (ac.tmps[110]?).getD undef = .string ⟨bs1.toArray⟩ := (ha 110 (by decide)).trans h110
            clear h110
            obtain ⟨w112, h112, r112⟩ := hp 12 (by decide)
            have e112 : (ac.tmps[112]?).getD undef = .string ⟨bs1.toArray⟩ := (ha 112 (by decide)).trans h112
            clear h112
            obtain ⟨w105, h105, r105⟩ := hp 5 (by decide)
            have e105 : (ac.tmps[105]?).getD undef = .bool false := (ha 105 (by decide)).trans h105
            clear h105
            clear ha hp
            refine Reg.Op1.guarded rfl rfl e105 (fun _ => Reg.Op1.plain rfl ?_) (fun h => absurd rfl h)
            go_wp2
            exact ⟨rfl, hK _ _ (by simp) (Reg.Wr.same _)⟩
          · intro val ac u hR hp ha K hK      -- 14: t114 := Op.pick t105 (const (Value.bool true)) t113
            obtain ⟨w105, h105, r105⟩ := hp 5 (by decide)
            have e105 : (ac.tmps[105]?).getD undef = .bool false := (ha 105 (by decide)).trans h105
            clear h105
            obtain ⟨w113, h113, r113⟩ := hp 13 (by decide)
            have e113 : (ac.tmps[113]?).getD undef = .bool false := (ha 113 (by decide)).trans h113
            clear h113
            clear ha hp
            refine Reg.Op1.plain rfl ?_
            go_wp2
            exact ⟨rfl, hK _ _ rfl (Reg.Wr.same _)⟩
          · intro val ac u hR hp ha K hK      -- 15: t115 := Op.move t114
            obtain ⟨w114, h114, r114⟩ := hp 14 (by decide)
            have e114 : (ac.tmps[114]?).getD undef = .bool false := (ha 114 (by decide)).trans h114
            clear h114
            clear ha hp
            refine Reg.Op1.plain rfl ?_
            go_wp2
            exact ⟨rfl, hK _ _ rfl (Reg.Wr.same _)⟩
          · intro val ac u hR hp ha K hK      -- 16: t116 := Op.move t18
            have e18 : (ac.tmps[18]?).getD undef = .slice AR n3 cR := ha 18 (by decide)
            obtain ⟨w115, h115, r115⟩ := hp 15 (by decide)
            have e115 : (ac.tmps[115]?).getD undef = .bool false := (ha 115 (by decide)).trans h115
            clear h115
            clear ha hp
            refine Reg.Op1.guarded rfl rfl e115 (fun _ => Reg.Op1.plain rfl ?_) (fun h => absurd rfl h)
            go_wp2
            exact ⟨rfl, hK _ _ rfl (Reg.Wr.same _)⟩
          · intro val ac u hR hp ha K hK      -- 17: t117 := Op.convert 24 9 t116
            obtain ⟨w116, h116, r116⟩ := hp 16 (by decide)
            have e116 : (ac.tmps[116]?).getD undef = .slice AR n3 cR := (ha 116 (by decide)).trans h116
            clear h116
            obtain ⟨w115, h115, r115⟩ := hp 15 (by decide)
            have e115 : (ac.tmps[115]?).getD undef = .bool false := (ha 115 (by decide)).trans h115
            clear h115
            clear ha hp
            refine Reg.Op1.guarded rfl rfl e115 (fun _ => Reg.Op1.plain rfl ?_) (fun h => absurd rfl h)
            have hk0 : Mem.Keeps (fun _ => False) w17 u := (Mem.Keeps.refl (fun _ => False) w17).drew.trans (Reg.Wr.all hR) (fun _ h _ => h.elim id (fun h => h.elim id id))
            have hv := Dk.conv_bytes (W := u) cR (HR17.out.keeps hk0 (fun _ _ h => h)).rd
            rw [HN3.out] at hv
            go_wp2
            exact ⟨rfl, hK _ _ rfl (Reg.Wr.same _)⟩
          · intro val ac u hR hp ha K hK      -- 18: t118 := Op.move t20
            have e20 : (ac.tmps[20]?).getD undef = .slice AS n3 cS := ha 20 (by decide)
            obtain ⟨w115, h115, r115⟩ := hp 15 (by decide)
            have e115 : (ac.tmps[115]?).getD undef = .bool false := (ha 115 (by decide)).trans h115
            clear h115
            clear ha hp
            refine Reg.Op1.guarded rfl rfl e115 (fun _ => Reg.Op1.plain rfl ?_) (fun h => absurd rfl h)
            go_wp2
            exact ⟨rfl, hK _ _ rfl (Reg.Wr.same _)⟩
          · intro val ac u hR hp ha K hK      -- 19: t119 := Op.convert 24 9 t118
            obtain ⟨w118, h118, r118⟩ := hp 18 (by decide)
            have e118 : (ac.tmps[118]?).getD undef = .slice AS n3 cS := (ha 118 (by decide)).trans h118
            clear h118
            obtain ⟨w115, h115, r115⟩ := hp 15 (by decide)
            have e115 : (ac.tmps[115]?).getD undef = .bool false := (ha 115 (by decide)).trans h115
            clear h115
            clear ha hp
            refine Reg.Op1.guarded rfl rfl e115 (fun _ => Reg.Op1.plain rfl ?_) (fun h => absurd rfl h)
            have hk0 : Mem.Keeps (fun _ => False) w17 u := (Mem.Keeps.refl (fun _ => False) w17).drew.trans (Reg.Wr.all hR) (fun _ h _ => h.elim id (fun h => h.elim id id))
            have hv := Dk.conv_bytes (W := u) cS (HS17.out.keeps hk0 (fun _ _ h => h)).rd
            rw [HN3.out] at hv
            go_wp2
            exact ⟨rfl, hK _ _ rfl (Reg.Wr.same _)⟩
          · intro val ac u hR hp ha K hK      -- 20: t120 := Op.binOp BinOp.neq 9 t117 t119 9
            obtain ⟨w117, h117, r117⟩ := hp 17 (by decide)
            have e117 : (ac.tmps[117]?).getD undef = .string ⟨bs3.toArray⟩ := (ha 117 (by decide)).trans h117
            clear h117
            obtain ⟨w119, h119, r119⟩ := hp 19 (by decide)
            have e119 : (ac.tmps[119]?).getD undef = .string ⟨bs3.toArray⟩ := (ha 119 (by decide)).trans h119
            clear h119
            obtain ⟨w115, h115, r115⟩ := hp 15 (by decide)
            have e115 : (ac.tmps[115]?).getD undef = .bool false := (ha 115 (by decide)).trans h115
            clear h115
            clear ha hp
            refine Reg.Op1.guarded rfl rfl e115 (fun _ => Reg.Op1.plain rfl ?_) (fun h => absurd rfl h)
            go_wp2
            exact ⟨rfl, hK _ _ (by simp) (Reg.Wr.same _)⟩
          · intro val ac u hR hp ha K hK      -- 21: t121 := Op.pick t115 (const (Value.bool true)) t120
            obtain ⟨w115, h115, r115⟩ := hp 15 (by decide)
            have e115 : (ac.tmps[115]?).getD undef = .bool false := (ha 115 (by decide)).trans h115
            clear h115
            obtain ⟨w120, h120, r120⟩ := hp 20 (by decide)
            have e120 : (ac.tmps[120]?).getD undef = .bool false := (ha 120 (by decide)).trans h120
            clear h120
            clear ha hp
            refine Reg.Op1.plain rfl ?_
            go_wp2
            exact ⟨rfl, hK _ _ rfl (Reg.Wr.same _)⟩
        intro val u hR H
        obtain ⟨_, hv9, _⟩ := H 21 (by decide)
        have hk8 : Mem.Keeps (fun _ => False) w17 u := ((Mem.Keeps.refl (fun _ => False) w17).drew.trans (Reg.Wr.all hR) (fun _ h _ => h.elim id (fun h => h.elim id id)))
        obtain ⟨w18, hw18⟩ : ∃ w18, u = w18 := ⟨_, rfl⟩
        rw [hw18] at hk8
        rw [hw18]
        simp only [List.map_cons, List.map_nil, Reg.lay, Act.put, List.setIfInBounds_toArray, List.set_cons_succ, List.set_cons_zero, Nat.reduceAdd]
        rw [hv9]
        clear hR H hv9 hw18
        have HM18 := Lib.hid (HM17.out.keeps Dk.stands hk8 (fun _ h _ => h.elim))
        have HO18 := Lib.hid (HO17.out.keeps hk8 (fun _ _ h => h))
        clear hk8
        go_wp2
        go_roundw
        case rel => exact ⟨⟨k + 1, by omega, by go_num, Lib.hid (by rw [HZK.out]; exact HM18.out), HO18⟩⟩
        case measure => simp [intOf]; omega
      · obtain rfl : k = fl.length := by omega
        have d0 : decide ((fl.length : Int) < (fl.length : Int)) = false := by simp
        rw [List.take_length] at hs2
        have hM := HM.out
        rw [List.take_length] at hM HSK
        have HX1 := Lib.hid (used_m hM (i := 3) rfl HOF.out)
        rw [HUF.out] at HX1
        have HMM := Lib.hid hM
        have HU2 := Lib.hid hs2
        clear hM HM hs1 hs2 hs3
        go_wp2_with (go_at_call 19; first
          | ((refine HX1.out.mono ?_); rintro y w20 ⟨rfl, hb⟩; have HM20 := Lib.hid (HMM.out.below Dk.stands hb); have HX2 := Lib.hid (used_m HM20.out (i := 2) rfl HSK.out); rw [HU2.out] at HX2; clear hb HX1 HMM)
          | ((refine HX2.out.mono ?_); rintro y w21 ⟨rfl, hb⟩; have HM21 := Lib.hid (HM20.out.below Dk.stands hb); clear hb HX2 HM20))
        go_ret
        exact ⟨by simp, HB1.out.trans (HM21.out.bel.mono HB1.out.size)⟩
  · have d5 : decide (b < a) = false := by simpa using hab
    have hAB : a ≤ b := by omega
    go_upto_region 8 with (first
      | (go_at_call 16; (refine HMU.out.mono ?_); rintro x w2 ⟨rfl, hw2⟩; obtain rfl := hw2.symm; clear HMU hw2)
      | (go_at_call 17; first
        | ((refine HN.out.mono ?_); rintro x w2 ⟨g1, rfl, h1, hb1⟩; clear HN; have HN2 := Lib.hid (made_m h1 (HR1.out.below (hb1.mono HB1.out.size)) (Nat.le_trans HB1.out.size hb1.size) (fun a ha => (HOK1.out a ha).below (hb1.mono HB1.out.size) (Nat.le_refl _)) hl hc HT.out); rw [HPD.out] at HN2; have HB2 := Lib.hid hb1; clear hb1 h1)
        | ((refine HN2.out.mono ?_); rintro x w3 ⟨g2, rfl, h2, hb2⟩; clear HN2; have HN3 := Lib.hid (made_m h2 (HR1.out.below ((HB2.out.trans (hb2.mono HB2.out.size)).mono HB1.out.size)) (Nat.le_trans HB1.out.size (Nat.le_trans HB2.out.size hb2.size)) (fun a ha => (HOK1.out a ha).below ((HB2.out.trans (hb2.mono HB2.out.size)).mono HB1.out.size) (Nat.le_refl _)) hl hc HT.out); rw [HPD.out] at HN3; clear h2 hb2)
        | ((refine HN3.out.mono ?_); rintro x w4 ⟨g3, rfl, h3, hb3⟩; clear HN3; have HM4 : Hid (Dk.Ds w1 (fun _ => False) [(g1, D), (g2, D), (g3, D)] w4) := h3; clear h3 hb3)))
    have HXL := Lib.hid (loose_m HM4.out (i := 2) rfl HKD.out)
    obtain ⟨L, hL⟩ : ∃ L, Dk.looseR D.lo = L := ⟨_, rfl⟩
    have hL9 := HKD.out.loose
    have HLL := Lib.hid hL
    rw [hL] at HXL hL9
    clear hL
    go_upto_region 9 with (go_at_call 18; (refine HXL.out.mono ?_); rintro x w5 ⟨rfl, hb⟩; have HM5 := Lib.hid (HM4.out.below Dk.stands hb); clear hb HXL HM4)
    have HXC := Lib.hid (crash_m HM5.out (i := 0) rfl HKD.out ha)
    go_upto_region 10 with (go_at_call 12; (refine HXC.out.mono ?_); rintro x w6 ⟨rfl, h5, _⟩; have HM6 := Lib.hid h5; clear h5 HXC HM5)
    simp only [List.set_cons_zero] at HM6
    have HXC := Lib.hid (crash_m HM6.out (i := 1) rfl HKD.out hb)
    go_upto_region 11 with (go_at_call 12; (refine HXC.out.mono ?_); rintro x w7 ⟨rfl, h5, _⟩; have HM7 := Lib.hid h5; clear h5 HXC HM6)
    simp only [List.set_cons_succ, List.set_cons_zero] at HM7
    have HXC := Lib.hid (made_m HM7.out (HR1.out.below (HM7.out.bel.mono HB1.out.size)) (Nat.le_trans HB1.out.size HM7.out.bel.size) (fun a ha => (HOK1.out a ha).below (HM7.out.bel.mono HB1.out.size) (Nat.le_refl _)) hl hc HT.out)
    rw [HPD.out] at HXC
    go_upto_region 12 with (go_at_call 17; (refine HXC.out.mono ?_); rintro x w8 ⟨g4, rfl, h4, hb4⟩; have HM8 : Hid (Dk.Ds w1 (fun _ => False) [(g1, Dk.crashD D a), (g2, Dk.crashD D b), (g3, D), (g4, D)] w8) := h4; clear h4 hb4 HXC HM7)
    have HXC := Lib.hid (crash_m HM8.out (i := 3) rfl HKD.out (keep := (L : Int)) ⟨by omega, by omega⟩)
    go_upto_region 13 with (go_at_call 12; (refine HXC.out.mono ?_); rintro x w9 ⟨rfl, h5, _⟩; have HM9 := Lib.hid h5; clear h5 HXC HM8)
    simp only [List.set_cons_succ, List.set_cons_zero] at HM9
    obtain ⟨EX, hEX⟩ : ∃ EX, Dk.crashD D a = EX := ⟨_, rfl⟩
    obtain ⟨EY, hEY⟩ : ∃ EY, Dk.crashD D b = EY := ⟨_, rfl⟩
    obtain ⟨EF, hEF⟩ : ∃ EF, Dk.crashD D (L : Int) = EF := ⟨_, rfl⟩
    have HOX := Lib.hid (HKD.out.crash a)
    have HOY := Lib.hid (HKD.out.crash b)
    have HOF := Lib.hid (HKD.out.crash (L : Int))
    have HUF : Hid (Dk.usedD EF = Dk.usedD D) := by
      show _ = _
      have h1 := used_split HKD.out (L : Int)
      rw [hEF, crashN_loose, HLL.out] at h1
      omega
    have HPRE : Hid (∀ x, (Dk.bsD EY x).take (Dk.bsD EX x).length = Dk.bsD EX x ∧ (Dk.bsD EX x).length ≤ (Dk.bsD EY x).length) := fun x => by rw [← hEX, ← hEY]; exact ⟨cut_pre HKD.out hAB x, cut_mono HKD.out hAB x⟩
    have HFUL : Hid (∀ x, Dk.bsD EF x = Dk.bsD D x) := fun x => by rw [← hEF, ← HLL.out]; exact cut_full HKD.out x
    rw [hEX, hEY, hEF] at HM9
    rw [hEX] at HOX
    rw [hEY] at HOY
    rw [hEF] at HOF
    have HXF := Lib.hid (files_m HM9.out (i := 2) rfl HKD.out)
    unfold FsEnd at HXF
    obtain ⟨fl, hfl⟩ : ∃ fl, Dk.filesD D = fl := ⟨_, rfl⟩
    have hnl : fl.length ≤ 64 := by rw [← hfl, files_len]; exact HKD.out.cnt
    rw [hfl] at HFO HXF
    clear hEX hEY hEF hfl HLL
    go_upto_region 14 with (go_at_call 15; (refine HXF.out.mono ?_); rintro x w12 ⟨Lx, cl, rfl, h1, hF, hb⟩; have HM12 := Lib.hid (HM9.out.more Dk.stands hb (R' := fun k => Mem.blk Lx = some k) (fun k hk => ⟨hF.blk k hk, h1.lt hk⟩)); have HL12 := Lib.hid h1; clear hb h1 hF HXF HM9)
    clear HR1 HOK1 HPD HR HOK HT
    go_wp2
    go_loopw [13] (OrRel w w1 (fun k => False ∨ Mem.blk Lx = some k) g1 g2 g3 g4 EX EY D EF Lx cl fl) (fun t _ => fl.length - (intOf t).toNat)
    case atStart => exact ⟨⟨0, by omega, rfl, HM12, HL12⟩⟩
    case round =>
      obtain ⟨k, hk, rfl, HM, HO⟩ := hrel.out
      clear hrel
      obtain ⟨hs1, hs2, hs3⟩ := syncs_all D HKD.out (fl.take k)
      have HSK := Lib.hid hs3
      by_cases hlt : k < fl.length
      · obtain ⟨x, hx⟩ : ∃ x, fl[k]? = some x := ⟨_, List.getElem?_eq_getElem hlt⟩
        have hxi := HFO.out x (List.mem_of_getElem? hx)
        have HX := Lib.hid hx
        obtain ⟨bL, oL, rfl⟩ := HO.out.form (by omega)
        have y0 : wr.cell? ⟨bL, oL + k, none⟩ = some (.int .i64 x) := HO.out.cell (by rw [List.getElem?_map, hx]; rfl)
        have HX1 := Lib.hid (sync_m HM.out (i := 2) rfl HSK.out (by omega) hxi)
        rw [← syncs_snoc D hx] at HX1
        obtain ⟨ht1, ht2, ht3⟩ := syncs_all D HKD.out (fl.take (k + 1))
        have HTK := Lib.hid ht3
        obtain ⟨Zk, hZk⟩ : ∃ Zk, syncs D (fl.take (k + 1)) = Zk := ⟨_, rfl⟩
        have HZK := Lib.hid hZk
        have HB3 : Hid (Dk.bsD Zk x = Dk.bsD D x) := by show _ = _; rw [← hZk]; exact ht1 x
        rw [hZk] at HX1 HTK
        obtain ⟨hp1, hp2⟩ := HPRE.out x
        have hp3 := HFUL.out x
        obtain ⟨bs1, hbs1⟩ : ∃ bs1, Dk.bsD EX x = bs1 := ⟨_, rfl⟩
        obtain ⟨bs2, hbs2⟩ : ∃ bs2, Dk.bsD EY x = bs2 := ⟨_, rfl⟩
        obtain ⟨bs3, hbs3⟩ : ∃ bs3, Dk.bsD D x = bs3 := ⟨_, rfl⟩
        obtain ⟨n1, hn1⟩ : ∃ n1, bs1.length = n1 := ⟨_, rfl⟩
        obtain ⟨n2, hn2⟩ : ∃ n2, bs2.length = n2 := ⟨_, rfl⟩
        obtain ⟨n3, hn3⟩ : ∃ n3, bs3.length = n3 := ⟨_, rfl⟩
        rw [hbs1, hbs2, hn1] at hp1
        rw [hbs1, hbs2, hn1, hn2] at hp2
        rw [hbs3] at hp3 HB3
        have H1 := Lib.hid hbs1
        have H2 := Lib.hid hbs2
        have H3 := Lib.hid hp3
        have HN1 := Lib.hid hn1
        have HN2 := Lib.hid hn2
        have HN3 := Lib.hid hn3
        have HC3 := Lib.hid hp1
        have d0 : decide ((k : Int) < (fl.length : Int)) = true := by simp; omega
        clear hx hbs1 hbs2 hbs3 hn1 hn2 hn3 hp1 hp3 ht1 ht2 ht3 hs1 hs2 hs3 hZk HM HSK
        go_upto_region 18 with (go_at_call 21; (refine HX1.out.mono ?_); rintro y w13 ⟨rfl, h5, hk5⟩; have HM13 := Lib.hid h5; have HK13 := Lib.hid hk5; clear h5 hk5 HX1)
        simp only [List.set_cons_succ, List.set_cons_zero] at HM13
        have HO13 := Lib.hid (HO.out.keeps HK13.out (fun k hk h => h.2 (.inr hk)))
        clear HO HK13
        clear y0
        have y0 : w13.cell? ⟨bL, oL + k, none⟩ = some (.int .i64 x) := HO13.out.cell (by rw [List.getElem?_map, HX.out]; rfl)
        have HX1 := Lib.hid (read_m HM13.out (i := 0) rfl HOX.out hxi)
        unfold RdEnd at HX1
        rw [H1.out, HN1.out] at HX1
        go_upto_region 19 with (go_at_call 13; (refine HX1.out.mono ?_); rintro y w14 ⟨AP, cP, rfl, h1, _, hb⟩; have HM14 := Lib.hid (HM13.out.below Dk.stands hb); have HO14 := Lib.hid (HO13.out.below hb (fun _ hk => HO13.out.lt hk)); have HP14 := Lib.hid h1; clear h1 hb HX1 HM13 HO13)
        clear y0
        have y0 : w14.cell? ⟨bL, oL + k, none⟩ = some (.int .i64 x) := HO14.out.cell (by rw [List.getElem?_map, HX.out]; rfl)
        have HX1 := Lib.hid (read_m HM14.out (i := 1) rfl HOY.out hxi)
        unfold RdEnd at HX1
        rw [H2.out, HN2.out] at HX1
        go_upto_region 20 with (go_at_call 13; (refine HX1.out.mono ?_); rintro y w15 ⟨AQ, cQ, rfl, h1, _, hb⟩; have HM15 := Lib.hid (HM14.out.below Dk.stands hb); have HO15 := Lib.hid (HO14.out.below hb (fun _ hk => HO14.out.lt hk)); have HP15 := Lib.hid (HP14.out.below hb (fun _ hk => HP14.out.lt hk)); have HQ15 := Lib.hid h1; clear h1 hb HX1 HM14 HO14 HP14)
        clear y0
        have y0 : w15.cell? ⟨bL, oL + k, none⟩ = some (.int .i64 x) := HO15.out.cell (by rw [List.getElem?_map, HX.out]; rfl)
        have HX1 := Lib.hid (read_m HM15.out (i := 2) rfl HTK.out hxi)
        unfold RdEnd at HX1
        rw [HB3.out, HN3.out] at HX1
        go_upto_region 21 with (go_at_call 13; (refine HX1.out.mono ?_); rintro y w16 ⟨AR, cR, rfl, h1, _, hb⟩; have HM16 := Lib.hid (HM15.out.below Dk.stands hb); have HO16 := Lib.hid (HO15.out.below hb (fun _ hk => HO15.out.lt hk)); have HP16 := Lib.hid (HP15.out.below hb (fun _ hk => HP15.out.lt hk)); have HQ16 := Lib.hid (HQ15.out.below hb (fun _ hk => HQ15.out.lt hk)); have HR16 := Lib.hid h1; clear h1 hb HX1 HM15 HO15 HP15 HQ15)
        clear y0
        have y0 : w16.cell? ⟨bL, oL + k, none⟩ = some (.int .i64 x) := HO16.out.cell (by rw [List.getElem?_map, HX.out]; rfl)
        have HX1 := Lib.hid (read_m HM16.out (i := 3) rfl HOF.out hxi)
        unfold RdEnd at HX1
        rw [H3.out, HN3.out] at HX1
        go_upto_region 22 with (go_at_call 13; (refine HX1.out.mono ?_); rintro y w17 ⟨AS, cS, rfl, h1, _, hb⟩; have HM17 := Lib.hid (HM16.out.below Dk.stands hb); have HO17 := Lib.hid (HO16.out.below hb (fun _ hk => HO16.out.lt hk)); have HP17 := Lib.hid (HP16.out.below hb (fun _ hk => HP16.out.lt hk)); have HQ17 := Lib.hid (HQ16.out.below hb (fun _ hk => HQ16.out.lt hk)); have HR17 := Lib.hid (HR16.out.below hb (fun _ hk => HR16.out.lt hk)); have HS17 := Lib.hid h1; clear h1 hb HX1 HM16 HO16 HP16 HQ16 HR16)
        have hr5 := HQ17.out.rd.take n1
        rw [← List.map_take, HC3.out] at hr5
        have HR5 := Lib.hid hr5
        have hf5 := Df.form_of HQ17.out
        have hc5 : n1 ≤ cQ := by have := HQ17.out.le; omega
        have s5 := fun s => Df.sliced_cut s n1 hf5
        have S5 := Lib.hid s5
        clear hr5 hf5 s5 y0
        refine Reg.wp_region_w (by kernel_rfl) 127 22 rfl rfl (by kernel_rfl) (0) (fun _ => False) (0) (fun _ => False) (0) (fun _ => False)
          (fun i v u => match i with
            | 0 => v = .slice AP n1 cP
            | 1 => v = .int .i64 ((n1 : Nat) : Int)
            | 2 => v = .slice AQ n2 cQ
            | 3 => v = .int .i64 ((n2 : Nat) : Int)
            | 4 => v = .bool false
            | 5 => v = .bool false
            | 6 => v = .slice AQ n2 cQ
            | 7 => v = .slice AP n1 cP
            | 8 => v = .int .i64 ((n1 : Nat) : Int)
            | 9 => v = .slice AQ n1 cQ
            | 10 => v = .string ⟨bs1.toArray⟩
            | 11 => v = .slice AP n1 cP
            | 12 => v = .string ⟨bs1.toArray⟩
            | 13 => v = .bool false
            | 14 => v = .bool false
            | 15 => v = .bool false
            | 16 => v = .slice AR n3 cR
            | 17 => v = .string ⟨bs3.toArray⟩
            | 18 => v = .slice AS n3 cS
            | 19 => v = .string ⟨bs3.toArray⟩
            | 20 => v = .bool false
            | 21 => v = .bool false
            | _ => True) ?_ ?_
        · refine Reg.Steps.cons ?_ (Reg.Steps.cons ?_ (Reg.Steps.cons ?_ (Reg.Steps.cons ?_ (Reg.Steps.cons ?_ (Reg.Steps.cons ?_ (Reg.Steps.cons ?_ (Reg.Steps.cons ?_ (Reg.Steps.cons ?_ (Reg.Steps.cons ?_ (Reg.Steps.cons ?_ (Reg.Steps.cons ?_ (Reg.Steps.cons ?_ (Reg.Steps.cons ?_ (Reg.Steps.cons ?_ (Reg.Steps.cons ?_ (Reg.Steps.cons ?_ (Reg.Steps.cons ?_ (Reg.Steps.cons ?_ (Reg.Steps.cons ?_ (Reg.Steps.cons ?_ (Reg.Steps.cons ?_ (Reg.Steps.nil _))))))))))))))))))))))
          · intro val ac u hR hp ha K hK      -- 0: t100 := Op.move t14
            have e14 : (ac.tmps[14]?).getD undef = .slice AP n1 cP := ha 14 (by decide)
            clear ha hp
            refine Reg.Op1.plain rfl ?_
            go_wp2
            exact ⟨rfl, hK _ _ rfl (Reg.Wr.same _)⟩
          · intro val ac u hR hp ha K hK      -- 1: t101 := Op.call { builtin len, args := #[t100], argTypes := #[24] }
            obtain ⟨w100, h100, r100⟩ := hp 0 (by decide)
            have e100 : (ac.tmps[100]?).getD undef = .slice AP n1 cP := (ha 100 (by decide)).trans h100
            clear h100
            clear ha hp
            refine Reg.Op1.plain rfl ?_
            go_wp2
            exact ⟨rfl, hK _ _ rfl (Reg.Wr.same _)⟩
          · intro val ac u hR hp ha K hK      -- 2: t102 := Op.move t16
            have e16 : (ac.tmps[16]?).getD undef = .slice AQ n2 cQ := ha 16 (by decide)
            clear ha hp
            refine Reg.Op1.plain rfl ?_
            go_wp2
            exact ⟨rfl, hK _ _ rfl (Reg.Wr.same _)⟩
          · intro val ac u hR hp ha K hK      -- 3: t103 := Op.call { builtin len, args := #[t102], argTypes := #[24] }
            obtain ⟨w102, h102, r102⟩ := hp 2 (by decide)
            have e102 : (ac.tmps[102]?).getD undef = .slice AQ n2 cQ := (ha 102 (by decide)).trans h102
            clear h102
            clear ha hp
            refine Reg.Op1.plain rfl ?_
            go_wp2
            exact ⟨rfl, hK _ _ rfl (Reg.Wr.same _)⟩
          · intro val ac u hR hp ha K hK      -- 4: t104 := Op.binOp BinOp.gtr 3 t101 t103 3
            obtain ⟨w101, h101, r101⟩ := hp 1 (by decide)
            have e101 : (ac.tmps[101]?).getD undef = .int .i64 ((n1 : Nat) : Int) := (ha 101 (by decide)).trans h101
            clear h101
            obtain ⟨w103, h103, r103⟩ := hp 3 (by decide)
            have e103 : (ac.tmps[103]?).getD undef = .int .i64 ((n2 : Nat) : Int) := (ha 103 (by decide)).trans h103
            clear h103
            clear ha hp
            refine Reg.Op1.plain rfl ?_
            go_wp2
            exact ⟨rfl, hK _ _ (by simp; omega) (Reg.Wr.same _)⟩
          · intro val ac u hR hp ha K hK      -- 5: t105 := Op.move t104
            obtain ⟨w104, h104, r104⟩ := hp 4 (by decide)
            have e104 : (ac.tmps[104]?).getD undef = .bool false := (ha 104 (by decide)).trans h104
            clear h104
            clear ha hp
            refine Reg.Op1.plain rfl ?_
            go_wp2
            exact ⟨rfl, hK _ _ rfl (Reg.Wr.same _)⟩
          · intro val ac u hR hp ha K hK      -- 6: t106 := Op.move t16
            have e16 : (ac.tmps[16]?).getD undef = .slice AQ n2 cQ := ha 16 (by decide)
            obtain ⟨w105, h105, r105⟩ := hp 5 (by decide)
            have e105 : (ac.tmps[105]?).getD undef = .bool false := (ha 105 (by decide)).trans h105
            clear h105
            clear ha hp
            refine Reg.Op1.guarded rfl rfl e105 (fun _ => Reg.Op1.plain rfl ?_) (fun h => absurd rfl h)
            go_wp2
            exact ⟨rfl, hK _ _ rfl (Reg.Wr.same _)⟩
          · intro val ac u hR hp ha K hK      -- 7: t107 := Op.move t14
            have e14 : (ac.tmps[14]?).getD undef = .slice AP n1 cP := ha 14 (by decide)
            obtain ⟨w105, h105, r105⟩ := hp 5 (by decide)
            have e105 : (ac.tmps[105]?).getD undef = .bool false := (ha 105 (by decide)).trans h105
            clear h105
            clear ha hp
            refine Reg.Op1.guarded rfl rfl e105 (fun _ => Reg.Op1.plain rfl ?_) (fun h => absurd rfl h)
            go_wp2
            exact ⟨rfl, hK _ _ rfl (Reg.Wr.same _)⟩
          · intro val ac u hR hp ha K hK      -- 8: t108 := Op.call { builtin len, args := #[t107], argTypes := #[24] }
            obtain ⟨w107, h107, r107⟩ := hp 7 (by decide)
            have e107 : (ac.tmps[107]?).getD undef = .slice AP n1 cP := (ha 107 (by decide)).trans h107
            clear h107
            obtain ⟨w105, h105, r105⟩ := hp 5 (by decide)
            have e105 : (ac.tmps[105]?).getD undef = .bool false := (ha 105 (by decide)).trans h105
            clear h105
            clear ha hp
            refine Reg.Op1.guarded rfl rfl e105 (fun _ => Reg.Op1.plain rfl ?_) (fun h => absurd rfl h)
            go_wp2
            exact ⟨rfl, hK _ _ rfl (Reg.Wr.same _)⟩
          · intro val ac u hR hp ha K hK      -- 9: t109 := Op.slice 24 t106 none (some t108) none
            obtain ⟨w106, h106, r106⟩ := hp 6 (by decide)
            have e106 : (ac.tmps[106]?).getD undef = .slice AQ n2 cQ := (ha 106 (by decide)).trans h106
            clear h106
            obtain ⟨w108, h108, r108⟩ := hp 8 (by decide)
            have e108 : (ac.tmps[108]?).getD undef = .int .i64 ((n1 : Nat) : Int) := (ha 108 (by decide)).trans h108
            clear h108
            obtain ⟨w105, h105, r105⟩ := hp 5 (by decide)
            have e105 : (ac.tmps[105]?).getD undef = .bool false := (ha 105 (by decide)).trans h105
            clear h105
            clear ha hp
            refine Reg.Op1.guarded rfl rfl e105 (fun _ => Reg.Op1.plain rfl ?_) (fun h => absurd rfl h)
            have s5 := S5.out
            go_wp2
            exact ⟨rfl, hK _ _ rfl (Reg.Wr.same _)⟩
          · intro val ac u hR hp ha K hK      -- 10: t110 := Op.convert 24 9 t109
            obtain ⟨w109, h109, r109⟩ := hp 9 (by decide)
            have e109 : (ac.tmps[109]?).getD undef = .slice AQ n1 cQ := (ha 109 (by decide)).trans h109
            clear h109
            obtain ⟨w105, h105, r105⟩ := hp 5 (by decide)
            have e105 : (ac.tmps[105]?).getD undef = .bool false := (ha 105 (by decide)).trans h105
            clear h105
            clear ha hp
            refine Reg.Op1.guarded rfl rfl e105 (fun _ => Reg.Op1.plain rfl ?_) (fun h => absurd rfl h)
            have hk0 : Mem.Keeps (fun _ => False) w17 u := (Mem.Keeps.refl (fun _ => False) w17).drew.trans (Reg.Wr.all hR) (fun _ h _ => h.elim id (fun h => h.elim id id))
            have hv := Dk.conv_bytes (W := u) cQ (HR5.out.keeps hk0 (fun _ h => h.elim) (Nat.le_refl _))
            rw [HN1.out] at hv
            go_wp2
            exact ⟨rfl, hK _ _ rfl (Reg.Wr.same _)⟩
          · intro val ac u hR hp ha K hK      -- 11: t111 := Op.move t14
            have e14 : (ac.tmps[14]?).getD undef = .slice AP n1 cP := ha 14 (by decide)
            obtain ⟨w105, h105, r105⟩ := hp 5 (by decide)
            have e105 : (ac.tmps[105]?).getD undef = .bool false := (ha 105 (by decide)).trans h105
            clear h105
            clear ha hp
            refine Reg.Op1.guarded rfl rfl e105 (fun _ => Reg.Op1.plain rfl ?_) (fun h => absurd rfl h)
            go_wp2
            exact ⟨rfl, hK _ _ rfl (Reg.Wr.same _)⟩
          · intro val ac u hR hp ha K hK      -- 12: t112 := Op.convert 24 9 t111
            obtain ⟨w111, h111, r111⟩ := hp 11 (by decide)
            have e111 : (ac.tmps[111]?).getD undef = .slice AP n1 cP := (ha 111 (by decide)).trans h111
            clear h111
            obtain ⟨w105, h105, r105⟩ := hp 5 (by decide)
            have e105 : (ac.tmps[105]?).getD undef = .bool false := (ha 105 (by decide)).trans h105
            clear h105
            clear ha hp
            refine Reg.Op1.guarded rfl rfl e105 (fun _ => Reg.Op1.plain rfl ?_) (fun h => absurd rfl h)
            have hk0 : Mem.Keeps (fun _ => False) w17 u := (Mem.Keeps.refl (fun _ => False) w17).drew.trans (Reg.Wr.all hR) (fun _ h _ => h.elim id (fun h => h.elim id id))
            have hv := Dk.conv_bytes (W := u) cP (HP17.out.keeps hk0 (fun _ _ h => h)).rd
            rw [HN1.out] at hv
            go_wp2
            exact ⟨rfl, hK _ _ rfl (Reg.Wr.same _)⟩
          · intro val ac u hR hp ha K hK      -- 13: t113 := Op.binOp BinOp.neq 9 t110 t112 9
            obtain ⟨w110, h110, r110⟩ := hp 10 (by decide)
            have e110 : (ac.tmps[110]?).getD undef = .string ⟨bs1.toArray⟩ := (ha 110 (by decide)).trans h110
            clear h110
            obtain ⟨w112, h112, r112⟩ := hp 12 (by decide)
            have e112 : (ac.tmps[112]?).getD undef = .string ⟨bs1.toArray⟩ := (ha 112 (by decide)).trans h112
            clear h112
            obtain ⟨w105, h105, r105⟩ := hp 5 (by decide)
            have e105 : (ac.tmps[105]?).getD undef = .bool false := (ha 105 (by decide)).trans h105
            clear h105
            clear ha hp
            refine Reg.Op1.guarded rfl rfl e105 (fun _ => Reg.Op1.plain rfl ?_) (fun h => absurd rfl h)
            go_wp2
            exact ⟨rfl, hK _ _ (by simp) (Reg.Wr.same _)⟩
          · intro val ac u hR hp ha K hK      -- 14: t114 := Op.pick t105 (const (Value.bool true)) t113
            obtain ⟨w105, h105, r105⟩ := hp 5 (by decide)
            have e105 : (ac.tmps[105]?).getD undef = .bool false := (ha 105 (by decide)).trans h105
            clear h105
            obtain ⟨w113, h113, r113⟩ := hp 13 (by decide)
            have e113 : (ac.tmps[113]?).getD undef = .bool false := (ha 113 (by decide)).trans h113
            clear h113
            clear ha hp
            refine Reg.Op1.plain rfl ?_
            go_wp2
            exact ⟨rfl, hK _ _ rfl (Reg.Wr.same _)⟩
          · intro val ac u hR hp ha K hK      -- 15: t115 := Op.move t114
            obtain ⟨w114, h114, r114⟩ := hp 14 (by decide)
            have e114 : (ac.tmps[114]?).getD undef = .bool false := (ha 114 (by decide)).trans h114
            clear h114
            clear ha hp
            refine Reg.Op1.plain rfl ?_
            go_wp2
            exact ⟨rfl, hK _ _ rfl (Reg.Wr.same _)⟩
          · intro val ac u hR hp ha K hK      -- 16: t116 := Op.move t18
            have e18 : (ac.tmps[18]?).getD undef = .slice AR n3 cR := ha 18 (by decide)
            obtain ⟨w115, h115, r115⟩ := hp 15 (by decide)
            have e115 : (ac.tmps[115]?).getD undef = .bool false := (ha 115 (by decide)).trans h115
            clear h115
            clear ha hp
            refine Reg.Op1.guarded rfl rfl e115 (fun _ => Reg.Op1.plain rfl ?_) (fun h => absurd rfl h)
            go_wp2
            exact ⟨rfl, hK _ _ rfl (Reg.Wr.same _)⟩
          · intro val ac u hR hp ha K hK      -- 17: t117 := Op.convert 24 9 t116
            obtain ⟨w116, h116, r116⟩ := hp 16 (by decide)
            have e116 : (ac.tmps[116]?).getD undef = .slice AR n3 cR := (ha 116 (by decide)).trans h116
            clear h116
            obtain ⟨w115, h115, r115⟩ := hp 15 (by decide)
            have e115 : (ac.tmps[115]?).getD undef = .bool false := (ha 115 (by decide)).trans h115
            clear h115
            clear ha hp
            refine Reg.Op1.guarded rfl rfl e115 (fun _ => Reg.Op1.plain rfl ?_) (fun h => absurd rfl h)
            have hk0 : Mem.Keeps (fun _ => False) w17 u := (Mem.Keeps.refl (fun _ => False) w17).drew.trans (Reg.Wr.all hR) (fun _ h _ => h.elim id (fun h => h.elim id id))
            have hv := Dk.conv_bytes (W := u) cR (HR17.out.keeps hk0 (fun _ _ h => h)).rd
            rw [HN3.out] at hv
            go_wp2
            exact ⟨rfl, hK _ _ rfl (Reg.Wr.same _)⟩
          · intro val ac u hR hp ha K hK      -- 18: t118 := Op.move t20
            have e20 : (ac.tmps[20]?).getD undef = .slice AS n3 cS := ha 20 (by decide)
            obtain ⟨w115, h115, r115⟩ := hp 15 (by decide)
            have e115 : (ac.tmps[115]?).getD undef = .bool false := (ha 115 (by decide)).trans h115
            clear h115
            clear ha hp
            refine Reg.Op1.guarded rfl rfl e115 (fun _ => Reg.Op1.plain rfl ?_) (fun h => absurd rfl h)
            go_wp2
            exact ⟨rfl, hK _ _ rfl (Reg.Wr.same _)⟩
          · intro val ac u hR hp ha K hK      -- 19: t119 := Op.convert 24 9 t118
            obtain ⟨w118, h118, r118⟩ := hp 18 (by decide)
            have e118 : (ac.tmps[118]?).getD undef = .slice AS n3 cS := (ha 118 (by decide)).trans h118
            clear h118
            obtain ⟨w115, h115, r115⟩ := hp 15 (by decide)
            have e115 : (ac.tmps[115]?).getD undef = .bool false := (ha 115 (by decide)).trans h115
            clear h115
            clear ha hp
            refine Reg.Op1.guarded rfl rfl e115 (fun _ => Reg.Op1.plain rfl ?_) (fun h => absurd rfl h)
            have hk0 : Mem.Keeps (fun _ => False) w17 u := (Mem.Keeps.refl (fun _ => False) w17).drew.trans (Reg.Wr.all hR) (fun _ h _ => h.elim id (fun h => h.elim id id))
            have hv := Dk.conv_bytes (W := u) cS (HS17.out.keeps hk0 (fun _ _ h => h)).rd
            rw [HN3.out] at hv
            go_wp2
            exact ⟨rfl, hK _ _ rfl (Reg.Wr.same _)⟩
          · intro val ac u hR hp ha K hK      -- 20: t120 := Op.binOp BinOp.neq 9 t117 t119 9
            obtain ⟨w117, h117, r117⟩ := hp 17 (by decide)
            have e117 : (ac.tmps[117]?).getD undef = .string ⟨bs3.toArray⟩ := (ha 117 (by decide)).trans h117
            clear h117
            obtain ⟨w119, h119, r119⟩ := hp 19 (by decide)
            have e119 : (ac.tmps[119]?).getD undef = .string ⟨bs3.toArray⟩ := (ha 119 (by decide)).trans h119
            clear h119
            obtain ⟨w115, h115, r115⟩ := hp 15 (by decide)
            have e115 : (ac.tmps[115]?).getD undef = .bool false := (ha 115 (by decide)).trans h115
            clear h115
            clear ha hp
            refine Reg.Op1.guarded rfl rfl e115 (fun _ => Reg.Op1.plain rfl ?_) (fun h => absurd rfl h)
            go_wp2
            exact ⟨rfl, hK _ _ (by simp) (Reg.Wr.same _)⟩
          · intro val ac u hR hp ha K hK      -- 21: t121 := Op.pick t115 (const (Value.bool true)) t120
            obtain ⟨w115, h115, r115⟩ := hp 15 (by decide)
            have e115 : (ac.tmps[115]?).getD undef = .bool false := (ha 115 (by decide)).trans h115
            clear h115
            obtain ⟨w120, h120, r120⟩ := hp 20 (by decide)
            have e120 : (ac.tmps[120]?).getD undef = .bool false := (ha 120 (by decide)).trans h120
            clear h120
            clear ha hp
            refine Reg.Op1.plain rfl ?_
            go_wp2
            exact ⟨rfl, hK _ _ rfl (Reg.Wr.same _)⟩
        intro val u hR H
        obtain ⟨_, hv9, _⟩ := H 21 (by decide)
        have hk8 : Mem.Keeps (fun _ => False) w17 u := ((Mem.Keeps.refl (fun _ => False) w17).drew.trans (Reg.Wr.all hR) (fun _ h _ => h.elim id (fun h => h.elim id id)))
        obtain ⟨w18, hw18⟩ : ∃ w18, u = w18 := ⟨_, rfl⟩
        rw [hw18] at hk8
        rw [hw18]
        simp only [List.map_cons, List.map_nil, Reg.lay, Act.put, List.setIfInBounds_toArray, List.set_cons_succ, List.set_cons_zero, Nat.reduceAdd]
        rw [hv9]
        clear hR H hv9 hw18
        have HM18 := Lib.hid (HM17.out.keeps Dk.stands hk8 (fun _ h _ => h.elim))
        have HO18 := Lib.hid (HO17.out.keeps hk8 (fun _ _ h => h))
        clear hk8
        go_wp2
        go_roundw
        case rel => exact ⟨⟨k + 1, by omega, by go_num, Lib.hid (by rw [HZK.out]; exact HM18.out), HO18⟩⟩
        case measure => simp [intOf]; omega
      · obtain rfl : k = fl.length := by omega
        have d0 : decide ((fl.length : Int) < (fl.length : Int)) = false := by simp
        rw [List.take_length] at hs2
        have hM := HM.out
        rw [List.take_length] at hM HSK
        have HX1 := Lib.hid (used_m hM (i := 3) rfl HOF.out)
        rw [HUF.out] at HX1
        have HMM := Lib.hid hM
        have HU2 := Lib.hid hs2
        clear hM HM hs1 hs2 hs3
        go_wp2_with (go_at_call 19; first
          | ((refine HX1.out.mono ?_); rintro y w20 ⟨rfl, hb⟩; have HM20 := Lib.hid (HMM.out.below Dk.stands hb); have HX2 := Lib.hid (used_m HM20.out (i := 2) rfl HSK.out); rw [HU2.out] at HX2; clear hb HX1 HMM)
          | ((refine HX2.out.mono ?_); rintro y w21 ⟨rfl, hb⟩; have HM21 := Lib.hid (HM20.out.below Dk.stands hb); clear hb HX2 HM20))
        go_ret
        exact ⟨by simp, HB1.out.trans (HM21.out.bel.mono HB1.out.size)⟩
theorem opened {H : Type} (enc : TypeId × Value → H) (W : World) (base : Nat) (v0 v1 v2 : Value) {d0 d1 d2 : DataW H} {p0 p1 p2 : List MemPlace}
    (o0 : Value.okWide Try.prog W .any base 36 v0) (o1 : Value.okWide Try.prog W .any base 3 v1) (o2 : Value.okWide Try.prog W .any base 3 v2)
    (k0 : DataW.Trod enc Try.prog W 0 (fun _ => true) true 36 v0 d0 p0) (k1 : DataW.Trod enc Try.prog W 0 (fun _ => true) true 3 v1 d1 p1) (k2 : DataW.Trod enc Try.prog W 0 (fun _ => true) true 3 v2 d2 p2)
    (z0 : (d0.weights Try.prog 36).all (· ≤ reachBytes) = true) (z1 : (d1.weights Try.prog 3).all (· ≤ reachBytes) = true) (z2 : (d2.weights Try.prog 3).all (· ≤ reachBytes) = true) :
    Calls Try.prog 6 #[v0, v1, v2] W fun e w' => e = .returned (.bool true) ∧ Below W.heap.size W w' := by
  obtain ⟨A, c, ps, rfl, h1, h2, h3, h4⟩ := open_dacts o0 k0 z0
  obtain ⟨a1, rfl, rfl, rfl, w1⟩ := open_int Try.underlying3 o1 k1
  obtain ⟨a2, rfl, rfl, rfl, w2⟩ := open_int Try.underlying3 o2 k2
  have hb1 := bounds_i64 w1
  have hb2 := bounds_i64 w2
  exact walk A c ps a1 a2 W ⟨by omega, by omega⟩ ⟨by omega, by omega⟩ h3 h4 h1 h2
end diskOrderOpen
end Go.Proofs.Ytfpfpdhfnleebaa
