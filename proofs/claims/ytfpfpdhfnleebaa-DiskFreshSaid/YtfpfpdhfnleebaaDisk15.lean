/- The walk of DiskKeeps: what a crash takes away. No conditions. -/
import Derived.Test.YtfpfpdhfnleebaaDisk14
import Derived.Test.YtfpfpdhfnleebaaDkQ3
set_option maxRecDepth 8000
namespace Go.Proofs.Ytfpfpdhfnleebaa
open Go.ChangeShapes Go.WideShapes Go.ChangeAt Go.RowKit
set_option linter.unusedVariables false
set_option linter.unusedSimpArgs false
namespace Dq
/-- made, beside what stands -/
theorem made_m {W w : World} {R : Nat → Prop} {l : List (Nat × Dk.D)} (h : Dk.Ds W R l w) {B : Nat} {A : Option Addr} {c : Nat} {ps : List Ac} (hR : Mem.Rd w B A (ps.flatMap acCells)) (hB : B ≤ w.heap.size) (hok : ∀ a ∈ ps, AcOk w B a) (hl : ps.length ≤ c) (hc : c ≤ 17592186044416) (ht : tot ps ps.length ≤ 20000) :
    Calls Try.prog 17 #[.slice A ps.length c] w fun x w' => ∃ g, x = .returned (.pointer (some ⟨g, 0, none⟩)) ∧ Dk.Ds W R (l ++ [(g, playD ps)]) w' ∧ Below w.heap.size w w' := by
  refine (dkMade_any hR hB hok hl hc ht).mono ?_
  rintro x w' ⟨g, F, rfl, h1, h2, h3⟩
  exact ⟨g, rfl, h.add Dk.stands h1 h3 h2, h2⟩
structure KpRel (w0 w : World) (R : Nat → Prop) (l : List (Nat × Dk.D)) (L : Option Addr) (cl : Nat) (xs : List Int) (v : Value) (wr : World) : Prop where
  out : ∃ k, k ≤ xs.length ∧ v = .int .i64 k ∧ Hid (Dk.Ds w R l wr) ∧ Hid (Mem.Own wr 3 1 L xs.length cl (xs.map (Value.int .i64)))
end Dq
namespace diskKeepsOpen
open Dq
set_option maxHeartbeats 8000000 in
theorem walk (A : Option Addr) (c : Nat) (ps : List Ac) (keep : Int) (w : World) (hke : Dk.okI keep) (hR : Mem.Rd w w.heap.size A (ps.flatMap acCells)) (hok : ∀ a ∈ ps, AcOk w w.heap.size a) (hl : ps.length ≤ c) (hc : c ≤ 17592186044416) :
    Calls Try.prog 5 #[.slice A ps.length c, .int .i64 keep] w fun e w' => e = .returned (.bool true) ∧ Below w.heap.size w w' := by
  have HR := Lib.hid hR
  have HOK := Lib.hid hok
  have HA := Lib.hid (diskAble_any w)
  clear hR hok
  go_enter Try.func5, Try.ntmps5
  go_upto_region 3 with (go_at_call 9; (refine HA.out.mono ?_); rintro x w1 ⟨rfl, hb1⟩; have HB1 := Lib.hid hb1; clear hb1 HA)
  have HR1 := Lib.hid (HR.out.below HB1.out)
  have HMU := Lib.hid (dkMuch_any (c := c) HR1.out (by omega) (fun a ha => (HOK.out a ha).2.2.2.2.2.2))
  obtain ⟨bg, hbg⟩ : ∃ bg, bigS ps = bg := ⟨_, rfl⟩
  rw [hbg] at HMU
  by_cases hbt : bg = true
  · subst hbt
    go_wp2_with (go_at_call 16; (refine HMU.out.mono ?_); rintro x w2 ⟨rfl, rfl⟩; clear HMU)
    go_ret
    exact ⟨rfl, HB1.out⟩
  obtain rfl : bg = false := by simpa using hbt
  have ht : tot ps ps.length ≤ 20000 := by unfold bigS at hbg; simpa using hbg
  have HT := Lib.hid ht
  have hlen : ps.length ≤ 1000 := by have := tot_le ps 0; rw [tot_zero] at this; omega
  have HOK1 : Hid (∀ a ∈ ps, AcOk w1 w.heap.size a) := fun a ha => (HOK.out a ha).below HB1.out (Nat.le_refl _)
  have HN := Lib.hid (made_m (Mem.Many.none Dk.DAt w1) HR1.out HB1.out.size HOK1.out hl hc ht)
  have hok9 := (play_ok ps).mono hlen
  have hfs9 := play_fs (fun a ha => (HOK.out a ha).2.2.2.2.1)
  have HFO := Lib.hid (files_ok hfs9)
  obtain ⟨D, hD⟩ : ∃ D, playD ps = D := ⟨_, rfl⟩
  have HPD := Lib.hid hD
  rw [hD] at HN hok9 HFO
  have HKD := Lib.hid hok9
  clear hbg ht hbt hok9 hfs9 hD
  go_upto_region 6 with (first
    | (go_at_call 16; (refine HMU.out.mono ?_); rintro x w2 ⟨rfl, hw2⟩; obtain rfl := hw2.symm; clear HMU hw2)
    | (go_at_call 17; first
      | ((refine HN.out.mono ?_); rintro x w2 ⟨g1, rfl, h1, hb1⟩; clear HN; have HN2 := Lib.hid (made_m h1 (HR1.out.below (hb1.mono HB1.out.size)) (Nat.le_trans HB1.out.size hb1.size) (fun a ha => (HOK1.out a ha).below (hb1.mono HB1.out.size) (Nat.le_refl _)) hl hc HT.out); rw [HPD.out] at HN2; clear hb1 h1)
      | ((refine HN2.out.mono ?_); rintro x w3 ⟨g2, rfl, h2, hb2⟩; rw [List.nil_append] at h2; have HM3 := Lib.hid h2; clear HN2 h2 hb2)))
  have HMA : Hid (Dk.Ds w1 (fun _ => False) [(g1, D), (g2, D)] w3) := HM3.out
  clear HM3 HPD HOK1 HR1
  have hlo9 := HKD.out.loose
  have hus9 := HKD.out.used
  have hsp := used_split HKD.out keep
  have hcn := crashN_loose D keep
  have HCK := Lib.hid (HKD.out.crash keep)
  have HXL := Lib.hid (loose_m HMA.out (i := 0) rfl HKD.out)
  obtain ⟨L, hL⟩ : ∃ L, Dk.looseR D.lo = L := ⟨_, rfl⟩
  rw [hL] at hlo9 hcn HXL
  go_upto_region 7 with (go_at_call 18; (refine HXL.out.mono ?_); rintro x w4 ⟨rfl, hb⟩; have HM4 := Lib.hid (HMA.out.below Dk.stands hb); clear hb HXL HMA)
  have HXC := Lib.hid (crash_m HM4.out (i := 0) rfl HKD.out hke)
  obtain ⟨lo, hlo⟩ : ∃ lo, Dk.crashN D keep = lo := ⟨_, rfl⟩
  rw [hlo] at HXC hcn hsp
  obtain ⟨E, hE⟩ : ∃ E, Dk.crashD D keep = E := ⟨_, rfl⟩
  have HCF : Hid (Dk.filesD E = Dk.filesD D) := by show _ = _; rw [← hE]; exact crash_files D keep
  have HCL : Hid (Dk.looseR E.lo = 0) := by show _ = _; rw [← hE]; exact crash_loose D keep
  have HCU : Hid (∀ x, Cut D keep x) := fun x => cut_of HKD.out keep x
  have HEE := Lib.hid hE
  rw [hE] at HXC hsp HCK
  have HSP := Lib.hid hsp
  have HCN := Lib.hid hcn
  clear hsp hcn
  go_upto_region 8 with (go_at_call 12; (refine HXC.out.mono ?_); rintro x w5 ⟨rfl, h5, _⟩; have HM5 := Lib.hid h5; clear h5 HXC HM4)
  simp only [List.set_cons_zero] at HM5
  obtain ⟨kk, hkk⟩ : ∃ kk, keep.toNat = kk := ⟨_, rfl⟩
  obtain ⟨mm, hmm⟩ : ∃ mm, min kk L = mm := ⟨_, rfl⟩
  have hmx : ∀ ts t' W, (Builtin.max_ ts t' #[.int .i64 0, .int .i64 keep]).run Try.prog W = .ok (.int .i64 (kk : Int)) W := fun ts t' W => by rw [run_max2]; congr 2; omega
  have hmn : ∀ ts t' W, (Builtin.min_ ts t' #[.int .i64 (kk : Int), .int .i64 (L : Int)]).run Try.prog W = .ok (.int .i64 (mm : Int)) W := fun ts t' W => Dk.run_minN ts t' W kk L mm hmm
  have hm1 : mm ≤ L := by omega
  have hm2 : (L : Int) - (mm : Int) = (lo : Int) := by have := HCN.out; omega
  have HXL := Lib.hid (loose_m HM5.out (i := 0) rfl HCK.out)
  rw [HCL.out] at HXL
  obtain ⟨u0, hu0⟩ : ∃ u0, Dk.usedD E = u0 := ⟨_, rfl⟩
  obtain ⟨u1, hu1⟩ : ∃ u1, Dk.usedD D = u1 := ⟨_, rfl⟩
  rw [hu1] at hus9
  have hu2 : (u1 : Int) - (lo : Int) = (u0 : Int) := by have := HSP.out; omega
  have HU0 := Lib.hid hu0
  have HU1 := Lib.hid hu1
  obtain ⟨fl, hfl⟩ : ∃ fl, Dk.filesD D = fl := ⟨_, rfl⟩
  have HFL := Lib.hid hfl
  have hnl : fl.length ≤ 64 := by rw [← hfl, files_len]; exact HKD.out.cnt
  rw [hfl] at HCF HFO
  clear hu0 hu1 hfl hL hlo hE hkk hmm
  go_upto_region 9 with fail
  clear hmx hmn hm1 hm2
  go_upto_region 11 with (first
    | (go_at_call 18; (refine HXL.out.mono ?_); rintro x w6 ⟨rfl, hb⟩; have HM6 := Lib.hid (HM5.out.below Dk.stands hb); have HXU := Lib.hid (used_m HM6.out (i := 0) rfl HCK.out); rw [HU0.out] at HXU; clear hb HXL HM5)
    | (go_at_call 19; first
      | ((refine HXU.out.mono ?_); rintro x w7 ⟨rfl, hb⟩; have HM7 := Lib.hid (HM6.out.below Dk.stands hb); have HXV := Lib.hid (used_m HM7.out (i := 1) rfl HKD.out); rw [HU1.out] at HXV; clear hb HXU HM6)
      | ((refine HXV.out.mono ?_); rintro x w8 ⟨rfl, hb⟩; have HM8 := Lib.hid (HM7.out.below Dk.stands hb); have HXF := Lib.hid (files_m HM8.out (i := 0) rfl HCK.out); unfold FsEnd at HXF; rw [HCF.out] at HXF; clear hb HXV HM7))
    | (go_at_call 15; first
      | ((refine HXF.out.mono ?_); rintro x w9 ⟨A1, c1, rfl, h1, _, hb⟩; have HM9 := Lib.hid (HM8.out.below Dk.stands hb); have HO9 := Lib.hid h1; have HXG := Lib.hid (files_m HM9.out (i := 1) rfl HKD.out); unfold FsEnd at HXG; rw [HFL.out] at HXG; clear hb h1 HXF HM8)
      | ((refine HXG.out.mono ?_); rintro x w10 ⟨A2, c2, rfl, h1, _, hb⟩; have HM10 := Lib.hid (HM9.out.below Dk.stands hb); have HXI := Lib.hid (ints_any (c := c1) (c2 := c2) (HO9.out.below hb (fun _ hk => HO9.out.lt hk)).rd h1.rd (Nat.le_trans h1.le h1.cap) (Nat.le_trans h1.le h1.cap)); clear hb h1 HXG HM9 HO9))
    | (go_at_call 14; (refine HXI.out.mono ?_); rintro x w11 ⟨rfl, hb⟩; have HM11 := Lib.hid (HM10.out.below Dk.stands hb); clear hb HXI HM10))
  have HXF := Lib.hid (files_m HM11.out (i := 0) rfl HCK.out)
  unfold FsEnd at HXF
  rw [HCF.out] at HXF
  go_upto_region 12 with (go_at_call 15; (refine HXF.out.mono ?_); rintro x w12 ⟨Lx, cl, rfl, h1, hF, hb⟩; have HM12 := Lib.hid (HM11.out.below Dk.stands hb); have HL12 := Lib.hid h1; clear hb h1 hF HXF HM11)
  clear HU0 HU1 HSP HCN hu2 hlo9 hus9 HCF HFL
  go_wp2
  go_loopw [11] (KpRel w w1 (fun _ => False) [(g1, E), (g2, D)] Lx cl fl) (fun t _ => fl.length - (intOf t).toNat)
  case atStart => exact ⟨⟨0, by omega, rfl, HM12, HL12⟩⟩
  case round =>
    obtain ⟨k, hk, rfl, HM, HO⟩ := hrel.out
    clear hrel
    by_cases hlt : k < fl.length
    · obtain ⟨x, hx⟩ : ∃ x, fl[k]? = some x := ⟨_, List.getElem?_eq_getElem hlt⟩
      have hxi := HFO.out x (List.mem_of_getElem? hx)
      have HX := Lib.hid hx
      obtain ⟨bL, oL, rfl⟩ := HO.out.form (by omega)
      have y0 : wr.cell? ⟨bL, oL + k, none⟩ = some (.int .i64 x) := HO.out.cell (by rw [List.getElem?_map, hx]; rfl)
      have hcut := HCU.out x
      obtain ⟨hc1, hc2, hc3, hc4⟩ := hcut
      rw [HEE.out] at hc1 hc2 hc3 hc4
      have HX1 := Lib.hid (read_m HM.out (i := 0) rfl HCK.out hxi)
      unfold RdEnd at HX1
      obtain ⟨bs1, hbs1⟩ : ∃ bs1, Dk.bsD E x = bs1 := ⟨_, rfl⟩
      obtain ⟨bs2, hbs2⟩ : ∃ bs2, Dk.bsD D x = bs2 := ⟨_, rfl⟩
      obtain ⟨sy, hsy⟩ : ∃ sy, Dk.synF D.fs x = sy := ⟨_, rfl⟩
      obtain ⟨n1, hn1⟩ : ∃ n1, bs1.length = n1 := ⟨_, rfl⟩
      obtain ⟨n2, hn2⟩ : ∃ n2, bs2.length = n2 := ⟨_, rfl⟩
      rw [hbs1, hbs2, hn1, hn2] at hc2
      rw [hbs1, hbs2, hn1] at hc3
      rw [hbs1, hn1] at hc4
      rw [hsy, hbs1, hn1] at hc1
      rw [hbs1, hn1] at HX1
      have HB2 := Lib.hid hbs2
      have HSY := Lib.hid hsy
      have HN1 := Lib.hid hn1
      have HN2 := Lib.hid hn2
      have HC3 := Lib.hid hc3
      have HC4 := Lib.hid hc4
      have d0 : decide ((k : Int) < (fl.length : Int)) = true := by simp; omega
      clear hx hbs1 hbs2 hsy hn1 hn2 hc3 hc4
      go_upto_region 16 with (go_at_call 13; (refine HX1.out.mono ?_); rintro y w13 ⟨A4, c4, rfl, h1, _, hb⟩; have HM13 := Lib.hid (HM.out.below Dk.stands hb); have HO13 := Lib.hid (HO.out.below hb (fun _ hk => HO.out.lt hk)); have HA13 := Lib.hid h1; clear h1 hb HX1 HM HO)
      clear y0
      have y0 : w13.cell? ⟨bL, oL + k, none⟩ = some (.int .i64 x) := HO13.out.cell (by rw [List.getElem?_map, HX.out]; rfl)
      have HX1 := Lib.hid (read_m HM13.out (i := 1) rfl HKD.out hxi)
      unfold RdEnd at HX1
      rw [HB2.out, HN2.out] at HX1
      go_upto_region 17 with (go_at_call 13; (refine HX1.out.mono ?_); rintro y w14 ⟨A5, c5, rfl, h1, _, hb⟩; have HM14 := Lib.hid (HM13.out.below Dk.stands hb); have HO14 := Lib.hid (HO13.out.below hb (fun _ hk => HO13.out.lt hk)); have HA14 := Lib.hid (HA13.out.below hb (fun _ hk => HA13.out.lt hk)); have HP14 := Lib.hid h1; clear h1 hb HX1 HM13 HO13 HA13)
      clear y0
      have y0 : w14.cell? ⟨bL, oL + k, none⟩ = some (.int .i64 x) := HO14.out.cell (by rw [List.getElem?_map, HX.out]; rfl)
      have HX1 := Lib.hid (synced_m HM14.out (i := 1) rfl hxi)
      rw [HSY.out] at HX1
      go_upto_region 18 with (go_at_call 20; (refine HX1.out.mono ?_); rintro y w15 ⟨rfl, hw15⟩; obtain rfl := hw15.symm; clear HX1 hw15)
      have hr5 := HP14.out.rd.take n1
      rw [← List.map_take, ← HC3.out] at hr5
      have HR5 := Lib.hid hr5
      have hf5 := Df.form_of HP14.out
      have hc5 : n1 ≤ c5 := by have := HP14.out.le; omega
      have hbl14 : bL < w14.heap.size := HO14.out.lt rfl
      have s5 := fun s => Df.sliced_cut s n1 hf5
      have S5 := Lib.hid s5
      clear hr5 hf5 s5
      refine Reg.wp_region_w (by kernel_rfl) 125 32 rfl rfl (by kernel_rfl) (0) (fun _ => False) (0) (fun _ => False) (0) (fun _ => False)
        (fun i v u => match i with
          | 0 => v = .slice A4 n1 c4
          | 1 => v = .int .i64 ((n1 : Nat) : Int)
          | 2 => v = .int .i64 (sy : Int)
          | 3 => v = .bool false
          | 4 => v = .bool false
          | 5 => v = .slice A4 n1 c4
          | 6 => v = .int .i64 ((n1 : Nat) : Int)
          | 7 => v = .slice A5 n2 c5
          | 8 => v = .int .i64 ((n2 : Nat) : Int)
          | 9 => v = .bool false
          | 10 => v = .bool false
          | 11 => v = .bool false
          | 12 => v = .slice A4 n1 c4
          | 13 => v = .string ⟨bs1.toArray⟩
          | 14 => v = .slice A5 n2 c5
          | 15 => v = .slice A4 n1 c4
          | 16 => v = .int .i64 ((n1 : Nat) : Int)
          | 17 => v = .slice A5 n1 c5
          | 18 => v = .string ⟨bs1.toArray⟩
          | 19 => v = .bool false
          | 20 => v = .bool false
          | 21 => v = .bool false
          | 22 => v = .pointer (some ⟨g1, 0, none⟩)
          | 23 => v = .slice (some ⟨bL, oL, none⟩) fl.length cl
          | 24 => v = .int .i64 (k : Int)
          | 25 => v = .pointer (some ⟨bL, oL + k, none⟩)
          | 26 => v = .int .i64 x
          | 27 => v = .int .i64 (n1 : Int)
          | 28 => v = .slice A4 n1 c4
          | 29 => v = .int .i64 ((n1 : Nat) : Int)
          | 30 => v = .bool false
          | 31 => v = .bool false
          | _ => True) ?_ ?_
      · refine Reg.Steps.cons ?_ (Reg.Steps.cons ?_ (Reg.Steps.cons ?_ (Reg.Steps.cons ?_ (Reg.Steps.cons ?_ (Reg.Steps.cons ?_ (Reg.Steps.cons ?_ (Reg.Steps.cons ?_ (Reg.Steps.cons ?_ (Reg.Steps.cons ?_ (Reg.Steps.cons ?_ (Reg.Steps.cons ?_ (Reg.Steps.cons ?_ (Reg.Steps.cons ?_ (Reg.Steps.cons ?_ (Reg.Steps.cons ?_ (Reg.Steps.cons ?_ (Reg.Steps.cons ?_ (Reg.Steps.cons ?_ (Reg.Steps.cons ?_ (Reg.Steps.cons ?_ (Reg.Steps.cons ?_ (Reg.Steps.cons ?_ (Reg.Steps.cons ?_ (Reg.Steps.cons ?_ (Reg.Steps.cons ?_ (Reg.Steps.cons ?_ (Reg.Steps.cons ?_ (Reg.Steps.cons ?_ (Reg.Steps.cons ?_ (Reg.Steps.cons ?_ (Reg.Steps.cons ?_ (Reg.Steps.nil _))))))))))))))))))))))))))))))))
        · intro val ac u hR hp ha K hK      -- 0: t93 := Op.move t12
          have e12 : (ac.tmps[12]?).getD undef = .slice A4 n1 c4 := ha 12 (by decide)
          clear ha hp
          refine Reg.Op1.plain rfl ?_
          go_wp2
          exact ⟨rfl, hK _ _ rfl (Reg.Wr.same _)⟩
        · intro val ac u hR hp ha K hK      -- 1: t94 := Op.call { builtin len, args := #[t93], argTypes := #[24] }
          obtain ⟨w93, h93, r93⟩ := hp 0 (by decide)
          have e93 : (ac.tmps[93]?).getD undef = .slice A4 n1 c4 := (ha 93 (by decide)).trans h93
          clear h93
          clear ha hp
          refine Reg.Op1.plain rfl ?_
          go_wp2
          exact ⟨rfl, hK _ _ rfl (Reg.Wr.same _)⟩
        · intro val ac u hR hp ha K hK      -- 2: t95 := Op.move t16
          have e16 : (ac.tmps[16]?).getD undef = .int .i64 (sy : Int) := ha 16 (by decide)
          clear ha hp
          refine Reg.Op1.plain rfl ?_
          go_wp2
          exact ⟨rfl, hK _ _ rfl (Reg.Wr.same _)⟩
        · intro val ac u hR hp ha K hK      -- 3: t96 := Op.binOp BinOp.lss 3 t94 t95 3
          obtain ⟨w94, h94, r94⟩ := hp 1 (by decide)
          have e94 : (ac.tmps[94]?).getD undef = .int .i64 ((n1 : Nat) : Int) := (ha 94 (by decide)).trans h94
          clear h94
          obtain ⟨w95, h95, r95⟩ := hp 2 (by decide)
          have e95 : (ac.tmps[95]?).getD undef = .int .i64 (sy : Int) := (ha 95 (by decide)).trans h95
          clear h95
          clear ha hp
          refine Reg.Op1.plain rfl ?_
          go_wp2
          exact ⟨rfl, hK _ _ (by simp; omega) (Reg.Wr.same _)⟩
        · intro val ac u hR hp ha K hK      -- 4: t97 := Op.move t96
          obtain ⟨w96, h96, r96⟩ := hp 3 (by decide)
          have e96 : (ac.tmps[96]?).getD undef = .bool false := (ha 96 (by decide)).trans h96
          clear h96
          clear ha hp
          refine Reg.Op1.plain rfl ?_
          go_wp2
          exact ⟨rfl, hK _ _ rfl (Reg.Wr.same _)⟩
        · intro val ac u hR hp ha K hK      -- 5: t98 := Op.move t12
          have e12 : (ac.tmps[12]?).getD undef = .slice A4 n1 c4 := ha 12 (by decide)
          obtain ⟨w97, h97, r97⟩ := hp 4 (by decide)
          have e97 : (ac.tmps[97]?).getD undef = .bool false := (ha 97 (by decide)).trans h97
          clear h97
          clear ha hp
          refine Reg.Op1.guarded rfl rfl e97 (fun _ => Reg.Op1.plain rfl ?_) (fun h => absurd rfl h)
          go_wp2
          exact ⟨rfl, hK _ _ rfl (Reg.Wr.same _)⟩
        · intro val ac u hR hp ha K hK      -- 6: t99 := Op.call { builtin len, args := #[t98], argTypes := #[24] }
          obtain ⟨w98, h98, r98⟩ := hp 5 (by decide)
          have e98 : (ac.tmps[98]?).getD undef = .slice A4 n1 c4 := (ha 98 (by decide)).trans h98
          clear h98
          obtain ⟨w97, h97, r97⟩ := hp 4 (by decide)
          have e97 : (ac.tmps[97]?).getD undef = .bool false := (ha 97 (by decide)).trans h97
          clear h97
          clear ha hp
          refine Reg.Op1.guarded rfl rfl e97 (fun _ => Reg.Op1.plain rfl ?_) (fun h => absurd rfl h)
          go_wp2
          exact ⟨rfl, hK _ _ rfl (Reg.Wr.same _)⟩
        · intro val ac u hR hp ha K hK      -- 7: t100 := Op.move t14
          have e14 : (ac.tmps[14]?).getD undef = .slice A5 n2 c5 := ha 14 (by decide)
          obtain ⟨w97, h97, r97⟩ := hp 4 (by decide)
          have e97 : (ac.tmps[97]?).getD undef = .bool false := (ha 97 (by decide)).trans h97
          clear h97
          clear ha hp
          refine Reg.Op1.guarded rfl rfl e97 (fun _ => Reg.Op1.plain rfl ?_) (fun h => absurd rfl h)
          go_wp2
          exact ⟨rfl, hK _ _ rfl (Reg.Wr.same _)⟩
        · intro val ac u hR hp ha K hK      -- 8: t101 := Op.call { builtin len, args := #[t100], argTypes := #[24] }
          obtain ⟨w100, h100, r100⟩ := hp 7 (by decide)
          have e100 : (ac.tmps[100]?).getD undef = .slice A5 n2 c5 := (ha 100 (by decide)).trans h100
          clear h100
          obtain ⟨w97, h97, r97⟩ := hp 4 (by decide)
          have e97 : (ac.tmps[97]?).getD undef = .bool false := (ha 97 (by decide)).trans h97
          clear h97
          clear ha hp
          refine Reg.Op1.guarded rfl rfl e97 (fun _ => Reg.Op1.plain rfl ?_) (fun h => absurd rfl h)
          go_wp2
          exact ⟨rfl, hK _ _ rfl (Reg.Wr.same _)⟩
        · intro val ac u hR hp ha K hK      -- 9: t102 := Op.binOp BinOp.gtr 3 t99 t101 3
          obtain ⟨w99, h99, r99⟩ := hp 6 (by decide)
          have e99 : (ac.tmps[99]?).getD undef = .int .i64 ((n1 : Nat) : Int) := (ha 99 (by decide)).trans h99
          clear h99
          obtain ⟨w101, h101, r101⟩ := hp 8 (by decide)
          have e101 : (ac.tmps[101]?).getD undef = .int .i64 ((n2 : Nat) : Int) := (ha 101 (by decide)).trans h101
          clear h101
          obtain ⟨w97, h97, r97⟩ := hp 4 (by decide)
          have e97 : (ac.tmps[97]?).getD undef = .bool false := (ha 97 (by decide)).trans h97
          clear h97
          clear ha hp
          refine Reg.Op1.guarded rfl rfl e97 (fun _ => Reg.Op1.plain rfl ?_) (fun h => absurd rfl h)
          go_wp2
          exact ⟨rfl, hK _ _ (by simp; omega) (Reg.Wr.same _)⟩
        · intro val ac u hR hp ha K hK      -- 10: t103 := Op.pick t97 (const (Value.bool true)) t102
          obtain ⟨w97, h97, r97⟩ := hp 4 (by decide)
          have e97 : (ac.tmps[97]?).getD undef = .bool false := (ha 97 (by decide)).trans h97
          clear h97
          obtain ⟨w102, h102, r102⟩ := hp 9 (by decide)
          have e102 : (ac.tmps[102]?).getD undef = .bool false := (ha 102 (by decide)).trans h102
          clear h102
          clear ha hp
          refine Reg.Op1.plain rfl ?_
          go_wp2
          exact ⟨rfl, hK _ _ rfl (Reg.Wr.same _)⟩
        · intro val ac u hR hp ha K hK      -- 11: t104 := Op.move t103
          obtain ⟨w103, h103, r103⟩ := hp 10 (by decide)
          have e103 : (ac.tmps[103]?).getD undef = .bool false := (ha 103 (by decide)).trans h103
          clear h103
          clear ha hp
          refine Reg.Op1.plain rfl ?_
          go_wp2
          exact ⟨rfl, hK _ _ rfl (Reg.Wr.same _)⟩
        · intro val ac u hR hp ha K hK      -- 12: t105 := Op.move t12
          have e12 : (ac.tmps[12]?).getD undef = .slice A4 n1 c4 := ha 12 (by decide)
          obtain ⟨w104, h104, r104⟩ := hp 11 (by decide)
          have e104 : (ac.tmps[104]?).getD undef = .bool false := (ha 104 (by decide)).trans h104
          clear h104
          clear ha hp
          refine Reg.Op1.guarded rfl rfl e104 (fun _ => Reg.Op1.plain rfl ?_) (fun h => absurd rfl h)
          go_wp2
          exact ⟨rfl, hK _ _ rfl (Reg.Wr.same _)⟩
        · intro val ac u hR hp ha K hK      -- 13: t106 := Op.convert 24 9 t105
          obtain ⟨w105, h105, r105⟩ := hp 12 (by decide)
          have e105 : (ac.tmps[105]?).getD undef = .slice A4 n1 c4 := (ha 105 (by decide)).trans h105
          clear h105
          obtain ⟨w104, h104, r104⟩ := hp 11 (by decide)
          have e104 : (ac.tmps[104]?).getD undef = .bool false := (ha 104 (by decide)).trans h104
          clear h104
          clear ha hp
          refine Reg.Op1.guarded rfl rfl e104 (fun _ => Reg.Op1.plain rfl ?_) (fun h => absurd rfl h)
          have hk0 : Mem.Keeps (fun _ => False) w14 u := (Mem.Keeps.refl (fun _ => False) w14).drew.trans (Reg.Wr.all hR) (fun _ h _ => h.elim id (fun h => h.elim id id))
          have hv := Dk.conv_bytes (W := u) c4 (HA14.out.keeps hk0 (fun _ _ h => h)).rd
          rw [HN1.out] at hv
          go_wp2
          exact ⟨rfl, hK _ _ rfl (Reg.Wr.same _)⟩
        · intro val ac u hR hp ha K hK      -- 14: t107 := Op.move t14
          have e14 : (ac.tmps[14]?).getD undef = .slice A5 n2 c5 := ha 14 (by decide)
          obtain ⟨w104, h104, r104⟩ := hp 11 (by decide)
          have e104 : (ac.tmps[104]?).getD undef = .bool false := (ha 104 (by decide)).trans h104
          clear h104
          clear ha hp
          refine Reg.Op1.guarded rfl rfl e104 (fun _ => Reg.Op1.plain rfl ?_) (fun h => absurd rfl h)
          go_wp2
          exact ⟨rfl, hK _ _ rfl (Reg.Wr.same _)⟩
        · intro val ac u hR hp ha K hK      -- 15: t108 := Op.move t12
          have e12 : (ac.tmps[12]?).getD undef = .slice A4 n1 c4 := ha 12 (by decide)
          obtain ⟨w104, h104, r104⟩ := hp 11 (by decide)
          have e104 : (ac.tmps[104]?).getD undef = .bool false := (ha 104 (by decide)).trans h104
          clear h104
          clear ha hp
          refine Reg.Op1.guarded rfl rfl e104 (fun _ => Reg.Op1.plain rfl ?_) (fun h => absurd rfl h)
          go_wp2
          exact ⟨rfl, hK _ _ rfl (Reg.Wr.same _)⟩
        · intro val ac u hR hp ha K hK      -- 16: t109 := Op.call { builtin len, args := #[t108], argTypes := #[24] }
          obtain ⟨w108, h108, r108⟩ := hp 15 (by decide)
          have e108 : (ac.tmps[108]?).getD undef = .slice A4 n1 c4 := (ha 108 (by decide)).trans h108
          clear h108
          obtain ⟨w104, h104, r104⟩ := hp 11 (by decide)
          have e104 : (ac.tmps[104]?).getD undef = .bool false := (ha 104 (by decide)).trans h104
          clear h104
          clear ha hp
          refine Reg.Op1.guarded rfl rfl e104 (fun _ => Reg.Op1.plain rfl ?_) (fun h => absurd rfl h)
          go_wp2
          exact ⟨rfl, hK _ _ rfl (Reg.Wr.same _)⟩
        · intro val ac u hR hp ha K hK      -- 17: t110 := Op.slice 24 t107 none (some t109) none
          obtain ⟨w107, h107, r107⟩ := hp 14 (by decide)
          have e107 : (ac.tmps[107]?).getD undef = .slice A5 n2 c5 := (ha 107 (by decide)).trans h107
          clear h107
          obtain ⟨w109, h109, r109⟩ := hp 16 (by decide)
          have e109 : (ac.tmps[109]?).getD undef = .int .i64 ((n1 : Nat) : Int) := (ha 109 (by decide)).trans h109
          clear h109
          obtain ⟨w104, h104, r104⟩ := hp 11 (by decide)
          have e104 : (ac.tmps[104]?).getD undef = .bool false := (ha 104 (by decide)).trans h104
          clear h104
          clear ha hp
          refine Reg.Op1.guarded rfl rfl e104 (fun _ => Reg.Op1.plain rfl ?_) (fun h => absurd rfl h)
          have s5 := S5.out
          go_wp2
          exact ⟨rfl, hK _ _ rfl (Reg.Wr.same _)⟩
        · intro val ac u hR hp ha K hK      -- 18: t111 := Op.convert 24 9 t110
          obtain ⟨w110, h110, r110⟩ := hp 17 (by decide)
          have e110 : (ac.tmps[110]?).getD undef = .slice A5 n1 c5 := (ha 110 (by decide)).trans h110
          clear h110
          obtain ⟨w104, h104, r104⟩ := hp 11 (by decide)
          have e104 : (ac.tmps[104]?).getD undef = .bool false := (ha 104 (by decide)).trans h104
          clear h104
          clear ha hp
          refine Reg.Op1.guarded rfl rfl e104 (fun _ => Reg.Op1.plain rfl ?_) (fun h => absurd rfl h)
          have hk0 : Mem.Keeps (fun _ => False) w14 u := (Mem.Keeps.refl (fun _ => False) w14).drew.trans (Reg.Wr.all hR) (fun _ h _ => h.elim id (fun h => h.elim id id))
          have hv := Dk.conv_bytes (W := u) c5 (HR5.out.keeps hk0 (fun _ h => h.elim) (Nat.le_refl _))
          rw [HN1.out] at hv
          go_wp2
          exact ⟨rfl, hK _ _ rfl (Reg.Wr.same _)⟩
        · intro val ac u hR hp ha K hK      -- 19: t112 := Op.binOp BinOp.neq 9 t106 t111 9
          obtain ⟨w106, h106, r106⟩ := hp 13 (by decide)
          have e106 : (ac.tmps[106]?).getD undef = .string ⟨bs1.toArray⟩ := (ha 106 (by decide)).trans h106
          clear h106
          obtain ⟨w111, h111, r111⟩ := hp 18 (by decide)
          have e111 : (ac.tmps[111]?).getD undef = .string ⟨bs1.toArray⟩ := (ha 111 (by decide)).trans h111
          clear h111
          obtain ⟨w104, h104, r104⟩ := hp 11 (by decide)
          have e104 : (ac.tmps[104]?).getD undef = .bool false := (ha 104 (by decide)).trans h104
          clear h104
          clear ha hp
          refine Reg.Op1.guarded rfl rfl e104 (fun _ => Reg.Op1.plain rfl ?_) (fun h => absurd rfl h)
          go_wp2
          exact ⟨rfl, hK _ _ (by simp) (Reg.Wr.same _)⟩
        · intro val ac u hR hp ha K hK      -- 20: t113 := Op.pick t104 (const (Value.bool true)) t112
          obtain ⟨w104, h104, r104⟩ := hp 11 (by decide)
          have e104 : (ac.tmps[104]?).getD undef = .bool false := (ha 104 (by decide)).trans h104
          clear h104
          obtain ⟨w112, h112, r112⟩ := hp 19 (by decide)
          have e112 : (ac.tmps[112]?).getD undef = .bool false := (ha 112 (by decide)).trans h112
          clear h112
          clear ha hp
          refine Reg.Op1.plain rfl ?_
          go_wp2
          exact ⟨rfl, hK _ _ rfl (Reg.Wr.same _)⟩
        · intro val ac u hR hp ha K hK      -- 21: t114 := Op.move t113
          obtain ⟨w113, h113, r113⟩ := hp 20 (by decide)
          have e113 : (ac.tmps[113]?).getD undef = .bool false := (ha 113 (by decide)).trans h113
          clear h113
          clear ha hp
          refine Reg.Op1.plain rfl ?_
          go_wp2
          exact ⟨rfl, hK _ _ rfl (Reg.Wr.same _)⟩
        · intro val ac u hR hp ha K hK      -- 22: t115 := Op.move t5
          have e5 : (ac.tmps[5]?).getD undef = .pointer (some ⟨g1, 0, none⟩) := ha 5 (by decide)
          obtain ⟨w114, h114, r114⟩ := hp 21 (by decide)
          have e114 : (ac.tmps[114]?).getD undef = .bool false := (ha 114 (by decide)).trans h114
          clear h114
          clear ha hp
          refine Reg.Op1.guarded rfl rfl e114 (fun _ => Reg.Op1.plain rfl ?_) (fun h => absurd rfl h)
          go_wp2
          exact ⟨rfl, hK _ _ rfl (Reg.Wr.same _)⟩
        · intro val ac u hR hp ha K hK      -- 23: t116 := Op.move t10
          have e10 : (ac.tmps[10]?).getD undef = .slice (some ⟨bL, oL, none⟩) fl.length cl := ha 10 (by decide)
          obtain ⟨w114, h114, r114⟩ := hp 21 (by decide)
          have e114 : (ac.tmps[114]?).getD undef = .bool false := (ha 114 (by decide)).trans h114
          clear h114
          clear ha hp
          refine Reg.Op1.guarded rfl rfl e114 (fun _ => Reg.Op1.plain rfl ?_) (fun h => absurd rfl h)
          go_wp2
          exact ⟨rfl, hK _ _ rfl (Reg.Wr.same _)⟩
        · intro val ac u hR hp ha K hK      -- 24: t117 := Op.move t11
          have e11 : (ac.tmps[11]?).getD undef = .int .i64 (k : Int) := ha 11 (by decide)
          obtain ⟨w114, h114, r114⟩ := hp 21 (by decide)
          have e114 : (ac.tmps[114]?).getD undef = .bool false := (ha 114 (by decide)).trans h114
          clear h114
          clear ha hp
          refine Reg.Op1.guarded rfl rfl e114 (fun _ => Reg.Op1.plain rfl ?_) (fun h => absurd rfl h)
          go_wp2
          exact ⟨rfl, hK _ _ rfl (Reg.Wr.same _)⟩
        · intro val ac u hR hp ha K hK      -- 25: t118 := Op.indexAddr 33 t116 t117
          obtain ⟨w116, h116, r116⟩ := hp 23 (by decide)
          have e116 : (ac.tmps[116]?).getD undef = .slice (some ⟨bL, oL, none⟩) fl.length cl := (ha 116 (by decide)).trans h116
          clear h116
          obtain ⟨w117, h117, r117⟩ := hp 24 (by decide)
          have e117 : (ac.tmps[117]?).getD undef = .int .i64 (k : Int) := (ha 117 (by decide)).trans h117
          clear h117
          obtain ⟨w114, h114, r114⟩ := hp 21 (by decide)
          have e114 : (ac.tmps[114]?).getD undef = .bool false := (ha 114 (by decide)).trans h114
          clear h114
          clear ha hp
          refine Reg.Op1.guarded rfl rfl e114 (fun _ => Reg.Op1.plain rfl ?_) (fun h => absurd rfl h)
          go_wp2
          exact ⟨rfl, hK _ _ rfl (Reg.Wr.same _)⟩
        · intro val ac u hR hp ha K hK      -- 26: t119 := Op.load 3 t118
          obtain ⟨w118, h118, r118⟩ := hp 25 (by decide)
          have e118 : (ac.tmps[118]?).getD undef = .pointer (some ⟨bL, oL + k, none⟩) := (ha 118 (by decide)).trans h118
          clear h118
          obtain ⟨w114, h114, r114⟩ := hp 21 (by decide)
          have e114 : (ac.tmps[114]?).getD undef = .bool false := (ha 114 (by decide)).trans h114
          clear h114
          clear ha hp
          refine Reg.Op1.guarded rfl rfl e114 (fun _ => Reg.Op1.plain rfl ?_) (fun h => absurd rfl h)
          have x0 := (((Reg.Wr.all hR)).cell (p := ⟨bL, oL + k, none⟩) (hbl14) ((fun h => h.elim id (fun h => h.elim id id)))).trans (y0)
          go_wp2
          exact ⟨rfl, hK _ _ rfl (Reg.Wr.same _)⟩
        · intro val ac u hR hp ha K hK      -- 27: t120 := Op.call { value (Operand.func 20), args := #[t115, t119], argTypes := #[25, 3] }
          obtain ⟨w115, h115, r115⟩ := hp 22 (by decide)
          have e115 : (ac.tmps[115]?).getD undef = .pointer (some ⟨g1, 0, none⟩) := (ha 115 (by decide)).trans h115
          clear h115
          obtain ⟨w119, h119, r119⟩ := hp 26 (by decide)
          have e119 : (ac.tmps[119]?).getD undef = .int .i64 x := (ha 119 (by decide)).trans h119
          clear h119
          obtain ⟨w114, h114, r114⟩ := hp 21 (by decide)
          have e114 : (ac.tmps[114]?).getD undef = .bool false := (ha 114 (by decide)).trans h114
          clear h114
          clear ha hp
          refine Reg.Op1.guarded rfl rfl e114 (fun _ => Reg.Op1.plain rfl ?_) (fun h => absurd rfl h)
          have hk0 : Mem.Keeps (fun _ => False) w14 u := (Mem.Keeps.refl (fun _ => False) w14).drew.trans (Reg.Wr.all hR) (fun _ h _ => h.elim id (fun h => h.elim id id))
          have hp := synced_m (HM14.out.keeps Dk.stands hk0 (fun _ h _ => h.elim)) (i := 0) rfl hxi
          rw [HC4.out] at hp
          go_wp2_with fail
          refine hp.mono ?_
          rintro y w' ⟨rfl, rfl⟩
          go_wp2_with fail
          exact ⟨rfl, hK _ _ rfl (Reg.Wr.same _)⟩
        · intro val ac u hR hp ha K hK      -- 28: t121 := Op.move t12
          have e12 : (ac.tmps[12]?).getD undef = .slice A4 n1 c4 := ha 12 (by decide)
          obtain ⟨w114, h114, r114⟩ := hp 21 (by decide)
          have e114 : (ac.tmps[114]?).getD undef = .bool false := (ha 114 (by decide)).trans h114
          clear h114
          clear ha hp
          refine Reg.Op1.guarded rfl rfl e114 (fun _ => Reg.Op1.plain rfl ?_) (fun h => absurd rfl h)
          go_wp2
          exact ⟨rfl, hK _ _ rfl (Reg.Wr.same _)⟩
        · intro val ac u hR hp ha K hK      -- 29: t122 := Op.call { builtin len, args := #[t121], argTypes := #[24] }
          obtain ⟨w121, h121, r121⟩ := hp 28 (by decide)
          have e121 : (ac.tmps[121]?).getD undef = .slice A4 n1 c4 := (ha 121 (by decide)).trans h121
          clear h121
          obtain ⟨w114, h114, r114⟩ := hp 21 (by decide)
          have e114 : (ac.tmps[114]?).getD undef = .bool false := (ha 114 (by decide)).trans h114
          clear h114
          clear ha hp
          refine Reg.Op1.guarded rfl rfl e114 (fun _ => Reg.Op1.plain rfl ?_) (fun h => absurd rfl h)
          go_wp2
          exact ⟨rfl, hK _ _ rfl (Reg.Wr.same _)⟩
        · intro val ac u hR hp ha K hK      -- 30: t123 := Op.binOp BinOp.neq 3 t120 t122 3
          obtain ⟨w120, h120, r120⟩ := hp 27 (by decide)
          have e120 : (ac.tmps[120]?).getD undef = .int .i64 (n1 : Int) := (ha 120 (by decide)).trans h120
          clear h120
          obtain ⟨w122, h122, r122⟩ := hp 29 (by decide)
          have e122 : (ac.tmps[122]?).getD undef = .int .i64 ((n1 : Nat) : Int) := (ha 122 (by decide)).trans h122
          clear h122
          obtain ⟨w114, h114, r114⟩ := hp 21 (by decide)
          have e114 : (ac.tmps[114]?).getD undef = .bool false := (ha 114 (by decide)).trans h114
          clear h114
          clear ha hp
          refine Reg.Op1.guarded rfl rfl e114 (fun _ => Reg.Op1.plain rfl ?_) (fun h => absurd rfl h)
          go_wp2
          exact ⟨rfl, hK _ _ (by simp) (Reg.Wr.same _)⟩
        · intro val ac u hR hp ha K hK      -- 31: t124 := Op.pick t114 (const (Value.bool true)) t123
          obtain ⟨w114, h114, r114⟩ := hp 21 (by decide)
          have e114 : (ac.tmps[114]?).getD undef = .bool false := (ha 114 (by decide)).trans h114
          clear h114
          obtain ⟨w123, h123, r123⟩ := hp 30 (by decide)
          have e123 : (ac.tmps[123]?).getD undef = .bool false := (ha 123 (by decide)).trans h123
          clear h123
          clear ha hp
          refine Reg.Op1.plain rfl ?_
          go_wp2
          exact ⟨rfl, hK _ _ rfl (Reg.Wr.same _)⟩
      intro val u hR H
      obtain ⟨_, hv9, _⟩ := H 31 (by decide)
      have hk8 : Mem.Keeps (fun _ => False) w14 u := ((Mem.Keeps.refl (fun _ => False) w14).drew.trans (Reg.Wr.all hR) (fun _ h _ => h.elim id (fun h => h.elim id id)))
      obtain ⟨w16, hw16⟩ : ∃ w16, u = w16 := ⟨_, rfl⟩
      rw [hw16] at hk8
      rw [hw16]
      simp only [List.map_cons, List.map_nil, Reg.lay, Act.put, List.setIfInBounds_toArray, List.set_cons_succ, List.set_cons_zero, Nat.reduceAdd]
      rw [hv9]
      clear hR H hv9 hw16
      have HM16 := Lib.hid (HM14.out.keeps Dk.stands hk8 (fun _ h _ => h.elim))
      have HO16 := Lib.hid (HO14.out.keeps hk8 (fun _ _ h => h))
      clear hk8
      go_wp2
      go_roundw
      case rel => exact ⟨⟨k + 1, by omega, by go_num, HM16, HO16⟩⟩
      case measure => simp [intOf]; omega
    · obtain rfl : k = fl.length := by omega
      have d0 : decide ((fl.length : Int) < (fl.length : Int)) = false := by simp
      go_wp2
      go_ret
      exact ⟨rfl, HB1.out.trans (HM.out.bel.mono HB1.out.size)⟩
theorem opened {H : Type} (enc : TypeId × Value → H) (W : World) (base : Nat) (v0 v1 : Value) {d0 d1 : DataW H} {p0 p1 : List MemPlace}
    (o0 : Value.okWide Try.prog W .any base 36 v0) (o1 : Value.okWide Try.prog W .any base 3 v1)
    (k0 : DataW.Trod enc Try.prog W 0 (fun _ => true) true 36 v0 d0 p0) (k1 : DataW.Trod enc Try.prog W 0 (fun _ => true) true 3 v1 d1 p1)
    (z0 : (d0.weights Try.prog 36).all (· ≤ reachBytes) = true) (z1 : (d1.weights Try.prog 3).all (· ≤ reachBytes) = true) :
    Calls Try.prog 5 #[v0, v1] W fun e w' => e = .returned (.bool true) ∧ Below W.heap.size W w' := by
  obtain ⟨A, c, ps, rfl, h1, h2, h3, h4⟩ := open_dacts o0 k0 z0
  obtain ⟨a1, rfl, rfl, rfl, w1⟩ := open_int Try.underlying3 o1 k1
  have hb1 := bounds_i64 w1
  exact walk A c ps a1 W ⟨by omega, by omega⟩ h3 h4 h1 h2
end diskKeepsOpen
end Go.Proofs.Ytfpfpdhfnleebaa
