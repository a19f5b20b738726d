/- The walk of DiskFresh: what is told is new memory. No conditions. -/
import Derived.Test.YtfpfpdhfnleebaaDisk16
set_option maxRecDepth 8000
namespace Go.Proofs.Ytfpfpdhfnleebaa
open Go.ChangeShapes Go.WideShapes Go.ChangeAt Go.RowKit
set_option linter.unusedVariables false
set_option linter.unusedSimpArgs false
namespace Dq
structure ZRel (w : World) (e : TypeId) (A : Option Addr) (n c : Nat) (v : Value) (wr : World) : Prop where
  out : ∃ (k : Nat) (ys : List Value), k ≤ n ∧ v = .int .i64 k ∧ Hid (Mem.Own wr e 1 A n c ys) ∧ Hid (Mem.Keeps (fun q => Mem.blk A = some q) w wr)
theorem le_sum {l : List Nat} {x : Nat} (h : x ∈ l) : x ≤ l.sum := by
  induction l with
  | nil => cases h
  | cons y l ih =>
    rw [List.sum_cons]
    rcases List.mem_cons.1 h with rfl | h
    · omega
    · have := ih h; omega
end Dq
namespace diskFreshOpen
open Dq
set_option maxHeartbeats 8000000 in
theorem walk (A : Option Addr) (c : Nat) (ps : List Ac) (n : Int) (w : World) (hn : Dk.okI n) (hR : Mem.Rd w w.heap.size A (ps.flatMap acCells)) (hok : ∀ a ∈ ps, AcOk w w.heap.size a) (hl : ps.length ≤ c) (hc : c ≤ 17592186044416) :
    Calls Try.prog 4 #[.slice A ps.length c, .int .i64 n] w fun e w' => e = .returned (.bool true) ∧ Below w.heap.size w w' := by
  have HR := Lib.hid hR
  have HOK := Lib.hid hok
  have HA := Lib.hid (diskAble_any w)
  clear hR hok
  go_enter Try.func4, Try.ntmps4
  go_upto_region 3 with (go_at_call 9; (refine HA.out.mono ?_); rintro x w1 ⟨rfl, hb1⟩; have HB1 := Lib.hid hb1; clear hb1 HA)
  have HR1 := Lib.hid (HR.out.below HB1.out)
  have HMU := Lib.hid (dkMuch_any (c := c) HR1.out (by omega) (fun a ha => (HOK.out a ha).2.2.2.2.2.2))
  obtain ⟨bg, hbg⟩ : ∃ bg, bigS ps = bg := ⟨_, rfl⟩
  rw [hbg] at HMU
  by_cases hbt : bg = true
  · subst hbt
    go_wp2_with (go_at_call 16; (refine HMU.out.mono ?_); rintro x w2 ⟨rfl, rfl⟩; clear HMU)
    go_ret
    exact ⟨rfl, HB1.out⟩
  obtain rfl : bg = false := by simpa using hbt
  have ht : tot ps ps.length ≤ 20000 := by unfold bigS at hbg; simpa using hbg
  have HT := Lib.hid ht
  have hlen : ps.length ≤ 1000 := by have := tot_le ps 0; rw [tot_zero] at this; omega
  have HOK1 : Hid (∀ a ∈ ps, AcOk w1 w.heap.size a) := fun a ha => (HOK.out a ha).below HB1.out (Nat.le_refl _)
  have HN := Lib.hid (made_m (Mem.Many.none Dk.DAt w1) HR1.out HB1.out.size HOK1.out hl hc ht)
  have hok9 := (play_ok ps).mono hlen
  have hfs9 := play_fs (fun a ha => (HOK.out a ha).2.2.2.2.1)
  have HFO := Lib.hid (files_ok hfs9)
  obtain ⟨D, hD⟩ : ∃ D, playD ps = D := ⟨_, rfl⟩
  have HPD := Lib.hid hD
  rw [hD] at HN hok9 HFO
  have HKD := Lib.hid hok9
  clear hbg ht hbt hok9 hfs9 hD
  go_upto_region 6 with (first
    | (go_at_call 16; (refine HMU.out.mono ?_); rintro x w2 ⟨rfl, hw2⟩; obtain rfl := hw2.symm; clear HMU hw2)
    | (go_at_call 17; (refine HN.out.mono ?_); rintro x w2 ⟨g1, rfl, h1, hb1⟩; have HM2 : Hid (Dk.Ds w1 (fun _ => False) [(g1, D)] w2) := h1; clear HN h1 hb1))
  have HX1 := Lib.hid (read_m HM2.out (i := 0) rfl HKD.out hn)
  unfold RdEnd at HX1
  obtain ⟨bs, hbs⟩ : ∃ bs, Dk.bsD D n = bs := ⟨_, rfl⟩
  obtain ⟨nb, hnb⟩ : ∃ nb, bs.length = nb := ⟨_, rfl⟩
  obtain ⟨er, her⟩ : ∃ er, Dk.there D n = er := ⟨_, rfl⟩
  have hee : er = 0 ∨ bs = [] := by
    rw [← her, ← hbs]
    unfold Dk.there Dk.bsD
    cases Dk.findF D.fs n
    · exact .inr rfl
    · exact .inl rfl
  have HEE := Lib.hid hee
  have HBS := Lib.hid hbs
  have HNB := Lib.hid hnb
  have HER := Lib.hid her
  have hb9 : nb ≤ 1048576 := by
    have h1 := HKD.out.used
    rw [← hnb, ← hbs]
    unfold Dk.bsD
    cases hf : Dk.findF D.fs n with
    | none => simp
    | some f =>
      have h2 := (Dk.find_some hf).1
      have h3 : f.bs.length ≤ (D.fs.map fun f => f.bs.length).sum := le_sum (List.mem_map.2 ⟨f, h2, rfl⟩)
      unfold Dk.usedD at h1
      exact Nat.le_trans h3 h1
  rw [hbs, hnb, her] at HX1
  clear HR HOK HR1 HOK1 HPD HT hbs hnb her hee
  go_upto_region 7 with (go_at_call 13; (refine HX1.out.mono ?_); rintro y w3 ⟨A3, c3, rfl, h1, hF, hb⟩; have HM3 := Lib.hid (HM2.out.more Dk.stands hb (R' := fun k => Mem.blk A3 = some k) (fun k hk => ⟨hF.blk k hk, h1.lt hk⟩)); have HA3 := Lib.hid h1; have HF3 : Hid (Mem.From w1.heap.size A3) := hF.mono HM2.out.bel.size; clear h1 hb hF HX1 HM2)
  have HX1 := Lib.hid (read_m HM3.out (i := 0) rfl HKD.out hn)
  unfold RdEnd at HX1
  rw [HBS.out, HNB.out, HER.out] at HX1
  go_upto_region 8 with (go_at_call 13; (refine HX1.out.mono ?_); rintro y w4 ⟨A4, c4, rfl, h1, hF, hb⟩; have HM4 := Lib.hid (HM3.out.below Dk.stands hb); have HA4 := Lib.hid (HA3.out.below hb (fun _ hk => HA3.out.lt hk)); have HB4 := Lib.hid h1; have HNE : Hid (∀ k, Mem.blk A4 = some k → Mem.blk A3 ≠ some k) := (fun k hk h9 => by have h8 := hF.blk k hk; have h7 := HA3.out.lt h9; omega); clear h1 hb hF HX1 HM3 HA3)
  have v1 := Dk.conv_bytes (W := w4) c3 HA4.out.rd
  rw [HNB.out] at v1
  go_upto_region 9 with fail
  clear v1
  have HN63 : Hid (nb + 1 ≤ maxLen) := by show _ ≤ _; unfold maxLen; omega
  go_wp2
  go_loopw [11] (ZRel w4 5 A3 nb c3) (fun t _ => nb - (intOf t).toNat)
  case atStart => exact ⟨⟨0, _, by omega, rfl, HA4, Mem.Keeps.refl _ _⟩⟩
  case round =>
    obtain ⟨k, ys, hk, rfl, HY, HK⟩ := hrel.out
    clear hrel
    by_cases hlt : k < nb
    · obtain ⟨bX, oX, hXe⟩ := HY.out.form (by omega)
      have hys : ys.length = nb := by have := HY.out.len; omega
      have hY := HY.out
      rw [hXe] at hY
      have yt : wr.cell? ⟨bX, oX + k, none⟩ = some (ys[k]'(by omega)) := hY.cell (List.getElem?_eq_getElem _)
      have yf : ∀ i, wr.frozen? ⟨bX, i, none⟩ = false := hY.free
      have HY2 := Lib.hid (hY.set k (.int .u8 0))
      have HK2 := Lib.hid (HK.out.setCell (p := ⟨bX, oX + k, none⟩) (fun _ => by rw [hXe]; rfl) (.int .u8 0))
      have HXE := Lib.hid hXe
      have d0 : decide ((k : Int) < (nb : Int)) = true := by simp; omega
      clear HY HK hY
      subst hXe
      go_wp2
      go_roundw
      case rel => exact ⟨⟨k + 1, _, by omega, by go_num, HY2, HK2⟩⟩
      case measure => simp [intOf]; omega
    · obtain rfl : nb = k := by omega
      have d0 : decide ((nb : Int) < (nb : Int)) = false := by simp
      have HM5 := Lib.hid (HM4.out.keeps Dk.stands HK.out (fun k hk _ => .inr hk))
      have HB5 := Lib.hid (HB4.out.keeps HK.out (fun k hk h => HNE.out k hk h))
      have hn63 := HN63.out
      have hZ5 := HM5.out.bel.size
      clear HK HM4 HB4 HA4
      go_upto_region 14 with (at_builtin; refine Mem.wpList_app _ rfl (.tmp 46) (.tmp 47) _ rfl bytes_elem A3 nb c3 ys rfl (wr.heap.size + 1) (some ⟨wr.heap.size, 0, none⟩) 1 1 [.int .u8 1] rfl ?_ (HY.out.alloc _) (Mem.Rd.alloc_new wr _ _ _ rfl) rfl (by simp [Value.oneCell']) hn63 (by omega); intro A6 c6 w6 hown hg6 hat; have hkk := ((Mem.Keeps.refl (fun q => Mem.blk A3 = some q) wr).alloc (.cells #[.int .u8 1] 5)).grown hg6 (fun q hq _ => hq); have HM6 := Lib.hid (HM5.out.keeps Dk.stands hkk (fun k hk _ => .inr hk)); have HB6 := Lib.hid (HB5.out.keeps hkk (fun k hk h => HNE.out k hk h)); clear hown hg6 hat hkk HM5 HB5 HY)
      have HX1 := Lib.hid (files_m HM6.out (i := 0) rfl HKD.out)
      unfold FsEnd at HX1
      obtain ⟨fl, hfl⟩ : ∃ fl, Dk.filesD D = fl := ⟨_, rfl⟩
      have HFL := Lib.hid hfl
      have hnl : fl.length ≤ 64 := by rw [← hfl, files_len]; exact HKD.out.cnt
      rw [hfl] at HX1
      clear hfl hZ5
      go_upto_region 15 with (go_at_call 15; first
        | ((refine HX1.out.mono ?_); rintro x w7 ⟨Lx, cl, rfl, h1, hF, hb⟩; have HM7 := Lib.hid (HM6.out.more Dk.stands hb (R' := fun k => Mem.blk Lx = some k) (fun k hk => ⟨hF.blk k hk, h1.lt hk⟩)); have HL7 := Lib.hid h1; have HB7 := Lib.hid (HB6.out.below hb (fun _ hk => HB6.out.lt hk)); have HNL : Hid (∀ k, Mem.blk A4 = some k → Mem.blk Lx ≠ some k) := (fun k hk h9 => by have h8 := hF.blk k h9; have h7 := HB6.out.lt hk; omega); have HX2 := Lib.hid (files_m HM7.out (i := 0) rfl HKD.out); unfold FsEnd at HX2; rw [HFL.out] at HX2; clear hb h1 hF HX1 HM6 HB6)
        | ((refine HX2.out.mono ?_); rintro x w8 ⟨Kx, ck, rfl, h1, hF, hb⟩; have HM8 := Lib.hid (HM7.out.below Dk.stands hb); have HL8 := Lib.hid (HL7.out.below hb (fun _ hk => HL7.out.lt hk)); have HB8 := Lib.hid (HB7.out.below hb (fun _ hk => HB7.out.lt hk)); have HK8 := Lib.hid h1; have HNK : Hid (∀ k, Mem.blk Kx = some k → Mem.blk Lx ≠ some k) := (fun k hk h9 => by have h8 := hF.blk k hk; have h7 := HL7.out.lt h9; omega); clear hb h1 hF HX2 HM7 HB7 HL7))
      obtain ⟨nf, hnf⟩ : ∃ nf, fl.length = nf := ⟨_, rfl⟩
      have HNF := Lib.hid hnf
      rw [hnf] at hnl HL8 HK8 ⊢
      clear hnf
      go_wp2
      go_loopw [14] (ZRel w8 3 Lx nf cl) (fun t _ => nf - (intOf t).toNat)
      case atStart => exact ⟨⟨0, _, by omega, rfl, HL8, Mem.Keeps.refl _ _⟩⟩
      case round =>
        obtain ⟨k, ys, hk, rfl, HY, HK⟩ := hrel.out
        clear hrel
        by_cases hlt : k < nf
        · obtain ⟨bX, oX, hXe⟩ := HY.out.form (by omega)
          have hys : ys.length = nf := by have := HY.out.len; omega
          have hY := HY.out
          rw [hXe] at hY
          have yt : wr.cell? ⟨bX, oX + k, none⟩ = some (ys[k]'(by omega)) := hY.cell (List.getElem?_eq_getElem _)
          have yf : ∀ i, wr.frozen? ⟨bX, i, none⟩ = false := hY.free
          have HY2 := Lib.hid (hY.set k (.int .i64 (-1)))
          have HK2 := Lib.hid (HK.out.setCell (p := ⟨bX, oX + k, none⟩) (fun _ => by rw [hXe]; rfl) (.int .i64 (-1)))
          have HXE := Lib.hid hXe
          have d0 : decide ((k : Int) < (nf : Int)) = true := by simp; omega
          clear HY HK hY
          subst hXe
          go_wp2
          go_roundw
          case rel => exact ⟨⟨k + 1, _, by omega, by go_num, HY2, HK2⟩⟩
          case measure => simp [intOf]; omega
        · obtain rfl : nf = k := by omega
          have d0 : decide ((nf : Int) < (nf : Int)) = false := by simp
          have HM9 := Lib.hid (HM8.out.keeps Dk.stands HK.out (fun k hk _ => .inr hk))
          have HB9 := Lib.hid (HB8.out.keeps HK.out (fun k hk h => HNL.out k hk h))
          have HK9 := Lib.hid (HK8.out.keeps HK.out (fun k hk h => HNK.out k hk h))
          have hn63b : nf + 1 ≤ maxLen := by unfold maxLen; omega
          clear HK HM8 HB8 HK8
          go_upto_region 20 with (at_builtin; refine Mem.wpList_app _ rfl (.tmp 62) (.tmp 63) _ rfl ints_elem Lx nf cl ys rfl (wr.heap.size + 1) (some ⟨wr.heap.size, 0, none⟩) 1 1 [.int .i64 (-2)] rfl ?_ (HY.out.alloc _) (Mem.Rd.alloc_new wr _ _ _ rfl) rfl (by simp [Value.oneCell']) hn63b (by omega); intro L2 c2 w10 hown hg6 hat; have hkk := ((Mem.Keeps.refl (fun q => Mem.blk Lx = some q) wr).alloc (.cells #[.int .i64 (-2)] 3)).grown hg6 (fun q hq _ => hq); have HM10 := Lib.hid (HM9.out.keeps Dk.stands hkk (fun k hk _ => .inr hk)); have HB10 := Lib.hid (HB9.out.keeps hkk (fun k hk h => HNL.out k hk h)); have HK10 := Lib.hid (HK9.out.keeps hkk (fun k hk h => HNK.out k hk h)); have HL10 := Lib.hid hown; clear hown hg6 hat hkk HM9 HB9 HK9)
          have hyl : ys.length = nf := by have := HY.out.len; omega
          obtain ⟨bL, oL, rfl⟩ := HL10.out.form (by omega)
          have hy5 : w10.cell? ⟨bL, oL + nf, none⟩ = some (.int .i64 (-2)) := HL10.out.cell (by rw [List.getElem?_append_right (by omega), hyl, Nat.sub_self]; rfl)
          have HY5 := Lib.hid hy5
          have HX1 := Lib.hid (read_m HM10.out (i := 0) rfl HKD.out hn)
          unfold RdEnd at HX1
          rw [HBS.out, HNB.out, HER.out] at HX1
          clear hyl HY hy5
          go_upto_region 21 with (go_at_call 13; (refine HX1.out.mono ?_); rintro y w11 ⟨A11, c11, rfl, h1, hF, hb⟩; have HM11 := Lib.hid (HM10.out.below Dk.stands hb); have HB11 := Lib.hid (HB10.out.below hb (fun _ hk => HB10.out.lt hk)); have HK11 := Lib.hid (HK10.out.below hb (fun _ hk => HK10.out.lt hk)); have HL11 := Lib.hid (HL10.out.below hb (fun _ hk => HL10.out.lt hk)); have HC11 := Lib.hid h1; have y6 : w11.cell? ⟨bL, oL + nf, none⟩ = some (.int .i64 (-2)) := (hb.cell (p := ⟨bL, oL + nf, none⟩) (HL10.out.lt rfl)).trans HY5.out; clear h1 hb hF HX1 HM10 HB10 HK10 HL10)
          have v1 := Dk.conv_bytes (W := w11) c4 HB11.out.rd
          have v2 := Dk.conv_bytes (W := w11) c11 HC11.out.rd
          rw [HNB.out] at v1 v2
          have hbL : bL < w11.heap.size := HL11.out.lt rfl
          have HX1 := Lib.hid (files_m HM11.out (i := 0) rfl HKD.out)
          unfold FsEnd at HX1
          rw [HFL.out, HNF.out] at HX1
          have HII : Hid (∀ {w : World} {A A2 : Option Addr} (c c2 : Nat), Mem.Rd w w.heap.size A (fl.map (Value.int .i64)) → Mem.Rd w w.heap.size A2 (fl.map (Value.int .i64)) → Calls Try.prog 14 #[.slice A nf c, .slice A2 nf c2] w fun e w' => e = .returned (.bool (decide (fl = fl))) ∧ Below w.heap.size w w') := by
            intro w A A2 c c2 h1 h2
            have := ints_any (c := c) (c2 := c2) h1 h2 (by rw [HNF.out]; unfold maxLen; omega) (by rw [HNF.out]; unfold maxLen; omega)
            rw [HNF.out] at this
            exact this
          have HSZ : Hid (bs.toArray.size = nb) := by show _ = _; rw [List.size_toArray]; exact HNB.out
          clear HB11 HC11
          rcases HEE.out with h0 | h0
          · subst h0
            have hsz := HSZ.out
            go_wp2_with (first
              | (go_at_call 15; (refine HX1.out.mono ?_); rintro x w12 ⟨A12, c12, rfl, h1, _, hb⟩; have HM12 := Lib.hid (HM11.out.below Dk.stands hb); have HL12 := Lib.hid (HL11.out.below hb (fun _ hk => HL11.out.lt hk)); have y7 : w12.cell? ⟨bL, oL + nf, none⟩ = some (.int .i64 (-2)) := (hb.cell (p := ⟨bL, oL + nf, none⟩) hbL).trans y6; have HXI := Lib.hid (HII.out ck c12 (HK11.out.below hb (fun _ hk => HK11.out.lt hk)).rd h1.rd); clear h1 hb HX1 HM11 HL11 v1 v2 y6)
              | (go_at_call 14; (refine HXI.out.mono ?_); rintro x w13 ⟨rfl, hb⟩; have HM13 := Lib.hid (HM12.out.below Dk.stands hb); have hbL2 : bL < w12.heap.size := HL12.out.lt rfl; have y8 : w13.cell? ⟨bL, oL + nf, none⟩ = some (.int .i64 (-2)) := (hb.cell (p := ⟨bL, oL + nf, none⟩) hbL2).trans y7; clear hb HXI HM12 y7))
            go_ret
            exact ⟨by simp, HB1.out.trans (HM13.out.bel.mono HB1.out.size)⟩
          · subst h0
            obtain rfl : 0 = nb := by have := HNB.out; simpa using this
            by_cases h0 : er = 0
            · subst h0
              go_wp2_with (first
                | (go_at_call 15; (refine HX1.out.mono ?_); rintro x w12 ⟨A12, c12, rfl, h1, _, hb⟩; have HM12 := Lib.hid (HM11.out.below Dk.stands hb); have HL12 := Lib.hid (HL11.out.below hb (fun _ hk => HL11.out.lt hk)); have y7 : w12.cell? ⟨bL, oL + nf, none⟩ = some (.int .i64 (-2)) := (hb.cell (p := ⟨bL, oL + nf, none⟩) hbL).trans y6; have HXI := Lib.hid (HII.out ck c12 (HK11.out.below hb (fun _ hk => HK11.out.lt hk)).rd h1.rd); clear h1 hb HX1 HM11 HL11 v1 v2 y6)
                | (go_at_call 14; (refine HXI.out.mono ?_); rintro x w13 ⟨rfl, hb⟩; have HM13 := Lib.hid (HM12.out.below Dk.stands hb); have hbL2 : bL < w12.heap.size := HL12.out.lt rfl; have y8 : w13.cell? ⟨bL, oL + nf, none⟩ = some (.int .i64 (-2)) := (hb.cell (p := ⟨bL, oL + nf, none⟩) hbL2).trans y7; clear hb HXI HM12 y7))
              go_ret
              exact ⟨by simp, HB1.out.trans (HM13.out.bel.mono HB1.out.size)⟩
            · have e0 : (er == 0) = false := by simpa using h0
              have e1 : decide (er = 0) = false := decide_eq_false h0
              go_wp2_with (first
                | (go_at_call 15; (refine HX1.out.mono ?_); rintro x w12 ⟨A12, c12, rfl, h1, _, hb⟩; have HM12 := Lib.hid (HM11.out.below Dk.stands hb); have HL12 := Lib.hid (HL11.out.below hb (fun _ hk => HL11.out.lt hk)); have y7 : w12.cell? ⟨bL, oL + nf, none⟩ = some (.int .i64 (-2)) := (hb.cell (p := ⟨bL, oL + nf, none⟩) hbL).trans y6; have HXI := Lib.hid (HII.out ck c12 (HK11.out.below hb (fun _ hk => HK11.out.lt hk)).rd h1.rd); clear h1 hb HX1 HM11 HL11 v1 v2 y6)
                | (go_at_call 14; (refine HXI.out.mono ?_); rintro x w13 ⟨rfl, hb⟩; have HM13 := Lib.hid (HM12.out.below Dk.stands hb); have hbL2 : bL < w12.heap.size := HL12.out.lt rfl; have y8 : w13.cell? ⟨bL, oL + nf, none⟩ = some (.int .i64 (-2)) := (hb.cell (p := ⟨bL, oL + nf, none⟩) hbL2).trans y7; clear hb HXI HM12 y7))
              go_ret
              exact ⟨by simp, HB1.out.trans (HM13.out.bel.mono HB1.out.size)⟩
theorem opened {H : Type} (enc : TypeId × Value → H) (W : World) (base : Nat) (v0 v1 : Value) {d0 d1 : DataW H} {p0 p1 : List MemPlace}
    (o0 : Value.okWide Try.prog W .any base 36 v0) (o1 : Value.okWide Try.prog W .any base 3 v1)
    (k0 : DataW.Trod enc Try.prog W 0 (fun _ => true) true 36 v0 d0 p0) (k1 : DataW.Trod enc Try.prog W 0 (fun _ => true) true 3 v1 d1 p1)
    (z0 : (d0.weights Try.prog 36).all (· ≤ reachBytes) = true) (z1 : (d1.weights Try.prog 3).all (· ≤ reachBytes) = true) :
    Calls Try.prog 4 #[v0, v1] W fun e w' => e = .returned (.bool true) ∧ Below W.heap.size W w' := by
  obtain ⟨A, c, ps, rfl, h1, h2, h3, h4⟩ := open_dacts o0 k0 z0
  obtain ⟨a1, rfl, rfl, rfl, w1⟩ := open_int Try.underlying3 o1 k1
  have hb1 := bounds_i64 w1
  exact walk A c ps a1 W ⟨by omega, by omega⟩ h3 h4 h1 h2
end diskFreshOpen
end Go.Proofs.Ytfpfpdhfnleebaa
