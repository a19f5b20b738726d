/- The walk of DiskPieces: bytes that are appended in pieces are as good as at once, behind any crash too. No conditions. -/
import Derived.Test.YtfpfpdhfnleebaaDisk10
set_option maxRecDepth 8000
namespace Go.Proofs.Ytfpfpdhfnleebaa
open Go.ChangeShapes Go.WideShapes Go.ChangeAt Go.RowKit
set_option linter.unusedVariables false
set_option linter.unusedSimpArgs false
namespace Dk
structure PF (n : Int) (ps : List Pcs.T) (G : Nat → D) (E : Int) (fb : Bool) : Prop where
  z : G 0 = ⟨[], []⟩
  s : ∀ k p, ps[k]? = some p → appE (G k) n p.bs = E ∧ appD (G k) n p.bs = G (k + 1)
  e : decide (E = 0) = fb
  ok : ∀ k, k ≤ ps.length → Ok (G k) 2000
  cr : ps ≠ [] → ∀ keep, crashD (G ps.length) keep = crashD (appD ⟨[], []⟩ n (Pcs.flat ps ps.length)) keep ∧ crashN (G ps.length) keep = crashN (appD ⟨[], []⟩ n (Pcs.flat ps ps.length)) keep
theorem pf_of (n : Int) (ps : List Pcs.T) (ht : Pcs.tot ps ps.length ≤ 20000) : ∃ G E, PF n ps G E (decide (0 ≤ n) && decide (n ≤ 1099511627776)) := by
  by_cases hf : fits n
  · have hs : ∀ k p, ps[k]? = some p → appE (pcD n ((ps.take k).map (·.bs))) n p.bs = 0 ∧ appD (pcD n ((ps.take k).map (·.bs))) n p.bs = pcD n ((ps.take (k + 1)).map (·.bs)) := fun k p hp => by
      have h1 := Pcs.flat_le ps (k + 1)
      rw [Pcs.flat_succ hp, List.length_append] at h1
      unfold Pcs.flat at h1
      have := app_good hf ((ps.take k).map (·.bs)) p.bs (by omega)
      rw [Mem.take_snoc hp, List.map_append]
      exact this
    refine ⟨fun k => pcD n ((ps.take k).map (·.bs)), 0, rfl, hs, ?_, ?_, ?_⟩
    · unfold fits at hf; simp [hf]
    · have hlen : ps.length ≤ 2000 := by have := Pcs.flat_le ps 0; omega
      have : ∀ k, k ≤ ps.length → Ok (pcD n ((ps.take k).map (·.bs))) k := by
        intro k
        induction k with
        | zero => intro _; exact Ok.nil 0
        | succ k ih =>
          intro hk
          rw [← (hs k ps[k] (List.getElem?_eq_getElem (by omega))).2]
          exact (ih (by omega)).app n _
      exact fun k hk => (this k hk).mono (by omega)
    · intro hne keep
      have h1 := crash_pieces n keep (ps.map (·.bs)) (by simpa using hne)
      have h2 := (app_good hf [] (Pcs.flat ps ps.length) (by have := Pcs.flat_le ps ps.length; simp; omega)).2
      have h3 : appD ⟨[], []⟩ n (Pcs.flat ps ps.length) = pcD n [(ps.map (·.bs)).flatten] := by
        rw [show (⟨[], []⟩ : D) = pcD n [] from rfl, h2]
        unfold Pcs.flat; rw [List.take_length]; rfl
      rw [h3]
      show crashD (pcD n ((ps.take ps.length).map (·.bs))) keep = _ ∧ crashN (pcD n ((ps.take ps.length).map (·.bs))) keep = _
      rw [List.take_length]
      exact h1
  · refine ⟨fun _ => ⟨[], []⟩, 50, rfl, fun k p _ => app_bad hf _ _, ?_, fun k _ => Ok.nil _, fun _ keep => ?_⟩
    · unfold fits at hf; simp; omega
    · rw [(app_bad hf ⟨[], []⟩ _).2]; exact ⟨rfl, rfl⟩
structure PRel (w0 : World) (ga gb : Nat) (ps : List Pcs.T) (G : Nat → D) (vx vk : Value) (wr : World) : Prop where
  out : ∃ (k : Nat) (X : Option Addr) (d : Nat), k ≤ ps.length ∧ vx = .slice X (Pcs.flat ps k).length d ∧ vk = .int .i64 k ∧ Hid (Mem.Own wr 5 1 X (Pcs.flat ps k).length d ((Pcs.flat ps k).map Mem.byteV)) ∧ Hid (Ds w0 (fun q => Mem.blk X = some q) [(ga, G k), (gb, ⟨[], []⟩)] wr)
end Dk
namespace diskPiecesOpen
open Dk Pcs
set_option maxHeartbeats 4000000 in
theorem walk (A : Option Addr) (c : Nat) (ps : List Pcs.T) (n keep : Int) (w : World) (hn : okI n) (hke : okI keep) (hr : Mem.Rd w w.heap.size A (ps.flatMap Pcs.cells)) (hl : ps.length ≤ 140737488351232) (hg : ∀ p ∈ ps, Pcs.Good w w.heap.size p ∧ p.bs.length ≤ reachBytes) :
    Calls Try.prog 3 #[.slice A ps.length c, .int .i64 n, .int .i64 keep] w fun e w' => e = .returned (.bool true) ∧ Below w.heap.size w w' := by
  have hr0 := Lib.hid hr
  have hg0 := Lib.hid hg
  clear hr hg
  go_enter Try.func3, Try.ntmps3
  go_wp2_with (go_at_call 9; refine (diskAble_any _).mono ?_; rintro e w1 ⟨rfl, hb1⟩)
  have HB1 := Lib.hid hb1
  clear hb1
  go_loop [7, 8] (fun vn vi => ∃ (k : Nat), k ≤ ps.length ∧ vn = .int .i64 (tot ps k : Nat) ∧ vi = .int .i64 k) (fun _ t => ps.length - (intOf t).toNat)
  case atStart => exact ⟨0, by omega, by rw [tot_zero]; go_num, rfl⟩
  case round =>
    obtain ⟨k, hk, rfl, rfl⟩ := hrel
    by_cases hmost : tot ps k ≤ 20000
    · have hmd : decide ((tot ps k : Int) ≤ 20000) = true := by simp; omega
      by_cases hlt : k < ps.length
      · obtain ⟨b, o, p, rfl, hb, hp, hcl⟩ := at_part hr0.out hlt
        have hcl1 := (HB1.out.cell (p := ⟨b, o + k, none⟩) hb).trans hcl
        have hpl : p.bs.length ≤ 140737488351232 := by have := (hg0.out p (List.mem_of_getElem? hp)).2; unfold reachBytes at this; omega
        have hts := Lib.hid (tot_succ hp)
        clear hp hcl
        go_wp2
        go_round
        case rel => exact ⟨k + 1, by omega, by rw [hts.out]; go_num, by go_num⟩
        case measure => simp [intOf]; omega
      · obtain rfl : k = ps.length := by omega
        have hmd2 : decide ((20000 : Int) < (tot ps ps.length : Int)) = false := by simp; omega
        have ht2 : tot ps ps.length ≤ 20000 := hmost
        obtain ⟨G, E, hpf⟩ := pf_of n ps ht2
        have HPF := Lib.hid hpf
        have HT2 := Lib.hid ht2
        have HN := Lib.hid (new_m (Mem.Many.none DAt w1))
        clear hpf ht2 hlt
        go_wp2_with (go_at_call 10; first | ((refine HN.out.mono ?_); rintro x w2 ⟨ga, rfl, h1, hb1⟩; clear HN; have HN2 := Lib.hid (new_m h1)) | ((refine HN2.out.mono ?_); rintro x w3 ⟨gb, rfl, h2, hb2⟩; rw [List.nil_append] at h2; have HM3 := Lib.hid h2; clear HN2 h1 hb1 h2 hb2))
        go_loopw [11, 12] (PRel w1 ga gb ps G) (fun _ t _ => ps.length - (intOf t).toNat)
        case atStart => exact ⟨⟨0, none, 0, by omega, rfl, rfl, Mem.Own.nil _ _ _, Lib.hid (by rw [HPF.out.z]; exact HM3.out.less (fun q h => by cases h))⟩⟩
        case round =>
          obtain ⟨k, X, d, hk, rfl, rfl, HX, HM⟩ := hrel.out
          clear hrel
          by_cases hlt : k < ps.length
          · obtain ⟨b, o, p, rfl, hb, hp, hcl⟩ := at_part hr0.out hlt
            have hcl1 := (HM.out.bel.cell (p := ⟨b, o + k, none⟩) (Nat.lt_of_lt_of_le hb HB1.out.size)).trans ((HB1.out.cell (p := ⟨b, o + k, none⟩) hb).trans hcl)
            have hbw : b < wr.heap.size := Nat.lt_of_lt_of_le (Nat.lt_of_lt_of_le hb HB1.out.size) HM.out.bel.size
            have hrd : Mem.Rd wr w.heap.size p.A (p.bs.map Mem.byteV) := ((hg0.out p (List.mem_of_getElem? hp)).1.1.below HB1.out).below (HM.out.bel.mono HB1.out.size)
            have HRD := Lib.hid hrd
            have HWW : Hid (w.heap.size ≤ wr.heap.size) := Nat.le_trans HB1.out.size HM.out.bel.size
            have hf1 := flat_le ps (k + 1)
            have hfs := flat_succ hp
            have hln : (flat ps (k + 1)).length = (flat ps k).length + p.bs.length := by rw [hfs, List.length_append]
            have HFS := Lib.hid hfs
            have HLN := Lib.hid hln
            have hT := HT2.out
            have hn63 : (flat ps k).length + p.bs.length ≤ 100000 ∧ p.bs.length ≤ 100000 := by omega
            obtain ⟨he1, he2⟩ := HPF.out.s k p hp
            have HOK := Lib.hid (HPF.out.ok k hk)
            have HE1 := Lib.hid he1
            have HE2 := Lib.hid he2
            have HE := Lib.hid HPF.out.e
            clear hp hcl hrd hfs hln hf1 he1 he2 hT
            obtain ⟨nf, hnf⟩ : ∃ nf, (flat ps k).length = nf := ⟨_, rfl⟩
            rw [hnf] at HX HLN hn63
            obtain ⟨np, hnp⟩ : ∃ np, p.bs.length = np := ⟨_, rfl⟩
            have HNP := Lib.hid hnp
            rw [hnp] at HLN hcl1 hn63
            have hn63b : np ≤ maxLen := by unfold maxLen; omega
            have hn63c : nf + np ≤ maxLen := by unfold maxLen; omega
            rw [hnf]
            clear hnf hnp
            go_upto_region 16 with (first
              | (at_builtin; refine Mem.wpList_clone _ rfl (.tmp 52) (.tmp 56) _ rfl bytes_elem wr.heap.size rfl wr wr.heap.size p.A np p.c (p.bs.map Mem.byteV) rfl ?_ rfl (Below.refl _ _) (Nat.le_refl _) (HRD.out.more HWW.out) (by rw [List.length_map, HNP.out, Nat.mul_one]) (Mem.bytes_one _) hn63b (by omega); intro A2 c2 w4 hown hb4 hs4 hf4; have HM4 := Lib.hid (HM.out.more stands hb4 (R' := fun q => Mem.blk A2 = some q) (fun q hq => ⟨hf4.blk q hq, hown.lt hq⟩)); have HO4 := Lib.hid (HX.out.below hb4 (fun _ hk => HX.out.lt hk)); have HRD4 := Lib.hid (HRD.out.below (hb4.mono HWW.out)); have HWW4 : Hid (w.heap.size ≤ w4.heap.size) := Nat.le_trans HWW.out hb4.size; have HX1 := Lib.hid (append_m HM4.out (i := 0) rfl HOK.out (by omega) hn (cx := c2) (bs := p.bs) hown.rd (fun q hq => .inr (.inr hq)) (by rw [HNP.out]; omega)); rw [HE1.out, HE2.out, HNP.out] at HX1; clear hown hb4 hs4 hf4 HX)
              | (go_at_call 11; (refine HX1.out.mono ?_); rintro x w5 ⟨rfl, h5, hk5⟩; have HM5 := Lib.hid (h5.less (R' := fun q => Mem.blk X = some q) (fun _ h => .inl h)); have HO5 := Lib.hid (HO4.out.keeps hk5 (fun q hq h => h.2 (.inl hq))); have HRD5 := Lib.hid (HRD4.out.keeps hk5 (fun q hq => Nat.le_trans HB1.out.size hq.1) HWW4.out); clear h5 hk5 HX1 HM4 HO4 HRD4 HWW4))
            simp only [List.set_cons_zero] at HM5
            have hcl5 : Hid (w5.cell? ⟨b, o + k, none⟩ = some (.slice p.A np p.c)) := (HM5.out.bel.cell (p := ⟨b, o + k, none⟩) (Nat.lt_of_lt_of_le hb HB1.out.size)).trans ((HM.out.bel.cell (p := ⟨b, o + k, none⟩) (Nat.lt_of_lt_of_le hb HB1.out.size)).symm.trans hcl1)
            clear hcl1 HM HRD
            obtain ⟨hc5⟩ : Nonempty (w5.cell? ⟨b, o + k, none⟩ = some (.slice p.A np p.c)) := ⟨hcl5.out⟩
            have hb5 : b < w5.heap.size := Nat.lt_of_lt_of_le (Nat.lt_of_lt_of_le hb HB1.out.size) HM5.out.bel.size
            by_cases h0 : 0 ≤ n
            · by_cases h1 : n ≤ 1099511627776
              · have hE : E = 0 := by have := HE.out; simpa [h0, h1] using this
                subst hE
                have d0 : decide (0 ≤ n) = true := decide_eq_true h0
                have d1 : decide (n ≤ 1099511627776) = true := decide_eq_true h1
                go_wp2_with (at_builtin; refine Mem.wpList_app _ rfl (.tmp 68) (.tmp 72) _ rfl bytes_elem X nf d ((flat ps k).map Mem.byteV) rfl w.heap.size p.A np p.c (p.bs.map Mem.byteV) rfl ?_ HO5.out HRD5.out (by rw [List.length_map, HNP.out, Nat.mul_one]) (Mem.bytes_one _) hn63c (by omega); intro X2 d2 w6 hown hg6 hat; have HM6 := Lib.hid (HM5.out.next stands ((Mem.Keeps.refl (fun q => Mem.blk X = some q) w5).grown hg6 (fun q hq _ => hq)) (fun q hq _ => hq) (R' := fun q => Mem.blk X2 = some q) (fun q hq => by rcases hat with rfl | rfl; exact .inl hq; have := hown.lt hq; cases hq; exact .inr ⟨Nat.le_refl _, this⟩)); have HO6 := Lib.hid hown; clear hown hg6 hat)
                go_roundw
                case rel => exact ⟨⟨k + 1, X2, d2, by omega, by rw [HLN.out], by go_num, Lib.hid (by rw [HLN.out, HFS.out, List.map_append]; exact HO6.out), HM6⟩⟩
                case measure => simp [intOf]; omega
              · have hE : ¬ E = 0 := by have := HE.out; simpa [h0, h1] using this
                have hE2 : (E == 0) = false := by simpa using hE
                have hE3 : decide (E = 0) = false := decide_eq_false hE
                have d0 : decide (0 ≤ n) = true := decide_eq_true h0
                have d1 : decide (n ≤ 1099511627776) = false := decide_eq_false h1
                go_wp2_with (at_builtin; refine Mem.wpList_app _ rfl (.tmp 68) (.tmp 72) _ rfl bytes_elem X nf d ((flat ps k).map Mem.byteV) rfl w.heap.size p.A np p.c (p.bs.map Mem.byteV) rfl ?_ HO5.out HRD5.out (by rw [List.length_map, HNP.out, Nat.mul_one]) (Mem.bytes_one _) hn63c (by omega); intro X2 d2 w6 hown hg6 hat; have HM6 := Lib.hid (HM5.out.next stands ((Mem.Keeps.refl (fun q => Mem.blk X = some q) w5).grown hg6 (fun q hq _ => hq)) (fun q hq _ => hq) (R' := fun q => Mem.blk X2 = some q) (fun q hq => by rcases hat with rfl | rfl; exact .inl hq; have := hown.lt hq; cases hq; exact .inr ⟨Nat.le_refl _, this⟩)); have HO6 := Lib.hid hown; clear hown hg6 hat)
                go_roundw
                case rel => exact ⟨⟨k + 1, X2, d2, by omega, by rw [HLN.out], by go_num, Lib.hid (by rw [HLN.out, HFS.out, List.map_append]; exact HO6.out), HM6⟩⟩
                case measure => simp [intOf]; omega
            · have hE : ¬ E = 0 := by have := HE.out; simpa [h0] using this
              have hE2 : (E == 0) = false := by simpa using hE
              have hE3 : decide (E = 0) = false := decide_eq_false hE
              have d0 : decide (0 ≤ n) = false := decide_eq_false h0
              go_wp2_with (at_builtin; refine Mem.wpList_app _ rfl (.tmp 68) (.tmp 72) _ rfl bytes_elem X nf d ((flat ps k).map Mem.byteV) rfl w.heap.size p.A np p.c (p.bs.map Mem.byteV) rfl ?_ HO5.out HRD5.out (by rw [List.length_map, HNP.out, Nat.mul_one]) (Mem.bytes_one _) hn63c (by omega); intro X2 d2 w6 hown hg6 hat; have HM6 := Lib.hid (HM5.out.next stands ((Mem.Keeps.refl (fun q => Mem.blk X = some q) w5).grown hg6 (fun q hq _ => hq)) (fun q hq _ => hq) (R' := fun q => Mem.blk X2 = some q) (fun q hq => by rcases hat with rfl | rfl; exact .inl hq; have := hown.lt hq; cases hq; exact .inr ⟨Nat.le_refl _, this⟩)); have HO6 := Lib.hid hown; clear hown hg6 hat)
              go_roundw
              case rel => exact ⟨⟨k + 1, X2, d2, by omega, by rw [HLN.out], by go_num, Lib.hid (by rw [HLN.out, HFS.out, List.map_append]; exact HO6.out), HM6⟩⟩
              case measure => simp [intOf]; omega
          · obtain rfl : k = ps.length := by omega
            have hf1 := flat_le ps ps.length
            have hT := HT2.out
            have OKA := Lib.hid (HPF.out.ok ps.length (Nat.le_refl _))
            have HCR := Lib.hid HPF.out.cr
            have HZ := Lib.hid HPF.out.z
            have dk : decide ((ps.length : Int) < (ps.length : Int)) = false := by simp
            clear HPF
            by_cases hne : ps = []
            · subst hne
              have HM7 : Hid (Ds w1 (fun q => Mem.blk X = some q) [(ga, G 0), (gb, ⟨[], []⟩)] wr) := HM
              rw [HZ.out] at HM7
              have OKB : Hid (Ok ⟨[], []⟩ 2000) := Ok.nil _
              obtain ⟨da, hda⟩ : ∃ da : D, da = ⟨[], []⟩ := ⟨_, rfl⟩
              rw [← hda] at HM7 OKB
              have CD : Hid (crashD da keep = crashD da keep) := rfl
              have CN : Hid (crashN da keep = crashN da keep) := rfl
              clear OKA HZ HCR hda
              have OKA := OKB
              go_upto_region 21 with fail
              have HX1 := Lib.hid (crash_m HM7.out (i := 0) rfl OKA.out hke)
              go_upto_region 23 with (go_at_call 12; first | ((refine HX1.out.mono ?_); rintro x w8 ⟨rfl, h8, _⟩; clear HX1; have HX2 := Lib.hid (crash_m h8 (i := 1) rfl OKB.out hke); rw [← CD.out, ← CN.out] at HX2) | ((refine HX2.out.mono ?_); rintro x w9 ⟨rfl, h9, _⟩; have HM9 := Lib.hid h9; clear h8 h9 HX2 HM7))
              simp only [List.set_cons_zero, List.set_cons_succ] at HM9
              obtain ⟨dd, hdd⟩ : ∃ dd, crashD da keep = dd := ⟨_, rfl⟩
              have hokd := OKA.out.crash keep
              rw [hdd] at HM9 hokd
              have OKD := Lib.hid hokd
              clear hokd hdd
              have HX1 := Lib.hid (read_m HM9.out (i := 0) rfl OKD.out hn)
              go_upto_region 24 with (go_at_call 13; (refine HX1.out.mono ?_); rintro x w10 ⟨A1, c1, rfl, h1, _, hb⟩; have HM10 := Lib.hid (HM9.out.below stands hb); have HO10 := Lib.hid h1; clear h1 hb HX1 HM9)
              have HX1 := Lib.hid (read_m HM10.out (i := 1) rfl OKD.out hn)
              go_upto_region 25 with (go_at_call 13; (refine HX1.out.mono ?_); rintro x w11 ⟨A2, c2, rfl, h1, _, hb⟩; have HM11 := Lib.hid (HM10.out.below stands hb); have HO11 := Lib.hid (HO10.out.below hb (fun _ hk => HO10.out.lt hk)); have HP11 := Lib.hid h1; clear h1 hb HX1 HM10 HO10)
              have v1 := conv_bytes c1 HO11.out.rd
              have v2 := conv_bytes c2 HP11.out.rd
              clear HO11 HP11
              have HX1 := Lib.hid (files_m HM11.out (i := 0) rfl OKD.out)
              go_wp2_with (first | (go_at_call 15; first | ((refine HX1.out.mono ?_); rintro x w12 ⟨A3, c3, rfl, h1, _, hb⟩; have HO12 := Lib.hid h1; have HM12 := Lib.hid (HM11.out.below stands hb); have HX2 := Lib.hid (files_m HM12.out (i := 1) rfl OKD.out); clear h1 hb HX1 HM11) | ((refine HX2.out.mono ?_); rintro x w13 ⟨A4, c4, rfl, h1, _, hb⟩; have HO13 := Lib.hid (HO12.out.below hb (fun _ hk => HO12.out.lt hk)); have HP13 := Lib.hid h1; have HM13 := Lib.hid (HM12.out.below stands hb); have HX3 := Lib.hid (ints_any (c := c3) (c2 := c4) HO13.out.rd HP13.out.rd (Nat.le_trans HO13.out.le HO13.out.cap) (Nat.le_trans HO13.out.le HO13.out.cap)); clear h1 hb HX2 HM12 HO12 HO13 HP13)) | (go_at_call 14; (refine HX3.out.mono ?_); rintro x w14 ⟨rfl, hb⟩; have HM14 := Lib.hid (HM13.out.below stands hb); clear hb HX3 HM13))
              go_ret
              exact ⟨by simp, HB1.out.trans (HM14.out.bel.mono HB1.out.size)⟩
            · obtain ⟨h3, h4⟩ := HCR.out hne keep
              have hX1 := append_m HM.out (i := 1) rfl (Ok.nil 0) (by omega) hn (cx := d) HX.out.rd (fun q hq => .inr hq) (by omega)
              have HX1 := Lib.hid hX1
              obtain ⟨da, hda⟩ : ∃ da : D, G ps.length = da := ⟨_, rfl⟩
              obtain ⟨db, hdb⟩ : ∃ db : D, appD ⟨[], []⟩ n (flat ps ps.length) = db := ⟨_, rfl⟩
              obtain ⟨ev, hev⟩ : ∃ ev : Int, appE ⟨[], []⟩ n (flat ps ps.length) = ev := ⟨_, rfl⟩
              have OKB : Hid (Ok db 2000) := by show Ok _ _; rw [← hdb]; exact ((Ok.nil 0).app n _).mono (by omega)
              rw [hda, hdb] at h3 h4
              rw [hda] at OKA HM
              rw [hdb, hda, hev] at HX1
              have CD := Lib.hid h3
              have CN := Lib.hid h4
              have hps : 0 < ps.length := List.length_pos_iff.2 hne
              have dp : decide (0 < (ps.length : Int)) = true := by simp; omega
              clear h3 h4 hX1 hda hdb hev HZ HCR hne
              go_upto_region 21 with (go_at_call 11; (refine HX1.out.mono ?_); rintro x w7 ⟨rfl, h7, _⟩; have HM7 := Lib.hid h7; clear h7 HX1 HM HX)
              simp only [List.set_cons_zero, List.set_cons_succ] at HM7
              have HX1 := Lib.hid (crash_m HM7.out (i := 0) rfl OKA.out hke)
              go_upto_region 23 with (go_at_call 12; first | ((refine HX1.out.mono ?_); rintro x w8 ⟨rfl, h8, _⟩; clear HX1; have HX2 := Lib.hid (crash_m h8 (i := 1) rfl OKB.out hke); rw [← CD.out, ← CN.out] at HX2) | ((refine HX2.out.mono ?_); rintro x w9 ⟨rfl, h9, _⟩; have HM9 := Lib.hid h9; clear h8 h9 HX2 HM7))
              simp only [List.set_cons_zero, List.set_cons_succ] at HM9
              obtain ⟨dd, hdd⟩ : ∃ dd, crashD da keep = dd := ⟨_, rfl⟩
              have hokd := OKA.out.crash keep
              rw [hdd] at HM9 hokd
              have OKD := Lib.hid hokd
              clear hokd hdd
              have HX1 := Lib.hid (read_m HM9.out (i := 0) rfl OKD.out hn)
              go_upto_region 24 with (go_at_call 13; (refine HX1.out.mono ?_); rintro x w10 ⟨A1, c1, rfl, h1, _, hb⟩; have HM10 := Lib.hid (HM9.out.below stands hb); have HO10 := Lib.hid h1; clear h1 hb HX1 HM9)
              have HX1 := Lib.hid (read_m HM10.out (i := 1) rfl OKD.out hn)
              go_upto_region 25 with (go_at_call 13; (refine HX1.out.mono ?_); rintro x w11 ⟨A2, c2, rfl, h1, _, hb⟩; have HM11 := Lib.hid (HM10.out.below stands hb); have HO11 := Lib.hid (HO10.out.below hb (fun _ hk => HO10.out.lt hk)); have HP11 := Lib.hid h1; clear h1 hb HX1 HM10 HO10)
              have v1 := conv_bytes c1 HO11.out.rd
              have v2 := conv_bytes c2 HP11.out.rd
              clear HO11 HP11
              have HX1 := Lib.hid (files_m HM11.out (i := 0) rfl OKD.out)
              go_wp2_with (first | (go_at_call 15; first | ((refine HX1.out.mono ?_); rintro x w12 ⟨A3, c3, rfl, h1, _, hb⟩; have HO12 := Lib.hid h1; have HM12 := Lib.hid (HM11.out.below stands hb); have HX2 := Lib.hid (files_m HM12.out (i := 1) rfl OKD.out); clear h1 hb HX1 HM11) | ((refine HX2.out.mono ?_); rintro x w13 ⟨A4, c4, rfl, h1, _, hb⟩; have HO13 := Lib.hid (HO12.out.below hb (fun _ hk => HO12.out.lt hk)); have HP13 := Lib.hid h1; have HM13 := Lib.hid (HM12.out.below stands hb); have HX3 := Lib.hid (ints_any (c := c3) (c2 := c4) HO13.out.rd HP13.out.rd (Nat.le_trans HO13.out.le HO13.out.cap) (Nat.le_trans HO13.out.le HO13.out.cap)); clear h1 hb HX2 HM12 HO12 HO13 HP13)) | (go_at_call 14; (refine HX3.out.mono ?_); rintro x w14 ⟨rfl, hb⟩; have HM14 := Lib.hid (HM13.out.below stands hb); clear hb HX3 HM13))
              go_ret
              exact ⟨by simp, HB1.out.trans (HM14.out.bel.mono HB1.out.size)⟩
    · have hmd : decide ((tot ps k : Int) ≤ 20000) = false := by simp; omega
      have hmd2 : decide ((20000 : Int) < (tot ps k : Int)) = true := by simp; omega
      by_cases hlt : k < ps.length
      · have hd : decide ((k : Int) < (ps.length : Int)) = true := by simp; omega
        go_wp2
        go_ret
        exact ⟨rfl, HB1.out⟩
      · have hd : decide ((k : Int) < (ps.length : Int)) = false := by simp; omega
        go_wp2
        go_ret
        exact ⟨rfl, HB1.out⟩
theorem opened {H : Type} (enc : TypeId × Value → H) (W : World) (base : Nat) (v0 v1 v2 : Value) {d0 d1 d2 : DataW H} {p0 p1 p2 : List MemPlace}
    (o0 : Value.okWide Try.prog W .any base 22 v0) (o1 : Value.okWide Try.prog W .any base 3 v1) (o2 : Value.okWide Try.prog W .any base 3 v2)
    (k0 : DataW.Trod enc Try.prog W 0 (fun _ => true) true 22 v0 d0 p0) (k1 : DataW.Trod enc Try.prog W 0 (fun _ => true) true 3 v1 d1 p1) (k2 : DataW.Trod enc Try.prog W 0 (fun _ => true) true 3 v2 d2 p2)
    (z0 : (d0.weights Try.prog 22).all (· ≤ reachBytes) = true) (z1 : (d1.weights Try.prog 3).all (· ≤ reachBytes) = true) (z2 : (d2.weights Try.prog 3).all (· ≤ reachBytes) = true) :
    Calls Try.prog 3 #[v0, v1, v2] W fun e w' => e = .returned (.bool true) ∧ Below W.heap.size W w' := by
  obtain ⟨A, c, ps, rfl, h1, h2, h3, h4, h5⟩ := open_parts o0 k0 z0
  obtain ⟨a1, rfl, rfl, rfl, w1⟩ := open_int Try.underlying3 o1 k1
  obtain ⟨a2, rfl, rfl, rfl, w2⟩ := open_int Try.underlying3 o2 k2
  have hb1 := bounds_i64 w1
  have hb2 := bounds_i64 w2
  have hby : Try.prog.bytesOf 24 = 24 := by kernel_rfl
  rw [hby] at h2
  unfold reachBytes at h2
  exact walk A c ps a1 a2 W hb1 hb2 h3 (by omega) h4
end diskPiecesOpen
end Go.Proofs.Ytfpfpdhfnleebaa
