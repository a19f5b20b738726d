/- The walk of ReadMsg. -/
import Derived.Test.YtkfgedgjpgehoaaWire20
namespace Go.Proofs.Ytkfgedgjpgehoaa
open Go.ChangeShapes Go.WideShapes Go.ChangeAt Go.RowKit
set_option linter.unusedVariables false
set_option linter.unusedSimpArgs false
theorem msg_zero : Try.zeroCells55 = Wi.zeroM.toArray := by kernel_rfl
namespace Wi
def RmEnd (w : World) (bs : List UInt8) (x : Ending) (w' : World) : Prop := x = .returned (.tuple #[.agg (readM bs).1.toArray, .int .i64 (readM bs).2]) ∧ Below w.heap.size w w'
structure RmJ (w : World) (A : Option Addr) (cap : Nat) (bs : List UInt8) (gr : Nat) (w' : World) : Prop where
  e : Hid (readM bs = (zeroM, 41))
  b : Hid (Below w.heap.size w w')
  z : Hid (Mem.Bx w' 55 74 gr zeroM)
  g : w.heap.size ≤ gr
end Wi
theorem results_aggM {P : Program} {w : World} {fn : Func} {p u : Tmp} {t : TypeId} {n g : Nat} {xs : List Value} {tmps : Array Value} (h : fn.results = #[.cell p t, .tmp u]) (hA : Mem.Agg P t n) (hp : tmps.getD p undef = .pointer (some ⟨g, 0, none⟩)) (hb : Mem.Bx w t n g xs) :
    (results fn tmps).run P w = .ok (.tuple #[.agg xs.toArray, tmps.getD u undef]) w := by
  have hp' : tmps[p]?.getD undef = .pointer (some ⟨g, 0, none⟩) := by simpa using hp
  simp [results, h, hp', asAddr, Mem.run_loadBx hA hb]
open Wi in
set_option maxRecDepth 100000 in
set_option maxHeartbeats 4000000 in
theorem readMsg_any {w : World} {A : Option Addr} {cap : Nat} {bs : List UInt8} (hR : Mem.Rd w w.heap.size A (bs.map Mem.byteV)) (hl : bs.length ≤ cap) (hb : bs.length ≤ 1000000000) (hcap : cap ≤ maxLen) :
    Calls Try.prog 23 #[.slice A bs.length cap] w (Wi.RmEnd w bs) := by
  have HR := Lib.hid hR
  clear hR
  go_enter Try.func23, Try.ntmps23
  go_wp2
  rw [msg_zero]
  obtain ⟨w1, hw1⟩ : ∃ w1, w.alloc (.cells zeroM.toArray 55) = w1 := ⟨_, rfl⟩
  have HZ1 : Hid (Mem.Bx w1 55 74 w.heap.size zeroM) := by show Mem.Bx _ _ _ _ _; rw [← hw1]; exact Mem.Bx.new w 55 zeroM.toArray rfl rfl
  have HB1 : Hid (Below w.heap.size w w1) := by show Below _ _ _; rw [← hw1]; exact Reg.below_new _ _
  have HR1 : Hid (Mem.Rd w1 w1.heap.size A (bs.map Mem.byteV)) := (HR.out.below HB1.out).more HB1.out.size
  have HR1' : Hid (Mem.Rd w1 w.heap.size A (bs.map Mem.byteV)) := HR.out.below HB1.out
  rw [hw1]
  clear hw1
  obtain ⟨gr, hgr0⟩ : ∃ gr, w.heap.size = gr := ⟨_, rfl⟩
  have hgr : w.heap.size ≤ gr := by omega
  have hgr2 : gr < w1.heap.size := by have := HZ1.out.lt; omega
  rw [hgr0] at HZ1 ⊢
  have HGR := Lib.hid hgr0
  clear hgr0
  refine wp_scope_jumps 0 (fun a' w' => RmJ w A cap bs gr w' ∧ ∃ (u1 u3 u4 u5 u6 u7 u8 u9 u10 u11 u12 u13 u14 u15 u16 u17 u18 u19 u20 u21 u22 u23 u24 u25 u26 u27 u28 u29 u30 u31 u32 u33 u34 u35 u36 u37 u38 u39 u40 u41 u42 u43 u44 u45 u46 u47 u48 u49 u50 u51 u52 u53 u54 u55 u56 u57 u58 u59 u60 u61 u62 u63 u64 u65 : Value), a' = { tmps := #[.slice A bs.length cap, u1, .pointer (some ⟨gr, 0, none⟩), u3, u4, u5, u6, u7, u8, u9, u10, u11, u12, u13, u14, u15, u16, u17, u18, u19, u20, u21, u22, u23, u24, u25, u26, u27, u28, u29, u30, u31, u32, u33, u34, u35, u36, u37, u38, u39, u40, u41, u42, u43, u44, u45, u46, u47, u48, u49, u50, u51, u52, u53, u54, u55, u56, u57, u58, u59, u60, u61, u62, u63, u64, u65], defers := [] }) (fun _ _ => 0) rfl ?_ ?_
  · rcases bodyC_cases bs with he | he | he
    · obtain ⟨b, o, rfl, hbb, hV, hRs, hsl⟩ := bodyV_good he HR1'.out hl
      have h6 := bodyC_good he
      have hn5 := hdN_lt bs
      obtain ⟨n, hn⟩ : ∃ n, hdN bs = n := ⟨_, rfl⟩
      obtain ⟨bsn, hbsn⟩ : ∃ bsn, Mem.sub bs 2 n = bsn := ⟨_, rfl⟩
      rw [hn] at hV hRs hsl h6 hn5
      rw [hbsn] at hRs hsl
      have hrr : readM bs = if bs.length ≠ n + 6 then (zeroM, 41) else if poor (runMs bsn) n = true then (zeroM, 41) else if (framedC (msgC (runMs bsn).2)).2 = 0 ∧ (framedC (msgC (runMs bsn).2)).1 = bs then ((runMs bsn).2, 0) else (zeroM, 41) := by
        unfold readM; rw [if_neg (by rw [he]; decide), hn, hbsn, he]; simp
      have HRR := Lib.hid hrr
      have HRS := Lib.hid hRs
      have HSL := Lib.hid hsl
      have hbd := (body_any HR1.out hl hb).mono (R' := fun x w' => x = .returned (.tuple #[.slice (some ⟨b, o + 2, none⟩) n (cap - 2), .int .i64 0]) ∧ Below w1.heap.size w1 w') (fun x w' h => ⟨by rw [h.1, hV, he], h.2⟩)
      have HBD := Lib.hid hbd
      clear hV hbd he hrr hRs hsl hn hbsn
      go_upto_region 2 with fail
      refine HBD.out.mono ?_
      rintro x9 w2 ⟨rfl, hb2⟩
      have HB2 : Hid (Below w.heap.size w w2) := HB1.out.trans (hb2.mono HB1.out.size)
      have HZ2 : Hid (Mem.Bx w2 55 74 gr zeroM) := HZ1.out.keeps (Mem.Keeps.of_below hb2) id
      have hgr4 : gr < w2.heap.size := Nat.lt_of_lt_of_le hgr2 hb2.size
      clear hb2 HBD HZ1 HR1 HR1' HB1 hgr2
      go_upto_region 4 with fail
      rw [msg_zero]
      obtain ⟨w3, hw3⟩ : ∃ w3, w2.alloc (.cells zeroM.toArray 55) = w3 := ⟨_, rfl⟩
      have hz3 : Mem.Bx w3 55 74 w2.heap.size zeroM := by rw [← hw3]; exact Mem.Bx.new w2 55 zeroM.toArray rfl rfl
      have hk3 : Below w2.heap.size w2 w3 := by rw [← hw3]; exact Reg.below_new _ _
      have hg3 : w3.heap.size = w2.heap.size + 1 := by rw [← hw3]; simp
      rw [hw3]
      obtain ⟨w4, hw4⟩ : ∃ w4, w3.alloc (.cells #[.slice (some ⟨b, o + 2, none⟩) n (cap - 2), .int .i64 0, .bool true, .bool false, .bool false, .bool false] 67) = w4 := ⟨_, rfl⟩
      have hc4 : Mem.Bx w4 67 6 w3.heap.size [.slice (some ⟨b, o + 2, none⟩) n (cap - 2), .int .i64 0, .bool true, .bool false, .bool false, .bool false] := by rw [← hw4]; exact Mem.Bx.new w3 67 #[.slice (some ⟨b, o + 2, none⟩) n (cap - 2), .int .i64 0, .bool true, .bool false, .bool false, .bool false] rfl rfl
      have hk4 : Below w3.heap.size w3 w4 := by rw [← hw4]; exact Reg.below_new _ _
      have hs4 := hc4.lt
      rw [hw4]
      have hk24 : Below w2.heap.size w2 w4 := hk3.trans (hk4.mono hk3.size)
      have hB4 : Below w.heap.size w w4 := HB2.out.trans (hk24.mono HB2.out.size)
      have hZ4 : Mem.Bx w4 55 74 gr zeroM := HZ2.out.keeps (Mem.Keeps.of_below hk24) id
      have hM4 : Mem.Bx w4 55 74 w2.heap.size zeroM := hz3.keeps (Mem.Keeps.of_below hk4) id
      have hR4 : Mem.Rd w4 w.heap.size (some ⟨b, o, none⟩) (bs.map Mem.byteV) := HR.out.below hB4
      have hRs4 := HRS.out w4 hR4
      have hCA : CAt w4 w3.heap.size (some ⟨b, o + 2, none⟩) (cap - 2) (rdC bsn) := ⟨by
        show Mem.Bx _ _ _ _ [.slice (some ⟨b, o + 2, none⟩) bsn.length (cap - 2), _, _, _, _, _]
        rw [HSL.out]; exact hc4, hRs4.more (Nat.le_trans HB2.out.size hk24.size), (fun h => by cases h), (fun k h => by have e9 : b = k := (by simpa [Mem.blk] using h); have := HB2.out.size; have := hk3.size; omega), ⟨by show bsn.length ≤ _; rw [HSL.out]; omega, by omega⟩, fun k h => by have e9 : b = k := (by simpa [Mem.blk] using h); have := hB4.size; omega⟩
      have hw24 := hk24.size
      have hw2 := HB2.out.size
      rw [hg3] at hCA hs4
      obtain ⟨gm, hgm⟩ : ∃ gm, w2.heap.size = gm := ⟨_, rfl⟩
      rw [hgm] at hCA hM4 hgr4 hs4 hw2 ⊢
      have HB4 := Lib.hid hB4
      have HZ4 := Lib.hid hZ4
      have HM4 := Lib.hid hM4
      have HR4 := Lib.hid hR4
      have HCA := Lib.hid hCA
      clear hw3 hz3 hk3 hg3 hw4 hc4 hk4 hk24 hB4 hZ4 hM4 hR4 hRs4 hCA hgm hw24 HZ2 HB2 HR HRS
      by_cases hln : bs.length = n + 6
      case neg =>
        have hE : readM bs = (zeroM, 41) := by rw [HRR.out, if_pos hln]
        have HE := Lib.hid hE
        have d2 : ((bs.length : Int) == (n : Int) + 6) = false := by simp; omega
        have HBb := HB4
        have HZb := HZ4
        clear hE HRR HCA HM4 HR4 hs4 hw2 hgr4 HSL
        go_wp2
        go_step3
        refine ⟨rfl, ⟨HE.out, HBb.out, HZb.out, hgr⟩, ?_⟩
        exact ⟨_, _, _, _, _, _, _, _, _, _, _, _, _, _, _, _, _, _, _, _, _, _, _, _, _, _, _, _, _, _, _, _, _, _, _, _, _, _, _, _, _, _, _, _, _, _, _, _, _, _, _, _, _, _, _, _, _, _, _, _, _, _, _, _, rfl⟩
      have d2 : ((bs.length : Int) == (n : Int) + 6) = true := by simp; omega
      have HLN := Lib.hid hln
      clear hln
      have HN := Lib.hid (message_pass (t := 55) (A := some ⟨b, o + 2, none⟩) (r := (rdC bsn, zeroM)) (L := 70000) (Pass.refl HCA.out HM4.out) ⟨⟨Nat.zero_le _, by show bsn.length ≤ _; rw [HSL.out]; omega⟩, zeroM_ok, fun h => by cases h⟩ (by omega) (by omega) (by simp [Mem.blk]; omega) HM4.out.lt)
      have hrun : runM msgM (rdC bsn, zeroM) = runMs bsn := by unfold runMs; rfl
      rw [hrun] at HN
      have hrd0 : (runMs bsn).1.reads = true := by
        unfold runMs
        rw [runM_reads]; rfl
      have hbs := runM_rd (r := (rdC bsn, zeroM)) (M := 65536) msgM rfl (by show bsn.length ≤ _; rw [HSL.out]; omega) (zeroM_sh _)
      rw [hrun] at hbs
      obtain ⟨r, hr⟩ : ∃ r, runMs bsn = r := ⟨_, rfl⟩
      rw [hr] at HN hrd0 hbs hrun
      have hok := runM_okE (ks := msgK) (r := (rdC bsn, zeroM)) hrun.symm zeroM_ok
      have hrr := HRR.out
      rw [hr, if_neg (by have := HLN.out; omega)] at hrr
      have HRR2 := Lib.hid hrr
      have HBS := Lib.hid hbs
      have HOK := Lib.hid hok
      have HRD0 := Lib.hid hrd0
      clear hrun hrd0 hbs hok hr hrr HRR
      go_upto_region 9 with fail
      refine HN.out.mono ?_
      rintro x9 w5 ⟨rfl, hp⟩
      have hkp := hp.rd HRD0.out
      obtain ⟨A2, cap2, p1, p2, p3, p4⟩ := hp.out
      have HB5 : Hid (Below w.heap.size w w5) := HB4.out.trans (hkp.below (fun q h => by omega) HB4.out.size)
      have HZ5 : Hid (Mem.Bx w5 55 74 gr zeroM) := HZ4.out.keeps hkp (fun h => by omega)
      have HR5 : Hid (Mem.Rd w5 w.heap.size (some ⟨b, o, none⟩) (bs.map Mem.byteV)) := HR4.out.keeps hkp (fun q h => by omega) HB4.out.size
      have HM5 := Lib.hid p2
      have HC5 := Lib.hid p1
      have y1 : w5.cell? ⟨gm + 1, 1, none⟩ = some (.int .i64 (r.1.pos : Nat)) := p1.B.cell (j := 1) rfl
      have y3 : w5.cell? ⟨gm + 1, 3, none⟩ = some (.bool r.1.bad) := p1.B.cell (j := 3) rfl
      have y4 : w5.cell? ⟨gm + 1, 4, none⟩ = some (.bool r.1.arg) := p1.B.cell (j := 4) rfl
      clear hkp p1 p2 p3 p4 hp HN HB4 HZ4 HR4 HM4 HCA d2
      go_upto_region 9 with fail
      cases hbad : r.1.bad
      · rw [hbad] at y3
        cases harg : r.1.arg
        · rw [harg] at y4
          by_cases hpn : r.1.pos < n
          · have d2 : decide (r.1.pos < n) = true := by simpa using hpn
            have hE : readM bs = (zeroM, 41) := by rw [HRR2.out, if_pos (by unfold poor; simp [hbad,harg,hpn])]
            have HE := Lib.hid hE
            have HBb := HB5
            have HZb := HZ5
            clear hE HRR2 HBS HOK HRD0 HM5 HC5 HR5
            go_wp2
            go_step3
            refine ⟨rfl, ⟨HE.out, HBb.out, HZb.out, hgr⟩, ?_⟩
            exact ⟨_, _, _, _, _, _, _, _, _, _, _, _, _, _, _, _, _, _, _, _, _, _, _, _, _, _, _, _, _, _, _, _, _, _, _, _, _, _, _, _, _, _, _, _, _, _, _, _, _, _, _, _, _, _, _, _, _, _, _, _, _, _, _, _, rfl⟩
          · have d2 : decide (r.1.pos < n) = false := by simpa using hpn
            have hp0 : ¬ poor r n = true := by unfold poor; simp [hbad, harg, hpn]
            have hrr := HRR2.out
            rw [if_neg hp0] at hrr
            have HRR3 := Lib.hid hrr
            clear hp0 hrr HRR2 hbad harg hpn
            have hfed : Fed msgK r.2 := ⟨HOK.out, fun k s h => Nat.le_trans (HBS.out.2 k s h) (by omega)⟩
            have hmsg := msg_any (w := w5) hfed
            have HMS := Lib.hid hmsg
            have hxl : Hid (r.2.length = 74) := HOK.out.len
            clear hfed hmsg
            obtain ⟨fc, hfc⟩ : ∃ fc, framedC (msgC r.2) = fc := ⟨_, rfl⟩
            have HFC := Lib.hid hfc
            clear hfc
            go_upto_region 10 with fail
            go_upto_region 11 with (first | ((with_reducible refine Mem.load_agg _ _ msg_agg gm 0 r.2 ?hxr hxl.out (fun j u hu => by rw [Nat.zero_add]; exact HM5.out.cell hu) ?_); case hxr => exact rfl) | (go_at_call 20; refine HMS.out.mono ?_; intro x9 w6 hfe; obtain ⟨A', cap', rfl, h2, h3, h4⟩ := hfe; rw [HFC.out] at h2; have HO6 := Lib.hid h2; have HFm6 := Lib.hid h3; have HBl6 := Lib.hid h4; clear h2 h3 h4 HMS))
            have HB6 : Hid (Below w.heap.size w w6) := HB5.out.trans (HBl6.out.mono HB5.out.size)
            have HZ6 : Hid (Mem.Bx w6 55 74 gr zeroM) := HZ5.out.keeps (Mem.Keeps.of_below HBl6.out) id
            have HM6 : Hid (Mem.Bx w6 55 74 gm r.2) := HM5.out.keeps (Mem.Keeps.of_below HBl6.out) id
            have HR6 : Hid (Mem.Rd w6 w.heap.size (some ⟨b, o, none⟩) (bs.map Mem.byteV)) := HR5.out.below (HBl6.out.mono HB5.out.size)
            rw [HFC.out]
            rw [HFC.out] at HRR3
            clear HFC HBl6 HFm6 HB5 HZ5 HM5 HR5 HC5 y1 y3 y4 d2 HBS
            by_cases e0 : fc.2 = 0
            · have hcv1 := Mem.conv_all (P := Try.prog) (w := w6) (cap := cap') 39 9 5 bytes_under u8_under string_under HO6.out.rd rfl
              have hcv2 := Mem.conv_all (P := Try.prog) (w := w6) (cap := cap) 39 9 5 bytes_under u8_under string_under HR6.out rfl
              have heq := equal_any hcv1 hcv2
              have HEQ := Lib.hid heq
              have d3 : (fc.2 == 0) = true := by simpa using e0
              by_cases hok : fc.1 = bs
              · have hE : readM bs = (r.2, 0) := by rw [HRR3.out, if_pos ⟨e0, hok⟩]
                have HE := Lib.hid hE
                have hdd : decide (fc.1 = bs) = true := by simpa using hok
                rw [hdd] at HEQ
                have hone := Lib.hid (okL_one HOK.out)
                clear hcv1 hcv2 heq hok hE hdd HRR3 HO6 HR6 HOK
                go_wp2_with fail
                refine HEQ.out.mono ?_
                rintro x9 w7 ⟨rfl, rfl⟩
                clear HEQ
                go_wp2_with (first | ((with_reducible refine Mem.load_agg _ _ msg_agg gm 0 r.2 ?hxr hxl.out (fun j u hu => by rw [Nat.zero_add]; exact HM6.out.cell hu) ?_); case hxr => exact rfl) | ((with_reducible refine Mem.store_agg _ _ msg_agg gr zeroM r.2 ?hx ?hy HZ6.out hxl.out hone.out ?_); (case hx => exact rfl); (case hy => exact rfl); intro wz hbz hkz hsz))
                try simp only [Exit.jump]
                refine bodyPost_ret (v := .tuple #[.agg r.2.toArray, .int .i64 0]) (by rw [results_aggM Try.results23 msg_agg rfl hbz]; rfl) rfl ⟨by rw [HE.out], HB6.out.trans (hkz.below (fun q h => by omega) HB6.out.size)⟩
              · have hE : readM bs = (zeroM, 41) := by rw [HRR3.out, if_neg (fun h => hok h.2)]
                have HE := Lib.hid hE
                have hdd : decide (fc.1 = bs) = false := by simpa using hok
                rw [hdd] at HEQ
                have HBb := HB6
                have HZb := HZ6
                clear hcv1 hcv2 heq hok hE hdd HRR3 HO6 HR6 HOK HM6
                go_wp2_with fail
                refine HEQ.out.mono ?_
                rintro x9 w7 ⟨rfl, rfl⟩
                clear HEQ
                go_wp2
                go_step3
                go_wp2_with ((with_reducible refine Mem.store_agg _ _ msg_agg gr zeroM zeroM ?hx ?hy HZb.out rfl zeroM_one ?_); (case hx => exact rfl); (case hy => exact rfl); intro wz hbz hkz hsz)
                try simp only [Exit.jump]
                refine bodyPost_ret (v := .tuple #[.agg zeroM.toArray, .int .i64 41]) (by rw [results_aggM Try.results23 msg_agg rfl hbz]; rfl) rfl ⟨by rw [HE.out], HBb.out.trans (hkz.below (fun q h => by omega) HBb.out.size)⟩
            · have hE : readM bs = (zeroM, 41) := by rw [HRR3.out, if_neg (fun h => e0 h.1)]
              have HE := Lib.hid hE
              have d3 : (fc.2 == 0) = false := by simpa using e0
              have HBb := HB6
              have HZb := HZ6
              clear hE HRR3 HO6 HR6 HOK HM6
              go_wp2
              go_step3
              go_wp2_with ((with_reducible refine Mem.store_agg _ _ msg_agg gr zeroM zeroM ?hx ?hy HZb.out rfl zeroM_one ?_); (case hx => exact rfl); (case hy => exact rfl); intro wz hbz hkz hsz)
              try simp only [Exit.jump]
              refine bodyPost_ret (v := .tuple #[.agg zeroM.toArray, .int .i64 41]) (by rw [results_aggM Try.results23 msg_agg rfl hbz]; rfl) rfl ⟨by rw [HE.out], HBb.out.trans (hkz.below (fun q h => by omega) HBb.out.size)⟩
        · rw [harg] at y4
          have hE : readM bs = (zeroM, 41) := by rw [HRR2.out, if_pos (by unfold poor; simp [hbad,harg])]
          have HE := Lib.hid hE
          have HBb := HB5
          have HZb := HZ5
          clear hE HRR2 HBS HOK HRD0 HM5 HC5 HR5
          go_wp2
          go_step3
          refine ⟨rfl, ⟨HE.out, HBb.out, HZb.out, hgr⟩, ?_⟩
          exact ⟨_, _, _, _, _, _, _, _, _, _, _, _, _, _, _, _, _, _, _, _, _, _, _, _, _, _, _, _, _, _, _, _, _, _, _, _, _, _, _, _, _, _, _, _, _, _, _, _, _, _, _, _, _, _, _, _, _, _, _, _, _, _, _, _, rfl⟩
      · rw [hbad] at y3
        have hE : readM bs = (zeroM, 41) := by rw [HRR2.out, if_pos (by unfold poor; simp [hbad])]
        have HE := Lib.hid hE
        have HBb := HB5
        have HZb := HZ5
        clear hE HRR2 HBS HOK HRD0 HM5 HC5 HR5
        go_wp2
        go_step3
        refine ⟨rfl, ⟨HE.out, HBb.out, HZb.out, hgr⟩, ?_⟩
        exact ⟨_, _, _, _, _, _, _, _, _, _, _, _, _, _, _, _, _, _, _, _, _, _, _, _, _, _, _, _, _, _, _, _, _, _, _, _, _, _, _, _, _, _, _, _, _, _, _, _, _, _, _, _, _, _, _, _, _, _, _, _, _, _, _, _, rfl⟩
    · have hE : readM bs = (zeroM, 40) := by unfold readM; rw [if_pos he]
      have hV : bodyV A cap bs = .slice none 0 0 := by unfold bodyV; rw [if_neg (by rw [he]; decide)]
      have hbd := (body_any (HR1.out) hl hb).mono (R' := fun x w' => x = .returned (.tuple #[.slice none 0 0, .int .i64 40]) ∧ Below w1.heap.size w1 w') (fun x w' h => ⟨by rw [h.1, hV, he], h.2⟩)
      have HBD := Lib.hid hbd
      have HE := Lib.hid hE
      clear hE hV hbd he
      go_upto_region 2 with fail
      refine HBD.out.mono ?_
      rintro x9 w2 ⟨rfl, hb2⟩
      have HB2 : Hid (Below w.heap.size w w2) := HB1.out.trans (hb2.mono HB1.out.size)
      have HZ2 : Hid (Mem.Bx w2 55 74 gr zeroM) := HZ1.out.keeps (Mem.Keeps.of_below hb2) id
      have hgr4 : gr < w2.heap.size := Nat.lt_of_lt_of_le hgr2 hb2.size
      clear hb2 HBD HZ1 HR1 HR1' HB1 hgr2
      go_upto_region 4 with fail
      rw [msg_zero]
      obtain ⟨w3, hw3⟩ : ∃ w3, w2.alloc (.cells zeroM.toArray 55) = w3 := ⟨_, rfl⟩
      have hz3 : Mem.Bx w3 55 74 w2.heap.size zeroM := by rw [← hw3]; exact Mem.Bx.new w2 55 zeroM.toArray rfl rfl
      have hk3 : Below w2.heap.size w2 w3 := by rw [← hw3]; exact Reg.below_new _ _
      have hg3 : w3.heap.size = w2.heap.size + 1 := by rw [← hw3]; simp
      rw [hw3]
      obtain ⟨w4, hw4⟩ : ∃ w4, w3.alloc (.cells #[.slice none 0 0, .int .i64 0, .bool true, .bool false, .bool false, .bool false] 67) = w4 := ⟨_, rfl⟩
      have hc4 : Mem.Bx w4 67 6 w3.heap.size [.slice none 0 0, .int .i64 0, .bool true, .bool false, .bool false, .bool false] := by rw [← hw4]; exact Mem.Bx.new w3 67 #[.slice none 0 0, .int .i64 0, .bool true, .bool false, .bool false, .bool false] rfl rfl
      have hk4 : Below w3.heap.size w3 w4 := by rw [← hw4]; exact Reg.below_new _ _
      have hs4 := hc4.lt
      rw [hw4]
      have hk24 : Below w2.heap.size w2 w4 := hk3.trans (hk4.mono hk3.size)
      have hB4 : Below w.heap.size w w4 := HB2.out.trans (hk24.mono HB2.out.size)
      have hZ4 : Mem.Bx w4 55 74 gr zeroM := HZ2.out.keeps (Mem.Keeps.of_below hk24) id
      have HBb := Lib.hid hB4
      have HZb := Lib.hid hZ4
      clear hw3 hz3 hk3 hg3 hw4 hc4 hk4 hs4 hk24 hB4 hZ4 HZ2 HB2
      go_wp2_with ((with_reducible refine Mem.store_agg _ _ msg_agg gr zeroM zeroM ?hx ?hy HZb.out rfl zeroM_one ?_); (case hx => exact rfl); (case hy => exact rfl); intro wz hbz hkz hsz)
      try simp only [Exit.jump]
      refine bodyPost_ret (v := .tuple #[.agg zeroM.toArray, .int .i64 40]) (by rw [results_aggM Try.results23 msg_agg rfl hbz]; rfl) rfl ⟨by rw [HE.out], HBb.out.trans (hkz.below (fun q h => by omega) HBb.out.size)⟩
    · have hE : readM bs = (zeroM, 41) := by unfold readM; rw [if_neg (by rw [he]; decide), if_pos (.inl (by rw [he]; decide))]
      have hV : bodyV A cap bs = .slice none 0 0 := by unfold bodyV; rw [if_neg (by rw [he]; decide)]
      have hbd := (body_any (HR1.out) hl hb).mono (R' := fun x w' => x = .returned (.tuple #[.slice none 0 0, .int .i64 41]) ∧ Below w1.heap.size w1 w') (fun x w' h => ⟨by rw [h.1, hV, he], h.2⟩)
      have HBD := Lib.hid hbd
      have HE := Lib.hid hE
      clear hE hV hbd he
      go_upto_region 2 with fail
      refine HBD.out.mono ?_
      rintro x9 w2 ⟨rfl, hb2⟩
      have HB2 : Hid (Below w.heap.size w w2) := HB1.out.trans (hb2.mono HB1.out.size)
      have HZ2 : Hid (Mem.Bx w2 55 74 gr zeroM) := HZ1.out.keeps (Mem.Keeps.of_below hb2) id
      have hgr4 : gr < w2.heap.size := Nat.lt_of_lt_of_le hgr2 hb2.size
      clear hb2 HBD HZ1 HR1 HR1' HB1 hgr2
      go_upto_region 4 with fail
      rw [msg_zero]
      obtain ⟨w3, hw3⟩ : ∃ w3, w2.alloc (.cells zeroM.toArray 55) = w3 := ⟨_, rfl⟩
      have hz3 : Mem.Bx w3 55 74 w2.heap.size zeroM := by rw [← hw3]; exact Mem.Bx.new w2 55 zeroM.toArray rfl rfl
      have hk3 : Below w2.heap.size w2 w3 := by rw [← hw3]; exact Reg.below_new _ _
      have hg3 : w3.heap.size = w2.heap.size + 1 := by rw [← hw3]; simp
      rw [hw3]
      obtain ⟨w4, hw4⟩ : ∃ w4, w3.alloc (.cells #[.slice none 0 0, .int .i64 0, .bool true, .bool false, .bool false, .bool false] 67) = w4 := ⟨_, rfl⟩
      have hc4 : Mem.Bx w4 67 6 w3.heap.size [.slice none 0 0, .int .i64 0, .bool true, .bool false, .bool false, .bool false] := by rw [← hw4]; exact Mem.Bx.new w3 67 #[.slice none 0 0, .int .i64 0, .bool true, .bool false, .bool false, .bool false] rfl rfl
      have hk4 : Below w3.heap.size w3 w4 := by rw [← hw4]; exact Reg.below_new _ _
      have hs4 := hc4.lt
      rw [hw4]
      have hk24 : Below w2.heap.size w2 w4 := hk3.trans (hk4.mono hk3.size)
      have hB4 : Below w.heap.size w w4 := HB2.out.trans (hk24.mono HB2.out.size)
      have hZ4 : Mem.Bx w4 55 74 gr zeroM := HZ2.out.keeps (Mem.Keeps.of_below hk24) id
      have HBb := Lib.hid hB4
      have HZb := Lib.hid hZ4
      clear hw3 hz3 hk3 hg3 hw4 hc4 hk4 hs4 hk24 hB4 hZ4 HZ2 HB2
      go_wp2
      go_step3
      refine ⟨rfl, ⟨HE.out, HBb.out, HZb.out, hgr⟩, ?_⟩
      exact ⟨_, _, _, _, _, _, _, _, _, _, _, _, _, _, _, _, _, _, _, _, _, _, _, _, _, _, _, _, _, _, _, _, _, _, _, _, _, _, _, _, _, _, _, _, _, _, _, _, _, _, _, _, _, _, _, _, _, _, _, _, _, _, _, _, rfl⟩
  · rintro a' wb ⟨hJ, u1, u3, u4, u5, u6, u7, u8, u9, u10, u11, u12, u13, u14, u15, u16, u17, u18, u19, u20, u21, u22, u23, u24, u25, u26, u27, u28, u29, u30, u31, u32, u33, u34, u35, u36, u37, u38, u39, u40, u41, u42, u43, u44, u45, u46, u47, u48, u49, u50, u51, u52, u53, u54, u55, u56, u57, u58, u59, u60, u61, u62, u63, u64, u65, rfl⟩
    have HE := hJ.e
    have HBb := hJ.b
    have HZb := hJ.z
    have hgr3 := hJ.g
    clear hJ
    go_wp2_with ((with_reducible refine Mem.store_agg _ _ msg_agg gr zeroM zeroM ?hx ?hy HZb.out rfl zeroM_one ?_); (case hx => exact rfl); (case hy => exact rfl); intro wz hbz hkz hsz)
    try simp only [Exit.jump]
    refine bodyPost_ret (v := .tuple #[.agg zeroM.toArray, .int .i64 41]) (by rw [results_aggM Try.results23 msg_agg rfl hbz]; rfl) rfl ⟨by rw [HE.out], HBb.out.trans (hkz.below (fun q h => by omega) HBb.out.size)⟩
end Go.Proofs.Ytkfgedgjpgehoaa
