/- The walk of ReadRecord. -/
import Derived.Test.YtkfgedgjpgehoaaWire19
namespace Go.Proofs.Ytkfgedgjpgehoaa
open Go.ChangeShapes Go.WideShapes Go.ChangeAt Go.RowKit
set_option linter.unusedVariables false
set_option linter.unusedSimpArgs false
namespace Wi
def RrEnd (w : World) (bs : List UInt8) (x : Ending) (w' : World) : Prop := x = .returned (.tuple #[.agg (readR bs).1.toArray, .int .i64 ((readR bs).2.1 : Nat), .int .i64 (readR bs).2.2]) ∧ Below w.heap.size w w'
structure RrJ (w : World) (A : Option Addr) (cap : Nat) (bs : List UInt8) (gr : Nat) (w' : World) : Prop where
  e : Hid (readR bs = (zeroR, 0, 41))
  b : Hid (Below w.heap.size w w')
  z : Hid (Mem.Bx w' 37 35 gr zeroR)
  g : w.heap.size ≤ gr
theorem recB_reads (r : Cd × List Value) : (recB r).1.reads = r.1.reads := by
  unfold recB
  split
  · split
    · exact runM_reads _ _
    · split
      · exact runM_reads _ _
      · split <;> rfl
  · rfl
end Wi
open Wi in
set_option maxRecDepth 100000 in
set_option maxHeartbeats 4000000 in
theorem readRecord_any {w : World} {A : Option Addr} {cap : Nat} {bs : List UInt8} (hR : Mem.Rd w w.heap.size A (bs.map Mem.byteV)) (hl : bs.length ≤ cap) (hb : bs.length ≤ 1000000000) (hcap : cap ≤ maxLen) :
    Calls Try.prog 17 #[.slice A bs.length cap] w (Wi.RrEnd w bs) := by
  have HR := Lib.hid hR
  clear hR
  go_enter Try.func17, Try.ntmps17
  go_wp2
  obtain ⟨w1, hw1⟩ : ∃ w1, w.alloc (.cells #[.int .i64 0, .int .i64 0, .int .i64 0, .int .i64 0, .int .i64 0, .int .i64 0, .int .i64 0, .string ⟨#[]⟩, .string ⟨#[]⟩, .bool false, .int .i64 0, .int .i64 0, .int .i64 0, .int .i64 0, .int .i64 0, .int .i64 0, .int .i64 0, .int .i64 0, .int .i64 0, .int .i64 0, .int .i64 0, .int .i64 0, .int .i64 0, .int .i64 0, .int .i64 0, .int .i64 0, .int .i64 0, .int .i64 0, .int .i64 0, .int .i64 0, .int .i64 0, .bool false, .int .i64 0, .int .i64 0, .int .i64 0] 37) = w1 := ⟨_, rfl⟩
  have HZ1 : Hid (Mem.Bx w1 37 35 w.heap.size zeroR) := by show Mem.Bx _ _ _ _ _; rw [← hw1]; exact Mem.Bx.new w 37 #[.int .i64 0, .int .i64 0, .int .i64 0, .int .i64 0, .int .i64 0, .int .i64 0, .int .i64 0, .string ⟨#[]⟩, .string ⟨#[]⟩, .bool false, .int .i64 0, .int .i64 0, .int .i64 0, .int .i64 0, .int .i64 0, .int .i64 0, .int .i64 0, .int .i64 0, .int .i64 0, .int .i64 0, .int .i64 0, .int .i64 0, .int .i64 0, .int .i64 0, .int .i64 0, .int .i64 0, .int .i64 0, .int .i64 0, .int .i64 0, .int .i64 0, .int .i64 0, .bool false, .int .i64 0, .int .i64 0, .int .i64 0] rfl rfl
  have HB1 : Hid (Below w.heap.size w w1) := by show Below _ _ _; rw [← hw1]; exact Reg.below_new _ _
  have HR1 : Hid (Mem.Rd w1 w1.heap.size A (bs.map Mem.byteV)) := (HR.out.below HB1.out).more HB1.out.size
  have HR1' : Hid (Mem.Rd w1 w.heap.size A (bs.map Mem.byteV)) := HR.out.below HB1.out
  rw [hw1]
  clear hw1
  obtain ⟨gr, hgr0⟩ : ∃ gr, w.heap.size = gr := ⟨_, rfl⟩
  have hgr : w.heap.size ≤ gr := by omega
  have hgr2 : gr < w1.heap.size := by have := HZ1.out.lt; omega
  rw [hgr0] at HZ1 ⊢
  have HGR := Lib.hid hgr0
  clear hgr0
  refine wp_scope_jumps 0 (fun a' w' => RrJ w A cap bs gr w' ∧ ∃ (u1 u3 u4 u5 u6 u7 u8 u9 u10 u11 u12 u13 u14 u15 u16 u17 u18 u19 u20 u21 u22 u23 u24 u25 u26 u27 u28 u29 u30 u31 u32 u33 u34 u35 u36 u37 u38 u39 u40 u41 u42 u43 u44 u45 u46 u47 u48 u49 u50 u51 u52 u53 u54 u55 u56 u57 u58 u59 u60 u61 u62 u63 u64 u65 u66 : Value), a' = { tmps := #[.slice A bs.length cap, u1, .pointer (some ⟨gr, 0, none⟩), u3, u4, u5, u6, u7, u8, u9, u10, u11, u12, u13, u14, u15, u16, u17, u18, u19, u20, u21, u22, u23, u24, u25, u26, u27, u28, u29, u30, u31, u32, u33, u34, u35, u36, u37, u38, u39, u40, u41, u42, u43, u44, u45, u46, u47, u48, u49, u50, u51, u52, u53, u54, u55, u56, u57, u58, u59, u60, u61, u62, u63, u64, u65, u66], defers := [] }) (fun _ _ => 0) rfl ?_ ?_
  · by_cases hne : bs = []
    · have hE : readR bs = (zeroR, 0, 3) := by unfold readR; rw [if_pos hne]
      have HE := Lib.hid hE
      have d1 : ((bs.length : Int) == 0) = true := by rw [hne]; rfl
      have HBb := HB1
      have HZb := HZ1
      clear hE hne
      go_wp2_with ((with_reducible refine Mem.store_agg _ _ record_agg gr zeroR zeroR ?hx ?hy HZb.out rfl zeroR_one ?_); (case hx => exact rfl); (case hy => exact rfl); intro wz hbz hkz hsz)
      try simp only [Exit.jump]
      refine bodyPost_ret (v := .tuple #[.agg zeroR.toArray, .int .i64 0, .int .i64 3]) (by rw [results_agg3 Try.results17 record_agg rfl hbz]; rfl) rfl ⟨by rw [HE.out]; rfl, HBb.out.trans (hkz.below (fun q h => by omega) HBb.out.size)⟩
    · have d1 : ((bs.length : Int) == 0) = false := by
        have := List.length_pos_iff.2 hne
        simp; omega
      rcases bodyC_cases bs with he | he | he
      · obtain ⟨b, o, rfl, hbb, hV, hRs, hsl⟩ := bodyV_good he HR1'.out hl
        have h6 := bodyC_good he
        have hn5 := hdN_lt bs
        obtain ⟨n, hn⟩ : ∃ n, hdN bs = n := ⟨_, rfl⟩
        obtain ⟨bsn, hbsn⟩ : ∃ bsn, Mem.sub bs 2 n = bsn := ⟨_, rfl⟩
        rw [hn] at hV hRs hsl h6 hn5
        rw [hbsn] at hRs hsl
        have hrr : readR bs = if poor (runR bsn) n = true then (zeroR, 0, 41) else if (framedC (recC (runR bsn).2)).2 = 0 ∧ (framedC (recC (runR bsn).2)).1 = Mem.sub bs 0 (n + 6) then ((runR bsn).2, (framedC (recC (runR bsn).2)).1.length, 0) else (zeroR, 0, 41) := by
          unfold readR; rw [if_neg hne, if_neg (by rw [he]; decide), hn, hbsn]
        have HRR := Lib.hid hrr
        have HRS := Lib.hid hRs
        have HSL := Lib.hid hsl
        have hbd := (body_any HR1.out hl hb).mono (R' := fun x w' => x = .returned (.tuple #[.slice (some ⟨b, o + 2, none⟩) n (cap - 2), .int .i64 0]) ∧ Below w1.heap.size w1 w') (fun x w' h => ⟨by rw [h.1, hV, he], h.2⟩)
        have HBD := Lib.hid hbd
        clear hV hbd he hrr hRs hsl hn hbsn
        go_upto_region 4 with fail
        refine HBD.out.mono ?_
        rintro x9 w2 ⟨rfl, hb2⟩
        have HB2 : Hid (Below w.heap.size w w2) := HB1.out.trans (hb2.mono HB1.out.size)
        have HZ2 : Hid (Mem.Bx w2 37 35 gr zeroR) := HZ1.out.keeps (Mem.Keeps.of_below hb2) id
        have hgr4 : gr < w2.heap.size := Nat.lt_of_lt_of_le hgr2 hb2.size
        clear hb2 HBD HZ1 HR1 HR1' HB1 hgr2
        go_upto_region 9 with fail
        obtain ⟨w3, hw3⟩ : ∃ w3, w2.alloc (.cells #[.int .i64 0, .int .i64 0, .int .i64 0, .int .i64 0, .int .i64 0, .int .i64 0, .int .i64 0, .string ⟨#[]⟩, .string ⟨#[]⟩, .bool false, .int .i64 0, .int .i64 0, .int .i64 0, .int .i64 0, .int .i64 0, .int .i64 0, .int .i64 0, .int .i64 0, .int .i64 0, .int .i64 0, .int .i64 0, .int .i64 0, .int .i64 0, .int .i64 0, .int .i64 0, .int .i64 0, .int .i64 0, .int .i64 0, .int .i64 0, .int .i64 0, .int .i64 0, .bool false, .int .i64 0, .int .i64 0, .int .i64 0] 37) = w3 := ⟨_, rfl⟩
        have hz3 : Mem.Bx w3 37 35 w2.heap.size zeroR := by rw [← hw3]; exact Mem.Bx.new w2 37 #[.int .i64 0, .int .i64 0, .int .i64 0, .int .i64 0, .int .i64 0, .int .i64 0, .int .i64 0, .string ⟨#[]⟩, .string ⟨#[]⟩, .bool false, .int .i64 0, .int .i64 0, .int .i64 0, .int .i64 0, .int .i64 0, .int .i64 0, .int .i64 0, .int .i64 0, .int .i64 0, .int .i64 0, .int .i64 0, .int .i64 0, .int .i64 0, .int .i64 0, .int .i64 0, .int .i64 0, .int .i64 0, .int .i64 0, .int .i64 0, .int .i64 0, .int .i64 0, .bool false, .int .i64 0, .int .i64 0, .int .i64 0] rfl rfl
        have hk3 : Below w2.heap.size w2 w3 := by rw [← hw3]; exact Reg.below_new _ _
        have hg3 : w3.heap.size = w2.heap.size + 1 := by rw [← hw3]; simp
        rw [hw3]
        obtain ⟨w4, hw4⟩ : ∃ w4, w3.alloc (.cells #[.slice (some ⟨b, o + 2, none⟩) n (cap - 2), .int .i64 0, .bool true, .bool false, .bool false, .bool false] 67) = w4 := ⟨_, rfl⟩
        have hc4 : Mem.Bx w4 67 6 w3.heap.size [.slice (some ⟨b, o + 2, none⟩) n (cap - 2), .int .i64 0, .bool true, .bool false, .bool false, .bool false] := by rw [← hw4]; exact Mem.Bx.new w3 67 #[.slice (some ⟨b, o + 2, none⟩) n (cap - 2), .int .i64 0, .bool true, .bool false, .bool false, .bool false] rfl rfl
        have hk4 : Below w3.heap.size w3 w4 := by rw [← hw4]; exact Reg.below_new _ _
        have hs4 := hc4.lt
        rw [hw4]
        have hk24 : Below w2.heap.size w2 w4 := hk3.trans (hk4.mono hk3.size)
        have hB4 : Below w.heap.size w w4 := HB2.out.trans (hk24.mono HB2.out.size)
        have hZ4 : Mem.Bx w4 37 35 gr zeroR := HZ2.out.keeps (Mem.Keeps.of_below hk24) id
        have hM4 : Mem.Bx w4 37 35 w2.heap.size zeroR := hz3.keeps (Mem.Keeps.of_below hk4) id
        have hR4 : Mem.Rd w4 w.heap.size (some ⟨b, o, none⟩) (bs.map Mem.byteV) := HR.out.below hB4
        have hRs4 := HRS.out w4 hR4
        have hCA : CAt w4 w3.heap.size (some ⟨b, o + 2, none⟩) (cap - 2) (rdC bsn) := ⟨by
          show Mem.Bx _ _ _ _ [.slice (some ⟨b, o + 2, none⟩) bsn.length (cap - 2), _, _, _, _, _]
          rw [HSL.out]; exact hc4, hRs4.more (Nat.le_trans HB2.out.size hk24.size), (fun h => by cases h), (fun k h => by have e9 : b = k := (by simpa [Mem.blk] using h); have := HB2.out.size; have := hk3.size; omega), ⟨by show bsn.length ≤ _; rw [HSL.out]; omega, by omega⟩, fun k h => by have e9 : b = k := (by simpa [Mem.blk] using h); have := hB4.size; omega⟩
        have hw24 := hk24.size
        have hw2 := HB2.out.size
        rw [hg3] at hCA hs4
        obtain ⟨gm, hgm⟩ : ∃ gm, w2.heap.size = gm := ⟨_, rfl⟩
        rw [hgm] at hCA hM4 hgr4 hs4 hw2 ⊢
        have HB4 := Lib.hid hB4
        have HZ4 := Lib.hid hZ4
        have HM4 := Lib.hid hM4
        have HR4 := Lib.hid hR4
        have HCA := Lib.hid hCA
        clear hw3 hz3 hk3 hg3 hw4 hc4 hk4 hk24 hB4 hZ4 hM4 hR4 hRs4 hCA hgm hw24 HZ2 HB2 HR HRS
        have HN := Lib.hid (record_pass (A := some ⟨b, o + 2, none⟩) (r := (rdC bsn, zeroR)) (L := 70000) HCA.out HM4.out ⟨⟨Nat.zero_le _, by show bsn.length ≤ _; rw [HSL.out]; omega⟩, zeroR_ok, fun h => by cases h⟩ (by omega) (by omega) (by simp [Mem.blk]; omega))
        have hrun : recF (rdC bsn, zeroR) = runR bsn := rfl
        rw [hrun] at HN
        have hrd0 : (runR bsn).1.reads = true := by
          show (recB (stepN (rdC bsn, zeroR) 0)).1.reads = true
          rw [recB_reads, stepN_reads]; rfl
        have hbs := recF_rd (r := (rdC bsn, zeroR)) (M := 65536) rfl (by show bsn.length ≤ _; rw [HSL.out]; omega) (zeroR_sh _)
        have hok := recF_ok (ks := recK) (r := (rdC bsn, zeroR)) zeroR_ok
        rw [hrun] at hbs hok
        obtain ⟨r, hr⟩ : ∃ r, runR bsn = r := ⟨_, rfl⟩
        rw [hr] at HN hrd0 hbs hok
        have hrr := HRR.out
        rw [hr] at hrr
        have HRR2 := Lib.hid hrr
        have HBS := Lib.hid hbs
        have HOK := Lib.hid hok
        have HRD0 := Lib.hid hrd0
        clear hrun hrd0 hbs hok hr hrr HRR
        go_upto_region 10 with fail
        refine HN.out.mono ?_
        rintro x9 w5 ⟨rfl, hp⟩
        have hkp := hp.rd HRD0.out
        obtain ⟨A2, cap2, p1, p2, p3, p4⟩ := hp.out
        have HB5 : Hid (Below w.heap.size w w5) := HB4.out.trans (hkp.below (fun q h => by omega) HB4.out.size)
        have HZ5 : Hid (Mem.Bx w5 37 35 gr zeroR) := HZ4.out.keeps hkp (fun h => by omega)
        have HR5 : Hid (Mem.Rd w5 w.heap.size (some ⟨b, o, none⟩) (bs.map Mem.byteV)) := HR4.out.keeps hkp (fun q h => by omega) HB4.out.size
        have HM5 := Lib.hid p2
        have HC5 := Lib.hid p1
        have y1 : w5.cell? ⟨gm + 1, 1, none⟩ = some (.int .i64 (r.1.pos : Nat)) := p1.B.cell (j := 1) rfl
        have y3 : w5.cell? ⟨gm + 1, 3, none⟩ = some (.bool r.1.bad) := p1.B.cell (j := 3) rfl
        have y4 : w5.cell? ⟨gm + 1, 4, none⟩ = some (.bool r.1.arg) := p1.B.cell (j := 4) rfl
        clear hkp p1 p2 p3 p4 hp HN HB4 HZ4 HR4 HM4 HCA
        go_upto_region 10 with fail
        cases hbad : r.1.bad
        · rw [hbad] at y3
          cases harg : r.1.arg
          · rw [harg] at y4
            by_cases hpn : r.1.pos < n
            · have d2 : decide (r.1.pos < n) = true := by simpa using hpn
              have hE : readR bs = (zeroR, 0, 41) := by rw [HRR2.out, if_pos (by unfold poor; simp [hbad,harg,hpn])]
              have HE := Lib.hid hE
              have HBb := HB5
              have HZb := HZ5
              clear hE HRR2 HBS HOK HRD0 HM5 HC5 HR5
              go_wp2
              go_step3
              exact ⟨rfl, ⟨HE.out, HBb.out, HZb.out, hgr⟩, _, _, _, _, _, _, _, _, _, _, _, _, _, _, _, _, _, _, _, _, _, _, _, _, _, _, _, _, _, _, _, _, _, _, _, _, _, _, _, _, _, _, _, _, _, _, _, _, _, _, _, _, _, _, _, _, _, _, _, _, _, _, _, _, _, rfl⟩
            · have d2 : decide (r.1.pos < n) = false := by simpa using hpn
              have hp0 : ¬ poor r n = true := by unfold poor; simp [hbad, harg, hpn]
              have hrr := HRR2.out
              rw [if_neg hp0] at hrr
              have HRR3 := Lib.hid hrr
              clear hp0 hrr HRR2 hbad harg hpn
              have hfed : Fed recK r.2 := ⟨HOK.out, fun k s h => Nat.le_trans (HBS.out.2 k s h) (by omega)⟩
              have hmsg := rec_any (w := w5) hfed
              have HMS := Lib.hid hmsg
              have hxl : Hid (r.2.length = 35) := HOK.out.len
              clear hfed hmsg
              obtain ⟨fc, hfc⟩ : ∃ fc, framedC (recC r.2) = fc := ⟨_, rfl⟩
              have HFC := Lib.hid hfc
              clear hfc
              go_upto_region 11 with fail
              go_upto_region 12 with (first | ((with_reducible refine Mem.load_agg _ _ record_agg gm 0 r.2 ?hxr hxl.out (fun j u hu => by rw [Nat.zero_add]; exact HM5.out.cell hu) ?_); case hxr => exact rfl) | (go_at_call 15; refine HMS.out.mono ?_; intro x9 w6 hfe; obtain ⟨A', cap', rfl, h2, h3, h4⟩ := hfe; rw [HFC.out] at h2; have HO6 := Lib.hid h2; have HFm6 := Lib.hid h3; have HBl6 := Lib.hid h4; clear h2 h3 h4 HMS))
              have HB6 : Hid (Below w.heap.size w w6) := HB5.out.trans (HBl6.out.mono HB5.out.size)
              have HZ6 : Hid (Mem.Bx w6 37 35 gr zeroR) := HZ5.out.keeps (Mem.Keeps.of_below HBl6.out) id
              have HM6 : Hid (Mem.Bx w6 37 35 gm r.2) := HM5.out.keeps (Mem.Keeps.of_below HBl6.out) id
              have HR6 : Hid (Mem.Rd w6 w.heap.size (some ⟨b, o, none⟩) (bs.map Mem.byteV)) := HR5.out.below (HBl6.out.mono HB5.out.size)
              rw [HFC.out]
              rw [HFC.out] at HRR3
              clear HFC HBl6 HFm6 HB5 HZ5 HM5 HR5 HC5 y1 y3 y4 d2 HBS
              by_cases e0 : fc.2 = 0
              · have hcv1 := Mem.conv_all (P := Try.prog) (w := w6) (cap := cap') 39 9 5 bytes_under u8_under string_under HO6.out.rd rfl
                have hls : (Mem.sub bs 0 (n + 6)).length = n + 6 := Mem.sub_len (by omega)
                have hrd : Mem.Rd w6 w.heap.size (some ⟨b, o, none⟩) ((Mem.sub bs 0 (n + 6)).map Mem.byteV) := by
                  rw [Mem.map_sub, List.drop_zero]; exact HR6.out.take _
                have hcv2 := Mem.conv_all (P := Try.prog) (w := w6) (cap := cap) 39 9 5 bytes_under u8_under string_under hrd hls
                have heq := equal_any hcv1 hcv2
                have HEQ := Lib.hid heq
                have hn6 : n + 6 ≤ cap := by omega
                have d3 : (fc.2 == 0) = true := by simpa using e0
                by_cases hok : fc.1 = Mem.sub bs 0 (n + 6)
                · have hE : readR bs = (r.2, fc.1.length, 0) := by rw [HRR3.out, if_pos ⟨e0, hok⟩]
                  have HE := Lib.hid hE
                  have hdd : decide (fc.1 = Mem.sub bs 0 (n + 6)) = true := by simpa using hok
                  rw [hdd] at HEQ
                  have hone := Lib.hid (okL_one HOK.out)
                  clear hcv1 hcv2 hls hrd heq hok hE hdd HRR3 HO6 HR6 HOK
                  go_wp2_with fail
                  refine HEQ.out.mono ?_
                  rintro x9 w7 ⟨rfl, rfl⟩
                  clear HEQ
                  go_wp2_with (first | ((with_reducible refine Mem.load_agg _ _ record_agg gm 0 r.2 ?hxr hxl.out (fun j u hu => by rw [Nat.zero_add]; exact HM6.out.cell hu) ?_); case hxr => exact rfl) | ((with_reducible refine Mem.store_agg _ _ record_agg gr zeroR r.2 ?hx ?hy HZ6.out hxl.out hone.out ?_); (case hx => exact rfl); (case hy => exact rfl); intro wz hbz hkz hsz))
                  try simp only [Exit.jump]
                  refine bodyPost_ret (v := .tuple #[.agg r.2.toArray, .int .i64 (fc.1.length : Nat), .int .i64 0]) (by rw [results_agg3 Try.results17 record_agg rfl hbz]; rfl) rfl ⟨by rw [HE.out], HB6.out.trans (hkz.below (fun q h => by omega) HB6.out.size)⟩
                · have hE : readR bs = (zeroR, 0, 41) := by rw [HRR3.out, if_neg (fun h => hok h.2)]
                  have HE := Lib.hid hE
                  have hdd : decide (fc.1 = Mem.sub bs 0 (n + 6)) = false := by simpa using hok
                  rw [hdd] at HEQ
                  have HBb := HB6
                  have HZb := HZ6
                  clear hcv1 hcv2 hls hrd heq hok hE hdd HRR3 HO6 HR6 HOK HM6
                  go_wp2_with fail
                  refine HEQ.out.mono ?_
                  rintro x9 w7 ⟨rfl, rfl⟩
                  clear HEQ
                  go_wp2
                  go_step3
                  go_wp2_with ((with_reducible refine Mem.store_agg _ _ record_agg gr zeroR zeroR ?hx ?hy HZb.out rfl zeroR_one ?_); (case hx => exact rfl); (case hy => exact rfl); intro wz hbz hkz hsz)
                  try simp only [Exit.jump]
                  refine bodyPost_ret (v := .tuple #[.agg zeroR.toArray, .int .i64 0, .int .i64 41]) (by rw [results_agg3 Try.results17 record_agg rfl hbz]; rfl) rfl ⟨by rw [HE.out]; rfl, HBb.out.trans (hkz.below (fun q h => by omega) HBb.out.size)⟩
              · have hE : readR bs = (zeroR, 0, 41) := by rw [HRR3.out, if_neg (fun h => e0 h.1)]
                have HE := Lib.hid hE
                have d3 : (fc.2 == 0) = false := by simpa using e0
                have HBb := HB6
                have HZb := HZ6
                clear hE HRR3 HO6 HR6 HOK HM6
                go_wp2
                go_step3
                go_wp2_with ((with_reducible refine Mem.store_agg _ _ record_agg gr zeroR zeroR ?hx ?hy HZb.out rfl zeroR_one ?_); (case hx => exact rfl); (case hy => exact rfl); intro wz hbz hkz hsz)
                try simp only [Exit.jump]
                refine bodyPost_ret (v := .tuple #[.agg zeroR.toArray, .int .i64 0, .int .i64 41]) (by rw [results_agg3 Try.results17 record_agg rfl hbz]; rfl) rfl ⟨by rw [HE.out]; rfl, HBb.out.trans (hkz.below (fun q h => by omega) HBb.out.size)⟩
          · rw [harg] at y4
            have hE : readR bs = (zeroR, 0, 41) := by rw [HRR2.out, if_pos (by unfold poor; simp [hbad,harg])]
            have HE := Lib.hid hE
            have HBb := HB5
            have HZb := HZ5
            clear hE HRR2 HBS HOK HRD0 HM5 HC5 HR5
            go_wp2
            go_step3
            exact ⟨rfl, ⟨HE.out, HBb.out, HZb.out, hgr⟩, _, _, _, _, _, _, _, _, _, _, _, _, _, _, _, _, _, _, _, _, _, _, _, _, _, _, _, _, _, _, _, _, _, _, _, _, _, _, _, _, _, _, _, _, _, _, _, _, _, _, _, _, _, _, _, _, _, _, _, _, _, _, _, _, _, rfl⟩
        · rw [hbad] at y3
          have hE : readR bs = (zeroR, 0, 41) := by rw [HRR2.out, if_pos (by unfold poor; simp [hbad])]
          have HE := Lib.hid hE
          have HBb := HB5
          have HZb := HZ5
          clear hE HRR2 HBS HOK HRD0 HM5 HC5 HR5
          go_wp2
          go_step3
          exact ⟨rfl, ⟨HE.out, HBb.out, HZb.out, hgr⟩, _, _, _, _, _, _, _, _, _, _, _, _, _, _, _, _, _, _, _, _, _, _, _, _, _, _, _, _, _, _, _, _, _, _, _, _, _, _, _, _, _, _, _, _, _, _, _, _, _, _, _, _, _, _, _, _, _, _, _, _, _, _, _, _, _, rfl⟩
      ·
          have hE : readR bs = (zeroR, 0, 40) := by unfold readR; rw [if_neg hne, if_pos (by rw [he]; decide), he]
          have HE := Lib.hid hE
          have hV : bodyV A cap bs = .slice none 0 0 := by unfold bodyV; rw [if_neg (by rw [he]; decide)]
          have hbd := (body_any (HR1.out) hl hb).mono (R' := fun x w' => x = .returned (.tuple #[.slice none 0 0, .int .i64 40]) ∧ Below w1.heap.size w1 w') (fun x w' h => ⟨by rw [h.1, hV, he], h.2⟩)
          have HBD := Lib.hid hbd
          clear hE hV hbd he
          go_upto_region 4 with fail
          refine HBD.out.mono ?_
          rintro x9 w2 ⟨rfl, hb2⟩
          have HBb : Hid (Below w.heap.size w w2) := HB1.out.trans (hb2.mono HB1.out.size)
          have HZb : Hid (Mem.Bx w2 37 35 gr zeroR) := HZ1.out.keeps (Mem.Keeps.of_below hb2) id
          clear hb2 HBD
          go_wp2_with ((with_reducible refine Mem.store_agg _ _ record_agg gr zeroR zeroR ?hx ?hy HZb.out rfl zeroR_one ?_); (case hx => exact rfl); (case hy => exact rfl); intro wz hbz hkz hsz)
          try simp only [Exit.jump]
          refine bodyPost_ret (v := .tuple #[.agg zeroR.toArray, .int .i64 0, .int .i64 40]) (by rw [results_agg3 Try.results17 record_agg rfl hbz]; rfl) rfl ⟨by rw [HE.out]; rfl, HBb.out.trans (hkz.below (fun q h => by omega) HBb.out.size)⟩
      ·
          have hE : readR bs = (zeroR, 0, 41) := by unfold readR; rw [if_neg hne, if_pos (by rw [he]; decide), he]
          have HE := Lib.hid hE
          have hV : bodyV A cap bs = .slice none 0 0 := by unfold bodyV; rw [if_neg (by rw [he]; decide)]
          have hbd := (body_any (HR1.out) hl hb).mono (R' := fun x w' => x = .returned (.tuple #[.slice none 0 0, .int .i64 41]) ∧ Below w1.heap.size w1 w') (fun x w' h => ⟨by rw [h.1, hV, he], h.2⟩)
          have HBD := Lib.hid hbd
          clear hE hV hbd he
          go_upto_region 4 with fail
          refine HBD.out.mono ?_
          rintro x9 w2 ⟨rfl, hb2⟩
          have HBb : Hid (Below w.heap.size w w2) := HB1.out.trans (hb2.mono HB1.out.size)
          have HZb : Hid (Mem.Bx w2 37 35 gr zeroR) := HZ1.out.keeps (Mem.Keeps.of_below hb2) id
          clear hb2 HBD
          go_wp2_with ((with_reducible refine Mem.store_agg _ _ record_agg gr zeroR zeroR ?hx ?hy HZb.out rfl zeroR_one ?_); (case hx => exact rfl); (case hy => exact rfl); intro wz hbz hkz hsz)
          try simp only [Exit.jump]
          refine bodyPost_ret (v := .tuple #[.agg zeroR.toArray, .int .i64 0, .int .i64 41]) (by rw [results_agg3 Try.results17 record_agg rfl hbz]; rfl) rfl ⟨by rw [HE.out]; rfl, HBb.out.trans (hkz.below (fun q h => by omega) HBb.out.size)⟩
  · rintro a' wb ⟨hJ, u1, u3, u4, u5, u6, u7, u8, u9, u10, u11, u12, u13, u14, u15, u16, u17, u18, u19, u20, u21, u22, u23, u24, u25, u26, u27, u28, u29, u30, u31, u32, u33, u34, u35, u36, u37, u38, u39, u40, u41, u42, u43, u44, u45, u46, u47, u48, u49, u50, u51, u52, u53, u54, u55, u56, u57, u58, u59, u60, u61, u62, u63, u64, u65, u66, rfl⟩
    have HE := hJ.e
    have HBb := hJ.b
    have HZb := hJ.z
    have hgr3 := hJ.g
    clear hJ
    go_wp2_with ((with_reducible refine Mem.store_agg _ _ record_agg gr zeroR zeroR ?hx ?hy HZb.out rfl zeroR_one ?_); (case hx => exact rfl); (case hy => exact rfl); intro wz hbz hkz hsz)
    try simp only [Exit.jump]
    refine bodyPost_ret (v := .tuple #[.agg zeroR.toArray, .int .i64 0, .int .i64 41]) (by rw [results_agg3 Try.results17 record_agg rfl hbz]; rfl) rfl ⟨by rw [HE.out]; rfl, HBb.out.trans (hkz.below (fun q h => by omega) HBb.out.size)⟩
end Go.Proofs.Ytkfgedgjpgehoaa
