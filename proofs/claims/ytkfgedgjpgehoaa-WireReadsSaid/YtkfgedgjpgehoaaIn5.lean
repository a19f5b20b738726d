/- The walk of the document's ReadMsg. PRINTED by wip/mkin2.py. No conditions but that the bytes are few. -/
import Derived.Test.YtkfgedgjpgehoaaIn4
import Derived.Test.YtkfgedgjpgehoaaInM
import Derived.Test.YtkfgedgjpgehoaaWireLR
namespace Go.Proofs.Ytkfgedgjpgehoaa
open Go.ChangeShapes Go.WideShapes Go.ChangeAt Go.RowKit
set_option linter.unusedVariables false
set_option linter.unusedSimpArgs false
namespace Wi
def FmEnd (w : World) (bs : List UInt8) (x : Ending) (w' : World) : Prop := x = .returned (.tuple #[.agg (refM bs).1.toArray, .int .i64 (refM bs).2]) ∧ Below w.heap.size w w'
end Wi
open Wi in
set_option maxRecDepth 100000 in
set_option maxHeartbeats 4000000 in
theorem refReadMsg_any {w : World} {A : Option Addr} {cap : Nat} {bs : List UInt8} (hR : Mem.Rd w w.heap.size A (bs.map Mem.byteV)) (hl : bs.length ≤ cap) (hb : bs.length ≤ 1000000000) (hcap : cap ≤ maxLen) :
    Calls Try.prog 24 #[.slice A bs.length cap] w (Wi.FmEnd w bs) := by
  have HR := Lib.hid hR
  clear hR
  go_enter Try.func24, Try.ntmps24
  go_upto_region 1 with fail
  rw [msg_zero]
  obtain ⟨w1, hw1⟩ : ∃ w1, w.alloc (.cells zeroM.toArray 55) = w1 := ⟨_, rfl⟩
  have hz1 : Mem.Bx w1 55 74 w.heap.size zeroM := by rw [← hw1]; exact Mem.Bx.new w 55 zeroM.toArray rfl rfl
  have hb1 : Below w.heap.size w w1 := by rw [← hw1]; exact Reg.below_new _ _
  have hs1 : w1.heap.size = w.heap.size + 1 := by rw [← hw1]; exact Array.size_push _
  have hR1 : Mem.Rd w1 w1.heap.size A (bs.map Mem.byteV) := (HR.out.below hb1).more hb1.size
  obtain ⟨gr, hgr⟩ : ∃ gr, w.heap.size = gr := ⟨_, rfl⟩
  have hbd := rBody_any hR1 hl hb
  have hgw : w.heap.size ≤ gr := by omega
  have HGW := Lib.hid hgw
  rw [hw1]
  rw [hgr] at hz1 hs1 ⊢
  have HZ1 := Lib.hid hz1
  have HB1 := Lib.hid hb1
  have HS1 := Lib.hid hs1
  have HBD := Lib.hid hbd
  have HGR := Lib.hid hgr
  clear hw1 hz1 hb1 hs1 hR1 hgr hbd hgw
  go_upto_region 2 with (go_at_call 34; refine HBD.out.mono ?_; rintro x9 v2 ⟨rfl, hk2⟩; have HK2 := Lib.hid hk2; clear hk2 HBD)
  have HBb : Hid (Below w.heap.size w v2) := HB1.out.trans (HK2.out.below (fun q h => h.elim) HB1.out.size)
  have HZb : Hid (Mem.Bx v2 55 74 gr zeroM) := HZ1.out.keeps HK2.out id
  rcases bodyC_cases bs with he | he | he
  case inr.inl =>
    have hE : refM bs = (zeroM, 40) := by unfold refM; rw [if_pos he]
    have HE := Lib.hid hE
    rw [he]
    clear hE he
    go_wp2_with ((with_reducible refine Mem.store_agg _ _ msg_agg gr zeroM zeroM ?hx ?hy HZb.out rfl zeroM_one ?_); (case hx => exact rfl); (case hy => exact rfl); intro wz hbz hkz hsz)
    try simp only [Exit.jump, Exit.inBlock, Exit.then]
    refine bodyPost_ret (v := .tuple #[.agg zeroM.toArray, .int .i64 40]) (by rw [results_aggM Try.results24 msg_agg rfl hbz]; rfl) rfl ⟨by rw [HE.out], HBb.out.trans (hkz.below (fun q h => by have := HGW.out; omega) HBb.out.size)⟩
  case inr.inr =>
    have hE : refM bs = (zeroM, 41) := by unfold refM; rw [if_neg (by rw [he]; decide), if_pos (.inl (by rw [he]; decide))]
    have HE := Lib.hid hE
    rw [he]
    clear hE he
    go_upto_region 5 with fail
    go_wp2_with ((with_reducible refine Mem.store_agg _ _ msg_agg gr zeroM zeroM ?hx ?hy HZb.out rfl zeroM_one ?_); (case hx => exact rfl); (case hy => exact rfl); intro wz hbz hkz hsz)
    try simp only [Exit.jump, Exit.inBlock, Exit.then]
    refine bodyPost_ret (v := .tuple #[.agg zeroM.toArray, .int .i64 41]) (by rw [results_aggM Try.results24 msg_agg rfl hbz]; rfl) rfl ⟨by rw [HE.out], HBb.out.trans (hkz.below (fun q h => by have := HGW.out; omega) HBb.out.size)⟩
  obtain ⟨b, o, rfl, hbb, hV, hRs, hsl⟩ := bodyV_good he HR.out hl
  have h6 := bodyC_good he
  have hn5 := hdN_lt bs
  have hba : (bodyA bs : Int) = (hdN bs : Int) + 6 := by unfold bodyA; rw [if_pos he]; push_cast; rfl
  obtain ⟨n, hn⟩ : ∃ n, hdN bs = n := ⟨_, rfl⟩
  obtain ⟨bsn, hbsn⟩ : ∃ bsn, Mem.sub bs 2 n = bsn := ⟨_, rfl⟩
  rw [hn] at hV hRs hsl h6 hn5 hba
  rw [hbsn] at hRs hsl
  have hrr : refM bs = if bs.length ≠ n + 6 then (zeroM, 41) else if sick (rdI msgM (inI bsn)) n = true ∨ kindV (rdI msgM (inI bsn)).2 < 1 ∨ 14 < kindV (rdI msgM (inI bsn)).2 then (zeroM, 41) else ((rdI msgM (inI bsn)).2, 0) := by
    unfold refM; rw [if_neg (by rw [he]; decide), hn, hbsn, he]; simp
  have HRR := Lib.hid hrr
  have HRS := Lib.hid hRs
  rw [hV, hba, he]
  clear hV hba he hrr hRs hn hbsn
  by_cases hlen : bs.length = n + 6
  case neg =>
    have hE : refM bs = (zeroM, 41) := by rw [HRR.out, if_pos hlen]
    have HE := Lib.hid hE
    have d1 : (((n : Int) + 6) != (bs.length : Int)) = true := by simp; omega
    clear hE hlen
    go_upto_region 5 with fail
    go_wp2_with ((with_reducible refine Mem.store_agg _ _ msg_agg gr zeroM zeroM ?hx ?hy HZb.out rfl zeroM_one ?_); (case hx => exact rfl); (case hy => exact rfl); intro wz hbz hkz hsz)
    try simp only [Exit.jump, Exit.inBlock, Exit.then]
    refine bodyPost_ret (v := .tuple #[.agg zeroM.toArray, .int .i64 41]) (by rw [results_aggM Try.results24 msg_agg rfl hbz]; rfl) rfl ⟨by rw [HE.out], HBb.out.trans (hkz.below (fun q h => by have := HGW.out; omega) HBb.out.size)⟩
  have hR2 : Mem.Rd v2 w.heap.size (some ⟨b, o, none⟩) (bs.map Mem.byteV) := HR.out.below HBb.out
  have hrs2 := HRS.out v2 hR2
  have d1 : (((n : Int) + 6) != (bs.length : Int)) = false := by simp; omega
  have hrr : refM bs = if sick (rdI msgM (inI bsn)) n = true ∨ kindV (rdI msgM (inI bsn)).2 < 1 ∨ 14 < kindV (rdI msgM (inI bsn)).2 then (zeroM, 41) else ((rdI msgM (inI bsn)).2, 0) := by
    rw [HRR.out, if_neg (fun h => h hlen)]
  clear HRR HRS hR2
  have HRR := Lib.hid hrr
  have HRS := Lib.hid hrs2
  have HLN := Lib.hid hlen
  clear hrr hrs2 hlen
  go_upto_region 7 with fail
  clear d1
  obtain ⟨g, hg⟩ : ∃ g, v2.heap.size = g := ⟨_, rfl⟩
  obtain ⟨v3, hw3⟩ : ∃ v3, v2.alloc (.cells #[.slice (some ⟨b, o + 2, none⟩) n (cap - 2), .int .i64 0, .bool false] 86) = v3 := ⟨_, rfl⟩
  have hc3 : Mem.Bx v3 86 3 g [.slice (some ⟨b, o + 2, none⟩) n (cap - 2), .int .i64 0, .bool false] := by rw [← hw3]; exact Mem.Bx.new v2 86 #[.slice (some ⟨b, o + 2, none⟩) n (cap - 2), .int .i64 0, .bool false] rfl hg
  have hb3 : Below v2.heap.size v2 v3 := by rw [← hw3]; exact Reg.below_new _ _
  have hs3 : v3.heap.size = g + 1 := by rw [← hw3, ← hg]; exact Array.size_push _
  have hwg : w.heap.size + 1 ≤ g := by rw [← hg]; have h1 := HK2.out.size; have := HS1.out; have := HGR.out; omega
  rw [hw3, hg]
  go_upto_region 8 with fail
  rw [msg_zero]
  obtain ⟨w2, hw2⟩ : ∃ w2, v3.alloc (.cells zeroM.toArray 55) = w2 := ⟨_, rfl⟩
  have hz2 : Mem.Bx w2 55 74 v3.heap.size zeroM := by rw [← hw2]; exact Mem.Bx.new v3 55 zeroM.toArray rfl rfl
  have hb2 : Below v3.heap.size v3 w2 := by rw [← hw2]; exact Reg.below_new _ _
  rw [hw2]
  rw [hs3] at hz2
  try rw [hs3]
  obtain ⟨gm, hgm⟩ : ∃ gm, g + 1 = gm := ⟨_, rfl⟩
  rw [hgm] at hz2 ⊢
  obtain ⟨A, hA⟩ : ∃ A : Option Addr, some ⟨b, o + 2, none⟩ = A := ⟨_, rfl⟩
  obtain ⟨cp, hcp⟩ : ∃ cp, cap - 2 = cp := ⟨_, rfl⟩
  have hRdn : Mem.Rd w2 w.heap.size A (bsn.map Mem.byteV) := by rw [← hA]; exact (HRS.out.below (hb3.mono (by have := HBb.out.size; omega))).below (hb2.mono (by have := HBb.out.size; omega))
  have hc2 := hc3.keeps (Mem.Keeps.of_below hb2) id
  rw [hA, hcp] at hc2
  have hIA : IAt w2 g A cp (inI bsn) := ⟨by rw [show idCells A cp (inI bsn) = [.slice A n cp, .int .i64 0, .bool false] by unfold idCells inI; simp [hsl]]; exact hc2, hRdn.more (by have := hb2.size; have := hb3.size; have := HBb.out.size; omega), (fun k hk => by rw [← hA] at hk; have e9 : b = k := (by simpa [Mem.blk] using hk); have := hb2.size; omega), ⟨by show bsn.length ≤ _; omega, by show bsn.length ≤ _; omega⟩, Nat.zero_le _⟩
  have HBL : Hid (∀ k, Mem.blk A = some k → k < gm) := fun k hk => by rw [← hA] at hk; have e9 : b = k := (by simpa [Mem.blk] using hk); omega
  have HGL : Hid (g < gm) := by show _ < _; omega
  have HCP : Hid (cp ≤ maxLen) := by show _ ≤ _; omega
  have hBb2 : Below w.heap.size w w2 := HBb.out.trans ((hb3.trans (hb2.mono (by omega))).mono (by have := HBb.out.size; omega))
  have hZb2 : Mem.Bx w2 55 74 gr zeroM := (HZb.out.keeps (Mem.Keeps.of_below hb3) id).keeps (Mem.Keeps.of_below hb2) id
  have HB2 := Lib.hid hBb2
  have HZ2 := Lib.hid hZb2
  have HNL := Lib.hid hsl
  obtain ⟨i, hi⟩ : ∃ i, inI bsn = i := ⟨_, rfl⟩
  rw [hi] at hIA
  have HI := Lib.hid hi
  have HP0 : Hid (IP w2 g A cp 55 74 (gm) i ([] ++ (zeroM).drop 0) w2) := ⟨hIA, hz2, Mem.Keeps.refl _ _⟩
  have HE0 : Hid (rdI [] i = (i, [])) := rfl
  have HL0 : Hid (([] : List Value).length = 0) := rfl
  have HWG := Lib.hid hwg
  have HGM := Lib.hid hgm
  rw [hA, hcp]
  clear HRS hw3 hc3 hb3 hs3 hw2 hz2 hb2 hRdn hc2 hIA hBb2 hZb2 hsl hi hwg hgm hA hcp hg hcap hb hl hbb h6 hn5 HZb HBb HZ1 HB1 HS1 HK2 HR

  obtain ⟨i1, hi0⟩ : ∃ z, (inNum i).1 = z := ⟨_, rfl⟩
  obtain ⟨u0, hu0⟩ : ∃ z, (inNum i).2 = z := ⟨_, rfl⟩
  have hx0 := iNumber_any HP0.out.h
  rw [hi0, hu0] at hx0
  have HX0 := Lib.hid hx0
  have hr0 : rdI [.n 0] i = (i1, [(.int .i64 (u0 : Nat))]) := by rw [← hi0, ← hu0]; rfl
  have HR0 := Lib.hid hr0
  clear hi0 hu0 hx0 hr0
  go_upto_region 9 with (go_at_call 35; refine HX0.out.mono ?_; rintro x9 v3 ⟨rfl, ha, hk9⟩; have hq : IP w2 g A cp 55 74 (gm) i1 ([] ++ (zeroM).drop 0) v3 := HP0.out.call ha hk9 (by have := HGL.out; omega); have HQ0 := Lib.hid hq; have y0 : v3.cell? ⟨gm, 0, none⟩ = some (.int .i64 0) := hq.b.cell (by rw [dz_get HL0.out]; rfl); have yf0 := hq.b.fr; clear ha hk9 hq)
  obtain ⟨w3, hw0⟩ : ∃ z, v3.setCell ⟨gm, 0, none⟩ (.int .i64 (u0 : Nat)) = z := ⟨_, rfl⟩
  obtain ⟨ds1, hd0⟩ : ∃ z : List Value, [] ++ [(.int .i64 (u0 : Nat))] = z := ⟨_, rfl⟩
  have HP1 : Hid (IP w2 g A cp 55 74 (gm) i1 (ds1 ++ (zeroM).drop 1) w3) := by show IP _ _ _ _ _ _ _ _ _ _; rw [← hw0, ← hd0]; exact HQ0.out.put HL0.out (by decide) (by have := HGL.out; omega) (fun q hq => by have := HBL.out q hq; omega)
  have HL1 : Hid (ds1.length = 1) := by show _ = _; rw [← hd0, List.length_append, HL0.out]; rfl
  have HE1 : Hid (rdI ([] ++ [.n 0]) i = (i1, ds1)) := by show _ = _; rw [rdI_app, HE0.out, ← hd0]; show ((rdI _ i).1, _ ++ (rdI _ i).2) = _; rw [HR0.out]
  rw [hw0]
  clear hw0 hd0 HQ0 y0 yf0 HR0 HP0 HL0 HE0
  try clear HX0
  obtain ⟨i2, hi1⟩ : ∃ z, (rdI (ns 0 4) i1).1 = z := ⟨_, rfl⟩
  obtain ⟨zs1, hu1⟩ : ∃ z, (rdI (ns 0 4) i1).2 = z := ⟨_, rfl⟩
  have hx1 := iAddr_any HP1.out.h HCP.out
  rw [hi1, hu1] at hx1
  have HX1 := Lib.hid hx1
  have hr1 : rdI (ns 0 4) i1 = (i2, zs1) := by rw [← hi1, ← hu1]
  have hl1 : Hid (zs1.length = 4) := by show _ = _; rw [← hu1, rdI_len]; rfl
  have ho1 : Hid (∀ y ∈ zs1, y.oneCell' = true) := by rw [← hu1]; exact rdI_one _ _
  have HR1 := Lib.hid hr1
  clear hi1 hu1 hx1 hr1
  go_upto_region 10 with (first | (go_at_call 41; refine HX1.out.mono ?_; rintro x9 v4 ⟨rfl, ha, hk9⟩; have hq : IP w2 g A cp 55 74 (gm) i2 (ds1 ++ (zeroM).drop 1) v4 := HP1.out.call ha hk9 (by have := HGL.out; omega); have HQ1 := Lib.hid hq; clear ha hk9 hq) | ((with_reducible refine Mem.store_part _ _ addr_agg 55 74 (gm) 1 (ds1 ++ (zeroM).drop 1) zs1 ?hxb ?hyb HQ1.out.b hl1.out (by rw [hl1.out, List.length_append, HL1.out]; decide) ho1.out ?_); (case hxb => exact rfl); (case hyb => exact rfl); intro w4 hb9 hk9 hs9; have HQB := Lib.hid hb9; have HQK := Lib.hid hk9; clear hb9 hk9 hs9))
  obtain ⟨ds2, hd1⟩ : ∃ z, ds1 ++ zs1 = z := ⟨_, rfl⟩
  have HP2 : Hid (IP w2 g A cp 55 74 (gm) i2 (ds2 ++ (zeroM).drop 5) w4) := by show IP _ _ _ _ _ _ _ _ _ _; rw [← hd1]; exact HQ1.out.part HL1.out hl1.out HQB.out HQK.out (by have := HGL.out; omega) (fun q hq => by have := HBL.out q hq; omega)
  have HL2 : Hid (ds2.length = 5) := by show _ = _; rw [← hd1, List.length_append, HL1.out, hl1.out]
  have HE2 : Hid (rdI (([] ++ [.n 0]) ++ (ns 0 4)) i = (i2, ds2)) := by show _ = _; rw [rdI_app, HE1.out, ← hd1]; show ((rdI _ i1).1, _ ++ (rdI _ i1).2) = _; rw [HR1.out]
  clear hd1 HQ1 HQB HQK HR1 HP1 HL1 HE1 hl1 ho1
  try clear HX1
  obtain ⟨i3, hi2⟩ : ∃ z, (rdI (ns 0 4) i2).1 = z := ⟨_, rfl⟩
  obtain ⟨zs2, hu2⟩ : ∃ z, (rdI (ns 0 4) i2).2 = z := ⟨_, rfl⟩
  have hx2 := iAddr_any HP2.out.h HCP.out
  rw [hi2, hu2] at hx2
  have HX2 := Lib.hid hx2
  have hr2 : rdI (ns 0 4) i2 = (i3, zs2) := by rw [← hi2, ← hu2]
  have hl2 : Hid (zs2.length = 4) := by show _ = _; rw [← hu2, rdI_len]; rfl
  have ho2 : Hid (∀ y ∈ zs2, y.oneCell' = true) := by rw [← hu2]; exact rdI_one _ _
  have HR2 := Lib.hid hr2
  clear hi2 hu2 hx2 hr2
  go_upto_region 11 with (first | (go_at_call 41; refine HX2.out.mono ?_; rintro x9 v5 ⟨rfl, ha, hk9⟩; have hq : IP w2 g A cp 55 74 (gm) i3 (ds2 ++ (zeroM).drop 5) v5 := HP2.out.call ha hk9 (by have := HGL.out; omega); have HQ2 := Lib.hid hq; clear ha hk9 hq) | ((with_reducible refine Mem.store_part _ _ addr_agg 55 74 (gm) 5 (ds2 ++ (zeroM).drop 5) zs2 ?hxb ?hyb HQ2.out.b hl2.out (by rw [hl2.out, List.length_append, HL2.out]; decide) ho2.out ?_); (case hxb => exact rfl); (case hyb => exact rfl); intro w5 hb9 hk9 hs9; have HQB := Lib.hid hb9; have HQK := Lib.hid hk9; clear hb9 hk9 hs9))
  obtain ⟨ds3, hd2⟩ : ∃ z, ds2 ++ zs2 = z := ⟨_, rfl⟩
  have HP3 : Hid (IP w2 g A cp 55 74 (gm) i3 (ds3 ++ (zeroM).drop 9) w5) := by show IP _ _ _ _ _ _ _ _ _ _; rw [← hd2]; exact HQ2.out.part HL2.out hl2.out HQB.out HQK.out (by have := HGL.out; omega) (fun q hq => by have := HBL.out q hq; omega)
  have HL3 : Hid (ds3.length = 9) := by show _ = _; rw [← hd2, List.length_append, HL2.out, hl2.out]
  have HE3 : Hid (rdI ((([] ++ [.n 0]) ++ (ns 0 4)) ++ (ns 0 4)) i = (i3, ds3)) := by show _ = _; rw [rdI_app, HE2.out, ← hd2]; show ((rdI _ i2).1, _ ++ (rdI _ i2).2) = _; rw [HR2.out]
  clear hd2 HQ2 HQB HQK HR2 HP2 HL2 HE2 hl2 ho2
  try clear HX2
  obtain ⟨i4, hi3⟩ : ∃ z, (inNum i3).1 = z := ⟨_, rfl⟩
  obtain ⟨u3, hu3⟩ : ∃ z, (inNum i3).2 = z := ⟨_, rfl⟩
  have hx3 := iNumber_any HP3.out.h
  rw [hi3, hu3] at hx3
  have HX3 := Lib.hid hx3
  have hr3 : rdI [.n 0] i3 = (i4, [(.int .i64 (u3 : Nat))]) := by rw [← hi3, ← hu3]; rfl
  have HR3 := Lib.hid hr3
  clear hi3 hu3 hx3 hr3
  go_upto_region 12 with (go_at_call 35; refine HX3.out.mono ?_; rintro x9 v6 ⟨rfl, ha, hk9⟩; have hq : IP w2 g A cp 55 74 (gm) i4 (ds3 ++ (zeroM).drop 9) v6 := HP3.out.call ha hk9 (by have := HGL.out; omega); have HQ3 := Lib.hid hq; have y3 : v6.cell? ⟨gm, 9, none⟩ = some (.int .i64 0) := hq.b.cell (by rw [dz_get HL3.out]; rfl); have yf3 := hq.b.fr; clear ha hk9 hq)
  obtain ⟨w6, hw3⟩ : ∃ z, v6.setCell ⟨gm, 9, none⟩ (.int .i64 (u3 : Nat)) = z := ⟨_, rfl⟩
  obtain ⟨ds4, hd3⟩ : ∃ z : List Value, ds3 ++ [(.int .i64 (u3 : Nat))] = z := ⟨_, rfl⟩
  have HP4 : Hid (IP w2 g A cp 55 74 (gm) i4 (ds4 ++ (zeroM).drop 10) w6) := by show IP _ _ _ _ _ _ _ _ _ _; rw [← hw3, ← hd3]; exact HQ3.out.put HL3.out (by decide) (by have := HGL.out; omega) (fun q hq => by have := HBL.out q hq; omega)
  have HL4 : Hid (ds4.length = 10) := by show _ = _; rw [← hd3, List.length_append, HL3.out]; rfl
  have HE4 : Hid (rdI (((([] ++ [.n 0]) ++ (ns 0 4)) ++ (ns 0 4)) ++ [.n 0]) i = (i4, ds4)) := by show _ = _; rw [rdI_app, HE3.out, ← hd3]; show ((rdI _ i3).1, _ ++ (rdI _ i3).2) = _; rw [HR3.out]
  rw [hw3]
  clear hw3 hd3 HQ3 y3 yf3 HR3 HP3 HL3 HE3
  try clear HX3
  obtain ⟨i5, hi4⟩ : ∃ z, (inNum i4).1 = z := ⟨_, rfl⟩
  obtain ⟨u4, hu4⟩ : ∃ z, (inNum i4).2 = z := ⟨_, rfl⟩
  have hx4 := iNumber_any HP4.out.h
  rw [hi4, hu4] at hx4
  have HX4 := Lib.hid hx4
  have hr4 : rdI [.n 0] i4 = (i5, [(.int .i64 (u4 : Nat))]) := by rw [← hi4, ← hu4]; rfl
  have HR4 := Lib.hid hr4
  clear hi4 hu4 hx4 hr4
  go_upto_region 13 with (go_at_call 35; refine HX4.out.mono ?_; rintro x9 v7 ⟨rfl, ha, hk9⟩; have hq : IP w2 g A cp 55 74 (gm) i5 (ds4 ++ (zeroM).drop 10) v7 := HP4.out.call ha hk9 (by have := HGL.out; omega); have HQ4 := Lib.hid hq; have y4 : v7.cell? ⟨gm, 10, none⟩ = some (.int .i64 0) := hq.b.cell (by rw [dz_get HL4.out]; rfl); have yf4 := hq.b.fr; clear ha hk9 hq)
  obtain ⟨w7, hw4⟩ : ∃ z, v7.setCell ⟨gm, 10, none⟩ (.int .i64 (u4 : Nat)) = z := ⟨_, rfl⟩
  obtain ⟨ds5, hd4⟩ : ∃ z : List Value, ds4 ++ [(.int .i64 (u4 : Nat))] = z := ⟨_, rfl⟩
  have HP5 : Hid (IP w2 g A cp 55 74 (gm) i5 (ds5 ++ (zeroM).drop 11) w7) := by show IP _ _ _ _ _ _ _ _ _ _; rw [← hw4, ← hd4]; exact HQ4.out.put HL4.out (by decide) (by have := HGL.out; omega) (fun q hq => by have := HBL.out q hq; omega)
  have HL5 : Hid (ds5.length = 11) := by show _ = _; rw [← hd4, List.length_append, HL4.out]; rfl
  have HE5 : Hid (rdI ((((([] ++ [.n 0]) ++ (ns 0 4)) ++ (ns 0 4)) ++ [.n 0]) ++ [.n 0]) i = (i5, ds5)) := by show _ = _; rw [rdI_app, HE4.out, ← hd4]; show ((rdI _ i4).1, _ ++ (rdI _ i4).2) = _; rw [HR4.out]
  rw [hw4]
  clear hw4 hd4 HQ4 y4 yf4 HR4 HP4 HL4 HE4
  try clear HX4
  obtain ⟨i6, hi5⟩ : ∃ z, (inNum i5).1 = z := ⟨_, rfl⟩
  obtain ⟨u5, hu5⟩ : ∃ z, (inNum i5).2 = z := ⟨_, rfl⟩
  have hx5 := iNumber_any HP5.out.h
  rw [hi5, hu5] at hx5
  have HX5 := Lib.hid hx5
  have hr5 : rdI [.n 0] i5 = (i6, [(.int .i64 (u5 : Nat))]) := by rw [← hi5, ← hu5]; rfl
  have HR5 := Lib.hid hr5
  clear hi5 hu5 hx5 hr5
  go_upto_region 14 with (go_at_call 35; refine HX5.out.mono ?_; rintro x9 v8 ⟨rfl, ha, hk9⟩; have hq : IP w2 g A cp 55 74 (gm) i6 (ds5 ++ (zeroM).drop 11) v8 := HP5.out.call ha hk9 (by have := HGL.out; omega); have HQ5 := Lib.hid hq; have y5 : v8.cell? ⟨gm, 11, none⟩ = some (.int .i64 0) := hq.b.cell (by rw [dz_get HL5.out]; rfl); have yf5 := hq.b.fr; clear ha hk9 hq)
  obtain ⟨w8, hw5⟩ : ∃ z, v8.setCell ⟨gm, 11, none⟩ (.int .i64 (u5 : Nat)) = z := ⟨_, rfl⟩
  obtain ⟨ds6, hd5⟩ : ∃ z : List Value, ds5 ++ [(.int .i64 (u5 : Nat))] = z := ⟨_, rfl⟩
  have HP6 : Hid (IP w2 g A cp 55 74 (gm) i6 (ds6 ++ (zeroM).drop 12) w8) := by show IP _ _ _ _ _ _ _ _ _ _; rw [← hw5, ← hd5]; exact HQ5.out.put HL5.out (by decide) (by have := HGL.out; omega) (fun q hq => by have := HBL.out q hq; omega)
  have HL6 : Hid (ds6.length = 12) := by show _ = _; rw [← hd5, List.length_append, HL5.out]; rfl
  have HE6 : Hid (rdI (((((([] ++ [.n 0]) ++ (ns 0 4)) ++ (ns 0 4)) ++ [.n 0]) ++ [.n 0]) ++ [.n 0]) i = (i6, ds6)) := by show _ = _; rw [rdI_app, HE5.out, ← hd5]; show ((rdI _ i5).1, _ ++ (rdI _ i5).2) = _; rw [HR5.out]
  rw [hw5]
  clear hw5 hd5 HQ5 y5 yf5 HR5 HP5 HL5 HE5
  try clear HX5
  obtain ⟨i7, hi6⟩ : ∃ z, (inNum i6).1 = z := ⟨_, rfl⟩
  obtain ⟨u6, hu6⟩ : ∃ z, (inNum i6).2 = z := ⟨_, rfl⟩
  have hx6 := iNumber_any HP6.out.h
  rw [hi6, hu6] at hx6
  have HX6 := Lib.hid hx6
  have hr6 : rdI [.n 0] i6 = (i7, [(.int .i64 (u6 : Nat))]) := by rw [← hi6, ← hu6]; rfl
  have HR6 := Lib.hid hr6
  clear hi6 hu6 hx6 hr6
  go_upto_region 15 with (go_at_call 35; refine HX6.out.mono ?_; rintro x9 v9 ⟨rfl, ha, hk9⟩; have hq : IP w2 g A cp 55 74 (gm) i7 (ds6 ++ (zeroM).drop 12) v9 := HP6.out.call ha hk9 (by have := HGL.out; omega); have HQ6 := Lib.hid hq; have y6 : v9.cell? ⟨gm, 12, none⟩ = some (.int .i64 0) := hq.b.cell (by rw [dz_get HL6.out]; rfl); have yf6 := hq.b.fr; clear ha hk9 hq)
  obtain ⟨w9, hw6⟩ : ∃ z, v9.setCell ⟨gm, 12, none⟩ (.int .i64 (u6 : Nat)) = z := ⟨_, rfl⟩
  obtain ⟨ds7, hd6⟩ : ∃ z : List Value, ds6 ++ [(.int .i64 (u6 : Nat))] = z := ⟨_, rfl⟩
  have HP7 : Hid (IP w2 g A cp 55 74 (gm) i7 (ds7 ++ (zeroM).drop 13) w9) := by show IP _ _ _ _ _ _ _ _ _ _; rw [← hw6, ← hd6]; exact HQ6.out.put HL6.out (by decide) (by have := HGL.out; omega) (fun q hq => by have := HBL.out q hq; omega)
  have HL7 : Hid (ds7.length = 13) := by show _ = _; rw [← hd6, List.length_append, HL6.out]; rfl
  have HE7 : Hid (rdI ((((((([] ++ [.n 0]) ++ (ns 0 4)) ++ (ns 0 4)) ++ [.n 0]) ++ [.n 0]) ++ [.n 0]) ++ [.n 0]) i = (i7, ds7)) := by show _ = _; rw [rdI_app, HE6.out, ← hd6]; show ((rdI _ i6).1, _ ++ (rdI _ i6).2) = _; rw [HR6.out]
  rw [hw6]
  clear hw6 hd6 HQ6 y6 yf6 HR6 HP6 HL6 HE6
  try clear HX6
  obtain ⟨i8, hi7⟩ : ∃ z, (inNum i7).1 = z := ⟨_, rfl⟩
  obtain ⟨u7, hu7⟩ : ∃ z, (inNum i7).2 = z := ⟨_, rfl⟩
  have hx7 := iNumber_any HP7.out.h
  rw [hi7, hu7] at hx7
  have HX7 := Lib.hid hx7
  have hr7 : rdI [.n 0] i7 = (i8, [(.int .i64 (u7 : Nat))]) := by rw [← hi7, ← hu7]; rfl
  have HR7 := Lib.hid hr7
  clear hi7 hu7 hx7 hr7
  go_upto_region 16 with (go_at_call 35; refine HX7.out.mono ?_; rintro x9 v10 ⟨rfl, ha, hk9⟩; have hq : IP w2 g A cp 55 74 (gm) i8 (ds7 ++ (zeroM).drop 13) v10 := HP7.out.call ha hk9 (by have := HGL.out; omega); have HQ7 := Lib.hid hq; have y7 : v10.cell? ⟨gm, 13, none⟩ = some (.int .i64 0) := hq.b.cell (by rw [dz_get HL7.out]; rfl); have yf7 := hq.b.fr; clear ha hk9 hq)
  obtain ⟨w10, hw7⟩ : ∃ z, v10.setCell ⟨gm, 13, none⟩ (.int .i64 (u7 : Nat)) = z := ⟨_, rfl⟩
  obtain ⟨ds8, hd7⟩ : ∃ z : List Value, ds7 ++ [(.int .i64 (u7 : Nat))] = z := ⟨_, rfl⟩
  have HP8 : Hid (IP w2 g A cp 55 74 (gm) i8 (ds8 ++ (zeroM).drop 14) w10) := by show IP _ _ _ _ _ _ _ _ _ _; rw [← hw7, ← hd7]; exact HQ7.out.put HL7.out (by decide) (by have := HGL.out; omega) (fun q hq => by have := HBL.out q hq; omega)
  have HL8 : Hid (ds8.length = 14) := by show _ = _; rw [← hd7, List.length_append, HL7.out]; rfl
  have HE8 : Hid (rdI (((((((([] ++ [.n 0]) ++ (ns 0 4)) ++ (ns 0 4)) ++ [.n 0]) ++ [.n 0]) ++ [.n 0]) ++ [.n 0]) ++ [.n 0]) i = (i8, ds8)) := by show _ = _; rw [rdI_app, HE7.out, ← hd7]; show ((rdI _ i7).1, _ ++ (rdI _ i7).2) = _; rw [HR7.out]
  rw [hw7]
  clear hw7 hd7 HQ7 y7 yf7 HR7 HP7 HL7 HE7
  try clear HX7
  obtain ⟨i9, hi8⟩ : ∃ z, (rdI (chainM 0) i8).1 = z := ⟨_, rfl⟩
  obtain ⟨zs8, hu8⟩ : ∃ z, (rdI (chainM 0) i8).2 = z := ⟨_, rfl⟩
  have hx8 := iConfig_any HP8.out.h HCP.out
  rw [hi8, hu8] at hx8
  have HX8 := Lib.hid hx8
  have hr8 : rdI (chainM 0) i8 = (i9, zs8) := by rw [← hi8, ← hu8]
  have hl8 : Hid (zs8.length = 13) := by show _ = _; rw [← hu8, rdI_len]; rfl
  have ho8 : Hid (∀ y ∈ zs8, y.oneCell' = true) := by rw [← hu8]; exact rdI_one _ _
  have HR8 := Lib.hid hr8
  clear hi8 hu8 hx8 hr8
  go_upto_region 17 with (first | (go_at_call 37; refine HX8.out.mono ?_; rintro x9 v11 ⟨rfl, ha, hk9⟩; have hq : IP w2 g A cp 55 74 (gm) i9 (ds8 ++ (zeroM).drop 14) v11 := HP8.out.call ha hk9 (by have := HGL.out; omega); have HQ8 := Lib.hid hq; clear ha hk9 hq) | ((with_reducible refine Mem.store_part _ _ wconfig_agg 55 74 (gm) 14 (ds8 ++ (zeroM).drop 14) zs8 ?hxb ?hyb HQ8.out.b hl8.out (by rw [hl8.out, List.length_append, HL8.out]; decide) ho8.out ?_); (case hxb => exact rfl); (case hyb => exact rfl); intro w11 hb9 hk9 hs9; have HQB := Lib.hid hb9; have HQK := Lib.hid hk9; clear hb9 hk9 hs9))
  obtain ⟨ds9, hd8⟩ : ∃ z, ds8 ++ zs8 = z := ⟨_, rfl⟩
  have HP9 : Hid (IP w2 g A cp 55 74 (gm) i9 (ds9 ++ (zeroM).drop 27) w11) := by show IP _ _ _ _ _ _ _ _ _ _; rw [← hd8]; exact HQ8.out.part HL8.out hl8.out HQB.out HQK.out (by have := HGL.out; omega) (fun q hq => by have := HBL.out q hq; omega)
  have HL9 : Hid (ds9.length = 27) := by show _ = _; rw [← hd8, List.length_append, HL8.out, hl8.out]
  have HE9 : Hid (rdI ((((((((([] ++ [.n 0]) ++ (ns 0 4)) ++ (ns 0 4)) ++ [.n 0]) ++ [.n 0]) ++ [.n 0]) ++ [.n 0]) ++ [.n 0]) ++ (chainM 0)) i = (i9, ds9)) := by show _ = _; rw [rdI_app, HE8.out, ← hd8]; show ((rdI _ i8).1, _ ++ (rdI _ i8).2) = _; rw [HR8.out]
  clear hd8 HQ8 HQB HQK HR8 HP8 HL8 HE8 hl8 ho8
  try clear HX8
  obtain ⟨i10, hi9⟩ : ∃ z, (rdI (writeM 0) i9).1 = z := ⟨_, rfl⟩
  obtain ⟨zs9, hu9⟩ : ∃ z, (rdI (writeM 0) i9).2 = z := ⟨_, rfl⟩
  have hx9 := iEntry_any HP9.out.h HCP.out
  rw [hi9, hu9] at hx9
  have HX9 := Lib.hid hx9
  have hr9 : rdI (writeM 0) i9 = (i10, zs9) := by rw [← hi9, ← hu9]
  have hl9 : Hid (zs9.length = 20) := by show _ = _; rw [← hu9, rdI_len]; rfl
  have ho9 : Hid (∀ y ∈ zs9, y.oneCell' = true) := by rw [← hu9]; exact rdI_one _ _
  have HR9 := Lib.hid hr9
  clear hi9 hu9 hx9 hr9
  go_upto_region 18 with (first | (go_at_call 36; refine HX9.out.mono ?_; rintro x9 v12 ⟨rfl, ha, hk9⟩; have hq : IP w2 g A cp 55 74 (gm) i10 (ds9 ++ (zeroM).drop 27) v12 := HP9.out.call ha hk9 (by have := HGL.out; omega); have HQ9 := Lib.hid hq; clear ha hk9 hq) | ((with_reducible refine Mem.store_part _ _ wentry_agg 55 74 (gm) 27 (ds9 ++ (zeroM).drop 27) zs9 ?hxb ?hyb HQ9.out.b hl9.out (by rw [hl9.out, List.length_append, HL9.out]; decide) ho9.out ?_); (case hxb => exact rfl); (case hyb => exact rfl); intro w12 hb9 hk9 hs9; have HQB := Lib.hid hb9; have HQK := Lib.hid hk9; clear hb9 hk9 hs9))
  obtain ⟨ds10, hd9⟩ : ∃ z, ds9 ++ zs9 = z := ⟨_, rfl⟩
  have HP10 : Hid (IP w2 g A cp 55 74 (gm) i10 (ds10 ++ (zeroM).drop 47) w12) := by show IP _ _ _ _ _ _ _ _ _ _; rw [← hd9]; exact HQ9.out.part HL9.out hl9.out HQB.out HQK.out (by have := HGL.out; omega) (fun q hq => by have := HBL.out q hq; omega)
  have HL10 : Hid (ds10.length = 47) := by show _ = _; rw [← hd9, List.length_append, HL9.out, hl9.out]
  have HE10 : Hid (rdI (((((((((([] ++ [.n 0]) ++ (ns 0 4)) ++ (ns 0 4)) ++ [.n 0]) ++ [.n 0]) ++ [.n 0]) ++ [.n 0]) ++ [.n 0]) ++ (chainM 0)) ++ (writeM 0)) i = (i10, ds10)) := by show _ = _; rw [rdI_app, HE9.out, ← hd9]; show ((rdI _ i9).1, _ ++ (rdI _ i9).2) = _; rw [HR9.out]
  clear hd9 HQ9 HQB HQK HR9 HP9 HL9 HE9 hl9 ho9
  try clear HX9
  obtain ⟨i11, hi10⟩ : ∃ z, (inTru i10).1 = z := ⟨_, rfl⟩
  obtain ⟨u10, hu10⟩ : ∃ z, (inTru i10).2 = z := ⟨_, rfl⟩
  have hx10 := iTruth_any HP10.out.h
  rw [hi10, hu10] at hx10
  have HX10 := Lib.hid hx10
  have hr10 : rdI [.b 0] i10 = (i11, [(.bool u10)]) := by rw [← hi10, ← hu10]; rfl
  have HR10 := Lib.hid hr10
  clear hi10 hu10 hx10 hr10
  go_upto_region 19 with (go_at_call 42; refine HX10.out.mono ?_; rintro x9 v13 ⟨rfl, ha, hk9⟩; have hq : IP w2 g A cp 55 74 (gm) i11 (ds10 ++ (zeroM).drop 47) v13 := HP10.out.call ha hk9 (by have := HGL.out; omega); have HQ10 := Lib.hid hq; have y10 : v13.cell? ⟨gm, 47, none⟩ = some (.bool false) := hq.b.cell (by rw [dz_get HL10.out]; rfl); have yf10 := hq.b.fr; clear ha hk9 hq)
  obtain ⟨w13, hw10⟩ : ∃ z, v13.setCell ⟨gm, 47, none⟩ (.bool u10) = z := ⟨_, rfl⟩
  obtain ⟨ds11, hd10⟩ : ∃ z : List Value, ds10 ++ [(.bool u10)] = z := ⟨_, rfl⟩
  have HP11 : Hid (IP w2 g A cp 55 74 (gm) i11 (ds11 ++ (zeroM).drop 48) w13) := by show IP _ _ _ _ _ _ _ _ _ _; rw [← hw10, ← hd10]; exact HQ10.out.put HL10.out (by decide) (by have := HGL.out; omega) (fun q hq => by have := HBL.out q hq; omega)
  have HL11 : Hid (ds11.length = 48) := by show _ = _; rw [← hd10, List.length_append, HL10.out]; rfl
  have HE11 : Hid (rdI ((((((((((([] ++ [.n 0]) ++ (ns 0 4)) ++ (ns 0 4)) ++ [.n 0]) ++ [.n 0]) ++ [.n 0]) ++ [.n 0]) ++ [.n 0]) ++ (chainM 0)) ++ (writeM 0)) ++ [.b 0]) i = (i11, ds11)) := by show _ = _; rw [rdI_app, HE10.out, ← hd10]; show ((rdI _ i10).1, _ ++ (rdI _ i10).2) = _; rw [HR10.out]
  rw [hw10]
  clear hw10 hd10 HQ10 y10 yf10 HR10 HP10 HL10 HE10
  try clear HX10
  obtain ⟨i12, hi11⟩ : ∃ z, (inTxt i11 16).1 = z := ⟨_, rfl⟩
  obtain ⟨u11, hu11⟩ : ∃ z, (inTxt i11 16).2 = z := ⟨_, rfl⟩
  have hx11 := iText_any 16 (by omega) HP11.out.h HCP.out
  rw [hi11, hu11] at hx11
  have HX11 := Lib.hid hx11
  have hr11 : rdI [.t 0 16] i11 = (i12, [(.string u11)]) := by rw [← hi11, ← hu11]; rfl
  have HR11 := Lib.hid hr11
  clear hi11 hu11 hx11 hr11
  go_upto_region 20 with (go_at_call 43; refine HX11.out.mono ?_; rintro x9 v14 ⟨rfl, ha, hk9⟩; have hq : IP w2 g A cp 55 74 (gm) i12 (ds11 ++ (zeroM).drop 48) v14 := HP11.out.call ha hk9 (by have := HGL.out; omega); have HQ11 := Lib.hid hq; have y11 : v14.cell? ⟨gm, 48, none⟩ = some (.string ⟨#[]⟩) := hq.b.cell (by rw [dz_get HL11.out]; rfl); have yf11 := hq.b.fr; clear ha hk9 hq)
  obtain ⟨w14, hw11⟩ : ∃ z, v14.setCell ⟨gm, 48, none⟩ (.string u11) = z := ⟨_, rfl⟩
  obtain ⟨ds12, hd11⟩ : ∃ z : List Value, ds11 ++ [(.string u11)] = z := ⟨_, rfl⟩
  have HP12 : Hid (IP w2 g A cp 55 74 (gm) i12 (ds12 ++ (zeroM).drop 49) w14) := by show IP _ _ _ _ _ _ _ _ _ _; rw [← hw11, ← hd11]; exact HQ11.out.put HL11.out (by decide) (by have := HGL.out; omega) (fun q hq => by have := HBL.out q hq; omega)
  have HL12 : Hid (ds12.length = 49) := by show _ = _; rw [← hd11, List.length_append, HL11.out]; rfl
  have HE12 : Hid (rdI (((((((((((([] ++ [.n 0]) ++ (ns 0 4)) ++ (ns 0 4)) ++ [.n 0]) ++ [.n 0]) ++ [.n 0]) ++ [.n 0]) ++ [.n 0]) ++ (chainM 0)) ++ (writeM 0)) ++ [.b 0]) ++ [.t 0 16]) i = (i12, ds12)) := by show _ = _; rw [rdI_app, HE11.out, ← hd11]; show ((rdI _ i11).1, _ ++ (rdI _ i11).2) = _; rw [HR11.out]
  rw [hw11]
  clear hw11 hd11 HQ11 y11 yf11 HR11 HP11 HL11 HE11
  try clear HX11
  obtain ⟨i13, hi12⟩ : ∃ z, (inTxt i12 32).1 = z := ⟨_, rfl⟩
  obtain ⟨u12, hu12⟩ : ∃ z, (inTxt i12 32).2 = z := ⟨_, rfl⟩
  have hx12 := iText_any 32 (by omega) HP12.out.h HCP.out
  rw [hi12, hu12] at hx12
  have HX12 := Lib.hid hx12
  have hr12 : rdI [.t 0 32] i12 = (i13, [(.string u12)]) := by rw [← hi12, ← hu12]; rfl
  have HR12 := Lib.hid hr12
  clear hi12 hu12 hx12 hr12
  go_upto_region 21 with (go_at_call 43; refine HX12.out.mono ?_; rintro x9 v15 ⟨rfl, ha, hk9⟩; have hq : IP w2 g A cp 55 74 (gm) i13 (ds12 ++ (zeroM).drop 49) v15 := HP12.out.call ha hk9 (by have := HGL.out; omega); have HQ12 := Lib.hid hq; have y12 : v15.cell? ⟨gm, 49, none⟩ = some (.string ⟨#[]⟩) := hq.b.cell (by rw [dz_get HL12.out]; rfl); have yf12 := hq.b.fr; clear ha hk9 hq)
  obtain ⟨w15, hw12⟩ : ∃ z, v15.setCell ⟨gm, 49, none⟩ (.string u12) = z := ⟨_, rfl⟩
  obtain ⟨ds13, hd12⟩ : ∃ z : List Value, ds12 ++ [(.string u12)] = z := ⟨_, rfl⟩
  have HP13 : Hid (IP w2 g A cp 55 74 (gm) i13 (ds13 ++ (zeroM).drop 50) w15) := by show IP _ _ _ _ _ _ _ _ _ _; rw [← hw12, ← hd12]; exact HQ12.out.put HL12.out (by decide) (by have := HGL.out; omega) (fun q hq => by have := HBL.out q hq; omega)
  have HL13 : Hid (ds13.length = 50) := by show _ = _; rw [← hd12, List.length_append, HL12.out]; rfl
  have HE13 : Hid (rdI ((((((((((((([] ++ [.n 0]) ++ (ns 0 4)) ++ (ns 0 4)) ++ [.n 0]) ++ [.n 0]) ++ [.n 0]) ++ [.n 0]) ++ [.n 0]) ++ (chainM 0)) ++ (writeM 0)) ++ [.b 0]) ++ [.t 0 16]) ++ [.t 0 32]) i = (i13, ds13)) := by show _ = _; rw [rdI_app, HE12.out, ← hd12]; show ((rdI _ i12).1, _ ++ (rdI _ i12).2) = _; rw [HR12.out]
  rw [hw12]
  clear hw12 hd12 HQ12 y12 yf12 HR12 HP12 HL12 HE12
  try clear HX12
  obtain ⟨i14, hi13⟩ : ∃ z, (inTru i13).1 = z := ⟨_, rfl⟩
  obtain ⟨u13, hu13⟩ : ∃ z, (inTru i13).2 = z := ⟨_, rfl⟩
  have hx13 := iTruth_any HP13.out.h
  rw [hi13, hu13] at hx13
  have HX13 := Lib.hid hx13
  have hr13 : rdI [.b 0] i13 = (i14, [(.bool u13)]) := by rw [← hi13, ← hu13]; rfl
  have HR13 := Lib.hid hr13
  clear hi13 hu13 hx13 hr13
  go_upto_region 22 with (go_at_call 42; refine HX13.out.mono ?_; rintro x9 v16 ⟨rfl, ha, hk9⟩; have hq : IP w2 g A cp 55 74 (gm) i14 (ds13 ++ (zeroM).drop 50) v16 := HP13.out.call ha hk9 (by have := HGL.out; omega); have HQ13 := Lib.hid hq; have y13 : v16.cell? ⟨gm, 50, none⟩ = some (.bool false) := hq.b.cell (by rw [dz_get HL13.out]; rfl); have yf13 := hq.b.fr; clear ha hk9 hq)
  obtain ⟨w16, hw13⟩ : ∃ z, v16.setCell ⟨gm, 50, none⟩ (.bool u13) = z := ⟨_, rfl⟩
  obtain ⟨ds14, hd13⟩ : ∃ z : List Value, ds13 ++ [(.bool u13)] = z := ⟨_, rfl⟩
  have HP14 : Hid (IP w2 g A cp 55 74 (gm) i14 (ds14 ++ (zeroM).drop 51) w16) := by show IP _ _ _ _ _ _ _ _ _ _; rw [← hw13, ← hd13]; exact HQ13.out.put HL13.out (by decide) (by have := HGL.out; omega) (fun q hq => by have := HBL.out q hq; omega)
  have HL14 : Hid (ds14.length = 51) := by show _ = _; rw [← hd13, List.length_append, HL13.out]; rfl
  have HE14 : Hid (rdI (((((((((((((([] ++ [.n 0]) ++ (ns 0 4)) ++ (ns 0 4)) ++ [.n 0]) ++ [.n 0]) ++ [.n 0]) ++ [.n 0]) ++ [.n 0]) ++ (chainM 0)) ++ (writeM 0)) ++ [.b 0]) ++ [.t 0 16]) ++ [.t 0 32]) ++ [.b 0]) i = (i14, ds14)) := by show _ = _; rw [rdI_app, HE13.out, ← hd13]; show ((rdI _ i13).1, _ ++ (rdI _ i13).2) = _; rw [HR13.out]
  rw [hw13]
  clear hw13 hd13 HQ13 y13 yf13 HR13 HP13 HL13 HE13
  try clear HX13
  obtain ⟨i15, hi14⟩ : ∃ z, (inTru i14).1 = z := ⟨_, rfl⟩
  obtain ⟨u14, hu14⟩ : ∃ z, (inTru i14).2 = z := ⟨_, rfl⟩
  have hx14 := iTruth_any HP14.out.h
  rw [hi14, hu14] at hx14
  have HX14 := Lib.hid hx14
  have hr14 : rdI [.b 0] i14 = (i15, [(.bool u14)]) := by rw [← hi14, ← hu14]; rfl
  have HR14 := Lib.hid hr14
  clear hi14 hu14 hx14 hr14
  go_upto_region 23 with (go_at_call 42; refine HX14.out.mono ?_; rintro x9 v17 ⟨rfl, ha, hk9⟩; have hq : IP w2 g A cp 55 74 (gm) i15 (ds14 ++ (zeroM).drop 51) v17 := HP14.out.call ha hk9 (by have := HGL.out; omega); have HQ14 := Lib.hid hq; have y14 : v17.cell? ⟨gm, 51, none⟩ = some (.bool false) := hq.b.cell (by rw [dz_get HL14.out]; rfl); have yf14 := hq.b.fr; clear ha hk9 hq)
  obtain ⟨w17, hw14⟩ : ∃ z, v17.setCell ⟨gm, 51, none⟩ (.bool u14) = z := ⟨_, rfl⟩
  obtain ⟨ds15, hd14⟩ : ∃ z : List Value, ds14 ++ [(.bool u14)] = z := ⟨_, rfl⟩
  have HP15 : Hid (IP w2 g A cp 55 74 (gm) i15 (ds15 ++ (zeroM).drop 52) w17) := by show IP _ _ _ _ _ _ _ _ _ _; rw [← hw14, ← hd14]; exact HQ14.out.put HL14.out (by decide) (by have := HGL.out; omega) (fun q hq => by have := HBL.out q hq; omega)
  have HL15 : Hid (ds15.length = 52) := by show _ = _; rw [← hd14, List.length_append, HL14.out]; rfl
  have HE15 : Hid (rdI ((((((((((((((([] ++ [.n 0]) ++ (ns 0 4)) ++ (ns 0 4)) ++ [.n 0]) ++ [.n 0]) ++ [.n 0]) ++ [.n 0]) ++ [.n 0]) ++ (chainM 0)) ++ (writeM 0)) ++ [.b 0]) ++ [.t 0 16]) ++ [.t 0 32]) ++ [.b 0]) ++ [.b 0]) i = (i15, ds15)) := by show _ = _; rw [rdI_app, HE14.out, ← hd14]; show ((rdI _ i14).1, _ ++ (rdI _ i14).2) = _; rw [HR14.out]
  rw [hw14]
  clear hw14 hd14 HQ14 y14 yf14 HR14 HP14 HL14 HE14
  try clear HX14
  obtain ⟨i16, hi15⟩ : ∃ z, (rdI (ns 0 9) i15).1 = z := ⟨_, rfl⟩
  obtain ⟨zs15, hu15⟩ : ∃ z, (rdI (ns 0 9) i15).2 = z := ⟨_, rfl⟩
  have hx15 := iVec_any HP15.out.h HCP.out
  rw [hi15, hu15] at hx15
  have HX15 := Lib.hid hx15
  have hr15 : rdI (ns 0 9) i15 = (i16, zs15) := by rw [← hi15, ← hu15]
  have hl15 : Hid (zs15.length = 9) := by show _ = _; rw [← hu15, rdI_len]; rfl
  have ho15 : Hid (∀ y ∈ zs15, y.oneCell' = true) := by rw [← hu15]; exact rdI_one _ _
  have HR15 := Lib.hid hr15
  clear hi15 hu15 hx15 hr15
  go_upto_region 24 with (first | (go_at_call 44; refine HX15.out.mono ?_; rintro x9 v18 ⟨rfl, ha, hk9⟩; have hq : IP w2 g A cp 55 74 (gm) i16 (ds15 ++ (zeroM).drop 52) v18 := HP15.out.call ha hk9 (by have := HGL.out; omega); have HQ15 := Lib.hid hq; clear ha hk9 hq) | ((with_reducible refine Mem.store_part _ _ vec_agg9 55 74 (gm) 52 (ds15 ++ (zeroM).drop 52) zs15 ?hxb ?hyb HQ15.out.b hl15.out (by rw [hl15.out, List.length_append, HL15.out]; decide) ho15.out ?_); (case hxb => exact rfl); (case hyb => exact rfl); intro w18 hb9 hk9 hs9; have HQB := Lib.hid hb9; have HQK := Lib.hid hk9; clear hb9 hk9 hs9))
  obtain ⟨ds16, hd15⟩ : ∃ z, ds15 ++ zs15 = z := ⟨_, rfl⟩
  have HP16 : Hid (IP w2 g A cp 55 74 (gm) i16 (ds16 ++ (zeroM).drop 61) w18) := by show IP _ _ _ _ _ _ _ _ _ _; rw [← hd15]; exact HQ15.out.part HL15.out hl15.out HQB.out HQK.out (by have := HGL.out; omega) (fun q hq => by have := HBL.out q hq; omega)
  have HL16 : Hid (ds16.length = 61) := by show _ = _; rw [← hd15, List.length_append, HL15.out, hl15.out]
  have HE16 : Hid (rdI (((((((((((((((([] ++ [.n 0]) ++ (ns 0 4)) ++ (ns 0 4)) ++ [.n 0]) ++ [.n 0]) ++ [.n 0]) ++ [.n 0]) ++ [.n 0]) ++ (chainM 0)) ++ (writeM 0)) ++ [.b 0]) ++ [.t 0 16]) ++ [.t 0 32]) ++ [.b 0]) ++ [.b 0]) ++ (ns 0 9)) i = (i16, ds16)) := by show _ = _; rw [rdI_app, HE15.out, ← hd15]; show ((rdI _ i15).1, _ ++ (rdI _ i15).2) = _; rw [HR15.out]
  clear hd15 HQ15 HQB HQK HR15 HP15 HL15 HE15 hl15 ho15
  try clear HX15
  obtain ⟨i17, hi16⟩ : ∃ z, (rdI (ns 0 9) i16).1 = z := ⟨_, rfl⟩
  obtain ⟨zs16, hu16⟩ : ∃ z, (rdI (ns 0 9) i16).2 = z := ⟨_, rfl⟩
  have hx16 := iVec_any HP16.out.h HCP.out
  rw [hi16, hu16] at hx16
  have HX16 := Lib.hid hx16
  have hr16 : rdI (ns 0 9) i16 = (i17, zs16) := by rw [← hi16, ← hu16]
  have hl16 : Hid (zs16.length = 9) := by show _ = _; rw [← hu16, rdI_len]; rfl
  have ho16 : Hid (∀ y ∈ zs16, y.oneCell' = true) := by rw [← hu16]; exact rdI_one _ _
  have HR16 := Lib.hid hr16
  clear hi16 hu16 hx16 hr16
  go_upto_region 25 with (first | (go_at_call 44; refine HX16.out.mono ?_; rintro x9 v19 ⟨rfl, ha, hk9⟩; have hq : IP w2 g A cp 55 74 (gm) i17 (ds16 ++ (zeroM).drop 61) v19 := HP16.out.call ha hk9 (by have := HGL.out; omega); have HQ16 := Lib.hid hq; clear ha hk9 hq) | ((with_reducible refine Mem.store_part _ _ vec_agg9 55 74 (gm) 61 (ds16 ++ (zeroM).drop 61) zs16 ?hxb ?hyb HQ16.out.b hl16.out (by rw [hl16.out, List.length_append, HL16.out]; decide) ho16.out ?_); (case hxb => exact rfl); (case hyb => exact rfl); intro w19 hb9 hk9 hs9; have HQB := Lib.hid hb9; have HQK := Lib.hid hk9; clear hb9 hk9 hs9))
  obtain ⟨ds17, hd16⟩ : ∃ z, ds16 ++ zs16 = z := ⟨_, rfl⟩
  have HP17 : Hid (IP w2 g A cp 55 74 (gm) i17 (ds17 ++ (zeroM).drop 70) w19) := by show IP _ _ _ _ _ _ _ _ _ _; rw [← hd16]; exact HQ16.out.part HL16.out hl16.out HQB.out HQK.out (by have := HGL.out; omega) (fun q hq => by have := HBL.out q hq; omega)
  have HL17 : Hid (ds17.length = 70) := by show _ = _; rw [← hd16, List.length_append, HL16.out, hl16.out]
  have HE17 : Hid (rdI ((((((((((((((((([] ++ [.n 0]) ++ (ns 0 4)) ++ (ns 0 4)) ++ [.n 0]) ++ [.n 0]) ++ [.n 0]) ++ [.n 0]) ++ [.n 0]) ++ (chainM 0)) ++ (writeM 0)) ++ [.b 0]) ++ [.t 0 16]) ++ [.t 0 32]) ++ [.b 0]) ++ [.b 0]) ++ (ns 0 9)) ++ (ns 0 9)) i = (i17, ds17)) := by show _ = _; rw [rdI_app, HE16.out, ← hd16]; show ((rdI _ i16).1, _ ++ (rdI _ i16).2) = _; rw [HR16.out]
  clear hd16 HQ16 HQB HQK HR16 HP16 HL16 HE16 hl16 ho16
  try clear HX16
  obtain ⟨i18, hi17⟩ : ∃ z, (inNum i17).1 = z := ⟨_, rfl⟩
  obtain ⟨u17, hu17⟩ : ∃ z, (inNum i17).2 = z := ⟨_, rfl⟩
  have hx17 := iNumber_any HP17.out.h
  rw [hi17, hu17] at hx17
  have HX17 := Lib.hid hx17
  have hr17 : rdI [.n 0] i17 = (i18, [(.int .i64 (u17 : Nat))]) := by rw [← hi17, ← hu17]; rfl
  have HR17 := Lib.hid hr17
  clear hi17 hu17 hx17 hr17
  go_upto_region 26 with (go_at_call 35; refine HX17.out.mono ?_; rintro x9 v20 ⟨rfl, ha, hk9⟩; have hq : IP w2 g A cp 55 74 (gm) i18 (ds17 ++ (zeroM).drop 70) v20 := HP17.out.call ha hk9 (by have := HGL.out; omega); have HQ17 := Lib.hid hq; have y17 : v20.cell? ⟨gm, 70, none⟩ = some (.int .i64 0) := hq.b.cell (by rw [dz_get HL17.out]; rfl); have yf17 := hq.b.fr; clear ha hk9 hq)
  obtain ⟨w20, hw17⟩ : ∃ z, v20.setCell ⟨gm, 70, none⟩ (.int .i64 (u17 : Nat)) = z := ⟨_, rfl⟩
  obtain ⟨ds18, hd17⟩ : ∃ z : List Value, ds17 ++ [(.int .i64 (u17 : Nat))] = z := ⟨_, rfl⟩
  have HP18 : Hid (IP w2 g A cp 55 74 (gm) i18 (ds18 ++ (zeroM).drop 71) w20) := by show IP _ _ _ _ _ _ _ _ _ _; rw [← hw17, ← hd17]; exact HQ17.out.put HL17.out (by decide) (by have := HGL.out; omega) (fun q hq => by have := HBL.out q hq; omega)
  have HL18 : Hid (ds18.length = 71) := by show _ = _; rw [← hd17, List.length_append, HL17.out]; rfl
  have HE18 : Hid (rdI (((((((((((((((((([] ++ [.n 0]) ++ (ns 0 4)) ++ (ns 0 4)) ++ [.n 0]) ++ [.n 0]) ++ [.n 0]) ++ [.n 0]) ++ [.n 0]) ++ (chainM 0)) ++ (writeM 0)) ++ [.b 0]) ++ [.t 0 16]) ++ [.t 0 32]) ++ [.b 0]) ++ [.b 0]) ++ (ns 0 9)) ++ (ns 0 9)) ++ [.n 0]) i = (i18, ds18)) := by show _ = _; rw [rdI_app, HE17.out, ← hd17]; show ((rdI _ i17).1, _ ++ (rdI _ i17).2) = _; rw [HR17.out]
  rw [hw17]
  clear hw17 hd17 HQ17 y17 yf17 HR17 HP17 HL17 HE17
  try clear HX17
  obtain ⟨i19, hi18⟩ : ∃ z, (inNum i18).1 = z := ⟨_, rfl⟩
  obtain ⟨u18, hu18⟩ : ∃ z, (inNum i18).2 = z := ⟨_, rfl⟩
  have hx18 := iNumber_any HP18.out.h
  rw [hi18, hu18] at hx18
  have HX18 := Lib.hid hx18
  have hr18 : rdI [.n 0] i18 = (i19, [(.int .i64 (u18 : Nat))]) := by rw [← hi18, ← hu18]; rfl
  have HR18 := Lib.hid hr18
  clear hi18 hu18 hx18 hr18
  go_upto_region 27 with (go_at_call 35; refine HX18.out.mono ?_; rintro x9 v21 ⟨rfl, ha, hk9⟩; have hq : IP w2 g A cp 55 74 (gm) i19 (ds18 ++ (zeroM).drop 71) v21 := HP18.out.call ha hk9 (by have := HGL.out; omega); have HQ18 := Lib.hid hq; have y18 : v21.cell? ⟨gm, 71, none⟩ = some (.int .i64 0) := hq.b.cell (by rw [dz_get HL18.out]; rfl); have yf18 := hq.b.fr; clear ha hk9 hq)
  obtain ⟨w21, hw18⟩ : ∃ z, v21.setCell ⟨gm, 71, none⟩ (.int .i64 (u18 : Nat)) = z := ⟨_, rfl⟩
  obtain ⟨ds19, hd18⟩ : ∃ z : List Value, ds18 ++ [(.int .i64 (u18 : Nat))] = z := ⟨_, rfl⟩
  have HP19 : Hid (IP w2 g A cp 55 74 (gm) i19 (ds19 ++ (zeroM).drop 72) w21) := by show IP _ _ _ _ _ _ _ _ _ _; rw [← hw18, ← hd18]; exact HQ18.out.put HL18.out (by decide) (by have := HGL.out; omega) (fun q hq => by have := HBL.out q hq; omega)
  have HL19 : Hid (ds19.length = 72) := by show _ = _; rw [← hd18, List.length_append, HL18.out]; rfl
  have HE19 : Hid (rdI ((((((((((((((((((([] ++ [.n 0]) ++ (ns 0 4)) ++ (ns 0 4)) ++ [.n 0]) ++ [.n 0]) ++ [.n 0]) ++ [.n 0]) ++ [.n 0]) ++ (chainM 0)) ++ (writeM 0)) ++ [.b 0]) ++ [.t 0 16]) ++ [.t 0 32]) ++ [.b 0]) ++ [.b 0]) ++ (ns 0 9)) ++ (ns 0 9)) ++ [.n 0]) ++ [.n 0]) i = (i19, ds19)) := by show _ = _; rw [rdI_app, HE18.out, ← hd18]; show ((rdI _ i18).1, _ ++ (rdI _ i18).2) = _; rw [HR18.out]
  rw [hw18]
  clear hw18 hd18 HQ18 y18 yf18 HR18 HP18 HL18 HE18
  try clear HX18
  obtain ⟨i20, hi19⟩ : ∃ z, (inNum i19).1 = z := ⟨_, rfl⟩
  obtain ⟨u19, hu19⟩ : ∃ z, (inNum i19).2 = z := ⟨_, rfl⟩
  have hx19 := iNumber_any HP19.out.h
  rw [hi19, hu19] at hx19
  have HX19 := Lib.hid hx19
  have hr19 : rdI [.n 0] i19 = (i20, [(.int .i64 (u19 : Nat))]) := by rw [← hi19, ← hu19]; rfl
  have HR19 := Lib.hid hr19
  clear hi19 hu19 hx19 hr19
  go_upto_region 28 with (go_at_call 35; refine HX19.out.mono ?_; rintro x9 v22 ⟨rfl, ha, hk9⟩; have hq : IP w2 g A cp 55 74 (gm) i20 (ds19 ++ (zeroM).drop 72) v22 := HP19.out.call ha hk9 (by have := HGL.out; omega); have HQ19 := Lib.hid hq; have y19 : v22.cell? ⟨gm, 72, none⟩ = some (.int .i64 0) := hq.b.cell (by rw [dz_get HL19.out]; rfl); have yf19 := hq.b.fr; clear ha hk9 hq)
  obtain ⟨w22, hw19⟩ : ∃ z, v22.setCell ⟨gm, 72, none⟩ (.int .i64 (u19 : Nat)) = z := ⟨_, rfl⟩
  obtain ⟨ds20, hd19⟩ : ∃ z : List Value, ds19 ++ [(.int .i64 (u19 : Nat))] = z := ⟨_, rfl⟩
  have HP20 : Hid (IP w2 g A cp 55 74 (gm) i20 (ds20 ++ (zeroM).drop 73) w22) := by show IP _ _ _ _ _ _ _ _ _ _; rw [← hw19, ← hd19]; exact HQ19.out.put HL19.out (by decide) (by have := HGL.out; omega) (fun q hq => by have := HBL.out q hq; omega)
  have HL20 : Hid (ds20.length = 73) := by show _ = _; rw [← hd19, List.length_append, HL19.out]; rfl
  have HE20 : Hid (rdI (((((((((((((((((((([] ++ [.n 0]) ++ (ns 0 4)) ++ (ns 0 4)) ++ [.n 0]) ++ [.n 0]) ++ [.n 0]) ++ [.n 0]) ++ [.n 0]) ++ (chainM 0)) ++ (writeM 0)) ++ [.b 0]) ++ [.t 0 16]) ++ [.t 0 32]) ++ [.b 0]) ++ [.b 0]) ++ (ns 0 9)) ++ (ns 0 9)) ++ [.n 0]) ++ [.n 0]) ++ [.n 0]) i = (i20, ds20)) := by show _ = _; rw [rdI_app, HE19.out, ← hd19]; show ((rdI _ i19).1, _ ++ (rdI _ i19).2) = _; rw [HR19.out]
  rw [hw19]
  clear hw19 hd19 HQ19 y19 yf19 HR19 HP19 HL19 HE19
  try clear HX19
  obtain ⟨i21, hi20⟩ : ∃ z, (inNum i20).1 = z := ⟨_, rfl⟩
  obtain ⟨u20, hu20⟩ : ∃ z, (inNum i20).2 = z := ⟨_, rfl⟩
  have hx20 := iNumber_any HP20.out.h
  rw [hi20, hu20] at hx20
  have HX20 := Lib.hid hx20
  have hr20 : rdI [.n 0] i20 = (i21, [(.int .i64 (u20 : Nat))]) := by rw [← hi20, ← hu20]; rfl
  have HR20 := Lib.hid hr20
  clear hi20 hu20 hx20 hr20
  go_upto_region 29 with (go_at_call 35; refine HX20.out.mono ?_; rintro x9 v23 ⟨rfl, ha, hk9⟩; have hq : IP w2 g A cp 55 74 (gm) i21 (ds20 ++ (zeroM).drop 73) v23 := HP20.out.call ha hk9 (by have := HGL.out; omega); have HQ20 := Lib.hid hq; have y20 : v23.cell? ⟨gm, 73, none⟩ = some (.int .i64 0) := hq.b.cell (by rw [dz_get HL20.out]; rfl); have yf20 := hq.b.fr; clear ha hk9 hq)
  obtain ⟨w23, hw20⟩ : ∃ z, v23.setCell ⟨gm, 73, none⟩ (.int .i64 (u20 : Nat)) = z := ⟨_, rfl⟩
  obtain ⟨ds21, hd20⟩ : ∃ z : List Value, ds20 ++ [(.int .i64 (u20 : Nat))] = z := ⟨_, rfl⟩
  have HP21 : Hid (IP w2 g A cp 55 74 (gm) i21 (ds21 ++ (zeroM).drop 74) w23) := by show IP _ _ _ _ _ _ _ _ _ _; rw [← hw20, ← hd20]; exact HQ20.out.put HL20.out (by decide) (by have := HGL.out; omega) (fun q hq => by have := HBL.out q hq; omega)
  have HL21 : Hid (ds21.length = 74) := by show _ = _; rw [← hd20, List.length_append, HL20.out]; rfl
  have HE21 : Hid (rdI ((((((((((((((((((((([] ++ [.n 0]) ++ (ns 0 4)) ++ (ns 0 4)) ++ [.n 0]) ++ [.n 0]) ++ [.n 0]) ++ [.n 0]) ++ [.n 0]) ++ (chainM 0)) ++ (writeM 0)) ++ [.b 0]) ++ [.t 0 16]) ++ [.t 0 32]) ++ [.b 0]) ++ [.b 0]) ++ (ns 0 9)) ++ (ns 0 9)) ++ [.n 0]) ++ [.n 0]) ++ [.n 0]) ++ [.n 0]) i = (i21, ds21)) := by show _ = _; rw [rdI_app, HE20.out, ← hd20]; show ((rdI _ i20).1, _ ++ (rdI _ i20).2) = _; rw [HR20.out]
  rw [hw20]
  clear hw20 hd20 HQ20 y20 yf20 HR20 HP20 HL20 HE20
  try clear HX20
  have hE9 : rdI msgM i = (i21, ds21) := (rdI_same (by kernel_rfl) i).trans HE21.out
  have hO9 : Hid (∀ y ∈ ds21, y.oneCell' = true) := by have := rdI_one msgM i; rw [hE9] at this; exact this
  have hd0 : ds21[0]? = some (.int .i64 ((inNum i).2 : Nat)) := by
    have h9 : ds21 = (rdI msgM i).2 := by rw [hE9]
    rw [h9]; rfl
  have HRQ : Hid (refM bs = if (i21.bad = true ∨ i21.pos ≠ n) ∨ ((inNum i).2 : Int) < 1 ∨ 14 < ((inNum i).2 : Int) then (zeroM, 41) else (ds21, 0)) := by
    show _ = _
    have hk : kindV ds21 = ((inNum i).2 : Int) := by unfold kindV; rw [hd0]
    rw [HRR.out, HI.out, hE9, hk]
    have hs : (sick (i21, ds21) n = true) = (i21.bad = true ∨ i21.pos ≠ n) := by unfold sick; simp
    simp only [hs]
  have hB9 : Mem.Bx w23 55 74 gm ds21 := by have := HP21.out.b; rw [dz_all HL21.out rfl] at this; exact this
  have x0 := hB9.cell hd0
  have x1 : w23.cell? ⟨g, 1, none⟩ = some (.int .i64 (i21.pos : Nat)) := HP21.out.h.B.cell (j := 1) rfl
  have x2 : w23.cell? ⟨g, 2, none⟩ = some (.bool i21.bad) := HP21.out.h.B.cell (j := 2) rfl
  obtain ⟨kd, hkd⟩ : ∃ kd, (inNum i).2 = kd := ⟨_, rfl⟩
  rw [hkd] at HRQ x0
  have HB9 := Lib.hid hB9
  have hZ9 : Mem.Bx w23 55 74 gr zeroM := HZ2.out.keeps HP21.out.k (fun h => by have := HWG.out; have := HGM.out; have := HGR.out; rcases h with h | h <;> omega)
  have hBl9 : Below w.heap.size w w23 := HB2.out.trans (HP21.out.k.below (fun q h => by have := HWG.out; have := HGM.out; rcases h with h | h <;> omega) HB2.out.size)
  have HZb := Lib.hid hZ9
  have HBb := Lib.hid hBl9
  clear hE9 hd0 hkd hB9 hZ9 hBl9
  cases hbad : i21.bad
  case true =>
    rw [hbad] at x2
    have hE : refM bs = (zeroM, 41) := by rw [HRQ.out, if_pos (.inl (.inl hbad))]
    have HE := Lib.hid hE
    clear hE hbad
    go_upto_region 30 with fail
    go_wp2_with ((with_reducible refine Mem.store_agg _ _ msg_agg gr zeroM zeroM ?hx ?hy HZb.out rfl zeroM_one ?_); (case hx => exact rfl); (case hy => exact rfl); intro wz hbz hkz hsz)
    try simp only [Exit.jump, Exit.inBlock, Exit.then]
    refine bodyPost_ret (v := .tuple #[.agg zeroM.toArray, .int .i64 41]) (by rw [results_aggM Try.results24 msg_agg rfl hbz]; rfl) rfl ⟨by rw [HE.out], HBb.out.trans (hkz.below (fun q h => by have := HGW.out; omega) HBb.out.size)⟩
  rw [hbad] at x2
  by_cases hp : i21.pos = n
  case neg =>
    have hE : refM bs = (zeroM, 41) := by rw [HRQ.out, if_pos (.inl (.inr hp))]
    have HE := Lib.hid hE
    have d1 : ((i21.pos : Int) != (n : Int)) = true := by simp; omega
    clear hE hbad hp
    go_upto_region 30 with fail
    go_wp2_with ((with_reducible refine Mem.store_agg _ _ msg_agg gr zeroM zeroM ?hx ?hy HZb.out rfl zeroM_one ?_); (case hx => exact rfl); (case hy => exact rfl); intro wz hbz hkz hsz)
    try simp only [Exit.jump, Exit.inBlock, Exit.then]
    refine bodyPost_ret (v := .tuple #[.agg zeroM.toArray, .int .i64 41]) (by rw [results_aggM Try.results24 msg_agg rfl hbz]; rfl) rfl ⟨by rw [HE.out], HBb.out.trans (hkz.below (fun q h => by have := HGW.out; omega) HBb.out.size)⟩
  have d1 : ((i21.pos : Int) != (n : Int)) = false := by simp; omega
  by_cases hk1 : kd < 1
  case pos =>
    have hE : refM bs = (zeroM, 41) := by rw [HRQ.out, if_pos (.inr (.inl (by omega)))]
    have HE := Lib.hid hE
    have d2 : decide ((kd : Int) < 1) = true := by simp; omega
    clear hE hbad hp hk1
    go_upto_region 30 with fail
    go_wp2_with ((with_reducible refine Mem.store_agg _ _ msg_agg gr zeroM zeroM ?hx ?hy HZb.out rfl zeroM_one ?_); (case hx => exact rfl); (case hy => exact rfl); intro wz hbz hkz hsz)
    try simp only [Exit.jump, Exit.inBlock, Exit.then]
    refine bodyPost_ret (v := .tuple #[.agg zeroM.toArray, .int .i64 41]) (by rw [results_aggM Try.results24 msg_agg rfl hbz]; rfl) rfl ⟨by rw [HE.out], HBb.out.trans (hkz.below (fun q h => by have := HGW.out; omega) HBb.out.size)⟩
  have d2 : decide ((kd : Int) < 1) = false := by simp; omega
  by_cases hk2 : 14 < kd
  case pos =>
    have hE : refM bs = (zeroM, 41) := by rw [HRQ.out, if_pos (.inr (.inr (by omega)))]
    have HE := Lib.hid hE
    have d3 : decide ((14 : Int) < (kd : Int)) = true := by simp; omega
    clear hE hbad hp hk1 hk2
    go_upto_region 30 with fail
    go_wp2_with ((with_reducible refine Mem.store_agg _ _ msg_agg gr zeroM zeroM ?hx ?hy HZb.out rfl zeroM_one ?_); (case hx => exact rfl); (case hy => exact rfl); intro wz hbz hkz hsz)
    try simp only [Exit.jump, Exit.inBlock, Exit.then]
    refine bodyPost_ret (v := .tuple #[.agg zeroM.toArray, .int .i64 41]) (by rw [results_aggM Try.results24 msg_agg rfl hbz]; rfl) rfl ⟨by rw [HE.out], HBb.out.trans (hkz.below (fun q h => by have := HGW.out; omega) HBb.out.size)⟩
  have d3 : decide ((14 : Int) < (kd : Int)) = false := by simp; omega
  have hE : refM bs = (ds21, 0) := by
    rw [HRQ.out, if_neg (fun h => by
      rcases h with (h | h) | h | h
      · rw [hbad] at h; cases h
      · exact h hp
      · omega
      · omega)]
  have HE := Lib.hid hE
  clear hE hbad hp hk1 hk2
  go_upto_region 31 with fail
  go_wp2_with (first | ((with_reducible refine Mem.load_agg _ _ msg_agg gm 0 ds21 ?hxa HL21.out (fun j u hu => by rw [Nat.zero_add]; exact HB9.out.cell hu) ?_); case hxa => exact rfl) | ((with_reducible refine Mem.store_agg _ _ msg_agg gr zeroM ds21 ?hx ?hy HZb.out HL21.out hO9.out ?_); (case hx => exact rfl); (case hy => exact rfl); intro wz hbz hkz hsz))
  try simp only [Exit.jump, Exit.inBlock, Exit.then]
  refine bodyPost_ret (v := .tuple #[.agg ds21.toArray, .int .i64 0]) (by rw [results_aggM Try.results24 msg_agg rfl hbz]; rfl) rfl ⟨by rw [HE.out], HBb.out.trans (hkz.below (fun q h => by have := HGW.out; omega) HBb.out.size)⟩

end Go.Proofs.Ytkfgedgjpgehoaa
