/- The walk of the document's ReadRecord. PRINTED by wip/mkin3.py. No conditions but that the bytes are few. -/
import Derived.Test.YtkfgedgjpgehoaaIn4
import Derived.Test.YtkfgedgjpgehoaaInR
import Derived.Test.YtkfgedgjpgehoaaWireLR
namespace Go.Proofs.Ytkfgedgjpgehoaa
open Go.ChangeShapes Go.WideShapes Go.ChangeAt Go.RowKit
set_option linter.unusedVariables false
set_option linter.unusedSimpArgs false
namespace Wi
def FrEndR (w : World) (bs : List UInt8) (x : Ending) (w' : World) : Prop := x = .returned (.tuple #[.agg (refR bs).1.toArray, .int .i64 ((refR bs).2.1 : Nat), .int .i64 (refR bs).2.2]) ∧ Below w.heap.size w w'
end Wi
open Wi in
set_option maxRecDepth 100000 in
set_option maxHeartbeats 4000000 in
theorem refReadRecord_any {w : World} {A : Option Addr} {cap : Nat} {bs : List UInt8} (hR : Mem.Rd w w.heap.size A (bs.map Mem.byteV)) (hl : bs.length ≤ cap) (hb : bs.length ≤ 1000000000) (hcap : cap ≤ maxLen) :
    Calls Try.prog 18 #[.slice A bs.length cap] w (Wi.FrEndR w bs) := by
  have HR := Lib.hid hR
  clear hR
  go_enter Try.func18, Try.ntmps18
  go_upto_region 1 with fail
  obtain ⟨w1, hw1⟩ : ∃ w1, w.alloc (.cells #[.int .i64 0, .int .i64 0, .int .i64 0, .int .i64 0, .int .i64 0, .int .i64 0, .int .i64 0, .string ⟨#[]⟩, .string ⟨#[]⟩, .bool false, .int .i64 0, .int .i64 0, .int .i64 0, .int .i64 0, .int .i64 0, .int .i64 0, .int .i64 0, .int .i64 0, .int .i64 0, .int .i64 0, .int .i64 0, .int .i64 0, .int .i64 0, .int .i64 0, .int .i64 0, .int .i64 0, .int .i64 0, .int .i64 0, .int .i64 0, .int .i64 0, .int .i64 0, .bool false, .int .i64 0, .int .i64 0, .int .i64 0] 37) = w1 := ⟨_, rfl⟩
  have hz1 : Mem.Bx w1 37 35 w.heap.size zeroR := by rw [← hw1]; exact Mem.Bx.new w 37 #[.int .i64 0, .int .i64 0, .int .i64 0, .int .i64 0, .int .i64 0, .int .i64 0, .int .i64 0, .string ⟨#[]⟩, .string ⟨#[]⟩, .bool false, .int .i64 0, .int .i64 0, .int .i64 0, .int .i64 0, .int .i64 0, .int .i64 0, .int .i64 0, .int .i64 0, .int .i64 0, .int .i64 0, .int .i64 0, .int .i64 0, .int .i64 0, .int .i64 0, .int .i64 0, .int .i64 0, .int .i64 0, .int .i64 0, .int .i64 0, .int .i64 0, .int .i64 0, .bool false, .int .i64 0, .int .i64 0, .int .i64 0] rfl rfl
  have hb1 : Below w.heap.size w w1 := by rw [← hw1]; exact Reg.below_new _ _
  have hs1 : w1.heap.size = w.heap.size + 1 := by rw [← hw1]; exact Array.size_push _
  have hR1 : Mem.Rd w1 w1.heap.size A (bs.map Mem.byteV) := (HR.out.below hb1).more hb1.size
  obtain ⟨gr, hgr⟩ : ∃ gr, w.heap.size = gr := ⟨_, rfl⟩
  have hbd := rBody_any hR1 hl hb
  have hgw : w.heap.size ≤ gr := by omega
  have HGW := Lib.hid hgw
  rw [hw1]
  rw [hgr] at hz1 hs1 ⊢
  have HZ1 := Lib.hid hz1
  have HB1 := Lib.hid hb1
  have HS1 := Lib.hid hs1
  have HBD := Lib.hid hbd
  have HGR := Lib.hid hgr
  clear hw1 hz1 hb1 hs1 hR1 hgr hbd hgw
  by_cases hne : bs = []
  case pos =>
    have hE : refR bs = (zeroR, 0, 3) := by unfold refR; rw [if_pos hne]
    have HE := Lib.hid hE
    have d1 : ((bs.length : Int) == 0) = true := by rw [hne]; rfl
    have HBb := HB1
    have HZb := HZ1
    clear hE hne
    go_upto_region 2 with fail
    go_wp2_with ((with_reducible refine Mem.store_agg _ _ record_agg gr zeroR zeroR ?hx ?hy HZb.out rfl zeroR_one ?_); (case hx => exact rfl); (case hy => exact rfl); intro wz hbz hkz hsz)
    try simp only [Exit.jump, Exit.inBlock, Exit.then]
    refine bodyPost_ret (v := .tuple #[.agg zeroR.toArray, .int .i64 0, .int .i64 3]) (by rw [results_agg3 Try.results18 record_agg rfl hbz]; rfl) rfl ⟨by rw [HE.out]; rfl, HBb.out.trans (hkz.below (fun q h => by have := HGW.out; omega) HBb.out.size)⟩
  have d1 : ((bs.length : Int) == 0) = false := by
    have := List.length_pos_iff.2 hne
    simp; omega
  go_upto_region 3 with fail
  clear d1
  go_upto_region 4 with (go_at_call 34; refine HBD.out.mono ?_; rintro x9 v2 ⟨rfl, hk2⟩; have HK2 := Lib.hid hk2; clear hk2 HBD)
  have HBb : Hid (Below w.heap.size w v2) := HB1.out.trans (HK2.out.below (fun q h => h.elim) HB1.out.size)
  have HZb : Hid (Mem.Bx v2 37 35 gr zeroR) := HZ1.out.keeps HK2.out id
  rcases bodyC_cases bs with he | he | he
  case inr.inl =>
    have hE : refR bs = (zeroR, 0, 40) := by unfold refR; rw [if_neg hne, if_pos (by rw [he]; decide), he]
    have HE := Lib.hid hE
    rw [he]
    clear hE he
    go_upto_region 5 with fail
    go_wp2_with ((with_reducible refine Mem.store_agg _ _ record_agg gr zeroR zeroR ?hx ?hy HZb.out rfl zeroR_one ?_); (case hx => exact rfl); (case hy => exact rfl); intro wz hbz hkz hsz)
    try simp only [Exit.jump, Exit.inBlock, Exit.then]
    refine bodyPost_ret (v := .tuple #[.agg zeroR.toArray, .int .i64 0, .int .i64 40]) (by rw [results_agg3 Try.results18 record_agg rfl hbz]; rfl) rfl ⟨by rw [HE.out]; rfl, HBb.out.trans (hkz.below (fun q h => by have := HGW.out; omega) HBb.out.size)⟩
  case inr.inr =>
    have hE : refR bs = (zeroR, 0, 41) := by unfold refR; rw [if_neg hne, if_pos (by rw [he]; decide), he]
    have HE := Lib.hid hE
    rw [he]
    clear hE he
    go_upto_region 5 with fail
    go_wp2_with ((with_reducible refine Mem.store_agg _ _ record_agg gr zeroR zeroR ?hx ?hy HZb.out rfl zeroR_one ?_); (case hx => exact rfl); (case hy => exact rfl); intro wz hbz hkz hsz)
    try simp only [Exit.jump, Exit.inBlock, Exit.then]
    refine bodyPost_ret (v := .tuple #[.agg zeroR.toArray, .int .i64 0, .int .i64 41]) (by rw [results_agg3 Try.results18 record_agg rfl hbz]; rfl) rfl ⟨by rw [HE.out]; rfl, HBb.out.trans (hkz.below (fun q h => by have := HGW.out; omega) HBb.out.size)⟩
  obtain ⟨b, o, rfl, hbb, hV, hRs, hsl⟩ := bodyV_good he HR.out hl
  have h6 := bodyC_good he
  have hn5 := hdN_lt bs
  have hba : (bodyA bs : Int) = (hdN bs : Int) + 6 := by unfold bodyA; rw [if_pos he]; push_cast; rfl
  obtain ⟨n, hn⟩ : ∃ n, hdN bs = n := ⟨_, rfl⟩
  obtain ⟨bsn, hbsn⟩ : ∃ bsn, Mem.sub bs 2 n = bsn := ⟨_, rfl⟩
  rw [hn] at hV hRs hsl h6 hn5 hba
  rw [hbsn] at hRs hsl
  have hrr : refR bs = if sick (refRc (inNum (inI bsn)).2 (inNum (inI bsn)).1) n = true then (zeroR, 0, 41) else ((refRc (inNum (inI bsn)).2 (inNum (inI bsn)).1).2, n + 6, 0) := by
    unfold refR; rw [if_neg hne, if_neg (by rw [he]; decide), hn, hbsn]
  have HRR := Lib.hid hrr
  have HRS := Lib.hid hRs
  rw [hV, hba, he]
  clear hV hba he hrr hRs hn hbsn hne
  have hR2 : Mem.Rd v2 w.heap.size (some ⟨b, o, none⟩) (bs.map Mem.byteV) := HR.out.below HBb.out
  have hrs2 := HRS.out v2 hR2
  clear HRS hR2
  have HRS := Lib.hid hrs2
  clear hrs2
  go_upto_region 7 with fail
  obtain ⟨g, hg⟩ : ∃ g, v2.heap.size = g := ⟨_, rfl⟩
  obtain ⟨v3, hw3⟩ : ∃ v3, v2.alloc (.cells #[.slice (some ⟨b, o + 2, none⟩) n (cap - 2), .int .i64 0, .bool false] 86) = v3 := ⟨_, rfl⟩
  have hc3 : Mem.Bx v3 86 3 g [.slice (some ⟨b, o + 2, none⟩) n (cap - 2), .int .i64 0, .bool false] := by rw [← hw3]; exact Mem.Bx.new v2 86 #[.slice (some ⟨b, o + 2, none⟩) n (cap - 2), .int .i64 0, .bool false] rfl hg
  have hb3 : Below v2.heap.size v2 v3 := by rw [← hw3]; exact Reg.below_new _ _
  have hs3 : v3.heap.size = g + 1 := by rw [← hw3, ← hg]; exact Array.size_push _
  have hwg : w.heap.size + 1 ≤ g := by rw [← hg]; have h1 := HK2.out.size; have := HS1.out; have := HGR.out; omega
  rw [hw3, hg]
  go_upto_region 8 with fail
  obtain ⟨w2, hw2⟩ : ∃ w2, v3.alloc (.cells #[.int .i64 0, .int .i64 0, .int .i64 0, .int .i64 0, .int .i64 0, .int .i64 0, .int .i64 0, .string ⟨#[]⟩, .string ⟨#[]⟩, .bool false, .int .i64 0, .int .i64 0, .int .i64 0, .int .i64 0, .int .i64 0, .int .i64 0, .int .i64 0, .int .i64 0, .int .i64 0, .int .i64 0, .int .i64 0, .int .i64 0, .int .i64 0, .int .i64 0, .int .i64 0, .int .i64 0, .int .i64 0, .int .i64 0, .int .i64 0, .int .i64 0, .int .i64 0, .bool false, .int .i64 0, .int .i64 0, .int .i64 0] 37) = w2 := ⟨_, rfl⟩
  have hz2 : Mem.Bx w2 37 35 v3.heap.size zeroR := by rw [← hw2]; exact Mem.Bx.new v3 37 #[.int .i64 0, .int .i64 0, .int .i64 0, .int .i64 0, .int .i64 0, .int .i64 0, .int .i64 0, .string ⟨#[]⟩, .string ⟨#[]⟩, .bool false, .int .i64 0, .int .i64 0, .int .i64 0, .int .i64 0, .int .i64 0, .int .i64 0, .int .i64 0, .int .i64 0, .int .i64 0, .int .i64 0, .int .i64 0, .int .i64 0, .int .i64 0, .int .i64 0, .int .i64 0, .int .i64 0, .int .i64 0, .int .i64 0, .int .i64 0, .int .i64 0, .int .i64 0, .bool false, .int .i64 0, .int .i64 0, .int .i64 0] rfl rfl
  have hb2 : Below v3.heap.size v3 w2 := by rw [← hw2]; exact Reg.below_new _ _
  rw [hw2]
  rw [hs3] at hz2
  try rw [hs3]
  obtain ⟨gm, hgm⟩ : ∃ gm, g + 1 = gm := ⟨_, rfl⟩
  rw [hgm] at hz2 ⊢
  obtain ⟨A, hA⟩ : ∃ A : Option Addr, some ⟨b, o + 2, none⟩ = A := ⟨_, rfl⟩
  obtain ⟨cp, hcp⟩ : ∃ cp, cap - 2 = cp := ⟨_, rfl⟩
  have hRdn : Mem.Rd w2 w.heap.size A (bsn.map Mem.byteV) := by rw [← hA]; exact (HRS.out.below (hb3.mono (by have := HBb.out.size; omega))).below (hb2.mono (by have := HBb.out.size; omega))
  have hc2 := hc3.keeps (Mem.Keeps.of_below hb2) id
  rw [hA, hcp] at hc2
  have hIA : IAt w2 g A cp (inI bsn) := ⟨by rw [show idCells A cp (inI bsn) = [.slice A n cp, .int .i64 0, .bool false] by unfold idCells inI; simp [hsl]]; exact hc2, hRdn.more (by have := hb2.size; have := hb3.size; have := HBb.out.size; omega), (fun k hk => by rw [← hA] at hk; have e9 : b = k := (by simpa [Mem.blk] using hk); have := hb2.size; omega), ⟨by show bsn.length ≤ _; omega, by show bsn.length ≤ _; omega⟩, Nat.zero_le _⟩
  have HBL : Hid (∀ k, Mem.blk A = some k → k < gm) := fun k hk => by rw [← hA] at hk; have e9 : b = k := (by simpa [Mem.blk] using hk); omega
  have HGL : Hid (g < gm) := by show _ < _; omega
  have HCP : Hid (cp ≤ maxLen) := by show _ ≤ _; omega
  have HN5 : Hid (n < 65536) := by show _ < _; omega
  have hBb2 : Below w.heap.size w w2 := HBb.out.trans ((hb3.trans (hb2.mono (by omega))).mono (by have := HBb.out.size; omega))
  have hZb2 : Mem.Bx w2 37 35 gr zeroR := (HZb.out.keeps (Mem.Keeps.of_below hb3) id).keeps (Mem.Keeps.of_below hb2) id
  have HB2 := Lib.hid hBb2
  have HZ2 := Lib.hid hZb2
  have HNL := Lib.hid hsl
  obtain ⟨i, hi⟩ : ∃ i, inI bsn = i := ⟨_, rfl⟩
  rw [hi] at hIA
  have hrr := HRR.out
  rw [hi] at hrr
  clear HRR
  have HRR := Lib.hid hrr
  have HP0 : Hid (IP w2 g A cp 37 35 (gm) i ([] ++ (zeroR).drop 0) w2) := ⟨hIA, hz2, Mem.Keeps.refl _ _⟩
  have HE0 : Hid (rdI [] i = (i, [])) := rfl
  have HL0 : Hid (([] : List Value).length = 0) := rfl
  have HWG := Lib.hid hwg
  have HGM := Lib.hid hgm
  rw [hA, hcp]
  clear HRS hw3 hc3 hb3 hs3 hw2 hz2 hb2 hRdn hc2 hIA hBb2 hZb2 hsl hi hrr hwg hgm hA hcp hg hcap hb hl hbb h6 hn5 HZb HBb HZ1 HB1 HS1 HK2 HR

  obtain ⟨i1, hi0⟩ : ∃ z, (inNum i).1 = z := ⟨_, rfl⟩
  obtain ⟨u0, hu0⟩ : ∃ z, (inNum i).2 = z := ⟨_, rfl⟩
  have HU0 := Lib.hid hu0
  have hx0 := iNumber_any HP0.out.h
  rw [hi0, hu0] at hx0
  have HX0 := Lib.hid hx0
  have hr0 : rdI [.n 0] i = (i1, [(.int .i64 (u0 : Nat))]) := by rw [← hi0, ← hu0]; rfl
  have HR0 := Lib.hid hr0
  clear hi0 hu0 hx0 hr0
  go_upto_region 9 with (go_at_call 35; refine HX0.out.mono ?_; rintro x9 v3 ⟨rfl, ha, hk9⟩; have hq : IP w2 g A cp 37 35 (gm) i1 ([] ++ (zeroR).drop 0) v3 := HP0.out.call ha hk9 (by have := HGL.out; omega); have HQ0 := Lib.hid hq; have y0 : v3.cell? ⟨gm, 0, none⟩ = some (.int .i64 0) := hq.b.cell (by rw [dz_get HL0.out]; rfl); have yf0 := hq.b.fr; clear ha hk9 hq)
  obtain ⟨w3, hw0⟩ : ∃ z, v3.setCell ⟨gm, 0, none⟩ (.int .i64 (u0 : Nat)) = z := ⟨_, rfl⟩
  obtain ⟨ds1, hd0⟩ : ∃ z : List Value, [] ++ [(.int .i64 (u0 : Nat))] = z := ⟨_, rfl⟩
  have HP1 : Hid (IP w2 g A cp 37 35 (gm) i1 (ds1 ++ (zeroR).drop 1) w3) := by show IP _ _ _ _ _ _ _ _ _ _; rw [← hw0, ← hd0]; exact HQ0.out.put HL0.out (by decide) (by have := HGL.out; omega) (fun q hq => by have := HBL.out q hq; omega)
  have HL1 : Hid (ds1.length = 1) := by show _ = _; rw [← hd0, List.length_append, HL0.out]; rfl
  have HE1 : Hid (rdI ([] ++ [.n 0]) i = (i1, ds1)) := by show _ = _; rw [rdI_app, HE0.out, ← hd0]; show ((rdI _ i).1, _ ++ (rdI _ i).2) = _; rw [HR0.out]
  rw [hw0]
  clear hw0 hd0 HQ0 y0 yf0 HR0 HP0 HL0 HE0
  try clear HX0
  have hq0 : (inNum i).1 = i1 ∧ [(Value.int .i64 ((inNum i).2 : Nat))] = ds1 := by
    have h9 := HE1.out
    have h8 : rdI ([] ++ [.n 0]) i = ((inNum i).1, [(Value.int .i64 ((inNum i).2 : Nat))]) := rfl
    rw [h8] at h9
    exact ⟨(Prod.mk.inj h9).1, (Prod.mk.inj h9).2⟩
  obtain ⟨hq1, hq2⟩ := hq0
  have hrr := HRR.out
  rw [hq1] at hrr
  have hu9 : (inNum i).2 = u0 := HU0.out
  rw [hu9] at hrr hq2
  have HDS := Lib.hid hq2
  clear HRR hq1 hu9 HE1 HU0
  have HRR := Lib.hid hrr
  clear hrr
  have x0 : w3.cell? ⟨gm, 0, none⟩ = some (.int .i64 (u0 : Nat)) := HP1.out.b.cell (j := 0) (by rw [← hq2]; rfl)
  clear hq2
  by_cases hk1 : u0 = 1
  case pos =>
    subst hk1
    go_upto_region 12 with fail

    obtain ⟨i2, hi1⟩ : ∃ z, (rdI (writeM 0) i1).1 = z := ⟨_, rfl⟩
    obtain ⟨zs1, hu1⟩ : ∃ z, (rdI (writeM 0) i1).2 = z := ⟨_, rfl⟩
    have hx1 := iEntry_any HP1.out.h HCP.out
    rw [hi1, hu1] at hx1
    have HX1 := Lib.hid hx1
    have hr1 : rdI (writeM 0) i1 = (i2, zs1) := by rw [← hi1, ← hu1]
    have hl1 : Hid (zs1.length = 20) := by show _ = _; rw [← hu1, rdI_len]; rfl
    have ho1 : Hid (∀ y ∈ zs1, y.oneCell' = true) := by rw [← hu1]; exact rdI_one _ _
    have HR1 := Lib.hid hr1
    clear hi1 hu1 hx1 hr1
    go_upto_region 17 with (first | (go_at_call 36; refine HX1.out.mono ?_; rintro x9 v4 ⟨rfl, ha, hk9⟩; have hq : IP w2 g A cp 37 35 (gm) i2 (ds1 ++ (zeroR).drop 1) v4 := HP1.out.call ha hk9 (by have := HGL.out; omega); have HQ1 := Lib.hid hq; clear ha hk9 hq) | ((with_reducible refine Mem.store_part _ _ wentry_agg 37 35 (gm) 1 (ds1 ++ (zeroR).drop 1) zs1 ?hxb ?hyb HQ1.out.b hl1.out (by rw [hl1.out, List.length_append, HL1.out]; decide) ho1.out ?_); (case hxb => exact rfl); (case hyb => exact rfl); intro w4 hb9 hk9 hs9; have HQB := Lib.hid hb9; have HQK := Lib.hid hk9; clear hb9 hk9 hs9))
    obtain ⟨ds2, hd1⟩ : ∃ z, ds1 ++ zs1 = z := ⟨_, rfl⟩
    have HP2 : Hid (IP w2 g A cp 37 35 (gm) i2 (ds2 ++ (zeroR).drop 21) w4) := by show IP _ _ _ _ _ _ _ _ _ _; rw [← hd1]; exact HQ1.out.part HL1.out hl1.out HQB.out HQK.out (by have := HGL.out; omega) (fun q hq => by have := HBL.out q hq; omega)
    have HL2 : Hid (ds2.length = 21) := by show _ = _; rw [← hd1, List.length_append, HL1.out, hl1.out]
    have HD1 := Lib.hid hd1
    clear hd1 HQ1 HQB HQK HP1 HL1 hl1 ho1
    try clear HX1
    obtain ⟨L, hL⟩ : ∃ z, ds2 ++ zeroR.drop 21 = z := ⟨_, rfl⟩
    have hPf := HP2.out
    rw [hL] at hPf
    have HPf := Lib.hid hPf
    have hc : refRc 1 i1 = (i2, L) := by
      have h9 : rdI (tlR 1) i1 = (i2, zs1) := (rdI_same rfl i1).trans HR1.out
      unfold refRc cellsR; rw [if_pos (.inl rfl), h9, if_pos rfl, ← hL, ← HD1.out, ← HDS.out]; dsimp only; rw [List.append_assoc]
    have HLf : Hid (L.length = 35) := HPf.out.b.len
    have HOf : Hid (∀ y ∈ L, y.oneCell' = true) := by
      have h9 := cellsR_ok (k := 1) i1 (.inl rfl)
      have h8 : rdI (tlR 1) i1 = (i2, zs1) := (rdI_same rfl i1).trans HR1.out
      have h7 : cellsR 1 (rdI (tlR 1) i1).2 = L := by rw [h8]; unfold cellsR; rw [if_pos rfl, ← hL, ← HD1.out, ← HDS.out]; dsimp only; rw [List.append_assoc]
      rw [h7] at h9; exact okL_one h9
    have HRf : Hid (refR bs = if i2.bad = true ∨ i2.pos ≠ n then (zeroR, 0, 41) else (L, n + 6, 0)) := by
      show _ = _
      rw [HRR.out, hc]
      have hs : (sick (i2, L) n = true) = (i2.bad = true ∨ i2.pos ≠ n) := by unfold sick; simp
      simp only [hs]
    clear hL hPf hc HRR HP2 HR1 HD1 HL2 HDS
    have x1 : w4.cell? ⟨g, 1, none⟩ = some (.int .i64 (i2.pos : Nat)) := HPf.out.h.B.cell (j := 1) rfl
    have x2 : w4.cell? ⟨g, 2, none⟩ = some (.bool i2.bad) := HPf.out.h.B.cell (j := 2) rfl
    have hZ9 : Mem.Bx w4 37 35 gr zeroR := HZ2.out.keeps HPf.out.k (fun h => by have := HWG.out; have := HGM.out; have := HGR.out; rcases h with h | h <;> omega)
    have hBl9 : Below w.heap.size w w4 := HB2.out.trans (HPf.out.k.below (fun q h => by have := HWG.out; have := HGM.out; rcases h with h | h <;> omega) HB2.out.size)
    have HZb := Lib.hid hZ9
    have HBb := Lib.hid hBl9
    clear hZ9 hBl9
    cases hbad : i2.bad
    case true =>
      rw [hbad] at x2
      have hE : refR bs = (zeroR, 0, 41) := by rw [HRf.out, if_pos (.inl hbad)]
      have HE := Lib.hid hE
      clear hE hbad HRf
      go_upto_region 18 with fail
      go_wp2_with ((with_reducible refine Mem.store_agg _ _ record_agg gr zeroR zeroR ?hx ?hy HZb.out rfl zeroR_one ?_); (case hx => exact rfl); (case hy => exact rfl); intro wz hbz hkz hsz)
      try simp only [Exit.jump, Exit.inBlock, Exit.then]
      refine bodyPost_ret (v := .tuple #[.agg zeroR.toArray, .int .i64 0, .int .i64 41]) (by rw [results_agg3 Try.results18 record_agg rfl hbz]; rfl) rfl ⟨by rw [HE.out]; rfl, HBb.out.trans (hkz.below (fun q h => by have := HGW.out; omega) HBb.out.size)⟩
    rw [hbad] at x2
    by_cases hp : i2.pos = n
    case neg =>
      have hE : refR bs = (zeroR, 0, 41) := by rw [HRf.out, if_pos (.inr hp)]
      have HE := Lib.hid hE
      have d1 : ((i2.pos : Int) != (n : Int)) = true := by simp; omega
      clear hE hbad hp HRf
      go_upto_region 18 with fail
      go_wp2_with ((with_reducible refine Mem.store_agg _ _ record_agg gr zeroR zeroR ?hx ?hy HZb.out rfl zeroR_one ?_); (case hx => exact rfl); (case hy => exact rfl); intro wz hbz hkz hsz)
      try simp only [Exit.jump, Exit.inBlock, Exit.then]
      refine bodyPost_ret (v := .tuple #[.agg zeroR.toArray, .int .i64 0, .int .i64 41]) (by rw [results_agg3 Try.results18 record_agg rfl hbz]; rfl) rfl ⟨by rw [HE.out]; rfl, HBb.out.trans (hkz.below (fun q h => by have := HGW.out; omega) HBb.out.size)⟩
    have d1 : ((i2.pos : Int) != (n : Int)) = false := by simp; omega
    have hE : refR bs = (L, n + 6, 0) := by
      rw [HRf.out, if_neg (fun h => by
        rcases h with h | h
        · rw [hbad] at h; cases h
        · exact h hp)]
    have HE := Lib.hid hE
    clear hE hbad hp HRf
    go_upto_region 19 with fail
    go_wp2_with (first | ((with_reducible refine Mem.load_agg _ _ record_agg gm 0 L ?hxa HLf.out (fun j u hu => by rw [Nat.zero_add]; exact HPf.out.b.cell hu) ?_); case hxa => exact rfl) | ((with_reducible refine Mem.store_agg _ _ record_agg gr zeroR L ?hx ?hy HZb.out HLf.out HOf.out ?_); (case hx => exact rfl); (case hy => exact rfl); intro wz hbz hkz hsz))
    try simp only [Exit.jump, Exit.inBlock, Exit.then]
    refine bodyPost_ret (v := .tuple #[.agg L.toArray, .int .i64 ((n : Int) + 6), .int .i64 0]) (by rw [results_agg3 Try.results18 record_agg rfl hbz]; rfl) rfl ⟨by rw [HE.out]; rfl, HBb.out.trans (hkz.below (fun q h => by have := HGW.out; omega) HBb.out.size)⟩
  by_cases hk2 : u0 = 2
  case pos =>
    subst hk2
    obtain ⟨es, hes⟩ : ∃ z, [(Value.int .i64 ((2 : Nat) : Int))] ++ entZ = z := ⟨_, rfl⟩
    have HP1' : Hid (IP w2 g A cp 37 35 (gm) i1 (es ++ (zeroR).drop 21) w3) := by show IP _ _ _ _ _ _ _ _ _ _; rw [← hes]; have h9 := HP1.out; rw [← HDS.out] at h9; exact h9
    have HL1' : Hid (es.length = 21) := by show _ = _; rw [← hes]; rfl
    have HES := Lib.hid hes
    clear hes HP1 HL1 HDS
    clear ds1
    obtain ⟨ds1, hds1⟩ : ∃ z, es = z := ⟨_, rfl⟩
    rw [hds1] at HP1' HL1' HES
    have HP1 := HP1'
    have HL1 := HL1'
    clear hds1 HP1' HL1'
    go_upto_region 14 with fail

    obtain ⟨i2, hi1⟩ : ∃ z, (rdI (chainM 0) i1).1 = z := ⟨_, rfl⟩
    obtain ⟨zs1, hu1⟩ : ∃ z, (rdI (chainM 0) i1).2 = z := ⟨_, rfl⟩
    have hx1 := iConfig_any HP1.out.h HCP.out
    rw [hi1, hu1] at hx1
    have HX1 := Lib.hid hx1
    have hr1 : rdI (chainM 0) i1 = (i2, zs1) := by rw [← hi1, ← hu1]
    have hl1 : Hid (zs1.length = 13) := by show _ = _; rw [← hu1, rdI_len]; rfl
    have ho1 : Hid (∀ y ∈ zs1, y.oneCell' = true) := by rw [← hu1]; exact rdI_one _ _
    have HR1 := Lib.hid hr1
    clear hi1 hu1 hx1 hr1
    go_upto_region 15 with (first | (go_at_call 37; refine HX1.out.mono ?_; rintro x9 v4 ⟨rfl, ha, hk9⟩; have hq : IP w2 g A cp 37 35 (gm) i2 (ds1 ++ (zeroR).drop 21) v4 := HP1.out.call ha hk9 (by have := HGL.out; omega); have HQ1 := Lib.hid hq; clear ha hk9 hq) | ((with_reducible refine Mem.store_part _ _ wconfig_agg 37 35 (gm) 21 (ds1 ++ (zeroR).drop 21) zs1 ?hxb ?hyb HQ1.out.b hl1.out (by rw [hl1.out, List.length_append, HL1.out]; decide) ho1.out ?_); (case hxb => exact rfl); (case hyb => exact rfl); intro w4 hb9 hk9 hs9; have HQB := Lib.hid hb9; have HQK := Lib.hid hk9; clear hb9 hk9 hs9))
    obtain ⟨ds2, hd1⟩ : ∃ z, ds1 ++ zs1 = z := ⟨_, rfl⟩
    have HP2 : Hid (IP w2 g A cp 37 35 (gm) i2 (ds2 ++ (zeroR).drop 34) w4) := by show IP _ _ _ _ _ _ _ _ _ _; rw [← hd1]; exact HQ1.out.part HL1.out hl1.out HQB.out HQK.out (by have := HGL.out; omega) (fun q hq => by have := HBL.out q hq; omega)
    have HL2 : Hid (ds2.length = 34) := by show _ = _; rw [← hd1, List.length_append, HL1.out, hl1.out]
    have HD1 := Lib.hid hd1
    clear hd1 HQ1 HQB HQK HP1 HL1 hl1 ho1
    try clear HX1
    obtain ⟨i3, hi2⟩ : ∃ z, (inNum i2).1 = z := ⟨_, rfl⟩
    obtain ⟨u2, hu2⟩ : ∃ z, (inNum i2).2 = z := ⟨_, rfl⟩
    have hx2 := iNumber_any HP2.out.h
    rw [hi2, hu2] at hx2
    have HX2 := Lib.hid hx2
    have hr2 : rdI [.n 0] i2 = (i3, [(.int .i64 (u2 : Nat))]) := by rw [← hi2, ← hu2]; rfl
    have HR2 := Lib.hid hr2
    clear hi2 hu2 hx2 hr2
    go_upto_region 17 with (go_at_call 35; refine HX2.out.mono ?_; rintro x9 v5 ⟨rfl, ha, hk9⟩; have hq : IP w2 g A cp 37 35 (gm) i3 (ds2 ++ (zeroR).drop 34) v5 := HP2.out.call ha hk9 (by have := HGL.out; omega); have HQ2 := Lib.hid hq; have y2 : v5.cell? ⟨gm, 34, none⟩ = some (.int .i64 0) := hq.b.cell (by rw [dz_get HL2.out]; rfl); have yf2 := hq.b.fr; clear ha hk9 hq)
    obtain ⟨w5, hw2⟩ : ∃ z, v5.setCell ⟨gm, 34, none⟩ (.int .i64 (u2 : Nat)) = z := ⟨_, rfl⟩
    obtain ⟨ds3, hd2⟩ : ∃ z : List Value, ds2 ++ [(.int .i64 (u2 : Nat))] = z := ⟨_, rfl⟩
    have HP3 : Hid (IP w2 g A cp 37 35 (gm) i3 (ds3 ++ (zeroR).drop 35) w5) := by show IP _ _ _ _ _ _ _ _ _ _; rw [← hw2, ← hd2]; exact HQ2.out.put HL2.out (by decide) (by have := HGL.out; omega) (fun q hq => by have := HBL.out q hq; omega)
    have HL3 : Hid (ds3.length = 35) := by show _ = _; rw [← hd2, List.length_append, HL2.out]; rfl
    rw [hw2]
    have HD2 := Lib.hid hd2
    clear hw2 hd2 HQ2 y2 yf2 HP2 HL2
    try clear HX2
    obtain ⟨L, hL⟩ : ∃ z, ds3 ++ zeroR.drop 35 = z := ⟨_, rfl⟩
    have hPf := HP3.out
    rw [hL] at hPf
    have HPf := Lib.hid hPf
    have h8 : rdI (tlR 2) i1 = (i3, zs1 ++ [(Value.int .i64 (u2 : Nat))]) := by
      have h9 : rdI (tlR 2) i1 = rdI (chainM 0 ++ [.n 0]) i1 := rdI_same rfl i1
      rw [h9, rdI_app, HR1.out]; dsimp only; rw [HR2.out]
    have h7 : cellsR 2 (rdI (tlR 2) i1).2 = L := by
      rw [h8]; unfold cellsR; rw [if_neg (by decide), if_pos rfl, ← hL, ← HD2.out, ← HD1.out, ← HES.out]
      simp [zeroR]
    have hc : refRc 2 i1 = (i3, L) := by
      unfold refRc; rw [if_pos (.inr (.inl rfl)), h7, h8]
    have HLf : Hid (L.length = 35) := HPf.out.b.len
    have HOf : Hid (∀ y ∈ L, y.oneCell' = true) := by
      have h9 := cellsR_ok (k := 2) i1 (.inr (.inl rfl))
      rw [h7] at h9; exact okL_one h9
    have HRf : Hid (refR bs = if i3.bad = true ∨ i3.pos ≠ n then (zeroR, 0, 41) else (L, n + 6, 0)) := by
      show _ = _
      rw [HRR.out, hc]
      have hs : (sick (i3, L) n = true) = (i3.bad = true ∨ i3.pos ≠ n) := by unfold sick; simp
      simp only [hs]
    clear hL hPf hc h7 h8 HRR HP3 HR1 HR2 HD1 HD2 HES HL3
    have x1 : w5.cell? ⟨g, 1, none⟩ = some (.int .i64 (i3.pos : Nat)) := HPf.out.h.B.cell (j := 1) rfl
    have x2 : w5.cell? ⟨g, 2, none⟩ = some (.bool i3.bad) := HPf.out.h.B.cell (j := 2) rfl
    have hZ9 : Mem.Bx w5 37 35 gr zeroR := HZ2.out.keeps HPf.out.k (fun h => by have := HWG.out; have := HGM.out; have := HGR.out; rcases h with h | h <;> omega)
    have hBl9 : Below w.heap.size w w5 := HB2.out.trans (HPf.out.k.below (fun q h => by have := HWG.out; have := HGM.out; rcases h with h | h <;> omega) HB2.out.size)
    have HZb := Lib.hid hZ9
    have HBb := Lib.hid hBl9
    clear hZ9 hBl9
    cases hbad : i3.bad
    case true =>
      rw [hbad] at x2
      have hE : refR bs = (zeroR, 0, 41) := by rw [HRf.out, if_pos (.inl hbad)]
      have HE := Lib.hid hE
      clear hE hbad HRf
      go_upto_region 18 with fail
      go_wp2_with ((with_reducible refine Mem.store_agg _ _ record_agg gr zeroR zeroR ?hx ?hy HZb.out rfl zeroR_one ?_); (case hx => exact rfl); (case hy => exact rfl); intro wz hbz hkz hsz)
      try simp only [Exit.jump, Exit.inBlock, Exit.then]
      refine bodyPost_ret (v := .tuple #[.agg zeroR.toArray, .int .i64 0, .int .i64 41]) (by rw [results_agg3 Try.results18 record_agg rfl hbz]; rfl) rfl ⟨by rw [HE.out]; rfl, HBb.out.trans (hkz.below (fun q h => by have := HGW.out; omega) HBb.out.size)⟩
    rw [hbad] at x2
    by_cases hp : i3.pos = n
    case neg =>
      have hE : refR bs = (zeroR, 0, 41) := by rw [HRf.out, if_pos (.inr hp)]
      have HE := Lib.hid hE
      have d1 : ((i3.pos : Int) != (n : Int)) = true := by simp; omega
      clear hE hbad hp HRf
      go_upto_region 18 with fail
      go_wp2_with ((with_reducible refine Mem.store_agg _ _ record_agg gr zeroR zeroR ?hx ?hy HZb.out rfl zeroR_one ?_); (case hx => exact rfl); (case hy => exact rfl); intro wz hbz hkz hsz)
      try simp only [Exit.jump, Exit.inBlock, Exit.then]
      refine bodyPost_ret (v := .tuple #[.agg zeroR.toArray, .int .i64 0, .int .i64 41]) (by rw [results_agg3 Try.results18 record_agg rfl hbz]; rfl) rfl ⟨by rw [HE.out]; rfl, HBb.out.trans (hkz.below (fun q h => by have := HGW.out; omega) HBb.out.size)⟩
    have d1 : ((i3.pos : Int) != (n : Int)) = false := by simp; omega
    have hE : refR bs = (L, n + 6, 0) := by
      rw [HRf.out, if_neg (fun h => by
        rcases h with h | h
        · rw [hbad] at h; cases h
        · exact h hp)]
    have HE := Lib.hid hE
    clear hE hbad hp HRf
    go_upto_region 19 with fail
    go_wp2_with (first | ((with_reducible refine Mem.load_agg _ _ record_agg gm 0 L ?hxa HLf.out (fun j u hu => by rw [Nat.zero_add]; exact HPf.out.b.cell hu) ?_); case hxa => exact rfl) | ((with_reducible refine Mem.store_agg _ _ record_agg gr zeroR L ?hx ?hy HZb.out HLf.out HOf.out ?_); (case hx => exact rfl); (case hy => exact rfl); intro wz hbz hkz hsz))
    try simp only [Exit.jump, Exit.inBlock, Exit.then]
    refine bodyPost_ret (v := .tuple #[.agg L.toArray, .int .i64 ((n : Int) + 6), .int .i64 0]) (by rw [results_agg3 Try.results18 record_agg rfl hbz]; rfl) rfl ⟨by rw [HE.out]; rfl, HBb.out.trans (hkz.below (fun q h => by have := HGW.out; omega) HBb.out.size)⟩
  by_cases hk3 : u0 = 3
  case pos =>
    subst hk3
    obtain ⟨L, hL⟩ : ∃ z, [(Value.int .i64 ((3 : Nat) : Int))] ++ zeroR.drop 1 = z := ⟨_, rfl⟩
    have hPf := HP1.out
    rw [← HDS.out, hL] at hPf
    have HPf := Lib.hid hPf
    have h7 : cellsR 3 (rdI (tlR 3) i1).2 = L := by
      unfold cellsR; rw [if_neg (by decide), if_neg (by decide), ← hL]
    have hc : refRc 3 i1 = (i1, L) := by
      unfold refRc; rw [if_pos (.inr (.inr rfl)), h7]; rfl
    have HLf : Hid (L.length = 35) := HPf.out.b.len
    have HOf : Hid (∀ y ∈ L, y.oneCell' = true) := by
      have h9 := cellsR_ok (k := 3) i1 (.inr (.inr rfl))
      rw [h7] at h9; exact okL_one h9
    have HRf : Hid (refR bs = if i1.bad = true ∨ i1.pos ≠ n then (zeroR, 0, 41) else (L, n + 6, 0)) := by
      show _ = _
      rw [HRR.out, hc]
      have hs : (sick (i1, L) n = true) = (i1.bad = true ∨ i1.pos ≠ n) := by unfold sick; simp
      simp only [hs]
    clear hL hPf hc h7 HRR HP1 HDS
    go_upto_region 17 with fail
    have x1 : w3.cell? ⟨g, 1, none⟩ = some (.int .i64 (i1.pos : Nat)) := HPf.out.h.B.cell (j := 1) rfl
    have x2 : w3.cell? ⟨g, 2, none⟩ = some (.bool i1.bad) := HPf.out.h.B.cell (j := 2) rfl
    have hZ9 : Mem.Bx w3 37 35 gr zeroR := HZ2.out.keeps HPf.out.k (fun h => by have := HWG.out; have := HGM.out; have := HGR.out; rcases h with h | h <;> omega)
    have hBl9 : Below w.heap.size w w3 := HB2.out.trans (HPf.out.k.below (fun q h => by have := HWG.out; have := HGM.out; rcases h with h | h <;> omega) HB2.out.size)
    have HZb := Lib.hid hZ9
    have HBb := Lib.hid hBl9
    clear hZ9 hBl9
    cases hbad : i1.bad
    case true =>
      rw [hbad] at x2
      have hE : refR bs = (zeroR, 0, 41) := by rw [HRf.out, if_pos (.inl hbad)]
      have HE := Lib.hid hE
      clear hE hbad HRf
      go_upto_region 18 with fail
      go_wp2_with ((with_reducible refine Mem.store_agg _ _ record_agg gr zeroR zeroR ?hx ?hy HZb.out rfl zeroR_one ?_); (case hx => exact rfl); (case hy => exact rfl); intro wz hbz hkz hsz)
      try simp only [Exit.jump, Exit.inBlock, Exit.then]
      refine bodyPost_ret (v := .tuple #[.agg zeroR.toArray, .int .i64 0, .int .i64 41]) (by rw [results_agg3 Try.results18 record_agg rfl hbz]; rfl) rfl ⟨by rw [HE.out]; rfl, HBb.out.trans (hkz.below (fun q h => by have := HGW.out; omega) HBb.out.size)⟩
    rw [hbad] at x2
    by_cases hp : i1.pos = n
    case neg =>
      have hE : refR bs = (zeroR, 0, 41) := by rw [HRf.out, if_pos (.inr hp)]
      have HE := Lib.hid hE
      have d1 : ((i1.pos : Int) != (n : Int)) = true := by simp; omega
      clear hE hbad hp HRf
      go_upto_region 18 with fail
      go_wp2_with ((with_reducible refine Mem.store_agg _ _ record_agg gr zeroR zeroR ?hx ?hy HZb.out rfl zeroR_one ?_); (case hx => exact rfl); (case hy => exact rfl); intro wz hbz hkz hsz)
      try simp only [Exit.jump, Exit.inBlock, Exit.then]
      refine bodyPost_ret (v := .tuple #[.agg zeroR.toArray, .int .i64 0, .int .i64 41]) (by rw [results_agg3 Try.results18 record_agg rfl hbz]; rfl) rfl ⟨by rw [HE.out]; rfl, HBb.out.trans (hkz.below (fun q h => by have := HGW.out; omega) HBb.out.size)⟩
    have d1 : ((i1.pos : Int) != (n : Int)) = false := by simp; omega
    have hE : refR bs = (L, n + 6, 0) := by
      rw [HRf.out, if_neg (fun h => by
        rcases h with h | h
        · rw [hbad] at h; cases h
        · exact h hp)]
    have HE := Lib.hid hE
    clear hE hbad hp HRf
    go_upto_region 19 with fail
    go_wp2_with (first | ((with_reducible refine Mem.load_agg _ _ record_agg gm 0 L ?hxa HLf.out (fun j u hu => by rw [Nat.zero_add]; exact HPf.out.b.cell hu) ?_); case hxa => exact rfl) | ((with_reducible refine Mem.store_agg _ _ record_agg gr zeroR L ?hx ?hy HZb.out HLf.out HOf.out ?_); (case hx => exact rfl); (case hy => exact rfl); intro wz hbz hkz hsz))
    try simp only [Exit.jump, Exit.inBlock, Exit.then]
    refine bodyPost_ret (v := .tuple #[.agg L.toArray, .int .i64 ((n : Int) + 6), .int .i64 0]) (by rw [results_agg3 Try.results18 record_agg rfl hbz]; rfl) rfl ⟨by rw [HE.out]; rfl, HBb.out.trans (hkz.below (fun q h => by have := HGW.out; omega) HBb.out.size)⟩
  have d1 : ((u0 : Int) == 1) = false := by simp; omega
  have d2 : ((u0 : Int) == 2) = false := by simp; omega
  have d3 : ((u0 : Int) == 3) = false := by simp; omega
  have hE : refR bs = (zeroR, 0, 41) := by
    rw [HRR.out]
    have hc : refRc u0 i1 = ({ i1 with bad := true }, zeroR) := by unfold refRc; rw [if_neg (by omega)]
    rw [hc]; exact if_pos rfl
  have HE := Lib.hid hE
  have yb : w3.cell? ⟨g, 2, none⟩ = some (.bool i1.bad) := HP1.out.h.B.cell (j := 2) rfl
  have yf := HP1.out.h.B.fr
  clear hE HRR hk1 hk2 hk3
  go_upto_region 17 with fail
  obtain ⟨w4, hw4⟩ : ∃ z, w3.setCell ⟨g, 2, none⟩ (.bool true) = z := ⟨_, rfl⟩
  have hI4 : IAt w4 g A cp { i1 with bad := true } := by rw [← hw4]; exact HP1.out.h.set 2 (.bool true) rfl HP1.out.h.pl (by simp [idCells])
  have hK4 : Mem.Keeps (fun q => q = g ∨ q = gm) w2 w4 := by rw [← hw4]; exact HP1.out.k.setCell (p := ⟨g, 2, none⟩) (fun _ => .inl rfl) _
  have x2 : w4.cell? ⟨g, 2, none⟩ = some (.bool true) := hI4.B.cell (j := 2) rfl
  have hZ9 : Mem.Bx w4 37 35 gr zeroR := HZ2.out.keeps hK4 (fun h => by have := HWG.out; have := HGM.out; have := HGR.out; rcases h with h | h <;> omega)
  have hBl9 : Below w.heap.size w w4 := HB2.out.trans (hK4.below (fun q h => by have := HWG.out; have := HGM.out; rcases h with h | h <;> omega) HB2.out.size)
  have HZb := Lib.hid hZ9
  have HBb := Lib.hid hBl9
  rw [hw4]
  clear hZ9 hBl9 hK4 hI4 hw4 yb yf d1 d2 d3 x0 HP1
  go_upto_region 18 with fail
  go_wp2_with ((with_reducible refine Mem.store_agg _ _ record_agg gr zeroR zeroR ?hx ?hy HZb.out rfl zeroR_one ?_); (case hx => exact rfl); (case hy => exact rfl); intro wz hbz hkz hsz)
  try simp only [Exit.jump, Exit.inBlock, Exit.then]
  refine bodyPost_ret (v := .tuple #[.agg zeroR.toArray, .int .i64 0, .int .i64 41]) (by rw [results_agg3 Try.results18 record_agg rfl hbz]; rfl) rfl ⟨by rw [HE.out]; rfl, HBb.out.trans (hkz.below (fun q h => by have := HGW.out; omega) HBb.out.size)⟩
end Go.Proofs.Ytkfgedgjpgehoaa
