/- The walk of StoreCollects. Nothing is asked but what the row's form asks of its arguments. -/
import Derived.Test.YtfafehffnjbhnaaStCollL
import Derived.Test.YtfafehffnjbhnaaRegZ
set_option maxRecDepth 8000
namespace Go.Proofs.Ytfafehffnjbhnaa
open Go.ChangeShapes Go.WideShapes Go.ChangeAt Go.RowKit
set_option linter.unusedVariables false
set_option linter.unusedSimpArgs false
namespace Sto
open Vec
theorem two_made {B : Nat} {w3 w4 : World} {rng : Int} {ga ba gb bb : Nat} {mka mkb : Col} {rsa rsb : List LR} (h3 : Mine B w3 ga ba rng mka rsa) (hB : B ≤ w3.heap.size) (h4 : Mine w3.heap.size w4 gb bb rng mkb rsb) (hb : Below w3.heap.size w3 w4) : Two B w4 rng ga ba mka rsa gb bb mkb rsb :=
  ⟨h3.below hb, ⟨h4.S, h4.G, fun k hk => Nat.le_trans hB (h4.a k hk)⟩, fun k h1 h2 => by have := h3.S.lt h1; have := h4.a k h2; omega⟩
structure CkRel (w9 : World) (n : Nat) (v13 : Value) (wr : World) : Prop where
  out : ∃ j : Nat, j ≤ n ∧ v13 = .int .i64 j ∧ Hid (Below w9.heap.size w9 wr)
theorem okS_vers {rng : Int} {rs : List LR} (h : Good rng (states rs)) {ks : List ByteArray} (hk : sortK (rs.map (·.l.k)) = ks) : ∀ q ∈ ks, okS q := fun q hq => okS_of h q ((sortK_self _).subset (hk ▸ hq))
end Sto
namespace storeCollectsOpen
open Vec Sto
set_option maxRecDepth 20000 in
set_option maxHeartbeats 8000000 in
theorem walk (rng : Int) (A : Option Addr) (c : Nat) (acs : List Ac) (col tt : Col) (w : World) (hr : Mem.Rd w w.heap.size A (acs.flatMap acCells)) (hd : ∀ a ∈ acs, AcOk w w.heap.size a) (hn : acs.length ≤ 8796093022208) :
    Calls Try.prog 5 #[.int .i64 rng, .slice A acs.length c, Vec.C col, Vec.C tt] w fun e w' => e = .returned (.bool true) ∧ Below w.heap.size w w' := by
  have HR := Lib.hid hr
  have HD := Lib.hid hd
  clear hr hd
  go_enter Try.func5, Try.ntmps5
  go_upto_region 1 with fail
  refine Reg.wp_gen (fun w0 => CBx w0 w.heap.size col ∧ CBx w0 (w.heap.size + 1) tt ∧ Below w.heap.size w w0) ⟨?_, ?_, ?_⟩ ?_
  · exact (Mem.Bx.new w 26 (colCells col).toArray rfl rfl).below (Reg.below_new _ _) (by simp)
  · exact Mem.Bx.new (w.alloc _) 26 (colCells tt).toArray rfl (by simp)
  · exact (Reg.below_new _ _).alloc (by simp) _
  rintro w0 ⟨hC0, hT0, hb0⟩
  have HC0 := Lib.hid hC0
  have HT0 := Lib.hid hT0
  have HB0 := Lib.hid hb0
  obtain ⟨gc, hgc⟩ : ∃ gc, w.heap.size = gc := ⟨_, rfl⟩
  obtain ⟨gt, hgt⟩ : ∃ gt, w.heap.size + 1 = gt := ⟨_, rfl⟩
  rw [hgc] at hgt HC0 HT0 ⊢
  rw [hgt] at HT0 ⊢
  clear hC0 hT0 hb0
  go_wp2_with fail
  refine (storeAble_any w0).mono ?_
  rintro x w1 ⟨rfl, hb1⟩
  have HB1 : Hid (Below w.heap.size w w1) := HB0.out.trans (hb1.mono HB0.out.size)
  have HC1 : Hid (CBx w1 gc col) := HC0.out.below hb1 HC0.out.lt
  have HT1 : Hid (CBx w1 gt tt) := HT0.out.below hb1 HT0.out.lt
  clear hb1 HB0 HC0 HT0
  have HMU := Lib.hid (much_any A c acs w1 w1 ((HR.out.below HB1.out).more HB1.out.size) hn (fun a ha => ⟨((HD.out a ha).rd.below HB1.out).more HB1.out.size, (HD.out a ha).len, (HD.out a ha).cap, (HD.out a ha).ein⟩) (Below.refl _ _))
  go_wp2_with fail
  refine HMU.out.mono ?_
  clear HMU
  rintro x w2 ⟨bq, rfl, hbn, hb2⟩
  have HB2 : Hid (Below w.heap.size w w2) := HB1.out.trans (hb2.mono HB1.out.size)
  have HC2 : Hid (CBx w2 gc col) := HC1.out.below hb2 HC1.out.lt
  have HT2 : Hid (CBx w2 gt tt) := HT1.out.below hb2 HT1.out.lt
  clear hb2 HB1 HC1 HT1
  cases bq
  case true =>
    go_wp2
    go_ret
    exact ⟨rfl, HB2.out⟩
  have hn3 : lenA acs + acs.length ≤ 300 := hbn rfl
  clear hbn
  have HMA := Lib.hid (made_any rng A c acs w2 ((HR.out.below HB2.out).more HB2.out.size) (fun a ha => ⟨((HD.out a ha).rd.below HB2.out).more HB2.out.size, (HD.out a ha).len, (HD.out a ha).cap, (HD.out a ha).ein⟩) hn3)
  go_upto_region 6 with (first | (go_at_call 19; refine HMA.out.mono ?_; clear HMA; rintro x w3 ⟨ga, ba, mka, rsa, rfl, hpa, hla, hMa, hb3⟩; have HB3' := Lib.hid (HB2.out.trans (hb3.mono HB2.out.size)); have HMB := Lib.hid (made_any rng A c acs w3 ((HR.out.below HB3'.out).more HB3'.out.size) (fun a ha => ⟨((HD.out a ha).rd.below HB3'.out).more HB3'.out.size, (HD.out a ha).len, (HD.out a ha).cap, (HD.out a ha).ein⟩) hn3)) | (go_at_call 19; refine HMB.out.mono ?_; clear HMB; rintro x w4 ⟨gb, bb, mkb, rsb, rfl, hpb, hlb, hMb, hb4⟩))
  have HT4 := Lib.hid (two_made hMa hb3.size hMb hb4)
  have HB4 : Hid (Below w2.heap.size w2 w4) := hb3.trans (hb4.mono hb3.size)
  have hsm : (states rsa, mka) = (states rsb, mkb) := hpa.symm.trans hpb
  have hs1 : states rsb = states rsa := (congrArg Prod.fst hsm).symm
  have hs2 : mkb = mka := (congrArg Prod.snd hsm).symm
  subst hs2
  have HS1 := Lib.hid hs1
  have HC4 : Hid (CBx w4 gc col) := HC2.out.below HB4.out HC2.out.lt
  have HCO := Lib.hid (storeCollect_any HT4.out.a.S HT4.out.a.G (by omega) col)
  clear hpa hpb hsm hs1 hMa hMb hb3 hb4 HB3' HC2
  go_upto_region 7 with (first | ((with_reducible refine Mem.load_agg _ _ col_agg gc 0 (colCells col) ?hx (colCells_length col) (fun j u hu => by rw [Nat.zero_add]; exact HC4.out.cell hu) ?_); case hx => exact rfl) | (go_at_call 20; refine HCO.out.mono ?_; clear HCO; rintro x w5 ⟨rsc, rfl, hsc, hS5, hk5, hq5⟩; have HSC0 := Lib.hid hsc; obtain ⟨nn, hnn⟩ : ∃ nn, lenS (states rsa) - lenS (states rsc) = nn := ⟨_, rfl⟩; rw [hnn]; have HNN := Lib.hid hnn; clear hsc hnn))
  have hsc := HSC0.out
  have hnn := HNN.out
  have HT5 : Hid (Two w2.heap.size w5 rng ga ba (maxC mkb col) rsc gb bb mkb rsb) := HT4.out.turnA HB4.out.size hS5 (by rw [hsc]; exact HT4.out.a.G.collect _) hk5 hq5
  have HB5 : Hid (Below w2.heap.size w2 w5) := HB4.out.trans (hk5.below HT4.out.a.a HB4.out.size)
  have HSC : Hid (states rsc = collectS (maxC mkb col) (states rsb)) := by show _ = _; rw [hsc, HS1.out]
  have hlc : lenS (states rsc) ≤ lenS (states rsb) := by rw [HSC.out]; exact collect_len _ _
  have hlab : lenS (states rsa) = lenS (states rsb) := by rw [HS1.out]
  rw [hlab] at hnn
  have hkk : (rsc.map (·.l.k)) = rsb.map (·.l.k) := by rw [← states_keys, ← states_keys, HSC.out, collect_keys]
  have hlen : rsc.length = rsb.length := by simpa using congrArg List.length hkk
  have hrl : rsb.length ≤ 300 := Nat.le_trans (rs_le HT5.out.b.G.hne) hlb
  have HHC : Hid (lenS (states rsc) ≤ 4611686018427387903) := Nat.le_trans hlc (Nat.le_trans hlb (by omega))
  have HHB : Hid (lenS (states rsb) ≤ 4611686018427387903) := Nat.le_trans hlb (by omega)
  obtain ⟨ks, hks⟩ : ∃ ks, sortK (rsb.map (·.l.k)) = ks := ⟨_, rfl⟩
  have hkc : sortK (rsc.map (·.l.k)) = ks := by rw [hkk]; exact hks
  have hkl : ks.length = rsb.length := by rw [← hks, keys_length]
  have HOK := Lib.hid (okS_vers HT5.out.b.G hks)
  have HKS := Lib.hid hks
  have HKC := Lib.hid hkc
  obtain ⟨lc, hc1⟩ : ∃ lc, lenS (states rsc) = lc := ⟨_, rfl⟩
  obtain ⟨lb, hb1⟩ : ∃ lb, lenS (states rsb) = lb := ⟨_, rfl⟩
  rw [hc1, hb1] at hlc
  rw [hb1] at hlb
  rw [hc1, hb1] at hnn
  have HL1 := Lib.hid hc1
  have HL2 := Lib.hid hb1
  have hwr : IntKind.i64.wrap ((lb : Int) - (nn : Int)) = (lc : Int) := by rw [IntWalk.i64_in _ (by omega)]; omega
  have d1 : ((lc : Int) != (lc : Int)) = false := by simp
  have d2 : decide ((nn : Int) < 0) = false := by simp
  have HLA := Lib.hid (storeLen_any HT5.out.a.S (by rw [hc1]; omega))
  rw [hc1] at HLA
  have hkl2 : rsc.length = ks.length := by omega
  have HKL := Lib.hid hkl
  have hkl3 : ks.length ≤ 300 := by omega
  have HKM := Lib.hid hkl2
  clear hS5 hk5 hq5 hsc hlab hkk hlen hrl hks hkc hc1 hb1 hla HS1 HC4 HT4 HB4 hkl hkl2 hnn
  go_upto_region 9 with (first | (go_at_call 14; refine HLA.out.mono ?_; clear HLA; rintro x w6 ⟨rfl, hb6⟩; have HT6 := Lib.hid (HT5.out.below hb6); have HB6 : Hid (Below w2.heap.size w2 w6) := HB5.out.trans (hb6.mono HB5.out.size); have HLB := Lib.hid (storeLen_any HT6.out.b.S (by rw [HL2.out]; omega)); rw [HL2.out] at HLB; clear hb6) | (go_at_call 14; refine HLB.out.mono ?_; clear HLB; rintro x w7 ⟨rfl, hb7⟩))
  have HT7 := Lib.hid (HT6.out.below hb7)
  have HB7 : Hid (Below w2.heap.size w2 w7) := HB6.out.trans (hb7.mono HB6.out.size)
  have HKY := Lib.hid (storeKeys_any HT7.out.b.S (by have := HKL.out; omega))
  rw [HKS.out, ← HKL.out] at HKY
  clear hb7 HT5 HB5 HT6 HB6 hwr d1 d2
  go_upto_region 10 with (go_at_call 16; refine HKY.out.mono ?_; clear HKY; rintro x w8 ⟨Ak, ck, rfl, hO8, hF8, hb8⟩)
  have HT8 := Lib.hid (HT7.out.below hb8)
  have HB8 : Hid (Below w2.heap.size w2 w8) := HB7.out.trans (hb8.mono HB7.out.size)
  have HK8 := Lib.hid hO8
  have HKY := Lib.hid (storeKeys_any HT8.out.a.S (by have := HKM.out; omega))
  rw [HKC.out, HKM.out] at HKY
  clear hO8 hF8 hb8 HT7 HB7
  go_upto_region 12 with (first | (go_at_call 16; refine HKY.out.mono ?_; clear HKY; rintro x w9 ⟨Al, cl, rfl, hO9, hF9, hb9⟩; have HT9 := Lib.hid (HT8.out.below hb9); have HB9 : Hid (Below w2.heap.size w2 w9) := HB8.out.trans (hb9.mono HB8.out.size); have HK9 : Hid (Mem.Own w9 9 1 Ak ks.length ck (ks.map Value.string)) := HK8.out.below hb9 (fun k hk => HK8.out.lt hk); have HWD := Lib.hid (words_same Ak Al ck cl ks w9 HK9.out.rd hO9.rd (by unfold maxLen; omega)); clear hO9 hF9 hb9) | (go_at_call 17; refine HWD.out.mono ?_; clear HWD; rintro x w10 ⟨rfl, hb10⟩))
  have HTX := Lib.hid (HT9.out.below hb10)
  have HBX : Hid (Below w2.heap.size w2 w10) := HB9.out.trans (hb10.mono HB9.out.size)
  have HKX : Hid (Mem.Own w10 9 1 Ak ks.length ck (ks.map Value.string)) := HK9.out.below hb10 (fun k hk => HK9.out.lt hk)
  have HCX : Hid (CBx w10 gt tt) := HT2.out.below HBX.out HT2.out.lt
  clear hb10 HT8 HB8 HK8 HT9 HB9 HK9 HT2
  go_wp2
  go_loopw [13] (CkRel w10 ks.length) (fun t _ => ks.length - (intOf t).toNat)
  case atStart => exact ⟨⟨0, by omega, rfl, Below.refl _ _⟩⟩
  case round =>
    obtain ⟨j, hj, rfl, HBr⟩ := hrel.out
    clear hrel
    by_cases hlj : j < ks.length
    · obtain ⟨wa, hwa⟩ : ∃ z, z = wr := ⟨_, rfl⟩
      subst hwa
      have HTr := Lib.hid (HTX.out.below HBr.out)
      have HKr : Hid (Mem.Own wa 9 1 Ak ks.length ck (ks.map Value.string)) := HKX.out.below HBr.out (fun k hk => HKX.out.lt hk)
      have HCr : Hid (CBx wa gt tt) := HCX.out.below HBr.out HCX.out.lt
      obtain ⟨bk, ok, hAk⟩ := HKr.out.form (by omega)
      subst hAk
      obtain ⟨q, hq⟩ : ∃ q, ks[j]? = some q := ⟨_, List.getElem?_eq_getElem hlj⟩
      have x1 : wa.cell? ⟨bk, ok + j, none⟩ = some (.string q) := HKr.out.cell (j := j) (u := .string q) (by rw [List.getElem?_map, hq]; rfl)
      have hbk : bk < wa.heap.size := HKr.out.lt rfl
      have HQK := Lib.hid (HOK.out q (List.mem_of_getElem? hq))
      obtain ⟨le, hle⟩ : ∃ le, latest (states rsb) q = le := ⟨_, rfl⟩
      have HLB : Hid (latest (states rsb) q = le) := hle
      have HLA : Hid (latest (states rsc) q = le) := by show _ = _; rw [HSC.out, latest_collect, hle]
      clear hq hle
      have HWA := Lib.hid (storeLatest_any HTr.out.a.S HQK.out HTr.out.a.G.hne)
      rw [HLA.out] at HWA
      go_upto_region 16 with (first | (go_at_call 21; refine HWA.out.mono ?_; rintro x wx ⟨rfl, hbx⟩) | ((with_reducible refine Mem.store_agg _ _ entry_agg wx.heap.size (entCells ent0) (entCells le.1) ?hx16 ?hy16 ?hb16 (entCells_length _) (ent_one le.1) ?_); ((case hx16 => exact rfl); (case hy16 => exact rfl); (case hb16 => exact Mem.Bx.new wx _ (entCells ent0).toArray rfl rfl); intro wb hbn hkn hsn)))
      have hbz : Below wx.heap.size wx wb := (hkn.newBox rfl).belowAll
      have HBwb : Hid (Below wa.heap.size wa wb) := hbx.trans (hbz.mono hbx.size)
      have HEwb : Hid (EBx wb wx.heap.size le.1) := hbn
      obtain ⟨ge, hge⟩ : ∃ ge, wx.heap.size = ge := ⟨_, rfl⟩
      rw [hge] at HEwb ⊢
      have hgwb : wa.heap.size ≤ ge := by rw [← hge]; exact hbx.size
      clear hbn hkn hsn hbz hbx hge HWA
      have x2 : wb.cell? ⟨bk, ok + j, none⟩ = some (.string q) := (HBwb.out.cell (p := ⟨bk, ok + j, none⟩) hbk).trans x1
      have HTb := Lib.hid (HTr.out.below HBwb.out)
      clear x1
      have HWB := Lib.hid (storeLatest_any HTb.out.b.S HQK.out HTb.out.b.G.hne)
      rw [HLB.out] at HWB
      go_upto_region 17 with (first | (go_at_call 21; refine HWB.out.mono ?_; rintro x wx ⟨rfl, hbx⟩) | ((with_reducible refine Mem.store_agg _ _ entry_agg wx.heap.size (entCells ent0) (entCells le.1) ?hx17 ?hy17 ?hb17 (entCells_length _) (ent_one le.1) ?_); ((case hx17 => exact rfl); (case hy17 => exact rfl); (case hb17 => exact Mem.Bx.new wx _ (entCells ent0).toArray rfl rfl); intro wc hbn hkn hsn)))
      have hbz : Below wx.heap.size wx wc := (hkn.newBox rfl).belowAll
      have HBwc : Hid (Below wb.heap.size wb wc) := hbx.trans (hbz.mono hbx.size)
      have HEwc : Hid (EBx wc wx.heap.size le.1) := hbn
      obtain ⟨gf, hge⟩ : ∃ ge, wx.heap.size = ge := ⟨_, rfl⟩
      rw [hge] at HEwc ⊢
      have hgwc : wb.heap.size ≤ gf := by rw [← hge]; exact hbx.size
      clear hbn hkn hsn hbz hbx hge HWB
      have x3 : wc.cell? ⟨bk, ok + j, none⟩ = some (.string q) := (HBwc.out.cell (p := ⟨bk, ok + j, none⟩) (Nat.lt_of_lt_of_le hbk HBwb.out.size)).trans x2
      have HTc := Lib.hid (HTb.out.below HBwc.out)
      have HBc : Hid (Below wa.heap.size wa wc) := HBwb.out.trans (HBwc.out.mono HBwb.out.size)
      have HCT : Hid (CBx wc gt tt) := HCr.out.below HBc.out HCr.out.lt
      have HEb : Hid (EBx wc ge le.1) := HEwb.out.below HBwc.out HEwb.out.lt
      have e1 : ∀ W, (binOp .neq 40 (.agg (entCells le.1).toArray) (.agg (entCells le.1).toArray)).run Try.prog W = .ok (.bool false) W := fun W => by rw [neq_ent, eqEnt_iff.2 rfl]; rfl
      have b1 : (le.2 != le.2) = false := by cases le.2 <;> rfl
      clear x2
      go_upto_region 19 with (first | ((with_reducible refine Mem.load_agg _ _ entry_agg ge 0 (entCells le.1) ?hxe (entCells_length _) (fun j u hu => by rw [Nat.zero_add]; exact HEb.out.cell hu) ?_); (case hxe => exact rfl)) | ((with_reducible refine Mem.load_agg _ _ entry_agg gf 0 (entCells le.1) ?hxf (entCells_length _) (fun j u hu => by rw [Nat.zero_add]; exact HEwc.out.cell hu) ?_); (case hxf => exact rfl)))
      have HQC : Hid (bk < wc.heap.size ∧ wc.cell? ⟨bk, ok + j, none⟩ = some (.string q)) := ⟨Nat.lt_of_lt_of_le hbk HBc.out.size, x3⟩
      have HTM := Lib.hid HTc.out.a
      obtain ⟨an, han⟩ : ∃ an, asOf (states rsc) (maxC mkb col) q tt = an := ⟨_, rfl⟩
      have HAN := Lib.hid han
      have HLQ := HHC
      clear e1 b1 HEb HEwb HEwc x3 han HLA HLB HTr HTb HBwb HBwc HKr HCr hgwb hgwc
      refine Reg.wp_region_z (by kernel_rfl) 137 15 rfl rfl (by kernel_rfl) 90 91 (by decide) (12) (fun y => wc.heap.size ≤ y) (0) (fun _ => False) (0) (fun _ => False)
        (fun i f v u => match i with
          | 0 => v = .pointer (some ⟨ga, 0, none⟩)
          | 1 => v = .slice (some ⟨bk, ok, none⟩) ks.length ck
          | 2 => v = .int .i64 j
          | 3 => v = .pointer (some ⟨bk, ok + j, none⟩)
          | 4 => v = .string q
          | 5 => v = Vec.C tt
          | 6 => v = .tuple #[Vec.E an.e, .bool an.is, .int .i64 an.err]
          | 7 => v = .tuple #[Vec.E an.e, .bool an.is, .int .i64 an.err]
          | 8 => v = Vec.E an.e
          | 9 => v = .bool an.is
          | 10 => v = .int .i64 an.err
          | 11 => ∃ s, v = .pointer (some ⟨s, 0, none⟩) ∧ wc.heap.size ≤ s ∧ EBx u s ent0
          | 12 => ∃ s, f 18 = .pointer (some ⟨s, 0, none⟩) ∧ wc.heap.size ≤ s ∧ EBx u s an.e
          | 13 => v = .bool an.is
          | 14 => v = .int .i64 an.err
          | _ => True) ?_ ?_
      · refine Reg.StepsZ.cons ?_ (Reg.StepsZ.cons ?_ (Reg.StepsZ.cons ?_ (Reg.StepsZ.cons ?_ (Reg.StepsZ.cons ?_ (Reg.StepsZ.cons ?_ (Reg.StepsZ.cons ?_ (Reg.StepsZ.cons ?_ (Reg.StepsZ.cons ?_ (Reg.StepsZ.cons ?_ (Reg.StepsZ.cons ?_ (Reg.StepsZ.cons ?_ (Reg.StepsZ.cons ?_ (Reg.StepsZ.cons ?_ (Reg.StepsZ.cons ?_ (Reg.StepsZ.nil _)))))))))))))))
        · intro val ac u hR hp hpq ha K hK0      -- 0: t88 := Op.move t9
          have hK := fun v w' h1 h2 => hK0 v w' h1 h2 (fun j f v' h _ => by omega)
          have e9 : (ac.tmps[9]?).getD undef = .pointer (some ⟨ga, 0, none⟩) := ha 9 (by decide)
          clear ha hp
          refine Reg.Op1.plain rfl ?_
          go_wp2
          exact ⟨rfl, hK _ _ rfl (Reg.Wr.same _)⟩
        · intro val ac u hR hp hpq ha K hK0      -- 1: t89 := Op.move t12
          have hK := fun v w' h1 h2 => hK0 v w' h1 h2 (fun j f v' h _ => by omega)
          have e12 : (ac.tmps[12]?).getD undef = .slice (some ⟨bk, ok, none⟩) ks.length ck := ha 12 (by decide)
          clear ha hp
          refine Reg.Op1.plain rfl ?_
          go_wp2
          exact ⟨rfl, hK _ _ rfl (Reg.Wr.same _)⟩
        · intro val ac u hR hp hpq ha K hK0      -- 2: t90 := Op.move t13
          have hK := fun v w' h1 h2 => hK0 v w' h1 h2 (fun j f v' h _ => by omega)
          have e13 : (ac.tmps[13]?).getD undef = .int .i64 j := ha 13 (by decide)
          clear ha hp
          refine Reg.Op1.plain rfl ?_
          go_wp2
          exact ⟨rfl, hK _ _ rfl (Reg.Wr.same _)⟩
        · intro val ac u hR hp hpq ha K hK0      -- 3: t91 := Op.indexAddr 45 t89 t90
          have hK := fun v w' h1 h2 => hK0 v w' h1 h2 (fun j f v' h _ => by omega)
          obtain ⟨w89, h89, r89⟩ := hp 1 (by decide)
          have e89 : (ac.tmps[89]?).getD undef = .slice (some ⟨bk, ok, none⟩) ks.length ck := (ha 89 (by decide)).trans h89
          clear h89
          obtain ⟨w90, h90, r90⟩ := hp 2 (by decide)
          have e90 : (ac.tmps[90]?).getD undef = .int .i64 j := (ha 90 (by decide)).trans h90
          clear h90
          clear ha hp
          refine Reg.Op1.plain rfl ?_
          go_wp2
          exact ⟨rfl, hK _ _ rfl (Reg.Wr.same _)⟩
        · intro val ac u hR hp hpq ha K hK0      -- 4: t92 := Op.load 9 t91
          have hK := fun v w' h1 h2 => hK0 v w' h1 h2 (fun j f v' h _ => by omega)
          obtain ⟨w91, h91, r91⟩ := hp 3 (by decide)
          have e91 : (ac.tmps[91]?).getD undef = .pointer (some ⟨bk, ok + j, none⟩) := (ha 91 (by decide)).trans h91
          clear h91
          clear ha hp
          refine Reg.Op1.plain rfl ?_
          have hq : Mem.Keeps (fun y => wc.heap.size ≤ y ∨ False ∨ False) wc u := (Mem.Keeps.refl (fun y => wc.heap.size ≤ y ∨ False ∨ False) wc).drew.trans (Reg.Wr.all hR) (fun _ h _ => h)
          have hne : ∀ y, y < wc.heap.size → ¬ (wc.heap.size ≤ y ∨ False ∨ False) := fun y hy h => by rcases h with h | h | h <;> first | omega | exact h
          have z0 := (hq.cell (p := ⟨bk, ok + j, none⟩) (HQC.out.1) (hne bk HQC.out.1)).trans HQC.out.2
          go_wp2
          exact ⟨rfl, hK _ _ rfl (Reg.Wr.same _)⟩
        · intro val ac u hR hp hpq ha K hK0      -- 5: t93 := Op.load 26 t7
          have hK := fun v w' h1 h2 => hK0 v w' h1 h2 (fun j f v' h _ => by omega)
          have e7 : (ac.tmps[7]?).getD undef = .pointer (some ⟨gt, 0, none⟩) := ha 7 (by decide)
          clear ha hp
          refine Reg.Op1.plain rfl ?_
          have hq : Mem.Keeps (fun y => wc.heap.size ≤ y ∨ False ∨ False) wc u := (Mem.Keeps.refl (fun y => wc.heap.size ≤ y ∨ False ∨ False) wc).drew.trans (Reg.Wr.all hR) (fun _ h _ => h)
          have hCu := HCT.out.keeps hq (fun h => by have := HCT.out.lt; rcases h with h | h | h <;> first | omega | exact h)
          refine Mem.load_agg _ _ col_agg gt 0 (colCells tt) (Reg.eval_of e7) (colCells_length _) (fun j u' hu => by rw [Nat.zero_add]; exact hCu.cell hu) ?_
          exact ⟨rfl, hK _ _ rfl (Reg.Wr.same _)⟩
        · intro val ac u hR hp hpq ha K hK0      -- 6: t94 := Op.call { value (Operand.func 22), args := #[t88, t92, t93], argTypes := #[30, 9, 26] }
          have hK := fun v w' h1 h2 => hK0 v w' h1 h2 (fun j f v' h _ => by omega)
          obtain ⟨w88, h88, r88⟩ := hp 0 (by decide)
          have e88 : (ac.tmps[88]?).getD undef = .pointer (some ⟨ga, 0, none⟩) := (ha 88 (by decide)).trans h88
          clear h88
          obtain ⟨w92, h92, r92⟩ := hp 4 (by decide)
          have e92 : (ac.tmps[92]?).getD undef = .string q := (ha 92 (by decide)).trans h92
          clear h92
          obtain ⟨w93, h93, r93⟩ := hp 5 (by decide)
          have e93 : (ac.tmps[93]?).getD undef = Vec.C tt := (ha 93 (by decide)).trans h93
          clear h93
          clear ha hp
          refine Reg.Op1.plain rfl ?_
          have hq : Mem.Keeps (fun _ => False ∨ False) wc u := (Mem.Keeps.refl (fun _ => False ∨ False) wc).drew.trans (Reg.Wr.not1 hR (by decide +kernel)) (fun _ h _ => h)
          have hM := HTM.out.keeps hq (fun _ _ h => h.elim id id)
          go_wp2_with fail
          refine (storeAsOf_any hM.S HQK.out hM.G.hdc HLQ.out tt).mono ?_
          rintro x9 w' ⟨rfl, hbw9⟩
          rw [HAN.out]
          go_wp2_with fail
          exact ⟨rfl, hK _ _ rfl (Reg.Wr.below hbw9)⟩
        · intro val ac u hR hp hpq ha K hK0      -- 7: t87 := Op.move t94
          have hK := fun v w' h1 h2 => hK0 v w' h1 h2 (fun j f v' h _ => by omega)
          obtain ⟨w94, h94, r94⟩ := hp 6 (by decide)
          have e94 : (ac.tmps[94]?).getD undef = .tuple #[Vec.E an.e, .bool an.is, .int .i64 an.err] := (ha 94 (by decide)).trans h94
          clear h94
          clear ha hp
          refine Reg.Op1.plain rfl ?_
          go_wp2
          exact ⟨rfl, hK _ _ rfl (Reg.Wr.same _)⟩
        · intro val ac u hR hp hpq ha K hK0      -- 8: t95 := Op.extract t87 0
          have hK := fun v w' h1 h2 => hK0 v w' h1 h2 (fun j f v' h _ => by omega)
          obtain ⟨w87, h87, r87⟩ := hp 7 (by decide)
          have e87 : (ac.tmps[87]?).getD undef = .tuple #[Vec.E an.e, .bool an.is, .int .i64 an.err] := (ha 87 (by decide)).trans h87
          clear h87
          clear ha hp
          refine Reg.Op1.plain rfl ?_
          go_wp2
          exact ⟨rfl, hK _ _ rfl (Reg.Wr.same _)⟩
        · intro val ac u hR hp hpq ha K hK0      -- 9: t96 := Op.extract t87 1
          have hK := fun v w' h1 h2 => hK0 v w' h1 h2 (fun j f v' h _ => by omega)
          obtain ⟨w87, h87, r87⟩ := hp 7 (by decide)
          have e87 : (ac.tmps[87]?).getD undef = .tuple #[Vec.E an.e, .bool an.is, .int .i64 an.err] := (ha 87 (by decide)).trans h87
          clear h87
          clear ha hp
          refine Reg.Op1.plain rfl ?_
          go_wp2
          exact ⟨rfl, hK _ _ rfl (Reg.Wr.same _)⟩
        · intro val ac u hR hp hpq ha K hK0      -- 10: t97 := Op.extract t87 2
          have hK := fun v w' h1 h2 => hK0 v w' h1 h2 (fun j f v' h _ => by omega)
          obtain ⟨w87, h87, r87⟩ := hp 7 (by decide)
          have e87 : (ac.tmps[87]?).getD undef = .tuple #[Vec.E an.e, .bool an.is, .int .i64 an.err] := (ha 87 (by decide)).trans h87
          clear h87
          clear ha hp
          refine Reg.Op1.plain rfl ?_
          go_wp2
          exact ⟨rfl, hK _ _ rfl (Reg.Wr.same _)⟩
        · intro val ac u hR hp hpq ha K hK0      -- 11: t18 := Op.alloc 40
          have hK := fun v w' h1 h2 => hK0 v w' h1 h2 (fun j f v' h _ => by omega)
          clear ha hp
          refine Reg.Op1.plain rfl ?_
          have hbu : wc.heap.size ≤ u.heap.size := (Reg.Wr.all hR).size
          go_wp2
          exact ⟨rfl, hK _ _ ⟨u.heap.size, rfl, hbu, Mem.Bx.new u 40 (entCells ent0).toArray rfl rfl⟩ (Reg.Wr.quiet ((Mem.Keeps.refl _ u).alloc _))⟩
        · intro val ac u hR hp hpq ha K hK0      -- 12: Op.store 40 t18 t95
          have hK := fun v w' h1 h2 => hK0 v w' h1 h2 (fun j f v' h _ => by omega)
          obtain ⟨w18, h18, r18⟩ := hp 11 (by decide)
          have e18 : (ac.tmps[18]?).getD undef = val 11 := ha 18 (by decide)
          obtain ⟨w95, h95, r95⟩ := hp 8 (by decide)
          have e95 : (ac.tmps[95]?).getD undef = Vec.E an.e := (ha 95 (by decide)).trans h95
          clear h95
          clear ha hp
          refine Reg.Op1.plain rfl ?_
          obtain ⟨s, hv, hs, hbx⟩ := h18
          have hv7 := hv
          rw [hv] at e18
          have hbx' : EBx u s ent0 := hbx.keeps (Reg.Wr.not1 r18 (by decide +kernel)) (fun h => h.elim id id)
          refine Mem.store_agg _ _ entry_agg s (entCells ent0) (entCells an.e) (Reg.eval_of e18) (Reg.eval_of e95) hbx' (entCells_length _) (ent_one _) ?_
          intro w' hb hk hs'
          exact ⟨rfl, hK undef _ ⟨s, hv7, hs, hb⟩ (Reg.Wr.does1 (hk.mono (fun i h _ => by show wc.heap.size ≤ i; omega)))⟩
        · intro val ac u hR hp hpq ha K hK0      -- 13: t19 := Op.assign t96
          have hK := fun v w' h1 h2 => hK0 v w' h1 h2 (fun j f v' h _ => by omega)
          obtain ⟨w96, h96, r96⟩ := hp 9 (by decide)
          have e96 : (ac.tmps[96]?).getD undef = .bool an.is := (ha 96 (by decide)).trans h96
          clear h96
          clear ha hp
          refine Reg.Op1.plain rfl ?_
          go_wp2
          exact ⟨rfl, hK _ _ rfl (Reg.Wr.same _)⟩
        · intro val ac u hR hp hpq ha K hK0      -- 14: t20 := Op.assign t97
          have hK := fun v w' h1 h2 => hK0 v w' h1 h2 (fun j f v' h _ => by omega)
          obtain ⟨w97, h97, r97⟩ := hp 10 (by decide)
          have e97 : (ac.tmps[97]?).getD undef = .int .i64 an.err := (ha 97 (by decide)).trans h97
          clear h97
          clear ha hp
          refine Reg.Op1.plain rfl ?_
          go_wp2
          exact ⟨rfl, hK _ _ rfl (Reg.Wr.same _)⟩
      intro val u hR H hZ
      obtain ⟨_, hva, _⟩ := H 13 (by decide)
      have hva : val 13 = .bool an.is := hva
      obtain ⟨_, hvb, _⟩ := H 14 (by decide)
      have hvb : val 14 = .int .i64 an.err := hvb
      obtain ⟨wA, ⟨s, hv7, hs, hb⟩, rA⟩ := H 12 (by decide)
      have hv7 : val 11 = .pointer (some ⟨s, 0, none⟩) := hv7
      have hq : Mem.Keeps (fun y => wc.heap.size ≤ y ∨ False ∨ False) wc u := (Mem.Keeps.refl (fun y => wc.heap.size ≤ y ∨ False ∨ False) wc).drew.trans (Reg.Wr.all hR) (fun _ h _ => h)
      have HBwd : Hid (Below wc.heap.size wc u) := hq.below (fun y h => by rcases h with h | h | h <;> first | exact h | exact h.elim) (Nat.le_refl _)
      have HEwd : Hid (EBx u s an.e) := hb.keeps (Reg.Wr.not1 rA (by decide +kernel)) (fun h => h.elim id id)
      simp only [List.map_cons, List.map_nil, Reg.lay, Act.put, List.setIfInBounds_toArray, List.set_cons_succ, List.set_cons_zero, Nat.reduceAdd, hva, hvb, hv7]
      clear hR H hZ hq hb rA hv7 hva hvb
      obtain ⟨wd, hwd⟩ : ∃ z, z = u := ⟨_, rfl⟩
      subst hwd
      obtain ⟨gs, hgs⟩ : ∃ z, z = s := ⟨_, rfl⟩
      subst hgs
      have HTd := Lib.hid (HTc.out.below HBwd.out)
      have HBd : Hid (Below wa.heap.size wa wd) := HBc.out.trans (HBwd.out.mono HBc.out.size)
      have HCd : Hid (CBx wd gt tt) := HCT.out.below HBwd.out HCT.out.lt
      have x4 : wd.cell? ⟨bk, ok + j, none⟩ = some (.string q) := (HBwd.out.cell (p := ⟨bk, ok + j, none⟩) HQC.out.1).trans HQC.out.2
      have hbd : bk < wd.heap.size := Nat.lt_of_lt_of_le HQC.out.1 HBwd.out.size
      have X4 := Lib.hid x4
      clear x4 HQC HCT HTc HTM HBc HBwd
      obtain ⟨cv, hcv⟩ : ∃ cv, coversC tt (maxC mkb col) = cv := ⟨_, rfl⟩
      have HCV := Lib.hid hcv
      clear hcv
      go_upto_region 20 with fail
      refine Reg.wp_region_rel (by kernel_rfl) 137 5 rfl rfl (by kernel_rfl) (Reg.Adds) (Reg.Adds.refl) (Reg.Adds.trans)
        (fun i v u => match i with
          | 0 => v = Vec.C tt
          | 1 => v = .pointer (some ⟨ga, 0, none⟩)
          | 2 => v = Vec.C (maxC mkb col)
          | 3 => v = .bool cv
          | 4 => v = .bool (!cv)
          | _ => True) ?_ ?_
      · refine Reg.Steps.cons ?_ (Reg.Steps.cons ?_ (Reg.Steps.cons ?_ (Reg.Steps.cons ?_ (Reg.Steps.cons ?_ (Reg.Steps.nil _)))))
        · intro val ac u hR hp ha K hK      -- 0: t98 := Op.load 26 t7
          have e7 : (ac.tmps[7]?).getD undef = .pointer (some ⟨gt, 0, none⟩) := ha 7 (by decide)
          clear ha hp
          refine Reg.Op1.plain rfl ?_
          have hCu : CBx u gt tt := Mem.Bx.below (w := wd.drew) HCd.out hR HCd.out.lt
          refine Mem.load_agg _ _ col_agg gt 0 (colCells tt) (Reg.eval_of e7) (colCells_length _) (fun j u' hu => by rw [Nat.zero_add]; exact hCu.cell hu) ?_
          exact ⟨rfl, hK _ _ rfl (fun j k _ _ => Reg.Adds.refl _ _ _)⟩
        · intro val ac u hR hp ha K hK      -- 1: t99 := Op.move t9
          have e9 : (ac.tmps[9]?).getD undef = .pointer (some ⟨ga, 0, none⟩) := ha 9 (by decide)
          clear ha hp
          refine Reg.Op1.plain rfl ?_
          go_wp2
          exact ⟨rfl, hK _ _ rfl (fun j k _ _ => Reg.Adds.refl _ _ _)⟩
        · intro val ac u hR hp ha K hK      -- 2: t100 := Op.call { value (Operand.func 24), args := #[t99], argTypes := #[30] }
          obtain ⟨w99, h99, r99⟩ := hp 1 (by decide)
          have e99 : (ac.tmps[99]?).getD undef = .pointer (some ⟨ga, 0, none⟩) := (ha 99 (by decide)).trans h99
          clear h99
          clear ha hp
          refine Reg.Op1.plain rfl ?_
          have hM := HTd.out.a.below ((Below.refl _ wd).drew.trans hR)
          go_wp2_with fail
          refine (storeMark_any hM.S).mono ?_
          rintro x9 w' ⟨rfl, hbw9⟩
          go_wp2_with fail
          exact ⟨rfl, hK _ _ rfl (fun j k _ _ => hbw9)⟩
        · intro val ac u hR hp ha K hK      -- 3: t101 := Op.call { value (Operand.func 23), args := #[t98, t100], argTypes := #[26, 26] }
          obtain ⟨w98, h98, r98⟩ := hp 0 (by decide)
          have e98 : (ac.tmps[98]?).getD undef = Vec.C tt := (ha 98 (by decide)).trans h98
          clear h98
          obtain ⟨w100, h100, r100⟩ := hp 2 (by decide)
          have e100 : (ac.tmps[100]?).getD undef = Vec.C (maxC mkb col) := (ha 100 (by decide)).trans h100
          clear h100
          clear ha hp
          refine Reg.Op1.plain rfl ?_
          go_wp2_with fail
          refine (refCoversC_any tt (maxC mkb col) u).mono ?_
          rintro x9 w' ⟨rfl, hbw9⟩
          rw [HCV.out]
          go_wp2_with fail
          exact ⟨rfl, hK _ _ rfl (fun j k _ _ => hbw9)⟩
        · intro val ac u hR hp ha K hK      -- 4: t102 := Op.unOp UnOp.not 4 t101
          obtain ⟨w101, h101, r101⟩ := hp 3 (by decide)
          have e101 : (ac.tmps[101]?).getD undef = .bool cv := (ha 101 (by decide)).trans h101
          clear h101
          clear ha hp
          refine Reg.Op1.plain rfl ?_
          go_wp2
          exact ⟨rfl, hK _ _ rfl (fun j k _ _ => Reg.Adds.refl _ _ _)⟩
      intro val u hR H
      obtain ⟨_, hv, _⟩ := H 4 (by decide)
      have hv : val 4 = .bool (!cv) := hv
      have HBe : Hid (Below wd.heap.size wd u) := (Below.refl _ wd).drew.trans hR
      simp only [List.map_cons, List.map_nil, Reg.lay, Act.put, List.setIfInBounds_toArray, List.set_cons_succ, List.set_cons_zero, Nat.reduceAdd, hv]
      clear hR H hv
      obtain ⟨we, hwe⟩ : ∃ z, z = u := ⟨_, rfl⟩
      subst hwe
      have HTe := Lib.hid (HTd.out.below HBe.out)
      have HBE : Hid (Below wa.heap.size wa we) := HBd.out.trans (HBe.out.mono HBd.out.size)
      have HCT : Hid (CBx we gt tt) := HCd.out.below HBe.out HCd.out.lt
      have HES : Hid (EBx we gs an.e) := HEwd.out.below HBe.out HEwd.out.lt
      have HQC : Hid (bk < we.heap.size ∧ we.cell? ⟨bk, ok + j, none⟩ = some (.string q)) := ⟨Nat.lt_of_lt_of_le hbd HBe.out.size, (HBe.out.cell (p := ⟨bk, ok + j, none⟩) hbd).trans X4.out⟩
      clear HTd HBd HCd HEwd X4 HBe hbd
      cases cv with
      | false =>
        have hae : an = ⟨ent0, false, 60⟩ := by rw [← HAN.out]; exact asOf_gone _ _ HCV.out
        subst hae
        have e2 : ∀ W, (binOp .neq 40 (.agg (entCells ent0).toArray) (.agg #[.int .i64 0, .int .i64 0, .int .i64 0, .int .i64 0, .int .i64 0, .int .i64 0, .string ⟨#[]⟩, .string ⟨#[]⟩, .bool false, .int .i64 0, .int .i64 0, .int .i64 0, .int .i64 0, .int .i64 0, .int .i64 0, .int .i64 0, .int .i64 0, .int .i64 0, .int .i64 0, .int .i64 0])).run Try.prog W = .ok (.bool false) W := fun W => by
          have h9 := neq_ent ent0 ent0 W
          rw [eqEnt_iff.2 rfl] at h9
          exact h9
        clear HCV HAN
        go_wp2_with ((with_reducible refine Mem.load_aggG _ _ entry_agg gs 0 (entCells ent0) ?hwa ?hxa (entCells_length _) (fun j u hu => by rw [Nat.zero_add]; exact HES.out.cell hu) ?_); ((case hwa => rfl); (case hxa => exact rfl)))
        go_roundw
        case rel => exact ⟨⟨j + 1, by omega, by go_num, HBr.out.trans (HBE.out.mono HBr.out.size)⟩⟩
        case measure => simp [intOf]; omega
      | true =>
        have hao : asOf (states rsb) mkb q tt = an := by rw [← HAN.out, HSC.out]; exact (asOf_collect _ _ HCV.out).symm
        clear HCV HAN HLQ
        have HAN := Lib.hid hao
        have HTM := Lib.hid HTe.out.b
        have HLQ := HHB
        go_upto_region 23 with fail
        refine Reg.wp_region_z (by kernel_rfl) 137 15 rfl rfl (by kernel_rfl) 90 91 (by decide) (12) (fun y => we.heap.size ≤ y) (0) (fun _ => False) (0) (fun _ => False)
          (fun i f v u => match i with
            | 0 => v = .pointer (some ⟨gb, 0, none⟩)
            | 1 => v = .slice (some ⟨bk, ok, none⟩) ks.length ck
            | 2 => v = .int .i64 j
            | 3 => v = .pointer (some ⟨bk, ok + j, none⟩)
            | 4 => v = .string q
            | 5 => v = Vec.C tt
            | 6 => v = .tuple #[Vec.E an.e, .bool an.is, .int .i64 an.err]
            | 7 => v = .tuple #[Vec.E an.e, .bool an.is, .int .i64 an.err]
            | 8 => v = Vec.E an.e
            | 9 => v = .bool an.is
            | 10 => v = .int .i64 an.err
            | 11 => ∃ s, v = .pointer (some ⟨s, 0, none⟩) ∧ we.heap.size ≤ s ∧ EBx u s ent0
            | 12 => ∃ s, f 21 = .pointer (some ⟨s, 0, none⟩) ∧ we.heap.size ≤ s ∧ EBx u s an.e
            | 13 => v = .bool an.is
            | 14 => v = .int .i64 an.err
            | _ => True) ?_ ?_
        · refine Reg.StepsZ.cons ?_ (Reg.StepsZ.cons ?_ (Reg.StepsZ.cons ?_ (Reg.StepsZ.cons ?_ (Reg.StepsZ.cons ?_ (Reg.StepsZ.cons ?_ (Reg.StepsZ.cons ?_ (Reg.StepsZ.cons ?_ (Reg.StepsZ.cons ?_ (Reg.StepsZ.cons ?_ (Reg.StepsZ.cons ?_ (Reg.StepsZ.cons ?_ (Reg.StepsZ.cons ?_ (Reg.StepsZ.cons ?_ (Reg.StepsZ.cons ?_ (Reg.StepsZ.nil _)))))))))))))))
          · intro val ac u hR hp hpq ha K hK0      -- 0: t114 := Op.move t10
            have hK := fun v w' h1 h2 => hK0 v w' h1 h2 (fun j f v' h _ => by omega)
            have e10 : (ac.tmps[10]?).getD undef = .pointer (some ⟨gb, 0, none⟩) := ha 10 (by decide)
            clear ha hp
            refine Reg.Op1.plain rfl ?_
            go_wp2
            exact ⟨rfl, hK _ _ rfl (Reg.Wr.same _)⟩
          · intro val ac u hR hp hpq ha K hK0      -- 1: t115 := Op.move t12
            have hK := fun v w' h1 h2 => hK0 v w' h1 h2 (fun j f v' h _ => by omega)
            have e12 : (ac.tmps[12]?).getD undef = .slice (some ⟨bk, ok, none⟩) ks.length ck := ha 12 (by decide)
            clear ha hp
            refine Reg.Op1.plain rfl ?_
            go_wp2
            exact ⟨rfl, hK _ _ rfl (Reg.Wr.same _)⟩
          · intro val ac u hR hp hpq ha K hK0      -- 2: t116 := Op.move t13
            have hK := fun v w' h1 h2 => hK0 v w' h1 h2 (fun j f v' h _ => by omega)
            have e13 : (ac.tmps[13]?).getD undef = .int .i64 j := ha 13 (by decide)
            clear ha hp
            refine Reg.Op1.plain rfl ?_
            go_wp2
            exact ⟨rfl, hK _ _ rfl (Reg.Wr.same _)⟩
          · intro val ac u hR hp hpq ha K hK0      -- 3: t117 := Op.indexAddr 45 t115 t116
            have hK := fun v w' h1 h2 => hK0 v w' h1 h2 (fun j f v' h _ => by omega)
            obtain ⟨w115, h115, r115⟩ := hp 1 (by decide)
            have e115 : (ac.tmps[115]?).getD undef = .slice (some ⟨bk, ok, none⟩) ks.length ck := (ha 115 (by decide)).trans h115
            clear h115
            obtain ⟨w116, h116, r116⟩ := hp 2 (by decide)
            have e116 : (ac.tmps[116]?).getD undef = .int .i64 j := (ha 116 (by decide)).trans h116
            clear h116
            clear ha hp
            refine Reg.Op1.plain rfl ?_
            go_wp2
            exact ⟨rfl, hK _ _ rfl (Reg.Wr.same _)⟩
          · intro val ac u hR hp hpq ha K hK0      -- 4: t118 := Op.load 9 t117
            have hK := fun v w' h1 h2 => hK0 v w' h1 h2 (fun j f v' h _ => by omega)
            obtain ⟨w117, h117, r117⟩ := hp 3 (by decide)
            have e117 : (ac.tmps[117]?).getD undef = .pointer (some ⟨bk, ok + j, none⟩) := (ha 117 (by decide)).trans h117
            clear h117
            clear ha hp
            refine Reg.Op1.plain rfl ?_
            have hq : Mem.Keeps (fun y => we.heap.size ≤ y ∨ False ∨ False) we u := (Mem.Keeps.refl (fun y => we.heap.size ≤ y ∨ False ∨ False) we).drew.trans (Reg.Wr.all hR) (fun _ h _ => h)
            have hne : ∀ y, y < we.heap.size → ¬ (we.heap.size ≤ y ∨ False ∨ False) := fun y hy h => by rcases h with h | h | h <;> first | omega | exact h
            have z0 := (hq.cell (p := ⟨bk, ok + j, none⟩) (HQC.out.1) (hne bk HQC.out.1)).trans HQC.out.2
            go_wp2
            exact ⟨rfl, hK _ _ rfl (Reg.Wr.same _)⟩
          · intro val ac u hR hp hpq ha K hK0      -- 5: t119 := Op.load 26 t7
            have hK := fun v w' h1 h2 => hK0 v w' h1 h2 (fun j f v' h _ => by omega)
            have e7 : (ac.tmps[7]?).getD undef = .pointer (some ⟨gt, 0, none⟩) := ha 7 (by decide)
            clear ha hp
            refine Reg.Op1.plain rfl ?_
            have hq : Mem.Keeps (fun y => we.heap.size ≤ y ∨ False ∨ False) we u := (Mem.Keeps.refl (fun y => we.heap.size ≤ y ∨ False ∨ False) we).drew.trans (Reg.Wr.all hR) (fun _ h _ => h)
            have hCu := HCT.out.keeps hq (fun h => by have := HCT.out.lt; rcases h with h | h | h <;> first | omega | exact h)
            refine Mem.load_agg _ _ col_agg gt 0 (colCells tt) (Reg.eval_of e7) (colCells_length _) (fun j u' hu => by rw [Nat.zero_add]; exact hCu.cell hu) ?_
            exact ⟨rfl, hK _ _ rfl (Reg.Wr.same _)⟩
          · intro val ac u hR hp hpq ha K hK0      -- 6: t120 := Op.call { value (Operand.func 22), args := #[t114, t118, t119], argTypes := #[30, 9, 26] }
            have hK := fun v w' h1 h2 => hK0 v w' h1 h2 (fun j f v' h _ => by omega)
            obtain ⟨w114, h114, r114⟩ := hp 0 (by decide)
            have e114 : (ac.tmps[114]?).getD undef = .pointer (some ⟨gb, 0, none⟩) := (ha 114 (by decide)).trans h114
            clear h114
            obtain ⟨w118, h118, r118⟩ := hp 4 (by decide)
            have e118 : (ac.tmps[118]?).getD undef = .string q := (ha 118 (by decide)).trans h118
            clear h118
            obtain ⟨w119, h119, r119⟩ := hp 5 (by decide)
            have e119 : (ac.tmps[119]?).getD undef = Vec.C tt := (ha 119 (by decide)).trans h119
            clear h119
            clear ha hp
            refine Reg.Op1.plain rfl ?_
            have hq : Mem.Keeps (fun _ => False ∨ False) we u := (Mem.Keeps.refl (fun _ => False ∨ False) we).drew.trans (Reg.Wr.not1 hR (by decide +kernel)) (fun _ h _ => h)
            have hM := HTM.out.keeps hq (fun _ _ h => h.elim id id)
            go_wp2_with fail
            refine (storeAsOf_any hM.S HQK.out hM.G.hdc HLQ.out tt).mono ?_
            rintro x9 w' ⟨rfl, hbw9⟩
            rw [HAN.out]
            go_wp2_with fail
            exact ⟨rfl, hK _ _ rfl (Reg.Wr.below hbw9)⟩
          · intro val ac u hR hp hpq ha K hK0      -- 7: t113 := Op.move t120
            have hK := fun v w' h1 h2 => hK0 v w' h1 h2 (fun j f v' h _ => by omega)
            obtain ⟨w120, h120, r120⟩ := hp 6 (by decide)
            have e120 : (ac.tmps[120]?).getD undef = .tuple #[Vec.E an.e, .bool an.is, .int .i64 an.err] := (ha 120 (by decide)).trans h120
            clear h120
            clear ha hp
            refine Reg.Op1.plain rfl ?_
            go_wp2
            exact ⟨rfl, hK _ _ rfl (Reg.Wr.same _)⟩
          · intro val ac u hR hp hpq ha K hK0      -- 8: t121 := Op.extract t113 0
            have hK := fun v w' h1 h2 => hK0 v w' h1 h2 (fun j f v' h _ => by omega)
            obtain ⟨w113, h113, r113⟩ := hp 7 (by decide)
            have e113 : (ac.tmps[113]?).getD undef = .tuple #[Vec.E an.e, .bool an.is, .int .i64 an.err] := (ha 113 (by decide)).trans h113
            clear h113
            clear ha hp
            refine Reg.Op1.plain rfl ?_
            go_wp2
            exact ⟨rfl, hK _ _ rfl (Reg.Wr.same _)⟩
          · intro val ac u hR hp hpq ha K hK0      -- 9: t122 := Op.extract t113 1
            have hK := fun v w' h1 h2 => hK0 v w' h1 h2 (fun j f v' h _ => by omega)
            obtain ⟨w113, h113, r113⟩ := hp 7 (by decide)
            have e113 : (ac.tmps[113]?).getD undef = .tuple #[Vec.E an.e, .bool an.is, .int .i64 an.err] := (ha 113 (by decide)).trans h113
            clear h113
            clear ha hp
            refine Reg.Op1.plain rfl ?_
            go_wp2
            exact ⟨rfl, hK _ _ rfl (Reg.Wr.same _)⟩
          · intro val ac u hR hp hpq ha K hK0      -- 10: t123 := Op.extract t113 2
            have hK := fun v w' h1 h2 => hK0 v w' h1 h2 (fun j f v' h _ => by omega)
            obtain ⟨w113, h113, r113⟩ := hp 7 (by decide)
            have e113 : (ac.tmps[113]?).getD undef = .tuple #[Vec.E an.e, .bool an.is, .int .i64 an.err] := (ha 113 (by decide)).trans h113
            clear h113
            clear ha hp
            refine Reg.Op1.plain rfl ?_
            go_wp2
            exact ⟨rfl, hK _ _ rfl (Reg.Wr.same _)⟩
          · intro val ac u hR hp hpq ha K hK0      -- 11: t21 := Op.alloc 40
            have hK := fun v w' h1 h2 => hK0 v w' h1 h2 (fun j f v' h _ => by omega)
            clear ha hp
            refine Reg.Op1.plain rfl ?_
            have hbu : we.heap.size ≤ u.heap.size := (Reg.Wr.all hR).size
            go_wp2
            exact ⟨rfl, hK _ _ ⟨u.heap.size, rfl, hbu, Mem.Bx.new u 40 (entCells ent0).toArray rfl rfl⟩ (Reg.Wr.quiet ((Mem.Keeps.refl _ u).alloc _))⟩
          · intro val ac u hR hp hpq ha K hK0      -- 12: Op.store 40 t21 t121
            have hK := fun v w' h1 h2 => hK0 v w' h1 h2 (fun j f v' h _ => by omega)
            obtain ⟨w21, h21, r21⟩ := hp 11 (by decide)
            have e21 : (ac.tmps[21]?).getD undef = val 11 := ha 21 (by decide)
            obtain ⟨w121, h121, r121⟩ := hp 8 (by decide)
            have e121 : (ac.tmps[121]?).getD undef = Vec.E an.e := (ha 121 (by decide)).trans h121
            clear h121
            clear ha hp
            refine Reg.Op1.plain rfl ?_
            obtain ⟨s, hv, hs, hbx⟩ := h21
            have hv7 := hv
            rw [hv] at e21
            have hbx' : EBx u s ent0 := hbx.keeps (Reg.Wr.not1 r21 (by decide +kernel)) (fun h => h.elim id id)
            refine Mem.store_agg _ _ entry_agg s (entCells ent0) (entCells an.e) (Reg.eval_of e21) (Reg.eval_of e121) hbx' (entCells_length _) (ent_one _) ?_
            intro w' hb hk hs'
            exact ⟨rfl, hK undef _ ⟨s, hv7, hs, hb⟩ (Reg.Wr.does1 (hk.mono (fun i h _ => by show we.heap.size ≤ i; omega)))⟩
          · intro val ac u hR hp hpq ha K hK0      -- 13: t22 := Op.assign t122
            have hK := fun v w' h1 h2 => hK0 v w' h1 h2 (fun j f v' h _ => by omega)
            obtain ⟨w122, h122, r122⟩ := hp 9 (by decide)
            have e122 : (ac.tmps[122]?).getD undef = .bool an.is := (ha 122 (by decide)).trans h122
            clear h122
            clear ha hp
            refine Reg.Op1.plain rfl ?_
            go_wp2
            exact ⟨rfl, hK _ _ rfl (Reg.Wr.same _)⟩
          · intro val ac u hR hp hpq ha K hK0      -- 14: t23 := Op.assign t123
            have hK := fun v w' h1 h2 => hK0 v w' h1 h2 (fun j f v' h _ => by omega)
            obtain ⟨w123, h123, r123⟩ := hp 10 (by decide)
            have e123 : (ac.tmps[123]?).getD undef = .int .i64 an.err := (ha 123 (by decide)).trans h123
            clear h123
            clear ha hp
            refine Reg.Op1.plain rfl ?_
            go_wp2
            exact ⟨rfl, hK _ _ rfl (Reg.Wr.same _)⟩
        intro val u hR H hZ
        obtain ⟨_, hva, _⟩ := H 13 (by decide)
        have hva : val 13 = .bool an.is := hva
        obtain ⟨_, hvb, _⟩ := H 14 (by decide)
        have hvb : val 14 = .int .i64 an.err := hvb
        obtain ⟨wA, ⟨s, hv7, hs, hb⟩, rA⟩ := H 12 (by decide)
        have hv7 : val 11 = .pointer (some ⟨s, 0, none⟩) := hv7
        have hq : Mem.Keeps (fun y => we.heap.size ≤ y ∨ False ∨ False) we u := (Mem.Keeps.refl (fun y => we.heap.size ≤ y ∨ False ∨ False) we).drew.trans (Reg.Wr.all hR) (fun _ h _ => h)
        have HBwf : Hid (Below we.heap.size we u) := hq.below (fun y h => by rcases h with h | h | h <;> first | exact h | exact h.elim) (Nat.le_refl _)
        have HEwf : Hid (EBx u s an.e) := hb.keeps (Reg.Wr.not1 rA (by decide +kernel)) (fun h => h.elim id id)
        simp only [List.map_cons, List.map_nil, Reg.lay, Act.put, List.setIfInBounds_toArray, List.set_cons_succ, List.set_cons_zero, Nat.reduceAdd, hva, hvb, hv7]
        clear hR H hZ hq hb rA hv7 hva hvb
        obtain ⟨wf, hwf⟩ : ∃ z, z = u := ⟨_, rfl⟩
        subst hwf
        obtain ⟨gu, hgu⟩ : ∃ z, z = s := ⟨_, rfl⟩
        subst hgu
        have HES2 : Hid (EBx wf gs an.e) := HES.out.below HBwf.out HES.out.lt
        have HBF : Hid (Below wa.heap.size wa wf) := HBE.out.trans (HBwf.out.mono HBE.out.size)
        have e3 : ∀ W, (binOp .neq 40 (.agg (entCells an.e).toArray) (.agg (entCells an.e).toArray)).run Try.prog W = .ok (.bool false) W := fun W => by rw [neq_ent, eqEnt_iff.2 rfl]; rfl
        have b3 : (an.is != an.is) = false := by cases an.is <;> rfl
        have b4 : (an.err != an.err) = false := by simp
        go_wp2_with (first | ((with_reducible refine Mem.load_agg _ _ entry_agg gs 0 (entCells an.e) ?hxg (entCells_length _) (fun j u hu => by rw [Nat.zero_add]; exact HES2.out.cell hu) ?_); (case hxg => exact rfl)) | ((with_reducible refine Mem.load_agg _ _ entry_agg gu 0 (entCells an.e) ?hxh (entCells_length _) (fun j u hu => by rw [Nat.zero_add]; exact HEwf.out.cell hu) ?_); (case hxh => exact rfl)))
        go_roundw
        case rel => exact ⟨⟨j + 1, by omega, by go_num, HBr.out.trans (HBF.out.mono HBr.out.size)⟩⟩
        case measure => simp [intOf]; omega
    · obtain rfl : j = ks.length := by omega
      go_wp2
      go_ret
      exact ⟨rfl, HB2.out.trans ((HBX.out.trans (HBr.out.mono HBX.out.size)).mono HB2.out.size)⟩
set_option maxRecDepth 20000 in
theorem opened {H : Type} (enc : TypeId × Value → H) (W : World) (base : Nat) (v0 v1 v2 v3 : Value) {d0 d1 d2 d3 : DataW H} {p0 p1 p2 p3 : List MemPlace}
    (o0 : Value.okWide Try.prog W .any base 3 v0) (o1 : Value.okWide Try.prog W .any base 29 v1) (o2 : Value.okWide Try.prog W .any base 26 v2) (o3 : Value.okWide Try.prog W .any base 26 v3)
    (k0 : DataW.Trod enc Try.prog W 0 (fun _ => true) true 3 v0 d0 p0) (k1 : DataW.Trod enc Try.prog W 0 (fun _ => true) true 29 v1 d1 p1) (k2 : DataW.Trod enc Try.prog W 0 (fun _ => true) true 26 v2 d2 p2) (k3 : DataW.Trod enc Try.prog W 0 (fun _ => true) true 26 v3 d3 p3)
    (z0 : (d0.weights Try.prog 3).all (· ≤ reachBytes) = true) (z1 : (d1.weights Try.prog 29).all (· ≤ reachBytes) = true) (z2 : (d2.weights Try.prog 26).all (· ≤ reachBytes) = true) (z3 : (d3.weights Try.prog 26).all (· ≤ reachBytes) = true) :
    Calls Try.prog 5 #[v0, v1, v2, v3] W fun e w' => e = .returned (.bool true) ∧ Below W.heap.size W w' := by
  obtain ⟨n, rfl, _⟩ := open_num o0 k0
  obtain ⟨A, c, acs, rfl, h1, h2, h3, h4⟩ := open_acts o1 k1 z1
  obtain ⟨col, rfl⟩ := open_col o2 k2
  obtain ⟨tt, rfl⟩ := open_col o3 k3
  exact walk n A c acs col tt W h3 h4 (by omega)
end storeCollectsOpen
end Go.Proofs.Ytfafehffnjbhnaa
