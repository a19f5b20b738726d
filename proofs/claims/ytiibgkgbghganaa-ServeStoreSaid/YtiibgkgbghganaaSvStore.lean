/- The walk of ServeStore. Nothing is asked but what the row's form asks of its arguments. -/
import Derived.Test.YtiibgkgbghganaaSvM1
import Derived.Test.YtiibgkgbghganaaSv7
import Derived.Test.YtiibgkgbghganaaSvP
set_option maxRecDepth 8000
namespace Go.Proofs.Ytiibgkgbghganaa
open Go.ChangeShapes Go.WideShapes Go.ChangeAt Go.RowKit
set_option linter.unusedVariables false
set_option linter.unusedSimpArgs false
namespace serveStoreOpen
open Vec
set_option maxRecDepth 20000 in
set_option maxHeartbeats 8000000 in
theorem walk (rng : Int) (A : Option Addr) (c : Nat) (es : List Ent) (key : ByteArray) (av : Vc) (mark : Col) (w : World) (hr : Mem.Rd w w.heap.size A (es.flatMap entCells)) (hn : es.length ≤ 8796093022208) (hd : ∀ e ∈ es, EntIn e) (hks : key.size ≤ 140737488351232) :
    Calls Try.prog 7 #[.int .i64 rng, .slice A es.length c, .string key, Vec.V av, Vec.C mark] w fun e w' => e = .returned (.bool true) ∧ Below w.heap.size w w' := by
  have HR := Lib.hid hr
  have HD := Lib.hid hd
  clear hr hd
  go_enter Try.func7, Try.ntmps7
  go_upto_region 1 with fail
  refine Reg.wp_gen (fun w0 => VBx w0 w.heap.size av ∧ Vec.CBx w0 (w.heap.size + 1) mark ∧ Below w.heap.size w w0) ⟨?_, ?_, ?_⟩ ?_
  · exact (Mem.Bx.new w 31 (vcCells av).toArray rfl rfl).below (Reg.below_new _ _) (by simp)
  · exact Mem.Bx.new (w.alloc _) 37 (colCells mark).toArray rfl (by simp)
  · exact (Reg.below_new _ _).alloc (by simp) _
  rintro w0 ⟨hV0, hC0, hb0⟩
  have HV0 := Lib.hid hV0
  have HC0 := Lib.hid hC0
  have HB0 := Lib.hid hb0
  obtain ⟨gv, hgv⟩ : ∃ gv, w.heap.size = gv := ⟨_, rfl⟩
  obtain ⟨gc, hgc⟩ : ∃ gc, w.heap.size + 1 = gc := ⟨_, rfl⟩
  rw [hgv] at hgc HV0 HC0 ⊢
  rw [hgc] at HC0 ⊢
  clear hV0 hC0 hb0
  go_wp2_with fail
  refine (serveAble_any w0).mono ?_
  rintro x w1 ⟨rfl, hb1⟩
  have HB1 := Lib.hid (HB0.out.trans (hb1.mono HB0.out.size))
  have HV1 : Hid (VBx w1 gv av) := HV0.out.below hb1 HV0.out.lt
  have HC1 : Hid (Vec.CBx w1 gc mark) := HC0.out.below hb1 HC0.out.lt
  clear hb1 HV0 HC0 HB0
  go_wp2_with fail
  refine (much_any A c es w w1 HR.out (by omega) HD.out HB1.out).mono ?_
  rintro x w2 ⟨b, rfl, hbn, hb2⟩
  have HB2 := Lib.hid (HB1.out.trans (hb2.mono HB1.out.size))
  have HV2 : Hid (VBx w2 gv av) := HV1.out.below hb2 HV1.out.lt
  have HC2 : Hid (Vec.CBx w2 gc mark) := HC1.out.below hb2 HC1.out.lt
  clear hb2 HV1 HC1 HB1
  by_cases hyes : b = true ∨ 1000 < key.size
  · rcases hyes with rfl | hk1
    · go_wp2
      go_ret
      exact ⟨rfl, HB2.out⟩
    · have hkd : decide ((1000 : Int) < (key.size : Int)) = true := by simp; omega
      cases b
      · go_wp2
        go_ret
        exact ⟨rfl, HB2.out⟩
      · go_wp2
        go_ret
        exact ⟨rfl, HB2.out⟩
  obtain rfl : b = false := by cases b; rfl; exact absurd (.inl rfl) hyes
  have hkd : decide ((1000 : Int) < (key.size : Int)) = false := by simp; omega
  have hks2 : key.size ≤ 1000 := by omega
  have hn3 : es.length ≤ 300 := hbn rfl
  clear hyes hbn hn hks
  go_wp2_with fail
  refine (numbered_any rng A c es w.heap.size w2 (HR.out.below HB2.out) HB2.out.size (by omega)).mono ?_
  rintro x w3 ⟨K, A2, c2, hK, rfl, hO, hNB, hRE, hb3⟩
  have HB3 := Lib.hid (HB2.out.trans (hb3.mono HB2.out.size))
  have HV3 : Hid (VBx w3 gv av) := HV2.out.below hb3 HV2.out.lt
  have HC3 : Hid (Vec.CBx w3 gc mark) := HC2.out.below hb3 HC2.out.lt
  obtain ⟨ls, hls⟩ : ∃ ls, es.take K = ls := ⟨_, rfl⟩
  have hll : ls.length = K := by rw [← hls, List.length_take]; omega
  rw [hls] at hO hNB hRE
  subst hll
  have HO := Lib.hid hO
  have HNB := Lib.hid hNB
  have HRE := Lib.hid hRE
  have hK3 : ls.length ≤ 300 := by omega
  have hKc : ls.length ≤ c2 := hO.le
  have hol := ents_len ls
  have hoo := ents_one ls
  clear hO hNB hRE hls hK hkd hb3 HV2 HC2
  go_upto_region 7 with (go_at_call 17; refine (storeNew_any rng w3).mono ?_; rintro x w4 ⟨g, b, rfl, hA4, hb4, hg1, hg2⟩)
  have HM4 := Lib.hid (Sto.new_mine hA4 hg1 hg2)
  have HB4 := Lib.hid (HB3.out.trans (hb4.mono HB3.out.size))
  have HO4 : Hid (Mem.Own w4 33 20 A2 ls.length c2 (ls.flatMap entCells)) := HO.out.keeps (Mem.Keeps.of_below hb4) (fun _ _ h => h)
  have HV4 : Hid (VBx w4 gv av) := HV3.out.below hb4 HV3.out.lt
  have HC4 : Hid (Vec.CBx w4 gc mark) := HC3.out.below hb4 HC3.out.lt
  have hgw : gv < w3.heap.size ∧ gc < w3.heap.size := ⟨HV3.out.lt, HC3.out.lt⟩
  have ha2 : ∀ q, Mem.blk A2 = some q → q < w3.heap.size := fun q hq => HO.out.lt hq
  have HA2 := Lib.hid ha2
  have HB34 := Lib.hid hb4
  have hrd3 : Mem.Rd (w4.alloc (.cells #[] 33)) w4.heap.size A2 (ls.flatMap entCells) := HO4.out.rd.alloc (Nat.le_refl _) _
  clear hA4 hb4 hg1 hg2 HO HV3 HC3 ha2
  go_upto_region 8 with (first | (at_builtin; refine Mem.wpList_app0 _ rfl (.tmp 35) (.tmp 36) _ rfl entries_elem (some ⟨w4.heap.size, 0, none⟩) rfl w4.heap.size A2 ls.length c2 (ls.flatMap entCells) rfl ?_ (Mem.Own.lit w4 _ 20 #[] 0 rfl rfl (by simp [maxLen])) hrd3 hol hoo (by unfold maxLen; omega) (by omega); intro A1 c1 w5 hown hb5 hat5; have HO5 := Lib.hid hown; have HB5 : Hid (Below w4.heap.size w4 w5) := (Reg.below_new _ _).trans (hb5.mono (by simp)); have HF5 : Hid (Mem.From w4.heap.size A1) := hat5.elim (fun h => by rw [h]; exact Mem.From.some_ (Nat.le_refl _)) (fun h => by rw [h]; exact Mem.From.some_ (by simp)); clear hown hb5 hat5 hrd3) | (go_at_call 18; refine (storePut_any rng g b col0 [] A1 c1 ls w5 (HM4.out.S.below HB5.out) HM4.out.G HO5.out (fun q hq h => by have h1 := HF5.out.blk q hq; have h2 := HM4.out.S.lt h; omega) (by simp [Sto.lenS, Sto.states]; omega)).mono ?_; rintro x w6 ⟨rs6, rfl, h6⟩))
  have HM6 : Hid (Sto.Mine w3.heap.size w6 g b rng col0 rs6) := by
    obtain ⟨_, h2, h3, h4, h5⟩ := h6
    exact ⟨h2, h3, fun k hk => (h5 k hk).elim (HM4.out.a k) (fun h => Nat.le_trans HB34.out.size (Nat.le_trans HB5.out.size h))⟩
  have HS6 : Hid (Sto.states rs6 = (Sto.putL rng col0 [] ls).1) := h6.1
  have HB36 : Hid (Below w3.heap.size w3 w6) := (HB34.out.trans (HB5.out.mono HB34.out.size)).trans (h6.2.2.2.1.below HM4.out.a (Nat.le_trans HB34.out.size HB5.out.size))
  have hk6 : Mem.Keeps (fun q => w3.heap.size ≤ q) w4 w6 := ((Mem.Keeps.of_below HB5.out).mono (T := fun q => w3.heap.size ≤ q) (fun _ h _ => h.elim)).trans h6.2.2.2.1 (fun q h _ => HM4.out.a q h)
  have HO6 : Hid (Mem.Own w6 33 20 A2 ls.length c2 (ls.flatMap entCells)) := HO4.out.keeps hk6 (fun q hq h => by have := HA2.out q hq; omega)
  have HV6 : Hid (VBx w6 gv av) := HV4.out.keeps hk6 (by omega)
  have HC6 : Hid (Vec.CBx w6 gc mark) := HC4.out.keeps hk6 (by omega)
  have hl6 : Sto.lenS (Sto.states rs6) ≤ 300 := by
    rw [HS6.out]
    have h9 := Sto.put_le rng col0 [] ls
    have h0 : Sto.lenS [] = 0 := rfl
    omega
  have HCO := Lib.hid (storeCollect_any HM6.out.S HM6.out.G (by omega) mark)
  clear h6 hk6 HO5 HB5 HF5 HM4 HB4 HO4 HV4 HC4 HB34
  go_upto_region 9 with (first | ((with_reducible refine Mem.load_agg _ _ col_agg gc 0 (colCells mark) ?hx (Sto.colCells_length mark) (fun j u hu => by rw [Nat.zero_add]; exact HC6.out.cell hu) ?_); case hx => exact rfl) | (go_at_call 19; refine HCO.out.mono ?_; clear HCO; rintro x w7 ⟨rs7, rfl, hs7, hS7, hk7, hq7⟩; have HS70 := Lib.hid hs7; obtain ⟨nn, hnn⟩ : ∃ nn, Sto.lenS (Sto.states rs6) - Sto.lenS (Sto.states rs7) = nn := ⟨_, rfl⟩; rw [hnn]; clear hs7 hnn))
  obtain ⟨mk, hmk⟩ : ∃ mk, Sto.maxC col0 mark = mk := ⟨_, rfl⟩
  rw [hmk] at hS7 HS70
  have HM7 : Hid (Sto.Mine w3.heap.size w7 g b rng mk rs7) := ⟨hS7, by rw [HS70.out]; exact HM6.out.G.collect _, fun q hq => (hq7 q hq).elim (HM6.out.a q) (fun h => Nat.le_trans HB36.out.size h)⟩
  have HB37 : Hid (Below w3.heap.size w3 w7) := HB36.out.trans (hk7.below HM6.out.a HB36.out.size)
  have HS7 : Hid (Sto.states rs7 = Sto.collectS mk (Sto.putL rng col0 [] ls).1) := by show _ = _; rw [HS70.out, HS6.out]
  have hl7 : Sto.lenS (Sto.states rs7) ≤ 300 := by rw [HS70.out]; exact Nat.le_trans (Sto.collect_len _ _) hl6
  have HO7 : Hid (Mem.Own w7 33 20 A2 ls.length c2 (ls.flatMap entCells)) := HO6.out.keeps hk7 (fun q hq h => by have := HA2.out q hq; have := HM6.out.a q h; omega)
  have HV7 : Hid (VBx w7 gv av) := HV6.out.keeps hk7 (fun h => by have := HM6.out.a gv h; omega)
  have HHL : Hid (Sto.lenS (Sto.states rs7) ≤ 4611686018427387903) := Nat.le_trans hl7 (by omega)
  have HKEY : Hid (Sto.okS key) := by show Sto.okS key; unfold Sto.okS maxLen; omega
  obtain ⟨le, hle⟩ : ∃ le, Sto.latest (Sto.states rs7) key = le := ⟨_, rfl⟩
  have HLE := Lib.hid hle
  have HRA : Hid (Vec.read rng (qL key) ls = ⟨0, le.2, le.1, column rng ls⟩) := by
    show _ = _
    rw [readL, Sto.log_latest HNB.out HRE.out key mk, ← HS7.out, hle]
  obtain ⟨an, han⟩ : ∃ an, Sto.asOf (Sto.states rs7) mk key (Vec.part av rng) = an := ⟨_, rfl⟩
  have HAN := Lib.hid han
  obtain ⟨Rb, hRb⟩ : ∃ Rb, Vec.read rng ⟨key, vc0, true, av, mk⟩ ls = Rb := ⟨_, rfl⟩
  have HRB := Lib.hid hRb
  have HLW : Hid (Rb.code = 91 ∨ (Rb.code = an.err ∧ (an.err = 60 ∨ (an.err = 0 ∧ Rb.has = an.is ∧ Rb.ent = an.e)))) := by
    have h9 := Sto.log_asOf HNB.out HRE.out key av mk
    rw [← HS7.out, hRb, han] at h9
    exact h9
  obtain ⟨cr, hcr⟩ : ∃ cr, column rng ls = cr := ⟨_, rfl⟩
  rw [hcr] at HRA
  have hrd7 : Mem.Rd (w7.alloc (.cells #[] 33)) w7.heap.size A2 (ls.flatMap entCells) := HO7.out.rd.alloc (Nat.le_refl _) _
  have HRX : Hid (∀ (A1 : Option Addr) (c1 : Nat) (w4 : World), Mem.Rd w4 w4.heap.size A1 (ls.flatMap entCells) → Calls Try.prog 11 #[.int .i64 rng, .agg (qyCells (qL key)).toArray, .slice A1 ls.length c1] w4 fun e w' => e = .returned (.agg (ansCells ⟨0, le.2, le.1, cr⟩).toArray) ∧ Below w4.heap.size w4 w') := fun A1 c1 w4 h => by
    have h9 := read_any rng (qL key) A1 c1 ls w4.heap.size w4 h (Nat.le_refl _) (by omega)
    rwa [HRA.out] at h9
  have ho := ans_one ⟨0, le.2, le.1, cr⟩
  clear hS7 hk7 hq7 HS70 hmk hle han hRb hcr HM6 HO6 HV6 HC6 HB36 HS6 HRA
  go_upto_region 10 with (first | (at_builtin; refine Mem.wpList_app0 _ rfl (.tmp 45) (.tmp 46) _ rfl entries_elem (some ⟨w7.heap.size, 0, none⟩) rfl w7.heap.size A2 ls.length c2 (ls.flatMap entCells) rfl ?_ (Mem.Own.lit w7 _ 20 #[] 0 rfl rfl (by simp [maxLen])) hrd7 hol hoo (by unfold maxLen; omega) (by omega); intro A1x c1x w8 hown hb8 hat8; have HO8 := Lib.hid hown; have HB8 : Hid (Below w7.heap.size w7 w8) := (Reg.below_new _ _).trans (hb8.mono (by simp)); clear hown hb8 hat8 hrd7) | (go_at_call 11; refine (HRX.out A1x c1x w8 HO8.out.rd).mono ?_; rintro x w9 ⟨rfl, hb9⟩; have HB9 : Hid (Below w7.heap.size w7 w9) := HB8.out.trans (hb9.mono HB8.out.size); clear hb9) | ((with_reducible refine Mem.store_agg _ _ answer_agg w9.heap.size (ansCells ans0) (ansCells ⟨0, le.2, le.1, cr⟩) ?hxa ?hya ?hba (ansCells_length _) ho ?_); ((case hxa => exact rfl); (case hya => exact rfl); (case hba => exact Mem.Bx.new w9 _ (ansCells ans0).toArray rfl rfl); intro wa hba hka hsa)))
  have HB7a : Hid (Below w7.heap.size w7 wa) := HB9.out.trans ((hka.newBox rfl).belowAll.mono HB9.out.size)
  have HAa : Hid (ABx wa w9.heap.size ⟨0, le.2, le.1, cr⟩) := hba
  obtain ⟨ga, hga⟩ : ∃ ga, w9.heap.size = ga := ⟨_, rfl⟩
  rw [hga] at HAa ⊢
  have HMa := Lib.hid (HM7.out.below HB7a.out)
  have HOa : Hid (Mem.Own wa 33 20 A2 ls.length c2 (ls.flatMap entCells)) := HO7.out.keeps (Mem.Keeps.of_below HB7a.out) (fun _ _ h => h)
  have HVa : Hid (VBx wa gv av) := HV7.out.below HB7a.out HV7.out.lt
  have HB3a : Hid (Below w3.heap.size w3 wa) := HB37.out.trans (HB7a.out.mono HB37.out.size)
  have HLA := Lib.hid (storeLatest_any HMa.out.S HKEY.out HMa.out.G.hne)
  rw [HLE.out] at HLA
  clear hba hka hsa hga ho HO8 HB8 HB9 HRX HM7 HO7 HV7 HB37 HB7a HLE
  go_upto_region 11 with (first | (go_at_call 20; refine HLA.out.mono ?_; clear HLA; rintro x wb ⟨rfl, hbb⟩) | ((with_reducible refine Mem.store_agg _ _ entry_agg wb.heap.size (entCells ent0) (entCells le.1) ?hxb ?hyb ?hbb (entCells_length _) (ent_one le.1) ?_); ((case hxb => exact rfl); (case hyb => exact rfl); (case hbb => exact Mem.Bx.new wb _ (entCells ent0).toArray rfl rfl); intro wc hbc hkc hsc)))
  have HBac : Hid (Below wa.heap.size wa wc) := hbb.trans ((hkc.newBox rfl).belowAll.mono hbb.size)
  have HEc : Hid (EBx wc wb.heap.size le.1) := hbc
  obtain ⟨ge, hge⟩ : ∃ ge, wb.heap.size = ge := ⟨_, rfl⟩
  rw [hge] at HEc ⊢
  have HMc := Lib.hid (HMa.out.below HBac.out)
  have HOc : Hid (Mem.Own wc 33 20 A2 ls.length c2 (ls.flatMap entCells)) := HOa.out.keeps (Mem.Keeps.of_below HBac.out) (fun _ _ h => h)
  have HVc : Hid (VBx wc gv av) := HVa.out.below HBac.out HVa.out.lt
  have HAc : Hid (ABx wc ga ⟨0, le.2, le.1, cr⟩) := HAa.out.below HBac.out HAa.out.lt
  have HB3c : Hid (Below w3.heap.size w3 wc) := HB3a.out.trans (HBac.out.mono HB3a.out.size)
  have x1 := HAc.out.cell (j := 1) rfl
  have HPE := Lib.hid (HAc.out.part (xs := entCells le.1) 2 rfl)
  have e1 : ∀ W, (binOp .neq 33 (.agg (entCells le.1).toArray) (.agg (entCells le.1).toArray)).run Try.prog W = .ok (.bool false) W := fun W => by rw [neq_ent, eqEnt_iff.2 rfl]; rfl
  have b1 : (le.2 != le.2) = false := by cases le.2 <;> rfl
  clear hbb hbc hkc hsc hge HMa HOa HVa HAa HB3a HBac
  go_upto_region 13 with (first | ((with_reducible refine Mem.load_aggG _ _ entry_agg ga 2 (entCells le.1) ?hwc ?hxc (entCells_length _) HPE.out ?_); ((case hwc => rfl); (case hxc => exact rfl))) | ((with_reducible refine Mem.load_aggG _ _ entry_agg ge 0 (entCells le.1) ?hwd ?hxd (entCells_length _) (fun j u hu => by rw [Nat.zero_add]; exact HEc.out.cell hu) ?_); ((case hwd => rfl); (case hxd => exact rfl))))
  have HRY : Hid (∀ (A1 : Option Addr) (c1 : Nat) (w4 : World), Mem.Rd w4 w4.heap.size A1 (ls.flatMap entCells) → Calls Try.prog 11 #[.int .i64 rng, .agg (qyCells ⟨key, vc0, true, av, mk⟩).toArray, .slice A1 ls.length c1] w4 fun e w' => e = .returned (.agg (ansCells Rb).toArray) ∧ Below w4.heap.size w4 w') := fun A1 c1 w4 h => by
    have h9 := read_any rng ⟨key, vc0, true, av, mk⟩ A1 c1 ls w4.heap.size w4 h (Nat.le_refl _) (by omega)
    rwa [HRB.out] at h9
  clear x1 e1 b1 HPE HAc HEc HRB
  refine Reg.wp_region_z (by kernel_rfl) 108 12 rfl rfl (by kernel_rfl) 90 91 (by decide) (11) (fun y => wc.heap.size ≤ y) (0) (fun _ => False) (0) (fun _ => False)
    (fun i f v u => match i with
      | 0 => v = .int .i64 rng
      | 1 => v = .string key
      | 2 => v = .agg (vcCells av).toArray
      | 3 => v = .pointer (some ⟨g, 0, none⟩)
      | 4 => v = .agg (colCells mk).toArray
      | 5 => v = .agg (qyCells ⟨key, vc0, true, av, mk⟩).toArray
      | 6 => ∃ s0, v = .slice (some ⟨s0, 0, none⟩) 0 0 ∧ Mem.Own u 33 20 (some ⟨s0, 0, none⟩) 0 0 []
      | 7 => v = .slice A2 ls.length c2
      | 8 => ∃ A1 c1, v = .slice A1 ls.length c1 ∧ Mem.Own u 33 20 A1 ls.length c1 (ls.flatMap entCells)
      | 9 => v = .agg (ansCells Rb).toArray
      | 10 => ∃ s, v = .pointer (some ⟨s, 0, none⟩) ∧ wc.heap.size ≤ s ∧ ABx u s ans0
      | 11 => ∃ s, f 16 = .pointer (some ⟨s, 0, none⟩) ∧ wc.heap.size ≤ s ∧ ABx u s Rb
      | _ => True) ?_ ?_
  · refine Reg.StepsZ.cons ?_ (Reg.StepsZ.cons ?_ (Reg.StepsZ.cons ?_ (Reg.StepsZ.cons ?_ (Reg.StepsZ.cons ?_ (Reg.StepsZ.cons ?_ (Reg.StepsZ.cons ?_ (Reg.StepsZ.cons ?_ (Reg.StepsZ.cons ?_ (Reg.StepsZ.cons ?_ (Reg.StepsZ.cons ?_ (Reg.StepsZ.cons ?_ (Reg.StepsZ.nil _))))))))))))
    · intro val ac u hR hp hpq ha K hK0      -- 0: t65 := Op.move t0
      have hK := fun v w' h1 h2 => hK0 v w' h1 h2 (fun j f v' h _ => by omega)
      have e0 : (ac.tmps[0]?).getD undef = .int .i64 rng := ha 0 (by decide)
      clear ha hp
      refine Reg.Op1.plain rfl ?_
      go_wp2
      exact ⟨rfl, hK _ _ rfl (Reg.Wr.same _)⟩
    · intro val ac u hR hp hpq ha K hK0      -- 1: t66 := Op.move t2
      have hK := fun v w' h1 h2 => hK0 v w' h1 h2 (fun j f v' h _ => by omega)
      have e2 : (ac.tmps[2]?).getD undef = .string key := ha 2 (by decide)
      clear ha hp
      refine Reg.Op1.plain rfl ?_
      go_wp2
      exact ⟨rfl, hK _ _ rfl (Reg.Wr.same _)⟩
    · intro val ac u hR hp hpq ha K hK0      -- 2: t67 := Op.load 31 t8
      have hK := fun v w' h1 h2 => hK0 v w' h1 h2 (fun j f v' h _ => by omega)
      have e8 : (ac.tmps[8]?).getD undef = .pointer (some ⟨gv, 0, none⟩) := ha 8 (by decide)
      clear ha hp
      refine Reg.Op1.plain rfl ?_
      have hq : Mem.Keeps (fun _ => False ∨ False) wc u := (Mem.Keeps.refl (fun _ => False ∨ False) wc).drew.trans (Reg.Wr.not1 hR (by decide +kernel)) (fun _ h _ => h)
      have hQu := HVc.out.keeps hq (fun h => h.elim id id)
      refine Mem.load_agg _ _ vec_agg gv 0 (vcCells av) (Reg.eval_of e8) (vcCells_length _) (fun j u' hu => by rw [Nat.zero_add]; exact hQu.cell hu) ?_
      exact ⟨rfl, hK _ _ rfl (Reg.Wr.same _)⟩
    · intro val ac u hR hp hpq ha K hK0      -- 3: t68 := Op.move t12
      have hK := fun v w' h1 h2 => hK0 v w' h1 h2 (fun j f v' h _ => by omega)
      have e12 : (ac.tmps[12]?).getD undef = .pointer (some ⟨g, 0, none⟩) := ha 12 (by decide)
      clear ha hp
      refine Reg.Op1.plain rfl ?_
      go_wp2
      exact ⟨rfl, hK _ _ rfl (Reg.Wr.same _)⟩
    · intro val ac u hR hp hpq ha K hK0      -- 4: t69 := Op.call { value (Operand.func 21), args := #[t68], argTypes := #[52] }
      have hK := fun v w' h1 h2 => hK0 v w' h1 h2 (fun j f v' h _ => by omega)
      obtain ⟨w68, h68, r68⟩ := hp 3 (by decide)
      have e68 : (ac.tmps[68]?).getD undef = .pointer (some ⟨g, 0, none⟩) := (ha 68 (by decide)).trans h68
      clear h68
      clear ha hp
      refine Reg.Op1.plain rfl ?_
      have hq : Mem.Keeps (fun _ => False ∨ False) wc u := (Mem.Keeps.refl (fun _ => False ∨ False) wc).drew.trans (Reg.Wr.not1 hR (by decide +kernel)) (fun _ h _ => h)
      have hM := HMc.out.keeps hq (fun _ _ h => h.elim id id)
      go_wp2_with fail
      refine (storeMark_any hM.S).mono ?_
      rintro x9 w' ⟨rfl, hbw9⟩
      go_wp2_with fail
      exact ⟨rfl, hK _ _ rfl (Reg.Wr.below hbw9)⟩
    · intro val ac u hR hp hpq ha K hK0      -- 5: t70 := Op.build 39 #[(0, t66), (2, const (Value.bool true)), (3, t67), (4, t69)]
      have hK := fun v w' h1 h2 => hK0 v w' h1 h2 (fun j f v' h _ => by omega)
      obtain ⟨w66, h66, r66⟩ := hp 1 (by decide)
      have e66 : (ac.tmps[66]?).getD undef = .string key := (ha 66 (by decide)).trans h66
      clear h66
      obtain ⟨w67, h67, r67⟩ := hp 2 (by decide)
      have e67 : (ac.tmps[67]?).getD undef = .agg (vcCells av).toArray := (ha 67 (by decide)).trans h67
      clear h67
      obtain ⟨w69, h69, r69⟩ := hp 4 (by decide)
      have e69 : (ac.tmps[69]?).getD undef = .agg (colCells mk).toArray := (ha 69 (by decide)).trans h69
      clear h69
      clear ha hp
      refine Reg.Op1.plain rfl ?_
      go_wp2
      exact ⟨rfl, hK _ _ rfl (Reg.Wr.same _)⟩
    · intro val ac u hR hp hpq ha K hK0      -- 6: t71 := Op.buildSlice 22 0 #[]
      have hK := fun v w' h1 h2 => hK0 v w' h1 h2 (fun j f v' h _ => by omega)
      clear ha hp
      refine Reg.Op1.plain rfl ?_
      go_wp2
      exact ⟨rfl, hK _ _ ⟨u.heap.size, rfl, Mem.Own.lit u _ 20 #[] 0 rfl rfl (by simp [maxLen])⟩ (Reg.Wr.quiet ((Mem.Keeps.refl _ u).alloc _))⟩
    · intro val ac u hR hp hpq ha K hK0      -- 7: t72 := Op.move t11
      have hK := fun v w' h1 h2 => hK0 v w' h1 h2 (fun j f v' h _ => by omega)
      have e11 : (ac.tmps[11]?).getD undef = .slice A2 ls.length c2 := ha 11 (by decide)
      clear ha hp
      refine Reg.Op1.plain rfl ?_
      go_wp2
      exact ⟨rfl, hK _ _ rfl (Reg.Wr.same _)⟩
    · intro val ac u hR hp hpq ha K hK0      -- 8: t73 := Op.call { builtin append, args := #[t71, t72], argTypes := #[22, 22] }
      have hK := fun v w' h1 h2 => hK0 v w' h1 h2 (fun j f v' h _ => by omega)
      obtain ⟨w71, h71, r71⟩ := hp 6 (by decide)
      have e71 : (ac.tmps[71]?).getD undef = val 6 := ha 71 (by decide)
      obtain ⟨w72, h72, r72⟩ := hp 7 (by decide)
      have e72 : (ac.tmps[72]?).getD undef = .slice A2 ls.length c2 := (ha 72 (by decide)).trans h72
      clear h72
      clear ha hp
      refine Reg.Op1.plain rfl ?_
      obtain ⟨s0, hv, ho⟩ := h71
      rw [hv] at e71
      have ho' := ho.keeps (Reg.Wr.not1 r71 (by decide +kernel)) (fun _ _ h => h.elim id id)
      have hq : Mem.Keeps (fun _ => False ∨ False) wc u := (Mem.Keeps.refl (fun _ => False ∨ False) wc).drew.trans (Reg.Wr.not1 hR (by decide +kernel)) (fun _ h _ => h)
      have hrd : Mem.Rd u u.heap.size A2 (ls.flatMap entCells) := (HOc.out.keeps hq (fun _ _ h => h.elim id id)).rd
      refine Mem.wpList_app0 u rfl (.tmp 71) (.tmp 72) _ rfl entries_elem (some ⟨s0, 0, none⟩) (Reg.eval_of e71) u.heap.size A2 ls.length c2 (ls.flatMap entCells) (Reg.eval_of e72) ?_ ho' hrd hol hoo (by unfold maxLen; omega) (by omega)
      intro A' c' w' hown hbl hat
      exact ⟨rfl, hK _ _ ⟨A', c', rfl, hown⟩ (Reg.Wr.below hbl)⟩
    · intro val ac u hR hp hpq ha K hK0      -- 9: t74 := Op.call { value (Operand.func 11), args := #[t65, t70, t73], argTypes := #[3, 39, 22] }
      have hK := fun v w' h1 h2 => hK0 v w' h1 h2 (fun j f v' h _ => by omega)
      obtain ⟨w65, h65, r65⟩ := hp 0 (by decide)
      have e65 : (ac.tmps[65]?).getD undef = .int .i64 rng := (ha 65 (by decide)).trans h65
      clear h65
      obtain ⟨w70, h70, r70⟩ := hp 5 (by decide)
      have e70 : (ac.tmps[70]?).getD undef = .agg (qyCells ⟨key, vc0, true, av, mk⟩).toArray := (ha 70 (by decide)).trans h70
      clear h70
      obtain ⟨w73, h73, r73⟩ := hp 8 (by decide)
      have e73 : (ac.tmps[73]?).getD undef = val 8 := ha 73 (by decide)
      clear ha hp
      refine Reg.Op1.plain rfl ?_
      obtain ⟨A1, c1, hv, ho⟩ := h73
      rw [hv] at e73
      have ho' := ho.keeps (Reg.Wr.not1 r73 (by decide +kernel)) (fun _ _ h => h.elim id id)
      go_wp2_with fail
      refine (HRY.out A1 c1 u ho'.rd).mono ?_
      rintro x w' ⟨rfl, hbw⟩
      go_wp2_with fail
      exact ⟨rfl, hK _ _ rfl (Reg.Wr.below hbw)⟩
    · intro val ac u hR hp hpq ha K hK0      -- 10: t16 := Op.alloc 42
      have hK := fun v w' h1 h2 => hK0 v w' h1 h2 (fun j f v' h _ => by omega)
      clear ha hp
      refine Reg.Op1.plain rfl ?_
      have hbu : wc.heap.size ≤ u.heap.size := (Reg.Wr.all hR).size
      go_wp2
      exact ⟨rfl, hK _ _ ⟨u.heap.size, rfl, hbu, Mem.Bx.new u 42 (ansCells ans0).toArray rfl rfl⟩ (Reg.Wr.quiet ((Mem.Keeps.refl _ u).alloc _))⟩
    · intro val ac u hR hp hpq ha K hK0      -- 11: Op.store 42 t16 t74
      have hK := fun v w' h1 h2 => hK0 v w' h1 h2 (fun j f v' h _ => by omega)
      obtain ⟨w16, h16, r16⟩ := hp 10 (by decide)
      have e16 : (ac.tmps[16]?).getD undef = val 10 := ha 16 (by decide)
      obtain ⟨w74, h74, r74⟩ := hp 9 (by decide)
      have e74 : (ac.tmps[74]?).getD undef = .agg (ansCells Rb).toArray := (ha 74 (by decide)).trans h74
      clear h74
      clear ha hp
      refine Reg.Op1.plain rfl ?_
      obtain ⟨s, hv, hs, hbx⟩ := h16
      have hv7 := hv
      rw [hv] at e16
      have hbx' : ABx u s ans0 := hbx.keeps (Reg.Wr.not1 r16 (by decide +kernel)) (fun h => h.elim id id)
      refine Mem.store_agg _ _ answer_agg s (ansCells ans0) (ansCells Rb) (Reg.eval_of e16) (Reg.eval_of e74) hbx' (ansCells_length _) (ans_one _) ?_
      intro w' hb hk hs'
      exact ⟨rfl, hK undef _ ⟨s, hv7, hs, hb⟩ (Reg.Wr.does1 (hk.mono (fun i h _ => by show wc.heap.size ≤ i; omega)))⟩
  intro val u hR H hZ
  obtain ⟨wA, ⟨s, hv7, hs, hb⟩, rA⟩ := H 11 (by decide)
  have hv7 : val 10 = .pointer (some ⟨s, 0, none⟩) := hv7
  have hq : Mem.Keeps (fun y => wc.heap.size ≤ y ∨ False ∨ False) wc u := (Mem.Keeps.refl (fun y => wc.heap.size ≤ y ∨ False ∨ False) wc).drew.trans (Reg.Wr.all hR) (fun _ h _ => h)
  have HBcd : Hid (Below wc.heap.size wc u) := hq.below (fun y h => by rcases h with h | h | h <;> first | exact h | exact h.elim) (Nat.le_refl _)
  have HAd : Hid (ABx u s Rb) := hb.keeps (Reg.Wr.not1 rA (by decide +kernel)) (fun h => h.elim id id)
  simp only [List.map_cons, List.map_nil, Reg.lay, Act.put, List.setIfInBounds_toArray, List.set_cons_succ, List.set_cons_zero, Nat.reduceAdd, hv7]
  clear hR H hZ hq hb rA hv7 hs
  obtain ⟨wd, hwd⟩ : ∃ z, z = u := ⟨_, rfl⟩
  subst hwd
  obtain ⟨gb, hgb⟩ : ∃ z, z = s := ⟨_, rfl⟩
  subst hgb
  have HMd := Lib.hid (HMc.out.below HBcd.out)
  have HVd : Hid (VBx wd gv av) := HVc.out.below HBcd.out HVc.out.lt
  have HB3d : Hid (Below w3.heap.size w3 wd) := HB3c.out.trans (HBcd.out.mono HB3c.out.size)
  clear HMc HOc HVc HB3c HBcd HRY
  go_upto_region 15 with (first | ((with_reducible refine Mem.load_agg _ _ vec_agg gv 0 (vcCells av) ?hxv (vcCells_length _) (fun j u hu => by rw [Nat.zero_add]; exact HVd.out.cell hu) ?_); (case hxv => exact rfl)) | (go_at_call 13; refine (part_any av rng wd).mono ?_; rintro x we ⟨rfl, hbe⟩; have HMe := Lib.hid (HMd.out.below hbe); have HAO := Lib.hid (storeAsOf_any HMe.out.S HKEY.out HMe.out.G.hdc HHL.out (Vec.part av rng)); rw [HAN.out] at HAO) | (go_at_call 22; refine HAO.out.mono ?_; clear HAO; rintro x wf ⟨rfl, hbf⟩) | ((with_reducible refine Mem.store_agg _ _ entry_agg wf.heap.size (entCells ent0) (entCells an.e) ?hxg ?hyg ?hbg (entCells_length _) (ent_one an.e) ?_); ((case hxg => exact rfl); (case hyg => exact rfl); (case hbg => exact Mem.Bx.new wf _ (entCells ent0).toArray rfl rfl); intro wg hbg hkg hsg)))
  have HBdg : Hid (Below wd.heap.size wd wg) := (hbe.trans (hbf.mono hbe.size)).trans ((hkg.newBox rfl).belowAll.mono (Nat.le_trans hbe.size hbf.size))
  have HEg : Hid (EBx wg wf.heap.size an.e) := hbg
  obtain ⟨gx, hgx⟩ : ∃ gx, wf.heap.size = gx := ⟨_, rfl⟩
  rw [hgx] at HEg ⊢
  have HAg : Hid (ABx wg gb Rb) := HAd.out.below HBdg.out HAd.out.lt
  have HBZ : Hid (Below w.heap.size w wg) := HB3.out.trans ((HB3d.out.trans (HBdg.out.mono HB3d.out.size)).mono HB3.out.size)
  clear hbe hbf hbg hkg hsg hgx HMd HMe HVd HAd HB3d HBdg HAN
  obtain ⟨cd, hs, en, cl⟩ := Rb
  have y0 := HAg.out.cell (j := 0) rfl
  have y1 := HAg.out.cell (j := 1) rfl
  have HPE := Lib.hid (HAg.out.part (xs := entCells en) 2 rfl)
  obtain ⟨ae, ai, ar⟩ := an
  dsimp only at HLW HEg y0 y1 ⊢
  rcases HLW.out with hc | ⟨hc, ha | ⟨ha, h1, h2⟩⟩
  · subst hc
    go_wp2
    go_ret
    exact ⟨rfl, by rw [← hgv]; exact HBZ.out⟩
  · subst hc
    subst ha
    go_wp2
    go_ret
    exact ⟨rfl, by rw [← hgv]; exact HBZ.out⟩
  · subst hc
    subst ha
    subst h1
    subst h2
    have e4 : ∀ W, (binOp .eql 33 (.agg (entCells en).toArray) (.agg (entCells en).toArray)).run Try.prog W = .ok (.bool true) W := fun W => by rw [eql_ent, eqEnt_iff.2 rfl]
    have b4 : (hs == hs) = true := by cases hs <;> rfl
    go_wp2_with (first | ((with_reducible refine Mem.load_aggG _ _ entry_agg gb 2 (entCells en) ?hwh ?hxh (entCells_length _) HPE.out ?_); ((case hwh => rfl); (case hxh => exact rfl))) | ((with_reducible refine Mem.load_aggG _ _ entry_agg gx 0 (entCells en) ?hwi ?hxi (entCells_length _) (fun j u hu => by rw [Nat.zero_add]; exact HEg.out.cell hu) ?_); ((case hwi => rfl); (case hxi => exact rfl))))
    go_ret
    exact ⟨rfl, by rw [← hgv]; exact HBZ.out⟩
set_option maxRecDepth 20000 in
theorem opened {H : Type} (enc : TypeId × Value → H) (W : World) (base : Nat) (v0 v1 v2 v3 v4 : Value) {d0 d1 d2 d3 d4 : DataW H} {p0 p1 p2 p3 p4 : List MemPlace}
    (o0 : Value.okWide Try.prog W .any base 3 v0) (o1 : Value.okWide Try.prog W .any base 22 v1) (o2 : Value.okWide Try.prog W .any base 9 v2) (o3 : Value.okWide Try.prog W .any base 31 v3) (o4 : Value.okWide Try.prog W .any base 37 v4)
    (k0 : DataW.Trod enc Try.prog W 0 (fun _ => true) true 3 v0 d0 p0) (k1 : DataW.Trod enc Try.prog W 0 (fun _ => true) true 22 v1 d1 p1) (k2 : DataW.Trod enc Try.prog W 0 (fun _ => true) true 9 v2 d2 p2) (k3 : DataW.Trod enc Try.prog W 0 (fun _ => true) true 31 v3 d3 p3) (k4 : DataW.Trod enc Try.prog W 0 (fun _ => true) true 37 v4 d4 p4)
    (z0 : (d0.weights Try.prog 3).all (· ≤ reachBytes) = true) (z1 : (d1.weights Try.prog 22).all (· ≤ reachBytes) = true) (z2 : (d2.weights Try.prog 9).all (· ≤ reachBytes) = true) (z3 : (d3.weights Try.prog 31).all (· ≤ reachBytes) = true) (z4 : (d4.weights Try.prog 37).all (· ≤ reachBytes) = true) :
    Calls Try.prog 7 #[v0, v1, v2, v3, v4] W fun e w' => e = .returned (.bool true) ∧ Below W.heap.size W w' := by
  obtain ⟨n, rfl, _⟩ := open_num o0 k0
  obtain ⟨A, c, es, rfl, h1, h2, h3, h4⟩ := open_ents o1 k1 z1
  obtain ⟨key, rfl, hks⟩ := open_text o2 k2 z2
  obtain ⟨v, rfl⟩ := open_vec o3 k3
  obtain ⟨mark, rfl⟩ := open_col o4 k4
  exact walk n A c es key v mark W h3 (by omega) h4 hks
end serveStoreOpen
end Go.Proofs.Ytiibgkgbghganaa
