/- The walk of WireRow. No conditions. -/
import Derived.Test.YtkfgedgjpgehoaaWire30
import Derived.Test.YtkfgedgjpgehoaaWire22
namespace Go.Proofs.Ytkfgedgjpgehoaa
open Go.ChangeShapes Go.WideShapes Go.ChangeAt Go.RowKit
set_option linter.unusedVariables false
set_option linter.unusedSimpArgs false
set_option maxRecDepth 100000
theorem rec_zeroI : (Try.prog.info? 37).map (fun i => (i.zero, i.size)) = some (some (.agg Wi.zeroR.toArray), 35) := by kernel_rfl
namespace wireRowOpen
open Wi
structure RowRel (w : World) (rs : List R35) (v5 v6 v7 v8 : Value) (wr : World) : Prop where
  out : ∃ (k : Nat) (X Y Z : Option Addr) (cx cy cz : Nat) (al : List UInt8) (gd : List R35) (en : List Int), k ≤ rs.length ∧ v5 = .slice X al.length cx ∧ v6 = .slice Y gd.length cy ∧ v7 = .slice Z en.length cz ∧ v8 = .int .i64 k ∧
    Hid (al = allB (goods rs k)) ∧ Hid (gd = goods rs k) ∧ Hid (en = ends (goods rs k)) ∧ Hid (RowSt w wr X Y Z cx cy cz al gd en)
structure RowRel2 (w : World) (X Y Z : Option Addr) (cx cy cz : Nat) (al : List UInt8) (gd : List R35) (en : List Int) (v11 v12 : Value) (wr : World) : Prop where
  out : ∃ i : Nat, i ≤ gd.length ∧ v11 = .int .i64 ((allB (gd.take i)).length : Nat) ∧ v12 = .int .i64 i ∧ Hid (RowSt w wr X Y Z cx cy cz al gd en)
/-- the fetched record -/
structure RAt (w wr : World) (b o : Nat) (x : R35) (s7 s8 : ByteArray) : Prop where
  at7 : wr.cell? ⟨b, o + 7, none⟩ = some (.string s7)
  at8 : wr.cell? ⟨b, o + 8, none⟩ = some (.string s8)
  n7 : strN x.1 7 = s7.size
  n8 : strN x.1 8 = s8.size
  z7 : s7.size ≤ 140737488351232
  z8 : s8.size ≤ 140737488351232
theorem rat_of {w wr : World} {B b o : Nat} {x : R35} (h : rIn x) (hc : ∀ j u, (rCells x)[j]? = some u → w.cell? ⟨b, o + j, none⟩ = some u) (hb : b < B) (hB : Below B w wr) : ∃ s7 s8, RAt w wr b o x s7 s8 := by
  obtain ⟨s7, e7, z7⟩ := MsgIn.str h (k := 7) rfl
  obtain ⟨s8, e8, z8⟩ := MsgIn.str h (k := 8) rfl
  exact ⟨s7, s8, (hB.cell (p := ⟨b, o + 7, none⟩) hb).trans (hc 7 _ e7), (hB.cell (p := ⟨b, o + 8, none⟩) hb).trans (hc 8 _ e8), strN_of e7, strN_of e8, z7, z8⟩
set_option maxHeartbeats 4000000 in
theorem walk (A : Option Addr) (c : Nat) (rs : List R35) (B : Option Addr) (cB : Nat) (tl : List UInt8) (w : World) (hr : Mem.Rd w w.heap.size A (rs.flatMap rCells)) (hd : ∀ x ∈ rs, rIn x) (ht : Mem.Rd w w.heap.size B (tl.map Mem.byteV)) (hc : rs.length ≤ c) (hcB : tl.length ≤ cB) (hcB2 : cB ≤ 140737488351232) :
    Calls Try.prog 5 #[.slice A rs.length c, .slice B tl.length cB] w fun e w' => e = .returned (.bool true) ∧ Below w.heap.size w w' := by
  have HR := Lib.hid hr
  have HD := Lib.hid hd
  have HT := Lib.hid ht
  have HA := Lib.hid (wireAble_any w)
  clear hr hd ht
  go_enter Try.func5, Try.ntmps5
  go_upto_region 3 with (go_at_call 14; refine HA.out.mono ?_; rintro x1 w1 ⟨rfl, hb1⟩; have HB1 := Lib.hid hb1; clear hb1 HA)
  by_cases h2 : rs.length ≤ 200
  case neg =>
    have d1 : decide ((200 : Int) < (rs.length : Int)) = true := by simp; omega
    clear h2
    go_wp2
    go_ret
    exact ⟨rfl, HB1.out⟩
  have d1 : decide ((200 : Int) < (rs.length : Int)) = false := by simp; omega
  by_cases h3 : tl.length ≤ 100000
  case neg =>
    have d2 : decide ((100000 : Int) < (tl.length : Int)) = true := by simp; omega
    clear h2 h3
    go_wp2
    go_ret
    exact ⟨rfl, HB1.out⟩
  have d2 : decide ((100000 : Int) < (tl.length : Int)) = false := by simp; omega
  have HS1 : Hid (RowSt w w1 none none none 0 0 0 [] [] []) := ⟨own_none, own_none, own_none, HB1.out, (fun k h => by cases h), (fun k h => by cases h), (fun k h => by cases h), (fun k h => by cases h), (fun k h => by cases h), (fun k h => by cases h)⟩
  go_upto_region 9 with fail
  clear d1 d2
  go_wp2
  go_loopw [5, 6, 7, 8] (RowRel w rs) (fun _ _ _ t _ => rs.length - (intOf t).toNat)
  case atStart => exact ⟨⟨0, none, none, none, 0, 0, 0, [], [], [], by omega, rfl, rfl, rfl, rfl, rfl, rfl, rfl, HS1⟩⟩
  case round =>
    clear HS1
    obtain ⟨k, X, Y, Z, cx, cy, cz, al, gd, en, hk, rfl, rfl, rfl, rfl, HAL, HGD, HEN, HS⟩ := hrel.out
    clear hrel
    by_cases hlt : k < rs.length
    · obtain ⟨b, o, hA0, hbb, hcc⟩ := Mem.Rd.elem rCells_length HR.out hlt (by omega)
      subst hA0
      obtain ⟨x, hx⟩ : ∃ x, rs[k] = x := ⟨_, rfl⟩
      have hxk : rs[k]? = some x := by rw [← hx]; exact List.getElem?_eq_getElem hlt
      rw [hx] at hcc
      have hin : rIn x := HD.out x (List.mem_of_getElem? hxk)
      have hcc2 : ∀ j u, (rCells x)[j]? = some u → w.cell? ⟨b, o + k * 35 + j, none⟩ = some u := fun j u hu => by rw [Nat.add_assoc]; exact hcc j u hu
      obtain ⟨s7, s8, hat⟩ := rat_of hin hcc2 hbb HS.out.b
      have q7 := hat.at7
      have q8 := hat.at8
      have hz7 := hat.z7
      have hz8 := hat.z8
      have HN7 := Lib.hid hat.n7
      have HN8 := Lib.hid hat.n8
      have HCC := Lib.hid hcc2
      have HIN := Lib.hid hin
      have HXK := Lib.hid hxk
      have hgl : gd.length ≤ k := by rw [HGD.out]; exact goods_len rs k
      have hel : en.length ≤ k := by rw [HEN.out, ends_len, ← HGD.out]; exact hgl
      have hall : al.length ≤ 102400 := by
        have h9 := allB_len (l := gd) (fun y hy => goods_mem (k := k) HD.out (by rw [← HGD.out]; exact hy))
        have e9 : al = allB gd := by rw [HGD.out]; exact HAL.out
        rw [← e9] at h9
        omega
      clear hx hcc hcc2 hin hxk hat
      by_cases e7 : s7.size ≤ 100
      case neg =>
        have d1 : decide ((100 : Int) < (s7.size : Int)) = true := by simp; omega
        have hno : rGood x = false := by unfold rGood; rw [HN7.out]; simp [e7]
        have HNO := Lib.hid hno
        clear hno e7
        go_wp2
        go_roundw
        case rel => exact ⟨⟨k + 1, X, Y, Z, cx, cy, cz, al, gd, en, by omega, rfl, rfl, rfl, by go_num, by rw [goods_no HXK.out HNO.out]; exact HAL, by rw [goods_no HXK.out HNO.out]; exact HGD, by rw [goods_no HXK.out HNO.out]; exact HEN, HS⟩⟩
        case measure => simp [intOf]; omega
      by_cases e8 : s8.size ≤ 100
      case neg =>
        have d1 : decide ((100 : Int) < (s7.size : Int)) = false := by simp; omega
        have d2 : decide ((100 : Int) < (s8.size : Int)) = true := by simp; omega
        have hno : rGood x = false := by unfold rGood; rw [HN7.out, HN8.out]; simp [e8]
        have HNO := Lib.hid hno
        clear hno e7 e8
        go_wp2
        go_roundw
        case rel => exact ⟨⟨k + 1, X, Y, Z, cx, cy, cz, al, gd, en, by omega, rfl, rfl, rfl, by go_num, by rw [goods_no HXK.out HNO.out]; exact HAL, by rw [goods_no HXK.out HNO.out]; exact HGD, by rw [goods_no HXK.out HNO.out]; exact HEN, HS⟩⟩
        case measure => simp [intOf]; omega
      have d1 : decide ((100 : Int) < (s7.size : Int)) = false := by simp; omega
      have d2 : decide ((100 : Int) < (s8.size : Int)) = false := by simp; omega
      have hfed : Fed recK (rCells x) := good_fed HIN.out (by rw [HN7.out]; exact e7) (by rw [HN8.out]; exact e8)
      have HFD := Lib.hid hfed
      obtain ⟨fr, hfr⟩ : ∃ fr, framedC (recC (rCells x)) = fr := ⟨_, rfl⟩
      have HFR := Lib.hid hfr
      have HM := Lib.hid (rec_any (w := wr) hfed)
      have hlx : Hid ((rCells x).length = 35) := rCells_length x
      have hld : Hid (∀ j u, (rCells x)[j]? = some u → wr.cell? ⟨b, o + k * 35 + j, none⟩ = some u) := fun j u hu => (HS.out.b.cell (p := ⟨b, o + k * 35 + j, none⟩) hbb).trans (HCC.out j u hu)
      clear hfed hfr
      go_upto_region 13 with (first | ((with_reducible refine Mem.load_agg _ _ record_agg b (o + k * 35) (rCells x) ?hxc hlx.out hld.out ?_); case hxc => exact rfl) | (go_at_call 15; refine HM.out.mono ?_; intro x5 w5 hfe; obtain ⟨A1, c1, rfl, h2', h3', h4'⟩ := hfe; rw [HFR.out] at h2'; have HO1 := Lib.hid h2'; have HB5 := Lib.hid h4'; clear h2' h3' h4' HM))
      rw [HFR.out]
      have HS5 : Hid (RowSt w w5 X Y Z cx cy cz al gd en) := HS.out.grow HB5.out
      clear HS HB5 q7 q8 d1 d2 hld
      by_cases e0 : fr.2 = 0
      case neg =>
        have d3 : (fr.2 == 0) = false := by simpa using e0
        have hno : rGood x = false := by unfold rGood; rw [show framedC (recC x.1) = fr from HFR.out, d3]; simp
        have HNO := Lib.hid hno
        clear hno e0
        go_wp2
        go_roundw
        case rel => exact ⟨⟨k + 1, X, Y, Z, cx, cy, cz, al, gd, en, by omega, rfl, rfl, rfl, by go_num, by rw [goods_no HXK.out HNO.out]; exact HAL, by rw [goods_no HXK.out HNO.out]; exact HGD, by rw [goods_no HXK.out HNO.out]; exact HEN, HS5⟩⟩
        case measure => simp [intOf]; omega
      have d3 : (fr.2 == 0) = true := by simpa using e0
      have hyes : rGood x = true := by unfold rGood; rw [show framedC (recC x.1) = fr from HFR.out, HN7.out, HN8.out, d3]; simp [e7, e8]
      have hrf : rFr x = fr.1 := by unfold rFr; rw [show framedC (recC x.1) = fr from HFR.out]
      have hf512 : fr.1.length ≤ 512 := by rw [← hrf]; exact (rgood_of HIN.out hyes).fr.2.1
      have HYES := Lib.hid hyes
      have HRF := Lib.hid hrf
      obtain ⟨f1, hf1⟩ : ∃ f1, fr.1 = f1 := ⟨_, rfl⟩
      rw [hf1] at HO1 hf512 HRF ⊢
      have hone := Lib.hid (okL_one HFD.out.ok)
      clear hyes hrf hf1 e0 e7 e8 HN7 HN8 HFR HFD hz7 hz8
      have wa : w.heap.size ≤ w5.heap.size := HS5.out.b.size
      go_upto_region 15 with (at_builtin; refine Mem.wpList_app _ rfl (.tmp 60) (.tmp 61) _ rfl bytes_elem X al.length cx _ rfl w5.heap.size A1 f1.length c1 (f1.map Mem.byteV) rfl ?_ HS5.out.x HO1.out.rd (by simp) (Mem.bytes_one _) (by unfold maxLen; omega) (by omega); intro X2 cx2 w6 hown hg2 hat; have HS6 := Lib.hid (HS5.out.appX hown hg2 hat); clear hown hg2 hat)
      have hld6 : Hid (∀ j u, (rCells x)[j]? = some u → w6.cell? ⟨b, o + k * 35 + j, none⟩ = some u) := fun j u hu => (HS6.out.b.cell (p := ⟨b, o + k * 35 + j, none⟩) hbb).trans (HCC.out j u hu)
      clear HS5 HO1
      go_upto_region 16 with (first | ((with_reducible refine Mem.load_agg _ _ record_agg b (o + k * 35) (rCells x) ?hxd hlx.out hld6.out ?_); case hxd => exact rfl) | ((with_reducible refine Mem.build1_agg _ _ 35 _ Try.underlying47 rec_zeroI (by decide) (by decide) (rCells x) ?hra hlx.out ?_); (case hra => exact rfl)) | (at_builtin; refine Mem.wpList_app _ rfl (.tmp 63) (.tmp 68) _ rfl recs_elem Y gd.length cy _ rfl (w6.heap.size + 1) (some ⟨w6.heap.size, 0, none⟩) 1 1 (rCells x) rfl ?_ (HS6.out.y.alloc _) (Mem.Rd.alloc_new w6 _ _ _ rfl) hlx.out hone.out (by unfold maxLen; omega) (by omega); intro Y2 cy2 w7 hown hg2 hat; have HS7 := Lib.hid ((HS6.out.grow ((Below.refl _ _).alloc (Nat.le_refl _) _)).appY (x := x) hown hg2 hat); clear hown hg2 hat))
      clear HS6 hld6
      go_upto_region 10 with (at_builtin; refine Mem.wpList_app _ rfl (.tmp 70) (.tmp 73) _ rfl ints_elem Z en.length cz _ rfl (w7.heap.size + 1) (some ⟨w7.heap.size, 0, none⟩) 1 1 [.int .i64 ((al.length : Int) + (f1.length : Int))] rfl ?_ (HS7.out.z.alloc _) (Mem.Rd.alloc_new w7 _ _ _ rfl) rfl (by simp [Value.oneCell']) (by unfold maxLen; omega) (by omega); intro Z2 cz2 w8 hown hg2 hat; have HS8 := Lib.hid ((HS7.out.grow ((Below.refl _ _).alloc (Nat.le_refl _) _)).appZ hown hg2 hat); clear hown hg2 hat)
      have hbl : goods rs (k + 1) = goods rs k ++ [x] := goods_yes HXK.out HYES.out
      have HBL := Lib.hid hbl
      clear hbl HS7 wa
      go_wp2
      go_roundw
      case rel => exact ⟨⟨k + 1, X2, Y2, Z2, cx2, cy2, cz2, al ++ f1, gd ++ [x], en ++ [(al.length : Int) + (f1.length : Int)], by omega, by rw [List.length_append], by rw [List.length_append]; rfl, by rw [List.length_append]; rfl, by go_num,
        by show _ = _; rw [HBL.out, allB_snoc, HRF.out, HAL.out], by show _ = _; rw [HBL.out, HGD.out], by show _ = _; rw [HBL.out, ends_snoc, allB_snoc, HRF.out, ← HAL.out, ← HEN.out, List.length_append]; push_cast; rfl, HS8⟩⟩
      case measure => simp [intOf]; omega
    · obtain rfl : k = rs.length := by omega
      have hgl : gd.length ≤ 200 := by rw [HGD.out]; exact Nat.le_trans (goods_len rs _) h2
      have hal : al = allB gd := by rw [HGD.out]; exact HAL.out
      have hgm : ∀ x ∈ gd, RGood x := fun x hx => goods_mem (k := rs.length) HD.out (by rw [← HGD.out]; exact hx)
      have hall : al.length ≤ 102400 := by
        have h9 := allB_len hgm
        rw [← hal] at h9
        omega
      have hen : en = ends gd := by rw [HGD.out]; exact HEN.out
      have hel : en.length = gd.length := by rw [hen, ends_len]
      have HENL := Lib.hid hel
      have HENS := Lib.hid hen
      have HALS := Lib.hid hal
      have HGM := Lib.hid hgm
      clear hlt hk HAL HGD HEN HD HR hal hgm hen hel
      go_upto_region 18 with (at_builtin; refine Mem.wpList_app _ rfl (.tmp 75) (.tmp 76) _ rfl bytes_elem X al.length cx _ rfl w.heap.size B tl.length cB (tl.map Mem.byteV) rfl ?_ HS.out.x (HT.out.below HS.out.b) (by simp) (Mem.bytes_one _) (by unfold maxLen; omega) (by omega); intro X2 cx2 w6 hown hg2 hat; have HS6 := Lib.hid (HS.out.appX hown hg2 hat); clear hown hg2 hat)
      have HNL : Hid ((al ++ tl).length = al.length + tl.length) := List.length_append
      obtain ⟨al2, hal2⟩ : ∃ al2, al ++ tl = al2 := ⟨_, rfl⟩
      have HA2 := Lib.hid hal2
      rw [hal2] at HS6 HNL
      obtain ⟨N, hN⟩ : ∃ N, al.length + tl.length = N := ⟨_, rfl⟩
      rw [hN] at HNL ⊢
      have hNb : N ≤ 202400 := by omega
      have hNa : al.length ≤ N := by omega
      have hcx := HS6.out.x.le
      rw [HNL.out] at hcx
      clear hal2 hN HS HT
      go_upto_region 20 with fail
      go_wp2
      rename World => wz
      go_loopw [11, 12] (RowRel2 w X2 Y Z cx2 cy cz al2 gd en) (fun _ t _ => gd.length - (intOf t).toNat)
      case atStart => exact ⟨⟨0, Nat.zero_le _, by simp [allB], rfl, HS6⟩⟩
      case round =>
        obtain ⟨ix, hi, rfl, rfl, HSr⟩ := hrel.out
        clear hrel HS6
        by_cases hlt : ix < gd.length
        · obtain ⟨x, hx⟩ : ∃ x, gd[ix] = x := ⟨_, rfl⟩
          have hxk : gd[ix]? = some x := by rw [← hx]; exact List.getElem?_eq_getElem hlt
          have hg : RGood x := HGM.out x (List.mem_of_getElem? hxk)
          obtain ⟨hf1, hf2, hfr⟩ := hg.fr
          have hpp := allB_part hxk
          have hdr := allB_drop hxk tl
          have htk := allB_take hxk
          rw [← HALS.out] at hpp hdr
          rw [HA2.out] at hdr
          obtain ⟨P, hP⟩ : ∃ P, (allB (gd.take ix)).length = P := ⟨_, rfl⟩
          obtain ⟨F, hF⟩ : ∃ F, (rFr x).length = F := ⟨_, rfl⟩
          rw [hP] at hpp hdr htk ⊢
          rw [hF] at hpp htk hf1 hf2
          have hre : readR (al2.drop P) = (rCells x, F, 0) := by rw [hdr, hfr, hF]; rfl
          have HRE := Lib.hid hre
          have HTK := Lib.hid htk
          have HP := Lib.hid hP
          have hone : Hid (∀ y ∈ rCells x, y.oneCell' = true) := okL_one hg.fed.ok
          have hlx : Hid ((rCells x).length = 35) := rCells_length x
          have hKn : Hid (∀ w, (binOp .neq 37 (.agg (rCells x).toArray) (.agg (rCells x).toArray)).run Try.prog w = .ok (.bool false) w) := fun w => by
            rw [recK_eq.neq (show Cells.Ok recK (rCells x) from hg.fed.ok) (show Cells.Ok recK (rCells x) from hg.fed.ok), (Cells.eqL_iff (show Cells.Ok recK (rCells x) from hg.fed.ok) (show Cells.Ok recK (rCells x) from hg.fed.ok)).2 rfl]; rfl
          have hel : en.length = gd.length := HENL.out
          have hen : en[ix]? = some ((P : Int) + (F : Int)) := by rw [HENS.out, ends_get hlt, htk]; push_cast; rfl
          have HEN := Lib.hid hen
          obtain ⟨bx, ox, hX⟩ := HSr.out.x.form (by rw [HNL.out]; omega)
          obtain ⟨by', oy, hY⟩ := HSr.out.y.form (by omega)
          obtain ⟨bz, oz, hZ⟩ := HSr.out.z.form (by omega)
          subst hX hY hZ
          have hdl : (al2.drop P).length = N - P := by rw [List.length_drop, HNL.out]
          have HDL := Lib.hid hdl
          have HRX : Hid (Mem.Rd wr wr.heap.size (some ⟨bx, ox + P, none⟩) ((al2.drop P).map Mem.byteV)) := by
            refine .inr ⟨bx, ox + P, rfl, HSr.out.x.lt rfl, fun q v hq => ?_⟩
            have h9 := HSr.out.x.cell (j := P + q) (u := v) (by rw [← hq, List.map_drop, List.getElem?_drop])
            rw [Nat.add_assoc]; exact h9
          have hcell : Hid (∀ (W : World), Below wr.heap.size wr W → ∀ j u, (rCells x)[j]? = some u → W.cell? ⟨by', oy + ix * 35 + j, none⟩ = some u) := fun W hW j u hu => by
            have hj : j < 35 := by rw [← rCells_length x]; exact (List.getElem?_eq_some_iff.1 hu).1
            have h9 := HSr.out.y.cell (j := ix * 35 + j) (u := u) (by rw [Mem.flat_get rCells_length gd ix j x hxk hj]; exact hu)
            rw [Nat.add_assoc]
            exact (hW.cell (p := ⟨by', oy + (ix * 35 + j), none⟩) (HSr.out.y.lt rfl)).trans h9
          have hcell2 : Hid (∀ (W : World), Below wr.heap.size wr W → W.cell? ⟨bz, oz + ix, none⟩ = some (.int .i64 ((P : Int) + (F : Int)))) := fun W hW => by
            have h9 := HSr.out.z.cell (j := ix) (u := iV ((P : Int) + (F : Int))) (by rw [List.getElem?_map, HEN.out]; rfl)
            exact (hW.cell (p := ⟨bz, oz + ix, none⟩) (HSr.out.z.lt rfl)).trans h9
          clear hx hxk hg hfr hdr htk hP hF hre hen hdl
          go_upto_region 23 with (first | (at_builtin; refine Mem.wpList_clone _ rfl (.tmp 85) (.tmp 88) _ rfl bytes_elem wr.heap.size rfl wr wr.heap.size (some ⟨bx, ox + P, none⟩) (N - P) (cx2 - P) _ rfl ?_ rfl (Below.refl _ _) (Nat.le_refl _) HRX.out (by rw [List.length_map, HDL.out]; omega) (Mem.bytes_one _) (by unfold maxLen; omega) (by omega); intro A3 c3 w7 hown hb2 hs2 hf2'; have hrr := readRecord_any (bs := al2.drop P) hown.rd (by rw [HDL.out]; exact hown.le) (by rw [HDL.out]; omega) hown.cap; rw [HDL.out] at hrr; have HB7 := Lib.hid hb2; have HRR := Lib.hid hrr; clear hown hb2 hs2 hf2' hrr) | (go_at_call 17; refine HRR.out.mono ?_; intro x8 w8 hrr; obtain ⟨rfl, h3'⟩ := hrr; have HB8 := Lib.hid h3'; clear h3' HRR; rw [HRE.out]) | ((with_reducible refine Mem.store_agg _ _ record_agg w8.heap.size zeroR (rCells x) ?hx ?hy ?hb hlx.out hone.out ?_); ((case hx => exact rfl); (case hy => exact rfl); (case hb => exact Mem.Bx.new w8 _ zeroR.toArray rfl rfl); intro w9 hb4 hk4 hs4; have HQ9 := Lib.hid hb4; have HK9 : Hid (Below w8.heap.size w8 w9) := (hk4.newBox rfl).belowAll; clear hb4 hk4 hs4)))
          have s78 := HB7.out.trans (HB8.out.mono HB7.out.size)
          have s79 := s78.trans (HK9.out.mono s78.size)
          have HB9 : Hid (Below wr.heap.size wr w9) := s79
          have HS9 : Hid (RowSt w w9 (some ⟨bx, ox, none⟩) (some ⟨by', oy, none⟩) (some ⟨bz, oz, none⟩) cx2 cy cz al2 gd en) := HSr.out.grow s79
          obtain ⟨gq, hgq⟩ : ∃ gq, w8.heap.size = gq := ⟨_, rfl⟩
          rw [hgq] at HQ9 ⊢
          have hgq9 := HQ9.out.lt
          clear s78 s79 HB7 HB8 HK9 hgq HSr HRX HRE HDL hone
          refine Reg.wp_region_rel (by kernel_rfl) 117 20 rfl rfl (by kernel_rfl) (Reg.Adds) (Reg.Adds.refl) (Reg.Adds.trans)
            (fun i v u => match i with
              | 0 => v = .int .i64 0
              | 1 => v = .bool false
              | 2 => v = .bool false
              | 3 => v = .agg (rCells x).toArray
              | 4 => v = .slice (some ⟨by', oy, none⟩) gd.length cy
              | 5 => v = .int .i64 ix
              | 6 => v = .pointer (some ⟨by', oy + ix * 35, none⟩)
              | 7 => v = .agg (rCells x).toArray
              | 8 => v = .bool false
              | 9 => v = .bool false
              | 10 => v = .bool false
              | 11 => v = .int .i64 P
              | 12 => v = .int .i64 F
              | 13 => v = .int .i64 ((P : Int) + (F : Int))
              | 14 => v = .slice (some ⟨bz, oz, none⟩) gd.length cz
              | 15 => v = .int .i64 ix
              | 16 => v = .pointer (some ⟨bz, oz + ix, none⟩)
              | 17 => v = .int .i64 ((P : Int) + (F : Int))
              | 18 => v = .bool false
              | 19 => v = .bool false
              | _ => True) ?_ ?_
          · refine Reg.Steps.cons ?_ (Reg.Steps.cons ?_ (Reg.Steps.cons ?_ (Reg.Steps.cons ?_ (Reg.Steps.cons ?_ (Reg.Steps.cons ?_ (Reg.Steps.cons ?_ (Reg.Steps.cons ?_ (Reg.Steps.cons ?_ (Reg.Steps.cons ?_ (Reg.Steps.cons ?_ (Reg.Steps.cons ?_ (Reg.Steps.cons ?_ (Reg.Steps.cons ?_ (Reg.Steps.cons ?_ (Reg.Steps.cons ?_ (Reg.Steps.cons ?_ (Reg.Steps.cons ?_ (Reg.Steps.cons ?_ (Reg.Steps.cons ?_ (Reg.Steps.nil _))))))))))))))))))))
            · intro val ac u hR hp ha K hK      -- 0: t94 := Op.move t15
              have e15 : (ac.tmps[15]?).getD undef = .int .i64 0 := ha 15 (by decide)
              clear ha hp
              refine Reg.Op1.plain rfl ?_
              go_wp2
              exact ⟨rfl, hK _ _ rfl (fun j k _ _ => Reg.Adds.refl _ _ _)⟩
            · intro val ac u hR hp ha K hK      -- 1: t95 := Op.binOp BinOp.neq 40 t94 (const (0:i64)) 40
              obtain ⟨w94, h94, r94⟩ := hp 0 (by decide)
              have e94 : (ac.tmps[94]?).getD undef = .int .i64 0 := (ha 94 (by decide)).trans h94
              clear h94
              clear ha hp
              refine Reg.Op1.plain rfl ?_
              go_wp2
              exact ⟨rfl, hK _ _ rfl (fun j k _ _ => Reg.Adds.refl _ _ _)⟩
            · intro val ac u hR hp ha K hK      -- 2: t96 := Op.move t95
              obtain ⟨w95, h95, r95⟩ := hp 1 (by decide)
              have e95 : (ac.tmps[95]?).getD undef = .bool false := (ha 95 (by decide)).trans h95
              clear h95
              clear ha hp
              refine Reg.Op1.plain rfl ?_
              go_wp2
              exact ⟨rfl, hK _ _ rfl (fun j k _ _ => Reg.Adds.refl _ _ _)⟩
            · intro val ac u hR hp ha K hK      -- 3: t97 := Op.load 37 t13
              have e13 : (ac.tmps[13]?).getD undef = .pointer (some ⟨gq, 0, none⟩) := ha 13 (by decide)
              obtain ⟨w96, h96, r96⟩ := hp 2 (by decide)
              have e96 : (ac.tmps[96]?).getD undef = .bool false := (ha 96 (by decide)).trans h96
              clear h96
              clear ha hp
              refine Reg.Op1.guarded rfl rfl e96 (fun _ => Reg.Op1.plain rfl ?_) (fun h => absurd rfl h)
              have hVu : Mem.Bx u 37 35 gq (rCells x) := Mem.Bx.below (w := w9.drew) HQ9.out hR hgq9
              refine Mem.load_aggG _ _ record_agg gq 0 (rCells x) (by simp [Region.wanted]) (Reg.eval_of e13) hlx.out (fun j u' hu => by rw [Nat.zero_add]; exact hVu.cell hu) ?_
              exact ⟨rfl, hK _ _ rfl (fun j k _ _ => Reg.Adds.refl _ _ _)⟩
            · intro val ac u hR hp ha K hK      -- 4: t98 := Op.move t6
              have e6 : (ac.tmps[6]?).getD undef = .slice (some ⟨by', oy, none⟩) gd.length cy := ha 6 (by decide)
              obtain ⟨w96, h96, r96⟩ := hp 2 (by decide)
              have e96 : (ac.tmps[96]?).getD undef = .bool false := (ha 96 (by decide)).trans h96
              clear h96
              clear ha hp
              refine Reg.Op1.guarded rfl rfl e96 (fun _ => Reg.Op1.plain rfl ?_) (fun h => absurd rfl h)
              go_wp2
              exact ⟨rfl, hK _ _ rfl (fun j k _ _ => Reg.Adds.refl _ _ _)⟩
            · intro val ac u hR hp ha K hK      -- 5: t99 := Op.move t12
              have e12 : (ac.tmps[12]?).getD undef = .int .i64 ix := ha 12 (by decide)
              obtain ⟨w96, h96, r96⟩ := hp 2 (by decide)
              have e96 : (ac.tmps[96]?).getD undef = .bool false := (ha 96 (by decide)).trans h96
              clear h96
              clear ha hp
              refine Reg.Op1.guarded rfl rfl e96 (fun _ => Reg.Op1.plain rfl ?_) (fun h => absurd rfl h)
              go_wp2
              exact ⟨rfl, hK _ _ rfl (fun j k _ _ => Reg.Adds.refl _ _ _)⟩
            · intro val ac u hR hp ha K hK      -- 6: t100 := Op.indexAddr 47 t98 t99
              obtain ⟨w98, h98, r98⟩ := hp 4 (by decide)
              have e98 : (ac.tmps[98]?).getD undef = .slice (some ⟨by', oy, none⟩) gd.length cy := (ha 98 (by decide)).trans h98
              clear h98
              obtain ⟨w99, h99, r99⟩ := hp 5 (by decide)
              have e99 : (ac.tmps[99]?).getD undef = .int .i64 ix := (ha 99 (by decide)).trans h99
              clear h99
              obtain ⟨w96, h96, r96⟩ := hp 2 (by decide)
              have e96 : (ac.tmps[96]?).getD undef = .bool false := (ha 96 (by decide)).trans h96
              clear h96
              clear ha hp
              refine Reg.Op1.guarded rfl rfl e96 (fun _ => Reg.Op1.plain rfl ?_) (fun h => absurd rfl h)
              go_wp2
              exact ⟨rfl, hK _ _ rfl (fun j k _ _ => Reg.Adds.refl _ _ _)⟩
            · intro val ac u hR hp ha K hK      -- 7: t101 := Op.load 37 t100
              obtain ⟨w100, h100, r100⟩ := hp 6 (by decide)
              have e100 : (ac.tmps[100]?).getD undef = .pointer (some ⟨by', oy + ix * 35, none⟩) := (ha 100 (by decide)).trans h100
              clear h100
              obtain ⟨w96, h96, r96⟩ := hp 2 (by decide)
              have e96 : (ac.tmps[96]?).getD undef = .bool false := (ha 96 (by decide)).trans h96
              clear h96
              clear ha hp
              refine Reg.Op1.guarded rfl rfl e96 (fun _ => Reg.Op1.plain rfl ?_) (fun h => absurd rfl h)
              have hBu : Below wr.heap.size wr u := Below.trans (show Below wr.heap.size wr w9.drew from Mem.below_drewN HB9.out 1) (hR.mono HB9.out.size)
              refine Mem.load_aggG _ _ record_agg by' (oy + ix * 35) (rCells x) (by simp [Region.wanted]) (Reg.eval_of e100) hlx.out (fun j u' hu => hcell.out u hBu j u' hu) ?_
              exact ⟨rfl, hK _ _ rfl (fun j k _ _ => Reg.Adds.refl _ _ _)⟩
            · intro val ac u hR hp ha K hK      -- 8: t102 := Op.binOp BinOp.neq 37 t97 t101 37
              obtain ⟨w97, h97, r97⟩ := hp 3 (by decide)
              have e97 : (ac.tmps[97]?).getD undef = .agg (rCells x).toArray := (ha 97 (by decide)).trans h97
              clear h97
              obtain ⟨w101, h101, r101⟩ := hp 7 (by decide)
              have e101 : (ac.tmps[101]?).getD undef = .agg (rCells x).toArray := (ha 101 (by decide)).trans h101
              clear h101
              obtain ⟨w96, h96, r96⟩ := hp 2 (by decide)
              have e96 : (ac.tmps[96]?).getD undef = .bool false := (ha 96 (by decide)).trans h96
              clear h96
              clear ha hp
              refine Reg.Op1.guarded rfl rfl e96 (fun _ => Reg.Op1.plain rfl ?_) (fun h => absurd rfl h)
              refine Mem.wpList_binG _ _ (by simp [Region.wanted]) (by kernel_rfl) (rCells x).toArray (rCells x).toArray false (Reg.eval_of e97) (Reg.eval_of e101) hKn.out ?_
              exact ⟨rfl, hK _ _ rfl (fun j k _ _ => Reg.Adds.refl _ _ _)⟩
            · intro val ac u hR hp ha K hK      -- 9: t103 := Op.pick t96 (const (Value.bool true)) t102
              obtain ⟨w96, h96, r96⟩ := hp 2 (by decide)
              have e96 : (ac.tmps[96]?).getD undef = .bool false := (ha 96 (by decide)).trans h96
              clear h96
              obtain ⟨w102, h102, r102⟩ := hp 8 (by decide)
              have e102 : (ac.tmps[102]?).getD undef = .bool false := (ha 102 (by decide)).trans h102
              clear h102
              clear ha hp
              refine Reg.Op1.plain rfl ?_
              go_wp2
              exact ⟨rfl, hK _ _ rfl (fun j k _ _ => Reg.Adds.refl _ _ _)⟩
            · intro val ac u hR hp ha K hK      -- 10: t104 := Op.move t103
              obtain ⟨w103, h103, r103⟩ := hp 9 (by decide)
              have e103 : (ac.tmps[103]?).getD undef = .bool false := (ha 103 (by decide)).trans h103
              clear h103
              clear ha hp
              refine Reg.Op1.plain rfl ?_
              go_wp2
              exact ⟨rfl, hK _ _ rfl (fun j k _ _ => Reg.Adds.refl _ _ _)⟩
            · intro val ac u hR hp ha K hK      -- 11: t105 := Op.move t11
              have e11 : (ac.tmps[11]?).getD undef = .int .i64 P := ha 11 (by decide)
              obtain ⟨w104, h104, r104⟩ := hp 10 (by decide)
              have e104 : (ac.tmps[104]?).getD undef = .bool false := (ha 104 (by decide)).trans h104
              clear h104
              clear ha hp
              refine Reg.Op1.guarded rfl rfl e104 (fun _ => Reg.Op1.plain rfl ?_) (fun h => absurd rfl h)
              go_wp2
              exact ⟨rfl, hK _ _ rfl (fun j k _ _ => Reg.Adds.refl _ _ _)⟩
            · intro val ac u hR hp ha K hK      -- 12: t106 := Op.move t14
              have e14 : (ac.tmps[14]?).getD undef = .int .i64 F := ha 14 (by decide)
              obtain ⟨w104, h104, r104⟩ := hp 10 (by decide)
              have e104 : (ac.tmps[104]?).getD undef = .bool false := (ha 104 (by decide)).trans h104
              clear h104
              clear ha hp
              refine Reg.Op1.guarded rfl rfl e104 (fun _ => Reg.Op1.plain rfl ?_) (fun h => absurd rfl h)
              go_wp2
              exact ⟨rfl, hK _ _ rfl (fun j k _ _ => Reg.Adds.refl _ _ _)⟩
            · intro val ac u hR hp ha K hK      -- 13: t107 := Op.binOp BinOp.add 3 t105 t106 3
              obtain ⟨w105, h105, r105⟩ := hp 11 (by decide)
              have e105 : (ac.tmps[105]?).getD undef = .int .i64 P := (ha 105 (by decide)).trans h105
              clear h105
              obtain ⟨w106, h106, r106⟩ := hp 12 (by decide)
              have e106 : (ac.tmps[106]?).getD undef = .int .i64 F := (ha 106 (by decide)).trans h106
              clear h106
              obtain ⟨w104, h104, r104⟩ := hp 10 (by decide)
              have e104 : (ac.tmps[104]?).getD undef = .bool false := (ha 104 (by decide)).trans h104
              clear h104
              clear ha hp
              refine Reg.Op1.guarded rfl rfl e104 (fun _ => Reg.Op1.plain rfl ?_) (fun h => absurd rfl h)
              go_wp2
              exact ⟨rfl, hK _ _ rfl (fun j k _ _ => Reg.Adds.refl _ _ _)⟩
            · intro val ac u hR hp ha K hK      -- 14: t108 := Op.move t7
              have e7 : (ac.tmps[7]?).getD undef = .slice (some ⟨bz, oz, none⟩) gd.length cz := ha 7 (by decide)
              obtain ⟨w104, h104, r104⟩ := hp 10 (by decide)
              have e104 : (ac.tmps[104]?).getD undef = .bool false := (ha 104 (by decide)).trans h104
              clear h104
              clear ha hp
              refine Reg.Op1.guarded rfl rfl e104 (fun _ => Reg.Op1.plain rfl ?_) (fun h => absurd rfl h)
              go_wp2
              exact ⟨rfl, hK _ _ rfl (fun j k _ _ => Reg.Adds.refl _ _ _)⟩
            · intro val ac u hR hp ha K hK      -- 15: t109 := Op.move t12
              have e12 : (ac.tmps[12]?).getD undef = .int .i64 ix := ha 12 (by decide)
              obtain ⟨w104, h104, r104⟩ := hp 10 (by decide)
              have e104 : (ac.tmps[104]?).getD undef = .bool false := (ha 104 (by decide)).trans h104
              clear h104
              clear ha hp
              refine Reg.Op1.guarded rfl rfl e104 (fun _ => Reg.Op1.plain rfl ?_) (fun h => absurd rfl h)
              go_wp2
              exact ⟨rfl, hK _ _ rfl (fun j k _ _ => Reg.Adds.refl _ _ _)⟩
            · intro val ac u hR hp ha K hK      -- 16: t110 := Op.indexAddr 48 t108 t109
              obtain ⟨w108, h108, r108⟩ := hp 14 (by decide)
              have e108 : (ac.tmps[108]?).getD undef = .slice (some ⟨bz, oz, none⟩) gd.length cz := (ha 108 (by decide)).trans h108
              clear h108
              obtain ⟨w109, h109, r109⟩ := hp 15 (by decide)
              have e109 : (ac.tmps[109]?).getD undef = .int .i64 ix := (ha 109 (by decide)).trans h109
              clear h109
              obtain ⟨w104, h104, r104⟩ := hp 10 (by decide)
              have e104 : (ac.tmps[104]?).getD undef = .bool false := (ha 104 (by decide)).trans h104
              clear h104
              clear ha hp
              refine Reg.Op1.guarded rfl rfl e104 (fun _ => Reg.Op1.plain rfl ?_) (fun h => absurd rfl h)
              go_wp2
              exact ⟨rfl, hK _ _ rfl (fun j k _ _ => Reg.Adds.refl _ _ _)⟩
            · intro val ac u hR hp ha K hK      -- 17: t111 := Op.load 3 t110
              obtain ⟨w110, h110, r110⟩ := hp 16 (by decide)
              have e110 : (ac.tmps[110]?).getD undef = .pointer (some ⟨bz, oz + ix, none⟩) := (ha 110 (by decide)).trans h110
              clear h110
              obtain ⟨w104, h104, r104⟩ := hp 10 (by decide)
              have e104 : (ac.tmps[104]?).getD undef = .bool false := (ha 104 (by decide)).trans h104
              clear h104
              clear ha hp
              refine Reg.Op1.guarded rfl rfl e104 (fun _ => Reg.Op1.plain rfl ?_) (fun h => absurd rfl h)
              have hBu : Below wr.heap.size wr u := Below.trans (show Below wr.heap.size wr w9.drew from Mem.below_drewN HB9.out 1) (hR.mono HB9.out.size)
              have x0 := hcell2.out u hBu
              go_wp2
              exact ⟨rfl, hK _ _ rfl (fun j k _ _ => Reg.Adds.refl _ _ _)⟩
            · intro val ac u hR hp ha K hK      -- 18: t112 := Op.binOp BinOp.neq 3 t107 t111 3
              obtain ⟨w107, h107, r107⟩ := hp 13 (by decide)
              have e107 : (ac.tmps[107]?).getD undef = .int .i64 ((P : Int) + (F : Int)) := (ha 107 (by decide)).trans h107
              clear h107
              obtain ⟨w111, h111, r111⟩ := hp 17 (by decide)
              have e111 : (ac.tmps[111]?).getD undef = .int .i64 ((P : Int) + (F : Int)) := (ha 111 (by decide)).trans h111
              clear h111
              obtain ⟨w104, h104, r104⟩ := hp 10 (by decide)
              have e104 : (ac.tmps[104]?).getD undef = .bool false := (ha 104 (by decide)).trans h104
              clear h104
              clear ha hp
              refine Reg.Op1.guarded rfl rfl e104 (fun _ => Reg.Op1.plain rfl ?_) (fun h => absurd rfl h)
              go_wp2
              exact ⟨rfl, hK _ _ rfl (fun j k _ _ => Reg.Adds.refl _ _ _)⟩
            · intro val ac u hR hp ha K hK      -- 19: t113 := Op.pick t104 (const (Value.bool true)) t112
              obtain ⟨w104, h104, r104⟩ := hp 10 (by decide)
              have e104 : (ac.tmps[104]?).getD undef = .bool false := (ha 104 (by decide)).trans h104
              clear h104
              obtain ⟨w112, h112, r112⟩ := hp 18 (by decide)
              have e112 : (ac.tmps[112]?).getD undef = .bool false := (ha 112 (by decide)).trans h112
              clear h112
              clear ha hp
              refine Reg.Op1.plain rfl ?_
              go_wp2
              exact ⟨rfl, hK _ _ rfl (fun j k _ _ => Reg.Adds.refl _ _ _)⟩
          · intro val u hR H
            obtain ⟨_, hv, _⟩ := H 19 (by decide)
            have hv : val 19 = .bool false := hv
            have hS' := HS9.out.grow (Below.trans (show Below w9.heap.size w9 w9.drew from Mem.below_drewN (Below.refl _ _) 1) hR)
            have HSU := Lib.hid hS'
            simp only [List.map_cons, List.map_nil, Reg.lay, Act.put, List.setIfInBounds_toArray, List.set_cons_succ, List.set_cons_zero, Nat.reduceAdd, hv]
            clear hR H hv hS' hcell hcell2
            go_wp2
            go_roundw
            case rel =>
              refine ⟨_, _, _, ?_, rfl, rfl, rfl⟩
              exact ⟨⟨ix + 1, by omega, by rw [HTK.out]; push_cast; rfl, by go_num, HSU⟩⟩
            case measure => simp [intOf]; omega
        · obtain rfl : ix = gd.length := by omega
          clear hlt hi
          go_wp2
          go_ret
          exact ⟨rfl, HSr.out.b⟩
theorem opened {H : Type} (enc : TypeId × Value → H) (W : World) (base : Nat) (v0 v1 : Value) {d0 d1 : DataW H} {p0 p1 : List MemPlace}
    (o0 : Value.okWide Try.prog W .any base 47 v0) (o1 : Value.okWide Try.prog W .any base 39 v1)
    (k0 : DataW.Trod enc Try.prog W 0 (fun _ => true) true 47 v0 d0 p0) (k1 : DataW.Trod enc Try.prog W 0 (fun _ => true) true 39 v1 d1 p1)
    (z0 : (d0.weights Try.prog 47).all (· ≤ reachBytes) = true) (z1 : (d1.weights Try.prog 39).all (· ≤ reachBytes) = true) :
    Calls Try.prog 5 #[v0, v1] W fun e w' => e = .returned (.bool true) ∧ Below W.heap.size W w' := by
  obtain ⟨A, c, rs, rfl, h1, h2, h3⟩ := open_recs o0 k0 z0
  obtain ⟨B, cB, bs, rfl, h4, h5, h6⟩ := open_bytes o1 k1 z1
  exact walk A c rs B cB bs W h2 h3 h6 h1 h4 h5
end wireRowOpen
end Go.Proofs.Ytkfgedgjpgehoaa
