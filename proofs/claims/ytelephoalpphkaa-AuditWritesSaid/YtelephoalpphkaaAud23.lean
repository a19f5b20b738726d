/- The walk of Check. No conditions but that lists are few. -/
import Derived.Test.YtelephoalpphkaaAud22
set_option maxRecDepth 8000
namespace Go.Proofs.Ytelephoalpphkaa
open Go.ChangeShapes Go.WideShapes Go.ChangeAt Go.RowKit
set_option linter.unusedVariables false
set_option linter.unusedSimpArgs false
namespace Au
/-- a history and writes, as Check finds them -/
structure CkIn (w : World) (k : Ck) : Prop where
  H : Mem.Rd w w.heap.size k.hA (k.h.flatMap evCells)
  W : Mem.Rd w w.heap.size k.wA (k.ws.flatMap Vec.entCells)
  E : ∀ e ∈ k.h, EvOk w w.heap.size e
  I : ∀ e ∈ k.h, okI e.cl
  R : ∀ e ∈ k.h, e.res.length ≤ 703687441776
  hl : k.h.length ≤ k.hc
  wl : k.ws.length ≤ k.wc
  hn : k.hc ≤ 9223372036854775807
  wn : k.wc ≤ 9223372036854775807
  n : k.h.length ≤ 1000000
def findsC (k : Ck) : List Fi := (stC k k.h.length).2
theorem meas_lt {n i : Nat} (h : i < n) : n - ((i : Int) + 1).toNat < n - ((i : Int)).toNat := by omega
def CheckEnd (w : World) (k : Ck) (x : Ending) (w' : World) : Prop :=
  ∃ X c, x = .returned (.slice X (findsC k).length c) ∧ Mem.Own w' 50 2 X (findsC k).length c ((findsC k).flatMap fiCells) ∧ Mem.From w.heap.size X ∧ Below w.heap.size w w'
end Au
theorem finding_zero : (Try.prog.info? 50).map (fun i => (i.zero, i.size)) = some (some (.agg (Au.fiCells ⟨0, 0⟩).toArray), 2) := by kernel_rfl
open Au in
set_option maxHeartbeats 8000000 in
theorem check_any {w : World} {k : Au.Ck} (h : Au.CkIn w k) (hb0 : k.bm = w.heap.size) (ha0 : k.at' = 0) :
    Calls Try.prog 12 #[.slice k.hA k.h.length k.hc, .slice k.wA k.ws.length k.wc] w (Au.CheckEnd w k) := by
  have HI := Lib.hid h
  have HB1 : Hid (Below w.heap.size w (w.alloc (.map #[] 0))) := Reg.below_new _ _
  have HM1 : Hid (Mem.MapIs (Value.int .i64) okI (w.alloc (.map #[] 0)) w.heap.size []) := Mem.MapIs.new w
  obtain ⟨w1, hw1⟩ : ∃ z, w.alloc (.map #[] 0) = z := ⟨_, rfl⟩
  rw [hw1] at HB1 HM1
  have HB2 : Hid (Below w1.heap.size w1 (w1.alloc (.cells (ckCells k).toArray 66))) := Reg.below_new _ _
  have HC2 : Hid (Mem.Bx (w1.alloc (.cells (ckCells k).toArray 66)) 66 4 w1.heap.size (ckCells k)) := Mem.Bx.new w1 66 (ckCells k).toArray rfl rfl
  obtain ⟨w2, hw2⟩ : ∃ z, w1.alloc (.cells (ckCells k).toArray 66) = z := ⟨_, rfl⟩
  rw [hw2] at HB2 HC2
  obtain ⟨gc, hgc⟩ : ∃ z, w1.heap.size = z := ⟨_, rfl⟩
  have hl1 : w.heap.size < w1.heap.size := HM1.out.lt
  have HCH : Hid (Chk w2 w.heap.size gc k []) := by
    have hb : Below w.heap.size w w2 := HB1.out.trans (HB2.out.mono HB1.out.size)
    have hi := HI.out
    refine ⟨by rw [← hgc]; exact HC2.out, ?_, (fun r hr => by cases hr), List.nodup_nil, by omega, (fun r hr => by cases hr), by omega, by omega, hi.H.below hb, hi.W.below hb, fun e he => (hi.E e he).below hb (Nat.le_refl _), hb.size, hi.hl, hi.wl, hi.hn, hi.wn, by omega⟩
    rw [hb0]
    exact HM1.out.keeps (Mem.Keeps.of_below HB2.out) id
  have HBW : Hid (Below w.heap.size w w2) := HB1.out.trans (HB2.out.mono HB1.out.size)
  have HGC : Hid (w.heap.size < gc) := by show _ < _; omega
  have HB0 := Lib.hid hb0
  unfold ckCells at hw2
  rw [hb0, ha0, show ((0 : Nat) : Int) = 0 from rfl] at hw2
  clear h hb0 ha0 hl1
  go_enter Try.func12, Try.ntmps12
  go_upto_region 4 with fail
  try rw [hw1]
  try rw [hw2]
  try rw [hgc]
  clear hw1 hw2 hgc
  go_loopw [6, 18] (CkRel w gc k) (fun _ t _ => k.h.length - (intOf t).toNat)
  case atStart => exact ⟨⟨0, none, 0, k.at', [], by omega, rfl, rfl, Mem.Own.nil _ _ _, Mem.From.none_ _, HCH.out, fun m => rfl, (fun q hq => by cases hq), HBW.out⟩⟩
  case round =>
    obtain ⟨j, X, cx, a0, ss, hj, rfl, rfl, HX, HF, HCK, HSO, HXB, HB⟩ := hrel.out
    clear hrel
    by_cases hlt : j < k.h.length
    · obtain ⟨b, o, e, hA, hbl, he, hat⟩ := ev_elem HCK.out.H hlt
      have hst := stC_succ (k := k) he
      have hlen := stC_le k j
      have hme : e ∈ k.h := List.mem_of_getElem? he
      have HAT := Lib.hid hat
      have hbr : b < wr.heap.size := Nat.lt_of_lt_of_le hbl HCK.out.le
      have d0 : decide ((j : Int) < (k.h.length : Int)) = true := by simp; omega
      have HJL := Lib.hid hlt
      have HST := Lib.hid hst
      have HME := Lib.hid hme
      have HLN := Lib.hid hlen
      have hbb : (wr.alloc (.cells (evCells ev0).toArray 46)).heap.size = wr.heap.size + 1 := Array.size_push _
      clear he hat hst hlen hme hbl hlt hbb
      have hA2 : k.hA = some ⟨b, o, none⟩ := hA
      rw [hA2]
      clear hA hA2
      have HAT0 : Hid (∀ q u, (evCells e)[q]? = some u → wr.cell? ⟨b, o + j * 20 + q, none⟩ = some u) := HAT.out.c
      go_upto_region 6 with (first
        | ((with_reducible refine Mem.load_agg _ _ event_agg b (o + j * 20) (evCells e) ?hx (evCells_length e) HAT0.out ?_); case hx => exact rfl)
        | ((with_reducible refine Mem.store_agg _ _ event_agg wr.heap.size (evCells ev0) (evCells e) ?hxj ?hyj ?hbj (evCells_length _) (ev_one _) ?_); (case hxj => exact rfl); (case hyj => exact rfl); (case hbj => exact Mem.Bx.new wr 46 (evCells ev0).toArray rfl rfl); intro w3 hb3 hk3 hs3; have HE3 := Lib.hid hb3; have HK3 := Lib.hid hk3; have HS3 := Lib.hid hs3; clear hb3 hk3 hs3))
      have hb3 : Below wr.heap.size wr w3 := (Reg.below_new wr _).trans (HK3.out.below (B := wr.heap.size) (fun y h => by omega) (Reg.below_new wr _).size)
      have HB3 := Lib.hid hb3
      have HCK3 := Lib.hid (HCK.out.below hb3)
      have x2 : w3.cell? ⟨gc, 2, none⟩ = some (.int .i64 a0) := HCK3.out.c.cell (j := 2) rfl
      have xf := HCK3.out.c.fr
      have HX3 := Lib.hid (HX.out.below hb3 (fun q hq => HX.out.lt hq))
      clear hb3 HK3 HS3 HX HAT HAT0 hbr
      go_upto_region 7 with fail
      have HCK4 : Hid (Chk (w3.setCell ⟨gc, 2, none⟩ (.int .i64 j)) w.heap.size gc (atK k j) ss) := HCK3.out.setAt (by have := HJL.out; exact Nat.le_of_lt this)
      have hk4 := (Mem.Keeps.refl (fun y => y = gc) w3).setCell (p := ⟨gc, 2, none⟩) (fun _ => rfl) (.int .i64 j)
      have hgr : gc < wr.heap.size := HCK.out.c.lt
      have HE4 : Hid (VBx (w3.setCell ⟨gc, 2, none⟩ (.int .i64 j)) wr.heap.size e) := HE3.out.keeps hk4 (by omega)
      have HX4 := Lib.hid (HX3.out.keeps hk4 (fun q hq => (HXB.out q hq).2))
      have HK4 := Lib.hid hk4
      obtain ⟨w4, hw4⟩ : ∃ z, w3.setCell ⟨gc, 2, none⟩ (.int .i64 j) = z := ⟨_, rfl⟩
      rw [hw4] at HCK4 HE4 HX4 HK4
      try rw [hw4]
      clear hw4 hk4 x2 xf HX3 HCK3 HE3
      have HEV := Lib.hid (event_any HCK4.out (HCK4.out.E e HME.out) (HI.out.I e HME.out) (HI.out.R e HME.out))
      have HEC : Hid (∀ q u, (evCells e)[q]? = some u → w4.cell? ⟨wr.heap.size, 0 + q, none⟩ = some u) := VBx.at HE4.out
      go_upto_region 8 with (first
        | ((with_reducible refine Mem.load_agg _ _ event_agg wr.heap.size 0 (evCells e) ?hx (evCells_length e) HEC.out ?_); case hx => exact rfl)
        | (go_at_call 22; (refine HEV.out.mono ?_); rintro x w5 ⟨ss5, D, cD, rfl, hR5, hC5, hS5, hK5, hF5, hD5⟩; have HR5 := Lib.hid hR5; have HC5 := Lib.hid hC5; have HS5 := Lib.hid hS5; have HK5 := Lib.hid hK5; have HF5 := Lib.hid hF5; have HD5 := Lib.hid hD5; clear hR5 hC5 hS5 hK5 hF5 hD5))
      have HX5 := Lib.hid (HX4.out.keeps HK5.out (fun q hq => (HXB.out q hq).1))
      have HXB5 : Hid (∀ q, Mem.blk X = some q → ¬ fpC (atK k j) ss5 q ∧ q ≠ gc ∧ Mem.blk D ≠ some q) := fun q hq => ⟨fun h => (HF5.out q h).elim (HXB.out q hq).1 (fun h => by have := HX4.out.lt hq; omega), (HXB.out q hq).2, fun h => by have h1 := HD5.out q h; have h2 := HX4.out.lt hq; omega⟩
      obtain ⟨l, hl⟩ : ∃ z, (evF (atK k j) (sOf ss e.cl) e).1 = z := ⟨_, rfl⟩
      rw [hl] at HR5
      rw [hl]
      have HL := Lib.hid hl
      obtain ⟨pre, hpre⟩ : ∃ z, (stC k j).2 = z := ⟨_, rfl⟩
      rw [hpre] at HX5
      rw [hpre]
      have HPRE := Lib.hid hpre
      have HB5 : Hid (Below w.heap.size w w5) := HB.out.trans ((HB3.out.mono HB.out.size).trans ((HK4.out.below (fun y h => by subst h; exact Nat.le_of_lt HGC.out) (Nat.le_trans HB.out.size HB3.out.size)).trans (HK5.out.below (fun y h => (HCK4.out.fp h).1) HCK4.out.le)))
      clear hl hpre HX4 HEC HEV HE4 HK4
      go_loopw [6, 31] (InRel w gc (atK k j) ss5 pre l D j) (fun _ t _ => l.length - (intOf t).toNat)
      case atStart => exact ⟨⟨0, X, cx, Nat.zero_le _, by simp [fis], rfl, by simpa [fis] using HX5, HF, HC5, HXB5, HR5, HB5⟩⟩
      case round =>
        obtain ⟨i, X2, c2, hi, rfl, rfl, HX, HF, HCK, HXB, HRD, HB⟩ := hrel.out
        clear hrel
        by_cases hlt : i < l.length
        · obtain ⟨r, hr⟩ : ∃ r, l[i]? = some r := ⟨_, List.getElem?_eq_getElem hlt⟩
          obtain ⟨bD, oD, hD1, hD2, hD3⟩ : ∃ b o, D = some ⟨b, o, none⟩ ∧ b < wr.heap.size ∧ ∀ j u, (l.map (Value.int .i64))[j]? = some u → wr.cell? ⟨b, o + j, none⟩ = some u := by
            rcases HRD.out with h | h
            · rw [List.map_eq_nil_iff] at h; rw [h] at hlt; exact absurd hlt (by simp)
            · exact h
          have xr : wr.cell? ⟨bD, oD + i, none⟩ = some (.int .i64 r) := hD3 i _ (by rw [List.getElem?_map, hr]; rfl)
          have d0 : decide ((i : Int) < (l.length : Int)) = true := by simp; omega
          have HR := Lib.hid hr
          have HLT := Lib.hid hlt
          subst hD1
          clear hD3 hr
          have hnb : (pre ++ fis j (l.take i)).length + 1 ≤ 8000100 := by have h1 := HLN.out; rw [HPRE.out] at h1; have h2 := evF_le (atK k j) (sOf ss e.cl) e; rw [HL.out] at h2; have h3 := HI.out.n; have h4 : (l.take i).length ≤ l.length := (by rw [List.length_take]; exact Nat.min_le_right _ _); rw [List.length_append]; unfold fis; rw [List.length_map]; have h5 := HJL.out; omega
          have hn63 : (pre ++ fis j (l.take i)).length + 1 ≤ maxLen := by unfold maxLen; omega
          go_wp2_with (first | ((with_reducible refine Mem.build1_agg _ _ 2 _ Try.underlying36 finding_zero (by decide) (by decide) (fiCells ⟨j, r⟩) ?hra (fiCells_length _) ?_); (case hra => exact rfl)) | (at_builtin; refine Mem.wpList_app _ rfl (.tmp 35) (.tmp 39) _ rfl findings_elem X2 (pre ++ fis j (l.take i)).length c2 _ rfl (wr.heap.size + 1) (some ⟨wr.heap.size, 0, none⟩) 1 1 (fiCells ⟨j, r⟩) rfl ?_ (HX.out.alloc _) (Mem.Rd.alloc_new wr _ _ _ rfl) rfl (fi_one _) hn63 (by omega); intro X3 c3 w6 hown hg4 hat; have HO6 := Lib.hid hown; have HG6 := Lib.hid hg4; have HAT6 := Lib.hid hat; clear hown hg4 hat))
          have hk6 : Mem.Keeps (fun q => Mem.blk X2 = some q) wr w6 := ((Mem.Keeps.refl (fun q => Mem.blk X2 = some q) wr).alloc _).grown HG6.out (fun k hk _ => hk)
          have hC6 := HCK.out.keeps hk6 (fun q hq _ => ⟨HF.out.blk q hq, (HXB.out q hq).1, (HXB.out q hq).2.1⟩)
          have hR6 := HRD.out.keepsAt hk6 (Nat.le_refl _) (fun q hq h => (HXB.out q h).2.2 hq)
          have hB6 := HB.out.trans (hk6.below (fun q h => HF.out.blk q h) HB.out.size)
          have hlt6 : i < l.length := HLT.out
          have hn6 : l.length ≤ 8 := by have h2 := evF_le (atK k j) (sOf ss e.cl) e; rw [HL.out] at h2; exact h2
          have hw : wrap64 ((i : Int) + 1) = (i : Int) + 1 := IntWalk.wrap64_in _ (by omega)
          have ht : pre ++ fis j (l.take (i + 1)) = (pre ++ fis j (l.take i)) ++ [⟨j, r⟩] := by rw [Mem.take_snoc HR.out]; unfold fis; rw [List.map_append, List.append_assoc]; rfl
          have hsz : wr.heap.size ≤ (wr.alloc (.cells (fiCells ⟨j, r⟩).toArray 50)).heap.size := (Reg.below_new wr _).size
          have e1 : (pre ++ fis j (l.take (i + 1))).length = (pre ++ fis j (l.take i)).length + 1 := by rw [ht]; exact List.length_append
          have e2 : (pre ++ fis j (l.take (i + 1))).flatMap fiCells = (pre ++ fis j (l.take i)).flatMap fiCells ++ fiCells ⟨j, r⟩ := by rw [ht, List.flatMap_append]; rfl
          have hO6 : Mem.Own w6 50 2 X3 (pre ++ fis j (l.take (i + 1))).length c3 ((pre ++ fis j (l.take (i + 1))).flatMap fiCells) := by rw [e1, e2]; exact HO6.out
          have e3 : pre.length + (fis j (l.take i)).length + 1 = (pre ++ fis j (l.take (i + 1))).length := by rw [e1, List.length_append]
          rw [hw, e3]
          refine ⟨⟨⟨i + 1, X3, c3, hlt6, rfl, rfl, hO6, ?_, hC6, ?_, hR6, hB6⟩⟩, ?_⟩
          · rcases HAT6.out with h | h
            · rw [h]; exact HF.out
            · rw [h]; exact Mem.From.some_ (Nat.le_trans HB.out.size hsz)
          · rcases HAT6.out with h | h
            · rw [h]; exact HXB.out
            · rw [h]
              intro q hq
              have hq' : wr.heap.size ≤ q := Nat.le_trans hsz (Nat.le_of_eq (Option.some.inj hq))
              clear hw hn63 hnb
              refine ⟨fun h => ?_, ?_, fun h => ?_⟩
              · have h2 := (HCK.out.fp h).2.1
                omega
              · have h2 := HCK.out.c.lt
                omega
              · have h2 : bD = q := Option.some.inj h
                omega
          · exact Au.meas_lt hlt6
        · obtain rfl : i = l.length := by omega
          have d0 : decide ((l.length : Int) < (l.length : Int)) = false := by simp
          go_wp2
          rw [List.take_of_length_le (Nat.le_refl _)] at HX ⊢
          have hS : ∀ m, (stC k j).1 m = sOf ss m := fun m => (HSO.out m).symm
          have h6 : (stC k (j + 1)).2 = pre ++ fis j l := by rw [HST.out]; show (stC k j).2 ++ _ = _; rw [HPRE.out, hS, HL.out]; rfl
          have h7 : ∀ m, sOf ss5 m = (stC k (j + 1)).1 m := fun m => by rw [HST.out, HS5.out m]; show _ = ite _ _ _; rw [hS, hS]
          have hjl := HJL.out
          have hkn := HI.out.n
          have hw : wrap64 ((j : Int) + 1) = (j : Int) + 1 := IntWalk.wrap64_in _ (by omega)
          rw [hw]
          refine ⟨⟨⟨j + 1, X2, c2, j, ss5, by omega, by rw [h6], rfl, by rw [h6]; exact HX, HF, HCK, h7, fun q hq => ⟨(HXB.out q hq).1, (HXB.out q hq).2.1⟩, HB⟩⟩, ?_⟩
          exact Au.meas_lt hjl
    · obtain rfl : j = k.h.length := by omega
      have d0 : decide ((k.h.length : Int) < (k.h.length : Int)) = false := by simp
      have HX2 : Hid (Mem.Own wr 50 2 X (findsC k).length cx ((findsC k).flatMap fiCells)) := HX.out
      rw [show (stC k k.h.length).2 = findsC k from rfl]
      clear HX HCK HSO HXB
      go_wp2
      go_ret
      exact ⟨X, cx, rfl, HX2.out, HF.out, HB.out⟩
end Go.Proofs.Ytelephoalpphkaa
