/- The walks of a store's Keys, of words and entries of its statements. Stores that are few. -/
import Derived.Test.YtfafehffnjbhnaaStAble
import Derived.Sort.Grow
import Derived.Sort.KeysCollected
set_option maxRecDepth 8000
namespace Go.Proofs.Ytfafehffnjbhnaa
open Go.ChangeShapes Go.WideShapes Go.ChangeAt Go.RowKit
set_option linter.unusedVariables false
set_option linter.unusedSimpArgs false
namespace Mem
open Go.Sort in
/-- a row of the call's own, sorted in place -/
theorem Own.sorted {α : Type} [Inhabited α] (enc : α → Value) {w : World} {e : TypeId} {g o n c : Nat} {xs ys : List α} (h : Own w e 1 (some ⟨g, o, none⟩) n c (xs.map enc)) (hl : ys.length = xs.length) (m : Nat) (os : Array Obj) :
    Own (grow (putRow enc (Go.Sort.ahead w m) g o ys.toArray) os) e 1 (some ⟨g, o, none⟩) n c (ys.map enc) ∧ Keeps (fun k => k = g) w (grow (putRow enc (Go.Sort.ahead w m) g o ys.toArray) os) := by
  have hlen := h.1
  rw [List.length_map] at hlen
  refine ⟨⟨by rw [List.length_map, hl, hlen], ?_⟩, ?_⟩
  · rcases h.2 with ⟨h0, _⟩ | ⟨g', o', cur, h0, hg, hnc, hcm, hcs, hcell⟩
    · cases h0
    · cases h0
      have hlt : g < w.heap.size := (Array.getElem?_eq_some_iff.1 hg).1
      refine .inr ⟨g, o, putCells enc o ys.toArray cur, rfl, ?_, hnc, hcm, by simpa [putCells] using hcs, ?_⟩
      · rw [heap_grow_old _ _ (by simpa [putRow, mapBlock, Go.Sort.ahead] using hlt)]
        simp [putRow, mapBlock, Go.Sort.ahead, Array.getElem?_modify, hg, onCells]
      · intro j u hu
        rw [List.getElem?_map] at hu
        cases hy : ys[j]? with
        | none => rw [hy] at hu; cases hu
        | some y =>
          rw [hy] at hu
          have hu2 : enc y = u := by simpa using hu
          obtain ⟨h1, h2⟩ := List.getElem?_eq_some_iff.1 hy
          have hx : cur[o + j]? = some (enc xs[j]) := hcell j _ (by rw [List.getElem?_map, List.getElem?_eq_getElem (by omega)]; rfl)
          simp only [putCells, Array.getElem?_mapIdx, hx, Option.map_some]
          rw [if_pos ⟨by omega, by rw [List.size_toArray]; omega⟩, show o + j - o = j by omega, ← hu2, ← h2]
          simp [h1]
  · refine ⟨rfl, rfl, rfl, by simp [putRow, mapBlock, Go.Sort.ahead], fun k hk hs => ?_⟩
    rw [heap_grow_old _ _ (by simpa [putRow, mapBlock, Go.Sort.ahead] using hk)]
    simp only [putRow, mapBlock, Go.Sort.ahead, Array.getElem?_modify]
    rw [if_neg (fun e => hs e.symm)]
open Go.Sort in
theorem Own.holds {α : Type} [Inhabited α] (enc : α → Value) {w : World} {e : TypeId} {g o n c : Nat} {xs : List α} (h : Own w e 1 (some ⟨g, o, none⟩) n c (xs.map enc)) : Holds enc w g o xs.toArray := by
  intro j hj
  rw [List.size_toArray] at hj
  refine ⟨?_, h.free _⟩
  rw [h.cell (j := j) (u := enc xs[j]) (by rw [List.getElem?_map, List.getElem?_eq_getElem hj]; rfl)]
  simp [hj]
end Mem
theorem strs_elem : Mem.Elem Try.prog 45 9 1 16 := Mem.elem_of Try.underlying45 (z := .string ⟨#[]⟩) (by kernel_rfl) rfl (by omega)
namespace Sto
def bB (s : ByteArray) : List UInt8 := s.data.toList
def toB (l : List UInt8) : ByteArray := ⟨l.toArray⟩
theorem toB_bB (s : ByteArray) : toB (bB s) = s := by cases s; simp [toB, bB]
theorem bB_toB (l : List UInt8) : bB (toB l) = l := by simp [toB, bB]
/-- texts, sorted -/
def sortK (l : List ByteArray) : List ByteArray := ((l.map bB).mergeSort leB).map toB
theorem sortK_len (l : List ByteArray) : (sortK l).length = l.length := by unfold sortK; rw [List.length_map, List.length_mergeSort, List.length_map]
theorem sortK_perm {a b : List ByteArray} (h : a.Perm b) : sortK a = sortK b := by unfold sortK; rw [mergeSort_of_perm (h.map bB)]
theorem sortK_self (l : List ByteArray) : (sortK l).Perm l := by
  unfold sortK
  refine ((List.mergeSort_perm (l.map bB) leB).map toB).trans ?_
  rw [List.map_map, show toB ∘ bB = id from funext toB_bB, List.map_id]
theorem sortK_sorted (l : List ByteArray) : (sortK l).Pairwise fun x y => bB x ≤ bB y := by
  unfold sortK
  rw [List.pairwise_map]
  have tr : ∀ a b c : List UInt8, leB a b = true → leB b c = true → leB a c = true := fun a b c h1 h2 => by simp only [leB, decide_eq_true_eq] at *; exact List.le_trans h1 h2
  have tt : ∀ a b : List UInt8, (leB a b || leB b a) = true := fun a b => by simp only [leB, Bool.or_eq_true, decide_eq_true_eq]; exact List.le_total a b
  refine (List.pairwise_mergeSort tr tt (l.map bB)).imp fun {x y} h => ?_
  rw [bB_toB, bB_toB]
  simpa [leB] using h
theorem enc_map (l : List ByteArray) : (l.map bB).map encStr = l.map Value.string := by
  rw [List.map_map]
  refine List.map_congr_left fun s _ => ?_
  show Value.string (toB (bB s)) = _
  rw [toB_bB]
structure KyRel (w : World) (rs : List LR) (b r : Nat) (v3 : Value) (wr : World) : Prop where
  out : ∃ (lf dn : List LR) (A : Option Addr) (c : Nat), Hid ((dn ++ lf).Perm rs) ∧ v3 = .slice A dn.length c ∧ dn.length + lf.length = rs.length ∧ Hid (Mem.Own wr 9 1 A dn.length c ((dn.map (·.l.k)).map Value.string)) ∧ Hid (∀ k, Mem.blk A = some k → w.heap.size < k) ∧ Hid (Mem.IterIs Value.string okS wr b r (rs.map ent) (lf.map ent)) ∧ Hid (Mem.Keeps (fun _ => False) w wr)
end Sto
open Go.Sort in
theorem sortStr_any (g o c : Nat) (l : List ByteArray) (w : World) (hO : Mem.Own w 9 1 (some ⟨g, o, none⟩) l.length c (l.map Value.string)) (hn : l.length < 4611686018427387904) :
    Calls Try.prog 40 #[.slice (some ⟨g, o, none⟩) l.length c] w fun x w' => x = .returned (.tuple #[]) ∧ Mem.Own w' 9 1 (some ⟨g, o, none⟩) l.length c ((Sto.sortK l).map Value.string) ∧ Mem.Keeps (fun k => k = g) w w' := by
  rw [← Sto.enc_map] at hO
  have h := Any.slices_Sort_string stStrLays g o c (l.map Sto.bB) w (Mem.Own.holds encStr hO) (hO.lt rfl) (by rw [List.length_map]; exact hn)
  rw [List.length_map] at h
  refine h.mono ?_
  rintro x w' ⟨rfl, n, os, rfl⟩
  obtain ⟨q1, q2⟩ := Mem.Own.sorted encStr hO (ys := (l.map Sto.bB).mergeSort leB) (by rw [List.length_mergeSort]) n os
  refine ⟨rfl, ?_, q2⟩
  have e : (Sto.sortK l).map Value.string = ((l.map Sto.bB).mergeSort leB).map encStr := by
    unfold Sto.sortK
    rw [List.map_map]
    rfl
  rw [e]
  exact q1
theorem sortStr_none (p : Option Addr) (c : Nat) (w : World) :
    Calls Try.prog 40 #[.slice p 0 c] w fun x w' => x = .returned (.tuple #[]) ∧ w' = w := Any.slices_Sort_string_none stStrLays p c w
open Sto in
set_option maxHeartbeats 2000000 in
theorem storeKeys_any {w : World} {g b : Nat} {rng : Int} {mk : Vec.Col} {rs : List Sto.LR} (h : Sto.SS w g b rng mk rs) (hu : rs.length ≤ 1000000) :
    Calls Try.prog 16 #[.pointer (some ⟨g, 0, none⟩)] w fun x w' => ∃ A' c', x = .returned (.slice A' rs.length c') ∧ Mem.Own w' 9 1 A' rs.length c' ((Sto.sortK (rs.map (·.l.k))).map Value.string) ∧ Mem.From w.heap.size A' ∧ Below w.heap.size w w' := by
  have x0 : w.cell? ⟨g, 1, none⟩ = some (.map (some b)) := h.B.cell (j := 1) rfl
  obtain ⟨w1, hrun, hI, hk1, hs1⟩ := h.M.range (P := Try.prog) Try.underlying69
  have HD := Lib.hid h
  have HI1 := Lib.hid hI
  have HK1 := Lib.hid hk1
  clear h hI hk1
  obtain ⟨gt, hgt⟩ : ∃ gt, w.heap.size = gt := ⟨_, rfl⟩
  rw [hgt] at hrun HI1
  have HGT := Lib.hid hgt
  clear hgt hs1
  go_enter Try.func16, Try.ntmps16
  go_wp2
  clear hrun x0
  go_loopw [3] (KyRel w rs b gt) (fun _ wq => wq.rangeLeft b gt)
  case atStart => exact ⟨⟨rs, [], none, 0, List.Perm.refl _, rfl, by simp, Mem.Own.nil _ _ _, (fun k hk => by cases hk), HI1, HK1⟩⟩
  case round =>
    obtain ⟨lf, dn, A3, c3, HP, rfl, hsum, HO, HF, HI, HK⟩ := hrel.out
    clear hrel
    rcases HI.out.nexts Try.prog with ⟨hl, hrun⟩ | ⟨i, p, w2, hp, hrun, hI2, hk2, hs2, hen⟩
    · have hlf : lf = [] := by simpa using hl
      subst hlf
      have hsum2 : dn.length = rs.length := by simpa using hsum
      have hpm : sortK (dn.map (·.l.k)) = sortK (rs.map (·.l.k)) := sortK_perm ((List.append_nil dn ▸ HP.out).map _)
      have HPM := Lib.hid hpm
      have hB : Below w.heap.size w wr := HK.out.below (fun k h => h.elim) (Nat.le_refl _)
      have HB := Lib.hid hB
      clear hl hsum hpm HP HI HK hB
      rw [hsum2] at HO ⊢
      have HL : Hid ((dn.map (·.l.k)).length = rs.length) := by show _ = _; rw [List.length_map, hsum2]
      by_cases h0 : rs.length = 0
      · have HS0 := Lib.hid (sortStr_none A3 c3 wr)
        rw [h0] at HO HL ⊢
        have H00 := Lib.hid h0
        clear hsum2 h0
        go_wp2_with (go_at_call 40; refine HS0.out.mono ?_; rintro x9 w9 ⟨rfl, rfl⟩; clear HS0)
        go_ret
        rw [H00.out]
        refine ⟨A3, c3, rfl, ?_, ?_, HB.out⟩
        · have e1 : dn.map (·.l.k) = [] := List.eq_nil_of_length_eq_zero HL.out
          rw [← HPM.out, e1, show sortK [] = [] from List.eq_nil_of_length_eq_zero (sortK_len [])]
          have h9 := HO.out
          rw [e1] at h9
          exact h9
        · intro ad had
          have := HF.out ad.block (by rw [had]; rfl)
          omega
      · obtain ⟨g3, o3, rfl⟩ := HO.out.form (by omega)
        have hs := sortStr_any g3 o3 c3 (dn.map (·.l.k)) wr (by rw [HL.out]; exact HO.out) (by rw [HL.out]; omega)
        rw [HL.out] at hs
        have HS := Lib.hid hs
        have hg3 := HF.out g3 rfl
        have HG3 := Lib.hid hg3
        clear hs h0 hsum2 hg3 HF
        go_wp2_with (go_at_call 40; refine HS.out.mono ?_; rintro x9 w9 ⟨rfl, q1, q2⟩; clear HS)
        go_ret
        rw [HPM.out] at q1
        refine ⟨_, c3, rfl, q1, Mem.From.some_ (by have := HG3.out; omega), HB.out.trans (q2.below (fun k h => by subst h; have := HG3.out; omega) HB.out.size)⟩
    · obtain ⟨r, hr, hpr⟩ : ∃ r, lf[i]? = some r ∧ p = ent r := by
        rw [List.getElem?_map] at hp
        cases hl : lf[i]? with
        | none => rw [hl] at hp; cases hp
        | some r => rw [hl] at hp; exact ⟨r, rfl, by simpa using hp.symm⟩
      subst hpr
      have hilt := (List.getElem?_eq_some_iff.1 hr).1
      have hpe := erase_perm hr
      have hlen : (lf.eraseIdx i).length = lf.length - 1 := by rw [List.length_eraseIdx, if_pos hilt]
      have hI3 : Mem.IterIs (Value.string) okS w2 b gt (rs.map ent) ((lf.eraseIdx i).map ent) := by rw [ChangeMaps.map_eraseIdx]; exact hI2
      have hP2 : ((dn ++ [r]) ++ lf.eraseIdx i).Perm rs := by
        rw [List.append_assoc]
        exact (List.Perm.append_left dn hpe).trans HP.out
      have hK2 : Mem.Keeps (fun _ => False) w w2 := HK.out.trans hk2 (fun q hq hlt => by have := HGT.out; omega)
      have hO2 : Mem.Own w2 9 1 A3 dn.length c3 ((dn.map (·.l.k)).map (Value.string)) := HO.out.keeps hk2 (fun k hk e => by have := HF.out k hk; have := HGT.out; omega)
      have hc0 := HI.out.count
      have hwl := hK2.size
      have hgtl : gt < w2.heap.size := hI3.lt
      have hbl : b < w.heap.size := HD.out.M.lt
      have HI3 := Lib.hid hI3
      have HK2 := Lib.hid hK2
      have HP2 := Lib.hid hP2
      have HO2 := Lib.hid hO2
      have HC0 := Lib.hid hc0
      unfold ent at hrun hen
      dsimp only at hrun hen
      clear hp hr hpe hI2 hI3 hk2 hs2 hK2 hP2 HI HK HP HO hO2 hc0
      have HKA : Hid (Mem.Keeps (fun q => Mem.blk A3 = some q) w2 (w2.alloc (.cells #[.string r.l.k] 9))) := (Mem.Keeps.refl (fun q => Mem.blk A3 = some q) w2).alloc _
      go_wp2_with (at_builtin; refine Mem.wpList_app _ rfl (.tmp 14) (.tmp 16) _ rfl strs_elem A3 dn.length c3 _ rfl (w2.heap.size + 1) (some ⟨w2.heap.size, 0, none⟩) 1 1 [.string r.l.k] rfl ?_ (HO2.out.alloc _) (Mem.Rd.alloc_new w2 _ _ _ rfl) rfl (by simp [Value.oneCell']) (by unfold maxLen; omega) (by omega); intro A4 c4 w3 hown hg2 hat; have hk3 := HKA.out.grown hg2 (fun k hk _ => hk); have HK3 := Lib.hid hk3; have HO3 := Lib.hid hown; have HAT := Lib.hid hat; clear hown hg2 hat hk3)
      have hF3 : Hid (∀ k, Mem.blk A4 = some k → w.heap.size < k) := fun k hk => by
        rcases HAT.out with h | h
        · rw [h] at hk; exact HF.out k hk
        · rw [h] at hk
          have e9 : (w2.alloc (.cells #[.string r.l.k] 9)).heap.size = k := (by simpa [Mem.blk] using hk)
          have e8 : (w2.alloc (.cells #[.string r.l.k] 9)).heap.size = w2.heap.size + 1 := Array.size_push _
          have := HGT.out
          omega
      have hI4 : Mem.IterIs (Value.string) okS w3 b gt (rs.map ent) ((lf.eraseIdx i).map ent) := HI3.out.keeps HK3.out (fun h => by have := HF.out b h; omega) (fun h => by have := HF.out gt h; have := HGT.out; omega)
      have hcnt : w3.rangeLeft b gt < wr.rangeLeft b gt := by
        rw [hI4.count, HC0.out, List.length_map, List.length_map, hlen]; omega
      have HI4 := Lib.hid hI4
      have HCN := Lib.hid hcnt
      have hK4 : Hid (Mem.Keeps (fun _ => False) w w3) := HK2.out.trans HK3.out (fun q hq hlt => by have := HF.out q hq; omega)
      have hO4 : Hid (Mem.Own w3 9 1 A4 (dn ++ [r]).length c4 (((dn ++ [r]).map (·.l.k)).map (Value.string))) := by
        show Mem.Own _ _ _ _ _ _ _
        rw [List.length_append, List.map_append, List.map_append]; exact HO3.out
      have hdl : (dn ++ [r]).length = dn.length + 1 := List.length_append
      have HDL := Lib.hid hdl
      clear HO2 HO3 HAT HI3 HK2 HK3 HKA hI4 hcnt HC0 hdl
      go_wp2
      go_roundw
      case rel => exact ⟨⟨lf.eraseIdx i, dn ++ [r], A4, c4, HP2, by rw [HDL.out], by rw [HDL.out, hlen]; omega, hO4, hF3, HI4, hK4⟩⟩
      case measure => exact HCN.out
namespace Sto
def eqWs (a b : List ByteArray) : Bool := decide (a = b)
structure WdRel (w : World) (a b : List ByteArray) (v5 : Value) (wr : World) : Prop where
  out : ∃ k : Nat, k ≤ a.length ∧ v5 = .int .i64 k ∧ Hid (a.take k = b.take k) ∧ Hid (Below w.heap.size w wr)
structure EnRel (w : World) (a b : List Vec.Ent) (v5 : Value) (wr : World) : Prop where
  out : ∃ k : Nat, k ≤ a.length ∧ v5 = .int .i64 k ∧ Hid (a.take k = b.take k) ∧ Hid (Below w.heap.size w wr)
end Sto
open Sto in
/-- two lists of texts that are alike -/
theorem words_same (A B : Option Addr) (ca cb : Nat) (l : List ByteArray) (w : World) (hA : Mem.Rd w w.heap.size A (l.map Value.string)) (hB : Mem.Rd w w.heap.size B (l.map Value.string)) (hn : l.length ≤ maxLen) :
    Calls Try.prog 17 #[.slice A l.length ca, .slice B l.length cb] w fun x w' => x = .returned (.bool true) ∧ Below w.heap.size w w' := by
  unfold maxLen at hn
  have HA := Lib.hid hA
  have HB := Lib.hid hB
  clear hA hB
  have d1 : ((l.length : Int) != (l.length : Int)) = false := by simp
  go_enter Try.func17, Try.ntmps17
  go_wp2
  go_loopw [5] (WdRel w l l) (fun t _ => l.length - (intOf t).toNat)
  case atStart => exact ⟨⟨0, by omega, rfl, rfl, Below.refl _ _⟩⟩
  case round =>
    obtain ⟨k, hk, rfl, _, HW⟩ := hrel.out
    clear hrel
    by_cases hlt : k < l.length
    · obtain ⟨b1, o1, rfl, hb1, hc1⟩ := HA.out.at (k := k) (by simpa using hlt)
      obtain ⟨b2, o2, rfl, hb2, hc2⟩ := HB.out.at (k := k) (by simpa using hlt)
      simp only [List.getElem_map] at hc1 hc2
      obtain ⟨s, hs⟩ : ∃ s, l[k] = s := ⟨_, rfl⟩
      rw [hs] at hc1 hc2
      have x1 := (HW.out.cell (p := ⟨b1, o1 + k, none⟩) hb1).trans hc1
      have x2 := (HW.out.cell (p := ⟨b2, o2 + k, none⟩) hb2).trans hc2
      have d2 : (s.toList != s.toList) = false := by simp
      clear hc1 hc2 hs
      go_wp2
      go_quiet (fail)
      go_wp2
      go_roundw
      case rel => exact ⟨⟨k + 1, by omega, by go_num, rfl, Mem.below_drewN HW.out _⟩⟩
      case measure => simp [intOf]; omega
    · obtain rfl : k = l.length := by omega
      go_wp2
      go_ret
      exact ⟨rfl, HW.out⟩
open Sto Vec in
/-- two lists of writes that are alike -/
theorem entries_same (A B : Option Addr) (ca cb : Nat) (l : List Vec.Ent) (w : World) (hA : Mem.Rd w w.heap.size A (l.flatMap entCells)) (hB : Mem.Rd w w.heap.size B (l.flatMap entCells)) (hn : l.length ≤ maxLen) :
    Calls Try.prog 18 #[.slice A l.length ca, .slice B l.length cb] w fun x w' => x = .returned (.bool true) ∧ Below w.heap.size w w' := by
  unfold maxLen at hn
  have HA := Lib.hid hA
  have HB := Lib.hid hB
  clear hA hB
  have d1 : ((l.length : Int) != (l.length : Int)) = false := by simp
  go_enter Try.func18, Try.ntmps18
  go_wp2
  go_loopw [5] (EnRel w l l) (fun t _ => l.length - (intOf t).toNat)
  case atStart => exact ⟨⟨0, by omega, rfl, rfl, Below.refl _ _⟩⟩
  case round =>
    obtain ⟨k, hk, rfl, _, HW⟩ := hrel.out
    clear hrel
    by_cases hlt : k < l.length
    · obtain ⟨b1, o1, e, rfl, hb1, he, hat1⟩ := ent_elem HA.out hlt
      obtain ⟨b2, o2, e2, rfl, hb2, he2, hat2⟩ := ent_elem HB.out hlt
      rw [he] at he2
      cases he2
      have H1 := Lib.hid (hat1.below HW.out hb1)
      have H2 := Lib.hid (hat2.below HW.out hb2)
      have e1 : ∀ W, (binOp .neq 40 (.agg (entCells e).toArray) (.agg (entCells e).toArray)).run Try.prog W = .ok (.bool false) W := fun W => by rw [neq_ent, eqEnt_iff.2 rfl]; rfl
      have E1 := Lib.hid e1
      have hb1' := Nat.lt_of_lt_of_le hb1 HW.out.size
      have hb2' := Nat.lt_of_lt_of_le hb2 HW.out.size
      clear hat1 hat2 he e1
      go_upto_region 6 with fail
      refine Reg.wp_region_rel (by kernel_rfl) 26 9 rfl rfl (by kernel_rfl) (Reg.Adds) (Reg.Adds.refl) (Reg.Adds.trans)
        (fun i v u => match i with
          | 0 => v = .slice (some ⟨b1, o1, none⟩) l.length ca
          | 1 => v = .int .i64 k
          | 2 => v = .pointer (some ⟨b1, o1 + k * 20, none⟩)
          | 3 => v = .agg (entCells e).toArray
          | 4 => v = .slice (some ⟨b2, o2, none⟩) l.length cb
          | 5 => v = .int .i64 k
          | 6 => v = .pointer (some ⟨b2, o2 + k * 20, none⟩)
          | 7 => v = .agg (entCells e).toArray
          | 8 => v = .bool false
          | _ => True) ?_ ?_
      · refine Reg.Steps.cons ?_ (Reg.Steps.cons ?_ (Reg.Steps.cons ?_ (Reg.Steps.cons ?_ (Reg.Steps.cons ?_ (Reg.Steps.cons ?_ (Reg.Steps.cons ?_ (Reg.Steps.cons ?_ (Reg.Steps.cons ?_ (Reg.Steps.nil _)))))))))
        · intro val ac u hR hp ha K hK
          have e0 : (ac.tmps[0]?).getD undef = .slice (some ⟨b1, o1, none⟩) l.length ca := ha 0 (by decide); clear ha hp
          refine Reg.Op1.plain rfl ?_
          go_wp2
          exact ⟨rfl, hK _ _ rfl (fun j k _ _ => Reg.Adds.refl _ _ _)⟩
        · intro val ac u hR hp ha K hK
          have e5 : (ac.tmps[5]?).getD undef = .int .i64 k := ha 5 (by decide); clear ha hp
          refine Reg.Op1.plain rfl ?_
          go_wp2
          exact ⟨rfl, hK _ _ rfl (fun j k _ _ => Reg.Adds.refl _ _ _)⟩
        · intro val ac u hR hp ha K hK
          obtain ⟨w17, h17, r17⟩ := hp 0 (by decide); have e17 : (ac.tmps[17]?).getD undef = .slice (some ⟨b1, o1, none⟩) l.length ca := (ha 17 (by decide)).trans h17; obtain ⟨w18, h18, r18⟩ := hp 1 (by decide); have e18 : (ac.tmps[18]?).getD undef = .int .i64 k := (ha 18 (by decide)).trans h18; clear h17 h18 ha hp
          refine Reg.Op1.plain rfl ?_
          go_wp2
          exact ⟨rfl, hK _ _ rfl (fun j k _ _ => Reg.Adds.refl _ _ _)⟩
        · intro val ac u hR hp ha K hK
          obtain ⟨w19, h19, r19⟩ := hp 2 (by decide); have e19 : (ac.tmps[19]?).getD undef = .pointer (some ⟨b1, o1 + k * 20, none⟩) := (ha 19 (by decide)).trans h19; clear h19 ha hp
          refine Reg.Op1.plain rfl ?_
          refine Mem.load_agg _ _ entry_agg b1 (o1 + k * 20) (entCells e) (Reg.eval_of e19) (entCells_length _) (fun q u' hu => (hR.cell (p := ⟨b1, o1 + k * 20 + q, none⟩) hb1').trans (H1.out.c q u' hu)) ?_
          exact ⟨rfl, hK _ _ rfl (fun j k _ _ => Reg.Adds.refl _ _ _)⟩
        · intro val ac u hR hp ha K hK
          have e1 : (ac.tmps[1]?).getD undef = .slice (some ⟨b2, o2, none⟩) l.length cb := ha 1 (by decide); clear ha hp
          refine Reg.Op1.plain rfl ?_
          go_wp2
          exact ⟨rfl, hK _ _ rfl (fun j k _ _ => Reg.Adds.refl _ _ _)⟩
        · intro val ac u hR hp ha K hK
          have e5 : (ac.tmps[5]?).getD undef = .int .i64 k := ha 5 (by decide); clear ha hp
          refine Reg.Op1.plain rfl ?_
          go_wp2
          exact ⟨rfl, hK _ _ rfl (fun j k _ _ => Reg.Adds.refl _ _ _)⟩
        · intro val ac u hR hp ha K hK
          obtain ⟨w21, h21, r21⟩ := hp 4 (by decide); have e21 : (ac.tmps[21]?).getD undef = .slice (some ⟨b2, o2, none⟩) l.length cb := (ha 21 (by decide)).trans h21; obtain ⟨w22, h22, r22⟩ := hp 5 (by decide); have e22 : (ac.tmps[22]?).getD undef = .int .i64 k := (ha 22 (by decide)).trans h22; clear h21 h22 ha hp
          refine Reg.Op1.plain rfl ?_
          go_wp2
          exact ⟨rfl, hK _ _ rfl (fun j k _ _ => Reg.Adds.refl _ _ _)⟩
        · intro val ac u hR hp ha K hK
          obtain ⟨w23, h23, r23⟩ := hp 6 (by decide); have e23 : (ac.tmps[23]?).getD undef = .pointer (some ⟨b2, o2 + k * 20, none⟩) := (ha 23 (by decide)).trans h23; clear h23 ha hp
          refine Reg.Op1.plain rfl ?_
          refine Mem.load_agg _ _ entry_agg b2 (o2 + k * 20) (entCells e) (Reg.eval_of e23) (entCells_length _) (fun q u' hu => (hR.cell (p := ⟨b2, o2 + k * 20 + q, none⟩) hb2').trans (H2.out.c q u' hu)) ?_
          exact ⟨rfl, hK _ _ rfl (fun j k _ _ => Reg.Adds.refl _ _ _)⟩
        · intro val ac u hR hp ha K hK
          obtain ⟨w20, h20, r20⟩ := hp 3 (by decide); have e20 : (ac.tmps[20]?).getD undef = .agg (entCells e).toArray := (ha 20 (by decide)).trans h20; obtain ⟨w24, h24, r24⟩ := hp 7 (by decide); have e24 : (ac.tmps[24]?).getD undef = .agg (entCells e).toArray := (ha 24 (by decide)).trans h24; clear h20 h24 ha hp
          refine Reg.Op1.plain rfl ?_
          have e1 := E1.out
          go_wp2
          exact ⟨rfl, hK _ _ rfl (fun j k _ _ => Reg.Adds.refl _ _ _)⟩
      intro val u hR H
      obtain ⟨_, hv, _⟩ := H 8 (by decide)
      have hv : val 8 = .bool false := hv
      have HBu : Hid (Below w.heap.size w u) := HW.out.trans (((Below.refl _ wr).drew.trans hR).mono HW.out.size)
      simp only [List.map_cons, List.map_nil, Reg.lay, Act.put, List.setIfInBounds_toArray, List.set_cons_succ, List.set_cons_zero, Nat.reduceAdd, hv]
      clear hR H hv
      go_wp2
      go_roundw
      case rel => exact ⟨⟨k + 1, by omega, by go_num, rfl, HBu⟩⟩
      case measure => simp [intOf]; omega
    · obtain rfl : k = l.length := by omega
      go_wp2
      go_ret
      exact ⟨rfl, HW.out⟩
end Go.Proofs.Ytfafehffnjbhnaa
