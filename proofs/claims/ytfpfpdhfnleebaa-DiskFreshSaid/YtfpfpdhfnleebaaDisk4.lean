/- The walk of a disk's Files: the numbers, sorted. Files that are few. -/
import Derived.Test.YtfpfpdhfnleebaaDisk2
import Derived.Test.YtfpfpdhfnleebaaSortDk
import Derived.Sort.Grow
set_option maxRecDepth 8000
namespace Go.Proofs.Ytfpfpdhfnleebaa
open Go.ChangeShapes Go.WideShapes Go.ChangeAt Go.RowKit
set_option linter.unusedVariables false
set_option linter.unusedSimpArgs false
namespace Mem
open Go.Sort in
/-- a row of the call's own, sorted in place -/
theorem Own.sorted {α : Type} [Inhabited α] (enc : α → Value) {w : World} {e : TypeId} {g o n c : Nat} {xs ys : List α} (h : Own w e 1 (some ⟨g, o, none⟩) n c (xs.map enc)) (hl : ys.length = xs.length) (m : Nat) (os : Array Obj) :
    Own (grow (putRow enc (Go.Sort.ahead w m) g o ys.toArray) os) e 1 (some ⟨g, o, none⟩) n c (ys.map enc) ∧ Keeps (fun k => k = g) w (grow (putRow enc (Go.Sort.ahead w m) g o ys.toArray) os) := by
  have hlen := h.1
  rw [List.length_map] at hlen
  refine ⟨⟨by rw [List.length_map, hl, hlen], ?_⟩, ?_⟩
  · rcases h.2 with ⟨h0, _⟩ | ⟨g', o', cur, h0, hg, hnc, hcm, hcs, hcell⟩
    · cases h0
    · cases h0
      have hlt : g < w.heap.size := (Array.getElem?_eq_some_iff.1 hg).1
      refine .inr ⟨g, o, putCells enc o ys.toArray cur, rfl, ?_, hnc, hcm, by simpa [putCells] using hcs, ?_⟩
      · rw [heap_grow_old _ _ (by simpa [putRow, mapBlock, Go.Sort.ahead] using hlt)]
        simp [putRow, mapBlock, Go.Sort.ahead, Array.getElem?_modify, hg, onCells]
      · intro j u hu
        rw [List.getElem?_map] at hu
        cases hy : ys[j]? with
        | none => rw [hy] at hu; cases hu
        | some y =>
          rw [hy] at hu
          have hu2 : enc y = u := by simpa using hu
          obtain ⟨h1, h2⟩ := List.getElem?_eq_some_iff.1 hy
          have hx : cur[o + j]? = some (enc xs[j]) := hcell j _ (by rw [List.getElem?_map, List.getElem?_eq_getElem (by omega)]; rfl)
          simp only [putCells, Array.getElem?_mapIdx, hx, Option.map_some]
          rw [if_pos ⟨by omega, by rw [List.size_toArray]; omega⟩, show o + j - o = j by omega, ← hu2, ← h2]
          simp [h1]
  · refine ⟨rfl, rfl, rfl, by simp [putRow, mapBlock, Go.Sort.ahead], fun k hk hs => ?_⟩
    rw [heap_grow_old _ _ (by simpa [putRow, mapBlock, Go.Sort.ahead] using hk)]
    simp only [putRow, mapBlock, Go.Sort.ahead, Array.getElem?_modify]
    rw [if_neg (fun e => hs e.symm)]
open Go.Sort in
theorem Own.holds {α : Type} [Inhabited α] (enc : α → Value) {w : World} {e : TypeId} {g o n c : Nat} {xs : List α} (h : Own w e 1 (some ⟨g, o, none⟩) n c (xs.map enc)) : Holds enc w g o xs.toArray := by
  intro j hj
  rw [List.size_toArray] at hj
  refine ⟨?_, h.free _⟩
  rw [h.cell (j := j) (u := enc xs[j]) (by rw [List.getElem?_map, List.getElem?_eq_getElem hj]; rfl)]
  simp [hj]
end Mem
theorem ints_elem : Mem.Elem Try.prog 33 3 1 8 := Mem.elem_of Try.underlying33 (z := .int .i64 0) (by kernel_rfl) rfl (by omega)
namespace Dk
def sortI (l : List Int) : List Int := l.mergeSort fun x y => decide (x ≤ y)
theorem sortI_len (l : List Int) : (sortI l).length = l.length := List.length_mergeSort l
theorem sorted_unique : ∀ {a b : List Int}, a.Pairwise (· ≤ ·) → b.Pairwise (· ≤ ·) → a.Perm b → a = b
  | [], b, _, _, h => h.nil_eq
  | x :: a, [], _, _, h => by have := h.length_eq; simp at this
  | x :: a, y :: b, ha, hb, h => by
    rw [List.pairwise_cons] at ha hb
    have hxy : x ≤ y := by
      have : y ∈ x :: a := h.symm.subset List.mem_cons_self
      rcases List.mem_cons.1 this with h1 | h1
      · omega
      · exact ha.1 y h1
    have hyx : y ≤ x := by
      have : x ∈ y :: b := h.subset List.mem_cons_self
      rcases List.mem_cons.1 this with h1 | h1
      · omega
      · exact hb.1 x h1
    have he : x = y := by omega
    subst he
    rw [sorted_unique ha.2 hb.2 (List.Perm.cons_inv h)]
theorem sortI_sorted (l : List Int) : (sortI l).Pairwise (· ≤ ·) := by
  have h := List.pairwise_mergeSort (le := fun x y : Int => decide (x ≤ y)) (fun a b c h1 h2 => by simp at *; omega) (fun a b => by simp; omega) l
  exact h.imp fun h => by simpa using h
theorem sortI_perm {a b : List Int} (h : a.Perm b) : sortI a = sortI b :=
  sorted_unique (sortI_sorted a) (sortI_sorted b) ((List.mergeSort_perm a _).trans (h.trans (List.mergeSort_perm b _).symm))
structure FiRel (w : World) (rs : List FR) (b r : Nat) (v3 : Value) (wr : World) : Prop where
  out : ∃ (lf dn : List FR) (A : Option Addr) (c : Nat), Hid ((dn ++ lf).Perm rs) ∧ v3 = .slice A dn.length c ∧ dn.length + lf.length = rs.length ∧ Hid (Mem.Own wr 3 1 A dn.length c ((dn.map (·.f.n)).map (Value.int .i64))) ∧ Hid (∀ k, Mem.blk A = some k → w.heap.size < k) ∧ Hid (Mem.IterIs (Value.int .i64) okI wr b r (rs.map ent) (lf.map ent)) ∧ Hid (Mem.Keeps (fun _ => False) w wr)
end Dk
open Dk in
set_option maxHeartbeats 2000000 in
theorem files_any {w : World} {g b c : Nat} {A : Option Addr} {rs : List Dk.FR} {lo : List (Int × Nat)} (h : Dk.DS w g b A c rs lo) (hu : rs.length ≤ 1000000) :
    Calls Try.prog 15 #[.pointer (some ⟨g, 0, none⟩)] w fun x w' => ∃ A' c', x = .returned (.slice A' rs.length c') ∧ Mem.Own w' 3 1 A' rs.length c' ((Dk.sortI (rs.map (·.f.n))).map (Value.int .i64)) ∧ Mem.From w.heap.size A' ∧ Below w.heap.size w w' := by
  have x0 : w.cell? ⟨g, 0, none⟩ = some (.map (some b)) := h.B.cell (j := 0) rfl
  obtain ⟨w1, hrun, hI, hk1, hs1⟩ := h.M.range (P := Try.prog) Try.underlying51
  have HD := Lib.hid h
  have HI1 := Lib.hid hI
  have HK1 := Lib.hid hk1
  clear h hI hk1
  obtain ⟨gt, hgt⟩ : ∃ gt, w.heap.size = gt := ⟨_, rfl⟩
  rw [hgt] at hrun HI1
  have HGT := Lib.hid hgt
  clear hgt hs1
  go_enter Try.func15, Try.ntmps15
  go_wp2
  clear hrun x0
  go_loopw [3] (FiRel w rs b gt) (fun _ wq => wq.rangeLeft b gt)
  case atStart => exact ⟨⟨rs, [], none, 0, List.Perm.refl _, rfl, by simp, Mem.Own.nil _ _ _, (fun k hk => by cases hk), HI1, HK1⟩⟩
  case round =>
    obtain ⟨lf, dn, A3, c3, HP, rfl, hsum, HO, HF, HI, HK⟩ := hrel.out
    clear hrel
    rcases HI.out.nexts Try.prog with ⟨hl, hrun⟩ | ⟨i, p, w2, hp, hrun, hI2, hk2, hs2, hen⟩
    · have hlf : lf = [] := by simpa using hl
      subst hlf
      have hsum2 : dn.length = rs.length := by simpa using hsum
      have hpm : sortI (dn.map (·.f.n)) = sortI (rs.map (·.f.n)) := sortI_perm ((List.append_nil dn ▸ HP.out).map _)
      have HPM := Lib.hid hpm
      have hB : Below w.heap.size w wr := HK.out.below (fun k h => h.elim) (Nat.le_refl _)
      have HB := Lib.hid hB
      clear hl hsum hpm HP HI HK hB
      rw [hsum2] at HO ⊢
      have HL : Hid ((dn.map (·.f.n)).length = rs.length) := by show _ = _; rw [List.length_map, hsum2]
      by_cases h0 : rs.length = 0
      · have HS0 := Lib.hid (sort_none A3 c3 wr)
        rw [h0] at HO HL ⊢
        have H00 := Lib.hid h0
        clear hsum2 h0
        go_wp2_with (go_at_call 29; refine HS0.out.mono ?_; rintro x9 w9 ⟨rfl, rfl⟩; clear HS0)
        go_ret
        rw [H00.out]
        refine ⟨A3, c3, rfl, ?_, ?_, HB.out⟩
        · have e1 : dn.map (·.f.n) = [] := List.eq_nil_of_length_eq_zero HL.out
          rw [← HPM.out, e1, show sortI [] = [] from List.eq_nil_of_length_eq_zero (sortI_len [])]
          have h9 := HO.out
          rw [e1] at h9
          exact h9
        · intro ad had
          have := HF.out ad.block (by rw [had]; rfl)
          omega
      · obtain ⟨g3, o3, rfl⟩ := HO.out.form (by omega)
        have hs := sort_ints g3 o3 c3 (dn.map (·.f.n)) wr (Mem.Own.holds (Value.int .i64) HO.out) (HO.out.lt rfl) (by rw [HL.out]; omega)
        rw [HL.out] at hs
        have HS := Lib.hid hs
        have hg3 := HF.out g3 rfl
        have HG3 := Lib.hid hg3
        clear hs h0 hsum2 hg3 HF
        go_wp2_with (go_at_call 29; refine HS.out.mono ?_; rintro x9 w9 ⟨rfl, m9, os9, hw9⟩; have HW := Lib.hid hw9; clear hw9 HS)
        go_ret
        obtain ⟨q1, q2⟩ := Mem.Own.sorted (Value.int .i64) HO.out (ys := sortI (dn.map (·.f.n))) (sortI_len _) m9 os9
        have hw : w9 = Go.Sort.grow (Go.Sort.putRow (Value.int .i64) (Go.Sort.ahead wr m9) g3 o3 (sortI (dn.map (·.f.n))).toArray) os9 := HW.out
        rw [← hw, HPM.out] at q1
        rw [← hw] at q2
        refine ⟨_, c3, rfl, q1, Mem.From.some_ (by have := HG3.out; omega), HB.out.trans (q2.below (fun k h => by subst h; have := HG3.out; omega) HB.out.size)⟩
    · obtain ⟨r, hr, hpr⟩ : ∃ r, lf[i]? = some r ∧ p = ent r := by
        rw [List.getElem?_map] at hp
        cases hl : lf[i]? with
        | none => rw [hl] at hp; cases hp
        | some r => rw [hl] at hp; exact ⟨r, rfl, by simpa using hp.symm⟩
      subst hpr
      have hilt := (List.getElem?_eq_some_iff.1 hr).1
      have hpe := erase_perm hr
      have hlen : (lf.eraseIdx i).length = lf.length - 1 := by rw [List.length_eraseIdx, if_pos hilt]
      have hI3 : Mem.IterIs (Value.int .i64) okI w2 b gt (rs.map ent) ((lf.eraseIdx i).map ent) := by rw [ChangeMaps.map_eraseIdx]; exact hI2
      have hP2 : ((dn ++ [r]) ++ lf.eraseIdx i).Perm rs := by
        rw [List.append_assoc]
        exact (List.Perm.append_left dn hpe).trans HP.out
      have hK2 : Mem.Keeps (fun _ => False) w w2 := HK.out.trans hk2 (fun q hq hlt => by have := HGT.out; omega)
      have hO2 : Mem.Own w2 3 1 A3 dn.length c3 ((dn.map (·.f.n)).map (Value.int .i64)) := HO.out.keeps hk2 (fun k hk e => by have := HF.out k hk; have := HGT.out; omega)
      have hc0 := HI.out.count
      have hwl := hK2.size
      have hgtl : gt < w2.heap.size := hI3.lt
      have hbl : b < w.heap.size := HD.out.M.lt
      have HI3 := Lib.hid hI3
      have HK2 := Lib.hid hK2
      have HP2 := Lib.hid hP2
      have HO2 := Lib.hid hO2
      have HC0 := Lib.hid hc0
      unfold ent at hrun hen
      dsimp only at hrun hen
      clear hp hr hpe hI2 hI3 hk2 hs2 hK2 hP2 HI HK HP HO hO2 hc0
      have HKA : Hid (Mem.Keeps (fun q => Mem.blk A3 = some q) w2 (w2.alloc (.cells #[.int .i64 r.f.n] 3))) := (Mem.Keeps.refl (fun q => Mem.blk A3 = some q) w2).alloc _
      go_wp2_with (at_builtin; refine Mem.wpList_app _ rfl (.tmp 14) (.tmp 16) _ rfl ints_elem A3 dn.length c3 _ rfl (w2.heap.size + 1) (some ⟨w2.heap.size, 0, none⟩) 1 1 [.int .i64 r.f.n] rfl ?_ (HO2.out.alloc _) (Mem.Rd.alloc_new w2 _ _ _ rfl) rfl (by simp [Value.oneCell']) (by unfold maxLen; omega) (by omega); intro A4 c4 w3 hown hg2 hat; have hk3 := HKA.out.grown hg2 (fun k hk _ => hk); have HK3 := Lib.hid hk3; have HO3 := Lib.hid hown; have HAT := Lib.hid hat; clear hown hg2 hat hk3)
      have hF3 : Hid (∀ k, Mem.blk A4 = some k → w.heap.size < k) := fun k hk => by
        rcases HAT.out with h | h
        · rw [h] at hk; exact HF.out k hk
        · rw [h] at hk
          have e9 : (w2.alloc (.cells #[.int .i64 r.f.n] 3)).heap.size = k := (by simpa [Mem.blk] using hk)
          have e8 : (w2.alloc (.cells #[.int .i64 r.f.n] 3)).heap.size = w2.heap.size + 1 := Array.size_push _
          have := HGT.out
          omega
      have hI4 : Mem.IterIs (Value.int .i64) okI w3 b gt (rs.map ent) ((lf.eraseIdx i).map ent) := HI3.out.keeps HK3.out (fun h => by have := HF.out b h; omega) (fun h => by have := HF.out gt h; have := HGT.out; omega)
      have hcnt : w3.rangeLeft b gt < wr.rangeLeft b gt := by
        rw [hI4.count, HC0.out, List.length_map, List.length_map, hlen]; omega
      have HI4 := Lib.hid hI4
      have HCN := Lib.hid hcnt
      have hK4 : Hid (Mem.Keeps (fun _ => False) w w3) := HK2.out.trans HK3.out (fun q hq hlt => by have := HF.out q hq; omega)
      have hO4 : Hid (Mem.Own w3 3 1 A4 (dn ++ [r]).length c4 (((dn ++ [r]).map (·.f.n)).map (Value.int .i64))) := by
        show Mem.Own _ _ _ _ _ _ _
        rw [List.length_append, List.map_append, List.map_append]; exact HO3.out
      have hdl : (dn ++ [r]).length = dn.length + 1 := List.length_append
      have HDL := Lib.hid hdl
      clear HO2 HO3 HAT HI3 HK2 HK3 HKA hI4 hcnt HC0 hdl
      go_wp2
      go_roundw
      case rel => exact ⟨⟨lf.eraseIdx i, dn ++ [r], A4, c4, HP2, by rw [HDL.out], by rw [HDL.out, hlen]; omega, hO4, hF3, HI4, hK4⟩⟩
      case measure => exact HCN.out
end Go.Proofs.Ytfpfpdhfnleebaa
