/- The walks of a store's New, Len, Latest, Mark, Versions, of covered and has. Stores that are few. -/
import Derived.Test.YtfafehffnjbhnaaStoreP
import Derived.LoopTactic
import Derived.Deep.DeepCutAuto
import Derived.Deep.CutBlock
import Derived.WalkKit
import Derived.WalkMore
import Derived.WalkSpells
import Derived.BigQuiet
import Derived.Lib.Hide
set_option maxRecDepth 8000
namespace Go.Proofs.Ytfafehffnjbhnaa
open Go.ChangeShapes Go.WideShapes Go.ChangeAt Go.RowKit
set_option linter.unusedVariables false
set_option linter.unusedSimpArgs false
theorem col_agg : Mem.Agg Try.prog 26 3 := Mem.agg_of Try.underlying26 rfl (by kernel_rfl)
namespace Sto
abbrev CBx (w : World) (g : Nat) (c : Vec.Col) : Prop := Mem.Bx w 26 3 g (Vec.colCells c)
def states (rs : List LR) : List Ls := rs.map (·.l)
theorem lenS_app (a b : List Ls) : lenS (a ++ b) = lenS a + lenS b := by unfold lenS; rw [List.map_append, List.sum_append]
theorem lenS_perm {a b : List Ls} (h : a.Perm b) : lenS a = lenS b := by unfold lenS; exact (h.map _).sum_nat
theorem erase_perm {α : Type} {l : List α} {i : Nat} {a : α} (h : l[i]? = some a) : (a :: l.eraseIdx i).Perm l := by
  obtain ⟨hi, rfl⟩ := List.getElem?_eq_some_iff.1 h
  rw [List.eraseIdx_eq_take_drop_succ]
  have h2 := List.perm_middle (a := l[i]) (l₁ := l.take i) (l₂ := l.drop (i + 1))
  refine h2.symm.trans ?_
  rw [List.getElem_cons_drop, List.take_append_drop]
structure LnRel (w : World) (rs : List LR) (b r : Nat) (v3 : Value) (wr : World) : Prop where
  out : ∃ lf dn : List LR, Hid ((dn ++ lf).Perm rs) ∧ v3 = .int .i64 (lenS (states dn) : Nat) ∧ lenS (states dn) + lenS (states lf) = lenS (states rs) ∧ Hid (Mem.IterIs Value.string okS wr b r (rs.map ent) (lf.map ent)) ∧ Hid (Mem.Keeps (fun _ => False) w wr)
structure HsRel (w : World) (g0 : Nat) (d : Vec.Dt) (rs : List LR) (b r : Nat) (v4 : Value) (wr : World) : Prop where
  out : ∃ lf dn : List LR, Hid ((dn ++ lf).Perm rs) ∧ v4 = .bool false ∧ Hid (∀ q ∈ dn, (q.l.es.any fun x => eqD x d) = false) ∧ Hid (Mem.IterIs Value.string okS wr b r (rs.map ent) (lf.map ent)) ∧ Hid (Mem.Keeps (fun _ => False) w wr) ∧ Hid (Mem.Bx wr 34 3 g0 (Vec.dtCells d))
end Sto
theorem storeNew_any (rng : Int) (w : World) :
    Calls Try.prog 11 #[.int .i64 rng] w fun x w' => ∃ g b, x = .returned (.pointer (some ⟨g, 0, none⟩)) ∧ Sto.SS w' g b rng Vec.col0 [] ∧ Below w.heap.size w w' ∧ w.heap.size ≤ g ∧ w.heap.size ≤ b := by
  go_enter Try.func11, Try.ntmps11
  go_wp2
  go_ret
  refine ⟨w.heap.size + 1, w.heap.size, rfl, ⟨?_, ?_, (fun r h => by cases h), (by omega), (fun r h => by cases h), List.Pairwise.nil⟩, ?_, by omega, by omega⟩
  · exact Mem.Bx.new (w.alloc _) _ #[.int .i64 rng, .map (some w.heap.size), .int .i64 0, .int .i64 0, .int .i64 0] rfl (by simp)
  · exact (Mem.MapIs.new w).keeps ((Mem.Keeps.refl (fun _ => False) _).alloc _) id
  · exact (Reg.below_new _ _).alloc (by simp) _
open Sto in
set_option maxHeartbeats 1000000 in
theorem storeLen_any {w : World} {g b : Nat} {rng : Int} {mk : Vec.Col} {rs : List Sto.LR} (h : Sto.SS w g b rng mk rs) (hu : Sto.lenS (Sto.states rs) ≤ 1000000000) :
    Calls Try.prog 14 #[.pointer (some ⟨g, 0, none⟩)] w fun x w' => x = .returned (.int .i64 (Sto.lenS (Sto.states rs) : Nat)) ∧ Below w.heap.size w w' := by
  have x0 : w.cell? ⟨g, 1, none⟩ = some (.map (some b)) := h.B.cell (j := 1) rfl
  obtain ⟨w1, hrun, hI, hk1, hs1⟩ := h.M.range (P := Try.prog) Try.underlying69
  have HI1 := Lib.hid hI
  have HK1 := Lib.hid hk1
  clear h hI hk1
  obtain ⟨gt, hgt⟩ : ∃ gt, w.heap.size = gt := ⟨_, rfl⟩
  rw [hgt] at hrun HI1
  have HGT := Lib.hid hgt
  clear hgt hs1
  go_enter Try.func14, Try.ntmps14
  go_wp2
  clear hrun x0
  go_loopw [3] (LnRel w rs b gt) (fun _ wq => wq.rangeLeft b gt)
  case atStart => exact ⟨⟨rs, [], List.Perm.refl _, rfl, by simp [lenS, states], HI1, HK1⟩⟩
  case round =>
    obtain ⟨lf, dn, HP, rfl, hsum, HI, HK⟩ := hrel.out
    clear hrel
    rcases HI.out.nexts Try.prog with ⟨hl, hrun⟩ | ⟨i, p, w2, hp, hrun, hI2, hk2, hs2, hen⟩
    · have hlf : lf = [] := by simpa using hl
      subst hlf
      have hsum2 : lenS (states dn) = lenS (states rs) := by rw [← hsum]; rfl
      have HS := Lib.hid hsum2
      clear hl hsum hsum2
      go_wp2
      go_ret
      exact ⟨by rw [← HS.out]; rfl, HK.out.below (fun k h => h.elim) (Nat.le_refl _)⟩
    · obtain ⟨r, hr, hpr⟩ : ∃ r, lf[i]? = some r ∧ p = ent r := by
        rw [List.getElem?_map] at hp
        cases hl : lf[i]? with
        | none => rw [hl] at hp; cases hp
        | some r => rw [hl] at hp; exact ⟨r, rfl, by simpa using hp.symm⟩
      subst hpr
      have hK2 : Mem.Keeps (fun _ => False) w w2 := HK.out.trans hk2 (fun q hq hlt => by have := HGT.out; omega)
      have hpe := erase_perm hr
      have hus : r.l.es.length + lenS (states (lf.eraseIdx i)) = lenS (states lf) := by
        have h9 := lenS_perm (hpe.map (fun q : LR => q.l))
        simpa [lenS, states] using h9
      have hI3 : Mem.IterIs Value.string okS w2 b gt (rs.map ent) ((lf.eraseIdx i).map ent) := by rw [ChangeMaps.map_eraseIdx]; exact hI2
      have hcnt : w2.rangeLeft b gt < wr.rangeLeft b gt := by
        rw [hI3.count, HI.out.count, List.length_map, List.length_map, List.length_eraseIdx, if_pos (List.getElem?_eq_some_iff.1 hr).1]
        have := (List.getElem?_eq_some_iff.1 hr).1
        omega
      have hP2 : ((dn ++ [r]) ++ lf.eraseIdx i).Perm rs := by
        rw [List.append_assoc]
        exact (List.Perm.append_left dn hpe).trans HP.out
      have hud : lenS (states (dn ++ [r])) = lenS (states dn) + r.l.es.length := by unfold states; rw [List.map_append, lenS_app]; simp [lenS]
      have HI3 := Lib.hid hI3
      have HK2 := Lib.hid hK2
      have HP2 := Lib.hid hP2
      have HCN := Lib.hid hcnt
      have HUD := Lib.hid hud
      unfold ent at hrun hen
      dsimp only at hrun hen
      obtain ⟨nd, hnd⟩ : ∃ nd, lenS (states dn) = nd := ⟨_, rfl⟩
      rw [hnd] at HUD hsum
      rw [hnd]
      have hb9 : nd + r.l.es.length ≤ 1000000000 := by omega
      clear hp hr hpe hI2 hI3 hk2 hs2 hK2 hP2 hcnt hud HI HK HP
      go_wp2
      go_roundw
      case rel => exact ⟨⟨lf.eraseIdx i, dn ++ [r], HP2, by rw [HUD.out]; go_num, by rw [HUD.out]; omega, HI3, HK2⟩⟩
      case measure => exact HCN.out
theorem storeMark_any {w : World} {g b : Nat} {rng : Int} {mk : Vec.Col} {rs : List Sto.LR} (h : Sto.SS w g b rng mk rs) :
    Calls Try.prog 24 #[.pointer (some ⟨g, 0, none⟩)] w fun x w' => x = .returned (Vec.C mk) ∧ Below w.heap.size w w' := by
  have x0 := h.B.cell (j := 2) rfl
  have x1 := h.B.cell (j := 3) rfl
  have x2 := h.B.cell (j := 4) rfl
  have hg := h.B.lt
  clear h
  go_enter Try.func24, Try.ntmps24
  go_wp2
  refine bodyPost_ret (v := Vec.C mk) ?_ rfl ⟨rfl, ?_⟩
  · simp [results, Try.results24, go_sem, Mem.set_same, Mem.isSome_set]
  · exact Reg.below_new _ _
open Sto in
theorem storeVersions_any {w : World} {g b : Nat} {rng : Int} {mk : Vec.Col} {rs : List Sto.LR} (h : Sto.SS w g b rng mk rs) {k : ByteArray} (hk : Sto.okS k) (hn : ∀ r ∈ rs, r.l.es.length ≤ 300) :
    Calls Try.prog 15 #[.pointer (some ⟨g, 0, none⟩), .string k] w fun x w' => ∃ A' c', x = .returned (.slice A' (Sto.vers (Sto.states rs) k).length c') ∧ Vec.EOwn w' A' c' (Sto.vers (Sto.states rs) k) ∧ Mem.From w.heap.size A' ∧ Below w.heap.size w w' := by
  have x0 := h.B.cell (j := 1) rfl
  have hl := look_at h hk
  cases hf : findR rs k with
  | none =>
    rw [hf] at hl
    have hv : vers (states rs) k = [] := vers_none fun l hl => by
      obtain ⟨r, hr, rfl⟩ := List.mem_map.1 hl
      exact find_none hf r hr
    have HC := Lib.hid (clone_any none 0 [] w (Mem.Own.nil _ _ _) (by simp))
    rw [hv]
    unfold lsV at hl
    clear hf h hv
    go_enter Try.func15, Try.ntmps15
    go_wp2_with (go_at_call 39; refine HC.out.mono ?_; rintro x w' ⟨A', c', rfl, h1, h2, h3⟩)
    go_ret
    exact ⟨A', c', rfl, h1, h2, h3⟩
  | some r =>
    rw [hf] at hl
    have hv : vers (states rs) k = r.l.es := by
      obtain ⟨pre, post, rfl, rfl, _⟩ := find_split hf
      exact vers_mem (List.mem_map.2 ⟨r, by simp, rfl⟩) (by have := h.nodup; unfold states; rw [List.map_map]; exact this)
    obtain ⟨pre, post, rfl, _, _⟩ := find_split hf
    have HC := Lib.hid (clone_any r.A r.c r.l.es w (h.O r (by simp)) (hn r (by simp)))
    rw [hv]
    unfold lsV at hl
    clear hf h hv hn
    obtain ⟨⟨rk, res⟩, rA, rc⟩ := r
    dsimp only at hl HC ⊢
    go_enter Try.func15, Try.ntmps15
    go_wp2_with (go_at_call 39; refine HC.out.mono ?_; rintro x w' ⟨A', c', rfl, h1, h2, h3⟩)
    go_ret
    exact ⟨A', c', rfl, h1, h2, h3⟩
open Vec in
theorem covered_any (c : Vec.Col) (e : Vec.Ent) (w : World) (hd : 0 ≤ e.dc ∧ e.dc < 3) :
    Calls Try.prog 29 #[Vec.C c, .agg (Vec.entCells e).toArray] w fun x w' => x = .returned (.bool (Sto.under c e)) ∧ Below w.heap.size w w' := by
  have main : ∀ (k : Nat) (u : Int), (colCells c)[k]? = some (.int .i64 u) → e.dc = (k : Int) → k < 3 → c.at e.dc.toNat = u →
      Calls Try.prog 29 #[Vec.C c, .agg (Vec.entCells e).toArray] w fun x w' => x = .returned (.bool (decide (e.seq ≤ u))) ∧ Below w.heap.size w w' := by
    intro k u hu hk hk3 _
    go_enter Try.func29, Try.ntmps29
    go_upto_region 1 with fail
    obtain ⟨w0, hw0⟩ : ∃ w0, (w.alloc (.cells (colCells c).toArray 26)).alloc (.cells (entCells e).toArray 40) = w0 := ⟨_, rfl⟩
    have hC : Sto.CBx w0 w.heap.size c := by rw [← hw0]; exact (Mem.Bx.new w 26 (colCells c).toArray rfl rfl).below (Reg.below_new _ _) (by simp)
    have hE : EBx w0 (w.heap.size + 1) e := by rw [← hw0]; exact EBx.new (w.alloc _) e (by simp)
    have hb : Below w.heap.size w w0 := by rw [← hw0]; exact (Reg.below_new _ _).alloc (by simp) _
    have x0 := hE.cell (j := 0) rfl
    have x2 := hE.cell (j := 2) rfl
    have y0 := hC.cell hu
    rw [hw0]
    rw [hk] at x0
    have HB := Lib.hid hb
    clear hw0 hC hE hb hu
    go_wp2
    go_quiet (fail)
    go_wp2
    go_ret
    exact ⟨rfl, Mem.below_drewN HB.out _⟩
  have hdc : e.dc = ((0 : Nat) : Int) ∨ e.dc = ((1 : Nat) : Int) ∨ e.dc = ((2 : Nat) : Int) := by omega
  rcases hdc with h | h | h
  · have := main 0 c.a rfl h (by omega) (by rw [h]; rfl)
    unfold Sto.under; rw [h]; exact this
  · have := main 1 c.b rfl h (by omega) (by rw [h]; rfl)
    unfold Sto.under; rw [h]; exact this
  · have := main 2 c.c rfl h (by omega) (by rw [h]; rfl)
    unfold Sto.under; rw [h]; exact this
end Go.Proofs.Ytfafehffnjbhnaa
