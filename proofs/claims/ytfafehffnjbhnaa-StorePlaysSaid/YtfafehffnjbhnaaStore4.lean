/- slices.Backward at writes: what its function hands on, the last one first; whatever the loop's body. No conditions. -/
import Derived.Test.YtfafehffnjbhnaaStore3
import Derived.Test.YtfafehffnjbhnaaFence
import Derived.RangeFuncBox
import Derived.RangeFuncLeaves
import Derived.Shelf.Abstract
import Derived.WalkKit
import Derived.OwnWalkIn
import Derived.TacticsInMore
import Derived.LoopNIn
import Derived.LoopIn
set_option maxRecDepth 8000
namespace Go.Proofs.Ytfafehffnjbhnaa
open Go.RowKit Go.Shelf
set_option linter.unusedVariables false
set_option linter.unusedSimpArgs false
attribute [local go_sem] Oper.semAt_some
namespace Sto
/-- what comes: the index, the write, which is of a datacenter -/
structure BE where
  i : Nat
  e : Vec.Ent
  ok : 0 ≤ e.dc ∧ e.dc < 3
abbrev DcOk (es : List Vec.Ent) : Prop := ∀ e ∈ es, 0 ≤ e.dc ∧ e.dc < 3
theorem DcOk.getD {es : List Vec.Ent} (h : DcOk es) (i : Nat) : 0 ≤ (es.getD i Vec.ent0).dc ∧ (es.getD i Vec.ent0).dc < 3 := by
  rw [List.getD_eq_getElem?_getD]
  cases he : es[i]? with
  | none => exact ⟨by decide, by decide⟩
  | some e => exact h e (List.mem_of_getElem? he)
/-- the first k that come: the last write, the one ahead of it, .. -/
def bup (es : List Vec.Ent) (h : DcOk es) (k : Nat) : List BE := (List.range k).map fun j => ⟨es.length - 1 - j, es.getD (es.length - 1 - j) Vec.ent0, h.getD _⟩
theorem bup_succ (es : List Vec.Ent) (h : DcOk es) (k : Nat) : bup es h (k + 1) = bup es h k ++ [⟨es.length - 1 - k, es.getD (es.length - 1 - k) Vec.ent0, h.getD _⟩] := by simp [bup, List.range_succ]
theorem bup_length (es : List Vec.Ent) (h : DcOk es) (k : Nat) : (bup es h k).length = k := by simp [bup]
theorem bup_snd (es : List Vec.Ent) (h : DcOk es) {k : Nat} (hk : k ≤ es.length) : (bup es h k).map (·.e) = es.reverse.take k := by
  apply List.ext_getElem
  · simp [bup, hk]
  · intro i h1 h2
    have hi : i < es.length := by simp [bup] at h1; omega
    simp only [bup, List.map_map, List.getElem_map, List.getElem_range, Function.comp, List.getElem_take, List.getElem_reverse]
    rw [List.getD_eq_getElem?_getD, List.getElem?_eq_getElem (by omega)]
    rfl
abbrev bEnc (x : BE) : Array Value := #[Value.int .i64 (x.i : Int), .agg (Vec.entCells x.e).toArray]
end Sto
open Sto Vec in
set_option maxRecDepth 100000 in
set_option maxHeartbeats 2000000 in
theorem backward1_in (n : Nat) (hn : 1 ≤ n) (l Bs bb off cap : Nat) (es : List Vec.Ent) (hreach : es.length ≤ 4611686018427387903) (S : Nat → Prop) (hb : ¬ S bb) (hB0 : ¬ S Bs) (hd : Sto.DcOk es) (J Jx : List Sto.BE → World → Prop)
    (hY : ∀ pre x W, J pre W → pre.length < es.length → YieldAt Fence.wide (n - 1) Try.prog l (Sto.bEnc x) W fun e W' =>
      (e = .returned (.bool true) ∧ J (pre ++ [x]) W' ∧ Mem.Keeps S W W') ∨ (e = .returned (.bool false) ∧ Jx (pre ++ [x]) W'))
    (W : World) (hbl : bb < W.heap.size) (hBl : Bs < W.heap.size) (hBs : W.cell? ⟨Bs, 0, none⟩ = some (.slice (some ⟨bb, off, none⟩) es.length cap)) (hc : ∀ j u, (es.flatMap Vec.entCells)[j]? = some u → W.cell? ⟨bb, off + j, none⟩ = some u) (h0 : J [] W) :
    CallsIn Fence.wide n Try.prog 57 #[.func (.yield l) #[] #[], .pointer (some ⟨Bs, 0, none⟩)] W fun e W' => (∃ v, e = .returned v) ∧
      ((∃ ys, ys = Sto.bup es hd es.length ∧ J ys W') ∨ (∃ pre, (∃ k, k ≤ es.length ∧ pre = Sto.bup es hd k) ∧ Jx pre W')) := by
  refine callsIn_of_wp Try.func57 rfl trivial ?_ rfl
  simp only [Try.ntmps57, List.size_toArray, List.length_cons, List.length_nil, Nat.reduceAdd, Nat.reduceSub, Array.replicate_succ, Array.replicate_zero, List.push_toArray, List.append_toArray, List.nil_append, List.cons_append]
  have hw0 : IntKind.i64.wrap ((es.length : Int) - 1) = (es.length : Int) - 1 := IntWalk.i64_in _ (by omega)
  gi_wp2
  gi_loopw [3] (fun i wr => ∃ k : Nat, k ≤ es.length ∧ i = .int .i64 ((es.length : Int) - 1 - k) ∧ J (Sto.bup es hd k) wr ∧ Mem.Keeps S W wr)
    (fun i _ => (intOf i + 1).toNat)
  case atStart => exact ⟨0, Nat.zero_le _, by simp, h0, Mem.Keeps.refl _ _⟩
  case round =>
    obtain ⟨k, hk, rfl, hJs, hnx⟩ := hrel
    have hbs : wr.cell? ⟨Bs, 0, none⟩ = some (.slice (some ⟨bb, off, none⟩) es.length cap) := (hnx.cell (p := ⟨Bs, 0, none⟩) hBl hB0).trans hBs
    by_cases hlt : k < es.length
    · obtain ⟨i, hi⟩ : ∃ i : Nat, es.length - 1 - k = i := ⟨_, rfl⟩
      have hi2 : (es.length : Int) - 1 - k = (i : Int) := by omega
      obtain ⟨e, he⟩ : ∃ e, es[i]? = some e := ⟨_, List.getElem?_eq_getElem (by omega)⟩
      have hge : es.getD i ent0 = e := by rw [List.getD_eq_getElem?_getD, he]; rfl
      have hce : ∀ j u, (entCells e)[j]? = some u → wr.cell? ⟨bb, off + i * 20 + j, none⟩ = some u := fun j u hu => by
        have hj : j < 20 := by have := (List.getElem?_eq_some_iff.1 hu).1; rw [entCells_length] at this; exact this
        refine (hnx.cell (p := ⟨bb, _, none⟩) hbl hb).trans ?_
        rw [Nat.add_assoc]
        exact hc _ u ((Mem.flat_get entCells_length es i j e he hj).trans hu)
      have hok : 0 ≤ e.dc ∧ e.dc < 3 := hd e (List.mem_of_getElem? he)
      obtain ⟨fn, tmps, assign, body, hy, hR⟩ := hY _ ⟨i, e, hok⟩ wr hJs (by rw [bup_length]; exact hlt)
      dsimp only [bEnc] at hy
      rw [hi2]
      have hil : i < es.length := by omega
      have hbu : bup es hd (k + 1) = bup es hd k ++ [⟨i, e, hok⟩] := by
        rw [bup_succ]
        congr 2
        rw [BE.mk.injEq]
        exact ⟨hi, by rw [hi]; exact hge⟩
      have HBU := Lib.hid hbu
      have HI2 := Lib.hid hi2
      have HI := Lib.hid hi
      have hw1 : IntKind.i64.wrap ((i : Int) - 1) = (i : Int) - 1 := IntWalk.i64_in _ (by omega)
      clear hbu hi2 hi he hge
      gi_wp2_with ((with_reducible refine Reg.load_aggIn _ _ entry_agg bb (off + i * 20) (entCells e) ?hx (entCells_length e) hce ?_); case hx => exact rfl)
      refine hR.mono ?_
      rintro e3 W3 (⟨rfl, hJ3, hk3⟩ | ⟨rfl, hJx3⟩)
      · gi_wp2
        go_roundw
        case rel => exact ⟨k + 1, by omega, by have := HI2.out; congr 1 <;> omega, by rw [HBU.out]; exact hJ3, hnx.trans hk3 (fun _ h _ => h)⟩
        case measure => simp [intOf]
      · gi_wp2
        refine bodyPost_ret (results_none rfl _ _ _) rfl ?_
        exact ⟨⟨_, rfl⟩, .inr ⟨_, ⟨k + 1, by omega, HBU.out.symm⟩, hJx3⟩⟩
    · obtain rfl : k = es.length := by omega
      have hm1 : (es.length : Int) - 1 - (es.length : Nat) = -1 := by omega
      rw [hm1]
      gi_wp2
      go_end0
      exact ⟨⟨_, rfl⟩, .inl ⟨_, rfl, hJs⟩⟩
open Sto Vec in
set_option maxRecDepth 100000 in
set_option maxHeartbeats 1000000 in
theorem backward1_nil (n : Nat) (l Bs cap : Nat) (A : Option Addr) (J : List Sto.BE → World → Prop) (W : World) (hBs : W.cell? ⟨Bs, 0, none⟩ = some (.slice A 0 cap)) (h0 : J [] W) :
    CallsIn Fence.wide n Try.prog 57 #[.func (.yield l) #[] #[], .pointer (some ⟨Bs, 0, none⟩)] W fun e W' => (∃ v, e = .returned v) ∧ J [] W' := by
  refine callsIn_of_wp Try.func57 rfl trivial ?_ rfl
  simp only [Try.ntmps57, List.size_toArray, List.length_cons, List.length_nil, Nat.reduceAdd, Nat.reduceSub, Array.replicate_succ, Array.replicate_zero, List.push_toArray, List.append_toArray, List.nil_append, List.cons_append]
  gi_wp2
  gi_loopw [3] (fun i wr => i = .int .i64 (-1) ∧ J [] wr) (fun _ _ => 0)
  case atStart => exact ⟨rfl, h0⟩
  case round =>
    obtain ⟨rfl, hJs⟩ := hrel
    gi_wp2
    go_end0
    exact ⟨⟨_, rfl⟩, hJs⟩
/-- slices.Backward: the slice is boxed, the function captures the box -/
theorem backward_any (A : Option Addr) (len cap : Nat) (w : World) :
    Calls Try.prog 41 #[.slice A len cap] w fun e w' => e = .returned (.func (.func 57) #[] #[.pointer (some ⟨w.heap.size, 0, none⟩)]) ∧ w' = w.alloc (.cells #[.slice A len cap] 22) := by
  have hmf : ∀ (fn : Fn) (first cap : Array Value) (w : World), (Instr.makeFunc fn first cap).run Try.prog w = .ok (.func fn first cap) w := fun _ _ _ _ => rfl
  go_enter Try.func41, Try.ntmps41
  go_wp2
  go_ret
  exact ⟨rfl, rfl⟩
theorem Mem.Own.flatAt {w : World} {e : TypeId} {A : Option Addr} {n c : Nat} {sz : Nat} {xs : List Value} (h : Mem.Own w e sz A n c xs) (hn : 0 < n) : ∃ bb o, A = some ⟨bb, o, none⟩ ∧ bb < w.heap.size ∧ ∀ j u, xs[j]? = some u → w.cell? ⟨bb, o + j, none⟩ = some u := by
  obtain ⟨g, o, rfl⟩ := h.form hn
  exact ⟨g, o, rfl, h.lt rfl, fun j u hu => h.cell hu⟩
open Sto in
theorem backward_stops (n : Nat) (hn : 1 ≤ n) (Bs cap : Nat) (A : Option Addr) (es : List Vec.Ent) (hreach : es.length ≤ 4611686018427387903) (S : Nat → Prop) (w : World) (hSb : ∀ k, Mem.blk A = some k → ¬ S k) (hSB : ¬ S Bs) (hBl : Bs < w.heap.size)
    (hBs : w.cell? ⟨Bs, 0, none⟩ = some (.slice A es.length cap)) (hO : Vec.EOwn w A cap es) (hd : Sto.DcOk es) :
    SeqStopsK Fence.wide n Try.prog 57 #[.pointer (some ⟨Bs, 0, none⟩)] Sto.bEnc (Mem.Keeps S) (fun ys => ys.map (·.e) = es.reverse) (fun pre => pre.map (·.e) <+: es.reverse) es.length w := fun l J Jx W hW _ _ hY h0 => by
  have hc' := (hW.cell (p := ⟨Bs, 0, none⟩) hBl).trans hBs
  by_cases h1 : 0 < es.length
  · have hOW := hO.below hW (fun k hk => hO.lt hk)
    obtain ⟨bb, o, rfl, hbl, hcs⟩ := hOW.flatAt h1
    refine (backward1_in n hn l Bs bb o cap es hreach S (hSb bb rfl) hSB hd J Jx hY W hbl (Nat.lt_of_lt_of_le hBl hW.size) hc' hcs h0).mono ?_
    rintro e W' ⟨he, ⟨ys, rfl, hj⟩ | ⟨pre, ⟨k, hk, rfl⟩, hj⟩⟩
    · exact ⟨he, .inl ⟨_, by show (bup es hd es.length).map (·.e) = _; rw [bup_snd es hd (Nat.le_refl _), ← List.length_reverse, List.take_length], hj⟩⟩
    · exact ⟨he, .inr ⟨_, by show (bup es hd k).map (·.e) <+: _; rw [bup_snd es hd hk]; exact List.take_prefix _ _, hj⟩⟩
  · obtain rfl : es = [] := List.eq_nil_of_length_eq_zero (by omega)
    exact (backward1_nil n l Bs cap A J W hc' h0).mono fun e W' ⟨he, hj⟩ => ⟨he, .inl ⟨[], rfl, hj⟩⟩
theorem keepsK_t {S : Nat → Prop} {A B C : World} (h : Mem.Keeps S A B) (k : Mem.Keeps S B C) : Mem.Keeps S A C := h.trans k (fun _ h _ => h)
theorem keepsK_b {S : Nat → Prop} {w : World} (hS : ∀ k, w.heap.size ≤ k → S k) (W : World) (l : Nat) (o o' : Obj) (hl : w.heap.size ≤ l) (h : W.heap[l]? = some o) (_ : o.isCells = false) (_ : o.isWalk = false) : Mem.Keeps S W (W.putObj l o') :=
  (Mem.Keeps.refl S W).grown (grownBy_putObj' W l o') (fun k e _ => by cases e; exact hS _ hl)
end Go.Proofs.Ytfafehffnjbhnaa
