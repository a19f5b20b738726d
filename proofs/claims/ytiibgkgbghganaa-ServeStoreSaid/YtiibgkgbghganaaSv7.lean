/- The walk of a store's Collect. Stores that are few. -/
import Derived.Test.YtiibgkgbghganaaSvC
import Derived.Test.YtiibgkgbghganaaMapIt
import Derived.StillTailTactics
set_option maxRecDepth 8000
namespace Go.Proofs.Ytiibgkgbghganaa
open Go.ChangeShapes Go.WideShapes Go.ChangeAt Go.RowKit
set_option linter.unusedVariables false
set_option linter.unusedSimpArgs false
namespace Sto
open Vec
def mkTo (m c : Col) : Nat → Col
  | 0 => m
  | 1 => ⟨max m.a c.a, m.b, m.c⟩
  | 2 => ⟨max m.a c.a, max m.b c.b, m.c⟩
  | _ => maxC m c
/-- the receiver's box -/
abbrev SBx (w : World) (h g : Nat) : Prop := Mem.Bx w 52 1 h [.pointer (some ⟨g, 0, none⟩)]
structure CoAt (w : World) (g b : Nat) (rng : Int) (mk : Col) (rs : List LR) (w0 : World) : Prop where
  S : SS w0 g b rng mk rs
  X : SBx w0 w.heap.size g
  k : Mem.Keeps (fun q => q = g) w w0
  z : w.heap.size + 2 ≤ w0.heap.size
/-- behind the mark's turn: the count of what goes, in a box g7 -/
structure CzAt (w : World) (g b : Nat) (rng : Int) (mk : Col) (rs : List LR) (g7 : Nat) (n : Nat) (w1 : World) : Prop where
  S : SS w1 g b rng mk rs
  X : SBx w1 w.heap.size g
  N : Mem.Bx w1 3 1 g7 [.int .i64 (n : Nat)]
  k : Mem.Keeps (fun q => q = g) w w1
  z : w.heap.size + 2 ≤ g7
def inL (lf : List LR) (k : ByteArray) : Bool := lf.any fun r => decide (r.l.k = k)
/-- the lists, of which those of lf are still to come -/
def mix (mk : Col) (lf : List LR) (st : List Ls) : List Ls := st.map fun l => if inL lf l.k = true then l else ⟨l.k, kept mk l.es⟩
structure CoRel (w : World) (g b : Nat) (rng : Int) (mk : Col) (rs0 : List LR) (g7 : Nat) (Ds : List Nat) (cur lf : List LR) (wr : World) : Prop where
  st : states cur = mix mk lf (states rs0)
  sub : ∀ r ∈ lf, r ∈ cur
  nd : (lf.map (·.l.k)).Nodup
  S : SS wr g b rng mk cur
  X : SBx wr w.heap.size g
  N : Mem.Bx wr 3 1 g7 [.int .i64 ((lenS (states rs0) - lenS (states cur) : Nat) : Int)]
  I : Mem.IterIs Value.string okS wr b (g7 + 1) (cur.map ent) (lf.map ent)
  dn : Ds.Nodup
  dm : ∀ D ∈ Ds, wr.heap[D]? = some (.deferred (some []))
  dz : ∀ D ∈ Ds, g7 + 2 ≤ D
  k : Mem.Keeps (fpS g b rs0) w wr
  q : ∀ k, fpS g b cur k → fpS g b rs0 k ∨ g7 + 2 ≤ k
  le : lenS (states cur) ≤ lenS (states rs0)
theorem SS.real {w : World} {g b : Nat} {rng : Int} {mk : Col} {rs : List LR} (h : SS w g b rng mk rs) {q : Nat} (hq : fpS g b rs q) {x : Option (List Deferred)} : w.heap[q]? ≠ some (.deferred x) := by
  intro e
  have own : ∀ {t : TypeId} {sz n c : Nat} {A : Option Addr} {xs : List Value}, Mem.Own w t sz A n c xs → Mem.blk A = some q → False := fun ho hb => by
    rcases ho.2 with ⟨h0, _⟩ | ⟨g', o', cur, h0, hg', _⟩
    · rw [h0] at hb; cases hb
    · rw [h0] at hb; cases hb; rw [hg'] at e; cases e
  rcases hq with rfl | rfl | ⟨r, hr, hb⟩
  · exact own h.B rfl
  · obtain ⟨es, clock, hb, _⟩ := h.M
    rw [hb] at e; cases e
  · exact own (h.O r hr) hb
theorem mix_nil (mk : Col) (st : List Ls) : mix mk [] st = collectS mk st := by
  unfold mix collectS
  refine List.map_congr_left fun l _ => ?_
  rw [if_neg (by simp [inL])]
theorem mix_mem {mk : Col} {lf : List LR} {st : List Ls} {l : Ls} (h : l ∈ mix mk lf st) (hl : inL lf l.k = true) : l ∈ st := by
  obtain ⟨l0, h0, e⟩ := List.mem_map.1 h
  by_cases hi : inL lf l0.k = true
  · rw [if_pos hi] at e; exact e ▸ h0
  · rw [if_neg hi] at e
    subst e
    exact (hi hl).elim
/-- one list more is done -/
theorem mix_step {mk : Col} {lf : List LR} {i : Nat} {r : LR} {st : List Ls} {pre post : List Ls} (hi : lf[i]? = some r) (hn : (lf.map (·.l.k)).Nodup) (hst : pre ++ r.l :: post = mix mk lf st) (hnd : (st.map (·.k)).Nodup) :
    pre ++ ⟨r.l.k, kept mk r.l.es⟩ :: post = mix mk (lf.eraseIdx i) st := by
  have hin : ∀ k, k ≠ r.l.k → inL (lf.eraseIdx i) k = inL lf k := fun k hk => by
    have hp := erase_perm hi
    unfold inL
    rw [← hp.any_eq]
    rw [List.any_cons]
    have : decide (r.l.k = k) = false := by simpa using fun e => hk e.symm
    rw [this, Bool.false_or]
  have hno : inL (lf.eraseIdx i) r.l.k = false := by
    have hp := (erase_perm hi).map (fun q : LR => q.l.k)
    have hn2 := hp.symm.nodup hn
    rw [List.map_cons, List.nodup_cons] at hn2
    unfold inL
    rw [List.any_eq_false]
    intro q hq e
    exact hn2.1 (List.mem_map.2 ⟨q, hq, by simpa using e⟩)
  have hyes : inL lf r.l.k = true := List.any_eq_true.2 ⟨r, List.mem_of_getElem? hi, by simp⟩
  have hk : (pre ++ r.l :: post).map (·.k) = st.map (·.k) := by
    rw [hst]
    unfold mix
    rw [List.map_map]
    refine List.map_congr_left fun l _ => ?_
    show (if inL lf l.k = true then l else _).k = l.k
    split <;> rfl
  have hmap : mix mk (lf.eraseIdx i) st = (mix mk lf st).map fun l => if l.k = r.l.k then ⟨l.k, kept mk l.es⟩ else l := by
    unfold mix
    rw [List.map_map]
    refine List.map_congr_left fun l _ => ?_
    show (if inL (lf.eraseIdx i) l.k = true then l else _) = (fun l : Ls => if l.k = r.l.k then (⟨l.k, kept mk l.es⟩ : Ls) else l) (if inL lf l.k = true then l else _)
    by_cases h : l.k = r.l.k
    · rw [h, hno, hyes]
      simp [h]
    · rw [hin _ h]
      by_cases h2 : inL lf l.k = true
      · simp [h2, h]
      · simp [h2, h]
  rw [hmap, ← hst, List.map_append, List.map_cons, if_pos rfl]
  rw [← hk, List.map_append, List.map_cons] at hnd
  rw [List.nodup_append, List.nodup_cons] at hnd
  have e1 : pre.map (fun l => if l.k = r.l.k then (⟨l.k, kept mk l.es⟩ : Ls) else l) = pre := by
    conv => rhs; rw [← List.map_id pre]
    refine List.map_congr_left fun l hl => ?_
    rw [if_neg (fun e => hnd.2.2 l.k (List.mem_map.2 ⟨l, hl, rfl⟩) r.l.k List.mem_cons_self e)]
    rfl
  have e2 : post.map (fun l => if l.k = r.l.k then (⟨l.k, kept mk l.es⟩ : Ls) else l) = post := by
    conv => rhs; rw [← List.map_id post]
    refine List.map_congr_left fun l hl => ?_
    rw [if_neg (fun e => hnd.2.1.1 (List.mem_map.2 ⟨l, hl, e⟩))]
    rfl
  rw [e1, e2]
/-- in a list's walk: what is kept so far (block gk), has a covered one been met (gk + 1), how many have gone (g7) -/
structure RdAt (g7 gk : Nat) (p : Bool × List Ent) (n : Nat) (W : World) : Prop where
  K : ∃ Ak ck, Mem.Bx W 22 1 gk [.slice Ak p.2.length ck] ∧ EOwn W Ak ck p.2 ∧ ∀ q, Mem.blk Ak = some q → gk + 3 ≤ q
  F : Mem.Bx W 4 1 (gk + 1) [.bool p.1]
  N : Mem.Bx W 3 1 g7 [.int .i64 (n : Nat)]
theorem RdAt.row {g7 gk : Nat} {p : Bool × List Ent} {n : Nat} {X Y : World} {row : Option Nat} (h : RdAt g7 gk p n X) (hg : X.grownBy Y row) (hr : ∀ r, row = some r → ∃ o : Obj, X.heap[r]? = some o ∧ o.isCells = false) : RdAt g7 gk p n Y := by
  obtain ⟨⟨Ak, ck, h1, h2, h3⟩, h4, h5⟩ := h
  exact ⟨⟨Ak, ck, Reg.Bx_kept h1 hg hr, Reg.Own_kept h2 hg hr, h3⟩, Reg.Bx_kept h4 hg hr, Reg.Bx_kept h5 hg hr⟩
theorem RdAt.below {g7 gk : Nat} {p : Bool × List Ent} {n : Nat} {X Y : World} (h : RdAt g7 gk p n X) (hb : Below X.heap.size X Y) : RdAt g7 gk p n Y := by
  obtain ⟨⟨Ak, ck, h1, h2, h3⟩, h4, h5⟩ := h
  exact ⟨⟨Ak, ck, h1.below hb h1.lt, h2.below hb (fun k hk => h2.lt hk), h3⟩, h4.below hb h4.lt, h5.below hb h5.lt⟩
/-- what a list's walk turns -/
abbrev RdS (g7 gk : Nat) (q : Nat) : Prop := q = g7 ∨ q = gk ∨ q = gk + 1 ∨ gk + 3 ≤ q
theorem ls_le {rs : List LR} {r : LR} (h : r ∈ rs) : r.l.es.length ≤ lenS (states rs) := by
  induction rs with
  | nil => cases h
  | cons a rs ih =>
    have h2 : lenS (states (a :: rs)) = a.l.es.length + lenS (states rs) := by simp [lenS, states]
    rw [h2]
    rcases List.mem_cons.1 h with rfl | h
    · omega
    · have := ih h; omega
/-- a list gets another place, the map told so -/
theorem SS.turn2 {w w' : World} {g b : Nat} {rng : Int} {mk : Col} {pre post : List LR} {r r' : LR} (h : SS w g b rng mk (pre ++ r :: post)) (hM : Mem.MapIs Value.string okS w' b ((pre ++ r' :: post).map ent)) (hO : EOwn w' r'.A r'.c r'.l.es)
    (hk : Mem.Keeps (fun k => k = b) w w') (hq : ∀ k, r'.fp k → ¬ fpS g b (pre ++ r :: post) k) : SS w' g b rng mk (pre ++ r' :: post) := by
  have hS := h.S
  have hsub : ∀ q ∈ pre ++ post, q ∈ pre ++ r :: post := fun q hq => by rcases List.mem_append.1 hq with h1 | h1 <;> simp [h1]
  have split : ∀ q ∈ pre ++ r' :: post, q = r' ∨ q ∈ pre ++ post := fun q hq => by
    rcases List.mem_append.1 hq with h1 | h1
    · exact .inr (List.mem_append_left _ h1)
    · rcases List.mem_cons.1 h1 with h1 | h1
      · exact .inl h1
      · exact .inr (List.mem_append_right _ h1)
  have hp := hS.p
  rw [List.pairwise_append, List.pairwise_cons] at hp
  obtain ⟨hp1, ⟨hp2, hp3⟩, hp4⟩ := hp
  refine ⟨h.B.keeps hk hS.gb, hM, fun q hq9 => ?_, hS.gb, fun q hq9 k hf => ?_, ?_⟩
  · rcases split q hq9 with rfl | h1
    · exact hO
    · exact (h.O q (hsub q h1)).keeps hk (fun k hf => (hS.f q (hsub q h1) k hf).2)
  · rcases split q hq9 with rfl | h1
    · exact ⟨fun e => hq k hf (.inl e), fun e => hq k hf (.inr (.inl e))⟩
    · exact hS.f q (hsub q h1) k hf
  · rw [List.pairwise_append, List.pairwise_cons]
    refine ⟨hp1, ⟨fun q hq9 k h1 h2 => hq k h1 (.inr (.inr ⟨q, by simp [hq9], h2⟩)), hp3⟩, fun q hq9 s hs k h1 h2 => ?_⟩
    rcases List.mem_cons.1 hs with rfl | hs
    · exact hq k h2 (.inr (.inr ⟨q, by simp [hq9], h1⟩))
    · exact hp4 q hq9 s (List.mem_cons_of_mem _ hs) k h1 h2
theorem lenS_mid (pre post : List Ls) (l : Ls) : lenS (pre ++ l :: post) = lenS (pre ++ post) + l.es.length := by
  simp [lenS]; omega
theorem keepsFrom_cells {B : Nat} {W W' : World} {S : Nat → Prop} (h : Mem.Keeps S W W') (hS : ∀ k o, S k → B ≤ k → W.heap[k]? = some o → o.isCells = true) : KeepsFrom B W W' :=
  ⟨h.size, fun k o hB hk ho => by
    by_cases hs : S k
    · have := hS k o hs hB hk
      rw [ho] at this
      cases this
    · exact (h.block k (Array.getElem?_eq_some_iff.1 hk).1 hs).trans hk⟩
theorem own_cells {W : World} {t : TypeId} {sz n c : Nat} {A : Option Addr} {xs : List Value} (h : Mem.Own W t sz A n c xs) {k : Nat} (hb : Mem.blk A = some k) {o : Obj} (ho : W.heap[k]? = some o) : o.isCells = true := by
  rcases h.2 with ⟨h0, _⟩ | ⟨g', o', cur, h0, hg', _⟩
  · rw [h0] at hb; cases hb
  · rw [h0] at hb; cases hb; rw [hg'] at ho; cases ho; rfl
structure CmRel (w : World) (g b : Nat) (rng : Int) (mk c : Col) (rs : List LR) (v15 : Value) (wr : World) : Prop where
  out : ∃ k : Nat, k ≤ 3 ∧ v15 = .int .i64 k ∧ Hid (CoAt w g b rng (mkTo mk c k) rs wr)
end Sto
theorem index_col (c : Vec.Col) (W : World) : (Instr.index 37 (Vec.C c) (.int .i64 0)).run Try.prog W = .ok (.int .i64 c.a) W ∧ (Instr.index 37 (Vec.C c) (.int .i64 1)).run Try.prog W = .ok (.int .i64 c.b) W ∧ (Instr.index 37 (Vec.C c) (.int .i64 2)).run Try.prog W = .ok (.int .i64 c.c) W := by
  have hu := Try.underlying37
  refine ⟨?_, ?_, ?_⟩ <;> simp [Instr.index, run_underlying hu, asIntOf, part, go_sem]
open Sto Vec in
set_option maxRecDepth 20000 in
set_option maxHeartbeats 8000000 in
theorem storeCollect_any {w : World} {g b : Nat} {rng : Int} {mk : Vec.Col} {rs0 : List Sto.LR} (h : Sto.SS w g b rng mk rs0) (hG : Sto.Good rng (Sto.states rs0)) (hln : Sto.lenS (Sto.states rs0) ≤ 1000000) (c : Vec.Col) :
    Calls Try.prog 19 #[.pointer (some ⟨g, 0, none⟩), Vec.C c] w fun x w' =>
      ∃ rs', x = .returned (.int .i64 ((Sto.lenS (Sto.states rs0) - Sto.lenS (Sto.states rs') : Nat))) ∧ Sto.states rs' = Sto.collectS (Sto.maxC mk c) (Sto.states rs0) ∧ Sto.SS w' g b rng (Sto.maxC mk c) rs' ∧ Mem.Keeps (Sto.fpS g b rs0) w w' ∧ ∀ q, Sto.fpS g b rs' q → Sto.fpS g b rs0 q ∨ w.heap.size ≤ q := by
  refine (callsIn_wide (n := 9)).1 (callsIn_of_wp_marks Try.func19 rfl trivial ?_ rfl)
  simp only [Try.ntmps19, List.size_toArray, List.length_cons, List.length_nil, Nat.reduceAdd, Nat.reduceSub, Array.replicate_succ, Array.replicate_zero, List.push_toArray, List.append_toArray, List.nil_append, List.cons_append]
  refine wpIn_wide.2 ?_
  have hgw : g < w.heap.size := h.B.lt
  go_upto_region 1 with fail
  refine Reg.wp_gen (fun w0 => CoAt w g b rng mk rs0 w0 ∧ CBx w0 (w.heap.size + 1) c) ⟨⟨?_, ?_, ?_, ?_⟩, ?_⟩ ?_
  · exact (h.below (Reg.below_new w _)).below (Reg.below_new _ _)
  · exact (Mem.Bx.new w 52 #[.pointer (some ⟨g, 0, none⟩)] rfl rfl).keeps ((Mem.Keeps.refl (fun _ => False) _).alloc _) id
  · exact ((Mem.Keeps.refl _ w).alloc _).alloc _
  · simp
  · exact Mem.Bx.new (w.alloc _) 37 (colCells c).toArray rfl (by simp)
  rintro w0 ⟨hA0, hC0⟩
  have HA0 := Lib.hid hA0
  have x0 := hC0.cell (j := 0) rfl
  have x1 := hC0.cell (j := 1) rfl
  have x2 := hC0.cell (j := 2) rfl
  have H := Lib.hid h
  have HG := Lib.hid hG
  clear hA0 hC0 h hG
  go_wp2
  go_loopw [15] (CmRel w g b rng mk c rs0) (fun t _ => 3 - (intOf t).toNat)
  case atStart => exact ⟨⟨0, by omega, rfl, HA0⟩⟩
  case round =>
    obtain ⟨k, hk, rfl, HA⟩ := hrel.out
    clear hrel HA0 x0 x1 x2
    have hc : k = 0 ∨ k = 1 ∨ k = 2 ∨ k = 3 := by omega
    rcases hc with rfl | rfl | rfl | rfl
    ·
      have hix := fun W => (index_col c W).1
      have y0 := HA.out.S.B.cell (j := 2) rfl
      have f1 := HA.out.S.B.fr 2
      have s0 := HA.out.X.cell (j := 0) rfl
      have hmx : ∀ ts t W, (Builtin.max_ ts t #[.int .i64 mk.a, .int .i64 c.a]).run Try.prog W = .ok (.int .i64 (max mk.a c.a)) W := fun ts t W => run_max2 ts t W _ _
      go_upto_region 4 with fail
      refine Reg.still_tail 13 (by kernel_rfl) (by kernel_rfl) ?_
      intro w5 hw5
      simp only [List.take_succ_cons, List.take_zero, List.drop_succ_cons, List.drop_zero]
      have y0' : w5.cell? ⟨g, 2, none⟩ = some (.int .i64 mk.a) := by rw [hw5]; exact y0
      have f1' : w5.frozen? ⟨g, 2, none⟩ = false := by rw [hw5]; exact f1
      have s0' : w5.cell? ⟨w.heap.size, 0, none⟩ = some (.pointer (some ⟨g, 0, none⟩)) := by rw [hw5]; exact s0
      have HK5 : Hid (Mem.Keeps (fun _ => False) wr w5) := by show Mem.Keeps _ _ _; rw [hw5]; exact (Mem.Keeps.refl _ wr).drew
      clear hw5 y0 f1 s0
      repeat still_step
      refine wpStill_nil ?_
      go_wp2
      go_roundw
      case rel =>
        refine ⟨⟨0 + 1, by omega, rfl, ?_⟩⟩
        have hs5 := HA.out.S.keeps HK5.out (fun _ _ h => h)
        have hk6 : Mem.Keeps (fun q => q = g) w5 (w5.setCell ⟨g, 2, none⟩ (.int .i64 (max mk.a c.a))) := (Mem.Keeps.refl (fun q => q = g) w5).setCell (p := ⟨g, 2, none⟩) (fun _ => rfl) _
        have hk7 := ((HK5.out.mono (T := fun q => q = g) (fun _ h _ => h.elim)).trans hk6 (fun _ h _ => h))
        refine ⟨hs5.mark (hs5.B.set 2 (.int .i64 (max mk.a c.a))) hk6, HA.out.X.keeps hk7 (by omega), HA.out.k.trans hk7 (fun _ h _ => h), Nat.le_trans HA.out.z hk7.size⟩
      case measure => simp [intOf]
    ·
      have hix := fun W => (index_col c W).2.1
      have y0 := HA.out.S.B.cell (j := 3) rfl
      have f1 := HA.out.S.B.fr 3
      have s0 := HA.out.X.cell (j := 0) rfl
      have hmx : ∀ ts t W, (Builtin.max_ ts t #[.int .i64 mk.b, .int .i64 c.b]).run Try.prog W = .ok (.int .i64 (max mk.b c.b)) W := fun ts t W => run_max2 ts t W _ _
      go_upto_region 4 with fail
      refine Reg.still_tail 13 (by kernel_rfl) (by kernel_rfl) ?_
      intro w5 hw5
      simp only [List.take_succ_cons, List.take_zero, List.drop_succ_cons, List.drop_zero]
      have y0' : w5.cell? ⟨g, 3, none⟩ = some (.int .i64 mk.b) := by rw [hw5]; exact y0
      have f1' : w5.frozen? ⟨g, 3, none⟩ = false := by rw [hw5]; exact f1
      have s0' : w5.cell? ⟨w.heap.size, 0, none⟩ = some (.pointer (some ⟨g, 0, none⟩)) := by rw [hw5]; exact s0
      have HK5 : Hid (Mem.Keeps (fun _ => False) wr w5) := by show Mem.Keeps _ _ _; rw [hw5]; exact (Mem.Keeps.refl _ wr).drew
      clear hw5 y0 f1 s0
      repeat still_step
      refine wpStill_nil ?_
      go_wp2
      go_roundw
      case rel =>
        refine ⟨⟨1 + 1, by omega, rfl, ?_⟩⟩
        have hs5 := HA.out.S.keeps HK5.out (fun _ _ h => h)
        have hk6 : Mem.Keeps (fun q => q = g) w5 (w5.setCell ⟨g, 3, none⟩ (.int .i64 (max mk.b c.b))) := (Mem.Keeps.refl (fun q => q = g) w5).setCell (p := ⟨g, 3, none⟩) (fun _ => rfl) _
        have hk7 := ((HK5.out.mono (T := fun q => q = g) (fun _ h _ => h.elim)).trans hk6 (fun _ h _ => h))
        refine ⟨hs5.mark (hs5.B.set 3 (.int .i64 (max mk.b c.b))) hk6, HA.out.X.keeps hk7 (by omega), HA.out.k.trans hk7 (fun _ h _ => h), Nat.le_trans HA.out.z hk7.size⟩
      case measure => simp [intOf]
    ·
      have hix := fun W => (index_col c W).2.2
      have y0 := HA.out.S.B.cell (j := 4) rfl
      have f1 := HA.out.S.B.fr 4
      have s0 := HA.out.X.cell (j := 0) rfl
      have hmx : ∀ ts t W, (Builtin.max_ ts t #[.int .i64 mk.c, .int .i64 c.c]).run Try.prog W = .ok (.int .i64 (max mk.c c.c)) W := fun ts t W => run_max2 ts t W _ _
      go_upto_region 4 with fail
      refine Reg.still_tail 13 (by kernel_rfl) (by kernel_rfl) ?_
      intro w5 hw5
      simp only [List.take_succ_cons, List.take_zero, List.drop_succ_cons, List.drop_zero]
      have y0' : w5.cell? ⟨g, 4, none⟩ = some (.int .i64 mk.c) := by rw [hw5]; exact y0
      have f1' : w5.frozen? ⟨g, 4, none⟩ = false := by rw [hw5]; exact f1
      have s0' : w5.cell? ⟨w.heap.size, 0, none⟩ = some (.pointer (some ⟨g, 0, none⟩)) := by rw [hw5]; exact s0
      have HK5 : Hid (Mem.Keeps (fun _ => False) wr w5) := by show Mem.Keeps _ _ _; rw [hw5]; exact (Mem.Keeps.refl _ wr).drew
      clear hw5 y0 f1 s0
      repeat still_step
      refine wpStill_nil ?_
      go_wp2
      go_roundw
      case rel =>
        refine ⟨⟨2 + 1, by omega, rfl, ?_⟩⟩
        have hs5 := HA.out.S.keeps HK5.out (fun _ _ h => h)
        have hk6 : Mem.Keeps (fun q => q = g) w5 (w5.setCell ⟨g, 4, none⟩ (.int .i64 (max mk.c c.c))) := (Mem.Keeps.refl (fun q => q = g) w5).setCell (p := ⟨g, 4, none⟩) (fun _ => rfl) _
        have hk7 := ((HK5.out.mono (T := fun q => q = g) (fun _ h _ => h.elim)).trans hk6 (fun _ h _ => h))
        refine ⟨hs5.mark (hs5.B.set 4 (.int .i64 (max mk.c c.c))) hk6, HA.out.X.keeps hk7 (by omega), HA.out.k.trans hk7 (fun _ h _ => h), Nat.le_trans HA.out.z hk7.size⟩
      case measure => simp [intOf]
    · go_upto_region 7 with fail
      refine Reg.wp_gen (fun w1 => CzAt w g b rng (maxC mk c) rs0 wr.heap.size 0 w1 ∧ w1.heap.size = wr.heap.size + 1) ⟨⟨?_, ?_, ?_, ?_, ?_⟩, ?_⟩ ?_
      · exact HA.out.S.below (Reg.below_new _ _)
      · exact HA.out.X.below (Reg.below_new _ _) HA.out.X.lt
      · exact Mem.Bx.new wr 3 #[.int .i64 0] rfl rfl
      · exact HA.out.k.trans (Mem.Keeps.of_below (Reg.below_new _ _)) (fun _ h _ => h.elim)
      · exact HA.out.z
      · simp
      rintro w1 ⟨hA1, hs1⟩
      obtain ⟨g7, hg7⟩ : ∃ g7, wr.heap.size = g7 := ⟨_, rfl⟩
      rw [hg7] at hA1 hs1 ⊢
      have HA1 := Lib.hid hA1
      have s0 := HA1.out.X.cell (j := 0) rfl
      have m0 := HA1.out.S.B.cell (j := 1) rfl
      obtain ⟨w2, hrun, hI, hk2, hs2⟩ := HA1.out.S.M.range (P := Try.prog) Try.underlying68
      obtain ⟨gt, hgt⟩ : ∃ gt, w1.heap.size = gt := ⟨_, rfl⟩
      rw [hgt] at hrun hI hs2
      have HI := Lib.hid hI
      have HK2 := Lib.hid hk2
      have hgt7 : gt = g7 + 1 := by omega
      clear hA1 hI hk2 HA hg7
      go_wp2
      refine wp_loop (fun a' w' => ∃ (u8 u9 u10 u11 u38 u39 u40 u41 u42 u43 u44 u60 u61 u62 u63 u64 u65 u66 u67 : Value) (Ds : List Nat) (cur lf : List LR), CoRel w g b rng (maxC mk c) rs0 g7 Ds cur lf w' ∧
        a' = { tmps := #[.pointer (some ⟨g, 0, none⟩), C c, .pointer (some ⟨w.heap.size, 0, none⟩), .pointer (some ⟨w.heap.size + 1, 0, none⟩), .int .i64 0, u5, u6, .pointer (some ⟨g7, 0, none⟩), u8, u9, u10, u11, undef, undef, .agg #[.int .i64 c.a, .int .i64 c.b, .int .i64 c.c], .int .i64 ((3 : Nat) : Int), .bool false, u17, u18, u19, u20, u21, u22, u23, u24, u25, u26, u27, u28, u29, u30, u31, u32, .pointer (some ⟨g, 0, none⟩), .pointer (some ⟨g, 0, none⟩), .pointer (some ⟨g, 1, none⟩), .map (some b), .pointer (some ⟨g7 + 1, 0, none⟩), u38, u39, u40, u41, u42, u43, u44, undef, undef, undef, undef, undef, undef, undef, undef, undef, undef, undef, undef, undef, undef, undef, u60, u61, u62, u63, u64, u65, u66, u67, undef], defers := Ds.map fun D => { target := .collected D, args := #[] } })
        (fun _ w' => w'.rangeLeft b (g7 + 1)) ?_ ?_
      · refine ⟨undef, undef, undef, undef, undef, undef, undef, undef, undef, undef, undef, undef, undef, undef, undef, undef, undef, undef, undef, [], rs0, rs0, ?_, rfl⟩
        subst hgt7
        have hz1 : g7 < w1.heap.size := by omega
        refine ⟨?_, fun r hr => hr, HA1.out.S.nodup, HA1.out.S.keeps HK2.out (fun _ _ h => h), HA1.out.X.keeps HK2.out id, ?_, HI.out, List.nodup_nil, fun D h => (by cases h), fun D h => (by cases h), ?_, fun k hk => .inl hk, Nat.le_refl _⟩
        · unfold mix
          symm
          rw [List.map_congr_left (g := id) (fun l hl => ?_), List.map_id]
          obtain ⟨r, hr, rfl⟩ := List.mem_map.1 hl
          have : inL rs0 r.l.k = true := List.any_eq_true.2 ⟨r, hr, by simp⟩
          rw [if_pos this]
          rfl
        · rw [Nat.sub_self]
          exact HA1.out.N.keeps HK2.out id
        · exact (HA1.out.k.mono (T := fpS g b rs0) (fun q e _ => .inl e)).trans HK2.out (fun _ h _ => h.elim)
      · rintro a' wr ⟨u8, u9, u10, u11, u38, u39, u40, u41, u42, u43, u44, u60, u61, u62, u63, u64, u65, u66, u67, Ds, cur, lf, hR, rfl⟩
        have HR := Lib.hid hR
        clear hR hrun s0 m0
        rcases HR.out.I.nexts Try.prog with ⟨hl, hrun⟩ | ⟨im, p, w3, hp, hrun, hI2, hk3, hs3, hen⟩
        · have n0 := HR.out.N.cell (j := 0) rfl
          obtain ⟨nn, hnn⟩ : ∃ nn, lenS (states rs0) - lenS (states cur) = nn := ⟨_, rfl⟩
          rw [hnn] at n0
          have HNN := Lib.hid hnn
          have HL := Lib.hid hl
          clear hl hnn
          go_wp2
          refine Reg.leave_marks (v := .int .i64 ((nn : Nat) : Int)) Ds wr HR.out.dn HR.out.dm ?_
          intro W' hk9
          have hlf : lf = [] := by simpa using HL.out
          subst hlf
          refine ⟨by simp [results, Try.results19, go_sem], cur, by rw [HNN.out], by rw [HR.out.st, mix_nil], HR.out.S.keeps hk9 (fun q hq hd => HR.out.S.real hq (HR.out.dm q hd)), ?_, fun q hq => (HR.out.q q hq).imp id (fun h => by have := HA1.out.z; omega)⟩
          exact HR.out.k.trans hk9 (fun q hd hlt => by have h1 := HR.out.dz q hd; have := HA1.out.z; omega)
        · obtain ⟨r, hr, hpr⟩ : ∃ r, lf[im]? = some r ∧ p = ent r := by
            rw [List.getElem?_map] at hp
            cases hl : lf[im]? with
            | none => rw [hl] at hp; cases hp
            | some r => rw [hl] at hp; exact ⟨r, rfl, by simpa using hp.symm⟩
          subst hpr
          have HR9 := Lib.hid hr
          have HI2 := Lib.hid hI2
          have HK3 := Lib.hid hk3
          have HS3 := Lib.hid hs3
          unfold ent at hrun hen
          dsimp only at hrun hen
          clear hp hr hI2 hk3 hs3
          go_wp2_with (go_at_call 34; refine (backward_any r.A r.l.es.length r.c _).mono ?_; rintro x w9 ⟨rfl, rfl⟩)
          refine Reg.wp_gen (fun w4 => RdAt g7 w3.heap.size (false, []) (lenS (states rs0) - lenS (states cur)) w4 ∧ w4.cell? ⟨w3.heap.size + 1 + 1, 0, none⟩ = some (.slice r.A r.l.es.length r.c) ∧ Mem.Keeps (fun _ => False) w3 w4 ∧ w4.heap.size = w3.heap.size + 3) ⟨⟨⟨none, 0, ?_, Mem.Own.nil _ _ _, fun q hq => (by cases hq)⟩, ?_, ?_⟩, ?_, ?_, ?_⟩ ?_
          · exact (Mem.Bx.new w3 22 #[.slice none 0 0] rfl rfl).keeps (((Mem.Keeps.refl (fun _ => False) _).alloc _).alloc _) id
          · exact (Mem.Bx.new (w3.alloc _) 4 #[.bool false] rfl (by simp)).keeps ((Mem.Keeps.refl (fun _ => False) _).alloc _) id
          · exact (HR.out.N.keeps HK3.out (by omega)).keeps ((((Mem.Keeps.refl (fun _ => False) w3).alloc _).alloc _).alloc _) id
          · exact (Mem.Bx.new ((w3.alloc _).alloc _) 22 #[.slice r.A r.l.es.length r.c] rfl (by simp)).cell (j := 0) rfl
          · exact ((((Mem.Keeps.refl (fun _ => False) w3).alloc _).alloc _).alloc _)
          · simp
          rintro w4 ⟨hrd4, hbox, hk4, hs4⟩
          obtain ⟨gk, hgk⟩ : ∃ gk, w3.heap.size = gk := ⟨_, rfl⟩
          rw [hgk] at hrd4 hbox hs4 ⊢
          have hrc : r ∈ cur := HR.out.sub r (List.mem_of_getElem? HR9.out)
          have hk34 : Mem.Keeps (fun q => q = g7 + 1) wr w4 := HK3.out.trans hk4 (fun _ h _ => h.elim)
          have hzw : w.heap.size + 2 ≤ g7 := HA1.out.z
          have hlt0 : ∀ q, fpS g b rs0 q → q < w.heap.size := fun q hq => H.out.lt hq
          have hwr3 : wr.heap.size = gk := by rw [← hgk, HS3.out]
          have hgt3 : g7 + 1 < gk := by have := HR.out.I.lt; omega
          have hfp : ∀ q, fpS g b cur q → q ≠ g7 ∧ q ≠ g7 + 1 ∧ q < gk := fun q hq => by
            have h1 := HR.out.S.lt hq
            rcases HR.out.q q hq with h2 | h2
            · have := hlt0 q h2; omega
            · omega
          have hX4 : SBx w4 w.heap.size g := HR.out.X.keeps hk34 (by omega)
          have hS4 : SS w4 g b rng (maxC mk c) cur := HR.out.S.keeps hk34 (fun q hq e => (hfp q hq).2.1 e)
          have hO4 := hS4.O r hrc
          have hAS : ∀ q, Mem.blk r.A = some q → ¬ RdS g7 gk q := fun q hq h9 => by
            have h1 := hfp q (.inr (.inr ⟨r, hrc, hq⟩))
            rcases h9 with h9 | h9 | h9 | h9 <;> omega
          have hgS : ¬ RdS g7 gk g := fun h9 => by
            have h1 := hfp g (.inl rfl)
            rcases h9 with h9 | h9 | h9 | h9 <;> omega
          have hwS : ¬ RdS g7 gk w.heap.size := fun h9 => by rcases h9 with h9 | h9 | h9 | h9 <;> omega
          have hrl : r.l ∈ states rs0 := mix_mem (mk := maxC mk c) (lf := lf) (by rw [← HR.out.st]; exact List.mem_map.2 ⟨r, hrc, rfl⟩) (List.any_eq_true.2 ⟨r, List.mem_of_getElem? HR9.out, by simp⟩)
          have hdce : DcOk r.l.es := fun x hx => by
            obtain ⟨r0, hr0, e⟩ := List.mem_map.1 hrl
            exact HG.out.hdc r0 hr0 x (e ▸ hx)
          have hesl : r.l.es.length ≤ 1000000 := by
            have h9 := ls_le hrc
            have := HR.out.le
            omega
          have hene : r.l.es ≠ [] := HG.out.ne r.l hrl
          obtain ⟨n0, hn0⟩ : ∃ n0, lenS (states rs0) - lenS (states cur) = n0 := ⟨_, rfl⟩
          rw [hn0] at hrd4
          have hn0l : n0 ≤ 1000000 := by omega
          have HN0 := Lib.hid hn0
          have HRD := Lib.hid hrd4
          have HX4 := Lib.hid hX4
          have HS4 := Lib.hid hS4
          have HK34 := Lib.hid hk34
          have HK4 := Lib.hid hk4
          have HLT0 := Lib.hid hlt0
          have HFP := Lib.hid hfp
          have HRC := Lib.hid hrc
          have HRL := Lib.hid hrl
          have HENE := Lib.hid hene
          clear hrd4 hX4 hS4 hk34 hlt0 hfp hrc hrl hene hn0 hk4 hwr3
          refine (wpIn_wide (n := 9)).1 ?_
          refine wpIn_rangeFunc_ownH rfl (by omega) (gf := 43) (lb := #[.pointer (some ⟨gk + 1 + 1, 0, none⟩)]) rfl trivial (enters_of Try.func43 (by kernel_rfl) rfl)
            (backward_stops (9 - 1) (by omega) (gk + 1 + 1) r.c r.A r.l.es (by omega) (RdS g7 gk) w4 hAS (fun h9 => by rcases h9 with h9 | h9 | h9 | h9 <;> omega) (by omega) hbox hO4 hdce) keepsK_t (keepsK_b (fun k hk => .inr (.inr (.inr (by omega))))) (Below.refl _ _) (fun _ => rfl)
            (fun pre W => RdAt g7 gk (kFold (maxC mk c) (pre.map (·.e))) (n0 + (pre.length - (kFold (maxC mk c) (pre.map (·.e))).2.length)) W ∧ Mem.Keeps (RdS g7 gk) w4 W)
            (fun _ _ _ => False)
            (fun s X Y row hs hg hr9 => ⟨hs.1.row hg (fun r e => (hr9 r e).2), hs.2.trans (Reg.keeps_row hg hr9) (fun k h _ => .inr (.inr (.inr (by omega))))⟩)
            (fun _ _ _ _ _ hs _ _ => hs)
            ⟨by simpa [kFold] using HRD.out, Mem.Keeps.refl _ _⟩
            (fun x a' W => ∃ bx, w4.heap.size ≤ bx ∧ EBx W bx x.e ∧ a' = { tmps := #[.pointer (some ⟨g, 0, none⟩), C c, .pointer (some ⟨w.heap.size, 0, none⟩), .pointer (some ⟨w.heap.size + 1, 0, none⟩), .int .i64 0, u5, u6, .pointer (some ⟨g7, 0, none⟩), .string r.l.k, .slice r.A r.l.es.length r.c, .pointer (some ⟨gk, 0, none⟩), .pointer (some ⟨gk + 1, 0, none⟩), undef, .pointer (some ⟨bx, 0, none⟩), .agg #[.int .i64 c.a, .int .i64 c.b, .int .i64 c.c], .int .i64 3, .bool false, u17, u18, u19, u20, u21, u22, u23, u24, u25, u26, u27, u28, u29, u30, u31, u32, .pointer (some ⟨g, 0, none⟩), .pointer (some ⟨g, 0, none⟩), .pointer (some ⟨g, 1, none⟩), .map (some b), .pointer (some ⟨g7 + 1, 0, none⟩), .tuple #[.bool true, .string r.l.k, .slice r.A r.l.es.length r.c], .bool true, .tuple #[.string r.l.k, .slice r.A r.l.es.length r.c], .string r.l.k, .slice r.A r.l.es.length r.c, .slice r.A r.l.es.length r.c, .func (.func 43) #[] #[.pointer (some ⟨gk + 1 + 1, 0, none⟩)], .int .i64 (x.i : Int), .agg (entCells x.e).toArray, undef, undef, undef, undef, undef, undef, undef, undef, undef, undef, undef, undef, undef, u60, u61, u62, u63, u64, u65, u66, u67, undef], defers := [] })
            (fun x a' s X Y row hs hg hr9 => by
              obtain ⟨bx, h1, h2, h3⟩ := hs
              exact ⟨bx, h1, Reg.Bx_kept h2 hg (fun r e => (hr9 r e).2), h3⟩)
            ?assign ?body ?done ?stop
          case assign =>
            intro l pre x W K hi hK
            have hsW := hi.2.size
            refine Reg.fence_lit Reg.letsOut_false rfl ?_
            simp only [bEnc]
            go_wp2_with ((with_reducible refine Mem.store_agg _ _ entry_agg W.heap.size (entCells ent0) (entCells x.e) ?hxa ?hya ?hba (entCells_length _) (ent_one _) ?_); ((case hxa => exact rfl); (case hya => exact rfl); (case hba => exact Mem.Bx.new W _ (entCells ent0).toArray rfl rfl); intro w5 hb5 hk5 hs5))
            have hk9 := hk5.newBox rfl
            exact hK _ _ (Reg.keepsFrom_of (hk9.mono (fun _ h _ => h.elim))) (hk9.mono (fun _ h _ => h.elim)) ⟨hi.1.below hk9.belowAll, hi.2.trans hk9 (fun _ h _ => h.elim)⟩ ⟨W.heap.size, hsW, hb5, rfl⟩
          case body =>
            rintro l pre x a' W hl ⟨r9, hr9⟩ ⟨hI, hBW⟩ ⟨bx, hbx, hE, rfl⟩ hlen
            obtain ⟨⟨fd, K⟩, hpk⟩ : ∃ p, kFold (maxC mk c) (pre.map (·.e)) = p := ⟨_, rfl⟩
            have hkf : kFold (maxC mk c) ((pre ++ [x]).map (·.e)) = kStep (maxC mk c) (fd, K) x.e := by rw [List.map_append, List.map_cons, List.map_nil, kFold_snoc, hpk]
            have hKl : K.length ≤ pre.length := by
              have h9 := kFold_le (maxC mk c) (pre.map (·.e))
              rw [hpk, List.length_map] at h9
              exact h9
            rw [hpk] at hI
            obtain ⟨⟨Ak, ck, hKb, hKo, hKz⟩, hKf, hKn⟩ := hI
            dsimp only at hKb hKo hKf hKn
            have hXW : SBx W w.heap.size g := HX4.out.keeps hBW hwS
            have hSW : Mem.Bx W 70 5 g (sCells rng b (maxC mk c)) := HS4.out.B.keeps hBW hgS
            have s0 := hXW.cell (j := 0) rfl
            have m2 := hSW.cell (j := 2) rfl
            have m3 := hSW.cell (j := 3) rfl
            have m4 := hSW.cell (j := 4) rfl
            have ls := hXW.lt
            have lg := hSW.lt
            have HEX := Lib.hid hE
            have HOW := Lib.hid hKo
            have hszW := hBW.size
            clear hXW hSW hE hr9
            refine wpIn_block (wpIn_seq (wpIn_seq ?_))
            cases hu : under (maxC mk c) x.e with
            | false =>
              refine Reg.fence_rel (Reg.letsOut_then (Reg.letsOut_then (Reg.letsOut_block Reg.letsOut_own))) rfl (by kernel_rfl) 69 6 rfl rfl (by kernel_rfl) (Reg.Adds) (Reg.Adds.refl) (Reg.Adds.trans)
                (fun i v u => match i with
                  | 0 => v = .pointer (some ⟨g, 0, none⟩)
                  | 1 => v = .pointer (some ⟨g, 0, none⟩)
                  | 2 => v = .pointer (some ⟨g, 2, none⟩)
                  | 3 => v = Vec.C (maxC mk c)
                  | 4 => v = .agg (entCells x.e).toArray
                  | 5 => v = .bool false
                  | _ => True) ?_ ?_
              · refine Reg.Steps.cons ?_ (Reg.Steps.cons ?_ (Reg.Steps.cons ?_ (Reg.Steps.cons ?_ (Reg.Steps.cons ?_ (Reg.Steps.cons ?_ (Reg.Steps.nil _))))))
                · intro val ac u hR hp ha K hK      -- 0: t47 := Op.load 30 t2
                  have e2 : (ac.tmps[2]?).getD undef = .pointer (some ⟨w.heap.size, 0, none⟩) := ha 2 (by decide)
                  clear ha hp
                  have z0 := (hR.cell (p := ⟨w.heap.size, 0, none⟩) ls).trans s0
                  refine Reg.Op1.plain rfl ?_
                  go_wp2
                  exact ⟨rfl, hK _ _ rfl (fun j k _ _ => Reg.Adds.refl _ _ _)⟩
                · intro val ac u hR hp ha K hK      -- 1: t48 := Op.nilCheck t47
                  obtain ⟨w47, h47, r47⟩ := hp 0 (by decide)
                  have e47 : (ac.tmps[47]?).getD undef = .pointer (some ⟨g, 0, none⟩) := (ha 47 (by decide)).trans h47
                  clear h47
                  clear ha hp
                  refine Reg.Op1.plain rfl ?_
                  go_wp2
                  exact ⟨rfl, hK _ _ rfl (fun j k _ _ => Reg.Adds.refl _ _ _)⟩
                · intro val ac u hR hp ha K hK      -- 2: t49 := Op.fieldAddr 71 t48 2
                  obtain ⟨w48, h48, r48⟩ := hp 1 (by decide)
                  have e48 : (ac.tmps[48]?).getD undef = .pointer (some ⟨g, 0, none⟩) := (ha 48 (by decide)).trans h48
                  clear h48
                  clear ha hp
                  refine Reg.Op1.plain rfl ?_
                  go_wp2
                  exact ⟨rfl, hK _ _ rfl (fun j k _ _ => Reg.Adds.refl _ _ _)⟩
                · intro val ac u hR hp ha K hK      -- 3: t50 := Op.load 26 t49
                  obtain ⟨w49, h49, r49⟩ := hp 2 (by decide)
                  have e49 : (ac.tmps[49]?).getD undef = .pointer (some ⟨g, 2, none⟩) := (ha 49 (by decide)).trans h49
                  clear h49
                  clear ha hp
                  have z2 := (hR.cell (p := ⟨g, 2, none⟩) lg).trans m2
                  have z3 := (hR.cell (p := ⟨g, 3, none⟩) lg).trans m3
                  have z4 := (hR.cell (p := ⟨g, 4, none⟩) lg).trans m4
                  refine Reg.Op1.plain rfl ?_
                  go_wp2
                  exact ⟨rfl, hK _ _ rfl (fun j k _ _ => Reg.Adds.refl _ _ _)⟩
                · intro val ac u hR hp ha K hK      -- 4: t51 := Op.load 40 t13
                  have e13 : (ac.tmps[13]?).getD undef = .pointer (some ⟨bx, 0, none⟩) := ha 13 (by decide)
                  clear ha hp
                  refine Reg.Op1.plain rfl ?_
                  have hEu : EBx u bx x.e := Mem.Bx.below (w := W.drew) HEX.out hR HEX.out.lt
                  refine Mem.load_agg _ _ entry_agg bx 0 (entCells x.e) (Reg.eval_of e13) (entCells_length _) (fun j u' hu => by rw [Nat.zero_add]; exact hEu.cell hu) ?_
                  exact ⟨rfl, hK _ _ rfl (fun j k _ _ => Reg.Adds.refl _ _ _)⟩
                · intro val ac u hR hp ha K hK      -- 5: t52 := Op.call { value (Operand.func 29), args := #[t50, t51], argTypes := #[26, 40] }
                  obtain ⟨w50, h50, r50⟩ := hp 3 (by decide)
                  have e50 : (ac.tmps[50]?).getD undef = Vec.C (maxC mk c) := (ha 50 (by decide)).trans h50
                  clear h50
                  obtain ⟨w51, h51, r51⟩ := hp 4 (by decide)
                  have e51 : (ac.tmps[51]?).getD undef = .agg (entCells x.e).toArray := (ha 51 (by decide)).trans h51
                  clear h51
                  clear ha hp
                  refine Reg.Op1.plain rfl ?_
                  go_wp2_with fail
                  refine (covered_any (maxC mk c) x.e u x.ok).mono ?_
                  rintro x9 w' ⟨rfl, hbw⟩
                  rw [hu]
                  go_wp2_with fail
                  exact ⟨rfl, hK _ _ rfl (fun j k _ _ => hbw)⟩
              intro val u hR H
              obtain ⟨_, hv, _⟩ := H 5 (by decide)
              have hv : val 5 = .bool false := hv
              have hb6 : Below W.heap.size W u := (Below.refl _ W).drew.trans hR
              simp only [List.map_cons, List.map_nil, Reg.lay, Act.put, List.setIfInBounds_toArray, List.set_cons_succ, List.set_cons_zero, Nat.reduceAdd, hv]
              clear hR H hv
              obtain ⟨w6, hw6⟩ : ∃ z, z = u := ⟨_, rfl⟩
              subst hw6
              refine wpIn_cond_false rfl (wpIn_skip ?_)
              have HKF : Hid (kFold (maxC mk c) ((pre ++ [x]).map (·.e)) = (fd, K ++ [x.e])) := by show _ = _; rw [hkf]; unfold kStep; rw [if_neg (by simp [hu])]
              have HKW : Hid (Mem.Keeps (fun k => k = g7 ∨ k = gk ∨ k = gk + 1 ∨ Mem.blk Ak = some k) W w6) := (Mem.Keeps.of_below hb6).mono (fun _ h _ => h.elim)
              have HKB := Lib.hid (hKb.below hb6 hKb.lt)
              have HKO : Hid (EOwn w6 Ak ck K) := hKo.below hb6 (fun k hk => hKo.lt hk)
              have HFF := Lib.hid (hKf.below hb6 hKf.lt)
              have HNN7 := Lib.hid (hKn.below hb6 hKn.lt)
              have HE6 : Hid (EBx w6 bx x.e) := HEX.out.below hb6 HEX.out.lt
              have HKZ := Lib.hid hKz
              have HSIZ : Hid (gk + 3 ≤ w6.heap.size) := by show _ ≤ _; have := hb6.size; omega
              clear hKb hKo hKf hKn s0 m2 m3 m4 hu hpk hkf hKz hb6
              refine Reg.fence_lit (Reg.letsOut_block Reg.letsOut_own) rfl ?_
              have y0 := HKB.out.cell (j := 0) rfl
              have HKA : Hid (Mem.Keeps (fun q => Mem.blk Ak = some q) w6 (w6.alloc (.cells (entCells x.e).toArray 33))) := (Mem.Keeps.refl (fun q => Mem.blk Ak = some q) w6).alloc _
              go_wp2_with (first | ((with_reducible refine Mem.load_agg _ _ entry_agg bx 0 (entCells x.e) ?hz (entCells_length _) (fun j u hu => by rw [Nat.zero_add]; exact HE6.out.cell hu) ?_); case hz => exact rfl) | ((with_reducible refine Mem.build1_agg _ _ 20 _ Try.underlying22 entry_zero (by decide) (by decide) (entCells x.e) ?hra (entCells_length _) ?_); (case hra => exact rfl)) | (at_builtin; refine Mem.wpList_app _ rfl (.tmp 56) (.tmp 58) _ rfl entries_elem Ak K.length ck _ rfl (w6.heap.size + 1) (some ⟨w6.heap.size, 0, none⟩) 1 1 (entCells x.e) rfl ?_ (HKO.out.alloc _) (Mem.Rd.alloc_new w6 _ _ _ rfl) rfl (ent_one x.e) (by unfold maxLen; omega) (by omega); intro A4 c4 w7 hown hg2 hat; have hk3 := HKA.out.grown hg2 (fun k hk _ => hk); have HK9 := Lib.hid hk3; have HO9 := Lib.hid hown; have HAT := Lib.hid hat; have hb7 := HKB.out.keeps hk3 (fun h => by have := HKZ.out gk h; omega); have y1 := hb7.cell (j := 0) rfl; have yf := hb7.fr 0; have HB7 := Lib.hid hb7; clear hown hg2 hat hk3 hb7))
              have hkk : (K ++ [x.e]).length = K.length + 1 := by simp
              have hb9 := (HB7.out.set 0 (.slice A4 (K.length + 1) c4))
              have hA4 : ∀ q, Mem.blk A4 = some q → gk + 3 ≤ q := fun q hq => by
                rcases HAT.out with h | h
                · rw [h] at hq; exact HKZ.out q hq
                · rw [h] at hq; cases hq
                  have := HSIZ.out; simp; omega
              have hk10 : Mem.Keeps (fun k => k = g7 ∨ k = gk ∨ k = gk + 1 ∨ Mem.blk Ak = some k) W (w7.setCell ⟨gk, 0, none⟩ (.slice A4 (K.length + 1) c4)) :=
                (HKW.out.trans (HK9.out.mono (T := fun k => k = g7 ∨ k = gk ∨ k = gk + 1 ∨ Mem.blk Ak = some k) (fun k h _ => .inr (.inr (.inr h)))) (fun k h hlt => h)).setCell (p := ⟨gk, 0, none⟩) (fun _ => .inr (.inl rfl)) _
              have hk11 := hk10.mono (T := RdS g7 gk) (fun k h _ => by rcases h with h | h | h | h; exact .inl h; exact .inr (.inl h); exact .inr (.inr (.inl h)); exact .inr (.inr (.inr (HKZ.out k h))))
              refine ⟨keepsFrom_cells hk10 (fun k o h hB ho => ?_), hk11, ⟨⟨A4, c4, ?_, ?_, hA4⟩, ?_, ?_⟩, hBW.trans hk11 (fun _ h _ => h)⟩
              · rcases h with h | h | h | h
                · omega
                · omega
                · omega
                · exact own_cells HOW.out h ho
              · rw [HKF.out, hkk]; exact hb9
              · rw [HKF.out]
                show Mem.Own _ _ _ _ _ _ _
                rw [hkk, List.flatMap_append]
                have h9 := HO9.out.keeps ((Mem.Keeps.refl (fun k => k = gk) w7).setCell (p := ⟨gk, 0, none⟩) (fun _ => rfl) (.slice A4 (K.length + 1) c4)) (fun q hq e => by have := hA4 q hq; omega)
                simpa using h9
              · rw [HKF.out]
                exact (HFF.out.keeps HK9.out (fun h => by have := HKZ.out (gk + 1) h; omega)).keep (by omega) _ _
              · rw [HKF.out, List.length_append, hkk, List.length_singleton, show n0 + (pre.length + 1 - (K.length + 1)) = n0 + (pre.length - K.length) by omega]
                exact (HNN7.out.keeps HK9.out (fun h => by have := HKZ.out g7 h; omega)).keep (by omega) _ _
            | true =>
              refine Reg.fence_rel (Reg.letsOut_then (Reg.letsOut_then (Reg.letsOut_block Reg.letsOut_own))) rfl (by kernel_rfl) 69 6 rfl rfl (by kernel_rfl) (Reg.Adds) (Reg.Adds.refl) (Reg.Adds.trans)
                (fun i v u => match i with
                  | 0 => v = .pointer (some ⟨g, 0, none⟩)
                  | 1 => v = .pointer (some ⟨g, 0, none⟩)
                  | 2 => v = .pointer (some ⟨g, 2, none⟩)
                  | 3 => v = Vec.C (maxC mk c)
                  | 4 => v = .agg (entCells x.e).toArray
                  | 5 => v = .bool true
                  | _ => True) ?_ ?_
              · refine Reg.Steps.cons ?_ (Reg.Steps.cons ?_ (Reg.Steps.cons ?_ (Reg.Steps.cons ?_ (Reg.Steps.cons ?_ (Reg.Steps.cons ?_ (Reg.Steps.nil _))))))
                · intro val ac u hR hp ha K hK      -- 0: t47 := Op.load 30 t2
                  have e2 : (ac.tmps[2]?).getD undef = .pointer (some ⟨w.heap.size, 0, none⟩) := ha 2 (by decide)
                  clear ha hp
                  have z0 := (hR.cell (p := ⟨w.heap.size, 0, none⟩) ls).trans s0
                  refine Reg.Op1.plain rfl ?_
                  go_wp2
                  exact ⟨rfl, hK _ _ rfl (fun j k _ _ => Reg.Adds.refl _ _ _)⟩
                · intro val ac u hR hp ha K hK      -- 1: t48 := Op.nilCheck t47
                  obtain ⟨w47, h47, r47⟩ := hp 0 (by decide)
                  have e47 : (ac.tmps[47]?).getD undef = .pointer (some ⟨g, 0, none⟩) := (ha 47 (by decide)).trans h47
                  clear h47
                  clear ha hp
                  refine Reg.Op1.plain rfl ?_
                  go_wp2
                  exact ⟨rfl, hK _ _ rfl (fun j k _ _ => Reg.Adds.refl _ _ _)⟩
                · intro val ac u hR hp ha K hK      -- 2: t49 := Op.fieldAddr 71 t48 2
                  obtain ⟨w48, h48, r48⟩ := hp 1 (by decide)
                  have e48 : (ac.tmps[48]?).getD undef = .pointer (some ⟨g, 0, none⟩) := (ha 48 (by decide)).trans h48
                  clear h48
                  clear ha hp
                  refine Reg.Op1.plain rfl ?_
                  go_wp2
                  exact ⟨rfl, hK _ _ rfl (fun j k _ _ => Reg.Adds.refl _ _ _)⟩
                · intro val ac u hR hp ha K hK      -- 3: t50 := Op.load 26 t49
                  obtain ⟨w49, h49, r49⟩ := hp 2 (by decide)
                  have e49 : (ac.tmps[49]?).getD undef = .pointer (some ⟨g, 2, none⟩) := (ha 49 (by decide)).trans h49
                  clear h49
                  clear ha hp
                  have z2 := (hR.cell (p := ⟨g, 2, none⟩) lg).trans m2
                  have z3 := (hR.cell (p := ⟨g, 3, none⟩) lg).trans m3
                  have z4 := (hR.cell (p := ⟨g, 4, none⟩) lg).trans m4
                  refine Reg.Op1.plain rfl ?_
                  go_wp2
                  exact ⟨rfl, hK _ _ rfl (fun j k _ _ => Reg.Adds.refl _ _ _)⟩
                · intro val ac u hR hp ha K hK      -- 4: t51 := Op.load 40 t13
                  have e13 : (ac.tmps[13]?).getD undef = .pointer (some ⟨bx, 0, none⟩) := ha 13 (by decide)
                  clear ha hp
                  refine Reg.Op1.plain rfl ?_
                  have hEu : EBx u bx x.e := Mem.Bx.below (w := W.drew) HEX.out hR HEX.out.lt
                  refine Mem.load_agg _ _ entry_agg bx 0 (entCells x.e) (Reg.eval_of e13) (entCells_length _) (fun j u' hu => by rw [Nat.zero_add]; exact hEu.cell hu) ?_
                  exact ⟨rfl, hK _ _ rfl (fun j k _ _ => Reg.Adds.refl _ _ _)⟩
                · intro val ac u hR hp ha K hK      -- 5: t52 := Op.call { value (Operand.func 29), args := #[t50, t51], argTypes := #[26, 40] }
                  obtain ⟨w50, h50, r50⟩ := hp 3 (by decide)
                  have e50 : (ac.tmps[50]?).getD undef = Vec.C (maxC mk c) := (ha 50 (by decide)).trans h50
                  clear h50
                  obtain ⟨w51, h51, r51⟩ := hp 4 (by decide)
                  have e51 : (ac.tmps[51]?).getD undef = .agg (entCells x.e).toArray := (ha 51 (by decide)).trans h51
                  clear h51
                  clear ha hp
                  refine Reg.Op1.plain rfl ?_
                  go_wp2_with fail
                  refine (covered_any (maxC mk c) x.e u x.ok).mono ?_
                  rintro x9 w' ⟨rfl, hbw⟩
                  rw [hu]
                  go_wp2_with fail
                  exact ⟨rfl, hK _ _ rfl (fun j k _ _ => hbw)⟩
              intro val u hR H
              obtain ⟨_, hv, _⟩ := H 5 (by decide)
              have hv : val 5 = .bool true := hv
              have hb6 : Below W.heap.size W u := (Below.refl _ W).drew.trans hR
              simp only [List.map_cons, List.map_nil, Reg.lay, Act.put, List.setIfInBounds_toArray, List.set_cons_succ, List.set_cons_zero, Nat.reduceAdd, hv]
              clear hR H hv
              obtain ⟨w6, hw6⟩ : ∃ z, z = u := ⟨_, rfl⟩
              subst hw6
              have HKF0 := Lib.hid hkf
              cases fd with
              | false =>
                have HKF : Hid (kFold (maxC mk c) ((pre ++ [x]).map (·.e)) = (true, K ++ [x.e])) := by show _ = _; rw [hkf]; unfold kStep; rw [if_pos hu, if_neg (by simp)]
                have hf6 := hKf.below hb6 hKf.lt
                have f0 := hf6.cell (j := 0) rfl
                have ff := hf6.fr 0
                have HF6 := Lib.hid hf6
                have HKZ := Lib.hid hKz
                have HU := Lib.hid hu
                clear hu hpk hkf hKz s0 m2 m3 m4 hf6
                refine wpIn_cond_true rfl (wpIn_seq (wpIn_seq (Reg.fence_lit (Reg.letsOut_then (Reg.letsOut_then (Reg.letsOut_then (Reg.letsOut_block Reg.letsOut_own)))) rfl ?_)))
                go_wp2_with fail
                refine wpIn_cond_false rfl (wpIn_skip ?_)
                refine Reg.fence_lit (Reg.letsOut_then (Reg.letsOut_block Reg.letsOut_own)) rfl ?_
                go_wp2_with fail
                obtain ⟨w8, hw8⟩ : ∃ w8, w6.setCell ⟨gk + 1, 0, none⟩ (.bool true) = w8 := ⟨_, rfl⟩
                have hk68 : Mem.Keeps (fun k => k = gk + 1) w6 w8 := by rw [← hw8]; exact (Mem.Keeps.refl (fun k => k = gk + 1) w6).setCell (p := ⟨gk + 1, 0, none⟩) (fun _ => rfl) _
                have HFF : Hid (Mem.Bx w8 4 1 (gk + 1) [.bool true]) := by show Mem.Bx _ _ _ _ _; rw [← hw8]; exact HF6.out.set 0 (.bool true)
                rw [hw8]
                have hkw8 : Mem.Keeps (fun k => k = gk + 1) W w8 := ((Mem.Keeps.of_below hb6).mono (T := fun k => k = gk + 1) (fun _ h _ => h.elim)).trans hk68 (fun _ h _ => h)
                have HKW : Hid (Mem.Keeps (fun k => k = g7 ∨ k = gk ∨ k = gk + 1 ∨ Mem.blk Ak = some k) W w8) := hkw8.mono (fun _ h _ => .inr (.inr (.inl h)))
                have HKB := Lib.hid (hKb.keeps hkw8 (by omega))
                have HKO : Hid (EOwn w8 Ak ck K) := hKo.keeps hkw8 (fun k hk e => by have := HKZ.out k hk; omega)
                have HNN7 := Lib.hid (hKn.keeps hkw8 (by omega))
                have HE6 : Hid (EBx w8 bx x.e) := HEX.out.keeps hkw8 (by omega)
                have HSIZ : Hid (gk + 3 ≤ w8.heap.size) := by show _ ≤ _; have := hkw8.size; omega
                clear hKb hKo hKf hKn hb6 hw8 hk68 hkw8 HF6 f0 ff
                refine Reg.fence_lit (Reg.letsOut_block Reg.letsOut_own) rfl ?_
                have y0 := HKB.out.cell (j := 0) rfl
                have HKA : Hid (Mem.Keeps (fun q => Mem.blk Ak = some q) w8 (w8.alloc (.cells (entCells x.e).toArray 33))) := (Mem.Keeps.refl (fun q => Mem.blk Ak = some q) w8).alloc _
                go_wp2_with (first | ((with_reducible refine Mem.load_agg _ _ entry_agg bx 0 (entCells x.e) ?hz (entCells_length _) (fun j u hu => by rw [Nat.zero_add]; exact HE6.out.cell hu) ?_); case hz => exact rfl) | ((with_reducible refine Mem.build1_agg _ _ 20 _ Try.underlying22 entry_zero (by decide) (by decide) (entCells x.e) ?hra (entCells_length _) ?_); (case hra => exact rfl)) | (at_builtin; refine Mem.wpList_app _ rfl (.tmp 56) (.tmp 58) _ rfl entries_elem Ak K.length ck _ rfl (w8.heap.size + 1) (some ⟨w8.heap.size, 0, none⟩) 1 1 (entCells x.e) rfl ?_ (HKO.out.alloc _) (Mem.Rd.alloc_new w8 _ _ _ rfl) rfl (ent_one x.e) (by unfold maxLen; omega) (by omega); intro A4 c4 w7 hown hg2 hat; have hk3 := HKA.out.grown hg2 (fun k hk _ => hk); have HK9 := Lib.hid hk3; have HO9 := Lib.hid hown; have HAT := Lib.hid hat; have hb7 := HKB.out.keeps hk3 (fun h => by have := HKZ.out gk h; omega); have y1 := hb7.cell (j := 0) rfl; have yf := hb7.fr 0; have HB7 := Lib.hid hb7; clear hown hg2 hat hk3 hb7))
                have hkk : (K ++ [x.e]).length = K.length + 1 := by simp
                have hb9 := (HB7.out.set 0 (.slice A4 (K.length + 1) c4))
                have hA4 : ∀ q, Mem.blk A4 = some q → gk + 3 ≤ q := fun q hq => by
                  rcases HAT.out with h | h
                  · rw [h] at hq; exact HKZ.out q hq
                  · rw [h] at hq; cases hq
                    have := HSIZ.out; simp; omega
                have hk10 : Mem.Keeps (fun k => k = g7 ∨ k = gk ∨ k = gk + 1 ∨ Mem.blk Ak = some k) W (w7.setCell ⟨gk, 0, none⟩ (.slice A4 (K.length + 1) c4)) :=
                  (HKW.out.trans (HK9.out.mono (T := fun k => k = g7 ∨ k = gk ∨ k = gk + 1 ∨ Mem.blk Ak = some k) (fun k h _ => .inr (.inr (.inr h)))) (fun k h hlt => h)).setCell (p := ⟨gk, 0, none⟩) (fun _ => .inr (.inl rfl)) _
                have hk11 := hk10.mono (T := RdS g7 gk) (fun k h _ => by rcases h with h | h | h | h; exact .inl h; exact .inr (.inl h); exact .inr (.inr (.inl h)); exact .inr (.inr (.inr (HKZ.out k h))))
                refine ⟨keepsFrom_cells hk10 (fun k o h hB ho => ?_), hk11, ⟨⟨A4, c4, ?_, ?_, hA4⟩, ?_, ?_⟩, hBW.trans hk11 (fun _ h _ => h)⟩
                · rcases h with h | h | h | h
                  · omega
                  · omega
                  · omega
                  · exact own_cells HOW.out h ho
                · rw [HKF.out, hkk]; exact hb9
                · rw [HKF.out]
                  show Mem.Own _ _ _ _ _ _ _
                  rw [hkk, List.flatMap_append]
                  have h9 := HO9.out.keeps ((Mem.Keeps.refl (fun k => k = gk) w7).setCell (p := ⟨gk, 0, none⟩) (fun _ => rfl) (.slice A4 (K.length + 1) c4)) (fun q hq e => by have := hA4 q hq; omega)
                  simpa using h9
                · rw [HKF.out]
                  exact (HFF.out.keeps HK9.out (fun h => by have := HKZ.out (gk + 1) h; omega)).keep (by omega) _ _
                · rw [HKF.out, List.length_append, hkk, List.length_singleton, show n0 + (pre.length + 1 - (K.length + 1)) = n0 + (pre.length - K.length) by omega]
                  exact (HNN7.out.keeps HK9.out (fun h => by have := HKZ.out g7 h; omega)).keep (by omega) _ _
              | true =>
                have HKF : Hid (kFold (maxC mk c) ((pre ++ [x]).map (·.e)) = (true, K)) := by show _ = _; rw [hkf]; unfold kStep; rw [if_pos hu, if_pos rfl]
                have hf6 := hKf.below hb6 hKf.lt
                have f0 := hf6.cell (j := 0) rfl
                have hn6 := hKn.below hb6 hKn.lt
                have n1 := hn6.cell (j := 0) rfl
                have nf := hn6.fr 0
                have HF6 := Lib.hid hf6
                have HN6 := Lib.hid hn6
                obtain ⟨nq, hnq⟩ : ∃ nq, n0 + (pre.length - K.length) = nq := ⟨_, rfl⟩
                rw [hnq] at n1
                have HNQ := Lib.hid hnq
                have hnql : nq ≤ 3000000 := by omega
                clear hu hpk hkf s0 m2 m3 m4 hf6 hn6 hnq
                refine wpIn_cond_true rfl (wpIn_seq (wpIn_seq (Reg.fence_lit (Reg.letsOut_then (Reg.letsOut_then (Reg.letsOut_then (Reg.letsOut_block Reg.letsOut_own)))) rfl ?_)))
                go_wp2_with fail
                refine wpIn_cond_true rfl (wpIn_seq (Reg.fence_lit (Reg.letsOut_then (Reg.letsOut_then (Reg.letsOut_then (Reg.letsOut_block Reg.letsOut_own)))) rfl ?_))
                go_wp2_with fail
                refine wpIn_exit ?_
                have hk68 : Mem.Keeps (fun k => k = g7) w6 (w6.setCell ⟨g7, 0, none⟩ (.int .i64 ((nq : Int) + 1))) := (Mem.Keeps.refl (fun k => k = g7) w6).setCell (p := ⟨g7, 0, none⟩) (fun _ => rfl) _
                have hkw8 := ((Mem.Keeps.of_below hb6).mono (T := fun k => k = g7) (fun _ h _ => h.elim)).trans hk68 (fun _ h _ => h)
                have hk11 := hkw8.mono (T := RdS g7 gk) (fun k h _ => .inl h)
                refine ⟨keepsFrom_cells hkw8 (fun k o h hB ho => by omega), hk11, ⟨⟨Ak, ck, ?_, ?_, hKz⟩, ?_, ?_⟩, hBW.trans hk11 (fun _ h _ => h)⟩
                · rw [HKF.out]; exact hKb.keeps hkw8 (by omega)
                · rw [HKF.out]; exact hKo.keeps hkw8 (fun k hk e => by have := hKz k hk; omega)
                · rw [HKF.out]; exact hKf.keeps hkw8 (by omega)
                · rw [HKF.out, List.length_append, List.length_singleton, show n0 + (pre.length + 1 - K.length) = nq + 1 by have := HNQ.out; omega]
                  have h9 := HN6.out.set 0 (.int .i64 ((nq : Int) + 1))
                  exact h9
          case done =>
            rintro D ys W hD hys ⟨hI, hBW⟩ hK
            have hyl : ys.length = r.l.es.length := by have := congrArg List.length hys; simpa using this
            rw [hys] at hI
            have hKr : (kFold (maxC mk c) r.l.es.reverse).2.reverse = kept (maxC mk c) r.l.es := rfl
            have hKne := kept_ne (maxC mk c) HENE.out
            have hKsub := (kept_sub (maxC mk c) r.l.es).length_le
            obtain ⟨⟨fd, K⟩, hpk⟩ : ∃ p, kFold (maxC mk c) r.l.es.reverse = p := ⟨_, rfl⟩
            rw [hpk] at hI hKr
            obtain ⟨⟨Ak, ck, hKb, hKo, hKz⟩, hKf, hKn⟩ := hI
            dsimp only at hKb hKo hKf hKn hKr
            have hkl : K.length = (kept (maxC mk c) r.l.es).length := by rw [← hKr, List.length_reverse]
            have hK0 : 0 < K.length := by rw [hkl]; exact List.length_pos_iff.2 hKne
            obtain ⟨g9, o9, hAk⟩ := hKo.form hK0
            subst hAk
            have hg9 := hKz g9 rfl
            have hXW : SBx W w.heap.size g := HX4.out.keeps hBW hwS
            have hSW : SS W g b rng (maxC mk c) cur := HS4.out.keeps hBW (fun q hq h9 => by have := HFP.out q hq; rcases h9 with h9 | h9 | h9 | h9 <;> omega)
            have hb0 : b < gk := (HFP.out b (.inr (.inl rfl))).2.2
            have hbn := HFP.out b (.inr (.inl rfl))
            have hbw : b < w.heap.size := HLT0.out b (.inr (.inl rfl))
            have hIW := (HI2.out.keeps HK4.out id id).keeps hBW (fun h9 => by rcases h9 with h9 | h9 | h9 | h9 <;> omega) (fun h9 => by rcases h9 with h9 | h9 | h9 | h9 <;> omega)
            have y0 := hKb.cell (j := 0) rfl
            have hRV0 := reverse_any g9 o9 ck K W hKo (by omega)
            rw [hKr, hkl] at hRV0
            have hRV := Lib.hid hRV0
            have HKL := Lib.hid hkl
            have HKS := Lib.hid hKsub
            rw [hkl] at y0
            clear hRV0 hkl hKsub hK0
            have HXW := Lib.hid hXW
            have HSW := Lib.hid hSW
            have HIW := Lib.hid hIW
            have HKB := Lib.hid hKb
            have HKN := Lib.hid hKn
            have HDW := Lib.hid hK
            have HBW := Lib.hid hBW
            have HKR := Lib.hid hKr
            have HSW9 : Hid (W.heap[b]? ≠ some (.deferred (some []))) := hSW.real (.inr (.inl rfl))
            have HKO := Lib.hid hKo
            clear hpk hKne hXW hSW hIW hKb hKo hKf hKn hK hBW hKr hKz hys
            dsimp only
            go_upto_region 20 with (go_at_call 35; refine hRV.out.mono ?_; rintro x9 w5 ⟨rfl, hO5, hK5⟩)
            have HO5 : Hid (EOwn w5 (some ⟨g9, o9, none⟩) ck (kept (maxC mk c) r.l.es)) := hO5
            have hne9 : g9 ≠ D := fun e => by
              obtain ⟨o, ho⟩ : ∃ o, W.heap[g9]? = some o := ⟨_, Array.getElem?_eq_getElem (HKO.out.lt rfl)⟩
              have h1 := own_cells HKO.out rfl ho
              rw [e, HDW.out] at ho
              cases ho
              cases h1
            have HX5 := Lib.hid (HXW.out.keeps hK5 (by omega))
            have HS5 := Lib.hid (HSW.out.keeps hK5 (fun q hq e => by have := HFP.out q hq; omega))
            have HI5 := Lib.hid (HIW.out.keeps hK5 (by omega) (by omega))
            have HKB5 := Lib.hid (HKB.out.keeps hK5 (by omega))
            have HKN5 := Lib.hid (HKN.out.keeps hK5 (by omega))
            have HK5 := Lib.hid hK5
            rw [HKL.out] at HKB5
            have l0 := HX5.out.lt
            have l1 := HS5.out.B.lt
            have l2 := HKB5.out.lt
            have z0 := HX5.out.cell (j := 0) rfl
            have z1 := HS5.out.B.cell (j := 1) rfl
            have z2 := HKB5.out.cell (j := 0) rfl
            have HOKK : Hid (okS r.l.k) := by
              obtain ⟨x, hx⟩ := List.exists_mem_of_ne_nil _ HENE.out
              obtain ⟨h1, _, h2⟩ := HG.out.ok r.l HRL.out x hx
              unfold rightE Vec.g3 at h1
              simp only [Bool.and_eq_true, decide_eq_true_eq] at h1
              show okS _
              rw [← h2]
              unfold okS maxLen
              omega
            obtain ⟨pre, post, hcur⟩ := List.append_of_mem HRC.out
            have HCUR := Lib.hid hcur
            have hlfn : ∀ q ∈ lf.eraseIdx im, q.l.k ≠ r.l.k := fun q hq e => by
              have hn2 := ((erase_perm HR9.out).map (fun q : LR => q.l.k)).symm.nodup HR.out.nd
              rw [List.map_cons, List.nodup_cons] at hn2
              exact hn2.1 (List.mem_map.2 ⟨q, hq, e⟩)
            have HLFN := Lib.hid hlfn
            clear hO5 hK5 hcur hlfn HXW HSW HIW HKB HKN
            refine Reg.wp_region_w (by kernel_rfl) 69 7 rfl rfl (by kernel_rfl) (6) (fun y => y = b) (0) (fun _ => False) (0) (fun _ => False)
              (fun i v u => match i with
                | 0 => v = .pointer (some ⟨g, 0, none⟩)
                | 1 => v = .pointer (some ⟨g, 0, none⟩)
                | 2 => v = .pointer (some ⟨g, 1, none⟩)
                | 3 => v = .map (some b)
                | 4 => v = .string r.l.k
                | 5 => v = .slice (some ⟨g9, o9, none⟩) (kept (maxC mk c) r.l.es).length ck
                | 6 => ∃ wm, Mem.IterIs Value.string okS wm b (g7 + 1) (Mem.putL (cur.map ent) r.l.k (.slice (some ⟨g9, o9, none⟩) (kept (maxC mk c) r.l.es).length ck)) ((lf.eraseIdx im).map ent) ∧ wm = u
                | _ => True) ?_ ?_
            · refine Reg.Steps.cons ?_ (Reg.Steps.cons ?_ (Reg.Steps.cons ?_ (Reg.Steps.cons ?_ (Reg.Steps.cons ?_ (Reg.Steps.cons ?_ (Reg.Steps.cons ?_ (Reg.Steps.nil _)))))))
              · intro val ac u hR hp ha K hK      -- 0: t62 := Op.load 30 t2
                have e2 : (ac.tmps[2]?).getD undef = .pointer (some ⟨w.heap.size, 0, none⟩) := ha 2 (by decide)
                clear ha hp
                refine Reg.Op1.plain rfl ?_
                have x0 := (((Mem.Keeps.refl (fun _ => False) w5).drew.trans (Reg.Wr.not1 hR (by decide +kernel)) (fun _ h _ => h.elim id id)).cell (p := ⟨w.heap.size, 0, none⟩) (l0) (id)).trans (z0)
                go_wp2
                exact ⟨rfl, hK _ _ rfl (Reg.Wr.same _)⟩
              · intro val ac u hR hp ha K hK      -- 1: t63 := Op.nilCheck t62
                obtain ⟨w62, h62, r62⟩ := hp 0 (by decide)
                have e62 : (ac.tmps[62]?).getD undef = .pointer (some ⟨g, 0, none⟩) := (ha 62 (by decide)).trans h62
                clear h62
                clear ha hp
                refine Reg.Op1.plain rfl ?_
                go_wp2
                exact ⟨rfl, hK _ _ rfl (Reg.Wr.same _)⟩
              · intro val ac u hR hp ha K hK      -- 2: t64 := Op.fieldAddr 71 t63 1
                obtain ⟨w63, h63, r63⟩ := hp 1 (by decide)
                have e63 : (ac.tmps[63]?).getD undef = .pointer (some ⟨g, 0, none⟩) := (ha 63 (by decide)).trans h63
                clear h63
                clear ha hp
                refine Reg.Op1.plain rfl ?_
                go_wp2
                exact ⟨rfl, hK _ _ rfl (Reg.Wr.same _)⟩
              · intro val ac u hR hp ha K hK      -- 3: t65 := Op.load 69 t64
                obtain ⟨w64, h64, r64⟩ := hp 2 (by decide)
                have e64 : (ac.tmps[64]?).getD undef = .pointer (some ⟨g, 1, none⟩) := (ha 64 (by decide)).trans h64
                clear h64
                clear ha hp
                refine Reg.Op1.plain rfl ?_
                have x0 := (((Mem.Keeps.refl (fun _ => False) w5).drew.trans (Reg.Wr.not1 hR (by decide +kernel)) (fun _ h _ => h.elim id id)).cell (p := ⟨g, 1, none⟩) (l1) (id)).trans (z1)
                go_wp2
                exact ⟨rfl, hK _ _ rfl (Reg.Wr.same _)⟩
              · intro val ac u hR hp ha K hK      -- 4: t66 := Op.move t8
                have e8 : (ac.tmps[8]?).getD undef = .string r.l.k := ha 8 (by decide)
                clear ha hp
                refine Reg.Op1.plain rfl ?_
                go_wp2
                exact ⟨rfl, hK _ _ rfl (Reg.Wr.same _)⟩
              · intro val ac u hR hp ha K hK      -- 5: t67 := Op.load 22 t10
                have e10 : (ac.tmps[10]?).getD undef = .pointer (some ⟨gk, 0, none⟩) := ha 10 (by decide)
                clear ha hp
                refine Reg.Op1.plain rfl ?_
                have x0 := (((Mem.Keeps.refl (fun _ => False) w5).drew.trans (Reg.Wr.not1 hR (by decide +kernel)) (fun _ h _ => h.elim id id)).cell (p := ⟨gk, 0, none⟩) (l2) (id)).trans (z2)
                go_wp2
                exact ⟨rfl, hK _ _ rfl (Reg.Wr.same _)⟩
              · intro val ac u hR hp ha K hK      -- 6: Op.mapUpdate 69 t65 t66 t67
                obtain ⟨w65, h65, r65⟩ := hp 3 (by decide)
                have e65 : (ac.tmps[65]?).getD undef = .map (some b) := (ha 65 (by decide)).trans h65
                clear h65
                obtain ⟨w66, h66, r66⟩ := hp 4 (by decide)
                have e66 : (ac.tmps[66]?).getD undef = .string r.l.k := (ha 66 (by decide)).trans h66
                clear h66
                obtain ⟨w67, h67, r67⟩ := hp 5 (by decide)
                have e67 : (ac.tmps[67]?).getD undef = .slice (some ⟨g9, o9, none⟩) (kept (maxC mk c) r.l.es).length ck := (ha 67 (by decide)).trans h67
                clear h67
                clear ha hp
                refine Reg.Op1.plain rfl ?_
                have hq : Mem.Keeps (fun _ => False) w5 u := (Mem.Keeps.refl (fun _ => False) w5).drew.trans (Reg.Wr.not1 hR (by decide +kernel)) (fun _ h _ => h.elim id id)
                have hI9 := HI5.out.keeps hq id id
                rw [← ChangeMaps.map_eraseIdx] at hI9
                refine Mem.wpList_iterPut strKey Try.underlying68 b (g7 + 1) (cur.map ent) ((lf.eraseIdx im).map ent) r.l.k (.slice (some ⟨g9, o9, none⟩) (kept (maxC mk c) r.l.es).length ck) (Reg.eval_of e65) (Reg.eval_of e66) (Reg.eval_of e67) hI9 HOKK.out ⟨_, List.mem_map.2 ⟨r, HRC.out, rfl⟩⟩ (fun p hp => by obtain ⟨q, hq9, rfl⟩ := List.mem_map.1 hp; exact HLFN.out q hq9) ?_
                intro w' hM' hk' hs'
                exact ⟨rfl, hK undef _ ⟨w', hM', rfl⟩ (Reg.Wr.does1 hk')⟩
            · intro val u hR H
              obtain ⟨w10, ⟨_, hM10, rfl⟩, r10⟩ := H 6 (by decide)
              have hq9 : Mem.Keeps (fun y => y = b) w5 u := ((Mem.Keeps.refl (fun y => y = b ∨ False ∨ False) w5).drew.trans (Reg.Wr.all hR) (fun _ h _ => h)).mono (fun _ h _ => h.elim id (fun h => h.elim False.elim False.elim))
              have hI11 := Mem.IterIs.keeps hM10 (Reg.Wr.not1 r10 (by decide +kernel)) (fun h => h.elim id id) (fun h => h.elim id id)
              simp only [List.map_cons, List.map_nil, Reg.lay, Act.put, List.setIfInBounds_toArray, List.set_cons_succ, List.set_cons_zero, Nat.reduceAdd]
              have hcur := HCUR.out
              have hnod : ((pre ++ r :: post).map (·.l.k)).Nodup := by rw [← hcur]; exact HS5.out.nodup
              have hput : Mem.putL (cur.map ent) r.l.k (.slice (some ⟨g9, o9, none⟩) (kept (maxC mk c) r.l.es).length ck) = (pre ++ (⟨⟨r.l.k, kept (maxC mk c) r.l.es⟩, some ⟨g9, o9, none⟩, ck⟩ : LR) :: post).map ent := by
                rw [hcur]
                exact putL_turn (k := r.l.k) (r' := ⟨⟨r.l.k, kept (maxC mk c) r.l.es⟩, some ⟨g9, o9, none⟩, ck⟩) rfl rfl rfl hnod
              rw [hput] at hI11
              have hO11 : EOwn u (some ⟨g9, o9, none⟩) ck (kept (maxC mk c) r.l.es) := HO5.out.keeps hq9 (fun k hk (h : k = b) => by have hk9 : g9 = k := (by simpa [Mem.blk] using hk); omega)
              have hS5 := HS5.out
              rw [hcur] at hS5
              have hS11 := hS5.turn2 (r' := ⟨⟨r.l.k, kept (maxC mk c) r.l.es⟩, some ⟨g9, o9, none⟩, ck⟩) hI11.is hO11 hq9 (fun k hk h => by
                have hk9 : g9 = k := by simpa [LR.fp, Mem.blk] using hk
                rw [← hcur] at h
                have := HFP.out k h
                omega)
              have hst9 : states (pre ++ (⟨⟨r.l.k, kept (maxC mk c) r.l.es⟩, some ⟨g9, o9, none⟩, ck⟩ : LR) :: post) = mix (maxC mk c) (lf.eraseIdx im) (states rs0) := by
                have h9 := mix_step (mk := maxC mk c) (st := states rs0) (pre := states pre) (post := states post) HR9.out HR.out.nd (by rw [← HR.out.st, hcur]; simp [states]) HG.out.kd
                rw [← h9]
                simp [states]
              have hl1 : lenS (states cur) = lenS (states (pre ++ post)) + r.l.es.length := by
                rw [hcur]
                have := lenS_mid (states pre) (states post) r.l
                simpa [states] using this
              have hl2 : lenS (states (pre ++ (⟨⟨r.l.k, kept (maxC mk c) r.l.es⟩, some ⟨g9, o9, none⟩, ck⟩ : LR) :: post)) = lenS (states (pre ++ post)) + (kept (maxC mk c) r.l.es).length := by
                have := lenS_mid (states pre) (states post) ⟨r.l.k, kept (maxC mk c) r.l.es⟩
                simpa [states] using this
              have hle9 := HR.out.le
              have hKsub := HKS.out
              have hWD : ∀ E, W.heap[E]? = some (.deferred (some [])) → E ≠ g9 → E ≠ b → u.heap[E]? = some (.deferred (some [])) := fun E hE h1 h2 => by
                have hlt := (Array.getElem?_eq_some_iff.1 hE).1
                have h3 := (HK5.out.block E hlt h1).trans hE
                exact (hq9.block E (Array.getElem?_eq_some_iff.1 h3).1 h2).trans h3
              have hDs : ∀ E ∈ Ds, E < gk ∧ W.heap[E]? = some (.deferred (some [])) := fun E hE => by
                have h1 := HR.out.dm E hE
                have hlt := (Array.getElem?_eq_some_iff.1 h1).1
                have hz := HR.out.dz E hE
                have h2 := (HK34.out.block E hlt (by omega)).trans h1
                have h4 : E < gk := by have := HS3.out; omega
                exact ⟨h4, (HBW.out.block E (Array.getElem?_eq_some_iff.1 h2).1 (fun h9 => by rcases h9 with h9 | h9 | h9 | h9 <;> omega)).trans h2⟩
              have hrel : CoRel w g b rng (maxC mk c) rs0 g7 (D :: Ds) (pre ++ (⟨⟨r.l.k, kept (maxC mk c) r.l.es⟩, some ⟨g9, o9, none⟩, ck⟩ : LR) :: post) (lf.eraseIdx im) u := by
                refine ⟨hst9, fun q hq => ?_, (HR.out.nd.sublist ((List.eraseIdx_sublist lf im).map _)), hS11, HX5.out.keeps hq9 (by omega), ?_, hI11, ?_, ?_, ?_, ?_, ?_, by omega⟩
                · have h1 := HR.out.sub q ((List.eraseIdx_sublist lf im).subset hq)
                  rw [hcur] at h1
                  rcases List.mem_append.1 h1 with h1 | h1
                  · exact List.mem_append_left _ h1
                  · rcases List.mem_cons.1 h1 with h1 | h1
                    · exact (HLFN.out q hq (by rw [h1])).elim
                    · exact List.mem_append_right _ (List.mem_cons_of_mem _ h1)
                · have h9 := HKN5.out.keeps hq9 (by omega)
                  have e9 : n0 + (ys.length - K.length) = lenS (states rs0) - lenS (states (pre ++ (⟨⟨r.l.k, kept (maxC mk c) r.l.es⟩, some ⟨g9, o9, none⟩, ck⟩ : LR) :: post)) := by
                    have h1 := HN0.out
                    have h2 := HKL.out
                    omega
                  rw [e9] at h9
                  exact h9
                · rw [List.nodup_cons]
                  exact ⟨fun hm => by have := (hDs D hm).1; omega, HR.out.dn⟩
                · intro E hE
                  rcases List.mem_cons.1 hE with rfl | hE
                  · exact hWD E HDW.out (fun e => hne9 e.symm) (by omega)
                  · obtain ⟨h1, h2⟩ := hDs E hE
                    exact hWD E h2 (by omega) (fun e => HSW9.out (e ▸ h2))
                · intro E hE
                  rcases List.mem_cons.1 hE with rfl | hE
                  · omega
                  · exact HR.out.dz E hE
                · refine (((HR.out.k.trans HK34.out (fun q e hlt => by omega)).trans HBW.out (fun q h9 hlt => ?_)).trans HK5.out (fun q e hlt => by omega)).trans hq9 (fun q e _ => .inr (.inl e))
                  rcases h9 with h9 | h9 | h9 | h9 <;> omega
                · rintro q (h9 | h9 | ⟨s, hs, hf⟩)
                  · exact .inl (.inl h9)
                  · exact .inl (.inr (.inl h9))
                  · rcases List.mem_append.1 hs with hs | hs
                    · exact HR.out.q q (.inr (.inr ⟨s, by rw [hcur]; exact List.mem_append_left _ hs, hf⟩))
                    · rcases List.mem_cons.1 hs with rfl | hs
                      · have hk9 : g9 = q := by simpa [LR.fp, Mem.blk] using hf
                        exact .inr (by omega)
                      · exact HR.out.q q (.inr (.inr ⟨s, by rw [hcur]; exact List.mem_append_right _ (List.mem_cons_of_mem _ hs), hf⟩))
              have hcnt : u.rangeLeft b (g7 + 1) < wr.rangeLeft b (g7 + 1) := by
                rw [hI11.count, HR.out.I.count, List.length_map, List.length_map, List.length_eraseIdx, if_pos (List.getElem?_eq_some_iff.1 HR9.out).1]
                have := (List.getElem?_eq_some_iff.1 HR9.out).1
                omega
              have HREL := Lib.hid hrel
              have HCNT := Lib.hid hcnt
              clear hR H hM10 r10 hq9 hI11 hcur hnod hput hO11 hS5 hS11 hst9 hl1 hl2 hle9 hWD hDs hrel hcnt
              go_wp2
              refine ⟨⟨_, _, _, _, _, _, _, _, _, _, _, _, _, _, _, _, _, _, _, D :: Ds, _, _, HREL.out, rfl⟩, HCNT.out⟩
          case stop =>
            rintro D cc pre W hD hpre h9 hK
            exact h9.elim
end Go.Proofs.Ytiibgkgbghganaa
