/- The walk of a store's AsOf. Stores whose writes are right. -/
import Derived.Test.YtfafehffnjbhnaaStore4
import Derived.Test.YtfafehffnjbhnaaStCov
set_option maxRecDepth 8000
namespace Go.Proofs.Ytfafehffnjbhnaa
open Go.ChangeShapes Go.WideShapes Go.ChangeAt Go.RowKit
set_option linter.unusedVariables false
set_option linter.unusedSimpArgs false
namespace Sto
structure Ans where
  e : Vec.Ent
  is : Bool
  err : Int
def asOfL (c : Vec.Col) (l : List Vec.Ent) : Ans := match l.find? (under c) with
  | some e => ⟨e, true, 0⟩
  | none => ⟨Vec.ent0, false, 0⟩
def asOf (st : List Ls) (mk : Vec.Col) (k : ByteArray) (c : Vec.Col) : Ans := if Vec.coversC c mk = true then asOfL c (vers st k).reverse else ⟨Vec.ent0, false, 60⟩
structure AoAt (w : World) (c : Vec.Col) (e : Vec.Ent) (t : Bool) (n : Int) (w0 : World) : Prop where
  C : CBx w0 w.heap.size c
  E : Vec.EBx w0 (w.heap.size + 1) e
  T : Mem.Bx w0 4 1 (w.heap.size + 2) [.bool t]
  N : Mem.Bx w0 53 1 (w.heap.size + 3) [.int .i64 n]
  b : Below w.heap.size w w0
theorem AoAt.keeps {w w0 w1 : World} {c : Vec.Col} {e : Vec.Ent} {t : Bool} {n : Int} {S : Nat → Prop} (h : AoAt w c e t n w0) (hk : Mem.Keeps S w0 w1) (hS : ∀ k, k < w.heap.size + 4 → ¬ S k) : AoAt w c e t n w1 :=
  ⟨h.C.keeps hk (hS _ (by omega)), h.E.keeps hk (hS _ (by omega)), h.T.keeps hk (hS _ (by omega)), h.N.keeps hk (hS _ (by omega)), h.b.trans (hk.below (fun k hk => by have := hS k; by_cases h : k < w.heap.size + 4; exact (this h hk).elim; omega) h.b.size)⟩
theorem AoAt.size {w w0 : World} {c : Vec.Col} {e : Vec.Ent} {t : Bool} {n : Int} (h : AoAt w c e t n w0) : w.heap.size + 4 ≤ w0.heap.size := by have := h.N.lt; omega
theorem AoAt.put {w w1 w3 : World} {c : Vec.Col} {e e' : Vec.Ent} {t t' : Bool} {n n' : Int} (h : AoAt w c e t n w1) (hb : Vec.EBx w3 (w.heap.size + 1) e') (hk : Mem.Keeps (fun k => k = w.heap.size + 1) w1 w3) :
    AoAt w c e' t' n' ((w3.setCell ⟨w.heap.size + 1 + 1, 0, none⟩ (.bool t')).setCell ⟨w.heap.size + 1 + 1 + 1, 0, none⟩ (.int .i64 n')) ∧
      Mem.Keeps (fun k => k < w.heap.size + 4) w1 ((w3.setCell ⟨w.heap.size + 1 + 1, 0, none⟩ (.bool t')).setCell ⟨w.heap.size + 1 + 1 + 1, 0, none⟩ (.int .i64 n')) := by
  have hs := h.size
  have hk3 : Mem.Keeps (fun k => k = w.heap.size + 1 ∨ k = w.heap.size + 2 ∨ k = w.heap.size + 3) w1 ((w3.setCell ⟨w.heap.size + 1 + 1, 0, none⟩ (.bool t')).setCell ⟨w.heap.size + 1 + 1 + 1, 0, none⟩ (.int .i64 n')) :=
    ((hk.mono (fun k h _ => .inl h)).setCell (p := ⟨w.heap.size + 1 + 1, 0, none⟩) (fun _ => .inr (.inl rfl)) _).setCell (p := ⟨w.heap.size + 1 + 1 + 1, 0, none⟩) (fun _ => .inr (.inr rfl)) _
  refine ⟨⟨h.C.keeps hk3 (by omega), (hb.keep (by omega) _ _).keep (by omega) _ _, ?_, ?_, h.b.trans (hk3.below (fun k hk => by omega) h.b.size)⟩, hk3.mono (fun k hk _ => by omega)⟩
  · exact ((h.T.keeps hk (by omega)).set 0 (.bool t')).keep (by omega) _ _
  · exact ((h.N.keeps hk (by omega)).keep (q := w.heap.size + 1 + 1) (by omega) 0 _).set 0 (.int .i64 n')
theorem ao_results {w w0 : World} {c : Vec.Col} {e : Vec.Ent} {t : Bool} {n : Int} {fn : Func} {tmps : Array Value} (h : AoAt w c e t n w0) (hf : fn.results = #[.cell 6 40, .cell 7 4, .cell 8 53])
    (h6 : tmps[6]?.getD undef = .pointer (some ⟨w.heap.size + 1, 0, none⟩)) (h7 : tmps[7]?.getD undef = .pointer (some ⟨w.heap.size + 1 + 1, 0, none⟩)) (h8 : tmps[8]?.getD undef = .pointer (some ⟨w.heap.size + 1 + 1 + 1, 0, none⟩)) :
    (results fn tmps).run Try.prog w0 = .ok (.tuple #[Vec.E e, .bool t, .int .i64 n]) w0 := by
  have ht := h.T.cell (j := 0) rfl
  have hn := h.N.cell (j := 0) rfl
  have l1 : (loadVar 4 ⟨w.heap.size + 1 + 1, 0, none⟩).run Try.prog w0 = .ok (.bool t) w0 := by simp [go_sem, ht]
  have l2 : (loadVar 53 ⟨w.heap.size + 1 + 1 + 1, 0, none⟩).run Try.prog w0 = .ok (.int .i64 n) w0 := by simp [go_sem, hn]
  have l0 := Mem.run_loadBx entry_agg h.E
  simp [results, hf, h6, h7, h8, asAddr, l0, l1, l2]
  rfl
theorem asOfL_none {c : Vec.Col} {l : List Vec.Ent} (h : ∀ e ∈ l, under c e = false) : asOfL c l = ⟨Vec.ent0, false, 0⟩ := by
  unfold asOfL
  rw [List.find?_eq_none.2 (fun e he => by simp [h e he])]
theorem asOfL_some {c : Vec.Col} {a : List Vec.Ent} {e : Vec.Ent} {r : List Vec.Ent} (h : ∀ e ∈ a, under c e = false) (he : under c e = true) : asOfL c (a ++ [e] ++ r) = ⟨e, true, 0⟩ := by
  unfold asOfL
  rw [List.append_assoc, List.find?_append, List.find?_eq_none.2 (fun e he => by simp [h e he]), Option.none_or, List.singleton_append, List.find?_cons, he]
end Sto
open Sto Vec in
set_option maxRecDepth 20000 in
set_option maxHeartbeats 4000000 in
theorem storeAsOf_any {w : World} {g b : Nat} {rng : Int} {mk : Vec.Col} {rs : List Sto.LR} (h : Sto.SS w g b rng mk rs) {k : ByteArray} (hk : Sto.okS k) (hdc : ∀ r ∈ rs, ∀ x ∈ r.l.es, 0 ≤ x.dc ∧ x.dc < 3) (hln : Sto.lenS (Sto.states rs) ≤ 4611686018427387903) (c : Vec.Col) :
    Calls Try.prog 22 #[.pointer (some ⟨g, 0, none⟩), .string k, Vec.C c] w fun x w' =>
      x = .returned (.tuple #[Vec.E (Sto.asOf (Sto.states rs) mk k c).e, .bool (Sto.asOf (Sto.states rs) mk k c).is, .int .i64 (Sto.asOf (Sto.states rs) mk k c).err]) ∧ Below w.heap.size w w' := by
  refine (callsIn_wide (n := 9)).1 (callsIn_of_wp_marks Try.func22 rfl trivial ?_ rfl)
  simp only [Try.ntmps22, List.size_toArray, List.length_cons, List.length_nil, Nat.reduceAdd, Nat.reduceSub, Array.replicate_succ, Array.replicate_zero, List.push_toArray, List.append_toArray, List.nil_append, List.cons_append]
  refine wpIn_wide.2 ?_
  go_upto_region 1 with fail
  refine Reg.wp_gen (fun w0 => AoAt w c ent0 false 0 w0) ⟨?_, ?_, ?_, ?_, ?_⟩ ?_
  · exact (Mem.Bx.new w 26 (colCells c).toArray rfl rfl).keeps ((((Mem.Keeps.refl (fun _ => False) _).alloc _).alloc _).alloc _) id
  · exact (EBx.new (w.alloc _) ent0 (by simp)).keeps (((Mem.Keeps.refl (fun _ => False) _).alloc _).alloc _) id
  · exact (Mem.Bx.new ((w.alloc _).alloc _) 4 #[.bool false] rfl (by simp)).keeps ((Mem.Keeps.refl (fun _ => False) _).alloc _) id
  · exact Mem.Bx.new (((w.alloc _).alloc _).alloc _) 53 #[.int .i64 0] rfl (by simp)
  · exact (((Reg.below_new w _).alloc (by simp) _).alloc (by simp; omega) _).alloc (by simp; omega) _
  intro w0 hw0
  have HS := Lib.hid (h.below hw0.b)
  have HA := Lib.hid hw0
  have x0 := HA.out.C.cell (j := 0) rfl
  have x1 := HA.out.C.cell (j := 1) rfl
  have x2 := HA.out.C.cell (j := 2) rfl
  have y0 := HS.out.B.cell (j := 2) rfl
  have y1 := HS.out.B.cell (j := 3) rfl
  have y2 := HS.out.B.cell (j := 4) rfl
  have l0 := HA.out.C.lt
  have l1 := HS.out.B.lt
  clear hw0 h
  obtain ⟨bc, hbc⟩ : ∃ bc, coversC c mk = bc := ⟨_, rfl⟩
  have HBC := Lib.hid hbc
  refine Reg.wp_region_rel (by kernel_rfl) 33 7 rfl rfl (by kernel_rfl) (Reg.Adds) (Reg.Adds.refl) (Reg.Adds.trans)
    (fun i v u => match i with
      | 0 => v = Vec.C c
      | 1 => v = .pointer (some ⟨g, 0, none⟩)
      | 2 => v = .pointer (some ⟨g, 0, none⟩)
      | 3 => v = .pointer (some ⟨g, 2, none⟩)
      | 4 => v = Vec.C mk
      | 5 => v = .bool bc
      | 6 => v = .bool (!bc)
      | _ => True) ?_ ?_
  · refine Reg.Steps.cons ?_ (Reg.Steps.cons ?_ (Reg.Steps.cons ?_ (Reg.Steps.cons ?_ (Reg.Steps.cons ?_ (Reg.Steps.cons ?_ (Reg.Steps.cons ?_ (Reg.Steps.nil _)))))))
    · intro val ac u hR hp ha K hK
      have e5 : (ac.tmps[5]?).getD undef = .pointer (some ⟨w.heap.size, 0, none⟩) := ha 5 (by decide); clear ha hp
      have z0 := (hR.cell (p := ⟨w.heap.size, 0, none⟩) l0).trans x0
      have z1 := (hR.cell (p := ⟨w.heap.size, 1, none⟩) l0).trans x1
      have z2 := (hR.cell (p := ⟨w.heap.size, 2, none⟩) l0).trans x2
      refine Reg.Op1.plain rfl ?_
      go_wp2
      exact ⟨rfl, hK _ _ rfl (fun j k _ _ => Reg.Adds.refl _ _ _)⟩
    · intro val ac u hR hp ha K hK
      have e0 : (ac.tmps[0]?).getD undef = .pointer (some ⟨g, 0, none⟩) := ha 0 (by decide); clear ha hp
      refine Reg.Op1.plain rfl ?_
      go_wp2
      exact ⟨rfl, hK _ _ rfl (fun j k _ _ => Reg.Adds.refl _ _ _)⟩
    · intro val ac u hR hp ha K hK
      obtain ⟨w12, h12, r12⟩ := hp 1 (by decide); have e12 : (ac.tmps[12]?).getD undef = .pointer (some ⟨g, 0, none⟩) := (ha 12 (by decide)).trans h12; clear h12 ha hp
      refine Reg.Op1.plain rfl ?_
      go_wp2
      exact ⟨rfl, hK _ _ rfl (fun j k _ _ => Reg.Adds.refl _ _ _)⟩
    · intro val ac u hR hp ha K hK
      obtain ⟨w13, h13, r13⟩ := hp 2 (by decide); have e13 : (ac.tmps[13]?).getD undef = .pointer (some ⟨g, 0, none⟩) := (ha 13 (by decide)).trans h13; clear h13 ha hp
      refine Reg.Op1.plain rfl ?_
      go_wp2
      exact ⟨rfl, hK _ _ rfl (fun j k _ _ => Reg.Adds.refl _ _ _)⟩
    · intro val ac u hR hp ha K hK
      obtain ⟨w14, h14, r14⟩ := hp 3 (by decide); have e14 : (ac.tmps[14]?).getD undef = .pointer (some ⟨g, 2, none⟩) := (ha 14 (by decide)).trans h14; clear h14 ha hp
      have z0 := (hR.cell (p := ⟨g, 2, none⟩) l1).trans y0
      have z1 := (hR.cell (p := ⟨g, 3, none⟩) l1).trans y1
      have z2 := (hR.cell (p := ⟨g, 4, none⟩) l1).trans y2
      refine Reg.Op1.plain rfl ?_
      go_wp2
      exact ⟨rfl, hK _ _ rfl (fun j k _ _ => Reg.Adds.refl _ _ _)⟩
    · intro val ac u hR hp ha K hK
      obtain ⟨w11, h11, r11⟩ := hp 0 (by decide); have e11 : (ac.tmps[11]?).getD undef = Vec.C c := (ha 11 (by decide)).trans h11; obtain ⟨w15, h15, r15⟩ := hp 4 (by decide); have e15 : (ac.tmps[15]?).getD undef = Vec.C mk := (ha 15 (by decide)).trans h15; clear h11 h15 ha hp
      refine Reg.Op1.plain rfl ?_
      go_wp2_with fail
      refine (coversC_any c mk u).mono ?_
      rintro x w' ⟨rfl, hbw⟩
      rw [hbc]
      go_wp2_with fail
      exact ⟨rfl, hK _ _ rfl (fun j k _ _ => hbw)⟩
    · intro val ac u hR hp ha K hK
      obtain ⟨w16, h16, r16⟩ := hp 5 (by decide); have e16 : (ac.tmps[16]?).getD undef = .bool bc := (ha 16 (by decide)).trans h16; clear h16 ha hp
      refine Reg.Op1.plain rfl ?_
      go_wp2
      exact ⟨rfl, hK _ _ rfl (fun j k _ _ => Reg.Adds.refl _ _ _)⟩
  intro val u hR H
  obtain ⟨_, hv, _⟩ := H 6 (by decide)
  have hv : val 6 = .bool (!bc) := hv
  have hB1 : Below w0.heap.size w0 u := (Below.refl _ w0).drew.trans hR
  simp only [List.map_cons, List.map_nil, Reg.lay, Act.put, List.setIfInBounds_toArray, List.set_cons_succ, List.set_cons_zero, Nat.reduceAdd, hv]
  obtain ⟨w1, hw1⟩ : ∃ z, z = u := ⟨_, rfl⟩
  subst hw1
  have HA1 : Hid (AoAt w c ent0 false 0 w1) := HA.out.keeps (Mem.Keeps.of_below hB1) (fun _ _ h => h)
  have HS1 := Lib.hid (HS.out.below hB1)
  clear hR H hv hB1 HA HS x0 x1 x2 y0 y1 y2 l0 l1 hbc
  cases bc with
  | false =>
    have HAO : Hid (asOf (states rs) mk k c = ⟨ent0, false, 60⟩) := by show _ = _; unfold asOf; rw [HBC.out]; rfl
    have t0 := HA1.out.T.cell (j := 0) rfl
    have tf := HA1.out.T.fr 0
    have n0 := HA1.out.N.cell (j := 0) rfl
    have nf := HA1.out.N.fr 0
    go_wp2_with ((with_reducible refine Mem.store_agg _ _ entry_agg (w.heap.size + 1) (entCells ent0) (entCells ent0) ?hxb ?hyb HA1.out.E (entCells_length _) (ent_one ent0) ?_); ((case hxb => exact rfl); (case hyb => exact rfl); intro w3 hb3 hk3 hs3; have t0 := (HA1.out.T.keeps hk3 (by omega)).cell (j := 0) rfl; have tf := (HA1.out.T.keeps hk3 (by omega)).fr 0; have n0 := (HA1.out.N.keeps hk3 (by omega)).cell (j := 0) rfl; have nf := (HA1.out.N.keeps hk3 (by omega)).fr 0))
    have hA9 := HA1.out.put (t' := false) (n' := 60) hb3 hk3
    refine Reg.leave_plain (ao_results hA9.1 Try.results22 rfl rfl rfl) ⟨by rw [HAO.out], hA9.1.b⟩
  | true =>
    have x1 := HS1.out.B.cell (j := 1) rfl
    have hlk := look_at HS1.out hk
    obtain ⟨A, c3, es, hlv, hve, hO, hfp, _⟩ := HS1.out.list k
    rw [hlv] at hlk
    go_wp2_with (go_at_call 41; refine (backward_any A es.length c3 w1).mono ?_; rintro x w2 ⟨rfl, rfl⟩)
    have HA2 : Hid (AoAt w c ent0 false 0 (w1.alloc (.cells #[.slice A es.length c3] 22))) := HA1.out.keeps ((Mem.Keeps.refl (fun _ => False) _).alloc _) (fun _ _ h => h)
    have hO2 : EOwn (w1.alloc (.cells #[.slice A es.length c3] 22)) A c3 es := hO.alloc _
    have hbox := (Mem.Bx.new w1 22 #[.slice A es.length c3] rfl rfl).cell (j := 0) rfl
    have hsz : (w1.alloc (.cells #[.slice A es.length c3] 22)).heap.size = w1.heap.size + 1 := by simp
    have hdce : DcOk es := by
      rw [← hve]
      intro x hx
      rcases vers_cases (states rs) k with ⟨l, hl, _, hl3⟩ | ⟨hl, _⟩
      · obtain ⟨r, hr, rfl⟩ := List.mem_map.1 hl
        exact hdc r hr x (hl3 ▸ hx)
      · rw [hl] at hx; cases hx
    have HVE : Hid (asOf (states rs) mk k c = asOfL c es.reverse) := by show _ = _; unfold asOf; rw [HBC.out, if_pos rfl, hve]
    have hel : es.length ≤ 4611686018427387903 := by rw [← hve]; exact Nat.le_trans (vers_len _ _) hln
    obtain ⟨w2, hw2⟩ : ∃ w2, w1.alloc (.cells #[.slice A es.length c3] 22) = w2 := ⟨_, rfl⟩
    rw [hw2] at HA2 hO2 hbox hsz ⊢
    have hA2s := HA2.out.size
    have hAlt : ∀ k, Mem.blk A = some k → ¬ w2.heap.size ≤ k := fun k hk => by have := hO2.lt hk; omega
    obtain ⟨g1, hg1⟩ : ∃ g1, w1.heap.size = g1 := ⟨_, rfl⟩
    rw [hg1] at hbox hsz ⊢
    clear hw2 hg1 hO hfp hlk hlv hve x1 HS1 HA1
    refine (wpIn_wide (n := 9)).1 ?_
    refine wpIn_rangeFunc_ownH rfl (by omega) (gf := 57) (lb := #[.pointer (some ⟨g1, 0, none⟩)]) rfl trivial (enters_of Try.func57 (by kernel_rfl) rfl)
      (backward_stops (9 - 1) (by omega) g1 c3 A es hel (fun k => w2.heap.size ≤ k) w2 hAlt (by omega) (by omega) hbox hO2 hdce) keepsK_t (keepsK_b (fun _ h => h)) (Below.refl _ _) (fun _ => rfl)
      (fun pre W => (∀ p ∈ pre, under c p.e = false) ∧ Mem.Keeps (fun k => w2.heap.size ≤ k) w2 W)
      (fun cc pre W => cc = .ret ∧ ∃ ini last, pre = ini ++ [last] ∧ (∀ p ∈ ini, under c p.e = false) ∧ under c last.e = true ∧ AoAt w c last.e true 0 W)
      (fun s X Y row hs hg hr => ⟨hs.1, hs.2.trans (Reg.keeps_row hg hr) (fun _ h _ => h)⟩)
      (fun cc s X Y row hs hg hr => by
        obtain ⟨h1, ini, last, h2, h3, h4, h5⟩ := hs
        exact ⟨h1, ini, last, h2, h3, h4, h5.keeps (Reg.keeps_row hg hr) (fun k hk => by omega)⟩)
      ⟨fun p hp => (by cases hp), Mem.Keeps.refl _ _⟩
      (fun x a' W => ∃ bx, w2.heap.size ≤ bx ∧ EBx W bx x.e ∧ a' = { tmps := #[.pointer (some ⟨g, 0, none⟩), .string k, C c, undef, undef, .pointer (some ⟨w.heap.size, 0, none⟩), .pointer (some ⟨w.heap.size + 1, 0, none⟩), .pointer (some ⟨w.heap.size + 1 + 1, 0, none⟩), .pointer (some ⟨w.heap.size + 1 + 1 + 1, 0, none⟩), undef, .pointer (some ⟨bx, 0, none⟩), val 0, val 1, val 2, val 3, val 4, val 5, .bool false, undef, .pointer (some ⟨g, 0, none⟩), .pointer (some ⟨g, 0, none⟩), .pointer (some ⟨g, 1, none⟩), .map (some b), .string k, .slice A es.length c3, .func (.func 57) #[] #[.pointer (some ⟨g1, 0, none⟩)], .int .i64 (x.i : Int), .agg (entCells x.e).toArray, undef, undef, undef, undef, undef], defers := [] })
      (fun x a' s X Y row hs hg hr => by
        obtain ⟨bx, h1, h2, h3⟩ := hs
        exact ⟨bx, h1, Reg.Bx_kept h2 hg (fun r e => (hr r e).2), h3⟩)
      ?assign ?body ?done ?stop
    case assign =>
      intro l pre x W K hi hK
      have hsW := hi.2.size
      refine Reg.fence_lit Reg.letsOut_false rfl ?_
      simp only [bEnc]
      go_wp2_with ((with_reducible refine Mem.store_agg _ _ entry_agg W.heap.size (entCells ent0) (entCells x.e) ?hxa ?hya ?hba (entCells_length _) (ent_one _) ?_); ((case hxa => exact rfl); (case hya => exact rfl); (case hba => exact Mem.Bx.new W _ (entCells ent0).toArray rfl rfl); intro w5 hb5 hk5 hs5))
      have hk9 := hk5.newBox rfl
      exact hK _ _ (Reg.keepsFrom_of (hk9.mono (fun _ h _ => h.elim))) (hk9.mono (fun _ h _ => h.elim)) ⟨hi.1, hi.2.trans hk9 (fun _ h _ => h.elim)⟩ ⟨W.heap.size, hsW, hb5, rfl⟩
    case body =>
      rintro l pre x a' W hl ⟨r, hr⟩ ⟨hp, hB⟩ ⟨bx, hbx, hE, rfl⟩ hlen
      have HAW : Hid (AoAt w c ent0 false 0 W) := HA2.out.keeps hB (fun k hk => by omega)
      have z0 := HAW.out.C.cell (j := 0) rfl
      have z1 := HAW.out.C.cell (j := 1) rfl
      have z2 := HAW.out.C.cell (j := 2) rfl
      have HEX := Lib.hid hE
      have HCV := Lib.hid (covered_any c x.e W x.ok)
      refine wpIn_block (wpIn_seq (Reg.fence_lit (Reg.letsOut_then (Reg.letsOut_block Reg.letsOut_own)) rfl ?_))
      cases hu : under c x.e with
      | true =>
        rw [hu] at HCV
        go_wp2_with (first | ((with_reducible refine Mem.load_agg _ _ entry_agg bx 0 (entCells x.e) ?hz (entCells_length _) (fun j u hu => by rw [Nat.zero_add]; exact HEX.out.cell hu) ?_); case hz => exact rfl) | (go_at_call 29; refine HCV.out.mono ?_; rintro x6 w6 ⟨rfl, hb6⟩))
        have HA6 : Hid (AoAt w c ent0 false 0 w6) := HAW.out.keeps (Mem.Keeps.of_below hb6) (fun _ _ h => h)
        have HE6 : Hid (EBx w6 bx x.e) := HEX.out.below hb6 HEX.out.lt
        have t0 := HA6.out.T.cell (j := 0) rfl
        have tf := HA6.out.T.fr 0
        have n0 := HA6.out.N.cell (j := 0) rfl
        have nf := HA6.out.N.fr 0
        refine wpIn_cond_true rfl (wpIn_seq (Reg.fence_lit (Reg.letsOut_then (Reg.letsOut_block Reg.letsOut_own)) rfl ?_))
        go_wp2_with (first | ((with_reducible refine Mem.load_agg _ _ entry_agg bx 0 (entCells x.e) ?hz (entCells_length _) (fun j u hu => by rw [Nat.zero_add]; exact HE6.out.cell hu) ?_); case hz => exact rfl) | ((with_reducible refine Mem.store_agg _ _ entry_agg (w.heap.size + 1) (entCells ent0) (entCells x.e) ?hxb ?hyb HA6.out.E (entCells_length _) (ent_one x.e) ?_); ((case hxb => exact rfl); (case hyb => exact rfl); intro w3 hb3 hk3 hs3; have t0 := (HA6.out.T.keeps hk3 (by omega)).cell (j := 0) rfl; have tf := (HA6.out.T.keeps hk3 (by omega)).fr 0; have n0 := (HA6.out.N.keeps hk3 (by omega)).cell (j := 0) rfl; have nf := (HA6.out.N.keeps hk3 (by omega)).fr 0)))
        have hA9 := HA6.out.put (t' := true) (n' := 0) hb3 hk3
        refine wpIn_ret ?_
        exact ⟨Reg.keepsFrom_of (((Mem.Keeps.of_below hb6).mono (fun _ h _ => h.elim)).trans hA9.2 (fun k hk _ => by omega)), rfl, pre, x, rfl, hp, hu, hA9.1⟩
      | false =>
        rw [hu] at HCV
        go_wp2_with (first | ((with_reducible refine Mem.load_agg _ _ entry_agg bx 0 (entCells x.e) ?hz (entCells_length _) (fun j u hu => by rw [Nat.zero_add]; exact HEX.out.cell hu) ?_); case hz => exact rfl) | (go_at_call 29; refine HCV.out.mono ?_; rintro x6 w6 ⟨rfl, hb6⟩))
        have hk6 : Mem.Keeps (fun _ => False) W w6 := Mem.Keeps.of_below hb6
        refine wpIn_cond_false rfl (wpIn_skip ?_)
        refine ⟨Reg.keepsFrom_of (hk6.mono (fun _ h _ => h.elim)), hk6.mono (fun _ h _ => h.elim), fun p hp9 => ?_, hB.trans hk6 (fun _ h _ => h.elim)⟩
        rcases List.mem_append.1 hp9 with h9 | h9
        · exact hp p h9
        · rw [List.mem_singleton] at h9; subst h9; exact hu
    case done =>
      rintro D ys W hD hys ⟨hne, hB⟩ hK
      have HAW : Hid (AoAt w c ent0 false 0 W) := HA2.out.keeps hB (fun k hk => by omega)
      have HAO : Hid (asOf (states rs) mk k c = ⟨ent0, false, 0⟩) := by
        show _ = _
        rw [HVE.out]
        refine asOfL_none fun e he => ?_
        rw [← hys] at he
        obtain ⟨p, hp, rfl⟩ := List.mem_map.1 he
        exact hne p hp
      have HK := Lib.hid hK
      have hDW : D < W.heap.size := (Array.getElem?_eq_some_iff.1 hK).1
      have t0 := HAW.out.T.cell (j := 0) rfl
      have tf := HAW.out.T.fr 0
      have n0 := HAW.out.N.cell (j := 0) rfl
      have nf := HAW.out.N.fr 0
      clear hne hys hK hB
      dsimp only
      go_wp2_with ((with_reducible refine Mem.store_agg _ _ entry_agg (w.heap.size + 1) (entCells ent0) (entCells ent0) ?hxb ?hyb HAW.out.E (entCells_length _) (ent_one ent0) ?_); ((case hxb => exact rfl); (case hyb => exact rfl); intro w3 hb3 hk3 hs3; have t0 := (HAW.out.T.keeps hk3 (by omega)).cell (j := 0) rfl; have tf := (HAW.out.T.keeps hk3 (by omega)).fr 0; have n0 := (HAW.out.N.keeps hk3 (by omega)).cell (j := 0) rfl; have nf := (HAW.out.N.keeps hk3 (by omega)).fr 0))
      have hA9 := HAW.out.put (t' := false) (n' := 0) hb3 hk3
      have hK9 := (hA9.2.block D hDW (by omega)).trans HK.out
      have hA10 := hA9.1.keeps (Reg.keeps_put (o' := .deferred none) hK9) (fun k hk e => by omega)
      exact Reg.leave_mark hK9 (ao_results hA10 Try.results22 rfl rfl rfl) ⟨by rw [HAO.out], hA10.b⟩
    case stop =>
      rintro D cc pre W hD hpre ⟨rfl, ini, last, e1, e2, e3, hA⟩ hK
      obtain ⟨rest, hrest⟩ := hpre
      have HAO : Hid (asOf (states rs) mk k c = ⟨last.e, true, 0⟩) := by
        show _ = _
        rw [HVE.out, ← hrest, e1, List.map_append]
        exact asOfL_some (fun e he => by obtain ⟨p, hp, rfl⟩ := List.mem_map.1 he; exact e2 p hp) e3
      have HA := Lib.hid hA
      have HK := Lib.hid hK
      clear hrest e1 e2 e3 hA hK
      dsimp only
      gi_wp2
      have hA10 := HA.out.keeps (Reg.keeps_put (o' := .deferred none) HK.out) (fun k hk e => by omega)
      exact Reg.leave_mark HK.out (ao_results hA10 Try.results22 rfl rfl rfl) ⟨by rw [HAO.out], hA10.b⟩
end Go.Proofs.Ytfafehffnjbhnaa
