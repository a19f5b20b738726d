/- The checker with its sessions in memory; the walk of of. No conditions. -/
import Derived.Test.YtelephoalpphkaaAud15
import Derived.Test.YtelephoalpphkaaMap
set_option maxRecDepth 8000
namespace Go.Proofs.Ytelephoalpphkaa
open Go.ChangeShapes Go.WideShapes Go.ChangeAt Go.RowKit
set_option linter.unusedVariables false
set_option linter.unusedSimpArgs false
namespace Au
def okI (x : Int) : Prop := -9223372036854775808 ≤ x ∧ x ≤ 9223372036854775807
theorem intKey : Mem.MKey Try.prog 3 (Value.int .i64) okI := ⟨Maps.int_keyed Try.underlying3, fun h => by cases h; rfl, fun {x} hx => ⟨_, Maps.keyOf_int_mk Try.underlying3 (by unfold okI at hx; have h1 : IntKind.i64.min = -9223372036854775808 := (by decide); have h2 : IntKind.i64.max = 9223372036854775807 := (by decide); simp only [Lit.wf, h1, h2]; simp; omega)⟩⟩
/-- a session that is held: its client, its block, what it is -/
structure SR where
  cl : Int
  g : Nat
  s : Ss
def sent (r : SR) : Int × Value := (r.cl, .pointer (some ⟨r.g, 0, none⟩))
def findS (ss : List SR) (n : Int) : Option SR := ss.find? fun r => r.cl == n
def sOf (ss : List SR) (n : Int) : Ss := ((findS ss n).map (·.s)).getD ss0
theorem look_s (n : Int) : ∀ ss : List SR, (ss.map sent).lookup n = (findS ss n).map fun r => Value.pointer (some ⟨r.g, 0, none⟩)
  | [] => rfl
  | r :: ss => by
    unfold findS
    rw [List.map_cons, List.find?_cons]
    show List.lookup n ((r.cl, _) :: _) = _
    rw [List.lookup_cons]
    by_cases h : r.cl = n
    · have h2 : (r.cl == n) = true := by simpa using h
      rw [h2, show (n == r.cl) = true by simpa using h.symm]; rfl
    · have h2 : (r.cl == n) = false := by simpa using h
      rw [h2, show (n == r.cl) = false by simpa using fun e => h e.symm]
      exact look_s n ss
/-- the checker and its sessions in memory -/
structure Chk (w : World) (B gc : Nat) (k : Ck) (ss : List SR) : Prop where
  c : Mem.Bx w 66 4 gc (ckCells k)
  m : Mem.MapIs (Value.int .i64) okI w k.bm (ss.map sent)
  s : ∀ r ∈ ss, SBx w r.g r.s ∧ EvOk w B r.s.begun
  ne : (ss.map (·.g)).Nodup
  gb : gc ≠ k.bm
  gs : ∀ r ∈ ss, r.g ≠ gc ∧ r.g ≠ k.bm ∧ B ≤ r.g
  gB : B ≤ gc
  bB : B ≤ k.bm
  H : Mem.Rd w B k.hA (k.h.flatMap evCells)
  W : Mem.Rd w B k.wA (k.ws.flatMap Vec.entCells)
  E : ∀ e ∈ k.h, EvOk w B e
  le : B ≤ w.heap.size
  hl : k.h.length ≤ k.hc
  wl : k.ws.length ≤ k.wc
  hn : k.hc ≤ 9223372036854775807
  wn : k.wc ≤ 9223372036854775807
  a : k.at' ≤ k.h.length
theorem Chk.below {w w' : World} {B gc : Nat} {k : Ck} {ss : List SR} (h : Chk w B gc k ss) (hb : Below w.heap.size w w') : Chk w' B gc k ss :=
  ⟨h.c.below hb h.c.lt, h.m.keeps (Mem.Keeps.of_below hb) id, fun r hr => ⟨(h.s r hr).1.below hb (h.s r hr).1.lt, (h.s r hr).2.below (hb.mono h.le) (Nat.le_refl _)⟩, h.ne, h.gb, h.gs, h.gB, h.bB, h.H.below (hb.mono h.le), h.W.below (hb.mono h.le), fun e he => (h.E e he).below (hb.mono h.le) (Nat.le_refl _), Nat.le_trans h.le hb.size, h.hl, h.wl, h.hn, h.wn, h.a⟩
theorem look_at {w : World} {B gc : Nat} {k : Ck} {ss : List SR} (h : Chk w B gc k ss) {n : Int} (hn : okI n) : (Instr.lookup 64 (.map (some k.bm)) (.int .i64 n) false).run Try.prog w = .ok ((findS ss n).elim (.pointer none) fun r => .pointer (some ⟨r.g, 0, none⟩)) w := by
  rw [h.m.look intKey Try.underlying64 (Try.zeroValue78 w) false hn, look_s]
  cases findS ss n <;> rfl
theorem findS_mem {ss : List SR} {n : Int} {r : SR} (h : findS ss n = some r) : r ∈ ss ∧ r.cl = n := ⟨List.mem_of_find?_eq_some h, by simpa using List.find?_some h⟩
theorem sOf_add {ss : List SR} {n : Int} (h : findS ss n = none) (g : Nat) (m : Int) : sOf (ss ++ [⟨n, g, ss0⟩]) m = sOf ss m := by
  unfold sOf findS at *
  rw [List.find?_append]
  cases hf : ss.find? (fun r => r.cl == m) with
  | some r => rfl
  | none =>
    rw [List.find?_cons]
    cases hh : (n == m) <;> simp [hh]
theorem find_add {ss : List SR} {n : Int} (h : findS ss n = none) (g : Nat) : findS (ss ++ [⟨n, g, ss0⟩]) n = some ⟨n, g, ss0⟩ := by
  unfold findS at *
  rw [List.find?_append, h, List.find?_cons]
  simp
/-- the blocks that the checker writes, besides its own -/
def fpC (k : Ck) (ss : List SR) (y : Nat) : Prop := y = k.bm ∨ ∃ r ∈ ss, y = r.g
theorem Chk.fp {w : World} {B gc : Nat} {k : Ck} {ss : List SR} (h : Chk w B gc k ss) {y : Nat} (hy : fpC k ss y) : B ≤ y ∧ y < w.heap.size ∧ y ≠ gc := by
  rcases hy with rfl | ⟨r, hr, rfl⟩
  · exact ⟨h.bB, h.m.lt, fun e => h.gb e.symm⟩
  · exact ⟨(h.gs r hr).2.2, (h.s r hr).1.lt, (h.gs r hr).1⟩
/-- what of leaves -/
def OfEnd (w : World) (B gc : Nat) (k : Ck) (ss : List SR) (n : Int) (x : Ending) (w' : World) : Prop :=
  ∃ ss' r, x = .returned (.pointer (some ⟨r.g, 0, none⟩)) ∧ Chk w' B gc k ss' ∧ findS ss' n = some r ∧ (∀ m, sOf ss' m = sOf ss m) ∧ Mem.Keeps (fun y => y = k.bm) w w' ∧ (∀ y, fpC k ss' y → fpC k ss y ∨ w.heap.size ≤ y)
end Au
open Au in
set_option maxHeartbeats 4000000 in
theorem of_any {w : World} {B gc : Nat} {k : Au.Ck} {ss : List Au.SR} (h : Au.Chk w B gc k ss) {n : Int} (hn : Au.okI n) :
    Calls Try.prog 33 #[.pointer (some ⟨gc, 0, none⟩), .int .i64 n] w (Au.OfEnd w B gc k ss n) := by
  have hlk := look_at h hn
  have x0 : w.cell? ⟨gc, 3, none⟩ = some (.map (some k.bm)) := h.c.cell (j := 3) rfl
  have HD := Lib.hid h
  have HN := Lib.hid hn
  clear h hn
  obtain ⟨fr, hfr⟩ : ∃ z, findS ss n = z := ⟨_, rfl⟩
  rw [hfr] at hlk
  have HFR := Lib.hid hfr
  clear hfr
  go_enter Try.func33, Try.ntmps33
  cases fr with
  | some r =>
    simp only [Option.elim_some] at hlk
    go_wp2
    go_ret
    exact ⟨ss, r, rfl, HD.out, HFR.out, fun _ => rfl, Mem.Keeps.refl _ _, fun y h => .inl h⟩
  | none =>
    simp only [Option.elim_none] at hlk
    obtain ⟨w1, hw1⟩ : ∃ z, w.alloc (.cells (ssCells ss0).toArray 81) = z := ⟨_, rfl⟩
    obtain ⟨gr, hgr⟩ : ∃ z, w.heap.size = z := ⟨_, rfl⟩
    have HB1 : Hid (Below w.heap.size w w1) := by rw [← hw1]; exact Reg.below_new _ _
    have HBF : Hid (SBx w1 gr ss0) := by rw [← hw1, ← hgr]; exact Mem.Bx.new w 81 (ssCells ss0).toArray rfl rfl
    have HGR := Lib.hid hgr
    have HC1 := Lib.hid (HD.out.below HB1.out)
    have x1 : w1.cell? ⟨gc, 3, none⟩ = some (.map (some k.bm)) := HC1.out.c.cell (j := 3) rfl
    have HPUT : Hid (Mem.putL (ss.map sent) n (.pointer (some ⟨gr, 0, none⟩)) = (ss ++ [(⟨n, gr, ss0⟩ : SR)]).map sent) := by
      show _ = _
      unfold Mem.putL
      rw [look_s, HFR.out, if_neg (by simp), List.map_append]; rfl
    unfold ssCells ss0 evCells ev0 Vec.vcCells Vec.vc0 Vec.col0 at hw1
    simp only [List.cons_append, List.nil_append, List.length_nil, show ByteArray.empty = ⟨#[]⟩ from rfl] at hw1
    go_upto_region 4 with fail
    try rw [hw1]
    try rw [hgr]
    clear hw1 hgr
    go_upto_region 5 with (refine Mem.wpList_mapPut intKey Try.underlying64 k.bm (ss.map sent) n (.pointer (some ⟨gr, 0, none⟩)) rfl rfl rfl HC1.out.m HN.out ?_; intro w2 hM2 hk2 hs2; rw [HPUT.out] at hM2; have HM2 := Lib.hid hM2; have HK2 := Lib.hid hk2; have HS2 := Lib.hid hs2; clear hM2 hk2 hs2)
    go_wp2
    go_ret
    have h1 := HC1.out
    have hgn : ∀ r ∈ ss, r.g < gr := fun r hr => by rw [← HGR.out]; exact (HD.out.s r hr).1.lt
    have hgc : gc < gr := by rw [← HGR.out]; exact HD.out.c.lt
    have hbm : k.bm < gr := by rw [← HGR.out]; exact HD.out.m.lt
    have hBg : B ≤ gr := by rw [← HGR.out]; exact HD.out.le
    have hbw : Below B w1 w2 := HK2.out.below (fun y h => by subst h; exact h1.bB) h1.le
    have hC : Chk w2 B gc k (ss ++ [⟨n, gr, ss0⟩]) := by
      refine ⟨h1.c.keeps HK2.out h1.gb, HM2.out, ?_, ?_, h1.gb, ?_, h1.gB, h1.bB, h1.H.below hbw, h1.W.below hbw, fun e he => (h1.E e he).below hbw (Nat.le_refl _), Nat.le_trans h1.le hbw.size, h1.hl, h1.wl, h1.hn, h1.wn, h1.a⟩
      · intro r hr
        rcases List.mem_append.1 hr with hr | hr
        · exact ⟨(h1.s r hr).1.keeps HK2.out (h1.gs r hr).2.1, (h1.s r hr).2.below hbw (Nat.le_refl _)⟩
        · rw [List.mem_singleton] at hr; subst hr
          exact ⟨HBF.out.keeps HK2.out (by show ¬ gr = k.bm; omega), ev0_ok _ _⟩
      · rw [List.map_append, List.nodup_append]
        refine ⟨h1.ne, by simp, ?_⟩
        intro a ha b hb hab
        simp at hb
        subst hb
        obtain ⟨r, hr, rfl⟩ := List.mem_map.1 ha
        have := hgn r hr
        omega
      · intro r hr
        rcases List.mem_append.1 hr with hr | hr
        · exact h1.gs r hr
        · rw [List.mem_singleton] at hr; subst hr
          exact ⟨by show gr ≠ gc; omega, by show gr ≠ k.bm; omega, hBg⟩
    exact ⟨_, _, rfl, hC, find_add HFR.out gr, sOf_add HFR.out gr, ((Mem.Keeps.of_below HB1.out).mono (fun _ h _ => h.elim)).trans HK2.out (fun y h _ => h), fun y hy => hy.elim (fun h => .inl (.inl h)) (fun ⟨r, hr, hy⟩ => (List.mem_append.1 hr).elim (fun h => .inl (.inr ⟨r, h, hy⟩)) (fun h => .inr (by rw [List.mem_singleton] at h; subst h; rw [hy, HGR.out]; exact Nat.le_refl _)))⟩
end Go.Proofs.Ytelephoalpphkaa
