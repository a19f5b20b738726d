/- Several texts of this proof in one file, in the order in which they build: Aud24, Aud25, Aud26, Aud27, Aud28, Aud29, Aud34. No conditions but those that each theorem names. -/
import Derived.Test.YtelephoalpphkaaAud23
import Derived.Test.YtelephoalpphkaaTyOpen
section
/- What came in: histories, opened. No conditions. -/
namespace Go.Proofs.Ytelephoalpphkaa
open Go.ChangeShapes Go.WideShapes Go.ChangeAt Go.RowKit
set_option linter.unusedVariables false
set_option linter.unusedSimpArgs false
namespace Au
/-- an event that came in -/
structure EvIn (W : World) (e : Ev) : Prop where
  ok : EvOk W W.heap.size e
  cl : okI e.cl
  rn : e.res.length ≤ 703687441776
  kn : e.keys.length ≤ 8796093022208
  vs : e.val.size ≤ 140737488351232
  ks : ∀ s ∈ e.keys, s.size ≤ 140737488351232
end Au
section
variable {H : Type} {enc : TypeId × Value → H} {W : World}
open Au
set_option maxRecDepth 20000 in
theorem dec_ask {n : Nat} {cs : List Value} {x : DataW H × List MemPlace} (h : DataW.trod enc Try.prog W 0 (fun _ => true) true n 42 cs = some x) (hl : cs.length = 4) (hz : Mem.Sz Try.prog 42 x.1) :
    ∃ (k : Int) (A : Option Addr) (c : Nat) (keys : List ByteArray) (s : ByteArray) (d : Int), cs = [.int .i64 k, .slice A keys.length c, .string s, .int .i64 d] ∧ Mem.Rd W W.heap.size A (keys.map sv) ∧ keys.length ≤ c ∧ c ≤ 8796093022208 ∧ s.size ≤ 140737488351232 ∧ (∀ y ∈ keys, y.size ≤ 140737488351232) := by
  obtain ⟨m0, y0, e0, _⟩ := Mem.field1_sz Try.underlying42 h hz 0 _ rfl
  obtain ⟨m1, y1, e1, z1⟩ := Mem.field1_sz Try.underlying42 h hz 1 _ rfl
  obtain ⟨m2, y2, e2, z2⟩ := Mem.field1_sz Try.underlying42 h hz 2 _ rfl
  obtain ⟨m3, y3, e3, _⟩ := Mem.field1_sz Try.underlying42 h hz 3 _ rfl
  have k1 : Try.prog.cellsOf 3 = 1 := by kernel_rfl
  have k2 : Try.prog.cellsOf 40 = 1 := by kernel_rfl
  have k3 : Try.prog.cellsOf 9 = 1 := by kernel_rfl
  have kb : Try.prog.bytesOf 9 = 16 := by kernel_rfl
  change DataW.trod enc Try.prog W 0 (fun _ => true) true m0 3 ((cs.drop 0).take (Try.prog.cellsOf 3)) = some y0 at e0
  change DataW.trod enc Try.prog W 0 (fun _ => true) true m1 40 ((cs.drop 1).take (Try.prog.cellsOf 40)) = some y1 at e1
  change DataW.trod enc Try.prog W 0 (fun _ => true) true m2 9 ((cs.drop 2).take (Try.prog.cellsOf 9)) = some y2 at e2
  change DataW.trod enc Try.prog W 0 (fun _ => true) true m3 3 ((cs.drop 3).take (Try.prog.cellsOf 3)) = some y3 at e3
  rw [k1] at e0 e3
  rw [k2] at e1
  rw [k3] at e2
  obtain ⟨a0, q0, _⟩ := DataW.trod_int Try.underlying3 e0
  obtain ⟨A, c, l, q1, d1, d2, d3, d4, _⟩ := Mem.trod_strings_sz Try.underlying40 Try.underlying9 k3 e1 z1
  obtain ⟨a2, q2, r2, _⟩ := DataW.trod_string Try.underlying9 e2
  obtain ⟨a3, q3, _⟩ := DataW.trod_int Try.underlying3 e3
  rw [kb] at d2
  unfold reachBytes at d2 d4
  unfold Mem.Sz at z2
  rw [r2] at z2
  have z2 : a2.size ≤ reachBytes := by simpa [DataW.weights] using z2
  unfold reachBytes at z2
  refine ⟨a0, A, c, l, a2, a3, ?_, d3, d1, by omega, z2, d4⟩
  have hd : cs = (cs.drop 0).take 1 ++ ((cs.drop 1).take 1 ++ ((cs.drop 2).take 1 ++ (cs.drop 3).take 1)) := by
    have h1 : ∀ a b : Nat, cs.drop a = (cs.drop a).take b ++ cs.drop (a + b) := fun a b => by rw [← List.drop_drop, List.take_append_drop]
    conv => lhs; rw [← List.drop_zero (l := cs), h1 0 1, h1 1 1, h1 2 1, h1 3 1, List.drop_eq_nil_of_le (show cs.length ≤ 3 + 1 by omega), List.append_nil]
  rw [hd, q0, q1, q2, q3]
  rfl
set_option maxRecDepth 20000 in
theorem dec_res {n : Nat} {cs : List Value} {x : DataW H × List MemPlace} (h : DataW.trod enc Try.prog W 0 (fun _ => true) true n 48 cs = some x) (hl : cs.length = 22) (hz : Mem.Sz Try.prog 48 x.1) : ∃ r : Rs, cs = rsCells r := by
  obtain ⟨m0, y0, e0, z0⟩ := Mem.field1_sz Try.underlying48 h hz 0 _ rfl
  obtain ⟨m1, y1, e1, _⟩ := Mem.field1_sz Try.underlying48 h hz 1 _ rfl
  obtain ⟨m2, y2, e2, z2⟩ := Mem.field1_sz Try.underlying48 h hz 2 _ rfl
  have k0 : Try.prog.cellsOf 9 = 1 := by kernel_rfl
  have k1 : Try.prog.cellsOf 4 = 1 := by kernel_rfl
  have k2 : Try.prog.cellsOf 35 = 20 := by kernel_rfl
  change DataW.trod enc Try.prog W 0 (fun _ => true) true m0 9 ((cs.drop 0).take (Try.prog.cellsOf 9)) = some y0 at e0
  change DataW.trod enc Try.prog W 0 (fun _ => true) true m1 4 ((cs.drop 1).take (Try.prog.cellsOf 4)) = some y1 at e1
  change DataW.trod enc Try.prog W 0 (fun _ => true) true m2 35 ((cs.drop 2).take (Try.prog.cellsOf 35)) = some y2 at e2
  rw [k0] at e0
  rw [k1] at e1
  rw [k2] at e2
  obtain ⟨a0, q0, _, _⟩ := DataW.trod_string Try.underlying9 e0
  obtain ⟨a1, q1, _⟩ := DataW.trod_bool Try.underlying4 e1
  obtain ⟨a2, q2, _⟩ := dec_ent e2 (cut3 _ _ _ (by omega)) z2
  refine ⟨⟨a0, a1, a2⟩, ?_⟩
  have hd : cs = (cs.drop 0).take 1 ++ ((cs.drop 1).take 1 ++ (cs.drop 2).take 20) := by
    have h1 : ∀ a b : Nat, cs.drop a = (cs.drop a).take b ++ cs.drop (a + b) := fun a b => by rw [← List.drop_drop, List.take_append_drop]
    conv => lhs; rw [← List.drop_zero (l := cs), h1 0 1, h1 1 1, h1 2 20, List.drop_eq_nil_of_le (show cs.length ≤ 2 + 20 by omega), List.append_nil]
  rw [hd, q0, q1, q2]
  rfl
set_option maxRecDepth 20000 in
theorem dec_event {n : Nat} {cs : List Value} {x : DataW H × List MemPlace} (h : DataW.trod enc Try.prog W 0 (fun _ => true) true n 46 cs = some x) (hl : cs.length = 20) (hz : Mem.Sz Try.prog 46 x.1) : ∃ e : Ev, cs = evCells e ∧ EvIn W e := by
  obtain ⟨m0, y0, e0, _⟩ := Mem.field1_sz Try.underlying46 h hz 0 _ rfl
  obtain ⟨m1, y1, e1, _⟩ := Mem.field1_sz Try.underlying46 h hz 1 _ rfl
  obtain ⟨m2, y2, e2, z2⟩ := Mem.field1_sz Try.underlying46 h hz 2 _ rfl
  obtain ⟨m3, y3, e3, _⟩ := Mem.field1_sz Try.underlying46 h hz 3 _ rfl
  obtain ⟨m4, y4, e4, _⟩ := Mem.field1_sz Try.underlying46 h hz 4 _ rfl
  obtain ⟨m5, y5, e5, _⟩ := Mem.field1_sz Try.underlying46 h hz 5 _ rfl
  obtain ⟨m6, y6, e6, _⟩ := Mem.field1_sz Try.underlying46 h hz 6 _ rfl
  obtain ⟨m7, y7, e7, z7⟩ := Mem.field1_sz Try.underlying46 h hz 7 _ rfl
  obtain ⟨m8, y8, e8, _⟩ := Mem.field1_sz Try.underlying46 h hz 8 _ rfl
  have ki : Try.prog.cellsOf 3 = 1 := by kernel_rfl
  have ka : Try.prog.cellsOf 42 = 4 := by kernel_rfl
  have kt : Try.prog.cellsOf 4 = 1 := by kernel_rfl
  have ke : Try.prog.cellsOf 43 = 1 := by kernel_rfl
  have kr : Try.prog.cellsOf 44 = 1 := by kernel_rfl
  have kv : Try.prog.cellsOf 33 = 9 := by kernel_rfl
  have kb : Try.prog.bytesOf 48 = 200 := by kernel_rfl
  change DataW.trod enc Try.prog W 0 (fun _ => true) true m0 3 ((cs.drop 0).take (Try.prog.cellsOf 3)) = some y0 at e0
  change DataW.trod enc Try.prog W 0 (fun _ => true) true m1 3 ((cs.drop 1).take (Try.prog.cellsOf 3)) = some y1 at e1
  change DataW.trod enc Try.prog W 0 (fun _ => true) true m2 42 ((cs.drop 2).take (Try.prog.cellsOf 42)) = some y2 at e2
  change DataW.trod enc Try.prog W 0 (fun _ => true) true m3 3 ((cs.drop 6).take (Try.prog.cellsOf 3)) = some y3 at e3
  change DataW.trod enc Try.prog W 0 (fun _ => true) true m4 4 ((cs.drop 7).take (Try.prog.cellsOf 4)) = some y4 at e4
  change DataW.trod enc Try.prog W 0 (fun _ => true) true m5 4 ((cs.drop 8).take (Try.prog.cellsOf 4)) = some y5 at e5
  change DataW.trod enc Try.prog W 0 (fun _ => true) true m6 43 ((cs.drop 9).take (Try.prog.cellsOf 43)) = some y6 at e6
  change DataW.trod enc Try.prog W 0 (fun _ => true) true m7 44 ((cs.drop 10).take (Try.prog.cellsOf 44)) = some y7 at e7
  change DataW.trod enc Try.prog W 0 (fun _ => true) true m8 33 ((cs.drop 11).take (Try.prog.cellsOf 33)) = some y8 at e8
  rw [ki] at e0 e1 e3
  rw [ka] at e2
  rw [kt] at e4 e5
  rw [ke] at e6
  rw [kr] at e7
  rw [kv] at e8
  obtain ⟨a0, q0, _, w0⟩ := DataW.trod_int Try.underlying3 e0
  obtain ⟨a1, q1, _⟩ := DataW.trod_int Try.underlying3 e1
  obtain ⟨ak, aA, ac, akeys, atx, ad, q2, b1, b2, b3, b4, b5⟩ := dec_ask e2 (cut3 _ _ _ (by omega)) z2
  obtain ⟨a3, q3, _⟩ := DataW.trod_int Try.underlying3 e3
  obtain ⟨a4, q4, _⟩ := DataW.trod_bool Try.underlying4 e4
  obtain ⟨a5, q5, _⟩ := DataW.trod_bool Try.underlying4 e5
  obtain ⟨a6, q6, _⟩ := DataW.trod_int Try.underlying43 e6
  obtain ⟨rA, rc, rl, q7, d1, d2, d3, d4, _⟩ := Mem.trod_slice_sz (α := Rs) (sz := 22) Try.underlying44 (by kernel_rfl) (by omega) rsCells rsCells_length (fun _ => True) (fun n cs x h hl hz => by obtain ⟨r, hr⟩ := dec_res h hl hz; exact ⟨r, hr, trivial⟩) e7 z7
  obtain ⟨v, q8⟩ := dec_vec e8 (cut3 _ _ _ (by omega))
  rw [kb] at d2
  unfold reachBytes at d2
  have hb := bounds_i64 w0
  refine ⟨⟨a0, a1, ak, aA, ac, akeys, atx, ad, a3, a4, a5, a6, rA, rc, rl, v⟩, ?_, ⟨⟨b1, d3, b2, d1, by show ac ≤ _; omega, by show rc ≤ _; omega⟩, hb, by show rl.length ≤ _; omega, by show akeys.length ≤ _; omega, b4, b5⟩⟩
  have hd : cs = (cs.drop 0).take 1 ++ ((cs.drop 1).take 1 ++ ((cs.drop 2).take 4 ++ ((cs.drop 6).take 1 ++ ((cs.drop 7).take 1 ++ ((cs.drop 8).take 1 ++ ((cs.drop 9).take 1 ++ ((cs.drop 10).take 1 ++ (cs.drop 11).take 9))))))) := by
    have h1 : ∀ a b : Nat, cs.drop a = (cs.drop a).take b ++ cs.drop (a + b) := fun a b => by rw [← List.drop_drop, List.take_append_drop]
    conv => lhs; rw [← List.drop_zero (l := cs), h1 0 1, h1 1 1, h1 2 4, h1 6 1, h1 7 1, h1 8 1, h1 9 1, h1 10 1, h1 11 9, List.drop_eq_nil_of_le (show cs.length ≤ 11 + 9 by omega), List.append_nil]
  rw [hd, q0, q1, q2, q3, q4, q5, q6, q7, q8]
  rfl
set_option maxRecDepth 20000 in
theorem open_events {base : Nat} {v : Value} {d : DataW H} {p : List MemPlace} (o : Value.okWide Try.prog W .any base 22 v) (k : DataW.Trod enc Try.prog W 0 (fun _ => true) true 22 v d p) (hz : (d.weights Try.prog 22).all (· ≤ reachBytes) = true) :
    ∃ A c, ∃ es : List Ev, v = .slice A es.length c ∧ es.length ≤ c ∧ c ≤ 8796093022208 ∧ Mem.Rd W W.heap.size A (es.flatMap evCells) ∧ ∀ e ∈ es, EvIn W e := by
  obtain ⟨A, c, l, h1, h2, h3, h4, h5, _⟩ := Mem.open_slice_sz (α := Ev) (sz := 20) Try.underlying22 (by kernel_rfl) (by omega) evCells evCells_length (EvIn W) (fun n cs x h hl hz => dec_event h hl hz) o k hz
  have kb : Try.prog.bytesOf 46 = 192 := by kernel_rfl
  rw [kb] at h3
  unfold reachBytes at h3
  exact ⟨A, c, l, h1, h2, by omega, h4, h5⟩
end
end Go.Proofs.Ytelephoalpphkaa
end
section
/- What Check tells, plainly: it does not hang on where the lists lie; its order; a history's beginning. No conditions. -/
set_option maxRecDepth 8000
namespace Go.Proofs.Ytelephoalpphkaa
set_option linter.unusedVariables false
set_option linter.unusedSimpArgs false
namespace Au
def bare (e : Ev) : Ev := ⟨e.cl, e.op, e.kind, none, 0, e.keys, e.val, e.adc, e.dc, e.fresh, e.fin, e.code, none, 0, e.res, e.cut⟩
def bareS (s : Ss) : Ss := ⟨s.under, bare s.begun, s.op, s.some, s.cut⟩
def bareK (k : Ck) : Ck := ⟨none, 0, k.h.map bare, none, 0, k.ws, k.at', 0⟩
theorem r4_bare (k : Ck) (e : Ev) : r4 (bareK k) (bare e) = r4 k e := by
  have h : ∀ r, askedP (bareK k) r = askedP k r := fun r => by
    unfold askedP bareK
    dsimp only
    rw [← List.map_take, List.any_map]
    rfl
  show (!(hasL e.res).any fun r => !askedP (bareK k) r) = _
  simp only [h]
  rfl
theorem rulesF_bare (k : Ck) (s : Ss) (e : Ev) : rulesF (bareK k) (bareS s) (bare e) = rulesF k s e := by
  unfold rulesF
  rw [r4_bare]
  rfl
theorem evF_bare (k : Ck) (s : Ss) (e : Ev) : evF (bareK k) (bareS s) (bare e) = ((evF k s e).1, bareS (evF k s e).2) := by
  have h1 : endF (bareK k) (bareS s) (bare e) = endF k s e := by unfold endF; rw [rulesF_bare]
  unfold evF
  rw [h1]
  show (if (!e.fresh && !e.fin) = true then begF (bareS s) (bare e) else if e.fresh = true then _ else _) = _
  by_cases h2 : (!e.fresh && !e.fin) = true
  · rw [if_pos h2, if_pos h2]; rfl
  · rw [if_neg h2, if_neg h2]
    by_cases h3 : e.fresh = true
    · rw [if_pos h3, if_pos h3]; rfl
    · rw [if_neg h3, if_neg h3]; rfl
theorem stC_none {k : Ck} {j : Nat} (he : k.h[j]? = none) : stC k (j + 1) = stC k j := by rw [stC, he]
theorem stC_bare (k : Ck) : ∀ j, stC (bareK k) j = (fun m => bareS ((stC k j).1 m), (stC k j).2)
  | 0 => rfl
  | j + 1 => by
    have ih := stC_bare k j
    have hh : (bareK k).h[j]? = (k.h[j]?).map bare := by unfold bareK; exact List.getElem?_map
    cases he : k.h[j]? with
    | none =>
      rw [he] at hh
      rw [stC_none he, stC_none hh]
      exact ih
    | some e =>
      rw [he] at hh
      rw [stC_succ he, stC_succ hh, ih]
      have h3 : evF (atK (bareK k) j) (bareS ((stC k j).1 e.cl)) (bare e) = _ := evF_bare (atK k j) ((stC k j).1 e.cl) e
      show ((fun m => if m = e.cl then (evF (atK (bareK k) j) (bareS ((stC k j).1 e.cl)) (bare e)).2 else bareS ((stC k j).1 m)), (stC k j).2 ++ (evF (atK (bareK k) j) (bareS ((stC k j).1 e.cl)) (bare e)).1.map fun r => (⟨j, r⟩ : Fi)) = _
      rw [h3]
      refine Prod.ext (funext fun m => ?_) rfl
      show (if m = e.cl then _ else _) = bareS (if m = e.cl then _ else _)
      by_cases hm : m = e.cl
      · rw [if_pos hm, if_pos hm]
      · rw [if_neg hm, if_neg hm]
def kOf (h : List Ev) (ws : List Vec.Ent) : Ck := ⟨none, 0, h, none, 0, ws, 0, 0⟩
/-- all that is wrong with a history -/
def findL (h : List Ev) (ws : List Vec.Ent) : List Fi := findsC (kOf (h.map bare) ws)
theorem finds_of (k : Ck) (ha : k.at' = 0) : findsC k = findL k.h k.ws := by
  have h1 := stC_bare k k.h.length
  have h2 : bareK k = kOf (k.h.map bare) k.ws := by unfold bareK kOf; rw [ha]
  unfold findL findsC
  rw [← h2, show (bareK k).h.length = k.h.length from List.length_map _, h1]
theorem findL_congr {h h' : List Ev} (e : h.map bare = h'.map bare) (ws : List Vec.Ent) : findL h ws = findL h' ws := by unfold findL; rw [e]
theorem findL_eq (h : List Ev) (ws : List Vec.Ent) : findL h ws = (stC (kOf h ws) h.length).2 := (finds_of (kOf h ws) rfl).symm
theorem evF_congr {k k' : Ck} (hh : k.h.take k.at' = k'.h.take k'.at') (hw : k.ws = k'.ws) (s : Ss) (e : Ev) : evF k s e = evF k' s e := by
  have h4 : r4 k e = r4 k' e := by
    unfold r4
    have : ∀ r, askedP k r = askedP k' r := fun r => by unfold askedP; rw [hh]
    simp only [this]
  have h : rulesF k s e = rulesF k' s e := by
    unfold rulesF r8 seesF r9
    rw [h4, hw]
  unfold evF endF
  rw [h]
theorem st_take (h : List Ev) (ws : List Vec.Ent) (n : Nat) : ∀ j, j ≤ n → stC (kOf (h.take n) ws) j = stC (kOf h ws) j
  | 0, _ => rfl
  | j + 1, hj => by
    have ih := st_take h ws n j (by omega)
    have hh : (kOf (h.take n) ws).h[j]? = (kOf h ws).h[j]? := by show (h.take n)[j]? = h[j]?; rw [List.getElem?_take, if_pos (by omega)]
    cases he : (kOf h ws).h[j]? with
    | none => rw [stC_none he, stC_none (hh.trans he), ih]
    | some e =>
      rw [stC_succ he, stC_succ (hh.trans he), ih]
      have h3 : ∀ s, evF (atK (kOf (h.take n) ws) j) s e = evF (atK (kOf h ws) j) s e := fun s => evF_congr (k := atK (kOf (h.take n) ws) j) (k' := atK (kOf h ws) j) (by show (h.take n).take j = h.take j; rw [List.take_take, Nat.min_eq_left (by omega)]) rfl s e
      simp only [h3]
theorem evF_in (k : Ck) (s : Ss) (e : Ev) : ∀ r ∈ (evF k s e).1, 1 ≤ r ∧ r ≤ 9 := by
  intro r hr
  unfold evF at hr
  split at hr
  · unfold begF at hr
    dsimp only at hr
    split at hr
    · rw [List.mem_singleton] at hr; omega
    · cases hr
  · split at hr
    · cases hr
    · unfold endF at hr
      dsimp only at hr
      obtain ⟨i, hi, rfl⟩ := List.mem_map.1 hr
      have := List.mem_range.1 (List.mem_filter.1 hi).1
      omega
theorem evF_up (k : Ck) (s : Ss) (e : Ev) : (evF k s e).1.Pairwise (· < ·) := by
  unfold evF
  split
  · unfold begF
    dsimp only
    split <;> simp
  · split
    · exact List.Pairwise.nil
    · unfold endF
      dsimp only
      rw [List.pairwise_map]
      refine List.Pairwise.imp ?_ (List.Pairwise.filter _ List.pairwise_lt_range)
      intro a b hab
      omega
theorem fi_in (k : Ck) : ∀ j, ∀ f ∈ (stC k j).2, 0 ≤ f.ev ∧ f.ev < (j : Int) ∧ 1 ≤ f.rule ∧ f.rule ≤ 9
  | 0, f, hf => by cases hf
  | j + 1, f, hf => by
    have ih := fi_in k j
    cases he : k.h[j]? with
    | none =>
      rw [stC_none he] at hf
      have := ih f hf
      omega
    | some e =>
      rw [stC_succ he] at hf
      rcases List.mem_append.1 hf with hf | hf
      · have := ih f hf
        omega
      · obtain ⟨r, hr, rfl⟩ := List.mem_map.1 hf
        have := evF_in _ _ _ r hr
        dsimp only
        omega
def fiLt (a b : Fi) : Prop := a.ev < b.ev ∨ a.ev = b.ev ∧ a.rule < b.rule
theorem fi_up (k : Ck) : ∀ j, (stC k j).2.Pairwise fiLt
  | 0 => List.Pairwise.nil
  | j + 1 => by
    have ih := fi_up k j
    cases he : k.h[j]? with
    | none => rw [stC_none he]; exact ih
    | some e =>
      rw [stC_succ he]
      show ((stC k j).2 ++ _).Pairwise fiLt
      rw [List.pairwise_append]
      refine ⟨ih, ?_, ?_⟩
      · rw [List.pairwise_map]
        exact List.Pairwise.imp (fun h => .inr ⟨rfl, h⟩) (evF_up _ _ _)
      · intro a ha b hb
        obtain ⟨r, hr, rfl⟩ := List.mem_map.1 hb
        exact .inl (fi_in k j a ha).2.1
theorem fi_front (k : Ck) (n : Nat) : ∀ j, n ≤ j → (stC k j).2.filter (fun f => decide (f.ev < (n : Int))) = (stC k n).2 := by
  intro j
  induction j with
  | zero =>
    intro h
    obtain rfl : n = 0 := by omega
    rfl
  | succ j ih =>
    intro h
    by_cases hn : n = j + 1
    · subst hn
      refine List.filter_eq_self.2 fun f hf => ?_
      have := (fi_in k _ f hf).2.1
      simpa using this
    · have ih := ih (by omega)
      cases he : k.h[j]? with
      | none => rw [stC_none he]; exact ih
      | some e =>
        rw [stC_succ he]
        show ((stC k j).2 ++ _).filter _ = _
        rw [List.filter_append, ih, List.filter_eq_nil_iff.2, List.append_nil]
        intro f hf
        obtain ⟨r, hr, rfl⟩ := List.mem_map.1 hf
        have : ¬ ((j : Int) < (n : Int)) := by omega
        simpa using this
/-- of a history's beginning the same is found as within the whole -/
theorem findL_take (h : List Ev) (ws : List Vec.Ent) (n : Nat) (hn : n ≤ h.length) : (findL h ws).filter (fun f => decide (f.ev < (n : Int))) = findL (h.take n) ws := by
  rw [findL_eq, findL_eq, fi_front _ _ _ hn, List.length_take, Nat.min_eq_left hn, st_take h ws n n (Nat.le_refl _)]
end Au
end Go.Proofs.Ytelephoalpphkaa
end
section
/- Findings compared; is it much; are findings alike. No conditions but that lengths are numbers. -/
set_option maxRecDepth 8000
namespace Go.Proofs.Ytelephoalpphkaa
open Go.ChangeShapes Go.WideShapes Go.ChangeAt Go.RowKit
set_option linter.unusedVariables false
set_option linter.unusedSimpArgs false
namespace Au
def eqFi (a b : Fi) : Bool := a.ev == b.ev && a.rule == b.rule
theorem eqFi_iff {a b : Fi} : eqFi a b = true ↔ a = b := by
  cases a; cases b; unfold eqFi; simp
theorem fis_len (l : List Fi) : (l.flatMap fiCells).length = l.length * 2 := Mem.flat_length fiCells_length l
theorem fis_one (l : List Fi) : ∀ u ∈ l.flatMap fiCells, u.oneCell' = true := fun u hu => by
  obtain ⟨e, _, he⟩ := List.mem_flatMap.1 hu
  exact fi_one e u he
theorem fi_elem {w : World} {B : Nat} {A : Option Addr} {l : List Fi} (h : Mem.Rd w B A (l.flatMap fiCells)) {k : Nat} (hk : k < l.length) :
    ∃ b o f, A = some ⟨b, o, none⟩ ∧ b < B ∧ l[k]? = some f ∧ ∀ j u, (fiCells f)[j]? = some u → w.cell? ⟨b, o + k * 2 + j, none⟩ = some u := by
  obtain ⟨b, o, e, hb, hc⟩ := Mem.Rd.elem fiCells_length h hk (by omega)
  exact ⟨b, o, l[k], e, hb, List.getElem?_eq_getElem hk, fun j u hu => by rw [Nat.add_assoc]; exact hc j u hu⟩
end Au
theorem eqIn_fi (d : Nat) (a b : Au.Fi) (w : World) : (Op.equalIn (d + 2) 50 (.agg (Au.fiCells a).toArray) (.agg (Au.fiCells b).toArray)).run Try.prog w = .ok (Au.eqFi a b) w := by
  unfold Au.fiCells Au.eqFi
  simp [go_sem]
  by_cases h0 : a.ev = b.ev <;> by_cases h1 : a.rule = b.rule <;> simp [h0, h1]
theorem eql_fi (a b : Au.Fi) (w : World) : (binOp .eql 50 (.agg (Au.fiCells a).toArray) (.agg (Au.fiCells b).toArray)).run Try.prog w = .ok (.bool (Au.eqFi a b)) w := by
  rw [run_eql_struct, eqIn_fi 9998]
  rfl
theorem neq_fi (a b : Au.Fi) (w : World) : (binOp .neq 50 (.agg (Au.fiCells a).toArray) (.agg (Au.fiCells b).toArray)).run Try.prog w = .ok (.bool (!Au.eqFi a b)) w := by
  rw [run_neq_struct, eqIn_fi 9998]
  rfl
namespace Au
structure FsRel (w : World) (l m : List Fi) (vi : Value) (wr : World) : Prop where
  out : ∃ k : Nat, k ≤ l.length ∧ vi = .int .i64 k ∧ Hid (l.take k = m.take k) ∧ Hid (Below w.heap.size w wr)
def FsEnd (w : World) (l m : List Fi) (x : Ending) (w' : World) : Prop := ∃ b, x = .returned (.bool b) ∧ (b = true ↔ l = m) ∧ Below w.heap.size w w'
end Au
open Au in
set_option maxHeartbeats 4000000 in
theorem findings_any (A : Option Addr) (c : Nat) (l : List Au.Fi) (A2 : Option Addr) (c2 : Nat) (m : List Au.Fi) (B : Nat) (w : World) (hl : Mem.Rd w B A (l.flatMap Au.fiCells)) (hm : Mem.Rd w B A2 (m.flatMap Au.fiCells)) (hB : B ≤ w.heap.size) (hn : l.length ≤ 1000000000) (hn2 : m.length ≤ 1000000000) :
    Calls Try.prog 13 #[.slice A l.length c, .slice A2 m.length c2] w (Au.FsEnd w l m) := by
  have HL := Lib.hid (hl.more hB)
  have HM := Lib.hid (hm.more hB)
  clear hl hm hB
  go_enter Try.func13, Try.ntmps13
  by_cases hlen : l.length = m.length
  case neg =>
    have d0 : ((l.length : Int) != (m.length : Int)) = true := by simp; omega
    have d1 : ((l.length : Int) == (m.length : Int)) = false := by simp; omega
    have HN : Hid (l ≠ m) := fun h => hlen (by rw [h])
    clear hlen
    go_wp2
    go_ret
    exact ⟨false, rfl, ⟨fun h => (by cases h), fun h => absurd h HN.out⟩, Below.refl _ _⟩
  case pos =>
    have d0 : ((l.length : Int) != (m.length : Int)) = false := by simp; omega
    have d1 : ((l.length : Int) == (m.length : Int)) = true := by simp; omega
    have HLN := Lib.hid hlen
    clear hlen
    go_wp2
    go_loopw [5] (FsRel w l m) (fun t _ => l.length - (intOf t).toNat)
    case atStart => exact ⟨⟨0, by omega, rfl, rfl, Below.refl _ _⟩⟩
    case round =>
      obtain ⟨k, hk, rfl, HT, HB⟩ := hrel.out
      clear hrel d0 d1
      by_cases hlt : k < l.length
      · obtain ⟨b, o, f, rfl, hb, hf, hat⟩ := fi_elem HL.out hlt
        obtain ⟨b2, o2, g, rfl, hb2, hg, hat2⟩ := fi_elem HM.out (show k < m.length by have := HLN.out; omega)
        have d2 : decide ((k : Int) < (l.length : Int)) = true := by simp; omega
        obtain ⟨q, hq⟩ : ∃ q, eqFi f g = q := ⟨_, rfl⟩
        have HQ : Hid (∀ W, (binOp .neq 50 (.agg (fiCells f).toArray) (.agg (fiCells g).toArray)).run Try.prog W = .ok (.bool (!q)) W) := fun W => by rw [neq_fi, hq]
        have HQQ := Lib.hid hq
        have HF := Lib.hid hf
        have HG := Lib.hid hg
        have HLT := Lib.hid hlt
        have HML : Hid (k < m.length) := by show _ < _; have := HLN.out; omega
        have HAT : Hid (∀ j u, (fiCells f)[j]? = some u → wr.cell? ⟨b, o + k * 2 + j, none⟩ = some u) := fun j u hu => (HB.out.cell (p := ⟨b, o + k * 2 + j, none⟩) hb).trans (hat j u hu)
        have HAT2 : Hid (∀ j u, (fiCells g)[j]? = some u → wr.cell? ⟨b2, o2 + k * 2 + j, none⟩ = some u) := fun j u hu => (HB.out.cell (p := ⟨b2, o2 + k * 2 + j, none⟩) hb2).trans (hat2 j u hu)
        have hbw := Nat.lt_of_lt_of_le hb HB.out.size
        have hbw2 := Nat.lt_of_lt_of_le hb2 HB.out.size
        clear hq hat hat2 hf hg
        go_upto_region 6 with fail
        refine Reg.wp_region_rel (by kernel_rfl) 26 9 rfl rfl (by kernel_rfl) (Reg.Adds) (Reg.Adds.refl) (Reg.Adds.trans)
          (fun i v u => match i with
            | 0 => v = .slice (some ⟨b, o, none⟩) l.length c
            | 1 => v = .int .i64 k
            | 2 => v = .pointer (some ⟨b, o + k * 2, none⟩)
            | 3 => v = .agg (fiCells f).toArray
            | 4 => v = .slice (some ⟨b2, o2, none⟩) m.length c2
            | 5 => v = .int .i64 k
            | 6 => v = .pointer (some ⟨b2, o2 + k * 2, none⟩)
            | 7 => v = .agg (fiCells g).toArray
            | 8 => v = .bool (!q)
            | _ => True) ?_ ?_
        · refine Reg.Steps.cons ?_ (Reg.Steps.cons ?_ (Reg.Steps.cons ?_ (Reg.Steps.cons ?_ (Reg.Steps.cons ?_ (Reg.Steps.cons ?_ (Reg.Steps.cons ?_ (Reg.Steps.cons ?_ (Reg.Steps.cons ?_ (Reg.Steps.nil _)))))))))
          · intro val ac u hR hp ha K hK      -- 0: t17 := Op.move t0
            have e0 : (ac.tmps[0]?).getD undef = .slice (some ⟨b, o, none⟩) l.length c := ha 0 (by decide)
            clear ha hp
            refine Reg.Op1.plain rfl ?_
            go_wp2
            exact ⟨rfl, hK _ _ rfl (fun j k _ _ => Reg.Adds.refl _ _ _)⟩
          · intro val ac u hR hp ha K hK      -- 1: t18 := Op.move t5
            have e5 : (ac.tmps[5]?).getD undef = .int .i64 k := ha 5 (by decide)
            clear ha hp
            refine Reg.Op1.plain rfl ?_
            go_wp2
            exact ⟨rfl, hK _ _ rfl (fun j k _ _ => Reg.Adds.refl _ _ _)⟩
          · intro val ac u hR hp ha K hK      -- 2: t19 := Op.indexAddr 36 t17 t18
            obtain ⟨w17, h17, r17⟩ := hp 0 (by decide)
            have e17 : (ac.tmps[17]?).getD undef = .slice (some ⟨b, o, none⟩) l.length c := (ha 17 (by decide)).trans h17
            clear h17
            obtain ⟨w18, h18, r18⟩ := hp 1 (by decide)
            have e18 : (ac.tmps[18]?).getD undef = .int .i64 k := (ha 18 (by decide)).trans h18
            clear h18
            clear ha hp
            refine Reg.Op1.plain rfl ?_
            go_wp2
            exact ⟨rfl, hK _ _ rfl (fun j k _ _ => Reg.Adds.refl _ _ _)⟩
          · intro val ac u hR hp ha K hK      -- 3: t20 := Op.load 50 t19
            obtain ⟨w19, h19, r19⟩ := hp 2 (by decide)
            have e19 : (ac.tmps[19]?).getD undef = .pointer (some ⟨b, o + k * 2, none⟩) := (ha 19 (by decide)).trans h19
            clear h19
            clear ha hp
            refine Reg.Op1.plain rfl ?_
            refine Mem.load_agg _ _ finding_agg b (o + k * 2) (fiCells f) (Reg.eval_of e19) (fiCells_length _) (fun j u' hu => (hR.cell (p := ⟨b, o + k * 2 + j, none⟩) hbw).trans (HAT.out j u' hu)) ?_
            exact ⟨rfl, hK _ _ rfl (fun j k _ _ => Reg.Adds.refl _ _ _)⟩
          · intro val ac u hR hp ha K hK      -- 4: t21 := Op.move t1
            have e1 : (ac.tmps[1]?).getD undef = .slice (some ⟨b2, o2, none⟩) m.length c2 := ha 1 (by decide)
            clear ha hp
            refine Reg.Op1.plain rfl ?_
            go_wp2
            exact ⟨rfl, hK _ _ rfl (fun j k _ _ => Reg.Adds.refl _ _ _)⟩
          · intro val ac u hR hp ha K hK      -- 5: t22 := Op.move t5
            have e5 : (ac.tmps[5]?).getD undef = .int .i64 k := ha 5 (by decide)
            clear ha hp
            refine Reg.Op1.plain rfl ?_
            go_wp2
            exact ⟨rfl, hK _ _ rfl (fun j k _ _ => Reg.Adds.refl _ _ _)⟩
          · intro val ac u hR hp ha K hK      -- 6: t23 := Op.indexAddr 36 t21 t22
            obtain ⟨w21, h21, r21⟩ := hp 4 (by decide)
            have e21 : (ac.tmps[21]?).getD undef = .slice (some ⟨b2, o2, none⟩) m.length c2 := (ha 21 (by decide)).trans h21
            clear h21
            obtain ⟨w22, h22, r22⟩ := hp 5 (by decide)
            have e22 : (ac.tmps[22]?).getD undef = .int .i64 k := (ha 22 (by decide)).trans h22
            clear h22
            clear ha hp
            have hml := HML.out
            refine Reg.Op1.plain rfl ?_
            go_wp2
            exact ⟨rfl, hK _ _ rfl (fun j k _ _ => Reg.Adds.refl _ _ _)⟩
          · intro val ac u hR hp ha K hK      -- 7: t24 := Op.load 50 t23
            obtain ⟨w23, h23, r23⟩ := hp 6 (by decide)
            have e23 : (ac.tmps[23]?).getD undef = .pointer (some ⟨b2, o2 + k * 2, none⟩) := (ha 23 (by decide)).trans h23
            clear h23
            clear ha hp
            refine Reg.Op1.plain rfl ?_
            refine Mem.load_agg _ _ finding_agg b2 (o2 + k * 2) (fiCells g) (Reg.eval_of e23) (fiCells_length _) (fun j u' hu => (hR.cell (p := ⟨b2, o2 + k * 2 + j, none⟩) hbw2).trans (HAT2.out j u' hu)) ?_
            exact ⟨rfl, hK _ _ rfl (fun j k _ _ => Reg.Adds.refl _ _ _)⟩
          · intro val ac u hR hp ha K hK      -- 8: t25 := Op.binOp BinOp.neq 50 t20 t24 50
            obtain ⟨w20, h20, r20⟩ := hp 3 (by decide)
            have e20 : (ac.tmps[20]?).getD undef = .agg (fiCells f).toArray := (ha 20 (by decide)).trans h20
            clear h20
            obtain ⟨w24, h24, r24⟩ := hp 7 (by decide)
            have e24 : (ac.tmps[24]?).getD undef = .agg (fiCells g).toArray := (ha 24 (by decide)).trans h24
            clear h24
            clear ha hp
            refine Reg.Op1.plain rfl ?_
            have hqq := HQ.out
            go_wp2
            exact ⟨rfl, hK _ _ rfl (fun j k _ _ => Reg.Adds.refl _ _ _)⟩
        · intro val u hR H
          obtain ⟨_, hv, _⟩ := H 8 (by decide)
          have hv : val 8 = .bool (!q) := hv
          have HR2 : Hid (Below wr.heap.size wr u) := (Below.refl _ wr).drew.trans hR
          simp only [List.map_cons, List.map_nil, Reg.lay, Act.put, List.setIfInBounds_toArray, List.set_cons_succ, List.set_cons_zero, Nat.reduceAdd, hv]
          clear hR H hv
          cases q with
          | false =>
            have HN : Hid (l ≠ m) := fun h => by
              have h1 := HF.out
              rw [h, HG.out] at h1
              rw [Option.some.inj h1, eqFi_iff.2 rfl] at HQQ
              cases HQQ.out
            go_wp2
            go_ret
            exact ⟨false, rfl, ⟨fun h => (by cases h), fun h => absurd h HN.out⟩, HB.out.trans (HR2.out.mono HB.out.size)⟩
          | true =>
            go_wp2
            go_roundw
            case rel => exact ⟨⟨k + 1, by have := HLT.out; omega, by go_num, by show _ = _; rw [Mem.take_snoc HF.out, Mem.take_snoc HG.out, HT.out, eqFi_iff.1 HQQ.out], HB.out.trans (HR2.out.mono HB.out.size)⟩⟩
            case measure => have := HLT.out; simp [intOf]; omega
      · obtain rfl : k = l.length := by omega
        have d2 : decide ((l.length : Int) < (l.length : Int)) = false := by simp
        have HE : Hid (l = m) := by
          have h1 := HT.out
          rw [List.take_length, HLN.out, List.take_length] at h1
          exact h1
        go_wp2
        go_ret
        exact ⟨true, rfl, ⟨fun _ => HE.out, fun _ => rfl⟩, HB.out⟩
namespace Au
def MuEnd (w : World) (h : List Ev) (ws : List Vec.Ent) (x : Ending) (w' : World) : Prop := ∃ b, x = .returned (.bool b) ∧ (b = false → h.length + ws.length ≤ 360) ∧ Below w.heap.size w w'
/-- at the heads of much's loops -/
structure MuRel (w : World) (n0 n : Nat) (vn vi : Value) (wr : World) : Prop where
  out : ∃ k N : Nat, k ≤ n ∧ n0 ≤ N ∧ N ≤ 30000000000000 ∧ vn = .int .i64 (N : Int) ∧ vi = .int .i64 k ∧ Hid (Below w.heap.size w wr)
end Au
open Au in
set_option maxHeartbeats 8000000 in
theorem muchA_any (A : Option Addr) (c : Nat) (h : List Au.Ev) (A2 : Option Addr) (c2 : Nat) (ws : List Vec.Ent) (w0 w : World) (hr : Mem.Rd w0 w0.heap.size A (h.flatMap Au.evCells)) (hr2 : Mem.Rd w0 w0.heap.size A2 (ws.flatMap Vec.entCells)) (hn : h.length ≤ 8796093022208) (hn2 : ws.length ≤ 8796093022208)
    (hd : ∀ e ∈ h, Au.EvIn w0 e) (hd2 : ∀ e ∈ ws, Vec.EntIn e) (hb : Below w0.heap.size w0 w) :
    Calls Try.prog 10 #[.slice A h.length c, .slice A2 ws.length c2] w (Au.MuEnd w h ws) := by
  have HR := Lib.hid hr
  have HR2 := Lib.hid hr2
  have HD := Lib.hid hd
  have HD2 := Lib.hid hd2
  have HB0 := Lib.hid hb
  clear hr hr2 hd hd2 hb
  go_enter Try.func10, Try.ntmps10
  go_wp2
  go_loopw [5, 6] (MuRel w (h.length + ws.length) h.length) (fun _ t _ => h.length - (intOf t).toNat)
  case atStart => exact ⟨⟨0, h.length + ws.length, by omega, by omega, by omega, by congr 1, rfl, Below.refl _ _⟩⟩
  case round =>
    obtain ⟨k, N, hk, hlN, hN, rfl, rfl, HB⟩ := hrel.out
    clear hrel
    have HBW := Lib.hid (HB0.out.trans (HB.out.mono HB0.out.size))
    by_cases hin : k < h.length ∧ N ≤ 120
    · obtain ⟨hlt, hm⟩ := hin
      obtain ⟨b, o, e, rfl, hb, he, hat⟩ := ev_elem HR.out hlt
      have hei := HD.out e (List.mem_of_getElem? he)
      have hat' := hat.below HBW.out hb
      have q3 := hat'.c 3 _ rfl
      have q4 := hat'.c 4 _ rfl
      have q10 := hat'.c 10 _ rfl
      have hvs := hei.vs
      have hrn := hei.rn
      have d0 : decide ((k : Int) < (h.length : Int)) = true := by simp; omega
      have hmd : decide ((N : Int) ≤ 120) = true := by simp; omega
      obtain ⟨m, hm2⟩ : ∃ m, e.val.size / 60 = m := ⟨_, rfl⟩
      have hmb : m ≤ 3000000000000 := by omega
      obtain ⟨rn, hrn2⟩ : ∃ n, e.res.length = n := ⟨_, rfl⟩
      rw [hrn2] at q10 hrn
      have HM2 := Lib.hid hm2
      have HAT := Lib.hid hat
      have HEI := Lib.hid hei
      have HBL := Lib.hid hb
      have hkl : e.keys.length ≤ 9223372036854775807 := by have := hei.ok.kl; have := hei.ok.kn; omega
      clear hat hat' he hei hm2 hrn2
      have hkd : Hid (∀ s ∈ e.keys, s.size ≤ 140737488351232) := HEI.out.ks
      have HKL := Lib.hid hkl
      have HBD : Hid (N + (rn + m) ≤ 4000000000000) := by show _ ≤ _; omega
      have HLT := Lib.hid hlt
      go_wp2
      go_quiet (fail)
      go_wp2
      rename World => wy
      obtain ⟨wz, hwz⟩ : ∃ z, wy.drewN nq = z := ⟨_, rfl⟩
      have HBZ : Hid (Below w.heap.size w wz) := by show Below _ _ _; rw [← hwz]; exact Mem.below_drewN HB.out _
      have HBWZ := Lib.hid (HB0.out.trans (HBZ.out.mono HB0.out.size))
      try rw [hwz]
      clear hwz
      go_loopw [5, 7] (MuRel w (h.length + ws.length) e.keys.length) (fun _ t _ => e.keys.length - (intOf t).toNat)
      case atStart => exact ⟨⟨0, N + (rn + m), by omega, by omega, by omega, by have := HM2.out; congr 1; omega, rfl, HBZ⟩⟩
      case round =>
        clear hmd d0 q3 q4 q10 hmb HBD
        obtain ⟨j, M, hj, hlM, hM, rfl, rfl, HBI⟩ := hrel.out
        clear hrel
        have HBWI := Lib.hid (HB0.out.trans (HBI.out.mono HB0.out.size))
        have hat' := HAT.out.below HBWI.out HBL.out
        have q3 := hat'.c 3 _ rfl
        clear hat'
        by_cases hlj : j < e.keys.length
        · have d3 : decide ((j : Int) < (e.keys.length : Int)) = true := by simp; omega
          by_cases hmM : M ≤ 120
          · have hmd : decide ((M : Int) ≤ 120) = true := by simp; omega
            obtain ⟨b2, o2, hA2, hb2, hc2⟩ := HEI.out.ok.k.at (k := j) (by rw [List.length_map]; exact hlj)
            obtain ⟨s, hs⟩ : ∃ s, e.keys[j] = s := ⟨_, rfl⟩
            rw [List.getElem_map, hs] at hc2
            have q5 : wr.cell? ⟨b2, o2 + j, none⟩ = some (.string s) := (HBWI.out.cell (p := ⟨b2, o2 + j, none⟩) hb2).trans hc2
            have hss : s.size ≤ 140737488351232 := hkd.out s (by rw [← hs]; exact List.getElem_mem _)
            rw [hA2] at q3
            obtain ⟨p, hp⟩ : ∃ m, s.size / 60 = m := ⟨_, rfl⟩
            have hpb : p ≤ 3000000000000 := by omega
            have HP := Lib.hid hp
            clear hA2 hb2 hc2 hs hp
            go_wp2
            go_roundw
            case rel => exact ⟨⟨j + 1, M + (1 + p), by omega, by omega, by omega, by have := HP.out; have h2 : wrap64 (1 + (s.size : Int) / 60) = 1 + (s.size : Int) / 60 := IntWalk.wrap64_in _ (by omega); first | (congr 1; omega) | (congr 1; rw [h2]; congr 1; omega), by go_num, HBI⟩⟩
            case measure => simp [intOf]; omega
          · have hmd : decide ((M : Int) ≤ 120) = false := by simp; omega
            go_wp2
            go_roundw
            case rel => exact ⟨⟨k + 1, M, by have := HLT.out; omega, hlM, hM, rfl, by go_num, HBI⟩⟩
            case measure => have := HLT.out; simp [intOf]; omega
        · have d3 : decide ((j : Int) < (e.keys.length : Int)) = false := by simp; omega
          go_wp2
          go_roundw
          case rel => exact ⟨⟨k + 1, M, by have := HLT.out; omega, hlM, hM, rfl, by go_num, HBI⟩⟩
          case measure => have := HLT.out; simp [intOf]; omega
    · by_cases hlt : k < h.length
      · have d0 : decide ((k : Int) < (h.length : Int)) = true := by simp; omega
        have hmd : decide ((N : Int) ≤ 120) = false := by simp; omega
        clear hin
        go_wp2
        rename World => wy
        go_loopw [5, 8] (MuRel w (h.length + ws.length) ws.length) (fun _ t _ => ws.length - (intOf t).toNat)
        case atStart => exact ⟨⟨0, N, by omega, hlN, hN, rfl, rfl, HB⟩⟩
        case round =>
          clear HB HBW d0
          try clear hmd
          obtain ⟨j, M, hj, hlM, hM, rfl, rfl, HB⟩ := hrel.out
          clear hrel
          have HBW := Lib.hid (HB0.out.trans (HB.out.mono HB0.out.size))
          by_cases hin : j < ws.length ∧ M ≤ 120
          · obtain ⟨hlj, hmM⟩ := hin
            have d3 : decide ((j : Int) < (ws.length : Int)) = true := by simp; omega
            have hmd : decide ((M : Int) ≤ 120) = true := by simp; omega
            obtain ⟨b, o, e, rfl, hb, he, hat⟩   := Vec.ent_elem HR2.out hlj
            have hei := HD2.out e (List.mem_of_getElem? he)
            have hat' := hat.below HBW.out hb
            have q6 := hat'.c 6 _ rfl
            have q7 := hat'.c 7 _ rfl
            have hks := hei.ks
            have hvs := hei.vs
            obtain ⟨m, hm2⟩ : ∃ m, (e.key.size + e.val.size) / 60 = m := ⟨_, rfl⟩
            have hmb : m ≤ 5000000000000 := by omega
            have HM2 := Lib.hid hm2
            clear hat hat' he hei hm2
            go_wp2
            go_quiet (fail)
            go_wp2
            go_roundw
            case rel => exact ⟨⟨j + 1, M + m, by omega, by omega, by omega, by have := HM2.out; congr 1; omega, by go_num, Mem.below_drewN HB.out _⟩⟩
            case measure => simp [intOf]; omega
          · obtain ⟨g, hg⟩ : ∃ g, decide ((360 : Int) < (M : Int)) = g := ⟨_, rfl⟩
            have HGG : Hid (g = false → h.length + ws.length ≤ 360) := fun hz => by
              rw [hz] at hg
              have : ¬ (360 : Int) < (M : Int) := of_decide_eq_false hg
              omega
            by_cases hlj : j < ws.length
            · have d3 : decide ((j : Int) < (ws.length : Int)) = true := by simp; omega
              have hmd : decide ((M : Int) ≤ 120) = false := by simp; omega
              clear hin
              go_wp2
              go_ret
              exact ⟨g, rfl, HGG.out, HB.out⟩
            · have d3 : decide ((j : Int) < (ws.length : Int)) = false := by simp; omega
              clear hin
              go_wp2
              go_ret
              exact ⟨g, rfl, HGG.out, HB.out⟩
      · have d0 : decide ((k : Int) < (h.length : Int)) = false := by simp; omega
        clear hin
        go_wp2
        rename World => wy
        go_loopw [5, 8] (MuRel w (h.length + ws.length) ws.length) (fun _ t _ => ws.length - (intOf t).toNat)
        case atStart => exact ⟨⟨0, N, by omega, hlN, hN, rfl, rfl, HB⟩⟩
        case round =>
          clear HB HBW d0
          try clear hmd
          obtain ⟨j, M, hj, hlM, hM, rfl, rfl, HB⟩ := hrel.out
          clear hrel
          have HBW := Lib.hid (HB0.out.trans (HB.out.mono HB0.out.size))
          by_cases hin : j < ws.length ∧ M ≤ 120
          · obtain ⟨hlj, hmM⟩ := hin
            have d3 : decide ((j : Int) < (ws.length : Int)) = true := by simp; omega
            have hmd : decide ((M : Int) ≤ 120) = true := by simp; omega
            obtain ⟨b, o, e, rfl, hb, he, hat⟩   := Vec.ent_elem HR2.out hlj
            have hei := HD2.out e (List.mem_of_getElem? he)
            have hat' := hat.below HBW.out hb
            have q6 := hat'.c 6 _ rfl
            have q7 := hat'.c 7 _ rfl
            have hks := hei.ks
            have hvs := hei.vs
            obtain ⟨m, hm2⟩ : ∃ m, (e.key.size + e.val.size) / 60 = m := ⟨_, rfl⟩
            have hmb : m ≤ 5000000000000 := by omega
            have HM2 := Lib.hid hm2
            clear hat hat' he hei hm2
            go_wp2
            go_quiet (fail)
            go_wp2
            go_roundw
            case rel => exact ⟨⟨j + 1, M + m, by omega, by omega, by omega, by have := HM2.out; congr 1; omega, by go_num, Mem.below_drewN HB.out _⟩⟩
            case measure => simp [intOf]; omega
          · obtain ⟨g, hg⟩ : ∃ g, decide ((360 : Int) < (M : Int)) = g := ⟨_, rfl⟩
            have HGG : Hid (g = false → h.length + ws.length ≤ 360) := fun hz => by
              rw [hz] at hg
              have : ¬ (360 : Int) < (M : Int) := of_decide_eq_false hg
              omega
            by_cases hlj : j < ws.length
            · have d3 : decide ((j : Int) < (ws.length : Int)) = true := by simp; omega
              have hmd : decide ((M : Int) ≤ 120) = false := by simp; omega
              clear hin
              go_wp2
              go_ret
              exact ⟨g, rfl, HGG.out, HB.out⟩
            · have d3 : decide ((j : Int) < (ws.length : Int)) = false := by simp; omega
              clear hin
              go_wp2
              go_ret
              exact ⟨g, rfl, HGG.out, HB.out⟩
end Go.Proofs.Ytelephoalpphkaa
end
section
/- The document's Check, plainly, and that it is the program's. No conditions. -/
set_option maxRecDepth 8000
namespace Go.Proofs.Ytelephoalpphkaa
set_option linter.unusedVariables false
set_option linter.unusedSimpArgs false
namespace Au
def beg (e : Ev) : Bool := !e.fresh && !e.fin
/-- the beginning under way of a client ahead of event j, -1: none -/
def und (h : List Ev) (cl : Int) : Nat → Int
  | 0 => -1
  | j + 1 => match h[j]? with
    | none => und h cl j
    | some e => if e.cl = cl then (if beg e = true then (j : Int) else -1) else und h cl j
theorem und_succ {h : List Ev} {j : Nat} {e : Ev} (he : h[j]? = some e) (cl : Int) : und h cl (j + 1) = if e.cl = cl then (if beg e = true then (j : Int) else -1) else und h cl j := by rw [und, he]
theorem und_lo (h : List Ev) (cl : Int) : ∀ j, -1 ≤ und h cl j
  | 0 => by unfold und; omega
  | j + 1 => by
    have ih := und_lo h cl j
    cases he : h[j]? with
    | none => rw [und, he]; exact ih
    | some e =>
      rw [und_succ he]
      split
      · split <;> omega
      · exact ih
theorem und_hi (h : List Ev) (cl : Int) : ∀ j, und h cl j < j
  | 0 => by unfold und; omega
  | j + 1 => by
    have ih := und_hi h cl j
    cases he : h[j]? with
    | none => rw [und, he]; show und h cl j < _; omega
    | some e =>
      rw [und_succ he]
      split
      · split <;> omega
      · omega
/-- the last cut of a client ahead of event j -/
def lastC (h : List Ev) (cl : Int) : Nat → Vec.Vc
  | 0 => Vec.vc0
  | j + 1 => match h[j]? with
    | none => lastC h cl j
    | some e => if e.cl = cl then (if e.fresh = true then Vec.vc0 else if e.fin = true then e.cut else lastC h cl j) else lastC h cl j
theorem lastC_succ {h : List Ev} {j : Nat} {e : Ev} (he : h[j]? = some e) (cl : Int) : lastC h cl (j + 1) = if e.cl = cl then (if e.fresh = true then Vec.vc0 else if e.fin = true then e.cut else lastC h cl j) else lastC h cl j := by rw [lastC, he]
/-- has an operation of that number or a greater one of the client begun ahead of event j? -/
def dupF (cl op : Int) (x : Ev) : Bool := beg x && (decide (x.cl = cl) && decide (op ≤ x.op))
def dup (h : List Ev) (cl op : Int) (j : Nat) : Bool := (h.take j).any (dupF cl op)
theorem dup_succ {h : List Ev} {j : Nat} {e : Ev} (he : h[j]? = some e) (cl op : Int) : dup h cl op (j + 1) = (dup h cl op j || dupF cl op e) := by
  unfold dup
  rw [Mem.take_snoc he, List.any_append]
  simp
/-- rule 2, as the document has it -/
def dR2 (h : List Ev) (j : Nat) (e : Ev) : Bool :=
  decide (und h e.cl j < 0) || (match h[(und h e.cl j).toNat]? with
    | none => true
    | some b => decide (b.op ≠ e.op) || (decide (b.kind ≠ e.kind) || (decide (b.val ≠ e.val) || !decide (b.keys = e.keys))))
def dFits (e : Ev) : Bool := if e.code ≠ 0 ∨ e.kind < 1 ∨ 4 < e.kind then ((e.res.length : Int) == 0) else decide (e.res.map (·.key) = e.keys)
def dW (h : List Ev) (ws : List Vec.Ent) (j : Nat) (e : Ev) (rule : Int) (r : Rs) : Bool :=
  if rule = 4 then r.has && !askedP (atK (kOf h ws) j) r
  else if rule = 5 then (e.code == 0 && putsP e.kind) && ownF e r
  else if rule = 7 then r.has && !pastP e r
  else seesF (kOf h ws) e r
/-- does event j break a rule, as the document has it? -/
def brk (h : List Ev) (ws : List Vec.Ent) (j : Nat) (e : Ev) (rule : Int) : Bool :=
  if rule = 1 then beg e && (dup h e.cl e.op j || decide (0 ≤ und h e.cl j))
  else if (!e.fin || e.fresh) = true then false
  else if rule = 2 then dR2 h j e
  else if rule = 3 then !dFits e
  else if rule = 6 then !Vec.coversV e.cut (lastC h e.cl j)
  else if rule = 9 then !Vec.closedP e.cut ws
  else e.res.any (dW h ws j e rule)
def brks (h : List Ev) (ws : List Vec.Ent) (j : Nat) (e : Ev) (n : Nat) : List Fi := ((List.range n).filter fun (i : Nat) => brk h ws j e ((i : Int) + 1)).map fun (i : Nat) => (⟨j, (i : Int) + 1⟩ : Fi)
/-- the document's findings of the first j events -/
def docC (h : List Ev) (ws : List Vec.Ent) : Nat → List Fi
  | 0 => []
  | j + 1 => match h[j]? with
    | none => docC h ws j
    | some e => docC h ws j ++ brks h ws j e 9
theorem docC_succ {h : List Ev} {ws : List Vec.Ent} {j : Nat} {e : Ev} (he : h[j]? = some e) : docC h ws (j + 1) = docC h ws j ++ brks h ws j e 9 := by rw [docC, he]
/-- what a client's session is, told by the events ahead -/
structure SInv (h : List Ev) (cl : Int) (j : Nat) (s : Ss) : Prop where
  u : s.under = decide (0 ≤ und h cl j)
  b : ∀ e, 0 ≤ und h cl j → h[(und h cl j).toNat]? = some e → s.begun = e
  o : ∀ op, dup h cl op j = (s.some && decide (op ≤ s.op))
  c : s.cut = lastC h cl j
theorem SInv.zero (h : List Ev) (cl : Int) : SInv h cl 0 ss0 := ⟨rfl, fun e h0 => absurd h0 (by unfold und; omega), fun op => rfl, rfl⟩
theorem SInv.skip {h : List Ev} {cl : Int} {j : Nat} {s : Ss} {e : Ev} (hi : SInv h cl j s) (he : h[j]? = some e) (hne : e.cl ≠ cl) : SInv h cl (j + 1) s := by
  have h1 := und_succ he cl
  rw [if_neg hne] at h1
  refine ⟨by rw [h1]; exact hi.u, fun x => by rw [h1]; exact hi.b x, fun op => ?_, by rw [lastC_succ he, if_neg hne]; exact hi.c⟩
  rw [dup_succ he, hi.o op]
  have : dupF cl op e = false := by unfold dupF; simp [hne]
  rw [this, Bool.or_false]
theorem SInv.next {h : List Ev} {j : Nat} {s : Ss} {e : Ev} (k : Ck) (hi : SInv h e.cl j s) (he : h[j]? = some e) : SInv h e.cl (j + 1) (evF k s e).2 := by
  have h1 := und_succ he e.cl
  have h2 := lastC_succ he e.cl
  have h3 := fun op => dup_succ he e.cl op
  rw [if_pos rfl] at h1 h2
  unfold evF
  by_cases hb : (!e.fresh && !e.fin) = true
  · have hb' : beg e = true := hb
    rw [if_pos hb]
    rw [if_pos hb'] at h1
    obtain ⟨hf, hn⟩ : e.fresh = false ∧ e.fin = false := by simpa using hb
    rw [if_neg (by simp [hf]), if_neg (by simp [hn])] at h2
    unfold begF
    refine ⟨?_, fun x _ hx => ?_, fun op => ?_, by rw [h2]; exact hi.c⟩
    · rw [h1]; symm; simp
    · rw [h1] at hx
      have : h[j]? = some x := by simpa using hx
      rw [he] at this
      exact Option.some.inj this
    · rw [h3, hi.o op]
      unfold dupF
      rw [hb']
      dsimp only
      cases hs : s.some
      · simp
      · by_cases ho : s.op < e.op
        · rw [if_pos (by simp [ho])]
          by_cases h5 : op ≤ e.op
          · simp [h5]
          · have : ¬ op ≤ s.op := by omega
            simp [h5, this]
        · rw [if_neg (by simp; omega)]
          by_cases h5 : op ≤ s.op
          · simp [h5]
          · have : ¬ op ≤ e.op := by omega
            simp [h5, this]
  · have hb' : ¬ beg e = true := hb
    rw [if_neg hb]
    rw [if_neg hb'] at h1
    have h4 : ∀ op, dup h e.cl op (j + 1) = dup h e.cl op j := fun op => by
      rw [h3]
      have : dupF e.cl op e = false := by unfold dupF; simp [hb']
      rw [this, Bool.or_false]
    by_cases hf : e.fresh = true
    · rw [if_pos hf]
      rw [if_pos hf] at h2
      exact ⟨by rw [h1]; rfl, fun x h0 => by rw [h1] at h0; exact absurd h0 (by decide), fun op => by rw [h4]; exact hi.o op, by rw [h2]⟩
    · rw [if_neg hf]
      rw [if_neg hf] at h2
      have hn : e.fin = true := by
        cases h5 : e.fin
        · exact absurd (by simp [h5, hf]) hb
        · rfl
      rw [if_pos hn] at h2
      exact ⟨by rw [h1]; rfl, fun x h0 => by rw [h1] at h0; exact absurd h0 (by decide), fun op => by rw [h4]; exact hi.o op, by rw [h2]⟩
theorem sinv (h : List Ev) (ws : List Vec.Ent) (cl : Int) : ∀ j, j ≤ h.length → SInv h cl j ((stC (kOf h ws) j).1 cl)
  | 0, _ => SInv.zero h cl
  | j + 1, hj => by
    obtain ⟨e, he⟩ : ∃ e, h[j]? = some e := ⟨_, List.getElem?_eq_getElem (by omega)⟩
    have he' : (kOf h ws).h[j]? = some e := he
    rw [stC_succ he']
    show SInv h cl (j + 1) (if cl = e.cl then _ else _)
    by_cases hc : cl = e.cl
    · subst hc
      rw [if_pos rfl]
      exact (sinv h ws e.cl j (by omega)).next _ he
    · rw [if_neg hc]
      exact (sinv h ws cl j (by omega)).skip he (fun q => hc q.symm)
theorem any_has (p : Rs → Bool) : ∀ l : List Rs, l.any (fun r => r.has && p r) = (hasL l).any p
  | [] => rfl
  | r :: l => by
    unfold hasL
    rw [List.any_cons, List.filter_cons, any_has p l]
    cases hr : r.has
    · simp [hasL]
    · simp [hasL]
theorem fits_shaped (e : Ev) : dFits e = shapedP e := by
  unfold dFits shapedP
  by_cases h1 : e.code ≠ 0 ∨ e.kind = 5
  · rw [if_pos h1, if_pos (by omega)]
  · rw [if_neg h1]
    by_cases h2 : e.kind < 1 ∨ 5 < e.kind
    · rw [if_pos h2, if_pos (by omega)]
    · rw [if_neg h2, if_neg (by omega)]
/-- the rules of an end, one by one -/
theorem brk_rule {h : List Ev} {ws : List Vec.Ent} {j : Nat} {s : Ss} {e : Ev} (hi : SInv h e.cl j s) (hj : j ≤ h.length) (hb : ¬ (!e.fin || e.fresh) = true) (i : Nat) (h8 : i < 8) :
    brk h ws j e ((i : Int) + 2) = !(rulesF (atK (kOf h ws) j) s e).getD i true := by
  unfold brk rulesF
  rw [if_neg (show ¬ (i : Int) + 2 = 1 by omega), if_neg hb]
  match i, h8 with
  | 0, _ =>
    show dR2 h j e = !r2 s e
    unfold dR2 r2
    rw [hi.u]
    by_cases hu : 0 ≤ und h e.cl j
    · obtain ⟨b, hb2⟩ : ∃ b, h[(und h e.cl j).toNat]? = some b := ⟨_, List.getElem?_eq_getElem (by have := und_hi h e.cl j; omega)⟩
      rw [hb2, hi.b b hu hb2]
      have h0 : ¬ und h e.cl j < 0 := by omega
      dsimp only
      simp only [h0, hu, decide_false, decide_true, Bool.false_or, Bool.true_and]
      rw [show decide (e.op = b.op) = decide (b.op = e.op) from decide_eq_decide.2 eq_comm, show decide (e.kind = b.kind) = decide (b.kind = e.kind) from decide_eq_decide.2 eq_comm,
        show decide (e.keys = b.keys) = decide (b.keys = e.keys) from decide_eq_decide.2 eq_comm, show decide (e.val = b.val) = decide (b.val = e.val) from decide_eq_decide.2 eq_comm]
      simp only [ne_eq, decide_not, Bool.not_and]
      cases decide (b.op = e.op) <;> cases decide (b.kind = e.kind) <;> cases decide (b.keys = e.keys) <;> cases decide (b.val = e.val) <;> rfl
    · have h0 : und h e.cl j < 0 := by omega
      simp [hu, h0]
  | 1, _ =>
    show (!dFits e) = !shapedP e
    rw [fits_shaped]
  | 2, _ =>
    show e.res.any (dW h ws j e 4) = !r4 (atK (kOf h ws) j) e
    unfold r4
    rw [Bool.not_not, ← any_has]
    rfl
  | 3, _ =>
    show e.res.any (dW h ws j e 5) = !r5 e
    unfold r5
    have : dW h ws j e 5 = fun r => (e.code == 0 && putsP e.kind) && ownF e r := rfl
    rw [this]
    cases hc : (e.code == 0)
    · have : (e.code != 0) = true := by simpa using hc
      simp [this]
    · have : (e.code != 0) = false := by simpa using hc
      rw [this]
      cases putsP e.kind <;> simp
  | 4, _ =>
    show (!Vec.coversV e.cut (lastC h e.cl j)) = !r6 s e
    unfold r6
    rw [hi.c]
  | 5, _ =>
    show e.res.any (dW h ws j e 7) = !r7 e
    unfold r7
    rw [Bool.not_not, ← any_has]
    rfl
  | 6, _ =>
    show e.res.any (dW h ws j e 8) = !r8 (atK (kOf h ws) j) e
    unfold r8
    rw [Bool.not_not]
    rfl
  | 7, _ => rfl
theorem brks_eq {h : List Ev} {ws : List Vec.Ent} {j : Nat} {s : Ss} {e : Ev} (hi : SInv h e.cl j s) (hj : j ≤ h.length) : brks h ws j e 9 = (evF (atK (kOf h ws) j) s e).1.map fun r => (⟨j, r⟩ : Fi) := by
  have h9 : List.range 9 = 0 :: (List.range 8).map (· + 1) := by decide
  unfold brks evF
  rw [h9, List.filter_cons, List.filter_map]
  by_cases hb : (!e.fresh && !e.fin) = true
  · obtain ⟨hf, hn⟩ : e.fresh = false ∧ e.fin = false := by simpa using hb
    have hb' : beg e = true := hb
    rw [if_pos hb]
    have h2 : (List.range 8).filter ((fun (i : Nat) => brk h ws j e ((i : Int) + 1)) ∘ (· + 1)) = [] := by
      rw [List.filter_eq_nil_iff]
      intro i hi2
      show ¬ brk h ws j e (((i + 1 : Nat) : Int) + 1) = true
      unfold brk
      rw [if_neg (by omega), if_pos (by simp [hn])]
      simp
    rw [h2]
    have h3 : brk h ws j e (((0 : Nat) : Int) + 1) = (s.under || (s.some && decide (e.op ≤ s.op))) := by
      unfold brk
      rw [if_pos (by omega), hb', hi.o, hi.u, Bool.true_and, Bool.or_comm]
    rw [h3]
    unfold begF
    cases (s.under || (s.some && decide (e.op ≤ s.op))) <;> rfl
  · have hb' : beg e = false := by cases hq : beg e; rfl; exact absurd hq hb
    rw [if_neg hb]
    have h3 : brk h ws j e (((0 : Nat) : Int) + 1) = false := by
      unfold brk
      rw [if_pos (by omega), hb', Bool.false_and]
    rw [h3]
    by_cases hf : e.fresh = true
    · rw [if_pos hf]
      have h2 : (List.range 8).filter ((fun (i : Nat) => brk h ws j e ((i : Int) + 1)) ∘ (· + 1)) = [] := by
        rw [List.filter_eq_nil_iff]
        intro i hi2
        show ¬ brk h ws j e (((i + 1 : Nat) : Int) + 1) = true
        unfold brk
        rw [if_neg (by omega), if_pos (by simp [hf])]
        simp
      rw [h2]
      rfl
    · rw [if_neg hf]
      have hn : ¬ (!e.fin || e.fresh) = true := by
        cases h5 : e.fin
        · exact absurd (by simp [h5, hf]) hb
        · simp [hf]
      unfold endF
      dsimp only
      have h2 : (List.range 8).filter ((fun (i : Nat) => brk h ws j e ((i : Int) + 1)) ∘ (· + 1)) = (List.range 8).filter fun i => !(rulesF (atK (kOf h ws) j) s e).getD i true := by
        refine List.filter_congr fun i hi2 => ?_
        show brk h ws j e (((i + 1 : Nat) : Int) + 1) = _
        rw [show ((i + 1 : Nat) : Int) + 1 = (i : Int) + 2 by omega]
        exact brk_rule hi hj hn i (List.mem_range.1 hi2)
      rw [h2]
      rw [if_neg (by simp), List.map_map, List.map_map]
      refine List.map_congr_left fun i _ => ?_
      show (⟨j, ((i + 1 : Nat) : Int) + 1⟩ : Fi) = ⟨j, (i : Int) + 2⟩
      rw [show ((i + 1 : Nat) : Int) + 1 = (i : Int) + 2 by omega]
/-- the document's findings are the program's -/
theorem doc_eq (h : List Ev) (ws : List Vec.Ent) : ∀ j, j ≤ h.length → docC h ws j = (stC (kOf h ws) j).2
  | 0, _ => rfl
  | j + 1, hj => by
    obtain ⟨e, he⟩ : ∃ e, h[j]? = some e := ⟨_, List.getElem?_eq_getElem (by omega)⟩
    have he' : (kOf h ws).h[j]? = some e := he
    rw [stC_succ he', docC_succ he, doc_eq h ws j (by omega), brks_eq (sinv h ws e.cl j (by omega)) (by omega)]
theorem doc_finds (h : List Ev) (ws : List Vec.Ent) : docC h ws h.length = findL h ws := by rw [doc_eq h ws _ (Nat.le_refl _), findL_eq]
end Au
end Go.Proofs.Ytelephoalpphkaa
end
section
/- A history in new memory: the walk of twin. No conditions but that lists are few. -/
set_option maxRecDepth 8000
namespace Go.Proofs.Ytelephoalpphkaa
open Go.ChangeShapes Go.WideShapes Go.ChangeAt Go.RowKit
set_option linter.unusedVariables false
set_option linter.unusedSimpArgs false
namespace Au
/-- an event whose lists are the call's own: in new memory, apart from the list X -/
structure TwE (b : Nat) (X : Option Addr) (w : World) (e : Ev) : Prop where
  k : Mem.Own w 9 1 e.kA e.keys.length e.kc (e.keys.map sv)
  r : Mem.Own w 48 22 e.rA e.res.length e.rc (e.res.flatMap rsCells)
  kf : Mem.From b e.kA
  rf : Mem.From b e.rA
  kr : ∀ q, Mem.blk e.kA = some q → Mem.blk e.rA ≠ some q
  kx : ∀ q, Mem.blk X = some q → Mem.blk e.kA ≠ some q ∧ Mem.blk e.rA ≠ some q
/-- whose lists lie in later blocks -/
def TwLt (a b : Ev) : Prop := ∀ q p, (Mem.blk a.kA = some q ∨ Mem.blk a.rA = some q) → (Mem.blk b.kA = some p ∨ Mem.blk b.rA = some p) → q < p
theorem TwE.lt {b : Nat} {X : Option Addr} {w : World} {e : Ev} (h : TwE b X w e) {q : Nat} (hq : Mem.blk e.kA = some q ∨ Mem.blk e.rA = some q) : q < w.heap.size := hq.elim (fun h1 => h.k.lt h1) (fun h1 => h.r.lt h1)
theorem TwE.keeps {b : Nat} {X : Option Addr} {w w' : World} {e : Ev} {S : Nat → Prop} (h : TwE b X w e) (hk : Mem.Keeps S w w') (hS : ∀ q, (Mem.blk e.kA = some q ∨ Mem.blk e.rA = some q) → ¬ S q) : TwE b X w' e :=
  ⟨h.k.keeps hk (fun q hq => hS q (.inl hq)), h.r.keeps hk (fun q hq => hS q (.inr hq)), h.kf, h.rf, h.kr, h.kx⟩
theorem TwE.below {b : Nat} {X : Option Addr} {w w' : World} {e : Ev} (h : TwE b X w e) (hb : Below w.heap.size w w') : TwE b X w' e := h.keeps (Mem.Keeps.of_below hb) (fun _ _ h => h)
theorem TwE.ok {b : Nat} {X : Option Addr} {w : World} {e : Ev} (h : TwE b X w e) : EvOk w w.heap.size e :=
  ⟨h.k.rd, h.r.rd, h.k.le, h.r.le, h.k.cap, h.r.cap⟩
structure Tw (w : World) (h : List Ev) (k : Nat) (X : Option Addr) (c : Nat) (hs : List Ev) (wr : World) : Prop where
  b : hs.map bare = (h.take k).map bare
  o : Mem.Own wr 46 20 X hs.length c (hs.flatMap evCells)
  f : Mem.From w.heap.size X
  e : ∀ e ∈ hs, TwE w.heap.size X wr e
  p : hs.Pairwise TwLt
  bl : Below w.heap.size w wr
structure TwRel (w : World) (h : List Ev) (v3 v4 : Value) (wr : World) : Prop where
  out : ∃ (k : Nat) (X : Option Addr) (c : Nat) (hs : List Ev), k ≤ h.length ∧ v3 = .slice X k c ∧ v4 = .int .i64 k ∧ hs.length = k ∧ Hid (Tw w h k X c hs wr)
def TwEnd (w : World) (h : List Ev) (x : Ending) (w' : World) : Prop := ∃ X c hs, x = .returned (.slice X h.length c) ∧ Tw w h h.length X c hs w'
theorem Tw.len {w : World} {h : List Ev} {X : Option Addr} {c : Nat} {hs : List Ev} {wr : World} (t : Tw w h h.length X c hs wr) : hs.length = h.length := by
  have := congrArg List.length t.b
  rwa [List.take_length, List.length_map, List.length_map] at this
theorem ev_zero : (Try.prog.info? 46).map (fun i => (i.zero, i.size)) = some (some (.agg (evCells ev0).toArray), 20) := by kernel_rfl
theorem evs_len (l : List Ev) : (l.flatMap evCells).length = l.length * 20 := Mem.flat_length evCells_length l
theorem strs_len (l : List ByteArray) : (l.map sv).length = l.length * 1 := by rw [List.length_map, Nat.mul_one]
theorem strs_one (l : List ByteArray) : ∀ u ∈ l.map sv, u.oneCell' = true := fun u hu => by
  obtain ⟨s, _, rfl⟩ := List.mem_map.1 hu
  rfl
def reK (e : Ev) (A : Option Addr) (c : Nat) : Ev := ⟨e.cl, e.op, e.kind, A, c, e.keys, e.val, e.adc, e.dc, e.fresh, e.fin, e.code, e.rA, e.rc, e.res, e.cut⟩
def reR (e : Ev) (A : Option Addr) (c : Nat) : Ev := ⟨e.cl, e.op, e.kind, e.kA, e.kc, e.keys, e.val, e.adc, e.dc, e.fresh, e.fin, e.code, A, c, e.res, e.cut⟩
end Au
open Au in
set_option maxHeartbeats 8000000 in
theorem twin_any (A : Option Addr) (c : Nat) (h : List Au.Ev) (B : Nat) (w0 w : World) (hr : Mem.Rd w0 B A (h.flatMap Au.evCells)) (hd : ∀ e ∈ h, Au.EvOk w0 B e ∧ e.keys.length ≤ 8796093022208 ∧ e.res.length ≤ 703687441776) (hn : h.length ≤ 1000000) (hb : Below B w0 w) (hB : B ≤ w.heap.size) :
    Calls Try.prog 11 #[.slice A h.length c] w (Au.TwEnd w h) := by
  have HR := Lib.hid (hr.below hb)
  have HD : Hid (∀ e ∈ h, EvOk w B e ∧ e.keys.length ≤ 8796093022208 ∧ e.res.length ≤ 703687441776) := fun e he => ⟨(hd e he).1.below hb (Nat.le_refl _), (hd e he).2⟩
  have HBB := Lib.hid hB
  clear hr hd hb hB
  go_enter Try.func11, Try.ntmps11
  go_wp2
  go_loopw [3, 4] (TwRel w h) (fun _ t _ => h.length - (intOf t).toNat)
  case atStart => exact ⟨⟨0, none, 0, [], by omega, rfl, rfl, rfl, ⟨rfl, Mem.Own.nil _ _ _, Mem.From.none_ _, fun e he => (by cases he), List.Pairwise.nil, Below.refl _ _⟩⟩⟩
  case round =>
    obtain ⟨k, X, cx, hs, hk, rfl, rfl, hlen, HT⟩ := hrel.out
    clear hrel
    by_cases hlt : k < h.length
    · obtain ⟨b, o, e, rfl, hbl, he, hat⟩ := ev_elem HR.out hlt
      have d0 : decide ((k : Int) < (h.length : Int)) = true := by simp; omega
      have hbw := HT.out.bl.mono HBB.out
      have HAT := Lib.hid ((hat.below hbw hbl).c)
      have HE := Lib.hid (HD.out e (List.mem_of_getElem? he))
      have HKR : Hid (Mem.Rd wr B e.kA (e.keys.map sv)) := HE.out.1.k.below hbw
      have HRR : Hid (Mem.Rd wr B e.rA (e.res.flatMap rsCells)) := HE.out.1.r.below hbw
      have hkn := HE.out.2.1
      have hrn := HE.out.2.2
      have HHE := Lib.hid he
      have HLT := Lib.hid hlt
      have HLEN := Lib.hid hlen
      have HBW : Hid (B ≤ wr.heap.size) := Nat.le_trans HBB.out HT.out.bl.size
      have hkl := strs_len e.keys
      have hko := strs_one e.keys
      have hrl := rs_len e.res
      have hro := rs_ones e.res
      have HKL := Lib.hid hkl
      have HKO := Lib.hid hko
      have HRL := Lib.hid hrl
      have HRO := Lib.hid hro
      clear hat he hbw hlt hlen hkl hko hrl hro
      go_upto_region 6 with (first
        | ((with_reducible refine Mem.load_agg _ _ event_agg b (o + k * 20) (evCells e) ?hx (evCells_length e) HAT.out ?_); case hx => exact rfl)
        | ((with_reducible refine Mem.store_agg _ _ event_agg wr.heap.size (evCells ev0) (evCells e) ?hxj ?hyj ?hbj (evCells_length _) (ev_one _) ?_); (case hxj => exact rfl); (case hyj => exact rfl); (case hbj => exact Mem.Bx.new wr 46 (evCells ev0).toArray rfl rfl); intro w3 hb3 hk3 hs3; have HE3 := Lib.hid hb3; have HK3 := Lib.hid hk3; have HS3 := Lib.hid hs3; clear hb3 hk3 hs3))
      obtain ⟨g, hg⟩ : ∃ g, wr.heap.size = g := ⟨_, rfl⟩
      have HB3 : Hid (Below g wr w3) := by show Below g _ _; rw [← hg]; exact (Reg.below_new wr _).trans (HK3.out.below (B := wr.heap.size) (fun y h => by omega) (Reg.below_new wr _).size)
      have HG3 : Hid (g < w3.heap.size) := by show g < _; rw [← hg]; exact HE3.out.lt
      rw [hg] at HBW
      have HGG := Lib.hid hg
      rw [hg] at HE3
      try rw [hg]
      have HKR3 : Hid (Mem.Rd w3 w3.heap.size e.kA (e.keys.map sv)) := (HKR.out.below (HB3.out.mono HBW.out)).more (Nat.le_trans HBW.out (Nat.le_of_lt HG3.out))
      have y30 := HE3.out.cell (j := 3) rfl
      have y3 := (World.cell?_alloc_lt w3 (.cells #[] 9) ⟨g, 3, none⟩ HG3.out).trans y30
      have yf := HE3.out.fr
      clear hg HK3 HS3 HAT
      go_upto_region 7 with (at_builtin; refine Mem.wpList_clone _ rfl (.tmp 16) (.tmp 19) _ rfl strs_elem _ rfl w3 w3.heap.size e.kA e.keys.length e.kc (e.keys.map sv) rfl ?_ rfl (Below.refl _ _) (Nat.le_refl _) HKR3.out HKL.out HKO.out (by unfold maxLen; omega) (by omega); intro A1 c1 w4 hown hb4 hs4 hf4; have HO4 := Lib.hid hown; have HB4 := Lib.hid hb4; have HF4 := Lib.hid hf4; have y4 : w4.cell? ⟨g, 3, none⟩ = some _ := (HB4.out.cell (p := ⟨g, 3, none⟩) HG3.out).trans y30; have yg : ∀ i, w4.frozen? ⟨g, i, none⟩ = false := fun i => (HE3.out.below HB4.out HG3.out).fr i; clear hown hb4 hs4 hf4 y3 y30 yf)
      have HE5 : Hid (VBx (w4.setCell ⟨g, 3, none⟩ (.slice A1 e.keys.length c1)) g (reK e A1 c1)) := (HE3.out.below HB4.out HG3.out).set 3 _
      have hk5 := (Mem.Keeps.refl (fun y => y = g) w4).setCell (p := ⟨g, 3, none⟩) (fun _ => rfl) (.slice A1 e.keys.length c1)
      have HK5 := Lib.hid hk5
      have HO5 : Hid (Mem.Own (w4.setCell ⟨g, 3, none⟩ (.slice A1 e.keys.length c1)) 9 1 A1 e.keys.length c1 (e.keys.map sv)) := HO4.out.keeps hk5 (fun q hq h1 => by have := HF4.out.blk q hq; have := HG3.out; omega)
      obtain ⟨w5, hw5⟩ : ∃ z, w4.setCell ⟨g, 3, none⟩ (.slice A1 e.keys.length c1) = z := ⟨_, rfl⟩
      rw [hw5] at HE5 HK5 HO5
      try rw [hw5]
      have HB5 : Hid (Below g wr w5) := HB3.out.trans ((HB4.out.mono (Nat.le_of_lt HG3.out)).trans (HK5.out.below (fun y h => by omega) (Nat.le_trans (Nat.le_of_lt HG3.out) HB4.out.size)))
      have HG5 : Hid (g < w5.heap.size) := HE5.out.lt
      have HRR5 : Hid (Mem.Rd w5 w5.heap.size e.rA (e.res.flatMap rsCells)) := (HRR.out.below (HB5.out.mono HBW.out)).more (Nat.le_trans HBW.out (Nat.le_of_lt HG5.out))
      have y100 := HE5.out.cell (j := 10) rfl
      have y10 := (World.cell?_alloc_lt w5 (.cells #[] 48) ⟨g, 10, none⟩ HG5.out).trans y100
      have yf := HE5.out.fr
      clear hw5 hk5 y4 yg HE3 HKR3 HO4
      go_upto_region 8 with (at_builtin; refine Mem.wpList_clone _ rfl (.tmp 23) (.tmp 25) _ rfl results_elem _ rfl w5 w5.heap.size e.rA e.res.length e.rc (e.res.flatMap rsCells) rfl ?_ rfl (Below.refl _ _) (Nat.le_refl _) HRR5.out HRL.out HRO.out (by unfold maxLen; omega) (by omega); intro A2 c2 w6 hown hb6 hs6 hf6; have HO6 := Lib.hid hown; have HB6 := Lib.hid hb6; have HF6 := Lib.hid hf6; have y6 : w6.cell? ⟨g, 10, none⟩ = some _ := (HB6.out.cell (p := ⟨g, 10, none⟩) HG5.out).trans y100; have yg : ∀ i, w6.frozen? ⟨g, i, none⟩ = false := fun i => (HE5.out.below HB6.out HG5.out).fr i; clear hown hb6 hs6 hf6 y10 y100 yf)
      obtain ⟨e', he'⟩ : ∃ e', reR (reK e A1 c1) A2 c2 = e' := ⟨_, rfl⟩
      have HE7 : Hid (VBx (w6.setCell ⟨g, 10, none⟩ (.slice A2 e.res.length c2)) g e') := by
        show VBx _ _ _
        rw [← he']
        exact (HE5.out.below HB6.out HG5.out).set 10 _
      have hk7 := (Mem.Keeps.refl (fun y => y = g) w6).setCell (p := ⟨g, 10, none⟩) (fun _ => rfl) (.slice A2 e.res.length c2)
      have HK7 := Lib.hid hk7
      have HBARE : Hid (bare e' = bare e) := by show _ = _; rw [← he']; rfl
      have HLK : Hid (g < w3.heap.size ∧ w3.heap.size ≤ w5.heap.size) := ⟨HG3.out, Nat.le_trans HB4.out.size HK5.out.size⟩
      have HT7 : Hid (TwE w.heap.size X (w6.setCell ⟨g, 10, none⟩ (.slice A2 e.res.length c2)) e' ∧ ∀ q, (Mem.blk e'.kA = some q ∨ Mem.blk e'.rA = some q) → g < q) := by
        have hwg : w.heap.size ≤ g := by rw [← HGG.out]; exact HT.out.bl.size
        have h1 := HLK.out
        rw [← he']
        refine ⟨⟨(HO5.out.below HB6.out (fun q hq => HO5.out.lt hq)).keeps hk7 (fun q hq h2 => by have := HF4.out.blk q hq; omega), HO6.out.keeps hk7 (fun q hq h2 => by have := HF6.out.blk q hq; omega), HF4.out.mono (by omega), HF6.out.mono (by omega), fun q hq h2 => ?_, fun q hq => ⟨fun h2 => ?_, fun h2 => ?_⟩⟩, fun q hq => ?_⟩
        · have h3 := HO5.out.lt hq
          have h4 := HF6.out.blk q h2
          omega
        · have h3 := HT.out.o.lt hq
          have h4 := HF4.out.blk q h2
          have h5 := HGG.out
          omega
        · have h3 := HT.out.o.lt hq
          have h4 := HF6.out.blk q h2
          have h5 := HGG.out
          omega
        · rcases hq with h2 | h2
          · have h4 := HF4.out.blk q h2
            omega
          · have h4 := HF6.out.blk q h2
            omega
      obtain ⟨w7, hw7⟩ : ∃ z, w6.setCell ⟨g, 10, none⟩ (.slice A2 e.res.length c2) = z := ⟨_, rfl⟩
      rw [hw7] at HE7 HK7 HT7
      try rw [hw7]
      have HB7 : Hid (Below wr.heap.size wr w7) := by
        show Below _ _ _
        rw [HGG.out]
        exact HB5.out.trans ((HB6.out.mono (Nat.le_of_lt HG5.out)).trans (HK7.out.below (fun y h => by omega) (Nat.le_trans (Nat.le_of_lt HG5.out) HB6.out.size)))
      have HX7 := Lib.hid (HT.out.o.below HB7.out (fun q hq => HT.out.o.lt hq))
      have HEC := Lib.hid (VBx.at HE7.out)
      have hx8 : hs.length = k := HLEN.out
      rw [hx8] at HX7
      clear hw7 hk7 y6 yg HE5 HRR5 HO5 HO6 he' hx8
      have hn63 : k + 1 ≤ maxLen := by unfold maxLen; omega
      go_upto_region 4 with (first
        | ((with_reducible refine Mem.load_agg _ _ event_agg g 0 (evCells e') ?hx (evCells_length e') HEC.out ?_); case hx => exact rfl)
        | ((with_reducible refine Mem.build1_agg _ _ 20 _ Try.underlying22 ev_zero (by decide) (by decide) (evCells e') ?hra (evCells_length _) ?_); (case hra => exact rfl))
        | (at_builtin; refine Mem.wpList_app _ rfl (.tmp 28) (.tmp 30) _ rfl events_elem X k cx _ rfl (w7.heap.size + 1) (some ⟨w7.heap.size, 0, none⟩) 1 1 (evCells e') rfl ?_ (HX7.out.alloc _) (Mem.Rd.alloc_new w7 _ _ _ rfl) rfl (ev_one _) hn63 (by omega); intro X3 c3 w9 hown hg4 hat; have HO9 := Lib.hid hown; have HG9 := Lib.hid hg4; have HAT9 := Lib.hid hat; clear hown hg4 hat))
      have hk9 : Mem.Keeps (fun q => Mem.blk X = some q) w7 w9 := ((Mem.Keeps.refl (fun q => Mem.blk X = some q) w7).alloc _).grown HG9.out (fun k hk _ => hk)
      have HK9 := Lib.hid hk9
      have hsz : w7.heap.size ≤ (w7.alloc (.cells (evCells e').toArray 46)).heap.size := (Reg.below_new w7 _).size
      have HSZ := Lib.hid hsz
      have HTW : Hid (Tw w h (k + 1) X3 c3 (hs ++ [e']) w9) := by
        have hB9 : Below w.heap.size w w9 := HT.out.bl.trans ((HB7.out.mono HT.out.bl.size).trans (HK9.out.below (fun q hq => HT.out.f.blk q hq) (Nat.le_trans HT.out.bl.size HB7.out.size)))
        have hX : ∀ q, Mem.blk X3 = some q → Mem.blk X = some q ∨ w7.heap.size ≤ q := fun q hq => by
          rcases HAT9.out with h1 | h1
          · rw [h1] at hq; exact .inl hq
          · rw [h1] at hq; exact .inr (Nat.le_trans HSZ.out (Nat.le_of_eq (Option.some.inj hq)))
        have hup : ∀ {x : Ev}, TwE w.heap.size X w7 x → TwE w.heap.size X3 w9 x := fun {x} hx => by
          have h1 := hx.keeps HK9.out (fun q hq h2 => hq.elim (fun h3 => (hx.kx q h2).1 h3) (fun h3 => (hx.kx q h2).2 h3))
          exact ⟨h1.k, h1.r, h1.kf, h1.rf, h1.kr, fun q hq => (hX q hq).elim (fun h2 => hx.kx q h2) (fun h2 => ⟨fun h3 => by have := hx.lt (.inl h3); omega, fun h3 => by have := hx.lt (.inr h3); omega⟩)⟩
        refine ⟨?_, ?_, ?_, ?_, ?_, hB9⟩
        · rw [Mem.take_snoc HHE.out, List.map_append, List.map_append, HT.out.b]
          show _ ++ [bare e'] = _ ++ [bare e]
          rw [HBARE.out]
        · have h1 := HO9.out
          rw [List.length_append, List.flatMap_append, HLEN.out]
          exact h1
        · rcases HAT9.out with h1 | h1
          · rw [h1]; exact HT.out.f
          · rw [h1]; exact Mem.From.some_ (Nat.le_trans (Nat.le_trans HT.out.bl.size HB7.out.size) HSZ.out)
        · intro x hx
          rcases List.mem_append.1 hx with hx | hx
          · exact hup ((HT.out.e x hx).below HB7.out)
          · rw [List.mem_singleton] at hx
            rw [hx]
            exact hup HT7.out.1
        · rw [List.pairwise_append]
          refine ⟨HT.out.p, List.pairwise_singleton _ _, fun x hx y hy q p hq hp => ?_⟩
          rw [List.mem_singleton] at hy
          rw [hy] at hp
          have h1 := (HT.out.e x hx).lt hq
          have h2 := HT7.out.2 p hp
          have h3 := HGG.out
          omega
      clear hk9 hsz HO9 HG9 HAT9 HK9 HSZ hn63 HX7 HEC HT7 HB7
      go_wp2
      go_roundw
      case rel => exact ⟨⟨k + 1, X3, c3, hs ++ [e'], HLT.out, rfl, by go_num, by rw [List.length_append, HLEN.out]; rfl, HTW⟩⟩
      case measure => exact Au.meas_lt HLT.out
    · obtain rfl : k = h.length := by omega
      have d0 : decide ((h.length : Int) < (h.length : Int)) = false := by simp
      go_wp2
      go_ret
      exact ⟨X, cx, hs, rfl, HT.out⟩
/-- what Check tells, by lists alone -/
theorem checkL_any {hA : Option Addr} {hc : Nat} {h : List Au.Ev} {wA : Option Addr} {wc : Nat} {ws : List Vec.Ent} {w : World} (H : Mem.Rd w w.heap.size hA (h.flatMap Au.evCells)) (W : Mem.Rd w w.heap.size wA (ws.flatMap Vec.entCells))
    (E : ∀ e ∈ h, Au.EvOk w w.heap.size e ∧ Au.okI e.cl ∧ e.res.length ≤ 703687441776) (hl : h.length ≤ hc) (wl : ws.length ≤ wc) (hn : hc ≤ 9223372036854775807) (wn : wc ≤ 9223372036854775807) (n : h.length ≤ 1000000) :
    Calls Try.prog 12 #[.slice hA h.length hc, .slice wA ws.length wc] w fun x w' => ∃ X c, x = .returned (.slice X (Au.findL h ws).length c) ∧ Mem.Own w' 50 2 X (Au.findL h ws).length c ((Au.findL h ws).flatMap Au.fiCells) ∧ Mem.From w.heap.size X ∧ Below w.heap.size w w' := by
  have hk := Au.finds_of ⟨hA, hc, h, wA, wc, ws, 0, w.heap.size⟩ rfl
  refine (check_any (k := ⟨hA, hc, h, wA, wc, ws, 0, w.heap.size⟩) ⟨H, W, fun e he => (E e he).1, fun e he => (E e he).2.1, fun e he => (E e he).2.2, hl, wl, hn, wn, n⟩ rfl rfl).mono ?_
  rintro x w' ⟨X, c, hx, ho, hf, hb⟩
  rw [hk] at hx ho
  exact ⟨X, c, hx, ho, hf, hb⟩
end Go.Proofs.Ytelephoalpphkaa
end
section
/- The walk of able: a get that has not found what it has seen is found. No conditions. -/
set_option maxRecDepth 8000
namespace Go.Proofs.Ytelephoalpphkaa
open Go.ChangeShapes Go.WideShapes Go.ChangeAt Go.RowKit
set_option linter.unusedVariables false
set_option linter.unusedSimpArgs false
namespace Mem
section
variable {P : Program} {w : World} {ops : Array Oper} {rest : List Oper} {a : Act} {Q : Exit → Act → World → Prop} {d : Option Tmp} {ty : TypeId} {ps : String} {af : Array Edge}
/-- a slice literal of one value of many cells, by a guarded operation too -/
theorem build1_aggG {x : Operand} {gd : Option (Nat × Bool)} (t e : TypeId) (n : Nat) (z : Value) (hu : P.underlying t = some (.slice e)) (hi : (P.info? e).map (fun i => (i.zero, i.size)) = some (some z, n)) (hn : 0 < n) (hs : n ≤ 1024)
    (xs : List Value) (hw : Region.wanted { dst := d, op := .buildSlice t 1 #[(0, x)], type := ty, pos := ps, after := af, guard := gd } (yielded ops a.tmps) = true)
    (hx : a.eval x = .agg xs.toArray) (hl : xs.length = n) (h : wpList P ops Q rest (a.put d (.slice (some ⟨w.heap.size, 0, none⟩) 1 1)) (w.alloc (.cells xs.toArray e))) :
    wpList P ops Q ({ dst := d, op := .buildSlice t 1 #[(0, x)], type := ty, pos := ps, after := af, guard := gd } :: rest) a w := by
  cases hie : P.info? e with
  | none => simp [hie] at hi
  | some ie =>
    simp only [hie, Option.map_some, Option.some.injEq, Prod.mk.injEq] at hi
    obtain ⟨hz, hsz⟩ := hi
    subst hsz
    unfold wpList
    rw [if_pos hw]
    refine .inl (wp_buildSlice t e 1 #[(0, x)] rfl xs.toArray ie z hu hie hz (by omega) (by omega) ?_ h)
    have hp : ((#[(0, x)] : Array (Nat × Operand)).map fun (i, x) => (i, a.eval x)).toList = (([.agg xs.toArray] : List Value).zipIdx 0).map fun x => (x.2, x.1) := by simp [hx]
    have hc : (([.agg xs.toArray] : List Value).flatMap fun v => v.cells.toList) = xs := by simp [Value.cells]
    rw [hp]
    refine (Great.fill_whole hn [.agg xs.toArray] _ (fun v hv => ?_) (by simp)).trans (by rw [hc])
    rw [List.mem_singleton] at hv; subst hv; simpa [Value.cells] using hl
end
end Mem
namespace Au
open Vec (Ent Vc)
def eW : Ent := ⟨0, 0, 1, ⟨1, 0, 0⟩, ⟨#[107]⟩, ⟨#[118]⟩, false, Vec.vc0, 0, 1⟩
def cW : Vc := ⟨⟨1, 0, 0⟩, Vec.col0, Vec.col0⟩
def askE (p : Nat) : Ev := ⟨0, 0, 3, some ⟨p, 0, none⟩, 1, [⟨#[107]⟩], ByteArray.empty, 0, 0, false, false, 0, none, 0, [], Vec.vc0⟩
def evA (p : Nat) : Ev := ⟨1, 1, 3, some ⟨p, 0, none⟩, 1, [⟨#[107]⟩], ByteArray.empty, 0, 0, false, false, 0, none, 0, [], Vec.vc0⟩
def rB : Rs := ⟨⟨#[107]⟩, false, Vec.ent0⟩
def evB (p q : Nat) : Ev := ⟨1, 1, 3, some ⟨p, 0, none⟩, 1, [⟨#[107]⟩], ByteArray.empty, 0, 0, false, true, 0, some ⟨q, 0, none⟩, 1, [rB], cW⟩
theorem able_finds (p q : Nat) : findL [evA p, evB p q] [eW] = [⟨1, 8⟩] := by rfl
theorem ok1 : okI 1 := by unfold okI; decide
theorem able_finds0 : findL [] [] = [] := by rfl
theorem able_sees : Vec.visible ⟨#[107]⟩ cW [eW] = (eW, true) := by rfl
theorem able_closed : Vec.closedP cW [eW] = true := by rfl
theorem res_zero : (Try.prog.info? 48).map (fun i => (i.zero, i.size)) = some (some (.agg (rsCells rs0).toArray), 22) := by kernel_rfl
end Au
open Au in
open Vec (EBx entCells ent0 entCells_length ent_one) in
set_option maxHeartbeats 4000000 in
theorem auditAble_any (w : World) :
    Calls Try.prog 9 #[] w fun e w' => e = .returned (.bool true) ∧ Below w.heap.size w w' := by
  go_enter Try.func9, Try.ntmps9
  have ho := ent_one eW
  go_upto_region 2 with ((with_reducible refine Mem.store_agg _ _ entry_agg w.heap.size (entCells ent0) (entCells eW) ?hx2 ?hy2 ?hb2 (entCells_length _) ho ?_); ((case hx2 => exact rfl); (case hy2 => exact rfl); (case hb2 => exact Mem.Bx.new w _ (entCells ent0).toArray rfl rfl); intro w1 hb2 hk2 hs2))
  have Hw1 : Hid (EBx w1 w.heap.size eW) := hb2
  have HKw1 : Hid (Below w.heap.size w w1) := (hk2.newBox rfl).belowAll
  clear hb2 hk2 hs2 ho
  go_upto_region 3 with fail
  obtain ⟨w2, hw2⟩ : ∃ z, ((w1.alloc (.cells #[.string ⟨#[107]⟩] 9)).alloc (.cells #[.int .i64 3, .slice (some ⟨w1.heap.size, 0, none⟩) 1 1, .string ⟨#[]⟩, .int .i64 0] 42)) = z := ⟨_, rfl⟩
  have hb12 : Below w1.heap.size w1 w2 := by rw [← hw2]; exact (Reg.below_new w1 _).trans ((Reg.below_new _ _).mono (Reg.below_new w1 _).size)
  have HA2 : Hid (Mem.Bx w2 42 4 (w1.heap.size + 1) (askCells (askE w1.heap.size))) := by
    show Mem.Bx _ _ _ _ _
    rw [← hw2]
    exact Mem.Bx.new (w1.alloc (.cells #[.string ⟨#[107]⟩] 9)) 42 (askCells (askE w1.heap.size)).toArray rfl (Array.size_push _)
  have HK2 : Hid (Mem.Rd w2 w2.heap.size (some ⟨w1.heap.size, 0, none⟩) [sv ⟨#[107]⟩]) := by
    have h0 : Mem.Rd (w1.alloc (.cells #[.string ⟨#[107]⟩] 9)) (w1.heap.size + 1) (some ⟨w1.heap.size, 0, none⟩) [sv ⟨#[107]⟩] := Mem.Rd.alloc_new w1 #[.string ⟨#[107]⟩] 9 _ rfl
    have h1 : (w1.alloc (.cells #[.string ⟨#[107]⟩] 9)).heap.size = w1.heap.size + 1 := Array.size_push _
    show Mem.Rd _ _ _ _
    rw [← hw2]
    exact (h0.alloc (by omega) _).more (by have := (Reg.below_new (w1.alloc (.cells #[.string ⟨#[107]⟩] 9)) (.cells #[.int .i64 3, .slice (some ⟨w1.heap.size, 0, none⟩) 1 1, .string ⟨#[]⟩, .int .i64 0] 42)).size; omega)
  have HW2 : Hid (EBx w2 w.heap.size eW) := Hw1.out.below hb12 Hw1.out.lt
  have HB2 : Hid (Below w.heap.size w w2) := HKw1.out.trans (hb12.mono HKw1.out.size)
  have HAC : Hid (∀ j u, ([.int .i64 3, .slice (some ⟨w1.heap.size, 0, none⟩) 1 1, .string ⟨#[]⟩, .int .i64 0] : List Value)[j]? = some u → w2.cell? ⟨w1.heap.size + 1, 0 + j, none⟩ = some u) := fun j u hu => by rw [Nat.zero_add]; exact HA2.out.cell hu
  have hs2 : w1.heap.size < w2.heap.size := Nat.lt_trans (Nat.lt_succ_self _) HA2.out.lt
  have HS2 := Lib.hid hs2
  obtain ⟨g1, hg1⟩ : ∃ z, w1.heap.size = z := ⟨_, rfl⟩
  try rw [hw2]
  rw [hg1] at HA2 HK2 HAC HS2
  rw [hg1]
  clear hw2 hb12 hs2 hg1 Hw1 HKw1
  go_upto_region 4 with (first
    | ((with_reducible refine Mem.load_agg _ _ ask_agg (g1 + 1) 0 [.int .i64 3, .slice (some ⟨g1, 0, none⟩) 1 1, .string ⟨#[]⟩, .int .i64 0] ?hx rfl HAC.out ?_); case hx => exact rfl)
    | ((with_reducible refine Mem.build1_agg _ _ 22 _ Try.underlying44 res_zero (by decide) (by decide) (rsCells rB) ?hra (rsCells_length _) ?_); (case hra => exact rfl))
    | ((with_reducible refine Mem.build2_agg _ _ 20 _ Try.underlying22 ev_zero (by decide) (by decide) (evCells (evA g1)) (evCells (evB g1 w2.heap.size)) ?hrZ ?hsZ (evCells_length _) (evCells_length _) ?_); ((case hrZ => exact rfl); (case hsZ => exact rfl))))
  obtain ⟨w4, hw4⟩ : ∃ z, ((w2.alloc (.cells (rsCells rB).toArray 48)).alloc (.cells (evCells (evA g1) ++ evCells (evB g1 w2.heap.size)).toArray 46)) = z := ⟨_, rfl⟩
  obtain ⟨w3, hw3⟩ : ∃ z, w2.alloc (.cells (rsCells rB).toArray 48) = z := ⟨_, rfl⟩
  have hb3 : Below w2.heap.size w2 w3 := by rw [← hw3]; exact Reg.below_new _ _
  have hz3 : w3.heap.size = w2.heap.size + 1 := by rw [← hw3]; exact Array.size_push _
  have hw34 : w3.alloc (.cells (evCells (evA g1) ++ evCells (evB g1 w2.heap.size)).toArray 46) = w4 := by rw [← hw3]; exact hw4
  have hb34 : Below w3.heap.size w3 w4 := by rw [← hw34]; exact Reg.below_new _ _
  have hz4 : w4.heap.size = w3.heap.size + 1 := by rw [← hw34]; exact Array.size_push _
  have hb4 : Below w2.heap.size w2 w4 := hb3.trans (hb34.mono hb3.size)
  have HR4 : Hid (Mem.Rd w4 w4.heap.size (some ⟨w2.heap.size, 0, none⟩) (rsCells rB)) := by
    have h0 : Mem.Rd w3 (w2.heap.size + 1) (some ⟨w2.heap.size, 0, none⟩) (rsCells rB) := by rw [← hw3]; exact Mem.Rd.alloc_new w2 (rsCells rB).toArray _ _ rfl
    exact (h0.below (hb34.mono (by omega))).more (by omega)
  have HK4 : Hid (Mem.Rd w4 w4.heap.size (some ⟨g1, 0, none⟩) [sv ⟨#[107]⟩]) := (HK2.out.below hb4).more hb4.size
  have HH4 : Hid (Mem.Rd w4 w4.heap.size (some ⟨w2.heap.size + 1, 0, none⟩) ([evA g1, evB g1 w2.heap.size].flatMap evCells)) := by
    have h0 : Mem.Rd w4 (w3.heap.size + 1) (some ⟨w3.heap.size, 0, none⟩) (evCells (evA g1) ++ evCells (evB g1 w2.heap.size)) := by rw [← hw34]; exact Mem.Rd.alloc_new w3 (evCells (evA g1) ++ evCells (evB g1 w2.heap.size)).toArray _ _ rfl
    rw [hz3] at h0
    have e1 : [evA g1, evB g1 w2.heap.size].flatMap evCells = evCells (evA g1) ++ evCells (evB g1 w2.heap.size) := by rw [List.flatMap_cons, List.flatMap_cons, List.flatMap_nil, List.append_nil]
    show Mem.Rd _ _ _ _
    rw [e1]
    exact h0.more (by omega)
  have HW4 : Hid (EBx w4 w.heap.size eW) := HW2.out.below hb4 HW2.out.lt
  have HB4 : Hid (Below w.heap.size w w4) := HB2.out.trans (hb4.mono HB2.out.size)
  have HEW : Hid (∀ j u, (entCells eW)[j]? = some u → w4.cell? ⟨w.heap.size, 0 + j, none⟩ = some u) := fun j u hu => by rw [Nat.zero_add]; exact HW4.out.cell hu
  have hb5 : Below w4.heap.size w4 (w4.alloc (.cells (entCells eW).toArray 35)) := Reg.below_new _ _
  have HCK : Hid (Calls Try.prog 12 #[.slice (some ⟨w2.heap.size + 1, 0, none⟩) 2 2, .slice (some ⟨w4.heap.size, 0, none⟩) 1 1] (w4.alloc (.cells (entCells eW).toArray 35)) fun x w' => ∃ X c, x = .returned (.slice X 1 c) ∧ Mem.Own w' 50 2 X 1 c [.int .i64 1, .int .i64 8] ∧ Mem.From w4.heap.size X ∧ Below w4.heap.size w4 w') := by
    have hz5 : (w4.alloc (.cells (entCells eW).toArray 35)).heap.size = w4.heap.size + 1 := Array.size_push _
    have h1 := checkL_any (hA := some ⟨w2.heap.size + 1, 0, none⟩) (hc := 2) (h := [evA g1, evB g1 w2.heap.size]) (wA := some ⟨w4.heap.size, 0, none⟩) (wc := 1) (ws := [eW]) (w := w4.alloc (.cells (entCells eW).toArray 35)) ((HH4.out.below hb5).more hb5.size)
      ((Mem.Rd.alloc_new w4 (entCells eW).toArray _ _ rfl : Mem.Rd _ (w4.heap.size + 1) _ _).more (by omega))
      (fun e he => by
        have hk := (HK4.out.below hb5).more hb5.size
        have hr := (HR4.out.below hb5).more hb5.size
        rcases List.mem_cons.1 he with rfl | he
        · exact ⟨⟨hk, .inl rfl, Nat.le_refl _, Nat.le_refl _, by show (1 : Nat) ≤ _; decide, by show (0 : Nat) ≤ _; decide⟩, ok1, by show (0 : Nat) ≤ _; decide⟩
        · rw [List.mem_singleton] at he
          subst he
          exact ⟨⟨hk, hr, Nat.le_refl _, Nat.le_refl _, by show (1 : Nat) ≤ _; decide, by show (1 : Nat) ≤ _; decide⟩, ok1, by show (1 : Nat) ≤ _; decide⟩)
      (Nat.le_refl _) (Nat.le_refl _) (by decide) (by decide) (by show (2 : Nat) ≤ _; decide)
    rw [able_finds] at h1
    refine h1.mono ?_
    rintro x w' ⟨X, c, hx, ho, hf, hb⟩
    exact ⟨X, c, hx, ho, hf.mono hb5.size, hb5.trans (hb.mono hb5.size)⟩
  rw [hw4]
  clear hw4 hw3 hw34 hb3 hz3 hb34 hz4 hb4 hb5 HA2 HK2 HAC HS2 HW2 HB2
  go_upto_region 5 with (first
    | ((with_reducible refine Mem.load_agg _ _ entry_agg w.heap.size 0 (entCells eW) ?hx (entCells_length _) HEW.out ?_); case hx => exact rfl)
    | ((with_reducible refine Mem.build1_agg _ _ 20 _ Try.underlying23 entry_zero (by decide) (by decide) (entCells eW) ?hra (entCells_length _) ?_); (case hra => exact rfl))
    | (go_at_call 12; (refine HCK.out.mono ?_); rintro x w5 ⟨X, cX, rfl, hO5, hF5, hB5⟩; have HO5 := Lib.hid hO5; have HF5 := Lib.hid hF5; have HB5 := Lib.hid hB5; clear hO5 hF5 hB5))
  have HW5 : Hid (EBx w5 w.heap.size eW) := HW4.out.below HB5.out HW4.out.lt
  have HBW5 : Hid (Below w.heap.size w w5) := HB4.out.trans (HB5.out.mono HB4.out.size)
  have HEW5 : Hid (∀ j u, (entCells eW)[j]? = some u → w5.cell? ⟨w.heap.size, 0 + j, none⟩ = some u) := fun j u hu => by rw [Nat.zero_add]; exact HW5.out.cell hu
  have HVS : Hid (Calls Try.prog 15 #[.string ⟨#[107]⟩, .agg (Vec.vcCells cW).toArray, .slice (some ⟨w5.heap.size, 0, none⟩) 1 1] (w5.alloc (.cells (entCells eW).toArray 35)) fun x w' => x = .returned (.tuple #[.agg (entCells eW).toArray, .bool true]) ∧ Below w5.heap.size w5 w') := by
    have hb6 : Below w5.heap.size w5 (w5.alloc (.cells (entCells eW).toArray 35)) := Reg.below_new _ _
    have h1 := visible_any ⟨#[107]⟩ cW (some ⟨w5.heap.size, 0, none⟩) 1 [eW] (w5.heap.size + 1) (w5.alloc (.cells (entCells eW).toArray 35)) (Mem.Rd.alloc_new w5 (entCells eW).toArray _ _ rfl) (Nat.le_of_eq (Array.size_push _).symm) (by decide)
    rw [able_sees] at h1
    refine h1.mono ?_
    rintro x w' ⟨hx, hb⟩
    exact ⟨hx, hb6.trans (hb.mono hb6.size)⟩
  have ho := ent_one eW
  go_upto_region 6 with (first
    | ((with_reducible refine Mem.load_agg _ _ entry_agg w.heap.size 0 (entCells eW) ?hx (entCells_length _) HEW5.out ?_); case hx => exact rfl)
    | ((with_reducible refine Mem.build1_agg _ _ 20 _ Try.underlying23 entry_zero (by decide) (by decide) (entCells eW) ?hra (entCells_length _) ?_); (case hra => exact rfl))
    | (go_at_call 15; (refine HVS.out.mono ?_); rintro x w6 ⟨rfl, hB6⟩; have HB6 := Lib.hid hB6; clear hB6)
    | ((with_reducible refine Mem.store_agg _ _ entry_agg w6.heap.size (entCells ent0) (entCells eW) ?hxj ?hyj ?hbj (entCells_length _) ho ?_); ((case hxj => exact rfl); (case hyj => exact rfl); (case hbj => exact Mem.Bx.new w6 _ (entCells ent0).toArray rfl rfl)); intro w7 hb7 hk7 hs7))
  have HB67 : Hid (Below w5.heap.size w5 w7) := HB6.out.trans ((hk7.newBox rfl).belowAll.mono HB6.out.size)
  have HE7 : Hid (EBx w7 w6.heap.size eW) := hb7
  have HW7 : Hid (EBx w7 w.heap.size eW) := HW5.out.below HB67.out HW5.out.lt
  have HBW7 : Hid (Below w.heap.size w w7) := HBW5.out.trans (HB67.out.mono HBW5.out.size)
  obtain ⟨gX, oX, rfl⟩ := HO5.out.form (by decide)
  have hO7 := HO5.out.below HB67.out (fun q hq => HO5.out.lt hq)
  have y0 : w7.cell? ⟨gX, oX, none⟩ = some (.int .i64 1) := by have := hO7.cell (j := 0) rfl; rwa [Nat.add_zero] at this
  have y1 : w7.cell? ⟨gX, oX + 1, none⟩ = some (.int .i64 8) := hO7.cell (j := 1) rfl
  have e0 : ∀ W, (binOp .eql 50 (.agg #[.int .i64 1, .int .i64 8]) (.agg #[.int .i64 1, .int .i64 8])).run Try.prog W = .ok (.bool true) W := fun W => eql_fi ⟨1, 8⟩ ⟨1, 8⟩ W
  have e1 : ∀ W, (binOp .eql 35 (.agg (entCells eW).toArray) (.agg (entCells eW).toArray)).run Try.prog W = .ok (.bool true) W := fun W => by rw [eql_ent, Vec.eqEnt_iff.2 rfl]
  have HF1 : Hid (∀ j u, (entCells eW)[j]? = some u → w7.cell? ⟨w6.heap.size, 0 + j, none⟩ = some u) := fun j u hu => by rw [Nat.zero_add]; exact HE7.out.cell hu
  have HF2 : Hid (∀ j u, (entCells eW)[j]? = some u → w7.cell? ⟨w.heap.size, 0 + j, none⟩ = some u) := fun j u hu => by rw [Nat.zero_add]; exact HW7.out.cell hu
  have HCL : Hid (Calls Try.prog 17 #[.agg (Vec.vcCells cW).toArray, .slice (some ⟨w7.heap.size, 0, none⟩) 1 1] (w7.alloc (.cells (entCells eW).toArray 35)) fun x w' => x = .returned (.bool true) ∧ Below w7.heap.size w7 w') := by
    have hb8 : Below w7.heap.size w7 (w7.alloc (.cells (entCells eW).toArray 35)) := Reg.below_new _ _
    have h1 := closed_any cW (some ⟨w7.heap.size, 0, none⟩) 1 [eW] (w7.heap.size + 1) (w7.alloc (.cells (entCells eW).toArray 35)) (Mem.Rd.alloc_new w7 (entCells eW).toArray _ _ rfl) (Nat.le_of_eq (Array.size_push _).symm) (by decide)
    rw [able_closed] at h1
    refine h1.mono ?_
    rintro x w' ⟨hx, hb⟩
    exact ⟨hx, hb8.trans (hb.mono hb8.size)⟩
  have HC0 : Hid (∀ w8 : World, Calls Try.prog 12 #[.slice none 0 0, .slice none 0 0] w8 fun x w' => ∃ X c, x = .returned (.slice X 0 c) ∧ Below w8.heap.size w8 w') := fun w8 => by
    have h1 := checkL_any (hA := none) (hc := 0) (h := []) (wA := none) (wc := 0) (ws := []) (w := w8) (.inl rfl) (.inl rfl) (fun e he => by cases he) (Nat.le_refl _) (Nat.le_refl _) (by decide) (by decide) (by show (0 : Nat) ≤ _; decide)
    rw [able_finds0] at h1
    refine h1.mono ?_
    rintro x w' ⟨X, c, hx, ho, hf, hb⟩
    exact ⟨X, c, hx, hb⟩
  clear hb7 hk7 hs7 ho hO7 HO5 HF5 HB5 HVS HCK HEW HEW5 HW4 HW5 HB4 HBW5 HB6 HH4 HK4 HR4
  go_wp2_with (first
    | ((with_reducible refine Mem.load_aggG _ _ entry_agg w6.heap.size 0 (entCells eW) ?hwa ?hxa (entCells_length _) HF1.out ?_); ((case hwa => rfl); (case hxa => exact rfl)))
    | ((with_reducible refine Mem.load_aggG _ _ entry_agg w.heap.size 0 (entCells eW) ?hwb ?hxb (entCells_length _) HF2.out ?_); ((case hwb => rfl); (case hxb => exact rfl)))
    | ((with_reducible refine Mem.build1_aggG _ _ 20 _ Try.underlying23 entry_zero (by decide) (by decide) (entCells eW) ?hwc ?hrc (entCells_length _) ?_); ((case hwc => rfl); (case hrc => exact rfl)))
    | (go_at_call 17; (refine HCL.out.mono ?_); rintro x w8 ⟨rfl, hB8⟩; have HB8 := Lib.hid hB8; clear hB8)
    | (go_at_call 12; (refine (HC0.out w8).mono ?_); rintro x w9 ⟨X9, c9, rfl, hB9⟩; have HB9 := Lib.hid hB9; clear hB9))
  go_ret
  exact ⟨rfl, HBW7.out.trans ((HB8.out.trans (HB9.out.mono HB8.out.size)).mono HBW7.out.size)⟩
end Go.Proofs.Ytelephoalpphkaa
end
section
/- A history in new memory, checked; the walk of AuditRules. No conditions. -/
set_option maxRecDepth 8000
namespace Go.Proofs.Ytelephoalpphkaa
open Go.ChangeShapes Go.WideShapes Go.ChangeAt Go.RowKit
set_option linter.unusedVariables false
set_option linter.unusedSimpArgs false
namespace Au
theorem Tw.mem {w : World} {h : List Ev} {k : Nat} {X : Option Addr} {c : Nat} {hs : List Ev} {wr : World} (t : Tw w h k X c hs wr) {x : Ev} (hx : x ∈ hs) : ∃ e ∈ h, bare x = bare e := by
  have h1 : bare x ∈ (h.take k).map bare := by rw [← t.b]; exact List.mem_map_of_mem hx
  obtain ⟨e, he, h2⟩ := List.mem_map.1 h1
  exact ⟨e, List.mem_of_mem_take he, h2.symm⟩
theorem bare_cl {a b : Ev} (h : bare a = bare b) : a.cl = b.cl := by show (bare a).cl = (bare b).cl; rw [h]
theorem bare_res {a b : Ev} (h : bare a = bare b) : a.res = b.res := by show (bare a).res = (bare b).res; rw [h]
theorem bare_op {a b : Ev} (h : bare a = bare b) : a.op = b.op := by show (bare a).op = (bare b).op; rw [h]
theorem bare_cut {a b : Ev} (h : bare a = bare b) : a.cut = b.cut := by show (bare a).cut = (bare b).cut; rw [h]
theorem Tw.finds {w : World} {h : List Ev} {X : Option Addr} {c : Nat} {hs : List Ev} {wr : World} (t : Tw w h h.length X c hs wr) (ws : List Vec.Ent) : findL hs ws = findL h ws :=
  findL_congr (by rw [t.b, List.take_length]) ws
end Au
/-- a history in new memory is checked -/
theorem twCheck_any {w0 : World} {h : List Au.Ev} {X : Option Addr} {c : Nat} {hs : List Au.Ev} {w3 w4 : World} (t : Au.Tw w0 h h.length X c hs w3) (hb : Below w3.heap.size w3 w4) {A2 : Option Addr} {c2 : Nat} {ws : List Vec.Ent}
    (hw : Mem.Rd w4 w4.heap.size A2 (ws.flatMap Vec.entCells)) (hwl : ws.length ≤ c2) (hwc : c2 ≤ 9223372036854775807) (hn : h.length ≤ 1000000) (hd : ∀ e ∈ h, Au.okI e.cl ∧ e.res.length ≤ 703687441776) :
    Calls Try.prog 12 #[.slice X h.length c, .slice A2 ws.length c2] w4 fun x w' => ∃ Y cy, x = .returned (.slice Y (Au.findL h ws).length cy) ∧ Mem.Own w' 50 2 Y (Au.findL h ws).length cy ((Au.findL h ws).flatMap Au.fiCells) ∧ Mem.From w4.heap.size Y ∧ Below w4.heap.size w4 w' := by
  have hl := t.len
  rw [← t.finds ws, ← hl]
  refine checkL_any ((t.o.rd.below hb).more hb.size) hw (fun e he => ?_) t.o.le hwl t.o.cap hwc (by omega)
  obtain ⟨e0, he0, hbe⟩ := t.mem he
  refine ⟨((t.e e he).below hb).ok, ?_, ?_⟩
  · rw [Au.bare_cl hbe]; exact (hd e0 he0).1
  · rw [Au.bare_res hbe]; exact (hd e0 he0).2
namespace Au
/-- the place at which a history is cut -/
theorem cut_nums {L : Nat} (h : L ≤ 360) (t : Int) : ∃ n : Nat, n ≤ L ∧ (wrap64 (wrap64 (Int.tmod t ((L : Int) + 1) + L) + 1)).tmod ((L : Int) + 1) = n := by
  have h1 : -((L : Int) + 1) < Int.tmod t ((L : Int) + 1) ∧ Int.tmod t ((L : Int) + 1) < (L : Int) + 1 := by
    refine ⟨?_, Int.tmod_lt_of_pos _ (by omega)⟩
    rcases Int.le_total 0 t with h | h
    · have := Int.tmod_nonneg ((L : Int) + 1) h; omega
    · have h2 := Int.tmod_lt_of_pos (-t) (b := (L : Int) + 1) (by omega)
      rw [Int.neg_tmod] at h2
      omega
  have h2 : wrap64 (Int.tmod t ((L : Int) + 1) + L) = Int.tmod t ((L : Int) + 1) + L := IntWalk.wrap64_in _ (by omega)
  have h3 : wrap64 (Int.tmod t ((L : Int) + 1) + L + 1) = Int.tmod t ((L : Int) + 1) + L + 1 := IntWalk.wrap64_in _ (by omega)
  rw [h2, h3]
  have h4 := Int.tmod_nonneg (a := Int.tmod t ((L : Int) + 1) + L + 1) ((L : Int) + 1) (by omega)
  have h5 := Int.tmod_lt_of_pos (Int.tmod t ((L : Int) + 1) + L + 1) (b := (L : Int) + 1) (by omega)
  exact ⟨(Int.tmod (Int.tmod t ((L : Int) + 1) + L + 1) ((L : Int) + 1)).toNat, by omega, by omega⟩
def wantL (n : Nat) (l : List Fi) : List Fi := l.filter fun f => decide (f.ev < (n : Int))
theorem want_snoc (n : Nat) (l : List Fi) (f : Fi) : wantL n (l ++ [f]) = wantL n l ++ (if f.ev < (n : Int) then [f] else []) := by
  unfold wantL
  rw [List.filter_append, List.filter_cons]
  by_cases h : f.ev < (n : Int)
  · rw [if_pos h, if_pos (by simpa using h)]; rfl
  · rw [if_neg h, if_neg (by simpa using h)]; rfl
structure RuRel (w : World) (n : Nat) (l : List Fi) (X : Option Addr) (v9 vi : Value) (wr : World) : Prop where
  out : ∃ (k : Nat) (Y : Option Addr) (c : Nat), k ≤ l.length ∧ v9 = .slice Y (wantL n (l.take k)).length c ∧ vi = .int .i64 k ∧ Hid (Mem.Own wr 50 2 Y (wantL n (l.take k)).length c ((wantL n (l.take k)).flatMap fiCells)) ∧ Hid (Mem.From w.heap.size Y) ∧
    Hid (Mem.Rd wr wr.heap.size X (l.flatMap fiCells)) ∧ Hid (∀ q, Mem.blk Y = some q → Mem.blk X ≠ some q) ∧ Hid (Below w.heap.size w wr)
end Au
namespace auditRulesOpen
open Au
set_option maxRecDepth 20000 in
set_option maxHeartbeats 8000000 in
theorem walk (A : Option Addr) (c : Nat) (h : List Ev) (A2 : Option Addr) (c2 : Nat) (ws : List Vec.Ent) (kk : Int) (w : World) (hr : Mem.Rd w w.heap.size A (h.flatMap evCells)) (hr2 : Mem.Rd w w.heap.size A2 (ws.flatMap Vec.entCells)) (hl : h.length ≤ c) (hc : c ≤ 8796093022208) (hn2 : ws.length ≤ 8796093022208) (hd : ∀ e ∈ h, EvIn w e) (hd2 : ∀ e ∈ ws, Vec.EntIn e) :
    Calls Try.prog 6 #[.slice A h.length c, .slice A2 ws.length c2, .int .i64 kk] w fun e w' => e = .returned (.bool true) ∧ Below w.heap.size w w' := by
  go_enter Try.func6, Try.ntmps6
  have HR := Lib.hid hr
  have HD := Lib.hid hd
  have HR2 := Lib.hid hr2
  have HD2 := Lib.hid hd2
  clear hr hd hr2 hd2
  go_wp2_with fail
  refine (auditAble_any w).mono ?_
  rintro x w1 ⟨rfl, hb1⟩
  have HB1 := Lib.hid hb1
  clear hb1
  go_wp2_with fail
  refine (muchA_any A c h A2 c2 ws w w1 HR.out HR2.out (by omega) (by omega) HD.out HD2.out HB1.out).mono ?_
  rintro x w2 ⟨b, rfl, hbn, hb2⟩
  have HB2 := Lib.hid (HB1.out.trans (hb2.mono HB1.out.size))
  clear hb2 HB1
  by_cases hyes : b = true
  · subst hyes
    go_wp2
    go_ret
    exact ⟨rfl, HB2.out⟩
  · obtain rfl : b = false := by cases b; rfl; exact absurd rfl hyes
    have hn3 : h.length + ws.length ≤ 360 := hbn rfl
    clear hyes hbn
    have hol := Vec.ents_len ws
    have hoo := Vec.ents_one ws
    have HIN : Hid (∀ e ∈ h, okI e.cl ∧ e.res.length ≤ 703687441776) := fun e he => ⟨(HD.out e he).cl, (HD.out e he).rn⟩
    have HTK : Hid (∀ e ∈ h, EvOk w w.heap.size e ∧ e.keys.length ≤ 8796093022208 ∧ e.res.length ≤ 703687441776) := fun e he => ⟨(HD.out e he).ok, (HD.out e he).kn, (HD.out e he).rn⟩
    obtain ⟨l, hl0⟩ : ∃ l, findL h ws = l := ⟨_, rfl⟩
    have HLD := Lib.hid hl0
    clear hl0
    go_upto_region 6 with (first
      | (go_at_call 11; (refine (twin_any A c h w.heap.size w w2 HR.out HTK.out (by omega) HB2.out HB2.out.size).mono ?_); rintro x w3 ⟨X3, c3, hs3, rfl, ht3⟩; have HT3 := Lib.hid ht3; have HB3 := Lib.hid (HB2.out.trans (ht3.bl.mono HB2.out.size)); clear ht3)
      | (at_builtin; refine Mem.wpList_clone _ rfl (.tmp 18) (.tmp 19) _ rfl entries_elem _ rfl w3 w3.heap.size A2 ws.length c2 (ws.flatMap Vec.entCells) rfl ?_ rfl (Below.refl _ _) (Nat.le_refl _) ((HR2.out.below HB3.out).more HB3.out.size) hol hoo (by unfold maxLen; omega) (by omega); intro A4 c4 w4 hown hb4 hs4 hf4; have HO4 := Lib.hid hown; have HB4 := Lib.hid hb4; clear hown hb4 hs4 hf4)
      | (go_at_call 12; (refine (twCheck_any HT3.out HB4.out HO4.out.rd HO4.out.le HO4.out.cap (by omega) HIN.out).mono ?_); rintro x w5 ⟨X5, c5, rfl, ho5, hf5, hb5⟩; have HO5 := Lib.hid ho5; have HF5 := Lib.hid hf5; have HB5 := Lib.hid (HB3.out.trans ((HB4.out.trans (hb5.mono HB4.out.size)).mono HB3.out.size)); clear ho5 hf5 hb5))
    rw [HLD.out] at HO5
    rw [HLD.out]
    clear HT3 HB3 HB4 HO4
    have HNF : Hid (∀ h' : List Ev, h'.length ≤ h.length → (findL h' ws).length ≤ 1000000000) := fun h' hh => by
      rw [findL_eq]
      have h1 := stC_le (kOf h' ws) h'.length
      omega
    have hl9 : l.length ≤ 1000000000 := by rw [← HLD.out]; exact HNF.out h (Nat.le_refl _)
    have HFI : Hid (∀ f ∈ l, 0 ≤ f.ev ∧ f.ev < (h.length : Int) ∧ 1 ≤ f.rule ∧ f.rule ≤ 9) := by show ∀ f ∈ l, _; rw [← HLD.out, findL_eq]; exact fi_in _ _
    have HUP : Hid (l.Pairwise fiLt) := by show List.Pairwise _ _; rw [← HLD.out, findL_eq]; exact fi_up _ _
    by_cases hL : h.length = 0
    · obtain rfl : l = [] := by
        refine List.eq_nil_of_length_eq_zero ?_
        rw [← HLD.out, findL_eq]
        have := stC_le (kOf h ws) h.length
        omega
      have d7 : decide (0 < h.length) = false := decide_eq_false (by omega)
      have d70 : (0 < h.length) = False := eq_false (by omega)
      have HNL : Hid (0 ≤ h.length) := Nat.zero_le _
      have HWT : Hid (wantL 0 ([] : List Fi) = findL (h.take 0) ws) := rfl
      clear hL
      go_wp2
      go_loopw [9, 10] (RuRel w 0 [] X5) (fun _ t _ => 1 - (intOf t).toNat)
      case atStart => exact ⟨⟨0, none, 0, by omega, rfl, rfl, Mem.Own.nil _ _ _, Mem.From.none_ _, HO5.out.rd, (fun q hq => by cases hq), HB5⟩⟩
      case round =>
        clear HO5 HB5
        obtain ⟨k, Y, cy, hk, rfl, rfl, HO, HF, HRX, HX, HB⟩ := hrel.out
        clear hrel
        obtain rfl : k = 0 := Nat.le_zero.1 hk
        have hwt : wantL 0 (([] : List Fi).take 0) = findL (h.take 0) ws := HWT.out
        rw [hwt] at HO ⊢
        clear hwt
        have HTN : Hid (∀ e ∈ h.take 0, EvOk wr w.heap.size e ∧ e.keys.length ≤ 8796093022208 ∧ e.res.length ≤ 703687441776) := fun e he => ⟨((HTK.out e (List.mem_of_mem_take he)).1.below HB.out (Nat.le_refl _)), (HTK.out e (List.mem_of_mem_take he)).2⟩
        have HIN2 : Hid (∀ e ∈ h.take 0, okI e.cl ∧ e.res.length ≤ 703687441776) := fun e he => HIN.out e (List.mem_of_mem_take he)
        have htl : (h.take 0).length = 0 := by rw [List.length_take]; exact Nat.min_eq_left HNL.out
        have HTL := Lib.hid htl
        have htn : 0 ≤ 360 := by have := HNL.out; omega
        have HRD : Hid (Mem.Rd wr w.heap.size A ((h.take 0).flatMap evCells)) := by
          have h1 := (HR.out.below HB.out).take (0 * 20)
          rw [Mem.flat_take evCells_length] at h1
          exact h1
        have hnc : 0 ≤ c := by have := HNL.out; omega
        have s5 := fun s => sliced_front (A := A) (c := c) s 0
        have HTWN : Hid (Calls Try.prog 11 #[.slice A 0 c] wr fun x w' => ∃ X c hs, x = .returned (.slice X 0 c) ∧ Tw wr (h.take 0) (h.take 0).length X c hs w') := by
          have h1 := twin_any A c (h.take 0) w.heap.size wr wr HRD.out HTN.out (by rw [HTL.out]; omega) (Below.refl _ _) HB.out.size
          rw [HTL.out] at h1
          refine h1.mono ?_
          rintro x w' ⟨X, c, hs, hx, ht⟩
          rw [HTL.out] at hx ht
          exact ⟨X, c, hs, hx, by rw [HTL.out]; exact ht⟩
        clear htl
        go_wp2_with (first
          | (go_at_call 11; (refine HTWN.out.mono ?_); rintro x w6 ⟨X6, c6, hs6, rfl, ht6⟩; have HT6 := Lib.hid ht6; have HB6 := Lib.hid (HB.out.trans (ht6.bl.mono HB.out.size)); clear ht6)
          | (at_builtin; refine Mem.wpList_clone _ rfl (.tmp 139) (.tmp 140) _ rfl entries_elem _ rfl w6 w6.heap.size A2 ws.length c2 (ws.flatMap Vec.entCells) rfl ?_ rfl (Below.refl _ _) (Nat.le_refl _) ((HR2.out.below HB6.out).more HB6.out.size) hol hoo (by unfold maxLen; omega) (by omega); intro A7 c7 w7 hown hb7 hs7 hf7; have HO7 := Lib.hid hown; have HB7 := Lib.hid hb7; clear hown hb7 hs7 hf7)
          | (go_at_call 12; (have HCC := Lib.hid (twCheck_any HT6.out HB7.out HO7.out.rd HO7.out.le HO7.out.cap (by rw [HTL.out]; omega) HIN2.out)); rw [HTL.out] at HCC; (refine HCC.out.mono ?_); rintro x w8 ⟨X8, c8, rfl, ho8, hf8, hb8⟩; have HO8 := Lib.hid ho8; have HB68 := Lib.hid (HB7.out.trans (hb8.mono HB7.out.size)); have HB8 := Lib.hid (HB6.out.trans (HB68.out.mono HB6.out.size)); have HR68 := Lib.hid (HB68.out.mono HT6.out.bl.size); have HBS := Lib.hid (Nat.le_trans HT6.out.bl.size HB68.out.size); clear ho8 hf8 hb8 HCC)
          | (go_at_call 13; (refine (findings_any Y cy (findL (h.take 0) ws) X8 c8 (findL (h.take 0) ws) w8.heap.size w8 ?hfa HO8.out.rd (Nat.le_refl _) ?hfb ?hfc).mono ?_); (case hfa => exact (HO.out.rd.below (HT6.out.bl.trans HR68.out)).more HBS.out); (case hfb => exact HNF.out (h.take 0) (List.length_take_le' _ _)); (case hfc => exact HNF.out (h.take 0) (List.length_take_le' _ _)); rintro x w9 ⟨bb, rfl, hbb, hb9⟩; have HB9 := Lib.hid (HB8.out.trans (hb9.mono HB8.out.size)); have HBB := Lib.hid hbb; clear hbb hb9))
        obtain rfl : bb = true := by first | exact HBB.out.2 rfl | exact HBB.out.2 trivial
        go_ret
        exact ⟨rfl, HB9.out⟩
    · have d7 : decide ((0 : Int) < (h.length : Int)) = true := by simp; omega
      have hLne : ((h.length : Int) + 1) ≠ 0 := by omega
      have hL63 : wrap64 ((h.length : Int) + 1) = (h.length : Int) + 1 := IntWalk.wrap64_in _ (by omega)
      go_upto_region 9 with fail
      obtain ⟨n, hnl, hne⟩ := cut_nums (L := h.length) (by omega) kk
      rw [hne]
      have HNL := Lib.hid hnl
      have HWT : Hid (wantL n l = findL (h.take n) ws) := by show _ = _; rw [← findL_take h ws n hnl, HLD.out]; rfl
      clear hne hnl d7 hLne hL63 hL
      generalize decide (0 < h.length) = b24
      go_wp2
      go_loopw [9, 10] (RuRel w n l X5) (fun _ t _ => l.length - (intOf t).toNat)
      case atStart => exact ⟨⟨0, none, 0, by omega, rfl, rfl, Mem.Own.nil _ _ _, Mem.From.none_ _, HO5.out.rd, (fun q hq => by cases hq), HB5⟩⟩
      case round =>
        clear HO5 HB5
        obtain ⟨k, Y, cy, hk, rfl, rfl, HO, HF, HRX, HX, HB⟩ := hrel.out
        clear hrel
        by_cases hlt : k < l.length
        · obtain ⟨b, o, f, rfl, hb, hf, hat⟩ := fi_elem HRX.out hlt
          have d0 : decide ((k : Int) < (l.length : Int)) = true := by simp; omega
          have x0 : wr.cell? ⟨b, o + k * 2, none⟩ = some (.int .i64 f.ev) := hat 0 _ rfl
          have x1 : wr.cell? ⟨b, o + k * 2 + 1, none⟩ = some (.int .i64 f.rule) := hat 1 _ rfl
          have hfi := HFI.out f (List.mem_of_getElem? hf)
          have d1 : decide (f.ev < 0) = false := by simp; omega
          have d2 : decide ((h.length : Int) ≤ f.ev) = false := by simp; omega
          have d3 : decide (f.rule < 1) = false := by simp; omega
          have d4 : decide (9 < f.rule) = false := by simp; omega
          have HLT := Lib.hid hlt
          have HFK := Lib.hid hf
          have HAT := Lib.hid hat
          have HW1 := Lib.hid (show wantL n (l.take (k + 1)) = wantL n (l.take k) ++ (if f.ev < (n : Int) then [f] else []) by rw [Mem.take_snoc hf, want_snoc])
          have HWL : Hid ((wantL n (l.take k)).length + 1 ≤ 1000000001) := by
            have h1 := List.length_filter_le (fun f : Fi => decide (f.ev < (n : Int))) (l.take k)
            have h2 := List.length_take_le k l
            show (wantL n (l.take k)).length + 1 ≤ _
            unfold wantL
            omega
          go_upto_region 15 with fail
          go_cut [119] (fun v wx => v = .bool false ∧ Below wr.heap.size wr wx)
          case first =>
            clear x1 d1 d2 d3 d4 hfi
            match k, hk, HFK, HLT, HAT with
            | 0, hk, HFK, HLT, HAT =>
              go_wp2
              go_quiet (fail)
              go_wp2
              go_meet
              case rel => exact ⟨rfl, Mem.below_drewN (Below.refl _ _) _⟩
            | j + 1, hk, HFK, HLT, HAT =>
              obtain ⟨b2, o2, g, hA2, _, hg, hat2⟩ := fi_elem HRX.out (show j < l.length by omega)
              obtain ⟨rfl, rfl⟩ : b2 = b ∧ o2 = o := by cases hA2; exact ⟨rfl, rfl⟩
              have y0 : wr.cell? ⟨b2, o2 + j * 2, none⟩ = some (.int .i64 g.ev) := hat2 0 _ rfl
              have y1 : wr.cell? ⟨b2, o2 + j * 2 + 1, none⟩ = some (.int .i64 g.rule) := hat2 1 _ rfl
              have x0 : wr.cell? ⟨b2, o2 + (j + 1) * 2, none⟩ = some (.int .i64 f.ev) := HAT.out 0 _ rfl
              have x1 : wr.cell? ⟨b2, o2 + (j + 1) * 2 + 1, none⟩ = some (.int .i64 f.rule) := HAT.out 1 _ rfl
              have hgf : fiLt g f := by
                have h1 := List.pairwise_iff_getElem.1 HUP.out j (j + 1) (by omega) HLT.out (by omega)
                obtain ⟨_, h2⟩ := List.getElem?_eq_some_iff.1 hg
                obtain ⟨_, h3⟩ := List.getElem?_eq_some_iff.1 HFK.out
                rwa [h2, h3] at h1
              have hlj : j + 1 < l.length := HLT.out
              have hw : IntKind.i64.wrap (((j + 1 : Nat) : Int) - 1) = (j : Int) := by rw [IntWalk.i64_in _ (by omega)]; omega
              have d5 : decide (f.ev < g.ev) = false := by unfold fiLt at hgf; simp; omega
              by_cases he6 : f.ev = g.ev
              · have d6 : (f.ev == g.ev) = true := by simpa using he6
                have d7 : decide (f.rule ≤ g.rule) = false := by unfold fiLt at hgf; simp; omega
                clear hA2 hg hat2 hgf he6
                go_wp2
                go_quiet (fail)
                go_wp2
                go_meet
                case rel => exact ⟨rfl, Mem.below_drewN (Below.refl _ _) _⟩
              · have d6 : (f.ev == g.ev) = false := by simpa using he6
                clear hA2 hg hat2 hgf he6
                go_wp2
                go_quiet (fail)
                go_wp2
                go_meet
                case rel => exact ⟨rfl, Mem.below_drewN (Below.refl _ _) _⟩
          case rest =>
            obtain ⟨rfl, hbc⟩ := hcut
            rename World => wy
            have HZY := Lib.hid hbc.size
            have x0' : wy.cell? ⟨b, o + k * 2, none⟩ = some (.int .i64 f.ev) := (hbc.cell (p := ⟨b, o + k * 2, none⟩) hb).trans x0
            have HATY : Hid (∀ j u, (fiCells f)[j]? = some u → wy.cell? ⟨b, o + k * 2 + j, none⟩ = some u) := fun j u hu => (hbc.cell (p := ⟨b, o + k * 2 + j, none⟩) hb).trans (HAT.out j u hu)
            have HOY := Lib.hid (HO.out.below hbc (fun q hq => HO.out.lt hq))
            have HRY : Hid (Mem.Rd wy wy.heap.size (some ⟨b, o, none⟩) (l.flatMap fiCells)) := (HRX.out.below hbc).more hbc.size
            have HBY : Hid (Below w.heap.size w wy) := HB.out.trans (hbc.mono HB.out.size)
            clear hbc x0 x1 d1 d2 d3 d4 hfi hat hf HO HRX HB
            by_cases hfn : f.ev < (n : Int)
            · have d8 : decide (f.ev < (n : Int)) = true := by simpa using hfn
              have HW2 : Hid (wantL n (l.take (k + 1)) = wantL n (l.take k) ++ [f]) := by show _ = _; rw [HW1.out, if_pos hfn]
              have hn63 : (wantL n (l.take k)).length + 1 ≤ maxLen := by have := HWL.out; unfold maxLen; omega
              have hn47 : ((wantL n (l.take k)).length + 1) * 16 ≤ 140737488355328 := by have := HWL.out; omega
              clear hfn HW1
              go_upto_region 12 with (first
                | ((with_reducible refine Mem.load_agg _ _ finding_agg b (o + k * 2) (fiCells f) ?hx (fiCells_length f) HATY.out ?_); case hx => exact rfl)
                | ((with_reducible refine Mem.build1_agg _ _ 2 _ Try.underlying36 finding_zero (by decide) (by decide) (fiCells f) ?hra (fiCells_length _) ?_); (case hra => exact rfl))
                | (at_builtin; refine Mem.wpList_app _ rfl (.tmp 127) (.tmp 132) _ rfl findings_elem Y (wantL n (l.take k)).length cy _ rfl (wy.heap.size + 1) (some ⟨wy.heap.size, 0, none⟩) 1 1 (fiCells f) rfl ?_ (HOY.out.alloc _) (Mem.Rd.alloc_new wy _ _ _ rfl) rfl (fi_one _) hn63 hn47; intro Y3 c3 w9 hown hg4 hat9; have HO9 := Lib.hid hown; have HG9 := Lib.hid hg4; have HAT9 := Lib.hid hat9; clear hown hg4 hat9))
              have hk9 : Mem.Keeps (fun q => Mem.blk Y = some q) wy w9 := ((Mem.Keeps.refl (fun q => Mem.blk Y = some q) wy).alloc _).grown HG9.out (fun k hk _ => hk)
              have hz9 : (wy.alloc (.cells (fiCells f).toArray 50)).heap.size = wy.heap.size + 1 := Array.size_push _
              have HB9 : Hid (Below w.heap.size w w9) := HBY.out.trans (hk9.below (fun q hq => HF.out.blk q hq) HBY.out.size)
              have HR9 : Hid (Mem.Rd w9 w9.heap.size (some ⟨b, o, none⟩) (l.flatMap fiCells)) := HRY.out.keepsAt hk9 (Nat.le_refl _) (fun q hq h => HX.out q h hq)
              have HF9 : Hid (Mem.From w.heap.size Y3 ∧ ∀ q, Mem.blk Y3 = some q → Mem.blk (some (⟨b, o, none⟩ : Addr)) ≠ some q) := by
                rcases HAT9.out with h1 | h1
                · rw [h1]; exact ⟨HF.out, HX.out⟩
                · rw [h1]
                  have h2 := HBY.out.size
                  refine ⟨Mem.From.some_ (by omega), fun q hq h3 => ?_⟩
                  have h4 : wy.heap.size ≤ q := Nat.le_trans (Nat.le_trans (Nat.le_succ _) (Nat.le_of_eq hz9.symm)) (Nat.le_of_eq (Option.some.inj hq))
                  have h5 : b = q := Option.some.inj h3
                  have h6 : b < wr.heap.size := hb
                  have h7 : wr.heap.size ≤ wy.heap.size := HZY.out
                  omega
              have e1 : (wantL n (l.take (k + 1))).length = (wantL n (l.take k)).length + 1 := by rw [HW2.out]; exact List.length_append
              have HO10 : Hid (Mem.Own w9 50 2 Y3 (wantL n (l.take (k + 1))).length c3 ((wantL n (l.take (k + 1))).flatMap fiCells)) := by
                show Mem.Own _ _ _ _ _ _ _
                rw [e1, HW2.out, List.flatMap_append]
                exact HO9.out
              have E1 := Lib.hid e1
              clear hk9 hz9 e1 HO9 HG9 HAT9 hn63 hn47 HOY HRY HBY
              go_wp2
              go_roundw
              case rel => exact ⟨⟨k + 1, Y3, c3, HLT.out, by rw [E1.out], by go_num, HO10, HF9.out.1, HR9, HF9.out.2, HB9⟩⟩
              case measure => exact Au.meas_lt HLT.out
            · have d8 : decide (f.ev < (n : Int)) = false := by simpa using hfn
              have HW2 : Hid (wantL n (l.take (k + 1)) = wantL n (l.take k)) := by show _ = _; rw [HW1.out, if_neg hfn, List.append_nil]
              clear hfn HW1
              go_wp2
              go_roundw
              case rel => exact ⟨⟨k + 1, Y, cy, HLT.out, by rw [HW2.out], by go_num, by rw [HW2.out]; exact HOY, HF, HRY, HX, HBY⟩⟩
              case measure => exact Au.meas_lt HLT.out
        · obtain rfl : k = l.length := by omega
          have d0 : decide ((l.length : Int) < (l.length : Int)) = false := by simp
          have hwt : wantL n (l.take l.length) = findL (h.take n) ws := by rw [List.take_length]; exact HWT.out
          rw [hwt] at HO ⊢
          clear hwt
          have HTN : Hid (∀ e ∈ h.take n, EvOk wr w.heap.size e ∧ e.keys.length ≤ 8796093022208 ∧ e.res.length ≤ 703687441776) := fun e he => ⟨((HTK.out e (List.mem_of_mem_take he)).1.below HB.out (Nat.le_refl _)), (HTK.out e (List.mem_of_mem_take he)).2⟩
          have HIN2 : Hid (∀ e ∈ h.take n, okI e.cl ∧ e.res.length ≤ 703687441776) := fun e he => HIN.out e (List.mem_of_mem_take he)
          have htl : (h.take n).length = n := by rw [List.length_take]; exact Nat.min_eq_left HNL.out
          have HTL := Lib.hid htl
          have htn : n ≤ 360 := by have := HNL.out; omega
          have HRD : Hid (Mem.Rd wr w.heap.size A ((h.take n).flatMap evCells)) := by
            have h1 := (HR.out.below HB.out).take (n * 20)
            rw [Mem.flat_take evCells_length] at h1
            exact h1
          have hnc : n ≤ c := by have := HNL.out; omega
          have s5 := fun s => sliced_front (A := A) (c := c) s n
          have HTWN : Hid (Calls Try.prog 11 #[.slice A n c] wr fun x w' => ∃ X c hs, x = .returned (.slice X n c) ∧ Tw wr (h.take n) (h.take n).length X c hs w') := by
            have h1 := twin_any A c (h.take n) w.heap.size wr wr HRD.out HTN.out (by rw [HTL.out]; omega) (Below.refl _ _) HB.out.size
            rw [HTL.out] at h1
            refine h1.mono ?_
            rintro x w' ⟨X, c, hs, hx, ht⟩
            rw [HTL.out] at hx ht
            exact ⟨X, c, hs, hx, by rw [HTL.out]; exact ht⟩
          clear htl
          go_wp2_with (first
            | (go_at_call 11; (refine HTWN.out.mono ?_); rintro x w6 ⟨X6, c6, hs6, rfl, ht6⟩; have HT6 := Lib.hid ht6; have HB6 := Lib.hid (HB.out.trans (ht6.bl.mono HB.out.size)); clear ht6)
            | (at_builtin; refine Mem.wpList_clone _ rfl (.tmp 139) (.tmp 140) _ rfl entries_elem _ rfl w6 w6.heap.size A2 ws.length c2 (ws.flatMap Vec.entCells) rfl ?_ rfl (Below.refl _ _) (Nat.le_refl _) ((HR2.out.below HB6.out).more HB6.out.size) hol hoo (by unfold maxLen; omega) (by omega); intro A7 c7 w7 hown hb7 hs7 hf7; have HO7 := Lib.hid hown; have HB7 := Lib.hid hb7; clear hown hb7 hs7 hf7)
            | (go_at_call 12; (have HCC := Lib.hid (twCheck_any HT6.out HB7.out HO7.out.rd HO7.out.le HO7.out.cap (by rw [HTL.out]; omega) HIN2.out)); rw [HTL.out] at HCC; (refine HCC.out.mono ?_); rintro x w8 ⟨X8, c8, rfl, ho8, hf8, hb8⟩; have HO8 := Lib.hid ho8; have HB68 := Lib.hid (HB7.out.trans (hb8.mono HB7.out.size)); have HB8 := Lib.hid (HB6.out.trans (HB68.out.mono HB6.out.size)); have HR68 := Lib.hid (HB68.out.mono HT6.out.bl.size); have HBS := Lib.hid (Nat.le_trans HT6.out.bl.size HB68.out.size); clear ho8 hf8 hb8 HCC)
            | (go_at_call 13; (refine (findings_any Y cy (findL (h.take n) ws) X8 c8 (findL (h.take n) ws) w8.heap.size w8 ?hfa HO8.out.rd (Nat.le_refl _) ?hfb ?hfc).mono ?_); (case hfa => exact (HO.out.rd.below (HT6.out.bl.trans HR68.out)).more HBS.out); (case hfb => exact HNF.out (h.take n) (List.length_take_le' _ _)); (case hfc => exact HNF.out (h.take n) (List.length_take_le' _ _)); rintro x w9 ⟨bb, rfl, hbb, hb9⟩; have HB9 := Lib.hid (HB8.out.trans (hb9.mono HB8.out.size)); have HBB := Lib.hid hbb; clear hbb hb9))
          obtain rfl : bb = true := by first | exact HBB.out.2 rfl | exact HBB.out.2 trivial
          go_ret
          exact ⟨rfl, HB9.out⟩
set_option maxRecDepth 20000 in
theorem opened {H : Type} (enc : TypeId × Value → H) (W : World) (base : Nat) (v0 v1 v2 : Value) {d0 d1 d2 : DataW H} {p0 p1 p2 : List MemPlace}
    (o0 : Value.okWide Try.prog W .any base 22 v0) (o1 : Value.okWide Try.prog W .any base 23 v1) (o2 : Value.okWide Try.prog W .any base 3 v2)
    (k0 : DataW.Trod enc Try.prog W 0 (fun _ => true) true 22 v0 d0 p0) (k1 : DataW.Trod enc Try.prog W 0 (fun _ => true) true 23 v1 d1 p1) (k2 : DataW.Trod enc Try.prog W 0 (fun _ => true) true 3 v2 d2 p2)
    (z0 : (d0.weights Try.prog 22).all (· ≤ reachBytes) = true) (z1 : (d1.weights Try.prog 23).all (· ≤ reachBytes) = true) (z2 : (d2.weights Try.prog 3).all (· ≤ reachBytes) = true) :
    Calls Try.prog 6 #[v0, v1, v2] W fun e w' => e = .returned (.bool true) ∧ Below W.heap.size W w' := by
  obtain ⟨A, c, h, rfl, h1, h2, h3, h4⟩ := open_events o0 k0 z0
  obtain ⟨A2, c2, ws, rfl, g1, g2, g3, g4⟩ := open_ents o1 k1 z1
  obtain ⟨n, rfl⟩ := okWide_int Try.underlying3 o2
  exact walk A c h A2 c2 ws n W h3 g3 h1 h2 (by omega) h4 g4
end auditRulesOpen
end Go.Proofs.Ytelephoalpphkaa
end
