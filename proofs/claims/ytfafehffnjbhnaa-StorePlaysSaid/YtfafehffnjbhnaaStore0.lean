/- A store in memory: the struct, its map, its lists. Plain lemmas. -/
import Derived.Test.YtfafehffnjbhnaaMap
import Derived.Test.YtfafehffnjbhnaaSlIx
import Derived.StringKeys
namespace Go.Proofs.Ytfafehffnjbhnaa
open Go.RowKit
set_option linter.unusedVariables false
set_option linter.unusedSimpArgs false
namespace Sto
/-- a key and its versions -/
structure Ls where
  k : ByteArray
  es : List Vec.Ent
/-- .. in memory -/
structure LR where
  l : Ls
  A : Option Addr
  c : Nat
def LR.fp (r : LR) (k : Nat) : Prop := Mem.blk r.A = some k
def ent (r : LR) : ByteArray × Value := (r.l.k, .slice r.A r.l.es.length r.c)
def okS (s : ByteArray) : Prop := s.size ≤ maxLen
abbrev sCells (rng : Int) (b : Nat) (mk : Vec.Col) : List Value := [.int .i64 rng, .map (some b), .int .i64 mk.a, .int .i64 mk.b, .int .i64 mk.c]
structure Sep (g b : Nat) (rs : List LR) : Prop where
  gb : g ≠ b
  f : ∀ r ∈ rs, ∀ k, r.fp k → k ≠ g ∧ k ≠ b
  p : rs.Pairwise (fun r q => ∀ k, r.fp k → ¬ q.fp k)
structure SS (w : World) (g b : Nat) (rng : Int) (mk : Vec.Col) (rs : List LR) : Prop where
  B : Mem.Bx w 71 5 g (sCells rng b mk)
  M : Mem.MapIs Value.string okS w b (rs.map ent)
  O : ∀ r ∈ rs, Vec.EOwn w r.A r.c r.l.es
  S : Sep g b rs
def fpS (g b : Nat) (rs : List LR) (k : Nat) : Prop := k = g ∨ k = b ∨ ∃ r ∈ rs, r.fp k
section
variable {w w' : World} {g b : Nat} {rng : Int} {mk mk' : Vec.Col} {rs pre post : List LR} {r r' : LR} {S : Nat → Prop}
theorem SS.lt (h : SS w g b rng mk rs) {k : Nat} (hk : fpS g b rs k) : k < w.heap.size := by
  rcases hk with rfl | rfl | ⟨r, hr, hk⟩
  · exact h.B.lt
  · exact h.M.lt
  · exact (h.O r hr).lt hk
theorem SS.keeps (h : SS w g b rng mk rs) (hk : Mem.Keeps S w w') (hS : ∀ k, fpS g b rs k → ¬ S k) : SS w' g b rng mk rs :=
  ⟨h.B.keeps hk (hS _ (.inl rfl)), h.M.keeps hk (hS _ (.inr (.inl rfl))), fun r hr => (h.O r hr).keeps hk (fun k hf => hS k (.inr (.inr ⟨r, hr, hf⟩))), h.S⟩
theorem SS.below (h : SS w g b rng mk rs) (hk : Below w.heap.size w w') : SS w' g b rng mk rs := h.keeps (Mem.Keeps.of_below hk) (fun _ _ h => h)
/-- the mark is turned -/
theorem SS.mark (h : SS w g b rng mk rs) (hB : Mem.Bx w' 71 5 g (sCells rng b mk')) (hk : Mem.Keeps (fun k => k = g) w w') : SS w' g b rng mk' rs :=
  ⟨hB, h.M.keeps hk (fun e => h.S.gb e.symm), fun r hr => (h.O r hr).keeps hk (fun k hf => (h.S.f r hr k hf).1), h.S⟩
/-- a list is turned, the map told so -/
theorem SS.turn (h : SS w g b rng mk (pre ++ r :: post)) (hM : Mem.MapIs Value.string okS w' b ((pre ++ r' :: post).map ent)) (hO : Vec.EOwn w' r'.A r'.c r'.l.es)
    (hk : Mem.Keeps (fun k => k = b ∨ r.fp k) w w') (hq : ∀ k, r'.fp k → r.fp k ∨ w.heap.size ≤ k) :
    SS w' g b rng mk (pre ++ r' :: post) ∧ Mem.Keeps (fpS g b (pre ++ r :: post)) w w' ∧ ∀ k, fpS g b (pre ++ r' :: post) k → fpS g b (pre ++ r :: post) k ∨ w.heap.size ≤ k := by
  have hm : r ∈ pre ++ r :: post := by simp
  have hS := h.S
  have hg := hS.f r hm
  have hp := hS.p
  rw [List.pairwise_append, List.pairwise_cons] at hp
  obtain ⟨hp1, ⟨hp2, hp3⟩, hp4⟩ := hp
  have out : ∀ k, (∃ q ∈ pre ++ post, q.fp k) → ¬ r.fp k := by
    rintro k ⟨q, hq, hqk⟩ hr
    rcases List.mem_append.1 hq with hq | hq
    · exact hp4 q hq r List.mem_cons_self k hqk hr
    · exact hp2 q hq k hr hqk
  have hlt : ∀ q ∈ pre ++ r :: post, ∀ k, q.fp k → k < w.heap.size := fun q hq k hk => (h.O q hq).lt hk
  have hgl : g < w.heap.size := h.B.lt
  have hbl : b < w.heap.size := h.M.lt
  have keep : ∀ q ∈ pre ++ post, Vec.EOwn w' q.A q.c q.l.es := fun q hqm => by
    have hqm2 : q ∈ pre ++ r :: post := by rcases List.mem_append.1 hqm with h1 | h1 <;> simp [h1]
    refine (h.O q hqm2).keeps hk (fun k hf hs => ?_)
    rcases hs with hs | hs
    · exact (hS.f q hqm2 k hf).2 hs
    · exact out k ⟨q, hqm, hf⟩ hs
  refine ⟨⟨h.B.keeps hk (fun hr => hr.elim hS.gb (fun hr => (hg g hr).1 rfl)), hM, ?_, hS.gb, ?_, ?_⟩, hk.mono (fun k hr _ => hr.elim (fun h => .inr (.inl h)) (fun h => .inr (.inr ⟨r, hm, h⟩))), ?_⟩
  · intro q hqm
    rcases List.mem_append.1 hqm with hqm | hqm
    · exact keep q (List.mem_append_left _ hqm)
    · rcases List.mem_cons.1 hqm with rfl | hqm
      · exact hO
      · exact keep q (List.mem_append_right _ hqm)
  · intro q hqm k hqk
    rcases List.mem_append.1 hqm with hqm | hqm
    · exact hS.f q (List.mem_append_left _ hqm) k hqk
    · rcases List.mem_cons.1 hqm with rfl | hqm
      · rcases hq k hqk with h1 | h1
        · exact hg k h1
        · exact ⟨by omega, by omega⟩
      · exact hS.f q (List.mem_append_right _ (List.mem_cons_of_mem _ hqm)) k hqk
  · rw [List.pairwise_append, List.pairwise_cons]
    refine ⟨hp1, ⟨?_, hp3⟩, ?_⟩
    · intro q hqm k h1 h2
      rcases hq k h1 with h3 | h3
      · exact hp2 q hqm k h3 h2
      · have := hlt q (List.mem_append_right _ (List.mem_cons_of_mem _ hqm)) k h2; omega
    · intro q hqm s hs k h1 h2
      rcases List.mem_cons.1 hs with rfl | hs
      · rcases hq k h2 with h3 | h3
        · exact hp4 q hqm r List.mem_cons_self k h1 h3
        · have := hlt q (List.mem_append_left _ hqm) k h1; omega
      · exact hp4 q hqm s (List.mem_cons_of_mem _ hs) k h1 h2
  · rintro k (hk1 | hk1 | ⟨q, hqm, hqk⟩)
    · exact .inl (.inl hk1)
    · exact .inl (.inr (.inl hk1))
    · rcases List.mem_append.1 hqm with hqm | hqm
      · exact .inl (.inr (.inr ⟨q, List.mem_append_left _ hqm, hqk⟩))
      · rcases List.mem_cons.1 hqm with rfl | hqm
        · rcases hq k hqk with h1 | h1
          · exact .inl (.inr (.inr ⟨r, hm, h1⟩))
          · exact .inr h1
        · exact .inl (.inr (.inr ⟨q, List.mem_append_right _ (List.mem_cons_of_mem _ hqm), hqk⟩))
/-- a list is laid in -/
theorem SS.add (h : SS w g b rng mk rs) (hM : Mem.MapIs Value.string okS w' b ((rs ++ [r]).map ent)) (hO : Vec.EOwn w' r.A r.c r.l.es) (hk : Mem.Keeps (fun k => k = b) w w') (hq : ∀ k, r.fp k → w.heap.size ≤ k) :
    SS w' g b rng mk (rs ++ [r]) ∧ Mem.Keeps (fpS g b rs) w w' ∧ ∀ k, fpS g b (rs ++ [r]) k → fpS g b rs k ∨ w.heap.size ≤ k := by
  have hS := h.S
  refine ⟨⟨h.B.keeps hk hS.gb, hM, ?_, hS.gb, ?_, ?_⟩, hk.mono (fun k hr _ => .inr (.inl hr)), ?_⟩
  · intro q hqm
    rcases List.mem_append.1 hqm with hqm | hqm
    · exact (h.O q hqm).keeps hk (fun k hf => (hS.f q hqm k hf).2)
    · rw [List.mem_singleton] at hqm; subst hqm; exact hO
  · intro q hqm k hqk
    rcases List.mem_append.1 hqm with hqm | hqm
    · exact hS.f q hqm k hqk
    · rw [List.mem_singleton] at hqm; subst hqm
      have h1 := hq k hqk
      have h2 := h.B.lt
      have h3 := h.M.lt
      exact ⟨by omega, by omega⟩
  · rw [List.pairwise_append]
    refine ⟨hS.p, List.pairwise_singleton _ _, ?_⟩
    intro q hqm s hs k h1 h2
    rw [List.mem_singleton] at hs; subst hs
    have := hq k h2
    have := (h.O q hqm).lt h1
    omega
  · rintro k (hk1 | hk1 | ⟨q, hqm, hqk⟩)
    · exact .inl (.inl hk1)
    · exact .inl (.inr (.inl hk1))
    · rcases List.mem_append.1 hqm with hqm | hqm
      · exact .inl (.inr (.inr ⟨q, hqm, hqk⟩))
      · rw [List.mem_singleton] at hqm; subst hqm; exact .inr (hq k hqk)
/-! plain -/
theorem SS.nodup (h : SS w g b rng mk rs) : (rs.map (·.l.k)).Nodup := by
  have := h.M.nodup
  rw [List.map_map] at this
  exact this
/-- a key's list -/
def findR (rs : List LR) (k : ByteArray) : Option LR := rs.find? fun r => decide (r.l.k = k)
def lsV : Option LR → Value
  | some r => .slice r.A r.l.es.length r.c
  | none => .slice none 0 0
abbrev lk (k : ByteArray) (l : List (ByteArray × Value)) : Option Value := @List.lookup ByteArray Value instBEqOfDecidableEq k l
theorem look_find (k : ByteArray) : ∀ rs : List LR, lk k (rs.map ent) = (findR rs k).map fun r => Value.slice r.A r.l.es.length r.c
  | [] => rfl
  | r :: rs => by
    unfold findR
    rw [List.map_cons, List.find?_cons]
    show @List.lookup ByteArray Value instBEqOfDecidableEq k ((r.l.k, _) :: _) = _
    unfold List.lookup
    by_cases h : r.l.k = k
    · have h1 : (@BEq.beq ByteArray instBEqOfDecidableEq k r.l.k) = true := by rw [h]; exact decide_eq_true rfl
      rw [h1]; simp [h]
    · have h1 : (@BEq.beq ByteArray instBEqOfDecidableEq k r.l.k) = false := decide_eq_false fun e => h e.symm
      have h2 : decide (r.l.k = k) = false := by simpa using h
      rw [h1, h2]
      exact look_find k rs
theorem find_split {k : ByteArray} (hr : findR rs k = some r) : ∃ pre post, rs = pre ++ r :: post ∧ r.l.k = k ∧ ∀ q ∈ pre, q.l.k ≠ k := by
  unfold findR at hr
  obtain ⟨h1, p1, p2, h2, h3⟩ := List.find?_eq_some_iff_append.1 hr
  exact ⟨p1, p2, h2, by simpa using h1, fun q hq e => by have := h3 q hq; simp [e] at this⟩
theorem find_none {k : ByteArray} (hr : findR rs k = none) : ∀ q ∈ rs, q.l.k ≠ k := by
  unfold findR at hr
  intro q hq e
  have := List.find?_eq_none.1 hr q hq
  simp [e] at this
theorem strKey : Mem.MKey Try.prog 9 Value.string okS := ⟨Maps.string_keyed Try.underlying9, fun h => by cases h; rfl, fun {x} hx => ⟨_, Go.WideMaps.keyOf_string_mk Try.underlying9 hx⟩⟩
theorem look_at (h : SS w g b rng mk rs) {k : ByteArray} (hn : okS k) : (Instr.lookup 69 (.map (some b)) (.string k) false).run Try.prog w = .ok (lsV (findR rs k)) w := by
  rw [h.M.look strKey Try.underlying69 (Try.zeroValue22 w) false hn, show @List.lookup ByteArray Value instBEqOfDecidableEq k (rs.map ent) = _ from look_find k rs]
  cases findR rs k <;> rfl
/-- the map's entry is put: the key is there -/
theorem putL_turn {k : ByteArray} {v : Value} (hr : r.l.k = k) (hr' : r'.l.k = k) (hv : (ent r').2 = v) (hn : ((pre ++ r :: post).map (·.l.k)).Nodup) : Mem.putL ((pre ++ r :: post).map ent) k v = (pre ++ r' :: post).map ent := by
  have hpre : ∀ q ∈ pre, q.l.k ≠ k := fun q hq e => by
    rw [List.map_append, List.nodup_append] at hn
    exact hn.2.2 q.l.k (List.mem_map.2 ⟨q, hq, rfl⟩) r.l.k (by simp) (by rw [e, hr])
  have hpost : ∀ q ∈ post, q.l.k ≠ k := fun q hq e => by
    rw [List.map_append, List.nodup_append, List.map_cons, List.nodup_cons] at hn
    exact hn.2.1.1 (List.mem_map.2 ⟨q, hq, by rw [e, hr]⟩)
  have hl : lk k ((pre ++ r :: post).map ent) = some (ent r).2 := by
    refine Mem.lookup_at (κ := ByteArray) (by rw [List.map_map]; exact hn) ?_
    rw [← hr]
    exact List.mem_map.2 ⟨r, by simp, rfl⟩
  have hid : ∀ l : List LR, (∀ q ∈ l, q.l.k ≠ k) → (l.map ent).map (fun p => if p.1 = k then (k, v) else p) = l.map ent := fun l hl => by
    rw [List.map_map]
    refine List.map_congr_left fun q hq => ?_
    show (if q.l.k = k then (k, v) else ent q) = ent q
    rw [if_neg (hl q hq)]
  unfold Mem.putL
  rw [show @List.lookup ByteArray Value instBEqOfDecidableEq k _ = _ from hl, Option.isSome_some, if_pos rfl, List.map_append, List.map_append, List.map_append, List.map_cons, List.map_cons, List.map_cons, hid pre hpre, hid post hpost]
  congr 2
  show (if r.l.k = k then (k, v) else ent r) = ent r'
  rw [if_pos hr, ← hv, ← hr']
  rfl
theorem putL_add {k : ByteArray} {v : Value} (hr : r.l.k = k) (hv : (ent r).2 = v) (hn : ∀ q ∈ rs, q.l.k ≠ k) : Mem.putL (rs.map ent) k v = (rs ++ [r]).map ent := by
  have hl : lk k (rs.map ent) = none := by
    refine Mem.lookup_no (κ := ByteArray) fun p hp => ?_
    obtain ⟨q, hq, rfl⟩ := List.mem_map.1 hp
    exact hn q hq
  unfold Mem.putL
  rw [show @List.lookup ByteArray Value instBEqOfDecidableEq k _ = _ from hl, Option.isSome_none, if_neg (by simp), List.map_append]
  congr 1
  rw [← hv, ← hr]
  rfl
end
end Sto
end Go.Proofs.Ytfafehffnjbhnaa
