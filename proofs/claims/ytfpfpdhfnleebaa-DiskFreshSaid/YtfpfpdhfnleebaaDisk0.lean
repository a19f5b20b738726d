/- A disk in memory: the struct, its map, its loose pieces, its files. Plain lemmas. -/
import Derived.Test.YtfpfpdhfnleebaaMap
import Derived.Test.YtfpfpdhfnleebaaAgg2
import Derived.Test.YtfpfpdhfnleebaaOwnX
import Derived.Test.YtfpfpdhfnleebaaRegW
import Derived.Test.YtfpfpdhfnleebaaStill
namespace Go.Proofs.Ytfpfpdhfnleebaa
open Go.RowKit
set_option linter.unusedVariables false
set_option linter.unusedSimpArgs false
namespace Dk
structure Fl where
  n : Int
  bs : List UInt8
  syn : Nat
structure D where
  fs : List Fl
  lo : List (Int × Nat)
/-- a file in memory: its block, its bytes -/
structure FR where
  f : Fl
  h : Nat
  A : Option Addr
  c : Nat
def FR.fp (r : FR) (k : Nat) : Prop := k = r.h ∨ Mem.blk r.A = some k
def fCells (r : FR) : List Value := [.slice r.A r.f.bs.length r.c, .int .i64 r.f.syn]
structure FAt (w : World) (r : FR) : Prop where
  B : Mem.Bx w 57 2 r.h (fCells r)
  O : Mem.Own w 5 1 r.A r.f.bs.length r.c (r.f.bs.map Mem.byteV)
  ne : ∀ k, Mem.blk r.A = some k → k ≠ r.h
  syn : r.f.syn ≤ r.f.bs.length
def pcs (p : Int × Nat) : List Value := [.int .i64 p.1, .int .i64 p.2]
def ent (r : FR) : Int × Value := (r.f.n, .pointer (some ⟨r.h, 0, none⟩))
def okI (x : Int) : Prop := -9223372036854775808 ≤ x ∧ x ≤ 9223372036854775807
structure Sep (g b : Nat) (A : Option Addr) (rs : List FR) : Prop where
  gb : g ≠ b
  a : ∀ k, Mem.blk A = some k → k ≠ g ∧ k ≠ b
  f : ∀ r ∈ rs, ∀ k, r.fp k → k ≠ g ∧ k ≠ b ∧ Mem.blk A ≠ some k
  p : rs.Pairwise (fun r q => ∀ k, r.fp k → ¬ q.fp k)
structure DS (w : World) (g b : Nat) (A : Option Addr) (c : Nat) (rs : List FR) (lo : List (Int × Nat)) : Prop where
  B : Mem.Bx w 54 2 g [.map (some b), .slice A lo.length c]
  M : Mem.MapIs (Value.int .i64) okI w b (rs.map ent)
  O : Mem.Own w 59 2 A lo.length c (lo.flatMap pcs)
  F : ∀ r ∈ rs, FAt w r
  S : Sep g b A rs
def fpD (g b : Nat) (A : Option Addr) (rs : List FR) (k : Nat) : Prop := k = g ∨ k = b ∨ Mem.blk A = some k ∨ ∃ r ∈ rs, r.fp k
/-- a disk at block g, told by D, its blocks F -/
def DAt (w : World) (g : Nat) (d : D) (F : Nat → Prop) : Prop := ∃ b A c rs, DS w g b A c rs d.lo ∧ rs.map (·.f) = d.fs ∧ ∀ k, F k ↔ fpD g b A rs k
section
variable {w w' : World} {g b c : Nat} {A : Option Addr} {rs pre post : List FR} {lo : List (Int × Nat)} {r r' : FR} {S : Nat → Prop}
theorem FAt.keeps (h : FAt w r) (hk : Mem.Keeps S w w') (hS : ∀ k, r.fp k → ¬ S k) : FAt w' r :=
  ⟨h.B.keeps hk (hS _ (.inl rfl)), h.O.keeps hk (fun k hb => hS k (.inr hb)), h.ne, h.syn⟩
theorem FAt.lt (h : FAt w r) {k : Nat} (hk : r.fp k) : k < w.heap.size := by
  rcases hk with rfl | hk
  · exact h.B.lt
  · exact h.O.lt hk
theorem DS.lt (h : DS w g b A c rs lo) {k : Nat} (hk : fpD g b A rs k) : k < w.heap.size := by
  rcases hk with rfl | rfl | hk | ⟨r, hr, hk⟩
  · exact h.B.lt
  · exact h.M.lt
  · exact h.O.lt hk
  · exact (h.F r hr).lt hk
theorem DS.keeps (h : DS w g b A c rs lo) (hk : Mem.Keeps S w w') (hS : ∀ k, fpD g b A rs k → ¬ S k) : DS w' g b A c rs lo :=
  ⟨h.B.keeps hk (hS _ (.inl rfl)), h.M.keeps hk (hS _ (.inr (.inl rfl))), h.O.keeps hk (fun k hb => hS k (.inr (.inr (.inl hb)))),
    fun r hr => (h.F r hr).keeps hk (fun k hf => hS k (.inr (.inr (.inr ⟨r, hr, hf⟩)))), h.S⟩
theorem DS.below (h : DS w g b A c rs lo) (hk : Below w.heap.size w w') : DS w' g b A c rs lo := h.keeps (Mem.Keeps.of_below hk) (fun _ _ h => h)
/-- a file is turned -/
theorem DS.file (h : DS w g b A c (pre ++ r :: post) lo) (hh : r'.h = r.h) (hn : r'.f.n = r.f.n) (hf : FAt w' r') (hk : Mem.Keeps r.fp w w') (hq : ∀ k, r'.fp k → r.fp k ∨ w.heap.size ≤ k) :
    DS w' g b A c (pre ++ r' :: post) lo ∧ Mem.Keeps (fpD g b A (pre ++ r :: post)) w w' ∧ ∀ k, fpD g b A (pre ++ r' :: post) k → fpD g b A (pre ++ r :: post) k ∨ w.heap.size ≤ k := by
  have hm : r ∈ pre ++ r :: post := by simp
  have hS := h.S
  have hg := hS.f r hm
  have hp := hS.p
  rw [List.pairwise_append, List.pairwise_cons] at hp
  obtain ⟨hp1, ⟨hp2, hp3⟩, hp4⟩ := hp
  have out : ∀ k, (∃ q ∈ pre ++ post, q.fp k) → ¬ r.fp k := by
    rintro k ⟨q, hq, hqk⟩ hr
    rcases List.mem_append.1 hq with hq | hq
    · exact hp4 q hq r List.mem_cons_self k hqk hr
    · exact hp2 q hq k hr hqk
  have hlt : ∀ q ∈ pre ++ r :: post, ∀ k, q.fp k → k < w.heap.size := fun q hq k hk => (h.F q hq).lt hk
  refine ⟨⟨h.B.keeps hk (fun hr => (hg g hr).1 rfl), ?_, h.O.keeps hk (fun k hb hr => (hg k hr).2.2 hb), ?_, ?_⟩, hk.mono (fun k hr _ => .inr (.inr (.inr ⟨r, hm, hr⟩))), ?_⟩
  · have e : (pre ++ r' :: post).map ent = (pre ++ r :: post).map ent := by simp [ent, hh, hn]
    rw [e]
    exact h.M.keeps hk (fun hr => (hg b hr).2.1 rfl)
  · intro q hqm
    rcases List.mem_append.1 hqm with hqm | hqm
    · exact (h.F q (List.mem_append_left _ hqm)).keeps hk (fun k hf hr => out k ⟨q, List.mem_append_left _ hqm, hf⟩ hr)
    · rcases List.mem_cons.1 hqm with rfl | hqm
      · exact hf
      · exact (h.F q (List.mem_append_right _ (List.mem_cons_of_mem _ hqm))).keeps hk (fun k hf hr => out k ⟨q, List.mem_append_right _ hqm, hf⟩ hr)
  · have hgl : g < w.heap.size := h.B.lt
    have hbl : b < w.heap.size := h.M.lt
    refine ⟨hS.gb, hS.a, ?_, ?_⟩
    · intro q hqm k hqk
      have big : w.heap.size ≤ k → k ≠ g ∧ k ≠ b ∧ Mem.blk A ≠ some k := fun hw => ⟨by omega, by omega, fun hb => by have := h.O.lt hb; omega⟩
      rcases List.mem_append.1 hqm with hqm | hqm
      · exact hS.f q (List.mem_append_left _ hqm) k hqk
      · rcases List.mem_cons.1 hqm with rfl | hqm
        · rcases hq k hqk with h1 | h1
          · exact hg k h1
          · exact big h1
        · exact hS.f q (List.mem_append_right _ (List.mem_cons_of_mem _ hqm)) k hqk
    · rw [List.pairwise_append, List.pairwise_cons]
      refine ⟨hp1, ⟨?_, hp3⟩, ?_⟩
      · intro q hqm k h1 h2
        rcases hq k h1 with h3 | h3
        · exact hp2 q hqm k h3 h2
        · have := hlt q (List.mem_append_right _ (List.mem_cons_of_mem _ hqm)) k h2; omega
      · intro q hqm s hs k h1 h2
        rcases List.mem_cons.1 hs with rfl | hs
        · rcases hq k h2 with h3 | h3
          · exact hp4 q hqm r List.mem_cons_self k h1 h3
          · have := hlt q (List.mem_append_left _ hqm) k h1; omega
        · exact hp4 q hqm s (List.mem_cons_of_mem _ hs) k h1 h2
  · rintro k (hk1 | hk1 | hk1 | ⟨q, hqm, hqk⟩)
    · exact .inl (.inl hk1)
    · exact .inl (.inr (.inl hk1))
    · exact .inl (.inr (.inr (.inl hk1)))
    · rcases List.mem_append.1 hqm with hqm | hqm
      · exact .inl (.inr (.inr (.inr ⟨q, List.mem_append_left _ hqm, hqk⟩)))
      · rcases List.mem_cons.1 hqm with rfl | hqm
        · rcases hq k hqk with h1 | h1
          · exact .inl (.inr (.inr (.inr ⟨r, hm, h1⟩)))
          · exact .inr h1
        · exact .inl (.inr (.inr (.inr ⟨q, List.mem_append_right _ (List.mem_cons_of_mem _ hqm), hqk⟩)))
/-- the loose pieces are turned -/
theorem DS.loose {A' : Option Addr} {c' : Nat} {lo' : List (Int × Nat)} (h : DS w g b A c rs lo) (hB : Mem.Bx w' 54 2 g [.map (some b), .slice A' lo'.length c']) (hO : Mem.Own w' 59 2 A' lo'.length c' (lo'.flatMap pcs))
    (hk : Mem.Keeps (fun k => k = g ∨ Mem.blk A = some k) w w') (hq : ∀ k, Mem.blk A' = some k → Mem.blk A = some k ∨ w.heap.size ≤ k) :
    DS w' g b A' c' rs lo' ∧ Mem.Keeps (fpD g b A rs) w w' ∧ ∀ k, fpD g b A' rs k → fpD g b A rs k ∨ w.heap.size ≤ k := by
  have hS := h.S
  refine ⟨⟨hB, h.M.keeps hk (fun hr => ?_), hO, fun r hr => (h.F r hr).keeps hk (fun k hf hs => ?_), ⟨hS.gb, ?_, ?_, hS.p⟩⟩, hk.mono (fun k hr _ => hr.elim .inl (fun h => .inr (.inr (.inl h)))), ?_⟩
  · rcases hr with hr | hr
    · exact hS.gb hr.symm
    · exact (hS.a b hr).2 rfl
  · rcases hs with hs | hs
    · exact (hS.f r hr k hf).1 hs
    · exact (hS.f r hr k hf).2.2 hs
  · intro k hb
    rcases hq k hb with h1 | h1
    · exact hS.a k h1
    · have := h.B.lt; have := h.M.lt; exact ⟨by omega, by omega⟩
  · intro r hr k hf
    refine ⟨(hS.f r hr k hf).1, (hS.f r hr k hf).2.1, fun hb => ?_⟩
    rcases hq k hb with h1 | h1
    · exact (hS.f r hr k hf).2.2 h1
    · have := (h.F r hr).lt hf; omega
  · rintro k (hk1 | hk1 | hk1 | hk1)
    · exact .inl (.inl hk1)
    · exact .inl (.inr (.inl hk1))
    · rcases hq k hk1 with h1 | h1
      · exact .inl (.inr (.inr (.inl h1)))
      · exact .inr h1
    · exact .inl (.inr (.inr (.inr hk1)))
/-- a file is laid in -/
theorem DS.add (h : DS w g b A c rs lo) (hM : Mem.MapIs (Value.int .i64) okI w' b ((rs ++ [r]).map ent)) (hf : FAt w' r) (hk : Mem.Keeps (fun k => k = b) w w') (hq : ∀ k, r.fp k → w.heap.size ≤ k) :
    DS w' g b A c (rs ++ [r]) lo ∧ Mem.Keeps (fpD g b A rs) w w' ∧ ∀ k, fpD g b A (rs ++ [r]) k → fpD g b A rs k ∨ w.heap.size ≤ k := by
  have hS := h.S
  refine ⟨⟨h.B.keeps hk hS.gb, hM, h.O.keeps hk (fun k hb => (hS.a k hb).2), ?_, ⟨hS.gb, hS.a, ?_, ?_⟩⟩, hk.mono (fun k hr _ => .inr (.inl hr)), ?_⟩
  · intro q hqm
    rcases List.mem_append.1 hqm with hqm | hqm
    · exact (h.F q hqm).keeps hk (fun k hf => (hS.f q hqm k hf).2.1)
    · rw [List.mem_singleton] at hqm; subst hqm; exact hf
  · intro q hqm k hqk
    rcases List.mem_append.1 hqm with hqm | hqm
    · exact hS.f q hqm k hqk
    · rw [List.mem_singleton] at hqm; subst hqm
      have h1 := hq k hqk
      have h2 := h.B.lt
      have h3 := h.M.lt
      exact ⟨by omega, by omega, fun hb => by have := h.O.lt hb; omega⟩
  · rw [List.pairwise_append]
    refine ⟨hS.p, List.pairwise_singleton _ _, ?_⟩
    intro q hqm s hs k h1 h2
    rw [List.mem_singleton] at hs; subst hs
    have := hq k h2
    have := (h.F q hqm).lt h1
    omega
  · rintro k (hk1 | hk1 | hk1 | ⟨q, hqm, hqk⟩)
    · exact .inl (.inl hk1)
    · exact .inl (.inr (.inl hk1))
    · exact .inl (.inr (.inr (.inl hk1)))
    · rcases List.mem_append.1 hqm with hqm | hqm
      · exact .inl (.inr (.inr (.inr ⟨q, hqm, hqk⟩)))
      · rw [List.mem_singleton] at hqm; subst hqm; exact .inr (hq k hqk)
/-- files are taken out -/
theorem DS.drop {p : FR → Bool} (h : DS w g b A c rs lo) (hM : Mem.MapIs (Value.int .i64) okI w' b ((rs.filter p).map ent)) (hk : Mem.Keeps (fun k => k = b) w w') :
    DS w' g b A c (rs.filter p) lo ∧ Mem.Keeps (fpD g b A rs) w w' ∧ ∀ k, fpD g b A (rs.filter p) k → fpD g b A rs k ∨ w.heap.size ≤ k := by
  have hS := h.S
  refine ⟨⟨h.B.keeps hk hS.gb, hM, h.O.keeps hk (fun k hb => (hS.a k hb).2), ?_, ⟨hS.gb, hS.a, ?_, hS.p.filter _⟩⟩, hk.mono (fun k hr _ => .inr (.inl hr)), ?_⟩
  · intro q hqm
    have hqm := (List.mem_filter.1 hqm).1
    exact (h.F q hqm).keeps hk (fun k hf => (hS.f q hqm k hf).2.1)
  · intro q hqm k hqk
    exact hS.f q (List.mem_filter.1 hqm).1 k hqk
  · rintro k (hk1 | hk1 | hk1 | ⟨q, hqm, hqk⟩)
    · exact .inl (.inl hk1)
    · exact .inl (.inr (.inl hk1))
    · exact .inl (.inr (.inr (.inl hk1)))
    · exact .inl (.inr (.inr (.inr ⟨q, (List.mem_filter.1 hqm).1, hqk⟩)))
/-! plain -/
theorem DS.nodup (h : DS w g b A c rs lo) : (rs.map (·.f.n)).Nodup := by
  have := h.M.nodup
  rw [List.map_map] at this
  exact this
/-- a file by its number -/
def findR (rs : List FR) (n : Int) : Option FR := rs.find? fun r => r.f.n == n
theorem look_find (n : Int) : ∀ rs : List FR, (rs.map ent).lookup n = (findR rs n).map fun r => Value.pointer (some ⟨r.h, 0, none⟩)
  | [] => rfl
  | r :: rs => by
    unfold findR
    rw [List.map_cons, List.find?_cons]
    show List.lookup n ((r.f.n, _) :: _) = _
    rw [List.lookup_cons]
    by_cases h : r.f.n = n
    · rw [h]; simp [h]
    · have h1 : (n == r.f.n) = false := by simpa using fun e => h e.symm
      have h2 : (r.f.n == n) = false := by simpa using h
      rw [h1, h2]
      exact look_find n rs
theorem find_split {n : Int} (hr : findR rs n = some r) : ∃ pre post, rs = pre ++ r :: post ∧ r.f.n = n ∧ ∀ q ∈ pre, q.f.n ≠ n := by
  unfold findR at hr
  obtain ⟨h1, p1, p2, h2, h3⟩ := List.find?_eq_some_iff_append.1 hr
  exact ⟨p1, p2, h2, by simpa using h1, fun q hq e => by have := h3 q hq; simp [e] at this⟩
end
end Dk
end Go.Proofs.Ytfpfpdhfnleebaa
