/- The document's disk in memory: the struct, its list, its files. Plain lemmas. -/
import Derived.Test.YtfpfpdhfnleebaaDisk9
namespace Go.Proofs.Ytfpfpdhfnleebaa
open Go.RowKit
set_option linter.unusedVariables false
set_option linter.unusedSimpArgs false
namespace Df
/-- a file: its bytes, when each came (0: it is synced) -/
structure Fl where
  n : Int
  bs : List UInt8
  cm : List Nat
structure Q where
  l : List Fl
  time : Nat
/-- a file in memory: its block, its bytes, its times -/
structure R where
  f : Fl
  h : Nat
  A : Option Addr
  c : Nat
  T : Option Addr
  e : Nat
def tmV (t : Nat) : Value := .int .i64 (t : Int)
def R.fp (r : R) (k : Nat) : Prop := k = r.h ∨ Mem.blk r.A = some k ∨ Mem.blk r.T = some k
def fCells (r : R) : List Value := [.int .i64 r.f.n, .slice r.A r.f.bs.length r.c, .slice r.T r.f.cm.length r.e]
def ptr (r : R) : Value := .pointer (some ⟨r.h, 0, none⟩)
structure FAt (w : World) (r : R) : Prop where
  B : Mem.Bx w 80 3 r.h (fCells r)
  O : Mem.Own w 5 1 r.A r.f.bs.length r.c (r.f.bs.map Mem.byteV)
  P : Mem.Own w 3 1 r.T r.f.cm.length r.e (r.f.cm.map tmV)
  ne : ∀ k, Mem.blk r.A = some k → k ≠ r.h ∧ Mem.blk r.T ≠ some k
  nt : ∀ k, Mem.blk r.T = some k → k ≠ r.h
  len : r.f.cm.length = r.f.bs.length
structure Sep (g : Nat) (A : Option Addr) (rs : List R) : Prop where
  a : ∀ k, Mem.blk A = some k → k ≠ g
  f : ∀ r ∈ rs, ∀ k, r.fp k → k ≠ g ∧ Mem.blk A ≠ some k
  p : rs.Pairwise (fun r q => ∀ k, r.fp k → ¬ q.fp k)
structure DS (w : World) (g : Nat) (A : Option Addr) (c : Nat) (rs : List R) (time : Nat) : Prop where
  B : Mem.Bx w 65 2 g [.slice A rs.length c, tmV time]
  O : Mem.Own w 78 1 A rs.length c (rs.map ptr)
  F : ∀ r ∈ rs, FAt w r
  S : Sep g A rs
def fpD (g : Nat) (A : Option Addr) (rs : List R) (k : Nat) : Prop := k = g ∨ Mem.blk A = some k ∨ ∃ r ∈ rs, r.fp k
/-- the document's disk at block g, told by q, its blocks F -/
def QAt (w : World) (g : Nat) (q : Q) (F : Nat → Prop) : Prop := ∃ A c rs, DS w g A c rs q.time ∧ rs.map (·.f) = q.l ∧ ∀ k, F k ↔ fpD g A rs k
section
variable {w w' : World} {g c time : Nat} {A : Option Addr} {rs pre post : List R} {r r' : R} {S : Nat → Prop}
theorem FAt.keeps (h : FAt w r) (hk : Mem.Keeps S w w') (hS : ∀ k, r.fp k → ¬ S k) : FAt w' r :=
  ⟨h.B.keeps hk (hS _ (.inl rfl)), h.O.keeps hk (fun k hb => hS k (.inr (.inl hb))), h.P.keeps hk (fun k hb => hS k (.inr (.inr hb))), h.ne, h.nt, h.len⟩
theorem FAt.lt (h : FAt w r) {k : Nat} (hk : r.fp k) : k < w.heap.size := by
  rcases hk with rfl | hk | hk
  · exact h.B.lt
  · exact h.O.lt hk
  · exact h.P.lt hk
theorem DS.lt (h : DS w g A c rs time) {k : Nat} (hk : fpD g A rs k) : k < w.heap.size := by
  rcases hk with rfl | hk | ⟨r, hr, hk⟩
  · exact h.B.lt
  · exact h.O.lt hk
  · exact (h.F r hr).lt hk
theorem DS.keeps (h : DS w g A c rs time) (hk : Mem.Keeps S w w') (hS : ∀ k, fpD g A rs k → ¬ S k) : DS w' g A c rs time :=
  ⟨h.B.keeps hk (hS _ (.inl rfl)), h.O.keeps hk (fun k hb => hS k (.inr (.inl hb))),
    fun r hr => (h.F r hr).keeps hk (fun k hf => hS k (.inr (.inr ⟨r, hr, hf⟩))), h.S⟩
theorem DS.below (h : DS w g A c rs time) (hk : Below w.heap.size w w') : DS w' g A c rs time := h.keeps (Mem.Keeps.of_below hk) (fun _ _ h => h)
/-- the root is turned -/
theorem DS.root {t' : Nat} (h : DS w g A c rs time) (hB : Mem.Bx w' 65 2 g [.slice A rs.length c, tmV t']) (hk : Mem.Keeps (fun k => k = g) w w') : DS w' g A c rs t' :=
  ⟨hB, h.O.keeps hk (fun k hb e => h.S.a k hb e), fun r hr => (h.F r hr).keeps hk (fun k hf e => (h.S.f r hr k hf).1 e), h.S⟩
/-- a file is turned -/
theorem DS.file (h : DS w g A c (pre ++ r :: post) time) (hh : r'.h = r.h) (hf : FAt w' r') (hk : Mem.Keeps r.fp w w') (hq : ∀ k, r'.fp k → r.fp k ∨ w.heap.size ≤ k) :
    DS w' g A c (pre ++ r' :: post) time ∧ Mem.Keeps (fpD g A (pre ++ r :: post)) w w' ∧ ∀ k, fpD g A (pre ++ r' :: post) k → fpD g A (pre ++ r :: post) k ∨ w.heap.size ≤ k := by
  have hm : r ∈ pre ++ r :: post := by simp
  have hS := h.S
  have hg := hS.f r hm
  have hp := hS.p
  rw [List.pairwise_append, List.pairwise_cons] at hp
  obtain ⟨hp1, ⟨hp2, hp3⟩, hp4⟩ := hp
  have out : ∀ k, (∃ q ∈ pre ++ post, q.fp k) → ¬ r.fp k := by
    rintro k ⟨q, hq, hqk⟩ hr
    rcases List.mem_append.1 hq with hq | hq
    · exact hp4 q hq r List.mem_cons_self k hqk hr
    · exact hp2 q hq k hr hqk
  have hlt : ∀ q ∈ pre ++ r :: post, ∀ k, q.fp k → k < w.heap.size := fun q hq k hk => (h.F q hq).lt hk
  have e : (pre ++ r' :: post).length = (pre ++ r :: post).length := by simp
  refine ⟨⟨?_, ?_, ?_, ?_⟩, hk.mono (fun k hr _ => .inr (.inr ⟨r, hm, hr⟩)), ?_⟩
  · rw [e]; exact h.B.keeps hk (fun hr => (hg g hr).1 rfl)
  · have e2 : (pre ++ r' :: post).map ptr = (pre ++ r :: post).map ptr := by simp [ptr, hh]
    rw [e, e2]; exact h.O.keeps hk (fun k hb hr => (hg k hr).2 hb)
  · intro q hqm
    rcases List.mem_append.1 hqm with hqm | hqm
    · exact (h.F q (List.mem_append_left _ hqm)).keeps hk (fun k hf hr => out k ⟨q, List.mem_append_left _ hqm, hf⟩ hr)
    · rcases List.mem_cons.1 hqm with rfl | hqm
      · exact hf
      · exact (h.F q (List.mem_append_right _ (List.mem_cons_of_mem _ hqm))).keeps hk (fun k hf hr => out k ⟨q, List.mem_append_right _ hqm, hf⟩ hr)
  · have hgl : g < w.heap.size := h.B.lt
    refine ⟨hS.a, ?_, ?_⟩
    · intro q hqm k hqk
      have big : w.heap.size ≤ k → k ≠ g ∧ Mem.blk A ≠ some k := fun hw => ⟨by omega, fun hb => by have := h.O.lt hb; omega⟩
      rcases List.mem_append.1 hqm with hqm | hqm
      · exact hS.f q (List.mem_append_left _ hqm) k hqk
      · rcases List.mem_cons.1 hqm with rfl | hqm
        · rcases hq k hqk with h1 | h1
          · exact hg k h1
          · exact big h1
        · exact hS.f q (List.mem_append_right _ (List.mem_cons_of_mem _ hqm)) k hqk
    · rw [List.pairwise_append, List.pairwise_cons]
      refine ⟨hp1, ⟨?_, hp3⟩, ?_⟩
      · intro q hqm k h1 h2
        rcases hq k h1 with h3 | h3
        · exact hp2 q hqm k h3 h2
        · have := hlt q (List.mem_append_right _ (List.mem_cons_of_mem _ hqm)) k h2; omega
      · intro q hqm s hs k h1 h2
        rcases List.mem_cons.1 hs with rfl | hs
        · rcases hq k h2 with h3 | h3
          · exact hp4 q hqm r List.mem_cons_self k h1 h3
          · have := hlt q (List.mem_append_left _ hqm) k h1; omega
        · exact hp4 q hqm s (List.mem_cons_of_mem _ hs) k h1 h2
  · rintro k (hk1 | hk1 | ⟨q, hqm, hqk⟩)
    · exact .inl (.inl hk1)
    · exact .inl (.inr (.inl hk1))
    · rcases List.mem_append.1 hqm with hqm | hqm
      · exact .inl (.inr (.inr ⟨q, List.mem_append_left _ hqm, hqk⟩))
      · rcases List.mem_cons.1 hqm with rfl | hqm
        · rcases hq k hqk with h1 | h1
          · exact .inl (.inr (.inr ⟨r, hm, h1⟩))
          · exact .inr h1
        · exact .inl (.inr (.inr ⟨q, List.mem_append_right _ (List.mem_cons_of_mem _ hqm), hqk⟩))
/-- the list is another one: of files that were there, and of new ones -/
theorem DS.list {A' : Option Addr} {c' : Nat} {rs' : List R} (h : DS w g A c rs time) (hB : Mem.Bx w' 65 2 g [.slice A' rs'.length c', tmV time]) (hO : Mem.Own w' 78 1 A' rs'.length c' (rs'.map ptr))
    (hA : ∀ k, Mem.blk A' = some k → w.heap.size ≤ k) (hr : ∀ r ∈ rs', r ∈ rs ∨ (FAt w' r ∧ ∀ k, r.fp k → w.heap.size ≤ k ∧ Mem.blk A' ≠ some k))
    (hp : rs'.Pairwise (fun r q => ∀ k, r.fp k → ¬ q.fp k)) (hk : Mem.Keeps (fun k => k = g) w w') :
    DS w' g A' c' rs' time ∧ Mem.Keeps (fpD g A rs) w w' ∧ ∀ k, fpD g A' rs' k → fpD g A rs k ∨ w.heap.size ≤ k := by
  have hS := h.S
  have hgl : g < w.heap.size := h.B.lt
  refine ⟨⟨hB, hO, fun r hrm => ?_, ⟨fun k hb => by have := hA k hb; omega, fun r hrm k hf => ?_, hp⟩⟩, hk.mono (fun k h _ => .inl h), ?_⟩
  · rcases hr r hrm with h1 | h1
    · exact (h.F r h1).keeps hk (fun k hf e => (hS.f r h1 k hf).1 e)
    · exact h1.1
  · rcases hr r hrm with h1 | h1
    · have := (h.F r h1).lt hf
      exact ⟨(hS.f r h1 k hf).1, fun hb => by have := hA k hb; omega⟩
    · have := h1.2 k hf
      exact ⟨by omega, this.2⟩
  · rintro k (hk1 | hk1 | ⟨q, hqm, hqk⟩)
    · exact .inl (.inl hk1)
    · exact .inr (hA k hk1)
    · rcases hr q hqm with h1 | h1
      · exact .inl (.inr (.inr ⟨q, h1, hqk⟩))
      · exact .inr (h1.2 k hqk).1
end
theorem QAt.lt {w : World} {g : Nat} {q : Q} {F : Nat → Prop} (h : QAt w g q F) {k : Nat} (hk : F k) : k < w.heap.size := by
  obtain ⟨A, c, rs, hD, _, hF⟩ := h
  exact hD.lt ((hF k).1 hk)
theorem QAt.keeps {w w' : World} {g : Nat} {q : Q} {F S : Nat → Prop} (h : QAt w g q F) (hk : Mem.Keeps S w w') (hS : ∀ k, F k → ¬ S k) : QAt w' g q F := by
  obtain ⟨A, c, rs, hD, hf, hF⟩ := h
  exact ⟨A, c, rs, hD.keeps hk (fun k hk => hS k ((hF k).2 hk)), hf, hF⟩
/-- the first file that is not below a number -/
def low (n : Int) (l : List Fl) : Nat := (l.takeWhile fun f => decide (f.n < n)).length
def isAt (n : Int) (l : List Fl) : Bool := match l[low n l]? with
  | some f => f.n == n
  | none => false
theorem low_le (n : Int) (l : List Fl) : low n l ≤ l.length := by unfold low; exact (List.takeWhile_sublist _).length_le
theorem low_lt {n : Int} : ∀ {l : List Fl} {k : Nat}, k < low n l → ∃ f, l[k]? = some f ∧ f.n < n
  | [], k, h => by unfold low at h; simp at h
  | f :: l, k, h => by
    unfold low at h
    rw [List.takeWhile_cons] at h
    by_cases hf : f.n < n
    · rw [if_pos (by simpa using hf)] at h
      cases k with
      | zero => exact ⟨f, rfl, hf⟩
      | succ k =>
        rw [List.length_cons] at h
        have := low_lt (n := n) (l := l) (k := k) (by unfold low; omega)
        simpa using this
    · rw [if_neg (by simpa using hf)] at h; simp at h
theorem low_stop (n : Int) : ∀ (l : List Fl) (f : Fl), l[low n l]? = some f → ¬ f.n < n
  | [], f, h => by simp at h
  | g :: l, f, h => by
    unfold low at h
    rw [List.takeWhile_cons] at h
    by_cases hg : g.n < n
    · rw [if_pos (by simpa using hg), List.length_cons, List.getElem?_cons_succ] at h
      exact low_stop n l f (by unfold low; exact h)
    · rw [if_neg (by simpa using hg)] at h
      simp at h
      subst h; exact hg
end Df
end Go.Proofs.Ytfpfpdhfnleebaa
