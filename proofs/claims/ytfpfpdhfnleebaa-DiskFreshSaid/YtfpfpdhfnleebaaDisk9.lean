/- Several things in memory side by side; able and ints of the statements on disks. No conditions. -/
import Derived.Test.YtfpfpdhfnleebaaDisk8
import Derived.Lib.SlBytesConst
set_option maxRecDepth 8000
namespace Go.Proofs.Ytfpfpdhfnleebaa
open Go.ChangeShapes Go.WideShapes Go.ChangeAt Go.RowKit
set_option linter.unusedVariables false
set_option linter.unusedSimpArgs false
namespace Mem
/-- what may stand in memory: a root block, what it is, the blocks that are its own -/
structure Stands {α : Type} (At : World → Nat → α → (Nat → Prop) → Prop) : Prop where
  keeps : ∀ {w w' : World} {g : Nat} {d : α} {F S : Nat → Prop}, At w g d F → Keeps S w w' → (∀ k, F k → ¬ S k) → At w' g d F
  lt : ∀ {w : World} {g : Nat} {d : α} {F : Nat → Prop} {k : Nat}, At w g d F → F k → k < w.heap.size
/-- several stand side by side, all above what there was; R: blocks that are none of theirs -/
structure Many {α : Type} (At : World → Nat → α → (Nat → Prop) → Prop) (W : World) (R : Nat → Prop) (l : List (Nat × α)) (w : World) : Prop where
  out : ∃ F : Nat → Nat → Prop, (∀ i p, l[i]? = some p → At w p.1 p.2 (F i)) ∧ (∀ i j k, F i k → F j k → i = j) ∧ (∀ i k, F i k → W.heap.size ≤ k ∧ ¬ R k ∧ k < w.heap.size ∧ i < l.length)
  res : ∀ k, R k → W.heap.size ≤ k ∧ k < w.heap.size
  bel : Below W.heap.size W w
section
variable {α : Type} {At : World → Nat → α → (Nat → Prop) → Prop} {W w w' : World} {R : Nat → Prop} {l : List (Nat × α)}
theorem Many.none (At : World → Nat → α → (Nat → Prop) → Prop) (W : World) : Many At W (fun _ => False) [] W :=
  ⟨⟨fun _ _ => False, (fun i p h => by simp at h), (fun _ _ _ h => h.elim), (fun _ _ h => h.elim)⟩, (fun _ h => h.elim), Below.refl _ _⟩
theorem Many.keeps (I : Stands At) (h : Many At W R l w) {S : Nat → Prop} (hk : Keeps S w w') (hS : ∀ k, S k → k < w.heap.size → R k) : Many At W R l w' := by
  obtain ⟨F, h1, h2, h3⟩ := h.out
  have hz := hk.size
  refine ⟨⟨F, fun i p hp => I.keeps (h1 i p hp) hk (fun k hf hs => (h3 i k hf).2.1 (hS k hs (h3 i k hf).2.2.1)), h2, fun i k hf => ⟨(h3 i k hf).1, (h3 i k hf).2.1, Nat.lt_of_lt_of_le (h3 i k hf).2.2.1 hz, (h3 i k hf).2.2.2⟩⟩, (fun k hr => ⟨(h.res k hr).1, Nat.lt_of_lt_of_le (h.res k hr).2 hz⟩), ?_⟩
  refine h.bel.trans ((hk.mono (T := fun k => R k) hS).below (fun k hr => (h.res k hr).1) h.bel.size)
theorem Many.below (I : Stands At) (h : Many At W R l w) (hb : Below w.heap.size w w') : Many At W R l w' := h.keeps I (Keeps.of_below hb) (fun _ h _ => h.elim)
theorem Many.drew (I : Stands At) (h : Many At W R l w) : Many At W R l w.drew := h.keeps I ((Keeps.refl (fun _ => False) w).drew) (fun _ h _ => h.elim)
theorem Many.drewN (I : Stands At) (h : Many At W R l w) (n : Nat) : Many At W R l (w.drewN n) := h.keeps I ((Keeps.refl (fun _ => False) w).drewN n) (fun _ h _ => h.elim)
theorem Many.less (h : Many At W R l w) {R' : Nat → Prop} (hr : ∀ k, R' k → R k) : Many At W R' l w := by
  obtain ⟨F, h1, h2, h3⟩ := h.out
  exact ⟨⟨F, h1, h2, fun i k hf => ⟨(h3 i k hf).1, fun h => (h3 i k hf).2.1 (hr k h), (h3 i k hf).2.2⟩⟩, (fun k h' => h.res k (hr k h')), h.bel⟩
/-- a block that is new is none of theirs -/
theorem Many.more (I : Stands At) (h : Many At W R l w) (hb : Below w.heap.size w w') {R' : Nat → Prop} (hr : ∀ k, R' k → w.heap.size ≤ k ∧ k < w'.heap.size) : Many At W (fun k => R k ∨ R' k) l w' := by
  have h0 := h.below I hb
  obtain ⟨F, h1, h2, h3⟩ := h.out
  have hz := hb.size
  refine ⟨⟨F, fun i p hp => I.keeps (h1 i p hp) (Keeps.of_below hb) (fun k _ h => h), h2, fun i k hf => ⟨(h3 i k hf).1, fun hh => ?_, Nat.lt_of_lt_of_le (h3 i k hf).2.2.1 hz, (h3 i k hf).2.2.2⟩⟩, ?_, h0.bel⟩
  · rcases hh with hh | hh
    · exact (h3 i k hf).2.1 hh
    · have := (hr k hh).1; have := (h3 i k hf).2.2.1; omega
  · rintro k (hh | hh)
    · exact h0.res k hh
    · have := hr k hh; have := h.bel.size; omega
/-- blocks that are none of theirs are turned; others are so from now on -/
theorem Many.next (I : Stands At) (h : Many At W R l w) {S : Nat → Prop} (hk : Keeps S w w') (hS : ∀ k, S k → k < w.heap.size → R k) {R' : Nat → Prop} (hr : ∀ k, R' k → R k ∨ (w.heap.size ≤ k ∧ k < w'.heap.size)) : Many At W R' l w' := by
  have h0 := h.keeps I hk hS
  obtain ⟨F, h1, h2, h3⟩ := h.out
  have hz := hk.size
  refine ⟨⟨F, fun i p hp => I.keeps (h1 i p hp) hk (fun k hf hs => (h3 i k hf).2.1 (hS k hs (h3 i k hf).2.2.1)), h2, fun i k hf => ⟨(h3 i k hf).1, fun hh => ?_, Nat.lt_of_lt_of_le (h3 i k hf).2.2.1 hz, (h3 i k hf).2.2.2⟩⟩, fun k hh => ?_, h0.bel⟩
  · rcases hr k hh with hh | hh
    · exact (h3 i k hf).2.1 hh
    · have := (h3 i k hf).2.2.1; omega
  · rcases hr k hh with hh | hh
    · exact h0.res k hh
    · have := h.bel.size; omega
theorem Many.add (I : Stands At) (h : Many At W R l w) {g : Nat} {e : α} {G : Nat → Prop} (ha : At w' g e G) (hG : ∀ k, G k → w.heap.size ≤ k) (hb : Below w.heap.size w w') : Many At W R (l ++ [(g, e)]) w' := by
  have h0 := h.below I hb
  obtain ⟨F, h1, h2, h3⟩ := h.out
  have hz := hb.size
  refine ⟨⟨fun i k => if i = l.length then G k else F i k, fun i p hp => ?_, fun i j k => ?_, fun i k hf => ?_⟩, h0.res, h0.bel⟩
  · by_cases hi : i = l.length
    · subst hi
      rw [List.getElem?_append_right (Nat.le_refl _), Nat.sub_self] at hp
      simp at hp
      subst hp
      simpa using ha
    · have hlt := (List.getElem?_eq_some_iff.1 hp).1
      rw [List.length_append, List.length_singleton] at hlt
      rw [List.getElem?_append_left (by omega)] at hp
      simpa [hi] using I.keeps (h1 i p hp) (Keeps.of_below hb) (fun k _ h => h)
  · dsimp only
    by_cases hi : i = l.length <;> by_cases hj : j = l.length
    · intro _ _; omega
    · rw [if_pos hi, if_neg hj]; intro ha' hb'; have := hG k ha'; have := (h3 j k hb').2.2.1; omega
    · rw [if_neg hi, if_pos hj]; intro ha' hb'; have := hG k hb'; have := (h3 i k ha').2.2.1; omega
    · rw [if_neg hi, if_neg hj]; exact h2 i j k
  · dsimp only at hf
    rw [List.length_append, List.length_singleton]
    by_cases hi : i = l.length
    · rw [if_pos hi] at hf
      have h5 := hG k hf
      have h6 := h.bel.size
      exact ⟨by omega, (fun hr => by have := (h.res k hr).2; omega), I.lt ha hf, by omega⟩
    · rw [if_neg hi] at hf
      have := h3 i k hf
      exact ⟨this.1, this.2.1, by omega, by omega⟩
theorem Many.get (h : Many At W R l w) {i : Nat} {g : Nat} {e : α} (hi : l[i]? = some (g, e)) : ∃ F, At w g e F ∧ ∀ k, F k → W.heap.size ≤ k ∧ ¬ R k := by
  obtain ⟨F, h1, h2, h3⟩ := h.out
  exact ⟨F i, h1 i _ hi, fun k hk => ⟨(h3 i k hk).1, (h3 i k hk).2.1⟩⟩
/-- one of them is turned -/
theorem Many.turn (I : Stands At) (h : Many At W R l w) {i : Nat} {g : Nat} {e : α} (hi : l[i]? = some (g, e)) :
    ∃ F, At w g e F ∧ (∀ k, F k → W.heap.size ≤ k ∧ ¬ R k) ∧ ∀ w' e' F', At w' g e' F' → (∀ k, F' k → F k ∨ w.heap.size ≤ k) → Keeps F w w' → Many At W R (l.set i (g, e')) w' ∧ Keeps (fun k => W.heap.size ≤ k ∧ ¬ R k) w w' := by
  obtain ⟨F, h1, h2, h3⟩ := h.out
  refine ⟨F i, h1 i _ hi, fun k hk => ⟨(h3 i k hk).1, (h3 i k hk).2.1⟩, ?_⟩
  intro w' e' F' ha hf hk
  have hk2 : Keeps (fun k => W.heap.size ≤ k ∧ ¬ R k) w w' := hk.mono fun k h _ => ⟨(h3 i k h).1, (h3 i k h).2.1⟩
  have hz := hk.size
  have hli := (List.getElem?_eq_some_iff.1 hi).1
  refine ⟨⟨⟨fun j k => if j = i then F' k else F j k, fun j p hp => ?_, fun j j' k => ?_, fun j k hh => ?_⟩, (fun k hr => ⟨(h.res k hr).1, Nat.lt_of_lt_of_le (h.res k hr).2 hz⟩), h.bel.trans (hk2.below (fun k h => h.1) h.bel.size)⟩, hk2⟩
  · by_cases hj : j = i
    · subst hj
      rw [List.getElem?_set_self hli] at hp
      cases hp
      simpa using ha
    · rw [List.getElem?_set_ne (fun e => hj e.symm)] at hp
      simpa [hj] using I.keeps (h1 j p hp) hk (fun k h5 h6 => hj (h2 j i k h5 h6))
  · dsimp only
    by_cases hj : j = i <;> by_cases hj' : j' = i
    · intro _ _; omega
    · rw [if_pos hj, if_neg hj']; intro ha' hb'
      rcases hf k ha' with h5 | h5
      · exact (hj' (h2 j' i k hb' h5)).elim
      · have := (h3 j' k hb').2.2.1; omega
    · rw [if_neg hj, if_pos hj']; intro ha' hb'
      rcases hf k hb' with h5 | h5
      · exact (hj (h2 j i k ha' h5)).elim
      · have := (h3 j k ha').2.2.1; omega
    · rw [if_neg hj, if_neg hj']; exact h2 j j' k
  · dsimp only at hh
    rw [List.length_set]
    by_cases hj : j = i
    · rw [if_pos hj] at hh
      have h5 := I.lt ha hh
      rcases hf k hh with h6 | h6
      · exact ⟨(h3 i k h6).1, (h3 i k h6).2.1, h5, by omega⟩
      · have h7 := h.bel.size
        exact ⟨by omega, (fun hr => by have := (h.res k hr).2; omega), h5, by omega⟩
    · rw [if_neg hj] at hh
      have := h3 j k hh
      exact ⟨this.1, this.2.1, by omega, this.2.2.2⟩
end
end Mem
namespace Dk
theorem stands : Mem.Stands DAt := ⟨fun h hk hS => h.keeps hk hS, fun h hF => h.lt hF⟩
abbrev Ds := Mem.Many DAt
/-- one of several disks: what a call leaves -/
def MEnd {α : Type} (At : World → Nat → α → (Nat → Prop) → Prop) (W : World) (R : Nat → Prop) (l : List (Nat × α)) (v : Value) (w : World) (x : Ending) (w' : World) : Prop :=
  x = .returned v ∧ Mem.Many At W R l w' ∧ Mem.Keeps (fun k => W.heap.size ≤ k ∧ ¬ R k) w w'
end Dk
open Dk
theorem Dk.calls {W w : World} {R : Nat → Prop} {l : List (Nat × D)} {i g : Nat} {d d' : D} {v : Value} {f : FuncId} {args : Array Value} (h : Ds W R l w) (hi : l[i]? = some (g, d)) (hc : ∀ F, DAt w g d F → (∀ k, F k → W.heap.size ≤ k ∧ ¬ R k) → Calls Try.prog f args w (DEnd w g F d' v)) :
    Calls Try.prog f args w (MEnd DAt W R (l.set i (g, d')) v w) := by
  obtain ⟨F, h1, h2, h3⟩ := h.turn stands hi
  refine (hc F h1 h2).mono ?_
  rintro x w' ⟨h4, ⟨F', h5, h6⟩, h7⟩
  exact ⟨h4, h3 w' d' F' h5 h6 h7⟩
section
variable {W w : World} {R : Nat → Prop} {l : List (Nat × D)} {i g : Nat} {d : D} {K : Nat}
theorem append_m (h : Ds W R l w) (hi : l[i]? = some (g, d)) (hok : Ok d K) (hK : K ≤ 99999) {n : Int} (hn : okI n) {X : Option Addr} {cx : Nat} {bs : List UInt8} (hR : Mem.Rd w w.heap.size X (bs.map Mem.byteV)) (hX : ∀ k, Mem.blk X = some k → k < W.heap.size ∨ R k) (hb : bs.length ≤ 1000000000) :
    Calls Try.prog 11 #[.pointer (some ⟨g, 0, none⟩), .int .i64 n, .slice X bs.length cx] w (MEnd DAt W R (l.set i (g, appD d n bs)) (.int .i64 (appE d n bs)) w) :=
  Dk.calls h hi fun F h1 h2 => append_at h1 hok hK hn hR (fun k hk hF => by have := h2 k hF; rcases hX k hk with h | h; omega; exact this.2 h) hb
theorem sync_m (h : Ds W R l w) (hi : l[i]? = some (g, d)) (hok : Ok d K) (hK : K ≤ 100000) {n : Int} (hn : okI n) :
    Calls Try.prog 21 #[.pointer (some ⟨g, 0, none⟩), .int .i64 n] w (MEnd DAt W R (l.set i (g, syncD d n)) (.int .i64 (there d n)) w) :=
  Dk.calls h hi fun F h1 h2 => sync_at h1 hok hK hn
theorem remove_m (h : Ds W R l w) (hi : l[i]? = some (g, d)) (hok : Ok d K) (hK : K ≤ 100000) {n : Int} (hn : okI n) :
    Calls Try.prog 26 #[.pointer (some ⟨g, 0, none⟩), .int .i64 n] w (MEnd DAt W R (l.set i (g, removeD d n)) (.int .i64 (there d n)) w) :=
  Dk.calls h hi fun F h1 h2 => remove_at h1 hok hK hn
theorem truncate_m (h : Ds W R l w) (hi : l[i]? = some (g, d)) (hok : Ok d K) {n : Int} (hn : okI n) (k : Int) :
    Calls Try.prog 27 #[.pointer (some ⟨g, 0, none⟩), .int .i64 n, .int .i64 k] w (MEnd DAt W R (l.set i (g, truD d n k)) (.int .i64 (truE d n k)) w) :=
  Dk.calls h hi fun F h1 h2 => truncate_at h1 hok hn k
theorem crash_m (h : Ds W R l w) (hi : l[i]? = some (g, d)) (hok : Ok d K) {keep : Int} (hk : okI keep) :
    Calls Try.prog 12 #[.pointer (some ⟨g, 0, none⟩), .int .i64 keep] w (MEnd DAt W R (l.set i (g, crashD d keep)) (.int .i64 (crashN d keep)) w) :=
  Dk.calls h hi fun F h1 h2 => crash_at h1 hok hk
def RdEnd (d : D) (n : Int) (w : World) (x : Ending) (w' : World) : Prop := ∃ A' c', x = .returned (.tuple #[.slice A' (bsD d n).length c', .int .i64 (there d n)]) ∧ Mem.Own w' 5 1 A' (bsD d n).length c' ((bsD d n).map Mem.byteV) ∧ Mem.From w.heap.size A' ∧ Below w.heap.size w w'
def FsEnd (d : D) (w : World) (x : Ending) (w' : World) : Prop := ∃ A' c', x = .returned (.slice A' (filesD d).length c') ∧ Mem.Own w' 3 1 A' (filesD d).length c' ((filesD d).map (Value.int .i64)) ∧ Mem.From w.heap.size A' ∧ Below w.heap.size w w'
theorem read_m (h : Ds W R l w) (hi : l[i]? = some (g, d)) (hok : Ok d K) {n : Int} (hn : okI n) :
    Calls Try.prog 13 #[.pointer (some ⟨g, 0, none⟩), .int .i64 n] w (RdEnd d n w) := by
  obtain ⟨F, h1, _⟩ := h.get hi
  exact read_at h1 hok hn
theorem files_m (h : Ds W R l w) (hi : l[i]? = some (g, d)) (hok : Ok d K) :
    Calls Try.prog 15 #[.pointer (some ⟨g, 0, none⟩)] w (FsEnd d w) := by
  obtain ⟨F, h1, _⟩ := h.get hi
  exact files_at h1 hok
theorem size_m (h : Ds W R l w) (hi : l[i]? = some (g, d)) {n : Int} (hn : okI n) :
    Calls Try.prog 25 #[.pointer (some ⟨g, 0, none⟩), .int .i64 n] w fun x w' => x = .returned (.int .i64 (lenF d.fs n)) ∧ w' = w := by
  obtain ⟨F, h1, _⟩ := h.get hi
  exact size_at h1 hn
theorem synced_m (h : Ds W R l w) (hi : l[i]? = some (g, d)) {n : Int} (hn : okI n) :
    Calls Try.prog 20 #[.pointer (some ⟨g, 0, none⟩), .int .i64 n] w fun x w' => x = .returned (.int .i64 (synF d.fs n)) ∧ w' = w := by
  obtain ⟨F, h1, _⟩ := h.get hi
  exact synced_at h1 hn
theorem used_m (h : Ds W R l w) (hi : l[i]? = some (g, d)) (hok : Ok d K) :
    Calls Try.prog 19 #[.pointer (some ⟨g, 0, none⟩)] w fun x w' => x = .returned (.int .i64 (usedD d)) ∧ Below w.heap.size w w' := by
  obtain ⟨F, h1, _⟩ := h.get hi
  exact used_at h1 hok
theorem loose_m (h : Ds W R l w) (hi : l[i]? = some (g, d)) (hok : Ok d K) :
    Calls Try.prog 18 #[.pointer (some ⟨g, 0, none⟩)] w fun x w' => x = .returned (.int .i64 (looseR d.lo)) ∧ Below w.heap.size w w' := by
  obtain ⟨F, h1, _⟩ := h.get hi
  exact loose_at h1 hok
theorem new_m (h : Ds W R l w) :
    Calls Try.prog 10 #[] w fun x w' => ∃ g, x = .returned (.pointer (some ⟨g, 0, none⟩)) ∧ Ds W R (l ++ [(g, ⟨[], []⟩)]) w' ∧ Below w.heap.size w w' := by
  refine (newD_at w).mono ?_
  rintro x w' ⟨g, F, rfl, h1, h2, h3⟩
  exact ⟨g, rfl, h.add stands h1 h3 h2, h2⟩
end
namespace Dk
def abc : List UInt8 := [97, 98, 99]
def d1 : D := ⟨[⟨1, [97, 98, 99], 0⟩], [(1, 3)]⟩
def d2 : D := ⟨[⟨1, [97, 98, 99], 3⟩], []⟩
def d3 : D := ⟨[⟨1, [97, 98, 99, 100, 101], 3⟩], [(1, 2)]⟩
def d4 : D := ⟨[⟨1, [97, 98, 99, 100], 4⟩], []⟩
theorem d_1 : appD ⟨[], []⟩ 1 [97, 98, 99] = d1 := rfl
theorem d_2 : syncD d1 1 = d2 := rfl
theorem d_3 : appD d2 1 [100, 101] = d3 := rfl
theorem d_4 : crashD d3 1 = d4 := rfl
theorem d_5 : crashN d3 1 = 1 := rfl
theorem d_6 : bsD d4 1 = [97, 98, 99, 100] := rfl
theorem d_7 : there d4 1 = 0 := rfl
theorem d_8 : synF d4.fs 1 = 4 := rfl
theorem d_9 : truE d4 1 9 = 1 := rfl
theorem ok1 : Ok d1 1 := by rw [← d_1]; exact (Ok.nil 0).app 1 _
theorem ok2 : Ok d2 1 := by rw [← d_2]; exact ok1.sync 1
theorem ok3 : Ok d3 2 := by rw [← d_3]; exact ok2.app 1 _
theorem ok4 : Ok d4 2 := by rw [← d_4]; exact ok3.crash 1
end Dk
namespace Dk
theorem conv_bytes {W : World} {B : Nat} {A : Option Addr} (c : Nat) {bs : List UInt8} (hr : Mem.Rd W B A (bs.map Mem.byteV)) :
    (convert 24 9 (.slice A bs.length c)).run Try.prog W = .ok (.string ⟨bs.toArray⟩) W := by
  rcases hr with h | ⟨b, o, rfl, hb, hc⟩
  · have h0 : bs = [] := by simpa using h
    subst h0
    cases A with
    | none => exact run_convert_bytes_nil W _ _ Try.underlying24 Try.underlying5 0 c _ Try.underlying9
    | some a => exact run_convert_bytes_back W _ _ _ a c [] Try.underlying24 Try.underlying5 Try.underlying9 (fun j hj => by simp at hj)
  · refine run_convert_bytes_back W _ _ _ ⟨b, o, none⟩ c bs Try.underlying24 Try.underlying5 Try.underlying9 (fun j hj => ?_)
    rw [Mem.add_flat]
    exact hc j _ (by simp [hj, Mem.byteV])
end Dk
open Dk in
set_option maxHeartbeats 4000000 in
theorem diskAble_any (w : World) :
    Calls Try.prog 9 #[] w fun e w' => e = .returned (.bool true) ∧ Below w.heap.size w w' := by
  have kc : ∀ (W : World) (s : Nat) (C : Array Value) (n c : Nat), W.heap.size = s → (convert 24 24 (.slice (some ⟨s, 0, none⟩) n c)).run Try.prog (W.alloc (.cells C 5)) = .ok (.slice (some ⟨s, 0, none⟩) n c) (W.alloc (.cells C 5 (C.size, C.size + 1))) :=
    fun W s C n c hs => by subst hs; exact Lib.run_convert_bytes_const (P := Try.prog) W 24 5 C n c Try.underlying24 Try.underlying5
  have HN := Lib.hid (new_m (Mem.Many.none DAt w))
  go_enter Try.func9, Try.ntmps9
  go_upto_region 4 with (go_at_call 10; refine HN.out.mono ?_; rintro x w1 ⟨g, rfl, h1, hb1⟩; rw [List.nil_append] at h1; have HM := Lib.hid h1; clear h1 hb1 HN)
  have hA := append_m (HM.out.more stands (Reg.below_new (w := w1) (.cells #[.int .u8 97, .int .u8 98, .int .u8 99] 5 (3, 3 + 1))) (R' := fun k => k = w1.heap.size) (fun k hk => by subst hk; simp)) (i := 0) rfl (Ok.nil 0) (by omega) (n := 1) ⟨by decide, by decide⟩ (X := some ⟨w1.heap.size, 0, none⟩) (bs := [97, 98, 99]) (cx := 3) ((Mem.Rd.alloc_new w1 _ _ _ rfl).more (by simp)) (fun k hk => by cases hk; exact .inr (.inr rfl)) (by decide)
  have HX := Lib.hid hA
  have hc := kc w1 w1.heap.size #[.int .u8 97, .int .u8 98, .int .u8 99] 3 3 rfl
  clear hA
  go_upto_region 5 with (go_at_call 11; (refine HX.out.mono ?_); rintro x w2 ⟨rfl, h1, _⟩; have HM2 := Lib.hid (h1.less (R' := fun _ => False) (fun _ h => h.elim)); clear h1 HX hc HM)
  simp only [List.set_cons_zero] at HM2
  rw [d_1] at HM2
  have HX := Lib.hid (sync_m HM2.out (i := 0) rfl ok1 (by omega) (n := 1) ⟨by decide, by decide⟩)
  go_upto_region 6 with (go_at_call 21; (refine HX.out.mono ?_); rintro x w3 ⟨rfl, h1, _⟩; have HM3 := Lib.hid h1; clear h1 HX HM2)
  simp only [List.set_cons_zero] at HM3
  rw [d_2] at HM3
  have hA := append_m (HM3.out.more stands (Reg.below_new (w := w3) (.cells #[.int .u8 100, .int .u8 101] 5 (2, 2 + 1))) (R' := fun k => k = w3.heap.size) (fun k hk => by subst hk; simp)) (i := 0) rfl ok2 (by omega) (n := 1) ⟨by decide, by decide⟩ (X := some ⟨w3.heap.size, 0, none⟩) (bs := [100, 101]) (cx := 2) ((Mem.Rd.alloc_new w3 _ _ _ rfl).more (by simp)) (fun k hk => by cases hk; exact .inr (.inr rfl)) (by decide)
  have HX := Lib.hid hA
  have hc := kc w3 w3.heap.size #[.int .u8 100, .int .u8 101] 2 2 rfl
  clear hA
  go_upto_region 7 with (go_at_call 11; (refine HX.out.mono ?_); rintro x w4 ⟨rfl, h1, _⟩; have HM4 := Lib.hid (h1.less (R' := fun _ => False) (fun _ h => h.elim)); clear h1 HX hc HM3)
  simp only [List.set_cons_zero] at HM4
  rw [d_3] at HM4
  have HX := Lib.hid (crash_m HM4.out (i := 0) rfl ok3 (keep := 1) ⟨by decide, by decide⟩)
  rw [d_4, d_5] at HX
  go_upto_region 8 with (go_at_call 12; (refine HX.out.mono ?_); rintro x w5 ⟨rfl, h1, _⟩; have HM5 := Lib.hid h1; clear h1 HX HM4)
  simp only [List.set_cons_zero] at HM5
  have HX := Lib.hid (read_m HM5.out (i := 0) rfl ok4 (n := 1) ⟨by decide, by decide⟩)
  go_upto_region 9 with (go_at_call 13; (refine HX.out.mono ?_); rintro x w6 ⟨A, c, rfl, h1, _, h3⟩; have HM6 := Lib.hid (HM5.out.below stands h3); have HO6 := Lib.hid h1; rw [d_6] at HO6; rw [d_6, d_7]; clear h1 h3 HX HM5)
  have hcv : (convert 24 9 (.slice A 4 c)).run Try.prog w6 = .ok (.string ⟨#[97, 98, 99, 100]⟩) w6 := conv_bytes c HO6.out.rd
  have HX := Lib.hid (synced_m HM6.out (i := 0) rfl (n := 1) ⟨by decide, by decide⟩)
  have HY := Lib.hid (truncate_m HM6.out (i := 0) rfl ok4 (n := 1) ⟨by decide, by decide⟩ 9)
  rw [d_8] at HX
  rw [d_9] at HY
  clear HO6
  go_wp2_with (first | (go_at_call 20; refine HX.out.mono ?_; rintro x w7 ⟨rfl, rfl⟩; clear HX) | (go_at_call 27; (refine HY.out.mono ?_); rintro x w8 ⟨rfl, h1, _⟩; have HM8 := Lib.hid h1; clear h1 HY))
  go_ret
  exact ⟨rfl, HM8.out.bel⟩
theorem Dk.below_drewN {B : Nat} {W w : World} (h : Below B W w) (n : Nat) : Below B W (w.drewN n) := ⟨h.os, h.tape, h.output, h.size, h.block⟩
structure Dk.InRel (w : World) (xs ys : List Int) (v : Value) (wr : World) : Prop where
  out : ∃ k, k ≤ xs.length ∧ v = .int .i64 k ∧ Hid (xs.take k = ys.take k) ∧ Hid (Below w.heap.size w wr)
open Dk in
set_option maxHeartbeats 4000000 in
theorem ints_any {w : World} {A A2 : Option Addr} {c c2 : Nat} {xs ys : List Int} (hx : Mem.Rd w w.heap.size A (xs.map (Value.int .i64))) (hy : Mem.Rd w w.heap.size A2 (ys.map (Value.int .i64))) (hxl : xs.length ≤ maxLen) (hyl : ys.length ≤ maxLen) :
    Calls Try.prog 14 #[.slice A xs.length c, .slice A2 ys.length c2] w fun e w' => e = .returned (.bool (decide (xs = ys))) ∧ Below w.heap.size w w' := by
  have HXR := Lib.hid hx
  have HYR := Lib.hid hy
  unfold maxLen at hxl hyl
  clear hx hy
  go_enter Try.func14, Try.ntmps14
  by_cases hl : xs.length = ys.length
  · have hl2 : ys.length = xs.length := hl.symm
    rw [hl2]
    rw [hl2] at hyl
    have HL := Lib.hid hl
    clear hl hl2
    go_wp2
    go_loopw [5] (InRel w xs ys) (fun t _ => xs.length - (intOf t).toNat)
    case atStart => exact ⟨⟨0, by omega, rfl, rfl, Below.refl _ _⟩⟩
    case round =>
      obtain ⟨k, hk, rfl, HT, HB⟩ := hrel.out
      clear hrel
      by_cases hlt : k < xs.length
      · obtain ⟨x, hx⟩ : ∃ x, xs[k]? = some x := ⟨_, List.getElem?_eq_getElem hlt⟩
        obtain ⟨y, hy⟩ : ∃ y, ys[k]? = some y := ⟨_, List.getElem?_eq_getElem (by have := HL.out; omega)⟩
        obtain ⟨b, o, rfl, hb, hc⟩ := (HXR.out.below HB.out).at (k := k) (by simpa using hlt)
        obtain ⟨b2, o2, rfl, hb2, hc2⟩ := (HYR.out.below HB.out).at (k := k) (by have := HL.out; simp; omega)
        have y0 : wr.cell? ⟨b, o + k, none⟩ = some (.int .i64 x) := by rw [hc]; simp [(List.getElem?_eq_some_iff.1 hx).2]
        have y1 : wr.cell? ⟨b2, o2 + k, none⟩ = some (.int .i64 y) := by rw [hc2]; simp [(List.getElem?_eq_some_iff.1 hy).2]
        have d1 : decide ((k : Int) < (xs.length : Int)) = true := by simp; omega
        have HX := Lib.hid hx
        have HY := Lib.hid hy
        clear hx hy hc hc2
        by_cases he : x = y
        · subst he
          go_upto_region 6 with fail
          go_quiet (fail)
          go_wp2
          go_roundw
          case rel => exact ⟨⟨k + 1, by omega, by go_num, Lib.hid (by rw [Mem.take_snoc HX.out, Mem.take_snoc HY.out, HT.out]), below_drewN HB.out _⟩⟩
          case measure => simp [intOf]; omega
        · have hd : decide (xs = ys) = false := by
            have h1 := HX.out; have h2 := HY.out
            rw [decide_eq_false_iff_not]; intro e; subst e; rw [h1] at h2; exact he (Option.some.inj h2)
          have HDD := Lib.hid hd
          clear hd
          go_upto_region 6 with fail
          go_quiet (fail)
          go_wp2
          go_ret
          exact ⟨by rw [HDD.out]; rfl, below_drewN HB.out _⟩
      · obtain rfl : k = xs.length := by omega
        have hd : decide (xs = ys) = true := by
          have h1 := HT.out
          rw [List.take_of_length_le (Nat.le_refl _), List.take_of_length_le (by have := HL.out; omega)] at h1
          exact decide_eq_true h1
        have HDD := Lib.hid hd
        have d1 : decide ((xs.length : Int) < (xs.length : Int)) = false := by simp
        clear hlt hk hd
        go_wp2
        go_ret
        exact ⟨by rw [HDD.out]; rfl, HB.out⟩
  · have hd : decide (xs = ys) = false := by rw [decide_eq_false_iff_not]; intro e; subst e; exact hl rfl
    rw [hd]
    have d1 : decide ((xs.length : Int) = (ys.length : Int)) = false := by simp; omega
    go_wp2
    go_ret
    exact ⟨rfl, Below.refl _ _⟩
end Go.Proofs.Ytfpfpdhfnleebaa
