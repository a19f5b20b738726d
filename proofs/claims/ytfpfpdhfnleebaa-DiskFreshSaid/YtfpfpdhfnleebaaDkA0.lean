/- A disk and the document's disk side by side in memory; the methods' contracts there. No conditions. -/
import Derived.Test.YtfpfpdhfnleebaaDf9
set_option maxRecDepth 8000
namespace Go.Proofs.Ytfpfpdhfnleebaa
open Go.ChangeShapes Go.WideShapes Go.ChangeAt Go.RowKit
set_option linter.unusedVariables false
set_option linter.unusedSimpArgs false
namespace Df
theorem QEnd.of {w : World} {g : Nat} {F G : Nat → Prop} {q' : Q} {v : Value} {x : Ending} {w' : World} (h : QEnd w g G q' v x w') (hF : ∀ k, F k ↔ G k) : QEnd w g F q' v x w' := by
  obtain ⟨F', h1, h2⟩ := h.a
  exact ⟨h.r, ⟨F', h1, fun k hk => (h2 k hk).imp (hF k).2 id⟩, h.k.mono (fun k hk _ => (hF k).2 hk)⟩
end Df
namespace Dq
abbrev X := Dk.D ⊕ Df.Q
def BAt (w : World) (g : Nat) (x : X) (F : Nat → Prop) : Prop := match x with
  | .inl d => Dk.DAt w g d F
  | .inr q => Df.QAt w g q F
theorem standsB : Mem.Stands BAt := by
  constructor
  · intro w w' g d F S h hk hS
    cases d with
    | inl d => exact Dk.DAt.keeps h hk hS
    | inr q => exact Df.QAt.keeps h hk hS
  · intro w g d F k h hF
    cases d with
    | inl d => exact Dk.DAt.lt h hF
    | inr q => exact Df.QAt.lt h hF
abbrev Ms := Mem.Many BAt
theorem dcalls {W w : World} {R : Nat → Prop} {l : List (Nat × X)} {i g : Nat} {d d' : Dk.D} {v : Value} {f : FuncId} {args : Array Value} (h : Ms W R l w) (hi : l[i]? = some (g, .inl d)) (hc : ∀ F, Dk.DAt w g d F → (∀ k, F k → W.heap.size ≤ k ∧ ¬ R k) → Calls Try.prog f args w (Dk.DEnd w g F d' v)) :
    Calls Try.prog f args w (Dk.MEnd BAt W R (l.set i (g, .inl d')) v w) := by
  obtain ⟨F, h1, h2, h3⟩ := h.turn standsB hi
  refine (hc F h1 h2).mono ?_
  rintro x w' ⟨h4, ⟨F', h5, h6⟩, h7⟩
  exact ⟨h4, h3 w' (.inl d') F' h5 h6 h7⟩
theorem qcalls {W w : World} {R : Nat → Prop} {l : List (Nat × X)} {i g : Nat} {q : Df.Q} {Z : Df.Q → Prop} {v : Value} {f : FuncId} {args : Array Value} (h : Ms W R l w) (hi : l[i]? = some (g, .inr q)) (hc : ∀ F, Df.QAt w g q F → (∀ k, F k → W.heap.size ≤ k ∧ ¬ R k) → Calls Try.prog f args w fun x w' => ∃ q', Z q' ∧ Df.QEnd w g F q' v x w') :
    Calls Try.prog f args w fun x w' => ∃ q', Z q' ∧ Dk.MEnd BAt W R (l.set i (g, .inr q')) v w x w' := by
  obtain ⟨F, h1, h2, h3⟩ := h.turn standsB hi
  refine (hc F h1 h2).mono ?_
  rintro x w' ⟨q', hz, h4, ⟨F', h5, h6⟩, h7⟩
  exact ⟨q', hz, h4, h3 w' (.inr q') F' h5 h6 h7⟩
section
variable {W w : World} {R : Nat → Prop} {l : List (Nat × X)} {i g : Nat} {d : Dk.D} {q : Df.Q} {P : List (Nat × Int)} {K : Nat}
open Dk (okI)
theorem append_d (h : Ms W R l w) (hi : l[i]? = some (g, .inl d)) (hok : Dk.Ok d K) (hK : K ≤ 99999) {n : Int} (hn : okI n) {X : Option Addr} {cx : Nat} {bs : List UInt8} (hR : Mem.Rd w w.heap.size X (bs.map Mem.byteV)) (hX : ∀ k, Mem.blk X = some k → k < W.heap.size ∨ R k) (hb : bs.length ≤ 1000000000) :
    Calls Try.prog 11 #[.pointer (some ⟨g, 0, none⟩), .int .i64 n, .slice X bs.length cx] w (Dk.MEnd BAt W R (l.set i (g, .inl (Dk.appD d n bs))) (.int .i64 (Dk.appE d n bs)) w) :=
  dcalls h hi fun F h1 h2 => append_at h1 hok hK hn hR (fun k hk hF => by have := h2 k hF; rcases hX k hk with h | h; omega; exact this.2 h) hb
theorem sync_d (h : Ms W R l w) (hi : l[i]? = some (g, .inl d)) (hok : Dk.Ok d K) (hK : K ≤ 100000) {n : Int} (hn : okI n) :
    Calls Try.prog 21 #[.pointer (some ⟨g, 0, none⟩), .int .i64 n] w (Dk.MEnd BAt W R (l.set i (g, .inl (Dk.syncD d n))) (.int .i64 (Dk.there d n)) w) :=
  dcalls h hi fun F h1 h2 => sync_at h1 hok hK hn
theorem remove_d (h : Ms W R l w) (hi : l[i]? = some (g, .inl d)) (hok : Dk.Ok d K) (hK : K ≤ 100000) {n : Int} (hn : okI n) :
    Calls Try.prog 26 #[.pointer (some ⟨g, 0, none⟩), .int .i64 n] w (Dk.MEnd BAt W R (l.set i (g, .inl (Dk.removeD d n))) (.int .i64 (Dk.there d n)) w) :=
  dcalls h hi fun F h1 h2 => remove_at h1 hok hK hn
theorem truncate_d (h : Ms W R l w) (hi : l[i]? = some (g, .inl d)) (hok : Dk.Ok d K) {n : Int} (hn : okI n) (k : Int) :
    Calls Try.prog 27 #[.pointer (some ⟨g, 0, none⟩), .int .i64 n, .int .i64 k] w (Dk.MEnd BAt W R (l.set i (g, .inl (Dk.truD d n k))) (.int .i64 (Dk.truE d n k)) w) :=
  dcalls h hi fun F h1 h2 => truncate_at h1 hok hn k
theorem crash_d (h : Ms W R l w) (hi : l[i]? = some (g, .inl d)) (hok : Dk.Ok d K) {keep : Int} (hk : okI keep) :
    Calls Try.prog 12 #[.pointer (some ⟨g, 0, none⟩), .int .i64 keep] w (Dk.MEnd BAt W R (l.set i (g, .inl (Dk.crashD d keep))) (.int .i64 (Dk.crashN d keep)) w) :=
  dcalls h hi fun F h1 h2 => crash_at h1 hok hk
theorem new_d (h : Ms W R l w) :
    Calls Try.prog 10 #[] w fun x w' => ∃ g, x = .returned (.pointer (some ⟨g, 0, none⟩)) ∧ Ms W R (l ++ [(g, .inl ⟨[], []⟩)]) w' ∧ Below w.heap.size w w' := by
  refine (newD_at w).mono ?_
  rintro x w' ⟨g, F, rfl, h1, h2, h3⟩
  exact ⟨g, rfl, h.add standsB (e := .inl ⟨[], []⟩) h1 h3 h2, h2⟩
theorem new_q (h : Ms W R l w) :
    Calls Try.prog 22 #[] w fun x w' => ∃ g, x = .returned (.pointer (some ⟨g, 0, none⟩)) ∧ Ms W R (l ++ [(g, .inr ⟨[], 0⟩)]) w' ∧ Below w.heap.size w w' := by
  refine (dfNew_any w).mono ?_
  rintro x w' ⟨g, rfl, h1, h2, h3⟩
  refine ⟨g, rfl, h.add standsB (e := .inr ⟨[], 0⟩) (Df.DS.qat h1 rfl) ?_ h2, h2⟩
  rintro k (rfl | hk | ⟨r, hr, _⟩)
  · exact h3
  · cases hk
  · cases hr
/-- what an act leaves of the document's disk -/
def Nxt (q : Df.Q) (d' : Dk.D) (m : Nat) (q' : Df.Q) : Prop := (∃ P', Rel d' q' P') ∧ q'.time ≤ q.time + m
theorem Rel.cm (h : Rel d q P) {b : Nat} (ht : q.time ≤ b) : ∀ f ∈ q.l, ∀ t ∈ f.cm, t ≤ b := by
  intro f hf t ht'
  obtain ⟨f0, _, rfl⟩ := List.mem_map.1 (h.prm.mem_iff.1 hf)
  unfold img at ht'
  rcases List.mem_append.1 ht' with h1 | h1
  · have := List.eq_of_mem_replicate h1; omega
  · have := (h.pos _ (tm_mem h1)).2; dsimp only at this; omega
theorem append_q (h : Ms W R l w) (hi : l[i]? = some (g, .inr q)) (hrel : Rel d q P) (hok : Dk.Ok d K) (ht : q.time ≤ 100000000) (n : Int) {X : Option Addr} {cx : Nat} {bs : List UInt8} (hR : Mem.Rd w W.heap.size X (bs.map Mem.byteV)) (hb : bs.length ≤ 1000000000) :
    Calls Try.prog 31 #[.pointer (some ⟨g, 0, none⟩), .int .i64 n, .slice X bs.length cx] w fun x w' => ∃ q', Nxt q (Dk.appD d n bs) bs.length q' ∧ Dk.MEnd BAt W R (l.set i (g, .inr q')) (.int .i64 (Dk.appE d n bs)) w x w' := by
  refine qcalls h hi fun F h1 h2 => ?_
  obtain ⟨A, c, rs, hD, hf, hF⟩ := h1
  have hu := hrel.used
  have hu2 := hok.used
  have hc := hrel.count
  have hc2 := hok.cnt
  have hlen : rs.length = q.l.length := by rw [← hf, List.length_map]
  have hq : (⟨rs.map (·.f), q.time⟩ : Df.Q) = q := by rw [hf]
  have h3 := dfAppend_any hD n (cx := cx) hR (fun k hk => (h2 k ((hF k).2 hk)).1) h.bel.size hb (by rw [hf]; omega) (by omega) (by omega)
  rw [hq] at h3
  refine h3.mono fun x w' h4 => ⟨Df.appQ q n bs, ⟨hrel.append hok n bs, ?_⟩, ?_⟩
  · unfold Df.appQ
    split
    · exact Nat.le_refl _
    · omega
  · rw [hrel.appE hok] at h4
    exact h4.of hF
theorem sync_q (h : Ms W R l w) (hi : l[i]? = some (g, .inr q)) (hrel : Rel d q P) (hok : Dk.Ok d K) (n : Int) :
    Calls Try.prog 32 #[.pointer (some ⟨g, 0, none⟩), .int .i64 n] w fun x w' => ∃ q', Nxt q (Dk.syncD d n) 0 q' ∧ Dk.MEnd BAt W R (l.set i (g, .inr q')) (.int .i64 (Dk.there d n)) w x w' := by
  refine qcalls h hi fun F h1 h2 => ?_
  obtain ⟨A, c, rs, hD, hf, hF⟩ := h1
  have hq : (⟨rs.map (·.f), q.time⟩ : Df.Q) = q := by rw [hf]
  have h3 := dfSync_any hD n
  rw [hq, hf] at h3
  refine h3.mono fun x w' h4 => ⟨Df.syncQ q n, ⟨hrel.sync hok n, Nat.le_refl _⟩, ?_⟩
  rw [hrel.er hok] at h4
  exact h4.of hF
theorem remove_q (h : Ms W R l w) (hi : l[i]? = some (g, .inr q)) (hrel : Rel d q P) (hok : Dk.Ok d K) (n : Int) :
    Calls Try.prog 34 #[.pointer (some ⟨g, 0, none⟩), .int .i64 n] w fun x w' => ∃ q', Nxt q (Dk.removeD d n) 0 q' ∧ Dk.MEnd BAt W R (l.set i (g, .inr q')) (.int .i64 (Dk.there d n)) w x w' := by
  refine qcalls h hi fun F h1 h2 => ?_
  obtain ⟨A, c, rs, hD, hf, hF⟩ := h1
  have hc := hrel.count
  have hc2 := hok.cnt
  have hlen : rs.length = q.l.length := by rw [← hf, List.length_map]
  have hq : (⟨rs.map (·.f), q.time⟩ : Df.Q) = q := by rw [hf]
  have h3 := dfRemove_any hD n (by omega)
  rw [hq, hf] at h3
  refine h3.mono fun x w' h4 => ⟨Df.removeQ q n, ⟨hrel.remove hok n, ?_⟩, ?_⟩
  · unfold Df.removeQ
    split <;> exact Nat.le_refl _
  · rw [hrel.er hok] at h4
    exact h4.of hF
theorem truncate_q (h : Ms W R l w) (hi : l[i]? = some (g, .inr q)) (hrel : Rel d q P) (hok : Dk.Ok d K) (n k : Int) :
    Calls Try.prog 33 #[.pointer (some ⟨g, 0, none⟩), .int .i64 n, .int .i64 k] w fun x w' => ∃ q', Nxt q (Dk.truD d n k) 0 q' ∧ Dk.MEnd BAt W R (l.set i (g, .inr q')) (.int .i64 (Dk.truE d n k)) w x w' := by
  refine qcalls h hi fun F h1 h2 => ?_
  obtain ⟨A, c, rs, hD, hf, hF⟩ := h1
  have hq : (⟨rs.map (·.f), q.time⟩ : Df.Q) = q := by rw [hf]
  have h3 := dfTruncate_any hD n k
  rw [hq, hf] at h3
  refine h3.mono fun x w' h4 => ⟨Df.truQ q n k, ⟨hrel.trunc hok n k, ?_⟩, ?_⟩
  · unfold Df.truQ
    split <;> exact Nat.le_refl _
  · rw [hrel.truE hok] at h4
    exact h4.of hF
theorem crash_q (h : Ms W R l w) (hi : l[i]? = some (g, .inr q)) (hrel : Rel d q P) (hok : Dk.Ok d K) (ht : q.time ≤ 100000000) {keep : Int} (hk : okI keep) :
    Calls Try.prog 35 #[.pointer (some ⟨g, 0, none⟩), .int .i64 keep] w fun x w' => ∃ q', Nxt q (Dk.crashD d keep) 0 q' ∧ Dk.MEnd BAt W R (l.set i (g, .inr q')) (.int .i64 (Dk.crashN d keep)) w x w' := by
  refine qcalls h hi fun F h1 h2 => ?_
  obtain ⟨A, c, rs, hD, hf, hF⟩ := h1
  have hu := hrel.used
  have hu2 := hok.used
  have hq : (⟨rs.map (·.f), q.time⟩ : Df.Q) = q := by rw [hf]
  have h3 := dfCrash_any hD keep hk (by rw [hf]; omega) (by omega) (by rw [hf]; exact hrel.srt) (by rw [hf]; exact hrel.cm (by omega))
  rw [hq, hf] at h3
  refine h3.mono ?_
  rintro x w' ⟨last, hl, h4⟩
  obtain ⟨h5, h6⟩ := hrel.crash hok hl
  refine ⟨crashQ last q, ⟨⟨[], h5⟩, Nat.le_refl _⟩, ?_⟩
  rw [h6] at h4
  exact h4.of hF
/-! what is told -/
theorem read_q (h : Ms W R l w) (hi : l[i]? = some (g, .inr q)) (hrel : Rel d q P) (hok : Dk.Ok d K) (n : Int) :
    Calls Try.prog 39 #[.pointer (some ⟨g, 0, none⟩), .int .i64 n] w fun x w' => ∃ A' c' m, x = .returned (.tuple #[.slice A' (Dk.bsD d n).length c', .int .i64 (Dk.there d n)]) ∧ w' = w.drewN m ∧ Mem.Rd w w.heap.size A' ((Dk.bsD d n).map Mem.byteV) := by
  obtain ⟨F, ⟨A, c, rs, hD, hf, hF⟩, _⟩ := h.get hi
  have h3 := dfRead_any hD n
  rw [hf, hrel.bs hok, hrel.er hok] at h3
  exact h3
theorem files_q (h : Ms W R l w) (hi : l[i]? = some (g, .inr q)) (hrel : Rel d q P) (hok : Dk.Ok d K) :
    Calls Try.prog 36 #[.pointer (some ⟨g, 0, none⟩)] w (FsEnd d w) := by
  obtain ⟨F, ⟨A, c, rs, hD, hf, hF⟩, _⟩ := h.get hi
  have hc := hrel.count
  have hc2 := hok.cnt
  have hlen : rs.length = q.l.length := by rw [← hf, List.length_map]
  have h3 := dfFiles_any hD (by omega)
  have e1 : ((rs.map (·.f)).map fun f => Value.int .i64 f.n) = (Dk.filesD d).map (Value.int .i64) := by rw [hf, ← hrel.files, List.map_map]; rfl
  have e2 : rs.length = (Dk.filesD d).length := by rw [← hrel.files, List.length_map, hlen]
  rw [e1, e2] at h3
  exact h3
theorem used_q (h : Ms W R l w) (hi : l[i]? = some (g, .inr q)) (hrel : Rel d q P) (hok : Dk.Ok d K) :
    Calls Try.prog 37 #[.pointer (some ⟨g, 0, none⟩)] w fun x w' => x = .returned (.int .i64 (Dk.usedD d)) ∧ w' = w := by
  obtain ⟨F, ⟨A, c, rs, hD, hf, hF⟩, _⟩ := h.get hi
  have hu := hrel.used
  have hu2 := hok.used
  have h3 := dfUsed_any hD (by rw [hf]; omega)
  rw [hf, hu] at h3
  exact h3
theorem loose_q (h : Ms W R l w) (hi : l[i]? = some (g, .inr q)) (hrel : Rel d q P) (hok : Dk.Ok d K) :
    Calls Try.prog 38 #[.pointer (some ⟨g, 0, none⟩)] w fun x w' => x = .returned (.int .i64 (Dk.looseR d.lo)) ∧ ∃ m, w' = w.drewN m := by
  obtain ⟨F, ⟨A, c, rs, hD, hf, hF⟩, _⟩ := h.get hi
  have hu := hrel.used
  have hu2 := hok.used
  have h3 := dfLoose_any hD (by rw [hf]; omega) (by rw [hf]; exact hrel.srt)
  rw [hf, hrel.loose hok] at h3
  exact h3
theorem size_q (h : Ms W R l w) (hi : l[i]? = some (g, .inr q)) (hrel : Rel d q P) (hok : Dk.Ok d K) (n : Int) (m : Nat) :
    Calls Try.prog 40 #[.pointer (some ⟨g, 0, none⟩), .int .i64 n] (w.drewN m) fun x w' => x = .returned (.int .i64 (Dk.lenF d.fs n)) ∧ ∃ m, w' = w.drewN m := by
  obtain ⟨F, ⟨A, c, rs, hD, hf, hF⟩, _⟩ := h.get hi
  have h3 := dfSize_any (hD.drewN m) n
  rw [hf, hrel.len hok] at h3
  refine h3.mono ?_
  rintro x w' ⟨rfl, k, rfl⟩
  exact ⟨rfl, m + k, World.drewN_drewN _ _ _⟩
theorem synced_q (h : Ms W R l w) (hi : l[i]? = some (g, .inr q)) (hrel : Rel d q P) (hok : Dk.Ok d K) (n : Int) (m : Nat) :
    Calls Try.prog 41 #[.pointer (some ⟨g, 0, none⟩), .int .i64 n] (w.drewN m) fun x w' => x = .returned (.int .i64 (Dk.synF d.fs n)) ∧ ∃ m, w' = w.drewN m := by
  obtain ⟨F, ⟨A, c, rs, hD, hf, hF⟩, _⟩ := h.get hi
  have h3 := dfSynced_any (hD.drewN m) n
  rw [hf, hrel.syn hok] at h3
  refine h3.mono ?_
  rintro x w' ⟨rfl, k, rfl⟩
  exact ⟨rfl, m + k, World.drewN_drewN _ _ _⟩
theorem size_d (h : Ms W R l w) (hi : l[i]? = some (g, .inl d)) {n : Int} (hn : okI n) (m : Nat) :
    Calls Try.prog 25 #[.pointer (some ⟨g, 0, none⟩), .int .i64 n] (w.drewN m) fun x w' => x = .returned (.int .i64 (Dk.lenF d.fs n)) ∧ ∃ m, w' = w.drewN m := by
  obtain ⟨F, h1, _⟩ := (h.drewN standsB m).get hi
  refine (size_at h1 hn).mono ?_
  rintro x w' ⟨rfl, rfl⟩
  exact ⟨rfl, m, rfl⟩
theorem synced_d (h : Ms W R l w) (hi : l[i]? = some (g, .inl d)) {n : Int} (hn : okI n) (m : Nat) :
    Calls Try.prog 20 #[.pointer (some ⟨g, 0, none⟩), .int .i64 n] (w.drewN m) fun x w' => x = .returned (.int .i64 (Dk.synF d.fs n)) ∧ ∃ m, w' = w.drewN m := by
  obtain ⟨F, h1, _⟩ := (h.drewN standsB m).get hi
  refine (synced_at h1 hn).mono ?_
  rintro x w' ⟨rfl, rfl⟩
  exact ⟨rfl, m, rfl⟩
theorem read_d (h : Ms W R l w) (hi : l[i]? = some (g, .inl d)) (hok : Dk.Ok d K) {n : Int} (hn : okI n) :
    Calls Try.prog 13 #[.pointer (some ⟨g, 0, none⟩), .int .i64 n] w (RdEnd d n w) := by
  obtain ⟨F, h1, _⟩ := h.get hi
  exact read_at h1 hok hn
theorem files_d (h : Ms W R l w) (hi : l[i]? = some (g, .inl d)) (hok : Dk.Ok d K) :
    Calls Try.prog 15 #[.pointer (some ⟨g, 0, none⟩)] w (FsEnd d w) := by
  obtain ⟨F, h1, _⟩ := h.get hi
  exact files_at h1 hok
theorem used_d (h : Ms W R l w) (hi : l[i]? = some (g, .inl d)) (hok : Dk.Ok d K) :
    Calls Try.prog 19 #[.pointer (some ⟨g, 0, none⟩)] w fun x w' => x = .returned (.int .i64 (Dk.usedD d)) ∧ Below w.heap.size w w' := by
  obtain ⟨F, h1, _⟩ := h.get hi
  exact used_at h1 hok
theorem loose_d (h : Ms W R l w) (hi : l[i]? = some (g, .inl d)) (hok : Dk.Ok d K) :
    Calls Try.prog 18 #[.pointer (some ⟨g, 0, none⟩)] w fun x w' => x = .returned (.int .i64 (Dk.looseR d.lo)) ∧ Below w.heap.size w w' := by
  obtain ⟨F, h1, _⟩ := h.get hi
  exact loose_at h1 hok
end
/-! acts -/
structure Ac where
  kind : Int
  file : Int
  n : Int
  B : Option Addr
  c : Nat
  bs : List UInt8
def acCells (a : Ac) : List Value := [.int .i64 a.kind, .int .i64 a.file, .int .i64 a.n, .slice a.B a.bs.length a.c]
theorem acCells_length (a : Ac) : (acCells a).length = 4 := rfl
def actD (d : Dk.D) (a : Ac) : Dk.D :=
  if a.kind = 1 then Dk.appD d a.file a.bs else if a.kind = 2 then Dk.syncD d a.file else if a.kind = 3 then Dk.truD d a.file a.n else if a.kind = 4 then Dk.removeD d a.file else if a.kind = 5 then Dk.crashD d a.n else d
theorem act_ok {d : Dk.D} {K : Nat} (h : Dk.Ok d K) (a : Ac) : Dk.Ok (actD d a) (K + 1) := by
  unfold actD
  split
  · exact h.app _ _
  split
  · exact (h.sync _).mono (by omega)
  split
  · exact (h.trunc _ _).mono (by omega)
  split
  · exact (h.remove _).mono (by omega)
  split
  · exact (h.crash _).mono (by omega)
  · exact h.mono (by omega)
def playD (l : List Ac) : Dk.D := l.foldl actD ⟨[], []⟩
theorem play_snoc {l : List Ac} {k : Nat} {a : Ac} (h : l[k]? = some a) : playD (l.take (k + 1)) = actD (playD (l.take k)) a := by
  unfold playD
  rw [Mem.take_snoc h, List.foldl_append]; rfl
theorem play_ok (l : List Ac) : Dk.Ok (playD l) l.length := by
  have : ∀ (l : List Ac) (d : Dk.D) (K : Nat), Dk.Ok d K → Dk.Ok (l.foldl actD d) (K + l.length) := by
    intro l
    induction l with
    | nil => intro d K h; exact h
    | cons a l ih =>
      intro d K h
      have := ih (actD d a) (K + 1) (act_ok h a)
      rw [List.foldl_cons, List.length_cons]
      exact this.mono (by omega)
  have := this l ⟨[], []⟩ 0 (Dk.Ok.nil 0)
  unfold playD
  exact this.mono (by omega)
end Dq
end Go.Proofs.Ytfpfpdhfnleebaa
