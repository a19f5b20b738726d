/- A coder's passes as lists of small steps, both ways; the text's step both ways. -/
import Derived.Test.YtkfgedgjpgehoaaWire11
import Derived.Test.YtkfgedgjpgehoaaWire12
import Derived.Test.YtkfgedgjpgehoaaCells
namespace Go.Proofs.Ytkfgedgjpgehoaa
open Go.ChangeShapes Go.WideShapes Go.ChangeAt Go.RowKit
set_option linter.unusedVariables false
set_option linter.unusedSimpArgs false
namespace Cells
theorem Ok.get : ∀ {ks : List Kd} {xs : List Value} {k : Nat} {kd : Kd}, Ok ks xs → ks[k]? = some kd → ∃ v, xs[k]? = some v ∧ ok kd v
  | _ :: _, v :: _, 0, kd, h, hk => by cases hk; exact ⟨v, rfl, h.1⟩
  | _ :: _, _ :: _, k + 1, kd, h, hk => by
    obtain ⟨v, h1, h2⟩ := Ok.get (k := k) h.2 (by simpa using hk)
    exact ⟨v, by simpa using h1, h2⟩
  | [], [], k, kd, h, hk => by simp at hk
  | [], _ :: _, k, kd, h, hk => h.elim
  | _ :: _, [], k, kd, h, hk => h.elim
theorem Ok.same : ∀ {ks : List Kd} {xs : List Value} {k : Nat} {v v' : Value}, Ok ks xs → xs[k]? = some v → (∀ kd, ok kd v → ok kd v') → Ok ks (xs.set k v')
  | _ :: _, v :: _, 0, _, v', h, hk, hs => by cases hk; exact ⟨hs _ h.1, h.2⟩
  | _ :: _, _ :: _, k + 1, v, v', h, hk, hs => ⟨h.1, Ok.same (k := k) h.2 (by simpa using hk) hs⟩
  | [], [], k, _, _, h, hk, _ => by simp at hk
  | [], _ :: _, k, _, _, h, hk, _ => h.elim
  | _ :: _, [], k, _, _, h, hk, _ => h.elim
theorem ok_int {kd : Kd} {a b : Int} (h : ok kd (.int .i64 a)) : ok kd (.int .i64 b) := by
  cases kd
  · exact ⟨b, rfl⟩
  · obtain ⟨_, h⟩ := h; cases h
  · obtain ⟨_, h⟩ := h; cases h
theorem ok_bool {kd : Kd} {a b : Bool} (h : ok kd (.bool a)) : ok kd (.bool b) := by
  cases kd
  · obtain ⟨_, h⟩ := h; cases h
  · exact ⟨b, rfl⟩
  · obtain ⟨_, h⟩ := h; cases h
theorem ok_str {kd : Kd} {a b : ByteArray} (h : ok kd (.string a)) : ok kd (.string b) := by
  cases kd
  · obtain ⟨_, h⟩ := h; cases h
  · obtain ⟨_, h⟩ := h; cases h
  · exact ⟨b, rfl⟩
end Cells
namespace Wi
def stepTx (r : Cd × List Value) (k : Nat) (m : Int) : Cd × List Value := match r.2[k]? with
  | some (.string s) => if r.1.reads = true then ((readTxt r.1).1, r.2.set k (.string (readTxt r.1).2)) else (stepTxt r.1 m s, r.2)
  | _ => r
def stepK (r : Cd × List Value) (k : Nat) (lo hi : Int) : Cd × List Value := match r.2[k]? with
  | some (.int .i64 v) => ({ r.1 with arg := r.1.arg || (decide (v < lo) || decide (hi < v)) }, r.2)
  | _ => r
inductive Mo where
  | n (k : Nat)
  | b (k : Nat)
  | t (k : Nat) (m : Int)
  | k (k : Nat) (lo hi : Int)
def stepM (r : Cd × List Value) : Mo → Cd × List Value
  | .n k => stepN r k
  | .b k => stepB r k
  | .t k m => stepTx r k m
  | .k k lo hi => stepK r k lo hi
def runM (ops : List Mo) (r : Cd × List Value) : Cd × List Value := ops.foldl stepM r
theorem runM_app (a b : List Mo) (r : Cd × List Value) : runM (a ++ b) r = runM b (runM a r) := List.foldl_append
def ns (off m : Nat) : List Mo := (List.range' off m).map Mo.n
theorem runM_ns (r : Cd × List Value) (off m : Nat) : runM (ns off m) r = foldR r off m := by
  unfold runM ns foldR
  rw [List.foldl_map]; rfl
theorem runM_b (k : Nat) (r : Cd × List Value) : runM [.b k] r = stepB r k := rfl
theorem runM_n (k : Nat) (r : Cd × List Value) : runM [.n k] r = stepN r k := rfl
theorem runM_t (k : Nat) (m : Int) (r : Cd × List Value) : runM [.t k m] r = stepTx r k m := rfl
theorem runM_k (k : Nat) (lo hi : Int) (r : Cd × List Value) : runM [.k k lo hi] r = stepK r k lo hi := rfl
theorem runM_cons (op : Mo) (ops : List Mo) (r : Cd × List Value) : runM (op :: ops) r = runM ops (stepM r op) := rfl
theorem runM_nil (r : Cd × List Value) : runM [] r = r := rfl
theorem stepM_n (k : Nat) (r : Cd × List Value) : stepM r (.n k) = stepN r k := rfl
theorem stepM_b (k : Nat) (r : Cd × List Value) : stepM r (.b k) = stepB r k := rfl
theorem stepM_t (k : Nat) (m : Int) (r : Cd × List Value) : stepM r (.t k m) = stepTx r k m := rfl
theorem stepM_k (k : Nat) (lo hi : Int) (r : Cd × List Value) : stepM r (.k k lo hi) = stepK r k lo hi := rfl
theorem foldR_2 (r : Cd × List Value) (off : Nat) : foldR r off 2 = [off, off + 1].foldl stepN r := rfl
def chainM (off : Nat) : List Mo := ns off 10 ++ [.b (off + 10)] ++ ns (off + 11) 2
theorem runM_chain (r : Cd × List Value) (off : Nat) : runM (chainM off) r = chainK r off := by
  unfold chainM chainK
  rw [runM_app, runM_app, runM_ns, runM_ns, runM_b]
def writeM (off : Nat) : List Mo := ns off 6 ++ [.t (off + 6) 16, .t (off + 7) 32, .b (off + 8)] ++ ns (off + 9) 9 ++ ns (off + 18) 2
structure Sz (ks : List Cells.Kd) (r : Cd × List Value) (L : Nat) : Prop where
  fit : Fit r.1 L
  ok : Cells.Ok ks r.2
  str : r.1.reads = false → ∀ (k : Nat) (s : ByteArray), r.2[k]? = some (.string s) → s.size ≤ 100000
theorem readTxt_reads (c : Cd) : (readTxt c).1.reads = c.reads := by
  unfold readTxt
  split
  · exact (takeC_same c).2.1
  · exact (takeC_same c).2.1
theorem stepT_reads (r : Cd × List Value) (k : Nat) (m : Int) : (stepTx r k m).1.reads = r.1.reads := by
  unfold stepTx
  split
  · split
    · exact readTxt_reads _
    · exact stepNum_reads _ _
  · rfl
theorem stepK_reads (r : Cd × List Value) (k : Nat) (lo hi : Int) : (stepK r k lo hi).1.reads = r.1.reads := by
  unfold stepK
  split <;> rfl
theorem stepM_reads (r : Cd × List Value) (op : Mo) : (stepM r op).1.reads = r.1.reads := by
  cases op
  · exact stepN_reads _ _
  · exact stepB_reads _ _
  · exact stepT_reads _ _ _
  · exact stepK_reads _ _ _ _
theorem runM_reads : ∀ (ops : List Mo) (r : Cd × List Value), (runM ops r).1.reads = r.1.reads
  | [], r => rfl
  | op :: ops, r => (runM_reads ops (stepM r op)).trans (stepM_reads r op)
/-- where a coder writes, the cells stay -/
theorem stepM_w {r : Cd × List Value} (h : r.1.reads = false) (op : Mo) : (stepM r op).2 = r.2 := by
  cases op
  · exact stepN_w h _
  · exact stepB_w h _
  · show (stepTx _ _ _).2 = _
    unfold stepTx
    split
    · rw [if_neg (by rw [h]; simp)]
    · rfl
  · show (stepK _ _ _ _).2 = _
    unfold stepK
    split <;> rfl
theorem runM_w : ∀ (ops : List Mo) {r : Cd × List Value}, r.1.reads = false → (runM ops r).2 = r.2
  | [], r, _ => rfl
  | op :: ops, r, h => (runM_w ops (r := stepM r op) (by rw [stepM_reads]; exact h)).trans (stepM_w h op)
theorem stepM_ok {ks : List Cells.Kd} {r : Cd × List Value} (h : Cells.Ok ks r.2) (op : Mo) : Cells.Ok ks (stepM r op).2 := by
  cases op with
  | n k =>
    show Cells.Ok ks (stepN r k).2
    unfold stepN
    split
    · rename_i v hv; exact h.same hv (fun _ h => Cells.ok_int h)
    · exact h
  | b k =>
    show Cells.Ok ks (stepB r k).2
    unfold stepB
    split
    · rename_i v hv; exact h.same hv (fun _ h => Cells.ok_bool h)
    · exact h
  | t k m =>
    show Cells.Ok ks (stepTx r k m).2
    unfold stepTx
    split
    · rename_i v hv
      split
      · exact h.same hv (fun _ h => Cells.ok_str h)
      · exact h
    · exact h
  | k k lo hi =>
    show Cells.Ok ks (stepK r k lo hi).2
    unfold stepK
    split <;> exact h
theorem Fit.mono {c : Cd} {L M : Nat} (h : Fit c L) (hM : L ≤ M) : Fit c M := ⟨h.pos, Nat.le_trans h.len hM⟩
theorem Sz.step {ks : List Cells.Kd} {r : Cd × List Value} {L : Nat} (h : Sz ks r L) (op : Mo) : Sz ks (stepM r op) (L + 100009) := by
  refine ⟨?_, stepM_ok h.ok op, fun hr k s hk => ?_⟩
  · cases op with
    | n k => exact (stepN_fit h.fit k).mono (by omega)
    | b k => exact (stepB_fit h.fit k).mono (by omega)
    | t k m =>
      show Fit (stepTx r k m).1 _
      unfold stepTx
      split
      · rename_i s hs
        split
        · exact (readTxt_fit h.fit).mono (by omega)
        · rename_i hr
          have := h.str (by simpa using hr) k s hs
          exact (stepTxt_fit h.fit m s).mono (by omega)
      · exact h.fit.mono (by omega)
    | k k lo hi =>
      show Fit (stepK r k lo hi).1 _
      unfold stepK
      split
      · exact ⟨h.fit.pos, Nat.le_trans h.fit.len (by omega)⟩
      · exact h.fit.mono (by omega)
  · rw [stepM_reads] at hr
    rw [stepM_w hr] at hk
    exact h.str hr k s hk
theorem Sz.run {ks : List Cells.Kd} : ∀ (ops : List Mo) {r : Cd × List Value} {L : Nat}, Sz ks r L → Sz ks (runM ops r) (L + 100009 * ops.length)
  | [], r, L, h => h
  | op :: ops, r, L, h => by
    have h1 := Sz.run ops (h.step op)
    rw [List.length_cons, show L + 100009 * (ops.length + 1) = L + 100009 + 100009 * ops.length by omega]
    exact h1
theorem Sz.runN {ks : List Cells.Kd} (ops : List Mo) (M : Nat) {r : Cd × List Value} {L : Nat} (h : Sz ks r L) (hM : 100009 * ops.length ≤ M) : Sz ks (runM ops r) (L + M) :=
  ⟨(h.run ops).fit.mono (by omega), (h.run ops).ok, (h.run ops).str⟩
theorem ns_len (off m : Nat) : (ns off m).length = m := by simp [ns]
theorem Sz.int {ks : List Cells.Kd} {r : Cd × List Value} {L : Nat} (h : Sz ks r L) {k : Nat} (hk : ks[k]? = some .i) : IsInt r.2 k := by
  obtain ⟨v, h1, n, rfl⟩ := h.ok.get hk
  exact ⟨n, h1⟩
theorem Sz.bool {ks : List Cells.Kd} {r : Cd × List Value} {L : Nat} (h : Sz ks r L) {k : Nat} (hk : ks[k]? = some .b) : IsBool r.2 k := by
  obtain ⟨v, h1, n, rfl⟩ := h.ok.get hk
  exact ⟨n, h1⟩
theorem Sz.txt {ks : List Cells.Kd} {r : Cd × List Value} {L : Nat} (h : Sz ks r L) {k : Nat} (hk : ks[k]? = some .s) : ∃ s, r.2[k]? = some (.string s) := by
  obtain ⟨v, h1, n, rfl⟩ := h.ok.get hk
  exact ⟨n, h1⟩
def At (ks : List Cells.Kd) (off : Nat) (sub : List Cells.Kd) : Prop := ∀ j, j < sub.length → ks[off + j]? = sub[j]?
theorem At.sub {ks sub : List Cells.Kd} {off j : Nat} {kd : Cells.Kd} (h : At ks off sub) (hj : sub[j]? = some kd) : ks[off + j]? = some kd := by
  rw [h j (List.getElem?_eq_some_iff.1 hj).1, hj]
def entryK : List Cells.Kd := [.i, .i, .i, .i, .i, .i, .s, .s, .b, .i, .i, .i, .i, .i, .i, .i, .i, .i, .i, .i]
def chainKd : List Cells.Kd := [.i, .i, .i, .i, .i, .i, .i, .i, .i, .i, .b, .i, .i]
theorem Sz.ints {ks : List Cells.Kd} {r : Cd × List Value} {L : Nat} (h : Sz ks r L) {off m : Nat} (hk : ∀ j, j < m → ks[off + j]? = some .i) : ∀ j, j < m → IsInt r.2 (off + j) := fun j hj => h.int (hk j hj)
theorem Sz.chain {ks : List Cells.Kd} {r : Cd × List Value} {L : Nat} (h : Sz ks r L) {off : Nat} (hk : At ks off chainKd) : IsChain r.2 off := by
  refine ⟨fun j hj => h.int ?_, h.bool (hk.sub (j := 10) rfl), fun j hj => h.int ?_⟩
  · refine hk.sub ?_
    have : ∀ j, j < 10 → chainKd[j]? = some .i := by decide
    exact this j hj
  · rw [Nat.add_assoc]
    refine hk.sub ?_
    have : ∀ j, j < 2 → chainKd[11 + j]? = some .i := by decide
    exact this j hj
theorem Pass.arg {w w1 : World} {g : Nat} {A : Option Addr} {t : TypeId} {n gm : Nat} {r : Cd × List Value} (h : Pass w g A t n gm r w1) (hg : gm ≠ g) (b : Bool) : Pass w g A t n gm ({ r.1 with arg := b }, r.2) (w1.setCell ⟨g, 4, none⟩ (.bool b)) := by
  obtain ⟨A2, cap2, h1, h2, h3, h4⟩ := h.out
  have hk : Mem.Keeps (fun q => q = g) w1 (w1.setCell ⟨g, 4, none⟩ (.bool b)) := (Mem.Keeps.refl (fun q => q = g) w1).setCell (p := ⟨g, 4, none⟩) (fun _ => rfl) _
  exact ⟨⟨A2, cap2, h1.set (c' := { r.1 with arg := b }) 4 (.bool b) rfl rfl (by simp [cdCells]), h2.keeps hk hg, h3.trans hk (fun q h _ => .inl (.inl h)), h4⟩, fun hr => (h.rd hr).trans hk (fun q h _ => .inl h)⟩
/-- a cell that was turned in a box of its own is stored back -/
theorem Pass.box {w w1 w2 : World} {g : Nat} {A A2 : Option Addr} {t : TypeId} {n gm gb cap2 : Nat} {r : Cd × List Value} {k : Nat} {v : Int} {tb : TypeId} (h1 : CAt w1 g A2 cap2 r.1) (h2 : Mem.Bx w1 t n gm r.2) (h3 : Mem.Keeps (fun q => (q = g ∨ Mem.blk A = some q) ∨ q = gm) w w1) (h4 : ∀ q, Mem.blk A2 = some q → Mem.blk A = some q ∨ w.heap.size ≤ q) (h3r : r.1.reads = true → Mem.Keeps (fun q => q = g ∨ q = gm) w w1) (hv : r.2[k]? = some (.int .i64 v)) (hg : gm ≠ g) (ha : Mem.blk A ≠ some gm) (hgw : gm < w.heap.size) (hgb : gb = w1.heap.size)
    (hp : Pass (w1.alloc (.cells #[.int .i64 v] tb)) g A2 tb 1 gb (stepN (r.1, [Value.int .i64 v]) 0) w2) : Mem.Bx w2 tb 1 gb [.int .i64 (stepNum r.1 v).2] ∧ Mem.Bx w2 t n gm r.2 ∧ Pass w g A t n gm (stepN r k) (w2.setCell ⟨gm, k, none⟩ (.int .i64 (stepNum r.1 v).2)) := by
  obtain ⟨A3, cap3, p1, p2, p3, p4⟩ := hp.out
  have e1 : stepN (r.1, [Value.int .i64 v]) 0 = ((stepNum r.1 v).1, [Value.int .i64 (stepNum r.1 v).2]) := rfl
  have e2 : stepN r k = ((stepNum r.1 v).1, r.2.set k (.int .i64 (stepNum r.1 v).2)) := by unfold stepN; rw [hv]
  rw [e1] at p1 p2
  rw [e2]
  have hk0 : Mem.Keeps (fun _ => False) w1 (w1.alloc (.cells #[.int .i64 v] tb)) := (Mem.Keeps.refl _ w1).alloc _
  have hgl := h1.B.lt
  have hgm := h2.lt
  have hz := (h2.keeps hk0 id).keeps p3 (fun h => by
    rcases h with (h | h) | h
    · exact hg h
    · rcases h4 gm h with h | h
      · exact ha h
      · omega
    · omega)
  have ha3 : ∀ q, Mem.blk A3 = some q → Mem.blk A2 = some q ∨ w1.heap.size ≤ q := fun q h => (p4 q h).imp id (Nat.le_trans hk0.size)
  have hw1 := h3.size
  have ha3' : ∀ q, Mem.blk A3 = some q → Mem.blk A = some q ∨ w.heap.size ≤ q := fun q h => by
    rcases ha3 q h with h | h
    · exact h4 q h
    · exact .inr (Nat.le_trans hw1 h)
  have hk : Mem.Keeps (fun q => q = gm) w2 (w2.setCell ⟨gm, k, none⟩ (.int .i64 (stepNum r.1 v).2)) := (Mem.Keeps.refl (fun q => q = gm) w2).setCell (p := ⟨gm, k, none⟩) (fun _ => rfl) _
  refine ⟨p2, hz, ⟨⟨A3, cap3, p1.keeps hk (fun j h1 h2 => ?_), hz.set k _, ?_, ha3'⟩, fun hr => ((((h3r (by rw [← stepNum_reads r.1 v]; exact hr)).trans (hk0.mono (T := fun q => q = g ∨ q = gm) (fun _ h _ => h.elim)) (fun _ h _ => h)).trans (hp.rd hr) (fun q h hlt => h.elim .inl (fun h => by omega))).trans hk (fun q h _ => .inr h))⟩⟩
  · rcases h1 with h1 | h1
    · exact hg (h2 ▸ h1 ▸ rfl)
    · rw [h2] at h1
      rcases ha3' gm h1 with h | h
      · exact ha h
      · omega
  · refine ((h3.trans (hk0.mono (T := fun q => (q = g ∨ Mem.blk A = some q) ∨ q = gm) (fun _ h _ => h.elim)) (fun _ h _ => h)).trans p3 (fun q h hlt => ?_)).trans hk (fun q h _ => .inr h)
    rcases h with (h | h) | h
    · exact .inl (.inl h)
    · rcases h4 q h with h | h
      · exact .inl (.inr h)
      · omega
    · omega
theorem Pass.textM {w w1 : World} {g : Nat} {A : Option Addr} {t : TypeId} {n gm : Nat} {r : Cd × List Value} {L k : Nat} {ks : List Cells.Kd} (m : Int) (h : Pass w g A t n gm r w1) (hs : Sz ks r L) (hL : L + 100009 ≤ 1000000000) (hi : ks[k]? = some .s) (hg : gm ≠ g) (ha : Mem.blk A ≠ some gm) (hgw : gm < w.heap.size) :
    Calls Try.prog 58 #[.pointer (some ⟨g, 0, none⟩), .pointer (some ⟨gm, k, none⟩), .int .i64 m] w1 fun x w' => x = .returned (.tuple #[]) ∧ Pass w g A t n gm (stepTx r k m) w' := by
  obtain ⟨s, hs1⟩ := hs.txt hi
  cases hr : r.1.reads with
  | false =>
    have e : stepTx r k m = (stepTxt r.1 m s, r.2) := by unfold stepTx; rw [hs1]; simp [hr]
    rw [e]
    have := hs.str hr k s hs1
    exact Pass.text m h hr hs.fit (by omega) hs1 hg ha hgw
  | true =>
    have e : stepTx r k m = ((readTxt r.1).1, r.2.set k (.string (readTxt r.1).2)) := by unfold stepTx; rw [hs1]; simp [hr]
    rw [e]
    obtain ⟨A2, cap2, h1, h2, h3, h4⟩ := h.out
    refine (text_read m hr h1 hs.fit (by omega) h2 hs1 hg (fun h9 => ?_)).mono fun x w' hp => ⟨hp.1, Pass.step h3 h4 (fun _ => h.rd hr) hp.2⟩
    rcases h4 gm h9 with h8 | h8
    · exact ha h8
    · omega
end Wi
end Go.Proofs.Ytkfgedgjpgehoaa
