/- What is written is read back: plain lists. Cells of the right kinds; texts are not longer than a statement's. -/
import Derived.Test.YtkfgedgjpgehoaaWire19
import Derived.Test.YtkfgedgjpgehoaaWireL
namespace Go.Proofs.Ytkfgedgjpgehoaa
open Go.ChangeShapes Go.WideShapes Go.ChangeAt Go.RowKit
set_option linter.unusedVariables false
set_option linter.unusedSimpArgs false
namespace Wi
/-- what an operation writes -/
def encM (xs : List Value) : Mo → List UInt8
  | .n k => match xs[k]? with
    | some (.int .i64 v) => if v < 0 ∨ 4611686018427387904 < v then [] else vb v.toNat
    | _ => []
  | .b k => match xs[k]? with
    | some (.bool b) => vb (b2i b).toNat
    | _ => []
  | .t k m => match xs[k]? with
    | some (.string s) => vb s.size ++ s.data.toList
    | _ => []
  | .k _ _ _ => []
def argM (xs : List Value) : Mo → Bool
  | .n k => match xs[k]? with
    | some (.int .i64 v) => decide (v < 0 ∨ 4611686018427387904 < v)
    | _ => false
  | .k k lo hi => match xs[k]? with
    | some (.int .i64 v) => decide (v < lo) || decide (hi < v)
    | _ => false
  | _ => false
def longM (xs : List Value) : Mo → Bool
  | .t k m => match xs[k]? with
    | some (.string s) => decide (m < (s.size : Int))
    | _ => false
  | _ => false
theorem encM_n {xs : List Value} {k : Nat} {v : Int} (h : xs[k]? = some (.int .i64 v)) : encM xs (.n k) = if v < 0 ∨ 4611686018427387904 < v then [] else vb v.toNat := by simp only [encM, h]
theorem encM_b {xs : List Value} {k : Nat} {b : Bool} (h : xs[k]? = some (.bool b)) : encM xs (.b k) = vb (b2i b).toNat := by simp only [encM, h]
theorem encM_t {xs : List Value} {k : Nat} {m : Int} {s : ByteArray} (h : xs[k]? = some (.string s)) : encM xs (.t k m) = vb s.size ++ s.data.toList := by simp only [encM, h]
theorem argM_n {xs : List Value} {k : Nat} {v : Int} (h : xs[k]? = some (.int .i64 v)) : argM xs (.n k) = decide (v < 0 ∨ 4611686018427387904 < v) := by simp only [argM, h]
theorem argM_k {xs : List Value} {k : Nat} {lo hi v : Int} (h : xs[k]? = some (.int .i64 v)) : argM xs (.k k lo hi) = (decide (v < lo) || decide (hi < v)) := by simp only [argM, h]
theorem longM_t {xs : List Value} {k : Nat} {m : Int} {s : ByteArray} (h : xs[k]? = some (.string s)) : longM xs (.t k m) = decide (m < (s.size : Int)) := by simp only [longM, h]
def Sm (xs : List Value) : Prop := ∀ (k : Nat) (s : ByteArray), xs[k]? = some (.string s) → s.size ≤ 100000
theorem set_self {α : Type} {xs : List α} {k : Nat} {v : α} (h : xs[k]? = some v) : xs.set k v = xs := by
  apply List.ext_getElem?
  intro j
  by_cases hj : k = j
  · subst hj
    obtain ⟨h1, h2⟩ := List.getElem?_eq_some_iff.1 h
    rw [List.getElem?_set_self h1, h]
  · rw [List.getElem?_set_ne hj]
theorem stepM_wr {c : Cd} {xs : List Value} (hr : c.reads = false) (hs : Sm xs) (op : Mo) :
    stepM (c, xs) op = ({ c with bs := c.bs ++ encM xs op, arg := c.arg || argM xs op, long := c.long || longM xs op }, xs) := by
  cases op with
  | n k =>
    show stepN (c, xs) k = _
    by_cases hv : ∃ v, xs[k]? = some (.int .i64 v)
    · obtain ⟨v, hv⟩ := hv
      simp only [stepN, encM, argM, longM, hv, stepNum, hr]
      by_cases h : v < 0 ∨ 4611686018427387904 < v
      · simp [h, set_self hv]
      · simp [h, set_self hv]
    · simp only [stepN, encM, argM, longM]
      split
      · exact absurd ⟨_, ‹_›⟩ hv
      · simp
  | b k =>
    show stepB (c, xs) k = _
    by_cases hv : ∃ b, xs[k]? = some (.bool b)
    · obtain ⟨b, hv⟩ := hv
      simp only [stepB, encM, argM, longM, hv, stepTru, stepNum, hr]
      cases b <;> simp [b2i, set_self hv]
    · simp only [stepB, encM, argM, longM]
      split
      · exact absurd ⟨_, ‹_›⟩ hv
      · simp
  | t k m =>
    show stepTx (c, xs) k m = _
    by_cases hv : ∃ s, xs[k]? = some (.string s)
    · obtain ⟨s, hv⟩ := hv
      have hsz := hs k s hv
      have h : ¬ ((s.size : Int) < 0 ∨ 4611686018427387904 < (s.size : Int)) := by omega
      simp only [stepTx, encM, argM, longM, hv, stepTxt, stepNum, hr]
      simp [h]
    · simp only [stepTx, encM, argM, longM]
      split
      · exact absurd ⟨_, ‹_›⟩ hv
      · simp
  | k k lo hi =>
    show stepK (c, xs) k lo hi = _
    by_cases hv : ∃ v, xs[k]? = some (.int .i64 v)
    · obtain ⟨v, hv⟩ := hv
      simp only [stepK, encM, argM, longM, hv]
      simp
    · simp only [stepK, encM, argM, longM]
      split
      · exact absurd ⟨_, ‹_›⟩ hv
      · simp
def encL (ops : List Mo) (xs : List Value) : List UInt8 := ops.flatMap (encM xs)
theorem runM_wr {xs : List Value} (hs : Sm xs) : ∀ (ops : List Mo) {c : Cd}, c.reads = false →
    runM ops (c, xs) = ({ c with bs := c.bs ++ encL ops xs, arg := c.arg || ops.any (argM xs), long := c.long || ops.any (longM xs) }, xs)
  | [], c, hr => by simp [runM_nil, encL]
  | op :: ops, c, hr => by
    rw [runM_cons, stepM_wr hr hs, runM_wr hs ops (by exact hr)]
    simp [encL, List.append_assoc, Bool.or_assoc]
/-- the operation's cell is of its kind -/
def wk (ks : List Cells.Kd) : Mo → Bool
  | .n k => ks[k]? == some .i
  | .b k => ks[k]? == some .b
  | .t k _ => ks[k]? == some .s
  | .k k _ _ => ks[k]? == some .i
def keyM : Mo → List Nat
  | .n k => [k]
  | .b k => [k]
  | .t k _ => [k]
  | .k _ _ _ => []
def ordK (D : List Nat) : Mo → Bool
  | .k k _ _ => D.contains k
  | _ => true
def ordL (D : List Nat) : List Mo → Bool
  | [] => true
  | op :: ops => ordK D op && ordL (keyM op ++ D) ops
def keysL (D : List Nat) : List Mo → List Nat
  | [] => D
  | op :: ops => keysL (keyM op ++ D) ops
/-- what was read is xs's in the cells of D, and as it was elsewhere -/
structure Like (D : List Nat) (xs zs zs' : List Value) : Prop where
  yes : ∀ j, j ∈ D → zs'[j]? = xs[j]?
  no : ∀ j, j ∉ D → zs'[j]? = zs[j]?
theorem Like.set {D : List Nat} {xs zs zs' : List Value} {k : Nat} {v v0 : Value} (h : Like D xs zs zs') (hx : xs[k]? = some v) (hz : zs'[k]? = some v0) : Like (k :: D) xs zs (zs'.set k v) := by
  obtain ⟨hl, _⟩ := List.getElem?_eq_some_iff.1 hz
  refine ⟨fun j hj => ?_, fun j hj => ?_⟩
  · by_cases hk : k = j
    · subst hk; rw [List.getElem?_set_self hl, hx]
    · rw [List.getElem?_set_ne hk]
      rcases List.mem_cons.1 hj with h9 | h9
      · exact absurd h9.symm hk
      · exact h.yes j h9
  · rw [List.mem_cons, not_or] at hj
    rw [List.getElem?_set_ne (fun h => hj.1 h.symm)]
    exact h.no j hj.2
theorem drop_app {bs a b : List UInt8} {p : Nat} (h : bs.drop p = a ++ b) : bs.drop (p + a.length) = b := by
  rw [← List.drop_drop, h, List.drop_left]
theorem strB_self (s : ByteArray) : strB s.data.toList = s := by
  unfold strB
  cases s; simp
theorem stepM_rb {ks : List Cells.Kd} {c : Cd} {D : List Nat} {xs zs zs' : List Value} {rest : List UInt8} (hr : c.reads = true) (hs : Sm xs) (op : Mo) (hd : c.bs.drop c.pos = encM xs op ++ rest) (ha : argM xs op = false)
    (hx : Cells.Ok ks xs) (hz : Cells.Ok ks zs') (hL : Like D xs zs zs') (hk : wk ks op = true) (ho : ordK D op = true) :
    ∃ zs2, stepM (c, zs') op = ({ c with pos := c.pos + (encM xs op).length }, zs2) ∧ Cells.Ok ks zs2 ∧ Like (keyM op ++ D) xs zs zs2 := by
  have hok := stepM_ok (r := (c, zs')) hz op
  suffices h : ∃ zs2, stepM (c, zs') op = ({ c with pos := c.pos + (encM xs op).length }, zs2) ∧ Like (keyM op ++ D) xs zs zs2 by
    obtain ⟨zs2, h1, h2⟩ := h
    rw [h1] at hok
    exact ⟨zs2, h1, hok, h2⟩
  cases op with
  | n k =>
    have hk2 : ks[k]? = some .i := by simpa [wk] using hk
    obtain ⟨_, hx1, v, rfl⟩ := hx.get hk2
    obtain ⟨_, hz1, v0, rfl⟩ := hz.get hk2
    rw [argM_n hx1] at ha
    rw [encM_n hx1] at hd ⊢
    have h0 : ¬ (v < 0 ∨ 4611686018427387904 < v) := by simpa using ha
    rw [if_neg h0] at hd ⊢
    have ht := takeC_vb (c := c) (n := v.toNat) (by omega) hd
    refine ⟨zs'.set k (.int .i64 v), ?_, hL.set hx1 hz1⟩
    show stepN (c, zs') k = _
    unfold stepN stepNum
    simp only [hz1]
    rw [if_pos hr, ht]
    dsimp only
    rw [show ((v.toNat : Nat) : Int) = v by omega]
  | b k =>
    have hk2 : ks[k]? = some .b := by simpa [wk] using hk
    obtain ⟨_, hx1, v, rfl⟩ := hx.get hk2
    obtain ⟨_, hz1, v0, rfl⟩ := hz.get hk2
    rw [encM_b hx1] at hd ⊢
    have ht := takeC_vb (c := c) (n := (b2i v).toNat) (by cases v <;> decide) hd
    refine ⟨zs'.set k (.bool v), ?_, hL.set hx1 hz1⟩
    show stepB (c, zs') k = _
    unfold stepB stepTru stepNum
    simp only [hz1]
    rw [if_pos hr, ht]
    dsimp only
    cases v <;> simp [b2i]
  | t k m =>
    have hk2 : ks[k]? = some .s := by simpa [wk] using hk
    obtain ⟨_, hx1, s, rfl⟩ := hx.get hk2
    obtain ⟨_, hz1, v0, rfl⟩ := hz.get hk2
    have hsz := hs k s hx1
    rw [encM_t hx1] at hd ⊢
    have hd1 := hd
    rw [List.append_assoc] at hd
    have ht := takeC_vb (c := c) (n := s.size) (by omega) hd
    have hd2 := drop_app hd
    have hsl : s.data.toList.length = s.size := by rw [Array.length_toList]; rfl
    have hln : c.bs.length - (c.pos + (vb s.size).length) = s.size + rest.length := by
      rw [← List.length_drop, hd2, List.length_append, hsl]
    refine ⟨zs'.set k (.string s), ?_, hL.set hx1 hz1⟩
    show stepTx (c, zs') k m = _
    unfold stepTx readTxt
    simp only [hz1]
    rw [if_pos hr, ht]
    dsimp only
    rw [if_neg (by omega)]
    have e1 : Mem.sub c.bs (c.pos + (vb s.size).length) s.size = s.data.toList := by
      unfold Mem.sub
      rw [hd2, ← hsl, List.take_left]
    rw [e1, strB_self, List.length_append, hsl, Nat.add_assoc]
  | k k lo hi =>
    have hk2 : ks[k]? = some .i := by simpa [wk] using hk
    obtain ⟨_, hx1, v, rfl⟩ := hx.get hk2
    have hm : k ∈ D := by simpa [ordK] using ho
    have hz1 : zs'[k]? = some (.int .i64 v) := by rw [hL.yes k hm, hx1]
    rw [argM_k hx1] at ha
    refine ⟨zs', ?_, hL⟩
    show stepK (c, zs') k lo hi = _
    unfold stepK
    simp only [hz1, ha]
    simp [encM]
theorem runM_rb {ks : List Cells.Kd} {xs zs : List Value} (hs : Sm xs) (hx : Cells.Ok ks xs) : ∀ (ops : List Mo) {c : Cd} {D : List Nat} {zs' : List Value} {rest : List UInt8}, c.reads = true → c.bs.drop c.pos = encL ops xs ++ rest → ops.any (argM xs) = false →
    Cells.Ok ks zs' → Like D xs zs zs' → ops.all (wk ks) = true → ordL D ops = true →
    ∃ zs2, runM ops (c, zs') = ({ c with pos := c.pos + (encL ops xs).length }, zs2) ∧ Cells.Ok ks zs2 ∧ Like (keysL D ops) xs zs zs2
  | [], c, D, zs', rest, hr, hd, ha, hz, hL, hk, ho => ⟨zs', by simp [runM_nil, encL], hz, hL⟩
  | op :: ops, c, D, zs', rest, hr, hd, ha, hz, hL, hk, ho => by
    rw [List.any_cons, Bool.or_eq_false_iff] at ha
    rw [List.all_cons, Bool.and_eq_true] at hk
    unfold ordL at ho
    rw [Bool.and_eq_true] at ho
    have e1 : encL (op :: ops) xs = encM xs op ++ encL ops xs := by simp [encL]
    rw [e1, List.append_assoc] at hd
    obtain ⟨zs2, h1, h2, h3⟩ := stepM_rb hr hs op hd ha.1 hx hz hL hk.1 ho.1
    obtain ⟨zs3, g1, g2, g3⟩ := runM_rb hs hx ops (c := { c with pos := c.pos + (encM xs op).length }) (zs' := zs2) hr (drop_app hd) ha.2 h2 h3 hk.2 ho.2
    refine ⟨zs3, ?_, g2, g3⟩
    rw [runM_cons, h1, g1, e1, List.length_append, Nat.add_assoc]
/-- how much an operation writes at most, if it is neither bad nor long -/
def capM : Mo → Nat
  | .n _ => 9
  | .b _ => 1
  | .t _ m => 1 + m.toNat
  | .k _ _ _ => 0
def capOk : Mo → Bool
  | .t _ m => decide (0 ≤ m) && decide (m < 128)
  | _ => true
theorem encM_cap {xs : List Value} {op : Mo} (hc : capOk op = true) (hl : longM xs op = false) : (encM xs op).length ≤ capM op := by
  cases op with
  | n k =>
    by_cases hv : ∃ v, xs[k]? = some (.int .i64 v)
    · obtain ⟨v, hv⟩ := hv
      rw [encM_n hv]
      split
      · exact Nat.zero_le _
      · exact vb_len 8 _ (by omega)
    · simp only [encM]
      split
      · exact absurd ⟨_, ‹_›⟩ hv
      · exact Nat.zero_le _
  | b k =>
    by_cases hv : ∃ v, xs[k]? = some (.bool v)
    · obtain ⟨b, hv⟩ := hv
      rw [encM_b hv]
      exact vb_len 0 _ (by cases b <;> decide)
    · simp only [encM]
      split
      · exact absurd ⟨_, ‹_›⟩ hv
      · exact Nat.zero_le _
  | t k m =>
    by_cases hv : ∃ v, xs[k]? = some (.string v)
    · obtain ⟨s, hv⟩ := hv
      rw [encM_t hv]
      rw [longM_t hv] at hl
      simp [capOk] at hc
      simp at hl
      have h1 := vb_len 0 s.size (by omega)
      have hsl : s.data.toList.length = s.size := by rw [Array.length_toList]; rfl
      rw [List.length_append]
      show _ ≤ 1 + m.toNat
      omega
    · simp only [encM]
      split
      · exact absurd ⟨_, ‹_›⟩ hv
      · exact Nat.zero_le _
  | k k lo hi => exact Nat.zero_le _
theorem encL_cap {xs : List Value} : ∀ (ops : List Mo), ops.all capOk = true → ops.any (longM xs) = false → (encL ops xs).length ≤ (ops.map capM).sum
  | [], _, _ => Nat.le_refl _
  | op :: ops, hc, hl => by
    rw [List.all_cons, Bool.and_eq_true] at hc
    rw [List.any_cons, Bool.or_eq_false_iff] at hl
    have h1 := encM_cap hc.1 hl.1
    have h2 := encL_cap ops hc.2 hl.2
    unfold encL at h2 ⊢
    rw [List.flatMap_cons, List.length_append, List.map_cons, List.sum_cons]
    omega
theorem vb_pos (n : Nat) : 0 < (vb n).length := by
  rw [vb]; split <;> simp
end Wi
end Go.Proofs.Ytkfgedgjpgehoaa
