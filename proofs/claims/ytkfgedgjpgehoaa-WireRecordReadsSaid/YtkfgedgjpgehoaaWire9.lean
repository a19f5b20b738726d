/- What passes over numbers and truths leave as it is. No conditions. -/
import Derived.Test.YtkfgedgjpgehoaaWire7
namespace Go.Proofs.Ytkfgedgjpgehoaa
open Go.ChangeShapes Go.WideShapes Go.ChangeAt Go.RowKit
set_option linter.unusedVariables false
set_option linter.unusedSimpArgs false
namespace Wi
def IsStr (zs : List Value) (k : Nat) (s : ByteArray) : Prop := zs[k]? = some (.string s)
theorem stepN_str {r : Cd × List Value} {k j : Nat} {s : ByteArray} (h : IsStr r.2 j s) : IsStr (stepN r k).2 j s := by
  unfold stepN
  split
  · rename_i v hv
    have hkj : k ≠ j := fun e => by rw [e] at hv; unfold IsStr at h; rw [h] at hv; cases hv
    show (r.2.set k _)[j]? = _
    rw [List.getElem?_set_ne hkj]; exact h
  · exact h
theorem foldR_str {r : Cd × List Value} {k : Nat} {s : ByteArray} (h : IsStr r.2 k s) (off : Nat) : ∀ m, IsStr (foldR r off m).2 k s
  | 0 => h
  | m + 1 => by rw [foldR_snoc]; exact stepN_str (foldR_str h off m)
theorem stepB_str {r : Cd × List Value} {k j : Nat} {s : ByteArray} (h : IsStr r.2 j s) : IsStr (stepB r k).2 j s := by
  unfold stepB
  split
  · rename_i v hv
    have hkj : k ≠ j := fun e => by rw [e] at hv; unfold IsStr at h; rw [h] at hv; cases hv
    show (r.2.set k _)[j]? = _
    rw [List.getElem?_set_ne hkj]; exact h
  · exact h
/-- where a coder writes, its numbers stay as they are -/
theorem stepN_w {r : Cd × List Value} (h : r.1.reads = false) (k : Nat) : (stepN r k).2 = r.2 := by
  unfold stepN
  split
  · rename_i v hv
    show r.2.set k _ = r.2
    rw [stepNum_w h]
    obtain ⟨hk1, hk2⟩ := List.getElem?_eq_some_iff.1 hv
    rw [← hk2, List.set_getElem_self]
  · rfl
theorem foldR_w {r : Cd × List Value} (h : r.1.reads = false) (off : Nat) : ∀ m, (foldR r off m).2 = r.2
  | 0 => rfl
  | m + 1 => by rw [foldR_snoc, stepN_w (by rw [foldR_reads]; exact h)]; exact foldR_w h off m
theorem stepB_w {r : Cd × List Value} (h : r.1.reads = false) (k : Nat) : (stepB r k).2 = r.2 := by
  unfold stepB
  split
  · rename_i b hb
    show r.2.set k _ = r.2
    have e : (stepTru r.1 b).2 = b := by
      unfold stepTru
      rw [stepNum_w h]
      cases b <;> rfl
    rw [e]
    obtain ⟨hk1, hk2⟩ := List.getElem?_eq_some_iff.1 hb
    rw [← hk2, List.set_getElem_self]
  · rfl
end Wi
end Go.Proofs.Ytkfgedgjpgehoaa
