/- A slice of bytes is cut, and read as a text. Plain lemmas. -/
import Derived.Test.YtkfgedgjpgehoaaAgg2
import Derived.Laws.IdiomStrings
namespace Go.Proofs.Ytkfgedgjpgehoaa
open Go.ChangeShapes Go.WideShapes Go.ChangeAt Go.RowKit
set_option linter.unusedVariables false
set_option linter.unusedSimpArgs false
namespace Mem
/-- a slice's part, its capacity to the end -/
def slc (A : Option Addr) (l h cap : Nat) : Value := .slice (if cap = l then A else A.map (·.add (l * 1))) (h - l) (cap - l)
section
variable {P : Program} {w : World} {ops : Array Oper} {rest : List Oper} {a : Act} {Q : Exit → Act → World → Prop} {d : Option Tmp} {ty : TypeId} {ps : String} {af : Array Edge}
theorem wp_slc {o : Oper} {K : Act → World → Prop} {x y z : Operand} (t e : TypeId) (ho : o.op = .slice t x (some y) (some z) none) (A : Option Addr) (len cap l h : Nat) (hu : P.underlying t = some (.slice e)) (hs : (P.info? e).map (·.size) = some 1)
    (hx : a.eval x = .slice A len cap) (hy : a.eval y = .int .i64 l) (hz : a.eval z = .int .i64 h) (h1 : l ≤ h) (h2 : h ≤ cap) (hk : K (a.put o.dst (slc A l h cap)) w) : o.wp P a w K Q := by
  have he : P.elem t = e := by unfold Program.elem; rw [hu]
  have ht : P.underlying t = some (.slice (P.elem t)) := by rw [he]; exact hu
  have hsz : (sizeOf (P.elem t)).run P w = .ok 1 w := by
    rw [he]
    cases hq : P.info? e with
    | none => simp [hq] at hs
    | some i =>
      have hs' : i.size = 1 := by simpa [hq] using hs
      simp [sizeOf, typeInfo, hq, hs']
  have hr := run_slice_lh (P := P) (w := w) t A len cap ht .i64 .i64 (l : Int) (h : Int) (by omega) (by omega) (by omega)
  rw [hsz] at hr
  have hr2 := (run_sliceAt_slice (P := P) (w := w) t (.slice A len cap) (some (.int .i64 (l : Int))) (some (.int .i64 (h : Int))) none ht).trans hr
  unfold Oper.wp execOp
  simp only [ho, hx, hy, hz, Option.map_some, Option.map_none, Sem.run_bind, hr2, Result.andThen_ok, Sem.run_pure]
  exact hk
theorem wpList_slc {x y z : Operand} (t e : TypeId) (A : Option Addr) (len cap l h : Nat) (hu : P.underlying t = some (.slice e)) (hs : (P.info? e).map (·.size) = some 1)
    (hx : a.eval x = .slice A len cap) (hy : a.eval y = .int .i64 l) (hz : a.eval z = .int .i64 h) (h1 : l ≤ h) (h2 : h ≤ cap) (hk : wpList P ops Q rest (a.put d (slc A l h cap)) w) :
    wpList P ops Q ({ dst := d, op := .slice t x (some y) (some z) none, type := ty, pos := ps, after := af, guard := none } :: rest) a w :=
  wpList_plain rfl fun _ hK => wp_slc t e rfl A len cap l h hu hs hx hy hz h1 h2 (hK _ _ hk)
end
/-- so many bytes from there -/
def sub (bs : List UInt8) (p n : Nat) : List UInt8 := (bs.drop p).take n
theorem sub_len {bs : List UInt8} {p n : Nat} (h : p + n ≤ bs.length) : (sub bs p n).length = n := by unfold sub; rw [List.length_take, List.length_drop]; omega
theorem map_sub (f : UInt8 → Value) (bs : List UInt8) (p n : Nat) : (sub bs p n).map f = ((bs.map f).drop p).take n := by unfold sub; rw [List.map_take, List.map_drop]
theorem conv_slc {P : Program} {w : World} {B : Nat} {A : Option Addr} {bs : List UInt8} {l h cap : Nat} (src dst e : TypeId) (hs : P.underlying src = some (.slice e)) (he : P.underlying e = some (.int .u8)) (hd : P.underlying dst = some .string)
    (hR : Rd w B A (bs.map byteV)) (h1 : l ≤ h) (h2 : h ≤ bs.length) (h3 : bs.length ≤ cap) : (convert src dst (slc A l h cap)).run P w = .ok (.string ⟨(sub bs l (h - l)).toArray⟩) w := by
  unfold slc
  by_cases hlt : l < h
  · obtain ⟨b, o, rfl, hb, hc⟩ := hR.at (k := l) (by simp; omega)
    rw [if_neg (by omega)]
    have hl : (sub bs l (h - l)).length = h - l := sub_len (by omega)
    have h9 := run_convert_bytes_back (P := P) w src dst e ⟨b, o + l, none⟩ (cap - l) (sub bs l (h - l)) hs he hd (fun j hj => by
      obtain ⟨b2, o2, e2, _, hc2⟩ := hR.at (k := l + j) (by simp; omega)
      cases e2
      rw [add_flat, Nat.add_assoc, hc2]
      simp [sub, byteV])
    rw [hl] at h9
    simpa [add_flat] using h9
  · have e0 : h - l = 0 := by omega
    rw [e0]
    have h9 : ∀ p : Option Addr, (convert src dst (.slice p 0 (cap - l))).run P w = .ok (.string ⟨#[]⟩) w := fun p => by
      rw [run_convert_bytes_string w src dst e p 0 (cap - l) hs he hd]
      cases p <;> simp [Conv.bytesToString, loadCells]
      all_goals rfl
    rw [h9]
    simp [sub]
end Mem
end Go.Proofs.Ytkfgedgjpgehoaa
