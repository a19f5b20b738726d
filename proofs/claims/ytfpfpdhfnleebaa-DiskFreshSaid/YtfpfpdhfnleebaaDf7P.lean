/- The document's disk: Append, plain. No conditions. -/
import Derived.Test.YtfpfpdhfnleebaaDf6
namespace Go.Proofs.Ytfpfpdhfnleebaa
set_option linter.unusedVariables false
set_option linter.unusedSimpArgs false
namespace Df
def appE (q : Q) (n : Int) (bs : List UInt8) : Int :=
  if n < 0 ∨ 1099511627776 < n then 50 else if (isAt n q.l = false ∧ 64 ≤ q.l.length) ∨ 1048576 < usedQ q.l + bs.length then 51 else 0
def insQ (n : Int) (l : List Fl) : List Fl := if isAt n l then l else l.take (low n l) ++ ⟨n, [], []⟩ :: l.drop (low n l)
def tms (t m : Nat) : List Nat := (List.range m).map fun j => t + j + 1
def appF (bs : List UInt8) (t : Nat) (f : Fl) : Fl := { f with bs := f.bs ++ bs, cm := f.cm ++ tms t bs.length }
def appQ (q : Q) (n : Int) (bs : List UInt8) : Q := if appE q n bs = 0 then ⟨(insQ n q.l).modify (low n q.l) (appF bs q.time), q.time + bs.length⟩ else q
theorem modify_mid {α : Type} (f : α → α) (x : α) (post : List α) : ∀ pre : List α, (pre ++ x :: post).modify pre.length f = pre ++ f x :: post
  | [] => rfl
  | y :: pre => by
    have := modify_mid f x post pre
    simpa using this
theorem tms_succ (t m : Nat) : tms t (m + 1) = tms t m ++ [t + m + 1] := by unfold tms; rw [List.range_succ, List.map_append]; rfl
theorem tms_len (t m : Nat) : (tms t m).length = m := by unfold tms; rw [List.length_map, List.length_range]
end Df
end Go.Proofs.Ytfpfpdhfnleebaa
