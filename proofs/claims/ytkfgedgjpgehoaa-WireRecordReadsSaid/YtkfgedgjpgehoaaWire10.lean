/- The walk of write, where a coder writes. No conditions but that the bytes are few. -/
import Derived.Test.YtkfgedgjpgehoaaWire9
import Derived.Test.YtkfgedgjpgehoaaWire8
namespace Go.Proofs.Ytkfgedgjpgehoaa
open Go.ChangeShapes Go.WideShapes Go.ChangeAt Go.RowKit
set_option linter.unusedVariables false
set_option linter.unusedSimpArgs false
namespace Wi
theorem Pass.text {w w1 : World} {g : Nat} {A : Option Addr} {t : TypeId} {n gm : Nat} {r : Cd × List Value} {L k : Nat} {s : ByteArray} (m : Int) (h : Pass w g A t n gm r w1) (hr : r.1.reads = false) (hf : Fit r.1 L) (hL : L + 9 + s.size ≤ 1000000000) (hi : IsStr r.2 k s) (hg : gm ≠ g) (ha : Mem.blk A ≠ some gm) (hgw : gm < w.heap.size) :
    Calls Try.prog 58 #[.pointer (some ⟨g, 0, none⟩), .pointer (some ⟨gm, k, none⟩), .int .i64 m] w1 fun x w' => x = .returned (.tuple #[]) ∧ Pass w g A t n gm (stepTxt r.1 m s, r.2) w' := by
  obtain ⟨A2, cap2, h1, h2, h3, h4⟩ := h.out
  refine (text_write m hr h1 hf hL h2 hi hg (fun h9 => ?_)).mono fun x w' hp => ⟨hp.1, Pass.step h3 h4 (fun hr9 => by have h9 : r.1.reads = true := (stepNum_reads _ _).symm.trans hr9; rw [hr] at h9; cases h9) hp.2⟩
  rcases h4 gm h9 with h8 | h8
  · exact ha h8
  · omega
/-- a write's cells, written -/
def writeW (r : Cd × List Value) (off : Nat) (key val : ByteArray) : Cd × List Value :=
  foldR (foldR (stepB (stepTxt (stepTxt (foldR r off 6).1 16 key) 32 val, (foldR r off 6).2) (off + 8)) (off + 9) 9) (off + 18) 2
structure IsEntry (zs : List Value) (off : Nat) (key val : ByteArray) : Prop where
  i : ∀ j, j < 6 → IsInt zs (off + j)
  key : IsStr zs (off + 6) key
  val : IsStr zs (off + 7) val
  b : IsBool zs (off + 8)
  v : ∀ j, j < 9 → IsInt zs (off + 9 + j)
  j : ∀ j, j < 2 → IsInt zs (off + 18 + j)
end Wi
end Go.Proofs.Ytkfgedgjpgehoaa
