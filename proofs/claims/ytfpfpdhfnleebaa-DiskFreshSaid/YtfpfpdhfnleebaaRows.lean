/-
  No cell of these rows narrows 'for every input' (looked for: loops, veiled, ifaces, maps, wideKeys, modest, calm, conditions, laid).
  DERIVED. THE GIVEN ROWS OF THIS SEAT. 6 by the template 'for every input the law returns true; each argument reads behind the call as it read before'; 0 by the template 'total and deterministic' (their statements: YtfpfpdhfnleebaaTotals.lean).
  GIVEN WITH THE SEED: the statements are not yours to turn. If you find one false, say at which input.
  Laid BY PROGRAM, IN A SANDBOX (cutbox-rows.mjs): the forced cells as the released guide's own fill.sh prints them over the translation 3a44df46fb2447ae… (all of the seat's roots in one cut). By AI agents, Wed Nov 11 2026. No macro, syntax, notation, axiom, sorry.
-/
import Derived.Test.YtfpfpdhfnleebaaChecked
import GoSem.Claim
import GoSem.ClaimJoined
import GoSem.ClaimMapViews
import Derived.JoinedTies
import Derived.KernelRfl
namespace Go.Proofs.Ytfpfpdhfnleebaa
/- THE CELL 'sum', in the pinned program and in every row, IS THE sha256 OF THE DUMP (.gsa) THAT YtfpfpdhfnleebaaProg.lean LOADS. Nothing in Lean hashes anything: it is a label: what it is worth is what the hold of that sum in a sandbox is worth. -/
noncomputable def Try.pinned : Pinned := { name := "ytfpfpdhfnleebaa", sum := "3a44df46fb2447aed4a435695d66823ec3e2746efea4d7a7481c1926a0e26d8a", checked := Try.checked }
namespace Rows
def none {H : Type} : Left H := { results := [], args := [] }

/-- 'causewaylaw7.DiskPieces': WHATEVER THE INPUT: true; the input reads as it did. -/
def diskPiecesSpec : ChangeSpec := { name := "diskPieces", fn := fun _ => fun
  | [d1, d2, d3] => { results := [.lit (.bool true)], args := [d1, d2, d3] }
  | _ => none }
def diskPiecesRow : OpenClaim := { program := "ytfpfpdhfnleebaa", sum := "3a44df46fb2447aed4a435695d66823ec3e2746efea4d7a7481c1926a0e26d8a", func := "causeway/causewaylaw7.DiskPieces", spec := "diskPieces", unfollowed := true, recurses := true, apart := false }
def DiskPiecesSaid : Prop := diskPiecesRow.holds Try.pinned (OpenSpec.ofChange diskPiecesSpec)

/-- ITS FALSE NEIGHBOUR: 'it returns false'. Refute it at one input. -/
def diskPiecesWrong : ChangeSpec := { name := "diskPieces", fn := fun _ => fun
  | [d1, d2, d3] => { results := [.lit (.bool false)], args := [d1, d2, d3] }
  | _ => none }
def DiskPiecesWrongFalsely : Prop := diskPiecesRow.holds Try.pinned (OpenSpec.ofChange diskPiecesWrong)

/-- 'causewaylaw7.DiskFresh': WHATEVER THE INPUT: true; the input reads as it did. -/
def diskFreshSpec : ChangeSpec := { name := "diskFresh", fn := fun _ => fun
  | [d1, d2] => { results := [.lit (.bool true)], args := [d1, d2] }
  | _ => none }
def diskFreshRow : OpenClaim := { program := "ytfpfpdhfnleebaa", sum := "3a44df46fb2447aed4a435695d66823ec3e2746efea4d7a7481c1926a0e26d8a", func := "causeway/causewaylaw7.DiskFresh", spec := "diskFresh", unfollowed := true, recurses := true, apart := false }
def DiskFreshSaid : Prop := diskFreshRow.holds Try.pinned (OpenSpec.ofChange diskFreshSpec)

/-- ITS FALSE NEIGHBOUR: 'it returns false'. Refute it at one input. -/
def diskFreshWrong : ChangeSpec := { name := "diskFresh", fn := fun _ => fun
  | [d1, d2] => { results := [.lit (.bool false)], args := [d1, d2] }
  | _ => none }
def DiskFreshWrongFalsely : Prop := diskFreshRow.holds Try.pinned (OpenSpec.ofChange diskFreshWrong)

/-- 'causewaylaw7.DiskKeeps': WHATEVER THE INPUT: true; the input reads as it did. -/
def diskKeepsSpec : ChangeSpec := { name := "diskKeeps", fn := fun _ => fun
  | [d1, d2] => { results := [.lit (.bool true)], args := [d1, d2] }
  | _ => none }
def diskKeepsRow : OpenClaim := { program := "ytfpfpdhfnleebaa", sum := "3a44df46fb2447aed4a435695d66823ec3e2746efea4d7a7481c1926a0e26d8a", func := "causeway/causewaylaw7.DiskKeeps", spec := "diskKeeps", unfollowed := true, recurses := true, apart := false }
def DiskKeepsSaid : Prop := diskKeepsRow.holds Try.pinned (OpenSpec.ofChange diskKeepsSpec)

/-- ITS FALSE NEIGHBOUR: 'it returns false'. Refute it at one input. -/
def diskKeepsWrong : ChangeSpec := { name := "diskKeeps", fn := fun _ => fun
  | [d1, d2] => { results := [.lit (.bool false)], args := [d1, d2] }
  | _ => none }
def DiskKeepsWrongFalsely : Prop := diskKeepsRow.holds Try.pinned (OpenSpec.ofChange diskKeepsWrong)

/-- 'causewaylaw7.DiskOrder': WHATEVER THE INPUT: true; the input reads as it did. -/
def diskOrderSpec : ChangeSpec := { name := "diskOrder", fn := fun _ => fun
  | [d1, d2, d3] => { results := [.lit (.bool true)], args := [d1, d2, d3] }
  | _ => none }
def diskOrderRow : OpenClaim := { program := "ytfpfpdhfnleebaa", sum := "3a44df46fb2447aed4a435695d66823ec3e2746efea4d7a7481c1926a0e26d8a", func := "causeway/causewaylaw7.DiskOrder", spec := "diskOrder", unfollowed := true, recurses := true, apart := false }
def DiskOrderSaid : Prop := diskOrderRow.holds Try.pinned (OpenSpec.ofChange diskOrderSpec)

/-- ITS FALSE NEIGHBOUR: 'it returns false'. Refute it at one input. -/
def diskOrderWrong : ChangeSpec := { name := "diskOrder", fn := fun _ => fun
  | [d1, d2, d3] => { results := [.lit (.bool false)], args := [d1, d2, d3] }
  | _ => none }
def DiskOrderWrongFalsely : Prop := diskOrderRow.holds Try.pinned (OpenSpec.ofChange diskOrderWrong)

/-- 'causewaylaw7.DiskPlays': WHATEVER THE INPUT: true; the input reads as it did. -/
def diskPlaysSpec : ChangeSpec := { name := "diskPlays", fn := fun _ => fun
  | [d] => { results := [.lit (.bool true)], args := [d] }
  | _ => none }
def diskPlaysRow : OpenClaim := { program := "ytfpfpdhfnleebaa", sum := "3a44df46fb2447aed4a435695d66823ec3e2746efea4d7a7481c1926a0e26d8a", func := "causeway/causewaylaw7.DiskPlays", spec := "diskPlays", unfollowed := true, recurses := true, apart := false }
def DiskPlaysSaid : Prop := diskPlaysRow.holds Try.pinned (OpenSpec.ofChange diskPlaysSpec)

/-- ITS FALSE NEIGHBOUR: 'it returns false'. Refute it at one input. -/
def diskPlaysWrong : ChangeSpec := { name := "diskPlays", fn := fun _ => fun
  | [d] => { results := [.lit (.bool false)], args := [d] }
  | _ => none }
def DiskPlaysWrongFalsely : Prop := diskPlaysRow.holds Try.pinned (OpenSpec.ofChange diskPlaysWrong)

/-- 'causewaylaw7.DiskLimits': WHATEVER THE INPUT: true; the input reads as it did. -/
def diskLimitsSpec : ChangeSpec := { name := "diskLimits", fn := fun _ => fun
  | [d] => { results := [.lit (.bool true)], args := [d] }
  | _ => none }
def diskLimitsRow : OpenClaim := { program := "ytfpfpdhfnleebaa", sum := "3a44df46fb2447aed4a435695d66823ec3e2746efea4d7a7481c1926a0e26d8a", func := "causeway/causewaylaw7.DiskLimits", spec := "diskLimits", unfollowed := true, recurses := true, apart := false }
def DiskLimitsSaid : Prop := diskLimitsRow.holds Try.pinned (OpenSpec.ofChange diskLimitsSpec)

/-- ITS FALSE NEIGHBOUR: 'it returns false'. Refute it at one input. -/
def diskLimitsWrong : ChangeSpec := { name := "diskLimits", fn := fun _ => fun
  | [d] => { results := [.lit (.bool false)], args := [d] }
  | _ => none }
def DiskLimitsWrongFalsely : Prop := diskLimitsRow.holds Try.pinned (OpenSpec.ofChange diskLimitsWrong)

/- THE SECOND FORM. 'bulk': how many values and letters a reading holds, each counted each time it is reached (what is shared counts as often as it is met; a slice's spare places count too). A statement '..UptoSaid' is the law's where the arguments, and the package variables that the reading takes, are together of bulk at most 1048576: NARROWER than '..Said'. Prove '..Said' where nothing that the law and all that it calls make is longer than what came in: it says more and counts as full. Else prove '..UptoSaid'. A law counts once. -/
mutual
def uptoBulk {H : Type} : DataW H → Nat
  | .lit (.string bytes) => bytes.length + 1
  | .lit _ => 1
  | .nil => 1
  | .ptr d => uptoBulk d + 1
  | .slice elems spare => uptoBulkAll elems + uptoBulkAll spare + 1
  | .agg parts => uptoBulkAll parts + 1
  | .iface _ d => uptoBulk d + 1
  | .map entries => uptoBulkEntries entries + 1
  | .held _ => 1
def uptoBulkAll {H : Type} : List (DataW H) → Nat
  | [] => 0
  | d :: r => uptoBulk d + uptoBulkAll r
def uptoBulkEntries {H : Type} : List (Lit × DataW H) → Nat
  | [] => 0
  | x :: r => uptoBulkEntry x + uptoBulkEntries r
def uptoBulkEntry {H : Type} : Lit × DataW H → Nat
  | (.string bytes, d) => bytes.length + uptoBulk d + 1
  | (_, d) => uptoBulk d + 1
 end
def uptoSmall : (H : Type) → List (DataW H) → Bool := fun _ ds => decide (uptoBulkAll ds ≤ 1048576)
def OpenSpec.upto (s : _root_.Go.ChangeSpec) : _root_.Go.OpenSpec := { _root_.Go.OpenSpec.ofChange s with cond := some uptoSmall }

/-- 'causewaylaw7.DiskPieces', WHERE WHAT IT READS IS OF BULK AT MOST 1048576: true; the input reads as it did. -/
def diskPiecesUptoRow : OpenClaim := { program := "ytfpfpdhfnleebaa", sum := "3a44df46fb2447aed4a435695d66823ec3e2746efea4d7a7481c1926a0e26d8a", func := "causeway/causewaylaw7.DiskPieces", spec := "diskPieces", unfollowed := true, recurses := true, apart := false, narrowed := true }
def DiskPiecesUptoSaid : Prop := diskPiecesUptoRow.holds Try.pinned (OpenSpec.upto diskPiecesSpec)

/-- 'causewaylaw7.DiskFresh', WHERE WHAT IT READS IS OF BULK AT MOST 1048576: true; the input reads as it did. -/
def diskFreshUptoRow : OpenClaim := { program := "ytfpfpdhfnleebaa", sum := "3a44df46fb2447aed4a435695d66823ec3e2746efea4d7a7481c1926a0e26d8a", func := "causeway/causewaylaw7.DiskFresh", spec := "diskFresh", unfollowed := true, recurses := true, apart := false, narrowed := true }
def DiskFreshUptoSaid : Prop := diskFreshUptoRow.holds Try.pinned (OpenSpec.upto diskFreshSpec)

/-- 'causewaylaw7.DiskKeeps', WHERE WHAT IT READS IS OF BULK AT MOST 1048576: true; the input reads as it did. -/
def diskKeepsUptoRow : OpenClaim := { program := "ytfpfpdhfnleebaa", sum := "3a44df46fb2447aed4a435695d66823ec3e2746efea4d7a7481c1926a0e26d8a", func := "causeway/causewaylaw7.DiskKeeps", spec := "diskKeeps", unfollowed := true, recurses := true, apart := false, narrowed := true }
def DiskKeepsUptoSaid : Prop := diskKeepsUptoRow.holds Try.pinned (OpenSpec.upto diskKeepsSpec)

/-- 'causewaylaw7.DiskOrder', WHERE WHAT IT READS IS OF BULK AT MOST 1048576: true; the input reads as it did. -/
def diskOrderUptoRow : OpenClaim := { program := "ytfpfpdhfnleebaa", sum := "3a44df46fb2447aed4a435695d66823ec3e2746efea4d7a7481c1926a0e26d8a", func := "causeway/causewaylaw7.DiskOrder", spec := "diskOrder", unfollowed := true, recurses := true, apart := false, narrowed := true }
def DiskOrderUptoSaid : Prop := diskOrderUptoRow.holds Try.pinned (OpenSpec.upto diskOrderSpec)

/-- 'causewaylaw7.DiskPlays', WHERE WHAT IT READS IS OF BULK AT MOST 1048576: true; the input reads as it did. -/
def diskPlaysUptoRow : OpenClaim := { program := "ytfpfpdhfnleebaa", sum := "3a44df46fb2447aed4a435695d66823ec3e2746efea4d7a7481c1926a0e26d8a", func := "causeway/causewaylaw7.DiskPlays", spec := "diskPlays", unfollowed := true, recurses := true, apart := false, narrowed := true }
def DiskPlaysUptoSaid : Prop := diskPlaysUptoRow.holds Try.pinned (OpenSpec.upto diskPlaysSpec)

/-- 'causewaylaw7.DiskLimits', WHERE WHAT IT READS IS OF BULK AT MOST 1048576: true; the input reads as it did. -/
def diskLimitsUptoRow : OpenClaim := { program := "ytfpfpdhfnleebaa", sum := "3a44df46fb2447aed4a435695d66823ec3e2746efea4d7a7481c1926a0e26d8a", func := "causeway/causewaylaw7.DiskLimits", spec := "diskLimits", unfollowed := true, recurses := true, apart := false, narrowed := true }
def DiskLimitsUptoSaid : Prop := diskLimitsUptoRow.holds Try.pinned (OpenSpec.upto diskLimitsSpec)

end Rows
end Go.Proofs.Ytfpfpdhfnleebaa
