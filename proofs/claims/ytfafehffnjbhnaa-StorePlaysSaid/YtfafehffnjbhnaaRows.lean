/-
  No cell of these rows narrows 'for every input' (looked for: loops, veiled, ifaces, maps, wideKeys, modest, calm, conditions, laid).
  DERIVED. THE GIVEN ROWS OF THIS SEAT. 6 by the template 'for every input the law returns true; each argument reads behind the call as it read before'; 0 by the template 'total and deterministic' (their statements: YtfafehffnjbhnaaTotals.lean).
  GIVEN WITH THE SEED: the statements are not yours to turn. If you find one false, say at which input.
  Laid BY PROGRAM, IN A SANDBOX (cutbox-rows.mjs): the forced cells as the released guide's own fill.sh prints them over the translation 642978ef5791d5d7… (all of the seat's roots in one cut). By AI agents, Wed Nov 11 2026. No macro, syntax, notation, axiom, sorry.
-/
import Derived.Test.YtfafehffnjbhnaaChecked
import GoSem.Claim
import GoSem.ClaimJoined
import GoSem.ClaimMapViews
import Derived.JoinedTies
import Derived.KernelRfl
namespace Go.Proofs.Ytfafehffnjbhnaa
/- THE CELL 'sum', in the pinned program and in every row, IS THE sha256 OF THE DUMP (.gsa) THAT YtfafehffnjbhnaaProg.lean LOADS. Nothing in Lean hashes anything: it is a label: what it is worth is what the hold of that sum in a sandbox is worth. -/
noncomputable def Try.pinned : Pinned := { name := "ytfafehffnjbhnaa", sum := "642978ef5791d5d7c8c3c8f8f70571929f214806036a6b96815dd6ca8516af70", checked := Try.checked }
namespace Rows
def none {H : Type} : Left H := { results := [], args := [] }

/-- 'causewaylaw9.StoreTwice': WHATEVER THE INPUT: true; the input reads as it did. -/
def storeTwiceSpec : ChangeSpec := { name := "storeTwice", fn := fun _ => fun
  | [d1, d2] => { results := [.lit (.bool true)], args := [d1, d2] }
  | _ => none }
def storeTwiceRow : OpenClaim := { program := "ytfafehffnjbhnaa", sum := "642978ef5791d5d7c8c3c8f8f70571929f214806036a6b96815dd6ca8516af70", func := "causeway/causewaylaw9.StoreTwice", spec := "storeTwice", unfollowed := true, recurses := true, apart := false }
def StoreTwiceSaid : Prop := storeTwiceRow.holds Try.pinned (OpenSpec.ofChange storeTwiceSpec)

/-- ITS FALSE NEIGHBOUR: 'it returns false'. Refute it at one input. -/
def storeTwiceWrong : ChangeSpec := { name := "storeTwice", fn := fun _ => fun
  | [d1, d2] => { results := [.lit (.bool false)], args := [d1, d2] }
  | _ => none }
def StoreTwiceWrongFalsely : Prop := storeTwiceRow.holds Try.pinned (OpenSpec.ofChange storeTwiceWrong)

/-- 'causewaylaw9.StoreOrder': WHATEVER THE INPUT: true; the input reads as it did. -/
def storeOrderSpec : ChangeSpec := { name := "storeOrder", fn := fun _ => fun
  | [d1, d2] => { results := [.lit (.bool true)], args := [d1, d2] }
  | _ => none }
def storeOrderRow : OpenClaim := { program := "ytfafehffnjbhnaa", sum := "642978ef5791d5d7c8c3c8f8f70571929f214806036a6b96815dd6ca8516af70", func := "causeway/causewaylaw9.StoreOrder", spec := "storeOrder", unfollowed := true, recurses := true, apart := false }
def StoreOrderSaid : Prop := storeOrderRow.holds Try.pinned (OpenSpec.ofChange storeOrderSpec)

/-- ITS FALSE NEIGHBOUR: 'it returns false'. Refute it at one input. -/
def storeOrderWrong : ChangeSpec := { name := "storeOrder", fn := fun _ => fun
  | [d1, d2] => { results := [.lit (.bool false)], args := [d1, d2] }
  | _ => none }
def StoreOrderWrongFalsely : Prop := storeOrderRow.holds Try.pinned (OpenSpec.ofChange storeOrderWrong)

/-- 'causewaylaw9.StoreCollects': WHATEVER THE INPUT: true; the input reads as it did. -/
def storeCollectsSpec : ChangeSpec := { name := "storeCollects", fn := fun _ => fun
  | [d1, d2, d3, d4] => { results := [.lit (.bool true)], args := [d1, d2, d3, d4] }
  | _ => none }
def storeCollectsRow : OpenClaim := { program := "ytfafehffnjbhnaa", sum := "642978ef5791d5d7c8c3c8f8f70571929f214806036a6b96815dd6ca8516af70", func := "causeway/causewaylaw9.StoreCollects", spec := "storeCollects", unfollowed := true, recurses := true, apart := false }
def StoreCollectsSaid : Prop := storeCollectsRow.holds Try.pinned (OpenSpec.ofChange storeCollectsSpec)

/-- ITS FALSE NEIGHBOUR: 'it returns false'. Refute it at one input. -/
def storeCollectsWrong : ChangeSpec := { name := "storeCollects", fn := fun _ => fun
  | [d1, d2, d3, d4] => { results := [.lit (.bool false)], args := [d1, d2, d3, d4] }
  | _ => none }
def StoreCollectsWrongFalsely : Prop := storeCollectsRow.holds Try.pinned (OpenSpec.ofChange storeCollectsWrong)

/-- 'causewaylaw9.StoreRises': WHATEVER THE INPUT: true; the input reads as it did. -/
def storeRisesSpec : ChangeSpec := { name := "storeRises", fn := fun _ => fun
  | [d1, d2, d3] => { results := [.lit (.bool true)], args := [d1, d2, d3] }
  | _ => none }
def storeRisesRow : OpenClaim := { program := "ytfafehffnjbhnaa", sum := "642978ef5791d5d7c8c3c8f8f70571929f214806036a6b96815dd6ca8516af70", func := "causeway/causewaylaw9.StoreRises", spec := "storeRises", unfollowed := true, recurses := true, apart := false }
def StoreRisesSaid : Prop := storeRisesRow.holds Try.pinned (OpenSpec.ofChange storeRisesSpec)

/-- ITS FALSE NEIGHBOUR: 'it returns false'. Refute it at one input. -/
def storeRisesWrong : ChangeSpec := { name := "storeRises", fn := fun _ => fun
  | [d1, d2, d3] => { results := [.lit (.bool false)], args := [d1, d2, d3] }
  | _ => none }
def StoreRisesWrongFalsely : Prop := storeRisesRow.holds Try.pinned (OpenSpec.ofChange storeRisesWrong)

/-- 'causewaylaw9.StorePlays': WHATEVER THE INPUT: true; the input reads as it did. -/
def storePlaysSpec : ChangeSpec := { name := "storePlays", fn := fun _ => fun
  | [d1, d2, d3] => { results := [.lit (.bool true)], args := [d1, d2, d3] }
  | _ => none }
def storePlaysRow : OpenClaim := { program := "ytfafehffnjbhnaa", sum := "642978ef5791d5d7c8c3c8f8f70571929f214806036a6b96815dd6ca8516af70", func := "causeway/causewaylaw9.StorePlays", spec := "storePlays", unfollowed := true, recurses := true, apart := false }
def StorePlaysSaid : Prop := storePlaysRow.holds Try.pinned (OpenSpec.ofChange storePlaysSpec)

/-- ITS FALSE NEIGHBOUR: 'it returns false'. Refute it at one input. -/
def storePlaysWrong : ChangeSpec := { name := "storePlays", fn := fun _ => fun
  | [d1, d2, d3] => { results := [.lit (.bool false)], args := [d1, d2, d3] }
  | _ => none }
def StorePlaysWrongFalsely : Prop := storePlaysRow.holds Try.pinned (OpenSpec.ofChange storePlaysWrong)

/-- 'causewaylaw9.StoreMarks': WHATEVER THE INPUT: true; the input reads as it did. -/
def storeMarksSpec : ChangeSpec := { name := "storeMarks", fn := fun _ => fun
  | [d1, d2, d3] => { results := [.lit (.bool true)], args := [d1, d2, d3] }
  | _ => none }
def storeMarksRow : OpenClaim := { program := "ytfafehffnjbhnaa", sum := "642978ef5791d5d7c8c3c8f8f70571929f214806036a6b96815dd6ca8516af70", func := "causeway/causewaylaw9.StoreMarks", spec := "storeMarks", unfollowed := true, recurses := true, apart := false }
def StoreMarksSaid : Prop := storeMarksRow.holds Try.pinned (OpenSpec.ofChange storeMarksSpec)

/-- ITS FALSE NEIGHBOUR: 'it returns false'. Refute it at one input. -/
def storeMarksWrong : ChangeSpec := { name := "storeMarks", fn := fun _ => fun
  | [d1, d2, d3] => { results := [.lit (.bool false)], args := [d1, d2, d3] }
  | _ => none }
def StoreMarksWrongFalsely : Prop := storeMarksRow.holds Try.pinned (OpenSpec.ofChange storeMarksWrong)

/- THE SECOND FORM. 'bulk': how many values and letters a reading holds, each counted each time it is reached (what is shared counts as often as it is met; a slice's spare places count too). A statement '..UptoSaid' is the law's where the arguments, and the package variables that the reading takes, are together of bulk at most 1048576: NARROWER than '..Said'. Prove '..Said' where nothing that the law and all that it calls make is longer than what came in: it says more and counts as full. Else prove '..UptoSaid'. A law counts once. -/
mutual
def uptoBulk {H : Type} : DataW H → Nat
  | .lit (.string bytes) => bytes.length + 1
  | .lit _ => 1
  | .nil => 1
  | .ptr d => uptoBulk d + 1
  | .slice elems spare => uptoBulkAll elems + uptoBulkAll spare + 1
  | .agg parts => uptoBulkAll parts + 1
  | .iface _ d => uptoBulk d + 1
  | .map entries => uptoBulkEntries entries + 1
  | .held _ => 1
def uptoBulkAll {H : Type} : List (DataW H) → Nat
  | [] => 0
  | d :: r => uptoBulk d + uptoBulkAll r
def uptoBulkEntries {H : Type} : List (Lit × DataW H) → Nat
  | [] => 0
  | x :: r => uptoBulkEntry x + uptoBulkEntries r
def uptoBulkEntry {H : Type} : Lit × DataW H → Nat
  | (.string bytes, d) => bytes.length + uptoBulk d + 1
  | (_, d) => uptoBulk d + 1
 end
def uptoSmall : (H : Type) → List (DataW H) → Bool := fun _ ds => decide (uptoBulkAll ds ≤ 1048576)
def OpenSpec.upto (s : _root_.Go.ChangeSpec) : _root_.Go.OpenSpec := { _root_.Go.OpenSpec.ofChange s with cond := some uptoSmall }

/-- 'causewaylaw9.StoreTwice', WHERE WHAT IT READS IS OF BULK AT MOST 1048576: true; the input reads as it did. -/
def storeTwiceUptoRow : OpenClaim := { program := "ytfafehffnjbhnaa", sum := "642978ef5791d5d7c8c3c8f8f70571929f214806036a6b96815dd6ca8516af70", func := "causeway/causewaylaw9.StoreTwice", spec := "storeTwice", unfollowed := true, recurses := true, apart := false, narrowed := true }
def StoreTwiceUptoSaid : Prop := storeTwiceUptoRow.holds Try.pinned (OpenSpec.upto storeTwiceSpec)

/-- 'causewaylaw9.StoreOrder', WHERE WHAT IT READS IS OF BULK AT MOST 1048576: true; the input reads as it did. -/
def storeOrderUptoRow : OpenClaim := { program := "ytfafehffnjbhnaa", sum := "642978ef5791d5d7c8c3c8f8f70571929f214806036a6b96815dd6ca8516af70", func := "causeway/causewaylaw9.StoreOrder", spec := "storeOrder", unfollowed := true, recurses := true, apart := false, narrowed := true }
def StoreOrderUptoSaid : Prop := storeOrderUptoRow.holds Try.pinned (OpenSpec.upto storeOrderSpec)

/-- 'causewaylaw9.StoreCollects', WHERE WHAT IT READS IS OF BULK AT MOST 1048576: true; the input reads as it did. -/
def storeCollectsUptoRow : OpenClaim := { program := "ytfafehffnjbhnaa", sum := "642978ef5791d5d7c8c3c8f8f70571929f214806036a6b96815dd6ca8516af70", func := "causeway/causewaylaw9.StoreCollects", spec := "storeCollects", unfollowed := true, recurses := true, apart := false, narrowed := true }
def StoreCollectsUptoSaid : Prop := storeCollectsUptoRow.holds Try.pinned (OpenSpec.upto storeCollectsSpec)

/-- 'causewaylaw9.StoreRises', WHERE WHAT IT READS IS OF BULK AT MOST 1048576: true; the input reads as it did. -/
def storeRisesUptoRow : OpenClaim := { program := "ytfafehffnjbhnaa", sum := "642978ef5791d5d7c8c3c8f8f70571929f214806036a6b96815dd6ca8516af70", func := "causeway/causewaylaw9.StoreRises", spec := "storeRises", unfollowed := true, recurses := true, apart := false, narrowed := true }
def StoreRisesUptoSaid : Prop := storeRisesUptoRow.holds Try.pinned (OpenSpec.upto storeRisesSpec)

/-- 'causewaylaw9.StorePlays', WHERE WHAT IT READS IS OF BULK AT MOST 1048576: true; the input reads as it did. -/
def storePlaysUptoRow : OpenClaim := { program := "ytfafehffnjbhnaa", sum := "642978ef5791d5d7c8c3c8f8f70571929f214806036a6b96815dd6ca8516af70", func := "causeway/causewaylaw9.StorePlays", spec := "storePlays", unfollowed := true, recurses := true, apart := false, narrowed := true }
def StorePlaysUptoSaid : Prop := storePlaysUptoRow.holds Try.pinned (OpenSpec.upto storePlaysSpec)

/-- 'causewaylaw9.StoreMarks', WHERE WHAT IT READS IS OF BULK AT MOST 1048576: true; the input reads as it did. -/
def storeMarksUptoRow : OpenClaim := { program := "ytfafehffnjbhnaa", sum := "642978ef5791d5d7c8c3c8f8f70571929f214806036a6b96815dd6ca8516af70", func := "causeway/causewaylaw9.StoreMarks", spec := "storeMarks", unfollowed := true, recurses := true, apart := false, narrowed := true }
def StoreMarksUptoSaid : Prop := storeMarksUptoRow.holds Try.pinned (OpenSpec.upto storeMarksSpec)

end Rows
end Go.Proofs.Ytfafehffnjbhnaa
