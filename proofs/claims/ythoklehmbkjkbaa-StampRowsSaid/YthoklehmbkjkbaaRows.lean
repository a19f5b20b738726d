/-
  No cell of these rows narrows 'for every input' (looked for: loops, veiled, ifaces, maps, wideKeys, modest, calm, conditions, laid).
  DERIVED. THE GIVEN ROWS OF THIS SEAT. 6 by the template 'for every input the law returns true; each argument reads behind the call as it read before'; 0 by the template 'total and deterministic' (their statements: YthoklehmbkjkbaaTotals.lean).
  GIVEN WITH THE SEED: the statements are not yours to turn. If you find one false, say at which input.
  Laid BY PROGRAM, IN A SANDBOX (cutbox-rows.mjs): the forced cells as the released guide's own fill.sh prints them over the translation 05d8533785a8a92b… (all of the seat's roots in one cut). By AI agents, Wed Nov 11 2026. No macro, syntax, notation, axiom, sorry.
-/
import Derived.Test.YthoklehmbkjkbaaChecked
import GoSem.Claim
import GoSem.ClaimJoined
import GoSem.ClaimMapViews
import Derived.JoinedTies
import Derived.KernelRfl
namespace Go.Proofs.Ythoklehmbkjkbaa
/- THE CELL 'sum', in the pinned program and in every row, IS THE sha256 OF THE DUMP (.gsa) THAT YthoklehmbkjkbaaProg.lean LOADS. Nothing in Lean hashes anything: it is a label: what it is worth is what the hold of that sum in a sandbox is worth. -/
noncomputable def Try.pinned : Pinned := { name := "ythoklehmbkjkbaa", sum := "05d8533785a8a92bc8191f48339e0fe9dbef56bf034767f62b5c05a23b3b4edf", checked := Try.checked }
namespace Rows
def none {H : Type} : Left H := { results := [], args := [] }

/-- 'causewaylaw4.StampTells': WHATEVER THE INPUT: true; the input reads as it did. -/
def stampTellsSpec : ChangeSpec := { name := "stampTells", fn := fun _ => fun
  | [d1, d2] => { results := [.lit (.bool true)], args := [d1, d2] }
  | _ => none }
def stampTellsRow : OpenClaim := { program := "ythoklehmbkjkbaa", sum := "05d8533785a8a92bc8191f48339e0fe9dbef56bf034767f62b5c05a23b3b4edf", func := "causeway/causewaylaw4.StampTells", spec := "stampTells", apart := false }
def StampTellsSaid : Prop := stampTellsRow.holds Try.pinned (OpenSpec.ofChange stampTellsSpec)

/-- ITS FALSE NEIGHBOUR: 'it returns false'. Refute it at one input. -/
def stampTellsWrong : ChangeSpec := { name := "stampTells", fn := fun _ => fun
  | [d1, d2] => { results := [.lit (.bool false)], args := [d1, d2] }
  | _ => none }
def StampTellsWrongFalsely : Prop := stampTellsRow.holds Try.pinned (OpenSpec.ofChange stampTellsWrong)

/-- 'causewaylaw4.StampNext': WHATEVER THE INPUT: true; the input reads as it did. -/
def stampNextSpec : ChangeSpec := { name := "stampNext", fn := fun _ => fun
  | [d1, d2, d3] => { results := [.lit (.bool true)], args := [d1, d2, d3] }
  | _ => none }
def stampNextRow : OpenClaim := { program := "ythoklehmbkjkbaa", sum := "05d8533785a8a92bc8191f48339e0fe9dbef56bf034767f62b5c05a23b3b4edf", func := "causeway/causewaylaw4.StampNext", spec := "stampNext", apart := false }
def StampNextSaid : Prop := stampNextRow.holds Try.pinned (OpenSpec.ofChange stampNextSpec)

/-- ITS FALSE NEIGHBOUR: 'it returns false'. Refute it at one input. -/
def stampNextWrong : ChangeSpec := { name := "stampNext", fn := fun _ => fun
  | [d1, d2, d3] => { results := [.lit (.bool false)], args := [d1, d2, d3] }
  | _ => none }
def StampNextWrongFalsely : Prop := stampNextRow.holds Try.pinned (OpenSpec.ofChange stampNextWrong)

/-- 'causewaylaw4.StampOrder': WHATEVER THE INPUT: true; the input reads as it did. -/
def stampOrderSpec : ChangeSpec := { name := "stampOrder", fn := fun _ => fun
  | [d1, d2, d3] => { results := [.lit (.bool true)], args := [d1, d2, d3] }
  | _ => none }
def stampOrderRow : OpenClaim := { program := "ythoklehmbkjkbaa", sum := "05d8533785a8a92bc8191f48339e0fe9dbef56bf034767f62b5c05a23b3b4edf", func := "causeway/causewaylaw4.StampOrder", spec := "stampOrder", apart := false }
def StampOrderSaid : Prop := stampOrderRow.holds Try.pinned (OpenSpec.ofChange stampOrderSpec)

/-- ITS FALSE NEIGHBOUR: 'it returns false'. Refute it at one input. -/
def stampOrderWrong : ChangeSpec := { name := "stampOrder", fn := fun _ => fun
  | [d1, d2, d3] => { results := [.lit (.bool false)], args := [d1, d2, d3] }
  | _ => none }
def StampOrderWrongFalsely : Prop := stampOrderRow.holds Try.pinned (OpenSpec.ofChange stampOrderWrong)

/-- 'causewaylaw4.StampBehind': WHATEVER THE INPUT: true; the input reads as it did. -/
def stampBehindSpec : ChangeSpec := { name := "stampBehind", fn := fun _ => fun
  | [d1, d2, d3, d4] => { results := [.lit (.bool true)], args := [d1, d2, d3, d4] }
  | _ => none }
def stampBehindRow : OpenClaim := { program := "ythoklehmbkjkbaa", sum := "05d8533785a8a92bc8191f48339e0fe9dbef56bf034767f62b5c05a23b3b4edf", func := "causeway/causewaylaw4.StampBehind", spec := "stampBehind", apart := false }
def StampBehindSaid : Prop := stampBehindRow.holds Try.pinned (OpenSpec.ofChange stampBehindSpec)

/-- ITS FALSE NEIGHBOUR: 'it returns false'. Refute it at one input. -/
def stampBehindWrong : ChangeSpec := { name := "stampBehind", fn := fun _ => fun
  | [d1, d2, d3, d4] => { results := [.lit (.bool false)], args := [d1, d2, d3, d4] }
  | _ => none }
def StampBehindWrongFalsely : Prop := stampBehindRow.holds Try.pinned (OpenSpec.ofChange stampBehindWrong)

/-- 'causewaylaw4.StampMax': WHATEVER THE INPUT: true; the input reads as it did. -/
def stampMaxSpec : ChangeSpec := { name := "stampMax", fn := fun _ => fun
  | [d] => { results := [.lit (.bool true)], args := [d] }
  | _ => none }
def stampMaxRow : OpenClaim := { program := "ythoklehmbkjkbaa", sum := "05d8533785a8a92bc8191f48339e0fe9dbef56bf034767f62b5c05a23b3b4edf", func := "causeway/causewaylaw4.StampMax", spec := "stampMax", apart := false }
def StampMaxSaid : Prop := stampMaxRow.holds Try.pinned (OpenSpec.ofChange stampMaxSpec)

/-- ITS FALSE NEIGHBOUR: 'it returns false'. Refute it at one input. -/
def stampMaxWrong : ChangeSpec := { name := "stampMax", fn := fun _ => fun
  | [d] => { results := [.lit (.bool false)], args := [d] }
  | _ => none }
def StampMaxWrongFalsely : Prop := stampMaxRow.holds Try.pinned (OpenSpec.ofChange stampMaxWrong)

/-- 'causewaylaw4.StampRows': WHATEVER THE INPUT: true; the input reads as it did. -/
def stampRowsSpec : ChangeSpec := { name := "stampRows", fn := fun _ => fun
  | [d1, d2] => { results := [.lit (.bool true)], args := [d1, d2] }
  | _ => none }
def stampRowsRow : OpenClaim := { program := "ythoklehmbkjkbaa", sum := "05d8533785a8a92bc8191f48339e0fe9dbef56bf034767f62b5c05a23b3b4edf", func := "causeway/causewaylaw4.StampRows", spec := "stampRows", apart := false }
def StampRowsSaid : Prop := stampRowsRow.holds Try.pinned (OpenSpec.ofChange stampRowsSpec)

/-- ITS FALSE NEIGHBOUR: 'it returns false'. Refute it at one input. -/
def stampRowsWrong : ChangeSpec := { name := "stampRows", fn := fun _ => fun
  | [d1, d2] => { results := [.lit (.bool false)], args := [d1, d2] }
  | _ => none }
def StampRowsWrongFalsely : Prop := stampRowsRow.holds Try.pinned (OpenSpec.ofChange stampRowsWrong)

/- THE SECOND FORM. 'bulk': how many values and letters a reading holds, each counted each time it is reached (what is shared counts as often as it is met; a slice's spare places count too). A statement '..UptoSaid' is the law's where the arguments, and the package variables that the reading takes, are together of bulk at most 1048576: NARROWER than '..Said'. Prove '..Said' where nothing that the law and all that it calls make is longer than what came in: it says more and counts as full. Else prove '..UptoSaid'. A law counts once. -/
mutual
def uptoBulk {H : Type} : DataW H → Nat
  | .lit (.string bytes) => bytes.length + 1
  | .lit _ => 1
  | .nil => 1
  | .ptr d => uptoBulk d + 1
  | .slice elems spare => uptoBulkAll elems + uptoBulkAll spare + 1
  | .agg parts => uptoBulkAll parts + 1
  | .iface _ d => uptoBulk d + 1
  | .map entries => uptoBulkEntries entries + 1
  | .held _ => 1
def uptoBulkAll {H : Type} : List (DataW H) → Nat
  | [] => 0
  | d :: r => uptoBulk d + uptoBulkAll r
def uptoBulkEntries {H : Type} : List (Lit × DataW H) → Nat
  | [] => 0
  | x :: r => uptoBulkEntry x + uptoBulkEntries r
def uptoBulkEntry {H : Type} : Lit × DataW H → Nat
  | (.string bytes, d) => bytes.length + uptoBulk d + 1
  | (_, d) => uptoBulk d + 1
 end
def uptoSmall : (H : Type) → List (DataW H) → Bool := fun _ ds => decide (uptoBulkAll ds ≤ 1048576)
def OpenSpec.upto (s : _root_.Go.ChangeSpec) : _root_.Go.OpenSpec := { _root_.Go.OpenSpec.ofChange s with cond := some uptoSmall }

/-- 'causewaylaw4.StampTells', WHERE WHAT IT READS IS OF BULK AT MOST 1048576: true; the input reads as it did. -/
def stampTellsUptoRow : OpenClaim := { program := "ythoklehmbkjkbaa", sum := "05d8533785a8a92bc8191f48339e0fe9dbef56bf034767f62b5c05a23b3b4edf", func := "causeway/causewaylaw4.StampTells", spec := "stampTells", apart := false, narrowed := true }
def StampTellsUptoSaid : Prop := stampTellsUptoRow.holds Try.pinned (OpenSpec.upto stampTellsSpec)

/-- 'causewaylaw4.StampNext', WHERE WHAT IT READS IS OF BULK AT MOST 1048576: true; the input reads as it did. -/
def stampNextUptoRow : OpenClaim := { program := "ythoklehmbkjkbaa", sum := "05d8533785a8a92bc8191f48339e0fe9dbef56bf034767f62b5c05a23b3b4edf", func := "causeway/causewaylaw4.StampNext", spec := "stampNext", apart := false, narrowed := true }
def StampNextUptoSaid : Prop := stampNextUptoRow.holds Try.pinned (OpenSpec.upto stampNextSpec)

/-- 'causewaylaw4.StampOrder', WHERE WHAT IT READS IS OF BULK AT MOST 1048576: true; the input reads as it did. -/
def stampOrderUptoRow : OpenClaim := { program := "ythoklehmbkjkbaa", sum := "05d8533785a8a92bc8191f48339e0fe9dbef56bf034767f62b5c05a23b3b4edf", func := "causeway/causewaylaw4.StampOrder", spec := "stampOrder", apart := false, narrowed := true }
def StampOrderUptoSaid : Prop := stampOrderUptoRow.holds Try.pinned (OpenSpec.upto stampOrderSpec)

/-- 'causewaylaw4.StampBehind', WHERE WHAT IT READS IS OF BULK AT MOST 1048576: true; the input reads as it did. -/
def stampBehindUptoRow : OpenClaim := { program := "ythoklehmbkjkbaa", sum := "05d8533785a8a92bc8191f48339e0fe9dbef56bf034767f62b5c05a23b3b4edf", func := "causeway/causewaylaw4.StampBehind", spec := "stampBehind", apart := false, narrowed := true }
def StampBehindUptoSaid : Prop := stampBehindUptoRow.holds Try.pinned (OpenSpec.upto stampBehindSpec)

/-- 'causewaylaw4.StampMax', WHERE WHAT IT READS IS OF BULK AT MOST 1048576: true; the input reads as it did. -/
def stampMaxUptoRow : OpenClaim := { program := "ythoklehmbkjkbaa", sum := "05d8533785a8a92bc8191f48339e0fe9dbef56bf034767f62b5c05a23b3b4edf", func := "causeway/causewaylaw4.StampMax", spec := "stampMax", apart := false, narrowed := true }
def StampMaxUptoSaid : Prop := stampMaxUptoRow.holds Try.pinned (OpenSpec.upto stampMaxSpec)

/-- 'causewaylaw4.StampRows', WHERE WHAT IT READS IS OF BULK AT MOST 1048576: true; the input reads as it did. -/
def stampRowsUptoRow : OpenClaim := { program := "ythoklehmbkjkbaa", sum := "05d8533785a8a92bc8191f48339e0fe9dbef56bf034767f62b5c05a23b3b4edf", func := "causeway/causewaylaw4.StampRows", spec := "stampRows", apart := false, narrowed := true }
def StampRowsUptoSaid : Prop := stampRowsUptoRow.holds Try.pinned (OpenSpec.upto stampRowsSpec)

end Rows
end Go.Proofs.Ythoklehmbkjkbaa
