/-
  No cell of these rows narrows 'for every input' (looked for: loops, veiled, ifaces, maps, wideKeys, modest, calm, conditions, laid).
  DERIVED. THE GIVEN ROWS OF THIS SEAT. 7 by the template 'for every input the law returns true; each argument reads behind the call as it read before'; 0 by the template 'total and deterministic' (their statements: YtejojfjbecpofaaTotals.lean).
  GIVEN WITH THE SEED: the statements are not yours to turn. If you find one false, say at which input.
  Laid BY PROGRAM, IN A SANDBOX (cutbox-rows.mjs): the forced cells as the released guide's own fill.sh prints them over the translation e5a2cdcab522b8bb… (all of the seat's roots in one cut). By AI agents, Wed Nov 11 2026. No macro, syntax, notation, axiom, sorry.
-/
import Derived.Test.YtejojfjbecpofaaChecked
import GoSem.Claim
import GoSem.ClaimJoined
import GoSem.ClaimMapViews
import Derived.JoinedTies
import Derived.KernelRfl
namespace Go.Proofs.Ytejojfjbecpofaa
/- THE CELL 'sum', in the pinned program and in every row, IS THE sha256 OF THE DUMP (.gsa) THAT YtejojfjbecpofaaProg.lean LOADS. Nothing in Lean hashes anything: it is a label: what it is worth is what the hold of that sum in a sandbox is worth. -/
noncomputable def Try.pinned : Pinned := { name := "ytejojfjbecpofaa", sum := "e5a2cdcab522b8bb41e0b1d93ee4d01be8604d25517c467191e173f836d2b151", checked := Try.checked }
namespace Rows
def none {H : Type} : Left H := { results := [], args := [] }

/-- 'causewaylaw3.CrcSums': WHATEVER THE INPUT: true; the input reads as it did. -/
def crcSumsSpec : ChangeSpec := { name := "crcSums", fn := fun _ => fun
  | [d] => { results := [.lit (.bool true)], args := [d] }
  | _ => none }
def crcSumsRow : OpenClaim := { program := "ytejojfjbecpofaa", sum := "e5a2cdcab522b8bb41e0b1d93ee4d01be8604d25517c467191e173f836d2b151", func := "causeway/causewaylaw3.CrcSums", spec := "crcSums", apart := false }
def CrcSumsSaid : Prop := crcSumsRow.holds Try.pinned (OpenSpec.ofChange crcSumsSpec)

/-- ITS FALSE NEIGHBOUR: 'it returns false'. Refute it at one input. -/
def crcSumsWrong : ChangeSpec := { name := "crcSums", fn := fun _ => fun
  | [d] => { results := [.lit (.bool false)], args := [d] }
  | _ => none }
def CrcSumsWrongFalsely : Prop := crcSumsRow.holds Try.pinned (OpenSpec.ofChange crcSumsWrong)

/-- 'causewaylaw3.CrcMore': WHATEVER THE INPUT: true; the input reads as it did. -/
def crcMoreSpec : ChangeSpec := { name := "crcMore", fn := fun _ => fun
  | [d1, d2] => { results := [.lit (.bool true)], args := [d1, d2] }
  | _ => none }
def crcMoreRow : OpenClaim := { program := "ytejojfjbecpofaa", sum := "e5a2cdcab522b8bb41e0b1d93ee4d01be8604d25517c467191e173f836d2b151", func := "causeway/causewaylaw3.CrcMore", spec := "crcMore", apart := false }
def CrcMoreSaid : Prop := crcMoreRow.holds Try.pinned (OpenSpec.ofChange crcMoreSpec)

/-- ITS FALSE NEIGHBOUR: 'it returns false'. Refute it at one input. -/
def crcMoreWrong : ChangeSpec := { name := "crcMore", fn := fun _ => fun
  | [d1, d2] => { results := [.lit (.bool false)], args := [d1, d2] }
  | _ => none }
def CrcMoreWrongFalsely : Prop := crcMoreRow.holds Try.pinned (OpenSpec.ofChange crcMoreWrong)

/-- 'causewaylaw3.CrcTells': WHATEVER THE INPUT: true; the input reads as it did. -/
def crcTellsSpec : ChangeSpec := { name := "crcTells", fn := fun _ => fun
  | [d1, d2, d3] => { results := [.lit (.bool true)], args := [d1, d2, d3] }
  | _ => none }
def crcTellsRow : OpenClaim := { program := "ytejojfjbecpofaa", sum := "e5a2cdcab522b8bb41e0b1d93ee4d01be8604d25517c467191e173f836d2b151", func := "causeway/causewaylaw3.CrcTells", spec := "crcTells", apart := false }
def CrcTellsSaid : Prop := crcTellsRow.holds Try.pinned (OpenSpec.ofChange crcTellsSpec)

/-- ITS FALSE NEIGHBOUR: 'it returns false'. Refute it at one input. -/
def crcTellsWrong : ChangeSpec := { name := "crcTells", fn := fun _ => fun
  | [d1, d2, d3] => { results := [.lit (.bool false)], args := [d1, d2, d3] }
  | _ => none }
def CrcTellsWrongFalsely : Prop := crcTellsRow.holds Try.pinned (OpenSpec.ofChange crcTellsWrong)

/-- 'causewaylaw3.CrcMixes': WHATEVER THE INPUT: true; the input reads as it did. -/
def crcMixesSpec : ChangeSpec := { name := "crcMixes", fn := fun _ => fun
  | [d1, d2, d3] => { results := [.lit (.bool true)], args := [d1, d2, d3] }
  | _ => none }
def crcMixesRow : OpenClaim := { program := "ytejojfjbecpofaa", sum := "e5a2cdcab522b8bb41e0b1d93ee4d01be8604d25517c467191e173f836d2b151", func := "causeway/causewaylaw3.CrcMixes", spec := "crcMixes", apart := false }
def CrcMixesSaid : Prop := crcMixesRow.holds Try.pinned (OpenSpec.ofChange crcMixesSpec)

/-- ITS FALSE NEIGHBOUR: 'it returns false'. Refute it at one input. -/
def crcMixesWrong : ChangeSpec := { name := "crcMixes", fn := fun _ => fun
  | [d1, d2, d3] => { results := [.lit (.bool false)], args := [d1, d2, d3] }
  | _ => none }
def CrcMixesWrongFalsely : Prop := crcMixesRow.holds Try.pinned (OpenSpec.ofChange crcMixesWrong)

/-- 'causewaylaw3.CrcJoins': WHATEVER THE INPUT: true; the input reads as it did. -/
def crcJoinsSpec : ChangeSpec := { name := "crcJoins", fn := fun _ => fun
  | [d1, d2, d3] => { results := [.lit (.bool true)], args := [d1, d2, d3] }
  | _ => none }
def crcJoinsRow : OpenClaim := { program := "ytejojfjbecpofaa", sum := "e5a2cdcab522b8bb41e0b1d93ee4d01be8604d25517c467191e173f836d2b151", func := "causeway/causewaylaw3.CrcJoins", spec := "crcJoins", apart := false }
def CrcJoinsSaid : Prop := crcJoinsRow.holds Try.pinned (OpenSpec.ofChange crcJoinsSpec)

/-- ITS FALSE NEIGHBOUR: 'it returns false'. Refute it at one input. -/
def crcJoinsWrong : ChangeSpec := { name := "crcJoins", fn := fun _ => fun
  | [d1, d2, d3] => { results := [.lit (.bool false)], args := [d1, d2, d3] }
  | _ => none }
def CrcJoinsWrongFalsely : Prop := crcJoinsRow.holds Try.pinned (OpenSpec.ofChange crcJoinsWrong)

/-- 'causewaylaw3.CrcBoth': WHATEVER THE INPUT: true; the input reads as it did. -/
def crcBothSpec : ChangeSpec := { name := "crcBoth", fn := fun _ => fun
  | [d1, d2, d3] => { results := [.lit (.bool true)], args := [d1, d2, d3] }
  | _ => none }
def crcBothRow : OpenClaim := { program := "ytejojfjbecpofaa", sum := "e5a2cdcab522b8bb41e0b1d93ee4d01be8604d25517c467191e173f836d2b151", func := "causeway/causewaylaw3.CrcBoth", spec := "crcBoth", apart := false }
def CrcBothSaid : Prop := crcBothRow.holds Try.pinned (OpenSpec.ofChange crcBothSpec)

/-- ITS FALSE NEIGHBOUR: 'it returns false'. Refute it at one input. -/
def crcBothWrong : ChangeSpec := { name := "crcBoth", fn := fun _ => fun
  | [d1, d2, d3] => { results := [.lit (.bool false)], args := [d1, d2, d3] }
  | _ => none }
def CrcBothWrongFalsely : Prop := crcBothRow.holds Try.pinned (OpenSpec.ofChange crcBothWrong)

/-- 'causewaylaw3.CrcSteps': WHATEVER THE INPUT: true; the input reads as it did. -/
def crcStepsSpec : ChangeSpec := { name := "crcSteps", fn := fun _ => fun
  | [d1, d2, d3, d4] => { results := [.lit (.bool true)], args := [d1, d2, d3, d4] }
  | _ => none }
def crcStepsRow : OpenClaim := { program := "ytejojfjbecpofaa", sum := "e5a2cdcab522b8bb41e0b1d93ee4d01be8604d25517c467191e173f836d2b151", func := "causeway/causewaylaw3.CrcSteps", spec := "crcSteps", apart := false }
def CrcStepsSaid : Prop := crcStepsRow.holds Try.pinned (OpenSpec.ofChange crcStepsSpec)

/-- ITS FALSE NEIGHBOUR: 'it returns false'. Refute it at one input. -/
def crcStepsWrong : ChangeSpec := { name := "crcSteps", fn := fun _ => fun
  | [d1, d2, d3, d4] => { results := [.lit (.bool false)], args := [d1, d2, d3, d4] }
  | _ => none }
def CrcStepsWrongFalsely : Prop := crcStepsRow.holds Try.pinned (OpenSpec.ofChange crcStepsWrong)

/- THE SECOND FORM. 'bulk': how many values and letters a reading holds, each counted each time it is reached (what is shared counts as often as it is met; a slice's spare places count too). A statement '..UptoSaid' is the law's where the arguments, and the package variables that the reading takes, are together of bulk at most 1048576: NARROWER than '..Said'. Prove '..Said' where nothing that the law and all that it calls make is longer than what came in: it says more and counts as full. Else prove '..UptoSaid'. A law counts once. -/
mutual
def uptoBulk {H : Type} : DataW H → Nat
  | .lit (.string bytes) => bytes.length + 1
  | .lit _ => 1
  | .nil => 1
  | .ptr d => uptoBulk d + 1
  | .slice elems spare => uptoBulkAll elems + uptoBulkAll spare + 1
  | .agg parts => uptoBulkAll parts + 1
  | .iface _ d => uptoBulk d + 1
  | .map entries => uptoBulkEntries entries + 1
  | .held _ => 1
def uptoBulkAll {H : Type} : List (DataW H) → Nat
  | [] => 0
  | d :: r => uptoBulk d + uptoBulkAll r
def uptoBulkEntries {H : Type} : List (Lit × DataW H) → Nat
  | [] => 0
  | x :: r => uptoBulkEntry x + uptoBulkEntries r
def uptoBulkEntry {H : Type} : Lit × DataW H → Nat
  | (.string bytes, d) => bytes.length + uptoBulk d + 1
  | (_, d) => uptoBulk d + 1
 end
def uptoSmall : (H : Type) → List (DataW H) → Bool := fun _ ds => decide (uptoBulkAll ds ≤ 1048576)
def OpenSpec.upto (s : _root_.Go.ChangeSpec) : _root_.Go.OpenSpec := { _root_.Go.OpenSpec.ofChange s with cond := some uptoSmall }

/-- 'causewaylaw3.CrcSums', WHERE WHAT IT READS IS OF BULK AT MOST 1048576: true; the input reads as it did. -/
def crcSumsUptoRow : OpenClaim := { program := "ytejojfjbecpofaa", sum := "e5a2cdcab522b8bb41e0b1d93ee4d01be8604d25517c467191e173f836d2b151", func := "causeway/causewaylaw3.CrcSums", spec := "crcSums", apart := false, narrowed := true }
def CrcSumsUptoSaid : Prop := crcSumsUptoRow.holds Try.pinned (OpenSpec.upto crcSumsSpec)

/-- 'causewaylaw3.CrcMore', WHERE WHAT IT READS IS OF BULK AT MOST 1048576: true; the input reads as it did. -/
def crcMoreUptoRow : OpenClaim := { program := "ytejojfjbecpofaa", sum := "e5a2cdcab522b8bb41e0b1d93ee4d01be8604d25517c467191e173f836d2b151", func := "causeway/causewaylaw3.CrcMore", spec := "crcMore", apart := false, narrowed := true }
def CrcMoreUptoSaid : Prop := crcMoreUptoRow.holds Try.pinned (OpenSpec.upto crcMoreSpec)

/-- 'causewaylaw3.CrcTells', WHERE WHAT IT READS IS OF BULK AT MOST 1048576: true; the input reads as it did. -/
def crcTellsUptoRow : OpenClaim := { program := "ytejojfjbecpofaa", sum := "e5a2cdcab522b8bb41e0b1d93ee4d01be8604d25517c467191e173f836d2b151", func := "causeway/causewaylaw3.CrcTells", spec := "crcTells", apart := false, narrowed := true }
def CrcTellsUptoSaid : Prop := crcTellsUptoRow.holds Try.pinned (OpenSpec.upto crcTellsSpec)

/-- 'causewaylaw3.CrcMixes', WHERE WHAT IT READS IS OF BULK AT MOST 1048576: true; the input reads as it did. -/
def crcMixesUptoRow : OpenClaim := { program := "ytejojfjbecpofaa", sum := "e5a2cdcab522b8bb41e0b1d93ee4d01be8604d25517c467191e173f836d2b151", func := "causeway/causewaylaw3.CrcMixes", spec := "crcMixes", apart := false, narrowed := true }
def CrcMixesUptoSaid : Prop := crcMixesUptoRow.holds Try.pinned (OpenSpec.upto crcMixesSpec)

/-- 'causewaylaw3.CrcJoins', WHERE WHAT IT READS IS OF BULK AT MOST 1048576: true; the input reads as it did. -/
def crcJoinsUptoRow : OpenClaim := { program := "ytejojfjbecpofaa", sum := "e5a2cdcab522b8bb41e0b1d93ee4d01be8604d25517c467191e173f836d2b151", func := "causeway/causewaylaw3.CrcJoins", spec := "crcJoins", apart := false, narrowed := true }
def CrcJoinsUptoSaid : Prop := crcJoinsUptoRow.holds Try.pinned (OpenSpec.upto crcJoinsSpec)

/-- 'causewaylaw3.CrcBoth', WHERE WHAT IT READS IS OF BULK AT MOST 1048576: true; the input reads as it did. -/
def crcBothUptoRow : OpenClaim := { program := "ytejojfjbecpofaa", sum := "e5a2cdcab522b8bb41e0b1d93ee4d01be8604d25517c467191e173f836d2b151", func := "causeway/causewaylaw3.CrcBoth", spec := "crcBoth", apart := false, narrowed := true }
def CrcBothUptoSaid : Prop := crcBothUptoRow.holds Try.pinned (OpenSpec.upto crcBothSpec)

/-- 'causewaylaw3.CrcSteps', WHERE WHAT IT READS IS OF BULK AT MOST 1048576: true; the input reads as it did. -/
def crcStepsUptoRow : OpenClaim := { program := "ytejojfjbecpofaa", sum := "e5a2cdcab522b8bb41e0b1d93ee4d01be8604d25517c467191e173f836d2b151", func := "causeway/causewaylaw3.CrcSteps", spec := "crcSteps", apart := false, narrowed := true }
def CrcStepsUptoSaid : Prop := crcStepsUptoRow.holds Try.pinned (OpenSpec.upto crcStepsSpec)

end Rows
end Go.Proofs.Ytejojfjbecpofaa
