/-
  No cell of these rows narrows 'for every input' (looked for: loops, veiled, ifaces, maps, wideKeys, modest, calm, conditions, laid).
  DERIVED. THE GIVEN ROWS OF THIS SEAT. 6 by the template 'for every input the law returns true; each argument reads behind the call as it read before'; 0 by the template 'total and deterministic' (their statements: YtelephoalpphkaaTotals.lean).
  GIVEN WITH THE SEED: the statements are not yours to turn. If you find one false, say at which input.
  Laid BY PROGRAM, IN A SANDBOX (cutbox-rows.mjs): the forced cells as the released guide's own fill.sh prints them over the translation 7a2201e65a26e602… (all of the seat's roots in one cut). By AI agents, Wed Nov 11 2026. No macro, syntax, notation, axiom, sorry.
-/
import Derived.Test.YtelephoalpphkaaChecked
import GoSem.Claim
import GoSem.ClaimJoined
import GoSem.ClaimMapViews
import Derived.JoinedTies
import Derived.KernelRfl
namespace Go.Proofs.Ytelephoalpphkaa
/- THE CELL 'sum', in the pinned program and in every row, IS THE sha256 OF THE DUMP (.gsa) THAT YtelephoalpphkaaProg.lean LOADS. Nothing in Lean hashes anything: it is a label: what it is worth is what the hold of that sum in a sandbox is worth. -/
noncomputable def Try.pinned : Pinned := { name := "ytelephoalpphkaa", sum := "7a2201e65a26e602f873d2bfff9299d907e0fe62ede812ffdf775d8e9165f2bc", checked := Try.checked }
namespace Rows
def none {H : Type} : Left H := { results := [], args := [] }

/-- 'causewaylaw24.AuditChecks': WHATEVER THE INPUT: true; the input reads as it did. -/
def auditChecksSpec : ChangeSpec := { name := "auditChecks", fn := fun _ => fun
  | [d1, d2] => { results := [.lit (.bool true)], args := [d1, d2] }
  | _ => none }
def auditChecksRow : OpenClaim := { program := "ytelephoalpphkaa", sum := "7a2201e65a26e602f873d2bfff9299d907e0fe62ede812ffdf775d8e9165f2bc", func := "causeway/causewaylaw24.AuditChecks", spec := "auditChecks", unfollowed := true, recurses := true, apart := false }
def AuditChecksSaid : Prop := auditChecksRow.holds Try.pinned (OpenSpec.ofChange auditChecksSpec)

/-- ITS FALSE NEIGHBOUR: 'it returns false'. Refute it at one input. -/
def auditChecksWrong : ChangeSpec := { name := "auditChecks", fn := fun _ => fun
  | [d1, d2] => { results := [.lit (.bool false)], args := [d1, d2] }
  | _ => none }
def AuditChecksWrongFalsely : Prop := auditChecksRow.holds Try.pinned (OpenSpec.ofChange auditChecksWrong)

/-- 'causewaylaw24.AuditSees': WHATEVER THE INPUT: true; the input reads as it did. -/
def auditSeesSpec : ChangeSpec := { name := "auditSees", fn := fun _ => fun
  | [d1, d2, d3] => { results := [.lit (.bool true)], args := [d1, d2, d3] }
  | _ => none }
def auditSeesRow : OpenClaim := { program := "ytelephoalpphkaa", sum := "7a2201e65a26e602f873d2bfff9299d907e0fe62ede812ffdf775d8e9165f2bc", func := "causeway/causewaylaw24.AuditSees", spec := "auditSees", unfollowed := true, recurses := true, apart := false }
def AuditSeesSaid : Prop := auditSeesRow.holds Try.pinned (OpenSpec.ofChange auditSeesSpec)

/-- ITS FALSE NEIGHBOUR: 'it returns false'. Refute it at one input. -/
def auditSeesWrong : ChangeSpec := { name := "auditSees", fn := fun _ => fun
  | [d1, d2, d3] => { results := [.lit (.bool false)], args := [d1, d2, d3] }
  | _ => none }
def AuditSeesWrongFalsely : Prop := auditSeesRow.holds Try.pinned (OpenSpec.ofChange auditSeesWrong)

/-- 'causewaylaw24.AuditMerges': WHATEVER THE INPUT: true; the input reads as it did. -/
def auditMergesSpec : ChangeSpec := { name := "auditMerges", fn := fun _ => fun
  | [d1, d2, d3, d4] => { results := [.lit (.bool true)], args := [d1, d2, d3, d4] }
  | _ => none }
def auditMergesRow : OpenClaim := { program := "ytelephoalpphkaa", sum := "7a2201e65a26e602f873d2bfff9299d907e0fe62ede812ffdf775d8e9165f2bc", func := "causeway/causewaylaw24.AuditMerges", spec := "auditMerges", unfollowed := true, recurses := true, apart := false }
def AuditMergesSaid : Prop := auditMergesRow.holds Try.pinned (OpenSpec.ofChange auditMergesSpec)

/-- ITS FALSE NEIGHBOUR: 'it returns false'. Refute it at one input. -/
def auditMergesWrong : ChangeSpec := { name := "auditMerges", fn := fun _ => fun
  | [d1, d2, d3, d4] => { results := [.lit (.bool false)], args := [d1, d2, d3, d4] }
  | _ => none }
def AuditMergesWrongFalsely : Prop := auditMergesRow.holds Try.pinned (OpenSpec.ofChange auditMergesWrong)

/-- 'causewaylaw24.AuditRules': WHATEVER THE INPUT: true; the input reads as it did. -/
def auditRulesSpec : ChangeSpec := { name := "auditRules", fn := fun _ => fun
  | [d1, d2, d3] => { results := [.lit (.bool true)], args := [d1, d2, d3] }
  | _ => none }
def auditRulesRow : OpenClaim := { program := "ytelephoalpphkaa", sum := "7a2201e65a26e602f873d2bfff9299d907e0fe62ede812ffdf775d8e9165f2bc", func := "causeway/causewaylaw24.AuditRules", spec := "auditRules", unfollowed := true, recurses := true, apart := false }
def AuditRulesSaid : Prop := auditRulesRow.holds Try.pinned (OpenSpec.ofChange auditRulesSpec)

/-- ITS FALSE NEIGHBOUR: 'it returns false'. Refute it at one input. -/
def auditRulesWrong : ChangeSpec := { name := "auditRules", fn := fun _ => fun
  | [d1, d2, d3] => { results := [.lit (.bool false)], args := [d1, d2, d3] }
  | _ => none }
def AuditRulesWrongFalsely : Prop := auditRulesRow.holds Try.pinned (OpenSpec.ofChange auditRulesWrong)

/-- 'causewaylaw24.AuditWrites': WHATEVER THE INPUT: true; the input reads as it did. -/
def auditWritesSpec : ChangeSpec := { name := "auditWrites", fn := fun _ => fun
  | [d1, d2, d3] => { results := [.lit (.bool true)], args := [d1, d2, d3] }
  | _ => none }
def auditWritesRow : OpenClaim := { program := "ytelephoalpphkaa", sum := "7a2201e65a26e602f873d2bfff9299d907e0fe62ede812ffdf775d8e9165f2bc", func := "causeway/causewaylaw24.AuditWrites", spec := "auditWrites", unfollowed := true, recurses := true, apart := false }
def AuditWritesSaid : Prop := auditWritesRow.holds Try.pinned (OpenSpec.ofChange auditWritesSpec)

/-- ITS FALSE NEIGHBOUR: 'it returns false'. Refute it at one input. -/
def auditWritesWrong : ChangeSpec := { name := "auditWrites", fn := fun _ => fun
  | [d1, d2, d3] => { results := [.lit (.bool false)], args := [d1, d2, d3] }
  | _ => none }
def AuditWritesWrongFalsely : Prop := auditWritesRow.holds Try.pinned (OpenSpec.ofChange auditWritesWrong)

/-- 'causewaylaw24.AuditVisible': WHATEVER THE INPUT: true; the input reads as it did. -/
def auditVisibleSpec : ChangeSpec := { name := "auditVisible", fn := fun _ => fun
  | [d1, d2, d3] => { results := [.lit (.bool true)], args := [d1, d2, d3] }
  | _ => none }
def auditVisibleRow : OpenClaim := { program := "ytelephoalpphkaa", sum := "7a2201e65a26e602f873d2bfff9299d907e0fe62ede812ffdf775d8e9165f2bc", func := "causeway/causewaylaw24.AuditVisible", spec := "auditVisible", unfollowed := true, recurses := true, apart := false }
def AuditVisibleSaid : Prop := auditVisibleRow.holds Try.pinned (OpenSpec.ofChange auditVisibleSpec)

/-- ITS FALSE NEIGHBOUR: 'it returns false'. Refute it at one input. -/
def auditVisibleWrong : ChangeSpec := { name := "auditVisible", fn := fun _ => fun
  | [d1, d2, d3] => { results := [.lit (.bool false)], args := [d1, d2, d3] }
  | _ => none }
def AuditVisibleWrongFalsely : Prop := auditVisibleRow.holds Try.pinned (OpenSpec.ofChange auditVisibleWrong)

/- THE SECOND FORM. 'bulk': how many values and letters a reading holds, each counted each time it is reached (what is shared counts as often as it is met; a slice's spare places count too). A statement '..UptoSaid' is the law's where the arguments, and the package variables that the reading takes, are together of bulk at most 1048576: NARROWER than '..Said'. Prove '..Said' where nothing that the law and all that it calls make is longer than what came in: it says more and counts as full. Else prove '..UptoSaid'. A law counts once. -/
mutual
def uptoBulk {H : Type} : DataW H → Nat
  | .lit (.string bytes) => bytes.length + 1
  | .lit _ => 1
  | .nil => 1
  | .ptr d => uptoBulk d + 1
  | .slice elems spare => uptoBulkAll elems + uptoBulkAll spare + 1
  | .agg parts => uptoBulkAll parts + 1
  | .iface _ d => uptoBulk d + 1
  | .map entries => uptoBulkEntries entries + 1
  | .held _ => 1
def uptoBulkAll {H : Type} : List (DataW H) → Nat
  | [] => 0
  | d :: r => uptoBulk d + uptoBulkAll r
def uptoBulkEntries {H : Type} : List (Lit × DataW H) → Nat
  | [] => 0
  | x :: r => uptoBulkEntry x + uptoBulkEntries r
def uptoBulkEntry {H : Type} : Lit × DataW H → Nat
  | (.string bytes, d) => bytes.length + uptoBulk d + 1
  | (_, d) => uptoBulk d + 1
 end
def uptoSmall : (H : Type) → List (DataW H) → Bool := fun _ ds => decide (uptoBulkAll ds ≤ 1048576)
def OpenSpec.upto (s : _root_.Go.ChangeSpec) : _root_.Go.OpenSpec := { _root_.Go.OpenSpec.ofChange s with cond := some uptoSmall }

/-- 'causewaylaw24.AuditChecks', WHERE WHAT IT READS IS OF BULK AT MOST 1048576: true; the input reads as it did. -/
def auditChecksUptoRow : OpenClaim := { program := "ytelephoalpphkaa", sum := "7a2201e65a26e602f873d2bfff9299d907e0fe62ede812ffdf775d8e9165f2bc", func := "causeway/causewaylaw24.AuditChecks", spec := "auditChecks", unfollowed := true, recurses := true, apart := false, narrowed := true }
def AuditChecksUptoSaid : Prop := auditChecksUptoRow.holds Try.pinned (OpenSpec.upto auditChecksSpec)

/-- 'causewaylaw24.AuditSees', WHERE WHAT IT READS IS OF BULK AT MOST 1048576: true; the input reads as it did. -/
def auditSeesUptoRow : OpenClaim := { program := "ytelephoalpphkaa", sum := "7a2201e65a26e602f873d2bfff9299d907e0fe62ede812ffdf775d8e9165f2bc", func := "causeway/causewaylaw24.AuditSees", spec := "auditSees", unfollowed := true, recurses := true, apart := false, narrowed := true }
def AuditSeesUptoSaid : Prop := auditSeesUptoRow.holds Try.pinned (OpenSpec.upto auditSeesSpec)

/-- 'causewaylaw24.AuditMerges', WHERE WHAT IT READS IS OF BULK AT MOST 1048576: true; the input reads as it did. -/
def auditMergesUptoRow : OpenClaim := { program := "ytelephoalpphkaa", sum := "7a2201e65a26e602f873d2bfff9299d907e0fe62ede812ffdf775d8e9165f2bc", func := "causeway/causewaylaw24.AuditMerges", spec := "auditMerges", unfollowed := true, recurses := true, apart := false, narrowed := true }
def AuditMergesUptoSaid : Prop := auditMergesUptoRow.holds Try.pinned (OpenSpec.upto auditMergesSpec)

/-- 'causewaylaw24.AuditRules', WHERE WHAT IT READS IS OF BULK AT MOST 1048576: true; the input reads as it did. -/
def auditRulesUptoRow : OpenClaim := { program := "ytelephoalpphkaa", sum := "7a2201e65a26e602f873d2bfff9299d907e0fe62ede812ffdf775d8e9165f2bc", func := "causeway/causewaylaw24.AuditRules", spec := "auditRules", unfollowed := true, recurses := true, apart := false, narrowed := true }
def AuditRulesUptoSaid : Prop := auditRulesUptoRow.holds Try.pinned (OpenSpec.upto auditRulesSpec)

/-- 'causewaylaw24.AuditWrites', WHERE WHAT IT READS IS OF BULK AT MOST 1048576: true; the input reads as it did. -/
def auditWritesUptoRow : OpenClaim := { program := "ytelephoalpphkaa", sum := "7a2201e65a26e602f873d2bfff9299d907e0fe62ede812ffdf775d8e9165f2bc", func := "causeway/causewaylaw24.AuditWrites", spec := "auditWrites", unfollowed := true, recurses := true, apart := false, narrowed := true }
def AuditWritesUptoSaid : Prop := auditWritesUptoRow.holds Try.pinned (OpenSpec.upto auditWritesSpec)

/-- 'causewaylaw24.AuditVisible', WHERE WHAT IT READS IS OF BULK AT MOST 1048576: true; the input reads as it did. -/
def auditVisibleUptoRow : OpenClaim := { program := "ytelephoalpphkaa", sum := "7a2201e65a26e602f873d2bfff9299d907e0fe62ede812ffdf775d8e9165f2bc", func := "causeway/causewaylaw24.AuditVisible", spec := "auditVisible", unfollowed := true, recurses := true, apart := false, narrowed := true }
def AuditVisibleUptoSaid : Prop := auditVisibleUptoRow.holds Try.pinned (OpenSpec.upto auditVisibleSpec)

end Rows
end Go.Proofs.Ytelephoalpphkaa
