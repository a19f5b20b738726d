/-
  No cell of these rows narrows 'for every input' (looked for: loops, veiled, ifaces, maps, wideKeys, modest, calm, conditions, laid).
  DERIVED. THE GIVEN ROWS OF THIS SEAT. 5 by the template 'for every input the law returns true; each argument reads behind the call as it read before'; 0 by the template 'total and deterministic' (their statements: YtiibgkgbghganaaTotals.lean).
  GIVEN WITH THE SEED: the statements are not yours to turn. If you find one false, say at which input.
  Laid BY PROGRAM, IN A SANDBOX (cutbox-rows.mjs): the forced cells as the released guide's own fill.sh prints them over the translation 5433e26c04c923a4… (all of the seat's roots in one cut). By AI agents, Wed Nov 11 2026. No macro, syntax, notation, axiom, sorry.
-/
import Derived.Test.YtiibgkgbghganaaChecked
import GoSem.Claim
import GoSem.ClaimJoined
import GoSem.ClaimMapViews
import Derived.JoinedTies
import Derived.KernelRfl
namespace Go.Proofs.Ytiibgkgbghganaa
/- THE CELL 'sum', in the pinned program and in every row, IS THE sha256 OF THE DUMP (.gsa) THAT YtiibgkgbghganaaProg.lean LOADS. Nothing in Lean hashes anything: it is a label: what it is worth is what the hold of that sum in a sandbox is worth. -/
noncomputable def Try.pinned : Pinned := { name := "ytiibgkgbghganaa", sum := "5433e26c04c923a4dcdb13447de39ac2a32f63c8b40dee7aee57ab2a5e5068c5", checked := Try.checked }
namespace Rows
def none {H : Type} : Left H := { results := [], args := [] }

/-- 'causewaylaw19.ServeGreatest': WHATEVER THE INPUT: true; the input reads as it did. -/
def serveGreatestSpec : ChangeSpec := { name := "serveGreatest", fn := fun _ => fun
  | [d1, d2] => { results := [.lit (.bool true)], args := [d1, d2] }
  | _ => none }
def serveGreatestRow : OpenClaim := { program := "ytiibgkgbghganaa", sum := "5433e26c04c923a4dcdb13447de39ac2a32f63c8b40dee7aee57ab2a5e5068c5", func := "causeway/causewaylaw19.ServeGreatest", spec := "serveGreatest", apart := false }
def ServeGreatestSaid : Prop := serveGreatestRow.holds Try.pinned (OpenSpec.ofChange serveGreatestSpec)

/-- ITS FALSE NEIGHBOUR: 'it returns false'. Refute it at one input. -/
def serveGreatestWrong : ChangeSpec := { name := "serveGreatest", fn := fun _ => fun
  | [d1, d2] => { results := [.lit (.bool false)], args := [d1, d2] }
  | _ => none }
def ServeGreatestWrongFalsely : Prop := serveGreatestRow.holds Try.pinned (OpenSpec.ofChange serveGreatestWrong)

/-- 'causewaylaw19.ServeRefuses': WHATEVER THE INPUT: true; the input reads as it did. -/
def serveRefusesSpec : ChangeSpec := { name := "serveRefuses", fn := fun _ => fun
  | [d1, d2, d3] => { results := [.lit (.bool true)], args := [d1, d2, d3] }
  | _ => none }
def serveRefusesRow : OpenClaim := { program := "ytiibgkgbghganaa", sum := "5433e26c04c923a4dcdb13447de39ac2a32f63c8b40dee7aee57ab2a5e5068c5", func := "causeway/causewaylaw19.ServeRefuses", spec := "serveRefuses", apart := false }
def ServeRefusesSaid : Prop := serveRefusesRow.holds Try.pinned (OpenSpec.ofChange serveRefusesSpec)

/-- ITS FALSE NEIGHBOUR: 'it returns false'. Refute it at one input. -/
def serveRefusesWrong : ChangeSpec := { name := "serveRefuses", fn := fun _ => fun
  | [d1, d2, d3] => { results := [.lit (.bool false)], args := [d1, d2, d3] }
  | _ => none }
def ServeRefusesWrongFalsely : Prop := serveRefusesRow.holds Try.pinned (OpenSpec.ofChange serveRefusesWrong)

/-- 'causewaylaw19.ServeGrows': WHATEVER THE INPUT: true; the input reads as it did. -/
def serveGrowsSpec : ChangeSpec := { name := "serveGrows", fn := fun _ => fun
  | [d1, d2, d3, d4, d5] => { results := [.lit (.bool true)], args := [d1, d2, d3, d4, d5] }
  | _ => none }
def serveGrowsRow : OpenClaim := { program := "ytiibgkgbghganaa", sum := "5433e26c04c923a4dcdb13447de39ac2a32f63c8b40dee7aee57ab2a5e5068c5", func := "causeway/causewaylaw19.ServeGrows", spec := "serveGrows", apart := false }
def ServeGrowsSaid : Prop := serveGrowsRow.holds Try.pinned (OpenSpec.ofChange serveGrowsSpec)

/-- ITS FALSE NEIGHBOUR: 'it returns false'. Refute it at one input. -/
def serveGrowsWrong : ChangeSpec := { name := "serveGrows", fn := fun _ => fun
  | [d1, d2, d3, d4, d5] => { results := [.lit (.bool false)], args := [d1, d2, d3, d4, d5] }
  | _ => none }
def ServeGrowsWrongFalsely : Prop := serveGrowsRow.holds Try.pinned (OpenSpec.ofChange serveGrowsWrong)

/-- 'causewaylaw19.ServePrefix': WHATEVER THE INPUT: true; the input reads as it did. -/
def servePrefixSpec : ChangeSpec := { name := "servePrefix", fn := fun _ => fun
  | [d1, d2, d3, d4, d5] => { results := [.lit (.bool true)], args := [d1, d2, d3, d4, d5] }
  | _ => none }
def servePrefixRow : OpenClaim := { program := "ytiibgkgbghganaa", sum := "5433e26c04c923a4dcdb13447de39ac2a32f63c8b40dee7aee57ab2a5e5068c5", func := "causeway/causewaylaw19.ServePrefix", spec := "servePrefix", apart := false }
def ServePrefixSaid : Prop := servePrefixRow.holds Try.pinned (OpenSpec.ofChange servePrefixSpec)

/-- ITS FALSE NEIGHBOUR: 'it returns false'. Refute it at one input. -/
def servePrefixWrong : ChangeSpec := { name := "servePrefix", fn := fun _ => fun
  | [d1, d2, d3, d4, d5] => { results := [.lit (.bool false)], args := [d1, d2, d3, d4, d5] }
  | _ => none }
def ServePrefixWrongFalsely : Prop := servePrefixRow.holds Try.pinned (OpenSpec.ofChange servePrefixWrong)

/-- 'causewaylaw19.ServeStore': WHATEVER THE INPUT: true; the input reads as it did. -/
def serveStoreSpec : ChangeSpec := { name := "serveStore", fn := fun _ => fun
  | [d1, d2, d3, d4, d5] => { results := [.lit (.bool true)], args := [d1, d2, d3, d4, d5] }
  | _ => none }
def serveStoreRow : OpenClaim := { program := "ytiibgkgbghganaa", sum := "5433e26c04c923a4dcdb13447de39ac2a32f63c8b40dee7aee57ab2a5e5068c5", func := "causeway/causewaylaw19.ServeStore", spec := "serveStore", unfollowed := true, recurses := true, apart := false }
def ServeStoreSaid : Prop := serveStoreRow.holds Try.pinned (OpenSpec.ofChange serveStoreSpec)

/-- ITS FALSE NEIGHBOUR: 'it returns false'. Refute it at one input. -/
def serveStoreWrong : ChangeSpec := { name := "serveStore", fn := fun _ => fun
  | [d1, d2, d3, d4, d5] => { results := [.lit (.bool false)], args := [d1, d2, d3, d4, d5] }
  | _ => none }
def ServeStoreWrongFalsely : Prop := serveStoreRow.holds Try.pinned (OpenSpec.ofChange serveStoreWrong)

/- THE SECOND FORM. 'bulk': how many values and letters a reading holds, each counted each time it is reached (what is shared counts as often as it is met; a slice's spare places count too). A statement '..UptoSaid' is the law's where the arguments, and the package variables that the reading takes, are together of bulk at most 1048576: NARROWER than '..Said'. Prove '..Said' where nothing that the law and all that it calls make is longer than what came in: it says more and counts as full. Else prove '..UptoSaid'. A law counts once. -/
mutual
def uptoBulk {H : Type} : DataW H → Nat
  | .lit (.string bytes) => bytes.length + 1
  | .lit _ => 1
  | .nil => 1
  | .ptr d => uptoBulk d + 1
  | .slice elems spare => uptoBulkAll elems + uptoBulkAll spare + 1
  | .agg parts => uptoBulkAll parts + 1
  | .iface _ d => uptoBulk d + 1
  | .map entries => uptoBulkEntries entries + 1
  | .held _ => 1
def uptoBulkAll {H : Type} : List (DataW H) → Nat
  | [] => 0
  | d :: r => uptoBulk d + uptoBulkAll r
def uptoBulkEntries {H : Type} : List (Lit × DataW H) → Nat
  | [] => 0
  | x :: r => uptoBulkEntry x + uptoBulkEntries r
def uptoBulkEntry {H : Type} : Lit × DataW H → Nat
  | (.string bytes, d) => bytes.length + uptoBulk d + 1
  | (_, d) => uptoBulk d + 1
 end
def uptoSmall : (H : Type) → List (DataW H) → Bool := fun _ ds => decide (uptoBulkAll ds ≤ 1048576)
def OpenSpec.upto (s : _root_.Go.ChangeSpec) : _root_.Go.OpenSpec := { _root_.Go.OpenSpec.ofChange s with cond := some uptoSmall }

/-- 'causewaylaw19.ServeGreatest', WHERE WHAT IT READS IS OF BULK AT MOST 1048576: true; the input reads as it did. -/
def serveGreatestUptoRow : OpenClaim := { program := "ytiibgkgbghganaa", sum := "5433e26c04c923a4dcdb13447de39ac2a32f63c8b40dee7aee57ab2a5e5068c5", func := "causeway/causewaylaw19.ServeGreatest", spec := "serveGreatest", apart := false, narrowed := true }
def ServeGreatestUptoSaid : Prop := serveGreatestUptoRow.holds Try.pinned (OpenSpec.upto serveGreatestSpec)

/-- 'causewaylaw19.ServeRefuses', WHERE WHAT IT READS IS OF BULK AT MOST 1048576: true; the input reads as it did. -/
def serveRefusesUptoRow : OpenClaim := { program := "ytiibgkgbghganaa", sum := "5433e26c04c923a4dcdb13447de39ac2a32f63c8b40dee7aee57ab2a5e5068c5", func := "causeway/causewaylaw19.ServeRefuses", spec := "serveRefuses", apart := false, narrowed := true }
def ServeRefusesUptoSaid : Prop := serveRefusesUptoRow.holds Try.pinned (OpenSpec.upto serveRefusesSpec)

/-- 'causewaylaw19.ServeGrows', WHERE WHAT IT READS IS OF BULK AT MOST 1048576: true; the input reads as it did. -/
def serveGrowsUptoRow : OpenClaim := { program := "ytiibgkgbghganaa", sum := "5433e26c04c923a4dcdb13447de39ac2a32f63c8b40dee7aee57ab2a5e5068c5", func := "causeway/causewaylaw19.ServeGrows", spec := "serveGrows", apart := false, narrowed := true }
def ServeGrowsUptoSaid : Prop := serveGrowsUptoRow.holds Try.pinned (OpenSpec.upto serveGrowsSpec)

/-- 'causewaylaw19.ServePrefix', WHERE WHAT IT READS IS OF BULK AT MOST 1048576: true; the input reads as it did. -/
def servePrefixUptoRow : OpenClaim := { program := "ytiibgkgbghganaa", sum := "5433e26c04c923a4dcdb13447de39ac2a32f63c8b40dee7aee57ab2a5e5068c5", func := "causeway/causewaylaw19.ServePrefix", spec := "servePrefix", apart := false, narrowed := true }
def ServePrefixUptoSaid : Prop := servePrefixUptoRow.holds Try.pinned (OpenSpec.upto servePrefixSpec)

/-- 'causewaylaw19.ServeStore', WHERE WHAT IT READS IS OF BULK AT MOST 1048576: true; the input reads as it did. -/
def serveStoreUptoRow : OpenClaim := { program := "ytiibgkgbghganaa", sum := "5433e26c04c923a4dcdb13447de39ac2a32f63c8b40dee7aee57ab2a5e5068c5", func := "causeway/causewaylaw19.ServeStore", spec := "serveStore", unfollowed := true, recurses := true, apart := false, narrowed := true }
def ServeStoreUptoSaid : Prop := serveStoreUptoRow.holds Try.pinned (OpenSpec.upto serveStoreSpec)

end Rows
end Go.Proofs.Ytiibgkgbghganaa
