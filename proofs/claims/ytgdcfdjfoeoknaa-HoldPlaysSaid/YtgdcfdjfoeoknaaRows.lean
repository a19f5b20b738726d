/-
  No cell of these rows narrows 'for every input' (looked for: loops, veiled, ifaces, maps, wideKeys, modest, calm, conditions, laid).
  DERIVED. THE GIVEN ROWS OF THIS SEAT. 4 by the template 'for every input the law returns true; each argument reads behind the call as it read before'; 0 by the template 'total and deterministic' (their statements: YtgdcfdjfoeoknaaTotals.lean).
  GIVEN WITH THE SEED: the statements are not yours to turn. If you find one false, say at which input.
  Laid BY PROGRAM, IN A SANDBOX (cutbox-rows.mjs): the forced cells as the released guide's own fill.sh prints them over the translation 18dbccb4e899841f… (all of the seat's roots in one cut). By AI agents, Wed Nov 11 2026. No macro, syntax, notation, axiom, sorry.
-/
import Derived.Test.YtgdcfdjfoeoknaaChecked
import GoSem.Claim
import GoSem.ClaimJoined
import GoSem.ClaimMapViews
import Derived.JoinedTies
import Derived.KernelRfl
namespace Go.Proofs.Ytgdcfdjfoeoknaa
/- THE CELL 'sum', in the pinned program and in every row, IS THE sha256 OF THE DUMP (.gsa) THAT YtgdcfdjfoeoknaaProg.lean LOADS. Nothing in Lean hashes anything: it is a label: what it is worth is what the hold of that sum in a sandbox is worth. -/
noncomputable def Try.pinned : Pinned := { name := "ytgdcfdjfoeoknaa", sum := "18dbccb4e899841f314fbce4e82fc440e8778f983a4c646e84257a233100278a", checked := Try.checked }
namespace Rows
def none {H : Type} : Left H := { results := [], args := [] }

/-- 'causewaylaw17.HoldAll': WHATEVER THE INPUT: true; the input reads as it did. -/
def holdAllSpec : ChangeSpec := { name := "holdAll", fn := fun _ => fun
  | [d1, d2] => { results := [.lit (.bool true)], args := [d1, d2] }
  | _ => none }
def holdAllRow : OpenClaim := { program := "ytgdcfdjfoeoknaa", sum := "18dbccb4e899841f314fbce4e82fc440e8778f983a4c646e84257a233100278a", func := "causeway/causewaylaw17.HoldAll", spec := "holdAll", unfollowed := true, recurses := true, apart := false }
def HoldAllSaid : Prop := holdAllRow.holds Try.pinned (OpenSpec.ofChange holdAllSpec)

/-- ITS FALSE NEIGHBOUR: 'it returns false'. Refute it at one input. -/
def holdAllWrong : ChangeSpec := { name := "holdAll", fn := fun _ => fun
  | [d1, d2] => { results := [.lit (.bool false)], args := [d1, d2] }
  | _ => none }
def HoldAllWrongFalsely : Prop := holdAllRow.holds Try.pinned (OpenSpec.ofChange holdAllWrong)

/-- 'causewaylaw17.HoldOrders': WHATEVER THE INPUT: true; the input reads as it did. -/
def holdOrdersSpec : ChangeSpec := { name := "holdOrders", fn := fun _ => fun
  | [d1, d2, d3] => { results := [.lit (.bool true)], args := [d1, d2, d3] }
  | _ => none }
def holdOrdersRow : OpenClaim := { program := "ytgdcfdjfoeoknaa", sum := "18dbccb4e899841f314fbce4e82fc440e8778f983a4c646e84257a233100278a", func := "causeway/causewaylaw17.HoldOrders", spec := "holdOrders", unfollowed := true, recurses := true, apart := false }
def HoldOrdersSaid : Prop := holdOrdersRow.holds Try.pinned (OpenSpec.ofChange holdOrdersSpec)

/-- ITS FALSE NEIGHBOUR: 'it returns false'. Refute it at one input. -/
def holdOrdersWrong : ChangeSpec := { name := "holdOrders", fn := fun _ => fun
  | [d1, d2, d3] => { results := [.lit (.bool false)], args := [d1, d2, d3] }
  | _ => none }
def HoldOrdersWrongFalsely : Prop := holdOrdersRow.holds Try.pinned (OpenSpec.ofChange holdOrdersWrong)

/-- 'causewaylaw17.HoldPlays': WHATEVER THE INPUT: true; the input reads as it did. -/
def holdPlaysSpec : ChangeSpec := { name := "holdPlays", fn := fun _ => fun
  | [d1, d2] => { results := [.lit (.bool true)], args := [d1, d2] }
  | _ => none }
def holdPlaysRow : OpenClaim := { program := "ytgdcfdjfoeoknaa", sum := "18dbccb4e899841f314fbce4e82fc440e8778f983a4c646e84257a233100278a", func := "causeway/causewaylaw17.HoldPlays", spec := "holdPlays", unfollowed := true, recurses := true, apart := false }
def HoldPlaysSaid : Prop := holdPlaysRow.holds Try.pinned (OpenSpec.ofChange holdPlaysSpec)

/-- ITS FALSE NEIGHBOUR: 'it returns false'. Refute it at one input. -/
def holdPlaysWrong : ChangeSpec := { name := "holdPlays", fn := fun _ => fun
  | [d1, d2] => { results := [.lit (.bool false)], args := [d1, d2] }
  | _ => none }
def HoldPlaysWrongFalsely : Prop := holdPlaysRow.holds Try.pinned (OpenSpec.ofChange holdPlaysWrong)

/-- 'causewaylaw17.HoldPurges': WHATEVER THE INPUT: true; the input reads as it did. -/
def holdPurgesSpec : ChangeSpec := { name := "holdPurges", fn := fun _ => fun
  | [d1, d2, d3] => { results := [.lit (.bool true)], args := [d1, d2, d3] }
  | _ => none }
def holdPurgesRow : OpenClaim := { program := "ytgdcfdjfoeoknaa", sum := "18dbccb4e899841f314fbce4e82fc440e8778f983a4c646e84257a233100278a", func := "causeway/causewaylaw17.HoldPurges", spec := "holdPurges", unfollowed := true, recurses := true, apart := false }
def HoldPurgesSaid : Prop := holdPurgesRow.holds Try.pinned (OpenSpec.ofChange holdPurgesSpec)

/-- ITS FALSE NEIGHBOUR: 'it returns false'. Refute it at one input. -/
def holdPurgesWrong : ChangeSpec := { name := "holdPurges", fn := fun _ => fun
  | [d1, d2, d3] => { results := [.lit (.bool false)], args := [d1, d2, d3] }
  | _ => none }
def HoldPurgesWrongFalsely : Prop := holdPurgesRow.holds Try.pinned (OpenSpec.ofChange holdPurgesWrong)

/- THE SECOND FORM. 'bulk': how many values and letters a reading holds, each counted each time it is reached (what is shared counts as often as it is met; a slice's spare places count too). A statement '..UptoSaid' is the law's where the arguments, and the package variables that the reading takes, are together of bulk at most 1048576: NARROWER than '..Said'. Prove '..Said' where nothing that the law and all that it calls make is longer than what came in: it says more and counts as full. Else prove '..UptoSaid'. A law counts once. -/
mutual
def uptoBulk {H : Type} : DataW H → Nat
  | .lit (.string bytes) => bytes.length + 1
  | .lit _ => 1
  | .nil => 1
  | .ptr d => uptoBulk d + 1
  | .slice elems spare => uptoBulkAll elems + uptoBulkAll spare + 1
  | .agg parts => uptoBulkAll parts + 1
  | .iface _ d => uptoBulk d + 1
  | .map entries => uptoBulkEntries entries + 1
  | .held _ => 1
def uptoBulkAll {H : Type} : List (DataW H) → Nat
  | [] => 0
  | d :: r => uptoBulk d + uptoBulkAll r
def uptoBulkEntries {H : Type} : List (Lit × DataW H) → Nat
  | [] => 0
  | x :: r => uptoBulkEntry x + uptoBulkEntries r
def uptoBulkEntry {H : Type} : Lit × DataW H → Nat
  | (.string bytes, d) => bytes.length + uptoBulk d + 1
  | (_, d) => uptoBulk d + 1
 end
def uptoSmall : (H : Type) → List (DataW H) → Bool := fun _ ds => decide (uptoBulkAll ds ≤ 1048576)
def OpenSpec.upto (s : _root_.Go.ChangeSpec) : _root_.Go.OpenSpec := { _root_.Go.OpenSpec.ofChange s with cond := some uptoSmall }

/-- 'causewaylaw17.HoldAll', WHERE WHAT IT READS IS OF BULK AT MOST 1048576: true; the input reads as it did. -/
def holdAllUptoRow : OpenClaim := { program := "ytgdcfdjfoeoknaa", sum := "18dbccb4e899841f314fbce4e82fc440e8778f983a4c646e84257a233100278a", func := "causeway/causewaylaw17.HoldAll", spec := "holdAll", unfollowed := true, recurses := true, apart := false, narrowed := true }
def HoldAllUptoSaid : Prop := holdAllUptoRow.holds Try.pinned (OpenSpec.upto holdAllSpec)

/-- 'causewaylaw17.HoldOrders', WHERE WHAT IT READS IS OF BULK AT MOST 1048576: true; the input reads as it did. -/
def holdOrdersUptoRow : OpenClaim := { program := "ytgdcfdjfoeoknaa", sum := "18dbccb4e899841f314fbce4e82fc440e8778f983a4c646e84257a233100278a", func := "causeway/causewaylaw17.HoldOrders", spec := "holdOrders", unfollowed := true, recurses := true, apart := false, narrowed := true }
def HoldOrdersUptoSaid : Prop := holdOrdersUptoRow.holds Try.pinned (OpenSpec.upto holdOrdersSpec)

/-- 'causewaylaw17.HoldPlays', WHERE WHAT IT READS IS OF BULK AT MOST 1048576: true; the input reads as it did. -/
def holdPlaysUptoRow : OpenClaim := { program := "ytgdcfdjfoeoknaa", sum := "18dbccb4e899841f314fbce4e82fc440e8778f983a4c646e84257a233100278a", func := "causeway/causewaylaw17.HoldPlays", spec := "holdPlays", unfollowed := true, recurses := true, apart := false, narrowed := true }
def HoldPlaysUptoSaid : Prop := holdPlaysUptoRow.holds Try.pinned (OpenSpec.upto holdPlaysSpec)

/-- 'causewaylaw17.HoldPurges', WHERE WHAT IT READS IS OF BULK AT MOST 1048576: true; the input reads as it did. -/
def holdPurgesUptoRow : OpenClaim := { program := "ytgdcfdjfoeoknaa", sum := "18dbccb4e899841f314fbce4e82fc440e8778f983a4c646e84257a233100278a", func := "causeway/causewaylaw17.HoldPurges", spec := "holdPurges", unfollowed := true, recurses := true, apart := false, narrowed := true }
def HoldPurgesUptoSaid : Prop := holdPurgesUptoRow.holds Try.pinned (OpenSpec.upto holdPurgesSpec)

end Rows
end Go.Proofs.Ytgdcfdjfoeoknaa
