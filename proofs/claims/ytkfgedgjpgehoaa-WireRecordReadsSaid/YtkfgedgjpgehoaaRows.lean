/-
  No cell of these rows narrows 'for every input' (looked for: loops, veiled, ifaces, maps, wideKeys, modest, calm, conditions, laid).
  DERIVED. THE GIVEN ROWS OF THIS SEAT. 11 by the template 'for every input the law returns true; each argument reads behind the call as it read before'; 0 by the template 'total and deterministic' (their statements: YtkfgedgjpgehoaaTotals.lean).
  GIVEN WITH THE SEED: the statements are not yours to turn. If you find one false, say at which input.
  Laid BY PROGRAM, IN A SANDBOX (cutbox-rows.mjs): the forced cells as the released guide's own fill.sh prints them over the translation 2e25dae44e6be3e7… (all of the seat's roots in one cut). By AI agents, Wed Nov 11 2026. No macro, syntax, notation, axiom, sorry.
-/
import Derived.Test.YtkfgedgjpgehoaaChecked
import GoSem.Claim
import GoSem.ClaimJoined
import GoSem.ClaimMapViews
import Derived.JoinedTies
import Derived.KernelRfl
namespace Go.Proofs.Ytkfgedgjpgehoaa
/- THE CELL 'sum', in the pinned program and in every row, IS THE sha256 OF THE DUMP (.gsa) THAT YtkfgedgjpgehoaaProg.lean LOADS. Nothing in Lean hashes anything: it is a label: what it is worth is what the hold of that sum in a sandbox is worth. -/
noncomputable def Try.pinned : Pinned := { name := "ytkfgedgjpgehoaa", sum := "2e25dae44e6be3e742a67b6d421ee24c21f08f218a758cbbe4fae7d49704ff13", checked := Try.checked }
namespace Rows
def none {H : Type} : Left H := { results := [], args := [] }

/-- 'causewaylaw6.WireRecords': WHATEVER THE INPUT: true; the input reads as it did. -/
def wireRecordsSpec : ChangeSpec := { name := "wireRecords", fn := fun _ => fun
  | [d] => { results := [.lit (.bool true)], args := [d] }
  | _ => none }
def wireRecordsRow : OpenClaim := { program := "ytkfgedgjpgehoaa", sum := "2e25dae44e6be3e742a67b6d421ee24c21f08f218a758cbbe4fae7d49704ff13", func := "causeway/causewaylaw6.WireRecords", spec := "wireRecords", apart := false }
def WireRecordsSaid : Prop := wireRecordsRow.holds Try.pinned (OpenSpec.ofChange wireRecordsSpec)

/-- ITS FALSE NEIGHBOUR: 'it returns false'. Refute it at one input. -/
def wireRecordsWrong : ChangeSpec := { name := "wireRecords", fn := fun _ => fun
  | [d] => { results := [.lit (.bool false)], args := [d] }
  | _ => none }
def WireRecordsWrongFalsely : Prop := wireRecordsRow.holds Try.pinned (OpenSpec.ofChange wireRecordsWrong)

/-- 'causewaylaw6.WireRecordReads': WHATEVER THE INPUT: true; the input reads as it did. -/
def wireRecordReadsSpec : ChangeSpec := { name := "wireRecordReads", fn := fun _ => fun
  | [d] => { results := [.lit (.bool true)], args := [d] }
  | _ => none }
def wireRecordReadsRow : OpenClaim := { program := "ytkfgedgjpgehoaa", sum := "2e25dae44e6be3e742a67b6d421ee24c21f08f218a758cbbe4fae7d49704ff13", func := "causeway/causewaylaw6.WireRecordReads", spec := "wireRecordReads", apart := false }
def WireRecordReadsSaid : Prop := wireRecordReadsRow.holds Try.pinned (OpenSpec.ofChange wireRecordReadsSpec)

/-- ITS FALSE NEIGHBOUR: 'it returns false'. Refute it at one input. -/
def wireRecordReadsWrong : ChangeSpec := { name := "wireRecordReads", fn := fun _ => fun
  | [d] => { results := [.lit (.bool false)], args := [d] }
  | _ => none }
def WireRecordReadsWrongFalsely : Prop := wireRecordReadsRow.holds Try.pinned (OpenSpec.ofChange wireRecordReadsWrong)

/-- 'causewaylaw6.WireRow': WHATEVER THE INPUT: true; the input reads as it did. -/
def wireRowSpec : ChangeSpec := { name := "wireRow", fn := fun _ => fun
  | [d1, d2] => { results := [.lit (.bool true)], args := [d1, d2] }
  | _ => none }
def wireRowRow : OpenClaim := { program := "ytkfgedgjpgehoaa", sum := "2e25dae44e6be3e742a67b6d421ee24c21f08f218a758cbbe4fae7d49704ff13", func := "causeway/causewaylaw6.WireRow", spec := "wireRow", apart := false }
def WireRowSaid : Prop := wireRowRow.holds Try.pinned (OpenSpec.ofChange wireRowSpec)

/-- ITS FALSE NEIGHBOUR: 'it returns false'. Refute it at one input. -/
def wireRowWrong : ChangeSpec := { name := "wireRow", fn := fun _ => fun
  | [d1, d2] => { results := [.lit (.bool false)], args := [d1, d2] }
  | _ => none }
def WireRowWrongFalsely : Prop := wireRowRow.holds Try.pinned (OpenSpec.ofChange wireRowWrong)

/-- 'causewaylaw6.WireCuts': WHATEVER THE INPUT: true; the input reads as it did. -/
def wireCutsSpec : ChangeSpec := { name := "wireCuts", fn := fun _ => fun
  | [d1, d2] => { results := [.lit (.bool true)], args := [d1, d2] }
  | _ => none }
def wireCutsRow : OpenClaim := { program := "ytkfgedgjpgehoaa", sum := "2e25dae44e6be3e742a67b6d421ee24c21f08f218a758cbbe4fae7d49704ff13", func := "causeway/causewaylaw6.WireCuts", spec := "wireCuts", apart := false }
def WireCutsSaid : Prop := wireCutsRow.holds Try.pinned (OpenSpec.ofChange wireCutsSpec)

/-- ITS FALSE NEIGHBOUR: 'it returns false'. Refute it at one input. -/
def wireCutsWrong : ChangeSpec := { name := "wireCuts", fn := fun _ => fun
  | [d1, d2] => { results := [.lit (.bool false)], args := [d1, d2] }
  | _ => none }
def WireCutsWrongFalsely : Prop := wireCutsRow.holds Try.pinned (OpenSpec.ofChange wireCutsWrong)

/-- 'causewaylaw6.WireMsgs': WHATEVER THE INPUT: true; the input reads as it did. -/
def wireMsgsSpec : ChangeSpec := { name := "wireMsgs", fn := fun _ => fun
  | [d] => { results := [.lit (.bool true)], args := [d] }
  | _ => none }
def wireMsgsRow : OpenClaim := { program := "ytkfgedgjpgehoaa", sum := "2e25dae44e6be3e742a67b6d421ee24c21f08f218a758cbbe4fae7d49704ff13", func := "causeway/causewaylaw6.WireMsgs", spec := "wireMsgs", apart := false }
def WireMsgsSaid : Prop := wireMsgsRow.holds Try.pinned (OpenSpec.ofChange wireMsgsSpec)

/-- ITS FALSE NEIGHBOUR: 'it returns false'. Refute it at one input. -/
def wireMsgsWrong : ChangeSpec := { name := "wireMsgs", fn := fun _ => fun
  | [d] => { results := [.lit (.bool false)], args := [d] }
  | _ => none }
def WireMsgsWrongFalsely : Prop := wireMsgsRow.holds Try.pinned (OpenSpec.ofChange wireMsgsWrong)

/-- 'causewaylaw6.WireFresh': WHATEVER THE INPUT: true; the input reads as it did. -/
def wireFreshSpec : ChangeSpec := { name := "wireFresh", fn := fun _ => fun
  | [d] => { results := [.lit (.bool true)], args := [d] }
  | _ => none }
def wireFreshRow : OpenClaim := { program := "ytkfgedgjpgehoaa", sum := "2e25dae44e6be3e742a67b6d421ee24c21f08f218a758cbbe4fae7d49704ff13", func := "causeway/causewaylaw6.WireFresh", spec := "wireFresh", apart := false }
def WireFreshSaid : Prop := wireFreshRow.holds Try.pinned (OpenSpec.ofChange wireFreshSpec)

/-- ITS FALSE NEIGHBOUR: 'it returns false'. Refute it at one input. -/
def wireFreshWrong : ChangeSpec := { name := "wireFresh", fn := fun _ => fun
  | [d] => { results := [.lit (.bool false)], args := [d] }
  | _ => none }
def WireFreshWrongFalsely : Prop := wireFreshRow.holds Try.pinned (OpenSpec.ofChange wireFreshWrong)

/-- 'causewaylaw6.WireFrames': WHATEVER THE INPUT: true; the input reads as it did. -/
def wireFramesSpec : ChangeSpec := { name := "wireFrames", fn := fun _ => fun
  | [d1, d2] => { results := [.lit (.bool true)], args := [d1, d2] }
  | _ => none }
def wireFramesRow : OpenClaim := { program := "ytkfgedgjpgehoaa", sum := "2e25dae44e6be3e742a67b6d421ee24c21f08f218a758cbbe4fae7d49704ff13", func := "causeway/causewaylaw6.WireFrames", spec := "wireFrames", apart := false }
def WireFramesSaid : Prop := wireFramesRow.holds Try.pinned (OpenSpec.ofChange wireFramesSpec)

/-- ITS FALSE NEIGHBOUR: 'it returns false'. Refute it at one input. -/
def wireFramesWrong : ChangeSpec := { name := "wireFrames", fn := fun _ => fun
  | [d1, d2] => { results := [.lit (.bool false)], args := [d1, d2] }
  | _ => none }
def WireFramesWrongFalsely : Prop := wireFramesRow.holds Try.pinned (OpenSpec.ofChange wireFramesWrong)

/-- 'causewaylaw6.WireTells': WHATEVER THE INPUT: true; the input reads as it did. -/
def wireTellsSpec : ChangeSpec := { name := "wireTells", fn := fun _ => fun
  | [d1, d2] => { results := [.lit (.bool true)], args := [d1, d2] }
  | _ => none }
def wireTellsRow : OpenClaim := { program := "ytkfgedgjpgehoaa", sum := "2e25dae44e6be3e742a67b6d421ee24c21f08f218a758cbbe4fae7d49704ff13", func := "causeway/causewaylaw6.WireTells", spec := "wireTells", apart := false }
def WireTellsSaid : Prop := wireTellsRow.holds Try.pinned (OpenSpec.ofChange wireTellsSpec)

/-- ITS FALSE NEIGHBOUR: 'it returns false'. Refute it at one input. -/
def wireTellsWrong : ChangeSpec := { name := "wireTells", fn := fun _ => fun
  | [d1, d2] => { results := [.lit (.bool false)], args := [d1, d2] }
  | _ => none }
def WireTellsWrongFalsely : Prop := wireTellsRow.holds Try.pinned (OpenSpec.ofChange wireTellsWrong)

/-- 'causewaylaw6.WireReads': WHATEVER THE INPUT: true; the input reads as it did. -/
def wireReadsSpec : ChangeSpec := { name := "wireReads", fn := fun _ => fun
  | [d] => { results := [.lit (.bool true)], args := [d] }
  | _ => none }
def wireReadsRow : OpenClaim := { program := "ytkfgedgjpgehoaa", sum := "2e25dae44e6be3e742a67b6d421ee24c21f08f218a758cbbe4fae7d49704ff13", func := "causeway/causewaylaw6.WireReads", spec := "wireReads", apart := false }
def WireReadsSaid : Prop := wireReadsRow.holds Try.pinned (OpenSpec.ofChange wireReadsSpec)

/-- ITS FALSE NEIGHBOUR: 'it returns false'. Refute it at one input. -/
def wireReadsWrong : ChangeSpec := { name := "wireReads", fn := fun _ => fun
  | [d] => { results := [.lit (.bool false)], args := [d] }
  | _ => none }
def WireReadsWrongFalsely : Prop := wireReadsRow.holds Try.pinned (OpenSpec.ofChange wireReadsWrong)

/-- 'causewaylaw6.WireBack': WHATEVER THE INPUT: true; the input reads as it did. -/
def wireBackSpec : ChangeSpec := { name := "wireBack", fn := fun _ => fun
  | [d1, d2] => { results := [.lit (.bool true)], args := [d1, d2] }
  | _ => none }
def wireBackRow : OpenClaim := { program := "ytkfgedgjpgehoaa", sum := "2e25dae44e6be3e742a67b6d421ee24c21f08f218a758cbbe4fae7d49704ff13", func := "causeway/causewaylaw6.WireBack", spec := "wireBack", apart := false }
def WireBackSaid : Prop := wireBackRow.holds Try.pinned (OpenSpec.ofChange wireBackSpec)

/-- ITS FALSE NEIGHBOUR: 'it returns false'. Refute it at one input. -/
def wireBackWrong : ChangeSpec := { name := "wireBack", fn := fun _ => fun
  | [d1, d2] => { results := [.lit (.bool false)], args := [d1, d2] }
  | _ => none }
def WireBackWrongFalsely : Prop := wireBackRow.holds Try.pinned (OpenSpec.ofChange wireBackWrong)

/-- 'causewaylaw6.WireFlips': WHATEVER THE INPUT: true; the input reads as it did. -/
def wireFlipsSpec : ChangeSpec := { name := "wireFlips", fn := fun _ => fun
  | [d1, d2, d3, d4] => { results := [.lit (.bool true)], args := [d1, d2, d3, d4] }
  | _ => none }
def wireFlipsRow : OpenClaim := { program := "ytkfgedgjpgehoaa", sum := "2e25dae44e6be3e742a67b6d421ee24c21f08f218a758cbbe4fae7d49704ff13", func := "causeway/causewaylaw6.WireFlips", spec := "wireFlips", apart := false }
def WireFlipsSaid : Prop := wireFlipsRow.holds Try.pinned (OpenSpec.ofChange wireFlipsSpec)

/-- ITS FALSE NEIGHBOUR: 'it returns false'. Refute it at one input. -/
def wireFlipsWrong : ChangeSpec := { name := "wireFlips", fn := fun _ => fun
  | [d1, d2, d3, d4] => { results := [.lit (.bool false)], args := [d1, d2, d3, d4] }
  | _ => none }
def WireFlipsWrongFalsely : Prop := wireFlipsRow.holds Try.pinned (OpenSpec.ofChange wireFlipsWrong)

/- THE SECOND FORM. 'bulk': how many values and letters a reading holds, each counted each time it is reached (what is shared counts as often as it is met; a slice's spare places count too). A statement '..UptoSaid' is the law's where the arguments, and the package variables that the reading takes, are together of bulk at most 1048576: NARROWER than '..Said'. Prove '..Said' where nothing that the law and all that it calls make is longer than what came in: it says more and counts as full. Else prove '..UptoSaid'. A law counts once. -/
mutual
def uptoBulk {H : Type} : DataW H → Nat
  | .lit (.string bytes) => bytes.length + 1
  | .lit _ => 1
  | .nil => 1
  | .ptr d => uptoBulk d + 1
  | .slice elems spare => uptoBulkAll elems + uptoBulkAll spare + 1
  | .agg parts => uptoBulkAll parts + 1
  | .iface _ d => uptoBulk d + 1
  | .map entries => uptoBulkEntries entries + 1
  | .held _ => 1
def uptoBulkAll {H : Type} : List (DataW H) → Nat
  | [] => 0
  | d :: r => uptoBulk d + uptoBulkAll r
def uptoBulkEntries {H : Type} : List (Lit × DataW H) → Nat
  | [] => 0
  | x :: r => uptoBulkEntry x + uptoBulkEntries r
def uptoBulkEntry {H : Type} : Lit × DataW H → Nat
  | (.string bytes, d) => bytes.length + uptoBulk d + 1
  | (_, d) => uptoBulk d + 1
 end
def uptoSmall : (H : Type) → List (DataW H) → Bool := fun _ ds => decide (uptoBulkAll ds ≤ 1048576)
def OpenSpec.upto (s : _root_.Go.ChangeSpec) : _root_.Go.OpenSpec := { _root_.Go.OpenSpec.ofChange s with cond := some uptoSmall }

/-- 'causewaylaw6.WireRecords', WHERE WHAT IT READS IS OF BULK AT MOST 1048576: true; the input reads as it did. -/
def wireRecordsUptoRow : OpenClaim := { program := "ytkfgedgjpgehoaa", sum := "2e25dae44e6be3e742a67b6d421ee24c21f08f218a758cbbe4fae7d49704ff13", func := "causeway/causewaylaw6.WireRecords", spec := "wireRecords", apart := false, narrowed := true }
def WireRecordsUptoSaid : Prop := wireRecordsUptoRow.holds Try.pinned (OpenSpec.upto wireRecordsSpec)

/-- 'causewaylaw6.WireRecordReads', WHERE WHAT IT READS IS OF BULK AT MOST 1048576: true; the input reads as it did. -/
def wireRecordReadsUptoRow : OpenClaim := { program := "ytkfgedgjpgehoaa", sum := "2e25dae44e6be3e742a67b6d421ee24c21f08f218a758cbbe4fae7d49704ff13", func := "causeway/causewaylaw6.WireRecordReads", spec := "wireRecordReads", apart := false, narrowed := true }
def WireRecordReadsUptoSaid : Prop := wireRecordReadsUptoRow.holds Try.pinned (OpenSpec.upto wireRecordReadsSpec)

/-- 'causewaylaw6.WireRow', WHERE WHAT IT READS IS OF BULK AT MOST 1048576: true; the input reads as it did. -/
def wireRowUptoRow : OpenClaim := { program := "ytkfgedgjpgehoaa", sum := "2e25dae44e6be3e742a67b6d421ee24c21f08f218a758cbbe4fae7d49704ff13", func := "causeway/causewaylaw6.WireRow", spec := "wireRow", apart := false, narrowed := true }
def WireRowUptoSaid : Prop := wireRowUptoRow.holds Try.pinned (OpenSpec.upto wireRowSpec)

/-- 'causewaylaw6.WireCuts', WHERE WHAT IT READS IS OF BULK AT MOST 1048576: true; the input reads as it did. -/
def wireCutsUptoRow : OpenClaim := { program := "ytkfgedgjpgehoaa", sum := "2e25dae44e6be3e742a67b6d421ee24c21f08f218a758cbbe4fae7d49704ff13", func := "causeway/causewaylaw6.WireCuts", spec := "wireCuts", apart := false, narrowed := true }
def WireCutsUptoSaid : Prop := wireCutsUptoRow.holds Try.pinned (OpenSpec.upto wireCutsSpec)

/-- 'causewaylaw6.WireMsgs', WHERE WHAT IT READS IS OF BULK AT MOST 1048576: true; the input reads as it did. -/
def wireMsgsUptoRow : OpenClaim := { program := "ytkfgedgjpgehoaa", sum := "2e25dae44e6be3e742a67b6d421ee24c21f08f218a758cbbe4fae7d49704ff13", func := "causeway/causewaylaw6.WireMsgs", spec := "wireMsgs", apart := false, narrowed := true }
def WireMsgsUptoSaid : Prop := wireMsgsUptoRow.holds Try.pinned (OpenSpec.upto wireMsgsSpec)

/-- 'causewaylaw6.WireFresh', WHERE WHAT IT READS IS OF BULK AT MOST 1048576: true; the input reads as it did. -/
def wireFreshUptoRow : OpenClaim := { program := "ytkfgedgjpgehoaa", sum := "2e25dae44e6be3e742a67b6d421ee24c21f08f218a758cbbe4fae7d49704ff13", func := "causeway/causewaylaw6.WireFresh", spec := "wireFresh", apart := false, narrowed := true }
def WireFreshUptoSaid : Prop := wireFreshUptoRow.holds Try.pinned (OpenSpec.upto wireFreshSpec)

/-- 'causewaylaw6.WireFrames', WHERE WHAT IT READS IS OF BULK AT MOST 1048576: true; the input reads as it did. -/
def wireFramesUptoRow : OpenClaim := { program := "ytkfgedgjpgehoaa", sum := "2e25dae44e6be3e742a67b6d421ee24c21f08f218a758cbbe4fae7d49704ff13", func := "causeway/causewaylaw6.WireFrames", spec := "wireFrames", apart := false, narrowed := true }
def WireFramesUptoSaid : Prop := wireFramesUptoRow.holds Try.pinned (OpenSpec.upto wireFramesSpec)

/-- 'causewaylaw6.WireTells', WHERE WHAT IT READS IS OF BULK AT MOST 1048576: true; the input reads as it did. -/
def wireTellsUptoRow : OpenClaim := { program := "ytkfgedgjpgehoaa", sum := "2e25dae44e6be3e742a67b6d421ee24c21f08f218a758cbbe4fae7d49704ff13", func := "causeway/causewaylaw6.WireTells", spec := "wireTells", apart := false, narrowed := true }
def WireTellsUptoSaid : Prop := wireTellsUptoRow.holds Try.pinned (OpenSpec.upto wireTellsSpec)

/-- 'causewaylaw6.WireReads', WHERE WHAT IT READS IS OF BULK AT MOST 1048576: true; the input reads as it did. -/
def wireReadsUptoRow : OpenClaim := { program := "ytkfgedgjpgehoaa", sum := "2e25dae44e6be3e742a67b6d421ee24c21f08f218a758cbbe4fae7d49704ff13", func := "causeway/causewaylaw6.WireReads", spec := "wireReads", apart := false, narrowed := true }
def WireReadsUptoSaid : Prop := wireReadsUptoRow.holds Try.pinned (OpenSpec.upto wireReadsSpec)

/-- 'causewaylaw6.WireBack', WHERE WHAT IT READS IS OF BULK AT MOST 1048576: true; the input reads as it did. -/
def wireBackUptoRow : OpenClaim := { program := "ytkfgedgjpgehoaa", sum := "2e25dae44e6be3e742a67b6d421ee24c21f08f218a758cbbe4fae7d49704ff13", func := "causeway/causewaylaw6.WireBack", spec := "wireBack", apart := false, narrowed := true }
def WireBackUptoSaid : Prop := wireBackUptoRow.holds Try.pinned (OpenSpec.upto wireBackSpec)

/-- 'causewaylaw6.WireFlips', WHERE WHAT IT READS IS OF BULK AT MOST 1048576: true; the input reads as it did. -/
def wireFlipsUptoRow : OpenClaim := { program := "ytkfgedgjpgehoaa", sum := "2e25dae44e6be3e742a67b6d421ee24c21f08f218a758cbbe4fae7d49704ff13", func := "causeway/causewaylaw6.WireFlips", spec := "wireFlips", apart := false, narrowed := true }
def WireFlipsUptoSaid : Prop := wireFlipsUptoRow.holds Try.pinned (OpenSpec.upto wireFlipsSpec)

end Rows
end Go.Proofs.Ytkfgedgjpgehoaa
