/-
  No cell of these rows narrows 'for every input' (looked for: loops, veiled, ifaces, maps, wideKeys, modest, calm, conditions, laid).
  DERIVED. THE GIVEN ROWS OF THIS SEAT. 16 by the template 'for every input the law returns true; each argument reads behind the call as it read before'; 0 by the template 'total and deterministic' (their statements: YtcngfcckajpkhaaTotals.lean).
  GIVEN WITH THE SEED: the statements are not yours to turn. If you find one false, say at which input.
  Laid BY PROGRAM, IN A SANDBOX (cutbox-rows.mjs): the forced cells as the released guide's own fill.sh prints them over the translation 2e31cf1929cd1516… (all of the seat's roots in one cut). By AI agents, Wed Nov 11 2026. No macro, syntax, notation, axiom, sorry.
-/
import Derived.Test.YtcngfcckajpkhaaChecked
import GoSem.Claim
import GoSem.ClaimJoined
import GoSem.ClaimMapViews
import Derived.JoinedTies
import Derived.KernelRfl
namespace Go.Proofs.Ytcngfcckajpkhaa
/- THE CELL 'sum', in the pinned program and in every row, IS THE sha256 OF THE DUMP (.gsa) THAT YtcngfcckajpkhaaProg.lean LOADS. Nothing in Lean hashes anything: it is a label: what it is worth is what the hold of that sum in a sandbox is worth. -/
noncomputable def Try.pinned : Pinned := { name := "ytcngfcckajpkhaa", sum := "2e31cf1929cd15164f316b533fca90fc01a54b368a8ac3d9b47df5b97bf6c75a", checked := Try.checked }
namespace Rows
def none {H : Type} : Left H := { results := [], args := [] }

/-- 'surtitlelaw2.CellWidths': WHATEVER THE INPUT: true; the input reads as it did. -/
def cellWidthsSpec : ChangeSpec := { name := "cellWidths", fn := fun _ => fun
  | [d] => { results := [.lit (.bool true)], args := [d] }
  | _ => none }
def cellWidthsRow : OpenClaim := { program := "ytcngfcckajpkhaa", sum := "2e31cf1929cd15164f316b533fca90fc01a54b368a8ac3d9b47df5b97bf6c75a", func := "surtitle/surtitlelaw2.CellWidths", spec := "cellWidths", unfollowed := true, recurses := true, apart := false }
def CellWidthsSaid : Prop := cellWidthsRow.holds Try.pinned (OpenSpec.ofChange cellWidthsSpec)

/-- ITS FALSE NEIGHBOUR: 'it returns false'. Refute it at one input. -/
def cellWidthsWrong : ChangeSpec := { name := "cellWidths", fn := fun _ => fun
  | [d] => { results := [.lit (.bool false)], args := [d] }
  | _ => none }
def CellWidthsWrongFalsely : Prop := cellWidthsRow.holds Try.pinned (OpenSpec.ofChange cellWidthsWrong)

/-- 'surtitlelaw2.CellRange': WHATEVER THE INPUT: true; the input reads as it did. -/
def cellRangeSpec : ChangeSpec := { name := "cellRange", fn := fun _ => fun
  | [d1, d2] => { results := [.lit (.bool true)], args := [d1, d2] }
  | _ => none }
def cellRangeRow : OpenClaim := { program := "ytcngfcckajpkhaa", sum := "2e31cf1929cd15164f316b533fca90fc01a54b368a8ac3d9b47df5b97bf6c75a", func := "surtitle/surtitlelaw2.CellRange", spec := "cellRange", unfollowed := true, recurses := true, apart := false }
def CellRangeSaid : Prop := cellRangeRow.holds Try.pinned (OpenSpec.ofChange cellRangeSpec)

/-- ITS FALSE NEIGHBOUR: 'it returns false'. Refute it at one input. -/
def cellRangeWrong : ChangeSpec := { name := "cellRange", fn := fun _ => fun
  | [d1, d2] => { results := [.lit (.bool false)], args := [d1, d2] }
  | _ => none }
def CellRangeWrongFalsely : Prop := cellRangeRow.holds Try.pinned (OpenSpec.ofChange cellRangeWrong)

/-- 'surtitlelaw2.CellClusters': WHATEVER THE INPUT: true; the input reads as it did. -/
def cellClustersSpec : ChangeSpec := { name := "cellClusters", fn := fun _ => fun
  | [d] => { results := [.lit (.bool true)], args := [d] }
  | _ => none }
def cellClustersRow : OpenClaim := { program := "ytcngfcckajpkhaa", sum := "2e31cf1929cd15164f316b533fca90fc01a54b368a8ac3d9b47df5b97bf6c75a", func := "surtitle/surtitlelaw2.CellClusters", spec := "cellClusters", unfollowed := true, recurses := true, apart := false }
def CellClustersSaid : Prop := cellClustersRow.holds Try.pinned (OpenSpec.ofChange cellClustersSpec)

/-- ITS FALSE NEIGHBOUR: 'it returns false'. Refute it at one input. -/
def cellClustersWrong : ChangeSpec := { name := "cellClusters", fn := fun _ => fun
  | [d] => { results := [.lit (.bool false)], args := [d] }
  | _ => none }
def CellClustersWrongFalsely : Prop := cellClustersRow.holds Try.pinned (OpenSpec.ofChange cellClustersWrong)

/-- 'surtitlelaw2.CellNames': WHATEVER THE INPUT: true; the input reads as it did. -/
def cellNamesSpec : ChangeSpec := { name := "cellNames", fn := fun _ => fun
  | [] => { results := [.lit (.bool true)], args := [] }
  | _ => none }
def cellNamesRow : OpenClaim := { program := "ytcngfcckajpkhaa", sum := "2e31cf1929cd15164f316b533fca90fc01a54b368a8ac3d9b47df5b97bf6c75a", func := "surtitle/surtitlelaw2.CellNames", spec := "cellNames", unfollowed := true, recurses := true, apart := false }
def CellNamesSaid : Prop := cellNamesRow.holds Try.pinned (OpenSpec.ofChange cellNamesSpec)

/-- ITS FALSE NEIGHBOUR: 'it returns false'. Refute it at one input. -/
def cellNamesWrong : ChangeSpec := { name := "cellNames", fn := fun _ => fun
  | [] => { results := [.lit (.bool false)], args := [] }
  | _ => none }
def CellNamesWrongFalsely : Prop := cellNamesRow.holds Try.pinned (OpenSpec.ofChange cellNamesWrong)

/-- 'surtitlelaw2.CellCovers': WHATEVER THE INPUT: true; the input reads as it did. -/
def cellCoversSpec : ChangeSpec := { name := "cellCovers", fn := fun _ => fun
  | [d] => { results := [.lit (.bool true)], args := [d] }
  | _ => none }
def cellCoversRow : OpenClaim := { program := "ytcngfcckajpkhaa", sum := "2e31cf1929cd15164f316b533fca90fc01a54b368a8ac3d9b47df5b97bf6c75a", func := "surtitle/surtitlelaw2.CellCovers", spec := "cellCovers", unfollowed := true, recurses := true, apart := false }
def CellCoversSaid : Prop := cellCoversRow.holds Try.pinned (OpenSpec.ofChange cellCoversSpec)

/-- ITS FALSE NEIGHBOUR: 'it returns false'. Refute it at one input. -/
def cellCoversWrong : ChangeSpec := { name := "cellCovers", fn := fun _ => fun
  | [d] => { results := [.lit (.bool false)], args := [d] }
  | _ => none }
def CellCoversWrongFalsely : Prop := cellCoversRow.holds Try.pinned (OpenSpec.ofChange cellCoversWrong)

/-- 'surtitlelaw2.CellFirst': WHATEVER THE INPUT: true; the input reads as it did. -/
def cellFirstSpec : ChangeSpec := { name := "cellFirst", fn := fun _ => fun
  | [d] => { results := [.lit (.bool true)], args := [d] }
  | _ => none }
def cellFirstRow : OpenClaim := { program := "ytcngfcckajpkhaa", sum := "2e31cf1929cd15164f316b533fca90fc01a54b368a8ac3d9b47df5b97bf6c75a", func := "surtitle/surtitlelaw2.CellFirst", spec := "cellFirst", unfollowed := true, recurses := true, apart := false }
def CellFirstSaid : Prop := cellFirstRow.holds Try.pinned (OpenSpec.ofChange cellFirstSpec)

/-- ITS FALSE NEIGHBOUR: 'it returns false'. Refute it at one input. -/
def cellFirstWrong : ChangeSpec := { name := "cellFirst", fn := fun _ => fun
  | [d] => { results := [.lit (.bool false)], args := [d] }
  | _ => none }
def CellFirstWrongFalsely : Prop := cellFirstRow.holds Try.pinned (OpenSpec.ofChange cellFirstWrong)

/-- 'surtitlelaw2.CellParts': WHATEVER THE INPUT: true; the input reads as it did. -/
def cellPartsSpec : ChangeSpec := { name := "cellParts", fn := fun _ => fun
  | [d1, d2] => { results := [.lit (.bool true)], args := [d1, d2] }
  | _ => none }
def cellPartsRow : OpenClaim := { program := "ytcngfcckajpkhaa", sum := "2e31cf1929cd15164f316b533fca90fc01a54b368a8ac3d9b47df5b97bf6c75a", func := "surtitle/surtitlelaw2.CellParts", spec := "cellParts", unfollowed := true, recurses := true, apart := false }
def CellPartsSaid : Prop := cellPartsRow.holds Try.pinned (OpenSpec.ofChange cellPartsSpec)

/-- ITS FALSE NEIGHBOUR: 'it returns false'. Refute it at one input. -/
def cellPartsWrong : ChangeSpec := { name := "cellParts", fn := fun _ => fun
  | [d1, d2] => { results := [.lit (.bool false)], args := [d1, d2] }
  | _ => none }
def CellPartsWrongFalsely : Prop := cellPartsRow.holds Try.pinned (OpenSpec.ofChange cellPartsWrong)

/-- 'surtitlelaw2.CellBehind': WHATEVER THE INPUT: true; the input reads as it did. -/
def cellBehindSpec : ChangeSpec := { name := "cellBehind", fn := fun _ => fun
  | [d1, d2] => { results := [.lit (.bool true)], args := [d1, d2] }
  | _ => none }
def cellBehindRow : OpenClaim := { program := "ytcngfcckajpkhaa", sum := "2e31cf1929cd15164f316b533fca90fc01a54b368a8ac3d9b47df5b97bf6c75a", func := "surtitle/surtitlelaw2.CellBehind", spec := "cellBehind", unfollowed := true, recurses := true, apart := false }
def CellBehindSaid : Prop := cellBehindRow.holds Try.pinned (OpenSpec.ofChange cellBehindSpec)

/-- ITS FALSE NEIGHBOUR: 'it returns false'. Refute it at one input. -/
def cellBehindWrong : ChangeSpec := { name := "cellBehind", fn := fun _ => fun
  | [d1, d2] => { results := [.lit (.bool false)], args := [d1, d2] }
  | _ => none }
def CellBehindWrongFalsely : Prop := cellBehindRow.holds Try.pinned (OpenSpec.ofChange cellBehindWrong)

/-- 'surtitlelaw2.CellSeqs': WHATEVER THE INPUT: true; the input reads as it did. -/
def cellSeqsSpec : ChangeSpec := { name := "cellSeqs", fn := fun _ => fun
  | [d1, d2] => { results := [.lit (.bool true)], args := [d1, d2] }
  | _ => none }
def cellSeqsRow : OpenClaim := { program := "ytcngfcckajpkhaa", sum := "2e31cf1929cd15164f316b533fca90fc01a54b368a8ac3d9b47df5b97bf6c75a", func := "surtitle/surtitlelaw2.CellSeqs", spec := "cellSeqs", unfollowed := true, recurses := true, apart := false }
def CellSeqsSaid : Prop := cellSeqsRow.holds Try.pinned (OpenSpec.ofChange cellSeqsSpec)

/-- ITS FALSE NEIGHBOUR: 'it returns false'. Refute it at one input. -/
def cellSeqsWrong : ChangeSpec := { name := "cellSeqs", fn := fun _ => fun
  | [d1, d2] => { results := [.lit (.bool false)], args := [d1, d2] }
  | _ => none }
def CellSeqsWrongFalsely : Prop := cellSeqsRow.holds Try.pinned (OpenSpec.ofChange cellSeqsWrong)

/-- 'surtitlelaw2.CellCuts': WHATEVER THE INPUT: true; the input reads as it did. -/
def cellCutsSpec : ChangeSpec := { name := "cellCuts", fn := fun _ => fun
  | [d1, d2] => { results := [.lit (.bool true)], args := [d1, d2] }
  | _ => none }
def cellCutsRow : OpenClaim := { program := "ytcngfcckajpkhaa", sum := "2e31cf1929cd15164f316b533fca90fc01a54b368a8ac3d9b47df5b97bf6c75a", func := "surtitle/surtitlelaw2.CellCuts", spec := "cellCuts", unfollowed := true, recurses := true, apart := false }
def CellCutsSaid : Prop := cellCutsRow.holds Try.pinned (OpenSpec.ofChange cellCutsSpec)

/-- ITS FALSE NEIGHBOUR: 'it returns false'. Refute it at one input. -/
def cellCutsWrong : ChangeSpec := { name := "cellCuts", fn := fun _ => fun
  | [d1, d2] => { results := [.lit (.bool false)], args := [d1, d2] }
  | _ => none }
def CellCutsWrongFalsely : Prop := cellCutsRow.holds Try.pinned (OpenSpec.ofChange cellCutsWrong)

/-- 'surtitlelaw2.CellLongest': WHATEVER THE INPUT: true; the input reads as it did. -/
def cellLongestSpec : ChangeSpec := { name := "cellLongest", fn := fun _ => fun
  | [d1, d2] => { results := [.lit (.bool true)], args := [d1, d2] }
  | _ => none }
def cellLongestRow : OpenClaim := { program := "ytcngfcckajpkhaa", sum := "2e31cf1929cd15164f316b533fca90fc01a54b368a8ac3d9b47df5b97bf6c75a", func := "surtitle/surtitlelaw2.CellLongest", spec := "cellLongest", unfollowed := true, recurses := true, apart := false }
def CellLongestSaid : Prop := cellLongestRow.holds Try.pinned (OpenSpec.ofChange cellLongestSpec)

/-- ITS FALSE NEIGHBOUR: 'it returns false'. Refute it at one input. -/
def cellLongestWrong : ChangeSpec := { name := "cellLongest", fn := fun _ => fun
  | [d1, d2] => { results := [.lit (.bool false)], args := [d1, d2] }
  | _ => none }
def CellLongestWrongFalsely : Prop := cellLongestRow.holds Try.pinned (OpenSpec.ofChange cellLongestWrong)

/-- 'surtitlelaw2.CellLong': WHATEVER THE INPUT: true; the input reads as it did. -/
def cellLongSpec : ChangeSpec := { name := "cellLong", fn := fun _ => fun
  | [d1, d2, d3] => { results := [.lit (.bool true)], args := [d1, d2, d3] }
  | _ => none }
def cellLongRow : OpenClaim := { program := "ytcngfcckajpkhaa", sum := "2e31cf1929cd15164f316b533fca90fc01a54b368a8ac3d9b47df5b97bf6c75a", func := "surtitle/surtitlelaw2.CellLong", spec := "cellLong", unfollowed := true, recurses := true, apart := false }
def CellLongSaid : Prop := cellLongRow.holds Try.pinned (OpenSpec.ofChange cellLongSpec)

/-- ITS FALSE NEIGHBOUR: 'it returns false'. Refute it at one input. -/
def cellLongWrong : ChangeSpec := { name := "cellLong", fn := fun _ => fun
  | [d1, d2, d3] => { results := [.lit (.bool false)], args := [d1, d2, d3] }
  | _ => none }
def CellLongWrongFalsely : Prop := cellLongRow.holds Try.pinned (OpenSpec.ofChange cellLongWrong)

/-- 'surtitlelaw2.CellPlaces': WHATEVER THE INPUT: true; the input reads as it did. -/
def cellPlacesSpec : ChangeSpec := { name := "cellPlaces", fn := fun _ => fun
  | [d1, d2, d3] => { results := [.lit (.bool true)], args := [d1, d2, d3] }
  | _ => none }
def cellPlacesRow : OpenClaim := { program := "ytcngfcckajpkhaa", sum := "2e31cf1929cd15164f316b533fca90fc01a54b368a8ac3d9b47df5b97bf6c75a", func := "surtitle/surtitlelaw2.CellPlaces", spec := "cellPlaces", unfollowed := true, recurses := true, apart := false }
def CellPlacesSaid : Prop := cellPlacesRow.holds Try.pinned (OpenSpec.ofChange cellPlacesSpec)

/-- ITS FALSE NEIGHBOUR: 'it returns false'. Refute it at one input. -/
def cellPlacesWrong : ChangeSpec := { name := "cellPlaces", fn := fun _ => fun
  | [d1, d2, d3] => { results := [.lit (.bool false)], args := [d1, d2, d3] }
  | _ => none }
def CellPlacesWrongFalsely : Prop := cellPlacesRow.holds Try.pinned (OpenSpec.ofChange cellPlacesWrong)

/-- 'surtitlelaw2.CellSteps': WHATEVER THE INPUT: true; the input reads as it did. -/
def cellStepsSpec : ChangeSpec := { name := "cellSteps", fn := fun _ => fun
  | [d] => { results := [.lit (.bool true)], args := [d] }
  | _ => none }
def cellStepsRow : OpenClaim := { program := "ytcngfcckajpkhaa", sum := "2e31cf1929cd15164f316b533fca90fc01a54b368a8ac3d9b47df5b97bf6c75a", func := "surtitle/surtitlelaw2.CellSteps", spec := "cellSteps", unfollowed := true, recurses := true, apart := false }
def CellStepsSaid : Prop := cellStepsRow.holds Try.pinned (OpenSpec.ofChange cellStepsSpec)

/-- ITS FALSE NEIGHBOUR: 'it returns false'. Refute it at one input. -/
def cellStepsWrong : ChangeSpec := { name := "cellSteps", fn := fun _ => fun
  | [d] => { results := [.lit (.bool false)], args := [d] }
  | _ => none }
def CellStepsWrongFalsely : Prop := cellStepsRow.holds Try.pinned (OpenSpec.ofChange cellStepsWrong)

/-- 'surtitlelaw2.CellPads': WHATEVER THE INPUT: true; the input reads as it did. -/
def cellPadsSpec : ChangeSpec := { name := "cellPads", fn := fun _ => fun
  | [d1, d2, d3] => { results := [.lit (.bool true)], args := [d1, d2, d3] }
  | _ => none }
def cellPadsRow : OpenClaim := { program := "ytcngfcckajpkhaa", sum := "2e31cf1929cd15164f316b533fca90fc01a54b368a8ac3d9b47df5b97bf6c75a", func := "surtitle/surtitlelaw2.CellPads", spec := "cellPads", inPlace := ["internal/abi.NoEscape", "internal/bytealg.MakeNoZero"], unfollowed := true, recurses := true, apart := false }
def CellPadsSaid : Prop := cellPadsRow.holds Try.pinned (OpenSpec.ofChange cellPadsSpec)

/-- ITS FALSE NEIGHBOUR: 'it returns false'. Refute it at one input. -/
def cellPadsWrong : ChangeSpec := { name := "cellPads", fn := fun _ => fun
  | [d1, d2, d3] => { results := [.lit (.bool false)], args := [d1, d2, d3] }
  | _ => none }
def CellPadsWrongFalsely : Prop := cellPadsRow.holds Try.pinned (OpenSpec.ofChange cellPadsWrong)

/-- 'surtitlelaw2.CellFilled': WHATEVER THE INPUT: true; the input reads as it did. -/
def cellFilledSpec : ChangeSpec := { name := "cellFilled", fn := fun _ => fun
  | [d1, d2, d3] => { results := [.lit (.bool true)], args := [d1, d2, d3] }
  | _ => none }
def cellFilledRow : OpenClaim := { program := "ytcngfcckajpkhaa", sum := "2e31cf1929cd15164f316b533fca90fc01a54b368a8ac3d9b47df5b97bf6c75a", func := "surtitle/surtitlelaw2.CellFilled", spec := "cellFilled", inPlace := ["internal/abi.NoEscape", "internal/bytealg.MakeNoZero"], unfollowed := true, recurses := true, apart := false }
def CellFilledSaid : Prop := cellFilledRow.holds Try.pinned (OpenSpec.ofChange cellFilledSpec)

/-- ITS FALSE NEIGHBOUR: 'it returns false'. Refute it at one input. -/
def cellFilledWrong : ChangeSpec := { name := "cellFilled", fn := fun _ => fun
  | [d1, d2, d3] => { results := [.lit (.bool false)], args := [d1, d2, d3] }
  | _ => none }
def CellFilledWrongFalsely : Prop := cellFilledRow.holds Try.pinned (OpenSpec.ofChange cellFilledWrong)

/- THE SECOND FORM. 'bulk': how many values and letters a reading holds, each counted each time it is reached (what is shared counts as often as it is met; a slice's spare places count too). A statement '..UptoSaid' is the law's where the arguments, and the package variables that the reading takes, are together of bulk at most 1048576: NARROWER than '..Said'. Prove '..Said' where nothing that the law and all that it calls make is longer than what came in: it says more and counts as full. Else prove '..UptoSaid'. A law counts once. -/
mutual
def uptoBulk {H : Type} : DataW H → Nat
  | .lit (.string bytes) => bytes.length + 1
  | .lit _ => 1
  | .nil => 1
  | .ptr d => uptoBulk d + 1
  | .slice elems spare => uptoBulkAll elems + uptoBulkAll spare + 1
  | .agg parts => uptoBulkAll parts + 1
  | .iface _ d => uptoBulk d + 1
  | .map entries => uptoBulkEntries entries + 1
  | .held _ => 1
def uptoBulkAll {H : Type} : List (DataW H) → Nat
  | [] => 0
  | d :: r => uptoBulk d + uptoBulkAll r
def uptoBulkEntries {H : Type} : List (Lit × DataW H) → Nat
  | [] => 0
  | x :: r => uptoBulkEntry x + uptoBulkEntries r
def uptoBulkEntry {H : Type} : Lit × DataW H → Nat
  | (.string bytes, d) => bytes.length + uptoBulk d + 1
  | (_, d) => uptoBulk d + 1
 end
def uptoSmall : (H : Type) → List (DataW H) → Bool := fun _ ds => decide (uptoBulkAll ds ≤ 1048576)
def OpenSpec.upto (s : _root_.Go.ChangeSpec) : _root_.Go.OpenSpec := { _root_.Go.OpenSpec.ofChange s with cond := some uptoSmall }

/-- 'surtitlelaw2.CellWidths', WHERE WHAT IT READS IS OF BULK AT MOST 1048576: true; the input reads as it did. -/
def cellWidthsUptoRow : OpenClaim := { program := "ytcngfcckajpkhaa", sum := "2e31cf1929cd15164f316b533fca90fc01a54b368a8ac3d9b47df5b97bf6c75a", func := "surtitle/surtitlelaw2.CellWidths", spec := "cellWidths", unfollowed := true, recurses := true, apart := false, narrowed := true }
def CellWidthsUptoSaid : Prop := cellWidthsUptoRow.holds Try.pinned (OpenSpec.upto cellWidthsSpec)

/-- 'surtitlelaw2.CellRange', WHERE WHAT IT READS IS OF BULK AT MOST 1048576: true; the input reads as it did. -/
def cellRangeUptoRow : OpenClaim := { program := "ytcngfcckajpkhaa", sum := "2e31cf1929cd15164f316b533fca90fc01a54b368a8ac3d9b47df5b97bf6c75a", func := "surtitle/surtitlelaw2.CellRange", spec := "cellRange", unfollowed := true, recurses := true, apart := false, narrowed := true }
def CellRangeUptoSaid : Prop := cellRangeUptoRow.holds Try.pinned (OpenSpec.upto cellRangeSpec)

/-- 'surtitlelaw2.CellClusters', WHERE WHAT IT READS IS OF BULK AT MOST 1048576: true; the input reads as it did. -/
def cellClustersUptoRow : OpenClaim := { program := "ytcngfcckajpkhaa", sum := "2e31cf1929cd15164f316b533fca90fc01a54b368a8ac3d9b47df5b97bf6c75a", func := "surtitle/surtitlelaw2.CellClusters", spec := "cellClusters", unfollowed := true, recurses := true, apart := false, narrowed := true }
def CellClustersUptoSaid : Prop := cellClustersUptoRow.holds Try.pinned (OpenSpec.upto cellClustersSpec)

/-- 'surtitlelaw2.CellNames', WHERE WHAT IT READS IS OF BULK AT MOST 1048576: true; the input reads as it did. -/
def cellNamesUptoRow : OpenClaim := { program := "ytcngfcckajpkhaa", sum := "2e31cf1929cd15164f316b533fca90fc01a54b368a8ac3d9b47df5b97bf6c75a", func := "surtitle/surtitlelaw2.CellNames", spec := "cellNames", unfollowed := true, recurses := true, apart := false, narrowed := true }
def CellNamesUptoSaid : Prop := cellNamesUptoRow.holds Try.pinned (OpenSpec.upto cellNamesSpec)

/-- 'surtitlelaw2.CellCovers', WHERE WHAT IT READS IS OF BULK AT MOST 1048576: true; the input reads as it did. -/
def cellCoversUptoRow : OpenClaim := { program := "ytcngfcckajpkhaa", sum := "2e31cf1929cd15164f316b533fca90fc01a54b368a8ac3d9b47df5b97bf6c75a", func := "surtitle/surtitlelaw2.CellCovers", spec := "cellCovers", unfollowed := true, recurses := true, apart := false, narrowed := true }
def CellCoversUptoSaid : Prop := cellCoversUptoRow.holds Try.pinned (OpenSpec.upto cellCoversSpec)

/-- 'surtitlelaw2.CellFirst', WHERE WHAT IT READS IS OF BULK AT MOST 1048576: true; the input reads as it did. -/
def cellFirstUptoRow : OpenClaim := { program := "ytcngfcckajpkhaa", sum := "2e31cf1929cd15164f316b533fca90fc01a54b368a8ac3d9b47df5b97bf6c75a", func := "surtitle/surtitlelaw2.CellFirst", spec := "cellFirst", unfollowed := true, recurses := true, apart := false, narrowed := true }
def CellFirstUptoSaid : Prop := cellFirstUptoRow.holds Try.pinned (OpenSpec.upto cellFirstSpec)

/-- 'surtitlelaw2.CellParts', WHERE WHAT IT READS IS OF BULK AT MOST 1048576: true; the input reads as it did. -/
def cellPartsUptoRow : OpenClaim := { program := "ytcngfcckajpkhaa", sum := "2e31cf1929cd15164f316b533fca90fc01a54b368a8ac3d9b47df5b97bf6c75a", func := "surtitle/surtitlelaw2.CellParts", spec := "cellParts", unfollowed := true, recurses := true, apart := false, narrowed := true }
def CellPartsUptoSaid : Prop := cellPartsUptoRow.holds Try.pinned (OpenSpec.upto cellPartsSpec)

/-- 'surtitlelaw2.CellBehind', WHERE WHAT IT READS IS OF BULK AT MOST 1048576: true; the input reads as it did. -/
def cellBehindUptoRow : OpenClaim := { program := "ytcngfcckajpkhaa", sum := "2e31cf1929cd15164f316b533fca90fc01a54b368a8ac3d9b47df5b97bf6c75a", func := "surtitle/surtitlelaw2.CellBehind", spec := "cellBehind", unfollowed := true, recurses := true, apart := false, narrowed := true }
def CellBehindUptoSaid : Prop := cellBehindUptoRow.holds Try.pinned (OpenSpec.upto cellBehindSpec)

/-- 'surtitlelaw2.CellSeqs', WHERE WHAT IT READS IS OF BULK AT MOST 1048576: true; the input reads as it did. -/
def cellSeqsUptoRow : OpenClaim := { program := "ytcngfcckajpkhaa", sum := "2e31cf1929cd15164f316b533fca90fc01a54b368a8ac3d9b47df5b97bf6c75a", func := "surtitle/surtitlelaw2.CellSeqs", spec := "cellSeqs", unfollowed := true, recurses := true, apart := false, narrowed := true }
def CellSeqsUptoSaid : Prop := cellSeqsUptoRow.holds Try.pinned (OpenSpec.upto cellSeqsSpec)

/-- 'surtitlelaw2.CellCuts', WHERE WHAT IT READS IS OF BULK AT MOST 1048576: true; the input reads as it did. -/
def cellCutsUptoRow : OpenClaim := { program := "ytcngfcckajpkhaa", sum := "2e31cf1929cd15164f316b533fca90fc01a54b368a8ac3d9b47df5b97bf6c75a", func := "surtitle/surtitlelaw2.CellCuts", spec := "cellCuts", unfollowed := true, recurses := true, apart := false, narrowed := true }
def CellCutsUptoSaid : Prop := cellCutsUptoRow.holds Try.pinned (OpenSpec.upto cellCutsSpec)

/-- 'surtitlelaw2.CellLongest', WHERE WHAT IT READS IS OF BULK AT MOST 1048576: true; the input reads as it did. -/
def cellLongestUptoRow : OpenClaim := { program := "ytcngfcckajpkhaa", sum := "2e31cf1929cd15164f316b533fca90fc01a54b368a8ac3d9b47df5b97bf6c75a", func := "surtitle/surtitlelaw2.CellLongest", spec := "cellLongest", unfollowed := true, recurses := true, apart := false, narrowed := true }
def CellLongestUptoSaid : Prop := cellLongestUptoRow.holds Try.pinned (OpenSpec.upto cellLongestSpec)

/-- 'surtitlelaw2.CellLong', WHERE WHAT IT READS IS OF BULK AT MOST 1048576: true; the input reads as it did. -/
def cellLongUptoRow : OpenClaim := { program := "ytcngfcckajpkhaa", sum := "2e31cf1929cd15164f316b533fca90fc01a54b368a8ac3d9b47df5b97bf6c75a", func := "surtitle/surtitlelaw2.CellLong", spec := "cellLong", unfollowed := true, recurses := true, apart := false, narrowed := true }
def CellLongUptoSaid : Prop := cellLongUptoRow.holds Try.pinned (OpenSpec.upto cellLongSpec)

/-- 'surtitlelaw2.CellPlaces', WHERE WHAT IT READS IS OF BULK AT MOST 1048576: true; the input reads as it did. -/
def cellPlacesUptoRow : OpenClaim := { program := "ytcngfcckajpkhaa", sum := "2e31cf1929cd15164f316b533fca90fc01a54b368a8ac3d9b47df5b97bf6c75a", func := "surtitle/surtitlelaw2.CellPlaces", spec := "cellPlaces", unfollowed := true, recurses := true, apart := false, narrowed := true }
def CellPlacesUptoSaid : Prop := cellPlacesUptoRow.holds Try.pinned (OpenSpec.upto cellPlacesSpec)

/-- 'surtitlelaw2.CellSteps', WHERE WHAT IT READS IS OF BULK AT MOST 1048576: true; the input reads as it did. -/
def cellStepsUptoRow : OpenClaim := { program := "ytcngfcckajpkhaa", sum := "2e31cf1929cd15164f316b533fca90fc01a54b368a8ac3d9b47df5b97bf6c75a", func := "surtitle/surtitlelaw2.CellSteps", spec := "cellSteps", unfollowed := true, recurses := true, apart := false, narrowed := true }
def CellStepsUptoSaid : Prop := cellStepsUptoRow.holds Try.pinned (OpenSpec.upto cellStepsSpec)

/-- 'surtitlelaw2.CellPads', WHERE WHAT IT READS IS OF BULK AT MOST 1048576: true; the input reads as it did. -/
def cellPadsUptoRow : OpenClaim := { program := "ytcngfcckajpkhaa", sum := "2e31cf1929cd15164f316b533fca90fc01a54b368a8ac3d9b47df5b97bf6c75a", func := "surtitle/surtitlelaw2.CellPads", spec := "cellPads", inPlace := ["internal/abi.NoEscape", "internal/bytealg.MakeNoZero"], unfollowed := true, recurses := true, apart := false, narrowed := true }
def CellPadsUptoSaid : Prop := cellPadsUptoRow.holds Try.pinned (OpenSpec.upto cellPadsSpec)

/-- 'surtitlelaw2.CellFilled', WHERE WHAT IT READS IS OF BULK AT MOST 1048576: true; the input reads as it did. -/
def cellFilledUptoRow : OpenClaim := { program := "ytcngfcckajpkhaa", sum := "2e31cf1929cd15164f316b533fca90fc01a54b368a8ac3d9b47df5b97bf6c75a", func := "surtitle/surtitlelaw2.CellFilled", spec := "cellFilled", inPlace := ["internal/abi.NoEscape", "internal/bytealg.MakeNoZero"], unfollowed := true, recurses := true, apart := false, narrowed := true }
def CellFilledUptoSaid : Prop := cellFilledUptoRow.holds Try.pinned (OpenSpec.upto cellFilledSpec)

end Rows
end Go.Proofs.Ytcngfcckajpkhaa
