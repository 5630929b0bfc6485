/-
  No cell of these rows narrows 'for every input' (looked for: loops, veiled, ifaces, maps, wideKeys, modest, calm, conditions, laid).
  DERIVED. THE GIVEN ROWS OF THIS SEAT. 9 by the template 'for every input the law returns true; each argument reads behind the call as it read before'; 0 by the template 'total and deterministic' (their statements: YtclblidfamabdaaTotals.lean).
  GIVEN WITH THE SEED: the statements are not yours to turn. If you find one false, say at which input.
  Laid BY PROGRAM, IN A SANDBOX (cutbox-rows.mjs): the forced cells as the released guide's own fill.sh prints them over the translation 63bec06e0bc6fe25… (all of the seat's roots in one cut). By AI agents, Wed Nov 11 2026. No macro, syntax, notation, axiom, sorry.
-/
import Derived.Test.YtclblidfamabdaaChecked
import GoSem.Claim
import GoSem.ClaimJoined
import GoSem.ClaimMapViews
import Derived.JoinedTies
import Derived.KernelRfl
namespace Go.Proofs.Ytclblidfamabdaa
/- THE CELL 'sum', in the pinned program and in every row, IS THE sha256 OF THE DUMP (.gsa) THAT YtclblidfamabdaaProg.lean LOADS. Nothing in Lean hashes anything: it is a label: what it is worth is what the hold of that sum in a sandbox is worth. -/
noncomputable def Try.pinned : Pinned := { name := "ytclblidfamabdaa", sum := "63bec06e0bc6fe2572662cc787c6c9766dd9bbac92f77065a5e8956997ca8648", checked := Try.checked }
namespace Rows
def none {H : Type} : Left H := { results := [], args := [] }

/-- 'surtitlelaw4.BidiClasses': WHATEVER THE INPUT: true; the input reads as it did. -/
def bidiClassesSpec : ChangeSpec := { name := "bidiClasses", fn := fun _ => fun
  | [d] => { results := [.lit (.bool true)], args := [d] }
  | _ => none }
def bidiClassesRow : OpenClaim := { program := "ytclblidfamabdaa", sum := "63bec06e0bc6fe2572662cc787c6c9766dd9bbac92f77065a5e8956997ca8648", func := "surtitle/surtitlelaw4.BidiClasses", spec := "bidiClasses", inPlace := ["internal/abi.NoEscape"], unfollowed := true, recurses := true, apart := false }
def BidiClassesSaid : Prop := bidiClassesRow.holds Try.pinned (OpenSpec.ofChange bidiClassesSpec)

/-- ITS FALSE NEIGHBOUR: 'it returns false'. Refute it at one input. -/
def bidiClassesWrong : ChangeSpec := { name := "bidiClasses", fn := fun _ => fun
  | [d] => { results := [.lit (.bool false)], args := [d] }
  | _ => none }
def BidiClassesWrongFalsely : Prop := bidiClassesRow.holds Try.pinned (OpenSpec.ofChange bidiClassesWrong)

/-- 'surtitlelaw4.BidiTables': WHATEVER THE INPUT: true; the input reads as it did. -/
def bidiTablesSpec : ChangeSpec := { name := "bidiTables", fn := fun _ => fun
  | [d1, d2] => { results := [.lit (.bool true)], args := [d1, d2] }
  | _ => none }
def bidiTablesRow : OpenClaim := { program := "ytclblidfamabdaa", sum := "63bec06e0bc6fe2572662cc787c6c9766dd9bbac92f77065a5e8956997ca8648", func := "surtitle/surtitlelaw4.BidiTables", spec := "bidiTables", inPlace := ["internal/abi.NoEscape"], unfollowed := true, recurses := true, apart := false }
def BidiTablesSaid : Prop := bidiTablesRow.holds Try.pinned (OpenSpec.ofChange bidiTablesSpec)

/-- ITS FALSE NEIGHBOUR: 'it returns false'. Refute it at one input. -/
def bidiTablesWrong : ChangeSpec := { name := "bidiTables", fn := fun _ => fun
  | [d1, d2] => { results := [.lit (.bool false)], args := [d1, d2] }
  | _ => none }
def BidiTablesWrongFalsely : Prop := bidiTablesRow.holds Try.pinned (OpenSpec.ofChange bidiTablesWrong)

/-- 'surtitlelaw4.BidiLevels': WHATEVER THE INPUT: true; the input reads as it did. -/
def bidiLevelsSpec : ChangeSpec := { name := "bidiLevels", fn := fun _ => fun
  | [d1, d2] => { results := [.lit (.bool true)], args := [d1, d2] }
  | _ => none }
def bidiLevelsRow : OpenClaim := { program := "ytclblidfamabdaa", sum := "63bec06e0bc6fe2572662cc787c6c9766dd9bbac92f77065a5e8956997ca8648", func := "surtitle/surtitlelaw4.BidiLevels", spec := "bidiLevels", inPlace := ["internal/abi.NoEscape"], unfollowed := true, recurses := true, apart := false }
def BidiLevelsSaid : Prop := bidiLevelsRow.holds Try.pinned (OpenSpec.ofChange bidiLevelsSpec)

/-- ITS FALSE NEIGHBOUR: 'it returns false'. Refute it at one input. -/
def bidiLevelsWrong : ChangeSpec := { name := "bidiLevels", fn := fun _ => fun
  | [d1, d2] => { results := [.lit (.bool false)], args := [d1, d2] }
  | _ => none }
def BidiLevelsWrongFalsely : Prop := bidiLevelsRow.holds Try.pinned (OpenSpec.ofChange bidiLevelsWrong)

/-- 'surtitlelaw4.BidiOrders': WHATEVER THE INPUT: true; the input reads as it did. -/
def bidiOrdersSpec : ChangeSpec := { name := "bidiOrders", fn := fun _ => fun
  | [d] => { results := [.lit (.bool true)], args := [d] }
  | _ => none }
def bidiOrdersRow : OpenClaim := { program := "ytclblidfamabdaa", sum := "63bec06e0bc6fe2572662cc787c6c9766dd9bbac92f77065a5e8956997ca8648", func := "surtitle/surtitlelaw4.BidiOrders", spec := "bidiOrders", inPlace := ["internal/abi.NoEscape"], unfollowed := true, recurses := true, apart := false }
def BidiOrdersSaid : Prop := bidiOrdersRow.holds Try.pinned (OpenSpec.ofChange bidiOrdersSpec)

/-- ITS FALSE NEIGHBOUR: 'it returns false'. Refute it at one input. -/
def bidiOrdersWrong : ChangeSpec := { name := "bidiOrders", fn := fun _ => fun
  | [d] => { results := [.lit (.bool false)], args := [d] }
  | _ => none }
def BidiOrdersWrongFalsely : Prop := bidiOrdersRow.holds Try.pinned (OpenSpec.ofChange bidiOrdersWrong)

/-- 'surtitlelaw4.BidiVisual': WHATEVER THE INPUT: true; the input reads as it did. -/
def bidiVisualSpec : ChangeSpec := { name := "bidiVisual", fn := fun _ => fun
  | [d1, d2] => { results := [.lit (.bool true)], args := [d1, d2] }
  | _ => none }
def bidiVisualRow : OpenClaim := { program := "ytclblidfamabdaa", sum := "63bec06e0bc6fe2572662cc787c6c9766dd9bbac92f77065a5e8956997ca8648", func := "surtitle/surtitlelaw4.BidiVisual", spec := "bidiVisual", inPlace := ["internal/abi.NoEscape"], unfollowed := true, recurses := true, apart := false }
def BidiVisualSaid : Prop := bidiVisualRow.holds Try.pinned (OpenSpec.ofChange bidiVisualSpec)

/-- ITS FALSE NEIGHBOUR: 'it returns false'. Refute it at one input. -/
def bidiVisualWrong : ChangeSpec := { name := "bidiVisual", fn := fun _ => fun
  | [d1, d2] => { results := [.lit (.bool false)], args := [d1, d2] }
  | _ => none }
def BidiVisualWrongFalsely : Prop := bidiVisualRow.holds Try.pinned (OpenSpec.ofChange bidiVisualWrong)

/-- 'surtitlelaw4.BidiPermutes': WHATEVER THE INPUT: true; the input reads as it did. -/
def bidiPermutesSpec : ChangeSpec := { name := "bidiPermutes", fn := fun _ => fun
  | [d] => { results := [.lit (.bool true)], args := [d] }
  | _ => none }
def bidiPermutesRow : OpenClaim := { program := "ytclblidfamabdaa", sum := "63bec06e0bc6fe2572662cc787c6c9766dd9bbac92f77065a5e8956997ca8648", func := "surtitle/surtitlelaw4.BidiPermutes", spec := "bidiPermutes", inPlace := ["internal/abi.NoEscape"], unfollowed := true, recurses := true, apart := false }
def BidiPermutesSaid : Prop := bidiPermutesRow.holds Try.pinned (OpenSpec.ofChange bidiPermutesSpec)

/-- ITS FALSE NEIGHBOUR: 'it returns false'. Refute it at one input. -/
def bidiPermutesWrong : ChangeSpec := { name := "bidiPermutes", fn := fun _ => fun
  | [d] => { results := [.lit (.bool false)], args := [d] }
  | _ => none }
def BidiPermutesWrongFalsely : Prop := bidiPermutesRow.holds Try.pinned (OpenSpec.ofChange bidiPermutesWrong)

/-- 'surtitlelaw4.BidiDeep': WHATEVER THE INPUT: true; the input reads as it did. -/
def bidiDeepSpec : ChangeSpec := { name := "bidiDeep", fn := fun _ => fun
  | [d1, d2, d3] => { results := [.lit (.bool true)], args := [d1, d2, d3] }
  | _ => none }
def bidiDeepRow : OpenClaim := { program := "ytclblidfamabdaa", sum := "63bec06e0bc6fe2572662cc787c6c9766dd9bbac92f77065a5e8956997ca8648", func := "surtitle/surtitlelaw4.BidiDeep", spec := "bidiDeep", inPlace := ["internal/abi.NoEscape"], unfollowed := true, recurses := true, apart := false }
def BidiDeepSaid : Prop := bidiDeepRow.holds Try.pinned (OpenSpec.ofChange bidiDeepSpec)

/-- ITS FALSE NEIGHBOUR: 'it returns false'. Refute it at one input. -/
def bidiDeepWrong : ChangeSpec := { name := "bidiDeep", fn := fun _ => fun
  | [d1, d2, d3] => { results := [.lit (.bool false)], args := [d1, d2, d3] }
  | _ => none }
def BidiDeepWrongFalsely : Prop := bidiDeepRow.holds Try.pinned (OpenSpec.ofChange bidiDeepWrong)

/-- 'surtitlelaw4.BidiOwn': WHATEVER THE INPUT: true; the input reads as it did. -/
def bidiOwnSpec : ChangeSpec := { name := "bidiOwn", fn := fun _ => fun
  | [d1, d2] => { results := [.lit (.bool true)], args := [d1, d2] }
  | _ => none }
def bidiOwnRow : OpenClaim := { program := "ytclblidfamabdaa", sum := "63bec06e0bc6fe2572662cc787c6c9766dd9bbac92f77065a5e8956997ca8648", func := "surtitle/surtitlelaw4.BidiOwn", spec := "bidiOwn", inPlace := ["internal/abi.NoEscape"], unfollowed := true, recurses := true, apart := false }
def BidiOwnSaid : Prop := bidiOwnRow.holds Try.pinned (OpenSpec.ofChange bidiOwnSpec)

/-- ITS FALSE NEIGHBOUR: 'it returns false'. Refute it at one input. -/
def bidiOwnWrong : ChangeSpec := { name := "bidiOwn", fn := fun _ => fun
  | [d1, d2] => { results := [.lit (.bool false)], args := [d1, d2] }
  | _ => none }
def BidiOwnWrongFalsely : Prop := bidiOwnRow.holds Try.pinned (OpenSpec.ofChange bidiOwnWrong)

/-- 'surtitlelaw4.BidiNames': WHATEVER THE INPUT: true; the input reads as it did. -/
def bidiNamesSpec : ChangeSpec := { name := "bidiNames", fn := fun _ => fun
  | [] => { results := [.lit (.bool true)], args := [] }
  | _ => none }
def bidiNamesRow : OpenClaim := { program := "ytclblidfamabdaa", sum := "63bec06e0bc6fe2572662cc787c6c9766dd9bbac92f77065a5e8956997ca8648", func := "surtitle/surtitlelaw4.BidiNames", spec := "bidiNames", inPlace := ["internal/abi.NoEscape"], unfollowed := true, recurses := true, apart := false }
def BidiNamesSaid : Prop := bidiNamesRow.holds Try.pinned (OpenSpec.ofChange bidiNamesSpec)

/-- ITS FALSE NEIGHBOUR: 'it returns false'. Refute it at one input. -/
def bidiNamesWrong : ChangeSpec := { name := "bidiNames", fn := fun _ => fun
  | [] => { results := [.lit (.bool false)], args := [] }
  | _ => none }
def BidiNamesWrongFalsely : Prop := bidiNamesRow.holds Try.pinned (OpenSpec.ofChange bidiNamesWrong)

/- THE SECOND FORM. 'bulk': how many values and letters a reading holds, each counted each time it is reached (what is shared counts as often as it is met; a slice's spare places count too). A statement '..UptoSaid' is the law's where the arguments, and the package variables that the reading takes, are together of bulk at most 1048576: NARROWER than '..Said'. Prove '..Said' where nothing that the law and all that it calls make is longer than what came in: it says more and counts as full. Else prove '..UptoSaid'. A law counts once. -/
mutual
def uptoBulk {H : Type} : DataW H → Nat
  | .lit (.string bytes) => bytes.length + 1
  | .lit _ => 1
  | .nil => 1
  | .ptr d => uptoBulk d + 1
  | .slice elems spare => uptoBulkAll elems + uptoBulkAll spare + 1
  | .agg parts => uptoBulkAll parts + 1
  | .iface _ d => uptoBulk d + 1
  | .map entries => uptoBulkEntries entries + 1
  | .held _ => 1
def uptoBulkAll {H : Type} : List (DataW H) → Nat
  | [] => 0
  | d :: r => uptoBulk d + uptoBulkAll r
def uptoBulkEntries {H : Type} : List (Lit × DataW H) → Nat
  | [] => 0
  | x :: r => uptoBulkEntry x + uptoBulkEntries r
def uptoBulkEntry {H : Type} : Lit × DataW H → Nat
  | (.string bytes, d) => bytes.length + uptoBulk d + 1
  | (_, d) => uptoBulk d + 1
 end
def uptoSmall : (H : Type) → List (DataW H) → Bool := fun _ ds => decide (uptoBulkAll ds ≤ 1048576)
def OpenSpec.upto (s : _root_.Go.ChangeSpec) : _root_.Go.OpenSpec := { _root_.Go.OpenSpec.ofChange s with cond := some uptoSmall }

/-- 'surtitlelaw4.BidiClasses', WHERE WHAT IT READS IS OF BULK AT MOST 1048576: true; the input reads as it did. -/
def bidiClassesUptoRow : OpenClaim := { program := "ytclblidfamabdaa", sum := "63bec06e0bc6fe2572662cc787c6c9766dd9bbac92f77065a5e8956997ca8648", func := "surtitle/surtitlelaw4.BidiClasses", spec := "bidiClasses", inPlace := ["internal/abi.NoEscape"], unfollowed := true, recurses := true, apart := false, narrowed := true }
def BidiClassesUptoSaid : Prop := bidiClassesUptoRow.holds Try.pinned (OpenSpec.upto bidiClassesSpec)

/-- 'surtitlelaw4.BidiTables', WHERE WHAT IT READS IS OF BULK AT MOST 1048576: true; the input reads as it did. -/
def bidiTablesUptoRow : OpenClaim := { program := "ytclblidfamabdaa", sum := "63bec06e0bc6fe2572662cc787c6c9766dd9bbac92f77065a5e8956997ca8648", func := "surtitle/surtitlelaw4.BidiTables", spec := "bidiTables", inPlace := ["internal/abi.NoEscape"], unfollowed := true, recurses := true, apart := false, narrowed := true }
def BidiTablesUptoSaid : Prop := bidiTablesUptoRow.holds Try.pinned (OpenSpec.upto bidiTablesSpec)

/-- 'surtitlelaw4.BidiLevels', WHERE WHAT IT READS IS OF BULK AT MOST 1048576: true; the input reads as it did. -/
def bidiLevelsUptoRow : OpenClaim := { program := "ytclblidfamabdaa", sum := "63bec06e0bc6fe2572662cc787c6c9766dd9bbac92f77065a5e8956997ca8648", func := "surtitle/surtitlelaw4.BidiLevels", spec := "bidiLevels", inPlace := ["internal/abi.NoEscape"], unfollowed := true, recurses := true, apart := false, narrowed := true }
def BidiLevelsUptoSaid : Prop := bidiLevelsUptoRow.holds Try.pinned (OpenSpec.upto bidiLevelsSpec)

/-- 'surtitlelaw4.BidiOrders', WHERE WHAT IT READS IS OF BULK AT MOST 1048576: true; the input reads as it did. -/
def bidiOrdersUptoRow : OpenClaim := { program := "ytclblidfamabdaa", sum := "63bec06e0bc6fe2572662cc787c6c9766dd9bbac92f77065a5e8956997ca8648", func := "surtitle/surtitlelaw4.BidiOrders", spec := "bidiOrders", inPlace := ["internal/abi.NoEscape"], unfollowed := true, recurses := true, apart := false, narrowed := true }
def BidiOrdersUptoSaid : Prop := bidiOrdersUptoRow.holds Try.pinned (OpenSpec.upto bidiOrdersSpec)

/-- 'surtitlelaw4.BidiVisual', WHERE WHAT IT READS IS OF BULK AT MOST 1048576: true; the input reads as it did. -/
def bidiVisualUptoRow : OpenClaim := { program := "ytclblidfamabdaa", sum := "63bec06e0bc6fe2572662cc787c6c9766dd9bbac92f77065a5e8956997ca8648", func := "surtitle/surtitlelaw4.BidiVisual", spec := "bidiVisual", inPlace := ["internal/abi.NoEscape"], unfollowed := true, recurses := true, apart := false, narrowed := true }
def BidiVisualUptoSaid : Prop := bidiVisualUptoRow.holds Try.pinned (OpenSpec.upto bidiVisualSpec)

/-- 'surtitlelaw4.BidiPermutes', WHERE WHAT IT READS IS OF BULK AT MOST 1048576: true; the input reads as it did. -/
def bidiPermutesUptoRow : OpenClaim := { program := "ytclblidfamabdaa", sum := "63bec06e0bc6fe2572662cc787c6c9766dd9bbac92f77065a5e8956997ca8648", func := "surtitle/surtitlelaw4.BidiPermutes", spec := "bidiPermutes", inPlace := ["internal/abi.NoEscape"], unfollowed := true, recurses := true, apart := false, narrowed := true }
def BidiPermutesUptoSaid : Prop := bidiPermutesUptoRow.holds Try.pinned (OpenSpec.upto bidiPermutesSpec)

/-- 'surtitlelaw4.BidiDeep', WHERE WHAT IT READS IS OF BULK AT MOST 1048576: true; the input reads as it did. -/
def bidiDeepUptoRow : OpenClaim := { program := "ytclblidfamabdaa", sum := "63bec06e0bc6fe2572662cc787c6c9766dd9bbac92f77065a5e8956997ca8648", func := "surtitle/surtitlelaw4.BidiDeep", spec := "bidiDeep", inPlace := ["internal/abi.NoEscape"], unfollowed := true, recurses := true, apart := false, narrowed := true }
def BidiDeepUptoSaid : Prop := bidiDeepUptoRow.holds Try.pinned (OpenSpec.upto bidiDeepSpec)

/-- 'surtitlelaw4.BidiOwn', WHERE WHAT IT READS IS OF BULK AT MOST 1048576: true; the input reads as it did. -/
def bidiOwnUptoRow : OpenClaim := { program := "ytclblidfamabdaa", sum := "63bec06e0bc6fe2572662cc787c6c9766dd9bbac92f77065a5e8956997ca8648", func := "surtitle/surtitlelaw4.BidiOwn", spec := "bidiOwn", inPlace := ["internal/abi.NoEscape"], unfollowed := true, recurses := true, apart := false, narrowed := true }
def BidiOwnUptoSaid : Prop := bidiOwnUptoRow.holds Try.pinned (OpenSpec.upto bidiOwnSpec)

/-- 'surtitlelaw4.BidiNames', WHERE WHAT IT READS IS OF BULK AT MOST 1048576: true; the input reads as it did. -/
def bidiNamesUptoRow : OpenClaim := { program := "ytclblidfamabdaa", sum := "63bec06e0bc6fe2572662cc787c6c9766dd9bbac92f77065a5e8956997ca8648", func := "surtitle/surtitlelaw4.BidiNames", spec := "bidiNames", inPlace := ["internal/abi.NoEscape"], unfollowed := true, recurses := true, apart := false, narrowed := true }
def BidiNamesUptoSaid : Prop := bidiNamesUptoRow.holds Try.pinned (OpenSpec.upto bidiNamesSpec)

end Rows
end Go.Proofs.Ytclblidfamabdaa
