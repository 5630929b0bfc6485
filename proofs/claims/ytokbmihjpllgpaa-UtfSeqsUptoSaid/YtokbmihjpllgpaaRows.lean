/-
  No cell of these rows narrows 'for every input' (looked for: loops, veiled, ifaces, maps, wideKeys, modest, calm, conditions, laid).
  DERIVED. THE GIVEN ROWS OF THIS SEAT. 16 by the template 'for every input the law returns true; each argument reads behind the call as it read before'; 0 by the template 'total and deterministic' (their statements: YtokbmihjpllgpaaTotals.lean).
  GIVEN WITH THE SEED: the statements are not yours to turn. If you find one false, say at which input.
  Laid BY PROGRAM, IN A SANDBOX (cutbox-rows.mjs): the forced cells as the released guide's own fill.sh prints them over the translation 5d2c2e06de75dd30… (all of the seat's roots in one cut). By AI agents, Wed Nov 11 2026. No macro, syntax, notation, axiom, sorry.
-/
import Derived.Test.YtokbmihjpllgpaaChecked
import GoSem.Claim
import GoSem.ClaimJoined
import GoSem.ClaimMapViews
import Derived.JoinedTies
import Derived.KernelRfl
namespace Go.Proofs.Ytokbmihjpllgpaa
/- THE CELL 'sum', in the pinned program and in every row, IS THE sha256 OF THE DUMP (.gsa) THAT YtokbmihjpllgpaaProg.lean LOADS. Nothing in Lean hashes anything: it is a label: what it is worth is what the hold of that sum in a sandbox is worth. -/
noncomputable def Try.pinned : Pinned := { name := "ytokbmihjpllgpaa", sum := "5d2c2e06de75dd30e7620f92711eb1cea0324ea4afb03f583f1e0a1c2f163bcb", checked := Try.checked }
namespace Rows
def none {H : Type} : Left H := { results := [], args := [] }

/-- 'surtitlelaw1.UtfSigns': WHATEVER THE INPUT: true; the input reads as it did. -/
def utfSignsSpec : ChangeSpec := { name := "utfSigns", fn := fun _ => fun
  | [d] => { results := [.lit (.bool true)], args := [d] }
  | _ => none }
def utfSignsRow : OpenClaim := { program := "ytokbmihjpllgpaa", sum := "5d2c2e06de75dd30e7620f92711eb1cea0324ea4afb03f583f1e0a1c2f163bcb", func := "surtitle/surtitlelaw1.UtfSigns", spec := "utfSigns", unfollowed := true, recurses := true, apart := false }
def UtfSignsSaid : Prop := utfSignsRow.holds Try.pinned (OpenSpec.ofChange utfSignsSpec)

/-- ITS FALSE NEIGHBOUR: 'it returns false'. Refute it at one input. -/
def utfSignsWrong : ChangeSpec := { name := "utfSigns", fn := fun _ => fun
  | [d] => { results := [.lit (.bool false)], args := [d] }
  | _ => none }
def UtfSignsWrongFalsely : Prop := utfSignsRow.holds Try.pinned (OpenSpec.ofChange utfSignsWrong)

/-- 'surtitlelaw1.UtfPlaces': WHATEVER THE INPUT: true; the input reads as it did. -/
def utfPlacesSpec : ChangeSpec := { name := "utfPlaces", fn := fun _ => fun
  | [d1, d2, d3, d4] => { results := [.lit (.bool true)], args := [d1, d2, d3, d4] }
  | _ => none }
def utfPlacesRow : OpenClaim := { program := "ytokbmihjpllgpaa", sum := "5d2c2e06de75dd30e7620f92711eb1cea0324ea4afb03f583f1e0a1c2f163bcb", func := "surtitle/surtitlelaw1.UtfPlaces", spec := "utfPlaces", unfollowed := true, recurses := true, apart := false }
def UtfPlacesSaid : Prop := utfPlacesRow.holds Try.pinned (OpenSpec.ofChange utfPlacesSpec)

/-- ITS FALSE NEIGHBOUR: 'it returns false'. Refute it at one input. -/
def utfPlacesWrong : ChangeSpec := { name := "utfPlaces", fn := fun _ => fun
  | [d1, d2, d3, d4] => { results := [.lit (.bool false)], args := [d1, d2, d3, d4] }
  | _ => none }
def UtfPlacesWrongFalsely : Prop := utfPlacesRow.holds Try.pinned (OpenSpec.ofChange utfPlacesWrong)

/-- 'surtitlelaw1.UtfMelts': WHATEVER THE INPUT: true; the input reads as it did. -/
def utfMeltsSpec : ChangeSpec := { name := "utfMelts", fn := fun _ => fun
  | [d1, d2] => { results := [.lit (.bool true)], args := [d1, d2] }
  | _ => none }
def utfMeltsRow : OpenClaim := { program := "ytokbmihjpllgpaa", sum := "5d2c2e06de75dd30e7620f92711eb1cea0324ea4afb03f583f1e0a1c2f163bcb", func := "surtitle/surtitlelaw1.UtfMelts", spec := "utfMelts", unfollowed := true, recurses := true, apart := false }
def UtfMeltsSaid : Prop := utfMeltsRow.holds Try.pinned (OpenSpec.ofChange utfMeltsSpec)

/-- ITS FALSE NEIGHBOUR: 'it returns false'. Refute it at one input. -/
def utfMeltsWrong : ChangeSpec := { name := "utfMelts", fn := fun _ => fun
  | [d1, d2] => { results := [.lit (.bool false)], args := [d1, d2] }
  | _ => none }
def UtfMeltsWrongFalsely : Prop := utfMeltsRow.holds Try.pinned (OpenSpec.ofChange utfMeltsWrong)

/-- 'surtitlelaw1.UtfBack': WHATEVER THE INPUT: true; the input reads as it did. -/
def utfBackSpec : ChangeSpec := { name := "utfBack", fn := fun _ => fun
  | [d1, d2, d3, d4] => { results := [.lit (.bool true)], args := [d1, d2, d3, d4] }
  | _ => none }
def utfBackRow : OpenClaim := { program := "ytokbmihjpllgpaa", sum := "5d2c2e06de75dd30e7620f92711eb1cea0324ea4afb03f583f1e0a1c2f163bcb", func := "surtitle/surtitlelaw1.UtfBack", spec := "utfBack", unfollowed := true, recurses := true, apart := false }
def UtfBackSaid : Prop := utfBackRow.holds Try.pinned (OpenSpec.ofChange utfBackSpec)

/-- ITS FALSE NEIGHBOUR: 'it returns false'. Refute it at one input. -/
def utfBackWrong : ChangeSpec := { name := "utfBack", fn := fun _ => fun
  | [d1, d2, d3, d4] => { results := [.lit (.bool false)], args := [d1, d2, d3, d4] }
  | _ => none }
def UtfBackWrongFalsely : Prop := utfBackRow.holds Try.pinned (OpenSpec.ofChange utfBackWrong)

/-- 'surtitlelaw1.UtfTexts': WHATEVER THE INPUT: true; the input reads as it did. -/
def utfTextsSpec : ChangeSpec := { name := "utfTexts", fn := fun _ => fun
  | [d] => { results := [.lit (.bool true)], args := [d] }
  | _ => none }
def utfTextsRow : OpenClaim := { program := "ytokbmihjpllgpaa", sum := "5d2c2e06de75dd30e7620f92711eb1cea0324ea4afb03f583f1e0a1c2f163bcb", func := "surtitle/surtitlelaw1.UtfTexts", spec := "utfTexts", unfollowed := true, recurses := true, apart := false }
def UtfTextsSaid : Prop := utfTextsRow.holds Try.pinned (OpenSpec.ofChange utfTextsSpec)

/-- ITS FALSE NEIGHBOUR: 'it returns false'. Refute it at one input. -/
def utfTextsWrong : ChangeSpec := { name := "utfTexts", fn := fun _ => fun
  | [d] => { results := [.lit (.bool false)], args := [d] }
  | _ => none }
def UtfTextsWrongFalsely : Prop := utfTextsRow.holds Try.pinned (OpenSpec.ofChange utfTextsWrong)

/-- 'surtitlelaw1.UtfParts': WHATEVER THE INPUT: true; the input reads as it did. -/
def utfPartsSpec : ChangeSpec := { name := "utfParts", fn := fun _ => fun
  | [d] => { results := [.lit (.bool true)], args := [d] }
  | _ => none }
def utfPartsRow : OpenClaim := { program := "ytokbmihjpllgpaa", sum := "5d2c2e06de75dd30e7620f92711eb1cea0324ea4afb03f583f1e0a1c2f163bcb", func := "surtitle/surtitlelaw1.UtfParts", spec := "utfParts", unfollowed := true, recurses := true, apart := false }
def UtfPartsSaid : Prop := utfPartsRow.holds Try.pinned (OpenSpec.ofChange utfPartsSpec)

/-- ITS FALSE NEIGHBOUR: 'it returns false'. Refute it at one input. -/
def utfPartsWrong : ChangeSpec := { name := "utfParts", fn := fun _ => fun
  | [d] => { results := [.lit (.bool false)], args := [d] }
  | _ => none }
def UtfPartsWrongFalsely : Prop := utfPartsRow.holds Try.pinned (OpenSpec.ofChange utfPartsWrong)

/-- 'surtitlelaw1.UtfRound': WHATEVER THE INPUT: true; the input reads as it did. -/
def utfRoundSpec : ChangeSpec := { name := "utfRound", fn := fun _ => fun
  | [d] => { results := [.lit (.bool true)], args := [d] }
  | _ => none }
def utfRoundRow : OpenClaim := { program := "ytokbmihjpllgpaa", sum := "5d2c2e06de75dd30e7620f92711eb1cea0324ea4afb03f583f1e0a1c2f163bcb", func := "surtitle/surtitlelaw1.UtfRound", spec := "utfRound", unfollowed := true, recurses := true, apart := false }
def UtfRoundSaid : Prop := utfRoundRow.holds Try.pinned (OpenSpec.ofChange utfRoundSpec)

/-- ITS FALSE NEIGHBOUR: 'it returns false'. Refute it at one input. -/
def utfRoundWrong : ChangeSpec := { name := "utfRound", fn := fun _ => fun
  | [d] => { results := [.lit (.bool false)], args := [d] }
  | _ => none }
def UtfRoundWrongFalsely : Prop := utfRoundRow.holds Try.pinned (OpenSpec.ofChange utfRoundWrong)

/-- 'surtitlelaw1.UtfSeams': WHATEVER THE INPUT: true; the input reads as it did. -/
def utfSeamsSpec : ChangeSpec := { name := "utfSeams", fn := fun _ => fun
  | [d1, d2] => { results := [.lit (.bool true)], args := [d1, d2] }
  | _ => none }
def utfSeamsRow : OpenClaim := { program := "ytokbmihjpllgpaa", sum := "5d2c2e06de75dd30e7620f92711eb1cea0324ea4afb03f583f1e0a1c2f163bcb", func := "surtitle/surtitlelaw1.UtfSeams", spec := "utfSeams", unfollowed := true, recurses := true, apart := false }
def UtfSeamsSaid : Prop := utfSeamsRow.holds Try.pinned (OpenSpec.ofChange utfSeamsSpec)

/-- ITS FALSE NEIGHBOUR: 'it returns false'. Refute it at one input. -/
def utfSeamsWrong : ChangeSpec := { name := "utfSeams", fn := fun _ => fun
  | [d1, d2] => { results := [.lit (.bool false)], args := [d1, d2] }
  | _ => none }
def UtfSeamsWrongFalsely : Prop := utfSeamsRow.holds Try.pinned (OpenSpec.ofChange utfSeamsWrong)

/-- 'surtitlelaw1.UtfRunes': WHATEVER THE INPUT: true; the input reads as it did. -/
def utfRunesSpec : ChangeSpec := { name := "utfRunes", fn := fun _ => fun
  | [d] => { results := [.lit (.bool true)], args := [d] }
  | _ => none }
def utfRunesRow : OpenClaim := { program := "ytokbmihjpllgpaa", sum := "5d2c2e06de75dd30e7620f92711eb1cea0324ea4afb03f583f1e0a1c2f163bcb", func := "surtitle/surtitlelaw1.UtfRunes", spec := "utfRunes", unfollowed := true, recurses := true, apart := false }
def UtfRunesSaid : Prop := utfRunesRow.holds Try.pinned (OpenSpec.ofChange utfRunesSpec)

/-- ITS FALSE NEIGHBOUR: 'it returns false'. Refute it at one input. -/
def utfRunesWrong : ChangeSpec := { name := "utfRunes", fn := fun _ => fun
  | [d] => { results := [.lit (.bool false)], args := [d] }
  | _ => none }
def UtfRunesWrongFalsely : Prop := utfRunesRow.holds Try.pinned (OpenSpec.ofChange utfRunesWrong)

/-- 'surtitlelaw1.UtfRepairs': WHATEVER THE INPUT: true; the input reads as it did. -/
def utfRepairsSpec : ChangeSpec := { name := "utfRepairs", fn := fun _ => fun
  | [d] => { results := [.lit (.bool true)], args := [d] }
  | _ => none }
def utfRepairsRow : OpenClaim := { program := "ytokbmihjpllgpaa", sum := "5d2c2e06de75dd30e7620f92711eb1cea0324ea4afb03f583f1e0a1c2f163bcb", func := "surtitle/surtitlelaw1.UtfRepairs", spec := "utfRepairs", unfollowed := true, recurses := true, apart := false }
def UtfRepairsSaid : Prop := utfRepairsRow.holds Try.pinned (OpenSpec.ofChange utfRepairsSpec)

/-- ITS FALSE NEIGHBOUR: 'it returns false'. Refute it at one input. -/
def utfRepairsWrong : ChangeSpec := { name := "utfRepairs", fn := fun _ => fun
  | [d] => { results := [.lit (.bool false)], args := [d] }
  | _ => none }
def UtfRepairsWrongFalsely : Prop := utfRepairsRow.holds Try.pinned (OpenSpec.ofChange utfRepairsWrong)

/-- 'surtitlelaw1.UtfCuts': WHATEVER THE INPUT: true; the input reads as it did. -/
def utfCutsSpec : ChangeSpec := { name := "utfCuts", fn := fun _ => fun
  | [d1, d2, d3, d4] => { results := [.lit (.bool true)], args := [d1, d2, d3, d4] }
  | _ => none }
def utfCutsRow : OpenClaim := { program := "ytokbmihjpllgpaa", sum := "5d2c2e06de75dd30e7620f92711eb1cea0324ea4afb03f583f1e0a1c2f163bcb", func := "surtitle/surtitlelaw1.UtfCuts", spec := "utfCuts", unfollowed := true, recurses := true, apart := false }
def UtfCutsSaid : Prop := utfCutsRow.holds Try.pinned (OpenSpec.ofChange utfCutsSpec)

/-- ITS FALSE NEIGHBOUR: 'it returns false'. Refute it at one input. -/
def utfCutsWrong : ChangeSpec := { name := "utfCuts", fn := fun _ => fun
  | [d1, d2, d3, d4] => { results := [.lit (.bool false)], args := [d1, d2, d3, d4] }
  | _ => none }
def UtfCutsWrongFalsely : Prop := utfCutsRow.holds Try.pinned (OpenSpec.ofChange utfCutsWrong)

/-- 'surtitlelaw1.UtfCutOf': WHATEVER THE INPUT: true; the input reads as it did. -/
def utfCutOfSpec : ChangeSpec := { name := "utfCutOf", fn := fun _ => fun
  | [d1, d2, d3, d4, d5, d6] => { results := [.lit (.bool true)], args := [d1, d2, d3, d4, d5, d6] }
  | _ => none }
def utfCutOfRow : OpenClaim := { program := "ytokbmihjpllgpaa", sum := "5d2c2e06de75dd30e7620f92711eb1cea0324ea4afb03f583f1e0a1c2f163bcb", func := "surtitle/surtitlelaw1.UtfCutOf", spec := "utfCutOf", unfollowed := true, recurses := true, apart := false }
def UtfCutOfSaid : Prop := utfCutOfRow.holds Try.pinned (OpenSpec.ofChange utfCutOfSpec)

/-- ITS FALSE NEIGHBOUR: 'it returns false'. Refute it at one input. -/
def utfCutOfWrong : ChangeSpec := { name := "utfCutOf", fn := fun _ => fun
  | [d1, d2, d3, d4, d5, d6] => { results := [.lit (.bool false)], args := [d1, d2, d3, d4, d5, d6] }
  | _ => none }
def UtfCutOfWrongFalsely : Prop := utfCutOfRow.holds Try.pinned (OpenSpec.ofChange utfCutOfWrong)

/-- 'surtitlelaw1.UtfNames': WHATEVER THE INPUT: true; the input reads as it did. -/
def utfNamesSpec : ChangeSpec := { name := "utfNames", fn := fun _ => fun
  | [] => { results := [.lit (.bool true)], args := [] }
  | _ => none }
def utfNamesRow : OpenClaim := { program := "ytokbmihjpllgpaa", sum := "5d2c2e06de75dd30e7620f92711eb1cea0324ea4afb03f583f1e0a1c2f163bcb", func := "surtitle/surtitlelaw1.UtfNames", spec := "utfNames", unfollowed := true, recurses := true, apart := false }
def UtfNamesSaid : Prop := utfNamesRow.holds Try.pinned (OpenSpec.ofChange utfNamesSpec)

/-- ITS FALSE NEIGHBOUR: 'it returns false'. Refute it at one input. -/
def utfNamesWrong : ChangeSpec := { name := "utfNames", fn := fun _ => fun
  | [] => { results := [.lit (.bool false)], args := [] }
  | _ => none }
def UtfNamesWrongFalsely : Prop := utfNamesRow.holds Try.pinned (OpenSpec.ofChange utfNamesWrong)

/-- 'surtitlelaw1.UtfLines': WHATEVER THE INPUT: true; the input reads as it did. -/
def utfLinesSpec : ChangeSpec := { name := "utfLines", fn := fun _ => fun
  | [d] => { results := [.lit (.bool true)], args := [d] }
  | _ => none }
def utfLinesRow : OpenClaim := { program := "ytokbmihjpllgpaa", sum := "5d2c2e06de75dd30e7620f92711eb1cea0324ea4afb03f583f1e0a1c2f163bcb", func := "surtitle/surtitlelaw1.UtfLines", spec := "utfLines", inPlace := ["internal/bytealg.IndexByteString", "internal/bytealg.IndexString"], unfollowed := true, recurses := true, named := ["internal/bytealg.MaxLen"], apart := false }
def UtfLinesSaid : Prop := utfLinesRow.holds Try.pinned (OpenSpec.ofChange utfLinesSpec)

/-- ITS FALSE NEIGHBOUR: 'it returns false'. Refute it at one input. -/
def utfLinesWrong : ChangeSpec := { name := "utfLines", fn := fun _ => fun
  | [d] => { results := [.lit (.bool false)], args := [d] }
  | _ => none }
def UtfLinesWrongFalsely : Prop := utfLinesRow.holds Try.pinned (OpenSpec.ofChange utfLinesWrong)

/-- 'surtitlelaw1.UtfFiles': WHATEVER THE INPUT: true; the input reads as it did. -/
def utfFilesSpec : ChangeSpec := { name := "utfFiles", fn := fun _ => fun
  | [d] => { results := [.lit (.bool true)], args := [d] }
  | _ => none }
def utfFilesRow : OpenClaim := { program := "ytokbmihjpllgpaa", sum := "5d2c2e06de75dd30e7620f92711eb1cea0324ea4afb03f583f1e0a1c2f163bcb", func := "surtitle/surtitlelaw1.UtfFiles", spec := "utfFiles", inPlace := ["internal/bytealg.IndexByteString", "internal/bytealg.IndexString"], unfollowed := true, recurses := true, named := ["internal/bytealg.MaxLen"], apart := false }
def UtfFilesSaid : Prop := utfFilesRow.holds Try.pinned (OpenSpec.ofChange utfFilesSpec)

/-- ITS FALSE NEIGHBOUR: 'it returns false'. Refute it at one input. -/
def utfFilesWrong : ChangeSpec := { name := "utfFiles", fn := fun _ => fun
  | [d] => { results := [.lit (.bool false)], args := [d] }
  | _ => none }
def UtfFilesWrongFalsely : Prop := utfFilesRow.holds Try.pinned (OpenSpec.ofChange utfFilesWrong)

/-- 'surtitlelaw1.UtfSeqs': WHATEVER THE INPUT: true; the input reads as it did. -/
def utfSeqsSpec : ChangeSpec := { name := "utfSeqs", fn := fun _ => fun
  | [d1, d2] => { results := [.lit (.bool true)], args := [d1, d2] }
  | _ => none }
def utfSeqsRow : OpenClaim := { program := "ytokbmihjpllgpaa", sum := "5d2c2e06de75dd30e7620f92711eb1cea0324ea4afb03f583f1e0a1c2f163bcb", func := "surtitle/surtitlelaw1.UtfSeqs", spec := "utfSeqs", inPlace := ["internal/bytealg.IndexByteString", "internal/bytealg.IndexString"], unfollowed := true, recurses := true, named := ["internal/bytealg.MaxLen"], apart := false }
def UtfSeqsSaid : Prop := utfSeqsRow.holds Try.pinned (OpenSpec.ofChange utfSeqsSpec)

/-- ITS FALSE NEIGHBOUR: 'it returns false'. Refute it at one input. -/
def utfSeqsWrong : ChangeSpec := { name := "utfSeqs", fn := fun _ => fun
  | [d1, d2] => { results := [.lit (.bool false)], args := [d1, d2] }
  | _ => none }
def UtfSeqsWrongFalsely : Prop := utfSeqsRow.holds Try.pinned (OpenSpec.ofChange utfSeqsWrong)

/- THE SECOND FORM. 'bulk': how many values and letters a reading holds, each counted each time it is reached (what is shared counts as often as it is met; a slice's spare places count too). A statement '..UptoSaid' is the law's where the arguments, and the package variables that the reading takes, are together of bulk at most 1048576: NARROWER than '..Said'. Prove '..Said' where nothing that the law and all that it calls make is longer than what came in: it says more and counts as full. Else prove '..UptoSaid'. A law counts once. -/
mutual
def uptoBulk {H : Type} : DataW H → Nat
  | .lit (.string bytes) => bytes.length + 1
  | .lit _ => 1
  | .nil => 1
  | .ptr d => uptoBulk d + 1
  | .slice elems spare => uptoBulkAll elems + uptoBulkAll spare + 1
  | .agg parts => uptoBulkAll parts + 1
  | .iface _ d => uptoBulk d + 1
  | .map entries => uptoBulkEntries entries + 1
  | .held _ => 1
def uptoBulkAll {H : Type} : List (DataW H) → Nat
  | [] => 0
  | d :: r => uptoBulk d + uptoBulkAll r
def uptoBulkEntries {H : Type} : List (Lit × DataW H) → Nat
  | [] => 0
  | x :: r => uptoBulkEntry x + uptoBulkEntries r
def uptoBulkEntry {H : Type} : Lit × DataW H → Nat
  | (.string bytes, d) => bytes.length + uptoBulk d + 1
  | (_, d) => uptoBulk d + 1
 end
def uptoSmall : (H : Type) → List (DataW H) → Bool := fun _ ds => decide (uptoBulkAll ds ≤ 1048576)
def OpenSpec.upto (s : _root_.Go.ChangeSpec) : _root_.Go.OpenSpec := { _root_.Go.OpenSpec.ofChange s with cond := some uptoSmall }

/-- 'surtitlelaw1.UtfSigns', WHERE WHAT IT READS IS OF BULK AT MOST 1048576: true; the input reads as it did. -/
def utfSignsUptoRow : OpenClaim := { program := "ytokbmihjpllgpaa", sum := "5d2c2e06de75dd30e7620f92711eb1cea0324ea4afb03f583f1e0a1c2f163bcb", func := "surtitle/surtitlelaw1.UtfSigns", spec := "utfSigns", unfollowed := true, recurses := true, apart := false, narrowed := true }
def UtfSignsUptoSaid : Prop := utfSignsUptoRow.holds Try.pinned (OpenSpec.upto utfSignsSpec)

/-- 'surtitlelaw1.UtfPlaces', WHERE WHAT IT READS IS OF BULK AT MOST 1048576: true; the input reads as it did. -/
def utfPlacesUptoRow : OpenClaim := { program := "ytokbmihjpllgpaa", sum := "5d2c2e06de75dd30e7620f92711eb1cea0324ea4afb03f583f1e0a1c2f163bcb", func := "surtitle/surtitlelaw1.UtfPlaces", spec := "utfPlaces", unfollowed := true, recurses := true, apart := false, narrowed := true }
def UtfPlacesUptoSaid : Prop := utfPlacesUptoRow.holds Try.pinned (OpenSpec.upto utfPlacesSpec)

/-- 'surtitlelaw1.UtfMelts', WHERE WHAT IT READS IS OF BULK AT MOST 1048576: true; the input reads as it did. -/
def utfMeltsUptoRow : OpenClaim := { program := "ytokbmihjpllgpaa", sum := "5d2c2e06de75dd30e7620f92711eb1cea0324ea4afb03f583f1e0a1c2f163bcb", func := "surtitle/surtitlelaw1.UtfMelts", spec := "utfMelts", unfollowed := true, recurses := true, apart := false, narrowed := true }
def UtfMeltsUptoSaid : Prop := utfMeltsUptoRow.holds Try.pinned (OpenSpec.upto utfMeltsSpec)

/-- 'surtitlelaw1.UtfBack', WHERE WHAT IT READS IS OF BULK AT MOST 1048576: true; the input reads as it did. -/
def utfBackUptoRow : OpenClaim := { program := "ytokbmihjpllgpaa", sum := "5d2c2e06de75dd30e7620f92711eb1cea0324ea4afb03f583f1e0a1c2f163bcb", func := "surtitle/surtitlelaw1.UtfBack", spec := "utfBack", unfollowed := true, recurses := true, apart := false, narrowed := true }
def UtfBackUptoSaid : Prop := utfBackUptoRow.holds Try.pinned (OpenSpec.upto utfBackSpec)

/-- 'surtitlelaw1.UtfTexts', WHERE WHAT IT READS IS OF BULK AT MOST 1048576: true; the input reads as it did. -/
def utfTextsUptoRow : OpenClaim := { program := "ytokbmihjpllgpaa", sum := "5d2c2e06de75dd30e7620f92711eb1cea0324ea4afb03f583f1e0a1c2f163bcb", func := "surtitle/surtitlelaw1.UtfTexts", spec := "utfTexts", unfollowed := true, recurses := true, apart := false, narrowed := true }
def UtfTextsUptoSaid : Prop := utfTextsUptoRow.holds Try.pinned (OpenSpec.upto utfTextsSpec)

/-- 'surtitlelaw1.UtfParts', WHERE WHAT IT READS IS OF BULK AT MOST 1048576: true; the input reads as it did. -/
def utfPartsUptoRow : OpenClaim := { program := "ytokbmihjpllgpaa", sum := "5d2c2e06de75dd30e7620f92711eb1cea0324ea4afb03f583f1e0a1c2f163bcb", func := "surtitle/surtitlelaw1.UtfParts", spec := "utfParts", unfollowed := true, recurses := true, apart := false, narrowed := true }
def UtfPartsUptoSaid : Prop := utfPartsUptoRow.holds Try.pinned (OpenSpec.upto utfPartsSpec)

/-- 'surtitlelaw1.UtfRound', WHERE WHAT IT READS IS OF BULK AT MOST 1048576: true; the input reads as it did. -/
def utfRoundUptoRow : OpenClaim := { program := "ytokbmihjpllgpaa", sum := "5d2c2e06de75dd30e7620f92711eb1cea0324ea4afb03f583f1e0a1c2f163bcb", func := "surtitle/surtitlelaw1.UtfRound", spec := "utfRound", unfollowed := true, recurses := true, apart := false, narrowed := true }
def UtfRoundUptoSaid : Prop := utfRoundUptoRow.holds Try.pinned (OpenSpec.upto utfRoundSpec)

/-- 'surtitlelaw1.UtfSeams', WHERE WHAT IT READS IS OF BULK AT MOST 1048576: true; the input reads as it did. -/
def utfSeamsUptoRow : OpenClaim := { program := "ytokbmihjpllgpaa", sum := "5d2c2e06de75dd30e7620f92711eb1cea0324ea4afb03f583f1e0a1c2f163bcb", func := "surtitle/surtitlelaw1.UtfSeams", spec := "utfSeams", unfollowed := true, recurses := true, apart := false, narrowed := true }
def UtfSeamsUptoSaid : Prop := utfSeamsUptoRow.holds Try.pinned (OpenSpec.upto utfSeamsSpec)

/-- 'surtitlelaw1.UtfRunes', WHERE WHAT IT READS IS OF BULK AT MOST 1048576: true; the input reads as it did. -/
def utfRunesUptoRow : OpenClaim := { program := "ytokbmihjpllgpaa", sum := "5d2c2e06de75dd30e7620f92711eb1cea0324ea4afb03f583f1e0a1c2f163bcb", func := "surtitle/surtitlelaw1.UtfRunes", spec := "utfRunes", unfollowed := true, recurses := true, apart := false, narrowed := true }
def UtfRunesUptoSaid : Prop := utfRunesUptoRow.holds Try.pinned (OpenSpec.upto utfRunesSpec)

/-- 'surtitlelaw1.UtfRepairs', WHERE WHAT IT READS IS OF BULK AT MOST 1048576: true; the input reads as it did. -/
def utfRepairsUptoRow : OpenClaim := { program := "ytokbmihjpllgpaa", sum := "5d2c2e06de75dd30e7620f92711eb1cea0324ea4afb03f583f1e0a1c2f163bcb", func := "surtitle/surtitlelaw1.UtfRepairs", spec := "utfRepairs", unfollowed := true, recurses := true, apart := false, narrowed := true }
def UtfRepairsUptoSaid : Prop := utfRepairsUptoRow.holds Try.pinned (OpenSpec.upto utfRepairsSpec)

/-- 'surtitlelaw1.UtfCuts', WHERE WHAT IT READS IS OF BULK AT MOST 1048576: true; the input reads as it did. -/
def utfCutsUptoRow : OpenClaim := { program := "ytokbmihjpllgpaa", sum := "5d2c2e06de75dd30e7620f92711eb1cea0324ea4afb03f583f1e0a1c2f163bcb", func := "surtitle/surtitlelaw1.UtfCuts", spec := "utfCuts", unfollowed := true, recurses := true, apart := false, narrowed := true }
def UtfCutsUptoSaid : Prop := utfCutsUptoRow.holds Try.pinned (OpenSpec.upto utfCutsSpec)

/-- 'surtitlelaw1.UtfCutOf', WHERE WHAT IT READS IS OF BULK AT MOST 1048576: true; the input reads as it did. -/
def utfCutOfUptoRow : OpenClaim := { program := "ytokbmihjpllgpaa", sum := "5d2c2e06de75dd30e7620f92711eb1cea0324ea4afb03f583f1e0a1c2f163bcb", func := "surtitle/surtitlelaw1.UtfCutOf", spec := "utfCutOf", unfollowed := true, recurses := true, apart := false, narrowed := true }
def UtfCutOfUptoSaid : Prop := utfCutOfUptoRow.holds Try.pinned (OpenSpec.upto utfCutOfSpec)

/-- 'surtitlelaw1.UtfNames', WHERE WHAT IT READS IS OF BULK AT MOST 1048576: true; the input reads as it did. -/
def utfNamesUptoRow : OpenClaim := { program := "ytokbmihjpllgpaa", sum := "5d2c2e06de75dd30e7620f92711eb1cea0324ea4afb03f583f1e0a1c2f163bcb", func := "surtitle/surtitlelaw1.UtfNames", spec := "utfNames", unfollowed := true, recurses := true, apart := false, narrowed := true }
def UtfNamesUptoSaid : Prop := utfNamesUptoRow.holds Try.pinned (OpenSpec.upto utfNamesSpec)

/-- 'surtitlelaw1.UtfLines', WHERE WHAT IT READS IS OF BULK AT MOST 1048576: true; the input reads as it did. -/
def utfLinesUptoRow : OpenClaim := { program := "ytokbmihjpllgpaa", sum := "5d2c2e06de75dd30e7620f92711eb1cea0324ea4afb03f583f1e0a1c2f163bcb", func := "surtitle/surtitlelaw1.UtfLines", spec := "utfLines", inPlace := ["internal/bytealg.IndexByteString", "internal/bytealg.IndexString"], unfollowed := true, recurses := true, named := ["internal/bytealg.MaxLen"], apart := false, narrowed := true }
def UtfLinesUptoSaid : Prop := utfLinesUptoRow.holds Try.pinned (OpenSpec.upto utfLinesSpec)

/-- 'surtitlelaw1.UtfFiles', WHERE WHAT IT READS IS OF BULK AT MOST 1048576: true; the input reads as it did. -/
def utfFilesUptoRow : OpenClaim := { program := "ytokbmihjpllgpaa", sum := "5d2c2e06de75dd30e7620f92711eb1cea0324ea4afb03f583f1e0a1c2f163bcb", func := "surtitle/surtitlelaw1.UtfFiles", spec := "utfFiles", inPlace := ["internal/bytealg.IndexByteString", "internal/bytealg.IndexString"], unfollowed := true, recurses := true, named := ["internal/bytealg.MaxLen"], apart := false, narrowed := true }
def UtfFilesUptoSaid : Prop := utfFilesUptoRow.holds Try.pinned (OpenSpec.upto utfFilesSpec)

/-- 'surtitlelaw1.UtfSeqs', WHERE WHAT IT READS IS OF BULK AT MOST 1048576: true; the input reads as it did. -/
def utfSeqsUptoRow : OpenClaim := { program := "ytokbmihjpllgpaa", sum := "5d2c2e06de75dd30e7620f92711eb1cea0324ea4afb03f583f1e0a1c2f163bcb", func := "surtitle/surtitlelaw1.UtfSeqs", spec := "utfSeqs", inPlace := ["internal/bytealg.IndexByteString", "internal/bytealg.IndexString"], unfollowed := true, recurses := true, named := ["internal/bytealg.MaxLen"], apart := false, narrowed := true }
def UtfSeqsUptoSaid : Prop := utfSeqsUptoRow.holds Try.pinned (OpenSpec.upto utfSeqsSpec)

end Rows
end Go.Proofs.Ytokbmihjpllgpaa
