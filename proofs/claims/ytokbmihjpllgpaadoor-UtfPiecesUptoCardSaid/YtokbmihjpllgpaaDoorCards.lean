/-
  DERIVED. GIVEN WITH THE SEED: THE CARDS: each row of YtokbmihjpllgpaaDoorRows.lean that lists a variable, with what it lists TIED to the program's text (the seventh form; the later family's looks); each row that meets fmt, with fmt's text TOLD by the authors' own Lean function (tested against real Go, not proved from fmt's source: count such statements apart). THE CARD IS WHAT COUNTS. Prove the row's statement (the work); the ties are given (YtokbmihjpllgpaaDoorTie.lean); close each card by the builder's one call (the guide's Derived/Test/ToyasCard.lean, 'card_holds'). Laid BY PROGRAM, IN A SANDBOX (cutbox-door.mjs). By AI agents, Wed Nov 11 2026. No macro, syntax, notation, axiom, sorry.
-/
import Derived.Test.YtokbmihjpllgpaaDoorRows
import GoSem.ClaimSeven
namespace Go.Proofs.YtokbmihjpllgpaaDoor
namespace Rows

/-- THE TIED CARD OF 'surtitlelaw1.UtfPieces'. -/
def utfPiecesCard : Claim7 := { stood := { row := utfPiecesRow, standIns := [], harness := (true, "bb3cef70c7bae5a0a290a068bfc6920bacd0a1b2fb4f2495c999ef1c5ad9c9fb"), looks := false }, kinds := [], alts := [], laidByText := true, laidKinds := [.data, .pinned], laidTests := true, laidLooks := .later }
def UtfPiecesCardSaid : Prop := Claim7.holds Tryd.pinned (.plain (OpenSpec.ofChange utfPiecesSpec)) utfPiecesCard

/-- THE TIED CARD OF 'surtitlelaw1.UtfStream'. -/
def utfStreamCard : Claim7 := { stood := { row := utfStreamRow, standIns := [], harness := (true, "bb3cef70c7bae5a0a290a068bfc6920bacd0a1b2fb4f2495c999ef1c5ad9c9fb"), looks := false }, kinds := [], alts := [], laidByText := true, laidKinds := [.data, .pinned], laidTests := true, laidLooks := .later }
def UtfStreamCardSaid : Prop := Claim7.holds Tryd.pinned (.plain (OpenSpec.ofChange utfStreamSpec)) utfStreamCard

/-- THE TIED CARD OF 'surtitlelaw1.UtfOwn'. -/
def utfOwnCard : Claim7 := { stood := { row := utfOwnRow, standIns := [], harness := (true, "bb3cef70c7bae5a0a290a068bfc6920bacd0a1b2fb4f2495c999ef1c5ad9c9fb"), looks := false }, kinds := [], alts := [], laidByText := true, laidKinds := [.data, .pinned], laidTests := true, laidLooks := .later }
def UtfOwnCardSaid : Prop := Claim7.holds Tryd.pinned (.plain (OpenSpec.ofChange utfOwnSpec)) utfOwnCard

/-- THE SECOND FORM's CARD OF 'surtitlelaw1.UtfPieces'. -/
def utfPiecesUptoCard : Claim7 := { stood := { row := utfPiecesUptoRow, standIns := [], harness := (true, "bb3cef70c7bae5a0a290a068bfc6920bacd0a1b2fb4f2495c999ef1c5ad9c9fb"), looks := false }, kinds := [], alts := [], laidByText := true, laidKinds := [.data, .pinned], laidTests := true, laidLooks := .later }
def UtfPiecesUptoCardSaid : Prop := Claim7.holds Tryd.pinned (.plain (OpenSpec.upto utfPiecesSpec)) utfPiecesUptoCard

/-- THE SECOND FORM's CARD OF 'surtitlelaw1.UtfStream'. -/
def utfStreamUptoCard : Claim7 := { stood := { row := utfStreamUptoRow, standIns := [], harness := (true, "bb3cef70c7bae5a0a290a068bfc6920bacd0a1b2fb4f2495c999ef1c5ad9c9fb"), looks := false }, kinds := [], alts := [], laidByText := true, laidKinds := [.data, .pinned], laidTests := true, laidLooks := .later }
def UtfStreamUptoCardSaid : Prop := Claim7.holds Tryd.pinned (.plain (OpenSpec.upto utfStreamSpec)) utfStreamUptoCard

/-- THE SECOND FORM's CARD OF 'surtitlelaw1.UtfOwn'. -/
def utfOwnUptoCard : Claim7 := { stood := { row := utfOwnUptoRow, standIns := [], harness := (true, "bb3cef70c7bae5a0a290a068bfc6920bacd0a1b2fb4f2495c999ef1c5ad9c9fb"), looks := false }, kinds := [], alts := [], laidByText := true, laidKinds := [.data, .pinned], laidTests := true, laidLooks := .later }
def UtfOwnUptoCardSaid : Prop := Claim7.holds Tryd.pinned (.plain (OpenSpec.upto utfOwnSpec)) utfOwnUptoCard
end Rows
end Go.Proofs.YtokbmihjpllgpaaDoor
