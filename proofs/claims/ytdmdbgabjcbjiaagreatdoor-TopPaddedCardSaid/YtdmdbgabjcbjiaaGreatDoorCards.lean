/-
  DERIVED. GIVEN WITH THE SEED: THE CARDS: each row of YtdmdbgabjcbjiaaGreatDoorRows.lean that lists a variable, with what it lists TIED to the program's text (the seventh form; the later family's looks); each row that meets fmt, with fmt's text TOLD by the authors' own Lean function (tested against real Go, not proved from fmt's source: count such statements apart). THE CARD IS WHAT COUNTS. Prove the row's statement (the work); the ties are given (YtdmdbgabjcbjiaaGreatDoorTie.lean); close each card by the builder's one call (the guide's Derived/Test/ToyasCard.lean, 'card_holds'). Laid BY PROGRAM, IN A SANDBOX (cutbox-door.mjs). By AI agents, Wed Nov 11 2026. No macro, syntax, notation, axiom, sorry.
-/
import Derived.Test.YtdmdbgabjcbjiaaGreatDoorRows
import GoSem.ClaimSeven
namespace Go.Proofs.YtdmdbgabjcbjiaaGreatDoor
namespace Rows

/-- THE TIED CARD OF 'cutroomtop.TopPadded'. -/
def topPaddedCard : Claim7 := { stood := { row := topPaddedRow, standIns := [], harness := (true, "bc949ade60b643b1f0c20e51374b289a758db6aeb280d882c689c4c5c6f94543"), looks := true }, kinds := [], alts := [], laidByText := true, laidKinds := [.data, .data], laidTests := true, laidLooks := .later }
def TopPaddedCardSaid : Prop := Claim7.holds Tryz.pinned (.plain (OpenSpec.ofChange topPaddedSpec)) topPaddedCard

/-- THE SECOND FORM's CARD OF 'cutroomtop.TopPadded'. -/
def topPaddedUptoCard : Claim7 := { stood := { row := topPaddedUptoRow, standIns := [], harness := (true, "bc949ade60b643b1f0c20e51374b289a758db6aeb280d882c689c4c5c6f94543"), looks := true }, kinds := [], alts := [], laidByText := true, laidKinds := [.data, .data], laidTests := true, laidLooks := .later }
def TopPaddedUptoCardSaid : Prop := Claim7.holds Tryz.pinned (.plain (OpenSpec.upto topPaddedSpec)) topPaddedUptoCard
end Rows
end Go.Proofs.YtdmdbgabjcbjiaaGreatDoor
