/-
  DERIVED. GIVEN WITH THE SEED: THE CARDS: each row of YtmjjdehicngffaaDoorRows.lean that lists a variable, with what it lists TIED to the program's text (the seventh form; the later family's looks); each row that meets fmt, with fmt's text TOLD by the authors' own Lean function (tested against real Go, not proved from fmt's source: count such statements apart). THE CARD IS WHAT COUNTS. Prove the row's statement (the work); the ties are given (YtmjjdehicngffaaDoorTie.lean); close each card by the builder's one call (the guide's Derived/Test/ToyasCard.lean, 'card_holds'). Laid BY PROGRAM, IN A SANDBOX (cutbox-door.mjs). By AI agents, Wed Nov 11 2026. No macro, syntax, notation, axiom, sorry.
-/
import Derived.Test.YtmjjdehicngffaaDoorRows
import GoSem.ClaimSeven
namespace Go.Proofs.YtmjjdehicngffaaDoor
namespace Rows

/-- THE TIED CARD OF 'cutroomlaw06.QuantScans'. -/
def quantScansCard : Claim7 := { stood := { row := quantScansRow, standIns := [], harness := (true, "884bdfb1e2a71d62341f2672bacf1593b6f3c5e933903204de9db97f15b5b1d1"), looks := false }, kinds := [], alts := [], laidByText := true, laidKinds := [.data, .data], laidTests := true, laidLooks := .later }
def QuantScansCardSaid : Prop := Claim7.holds Tryd.pinned (.plain (OpenSpec.ofChange quantScansSpec)) quantScansCard

/-- THE SECOND FORM's CARD OF 'cutroomlaw06.QuantScans'. -/
def quantScansUptoCard : Claim7 := { stood := { row := quantScansUptoRow, standIns := [], harness := (true, "884bdfb1e2a71d62341f2672bacf1593b6f3c5e933903204de9db97f15b5b1d1"), looks := false }, kinds := [], alts := [], laidByText := true, laidKinds := [.data, .data], laidTests := true, laidLooks := .later }
def QuantScansUptoCardSaid : Prop := Claim7.holds Tryd.pinned (.plain (OpenSpec.upto quantScansSpec)) quantScansUptoCard
end Rows
end Go.Proofs.YtmjjdehicngffaaDoor
