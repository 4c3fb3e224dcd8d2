/-
  DERIVED. GIVEN WITH THE SEED: THE CARDS: each row of YtknkknahmebbfaaGreatDoorRows.lean that lists a variable, with what it lists TIED to the program's text (the seventh form; the later family's looks); each row that meets fmt, with fmt's text TOLD by the authors' own Lean function (tested against real Go, not proved from fmt's source: count such statements apart). THE CARD IS WHAT COUNTS. Prove the row's statement (the work); the ties are given (YtknkknahmebbfaaGreatDoorTie.lean); close each card by the builder's one call (the guide's Derived/Test/ToyasCard.lean, 'card_holds'). Laid BY PROGRAM, IN A SANDBOX (cutbox-door.mjs). By AI agents, Wed Nov 11 2026. No macro, syntax, notation, axiom, sorry.
-/
import Derived.Test.YtknkknahmebbfaaGreatDoorRows
import GoSem.ClaimSeven
namespace Go.Proofs.YtknkknahmebbfaaGreatDoor
namespace Rows

/-- THE TIED CARD OF 'customslaw20.AssessDifference'. -/
def assessDifferenceCard : Claim7 := { stood := { row := assessDifferenceRow, standIns := [], harness := (true, "40815d3119b2f976db1fdf38a9257a853ac3cf840690bd3936f2266887fb13c6"), looks := false }, kinds := [], alts := [], laidByText := true, laidKinds := [.data, .data, .pinned], laidTests := true, laidLooks := .later }
def AssessDifferenceCardSaid : Prop := Claim7.holds Tryz.pinned (.plain (OpenSpec.ofChange assessDifferenceSpec)) assessDifferenceCard

/-- THE SECOND FORM's CARD OF 'customslaw20.AssessDifference'. -/
def assessDifferenceUptoCard : Claim7 := { stood := { row := assessDifferenceUptoRow, standIns := [], harness := (true, "40815d3119b2f976db1fdf38a9257a853ac3cf840690bd3936f2266887fb13c6"), looks := false }, kinds := [], alts := [], laidByText := true, laidKinds := [.data, .data, .pinned], laidTests := true, laidLooks := .later }
def AssessDifferenceUptoCardSaid : Prop := Claim7.holds Tryz.pinned (.plain (OpenSpec.upto assessDifferenceSpec)) assessDifferenceUptoCard
end Rows
end Go.Proofs.YtknkknahmebbfaaGreatDoor
