/-
  DERIVED. GIVEN WITH THE SEED: THE CARDS: each row of YthbphcbhedmnoaaGreatDoorRows.lean that lists a variable, with what it lists TIED to the program's text (the seventh form; the later family's looks); each row that meets fmt, with fmt's text TOLD by the authors' own Lean function (tested against real Go, not proved from fmt's source: count such statements apart). THE CARD IS WHAT COUNTS. Prove the row's statement (the work); the ties are given (YthbphcbhedmnoaaGreatDoorTie.lean); close each card by the builder's one call (the guide's Derived/Test/ToyasCard.lean, 'card_holds'). Laid BY PROGRAM, IN A SANDBOX (cutbox-door.mjs). By AI agents, Wed Nov 11 2026. No macro, syntax, notation, axiom, sorry.
-/
import Derived.Test.YthbphcbhedmnoaaGreatDoorRows
import GoSem.ClaimSeven
namespace Go.Proofs.YthbphcbhedmnoaaGreatDoor
namespace Rows

/-- THE TIED CARD OF 'customslaw20.AssessDifference'. -/
def assessDifferenceCard : Claim7 := { stood := { row := assessDifferenceRow, standIns := [], harness := (true, "d271fc30cff10d59a72863d1eb68a3d84db99f08108d2c8632d41447e35cdff0"), looks := true }, kinds := [], alts := [], laidByText := true, laidKinds := [.data, .data, .pinned], laidTests := true, laidLooks := .later }
def AssessDifferenceCardSaid : Prop := Claim7.holds Tryz.pinned (.plain (OpenSpec.ofChange assessDifferenceSpec)) assessDifferenceCard

/-- THE TIED CARD OF 'customslaw20.AssessDifferenceRaw'. -/
def assessDifferenceRawCard : Claim7 := { stood := { row := assessDifferenceRawRow, standIns := [], harness := (true, "d271fc30cff10d59a72863d1eb68a3d84db99f08108d2c8632d41447e35cdff0"), looks := true }, kinds := [], alts := [], laidByText := true, laidKinds := [.data, .data, .pinned], laidTests := true, laidLooks := .later }
def AssessDifferenceRawCardSaid : Prop := Claim7.holds Tryz.pinned (.plain (OpenSpec.ofChange assessDifferenceRawSpec)) assessDifferenceRawCard

/-- THE TIED CARD OF 'customslaw15.OriginCheaper'. -/
def originCheaperCard : Claim7 := { stood := { row := originCheaperRow, standIns := [], harness := (true, "d271fc30cff10d59a72863d1eb68a3d84db99f08108d2c8632d41447e35cdff0"), looks := true }, kinds := [], alts := [], laidByText := true, laidKinds := [.data, .data, .pinned], laidTests := true, laidLooks := .later }
def OriginCheaperCardSaid : Prop := Claim7.holds Tryz.pinned (.plain (OpenSpec.ofChange originCheaperSpec)) originCheaperCard

/-- THE SECOND FORM's CARD OF 'customslaw20.AssessDifference'. -/
def assessDifferenceUptoCard : Claim7 := { stood := { row := assessDifferenceUptoRow, standIns := [], harness := (true, "d271fc30cff10d59a72863d1eb68a3d84db99f08108d2c8632d41447e35cdff0"), looks := true }, kinds := [], alts := [], laidByText := true, laidKinds := [.data, .data, .pinned], laidTests := true, laidLooks := .later }
def AssessDifferenceUptoCardSaid : Prop := Claim7.holds Tryz.pinned (.plain (OpenSpec.upto assessDifferenceSpec)) assessDifferenceUptoCard

/-- THE SECOND FORM's CARD OF 'customslaw20.AssessDifferenceRaw'. -/
def assessDifferenceRawUptoCard : Claim7 := { stood := { row := assessDifferenceRawUptoRow, standIns := [], harness := (true, "d271fc30cff10d59a72863d1eb68a3d84db99f08108d2c8632d41447e35cdff0"), looks := true }, kinds := [], alts := [], laidByText := true, laidKinds := [.data, .data, .pinned], laidTests := true, laidLooks := .later }
def AssessDifferenceRawUptoCardSaid : Prop := Claim7.holds Tryz.pinned (.plain (OpenSpec.upto assessDifferenceRawSpec)) assessDifferenceRawUptoCard

/-- THE SECOND FORM's CARD OF 'customslaw15.OriginCheaper'. -/
def originCheaperUptoCard : Claim7 := { stood := { row := originCheaperUptoRow, standIns := [], harness := (true, "d271fc30cff10d59a72863d1eb68a3d84db99f08108d2c8632d41447e35cdff0"), looks := true }, kinds := [], alts := [], laidByText := true, laidKinds := [.data, .data, .pinned], laidTests := true, laidLooks := .later }
def OriginCheaperUptoCardSaid : Prop := Claim7.holds Tryz.pinned (.plain (OpenSpec.upto originCheaperSpec)) originCheaperUptoCard
end Rows
end Go.Proofs.YthbphcbhedmnoaaGreatDoor
