/-
  DERIVED. GIVEN WITH THE SEED: THE CARDS: each row of YtfcecieppoljlaaGreatDoorRows.lean that lists a variable, with what it lists TIED to the program's text (the seventh form; the later family's looks); each row that meets fmt, with fmt's text TOLD by the authors' own Lean function (tested against real Go, not proved from fmt's source: count such statements apart). THE CARD IS WHAT COUNTS. Prove the row's statement (the work); the ties are given (YtfcecieppoljlaaGreatDoorTie.lean); close each card by the builder's one call (the guide's Derived/Test/ToyasCard.lean, 'card_holds'). Laid BY PROGRAM, IN A SANDBOX (cutbox-door.mjs). By AI agents, Wed Nov 11 2026. No macro, syntax, notation, axiom, sorry.
-/
import Derived.Test.YtfcecieppoljlaaGreatDoorRows
import GoSem.ClaimSeven
namespace Go.Proofs.YtfcecieppoljlaaGreatDoor
namespace Rows

/-- THE TIED CARD OF 'customslaw20.ItemValidate'. -/
def itemValidateCard : Claim7 := { stood := { row := itemValidateRow, standIns := [], harness := (true, "c44fdb8b3d3db5b11b14cf1358bdd2c8cf9d007e81e3e7ea20beffe313180608"), looks := false }, kinds := [], alts := [], laidByText := true, laidKinds := [.data, .data, .pinned], laidTests := true, laidLooks := .later }
def ItemValidateCardSaid : Prop := Claim7.holds Tryz.pinned (.plain (OpenSpec.ofChange itemValidateSpec)) itemValidateCard

/-- THE TIED CARD OF 'customslaw20.AssessDebt'. -/
def assessDebtCard : Claim7 := { stood := { row := assessDebtRow, standIns := [], harness := (true, "c44fdb8b3d3db5b11b14cf1358bdd2c8cf9d007e81e3e7ea20beffe313180608"), looks := false }, kinds := [], alts := [], laidByText := true, laidKinds := [.data, .data, .pinned], laidTests := true, laidLooks := .later }
def AssessDebtCardSaid : Prop := Claim7.holds Tryz.pinned (.plain (OpenSpec.ofChange assessDebtSpec)) assessDebtCard

/-- THE TIED CARD OF 'customslaw20.AssessErrors'. -/
def assessErrorsCard : Claim7 := { stood := { row := assessErrorsRow, standIns := [], harness := (true, "c44fdb8b3d3db5b11b14cf1358bdd2c8cf9d007e81e3e7ea20beffe313180608"), looks := false }, kinds := [], alts := [], laidByText := true, laidKinds := [.data, .data, .pinned], laidTests := true, laidLooks := .later }
def AssessErrorsCardSaid : Prop := Claim7.holds Tryz.pinned (.plain (OpenSpec.ofChange assessErrorsSpec)) assessErrorsCard

/-- THE TIED CARD OF 'customslaw20.AssessParts'. -/
def assessPartsCard : Claim7 := { stood := { row := assessPartsRow, standIns := [], harness := (true, "c44fdb8b3d3db5b11b14cf1358bdd2c8cf9d007e81e3e7ea20beffe313180608"), looks := false }, kinds := [], alts := [], laidByText := true, laidKinds := [.data, .data, .pinned], laidTests := true, laidLooks := .later }
def AssessPartsCardSaid : Prop := Claim7.holds Tryz.pinned (.plain (OpenSpec.ofChange assessPartsSpec)) assessPartsCard

/-- THE TIED CARD OF 'customslaw20.AssessRelief'. -/
def assessReliefCard : Claim7 := { stood := { row := assessReliefRow, standIns := [], harness := (true, "c44fdb8b3d3db5b11b14cf1358bdd2c8cf9d007e81e3e7ea20beffe313180608"), looks := false }, kinds := [], alts := [], laidByText := true, laidKinds := [.data, .data, .pinned], laidTests := true, laidLooks := .later }
def AssessReliefCardSaid : Prop := Claim7.holds Tryz.pinned (.plain (OpenSpec.ofChange assessReliefSpec)) assessReliefCard

/-- THE TIED CARD OF 'customslaw20.AssessCheck'. -/
def assessCheckCard : Claim7 := { stood := { row := assessCheckRow, standIns := [], harness := (true, "c44fdb8b3d3db5b11b14cf1358bdd2c8cf9d007e81e3e7ea20beffe313180608"), looks := false }, kinds := [], alts := [], laidByText := true, laidKinds := [.data, .data, .pinned], laidTests := true, laidLooks := .later }
def AssessCheckCardSaid : Prop := Claim7.holds Tryz.pinned (.plain (OpenSpec.ofChange assessCheckSpec)) assessCheckCard

/-- THE TIED CARD OF 'customslaw20.AssessDifference'. -/
def assessDifferenceCard : Claim7 := { stood := { row := assessDifferenceRow, standIns := [], harness := (true, "c44fdb8b3d3db5b11b14cf1358bdd2c8cf9d007e81e3e7ea20beffe313180608"), looks := false }, kinds := [], alts := [], laidByText := true, laidKinds := [.data, .data, .pinned], laidTests := true, laidLooks := .later }
def AssessDifferenceCardSaid : Prop := Claim7.holds Tryz.pinned (.plain (OpenSpec.ofChange assessDifferenceSpec)) assessDifferenceCard

/-- THE TIED CARD OF 'customslaw20.AssessDifferenceRaw'. -/
def assessDifferenceRawCard : Claim7 := { stood := { row := assessDifferenceRawRow, standIns := [], harness := (true, "c44fdb8b3d3db5b11b14cf1358bdd2c8cf9d007e81e3e7ea20beffe313180608"), looks := false }, kinds := [], alts := [], laidByText := true, laidKinds := [.data, .data, .pinned], laidTests := true, laidLooks := .later }
def AssessDifferenceRawCardSaid : Prop := Claim7.holds Tryz.pinned (.plain (OpenSpec.ofChange assessDifferenceRawSpec)) assessDifferenceRawCard

/-- THE SECOND FORM's CARD OF 'customslaw20.ItemValidate'. -/
def itemValidateUptoCard : Claim7 := { stood := { row := itemValidateUptoRow, standIns := [], harness := (true, "c44fdb8b3d3db5b11b14cf1358bdd2c8cf9d007e81e3e7ea20beffe313180608"), looks := false }, kinds := [], alts := [], laidByText := true, laidKinds := [.data, .data, .pinned], laidTests := true, laidLooks := .later }
def ItemValidateUptoCardSaid : Prop := Claim7.holds Tryz.pinned (.plain (OpenSpec.upto itemValidateSpec)) itemValidateUptoCard

/-- THE SECOND FORM's CARD OF 'customslaw20.AssessDebt'. -/
def assessDebtUptoCard : Claim7 := { stood := { row := assessDebtUptoRow, standIns := [], harness := (true, "c44fdb8b3d3db5b11b14cf1358bdd2c8cf9d007e81e3e7ea20beffe313180608"), looks := false }, kinds := [], alts := [], laidByText := true, laidKinds := [.data, .data, .pinned], laidTests := true, laidLooks := .later }
def AssessDebtUptoCardSaid : Prop := Claim7.holds Tryz.pinned (.plain (OpenSpec.upto assessDebtSpec)) assessDebtUptoCard

/-- THE SECOND FORM's CARD OF 'customslaw20.AssessErrors'. -/
def assessErrorsUptoCard : Claim7 := { stood := { row := assessErrorsUptoRow, standIns := [], harness := (true, "c44fdb8b3d3db5b11b14cf1358bdd2c8cf9d007e81e3e7ea20beffe313180608"), looks := false }, kinds := [], alts := [], laidByText := true, laidKinds := [.data, .data, .pinned], laidTests := true, laidLooks := .later }
def AssessErrorsUptoCardSaid : Prop := Claim7.holds Tryz.pinned (.plain (OpenSpec.upto assessErrorsSpec)) assessErrorsUptoCard

/-- THE SECOND FORM's CARD OF 'customslaw20.AssessParts'. -/
def assessPartsUptoCard : Claim7 := { stood := { row := assessPartsUptoRow, standIns := [], harness := (true, "c44fdb8b3d3db5b11b14cf1358bdd2c8cf9d007e81e3e7ea20beffe313180608"), looks := false }, kinds := [], alts := [], laidByText := true, laidKinds := [.data, .data, .pinned], laidTests := true, laidLooks := .later }
def AssessPartsUptoCardSaid : Prop := Claim7.holds Tryz.pinned (.plain (OpenSpec.upto assessPartsSpec)) assessPartsUptoCard

/-- THE SECOND FORM's CARD OF 'customslaw20.AssessRelief'. -/
def assessReliefUptoCard : Claim7 := { stood := { row := assessReliefUptoRow, standIns := [], harness := (true, "c44fdb8b3d3db5b11b14cf1358bdd2c8cf9d007e81e3e7ea20beffe313180608"), looks := false }, kinds := [], alts := [], laidByText := true, laidKinds := [.data, .data, .pinned], laidTests := true, laidLooks := .later }
def AssessReliefUptoCardSaid : Prop := Claim7.holds Tryz.pinned (.plain (OpenSpec.upto assessReliefSpec)) assessReliefUptoCard

/-- THE SECOND FORM's CARD OF 'customslaw20.AssessCheck'. -/
def assessCheckUptoCard : Claim7 := { stood := { row := assessCheckUptoRow, standIns := [], harness := (true, "c44fdb8b3d3db5b11b14cf1358bdd2c8cf9d007e81e3e7ea20beffe313180608"), looks := false }, kinds := [], alts := [], laidByText := true, laidKinds := [.data, .data, .pinned], laidTests := true, laidLooks := .later }
def AssessCheckUptoCardSaid : Prop := Claim7.holds Tryz.pinned (.plain (OpenSpec.upto assessCheckSpec)) assessCheckUptoCard

/-- THE SECOND FORM's CARD OF 'customslaw20.AssessDifference'. -/
def assessDifferenceUptoCard : Claim7 := { stood := { row := assessDifferenceUptoRow, standIns := [], harness := (true, "c44fdb8b3d3db5b11b14cf1358bdd2c8cf9d007e81e3e7ea20beffe313180608"), looks := false }, kinds := [], alts := [], laidByText := true, laidKinds := [.data, .data, .pinned], laidTests := true, laidLooks := .later }
def AssessDifferenceUptoCardSaid : Prop := Claim7.holds Tryz.pinned (.plain (OpenSpec.upto assessDifferenceSpec)) assessDifferenceUptoCard

/-- THE SECOND FORM's CARD OF 'customslaw20.AssessDifferenceRaw'. -/
def assessDifferenceRawUptoCard : Claim7 := { stood := { row := assessDifferenceRawUptoRow, standIns := [], harness := (true, "c44fdb8b3d3db5b11b14cf1358bdd2c8cf9d007e81e3e7ea20beffe313180608"), looks := false }, kinds := [], alts := [], laidByText := true, laidKinds := [.data, .data, .pinned], laidTests := true, laidLooks := .later }
def AssessDifferenceRawUptoCardSaid : Prop := Claim7.holds Tryz.pinned (.plain (OpenSpec.upto assessDifferenceRawSpec)) assessDifferenceRawUptoCard
end Rows
end Go.Proofs.YtfcecieppoljlaaGreatDoor
