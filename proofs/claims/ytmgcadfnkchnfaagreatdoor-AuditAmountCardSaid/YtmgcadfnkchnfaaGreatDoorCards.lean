/-
  DERIVED. GIVEN WITH THE SEED: THE CARDS: each row of YtmgcadfnkchnfaaGreatDoorRows.lean that lists a variable, with what it lists TIED to the program's text (the seventh form; the later family's looks); each row that meets fmt, with fmt's text TOLD by the authors' own Lean function (tested against real Go, not proved from fmt's source: count such statements apart). THE CARD IS WHAT COUNTS. Prove the row's statement (the work); the ties are given (YtmgcadfnkchnfaaGreatDoorTie.lean); close each card by the builder's one call (the guide's Derived/Test/ToyasCard.lean, 'card_holds'). Laid BY PROGRAM, IN A SANDBOX (cutbox-door.mjs). By AI agents, Wed Nov 11 2026. No macro, syntax, notation, axiom, sorry.
-/
import Derived.Test.YtmgcadfnkchnfaaGreatDoorRows
import GoSem.ClaimSeven
namespace Go.Proofs.YtmgcadfnkchnfaaGreatDoor
namespace Rows

/-- THE TIED CARD OF 'customslaw20.AssessDifference'. -/
def assessDifferenceCard : Claim7 := { stood := { row := assessDifferenceRow, standIns := [], harness := (true, "f586959ce26c228125db42cac42af596566d96cc425196c22970e7dfd25031d9"), looks := false }, kinds := [], alts := [], laidByText := true, laidKinds := [.data, .data, .pinned], laidTests := true, laidLooks := .later }
def AssessDifferenceCardSaid : Prop := Claim7.holds Tryz.pinned (.plain (OpenSpec.ofChange assessDifferenceSpec)) assessDifferenceCard

/-- THE TIED CARD OF 'customslaw20.AssessDifferenceRaw'. -/
def assessDifferenceRawCard : Claim7 := { stood := { row := assessDifferenceRawRow, standIns := [], harness := (true, "f586959ce26c228125db42cac42af596566d96cc425196c22970e7dfd25031d9"), looks := false }, kinds := [], alts := [], laidByText := true, laidKinds := [.data, .data, .pinned], laidTests := true, laidLooks := .later }
def AssessDifferenceRawCardSaid : Prop := Claim7.holds Tryz.pinned (.plain (OpenSpec.ofChange assessDifferenceRawSpec)) assessDifferenceRawCard

/-- THE TIED CARD OF 'customslaw31.AuditItem'. -/
def auditItemCard : Claim7 := { stood := { row := auditItemRow, standIns := [], harness := (true, "f586959ce26c228125db42cac42af596566d96cc425196c22970e7dfd25031d9"), looks := false }, kinds := [], alts := [], laidByText := true, laidKinds := [.data, .data, .data, .pinned], laidTests := true, laidLooks := .later }
def AuditItemCardSaid : Prop := Claim7.holds Tryz.pinned (.plain (OpenSpec.ofChange auditItemSpec)) auditItemCard

/-- THE TIED CARD OF 'customslaw31.AuditAmount'. -/
def auditAmountCard : Claim7 := { stood := { row := auditAmountRow, standIns := [], harness := (true, "f586959ce26c228125db42cac42af596566d96cc425196c22970e7dfd25031d9"), looks := false }, kinds := [], alts := [], laidByText := true, laidKinds := [.data, .data, .data, .pinned], laidTests := true, laidLooks := .later }
def AuditAmountCardSaid : Prop := Claim7.holds Tryz.pinned (.plain (OpenSpec.ofChange auditAmountSpec)) auditAmountCard

/-- THE SECOND FORM's CARD OF 'customslaw20.AssessDifference'. -/
def assessDifferenceUptoCard : Claim7 := { stood := { row := assessDifferenceUptoRow, standIns := [], harness := (true, "f586959ce26c228125db42cac42af596566d96cc425196c22970e7dfd25031d9"), looks := false }, kinds := [], alts := [], laidByText := true, laidKinds := [.data, .data, .pinned], laidTests := true, laidLooks := .later }
def AssessDifferenceUptoCardSaid : Prop := Claim7.holds Tryz.pinned (.plain (OpenSpec.upto assessDifferenceSpec)) assessDifferenceUptoCard

/-- THE SECOND FORM's CARD OF 'customslaw20.AssessDifferenceRaw'. -/
def assessDifferenceRawUptoCard : Claim7 := { stood := { row := assessDifferenceRawUptoRow, standIns := [], harness := (true, "f586959ce26c228125db42cac42af596566d96cc425196c22970e7dfd25031d9"), looks := false }, kinds := [], alts := [], laidByText := true, laidKinds := [.data, .data, .pinned], laidTests := true, laidLooks := .later }
def AssessDifferenceRawUptoCardSaid : Prop := Claim7.holds Tryz.pinned (.plain (OpenSpec.upto assessDifferenceRawSpec)) assessDifferenceRawUptoCard

/-- THE SECOND FORM's CARD OF 'customslaw31.AuditItem'. -/
def auditItemUptoCard : Claim7 := { stood := { row := auditItemUptoRow, standIns := [], harness := (true, "f586959ce26c228125db42cac42af596566d96cc425196c22970e7dfd25031d9"), looks := false }, kinds := [], alts := [], laidByText := true, laidKinds := [.data, .data, .data, .pinned], laidTests := true, laidLooks := .later }
def AuditItemUptoCardSaid : Prop := Claim7.holds Tryz.pinned (.plain (OpenSpec.upto auditItemSpec)) auditItemUptoCard

/-- THE SECOND FORM's CARD OF 'customslaw31.AuditAmount'. -/
def auditAmountUptoCard : Claim7 := { stood := { row := auditAmountUptoRow, standIns := [], harness := (true, "f586959ce26c228125db42cac42af596566d96cc425196c22970e7dfd25031d9"), looks := false }, kinds := [], alts := [], laidByText := true, laidKinds := [.data, .data, .data, .pinned], laidTests := true, laidLooks := .later }
def AuditAmountUptoCardSaid : Prop := Claim7.holds Tryz.pinned (.plain (OpenSpec.upto auditAmountSpec)) auditAmountUptoCard
end Rows
end Go.Proofs.YtmgcadfnkchnfaaGreatDoor
