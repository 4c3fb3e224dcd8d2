/-
  DERIVED. GIVEN WITH THE SEED: THE CARDS: each row of YtgmbmepakpcpaaaGreatDoorRows.lean that lists a variable, with what it lists TIED to the program's text (the seventh form; the later family's looks); each row that meets fmt, with fmt's text TOLD by the authors' own Lean function (tested against real Go, not proved from fmt's source: count such statements apart). THE CARD IS WHAT COUNTS. Prove the row's statement (the work); the ties are given (YtgmbmepakpcpaaaGreatDoorTie.lean); close each card by the builder's one call (the guide's Derived/Test/ToyasCard.lean, 'card_holds'). Laid BY PROGRAM, IN A SANDBOX (cutbox-door.mjs). By AI agents, Wed Nov 11 2026. No macro, syntax, notation, axiom, sorry.
-/
import Derived.Test.YtgmbmepakpcpaaaGreatDoorRows
import GoSem.ClaimSeven
namespace Go.Proofs.YtgmbmepakpcpaaaGreatDoor
namespace Rows

/-- THE TIED CARD OF 'customslaw14.CaseForm'. -/
def caseFormCard : Claim7 := { stood := { row := caseFormRow, standIns := [], harness := (true, "d6724934cde0ef4b5d01703053d4c3277341bc42a1cf7659bfec0d43871970fd"), looks := true }, kinds := [], alts := [], laidByText := true, laidKinds := [.data, .data, .pinned], laidTests := true, laidLooks := .later }
def CaseFormCardSaid : Prop := Claim7.holds Tryz.pinned (.plain (OpenSpec.ofChange caseFormSpec)) caseFormCard

/-- THE TIED CARD OF 'customslaw16.OriginCheckChanged'. -/
def originCheckChangedCard : Claim7 := { stood := { row := originCheckChangedRow, standIns := [], harness := (true, "d6724934cde0ef4b5d01703053d4c3277341bc42a1cf7659bfec0d43871970fd"), looks := true }, kinds := [], alts := [], laidByText := true, laidKinds := [.data, .data, .pinned], laidTests := true, laidLooks := .later }
def OriginCheckChangedCardSaid : Prop := Claim7.holds Tryz.pinned (.plain (OpenSpec.ofChange originCheckChangedSpec)) originCheckChangedCard

/-- THE TIED CARD OF 'customslaw16.OriginCheckErrors'. -/
def originCheckErrorsCard : Claim7 := { stood := { row := originCheckErrorsRow, standIns := [], harness := (true, "d6724934cde0ef4b5d01703053d4c3277341bc42a1cf7659bfec0d43871970fd"), looks := true }, kinds := [], alts := [], laidByText := true, laidKinds := [.data, .data, .pinned], laidTests := true, laidLooks := .later }
def OriginCheckErrorsCardSaid : Prop := Claim7.holds Tryz.pinned (.plain (OpenSpec.ofChange originCheckErrorsSpec)) originCheckErrorsCard

/-- THE TIED CARD OF 'customslaw15.OriginErrors'. -/
def originErrorsCard : Claim7 := { stood := { row := originErrorsRow, standIns := [], harness := (true, "d6724934cde0ef4b5d01703053d4c3277341bc42a1cf7659bfec0d43871970fd"), looks := true }, kinds := [], alts := [], laidByText := true, laidKinds := [.data, .data, .pinned], laidTests := true, laidLooks := .later }
def OriginErrorsCardSaid : Prop := Claim7.holds Tryz.pinned (.plain (OpenSpec.ofChange originErrorsSpec)) originErrorsCard

/-- THE TIED CARD OF 'customslaw16.OriginClaims'. -/
def originClaimsCard : Claim7 := { stood := { row := originClaimsRow, standIns := [], harness := (true, "d6724934cde0ef4b5d01703053d4c3277341bc42a1cf7659bfec0d43871970fd"), looks := true }, kinds := [], alts := [], laidByText := true, laidKinds := [.data, .data, .pinned], laidTests := true, laidLooks := .later }
def OriginClaimsCardSaid : Prop := Claim7.holds Tryz.pinned (.plain (OpenSpec.ofChange originClaimsSpec)) originClaimsCard

/-- THE TIED CARD OF 'customslaw15.OriginTrim'. -/
def originTrimCard : Claim7 := { stood := { row := originTrimRow, standIns := [], harness := (true, "d6724934cde0ef4b5d01703053d4c3277341bc42a1cf7659bfec0d43871970fd"), looks := true }, kinds := [], alts := [], laidByText := true, laidKinds := [.data, .data, .pinned], laidTests := true, laidLooks := .later }
def OriginTrimCardSaid : Prop := Claim7.holds Tryz.pinned (.plain (OpenSpec.ofChange originTrimSpec)) originTrimCard

/-- THE TIED CARD OF 'customslaw15.OriginTrimRaw'. -/
def originTrimRawCard : Claim7 := { stood := { row := originTrimRawRow, standIns := [], harness := (true, "d6724934cde0ef4b5d01703053d4c3277341bc42a1cf7659bfec0d43871970fd"), looks := true }, kinds := [], alts := [], laidByText := true, laidKinds := [.data, .data, .pinned], laidTests := true, laidLooks := .later }
def OriginTrimRawCardSaid : Prop := Claim7.holds Tryz.pinned (.plain (OpenSpec.ofChange originTrimRawSpec)) originTrimRawCard

/-- THE TIED CARD OF 'customslaw16.OriginCheckSound'. -/
def originCheckSoundCard : Claim7 := { stood := { row := originCheckSoundRow, standIns := [], harness := (true, "d6724934cde0ef4b5d01703053d4c3277341bc42a1cf7659bfec0d43871970fd"), looks := true }, kinds := [], alts := [], laidByText := true, laidKinds := [.data, .data, .pinned], laidTests := true, laidLooks := .later }
def OriginCheckSoundCardSaid : Prop := Claim7.holds Tryz.pinned (.plain (OpenSpec.ofChange originCheckSoundSpec)) originCheckSoundCard

/-- THE TIED CARD OF 'customslaw16.OriginCheckAccepts'. -/
def originCheckAcceptsCard : Claim7 := { stood := { row := originCheckAcceptsRow, standIns := [], harness := (true, "d6724934cde0ef4b5d01703053d4c3277341bc42a1cf7659bfec0d43871970fd"), looks := true }, kinds := [], alts := [], laidByText := true, laidKinds := [.data, .data, .pinned], laidTests := true, laidLooks := .later }
def OriginCheckAcceptsCardSaid : Prop := Claim7.holds Tryz.pinned (.plain (OpenSpec.ofChange originCheckAcceptsSpec)) originCheckAcceptsCard

/-- THE SECOND FORM's CARD OF 'customslaw14.CaseForm'. -/
def caseFormUptoCard : Claim7 := { stood := { row := caseFormUptoRow, standIns := [], harness := (true, "d6724934cde0ef4b5d01703053d4c3277341bc42a1cf7659bfec0d43871970fd"), looks := true }, kinds := [], alts := [], laidByText := true, laidKinds := [.data, .data, .pinned], laidTests := true, laidLooks := .later }
def CaseFormUptoCardSaid : Prop := Claim7.holds Tryz.pinned (.plain (OpenSpec.upto caseFormSpec)) caseFormUptoCard

/-- THE SECOND FORM's CARD OF 'customslaw16.OriginCheckChanged'. -/
def originCheckChangedUptoCard : Claim7 := { stood := { row := originCheckChangedUptoRow, standIns := [], harness := (true, "d6724934cde0ef4b5d01703053d4c3277341bc42a1cf7659bfec0d43871970fd"), looks := true }, kinds := [], alts := [], laidByText := true, laidKinds := [.data, .data, .pinned], laidTests := true, laidLooks := .later }
def OriginCheckChangedUptoCardSaid : Prop := Claim7.holds Tryz.pinned (.plain (OpenSpec.upto originCheckChangedSpec)) originCheckChangedUptoCard

/-- THE SECOND FORM's CARD OF 'customslaw16.OriginCheckErrors'. -/
def originCheckErrorsUptoCard : Claim7 := { stood := { row := originCheckErrorsUptoRow, standIns := [], harness := (true, "d6724934cde0ef4b5d01703053d4c3277341bc42a1cf7659bfec0d43871970fd"), looks := true }, kinds := [], alts := [], laidByText := true, laidKinds := [.data, .data, .pinned], laidTests := true, laidLooks := .later }
def OriginCheckErrorsUptoCardSaid : Prop := Claim7.holds Tryz.pinned (.plain (OpenSpec.upto originCheckErrorsSpec)) originCheckErrorsUptoCard

/-- THE SECOND FORM's CARD OF 'customslaw15.OriginErrors'. -/
def originErrorsUptoCard : Claim7 := { stood := { row := originErrorsUptoRow, standIns := [], harness := (true, "d6724934cde0ef4b5d01703053d4c3277341bc42a1cf7659bfec0d43871970fd"), looks := true }, kinds := [], alts := [], laidByText := true, laidKinds := [.data, .data, .pinned], laidTests := true, laidLooks := .later }
def OriginErrorsUptoCardSaid : Prop := Claim7.holds Tryz.pinned (.plain (OpenSpec.upto originErrorsSpec)) originErrorsUptoCard

/-- THE SECOND FORM's CARD OF 'customslaw16.OriginClaims'. -/
def originClaimsUptoCard : Claim7 := { stood := { row := originClaimsUptoRow, standIns := [], harness := (true, "d6724934cde0ef4b5d01703053d4c3277341bc42a1cf7659bfec0d43871970fd"), looks := true }, kinds := [], alts := [], laidByText := true, laidKinds := [.data, .data, .pinned], laidTests := true, laidLooks := .later }
def OriginClaimsUptoCardSaid : Prop := Claim7.holds Tryz.pinned (.plain (OpenSpec.upto originClaimsSpec)) originClaimsUptoCard

/-- THE SECOND FORM's CARD OF 'customslaw15.OriginTrim'. -/
def originTrimUptoCard : Claim7 := { stood := { row := originTrimUptoRow, standIns := [], harness := (true, "d6724934cde0ef4b5d01703053d4c3277341bc42a1cf7659bfec0d43871970fd"), looks := true }, kinds := [], alts := [], laidByText := true, laidKinds := [.data, .data, .pinned], laidTests := true, laidLooks := .later }
def OriginTrimUptoCardSaid : Prop := Claim7.holds Tryz.pinned (.plain (OpenSpec.upto originTrimSpec)) originTrimUptoCard

/-- THE SECOND FORM's CARD OF 'customslaw15.OriginTrimRaw'. -/
def originTrimRawUptoCard : Claim7 := { stood := { row := originTrimRawUptoRow, standIns := [], harness := (true, "d6724934cde0ef4b5d01703053d4c3277341bc42a1cf7659bfec0d43871970fd"), looks := true }, kinds := [], alts := [], laidByText := true, laidKinds := [.data, .data, .pinned], laidTests := true, laidLooks := .later }
def OriginTrimRawUptoCardSaid : Prop := Claim7.holds Tryz.pinned (.plain (OpenSpec.upto originTrimRawSpec)) originTrimRawUptoCard

/-- THE SECOND FORM's CARD OF 'customslaw16.OriginCheckSound'. -/
def originCheckSoundUptoCard : Claim7 := { stood := { row := originCheckSoundUptoRow, standIns := [], harness := (true, "d6724934cde0ef4b5d01703053d4c3277341bc42a1cf7659bfec0d43871970fd"), looks := true }, kinds := [], alts := [], laidByText := true, laidKinds := [.data, .data, .pinned], laidTests := true, laidLooks := .later }
def OriginCheckSoundUptoCardSaid : Prop := Claim7.holds Tryz.pinned (.plain (OpenSpec.upto originCheckSoundSpec)) originCheckSoundUptoCard

/-- THE SECOND FORM's CARD OF 'customslaw16.OriginCheckAccepts'. -/
def originCheckAcceptsUptoCard : Claim7 := { stood := { row := originCheckAcceptsUptoRow, standIns := [], harness := (true, "d6724934cde0ef4b5d01703053d4c3277341bc42a1cf7659bfec0d43871970fd"), looks := true }, kinds := [], alts := [], laidByText := true, laidKinds := [.data, .data, .pinned], laidTests := true, laidLooks := .later }
def OriginCheckAcceptsUptoCardSaid : Prop := Claim7.holds Tryz.pinned (.plain (OpenSpec.upto originCheckAcceptsSpec)) originCheckAcceptsUptoCard
end Rows
end Go.Proofs.YtgmbmepakpcpaaaGreatDoor
