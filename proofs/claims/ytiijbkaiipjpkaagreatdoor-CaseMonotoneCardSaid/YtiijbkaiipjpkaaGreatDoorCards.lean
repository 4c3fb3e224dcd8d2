/-
  DERIVED. GIVEN WITH THE SEED: THE CARDS: each row of YtiijbkaiipjpkaaGreatDoorRows.lean that lists a variable, with what it lists TIED to the program's text (the seventh form; the later family's looks); each row that meets fmt, with fmt's text TOLD by the authors' own Lean function (tested against real Go, not proved from fmt's source: count such statements apart). THE CARD IS WHAT COUNTS. Prove the row's statement (the work); the ties are given (YtiijbkaiipjpkaaGreatDoorTie.lean); close each card by the builder's one call (the guide's Derived/Test/ToyasCard.lean, 'card_holds'). Laid BY PROGRAM, IN A SANDBOX (cutbox-door.mjs). By AI agents, Wed Nov 11 2026. No macro, syntax, notation, axiom, sorry.
-/
import Derived.Test.YtiijbkaiipjpkaaGreatDoorRows
import GoSem.ClaimSeven
namespace Go.Proofs.YtiijbkaiipjpkaaGreatDoor
namespace Rows

/-- THE TIED CARD OF 'customslaw14.AgreementValidate'. -/
def agreementValidateCard : Claim7 := { stood := { row := agreementValidateRow, standIns := [], harness := (true, "daaef14461230708ffb83573f1fcc36e0026bff35fd16ab9288311ad3f1de33f"), looks := true }, kinds := [], alts := [], laidByText := true, laidKinds := [.data, .data, .pinned], laidTests := true, laidLooks := .later }
def AgreementValidateCardSaid : Prop := Claim7.holds Tryz.pinned (.plain (OpenSpec.ofChange agreementValidateSpec)) agreementValidateCard

/-- THE TIED CARD OF 'customslaw14.AgreementChanged'. -/
def agreementChangedCard : Claim7 := { stood := { row := agreementChangedRow, standIns := [], harness := (true, "daaef14461230708ffb83573f1fcc36e0026bff35fd16ab9288311ad3f1de33f"), looks := true }, kinds := [], alts := [], laidByText := true, laidKinds := [.data, .data, .pinned], laidTests := true, laidLooks := .later }
def AgreementChangedCardSaid : Prop := Claim7.holds Tryz.pinned (.plain (OpenSpec.ofChange agreementChangedSpec)) agreementChangedCard

/-- THE TIED CARD OF 'customslaw14.AgreementRuleOf'. -/
def agreementRuleOfCard : Claim7 := { stood := { row := agreementRuleOfRow, standIns := [], harness := (true, "daaef14461230708ffb83573f1fcc36e0026bff35fd16ab9288311ad3f1de33f"), looks := true }, kinds := [], alts := [], laidByText := true, laidKinds := [.data, .data, .pinned], laidTests := true, laidLooks := .later }
def AgreementRuleOfCardSaid : Prop := Claim7.holds Tryz.pinned (.plain (OpenSpec.ofChange agreementRuleOfSpec)) agreementRuleOfCard

/-- THE TIED CARD OF 'customslaw14.AgreementPartners'. -/
def agreementPartnersCard : Claim7 := { stood := { row := agreementPartnersRow, standIns := [], harness := (true, "daaef14461230708ffb83573f1fcc36e0026bff35fd16ab9288311ad3f1de33f"), looks := true }, kinds := [], alts := [], laidByText := true, laidKinds := [.data, .data, .pinned], laidTests := true, laidLooks := .later }
def AgreementPartnersCardSaid : Prop := Claim7.holds Tryz.pinned (.plain (OpenSpec.ofChange agreementPartnersSpec)) agreementPartnersCard

/-- THE TIED CARD OF 'customslaw14.CasePremises'. -/
def casePremisesCard : Claim7 := { stood := { row := casePremisesRow, standIns := [], harness := (true, "daaef14461230708ffb83573f1fcc36e0026bff35fd16ab9288311ad3f1de33f"), looks := true }, kinds := [], alts := [], laidByText := true, laidKinds := [.data, .data, .pinned], laidTests := true, laidLooks := .later }
def CasePremisesCardSaid : Prop := Claim7.holds Tryz.pinned (.plain (OpenSpec.ofChange casePremisesSpec)) casePremisesCard

/-- THE TIED CARD OF 'customslaw14.CaseForm'. -/
def caseFormCard : Claim7 := { stood := { row := caseFormRow, standIns := [], harness := (true, "daaef14461230708ffb83573f1fcc36e0026bff35fd16ab9288311ad3f1de33f"), looks := true }, kinds := [], alts := [], laidByText := true, laidKinds := [.data, .data, .pinned], laidTests := true, laidLooks := .later }
def CaseFormCardSaid : Prop := Claim7.holds Tryz.pinned (.plain (OpenSpec.ofChange caseFormSpec)) caseFormCard

/-- THE TIED CARD OF 'customslaw14.CaseMonotone'. -/
def caseMonotoneCard : Claim7 := { stood := { row := caseMonotoneRow, standIns := [], harness := (true, "daaef14461230708ffb83573f1fcc36e0026bff35fd16ab9288311ad3f1de33f"), looks := true }, kinds := [], alts := [], laidByText := true, laidKinds := [.data, .data, .pinned], laidTests := true, laidLooks := .later }
def CaseMonotoneCardSaid : Prop := Claim7.holds Tryz.pinned (.plain (OpenSpec.ofChange caseMonotoneSpec)) caseMonotoneCard

/-- THE SECOND FORM's CARD OF 'customslaw14.AgreementValidate'. -/
def agreementValidateUptoCard : Claim7 := { stood := { row := agreementValidateUptoRow, standIns := [], harness := (true, "daaef14461230708ffb83573f1fcc36e0026bff35fd16ab9288311ad3f1de33f"), looks := true }, kinds := [], alts := [], laidByText := true, laidKinds := [.data, .data, .pinned], laidTests := true, laidLooks := .later }
def AgreementValidateUptoCardSaid : Prop := Claim7.holds Tryz.pinned (.plain (OpenSpec.upto agreementValidateSpec)) agreementValidateUptoCard

/-- THE SECOND FORM's CARD OF 'customslaw14.AgreementChanged'. -/
def agreementChangedUptoCard : Claim7 := { stood := { row := agreementChangedUptoRow, standIns := [], harness := (true, "daaef14461230708ffb83573f1fcc36e0026bff35fd16ab9288311ad3f1de33f"), looks := true }, kinds := [], alts := [], laidByText := true, laidKinds := [.data, .data, .pinned], laidTests := true, laidLooks := .later }
def AgreementChangedUptoCardSaid : Prop := Claim7.holds Tryz.pinned (.plain (OpenSpec.upto agreementChangedSpec)) agreementChangedUptoCard

/-- THE SECOND FORM's CARD OF 'customslaw14.AgreementRuleOf'. -/
def agreementRuleOfUptoCard : Claim7 := { stood := { row := agreementRuleOfUptoRow, standIns := [], harness := (true, "daaef14461230708ffb83573f1fcc36e0026bff35fd16ab9288311ad3f1de33f"), looks := true }, kinds := [], alts := [], laidByText := true, laidKinds := [.data, .data, .pinned], laidTests := true, laidLooks := .later }
def AgreementRuleOfUptoCardSaid : Prop := Claim7.holds Tryz.pinned (.plain (OpenSpec.upto agreementRuleOfSpec)) agreementRuleOfUptoCard

/-- THE SECOND FORM's CARD OF 'customslaw14.AgreementPartners'. -/
def agreementPartnersUptoCard : Claim7 := { stood := { row := agreementPartnersUptoRow, standIns := [], harness := (true, "daaef14461230708ffb83573f1fcc36e0026bff35fd16ab9288311ad3f1de33f"), looks := true }, kinds := [], alts := [], laidByText := true, laidKinds := [.data, .data, .pinned], laidTests := true, laidLooks := .later }
def AgreementPartnersUptoCardSaid : Prop := Claim7.holds Tryz.pinned (.plain (OpenSpec.upto agreementPartnersSpec)) agreementPartnersUptoCard

/-- THE SECOND FORM's CARD OF 'customslaw14.CasePremises'. -/
def casePremisesUptoCard : Claim7 := { stood := { row := casePremisesUptoRow, standIns := [], harness := (true, "daaef14461230708ffb83573f1fcc36e0026bff35fd16ab9288311ad3f1de33f"), looks := true }, kinds := [], alts := [], laidByText := true, laidKinds := [.data, .data, .pinned], laidTests := true, laidLooks := .later }
def CasePremisesUptoCardSaid : Prop := Claim7.holds Tryz.pinned (.plain (OpenSpec.upto casePremisesSpec)) casePremisesUptoCard

/-- THE SECOND FORM's CARD OF 'customslaw14.CaseForm'. -/
def caseFormUptoCard : Claim7 := { stood := { row := caseFormUptoRow, standIns := [], harness := (true, "daaef14461230708ffb83573f1fcc36e0026bff35fd16ab9288311ad3f1de33f"), looks := true }, kinds := [], alts := [], laidByText := true, laidKinds := [.data, .data, .pinned], laidTests := true, laidLooks := .later }
def CaseFormUptoCardSaid : Prop := Claim7.holds Tryz.pinned (.plain (OpenSpec.upto caseFormSpec)) caseFormUptoCard

/-- THE SECOND FORM's CARD OF 'customslaw14.CaseMonotone'. -/
def caseMonotoneUptoCard : Claim7 := { stood := { row := caseMonotoneUptoRow, standIns := [], harness := (true, "daaef14461230708ffb83573f1fcc36e0026bff35fd16ab9288311ad3f1de33f"), looks := true }, kinds := [], alts := [], laidByText := true, laidKinds := [.data, .data, .pinned], laidTests := true, laidLooks := .later }
def CaseMonotoneUptoCardSaid : Prop := Claim7.holds Tryz.pinned (.plain (OpenSpec.upto caseMonotoneSpec)) caseMonotoneUptoCard
end Rows
end Go.Proofs.YtiijbkaiipjpkaaGreatDoor
