/-
  DERIVED. GIVEN WITH THE SEED: THE CARDS: each row of YtipjgkapcgpgbaaDoorRows.lean that lists a variable, with what it lists TIED to the program's text (the seventh form; the later family's looks); each row that meets fmt, with fmt's text TOLD by the authors' own Lean function (tested against real Go, not proved from fmt's source: count such statements apart). THE CARD IS WHAT COUNTS. Prove the row's statement (the work); the ties are given (YtipjgkapcgpgbaaDoorTie.lean); close each card by the builder's one call (the guide's Derived/Test/ToyasCard.lean, 'card_holds'). Laid BY PROGRAM, IN A SANDBOX (cutbox-door.mjs). By AI agents, Wed Nov 11 2026. No macro, syntax, notation, axiom, sorry.
-/
import Derived.Test.YtipjgkapcgpgbaaDoorRows
import GoSem.ClaimSeven
namespace Go.Proofs.YtipjgkapcgpgbaaDoor
namespace Rows

/-- THE TIED CARD OF 'customslaw13.PlanValidate'. -/
def planValidateCard : Claim7 := { stood := { row := planValidateRow, standIns := [], harness := (true, "bd0888e3d54737700e71017b2812dab827b3a3f36104f0d145c5211c566f5e81"), looks := false }, kinds := [], alts := [], laidByText := true, laidKinds := [.data, .data, .pinned], laidTests := true, laidLooks := .later }
def PlanValidateCardSaid : Prop := Claim7.holds Tryd.pinned (.plain (OpenSpec.ofChange planValidateSpec)) planValidateCard

/-- THE TIED CARD OF 'customslaw13.PlanChanged'. -/
def planChangedCard : Claim7 := { stood := { row := planChangedRow, standIns := [], harness := (true, "bd0888e3d54737700e71017b2812dab827b3a3f36104f0d145c5211c566f5e81"), looks := false }, kinds := [], alts := [], laidByText := true, laidKinds := [.data, .data, .pinned], laidTests := true, laidLooks := .later }
def PlanChangedCardSaid : Prop := Claim7.holds Tryd.pinned (.plain (OpenSpec.ofChange planChangedSpec)) planChangedCard

/-- THE TIED CARD OF 'customslaw13.PlanComponents'. -/
def planComponentsCard : Claim7 := { stood := { row := planComponentsRow, standIns := [], harness := (true, "bd0888e3d54737700e71017b2812dab827b3a3f36104f0d145c5211c566f5e81"), looks := false }, kinds := [], alts := [], laidByText := true, laidKinds := [.data, .data, .pinned], laidTests := true, laidLooks := .later }
def PlanComponentsCardSaid : Prop := Claim7.holds Tryd.pinned (.plain (OpenSpec.ofChange planComponentsSpec)) planComponentsCard

/-- THE TIED CARD OF 'customslaw13.PlanOrder'. -/
def planOrderCard : Claim7 := { stood := { row := planOrderRow, standIns := [], harness := (true, "bd0888e3d54737700e71017b2812dab827b3a3f36104f0d145c5211c566f5e81"), looks := false }, kinds := [], alts := [], laidByText := true, laidKinds := [.data, .data, .pinned], laidTests := true, laidLooks := .later }
def PlanOrderCardSaid : Prop := Claim7.holds Tryd.pinned (.plain (OpenSpec.ofChange planOrderSpec)) planOrderCard

/-- THE TIED CARD OF 'customslaw13.PlanReach'. -/
def planReachCard : Claim7 := { stood := { row := planReachRow, standIns := [], harness := (true, "bd0888e3d54737700e71017b2812dab827b3a3f36104f0d145c5211c566f5e81"), looks := false }, kinds := [], alts := [], laidByText := true, laidKinds := [.data, .data, .pinned], laidTests := true, laidLooks := .later }
def PlanReachCardSaid : Prop := Claim7.holds Tryd.pinned (.plain (OpenSpec.ofChange planReachSpec)) planReachCard

/-- THE TIED CARD OF 'customslaw13.PlanFind'. -/
def planFindCard : Claim7 := { stood := { row := planFindRow, standIns := [], harness := (true, "bd0888e3d54737700e71017b2812dab827b3a3f36104f0d145c5211c566f5e81"), looks := false }, kinds := [], alts := [], laidByText := true, laidKinds := [.data, .data, .pinned], laidTests := true, laidLooks := .later }
def PlanFindCardSaid : Prop := Claim7.holds Tryd.pinned (.plain (OpenSpec.ofChange planFindSpec)) planFindCard

/-- THE SECOND FORM's CARD OF 'customslaw13.PlanValidate'. -/
def planValidateUptoCard : Claim7 := { stood := { row := planValidateUptoRow, standIns := [], harness := (true, "bd0888e3d54737700e71017b2812dab827b3a3f36104f0d145c5211c566f5e81"), looks := false }, kinds := [], alts := [], laidByText := true, laidKinds := [.data, .data, .pinned], laidTests := true, laidLooks := .later }
def PlanValidateUptoCardSaid : Prop := Claim7.holds Tryd.pinned (.plain (OpenSpec.upto planValidateSpec)) planValidateUptoCard

/-- THE SECOND FORM's CARD OF 'customslaw13.PlanChanged'. -/
def planChangedUptoCard : Claim7 := { stood := { row := planChangedUptoRow, standIns := [], harness := (true, "bd0888e3d54737700e71017b2812dab827b3a3f36104f0d145c5211c566f5e81"), looks := false }, kinds := [], alts := [], laidByText := true, laidKinds := [.data, .data, .pinned], laidTests := true, laidLooks := .later }
def PlanChangedUptoCardSaid : Prop := Claim7.holds Tryd.pinned (.plain (OpenSpec.upto planChangedSpec)) planChangedUptoCard

/-- THE SECOND FORM's CARD OF 'customslaw13.PlanComponents'. -/
def planComponentsUptoCard : Claim7 := { stood := { row := planComponentsUptoRow, standIns := [], harness := (true, "bd0888e3d54737700e71017b2812dab827b3a3f36104f0d145c5211c566f5e81"), looks := false }, kinds := [], alts := [], laidByText := true, laidKinds := [.data, .data, .pinned], laidTests := true, laidLooks := .later }
def PlanComponentsUptoCardSaid : Prop := Claim7.holds Tryd.pinned (.plain (OpenSpec.upto planComponentsSpec)) planComponentsUptoCard

/-- THE SECOND FORM's CARD OF 'customslaw13.PlanOrder'. -/
def planOrderUptoCard : Claim7 := { stood := { row := planOrderUptoRow, standIns := [], harness := (true, "bd0888e3d54737700e71017b2812dab827b3a3f36104f0d145c5211c566f5e81"), looks := false }, kinds := [], alts := [], laidByText := true, laidKinds := [.data, .data, .pinned], laidTests := true, laidLooks := .later }
def PlanOrderUptoCardSaid : Prop := Claim7.holds Tryd.pinned (.plain (OpenSpec.upto planOrderSpec)) planOrderUptoCard

/-- THE SECOND FORM's CARD OF 'customslaw13.PlanReach'. -/
def planReachUptoCard : Claim7 := { stood := { row := planReachUptoRow, standIns := [], harness := (true, "bd0888e3d54737700e71017b2812dab827b3a3f36104f0d145c5211c566f5e81"), looks := false }, kinds := [], alts := [], laidByText := true, laidKinds := [.data, .data, .pinned], laidTests := true, laidLooks := .later }
def PlanReachUptoCardSaid : Prop := Claim7.holds Tryd.pinned (.plain (OpenSpec.upto planReachSpec)) planReachUptoCard

/-- THE SECOND FORM's CARD OF 'customslaw13.PlanFind'. -/
def planFindUptoCard : Claim7 := { stood := { row := planFindUptoRow, standIns := [], harness := (true, "bd0888e3d54737700e71017b2812dab827b3a3f36104f0d145c5211c566f5e81"), looks := false }, kinds := [], alts := [], laidByText := true, laidKinds := [.data, .data, .pinned], laidTests := true, laidLooks := .later }
def PlanFindUptoCardSaid : Prop := Claim7.holds Tryd.pinned (.plain (OpenSpec.upto planFindSpec)) planFindUptoCard
end Rows
end Go.Proofs.YtipjgkapcgpgbaaDoor
