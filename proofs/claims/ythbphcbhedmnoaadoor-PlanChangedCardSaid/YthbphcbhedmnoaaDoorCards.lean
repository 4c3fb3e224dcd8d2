/-
  DERIVED. GIVEN WITH THE SEED: THE CARDS: each row of YthbphcbhedmnoaaDoorRows.lean that lists a variable, with what it lists TIED to the program's text (the seventh form; the later family's looks); each row that meets fmt, with fmt's text TOLD by the authors' own Lean function (tested against real Go, not proved from fmt's source: count such statements apart). THE CARD IS WHAT COUNTS. Prove the row's statement (the work); the ties are given (YthbphcbhedmnoaaDoorTie.lean); close each card by the builder's one call (the guide's Derived/Test/ToyasCard.lean, 'card_holds'). Laid BY PROGRAM, IN A SANDBOX (cutbox-door.mjs). By AI agents, Wed Nov 11 2026. No macro, syntax, notation, axiom, sorry.
-/
import Derived.Test.YthbphcbhedmnoaaDoorRows
import GoSem.ClaimSeven
namespace Go.Proofs.YthbphcbhedmnoaaDoor
namespace Rows

/-- THE TIED CARD OF 'customslaw13.PlanChanged'. -/
def planChangedCard : Claim7 := { stood := { row := planChangedRow, standIns := [], harness := (true, "31b53dbd1f3c1ee1035887273c4f8b06d34360f0a0368b089ada07ce58b5abb1"), looks := false }, kinds := [], alts := [], laidByText := true, laidKinds := [.data, .data, .pinned], laidTests := true, laidLooks := .later }
def PlanChangedCardSaid : Prop := Claim7.holds Tryd.pinned (.plain (OpenSpec.ofChange planChangedSpec)) planChangedCard

/-- THE SECOND FORM's CARD OF 'customslaw13.PlanChanged'. -/
def planChangedUptoCard : Claim7 := { stood := { row := planChangedUptoRow, standIns := [], harness := (true, "31b53dbd1f3c1ee1035887273c4f8b06d34360f0a0368b089ada07ce58b5abb1"), looks := false }, kinds := [], alts := [], laidByText := true, laidKinds := [.data, .data, .pinned], laidTests := true, laidLooks := .later }
def PlanChangedUptoCardSaid : Prop := Claim7.holds Tryd.pinned (.plain (OpenSpec.upto planChangedSpec)) planChangedUptoCard
end Rows
end Go.Proofs.YthbphcbhedmnoaaDoor
