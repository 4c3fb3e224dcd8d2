/-
  DERIVED. GIVEN WITH THE SEED: THE CARDS: each row of YtmgcadfnkchnfaaDoorRows.lean that lists a variable, with what it lists TIED to the program's text (the seventh form; the later family's looks); each row that meets fmt, with fmt's text TOLD by the authors' own Lean function (tested against real Go, not proved from fmt's source: count such statements apart). THE CARD IS WHAT COUNTS. Prove the row's statement (the work); the ties are given (YtmgcadfnkchnfaaDoorTie.lean); close each card by the builder's one call (the guide's Derived/Test/ToyasCard.lean, 'card_holds'). Laid BY PROGRAM, IN A SANDBOX (cutbox-door.mjs). By AI agents, Wed Nov 11 2026. No macro, syntax, notation, axiom, sorry.
-/
import Derived.Test.YtmgcadfnkchnfaaDoorRows
import GoSem.ClaimSeven
namespace Go.Proofs.YtmgcadfnkchnfaaDoor
namespace Rows

/-- THE TIED CARD OF 'customslaw31.AuditOrder'. -/
def auditOrderCard : Claim7 := { stood := { row := auditOrderRow, standIns := [], harness := (true, "723a3f8763fe671da25107c76aac54823bbe3c8059532a2e32ae3f83261a369c"), looks := false }, kinds := [], alts := [], laidByText := true, laidKinds := [.data], laidTests := true, laidLooks := .later }
def AuditOrderCardSaid : Prop := Claim7.holds Tryd.pinned (.plain (OpenSpec.ofChange auditOrderSpec)) auditOrderCard

/-- THE TIED CARD OF 'customslaw31.AuditProof'. -/
def auditProofCard : Claim7 := { stood := { row := auditProofRow, standIns := [], harness := (true, "723a3f8763fe671da25107c76aac54823bbe3c8059532a2e32ae3f83261a369c"), looks := false }, kinds := [], alts := [], laidByText := true, laidKinds := [.data], laidTests := true, laidLooks := .later }
def AuditProofCardSaid : Prop := Claim7.holds Tryd.pinned (.plain (OpenSpec.ofChange auditProofSpec)) auditProofCard

/-- THE TIED CARD OF 'customslaw31.AuditGrant'. -/
def auditGrantCard : Claim7 := { stood := { row := auditGrantRow, standIns := [], harness := (true, "723a3f8763fe671da25107c76aac54823bbe3c8059532a2e32ae3f83261a369c"), looks := false }, kinds := [], alts := [], laidByText := true, laidKinds := [.data], laidTests := true, laidLooks := .later }
def AuditGrantCardSaid : Prop := Claim7.holds Tryd.pinned (.plain (OpenSpec.ofChange auditGrantSpec)) auditGrantCard

/-- THE SECOND FORM's CARD OF 'customslaw31.AuditOrder'. -/
def auditOrderUptoCard : Claim7 := { stood := { row := auditOrderUptoRow, standIns := [], harness := (true, "723a3f8763fe671da25107c76aac54823bbe3c8059532a2e32ae3f83261a369c"), looks := false }, kinds := [], alts := [], laidByText := true, laidKinds := [.data], laidTests := true, laidLooks := .later }
def AuditOrderUptoCardSaid : Prop := Claim7.holds Tryd.pinned (.plain (OpenSpec.upto auditOrderSpec)) auditOrderUptoCard

/-- THE SECOND FORM's CARD OF 'customslaw31.AuditProof'. -/
def auditProofUptoCard : Claim7 := { stood := { row := auditProofUptoRow, standIns := [], harness := (true, "723a3f8763fe671da25107c76aac54823bbe3c8059532a2e32ae3f83261a369c"), looks := false }, kinds := [], alts := [], laidByText := true, laidKinds := [.data], laidTests := true, laidLooks := .later }
def AuditProofUptoCardSaid : Prop := Claim7.holds Tryd.pinned (.plain (OpenSpec.upto auditProofSpec)) auditProofUptoCard

/-- THE SECOND FORM's CARD OF 'customslaw31.AuditGrant'. -/
def auditGrantUptoCard : Claim7 := { stood := { row := auditGrantUptoRow, standIns := [], harness := (true, "723a3f8763fe671da25107c76aac54823bbe3c8059532a2e32ae3f83261a369c"), looks := false }, kinds := [], alts := [], laidByText := true, laidKinds := [.data], laidTests := true, laidLooks := .later }
def AuditGrantUptoCardSaid : Prop := Claim7.holds Tryd.pinned (.plain (OpenSpec.upto auditGrantSpec)) auditGrantUptoCard
end Rows
end Go.Proofs.YtmgcadfnkchnfaaDoor
