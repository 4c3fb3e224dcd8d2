/-
  NARROWER THAN 'FOR EVERY INPUT', by the rows' own cells (each row's printed sentence says how): AuditOrder: laid · AuditProof: laid · AuditGrant: laid.
  DERIVED. THE GIVEN ROWS OF THIS SEAT. 3 by the template 'for every input the law returns true; each argument reads behind the call as it read before'; 0 by the template 'total and deterministic' (their statements: YtmgcadfnkchnfaaDoorTotals.lean).
  GIVEN WITH THE SEED: the statements are not yours to turn. If you find one false, say at which input.
  Laid BY PROGRAM, IN A SANDBOX (cutbox-rows.mjs): the forced cells as the released guide's own fill.sh prints them over the translation c747386db2d7590c… (all of the seat's roots in one cut). By AI agents, Wed Nov 11 2026. No macro, syntax, notation, axiom, sorry.
-/
import Derived.Test.YtmgcadfnkchnfaaDoorChecked
import GoSem.Claim
import GoSem.ClaimJoined
import GoSem.ClaimMapViews
import Derived.JoinedTies
import Derived.KernelRfl
namespace Go.Proofs.YtmgcadfnkchnfaaDoor
/- THE CELL 'sum', in the pinned program and in every row, IS THE sha256 OF THE DUMP (.gsa) THAT YtmgcadfnkchnfaaDoorProg.lean LOADS. Nothing in Lean hashes anything: it is a label: what it is worth is what the hold of that sum in a sandbox is worth. -/
noncomputable def Tryd.pinned : Pinned := { name := "ytmgcadfnkchnfaadoor", sum := "c747386db2d7590caa644e6ca993e9430dcb277997802d5f6826c54d1b4c555f", checked := Tryd.checked }
namespace Rows
def none {H : Type} : Left H := { results := [], args := [] }

/- WHAT THE LISTED PACKAGE-LEVEL VARIABLES READ AS WHEN THE CALL BEGINS. Each datum BY PROGRAM (the guide's laid-datum.mjs) off the statement by which the dump's own 'gosem.cut.vars' lays the variable. In a bare row this is a premise. The card (YtmgcadfnkchnfaaDoorCards.lean) ties it to the program's text. -/
def laid_customs_calendar_monthLengths {H : Type} : DataW H := .agg [.lit (.int .i64 31), .lit (.int .i64 28), .lit (.int .i64 31), .lit (.int .i64 30), .lit (.int .i64 31), .lit (.int .i64 30), .lit (.int .i64 31), .lit (.int .i64 31), .lit (.int .i64 30), .lit (.int .i64 31), .lit (.int .i64 30), .lit (.int .i64 31)]

/-- 'customslaw31.AuditOrder': WHATEVER THE INPUT: true; the input reads as it did. -/
def auditOrderSpec : ChangeSpec := { name := "auditOrder", fn := fun _ => fun
  | [d1, d2, d3] => { results := [.lit (.bool true)], args := [d1, d2, d3] }
  | _ => none }
def auditOrderRow : OpenClaim := { program := "ytmgcadfnkchnfaadoor", sum := "c747386db2d7590caa644e6ca993e9430dcb277997802d5f6826c54d1b4c555f", func := "customs/customslaw31.AuditOrder", spec := "auditOrder", inPlace := ["slices.overlaps[customs/api.DutyFact]"], unfollowed := true, recurses := true, named := ["customs/calendar.monthLengths"], apart := false, laid := [("customs/calendar.monthLengths", laid_customs_calendar_monthLengths)] }
def AuditOrderSaid : Prop := auditOrderRow.holds Tryd.pinned (OpenSpec.ofChange auditOrderSpec)

/-- ITS FALSE NEIGHBOUR: 'it returns false'. Refute it at one input. -/
def auditOrderWrong : ChangeSpec := { name := "auditOrder", fn := fun _ => fun
  | [d1, d2, d3] => { results := [.lit (.bool false)], args := [d1, d2, d3] }
  | _ => none }
def AuditOrderWrongFalsely : Prop := auditOrderRow.holds Tryd.pinned (OpenSpec.ofChange auditOrderWrong)

/-- 'customslaw31.AuditProof': WHATEVER THE INPUT: true; the input reads as it did. -/
def auditProofSpec : ChangeSpec := { name := "auditProof", fn := fun _ => fun
  | [d1, d2, d3] => { results := [.lit (.bool true)], args := [d1, d2, d3] }
  | _ => none }
def auditProofRow : OpenClaim := { program := "ytmgcadfnkchnfaadoor", sum := "c747386db2d7590caa644e6ca993e9430dcb277997802d5f6826c54d1b4c555f", func := "customs/customslaw31.AuditProof", spec := "auditProof", inPlace := ["slices.overlaps[customs/api.DutyFact]"], unfollowed := true, recurses := true, named := ["customs/calendar.monthLengths"], apart := false, laid := [("customs/calendar.monthLengths", laid_customs_calendar_monthLengths)] }
def AuditProofSaid : Prop := auditProofRow.holds Tryd.pinned (OpenSpec.ofChange auditProofSpec)

/-- ITS FALSE NEIGHBOUR: 'it returns false'. Refute it at one input. -/
def auditProofWrong : ChangeSpec := { name := "auditProof", fn := fun _ => fun
  | [d1, d2, d3] => { results := [.lit (.bool false)], args := [d1, d2, d3] }
  | _ => none }
def AuditProofWrongFalsely : Prop := auditProofRow.holds Tryd.pinned (OpenSpec.ofChange auditProofWrong)

/-- 'customslaw31.AuditGrant': WHATEVER THE INPUT: true; the input reads as it did. -/
def auditGrantSpec : ChangeSpec := { name := "auditGrant", fn := fun _ => fun
  | [d1, d2, d3, d4] => { results := [.lit (.bool true)], args := [d1, d2, d3, d4] }
  | _ => none }
def auditGrantRow : OpenClaim := { program := "ytmgcadfnkchnfaadoor", sum := "c747386db2d7590caa644e6ca993e9430dcb277997802d5f6826c54d1b4c555f", func := "customs/customslaw31.AuditGrant", spec := "auditGrant", inPlace := ["slices.overlaps[customs/api.DutyFact]"], unfollowed := true, recurses := true, named := ["customs/calendar.monthLengths"], apart := false, laid := [("customs/calendar.monthLengths", laid_customs_calendar_monthLengths)] }
def AuditGrantSaid : Prop := auditGrantRow.holds Tryd.pinned (OpenSpec.ofChange auditGrantSpec)

/-- ITS FALSE NEIGHBOUR: 'it returns false'. Refute it at one input. -/
def auditGrantWrong : ChangeSpec := { name := "auditGrant", fn := fun _ => fun
  | [d1, d2, d3, d4] => { results := [.lit (.bool false)], args := [d1, d2, d3, d4] }
  | _ => none }
def AuditGrantWrongFalsely : Prop := auditGrantRow.holds Tryd.pinned (OpenSpec.ofChange auditGrantWrong)

/- THE SECOND FORM. 'bulk': how many values and letters a reading holds, each counted each time it is reached (what is shared counts as often as it is met; a slice's spare places count too). A statement '..UptoSaid' is the law's where the arguments, and the package variables that the reading takes, are together of bulk at most 1048576: NARROWER than '..Said'. Prove '..Said' where nothing that the law and all that it calls make is longer than what came in: it says more and counts as full. Else prove '..UptoSaid'. A law counts once. -/
mutual
def uptoBulk {H : Type} : DataW H → Nat
  | .lit (.string bytes) => bytes.length + 1
  | .lit _ => 1
  | .nil => 1
  | .ptr d => uptoBulk d + 1
  | .slice elems spare => uptoBulkAll elems + uptoBulkAll spare + 1
  | .agg parts => uptoBulkAll parts + 1
  | .iface _ d => uptoBulk d + 1
  | .map entries => uptoBulkEntries entries + 1
  | .held _ => 1
def uptoBulkAll {H : Type} : List (DataW H) → Nat
  | [] => 0
  | d :: r => uptoBulk d + uptoBulkAll r
def uptoBulkEntries {H : Type} : List (Lit × DataW H) → Nat
  | [] => 0
  | x :: r => uptoBulkEntry x + uptoBulkEntries r
def uptoBulkEntry {H : Type} : Lit × DataW H → Nat
  | (.string bytes, d) => bytes.length + uptoBulk d + 1
  | (_, d) => uptoBulk d + 1
 end
def uptoSmall : (H : Type) → List (DataW H) → Bool := fun _ ds => decide (uptoBulkAll ds ≤ 1048576)
def OpenSpec.upto (s : _root_.Go.ChangeSpec) : _root_.Go.OpenSpec := { _root_.Go.OpenSpec.ofChange s with cond := some uptoSmall }

/-- 'customslaw31.AuditOrder', WHERE WHAT IT READS IS OF BULK AT MOST 1048576: true; the input reads as it did. -/
def auditOrderUptoRow : OpenClaim := { program := "ytmgcadfnkchnfaadoor", sum := "c747386db2d7590caa644e6ca993e9430dcb277997802d5f6826c54d1b4c555f", func := "customs/customslaw31.AuditOrder", spec := "auditOrder", inPlace := ["slices.overlaps[customs/api.DutyFact]"], unfollowed := true, recurses := true, named := ["customs/calendar.monthLengths"], apart := false, laid := [("customs/calendar.monthLengths", laid_customs_calendar_monthLengths)], narrowed := true }
def AuditOrderUptoSaid : Prop := auditOrderUptoRow.holds Tryd.pinned (OpenSpec.upto auditOrderSpec)

/-- 'customslaw31.AuditProof', WHERE WHAT IT READS IS OF BULK AT MOST 1048576: true; the input reads as it did. -/
def auditProofUptoRow : OpenClaim := { program := "ytmgcadfnkchnfaadoor", sum := "c747386db2d7590caa644e6ca993e9430dcb277997802d5f6826c54d1b4c555f", func := "customs/customslaw31.AuditProof", spec := "auditProof", inPlace := ["slices.overlaps[customs/api.DutyFact]"], unfollowed := true, recurses := true, named := ["customs/calendar.monthLengths"], apart := false, laid := [("customs/calendar.monthLengths", laid_customs_calendar_monthLengths)], narrowed := true }
def AuditProofUptoSaid : Prop := auditProofUptoRow.holds Tryd.pinned (OpenSpec.upto auditProofSpec)

/-- 'customslaw31.AuditGrant', WHERE WHAT IT READS IS OF BULK AT MOST 1048576: true; the input reads as it did. -/
def auditGrantUptoRow : OpenClaim := { program := "ytmgcadfnkchnfaadoor", sum := "c747386db2d7590caa644e6ca993e9430dcb277997802d5f6826c54d1b4c555f", func := "customs/customslaw31.AuditGrant", spec := "auditGrant", inPlace := ["slices.overlaps[customs/api.DutyFact]"], unfollowed := true, recurses := true, named := ["customs/calendar.monthLengths"], apart := false, laid := [("customs/calendar.monthLengths", laid_customs_calendar_monthLengths)], narrowed := true }
def AuditGrantUptoSaid : Prop := auditGrantUptoRow.holds Tryd.pinned (OpenSpec.upto auditGrantSpec)

end Rows
end Go.Proofs.YtmgcadfnkchnfaaDoor
