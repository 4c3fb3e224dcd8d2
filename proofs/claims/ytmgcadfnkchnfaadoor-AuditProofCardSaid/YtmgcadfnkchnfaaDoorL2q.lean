/- Closed facts of the row AuditProof. No statement of the seat is proved here. -/
import Derived.Test.YtmgcadfnkchnfaaDoorFp
set_option linter.unusedVariables false
set_option maxRecDepth 100000
namespace Go.Proofs.YtmgcadfnkchnfaaDoor
open Go
def auditProofJ (F : Program → FuncId → Func → ChangeSpec → OpenClaim → Bool) : Prop := F Tryd.prog 4 Tryd.f4 Rows.auditProofSpec Rows.auditProofRow = true
theorem auditProof_q0 : auditProofJ fun P f fn s c => c.wf (OpenSpec.ofChange s) := (by kernel_rfl : _ = true)
theorem auditProof_q3 : auditProofJ fun P f fn s c => fn.params.all (P.readableRec ·) := (by kernel_rfl : _ = true)
theorem auditProof_q4 : auditProofJ fun P f fn s c => namedTie P c.named s.vars := (by kernel_rfl : _ = true)
theorem auditProof_q5 : auditProofJ fun P f fn s c => (c.stops == []) := (by kernel_rfl : _ = true)
theorem auditProof_q7 : auditProofJ fun P f fn s c => (c.knobs == []) := (by kernel_rfl : _ = true)
theorem auditProof_q9 : auditProofJ fun P f fn s c => (c.inPlace == P.inPlace f) := (by kernel_rfl : _ = true)
theorem auditProof_q10 : auditProofJ fun P f fn s c => (c.unfollowed == P.unfollowed f) := (by kernel_rfl : _ = true)
theorem auditProof_q11 : auditProofJ fun P f fn s c => (c.recurses == P.recurses f) := (by kernel_rfl : _ = true)
theorem auditProof_q12 : auditProofJ fun P f fn s c => (c.named == P.varsNamed f) := (by kernel_rfl : _ = true)
theorem auditProof_q13 : auditProofJ fun P f fn s c => (c.maps == (fn.params.toList ++ s.plain.varTypes P).any (P.mapsRec ·)) := (by kernel_rfl : _ = true)
theorem auditProof_q14 : auditProofJ fun P f fn s c => (c.ifaces == (fn.params.toList ++ s.plain.varTypes P).any (P.ifacesRec ·)) := (by kernel_rfl : _ = true)
theorem auditProof_q15 : auditProofJ fun P f fn s c => (c.mapsOut == P.mapsAmong fn.resultTypes.toList) := (by kernel_rfl : _ = true)
theorem auditProof_q16 : auditProofJ fun P f fn s c => (c.loops == (fn.params.toList ++ s.plain.varTypes P).any (P.loopsFrom ·)) := (by kernel_rfl : _ = true)
theorem auditProof_q17 : auditProofJ fun P f fn s c => (c.wideKeys == (fn.params.toList ++ s.plain.varTypes P ++ fn.resultTypes.toList).any (P.wideKeysFrom ·)) := (by kernel_rfl : _ = true)
theorem auditProof_q18 : auditProofJ fun P f fn s c => s.vars.all (P.varReadable ·) := (by kernel_rfl : _ = true)
theorem auditProof_q19 : auditProofJ fun P f fn s c => fn.resultTypes.all (fun t => P.readableRec t && decide (t < P.types.size)) := (by kernel_rfl : _ = true)
theorem auditProof_q20 : auditProofJ fun P f fn s c => (c.ifacesOut == fn.resultTypes.toList.any (P.ifacesRec ·)) := (by kernel_rfl : _ = true)
theorem auditProof_q21 : auditProofJ fun P f fn s c => (c.loopsOut == fn.resultTypes.toList.any (P.loopsFrom ·)) := (by kernel_rfl : _ = true)
theorem auditProof_q23 : auditProofJ fun P f fn s c => c.shortTexts.isNone := (by kernel_rfl : _ = true)
theorem auditProof_q27 : auditProofJ fun P f fn s c => (P.make == some c.make) := (by kernel_rfl : _ = true)
theorem auditProof_q28 : auditProofJ fun P f fn s c => (c.kinds == (if c.domain.isEmpty then [] else fn.params.toList.map fun t => match P.underlying t with | some (.int k) => some k | _ => none)) := (by kernel_rfl : _ = true)
theorem auditProof_q29 : auditProofJ fun P f fn s c => (c.pinned == c.pinnedBy) := (by kernel_rfl : _ = true)
theorem auditProof_q30 : auditProofJ fun P f fn s c => (c.veiled == (fn.params.toList ++ s.plain.varTypes P ++ fn.resultTypes.toList).any (P.veiledRec ·)) := (by kernel_rfl : _ = true)
theorem auditProof_q31 : auditProofJ fun P f fn s c => c.veiledFits P fn.params.toList (fn.params.toList ++ s.plain.varTypes P ++ fn.resultTypes.toList) := (by kernel_rfl : _ = true)
theorem auditProof_closed : joinedFacts Tryd.prog 4 Tryd.f4 Rows.auditProofSpec Rows.auditProofRow = true := by unfold joinedFacts; exact (fp_and (fp_and (fp_and (fp_and (fp_and (fp_and (fp_and (fp_and (fp_and (fp_and (fp_and (fp_and (fp_and (fp_and (fp_and (fp_and (fp_and (fp_and (fp_and (fp_and (fp_and (fp_and (fp_and (fp_and (fp_and (fp_and (fp_and (fp_and (fp_and (fp_and (fp_and auditProof_q0 fp_1) fp_2) auditProof_q3) auditProof_q4) auditProof_q5) fp_6) auditProof_q7) fp_8) auditProof_q9) auditProof_q10) auditProof_q11) auditProof_q12) auditProof_q13) auditProof_q14) auditProof_q15) auditProof_q16) auditProof_q17) auditProof_q18) auditProof_q19) auditProof_q20) auditProof_q21) fp_22) auditProof_q23) fp_24) fp_25) fp_26) auditProof_q27) auditProof_q28) auditProof_q29) auditProof_q30) auditProof_q31)
theorem auditProof_named : Tryd.prog.funcNamed "customs/customslaw31.AuditProof" = some 4 := by kernel_rfl
theorem auditProof_goes : false = Rows.auditProofRow.goesBy Tryd.prog := by kernel_rfl
end Go.Proofs.YtmgcadfnkchnfaaDoor
