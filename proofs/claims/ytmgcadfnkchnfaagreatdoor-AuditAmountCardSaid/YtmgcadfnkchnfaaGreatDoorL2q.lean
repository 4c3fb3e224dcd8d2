/- Closed facts of the row AuditAmount. No statement of the seat is proved here. -/
import Derived.Test.YtmgcadfnkchnfaaGreatDoorFp
set_option linter.unusedVariables false
set_option maxRecDepth 100000
namespace Go.Proofs.YtmgcadfnkchnfaaGreatDoor
open Go
def auditAmountJ (F : Program → FuncId → Func → ChangeSpec → OpenClaim → Bool) : Prop := F Tryz.prog 6 Tryz.f6 Rows.auditAmountSpec Rows.auditAmountRow = true
theorem auditAmount_q0 : auditAmountJ fun P f fn s c => c.wf (OpenSpec.ofChange s) := (by kernel_rfl : _ = true)
theorem auditAmount_q3 : auditAmountJ fun P f fn s c => fn.params.all (P.readableRec ·) := (by kernel_rfl : _ = true)
theorem auditAmount_q4 : auditAmountJ fun P f fn s c => namedTie P c.named s.vars := (by kernel_rfl : _ = true)
theorem auditAmount_q5 : auditAmountJ fun P f fn s c => (c.stops == []) := (by kernel_rfl : _ = true)
theorem auditAmount_q7 : auditAmountJ fun P f fn s c => (c.knobs == []) := (by kernel_rfl : _ = true)
theorem auditAmount_q9 : auditAmountJ fun P f fn s c => (c.inPlace == P.inPlace f) := (by kernel_rfl : _ = true)
theorem auditAmount_q10 : auditAmountJ fun P f fn s c => (c.unfollowed == P.unfollowed f) := (by kernel_rfl : _ = true)
theorem auditAmount_q11 : auditAmountJ fun P f fn s c => (c.recurses == P.recurses f) := (by kernel_rfl : _ = true)
theorem auditAmount_q12 : auditAmountJ fun P f fn s c => (c.named == P.varsNamed f) := (by kernel_rfl : _ = true)
theorem auditAmount_q13 : auditAmountJ fun P f fn s c => (c.maps == (fn.params.toList ++ s.plain.varTypes P).any (P.mapsRec ·)) := (by kernel_rfl : _ = true)
theorem auditAmount_q14 : auditAmountJ fun P f fn s c => (c.ifaces == (fn.params.toList ++ s.plain.varTypes P).any (P.ifacesRec ·)) := (by kernel_rfl : _ = true)
theorem auditAmount_q15 : auditAmountJ fun P f fn s c => (c.mapsOut == P.mapsAmong fn.resultTypes.toList) := (by kernel_rfl : _ = true)
theorem auditAmount_q16 : auditAmountJ fun P f fn s c => (c.loops == (fn.params.toList ++ s.plain.varTypes P).any (P.loopsFrom ·)) := (by kernel_rfl : _ = true)
theorem auditAmount_q17 : auditAmountJ fun P f fn s c => (c.wideKeys == (fn.params.toList ++ s.plain.varTypes P ++ fn.resultTypes.toList).any (P.wideKeysFrom ·)) := (by kernel_rfl : _ = true)
theorem auditAmount_q18 : auditAmountJ fun P f fn s c => s.vars.all (P.varReadable ·) := (by kernel_rfl : _ = true)
theorem auditAmount_q19 : auditAmountJ fun P f fn s c => fn.resultTypes.all (fun t => P.readableRec t && decide (t < P.types.size)) := (by kernel_rfl : _ = true)
theorem auditAmount_q20 : auditAmountJ fun P f fn s c => (c.ifacesOut == fn.resultTypes.toList.any (P.ifacesRec ·)) := (by kernel_rfl : _ = true)
theorem auditAmount_q21 : auditAmountJ fun P f fn s c => (c.loopsOut == fn.resultTypes.toList.any (P.loopsFrom ·)) := (by kernel_rfl : _ = true)
theorem auditAmount_q23 : auditAmountJ fun P f fn s c => c.shortTexts.isNone := (by kernel_rfl : _ = true)
theorem auditAmount_q27 : auditAmountJ fun P f fn s c => (P.make == some c.make) := (by kernel_rfl : _ = true)
theorem auditAmount_q28 : auditAmountJ fun P f fn s c => (c.kinds == (if c.domain.isEmpty then [] else fn.params.toList.map fun t => match P.underlying t with | some (.int k) => some k | _ => none)) := (by kernel_rfl : _ = true)
theorem auditAmount_q29 : auditAmountJ fun P f fn s c => (c.pinned == c.pinnedBy) := (by kernel_rfl : _ = true)
theorem auditAmount_q30 : auditAmountJ fun P f fn s c => (c.veiled == (fn.params.toList ++ s.plain.varTypes P ++ fn.resultTypes.toList).any (P.veiledRec ·)) := (by kernel_rfl : _ = true)
theorem auditAmount_q31 : auditAmountJ fun P f fn s c => c.veiledFits P fn.params.toList (fn.params.toList ++ s.plain.varTypes P ++ fn.resultTypes.toList) := (by kernel_rfl : _ = true)
theorem auditAmount_closed : joinedFacts Tryz.prog 6 Tryz.f6 Rows.auditAmountSpec Rows.auditAmountRow = true := by unfold joinedFacts; exact (fp_and (fp_and (fp_and (fp_and (fp_and (fp_and (fp_and (fp_and (fp_and (fp_and (fp_and (fp_and (fp_and (fp_and (fp_and (fp_and (fp_and (fp_and (fp_and (fp_and (fp_and (fp_and (fp_and (fp_and (fp_and (fp_and (fp_and (fp_and (fp_and (fp_and (fp_and auditAmount_q0 fp_1) fp_2) auditAmount_q3) auditAmount_q4) auditAmount_q5) fp_6) auditAmount_q7) fp_8) auditAmount_q9) auditAmount_q10) auditAmount_q11) auditAmount_q12) auditAmount_q13) auditAmount_q14) auditAmount_q15) auditAmount_q16) auditAmount_q17) auditAmount_q18) auditAmount_q19) auditAmount_q20) auditAmount_q21) fp_22) auditAmount_q23) fp_24) fp_25) fp_26) auditAmount_q27) auditAmount_q28) auditAmount_q29) auditAmount_q30) auditAmount_q31)
theorem auditAmount_named : Tryz.prog.funcNamed "customs/customslaw31.AuditAmount" = some 6 := by kernel_rfl
theorem auditAmount_goes : false = Rows.auditAmountRow.goesBy Tryz.prog := by kernel_rfl
end Go.Proofs.YtmgcadfnkchnfaaGreatDoor
