/- Closed facts of the row AuditItem. No statement of the seat is proved here. -/
import Derived.Test.YtmgcadfnkchnfaaGreatDoorFp
set_option linter.unusedVariables false
set_option maxRecDepth 100000
namespace Go.Proofs.YtmgcadfnkchnfaaGreatDoor
open Go
def auditItemJ (F : Program → FuncId → Func → ChangeSpec → OpenClaim → Bool) : Prop := F Tryz.prog 5 Tryz.f5 Rows.auditItemSpec Rows.auditItemRow = true
theorem auditItem_q0 : auditItemJ fun P f fn s c => c.wf (OpenSpec.ofChange s) := (by kernel_rfl : _ = true)
theorem auditItem_q3 : auditItemJ fun P f fn s c => fn.params.all (P.readableRec ·) := (by kernel_rfl : _ = true)
theorem auditItem_q4 : auditItemJ fun P f fn s c => namedTie P c.named s.vars := (by kernel_rfl : _ = true)
theorem auditItem_q5 : auditItemJ fun P f fn s c => (c.stops == []) := (by kernel_rfl : _ = true)
theorem auditItem_q7 : auditItemJ fun P f fn s c => (c.knobs == []) := (by kernel_rfl : _ = true)
theorem auditItem_q9 : auditItemJ fun P f fn s c => (c.inPlace == P.inPlace f) := (by kernel_rfl : _ = true)
theorem auditItem_q10 : auditItemJ fun P f fn s c => (c.unfollowed == P.unfollowed f) := (by kernel_rfl : _ = true)
theorem auditItem_q11 : auditItemJ fun P f fn s c => (c.recurses == P.recurses f) := (by kernel_rfl : _ = true)
theorem auditItem_q12 : auditItemJ fun P f fn s c => (c.named == P.varsNamed f) := (by kernel_rfl : _ = true)
theorem auditItem_q13 : auditItemJ fun P f fn s c => (c.maps == (fn.params.toList ++ s.plain.varTypes P).any (P.mapsRec ·)) := (by kernel_rfl : _ = true)
theorem auditItem_q14 : auditItemJ fun P f fn s c => (c.ifaces == (fn.params.toList ++ s.plain.varTypes P).any (P.ifacesRec ·)) := (by kernel_rfl : _ = true)
theorem auditItem_q15 : auditItemJ fun P f fn s c => (c.mapsOut == P.mapsAmong fn.resultTypes.toList) := (by kernel_rfl : _ = true)
theorem auditItem_q16 : auditItemJ fun P f fn s c => (c.loops == (fn.params.toList ++ s.plain.varTypes P).any (P.loopsFrom ·)) := (by kernel_rfl : _ = true)
theorem auditItem_q17 : auditItemJ fun P f fn s c => (c.wideKeys == (fn.params.toList ++ s.plain.varTypes P ++ fn.resultTypes.toList).any (P.wideKeysFrom ·)) := (by kernel_rfl : _ = true)
theorem auditItem_q18 : auditItemJ fun P f fn s c => s.vars.all (P.varReadable ·) := (by kernel_rfl : _ = true)
theorem auditItem_q19 : auditItemJ fun P f fn s c => fn.resultTypes.all (fun t => P.readableRec t && decide (t < P.types.size)) := (by kernel_rfl : _ = true)
theorem auditItem_q20 : auditItemJ fun P f fn s c => (c.ifacesOut == fn.resultTypes.toList.any (P.ifacesRec ·)) := (by kernel_rfl : _ = true)
theorem auditItem_q21 : auditItemJ fun P f fn s c => (c.loopsOut == fn.resultTypes.toList.any (P.loopsFrom ·)) := (by kernel_rfl : _ = true)
theorem auditItem_q23 : auditItemJ fun P f fn s c => c.shortTexts.isNone := (by kernel_rfl : _ = true)
theorem auditItem_q27 : auditItemJ fun P f fn s c => (P.make == some c.make) := (by kernel_rfl : _ = true)
theorem auditItem_q28 : auditItemJ fun P f fn s c => (c.kinds == (if c.domain.isEmpty then [] else fn.params.toList.map fun t => match P.underlying t with | some (.int k) => some k | _ => none)) := (by kernel_rfl : _ = true)
theorem auditItem_q29 : auditItemJ fun P f fn s c => (c.pinned == c.pinnedBy) := (by kernel_rfl : _ = true)
theorem auditItem_q30 : auditItemJ fun P f fn s c => (c.veiled == (fn.params.toList ++ s.plain.varTypes P ++ fn.resultTypes.toList).any (P.veiledRec ·)) := (by kernel_rfl : _ = true)
theorem auditItem_q31 : auditItemJ fun P f fn s c => c.veiledFits P fn.params.toList (fn.params.toList ++ s.plain.varTypes P ++ fn.resultTypes.toList) := (by kernel_rfl : _ = true)
theorem auditItem_closed : joinedFacts Tryz.prog 5 Tryz.f5 Rows.auditItemSpec Rows.auditItemRow = true := by unfold joinedFacts; exact (fp_and (fp_and (fp_and (fp_and (fp_and (fp_and (fp_and (fp_and (fp_and (fp_and (fp_and (fp_and (fp_and (fp_and (fp_and (fp_and (fp_and (fp_and (fp_and (fp_and (fp_and (fp_and (fp_and (fp_and (fp_and (fp_and (fp_and (fp_and (fp_and (fp_and (fp_and auditItem_q0 fp_1) fp_2) auditItem_q3) auditItem_q4) auditItem_q5) fp_6) auditItem_q7) fp_8) auditItem_q9) auditItem_q10) auditItem_q11) auditItem_q12) auditItem_q13) auditItem_q14) auditItem_q15) auditItem_q16) auditItem_q17) auditItem_q18) auditItem_q19) auditItem_q20) auditItem_q21) fp_22) auditItem_q23) fp_24) fp_25) fp_26) auditItem_q27) auditItem_q28) auditItem_q29) auditItem_q30) auditItem_q31)
theorem auditItem_named : Tryz.prog.funcNamed "customs/customslaw31.AuditItem" = some 5 := by kernel_rfl
theorem auditItem_goes : false = Rows.auditItemRow.goesBy Tryz.prog := by kernel_rfl
end Go.Proofs.YtmgcadfnkchnfaaGreatDoor
