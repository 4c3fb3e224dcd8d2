/- Closed facts of the row AuditOrder. No statement of the seat is proved here. -/
import Derived.Test.YtmgcadfnkchnfaaDoorFp
set_option linter.unusedVariables false
set_option maxRecDepth 100000
namespace Go.Proofs.YtmgcadfnkchnfaaDoor
open Go
def auditOrderJ (F : Program → FuncId → Func → ChangeSpec → OpenClaim → Bool) : Prop := F Tryd.prog 3 Tryd.f3 Rows.auditOrderSpec Rows.auditOrderRow = true
theorem auditOrder_q0 : auditOrderJ fun P f fn s c => c.wf (OpenSpec.ofChange s) := (by kernel_rfl : _ = true)
theorem auditOrder_q3 : auditOrderJ fun P f fn s c => fn.params.all (P.readableRec ·) := (by kernel_rfl : _ = true)
theorem auditOrder_q4 : auditOrderJ fun P f fn s c => namedTie P c.named s.vars := (by kernel_rfl : _ = true)
theorem auditOrder_q5 : auditOrderJ fun P f fn s c => (c.stops == []) := (by kernel_rfl : _ = true)
theorem auditOrder_q7 : auditOrderJ fun P f fn s c => (c.knobs == []) := (by kernel_rfl : _ = true)
theorem auditOrder_q9 : auditOrderJ fun P f fn s c => (c.inPlace == P.inPlace f) := (by kernel_rfl : _ = true)
theorem auditOrder_q10 : auditOrderJ fun P f fn s c => (c.unfollowed == P.unfollowed f) := (by kernel_rfl : _ = true)
theorem auditOrder_q11 : auditOrderJ fun P f fn s c => (c.recurses == P.recurses f) := (by kernel_rfl : _ = true)
theorem auditOrder_q12 : auditOrderJ fun P f fn s c => (c.named == P.varsNamed f) := (by kernel_rfl : _ = true)
theorem auditOrder_q13 : auditOrderJ fun P f fn s c => (c.maps == (fn.params.toList ++ s.plain.varTypes P).any (P.mapsRec ·)) := (by kernel_rfl : _ = true)
theorem auditOrder_q14 : auditOrderJ fun P f fn s c => (c.ifaces == (fn.params.toList ++ s.plain.varTypes P).any (P.ifacesRec ·)) := (by kernel_rfl : _ = true)
theorem auditOrder_q15 : auditOrderJ fun P f fn s c => (c.mapsOut == P.mapsAmong fn.resultTypes.toList) := (by kernel_rfl : _ = true)
theorem auditOrder_q16 : auditOrderJ fun P f fn s c => (c.loops == (fn.params.toList ++ s.plain.varTypes P).any (P.loopsFrom ·)) := (by kernel_rfl : _ = true)
theorem auditOrder_q17 : auditOrderJ fun P f fn s c => (c.wideKeys == (fn.params.toList ++ s.plain.varTypes P ++ fn.resultTypes.toList).any (P.wideKeysFrom ·)) := (by kernel_rfl : _ = true)
theorem auditOrder_q18 : auditOrderJ fun P f fn s c => s.vars.all (P.varReadable ·) := (by kernel_rfl : _ = true)
theorem auditOrder_q19 : auditOrderJ fun P f fn s c => fn.resultTypes.all (fun t => P.readableRec t && decide (t < P.types.size)) := (by kernel_rfl : _ = true)
theorem auditOrder_q20 : auditOrderJ fun P f fn s c => (c.ifacesOut == fn.resultTypes.toList.any (P.ifacesRec ·)) := (by kernel_rfl : _ = true)
theorem auditOrder_q21 : auditOrderJ fun P f fn s c => (c.loopsOut == fn.resultTypes.toList.any (P.loopsFrom ·)) := (by kernel_rfl : _ = true)
theorem auditOrder_q23 : auditOrderJ fun P f fn s c => c.shortTexts.isNone := (by kernel_rfl : _ = true)
theorem auditOrder_q27 : auditOrderJ fun P f fn s c => (P.make == some c.make) := (by kernel_rfl : _ = true)
theorem auditOrder_q28 : auditOrderJ fun P f fn s c => (c.kinds == (if c.domain.isEmpty then [] else fn.params.toList.map fun t => match P.underlying t with | some (.int k) => some k | _ => none)) := (by kernel_rfl : _ = true)
theorem auditOrder_q29 : auditOrderJ fun P f fn s c => (c.pinned == c.pinnedBy) := (by kernel_rfl : _ = true)
theorem auditOrder_q30 : auditOrderJ fun P f fn s c => (c.veiled == (fn.params.toList ++ s.plain.varTypes P ++ fn.resultTypes.toList).any (P.veiledRec ·)) := (by kernel_rfl : _ = true)
theorem auditOrder_q31 : auditOrderJ fun P f fn s c => c.veiledFits P fn.params.toList (fn.params.toList ++ s.plain.varTypes P ++ fn.resultTypes.toList) := (by kernel_rfl : _ = true)
theorem auditOrder_closed : joinedFacts Tryd.prog 3 Tryd.f3 Rows.auditOrderSpec Rows.auditOrderRow = true := by unfold joinedFacts; exact (fp_and (fp_and (fp_and (fp_and (fp_and (fp_and (fp_and (fp_and (fp_and (fp_and (fp_and (fp_and (fp_and (fp_and (fp_and (fp_and (fp_and (fp_and (fp_and (fp_and (fp_and (fp_and (fp_and (fp_and (fp_and (fp_and (fp_and (fp_and (fp_and (fp_and (fp_and auditOrder_q0 fp_1) fp_2) auditOrder_q3) auditOrder_q4) auditOrder_q5) fp_6) auditOrder_q7) fp_8) auditOrder_q9) auditOrder_q10) auditOrder_q11) auditOrder_q12) auditOrder_q13) auditOrder_q14) auditOrder_q15) auditOrder_q16) auditOrder_q17) auditOrder_q18) auditOrder_q19) auditOrder_q20) auditOrder_q21) fp_22) auditOrder_q23) fp_24) fp_25) fp_26) auditOrder_q27) auditOrder_q28) auditOrder_q29) auditOrder_q30) auditOrder_q31)
theorem auditOrder_named : Tryd.prog.funcNamed "customs/customslaw31.AuditOrder" = some 3 := by kernel_rfl
theorem auditOrder_goes : false = Rows.auditOrderRow.goesBy Tryd.prog := by kernel_rfl
end Go.Proofs.YtmgcadfnkchnfaaDoor
