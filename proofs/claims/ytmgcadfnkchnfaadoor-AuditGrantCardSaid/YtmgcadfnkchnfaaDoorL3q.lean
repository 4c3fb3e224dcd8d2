/- Closed facts of the row AuditGrant. No statement of the seat is proved here. -/
import Derived.Test.YtmgcadfnkchnfaaDoorFp
set_option linter.unusedVariables false
set_option maxRecDepth 100000
namespace Go.Proofs.YtmgcadfnkchnfaaDoor
open Go
def auditGrantJ (F : Program → FuncId → Func → ChangeSpec → OpenClaim → Bool) : Prop := F Tryd.prog 5 Tryd.f5 Rows.auditGrantSpec Rows.auditGrantRow = true
theorem auditGrant_q0 : auditGrantJ fun P f fn s c => c.wf (OpenSpec.ofChange s) := (by kernel_rfl : _ = true)
theorem auditGrant_q3 : auditGrantJ fun P f fn s c => fn.params.all (P.readableRec ·) := (by kernel_rfl : _ = true)
theorem auditGrant_q4 : auditGrantJ fun P f fn s c => namedTie P c.named s.vars := (by kernel_rfl : _ = true)
theorem auditGrant_q5 : auditGrantJ fun P f fn s c => (c.stops == []) := (by kernel_rfl : _ = true)
theorem auditGrant_q7 : auditGrantJ fun P f fn s c => (c.knobs == []) := (by kernel_rfl : _ = true)
theorem auditGrant_q9 : auditGrantJ fun P f fn s c => (c.inPlace == P.inPlace f) := (by kernel_rfl : _ = true)
theorem auditGrant_q10 : auditGrantJ fun P f fn s c => (c.unfollowed == P.unfollowed f) := (by kernel_rfl : _ = true)
theorem auditGrant_q11 : auditGrantJ fun P f fn s c => (c.recurses == P.recurses f) := (by kernel_rfl : _ = true)
theorem auditGrant_q12 : auditGrantJ fun P f fn s c => (c.named == P.varsNamed f) := (by kernel_rfl : _ = true)
theorem auditGrant_q13 : auditGrantJ fun P f fn s c => (c.maps == (fn.params.toList ++ s.plain.varTypes P).any (P.mapsRec ·)) := (by kernel_rfl : _ = true)
theorem auditGrant_q14 : auditGrantJ fun P f fn s c => (c.ifaces == (fn.params.toList ++ s.plain.varTypes P).any (P.ifacesRec ·)) := (by kernel_rfl : _ = true)
theorem auditGrant_q15 : auditGrantJ fun P f fn s c => (c.mapsOut == P.mapsAmong fn.resultTypes.toList) := (by kernel_rfl : _ = true)
theorem auditGrant_q16 : auditGrantJ fun P f fn s c => (c.loops == (fn.params.toList ++ s.plain.varTypes P).any (P.loopsFrom ·)) := (by kernel_rfl : _ = true)
theorem auditGrant_q17 : auditGrantJ fun P f fn s c => (c.wideKeys == (fn.params.toList ++ s.plain.varTypes P ++ fn.resultTypes.toList).any (P.wideKeysFrom ·)) := (by kernel_rfl : _ = true)
theorem auditGrant_q18 : auditGrantJ fun P f fn s c => s.vars.all (P.varReadable ·) := (by kernel_rfl : _ = true)
theorem auditGrant_q19 : auditGrantJ fun P f fn s c => fn.resultTypes.all (fun t => P.readableRec t && decide (t < P.types.size)) := (by kernel_rfl : _ = true)
theorem auditGrant_q20 : auditGrantJ fun P f fn s c => (c.ifacesOut == fn.resultTypes.toList.any (P.ifacesRec ·)) := (by kernel_rfl : _ = true)
theorem auditGrant_q21 : auditGrantJ fun P f fn s c => (c.loopsOut == fn.resultTypes.toList.any (P.loopsFrom ·)) := (by kernel_rfl : _ = true)
theorem auditGrant_q23 : auditGrantJ fun P f fn s c => c.shortTexts.isNone := (by kernel_rfl : _ = true)
theorem auditGrant_q27 : auditGrantJ fun P f fn s c => (P.make == some c.make) := (by kernel_rfl : _ = true)
theorem auditGrant_q28 : auditGrantJ fun P f fn s c => (c.kinds == (if c.domain.isEmpty then [] else fn.params.toList.map fun t => match P.underlying t with | some (.int k) => some k | _ => none)) := (by kernel_rfl : _ = true)
theorem auditGrant_q29 : auditGrantJ fun P f fn s c => (c.pinned == c.pinnedBy) := (by kernel_rfl : _ = true)
theorem auditGrant_q30 : auditGrantJ fun P f fn s c => (c.veiled == (fn.params.toList ++ s.plain.varTypes P ++ fn.resultTypes.toList).any (P.veiledRec ·)) := (by kernel_rfl : _ = true)
theorem auditGrant_q31 : auditGrantJ fun P f fn s c => c.veiledFits P fn.params.toList (fn.params.toList ++ s.plain.varTypes P ++ fn.resultTypes.toList) := (by kernel_rfl : _ = true)
theorem auditGrant_closed : joinedFacts Tryd.prog 5 Tryd.f5 Rows.auditGrantSpec Rows.auditGrantRow = true := by unfold joinedFacts; exact (fp_and (fp_and (fp_and (fp_and (fp_and (fp_and (fp_and (fp_and (fp_and (fp_and (fp_and (fp_and (fp_and (fp_and (fp_and (fp_and (fp_and (fp_and (fp_and (fp_and (fp_and (fp_and (fp_and (fp_and (fp_and (fp_and (fp_and (fp_and (fp_and (fp_and (fp_and auditGrant_q0 fp_1) fp_2) auditGrant_q3) auditGrant_q4) auditGrant_q5) fp_6) auditGrant_q7) fp_8) auditGrant_q9) auditGrant_q10) auditGrant_q11) auditGrant_q12) auditGrant_q13) auditGrant_q14) auditGrant_q15) auditGrant_q16) auditGrant_q17) auditGrant_q18) auditGrant_q19) auditGrant_q20) auditGrant_q21) fp_22) auditGrant_q23) fp_24) fp_25) fp_26) auditGrant_q27) auditGrant_q28) auditGrant_q29) auditGrant_q30) auditGrant_q31)
theorem auditGrant_named : Tryd.prog.funcNamed "customs/customslaw31.AuditGrant" = some 5 := by kernel_rfl
theorem auditGrant_goes : false = Rows.auditGrantRow.goesBy Tryd.prog := by kernel_rfl
end Go.Proofs.YtmgcadfnkchnfaaDoor
