/- Closed facts of the row OriginCheckErrors. No statement of the seat is proved here. -/
import Derived.Test.YtgmbmepakpcpaaaGreatDoorFp
set_option linter.unusedVariables false
set_option maxRecDepth 100000
namespace Go.Proofs.YtgmbmepakpcpaaaGreatDoor
open Go
def originCheckErrorsJ (F : Program → FuncId → Func → ChangeSpec → OpenClaim → Bool) : Prop := F Tryz.prog 5 Tryz.f5 Rows.originCheckErrorsSpec Rows.originCheckErrorsRow = true
theorem originCheckErrors_q0 : originCheckErrorsJ fun P f fn s c => c.wf (OpenSpec.ofChange s) := (by kernel_rfl : _ = true)
theorem originCheckErrors_q3 : originCheckErrorsJ fun P f fn s c => fn.params.all (P.readableRec ·) := (by kernel_rfl : _ = true)
theorem originCheckErrors_q4 : originCheckErrorsJ fun P f fn s c => namedTie P c.named s.vars := (by kernel_rfl : _ = true)
theorem originCheckErrors_q5 : originCheckErrorsJ fun P f fn s c => (c.stops == []) := (by kernel_rfl : _ = true)
theorem originCheckErrors_q7 : originCheckErrorsJ fun P f fn s c => (c.knobs == []) := (by kernel_rfl : _ = true)
theorem originCheckErrors_q9 : originCheckErrorsJ fun P f fn s c => (c.inPlace == P.inPlace f) := (by kernel_rfl : _ = true)
theorem originCheckErrors_q10 : originCheckErrorsJ fun P f fn s c => (c.unfollowed == P.unfollowed f) := (by kernel_rfl : _ = true)
theorem originCheckErrors_q11 : originCheckErrorsJ fun P f fn s c => (c.recurses == P.recurses f) := (by kernel_rfl : _ = true)
theorem originCheckErrors_q12 : originCheckErrorsJ fun P f fn s c => (c.named == P.varsNamed f) := (by kernel_rfl : _ = true)
theorem originCheckErrors_q13 : originCheckErrorsJ fun P f fn s c => (c.maps == (fn.params.toList ++ s.plain.varTypes P).any (P.mapsRec ·)) := (by kernel_rfl : _ = true)
theorem originCheckErrors_q14 : originCheckErrorsJ fun P f fn s c => (c.ifaces == (fn.params.toList ++ s.plain.varTypes P).any (P.ifacesRec ·)) := (by kernel_rfl : _ = true)
theorem originCheckErrors_q15 : originCheckErrorsJ fun P f fn s c => (c.mapsOut == P.mapsAmong fn.resultTypes.toList) := (by kernel_rfl : _ = true)
theorem originCheckErrors_q16 : originCheckErrorsJ fun P f fn s c => (c.loops == (fn.params.toList ++ s.plain.varTypes P).any (P.loopsFrom ·)) := (by kernel_rfl : _ = true)
theorem originCheckErrors_q17 : originCheckErrorsJ fun P f fn s c => (c.wideKeys == (fn.params.toList ++ s.plain.varTypes P ++ fn.resultTypes.toList).any (P.wideKeysFrom ·)) := (by kernel_rfl : _ = true)
theorem originCheckErrors_q18 : originCheckErrorsJ fun P f fn s c => s.vars.all (P.varReadable ·) := (by kernel_rfl : _ = true)
theorem originCheckErrors_q19 : originCheckErrorsJ fun P f fn s c => fn.resultTypes.all (fun t => P.readableRec t && decide (t < P.types.size)) := (by kernel_rfl : _ = true)
theorem originCheckErrors_q20 : originCheckErrorsJ fun P f fn s c => (c.ifacesOut == fn.resultTypes.toList.any (P.ifacesRec ·)) := (by kernel_rfl : _ = true)
theorem originCheckErrors_q21 : originCheckErrorsJ fun P f fn s c => (c.loopsOut == fn.resultTypes.toList.any (P.loopsFrom ·)) := (by kernel_rfl : _ = true)
theorem originCheckErrors_q23 : originCheckErrorsJ fun P f fn s c => c.shortTexts.isNone := (by kernel_rfl : _ = true)
theorem originCheckErrors_q27 : originCheckErrorsJ fun P f fn s c => (P.make == some c.make) := (by kernel_rfl : _ = true)
theorem originCheckErrors_q28 : originCheckErrorsJ fun P f fn s c => (c.kinds == (if c.domain.isEmpty then [] else fn.params.toList.map fun t => match P.underlying t with | some (.int k) => some k | _ => none)) := (by kernel_rfl : _ = true)
theorem originCheckErrors_q29 : originCheckErrorsJ fun P f fn s c => (c.pinned == c.pinnedBy) := (by kernel_rfl : _ = true)
theorem originCheckErrors_q30 : originCheckErrorsJ fun P f fn s c => (c.veiled == (fn.params.toList ++ s.plain.varTypes P ++ fn.resultTypes.toList).any (P.veiledRec ·)) := (by kernel_rfl : _ = true)
theorem originCheckErrors_q31 : originCheckErrorsJ fun P f fn s c => c.veiledFits P fn.params.toList (fn.params.toList ++ s.plain.varTypes P ++ fn.resultTypes.toList) := (by kernel_rfl : _ = true)
theorem originCheckErrors_closed : joinedFacts Tryz.prog 5 Tryz.f5 Rows.originCheckErrorsSpec Rows.originCheckErrorsRow = true := by unfold joinedFacts; exact (fp_and (fp_and (fp_and (fp_and (fp_and (fp_and (fp_and (fp_and (fp_and (fp_and (fp_and (fp_and (fp_and (fp_and (fp_and (fp_and (fp_and (fp_and (fp_and (fp_and (fp_and (fp_and (fp_and (fp_and (fp_and (fp_and (fp_and (fp_and (fp_and (fp_and (fp_and originCheckErrors_q0 fp_1) fp_2) originCheckErrors_q3) originCheckErrors_q4) originCheckErrors_q5) fp_6) originCheckErrors_q7) fp_8) originCheckErrors_q9) originCheckErrors_q10) originCheckErrors_q11) originCheckErrors_q12) originCheckErrors_q13) originCheckErrors_q14) originCheckErrors_q15) originCheckErrors_q16) originCheckErrors_q17) originCheckErrors_q18) originCheckErrors_q19) originCheckErrors_q20) originCheckErrors_q21) fp_22) originCheckErrors_q23) fp_24) fp_25) fp_26) originCheckErrors_q27) originCheckErrors_q28) originCheckErrors_q29) originCheckErrors_q30) originCheckErrors_q31)
theorem originCheckErrors_named : Tryz.prog.funcNamed "customs/customslaw16.OriginCheckErrors" = some 5 := by kernel_rfl
theorem originCheckErrors_goes : false = Rows.originCheckErrorsRow.goesBy Tryz.prog := by kernel_rfl
end Go.Proofs.YtgmbmepakpcpaaaGreatDoor
