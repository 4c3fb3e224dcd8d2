/- Closed facts of the row AssessDifference. No statement of the seat is proved here. -/
import Derived.Test.YtknkknahmebbfaaGreatDoorFp
set_option linter.unusedVariables false
set_option maxRecDepth 100000
namespace Go.Proofs.YtknkknahmebbfaaGreatDoor
open Go
def assessDifferenceJ (F : Program → FuncId → Func → ChangeSpec → OpenClaim → Bool) : Prop := F Tryz.prog 3 Tryz.f3 Rows.assessDifferenceSpec Rows.assessDifferenceRow = true
theorem assessDifference_q0 : assessDifferenceJ fun P f fn s c => c.wf (OpenSpec.ofChange s) := (by kernel_rfl : _ = true)
theorem assessDifference_q3 : assessDifferenceJ fun P f fn s c => fn.params.all (P.readableRec ·) := (by kernel_rfl : _ = true)
theorem assessDifference_q4 : assessDifferenceJ fun P f fn s c => namedTie P c.named s.vars := (by kernel_rfl : _ = true)
theorem assessDifference_q5 : assessDifferenceJ fun P f fn s c => (c.stops == []) := (by kernel_rfl : _ = true)
theorem assessDifference_q7 : assessDifferenceJ fun P f fn s c => (c.knobs == []) := (by kernel_rfl : _ = true)
theorem assessDifference_q9 : assessDifferenceJ fun P f fn s c => (c.inPlace == P.inPlace f) := (by kernel_rfl : _ = true)
theorem assessDifference_q10 : assessDifferenceJ fun P f fn s c => (c.unfollowed == P.unfollowed f) := (by kernel_rfl : _ = true)
theorem assessDifference_q11 : assessDifferenceJ fun P f fn s c => (c.recurses == P.recurses f) := (by kernel_rfl : _ = true)
theorem assessDifference_q12 : assessDifferenceJ fun P f fn s c => (c.named == P.varsNamed f) := (by kernel_rfl : _ = true)
theorem assessDifference_q13 : assessDifferenceJ fun P f fn s c => (c.maps == (fn.params.toList ++ s.plain.varTypes P).any (P.mapsRec ·)) := (by kernel_rfl : _ = true)
theorem assessDifference_q14 : assessDifferenceJ fun P f fn s c => (c.ifaces == (fn.params.toList ++ s.plain.varTypes P).any (P.ifacesRec ·)) := (by kernel_rfl : _ = true)
theorem assessDifference_q15 : assessDifferenceJ fun P f fn s c => (c.mapsOut == P.mapsAmong fn.resultTypes.toList) := (by kernel_rfl : _ = true)
theorem assessDifference_q16 : assessDifferenceJ fun P f fn s c => (c.loops == (fn.params.toList ++ s.plain.varTypes P).any (P.loopsFrom ·)) := (by kernel_rfl : _ = true)
theorem assessDifference_q17 : assessDifferenceJ fun P f fn s c => (c.wideKeys == (fn.params.toList ++ s.plain.varTypes P ++ fn.resultTypes.toList).any (P.wideKeysFrom ·)) := (by kernel_rfl : _ = true)
theorem assessDifference_q18 : assessDifferenceJ fun P f fn s c => s.vars.all (P.varReadable ·) := (by kernel_rfl : _ = true)
theorem assessDifference_q19 : assessDifferenceJ fun P f fn s c => fn.resultTypes.all (fun t => P.readableRec t && decide (t < P.types.size)) := (by kernel_rfl : _ = true)
theorem assessDifference_q20 : assessDifferenceJ fun P f fn s c => (c.ifacesOut == fn.resultTypes.toList.any (P.ifacesRec ·)) := (by kernel_rfl : _ = true)
theorem assessDifference_q21 : assessDifferenceJ fun P f fn s c => (c.loopsOut == fn.resultTypes.toList.any (P.loopsFrom ·)) := (by kernel_rfl : _ = true)
theorem assessDifference_q23 : assessDifferenceJ fun P f fn s c => c.shortTexts.isNone := (by kernel_rfl : _ = true)
theorem assessDifference_q27 : assessDifferenceJ fun P f fn s c => (P.make == some c.make) := (by kernel_rfl : _ = true)
theorem assessDifference_q28 : assessDifferenceJ fun P f fn s c => (c.kinds == (if c.domain.isEmpty then [] else fn.params.toList.map fun t => match P.underlying t with | some (.int k) => some k | _ => none)) := (by kernel_rfl : _ = true)
theorem assessDifference_q29 : assessDifferenceJ fun P f fn s c => (c.pinned == c.pinnedBy) := (by kernel_rfl : _ = true)
theorem assessDifference_q30 : assessDifferenceJ fun P f fn s c => (c.veiled == (fn.params.toList ++ s.plain.varTypes P ++ fn.resultTypes.toList).any (P.veiledRec ·)) := (by kernel_rfl : _ = true)
theorem assessDifference_q31 : assessDifferenceJ fun P f fn s c => c.veiledFits P fn.params.toList (fn.params.toList ++ s.plain.varTypes P ++ fn.resultTypes.toList) := (by kernel_rfl : _ = true)
theorem assessDifference_closed : joinedFacts Tryz.prog 3 Tryz.f3 Rows.assessDifferenceSpec Rows.assessDifferenceRow = true := by unfold joinedFacts; exact (fp_and (fp_and (fp_and (fp_and (fp_and (fp_and (fp_and (fp_and (fp_and (fp_and (fp_and (fp_and (fp_and (fp_and (fp_and (fp_and (fp_and (fp_and (fp_and (fp_and (fp_and (fp_and (fp_and (fp_and (fp_and (fp_and (fp_and (fp_and (fp_and (fp_and (fp_and assessDifference_q0 fp_1) fp_2) assessDifference_q3) assessDifference_q4) assessDifference_q5) fp_6) assessDifference_q7) fp_8) assessDifference_q9) assessDifference_q10) assessDifference_q11) assessDifference_q12) assessDifference_q13) assessDifference_q14) assessDifference_q15) assessDifference_q16) assessDifference_q17) assessDifference_q18) assessDifference_q19) assessDifference_q20) assessDifference_q21) fp_22) assessDifference_q23) fp_24) fp_25) fp_26) assessDifference_q27) assessDifference_q28) assessDifference_q29) assessDifference_q30) assessDifference_q31)
theorem assessDifference_named : Tryz.prog.funcNamed "customs/customslaw20.AssessDifference" = some 3 := by kernel_rfl
theorem assessDifference_goes : false = Rows.assessDifferenceRow.goesBy Tryz.prog := by kernel_rfl
end Go.Proofs.YtknkknahmebbfaaGreatDoor
