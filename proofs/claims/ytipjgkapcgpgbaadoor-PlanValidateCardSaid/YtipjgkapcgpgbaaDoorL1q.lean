/- Closed facts of the row PlanValidate. No statement of the seat is proved here. -/
import Derived.Test.YtipjgkapcgpgbaaDoorFp
set_option linter.unusedVariables false
set_option maxRecDepth 100000
namespace Go.Proofs.YtipjgkapcgpgbaaDoor
open Go
def planValidateJ (F : Program → FuncId → Func → ChangeSpec → OpenClaim → Bool) : Prop := F Tryd.prog 3 Tryd.f3 Rows.planValidateSpec Rows.planValidateRow = true
theorem planValidate_q0 : planValidateJ fun P f fn s c => c.wf (OpenSpec.ofChange s) := (by kernel_rfl : _ = true)
theorem planValidate_q3 : planValidateJ fun P f fn s c => fn.params.all (P.readableRec ·) := (by kernel_rfl : _ = true)
theorem planValidate_q4 : planValidateJ fun P f fn s c => namedTie P c.named s.vars := (by kernel_rfl : _ = true)
theorem planValidate_q5 : planValidateJ fun P f fn s c => (c.stops == []) := (by kernel_rfl : _ = true)
theorem planValidate_q7 : planValidateJ fun P f fn s c => (c.knobs == []) := (by kernel_rfl : _ = true)
theorem planValidate_q9 : planValidateJ fun P f fn s c => (c.inPlace == P.inPlace f) := (by kernel_rfl : _ = true)
theorem planValidate_q10 : planValidateJ fun P f fn s c => (c.unfollowed == P.unfollowed f) := (by kernel_rfl : _ = true)
theorem planValidate_q11 : planValidateJ fun P f fn s c => (c.recurses == P.recurses f) := (by kernel_rfl : _ = true)
theorem planValidate_q12 : planValidateJ fun P f fn s c => (c.named == P.varsNamed f) := (by kernel_rfl : _ = true)
theorem planValidate_q13 : planValidateJ fun P f fn s c => (c.maps == (fn.params.toList ++ s.plain.varTypes P).any (P.mapsRec ·)) := (by kernel_rfl : _ = true)
theorem planValidate_q14 : planValidateJ fun P f fn s c => (c.ifaces == (fn.params.toList ++ s.plain.varTypes P).any (P.ifacesRec ·)) := (by kernel_rfl : _ = true)
theorem planValidate_q15 : planValidateJ fun P f fn s c => (c.mapsOut == P.mapsAmong fn.resultTypes.toList) := (by kernel_rfl : _ = true)
theorem planValidate_q16 : planValidateJ fun P f fn s c => (c.loops == (fn.params.toList ++ s.plain.varTypes P).any (P.loopsFrom ·)) := (by kernel_rfl : _ = true)
theorem planValidate_q17 : planValidateJ fun P f fn s c => (c.wideKeys == (fn.params.toList ++ s.plain.varTypes P ++ fn.resultTypes.toList).any (P.wideKeysFrom ·)) := (by kernel_rfl : _ = true)
theorem planValidate_q18 : planValidateJ fun P f fn s c => s.vars.all (P.varReadable ·) := (by kernel_rfl : _ = true)
theorem planValidate_q19 : planValidateJ fun P f fn s c => fn.resultTypes.all (fun t => P.readableRec t && decide (t < P.types.size)) := (by kernel_rfl : _ = true)
theorem planValidate_q20 : planValidateJ fun P f fn s c => (c.ifacesOut == fn.resultTypes.toList.any (P.ifacesRec ·)) := (by kernel_rfl : _ = true)
theorem planValidate_q21 : planValidateJ fun P f fn s c => (c.loopsOut == fn.resultTypes.toList.any (P.loopsFrom ·)) := (by kernel_rfl : _ = true)
theorem planValidate_q23 : planValidateJ fun P f fn s c => c.shortTexts.isNone := (by kernel_rfl : _ = true)
theorem planValidate_q27 : planValidateJ fun P f fn s c => (P.make == some c.make) := (by kernel_rfl : _ = true)
theorem planValidate_q28 : planValidateJ fun P f fn s c => (c.kinds == (if c.domain.isEmpty then [] else fn.params.toList.map fun t => match P.underlying t with | some (.int k) => some k | _ => none)) := (by kernel_rfl : _ = true)
theorem planValidate_q29 : planValidateJ fun P f fn s c => (c.pinned == c.pinnedBy) := (by kernel_rfl : _ = true)
theorem planValidate_q30 : planValidateJ fun P f fn s c => (c.veiled == (fn.params.toList ++ s.plain.varTypes P ++ fn.resultTypes.toList).any (P.veiledRec ·)) := (by kernel_rfl : _ = true)
theorem planValidate_q31 : planValidateJ fun P f fn s c => c.veiledFits P fn.params.toList (fn.params.toList ++ s.plain.varTypes P ++ fn.resultTypes.toList) := (by kernel_rfl : _ = true)
theorem planValidate_closed : joinedFacts Tryd.prog 3 Tryd.f3 Rows.planValidateSpec Rows.planValidateRow = true := by unfold joinedFacts; exact (fp_and (fp_and (fp_and (fp_and (fp_and (fp_and (fp_and (fp_and (fp_and (fp_and (fp_and (fp_and (fp_and (fp_and (fp_and (fp_and (fp_and (fp_and (fp_and (fp_and (fp_and (fp_and (fp_and (fp_and (fp_and (fp_and (fp_and (fp_and (fp_and (fp_and (fp_and planValidate_q0 fp_1) fp_2) planValidate_q3) planValidate_q4) planValidate_q5) fp_6) planValidate_q7) fp_8) planValidate_q9) planValidate_q10) planValidate_q11) planValidate_q12) planValidate_q13) planValidate_q14) planValidate_q15) planValidate_q16) planValidate_q17) planValidate_q18) planValidate_q19) planValidate_q20) planValidate_q21) fp_22) planValidate_q23) fp_24) fp_25) fp_26) planValidate_q27) planValidate_q28) planValidate_q29) planValidate_q30) planValidate_q31)
theorem planValidate_named : Tryd.prog.funcNamed "customs/customslaw13.PlanValidate" = some 3 := by kernel_rfl
theorem planValidate_goes : false = Rows.planValidateRow.goesBy Tryd.prog := by kernel_rfl
end Go.Proofs.YtipjgkapcgpgbaaDoor
