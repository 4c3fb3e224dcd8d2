/- Closed facts of the row PlanComponents. No statement of the seat is proved here. -/
import Derived.Test.YtipjgkapcgpgbaaDoorFp
set_option linter.unusedVariables false
set_option maxRecDepth 100000
namespace Go.Proofs.YtipjgkapcgpgbaaDoor
open Go
def planComponentsJ (F : Program → FuncId → Func → ChangeSpec → OpenClaim → Bool) : Prop := F Tryd.prog 5 Tryd.f5 Rows.planComponentsSpec Rows.planComponentsRow = true
theorem planComponents_q0 : planComponentsJ fun P f fn s c => c.wf (OpenSpec.ofChange s) := (by kernel_rfl : _ = true)
theorem planComponents_q3 : planComponentsJ fun P f fn s c => fn.params.all (P.readableRec ·) := (by kernel_rfl : _ = true)
theorem planComponents_q4 : planComponentsJ fun P f fn s c => namedTie P c.named s.vars := (by kernel_rfl : _ = true)
theorem planComponents_q5 : planComponentsJ fun P f fn s c => (c.stops == []) := (by kernel_rfl : _ = true)
theorem planComponents_q7 : planComponentsJ fun P f fn s c => (c.knobs == []) := (by kernel_rfl : _ = true)
theorem planComponents_q9 : planComponentsJ fun P f fn s c => (c.inPlace == P.inPlace f) := (by kernel_rfl : _ = true)
theorem planComponents_q10 : planComponentsJ fun P f fn s c => (c.unfollowed == P.unfollowed f) := (by kernel_rfl : _ = true)
theorem planComponents_q11 : planComponentsJ fun P f fn s c => (c.recurses == P.recurses f) := (by kernel_rfl : _ = true)
theorem planComponents_q12 : planComponentsJ fun P f fn s c => (c.named == P.varsNamed f) := (by kernel_rfl : _ = true)
theorem planComponents_q13 : planComponentsJ fun P f fn s c => (c.maps == (fn.params.toList ++ s.plain.varTypes P).any (P.mapsRec ·)) := (by kernel_rfl : _ = true)
theorem planComponents_q14 : planComponentsJ fun P f fn s c => (c.ifaces == (fn.params.toList ++ s.plain.varTypes P).any (P.ifacesRec ·)) := (by kernel_rfl : _ = true)
theorem planComponents_q15 : planComponentsJ fun P f fn s c => (c.mapsOut == P.mapsAmong fn.resultTypes.toList) := (by kernel_rfl : _ = true)
theorem planComponents_q16 : planComponentsJ fun P f fn s c => (c.loops == (fn.params.toList ++ s.plain.varTypes P).any (P.loopsFrom ·)) := (by kernel_rfl : _ = true)
theorem planComponents_q17 : planComponentsJ fun P f fn s c => (c.wideKeys == (fn.params.toList ++ s.plain.varTypes P ++ fn.resultTypes.toList).any (P.wideKeysFrom ·)) := (by kernel_rfl : _ = true)
theorem planComponents_q18 : planComponentsJ fun P f fn s c => s.vars.all (P.varReadable ·) := (by kernel_rfl : _ = true)
theorem planComponents_q19 : planComponentsJ fun P f fn s c => fn.resultTypes.all (fun t => P.readableRec t && decide (t < P.types.size)) := (by kernel_rfl : _ = true)
theorem planComponents_q20 : planComponentsJ fun P f fn s c => (c.ifacesOut == fn.resultTypes.toList.any (P.ifacesRec ·)) := (by kernel_rfl : _ = true)
theorem planComponents_q21 : planComponentsJ fun P f fn s c => (c.loopsOut == fn.resultTypes.toList.any (P.loopsFrom ·)) := (by kernel_rfl : _ = true)
theorem planComponents_q23 : planComponentsJ fun P f fn s c => c.shortTexts.isNone := (by kernel_rfl : _ = true)
theorem planComponents_q27 : planComponentsJ fun P f fn s c => (P.make == some c.make) := (by kernel_rfl : _ = true)
theorem planComponents_q28 : planComponentsJ fun P f fn s c => (c.kinds == (if c.domain.isEmpty then [] else fn.params.toList.map fun t => match P.underlying t with | some (.int k) => some k | _ => none)) := (by kernel_rfl : _ = true)
theorem planComponents_q29 : planComponentsJ fun P f fn s c => (c.pinned == c.pinnedBy) := (by kernel_rfl : _ = true)
theorem planComponents_q30 : planComponentsJ fun P f fn s c => (c.veiled == (fn.params.toList ++ s.plain.varTypes P ++ fn.resultTypes.toList).any (P.veiledRec ·)) := (by kernel_rfl : _ = true)
theorem planComponents_q31 : planComponentsJ fun P f fn s c => c.veiledFits P fn.params.toList (fn.params.toList ++ s.plain.varTypes P ++ fn.resultTypes.toList) := (by kernel_rfl : _ = true)
theorem planComponents_closed : joinedFacts Tryd.prog 5 Tryd.f5 Rows.planComponentsSpec Rows.planComponentsRow = true := by unfold joinedFacts; exact (fp_and (fp_and (fp_and (fp_and (fp_and (fp_and (fp_and (fp_and (fp_and (fp_and (fp_and (fp_and (fp_and (fp_and (fp_and (fp_and (fp_and (fp_and (fp_and (fp_and (fp_and (fp_and (fp_and (fp_and (fp_and (fp_and (fp_and (fp_and (fp_and (fp_and (fp_and planComponents_q0 fp_1) fp_2) planComponents_q3) planComponents_q4) planComponents_q5) fp_6) planComponents_q7) fp_8) planComponents_q9) planComponents_q10) planComponents_q11) planComponents_q12) planComponents_q13) planComponents_q14) planComponents_q15) planComponents_q16) planComponents_q17) planComponents_q18) planComponents_q19) planComponents_q20) planComponents_q21) fp_22) planComponents_q23) fp_24) fp_25) fp_26) planComponents_q27) planComponents_q28) planComponents_q29) planComponents_q30) planComponents_q31)
theorem planComponents_named : Tryd.prog.funcNamed "customs/customslaw13.PlanComponents" = some 5 := by kernel_rfl
theorem planComponents_goes : false = Rows.planComponentsRow.goesBy Tryd.prog := by kernel_rfl
end Go.Proofs.YtipjgkapcgpgbaaDoor
