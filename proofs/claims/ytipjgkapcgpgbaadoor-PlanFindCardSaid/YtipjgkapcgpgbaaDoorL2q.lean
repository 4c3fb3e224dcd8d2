/- Closed facts of the row PlanFind. No statement of the seat is proved here. -/
import Derived.Test.YtipjgkapcgpgbaaDoorFp
set_option linter.unusedVariables false
set_option maxRecDepth 100000
namespace Go.Proofs.YtipjgkapcgpgbaaDoor
open Go
def planFindJ (F : Program → FuncId → Func → ChangeSpec → OpenClaim → Bool) : Prop := F Tryd.prog 8 Tryd.f8 Rows.planFindSpec Rows.planFindRow = true
theorem planFind_q0 : planFindJ fun P f fn s c => c.wf (OpenSpec.ofChange s) := (by kernel_rfl : _ = true)
theorem planFind_q3 : planFindJ fun P f fn s c => fn.params.all (P.readableRec ·) := (by kernel_rfl : _ = true)
theorem planFind_q4 : planFindJ fun P f fn s c => namedTie P c.named s.vars := (by kernel_rfl : _ = true)
theorem planFind_q5 : planFindJ fun P f fn s c => (c.stops == []) := (by kernel_rfl : _ = true)
theorem planFind_q7 : planFindJ fun P f fn s c => (c.knobs == []) := (by kernel_rfl : _ = true)
theorem planFind_q9 : planFindJ fun P f fn s c => (c.inPlace == P.inPlace f) := (by kernel_rfl : _ = true)
theorem planFind_q10 : planFindJ fun P f fn s c => (c.unfollowed == P.unfollowed f) := (by kernel_rfl : _ = true)
theorem planFind_q11 : planFindJ fun P f fn s c => (c.recurses == P.recurses f) := (by kernel_rfl : _ = true)
theorem planFind_q12 : planFindJ fun P f fn s c => (c.named == P.varsNamed f) := (by kernel_rfl : _ = true)
theorem planFind_q13 : planFindJ fun P f fn s c => (c.maps == (fn.params.toList ++ s.plain.varTypes P).any (P.mapsRec ·)) := (by kernel_rfl : _ = true)
theorem planFind_q14 : planFindJ fun P f fn s c => (c.ifaces == (fn.params.toList ++ s.plain.varTypes P).any (P.ifacesRec ·)) := (by kernel_rfl : _ = true)
theorem planFind_q15 : planFindJ fun P f fn s c => (c.mapsOut == P.mapsAmong fn.resultTypes.toList) := (by kernel_rfl : _ = true)
theorem planFind_q16 : planFindJ fun P f fn s c => (c.loops == (fn.params.toList ++ s.plain.varTypes P).any (P.loopsFrom ·)) := (by kernel_rfl : _ = true)
theorem planFind_q17 : planFindJ fun P f fn s c => (c.wideKeys == (fn.params.toList ++ s.plain.varTypes P ++ fn.resultTypes.toList).any (P.wideKeysFrom ·)) := (by kernel_rfl : _ = true)
theorem planFind_q18 : planFindJ fun P f fn s c => s.vars.all (P.varReadable ·) := (by kernel_rfl : _ = true)
theorem planFind_q19 : planFindJ fun P f fn s c => fn.resultTypes.all (fun t => P.readableRec t && decide (t < P.types.size)) := (by kernel_rfl : _ = true)
theorem planFind_q20 : planFindJ fun P f fn s c => (c.ifacesOut == fn.resultTypes.toList.any (P.ifacesRec ·)) := (by kernel_rfl : _ = true)
theorem planFind_q21 : planFindJ fun P f fn s c => (c.loopsOut == fn.resultTypes.toList.any (P.loopsFrom ·)) := (by kernel_rfl : _ = true)
theorem planFind_q23 : planFindJ fun P f fn s c => c.shortTexts.isNone := (by kernel_rfl : _ = true)
theorem planFind_q27 : planFindJ fun P f fn s c => (P.make == some c.make) := (by kernel_rfl : _ = true)
theorem planFind_q28 : planFindJ fun P f fn s c => (c.kinds == (if c.domain.isEmpty then [] else fn.params.toList.map fun t => match P.underlying t with | some (.int k) => some k | _ => none)) := (by kernel_rfl : _ = true)
theorem planFind_q29 : planFindJ fun P f fn s c => (c.pinned == c.pinnedBy) := (by kernel_rfl : _ = true)
theorem planFind_q30 : planFindJ fun P f fn s c => (c.veiled == (fn.params.toList ++ s.plain.varTypes P ++ fn.resultTypes.toList).any (P.veiledRec ·)) := (by kernel_rfl : _ = true)
theorem planFind_q31 : planFindJ fun P f fn s c => c.veiledFits P fn.params.toList (fn.params.toList ++ s.plain.varTypes P ++ fn.resultTypes.toList) := (by kernel_rfl : _ = true)
theorem planFind_closed : joinedFacts Tryd.prog 8 Tryd.f8 Rows.planFindSpec Rows.planFindRow = true := by unfold joinedFacts; exact (fp_and (fp_and (fp_and (fp_and (fp_and (fp_and (fp_and (fp_and (fp_and (fp_and (fp_and (fp_and (fp_and (fp_and (fp_and (fp_and (fp_and (fp_and (fp_and (fp_and (fp_and (fp_and (fp_and (fp_and (fp_and (fp_and (fp_and (fp_and (fp_and (fp_and (fp_and planFind_q0 fp_1) fp_2) planFind_q3) planFind_q4) planFind_q5) fp_6) planFind_q7) fp_8) planFind_q9) planFind_q10) planFind_q11) planFind_q12) planFind_q13) planFind_q14) planFind_q15) planFind_q16) planFind_q17) planFind_q18) planFind_q19) planFind_q20) planFind_q21) fp_22) planFind_q23) fp_24) fp_25) fp_26) planFind_q27) planFind_q28) planFind_q29) planFind_q30) planFind_q31)
theorem planFind_named : Tryd.prog.funcNamed "customs/customslaw13.PlanFind" = some 8 := by kernel_rfl
theorem planFind_goes : false = Rows.planFindRow.goesBy Tryd.prog := by kernel_rfl
end Go.Proofs.YtipjgkapcgpgbaaDoor
