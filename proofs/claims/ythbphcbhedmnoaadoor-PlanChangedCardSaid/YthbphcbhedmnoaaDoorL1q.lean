/- Closed facts of the row PlanChanged. No statement of the seat is proved here. -/
import Derived.Test.YthbphcbhedmnoaaDoorFp
set_option linter.unusedVariables false
set_option maxRecDepth 100000
namespace Go.Proofs.YthbphcbhedmnoaaDoor
open Go
def planChangedJ (F : Program → FuncId → Func → ChangeSpec → OpenClaim → Bool) : Prop := F Tryd.prog 3 Tryd.f3 Rows.planChangedSpec Rows.planChangedRow = true
theorem planChanged_q0 : planChangedJ fun P f fn s c => c.wf (OpenSpec.ofChange s) := (by kernel_rfl : _ = true)
theorem planChanged_q3 : planChangedJ fun P f fn s c => fn.params.all (P.readableRec ·) := (by kernel_rfl : _ = true)
theorem planChanged_q4 : planChangedJ fun P f fn s c => namedTie P c.named s.vars := (by kernel_rfl : _ = true)
theorem planChanged_q5 : planChangedJ fun P f fn s c => (c.stops == []) := (by kernel_rfl : _ = true)
theorem planChanged_q7 : planChangedJ fun P f fn s c => (c.knobs == []) := (by kernel_rfl : _ = true)
theorem planChanged_q9 : planChangedJ fun P f fn s c => (c.inPlace == P.inPlace f) := (by kernel_rfl : _ = true)
theorem planChanged_q10 : planChangedJ fun P f fn s c => (c.unfollowed == P.unfollowed f) := (by kernel_rfl : _ = true)
theorem planChanged_q11 : planChangedJ fun P f fn s c => (c.recurses == P.recurses f) := (by kernel_rfl : _ = true)
theorem planChanged_q12 : planChangedJ fun P f fn s c => (c.named == P.varsNamed f) := (by kernel_rfl : _ = true)
theorem planChanged_q13 : planChangedJ fun P f fn s c => (c.maps == (fn.params.toList ++ s.plain.varTypes P).any (P.mapsRec ·)) := (by kernel_rfl : _ = true)
theorem planChanged_q14 : planChangedJ fun P f fn s c => (c.ifaces == (fn.params.toList ++ s.plain.varTypes P).any (P.ifacesRec ·)) := (by kernel_rfl : _ = true)
theorem planChanged_q15 : planChangedJ fun P f fn s c => (c.mapsOut == P.mapsAmong fn.resultTypes.toList) := (by kernel_rfl : _ = true)
theorem planChanged_q16 : planChangedJ fun P f fn s c => (c.loops == (fn.params.toList ++ s.plain.varTypes P).any (P.loopsFrom ·)) := (by kernel_rfl : _ = true)
theorem planChanged_q17 : planChangedJ fun P f fn s c => (c.wideKeys == (fn.params.toList ++ s.plain.varTypes P ++ fn.resultTypes.toList).any (P.wideKeysFrom ·)) := (by kernel_rfl : _ = true)
theorem planChanged_q18 : planChangedJ fun P f fn s c => s.vars.all (P.varReadable ·) := (by kernel_rfl : _ = true)
theorem planChanged_q19 : planChangedJ fun P f fn s c => fn.resultTypes.all (fun t => P.readableRec t && decide (t < P.types.size)) := (by kernel_rfl : _ = true)
theorem planChanged_q20 : planChangedJ fun P f fn s c => (c.ifacesOut == fn.resultTypes.toList.any (P.ifacesRec ·)) := (by kernel_rfl : _ = true)
theorem planChanged_q21 : planChangedJ fun P f fn s c => (c.loopsOut == fn.resultTypes.toList.any (P.loopsFrom ·)) := (by kernel_rfl : _ = true)
theorem planChanged_q23 : planChangedJ fun P f fn s c => c.shortTexts.isNone := (by kernel_rfl : _ = true)
theorem planChanged_q27 : planChangedJ fun P f fn s c => (P.make == some c.make) := (by kernel_rfl : _ = true)
theorem planChanged_q28 : planChangedJ fun P f fn s c => (c.kinds == (if c.domain.isEmpty then [] else fn.params.toList.map fun t => match P.underlying t with | some (.int k) => some k | _ => none)) := (by kernel_rfl : _ = true)
theorem planChanged_q29 : planChangedJ fun P f fn s c => (c.pinned == c.pinnedBy) := (by kernel_rfl : _ = true)
theorem planChanged_q30 : planChangedJ fun P f fn s c => (c.veiled == (fn.params.toList ++ s.plain.varTypes P ++ fn.resultTypes.toList).any (P.veiledRec ·)) := (by kernel_rfl : _ = true)
theorem planChanged_q31 : planChangedJ fun P f fn s c => c.veiledFits P fn.params.toList (fn.params.toList ++ s.plain.varTypes P ++ fn.resultTypes.toList) := (by kernel_rfl : _ = true)
theorem planChanged_closed : joinedFacts Tryd.prog 3 Tryd.f3 Rows.planChangedSpec Rows.planChangedRow = true := by unfold joinedFacts; exact (fp_and (fp_and (fp_and (fp_and (fp_and (fp_and (fp_and (fp_and (fp_and (fp_and (fp_and (fp_and (fp_and (fp_and (fp_and (fp_and (fp_and (fp_and (fp_and (fp_and (fp_and (fp_and (fp_and (fp_and (fp_and (fp_and (fp_and (fp_and (fp_and (fp_and (fp_and planChanged_q0 fp_1) fp_2) planChanged_q3) planChanged_q4) planChanged_q5) fp_6) planChanged_q7) fp_8) planChanged_q9) planChanged_q10) planChanged_q11) planChanged_q12) planChanged_q13) planChanged_q14) planChanged_q15) planChanged_q16) planChanged_q17) planChanged_q18) planChanged_q19) planChanged_q20) planChanged_q21) fp_22) planChanged_q23) fp_24) fp_25) fp_26) planChanged_q27) planChanged_q28) planChanged_q29) planChanged_q30) planChanged_q31)
theorem planChanged_named : Tryd.prog.funcNamed "customs/customslaw13.PlanChanged" = some 3 := by kernel_rfl
theorem planChanged_goes : false = Rows.planChangedRow.goesBy Tryd.prog := by kernel_rfl
end Go.Proofs.YthbphcbhedmnoaaDoor
