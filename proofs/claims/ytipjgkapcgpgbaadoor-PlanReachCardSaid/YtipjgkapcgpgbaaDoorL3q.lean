/- Closed facts of the row PlanReach. No statement of the seat is proved here. -/
import Derived.Test.YtipjgkapcgpgbaaDoorFp
set_option linter.unusedVariables false
set_option maxRecDepth 100000
namespace Go.Proofs.YtipjgkapcgpgbaaDoor
open Go
def planReachJ (F : Program → FuncId → Func → ChangeSpec → OpenClaim → Bool) : Prop := F Tryd.prog 7 Tryd.f7 Rows.planReachSpec Rows.planReachRow = true
theorem planReach_q0 : planReachJ fun P f fn s c => c.wf (OpenSpec.ofChange s) := (by kernel_rfl : _ = true)
theorem planReach_q3 : planReachJ fun P f fn s c => fn.params.all (P.readableRec ·) := (by kernel_rfl : _ = true)
theorem planReach_q4 : planReachJ fun P f fn s c => namedTie P c.named s.vars := (by kernel_rfl : _ = true)
theorem planReach_q5 : planReachJ fun P f fn s c => (c.stops == []) := (by kernel_rfl : _ = true)
theorem planReach_q7 : planReachJ fun P f fn s c => (c.knobs == []) := (by kernel_rfl : _ = true)
theorem planReach_q9 : planReachJ fun P f fn s c => (c.inPlace == P.inPlace f) := (by kernel_rfl : _ = true)
theorem planReach_q10 : planReachJ fun P f fn s c => (c.unfollowed == P.unfollowed f) := (by kernel_rfl : _ = true)
theorem planReach_q11 : planReachJ fun P f fn s c => (c.recurses == P.recurses f) := (by kernel_rfl : _ = true)
theorem planReach_q12 : planReachJ fun P f fn s c => (c.named == P.varsNamed f) := (by kernel_rfl : _ = true)
theorem planReach_q13 : planReachJ fun P f fn s c => (c.maps == (fn.params.toList ++ s.plain.varTypes P).any (P.mapsRec ·)) := (by kernel_rfl : _ = true)
theorem planReach_q14 : planReachJ fun P f fn s c => (c.ifaces == (fn.params.toList ++ s.plain.varTypes P).any (P.ifacesRec ·)) := (by kernel_rfl : _ = true)
theorem planReach_q15 : planReachJ fun P f fn s c => (c.mapsOut == P.mapsAmong fn.resultTypes.toList) := (by kernel_rfl : _ = true)
theorem planReach_q16 : planReachJ fun P f fn s c => (c.loops == (fn.params.toList ++ s.plain.varTypes P).any (P.loopsFrom ·)) := (by kernel_rfl : _ = true)
theorem planReach_q17 : planReachJ fun P f fn s c => (c.wideKeys == (fn.params.toList ++ s.plain.varTypes P ++ fn.resultTypes.toList).any (P.wideKeysFrom ·)) := (by kernel_rfl : _ = true)
theorem planReach_q18 : planReachJ fun P f fn s c => s.vars.all (P.varReadable ·) := (by kernel_rfl : _ = true)
theorem planReach_q19 : planReachJ fun P f fn s c => fn.resultTypes.all (fun t => P.readableRec t && decide (t < P.types.size)) := (by kernel_rfl : _ = true)
theorem planReach_q20 : planReachJ fun P f fn s c => (c.ifacesOut == fn.resultTypes.toList.any (P.ifacesRec ·)) := (by kernel_rfl : _ = true)
theorem planReach_q21 : planReachJ fun P f fn s c => (c.loopsOut == fn.resultTypes.toList.any (P.loopsFrom ·)) := (by kernel_rfl : _ = true)
theorem planReach_q23 : planReachJ fun P f fn s c => c.shortTexts.isNone := (by kernel_rfl : _ = true)
theorem planReach_q27 : planReachJ fun P f fn s c => (P.make == some c.make) := (by kernel_rfl : _ = true)
theorem planReach_q28 : planReachJ fun P f fn s c => (c.kinds == (if c.domain.isEmpty then [] else fn.params.toList.map fun t => match P.underlying t with | some (.int k) => some k | _ => none)) := (by kernel_rfl : _ = true)
theorem planReach_q29 : planReachJ fun P f fn s c => (c.pinned == c.pinnedBy) := (by kernel_rfl : _ = true)
theorem planReach_q30 : planReachJ fun P f fn s c => (c.veiled == (fn.params.toList ++ s.plain.varTypes P ++ fn.resultTypes.toList).any (P.veiledRec ·)) := (by kernel_rfl : _ = true)
theorem planReach_q31 : planReachJ fun P f fn s c => c.veiledFits P fn.params.toList (fn.params.toList ++ s.plain.varTypes P ++ fn.resultTypes.toList) := (by kernel_rfl : _ = true)
theorem planReach_closed : joinedFacts Tryd.prog 7 Tryd.f7 Rows.planReachSpec Rows.planReachRow = true := by unfold joinedFacts; exact (fp_and (fp_and (fp_and (fp_and (fp_and (fp_and (fp_and (fp_and (fp_and (fp_and (fp_and (fp_and (fp_and (fp_and (fp_and (fp_and (fp_and (fp_and (fp_and (fp_and (fp_and (fp_and (fp_and (fp_and (fp_and (fp_and (fp_and (fp_and (fp_and (fp_and (fp_and planReach_q0 fp_1) fp_2) planReach_q3) planReach_q4) planReach_q5) fp_6) planReach_q7) fp_8) planReach_q9) planReach_q10) planReach_q11) planReach_q12) planReach_q13) planReach_q14) planReach_q15) planReach_q16) planReach_q17) planReach_q18) planReach_q19) planReach_q20) planReach_q21) fp_22) planReach_q23) fp_24) fp_25) fp_26) planReach_q27) planReach_q28) planReach_q29) planReach_q30) planReach_q31)
theorem planReach_named : Tryd.prog.funcNamed "customs/customslaw13.PlanReach" = some 7 := by kernel_rfl
theorem planReach_goes : false = Rows.planReachRow.goesBy Tryd.prog := by kernel_rfl
end Go.Proofs.YtipjgkapcgpgbaaDoor
