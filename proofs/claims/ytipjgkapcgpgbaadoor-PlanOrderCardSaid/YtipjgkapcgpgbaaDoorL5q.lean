/- Closed facts of the row PlanOrder. No statement of the seat is proved here. -/
import Derived.Test.YtipjgkapcgpgbaaDoorFp
set_option linter.unusedVariables false
set_option maxRecDepth 100000
namespace Go.Proofs.YtipjgkapcgpgbaaDoor
open Go
def planOrderJ (F : Program → FuncId → Func → ChangeSpec → OpenClaim → Bool) : Prop := F Tryd.prog 6 Tryd.f6 Rows.planOrderSpec Rows.planOrderRow = true
theorem planOrder_q0 : planOrderJ fun P f fn s c => c.wf (OpenSpec.ofChange s) := (by kernel_rfl : _ = true)
theorem planOrder_q3 : planOrderJ fun P f fn s c => fn.params.all (P.readableRec ·) := (by kernel_rfl : _ = true)
theorem planOrder_q4 : planOrderJ fun P f fn s c => namedTie P c.named s.vars := (by kernel_rfl : _ = true)
theorem planOrder_q5 : planOrderJ fun P f fn s c => (c.stops == []) := (by kernel_rfl : _ = true)
theorem planOrder_q7 : planOrderJ fun P f fn s c => (c.knobs == []) := (by kernel_rfl : _ = true)
theorem planOrder_q9 : planOrderJ fun P f fn s c => (c.inPlace == P.inPlace f) := (by kernel_rfl : _ = true)
theorem planOrder_q10 : planOrderJ fun P f fn s c => (c.unfollowed == P.unfollowed f) := (by kernel_rfl : _ = true)
theorem planOrder_q11 : planOrderJ fun P f fn s c => (c.recurses == P.recurses f) := (by kernel_rfl : _ = true)
theorem planOrder_q12 : planOrderJ fun P f fn s c => (c.named == P.varsNamed f) := (by kernel_rfl : _ = true)
theorem planOrder_q13 : planOrderJ fun P f fn s c => (c.maps == (fn.params.toList ++ s.plain.varTypes P).any (P.mapsRec ·)) := (by kernel_rfl : _ = true)
theorem planOrder_q14 : planOrderJ fun P f fn s c => (c.ifaces == (fn.params.toList ++ s.plain.varTypes P).any (P.ifacesRec ·)) := (by kernel_rfl : _ = true)
theorem planOrder_q15 : planOrderJ fun P f fn s c => (c.mapsOut == P.mapsAmong fn.resultTypes.toList) := (by kernel_rfl : _ = true)
theorem planOrder_q16 : planOrderJ fun P f fn s c => (c.loops == (fn.params.toList ++ s.plain.varTypes P).any (P.loopsFrom ·)) := (by kernel_rfl : _ = true)
theorem planOrder_q17 : planOrderJ fun P f fn s c => (c.wideKeys == (fn.params.toList ++ s.plain.varTypes P ++ fn.resultTypes.toList).any (P.wideKeysFrom ·)) := (by kernel_rfl : _ = true)
theorem planOrder_q18 : planOrderJ fun P f fn s c => s.vars.all (P.varReadable ·) := (by kernel_rfl : _ = true)
theorem planOrder_q19 : planOrderJ fun P f fn s c => fn.resultTypes.all (fun t => P.readableRec t && decide (t < P.types.size)) := (by kernel_rfl : _ = true)
theorem planOrder_q20 : planOrderJ fun P f fn s c => (c.ifacesOut == fn.resultTypes.toList.any (P.ifacesRec ·)) := (by kernel_rfl : _ = true)
theorem planOrder_q21 : planOrderJ fun P f fn s c => (c.loopsOut == fn.resultTypes.toList.any (P.loopsFrom ·)) := (by kernel_rfl : _ = true)
theorem planOrder_q23 : planOrderJ fun P f fn s c => c.shortTexts.isNone := (by kernel_rfl : _ = true)
theorem planOrder_q27 : planOrderJ fun P f fn s c => (P.make == some c.make) := (by kernel_rfl : _ = true)
theorem planOrder_q28 : planOrderJ fun P f fn s c => (c.kinds == (if c.domain.isEmpty then [] else fn.params.toList.map fun t => match P.underlying t with | some (.int k) => some k | _ => none)) := (by kernel_rfl : _ = true)
theorem planOrder_q29 : planOrderJ fun P f fn s c => (c.pinned == c.pinnedBy) := (by kernel_rfl : _ = true)
theorem planOrder_q30 : planOrderJ fun P f fn s c => (c.veiled == (fn.params.toList ++ s.plain.varTypes P ++ fn.resultTypes.toList).any (P.veiledRec ·)) := (by kernel_rfl : _ = true)
theorem planOrder_q31 : planOrderJ fun P f fn s c => c.veiledFits P fn.params.toList (fn.params.toList ++ s.plain.varTypes P ++ fn.resultTypes.toList) := (by kernel_rfl : _ = true)
theorem planOrder_closed : joinedFacts Tryd.prog 6 Tryd.f6 Rows.planOrderSpec Rows.planOrderRow = true := by unfold joinedFacts; exact (fp_and (fp_and (fp_and (fp_and (fp_and (fp_and (fp_and (fp_and (fp_and (fp_and (fp_and (fp_and (fp_and (fp_and (fp_and (fp_and (fp_and (fp_and (fp_and (fp_and (fp_and (fp_and (fp_and (fp_and (fp_and (fp_and (fp_and (fp_and (fp_and (fp_and (fp_and planOrder_q0 fp_1) fp_2) planOrder_q3) planOrder_q4) planOrder_q5) fp_6) planOrder_q7) fp_8) planOrder_q9) planOrder_q10) planOrder_q11) planOrder_q12) planOrder_q13) planOrder_q14) planOrder_q15) planOrder_q16) planOrder_q17) planOrder_q18) planOrder_q19) planOrder_q20) planOrder_q21) fp_22) planOrder_q23) fp_24) fp_25) fp_26) planOrder_q27) planOrder_q28) planOrder_q29) planOrder_q30) planOrder_q31)
theorem planOrder_named : Tryd.prog.funcNamed "customs/customslaw13.PlanOrder" = some 6 := by kernel_rfl
theorem planOrder_goes : false = Rows.planOrderRow.goesBy Tryd.prog := by kernel_rfl
end Go.Proofs.YtipjgkapcgpgbaaDoor
