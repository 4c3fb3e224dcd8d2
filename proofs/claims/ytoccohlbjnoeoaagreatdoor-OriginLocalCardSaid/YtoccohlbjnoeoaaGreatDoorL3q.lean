/- Closed facts of the row OriginLocal. No statement of the seat is proved here. -/
import Derived.Test.YtoccohlbjnoeoaaGreatDoorFp
set_option linter.unusedVariables false
set_option maxRecDepth 100000
namespace Go.Proofs.YtoccohlbjnoeoaaGreatDoor
open Go
def originLocalJ (F : Program → FuncId → Func → ChangeSpec → OpenClaim → Bool) : Prop := F Tryz.prog 7 Tryz.f7 Rows.originLocalSpec Rows.originLocalRow = true
theorem originLocal_q0 : originLocalJ fun P f fn s c => c.wf (OpenSpec.ofChange s) := (by kernel_rfl : _ = true)
theorem originLocal_q3 : originLocalJ fun P f fn s c => fn.params.all (P.readableRec ·) := (by kernel_rfl : _ = true)
theorem originLocal_q4 : originLocalJ fun P f fn s c => namedTie P c.named s.vars := (by kernel_rfl : _ = true)
theorem originLocal_q5 : originLocalJ fun P f fn s c => (c.stops == []) := (by kernel_rfl : _ = true)
theorem originLocal_q7 : originLocalJ fun P f fn s c => (c.knobs == []) := (by kernel_rfl : _ = true)
theorem originLocal_q9 : originLocalJ fun P f fn s c => (c.inPlace == P.inPlace f) := (by kernel_rfl : _ = true)
theorem originLocal_q10 : originLocalJ fun P f fn s c => (c.unfollowed == P.unfollowed f) := (by kernel_rfl : _ = true)
theorem originLocal_q11 : originLocalJ fun P f fn s c => (c.recurses == P.recurses f) := (by kernel_rfl : _ = true)
theorem originLocal_q12 : originLocalJ fun P f fn s c => (c.named == P.varsNamed f) := (by kernel_rfl : _ = true)
theorem originLocal_q13 : originLocalJ fun P f fn s c => (c.maps == (fn.params.toList ++ s.plain.varTypes P).any (P.mapsRec ·)) := (by kernel_rfl : _ = true)
theorem originLocal_q14 : originLocalJ fun P f fn s c => (c.ifaces == (fn.params.toList ++ s.plain.varTypes P).any (P.ifacesRec ·)) := (by kernel_rfl : _ = true)
theorem originLocal_q15 : originLocalJ fun P f fn s c => (c.mapsOut == P.mapsAmong fn.resultTypes.toList) := (by kernel_rfl : _ = true)
theorem originLocal_q16 : originLocalJ fun P f fn s c => (c.loops == (fn.params.toList ++ s.plain.varTypes P).any (P.loopsFrom ·)) := (by kernel_rfl : _ = true)
theorem originLocal_q17 : originLocalJ fun P f fn s c => (c.wideKeys == (fn.params.toList ++ s.plain.varTypes P ++ fn.resultTypes.toList).any (P.wideKeysFrom ·)) := (by kernel_rfl : _ = true)
theorem originLocal_q18 : originLocalJ fun P f fn s c => s.vars.all (P.varReadable ·) := (by kernel_rfl : _ = true)
theorem originLocal_q19 : originLocalJ fun P f fn s c => fn.resultTypes.all (fun t => P.readableRec t && decide (t < P.types.size)) := (by kernel_rfl : _ = true)
theorem originLocal_q20 : originLocalJ fun P f fn s c => (c.ifacesOut == fn.resultTypes.toList.any (P.ifacesRec ·)) := (by kernel_rfl : _ = true)
theorem originLocal_q21 : originLocalJ fun P f fn s c => (c.loopsOut == fn.resultTypes.toList.any (P.loopsFrom ·)) := (by kernel_rfl : _ = true)
theorem originLocal_q23 : originLocalJ fun P f fn s c => c.shortTexts.isNone := (by kernel_rfl : _ = true)
theorem originLocal_q27 : originLocalJ fun P f fn s c => (P.make == some c.make) := (by kernel_rfl : _ = true)
theorem originLocal_q28 : originLocalJ fun P f fn s c => (c.kinds == (if c.domain.isEmpty then [] else fn.params.toList.map fun t => match P.underlying t with | some (.int k) => some k | _ => none)) := (by kernel_rfl : _ = true)
theorem originLocal_q29 : originLocalJ fun P f fn s c => (c.pinned == c.pinnedBy) := (by kernel_rfl : _ = true)
theorem originLocal_q30 : originLocalJ fun P f fn s c => (c.veiled == (fn.params.toList ++ s.plain.varTypes P ++ fn.resultTypes.toList).any (P.veiledRec ·)) := (by kernel_rfl : _ = true)
theorem originLocal_q31 : originLocalJ fun P f fn s c => c.veiledFits P fn.params.toList (fn.params.toList ++ s.plain.varTypes P ++ fn.resultTypes.toList) := (by kernel_rfl : _ = true)
theorem originLocal_closed : joinedFacts Tryz.prog 7 Tryz.f7 Rows.originLocalSpec Rows.originLocalRow = true := by unfold joinedFacts; exact (fp_and (fp_and (fp_and (fp_and (fp_and (fp_and (fp_and (fp_and (fp_and (fp_and (fp_and (fp_and (fp_and (fp_and (fp_and (fp_and (fp_and (fp_and (fp_and (fp_and (fp_and (fp_and (fp_and (fp_and (fp_and (fp_and (fp_and (fp_and (fp_and (fp_and (fp_and originLocal_q0 fp_1) fp_2) originLocal_q3) originLocal_q4) originLocal_q5) fp_6) originLocal_q7) fp_8) originLocal_q9) originLocal_q10) originLocal_q11) originLocal_q12) originLocal_q13) originLocal_q14) originLocal_q15) originLocal_q16) originLocal_q17) originLocal_q18) originLocal_q19) originLocal_q20) originLocal_q21) fp_22) originLocal_q23) fp_24) fp_25) fp_26) originLocal_q27) originLocal_q28) originLocal_q29) originLocal_q30) originLocal_q31)
theorem originLocal_named : Tryz.prog.funcNamed "customs/customslaw15.OriginLocal" = some 7 := by kernel_rfl
theorem originLocal_goes : false = Rows.originLocalRow.goesBy Tryz.prog := by kernel_rfl
end Go.Proofs.YtoccohlbjnoeoaaGreatDoor
