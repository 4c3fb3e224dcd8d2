/- Closed facts of the row OriginErrors. No statement of the seat is proved here. -/
import Derived.Test.YtgmbmepakpcpaaaGreatDoorFp
set_option linter.unusedVariables false
set_option maxRecDepth 100000
namespace Go.Proofs.YtgmbmepakpcpaaaGreatDoor
open Go
def originErrorsJ (F : Program → FuncId → Func → ChangeSpec → OpenClaim → Bool) : Prop := F Tryz.prog 6 Tryz.f6 Rows.originErrorsSpec Rows.originErrorsRow = true
theorem originErrors_q0 : originErrorsJ fun P f fn s c => c.wf (OpenSpec.ofChange s) := (by kernel_rfl : _ = true)
theorem originErrors_q3 : originErrorsJ fun P f fn s c => fn.params.all (P.readableRec ·) := (by kernel_rfl : _ = true)
theorem originErrors_q4 : originErrorsJ fun P f fn s c => namedTie P c.named s.vars := (by kernel_rfl : _ = true)
theorem originErrors_q5 : originErrorsJ fun P f fn s c => (c.stops == []) := (by kernel_rfl : _ = true)
theorem originErrors_q7 : originErrorsJ fun P f fn s c => (c.knobs == []) := (by kernel_rfl : _ = true)
theorem originErrors_q9 : originErrorsJ fun P f fn s c => (c.inPlace == P.inPlace f) := (by kernel_rfl : _ = true)
theorem originErrors_q10 : originErrorsJ fun P f fn s c => (c.unfollowed == P.unfollowed f) := (by kernel_rfl : _ = true)
theorem originErrors_q11 : originErrorsJ fun P f fn s c => (c.recurses == P.recurses f) := (by kernel_rfl : _ = true)
theorem originErrors_q12 : originErrorsJ fun P f fn s c => (c.named == P.varsNamed f) := (by kernel_rfl : _ = true)
theorem originErrors_q13 : originErrorsJ fun P f fn s c => (c.maps == (fn.params.toList ++ s.plain.varTypes P).any (P.mapsRec ·)) := (by kernel_rfl : _ = true)
theorem originErrors_q14 : originErrorsJ fun P f fn s c => (c.ifaces == (fn.params.toList ++ s.plain.varTypes P).any (P.ifacesRec ·)) := (by kernel_rfl : _ = true)
theorem originErrors_q15 : originErrorsJ fun P f fn s c => (c.mapsOut == P.mapsAmong fn.resultTypes.toList) := (by kernel_rfl : _ = true)
theorem originErrors_q16 : originErrorsJ fun P f fn s c => (c.loops == (fn.params.toList ++ s.plain.varTypes P).any (P.loopsFrom ·)) := (by kernel_rfl : _ = true)
theorem originErrors_q17 : originErrorsJ fun P f fn s c => (c.wideKeys == (fn.params.toList ++ s.plain.varTypes P ++ fn.resultTypes.toList).any (P.wideKeysFrom ·)) := (by kernel_rfl : _ = true)
theorem originErrors_q18 : originErrorsJ fun P f fn s c => s.vars.all (P.varReadable ·) := (by kernel_rfl : _ = true)
theorem originErrors_q19 : originErrorsJ fun P f fn s c => fn.resultTypes.all (fun t => P.readableRec t && decide (t < P.types.size)) := (by kernel_rfl : _ = true)
theorem originErrors_q20 : originErrorsJ fun P f fn s c => (c.ifacesOut == fn.resultTypes.toList.any (P.ifacesRec ·)) := (by kernel_rfl : _ = true)
theorem originErrors_q21 : originErrorsJ fun P f fn s c => (c.loopsOut == fn.resultTypes.toList.any (P.loopsFrom ·)) := (by kernel_rfl : _ = true)
theorem originErrors_q23 : originErrorsJ fun P f fn s c => c.shortTexts.isNone := (by kernel_rfl : _ = true)
theorem originErrors_q27 : originErrorsJ fun P f fn s c => (P.make == some c.make) := (by kernel_rfl : _ = true)
theorem originErrors_q28 : originErrorsJ fun P f fn s c => (c.kinds == (if c.domain.isEmpty then [] else fn.params.toList.map fun t => match P.underlying t with | some (.int k) => some k | _ => none)) := (by kernel_rfl : _ = true)
theorem originErrors_q29 : originErrorsJ fun P f fn s c => (c.pinned == c.pinnedBy) := (by kernel_rfl : _ = true)
theorem originErrors_q30 : originErrorsJ fun P f fn s c => (c.veiled == (fn.params.toList ++ s.plain.varTypes P ++ fn.resultTypes.toList).any (P.veiledRec ·)) := (by kernel_rfl : _ = true)
theorem originErrors_q31 : originErrorsJ fun P f fn s c => c.veiledFits P fn.params.toList (fn.params.toList ++ s.plain.varTypes P ++ fn.resultTypes.toList) := (by kernel_rfl : _ = true)
theorem originErrors_closed : joinedFacts Tryz.prog 6 Tryz.f6 Rows.originErrorsSpec Rows.originErrorsRow = true := by unfold joinedFacts; exact (fp_and (fp_and (fp_and (fp_and (fp_and (fp_and (fp_and (fp_and (fp_and (fp_and (fp_and (fp_and (fp_and (fp_and (fp_and (fp_and (fp_and (fp_and (fp_and (fp_and (fp_and (fp_and (fp_and (fp_and (fp_and (fp_and (fp_and (fp_and (fp_and (fp_and (fp_and originErrors_q0 fp_1) fp_2) originErrors_q3) originErrors_q4) originErrors_q5) fp_6) originErrors_q7) fp_8) originErrors_q9) originErrors_q10) originErrors_q11) originErrors_q12) originErrors_q13) originErrors_q14) originErrors_q15) originErrors_q16) originErrors_q17) originErrors_q18) originErrors_q19) originErrors_q20) originErrors_q21) fp_22) originErrors_q23) fp_24) fp_25) fp_26) originErrors_q27) originErrors_q28) originErrors_q29) originErrors_q30) originErrors_q31)
theorem originErrors_named : Tryz.prog.funcNamed "customs/customslaw15.OriginErrors" = some 6 := by kernel_rfl
theorem originErrors_goes : false = Rows.originErrorsRow.goesBy Tryz.prog := by kernel_rfl
end Go.Proofs.YtgmbmepakpcpaaaGreatDoor
