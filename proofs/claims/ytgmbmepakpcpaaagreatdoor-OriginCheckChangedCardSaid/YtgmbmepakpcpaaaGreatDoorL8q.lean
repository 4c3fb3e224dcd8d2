/- Closed facts of the row OriginCheckChanged. No statement of the seat is proved here. -/
import Derived.Test.YtgmbmepakpcpaaaGreatDoorFp
set_option linter.unusedVariables false
set_option maxRecDepth 100000
namespace Go.Proofs.YtgmbmepakpcpaaaGreatDoor
open Go
def originCheckChangedJ (F : Program → FuncId → Func → ChangeSpec → OpenClaim → Bool) : Prop := F Tryz.prog 4 Tryz.f4 Rows.originCheckChangedSpec Rows.originCheckChangedRow = true
theorem originCheckChanged_q0 : originCheckChangedJ fun P f fn s c => c.wf (OpenSpec.ofChange s) := (by kernel_rfl : _ = true)
theorem originCheckChanged_q3 : originCheckChangedJ fun P f fn s c => fn.params.all (P.readableRec ·) := (by kernel_rfl : _ = true)
theorem originCheckChanged_q4 : originCheckChangedJ fun P f fn s c => namedTie P c.named s.vars := (by kernel_rfl : _ = true)
theorem originCheckChanged_q5 : originCheckChangedJ fun P f fn s c => (c.stops == []) := (by kernel_rfl : _ = true)
theorem originCheckChanged_q7 : originCheckChangedJ fun P f fn s c => (c.knobs == []) := (by kernel_rfl : _ = true)
theorem originCheckChanged_q9 : originCheckChangedJ fun P f fn s c => (c.inPlace == P.inPlace f) := (by kernel_rfl : _ = true)
theorem originCheckChanged_q10 : originCheckChangedJ fun P f fn s c => (c.unfollowed == P.unfollowed f) := (by kernel_rfl : _ = true)
theorem originCheckChanged_q11 : originCheckChangedJ fun P f fn s c => (c.recurses == P.recurses f) := (by kernel_rfl : _ = true)
theorem originCheckChanged_q12 : originCheckChangedJ fun P f fn s c => (c.named == P.varsNamed f) := (by kernel_rfl : _ = true)
theorem originCheckChanged_q13 : originCheckChangedJ fun P f fn s c => (c.maps == (fn.params.toList ++ s.plain.varTypes P).any (P.mapsRec ·)) := (by kernel_rfl : _ = true)
theorem originCheckChanged_q14 : originCheckChangedJ fun P f fn s c => (c.ifaces == (fn.params.toList ++ s.plain.varTypes P).any (P.ifacesRec ·)) := (by kernel_rfl : _ = true)
theorem originCheckChanged_q15 : originCheckChangedJ fun P f fn s c => (c.mapsOut == P.mapsAmong fn.resultTypes.toList) := (by kernel_rfl : _ = true)
theorem originCheckChanged_q16 : originCheckChangedJ fun P f fn s c => (c.loops == (fn.params.toList ++ s.plain.varTypes P).any (P.loopsFrom ·)) := (by kernel_rfl : _ = true)
theorem originCheckChanged_q17 : originCheckChangedJ fun P f fn s c => (c.wideKeys == (fn.params.toList ++ s.plain.varTypes P ++ fn.resultTypes.toList).any (P.wideKeysFrom ·)) := (by kernel_rfl : _ = true)
theorem originCheckChanged_q18 : originCheckChangedJ fun P f fn s c => s.vars.all (P.varReadable ·) := (by kernel_rfl : _ = true)
theorem originCheckChanged_q19 : originCheckChangedJ fun P f fn s c => fn.resultTypes.all (fun t => P.readableRec t && decide (t < P.types.size)) := (by kernel_rfl : _ = true)
theorem originCheckChanged_q20 : originCheckChangedJ fun P f fn s c => (c.ifacesOut == fn.resultTypes.toList.any (P.ifacesRec ·)) := (by kernel_rfl : _ = true)
theorem originCheckChanged_q21 : originCheckChangedJ fun P f fn s c => (c.loopsOut == fn.resultTypes.toList.any (P.loopsFrom ·)) := (by kernel_rfl : _ = true)
theorem originCheckChanged_q23 : originCheckChangedJ fun P f fn s c => c.shortTexts.isNone := (by kernel_rfl : _ = true)
theorem originCheckChanged_q27 : originCheckChangedJ fun P f fn s c => (P.make == some c.make) := (by kernel_rfl : _ = true)
theorem originCheckChanged_q28 : originCheckChangedJ fun P f fn s c => (c.kinds == (if c.domain.isEmpty then [] else fn.params.toList.map fun t => match P.underlying t with | some (.int k) => some k | _ => none)) := (by kernel_rfl : _ = true)
theorem originCheckChanged_q29 : originCheckChangedJ fun P f fn s c => (c.pinned == c.pinnedBy) := (by kernel_rfl : _ = true)
theorem originCheckChanged_q30 : originCheckChangedJ fun P f fn s c => (c.veiled == (fn.params.toList ++ s.plain.varTypes P ++ fn.resultTypes.toList).any (P.veiledRec ·)) := (by kernel_rfl : _ = true)
theorem originCheckChanged_q31 : originCheckChangedJ fun P f fn s c => c.veiledFits P fn.params.toList (fn.params.toList ++ s.plain.varTypes P ++ fn.resultTypes.toList) := (by kernel_rfl : _ = true)
theorem originCheckChanged_closed : joinedFacts Tryz.prog 4 Tryz.f4 Rows.originCheckChangedSpec Rows.originCheckChangedRow = true := by unfold joinedFacts; exact (fp_and (fp_and (fp_and (fp_and (fp_and (fp_and (fp_and (fp_and (fp_and (fp_and (fp_and (fp_and (fp_and (fp_and (fp_and (fp_and (fp_and (fp_and (fp_and (fp_and (fp_and (fp_and (fp_and (fp_and (fp_and (fp_and (fp_and (fp_and (fp_and (fp_and (fp_and originCheckChanged_q0 fp_1) fp_2) originCheckChanged_q3) originCheckChanged_q4) originCheckChanged_q5) fp_6) originCheckChanged_q7) fp_8) originCheckChanged_q9) originCheckChanged_q10) originCheckChanged_q11) originCheckChanged_q12) originCheckChanged_q13) originCheckChanged_q14) originCheckChanged_q15) originCheckChanged_q16) originCheckChanged_q17) originCheckChanged_q18) originCheckChanged_q19) originCheckChanged_q20) originCheckChanged_q21) fp_22) originCheckChanged_q23) fp_24) fp_25) fp_26) originCheckChanged_q27) originCheckChanged_q28) originCheckChanged_q29) originCheckChanged_q30) originCheckChanged_q31)
theorem originCheckChanged_named : Tryz.prog.funcNamed "customs/customslaw16.OriginCheckChanged" = some 4 := by kernel_rfl
theorem originCheckChanged_goes : false = Rows.originCheckChangedRow.goesBy Tryz.prog := by kernel_rfl
end Go.Proofs.YtgmbmepakpcpaaaGreatDoor
