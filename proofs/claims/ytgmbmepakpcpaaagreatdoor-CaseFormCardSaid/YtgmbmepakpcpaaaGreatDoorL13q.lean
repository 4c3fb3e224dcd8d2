/- Closed facts of the row CaseForm. No statement of the seat is proved here. -/
import Derived.Test.YtgmbmepakpcpaaaGreatDoorFp
set_option linter.unusedVariables false
set_option maxRecDepth 100000
namespace Go.Proofs.YtgmbmepakpcpaaaGreatDoor
open Go
def caseFormJ (F : Program → FuncId → Func → ChangeSpec → OpenClaim → Bool) : Prop := F Tryz.prog 3 Tryz.f3 Rows.caseFormSpec Rows.caseFormRow = true
theorem caseForm_q0 : caseFormJ fun P f fn s c => c.wf (OpenSpec.ofChange s) := (by kernel_rfl : _ = true)
theorem caseForm_q3 : caseFormJ fun P f fn s c => fn.params.all (P.readableRec ·) := (by kernel_rfl : _ = true)
theorem caseForm_q4 : caseFormJ fun P f fn s c => namedTie P c.named s.vars := (by kernel_rfl : _ = true)
theorem caseForm_q5 : caseFormJ fun P f fn s c => (c.stops == []) := (by kernel_rfl : _ = true)
theorem caseForm_q7 : caseFormJ fun P f fn s c => (c.knobs == []) := (by kernel_rfl : _ = true)
theorem caseForm_q9 : caseFormJ fun P f fn s c => (c.inPlace == P.inPlace f) := (by kernel_rfl : _ = true)
theorem caseForm_q10 : caseFormJ fun P f fn s c => (c.unfollowed == P.unfollowed f) := (by kernel_rfl : _ = true)
theorem caseForm_q11 : caseFormJ fun P f fn s c => (c.recurses == P.recurses f) := (by kernel_rfl : _ = true)
theorem caseForm_q12 : caseFormJ fun P f fn s c => (c.named == P.varsNamed f) := (by kernel_rfl : _ = true)
theorem caseForm_q13 : caseFormJ fun P f fn s c => (c.maps == (fn.params.toList ++ s.plain.varTypes P).any (P.mapsRec ·)) := (by kernel_rfl : _ = true)
theorem caseForm_q14 : caseFormJ fun P f fn s c => (c.ifaces == (fn.params.toList ++ s.plain.varTypes P).any (P.ifacesRec ·)) := (by kernel_rfl : _ = true)
theorem caseForm_q15 : caseFormJ fun P f fn s c => (c.mapsOut == P.mapsAmong fn.resultTypes.toList) := (by kernel_rfl : _ = true)
theorem caseForm_q16 : caseFormJ fun P f fn s c => (c.loops == (fn.params.toList ++ s.plain.varTypes P).any (P.loopsFrom ·)) := (by kernel_rfl : _ = true)
theorem caseForm_q17 : caseFormJ fun P f fn s c => (c.wideKeys == (fn.params.toList ++ s.plain.varTypes P ++ fn.resultTypes.toList).any (P.wideKeysFrom ·)) := (by kernel_rfl : _ = true)
theorem caseForm_q18 : caseFormJ fun P f fn s c => s.vars.all (P.varReadable ·) := (by kernel_rfl : _ = true)
theorem caseForm_q19 : caseFormJ fun P f fn s c => fn.resultTypes.all (fun t => P.readableRec t && decide (t < P.types.size)) := (by kernel_rfl : _ = true)
theorem caseForm_q20 : caseFormJ fun P f fn s c => (c.ifacesOut == fn.resultTypes.toList.any (P.ifacesRec ·)) := (by kernel_rfl : _ = true)
theorem caseForm_q21 : caseFormJ fun P f fn s c => (c.loopsOut == fn.resultTypes.toList.any (P.loopsFrom ·)) := (by kernel_rfl : _ = true)
theorem caseForm_q23 : caseFormJ fun P f fn s c => c.shortTexts.isNone := (by kernel_rfl : _ = true)
theorem caseForm_q27 : caseFormJ fun P f fn s c => (P.make == some c.make) := (by kernel_rfl : _ = true)
theorem caseForm_q28 : caseFormJ fun P f fn s c => (c.kinds == (if c.domain.isEmpty then [] else fn.params.toList.map fun t => match P.underlying t with | some (.int k) => some k | _ => none)) := (by kernel_rfl : _ = true)
theorem caseForm_q29 : caseFormJ fun P f fn s c => (c.pinned == c.pinnedBy) := (by kernel_rfl : _ = true)
theorem caseForm_q30 : caseFormJ fun P f fn s c => (c.veiled == (fn.params.toList ++ s.plain.varTypes P ++ fn.resultTypes.toList).any (P.veiledRec ·)) := (by kernel_rfl : _ = true)
theorem caseForm_q31 : caseFormJ fun P f fn s c => c.veiledFits P fn.params.toList (fn.params.toList ++ s.plain.varTypes P ++ fn.resultTypes.toList) := (by kernel_rfl : _ = true)
theorem caseForm_closed : joinedFacts Tryz.prog 3 Tryz.f3 Rows.caseFormSpec Rows.caseFormRow = true := by unfold joinedFacts; exact (fp_and (fp_and (fp_and (fp_and (fp_and (fp_and (fp_and (fp_and (fp_and (fp_and (fp_and (fp_and (fp_and (fp_and (fp_and (fp_and (fp_and (fp_and (fp_and (fp_and (fp_and (fp_and (fp_and (fp_and (fp_and (fp_and (fp_and (fp_and (fp_and (fp_and (fp_and caseForm_q0 fp_1) fp_2) caseForm_q3) caseForm_q4) caseForm_q5) fp_6) caseForm_q7) fp_8) caseForm_q9) caseForm_q10) caseForm_q11) caseForm_q12) caseForm_q13) caseForm_q14) caseForm_q15) caseForm_q16) caseForm_q17) caseForm_q18) caseForm_q19) caseForm_q20) caseForm_q21) fp_22) caseForm_q23) fp_24) fp_25) fp_26) caseForm_q27) caseForm_q28) caseForm_q29) caseForm_q30) caseForm_q31)
theorem caseForm_named : Tryz.prog.funcNamed "customs/customslaw14.CaseForm" = some 3 := by kernel_rfl
theorem caseForm_goes : false = Rows.caseFormRow.goesBy Tryz.prog := by kernel_rfl
end Go.Proofs.YtgmbmepakpcpaaaGreatDoor
