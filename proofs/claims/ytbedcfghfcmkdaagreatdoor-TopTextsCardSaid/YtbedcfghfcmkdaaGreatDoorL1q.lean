/- Closed facts of the row TopTexts. No statement of the seat is proved here. -/
import Derived.Test.YtbedcfghfcmkdaaGreatDoorFp
set_option linter.unusedVariables false
set_option maxRecDepth 100000
namespace Go.Proofs.YtbedcfghfcmkdaaGreatDoor
open Go
def topTextsJ (F : Program → FuncId → Func → ChangeSpec → OpenClaim → Bool) : Prop := F Tryz.prog 3 Tryz.f3 Rows.topTextsSpec Rows.topTextsRow = true
theorem topTexts_q0 : topTextsJ fun P f fn s c => c.wf (OpenSpec.ofChange s) := (by kernel_rfl : _ = true)
theorem topTexts_q3 : topTextsJ fun P f fn s c => fn.params.all (P.readableRec ·) := (by kernel_rfl : _ = true)
theorem topTexts_q4 : topTextsJ fun P f fn s c => namedTie P c.named s.vars := (by kernel_rfl : _ = true)
theorem topTexts_q5 : topTextsJ fun P f fn s c => (c.stops == []) := (by kernel_rfl : _ = true)
theorem topTexts_q7 : topTextsJ fun P f fn s c => (c.knobs == []) := (by kernel_rfl : _ = true)
theorem topTexts_q9 : topTextsJ fun P f fn s c => (c.inPlace == P.inPlace f) := (by kernel_rfl : _ = true)
theorem topTexts_q10 : topTextsJ fun P f fn s c => (c.unfollowed == P.unfollowed f) := (by kernel_rfl : _ = true)
theorem topTexts_q11 : topTextsJ fun P f fn s c => (c.recurses == P.recurses f) := (by kernel_rfl : _ = true)
theorem topTexts_q12 : topTextsJ fun P f fn s c => (c.named == P.varsNamed f) := (by kernel_rfl : _ = true)
theorem topTexts_q13 : topTextsJ fun P f fn s c => (c.maps == (fn.params.toList ++ s.plain.varTypes P).any (P.mapsRec ·)) := (by kernel_rfl : _ = true)
theorem topTexts_q14 : topTextsJ fun P f fn s c => (c.ifaces == (fn.params.toList ++ s.plain.varTypes P).any (P.ifacesRec ·)) := (by kernel_rfl : _ = true)
theorem topTexts_q15 : topTextsJ fun P f fn s c => (c.mapsOut == P.mapsAmong fn.resultTypes.toList) := (by kernel_rfl : _ = true)
theorem topTexts_q16 : topTextsJ fun P f fn s c => (c.loops == (fn.params.toList ++ s.plain.varTypes P).any (P.loopsFrom ·)) := (by kernel_rfl : _ = true)
theorem topTexts_q17 : topTextsJ fun P f fn s c => (c.wideKeys == (fn.params.toList ++ s.plain.varTypes P ++ fn.resultTypes.toList).any (P.wideKeysFrom ·)) := (by kernel_rfl : _ = true)
theorem topTexts_q18 : topTextsJ fun P f fn s c => s.vars.all (P.varReadable ·) := (by kernel_rfl : _ = true)
theorem topTexts_q19 : topTextsJ fun P f fn s c => fn.resultTypes.all (fun t => P.readableRec t && decide (t < P.types.size)) := (by kernel_rfl : _ = true)
theorem topTexts_q20 : topTextsJ fun P f fn s c => (c.ifacesOut == fn.resultTypes.toList.any (P.ifacesRec ·)) := (by kernel_rfl : _ = true)
theorem topTexts_q21 : topTextsJ fun P f fn s c => (c.loopsOut == fn.resultTypes.toList.any (P.loopsFrom ·)) := (by kernel_rfl : _ = true)
theorem topTexts_q23 : topTextsJ fun P f fn s c => c.shortTexts.isNone := (by kernel_rfl : _ = true)
theorem topTexts_q27 : topTextsJ fun P f fn s c => (P.make == some c.make) := (by kernel_rfl : _ = true)
theorem topTexts_q28 : topTextsJ fun P f fn s c => (c.kinds == (if c.domain.isEmpty then [] else fn.params.toList.map fun t => match P.underlying t with | some (.int k) => some k | _ => none)) := (by kernel_rfl : _ = true)
theorem topTexts_q29 : topTextsJ fun P f fn s c => (c.pinned == c.pinnedBy) := (by kernel_rfl : _ = true)
theorem topTexts_q30 : topTextsJ fun P f fn s c => (c.veiled == (fn.params.toList ++ s.plain.varTypes P ++ fn.resultTypes.toList).any (P.veiledRec ·)) := (by kernel_rfl : _ = true)
theorem topTexts_q31 : topTextsJ fun P f fn s c => c.veiledFits P fn.params.toList (fn.params.toList ++ s.plain.varTypes P ++ fn.resultTypes.toList) := (by kernel_rfl : _ = true)
theorem topTexts_closed : joinedFacts Tryz.prog 3 Tryz.f3 Rows.topTextsSpec Rows.topTextsRow = true := by unfold joinedFacts; exact (fp_and (fp_and (fp_and (fp_and (fp_and (fp_and (fp_and (fp_and (fp_and (fp_and (fp_and (fp_and (fp_and (fp_and (fp_and (fp_and (fp_and (fp_and (fp_and (fp_and (fp_and (fp_and (fp_and (fp_and (fp_and (fp_and (fp_and (fp_and (fp_and (fp_and (fp_and topTexts_q0 fp_1) fp_2) topTexts_q3) topTexts_q4) topTexts_q5) fp_6) topTexts_q7) fp_8) topTexts_q9) topTexts_q10) topTexts_q11) topTexts_q12) topTexts_q13) topTexts_q14) topTexts_q15) topTexts_q16) topTexts_q17) topTexts_q18) topTexts_q19) topTexts_q20) topTexts_q21) fp_22) topTexts_q23) fp_24) fp_25) fp_26) topTexts_q27) topTexts_q28) topTexts_q29) topTexts_q30) topTexts_q31)
theorem topTexts_named : Tryz.prog.funcNamed "customs/customstop.TopTexts" = some 3 := by kernel_rfl
theorem topTexts_goes : false = Rows.topTextsRow.goesBy Tryz.prog := by kernel_rfl
end Go.Proofs.YtbedcfghfcmkdaaGreatDoor
