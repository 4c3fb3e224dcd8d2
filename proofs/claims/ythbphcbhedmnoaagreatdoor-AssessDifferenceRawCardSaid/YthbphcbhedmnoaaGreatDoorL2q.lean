/- Closed facts of the row AssessDifferenceRaw. No statement of the seat is proved here. -/
import Derived.Test.YthbphcbhedmnoaaGreatDoorFp
set_option linter.unusedVariables false
set_option maxRecDepth 100000
namespace Go.Proofs.YthbphcbhedmnoaaGreatDoor
open Go
def assessDifferenceRawJ (F : Program → FuncId → Func → ChangeSpec → OpenClaim → Bool) : Prop := F Tryz.prog 4 Tryz.f4 Rows.assessDifferenceRawSpec Rows.assessDifferenceRawRow = true
theorem assessDifferenceRaw_q0 : assessDifferenceRawJ fun P f fn s c => c.wf (OpenSpec.ofChange s) := (by kernel_rfl : _ = true)
theorem assessDifferenceRaw_q3 : assessDifferenceRawJ fun P f fn s c => fn.params.all (P.readableRec ·) := (by kernel_rfl : _ = true)
theorem assessDifferenceRaw_q4 : assessDifferenceRawJ fun P f fn s c => namedTie P c.named s.vars := (by kernel_rfl : _ = true)
theorem assessDifferenceRaw_q5 : assessDifferenceRawJ fun P f fn s c => (c.stops == []) := (by kernel_rfl : _ = true)
theorem assessDifferenceRaw_q7 : assessDifferenceRawJ fun P f fn s c => (c.knobs == []) := (by kernel_rfl : _ = true)
theorem assessDifferenceRaw_q9 : assessDifferenceRawJ fun P f fn s c => (c.inPlace == P.inPlace f) := (by kernel_rfl : _ = true)
theorem assessDifferenceRaw_q10 : assessDifferenceRawJ fun P f fn s c => (c.unfollowed == P.unfollowed f) := (by kernel_rfl : _ = true)
theorem assessDifferenceRaw_q11 : assessDifferenceRawJ fun P f fn s c => (c.recurses == P.recurses f) := (by kernel_rfl : _ = true)
theorem assessDifferenceRaw_q12 : assessDifferenceRawJ fun P f fn s c => (c.named == P.varsNamed f) := (by kernel_rfl : _ = true)
theorem assessDifferenceRaw_q13 : assessDifferenceRawJ fun P f fn s c => (c.maps == (fn.params.toList ++ s.plain.varTypes P).any (P.mapsRec ·)) := (by kernel_rfl : _ = true)
theorem assessDifferenceRaw_q14 : assessDifferenceRawJ fun P f fn s c => (c.ifaces == (fn.params.toList ++ s.plain.varTypes P).any (P.ifacesRec ·)) := (by kernel_rfl : _ = true)
theorem assessDifferenceRaw_q15 : assessDifferenceRawJ fun P f fn s c => (c.mapsOut == P.mapsAmong fn.resultTypes.toList) := (by kernel_rfl : _ = true)
theorem assessDifferenceRaw_q16 : assessDifferenceRawJ fun P f fn s c => (c.loops == (fn.params.toList ++ s.plain.varTypes P).any (P.loopsFrom ·)) := (by kernel_rfl : _ = true)
theorem assessDifferenceRaw_q17 : assessDifferenceRawJ fun P f fn s c => (c.wideKeys == (fn.params.toList ++ s.plain.varTypes P ++ fn.resultTypes.toList).any (P.wideKeysFrom ·)) := (by kernel_rfl : _ = true)
theorem assessDifferenceRaw_q18 : assessDifferenceRawJ fun P f fn s c => s.vars.all (P.varReadable ·) := (by kernel_rfl : _ = true)
theorem assessDifferenceRaw_q19 : assessDifferenceRawJ fun P f fn s c => fn.resultTypes.all (fun t => P.readableRec t && decide (t < P.types.size)) := (by kernel_rfl : _ = true)
theorem assessDifferenceRaw_q20 : assessDifferenceRawJ fun P f fn s c => (c.ifacesOut == fn.resultTypes.toList.any (P.ifacesRec ·)) := (by kernel_rfl : _ = true)
theorem assessDifferenceRaw_q21 : assessDifferenceRawJ fun P f fn s c => (c.loopsOut == fn.resultTypes.toList.any (P.loopsFrom ·)) := (by kernel_rfl : _ = true)
theorem assessDifferenceRaw_q23 : assessDifferenceRawJ fun P f fn s c => c.shortTexts.isNone := (by kernel_rfl : _ = true)
theorem assessDifferenceRaw_q27 : assessDifferenceRawJ fun P f fn s c => (P.make == some c.make) := (by kernel_rfl : _ = true)
theorem assessDifferenceRaw_q28 : assessDifferenceRawJ fun P f fn s c => (c.kinds == (if c.domain.isEmpty then [] else fn.params.toList.map fun t => match P.underlying t with | some (.int k) => some k | _ => none)) := (by kernel_rfl : _ = true)
theorem assessDifferenceRaw_q29 : assessDifferenceRawJ fun P f fn s c => (c.pinned == c.pinnedBy) := (by kernel_rfl : _ = true)
theorem assessDifferenceRaw_q30 : assessDifferenceRawJ fun P f fn s c => (c.veiled == (fn.params.toList ++ s.plain.varTypes P ++ fn.resultTypes.toList).any (P.veiledRec ·)) := (by kernel_rfl : _ = true)
theorem assessDifferenceRaw_q31 : assessDifferenceRawJ fun P f fn s c => c.veiledFits P fn.params.toList (fn.params.toList ++ s.plain.varTypes P ++ fn.resultTypes.toList) := (by kernel_rfl : _ = true)
theorem assessDifferenceRaw_closed : joinedFacts Tryz.prog 4 Tryz.f4 Rows.assessDifferenceRawSpec Rows.assessDifferenceRawRow = true := by unfold joinedFacts; exact (fp_and (fp_and (fp_and (fp_and (fp_and (fp_and (fp_and (fp_and (fp_and (fp_and (fp_and (fp_and (fp_and (fp_and (fp_and (fp_and (fp_and (fp_and (fp_and (fp_and (fp_and (fp_and (fp_and (fp_and (fp_and (fp_and (fp_and (fp_and (fp_and (fp_and (fp_and assessDifferenceRaw_q0 fp_1) fp_2) assessDifferenceRaw_q3) assessDifferenceRaw_q4) assessDifferenceRaw_q5) fp_6) assessDifferenceRaw_q7) fp_8) assessDifferenceRaw_q9) assessDifferenceRaw_q10) assessDifferenceRaw_q11) assessDifferenceRaw_q12) assessDifferenceRaw_q13) assessDifferenceRaw_q14) assessDifferenceRaw_q15) assessDifferenceRaw_q16) assessDifferenceRaw_q17) assessDifferenceRaw_q18) assessDifferenceRaw_q19) assessDifferenceRaw_q20) assessDifferenceRaw_q21) fp_22) assessDifferenceRaw_q23) fp_24) fp_25) fp_26) assessDifferenceRaw_q27) assessDifferenceRaw_q28) assessDifferenceRaw_q29) assessDifferenceRaw_q30) assessDifferenceRaw_q31)
theorem assessDifferenceRaw_named : Tryz.prog.funcNamed "customs/customslaw20.AssessDifferenceRaw" = some 4 := by kernel_rfl
theorem assessDifferenceRaw_goes : false = Rows.assessDifferenceRawRow.goesBy Tryz.prog := by kernel_rfl
end Go.Proofs.YthbphcbhedmnoaaGreatDoor
