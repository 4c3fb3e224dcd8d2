/- Closed facts of the row OriginTrim. No statement of the seat is proved here. -/
import Derived.Test.YtgmbmepakpcpaaaGreatDoorFp
set_option linter.unusedVariables false
set_option maxRecDepth 100000
namespace Go.Proofs.YtgmbmepakpcpaaaGreatDoor
open Go
def originTrimJ (F : Program → FuncId → Func → ChangeSpec → OpenClaim → Bool) : Prop := F Tryz.prog 8 Tryz.f8 Rows.originTrimSpec Rows.originTrimRow = true
theorem originTrim_q0 : originTrimJ fun P f fn s c => c.wf (OpenSpec.ofChange s) := (by kernel_rfl : _ = true)
theorem originTrim_q3 : originTrimJ fun P f fn s c => fn.params.all (P.readableRec ·) := (by kernel_rfl : _ = true)
theorem originTrim_q4 : originTrimJ fun P f fn s c => namedTie P c.named s.vars := (by kernel_rfl : _ = true)
theorem originTrim_q5 : originTrimJ fun P f fn s c => (c.stops == []) := (by kernel_rfl : _ = true)
theorem originTrim_q7 : originTrimJ fun P f fn s c => (c.knobs == []) := (by kernel_rfl : _ = true)
theorem originTrim_q9 : originTrimJ fun P f fn s c => (c.inPlace == P.inPlace f) := (by kernel_rfl : _ = true)
theorem originTrim_q10 : originTrimJ fun P f fn s c => (c.unfollowed == P.unfollowed f) := (by kernel_rfl : _ = true)
theorem originTrim_q11 : originTrimJ fun P f fn s c => (c.recurses == P.recurses f) := (by kernel_rfl : _ = true)
theorem originTrim_q12 : originTrimJ fun P f fn s c => (c.named == P.varsNamed f) := (by kernel_rfl : _ = true)
theorem originTrim_q13 : originTrimJ fun P f fn s c => (c.maps == (fn.params.toList ++ s.plain.varTypes P).any (P.mapsRec ·)) := (by kernel_rfl : _ = true)
theorem originTrim_q14 : originTrimJ fun P f fn s c => (c.ifaces == (fn.params.toList ++ s.plain.varTypes P).any (P.ifacesRec ·)) := (by kernel_rfl : _ = true)
theorem originTrim_q15 : originTrimJ fun P f fn s c => (c.mapsOut == P.mapsAmong fn.resultTypes.toList) := (by kernel_rfl : _ = true)
theorem originTrim_q16 : originTrimJ fun P f fn s c => (c.loops == (fn.params.toList ++ s.plain.varTypes P).any (P.loopsFrom ·)) := (by kernel_rfl : _ = true)
theorem originTrim_q17 : originTrimJ fun P f fn s c => (c.wideKeys == (fn.params.toList ++ s.plain.varTypes P ++ fn.resultTypes.toList).any (P.wideKeysFrom ·)) := (by kernel_rfl : _ = true)
theorem originTrim_q18 : originTrimJ fun P f fn s c => s.vars.all (P.varReadable ·) := (by kernel_rfl : _ = true)
theorem originTrim_q19 : originTrimJ fun P f fn s c => fn.resultTypes.all (fun t => P.readableRec t && decide (t < P.types.size)) := (by kernel_rfl : _ = true)
theorem originTrim_q20 : originTrimJ fun P f fn s c => (c.ifacesOut == fn.resultTypes.toList.any (P.ifacesRec ·)) := (by kernel_rfl : _ = true)
theorem originTrim_q21 : originTrimJ fun P f fn s c => (c.loopsOut == fn.resultTypes.toList.any (P.loopsFrom ·)) := (by kernel_rfl : _ = true)
theorem originTrim_q23 : originTrimJ fun P f fn s c => c.shortTexts.isNone := (by kernel_rfl : _ = true)
theorem originTrim_q27 : originTrimJ fun P f fn s c => (P.make == some c.make) := (by kernel_rfl : _ = true)
theorem originTrim_q28 : originTrimJ fun P f fn s c => (c.kinds == (if c.domain.isEmpty then [] else fn.params.toList.map fun t => match P.underlying t with | some (.int k) => some k | _ => none)) := (by kernel_rfl : _ = true)
theorem originTrim_q29 : originTrimJ fun P f fn s c => (c.pinned == c.pinnedBy) := (by kernel_rfl : _ = true)
theorem originTrim_q30 : originTrimJ fun P f fn s c => (c.veiled == (fn.params.toList ++ s.plain.varTypes P ++ fn.resultTypes.toList).any (P.veiledRec ·)) := (by kernel_rfl : _ = true)
theorem originTrim_q31 : originTrimJ fun P f fn s c => c.veiledFits P fn.params.toList (fn.params.toList ++ s.plain.varTypes P ++ fn.resultTypes.toList) := (by kernel_rfl : _ = true)
theorem originTrim_closed : joinedFacts Tryz.prog 8 Tryz.f8 Rows.originTrimSpec Rows.originTrimRow = true := by unfold joinedFacts; exact (fp_and (fp_and (fp_and (fp_and (fp_and (fp_and (fp_and (fp_and (fp_and (fp_and (fp_and (fp_and (fp_and (fp_and (fp_and (fp_and (fp_and (fp_and (fp_and (fp_and (fp_and (fp_and (fp_and (fp_and (fp_and (fp_and (fp_and (fp_and (fp_and (fp_and (fp_and originTrim_q0 fp_1) fp_2) originTrim_q3) originTrim_q4) originTrim_q5) fp_6) originTrim_q7) fp_8) originTrim_q9) originTrim_q10) originTrim_q11) originTrim_q12) originTrim_q13) originTrim_q14) originTrim_q15) originTrim_q16) originTrim_q17) originTrim_q18) originTrim_q19) originTrim_q20) originTrim_q21) fp_22) originTrim_q23) fp_24) fp_25) fp_26) originTrim_q27) originTrim_q28) originTrim_q29) originTrim_q30) originTrim_q31)
theorem originTrim_named : Tryz.prog.funcNamed "customs/customslaw15.OriginTrim" = some 8 := by kernel_rfl
theorem originTrim_goes : false = Rows.originTrimRow.goesBy Tryz.prog := by kernel_rfl
end Go.Proofs.YtgmbmepakpcpaaaGreatDoor
