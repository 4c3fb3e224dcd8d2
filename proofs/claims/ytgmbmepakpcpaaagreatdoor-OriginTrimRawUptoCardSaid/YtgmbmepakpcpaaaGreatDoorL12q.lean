/- Closed facts of the row OriginTrimRaw. No statement of the seat is proved here. -/
import Derived.Test.YtgmbmepakpcpaaaGreatDoorFp
set_option linter.unusedVariables false
set_option maxRecDepth 100000
namespace Go.Proofs.YtgmbmepakpcpaaaGreatDoor
open Go
def originTrimRawUptoJ (F : Program → FuncId → Func → ChangeSpec → OpenClaim → Bool) : Prop := F Tryz.prog 9 Tryz.f9 Rows.originTrimRawSpec Rows.originTrimRawUptoRow = true
theorem originTrimRawUpto_q0 : originTrimRawUptoJ fun P f fn s c => c.wf (OpenSpec.ofChange s) := (by kernel_rfl : _ = true)
theorem originTrimRawUpto_q3 : originTrimRawUptoJ fun P f fn s c => fn.params.all (P.readableRec ·) := (by kernel_rfl : _ = true)
theorem originTrimRawUpto_q4 : originTrimRawUptoJ fun P f fn s c => namedTie P c.named s.vars := (by kernel_rfl : _ = true)
theorem originTrimRawUpto_q5 : originTrimRawUptoJ fun P f fn s c => (c.stops == []) := (by kernel_rfl : _ = true)
theorem originTrimRawUpto_q7 : originTrimRawUptoJ fun P f fn s c => (c.knobs == []) := (by kernel_rfl : _ = true)
theorem originTrimRawUpto_q9 : originTrimRawUptoJ fun P f fn s c => (c.inPlace == P.inPlace f) := (by kernel_rfl : _ = true)
theorem originTrimRawUpto_q10 : originTrimRawUptoJ fun P f fn s c => (c.unfollowed == P.unfollowed f) := (by kernel_rfl : _ = true)
theorem originTrimRawUpto_q11 : originTrimRawUptoJ fun P f fn s c => (c.recurses == P.recurses f) := (by kernel_rfl : _ = true)
theorem originTrimRawUpto_q12 : originTrimRawUptoJ fun P f fn s c => (c.named == P.varsNamed f) := (by kernel_rfl : _ = true)
theorem originTrimRawUpto_q13 : originTrimRawUptoJ fun P f fn s c => (c.maps == (fn.params.toList ++ s.plain.varTypes P).any (P.mapsRec ·)) := (by kernel_rfl : _ = true)
theorem originTrimRawUpto_q14 : originTrimRawUptoJ fun P f fn s c => (c.ifaces == (fn.params.toList ++ s.plain.varTypes P).any (P.ifacesRec ·)) := (by kernel_rfl : _ = true)
theorem originTrimRawUpto_q15 : originTrimRawUptoJ fun P f fn s c => (c.mapsOut == P.mapsAmong fn.resultTypes.toList) := (by kernel_rfl : _ = true)
theorem originTrimRawUpto_q16 : originTrimRawUptoJ fun P f fn s c => (c.loops == (fn.params.toList ++ s.plain.varTypes P).any (P.loopsFrom ·)) := (by kernel_rfl : _ = true)
theorem originTrimRawUpto_q17 : originTrimRawUptoJ fun P f fn s c => (c.wideKeys == (fn.params.toList ++ s.plain.varTypes P ++ fn.resultTypes.toList).any (P.wideKeysFrom ·)) := (by kernel_rfl : _ = true)
theorem originTrimRawUpto_q18 : originTrimRawUptoJ fun P f fn s c => s.vars.all (P.varReadable ·) := (by kernel_rfl : _ = true)
theorem originTrimRawUpto_q19 : originTrimRawUptoJ fun P f fn s c => fn.resultTypes.all (fun t => P.readableRec t && decide (t < P.types.size)) := (by kernel_rfl : _ = true)
theorem originTrimRawUpto_q20 : originTrimRawUptoJ fun P f fn s c => (c.ifacesOut == fn.resultTypes.toList.any (P.ifacesRec ·)) := (by kernel_rfl : _ = true)
theorem originTrimRawUpto_q21 : originTrimRawUptoJ fun P f fn s c => (c.loopsOut == fn.resultTypes.toList.any (P.loopsFrom ·)) := (by kernel_rfl : _ = true)
theorem originTrimRawUpto_q23 : originTrimRawUptoJ fun P f fn s c => c.shortTexts.isNone := (by kernel_rfl : _ = true)
theorem originTrimRawUpto_q27 : originTrimRawUptoJ fun P f fn s c => (P.make == some c.make) := (by kernel_rfl : _ = true)
theorem originTrimRawUpto_q28 : originTrimRawUptoJ fun P f fn s c => (c.kinds == (if c.domain.isEmpty then [] else fn.params.toList.map fun t => match P.underlying t with | some (.int k) => some k | _ => none)) := (by kernel_rfl : _ = true)
theorem originTrimRawUpto_q29 : originTrimRawUptoJ fun P f fn s c => (c.pinned == c.pinnedBy) := (by kernel_rfl : _ = true)
theorem originTrimRawUpto_q30 : originTrimRawUptoJ fun P f fn s c => (c.veiled == (fn.params.toList ++ s.plain.varTypes P ++ fn.resultTypes.toList).any (P.veiledRec ·)) := (by kernel_rfl : _ = true)
theorem originTrimRawUpto_q31 : originTrimRawUptoJ fun P f fn s c => c.veiledFits P fn.params.toList (fn.params.toList ++ s.plain.varTypes P ++ fn.resultTypes.toList) := (by kernel_rfl : _ = true)
theorem originTrimRawUpto_closed : joinedFacts Tryz.prog 9 Tryz.f9 Rows.originTrimRawSpec Rows.originTrimRawUptoRow = true := by unfold joinedFacts; exact (fp_and (fp_and (fp_and (fp_and (fp_and (fp_and (fp_and (fp_and (fp_and (fp_and (fp_and (fp_and (fp_and (fp_and (fp_and (fp_and (fp_and (fp_and (fp_and (fp_and (fp_and (fp_and (fp_and (fp_and (fp_and (fp_and (fp_and (fp_and (fp_and (fp_and (fp_and originTrimRawUpto_q0 fp_1) fp_2) originTrimRawUpto_q3) originTrimRawUpto_q4) originTrimRawUpto_q5) fp_6) originTrimRawUpto_q7) fp_8) originTrimRawUpto_q9) originTrimRawUpto_q10) originTrimRawUpto_q11) originTrimRawUpto_q12) originTrimRawUpto_q13) originTrimRawUpto_q14) originTrimRawUpto_q15) originTrimRawUpto_q16) originTrimRawUpto_q17) originTrimRawUpto_q18) originTrimRawUpto_q19) originTrimRawUpto_q20) originTrimRawUpto_q21) fp_22) originTrimRawUpto_q23) fp_24) fp_25) fp_26) originTrimRawUpto_q27) originTrimRawUpto_q28) originTrimRawUpto_q29) originTrimRawUpto_q30) originTrimRawUpto_q31)
theorem originTrimRawUpto_named : Tryz.prog.funcNamed "customs/customslaw15.OriginTrimRaw" = some 9 := by kernel_rfl
theorem originTrimRawUpto_goes : false = Rows.originTrimRawUptoRow.goesBy Tryz.prog := by kernel_rfl
end Go.Proofs.YtgmbmepakpcpaaaGreatDoor
