/- Closed facts of the row OriginCheckSound. No statement of the seat is proved here. -/
import Derived.Test.YtgmbmepakpcpaaaGreatDoorFp
set_option linter.unusedVariables false
set_option maxRecDepth 100000
namespace Go.Proofs.YtgmbmepakpcpaaaGreatDoor
open Go
def originCheckSoundJ (F : Program → FuncId → Func → ChangeSpec → OpenClaim → Bool) : Prop := F Tryz.prog 10 Tryz.f10 Rows.originCheckSoundSpec Rows.originCheckSoundRow = true
theorem originCheckSound_q0 : originCheckSoundJ fun P f fn s c => c.wf (OpenSpec.ofChange s) := (by kernel_rfl : _ = true)
theorem originCheckSound_q3 : originCheckSoundJ fun P f fn s c => fn.params.all (P.readableRec ·) := (by kernel_rfl : _ = true)
theorem originCheckSound_q4 : originCheckSoundJ fun P f fn s c => namedTie P c.named s.vars := (by kernel_rfl : _ = true)
theorem originCheckSound_q5 : originCheckSoundJ fun P f fn s c => (c.stops == []) := (by kernel_rfl : _ = true)
theorem originCheckSound_q7 : originCheckSoundJ fun P f fn s c => (c.knobs == []) := (by kernel_rfl : _ = true)
theorem originCheckSound_q9 : originCheckSoundJ fun P f fn s c => (c.inPlace == P.inPlace f) := (by kernel_rfl : _ = true)
theorem originCheckSound_q10 : originCheckSoundJ fun P f fn s c => (c.unfollowed == P.unfollowed f) := (by kernel_rfl : _ = true)
theorem originCheckSound_q11 : originCheckSoundJ fun P f fn s c => (c.recurses == P.recurses f) := (by kernel_rfl : _ = true)
theorem originCheckSound_q12 : originCheckSoundJ fun P f fn s c => (c.named == P.varsNamed f) := (by kernel_rfl : _ = true)
theorem originCheckSound_q13 : originCheckSoundJ fun P f fn s c => (c.maps == (fn.params.toList ++ s.plain.varTypes P).any (P.mapsRec ·)) := (by kernel_rfl : _ = true)
theorem originCheckSound_q14 : originCheckSoundJ fun P f fn s c => (c.ifaces == (fn.params.toList ++ s.plain.varTypes P).any (P.ifacesRec ·)) := (by kernel_rfl : _ = true)
theorem originCheckSound_q15 : originCheckSoundJ fun P f fn s c => (c.mapsOut == P.mapsAmong fn.resultTypes.toList) := (by kernel_rfl : _ = true)
theorem originCheckSound_q16 : originCheckSoundJ fun P f fn s c => (c.loops == (fn.params.toList ++ s.plain.varTypes P).any (P.loopsFrom ·)) := (by kernel_rfl : _ = true)
theorem originCheckSound_q17 : originCheckSoundJ fun P f fn s c => (c.wideKeys == (fn.params.toList ++ s.plain.varTypes P ++ fn.resultTypes.toList).any (P.wideKeysFrom ·)) := (by kernel_rfl : _ = true)
theorem originCheckSound_q18 : originCheckSoundJ fun P f fn s c => s.vars.all (P.varReadable ·) := (by kernel_rfl : _ = true)
theorem originCheckSound_q19 : originCheckSoundJ fun P f fn s c => fn.resultTypes.all (fun t => P.readableRec t && decide (t < P.types.size)) := (by kernel_rfl : _ = true)
theorem originCheckSound_q20 : originCheckSoundJ fun P f fn s c => (c.ifacesOut == fn.resultTypes.toList.any (P.ifacesRec ·)) := (by kernel_rfl : _ = true)
theorem originCheckSound_q21 : originCheckSoundJ fun P f fn s c => (c.loopsOut == fn.resultTypes.toList.any (P.loopsFrom ·)) := (by kernel_rfl : _ = true)
theorem originCheckSound_q23 : originCheckSoundJ fun P f fn s c => c.shortTexts.isNone := (by kernel_rfl : _ = true)
theorem originCheckSound_q27 : originCheckSoundJ fun P f fn s c => (P.make == some c.make) := (by kernel_rfl : _ = true)
theorem originCheckSound_q28 : originCheckSoundJ fun P f fn s c => (c.kinds == (if c.domain.isEmpty then [] else fn.params.toList.map fun t => match P.underlying t with | some (.int k) => some k | _ => none)) := (by kernel_rfl : _ = true)
theorem originCheckSound_q29 : originCheckSoundJ fun P f fn s c => (c.pinned == c.pinnedBy) := (by kernel_rfl : _ = true)
theorem originCheckSound_q30 : originCheckSoundJ fun P f fn s c => (c.veiled == (fn.params.toList ++ s.plain.varTypes P ++ fn.resultTypes.toList).any (P.veiledRec ·)) := (by kernel_rfl : _ = true)
theorem originCheckSound_q31 : originCheckSoundJ fun P f fn s c => c.veiledFits P fn.params.toList (fn.params.toList ++ s.plain.varTypes P ++ fn.resultTypes.toList) := (by kernel_rfl : _ = true)
theorem originCheckSound_closed : joinedFacts Tryz.prog 10 Tryz.f10 Rows.originCheckSoundSpec Rows.originCheckSoundRow = true := by unfold joinedFacts; exact (fp_and (fp_and (fp_and (fp_and (fp_and (fp_and (fp_and (fp_and (fp_and (fp_and (fp_and (fp_and (fp_and (fp_and (fp_and (fp_and (fp_and (fp_and (fp_and (fp_and (fp_and (fp_and (fp_and (fp_and (fp_and (fp_and (fp_and (fp_and (fp_and (fp_and (fp_and originCheckSound_q0 fp_1) fp_2) originCheckSound_q3) originCheckSound_q4) originCheckSound_q5) fp_6) originCheckSound_q7) fp_8) originCheckSound_q9) originCheckSound_q10) originCheckSound_q11) originCheckSound_q12) originCheckSound_q13) originCheckSound_q14) originCheckSound_q15) originCheckSound_q16) originCheckSound_q17) originCheckSound_q18) originCheckSound_q19) originCheckSound_q20) originCheckSound_q21) fp_22) originCheckSound_q23) fp_24) fp_25) fp_26) originCheckSound_q27) originCheckSound_q28) originCheckSound_q29) originCheckSound_q30) originCheckSound_q31)
theorem originCheckSound_named : Tryz.prog.funcNamed "customs/customslaw16.OriginCheckSound" = some 10 := by kernel_rfl
theorem originCheckSound_goes : false = Rows.originCheckSoundRow.goesBy Tryz.prog := by kernel_rfl
end Go.Proofs.YtgmbmepakpcpaaaGreatDoor
