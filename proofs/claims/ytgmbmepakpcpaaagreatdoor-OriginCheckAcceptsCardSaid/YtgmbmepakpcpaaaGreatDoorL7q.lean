/- Closed facts of the row OriginCheckAccepts. No statement of the seat is proved here. -/
import Derived.Test.YtgmbmepakpcpaaaGreatDoorFp
set_option linter.unusedVariables false
set_option maxRecDepth 100000
namespace Go.Proofs.YtgmbmepakpcpaaaGreatDoor
open Go
def originCheckAcceptsJ (F : Program → FuncId → Func → ChangeSpec → OpenClaim → Bool) : Prop := F Tryz.prog 11 Tryz.f11 Rows.originCheckAcceptsSpec Rows.originCheckAcceptsRow = true
theorem originCheckAccepts_q0 : originCheckAcceptsJ fun P f fn s c => c.wf (OpenSpec.ofChange s) := (by kernel_rfl : _ = true)
theorem originCheckAccepts_q3 : originCheckAcceptsJ fun P f fn s c => fn.params.all (P.readableRec ·) := (by kernel_rfl : _ = true)
theorem originCheckAccepts_q4 : originCheckAcceptsJ fun P f fn s c => namedTie P c.named s.vars := (by kernel_rfl : _ = true)
theorem originCheckAccepts_q5 : originCheckAcceptsJ fun P f fn s c => (c.stops == []) := (by kernel_rfl : _ = true)
theorem originCheckAccepts_q7 : originCheckAcceptsJ fun P f fn s c => (c.knobs == []) := (by kernel_rfl : _ = true)
theorem originCheckAccepts_q9 : originCheckAcceptsJ fun P f fn s c => (c.inPlace == P.inPlace f) := (by kernel_rfl : _ = true)
theorem originCheckAccepts_q10 : originCheckAcceptsJ fun P f fn s c => (c.unfollowed == P.unfollowed f) := (by kernel_rfl : _ = true)
theorem originCheckAccepts_q11 : originCheckAcceptsJ fun P f fn s c => (c.recurses == P.recurses f) := (by kernel_rfl : _ = true)
theorem originCheckAccepts_q12 : originCheckAcceptsJ fun P f fn s c => (c.named == P.varsNamed f) := (by kernel_rfl : _ = true)
theorem originCheckAccepts_q13 : originCheckAcceptsJ fun P f fn s c => (c.maps == (fn.params.toList ++ s.plain.varTypes P).any (P.mapsRec ·)) := (by kernel_rfl : _ = true)
theorem originCheckAccepts_q14 : originCheckAcceptsJ fun P f fn s c => (c.ifaces == (fn.params.toList ++ s.plain.varTypes P).any (P.ifacesRec ·)) := (by kernel_rfl : _ = true)
theorem originCheckAccepts_q15 : originCheckAcceptsJ fun P f fn s c => (c.mapsOut == P.mapsAmong fn.resultTypes.toList) := (by kernel_rfl : _ = true)
theorem originCheckAccepts_q16 : originCheckAcceptsJ fun P f fn s c => (c.loops == (fn.params.toList ++ s.plain.varTypes P).any (P.loopsFrom ·)) := (by kernel_rfl : _ = true)
theorem originCheckAccepts_q17 : originCheckAcceptsJ fun P f fn s c => (c.wideKeys == (fn.params.toList ++ s.plain.varTypes P ++ fn.resultTypes.toList).any (P.wideKeysFrom ·)) := (by kernel_rfl : _ = true)
theorem originCheckAccepts_q18 : originCheckAcceptsJ fun P f fn s c => s.vars.all (P.varReadable ·) := (by kernel_rfl : _ = true)
theorem originCheckAccepts_q19 : originCheckAcceptsJ fun P f fn s c => fn.resultTypes.all (fun t => P.readableRec t && decide (t < P.types.size)) := (by kernel_rfl : _ = true)
theorem originCheckAccepts_q20 : originCheckAcceptsJ fun P f fn s c => (c.ifacesOut == fn.resultTypes.toList.any (P.ifacesRec ·)) := (by kernel_rfl : _ = true)
theorem originCheckAccepts_q21 : originCheckAcceptsJ fun P f fn s c => (c.loopsOut == fn.resultTypes.toList.any (P.loopsFrom ·)) := (by kernel_rfl : _ = true)
theorem originCheckAccepts_q23 : originCheckAcceptsJ fun P f fn s c => c.shortTexts.isNone := (by kernel_rfl : _ = true)
theorem originCheckAccepts_q27 : originCheckAcceptsJ fun P f fn s c => (P.make == some c.make) := (by kernel_rfl : _ = true)
theorem originCheckAccepts_q28 : originCheckAcceptsJ fun P f fn s c => (c.kinds == (if c.domain.isEmpty then [] else fn.params.toList.map fun t => match P.underlying t with | some (.int k) => some k | _ => none)) := (by kernel_rfl : _ = true)
theorem originCheckAccepts_q29 : originCheckAcceptsJ fun P f fn s c => (c.pinned == c.pinnedBy) := (by kernel_rfl : _ = true)
theorem originCheckAccepts_q30 : originCheckAcceptsJ fun P f fn s c => (c.veiled == (fn.params.toList ++ s.plain.varTypes P ++ fn.resultTypes.toList).any (P.veiledRec ·)) := (by kernel_rfl : _ = true)
theorem originCheckAccepts_q31 : originCheckAcceptsJ fun P f fn s c => c.veiledFits P fn.params.toList (fn.params.toList ++ s.plain.varTypes P ++ fn.resultTypes.toList) := (by kernel_rfl : _ = true)
theorem originCheckAccepts_closed : joinedFacts Tryz.prog 11 Tryz.f11 Rows.originCheckAcceptsSpec Rows.originCheckAcceptsRow = true := by unfold joinedFacts; exact (fp_and (fp_and (fp_and (fp_and (fp_and (fp_and (fp_and (fp_and (fp_and (fp_and (fp_and (fp_and (fp_and (fp_and (fp_and (fp_and (fp_and (fp_and (fp_and (fp_and (fp_and (fp_and (fp_and (fp_and (fp_and (fp_and (fp_and (fp_and (fp_and (fp_and (fp_and originCheckAccepts_q0 fp_1) fp_2) originCheckAccepts_q3) originCheckAccepts_q4) originCheckAccepts_q5) fp_6) originCheckAccepts_q7) fp_8) originCheckAccepts_q9) originCheckAccepts_q10) originCheckAccepts_q11) originCheckAccepts_q12) originCheckAccepts_q13) originCheckAccepts_q14) originCheckAccepts_q15) originCheckAccepts_q16) originCheckAccepts_q17) originCheckAccepts_q18) originCheckAccepts_q19) originCheckAccepts_q20) originCheckAccepts_q21) fp_22) originCheckAccepts_q23) fp_24) fp_25) fp_26) originCheckAccepts_q27) originCheckAccepts_q28) originCheckAccepts_q29) originCheckAccepts_q30) originCheckAccepts_q31)
theorem originCheckAccepts_named : Tryz.prog.funcNamed "customs/customslaw16.OriginCheckAccepts" = some 11 := by kernel_rfl
theorem originCheckAccepts_goes : false = Rows.originCheckAcceptsRow.goesBy Tryz.prog := by kernel_rfl
end Go.Proofs.YtgmbmepakpcpaaaGreatDoor
