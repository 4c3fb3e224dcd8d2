/- Closed facts of the row OriginClaims. No statement of the seat is proved here. -/
import Derived.Test.YtgmbmepakpcpaaaGreatDoorFp
set_option linter.unusedVariables false
set_option maxRecDepth 100000
namespace Go.Proofs.YtgmbmepakpcpaaaGreatDoor
open Go
def originClaimsJ (F : Program → FuncId → Func → ChangeSpec → OpenClaim → Bool) : Prop := F Tryz.prog 7 Tryz.f7 Rows.originClaimsSpec Rows.originClaimsRow = true
theorem originClaims_q0 : originClaimsJ fun P f fn s c => c.wf (OpenSpec.ofChange s) := (by kernel_rfl : _ = true)
theorem originClaims_q3 : originClaimsJ fun P f fn s c => fn.params.all (P.readableRec ·) := (by kernel_rfl : _ = true)
theorem originClaims_q4 : originClaimsJ fun P f fn s c => namedTie P c.named s.vars := (by kernel_rfl : _ = true)
theorem originClaims_q5 : originClaimsJ fun P f fn s c => (c.stops == []) := (by kernel_rfl : _ = true)
theorem originClaims_q7 : originClaimsJ fun P f fn s c => (c.knobs == []) := (by kernel_rfl : _ = true)
theorem originClaims_q9 : originClaimsJ fun P f fn s c => (c.inPlace == P.inPlace f) := (by kernel_rfl : _ = true)
theorem originClaims_q10 : originClaimsJ fun P f fn s c => (c.unfollowed == P.unfollowed f) := (by kernel_rfl : _ = true)
theorem originClaims_q11 : originClaimsJ fun P f fn s c => (c.recurses == P.recurses f) := (by kernel_rfl : _ = true)
theorem originClaims_q12 : originClaimsJ fun P f fn s c => (c.named == P.varsNamed f) := (by kernel_rfl : _ = true)
theorem originClaims_q13 : originClaimsJ fun P f fn s c => (c.maps == (fn.params.toList ++ s.plain.varTypes P).any (P.mapsRec ·)) := (by kernel_rfl : _ = true)
theorem originClaims_q14 : originClaimsJ fun P f fn s c => (c.ifaces == (fn.params.toList ++ s.plain.varTypes P).any (P.ifacesRec ·)) := (by kernel_rfl : _ = true)
theorem originClaims_q15 : originClaimsJ fun P f fn s c => (c.mapsOut == P.mapsAmong fn.resultTypes.toList) := (by kernel_rfl : _ = true)
theorem originClaims_q16 : originClaimsJ fun P f fn s c => (c.loops == (fn.params.toList ++ s.plain.varTypes P).any (P.loopsFrom ·)) := (by kernel_rfl : _ = true)
theorem originClaims_q17 : originClaimsJ fun P f fn s c => (c.wideKeys == (fn.params.toList ++ s.plain.varTypes P ++ fn.resultTypes.toList).any (P.wideKeysFrom ·)) := (by kernel_rfl : _ = true)
theorem originClaims_q18 : originClaimsJ fun P f fn s c => s.vars.all (P.varReadable ·) := (by kernel_rfl : _ = true)
theorem originClaims_q19 : originClaimsJ fun P f fn s c => fn.resultTypes.all (fun t => P.readableRec t && decide (t < P.types.size)) := (by kernel_rfl : _ = true)
theorem originClaims_q20 : originClaimsJ fun P f fn s c => (c.ifacesOut == fn.resultTypes.toList.any (P.ifacesRec ·)) := (by kernel_rfl : _ = true)
theorem originClaims_q21 : originClaimsJ fun P f fn s c => (c.loopsOut == fn.resultTypes.toList.any (P.loopsFrom ·)) := (by kernel_rfl : _ = true)
theorem originClaims_q23 : originClaimsJ fun P f fn s c => c.shortTexts.isNone := (by kernel_rfl : _ = true)
theorem originClaims_q27 : originClaimsJ fun P f fn s c => (P.make == some c.make) := (by kernel_rfl : _ = true)
theorem originClaims_q28 : originClaimsJ fun P f fn s c => (c.kinds == (if c.domain.isEmpty then [] else fn.params.toList.map fun t => match P.underlying t with | some (.int k) => some k | _ => none)) := (by kernel_rfl : _ = true)
theorem originClaims_q29 : originClaimsJ fun P f fn s c => (c.pinned == c.pinnedBy) := (by kernel_rfl : _ = true)
theorem originClaims_q30 : originClaimsJ fun P f fn s c => (c.veiled == (fn.params.toList ++ s.plain.varTypes P ++ fn.resultTypes.toList).any (P.veiledRec ·)) := (by kernel_rfl : _ = true)
theorem originClaims_q31 : originClaimsJ fun P f fn s c => c.veiledFits P fn.params.toList (fn.params.toList ++ s.plain.varTypes P ++ fn.resultTypes.toList) := (by kernel_rfl : _ = true)
theorem originClaims_closed : joinedFacts Tryz.prog 7 Tryz.f7 Rows.originClaimsSpec Rows.originClaimsRow = true := by unfold joinedFacts; exact (fp_and (fp_and (fp_and (fp_and (fp_and (fp_and (fp_and (fp_and (fp_and (fp_and (fp_and (fp_and (fp_and (fp_and (fp_and (fp_and (fp_and (fp_and (fp_and (fp_and (fp_and (fp_and (fp_and (fp_and (fp_and (fp_and (fp_and (fp_and (fp_and (fp_and (fp_and originClaims_q0 fp_1) fp_2) originClaims_q3) originClaims_q4) originClaims_q5) fp_6) originClaims_q7) fp_8) originClaims_q9) originClaims_q10) originClaims_q11) originClaims_q12) originClaims_q13) originClaims_q14) originClaims_q15) originClaims_q16) originClaims_q17) originClaims_q18) originClaims_q19) originClaims_q20) originClaims_q21) fp_22) originClaims_q23) fp_24) fp_25) fp_26) originClaims_q27) originClaims_q28) originClaims_q29) originClaims_q30) originClaims_q31)
theorem originClaims_named : Tryz.prog.funcNamed "customs/customslaw16.OriginClaims" = some 7 := by kernel_rfl
theorem originClaims_goes : false = Rows.originClaimsRow.goesBy Tryz.prog := by kernel_rfl
end Go.Proofs.YtgmbmepakpcpaaaGreatDoor
