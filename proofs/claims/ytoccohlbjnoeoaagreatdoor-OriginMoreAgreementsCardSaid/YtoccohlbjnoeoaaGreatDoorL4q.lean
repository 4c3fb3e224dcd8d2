/- Closed facts of the row OriginMoreAgreements. No statement of the seat is proved here. -/
import Derived.Test.YtoccohlbjnoeoaaGreatDoorFp
set_option linter.unusedVariables false
set_option maxRecDepth 100000
namespace Go.Proofs.YtoccohlbjnoeoaaGreatDoor
open Go
def originMoreAgreementsJ (F : Program → FuncId → Func → ChangeSpec → OpenClaim → Bool) : Prop := F Tryz.prog 8 Tryz.f8 Rows.originMoreAgreementsSpec Rows.originMoreAgreementsRow = true
theorem originMoreAgreements_q0 : originMoreAgreementsJ fun P f fn s c => c.wf (OpenSpec.ofChange s) := (by kernel_rfl : _ = true)
theorem originMoreAgreements_q3 : originMoreAgreementsJ fun P f fn s c => fn.params.all (P.readableRec ·) := (by kernel_rfl : _ = true)
theorem originMoreAgreements_q4 : originMoreAgreementsJ fun P f fn s c => namedTie P c.named s.vars := (by kernel_rfl : _ = true)
theorem originMoreAgreements_q5 : originMoreAgreementsJ fun P f fn s c => (c.stops == []) := (by kernel_rfl : _ = true)
theorem originMoreAgreements_q7 : originMoreAgreementsJ fun P f fn s c => (c.knobs == []) := (by kernel_rfl : _ = true)
theorem originMoreAgreements_q9 : originMoreAgreementsJ fun P f fn s c => (c.inPlace == P.inPlace f) := (by kernel_rfl : _ = true)
theorem originMoreAgreements_q10 : originMoreAgreementsJ fun P f fn s c => (c.unfollowed == P.unfollowed f) := (by kernel_rfl : _ = true)
theorem originMoreAgreements_q11 : originMoreAgreementsJ fun P f fn s c => (c.recurses == P.recurses f) := (by kernel_rfl : _ = true)
theorem originMoreAgreements_q12 : originMoreAgreementsJ fun P f fn s c => (c.named == P.varsNamed f) := (by kernel_rfl : _ = true)
theorem originMoreAgreements_q13 : originMoreAgreementsJ fun P f fn s c => (c.maps == (fn.params.toList ++ s.plain.varTypes P).any (P.mapsRec ·)) := (by kernel_rfl : _ = true)
theorem originMoreAgreements_q14 : originMoreAgreementsJ fun P f fn s c => (c.ifaces == (fn.params.toList ++ s.plain.varTypes P).any (P.ifacesRec ·)) := (by kernel_rfl : _ = true)
theorem originMoreAgreements_q15 : originMoreAgreementsJ fun P f fn s c => (c.mapsOut == P.mapsAmong fn.resultTypes.toList) := (by kernel_rfl : _ = true)
theorem originMoreAgreements_q16 : originMoreAgreementsJ fun P f fn s c => (c.loops == (fn.params.toList ++ s.plain.varTypes P).any (P.loopsFrom ·)) := (by kernel_rfl : _ = true)
theorem originMoreAgreements_q17 : originMoreAgreementsJ fun P f fn s c => (c.wideKeys == (fn.params.toList ++ s.plain.varTypes P ++ fn.resultTypes.toList).any (P.wideKeysFrom ·)) := (by kernel_rfl : _ = true)
theorem originMoreAgreements_q18 : originMoreAgreementsJ fun P f fn s c => s.vars.all (P.varReadable ·) := (by kernel_rfl : _ = true)
theorem originMoreAgreements_q19 : originMoreAgreementsJ fun P f fn s c => fn.resultTypes.all (fun t => P.readableRec t && decide (t < P.types.size)) := (by kernel_rfl : _ = true)
theorem originMoreAgreements_q20 : originMoreAgreementsJ fun P f fn s c => (c.ifacesOut == fn.resultTypes.toList.any (P.ifacesRec ·)) := (by kernel_rfl : _ = true)
theorem originMoreAgreements_q21 : originMoreAgreementsJ fun P f fn s c => (c.loopsOut == fn.resultTypes.toList.any (P.loopsFrom ·)) := (by kernel_rfl : _ = true)
theorem originMoreAgreements_q23 : originMoreAgreementsJ fun P f fn s c => c.shortTexts.isNone := (by kernel_rfl : _ = true)
theorem originMoreAgreements_q27 : originMoreAgreementsJ fun P f fn s c => (P.make == some c.make) := (by kernel_rfl : _ = true)
theorem originMoreAgreements_q28 : originMoreAgreementsJ fun P f fn s c => (c.kinds == (if c.domain.isEmpty then [] else fn.params.toList.map fun t => match P.underlying t with | some (.int k) => some k | _ => none)) := (by kernel_rfl : _ = true)
theorem originMoreAgreements_q29 : originMoreAgreementsJ fun P f fn s c => (c.pinned == c.pinnedBy) := (by kernel_rfl : _ = true)
theorem originMoreAgreements_q30 : originMoreAgreementsJ fun P f fn s c => (c.veiled == (fn.params.toList ++ s.plain.varTypes P ++ fn.resultTypes.toList).any (P.veiledRec ·)) := (by kernel_rfl : _ = true)
theorem originMoreAgreements_q31 : originMoreAgreementsJ fun P f fn s c => c.veiledFits P fn.params.toList (fn.params.toList ++ s.plain.varTypes P ++ fn.resultTypes.toList) := (by kernel_rfl : _ = true)
theorem originMoreAgreements_closed : joinedFacts Tryz.prog 8 Tryz.f8 Rows.originMoreAgreementsSpec Rows.originMoreAgreementsRow = true := by unfold joinedFacts; exact (fp_and (fp_and (fp_and (fp_and (fp_and (fp_and (fp_and (fp_and (fp_and (fp_and (fp_and (fp_and (fp_and (fp_and (fp_and (fp_and (fp_and (fp_and (fp_and (fp_and (fp_and (fp_and (fp_and (fp_and (fp_and (fp_and (fp_and (fp_and (fp_and (fp_and (fp_and originMoreAgreements_q0 fp_1) fp_2) originMoreAgreements_q3) originMoreAgreements_q4) originMoreAgreements_q5) fp_6) originMoreAgreements_q7) fp_8) originMoreAgreements_q9) originMoreAgreements_q10) originMoreAgreements_q11) originMoreAgreements_q12) originMoreAgreements_q13) originMoreAgreements_q14) originMoreAgreements_q15) originMoreAgreements_q16) originMoreAgreements_q17) originMoreAgreements_q18) originMoreAgreements_q19) originMoreAgreements_q20) originMoreAgreements_q21) fp_22) originMoreAgreements_q23) fp_24) fp_25) fp_26) originMoreAgreements_q27) originMoreAgreements_q28) originMoreAgreements_q29) originMoreAgreements_q30) originMoreAgreements_q31)
theorem originMoreAgreements_named : Tryz.prog.funcNamed "customs/customslaw15.OriginMoreAgreements" = some 8 := by kernel_rfl
theorem originMoreAgreements_goes : false = Rows.originMoreAgreementsRow.goesBy Tryz.prog := by kernel_rfl
end Go.Proofs.YtoccohlbjnoeoaaGreatDoor
