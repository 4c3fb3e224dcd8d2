/- Closed facts of the row OriginCheaper. No statement of the seat is proved here. -/
import Derived.Test.YthbphcbhedmnoaaGreatDoorFp
set_option linter.unusedVariables false
set_option maxRecDepth 100000
namespace Go.Proofs.YthbphcbhedmnoaaGreatDoor
open Go
def originCheaperJ (F : Program → FuncId → Func → ChangeSpec → OpenClaim → Bool) : Prop := F Tryz.prog 5 Tryz.f5 Rows.originCheaperSpec Rows.originCheaperRow = true
theorem originCheaper_q0 : originCheaperJ fun P f fn s c => c.wf (OpenSpec.ofChange s) := (by kernel_rfl : _ = true)
theorem originCheaper_q3 : originCheaperJ fun P f fn s c => fn.params.all (P.readableRec ·) := (by kernel_rfl : _ = true)
theorem originCheaper_q4 : originCheaperJ fun P f fn s c => namedTie P c.named s.vars := (by kernel_rfl : _ = true)
theorem originCheaper_q5 : originCheaperJ fun P f fn s c => (c.stops == []) := (by kernel_rfl : _ = true)
theorem originCheaper_q7 : originCheaperJ fun P f fn s c => (c.knobs == []) := (by kernel_rfl : _ = true)
theorem originCheaper_q9 : originCheaperJ fun P f fn s c => (c.inPlace == P.inPlace f) := (by kernel_rfl : _ = true)
theorem originCheaper_q10 : originCheaperJ fun P f fn s c => (c.unfollowed == P.unfollowed f) := (by kernel_rfl : _ = true)
theorem originCheaper_q11 : originCheaperJ fun P f fn s c => (c.recurses == P.recurses f) := (by kernel_rfl : _ = true)
theorem originCheaper_q12 : originCheaperJ fun P f fn s c => (c.named == P.varsNamed f) := (by kernel_rfl : _ = true)
theorem originCheaper_q13 : originCheaperJ fun P f fn s c => (c.maps == (fn.params.toList ++ s.plain.varTypes P).any (P.mapsRec ·)) := (by kernel_rfl : _ = true)
theorem originCheaper_q14 : originCheaperJ fun P f fn s c => (c.ifaces == (fn.params.toList ++ s.plain.varTypes P).any (P.ifacesRec ·)) := (by kernel_rfl : _ = true)
theorem originCheaper_q15 : originCheaperJ fun P f fn s c => (c.mapsOut == P.mapsAmong fn.resultTypes.toList) := (by kernel_rfl : _ = true)
theorem originCheaper_q16 : originCheaperJ fun P f fn s c => (c.loops == (fn.params.toList ++ s.plain.varTypes P).any (P.loopsFrom ·)) := (by kernel_rfl : _ = true)
theorem originCheaper_q17 : originCheaperJ fun P f fn s c => (c.wideKeys == (fn.params.toList ++ s.plain.varTypes P ++ fn.resultTypes.toList).any (P.wideKeysFrom ·)) := (by kernel_rfl : _ = true)
theorem originCheaper_q18 : originCheaperJ fun P f fn s c => s.vars.all (P.varReadable ·) := (by kernel_rfl : _ = true)
theorem originCheaper_q19 : originCheaperJ fun P f fn s c => fn.resultTypes.all (fun t => P.readableRec t && decide (t < P.types.size)) := (by kernel_rfl : _ = true)
theorem originCheaper_q20 : originCheaperJ fun P f fn s c => (c.ifacesOut == fn.resultTypes.toList.any (P.ifacesRec ·)) := (by kernel_rfl : _ = true)
theorem originCheaper_q21 : originCheaperJ fun P f fn s c => (c.loopsOut == fn.resultTypes.toList.any (P.loopsFrom ·)) := (by kernel_rfl : _ = true)
theorem originCheaper_q23 : originCheaperJ fun P f fn s c => c.shortTexts.isNone := (by kernel_rfl : _ = true)
theorem originCheaper_q27 : originCheaperJ fun P f fn s c => (P.make == some c.make) := (by kernel_rfl : _ = true)
theorem originCheaper_q28 : originCheaperJ fun P f fn s c => (c.kinds == (if c.domain.isEmpty then [] else fn.params.toList.map fun t => match P.underlying t with | some (.int k) => some k | _ => none)) := (by kernel_rfl : _ = true)
theorem originCheaper_q29 : originCheaperJ fun P f fn s c => (c.pinned == c.pinnedBy) := (by kernel_rfl : _ = true)
theorem originCheaper_q30 : originCheaperJ fun P f fn s c => (c.veiled == (fn.params.toList ++ s.plain.varTypes P ++ fn.resultTypes.toList).any (P.veiledRec ·)) := (by kernel_rfl : _ = true)
theorem originCheaper_q31 : originCheaperJ fun P f fn s c => c.veiledFits P fn.params.toList (fn.params.toList ++ s.plain.varTypes P ++ fn.resultTypes.toList) := (by kernel_rfl : _ = true)
theorem originCheaper_closed : joinedFacts Tryz.prog 5 Tryz.f5 Rows.originCheaperSpec Rows.originCheaperRow = true := by unfold joinedFacts; exact (fp_and (fp_and (fp_and (fp_and (fp_and (fp_and (fp_and (fp_and (fp_and (fp_and (fp_and (fp_and (fp_and (fp_and (fp_and (fp_and (fp_and (fp_and (fp_and (fp_and (fp_and (fp_and (fp_and (fp_and (fp_and (fp_and (fp_and (fp_and (fp_and (fp_and (fp_and originCheaper_q0 fp_1) fp_2) originCheaper_q3) originCheaper_q4) originCheaper_q5) fp_6) originCheaper_q7) fp_8) originCheaper_q9) originCheaper_q10) originCheaper_q11) originCheaper_q12) originCheaper_q13) originCheaper_q14) originCheaper_q15) originCheaper_q16) originCheaper_q17) originCheaper_q18) originCheaper_q19) originCheaper_q20) originCheaper_q21) fp_22) originCheaper_q23) fp_24) fp_25) fp_26) originCheaper_q27) originCheaper_q28) originCheaper_q29) originCheaper_q30) originCheaper_q31)
theorem originCheaper_named : Tryz.prog.funcNamed "customs/customslaw15.OriginCheaper" = some 5 := by kernel_rfl
theorem originCheaper_goes : false = Rows.originCheaperRow.goesBy Tryz.prog := by kernel_rfl
end Go.Proofs.YthbphcbhedmnoaaGreatDoor
