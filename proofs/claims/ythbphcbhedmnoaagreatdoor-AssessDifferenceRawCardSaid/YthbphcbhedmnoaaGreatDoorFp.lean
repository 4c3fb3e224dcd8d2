/- Closed facts on the program, that every row of the seat asks. No statement of the seat is proved here. -/
import Derived.Test.YthbphcbhedmnoaaGreatDoorRows
import Derived.Test.YthbphcbhedmnoaaGreatDoorChecked
import Derived.JoinedOf
import Derived.KernelRfl
import Derived.SevenTiedAt
set_option linter.unusedVariables false
namespace Go.Proofs.YthbphcbhedmnoaaGreatDoor
open Go
theorem fp_and {a b : Bool} (h1 : a = true) (h2 : b = true) : (a && b) = true := by rw [h1, h2]; rfl
theorem fp_main : Tryz.prog.mainIs = some ((true, "d271fc30cff10d59a72863d1eb68a3d84db99f08108d2c8632d41447e35cdff0").1, (true, "d271fc30cff10d59a72863d1eb68a3d84db99f08108d2c8632d41447e35cdff0").2.toList) := by kernel_rfl
theorem fp_looks : true = Tryz.prog.looks [] := by kernel_rfl
def fpJ (F : Program → FuncId → Func → ChangeSpec → OpenClaim → Bool) : Prop := F Tryz.prog 5 Tryz.f5 Rows.originCheaperSpec Rows.originCheaperRow = true
theorem fp_1 : fpJ fun P f fn s c => laidOutB P := (by kernel_rfl : _ = true)
theorem fp_2 : fpJ fun P f fn s c => mapsRowed P := (by kernel_rfl : _ = true)
theorem fp_6 : fpJ fun P f fn s c => (P.stops == []) := (by kernel_rfl : _ = true)
theorem fp_8 : fpJ fun P f fn s c => (P.stopKnobs == []) := (by kernel_rfl : _ = true)
theorem fp_22 : fpJ fun P f fn s c => (c.plainKeys == P.plainKeys) := (by kernel_rfl : _ = true)
theorem fp_24 : fpJ fun P f fn s c => P.stopsHeard := (by kernel_rfl : _ = true)
theorem fp_25 : fpJ fun P f fn s c => P.mayEnter := (by kernel_rfl : _ = true)
theorem fp_26 : fpJ fun P f fn s c => (c.lifted == P.liftsFinal) := (by kernel_rfl : _ = true)
end Go.Proofs.YthbphcbhedmnoaaGreatDoor
