/- Closed facts on the program, that every row of the seat asks. No statement of the seat is proved here. -/
import Derived.Test.YtknkknahmebbfaaGreatDoorRows
import Derived.Test.YtknkknahmebbfaaGreatDoorChecked
import Derived.JoinedOf
import Derived.KernelRfl
import Derived.SevenTiedAt
set_option linter.unusedVariables false
namespace Go.Proofs.YtknkknahmebbfaaGreatDoor
open Go
theorem fp_and {a b : Bool} (h1 : a = true) (h2 : b = true) : (a && b) = true := by rw [h1, h2]; rfl
theorem fp_main : Tryz.prog.mainIs = some ((true, "40815d3119b2f976db1fdf38a9257a853ac3cf840690bd3936f2266887fb13c6").1, (true, "40815d3119b2f976db1fdf38a9257a853ac3cf840690bd3936f2266887fb13c6").2.toList) := by kernel_rfl
theorem fp_looks : false = Tryz.prog.looks [] := by kernel_rfl
def fpJ (F : Program → FuncId → Func → ChangeSpec → OpenClaim → Bool) : Prop := F Tryz.prog 3 Tryz.f3 Rows.assessDifferenceSpec Rows.assessDifferenceRow = true
theorem fp_1 : fpJ fun P f fn s c => laidOutB P := (by kernel_rfl : _ = true)
theorem fp_2 : fpJ fun P f fn s c => mapsRowed P := (by kernel_rfl : _ = true)
theorem fp_6 : fpJ fun P f fn s c => (P.stops == []) := (by kernel_rfl : _ = true)
theorem fp_8 : fpJ fun P f fn s c => (P.stopKnobs == []) := (by kernel_rfl : _ = true)
theorem fp_22 : fpJ fun P f fn s c => (c.plainKeys == P.plainKeys) := (by kernel_rfl : _ = true)
theorem fp_24 : fpJ fun P f fn s c => P.stopsHeard := (by kernel_rfl : _ = true)
theorem fp_25 : fpJ fun P f fn s c => P.mayEnter := (by kernel_rfl : _ = true)
theorem fp_26 : fpJ fun P f fn s c => (c.lifted == P.liftsFinal) := (by kernel_rfl : _ = true)
end Go.Proofs.YtknkknahmebbfaaGreatDoor
