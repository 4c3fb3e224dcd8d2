/- Closed facts on the program, that every row of the seat asks. No statement of the seat is proved here. -/
import Derived.Test.YtipjgkapcgpgbaaDoorRows
import Derived.Test.YtipjgkapcgpgbaaDoorChecked
import Derived.JoinedOf
import Derived.KernelRfl
import Derived.SevenTiedAt
set_option linter.unusedVariables false
namespace Go.Proofs.YtipjgkapcgpgbaaDoor
open Go
theorem fp_and {a b : Bool} (h1 : a = true) (h2 : b = true) : (a && b) = true := by rw [h1, h2]; rfl
theorem fp_main : Tryd.prog.mainIs = some ((true, "bd0888e3d54737700e71017b2812dab827b3a3f36104f0d145c5211c566f5e81").1, (true, "bd0888e3d54737700e71017b2812dab827b3a3f36104f0d145c5211c566f5e81").2.toList) := by kernel_rfl
theorem fp_looks : false = Tryd.prog.looks [] := by kernel_rfl
def fpJ (F : Program → FuncId → Func → ChangeSpec → OpenClaim → Bool) : Prop := F Tryd.prog 3 Tryd.f3 Rows.planValidateSpec Rows.planValidateRow = true
theorem fp_1 : fpJ fun P f fn s c => laidOutB P := (by kernel_rfl : _ = true)
theorem fp_2 : fpJ fun P f fn s c => mapsRowed P := (by kernel_rfl : _ = true)
theorem fp_6 : fpJ fun P f fn s c => (P.stops == []) := (by kernel_rfl : _ = true)
theorem fp_8 : fpJ fun P f fn s c => (P.stopKnobs == []) := (by kernel_rfl : _ = true)
theorem fp_22 : fpJ fun P f fn s c => (c.plainKeys == P.plainKeys) := (by kernel_rfl : _ = true)
theorem fp_24 : fpJ fun P f fn s c => P.stopsHeard := (by kernel_rfl : _ = true)
theorem fp_25 : fpJ fun P f fn s c => P.mayEnter := (by kernel_rfl : _ = true)
theorem fp_26 : fpJ fun P f fn s c => (c.lifted == P.liftsFinal) := (by kernel_rfl : _ = true)
end Go.Proofs.YtipjgkapcgpgbaaDoor
