/- Closed facts on the program, that every row of the seat asks. No statement of the seat is proved here. -/
import Derived.Test.YthbphcbhedmnoaaDoorRows
import Derived.Test.YthbphcbhedmnoaaDoorChecked
import Derived.JoinedOf
import Derived.KernelRfl
import Derived.SevenTiedAt
set_option linter.unusedVariables false
namespace Go.Proofs.YthbphcbhedmnoaaDoor
open Go
theorem fp_and {a b : Bool} (h1 : a = true) (h2 : b = true) : (a && b) = true := by rw [h1, h2]; rfl
theorem fp_main : Tryd.prog.mainIs = some ((true, "31b53dbd1f3c1ee1035887273c4f8b06d34360f0a0368b089ada07ce58b5abb1").1, (true, "31b53dbd1f3c1ee1035887273c4f8b06d34360f0a0368b089ada07ce58b5abb1").2.toList) := by kernel_rfl
theorem fp_looks : false = Tryd.prog.looks [] := by kernel_rfl
def fpJ (F : Program → FuncId → Func → ChangeSpec → OpenClaim → Bool) : Prop := F Tryd.prog 3 Tryd.f3 Rows.planChangedSpec Rows.planChangedRow = true
theorem fp_1 : fpJ fun P f fn s c => laidOutB P := (by kernel_rfl : _ = true)
theorem fp_2 : fpJ fun P f fn s c => mapsRowed P := (by kernel_rfl : _ = true)
theorem fp_6 : fpJ fun P f fn s c => (P.stops == []) := (by kernel_rfl : _ = true)
theorem fp_8 : fpJ fun P f fn s c => (P.stopKnobs == []) := (by kernel_rfl : _ = true)
theorem fp_22 : fpJ fun P f fn s c => (c.plainKeys == P.plainKeys) := (by kernel_rfl : _ = true)
theorem fp_24 : fpJ fun P f fn s c => P.stopsHeard := (by kernel_rfl : _ = true)
theorem fp_25 : fpJ fun P f fn s c => P.mayEnter := (by kernel_rfl : _ = true)
theorem fp_26 : fpJ fun P f fn s c => (c.lifted == P.liftsFinal) := (by kernel_rfl : _ = true)
end Go.Proofs.YthbphcbhedmnoaaDoor
