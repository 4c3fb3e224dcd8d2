/- Closed facts on the program, that every row of the seat asks. No statement of the seat is proved here. -/
import Derived.Test.YtbedcfghfcmkdaaGreatDoorRows
import Derived.Test.YtbedcfghfcmkdaaGreatDoorChecked
import Derived.JoinedOf
import Derived.KernelRfl
import Derived.SevenTiedAt
set_option linter.unusedVariables false
namespace Go.Proofs.YtbedcfghfcmkdaaGreatDoor
open Go
theorem fp_and {a b : Bool} (h1 : a = true) (h2 : b = true) : (a && b) = true := by rw [h1, h2]; rfl
theorem fp_main : Tryz.prog.mainIs = some ((true, "eb117cc1e1ff14581c679f085ada7c156c1e92e732d455f2831dacd4e3e97c0e").1, (true, "eb117cc1e1ff14581c679f085ada7c156c1e92e732d455f2831dacd4e3e97c0e").2.toList) := by kernel_rfl
theorem fp_looks : true = Tryz.prog.looks [] := by kernel_rfl
def fpJ (F : Program → FuncId → Func → ChangeSpec → OpenClaim → Bool) : Prop := F Tryz.prog 3 Tryz.f3 Rows.topTextsSpec Rows.topTextsRow = true
theorem fp_1 : fpJ fun P f fn s c => laidOutB P := (by kernel_rfl : _ = true)
theorem fp_2 : fpJ fun P f fn s c => mapsRowed P := (by kernel_rfl : _ = true)
theorem fp_6 : fpJ fun P f fn s c => (P.stops == []) := (by kernel_rfl : _ = true)
theorem fp_8 : fpJ fun P f fn s c => (P.stopKnobs == []) := (by kernel_rfl : _ = true)
theorem fp_22 : fpJ fun P f fn s c => (c.plainKeys == P.plainKeys) := (by kernel_rfl : _ = true)
theorem fp_24 : fpJ fun P f fn s c => P.stopsHeard := (by kernel_rfl : _ = true)
theorem fp_25 : fpJ fun P f fn s c => P.mayEnter := (by kernel_rfl : _ = true)
theorem fp_26 : fpJ fun P f fn s c => (c.lifted == P.liftsFinal) := (by kernel_rfl : _ = true)
end Go.Proofs.YtbedcfghfcmkdaaGreatDoor
