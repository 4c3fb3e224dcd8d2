/- What the walks of this seat know of the package variables. No statement of the seat is proved here. -/
import Derived.Test.YtfcecieppoljlaaGreatDoorSxB
set_option maxRecDepth 100000
namespace Go.Proofs.YtfcecieppoljlaaGreatDoor
namespace SX
open Go
def GOK (κ : Kr) : Prop := Sh κ 0 0 [.int .i64 2, .int .i64 4, .int .i64 6, .int .i64 8]
theorem GOK.mono {κ κ' : Kr} (h : GOK κ) (k : Kle κ κ') : GOK κ' := Sh.mono h k
end SX
end Go.Proofs.YtfcecieppoljlaaGreatDoor
