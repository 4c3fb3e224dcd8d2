/- The level of a code, as a contract over pure values. No statement of the seat is proved here. -/
import Derived.Test.YtfcecieppoljlaaGreatDoorV3
import Derived.Test.YtfcecieppoljlaaGreatDoorW1
set_option maxRecDepth 100000
namespace Go.Proofs.YtfcecieppoljlaaGreatDoor
namespace SX
open Go
def nomenclature_Level (p0 : ByteArray) : Option Int := some (level p0)
theorem nomenclature_Level_ok {p0 : ByteArray} {r : Int} (h : nomenclature_Level p0 = some r) : PF 30 [.v (.string p0)] (.v (.int .i64 r)) := fun κ args g ha => by
  obtain ⟨v, ws, rfl, h1, h2⟩ := ha.cons_inv
  rw [h2.nil_inv, h1.val]
  have h := Option.some.inj h; subst h
  exact (level_ok κ p0 g).mono fun v κ' _ hv => by subst hv; exact .v rfl
end SX
end Go.Proofs.YtfcecieppoljlaaGreatDoor
