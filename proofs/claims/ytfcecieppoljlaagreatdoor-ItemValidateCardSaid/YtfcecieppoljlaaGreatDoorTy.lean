/- The structures of the types. No statement of the seat is proved here. Written by our program gen.py. -/
import Derived.Test.YtfcecieppoljlaaGreatDoorPx7
set_option maxRecDepth 100000
namespace Go.Proofs.YtfcecieppoljlaaGreatDoor
namespace SX
open Go
structure TItem where
  Code : ByteArray
  Origin : ByteArray
  Proof : Bool
  Company : Int
  Day : Int
  Quantity : Int
  Value : Int
  Granted : Int
  deriving Inhabited, DecidableEq
def TItem.enc (m : TItem) : List PV := [.v (.string m.Code), .v (.string m.Origin), .v (.bool m.Proof), .v (.int .i64 m.Company), .v (.int .i64 m.Day), .v (.int .i64 m.Quantity), .v (.int .i64 m.Value), .v (.int .i64 m.Granted)]
def TItem.eqb (a b : TItem) : Bool := ((decide (a.Code = b.Code)) && ((decide (a.Origin = b.Origin)) && ((a.Proof == b.Proof) && ((a.Company == b.Company) && ((a.Day == b.Day) && ((a.Quantity == b.Quantity) && ((a.Value == b.Value) && ((a.Granted == b.Granted) && true))))))))
theorem TItem.eqb_iff {a b : TItem} : TItem.eqb a b = true ↔ a = b := by cases a; cases b; simp [TItem.eqb]
structure TDebtLine where
  Kind : Int
  Measure : Int
  Quantity : Int
  Value : Int
  Amount : Int
  deriving Inhabited, DecidableEq
def TDebtLine.enc (m : TDebtLine) : List PV := [.v (.int .i64 m.Kind), .v (.int .i64 m.Measure), .v (.int .i64 m.Quantity), .v (.int .i64 m.Value), .v (.int .i64 m.Amount)]
def TDebtLine.eqb (a b : TDebtLine) : Bool := ((a.Kind == b.Kind) && ((a.Measure == b.Measure) && ((a.Quantity == b.Quantity) && ((a.Value == b.Value) && ((a.Amount == b.Amount) && true)))))
theorem TDebtLine.eqb_iff {a b : TDebtLine} : TDebtLine.eqb a b = true ↔ a = b := by cases a; cases b; simp [TDebtLine.eqb]
structure TDebt where
  Lines : (List TDebtLine)
  Total : Int
  deriving Inhabited, DecidableEq
def TDebt.enc (m : TDebt) : List PV := [.slc (List.map TDebtLine.enc m.Lines), .v (.int .i64 m.Total)]
structure TDuty where
  Rate : Int
  Amount : Int
  Per : Int
  HasMost : Bool
  Most : Int
  HasLeast : Bool
  Least : Int
  deriving Inhabited, DecidableEq
def TDuty.enc (m : TDuty) : List PV := [.v (.int .i64 m.Rate), .v (.int .i64 m.Amount), .v (.int .i64 m.Per), .v (.bool m.HasMost), .v (.int .i64 m.Most), .v (.bool m.HasLeast), .v (.int .i64 m.Least)]
def TDuty.eqb (a b : TDuty) : Bool := ((a.Rate == b.Rate) && ((a.Amount == b.Amount) && ((a.Per == b.Per) && ((a.HasMost == b.HasMost) && ((a.Most == b.Most) && ((a.HasLeast == b.HasLeast) && ((a.Least == b.Least) && true)))))))
theorem TDuty.eqb_iff {a b : TDuty} : TDuty.eqb a b = true ↔ a = b := by cases a; cases b; simp [TDuty.eqb]
structure TMeasure where
  ID : Int
  Kind : Int
  Prefix : ByteArray
  Origins : (List ByteArray)
  Company : Int
  From : Int
  To : Int
  Registered : Int
  Duty : TDuty
  deriving Inhabited, DecidableEq
def TMeasure.enc (m : TMeasure) : List PV := [.v (.int .i64 m.ID), .v (.int .i64 m.Kind), .v (.string m.Prefix), .slc (List.map eS m.Origins), .v (.int .i64 m.Company), .v (.int .i64 m.From), .v (.int .i64 m.To), .v (.int .i64 m.Registered), .v (.int .i64 m.Duty.Rate), .v (.int .i64 m.Duty.Amount), .v (.int .i64 m.Duty.Per), .v (.bool m.Duty.HasMost), .v (.int .i64 m.Duty.Most), .v (.bool m.Duty.HasLeast), .v (.int .i64 m.Duty.Least)]
structure Tmade_Source where
  L : (List Int)
  I : Int
  deriving Inhabited, DecidableEq
def Tmade_Source.enc (m : Tmade_Source) : List PV := [.slc (List.map eI m.L), .v (.int .i64 m.I)]
structure Tassess_part where
  quantity : Int
  value : Int
  kinds : (List Int)
  deriving Inhabited, DecidableEq
def Tassess_part.enc (m : Tassess_part) : List PV := [.v (.int .i64 m.quantity), .v (.int .i64 m.value), .slc (List.map eI m.kinds)]
structure Tassess_account where
  kind : Int
  measure : Int
  deriving Inhabited, DecidableEq
def Tassess_account.enc (m : Tassess_account) : List PV := [.v (.int .i64 m.kind), .v (.int .i64 m.measure)]
def Tassess_account.eqb (a b : Tassess_account) : Bool := ((a.kind == b.kind) && ((a.measure == b.measure) && true))
theorem Tassess_account.eqb_iff {a b : Tassess_account} : Tassess_account.eqb a b = true ↔ a = b := by cases a; cases b; simp [Tassess_account.eqb]
structure Tref01_Wide where
  Hi : Int
  Lo : Int
  deriving Inhabited, DecidableEq
def Tref01_Wide.enc (m : Tref01_Wide) : List PV := [.v (.int .u64 m.Hi), .v (.int .u64 m.Lo)]
def Tref01_Wide.eqb (a b : Tref01_Wide) : Bool := ((a.Hi == b.Hi) && ((a.Lo == b.Lo) && true))
theorem Tref01_Wide.eqb_iff {a b : Tref01_Wide} : Tref01_Wide.eqb a b = true ↔ a = b := by cases a; cases b; simp [Tref01_Wide.eqb]
structure Tapportion_portion where
  index_ : Int
  share : Int
  rest : Int
  deriving Inhabited, DecidableEq
def Tapportion_portion.enc (m : Tapportion_portion) : List PV := [.v (.int .i64 m.index_), .v (.int .u64 m.share), .v (.int .u64 m.rest)]
def Tapportion_portion.eqb (a b : Tapportion_portion) : Bool := ((a.index_ == b.index_) && ((a.share == b.share) && ((a.rest == b.rest) && true)))
theorem Tapportion_portion.eqb_iff {a b : Tapportion_portion} : Tapportion_portion.eqb a b = true ↔ a = b := by cases a; cases b; simp [Tapportion_portion.eqb]
structure Tapportion_ranking where
  compare : Unit
  deriving Inhabited, DecidableEq
def Tapportion_ranking.enc (m : Tapportion_ranking) : List PV := [.fn 91 []]
structure Texact_Wide where
  Hi : Int
  Lo : Int
  deriving Inhabited, DecidableEq
def Texact_Wide.enc (m : Texact_Wide) : List PV := [.v (.int .u64 m.Hi), .v (.int .u64 m.Lo)]
def Texact_Wide.eqb (a b : Texact_Wide) : Bool := ((a.Hi == b.Hi) && ((a.Lo == b.Lo) && true))
theorem Texact_Wide.eqb_iff {a b : Texact_Wide} : Texact_Wide.eqb a b = true ↔ a = b := by cases a; cases b; simp [Texact_Wide.eqb]
end SX
end Go.Proofs.YtfcecieppoljlaaGreatDoor
