/- A part of the proof: texts of the walk and of the plain laws, merged. No condition. -/
import Derived.Test.YtfcecieppoljlaaGreatDoorM2
import Derived.Test.YtfcecieppoljlaaGreatDoorChecked
import Derived.KernelRfl
import Derived.WalkKit
import Derived.OrdersHeld
import Derived.Laws.CopyRow
import Derived.Laws.StructEq
import Derived.Maps.AppendAt
import Derived.Laws.MakeOwn
import Derived.Laws.BytesArg
import Derived.Laws.Externs
import Derived.Laws.Cover3
import Derived.ChangeArms
import Derived.DataReads
import GoSem.ClaimJoined
import Derived.Test.YtfcecieppoljlaaGreatDoorRows
import Derived.ChangeSame
import Derived.ChangeVars
import Derived.JoinedOf
import Derived.RowKit
import Derived.RowKitTokens
import Derived.LaidLaws
import Derived.LaidHandle
import Derived.Carry
import Derived.Handed
import Derived.ChangeOld
import Derived.SevenTiedAt
import Derived.Test.YtfcecieppoljlaaGreatDoorCards
import Derived.Test.YtfcecieppoljlaaGreatDoorTie
set_option linter.unusedVariables false
set_option linter.unusedSimpArgs false
set_option maxRecDepth 100000
namespace Go.Proofs.YtfcecieppoljlaaGreatDoor
namespace SX
open Go
attribute [local irreducible] PWL PWC PWD POpL POpQ PEv PGuardIs PSub PPick PUpd PSplice PFill PLit PF PFV PCall pseqK pblockK pmidK pcutK ploopK pretK Cov PHolds loopF idx app mk gd lb nz ge0 cat sub ssub iand ior ixor ishl ishr imin imax IntKind.wrap Int.tmod Int.tdiv Op.bytesLess strOfNums
def math_bits_Mul64 (p0 : Int) (p1 : Int) : Option (Int × Int) := lb ((IntKind.u64.wrap ((iand .u64 p0 4294967295) * (iand .u64 p1 4294967295)))) (fun w1 => lb ((IntKind.u64.wrap ((IntKind.u64.wrap ((ishr .u64 p0 32) * (iand .u64 p1 4294967295))) + (ishr .u64 w1 32)))) (fun w2 => lb ((IntKind.u64.wrap ((iand .u64 w2 4294967295) + (IntKind.u64.wrap ((iand .u64 p0 4294967295) * (ishr .u64 p1 32)))))) (fun w3 => lb ((IntKind.u64.wrap ((IntKind.u64.wrap ((IntKind.u64.wrap ((ishr .u64 p0 32) * (ishr .u64 p1 32))) + (ishr .u64 w2 32))) + (ishr .u64 w3 32)))) (fun w4 => some (w4, (IntKind.u64.wrap (p0 * p1)))))))
set_option maxHeartbeats 4000000 in
theorem math_bits_Mul64_ok {p0 : Int} {p1 : Int} {r : (Int × Int)}  (h : math_bits_Mul64 p0 p1 = some r) : PF 121 [.v (.int .u64 p0), .v (.int .u64 p1)] (.tup [.v (.int .u64 r.1), .v (.int .u64 r.2)]) := by
 unfold math_bits_Mul64 at h
 refine pf_of ?_
 refine penter Tryz.func121 fk121 rfl Tryz.ntmps121 Tryz.results121 rfl ?_
 refine yab (yaa ?_)
 refine zas (p := .v (.int .u64 0)) rfl rfl rfl rfl rfl ?_
 refine zas (p := .v (.int .u64 0)) rfl rfl rfl rfl rfl ?_
 refine yad (yae (yab (yaa ?_)))
 refine zmv (p := .v (.int .u64 p0)) rfl rfl rfl rfl rfl ?_
 refine yah rfl rfl rfl (pq_bits rfl (.p rfl) (.p rfl) rfl) ?_
 refine zas (p := .v (.int .u64 (iand .u64 p0 4294967295))) rfl rfl rfl rfl rfl ?_
 refine yad (yae (yab (yaa ?_)))
 refine zmv (p := .v (.int .u64 p0)) rfl rfl rfl rfl rfl ?_
 refine yah rfl rfl rfl (pq_shift rfl (.p rfl) (.p rfl) (fun _ => by decide) rfl) ?_
 refine zas (p := .v (.int .u64 (ishr .u64 p0 32))) rfl rfl rfl rfl rfl ?_
 refine yad (yae (yab (yaa ?_)))
 refine zmv (p := .v (.int .u64 p1)) rfl rfl rfl rfl rfl ?_
 refine yah rfl rfl rfl (pq_bits rfl (.p rfl) (.p rfl) rfl) ?_
 refine zas (p := .v (.int .u64 (iand .u64 p1 4294967295))) rfl rfl rfl rfl rfl ?_
 refine yad (yae (yab (yaa ?_)))
 refine zmv (p := .v (.int .u64 p1)) rfl rfl rfl rfl rfl ?_
 refine yah rfl rfl rfl (pq_shift rfl (.p rfl) (.p rfl) (fun _ => by decide) rfl) ?_
 refine zas (p := .v (.int .u64 (ishr .u64 p1 32))) rfl rfl rfl rfl rfl ?_
 refine yad (yae (yab (yaa ?_)))
 refine zmv (p := .v (.int .u64 (iand .u64 p0 4294967295))) rfl rfl rfl rfl rfl ?_
 refine zmv (p := .v (.int .u64 (iand .u64 p1 4294967295))) rfl rfl rfl rfl rfl ?_
 refine yah rfl rfl rfl (yas rfl (.p rfl) (.p rfl) rfl) ?_
 refine lb_elim h ?_; clear h; intro w1 hw1 h
 refine yah rfl rfl rfl (pq_assign rfl (.p (congrArg (fun z => PV.v (Value.int .u64 z)) hw1))) ?_
 refine yad (yae (yab (yaa ?_)))
 refine zmv (p := .v (.int .u64 (ishr .u64 p0 32))) rfl rfl rfl rfl rfl ?_
 refine zmv (p := .v (.int .u64 (iand .u64 p1 4294967295))) rfl rfl rfl rfl rfl ?_
 refine yah rfl rfl rfl (yas rfl (.p rfl) (.p rfl) rfl) ?_
 refine zmv (p := .v (.int .u64 w1)) rfl rfl rfl rfl rfl ?_
 refine yah rfl rfl rfl (pq_shift rfl (.p rfl) (.p rfl) (fun _ => by decide) rfl) ?_
 refine yah rfl rfl rfl (yas rfl (.p rfl) (.p rfl) rfl) ?_
 refine lb_elim h ?_; clear h; intro w2 hw2 h
 refine yah rfl rfl rfl (pq_assign rfl (.p (congrArg (fun z => PV.v (Value.int .u64 z)) hw2))) ?_
 refine yad (yae (yab (yaa ?_)))
 refine zmv (p := .v (.int .u64 w2)) rfl rfl rfl rfl rfl ?_
 refine yah rfl rfl rfl (pq_bits rfl (.p rfl) (.p rfl) rfl) ?_
 refine zas (p := .v (.int .u64 (iand .u64 w2 4294967295))) rfl rfl rfl rfl rfl ?_
 refine yad (yae (yab (yaa ?_)))
 refine zmv (p := .v (.int .u64 w2)) rfl rfl rfl rfl rfl ?_
 refine yah rfl rfl rfl (pq_shift rfl (.p rfl) (.p rfl) (fun _ => by decide) rfl) ?_
 refine zas (p := .v (.int .u64 (ishr .u64 w2 32))) rfl rfl rfl rfl rfl ?_
 refine yad (yae (yab (yaa ?_)))
 refine zmv (p := .v (.int .u64 (iand .u64 w2 4294967295))) rfl rfl rfl rfl rfl ?_
 refine zmv (p := .v (.int .u64 (iand .u64 p0 4294967295))) rfl rfl rfl rfl rfl ?_
 refine zmv (p := .v (.int .u64 (ishr .u64 p1 32))) rfl rfl rfl rfl rfl ?_
 refine yah rfl rfl rfl (yas rfl (.p rfl) (.p rfl) rfl) ?_
 refine yah rfl rfl rfl (yas rfl (.p rfl) (.p rfl) rfl) ?_
 refine lb_elim h ?_; clear h; intro w3 hw3 h
 refine yah rfl rfl rfl (pq_assign rfl (.p (congrArg (fun z => PV.v (Value.int .u64 z)) hw3))) ?_
 refine yad (yae (yab (yaa ?_)))
 refine zmv (p := .v (.int .u64 (ishr .u64 p0 32))) rfl rfl rfl rfl rfl ?_
 refine zmv (p := .v (.int .u64 (ishr .u64 p1 32))) rfl rfl rfl rfl rfl ?_
 refine yah rfl rfl rfl (yas rfl (.p rfl) (.p rfl) rfl) ?_
 refine zmv (p := .v (.int .u64 (ishr .u64 w2 32))) rfl rfl rfl rfl rfl ?_
 refine yah rfl rfl rfl (yas rfl (.p rfl) (.p rfl) rfl) ?_
 refine zmv (p := .v (.int .u64 w3)) rfl rfl rfl rfl rfl ?_
 refine yah rfl rfl rfl (pq_shift rfl (.p rfl) (.p rfl) (fun _ => by decide) rfl) ?_
 refine yah rfl rfl rfl (yas rfl (.p rfl) (.p rfl) rfl) ?_
 refine lb_elim h ?_; clear h; intro w4 hw4 h
 refine yah rfl rfl rfl (pq_assign rfl (.p (congrArg (fun z => PV.v (Value.int .u64 z)) hw4))) ?_
 refine yad (yae (yab (yaa ?_)))
 refine zmv (p := .v (.int .u64 p0)) rfl rfl rfl rfl rfl ?_
 refine zmv (p := .v (.int .u64 p1)) rfl rfl rfl rfl rfl ?_
 refine yah rfl rfl rfl (yas rfl (.p rfl) (.p rfl) rfl) ?_
 refine zas (p := .v (.int .u64 (IntKind.u64.wrap (p0 * p1)))) rfl rfl rfl rfl rfl ?_
 refine yad (yae (yaq ?_))
 obtain rfl := Option.some.inj h
 exact yar (prv_2 (yat rfl) (yat rfl)) zsn ⟨rfl, rfl⟩
def exact_Mul (p0 : Int) (p1 : Int) : Option Texact_Wide := Option.bind (math_bits_Mul64 p0 p1) (fun x2 => some (⟨x2.1, x2.2⟩ : Texact_Wide))
set_option maxHeartbeats 4000000 in
theorem exact_Mul_ok {p0 : Int} {p1 : Int} {r : Texact_Wide}  (h : exact_Mul p0 p1 = some r) : PF 94 [.v (.int .u64 p0), .v (.int .u64 p1)] (.agg [.v (.int .u64 r.Hi), .v (.int .u64 r.Lo)]) := by
 unfold exact_Mul at h
 refine pf_of ?_
 refine penter Tryz.func94 fk94 rfl Tryz.ntmps94 Tryz.results94 rfl ?_
 refine yab (yaa ?_)
 refine ybl rfl rfl rfl (pl_alloc (cs := [.v (.int .u64 0), .v (.int .u64 0)]) rfl rfl rfl rfl (fun b1 => ?_))
 refine yad (yae (yab (yaa ?_)))
 refine zmv (p := .v (.int .u64 p0)) rfl rfl rfl rfl rfl ?_
 refine zmv (p := .v (.int .u64 p1)) rfl rfl rfl rfl rfl ?_
 refine yaf h ?_; clear h; intro x2 hx2 h
 refine ybd rfl rfl rfl rfl rfl (math_bits_Mul64_ok hx2) ?_
 refine zmv (p := .tup [.v (.int .u64 x2.1), .v (.int .u64 x2.2)]) rfl rfl rfl rfl rfl ?_
 refine zex (p := .v (.int .u64 x2.1)) rfl rfl rfl rfl rfl rfl ?_
 refine zex (p := .v (.int .u64 x2.2)) rfl rfl rfl rfl rfl rfl ?_
 refine zas (p := .v (.int .u64 x2.1)) rfl rfl rfl rfl rfl ?_
 refine zas (p := .v (.int .u64 x2.2)) rfl rfl rfl rfl rfl ?_
 refine yad (yae (yab (yaa ?_)))
 refine zmv (p := .v (.int .u64 x2.1)) rfl rfl rfl rfl rfl ?_
 refine zmv (p := .v (.int .u64 x2.2)) rfl rfl rfl rfl rfl ?_
 refine yah rfl rfl rfl (pq_build (cs := [.v (.int .u64 x2.1), .v (.int .u64 x2.2)]) rfl rfl rfl rfl rfl rfl rfl (zfc rfl rfl rfl rfl (zlc zln) (zfc rfl rfl rfl rfl (zlt (zlc zln)) zfn))) ?_
 refine pwl_l0 rfl rfl (yax (vs := [.v (.int .u64 x2.1), .v (.int .u64 x2.2)]) rfl rfl rfl rfl rfl zuh (zlc (zlc zln)) ?_)
 refine yad (yae (yaq ?_))
 obtain rfl := Option.some.inj h
 exact yar (prv_1 (prv1_c rfl zm0 rfl)) zsn ⟨rfl, rfl⟩
def math_bits_Len64 (p0 : Int) : Option Int := Option.bind (cond (decide (4294967296 ≤ p0)) (some ((ishr .u64 p0 32), 32)) (some (p0, 0))) (fun (v1, v2) => Option.bind (cond (decide (65536 ≤ v1)) (some ((ishr .u64 v1 16), (IntKind.i64.wrap (v2 + 16)))) (some (v1, v2))) (fun (v5, v6) => Option.bind (cond (decide (256 ≤ v5)) (some ((ishr .u64 v5 8), (IntKind.i64.wrap (v6 + 8)))) (some (v5, v6))) (fun (v9, v10) => Option.bind (idx (⟨#[0, 1, 2, 2, 3, 3, 3, 3, 4, 4, 4, 4, 4, 4, 4, 4, 5, 5, 5, 5, 5, 5, 5, 5, 5, 5, 5, 5, 5, 5, 5, 5, 6, 6, 6, 6, 6, 6, 6, 6, 6, 6, 6, 6, 6, 6, 6, 6, 6, 6, 6, 6, 6, 6, 6, 6, 6, 6, 6, 6, 6, 6, 6, 6, 7, 7, 7, 7, 7, 7, 7, 7, 7, 7, 7, 7, 7, 7, 7, 7, 7, 7, 7, 7, 7, 7, 7, 7, 7, 7, 7, 7, 7, 7, 7, 7, 7, 7, 7, 7, 7, 7, 7, 7, 7, 7, 7, 7, 7, 7, 7, 7, 7, 7, 7, 7, 7, 7, 7, 7, 7, 7, 7, 7, 7, 7, 7, 7, 8, 8, 8, 8, 8, 8, 8, 8, 8, 8, 8, 8, 8, 8, 8, 8, 8, 8, 8, 8, 8, 8, 8, 8, 8, 8, 8, 8, 8, 8, 8, 8, 8, 8, 8, 8, 8, 8, 8, 8, 8, 8, 8, 8, 8, 8, 8, 8, 8, 8, 8, 8, 8, 8, 8, 8, 8, 8, 8, 8, 8, 8, 8, 8, 8, 8, 8, 8, 8, 8, 8, 8, 8, 8, 8, 8, 8, 8, 8, 8, 8, 8, 8, 8, 8, 8, 8, 8, 8, 8, 8, 8, 8, 8, 8, 8, 8, 8, 8, 8, 8, 8, 8, 8, 8, 8, 8, 8, 8, 8, 8, 8, 8, 8, 8, 8, 8, 8, 8, 8, 8, 8, 8, 8, 8, 8, 8, 8]⟩ : ByteArray).data.toList (IntKind.u8.wrap v9)) (fun c13 => lb ((IntKind.i64.wrap (v10 + (IntKind.i64.wrap (c13.toNat : Int))))) (fun w14 => some w14)))))
set_option maxHeartbeats 4000000 in
theorem math_bits_Len64_ok {p0 : Int} {r : Int}  (h : math_bits_Len64 p0 = some r) : PF 110 [.v (.int .u64 p0)] (.v (.int .i64 r)) := by
 unfold math_bits_Len64 at h
 refine pf_of ?_
 refine penter Tryz.func110 fk110 rfl Tryz.ntmps110 Tryz.results110 rfl ?_
 refine yab (yaa ?_)
 refine zas (p := .v (.int .i64 0)) rfl rfl rfl rfl rfl ?_
 refine yad (yae (yab (yab (yaa ?_))))
 refine zmv (p := .v (.int .u64 p0)) rfl rfl rfl rfl rfl ?_
 refine yah rfl rfl rfl (yak rfl (.p rfl) (.p rfl) rfl) ?_
 refine yad (yae ?_)
 refine yaf h ?_; clear h; intro q3 hq3 h
 refine ybe (Y := (Unit) × (Int × Int)) (fun (_, (v1, v2)) => [(0, .v (.int .u64 v1)), (2, .v (.int .i64 v2))]) (fun (_, (v1, v2)) => []) (fun (_, (v1, v2)) => q3 = (v1, v2)) ?_ ?_
 ·skip
  refine yal rfl (fun hc4 => ?_) (fun hc4 => ?_)
  ·replace hq3 := yav hc4 hq3
   refine yab (yaa ?_)
   refine zmv (p := .v (.int .u64 p0)) rfl rfl rfl rfl rfl ?_
   refine yah rfl rfl rfl (pq_shift rfl (.p rfl) (.p rfl) (fun _ => by decide) rfl) ?_
   refine zas (p := .v (.int .u64 (ishr .u64 p0 32))) rfl rfl rfl rfl rfl ?_
   refine yad (yae (yaa ?_))
   refine zas (p := .v (.int .i64 32)) rfl rfl rfl rfl rfl ?_
   refine yad ?_
   obtain rfl := Option.some.inj hq3
   exact ybb ((), ((ishr .u64 p0 32), 32)) (zhc rfl (zhc rfl zhn)) zsn rfl
  ·replace hq3 := yaw hc4 hq3
   refine yao ?_
   obtain rfl := Option.some.inj hq3
   exact ybb ((), (p0, 0)) (zhc rfl (zhc rfl zhn)) zsn rfl
 ·rintro ⟨_, ⟨v1, v2⟩⟩ τ hz; (try dsimp only at hz); subst q3; (try dsimp only at h); dsimp only [pupds]
  refine yab (yab (yaa ?_))
  refine zmv (p := .v (.int .u64 v1)) rfl rfl rfl rfl rfl ?_
  refine yah rfl rfl rfl (yak rfl (.p rfl) (.p rfl) rfl) ?_
  refine yad (yae ?_)
  refine yaf h ?_; clear h; intro q7 hq7 h
  refine ybe (Y := (Unit) × (Int × Int)) (fun (_, (v5, v6)) => [(0, .v (.int .u64 v5)), (2, .v (.int .i64 v6))]) (fun (_, (v5, v6)) => []) (fun (_, (v5, v6)) => q7 = (v5, v6)) ?_ ?_
  ·skip
   refine yal rfl (fun hc8 => ?_) (fun hc8 => ?_)
   ·replace hq7 := yav hc8 hq7
    refine yab (yaa ?_)
    refine zmv (p := .v (.int .u64 v1)) rfl rfl rfl rfl rfl ?_
    refine yah rfl rfl rfl (pq_shift rfl (.p rfl) (.p rfl) (fun _ => by decide) rfl) ?_
    refine zas (p := .v (.int .u64 (ishr .u64 v1 16))) rfl rfl rfl rfl rfl ?_
    refine yad (yae (yaa ?_))
    refine zmv (p := .v (.int .i64 v2)) rfl rfl rfl rfl rfl ?_
    refine yah rfl rfl rfl (yas rfl (.p rfl) (.p rfl) rfl) ?_
    refine zas (p := .v (.int .i64 (IntKind.i64.wrap (v2 + 16)))) rfl rfl rfl rfl rfl ?_
    refine yad ?_
    obtain rfl := Option.some.inj hq7
    exact ybb ((), ((ishr .u64 v1 16), (IntKind.i64.wrap (v2 + 16)))) (zhc rfl (zhc rfl zhn)) zsn rfl
   ·replace hq7 := yaw hc8 hq7
    refine yao ?_
    obtain rfl := Option.some.inj hq7
    exact ybb ((), (v1, v2)) (zhc rfl (zhc rfl zhn)) zsn rfl
  ·rintro ⟨_, ⟨v5, v6⟩⟩ τ hz; (try dsimp only at hz); subst q7; (try dsimp only at h); dsimp only [pupds]
   refine yab (yab (yaa ?_))
   refine zmv (p := .v (.int .u64 v5)) rfl rfl rfl rfl rfl ?_
   refine yah rfl rfl rfl (yak rfl (.p rfl) (.p rfl) rfl) ?_
   refine yad (yae ?_)
   refine yaf h ?_; clear h; intro q11 hq11 h
   refine ybe (Y := (Unit) × (Int × Int)) (fun (_, (v9, v10)) => [(0, .v (.int .u64 v9)), (2, .v (.int .i64 v10))]) (fun (_, (v9, v10)) => []) (fun (_, (v9, v10)) => q11 = (v9, v10)) ?_ ?_
   ·skip
    refine yal rfl (fun hc12 => ?_) (fun hc12 => ?_)
    ·replace hq11 := yav hc12 hq11
     refine yab (yaa ?_)
     refine zmv (p := .v (.int .u64 v5)) rfl rfl rfl rfl rfl ?_
     refine yah rfl rfl rfl (pq_shift rfl (.p rfl) (.p rfl) (fun _ => by decide) rfl) ?_
     refine zas (p := .v (.int .u64 (ishr .u64 v5 8))) rfl rfl rfl rfl rfl ?_
     refine yad (yae (yaa ?_))
     refine zmv (p := .v (.int .i64 v6)) rfl rfl rfl rfl rfl ?_
     refine yah rfl rfl rfl (yas rfl (.p rfl) (.p rfl) rfl) ?_
     refine zas (p := .v (.int .i64 (IntKind.i64.wrap (v6 + 8)))) rfl rfl rfl rfl rfl ?_
     refine yad ?_
     obtain rfl := Option.some.inj hq11
     exact ybb ((), ((ishr .u64 v5 8), (IntKind.i64.wrap (v6 + 8)))) (zhc rfl (zhc rfl zhn)) zsn rfl
    ·replace hq11 := yaw hc12 hq11
     refine yao ?_
     obtain rfl := Option.some.inj hq11
     exact ybb ((), (v5, v6)) (zhc rfl (zhc rfl zhn)) zsn rfl
   ·rintro ⟨_, ⟨v9, v10⟩⟩ τ hz; (try dsimp only at hz); subst q11; (try dsimp only at h); dsimp only [pupds]
    refine yab (yaa ?_)
    refine zmv (p := .v (.int .i64 v10)) rfl rfl rfl rfl rfl ?_
    refine zmv (p := .v (.int .u64 v9)) rfl rfl rfl rfl rfl ?_
    refine yah rfl rfl rfl (pq_conv rfl rfl rfl (.p rfl)) ?_
    refine yaf h ?_; clear h; intro c13 hc13 h
    refine yah rfl rfl rfl (pq_indexS rfl rfl (.p rfl) (.p rfl) (fun _ => hc13)) ?_
    refine yah rfl rfl rfl (pq_conv rfl rfl rfl (.p rfl)) ?_
    refine yah rfl rfl rfl (yas rfl (.p rfl) (.p rfl) rfl) ?_
    refine lb_elim h ?_; clear h; intro w14 hw14 h
    refine yah rfl rfl rfl (pq_assign rfl (.p (congrArg (fun z => PV.v (Value.int .i64 z)) hw14))) ?_
    refine yad (yae (yaq ?_))
    obtain rfl := Option.some.inj h
    exact yar (prv_1 (yat rfl)) zsn ⟨rfl, rfl⟩
def math_bits_LeadingZeros64 (p0 : Int) : Option Int := Option.bind (math_bits_Len64 p0) (fun x1 => some (IntKind.i64.wrap (64 - x1)))
set_option maxHeartbeats 4000000 in
theorem math_bits_LeadingZeros64_ok {p0 : Int} {r : Int}  (h : math_bits_LeadingZeros64 p0 = some r) : PF 135 [.v (.int .u64 p0)] (.v (.int .i64 r)) := by
 unfold math_bits_LeadingZeros64 at h
 refine pf_of ?_
 refine penter Tryz.func135 fk135 rfl Tryz.ntmps135 Tryz.results135 rfl ?_
 refine yab (yaa ?_)
 refine zas (p := .v (.int .i64 0)) rfl rfl rfl rfl rfl ?_
 refine yad (yae (yab (yaa ?_)))
 refine zmv (p := .v (.int .u64 p0)) rfl rfl rfl rfl rfl ?_
 refine yaf h ?_; clear h; intro x1 hx1 h
 refine ybd rfl rfl rfl rfl rfl (math_bits_Len64_ok hx1) ?_
 refine yah rfl rfl rfl (yas rfl (.p rfl) (.p rfl) rfl) ?_
 refine zas (p := .v (.int .i64 (IntKind.i64.wrap (64 - x1)))) rfl rfl rfl rfl rfl ?_
 refine yad (yae (yaq ?_))
 obtain rfl := Option.some.inj h
 exact yar (prv_1 (yat rfl)) zsn ⟨rfl, rfl⟩
def exact_raised (p0 : Int) (p1 : Int) (p2 : Int) (p3 : Int) : Option Bool := cond (p3 == 1) (some (decide (0 < p1))) (cond (p3 == 2) (some (decide ((IntKind.u64.wrap (p2 - p1)) ≤ p1))) (cond (p3 == 3) (some ((decide ((IntKind.u64.wrap (p2 - p1)) < p1)) || ((p1 == (IntKind.u64.wrap (p2 - p1))) && ((Int.tmod p0 2) == 1)))) (some false)))
set_option maxHeartbeats 4000000 in
theorem exact_raised_ok {p0 : Int} {p1 : Int} {p2 : Int} {p3 : Int} {r : Bool}  (h : exact_raised p0 p1 p2 p3 = some r) : PF 124 [.v (.int .u64 p0), .v (.int .u64 p1), .v (.int .u64 p2), .v (.int .i64 p3)] (.v (.bool r)) := by
 unfold exact_raised at h
 refine pf_of ?_
 refine penter Tryz.func124 fk124 rfl Tryz.ntmps124 Tryz.results124 rfl ?_
 refine yab (yaa ?_)
 refine zas (p := .v (.bool false)) rfl rfl rfl rfl rfl ?_
 refine yad (yae (yab (yaa ?_)))
 refine zmv (p := .v (.int .u64 p2)) rfl rfl rfl rfl rfl ?_
 refine zmv (p := .v (.int .u64 p1)) rfl rfl rfl rfl rfl ?_
 refine yah rfl rfl rfl (yas rfl (.p rfl) (.p rfl) rfl) ?_
 refine zas (p := .v (.int .u64 (IntKind.u64.wrap (p2 - p1)))) rfl rfl rfl rfl rfl ?_
 refine yad (yae (yab (yab (yaa ?_))))
 refine zmv (p := .v (.int .i64 p3)) rfl rfl rfl rfl rfl ?_
 refine yad (yae (yaz (yab (yaa ?_))))
 refine yah rfl rfl rfl (yak rfl (.p rfl) (.p rfl) rfl) ?_
 refine zas (p := .v (.bool (p3 == 1))) rfl rfl rfl rfl rfl ?_
 refine yad (yae ?_)
 refine yal rfl (fun hc1 => ?_) (fun hc1 => ?_)
 ·replace h := yav hc1 h
  refine yab (yaa ?_)
  refine zmv (p := .v (.int .u64 p1)) rfl rfl rfl rfl rfl ?_
  refine yah rfl rfl rfl (yak rfl (.p rfl) (.p rfl) rfl) ?_
  refine zas (p := .v (.bool (decide (0 < p1)))) rfl rfl rfl rfl rfl ?_
  refine yad (yae (yaq (yba (yap ?_))))
  obtain rfl := Option.some.inj h
  exact yar (prv_1 (yat rfl)) zsn ⟨rfl, rfl⟩
 ·replace h := yaw hc1 h
  refine yab (yaa ?_)
  refine yah rfl rfl rfl (yak rfl (.p rfl) (.p rfl) rfl) ?_
  refine zas (p := .v (.bool (p3 == 2))) rfl rfl rfl rfl rfl ?_
  refine yad (yae ?_)
  refine yal rfl (fun hc2 => ?_) (fun hc2 => ?_)
  ·replace h := yav hc2 h
   refine yab (yaa ?_)
   refine zmv (p := .v (.int .u64 p1)) rfl rfl rfl rfl rfl ?_
   refine zmv (p := .v (.int .u64 (IntKind.u64.wrap (p2 - p1)))) rfl rfl rfl rfl rfl ?_
   refine yah rfl rfl rfl (yak rfl (.p rfl) (.p rfl) rfl) ?_
   refine zas (p := .v (.bool (decide ((IntKind.u64.wrap (p2 - p1)) ≤ p1)))) rfl rfl rfl rfl rfl ?_
   refine yad (yae (yaq (yba (yap ?_))))
   obtain rfl := Option.some.inj h
   exact yar (prv_1 (yat rfl)) zsn ⟨rfl, rfl⟩
  ·replace h := yaw hc2 h
   refine yab (yaa ?_)
   refine yah rfl rfl rfl (yak rfl (.p rfl) (.p rfl) rfl) ?_
   refine zas (p := .v (.bool (p3 == 3))) rfl rfl rfl rfl rfl ?_
   refine yad (yae ?_)
   refine yal rfl (fun hc3 => ?_) (fun hc3 => ?_)
   ·replace h := yav hc3 h
    refine yab (yaa ?_)
    refine zmv (p := .v (.int .u64 p1)) rfl rfl rfl rfl rfl ?_
    refine zmv (p := .v (.int .u64 (IntKind.u64.wrap (p2 - p1)))) rfl rfl rfl rfl rfl ?_
    refine yah rfl rfl rfl (yak rfl (.p rfl) (.p rfl) rfl) ?_
    refine zmv (p := .v (.bool (decide ((IntKind.u64.wrap (p2 - p1)) < p1)))) rfl rfl rfl rfl rfl ?_
    refine yaj (yai rfl rfl rfl) rfl rfl (yam (p := .v (.int .u64 p1)) rfl (.p rfl)) ?_
    refine yaj (yai rfl rfl rfl) rfl rfl (yam (p := .v (.int .u64 (IntKind.u64.wrap (p2 - p1)))) rfl (.p rfl)) ?_
    refine yaj (yai rfl rfl rfl) rfl rfl (yak rfl (.g rfl) (.g rfl) rfl) ?_
    refine yaj (yai rfl rfl rfl) rfl rfl (yam (p := .v (.bool (p1 == (IntKind.u64.wrap (p2 - p1))))) rfl (.g rfl)) ?_
    refine yaj (yay rfl rfl rfl) rfl rfl (yam (p := .v (.int .u64 p0)) rfl (.p rfl)) ?_
    refine yaj (yay rfl rfl rfl) rfl rfl (pq_rem rfl (.g rfl) (.p rfl) (fun _ => by decide)) ?_
    refine yaj (yay rfl rfl rfl) rfl rfl (yak rfl (.g rfl) (.p rfl) rfl) ?_
    refine yaj (yai rfl rfl rfl) rfl rfl (pq_and rfl (.g rfl) (.p rfl) (.g rfl)) ?_
    refine yah rfl rfl rfl (pq_or rfl (.p rfl) (.p rfl) (.g rfl)) ?_
    refine zas (p := .v (.bool ((decide ((IntKind.u64.wrap (p2 - p1)) < p1)) || ((p1 == (IntKind.u64.wrap (p2 - p1))) && ((Int.tmod p0 2) == 1))))) rfl rfl rfl rfl rfl ?_
    refine yad (yae (yaq (yba (yap ?_))))
    obtain rfl := Option.some.inj h
    exact yar (prv_1 (yat rfl)) zsn ⟨rfl, rfl⟩
   ·replace h := yaw hc3 h
    refine yao (ybc (yae (yab (yaa ?_))))
    refine zas (p := .v (.bool false)) rfl rfl rfl rfl rfl ?_
    refine yad (yae (yaq ?_))
    obtain rfl := Option.some.inj h
    exact yar (prv_1 (yat rfl)) zsn ⟨rfl, rfl⟩
def cmp_isNaN_int (p0 : Int) : Option Bool := some (p0 != p0)
set_option maxHeartbeats 4000000 in
theorem cmp_isNaN_int_ok {p0 : Int} {r : Bool}  (h : cmp_isNaN_int p0 = some r) : PF 76 [.v (.int .i64 p0)] (.v (.bool r)) := by
 unfold cmp_isNaN_int at h
 refine pf_of ?_
 refine penter Tryz.func76 fk76 rfl Tryz.ntmps76 Tryz.results76 rfl ?_
 refine yab (yaa ?_)
 refine zas (p := .v (.bool false)) rfl rfl rfl rfl rfl ?_
 refine yad (yae (yab (yaa ?_)))
 refine zmv (p := .v (.int .i64 p0)) rfl rfl rfl rfl rfl ?_
 refine zmv (p := .v (.int .i64 p0)) rfl rfl rfl rfl rfl ?_
 refine yah rfl rfl rfl (yak rfl (.p rfl) (.p rfl) rfl) ?_
 refine zas (p := .v (.bool (p0 != p0))) rfl rfl rfl rfl rfl ?_
 refine yad (yae (yaq ?_))
 obtain rfl := Option.some.inj h
 exact yar (prv_1 (yat rfl)) zsn ⟨rfl, rfl⟩
def cmp_Compare_int (p0 : Int) (p1 : Int) : Option Int := Option.bind (cmp_isNaN_int p0) (fun x1 => Option.bind (cmp_isNaN_int p1) (fun x2 => cond x1 (cond x2 (some 0) (some (-1))) (cond x2 (some 1) (cond (decide (p0 < p1)) (some (-1)) (cond (decide (p1 < p0)) (some 1) (some 0))))))
set_option maxHeartbeats 4000000 in
theorem cmp_Compare_int_ok {p0 : Int} {p1 : Int} {r : Int}  (h : cmp_Compare_int p0 p1 = some r) : PF 49 [.v (.int .i64 p0), .v (.int .i64 p1)] (.v (.int .i64 r)) := by
 unfold cmp_Compare_int at h
 refine pf_of ?_
 refine penter Tryz.func49 fk49 rfl Tryz.ntmps49 Tryz.results49 rfl ?_
 refine yab (yaa ?_)
 refine zas (p := .v (.int .i64 0)) rfl rfl rfl rfl rfl ?_
 refine yad (yae (yab (yaa ?_)))
 refine zmv (p := .v (.int .i64 p0)) rfl rfl rfl rfl rfl ?_
 refine yaf h ?_; clear h; intro x1 hx1 h
 refine ybd rfl rfl rfl rfl rfl (cmp_isNaN_int_ok hx1) ?_
 refine zas (p := .v (.bool x1)) rfl rfl rfl rfl rfl ?_
 refine yad (yae (yab (yaa ?_)))
 refine zmv (p := .v (.int .i64 p1)) rfl rfl rfl rfl rfl ?_
 refine yaf h ?_; clear h; intro x2 hx2 h
 refine ybd rfl rfl rfl rfl rfl (cmp_isNaN_int_ok hx2) ?_
 refine zas (p := .v (.bool x2)) rfl rfl rfl rfl rfl ?_
 refine yad (yae (yab (yab (yaa ?_))))
 refine zmv (p := .v (.bool x1)) rfl rfl rfl rfl rfl ?_
 refine yad (yae ?_)
 refine yal rfl (fun hc3 => ?_) (fun hc3 => ?_)
 ·replace h := yav hc3 h
  refine yab (yab (yaa ?_))
  refine zmv (p := .v (.bool x2)) rfl rfl rfl rfl rfl ?_
  refine yad (yae ?_)
  refine yal rfl (fun hc4 => ?_) (fun hc4 => ?_)
  ·replace h := yav hc4 h
   refine yab (yaa ?_)
   refine zas (p := .v (.int .i64 0)) rfl rfl rfl rfl rfl ?_
   refine yad (yae (yaq (yap (yap ?_))))
   obtain rfl := Option.some.inj h
   exact yar (prv_1 (yat rfl)) zsn ⟨rfl, rfl⟩
  ·replace h := yaw hc4 h
   refine yao (yae (yab (yaa ?_)))
   refine zas (p := .v (.int .i64 (-1))) rfl rfl rfl rfl rfl ?_
   refine yad (yae (yaq (yap ?_)))
   obtain rfl := Option.some.inj h
   exact yar (prv_1 (yat rfl)) zsn ⟨rfl, rfl⟩
 ·replace h := yaw hc3 h
  refine yao (yae (yab (yab (yaa ?_))))
  refine zmv (p := .v (.bool x2)) rfl rfl rfl rfl rfl ?_
  refine yad (yae ?_)
  refine yal rfl (fun hc5 => ?_) (fun hc5 => ?_)
  ·replace h := yav hc5 h
   refine yab (yaa ?_)
   refine zas (p := .v (.int .i64 1)) rfl rfl rfl rfl rfl ?_
   refine yad (yae (yaq (yap ?_)))
   obtain rfl := Option.some.inj h
   exact yar (prv_1 (yat rfl)) zsn ⟨rfl, rfl⟩
  ·replace h := yaw hc5 h
   refine yao (yae (yab (yab (yaa ?_))))
   refine zmv (p := .v (.int .i64 p0)) rfl rfl rfl rfl rfl ?_
   refine zmv (p := .v (.int .i64 p1)) rfl rfl rfl rfl rfl ?_
   refine yah rfl rfl rfl (yak rfl (.p rfl) (.p rfl) rfl) ?_
   refine yad (yae ?_)
   refine yal rfl (fun hc6 => ?_) (fun hc6 => ?_)
   ·replace h := yav hc6 h
    refine yab (yaa ?_)
    refine zas (p := .v (.int .i64 (-1))) rfl rfl rfl rfl rfl ?_
    refine yad (yae (yaq (yap ?_)))
    obtain rfl := Option.some.inj h
    exact yar (prv_1 (yat rfl)) zsn ⟨rfl, rfl⟩
   ·replace h := yaw hc6 h
    refine yao (yae (yab (yab (yaa ?_))))
    refine zmv (p := .v (.int .i64 p0)) rfl rfl rfl rfl rfl ?_
    refine zmv (p := .v (.int .i64 p1)) rfl rfl rfl rfl rfl ?_
    refine yah rfl rfl rfl (yak rfl (.p rfl) (.p rfl) rfl) ?_
    refine yad (yae ?_)
    refine yal rfl (fun hc7 => ?_) (fun hc7 => ?_)
    ·replace h := yav hc7 h
     refine yab (yaa ?_)
     refine zas (p := .v (.int .i64 1)) rfl rfl rfl rfl rfl ?_
     refine yad (yae (yaq (yap ?_)))
     obtain rfl := Option.some.inj h
     exact yar (prv_1 (yat rfl)) zsn ⟨rfl, rfl⟩
    ·replace h := yaw hc7 h
     refine yao (yae (yab (yaa ?_)))
     refine zas (p := .v (.int .i64 0)) rfl rfl rfl rfl rfl ?_
     refine yad (yae (yaq ?_))
     obtain rfl := Option.some.inj h
     exact yar (prv_1 (yat rfl)) zsn ⟨rfl, rfl⟩
def cmp_isNaN_uint64 (p0 : Int) : Option Bool := some (p0 != p0)
set_option maxHeartbeats 4000000 in
theorem cmp_isNaN_uint64_ok {p0 : Int} {r : Bool}  (h : cmp_isNaN_uint64 p0 = some r) : PF 133 [.v (.int .u64 p0)] (.v (.bool r)) := by
 unfold cmp_isNaN_uint64 at h
 refine pf_of ?_
 refine penter Tryz.func133 fk133 rfl Tryz.ntmps133 Tryz.results133 rfl ?_
 refine yab (yaa ?_)
 refine zas (p := .v (.bool false)) rfl rfl rfl rfl rfl ?_
 refine yad (yae (yab (yaa ?_)))
 refine zmv (p := .v (.int .u64 p0)) rfl rfl rfl rfl rfl ?_
 refine zmv (p := .v (.int .u64 p0)) rfl rfl rfl rfl rfl ?_
 refine yah rfl rfl rfl (yak rfl (.p rfl) (.p rfl) rfl) ?_
 refine zas (p := .v (.bool (p0 != p0))) rfl rfl rfl rfl rfl ?_
 refine yad (yae (yaq ?_))
 obtain rfl := Option.some.inj h
 exact yar (prv_1 (yat rfl)) zsn ⟨rfl, rfl⟩
def cmp_Compare_uint64 (p0 : Int) (p1 : Int) : Option Int := Option.bind (cmp_isNaN_uint64 p0) (fun x1 => Option.bind (cmp_isNaN_uint64 p1) (fun x2 => cond x1 (cond x2 (some 0) (some (-1))) (cond x2 (some 1) (cond (decide (p0 < p1)) (some (-1)) (cond (decide (p1 < p0)) (some 1) (some 0))))))
set_option maxHeartbeats 4000000 in
theorem cmp_Compare_uint64_ok {p0 : Int} {p1 : Int} {r : Int}  (h : cmp_Compare_uint64 p0 p1 = some r) : PF 118 [.v (.int .u64 p0), .v (.int .u64 p1)] (.v (.int .i64 r)) := by
 unfold cmp_Compare_uint64 at h
 refine pf_of ?_
 refine penter Tryz.func118 fk118 rfl Tryz.ntmps118 Tryz.results118 rfl ?_
 refine yab (yaa ?_)
 refine zas (p := .v (.int .i64 0)) rfl rfl rfl rfl rfl ?_
 refine yad (yae (yab (yaa ?_)))
 refine zmv (p := .v (.int .u64 p0)) rfl rfl rfl rfl rfl ?_
 refine yaf h ?_; clear h; intro x1 hx1 h
 refine ybd rfl rfl rfl rfl rfl (cmp_isNaN_uint64_ok hx1) ?_
 refine zas (p := .v (.bool x1)) rfl rfl rfl rfl rfl ?_
 refine yad (yae (yab (yaa ?_)))
 refine zmv (p := .v (.int .u64 p1)) rfl rfl rfl rfl rfl ?_
 refine yaf h ?_; clear h; intro x2 hx2 h
 refine ybd rfl rfl rfl rfl rfl (cmp_isNaN_uint64_ok hx2) ?_
 refine zas (p := .v (.bool x2)) rfl rfl rfl rfl rfl ?_
 refine yad (yae (yab (yab (yaa ?_))))
 refine zmv (p := .v (.bool x1)) rfl rfl rfl rfl rfl ?_
 refine yad (yae ?_)
 refine yal rfl (fun hc3 => ?_) (fun hc3 => ?_)
 ·replace h := yav hc3 h
  refine yab (yab (yaa ?_))
  refine zmv (p := .v (.bool x2)) rfl rfl rfl rfl rfl ?_
  refine yad (yae ?_)
  refine yal rfl (fun hc4 => ?_) (fun hc4 => ?_)
  ·replace h := yav hc4 h
   refine yab (yaa ?_)
   refine zas (p := .v (.int .i64 0)) rfl rfl rfl rfl rfl ?_
   refine yad (yae (yaq (yap (yap ?_))))
   obtain rfl := Option.some.inj h
   exact yar (prv_1 (yat rfl)) zsn ⟨rfl, rfl⟩
  ·replace h := yaw hc4 h
   refine yao (yae (yab (yaa ?_)))
   refine zas (p := .v (.int .i64 (-1))) rfl rfl rfl rfl rfl ?_
   refine yad (yae (yaq (yap ?_)))
   obtain rfl := Option.some.inj h
   exact yar (prv_1 (yat rfl)) zsn ⟨rfl, rfl⟩
 ·replace h := yaw hc3 h
  refine yao (yae (yab (yab (yaa ?_))))
  refine zmv (p := .v (.bool x2)) rfl rfl rfl rfl rfl ?_
  refine yad (yae ?_)
  refine yal rfl (fun hc5 => ?_) (fun hc5 => ?_)
  ·replace h := yav hc5 h
   refine yab (yaa ?_)
   refine zas (p := .v (.int .i64 1)) rfl rfl rfl rfl rfl ?_
   refine yad (yae (yaq (yap ?_)))
   obtain rfl := Option.some.inj h
   exact yar (prv_1 (yat rfl)) zsn ⟨rfl, rfl⟩
  ·replace h := yaw hc5 h
   refine yao (yae (yab (yab (yaa ?_))))
   refine zmv (p := .v (.int .u64 p0)) rfl rfl rfl rfl rfl ?_
   refine zmv (p := .v (.int .u64 p1)) rfl rfl rfl rfl rfl ?_
   refine yah rfl rfl rfl (yak rfl (.p rfl) (.p rfl) rfl) ?_
   refine yad (yae ?_)
   refine yal rfl (fun hc6 => ?_) (fun hc6 => ?_)
   ·replace h := yav hc6 h
    refine yab (yaa ?_)
    refine zas (p := .v (.int .i64 (-1))) rfl rfl rfl rfl rfl ?_
    refine yad (yae (yaq (yap ?_)))
    obtain rfl := Option.some.inj h
    exact yar (prv_1 (yat rfl)) zsn ⟨rfl, rfl⟩
   ·replace h := yaw hc6 h
    refine yao (yae (yab (yab (yaa ?_))))
    refine zmv (p := .v (.int .u64 p0)) rfl rfl rfl rfl rfl ?_
    refine zmv (p := .v (.int .u64 p1)) rfl rfl rfl rfl rfl ?_
    refine yah rfl rfl rfl (yak rfl (.p rfl) (.p rfl) rfl) ?_
    refine yad (yae ?_)
    refine yal rfl (fun hc7 => ?_) (fun hc7 => ?_)
    ·replace h := yav hc7 h
     refine yab (yaa ?_)
     refine zas (p := .v (.int .i64 1)) rfl rfl rfl rfl rfl ?_
     refine yad (yae (yaq (yap ?_)))
     obtain rfl := Option.some.inj h
     exact yar (prv_1 (yat rfl)) zsn ⟨rfl, rfl⟩
    ·replace h := yaw hc7 h
     refine yao (yae (yab (yaa ?_)))
     refine zas (p := .v (.int .i64 0)) rfl rfl rfl rfl rfl ?_
     refine yad (yae (yaq ?_))
     obtain rfl := Option.some.inj h
     exact yar (prv_1 (yat rfl)) zsn ⟨rfl, rfl⟩
def apportion_byRest (p0 : Tapportion_portion) (p1 : Tapportion_portion) : Option Int := Option.bind (cmp_Compare_uint64 p1.rest p0.rest) (fun x3 => cond (x3 != 0) (some x3) (Option.bind (cmp_Compare_int p0.index_ p1.index_) (fun x5 => some x5)))
set_option maxHeartbeats 4000000 in
theorem apportion_byRest_ok {p0 : Tapportion_portion} {p1 : Tapportion_portion} {r : Int}  (h : apportion_byRest p0 p1 = some r) : PF 91 [.agg [.v (.int .i64 p0.index_), .v (.int .u64 p0.share), .v (.int .u64 p0.rest)], .agg [.v (.int .i64 p1.index_), .v (.int .u64 p1.share), .v (.int .u64 p1.rest)]] (.v (.int .i64 r)) := by
 unfold apportion_byRest at h
 refine pf_of ?_
 refine penter Tryz.func91 fk91 rfl Tryz.ntmps91 Tryz.results91 rfl ?_
 refine yab (yaa ?_)
 refine ybl rfl rfl rfl (pl_box (cs := [.v (.int .i64 p0.index_), .v (.int .u64 p0.share), .v (.int .u64 p0.rest)]) rfl rfl (fun b1 => ?_))
 refine ybl rfl rfl rfl (pl_box (cs := [.v (.int .i64 p1.index_), .v (.int .u64 p1.share), .v (.int .u64 p1.rest)]) rfl rfl (fun b2 => ?_))
 refine zas (p := .v (.int .i64 0)) rfl rfl rfl rfl rfl ?_
 refine yad (yae (yab (yab (yaa ?_))))
 refine yah rfl rfl rfl (yac rfl rfl rfl rfl rfl (.p rfl)) ?_
 refine yah rfl rfl rfl (yag (p := .v (.int .u64 p1.rest)) rfl (.p rfl) zm0 rfl) ?_
 refine yah rfl rfl rfl (yac rfl rfl rfl rfl rfl (.p rfl)) ?_
 refine yah rfl rfl rfl (yag (p := .v (.int .u64 p0.rest)) rfl (.p rfl) zm1 rfl) ?_
 refine yaf h ?_; clear h; intro x3 hx3 h
 refine ybd rfl rfl rfl rfl rfl (cmp_Compare_uint64_ok hx3) ?_
 refine zas (p := .v (.int .i64 x3)) rfl rfl rfl rfl rfl ?_
 refine yad (yae (yab (yaa ?_)))
 refine zmv (p := .v (.int .i64 x3)) rfl rfl rfl rfl rfl ?_
 refine yah rfl rfl rfl (yak rfl (.p rfl) (.p rfl) rfl) ?_
 refine yad (yae ?_)
 refine yal rfl (fun hc4 => ?_) (fun hc4 => ?_)
 ·replace h := yav hc4 h
  refine yab (yaa ?_)
  refine zmv (p := .v (.int .i64 x3)) rfl rfl rfl rfl rfl ?_
  refine zas (p := .v (.int .i64 x3)) rfl rfl rfl rfl rfl ?_
  refine yad (yae (yaq (yap ?_)))
  obtain rfl := Option.some.inj h
  exact yar (prv_1 (yat rfl)) zsn ⟨rfl, rfl⟩
 ·replace h := yaw hc4 h
  refine yao (yae (yab (yaa ?_)))
  refine yah rfl rfl rfl (yac rfl rfl rfl rfl rfl (.p rfl)) ?_
  refine yah rfl rfl rfl (yag (p := .v (.int .i64 p0.index_)) rfl (.p rfl) zm1 rfl) ?_
  refine yah rfl rfl rfl (yac rfl rfl rfl rfl rfl (.p rfl)) ?_
  refine yah rfl rfl rfl (yag (p := .v (.int .i64 p1.index_)) rfl (.p rfl) zm0 rfl) ?_
  refine yaf h ?_; clear h; intro x5 hx5 h
  refine ybd rfl rfl rfl rfl rfl (cmp_Compare_int_ok hx5) ?_
  refine zas (p := .v (.int .i64 x5)) rfl rfl rfl rfl rfl ?_
  refine yad (yae (yaq ?_))
  obtain rfl := Option.some.inj h
  exact yar (prv_1 (yat rfl)) zsn ⟨rfl, rfl⟩
def ref17_in (p0 : Int) (p1 : Int) : Option Bool := some ((decide (0 ≤ p0)) && (decide (p0 ≤ p1)))
set_option maxHeartbeats 4000000 in
theorem ref17_in_ok {p0 : Int} {p1 : Int} {r : Bool}  (h : ref17_in p0 p1 = some r) : PF 69 [.v (.int .i64 p0), .v (.int .i64 p1)] (.v (.bool r)) := by
 unfold ref17_in at h
 refine pf_of ?_
 refine penter Tryz.func69 fk69 rfl Tryz.ntmps69 Tryz.results69 rfl ?_
 refine yab (yaa ?_)
 refine zas (p := .v (.bool false)) rfl rfl rfl rfl rfl ?_
 refine yad (yae (yab (yaa ?_)))
 refine zmv (p := .v (.int .i64 p0)) rfl rfl rfl rfl rfl ?_
 refine yah rfl rfl rfl (yak rfl (.p rfl) (.p rfl) rfl) ?_
 refine zmv (p := .v (.bool (decide (0 ≤ p0)))) rfl rfl rfl rfl rfl ?_
 refine yaj (yan rfl rfl rfl) rfl rfl (yam (p := .v (.int .i64 p0)) rfl (.p rfl)) ?_
 refine yaj (yan rfl rfl rfl) rfl rfl (yam (p := .v (.int .i64 p1)) rfl (.p rfl)) ?_
 refine yaj (yan rfl rfl rfl) rfl rfl (yak rfl (.g rfl) (.g rfl) rfl) ?_
 refine yah rfl rfl rfl (pq_and rfl (.p rfl) (.p rfl) (.g rfl)) ?_
 refine zas (p := .v (.bool ((decide (0 ≤ p0)) && (decide (p0 ≤ p1))))) rfl rfl rfl rfl rfl ?_
 refine yad (yae (yaq ?_))
 obtain rfl := Option.some.inj h
 exact yar (prv_1 (yat rfl)) zsn ⟨rfl, rfl⟩
def ref17_Duty (p0 : TDuty) : Option Int := Option.bind (ref17_in p0.Rate 10000000) (fun x2 => Option.bind (gd (!(!x2)) (ref17_in p0.Amount 100000000)) (fun x3 => Option.bind (gd (!((((!x2) || (!x3)) || ((decide (0 < p0.Amount)) && ((decide (p0.Per < 1)) || (decide (1000000 < p0.Per))))) || ((p0.Amount == 0) && (p0.Per != 0)))) (ref17_in p0.Most 10000000)) (fun x4 => Option.bind (gd (!(((((!x2) || (!x3)) || ((decide (0 < p0.Amount)) && ((decide (p0.Per < 1)) || (decide (1000000 < p0.Per))))) || ((p0.Amount == 0) && (p0.Per != 0))) || (!x4))) (ref17_in p0.Least 10000000)) (fun x5 => cond ((((((!x2) || (!x3)) || ((decide (0 < p0.Amount)) && ((decide (p0.Per < 1)) || (decide (1000000 < p0.Per))))) || ((p0.Amount == 0) && (p0.Per != 0))) || (!x4)) || (!x5)) (some 2) (cond ((((p0.Most != 0) && (!p0.HasMost)) || ((p0.Least != 0) && (!p0.HasLeast))) || ((p0.HasMost && p0.HasLeast) && (decide (p0.Most < p0.Least)))) (some 1) (some 0))))))
set_option maxHeartbeats 4000000 in
theorem ref17_Duty_ok {p0 : TDuty} {r : Int}  (h : ref17_Duty p0 = some r) : PF 68 [.agg [.v (.int .i64 p0.Rate), .v (.int .i64 p0.Amount), .v (.int .i64 p0.Per), .v (.bool p0.HasMost), .v (.int .i64 p0.Most), .v (.bool p0.HasLeast), .v (.int .i64 p0.Least)]] (.v (.int .i64 r)) := by
 unfold ref17_Duty at h
 refine pf_of ?_
 refine penter Tryz.func68 fk68 rfl Tryz.ntmps68 Tryz.results68 rfl ?_
 refine yab (yaa ?_)
 refine ybl rfl rfl rfl (pl_box (cs := [.v (.int .i64 p0.Rate), .v (.int .i64 p0.Amount), .v (.int .i64 p0.Per), .v (.bool p0.HasMost), .v (.int .i64 p0.Most), .v (.bool p0.HasLeast), .v (.int .i64 p0.Least)]) rfl rfl (fun b1 => ?_))
 refine zas (p := .v (.int .i64 0)) rfl rfl rfl rfl rfl ?_
 refine yad (yae (yab (yab (yaa ?_))))
 refine yah rfl rfl rfl (yac rfl rfl rfl rfl rfl (.p rfl)) ?_
 refine yah rfl rfl rfl (yag (p := .v (.int .i64 p0.Rate)) rfl (.p rfl) zm0 rfl) ?_
 refine yaf h ?_; clear h; intro x2 hx2 h
 refine ybd rfl rfl rfl rfl rfl (ref17_in_ok hx2) ?_
 refine yah rfl rfl rfl (pq_not rfl (.p rfl)) ?_
 refine zmv (p := .v (.bool (!x2))) rfl rfl rfl rfl rfl ?_
 refine yaj (yai rfl rfl rfl) rfl rfl (yac rfl rfl rfl rfl rfl (.p rfl)) ?_
 refine yaj (yai rfl rfl rfl) rfl rfl (yag (p := .v (.int .i64 p0.Amount)) rfl (.g rfl) zm0 rfl) ?_
 refine yaf h ?_; clear h; intro x3 hx3 h
 refine pwl_callg (yai rfl rfl rfl) rfl rfl rfl (ybg (.g rfl) (ybg (.p rfl) (pargs_nil))) (fun hc => ref17_in_ok (gd_t hx3 hc)) ?_
 refine yaj (yai rfl rfl rfl) rfl rfl (pq_not rfl (.g rfl)) ?_
 refine yah rfl rfl rfl (pq_or rfl (.p rfl) (.p rfl) (.g rfl)) ?_
 refine zmv (p := .v (.bool ((!x2) || (!x3)))) rfl rfl rfl rfl rfl ?_
 refine yaj (yai rfl rfl rfl) rfl rfl (yac rfl rfl rfl rfl rfl (.p rfl)) ?_
 refine yaj (yai rfl rfl rfl) rfl rfl (yag (p := .v (.int .i64 p0.Amount)) rfl (.g rfl) zm0 rfl) ?_
 refine yaj (yai rfl rfl rfl) rfl rfl (yak rfl (.g rfl) (.p rfl) rfl) ?_
 refine yaj (yai rfl rfl rfl) rfl rfl (yam (p := .v (.bool (decide (0 < p0.Amount)))) rfl (.g rfl)) ?_
 refine yaj (yay rfl rfl rfl) rfl rfl (yac rfl rfl rfl rfl rfl (.p rfl)) ?_
 refine yaj (yay rfl rfl rfl) rfl rfl (yag (p := .v (.int .i64 p0.Per)) rfl (.g rfl) zm0 rfl) ?_
 refine yaj (yay rfl rfl rfl) rfl rfl (yak rfl (.g rfl) (.p rfl) rfl) ?_
 refine yaj (yay rfl rfl rfl) rfl rfl (yam (p := .v (.bool (decide (p0.Per < 1)))) rfl (.g rfl)) ?_
 refine yaj (pguard_gf rfl rfl rfl) rfl rfl (yac rfl rfl rfl rfl rfl (.p rfl)) ?_
 refine yaj (pguard_gf rfl rfl rfl) rfl rfl (yag (p := .v (.int .i64 p0.Per)) rfl (.g rfl) zm0 rfl) ?_
 refine yaj (pguard_gf rfl rfl rfl) rfl rfl (yak rfl (.g rfl) (.p rfl) rfl) ?_
 refine yaj (yay rfl rfl rfl) rfl rfl (pq_or rfl (.g rfl) (.p rfl) (.g rfl)) ?_
 refine yaj (yai rfl rfl rfl) rfl rfl (pq_and rfl (.g rfl) (.p rfl) (.g rfl)) ?_
 refine yah rfl rfl rfl (pq_or rfl (.p rfl) (.p rfl) (.g rfl)) ?_
 refine zmv (p := .v (.bool (((!x2) || (!x3)) || ((decide (0 < p0.Amount)) && ((decide (p0.Per < 1)) || (decide (1000000 < p0.Per))))))) rfl rfl rfl rfl rfl ?_
 refine yaj (yai rfl rfl rfl) rfl rfl (yac rfl rfl rfl rfl rfl (.p rfl)) ?_
 refine yaj (yai rfl rfl rfl) rfl rfl (yag (p := .v (.int .i64 p0.Amount)) rfl (.g rfl) zm0 rfl) ?_
 refine yaj (yai rfl rfl rfl) rfl rfl (yak rfl (.g rfl) (.p rfl) rfl) ?_
 refine yaj (yai rfl rfl rfl) rfl rfl (yam (p := .v (.bool (p0.Amount == 0))) rfl (.g rfl)) ?_
 refine yaj (yay rfl rfl rfl) rfl rfl (yac rfl rfl rfl rfl rfl (.p rfl)) ?_
 refine yaj (yay rfl rfl rfl) rfl rfl (yag (p := .v (.int .i64 p0.Per)) rfl (.g rfl) zm0 rfl) ?_
 refine yaj (yay rfl rfl rfl) rfl rfl (yak rfl (.g rfl) (.p rfl) rfl) ?_
 refine yaj (yai rfl rfl rfl) rfl rfl (pq_and rfl (.g rfl) (.p rfl) (.g rfl)) ?_
 refine yah rfl rfl rfl (pq_or rfl (.p rfl) (.p rfl) (.g rfl)) ?_
 refine zmv (p := .v (.bool ((((!x2) || (!x3)) || ((decide (0 < p0.Amount)) && ((decide (p0.Per < 1)) || (decide (1000000 < p0.Per))))) || ((p0.Amount == 0) && (p0.Per != 0))))) rfl rfl rfl rfl rfl ?_
 refine yaj (yai rfl rfl rfl) rfl rfl (yac rfl rfl rfl rfl rfl (.p rfl)) ?_
 refine yaj (yai rfl rfl rfl) rfl rfl (yag (p := .v (.int .i64 p0.Most)) rfl (.g rfl) zm0 rfl) ?_
 refine yaf h ?_; clear h; intro x4 hx4 h
 refine pwl_callg (yai rfl rfl rfl) rfl rfl rfl (ybg (.g rfl) (ybg (.p rfl) (pargs_nil))) (fun hc => ref17_in_ok (gd_t hx4 hc)) ?_
 refine yaj (yai rfl rfl rfl) rfl rfl (pq_not rfl (.g rfl)) ?_
 refine yah rfl rfl rfl (pq_or rfl (.p rfl) (.p rfl) (.g rfl)) ?_
 refine zmv (p := .v (.bool (((((!x2) || (!x3)) || ((decide (0 < p0.Amount)) && ((decide (p0.Per < 1)) || (decide (1000000 < p0.Per))))) || ((p0.Amount == 0) && (p0.Per != 0))) || (!x4)))) rfl rfl rfl rfl rfl ?_
 refine yaj (yai rfl rfl rfl) rfl rfl (yac rfl rfl rfl rfl rfl (.p rfl)) ?_
 refine yaj (yai rfl rfl rfl) rfl rfl (yag (p := .v (.int .i64 p0.Least)) rfl (.g rfl) zm0 rfl) ?_
 refine yaf h ?_; clear h; intro x5 hx5 h
 refine pwl_callg (yai rfl rfl rfl) rfl rfl rfl (ybg (.g rfl) (ybg (.p rfl) (pargs_nil))) (fun hc => ref17_in_ok (gd_t hx5 hc)) ?_
 refine yaj (yai rfl rfl rfl) rfl rfl (pq_not rfl (.g rfl)) ?_
 refine yah rfl rfl rfl (pq_or rfl (.p rfl) (.p rfl) (.g rfl)) ?_
 refine yad (yae ?_)
 refine yal rfl (fun hc6 => ?_) (fun hc6 => ?_)
 ·replace h := yav hc6 h
  refine yab (yaa ?_)
  refine zas (p := .v (.int .i64 2)) rfl rfl rfl rfl rfl ?_
  refine yad (yae (yaq (yap ?_)))
  obtain rfl := Option.some.inj h
  exact yar (prv_1 (yat rfl)) zsn ⟨rfl, rfl⟩
 ·replace h := yaw hc6 h
  refine yao (yae (yab (yab (yaa ?_))))
  refine yah rfl rfl rfl (yac rfl rfl rfl rfl rfl (.p rfl)) ?_
  refine yah rfl rfl rfl (yag (p := .v (.int .i64 p0.Most)) rfl (.p rfl) zm0 rfl) ?_
  refine yah rfl rfl rfl (yak rfl (.p rfl) (.p rfl) rfl) ?_
  refine zmv (p := .v (.bool (p0.Most != 0))) rfl rfl rfl rfl rfl ?_
  refine yaj (yan rfl rfl rfl) rfl rfl (yac rfl rfl rfl rfl rfl (.p rfl)) ?_
  refine yaj (yan rfl rfl rfl) rfl rfl (yag (p := .v (.bool p0.HasMost)) rfl (.g rfl) zm0 rfl) ?_
  refine yaj (yan rfl rfl rfl) rfl rfl (pq_not rfl (.g rfl)) ?_
  refine yah rfl rfl rfl (pq_and rfl (.p rfl) (.p rfl) (.g rfl)) ?_
  refine zmv (p := .v (.bool ((p0.Most != 0) && (!p0.HasMost)))) rfl rfl rfl rfl rfl ?_
  refine yaj (yai rfl rfl rfl) rfl rfl (yac rfl rfl rfl rfl rfl (.p rfl)) ?_
  refine yaj (yai rfl rfl rfl) rfl rfl (yag (p := .v (.int .i64 p0.Least)) rfl (.g rfl) zm0 rfl) ?_
  refine yaj (yai rfl rfl rfl) rfl rfl (yak rfl (.g rfl) (.p rfl) rfl) ?_
  refine yaj (yai rfl rfl rfl) rfl rfl (yam (p := .v (.bool (p0.Least != 0))) rfl (.g rfl)) ?_
  refine yaj (yay rfl rfl rfl) rfl rfl (yac rfl rfl rfl rfl rfl (.p rfl)) ?_
  refine yaj (yay rfl rfl rfl) rfl rfl (yag (p := .v (.bool p0.HasLeast)) rfl (.g rfl) zm0 rfl) ?_
  refine yaj (yay rfl rfl rfl) rfl rfl (pq_not rfl (.g rfl)) ?_
  refine yaj (yai rfl rfl rfl) rfl rfl (pq_and rfl (.g rfl) (.p rfl) (.g rfl)) ?_
  refine yah rfl rfl rfl (pq_or rfl (.p rfl) (.p rfl) (.g rfl)) ?_
  refine zmv (p := .v (.bool (((p0.Most != 0) && (!p0.HasMost)) || ((p0.Least != 0) && (!p0.HasLeast))))) rfl rfl rfl rfl rfl ?_
  refine yaj (yai rfl rfl rfl) rfl rfl (yac rfl rfl rfl rfl rfl (.p rfl)) ?_
  refine yaj (yai rfl rfl rfl) rfl rfl (yag (p := .v (.bool p0.HasMost)) rfl (.g rfl) zm0 rfl) ?_
  refine yaj (yai rfl rfl rfl) rfl rfl (yam (p := .v (.bool p0.HasMost)) rfl (.g rfl)) ?_
  refine yaj (yay rfl rfl rfl) rfl rfl (yac rfl rfl rfl rfl rfl (.p rfl)) ?_
  refine yaj (yay rfl rfl rfl) rfl rfl (yag (p := .v (.bool p0.HasLeast)) rfl (.g rfl) zm0 rfl) ?_
  refine yaj (yai rfl rfl rfl) rfl rfl (pq_and rfl (.g rfl) (.p rfl) (.g rfl)) ?_
  refine yaj (yai rfl rfl rfl) rfl rfl (yam (p := .v (.bool (p0.HasMost && p0.HasLeast))) rfl (.g rfl)) ?_
  refine yaj (yay rfl rfl rfl) rfl rfl (yac rfl rfl rfl rfl rfl (.p rfl)) ?_
  refine yaj (yay rfl rfl rfl) rfl rfl (yag (p := .v (.int .i64 p0.Least)) rfl (.g rfl) zm0 rfl) ?_
  refine yaj (yay rfl rfl rfl) rfl rfl (yac rfl rfl rfl rfl rfl (.p rfl)) ?_
  refine yaj (yay rfl rfl rfl) rfl rfl (yag (p := .v (.int .i64 p0.Most)) rfl (.g rfl) zm0 rfl) ?_
  refine yaj (yay rfl rfl rfl) rfl rfl (yak rfl (.g rfl) (.g rfl) rfl) ?_
  refine yaj (yai rfl rfl rfl) rfl rfl (pq_and rfl (.g rfl) (.p rfl) (.g rfl)) ?_
  refine yah rfl rfl rfl (pq_or rfl (.p rfl) (.p rfl) (.g rfl)) ?_
  refine yad (yae ?_)
  refine yal rfl (fun hc7 => ?_) (fun hc7 => ?_)
  ·replace h := yav hc7 h
   refine yab (yaa ?_)
   refine zas (p := .v (.int .i64 1)) rfl rfl rfl rfl rfl ?_
   refine yad (yae (yaq (yap ?_)))
   obtain rfl := Option.some.inj h
   exact yar (prv_1 (yat rfl)) zsn ⟨rfl, rfl⟩
  ·replace h := yaw hc7 h
   refine yao (yae (yab (yaa ?_)))
   refine zas (p := .v (.int .i64 0)) rfl rfl rfl rfl rfl ?_
   refine yad (yae (yaq ?_))
   obtain rfl := Option.some.inj h
   exact yar (prv_1 (yat rfl)) zsn ⟨rfl, rfl⟩
def ref19_one (p0 : TMeasure) : Option (Int × Bool) := cond ((((((decide (p0.ID < 1)) || (decide (1000000 < p0.ID))) || (decide (p0.Kind < 1))) || (decide (6 < p0.Kind))) || (decide (p0.Company < 0))) || (decide (999 < p0.Company))) (some (2, false)) (Option.bind (ref08_Level p0.Prefix) (fun x3 => cond (x3 == 0) (some (1, false)) (cond (decide (20 < (p0.Origins.length : Int))) (some (8, false)) (Option.bind (loopF (S := Int) (T := (Unit) ⊕ (_)) (fun v6 => cond (decide (v6 < (p0.Origins.length : Int))) (Option.bind (idx p0.Origins v6) (fun m10 => Option.bind (ref06_Country m10) (fun x11 => Option.bind (gd ((!(!x11)) && (decide (0 < v6))) (idx p0.Origins (IntKind.i64.wrap (v6 - 1)))) (fun m12 => Option.bind (gd ((!(!x11)) && (decide (0 < v6))) (idx p0.Origins v6)) (fun m13 => cond ((!x11) || ((decide (0 < v6)) && (!Op.bytesLess m12.toList m13.toList))) (some (.inr (.inr (1, false)))) (some (.inl (IntKind.i64.wrap (v6 + 1))))))))) (some (.inr (.inl ())))) FUEL 0) (fun q => match q with | .inl _ => cond (((((decide (p0.From < 0)) || (decide (p0.To ≤ p0.From))) || (decide (36525 < p0.To))) || (decide (p0.Registered < (-1)))) || (decide (p0.From < p0.Registered))) (some (2, false)) (Option.bind (ref17_Duty p0.Duty) (fun x16 => some (x16, (x16 == 0)))) | .inr e => some e)))))
set_option maxHeartbeats 4000000 in
theorem ref19_one_ok {p0 : TMeasure} {r : (Int × Bool)}  (h : ref19_one p0 = some r) : PF 63 [.agg [.v (.int .i64 p0.ID), .v (.int .i64 p0.Kind), .v (.string p0.Prefix), .slc (List.map eS p0.Origins), .v (.int .i64 p0.Company), .v (.int .i64 p0.From), .v (.int .i64 p0.To), .v (.int .i64 p0.Registered), .v (.int .i64 p0.Duty.Rate), .v (.int .i64 p0.Duty.Amount), .v (.int .i64 p0.Duty.Per), .v (.bool p0.Duty.HasMost), .v (.int .i64 p0.Duty.Most), .v (.bool p0.Duty.HasLeast), .v (.int .i64 p0.Duty.Least)]] (.tup [.v (.int .i64 r.1), .v (.bool r.2)]) := by
 unfold ref19_one at h
 refine pf_of ?_
 refine penter Tryz.func63 fk63 rfl Tryz.ntmps63 Tryz.results63 rfl ?_
 refine yab (yaa ?_)
 refine ybl rfl rfl rfl (pl_box (cs := [.v (.int .i64 p0.ID), .v (.int .i64 p0.Kind), .v (.string p0.Prefix), .slc (List.map eS p0.Origins), .v (.int .i64 p0.Company), .v (.int .i64 p0.From), .v (.int .i64 p0.To), .v (.int .i64 p0.Registered), .v (.int .i64 p0.Duty.Rate), .v (.int .i64 p0.Duty.Amount), .v (.int .i64 p0.Duty.Per), .v (.bool p0.Duty.HasMost), .v (.int .i64 p0.Duty.Most), .v (.bool p0.Duty.HasLeast), .v (.int .i64 p0.Duty.Least)]) rfl rfl (fun b1 => ?_))
 refine zas (p := .v (.int .i64 0)) rfl rfl rfl rfl rfl ?_
 refine zas (p := .v (.bool false)) rfl rfl rfl rfl rfl ?_
 refine yad (yae (yab (yaa ?_)))
 refine yah rfl rfl rfl (yac rfl rfl rfl rfl rfl (.p rfl)) ?_
 refine yah rfl rfl rfl (yag (p := .v (.int .i64 p0.ID)) rfl (.p rfl) zm0 rfl) ?_
 refine yah rfl rfl rfl (yak rfl (.p rfl) (.p rfl) rfl) ?_
 refine zmv (p := .v (.bool (decide (p0.ID < 1)))) rfl rfl rfl rfl rfl ?_
 refine yaj (yai rfl rfl rfl) rfl rfl (yac rfl rfl rfl rfl rfl (.p rfl)) ?_
 refine yaj (yai rfl rfl rfl) rfl rfl (yag (p := .v (.int .i64 p0.ID)) rfl (.g rfl) zm0 rfl) ?_
 refine yaj (yai rfl rfl rfl) rfl rfl (yak rfl (.g rfl) (.p rfl) rfl) ?_
 refine yah rfl rfl rfl (pq_or rfl (.p rfl) (.p rfl) (.g rfl)) ?_
 refine zmv (p := .v (.bool ((decide (p0.ID < 1)) || (decide (1000000 < p0.ID))))) rfl rfl rfl rfl rfl ?_
 refine yaj (yai rfl rfl rfl) rfl rfl (yac rfl rfl rfl rfl rfl (.p rfl)) ?_
 refine yaj (yai rfl rfl rfl) rfl rfl (yag (p := .v (.int .i64 p0.Kind)) rfl (.g rfl) zm0 rfl) ?_
 refine yaj (yai rfl rfl rfl) rfl rfl (yak rfl (.g rfl) (.p rfl) rfl) ?_
 refine yah rfl rfl rfl (pq_or rfl (.p rfl) (.p rfl) (.g rfl)) ?_
 refine zmv (p := .v (.bool (((decide (p0.ID < 1)) || (decide (1000000 < p0.ID))) || (decide (p0.Kind < 1))))) rfl rfl rfl rfl rfl ?_
 refine yaj (yai rfl rfl rfl) rfl rfl (yac rfl rfl rfl rfl rfl (.p rfl)) ?_
 refine yaj (yai rfl rfl rfl) rfl rfl (yag (p := .v (.int .i64 p0.Kind)) rfl (.g rfl) zm0 rfl) ?_
 refine yaj (yai rfl rfl rfl) rfl rfl (yak rfl (.g rfl) (.p rfl) rfl) ?_
 refine yah rfl rfl rfl (pq_or rfl (.p rfl) (.p rfl) (.g rfl)) ?_
 refine zmv (p := .v (.bool ((((decide (p0.ID < 1)) || (decide (1000000 < p0.ID))) || (decide (p0.Kind < 1))) || (decide (6 < p0.Kind))))) rfl rfl rfl rfl rfl ?_
 refine yaj (yai rfl rfl rfl) rfl rfl (yac rfl rfl rfl rfl rfl (.p rfl)) ?_
 refine yaj (yai rfl rfl rfl) rfl rfl (yag (p := .v (.int .i64 p0.Company)) rfl (.g rfl) zm0 rfl) ?_
 refine yaj (yai rfl rfl rfl) rfl rfl (yak rfl (.g rfl) (.p rfl) rfl) ?_
 refine yah rfl rfl rfl (pq_or rfl (.p rfl) (.p rfl) (.g rfl)) ?_
 refine zmv (p := .v (.bool (((((decide (p0.ID < 1)) || (decide (1000000 < p0.ID))) || (decide (p0.Kind < 1))) || (decide (6 < p0.Kind))) || (decide (p0.Company < 0))))) rfl rfl rfl rfl rfl ?_
 refine yaj (yai rfl rfl rfl) rfl rfl (yac rfl rfl rfl rfl rfl (.p rfl)) ?_
 refine yaj (yai rfl rfl rfl) rfl rfl (yag (p := .v (.int .i64 p0.Company)) rfl (.g rfl) zm0 rfl) ?_
 refine yaj (yai rfl rfl rfl) rfl rfl (yak rfl (.g rfl) (.p rfl) rfl) ?_
 refine yah rfl rfl rfl (pq_or rfl (.p rfl) (.p rfl) (.g rfl)) ?_
 refine zas (p := .v (.bool ((((((decide (p0.ID < 1)) || (decide (1000000 < p0.ID))) || (decide (p0.Kind < 1))) || (decide (6 < p0.Kind))) || (decide (p0.Company < 0))) || (decide (999 < p0.Company))))) rfl rfl rfl rfl rfl ?_
 refine yad (yae (yab (yab (yaa ?_))))
 refine zmv (p := .v (.bool ((((((decide (p0.ID < 1)) || (decide (1000000 < p0.ID))) || (decide (p0.Kind < 1))) || (decide (6 < p0.Kind))) || (decide (p0.Company < 0))) || (decide (999 < p0.Company))))) rfl rfl rfl rfl rfl ?_
 refine yad (yae ?_)
 refine yal rfl (fun hc2 => ?_) (fun hc2 => ?_)
 ·replace h := yav hc2 h
  refine yab (yaa ?_)
  refine zas (p := .v (.int .i64 2)) rfl rfl rfl rfl rfl ?_
  refine zas (p := .v (.bool false)) rfl rfl rfl rfl rfl ?_
  refine yad (yae (yaq (yap ?_)))
  obtain rfl := Option.some.inj h
  exact yar (prv_2 (yat rfl) (yat rfl)) zsn ⟨rfl, rfl⟩
 ·replace h := yaw hc2 h
  refine yao (yae (yab (yab (yaa ?_))))
  refine yah rfl rfl rfl (yac rfl rfl rfl rfl rfl (.p rfl)) ?_
  refine yah rfl rfl rfl (yag (p := .v (.string p0.Prefix)) rfl (.p rfl) zm0 rfl) ?_
  refine yaf h ?_; clear h; intro x3 hx3 h
  refine ybd rfl rfl rfl rfl rfl (ref08_Level_ok hx3) ?_
  refine yah rfl rfl rfl (yak rfl (.p rfl) (.p rfl) rfl) ?_
  refine yad (yae ?_)
  refine yal rfl (fun hc4 => ?_) (fun hc4 => ?_)
  ·replace h := yav hc4 h
   refine yab (yaa ?_)
   refine zas (p := .v (.int .i64 1)) rfl rfl rfl rfl rfl ?_
   refine zas (p := .v (.bool false)) rfl rfl rfl rfl rfl ?_
   refine yad (yae (yaq (yap ?_)))
   obtain rfl := Option.some.inj h
   exact yar (prv_2 (yat rfl) (yat rfl)) zsn ⟨rfl, rfl⟩
  ·replace h := yaw hc4 h
   refine yao (yae (yab (yab (yaa ?_))))
   refine yah rfl rfl rfl (yac rfl rfl rfl rfl rfl (.p rfl)) ?_
   refine yah rfl rfl rfl (yag (p := .slc (List.map eS p0.Origins)) rfl (.p rfl) zm0 rfl) ?_
   refine yah rfl rfl rfl (pq_lenT (enc := eS) rfl rfl (.p rfl)) ?_
   refine yah rfl rfl rfl (yak rfl (.p rfl) (.p rfl) rfl) ?_
   refine yad (yae ?_)
   refine yal rfl (fun hc5 => ?_) (fun hc5 => ?_)
   ·replace h := yav hc5 h
    refine yab (yaa ?_)
    refine zas (p := .v (.int .i64 8)) rfl rfl rfl rfl rfl ?_
    refine zas (p := .v (.bool false)) rfl rfl rfl rfl rfl ?_
    refine yad (yae (yaq (yap ?_)))
    obtain rfl := Option.some.inj h
    exact yar (prv_2 (yat rfl) (yat rfl)) zsn ⟨rfl, rfl⟩
   ·replace h := yaw hc5 h
    refine yao (yae (yab (yab (yaa ?_))))
    refine zas (p := .v (.int .i64 0)) rfl rfl rfl rfl rfl ?_
    refine yad (yae ?_)
    refine yaf h ?_; clear h; intro q8 hq8 h
    refine ybe (Y := (Unit) × (Unit)) (fun (_, _) => [(1, .v (.pointer (some ⟨b1, 0, none⟩)))]) (fun (_, _) => [PRes.b b1 46 [.v (.int .i64 p0.ID), .v (.int .i64 p0.Kind), .v (.string p0.Prefix), .slc (List.map eS p0.Origins), .v (.int .i64 p0.Company), .v (.int .i64 p0.From), .v (.int .i64 p0.To), .v (.int .i64 p0.Registered), .v (.int .i64 p0.Duty.Rate), .v (.int .i64 p0.Duty.Amount), .v (.int .i64 p0.Duty.Per), .v (.bool p0.Duty.HasMost), .v (.int .i64 p0.Duty.Most), .v (.bool p0.Duty.HasLeast), .v (.int .i64 p0.Duty.Least)]]) (fun (_, _) => q8 = Sum.inl ()) ?_ ?_
    ·refine yaz ?_
     refine pwc_loopF (Y := Unit) (S := Int) _ hq8 (fun _ v6 => [(1, .v (.pointer (some ⟨b1, 0, none⟩))), (5, .v (.int .i64 v6))]) (fun _ v6 => [PRes.b b1 46 [.v (.int .i64 p0.ID), .v (.int .i64 p0.Kind), .v (.string p0.Prefix), .slc (List.map eS p0.Origins), .v (.int .i64 p0.Company), .v (.int .i64 p0.From), .v (.int .i64 p0.To), .v (.int .i64 p0.Registered), .v (.int .i64 p0.Duty.Rate), .v (.int .i64 p0.Duty.Amount), .v (.int .i64 p0.Duty.Per), .v (.bool p0.Duty.HasMost), .v (.int .i64 p0.Duty.Most), .v (.bool p0.Duty.HasLeast), .v (.int .i64 p0.Duty.Least)]]) () (zhc rfl (zhc rfl zhn)) (zsc zph zsn) ?_
     rintro _ v6 o τ hb7; (try dsimp only at hb7); dsimp only [pupds]
     refine yab (yab (yaa ?_))
     refine zmv (p := .v (.int .i64 v6)) rfl rfl rfl rfl rfl ?_
     refine yah rfl rfl rfl (yac rfl rfl rfl rfl rfl (.p rfl)) ?_
     refine yah rfl rfl rfl (yag (p := .slc (List.map eS p0.Origins)) rfl (.p rfl) zm0 rfl) ?_
     refine yah rfl rfl rfl (pq_lenT (enc := eS) rfl rfl (.p rfl)) ?_
     refine yah rfl rfl rfl (yak rfl (.p rfl) (.p rfl) rfl) ?_
     refine yad (yae ?_)
     refine yal rfl (fun hc9 => ?_) (fun hc9 => ?_)
     ·replace hb7 := yav hc9 hb7
      refine yao (yae (yab (yaz (yab ?_))))
      refine pwc_draw (ρd := []) [(0, 0), (1, 0), (2, 0), (3, 0), (4, 0), (5, 1), (6, 0), (7, 0), (8, 0), (9, 0), (10, 0), (11, 0), (12, 0), (13, 0), (14, 0), (15, 0), (16, 0), (17, 0), (18, 0), (19, 0), (20, 0), (21, 0), (22, 0), (23, 0), (24, 0)] _ (List.Perm.refl _) (by kernel_rfl) rfl ?_
      refine ybf rfl rfl rfl (yac rfl rfl rfl rfl rfl (.p rfl)) ?_
      refine ybf rfl rfl rfl (yag (p := .slc (List.map eS p0.Origins)) rfl (.p rfl) zm0 rfl) ?_
      refine ybf rfl rfl rfl (yam (p := .v (.int .i64 v6)) rfl (.p rfl)) ?_
      refine yaf hb7 ?_; clear hb7; intro m10 hm10 hb7
      refine ybf rfl rfl rfl (pq_index (enc := eS) rfl rfl rfl (fun _ => rfl) (.p rfl) (.p rfl) (fun _ => hm10)) ?_
      refine ybf rfl rfl rfl (pq_load_r (p := .v (.string m10)) rfl (.p rfl) rfl) ?_
      refine yaf hb7 ?_; clear hb7; intro x11 hx11 hb7
      refine pwd_call rfl rfl rfl rfl rfl (ref06_Country_ok hx11) ?_
      refine ybf rfl rfl rfl (pq_not rfl (.p rfl)) ?_
      refine ybf rfl rfl rfl (yam (p := .v (.bool (!x11))) rfl (.p rfl)) ?_
      refine ybi (yai rfl rfl rfl) rfl rfl (yam (p := .v (.int .i64 v6)) rfl (.p rfl)) ?_
      refine ybi (yai rfl rfl rfl) rfl rfl (yak rfl (.g rfl) (.p rfl) rfl) ?_
      refine ybi (yai rfl rfl rfl) rfl rfl (yam (p := .v (.bool (decide (0 < v6)))) rfl (.g rfl)) ?_
      refine ybi (yay rfl rfl rfl) rfl rfl (yac rfl rfl rfl rfl rfl (.p rfl)) ?_
      refine ybi (yay rfl rfl rfl) rfl rfl (yag (p := .slc (List.map eS p0.Origins)) rfl (.g rfl) zm0 rfl) ?_
      refine ybi (yay rfl rfl rfl) rfl rfl (yam (p := .v (.int .i64 v6)) rfl (.p rfl)) ?_
      refine ybi (yay rfl rfl rfl) rfl rfl (yas rfl (.g rfl) (.p rfl) rfl) ?_
      refine yaf hb7 ?_; clear hb7; intro m12 hm12 hb7
      refine ybi (yay rfl rfl rfl) rfl rfl (pq_index (enc := eS) rfl rfl rfl (fun _ => rfl) (.g rfl) (.g rfl) (gd_t hm12)) ?_
      refine ybi (yay rfl rfl rfl) rfl rfl (pq_load_r (p := .v (.string m12)) rfl (.g rfl) rfl) ?_
      refine ybi (yay rfl rfl rfl) rfl rfl (yac rfl rfl rfl rfl rfl (.p rfl)) ?_
      refine ybi (yay rfl rfl rfl) rfl rfl (yag (p := .slc (List.map eS p0.Origins)) rfl (.g rfl) zm0 rfl) ?_
      refine ybi (yay rfl rfl rfl) rfl rfl (yam (p := .v (.int .i64 v6)) rfl (.p rfl)) ?_
      refine yaf hb7 ?_; clear hb7; intro m13 hm13 hb7
      refine ybi (yay rfl rfl rfl) rfl rfl (pq_index (enc := eS) rfl rfl rfl (fun _ => rfl) (.g rfl) (.g rfl) (gd_t hm13)) ?_
      refine ybi (yay rfl rfl rfl) rfl rfl (pq_load_r (p := .v (.string m13)) rfl (.g rfl) rfl) ?_
      refine ybi (yay rfl rfl rfl) rfl rfl (pq_str rfl (.g rfl) (.g rfl) rfl) ?_
      refine ybi (yai rfl rfl rfl) rfl rfl (pq_and rfl (.g rfl) (.p rfl) (.g rfl)) ?_
      refine ybf rfl rfl rfl (pq_or rfl (.p rfl) (.p rfl) (.g rfl)) ?_
      refine pwd_nil (yae ?_)
      refine yal rfl (fun hc14 => ?_) (fun hc14 => ?_)
      ·replace hb7 := yav hc14 hb7
       refine yab (yaa ?_)
       refine zas (p := .v (.int .i64 1)) rfl rfl rfl rfl rfl ?_
       refine zas (p := .v (.bool false)) rfl rfl rfl rfl rfl ?_
       refine yad (yae (yaq (yba (yap ?_))))
       refine pk_loop_ret hb7 (fun ht => ?_); subst ht
       have h := (show some _ = some _ from h)
       refine yba (pk_mid_ret ?_)
       obtain rfl := Option.some.inj h
       exact yar (prv_2 (yat rfl) (yat rfl)) zsn ⟨rfl, rfl⟩
      ·replace hb7 := yaw hc14 hb7
       refine yao (ybc (yae (yaa ?_)))
       refine zmv (p := .v (.int .i64 v6)) rfl rfl rfl rfl rfl ?_
       refine yah rfl rfl rfl (yas rfl (.p rfl) (.p rfl) rfl) ?_
       refine zas (p := .v (.int .i64 (IntKind.i64.wrap (v6 + 1)))) rfl rfl rfl rfl rfl ?_
       refine yad ?_
       exact pk_loop hb7 () (zhc rfl (zhc rfl zhn)) (zsc zph zsn)
     ·replace hb7 := yaw hc9 hb7
      refine pwc_exit (ybm ?_)
      refine ybh hb7 (fun ht => ?_)
      refine ybj rfl ?_
      exact ybb ((), ()) (zhc rfl zhn) (zsc zph zsn) ht.symm
    ·rintro ⟨_, _⟩ τ hz; (try dsimp only at hz); subst q8; (try dsimp only at h); dsimp only [pupds]
     refine yab (yab (yaa ?_))
     refine yah rfl rfl rfl (yac rfl rfl rfl rfl rfl (.p rfl)) ?_
     refine yah rfl rfl rfl (yag (p := .v (.int .i64 p0.From)) rfl (.p rfl) zm0 rfl) ?_
     refine yah rfl rfl rfl (yak rfl (.p rfl) (.p rfl) rfl) ?_
     refine zmv (p := .v (.bool (decide (p0.From < 0)))) rfl rfl rfl rfl rfl ?_
     refine yaj (yai rfl rfl rfl) rfl rfl (yac rfl rfl rfl rfl rfl (.p rfl)) ?_
     refine yaj (yai rfl rfl rfl) rfl rfl (yag (p := .v (.int .i64 p0.From)) rfl (.g rfl) zm0 rfl) ?_
     refine yaj (yai rfl rfl rfl) rfl rfl (yac rfl rfl rfl rfl rfl (.p rfl)) ?_
     refine yaj (yai rfl rfl rfl) rfl rfl (yag (p := .v (.int .i64 p0.To)) rfl (.g rfl) zm0 rfl) ?_
     refine yaj (yai rfl rfl rfl) rfl rfl (yak rfl (.g rfl) (.g rfl) rfl) ?_
     refine yah rfl rfl rfl (pq_or rfl (.p rfl) (.p rfl) (.g rfl)) ?_
     refine zmv (p := .v (.bool ((decide (p0.From < 0)) || (decide (p0.To ≤ p0.From))))) rfl rfl rfl rfl rfl ?_
     refine yaj (yai rfl rfl rfl) rfl rfl (yac rfl rfl rfl rfl rfl (.p rfl)) ?_
     refine yaj (yai rfl rfl rfl) rfl rfl (yag (p := .v (.int .i64 p0.To)) rfl (.g rfl) zm0 rfl) ?_
     refine yaj (yai rfl rfl rfl) rfl rfl (yak rfl (.g rfl) (.p rfl) rfl) ?_
     refine yah rfl rfl rfl (pq_or rfl (.p rfl) (.p rfl) (.g rfl)) ?_
     refine zmv (p := .v (.bool (((decide (p0.From < 0)) || (decide (p0.To ≤ p0.From))) || (decide (36525 < p0.To))))) rfl rfl rfl rfl rfl ?_
     refine yaj (yai rfl rfl rfl) rfl rfl (yac rfl rfl rfl rfl rfl (.p rfl)) ?_
     refine yaj (yai rfl rfl rfl) rfl rfl (yag (p := .v (.int .i64 p0.Registered)) rfl (.g rfl) zm0 rfl) ?_
     refine yaj (yai rfl rfl rfl) rfl rfl (yak rfl (.g rfl) (.p rfl) rfl) ?_
     refine yah rfl rfl rfl (pq_or rfl (.p rfl) (.p rfl) (.g rfl)) ?_
     refine zmv (p := .v (.bool ((((decide (p0.From < 0)) || (decide (p0.To ≤ p0.From))) || (decide (36525 < p0.To))) || (decide (p0.Registered < (-1)))))) rfl rfl rfl rfl rfl ?_
     refine yaj (yai rfl rfl rfl) rfl rfl (yac rfl rfl rfl rfl rfl (.p rfl)) ?_
     refine yaj (yai rfl rfl rfl) rfl rfl (yag (p := .v (.int .i64 p0.Registered)) rfl (.g rfl) zm0 rfl) ?_
     refine yaj (yai rfl rfl rfl) rfl rfl (yac rfl rfl rfl rfl rfl (.p rfl)) ?_
     refine yaj (yai rfl rfl rfl) rfl rfl (yag (p := .v (.int .i64 p0.From)) rfl (.g rfl) zm0 rfl) ?_
     refine yaj (yai rfl rfl rfl) rfl rfl (yak rfl (.g rfl) (.g rfl) rfl) ?_
     refine yah rfl rfl rfl (pq_or rfl (.p rfl) (.p rfl) (.g rfl)) ?_
     refine yad (yae ?_)
     refine yal rfl (fun hc15 => ?_) (fun hc15 => ?_)
     ·replace h := yav hc15 h
      refine yab (yaa ?_)
      refine zas (p := .v (.int .i64 2)) rfl rfl rfl rfl rfl ?_
      refine zas (p := .v (.bool false)) rfl rfl rfl rfl rfl ?_
      refine yad (yae (yaq (yap ?_)))
      obtain rfl := Option.some.inj h
      exact yar (prv_2 (yat rfl) (yat rfl)) zsn ⟨rfl, rfl⟩
     ·replace h := yaw hc15 h
      refine yao (yae (yab (yaa ?_)))
      refine yah rfl rfl rfl (yac rfl rfl rfl rfl rfl (.p rfl)) ?_
      refine yah rfl rfl rfl (yag (p := .agg [.v (.int .i64 p0.Duty.Rate), .v (.int .i64 p0.Duty.Amount), .v (.int .i64 p0.Duty.Per), .v (.bool p0.Duty.HasMost), .v (.int .i64 p0.Duty.Most), .v (.bool p0.Duty.HasLeast), .v (.int .i64 p0.Duty.Least)]) rfl (.p rfl) zm0 rfl) ?_
      refine yaf h ?_; clear h; intro x16 hx16 h
      refine ybd rfl rfl rfl rfl rfl (ref17_Duty_ok hx16) ?_
      refine zas (p := .v (.int .i64 x16)) rfl rfl rfl rfl rfl ?_
      refine yad (yae (yab (yaa ?_)))
      refine zmv (p := .v (.int .i64 x16)) rfl rfl rfl rfl rfl ?_
      refine zmv (p := .v (.int .i64 x16)) rfl rfl rfl rfl rfl ?_
      refine yah rfl rfl rfl (yak rfl (.p rfl) (.p rfl) rfl) ?_
      refine zas (p := .v (.int .i64 x16)) rfl rfl rfl rfl rfl ?_
      refine zas (p := .v (.bool (x16 == 0))) rfl rfl rfl rfl rfl ?_
      refine yad (yae (yaq ?_))
      obtain rfl := Option.some.inj h
      exact yar (prv_2 (yat rfl) (yat rfl)) zsn ⟨rfl, rfl⟩
def ref19_Measures (p0 : (List TMeasure)) : Option Int := cond (decide (300 < (p0.length : Int))) (some 8) (Option.bind (loopF (S := Int) (T := (Unit) ⊕ (_)) (fun v2 => cond (decide (v2 < (p0.length : Int))) (Option.bind (idx p0 v2) (fun m6 => cond ((((((decide (m6.ID < 1)) || (decide (1000000 < m6.ID))) || (decide (m6.Kind < 1))) || (decide (6 < m6.Kind))) || (decide (m6.Company < 0))) || (decide (999 < m6.Company))) (some (.inr (.inr 2))) (Option.bind (gd (decide (0 < v2)) (idx p0 (IntKind.i64.wrap (v2 - 1)))) (fun m9 => cond ((decide (0 < v2)) && (decide (m6.ID ≤ m9.ID))) (some (.inr (.inr 9))) (Option.bind (ref19_one m6) (fun x11 => cond (x11.1 != 0) (some (.inr (.inr x11.1))) (some (.inl (IntKind.i64.wrap (v2 + 1)))))))))) (some (.inr (.inl ())))) FUEL 0) (fun q => match q with | .inl _ => some 0 | .inr e => some e))
set_option maxHeartbeats 4000000 in
theorem ref19_Measures_ok {p0 : (List TMeasure)} {r : Int}  (h : ref19_Measures p0 = some r) : PF 41 [.slc (List.map TMeasure.enc p0)] (.v (.int .i64 r)) := by
 unfold ref19_Measures at h
 refine pf_of ?_
 refine penter Tryz.func41 fk41 rfl Tryz.ntmps41 Tryz.results41 rfl ?_
 refine yab (yaa ?_)
 refine zas (p := .v (.int .i64 0)) rfl rfl rfl rfl rfl ?_
 refine yad (yae (yab (yab (yaa ?_))))
 refine zmv (p := .slc (List.map TMeasure.enc p0)) rfl rfl rfl rfl rfl ?_
 refine yah rfl rfl rfl (pq_lenT (enc := TMeasure.enc) rfl rfl (.p rfl)) ?_
 refine yah rfl rfl rfl (yak rfl (.p rfl) (.p rfl) rfl) ?_
 refine yad (yae ?_)
 refine yal rfl (fun hc1 => ?_) (fun hc1 => ?_)
 ·replace h := yav hc1 h
  refine yab (yaa ?_)
  refine zas (p := .v (.int .i64 8)) rfl rfl rfl rfl rfl ?_
  refine yad (yae (yaq (yap ?_)))
  obtain rfl := Option.some.inj h
  exact yar (prv_1 (yat rfl)) zsn ⟨rfl, rfl⟩
 ·replace h := yaw hc1 h
  refine yao (yae (yab (yab (yaa ?_))))
  refine zas (p := .v (.int .i64 0)) rfl rfl rfl rfl rfl ?_
  refine yad (yae ?_)
  refine yaf h ?_; clear h; intro q4 hq4 h
  refine ybe (Y := (Unit) × (Unit)) (fun (_, _) => []) (fun (_, _) => []) (fun (_, _) => q4 = Sum.inl ()) ?_ ?_
  ·refine yaz ?_
   refine pwc_loopF (Y := Unit) (S := Int) _ hq4 (fun _ v2 => [(0, .slc (List.map TMeasure.enc p0)), (3, .v (.int .i64 v2))]) (fun _ v2 => []) () (zhc rfl (zhc rfl zhn)) zsn ?_
   rintro _ v2 o τ hb3; (try dsimp only at hb3); dsimp only [pupds]
   refine yab (yab (yaa ?_))
   refine zmv (p := .v (.int .i64 v2)) rfl rfl rfl rfl rfl ?_
   refine zmv (p := .slc (List.map TMeasure.enc p0)) rfl rfl rfl rfl rfl ?_
   refine yah rfl rfl rfl (pq_lenT (enc := TMeasure.enc) rfl rfl (.p rfl)) ?_
   refine yah rfl rfl rfl (yak rfl (.p rfl) (.p rfl) rfl) ?_
   refine yad (yae ?_)
   refine yal rfl (fun hc5 => ?_) (fun hc5 => ?_)
   ·replace hb3 := yav hc5 hb3
    refine yao (yae (yab (yaz (yab (yaa ?_)))))
    refine zmv (p := .slc (List.map TMeasure.enc p0)) rfl rfl rfl rfl rfl ?_
    refine zmv (p := .v (.int .i64 v2)) rfl rfl rfl rfl rfl ?_
    refine yaf hb3 ?_; clear hb3; intro m6 hm6 hb3
    refine yah rfl rfl rfl (pq_index (enc := TMeasure.enc) rfl rfl rfl (fun _ => rfl) (.p rfl) (.p rfl) (fun _ => hm6)) ?_
    refine yah rfl rfl rfl (pq_load_r (p := .agg [.v (.int .i64 m6.ID), .v (.int .i64 m6.Kind), .v (.string m6.Prefix), .slc (List.map eS m6.Origins), .v (.int .i64 m6.Company), .v (.int .i64 m6.From), .v (.int .i64 m6.To), .v (.int .i64 m6.Registered), .v (.int .i64 m6.Duty.Rate), .v (.int .i64 m6.Duty.Amount), .v (.int .i64 m6.Duty.Per), .v (.bool m6.Duty.HasMost), .v (.int .i64 m6.Duty.Most), .v (.bool m6.Duty.HasLeast), .v (.int .i64 m6.Duty.Least)]) rfl (.p rfl) rfl) ?_
    refine ybl rfl rfl rfl (pl_alloc (cs := [.v (.int .i64 0), .v (.int .i64 0), .v (.string ByteArray.empty), .v (.slice none 0 0), .v (.int .i64 0), .v (.int .i64 0), .v (.int .i64 0), .v (.int .i64 0), .v (.int .i64 0), .v (.int .i64 0), .v (.int .i64 0), .v (.bool false), .v (.int .i64 0), .v (.bool false), .v (.int .i64 0)]) rfl rfl rfl rfl (fun b7 => ?_))
    refine pwl_l0 rfl rfl (yax (vs := [.v (.int .i64 m6.ID), .v (.int .i64 m6.Kind), .v (.string m6.Prefix), .slc (List.map eS m6.Origins), .v (.int .i64 m6.Company), .v (.int .i64 m6.From), .v (.int .i64 m6.To), .v (.int .i64 m6.Registered), .v (.int .i64 m6.Duty.Rate), .v (.int .i64 m6.Duty.Amount), .v (.int .i64 m6.Duty.Per), .v (.bool m6.Duty.HasMost), .v (.int .i64 m6.Duty.Most), .v (.bool m6.Duty.HasLeast), .v (.int .i64 m6.Duty.Least)]) rfl rfl rfl rfl rfl zuh (zlc (zlc (zlc (zlc (zlc (zlc (zlc (zlc (zlc (zlc (zlc (zlc (zlc (zlc (zlc zln))))))))))))))) ?_)
    refine yad (yae (yab (yab (yaa ?_))))
    refine yah rfl rfl rfl (yac rfl rfl rfl rfl rfl (.p rfl)) ?_
    refine yah rfl rfl rfl (yag (p := .v (.int .i64 m6.ID)) rfl (.p rfl) zm0 rfl) ?_
    refine yah rfl rfl rfl (yak rfl (.p rfl) (.p rfl) rfl) ?_
    refine zmv (p := .v (.bool (decide (m6.ID < 1)))) rfl rfl rfl rfl rfl ?_
    refine yaj (yai rfl rfl rfl) rfl rfl (yac rfl rfl rfl rfl rfl (.p rfl)) ?_
    refine yaj (yai rfl rfl rfl) rfl rfl (yag (p := .v (.int .i64 m6.ID)) rfl (.g rfl) zm0 rfl) ?_
    refine yaj (yai rfl rfl rfl) rfl rfl (yak rfl (.g rfl) (.p rfl) rfl) ?_
    refine yah rfl rfl rfl (pq_or rfl (.p rfl) (.p rfl) (.g rfl)) ?_
    refine zmv (p := .v (.bool ((decide (m6.ID < 1)) || (decide (1000000 < m6.ID))))) rfl rfl rfl rfl rfl ?_
    refine yaj (yai rfl rfl rfl) rfl rfl (yac rfl rfl rfl rfl rfl (.p rfl)) ?_
    refine yaj (yai rfl rfl rfl) rfl rfl (yag (p := .v (.int .i64 m6.Kind)) rfl (.g rfl) zm0 rfl) ?_
    refine yaj (yai rfl rfl rfl) rfl rfl (yak rfl (.g rfl) (.p rfl) rfl) ?_
    refine yah rfl rfl rfl (pq_or rfl (.p rfl) (.p rfl) (.g rfl)) ?_
    refine zmv (p := .v (.bool (((decide (m6.ID < 1)) || (decide (1000000 < m6.ID))) || (decide (m6.Kind < 1))))) rfl rfl rfl rfl rfl ?_
    refine yaj (yai rfl rfl rfl) rfl rfl (yac rfl rfl rfl rfl rfl (.p rfl)) ?_
    refine yaj (yai rfl rfl rfl) rfl rfl (yag (p := .v (.int .i64 m6.Kind)) rfl (.g rfl) zm0 rfl) ?_
    refine yaj (yai rfl rfl rfl) rfl rfl (yak rfl (.g rfl) (.p rfl) rfl) ?_
    refine yah rfl rfl rfl (pq_or rfl (.p rfl) (.p rfl) (.g rfl)) ?_
    refine zmv (p := .v (.bool ((((decide (m6.ID < 1)) || (decide (1000000 < m6.ID))) || (decide (m6.Kind < 1))) || (decide (6 < m6.Kind))))) rfl rfl rfl rfl rfl ?_
    refine yaj (yai rfl rfl rfl) rfl rfl (yac rfl rfl rfl rfl rfl (.p rfl)) ?_
    refine yaj (yai rfl rfl rfl) rfl rfl (yag (p := .v (.int .i64 m6.Company)) rfl (.g rfl) zm0 rfl) ?_
    refine yaj (yai rfl rfl rfl) rfl rfl (yak rfl (.g rfl) (.p rfl) rfl) ?_
    refine yah rfl rfl rfl (pq_or rfl (.p rfl) (.p rfl) (.g rfl)) ?_
    refine zmv (p := .v (.bool (((((decide (m6.ID < 1)) || (decide (1000000 < m6.ID))) || (decide (m6.Kind < 1))) || (decide (6 < m6.Kind))) || (decide (m6.Company < 0))))) rfl rfl rfl rfl rfl ?_
    refine yaj (yai rfl rfl rfl) rfl rfl (yac rfl rfl rfl rfl rfl (.p rfl)) ?_
    refine yaj (yai rfl rfl rfl) rfl rfl (yag (p := .v (.int .i64 m6.Company)) rfl (.g rfl) zm0 rfl) ?_
    refine yaj (yai rfl rfl rfl) rfl rfl (yak rfl (.g rfl) (.p rfl) rfl) ?_
    refine yah rfl rfl rfl (pq_or rfl (.p rfl) (.p rfl) (.g rfl)) ?_
    refine yad (yae ?_)
    refine yal rfl (fun hc8 => ?_) (fun hc8 => ?_)
    ·replace hb3 := yav hc8 hb3
     refine yab (yaa ?_)
     refine zas (p := .v (.int .i64 2)) rfl rfl rfl rfl rfl ?_
     refine yad (yae (yaq (yap (yba (yap ?_)))))
     refine pk_loop_ret hb3 (fun ht => ?_); subst ht
     have h := (show some _ = some _ from h)
     refine yba (pk_mid_ret ?_)
     obtain rfl := Option.some.inj h
     exact yar (prv_1 (yat rfl)) zsn ⟨rfl, rfl⟩
    ·replace hb3 := yaw hc8 hb3
     refine yao (yae (yab (yab ?_)))
     refine pwc_draw (ρd := []) [(0, 0), (1, 0), (2, 0), (3, 0), (4, 0), (5, 0), (6, 0), (7, 0), (8, 0), (9, 0), (10, 0), (11, 0), (12, 0)] _ (List.Perm.refl _) (by kernel_rfl) rfl ?_
     refine ybf rfl rfl rfl (yam (p := .v (.int .i64 v2)) rfl (.p rfl)) ?_
     refine ybf rfl rfl rfl (yak rfl (.p rfl) (.p rfl) rfl) ?_
     refine ybf rfl rfl rfl (yam (p := .v (.bool (decide (0 < v2)))) rfl (.p rfl)) ?_
     refine ybi (yan rfl rfl rfl) rfl rfl (yac rfl rfl rfl rfl rfl (.p rfl)) ?_
     refine ybi (yan rfl rfl rfl) rfl rfl (yag (p := .v (.int .i64 m6.ID)) rfl (.g rfl) zm0 rfl) ?_
     refine ybi (yan rfl rfl rfl) rfl rfl (yam (p := .slc (List.map TMeasure.enc p0)) rfl (.p rfl)) ?_
     refine ybi (yan rfl rfl rfl) rfl rfl (yam (p := .v (.int .i64 v2)) rfl (.p rfl)) ?_
     refine ybi (yan rfl rfl rfl) rfl rfl (yas rfl (.g rfl) (.p rfl) rfl) ?_
     refine yaf hb3 ?_; clear hb3; intro m9 hm9 hb3
     refine ybi (yan rfl rfl rfl) rfl rfl (pq_index (enc := TMeasure.enc) rfl rfl rfl (fun _ => rfl) (.g rfl) (.g rfl) (gd_t hm9)) ?_
     refine ybi (yan rfl rfl rfl) rfl rfl (pq_fieldAddrR rfl rfl rfl rfl rfl (.g rfl)) ?_
     refine ybi (yan rfl rfl rfl) rfl rfl (pq_load_r (p := .v (.int .i64 m9.ID)) rfl (.g rfl) rfl) ?_
     refine ybi (yan rfl rfl rfl) rfl rfl (yak rfl (.g rfl) (.g rfl) rfl) ?_
     refine ybf rfl rfl rfl (pq_and rfl (.p rfl) (.p rfl) (.g rfl)) ?_
     refine pwd_nil (yae ?_)
     refine yal rfl (fun hc10 => ?_) (fun hc10 => ?_)
     ·replace hb3 := yav hc10 hb3
      refine yab (yaa ?_)
      refine zas (p := .v (.int .i64 9)) rfl rfl rfl rfl rfl ?_
      refine yad (yae (yaq (yap (yba (yap ?_)))))
      refine pk_loop_ret hb3 (fun ht => ?_); subst ht
      have h := (show some _ = some _ from h)
      refine yba (pk_mid_ret ?_)
      obtain rfl := Option.some.inj h
      exact yar (prv_1 (yat rfl)) zsn ⟨rfl, rfl⟩
     ·replace hb3 := yaw hc10 hb3
      refine yao (yae (yab (yaa ?_)))
      refine yah rfl rfl rfl (yag (p := .agg [.v (.int .i64 m6.ID), .v (.int .i64 m6.Kind), .v (.string m6.Prefix), .slc (List.map eS m6.Origins), .v (.int .i64 m6.Company), .v (.int .i64 m6.From), .v (.int .i64 m6.To), .v (.int .i64 m6.Registered), .v (.int .i64 m6.Duty.Rate), .v (.int .i64 m6.Duty.Amount), .v (.int .i64 m6.Duty.Per), .v (.bool m6.Duty.HasMost), .v (.int .i64 m6.Duty.Most), .v (.bool m6.Duty.HasLeast), .v (.int .i64 m6.Duty.Least)]) rfl (.p rfl) zm0 rfl) ?_
      refine yaf hb3 ?_; clear hb3; intro x11 hx11 hb3
      refine ybd rfl rfl rfl rfl rfl (ref19_one_ok hx11) ?_
      refine zmv (p := .tup [.v (.int .i64 x11.1), .v (.bool x11.2)]) rfl rfl rfl rfl rfl ?_
      refine zex (p := .v (.int .i64 x11.1)) rfl rfl rfl rfl rfl rfl ?_
      refine zex (p := .v (.bool x11.2)) rfl rfl rfl rfl rfl rfl ?_
      refine zas (p := .v (.int .i64 x11.1)) rfl rfl rfl rfl rfl ?_
      refine zas (p := .v (.bool x11.2)) rfl rfl rfl rfl rfl ?_
      refine yad (yae (yab (yaa ?_)))
      refine zmv (p := .v (.int .i64 x11.1)) rfl rfl rfl rfl rfl ?_
      refine yah rfl rfl rfl (yak rfl (.p rfl) (.p rfl) rfl) ?_
      refine yad (yae ?_)
      refine yal rfl (fun hc12 => ?_) (fun hc12 => ?_)
      ·replace hb3 := yav hc12 hb3
       refine yab (yaa ?_)
       refine zmv (p := .v (.int .i64 x11.1)) rfl rfl rfl rfl rfl ?_
       refine zas (p := .v (.int .i64 x11.1)) rfl rfl rfl rfl rfl ?_
       refine yad (yae (yaq (yba (yap ?_))))
       refine pk_loop_ret hb3 (fun ht => ?_); subst ht
       have h := (show some _ = some _ from h)
       refine yba (pk_mid_ret ?_)
       obtain rfl := Option.some.inj h
       exact yar (prv_1 (yat rfl)) zsn ⟨rfl, rfl⟩
      ·replace hb3 := yaw hc12 hb3
       refine yao (ybc (yae (yaa ?_)))
       refine zmv (p := .v (.int .i64 v2)) rfl rfl rfl rfl rfl ?_
       refine yah rfl rfl rfl (yas rfl (.p rfl) (.p rfl) rfl) ?_
       refine zas (p := .v (.int .i64 (IntKind.i64.wrap (v2 + 1)))) rfl rfl rfl rfl rfl ?_
       refine yad ?_
       exact pk_loop hb3 () (zhc rfl (zhc rfl zhn)) zsn
   ·replace hb3 := yaw hc5 hb3
    refine pwc_exit (ybm ?_)
    refine ybh hb3 (fun ht => ?_)
    refine ybj rfl ?_
    exact ybb ((), ()) zhn zsn ht.symm
  ·rintro ⟨_, _⟩ τ hz; (try dsimp only at hz); subst q4; (try dsimp only at h); dsimp only [pupds]
   refine yab (yaa ?_)
   refine zas (p := .v (.int .i64 0)) rfl rfl rfl rfl rfl ?_
   refine yad (yae (yaq ?_))
   obtain rfl := Option.some.inj h
   exact yar (prv_1 (yat rfl)) zsn ⟨rfl, rfl⟩
def ref01_Add (p0 : Tref01_Wide) (p1 : Tref01_Wide) : Option (Tref01_Wide × Bool) := Option.bind (cond (decide ((IntKind.u64.wrap (p0.Lo + p1.Lo)) < p0.Lo)) (lb ((IntKind.u64.wrap ((IntKind.u64.wrap (p0.Hi + p1.Hi)) + 1))) (fun w8 => some (w8, ((decide ((IntKind.u64.wrap (p0.Hi + p1.Hi)) < p0.Hi)) || (w8 == 0))))) (some ((IntKind.u64.wrap (p0.Hi + p1.Hi)), (decide ((IntKind.u64.wrap (p0.Hi + p1.Hi)) < p0.Hi))))) (fun (v4, v5) => some ((⟨v4, (IntKind.u64.wrap (p0.Lo + p1.Lo))⟩ : Tref01_Wide), v5))
set_option maxHeartbeats 4000000 in
theorem ref01_Add_ok {p0 : Tref01_Wide} {p1 : Tref01_Wide} {r : (Tref01_Wide × Bool)}  (h : ref01_Add p0 p1 = some r) : PF 70 [.agg [.v (.int .u64 p0.Hi), .v (.int .u64 p0.Lo)], .agg [.v (.int .u64 p1.Hi), .v (.int .u64 p1.Lo)]] (.tup [.agg [.v (.int .u64 r.1.Hi), .v (.int .u64 r.1.Lo)], .v (.bool r.2)]) := by
 unfold ref01_Add at h
 refine pf_of ?_
 refine penter Tryz.func70 fk70 rfl Tryz.ntmps70 Tryz.results70 rfl ?_
 refine yab (yaa ?_)
 refine ybl rfl rfl rfl (pl_box (cs := [.v (.int .u64 p0.Hi), .v (.int .u64 p0.Lo)]) rfl rfl (fun b1 => ?_))
 refine ybl rfl rfl rfl (pl_box (cs := [.v (.int .u64 p1.Hi), .v (.int .u64 p1.Lo)]) rfl rfl (fun b2 => ?_))
 refine ybl rfl rfl rfl (pl_alloc (cs := [.v (.int .u64 0), .v (.int .u64 0)]) rfl rfl rfl rfl (fun b3 => ?_))
 refine zas (p := .v (.bool false)) rfl rfl rfl rfl rfl ?_
 refine yad (yae (yab ?_))
 refine pwc_draw (ρd := []) [(0, 0), (1, 0), (2, 0), (3, 0), (4, 0), (5, 0), (6, 0), (7, 0), (8, 0), (9, 0), (10, 0), (11, 0)] _ (List.Perm.refl _) (by kernel_rfl) rfl ?_
 refine ybf rfl rfl rfl (yac rfl rfl rfl rfl rfl (.p rfl)) ?_
 refine ybf rfl rfl rfl (yag (p := .v (.int .u64 p0.Lo)) rfl (.p rfl) zm2 rfl) ?_
 refine ybf rfl rfl rfl (yac rfl rfl rfl rfl rfl (.p rfl)) ?_
 refine ybf rfl rfl rfl (yag (p := .v (.int .u64 p1.Lo)) rfl (.p rfl) zm1 rfl) ?_
 refine ybf rfl rfl rfl (yas rfl (.p rfl) (.p rfl) rfl) ?_
 refine ybf rfl rfl rfl (yac rfl rfl rfl rfl rfl (.p rfl)) ?_
 refine ybf rfl rfl rfl (yag (p := .v (.int .u64 p0.Hi)) rfl (.p rfl) zm2 rfl) ?_
 refine ybf rfl rfl rfl (yac rfl rfl rfl rfl rfl (.p rfl)) ?_
 refine ybf rfl rfl rfl (yag (p := .v (.int .u64 p1.Hi)) rfl (.p rfl) zm1 rfl) ?_
 refine ybf rfl rfl rfl (yas rfl (.p rfl) (.p rfl) rfl) ?_
 refine ybf rfl rfl rfl (pq_assign (p := .v (.int .u64 (IntKind.u64.wrap (p0.Lo + p1.Lo)))) rfl (.p rfl)) ?_
 refine ybf rfl rfl rfl (pq_assign (p := .v (.int .u64 (IntKind.u64.wrap (p0.Hi + p1.Hi)))) rfl (.p rfl)) ?_
 refine pwd_nil (yae (yab (yaa ?_)))
 refine zmv (p := .v (.int .u64 (IntKind.u64.wrap (p0.Hi + p1.Hi)))) rfl rfl rfl rfl rfl ?_
 refine yah rfl rfl rfl (yac rfl rfl rfl rfl rfl (.p rfl)) ?_
 refine yah rfl rfl rfl (yag (p := .v (.int .u64 p0.Hi)) rfl (.p rfl) zm2 rfl) ?_
 refine yah rfl rfl rfl (yak rfl (.p rfl) (.p rfl) rfl) ?_
 refine zas (p := .v (.bool (decide ((IntKind.u64.wrap (p0.Hi + p1.Hi)) < p0.Hi)))) rfl rfl rfl rfl rfl ?_
 refine yad (yae (yab (yab (yaa ?_))))
 refine zmv (p := .v (.int .u64 (IntKind.u64.wrap (p0.Lo + p1.Lo)))) rfl rfl rfl rfl rfl ?_
 refine yah rfl rfl rfl (yac rfl rfl rfl rfl rfl (.p rfl)) ?_
 refine yah rfl rfl rfl (yag (p := .v (.int .u64 p0.Lo)) rfl (.p rfl) zm2 rfl) ?_
 refine yah rfl rfl rfl (yak rfl (.p rfl) (.p rfl) rfl) ?_
 refine yad (yae ?_)
 refine yaf h ?_; clear h; intro q6 hq6 h
 refine ybe (Y := (Unit) × (Int × Bool)) (fun (_, (v4, v5)) => [(4, .v (.pointer (some ⟨b3, 0, none⟩))), (6, .v (.int .u64 (IntKind.u64.wrap (p0.Lo + p1.Lo)))), (7, .v (.int .u64 v4)), (8, .v (.bool v5))]) (fun (_, (v4, v5)) => [PRes.b b3 109 [.v (.int .u64 0), .v (.int .u64 0)]]) (fun (_, (v4, v5)) => q6 = (v4, v5)) ?_ ?_
 ·skip
  refine yal rfl (fun hc7 => ?_) (fun hc7 => ?_)
  ·replace hq6 := yav hc7 hq6
   refine yab (yaa ?_)
   refine zmv (p := .v (.int .u64 (IntKind.u64.wrap (p0.Hi + p1.Hi)))) rfl rfl rfl rfl rfl ?_
   refine yah rfl rfl rfl (yas rfl (.p rfl) (.p rfl) rfl) ?_
   refine lb_elim hq6 ?_; clear hq6; intro w8 hw8 hq6
   refine yah rfl rfl rfl (pq_assign rfl (.p (congrArg (fun z => PV.v (Value.int .u64 z)) hw8))) ?_
   refine yad (yae (yaa ?_))
   refine zmv (p := .v (.bool (decide ((IntKind.u64.wrap (p0.Hi + p1.Hi)) < p0.Hi)))) rfl rfl rfl rfl rfl ?_
   refine zmv (p := .v (.bool (decide ((IntKind.u64.wrap (p0.Hi + p1.Hi)) < p0.Hi)))) rfl rfl rfl rfl rfl ?_
   refine yaj (yai rfl rfl rfl) rfl rfl (yam (p := .v (.int .u64 w8)) rfl (.p rfl)) ?_
   refine yaj (yai rfl rfl rfl) rfl rfl (yak rfl (.g rfl) (.p rfl) rfl) ?_
   refine yah rfl rfl rfl (pq_or rfl (.p rfl) (.p rfl) (.g rfl)) ?_
   refine zas (p := .v (.bool ((decide ((IntKind.u64.wrap (p0.Hi + p1.Hi)) < p0.Hi)) || (w8 == 0)))) rfl rfl rfl rfl rfl ?_
   refine yad ?_
   obtain rfl := Option.some.inj hq6
   exact ybb ((), (w8, ((decide ((IntKind.u64.wrap (p0.Hi + p1.Hi)) < p0.Hi)) || (w8 == 0)))) (zhc rfl (zhc rfl (zhc rfl (zhc rfl zhn)))) (zsc zph zsn) rfl
  ·replace hq6 := yaw hc7 hq6
   refine yao ?_
   obtain rfl := Option.some.inj hq6
   exact ybb ((), ((IntKind.u64.wrap (p0.Hi + p1.Hi)), (decide ((IntKind.u64.wrap (p0.Hi + p1.Hi)) < p0.Hi)))) (zhc rfl (zhc rfl (zhc rfl (zhc rfl zhn)))) (zsc zph zsn) rfl
 ·rintro ⟨_, ⟨v4, v5⟩⟩ τ hz; (try dsimp only at hz); subst q6; (try dsimp only at h); dsimp only [pupds]
  refine yab (yaa ?_)
  refine zmv (p := .v (.int .u64 v4)) rfl rfl rfl rfl rfl ?_
  refine zmv (p := .v (.int .u64 (IntKind.u64.wrap (p0.Lo + p1.Lo)))) rfl rfl rfl rfl rfl ?_
  refine yah rfl rfl rfl (pq_build (cs := [.v (.int .u64 v4), .v (.int .u64 (IntKind.u64.wrap (p0.Lo + p1.Lo)))]) rfl rfl rfl rfl rfl rfl rfl (zfc rfl rfl rfl rfl (zlc zln) (zfc rfl rfl rfl rfl (zlt (zlc zln)) zfn))) ?_
  refine zmv (p := .v (.bool v5)) rfl rfl rfl rfl rfl ?_
  refine pwl_l0 rfl rfl (yax (vs := [.v (.int .u64 v4), .v (.int .u64 (IntKind.u64.wrap (p0.Lo + p1.Lo)))]) rfl rfl rfl rfl rfl zuh (zlc (zlc zln)) ?_)
  refine zas (p := .v (.bool v5)) rfl rfl rfl rfl rfl ?_
  refine yad (yae (yaq ?_))
  obtain rfl := Option.some.inj h
  exact yar (prv_2 (prv1_c rfl zm0 rfl) (yat rfl)) zsn ⟨rfl, rfl⟩
def ref01_DivMod (p0 : Tref01_Wide) (p1 : Int) : Option (Tref01_Wide × Int) := Option.bind (loopF (S := Int × Int × Int × Int) (T := (Int × Int × Int)) (fun (v4, v5, v6, v7) => cond (decide (0 ≤ v5)) (Option.bind (Option.bind (ge0 (iand .i64 v5 63)) (fun u18 => lb ((iand .u64 (ishr .u64 p0.Lo (iand .i64 v5 63)) 1)) (fun w19 => Option.bind (cond (decide (63 < v5)) (Option.bind (ge0 (IntKind.i64.wrap (v5 - 64))) (fun u23 => lb ((iand .u64 (ishr .u64 p0.Hi (IntKind.i64.wrap (v5 - 64))) 1)) (fun w24 => some w24))) (some w19)) (fun v20 => Option.bind (ref01_Add (⟨v6, v7⟩ : Tref01_Wide) (⟨v6, v7⟩ : Tref01_Wide)) (fun x25 => cond (((ishr .u64 v4 63) == 1) || (decide (p1 ≤ (ior .u64 (ishl .u64 v4 1) v20)))) (lb ((IntKind.u64.wrap ((ior .u64 (ishl .u64 v4 1) v20) - p1))) (fun w27 => some (w27, x25.1.Hi, (ior .u64 x25.1.Lo 1)))) (some ((ior .u64 (ishl .u64 v4 1) v20), x25.1.Hi, x25.1.Lo))))))) (fun (v14, v15, v16) => some (.inl (v14, (IntKind.i64.wrap (v5 - 1)), v15, v16)))) (some (.inr (v4, v6, v7)))) FUEL (0, 127, 0, 0)) (fun (v8, v9, v10) => some ((⟨v9, v10⟩ : Tref01_Wide), v8))
set_option maxHeartbeats 4000000 in
theorem ref01_DivMod_ok {p0 : Tref01_Wide} {p1 : Int} {r : (Tref01_Wide × Int)}  (h : ref01_DivMod p0 p1 = some r) : PF 64 [.agg [.v (.int .u64 p0.Hi), .v (.int .u64 p0.Lo)], .v (.int .u64 p1)] (.tup [.agg [.v (.int .u64 r.1.Hi), .v (.int .u64 r.1.Lo)], .v (.int .u64 r.2)]) := by
 unfold ref01_DivMod at h
 refine pf_of ?_
 refine penter Tryz.func64 fk64 rfl Tryz.ntmps64 Tryz.results64 rfl ?_
 refine yab (yaa ?_)
 refine ybl rfl rfl rfl (pl_box (cs := [.v (.int .u64 p0.Hi), .v (.int .u64 p0.Lo)]) rfl rfl (fun b1 => ?_))
 refine ybl rfl rfl rfl (pl_alloc (cs := [.v (.int .u64 0), .v (.int .u64 0)]) rfl rfl rfl rfl (fun b2 => ?_))
 refine zas (p := .v (.int .u64 0)) rfl rfl rfl rfl rfl ?_
 refine yad (yae (yab (yaa ?_)))
 refine yah rfl rfl rfl (pq_build (cs := [.v (.int .u64 0), .v (.int .u64 0)]) rfl rfl rfl rfl rfl rfl rfl zfn) ?_
 refine ybl rfl rfl rfl (pl_alloc (cs := [.v (.int .u64 0), .v (.int .u64 0)]) rfl rfl rfl rfl (fun b3 => ?_))
 refine pwl_l0 rfl rfl (yax (vs := [.v (.int .u64 0), .v (.int .u64 0)]) rfl rfl rfl rfl rfl zuh (zlc (zlc zln)) ?_)
 refine zas (p := .v (.int .u64 0)) rfl rfl rfl rfl rfl ?_
 refine yad (yae (yab (yab (yaa ?_))))
 refine zas (p := .v (.int .i64 127)) rfl rfl rfl rfl rfl ?_
 refine yad (yae ?_)
 refine yaf h ?_; clear h; intro q12 hq12 h
 refine ybe (Y := (Unit) × (Int × Int × Int)) (fun (_, (v8, v9, v10)) => [(4, .v (.pointer (some ⟨b2, 0, none⟩))), (6, .v (.pointer (some ⟨b3, 0, none⟩))), (7, .v (.int .u64 v8))]) (fun (_, (v8, v9, v10)) => [PRes.b b2 109 [.v (.int .u64 0), .v (.int .u64 0)], PRes.b b3 109 [.v (.int .u64 v9), .v (.int .u64 v10)]]) (fun (_, (v8, v9, v10)) => q12 = (v8, v9, v10)) ?_ ?_
 ·refine yaz ?_
  refine pwc_loopF (Y := Unit) (S := Int × Int × Int × Int) _ hq12 (fun _ (v4, v5, v6, v7) => [(1, .v (.int .u64 p1)), (2, .v (.pointer (some ⟨b1, 0, none⟩))), (4, .v (.pointer (some ⟨b2, 0, none⟩))), (6, .v (.pointer (some ⟨b3, 0, none⟩))), (7, .v (.int .u64 v4)), (8, .v (.int .i64 v5))]) (fun _ (v4, v5, v6, v7) => [PRes.b b1 109 [.v (.int .u64 p0.Hi), .v (.int .u64 p0.Lo)], PRes.b b2 109 [.v (.int .u64 0), .v (.int .u64 0)], PRes.b b3 109 [.v (.int .u64 v6), .v (.int .u64 v7)]]) () (zhc rfl (zhc rfl (zhc rfl (zhc rfl (zhc rfl (zhc rfl zhn)))))) (zsc (zpt (zpt zph)) (zsc (zpt zph) (zsc zph zsn))) ?_
  rintro _ ⟨v4, v5, v6, v7⟩ o τ hb11; (try dsimp only at hb11); dsimp only [pupds]
  refine yab (yab (yaa ?_))
  refine zmv (p := .v (.int .i64 v5)) rfl rfl rfl rfl rfl ?_
  refine yah rfl rfl rfl (yak rfl (.p rfl) (.p rfl) rfl) ?_
  refine yad (yae ?_)
  refine yal rfl (fun hc13 => ?_) (fun hc13 => ?_)
  ·replace hb11 := yav hc13 hb11
   refine yao (yae (yab ?_))
   refine yaf hb11 ?_; clear hb11; intro q17 hq17 hb11
   refine ybe (Y := (Unit) × (Int × Int × Int)) (fun (_, (v14, v15, v16)) => [(1, .v (.int .u64 p1)), (2, .v (.pointer (some ⟨b1, 0, none⟩))), (4, .v (.pointer (some ⟨b2, 0, none⟩))), (6, .v (.pointer (some ⟨b3, 0, none⟩))), (7, .v (.int .u64 v14)), (8, .v (.int .i64 v5))]) (fun (_, (v14, v15, v16)) => [PRes.b b1 109 [.v (.int .u64 p0.Hi), .v (.int .u64 p0.Lo)], PRes.b b2 109 [.v (.int .u64 0), .v (.int .u64 0)], PRes.b b3 109 [.v (.int .u64 v15), .v (.int .u64 v16)]]) (fun (_, (v14, v15, v16)) => q17 = (v14, v15, v16)) ?_ ?_
   ·skip
    refine yaz (yab (yaa ?_))
    refine yah rfl rfl rfl (yac rfl rfl rfl rfl rfl (.p rfl)) ?_
    refine yah rfl rfl rfl (yag (p := .v (.int .u64 p0.Lo)) rfl (.p rfl) zm0 rfl) ?_
    refine zmv (p := .v (.int .i64 v5)) rfl rfl rfl rfl rfl ?_
    refine yah rfl rfl rfl (pq_bits rfl (.p rfl) (.p rfl) rfl) ?_
    refine yaf hq17 ?_; clear hq17; intro u18 hu18 hq17
    refine yah rfl rfl rfl (pq_shift rfl (.p rfl) (.p rfl) (fun _ => ge0_some hu18) rfl) ?_
    refine yah rfl rfl rfl (pq_bits rfl (.p rfl) (.p rfl) rfl) ?_
    refine lb_elim hq17 ?_; clear hq17; intro w19 hw19 hq17
    refine yah rfl rfl rfl (pq_assign rfl (.p (congrArg (fun z => PV.v (Value.int .u64 z)) hw19))) ?_
    refine yad (yae (yab (yab (yaa ?_))))
    refine zmv (p := .v (.int .i64 v5)) rfl rfl rfl rfl rfl ?_
    refine yah rfl rfl rfl (yak rfl (.p rfl) (.p rfl) rfl) ?_
    refine yad (yae ?_)
    refine yaf hq17 ?_; clear hq17; intro q21 hq21 hq17
    refine ybe (Y := (Unit) × (Int)) (fun (_, v20) => [(1, .v (.int .u64 p1)), (2, .v (.pointer (some ⟨b1, 0, none⟩))), (4, .v (.pointer (some ⟨b2, 0, none⟩))), (6, .v (.pointer (some ⟨b3, 0, none⟩))), (7, .v (.int .u64 v4)), (8, .v (.int .i64 v5)), (9, .v (.int .u64 v20))]) (fun (_, v20) => [PRes.b b1 109 [.v (.int .u64 p0.Hi), .v (.int .u64 p0.Lo)], PRes.b b2 109 [.v (.int .u64 0), .v (.int .u64 0)], PRes.b b3 109 [.v (.int .u64 v6), .v (.int .u64 v7)]]) (fun (_, v20) => q21 = v20) ?_ ?_
    ·skip
     refine yal rfl (fun hc22 => ?_) (fun hc22 => ?_)
     ·replace hq21 := yav hc22 hq21
      refine yaa ?_
      refine yah rfl rfl rfl (yac rfl rfl rfl rfl rfl (.p rfl)) ?_
      refine yah rfl rfl rfl (yag (p := .v (.int .u64 p0.Hi)) rfl (.p rfl) zm0 rfl) ?_
      refine zmv (p := .v (.int .i64 v5)) rfl rfl rfl rfl rfl ?_
      refine yah rfl rfl rfl (yas rfl (.p rfl) (.p rfl) rfl) ?_
      refine yaf hq21 ?_; clear hq21; intro u23 hu23 hq21
      refine yah rfl rfl rfl (pq_shift rfl (.p rfl) (.p rfl) (fun _ => ge0_some hu23) rfl) ?_
      refine yah rfl rfl rfl (pq_bits rfl (.p rfl) (.p rfl) rfl) ?_
      refine lb_elim hq21 ?_; clear hq21; intro w24 hw24 hq21
      refine yah rfl rfl rfl (pq_assign rfl (.p (congrArg (fun z => PV.v (Value.int .u64 z)) hw24))) ?_
      refine yad ?_
      obtain rfl := Option.some.inj hq21
      exact ybb ((), w24) (zhc rfl (zhc rfl (zhc rfl (zhc rfl (zhc rfl (zhc rfl (zhc rfl zhn))))))) (zsc zph (zsc zph (zsc zph zsn))) rfl
     ·replace hq21 := yaw hc22 hq21
      refine yao ?_
      obtain rfl := Option.some.inj hq21
      exact ybb ((), w19) (zhc rfl (zhc rfl (zhc rfl (zhc rfl (zhc rfl (zhc rfl (zhc rfl zhn))))))) (zsc zph (zsc zph (zsc zph zsn))) rfl
    ·rintro ⟨_, v20⟩ τ hz; (try dsimp only at hz); subst q21; (try dsimp only at hq17); dsimp only [pupds]
     refine yab (yaa ?_)
     refine zmv (p := .v (.int .u64 v4)) rfl rfl rfl rfl rfl ?_
     refine yah rfl rfl rfl (pq_shift rfl (.p rfl) (.p rfl) (fun _ => by decide) rfl) ?_
     refine zas (p := .v (.int .u64 (ishr .u64 v4 63))) rfl rfl rfl rfl rfl ?_
     refine yad (yae (yab (yaa ?_)))
     refine zmv (p := .v (.int .u64 v4)) rfl rfl rfl rfl rfl ?_
     refine yah rfl rfl rfl (pq_shift rfl (.p rfl) (.p rfl) (fun _ => by decide) rfl) ?_
     refine zmv (p := .v (.int .u64 v20)) rfl rfl rfl rfl rfl ?_
     refine yah rfl rfl rfl (pq_bits rfl (.p rfl) (.p rfl) rfl) ?_
     refine zas (p := .v (.int .u64 (ior .u64 (ishl .u64 v4 1) v20))) rfl rfl rfl rfl rfl ?_
     refine yad (yae (yab (yaa ?_)))
     refine yah rfl rfl rfl (yag (p := .agg [.v (.int .u64 v6), .v (.int .u64 v7)]) rfl (.p rfl) zm2 rfl) ?_
     refine yah rfl rfl rfl (yag (p := .agg [.v (.int .u64 v6), .v (.int .u64 v7)]) rfl (.p rfl) zm2 rfl) ?_
     refine yaf hq17 ?_; clear hq17; intro x25 hx25 hq17
     refine ybd rfl rfl rfl rfl rfl (ref01_Add_ok hx25) ?_
     refine zmv (p := .tup [.agg [.v (.int .u64 x25.1.Hi), .v (.int .u64 x25.1.Lo)], .v (.bool x25.2)]) rfl rfl rfl rfl rfl ?_
     refine zex (p := .agg [.v (.int .u64 x25.1.Hi), .v (.int .u64 x25.1.Lo)]) rfl rfl rfl rfl rfl rfl ?_
     refine zex (p := .v (.bool x25.2)) rfl rfl rfl rfl rfl rfl ?_
     refine pwl_l0 rfl rfl (yax (vs := [.v (.int .u64 x25.1.Hi), .v (.int .u64 x25.1.Lo)]) rfl rfl rfl rfl rfl (zut (zut zuh)) (zlc (zlc zln)) ?_)
     refine yad (yae (yab (yaa ?_)))
     refine zmv (p := .v (.int .u64 (ishr .u64 v4 63))) rfl rfl rfl rfl rfl ?_
     refine yah rfl rfl rfl (yak rfl (.p rfl) (.p rfl) rfl) ?_
     refine zmv (p := .v (.bool ((ishr .u64 v4 63) == 1))) rfl rfl rfl rfl rfl ?_
     refine yaj (yai rfl rfl rfl) rfl rfl (yam (p := .v (.int .u64 (ior .u64 (ishl .u64 v4 1) v20))) rfl (.p rfl)) ?_
     refine yaj (yai rfl rfl rfl) rfl rfl (yam (p := .v (.int .u64 p1)) rfl (.p rfl)) ?_
     refine yaj (yai rfl rfl rfl) rfl rfl (yak rfl (.g rfl) (.g rfl) rfl) ?_
     refine yah rfl rfl rfl (pq_or rfl (.p rfl) (.p rfl) (.g rfl)) ?_
     refine yad (yae ?_)
     refine yal rfl (fun hc26 => ?_) (fun hc26 => ?_)
     ·replace hq17 := yav hc26 hq17
      refine yab (yaa ?_)
      refine zmv (p := .v (.int .u64 (ior .u64 (ishl .u64 v4 1) v20))) rfl rfl rfl rfl rfl ?_
      refine zmv (p := .v (.int .u64 p1)) rfl rfl rfl rfl rfl ?_
      refine yah rfl rfl rfl (yas rfl (.p rfl) (.p rfl) rfl) ?_
      refine lb_elim hq17 ?_; clear hq17; intro w27 hw27 hq17
      refine yah rfl rfl rfl (pq_assign rfl (.p (congrArg (fun z => PV.v (Value.int .u64 z)) hw27))) ?_
      refine yad (yae (yaa ?_))
      refine yah rfl rfl rfl (yac rfl rfl rfl rfl rfl (.p rfl)) ?_
      refine yah rfl rfl rfl (yag (p := .v (.int .u64 x25.1.Lo)) rfl (.p rfl) zm2 rfl) ?_
      refine yah rfl rfl rfl (pq_bits rfl (.p rfl) (.p rfl) rfl) ?_
      refine yah rfl rfl rfl (yac rfl rfl rfl rfl rfl (.p rfl)) ?_
      refine pwl_l0 rfl rfl (yax (vs := [.v (.int .u64 (ior .u64 x25.1.Lo 1))]) rfl rfl rfl rfl rfl (zut (zut zuh)) (zlt (zlc zln)) ?_)
      refine yad (ybc ?_)
      obtain rfl := Option.some.inj hq17
      exact ybb ((), (w27, x25.1.Hi, (ior .u64 x25.1.Lo 1))) (zhc rfl (zhc rfl (zhc rfl (zhc rfl (zhc rfl (zhc rfl zhn)))))) (zsc zph (zsc zph (zsc zph zsn))) rfl
     ·replace hq17 := yaw hc26 hq17
      refine yao (ybc ?_)
      obtain rfl := Option.some.inj hq17
      exact ybb ((), ((ior .u64 (ishl .u64 v4 1) v20), x25.1.Hi, x25.1.Lo)) (zhc rfl (zhc rfl (zhc rfl (zhc rfl (zhc rfl (zhc rfl zhn)))))) (zsc zph (zsc zph (zsc zph zsn))) rfl
   ·rintro ⟨_, ⟨v14, v15, v16⟩⟩ τ hz; (try dsimp only at hz); subst q17; (try dsimp only at hb11); dsimp only [pupds]
    refine yaa ?_
    refine zmv (p := .v (.int .i64 v5)) rfl rfl rfl rfl rfl ?_
    refine yah rfl rfl rfl (yas rfl (.p rfl) (.p rfl) rfl) ?_
    refine zas (p := .v (.int .i64 (IntKind.i64.wrap (v5 - 1)))) rfl rfl rfl rfl rfl ?_
    refine yad ?_
    exact pk_loop hb11 () (zhc rfl (zhc rfl (zhc rfl (zhc rfl (zhc rfl (zhc rfl zhn)))))) (zsc zph (zsc zph (zsc zph zsn)))
  ·replace hb11 := yaw hc13 hb11
   refine pwc_exit (ybm ?_)
   refine ybh hb11 (fun ht => ?_)
   refine ybj rfl ?_
   exact ybb ((), (v4, v6, v7)) (zhc rfl (zhc rfl (zhc rfl zhn))) (zsc (zpt zph) (zsc (zpt zph) zsn)) ht.symm
 ·rintro ⟨_, ⟨v8, v9, v10⟩⟩ τ hz; (try dsimp only at hz); subst q12; (try dsimp only at h); dsimp only [pupds]
  refine yab (yaa ?_)
  refine yah rfl rfl rfl (yag (p := .agg [.v (.int .u64 v9), .v (.int .u64 v10)]) rfl (.p rfl) zm1 rfl) ?_
  refine zmv (p := .v (.int .u64 v8)) rfl rfl rfl rfl rfl ?_
  refine pwl_l0 rfl rfl (yax (vs := [.v (.int .u64 v9), .v (.int .u64 v10)]) rfl rfl rfl rfl rfl zuh (zlc (zlc zln)) ?_)
  refine zas (p := .v (.int .u64 v8)) rfl rfl rfl rfl rfl ?_
  refine yad (yae (yaq ?_))
  obtain rfl := Option.some.inj h
  exact yar (prv_2 (prv1_c rfl zm0 rfl) (yat rfl)) zsn ⟨rfl, rfl⟩
def ref01_Mul (p0 : Int) (p1 : Int) : Option Tref01_Wide := Option.bind (loopF (S := Int × Int × Int) (T := (Int × Int)) (fun (v3, v4, v5) => cond (decide (0 ≤ v3)) (Option.bind (Option.bind (ref01_Add (⟨v4, v5⟩ : Tref01_Wide) (⟨v4, v5⟩ : Tref01_Wide)) (fun x14 => Option.bind (ge0 v3) (fun u15 => cond ((iand .u64 (ishr .u64 p1 v3) 1) == 1) (Option.bind (ref01_Add x14.1 (⟨0, p0⟩ : Tref01_Wide)) (fun x17 => some (x17.1.Hi, x17.1.Lo))) (some (x14.1.Hi, x14.1.Lo))))) (fun (v11, v12) => some (.inl ((IntKind.i64.wrap (v3 - 1)), v11, v12)))) (some (.inr (v4, v5)))) FUEL (63, 0, 0)) (fun (v6, v7) => some (⟨v6, v7⟩ : Tref01_Wide))
set_option maxHeartbeats 4000000 in
theorem ref01_Mul_ok {p0 : Int} {p1 : Int} {r : Tref01_Wide}  (h : ref01_Mul p0 p1 = some r) : PF 65 [.v (.int .u64 p0), .v (.int .u64 p1)] (.agg [.v (.int .u64 r.Hi), .v (.int .u64 r.Lo)]) := by
 unfold ref01_Mul at h
 refine pf_of ?_
 refine penter Tryz.func65 fk65 rfl Tryz.ntmps65 Tryz.results65 rfl ?_
 refine yab (yaa ?_)
 refine ybl rfl rfl rfl (pl_alloc (cs := [.v (.int .u64 0), .v (.int .u64 0)]) rfl rfl rfl rfl (fun b1 => ?_))
 refine yad (yae (yab (yaa ?_)))
 refine yah rfl rfl rfl (pq_build (cs := [.v (.int .u64 0), .v (.int .u64 0)]) rfl rfl rfl rfl rfl rfl rfl zfn) ?_
 refine ybl rfl rfl rfl (pl_alloc (cs := [.v (.int .u64 0), .v (.int .u64 0)]) rfl rfl rfl rfl (fun b2 => ?_))
 refine pwl_l0 rfl rfl (yax (vs := [.v (.int .u64 0), .v (.int .u64 0)]) rfl rfl rfl rfl rfl zuh (zlc (zlc zln)) ?_)
 refine yad (yae (yab (yab (yaa ?_))))
 refine zas (p := .v (.int .i64 63)) rfl rfl rfl rfl rfl ?_
 refine yad (yae ?_)
 refine yaf h ?_; clear h; intro q9 hq9 h
 refine ybe (Y := (Unit) × (Int × Int)) (fun (_, (v6, v7)) => [(4, .v (.pointer (some ⟨b1, 0, none⟩))), (5, .v (.pointer (some ⟨b2, 0, none⟩)))]) (fun (_, (v6, v7)) => [PRes.b b1 109 [.v (.int .u64 0), .v (.int .u64 0)], PRes.b b2 109 [.v (.int .u64 v6), .v (.int .u64 v7)]]) (fun (_, (v6, v7)) => q9 = (v6, v7)) ?_ ?_
 ·refine yaz ?_
  refine pwc_loopF (Y := Unit) (S := Int × Int × Int) _ hq9 (fun _ (v3, v4, v5) => [(0, .v (.int .u64 p0)), (1, .v (.int .u64 p1)), (4, .v (.pointer (some ⟨b1, 0, none⟩))), (5, .v (.pointer (some ⟨b2, 0, none⟩))), (6, .v (.int .i64 v3))]) (fun _ (v3, v4, v5) => [PRes.b b1 109 [.v (.int .u64 0), .v (.int .u64 0)], PRes.b b2 109 [.v (.int .u64 v4), .v (.int .u64 v5)]]) () (zhc rfl (zhc rfl (zhc rfl (zhc rfl (zhc rfl zhn))))) (zsc (zpt zph) (zsc zph zsn)) ?_
  rintro _ ⟨v3, v4, v5⟩ o τ hb8; (try dsimp only at hb8); dsimp only [pupds]
  refine yab (yab (yaa ?_))
  refine zmv (p := .v (.int .i64 v3)) rfl rfl rfl rfl rfl ?_
  refine yah rfl rfl rfl (yak rfl (.p rfl) (.p rfl) rfl) ?_
  refine yad (yae ?_)
  refine yal rfl (fun hc10 => ?_) (fun hc10 => ?_)
  ·replace hb8 := yav hc10 hb8
   refine yao (yae (yab ?_))
   refine yaf hb8 ?_; clear hb8; intro q13 hq13 hb8
   refine ybe (Y := (Unit) × (Int × Int)) (fun (_, (v11, v12)) => [(0, .v (.int .u64 p0)), (1, .v (.int .u64 p1)), (4, .v (.pointer (some ⟨b1, 0, none⟩))), (5, .v (.pointer (some ⟨b2, 0, none⟩))), (6, .v (.int .i64 v3))]) (fun (_, (v11, v12)) => [PRes.b b1 109 [.v (.int .u64 0), .v (.int .u64 0)], PRes.b b2 109 [.v (.int .u64 v11), .v (.int .u64 v12)]]) (fun (_, (v11, v12)) => q13 = (v11, v12)) ?_ ?_
   ·skip
    refine yaz (yab (yaa ?_))
    refine yah rfl rfl rfl (yag (p := .agg [.v (.int .u64 v4), .v (.int .u64 v5)]) rfl (.p rfl) zm1 rfl) ?_
    refine yah rfl rfl rfl (yag (p := .agg [.v (.int .u64 v4), .v (.int .u64 v5)]) rfl (.p rfl) zm1 rfl) ?_
    refine yaf hq13 ?_; clear hq13; intro x14 hx14 hq13
    refine ybd rfl rfl rfl rfl rfl (ref01_Add_ok hx14) ?_
    refine zmv (p := .tup [.agg [.v (.int .u64 x14.1.Hi), .v (.int .u64 x14.1.Lo)], .v (.bool x14.2)]) rfl rfl rfl rfl rfl ?_
    refine zex (p := .agg [.v (.int .u64 x14.1.Hi), .v (.int .u64 x14.1.Lo)]) rfl rfl rfl rfl rfl rfl ?_
    refine zex (p := .v (.bool x14.2)) rfl rfl rfl rfl rfl rfl ?_
    refine pwl_l0 rfl rfl (yax (vs := [.v (.int .u64 x14.1.Hi), .v (.int .u64 x14.1.Lo)]) rfl rfl rfl rfl rfl (zut zuh) (zlc (zlc zln)) ?_)
    refine yad (yae (yab (yaa ?_)))
    refine zmv (p := .v (.int .u64 p1)) rfl rfl rfl rfl rfl ?_
    refine zmv (p := .v (.int .i64 v3)) rfl rfl rfl rfl rfl ?_
    refine yaf hq13 ?_; clear hq13; intro u15 hu15 hq13
    refine yah rfl rfl rfl (pq_shift rfl (.p rfl) (.p rfl) (fun _ => ge0_some hu15) rfl) ?_
    refine yah rfl rfl rfl (pq_bits rfl (.p rfl) (.p rfl) rfl) ?_
    refine yah rfl rfl rfl (yak rfl (.p rfl) (.p rfl) rfl) ?_
    refine yad (yae ?_)
    refine yal rfl (fun hc16 => ?_) (fun hc16 => ?_)
    ·replace hq13 := yav hc16 hq13
     refine yaa ?_
     refine yah rfl rfl rfl (yag (p := .agg [.v (.int .u64 x14.1.Hi), .v (.int .u64 x14.1.Lo)]) rfl (.p rfl) zm1 rfl) ?_
     refine zmv (p := .v (.int .u64 p0)) rfl rfl rfl rfl rfl ?_
     refine yah rfl rfl rfl (pq_build (cs := [.v (.int .u64 0), .v (.int .u64 p0)]) rfl rfl rfl rfl rfl rfl rfl (zfc rfl rfl rfl rfl (zlc zln) (zfc rfl rfl rfl rfl (zlt (zlc zln)) zfn))) ?_
     refine yaf hq13 ?_; clear hq13; intro x17 hx17 hq13
     refine ybd rfl rfl rfl rfl rfl (ref01_Add_ok hx17) ?_
     refine zmv (p := .tup [.agg [.v (.int .u64 x17.1.Hi), .v (.int .u64 x17.1.Lo)], .v (.bool x17.2)]) rfl rfl rfl rfl rfl ?_
     refine zex (p := .agg [.v (.int .u64 x17.1.Hi), .v (.int .u64 x17.1.Lo)]) rfl rfl rfl rfl rfl rfl ?_
     refine zex (p := .v (.bool x17.2)) rfl rfl rfl rfl rfl rfl ?_
     refine pwl_l0 rfl rfl (yax (vs := [.v (.int .u64 x17.1.Hi), .v (.int .u64 x17.1.Lo)]) rfl rfl rfl rfl rfl (zut zuh) (zlc (zlc zln)) ?_)
     refine yad (ybc ?_)
     obtain rfl := Option.some.inj hq13
     exact ybb ((), (x17.1.Hi, x17.1.Lo)) (zhc rfl (zhc rfl (zhc rfl (zhc rfl (zhc rfl zhn))))) (zsc zph (zsc zph zsn)) rfl
    ·replace hq13 := yaw hc16 hq13
     refine yao (ybc ?_)
     obtain rfl := Option.some.inj hq13
     exact ybb ((), (x14.1.Hi, x14.1.Lo)) (zhc rfl (zhc rfl (zhc rfl (zhc rfl (zhc rfl zhn))))) (zsc zph (zsc zph zsn)) rfl
   ·rintro ⟨_, ⟨v11, v12⟩⟩ τ hz; (try dsimp only at hz); subst q13; (try dsimp only at hb8); dsimp only [pupds]
    refine yaa ?_
    refine zmv (p := .v (.int .i64 v3)) rfl rfl rfl rfl rfl ?_
    refine yah rfl rfl rfl (yas rfl (.p rfl) (.p rfl) rfl) ?_
    refine zas (p := .v (.int .i64 (IntKind.i64.wrap (v3 - 1)))) rfl rfl rfl rfl rfl ?_
    refine yad ?_
    exact pk_loop hb8 () (zhc rfl (zhc rfl (zhc rfl (zhc rfl (zhc rfl zhn))))) (zsc zph (zsc zph zsn))
  ·replace hb8 := yaw hc10 hb8
   refine pwc_exit (ybm ?_)
   refine ybh hb8 (fun ht => ?_)
   refine ybj rfl ?_
   exact ybb ((), (v4, v5)) (zhc rfl (zhc rfl zhn)) (zsc zph (zsc zph zsn)) ht.symm
 ·rintro ⟨_, ⟨v6, v7⟩⟩ τ hz; (try dsimp only at hz); subst q9; (try dsimp only at h); dsimp only [pupds]
  refine yab (yaa ?_)
  refine yah rfl rfl rfl (yag (p := .agg [.v (.int .u64 v6), .v (.int .u64 v7)]) rfl (.p rfl) zm1 rfl) ?_
  refine pwl_l0 rfl rfl (yax (vs := [.v (.int .u64 v6), .v (.int .u64 v7)]) rfl rfl rfl rfl rfl zuh (zlc (zlc zln)) ?_)
  refine yad (yae (yaq ?_))
  obtain rfl := Option.some.inj h
  exact yar (prv_1 (prv1_c rfl zm0 rfl)) zsn ⟨rfl, rfl⟩
def ref19_InForce (p0 : TMeasure) (p1 : Int) : Option Bool := some (((decide (p0.From ≤ p1)) && (decide (p1 < p0.To))) || (((decide (0 ≤ p0.Registered)) && (decide (p0.Registered ≤ p1))) && (decide (p1 < p0.From))))
set_option maxHeartbeats 4000000 in
theorem ref19_InForce_ok {p0 : TMeasure} {p1 : Int} {r : Bool}  (h : ref19_InForce p0 p1 = some r) : PF 98 [.agg [.v (.int .i64 p0.ID), .v (.int .i64 p0.Kind), .v (.string p0.Prefix), .slc (List.map eS p0.Origins), .v (.int .i64 p0.Company), .v (.int .i64 p0.From), .v (.int .i64 p0.To), .v (.int .i64 p0.Registered), .v (.int .i64 p0.Duty.Rate), .v (.int .i64 p0.Duty.Amount), .v (.int .i64 p0.Duty.Per), .v (.bool p0.Duty.HasMost), .v (.int .i64 p0.Duty.Most), .v (.bool p0.Duty.HasLeast), .v (.int .i64 p0.Duty.Least)], .v (.int .i64 p1)] (.v (.bool r)) := by
 unfold ref19_InForce at h
 refine pf_of ?_
 refine penter Tryz.func98 fk98 rfl Tryz.ntmps98 Tryz.results98 rfl ?_
 refine yab (yaa ?_)
 refine ybl rfl rfl rfl (pl_box (cs := [.v (.int .i64 p0.ID), .v (.int .i64 p0.Kind), .v (.string p0.Prefix), .slc (List.map eS p0.Origins), .v (.int .i64 p0.Company), .v (.int .i64 p0.From), .v (.int .i64 p0.To), .v (.int .i64 p0.Registered), .v (.int .i64 p0.Duty.Rate), .v (.int .i64 p0.Duty.Amount), .v (.int .i64 p0.Duty.Per), .v (.bool p0.Duty.HasMost), .v (.int .i64 p0.Duty.Most), .v (.bool p0.Duty.HasLeast), .v (.int .i64 p0.Duty.Least)]) rfl rfl (fun b1 => ?_))
 refine zas (p := .v (.bool false)) rfl rfl rfl rfl rfl ?_
 refine yad (yae (yab (yaa ?_)))
 refine yah rfl rfl rfl (yac rfl rfl rfl rfl rfl (.p rfl)) ?_
 refine yah rfl rfl rfl (yag (p := .v (.int .i64 p0.From)) rfl (.p rfl) zm0 rfl) ?_
 refine zmv (p := .v (.int .i64 p1)) rfl rfl rfl rfl rfl ?_
 refine yah rfl rfl rfl (yak rfl (.p rfl) (.p rfl) rfl) ?_
 refine zmv (p := .v (.bool (decide (p0.From ≤ p1)))) rfl rfl rfl rfl rfl ?_
 refine yaj (yan rfl rfl rfl) rfl rfl (yam (p := .v (.int .i64 p1)) rfl (.p rfl)) ?_
 refine yaj (yan rfl rfl rfl) rfl rfl (yac rfl rfl rfl rfl rfl (.p rfl)) ?_
 refine yaj (yan rfl rfl rfl) rfl rfl (yag (p := .v (.int .i64 p0.To)) rfl (.g rfl) zm0 rfl) ?_
 refine yaj (yan rfl rfl rfl) rfl rfl (yak rfl (.g rfl) (.g rfl) rfl) ?_
 refine yah rfl rfl rfl (pq_and rfl (.p rfl) (.p rfl) (.g rfl)) ?_
 refine zmv (p := .v (.bool ((decide (p0.From ≤ p1)) && (decide (p1 < p0.To))))) rfl rfl rfl rfl rfl ?_
 refine yaj (yai rfl rfl rfl) rfl rfl (yac rfl rfl rfl rfl rfl (.p rfl)) ?_
 refine yaj (yai rfl rfl rfl) rfl rfl (yag (p := .v (.int .i64 p0.Registered)) rfl (.g rfl) zm0 rfl) ?_
 refine yaj (yai rfl rfl rfl) rfl rfl (yak rfl (.g rfl) (.p rfl) rfl) ?_
 refine yaj (yai rfl rfl rfl) rfl rfl (yam (p := .v (.bool (decide (0 ≤ p0.Registered)))) rfl (.g rfl)) ?_
 refine yaj (yay rfl rfl rfl) rfl rfl (yac rfl rfl rfl rfl rfl (.p rfl)) ?_
 refine yaj (yay rfl rfl rfl) rfl rfl (yag (p := .v (.int .i64 p0.Registered)) rfl (.g rfl) zm0 rfl) ?_
 refine yaj (yay rfl rfl rfl) rfl rfl (yam (p := .v (.int .i64 p1)) rfl (.p rfl)) ?_
 refine yaj (yay rfl rfl rfl) rfl rfl (yak rfl (.g rfl) (.g rfl) rfl) ?_
 refine yaj (yai rfl rfl rfl) rfl rfl (pq_and rfl (.g rfl) (.p rfl) (.g rfl)) ?_
 refine yaj (yai rfl rfl rfl) rfl rfl (yam (p := .v (.bool ((decide (0 ≤ p0.Registered)) && (decide (p0.Registered ≤ p1))))) rfl (.g rfl)) ?_
 refine yaj (yay rfl rfl rfl) rfl rfl (yam (p := .v (.int .i64 p1)) rfl (.p rfl)) ?_
 refine yaj (yay rfl rfl rfl) rfl rfl (yac rfl rfl rfl rfl rfl (.p rfl)) ?_
 refine yaj (yay rfl rfl rfl) rfl rfl (yag (p := .v (.int .i64 p0.From)) rfl (.g rfl) zm0 rfl) ?_
 refine yaj (yay rfl rfl rfl) rfl rfl (yak rfl (.g rfl) (.g rfl) rfl) ?_
 refine yaj (yai rfl rfl rfl) rfl rfl (pq_and rfl (.g rfl) (.p rfl) (.g rfl)) ?_
 refine yah rfl rfl rfl (pq_or rfl (.p rfl) (.p rfl) (.g rfl)) ?_
 refine zas (p := .v (.bool (((decide (p0.From ≤ p1)) && (decide (p1 < p0.To))) || (((decide (0 ≤ p0.Registered)) && (decide (p0.Registered ≤ p1))) && (decide (p1 < p0.From)))))) rfl rfl rfl rfl rfl ?_
 refine yad (yae (yaq ?_))
 obtain rfl := Option.some.inj h
 exact yar (prv_1 (yat rfl)) zsn ⟨rfl, rfl⟩
def ref08_Prefix (p0 : ByteArray) (p1 : ByteArray) : Option Bool := Option.bind (gd (decide ((p1.size : Int) ≤ (p0.size : Int))) (ssub p0 0 (p1.size : Int))) (fun s1 => some ((decide ((p1.size : Int) ≤ (p0.size : Int))) && (decide (s1 = p1))))
set_option maxHeartbeats 4000000 in
theorem ref08_Prefix_ok {p0 : ByteArray} {p1 : ByteArray} {r : Bool}  (h : ref08_Prefix p0 p1 = some r) : PF 99 [.v (.string p0), .v (.string p1)] (.v (.bool r)) := by
 unfold ref08_Prefix at h
 refine pf_of ?_
 refine penter Tryz.func99 fk99 rfl Tryz.ntmps99 Tryz.results99 rfl ?_
 refine yab (yaa ?_)
 refine zas (p := .v (.bool false)) rfl rfl rfl rfl rfl ?_
 refine yad (yae (yab (yaa ?_)))
 refine zmv (p := .v (.string p0)) rfl rfl rfl rfl rfl ?_
 refine yah rfl rfl rfl (pq_lenS rfl rfl (.p rfl)) ?_
 refine zmv (p := .v (.string p1)) rfl rfl rfl rfl rfl ?_
 refine yah rfl rfl rfl (pq_lenS rfl rfl (.p rfl)) ?_
 refine yah rfl rfl rfl (yak rfl (.p rfl) (.p rfl) rfl) ?_
 refine zmv (p := .v (.bool (decide ((p1.size : Int) ≤ (p0.size : Int))))) rfl rfl rfl rfl rfl ?_
 refine yaj (yan rfl rfl rfl) rfl rfl (yam (p := .v (.string p0)) rfl (.p rfl)) ?_
 refine yaj (yan rfl rfl rfl) rfl rfl (yam (p := .v (.string p1)) rfl (.p rfl)) ?_
 refine yaj (yan rfl rfl rfl) rfl rfl (pq_lenS rfl rfl (.g rfl)) ?_
 refine yaf h ?_; clear h; intro s1 hs1 h
 refine yaj (yan rfl rfl rfl) rfl rfl (pq_ssliceH rfl rfl (.g rfl) (.g rfl) (gd_t hs1)) ?_
 refine yaj (yan rfl rfl rfl) rfl rfl (yam (p := .v (.string p1)) rfl (.p rfl)) ?_
 refine yaj (yan rfl rfl rfl) rfl rfl (pq_str rfl (.g rfl) (.g rfl) rfl) ?_
 refine yah rfl rfl rfl (pq_and rfl (.p rfl) (.p rfl) (.g rfl)) ?_
 refine zas (p := .v (.bool ((decide ((p1.size : Int) ≤ (p0.size : Int))) && (decide (s1 = p1))))) rfl rfl rfl rfl rfl ?_
 refine yad (yae (yaq ?_))
 obtain rfl := Option.some.inj h
 exact yar (prv_1 (yat rfl)) zsn ⟨rfl, rfl⟩
def ref08_Has (p0 : (List ByteArray)) (p1 : ByteArray) : Option Bool := Option.bind (loopF (S := Int) (T := (Unit) ⊕ (_)) (fun v1 => cond (decide (v1 < (p0.length : Int))) (Option.bind (idx p0 v1) (fun m5 => cond (decide (m5 = p1)) (some (.inr (.inr true))) (some (.inl (IntKind.i64.wrap (v1 + 1)))))) (some (.inr (.inl ())))) FUEL 0) (fun q => match q with | .inl _ => some false | .inr e => some e)
set_option maxHeartbeats 4000000 in
theorem ref08_Has_ok {p0 : (List ByteArray)} {p1 : ByteArray} {r : Bool}  (h : ref08_Has p0 p1 = some r) : PF 100 [.slc (List.map eS p0), .v (.string p1)] (.v (.bool r)) := by
 unfold ref08_Has at h
 refine pf_of ?_
 refine penter Tryz.func100 fk100 rfl Tryz.ntmps100 Tryz.results100 rfl ?_
 refine yab (yaa ?_)
 refine zas (p := .v (.bool false)) rfl rfl rfl rfl rfl ?_
 refine yad (yae (yab (yab (yaa ?_))))
 refine zas (p := .v (.int .i64 0)) rfl rfl rfl rfl rfl ?_
 refine yad (yae ?_)
 refine yaf h ?_; clear h; intro q3 hq3 h
 refine ybe (Y := (Unit) × (Unit)) (fun (_, _) => []) (fun (_, _) => []) (fun (_, _) => q3 = Sum.inl ()) ?_ ?_
 ·refine yaz ?_
  refine pwc_loopF (Y := Unit) (S := Int) _ hq3 (fun _ v1 => [(0, .slc (List.map eS p0)), (1, .v (.string p1)), (5, .v (.int .i64 v1))]) (fun _ v1 => []) () (zhc rfl (zhc rfl (zhc rfl zhn))) zsn ?_
  rintro _ v1 o τ hb2; (try dsimp only at hb2); dsimp only [pupds]
  refine yab (yab (yaa ?_))
  refine zmv (p := .v (.int .i64 v1)) rfl rfl rfl rfl rfl ?_
  refine zmv (p := .slc (List.map eS p0)) rfl rfl rfl rfl rfl ?_
  refine yah rfl rfl rfl (pq_lenT (enc := eS) rfl rfl (.p rfl)) ?_
  refine yah rfl rfl rfl (yak rfl (.p rfl) (.p rfl) rfl) ?_
  refine yad (yae ?_)
  refine yal rfl (fun hc4 => ?_) (fun hc4 => ?_)
  ·replace hb2 := yav hc4 hb2
   refine yao (yae (yab (yaz (yab (yaa ?_)))))
   refine zmv (p := .slc (List.map eS p0)) rfl rfl rfl rfl rfl ?_
   refine zmv (p := .v (.int .i64 v1)) rfl rfl rfl rfl rfl ?_
   refine yaf hb2 ?_; clear hb2; intro m5 hm5 hb2
   refine yah rfl rfl rfl (pq_index (enc := eS) rfl rfl rfl (fun _ => rfl) (.p rfl) (.p rfl) (fun _ => hm5)) ?_
   refine yah rfl rfl rfl (pq_load_r (p := .v (.string m5)) rfl (.p rfl) rfl) ?_
   refine zmv (p := .v (.string p1)) rfl rfl rfl rfl rfl ?_
   refine yah rfl rfl rfl (pq_str rfl (.p rfl) (.p rfl) rfl) ?_
   refine yad (yae ?_)
   refine yal rfl (fun hc6 => ?_) (fun hc6 => ?_)
   ·replace hb2 := yav hc6 hb2
    refine yab (yaa ?_)
    refine zas (p := .v (.bool true)) rfl rfl rfl rfl rfl ?_
    refine yad (yae (yaq (yba (yap ?_))))
    refine pk_loop_ret hb2 (fun ht => ?_); subst ht
    have h := (show some _ = some _ from h)
    refine yba (pk_mid_ret ?_)
    obtain rfl := Option.some.inj h
    exact yar (prv_1 (yat rfl)) zsn ⟨rfl, rfl⟩
   ·replace hb2 := yaw hc6 hb2
    refine yao (ybc (yae (yaa ?_)))
    refine zmv (p := .v (.int .i64 v1)) rfl rfl rfl rfl rfl ?_
    refine yah rfl rfl rfl (yas rfl (.p rfl) (.p rfl) rfl) ?_
    refine zas (p := .v (.int .i64 (IntKind.i64.wrap (v1 + 1)))) rfl rfl rfl rfl rfl ?_
    refine yad ?_
    exact pk_loop hb2 () (zhc rfl (zhc rfl (zhc rfl zhn))) zsn
  ·replace hb2 := yaw hc4 hb2
   refine pwc_exit (ybm ?_)
   refine ybh hb2 (fun ht => ?_)
   refine ybj rfl ?_
   exact ybb ((), ()) zhn zsn ht.symm
 ·rintro ⟨_, _⟩ τ hz; (try dsimp only at hz); subst q3; (try dsimp only at h); dsimp only [pupds]
  refine yab (yaa ?_)
  refine zas (p := .v (.bool false)) rfl rfl rfl rfl rfl ?_
  refine yad (yae (yaq ?_))
  obtain rfl := Option.some.inj h
  exact yar (prv_1 (yat rfl)) zsn ⟨rfl, rfl⟩
def ref19_Covers (p0 : TMeasure) (p1 : ByteArray) (p2 : ByteArray) (p3 : Int) (p4 : Int) : Option Bool := Option.bind (ref19_InForce p0 p4) (fun x2 => Option.bind (gd x2 (ref08_Prefix p1 p0.Prefix)) (fun x3 => Option.bind (gd ((x2 && x3) && (!((p0.Origins.length : Int) == 0))) (ref08_Has p0.Origins p2)) (fun x4 => some (((x2 && x3) && (((p0.Origins.length : Int) == 0) || x4)) && ((p0.Company == 0) || (p0.Company == p3))))))
set_option maxHeartbeats 4000000 in
theorem ref19_Covers_ok {p0 : TMeasure} {p1 : ByteArray} {p2 : ByteArray} {p3 : Int} {p4 : Int} {r : Bool}  (h : ref19_Covers p0 p1 p2 p3 p4 = some r) : PF 66 [.agg [.v (.int .i64 p0.ID), .v (.int .i64 p0.Kind), .v (.string p0.Prefix), .slc (List.map eS p0.Origins), .v (.int .i64 p0.Company), .v (.int .i64 p0.From), .v (.int .i64 p0.To), .v (.int .i64 p0.Registered), .v (.int .i64 p0.Duty.Rate), .v (.int .i64 p0.Duty.Amount), .v (.int .i64 p0.Duty.Per), .v (.bool p0.Duty.HasMost), .v (.int .i64 p0.Duty.Most), .v (.bool p0.Duty.HasLeast), .v (.int .i64 p0.Duty.Least)], .v (.string p1), .v (.string p2), .v (.int .i64 p3), .v (.int .i64 p4)] (.v (.bool r)) := by
 unfold ref19_Covers at h
 refine pf_of ?_
 refine penter Tryz.func66 fk66 rfl Tryz.ntmps66 Tryz.results66 rfl ?_
 refine yab (yaa ?_)
 refine ybl rfl rfl rfl (pl_box (cs := [.v (.int .i64 p0.ID), .v (.int .i64 p0.Kind), .v (.string p0.Prefix), .slc (List.map eS p0.Origins), .v (.int .i64 p0.Company), .v (.int .i64 p0.From), .v (.int .i64 p0.To), .v (.int .i64 p0.Registered), .v (.int .i64 p0.Duty.Rate), .v (.int .i64 p0.Duty.Amount), .v (.int .i64 p0.Duty.Per), .v (.bool p0.Duty.HasMost), .v (.int .i64 p0.Duty.Most), .v (.bool p0.Duty.HasLeast), .v (.int .i64 p0.Duty.Least)]) rfl rfl (fun b1 => ?_))
 refine zas (p := .v (.bool false)) rfl rfl rfl rfl rfl ?_
 refine yad (yae (yab (yaa ?_)))
 refine yah rfl rfl rfl (yag (p := .agg [.v (.int .i64 p0.ID), .v (.int .i64 p0.Kind), .v (.string p0.Prefix), .slc (List.map eS p0.Origins), .v (.int .i64 p0.Company), .v (.int .i64 p0.From), .v (.int .i64 p0.To), .v (.int .i64 p0.Registered), .v (.int .i64 p0.Duty.Rate), .v (.int .i64 p0.Duty.Amount), .v (.int .i64 p0.Duty.Per), .v (.bool p0.Duty.HasMost), .v (.int .i64 p0.Duty.Most), .v (.bool p0.Duty.HasLeast), .v (.int .i64 p0.Duty.Least)]) rfl (.p rfl) zm0 rfl) ?_
 refine zmv (p := .v (.int .i64 p4)) rfl rfl rfl rfl rfl ?_
 refine yaf h ?_; clear h; intro x2 hx2 h
 refine ybd rfl rfl rfl rfl rfl (ref19_InForce_ok hx2) ?_
 refine zmv (p := .v (.bool x2)) rfl rfl rfl rfl rfl ?_
 refine yaj (yan rfl rfl rfl) rfl rfl (yam (p := .v (.string p1)) rfl (.p rfl)) ?_
 refine yaj (yan rfl rfl rfl) rfl rfl (yac rfl rfl rfl rfl rfl (.p rfl)) ?_
 refine yaj (yan rfl rfl rfl) rfl rfl (yag (p := .v (.string p0.Prefix)) rfl (.g rfl) zm0 rfl) ?_
 refine yaf h ?_; clear h; intro x3 hx3 h
 refine pwl_callg (yan rfl rfl rfl) rfl rfl rfl (ybg (.g rfl) (ybg (.g rfl) (pargs_nil))) (fun hc => ref08_Prefix_ok (gd_t hx3 hc)) ?_
 refine yah rfl rfl rfl (pq_and rfl (.p rfl) (.p rfl) (.g rfl)) ?_
 refine zmv (p := .v (.bool (x2 && x3))) rfl rfl rfl rfl rfl ?_
 refine yaj (yan rfl rfl rfl) rfl rfl (yac rfl rfl rfl rfl rfl (.p rfl)) ?_
 refine yaj (yan rfl rfl rfl) rfl rfl (yag (p := .slc (List.map eS p0.Origins)) rfl (.g rfl) zm0 rfl) ?_
 refine yaj (yan rfl rfl rfl) rfl rfl (pq_lenT (enc := eS) rfl rfl (.g rfl)) ?_
 refine yaj (yan rfl rfl rfl) rfl rfl (yak rfl (.g rfl) (.p rfl) rfl) ?_
 refine yaj (yan rfl rfl rfl) rfl rfl (yam (p := .v (.bool ((p0.Origins.length : Int) == 0))) rfl (.g rfl)) ?_
 refine yaj (pguard_gf rfl rfl rfl) rfl rfl (yac rfl rfl rfl rfl rfl (.p rfl)) ?_
 refine yaj (pguard_gf rfl rfl rfl) rfl rfl (yag (p := .slc (List.map eS p0.Origins)) rfl (.g rfl) zm0 rfl) ?_
 refine yaj (pguard_gf rfl rfl rfl) rfl rfl (yam (p := .v (.string p2)) rfl (.p rfl)) ?_
 refine yaf h ?_; clear h; intro x4 hx4 h
 refine pwl_callg (pguard_gf rfl rfl rfl) rfl rfl rfl (ybg (.g rfl) (ybg (.g rfl) (pargs_nil))) (fun hc => ref08_Has_ok (gd_t hx4 hc)) ?_
 refine yaj (yan rfl rfl rfl) rfl rfl (pq_or rfl (.g rfl) (.p rfl) (.g rfl)) ?_
 refine yah rfl rfl rfl (pq_and rfl (.p rfl) (.p rfl) (.g rfl)) ?_
 refine zmv (p := .v (.bool ((x2 && x3) && (((p0.Origins.length : Int) == 0) || x4)))) rfl rfl rfl rfl rfl ?_
 refine yaj (yan rfl rfl rfl) rfl rfl (yac rfl rfl rfl rfl rfl (.p rfl)) ?_
 refine yaj (yan rfl rfl rfl) rfl rfl (yag (p := .v (.int .i64 p0.Company)) rfl (.g rfl) zm0 rfl) ?_
 refine yaj (yan rfl rfl rfl) rfl rfl (yak rfl (.g rfl) (.p rfl) rfl) ?_
 refine yaj (yan rfl rfl rfl) rfl rfl (yam (p := .v (.bool (p0.Company == 0))) rfl (.g rfl)) ?_
 refine yaj (pguard_gf rfl rfl rfl) rfl rfl (yac rfl rfl rfl rfl rfl (.p rfl)) ?_
 refine yaj (pguard_gf rfl rfl rfl) rfl rfl (yag (p := .v (.int .i64 p0.Company)) rfl (.g rfl) zm0 rfl) ?_
 refine yaj (pguard_gf rfl rfl rfl) rfl rfl (yam (p := .v (.int .i64 p3)) rfl (.p rfl)) ?_
 refine yaj (pguard_gf rfl rfl rfl) rfl rfl (yak rfl (.g rfl) (.g rfl) rfl) ?_
 refine yaj (yan rfl rfl rfl) rfl rfl (pq_or rfl (.g rfl) (.p rfl) (.g rfl)) ?_
 refine yah rfl rfl rfl (pq_and rfl (.p rfl) (.p rfl) (.g rfl)) ?_
 refine zas (p := .v (.bool (((x2 && x3) && (((p0.Origins.length : Int) == 0) || x4)) && ((p0.Company == 0) || (p0.Company == p3))))) rfl rfl rfl rfl rfl ?_
 refine yad (yae (yaq ?_))
 obtain rfl := Option.some.inj h
 exact yar (prv_1 (yat rfl)) zsn ⟨rfl, rfl⟩
def ref19_rank (p0 : TMeasure) : Option Int := Option.bind (cond (decide (0 < (p0.Origins.length : Int))) (some (p0.Origins.length : Int)) (some 21)) (fun v2 => Option.bind (cond (p0.Company != 0) (some 1) (some 0)) (fun v5 => lb ((IntKind.i64.wrap ((IntKind.i64.wrap ((IntKind.i64.wrap ((IntKind.i64.wrap ((IntKind.i64.wrap ((IntKind.i64.wrap ((IntKind.i64.wrap ((p0.Prefix.size : Int) * 2)) + v5)) * 100)) + 50)) - v2)) * 10000000)) + p0.ID))) (fun w8 => some w8)))
set_option maxHeartbeats 4000000 in
theorem ref19_rank_ok {p0 : TMeasure} {r : Int}  (h : ref19_rank p0 = some r) : PF 67 [.agg [.v (.int .i64 p0.ID), .v (.int .i64 p0.Kind), .v (.string p0.Prefix), .slc (List.map eS p0.Origins), .v (.int .i64 p0.Company), .v (.int .i64 p0.From), .v (.int .i64 p0.To), .v (.int .i64 p0.Registered), .v (.int .i64 p0.Duty.Rate), .v (.int .i64 p0.Duty.Amount), .v (.int .i64 p0.Duty.Per), .v (.bool p0.Duty.HasMost), .v (.int .i64 p0.Duty.Most), .v (.bool p0.Duty.HasLeast), .v (.int .i64 p0.Duty.Least)]] (.v (.int .i64 r)) := by
 unfold ref19_rank at h
 refine pf_of ?_
 refine penter Tryz.func67 fk67 rfl Tryz.ntmps67 Tryz.results67 rfl ?_
 refine yab (yaa ?_)
 refine ybl rfl rfl rfl (pl_box (cs := [.v (.int .i64 p0.ID), .v (.int .i64 p0.Kind), .v (.string p0.Prefix), .slc (List.map eS p0.Origins), .v (.int .i64 p0.Company), .v (.int .i64 p0.From), .v (.int .i64 p0.To), .v (.int .i64 p0.Registered), .v (.int .i64 p0.Duty.Rate), .v (.int .i64 p0.Duty.Amount), .v (.int .i64 p0.Duty.Per), .v (.bool p0.Duty.HasMost), .v (.int .i64 p0.Duty.Most), .v (.bool p0.Duty.HasLeast), .v (.int .i64 p0.Duty.Least)]) rfl rfl (fun b1 => ?_))
 refine zas (p := .v (.int .i64 0)) rfl rfl rfl rfl rfl ?_
 refine yad (yae (yab (yaa ?_)))
 refine zas (p := .v (.int .i64 21)) rfl rfl rfl rfl rfl ?_
 refine yad (yae (yab (yab (yaa ?_))))
 refine yah rfl rfl rfl (yac rfl rfl rfl rfl rfl (.p rfl)) ?_
 refine yah rfl rfl rfl (yag (p := .slc (List.map eS p0.Origins)) rfl (.p rfl) zm0 rfl) ?_
 refine yah rfl rfl rfl (pq_lenT (enc := eS) rfl rfl (.p rfl)) ?_
 refine yah rfl rfl rfl (yak rfl (.p rfl) (.p rfl) rfl) ?_
 refine yad (yae ?_)
 refine yaf h ?_; clear h; intro q3 hq3 h
 refine ybe (Y := (Unit) × (Int)) (fun (_, v2) => [(1, .v (.pointer (some ⟨b1, 0, none⟩))), (3, .v (.int .i64 v2))]) (fun (_, v2) => [PRes.b b1 46 [.v (.int .i64 p0.ID), .v (.int .i64 p0.Kind), .v (.string p0.Prefix), .slc (List.map eS p0.Origins), .v (.int .i64 p0.Company), .v (.int .i64 p0.From), .v (.int .i64 p0.To), .v (.int .i64 p0.Registered), .v (.int .i64 p0.Duty.Rate), .v (.int .i64 p0.Duty.Amount), .v (.int .i64 p0.Duty.Per), .v (.bool p0.Duty.HasMost), .v (.int .i64 p0.Duty.Most), .v (.bool p0.Duty.HasLeast), .v (.int .i64 p0.Duty.Least)]]) (fun (_, v2) => q3 = v2) ?_ ?_
 ·skip
  refine yal rfl (fun hc4 => ?_) (fun hc4 => ?_)
  ·replace hq3 := yav hc4 hq3
   refine yaa ?_
   refine yah rfl rfl rfl (yac rfl rfl rfl rfl rfl (.p rfl)) ?_
   refine yah rfl rfl rfl (yag (p := .slc (List.map eS p0.Origins)) rfl (.p rfl) zm0 rfl) ?_
   refine yah rfl rfl rfl (pq_lenT (enc := eS) rfl rfl (.p rfl)) ?_
   refine zas (p := .v (.int .i64 (p0.Origins.length : Int))) rfl rfl rfl rfl rfl ?_
   refine yad ?_
   obtain rfl := Option.some.inj hq3
   exact ybb ((), (p0.Origins.length : Int)) (zhc rfl (zhc rfl zhn)) (zsc zph zsn) rfl
  ·replace hq3 := yaw hc4 hq3
   refine yao ?_
   obtain rfl := Option.some.inj hq3
   exact ybb ((), 21) (zhc rfl (zhc rfl zhn)) (zsc zph zsn) rfl
 ·rintro ⟨_, v2⟩ τ hz; (try dsimp only at hz); subst q3; (try dsimp only at h); dsimp only [pupds]
  refine yab (yaa ?_)
  refine zas (p := .v (.int .i64 0)) rfl rfl rfl rfl rfl ?_
  refine yad (yae (yab (yab (yaa ?_))))
  refine yah rfl rfl rfl (yac rfl rfl rfl rfl rfl (.p rfl)) ?_
  refine yah rfl rfl rfl (yag (p := .v (.int .i64 p0.Company)) rfl (.p rfl) zm0 rfl) ?_
  refine yah rfl rfl rfl (yak rfl (.p rfl) (.p rfl) rfl) ?_
  refine yad (yae ?_)
  refine yaf h ?_; clear h; intro q6 hq6 h
  refine ybe (Y := (Unit) × (Int)) (fun (_, v5) => [(1, .v (.pointer (some ⟨b1, 0, none⟩))), (3, .v (.int .i64 v2)), (4, .v (.int .i64 v5))]) (fun (_, v5) => [PRes.b b1 46 [.v (.int .i64 p0.ID), .v (.int .i64 p0.Kind), .v (.string p0.Prefix), .slc (List.map eS p0.Origins), .v (.int .i64 p0.Company), .v (.int .i64 p0.From), .v (.int .i64 p0.To), .v (.int .i64 p0.Registered), .v (.int .i64 p0.Duty.Rate), .v (.int .i64 p0.Duty.Amount), .v (.int .i64 p0.Duty.Per), .v (.bool p0.Duty.HasMost), .v (.int .i64 p0.Duty.Most), .v (.bool p0.Duty.HasLeast), .v (.int .i64 p0.Duty.Least)]]) (fun (_, v5) => q6 = v5) ?_ ?_
  ·skip
   refine yal rfl (fun hc7 => ?_) (fun hc7 => ?_)
   ·replace hq6 := yav hc7 hq6
    refine yaa ?_
    refine zas (p := .v (.int .i64 1)) rfl rfl rfl rfl rfl ?_
    refine yad ?_
    obtain rfl := Option.some.inj hq6
    exact ybb ((), 1) (zhc rfl (zhc rfl (zhc rfl zhn))) (zsc zph zsn) rfl
   ·replace hq6 := yaw hc7 hq6
    refine yao ?_
    obtain rfl := Option.some.inj hq6
    exact ybb ((), 0) (zhc rfl (zhc rfl (zhc rfl zhn))) (zsc zph zsn) rfl
  ·rintro ⟨_, v5⟩ τ hz; (try dsimp only at hz); subst q6; (try dsimp only at h); dsimp only [pupds]
   refine yab (yaa ?_)
   refine yah rfl rfl rfl (yac rfl rfl rfl rfl rfl (.p rfl)) ?_
   refine yah rfl rfl rfl (yag (p := .v (.string p0.Prefix)) rfl (.p rfl) zm0 rfl) ?_
   refine yah rfl rfl rfl (pq_lenS rfl rfl (.p rfl)) ?_
   refine yah rfl rfl rfl (yas rfl (.p rfl) (.p rfl) rfl) ?_
   refine zmv (p := .v (.int .i64 v5)) rfl rfl rfl rfl rfl ?_
   refine yah rfl rfl rfl (yas rfl (.p rfl) (.p rfl) rfl) ?_
   refine yah rfl rfl rfl (yas rfl (.p rfl) (.p rfl) rfl) ?_
   refine yah rfl rfl rfl (yas rfl (.p rfl) (.p rfl) rfl) ?_
   refine zmv (p := .v (.int .i64 v2)) rfl rfl rfl rfl rfl ?_
   refine yah rfl rfl rfl (yas rfl (.p rfl) (.p rfl) rfl) ?_
   refine yah rfl rfl rfl (yas rfl (.p rfl) (.p rfl) rfl) ?_
   refine yah rfl rfl rfl (yac rfl rfl rfl rfl rfl (.p rfl)) ?_
   refine yah rfl rfl rfl (yag (p := .v (.int .i64 p0.ID)) rfl (.p rfl) zm0 rfl) ?_
   refine yah rfl rfl rfl (yas rfl (.p rfl) (.p rfl) rfl) ?_
   refine lb_elim h ?_; clear h; intro w8 hw8 h
   refine yah rfl rfl rfl (pq_assign rfl (.p (congrArg (fun z => PV.v (Value.int .i64 z)) hw8))) ?_
   refine yad (yae (yaq ?_))
   obtain rfl := Option.some.inj h
   exact yar (prv_1 (yat rfl)) zsn ⟨rfl, rfl⟩
def ref19_Of (p0 : (List TMeasure)) (p1 : Int) (p2 : ByteArray) (p3 : ByteArray) (p4 : Int) (p5 : Int) : Option (TMeasure × Bool) := Option.bind (loopF (S := ByteArray × Int × Int × Int × Int) (T := (Int)) (fun (v2, v3, v4, v5, v6) => cond (decide (v6 < (p0.length : Int))) (Option.bind (Option.bind (idx p0 v6) (fun m13 => Option.bind (gd (m13.Kind == p1) (idx p0 v6)) (fun m14 => Option.bind (gd (m13.Kind == p1) (ref19_Covers m14 p2 v2 v3 v4)) (fun x15 => Option.bind (gd (((m13.Kind == p1) && x15) && (!(decide (v5 < 0)))) (idx p0 v6)) (fun m16 => Option.bind (gd (((m13.Kind == p1) && x15) && (!(decide (v5 < 0)))) (idx p0 v5)) (fun m17 => Option.bind (gd (((m13.Kind == p1) && x15) && (!(decide (v5 < 0)))) (ref19_rank m16)) (fun x18 => Option.bind (gd (((m13.Kind == p1) && x15) && (!(decide (v5 < 0)))) (ref19_rank m17)) (fun x19 => cond (((m13.Kind == p1) && x15) && ((decide (v5 < 0)) || (decide (x19 < x18)))) (some v6) (some v5))))))))) (fun v11 => some (.inl (v2, v3, v4, v11, (IntKind.i64.wrap (v6 + 1)))))) (some (.inr v5))) FUEL (p3, p4, p5, (-1), 0)) (fun v7 => cond (decide (v7 < 0)) (some ((⟨0, 0, ByteArray.empty, [], 0, 0, 0, 0, (⟨0, 0, 0, false, 0, false, 0⟩ : TDuty)⟩ : TMeasure), false)) (Option.bind (idx p0 v7) (fun m22 => some (m22, true))))
set_option maxHeartbeats 4000000 in
theorem ref19_Of_ok {p0 : (List TMeasure)} {p1 : Int} {p2 : ByteArray} {p3 : ByteArray} {p4 : Int} {p5 : Int} {r : (TMeasure × Bool)}  (h : ref19_Of p0 p1 p2 p3 p4 p5 = some r) : PF 43 [.slc (List.map TMeasure.enc p0), .v (.int .i64 p1), .v (.string p2), .v (.string p3), .v (.int .i64 p4), .v (.int .i64 p5)] (.tup [.agg [.v (.int .i64 r.1.ID), .v (.int .i64 r.1.Kind), .v (.string r.1.Prefix), .slc (List.map eS r.1.Origins), .v (.int .i64 r.1.Company), .v (.int .i64 r.1.From), .v (.int .i64 r.1.To), .v (.int .i64 r.1.Registered), .v (.int .i64 r.1.Duty.Rate), .v (.int .i64 r.1.Duty.Amount), .v (.int .i64 r.1.Duty.Per), .v (.bool r.1.Duty.HasMost), .v (.int .i64 r.1.Duty.Most), .v (.bool r.1.Duty.HasLeast), .v (.int .i64 r.1.Duty.Least)], .v (.bool r.2)]) := by
 unfold ref19_Of at h
 refine pf_of ?_
 refine penter Tryz.func43 fk43 rfl Tryz.ntmps43 Tryz.results43 rfl ?_
 refine yab (yaa ?_)
 refine ybl rfl rfl rfl (pl_alloc (cs := [.v (.int .i64 0), .v (.int .i64 0), .v (.string ByteArray.empty), .v (.slice none 0 0), .v (.int .i64 0), .v (.int .i64 0), .v (.int .i64 0), .v (.int .i64 0), .v (.int .i64 0), .v (.int .i64 0), .v (.int .i64 0), .v (.bool false), .v (.int .i64 0), .v (.bool false), .v (.int .i64 0)]) rfl rfl rfl rfl (fun b1 => ?_))
 refine zas (p := .v (.bool false)) rfl rfl rfl rfl rfl ?_
 refine yad (yae (yab (yaa ?_)))
 refine zas (p := .v (.int .i64 (-1))) rfl rfl rfl rfl rfl ?_
 refine yad (yae (yab (yab (yaa ?_))))
 refine zas (p := .v (.int .i64 0)) rfl rfl rfl rfl rfl ?_
 refine yad (yae ?_)
 refine yaf h ?_; clear h; intro q9 hq9 h
 refine ybe (Y := (Unit) × (Int)) (fun (_, v7) => [(0, .slc (List.map TMeasure.enc p0)), (12, .v (.pointer (some ⟨b1, 0, none⟩))), (14, .v (.int .i64 v7))]) (fun (_, v7) => [PRes.b b1 46 [.v (.int .i64 0), .v (.int .i64 0), .v (.string ByteArray.empty), .v (.slice none 0 0), .v (.int .i64 0), .v (.int .i64 0), .v (.int .i64 0), .v (.int .i64 0), .v (.int .i64 0), .v (.int .i64 0), .v (.int .i64 0), .v (.bool false), .v (.int .i64 0), .v (.bool false), .v (.int .i64 0)]]) (fun (_, v7) => q9 = v7) ?_ ?_
 ·refine yaz ?_
  refine pwc_loopF (Y := Unit) (S := ByteArray × Int × Int × Int × Int) _ hq9 (fun _ (v2, v3, v4, v5, v6) => [(0, .slc (List.map TMeasure.enc p0)), (1, .v (.int .i64 p1)), (2, .v (.string p2)), (3, .v (.string v2)), (4, .v (.int .i64 v3)), (5, .v (.int .i64 v4)), (12, .v (.pointer (some ⟨b1, 0, none⟩))), (14, .v (.int .i64 v5)), (15, .v (.int .i64 v6))]) (fun _ (v2, v3, v4, v5, v6) => [PRes.b b1 46 [.v (.int .i64 0), .v (.int .i64 0), .v (.string ByteArray.empty), .v (.slice none 0 0), .v (.int .i64 0), .v (.int .i64 0), .v (.int .i64 0), .v (.int .i64 0), .v (.int .i64 0), .v (.int .i64 0), .v (.int .i64 0), .v (.bool false), .v (.int .i64 0), .v (.bool false), .v (.int .i64 0)]]) () (zhc rfl (zhc rfl (zhc rfl (zhc rfl (zhc rfl (zhc rfl (zhc rfl (zhc rfl (zhc rfl zhn))))))))) (zsc zph zsn) ?_
  rintro _ ⟨v2, v3, v4, v5, v6⟩ o τ hb8; (try dsimp only at hb8); dsimp only [pupds]
  refine yab (yab (yaa ?_))
  refine zmv (p := .v (.int .i64 v6)) rfl rfl rfl rfl rfl ?_
  refine zmv (p := .slc (List.map TMeasure.enc p0)) rfl rfl rfl rfl rfl ?_
  refine yah rfl rfl rfl (pq_lenT (enc := TMeasure.enc) rfl rfl (.p rfl)) ?_
  refine yah rfl rfl rfl (yak rfl (.p rfl) (.p rfl) rfl) ?_
  refine yad (yae ?_)
  refine yal rfl (fun hc10 => ?_) (fun hc10 => ?_)
  ·replace hb8 := yav hc10 hb8
   refine yao (yae (yab ?_))
   refine yaf hb8 ?_; clear hb8; intro q12 hq12 hb8
   refine ybe (Y := (Unit) × (Int)) (fun (_, v11) => [(0, .slc (List.map TMeasure.enc p0)), (1, .v (.int .i64 p1)), (2, .v (.string p2)), (3, .v (.string v2)), (4, .v (.int .i64 v3)), (5, .v (.int .i64 v4)), (12, .v (.pointer (some ⟨b1, 0, none⟩))), (14, .v (.int .i64 v11)), (15, .v (.int .i64 v6))]) (fun (_, v11) => [PRes.b b1 46 [.v (.int .i64 0), .v (.int .i64 0), .v (.string ByteArray.empty), .v (.slice none 0 0), .v (.int .i64 0), .v (.int .i64 0), .v (.int .i64 0), .v (.int .i64 0), .v (.int .i64 0), .v (.int .i64 0), .v (.int .i64 0), .v (.bool false), .v (.int .i64 0), .v (.bool false), .v (.int .i64 0)]]) (fun (_, v11) => q12 = v11) ?_ ?_
   ·skip
    refine yaz (yab ?_)
    refine pwc_draw (ρd := []) [(0, 0), (1, 0), (2, 0), (3, 0), (4, 0), (5, 0), (6, 0), (7, 0), (8, 0), (9, 0), (10, 0), (11, 0), (12, 0), (13, 0), (14, 0), (15, 0), (16, 1), (17, 0), (18, 0), (19, 0), (20, 0), (21, 0), (22, 0), (23, 0), (24, 0), (25, 0), (27, 0), (28, 0), (29, 0), (30, 0), (26, 1), (31, 1), (32, 0), (33, 0), (34, 0)] _ (List.Perm.refl _) (by kernel_rfl) rfl ?_
    refine ybf rfl rfl rfl (yam (p := .slc (List.map TMeasure.enc p0)) rfl (.p rfl)) ?_
    refine ybf rfl rfl rfl (yam (p := .v (.int .i64 v6)) rfl (.p rfl)) ?_
    refine yaf hq12 ?_; clear hq12; intro m13 hm13 hq12
    refine ybf rfl rfl rfl (pq_index (enc := TMeasure.enc) rfl rfl rfl (fun _ => rfl) (.p rfl) (.p rfl) (fun _ => hm13)) ?_
    refine ybf rfl rfl rfl (pq_fieldAddrR rfl rfl rfl rfl rfl (.p rfl)) ?_
    refine ybf rfl rfl rfl (pq_load_r (p := .v (.int .i64 m13.Kind)) rfl (.p rfl) rfl) ?_
    refine ybf rfl rfl rfl (yam (p := .v (.int .i64 p1)) rfl (.p rfl)) ?_
    refine ybf rfl rfl rfl (yak rfl (.p rfl) (.p rfl) rfl) ?_
    refine ybf rfl rfl rfl (yam (p := .v (.bool (m13.Kind == p1))) rfl (.p rfl)) ?_
    refine ybi (yan rfl rfl rfl) rfl rfl (yam (p := .slc (List.map TMeasure.enc p0)) rfl (.p rfl)) ?_
    refine ybi (yan rfl rfl rfl) rfl rfl (yam (p := .v (.int .i64 v6)) rfl (.p rfl)) ?_
    refine yaf hq12 ?_; clear hq12; intro m14 hm14 hq12
    refine ybi (yan rfl rfl rfl) rfl rfl (pq_index (enc := TMeasure.enc) rfl rfl rfl (fun _ => rfl) (.g rfl) (.g rfl) (gd_t hm14)) ?_
    refine ybi (yan rfl rfl rfl) rfl rfl (pq_load_r (p := .agg [.v (.int .i64 m14.ID), .v (.int .i64 m14.Kind), .v (.string m14.Prefix), .slc (List.map eS m14.Origins), .v (.int .i64 m14.Company), .v (.int .i64 m14.From), .v (.int .i64 m14.To), .v (.int .i64 m14.Registered), .v (.int .i64 m14.Duty.Rate), .v (.int .i64 m14.Duty.Amount), .v (.int .i64 m14.Duty.Per), .v (.bool m14.Duty.HasMost), .v (.int .i64 m14.Duty.Most), .v (.bool m14.Duty.HasLeast), .v (.int .i64 m14.Duty.Least)]) rfl (.g rfl) rfl) ?_
    refine ybi (yan rfl rfl rfl) rfl rfl (yam (p := .v (.string p2)) rfl (.p rfl)) ?_
    refine ybi (yan rfl rfl rfl) rfl rfl (yam (p := .v (.string v2)) rfl (.p rfl)) ?_
    refine ybi (yan rfl rfl rfl) rfl rfl (yam (p := .v (.int .i64 v3)) rfl (.p rfl)) ?_
    refine ybi (yan rfl rfl rfl) rfl rfl (yam (p := .v (.int .i64 v4)) rfl (.p rfl)) ?_
    refine yaf hq12 ?_; clear hq12; intro x15 hx15 hq12
    refine pwd_callg (yan rfl rfl rfl) rfl rfl rfl (ybg (.g rfl) (ybg (.g rfl) (ybg (.g rfl) (ybg (.g rfl) (ybg (.g rfl) (pargs_nil)))))) (fun hc => ref19_Covers_ok (gd_t hx15 hc)) ?_
    refine ybf rfl rfl rfl (pq_and rfl (.p rfl) (.p rfl) (.g rfl)) ?_
    refine ybf rfl rfl rfl (yam (p := .v (.bool ((m13.Kind == p1) && x15))) rfl (.p rfl)) ?_
    refine ybi (yan rfl rfl rfl) rfl rfl (yam (p := .v (.int .i64 v5)) rfl (.p rfl)) ?_
    refine ybi (yan rfl rfl rfl) rfl rfl (yak rfl (.g rfl) (.p rfl) rfl) ?_
    refine ybi (yan rfl rfl rfl) rfl rfl (yam (p := .v (.bool (decide (v5 < 0)))) rfl (.g rfl)) ?_
    refine ybi (pguard_gf rfl rfl rfl) rfl rfl (yam (p := .slc (List.map TMeasure.enc p0)) rfl (.p rfl)) ?_
    refine ybi (pguard_gf rfl rfl rfl) rfl rfl (yam (p := .v (.int .i64 v6)) rfl (.p rfl)) ?_
    refine yaf hq12 ?_; clear hq12; intro m16 hm16 hq12
    refine ybi (pguard_gf rfl rfl rfl) rfl rfl (pq_index (enc := TMeasure.enc) rfl rfl rfl (fun _ => rfl) (.g rfl) (.g rfl) (gd_t hm16)) ?_
    refine ybi (pguard_gf rfl rfl rfl) rfl rfl (pq_load_r (p := .agg [.v (.int .i64 m16.ID), .v (.int .i64 m16.Kind), .v (.string m16.Prefix), .slc (List.map eS m16.Origins), .v (.int .i64 m16.Company), .v (.int .i64 m16.From), .v (.int .i64 m16.To), .v (.int .i64 m16.Registered), .v (.int .i64 m16.Duty.Rate), .v (.int .i64 m16.Duty.Amount), .v (.int .i64 m16.Duty.Per), .v (.bool m16.Duty.HasMost), .v (.int .i64 m16.Duty.Most), .v (.bool m16.Duty.HasLeast), .v (.int .i64 m16.Duty.Least)]) rfl (.g rfl) rfl) ?_
    refine ybi (pguard_gf rfl rfl rfl) rfl rfl (yam (p := .slc (List.map TMeasure.enc p0)) rfl (.p rfl)) ?_
    refine ybi (pguard_gf rfl rfl rfl) rfl rfl (yam (p := .v (.int .i64 v5)) rfl (.p rfl)) ?_
    refine yaf hq12 ?_; clear hq12; intro m17 hm17 hq12
    refine ybi (pguard_gf rfl rfl rfl) rfl rfl (pq_index (enc := TMeasure.enc) rfl rfl rfl (fun _ => rfl) (.g rfl) (.g rfl) (gd_t hm17)) ?_
    refine ybi (pguard_gf rfl rfl rfl) rfl rfl (pq_load_r (p := .agg [.v (.int .i64 m17.ID), .v (.int .i64 m17.Kind), .v (.string m17.Prefix), .slc (List.map eS m17.Origins), .v (.int .i64 m17.Company), .v (.int .i64 m17.From), .v (.int .i64 m17.To), .v (.int .i64 m17.Registered), .v (.int .i64 m17.Duty.Rate), .v (.int .i64 m17.Duty.Amount), .v (.int .i64 m17.Duty.Per), .v (.bool m17.Duty.HasMost), .v (.int .i64 m17.Duty.Most), .v (.bool m17.Duty.HasLeast), .v (.int .i64 m17.Duty.Least)]) rfl (.g rfl) rfl) ?_
    refine yaf hq12 ?_; clear hq12; intro x18 hx18 hq12
    refine pwd_callg (pguard_gf rfl rfl rfl) rfl rfl rfl (ybg (.g rfl) (pargs_nil)) (fun hc => ref19_rank_ok (gd_t hx18 hc)) ?_
    refine yaf hq12 ?_; clear hq12; intro x19 hx19 hq12
    refine pwd_callg (pguard_gf rfl rfl rfl) rfl rfl rfl (ybg (.g rfl) (pargs_nil)) (fun hc => ref19_rank_ok (gd_t hx19 hc)) ?_
    refine ybi (pguard_gf rfl rfl rfl) rfl rfl (yak rfl (.g rfl) (.g rfl) rfl) ?_
    refine ybi (yan rfl rfl rfl) rfl rfl (pq_or rfl (.g rfl) (.p rfl) (.g rfl)) ?_
    refine ybf rfl rfl rfl (pq_and rfl (.p rfl) (.p rfl) (.g rfl)) ?_
    refine pwd_nil (yae ?_)
    refine yal rfl (fun hc20 => ?_) (fun hc20 => ?_)
    ·replace hq12 := yav hc20 hq12
     refine yaa ?_
     refine zmv (p := .v (.int .i64 v6)) rfl rfl rfl rfl rfl ?_
     refine zas (p := .v (.int .i64 v6)) rfl rfl rfl rfl rfl ?_
     refine yad (ybc ?_)
     obtain rfl := Option.some.inj hq12
     exact ybb ((), v6) (zhc rfl (zhc rfl (zhc rfl (zhc rfl (zhc rfl (zhc rfl (zhc rfl (zhc rfl (zhc rfl zhn))))))))) (zsc zph zsn) rfl
    ·replace hq12 := yaw hc20 hq12
     refine yao (ybc ?_)
     obtain rfl := Option.some.inj hq12
     exact ybb ((), v5) (zhc rfl (zhc rfl (zhc rfl (zhc rfl (zhc rfl (zhc rfl (zhc rfl (zhc rfl (zhc rfl zhn))))))))) (zsc zph zsn) rfl
   ·rintro ⟨_, v11⟩ τ hz; (try dsimp only at hz); subst q12; (try dsimp only at hb8); dsimp only [pupds]
    refine yaa ?_
    refine zmv (p := .v (.int .i64 v6)) rfl rfl rfl rfl rfl ?_
    refine yah rfl rfl rfl (yas rfl (.p rfl) (.p rfl) rfl) ?_
    refine zas (p := .v (.int .i64 (IntKind.i64.wrap (v6 + 1)))) rfl rfl rfl rfl rfl ?_
    refine yad ?_
    exact pk_loop hb8 () (zhc rfl (zhc rfl (zhc rfl (zhc rfl (zhc rfl (zhc rfl (zhc rfl (zhc rfl (zhc rfl zhn))))))))) (zsc zph zsn)
  ·replace hb8 := yaw hc10 hb8
   refine pwc_exit (ybm ?_)
   refine ybh hb8 (fun ht => ?_)
   refine ybj rfl ?_
   exact ybb ((), v5) (zhc rfl (zhc rfl (zhc rfl zhn))) (zsc zph zsn) ht.symm
 ·rintro ⟨_, v7⟩ τ hz; (try dsimp only at hz); subst q9; (try dsimp only at h); dsimp only [pupds]
  refine yab (yab (yaa ?_))
  refine zmv (p := .v (.int .i64 v7)) rfl rfl rfl rfl rfl ?_
  refine yah rfl rfl rfl (yak rfl (.p rfl) (.p rfl) rfl) ?_
  refine yad (yae ?_)
  refine yal rfl (fun hc21 => ?_) (fun hc21 => ?_)
  ·replace h := yav hc21 h
   refine yab (yaa ?_)
   refine yah rfl rfl rfl (pq_build (cs := [.v (.int .i64 0), .v (.int .i64 0), .v (.string ByteArray.empty), .v (.slice none 0 0), .v (.int .i64 0), .v (.int .i64 0), .v (.int .i64 0), .v (.int .i64 0), .v (.int .i64 0), .v (.int .i64 0), .v (.int .i64 0), .v (.bool false), .v (.int .i64 0), .v (.bool false), .v (.int .i64 0)]) rfl rfl rfl rfl rfl rfl rfl zfn) ?_
   refine pwl_l0 rfl rfl (yax (vs := [.v (.int .i64 0), .v (.int .i64 0), .v (.string ByteArray.empty), .v (.slice none 0 0), .v (.int .i64 0), .v (.int .i64 0), .v (.int .i64 0), .v (.int .i64 0), .v (.int .i64 0), .v (.int .i64 0), .v (.int .i64 0), .v (.bool false), .v (.int .i64 0), .v (.bool false), .v (.int .i64 0)]) rfl rfl rfl rfl rfl zuh (zlc (zlc (zlc (zlc (zlc (zlc (zlc (zlc (zlc (zlc (zlc (zlc (zlc (zlc (zlc zln))))))))))))))) ?_)
   refine zas (p := .v (.bool false)) rfl rfl rfl rfl rfl ?_
   refine yad (yae ?_)
   refine pwc_nilb (k := 3) (b := b1) rfl zuh ?_
   refine yaq (yap ?_)
   obtain rfl := Option.some.inj h
   exact yar (prv_2 (prv1_c rfl zm0 rfl) (yat rfl)) zsn ⟨rfl, rfl⟩
  ·replace h := yaw hc21 h
   refine yao (yae (yab (yaa ?_)))
   refine zmv (p := .slc (List.map TMeasure.enc p0)) rfl rfl rfl rfl rfl ?_
   refine zmv (p := .v (.int .i64 v7)) rfl rfl rfl rfl rfl ?_
   refine yaf h ?_; clear h; intro m22 hm22 h
   refine yah rfl rfl rfl (pq_index (enc := TMeasure.enc) rfl rfl rfl (fun _ => rfl) (.p rfl) (.p rfl) (fun _ => hm22)) ?_
   refine yah rfl rfl rfl (pq_load_r (p := .agg [.v (.int .i64 m22.ID), .v (.int .i64 m22.Kind), .v (.string m22.Prefix), .slc (List.map eS m22.Origins), .v (.int .i64 m22.Company), .v (.int .i64 m22.From), .v (.int .i64 m22.To), .v (.int .i64 m22.Registered), .v (.int .i64 m22.Duty.Rate), .v (.int .i64 m22.Duty.Amount), .v (.int .i64 m22.Duty.Per), .v (.bool m22.Duty.HasMost), .v (.int .i64 m22.Duty.Most), .v (.bool m22.Duty.HasLeast), .v (.int .i64 m22.Duty.Least)]) rfl (.p rfl) rfl) ?_
   refine pwl_l0 rfl rfl (yax (vs := [.v (.int .i64 m22.ID), .v (.int .i64 m22.Kind), .v (.string m22.Prefix), .slc (List.map eS m22.Origins), .v (.int .i64 m22.Company), .v (.int .i64 m22.From), .v (.int .i64 m22.To), .v (.int .i64 m22.Registered), .v (.int .i64 m22.Duty.Rate), .v (.int .i64 m22.Duty.Amount), .v (.int .i64 m22.Duty.Per), .v (.bool m22.Duty.HasMost), .v (.int .i64 m22.Duty.Most), .v (.bool m22.Duty.HasLeast), .v (.int .i64 m22.Duty.Least)]) rfl rfl rfl rfl rfl zuh (zlc (zlc (zlc (zlc (zlc (zlc (zlc (zlc (zlc (zlc (zlc (zlc (zlc (zlc (zlc zln))))))))))))))) ?_)
   refine zas (p := .v (.bool true)) rfl rfl rfl rfl rfl ?_
   refine yad (yae (yaq ?_))
   obtain rfl := Option.some.inj h
   exact yar (prv_2 (prv1_c rfl zm0 rfl) (yat rfl)) zsn ⟨rfl, rfl⟩
def ref17_scaled (p0 : Int) (p1 : Int) (p2 : Int) : Option Tref01_Wide := Option.bind (ref01_Mul (IntKind.u64.wrap ((IntKind.u64.wrap p0) * (IntKind.u64.wrap p1))) (IntKind.u64.wrap p2)) (fun x2 => some x2)
set_option maxHeartbeats 4000000 in
theorem ref17_scaled_ok {p0 : Int} {p1 : Int} {p2 : Int} {r : Tref01_Wide}  (h : ref17_scaled p0 p1 p2 = some r) : PF 71 [.v (.int .i64 p0), .v (.int .i64 p1), .v (.int .i64 p2)] (.agg [.v (.int .u64 r.Hi), .v (.int .u64 r.Lo)]) := by
 unfold ref17_scaled at h
 refine pf_of ?_
 refine penter Tryz.func71 fk71 rfl Tryz.ntmps71 Tryz.results71 rfl ?_
 refine yab (yaa ?_)
 refine ybl rfl rfl rfl (pl_alloc (cs := [.v (.int .u64 0), .v (.int .u64 0)]) rfl rfl rfl rfl (fun b1 => ?_))
 refine yad (yae (yab (yaa ?_)))
 refine zmv (p := .v (.int .i64 p0)) rfl rfl rfl rfl rfl ?_
 refine yah rfl rfl rfl (pq_conv rfl rfl rfl (.p rfl)) ?_
 refine zmv (p := .v (.int .i64 p1)) rfl rfl rfl rfl rfl ?_
 refine yah rfl rfl rfl (pq_conv rfl rfl rfl (.p rfl)) ?_
 refine yah rfl rfl rfl (yas rfl (.p rfl) (.p rfl) rfl) ?_
 refine zmv (p := .v (.int .i64 p2)) rfl rfl rfl rfl rfl ?_
 refine yah rfl rfl rfl (pq_conv rfl rfl rfl (.p rfl)) ?_
 refine yaf h ?_; clear h; intro x2 hx2 h
 refine ybd rfl rfl rfl rfl rfl (ref01_Mul_ok hx2) ?_
 refine pwl_l0 rfl rfl (yax (vs := [.v (.int .u64 x2.Hi), .v (.int .u64 x2.Lo)]) rfl rfl rfl rfl rfl zuh (zlc (zlc zln)) ?_)
 refine yad (yae (yaq ?_))
 obtain rfl := Option.some.inj h
 exact yar (prv_1 (prv1_c rfl zm0 rfl)) zsn ⟨rfl, rfl⟩
def ref01_Less (p0 : Tref01_Wide) (p1 : Tref01_Wide) : Option Bool := some ((decide (p0.Hi < p1.Hi)) || ((p0.Hi == p1.Hi) && (decide (p0.Lo < p1.Lo))))
set_option maxHeartbeats 4000000 in
theorem ref01_Less_ok {p0 : Tref01_Wide} {p1 : Tref01_Wide} {r : Bool}  (h : ref01_Less p0 p1 = some r) : PF 72 [.agg [.v (.int .u64 p0.Hi), .v (.int .u64 p0.Lo)], .agg [.v (.int .u64 p1.Hi), .v (.int .u64 p1.Lo)]] (.v (.bool r)) := by
 unfold ref01_Less at h
 refine pf_of ?_
 refine penter Tryz.func72 fk72 rfl Tryz.ntmps72 Tryz.results72 rfl ?_
 refine yab (yaa ?_)
 refine ybl rfl rfl rfl (pl_box (cs := [.v (.int .u64 p0.Hi), .v (.int .u64 p0.Lo)]) rfl rfl (fun b1 => ?_))
 refine ybl rfl rfl rfl (pl_box (cs := [.v (.int .u64 p1.Hi), .v (.int .u64 p1.Lo)]) rfl rfl (fun b2 => ?_))
 refine zas (p := .v (.bool false)) rfl rfl rfl rfl rfl ?_
 refine yad (yae (yab (yaa ?_)))
 refine yah rfl rfl rfl (yac rfl rfl rfl rfl rfl (.p rfl)) ?_
 refine yah rfl rfl rfl (yag (p := .v (.int .u64 p0.Hi)) rfl (.p rfl) zm1 rfl) ?_
 refine yah rfl rfl rfl (yac rfl rfl rfl rfl rfl (.p rfl)) ?_
 refine yah rfl rfl rfl (yag (p := .v (.int .u64 p1.Hi)) rfl (.p rfl) zm0 rfl) ?_
 refine yah rfl rfl rfl (yak rfl (.p rfl) (.p rfl) rfl) ?_
 refine zmv (p := .v (.bool (decide (p0.Hi < p1.Hi)))) rfl rfl rfl rfl rfl ?_
 refine yaj (yai rfl rfl rfl) rfl rfl (yac rfl rfl rfl rfl rfl (.p rfl)) ?_
 refine yaj (yai rfl rfl rfl) rfl rfl (yag (p := .v (.int .u64 p0.Hi)) rfl (.g rfl) zm1 rfl) ?_
 refine yaj (yai rfl rfl rfl) rfl rfl (yac rfl rfl rfl rfl rfl (.p rfl)) ?_
 refine yaj (yai rfl rfl rfl) rfl rfl (yag (p := .v (.int .u64 p1.Hi)) rfl (.g rfl) zm0 rfl) ?_
 refine yaj (yai rfl rfl rfl) rfl rfl (yak rfl (.g rfl) (.g rfl) rfl) ?_
 refine yaj (yai rfl rfl rfl) rfl rfl (yam (p := .v (.bool (p0.Hi == p1.Hi))) rfl (.g rfl)) ?_
 refine yaj (yay rfl rfl rfl) rfl rfl (yac rfl rfl rfl rfl rfl (.p rfl)) ?_
 refine yaj (yay rfl rfl rfl) rfl rfl (yag (p := .v (.int .u64 p0.Lo)) rfl (.g rfl) zm1 rfl) ?_
 refine yaj (yay rfl rfl rfl) rfl rfl (yac rfl rfl rfl rfl rfl (.p rfl)) ?_
 refine yaj (yay rfl rfl rfl) rfl rfl (yag (p := .v (.int .u64 p1.Lo)) rfl (.g rfl) zm0 rfl) ?_
 refine yaj (yay rfl rfl rfl) rfl rfl (yak rfl (.g rfl) (.g rfl) rfl) ?_
 refine yaj (yai rfl rfl rfl) rfl rfl (pq_and rfl (.g rfl) (.p rfl) (.g rfl)) ?_
 refine yah rfl rfl rfl (pq_or rfl (.p rfl) (.p rfl) (.g rfl)) ?_
 refine zas (p := .v (.bool ((decide (p0.Hi < p1.Hi)) || ((p0.Hi == p1.Hi) && (decide (p0.Lo < p1.Lo)))))) rfl rfl rfl rfl rfl ?_
 refine yad (yae (yaq ?_))
 obtain rfl := Option.some.inj h
 exact yar (prv_1 (yat rfl)) zsn ⟨rfl, rfl⟩
def ref01_Div (p0 : Tref01_Wide) (p1 : Int) (p2 : Int) : Option (Int × Int) := cond (((p1 == 0) || (decide (p2 < 0))) || (decide (3 < p2))) (some (0, 2)) (Option.bind (ref01_DivMod p0 p1) (fun x3 => Option.bind (cond (p2 == 1) (some (decide (0 < x3.2))) (cond (p2 == 2) (some (decide ((IntKind.u64.wrap (p1 - x3.2)) ≤ x3.2))) (cond (p2 == 3) (some ((decide ((IntKind.u64.wrap (p1 - x3.2)) < x3.2)) || ((x3.2 == (IntKind.u64.wrap (p1 - x3.2))) && ((iand .u64 x3.1.Lo 1) == 1)))) (some false)))) (fun v5 => Option.bind (cond v5 (Option.bind (ref01_Add x3.1 (⟨0, 1⟩ : Tref01_Wide)) (fun x14 => some (x14.1.Hi, x14.1.Lo))) (some (x3.1.Hi, x3.1.Lo))) (fun (v10, v11) => cond (decide (0 < v10)) (some (0, 3)) (some (v11, 0))))))
set_option maxHeartbeats 4000000 in
theorem ref01_Div_ok {p0 : Tref01_Wide} {p1 : Int} {p2 : Int} {r : (Int × Int)}  (h : ref01_Div p0 p1 p2 = some r) : PF 73 [.agg [.v (.int .u64 p0.Hi), .v (.int .u64 p0.Lo)], .v (.int .u64 p1), .v (.int .i64 p2)] (.tup [.v (.int .u64 r.1), .v (.int .i64 r.2)]) := by
 unfold ref01_Div at h
 refine pf_of ?_
 refine penter Tryz.func73 fk73 rfl Tryz.ntmps73 Tryz.results73 rfl ?_
 refine yab (yaa ?_)
 refine ybl rfl rfl rfl (pl_box (cs := [.v (.int .u64 p0.Hi), .v (.int .u64 p0.Lo)]) rfl rfl (fun b1 => ?_))
 refine zas (p := .v (.int .u64 0)) rfl rfl rfl rfl rfl ?_
 refine zas (p := .v (.int .i64 0)) rfl rfl rfl rfl rfl ?_
 refine yad (yae (yab (yab (yaa ?_))))
 refine zmv (p := .v (.int .u64 p1)) rfl rfl rfl rfl rfl ?_
 refine yah rfl rfl rfl (yak rfl (.p rfl) (.p rfl) rfl) ?_
 refine zmv (p := .v (.bool (p1 == 0))) rfl rfl rfl rfl rfl ?_
 refine yaj (yai rfl rfl rfl) rfl rfl (yam (p := .v (.int .i64 p2)) rfl (.p rfl)) ?_
 refine yaj (yai rfl rfl rfl) rfl rfl (yak rfl (.g rfl) (.p rfl) rfl) ?_
 refine yah rfl rfl rfl (pq_or rfl (.p rfl) (.p rfl) (.g rfl)) ?_
 refine zmv (p := .v (.bool ((p1 == 0) || (decide (p2 < 0))))) rfl rfl rfl rfl rfl ?_
 refine yaj (yai rfl rfl rfl) rfl rfl (yam (p := .v (.int .i64 p2)) rfl (.p rfl)) ?_
 refine yaj (yai rfl rfl rfl) rfl rfl (yak rfl (.g rfl) (.p rfl) rfl) ?_
 refine yah rfl rfl rfl (pq_or rfl (.p rfl) (.p rfl) (.g rfl)) ?_
 refine yad (yae ?_)
 refine yal rfl (fun hc2 => ?_) (fun hc2 => ?_)
 ·replace h := yav hc2 h
  refine yab (yaa ?_)
  refine zas (p := .v (.int .u64 0)) rfl rfl rfl rfl rfl ?_
  refine zas (p := .v (.int .i64 2)) rfl rfl rfl rfl rfl ?_
  refine yad (yae (yaq (yap ?_)))
  obtain rfl := Option.some.inj h
  exact yar (prv_2 (yat rfl) (yat rfl)) zsn ⟨rfl, rfl⟩
 ·replace h := yaw hc2 h
  refine yao (yae (yab (yaa ?_)))
  refine yah rfl rfl rfl (yag (p := .agg [.v (.int .u64 p0.Hi), .v (.int .u64 p0.Lo)]) rfl (.p rfl) zm0 rfl) ?_
  refine zmv (p := .v (.int .u64 p1)) rfl rfl rfl rfl rfl ?_
  refine yaf h ?_; clear h; intro x3 hx3 h
  refine ybd rfl rfl rfl rfl rfl (ref01_DivMod_ok hx3) ?_
  refine zmv (p := .tup [.agg [.v (.int .u64 x3.1.Hi), .v (.int .u64 x3.1.Lo)], .v (.int .u64 x3.2)]) rfl rfl rfl rfl rfl ?_
  refine zex (p := .agg [.v (.int .u64 x3.1.Hi), .v (.int .u64 x3.1.Lo)]) rfl rfl rfl rfl rfl rfl ?_
  refine zex (p := .v (.int .u64 x3.2)) rfl rfl rfl rfl rfl rfl ?_
  refine ybl rfl rfl rfl (pl_alloc (cs := [.v (.int .u64 0), .v (.int .u64 0)]) rfl rfl rfl rfl (fun b4 => ?_))
  refine pwl_l0 rfl rfl (yax (vs := [.v (.int .u64 x3.1.Hi), .v (.int .u64 x3.1.Lo)]) rfl rfl rfl rfl rfl zuh (zlc (zlc zln)) ?_)
  refine zas (p := .v (.int .u64 x3.2)) rfl rfl rfl rfl rfl ?_
  refine yad (yae (yab (yaa ?_)))
  refine zas (p := .v (.bool false)) rfl rfl rfl rfl rfl ?_
  refine yad (yae (yab (yab (yaa ?_))))
  refine zmv (p := .v (.int .i64 p2)) rfl rfl rfl rfl rfl ?_
  refine yad (yae ?_)
  refine yaf h ?_; clear h; intro q6 hq6 h
  refine ybe (Y := (Unit) × (Bool)) (fun (_, v5) => [(8, .v (.pointer (some ⟨b4, 0, none⟩))), (10, .v (.bool v5))]) (fun (_, v5) => [PRes.b b4 109 [.v (.int .u64 x3.1.Hi), .v (.int .u64 x3.1.Lo)]]) (fun (_, v5) => q6 = v5) ?_ ?_
  ·skip
   refine yaz (yab (yaa ?_))
   refine yah rfl rfl rfl (yak rfl (.p rfl) (.p rfl) rfl) ?_
   refine zas (p := .v (.bool (p2 == 1))) rfl rfl rfl rfl rfl ?_
   refine yad (yae ?_)
   refine yal rfl (fun hc7 => ?_) (fun hc7 => ?_)
   ·replace hq6 := yav hc7 hq6
    refine yaa ?_
    refine zmv (p := .v (.int .u64 x3.2)) rfl rfl rfl rfl rfl ?_
    refine yah rfl rfl rfl (yak rfl (.p rfl) (.p rfl) rfl) ?_
    refine zas (p := .v (.bool (decide (0 < x3.2)))) rfl rfl rfl rfl rfl ?_
    refine yad (ybc ?_)
    obtain rfl := Option.some.inj hq6
    exact ybb ((), (decide (0 < x3.2))) (zhc rfl (zhc rfl zhn)) (zsc zph zsn) rfl
   ·replace hq6 := yaw hc7 hq6
    refine yab (yaa ?_)
    refine yah rfl rfl rfl (yak rfl (.p rfl) (.p rfl) rfl) ?_
    refine zas (p := .v (.bool (p2 == 2))) rfl rfl rfl rfl rfl ?_
    refine yad (yae ?_)
    refine yal rfl (fun hc8 => ?_) (fun hc8 => ?_)
    ·replace hq6 := yav hc8 hq6
     refine yaa ?_
     refine zmv (p := .v (.int .u64 x3.2)) rfl rfl rfl rfl rfl ?_
     refine zmv (p := .v (.int .u64 p1)) rfl rfl rfl rfl rfl ?_
     refine zmv (p := .v (.int .u64 x3.2)) rfl rfl rfl rfl rfl ?_
     refine yah rfl rfl rfl (yas rfl (.p rfl) (.p rfl) rfl) ?_
     refine yah rfl rfl rfl (yak rfl (.p rfl) (.p rfl) rfl) ?_
     refine zas (p := .v (.bool (decide ((IntKind.u64.wrap (p1 - x3.2)) ≤ x3.2)))) rfl rfl rfl rfl rfl ?_
     refine yad (ybc ?_)
     obtain rfl := Option.some.inj hq6
     exact ybb ((), (decide ((IntKind.u64.wrap (p1 - x3.2)) ≤ x3.2))) (zhc rfl (zhc rfl zhn)) (zsc zph zsn) rfl
    ·replace hq6 := yaw hc8 hq6
     refine yab (yaa ?_)
     refine yah rfl rfl rfl (yak rfl (.p rfl) (.p rfl) rfl) ?_
     refine zas (p := .v (.bool (p2 == 3))) rfl rfl rfl rfl rfl ?_
     refine yad (yae ?_)
     refine yal rfl (fun hc9 => ?_) (fun hc9 => ?_)
     ·replace hq6 := yav hc9 hq6
      refine yaa ?_
      refine zmv (p := .v (.int .u64 x3.2)) rfl rfl rfl rfl rfl ?_
      refine zmv (p := .v (.int .u64 p1)) rfl rfl rfl rfl rfl ?_
      refine zmv (p := .v (.int .u64 x3.2)) rfl rfl rfl rfl rfl ?_
      refine yah rfl rfl rfl (yas rfl (.p rfl) (.p rfl) rfl) ?_
      refine yah rfl rfl rfl (yak rfl (.p rfl) (.p rfl) rfl) ?_
      refine zmv (p := .v (.bool (decide ((IntKind.u64.wrap (p1 - x3.2)) < x3.2)))) rfl rfl rfl rfl rfl ?_
      refine yaj (yai rfl rfl rfl) rfl rfl (yam (p := .v (.int .u64 x3.2)) rfl (.p rfl)) ?_
      refine yaj (yai rfl rfl rfl) rfl rfl (yam (p := .v (.int .u64 p1)) rfl (.p rfl)) ?_
      refine yaj (yai rfl rfl rfl) rfl rfl (yam (p := .v (.int .u64 x3.2)) rfl (.p rfl)) ?_
      refine yaj (yai rfl rfl rfl) rfl rfl (yas rfl (.g rfl) (.g rfl) rfl) ?_
      refine yaj (yai rfl rfl rfl) rfl rfl (yak rfl (.g rfl) (.g rfl) rfl) ?_
      refine yaj (yai rfl rfl rfl) rfl rfl (yam (p := .v (.bool (x3.2 == (IntKind.u64.wrap (p1 - x3.2))))) rfl (.g rfl)) ?_
      refine yaj (yay rfl rfl rfl) rfl rfl (yac rfl rfl rfl rfl rfl (.p rfl)) ?_
      refine yaj (yay rfl rfl rfl) rfl rfl (yag (p := .v (.int .u64 x3.1.Lo)) rfl (.g rfl) zm0 rfl) ?_
      refine yaj (yay rfl rfl rfl) rfl rfl (pq_bits rfl (.g rfl) (.p rfl) rfl) ?_
      refine yaj (yay rfl rfl rfl) rfl rfl (yak rfl (.g rfl) (.p rfl) rfl) ?_
      refine yaj (yai rfl rfl rfl) rfl rfl (pq_and rfl (.g rfl) (.p rfl) (.g rfl)) ?_
      refine yah rfl rfl rfl (pq_or rfl (.p rfl) (.p rfl) (.g rfl)) ?_
      refine zas (p := .v (.bool ((decide ((IntKind.u64.wrap (p1 - x3.2)) < x3.2)) || ((x3.2 == (IntKind.u64.wrap (p1 - x3.2))) && ((iand .u64 x3.1.Lo 1) == 1))))) rfl rfl rfl rfl rfl ?_
      refine yad (ybc ?_)
      obtain rfl := Option.some.inj hq6
      exact ybb ((), ((decide ((IntKind.u64.wrap (p1 - x3.2)) < x3.2)) || ((x3.2 == (IntKind.u64.wrap (p1 - x3.2))) && ((iand .u64 x3.1.Lo 1) == 1)))) (zhc rfl (zhc rfl zhn)) (zsc zph zsn) rfl
     ·replace hq6 := yaw hc9 hq6
      refine yao (ybc ?_)
      obtain rfl := Option.some.inj hq6
      exact ybb ((), false) (zhc rfl (zhc rfl zhn)) (zsc zph zsn) rfl
  ·rintro ⟨_, v5⟩ τ hz; (try dsimp only at hz); subst q6; (try dsimp only at h); dsimp only [pupds]
   refine yab (yab (yaa ?_))
   refine zmv (p := .v (.bool v5)) rfl rfl rfl rfl rfl ?_
   refine yad (yae ?_)
   refine yaf h ?_; clear h; intro q12 hq12 h
   refine ybe (Y := (Unit) × (Int × Int)) (fun (_, (v10, v11)) => [(8, .v (.pointer (some ⟨b4, 0, none⟩)))]) (fun (_, (v10, v11)) => [PRes.b b4 109 [.v (.int .u64 v10), .v (.int .u64 v11)]]) (fun (_, (v10, v11)) => q12 = (v10, v11)) ?_ ?_
   ·skip
    refine yal rfl (fun hc13 => ?_) (fun hc13 => ?_)
    ·replace hq12 := yav hc13 hq12
     refine yaa ?_
     refine yah rfl rfl rfl (yag (p := .agg [.v (.int .u64 x3.1.Hi), .v (.int .u64 x3.1.Lo)]) rfl (.p rfl) zm0 rfl) ?_
     refine yah rfl rfl rfl (pq_build (cs := [.v (.int .u64 0), .v (.int .u64 1)]) rfl rfl rfl rfl rfl rfl rfl (zfc rfl rfl rfl rfl (zlc zln) (zfc rfl rfl rfl rfl (zlt (zlc zln)) zfn))) ?_
     refine yaf hq12 ?_; clear hq12; intro x14 hx14 hq12
     refine ybd rfl rfl rfl rfl rfl (ref01_Add_ok hx14) ?_
     refine zmv (p := .tup [.agg [.v (.int .u64 x14.1.Hi), .v (.int .u64 x14.1.Lo)], .v (.bool x14.2)]) rfl rfl rfl rfl rfl ?_
     refine zex (p := .agg [.v (.int .u64 x14.1.Hi), .v (.int .u64 x14.1.Lo)]) rfl rfl rfl rfl rfl rfl ?_
     refine zex (p := .v (.bool x14.2)) rfl rfl rfl rfl rfl rfl ?_
     refine pwl_l0 rfl rfl (yax (vs := [.v (.int .u64 x14.1.Hi), .v (.int .u64 x14.1.Lo)]) rfl rfl rfl rfl rfl zuh (zlc (zlc zln)) ?_)
     refine yad ?_
     obtain rfl := Option.some.inj hq12
     exact ybb ((), (x14.1.Hi, x14.1.Lo)) (zhc rfl zhn) (zsc zph zsn) rfl
    ·replace hq12 := yaw hc13 hq12
     refine yao ?_
     obtain rfl := Option.some.inj hq12
     exact ybb ((), (x3.1.Hi, x3.1.Lo)) (zhc rfl zhn) (zsc zph zsn) rfl
   ·rintro ⟨_, ⟨v10, v11⟩⟩ τ hz; (try dsimp only at hz); subst q12; (try dsimp only at h); dsimp only [pupds]
    refine yab (yab (yaa ?_))
    refine yah rfl rfl rfl (yac rfl rfl rfl rfl rfl (.p rfl)) ?_
    refine yah rfl rfl rfl (yag (p := .v (.int .u64 v10)) rfl (.p rfl) zm0 rfl) ?_
    refine yah rfl rfl rfl (yak rfl (.p rfl) (.p rfl) rfl) ?_
    refine yad (yae ?_)
    refine yal rfl (fun hc15 => ?_) (fun hc15 => ?_)
    ·replace h := yav hc15 h
     refine yab (yaa ?_)
     refine zas (p := .v (.int .u64 0)) rfl rfl rfl rfl rfl ?_
     refine zas (p := .v (.int .i64 3)) rfl rfl rfl rfl rfl ?_
     refine yad (yae (yaq (yap ?_)))
     obtain rfl := Option.some.inj h
     exact yar (prv_2 (yat rfl) (yat rfl)) zsn ⟨rfl, rfl⟩
    ·replace h := yaw hc15 h
     refine yao (yae (yab (yaa ?_)))
     refine yah rfl rfl rfl (yac rfl rfl rfl rfl rfl (.p rfl)) ?_
     refine yah rfl rfl rfl (yag (p := .v (.int .u64 v11)) rfl (.p rfl) zm0 rfl) ?_
     refine zas (p := .v (.int .u64 v11)) rfl rfl rfl rfl rfl ?_
     refine zas (p := .v (.int .i64 0)) rfl rfl rfl rfl rfl ?_
     refine yad (yae (yaq ?_))
     obtain rfl := Option.some.inj h
     exact yar (prv_2 (yat rfl) (yat rfl)) zsn ⟨rfl, rfl⟩
def ref17_Evaluate (p0 : TDuty) (p1 : Int) (p2 : Int) : Option (Int × Int) := Option.bind (ref17_Duty p0) (fun x2 => cond (x2 != 0) (some (0, x2)) (Option.bind (ref17_in p1 1000000000000) (fun x4 => Option.bind (gd (!(!x4)) (ref17_in p2 1000000000)) (fun x5 => cond ((!x4) || (!x5)) (some (0, 2)) (Option.bind (ref17_scaled p0.Rate p1 (imax p0.Per 1)) (fun x7 => Option.bind (ref01_Mul (IntKind.u64.wrap ((IntKind.u64.wrap p0.Amount) * (IntKind.u64.wrap p2))) 1000000) (fun x8 => Option.bind (ref01_Add x7 x8) (fun x9 => Option.bind (gd p0.HasMost (ref17_scaled p0.Most p1 (imax p0.Per 1))) (fun x11 => Option.bind (gd p0.HasMost (ref01_Less x11 x9.1)) (fun x12 => Option.bind (cond (p0.HasMost && x12) (Option.bind (ref17_scaled p0.Most p1 (imax p0.Per 1)) (fun x17 => some (x17.Hi, x17.Lo))) (some (x9.1.Hi, x9.1.Lo))) (fun (v13, v14) => Option.bind (gd p0.HasLeast (ref17_scaled p0.Least p1 (imax p0.Per 1))) (fun x18 => Option.bind (gd p0.HasLeast (ref01_Less (⟨v13, v14⟩ : Tref01_Wide) x18)) (fun x19 => Option.bind (cond (p0.HasLeast && x19) (Option.bind (ref17_scaled p0.Least p1 (imax p0.Per 1)) (fun x24 => some (x24.Hi, x24.Lo))) (some (v13, v14))) (fun (v20, v21) => Option.bind (ref01_Div (⟨v20, v21⟩ : Tref01_Wide) (IntKind.u64.wrap ((IntKind.u64.wrap (imax p0.Per 1)) * 1000000)) 2) (fun x25 => cond ((x25.2 != 0) || (decide (1000000000000 < x25.1))) (some (0, 3)) (some ((IntKind.i64.wrap x25.1), 0)))))))))))))))))
set_option maxHeartbeats 4000000 in
theorem ref17_Evaluate_ok {p0 : TDuty} {p1 : Int} {p2 : Int} {r : (Int × Int)}  (h : ref17_Evaluate p0 p1 p2 = some r) : PF 44 [.agg [.v (.int .i64 p0.Rate), .v (.int .i64 p0.Amount), .v (.int .i64 p0.Per), .v (.bool p0.HasMost), .v (.int .i64 p0.Most), .v (.bool p0.HasLeast), .v (.int .i64 p0.Least)], .v (.int .i64 p1), .v (.int .i64 p2)] (.tup [.v (.int .i64 r.1), .v (.int .i64 r.2)]) := by
 unfold ref17_Evaluate at h
 refine pf_of ?_
 refine penter Tryz.func44 fk44 rfl Tryz.ntmps44 Tryz.results44 rfl ?_
 refine yab (yaa ?_)
 refine ybl rfl rfl rfl (pl_box (cs := [.v (.int .i64 p0.Rate), .v (.int .i64 p0.Amount), .v (.int .i64 p0.Per), .v (.bool p0.HasMost), .v (.int .i64 p0.Most), .v (.bool p0.HasLeast), .v (.int .i64 p0.Least)]) rfl rfl (fun b1 => ?_))
 refine zas (p := .v (.int .i64 0)) rfl rfl rfl rfl rfl ?_
 refine zas (p := .v (.int .i64 0)) rfl rfl rfl rfl rfl ?_
 refine yad (yae (yab (yab (yaa ?_))))
 refine yah rfl rfl rfl (yag (p := .agg [.v (.int .i64 p0.Rate), .v (.int .i64 p0.Amount), .v (.int .i64 p0.Per), .v (.bool p0.HasMost), .v (.int .i64 p0.Most), .v (.bool p0.HasLeast), .v (.int .i64 p0.Least)]) rfl (.p rfl) zm0 rfl) ?_
 refine yaf h ?_; clear h; intro x2 hx2 h
 refine ybd rfl rfl rfl rfl rfl (ref17_Duty_ok hx2) ?_
 refine zas (p := .v (.int .i64 x2)) rfl rfl rfl rfl rfl ?_
 refine yad (yae (yab (yaa ?_)))
 refine zmv (p := .v (.int .i64 x2)) rfl rfl rfl rfl rfl ?_
 refine yah rfl rfl rfl (yak rfl (.p rfl) (.p rfl) rfl) ?_
 refine yad (yae ?_)
 refine yal rfl (fun hc3 => ?_) (fun hc3 => ?_)
 ·replace h := yav hc3 h
  refine yab (yaa ?_)
  refine zmv (p := .v (.int .i64 x2)) rfl rfl rfl rfl rfl ?_
  refine zas (p := .v (.int .i64 0)) rfl rfl rfl rfl rfl ?_
  refine zas (p := .v (.int .i64 x2)) rfl rfl rfl rfl rfl ?_
  refine yad (yae (yaq (yap ?_)))
  obtain rfl := Option.some.inj h
  exact yar (prv_2 (yat rfl) (yat rfl)) zsn ⟨rfl, rfl⟩
 ·replace h := yaw hc3 h
  refine yao (yae (yab (yab (yaa ?_))))
  refine zmv (p := .v (.int .i64 p1)) rfl rfl rfl rfl rfl ?_
  refine yaf h ?_; clear h; intro x4 hx4 h
  refine ybd rfl rfl rfl rfl rfl (ref17_in_ok hx4) ?_
  refine yah rfl rfl rfl (pq_not rfl (.p rfl)) ?_
  refine zmv (p := .v (.bool (!x4))) rfl rfl rfl rfl rfl ?_
  refine yaj (yai rfl rfl rfl) rfl rfl (yam (p := .v (.int .i64 p2)) rfl (.p rfl)) ?_
  refine yaf h ?_; clear h; intro x5 hx5 h
  refine pwl_callg (yai rfl rfl rfl) rfl rfl rfl (ybg (.g rfl) (ybg (.p rfl) (pargs_nil))) (fun hc => ref17_in_ok (gd_t hx5 hc)) ?_
  refine yaj (yai rfl rfl rfl) rfl rfl (pq_not rfl (.g rfl)) ?_
  refine yah rfl rfl rfl (pq_or rfl (.p rfl) (.p rfl) (.g rfl)) ?_
  refine yad (yae ?_)
  refine yal rfl (fun hc6 => ?_) (fun hc6 => ?_)
  ·replace h := yav hc6 h
   refine yab (yaa ?_)
   refine zas (p := .v (.int .i64 0)) rfl rfl rfl rfl rfl ?_
   refine zas (p := .v (.int .i64 2)) rfl rfl rfl rfl rfl ?_
   refine yad (yae (yaq (yap ?_)))
   obtain rfl := Option.some.inj h
   exact yar (prv_2 (yat rfl) (yat rfl)) zsn ⟨rfl, rfl⟩
  ·replace h := yaw hc6 h
   refine yao (yae (yab (yaa ?_)))
   refine yah rfl rfl rfl (yac rfl rfl rfl rfl rfl (.p rfl)) ?_
   refine yah rfl rfl rfl (yag (p := .v (.int .i64 p0.Per)) rfl (.p rfl) zm0 rfl) ?_
   refine yah rfl rfl rfl (pq_max rfl (.p rfl) (.p rfl)) ?_
   refine zas (p := .v (.int .i64 (imax p0.Per 1))) rfl rfl rfl rfl rfl ?_
   refine yad (yae (yab ?_))
   refine pwc_draw (ρd := []) [(0, 0), (1, 0), (2, 0), (3, 0), (5, 0), (6, 0), (7, 0), (8, 0), (9, 0), (10, 0), (4, 1), (11, 1), (12, 1), (13, 0), (14, 0), (15, 0), (16, 2), (17, 1), (18, 0)] _ (List.Perm.refl _) (by kernel_rfl) rfl ?_
   refine ybf rfl rfl rfl (yac rfl rfl rfl rfl rfl (.p rfl)) ?_
   refine ybf rfl rfl rfl (yag (p := .v (.int .i64 p0.Rate)) rfl (.p rfl) zm0 rfl) ?_
   refine ybf rfl rfl rfl (yam (p := .v (.int .i64 p1)) rfl (.p rfl)) ?_
   refine ybf rfl rfl rfl (yam (p := .v (.int .i64 (imax p0.Per 1))) rfl (.p rfl)) ?_
   refine ybf rfl rfl rfl (yac rfl rfl rfl rfl rfl (.p rfl)) ?_
   refine ybf rfl rfl rfl (yag (p := .v (.int .i64 p0.Amount)) rfl (.p rfl) zm0 rfl) ?_
   refine ybf rfl rfl rfl (pq_conv rfl rfl rfl (.p rfl)) ?_
   refine ybf rfl rfl rfl (yam (p := .v (.int .i64 p2)) rfl (.p rfl)) ?_
   refine ybf rfl rfl rfl (pq_conv rfl rfl rfl (.p rfl)) ?_
   refine ybf rfl rfl rfl (yas rfl (.p rfl) (.p rfl) rfl) ?_
   refine yaf h ?_; clear h; intro x7 hx7 h
   refine pwd_call rfl rfl rfl rfl rfl (ref17_scaled_ok hx7) ?_
   refine yaf h ?_; clear h; intro x8 hx8 h
   refine pwd_call rfl rfl rfl rfl rfl (ref01_Mul_ok hx8) ?_
   refine yaf h ?_; clear h; intro x9 hx9 h
   refine pwd_call rfl rfl rfl rfl rfl (ref01_Add_ok hx9) ?_
   refine ybf rfl rfl rfl (yam (p := .tup [.agg [.v (.int .u64 x9.1.Hi), .v (.int .u64 x9.1.Lo)], .v (.bool x9.2)]) rfl (.p rfl)) ?_
   refine ybf rfl rfl rfl (pq_extract (p := .agg [.v (.int .u64 x9.1.Hi), .v (.int .u64 x9.1.Lo)]) rfl (.p rfl) rfl) ?_
   refine ybf rfl rfl rfl (pq_extract (p := .v (.bool x9.2)) rfl (.p rfl) rfl) ?_
   refine pwd_late (plate_alloc rfl rfl rfl rfl rfl) (fun _ => rfl) rfl (fun b10 => ?_)
   refine pwd_l0 rfl rfl (yax (vs := [.v (.int .u64 x9.1.Hi), .v (.int .u64 x9.1.Lo)]) rfl rfl rfl rfl rfl zuh (zlc (zlc zln)) ?_)
   refine ybf rfl rfl rfl (pq_assign (p := .v (.bool x9.2)) rfl (.p rfl)) ?_
   refine pwd_nil (yae (yab (yab ?_)))
   refine pwc_draw (ρd := []) [(0, 0), (1, 0), (2, 0), (3, 0), (4, 0), (5, 0), (6, 0), (8, 0), (7, 1), (9, 1), (10, 0)] _ (List.Perm.refl _) (by kernel_rfl) rfl ?_
   refine ybf rfl rfl rfl (yac rfl rfl rfl rfl rfl (.p rfl)) ?_
   refine ybf rfl rfl rfl (yag (p := .v (.bool p0.HasMost)) rfl (.p rfl) zm1 rfl) ?_
   refine ybf rfl rfl rfl (yam (p := .v (.bool p0.HasMost)) rfl (.p rfl)) ?_
   refine ybi (yan rfl rfl rfl) rfl rfl (yac rfl rfl rfl rfl rfl (.p rfl)) ?_
   refine ybi (yan rfl rfl rfl) rfl rfl (yag (p := .v (.int .i64 p0.Most)) rfl (.g rfl) zm1 rfl) ?_
   refine ybi (yan rfl rfl rfl) rfl rfl (yam (p := .v (.int .i64 p1)) rfl (.p rfl)) ?_
   refine ybi (yan rfl rfl rfl) rfl rfl (yam (p := .v (.int .i64 (imax p0.Per 1))) rfl (.p rfl)) ?_
   refine ybi (yan rfl rfl rfl) rfl rfl (yag (p := .agg [.v (.int .u64 x9.1.Hi), .v (.int .u64 x9.1.Lo)]) rfl (.p rfl) zm0 rfl) ?_
   refine yaf h ?_; clear h; intro x11 hx11 h
   refine pwd_callg (yan rfl rfl rfl) rfl rfl rfl (ybg (.g rfl) (ybg (.g rfl) (ybg (.g rfl) (pargs_nil)))) (fun hc => ref17_scaled_ok (gd_t hx11 hc)) ?_
   refine yaf h ?_; clear h; intro x12 hx12 h
   refine pwd_callg (yan rfl rfl rfl) rfl rfl rfl (ybg (.g rfl) (ybg (.g rfl) (pargs_nil))) (fun hc => ref01_Less_ok (gd_t hx12 hc)) ?_
   refine ybf rfl rfl rfl (pq_and rfl (.p rfl) (.p rfl) (.g rfl)) ?_
   refine pwd_nil (yae ?_)
   refine yaf h ?_; clear h; intro q15 hq15 h
   refine ybe (Y := (Unit) × (Int × Int)) (fun (_, (v13, v14)) => [(1, .v (.int .i64 p1)), (3, .v (.pointer (some ⟨b1, 0, none⟩))), (9, .v (.int .i64 (imax p0.Per 1))), (10, .v (.pointer (some ⟨b10, 0, none⟩)))]) (fun (_, (v13, v14)) => [PRes.b b1 44 [.v (.int .i64 p0.Rate), .v (.int .i64 p0.Amount), .v (.int .i64 p0.Per), .v (.bool p0.HasMost), .v (.int .i64 p0.Most), .v (.bool p0.HasLeast), .v (.int .i64 p0.Least)], PRes.b b10 109 [.v (.int .u64 v13), .v (.int .u64 v14)]]) (fun (_, (v13, v14)) => q15 = (v13, v14)) ?_ ?_
   ·skip
    refine yal rfl (fun hc16 => ?_) (fun hc16 => ?_)
    ·replace hq15 := yav hc16 hq15
     refine yaa ?_
     refine yah rfl rfl rfl (yac rfl rfl rfl rfl rfl (.p rfl)) ?_
     refine yah rfl rfl rfl (yag (p := .v (.int .i64 p0.Most)) rfl (.p rfl) zm1 rfl) ?_
     refine zmv (p := .v (.int .i64 p1)) rfl rfl rfl rfl rfl ?_
     refine zmv (p := .v (.int .i64 (imax p0.Per 1))) rfl rfl rfl rfl rfl ?_
     refine yaf hq15 ?_; clear hq15; intro x17 hx17 hq15
     refine ybd rfl rfl rfl rfl rfl (ref17_scaled_ok hx17) ?_
     refine pwl_l0 rfl rfl (yax (vs := [.v (.int .u64 x17.Hi), .v (.int .u64 x17.Lo)]) rfl rfl rfl rfl rfl zuh (zlc (zlc zln)) ?_)
     refine yad ?_
     obtain rfl := Option.some.inj hq15
     exact ybb ((), (x17.Hi, x17.Lo)) (zhc rfl (zhc rfl (zhc rfl (zhc rfl zhn)))) (zsc (zpt zph) (zsc zph zsn)) rfl
    ·replace hq15 := yaw hc16 hq15
     refine yao ?_
     obtain rfl := Option.some.inj hq15
     exact ybb ((), (x9.1.Hi, x9.1.Lo)) (zhc rfl (zhc rfl (zhc rfl (zhc rfl zhn)))) (zsc (zpt zph) (zsc zph zsn)) rfl
   ·rintro ⟨_, ⟨v13, v14⟩⟩ τ hz; (try dsimp only at hz); subst q15; (try dsimp only at h); dsimp only [pupds]
    refine yab (yab ?_)
    refine pwc_draw (ρd := []) [(0, 0), (1, 0), (2, 0), (3, 0), (4, 0), (5, 0), (6, 0), (7, 0), (8, 1), (9, 1), (10, 0)] _ (List.Perm.refl _) (by kernel_rfl) rfl ?_
    refine ybf rfl rfl rfl (yac rfl rfl rfl rfl rfl (.p rfl)) ?_
    refine ybf rfl rfl rfl (yag (p := .v (.bool p0.HasLeast)) rfl (.p rfl) zm0 rfl) ?_
    refine ybf rfl rfl rfl (yam (p := .v (.bool p0.HasLeast)) rfl (.p rfl)) ?_
    refine ybi (yan rfl rfl rfl) rfl rfl (yag (p := .agg [.v (.int .u64 v13), .v (.int .u64 v14)]) rfl (.p rfl) zm1 rfl) ?_
    refine ybi (yan rfl rfl rfl) rfl rfl (yac rfl rfl rfl rfl rfl (.p rfl)) ?_
    refine ybi (yan rfl rfl rfl) rfl rfl (yag (p := .v (.int .i64 p0.Least)) rfl (.g rfl) zm0 rfl) ?_
    refine ybi (yan rfl rfl rfl) rfl rfl (yam (p := .v (.int .i64 p1)) rfl (.p rfl)) ?_
    refine ybi (yan rfl rfl rfl) rfl rfl (yam (p := .v (.int .i64 (imax p0.Per 1))) rfl (.p rfl)) ?_
    refine yaf h ?_; clear h; intro x18 hx18 h
    refine pwd_callg (yan rfl rfl rfl) rfl rfl rfl (ybg (.g rfl) (ybg (.g rfl) (ybg (.g rfl) (pargs_nil)))) (fun hc => ref17_scaled_ok (gd_t hx18 hc)) ?_
    refine yaf h ?_; clear h; intro x19 hx19 h
    refine pwd_callg (yan rfl rfl rfl) rfl rfl rfl (ybg (.g rfl) (ybg (.g rfl) (pargs_nil))) (fun hc => ref01_Less_ok (gd_t hx19 hc)) ?_
    refine ybf rfl rfl rfl (pq_and rfl (.p rfl) (.p rfl) (.g rfl)) ?_
    refine pwd_nil (yae ?_)
    refine yaf h ?_; clear h; intro q22 hq22 h
    refine ybe (Y := (Unit) × (Int × Int)) (fun (_, (v20, v21)) => [(9, .v (.int .i64 (imax p0.Per 1))), (10, .v (.pointer (some ⟨b10, 0, none⟩)))]) (fun (_, (v20, v21)) => [PRes.b b10 109 [.v (.int .u64 v20), .v (.int .u64 v21)]]) (fun (_, (v20, v21)) => q22 = (v20, v21)) ?_ ?_
    ·skip
     refine yal rfl (fun hc23 => ?_) (fun hc23 => ?_)
     ·replace hq22 := yav hc23 hq22
      refine yaa ?_
      refine yah rfl rfl rfl (yac rfl rfl rfl rfl rfl (.p rfl)) ?_
      refine yah rfl rfl rfl (yag (p := .v (.int .i64 p0.Least)) rfl (.p rfl) zm0 rfl) ?_
      refine zmv (p := .v (.int .i64 p1)) rfl rfl rfl rfl rfl ?_
      refine zmv (p := .v (.int .i64 (imax p0.Per 1))) rfl rfl rfl rfl rfl ?_
      refine yaf hq22 ?_; clear hq22; intro x24 hx24 hq22
      refine ybd rfl rfl rfl rfl rfl (ref17_scaled_ok hx24) ?_
      refine pwl_l0 rfl rfl (yax (vs := [.v (.int .u64 x24.Hi), .v (.int .u64 x24.Lo)]) rfl rfl rfl rfl rfl (zut zuh) (zlc (zlc zln)) ?_)
      refine yad ?_
      obtain rfl := Option.some.inj hq22
      exact ybb ((), (x24.Hi, x24.Lo)) (zhc rfl (zhc rfl zhn)) (zsc (zpt zph) zsn) rfl
     ·replace hq22 := yaw hc23 hq22
      refine yao ?_
      obtain rfl := Option.some.inj hq22
      exact ybb ((), (v13, v14)) (zhc rfl (zhc rfl zhn)) (zsc (zpt zph) zsn) rfl
    ·rintro ⟨_, ⟨v20, v21⟩⟩ τ hz; (try dsimp only at hz); subst q22; (try dsimp only at h); dsimp only [pupds]
     refine yab (yaa ?_)
     refine yah rfl rfl rfl (yag (p := .agg [.v (.int .u64 v20), .v (.int .u64 v21)]) rfl (.p rfl) zm0 rfl) ?_
     refine zmv (p := .v (.int .i64 (imax p0.Per 1))) rfl rfl rfl rfl rfl ?_
     refine yah rfl rfl rfl (pq_conv rfl rfl rfl (.p rfl)) ?_
     refine yah rfl rfl rfl (yas rfl (.p rfl) (.p rfl) rfl) ?_
     refine yaf h ?_; clear h; intro x25 hx25 h
     refine ybd rfl rfl rfl rfl rfl (ref01_Div_ok hx25) ?_
     refine zmv (p := .tup [.v (.int .u64 x25.1), .v (.int .i64 x25.2)]) rfl rfl rfl rfl rfl ?_
     refine zex (p := .v (.int .u64 x25.1)) rfl rfl rfl rfl rfl rfl ?_
     refine zex (p := .v (.int .i64 x25.2)) rfl rfl rfl rfl rfl rfl ?_
     refine zas (p := .v (.int .u64 x25.1)) rfl rfl rfl rfl rfl ?_
     refine zas (p := .v (.int .i64 x25.2)) rfl rfl rfl rfl rfl ?_
     refine yad (yae (yab (yab (yaa ?_))))
     refine zmv (p := .v (.int .i64 x25.2)) rfl rfl rfl rfl rfl ?_
     refine yah rfl rfl rfl (yak rfl (.p rfl) (.p rfl) rfl) ?_
     refine zmv (p := .v (.bool (x25.2 != 0))) rfl rfl rfl rfl rfl ?_
     refine yaj (yai rfl rfl rfl) rfl rfl (yam (p := .v (.int .u64 x25.1)) rfl (.p rfl)) ?_
     refine yaj (yai rfl rfl rfl) rfl rfl (yak rfl (.g rfl) (.p rfl) rfl) ?_
     refine yah rfl rfl rfl (pq_or rfl (.p rfl) (.p rfl) (.g rfl)) ?_
     refine yad (yae ?_)
     refine yal rfl (fun hc26 => ?_) (fun hc26 => ?_)
     ·replace h := yav hc26 h
      refine yab (yaa ?_)
      refine zas (p := .v (.int .i64 0)) rfl rfl rfl rfl rfl ?_
      refine zas (p := .v (.int .i64 3)) rfl rfl rfl rfl rfl ?_
      refine yad (yae (yaq (yap ?_)))
      obtain rfl := Option.some.inj h
      exact yar (prv_2 (yat rfl) (yat rfl)) zsn ⟨rfl, rfl⟩
     ·replace h := yaw hc26 h
      refine yao (yae (yab (yaa ?_)))
      refine zmv (p := .v (.int .u64 x25.1)) rfl rfl rfl rfl rfl ?_
      refine yah rfl rfl rfl (pq_conv rfl rfl rfl (.p rfl)) ?_
      refine zas (p := .v (.int .i64 (IntKind.i64.wrap x25.1))) rfl rfl rfl rfl rfl ?_
      refine zas (p := .v (.int .i64 0)) rfl rfl rfl rfl rfl ?_
      refine yad (yae (yaq ?_))
      obtain rfl := Option.some.inj h
      exact yar (prv_2 (yat rfl) (yat rfl)) zsn ⟨rfl, rfl⟩
def made_Source_rate (p0 : Tmade_Source) : Option (Int × Tmade_Source) := Option.bind (made_Source_Next p0 4) (fun x1 => cond (decide (0 < x1.1)) (Option.bind (made_Source_Next x1.2 101) (fun x3 => some ((IntKind.i64.wrap (10000 * x3.1)), x3.2))) (Option.bind (made_Source_Next x1.2 1000001) (fun x4 => some (x4.1, x4.2))))
set_option maxHeartbeats 4000000 in
theorem made_Source_rate_ok {p0 : Tmade_Source} {b0 : Nat} {r : (Int × Tmade_Source)}  (h : made_Source_rate p0 = some r) : PCall 53 [.v (.pointer (some ⟨b0, 0, none⟩))] [PRes.b b0 59 [.slc (List.map eI p0.L), .v (.int .i64 p0.I)]] (fun pv ρ' => pv = .v (.int .i64 r.1) ∧ ρ' = [PRes.b b0 59 [.slc (List.map eI r.2.L), .v (.int .i64 r.2.I)]]) := by
 unfold made_Source_rate at h
 refine penter Tryz.func53 fk53 rfl Tryz.ntmps53 Tryz.results53 rfl ?_
 refine yab (yaa ?_)
 refine zas (p := .v (.int .i64 0)) rfl rfl rfl rfl rfl ?_
 refine yad (yae (yab (yab (yaa ?_))))
 refine zmv (p := .v (.pointer (some ⟨b0, 0, none⟩))) rfl rfl rfl rfl rfl ?_
 refine yaf h ?_; clear h; intro x1 hx1 h
 refine ybl rfl rfl rfl (pl_callR rfl rfl (ρ1 := [_]) (ybk (by exact zph) (List.Perm.refl _)) (yau hx1) ?_); rintro _ _ ⟨rfl, rfl⟩
 refine yah rfl rfl rfl (yak rfl (.p rfl) (.p rfl) rfl) ?_
 refine yad (yae ?_)
 refine yal rfl (fun hc2 => ?_) (fun hc2 => ?_)
 ·replace h := yav hc2 h
  refine yab (yaa ?_)
  refine zmv (p := .v (.pointer (some ⟨b0, 0, none⟩))) rfl rfl rfl rfl rfl ?_
  refine yaf h ?_; clear h; intro x3 hx3 h
  refine ybl rfl rfl rfl (pl_callR rfl rfl (ρ1 := [_]) (ybk (by exact zph) (List.Perm.refl _)) (yau hx3) ?_); rintro _ _ ⟨rfl, rfl⟩
  refine yah rfl rfl rfl (yas rfl (.p rfl) (.p rfl) rfl) ?_
  refine zas (p := .v (.int .i64 (IntKind.i64.wrap (10000 * x3.1)))) rfl rfl rfl rfl rfl ?_
  refine yad (yae (yaq (yap ?_)))
  obtain rfl := Option.some.inj h
  exact yar (prv_1 (yat rfl)) (zsc zph zsn) ⟨rfl, rfl⟩
 ·replace h := yaw hc2 h
  refine yao (yae (yab (yaa ?_)))
  refine zmv (p := .v (.pointer (some ⟨b0, 0, none⟩))) rfl rfl rfl rfl rfl ?_
  refine yaf h ?_; clear h; intro x4 hx4 h
  refine ybl rfl rfl rfl (pl_callR rfl rfl (ρ1 := [_]) (ybk (by exact zph) (List.Perm.refl _)) (yau hx4) ?_); rintro _ _ ⟨rfl, rfl⟩
  refine zas (p := .v (.int .i64 x4.1)) rfl rfl rfl rfl rfl ?_
  refine yad (yae (yaq ?_))
  obtain rfl := Option.some.inj h
  exact yar (prv_1 (yat rfl)) (zsc zph zsn) ⟨rfl, rfl⟩
def exact_CompareWide (p0 : Texact_Wide) (p1 : Texact_Wide) : Option Int := cond ((decide (p0.Hi < p1.Hi)) || ((p0.Hi == p1.Hi) && (decide (p0.Lo < p1.Lo)))) (some (-1)) (cond (Texact_Wide.eqb p0 p1) (some 0) (some 1))
set_option maxHeartbeats 4000000 in
theorem exact_CompareWide_ok {p0 : Texact_Wide} {p1 : Texact_Wide} {r : Int}  (h : exact_CompareWide p0 p1 = some r) : PF 96 [.agg [.v (.int .u64 p0.Hi), .v (.int .u64 p0.Lo)], .agg [.v (.int .u64 p1.Hi), .v (.int .u64 p1.Lo)]] (.v (.int .i64 r)) := by
 unfold exact_CompareWide at h
 refine pf_of ?_
 refine penter Tryz.func96 fk96 rfl Tryz.ntmps96 Tryz.results96 rfl ?_
 refine yab (yaa ?_)
 refine ybl rfl rfl rfl (pl_box (cs := [.v (.int .u64 p0.Hi), .v (.int .u64 p0.Lo)]) rfl rfl (fun b1 => ?_))
 refine ybl rfl rfl rfl (pl_box (cs := [.v (.int .u64 p1.Hi), .v (.int .u64 p1.Lo)]) rfl rfl (fun b2 => ?_))
 refine zas (p := .v (.int .i64 0)) rfl rfl rfl rfl rfl ?_
 refine yad (yae (yab (yaz (yab (yaa ?_)))))
 refine yah rfl rfl rfl (yac rfl rfl rfl rfl rfl (.p rfl)) ?_
 refine yah rfl rfl rfl (yag (p := .v (.int .u64 p0.Hi)) rfl (.p rfl) zm1 rfl) ?_
 refine yah rfl rfl rfl (yac rfl rfl rfl rfl rfl (.p rfl)) ?_
 refine yah rfl rfl rfl (yag (p := .v (.int .u64 p1.Hi)) rfl (.p rfl) zm0 rfl) ?_
 refine yah rfl rfl rfl (yak rfl (.p rfl) (.p rfl) rfl) ?_
 refine zmv (p := .v (.bool (decide (p0.Hi < p1.Hi)))) rfl rfl rfl rfl rfl ?_
 refine yaj (yai rfl rfl rfl) rfl rfl (yac rfl rfl rfl rfl rfl (.p rfl)) ?_
 refine yaj (yai rfl rfl rfl) rfl rfl (yag (p := .v (.int .u64 p0.Hi)) rfl (.g rfl) zm1 rfl) ?_
 refine yaj (yai rfl rfl rfl) rfl rfl (yac rfl rfl rfl rfl rfl (.p rfl)) ?_
 refine yaj (yai rfl rfl rfl) rfl rfl (yag (p := .v (.int .u64 p1.Hi)) rfl (.g rfl) zm0 rfl) ?_
 refine yaj (yai rfl rfl rfl) rfl rfl (yak rfl (.g rfl) (.g rfl) rfl) ?_
 refine yaj (yai rfl rfl rfl) rfl rfl (yam (p := .v (.bool (p0.Hi == p1.Hi))) rfl (.g rfl)) ?_
 refine yaj (yay rfl rfl rfl) rfl rfl (yac rfl rfl rfl rfl rfl (.p rfl)) ?_
 refine yaj (yay rfl rfl rfl) rfl rfl (yag (p := .v (.int .u64 p0.Lo)) rfl (.g rfl) zm1 rfl) ?_
 refine yaj (yay rfl rfl rfl) rfl rfl (yac rfl rfl rfl rfl rfl (.p rfl)) ?_
 refine yaj (yay rfl rfl rfl) rfl rfl (yag (p := .v (.int .u64 p1.Lo)) rfl (.g rfl) zm0 rfl) ?_
 refine yaj (yay rfl rfl rfl) rfl rfl (yak rfl (.g rfl) (.g rfl) rfl) ?_
 refine yaj (yai rfl rfl rfl) rfl rfl (pq_and rfl (.g rfl) (.p rfl) (.g rfl)) ?_
 refine yah rfl rfl rfl (pq_or rfl (.p rfl) (.p rfl) (.g rfl)) ?_
 refine zas (p := .v (.bool ((decide (p0.Hi < p1.Hi)) || ((p0.Hi == p1.Hi) && (decide (p0.Lo < p1.Lo)))))) rfl rfl rfl rfl rfl ?_
 refine yad (yae ?_)
 refine yal rfl (fun hc3 => ?_) (fun hc3 => ?_)
 ·replace h := yav hc3 h
  refine yab (yaa ?_)
  refine zas (p := .v (.int .i64 (-1))) rfl rfl rfl rfl rfl ?_
  refine yad (yae (yaq (yba (yap ?_))))
  obtain rfl := Option.some.inj h
  exact yar (prv_1 (yat rfl)) zsn ⟨rfl, rfl⟩
 ·replace h := yaw hc3 h
  refine yab (yaa ?_)
  refine yah rfl rfl rfl (yag (p := .agg [.v (.int .u64 p0.Hi), .v (.int .u64 p0.Lo)]) rfl (.p rfl) zm1 rfl) ?_
  refine yah rfl rfl rfl (yag (p := .agg [.v (.int .u64 p1.Hi), .v (.int .u64 p1.Lo)]) rfl (.p rfl) zm0 rfl) ?_
  refine yah rfl rfl rfl (pq_eqst [0, 0] rfl (by kernel_rfl) (by kernel_rfl) (by kernel_rfl) (by kernel_rfl) (.p rfl) (.p rfl) rfl rfl rfl rfl) ?_
  refine zas (p := .v (.bool (Texact_Wide.eqb p0 p1))) rfl rfl rfl rfl rfl ?_
  refine yad (yae ?_)
  refine yal rfl (fun hc4 => ?_) (fun hc4 => ?_)
  ·replace h := yav hc4 h
   refine yab (yaa ?_)
   refine zas (p := .v (.int .i64 0)) rfl rfl rfl rfl rfl ?_
   refine yad (yae (yaq (yba (yap ?_))))
   obtain rfl := Option.some.inj h
   exact yar (prv_1 (yat rfl)) zsn ⟨rfl, rfl⟩
  ·replace h := yaw hc4 h
   refine yao (ybc (yae (yab (yaa ?_))))
   refine zas (p := .v (.int .i64 1)) rfl rfl rfl rfl rfl ?_
   refine yad (yae (yaq ?_))
   obtain rfl := Option.some.inj h
   exact yar (prv_1 (yat rfl)) zsn ⟨rfl, rfl⟩
def slices_insertionSortCmpFunc_apportion_portion (p0 : (List Tapportion_portion)) (p1 : Int) (p2 : Int) (p3 : (Tapportion_portion → Tapportion_portion → Option Int)) : Option (List Tapportion_portion) := Option.bind (loopF (S := (List Tapportion_portion) × Int) (T := ((List Tapportion_portion))) (fun (l2, v3) => cond (decide (v3 < p2)) (Option.bind (loopF (S := (List Tapportion_portion) × Int) (T := ((List Tapportion_portion))) (fun (l10, v11) => Option.bind (gd (decide (p1 < v11)) (idx l10 v11)) (fun m16 => Option.bind (gd (decide (p1 < v11)) (idx l10 (IntKind.i64.wrap (v11 - 1)))) (fun m17 => Option.bind (gd (decide (p1 < v11)) (p3 m16 m17)) (fun x18 => cond ((decide (p1 < v11)) && (decide (x18 < 0))) (Option.bind (idx l10 (IntKind.i64.wrap (v11 - 1))) (fun m22 => Option.bind (idx l10 v11) (fun m23 => Option.bind (idx l10 v11) (fun m24 => Option.bind (idx (l10.set v11.toNat m22) (IntKind.i64.wrap (v11 - 1))) (fun m26 => some (.inl (((l10.set v11.toNat m22).set (IntKind.i64.wrap (v11 - 1)).toNat m23), (IntKind.i64.wrap (v11 - 1))))))))) (some (.inr l10)))))) FUEL (l2, v3)) (fun l13 => some (.inl (l13, (IntKind.i64.wrap (v3 + 1)))))) (some (.inr l2))) FUEL (p0, (IntKind.i64.wrap (p1 + 1)))) (fun l5 => some l5)
set_option maxHeartbeats 4000000 in
theorem slices_insertionSortCmpFunc_apportion_portion_ok {p0 : (List Tapportion_portion)} {p1 : Int} {p2 : Int} {p3 : (Tapportion_portion → Tapportion_portion → Option Int)} {a_0 : Option Addr}  {n_0 : Nat}  {c_0 : Nat} {r : (List Tapportion_portion)} {g3 : PV} (hg3 : ∀ {y0 : Tapportion_portion} {y1 : Tapportion_portion} {w : Int}, p3 y0 y1 = some w → PFV g3 [.agg [.v (.int .i64 y0.index_), .v (.int .u64 y0.share), .v (.int .u64 y0.rest)], .agg [.v (.int .i64 y1.index_), .v (.int .u64 y1.share), .v (.int .u64 y1.rest)]] (.v (.int .i64 w))) (h : slices_insertionSortCmpFunc_apportion_portion p0 p1 p2 p3 = some r) : PCall 141 [.v (.slice a_0 n_0 c_0), .v (.int .i64 p1), .v (.int .i64 p2), g3] [PRes.row a_0 n_0 c_0 144 3 (List.map Tapportion_portion.enc p0)] (fun pv ρ' => pv = .tup [] ∧ ρ' = [PRes.row a_0 n_0 c_0 144 3 (List.map Tapportion_portion.enc r)]) := by
 unfold slices_insertionSortCmpFunc_apportion_portion at h
 refine penter Tryz.func141 fk141 rfl Tryz.ntmps141 Tryz.results141 rfl ?_
 refine pwc_rowfact (enc := Tapportion_portion.enc) (xs := p0) (a := a_0) zm0 (fun hl ha => ?_); subst hl; clear ha
 refine yab (yaa ?_)
 refine zmv (p := .v (.int .i64 p1)) rfl rfl rfl rfl rfl ?_
 refine yah rfl rfl rfl (yas rfl (.p rfl) (.p rfl) rfl) ?_
 refine zas (p := .v (.int .i64 (IntKind.i64.wrap (p1 + 1)))) rfl rfl rfl rfl rfl ?_
 refine yad (yae ?_)
 refine yaf h ?_; clear h; intro q7 hq7 h
 refine pwc_cutK (Y := (Unit) × ((List Tapportion_portion))) (fun (_, l5) => []) (fun (_, l5) => [PRes.row a_0 p0.length c_0 144 3 (List.map Tapportion_portion.enc l5)]) (fun (_, l5) => q7 = l5) ?_ ?_
 ·refine yaz ?_
  refine pwc_loopF (Y := Unit) (S := (List Tapportion_portion) × Int) _ hq7 (fun _ (l2, v3) => [(0, .v (.slice a_0 p0.length c_0)), (1, .v (.int .i64 p1)), (2, .v (.int .i64 p2)), (3, g3), (8, .v (.int .i64 v3))]) (fun _ (l2, v3) => [PRes.row a_0 p0.length c_0 144 3 (List.map Tapportion_portion.enc l2)]) () (zhc rfl (zhc rfl (zhc rfl (zhc rfl (zhc rfl zhn))))) (zsc zph zsn) ?_
  rintro _ ⟨l2, v3⟩ o τ hb6; (try dsimp only at hb6); dsimp only [pupds]
  refine yab (yab (yaa ?_))
  refine zmv (p := .v (.int .i64 v3)) rfl rfl rfl rfl rfl ?_
  refine zmv (p := .v (.int .i64 p2)) rfl rfl rfl rfl rfl ?_
  refine yah rfl rfl rfl (yak rfl (.p rfl) (.p rfl) rfl) ?_
  refine yad (yae ?_)
  refine yal rfl (fun hc8 => ?_) (fun hc8 => ?_)
  ·replace hb6 := yav hc8 hb6
   refine yao (yae (yab (yaz (yab (yaa ?_)))))
   refine zmv (p := .v (.int .i64 v3)) rfl rfl rfl rfl rfl ?_
   refine zas (p := .v (.int .i64 v3)) rfl rfl rfl rfl rfl ?_
   refine yad (yae ?_)
   refine yaf hb6 ?_; clear hb6; intro q15 hq15 hb6
   refine pwc_cutK (Y := (Unit) × ((List Tapportion_portion))) (fun (_, l13) => [(0, .v (.slice a_0 p0.length c_0)), (1, .v (.int .i64 p1)), (2, .v (.int .i64 p2)), (3, g3), (8, .v (.int .i64 v3))]) (fun (_, l13) => [PRes.row a_0 p0.length c_0 144 3 (List.map Tapportion_portion.enc l13)]) (fun (_, l13) => q15 = l13) ?_ ?_
   ·refine yaz ?_
    refine pwc_loopF (Y := Unit) (S := (List Tapportion_portion) × Int) _ hq15 (fun _ (l10, v11) => [(0, .v (.slice a_0 p0.length c_0)), (1, .v (.int .i64 p1)), (2, .v (.int .i64 p2)), (3, g3), (8, .v (.int .i64 v3)), (9, .v (.int .i64 v11))]) (fun _ (l10, v11) => [PRes.row a_0 p0.length c_0 144 3 (List.map Tapportion_portion.enc l10)]) () (zhc rfl (zhc rfl (zhc rfl (zhc rfl (zhc rfl (zhc rfl zhn)))))) (zsc zph zsn) ?_
    rintro _ ⟨l10, v11⟩ o τ hb14; (try dsimp only at hb14); dsimp only [pupds]
    refine yab (yab ?_)
    refine pwc_draw (ρd := []) [(0, 0), (1, 0), (2, 0), (3, 0), (4, 0), (5, 0), (6, 0), (7, 0), (8, 0), (9, 0), (10, 0), (11, 0), (12, 0), (13, 0), (14, 1), (15, 0), (16, 0)] _ (List.Perm.refl _) (by kernel_rfl) rfl ?_
    refine ybf rfl rfl rfl (yam (p := .v (.int .i64 v11)) rfl (.p rfl)) ?_
    refine ybf rfl rfl rfl (yam (p := .v (.int .i64 p1)) rfl (.p rfl)) ?_
    refine ybf rfl rfl rfl (yak rfl (.p rfl) (.p rfl) rfl) ?_
    refine ybf rfl rfl rfl (yam (p := .v (.bool (decide (p1 < v11)))) rfl (.p rfl)) ?_
    refine ybi (yan rfl rfl rfl) rfl rfl (yam (p := g3) rfl (.p rfl)) ?_
    refine ybi (yan rfl rfl rfl) rfl rfl (yam (p := .v (.slice a_0 p0.length c_0)) rfl (.p rfl)) ?_
    refine ybi (yan rfl rfl rfl) rfl rfl (yam (p := .v (.int .i64 v11)) rfl (.p rfl)) ?_
    refine yaf hb14 ?_; clear hb14; intro m16 hm16 hb14
    refine ybi (yan rfl rfl rfl) rfl rfl (pq_indexO (enc := Tapportion_portion.enc) (xs := l10) rfl rfl rfl (.g rfl) zm0 (.g rfl) (gd_t hm16)) ?_
    refine ybi (yan rfl rfl rfl) rfl rfl (pq_load_o (p := .agg [.v (.int .i64 m16.index_), .v (.int .u64 m16.share), .v (.int .u64 m16.rest)]) (enc := Tapportion_portion.enc) (xs := l10) (a := a_0) v11 0 m16 rfl (.g rfl) rfl zm0 (gd_t hm16) rfl) ?_
    refine ybi (yan rfl rfl rfl) rfl rfl (yam (p := .v (.slice a_0 p0.length c_0)) rfl (.p rfl)) ?_
    refine ybi (yan rfl rfl rfl) rfl rfl (yam (p := .v (.int .i64 v11)) rfl (.p rfl)) ?_
    refine ybi (yan rfl rfl rfl) rfl rfl (yas rfl (.g rfl) (.p rfl) rfl) ?_
    refine yaf hb14 ?_; clear hb14; intro m17 hm17 hb14
    refine ybi (yan rfl rfl rfl) rfl rfl (pq_indexO (enc := Tapportion_portion.enc) (xs := l10) rfl rfl rfl (.g rfl) zm0 (.g rfl) (gd_t hm17)) ?_
    refine ybi (yan rfl rfl rfl) rfl rfl (pq_load_o (p := .agg [.v (.int .i64 m17.index_), .v (.int .u64 m17.share), .v (.int .u64 m17.rest)]) (enc := Tapportion_portion.enc) (xs := l10) (a := a_0) (IntKind.i64.wrap (v11 - 1)) 0 m17 rfl (.g rfl) rfl zm0 (gd_t hm17) rfl) ?_
    refine yaf hb14 ?_; clear hb14; intro x18 hx18 hb14
    refine pwd_callvg (yan rfl rfl rfl) rfl rfl rfl (.g rfl) (ybg (.g rfl) (ybg (.g rfl) (pargs_nil))) (fun hc => hg3 (gd_t hx18 hc)) ?_
    refine ybi (yan rfl rfl rfl) rfl rfl (yak rfl (.g rfl) (.p rfl) rfl) ?_
    refine ybf rfl rfl rfl (pq_and rfl (.p rfl) (.p rfl) (.g rfl)) ?_
    refine pwd_nil (yae ?_)
    refine yal rfl (fun hc19 => ?_) (fun hc19 => ?_)
    ·replace hb14 := yav hc19 hb14
     refine yao (yae (yab (yaz ?_)))
     refine pwc_rowfact (enc := Tapportion_portion.enc) (xs := l10) (a := a_0) zm0 (fun hl20 ha21 => ?_)
     refine yaf hb14 ?_; clear hb14; intro m22 hm22 hb14
     refine yaf hb14 ?_; clear hb14; intro m23 hm23 hb14
     refine yaf hb14 ?_; clear hb14; intro m24 hm24 hb14
     refine yaf hb14 ?_; clear hb14; intro m26 hm26 hb14
     refine pwc_cutK (Y := Unit) (fun _ => [(0, .v (.slice a_0 p0.length c_0)), (1, .v (.int .i64 p1)), (2, .v (.int .i64 p2)), (3, g3), (8, .v (.int .i64 v3)), (9, .v (.int .i64 v11))]) (fun _ => [PRes.row a_0 p0.length c_0 144 3 (List.map Tapportion_portion.enc ((l10.set v11.toNat m22).set (IntKind.i64.wrap (v11 - 1)).toNat m23))]) (fun _ => True) ?_ ?_
     ·refine pws_start (ρd := [PRes.row a_0 _ _ _ _ _]) _ (List.Perm.refl _) ?_
      refine pws_q 0 (by kernel_rfl) rfl rfl rfl rfl (yam (p := .v (.slice a_0 p0.length c_0)) rfl (.p rfl)) ?_
      refine pws_q 1 (by kernel_rfl) rfl rfl rfl rfl (yam (p := .v (.int .i64 v11)) rfl (.p rfl)) ?_
      refine pws_q 2 (by kernel_rfl) rfl rfl rfl rfl (yam (p := .v (.slice a_0 p0.length c_0)) rfl (.p rfl)) ?_
      refine pws_q 3 (by kernel_rfl) rfl rfl rfl rfl (yam (p := .v (.int .i64 v11)) rfl (.p rfl)) ?_
      refine pws_q 4 (by kernel_rfl) rfl rfl rfl rfl (yas rfl (.p rfl) (.p rfl) rfl) ?_
      refine pws_q 5 (by kernel_rfl) rfl rfl rfl rfl (yam (p := .v (.slice a_0 p0.length c_0)) rfl (.p rfl)) ?_
      refine pws_q 6 (by kernel_rfl) rfl rfl rfl rfl (yam (p := .v (.int .i64 v11)) rfl (.p rfl)) ?_
      refine pws_q 7 (by kernel_rfl) rfl rfl rfl rfl (yas rfl (.p rfl) (.p rfl) rfl) ?_
      refine pws_q 8 (by kernel_rfl) rfl rfl rfl rfl (pq_indexF (xs := l10) (by (try simp only [List.length_set]); exact hl20) ha21 rfl rfl rfl (.p rfl) (.p rfl) (fun _ => hm22)) ?_
      refine pws_q 10 (by kernel_rfl) rfl rfl rfl rfl (yam (p := .v (.slice a_0 p0.length c_0)) rfl (.p rfl)) ?_
      refine pws_q 11 (by kernel_rfl) rfl rfl rfl rfl (yam (p := .v (.int .i64 v11)) rfl (.p rfl)) ?_
      refine pws_q 12 (by kernel_rfl) rfl rfl rfl rfl (pq_indexF (xs := l10) (by (try simp only [List.length_set]); exact hl20) ha21 rfl rfl rfl (.p rfl) (.p rfl) (fun _ => hm23)) ?_
      refine pws_two 9 13 (by kernel_rfl) ?_ ?_
      ·skip
       refine pstep_l rfl rfl rfl rfl (pl_q (pq_load_o (p := .agg [.v (.int .i64 m22.index_), .v (.int .u64 m22.share), .v (.int .u64 m22.rest)]) (enc := Tapportion_portion.enc) (xs := l10) (a := a_0) (IntKind.i64.wrap (v11 - 1)) 0 m22 rfl (.p rfl) rfl zm0 (fun _ => hm22) rfl) ?_)
       refine pws_one 13 (by kernel_rfl) ?_
       refine pstep_l rfl rfl rfl rfl (pl_q (pq_load_o (p := .agg [.v (.int .i64 m23.index_), .v (.int .u64 m23.share), .v (.int .u64 m23.rest)]) (enc := Tapportion_portion.enc) (xs := l10) (a := a_0) v11 0 m23 rfl (.p rfl) rfl zm0 (fun _ => hm23) rfl) ?_)
       refine pws_q 14 (by kernel_rfl) rfl rfl rfl rfl (pq_indexF (xs := l10) (by (try simp only [List.length_set]); exact hl20) ha21 rfl rfl rfl (.p rfl) (.p rfl) (fun _ => hm24)) ?_
       refine pws_one 15 (by kernel_rfl) ?_
       refine pstep_l0 rfl rfl rfl (pl_store_o (enc := Tapportion_portion.enc) (xs := l10) (a := a_0) v11 0 m24 m22 rfl rfl rfl rfl (fun _ => rfl) rfl rfl hm24 (zlc (zlc (zlc zln))) zuh ?_)
       refine pws_q 16 (by kernel_rfl) rfl rfl rfl rfl (pq_indexF (xs := (l10.set v11.toNat m22)) (by (try simp only [List.length_set]); exact hl20) ha21 rfl rfl rfl (.p rfl) (.p rfl) (fun _ => hm26)) ?_
       refine pws_one 17 (by kernel_rfl) ?_
       refine pstep_l0 rfl rfl rfl (pl_store_o (enc := Tapportion_portion.enc) (xs := (l10.set v11.toNat m22)) (a := a_0) (IntKind.i64.wrap (v11 - 1)) 0 m26 m23 rfl rfl rfl rfl (fun _ => rfl) rfl rfl hm26 (zlc (zlc (zlc zln))) zuh ?_)
       refine pws_done (by kernel_rfl) ?_
       exact pk_cut () (zhc rfl (zhc rfl (zhc rfl (zhc rfl (zhc rfl (zhc rfl zhn)))))) (zsc zph zsn) trivial
      ·skip
       refine pstep_l rfl rfl rfl rfl (pl_q (pq_load_o (p := .agg [.v (.int .i64 m23.index_), .v (.int .u64 m23.share), .v (.int .u64 m23.rest)]) (enc := Tapportion_portion.enc) (xs := l10) (a := a_0) v11 0 m23 rfl (.p rfl) rfl zm0 (fun _ => hm23) rfl) ?_)
       refine pws_one 9 (by kernel_rfl) ?_
       refine pstep_l rfl rfl rfl rfl (pl_q (pq_load_o (p := .agg [.v (.int .i64 m22.index_), .v (.int .u64 m22.share), .v (.int .u64 m22.rest)]) (enc := Tapportion_portion.enc) (xs := l10) (a := a_0) (IntKind.i64.wrap (v11 - 1)) 0 m22 rfl (.p rfl) rfl zm0 (fun _ => hm22) rfl) ?_)
       refine pws_q 14 (by kernel_rfl) rfl rfl rfl rfl (pq_indexF (xs := l10) (by (try simp only [List.length_set]); exact hl20) ha21 rfl rfl rfl (.p rfl) (.p rfl) (fun _ => hm24)) ?_
       refine pws_one 15 (by kernel_rfl) ?_
       refine pstep_l0 rfl rfl rfl (pl_store_o (enc := Tapportion_portion.enc) (xs := l10) (a := a_0) v11 0 m24 m22 rfl rfl rfl rfl (fun _ => rfl) rfl rfl hm24 (zlc (zlc (zlc zln))) zuh ?_)
       refine pws_q 16 (by kernel_rfl) rfl rfl rfl rfl (pq_indexF (xs := (l10.set v11.toNat m22)) (by (try simp only [List.length_set]); exact hl20) ha21 rfl rfl rfl (.p rfl) (.p rfl) (fun _ => hm26)) ?_
       refine pws_one 17 (by kernel_rfl) ?_
       refine pstep_l0 rfl rfl rfl (pl_store_o (enc := Tapportion_portion.enc) (xs := (l10.set v11.toNat m22)) (a := a_0) (IntKind.i64.wrap (v11 - 1)) 0 m26 m23 rfl rfl rfl rfl (fun _ => rfl) rfl rfl hm26 (zlc (zlc (zlc zln))) zuh ?_)
       refine pws_done (by kernel_rfl) ?_
       exact pk_cut () (zhc rfl (zhc rfl (zhc rfl (zhc rfl (zhc rfl (zhc rfl zhn)))))) (zsc zph zsn) trivial
     ·rintro _ τ ρ1 hsub28 _; (try dsimp only at hsub28); dsimp only [pupds]
      refine ybc (yae ?_)
      refine pwc_sub hsub28 ?_
      refine yaa ?_
      refine zmv (p := .v (.int .i64 v11)) rfl rfl rfl rfl rfl ?_
      refine yah rfl rfl rfl (yas rfl (.p rfl) (.p rfl) rfl) ?_
      refine zas (p := .v (.int .i64 (IntKind.i64.wrap (v11 - 1)))) rfl rfl rfl rfl rfl ?_
      refine yad ?_
      exact pk_loop hb14 () (zhc rfl (zhc rfl (zhc rfl (zhc rfl (zhc rfl (zhc rfl zhn)))))) (zsc zph zsn)
    ·replace hb14 := yaw hc19 hb14
     refine pwc_exit (ybm ?_)
     refine ybh hb14 (fun ht => ?_)
     refine ybj rfl ?_
     exact pk_cut ((), l10) (zhc rfl (zhc rfl (zhc rfl (zhc rfl (zhc rfl zhn))))) (zsc zph zsn) ht.symm
   ·rintro ⟨_, l13⟩ τ ρ1 hsub29 hz; (try dsimp only at hz hsub29); subst q15; (try dsimp only at hb6); dsimp only [pupds]
    refine ybc (yae ?_)
    refine pwc_sub hsub29 ?_
    refine yaa ?_
    refine zmv (p := .v (.int .i64 v3)) rfl rfl rfl rfl rfl ?_
    refine yah rfl rfl rfl (yas rfl (.p rfl) (.p rfl) rfl) ?_
    refine zas (p := .v (.int .i64 (IntKind.i64.wrap (v3 + 1)))) rfl rfl rfl rfl rfl ?_
    refine yad ?_
    exact pk_loop hb6 () (zhc rfl (zhc rfl (zhc rfl (zhc rfl (zhc rfl zhn))))) (zsc zph zsn)
  ·replace hb6 := yaw hc8 hb6
   refine pwc_exit (ybm ?_)
   refine ybh hb6 (fun ht => ?_)
   refine ybj rfl ?_
   exact pk_cut ((), l2) zhn (zsc zph zsn) ht.symm
 ·rintro ⟨_, l5⟩ τ ρ1 hsub30 hz; (try dsimp only at hz hsub30); subst q7; (try dsimp only at h); dsimp only [pupds]
  obtain rfl := Option.some.inj h
  exact pret_ofN (rfl : PRV [] _ _ (.tup [])) (PSub.trans (zsc zph zsn) hsub30) ⟨rfl, rfl⟩
def slices_Clone_string_string (p0 : (List ByteArray)) : Option (List ByteArray) := app 16 ([] : List ByteArray) p0
set_option maxHeartbeats 4000000 in
theorem slices_Clone_string_string_ok {p0 : (List ByteArray)} {r : (List ByteArray)} (h : slices_Clone_string_string p0 = some r) : PCall 58 [.slc (List.map eS p0)] [] (fun pv ρ' => ∃ a c, pv = .v (.slice a r.length c) ∧ ρ' = [PRes.row a r.length c 9 1 (List.map eS r)]) := by
 unfold slices_Clone_string_string at h
 refine penter Tryz.func58 fk58 rfl Tryz.ntmps58 Tryz.results58 rfl ?_
 (repeat refine yab ?_)
 refine yaa ?_
 refine zas (p := .v (.slice none 0 0)) rfl rfl rfl rfl rfl ?_
 refine yad (yae ?_)
 (repeat refine yab ?_)
 refine yaa ?_
 refine zmv (p := .slc (List.map eS p0)) rfl rfl rfl rfl rfl ?_
 refine pwl_eqnil rfl rfl rfl rfl rfl rfl (fun b hb => ?_)
 refine yad (yae ?_)
 refine yal rfl (fun hc => ?_) (fun hc => ?_)
 ·have e0 : p0 = [] := List.map_eq_nil_iff.1 (hb hc)
  subst e0; obtain ⟨rfl, _⟩ := app_some h
  (repeat refine yab ?_)
  refine yaa ?_
  refine zas (p := .v (.slice none 0 0)) rfl rfl rfl rfl rfl ?_
  refine yad (yae ?_)
  refine pwc_nilrow 9 1 ?_
  refine yaq (yap ?_)
  exact yar (prv_1 (yat rfl)) (zsc zph zsn) ⟨_, _, rfl, rfl⟩
 ·refine yao ?_
  refine yae ?_
  (repeat refine yab ?_)
  refine yaa ?_
  refine ybl rfl rfl rfl (pl_lit rfl rfl rfl rfl rfl zin rfl rfl rfl rfl (fun b1 => ?_))
  refine zmv (p := .slc (List.map eS p0)) rfl rfl rfl rfl rfl ?_
  refine ybl rfl rfl rfl (pl_app_s (enc := eS) (xs := ([] : List ByteArray)) rfl rfl rfl rfl rfl (fun _ => rfl) rfl rfl rfl (by exact zph) h (fun a c => ?_))
  refine zas (p := .v (.slice a r.length c)) rfl rfl rfl rfl rfl ?_
  refine yad (yae (yaq ?_))
  exact yar (prv_1 (yat rfl)) (zsc zph zsn) ⟨_, _, rfl, rfl⟩
def slices_Clone_int_int (p0 : (List Int)) : Option (List Int) := app 8 ([] : List Int) p0
set_option maxHeartbeats 4000000 in
theorem slices_Clone_int_int_ok {p0 : (List Int)} {r : (List Int)} (h : slices_Clone_int_int p0 = some r) : PCall 61 [.slc (List.map eI p0)] [] (fun pv ρ' => ∃ a c, pv = .v (.slice a r.length c) ∧ ρ' = [PRes.row a r.length c 3 1 (List.map eI r)]) := by
 unfold slices_Clone_int_int at h
 refine penter Tryz.func61 fk61 rfl Tryz.ntmps61 Tryz.results61 rfl ?_
 (repeat refine yab ?_)
 refine yaa ?_
 refine zas (p := .v (.slice none 0 0)) rfl rfl rfl rfl rfl ?_
 refine yad (yae ?_)
 (repeat refine yab ?_)
 refine yaa ?_
 refine zmv (p := .slc (List.map eI p0)) rfl rfl rfl rfl rfl ?_
 refine pwl_eqnil rfl rfl rfl rfl rfl rfl (fun b hb => ?_)
 refine yad (yae ?_)
 refine yal rfl (fun hc => ?_) (fun hc => ?_)
 ·have e0 : p0 = [] := List.map_eq_nil_iff.1 (hb hc)
  subst e0; obtain ⟨rfl, _⟩ := app_some h
  (repeat refine yab ?_)
  refine yaa ?_
  refine zas (p := .v (.slice none 0 0)) rfl rfl rfl rfl rfl ?_
  refine yad (yae ?_)
  refine pwc_nilrow 3 1 ?_
  refine yaq (yap ?_)
  exact yar (prv_1 (yat rfl)) (zsc zph zsn) ⟨_, _, rfl, rfl⟩
 ·refine yao ?_
  refine yae ?_
  (repeat refine yab ?_)
  refine yaa ?_
  refine ybl rfl rfl rfl (pl_lit rfl rfl rfl rfl rfl zin rfl rfl rfl rfl (fun b1 => ?_))
  refine zmv (p := .slc (List.map eI p0)) rfl rfl rfl rfl rfl ?_
  refine ybl rfl rfl rfl (pl_app_s (enc := eI) (xs := ([] : List Int)) rfl rfl rfl rfl rfl (fun _ => rfl) rfl rfl rfl (by exact zph) h (fun a c => ?_))
  refine zas (p := .v (.slice a r.length c)) rfl rfl rfl rfl rfl ?_
  refine yad (yae (yaq ?_))
  exact yar (prv_1 (yat rfl)) (zsc zph zsn) ⟨_, _, rfl, rfl⟩
end SX
end Go.Proofs.YtfcecieppoljlaaGreatDoor
set_option maxRecDepth 100000
namespace Go.Proofs.YtfcecieppoljlaaGreatDoor
namespace SX
open Go
abbrev bl (s : ByteArray) : List UInt8 := s.data.toList
theorem bl_hi (s : ByteArray) (k : Nat) : bl (s.extract 0 k) = (bl s).take k := by simp [bl]
theorem bl_lo (s : ByteArray) (k : Nat) : bl (s.extract k s.size) = (bl s).drop k := by
  simp only [bl, ByteArray.data_extract, Array.toList_extract, List.extract_eq_take_drop]
  rw [List.take_of_length_le]; simp
theorem bl_size (s : ByteArray) : s.size = (bl s).length := by simp [bl]
theorem bl_inj {s u : ByteArray} (h : bl s = bl u) : s = u := by
  obtain ⟨⟨x⟩⟩ := s; obtain ⟨⟨y⟩⟩ := u; simp [bl] at h; subst h; rfl
def isDig (n : Nat) : Bool := decide (48 ≤ n ∧ n ≤ 57)
def setCells (p : Nat → Bool) : List Value := (List.range 256).map fun i => .bool (p i)
theorem setCells_len (p : Nat → Bool) : (setCells p).length = 256 := by simp [setCells]
theorem setCells_get (p : Nat → Bool) {j : Nat} (h : j < 256) : (setCells p)[j]? = some (.bool (p j)) := by simp [setCells, h]
theorem setCells_set (p q : Nat → Bool) {j : Nat} (h : ∀ i, q i = (decide (i = j) || p i)) : (setCells p).set j (.bool true) = setCells q := by
  apply List.ext_getElem?
  intro i
  rw [List.getElem?_set]
  simp only [setCells_len]
  rcases Nat.lt_or_ge i 256 with hi | hi
  · rw [setCells_get q hi, setCells_get p hi, h i]
    by_cases e : j = i
    · subst e; simp [hi]
    · rw [if_neg e]; simp [show ¬ i = j from fun h => e h.symm]
  · rw [List.getElem?_eq_none (by rw [setCells_len]; exact hi), List.getElem?_eq_none (by rw [setCells_len]; exact hi)]
    split
    · rw [if_neg (by omega)]
    · rfl
section
variable {o : Oper} {σ : Env} {ρ : List Res} {κ : Kr} {c : Bool} {x y : Operand} {K : Value → List Res → Kr → Prop}
theorem Sh.at1 {b k : Nat} {cs : List Value} {v : Value} (h : Sh κ b 0 cs) (hv : cs[k]? = some v) : Sh κ b (0 + k * 1) [v] := ⟨h.1, fun j u hu => by
  cases j with
  | zero => simp at hu; subst hu; have := h.2 k v hv; simpa using this
  | succ j => simp at hu⟩
theorem oq_load_all {t b T sz by' : Nat} {cs : List Value} {z : Value} {d : TypeDesc} (ho : o.op = .load t x) (hx : Ev σ c x (.pointer (some ⟨b, 0, none⟩))) (hm : Res.b b T cs ∈ ρ) (hd : und t = some d) (ha : isAggD d = true) (hi : inf t = some (z, sz, by')) (hl : cs.length = sz) : OpQ c o σ ρ κ (.agg cs.toArray) := by
  refine oq_load_b ho hx hm ?_
  unfold readAs
  simp only [hd, hi, ha, cond_true, List.drop_zero]
  rw [Nat.ble_eq_true_of_le (by omega)]
  simp [← hl]
end
attribute [local irreducible] WL WC WD OpL OpQ OpG Ev GuardIs seqK blockK retK Call CallP midK loopK Holds upds Sub Pick WS Step Lit Upd SetAt SpliceAt FillR Sh LateRun
theorem contains_ok (κ : Kr) (b : Nat) (p : Nat → Bool) (m : Int) (hs : Sh κ b 0 (setCells p)) (h0 : 0 ≤ m) (h1 : m ≤ 255) : CallP 111 [.pointer (some ⟨b, 0, none⟩), .int .u8 m] κ fun v _ => v = .bool (p m.toNat) := by
  (unfold CallP; apply call_of Tryz.func111 fk111 rfl Tryz.ntmps111 Tryz.results111 rfl)
  repeat (first | (first | (apply wl_q rfl rfl rfl; (focus (first | exact oq_move (v := (.int _ _)) rfl (.p rfl) | exact oq_move (v := (.pointer _)) rfl (.p rfl) | exact oq_assign (v := (.bool _)) rfl (.p rfl) | exact oq_nilCheck rfl (.p rfl)))) | apply wl_nil) | (first | apply wc_seq | apply wc_region | apply k_seq))
  apply wl_q rfl rfl rfl (oq_indexP (j := m.toNat) rfl rfl rfl (.p rfl) (.p rfl) (fun _ => by omega) (fun _ => by omega))
  apply wl_q rfl rfl rfl (oq_load_s rfl (.p rfl) (fun _ => (hs.mono (by (repeat (exact Kle.refl _)))).at1 (setCells_get p (by omega))) rfl)
  repeat (first | (first | (apply wl_q rfl rfl rfl; (focus (exact oq_assign (v := (.bool _)) rfl (.p rfl)))) | apply wl_nil) | (first | apply k_seq | apply wc_ret))
  exact ret_of (rv_t (v := .bool _) rfl) .none ⟨rfl, rfl⟩
def digits10 : ByteArray := ⟨#[48, 49, 50, 51, 52, 53, 54, 55, 56, 57]⟩
theorem digits10_get : ∀ {k : Nat}, k < 10 → ((digits10.data.toList.getD k 0).toNat : Int) = 48 + (k : Int) := by decide
theorem ascii_ok (κ : Kr) : CallP 79 [.string digits10] κ fun v _ => v = .tuple #[.agg (setCells isDig).toArray, .bool true] := by
  (unfold CallP; apply call_of Tryz.func79 fk79 rfl Tryz.ntmps79 Tryz.results79 rfl)
  repeat (first | (first | (apply wl_q rfl rfl rfl; (focus (first | exact oq_assign (v := (.int _ _)) rfl (.p rfl) | exact oq_assign (v := (.bool _)) rfl (.p rfl)))) | (apply wl_l rfl rfl rfl; apply ol_allocA rfl rfl; intro _ _ _) | apply wl_nil) | (first | apply wc_seq | apply wc_region | apply wc_block | apply k_seq))
  rename_i b2 κ1 _
  have e0 : List.replicate 256 (Value.bool false) = setCells (fun i => decide (48 ≤ i ∧ i < 48 + 0)) := by
    apply List.ext_getElem?
    intro i
    rcases Nat.lt_or_ge i 256 with hi | hi
    · rw [setCells_get _ hi, List.getElem?_replicate, if_pos hi]; congr 2; symm; rw [decide_eq_false_iff_not]; omega
    · rw [List.getElem?_eq_none (by simpa using hi), List.getElem?_eq_none (by rw [setCells_len]; exact hi)]
  rw [e0]
  refine wc_loopL (X := Nat) (fun k => [(0, .string digits10), (2, .pointer (some ⟨b2, 0, none⟩)), (4, .int .i64 (k : Int))]) (fun k => [Res.b b2 129 (setCells fun i => decide (48 ≤ i ∧ i < 48 + k))]) (fun k _ => k ≤ 10) (fun k => 10 - k) 0 (by (repeat (first | exact Holds.nil | apply Holds.cons rfl))) (by (repeat (first | exact Sub.nil | (apply Sub.cons; (focus (repeat (exact Pick.h))))))) (by omega) ?_
  intro k τ κ2 _ hk
  simp only [upds]
  repeat (first | (first | (apply wl_q rfl rfl rfl; (focus (first | exact oq_move (v := (.int _ _)) rfl (.p rfl) | exact oq_move (v := (.string _)) rfl (.p rfl) | exact oq_cmp rfl (.p rfl) (.p rfl) rfl | exact oq_lenS rfl rfl (.p rfl)))) | apply wl_nil) | (first | apply wc_seq | apply wc_region | apply k_seq))
  apply wc_dec rfl <;> intro hc
  · have hk10 : k < 10 := by
      have e : (digits10.size : Int) = 10 := rfl
      rw [e] at hc; omega
    repeat (first | (apply wl_q rfl rfl rfl; (focus (first | exact oq_move (v := (.int _ _)) rfl (.p rfl) | exact oq_move (v := (.string _)) rfl (.p rfl)))) | (first | apply wc_seq | apply wc_region | apply wc_block | apply k_seq | apply wc_skip))
    apply wl_q rfl rfl rfl (oq_indexS (s := digits10) (j := k) rfl rfl (.p rfl) (.p rfl) (fun _ => rfl) (fun _ => hk10))
    rw [digits10_get hk10]
    repeat (first | (first | (apply wl_q rfl rfl rfl; (focus (first | exact oq_move (v := (.int _ _)) rfl (.p rfl) | exact oq_assign (v := (.int _ _)) rfl (.p rfl) | exact oq_cmp rfl (.p rfl) (.p rfl) rfl))) | apply wl_nil) | (first | apply wc_seq | apply wc_region | apply k_seq))
    apply wc_condF (by have : ¬ (128 : Int) ≤ 48 + (k : Int) := by omega
                       simp [ev, upd, this])
    repeat (first | (apply wl_q rfl rfl rfl; (focus (exact oq_move (v := (.int _ _)) rfl (.p rfl)))) | (first | apply wc_region | apply k_seq | apply wc_skip))
    apply wl_q rfl rfl rfl (oq_indexP (j := 48 + k) rfl rfl rfl (.p rfl) (.p rfl) (fun _ => by omega) (fun _ => by omega))
    apply wl_l0 rfl rfl
    apply ol_storeI (v := .bool true) rfl rfl rfl rfl rfl rfl (by (repeat (exact Upd.h))) (by rw [setCells_len]; omega)
    intro κ3 _
    have e1 : (setCells fun i => decide (48 ≤ i ∧ i < 48 + k)).set (0 + (48 + k) * 1) (.bool true) = setCells fun i => decide (48 ≤ i ∧ i < 48 + (k + 1)) :=
      setCells_set _ _ fun i => by rw [Bool.eq_iff_iff]; simp; omega
    rw [e1]
    repeat (first | (first | (apply wl_q rfl rfl rfl; (focus (first | exact oq_move (v := (.int _ _)) rfl (.p rfl) | exact oq_assign (v := (.int _ _)) rfl (.p rfl) | exact oq_arith64 rfl (.p rfl) (.p rfl) rfl (fun _ => by omega)))) | apply wl_nil) | (first | apply wc_region | apply k_seq | apply k_block_n))
    exact k_loop (k + 1) (by (repeat (first | exact Holds.nil | apply Holds.cons rfl))) (by (repeat (first | exact Sub.nil | (apply Sub.cons; (focus (repeat (exact Pick.h))))))) (by omega) (by omega)
  · have hk10 : k = 10 := by
      have e : (digits10.size : Int) = 10 := rfl
      rw [e] at hc; omega
    subst hk10
    have e2 : (fun i => decide (48 ≤ i ∧ i < 48 + 10)) = isDig := by funext i; simp only [isDig]; rw [Bool.eq_iff_iff]; simp; omega
    rw [e2]
    apply wc_exit; apply k_seq_exit; apply k_loop_exit; apply k_block_eq rfl; apply k_seq; apply wc_seq; apply wc_region
    apply wl_q rfl rfl rfl (oq_load_all rfl (.p rfl) (by (repeat (exact List.Mem.head _))) rfl rfl rfl (setCells_len _))
    apply wl_l0 rfl rfl
    apply ol_storeA rfl rfl rfl rfl (setCells_len _) (by simp [setCells, Value.oneCell']) (by (repeat (exact Upd.h))) rfl
    intro κ3 _
    repeat (first | (first | (apply wl_q rfl rfl rfl; (focus (exact oq_assign (v := (.bool _)) rfl (.p rfl)))) | apply wl_nil) | (first | apply k_seq | apply wc_ret))
    refine ret_of (rv_2 (RV1.cell rfl (by (repeat (exact List.Mem.head _))) ?_) (rv1_t (v := .bool _) rfl)) .none ⟨rfl, rfl⟩
    unfold readAs
    simp only [show und 129 = some (.array 256 4) from rfl, show inf 129 = some (.agg (List.replicate 256 (.bool false)).toArray, 256, 256) from rfl, isAggD, cond_true, List.drop_zero, setCells_len]
    rw [List.take_of_length_le (by rw [setCells_len]; omega)]; rfl
theorem getD_lt {l : List UInt8} {j : Nat} (h : j < l.length) : l.getD j 0 = l[j] := by simp [List.getD_eq_getElem?_getD, h]
theorem trimRight_ok (κ : Kr) (b : Nat) (s : ByteArray) (hs : Sh κ b 0 (setCells isDig)) (hz : s.size ≤ 1000000000) : CallP 81 [.string s, .pointer (some ⟨b, 0, none⟩)] κ fun v _ => ∃ u k, v = .string u ∧ bl u = (bl s).take k ∧ k ≤ (bl s).length ∧ (∀ c ∈ (bl s).drop k, isDig c.toNat = true) ∧ (∀ c, (bl u).getLast? = some c → isDig c.toNat = false) := by
  (unfold CallP; apply call_of Tryz.func81 fk81 rfl Tryz.ntmps81 Tryz.results81 rfl)
  repeat (first | (first | (apply wl_q rfl rfl rfl; (focus (exact oq_assign (v := (.string _)) rfl (.p rfl)))) | apply wl_nil) | (first | apply wc_seq | apply wc_region | apply wc_block | apply k_seq))
  refine wc_loopL (X := ByteArray × Nat) (fun z => [(0, .string z.1), (1, .pointer (some ⟨b, 0, none⟩))]) (fun _ => []) (fun z _ => bl z.1 = (bl s).take z.2 ∧ z.2 ≤ (bl s).length ∧ ∀ c ∈ (bl s).drop z.2, isDig c.toNat = true) (fun z => z.2) (s, (bl s).length) (by (repeat (first | exact Holds.nil | apply Holds.cons rfl))) (by (repeat (exact Sub.nil))) ⟨(List.take_length).symm, Nat.le_refl _, by rw [List.drop_length]; simp⟩ ?_
  rw [bl_size] at hz
  rintro ⟨u, k⟩ τ κ2 _ ⟨h1, h2, h3⟩
  dsimp only at h1 h2 h3
  have hsz : u.size = k := by rw [bl_size, h1, List.length_take]; omega
  simp only [upds]
  repeat (first | (first | (apply wl_q rfl rfl rfl; (focus (first | exact oq_move (v := (.string _)) rfl (.p rfl) | exact oq_cmp rfl (.p rfl) (.p rfl) rfl | exact oq_lenS rfl rfl (.p rfl)))) | apply wl_nil) | (first | apply wc_seq | apply wc_region | apply k_seq))
  apply wc_dec rfl <;> intro hc
  · have hk0 : 0 < k := by omega
    repeat (first | (apply wl_q rfl rfl rfl; (focus (first | exact oq_move (v := (.pointer _)) rfl (.p rfl) | exact oq_move (v := (.string _)) rfl (.p rfl) | exact oq_arith64 rfl (.p rfl) (.p rfl) rfl (fun _ => by omega) | exact oq_lenS rfl rfl (.p rfl)))) | (first | apply wc_seq | apply wc_region | apply wc_block | apply k_seq | apply wc_skip))
    apply wl_q rfl rfl rfl (oq_indexS (j := k - 1) rfl rfl (.p rfl) (.p rfl) (fun _ => by omega) (fun _ => by omega))
    have hlast : (bl u).getLast? = some ((bl u).getD (k - 1) 0) := by
      rw [List.getLast?_eq_getElem?, ← bl_size, hsz, getD_lt (by rw [← bl_size]; omega), List.getElem?_eq_getElem]
    apply wl_l rfl rfl rfl; apply ol_callP rfl rfl (contains_ok _ b isDig ((u.data.toList.getD (k - 1) 0).toNat : Int) (hs.mono (by (repeat (assumption)))) (by omega) (by have := (u.data.toList.getD (k - 1) 0).toNat_lt; omega))
    rintro v κ3 _ rfl
    repeat (first | (first | (apply wl_q rfl rfl rfl; (focus (exact oq_not rfl (.p rfl)))) | apply wl_nil) | (apply k_seq))
    rw [Int.toNat_natCast]
    apply wc_cond rfl <;> intro hb
    · repeat (first | (first | (apply wl_q rfl rfl rfl; (focus (first | exact oq_move (v := (.string _)) rfl (.p rfl) | exact oq_assign (v := (.string _)) rfl (.p rfl)))) | apply wl_nil) | (first | apply wc_seq | apply wc_region | apply k_seq | apply wc_ret | apply wc_exit | apply k_seq_exit | apply k_block_eq rfl | apply k_block_ne rfl | apply k_loop_exit))
      refine ret_of (rv_t (v := .string _) rfl) .none ⟨rfl, u, k, rfl, h1, h2, h3, fun c hc => ?_⟩
      rw [hlast] at hc; injection hc with hc; subst hc; simpa using hb
    · repeat (first | (apply wl_q rfl rfl rfl; (focus (first | exact oq_move (v := (.string _)) rfl (.p rfl) | exact oq_arith64 rfl (.p rfl) (.p rfl) rfl (fun _ => by omega) | exact oq_lenS rfl rfl (.p rfl)))) | (first | apply wc_region | apply k_seq | apply wc_skip))
      apply wl_q rfl rfl rfl (oq_sliceSHi (h := k - 1) rfl rfl (.p rfl) (.p rfl) (fun _ => by omega) (fun _ => by omega))
      repeat (first | (first | (apply wl_q rfl rfl rfl; (focus (exact oq_assign (v := (.string _)) rfl (.p rfl)))) | apply wl_nil) | (apply k_block_n))
      refine k_loop (u.extract 0 (k - 1), k - 1) (by (repeat (first | exact Holds.nil | apply Holds.cons rfl))) (by (repeat (exact Sub.nil))) ⟨?_, by ((try dsimp only at *) <;> omega), ?_⟩ (by ((try dsimp only at *) <;> omega))
      · rw [bl_hi, h1, List.take_take]; congr 1; omega
      · intro c hc
        rw [List.drop_eq_getElem_cons (by omega)] at hc
        rcases List.mem_cons.1 hc with rfl | hc
        · have e : (bl u).getD (k - 1) 0 = (bl s)[k - 1]'(by omega) := by
            rw [getD_lt (by rw [← bl_size]; omega)]; simp [h1]
          rw [← e]; simpa using hb
        · rw [show k - 1 + 1 = k by omega] at hc; exact h3 c hc
  · repeat (first | (first | (apply wl_q rfl rfl rfl; (focus (first | exact oq_move (v := (.string _)) rfl (.p rfl) | exact oq_assign (v := (.string _)) rfl (.p rfl)))) | apply wl_nil) | (first | apply wc_seq | apply wc_region | apply k_seq | apply wc_ret | apply wc_exit | apply k_seq_exit | apply k_block_eq rfl | apply k_loop_exit))
    refine ret_of (rv_t (v := .string _) rfl) .none ⟨rfl, u, k, rfl, h1, h2, h3, fun c hc' => ?_⟩
    have : bl u = [] := List.eq_nil_of_length_eq_zero (by rw [← bl_size]; omega)
    rw [this] at hc'; cases hc'
end SX
end Go.Proofs.YtfcecieppoljlaaGreatDoor
set_option maxRecDepth 100000
namespace Go.Proofs.YtfcecieppoljlaaGreatDoor
namespace SX
open Go
attribute [local irreducible] WL WC WD OpL OpQ OpG Ev GuardIs seqK blockK retK Call CallP midK loopK Holds upds Sub Pick WS Step Lit Upd SetAt SpliceAt FillR Sh LateRun
theorem trimLeft_ok (κ : Kr) (b : Nat) (s : ByteArray) (hs : Sh κ b 0 (setCells isDig)) : CallP 80 [.string s, .pointer (some ⟨b, 0, none⟩)] κ fun v _ => ∃ u k, v = .string u ∧ bl u = (bl s).drop k ∧ k ≤ (bl s).length ∧ (∀ c ∈ (bl s).take k, isDig c.toNat = true) ∧ (∀ c, (bl u).head? = some c → isDig c.toNat = false) := by
  (unfold CallP; apply call_of Tryz.func80 fk80 rfl Tryz.ntmps80 Tryz.results80 rfl)
  repeat (first | (first | (apply wl_q rfl rfl rfl; (focus (exact oq_assign (v := (.string _)) rfl (.p rfl)))) | apply wl_nil) | (first | apply wc_seq | apply wc_region | apply wc_block | apply k_seq))
  refine wc_loopL (X := ByteArray × Nat) (fun z => [(0, .string z.1), (1, .pointer (some ⟨b, 0, none⟩))]) (fun _ => []) (fun z _ => bl z.1 = (bl s).drop z.2 ∧ z.2 ≤ (bl s).length ∧ ∀ c ∈ (bl s).take z.2, isDig c.toNat = true) (fun z => (bl s).length - z.2) (s, 0) (by (repeat (first | exact Holds.nil | apply Holds.cons rfl))) (by (repeat (exact Sub.nil))) ⟨rfl, Nat.zero_le _, by simp⟩ ?_
  rintro ⟨u, k⟩ τ κ2 _ ⟨h1, h2, h3⟩
  dsimp only at h1 h2 h3
  have hsz : u.size = (bl s).length - k := by rw [bl_size, h1, List.length_drop]
  simp only [upds]
  repeat (first | (first | (apply wl_q rfl rfl rfl; (focus (first | exact oq_move (v := (.string _)) rfl (.p rfl) | exact oq_cmp rfl (.p rfl) (.p rfl) rfl | exact oq_lenS rfl rfl (.p rfl)))) | apply wl_nil) | (first | apply wc_seq | apply wc_region | apply k_seq))
  apply wc_dec rfl <;> intro hc
  · have hk0 : k < (bl s).length := by omega
    have hu0 : 0 < (bl u).length := by rw [← bl_size]; omega
    repeat (first | (apply wl_q rfl rfl rfl; (focus (first | exact oq_move (v := (.pointer _)) rfl (.p rfl) | exact oq_move (v := (.string _)) rfl (.p rfl)))) | (first | apply wc_seq | apply wc_region | apply wc_block | apply k_seq | apply wc_skip))
    apply wl_q rfl rfl rfl (oq_indexS (j := 0) rfl rfl (.p rfl) (.p rfl) (fun _ => by omega) (fun _ => by omega))
    have hhead : (bl u).head? = some ((bl u).getD 0 0) := by
      rw [List.head?_eq_getElem?, getD_lt hu0, List.getElem?_eq_getElem hu0]
    apply wl_l rfl rfl rfl; apply ol_callP rfl rfl (contains_ok _ b isDig ((u.data.toList.getD 0 0).toNat : Int) (hs.mono (by (repeat (assumption)))) (by omega) (by have := (u.data.toList.getD 0 0).toNat_lt; omega))
    rintro v κ3 _ rfl
    repeat (first | (first | (apply wl_q rfl rfl rfl; (focus (exact oq_not rfl (.p rfl)))) | apply wl_nil) | (apply k_seq))
    rw [Int.toNat_natCast]
    apply wc_cond rfl <;> intro hb
    · repeat (first | (first | (apply wl_q rfl rfl rfl; (focus (first | exact oq_move (v := (.string _)) rfl (.p rfl) | exact oq_assign (v := (.string _)) rfl (.p rfl)))) | apply wl_nil) | (first | apply wc_seq | apply wc_region | apply k_seq | apply wc_ret | apply wc_exit | apply k_seq_exit | apply k_block_eq rfl | apply k_block_ne rfl | apply k_loop_exit))
      refine ret_of (rv_t (v := .string _) rfl) .none ⟨rfl, u, k, rfl, h1, h2, h3, fun c hc => ?_⟩
      rw [hhead] at hc; injection hc with hc; subst hc; simpa using hb
    · repeat (first | (apply wl_q rfl rfl rfl; (focus (exact oq_move (v := (.string _)) rfl (.p rfl)))) | (first | apply wc_region | apply k_seq | apply wc_skip))
      apply wl_q rfl rfl rfl (oq_sliceSLo (l := 1) rfl rfl (.p rfl) (.p rfl) (fun _ => by omega) (fun _ => by omega))
      repeat (first | (first | (apply wl_q rfl rfl rfl; (focus (exact oq_assign (v := (.string _)) rfl (.p rfl)))) | apply wl_nil) | (apply k_block_n))
      refine k_loop (u.extract 1 u.size, k + 1) (by (repeat (first | exact Holds.nil | apply Holds.cons rfl))) (by (repeat (exact Sub.nil))) ⟨?_, by ((try dsimp only at *) <;> omega), ?_⟩ (by ((try dsimp only at *) <;> omega))
      · rw [bl_lo, h1, List.drop_drop]
      · intro c hc
        rw [List.take_add_one] at hc
        rcases List.mem_append.1 hc with hc | hc
        · exact h3 c hc
        · have e : (bl u).getD 0 0 = (bl s)[k]'hk0 := by rw [getD_lt hu0]; simp [h1]
          rw [List.getElem?_eq_getElem hk0] at hc
          simp only [Option.toList_some, List.mem_cons, List.not_mem_nil, or_false] at hc
          subst hc; rw [← e]; simpa using hb
  · repeat (first | (first | (apply wl_q rfl rfl rfl; (focus (first | exact oq_move (v := (.string _)) rfl (.p rfl) | exact oq_assign (v := (.string _)) rfl (.p rfl)))) | apply wl_nil) | (first | apply wc_seq | apply wc_region | apply k_seq | apply wc_ret | apply wc_exit | apply k_seq_exit | apply k_block_eq rfl | apply k_loop_exit))
    refine ret_of (rv_t (v := .string _) rfl) .none ⟨rfl, u, k, rfl, h1, h2, h3, fun c hc' => ?_⟩
    have : bl u = [] := List.eq_nil_of_length_eq_zero (by rw [← bl_size]; omega)
    rw [this] at hc'; cases hc'
def allDig (s : ByteArray) : Bool := (bl s).all fun c => isDig c.toNat
theorem size_zero {s : ByteArray} : s = ⟨#[]⟩ ↔ bl s = [] := ⟨fun h => by rw [h], fun h => bl_inj (by rw [h])⟩
theorem trim_ok (κ : Kr) (s : ByteArray) (hz : s.size ≤ 1000000000) : CallP 51 [.string s, .string digits10] κ fun v _ => ∃ u, v = .string u ∧ (u = ⟨#[]⟩ ↔ allDig s = true) := by
  (unfold CallP; apply call_of Tryz.func51 fk51 rfl Tryz.ntmps51 Tryz.results51 rfl)
  repeat (first | (first | (apply wl_q rfl rfl rfl; (focus (first | exact oq_move (v := (.bool _)) rfl (.p rfl) | exact oq_move (v := (.string _)) rfl (.p rfl) | exact oq_assign (v := (.string _)) rfl (.p rfl) | exact oq_or rfl (.p rfl) (.p rfl) (.g rfl) | exact oq_str rfl (.p rfl) (.p rfl) rfl))) | (apply wl_qg; (focus (exact guard_f rfl rfl rfl)); rfl; rfl; (focus (first | (apply oq_move (v := (.string _)) rfl; (focus (exact Ev.p rfl))) | (apply oq_str rfl (by (focus (exact Ev.g rfl))) (by (focus (exact Ev.p rfl))); rfl)))) | apply wl_nil) | (first | apply wc_seq | apply wc_region | apply k_seq))
  apply wc_cond rfl <;> intro hb
  · repeat (first | (first | (apply wl_q rfl rfl rfl; (focus (first | exact oq_move (v := (.string _)) rfl (.p rfl) | exact oq_assign (v := (.string _)) rfl (.p rfl)))) | apply wl_nil) | (first | apply wc_seq | apply wc_region | apply k_seq | apply wc_ret | apply k_seq_ret))
    have : s = ⟨#[]⟩ := by simpa [digits10] using hb
    refine ret_of (rv_t (v := .string _) rfl) .none ⟨rfl, s, rfl, ?_⟩
    subst this; simp [allDig, bl]
  · have hne : ¬ bl s = [] := fun h => by rw [size_zero.2 h] at hb; simp at hb
    repeat (first | (first | (apply wl_q rfl rfl rfl; (focus (first | exact oq_move (v := (.bool _)) rfl (.p rfl) | exact oq_move (v := (.string _)) rfl (.p rfl) | exact oq_cmp rfl (.p rfl) (.p rfl) rfl | exact oq_lenS rfl rfl (.p rfl)))) | (apply wl_qg; (focus (exact guard_t rfl rfl rfl)); rfl; rfl; (focus (apply oq_move (v := (.string _)) rfl; (focus (exact Ev.p rfl)))))) | (first | apply wc_seq | apply wc_region | apply k_seq | apply wc_skip))
    apply wl_qg; (focus (exact guard_t rfl rfl rfl)); rfl; rfl; exact oq_indexS (s := digits10) (j := 0) rfl rfl (.g rfl) (.p rfl) (fun _ => rfl) (fun _ => by decide)
    repeat (first | (first | (apply wl_q rfl rfl rfl; (focus (exact oq_and rfl (.p rfl) (.p rfl) (.g rfl)))) | (apply wl_qg; (focus (exact guard_t rfl rfl rfl)); rfl; rfl; (focus (apply oq_cmp rfl (by (focus (exact Ev.g rfl))) (by (focus (exact Ev.p rfl))); rfl))) | apply wl_nil) | (apply k_seq))
    apply wc_cond rfl <;> intro hb2
    · have e : (digits10.size : Int) = 10 := rfl
      rw [e] at hb2; simp at hb2
    repeat (first | (apply wl_q rfl rfl rfl; (focus (exact oq_move (v := (.string _)) rfl (.p rfl)))) | (first | apply wc_seq | apply wc_region | apply k_seq | apply wc_skip))
    refine wl_fun rfl rfl rfl rfl rfl (ascii_ok _) fun κ1 _ => ?_
    repeat (first | (first | (apply wl_q rfl rfl rfl; (focus (first | exact oq_move (v := (.bool _)) rfl (.p rfl) | exact oq_move (v := (.tuple _)) rfl (.p rfl) | exact oq_assign (v := (.bool _)) rfl (.p rfl) | exact oq_extract rfl (.p rfl) rfl))) | (apply wl_l rfl rfl rfl; apply ol_allocA rfl rfl; intro _ _ _) | (apply wl_l0 rfl rfl; apply ol_storeA rfl rfl rfl rfl rfl rfl; (focus (repeat (exact Upd.h))); rfl; intro _ _) | apply wl_nil) | (first | apply wc_seq | apply wc_region | apply k_seq))
    rename_i b5 _ _ _ _
    apply wc_pub (b := b5) Pick.h rfl; intro κ3 _ hS hsays
    have hset := sh_pub hS hsays
    apply wc_condT rfl
    repeat (first | (apply wl_q rfl rfl rfl; (focus (exact oq_move (v := (.string _)) rfl (.p rfl)))) | (first | apply wc_seq | apply wc_region))
    apply wl_l rfl rfl rfl; apply ol_callP rfl rfl (trimRight_ok _ b5 s (hset.mono (by (repeat (exact Kle.refl _)))) hz)
    rintro v κ4 _ ⟨u, k, rfl, h1, h2, h3, h4⟩
    apply wl_l rfl rfl rfl; apply ol_callP rfl rfl (trimLeft_ok _ b5 u (hset.mono (by (repeat (assumption)))))
    rintro v κ5 _ ⟨u2, k2, rfl, g1, g2, g3, g4⟩
    repeat (first | (first | (apply wl_q rfl rfl rfl; (focus (exact oq_assign (v := (.string _)) rfl (.p rfl)))) | apply wl_nil) | (first | apply k_seq | apply wc_ret | apply k_seq_ret))
    refine ret_of (rv_t (v := .string _) rfl) .none ⟨rfl, u2, rfl, ?_⟩
    rw [size_zero]
    unfold allDig
    rw [List.all_eq_true]
    constructor
    · intro h
      have hk2 : k2 = (bl u).length := by
        have := congrArg List.length (g1.symm.trans h); simp only [List.length_drop, List.length_nil] at this; omega
      intro c hc
      rw [← List.take_append_drop k (bl s)] at hc
      rcases List.mem_append.1 hc with hc | hc
      · rw [← h1] at hc; rw [hk2, List.take_length] at g3; exact g3 c hc
      · exact h3 c hc
    · intro h
      have hu : bl u = [] := by
        rcases List.eq_nil_or_concat (bl u) with hu | ⟨l, c, hu⟩
        · exact hu
        · have hc := h4 c (by rw [hu]; simp)
          have hm : c ∈ bl s := List.mem_of_mem_take (i := k) (by rw [← h1, hu]; simp)
          rw [h c hm] at hc; cases hc
      rw [g1, hu]; simp
end SX
end Go.Proofs.YtfcecieppoljlaaGreatDoor
set_option maxRecDepth 100000
namespace Go.Proofs.YtfcecieppoljlaaGreatDoor
namespace SX
open Go
attribute [local irreducible] WL WC WD OpL OpQ OpG Ev GuardIs seqK blockK retK Call CallP midK loopK Holds upds Sub Pick WS Step Lit Upd SetAt SpliceAt FillR Sh LateRun
def Glob (κ : Kr) : Prop := Sh κ 0 0 [.int .i64 2, .int .i64 4, .int .i64 6, .int .i64 8]
theorem Glob.mono {κ κ' : Kr} (h : Glob κ) (k : Kle κ κ') : Glob κ' := Sh.mono h k
def level (s : ByteArray) : Int := if (s.size = 2 ∨ s.size = 4 ∨ s.size = 6 ∨ s.size = 8) ∧ allDig s = true then (s.size : Int) else 0
theorem gv_some {c : Bool} {v : Value} {P : ByteArray → Prop} (h : c = true → ∃ u, v = .string u ∧ P u) : ∃ u, gv c v = gv c (.string u) ∧ (c = true → P u) := by
  cases c
  · exact ⟨⟨#[]⟩, by rw [gv_false, gv_false], fun h => by cases h⟩
  · obtain ⟨u, rfl, h2⟩ := h rfl; exact ⟨u, rfl, fun _ => h2⟩
theorem level_ok (κ : Kr) (s : ByteArray) (hg : Glob κ) : CallP 30 [.string s] κ fun v _ => v = .int .i64 (level s) := by
  (unfold CallP; apply call_of Tryz.func30 fk30 rfl Tryz.ntmps30 Tryz.results30 rfl)
  repeat (first | (first | (apply wl_q rfl rfl rfl; (focus (exact oq_assign (v := (.int _ _)) rfl (.p rfl)))) | apply wl_nil) | (first | apply wc_seq | apply wc_region | apply k_seq))
  apply wl_q rfl rfl rfl (oq_load_s rfl (.p rfl) (fun _ => hg) rfl)
  repeat (first | (first | (apply wl_q rfl rfl rfl; (focus (exact oq_move (v := (.int _ _)) rfl (.p rfl)))) | apply wl_nil) | (first | apply wc_block | apply k_seq))
  refine wc_loopL (X := Nat) (fun k => [(0, .string s), (5, .agg #[.int .i64 2, .int .i64 4, .int .i64 6, .int .i64 8]), (6, .int .i64 (k : Int))]) (fun _ => []) (fun k _ => k ≤ 4 ∧ ∀ j, j < k → ¬ (s.size = 2 * (j + 1) ∧ allDig s = true)) (fun k => 4 - k) 0 (by (repeat (first | exact Holds.nil | apply Holds.cons rfl))) (by (repeat (exact Sub.nil))) ⟨by omega, by omega⟩ ?_
  rintro k τ κ1 _ ⟨hk, hno⟩
  simp only [upds]
  repeat (first | (first | (apply wl_q rfl rfl rfl; (focus (exact oq_cmp rfl (.p rfl) (.p rfl) rfl))) | apply wl_nil) | (first | apply wc_seq | apply wc_region | apply k_seq))
  apply wc_dec rfl <;> intro hc
  · have hk4 : k < 4 := by omega
    repeat (first | apply wc_seq | apply wc_region | apply wc_block | apply k_seq | apply wc_skip)
    apply wl_q rfl rfl rfl (oq_indexA (cs := [.int .i64 2, .int .i64 4, .int .i64 6, .int .i64 8]) (v := .int .i64 (2 * ((k : Int) + 1))) (j := k) rfl rfl rfl rfl rfl (.p rfl) (.p rfl) (fun _ => rfl) (fun _ => hk4) (fun _ => by
      have : k = 0 ∨ k = 1 ∨ k = 2 ∨ k = 3 := by omega
      rcases this with rfl | rfl | rfl | rfl <;> rfl))
    repeat (first | (first | (apply wl_q rfl rfl rfl; (focus (first | exact oq_move (v := (.int _ _)) rfl (.p rfl) | exact oq_move (v := (.bool _)) rfl (.p rfl) | exact oq_move (v := (.string _)) rfl (.p rfl) | exact oq_assign (v := (.int _ _)) rfl (.p rfl) | exact oq_cmp rfl (.p rfl) (.p rfl) rfl | exact oq_lenS rfl rfl (.p rfl)))) | (apply wl_qg; (focus (exact guard_t rfl rfl rfl)); rfl; rfl; (focus (apply oq_move (v := (.string _)) rfl; (focus (exact Ev.p rfl))))) | apply wl_nil) | (first | apply wc_seq | apply wc_region | apply k_seq))
    apply wl_g; (focus (exact guard_t rfl rfl rfl)); rfl; rfl
    refine og_callP rfl (ar2 (.g rfl) (.p rfl)) (fun hcc => trim_ok _ s (by simp at hcc; omega)) fun v κ2 _ hv => ?_
    obtain ⟨u, hu, hP⟩ := gv_some hv
    rw [hu]
    repeat (first | (first | (apply wl_q rfl rfl rfl; (focus (exact oq_and rfl (.p rfl) (.p rfl) (.g rfl)))) | (apply wl_qg; (focus (exact guard_t rfl rfl rfl)); rfl; rfl; (focus (apply oq_str rfl (by (focus (exact Ev.g rfl))) (by (focus (exact Ev.p rfl))); rfl))) | apply wl_nil) | (apply k_seq))
    apply wc_cond rfl <;> intro hb
    · simp only [Bool.and_eq_true, beq_iff_eq, decide_eq_true_eq] at hb
      have hd : allDig s = true := (hP (by simpa using hb.1)).1 hb.2
      repeat (first | (first | (apply wl_q rfl rfl rfl; (focus (first | exact oq_move (v := (.int _ _)) rfl (.p rfl) | exact oq_assign (v := (.int _ _)) rfl (.p rfl)))) | apply wl_nil) | (first | apply wc_seq | apply wc_region | apply k_seq | apply wc_ret | apply k_seq_ret | apply k_block_ret | apply k_loop_ret))
      refine ret_of (rv_t (v := .int _ _) rfl) .none ⟨rfl, ?_⟩
      show Value.int .i64 (2 * ((k : Int) + 1)) = .int .i64 (level s)
      unfold level
      rw [if_pos ⟨by omega, hd⟩, ← hb.1]
    · repeat (first | (first | (apply wl_q rfl rfl rfl; (focus (first | exact oq_move (v := (.int _ _)) rfl (.p rfl) | exact oq_arith64 rfl (.p rfl) (.p rfl) rfl (fun _ => by omega)))) | apply wl_nil) | (first | apply wc_region | apply k_seq | apply wc_skip | apply k_block_n))
      refine k_loop (k + 1) (by (repeat (first | exact Holds.nil | apply Holds.cons rfl))) (by (repeat (exact Sub.nil))) ⟨by omega, fun j hj => ?_⟩ (by omega)
      rcases Nat.lt_or_ge j k with h | h
      · exact hno j h
      · have : j = k := by omega
        subst this
        rintro ⟨h1, h2⟩
        have hcc : ((s.size : Int) == 2 * ((j : Int) + 1)) = true := by simp; omega
        have := (hP (by simpa using hcc)).2 h2
        subst this
        rw [hcc] at hb; simp at hb
  · repeat (first | (first | (apply wl_q rfl rfl rfl; (focus (exact oq_assign (v := (.int _ _)) rfl (.p rfl)))) | apply wl_nil) | (first | apply wc_seq | apply wc_region | apply k_seq | apply wc_ret | apply wc_exit | apply k_seq_exit | apply k_block_eq rfl | apply k_loop_exit))
    refine ret_of (rv_t (v := .int _ _) rfl) .none ⟨rfl, ?_⟩
    show Value.int .i64 0 = .int .i64 (level s)
    unfold level
    rw [if_neg]
    rintro ⟨h1, h2⟩
    have : k = 4 := by omega
    subst this
    rcases h1 with h1 | h1 | h1 | h1
    · exact hno 0 (by omega) ⟨h1, h2⟩
    · exact hno 1 (by omega) ⟨h1, h2⟩
    · exact hno 2 (by omega) ⟨h1, h2⟩
    · exact hno 3 (by omega) ⟨h1, h2⟩
end SX
end Go.Proofs.YtfcecieppoljlaaGreatDoor
set_option maxRecDepth 100000
namespace Go.Proofs.YtfcecieppoljlaaGreatDoor
namespace SX
open Go
def nomenclature_Level (p0 : ByteArray) : Option Int := some (level p0)
theorem nomenclature_Level_ok {p0 : ByteArray} {r : Int} (h : nomenclature_Level p0 = some r) : PF 30 [.v (.string p0)] (.v (.int .i64 r)) := fun κ args g ha => by
 obtain ⟨v, ws, rfl, h1, h2⟩ := ha.cons_inv
 rw [h2.nil_inv, h1.val]
 have h := Option.some.inj h; subst h
 exact (level_ok κ p0 g).mono fun v κ' _ hv => by subst hv; exact .v rfl
end SX
end Go.Proofs.YtfcecieppoljlaaGreatDoor
