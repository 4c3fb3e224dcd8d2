/- A part of the proof: texts of the walk and of the plain laws, merged. No condition. -/
import Derived.Test.YtfcecieppoljlaaGreatDoorM2
import Derived.Test.YtfcecieppoljlaaGreatDoorChecked
import Derived.KernelRfl
import Derived.WalkKit
import Derived.OrdersHeld
import Derived.Laws.CopyRow
import Derived.Laws.StructEq
import Derived.Maps.AppendAt
import Derived.Laws.MakeOwn
import Derived.Laws.BytesArg
import Derived.Laws.Externs
import Derived.Laws.Cover3
import Derived.ChangeArms
import Derived.DataReads
import GoSem.ClaimJoined
import Derived.Test.YtfcecieppoljlaaGreatDoorRows
import Derived.ChangeSame
import Derived.ChangeVars
import Derived.JoinedOf
import Derived.RowKit
import Derived.RowKitTokens
import Derived.LaidLaws
import Derived.LaidHandle
import Derived.Carry
import Derived.Handed
import Derived.ChangeOld
import Derived.SevenTiedAt
import Derived.Test.YtfcecieppoljlaaGreatDoorCards
import Derived.Test.YtfcecieppoljlaaGreatDoorTie
set_option linter.unusedVariables false
set_option linter.unusedSimpArgs false
set_option maxRecDepth 100000
namespace Go.Proofs.YtfcecieppoljlaaGreatDoor
namespace SX
open Go
attribute [local irreducible] PWL PWC PWD POpL POpQ PEv PGuardIs PSub PPick PUpd PSplice PFill PLit PF PFV PCall pseqK pblockK pmidK pcutK ploopK pretK Cov PHolds loopF idx app mk gd lb nz ge0 cat sub ssub iand ior ixor ishl ishr imin imax IntKind.wrap Int.tmod Int.tdiv Op.bytesLess strOfNums
def math_bits_Mul64 (p0 : Int) (p1 : Int) : Option (Int × Int) := lb ((IntKind.u64.wrap ((iand .u64 p0 4294967295) * (iand .u64 p1 4294967295)))) (fun w1 => lb ((IntKind.u64.wrap ((IntKind.u64.wrap ((ishr .u64 p0 32) * (iand .u64 p1 4294967295))) + (ishr .u64 w1 32)))) (fun w2 => lb ((IntKind.u64.wrap ((iand .u64 w2 4294967295) + (IntKind.u64.wrap ((iand .u64 p0 4294967295) * (ishr .u64 p1 32)))))) (fun w3 => lb ((IntKind.u64.wrap ((IntKind.u64.wrap ((IntKind.u64.wrap ((ishr .u64 p0 32) * (ishr .u64 p1 32))) + (ishr .u64 w2 32))) + (ishr .u64 w3 32)))) (fun w4 => some (w4, (IntKind.u64.wrap (p0 * p1)))))))
set_option maxHeartbeats 4000000 in
theorem math_bits_Mul64_ok {p0 : Int} {p1 : Int} {r : (Int × Int)}  (h : math_bits_Mul64 p0 p1 = some r) : PF 121 [.v (.int .u64 p0), .v (.int .u64 p1)] (.tup [.v (.int .u64 r.1), .v (.int .u64 r.2)]) := by
 unfold math_bits_Mul64 at h
 refine pf_of ?_
 refine penter Tryz.func121 fk121 rfl Tryz.ntmps121 Tryz.results121 rfl ?_
 refine yad (yaa ?_)
 refine yab rfl rfl rfl (yae (p := .v (.int .u64 0)) rfl (.p rfl)) ?_
 refine yab rfl rfl rfl (yae (p := .v (.int .u64 0)) rfl (.p rfl)) ?_
 refine yaf (yah (yad (yaa ?_)))
 refine yab rfl rfl rfl (yac (p := .v (.int .u64 p0)) rfl (.p rfl)) ?_
 refine yab rfl rfl rfl (pq_bits rfl (.p rfl) (.p rfl) rfl) ?_
 refine yab rfl rfl rfl (yae (p := .v (.int .u64 (iand .u64 p0 4294967295))) rfl (.p rfl)) ?_
 refine yaf (yah (yad (yaa ?_)))
 refine yab rfl rfl rfl (yac (p := .v (.int .u64 p0)) rfl (.p rfl)) ?_
 refine yab rfl rfl rfl (pq_shift rfl (.p rfl) (.p rfl) (fun _ => by decide) rfl) ?_
 refine yab rfl rfl rfl (yae (p := .v (.int .u64 (ishr .u64 p0 32))) rfl (.p rfl)) ?_
 refine yaf (yah (yad (yaa ?_)))
 refine yab rfl rfl rfl (yac (p := .v (.int .u64 p1)) rfl (.p rfl)) ?_
 refine yab rfl rfl rfl (pq_bits rfl (.p rfl) (.p rfl) rfl) ?_
 refine yab rfl rfl rfl (yae (p := .v (.int .u64 (iand .u64 p1 4294967295))) rfl (.p rfl)) ?_
 refine yaf (yah (yad (yaa ?_)))
 refine yab rfl rfl rfl (yac (p := .v (.int .u64 p1)) rfl (.p rfl)) ?_
 refine yab rfl rfl rfl (pq_shift rfl (.p rfl) (.p rfl) (fun _ => by decide) rfl) ?_
 refine yab rfl rfl rfl (yae (p := .v (.int .u64 (ishr .u64 p1 32))) rfl (.p rfl)) ?_
 refine yaf (yah (yad (yaa ?_)))
 refine yab rfl rfl rfl (yac (p := .v (.int .u64 (iand .u64 p0 4294967295))) rfl (.p rfl)) ?_
 refine yab rfl rfl rfl (yac (p := .v (.int .u64 (iand .u64 p1 4294967295))) rfl (.p rfl)) ?_
 refine yab rfl rfl rfl (yau rfl (.p rfl) (.p rfl) rfl) ?_
 refine lb_elim h ?_; clear h; intro w1 hw1 h
 refine yab rfl rfl rfl (yae rfl (.p (congrArg (fun z => PV.v (Value.int .u64 z)) hw1))) ?_
 refine yaf (yah (yad (yaa ?_)))
 refine yab rfl rfl rfl (yac (p := .v (.int .u64 (ishr .u64 p0 32))) rfl (.p rfl)) ?_
 refine yab rfl rfl rfl (yac (p := .v (.int .u64 (iand .u64 p1 4294967295))) rfl (.p rfl)) ?_
 refine yab rfl rfl rfl (yau rfl (.p rfl) (.p rfl) rfl) ?_
 refine yab rfl rfl rfl (yac (p := .v (.int .u64 w1)) rfl (.p rfl)) ?_
 refine yab rfl rfl rfl (pq_shift rfl (.p rfl) (.p rfl) (fun _ => by decide) rfl) ?_
 refine yab rfl rfl rfl (yau rfl (.p rfl) (.p rfl) rfl) ?_
 refine lb_elim h ?_; clear h; intro w2 hw2 h
 refine yab rfl rfl rfl (yae rfl (.p (congrArg (fun z => PV.v (Value.int .u64 z)) hw2))) ?_
 refine yaf (yah (yad (yaa ?_)))
 refine yab rfl rfl rfl (yac (p := .v (.int .u64 w2)) rfl (.p rfl)) ?_
 refine yab rfl rfl rfl (pq_bits rfl (.p rfl) (.p rfl) rfl) ?_
 refine yab rfl rfl rfl (yae (p := .v (.int .u64 (iand .u64 w2 4294967295))) rfl (.p rfl)) ?_
 refine yaf (yah (yad (yaa ?_)))
 refine yab rfl rfl rfl (yac (p := .v (.int .u64 w2)) rfl (.p rfl)) ?_
 refine yab rfl rfl rfl (pq_shift rfl (.p rfl) (.p rfl) (fun _ => by decide) rfl) ?_
 refine yab rfl rfl rfl (yae (p := .v (.int .u64 (ishr .u64 w2 32))) rfl (.p rfl)) ?_
 refine yaf (yah (yad (yaa ?_)))
 refine yab rfl rfl rfl (yac (p := .v (.int .u64 (iand .u64 w2 4294967295))) rfl (.p rfl)) ?_
 refine yab rfl rfl rfl (yac (p := .v (.int .u64 (iand .u64 p0 4294967295))) rfl (.p rfl)) ?_
 refine yab rfl rfl rfl (yac (p := .v (.int .u64 (ishr .u64 p1 32))) rfl (.p rfl)) ?_
 refine yab rfl rfl rfl (yau rfl (.p rfl) (.p rfl) rfl) ?_
 refine yab rfl rfl rfl (yau rfl (.p rfl) (.p rfl) rfl) ?_
 refine lb_elim h ?_; clear h; intro w3 hw3 h
 refine yab rfl rfl rfl (yae rfl (.p (congrArg (fun z => PV.v (Value.int .u64 z)) hw3))) ?_
 refine yaf (yah (yad (yaa ?_)))
 refine yab rfl rfl rfl (yac (p := .v (.int .u64 (ishr .u64 p0 32))) rfl (.p rfl)) ?_
 refine yab rfl rfl rfl (yac (p := .v (.int .u64 (ishr .u64 p1 32))) rfl (.p rfl)) ?_
 refine yab rfl rfl rfl (yau rfl (.p rfl) (.p rfl) rfl) ?_
 refine yab rfl rfl rfl (yac (p := .v (.int .u64 (ishr .u64 w2 32))) rfl (.p rfl)) ?_
 refine yab rfl rfl rfl (yau rfl (.p rfl) (.p rfl) rfl) ?_
 refine yab rfl rfl rfl (yac (p := .v (.int .u64 w3)) rfl (.p rfl)) ?_
 refine yab rfl rfl rfl (pq_shift rfl (.p rfl) (.p rfl) (fun _ => by decide) rfl) ?_
 refine yab rfl rfl rfl (yau rfl (.p rfl) (.p rfl) rfl) ?_
 refine lb_elim h ?_; clear h; intro w4 hw4 h
 refine yab rfl rfl rfl (yae rfl (.p (congrArg (fun z => PV.v (Value.int .u64 z)) hw4))) ?_
 refine yaf (yah (yad (yaa ?_)))
 refine yab rfl rfl rfl (yac (p := .v (.int .u64 p0)) rfl (.p rfl)) ?_
 refine yab rfl rfl rfl (yac (p := .v (.int .u64 p1)) rfl (.p rfl)) ?_
 refine yab rfl rfl rfl (yau rfl (.p rfl) (.p rfl) rfl) ?_
 refine yab rfl rfl rfl (yae (p := .v (.int .u64 (IntKind.u64.wrap (p0 * p1)))) rfl (.p rfl)) ?_
 refine yaf (yah (yas ?_))
 obtain rfl := Option.some.inj h
 exact yat (prv_2 (yav rfl) (yav rfl)) zsn ⟨rfl, rfl⟩
def exact_Mul (p0 : Int) (p1 : Int) : Option Texact_Wide := Option.bind (math_bits_Mul64 p0 p1) (fun x2 => some (⟨x2.1, x2.2⟩ : Texact_Wide))
set_option maxHeartbeats 4000000 in
theorem exact_Mul_ok {p0 : Int} {p1 : Int} {r : Texact_Wide}  (h : exact_Mul p0 p1 = some r) : PF 94 [.v (.int .u64 p0), .v (.int .u64 p1)] (.agg [.v (.int .u64 r.Hi), .v (.int .u64 r.Lo)]) := by
 unfold exact_Mul at h
 refine pf_of ?_
 refine penter Tryz.func94 fk94 rfl Tryz.ntmps94 Tryz.results94 rfl ?_
 refine yad (yaa ?_)
 refine pwl_l rfl rfl rfl (pl_alloc (cs := [.v (.int .u64 0), .v (.int .u64 0)]) rfl rfl rfl rfl (fun b1 => ?_))
 refine yaf (yah (yad (yaa ?_)))
 refine yab rfl rfl rfl (yac (p := .v (.int .u64 p0)) rfl (.p rfl)) ?_
 refine yab rfl rfl rfl (yac (p := .v (.int .u64 p1)) rfl (.p rfl)) ?_
 refine yai h ?_; clear h; intro x2 hx2 h
 refine pwl_call rfl rfl rfl rfl rfl (math_bits_Mul64_ok hx2) ?_
 refine yab rfl rfl rfl (yac (p := .tup [.v (.int .u64 x2.1), .v (.int .u64 x2.2)]) rfl (.p rfl)) ?_
 refine yab rfl rfl rfl (pq_extract (p := .v (.int .u64 x2.1)) rfl (.p rfl) rfl) ?_
 refine yab rfl rfl rfl (pq_extract (p := .v (.int .u64 x2.2)) rfl (.p rfl) rfl) ?_
 refine yab rfl rfl rfl (yae (p := .v (.int .u64 x2.1)) rfl (.p rfl)) ?_
 refine yab rfl rfl rfl (yae (p := .v (.int .u64 x2.2)) rfl (.p rfl)) ?_
 refine yaf (yah (yad (yaa ?_)))
 refine yab rfl rfl rfl (yac (p := .v (.int .u64 x2.1)) rfl (.p rfl)) ?_
 refine yab rfl rfl rfl (yac (p := .v (.int .u64 x2.2)) rfl (.p rfl)) ?_
 refine yab rfl rfl rfl (pq_build (cs := [.v (.int .u64 x2.1), .v (.int .u64 x2.2)]) rfl rfl rfl rfl rfl rfl rfl (zfc rfl rfl rfl rfl (zlc zln) (zfc rfl rfl rfl rfl (zlt (zlc zln)) zfn))) ?_
 refine pwl_l0 rfl rfl (yaw (vs := [.v (.int .u64 x2.1), .v (.int .u64 x2.2)]) rfl rfl rfl rfl rfl zuh (zlc (zlc zln)) ?_)
 refine yaf (yah (yas ?_))
 obtain rfl := Option.some.inj h
 exact yat (prv_1 (prv1_c rfl zm0 rfl)) zsn ⟨rfl, rfl⟩
def math_bits_Len64 (p0 : Int) : Option Int := Option.bind (cond (decide (4294967296 ≤ p0)) (some ((ishr .u64 p0 32), 32)) (some (p0, 0))) (fun (v1, v2) => Option.bind (cond (decide (65536 ≤ v1)) (some ((ishr .u64 v1 16), (IntKind.i64.wrap (v2 + 16)))) (some (v1, v2))) (fun (v5, v6) => Option.bind (cond (decide (256 ≤ v5)) (some ((ishr .u64 v5 8), (IntKind.i64.wrap (v6 + 8)))) (some (v5, v6))) (fun (v9, v10) => Option.bind (idx (⟨#[0, 1, 2, 2, 3, 3, 3, 3, 4, 4, 4, 4, 4, 4, 4, 4, 5, 5, 5, 5, 5, 5, 5, 5, 5, 5, 5, 5, 5, 5, 5, 5, 6, 6, 6, 6, 6, 6, 6, 6, 6, 6, 6, 6, 6, 6, 6, 6, 6, 6, 6, 6, 6, 6, 6, 6, 6, 6, 6, 6, 6, 6, 6, 6, 7, 7, 7, 7, 7, 7, 7, 7, 7, 7, 7, 7, 7, 7, 7, 7, 7, 7, 7, 7, 7, 7, 7, 7, 7, 7, 7, 7, 7, 7, 7, 7, 7, 7, 7, 7, 7, 7, 7, 7, 7, 7, 7, 7, 7, 7, 7, 7, 7, 7, 7, 7, 7, 7, 7, 7, 7, 7, 7, 7, 7, 7, 7, 7, 8, 8, 8, 8, 8, 8, 8, 8, 8, 8, 8, 8, 8, 8, 8, 8, 8, 8, 8, 8, 8, 8, 8, 8, 8, 8, 8, 8, 8, 8, 8, 8, 8, 8, 8, 8, 8, 8, 8, 8, 8, 8, 8, 8, 8, 8, 8, 8, 8, 8, 8, 8, 8, 8, 8, 8, 8, 8, 8, 8, 8, 8, 8, 8, 8, 8, 8, 8, 8, 8, 8, 8, 8, 8, 8, 8, 8, 8, 8, 8, 8, 8, 8, 8, 8, 8, 8, 8, 8, 8, 8, 8, 8, 8, 8, 8, 8, 8, 8, 8, 8, 8, 8, 8, 8, 8, 8, 8, 8, 8, 8, 8, 8, 8, 8, 8, 8, 8, 8, 8, 8, 8, 8, 8, 8, 8, 8, 8]⟩ : ByteArray).data.toList (IntKind.u8.wrap v9)) (fun c13 => lb ((IntKind.i64.wrap (v10 + (IntKind.i64.wrap (c13.toNat : Int))))) (fun w14 => some w14)))))
set_option maxHeartbeats 4000000 in
theorem math_bits_Len64_ok {p0 : Int} {r : Int}  (h : math_bits_Len64 p0 = some r) : PF 110 [.v (.int .u64 p0)] (.v (.int .i64 r)) := by
 unfold math_bits_Len64 at h
 refine pf_of ?_
 refine penter Tryz.func110 fk110 rfl Tryz.ntmps110 Tryz.results110 rfl ?_
 refine yad (yaa ?_)
 refine yab rfl rfl rfl (yae (p := .v (.int .i64 0)) rfl (.p rfl)) ?_
 refine yaf (yah (yad (yad (yaa ?_))))
 refine yab rfl rfl rfl (yac (p := .v (.int .u64 p0)) rfl (.p rfl)) ?_
 refine yab rfl rfl rfl (yap rfl (.p rfl) (.p rfl) rfl) ?_
 refine yaf (yah ?_)
 refine yai h ?_; clear h; intro q3 hq3 h
 refine pwc_join (Y := (Unit) × (Int × Int)) (fun (_, (v1, v2)) => [(0, .v (.int .u64 v1)), (2, .v (.int .i64 v2))]) (fun (_, (v1, v2)) => []) (fun (_, (v1, v2)) => q3 = (v1, v2)) ?_ ?_
 ·skip
  refine yam rfl (fun hc4 => ?_) (fun hc4 => ?_)
  ·replace hq3 := yax hc4 hq3
   refine yad (yaa ?_)
   refine yab rfl rfl rfl (yac (p := .v (.int .u64 p0)) rfl (.p rfl)) ?_
   refine yab rfl rfl rfl (pq_shift rfl (.p rfl) (.p rfl) (fun _ => by decide) rfl) ?_
   refine yab rfl rfl rfl (yae (p := .v (.int .u64 (ishr .u64 p0 32))) rfl (.p rfl)) ?_
   refine yaf (yah (yaa ?_))
   refine yab rfl rfl rfl (yae (p := .v (.int .i64 32)) rfl (.p rfl)) ?_
   refine yaf ?_
   obtain rfl := Option.some.inj hq3
   exact pk_mid ((), ((ishr .u64 p0 32), 32)) (zhc rfl (zhc rfl zhn)) zsn rfl
  ·replace hq3 := yay hc4 hq3
   refine yan ?_
   obtain rfl := Option.some.inj hq3
   exact pk_mid ((), (p0, 0)) (zhc rfl (zhc rfl zhn)) zsn rfl
 ·rintro ⟨_, ⟨v1, v2⟩⟩ τ hz; (try dsimp only at hz); subst q3; (try dsimp only at h); dsimp only [pupds]
  refine yad (yad (yaa ?_))
  refine yab rfl rfl rfl (yac (p := .v (.int .u64 v1)) rfl (.p rfl)) ?_
  refine yab rfl rfl rfl (yap rfl (.p rfl) (.p rfl) rfl) ?_
  refine yaf (yah ?_)
  refine yai h ?_; clear h; intro q7 hq7 h
  refine pwc_join (Y := (Unit) × (Int × Int)) (fun (_, (v5, v6)) => [(0, .v (.int .u64 v5)), (2, .v (.int .i64 v6))]) (fun (_, (v5, v6)) => []) (fun (_, (v5, v6)) => q7 = (v5, v6)) ?_ ?_
  ·skip
   refine yam rfl (fun hc8 => ?_) (fun hc8 => ?_)
   ·replace hq7 := yax hc8 hq7
    refine yad (yaa ?_)
    refine yab rfl rfl rfl (yac (p := .v (.int .u64 v1)) rfl (.p rfl)) ?_
    refine yab rfl rfl rfl (pq_shift rfl (.p rfl) (.p rfl) (fun _ => by decide) rfl) ?_
    refine yab rfl rfl rfl (yae (p := .v (.int .u64 (ishr .u64 v1 16))) rfl (.p rfl)) ?_
    refine yaf (yah (yaa ?_))
    refine yab rfl rfl rfl (yac (p := .v (.int .i64 v2)) rfl (.p rfl)) ?_
    refine yab rfl rfl rfl (yau rfl (.p rfl) (.p rfl) rfl) ?_
    refine yab rfl rfl rfl (yae (p := .v (.int .i64 (IntKind.i64.wrap (v2 + 16)))) rfl (.p rfl)) ?_
    refine yaf ?_
    obtain rfl := Option.some.inj hq7
    exact pk_mid ((), ((ishr .u64 v1 16), (IntKind.i64.wrap (v2 + 16)))) (zhc rfl (zhc rfl zhn)) zsn rfl
   ·replace hq7 := yay hc8 hq7
    refine yan ?_
    obtain rfl := Option.some.inj hq7
    exact pk_mid ((), (v1, v2)) (zhc rfl (zhc rfl zhn)) zsn rfl
  ·rintro ⟨_, ⟨v5, v6⟩⟩ τ hz; (try dsimp only at hz); subst q7; (try dsimp only at h); dsimp only [pupds]
   refine yad (yad (yaa ?_))
   refine yab rfl rfl rfl (yac (p := .v (.int .u64 v5)) rfl (.p rfl)) ?_
   refine yab rfl rfl rfl (yap rfl (.p rfl) (.p rfl) rfl) ?_
   refine yaf (yah ?_)
   refine yai h ?_; clear h; intro q11 hq11 h
   refine pwc_join (Y := (Unit) × (Int × Int)) (fun (_, (v9, v10)) => [(0, .v (.int .u64 v9)), (2, .v (.int .i64 v10))]) (fun (_, (v9, v10)) => []) (fun (_, (v9, v10)) => q11 = (v9, v10)) ?_ ?_
   ·skip
    refine yam rfl (fun hc12 => ?_) (fun hc12 => ?_)
    ·replace hq11 := yax hc12 hq11
     refine yad (yaa ?_)
     refine yab rfl rfl rfl (yac (p := .v (.int .u64 v5)) rfl (.p rfl)) ?_
     refine yab rfl rfl rfl (pq_shift rfl (.p rfl) (.p rfl) (fun _ => by decide) rfl) ?_
     refine yab rfl rfl rfl (yae (p := .v (.int .u64 (ishr .u64 v5 8))) rfl (.p rfl)) ?_
     refine yaf (yah (yaa ?_))
     refine yab rfl rfl rfl (yac (p := .v (.int .i64 v6)) rfl (.p rfl)) ?_
     refine yab rfl rfl rfl (yau rfl (.p rfl) (.p rfl) rfl) ?_
     refine yab rfl rfl rfl (yae (p := .v (.int .i64 (IntKind.i64.wrap (v6 + 8)))) rfl (.p rfl)) ?_
     refine yaf ?_
     obtain rfl := Option.some.inj hq11
     exact pk_mid ((), ((ishr .u64 v5 8), (IntKind.i64.wrap (v6 + 8)))) (zhc rfl (zhc rfl zhn)) zsn rfl
    ·replace hq11 := yay hc12 hq11
     refine yan ?_
     obtain rfl := Option.some.inj hq11
     exact pk_mid ((), (v5, v6)) (zhc rfl (zhc rfl zhn)) zsn rfl
   ·rintro ⟨_, ⟨v9, v10⟩⟩ τ hz; (try dsimp only at hz); subst q11; (try dsimp only at h); dsimp only [pupds]
    refine yad (yaa ?_)
    refine yab rfl rfl rfl (yac (p := .v (.int .i64 v10)) rfl (.p rfl)) ?_
    refine yab rfl rfl rfl (yac (p := .v (.int .u64 v9)) rfl (.p rfl)) ?_
    refine yab rfl rfl rfl (pq_conv rfl rfl rfl (.p rfl)) ?_
    refine yai h ?_; clear h; intro c13 hc13 h
    refine yab rfl rfl rfl (pq_indexS rfl rfl (.p rfl) (.p rfl) (fun _ => hc13)) ?_
    refine yab rfl rfl rfl (pq_conv rfl rfl rfl (.p rfl)) ?_
    refine yab rfl rfl rfl (yau rfl (.p rfl) (.p rfl) rfl) ?_
    refine lb_elim h ?_; clear h; intro w14 hw14 h
    refine yab rfl rfl rfl (yae rfl (.p (congrArg (fun z => PV.v (Value.int .i64 z)) hw14))) ?_
    refine yaf (yah (yas ?_))
    obtain rfl := Option.some.inj h
    exact yat (prv_1 (yav rfl)) zsn ⟨rfl, rfl⟩
def math_bits_LeadingZeros64 (p0 : Int) : Option Int := Option.bind (math_bits_Len64 p0) (fun x1 => some (IntKind.i64.wrap (64 - x1)))
set_option maxHeartbeats 4000000 in
theorem math_bits_LeadingZeros64_ok {p0 : Int} {r : Int}  (h : math_bits_LeadingZeros64 p0 = some r) : PF 135 [.v (.int .u64 p0)] (.v (.int .i64 r)) := by
 unfold math_bits_LeadingZeros64 at h
 refine pf_of ?_
 refine penter Tryz.func135 fk135 rfl Tryz.ntmps135 Tryz.results135 rfl ?_
 refine yad (yaa ?_)
 refine yab rfl rfl rfl (yae (p := .v (.int .i64 0)) rfl (.p rfl)) ?_
 refine yaf (yah (yad (yaa ?_)))
 refine yab rfl rfl rfl (yac (p := .v (.int .u64 p0)) rfl (.p rfl)) ?_
 refine yai h ?_; clear h; intro x1 hx1 h
 refine pwl_call rfl rfl rfl rfl rfl (math_bits_Len64_ok hx1) ?_
 refine yab rfl rfl rfl (yau rfl (.p rfl) (.p rfl) rfl) ?_
 refine yab rfl rfl rfl (yae (p := .v (.int .i64 (IntKind.i64.wrap (64 - x1)))) rfl (.p rfl)) ?_
 refine yaf (yah (yas ?_))
 obtain rfl := Option.some.inj h
 exact yat (prv_1 (yav rfl)) zsn ⟨rfl, rfl⟩
def exact_raised (p0 : Int) (p1 : Int) (p2 : Int) (p3 : Int) : Option Bool := cond (p3 == 1) (some (decide (0 < p1))) (cond (p3 == 2) (some (decide ((IntKind.u64.wrap (p2 - p1)) ≤ p1))) (cond (p3 == 3) (some ((decide ((IntKind.u64.wrap (p2 - p1)) < p1)) || ((p1 == (IntKind.u64.wrap (p2 - p1))) && ((Int.tmod p0 2) == 1)))) (some false)))
set_option maxHeartbeats 4000000 in
theorem exact_raised_ok {p0 : Int} {p1 : Int} {p2 : Int} {p3 : Int} {r : Bool}  (h : exact_raised p0 p1 p2 p3 = some r) : PF 124 [.v (.int .u64 p0), .v (.int .u64 p1), .v (.int .u64 p2), .v (.int .i64 p3)] (.v (.bool r)) := by
 unfold exact_raised at h
 refine pf_of ?_
 refine penter Tryz.func124 fk124 rfl Tryz.ntmps124 Tryz.results124 rfl ?_
 refine yad (yaa ?_)
 refine yab rfl rfl rfl (yae (p := .v (.bool false)) rfl (.p rfl)) ?_
 refine yaf (yah (yad (yaa ?_)))
 refine yab rfl rfl rfl (yac (p := .v (.int .u64 p2)) rfl (.p rfl)) ?_
 refine yab rfl rfl rfl (yac (p := .v (.int .u64 p1)) rfl (.p rfl)) ?_
 refine yab rfl rfl rfl (yau rfl (.p rfl) (.p rfl) rfl) ?_
 refine yab rfl rfl rfl (yae (p := .v (.int .u64 (IntKind.u64.wrap (p2 - p1)))) rfl (.p rfl)) ?_
 refine yaf (yah (yad (yad (yaa ?_))))
 refine yab rfl rfl rfl (yac (p := .v (.int .i64 p3)) rfl (.p rfl)) ?_
 refine yaf (yah (pwc_block (yad (yaa ?_))))
 refine yab rfl rfl rfl (yap rfl (.p rfl) (.p rfl) rfl) ?_
 refine yab rfl rfl rfl (yae (p := .v (.bool (p3 == 1))) rfl (.p rfl)) ?_
 refine yaf (yah ?_)
 refine yam rfl (fun hc1 => ?_) (fun hc1 => ?_)
 ·replace h := yax hc1 h
  refine yad (yaa ?_)
  refine yab rfl rfl rfl (yac (p := .v (.int .u64 p1)) rfl (.p rfl)) ?_
  refine yab rfl rfl rfl (yap rfl (.p rfl) (.p rfl) rfl) ?_
  refine yab rfl rfl rfl (yae (p := .v (.bool (decide (0 < p1)))) rfl (.p rfl)) ?_
  refine yaf (yah (yas (yaz (yaq ?_))))
  obtain rfl := Option.some.inj h
  exact yat (prv_1 (yav rfl)) zsn ⟨rfl, rfl⟩
 ·replace h := yay hc1 h
  refine yad (yaa ?_)
  refine yab rfl rfl rfl (yap rfl (.p rfl) (.p rfl) rfl) ?_
  refine yab rfl rfl rfl (yae (p := .v (.bool (p3 == 2))) rfl (.p rfl)) ?_
  refine yaf (yah ?_)
  refine yam rfl (fun hc2 => ?_) (fun hc2 => ?_)
  ·replace h := yax hc2 h
   refine yad (yaa ?_)
   refine yab rfl rfl rfl (yac (p := .v (.int .u64 p1)) rfl (.p rfl)) ?_
   refine yab rfl rfl rfl (yac (p := .v (.int .u64 (IntKind.u64.wrap (p2 - p1)))) rfl (.p rfl)) ?_
   refine yab rfl rfl rfl (yap rfl (.p rfl) (.p rfl) rfl) ?_
   refine yab rfl rfl rfl (yae (p := .v (.bool (decide ((IntKind.u64.wrap (p2 - p1)) ≤ p1)))) rfl (.p rfl)) ?_
   refine yaf (yah (yas (yaz (yaq ?_))))
   obtain rfl := Option.some.inj h
   exact yat (prv_1 (yav rfl)) zsn ⟨rfl, rfl⟩
  ·replace h := yay hc2 h
   refine yad (yaa ?_)
   refine yab rfl rfl rfl (yap rfl (.p rfl) (.p rfl) rfl) ?_
   refine yab rfl rfl rfl (yae (p := .v (.bool (p3 == 3))) rfl (.p rfl)) ?_
   refine yaf (yah ?_)
   refine yam rfl (fun hc3 => ?_) (fun hc3 => ?_)
   ·replace h := yax hc3 h
    refine yad (yaa ?_)
    refine yab rfl rfl rfl (yac (p := .v (.int .u64 p1)) rfl (.p rfl)) ?_
    refine yab rfl rfl rfl (yac (p := .v (.int .u64 (IntKind.u64.wrap (p2 - p1)))) rfl (.p rfl)) ?_
    refine yab rfl rfl rfl (yap rfl (.p rfl) (.p rfl) rfl) ?_
    refine yab rfl rfl rfl (yac (p := .v (.bool (decide ((IntKind.u64.wrap (p2 - p1)) < p1)))) rfl (.p rfl)) ?_
    refine yal (yak rfl rfl rfl) rfl rfl (yac (p := .v (.int .u64 p1)) rfl (.p rfl)) ?_
    refine yal (yak rfl rfl rfl) rfl rfl (yac (p := .v (.int .u64 (IntKind.u64.wrap (p2 - p1)))) rfl (.p rfl)) ?_
    refine yal (yak rfl rfl rfl) rfl rfl (yap rfl (.g rfl) (.g rfl) rfl) ?_
    refine yal (yak rfl rfl rfl) rfl rfl (yac (p := .v (.bool (p1 == (IntKind.u64.wrap (p2 - p1))))) rfl (.g rfl)) ?_
    refine yal (pguard_gt rfl rfl rfl) rfl rfl (yac (p := .v (.int .u64 p0)) rfl (.p rfl)) ?_
    refine yal (pguard_gt rfl rfl rfl) rfl rfl (pq_rem rfl (.g rfl) (.p rfl) (fun _ => by decide)) ?_
    refine yal (pguard_gt rfl rfl rfl) rfl rfl (yap rfl (.g rfl) (.p rfl) rfl) ?_
    refine yal (yak rfl rfl rfl) rfl rfl (pq_and rfl (.g rfl) (.p rfl) (.g rfl)) ?_
    refine yab rfl rfl rfl (pq_or rfl (.p rfl) (.p rfl) (.g rfl)) ?_
    refine yab rfl rfl rfl (yae (p := .v (.bool ((decide ((IntKind.u64.wrap (p2 - p1)) < p1)) || ((p1 == (IntKind.u64.wrap (p2 - p1))) && ((Int.tmod p0 2) == 1))))) rfl (.p rfl)) ?_
    refine yaf (yah (yas (yaz (yaq ?_))))
    obtain rfl := Option.some.inj h
    exact yat (prv_1 (yav rfl)) zsn ⟨rfl, rfl⟩
   ·replace h := yay hc3 h
    refine yan (pk_block_n (yah (yad (yaa ?_))))
    refine yab rfl rfl rfl (yae (p := .v (.bool false)) rfl (.p rfl)) ?_
    refine yaf (yah (yas ?_))
    obtain rfl := Option.some.inj h
    exact yat (prv_1 (yav rfl)) zsn ⟨rfl, rfl⟩
def cmp_isNaN_int (p0 : Int) : Option Bool := some (p0 != p0)
set_option maxHeartbeats 4000000 in
theorem cmp_isNaN_int_ok {p0 : Int} {r : Bool}  (h : cmp_isNaN_int p0 = some r) : PF 76 [.v (.int .i64 p0)] (.v (.bool r)) := by
 unfold cmp_isNaN_int at h
 refine pf_of ?_
 refine penter Tryz.func76 fk76 rfl Tryz.ntmps76 Tryz.results76 rfl ?_
 refine yad (yaa ?_)
 refine yab rfl rfl rfl (yae (p := .v (.bool false)) rfl (.p rfl)) ?_
 refine yaf (yah (yad (yaa ?_)))
 refine yab rfl rfl rfl (yac (p := .v (.int .i64 p0)) rfl (.p rfl)) ?_
 refine yab rfl rfl rfl (yac (p := .v (.int .i64 p0)) rfl (.p rfl)) ?_
 refine yab rfl rfl rfl (yap rfl (.p rfl) (.p rfl) rfl) ?_
 refine yab rfl rfl rfl (yae (p := .v (.bool (p0 != p0))) rfl (.p rfl)) ?_
 refine yaf (yah (yas ?_))
 obtain rfl := Option.some.inj h
 exact yat (prv_1 (yav rfl)) zsn ⟨rfl, rfl⟩
def cmp_Compare_int (p0 : Int) (p1 : Int) : Option Int := Option.bind (cmp_isNaN_int p0) (fun x1 => Option.bind (cmp_isNaN_int p1) (fun x2 => cond x1 (cond x2 (some 0) (some (-1))) (cond x2 (some 1) (cond (decide (p0 < p1)) (some (-1)) (cond (decide (p1 < p0)) (some 1) (some 0))))))
set_option maxHeartbeats 4000000 in
theorem cmp_Compare_int_ok {p0 : Int} {p1 : Int} {r : Int}  (h : cmp_Compare_int p0 p1 = some r) : PF 49 [.v (.int .i64 p0), .v (.int .i64 p1)] (.v (.int .i64 r)) := by
 unfold cmp_Compare_int at h
 refine pf_of ?_
 refine penter Tryz.func49 fk49 rfl Tryz.ntmps49 Tryz.results49 rfl ?_
 refine yad (yaa ?_)
 refine yab rfl rfl rfl (yae (p := .v (.int .i64 0)) rfl (.p rfl)) ?_
 refine yaf (yah (yad (yaa ?_)))
 refine yab rfl rfl rfl (yac (p := .v (.int .i64 p0)) rfl (.p rfl)) ?_
 refine yai h ?_; clear h; intro x1 hx1 h
 refine pwl_call rfl rfl rfl rfl rfl (cmp_isNaN_int_ok hx1) ?_
 refine yab rfl rfl rfl (yae (p := .v (.bool x1)) rfl (.p rfl)) ?_
 refine yaf (yah (yad (yaa ?_)))
 refine yab rfl rfl rfl (yac (p := .v (.int .i64 p1)) rfl (.p rfl)) ?_
 refine yai h ?_; clear h; intro x2 hx2 h
 refine pwl_call rfl rfl rfl rfl rfl (cmp_isNaN_int_ok hx2) ?_
 refine yab rfl rfl rfl (yae (p := .v (.bool x2)) rfl (.p rfl)) ?_
 refine yaf (yah (yad (yad (yaa ?_))))
 refine yab rfl rfl rfl (yac (p := .v (.bool x1)) rfl (.p rfl)) ?_
 refine yaf (yah ?_)
 refine yam rfl (fun hc3 => ?_) (fun hc3 => ?_)
 ·replace h := yax hc3 h
  refine yad (yad (yaa ?_))
  refine yab rfl rfl rfl (yac (p := .v (.bool x2)) rfl (.p rfl)) ?_
  refine yaf (yah ?_)
  refine yam rfl (fun hc4 => ?_) (fun hc4 => ?_)
  ·replace h := yax hc4 h
   refine yad (yaa ?_)
   refine yab rfl rfl rfl (yae (p := .v (.int .i64 0)) rfl (.p rfl)) ?_
   refine yaf (yah (yas (yaq (yaq ?_))))
   obtain rfl := Option.some.inj h
   exact yat (prv_1 (yav rfl)) zsn ⟨rfl, rfl⟩
  ·replace h := yay hc4 h
   refine yan (yah (yad (yaa ?_)))
   refine yab rfl rfl rfl (yae (p := .v (.int .i64 (-1))) rfl (.p rfl)) ?_
   refine yaf (yah (yas (yaq ?_)))
   obtain rfl := Option.some.inj h
   exact yat (prv_1 (yav rfl)) zsn ⟨rfl, rfl⟩
 ·replace h := yay hc3 h
  refine yan (yah (yad (yad (yaa ?_))))
  refine yab rfl rfl rfl (yac (p := .v (.bool x2)) rfl (.p rfl)) ?_
  refine yaf (yah ?_)
  refine yam rfl (fun hc5 => ?_) (fun hc5 => ?_)
  ·replace h := yax hc5 h
   refine yad (yaa ?_)
   refine yab rfl rfl rfl (yae (p := .v (.int .i64 1)) rfl (.p rfl)) ?_
   refine yaf (yah (yas (yaq ?_)))
   obtain rfl := Option.some.inj h
   exact yat (prv_1 (yav rfl)) zsn ⟨rfl, rfl⟩
  ·replace h := yay hc5 h
   refine yan (yah (yad (yad (yaa ?_))))
   refine yab rfl rfl rfl (yac (p := .v (.int .i64 p0)) rfl (.p rfl)) ?_
   refine yab rfl rfl rfl (yac (p := .v (.int .i64 p1)) rfl (.p rfl)) ?_
   refine yab rfl rfl rfl (yap rfl (.p rfl) (.p rfl) rfl) ?_
   refine yaf (yah ?_)
   refine yam rfl (fun hc6 => ?_) (fun hc6 => ?_)
   ·replace h := yax hc6 h
    refine yad (yaa ?_)
    refine yab rfl rfl rfl (yae (p := .v (.int .i64 (-1))) rfl (.p rfl)) ?_
    refine yaf (yah (yas (yaq ?_)))
    obtain rfl := Option.some.inj h
    exact yat (prv_1 (yav rfl)) zsn ⟨rfl, rfl⟩
   ·replace h := yay hc6 h
    refine yan (yah (yad (yad (yaa ?_))))
    refine yab rfl rfl rfl (yac (p := .v (.int .i64 p0)) rfl (.p rfl)) ?_
    refine yab rfl rfl rfl (yac (p := .v (.int .i64 p1)) rfl (.p rfl)) ?_
    refine yab rfl rfl rfl (yap rfl (.p rfl) (.p rfl) rfl) ?_
    refine yaf (yah ?_)
    refine yam rfl (fun hc7 => ?_) (fun hc7 => ?_)
    ·replace h := yax hc7 h
     refine yad (yaa ?_)
     refine yab rfl rfl rfl (yae (p := .v (.int .i64 1)) rfl (.p rfl)) ?_
     refine yaf (yah (yas (yaq ?_)))
     obtain rfl := Option.some.inj h
     exact yat (prv_1 (yav rfl)) zsn ⟨rfl, rfl⟩
    ·replace h := yay hc7 h
     refine yan (yah (yad (yaa ?_)))
     refine yab rfl rfl rfl (yae (p := .v (.int .i64 0)) rfl (.p rfl)) ?_
     refine yaf (yah (yas ?_))
     obtain rfl := Option.some.inj h
     exact yat (prv_1 (yav rfl)) zsn ⟨rfl, rfl⟩
def cmp_isNaN_uint64 (p0 : Int) : Option Bool := some (p0 != p0)
set_option maxHeartbeats 4000000 in
theorem cmp_isNaN_uint64_ok {p0 : Int} {r : Bool}  (h : cmp_isNaN_uint64 p0 = some r) : PF 133 [.v (.int .u64 p0)] (.v (.bool r)) := by
 unfold cmp_isNaN_uint64 at h
 refine pf_of ?_
 refine penter Tryz.func133 fk133 rfl Tryz.ntmps133 Tryz.results133 rfl ?_
 refine yad (yaa ?_)
 refine yab rfl rfl rfl (yae (p := .v (.bool false)) rfl (.p rfl)) ?_
 refine yaf (yah (yad (yaa ?_)))
 refine yab rfl rfl rfl (yac (p := .v (.int .u64 p0)) rfl (.p rfl)) ?_
 refine yab rfl rfl rfl (yac (p := .v (.int .u64 p0)) rfl (.p rfl)) ?_
 refine yab rfl rfl rfl (yap rfl (.p rfl) (.p rfl) rfl) ?_
 refine yab rfl rfl rfl (yae (p := .v (.bool (p0 != p0))) rfl (.p rfl)) ?_
 refine yaf (yah (yas ?_))
 obtain rfl := Option.some.inj h
 exact yat (prv_1 (yav rfl)) zsn ⟨rfl, rfl⟩
def cmp_Compare_uint64 (p0 : Int) (p1 : Int) : Option Int := Option.bind (cmp_isNaN_uint64 p0) (fun x1 => Option.bind (cmp_isNaN_uint64 p1) (fun x2 => cond x1 (cond x2 (some 0) (some (-1))) (cond x2 (some 1) (cond (decide (p0 < p1)) (some (-1)) (cond (decide (p1 < p0)) (some 1) (some 0))))))
set_option maxHeartbeats 4000000 in
theorem cmp_Compare_uint64_ok {p0 : Int} {p1 : Int} {r : Int}  (h : cmp_Compare_uint64 p0 p1 = some r) : PF 118 [.v (.int .u64 p0), .v (.int .u64 p1)] (.v (.int .i64 r)) := by
 unfold cmp_Compare_uint64 at h
 refine pf_of ?_
 refine penter Tryz.func118 fk118 rfl Tryz.ntmps118 Tryz.results118 rfl ?_
 refine yad (yaa ?_)
 refine yab rfl rfl rfl (yae (p := .v (.int .i64 0)) rfl (.p rfl)) ?_
 refine yaf (yah (yad (yaa ?_)))
 refine yab rfl rfl rfl (yac (p := .v (.int .u64 p0)) rfl (.p rfl)) ?_
 refine yai h ?_; clear h; intro x1 hx1 h
 refine pwl_call rfl rfl rfl rfl rfl (cmp_isNaN_uint64_ok hx1) ?_
 refine yab rfl rfl rfl (yae (p := .v (.bool x1)) rfl (.p rfl)) ?_
 refine yaf (yah (yad (yaa ?_)))
 refine yab rfl rfl rfl (yac (p := .v (.int .u64 p1)) rfl (.p rfl)) ?_
 refine yai h ?_; clear h; intro x2 hx2 h
 refine pwl_call rfl rfl rfl rfl rfl (cmp_isNaN_uint64_ok hx2) ?_
 refine yab rfl rfl rfl (yae (p := .v (.bool x2)) rfl (.p rfl)) ?_
 refine yaf (yah (yad (yad (yaa ?_))))
 refine yab rfl rfl rfl (yac (p := .v (.bool x1)) rfl (.p rfl)) ?_
 refine yaf (yah ?_)
 refine yam rfl (fun hc3 => ?_) (fun hc3 => ?_)
 ·replace h := yax hc3 h
  refine yad (yad (yaa ?_))
  refine yab rfl rfl rfl (yac (p := .v (.bool x2)) rfl (.p rfl)) ?_
  refine yaf (yah ?_)
  refine yam rfl (fun hc4 => ?_) (fun hc4 => ?_)
  ·replace h := yax hc4 h
   refine yad (yaa ?_)
   refine yab rfl rfl rfl (yae (p := .v (.int .i64 0)) rfl (.p rfl)) ?_
   refine yaf (yah (yas (yaq (yaq ?_))))
   obtain rfl := Option.some.inj h
   exact yat (prv_1 (yav rfl)) zsn ⟨rfl, rfl⟩
  ·replace h := yay hc4 h
   refine yan (yah (yad (yaa ?_)))
   refine yab rfl rfl rfl (yae (p := .v (.int .i64 (-1))) rfl (.p rfl)) ?_
   refine yaf (yah (yas (yaq ?_)))
   obtain rfl := Option.some.inj h
   exact yat (prv_1 (yav rfl)) zsn ⟨rfl, rfl⟩
 ·replace h := yay hc3 h
  refine yan (yah (yad (yad (yaa ?_))))
  refine yab rfl rfl rfl (yac (p := .v (.bool x2)) rfl (.p rfl)) ?_
  refine yaf (yah ?_)
  refine yam rfl (fun hc5 => ?_) (fun hc5 => ?_)
  ·replace h := yax hc5 h
   refine yad (yaa ?_)
   refine yab rfl rfl rfl (yae (p := .v (.int .i64 1)) rfl (.p rfl)) ?_
   refine yaf (yah (yas (yaq ?_)))
   obtain rfl := Option.some.inj h
   exact yat (prv_1 (yav rfl)) zsn ⟨rfl, rfl⟩
  ·replace h := yay hc5 h
   refine yan (yah (yad (yad (yaa ?_))))
   refine yab rfl rfl rfl (yac (p := .v (.int .u64 p0)) rfl (.p rfl)) ?_
   refine yab rfl rfl rfl (yac (p := .v (.int .u64 p1)) rfl (.p rfl)) ?_
   refine yab rfl rfl rfl (yap rfl (.p rfl) (.p rfl) rfl) ?_
   refine yaf (yah ?_)
   refine yam rfl (fun hc6 => ?_) (fun hc6 => ?_)
   ·replace h := yax hc6 h
    refine yad (yaa ?_)
    refine yab rfl rfl rfl (yae (p := .v (.int .i64 (-1))) rfl (.p rfl)) ?_
    refine yaf (yah (yas (yaq ?_)))
    obtain rfl := Option.some.inj h
    exact yat (prv_1 (yav rfl)) zsn ⟨rfl, rfl⟩
   ·replace h := yay hc6 h
    refine yan (yah (yad (yad (yaa ?_))))
    refine yab rfl rfl rfl (yac (p := .v (.int .u64 p0)) rfl (.p rfl)) ?_
    refine yab rfl rfl rfl (yac (p := .v (.int .u64 p1)) rfl (.p rfl)) ?_
    refine yab rfl rfl rfl (yap rfl (.p rfl) (.p rfl) rfl) ?_
    refine yaf (yah ?_)
    refine yam rfl (fun hc7 => ?_) (fun hc7 => ?_)
    ·replace h := yax hc7 h
     refine yad (yaa ?_)
     refine yab rfl rfl rfl (yae (p := .v (.int .i64 1)) rfl (.p rfl)) ?_
     refine yaf (yah (yas (yaq ?_)))
     obtain rfl := Option.some.inj h
     exact yat (prv_1 (yav rfl)) zsn ⟨rfl, rfl⟩
    ·replace h := yay hc7 h
     refine yan (yah (yad (yaa ?_)))
     refine yab rfl rfl rfl (yae (p := .v (.int .i64 0)) rfl (.p rfl)) ?_
     refine yaf (yah (yas ?_))
     obtain rfl := Option.some.inj h
     exact yat (prv_1 (yav rfl)) zsn ⟨rfl, rfl⟩
def apportion_byRest (p0 : Tapportion_portion) (p1 : Tapportion_portion) : Option Int := Option.bind (cmp_Compare_uint64 p1.rest p0.rest) (fun x3 => cond (x3 != 0) (some x3) (Option.bind (cmp_Compare_int p0.index_ p1.index_) (fun x5 => some x5)))
set_option maxHeartbeats 4000000 in
theorem apportion_byRest_ok {p0 : Tapportion_portion} {p1 : Tapportion_portion} {r : Int}  (h : apportion_byRest p0 p1 = some r) : PF 91 [.agg [.v (.int .i64 p0.index_), .v (.int .u64 p0.share), .v (.int .u64 p0.rest)], .agg [.v (.int .i64 p1.index_), .v (.int .u64 p1.share), .v (.int .u64 p1.rest)]] (.v (.int .i64 r)) := by
 unfold apportion_byRest at h
 refine pf_of ?_
 refine penter Tryz.func91 fk91 rfl Tryz.ntmps91 Tryz.results91 rfl ?_
 refine yad (yaa ?_)
 refine pwl_l rfl rfl rfl (pl_box (cs := [.v (.int .i64 p0.index_), .v (.int .u64 p0.share), .v (.int .u64 p0.rest)]) rfl rfl (fun b1 => ?_))
 refine pwl_l rfl rfl rfl (pl_box (cs := [.v (.int .i64 p1.index_), .v (.int .u64 p1.share), .v (.int .u64 p1.rest)]) rfl rfl (fun b2 => ?_))
 refine yab rfl rfl rfl (yae (p := .v (.int .i64 0)) rfl (.p rfl)) ?_
 refine yaf (yah (yad (yad (yaa ?_))))
 refine yab rfl rfl rfl (yag rfl rfl rfl rfl rfl (.p rfl)) ?_
 refine yab rfl rfl rfl (yaj (p := .v (.int .u64 p1.rest)) rfl (.p rfl) zm0 rfl) ?_
 refine yab rfl rfl rfl (yag rfl rfl rfl rfl rfl (.p rfl)) ?_
 refine yab rfl rfl rfl (yaj (p := .v (.int .u64 p0.rest)) rfl (.p rfl) zm1 rfl) ?_
 refine yai h ?_; clear h; intro x3 hx3 h
 refine pwl_call rfl rfl rfl rfl rfl (cmp_Compare_uint64_ok hx3) ?_
 refine yab rfl rfl rfl (yae (p := .v (.int .i64 x3)) rfl (.p rfl)) ?_
 refine yaf (yah (yad (yaa ?_)))
 refine yab rfl rfl rfl (yac (p := .v (.int .i64 x3)) rfl (.p rfl)) ?_
 refine yab rfl rfl rfl (yap rfl (.p rfl) (.p rfl) rfl) ?_
 refine yaf (yah ?_)
 refine yam rfl (fun hc4 => ?_) (fun hc4 => ?_)
 ·replace h := yax hc4 h
  refine yad (yaa ?_)
  refine yab rfl rfl rfl (yac (p := .v (.int .i64 x3)) rfl (.p rfl)) ?_
  refine yab rfl rfl rfl (yae (p := .v (.int .i64 x3)) rfl (.p rfl)) ?_
  refine yaf (yah (yas (yaq ?_)))
  obtain rfl := Option.some.inj h
  exact yat (prv_1 (yav rfl)) zsn ⟨rfl, rfl⟩
 ·replace h := yay hc4 h
  refine yan (yah (yad (yaa ?_)))
  refine yab rfl rfl rfl (yag rfl rfl rfl rfl rfl (.p rfl)) ?_
  refine yab rfl rfl rfl (yaj (p := .v (.int .i64 p0.index_)) rfl (.p rfl) zm1 rfl) ?_
  refine yab rfl rfl rfl (yag rfl rfl rfl rfl rfl (.p rfl)) ?_
  refine yab rfl rfl rfl (yaj (p := .v (.int .i64 p1.index_)) rfl (.p rfl) zm0 rfl) ?_
  refine yai h ?_; clear h; intro x5 hx5 h
  refine pwl_call rfl rfl rfl rfl rfl (cmp_Compare_int_ok hx5) ?_
  refine yab rfl rfl rfl (yae (p := .v (.int .i64 x5)) rfl (.p rfl)) ?_
  refine yaf (yah (yas ?_))
  obtain rfl := Option.some.inj h
  exact yat (prv_1 (yav rfl)) zsn ⟨rfl, rfl⟩
def ref19_InForce (p0 : TMeasure) (p1 : Int) : Option Bool := some (((decide (p0.From ≤ p1)) && (decide (p1 < p0.To))) || (((decide (0 ≤ p0.Registered)) && (decide (p0.Registered ≤ p1))) && (decide (p1 < p0.From))))
def ref08_Prefix (p0 : ByteArray) (p1 : ByteArray) : Option Bool := Option.bind (gd (decide ((p1.size : Int) ≤ (p0.size : Int))) (ssub p0 0 (p1.size : Int))) (fun s1 => some ((decide ((p1.size : Int) ≤ (p0.size : Int))) && (decide (s1 = p1))))
def ref08_Has (p0 : (List ByteArray)) (p1 : ByteArray) : Option Bool := Option.bind (loopF (S := Int) (T := (Unit) ⊕ (_)) (fun v1 => cond (decide (v1 < (p0.length : Int))) (Option.bind (idx p0 v1) (fun m5 => cond (decide (m5 = p1)) (some (.inr (.inr true))) (some (.inl (IntKind.i64.wrap (v1 + 1)))))) (some (.inr (.inl ())))) FUEL 0) (fun q => match q with | .inl _ => some false | .inr e => some e)
def ref19_Covers (p0 : TMeasure) (p1 : ByteArray) (p2 : ByteArray) (p3 : Int) (p4 : Int) : Option Bool := Option.bind (ref19_InForce p0 p4) (fun x2 => Option.bind (gd x2 (ref08_Prefix p1 p0.Prefix)) (fun x3 => Option.bind (gd ((x2 && x3) && (!((p0.Origins.length : Int) == 0))) (ref08_Has p0.Origins p2)) (fun x4 => some (((x2 && x3) && (((p0.Origins.length : Int) == 0) || x4)) && ((p0.Company == 0) || (p0.Company == p3))))))
def ref19_rank (p0 : TMeasure) : Option Int := Option.bind (cond (decide (0 < (p0.Origins.length : Int))) (some (p0.Origins.length : Int)) (some 21)) (fun v2 => Option.bind (cond (p0.Company != 0) (some 1) (some 0)) (fun v5 => lb ((IntKind.i64.wrap ((IntKind.i64.wrap ((IntKind.i64.wrap ((IntKind.i64.wrap ((IntKind.i64.wrap ((IntKind.i64.wrap ((IntKind.i64.wrap ((p0.Prefix.size : Int) * 2)) + v5)) * 100)) + 50)) - v2)) * 10000000)) + p0.ID))) (fun w8 => some w8)))
def made_Source_rate (p0 : Tmade_Source) : Option (Int × Tmade_Source) := Option.bind (made_Source_Next p0 4) (fun x1 => cond (decide (0 < x1.1)) (Option.bind (made_Source_Next x1.2 101) (fun x3 => some ((IntKind.i64.wrap (10000 * x3.1)), x3.2))) (Option.bind (made_Source_Next x1.2 1000001) (fun x4 => some (x4.1, x4.2))))
set_option maxHeartbeats 4000000 in
theorem made_Source_rate_ok {p0 : Tmade_Source} {b0 : Nat} {r : (Int × Tmade_Source)}  (h : made_Source_rate p0 = some r) : PCall 53 [.v (.pointer (some ⟨b0, 0, none⟩))] [PRes.b b0 59 [.slc (List.map eI p0.L), .v (.int .i64 p0.I)]] (fun pv ρ' => pv = .v (.int .i64 r.1) ∧ ρ' = [PRes.b b0 59 [.slc (List.map eI r.2.L), .v (.int .i64 r.2.I)]]) := by
 unfold made_Source_rate at h
 refine penter Tryz.func53 fk53 rfl Tryz.ntmps53 Tryz.results53 rfl ?_
 refine yad (yaa ?_)
 refine yab rfl rfl rfl (yae (p := .v (.int .i64 0)) rfl (.p rfl)) ?_
 refine yaf (yah (yad (yad (yaa ?_))))
 refine yab rfl rfl rfl (yac (p := .v (.pointer (some ⟨b0, 0, none⟩))) rfl (.p rfl)) ?_
 refine yai h ?_; clear h; intro x1 hx1 h
 refine pwl_l rfl rfl rfl (pl_callR rfl rfl (ρ1 := [_]) (yba (by exact zph) (List.Perm.refl _)) (yao hx1) ?_); rintro _ _ ⟨rfl, rfl⟩
 refine yab rfl rfl rfl (yap rfl (.p rfl) (.p rfl) rfl) ?_
 refine yaf (yah ?_)
 refine yam rfl (fun hc2 => ?_) (fun hc2 => ?_)
 ·replace h := yax hc2 h
  refine yad (yaa ?_)
  refine yab rfl rfl rfl (yac (p := .v (.pointer (some ⟨b0, 0, none⟩))) rfl (.p rfl)) ?_
  refine yai h ?_; clear h; intro x3 hx3 h
  refine pwl_l rfl rfl rfl (pl_callR rfl rfl (ρ1 := [_]) (yba (by exact zph) (List.Perm.refl _)) (yao hx3) ?_); rintro _ _ ⟨rfl, rfl⟩
  refine yab rfl rfl rfl (yau rfl (.p rfl) (.p rfl) rfl) ?_
  refine yab rfl rfl rfl (yae (p := .v (.int .i64 (IntKind.i64.wrap (10000 * x3.1)))) rfl (.p rfl)) ?_
  refine yaf (yah (yas (yaq ?_)))
  obtain rfl := Option.some.inj h
  exact yat (prv_1 (yav rfl)) (zsc zph zsn) ⟨rfl, rfl⟩
 ·replace h := yay hc2 h
  refine yan (yah (yad (yaa ?_)))
  refine yab rfl rfl rfl (yac (p := .v (.pointer (some ⟨b0, 0, none⟩))) rfl (.p rfl)) ?_
  refine yai h ?_; clear h; intro x4 hx4 h
  refine pwl_l rfl rfl rfl (pl_callR rfl rfl (ρ1 := [_]) (yba (by exact zph) (List.Perm.refl _)) (yao hx4) ?_); rintro _ _ ⟨rfl, rfl⟩
  refine yab rfl rfl rfl (yae (p := .v (.int .i64 x4.1)) rfl (.p rfl)) ?_
  refine yaf (yah (yas ?_))
  obtain rfl := Option.some.inj h
  exact yat (prv_1 (yav rfl)) (zsc zph zsn) ⟨rfl, rfl⟩
def exact_CompareWide (p0 : Texact_Wide) (p1 : Texact_Wide) : Option Int := cond ((decide (p0.Hi < p1.Hi)) || ((p0.Hi == p1.Hi) && (decide (p0.Lo < p1.Lo)))) (some (-1)) (cond (Texact_Wide.eqb p0 p1) (some 0) (some 1))
set_option maxHeartbeats 4000000 in
theorem exact_CompareWide_ok {p0 : Texact_Wide} {p1 : Texact_Wide} {r : Int}  (h : exact_CompareWide p0 p1 = some r) : PF 96 [.agg [.v (.int .u64 p0.Hi), .v (.int .u64 p0.Lo)], .agg [.v (.int .u64 p1.Hi), .v (.int .u64 p1.Lo)]] (.v (.int .i64 r)) := by
 unfold exact_CompareWide at h
 refine pf_of ?_
 refine penter Tryz.func96 fk96 rfl Tryz.ntmps96 Tryz.results96 rfl ?_
 refine yad (yaa ?_)
 refine pwl_l rfl rfl rfl (pl_box (cs := [.v (.int .u64 p0.Hi), .v (.int .u64 p0.Lo)]) rfl rfl (fun b1 => ?_))
 refine pwl_l rfl rfl rfl (pl_box (cs := [.v (.int .u64 p1.Hi), .v (.int .u64 p1.Lo)]) rfl rfl (fun b2 => ?_))
 refine yab rfl rfl rfl (yae (p := .v (.int .i64 0)) rfl (.p rfl)) ?_
 refine yaf (yah (yad (pwc_block (yad (yaa ?_)))))
 refine yab rfl rfl rfl (yag rfl rfl rfl rfl rfl (.p rfl)) ?_
 refine yab rfl rfl rfl (yaj (p := .v (.int .u64 p0.Hi)) rfl (.p rfl) zm1 rfl) ?_
 refine yab rfl rfl rfl (yag rfl rfl rfl rfl rfl (.p rfl)) ?_
 refine yab rfl rfl rfl (yaj (p := .v (.int .u64 p1.Hi)) rfl (.p rfl) zm0 rfl) ?_
 refine yab rfl rfl rfl (yap rfl (.p rfl) (.p rfl) rfl) ?_
 refine yab rfl rfl rfl (yac (p := .v (.bool (decide (p0.Hi < p1.Hi)))) rfl (.p rfl)) ?_
 refine yal (yak rfl rfl rfl) rfl rfl (yag rfl rfl rfl rfl rfl (.p rfl)) ?_
 refine yal (yak rfl rfl rfl) rfl rfl (yaj (p := .v (.int .u64 p0.Hi)) rfl (.g rfl) zm1 rfl) ?_
 refine yal (yak rfl rfl rfl) rfl rfl (yag rfl rfl rfl rfl rfl (.p rfl)) ?_
 refine yal (yak rfl rfl rfl) rfl rfl (yaj (p := .v (.int .u64 p1.Hi)) rfl (.g rfl) zm0 rfl) ?_
 refine yal (yak rfl rfl rfl) rfl rfl (yap rfl (.g rfl) (.g rfl) rfl) ?_
 refine yal (yak rfl rfl rfl) rfl rfl (yac (p := .v (.bool (p0.Hi == p1.Hi))) rfl (.g rfl)) ?_
 refine yal (pguard_gt rfl rfl rfl) rfl rfl (yag rfl rfl rfl rfl rfl (.p rfl)) ?_
 refine yal (pguard_gt rfl rfl rfl) rfl rfl (yaj (p := .v (.int .u64 p0.Lo)) rfl (.g rfl) zm1 rfl) ?_
 refine yal (pguard_gt rfl rfl rfl) rfl rfl (yag rfl rfl rfl rfl rfl (.p rfl)) ?_
 refine yal (pguard_gt rfl rfl rfl) rfl rfl (yaj (p := .v (.int .u64 p1.Lo)) rfl (.g rfl) zm0 rfl) ?_
 refine yal (pguard_gt rfl rfl rfl) rfl rfl (yap rfl (.g rfl) (.g rfl) rfl) ?_
 refine yal (yak rfl rfl rfl) rfl rfl (pq_and rfl (.g rfl) (.p rfl) (.g rfl)) ?_
 refine yab rfl rfl rfl (pq_or rfl (.p rfl) (.p rfl) (.g rfl)) ?_
 refine yab rfl rfl rfl (yae (p := .v (.bool ((decide (p0.Hi < p1.Hi)) || ((p0.Hi == p1.Hi) && (decide (p0.Lo < p1.Lo)))))) rfl (.p rfl)) ?_
 refine yaf (yah ?_)
 refine yam rfl (fun hc3 => ?_) (fun hc3 => ?_)
 ·replace h := yax hc3 h
  refine yad (yaa ?_)
  refine yab rfl rfl rfl (yae (p := .v (.int .i64 (-1))) rfl (.p rfl)) ?_
  refine yaf (yah (yas (yaz (yaq ?_))))
  obtain rfl := Option.some.inj h
  exact yat (prv_1 (yav rfl)) zsn ⟨rfl, rfl⟩
 ·replace h := yay hc3 h
  refine yad (yaa ?_)
  refine yab rfl rfl rfl (yaj (p := .agg [.v (.int .u64 p0.Hi), .v (.int .u64 p0.Lo)]) rfl (.p rfl) zm1 rfl) ?_
  refine yab rfl rfl rfl (yaj (p := .agg [.v (.int .u64 p1.Hi), .v (.int .u64 p1.Lo)]) rfl (.p rfl) zm0 rfl) ?_
  refine yab rfl rfl rfl (pq_eqst [0, 0] rfl (by kernel_rfl) (by kernel_rfl) (by kernel_rfl) (by kernel_rfl) (.p rfl) (.p rfl) rfl rfl rfl rfl) ?_
  refine yab rfl rfl rfl (yae (p := .v (.bool (Texact_Wide.eqb p0 p1))) rfl (.p rfl)) ?_
  refine yaf (yah ?_)
  refine yam rfl (fun hc4 => ?_) (fun hc4 => ?_)
  ·replace h := yax hc4 h
   refine yad (yaa ?_)
   refine yab rfl rfl rfl (yae (p := .v (.int .i64 0)) rfl (.p rfl)) ?_
   refine yaf (yah (yas (yaz (yaq ?_))))
   obtain rfl := Option.some.inj h
   exact yat (prv_1 (yav rfl)) zsn ⟨rfl, rfl⟩
  ·replace h := yay hc4 h
   refine yan (pk_block_n (yah (yad (yaa ?_))))
   refine yab rfl rfl rfl (yae (p := .v (.int .i64 1)) rfl (.p rfl)) ?_
   refine yaf (yah (yas ?_))
   obtain rfl := Option.some.inj h
   exact yat (prv_1 (yav rfl)) zsn ⟨rfl, rfl⟩
def slices_insertionSortCmpFunc_apportion_portion (p0 : (List Tapportion_portion)) (p1 : Int) (p2 : Int) (p3 : (Tapportion_portion → Tapportion_portion → Option Int)) : Option (List Tapportion_portion) := Option.bind (loopF (S := (List Tapportion_portion) × Int) (T := ((List Tapportion_portion))) (fun (l2, v3) => cond (decide (v3 < p2)) (Option.bind (loopF (S := (List Tapportion_portion) × Int) (T := ((List Tapportion_portion))) (fun (l10, v11) => Option.bind (gd (decide (p1 < v11)) (idx l10 v11)) (fun m16 => Option.bind (gd (decide (p1 < v11)) (idx l10 (IntKind.i64.wrap (v11 - 1)))) (fun m17 => Option.bind (gd (decide (p1 < v11)) (p3 m16 m17)) (fun x18 => cond ((decide (p1 < v11)) && (decide (x18 < 0))) (Option.bind (idx l10 (IntKind.i64.wrap (v11 - 1))) (fun m22 => Option.bind (idx l10 v11) (fun m23 => Option.bind (idx l10 v11) (fun m24 => Option.bind (idx (l10.set v11.toNat m22) (IntKind.i64.wrap (v11 - 1))) (fun m26 => some (.inl (((l10.set v11.toNat m22).set (IntKind.i64.wrap (v11 - 1)).toNat m23), (IntKind.i64.wrap (v11 - 1))))))))) (some (.inr l10)))))) FUEL (l2, v3)) (fun l13 => some (.inl (l13, (IntKind.i64.wrap (v3 + 1)))))) (some (.inr l2))) FUEL (p0, (IntKind.i64.wrap (p1 + 1)))) (fun l5 => some l5)
set_option maxHeartbeats 4000000 in
theorem slices_insertionSortCmpFunc_apportion_portion_ok {p0 : (List Tapportion_portion)} {p1 : Int} {p2 : Int} {p3 : (Tapportion_portion → Tapportion_portion → Option Int)} {a_0 : Option Addr}  {n_0 : Nat}  {c_0 : Nat} {r : (List Tapportion_portion)} {g3 : PV} (hg3 : ∀ {y0 : Tapportion_portion} {y1 : Tapportion_portion} {w : Int}, p3 y0 y1 = some w → PFV g3 [.agg [.v (.int .i64 y0.index_), .v (.int .u64 y0.share), .v (.int .u64 y0.rest)], .agg [.v (.int .i64 y1.index_), .v (.int .u64 y1.share), .v (.int .u64 y1.rest)]] (.v (.int .i64 w))) (h : slices_insertionSortCmpFunc_apportion_portion p0 p1 p2 p3 = some r) : PCall 141 [.v (.slice a_0 n_0 c_0), .v (.int .i64 p1), .v (.int .i64 p2), g3] [PRes.row a_0 n_0 c_0 144 3 (List.map Tapportion_portion.enc p0)] (fun pv ρ' => pv = .tup [] ∧ ρ' = [PRes.row a_0 n_0 c_0 144 3 (List.map Tapportion_portion.enc r)]) := by
 unfold slices_insertionSortCmpFunc_apportion_portion at h
 refine penter Tryz.func141 fk141 rfl Tryz.ntmps141 Tryz.results141 rfl ?_
 refine pwc_rowfact (enc := Tapportion_portion.enc) (xs := p0) (a := a_0) zm0 (fun hl ha => ?_); subst hl; clear ha
 refine yad (yaa ?_)
 refine yab rfl rfl rfl (yac (p := .v (.int .i64 p1)) rfl (.p rfl)) ?_
 refine yab rfl rfl rfl (yau rfl (.p rfl) (.p rfl) rfl) ?_
 refine yab rfl rfl rfl (yae (p := .v (.int .i64 (IntKind.i64.wrap (p1 + 1)))) rfl (.p rfl)) ?_
 refine yaf (yah ?_)
 refine yai h ?_; clear h; intro q7 hq7 h
 refine pwc_cutK (Y := (Unit) × ((List Tapportion_portion))) (fun (_, l5) => []) (fun (_, l5) => [PRes.row a_0 p0.length c_0 144 3 (List.map Tapportion_portion.enc l5)]) (fun (_, l5) => q7 = l5) ?_ ?_
 ·refine pwc_block ?_
  refine pwc_loopF (Y := Unit) (S := (List Tapportion_portion) × Int) _ hq7 (fun _ (l2, v3) => [(0, .v (.slice a_0 p0.length c_0)), (1, .v (.int .i64 p1)), (2, .v (.int .i64 p2)), (3, g3), (8, .v (.int .i64 v3))]) (fun _ (l2, v3) => [PRes.row a_0 p0.length c_0 144 3 (List.map Tapportion_portion.enc l2)]) () (zhc rfl (zhc rfl (zhc rfl (zhc rfl (zhc rfl zhn))))) (zsc zph zsn) ?_
  rintro _ ⟨l2, v3⟩ o τ hb6; (try dsimp only at hb6); dsimp only [pupds]
  refine yad (yad (yaa ?_))
  refine yab rfl rfl rfl (yac (p := .v (.int .i64 v3)) rfl (.p rfl)) ?_
  refine yab rfl rfl rfl (yac (p := .v (.int .i64 p2)) rfl (.p rfl)) ?_
  refine yab rfl rfl rfl (yap rfl (.p rfl) (.p rfl) rfl) ?_
  refine yaf (yah ?_)
  refine yam rfl (fun hc8 => ?_) (fun hc8 => ?_)
  ·replace hb6 := yax hc8 hb6
   refine yan (yah (yad (pwc_block (yad (yaa ?_)))))
   refine yab rfl rfl rfl (yac (p := .v (.int .i64 v3)) rfl (.p rfl)) ?_
   refine yab rfl rfl rfl (yae (p := .v (.int .i64 v3)) rfl (.p rfl)) ?_
   refine yaf (yah ?_)
   refine yai hb6 ?_; clear hb6; intro q15 hq15 hb6
   refine pwc_cutK (Y := (Unit) × ((List Tapportion_portion))) (fun (_, l13) => [(0, .v (.slice a_0 p0.length c_0)), (1, .v (.int .i64 p1)), (2, .v (.int .i64 p2)), (3, g3), (8, .v (.int .i64 v3))]) (fun (_, l13) => [PRes.row a_0 p0.length c_0 144 3 (List.map Tapportion_portion.enc l13)]) (fun (_, l13) => q15 = l13) ?_ ?_
   ·refine pwc_block ?_
    refine pwc_loopF (Y := Unit) (S := (List Tapportion_portion) × Int) _ hq15 (fun _ (l10, v11) => [(0, .v (.slice a_0 p0.length c_0)), (1, .v (.int .i64 p1)), (2, .v (.int .i64 p2)), (3, g3), (8, .v (.int .i64 v3)), (9, .v (.int .i64 v11))]) (fun _ (l10, v11) => [PRes.row a_0 p0.length c_0 144 3 (List.map Tapportion_portion.enc l10)]) () (zhc rfl (zhc rfl (zhc rfl (zhc rfl (zhc rfl (zhc rfl zhn)))))) (zsc zph zsn) ?_
    rintro _ ⟨l10, v11⟩ o τ hb14; (try dsimp only at hb14); dsimp only [pupds]
    refine yad (yad ?_)
    refine pwc_draw (ρd := []) [(0, 0), (1, 0), (2, 0), (3, 0), (4, 0), (5, 0), (6, 0), (7, 0), (8, 0), (9, 0), (10, 0), (11, 0), (12, 0), (13, 0), (14, 1), (15, 0), (16, 0)] _ (List.Perm.refl _) (by kernel_rfl) rfl ?_
    refine pwd_q rfl rfl rfl (yac (p := .v (.int .i64 v11)) rfl (.p rfl)) ?_
    refine pwd_q rfl rfl rfl (yac (p := .v (.int .i64 p1)) rfl (.p rfl)) ?_
    refine pwd_q rfl rfl rfl (yap rfl (.p rfl) (.p rfl) rfl) ?_
    refine pwd_q rfl rfl rfl (yac (p := .v (.bool (decide (p1 < v11)))) rfl (.p rfl)) ?_
    refine pwd_qg (yar rfl rfl rfl) rfl rfl (yac (p := g3) rfl (.p rfl)) ?_
    refine pwd_qg (yar rfl rfl rfl) rfl rfl (yac (p := .v (.slice a_0 p0.length c_0)) rfl (.p rfl)) ?_
    refine pwd_qg (yar rfl rfl rfl) rfl rfl (yac (p := .v (.int .i64 v11)) rfl (.p rfl)) ?_
    refine yai hb14 ?_; clear hb14; intro m16 hm16 hb14
    refine pwd_qg (yar rfl rfl rfl) rfl rfl (pq_indexO (enc := Tapportion_portion.enc) (xs := l10) rfl rfl rfl (.g rfl) zm0 (.g rfl) (gd_t hm16)) ?_
    refine pwd_qg (yar rfl rfl rfl) rfl rfl (pq_load_o (p := .agg [.v (.int .i64 m16.index_), .v (.int .u64 m16.share), .v (.int .u64 m16.rest)]) (enc := Tapportion_portion.enc) (xs := l10) (a := a_0) v11 0 m16 rfl (.g rfl) rfl zm0 (gd_t hm16) rfl) ?_
    refine pwd_qg (yar rfl rfl rfl) rfl rfl (yac (p := .v (.slice a_0 p0.length c_0)) rfl (.p rfl)) ?_
    refine pwd_qg (yar rfl rfl rfl) rfl rfl (yac (p := .v (.int .i64 v11)) rfl (.p rfl)) ?_
    refine pwd_qg (yar rfl rfl rfl) rfl rfl (yau rfl (.g rfl) (.p rfl) rfl) ?_
    refine yai hb14 ?_; clear hb14; intro m17 hm17 hb14
    refine pwd_qg (yar rfl rfl rfl) rfl rfl (pq_indexO (enc := Tapportion_portion.enc) (xs := l10) rfl rfl rfl (.g rfl) zm0 (.g rfl) (gd_t hm17)) ?_
    refine pwd_qg (yar rfl rfl rfl) rfl rfl (pq_load_o (p := .agg [.v (.int .i64 m17.index_), .v (.int .u64 m17.share), .v (.int .u64 m17.rest)]) (enc := Tapportion_portion.enc) (xs := l10) (a := a_0) (IntKind.i64.wrap (v11 - 1)) 0 m17 rfl (.g rfl) rfl zm0 (gd_t hm17) rfl) ?_
    refine yai hb14 ?_; clear hb14; intro x18 hx18 hb14
    refine pwd_callvg (yar rfl rfl rfl) rfl rfl rfl (.g rfl) (pargs_cons (.g rfl) (pargs_cons (.g rfl) (pargs_nil))) (fun hc => hg3 (gd_t hx18 hc)) ?_
    refine pwd_qg (yar rfl rfl rfl) rfl rfl (yap rfl (.g rfl) (.p rfl) rfl) ?_
    refine pwd_q rfl rfl rfl (pq_and rfl (.p rfl) (.p rfl) (.g rfl)) ?_
    refine pwd_nil (yah ?_)
    refine yam rfl (fun hc19 => ?_) (fun hc19 => ?_)
    ·replace hb14 := yax hc19 hb14
     refine yan (yah (yad (pwc_block ?_)))
     refine pwc_rowfact (enc := Tapportion_portion.enc) (xs := l10) (a := a_0) zm0 (fun hl20 ha21 => ?_)
     refine yai hb14 ?_; clear hb14; intro m22 hm22 hb14
     refine yai hb14 ?_; clear hb14; intro m23 hm23 hb14
     refine yai hb14 ?_; clear hb14; intro m24 hm24 hb14
     refine yai hb14 ?_; clear hb14; intro m26 hm26 hb14
     refine pwc_cutK (Y := Unit) (fun _ => [(0, .v (.slice a_0 p0.length c_0)), (1, .v (.int .i64 p1)), (2, .v (.int .i64 p2)), (3, g3), (8, .v (.int .i64 v3)), (9, .v (.int .i64 v11))]) (fun _ => [PRes.row a_0 p0.length c_0 144 3 (List.map Tapportion_portion.enc ((l10.set v11.toNat m22).set (IntKind.i64.wrap (v11 - 1)).toNat m23))]) (fun _ => True) ?_ ?_
     ·refine pws_start (ρd := [PRes.row a_0 _ _ _ _ _]) _ (List.Perm.refl _) ?_
      refine pws_q 0 (by kernel_rfl) rfl rfl rfl rfl (yac (p := .v (.slice a_0 p0.length c_0)) rfl (.p rfl)) ?_
      refine pws_q 1 (by kernel_rfl) rfl rfl rfl rfl (yac (p := .v (.int .i64 v11)) rfl (.p rfl)) ?_
      refine pws_q 2 (by kernel_rfl) rfl rfl rfl rfl (yac (p := .v (.slice a_0 p0.length c_0)) rfl (.p rfl)) ?_
      refine pws_q 3 (by kernel_rfl) rfl rfl rfl rfl (yac (p := .v (.int .i64 v11)) rfl (.p rfl)) ?_
      refine pws_q 4 (by kernel_rfl) rfl rfl rfl rfl (yau rfl (.p rfl) (.p rfl) rfl) ?_
      refine pws_q 5 (by kernel_rfl) rfl rfl rfl rfl (yac (p := .v (.slice a_0 p0.length c_0)) rfl (.p rfl)) ?_
      refine pws_q 6 (by kernel_rfl) rfl rfl rfl rfl (yac (p := .v (.int .i64 v11)) rfl (.p rfl)) ?_
      refine pws_q 7 (by kernel_rfl) rfl rfl rfl rfl (yau rfl (.p rfl) (.p rfl) rfl) ?_
      refine pws_q 8 (by kernel_rfl) rfl rfl rfl rfl (pq_indexF (xs := l10) (by (try simp only [List.length_set]); exact hl20) ha21 rfl rfl rfl (.p rfl) (.p rfl) (fun _ => hm22)) ?_
      refine pws_q 10 (by kernel_rfl) rfl rfl rfl rfl (yac (p := .v (.slice a_0 p0.length c_0)) rfl (.p rfl)) ?_
      refine pws_q 11 (by kernel_rfl) rfl rfl rfl rfl (yac (p := .v (.int .i64 v11)) rfl (.p rfl)) ?_
      refine pws_q 12 (by kernel_rfl) rfl rfl rfl rfl (pq_indexF (xs := l10) (by (try simp only [List.length_set]); exact hl20) ha21 rfl rfl rfl (.p rfl) (.p rfl) (fun _ => hm23)) ?_
      refine pws_two 9 13 (by kernel_rfl) ?_ ?_
      ·skip
       refine pstep_l rfl rfl rfl rfl (pl_q (pq_load_o (p := .agg [.v (.int .i64 m22.index_), .v (.int .u64 m22.share), .v (.int .u64 m22.rest)]) (enc := Tapportion_portion.enc) (xs := l10) (a := a_0) (IntKind.i64.wrap (v11 - 1)) 0 m22 rfl (.p rfl) rfl zm0 (fun _ => hm22) rfl) ?_)
       refine pws_one 13 (by kernel_rfl) ?_
       refine pstep_l rfl rfl rfl rfl (pl_q (pq_load_o (p := .agg [.v (.int .i64 m23.index_), .v (.int .u64 m23.share), .v (.int .u64 m23.rest)]) (enc := Tapportion_portion.enc) (xs := l10) (a := a_0) v11 0 m23 rfl (.p rfl) rfl zm0 (fun _ => hm23) rfl) ?_)
       refine pws_q 14 (by kernel_rfl) rfl rfl rfl rfl (pq_indexF (xs := l10) (by (try simp only [List.length_set]); exact hl20) ha21 rfl rfl rfl (.p rfl) (.p rfl) (fun _ => hm24)) ?_
       refine pws_one 15 (by kernel_rfl) ?_
       refine pstep_l0 rfl rfl rfl (pl_store_o (enc := Tapportion_portion.enc) (xs := l10) (a := a_0) v11 0 m24 m22 rfl rfl rfl rfl (fun _ => rfl) rfl rfl hm24 (zlc (zlc (zlc zln))) zuh ?_)
       refine pws_q 16 (by kernel_rfl) rfl rfl rfl rfl (pq_indexF (xs := (l10.set v11.toNat m22)) (by (try simp only [List.length_set]); exact hl20) ha21 rfl rfl rfl (.p rfl) (.p rfl) (fun _ => hm26)) ?_
       refine pws_one 17 (by kernel_rfl) ?_
       refine pstep_l0 rfl rfl rfl (pl_store_o (enc := Tapportion_portion.enc) (xs := (l10.set v11.toNat m22)) (a := a_0) (IntKind.i64.wrap (v11 - 1)) 0 m26 m23 rfl rfl rfl rfl (fun _ => rfl) rfl rfl hm26 (zlc (zlc (zlc zln))) zuh ?_)
       refine pws_done (by kernel_rfl) ?_
       exact pk_cut () (zhc rfl (zhc rfl (zhc rfl (zhc rfl (zhc rfl (zhc rfl zhn)))))) (zsc zph zsn) trivial
      ·skip
       refine pstep_l rfl rfl rfl rfl (pl_q (pq_load_o (p := .agg [.v (.int .i64 m23.index_), .v (.int .u64 m23.share), .v (.int .u64 m23.rest)]) (enc := Tapportion_portion.enc) (xs := l10) (a := a_0) v11 0 m23 rfl (.p rfl) rfl zm0 (fun _ => hm23) rfl) ?_)
       refine pws_one 9 (by kernel_rfl) ?_
       refine pstep_l rfl rfl rfl rfl (pl_q (pq_load_o (p := .agg [.v (.int .i64 m22.index_), .v (.int .u64 m22.share), .v (.int .u64 m22.rest)]) (enc := Tapportion_portion.enc) (xs := l10) (a := a_0) (IntKind.i64.wrap (v11 - 1)) 0 m22 rfl (.p rfl) rfl zm0 (fun _ => hm22) rfl) ?_)
       refine pws_q 14 (by kernel_rfl) rfl rfl rfl rfl (pq_indexF (xs := l10) (by (try simp only [List.length_set]); exact hl20) ha21 rfl rfl rfl (.p rfl) (.p rfl) (fun _ => hm24)) ?_
       refine pws_one 15 (by kernel_rfl) ?_
       refine pstep_l0 rfl rfl rfl (pl_store_o (enc := Tapportion_portion.enc) (xs := l10) (a := a_0) v11 0 m24 m22 rfl rfl rfl rfl (fun _ => rfl) rfl rfl hm24 (zlc (zlc (zlc zln))) zuh ?_)
       refine pws_q 16 (by kernel_rfl) rfl rfl rfl rfl (pq_indexF (xs := (l10.set v11.toNat m22)) (by (try simp only [List.length_set]); exact hl20) ha21 rfl rfl rfl (.p rfl) (.p rfl) (fun _ => hm26)) ?_
       refine pws_one 17 (by kernel_rfl) ?_
       refine pstep_l0 rfl rfl rfl (pl_store_o (enc := Tapportion_portion.enc) (xs := (l10.set v11.toNat m22)) (a := a_0) (IntKind.i64.wrap (v11 - 1)) 0 m26 m23 rfl rfl rfl rfl (fun _ => rfl) rfl rfl hm26 (zlc (zlc (zlc zln))) zuh ?_)
       refine pws_done (by kernel_rfl) ?_
       exact pk_cut () (zhc rfl (zhc rfl (zhc rfl (zhc rfl (zhc rfl (zhc rfl zhn)))))) (zsc zph zsn) trivial
     ·rintro _ τ ρ1 hsub28 _; (try dsimp only at hsub28); dsimp only [pupds]
      refine pk_block_n (yah ?_)
      refine pwc_sub hsub28 ?_
      refine yaa ?_
      refine yab rfl rfl rfl (yac (p := .v (.int .i64 v11)) rfl (.p rfl)) ?_
      refine yab rfl rfl rfl (yau rfl (.p rfl) (.p rfl) rfl) ?_
      refine yab rfl rfl rfl (yae (p := .v (.int .i64 (IntKind.i64.wrap (v11 - 1)))) rfl (.p rfl)) ?_
      refine yaf ?_
      exact pk_loop hb14 () (zhc rfl (zhc rfl (zhc rfl (zhc rfl (zhc rfl (zhc rfl zhn)))))) (zsc zph zsn)
    ·replace hb14 := yay hc19 hb14
     refine pwc_exit (pk_seq_exit ?_)
     refine pk_loop_exit hb14 (fun ht => ?_)
     refine pk_block_eq rfl ?_
     exact pk_cut ((), l10) (zhc rfl (zhc rfl (zhc rfl (zhc rfl (zhc rfl zhn))))) (zsc zph zsn) ht.symm
   ·rintro ⟨_, l13⟩ τ ρ1 hsub29 hz; (try dsimp only at hz hsub29); subst q15; (try dsimp only at hb6); dsimp only [pupds]
    refine pk_block_n (yah ?_)
    refine pwc_sub hsub29 ?_
    refine yaa ?_
    refine yab rfl rfl rfl (yac (p := .v (.int .i64 v3)) rfl (.p rfl)) ?_
    refine yab rfl rfl rfl (yau rfl (.p rfl) (.p rfl) rfl) ?_
    refine yab rfl rfl rfl (yae (p := .v (.int .i64 (IntKind.i64.wrap (v3 + 1)))) rfl (.p rfl)) ?_
    refine yaf ?_
    exact pk_loop hb6 () (zhc rfl (zhc rfl (zhc rfl (zhc rfl (zhc rfl zhn))))) (zsc zph zsn)
  ·replace hb6 := yay hc8 hb6
   refine pwc_exit (pk_seq_exit ?_)
   refine pk_loop_exit hb6 (fun ht => ?_)
   refine pk_block_eq rfl ?_
   exact pk_cut ((), l2) zhn (zsc zph zsn) ht.symm
 ·rintro ⟨_, l5⟩ τ ρ1 hsub30 hz; (try dsimp only at hz hsub30); subst q7; (try dsimp only at h); dsimp only [pupds]
  obtain rfl := Option.some.inj h
  exact pret_ofN (rfl : PRV [] _ _ (.tup [])) (PSub.trans (zsc zph zsn) hsub30) ⟨rfl, rfl⟩
def slices_Clone_string_string (p0 : (List ByteArray)) : Option (List ByteArray) := app 16 ([] : List ByteArray) p0
set_option maxHeartbeats 4000000 in
theorem slices_Clone_string_string_ok {p0 : (List ByteArray)} {r : (List ByteArray)} (h : slices_Clone_string_string p0 = some r) : PCall 58 [.slc (List.map eS p0)] [] (fun pv ρ' => ∃ a c, pv = .v (.slice a r.length c) ∧ ρ' = [PRes.row a r.length c 9 1 (List.map eS r)]) := by
 unfold slices_Clone_string_string at h
 refine penter Tryz.func58 fk58 rfl Tryz.ntmps58 Tryz.results58 rfl ?_
 (repeat refine yad ?_)
 refine yaa ?_
 refine yab rfl rfl rfl (yae (p := .v (.slice none 0 0)) rfl (.p rfl)) ?_
 refine yaf (yah ?_)
 (repeat refine yad ?_)
 refine yaa ?_
 refine yab rfl rfl rfl (yac (p := .slc (List.map eS p0)) rfl (.p rfl)) ?_
 refine pwl_eqnil rfl rfl rfl rfl rfl rfl (fun b hb => ?_)
 refine yaf (yah ?_)
 refine yam rfl (fun hc => ?_) (fun hc => ?_)
 ·have e0 : p0 = [] := List.map_eq_nil_iff.1 (hb hc)
  subst e0; obtain ⟨rfl, _⟩ := app_some h
  (repeat refine yad ?_)
  refine yaa ?_
  refine yab rfl rfl rfl (yae (p := .v (.slice none 0 0)) rfl (.p rfl)) ?_
  refine yaf (yah ?_)
  refine pwc_nilrow 9 1 ?_
  refine yas (yaq ?_)
  exact yat (prv_1 (yav rfl)) (zsc zph zsn) ⟨_, _, rfl, rfl⟩
 ·refine yan ?_
  refine yah ?_
  (repeat refine yad ?_)
  refine yaa ?_
  refine pwl_l rfl rfl rfl (pl_lit rfl rfl rfl rfl rfl zin rfl rfl rfl rfl (fun b1 => ?_))
  refine yab rfl rfl rfl (yac (p := .slc (List.map eS p0)) rfl (.p rfl)) ?_
  refine pwl_l rfl rfl rfl (pl_app_s (enc := eS) (xs := ([] : List ByteArray)) rfl rfl rfl rfl rfl (fun _ => rfl) rfl rfl rfl (by exact zph) h (fun a c => ?_))
  refine yab rfl rfl rfl (yae (p := .v (.slice a r.length c)) rfl (.p rfl)) ?_
  refine yaf (yah (yas ?_))
  exact yat (prv_1 (yav rfl)) (zsc zph zsn) ⟨_, _, rfl, rfl⟩
def slices_Clone_int_int (p0 : (List Int)) : Option (List Int) := app 8 ([] : List Int) p0
set_option maxHeartbeats 4000000 in
theorem slices_Clone_int_int_ok {p0 : (List Int)} {r : (List Int)} (h : slices_Clone_int_int p0 = some r) : PCall 61 [.slc (List.map eI p0)] [] (fun pv ρ' => ∃ a c, pv = .v (.slice a r.length c) ∧ ρ' = [PRes.row a r.length c 3 1 (List.map eI r)]) := by
 unfold slices_Clone_int_int at h
 refine penter Tryz.func61 fk61 rfl Tryz.ntmps61 Tryz.results61 rfl ?_
 (repeat refine yad ?_)
 refine yaa ?_
 refine yab rfl rfl rfl (yae (p := .v (.slice none 0 0)) rfl (.p rfl)) ?_
 refine yaf (yah ?_)
 (repeat refine yad ?_)
 refine yaa ?_
 refine yab rfl rfl rfl (yac (p := .slc (List.map eI p0)) rfl (.p rfl)) ?_
 refine pwl_eqnil rfl rfl rfl rfl rfl rfl (fun b hb => ?_)
 refine yaf (yah ?_)
 refine yam rfl (fun hc => ?_) (fun hc => ?_)
 ·have e0 : p0 = [] := List.map_eq_nil_iff.1 (hb hc)
  subst e0; obtain ⟨rfl, _⟩ := app_some h
  (repeat refine yad ?_)
  refine yaa ?_
  refine yab rfl rfl rfl (yae (p := .v (.slice none 0 0)) rfl (.p rfl)) ?_
  refine yaf (yah ?_)
  refine pwc_nilrow 3 1 ?_
  refine yas (yaq ?_)
  exact yat (prv_1 (yav rfl)) (zsc zph zsn) ⟨_, _, rfl, rfl⟩
 ·refine yan ?_
  refine yah ?_
  (repeat refine yad ?_)
  refine yaa ?_
  refine pwl_l rfl rfl rfl (pl_lit rfl rfl rfl rfl rfl zin rfl rfl rfl rfl (fun b1 => ?_))
  refine yab rfl rfl rfl (yac (p := .slc (List.map eI p0)) rfl (.p rfl)) ?_
  refine pwl_l rfl rfl rfl (pl_app_s (enc := eI) (xs := ([] : List Int)) rfl rfl rfl rfl rfl (fun _ => rfl) rfl rfl rfl (by exact zph) h (fun a c => ?_))
  refine yab rfl rfl rfl (yae (p := .v (.slice a r.length c)) rfl (.p rfl)) ?_
  refine yaf (yah (yas ?_))
  exact yat (prv_1 (yav rfl)) (zsc zph zsn) ⟨_, _, rfl, rfl⟩
end SX
end Go.Proofs.YtfcecieppoljlaaGreatDoor
set_option maxRecDepth 100000
namespace Go.Proofs.YtfcecieppoljlaaGreatDoor
namespace SX
open Go
abbrev bl (s : ByteArray) : List UInt8 := s.data.toList
theorem bl_hi (s : ByteArray) (k : Nat) : bl (s.extract 0 k) = (bl s).take k := by simp [bl]
theorem bl_lo (s : ByteArray) (k : Nat) : bl (s.extract k s.size) = (bl s).drop k := by
  simp only [bl, ByteArray.data_extract, Array.toList_extract, List.extract_eq_take_drop]
  rw [List.take_of_length_le]; simp
theorem bl_size (s : ByteArray) : s.size = (bl s).length := by simp [bl]
theorem bl_inj {s u : ByteArray} (h : bl s = bl u) : s = u := by
  obtain ⟨⟨x⟩⟩ := s; obtain ⟨⟨y⟩⟩ := u; simp [bl] at h; subst h; rfl
def isDig (n : Nat) : Bool := decide (48 ≤ n ∧ n ≤ 57)
def setCells (p : Nat → Bool) : List Value := (List.range 256).map fun i => .bool (p i)
theorem setCells_len (p : Nat → Bool) : (setCells p).length = 256 := by simp [setCells]
theorem setCells_get (p : Nat → Bool) {j : Nat} (h : j < 256) : (setCells p)[j]? = some (.bool (p j)) := by simp [setCells, h]
theorem setCells_set (p q : Nat → Bool) {j : Nat} (h : ∀ i, q i = (decide (i = j) || p i)) : (setCells p).set j (.bool true) = setCells q := by
  apply List.ext_getElem?
  intro i
  rw [List.getElem?_set]
  simp only [setCells_len]
  rcases Nat.lt_or_ge i 256 with hi | hi
  · rw [setCells_get q hi, setCells_get p hi, h i]
    by_cases e : j = i
    · subst e; simp [hi]
    · rw [if_neg e]; simp [show ¬ i = j from fun h => e h.symm]
  · rw [List.getElem?_eq_none (by rw [setCells_len]; exact hi), List.getElem?_eq_none (by rw [setCells_len]; exact hi)]
    split
    · rw [if_neg (by omega)]
    · rfl
section
variable {o : Oper} {σ : Env} {ρ : List Res} {κ : Kr} {c : Bool} {x y : Operand} {K : Value → List Res → Kr → Prop}
theorem Sh.at1 {b k : Nat} {cs : List Value} {v : Value} (h : Sh κ b 0 cs) (hv : cs[k]? = some v) : Sh κ b (0 + k * 1) [v] := ⟨h.1, fun j u hu => by
  cases j with
  | zero => simp at hu; subst hu; have := h.2 k v hv; simpa using this
  | succ j => simp at hu⟩
theorem oq_load_all {t b T sz by' : Nat} {cs : List Value} {z : Value} {d : TypeDesc} (ho : o.op = .load t x) (hx : Ev σ c x (.pointer (some ⟨b, 0, none⟩))) (hm : Res.b b T cs ∈ ρ) (hd : und t = some d) (ha : isAggD d = true) (hi : inf t = some (z, sz, by')) (hl : cs.length = sz) : OpQ c o σ ρ κ (.agg cs.toArray) := by
  refine oq_load_b ho hx hm ?_
  unfold readAs
  simp only [hd, hi, ha, cond_true, List.drop_zero]
  rw [Nat.ble_eq_true_of_le (by omega)]
  simp [← hl]
end
attribute [local irreducible] WL WC WD OpL OpQ OpG Ev GuardIs seqK blockK retK Call CallP midK loopK Holds upds Sub Pick WS Step Lit Upd SetAt SpliceAt FillR Sh LateRun
theorem contains_ok (κ : Kr) (b : Nat) (p : Nat → Bool) (m : Int) (hs : Sh κ b 0 (setCells p)) (h0 : 0 ≤ m) (h1 : m ≤ 255) : CallP 111 [.pointer (some ⟨b, 0, none⟩), .int .u8 m] κ fun v _ => v = .bool (p m.toNat) := by
  (unfold CallP; apply call_of Tryz.func111 fk111 rfl Tryz.ntmps111 Tryz.results111 rfl)
  repeat (first | (first | (apply wl_q rfl rfl rfl; (focus (first | exact oq_move (v := (.int _ _)) rfl (.p rfl) | exact oq_move (v := (.pointer _)) rfl (.p rfl) | exact oq_assign (v := (.bool _)) rfl (.p rfl) | exact oq_nilCheck rfl (.p rfl)))) | apply wl_nil) | (first | apply wc_seq | apply wc_region | apply k_seq))
  apply wl_q rfl rfl rfl (oq_indexP (j := m.toNat) rfl rfl rfl (.p rfl) (.p rfl) (fun _ => by omega) (fun _ => by omega))
  apply wl_q rfl rfl rfl (oq_load_s rfl (.p rfl) (fun _ => (hs.mono (by (repeat (exact Kle.refl _)))).at1 (setCells_get p (by omega))) rfl)
  repeat (first | (first | (apply wl_q rfl rfl rfl; (focus (exact oq_assign (v := (.bool _)) rfl (.p rfl)))) | apply wl_nil) | (first | apply k_seq | apply wc_ret))
  exact ret_of (rv_t (v := .bool _) rfl) .none ⟨rfl, rfl⟩
def digits10 : ByteArray := ⟨#[48, 49, 50, 51, 52, 53, 54, 55, 56, 57]⟩
theorem digits10_get : ∀ {k : Nat}, k < 10 → ((digits10.data.toList.getD k 0).toNat : Int) = 48 + (k : Int) := by decide
theorem ascii_ok (κ : Kr) : CallP 79 [.string digits10] κ fun v _ => v = .tuple #[.agg (setCells isDig).toArray, .bool true] := by
  (unfold CallP; apply call_of Tryz.func79 fk79 rfl Tryz.ntmps79 Tryz.results79 rfl)
  repeat (first | (first | (apply wl_q rfl rfl rfl; (focus (first | exact oq_assign (v := (.int _ _)) rfl (.p rfl) | exact oq_assign (v := (.bool _)) rfl (.p rfl)))) | (apply wl_l rfl rfl rfl; apply ol_allocA rfl rfl; intro _ _ _) | apply wl_nil) | (first | apply wc_seq | apply wc_region | apply wc_block | apply k_seq))
  rename_i b2 κ1 _
  have e0 : List.replicate 256 (Value.bool false) = setCells (fun i => decide (48 ≤ i ∧ i < 48 + 0)) := by
    apply List.ext_getElem?
    intro i
    rcases Nat.lt_or_ge i 256 with hi | hi
    · rw [setCells_get _ hi, List.getElem?_replicate, if_pos hi]; congr 2; symm; rw [decide_eq_false_iff_not]; omega
    · rw [List.getElem?_eq_none (by simpa using hi), List.getElem?_eq_none (by rw [setCells_len]; exact hi)]
  rw [e0]
  refine wc_loopL (X := Nat) (fun k => [(0, .string digits10), (2, .pointer (some ⟨b2, 0, none⟩)), (4, .int .i64 (k : Int))]) (fun k => [Res.b b2 129 (setCells fun i => decide (48 ≤ i ∧ i < 48 + k))]) (fun k _ => k ≤ 10) (fun k => 10 - k) 0 (by (repeat (first | exact Holds.nil | apply Holds.cons rfl))) (by (repeat (first | exact Sub.nil | (apply Sub.cons; (focus (repeat (exact Pick.h))))))) (by omega) ?_
  intro k τ κ2 _ hk
  simp only [upds]
  repeat (first | (first | (apply wl_q rfl rfl rfl; (focus (first | exact oq_move (v := (.int _ _)) rfl (.p rfl) | exact oq_move (v := (.string _)) rfl (.p rfl) | exact oq_cmp rfl (.p rfl) (.p rfl) rfl | exact oq_lenS rfl rfl (.p rfl)))) | apply wl_nil) | (first | apply wc_seq | apply wc_region | apply k_seq))
  apply wc_dec rfl <;> intro hc
  · have hk10 : k < 10 := by
      have e : (digits10.size : Int) = 10 := rfl
      rw [e] at hc; omega
    repeat (first | (apply wl_q rfl rfl rfl; (focus (first | exact oq_move (v := (.int _ _)) rfl (.p rfl) | exact oq_move (v := (.string _)) rfl (.p rfl)))) | (first | apply wc_seq | apply wc_region | apply wc_block | apply k_seq | apply wc_skip))
    apply wl_q rfl rfl rfl (oq_indexS (s := digits10) (j := k) rfl rfl (.p rfl) (.p rfl) (fun _ => rfl) (fun _ => hk10))
    rw [digits10_get hk10]
    repeat (first | (first | (apply wl_q rfl rfl rfl; (focus (first | exact oq_move (v := (.int _ _)) rfl (.p rfl) | exact oq_assign (v := (.int _ _)) rfl (.p rfl) | exact oq_cmp rfl (.p rfl) (.p rfl) rfl))) | apply wl_nil) | (first | apply wc_seq | apply wc_region | apply k_seq))
    apply wc_condF (by have : ¬ (128 : Int) ≤ 48 + (k : Int) := by omega
                       simp [ev, upd, this])
    repeat (first | (apply wl_q rfl rfl rfl; (focus (exact oq_move (v := (.int _ _)) rfl (.p rfl)))) | (first | apply wc_region | apply k_seq | apply wc_skip))
    apply wl_q rfl rfl rfl (oq_indexP (j := 48 + k) rfl rfl rfl (.p rfl) (.p rfl) (fun _ => by omega) (fun _ => by omega))
    apply wl_l0 rfl rfl
    apply ol_storeI (v := .bool true) rfl rfl rfl rfl rfl rfl (by (repeat (exact Upd.h))) (by rw [setCells_len]; omega)
    intro κ3 _
    have e1 : (setCells fun i => decide (48 ≤ i ∧ i < 48 + k)).set (0 + (48 + k) * 1) (.bool true) = setCells fun i => decide (48 ≤ i ∧ i < 48 + (k + 1)) :=
      setCells_set _ _ fun i => by rw [Bool.eq_iff_iff]; simp; omega
    rw [e1]
    repeat (first | (first | (apply wl_q rfl rfl rfl; (focus (first | exact oq_move (v := (.int _ _)) rfl (.p rfl) | exact oq_assign (v := (.int _ _)) rfl (.p rfl) | exact oq_arith64 rfl (.p rfl) (.p rfl) rfl (fun _ => by omega)))) | apply wl_nil) | (first | apply wc_region | apply k_seq | apply k_block_n))
    exact k_loop (k + 1) (by (repeat (first | exact Holds.nil | apply Holds.cons rfl))) (by (repeat (first | exact Sub.nil | (apply Sub.cons; (focus (repeat (exact Pick.h))))))) (by omega) (by omega)
  · have hk10 : k = 10 := by
      have e : (digits10.size : Int) = 10 := rfl
      rw [e] at hc; omega
    subst hk10
    have e2 : (fun i => decide (48 ≤ i ∧ i < 48 + 10)) = isDig := by funext i; simp only [isDig]; rw [Bool.eq_iff_iff]; simp; omega
    rw [e2]
    apply wc_exit; apply k_seq_exit; apply k_loop_exit; apply k_block_eq rfl; apply k_seq; apply wc_seq; apply wc_region
    apply wl_q rfl rfl rfl (oq_load_all rfl (.p rfl) (by (repeat (exact List.Mem.head _))) rfl rfl rfl (setCells_len _))
    apply wl_l0 rfl rfl
    apply ol_storeA rfl rfl rfl rfl (setCells_len _) (by simp [setCells, Value.oneCell']) (by (repeat (exact Upd.h))) rfl
    intro κ3 _
    repeat (first | (first | (apply wl_q rfl rfl rfl; (focus (exact oq_assign (v := (.bool _)) rfl (.p rfl)))) | apply wl_nil) | (first | apply k_seq | apply wc_ret))
    refine ret_of (rv_2 (RV1.cell rfl (by (repeat (exact List.Mem.head _))) ?_) (rv1_t (v := .bool _) rfl)) .none ⟨rfl, rfl⟩
    unfold readAs
    simp only [show und 129 = some (.array 256 4) from rfl, show inf 129 = some (.agg (List.replicate 256 (.bool false)).toArray, 256, 256) from rfl, isAggD, cond_true, List.drop_zero, setCells_len]
    rw [List.take_of_length_le (by rw [setCells_len]; omega)]; rfl
theorem getD_lt {l : List UInt8} {j : Nat} (h : j < l.length) : l.getD j 0 = l[j] := by simp [List.getD_eq_getElem?_getD, h]
theorem trimRight_ok (κ : Kr) (b : Nat) (s : ByteArray) (hs : Sh κ b 0 (setCells isDig)) (hz : s.size ≤ 1000000000) : CallP 81 [.string s, .pointer (some ⟨b, 0, none⟩)] κ fun v _ => ∃ u k, v = .string u ∧ bl u = (bl s).take k ∧ k ≤ (bl s).length ∧ (∀ c ∈ (bl s).drop k, isDig c.toNat = true) ∧ (∀ c, (bl u).getLast? = some c → isDig c.toNat = false) := by
  (unfold CallP; apply call_of Tryz.func81 fk81 rfl Tryz.ntmps81 Tryz.results81 rfl)
  repeat (first | (first | (apply wl_q rfl rfl rfl; (focus (exact oq_assign (v := (.string _)) rfl (.p rfl)))) | apply wl_nil) | (first | apply wc_seq | apply wc_region | apply wc_block | apply k_seq))
  refine wc_loopL (X := ByteArray × Nat) (fun z => [(0, .string z.1), (1, .pointer (some ⟨b, 0, none⟩))]) (fun _ => []) (fun z _ => bl z.1 = (bl s).take z.2 ∧ z.2 ≤ (bl s).length ∧ ∀ c ∈ (bl s).drop z.2, isDig c.toNat = true) (fun z => z.2) (s, (bl s).length) (by (repeat (first | exact Holds.nil | apply Holds.cons rfl))) (by (repeat (exact Sub.nil))) ⟨(List.take_length).symm, Nat.le_refl _, by rw [List.drop_length]; simp⟩ ?_
  rw [bl_size] at hz
  rintro ⟨u, k⟩ τ κ2 _ ⟨h1, h2, h3⟩
  dsimp only at h1 h2 h3
  have hsz : u.size = k := by rw [bl_size, h1, List.length_take]; omega
  simp only [upds]
  repeat (first | (first | (apply wl_q rfl rfl rfl; (focus (first | exact oq_move (v := (.string _)) rfl (.p rfl) | exact oq_cmp rfl (.p rfl) (.p rfl) rfl | exact oq_lenS rfl rfl (.p rfl)))) | apply wl_nil) | (first | apply wc_seq | apply wc_region | apply k_seq))
  apply wc_dec rfl <;> intro hc
  · have hk0 : 0 < k := by omega
    repeat (first | (apply wl_q rfl rfl rfl; (focus (first | exact oq_move (v := (.pointer _)) rfl (.p rfl) | exact oq_move (v := (.string _)) rfl (.p rfl) | exact oq_arith64 rfl (.p rfl) (.p rfl) rfl (fun _ => by omega) | exact oq_lenS rfl rfl (.p rfl)))) | (first | apply wc_seq | apply wc_region | apply wc_block | apply k_seq | apply wc_skip))
    apply wl_q rfl rfl rfl (oq_indexS (j := k - 1) rfl rfl (.p rfl) (.p rfl) (fun _ => by omega) (fun _ => by omega))
    have hlast : (bl u).getLast? = some ((bl u).getD (k - 1) 0) := by
      rw [List.getLast?_eq_getElem?, ← bl_size, hsz, getD_lt (by rw [← bl_size]; omega), List.getElem?_eq_getElem]
    apply wl_l rfl rfl rfl; apply ol_callP rfl rfl (contains_ok _ b isDig ((u.data.toList.getD (k - 1) 0).toNat : Int) (hs.mono (by (repeat (assumption)))) (by omega) (by have := (u.data.toList.getD (k - 1) 0).toNat_lt; omega))
    rintro v κ3 _ rfl
    repeat (first | (first | (apply wl_q rfl rfl rfl; (focus (exact oq_not rfl (.p rfl)))) | apply wl_nil) | (apply k_seq))
    rw [Int.toNat_natCast]
    apply wc_cond rfl <;> intro hb
    · repeat (first | (first | (apply wl_q rfl rfl rfl; (focus (first | exact oq_move (v := (.string _)) rfl (.p rfl) | exact oq_assign (v := (.string _)) rfl (.p rfl)))) | apply wl_nil) | (first | apply wc_seq | apply wc_region | apply k_seq | apply wc_ret | apply wc_exit | apply k_seq_exit | apply k_block_eq rfl | apply k_block_ne rfl | apply k_loop_exit))
      refine ret_of (rv_t (v := .string _) rfl) .none ⟨rfl, u, k, rfl, h1, h2, h3, fun c hc => ?_⟩
      rw [hlast] at hc; injection hc with hc; subst hc; simpa using hb
    · repeat (first | (apply wl_q rfl rfl rfl; (focus (first | exact oq_move (v := (.string _)) rfl (.p rfl) | exact oq_arith64 rfl (.p rfl) (.p rfl) rfl (fun _ => by omega) | exact oq_lenS rfl rfl (.p rfl)))) | (first | apply wc_region | apply k_seq | apply wc_skip))
      apply wl_q rfl rfl rfl (oq_sliceSHi (h := k - 1) rfl rfl (.p rfl) (.p rfl) (fun _ => by omega) (fun _ => by omega))
      repeat (first | (first | (apply wl_q rfl rfl rfl; (focus (exact oq_assign (v := (.string _)) rfl (.p rfl)))) | apply wl_nil) | (apply k_block_n))
      refine k_loop (u.extract 0 (k - 1), k - 1) (by (repeat (first | exact Holds.nil | apply Holds.cons rfl))) (by (repeat (exact Sub.nil))) ⟨?_, by ((try dsimp only at *) <;> omega), ?_⟩ (by ((try dsimp only at *) <;> omega))
      · rw [bl_hi, h1, List.take_take]; congr 1; omega
      · intro c hc
        rw [List.drop_eq_getElem_cons (by omega)] at hc
        rcases List.mem_cons.1 hc with rfl | hc
        · have e : (bl u).getD (k - 1) 0 = (bl s)[k - 1]'(by omega) := by
            rw [getD_lt (by rw [← bl_size]; omega)]; simp [h1]
          rw [← e]; simpa using hb
        · rw [show k - 1 + 1 = k by omega] at hc; exact h3 c hc
  · repeat (first | (first | (apply wl_q rfl rfl rfl; (focus (first | exact oq_move (v := (.string _)) rfl (.p rfl) | exact oq_assign (v := (.string _)) rfl (.p rfl)))) | apply wl_nil) | (first | apply wc_seq | apply wc_region | apply k_seq | apply wc_ret | apply wc_exit | apply k_seq_exit | apply k_block_eq rfl | apply k_loop_exit))
    refine ret_of (rv_t (v := .string _) rfl) .none ⟨rfl, u, k, rfl, h1, h2, h3, fun c hc' => ?_⟩
    have : bl u = [] := List.eq_nil_of_length_eq_zero (by rw [← bl_size]; omega)
    rw [this] at hc'; cases hc'
end SX
end Go.Proofs.YtfcecieppoljlaaGreatDoor
set_option maxRecDepth 100000
namespace Go.Proofs.YtfcecieppoljlaaGreatDoor
namespace SX
open Go
attribute [local irreducible] WL WC WD OpL OpQ OpG Ev GuardIs seqK blockK retK Call CallP midK loopK Holds upds Sub Pick WS Step Lit Upd SetAt SpliceAt FillR Sh LateRun
theorem trimLeft_ok (κ : Kr) (b : Nat) (s : ByteArray) (hs : Sh κ b 0 (setCells isDig)) : CallP 80 [.string s, .pointer (some ⟨b, 0, none⟩)] κ fun v _ => ∃ u k, v = .string u ∧ bl u = (bl s).drop k ∧ k ≤ (bl s).length ∧ (∀ c ∈ (bl s).take k, isDig c.toNat = true) ∧ (∀ c, (bl u).head? = some c → isDig c.toNat = false) := by
  (unfold CallP; apply call_of Tryz.func80 fk80 rfl Tryz.ntmps80 Tryz.results80 rfl)
  repeat (first | (first | (apply wl_q rfl rfl rfl; (focus (exact oq_assign (v := (.string _)) rfl (.p rfl)))) | apply wl_nil) | (first | apply wc_seq | apply wc_region | apply wc_block | apply k_seq))
  refine wc_loopL (X := ByteArray × Nat) (fun z => [(0, .string z.1), (1, .pointer (some ⟨b, 0, none⟩))]) (fun _ => []) (fun z _ => bl z.1 = (bl s).drop z.2 ∧ z.2 ≤ (bl s).length ∧ ∀ c ∈ (bl s).take z.2, isDig c.toNat = true) (fun z => (bl s).length - z.2) (s, 0) (by (repeat (first | exact Holds.nil | apply Holds.cons rfl))) (by (repeat (exact Sub.nil))) ⟨rfl, Nat.zero_le _, by simp⟩ ?_
  rintro ⟨u, k⟩ τ κ2 _ ⟨h1, h2, h3⟩
  dsimp only at h1 h2 h3
  have hsz : u.size = (bl s).length - k := by rw [bl_size, h1, List.length_drop]
  simp only [upds]
  repeat (first | (first | (apply wl_q rfl rfl rfl; (focus (first | exact oq_move (v := (.string _)) rfl (.p rfl) | exact oq_cmp rfl (.p rfl) (.p rfl) rfl | exact oq_lenS rfl rfl (.p rfl)))) | apply wl_nil) | (first | apply wc_seq | apply wc_region | apply k_seq))
  apply wc_dec rfl <;> intro hc
  · have hk0 : k < (bl s).length := by omega
    have hu0 : 0 < (bl u).length := by rw [← bl_size]; omega
    repeat (first | (apply wl_q rfl rfl rfl; (focus (first | exact oq_move (v := (.pointer _)) rfl (.p rfl) | exact oq_move (v := (.string _)) rfl (.p rfl)))) | (first | apply wc_seq | apply wc_region | apply wc_block | apply k_seq | apply wc_skip))
    apply wl_q rfl rfl rfl (oq_indexS (j := 0) rfl rfl (.p rfl) (.p rfl) (fun _ => by omega) (fun _ => by omega))
    have hhead : (bl u).head? = some ((bl u).getD 0 0) := by
      rw [List.head?_eq_getElem?, getD_lt hu0, List.getElem?_eq_getElem hu0]
    apply wl_l rfl rfl rfl; apply ol_callP rfl rfl (contains_ok _ b isDig ((u.data.toList.getD 0 0).toNat : Int) (hs.mono (by (repeat (assumption)))) (by omega) (by have := (u.data.toList.getD 0 0).toNat_lt; omega))
    rintro v κ3 _ rfl
    repeat (first | (first | (apply wl_q rfl rfl rfl; (focus (exact oq_not rfl (.p rfl)))) | apply wl_nil) | (apply k_seq))
    rw [Int.toNat_natCast]
    apply wc_cond rfl <;> intro hb
    · repeat (first | (first | (apply wl_q rfl rfl rfl; (focus (first | exact oq_move (v := (.string _)) rfl (.p rfl) | exact oq_assign (v := (.string _)) rfl (.p rfl)))) | apply wl_nil) | (first | apply wc_seq | apply wc_region | apply k_seq | apply wc_ret | apply wc_exit | apply k_seq_exit | apply k_block_eq rfl | apply k_block_ne rfl | apply k_loop_exit))
      refine ret_of (rv_t (v := .string _) rfl) .none ⟨rfl, u, k, rfl, h1, h2, h3, fun c hc => ?_⟩
      rw [hhead] at hc; injection hc with hc; subst hc; simpa using hb
    · repeat (first | (apply wl_q rfl rfl rfl; (focus (exact oq_move (v := (.string _)) rfl (.p rfl)))) | (first | apply wc_region | apply k_seq | apply wc_skip))
      apply wl_q rfl rfl rfl (oq_sliceSLo (l := 1) rfl rfl (.p rfl) (.p rfl) (fun _ => by omega) (fun _ => by omega))
      repeat (first | (first | (apply wl_q rfl rfl rfl; (focus (exact oq_assign (v := (.string _)) rfl (.p rfl)))) | apply wl_nil) | (apply k_block_n))
      refine k_loop (u.extract 1 u.size, k + 1) (by (repeat (first | exact Holds.nil | apply Holds.cons rfl))) (by (repeat (exact Sub.nil))) ⟨?_, by ((try dsimp only at *) <;> omega), ?_⟩ (by ((try dsimp only at *) <;> omega))
      · rw [bl_lo, h1, List.drop_drop]
      · intro c hc
        rw [List.take_add_one] at hc
        rcases List.mem_append.1 hc with hc | hc
        · exact h3 c hc
        · have e : (bl u).getD 0 0 = (bl s)[k]'hk0 := by rw [getD_lt hu0]; simp [h1]
          rw [List.getElem?_eq_getElem hk0] at hc
          simp only [Option.toList_some, List.mem_cons, List.not_mem_nil, or_false] at hc
          subst hc; rw [← e]; simpa using hb
  · repeat (first | (first | (apply wl_q rfl rfl rfl; (focus (first | exact oq_move (v := (.string _)) rfl (.p rfl) | exact oq_assign (v := (.string _)) rfl (.p rfl)))) | apply wl_nil) | (first | apply wc_seq | apply wc_region | apply k_seq | apply wc_ret | apply wc_exit | apply k_seq_exit | apply k_block_eq rfl | apply k_loop_exit))
    refine ret_of (rv_t (v := .string _) rfl) .none ⟨rfl, u, k, rfl, h1, h2, h3, fun c hc' => ?_⟩
    have : bl u = [] := List.eq_nil_of_length_eq_zero (by rw [← bl_size]; omega)
    rw [this] at hc'; cases hc'
def allDig (s : ByteArray) : Bool := (bl s).all fun c => isDig c.toNat
theorem size_zero {s : ByteArray} : s = ⟨#[]⟩ ↔ bl s = [] := ⟨fun h => by rw [h], fun h => bl_inj (by rw [h])⟩
theorem trim_ok (κ : Kr) (s : ByteArray) (hz : s.size ≤ 1000000000) : CallP 51 [.string s, .string digits10] κ fun v _ => ∃ u, v = .string u ∧ (u = ⟨#[]⟩ ↔ allDig s = true) := by
  (unfold CallP; apply call_of Tryz.func51 fk51 rfl Tryz.ntmps51 Tryz.results51 rfl)
  repeat (first | (first | (apply wl_q rfl rfl rfl; (focus (first | exact oq_move (v := (.bool _)) rfl (.p rfl) | exact oq_move (v := (.string _)) rfl (.p rfl) | exact oq_assign (v := (.string _)) rfl (.p rfl) | exact oq_or rfl (.p rfl) (.p rfl) (.g rfl) | exact oq_str rfl (.p rfl) (.p rfl) rfl))) | (apply wl_qg; (focus (exact guard_f rfl rfl rfl)); rfl; rfl; (focus (first | (apply oq_move (v := (.string _)) rfl; (focus (exact Ev.p rfl))) | (apply oq_str rfl (by (focus (exact Ev.g rfl))) (by (focus (exact Ev.p rfl))); rfl)))) | apply wl_nil) | (first | apply wc_seq | apply wc_region | apply k_seq))
  apply wc_cond rfl <;> intro hb
  · repeat (first | (first | (apply wl_q rfl rfl rfl; (focus (first | exact oq_move (v := (.string _)) rfl (.p rfl) | exact oq_assign (v := (.string _)) rfl (.p rfl)))) | apply wl_nil) | (first | apply wc_seq | apply wc_region | apply k_seq | apply wc_ret | apply k_seq_ret))
    have : s = ⟨#[]⟩ := by simpa [digits10] using hb
    refine ret_of (rv_t (v := .string _) rfl) .none ⟨rfl, s, rfl, ?_⟩
    subst this; simp [allDig, bl]
  · have hne : ¬ bl s = [] := fun h => by rw [size_zero.2 h] at hb; simp at hb
    repeat (first | (first | (apply wl_q rfl rfl rfl; (focus (first | exact oq_move (v := (.bool _)) rfl (.p rfl) | exact oq_move (v := (.string _)) rfl (.p rfl) | exact oq_cmp rfl (.p rfl) (.p rfl) rfl | exact oq_lenS rfl rfl (.p rfl)))) | (apply wl_qg; (focus (exact guard_t rfl rfl rfl)); rfl; rfl; (focus (apply oq_move (v := (.string _)) rfl; (focus (exact Ev.p rfl)))))) | (first | apply wc_seq | apply wc_region | apply k_seq | apply wc_skip))
    apply wl_qg; (focus (exact guard_t rfl rfl rfl)); rfl; rfl; exact oq_indexS (s := digits10) (j := 0) rfl rfl (.g rfl) (.p rfl) (fun _ => rfl) (fun _ => by decide)
    repeat (first | (first | (apply wl_q rfl rfl rfl; (focus (exact oq_and rfl (.p rfl) (.p rfl) (.g rfl)))) | (apply wl_qg; (focus (exact guard_t rfl rfl rfl)); rfl; rfl; (focus (apply oq_cmp rfl (by (focus (exact Ev.g rfl))) (by (focus (exact Ev.p rfl))); rfl))) | apply wl_nil) | (apply k_seq))
    apply wc_cond rfl <;> intro hb2
    · have e : (digits10.size : Int) = 10 := rfl
      rw [e] at hb2; simp at hb2
    repeat (first | (apply wl_q rfl rfl rfl; (focus (exact oq_move (v := (.string _)) rfl (.p rfl)))) | (first | apply wc_seq | apply wc_region | apply k_seq | apply wc_skip))
    refine wl_fun rfl rfl rfl rfl rfl (ascii_ok _) fun κ1 _ => ?_
    repeat (first | (first | (apply wl_q rfl rfl rfl; (focus (first | exact oq_move (v := (.bool _)) rfl (.p rfl) | exact oq_move (v := (.tuple _)) rfl (.p rfl) | exact oq_assign (v := (.bool _)) rfl (.p rfl) | exact oq_extract rfl (.p rfl) rfl))) | (apply wl_l rfl rfl rfl; apply ol_allocA rfl rfl; intro _ _ _) | (apply wl_l0 rfl rfl; apply ol_storeA rfl rfl rfl rfl rfl rfl; (focus (repeat (exact Upd.h))); rfl; intro _ _) | apply wl_nil) | (first | apply wc_seq | apply wc_region | apply k_seq))
    rename_i b5 _ _ _ _
    apply wc_pub (b := b5) Pick.h rfl; intro κ3 _ hS hsays
    have hset := sh_pub hS hsays
    apply wc_condT rfl
    repeat (first | (apply wl_q rfl rfl rfl; (focus (exact oq_move (v := (.string _)) rfl (.p rfl)))) | (first | apply wc_seq | apply wc_region))
    apply wl_l rfl rfl rfl; apply ol_callP rfl rfl (trimRight_ok _ b5 s (hset.mono (by (repeat (exact Kle.refl _)))) hz)
    rintro v κ4 _ ⟨u, k, rfl, h1, h2, h3, h4⟩
    apply wl_l rfl rfl rfl; apply ol_callP rfl rfl (trimLeft_ok _ b5 u (hset.mono (by (repeat (assumption)))))
    rintro v κ5 _ ⟨u2, k2, rfl, g1, g2, g3, g4⟩
    repeat (first | (first | (apply wl_q rfl rfl rfl; (focus (exact oq_assign (v := (.string _)) rfl (.p rfl)))) | apply wl_nil) | (first | apply k_seq | apply wc_ret | apply k_seq_ret))
    refine ret_of (rv_t (v := .string _) rfl) .none ⟨rfl, u2, rfl, ?_⟩
    rw [size_zero]
    unfold allDig
    rw [List.all_eq_true]
    constructor
    · intro h
      have hk2 : k2 = (bl u).length := by
        have := congrArg List.length (g1.symm.trans h); simp only [List.length_drop, List.length_nil] at this; omega
      intro c hc
      rw [← List.take_append_drop k (bl s)] at hc
      rcases List.mem_append.1 hc with hc | hc
      · rw [← h1] at hc; rw [hk2, List.take_length] at g3; exact g3 c hc
      · exact h3 c hc
    · intro h
      have hu : bl u = [] := by
        rcases List.eq_nil_or_concat (bl u) with hu | ⟨l, c, hu⟩
        · exact hu
        · have hc := h4 c (by rw [hu]; simp)
          have hm : c ∈ bl s := List.mem_of_mem_take (i := k) (by rw [← h1, hu]; simp)
          rw [h c hm] at hc; cases hc
      rw [g1, hu]; simp
end SX
end Go.Proofs.YtfcecieppoljlaaGreatDoor
set_option maxRecDepth 100000
namespace Go.Proofs.YtfcecieppoljlaaGreatDoor
namespace SX
open Go
attribute [local irreducible] WL WC WD OpL OpQ OpG Ev GuardIs seqK blockK retK Call CallP midK loopK Holds upds Sub Pick WS Step Lit Upd SetAt SpliceAt FillR Sh LateRun
def Glob (κ : Kr) : Prop := Sh κ 0 0 [.int .i64 2, .int .i64 4, .int .i64 6, .int .i64 8]
theorem Glob.mono {κ κ' : Kr} (h : Glob κ) (k : Kle κ κ') : Glob κ' := Sh.mono h k
def level (s : ByteArray) : Int := if (s.size = 2 ∨ s.size = 4 ∨ s.size = 6 ∨ s.size = 8) ∧ allDig s = true then (s.size : Int) else 0
theorem gv_some {c : Bool} {v : Value} {P : ByteArray → Prop} (h : c = true → ∃ u, v = .string u ∧ P u) : ∃ u, gv c v = gv c (.string u) ∧ (c = true → P u) := by
  cases c
  · exact ⟨⟨#[]⟩, by rw [gv_false, gv_false], fun h => by cases h⟩
  · obtain ⟨u, rfl, h2⟩ := h rfl; exact ⟨u, rfl, fun _ => h2⟩
theorem level_ok (κ : Kr) (s : ByteArray) (hg : Glob κ) : CallP 30 [.string s] κ fun v _ => v = .int .i64 (level s) := by
  (unfold CallP; apply call_of Tryz.func30 fk30 rfl Tryz.ntmps30 Tryz.results30 rfl)
  repeat (first | (first | (apply wl_q rfl rfl rfl; (focus (exact oq_assign (v := (.int _ _)) rfl (.p rfl)))) | apply wl_nil) | (first | apply wc_seq | apply wc_region | apply k_seq))
  apply wl_q rfl rfl rfl (oq_load_s rfl (.p rfl) (fun _ => hg) rfl)
  repeat (first | (first | (apply wl_q rfl rfl rfl; (focus (exact oq_move (v := (.int _ _)) rfl (.p rfl)))) | apply wl_nil) | (first | apply wc_block | apply k_seq))
  refine wc_loopL (X := Nat) (fun k => [(0, .string s), (5, .agg #[.int .i64 2, .int .i64 4, .int .i64 6, .int .i64 8]), (6, .int .i64 (k : Int))]) (fun _ => []) (fun k _ => k ≤ 4 ∧ ∀ j, j < k → ¬ (s.size = 2 * (j + 1) ∧ allDig s = true)) (fun k => 4 - k) 0 (by (repeat (first | exact Holds.nil | apply Holds.cons rfl))) (by (repeat (exact Sub.nil))) ⟨by omega, by omega⟩ ?_
  rintro k τ κ1 _ ⟨hk, hno⟩
  simp only [upds]
  repeat (first | (first | (apply wl_q rfl rfl rfl; (focus (exact oq_cmp rfl (.p rfl) (.p rfl) rfl))) | apply wl_nil) | (first | apply wc_seq | apply wc_region | apply k_seq))
  apply wc_dec rfl <;> intro hc
  · have hk4 : k < 4 := by omega
    repeat (first | apply wc_seq | apply wc_region | apply wc_block | apply k_seq | apply wc_skip)
    apply wl_q rfl rfl rfl (oq_indexA (cs := [.int .i64 2, .int .i64 4, .int .i64 6, .int .i64 8]) (v := .int .i64 (2 * ((k : Int) + 1))) (j := k) rfl rfl rfl rfl rfl (.p rfl) (.p rfl) (fun _ => rfl) (fun _ => hk4) (fun _ => by
      have : k = 0 ∨ k = 1 ∨ k = 2 ∨ k = 3 := by omega
      rcases this with rfl | rfl | rfl | rfl <;> rfl))
    repeat (first | (first | (apply wl_q rfl rfl rfl; (focus (first | exact oq_move (v := (.int _ _)) rfl (.p rfl) | exact oq_move (v := (.bool _)) rfl (.p rfl) | exact oq_move (v := (.string _)) rfl (.p rfl) | exact oq_assign (v := (.int _ _)) rfl (.p rfl) | exact oq_cmp rfl (.p rfl) (.p rfl) rfl | exact oq_lenS rfl rfl (.p rfl)))) | (apply wl_qg; (focus (exact guard_t rfl rfl rfl)); rfl; rfl; (focus (apply oq_move (v := (.string _)) rfl; (focus (exact Ev.p rfl))))) | apply wl_nil) | (first | apply wc_seq | apply wc_region | apply k_seq))
    apply wl_g; (focus (exact guard_t rfl rfl rfl)); rfl; rfl
    refine og_callP rfl (ar2 (.g rfl) (.p rfl)) (fun hcc => trim_ok _ s (by simp at hcc; omega)) fun v κ2 _ hv => ?_
    obtain ⟨u, hu, hP⟩ := gv_some hv
    rw [hu]
    repeat (first | (first | (apply wl_q rfl rfl rfl; (focus (exact oq_and rfl (.p rfl) (.p rfl) (.g rfl)))) | (apply wl_qg; (focus (exact guard_t rfl rfl rfl)); rfl; rfl; (focus (apply oq_str rfl (by (focus (exact Ev.g rfl))) (by (focus (exact Ev.p rfl))); rfl))) | apply wl_nil) | (apply k_seq))
    apply wc_cond rfl <;> intro hb
    · simp only [Bool.and_eq_true, beq_iff_eq, decide_eq_true_eq] at hb
      have hd : allDig s = true := (hP (by simpa using hb.1)).1 hb.2
      repeat (first | (first | (apply wl_q rfl rfl rfl; (focus (first | exact oq_move (v := (.int _ _)) rfl (.p rfl) | exact oq_assign (v := (.int _ _)) rfl (.p rfl)))) | apply wl_nil) | (first | apply wc_seq | apply wc_region | apply k_seq | apply wc_ret | apply k_seq_ret | apply k_block_ret | apply k_loop_ret))
      refine ret_of (rv_t (v := .int _ _) rfl) .none ⟨rfl, ?_⟩
      show Value.int .i64 (2 * ((k : Int) + 1)) = .int .i64 (level s)
      unfold level
      rw [if_pos ⟨by omega, hd⟩, ← hb.1]
    · repeat (first | (first | (apply wl_q rfl rfl rfl; (focus (first | exact oq_move (v := (.int _ _)) rfl (.p rfl) | exact oq_arith64 rfl (.p rfl) (.p rfl) rfl (fun _ => by omega)))) | apply wl_nil) | (first | apply wc_region | apply k_seq | apply wc_skip | apply k_block_n))
      refine k_loop (k + 1) (by (repeat (first | exact Holds.nil | apply Holds.cons rfl))) (by (repeat (exact Sub.nil))) ⟨by omega, fun j hj => ?_⟩ (by omega)
      rcases Nat.lt_or_ge j k with h | h
      · exact hno j h
      · have : j = k := by omega
        subst this
        rintro ⟨h1, h2⟩
        have hcc : ((s.size : Int) == 2 * ((j : Int) + 1)) = true := by simp; omega
        have := (hP (by simpa using hcc)).2 h2
        subst this
        rw [hcc] at hb; simp at hb
  · repeat (first | (first | (apply wl_q rfl rfl rfl; (focus (exact oq_assign (v := (.int _ _)) rfl (.p rfl)))) | apply wl_nil) | (first | apply wc_seq | apply wc_region | apply k_seq | apply wc_ret | apply wc_exit | apply k_seq_exit | apply k_block_eq rfl | apply k_loop_exit))
    refine ret_of (rv_t (v := .int _ _) rfl) .none ⟨rfl, ?_⟩
    show Value.int .i64 0 = .int .i64 (level s)
    unfold level
    rw [if_neg]
    rintro ⟨h1, h2⟩
    have : k = 4 := by omega
    subst this
    rcases h1 with h1 | h1 | h1 | h1
    · exact hno 0 (by omega) ⟨h1, h2⟩
    · exact hno 1 (by omega) ⟨h1, h2⟩
    · exact hno 2 (by omega) ⟨h1, h2⟩
    · exact hno 3 (by omega) ⟨h1, h2⟩
end SX
end Go.Proofs.YtfcecieppoljlaaGreatDoor
set_option maxRecDepth 100000
namespace Go.Proofs.YtfcecieppoljlaaGreatDoor
namespace SX
open Go
def nomenclature_Level (p0 : ByteArray) : Option Int := some (level p0)
theorem nomenclature_Level_ok {p0 : ByteArray} {r : Int} (h : nomenclature_Level p0 = some r) : PF 30 [.v (.string p0)] (.v (.int .i64 r)) := fun κ args g ha => by
 obtain ⟨v, ws, rfl, h1, h2⟩ := ha.cons_inv
 rw [h2.nil_inv, h1.val]
 have h := Option.some.inj h; subst h
 exact (level_ok κ p0 g).mono fun v κ' _ hv => by subst hv; exact .v rfl
end SX
end Go.Proofs.YtfcecieppoljlaaGreatDoor
set_option maxRecDepth 100000
namespace Go.Proofs.YtfcecieppoljlaaGreatDoor
namespace SX
open Go
attribute [local irreducible] PWL PWC PWD POpL POpQ PEv PGuardIs PSub PPick PUpd PSplice PFill PLit PF PFV PCall pseqK pblockK pmidK pcutK ploopK pretK Cov PHolds loopF idx app mk gd lb nz ge0 cat sub ssub iand ior ixor ishl ishr imin imax IntKind.wrap Int.tmod Int.tdiv Op.bytesLess strOfNums
def math_bits_Len32 (p0 : Int) : Option Int := Option.bind (cond (decide (65536 ≤ p0)) (some ((ishr .u32 p0 16), 16)) (some (p0, 0))) (fun (v1, v2) => Option.bind (cond (decide (256 ≤ v1)) (some ((ishr .u32 v1 8), (IntKind.i64.wrap (v2 + 8)))) (some (v1, v2))) (fun (v5, v6) => Option.bind (idx (⟨#[0, 1, 2, 2, 3, 3, 3, 3, 4, 4, 4, 4, 4, 4, 4, 4, 5, 5, 5, 5, 5, 5, 5, 5, 5, 5, 5, 5, 5, 5, 5, 5, 6, 6, 6, 6, 6, 6, 6, 6, 6, 6, 6, 6, 6, 6, 6, 6, 6, 6, 6, 6, 6, 6, 6, 6, 6, 6, 6, 6, 6, 6, 6, 6, 7, 7, 7, 7, 7, 7, 7, 7, 7, 7, 7, 7, 7, 7, 7, 7, 7, 7, 7, 7, 7, 7, 7, 7, 7, 7, 7, 7, 7, 7, 7, 7, 7, 7, 7, 7, 7, 7, 7, 7, 7, 7, 7, 7, 7, 7, 7, 7, 7, 7, 7, 7, 7, 7, 7, 7, 7, 7, 7, 7, 7, 7, 7, 7, 8, 8, 8, 8, 8, 8, 8, 8, 8, 8, 8, 8, 8, 8, 8, 8, 8, 8, 8, 8, 8, 8, 8, 8, 8, 8, 8, 8, 8, 8, 8, 8, 8, 8, 8, 8, 8, 8, 8, 8, 8, 8, 8, 8, 8, 8, 8, 8, 8, 8, 8, 8, 8, 8, 8, 8, 8, 8, 8, 8, 8, 8, 8, 8, 8, 8, 8, 8, 8, 8, 8, 8, 8, 8, 8, 8, 8, 8, 8, 8, 8, 8, 8, 8, 8, 8, 8, 8, 8, 8, 8, 8, 8, 8, 8, 8, 8, 8, 8, 8, 8, 8, 8, 8, 8, 8, 8, 8, 8, 8, 8, 8, 8, 8, 8, 8, 8, 8, 8, 8, 8, 8, 8, 8, 8, 8, 8, 8]⟩ : ByteArray).data.toList (IntKind.u8.wrap v5)) (fun c9 => lb ((IntKind.i64.wrap (v6 + (IntKind.i64.wrap (c9.toNat : Int))))) (fun w10 => some w10))))
set_option maxHeartbeats 4000000 in
theorem math_bits_Len32_ok {p0 : Int} {r : Int}  (h : math_bits_Len32 p0 = some r) : PF 109 [.v (.int .u32 p0)] (.v (.int .i64 r)) := by
 unfold math_bits_Len32 at h
 refine pf_of ?_
 refine penter Tryz.func109 fk109 rfl Tryz.ntmps109 Tryz.results109 rfl ?_
 refine yad (yaa ?_)
 refine yab rfl rfl rfl (yae (p := .v (.int .i64 0)) rfl (.p rfl)) ?_
 refine yaf (yah (yad (yad (yaa ?_))))
 refine yab rfl rfl rfl (yac (p := .v (.int .u32 p0)) rfl (.p rfl)) ?_
 refine yab rfl rfl rfl (yap rfl (.p rfl) (.p rfl) rfl) ?_
 refine yaf (yah ?_)
 refine yai h ?_; clear h; intro q3 hq3 h
 refine pwc_join (Y := (Unit) × (Int × Int)) (fun (_, (v1, v2)) => [(0, .v (.int .u32 v1)), (2, .v (.int .i64 v2))]) (fun (_, (v1, v2)) => []) (fun (_, (v1, v2)) => q3 = (v1, v2)) ?_ ?_
 ·skip
  refine yam rfl (fun hc4 => ?_) (fun hc4 => ?_)
  ·replace hq3 := yax hc4 hq3
   refine yad (yaa ?_)
   refine yab rfl rfl rfl (yac (p := .v (.int .u32 p0)) rfl (.p rfl)) ?_
   refine yab rfl rfl rfl (pq_shift rfl (.p rfl) (.p rfl) (fun _ => by decide) rfl) ?_
   refine yab rfl rfl rfl (yae (p := .v (.int .u32 (ishr .u32 p0 16))) rfl (.p rfl)) ?_
   refine yaf (yah (yaa ?_))
   refine yab rfl rfl rfl (yae (p := .v (.int .i64 16)) rfl (.p rfl)) ?_
   refine yaf ?_
   obtain rfl := Option.some.inj hq3
   exact pk_mid ((), ((ishr .u32 p0 16), 16)) (zhc rfl (zhc rfl zhn)) zsn rfl
  ·replace hq3 := yay hc4 hq3
   refine yan ?_
   obtain rfl := Option.some.inj hq3
   exact pk_mid ((), (p0, 0)) (zhc rfl (zhc rfl zhn)) zsn rfl
 ·rintro ⟨_, ⟨v1, v2⟩⟩ τ hz; (try dsimp only at hz); subst q3; (try dsimp only at h); dsimp only [pupds]
  refine yad (yad (yaa ?_))
  refine yab rfl rfl rfl (yac (p := .v (.int .u32 v1)) rfl (.p rfl)) ?_
  refine yab rfl rfl rfl (yap rfl (.p rfl) (.p rfl) rfl) ?_
  refine yaf (yah ?_)
  refine yai h ?_; clear h; intro q7 hq7 h
  refine pwc_join (Y := (Unit) × (Int × Int)) (fun (_, (v5, v6)) => [(0, .v (.int .u32 v5)), (2, .v (.int .i64 v6))]) (fun (_, (v5, v6)) => []) (fun (_, (v5, v6)) => q7 = (v5, v6)) ?_ ?_
  ·skip
   refine yam rfl (fun hc8 => ?_) (fun hc8 => ?_)
   ·replace hq7 := yax hc8 hq7
    refine yad (yaa ?_)
    refine yab rfl rfl rfl (yac (p := .v (.int .u32 v1)) rfl (.p rfl)) ?_
    refine yab rfl rfl rfl (pq_shift rfl (.p rfl) (.p rfl) (fun _ => by decide) rfl) ?_
    refine yab rfl rfl rfl (yae (p := .v (.int .u32 (ishr .u32 v1 8))) rfl (.p rfl)) ?_
    refine yaf (yah (yaa ?_))
    refine yab rfl rfl rfl (yac (p := .v (.int .i64 v2)) rfl (.p rfl)) ?_
    refine yab rfl rfl rfl (yau rfl (.p rfl) (.p rfl) rfl) ?_
    refine yab rfl rfl rfl (yae (p := .v (.int .i64 (IntKind.i64.wrap (v2 + 8)))) rfl (.p rfl)) ?_
    refine yaf ?_
    obtain rfl := Option.some.inj hq7
    exact pk_mid ((), ((ishr .u32 v1 8), (IntKind.i64.wrap (v2 + 8)))) (zhc rfl (zhc rfl zhn)) zsn rfl
   ·replace hq7 := yay hc8 hq7
    refine yan ?_
    obtain rfl := Option.some.inj hq7
    exact pk_mid ((), (v1, v2)) (zhc rfl (zhc rfl zhn)) zsn rfl
  ·rintro ⟨_, ⟨v5, v6⟩⟩ τ hz; (try dsimp only at hz); subst q7; (try dsimp only at h); dsimp only [pupds]
   refine yad (yaa ?_)
   refine yab rfl rfl rfl (yac (p := .v (.int .i64 v6)) rfl (.p rfl)) ?_
   refine yab rfl rfl rfl (yac (p := .v (.int .u32 v5)) rfl (.p rfl)) ?_
   refine yab rfl rfl rfl (pq_conv rfl rfl rfl (.p rfl)) ?_
   refine yai h ?_; clear h; intro c9 hc9 h
   refine yab rfl rfl rfl (pq_indexS rfl rfl (.p rfl) (.p rfl) (fun _ => hc9)) ?_
   refine yab rfl rfl rfl (pq_conv rfl rfl rfl (.p rfl)) ?_
   refine yab rfl rfl rfl (yau rfl (.p rfl) (.p rfl) rfl) ?_
   refine lb_elim h ?_; clear h; intro w10 hw10 h
   refine yab rfl rfl rfl (yae rfl (.p (congrArg (fun z => PV.v (Value.int .i64 z)) hw10))) ?_
   refine yaf (yah (yas ?_))
   obtain rfl := Option.some.inj h
   exact yat (prv_1 (yav rfl)) zsn ⟨rfl, rfl⟩
def math_bits_Len (p0 : Int) : Option Int := cond false (Option.bind (math_bits_Len32 (IntKind.u32.wrap p0)) (fun x2 => some x2)) (Option.bind (math_bits_Len64 p0) (fun x3 => some x3))
set_option maxHeartbeats 4000000 in
theorem math_bits_Len_ok {p0 : Int} {r : Int}  (h : math_bits_Len p0 = some r) : PF 75 [.v (.int .u64 p0)] (.v (.int .i64 r)) := by
 unfold math_bits_Len at h
 refine pf_of ?_
 refine penter Tryz.func75 fk75 rfl Tryz.ntmps75 Tryz.results75 rfl ?_
 refine yad (yaa ?_)
 refine yab rfl rfl rfl (yae (p := .v (.int .i64 0)) rfl (.p rfl)) ?_
 refine yaf (yah (yad ?_))
 refine yam rfl (fun hc1 => ?_) (fun hc1 => ?_)
 ·replace h := yax hc1 h
  refine yad (yaa ?_)
  refine yab rfl rfl rfl (yac (p := .v (.int .u64 p0)) rfl (.p rfl)) ?_
  refine yab rfl rfl rfl (pq_conv rfl rfl rfl (.p rfl)) ?_
  refine yai h ?_; clear h; intro x2 hx2 h
  refine pwl_call rfl rfl rfl rfl rfl (math_bits_Len32_ok hx2) ?_
  refine yab rfl rfl rfl (yae (p := .v (.int .i64 x2)) rfl (.p rfl)) ?_
  refine yaf (yah (yas (yaq ?_)))
  obtain rfl := Option.some.inj h
  exact yat (prv_1 (yav rfl)) zsn ⟨rfl, rfl⟩
 ·replace h := yay hc1 h
  refine yan (yah (yad (yaa ?_)))
  refine yab rfl rfl rfl (yac (p := .v (.int .u64 p0)) rfl (.p rfl)) ?_
  refine yai h ?_; clear h; intro x3 hx3 h
  refine pwl_call rfl rfl rfl rfl rfl (math_bits_Len64_ok hx3) ?_
  refine yab rfl rfl rfl (yae (p := .v (.int .i64 x3)) rfl (.p rfl)) ?_
  refine yaf (yah (yas ?_))
  obtain rfl := Option.some.inj h
  exact yat (prv_1 (yav rfl)) zsn ⟨rfl, rfl⟩
def slices_pdqsortCmpFunc_apportion_portion (p0 : (List Tapportion_portion)) (p1 : Int) (p2 : Int) (p3 : Int) (p4 : (Tapportion_portion → Tapportion_portion → Option Int)) : Option (List Tapportion_portion) := Option.bind (loopF (S := Unit) (T := (Unit) ⊕ (_)) (fun _ => cond (decide ((IntKind.i64.wrap (p2 - p1)) ≤ 12)) (Option.bind (slices_insertionSortCmpFunc_apportion_portion p0 p1 p2 p4) (fun x4 => some (.inr (.inr x4)))) (cond (p3 == 0) (none) (cond (!true) (none) (none)))) FUEL ()) (fun q => match q with | .inl _ => none | .inr e => some e)
set_option maxHeartbeats 4000000 in
theorem slices_pdqsortCmpFunc_apportion_portion_ok {p0 : (List Tapportion_portion)} {p1 : Int} {p2 : Int} {p3 : Int} {p4 : (Tapportion_portion → Tapportion_portion → Option Int)} {a_0 : Option Addr}  {n_0 : Nat}  {c_0 : Nat} {r : (List Tapportion_portion)} {g4 : PV} (hg4 : ∀ {y0 : Tapportion_portion} {y1 : Tapportion_portion} {w : Int}, p4 y0 y1 = some w → PFV g4 [.agg [.v (.int .i64 y0.index_), .v (.int .u64 y0.share), .v (.int .u64 y0.rest)], .agg [.v (.int .i64 y1.index_), .v (.int .u64 y1.share), .v (.int .u64 y1.rest)]] (.v (.int .i64 w))) (h : slices_pdqsortCmpFunc_apportion_portion p0 p1 p2 p3 p4 = some r) : PCall 134 [.v (.slice a_0 n_0 c_0), .v (.int .i64 p1), .v (.int .i64 p2), .v (.int .i64 p3), g4] [PRes.row a_0 n_0 c_0 144 3 (List.map Tapportion_portion.enc p0)] (fun pv ρ' => pv = .tup [] ∧ ρ' = [PRes.row a_0 n_0 c_0 144 3 (List.map Tapportion_portion.enc r)]) := by
 unfold slices_pdqsortCmpFunc_apportion_portion at h
 refine penter Tryz.func134 fk134 rfl Tryz.ntmps134 Tryz.results134 rfl ?_
 refine pwc_rowfact (enc := Tapportion_portion.enc) (xs := p0) (a := a_0) zm0 (fun hl ha => ?_); subst hl; clear ha
 refine yad (yaa ?_)
 refine yab rfl rfl rfl (yae (p := .v (.bool true)) rfl (.p rfl)) ?_
 refine yaf (yah (yad (yaa ?_)))
 refine yab rfl rfl rfl (yae (p := .v (.bool true)) rfl (.p rfl)) ?_
 refine yaf (yah ?_)
 refine yai h ?_; clear h; intro q2 hq2 h
 refine pwc_block ?_
 refine pwc_loopF (Y := Unit) (S := Unit) _ hq2 (fun _ _ => [(0, .v (.slice a_0 p0.length c_0)), (1, .v (.int .i64 p1)), (2, .v (.int .i64 p2)), (3, .v (.int .i64 p3)), (4, g4), (10, .v (.bool true)), (11, .v (.bool true))]) (fun _ _ => [PRes.row a_0 p0.length c_0 144 3 (List.map Tapportion_portion.enc p0)]) () (zhc rfl (zhc rfl (zhc rfl (zhc rfl (zhc rfl (zhc rfl (zhc rfl zhn))))))) (zsc zph zsn) ?_
 rintro _ _ o τ hb1; (try dsimp only at hb1); dsimp only [pupds]
 refine pwc_block (yad (yaa ?_))
 refine yab rfl rfl rfl (yac (p := .v (.int .i64 p2)) rfl (.p rfl)) ?_
 refine yab rfl rfl rfl (yac (p := .v (.int .i64 p1)) rfl (.p rfl)) ?_
 refine yab rfl rfl rfl (yau rfl (.p rfl) (.p rfl) rfl) ?_
 refine yab rfl rfl rfl (yae (p := .v (.int .i64 (IntKind.i64.wrap (p2 - p1)))) rfl (.p rfl)) ?_
 refine yaf (yah (yad (yad (yaa ?_))))
 refine yab rfl rfl rfl (yac (p := .v (.int .i64 (IntKind.i64.wrap (p2 - p1)))) rfl (.p rfl)) ?_
 refine yab rfl rfl rfl (yap rfl (.p rfl) (.p rfl) rfl) ?_
 refine yaf (yah ?_)
 refine yam rfl (fun hc3 => ?_) (fun hc3 => ?_)
 ·replace hb1 := yax hc3 hb1
  refine yad (yaa ?_)
  refine yab rfl rfl rfl (yac (p := .v (.slice a_0 p0.length c_0)) rfl (.p rfl)) ?_
  refine yab rfl rfl rfl (yac (p := .v (.int .i64 p1)) rfl (.p rfl)) ?_
  refine yab rfl rfl rfl (yac (p := .v (.int .i64 p2)) rfl (.p rfl)) ?_
  refine yab rfl rfl rfl (yac (p := g4) rfl (.p rfl)) ?_
  refine yai hb1 ?_; clear hb1; intro x4 hx4 hb1
  refine pwl_l rfl rfl rfl (pl_callR rfl rfl (ρ1 := [_]) (yba (by exact zph) (List.Perm.refl _)) (slices_insertionSortCmpFunc_apportion_portion_ok hg4 hx4) ?_); rintro _ _ ⟨rfl, rfl⟩
  refine yaf (yah (yas (yaq (yaz ?_))))
  refine pk_loop_ret hb1 (fun ht => ?_); subst ht
  have h := (show some _ = some _ from h)
  refine yaz ?_
  obtain rfl := Option.some.inj h
  exact yat (rfl : PRV [] _ _ (.tup [])) (zsc zph zsn) ⟨rfl, rfl⟩
 ·replace hb1 := yay hc3 hb1
  refine yan (yah (yad (yad (yaa ?_))))
  refine yab rfl rfl rfl (yac (p := .v (.int .i64 p3)) rfl (.p rfl)) ?_
  refine yab rfl rfl rfl (yap rfl (.p rfl) (.p rfl) rfl) ?_
  refine yaf (yah ?_)
  refine yam rfl (fun hc5 => ?_) (fun hc5 => ?_)
  ·replace hb1 := yax hc5 hb1
   refine yad (yaa ?_)
   refine yab rfl rfl rfl (yac (p := .v (.slice a_0 p0.length c_0)) rfl (.p rfl)) ?_
   refine yab rfl rfl rfl (yac (p := .v (.int .i64 p1)) rfl (.p rfl)) ?_
   refine yab rfl rfl rfl (yac (p := .v (.int .i64 p2)) rfl (.p rfl)) ?_
   refine yab rfl rfl rfl (yac (p := g4) rfl (.p rfl)) ?_
   exact absurd hb1 (by simp)
  ·replace hb1 := yay hc5 hb1
   refine yan (yah (yad (yad (yaa ?_))))
   refine yab rfl rfl rfl (yac (p := .v (.bool true)) rfl (.p rfl)) ?_
   refine yab rfl rfl rfl (pq_not rfl (.p rfl)) ?_
   refine yaf (yah ?_)
   refine yam rfl (fun hc6 => ?_) (fun hc6 => ?_)
   ·replace hb1 := yax hc6 hb1
    refine yad (yaa ?_)
    refine yab rfl rfl rfl (yac (p := .v (.slice a_0 p0.length c_0)) rfl (.p rfl)) ?_
    refine yab rfl rfl rfl (yac (p := .v (.int .i64 p1)) rfl (.p rfl)) ?_
    refine yab rfl rfl rfl (yac (p := .v (.int .i64 p2)) rfl (.p rfl)) ?_
    refine yab rfl rfl rfl (yac (p := g4) rfl (.p rfl)) ?_
    exact absurd hb1 (by simp)
   ·replace hb1 := yay hc6 hb1
    refine yan (yah (yad (yaa ?_)))
    refine yab rfl rfl rfl (yac (p := .v (.slice a_0 p0.length c_0)) rfl (.p rfl)) ?_
    refine yab rfl rfl rfl (yac (p := .v (.int .i64 p1)) rfl (.p rfl)) ?_
    refine yab rfl rfl rfl (yac (p := .v (.int .i64 p2)) rfl (.p rfl)) ?_
    refine yab rfl rfl rfl (yac (p := g4) rfl (.p rfl)) ?_
    exact absurd hb1 (by simp)
def slices_SortFunc_apportion_portion_apportion_portion (p0 : (List Tapportion_portion)) (p1 : (Tapportion_portion → Tapportion_portion → Option Int)) : Option (List Tapportion_portion) := Option.bind (math_bits_Len (IntKind.u64.wrap ((p0.length : Nat) : Int))) (fun x1 => Option.bind (slices_pdqsortCmpFunc_apportion_portion p0 0 ((p0.length : Nat) : Int) x1 p1) (fun x2 => some x2))
set_option maxHeartbeats 4000000 in
theorem slices_SortFunc_apportion_portion_apportion_portion_ok {p0 : (List Tapportion_portion)} {p1 : (Tapportion_portion → Tapportion_portion → Option Int)} {a_0 : Option Addr}  {n_0 : Nat}  {c_0 : Nat} {r : (List Tapportion_portion)} {g1 : PV} (hg1 : ∀ {y0 : Tapportion_portion} {y1 : Tapportion_portion} {w : Int}, p1 y0 y1 = some w → PFV g1 [.agg [.v (.int .i64 y0.index_), .v (.int .u64 y0.share), .v (.int .u64 y0.rest)], .agg [.v (.int .i64 y1.index_), .v (.int .u64 y1.share), .v (.int .u64 y1.rest)]] (.v (.int .i64 w))) (h : slices_SortFunc_apportion_portion_apportion_portion p0 p1 = some r) : PCall 119 [.v (.slice a_0 n_0 c_0), g1] [PRes.row a_0 n_0 c_0 144 3 (List.map Tapportion_portion.enc p0)] (fun pv ρ' => pv = .tup [] ∧ ρ' = [PRes.row a_0 n_0 c_0 144 3 (List.map Tapportion_portion.enc r)]) := by
 unfold slices_SortFunc_apportion_portion_apportion_portion at h
 refine penter Tryz.func119 fk119 rfl Tryz.ntmps119 Tryz.results119 rfl ?_
 refine pwc_rowfact (enc := Tapportion_portion.enc) (xs := p0) (a := a_0) zm0 (fun hl ha => ?_); subst hl; clear ha
 refine yad (yaa ?_)
 refine yab rfl rfl rfl (yac (p := .v (.slice a_0 p0.length c_0)) rfl (.p rfl)) ?_
 refine yab rfl rfl rfl (pq_lenO rfl rfl (.p rfl)) ?_
 refine yab rfl rfl rfl (yae (p := .v (.int .i64 ((p0.length : Nat) : Int))) rfl (.p rfl)) ?_
 refine yaf (yah (yaa ?_))
 refine yab rfl rfl rfl (yac (p := .v (.slice a_0 p0.length c_0)) rfl (.p rfl)) ?_
 refine yab rfl rfl rfl (yac (p := .v (.int .i64 ((p0.length : Nat) : Int))) rfl (.p rfl)) ?_
 refine yab rfl rfl rfl (yac (p := .v (.int .i64 ((p0.length : Nat) : Int))) rfl (.p rfl)) ?_
 refine yab rfl rfl rfl (pq_conv rfl rfl rfl (.p rfl)) ?_
 refine yai h ?_; clear h; intro x1 hx1 h
 refine pwl_call rfl rfl rfl rfl rfl (math_bits_Len_ok hx1) ?_
 refine yab rfl rfl rfl (yac (p := g1) rfl (.p rfl)) ?_
 refine yai h ?_; clear h; intro x2 hx2 h
 refine pwl_l rfl rfl rfl (pl_callR rfl rfl (ρ1 := [_]) (yba (by exact zph) (List.Perm.refl _)) (slices_pdqsortCmpFunc_apportion_portion_ok hg1 hx2) ?_); rintro _ _ ⟨rfl, rfl⟩
 refine yaf ?_
 obtain rfl := Option.some.inj h
 exact pret_ofN (rfl : PRV [] _ _ (.tup [])) (zsc zph zsn) ⟨rfl, rfl⟩
def apportion_ranking_sort_1 (p0 : Tapportion_portion) (p1 : Tapportion_portion) (p2 : Tapportion_ranking) : Option Int := Option.bind (apportion_byRest p0 p1) (fun x3 => some x3)
set_option maxHeartbeats 4000000 in
theorem apportion_ranking_sort_1_ok {p0 : Tapportion_portion} {p1 : Tapportion_portion} {p2 : Tapportion_ranking} {r : Int}  (h : apportion_ranking_sort_1 p0 p1 p2 = some r) : PF 120 [.agg [.v (.int .i64 p0.index_), .v (.int .u64 p0.share), .v (.int .u64 p0.rest)], .agg [.v (.int .i64 p1.index_), .v (.int .u64 p1.share), .v (.int .u64 p1.rest)], .ref [.fn 91 []] 0] (.v (.int .i64 r)) := by
 unfold apportion_ranking_sort_1 at h
 refine pf_of ?_
 refine penter Tryz.func120 fk120 rfl Tryz.ntmps120 Tryz.results120 rfl ?_
 refine yad (yaa ?_)
 refine pwl_l rfl rfl rfl (pl_box (cs := [.v (.int .i64 p0.index_), .v (.int .u64 p0.share), .v (.int .u64 p0.rest)]) rfl rfl (fun b1 => ?_))
 refine pwl_l rfl rfl rfl (pl_box (cs := [.v (.int .i64 p1.index_), .v (.int .u64 p1.share), .v (.int .u64 p1.rest)]) rfl rfl (fun b2 => ?_))
 refine yab rfl rfl rfl (yae (p := .v (.int .i64 0)) rfl (.p rfl)) ?_
 refine yaf (yah (yad (yaa ?_)))
 refine yab rfl rfl rfl (pq_fieldAddrR rfl rfl rfl rfl rfl (.p rfl)) ?_
 refine yab rfl rfl rfl (pq_load_r (p := .fn 91 []) rfl (.p rfl) rfl) ?_
 refine yab rfl rfl rfl (yaj (p := .agg [.v (.int .i64 p0.index_), .v (.int .u64 p0.share), .v (.int .u64 p0.rest)]) rfl (.p rfl) zm1 rfl) ?_
 refine yab rfl rfl rfl (yaj (p := .agg [.v (.int .i64 p1.index_), .v (.int .u64 p1.share), .v (.int .u64 p1.rest)]) rfl (.p rfl) zm0 rfl) ?_
 refine yai h ?_; clear h; intro x3 hx3 h
 refine pwl_callv rfl rfl rfl rfl rfl (pfv_of (apportion_byRest_ok hx3)) ?_
 refine yab rfl rfl rfl (yae (p := .v (.int .i64 x3)) rfl (.p rfl)) ?_
 refine yaf (yah (yas ?_))
 obtain rfl := Option.some.inj h
 exact yat (prv_1 (yav rfl)) zsn ⟨rfl, rfl⟩
def apportion_ranking_sort (p0 : Tapportion_ranking) (p1 : (List Tapportion_portion)) : Option (List Tapportion_portion) := Option.bind (slices_SortFunc_apportion_portion_apportion_portion p1 (fun y2 y3 => apportion_ranking_sort_1 y2 y3 (⟨()⟩ : Tapportion_ranking))) (fun x4 => some x4)
set_option maxHeartbeats 4000000 in
theorem apportion_ranking_sort_ok {p0 : Tapportion_ranking} {p1 : (List Tapportion_portion)} {a_1 : Option Addr}  {n_1 : Nat}  {c_1 : Nat} {r : (List Tapportion_portion)}  (h : apportion_ranking_sort p0 p1 = some r) : PCall 92 [.agg [.fn 91 []], .v (.slice a_1 n_1 c_1)] [PRes.row a_1 n_1 c_1 144 3 (List.map Tapportion_portion.enc p1)] (fun pv ρ' => pv = .tup [] ∧ ρ' = [PRes.row a_1 n_1 c_1 144 3 (List.map Tapportion_portion.enc r)]) := by
 unfold apportion_ranking_sort at h
 refine penter Tryz.func92 fk92 rfl Tryz.ntmps92 Tryz.results92 rfl ?_
 refine pwc_rowfact (enc := Tapportion_portion.enc) (xs := p1) (a := a_1) zm0 (fun hl ha => ?_); subst hl; clear ha
 refine yad (yaa ?_)
 refine pwl_l rfl rfl rfl (pl_box (cs := [.fn 91 []]) rfl rfl (fun b1 => ?_))
 refine yaf (yah (yaa ?_))
 refine yab rfl rfl rfl (yac (p := .v (.slice a_1 p1.length c_1)) rfl (.p rfl)) ?_
 refine pwl_frb 2 rfl (by exact zph) ?_
 refine yab rfl rfl rfl (pq_makeFunc rfl) ?_
 refine yai h ?_; clear h; intro x4 hx4 h
 refine pwl_l rfl rfl rfl (pl_callR rfl rfl (ρ1 := [_]) (yba (by exact zpt zph) (List.Perm.refl _)) (slices_SortFunc_apportion_portion_apportion_portion_ok (fun hr => pfv_of (apportion_ranking_sort_1_ok hr)) hx4) ?_); rintro _ _ ⟨rfl, rfl⟩
 refine yaf ?_
 obtain rfl := Option.some.inj h
 exact pret_ofN (rfl : PRV [] _ _ (.tup [])) (zsc zph zsn) ⟨rfl, rfl⟩
def math_bits_Div64 (p0 : Int) (p1 : Int) (p2 : Int) : Option (Int × Int) := cond (p2 == 0) (none) (cond (decide (p2 ≤ p0)) (none) (cond (p0 == 0) (Option.bind (nz p2) (fun u4 => Option.bind (nz p2) (fun u5 => some ((IntKind.u64.wrap (Int.tdiv p1 p2)), (Int.tmod p1 p2))))) (Option.bind (math_bits_LeadingZeros64 p2) (fun x6 => Option.bind (ge0 (IntKind.u64.wrap x6)) (fun u7 => lb ((ishr .u64 (ishl .u64 p2 (IntKind.u64.wrap x6)) 32)) (fun w8 => lb ((iand .u64 (ishl .u64 p2 (IntKind.u64.wrap x6)) 4294967295)) (fun w9 => Option.bind (ge0 (IntKind.u64.wrap x6)) (fun u10 => Option.bind (ge0 (IntKind.u64.wrap (64 - (IntKind.u64.wrap x6)))) (fun u11 => lb ((ior .u64 (ishl .u64 p0 (IntKind.u64.wrap x6)) (ishr .u64 p1 (IntKind.u64.wrap (64 - (IntKind.u64.wrap x6)))))) (fun w12 => Option.bind (ge0 (IntKind.u64.wrap x6)) (fun u13 => lb ((ishr .u64 (ishl .u64 p1 (IntKind.u64.wrap x6)) 32)) (fun w14 => lb ((iand .u64 (ishl .u64 p1 (IntKind.u64.wrap x6)) 4294967295)) (fun w15 => Option.bind (nz w8) (fun u16 => lb ((IntKind.u64.wrap (w12 - (IntKind.u64.wrap ((IntKind.u64.wrap (Int.tdiv w12 w8)) * w8))))) (fun w17 => Option.bind (loopF (S := Int × Int) (T := (Int)) (fun (v18, v19) => cond ((decide (4294967296 ≤ v18)) || (decide ((IntKind.u64.wrap ((IntKind.u64.wrap (4294967296 * v19)) + w14)) < (IntKind.u64.wrap (v18 * w9))))) (cond (decide (4294967296 ≤ (IntKind.u64.wrap (v19 + w8)))) (some (.inr (IntKind.u64.wrap (v18 - 1)))) (some (.inl ((IntKind.u64.wrap (v18 - 1)), (IntKind.u64.wrap (v19 + w8)))))) (some (.inr v18))) FUEL ((IntKind.u64.wrap (Int.tdiv w12 w8)), w17)) (fun v20 => lb ((IntKind.u64.wrap ((IntKind.u64.wrap ((IntKind.u64.wrap (w12 * 4294967296)) + w14)) - (IntKind.u64.wrap (v20 * (ishl .u64 p2 (IntKind.u64.wrap x6))))))) (fun w25 => Option.bind (nz w8) (fun u26 => lb ((IntKind.u64.wrap (w25 - (IntKind.u64.wrap ((IntKind.u64.wrap (Int.tdiv w25 w8)) * w8))))) (fun w27 => Option.bind (loopF (S := Int × Int) (T := (Int)) (fun (v28, v29) => cond ((decide (4294967296 ≤ v29)) || (decide ((IntKind.u64.wrap ((IntKind.u64.wrap (4294967296 * v28)) + w15)) < (IntKind.u64.wrap (v29 * w9))))) (cond (decide (4294967296 ≤ (IntKind.u64.wrap (v28 + w8)))) (some (.inr (IntKind.u64.wrap (v29 - 1)))) (some (.inl ((IntKind.u64.wrap (v28 + w8)), (IntKind.u64.wrap (v29 - 1)))))) (some (.inr v29))) FUEL (w27, (IntKind.u64.wrap (Int.tdiv w25 w8)))) (fun v30 => Option.bind (ge0 (IntKind.u64.wrap x6)) (fun u35 => lb ((IntKind.u64.wrap ((IntKind.u64.wrap (v20 * 4294967296)) + v30))) (fun w36 => lb ((ishr .u64 (IntKind.u64.wrap ((IntKind.u64.wrap ((IntKind.u64.wrap (w25 * 4294967296)) + w15)) - (IntKind.u64.wrap (v30 * (ishl .u64 p2 (IntKind.u64.wrap x6)))))) (IntKind.u64.wrap x6))) (fun w37 => some (w36, w37))))))))))))))))))))))))
set_option maxHeartbeats 4000000 in
theorem math_bits_Div64_ok {p0 : Int} {p1 : Int} {p2 : Int} {r : (Int × Int)}  (h : math_bits_Div64 p0 p1 p2 = some r) : PF 123 [.v (.int .u64 p0), .v (.int .u64 p1), .v (.int .u64 p2)] (.tup [.v (.int .u64 r.1), .v (.int .u64 r.2)]) := by
 unfold math_bits_Div64 at h
 refine pf_of ?_
 refine penter Tryz.func123 fk123 rfl Tryz.ntmps123 Tryz.results123 rfl ?_
 refine yad (yaa ?_)
 refine yab rfl rfl rfl (yae (p := .v (.int .u64 0)) rfl (.p rfl)) ?_
 refine yab rfl rfl rfl (yae (p := .v (.int .u64 0)) rfl (.p rfl)) ?_
 refine yaf (yah (yad (yad (yaa ?_))))
 refine yab rfl rfl rfl (yac (p := .v (.int .u64 p2)) rfl (.p rfl)) ?_
 refine yab rfl rfl rfl (yap rfl (.p rfl) (.p rfl) rfl) ?_
 refine yaf (yah ?_)
 refine yam rfl (fun hc1 => ?_) (fun hc1 => ?_)
 ·replace h := yax hc1 h
  refine yaa ?_
  exact absurd h (by simp)
 ·replace h := yay hc1 h
  refine yan (yah (yad (yad (yaa ?_))))
  refine yab rfl rfl rfl (yac (p := .v (.int .u64 p2)) rfl (.p rfl)) ?_
  refine yab rfl rfl rfl (yac (p := .v (.int .u64 p0)) rfl (.p rfl)) ?_
  refine yab rfl rfl rfl (yap rfl (.p rfl) (.p rfl) rfl) ?_
  refine yaf (yah ?_)
  refine yam rfl (fun hc2 => ?_) (fun hc2 => ?_)
  ·replace h := yax hc2 h
   refine yaa ?_
   exact absurd h (by simp)
  ·replace h := yay hc2 h
   refine yan (yah (yad (yad (yaa ?_))))
   refine yab rfl rfl rfl (yac (p := .v (.int .u64 p0)) rfl (.p rfl)) ?_
   refine yab rfl rfl rfl (yap rfl (.p rfl) (.p rfl) rfl) ?_
   refine yaf (yah ?_)
   refine yam rfl (fun hc3 => ?_) (fun hc3 => ?_)
   ·replace h := yax hc3 h
    refine yad ?_
    refine pwc_draw (ρd := []) [(0, 0), (1, 0), (2, 0), (3, 0), (4, 0), (5, 0), (6, 0), (7, 0)] _ (List.Perm.refl _) (by kernel_rfl) rfl ?_
    refine pwd_q rfl rfl rfl (yac (p := .v (.int .u64 p1)) rfl (.p rfl)) ?_
    refine pwd_q rfl rfl rfl (yac (p := .v (.int .u64 p2)) rfl (.p rfl)) ?_
    refine yai h ?_; clear h; intro u4 hu4 h
    refine pwd_q rfl rfl rfl (pq_quo rfl (.p rfl) (.p rfl) (fun _ => nz_some hu4)) ?_
    refine pwd_q rfl rfl rfl (yac (p := .v (.int .u64 p1)) rfl (.p rfl)) ?_
    refine pwd_q rfl rfl rfl (yac (p := .v (.int .u64 p2)) rfl (.p rfl)) ?_
    refine yai h ?_; clear h; intro u5 hu5 h
    refine pwd_q rfl rfl rfl (pq_rem rfl (.p rfl) (.p rfl) (fun _ => nz_some hu5)) ?_
    refine pwd_q rfl rfl rfl (yae (p := .v (.int .u64 (IntKind.u64.wrap (Int.tdiv p1 p2)))) rfl (.p rfl)) ?_
    refine pwd_q rfl rfl rfl (yae (p := .v (.int .u64 (Int.tmod p1 p2))) rfl (.p rfl)) ?_
    refine pwd_nil (yah (yas (yaq ?_)))
    obtain rfl := Option.some.inj h
    exact yat (prv_2 (yav rfl) (yav rfl)) zsn ⟨rfl, rfl⟩
   ·replace h := yay hc3 h
    refine yan (yah (yad (yaa ?_)))
    refine yab rfl rfl rfl (yac (p := .v (.int .u64 p2)) rfl (.p rfl)) ?_
    refine yai h ?_; clear h; intro x6 hx6 h
    refine pwl_call rfl rfl rfl rfl rfl (math_bits_LeadingZeros64_ok hx6) ?_
    refine yab rfl rfl rfl (pq_conv rfl rfl rfl (.p rfl)) ?_
    refine yab rfl rfl rfl (yae (p := .v (.int .u64 (IntKind.u64.wrap x6))) rfl (.p rfl)) ?_
    refine yaf (yah (yad (yaa ?_)))
    refine yab rfl rfl rfl (yac (p := .v (.int .u64 p2)) rfl (.p rfl)) ?_
    refine yab rfl rfl rfl (yac (p := .v (.int .u64 (IntKind.u64.wrap x6))) rfl (.p rfl)) ?_
    refine yai h ?_; clear h; intro u7 hu7 h
    refine yab rfl rfl rfl (pq_shift rfl (.p rfl) (.p rfl) (fun _ => ge0_some hu7) rfl) ?_
    refine yab rfl rfl rfl (yae (p := .v (.int .u64 (ishl .u64 p2 (IntKind.u64.wrap x6)))) rfl (.p rfl)) ?_
    refine yaf (yah (yad (yaa ?_)))
    refine yab rfl rfl rfl (yac (p := .v (.int .u64 (ishl .u64 p2 (IntKind.u64.wrap x6)))) rfl (.p rfl)) ?_
    refine yab rfl rfl rfl (pq_shift rfl (.p rfl) (.p rfl) (fun _ => by decide) rfl) ?_
    refine lb_elim h ?_; clear h; intro w8 hw8 h
    refine yab rfl rfl rfl (yae rfl (.p (congrArg (fun z => PV.v (Value.int .u64 z)) hw8))) ?_
    refine yaf (yah (yad (yaa ?_)))
    refine yab rfl rfl rfl (yac (p := .v (.int .u64 (ishl .u64 p2 (IntKind.u64.wrap x6)))) rfl (.p rfl)) ?_
    refine yab rfl rfl rfl (pq_bits rfl (.p rfl) (.p rfl) rfl) ?_
    refine lb_elim h ?_; clear h; intro w9 hw9 h
    refine yab rfl rfl rfl (yae rfl (.p (congrArg (fun z => PV.v (Value.int .u64 z)) hw9))) ?_
    refine yaf (yah (yad (yaa ?_)))
    refine yab rfl rfl rfl (yac (p := .v (.int .u64 p0)) rfl (.p rfl)) ?_
    refine yab rfl rfl rfl (yac (p := .v (.int .u64 (IntKind.u64.wrap x6))) rfl (.p rfl)) ?_
    refine yai h ?_; clear h; intro u10 hu10 h
    refine yab rfl rfl rfl (pq_shift rfl (.p rfl) (.p rfl) (fun _ => ge0_some hu10) rfl) ?_
    refine yab rfl rfl rfl (yac (p := .v (.int .u64 p1)) rfl (.p rfl)) ?_
    refine yab rfl rfl rfl (yac (p := .v (.int .u64 (IntKind.u64.wrap x6))) rfl (.p rfl)) ?_
    refine yab rfl rfl rfl (yau rfl (.p rfl) (.p rfl) rfl) ?_
    refine yai h ?_; clear h; intro u11 hu11 h
    refine yab rfl rfl rfl (pq_shift rfl (.p rfl) (.p rfl) (fun _ => ge0_some hu11) rfl) ?_
    refine yab rfl rfl rfl (pq_bits rfl (.p rfl) (.p rfl) rfl) ?_
    refine lb_elim h ?_; clear h; intro w12 hw12 h
    refine yab rfl rfl rfl (yae rfl (.p (congrArg (fun z => PV.v (Value.int .u64 z)) hw12))) ?_
    refine yaf (yah (yad (yaa ?_)))
    refine yab rfl rfl rfl (yac (p := .v (.int .u64 p1)) rfl (.p rfl)) ?_
    refine yab rfl rfl rfl (yac (p := .v (.int .u64 (IntKind.u64.wrap x6))) rfl (.p rfl)) ?_
    refine yai h ?_; clear h; intro u13 hu13 h
    refine yab rfl rfl rfl (pq_shift rfl (.p rfl) (.p rfl) (fun _ => ge0_some hu13) rfl) ?_
    refine yab rfl rfl rfl (yae (p := .v (.int .u64 (ishl .u64 p1 (IntKind.u64.wrap x6)))) rfl (.p rfl)) ?_
    refine yaf (yah (yad (yaa ?_)))
    refine yab rfl rfl rfl (yac (p := .v (.int .u64 (ishl .u64 p1 (IntKind.u64.wrap x6)))) rfl (.p rfl)) ?_
    refine yab rfl rfl rfl (pq_shift rfl (.p rfl) (.p rfl) (fun _ => by decide) rfl) ?_
    refine lb_elim h ?_; clear h; intro w14 hw14 h
    refine yab rfl rfl rfl (yae rfl (.p (congrArg (fun z => PV.v (Value.int .u64 z)) hw14))) ?_
    refine yaf (yah (yad (yaa ?_)))
    refine yab rfl rfl rfl (yac (p := .v (.int .u64 (ishl .u64 p1 (IntKind.u64.wrap x6)))) rfl (.p rfl)) ?_
    refine yab rfl rfl rfl (pq_bits rfl (.p rfl) (.p rfl) rfl) ?_
    refine lb_elim h ?_; clear h; intro w15 hw15 h
    refine yab rfl rfl rfl (yae rfl (.p (congrArg (fun z => PV.v (Value.int .u64 z)) hw15))) ?_
    refine yaf (yah (yad (yaa ?_)))
    refine yab rfl rfl rfl (yac (p := .v (.int .u64 w12)) rfl (.p rfl)) ?_
    refine yab rfl rfl rfl (yac (p := .v (.int .u64 w8)) rfl (.p rfl)) ?_
    refine yai h ?_; clear h; intro u16 hu16 h
    refine yab rfl rfl rfl (pq_quo rfl (.p rfl) (.p rfl) (fun _ => nz_some hu16)) ?_
    refine yab rfl rfl rfl (yae (p := .v (.int .u64 (IntKind.u64.wrap (Int.tdiv w12 w8)))) rfl (.p rfl)) ?_
    refine yaf (yah (yad (yaa ?_)))
    refine yab rfl rfl rfl (yac (p := .v (.int .u64 w12)) rfl (.p rfl)) ?_
    refine yab rfl rfl rfl (yac (p := .v (.int .u64 (IntKind.u64.wrap (Int.tdiv w12 w8)))) rfl (.p rfl)) ?_
    refine yab rfl rfl rfl (yac (p := .v (.int .u64 w8)) rfl (.p rfl)) ?_
    refine yab rfl rfl rfl (yau rfl (.p rfl) (.p rfl) rfl) ?_
    refine yab rfl rfl rfl (yau rfl (.p rfl) (.p rfl) rfl) ?_
    refine lb_elim h ?_; clear h; intro w17 hw17 h
    refine yab rfl rfl rfl (yae rfl (.p (congrArg (fun z => PV.v (Value.int .u64 z)) hw17))) ?_
    refine yaf (yah (yad ?_))
    refine yai h ?_; clear h; intro q22 hq22 h
    refine pwc_join (Y := (Unit) × (Int)) (fun (_, v20) => [(2, .v (.int .u64 (ishl .u64 p2 (IntKind.u64.wrap x6)))), (8, .v (.int .u64 (IntKind.u64.wrap x6))), (9, .v (.int .u64 w8)), (10, .v (.int .u64 w9)), (11, .v (.int .u64 w12)), (13, .v (.int .u64 w14)), (14, .v (.int .u64 w15)), (15, .v (.int .u64 v20))]) (fun (_, v20) => []) (fun (_, v20) => q22 = v20) ?_ ?_
    ·refine pwc_block ?_
     refine pwc_loopF (Y := Unit) (S := Int × Int) _ hq22 (fun _ (v18, v19) => [(2, .v (.int .u64 (ishl .u64 p2 (IntKind.u64.wrap x6)))), (8, .v (.int .u64 (IntKind.u64.wrap x6))), (9, .v (.int .u64 w8)), (10, .v (.int .u64 w9)), (11, .v (.int .u64 w12)), (13, .v (.int .u64 w14)), (14, .v (.int .u64 w15)), (15, .v (.int .u64 v18)), (16, .v (.int .u64 v19))]) (fun _ (v18, v19) => []) () (zhc rfl (zhc rfl (zhc rfl (zhc rfl (zhc rfl (zhc rfl (zhc rfl (zhc rfl (zhc rfl zhn))))))))) zsn ?_
     rintro _ ⟨v18, v19⟩ o τ hb21; (try dsimp only at hb21); dsimp only [pupds]
     refine yad (yad (yaa ?_))
     refine yab rfl rfl rfl (yac (p := .v (.int .u64 v18)) rfl (.p rfl)) ?_
     refine yab rfl rfl rfl (yap rfl (.p rfl) (.p rfl) rfl) ?_
     refine yab rfl rfl rfl (yac (p := .v (.bool (decide (4294967296 ≤ v18)))) rfl (.p rfl)) ?_
     refine yal (yak rfl rfl rfl) rfl rfl (yac (p := .v (.int .u64 v18)) rfl (.p rfl)) ?_
     refine yal (yak rfl rfl rfl) rfl rfl (yac (p := .v (.int .u64 w9)) rfl (.p rfl)) ?_
     refine yal (yak rfl rfl rfl) rfl rfl (yau rfl (.g rfl) (.g rfl) rfl) ?_
     refine yal (yak rfl rfl rfl) rfl rfl (yac (p := .v (.int .u64 v19)) rfl (.p rfl)) ?_
     refine yal (yak rfl rfl rfl) rfl rfl (yau rfl (.p rfl) (.g rfl) rfl) ?_
     refine yal (yak rfl rfl rfl) rfl rfl (yac (p := .v (.int .u64 w14)) rfl (.p rfl)) ?_
     refine yal (yak rfl rfl rfl) rfl rfl (yau rfl (.g rfl) (.g rfl) rfl) ?_
     refine yal (yak rfl rfl rfl) rfl rfl (yap rfl (.g rfl) (.g rfl) rfl) ?_
     refine yab rfl rfl rfl (pq_or rfl (.p rfl) (.p rfl) (.g rfl)) ?_
     refine yaf (yah ?_)
     refine yam rfl (fun hc23 => ?_) (fun hc23 => ?_)
     ·replace hb21 := yax hc23 hb21
      refine yan (yah (pwc_block (yad (yaa ?_))))
      refine yab rfl rfl rfl (yac (p := .v (.int .u64 v18)) rfl (.p rfl)) ?_
      refine yab rfl rfl rfl (yau rfl (.p rfl) (.p rfl) rfl) ?_
      refine yab rfl rfl rfl (yae (p := .v (.int .u64 (IntKind.u64.wrap (v18 - 1)))) rfl (.p rfl)) ?_
      refine yaf (yah (yad (yaa ?_)))
      refine yab rfl rfl rfl (yac (p := .v (.int .u64 v19)) rfl (.p rfl)) ?_
      refine yab rfl rfl rfl (yac (p := .v (.int .u64 w8)) rfl (.p rfl)) ?_
      refine yab rfl rfl rfl (yau rfl (.p rfl) (.p rfl) rfl) ?_
      refine yab rfl rfl rfl (yae (p := .v (.int .u64 (IntKind.u64.wrap (v19 + w8)))) rfl (.p rfl)) ?_
      refine yaf (yah (yad (yaa ?_)))
      refine yab rfl rfl rfl (yac (p := .v (.int .u64 (IntKind.u64.wrap (v19 + w8)))) rfl (.p rfl)) ?_
      refine yab rfl rfl rfl (yap rfl (.p rfl) (.p rfl) rfl) ?_
      refine yaf (yah ?_)
      refine yam rfl (fun hc24 => ?_) (fun hc24 => ?_)
      ·replace hb21 := yax hc24 hb21
       refine pwc_exit ?_
       refine pk_block_ne rfl ?_
       refine pk_loop_exit hb21 (fun ht => ?_)
       refine pk_block_eq rfl ?_
       exact pk_mid ((), (IntKind.u64.wrap (v18 - 1))) (zhc rfl (zhc rfl (zhc rfl (zhc rfl (zhc rfl (zhc rfl (zhc rfl (zhc rfl zhn)))))))) zsn ht.symm
      ·replace hb21 := yay hc24 hb21
       refine yan (pk_block_n ?_)
       exact pk_loop hb21 () (zhc rfl (zhc rfl (zhc rfl (zhc rfl (zhc rfl (zhc rfl (zhc rfl (zhc rfl (zhc rfl zhn))))))))) zsn
     ·replace hb21 := yay hc23 hb21
      refine pwc_exit (pk_seq_exit ?_)
      refine pk_loop_exit hb21 (fun ht => ?_)
      refine pk_block_eq rfl ?_
      exact pk_mid ((), v18) (zhc rfl (zhc rfl (zhc rfl (zhc rfl (zhc rfl (zhc rfl (zhc rfl (zhc rfl zhn)))))))) zsn ht.symm
    ·rintro ⟨_, v20⟩ τ hz; (try dsimp only at hz); subst q22; (try dsimp only at h); dsimp only [pupds]
     refine yad (yaa ?_)
     refine yab rfl rfl rfl (yac (p := .v (.int .u64 w12)) rfl (.p rfl)) ?_
     refine yab rfl rfl rfl (yau rfl (.p rfl) (.p rfl) rfl) ?_
     refine yab rfl rfl rfl (yac (p := .v (.int .u64 w14)) rfl (.p rfl)) ?_
     refine yab rfl rfl rfl (yau rfl (.p rfl) (.p rfl) rfl) ?_
     refine yab rfl rfl rfl (yac (p := .v (.int .u64 v20)) rfl (.p rfl)) ?_
     refine yab rfl rfl rfl (yac (p := .v (.int .u64 (ishl .u64 p2 (IntKind.u64.wrap x6)))) rfl (.p rfl)) ?_
     refine yab rfl rfl rfl (yau rfl (.p rfl) (.p rfl) rfl) ?_
     refine yab rfl rfl rfl (yau rfl (.p rfl) (.p rfl) rfl) ?_
     refine lb_elim h ?_; clear h; intro w25 hw25 h
     refine yab rfl rfl rfl (yae rfl (.p (congrArg (fun z => PV.v (Value.int .u64 z)) hw25))) ?_
     refine yaf (yah (yad (yaa ?_)))
     refine yab rfl rfl rfl (yac (p := .v (.int .u64 w25)) rfl (.p rfl)) ?_
     refine yab rfl rfl rfl (yac (p := .v (.int .u64 w8)) rfl (.p rfl)) ?_
     refine yai h ?_; clear h; intro u26 hu26 h
     refine yab rfl rfl rfl (pq_quo rfl (.p rfl) (.p rfl) (fun _ => nz_some hu26)) ?_
     refine yab rfl rfl rfl (yae (p := .v (.int .u64 (IntKind.u64.wrap (Int.tdiv w25 w8)))) rfl (.p rfl)) ?_
     refine yaf (yah (yad (yaa ?_)))
     refine yab rfl rfl rfl (yac (p := .v (.int .u64 w25)) rfl (.p rfl)) ?_
     refine yab rfl rfl rfl (yac (p := .v (.int .u64 (IntKind.u64.wrap (Int.tdiv w25 w8)))) rfl (.p rfl)) ?_
     refine yab rfl rfl rfl (yac (p := .v (.int .u64 w8)) rfl (.p rfl)) ?_
     refine yab rfl rfl rfl (yau rfl (.p rfl) (.p rfl) rfl) ?_
     refine yab rfl rfl rfl (yau rfl (.p rfl) (.p rfl) rfl) ?_
     refine lb_elim h ?_; clear h; intro w27 hw27 h
     refine yab rfl rfl rfl (yae rfl (.p (congrArg (fun z => PV.v (Value.int .u64 z)) hw27))) ?_
     refine yaf (yah (yad ?_))
     refine yai h ?_; clear h; intro q32 hq32 h
     refine pwc_join (Y := (Unit) × (Int)) (fun (_, v30) => [(2, .v (.int .u64 (ishl .u64 p2 (IntKind.u64.wrap x6)))), (8, .v (.int .u64 (IntKind.u64.wrap x6))), (14, .v (.int .u64 w15)), (15, .v (.int .u64 v20)), (17, .v (.int .u64 w25)), (18, .v (.int .u64 v30))]) (fun (_, v30) => []) (fun (_, v30) => q32 = v30) ?_ ?_
     ·refine pwc_block ?_
      refine pwc_loopF (Y := Unit) (S := Int × Int) _ hq32 (fun _ (v28, v29) => [(2, .v (.int .u64 (ishl .u64 p2 (IntKind.u64.wrap x6)))), (8, .v (.int .u64 (IntKind.u64.wrap x6))), (9, .v (.int .u64 w8)), (10, .v (.int .u64 w9)), (14, .v (.int .u64 w15)), (15, .v (.int .u64 v20)), (16, .v (.int .u64 v28)), (17, .v (.int .u64 w25)), (18, .v (.int .u64 v29))]) (fun _ (v28, v29) => []) () (zhc rfl (zhc rfl (zhc rfl (zhc rfl (zhc rfl (zhc rfl (zhc rfl (zhc rfl (zhc rfl zhn))))))))) zsn ?_
      rintro _ ⟨v28, v29⟩ o τ hb31; (try dsimp only at hb31); dsimp only [pupds]
      refine yad (yad (yaa ?_))
      refine yab rfl rfl rfl (yac (p := .v (.int .u64 v29)) rfl (.p rfl)) ?_
      refine yab rfl rfl rfl (yap rfl (.p rfl) (.p rfl) rfl) ?_
      refine yab rfl rfl rfl (yac (p := .v (.bool (decide (4294967296 ≤ v29)))) rfl (.p rfl)) ?_
      refine yal (yak rfl rfl rfl) rfl rfl (yac (p := .v (.int .u64 v29)) rfl (.p rfl)) ?_
      refine yal (yak rfl rfl rfl) rfl rfl (yac (p := .v (.int .u64 w9)) rfl (.p rfl)) ?_
      refine yal (yak rfl rfl rfl) rfl rfl (yau rfl (.g rfl) (.g rfl) rfl) ?_
      refine yal (yak rfl rfl rfl) rfl rfl (yac (p := .v (.int .u64 v28)) rfl (.p rfl)) ?_
      refine yal (yak rfl rfl rfl) rfl rfl (yau rfl (.p rfl) (.g rfl) rfl) ?_
      refine yal (yak rfl rfl rfl) rfl rfl (yac (p := .v (.int .u64 w15)) rfl (.p rfl)) ?_
      refine yal (yak rfl rfl rfl) rfl rfl (yau rfl (.g rfl) (.g rfl) rfl) ?_
      refine yal (yak rfl rfl rfl) rfl rfl (yap rfl (.g rfl) (.g rfl) rfl) ?_
      refine yab rfl rfl rfl (pq_or rfl (.p rfl) (.p rfl) (.g rfl)) ?_
      refine yaf (yah ?_)
      refine yam rfl (fun hc33 => ?_) (fun hc33 => ?_)
      ·replace hb31 := yax hc33 hb31
       refine yan (yah (pwc_block (yad (yaa ?_))))
       refine yab rfl rfl rfl (yac (p := .v (.int .u64 v29)) rfl (.p rfl)) ?_
       refine yab rfl rfl rfl (yau rfl (.p rfl) (.p rfl) rfl) ?_
       refine yab rfl rfl rfl (yae (p := .v (.int .u64 (IntKind.u64.wrap (v29 - 1)))) rfl (.p rfl)) ?_
       refine yaf (yah (yad (yaa ?_)))
       refine yab rfl rfl rfl (yac (p := .v (.int .u64 v28)) rfl (.p rfl)) ?_
       refine yab rfl rfl rfl (yac (p := .v (.int .u64 w8)) rfl (.p rfl)) ?_
       refine yab rfl rfl rfl (yau rfl (.p rfl) (.p rfl) rfl) ?_
       refine yab rfl rfl rfl (yae (p := .v (.int .u64 (IntKind.u64.wrap (v28 + w8)))) rfl (.p rfl)) ?_
       refine yaf (yah (yad (yaa ?_)))
       refine yab rfl rfl rfl (yac (p := .v (.int .u64 (IntKind.u64.wrap (v28 + w8)))) rfl (.p rfl)) ?_
       refine yab rfl rfl rfl (yap rfl (.p rfl) (.p rfl) rfl) ?_
       refine yaf (yah ?_)
       refine yam rfl (fun hc34 => ?_) (fun hc34 => ?_)
       ·replace hb31 := yax hc34 hb31
        refine pwc_exit ?_
        refine pk_block_ne rfl ?_
        refine pk_loop_exit hb31 (fun ht => ?_)
        refine pk_block_eq rfl ?_
        exact pk_mid ((), (IntKind.u64.wrap (v29 - 1))) (zhc rfl (zhc rfl (zhc rfl (zhc rfl (zhc rfl (zhc rfl zhn)))))) zsn ht.symm
       ·replace hb31 := yay hc34 hb31
        refine yan (pk_block_n ?_)
        exact pk_loop hb31 () (zhc rfl (zhc rfl (zhc rfl (zhc rfl (zhc rfl (zhc rfl (zhc rfl (zhc rfl (zhc rfl zhn))))))))) zsn
      ·replace hb31 := yay hc33 hb31
       refine pwc_exit (pk_seq_exit ?_)
       refine pk_loop_exit hb31 (fun ht => ?_)
       refine pk_block_eq rfl ?_
       exact pk_mid ((), v29) (zhc rfl (zhc rfl (zhc rfl (zhc rfl (zhc rfl (zhc rfl zhn)))))) zsn ht.symm
     ·rintro ⟨_, v30⟩ τ hz; (try dsimp only at hz); subst q32; (try dsimp only at h); dsimp only [pupds]
      refine yad (yaa ?_)
      refine yab rfl rfl rfl (yac (p := .v (.int .u64 v20)) rfl (.p rfl)) ?_
      refine yab rfl rfl rfl (yau rfl (.p rfl) (.p rfl) rfl) ?_
      refine yab rfl rfl rfl (yac (p := .v (.int .u64 v30)) rfl (.p rfl)) ?_
      refine yab rfl rfl rfl (yau rfl (.p rfl) (.p rfl) rfl) ?_
      refine yab rfl rfl rfl (yac (p := .v (.int .u64 w25)) rfl (.p rfl)) ?_
      refine yab rfl rfl rfl (yau rfl (.p rfl) (.p rfl) rfl) ?_
      refine yab rfl rfl rfl (yac (p := .v (.int .u64 w15)) rfl (.p rfl)) ?_
      refine yab rfl rfl rfl (yau rfl (.p rfl) (.p rfl) rfl) ?_
      refine yab rfl rfl rfl (yac (p := .v (.int .u64 v30)) rfl (.p rfl)) ?_
      refine yab rfl rfl rfl (yac (p := .v (.int .u64 (ishl .u64 p2 (IntKind.u64.wrap x6)))) rfl (.p rfl)) ?_
      refine yab rfl rfl rfl (yau rfl (.p rfl) (.p rfl) rfl) ?_
      refine yab rfl rfl rfl (yau rfl (.p rfl) (.p rfl) rfl) ?_
      refine yab rfl rfl rfl (yac (p := .v (.int .u64 (IntKind.u64.wrap x6))) rfl (.p rfl)) ?_
      refine yai h ?_; clear h; intro u35 hu35 h
      refine yab rfl rfl rfl (pq_shift rfl (.p rfl) (.p rfl) (fun _ => ge0_some hu35) rfl) ?_
      refine lb_elim h ?_; clear h; intro w36 hw36 h
      refine yab rfl rfl rfl (yae rfl (.p (congrArg (fun z => PV.v (Value.int .u64 z)) hw36))) ?_
      refine lb_elim h ?_; clear h; intro w37 hw37 h
      refine yab rfl rfl rfl (yae rfl (.p (congrArg (fun z => PV.v (Value.int .u64 z)) hw37))) ?_
      refine yaf (yah (yas ?_))
      obtain rfl := Option.some.inj h
      exact yat (prv_2 (yav rfl) (yav rfl)) zsn ⟨rfl, rfl⟩
def exact_Div (p0 : Texact_Wide) (p1 : Int) (p2 : Int) : Option (Int × Int) := cond (((p1 == 0) || (decide (p2 < 0))) || (decide (3 < p2))) (some (0, 2)) (cond (decide (p1 ≤ p0.Hi)) (some (0, 3)) (Option.bind (math_bits_Div64 p0.Hi p0.Lo p1) (fun x4 => Option.bind (exact_raised x4.1 x4.2 p1 p2) (fun x5 => cond (!x5) (some (x4.1, 0)) (cond (x4.1 == 18446744073709551615) (some (0, 3)) (some ((IntKind.u64.wrap (x4.1 + 1)), 0)))))))
set_option maxHeartbeats 4000000 in
theorem exact_Div_ok {p0 : Texact_Wide} {p1 : Int} {p2 : Int} {r : (Int × Int)}  (h : exact_Div p0 p1 p2 = some r) : PF 97 [.agg [.v (.int .u64 p0.Hi), .v (.int .u64 p0.Lo)], .v (.int .u64 p1), .v (.int .i64 p2)] (.tup [.v (.int .u64 r.1), .v (.int .i64 r.2)]) := by
 unfold exact_Div at h
 refine pf_of ?_
 refine penter Tryz.func97 fk97 rfl Tryz.ntmps97 Tryz.results97 rfl ?_
 refine yad (yaa ?_)
 refine pwl_l rfl rfl rfl (pl_box (cs := [.v (.int .u64 p0.Hi), .v (.int .u64 p0.Lo)]) rfl rfl (fun b1 => ?_))
 refine yab rfl rfl rfl (yae (p := .v (.int .u64 0)) rfl (.p rfl)) ?_
 refine yab rfl rfl rfl (yae (p := .v (.int .i64 0)) rfl (.p rfl)) ?_
 refine yaf (yah (yad (yad (yaa ?_))))
 refine yab rfl rfl rfl (yac (p := .v (.int .u64 p1)) rfl (.p rfl)) ?_
 refine yab rfl rfl rfl (yap rfl (.p rfl) (.p rfl) rfl) ?_
 refine yab rfl rfl rfl (yac (p := .v (.bool (p1 == 0))) rfl (.p rfl)) ?_
 refine yal (yak rfl rfl rfl) rfl rfl (yac (p := .v (.int .i64 p2)) rfl (.p rfl)) ?_
 refine yal (yak rfl rfl rfl) rfl rfl (yap rfl (.g rfl) (.p rfl) rfl) ?_
 refine yab rfl rfl rfl (pq_or rfl (.p rfl) (.p rfl) (.g rfl)) ?_
 refine yab rfl rfl rfl (yac (p := .v (.bool ((p1 == 0) || (decide (p2 < 0))))) rfl (.p rfl)) ?_
 refine yal (yak rfl rfl rfl) rfl rfl (yac (p := .v (.int .i64 p2)) rfl (.p rfl)) ?_
 refine yal (yak rfl rfl rfl) rfl rfl (yap rfl (.g rfl) (.p rfl) rfl) ?_
 refine yab rfl rfl rfl (pq_or rfl (.p rfl) (.p rfl) (.g rfl)) ?_
 refine yaf (yah ?_)
 refine yam rfl (fun hc2 => ?_) (fun hc2 => ?_)
 ·replace h := yax hc2 h
  refine yad (yaa ?_)
  refine yab rfl rfl rfl (yae (p := .v (.int .u64 0)) rfl (.p rfl)) ?_
  refine yab rfl rfl rfl (yae (p := .v (.int .i64 2)) rfl (.p rfl)) ?_
  refine yaf (yah (yas (yaq ?_)))
  obtain rfl := Option.some.inj h
  exact yat (prv_2 (yav rfl) (yav rfl)) zsn ⟨rfl, rfl⟩
 ·replace h := yay hc2 h
  refine yan (yah (yad (yad (yaa ?_))))
  refine yab rfl rfl rfl (yag rfl rfl rfl rfl rfl (.p rfl)) ?_
  refine yab rfl rfl rfl (yaj (p := .v (.int .u64 p0.Hi)) rfl (.p rfl) zm0 rfl) ?_
  refine yab rfl rfl rfl (yac (p := .v (.int .u64 p1)) rfl (.p rfl)) ?_
  refine yab rfl rfl rfl (yap rfl (.p rfl) (.p rfl) rfl) ?_
  refine yaf (yah ?_)
  refine yam rfl (fun hc3 => ?_) (fun hc3 => ?_)
  ·replace h := yax hc3 h
   refine yad (yaa ?_)
   refine yab rfl rfl rfl (yae (p := .v (.int .u64 0)) rfl (.p rfl)) ?_
   refine yab rfl rfl rfl (yae (p := .v (.int .i64 3)) rfl (.p rfl)) ?_
   refine yaf (yah (yas (yaq ?_)))
   obtain rfl := Option.some.inj h
   exact yat (prv_2 (yav rfl) (yav rfl)) zsn ⟨rfl, rfl⟩
  ·replace h := yay hc3 h
   refine yan (yah (yad (yaa ?_)))
   refine yab rfl rfl rfl (yag rfl rfl rfl rfl rfl (.p rfl)) ?_
   refine yab rfl rfl rfl (yaj (p := .v (.int .u64 p0.Hi)) rfl (.p rfl) zm0 rfl) ?_
   refine yab rfl rfl rfl (yag rfl rfl rfl rfl rfl (.p rfl)) ?_
   refine yab rfl rfl rfl (yaj (p := .v (.int .u64 p0.Lo)) rfl (.p rfl) zm0 rfl) ?_
   refine yab rfl rfl rfl (yac (p := .v (.int .u64 p1)) rfl (.p rfl)) ?_
   refine yai h ?_; clear h; intro x4 hx4 h
   refine pwl_call rfl rfl rfl rfl rfl (math_bits_Div64_ok hx4) ?_
   refine yab rfl rfl rfl (yac (p := .tup [.v (.int .u64 x4.1), .v (.int .u64 x4.2)]) rfl (.p rfl)) ?_
   refine yab rfl rfl rfl (pq_extract (p := .v (.int .u64 x4.1)) rfl (.p rfl) rfl) ?_
   refine yab rfl rfl rfl (pq_extract (p := .v (.int .u64 x4.2)) rfl (.p rfl) rfl) ?_
   refine yab rfl rfl rfl (yae (p := .v (.int .u64 x4.1)) rfl (.p rfl)) ?_
   refine yab rfl rfl rfl (yae (p := .v (.int .u64 x4.2)) rfl (.p rfl)) ?_
   refine yaf (yah (yad (yad (yaa ?_))))
   refine yab rfl rfl rfl (yac (p := .v (.int .u64 x4.1)) rfl (.p rfl)) ?_
   refine yab rfl rfl rfl (yac (p := .v (.int .u64 x4.2)) rfl (.p rfl)) ?_
   refine yab rfl rfl rfl (yac (p := .v (.int .u64 p1)) rfl (.p rfl)) ?_
   refine yab rfl rfl rfl (yac (p := .v (.int .i64 p2)) rfl (.p rfl)) ?_
   refine yai h ?_; clear h; intro x5 hx5 h
   refine pwl_call rfl rfl rfl rfl rfl (exact_raised_ok hx5) ?_
   refine yab rfl rfl rfl (pq_not rfl (.p rfl)) ?_
   refine yaf (yah ?_)
   refine yam rfl (fun hc6 => ?_) (fun hc6 => ?_)
   ·replace h := yax hc6 h
    refine yad (yaa ?_)
    refine yab rfl rfl rfl (yac (p := .v (.int .u64 x4.1)) rfl (.p rfl)) ?_
    refine yab rfl rfl rfl (yae (p := .v (.int .u64 x4.1)) rfl (.p rfl)) ?_
    refine yab rfl rfl rfl (yae (p := .v (.int .i64 0)) rfl (.p rfl)) ?_
    refine yaf (yah (yas (yaq ?_)))
    obtain rfl := Option.some.inj h
    exact yat (prv_2 (yav rfl) (yav rfl)) zsn ⟨rfl, rfl⟩
   ·replace h := yay hc6 h
    refine yan (yah (yad (yad (yaa ?_))))
    refine yab rfl rfl rfl (yac (p := .v (.int .u64 x4.1)) rfl (.p rfl)) ?_
    refine yab rfl rfl rfl (yap rfl (.p rfl) (.p rfl) rfl) ?_
    refine yaf (yah ?_)
    refine yam rfl (fun hc7 => ?_) (fun hc7 => ?_)
    ·replace h := yax hc7 h
     refine yad (yaa ?_)
     refine yab rfl rfl rfl (yae (p := .v (.int .u64 0)) rfl (.p rfl)) ?_
     refine yab rfl rfl rfl (yae (p := .v (.int .i64 3)) rfl (.p rfl)) ?_
     refine yaf (yah (yas (yaq ?_)))
     obtain rfl := Option.some.inj h
     exact yat (prv_2 (yav rfl) (yav rfl)) zsn ⟨rfl, rfl⟩
    ·replace h := yay hc7 h
     refine yan (yah (yad (yaa ?_)))
     refine yab rfl rfl rfl (yac (p := .v (.int .u64 x4.1)) rfl (.p rfl)) ?_
     refine yab rfl rfl rfl (yau rfl (.p rfl) (.p rfl) rfl) ?_
     refine yab rfl rfl rfl (yae (p := .v (.int .u64 (IntKind.u64.wrap (x4.1 + 1)))) rfl (.p rfl)) ?_
     refine yab rfl rfl rfl (yae (p := .v (.int .i64 0)) rfl (.p rfl)) ?_
     refine yaf (yah (yas ?_))
     obtain rfl := Option.some.inj h
     exact yat (prv_2 (yav rfl) (yav rfl)) zsn ⟨rfl, rfl⟩
def exact_MulDiv (p0 : Int) (p1 : Int) (p2 : Int) (p3 : Int) : Option (Int × Int) := Option.bind (exact_Mul p0 p1) (fun x1 => Option.bind (exact_Div x1 p2 p3) (fun x2 => some (x2.1, x2.2)))
set_option maxHeartbeats 4000000 in
theorem exact_MulDiv_ok {p0 : Int} {p1 : Int} {p2 : Int} {p3 : Int} {r : (Int × Int)}  (h : exact_MulDiv p0 p1 p2 p3 = some r) : PF 89 [.v (.int .u64 p0), .v (.int .u64 p1), .v (.int .u64 p2), .v (.int .i64 p3)] (.tup [.v (.int .u64 r.1), .v (.int .i64 r.2)]) := by
 unfold exact_MulDiv at h
 refine pf_of ?_
 refine penter Tryz.func89 fk89 rfl Tryz.ntmps89 Tryz.results89 rfl ?_
 refine yad (yaa ?_)
 refine yab rfl rfl rfl (yae (p := .v (.int .u64 0)) rfl (.p rfl)) ?_
 refine yab rfl rfl rfl (yae (p := .v (.int .i64 0)) rfl (.p rfl)) ?_
 refine yaf (yah (yad (yaa ?_)))
 refine yab rfl rfl rfl (yac (p := .v (.int .u64 p0)) rfl (.p rfl)) ?_
 refine yab rfl rfl rfl (yac (p := .v (.int .u64 p1)) rfl (.p rfl)) ?_
 refine yai h ?_; clear h; intro x1 hx1 h
 refine pwl_call rfl rfl rfl rfl rfl (exact_Mul_ok hx1) ?_
 refine yab rfl rfl rfl (yac (p := .v (.int .u64 p2)) rfl (.p rfl)) ?_
 refine yab rfl rfl rfl (yac (p := .v (.int .i64 p3)) rfl (.p rfl)) ?_
 refine yai h ?_; clear h; intro x2 hx2 h
 refine pwl_call rfl rfl rfl rfl rfl (exact_Div_ok hx2) ?_
 refine yab rfl rfl rfl (pq_extract (p := .v (.int .u64 x2.1)) rfl (.p rfl) rfl) ?_
 refine yab rfl rfl rfl (pq_extract (p := .v (.int .i64 x2.2)) rfl (.p rfl) rfl) ?_
 refine yab rfl rfl rfl (yae (p := .v (.int .u64 x2.1)) rfl (.p rfl)) ?_
 refine yab rfl rfl rfl (yae (p := .v (.int .i64 x2.2)) rfl (.p rfl)) ?_
 refine yaf (yah (yas ?_))
 obtain rfl := Option.some.inj h
 exact yat (prv_2 (yav rfl) (yav rfl)) zsn ⟨rfl, rfl⟩
def math_bits_Rem64 (p0 : Int) (p1 : Int) (p2 : Int) : Option Int := Option.bind (nz p2) (fun u1 => Option.bind (math_bits_Div64 (Int.tmod p0 p2) p1 p2) (fun x2 => some x2.2))
set_option maxHeartbeats 4000000 in
theorem math_bits_Rem64_ok {p0 : Int} {p1 : Int} {p2 : Int} {r : Int}  (h : math_bits_Rem64 p0 p1 p2 = some r) : PF 117 [.v (.int .u64 p0), .v (.int .u64 p1), .v (.int .u64 p2)] (.v (.int .u64 r)) := by
 unfold math_bits_Rem64 at h
 refine pf_of ?_
 refine penter Tryz.func117 fk117 rfl Tryz.ntmps117 Tryz.results117 rfl ?_
 refine yad (yaa ?_)
 refine yab rfl rfl rfl (yae (p := .v (.int .u64 0)) rfl (.p rfl)) ?_
 refine yaf (yah (yad (yaa ?_)))
 refine yab rfl rfl rfl (yac (p := .v (.int .u64 p0)) rfl (.p rfl)) ?_
 refine yab rfl rfl rfl (yac (p := .v (.int .u64 p2)) rfl (.p rfl)) ?_
 refine yai h ?_; clear h; intro u1 hu1 h
 refine yab rfl rfl rfl (pq_rem rfl (.p rfl) (.p rfl) (fun _ => nz_some hu1)) ?_
 refine yab rfl rfl rfl (yac (p := .v (.int .u64 p1)) rfl (.p rfl)) ?_
 refine yab rfl rfl rfl (yac (p := .v (.int .u64 p2)) rfl (.p rfl)) ?_
 refine yai h ?_; clear h; intro x2 hx2 h
 refine pwl_call rfl rfl rfl rfl rfl (math_bits_Div64_ok hx2) ?_
 refine yab rfl rfl rfl (yac (p := .tup [.v (.int .u64 x2.1), .v (.int .u64 x2.2)]) rfl (.p rfl)) ?_
 refine yab rfl rfl rfl (pq_extract (p := .v (.int .u64 x2.1)) rfl (.p rfl) rfl) ?_
 refine yab rfl rfl rfl (pq_extract (p := .v (.int .u64 x2.2)) rfl (.p rfl) rfl) ?_
 refine yab rfl rfl rfl (yae (p := .v (.int .u64 x2.1)) rfl (.p rfl)) ?_
 refine yab rfl rfl rfl (yae (p := .v (.int .u64 x2.2)) rfl (.p rfl)) ?_
 refine yaf (yah (yad (yaa ?_)))
 refine yab rfl rfl rfl (yac (p := .v (.int .u64 x2.2)) rfl (.p rfl)) ?_
 refine yab rfl rfl rfl (yae (p := .v (.int .u64 x2.2)) rfl (.p rfl)) ?_
 refine yaf (yah (yas ?_))
 obtain rfl := Option.some.inj h
 exact yat (prv_1 (yav rfl)) zsn ⟨rfl, rfl⟩
def exact_MulMod (p0 : Int) (p1 : Int) (p2 : Int) : Option Int := cond (p2 == 0) (some 0) (Option.bind (exact_Mul p0 p1) (fun x2 => Option.bind (math_bits_Rem64 x2.Hi x2.Lo p2) (fun x4 => some x4)))
set_option maxHeartbeats 4000000 in
theorem exact_MulMod_ok {p0 : Int} {p1 : Int} {p2 : Int} {r : Int}  (h : exact_MulMod p0 p1 p2 = some r) : PF 90 [.v (.int .u64 p0), .v (.int .u64 p1), .v (.int .u64 p2)] (.v (.int .u64 r)) := by
 unfold exact_MulMod at h
 refine pf_of ?_
 refine penter Tryz.func90 fk90 rfl Tryz.ntmps90 Tryz.results90 rfl ?_
 refine yad (yaa ?_)
 refine yab rfl rfl rfl (yae (p := .v (.int .u64 0)) rfl (.p rfl)) ?_
 refine yaf (yah (yad (yad (yaa ?_))))
 refine yab rfl rfl rfl (yac (p := .v (.int .u64 p2)) rfl (.p rfl)) ?_
 refine yab rfl rfl rfl (yap rfl (.p rfl) (.p rfl) rfl) ?_
 refine yaf (yah ?_)
 refine yam rfl (fun hc1 => ?_) (fun hc1 => ?_)
 ·replace h := yax hc1 h
  refine yad (yaa ?_)
  refine yab rfl rfl rfl (yae (p := .v (.int .u64 0)) rfl (.p rfl)) ?_
  refine yaf (yah (yas (yaq ?_)))
  obtain rfl := Option.some.inj h
  exact yat (prv_1 (yav rfl)) zsn ⟨rfl, rfl⟩
 ·replace h := yay hc1 h
  refine yan (yah (yad (yaa ?_)))
  refine yab rfl rfl rfl (yac (p := .v (.int .u64 p0)) rfl (.p rfl)) ?_
  refine yab rfl rfl rfl (yac (p := .v (.int .u64 p1)) rfl (.p rfl)) ?_
  refine yai h ?_; clear h; intro x2 hx2 h
  refine pwl_call rfl rfl rfl rfl rfl (exact_Mul_ok hx2) ?_
  refine pwl_l rfl rfl rfl (pl_alloc (cs := [.v (.int .u64 0), .v (.int .u64 0)]) rfl rfl rfl rfl (fun b3 => ?_))
  refine pwl_l0 rfl rfl (yaw (vs := [.v (.int .u64 x2.Hi), .v (.int .u64 x2.Lo)]) rfl rfl rfl rfl rfl zuh (zlc (zlc zln)) ?_)
  refine yaf (yah (yad (yaa ?_)))
  refine yab rfl rfl rfl (yag rfl rfl rfl rfl rfl (.p rfl)) ?_
  refine yab rfl rfl rfl (yaj (p := .v (.int .u64 x2.Hi)) rfl (.p rfl) zm0 rfl) ?_
  refine yab rfl rfl rfl (yag rfl rfl rfl rfl rfl (.p rfl)) ?_
  refine yab rfl rfl rfl (yaj (p := .v (.int .u64 x2.Lo)) rfl (.p rfl) zm0 rfl) ?_
  refine yab rfl rfl rfl (yac (p := .v (.int .u64 p2)) rfl (.p rfl)) ?_
  refine yai h ?_; clear h; intro x4 hx4 h
  refine pwl_call rfl rfl rfl rfl rfl (math_bits_Rem64_ok hx4) ?_
  refine yab rfl rfl rfl (yae (p := .v (.int .u64 x4)) rfl (.p rfl)) ?_
  refine yaf (yah (yas ?_))
  obtain rfl := Option.some.inj h
  exact yat (prv_1 (yav rfl)) zsn ⟨rfl, rfl⟩
def apportion_Share (p0 : Int) (p1 : (List Int)) : Option ((List Int) × Int) := Option.bind (apportion_check p0 p1) (fun x1 => cond (x1 != 0) (some ([], x1)) (Option.bind (apportion_sumOf p1) (fun x3 => Option.bind (cond (x3 == 0) (some (p1.length : Int)) (some x3)) (fun v4 => Option.bind (mk 24 (⟨(0 : Int), (0 : Int), (0 : Int)⟩ : Tapportion_portion) (p1.length : Int)) (fun l7 => Option.bind (loopF (S := Int × (List Tapportion_portion) × Int) (T := (Int × (List Tapportion_portion))) (fun (v10, l12, v13) => cond (decide (v13 < (p1.length : Int))) (Option.bind (idx p1 v13) (fun m20 => Option.bind (cond (x3 == 0) (some 1) (some m20)) (fun v22 => Option.bind (exact_MulDiv (IntKind.u64.wrap p0) (IntKind.u64.wrap v22) (IntKind.u64.wrap v4) 0) (fun x25 => Option.bind (exact_MulMod (IntKind.u64.wrap p0) (IntKind.u64.wrap v22) (IntKind.u64.wrap v4)) (fun x26 => Option.bind (idx l12 v13) (fun m27 => lb ((IntKind.i64.wrap (v10 - (IntKind.i64.wrap x25.1)))) (fun w29 => some (.inl (w29, (l12.set v13.toNat (⟨v13, x25.1, x26⟩ : Tapportion_portion)), (IntKind.i64.wrap (v13 + 1))))))))))) (some (.inr (v10, l12)))) FUEL (p0, l7, 0)) (fun (v14, l16) => Option.bind (apportion_ranking_sort (⟨()⟩ : Tapportion_ranking) l16) (fun x30 => Option.bind (mk 8 (0 : Int) (p1.length : Int)) (fun l31 => Option.bind (loopF (S := (List Int) × Int) (T := ((List Int))) (fun (l35, v36) => cond (decide (v36 < ((l7.length : Nat) : Int))) (Option.bind (Option.bind (idx x30 v36) (fun m46 => Option.bind (idx l35 m46.index_) (fun m48 => cond (decide (v36 < v14)) (Option.bind (idx (l35.set m46.index_.toNat (IntKind.i64.wrap m46.share)) m46.index_) (fun m51 => Option.bind (idx (l35.set m46.index_.toNat (IntKind.i64.wrap m46.share)) m46.index_) (fun m52 => some ((l35.set m46.index_.toNat (IntKind.i64.wrap m46.share)).set m46.index_.toNat (IntKind.i64.wrap (m51 + 1)))))) (some (l35.set m46.index_.toNat (IntKind.i64.wrap m46.share)))))) (fun l43 => some (.inl (l43, (IntKind.i64.wrap (v36 + 1)))))) (some (.inr l35))) FUEL (l31, 0)) (fun l38 => some (l38, 0))))))))))
set_option maxHeartbeats 4000000 in
theorem apportion_Share_ok {p0 : Int} {p1 : (List Int)} {r : ((List Int) × Int)}  (h : apportion_Share p0 p1 = some r) : PF 60 [.v (.int .i64 p0), .slc (List.map eI p1)] (.tup [.slc (List.map eI r.1), .v (.int .i64 r.2)]) := by
 unfold apportion_Share at h
 refine pf_of ?_
 refine penter Tryz.func60 fk60 rfl Tryz.ntmps60 Tryz.results60 rfl ?_
 refine yad (yaa ?_)
 refine yab rfl rfl rfl (yae (p := .v (.slice none 0 0)) rfl (.p rfl)) ?_
 refine yab rfl rfl rfl (yae (p := .v (.int .i64 0)) rfl (.p rfl)) ?_
 refine yaf (yah (yad (yad (yaa ?_))))
 refine yab rfl rfl rfl (yac (p := .v (.int .i64 p0)) rfl (.p rfl)) ?_
 refine yab rfl rfl rfl (yac (p := .slc (List.map eI p1)) rfl (.p rfl)) ?_
 refine yai h ?_; clear h; intro x1 hx1 h
 refine pwl_call rfl rfl rfl rfl rfl (apportion_check_ok hx1) ?_
 refine yab rfl rfl rfl (yae (p := .v (.int .i64 x1)) rfl (.p rfl)) ?_
 refine yaf (yah (yad (yaa ?_)))
 refine yab rfl rfl rfl (yac (p := .v (.int .i64 x1)) rfl (.p rfl)) ?_
 refine yab rfl rfl rfl (yap rfl (.p rfl) (.p rfl) rfl) ?_
 refine yaf (yah ?_)
 refine yam rfl (fun hc2 => ?_) (fun hc2 => ?_)
 ·replace h := yax hc2 h
  refine yad (yaa ?_)
  refine yab rfl rfl rfl (yac (p := .v (.int .i64 x1)) rfl (.p rfl)) ?_
  refine yab rfl rfl rfl (yae (p := .v (.slice none 0 0)) rfl (.p rfl)) ?_
  refine yab rfl rfl rfl (yae (p := .v (.int .i64 x1)) rfl (.p rfl)) ?_
  refine yaf (yah ?_)
  refine pwc_nil 4 rfl ?_
  refine yas (yaq ?_)
  obtain rfl := Option.some.inj h
  exact yat (prv_2 (yav rfl) (yav rfl)) zsn ⟨rfl, rfl⟩
 ·replace h := yay hc2 h
  refine yan (yah (yad (yaa ?_)))
  refine yab rfl rfl rfl (yac (p := .slc (List.map eI p1)) rfl (.p rfl)) ?_
  refine yai h ?_; clear h; intro x3 hx3 h
  refine pwl_call rfl rfl rfl rfl rfl (apportion_sumOf_ok hx3) ?_
  refine yab rfl rfl rfl (yae (p := .v (.int .i64 x3)) rfl (.p rfl)) ?_
  refine yaf (yah (yad (yaa ?_)))
  refine yab rfl rfl rfl (yac (p := .v (.int .i64 x3)) rfl (.p rfl)) ?_
  refine yab rfl rfl rfl (yap rfl (.p rfl) (.p rfl) rfl) ?_
  refine yab rfl rfl rfl (yae (p := .v (.bool (x3 == 0))) rfl (.p rfl)) ?_
  refine yaf (yah (yad (yad (yaa ?_))))
  refine yab rfl rfl rfl (yac (p := .v (.bool (x3 == 0))) rfl (.p rfl)) ?_
  refine yaf (yah ?_)
  refine yai h ?_; clear h; intro q5 hq5 h
  refine pwc_join (Y := (Unit) × (Int)) (fun (_, v4) => [(0, .v (.int .i64 p0)), (1, .slc (List.map eI p1)), (7, .v (.int .i64 v4)), (8, .v (.bool (x3 == 0)))]) (fun (_, v4) => []) (fun (_, v4) => q5 = v4) ?_ ?_
  ·skip
   refine yam rfl (fun hc6 => ?_) (fun hc6 => ?_)
   ·replace hq5 := yax hc6 hq5
    refine yaa ?_
    refine yab rfl rfl rfl (yac (p := .slc (List.map eI p1)) rfl (.p rfl)) ?_
    refine yab rfl rfl rfl (pq_lenT (enc := eI) rfl rfl (.p rfl)) ?_
    refine yab rfl rfl rfl (yae (p := .v (.int .i64 (p1.length : Int))) rfl (.p rfl)) ?_
    refine yaf ?_
    obtain rfl := Option.some.inj hq5
    exact pk_mid ((), (p1.length : Int)) (zhc rfl (zhc rfl (zhc rfl (zhc rfl zhn)))) zsn rfl
   ·replace hq5 := yay hc6 hq5
    refine yan ?_
    obtain rfl := Option.some.inj hq5
    exact pk_mid ((), x3) (zhc rfl (zhc rfl (zhc rfl (zhc rfl zhn)))) zsn rfl
  ·rintro ⟨_, v4⟩ τ hz; (try dsimp only at hz); subst q5; (try dsimp only at h); dsimp only [pupds]
   refine yad (yaa ?_)
   refine yab rfl rfl rfl (yac (p := .v (.int .i64 p0)) rfl (.p rfl)) ?_
   refine yab rfl rfl rfl (yae (p := .v (.int .i64 p0)) rfl (.p rfl)) ?_
   refine yaf (yah (yad (yaa ?_)))
   refine yab rfl rfl rfl (yac (p := .slc (List.map eI p1)) rfl (.p rfl)) ?_
   refine yab rfl rfl rfl (pq_lenT (enc := eI) rfl rfl (.p rfl)) ?_
   refine yai h ?_; clear h; intro l7 hl7 h
   refine pwl_l rfl rfl rfl (pl_make (enc := Tapportion_portion.enc) rfl rfl rfl rfl rfl rfl rfl rfl rfl hl7 (fun b8 => ?_))
   refine yab rfl rfl rfl (yae (p := .v (.slice (some ⟨b8, 0, none⟩) l7.length l7.length)) rfl (.p rfl)) ?_
   refine yaf (yah (yad (yad (yaa ?_))))
   refine yab rfl rfl rfl (yac (p := .slc (List.map eI p1)) rfl (.p rfl)) ?_
   refine yab rfl rfl rfl (pq_lenT (enc := eI) rfl rfl (.p rfl)) ?_
   refine yab rfl rfl rfl (yac (p := .v (.int .i64 0)) rfl (.p rfl)) ?_
   refine yaf (yah ?_)
   refine yai h ?_; clear h; intro q18 hq18 h
   refine pwc_join (Y := (Unit) × (Int × (List Tapportion_portion))) (fun (_, (v14, l16)) => [(1, .slc (List.map eI p1)), (9, .v (.int .i64 v14)), (10, .v (.slice (some ⟨b8, 0, none⟩) l7.length l7.length))]) (fun (_, (v14, l16)) => [PRes.row (some ⟨b8, 0, none⟩) l7.length l7.length 144 3 (List.map Tapportion_portion.enc l16)]) (fun (_, (v14, l16)) => q18 = (v14, l16)) ?_ ?_
   ·refine pwc_block ?_
    refine pwc_loopF (Y := Unit) (S := Int × (List Tapportion_portion) × Int) _ hq18 (fun _ (v10, l12, v13) => [(0, .v (.int .i64 p0)), (1, .slc (List.map eI p1)), (7, .v (.int .i64 v4)), (8, .v (.bool (x3 == 0))), (9, .v (.int .i64 v10)), (10, .v (.slice (some ⟨b8, 0, none⟩) l7.length l7.length)), (36, .slc (List.map eI p1)), (37, .v (.int .i64 (p1.length : Int))), (38, .v (.int .i64 v13))]) (fun _ (v10, l12, v13) => [PRes.row (some ⟨b8, 0, none⟩) l7.length l7.length 144 3 (List.map Tapportion_portion.enc l12)]) () (zhc rfl (zhc rfl (zhc rfl (zhc rfl (zhc rfl (zhc rfl (zhc rfl (zhc rfl (zhc rfl zhn))))))))) (zsc zph zsn) ?_
    rintro _ ⟨v10, l12, v13⟩ o τ hb17; (try dsimp only at hb17); dsimp only [pupds]
    refine yad (yaa ?_)
    refine yab rfl rfl rfl (yap rfl (.p rfl) (.p rfl) rfl) ?_
    refine yaf (yah (yad ?_))
    refine yam rfl (fun hc19 => ?_) (fun hc19 => ?_)
    ·replace hb17 := yax hc19 hb17
     refine yan (yah (yad (pwc_block (yad (yaa ?_)))))
     refine yab rfl rfl rfl (yac (p := .v (.int .i64 v13)) rfl (.p rfl)) ?_
     refine yai hb17 ?_; clear hb17; intro m20 hm20 hb17
     refine yab rfl rfl rfl (pq_index (enc := eI) rfl rfl rfl (fun _ => rfl) (.p rfl) (.p rfl) (fun _ => hm20)) ?_
     refine yab rfl rfl rfl (pq_load_r (p := .v (.int .i64 m20)) rfl (.p rfl) rfl) ?_
     refine yab rfl rfl rfl (yae (p := .v (.int .i64 v13)) rfl (.p rfl)) ?_
     refine yab rfl rfl rfl (yae (p := .v (.int .i64 m20)) rfl (.p rfl)) ?_
     refine yaf (yah (yad (yad (yaa ?_))))
     refine yab rfl rfl rfl (yac (p := .v (.bool (x3 == 0))) rfl (.p rfl)) ?_
     refine yaf (yah ?_)
     refine yai hb17 ?_; clear hb17; intro q23 hq23 hb17
     refine pwc_join (Y := (Unit) × (Int)) (fun (_, v22) => [(0, .v (.int .i64 p0)), (1, .slc (List.map eI p1)), (7, .v (.int .i64 v4)), (8, .v (.bool (x3 == 0))), (9, .v (.int .i64 v10)), (10, .v (.slice (some ⟨b8, 0, none⟩) l7.length l7.length)), (11, .v (.int .i64 v13)), (12, .v (.int .i64 v22)), (36, .slc (List.map eI p1)), (37, .v (.int .i64 (p1.length : Int))), (38, .v (.int .i64 v13))]) (fun (_, v22) => [PRes.row (some ⟨b8, 0, none⟩) l7.length l7.length 144 3 (List.map Tapportion_portion.enc l12)]) (fun (_, v22) => q23 = v22) ?_ ?_
     ·skip
      refine yam rfl (fun hc24 => ?_) (fun hc24 => ?_)
      ·replace hq23 := yax hc24 hq23
       refine yaa ?_
       refine yab rfl rfl rfl (yae (p := .v (.int .i64 1)) rfl (.p rfl)) ?_
       refine yaf ?_
       obtain rfl := Option.some.inj hq23
       exact pk_mid ((), 1) (zhc rfl (zhc rfl (zhc rfl (zhc rfl (zhc rfl (zhc rfl (zhc rfl (zhc rfl (zhc rfl (zhc rfl (zhc rfl zhn))))))))))) (zsc zph zsn) rfl
      ·replace hq23 := yay hc24 hq23
       refine yan ?_
       obtain rfl := Option.some.inj hq23
       exact pk_mid ((), m20) (zhc rfl (zhc rfl (zhc rfl (zhc rfl (zhc rfl (zhc rfl (zhc rfl (zhc rfl (zhc rfl (zhc rfl (zhc rfl zhn))))))))))) (zsc zph zsn) rfl
     ·rintro ⟨_, v22⟩ τ hz; (try dsimp only at hz); subst q23; (try dsimp only at hb17); dsimp only [pupds]
      refine yad (yaa ?_)
      refine yab rfl rfl rfl (yac (p := .v (.int .i64 p0)) rfl (.p rfl)) ?_
      refine yab rfl rfl rfl (pq_conv rfl rfl rfl (.p rfl)) ?_
      refine yab rfl rfl rfl (yac (p := .v (.int .i64 v22)) rfl (.p rfl)) ?_
      refine yab rfl rfl rfl (pq_conv rfl rfl rfl (.p rfl)) ?_
      refine yab rfl rfl rfl (yac (p := .v (.int .i64 v4)) rfl (.p rfl)) ?_
      refine yab rfl rfl rfl (pq_conv rfl rfl rfl (.p rfl)) ?_
      refine yai hb17 ?_; clear hb17; intro x25 hx25 hb17
      refine pwl_call rfl rfl rfl rfl rfl (exact_MulDiv_ok hx25) ?_
      refine yab rfl rfl rfl (yac (p := .tup [.v (.int .u64 x25.1), .v (.int .i64 x25.2)]) rfl (.p rfl)) ?_
      refine yab rfl rfl rfl (pq_extract (p := .v (.int .u64 x25.1)) rfl (.p rfl) rfl) ?_
      refine yab rfl rfl rfl (pq_extract (p := .v (.int .i64 x25.2)) rfl (.p rfl) rfl) ?_
      refine yab rfl rfl rfl (yae (p := .v (.int .u64 x25.1)) rfl (.p rfl)) ?_
      refine yab rfl rfl rfl (yae (p := .v (.int .i64 x25.2)) rfl (.p rfl)) ?_
      refine yaf (yah (yad (yaa ?_)))
      refine yab rfl rfl rfl (yac (p := .v (.int .i64 p0)) rfl (.p rfl)) ?_
      refine yab rfl rfl rfl (pq_conv rfl rfl rfl (.p rfl)) ?_
      refine yab rfl rfl rfl (yac (p := .v (.int .i64 v22)) rfl (.p rfl)) ?_
      refine yab rfl rfl rfl (pq_conv rfl rfl rfl (.p rfl)) ?_
      refine yab rfl rfl rfl (yac (p := .v (.int .i64 v4)) rfl (.p rfl)) ?_
      refine yab rfl rfl rfl (pq_conv rfl rfl rfl (.p rfl)) ?_
      refine yai hb17 ?_; clear hb17; intro x26 hx26 hb17
      refine pwl_call rfl rfl rfl rfl rfl (exact_MulMod_ok hx26) ?_
      refine yab rfl rfl rfl (yae (p := .v (.int .u64 x26)) rfl (.p rfl)) ?_
      refine yaf (yah (yad (yaa ?_)))
      refine yab rfl rfl rfl (yac (p := .v (.slice (some ⟨b8, 0, none⟩) l7.length l7.length)) rfl (.p rfl)) ?_
      refine yab rfl rfl rfl (yac (p := .v (.int .i64 v13)) rfl (.p rfl)) ?_
      refine yab rfl rfl rfl (yac (p := .v (.int .i64 v13)) rfl (.p rfl)) ?_
      refine yab rfl rfl rfl (yac (p := .v (.int .u64 x25.1)) rfl (.p rfl)) ?_
      refine yab rfl rfl rfl (yac (p := .v (.int .u64 x26)) rfl (.p rfl)) ?_
      refine yab rfl rfl rfl (pq_build (cs := [.v (.int .i64 v13), .v (.int .u64 x25.1), .v (.int .u64 x26)]) rfl rfl rfl rfl rfl rfl rfl (zfc rfl rfl rfl rfl (zlc zln) (zfc rfl rfl rfl rfl (zlt (zlc zln)) (zfc rfl rfl rfl rfl (zlt (zlt (zlc zln))) zfn)))) ?_
      refine yai hb17 ?_; clear hb17; intro m27 hm27 hb17
      refine yab rfl rfl rfl (pq_indexO (enc := Tapportion_portion.enc) (xs := l12) rfl rfl rfl (.p rfl) zm0 (.p rfl) (fun _ => hm27)) ?_
      refine pwl_l0 rfl rfl (pl_store_o (enc := Tapportion_portion.enc) (xs := l12) (a := (some ⟨b8, 0, none⟩)) v13 0 m27 (⟨v13, x25.1, x26⟩ : Tapportion_portion) rfl rfl rfl rfl (fun _ => rfl) rfl rfl hm27 (zlc (zlc (zlc zln))) zuh ?_)
      refine yaf (yah (yaa ?_))
      refine yab rfl rfl rfl (yac (p := .v (.int .i64 v10)) rfl (.p rfl)) ?_
      refine yab rfl rfl rfl (yac (p := .v (.int .u64 x25.1)) rfl (.p rfl)) ?_
      refine yab rfl rfl rfl (pq_conv rfl rfl rfl (.p rfl)) ?_
      refine yab rfl rfl rfl (yau rfl (.p rfl) (.p rfl) rfl) ?_
      refine lb_elim hb17 ?_; clear hb17; intro w29 hw29 hb17
      refine yab rfl rfl rfl (yae rfl (.p (congrArg (fun z => PV.v (Value.int .i64 z)) hw29))) ?_
      refine yaf (pk_block_n (yah (yaa ?_)))
      refine yab rfl rfl rfl (yau rfl (.p rfl) (.p rfl) rfl) ?_
      refine yab rfl rfl rfl (yac (p := .v (.int .i64 (IntKind.i64.wrap (v13 + 1)))) rfl (.p rfl)) ?_
      refine yaf ?_
      exact pk_loop hb17 () (zhc rfl (zhc rfl (zhc rfl (zhc rfl (zhc rfl (zhc rfl (zhc rfl (zhc rfl (zhc rfl zhn))))))))) (zsc zph zsn)
    ·replace hb17 := yay hc19 hb17
     refine pwc_exit (pk_seq_exit ?_)
     refine pk_loop_exit hb17 (fun ht => ?_)
     refine pk_block_eq rfl ?_
     exact pk_mid ((), (v10, l12)) (zhc rfl (zhc rfl (zhc rfl zhn))) (zsc zph zsn) ht.symm
   ·rintro ⟨_, ⟨v14, l16⟩⟩ τ hz; (try dsimp only at hz); subst q18; (try dsimp only at h); dsimp only [pupds]
    refine yad (yaa ?_)
    refine yab rfl rfl rfl (pq_build (cs := [.fn 91 []]) rfl rfl rfl rfl rfl rfl rfl (zfc rfl rfl rfl rfl (zlc zln) zfn)) ?_
    refine yab rfl rfl rfl (yac (p := .v (.slice (some ⟨b8, 0, none⟩) l7.length l7.length)) rfl (.p rfl)) ?_
    refine yai h ?_; clear h; intro x30 hx30 h
    refine pwl_l rfl rfl rfl (pl_callR rfl rfl (ρ1 := [_]) (yba (by exact zph) (List.Perm.refl _)) (apportion_ranking_sort_ok hx30) ?_); rintro _ _ ⟨rfl, rfl⟩
    refine yaf (yah (yad (yaa ?_)))
    refine yab rfl rfl rfl (yac (p := .slc (List.map eI p1)) rfl (.p rfl)) ?_
    refine yab rfl rfl rfl (pq_lenT (enc := eI) rfl rfl (.p rfl)) ?_
    refine yai h ?_; clear h; intro l31 hl31 h
    refine pwl_l rfl rfl rfl (pl_make (enc := eI) rfl rfl rfl rfl rfl rfl rfl rfl rfl hl31 (fun b32 => ?_))
    refine yab rfl rfl rfl (yae (p := .v (.slice (some ⟨b32, 0, none⟩) l31.length l31.length)) rfl (.p rfl)) ?_
    refine yaf (yah (yad (yad (yaa ?_))))
    refine yab rfl rfl rfl (yac (p := .v (.slice (some ⟨b8, 0, none⟩) l7.length l7.length)) rfl (.p rfl)) ?_
    refine yab rfl rfl rfl (pq_lenO rfl rfl (.p rfl)) ?_
    refine yab rfl rfl rfl (yac (p := .v (.int .i64 0)) rfl (.p rfl)) ?_
    refine yaf (yah ?_)
    refine yai h ?_; clear h; intro q40 hq40 h
    refine pwc_join (Y := (Unit) × ((List Int))) (fun (_, l38) => [(16, .v (.slice (some ⟨b32, 0, none⟩) l31.length l31.length))]) (fun (_, l38) => [PRes.row (some ⟨b32, 0, none⟩) l31.length l31.length 3 1 (List.map eI l38)]) (fun (_, l38) => q40 = l38) ?_ ?_
    ·refine pwc_block ?_
     refine pwc_loopF (Y := Unit) (S := (List Int) × Int) _ hq40 (fun _ (l35, v36) => [(9, .v (.int .i64 v14)), (16, .v (.slice (some ⟨b32, 0, none⟩) l31.length l31.length)), (79, .v (.slice (some ⟨b8, 0, none⟩) l7.length l7.length)), (80, .v (.int .i64 ((l7.length : Nat) : Int))), (81, .v (.int .i64 v36))]) (fun _ (l35, v36) => [PRes.row (some ⟨b8, 0, none⟩) l7.length l7.length 144 3 (List.map Tapportion_portion.enc x30), PRes.row (some ⟨b32, 0, none⟩) l31.length l31.length 3 1 (List.map eI l35)]) () (zhc rfl (zhc rfl (zhc rfl (zhc rfl (zhc rfl zhn))))) (zsc (zpt zph) (zsc zph zsn)) ?_
     rintro _ ⟨l35, v36⟩ o τ hb39; (try dsimp only at hb39); dsimp only [pupds]
     refine yad (yaa ?_)
     refine yab rfl rfl rfl (yap rfl (.p rfl) (.p rfl) rfl) ?_
     refine yaf (yah (yad ?_))
     refine yam rfl (fun hc41 => ?_) (fun hc41 => ?_)
     ·replace hb39 := yax hc41 hb39
      refine yan (yah (yad ?_))
      refine yai hb39 ?_; clear hb39; intro q45 hq45 hb39
      refine pwc_join (Y := (Unit) × ((List Int))) (fun (_, l43) => [(9, .v (.int .i64 v14)), (16, .v (.slice (some ⟨b32, 0, none⟩) l31.length l31.length)), (79, .v (.slice (some ⟨b8, 0, none⟩) l7.length l7.length)), (80, .v (.int .i64 ((l7.length : Nat) : Int))), (81, .v (.int .i64 v36))]) (fun (_, l43) => [PRes.row (some ⟨b32, 0, none⟩) l31.length l31.length 3 1 (List.map eI l43), PRes.row (some ⟨b8, 0, none⟩) l7.length l7.length 144 3 (List.map Tapportion_portion.enc x30)]) (fun (_, l43) => q45 = l43) ?_ ?_
      ·skip
       refine pwc_block (yad (yaa ?_))
       refine yab rfl rfl rfl (yac (p := .v (.int .i64 v36)) rfl (.p rfl)) ?_
       refine yai hq45 ?_; clear hq45; intro m46 hm46 hq45
       refine yab rfl rfl rfl (pq_indexO (enc := Tapportion_portion.enc) (xs := x30) rfl rfl rfl (.p rfl) zm0 (.p rfl) (fun _ => hm46)) ?_
       refine yab rfl rfl rfl (pq_load_o (p := .agg [.v (.int .i64 m46.index_), .v (.int .u64 m46.share), .v (.int .u64 m46.rest)]) (enc := Tapportion_portion.enc) (xs := x30) (a := (some ⟨b8, 0, none⟩)) v36 0 m46 rfl (.p rfl) rfl zm0 (fun _ => hm46) rfl) ?_
       refine pwl_l rfl rfl rfl (pl_alloc (cs := [.v (.int .i64 0), .v (.int .u64 0), .v (.int .u64 0)]) rfl rfl rfl rfl (fun b47 => ?_))
       refine yab rfl rfl rfl (yae (p := .v (.int .i64 v36)) rfl (.p rfl)) ?_
       refine pwl_l0 rfl rfl (yaw (vs := [.v (.int .i64 m46.index_), .v (.int .u64 m46.share), .v (.int .u64 m46.rest)]) rfl rfl rfl rfl rfl zuh (zlc (zlc (zlc zln))) ?_)
       refine yaf (yah (yad (yaa ?_)))
       refine yab rfl rfl rfl (yac (p := .v (.slice (some ⟨b32, 0, none⟩) l31.length l31.length)) rfl (.p rfl)) ?_
       refine yab rfl rfl rfl (yag rfl rfl rfl rfl rfl (.p rfl)) ?_
       refine yab rfl rfl rfl (yaj (p := .v (.int .i64 m46.index_)) rfl (.p rfl) zm0 rfl) ?_
       refine yab rfl rfl rfl (yag rfl rfl rfl rfl rfl (.p rfl)) ?_
       refine yab rfl rfl rfl (yaj (p := .v (.int .u64 m46.share)) rfl (.p rfl) zm0 rfl) ?_
       refine yab rfl rfl rfl (pq_conv rfl rfl rfl (.p rfl)) ?_
       refine yai hq45 ?_; clear hq45; intro m48 hm48 hq45
       refine yab rfl rfl rfl (pq_indexO (enc := eI) (xs := l35) rfl rfl rfl (.p rfl) zm2 (.p rfl) (fun _ => hm48)) ?_
       refine pwl_l0 rfl rfl (pl_store_o (enc := eI) (xs := l35) (a := (some ⟨b32, 0, none⟩)) m46.index_ 0 m48 (IntKind.i64.wrap m46.share) rfl rfl rfl rfl (fun _ => rfl) rfl rfl hm48 (zlc zln) (zut (zut zuh)) ?_)
       refine yaf (yah (yad (yaa ?_)))
       refine yab rfl rfl rfl (yac (p := .v (.int .i64 v36)) rfl (.p rfl)) ?_
       refine yab rfl rfl rfl (yac (p := .v (.int .i64 v14)) rfl (.p rfl)) ?_
       refine yab rfl rfl rfl (yap rfl (.p rfl) (.p rfl) rfl) ?_
       refine yaf (yah ?_)
       refine yam rfl (fun hc50 => ?_) (fun hc50 => ?_)
       ·replace hq45 := yax hc50 hq45
        refine yaa ?_
        refine yab rfl rfl rfl (yac (p := .v (.slice (some ⟨b32, 0, none⟩) l31.length l31.length)) rfl (.p rfl)) ?_
        refine yab rfl rfl rfl (yag rfl rfl rfl rfl rfl (.p rfl)) ?_
        refine yab rfl rfl rfl (yaj (p := .v (.int .i64 m46.index_)) rfl (.p rfl) zm0 rfl) ?_
        refine yai hq45 ?_; clear hq45; intro m51 hm51 hq45
        refine yab rfl rfl rfl (pq_indexO (enc := eI) (xs := (l35.set m46.index_.toNat (IntKind.i64.wrap m46.share))) rfl rfl rfl (.p rfl) zm2 (.p rfl) (fun _ => hm51)) ?_
        refine yab rfl rfl rfl (pq_load_o (p := .v (.int .i64 m51)) (enc := eI) (xs := (l35.set m46.index_.toNat (IntKind.i64.wrap m46.share))) (a := (some ⟨b32, 0, none⟩)) m46.index_ 0 m51 rfl (.p rfl) rfl zm2 (fun _ => hm51) rfl) ?_
        refine yab rfl rfl rfl (yau rfl (.p rfl) (.p rfl) rfl) ?_
        refine yai hq45 ?_; clear hq45; intro m52 hm52 hq45
        refine yab rfl rfl rfl (pq_indexO (enc := eI) (xs := (l35.set m46.index_.toNat (IntKind.i64.wrap m46.share))) rfl rfl rfl (.p rfl) zm2 (.p rfl) (fun _ => hm52)) ?_
        refine pwl_l0 rfl rfl (pl_store_o (enc := eI) (xs := (l35.set m46.index_.toNat (IntKind.i64.wrap m46.share))) (a := (some ⟨b32, 0, none⟩)) m46.index_ 0 m52 (IntKind.i64.wrap (m51 + 1)) rfl rfl rfl rfl (fun _ => rfl) rfl rfl hm52 (zlc zln) (zut (zut zuh)) ?_)
        refine yaf (pk_block_n ?_)
        obtain rfl := Option.some.inj hq45
        exact pk_mid ((), ((l35.set m46.index_.toNat (IntKind.i64.wrap m46.share)).set m46.index_.toNat (IntKind.i64.wrap (m51 + 1)))) (zhc rfl (zhc rfl (zhc rfl (zhc rfl (zhc rfl zhn))))) (zsc (zpt (zpt zph)) (zsc (zpt zph) zsn)) rfl
       ·replace hq45 := yay hc50 hq45
        refine yan (pk_block_n ?_)
        obtain rfl := Option.some.inj hq45
        exact pk_mid ((), (l35.set m46.index_.toNat (IntKind.i64.wrap m46.share))) (zhc rfl (zhc rfl (zhc rfl (zhc rfl (zhc rfl zhn))))) (zsc (zpt (zpt zph)) (zsc (zpt zph) zsn)) rfl
      ·rintro ⟨_, l43⟩ τ hz; (try dsimp only at hz); subst q45; (try dsimp only at hb39); dsimp only [pupds]
       refine yaa ?_
       refine yab rfl rfl rfl (yau rfl (.p rfl) (.p rfl) rfl) ?_
       refine yab rfl rfl rfl (yac (p := .v (.int .i64 (IntKind.i64.wrap (v36 + 1)))) rfl (.p rfl)) ?_
       refine yaf ?_
       exact pk_loop hb39 () (zhc rfl (zhc rfl (zhc rfl (zhc rfl (zhc rfl zhn))))) (zsc (zpt zph) (zsc zph zsn))
     ·replace hb39 := yay hc41 hb39
      refine pwc_exit (pk_seq_exit ?_)
      refine pk_loop_exit hb39 (fun ht => ?_)
      refine pk_block_eq rfl ?_
      exact pk_mid ((), l35) (zhc rfl zhn) (zsc (zpt zph) zsn) ht.symm
    ·rintro ⟨_, l38⟩ τ hz; (try dsimp only at hz); subst q40; (try dsimp only at h); dsimp only [pupds]
     refine yad (yaa ?_)
     refine yab rfl rfl rfl (yac (p := .v (.slice (some ⟨b32, 0, none⟩) l31.length l31.length)) rfl (.p rfl)) ?_
     refine yab rfl rfl rfl (yae (p := .v (.slice (some ⟨b32, 0, none⟩) l31.length l31.length)) rfl (.p rfl)) ?_
     refine yab rfl rfl rfl (yae (p := .v (.int .i64 0)) rfl (.p rfl)) ?_
     refine yaf (yah ?_)
     refine pwc_frzt (css := List.map eI l38) 4 rfl (by exact zph) ?_
     refine yas ?_
     obtain rfl := Option.some.inj h
     exact yat (prv_2 (yav rfl) (yav rfl)) zsn ⟨rfl, rfl⟩
def assess_partsOf (p0 : TItem) : Option ((List Tassess_part) × Int) := Option.bind (α := ((List Int)) ⊕ _) (cond (decide (0 < p0.Quantity)) (Option.bind (apportion_Share p0.Value [p0.Granted, (IntKind.i64.wrap (p0.Quantity - p0.Granted))]) (fun x9 => cond (x9.2 != 0) (some (.inr ([], x9.2))) (some (.inl x9.1)))) (some (.inl [0, p0.Value]))) (fun q => match q with | .inl l4 => Option.bind (cond p0.Proof (Option.bind (app 8 [1, 2] [3]) (fun l21 => some l21)) (some [1, 2])) (fun l16 => Option.bind (cond (decide (0 < p0.Granted)) (Option.bind (idx l4 0) (fun m32 => Option.bind (slices_Clone_int_int l16) (fun x33 => Option.bind (app 8 x33 [4]) (fun l39 => Option.bind (app 40 ([] : List Tassess_part) [(⟨p0.Granted, m32, l39⟩ : Tassess_part)]) (fun l44 => some l44))))) (some ([] : (List Tassess_part)))) (fun l28 => Option.bind (cond ((decide (0 < (IntKind.i64.wrap (p0.Quantity - p0.Granted)))) || (p0.Quantity == 0)) (Option.bind (idx l4 1) (fun m54 => Option.bind (app 40 l28 [(⟨(IntKind.i64.wrap (p0.Quantity - p0.Granted)), m54, l16⟩ : Tassess_part)]) (fun l57 => some l57))) (some l28)) (fun l51 => Option.bind (app 40 l51 [(⟨p0.Quantity, p0.Value, [5]⟩ : Tassess_part), (⟨p0.Quantity, p0.Value, [6]⟩ : Tassess_part)]) (fun l67 => some (l67, 0))))) | .inr e => some e)
set_option maxHeartbeats 4000000 in
theorem assess_partsOf_ok {p0 : TItem} {r : ((List Tassess_part) × Int)}  (h : assess_partsOf p0 = some r) : PF 39 [.agg [.v (.string p0.Code), .v (.string p0.Origin), .v (.bool p0.Proof), .v (.int .i64 p0.Company), .v (.int .i64 p0.Day), .v (.int .i64 p0.Quantity), .v (.int .i64 p0.Value), .v (.int .i64 p0.Granted)]] (.tup [.slc (List.map Tassess_part.enc r.1), .v (.int .i64 r.2)]) := by
 unfold assess_partsOf at h
 refine pf_of ?_
 refine penter Tryz.func39 fk39 rfl Tryz.ntmps39 Tryz.results39 rfl ?_
 refine yad (yaa ?_)
 refine pwl_l rfl rfl rfl (pl_box (cs := [.v (.string p0.Code), .v (.string p0.Origin), .v (.bool p0.Proof), .v (.int .i64 p0.Company), .v (.int .i64 p0.Day), .v (.int .i64 p0.Quantity), .v (.int .i64 p0.Value), .v (.int .i64 p0.Granted)]) rfl rfl (fun b1 => ?_))
 refine yab rfl rfl rfl (yae (p := .v (.slice none 0 0)) rfl (.p rfl)) ?_
 refine yab rfl rfl rfl (yae (p := .v (.int .i64 0)) rfl (.p rfl)) ?_
 refine yaf (yah (yad (yaa ?_)))
 refine yab rfl rfl rfl (yag rfl rfl rfl rfl rfl (.p rfl)) ?_
 refine yab rfl rfl rfl (yaj (p := .v (.int .i64 p0.Quantity)) rfl (.p rfl) zm0 rfl) ?_
 refine yab rfl rfl rfl (yag rfl rfl rfl rfl rfl (.p rfl)) ?_
 refine yab rfl rfl rfl (yaj (p := .v (.int .i64 p0.Granted)) rfl (.p rfl) zm0 rfl) ?_
 refine yab rfl rfl rfl (yau rfl (.p rfl) (.p rfl) rfl) ?_
 refine yab rfl rfl rfl (yae (p := .v (.int .i64 (IntKind.i64.wrap (p0.Quantity - p0.Granted)))) rfl (.p rfl)) ?_
 refine yaf (yah (yad (yaa ?_)))
 refine yab rfl rfl rfl (yag rfl rfl rfl rfl rfl (.p rfl)) ?_
 refine yab rfl rfl rfl (yaj (p := .v (.int .i64 p0.Value)) rfl (.p rfl) zm0 rfl) ?_
 refine pwl_l rfl rfl rfl (pl_lit rfl rfl rfl rfl rfl (zic rfl (zic rfl zin)) rfl rfl rfl rfl (fun b2 => ?_))
 refine yab rfl rfl rfl (yae (p := .v (.slice (some ⟨b2, 0, none⟩) 2 2)) rfl (.p rfl)) ?_
 refine yaf (yah (yad (yad (yaa ?_))))
 refine yab rfl rfl rfl (yag rfl rfl rfl rfl rfl (.p rfl)) ?_
 refine yab rfl rfl rfl (yaj (p := .v (.int .i64 p0.Quantity)) rfl (.p rfl) zm1 rfl) ?_
 refine yab rfl rfl rfl (yap rfl (.p rfl) (.p rfl) rfl) ?_
 refine yaf (yah ?_)
 refine yai h ?_; clear h; intro q5 hq5 h
 refine pwc_join (Y := (Unit) × ((List Int))) (fun (_, l4) => [(1, .v (.pointer (some ⟨b1, 0, none⟩))), (4, .v (.int .i64 (IntKind.i64.wrap (p0.Quantity - p0.Granted)))), (5, .slc (List.map eI l4))]) (fun (_, l4) => [PRes.b b1 23 [.v (.string p0.Code), .v (.string p0.Origin), .v (.bool p0.Proof), .v (.int .i64 p0.Company), .v (.int .i64 p0.Day), .v (.int .i64 p0.Quantity), .v (.int .i64 p0.Value), .v (.int .i64 p0.Granted)]]) (fun (_, l4) => q5 = Sum.inl l4) ?_ ?_
 ·skip
  refine yam rfl (fun hc6 => ?_) (fun hc6 => ?_)
  ·replace hq5 := yax hc6 hq5
   refine yad (yaa ?_)
   refine yab rfl rfl rfl (yae (p := .v (.int .i64 0)) rfl (.p rfl)) ?_
   refine yaf (yah (yad (yaa ?_)))
   refine yab rfl rfl rfl (yag rfl rfl rfl rfl rfl (.p rfl)) ?_
   refine yab rfl rfl rfl (yaj (p := .v (.int .i64 p0.Value)) rfl (.p rfl) zm1 rfl) ?_
   refine yab rfl rfl rfl (yag rfl rfl rfl rfl rfl (.p rfl)) ?_
   refine yab rfl rfl rfl (yaj (p := .v (.int .i64 p0.Granted)) rfl (.p rfl) zm1 rfl) ?_
   refine yab rfl rfl rfl (yac (p := .v (.int .i64 (IntKind.i64.wrap (p0.Quantity - p0.Granted)))) rfl (.p rfl)) ?_
   refine pwl_l rfl rfl rfl (pl_lit rfl rfl rfl rfl rfl (zic rfl (zic rfl zin)) rfl rfl rfl rfl (fun b7 => ?_))
   refine pwl_frzt (css := List.map eI [p0.Granted, (IntKind.i64.wrap (p0.Quantity - p0.Granted))]) 26 rfl (by exact zph) ?_
   refine yai hq5 ?_; clear hq5; intro x9 hx9 hq5
   refine pwl_call rfl rfl rfl rfl rfl (apportion_Share_ok hx9) ?_
   refine yab rfl rfl rfl (yac (p := .tup [.slc (List.map eI x9.1), .v (.int .i64 x9.2)]) rfl (.p rfl)) ?_
   refine yab rfl rfl rfl (pq_extract (p := .slc (List.map eI x9.1)) rfl (.p rfl) rfl) ?_
   refine yab rfl rfl rfl (pq_extract (p := .v (.int .i64 x9.2)) rfl (.p rfl) rfl) ?_
   refine yab rfl rfl rfl (yae (p := .slc (List.map eI x9.1)) rfl (.p rfl)) ?_
   refine yab rfl rfl rfl (yae (p := .v (.int .i64 x9.2)) rfl (.p rfl)) ?_
   refine yaf (yah (yad (yaa ?_)))
   refine yab rfl rfl rfl (yac (p := .v (.int .i64 x9.2)) rfl (.p rfl)) ?_
   refine yab rfl rfl rfl (yap rfl (.p rfl) (.p rfl) rfl) ?_
   refine yaf (yah ?_)
   refine yam rfl (fun hc10 => ?_) (fun hc10 => ?_)
   ·replace hq5 := yax hc10 hq5
    refine yad (yaa ?_)
    refine yab rfl rfl rfl (yac (p := .v (.int .i64 x9.2)) rfl (.p rfl)) ?_
    refine yab rfl rfl rfl (yae (p := .v (.slice none 0 0)) rfl (.p rfl)) ?_
    refine yab rfl rfl rfl (yae (p := .v (.int .i64 x9.2)) rfl (.p rfl)) ?_
    refine yaf (yah ?_)
    refine pwc_nil 2 rfl ?_
    refine yas (pk_mid_ret ?_)
    obtain rfl := Option.some.inj hq5
    have h := (show some _ = some _ from h)
    obtain rfl := Option.some.inj h
    exact yat (prv_2 (yav rfl) (yav rfl)) zsn ⟨rfl, rfl⟩
   ·replace hq5 := yay hc10 hq5
    refine yan ?_
    obtain rfl := Option.some.inj hq5
    exact pk_mid ((), x9.1) (zhc rfl (zhc rfl (zhc rfl zhn))) (zsc (zpt (zpt zph)) zsn) rfl
  ·replace hq5 := yay hc6 hq5
   refine yan ?_
   refine pk_mid_cov (cov_frzt (css := List.map eI [0, p0.Value]) 5 rfl (by exact zph)) ?_
   obtain rfl := Option.some.inj hq5
   exact pk_mid ((), [0, p0.Value]) (zhc rfl (zhc rfl (zhc rfl zhn))) (zsc (zpt zph) zsn) rfl
 ·rintro ⟨_, l4⟩ τ hz; (try dsimp only at hz); subst q5; (try dsimp only at h); dsimp only [pupds]
  refine yad (yaa ?_)
  refine pwl_l rfl rfl rfl (pl_lit rfl rfl rfl rfl rfl (zic rfl (zic rfl zin)) rfl rfl rfl rfl (fun b11 => ?_))
  refine yab rfl rfl rfl (yae (p := .v (.slice (some ⟨b11, 0, none⟩) 2 2)) rfl (.p rfl)) ?_
  refine yaf (yah (yad (yad (yaa ?_))))
  refine yab rfl rfl rfl (yag rfl rfl rfl rfl rfl (.p rfl)) ?_
  refine yab rfl rfl rfl (yaj (p := .v (.bool p0.Proof)) rfl (.p rfl) zm1 rfl) ?_
  refine yaf (yah ?_)
  refine yai h ?_; clear h; intro q17 hq17 h
  refine pwc_join (Y := (Option Addr × Nat) × ((List Int))) (fun ((a14, c15), l16) => [(1, .v (.pointer (some ⟨b1, 0, none⟩))), (4, .v (.int .i64 (IntKind.i64.wrap (p0.Quantity - p0.Granted)))), (5, .slc (List.map eI l4)), (7, .v (.slice a14 l16.length c15))]) (fun ((a14, c15), l16) => [PRes.b b1 23 [.v (.string p0.Code), .v (.string p0.Origin), .v (.bool p0.Proof), .v (.int .i64 p0.Company), .v (.int .i64 p0.Day), .v (.int .i64 p0.Quantity), .v (.int .i64 p0.Value), .v (.int .i64 p0.Granted)], PRes.row a14 l16.length c15 3 1 (List.map eI l16)]) (fun ((a14, c15), l16) => q17 = l16) ?_ ?_
  ·skip
   refine yam rfl (fun hc18 => ?_) (fun hc18 => ?_)
   ·replace hq17 := yax hc18 hq17
    refine yaa ?_
    refine yab rfl rfl rfl (yac (p := .v (.slice (some ⟨b11, 0, none⟩) 2 2)) rfl (.p rfl)) ?_
    refine pwl_l rfl rfl rfl (pl_lit rfl rfl rfl rfl rfl (zic rfl zin) rfl rfl rfl rfl (fun b19 => ?_))
    refine yai hq17 ?_; clear hq17; intro l21 hl21 hq17
    refine pwl_l rfl rfl rfl (pl_app_o (enc := eI) rfl rfl rfl rfl rfl rfl rfl rfl rfl zm0 (by exact zpt zph) hl21 (fun a22 c23 => ?_))
    refine yab rfl rfl rfl (yae (p := .v (.slice a22 l21.length c23)) rfl (.p rfl)) ?_
    refine yaf ?_
    obtain rfl := Option.some.inj hq17
    exact pk_mid ((a22, c23), l21) (zhc rfl (zhc rfl (zhc rfl (zhc rfl zhn)))) (zsc (zpt (zpt zph)) (zsc zph zsn)) rfl
   ·replace hq17 := yay hc18 hq17
    refine yan ?_
    obtain rfl := Option.some.inj hq17
    exact pk_mid (((some ⟨b11, 0, none⟩), 2), [1, 2]) (zhc rfl (zhc rfl (zhc rfl (zhc rfl zhn)))) (zsc (zpt zph) (zsc zph zsn)) rfl
  ·rintro ⟨⟨a14, c15⟩, l16⟩ τ hz; (try dsimp only at hz); subst q17; (try dsimp only at h); dsimp only [pupds]
   refine yad (yaa ?_)
   refine yab rfl rfl rfl (yae (p := .v (.slice none 0 0)) rfl (.p rfl)) ?_
   refine yaf (yah (yad (yad (yaa ?_))))
   refine yab rfl rfl rfl (yag rfl rfl rfl rfl rfl (.p rfl)) ?_
   refine yab rfl rfl rfl (yaj (p := .v (.int .i64 p0.Granted)) rfl (.p rfl) zm0 rfl) ?_
   refine yab rfl rfl rfl (yap rfl (.p rfl) (.p rfl) rfl) ?_
   refine yaf (yah ?_)
   refine yai h ?_; clear h; intro q29 hq29 h
   refine pwc_join (Y := (Option Addr × Nat) × ((List Tassess_part))) (fun ((a26, c27), l28) => [(1, .v (.pointer (some ⟨b1, 0, none⟩))), (4, .v (.int .i64 (IntKind.i64.wrap (p0.Quantity - p0.Granted)))), (5, .slc (List.map eI l4)), (7, .slc (List.map eI l16)), (8, .v (.slice a26 l28.length c27))]) (fun ((a26, c27), l28) => [PRes.b b1 23 [.v (.string p0.Code), .v (.string p0.Origin), .v (.bool p0.Proof), .v (.int .i64 p0.Company), .v (.int .i64 p0.Day), .v (.int .i64 p0.Quantity), .v (.int .i64 p0.Value), .v (.int .i64 p0.Granted)], PRes.row a26 l28.length c27 74 3 (List.map Tassess_part.enc l28)]) (fun ((a26, c27), l28) => q29 = l28) ?_ ?_
   ·skip
    refine yam rfl (fun hc30 => ?_) (fun hc30 => ?_)
    ·replace hq29 := yax hc30 hq29
     refine pwc_frzt (css := List.map eI l16) 7 rfl (by exact zpt zph) ?_
     refine pwc_nilrow 74 3 ?_
     refine pwc_draw (ρd := [PRes.row none _ _ _ _ _]) [(8, 3), (0, 0), (1, 0), (2, 0), (3, 0), (4, 0), (5, 0), (6, 0), (7, 1), (8, 2), (9, 1), (10, 0), (11, 1), (12, 1), (13, 0)] _ (List.Perm.refl _) (by kernel_rfl) rfl ?_
     refine pwd_tell (plate_lit rfl rfl rfl rfl rfl (zic rfl zin) rfl rfl rfl) ?_
     refine pwd_q rfl rfl rfl (yac (p := .v (.slice none 0 0)) rfl (.p rfl)) ?_
     refine pwd_q rfl rfl rfl (yag rfl rfl rfl rfl rfl (.p rfl)) ?_
     refine pwd_q rfl rfl rfl (yaj (p := .v (.int .i64 p0.Granted)) rfl (.p rfl) zm1 rfl) ?_
     refine pwd_q rfl rfl rfl (yac (p := .slc (List.map eI l4)) rfl (.p rfl)) ?_
     refine yai hq29 ?_; clear hq29; intro m32 hm32 hq29
     refine pwd_q rfl rfl rfl (pq_index (enc := eI) rfl rfl rfl (fun _ => rfl) (.p rfl) (.p rfl) (fun _ => hm32)) ?_
     refine pwd_q rfl rfl rfl (pq_load_r (p := .v (.int .i64 m32)) rfl (.p rfl) rfl) ?_
     refine pwd_q rfl rfl rfl (yac (p := .slc (List.map eI l16)) rfl (.p rfl)) ?_
     refine yai hq29 ?_; clear hq29; intro x33 hx33 hq29
     refine pwd_l rfl rfl rfl (pl_callR rfl rfl (ρ1 := []) (List.Perm.refl _) (slices_Clone_int_int_ok hx33) ?_); rintro _ _ ⟨a34, c35, rfl, rfl⟩
     refine pwd_late (plate_lit rfl rfl rfl rfl rfl (zic rfl zin) rfl rfl rfl) (fun _ => rfl) rfl (fun b37 => ?_)
     refine yai hq29 ?_; clear hq29; intro l39 hl39 hq29
     refine pwd_l rfl rfl rfl (pl_fz (pl_app_b (enc := eI) rfl rfl rfl rfl rfl (fun _ => rfl) rfl rfl rfl rfl zm0 rfl (by exact zpt zph) hl39 (fun a40 c41 => ⟨_, _, _, _, _, _, _, rfl, by (repeat (first | exact zph | apply zpt)), ?_⟩)))
     refine pwd_q rfl rfl rfl (pq_buildZ (cs := [.v (.int .i64 p0.Granted), .v (.int .i64 m32), .slc (List.map eI l39)]) rfl rfl rfl rfl rfl rfl rfl (zfc rfl rfl rfl rfl (zlc zln) (zfc rfl rfl rfl rfl (zlt (zlc zln)) (zfc rfl rfl rfl rfl (zlt (zlt (zlc zln))) zfn)))) ?_
     refine pwd_l rfl rfl rfl (pl_lit rfl rfl rfl rfl rfl (zic rfl zin) rfl rfl rfl rfl (fun b42 => ?_))
     refine yai hq29 ?_; clear hq29; intro l44 hl44 hq29
     refine pwd_l rfl rfl rfl (pl_app_o (enc := Tassess_part.enc) rfl rfl rfl rfl rfl rfl rfl rfl rfl zm0 (by exact zpt (zpt zph)) hl44 (fun a45 c46 => ?_))
     refine pwd_q rfl rfl rfl (yae (p := .v (.slice a45 l44.length c46)) rfl (.p rfl)) ?_
     refine pwd_nil ?_
     obtain rfl := Option.some.inj hq29
     exact pk_mid ((a45, c46), l44) (zhc rfl (zhc rfl (zhc rfl (zhc rfl (zhc rfl zhn))))) (zsc (zpt (zpt (zpt (zpt zph)))) (zsc zph zsn)) rfl
    ·replace hq29 := yay hc30 hq29
     refine yan ?_
     refine pk_mid_cov (cov_frzt (css := List.map eI l16) 7 rfl (by exact zpt zph)) ?_
     refine pk_mid_cov (cov_nilrow 74 3) ?_
     obtain rfl := Option.some.inj hq29
     exact pk_mid ((none, 0), ([] : (List Tassess_part))) (zhc rfl (zhc rfl (zhc rfl (zhc rfl (zhc rfl zhn))))) (zsc (zpt (zpt zph)) (zsc zph zsn)) rfl
   ·rintro ⟨⟨a26, c27⟩, l28⟩ τ hz; (try dsimp only at hz); subst q29; (try dsimp only at h); dsimp only [pupds]
    refine yad (yad (yaa ?_))
    refine yab rfl rfl rfl (yac (p := .v (.int .i64 (IntKind.i64.wrap (p0.Quantity - p0.Granted)))) rfl (.p rfl)) ?_
    refine yab rfl rfl rfl (yap rfl (.p rfl) (.p rfl) rfl) ?_
    refine yab rfl rfl rfl (yac (p := .v (.bool (decide (0 < (IntKind.i64.wrap (p0.Quantity - p0.Granted)))))) rfl (.p rfl)) ?_
    refine yal (yak rfl rfl rfl) rfl rfl (yag rfl rfl rfl rfl rfl (.p rfl)) ?_
    refine yal (yak rfl rfl rfl) rfl rfl (yaj (p := .v (.int .i64 p0.Quantity)) rfl (.g rfl) zm0 rfl) ?_
    refine yal (yak rfl rfl rfl) rfl rfl (yap rfl (.g rfl) (.p rfl) rfl) ?_
    refine yab rfl rfl rfl (pq_or rfl (.p rfl) (.p rfl) (.g rfl)) ?_
    refine yaf (yah ?_)
    refine yai h ?_; clear h; intro q52 hq52 h
    refine pwc_join (Y := (Option Addr × Nat) × ((List Tassess_part))) (fun ((a49, c50), l51) => [(1, .v (.pointer (some ⟨b1, 0, none⟩))), (8, .v (.slice a49 l51.length c50))]) (fun ((a49, c50), l51) => [PRes.b b1 23 [.v (.string p0.Code), .v (.string p0.Origin), .v (.bool p0.Proof), .v (.int .i64 p0.Company), .v (.int .i64 p0.Day), .v (.int .i64 p0.Quantity), .v (.int .i64 p0.Value), .v (.int .i64 p0.Granted)], PRes.row a49 l51.length c50 74 3 (List.map Tassess_part.enc l51)]) (fun ((a49, c50), l51) => q52 = l51) ?_ ?_
    ·skip
     refine yam rfl (fun hc53 => ?_) (fun hc53 => ?_)
     ·replace hq52 := yax hc53 hq52
      refine yaa ?_
      refine yab rfl rfl rfl (yac (p := .v (.slice a26 l28.length c27)) rfl (.p rfl)) ?_
      refine yab rfl rfl rfl (yac (p := .v (.int .i64 (IntKind.i64.wrap (p0.Quantity - p0.Granted)))) rfl (.p rfl)) ?_
      refine yab rfl rfl rfl (yac (p := .slc (List.map eI l4)) rfl (.p rfl)) ?_
      refine yai hq52 ?_; clear hq52; intro m54 hm54 hq52
      refine yab rfl rfl rfl (pq_index (enc := eI) rfl rfl rfl (fun _ => rfl) (.p rfl) (.p rfl) (fun _ => hm54)) ?_
      refine yab rfl rfl rfl (pq_load_r (p := .v (.int .i64 m54)) rfl (.p rfl) rfl) ?_
      refine yab rfl rfl rfl (yac (p := .slc (List.map eI l16)) rfl (.p rfl)) ?_
      refine yab rfl rfl rfl (pq_build (cs := [.v (.int .i64 (IntKind.i64.wrap (p0.Quantity - p0.Granted))), .v (.int .i64 m54), .slc (List.map eI l16)]) rfl rfl rfl rfl rfl rfl rfl (zfc rfl rfl rfl rfl (zlc zln) (zfc rfl rfl rfl rfl (zlt (zlc zln)) (zfc rfl rfl rfl rfl (zlt (zlt (zlc zln))) zfn)))) ?_
      refine pwl_l rfl rfl rfl (pl_lit rfl rfl rfl rfl rfl (zic rfl zin) rfl rfl rfl rfl (fun b55 => ?_))
      refine yai hq52 ?_; clear hq52; intro l57 hl57 hq52
      refine pwl_l rfl rfl rfl (pl_app_o (enc := Tassess_part.enc) rfl rfl rfl rfl rfl rfl rfl rfl rfl zm0 (by exact zpt (zpt zph)) hl57 (fun a58 c59 => ?_))
      refine yab rfl rfl rfl (yae (p := .v (.slice a58 l57.length c59)) rfl (.p rfl)) ?_
      refine yaf ?_
      obtain rfl := Option.some.inj hq52
      exact pk_mid ((a58, c59), l57) (zhc rfl (zhc rfl zhn)) (zsc (zpt (zpt zph)) (zsc zph zsn)) rfl
     ·replace hq52 := yay hc53 hq52
      refine yan ?_
      obtain rfl := Option.some.inj hq52
      exact pk_mid ((a26, c27), l28) (zhc rfl (zhc rfl zhn)) (zsc zph (zsc zph zsn)) rfl
    ·rintro ⟨⟨a49, c50⟩, l51⟩ τ hz; (try dsimp only at hz); subst q52; (try dsimp only at h); dsimp only [pupds]
     refine yad (yaa ?_)
     refine yab rfl rfl rfl (yac (p := .v (.slice a49 l51.length c50)) rfl (.p rfl)) ?_
     refine yab rfl rfl rfl (yag rfl rfl rfl rfl rfl (.p rfl)) ?_
     refine yab rfl rfl rfl (yaj (p := .v (.int .i64 p0.Quantity)) rfl (.p rfl) zm0 rfl) ?_
     refine yab rfl rfl rfl (yag rfl rfl rfl rfl rfl (.p rfl)) ?_
     refine yab rfl rfl rfl (yaj (p := .v (.int .i64 p0.Value)) rfl (.p rfl) zm0 rfl) ?_
     refine pwl_l rfl rfl rfl (pl_lit rfl rfl rfl rfl rfl (zic rfl zin) rfl rfl rfl rfl (fun b61 => ?_))
     refine pwl_frzt (css := List.map eI [5]) 76 rfl (by exact zph) ?_
     refine yab rfl rfl rfl (pq_build (cs := [.v (.int .i64 p0.Quantity), .v (.int .i64 p0.Value), .slc (List.map eI [5])]) rfl rfl rfl rfl rfl rfl rfl (zfc rfl rfl rfl rfl (zlc zln) (zfc rfl rfl rfl rfl (zlt (zlc zln)) (zfc rfl rfl rfl rfl (zlt (zlt (zlc zln))) zfn)))) ?_
     refine yab rfl rfl rfl (yag rfl rfl rfl rfl rfl (.p rfl)) ?_
     refine yab rfl rfl rfl (yaj (p := .v (.int .i64 p0.Quantity)) rfl (.p rfl) zm1 rfl) ?_
     refine yab rfl rfl rfl (yag rfl rfl rfl rfl rfl (.p rfl)) ?_
     refine yab rfl rfl rfl (yaj (p := .v (.int .i64 p0.Value)) rfl (.p rfl) zm1 rfl) ?_
     refine pwl_l rfl rfl rfl (pl_lit rfl rfl rfl rfl rfl (zic rfl zin) rfl rfl rfl rfl (fun b63 => ?_))
     refine pwl_frzt (css := List.map eI [6]) 82 rfl (by exact zph) ?_
     refine yab rfl rfl rfl (pq_build (cs := [.v (.int .i64 p0.Quantity), .v (.int .i64 p0.Value), .slc (List.map eI [6])]) rfl rfl rfl rfl rfl rfl rfl (zfc rfl rfl rfl rfl (zlc zln) (zfc rfl rfl rfl rfl (zlt (zlc zln)) (zfc rfl rfl rfl rfl (zlt (zlt (zlc zln))) zfn)))) ?_
     refine pwl_l rfl rfl rfl (pl_lit rfl rfl rfl rfl rfl (zic rfl (zic rfl zin)) rfl rfl rfl rfl (fun b65 => ?_))
     refine yai h ?_; clear h; intro l67 hl67 h
     refine pwl_l rfl rfl rfl (pl_app_o (enc := Tassess_part.enc) rfl rfl rfl rfl rfl rfl rfl rfl rfl zm0 (by exact zpt (zpt (zpt (zpt zph)))) hl67 (fun a68 c69 => ?_))
     refine yab rfl rfl rfl (yae (p := .v (.slice a68 l67.length c69)) rfl (.p rfl)) ?_
     refine yab rfl rfl rfl (yae (p := .v (.int .i64 0)) rfl (.p rfl)) ?_
     refine yaf (yah ?_)
     refine pwc_frzt (css := List.map Tassess_part.enc l67) 2 rfl (by exact zph) ?_
     refine yas ?_
     obtain rfl := Option.some.inj h
     exact yat (prv_2 (yav rfl) (yav rfl)) zsn ⟨rfl, rfl⟩
end SX
end Go.Proofs.YtfcecieppoljlaaGreatDoor
