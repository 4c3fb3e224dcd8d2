/- A part of the proof: texts of the walk and of the plain laws, merged. No condition. -/
import Derived.Test.YtfcecieppoljlaaGreatDoorM3
import Derived.Test.YtfcecieppoljlaaGreatDoorChecked
import Derived.KernelRfl
import Derived.WalkKit
import Derived.OrdersHeld
import Derived.Laws.CopyRow
import Derived.Laws.StructEq
import Derived.Maps.AppendAt
import Derived.Laws.MakeOwn
import Derived.Laws.BytesArg
import Derived.Laws.Externs
import Derived.Laws.Cover3
import Derived.ChangeArms
import Derived.DataReads
import GoSem.ClaimJoined
import Derived.Test.YtfcecieppoljlaaGreatDoorRows
import Derived.ChangeSame
import Derived.ChangeVars
import Derived.JoinedOf
import Derived.RowKit
import Derived.RowKitTokens
import Derived.LaidLaws
import Derived.LaidHandle
import Derived.Carry
import Derived.Handed
import Derived.ChangeOld
import Derived.SevenTiedAt
import Derived.Test.YtfcecieppoljlaaGreatDoorCards
import Derived.Test.YtfcecieppoljlaaGreatDoorTie
set_option linter.unusedVariables false
set_option linter.unusedSimpArgs false
set_option maxRecDepth 100000
namespace Go.Proofs.YtfcecieppoljlaaGreatDoor
namespace SX
open Go
attribute [local irreducible] PWL PWC PWD POpL POpQ PEv PGuardIs PSub PPick PUpd PSplice PFill PLit PF PFV PCall pseqK pblockK pmidK pcutK ploopK pretK Cov PHolds loopF idx app mk gd lb nz ge0 cat sub ssub iand ior ixor ishl ishr imin imax IntKind.wrap Int.tmod Int.tdiv Op.bytesLess strOfNums
def exact_Add (p0 : Texact_Wide) (p1 : Texact_Wide) : Option (Texact_Wide × Int) := Option.bind (math_bits_Add64 p0.Lo p1.Lo 0) (fun x4 => Option.bind (math_bits_Add64 p0.Hi p1.Hi x4.2) (fun x5 => cond (x5.2 != 0) (some ((⟨0, 0⟩ : Texact_Wide), 3)) (some ((⟨x5.1, x4.1⟩ : Texact_Wide), 0))))
set_option maxHeartbeats 4000000 in
theorem exact_Add_ok {p0 : Texact_Wide} {p1 : Texact_Wide} {r : (Texact_Wide × Int)}  (h : exact_Add p0 p1 = some r) : PF 95 [.agg [.v (.int .u64 p0.Hi), .v (.int .u64 p0.Lo)], .agg [.v (.int .u64 p1.Hi), .v (.int .u64 p1.Lo)]] (.tup [.agg [.v (.int .u64 r.1.Hi), .v (.int .u64 r.1.Lo)], .v (.int .i64 r.2)]) := by
 unfold exact_Add at h
 refine pf_of ?_
 refine penter Tryz.func95 fk95 rfl Tryz.ntmps95 Tryz.results95 rfl ?_
 refine yad (yaa ?_)
 refine pwl_l rfl rfl rfl (pl_box (cs := [.v (.int .u64 p0.Hi), .v (.int .u64 p0.Lo)]) rfl rfl (fun b1 => ?_))
 refine pwl_l rfl rfl rfl (pl_box (cs := [.v (.int .u64 p1.Hi), .v (.int .u64 p1.Lo)]) rfl rfl (fun b2 => ?_))
 refine pwl_l rfl rfl rfl (pl_alloc (cs := [.v (.int .u64 0), .v (.int .u64 0)]) rfl rfl rfl rfl (fun b3 => ?_))
 refine yab rfl rfl rfl (yae (p := .v (.int .i64 0)) rfl (.p rfl)) ?_
 refine yaf (yah (yad (yaa ?_)))
 refine yab rfl rfl rfl (yag rfl rfl rfl rfl rfl (.p rfl)) ?_
 refine yab rfl rfl rfl (yaj (p := .v (.int .u64 p0.Lo)) rfl (.p rfl) zm2 rfl) ?_
 refine yab rfl rfl rfl (yag rfl rfl rfl rfl rfl (.p rfl)) ?_
 refine yab rfl rfl rfl (yaj (p := .v (.int .u64 p1.Lo)) rfl (.p rfl) zm1 rfl) ?_
 refine yai h ?_; clear h; intro x4 hx4 h
 refine pwl_l rfl rfl rfl (pl_add64 rfl rfl hx4 ?_)
 refine yab rfl rfl rfl (yac (p := .tup [.v (.int .u64 x4.1), .v (.int .u64 x4.2)]) rfl (.p rfl)) ?_
 refine yab rfl rfl rfl (pq_extract (p := .v (.int .u64 x4.1)) rfl (.p rfl) rfl) ?_
 refine yab rfl rfl rfl (pq_extract (p := .v (.int .u64 x4.2)) rfl (.p rfl) rfl) ?_
 refine yab rfl rfl rfl (yae (p := .v (.int .u64 x4.1)) rfl (.p rfl)) ?_
 refine yab rfl rfl rfl (yae (p := .v (.int .u64 x4.2)) rfl (.p rfl)) ?_
 refine yaf (yah (yad (yaa ?_)))
 refine yab rfl rfl rfl (yag rfl rfl rfl rfl rfl (.p rfl)) ?_
 refine yab rfl rfl rfl (yaj (p := .v (.int .u64 p0.Hi)) rfl (.p rfl) zm2 rfl) ?_
 refine yab rfl rfl rfl (yag rfl rfl rfl rfl rfl (.p rfl)) ?_
 refine yab rfl rfl rfl (yaj (p := .v (.int .u64 p1.Hi)) rfl (.p rfl) zm1 rfl) ?_
 refine yab rfl rfl rfl (yac (p := .v (.int .u64 x4.2)) rfl (.p rfl)) ?_
 refine yai h ?_; clear h; intro x5 hx5 h
 refine pwl_l rfl rfl rfl (pl_add64 rfl rfl hx5 ?_)
 refine yab rfl rfl rfl (yac (p := .tup [.v (.int .u64 x5.1), .v (.int .u64 x5.2)]) rfl (.p rfl)) ?_
 refine yab rfl rfl rfl (pq_extract (p := .v (.int .u64 x5.1)) rfl (.p rfl) rfl) ?_
 refine yab rfl rfl rfl (pq_extract (p := .v (.int .u64 x5.2)) rfl (.p rfl) rfl) ?_
 refine yab rfl rfl rfl (yae (p := .v (.int .u64 x5.1)) rfl (.p rfl)) ?_
 refine yab rfl rfl rfl (yae (p := .v (.int .u64 x5.2)) rfl (.p rfl)) ?_
 refine yaf (yah (yad (yad (yaa ?_))))
 refine yab rfl rfl rfl (yac (p := .v (.int .u64 x5.2)) rfl (.p rfl)) ?_
 refine yab rfl rfl rfl (yap rfl (.p rfl) (.p rfl) rfl) ?_
 refine yaf (yah ?_)
 refine yam rfl (fun hc6 => ?_) (fun hc6 => ?_)
 ·replace h := yax hc6 h
  refine yad (yaa ?_)
  refine yab rfl rfl rfl (pq_build (cs := [.v (.int .u64 0), .v (.int .u64 0)]) rfl rfl rfl rfl rfl rfl rfl zfn) ?_
  refine pwl_l0 rfl rfl (yaw (vs := [.v (.int .u64 0), .v (.int .u64 0)]) rfl rfl rfl rfl rfl zuh (zlc (zlc zln)) ?_)
  refine yab rfl rfl rfl (yae (p := .v (.int .i64 3)) rfl (.p rfl)) ?_
  refine yaf (yah (yas (yaq ?_)))
  obtain rfl := Option.some.inj h
  exact yat (prv_2 (prv1_c rfl zm0 rfl) (yav rfl)) zsn ⟨rfl, rfl⟩
 ·replace h := yay hc6 h
  refine yan (yah (yad (yaa ?_)))
  refine yab rfl rfl rfl (yac (p := .v (.int .u64 x5.1)) rfl (.p rfl)) ?_
  refine yab rfl rfl rfl (yac (p := .v (.int .u64 x4.1)) rfl (.p rfl)) ?_
  refine yab rfl rfl rfl (pq_build (cs := [.v (.int .u64 x5.1), .v (.int .u64 x4.1)]) rfl rfl rfl rfl rfl rfl rfl (zfc rfl rfl rfl rfl (zlc zln) (zfc rfl rfl rfl rfl (zlt (zlc zln)) zfn))) ?_
  refine pwl_l0 rfl rfl (yaw (vs := [.v (.int .u64 x5.1), .v (.int .u64 x4.1)]) rfl rfl rfl rfl rfl zuh (zlc (zlc zln)) ?_)
  refine yab rfl rfl rfl (yae (p := .v (.int .i64 0)) rfl (.p rfl)) ?_
  refine yaf (yah (yas ?_))
  obtain rfl := Option.some.inj h
  exact yat (prv_2 (prv1_c rfl zm0 rfl) (yav rfl)) zsn ⟨rfl, rfl⟩
def duty_Evaluate_1 (p0 : Int) (p1 : Int) (p2 : Int) : Option Texact_Wide := Option.bind (exact_Mul (IntKind.u64.wrap ((IntKind.u64.wrap p0) * (IntKind.u64.wrap p1))) p2) (fun x2 => some x2)
set_option maxHeartbeats 4000000 in
theorem duty_Evaluate_1_ok {p0 : Int} {p1 : Int} {p2 : Int} {r : Texact_Wide}  (h : duty_Evaluate_1 p0 p1 p2 = some r) : PF 93 [.v (.int .i64 p0), .ref [.v (.int .i64 p1)] 0, .ref [.v (.int .u64 p2)] 0] (.agg [.v (.int .u64 r.Hi), .v (.int .u64 r.Lo)]) := by
 unfold duty_Evaluate_1 at h
 refine pf_of ?_
 refine penter Tryz.func93 fk93 rfl Tryz.ntmps93 Tryz.results93 rfl ?_
 refine yad (yaa ?_)
 refine pwl_l rfl rfl rfl (pl_alloc (cs := [.v (.int .u64 0), .v (.int .u64 0)]) rfl rfl rfl rfl (fun b1 => ?_))
 refine yaf (yah (yad (yaa ?_)))
 refine yab rfl rfl rfl (yac (p := .v (.int .i64 p0)) rfl (.p rfl)) ?_
 refine yab rfl rfl rfl (pq_conv rfl rfl rfl (.p rfl)) ?_
 refine yab rfl rfl rfl (pq_load_r (p := .v (.int .i64 p1)) rfl (.p rfl) rfl) ?_
 refine yab rfl rfl rfl (pq_conv rfl rfl rfl (.p rfl)) ?_
 refine yab rfl rfl rfl (yau rfl (.p rfl) (.p rfl) rfl) ?_
 refine yab rfl rfl rfl (pq_load_r (p := .v (.int .u64 p2)) rfl (.p rfl) rfl) ?_
 refine yai h ?_; clear h; intro x2 hx2 h
 refine pwl_call rfl rfl rfl rfl rfl (exact_Mul_ok hx2) ?_
 refine pwl_l0 rfl rfl (yaw (vs := [.v (.int .u64 x2.Hi), .v (.int .u64 x2.Lo)]) rfl rfl rfl rfl rfl zuh (zlc (zlc zln)) ?_)
 refine yaf (yah (yas ?_))
 obtain rfl := Option.some.inj h
 exact yat (prv_1 (prv1_c rfl zm0 rfl)) zsn ⟨rfl, rfl⟩
def duty_Evaluate (p0 : TDuty) (p1 : Int) (p2 : Int) : Option (Int × Int) := Option.bind (duty_Validate p0) (fun x3 => cond (x3 != 0) (some (0, x3)) (cond ((((decide (p1 < 0)) || (decide (1000000000000 < p1))) || (decide (p2 < 0))) || (decide (1000000000 < p2))) (some (0, 2)) (Option.bind (duty_Evaluate_1 p0.Rate p1 (IntKind.u64.wrap (imax p0.Per 1))) (fun x7 => Option.bind (exact_Mul (IntKind.u64.wrap ((IntKind.u64.wrap p0.Amount) * (IntKind.u64.wrap p2))) 1000000) (fun x8 => Option.bind (exact_Add x7 x8) (fun x9 => cond (x9.2 != 0) (some (0, 3)) (Option.bind (gd p0.HasMost (duty_Evaluate_1 p0.Most p1 (IntKind.u64.wrap (imax p0.Per 1)))) (fun x12 => Option.bind (gd p0.HasMost (exact_CompareWide x9.1 x12)) (fun x13 => Option.bind (cond (p0.HasMost && (decide (0 < x13))) (Option.bind (duty_Evaluate_1 p0.Most p1 (IntKind.u64.wrap (imax p0.Per 1))) (fun x18 => some (x18.Hi, x18.Lo))) (some (x9.1.Hi, x9.1.Lo))) (fun (v14, v15) => Option.bind (gd p0.HasLeast (duty_Evaluate_1 p0.Least p1 (IntKind.u64.wrap (imax p0.Per 1)))) (fun x19 => Option.bind (gd p0.HasLeast (exact_CompareWide (⟨v14, v15⟩ : Texact_Wide) x19)) (fun x20 => Option.bind (cond (p0.HasLeast && (decide (x20 < 0))) (Option.bind (duty_Evaluate_1 p0.Least p1 (IntKind.u64.wrap (imax p0.Per 1))) (fun x25 => some (x25.Hi, x25.Lo))) (some (v14, v15))) (fun (v21, v22) => Option.bind (exact_Div (⟨v21, v22⟩ : Texact_Wide) (IntKind.u64.wrap (1000000 * (IntKind.u64.wrap (imax p0.Per 1)))) 2) (fun x26 => cond ((x26.2 != 0) || (decide (1000000000000 < x26.1))) (some (0, 3)) (some ((IntKind.i64.wrap x26.1), 0))))))))))))))))
set_option maxHeartbeats 4000000 in
theorem duty_Evaluate_ok {p0 : TDuty} {p1 : Int} {p2 : Int} {r : (Int × Int)}  (h : duty_Evaluate p0 p1 p2 = some r) : PF 62 [.agg [.v (.int .i64 p0.Rate), .v (.int .i64 p0.Amount), .v (.int .i64 p0.Per), .v (.bool p0.HasMost), .v (.int .i64 p0.Most), .v (.bool p0.HasLeast), .v (.int .i64 p0.Least)], .v (.int .i64 p1), .v (.int .i64 p2)] (.tup [.v (.int .i64 r.1), .v (.int .i64 r.2)]) := by
 unfold duty_Evaluate at h
 refine pf_of ?_
 refine penter Tryz.func62 fk62 rfl Tryz.ntmps62 Tryz.results62 rfl ?_
 refine yad (yaa ?_)
 refine pwl_l rfl rfl rfl (pl_box (cs := [.v (.int .i64 p0.Rate), .v (.int .i64 p0.Amount), .v (.int .i64 p0.Per), .v (.bool p0.HasMost), .v (.int .i64 p0.Most), .v (.bool p0.HasLeast), .v (.int .i64 p0.Least)]) rfl rfl (fun b1 => ?_))
 refine pwl_l rfl rfl rfl (pl_box (cs := [.v (.int .i64 p1)]) rfl rfl (fun b2 => ?_))
 refine yab rfl rfl rfl (yae (p := .v (.int .i64 0)) rfl (.p rfl)) ?_
 refine yab rfl rfl rfl (yae (p := .v (.int .i64 0)) rfl (.p rfl)) ?_
 refine yaf (yah (yad (yad (yaa ?_))))
 refine yab rfl rfl rfl (yaj (p := .agg [.v (.int .i64 p0.Rate), .v (.int .i64 p0.Amount), .v (.int .i64 p0.Per), .v (.bool p0.HasMost), .v (.int .i64 p0.Most), .v (.bool p0.HasLeast), .v (.int .i64 p0.Least)]) rfl (.p rfl) zm1 rfl) ?_
 refine yai h ?_; clear h; intro x3 hx3 h
 refine pwl_call rfl rfl rfl rfl rfl (duty_Validate_ok hx3) ?_
 refine yab rfl rfl rfl (yae (p := .v (.int .i64 x3)) rfl (.p rfl)) ?_
 refine yaf (yah (yad (yaa ?_)))
 refine yab rfl rfl rfl (yac (p := .v (.int .i64 x3)) rfl (.p rfl)) ?_
 refine yab rfl rfl rfl (yap rfl (.p rfl) (.p rfl) rfl) ?_
 refine yaf (yah ?_)
 refine yam rfl (fun hc4 => ?_) (fun hc4 => ?_)
 ·replace h := yax hc4 h
  refine yad (yaa ?_)
  refine yab rfl rfl rfl (yac (p := .v (.int .i64 x3)) rfl (.p rfl)) ?_
  refine yab rfl rfl rfl (yae (p := .v (.int .i64 0)) rfl (.p rfl)) ?_
  refine yab rfl rfl rfl (yae (p := .v (.int .i64 x3)) rfl (.p rfl)) ?_
  refine yaf (yah (yas (yaq ?_)))
  obtain rfl := Option.some.inj h
  exact yat (prv_2 (yav rfl) (yav rfl)) zsn ⟨rfl, rfl⟩
 ·replace h := yay hc4 h
  refine yan (yah (yad (yad (yaa ?_))))
  refine yab rfl rfl rfl (yaj (p := .v (.int .i64 p1)) rfl (.p rfl) zm0 rfl) ?_
  refine yab rfl rfl rfl (yap rfl (.p rfl) (.p rfl) rfl) ?_
  refine yab rfl rfl rfl (yac (p := .v (.bool (decide (p1 < 0)))) rfl (.p rfl)) ?_
  refine yal (yak rfl rfl rfl) rfl rfl (yaj (p := .v (.int .i64 p1)) rfl (.p rfl) zm0 rfl) ?_
  refine yal (yak rfl rfl rfl) rfl rfl (yap rfl (.g rfl) (.p rfl) rfl) ?_
  refine yab rfl rfl rfl (pq_or rfl (.p rfl) (.p rfl) (.g rfl)) ?_
  refine yab rfl rfl rfl (yac (p := .v (.bool ((decide (p1 < 0)) || (decide (1000000000000 < p1))))) rfl (.p rfl)) ?_
  refine yal (yak rfl rfl rfl) rfl rfl (yac (p := .v (.int .i64 p2)) rfl (.p rfl)) ?_
  refine yal (yak rfl rfl rfl) rfl rfl (yap rfl (.g rfl) (.p rfl) rfl) ?_
  refine yab rfl rfl rfl (pq_or rfl (.p rfl) (.p rfl) (.g rfl)) ?_
  refine yab rfl rfl rfl (yac (p := .v (.bool (((decide (p1 < 0)) || (decide (1000000000000 < p1))) || (decide (p2 < 0))))) rfl (.p rfl)) ?_
  refine yal (yak rfl rfl rfl) rfl rfl (yac (p := .v (.int .i64 p2)) rfl (.p rfl)) ?_
  refine yal (yak rfl rfl rfl) rfl rfl (yap rfl (.g rfl) (.p rfl) rfl) ?_
  refine yab rfl rfl rfl (pq_or rfl (.p rfl) (.p rfl) (.g rfl)) ?_
  refine yaf (yah ?_)
  refine yam rfl (fun hc5 => ?_) (fun hc5 => ?_)
  ·replace h := yax hc5 h
   refine yad (yaa ?_)
   refine yab rfl rfl rfl (yae (p := .v (.int .i64 0)) rfl (.p rfl)) ?_
   refine yab rfl rfl rfl (yae (p := .v (.int .i64 2)) rfl (.p rfl)) ?_
   refine yaf (yah (yas (yaq ?_)))
   obtain rfl := Option.some.inj h
   exact yat (prv_2 (yav rfl) (yav rfl)) zsn ⟨rfl, rfl⟩
  ·replace h := yay hc5 h
   refine yan (yah (yad (yaa ?_)))
   refine yab rfl rfl rfl (yag rfl rfl rfl rfl rfl (.p rfl)) ?_
   refine yab rfl rfl rfl (yaj (p := .v (.int .i64 p0.Per)) rfl (.p rfl) zm1 rfl) ?_
   refine yab rfl rfl rfl (pq_max rfl (.p rfl) (.p rfl)) ?_
   refine yab rfl rfl rfl (pq_conv rfl rfl rfl (.p rfl)) ?_
   refine pwl_l rfl rfl rfl (pl_alloc (cs := [.v (.int .u64 0)]) rfl rfl rfl rfl (fun b6 => ?_))
   refine pwl_l0 rfl rfl (yaw (vs := [.v (.int .u64 (IntKind.u64.wrap (imax p0.Per 1)))]) rfl rfl rfl rfl rfl zuh (zlc zln) ?_)
   refine yaf (yah (yad (yaa ?_)))
   refine pwl_frb 4 rfl (by exact zpt zph) ?_
   refine pwl_frb 9 rfl (by exact zpt zph) ?_
   refine yab rfl rfl rfl (pq_makeFunc rfl) ?_
   refine yab rfl rfl rfl (yae (p := .fn 93 [.ref [.v (.int .i64 p1)] 0, .ref [.v (.int .u64 (IntKind.u64.wrap (imax p0.Per 1)))] 0]) rfl (.p rfl)) ?_
   refine yaf (yah (yad ?_))
   refine pwc_draw (ρd := []) [(0, 0), (1, 0), (2, 0), (4, 0), (5, 0), (6, 0), (7, 0), (8, 0), (9, 0), (3, 1), (10, 1), (11, 1), (12, 0), (13, 0), (14, 0), (15, 2), (16, 1), (17, 0)] _ (List.Perm.refl _) (by kernel_rfl) rfl ?_
   refine pwd_q rfl rfl rfl (yac (p := .fn 93 [.ref [.v (.int .i64 p1)] 0, .ref [.v (.int .u64 (IntKind.u64.wrap (imax p0.Per 1)))] 0]) rfl (.p rfl)) ?_
   refine pwd_q rfl rfl rfl (yag rfl rfl rfl rfl rfl (.p rfl)) ?_
   refine pwd_q rfl rfl rfl (yaj (p := .v (.int .i64 p0.Rate)) rfl (.p rfl) zm2 rfl) ?_
   refine pwd_q rfl rfl rfl (yag rfl rfl rfl rfl rfl (.p rfl)) ?_
   refine pwd_q rfl rfl rfl (yaj (p := .v (.int .i64 p0.Amount)) rfl (.p rfl) zm2 rfl) ?_
   refine pwd_q rfl rfl rfl (pq_conv rfl rfl rfl (.p rfl)) ?_
   refine pwd_q rfl rfl rfl (yac (p := .v (.int .i64 p2)) rfl (.p rfl)) ?_
   refine pwd_q rfl rfl rfl (pq_conv rfl rfl rfl (.p rfl)) ?_
   refine pwd_q rfl rfl rfl (yau rfl (.p rfl) (.p rfl) rfl) ?_
   refine yai h ?_; clear h; intro x7 hx7 h
   refine pwd_callv rfl rfl rfl rfl rfl (pfv_of (duty_Evaluate_1_ok hx7)) ?_
   refine yai h ?_; clear h; intro x8 hx8 h
   refine pwd_call rfl rfl rfl rfl rfl (exact_Mul_ok hx8) ?_
   refine yai h ?_; clear h; intro x9 hx9 h
   refine pwd_call rfl rfl rfl rfl rfl (exact_Add_ok hx9) ?_
   refine pwd_q rfl rfl rfl (yac (p := .tup [.agg [.v (.int .u64 x9.1.Hi), .v (.int .u64 x9.1.Lo)], .v (.int .i64 x9.2)]) rfl (.p rfl)) ?_
   refine pwd_q rfl rfl rfl (pq_extract (p := .agg [.v (.int .u64 x9.1.Hi), .v (.int .u64 x9.1.Lo)]) rfl (.p rfl) rfl) ?_
   refine pwd_q rfl rfl rfl (pq_extract (p := .v (.int .i64 x9.2)) rfl (.p rfl) rfl) ?_
   refine pwd_late (plate_alloc rfl rfl rfl rfl rfl) (fun _ => rfl) rfl (fun b10 => ?_)
   refine pwd_l0 rfl rfl (yaw (vs := [.v (.int .u64 x9.1.Hi), .v (.int .u64 x9.1.Lo)]) rfl rfl rfl rfl rfl zuh (zlc (zlc zln)) ?_)
   refine pwd_q rfl rfl rfl (yae (p := .v (.int .i64 x9.2)) rfl (.p rfl)) ?_
   refine pwd_nil (yah (yad (yad (yaa ?_))))
   refine yab rfl rfl rfl (yac (p := .v (.int .i64 x9.2)) rfl (.p rfl)) ?_
   refine yab rfl rfl rfl (yap rfl (.p rfl) (.p rfl) rfl) ?_
   refine yaf (yah ?_)
   refine yam rfl (fun hc11 => ?_) (fun hc11 => ?_)
   ·replace h := yax hc11 h
    refine yad (yaa ?_)
    refine yab rfl rfl rfl (yae (p := .v (.int .i64 0)) rfl (.p rfl)) ?_
    refine yab rfl rfl rfl (yae (p := .v (.int .i64 3)) rfl (.p rfl)) ?_
    refine yaf (yah (yas (yaq ?_)))
    obtain rfl := Option.some.inj h
    exact yat (prv_2 (yav rfl) (yav rfl)) zsn ⟨rfl, rfl⟩
   ·replace h := yay hc11 h
    refine yan (yah (yad (yad ?_)))
    refine pwc_draw (ρd := []) [(0, 0), (1, 0), (2, 0), (3, 0), (4, 0), (5, 0), (6, 0), (7, 1), (8, 1), (9, 0), (10, 0)] _ (List.Perm.refl _) (by kernel_rfl) rfl ?_
    refine pwd_q rfl rfl rfl (yag rfl rfl rfl rfl rfl (.p rfl)) ?_
    refine pwd_q rfl rfl rfl (yaj (p := .v (.bool p0.HasMost)) rfl (.p rfl) zm3 rfl) ?_
    refine pwd_q rfl rfl rfl (yac (p := .v (.bool p0.HasMost)) rfl (.p rfl)) ?_
    refine pwd_qg (yar rfl rfl rfl) rfl rfl (yaj (p := .agg [.v (.int .u64 x9.1.Hi), .v (.int .u64 x9.1.Lo)]) rfl (.p rfl) zm0 rfl) ?_
    refine pwd_qg (yar rfl rfl rfl) rfl rfl (yac (p := .fn 93 [.ref [.v (.int .i64 p1)] 0, .ref [.v (.int .u64 (IntKind.u64.wrap (imax p0.Per 1)))] 0]) rfl (.p rfl)) ?_
    refine pwd_qg (yar rfl rfl rfl) rfl rfl (yag rfl rfl rfl rfl rfl (.p rfl)) ?_
    refine pwd_qg (yar rfl rfl rfl) rfl rfl (yaj (p := .v (.int .i64 p0.Most)) rfl (.g rfl) zm3 rfl) ?_
    refine yai h ?_; clear h; intro x12 hx12 h
    refine pwd_callvg (yar rfl rfl rfl) rfl rfl rfl (.g rfl) (pargs_cons (.g rfl) (pargs_nil)) (fun hc => pfv_of (duty_Evaluate_1_ok (gd_t hx12 hc))) ?_
    refine yai h ?_; clear h; intro x13 hx13 h
    refine pwd_callg (yar rfl rfl rfl) rfl rfl rfl (pargs_cons (.g rfl) (pargs_cons (.g rfl) (pargs_nil))) (fun hc => exact_CompareWide_ok (gd_t hx13 hc)) ?_
    refine pwd_qg (yar rfl rfl rfl) rfl rfl (yap rfl (.g rfl) (.p rfl) rfl) ?_
    refine pwd_q rfl rfl rfl (pq_and rfl (.p rfl) (.p rfl) (.g rfl)) ?_
    refine pwd_nil (yah ?_)
    refine yai h ?_; clear h; intro q16 hq16 h
    refine pwc_join (Y := (Unit) × (Int × Int)) (fun (_, (v14, v15)) => [(3, .v (.pointer (some ⟨b1, 0, none⟩))), (9, .ref [.v (.int .u64 (IntKind.u64.wrap (imax p0.Per 1)))] 0), (10, .fn 93 [.ref [.v (.int .i64 p1)] 0, .ref [.v (.int .u64 (IntKind.u64.wrap (imax p0.Per 1)))] 0]), (11, .v (.pointer (some ⟨b10, 0, none⟩)))]) (fun (_, (v14, v15)) => [PRes.b b1 44 [.v (.int .i64 p0.Rate), .v (.int .i64 p0.Amount), .v (.int .i64 p0.Per), .v (.bool p0.HasMost), .v (.int .i64 p0.Most), .v (.bool p0.HasLeast), .v (.int .i64 p0.Least)], PRes.b b10 149 [.v (.int .u64 v14), .v (.int .u64 v15)]]) (fun (_, (v14, v15)) => q16 = (v14, v15)) ?_ ?_
    ·skip
     refine yam rfl (fun hc17 => ?_) (fun hc17 => ?_)
     ·replace hq16 := yax hc17 hq16
      refine yaa ?_
      refine yab rfl rfl rfl (yac (p := .fn 93 [.ref [.v (.int .i64 p1)] 0, .ref [.v (.int .u64 (IntKind.u64.wrap (imax p0.Per 1)))] 0]) rfl (.p rfl)) ?_
      refine yab rfl rfl rfl (yag rfl rfl rfl rfl rfl (.p rfl)) ?_
      refine yab rfl rfl rfl (yaj (p := .v (.int .i64 p0.Most)) rfl (.p rfl) zm3 rfl) ?_
      refine yai hq16 ?_; clear hq16; intro x18 hx18 hq16
      refine pwl_callv rfl rfl rfl rfl rfl (pfv_of (duty_Evaluate_1_ok hx18)) ?_
      refine pwl_l0 rfl rfl (yaw (vs := [.v (.int .u64 x18.Hi), .v (.int .u64 x18.Lo)]) rfl rfl rfl rfl rfl zuh (zlc (zlc zln)) ?_)
      refine yaf ?_
      obtain rfl := Option.some.inj hq16
      exact pk_mid ((), (x18.Hi, x18.Lo)) (zhc rfl (zhc rfl (zhc rfl (zhc rfl zhn)))) (zsc (zpt (zpt (zpt zph))) (zsc zph zsn)) rfl
     ·replace hq16 := yay hc17 hq16
      refine yan ?_
      obtain rfl := Option.some.inj hq16
      exact pk_mid ((), (x9.1.Hi, x9.1.Lo)) (zhc rfl (zhc rfl (zhc rfl (zhc rfl zhn)))) (zsc (zpt (zpt (zpt zph))) (zsc zph zsn)) rfl
    ·rintro ⟨_, ⟨v14, v15⟩⟩ τ hz; (try dsimp only at hz); subst q16; (try dsimp only at h); dsimp only [pupds]
     refine yad (yad ?_)
     refine pwc_draw (ρd := []) [(0, 0), (1, 0), (2, 0), (3, 0), (4, 0), (5, 0), (6, 0), (7, 1), (8, 1), (9, 0), (10, 0)] _ (List.Perm.refl _) (by kernel_rfl) rfl ?_
     refine pwd_q rfl rfl rfl (yag rfl rfl rfl rfl rfl (.p rfl)) ?_
     refine pwd_q rfl rfl rfl (yaj (p := .v (.bool p0.HasLeast)) rfl (.p rfl) zm0 rfl) ?_
     refine pwd_q rfl rfl rfl (yac (p := .v (.bool p0.HasLeast)) rfl (.p rfl)) ?_
     refine pwd_qg (yar rfl rfl rfl) rfl rfl (yaj (p := .agg [.v (.int .u64 v14), .v (.int .u64 v15)]) rfl (.p rfl) zm1 rfl) ?_
     refine pwd_qg (yar rfl rfl rfl) rfl rfl (yac (p := .fn 93 [.ref [.v (.int .i64 p1)] 0, .ref [.v (.int .u64 (IntKind.u64.wrap (imax p0.Per 1)))] 0]) rfl (.p rfl)) ?_
     refine pwd_qg (yar rfl rfl rfl) rfl rfl (yag rfl rfl rfl rfl rfl (.p rfl)) ?_
     refine pwd_qg (yar rfl rfl rfl) rfl rfl (yaj (p := .v (.int .i64 p0.Least)) rfl (.g rfl) zm0 rfl) ?_
     refine yai h ?_; clear h; intro x19 hx19 h
     refine pwd_callvg (yar rfl rfl rfl) rfl rfl rfl (.g rfl) (pargs_cons (.g rfl) (pargs_nil)) (fun hc => pfv_of (duty_Evaluate_1_ok (gd_t hx19 hc))) ?_
     refine yai h ?_; clear h; intro x20 hx20 h
     refine pwd_callg (yar rfl rfl rfl) rfl rfl rfl (pargs_cons (.g rfl) (pargs_cons (.g rfl) (pargs_nil))) (fun hc => exact_CompareWide_ok (gd_t hx20 hc)) ?_
     refine pwd_qg (yar rfl rfl rfl) rfl rfl (yap rfl (.g rfl) (.p rfl) rfl) ?_
     refine pwd_q rfl rfl rfl (pq_and rfl (.p rfl) (.p rfl) (.g rfl)) ?_
     refine pwd_nil (yah ?_)
     refine yai h ?_; clear h; intro q23 hq23 h
     refine pwc_join (Y := (Unit) × (Int × Int)) (fun (_, (v21, v22)) => [(9, .ref [.v (.int .u64 (IntKind.u64.wrap (imax p0.Per 1)))] 0), (11, .v (.pointer (some ⟨b10, 0, none⟩)))]) (fun (_, (v21, v22)) => [PRes.b b10 149 [.v (.int .u64 v21), .v (.int .u64 v22)]]) (fun (_, (v21, v22)) => q23 = (v21, v22)) ?_ ?_
     ·skip
      refine yam rfl (fun hc24 => ?_) (fun hc24 => ?_)
      ·replace hq23 := yax hc24 hq23
       refine yaa ?_
       refine yab rfl rfl rfl (yac (p := .fn 93 [.ref [.v (.int .i64 p1)] 0, .ref [.v (.int .u64 (IntKind.u64.wrap (imax p0.Per 1)))] 0]) rfl (.p rfl)) ?_
       refine yab rfl rfl rfl (yag rfl rfl rfl rfl rfl (.p rfl)) ?_
       refine yab rfl rfl rfl (yaj (p := .v (.int .i64 p0.Least)) rfl (.p rfl) zm0 rfl) ?_
       refine yai hq23 ?_; clear hq23; intro x25 hx25 hq23
       refine pwl_callv rfl rfl rfl rfl rfl (pfv_of (duty_Evaluate_1_ok hx25)) ?_
       refine pwl_l0 rfl rfl (yaw (vs := [.v (.int .u64 x25.Hi), .v (.int .u64 x25.Lo)]) rfl rfl rfl rfl rfl (zut zuh) (zlc (zlc zln)) ?_)
       refine yaf ?_
       obtain rfl := Option.some.inj hq23
       exact pk_mid ((), (x25.Hi, x25.Lo)) (zhc rfl (zhc rfl zhn)) (zsc (zpt zph) zsn) rfl
      ·replace hq23 := yay hc24 hq23
       refine yan ?_
       obtain rfl := Option.some.inj hq23
       exact pk_mid ((), (v14, v15)) (zhc rfl (zhc rfl zhn)) (zsc (zpt zph) zsn) rfl
     ·rintro ⟨_, ⟨v21, v22⟩⟩ τ hz; (try dsimp only at hz); subst q23; (try dsimp only at h); dsimp only [pupds]
      refine yad (yaa ?_)
      refine yab rfl rfl rfl (yaj (p := .agg [.v (.int .u64 v21), .v (.int .u64 v22)]) rfl (.p rfl) zm0 rfl) ?_
      refine yab rfl rfl rfl (pq_load_r (p := .v (.int .u64 (IntKind.u64.wrap (imax p0.Per 1)))) rfl (.p rfl) rfl) ?_
      refine yab rfl rfl rfl (yau rfl (.p rfl) (.p rfl) rfl) ?_
      refine yai h ?_; clear h; intro x26 hx26 h
      refine pwl_call rfl rfl rfl rfl rfl (exact_Div_ok hx26) ?_
      refine yab rfl rfl rfl (yac (p := .tup [.v (.int .u64 x26.1), .v (.int .i64 x26.2)]) rfl (.p rfl)) ?_
      refine yab rfl rfl rfl (pq_extract (p := .v (.int .u64 x26.1)) rfl (.p rfl) rfl) ?_
      refine yab rfl rfl rfl (pq_extract (p := .v (.int .i64 x26.2)) rfl (.p rfl) rfl) ?_
      refine yab rfl rfl rfl (yae (p := .v (.int .u64 x26.1)) rfl (.p rfl)) ?_
      refine yab rfl rfl rfl (yae (p := .v (.int .i64 x26.2)) rfl (.p rfl)) ?_
      refine yaf (yah (yad (yad (yaa ?_))))
      refine yab rfl rfl rfl (yac (p := .v (.int .i64 x26.2)) rfl (.p rfl)) ?_
      refine yab rfl rfl rfl (yap rfl (.p rfl) (.p rfl) rfl) ?_
      refine yab rfl rfl rfl (yac (p := .v (.bool (x26.2 != 0))) rfl (.p rfl)) ?_
      refine yal (yak rfl rfl rfl) rfl rfl (yac (p := .v (.int .u64 x26.1)) rfl (.p rfl)) ?_
      refine yal (yak rfl rfl rfl) rfl rfl (yap rfl (.g rfl) (.p rfl) rfl) ?_
      refine yab rfl rfl rfl (pq_or rfl (.p rfl) (.p rfl) (.g rfl)) ?_
      refine yaf (yah ?_)
      refine yam rfl (fun hc27 => ?_) (fun hc27 => ?_)
      ·replace h := yax hc27 h
       refine yad (yaa ?_)
       refine yab rfl rfl rfl (yae (p := .v (.int .i64 0)) rfl (.p rfl)) ?_
       refine yab rfl rfl rfl (yae (p := .v (.int .i64 3)) rfl (.p rfl)) ?_
       refine yaf (yah (yas (yaq ?_)))
       obtain rfl := Option.some.inj h
       exact yat (prv_2 (yav rfl) (yav rfl)) zsn ⟨rfl, rfl⟩
      ·replace h := yay hc27 h
       refine yan (yah (yad (yaa ?_)))
       refine yab rfl rfl rfl (yac (p := .v (.int .u64 x26.1)) rfl (.p rfl)) ?_
       refine yab rfl rfl rfl (pq_conv rfl rfl rfl (.p rfl)) ?_
       refine yab rfl rfl rfl (yae (p := .v (.int .i64 (IntKind.i64.wrap x26.1))) rfl (.p rfl)) ?_
       refine yab rfl rfl rfl (yae (p := .v (.int .i64 0)) rfl (.p rfl)) ?_
       refine yaf (yah (yas ?_))
       obtain rfl := Option.some.inj h
       exact yat (prv_2 (yav rfl) (yav rfl)) zsn ⟨rfl, rfl⟩
def assess_leastDuty (p0 : (List TMeasure)) (p1 : Tassess_part) : Option (TDebtLine × Bool × Int) := Option.bind (loopF (S := Bool × Int × Int × Int × Int × Int × Int) (T := (Bool × Int × Int × Int × Int × Int) ⊕ (_)) (fun (v4, v5, v6, v7, v8, v9, v10) => cond (decide (v5 < (p1.kinds.length : Int))) (Option.bind (idx p1.kinds v5) (fun m20 => Option.bind (loopF (S := Bool × Int × Int × Int × Int × Int × Int) (T := (Bool × Int × Int × Int × Int × Int) ⊕ (_)) (fun (v21, v22, v23, v24, v25, v26, v27) => cond (decide (v22 < (p0.length : Int))) (Option.bind (α := (Bool × Int × Int × Int × Int × Int) ⊕ _) (Option.bind (idx p0 v22) (fun m44 => cond (m44.Kind != m20) (some (.inl (v21, v23, v24, v25, v26, v27))) (Option.bind (duty_Evaluate m44.Duty p1.value p1.quantity) (fun x47 => cond (x47.2 != 0) (some (.inr (.inr (.inr (.inr (.inr ((⟨0, 0, 0, 0, 0⟩ : TDebtLine), false, x47.2))))))) (cond ((!v21) || (decide (x47.1 < v27))) (some (.inl (true, m44.Kind, m44.ID, p1.quantity, p1.value, x47.1))) (some (.inl (v21, v23, v24, v25, v26, v27)))))))) (fun q => match q with | .inl (v37, v38, v39, v40, v41, v42) => some (.inl (v37, (IntKind.i64.wrap (v22 + 1)), v38, v39, v40, v41, v42)) | .inr e => some e)) (some (.inr (.inl (v21, v23, v24, v25, v26, v27))))) FUEL (v4, 0, v6, v7, v8, v9, v10)) (fun q => match q with | .inl (v28, v29, v30, v31, v32, v33) => some (.inl (v28, (IntKind.i64.wrap (v5 + 1)), v29, v30, v31, v32, v33)) | .inr e => some e))) (some (.inr (.inl (v4, v6, v7, v8, v9, v10))))) FUEL (false, 0, 0, 0, 0, 0, 0)) (fun q => match q with | .inl (v11, v12, v13, v14, v15, v16) => some ((⟨v12, v13, v14, v15, v16⟩ : TDebtLine), v11, 0) | .inr e => some e)
set_option maxHeartbeats 4000000 in
theorem assess_leastDuty_ok {p0 : (List TMeasure)} {p1 : Tassess_part} {r : (TDebtLine × Bool × Int)}  (h : assess_leastDuty p0 p1 = some r) : PF 40 [.slc (List.map TMeasure.enc p0), .agg [.v (.int .i64 p1.quantity), .v (.int .i64 p1.value), .slc (List.map eI p1.kinds)]] (.tup [.agg [.v (.int .i64 r.1.Kind), .v (.int .i64 r.1.Measure), .v (.int .i64 r.1.Quantity), .v (.int .i64 r.1.Value), .v (.int .i64 r.1.Amount)], .v (.bool r.2.1), .v (.int .i64 r.2.2)]) := by
 unfold assess_leastDuty at h
 refine pf_of ?_
 refine penter Tryz.func40 fk40 rfl Tryz.ntmps40 Tryz.results40 rfl ?_
 refine yad (yaa ?_)
 refine pwl_l rfl rfl rfl (pl_box (cs := [.v (.int .i64 p1.quantity), .v (.int .i64 p1.value), .slc (List.map eI p1.kinds)]) rfl rfl (fun b1 => ?_))
 refine pwl_l rfl rfl rfl (pl_alloc (cs := [.v (.int .i64 0), .v (.int .i64 0), .v (.int .i64 0), .v (.int .i64 0), .v (.int .i64 0)]) rfl rfl rfl rfl (fun b2 => ?_))
 refine yab rfl rfl rfl (yae (p := .v (.bool false)) rfl (.p rfl)) ?_
 refine yab rfl rfl rfl (yae (p := .v (.int .i64 0)) rfl (.p rfl)) ?_
 refine yaf (yah (yad (yaa ?_)))
 refine pwl_l rfl rfl rfl (pl_alloc (cs := [.v (.int .i64 0), .v (.int .i64 0), .v (.int .i64 0), .v (.int .i64 0), .v (.int .i64 0)]) rfl rfl rfl rfl (fun b3 => ?_))
 refine yaf (yah (yad (yaa ?_)))
 refine yab rfl rfl rfl (yae (p := .v (.bool false)) rfl (.p rfl)) ?_
 refine yaf (yah (yad (yad (yaa ?_))))
 refine yab rfl rfl rfl (yag rfl rfl rfl rfl rfl (.p rfl)) ?_
 refine yab rfl rfl rfl (yaj (p := .slc (List.map eI p1.kinds)) rfl (.p rfl) zm2 rfl) ?_
 refine yab rfl rfl rfl (pq_lenT (enc := eI) rfl rfl (.p rfl)) ?_
 refine yab rfl rfl rfl (yac (p := .v (.int .i64 0)) rfl (.p rfl)) ?_
 refine yaf (yah ?_)
 refine yai h ?_; clear h; intro q18 hq18 h
 refine pwc_join (Y := (Unit) × (Bool × Int × Int × Int × Int × Int)) (fun (_, (v11, v12, v13, v14, v15, v16)) => [(4, .v (.pointer (some ⟨b2, 0, none⟩))), (7, .v (.pointer (some ⟨b3, 0, none⟩))), (8, .v (.bool v11))]) (fun (_, (v11, v12, v13, v14, v15, v16)) => [PRes.b b2 49 [.v (.int .i64 0), .v (.int .i64 0), .v (.int .i64 0), .v (.int .i64 0), .v (.int .i64 0)], PRes.b b3 49 [.v (.int .i64 v12), .v (.int .i64 v13), .v (.int .i64 v14), .v (.int .i64 v15), .v (.int .i64 v16)]]) (fun (_, (v11, v12, v13, v14, v15, v16)) => q18 = Sum.inl (v11, v12, v13, v14, v15, v16)) ?_ ?_
 ·refine pwc_block ?_
  refine pwc_loopF (Y := Unit) (S := Bool × Int × Int × Int × Int × Int × Int) _ hq18 (fun _ (v4, v5, v6, v7, v8, v9, v10) => [(0, .slc (List.map TMeasure.enc p0)), (3, .v (.pointer (some ⟨b1, 0, none⟩))), (4, .v (.pointer (some ⟨b2, 0, none⟩))), (7, .v (.pointer (some ⟨b3, 0, none⟩))), (8, .v (.bool v4)), (16, .slc (List.map eI p1.kinds)), (17, .v (.int .i64 (p1.kinds.length : Int))), (18, .v (.int .i64 v5))]) (fun _ (v4, v5, v6, v7, v8, v9, v10) => [PRes.b b1 74 [.v (.int .i64 p1.quantity), .v (.int .i64 p1.value), .slc (List.map eI p1.kinds)], PRes.b b2 49 [.v (.int .i64 0), .v (.int .i64 0), .v (.int .i64 0), .v (.int .i64 0), .v (.int .i64 0)], PRes.b b3 49 [.v (.int .i64 v6), .v (.int .i64 v7), .v (.int .i64 v8), .v (.int .i64 v9), .v (.int .i64 v10)]]) () (zhc rfl (zhc rfl (zhc rfl (zhc rfl (zhc rfl (zhc rfl (zhc rfl (zhc rfl zhn)))))))) (zsc (zpt (zpt zph)) (zsc (zpt zph) (zsc zph zsn))) ?_
  rintro _ ⟨v4, v5, v6, v7, v8, v9, v10⟩ o τ hb17; (try dsimp only at hb17); dsimp only [pupds]
  refine yad (yaa ?_)
  refine yab rfl rfl rfl (yap rfl (.p rfl) (.p rfl) rfl) ?_
  refine yaf (yah (yad ?_))
  refine yam rfl (fun hc19 => ?_) (fun hc19 => ?_)
  ·replace hb17 := yax hc19 hb17
   refine yan (yah (yad (pwc_block (yad (yaa ?_)))))
   refine yai hb17 ?_; clear hb17; intro m20 hm20 hb17
   refine yab rfl rfl rfl (pq_index (enc := eI) rfl rfl rfl (fun _ => rfl) (.p rfl) (.p rfl) (fun _ => hm20)) ?_
   refine yab rfl rfl rfl (pq_load_r (p := .v (.int .i64 m20)) rfl (.p rfl) rfl) ?_
   refine yab rfl rfl rfl (yae (p := .v (.int .i64 m20)) rfl (.p rfl)) ?_
   refine yaf (yah (yad (yaa ?_)))
   refine yab rfl rfl rfl (yac (p := .slc (List.map TMeasure.enc p0)) rfl (.p rfl)) ?_
   refine yab rfl rfl rfl (pq_lenT (enc := TMeasure.enc) rfl rfl (.p rfl)) ?_
   refine yab rfl rfl rfl (yac (p := .v (.int .i64 0)) rfl (.p rfl)) ?_
   refine yaf (yah ?_)
   refine yai hb17 ?_; clear hb17; intro q35 hq35 hb17
   refine pwc_cutK (Y := (Unit) × (Bool × Int × Int × Int × Int × Int)) (fun (_, (v28, v29, v30, v31, v32, v33)) => [(0, .slc (List.map TMeasure.enc p0)), (3, .v (.pointer (some ⟨b1, 0, none⟩))), (4, .v (.pointer (some ⟨b2, 0, none⟩))), (7, .v (.pointer (some ⟨b3, 0, none⟩))), (8, .v (.bool v28)), (16, .slc (List.map eI p1.kinds)), (17, .v (.int .i64 (p1.kinds.length : Int))), (18, .v (.int .i64 v5))]) (fun (_, (v28, v29, v30, v31, v32, v33)) => [PRes.b b1 74 [.v (.int .i64 p1.quantity), .v (.int .i64 p1.value), .slc (List.map eI p1.kinds)], PRes.b b2 49 [.v (.int .i64 0), .v (.int .i64 0), .v (.int .i64 0), .v (.int .i64 0), .v (.int .i64 0)], PRes.b b3 49 [.v (.int .i64 v29), .v (.int .i64 v30), .v (.int .i64 v31), .v (.int .i64 v32), .v (.int .i64 v33)]]) (fun (_, (v28, v29, v30, v31, v32, v33)) => q35 = Sum.inl (v28, v29, v30, v31, v32, v33)) ?_ ?_
   ·refine pwc_block ?_
    refine pwc_loopF (Y := Unit) (S := Bool × Int × Int × Int × Int × Int × Int) _ hq35 (fun _ (v21, v22, v23, v24, v25, v26, v27) => [(0, .slc (List.map TMeasure.enc p0)), (3, .v (.pointer (some ⟨b1, 0, none⟩))), (4, .v (.pointer (some ⟨b2, 0, none⟩))), (7, .v (.pointer (some ⟨b3, 0, none⟩))), (8, .v (.bool v21)), (10, .v (.int .i64 m20)), (16, .slc (List.map eI p1.kinds)), (17, .v (.int .i64 (p1.kinds.length : Int))), (18, .v (.int .i64 v5)), (22, .slc (List.map TMeasure.enc p0)), (23, .v (.int .i64 (p0.length : Int))), (24, .v (.int .i64 v22))]) (fun _ (v21, v22, v23, v24, v25, v26, v27) => [PRes.b b1 74 [.v (.int .i64 p1.quantity), .v (.int .i64 p1.value), .slc (List.map eI p1.kinds)], PRes.b b2 49 [.v (.int .i64 0), .v (.int .i64 0), .v (.int .i64 0), .v (.int .i64 0), .v (.int .i64 0)], PRes.b b3 49 [.v (.int .i64 v23), .v (.int .i64 v24), .v (.int .i64 v25), .v (.int .i64 v26), .v (.int .i64 v27)]]) () (zhc rfl (zhc rfl (zhc rfl (zhc rfl (zhc rfl (zhc rfl (zhc rfl (zhc rfl (zhc rfl (zhc rfl (zhc rfl (zhc rfl zhn)))))))))))) (zsc zph (zsc zph (zsc zph zsn))) ?_
    rintro _ ⟨v21, v22, v23, v24, v25, v26, v27⟩ o τ hb34; (try dsimp only at hb34); dsimp only [pupds]
    refine yad (yaa ?_)
    refine yab rfl rfl rfl (yap rfl (.p rfl) (.p rfl) rfl) ?_
    refine yaf (yah (yad ?_))
    refine yam rfl (fun hc36 => ?_) (fun hc36 => ?_)
    ·replace hb34 := yax hc36 hb34
     refine yan (yah (yad ?_))
     refine yai hb34 ?_; clear hb34; intro q43 hq43 hb34
     refine pwc_join (Y := (Unit) × (Bool × Int × Int × Int × Int × Int)) (fun (_, (v37, v38, v39, v40, v41, v42)) => [(0, .slc (List.map TMeasure.enc p0)), (3, .v (.pointer (some ⟨b1, 0, none⟩))), (4, .v (.pointer (some ⟨b2, 0, none⟩))), (7, .v (.pointer (some ⟨b3, 0, none⟩))), (8, .v (.bool v37)), (10, .v (.int .i64 m20)), (16, .slc (List.map eI p1.kinds)), (17, .v (.int .i64 (p1.kinds.length : Int))), (18, .v (.int .i64 v5)), (22, .slc (List.map TMeasure.enc p0)), (23, .v (.int .i64 (p0.length : Int))), (24, .v (.int .i64 v22))]) (fun (_, (v37, v38, v39, v40, v41, v42)) => [PRes.b b1 74 [.v (.int .i64 p1.quantity), .v (.int .i64 p1.value), .slc (List.map eI p1.kinds)], PRes.b b2 49 [.v (.int .i64 0), .v (.int .i64 0), .v (.int .i64 0), .v (.int .i64 0), .v (.int .i64 0)], PRes.b b3 49 [.v (.int .i64 v38), .v (.int .i64 v39), .v (.int .i64 v40), .v (.int .i64 v41), .v (.int .i64 v42)]]) (fun (_, (v37, v38, v39, v40, v41, v42)) => q43 = Sum.inl (v37, v38, v39, v40, v41, v42)) ?_ ?_
     ·skip
      refine pwc_block (yad (yaa ?_))
      refine yai hq43 ?_; clear hq43; intro m44 hm44 hq43
      refine yab rfl rfl rfl (pq_index (enc := TMeasure.enc) rfl rfl rfl (fun _ => rfl) (.p rfl) (.p rfl) (fun _ => hm44)) ?_
      refine yab rfl rfl rfl (pq_load_r (p := .agg [.v (.int .i64 m44.ID), .v (.int .i64 m44.Kind), .v (.string m44.Prefix), .slc (List.map eS m44.Origins), .v (.int .i64 m44.Company), .v (.int .i64 m44.From), .v (.int .i64 m44.To), .v (.int .i64 m44.Registered), .v (.int .i64 m44.Duty.Rate), .v (.int .i64 m44.Duty.Amount), .v (.int .i64 m44.Duty.Per), .v (.bool m44.Duty.HasMost), .v (.int .i64 m44.Duty.Most), .v (.bool m44.Duty.HasLeast), .v (.int .i64 m44.Duty.Least)]) rfl (.p rfl) rfl) ?_
      refine pwl_l rfl rfl rfl (pl_alloc (cs := [.v (.int .i64 0), .v (.int .i64 0), .v (.string ByteArray.empty), .v (.slice none 0 0), .v (.int .i64 0), .v (.int .i64 0), .v (.int .i64 0), .v (.int .i64 0), .v (.int .i64 0), .v (.int .i64 0), .v (.int .i64 0), .v (.bool false), .v (.int .i64 0), .v (.bool false), .v (.int .i64 0)]) rfl rfl rfl rfl (fun b45 => ?_))
      refine pwl_l0 rfl rfl (yaw (vs := [.v (.int .i64 m44.ID), .v (.int .i64 m44.Kind), .v (.string m44.Prefix), .slc (List.map eS m44.Origins), .v (.int .i64 m44.Company), .v (.int .i64 m44.From), .v (.int .i64 m44.To), .v (.int .i64 m44.Registered), .v (.int .i64 m44.Duty.Rate), .v (.int .i64 m44.Duty.Amount), .v (.int .i64 m44.Duty.Per), .v (.bool m44.Duty.HasMost), .v (.int .i64 m44.Duty.Most), .v (.bool m44.Duty.HasLeast), .v (.int .i64 m44.Duty.Least)]) rfl rfl rfl rfl rfl zuh (zlc (zlc (zlc (zlc (zlc (zlc (zlc (zlc (zlc (zlc (zlc (zlc (zlc (zlc (zlc zln))))))))))))))) ?_)
      refine yaf (yah (yad (yad (yaa ?_))))
      refine yab rfl rfl rfl (yag rfl rfl rfl rfl rfl (.p rfl)) ?_
      refine yab rfl rfl rfl (yaj (p := .v (.int .i64 m44.Kind)) rfl (.p rfl) zm0 rfl) ?_
      refine yab rfl rfl rfl (yac (p := .v (.int .i64 m20)) rfl (.p rfl)) ?_
      refine yab rfl rfl rfl (yap rfl (.p rfl) (.p rfl) rfl) ?_
      refine yaf (yah ?_)
      refine yam rfl (fun hc46 => ?_) (fun hc46 => ?_)
      ·replace hq43 := yax hc46 hq43
       refine pwc_exit (pk_seq_exit ?_)
       refine pk_block_eq rfl ?_
       obtain rfl := Option.some.inj hq43
       exact pk_mid ((), (v21, v23, v24, v25, v26, v27)) (zhc rfl (zhc rfl (zhc rfl (zhc rfl (zhc rfl (zhc rfl (zhc rfl (zhc rfl (zhc rfl (zhc rfl (zhc rfl (zhc rfl zhn)))))))))))) (zsc (zpt zph) (zsc (zpt zph) (zsc (zpt zph) zsn))) rfl
      ·replace hq43 := yay hc46 hq43
       refine yan (yah (yad (yaa ?_)))
       refine yab rfl rfl rfl (yag rfl rfl rfl rfl rfl (.p rfl)) ?_
       refine yab rfl rfl rfl (yaj (p := .agg [.v (.int .i64 m44.Duty.Rate), .v (.int .i64 m44.Duty.Amount), .v (.int .i64 m44.Duty.Per), .v (.bool m44.Duty.HasMost), .v (.int .i64 m44.Duty.Most), .v (.bool m44.Duty.HasLeast), .v (.int .i64 m44.Duty.Least)]) rfl (.p rfl) zm0 rfl) ?_
       refine yab rfl rfl rfl (yag rfl rfl rfl rfl rfl (.p rfl)) ?_
       refine yab rfl rfl rfl (yaj (p := .v (.int .i64 p1.value)) rfl (.p rfl) zm1 rfl) ?_
       refine yab rfl rfl rfl (yag rfl rfl rfl rfl rfl (.p rfl)) ?_
       refine yab rfl rfl rfl (yaj (p := .v (.int .i64 p1.quantity)) rfl (.p rfl) zm1 rfl) ?_
       refine yai hq43 ?_; clear hq43; intro x47 hx47 hq43
       refine pwl_call rfl rfl rfl rfl rfl (duty_Evaluate_ok hx47) ?_
       refine yab rfl rfl rfl (yac (p := .tup [.v (.int .i64 x47.1), .v (.int .i64 x47.2)]) rfl (.p rfl)) ?_
       refine yab rfl rfl rfl (pq_extract (p := .v (.int .i64 x47.1)) rfl (.p rfl) rfl) ?_
       refine yab rfl rfl rfl (pq_extract (p := .v (.int .i64 x47.2)) rfl (.p rfl) rfl) ?_
       refine yab rfl rfl rfl (yae (p := .v (.int .i64 x47.1)) rfl (.p rfl)) ?_
       refine yab rfl rfl rfl (yae (p := .v (.int .i64 x47.2)) rfl (.p rfl)) ?_
       refine yaf (yah (yad (yad (yaa ?_))))
       refine yab rfl rfl rfl (yac (p := .v (.int .i64 x47.2)) rfl (.p rfl)) ?_
       refine yab rfl rfl rfl (yap rfl (.p rfl) (.p rfl) rfl) ?_
       refine yaf (yah ?_)
       refine yam rfl (fun hc48 => ?_) (fun hc48 => ?_)
       ·replace hq43 := yax hc48 hq43
        refine yad (yaa ?_)
        refine yab rfl rfl rfl (pq_build (cs := [.v (.int .i64 0), .v (.int .i64 0), .v (.int .i64 0), .v (.int .i64 0), .v (.int .i64 0)]) rfl rfl rfl rfl rfl rfl rfl zfn) ?_
        refine yab rfl rfl rfl (yac (p := .v (.int .i64 x47.2)) rfl (.p rfl)) ?_
        refine pwl_l0 rfl rfl (yaw (vs := [.v (.int .i64 0), .v (.int .i64 0), .v (.int .i64 0), .v (.int .i64 0), .v (.int .i64 0)]) rfl rfl rfl rfl rfl (zut (zut zuh)) (zlc (zlc (zlc (zlc (zlc zln))))) ?_)
        refine yab rfl rfl rfl (yae (p := .v (.bool false)) rfl (.p rfl)) ?_
        refine yab rfl rfl rfl (yae (p := .v (.int .i64 x47.2)) rfl (.p rfl)) ?_
        refine yaf (yah (yas (yaq (yaz (pk_mid_ret ?_)))))
        obtain rfl := Option.some.inj hq43
        have hb34 := (show some _ = some _ from hb34)
        refine pk_loop_ret hb34 (fun ht => ?_); subst ht
        have hb17 := (show some _ = some _ from hb17)
        refine yaz (pk_cut_ret (yaz (yaq ?_)))
        refine pk_loop_ret hb17 (fun ht => ?_); subst ht
        have h := (show some _ = some _ from h)
        refine yaz (pk_mid_ret ?_)
        obtain rfl := Option.some.inj h
        exact yat (prv_3 (prv1_c rfl zm2 rfl) (yav rfl) (yav rfl)) zsn ⟨rfl, rfl⟩
       ·replace hq43 := yay hc48 hq43
        refine yan (yah (yad (yaa ?_)))
        refine yab rfl rfl rfl (yac (p := .v (.bool v21)) rfl (.p rfl)) ?_
        refine yab rfl rfl rfl (pq_not rfl (.p rfl)) ?_
        refine yab rfl rfl rfl (yac (p := .v (.bool (!v21))) rfl (.p rfl)) ?_
        refine yal (yak rfl rfl rfl) rfl rfl (yac (p := .v (.int .i64 x47.1)) rfl (.p rfl)) ?_
        refine yal (yak rfl rfl rfl) rfl rfl (yag rfl rfl rfl rfl rfl (.p rfl)) ?_
        refine yal (yak rfl rfl rfl) rfl rfl (yaj (p := .v (.int .i64 v27)) rfl (.g rfl) zm3 rfl) ?_
        refine yal (yak rfl rfl rfl) rfl rfl (yap rfl (.g rfl) (.g rfl) rfl) ?_
        refine yab rfl rfl rfl (pq_or rfl (.p rfl) (.p rfl) (.g rfl)) ?_
        refine yaf (yah ?_)
        refine yam rfl (fun hc49 => ?_) (fun hc49 => ?_)
        ·replace hq43 := yax hc49 hq43
         refine yad (yaa ?_)
         refine yab rfl rfl rfl (yag rfl rfl rfl rfl rfl (.p rfl)) ?_
         refine yab rfl rfl rfl (yaj (p := .v (.int .i64 m44.Kind)) rfl (.p rfl) zm0 rfl) ?_
         refine yab rfl rfl rfl (yag rfl rfl rfl rfl rfl (.p rfl)) ?_
         refine yab rfl rfl rfl (yaj (p := .v (.int .i64 m44.ID)) rfl (.p rfl) zm0 rfl) ?_
         refine yab rfl rfl rfl (yag rfl rfl rfl rfl rfl (.p rfl)) ?_
         refine yab rfl rfl rfl (yaj (p := .v (.int .i64 p1.quantity)) rfl (.p rfl) zm1 rfl) ?_
         refine yab rfl rfl rfl (yag rfl rfl rfl rfl rfl (.p rfl)) ?_
         refine yab rfl rfl rfl (yaj (p := .v (.int .i64 p1.value)) rfl (.p rfl) zm1 rfl) ?_
         refine yab rfl rfl rfl (yac (p := .v (.int .i64 x47.1)) rfl (.p rfl)) ?_
         refine yab rfl rfl rfl (pq_build (cs := [.v (.int .i64 m44.Kind), .v (.int .i64 m44.ID), .v (.int .i64 p1.quantity), .v (.int .i64 p1.value), .v (.int .i64 x47.1)]) rfl rfl rfl rfl rfl rfl rfl (zfc rfl rfl rfl rfl (zlc zln) (zfc rfl rfl rfl rfl (zlt (zlc zln)) (zfc rfl rfl rfl rfl (zlt (zlt (zlc zln))) (zfc rfl rfl rfl rfl (zlt (zlt (zlt (zlc zln)))) (zfc rfl rfl rfl rfl (zlt (zlt (zlt (zlt (zlc zln))))) zfn)))))) ?_
         refine pwl_l0 rfl rfl (yaw (vs := [.v (.int .i64 m44.Kind), .v (.int .i64 m44.ID), .v (.int .i64 p1.quantity), .v (.int .i64 p1.value), .v (.int .i64 x47.1)]) rfl rfl rfl rfl rfl (zut (zut (zut zuh))) (zlc (zlc (zlc (zlc (zlc zln))))) ?_)
         refine yaf (yah (yaa ?_))
         refine yab rfl rfl rfl (yae (p := .v (.bool true)) rfl (.p rfl)) ?_
         refine yaf (pk_block_n ?_)
         obtain rfl := Option.some.inj hq43
         exact pk_mid ((), (true, m44.Kind, m44.ID, p1.quantity, p1.value, x47.1)) (zhc rfl (zhc rfl (zhc rfl (zhc rfl (zhc rfl (zhc rfl (zhc rfl (zhc rfl (zhc rfl (zhc rfl (zhc rfl (zhc rfl zhn)))))))))))) (zsc (zpt zph) (zsc (zpt zph) (zsc (zpt zph) zsn))) rfl
        ·replace hq43 := yay hc49 hq43
         refine yan (pk_block_n ?_)
         obtain rfl := Option.some.inj hq43
         exact pk_mid ((), (v21, v23, v24, v25, v26, v27)) (zhc rfl (zhc rfl (zhc rfl (zhc rfl (zhc rfl (zhc rfl (zhc rfl (zhc rfl (zhc rfl (zhc rfl (zhc rfl (zhc rfl zhn)))))))))))) (zsc (zpt zph) (zsc (zpt zph) (zsc (zpt zph) zsn))) rfl
     ·rintro ⟨_, ⟨v37, v38, v39, v40, v41, v42⟩⟩ τ hz; (try dsimp only at hz); subst q43; (try dsimp only at hb34); dsimp only [pupds]
      refine yaa ?_
      refine yab rfl rfl rfl (yau rfl (.p rfl) (.p rfl) rfl) ?_
      refine yab rfl rfl rfl (yac (p := .v (.int .i64 (IntKind.i64.wrap (v22 + 1)))) rfl (.p rfl)) ?_
      refine yaf ?_
      exact pk_loop hb34 () (zhc rfl (zhc rfl (zhc rfl (zhc rfl (zhc rfl (zhc rfl (zhc rfl (zhc rfl (zhc rfl (zhc rfl (zhc rfl (zhc rfl zhn)))))))))))) (zsc zph (zsc zph (zsc zph zsn)))
    ·replace hb34 := yay hc36 hb34
     refine pwc_exit (pk_seq_exit ?_)
     refine pk_loop_exit hb34 (fun ht => ?_)
     refine pk_block_eq rfl ?_
     exact pk_cut ((), (v21, v23, v24, v25, v26, v27)) (zhc rfl (zhc rfl (zhc rfl (zhc rfl (zhc rfl (zhc rfl (zhc rfl (zhc rfl zhn)))))))) (zsc zph (zsc zph (zsc zph zsn))) ht.symm
   ·rintro ⟨_, ⟨v28, v29, v30, v31, v32, v33⟩⟩ τ ρ1 hsub50 hz; (try dsimp only at hz hsub50); subst q35; (try dsimp only at hb17); dsimp only [pupds]
    refine pk_block_n (yah ?_)
    refine pwc_sub hsub50 ?_
    refine yaa ?_
    refine yab rfl rfl rfl (yau rfl (.p rfl) (.p rfl) rfl) ?_
    refine yab rfl rfl rfl (yac (p := .v (.int .i64 (IntKind.i64.wrap (v5 + 1)))) rfl (.p rfl)) ?_
    refine yaf ?_
    exact pk_loop hb17 () (zhc rfl (zhc rfl (zhc rfl (zhc rfl (zhc rfl (zhc rfl (zhc rfl (zhc rfl zhn)))))))) (zsc zph (zsc zph (zsc zph zsn)))
  ·replace hb17 := yay hc19 hb17
   refine pwc_exit (pk_seq_exit ?_)
   refine pk_loop_exit hb17 (fun ht => ?_)
   refine pk_block_eq rfl ?_
   exact pk_mid ((), (v4, v6, v7, v8, v9, v10)) (zhc rfl (zhc rfl (zhc rfl zhn))) (zsc (zpt zph) (zsc (zpt zph) zsn)) ht.symm
 ·rintro ⟨_, ⟨v11, v12, v13, v14, v15, v16⟩⟩ τ hz; (try dsimp only at hz); subst q18; (try dsimp only at h); dsimp only [pupds]
  refine yad (yaa ?_)
  refine yab rfl rfl rfl (yaj (p := .agg [.v (.int .i64 v12), .v (.int .i64 v13), .v (.int .i64 v14), .v (.int .i64 v15), .v (.int .i64 v16)]) rfl (.p rfl) zm1 rfl) ?_
  refine yab rfl rfl rfl (yac (p := .v (.bool v11)) rfl (.p rfl)) ?_
  refine pwl_l0 rfl rfl (yaw (vs := [.v (.int .i64 v12), .v (.int .i64 v13), .v (.int .i64 v14), .v (.int .i64 v15), .v (.int .i64 v16)]) rfl rfl rfl rfl rfl zuh (zlc (zlc (zlc (zlc (zlc zln))))) ?_)
  refine yab rfl rfl rfl (yae (p := .v (.bool v11)) rfl (.p rfl)) ?_
  refine yab rfl rfl rfl (yae (p := .v (.int .i64 0)) rfl (.p rfl)) ?_
  refine yaf (yah (yas ?_))
  obtain rfl := Option.some.inj h
  exact yat (prv_3 (prv1_c rfl zm0 rfl) (yav rfl) (yav rfl)) zsn ⟨rfl, rfl⟩
def measure_Applicable (p0 : (List TMeasure)) (p1 : ByteArray) (p2 : ByteArray) (p3 : Int) (p4 : Int) : Option (List TMeasure) := Option.bind (loopF (S := ByteArray × Int × Int × (List TMeasure) × Int) (T := ((List TMeasure))) (fun (v1, v2, v3, l5, v8) => cond (decide (v8 ≤ 6)) (Option.bind (Option.bind (loopF (S := Int × Int) (T := (Int)) (fun (v22, v23) => cond (decide (v23 < (p0.length : Int))) (Option.bind (Option.bind (idx p0 v23) (fun m32 => Option.bind (gd (m32.Kind == v8) (measure_Covers m32 p1 v1 v2 v3)) (fun x34 => Option.bind (gd (((m32.Kind == v8) && x34) && (!(decide (v22 < 0)))) (idx p0 v22)) (fun m35 => Option.bind (gd (((m32.Kind == v8) && x34) && (!(decide (v22 < 0)))) (measure_precedes m32 m35)) (fun x36 => cond (((m32.Kind == v8) && x34) && ((decide (v22 < 0)) || x36)) (some v23) (some v22)))))) (fun v30 => some (.inl (v30, (IntKind.i64.wrap (v23 + 1)))))) (some (.inr v22))) FUEL ((-1), 0)) (fun v25 => cond (decide (0 ≤ v25)) (Option.bind (idx p0 v25) (fun m39 => Option.bind (slices_Clone_string_string m39.Origins) (fun x41 => Option.bind (app 144 l5 [(⟨m39.ID, m39.Kind, m39.Prefix, x41, m39.Company, m39.From, m39.To, m39.Registered, m39.Duty⟩ : TMeasure)]) (fun l47 => some l47)))) (some l5))) (fun l20 => some (.inl (v1, v2, v3, l20, (IntKind.i64.wrap (v8 + 1)))))) (some (.inr l5))) FUEL (p2, p3, p4, ([] : List TMeasure), 1)) (fun l12 => some l12)
set_option maxHeartbeats 4000000 in
theorem measure_Applicable_ok {p0 : (List TMeasure)} {p1 : ByteArray} {p2 : ByteArray} {p3 : Int} {p4 : Int} {r : (List TMeasure)}  (h : measure_Applicable p0 p1 p2 p3 p4 = some r) : PF 36 [.slc (List.map TMeasure.enc p0), .v (.string p1), .v (.string p2), .v (.int .i64 p3), .v (.int .i64 p4)] (.slc (List.map TMeasure.enc r)) := by
 unfold measure_Applicable at h
 refine pf_of ?_
 refine penter Tryz.func36 fk36 rfl Tryz.ntmps36 Tryz.results36 rfl ?_
 refine yad (yaa ?_)
 refine yab rfl rfl rfl (yae (p := .v (.slice none 0 0)) rfl (.p rfl)) ?_
 refine yaf (yah (yad (yaa ?_)))
 refine yab rfl rfl rfl (yae (p := .v (.slice none 0 0)) rfl (.p rfl)) ?_
 refine yaf (yah (yad (yad (yaa ?_))))
 refine yab rfl rfl rfl (yae (p := .v (.int .i64 1)) rfl (.p rfl)) ?_
 refine yaf (yah ?_)
 refine pwc_nilrow 46 15 ?_
 refine yai h ?_; clear h; intro q14 hq14 h
 refine pwc_join (Y := (Option Addr × Nat) × ((List TMeasure))) (fun ((a10, c11), l12) => [(11, .v (.slice a10 l12.length c11))]) (fun ((a10, c11), l12) => [PRes.row a10 l12.length c11 46 15 (List.map TMeasure.enc l12)]) (fun ((a10, c11), l12) => q14 = l12) ?_ ?_
 ·refine pwc_block ?_
  refine pwc_loopF (Y := Option Addr × Nat) (S := ByteArray × Int × Int × (List TMeasure) × Int) _ hq14 (fun (a6, c7) (v1, v2, v3, l5, v8) => [(0, .slc (List.map TMeasure.enc p0)), (1, .v (.string p1)), (2, .v (.string v1)), (3, .v (.int .i64 v2)), (4, .v (.int .i64 v3)), (11, .v (.slice a6 l5.length c7)), (12, .v (.int .i64 v8))]) (fun (a6, c7) (v1, v2, v3, l5, v8) => [PRes.row a6 l5.length c7 46 15 (List.map TMeasure.enc l5)]) (none, 0) (zhc rfl (zhc rfl (zhc rfl (zhc rfl (zhc rfl (zhc rfl (zhc rfl zhn))))))) (zsc zph zsn) ?_
  rintro ⟨a6, c7⟩ ⟨v1, v2, v3, l5, v8⟩ o τ hb13; (try dsimp only at hb13); dsimp only [pupds]
  refine yad (yad (yaa ?_))
  refine yab rfl rfl rfl (yac (p := .v (.int .i64 v8)) rfl (.p rfl)) ?_
  refine yab rfl rfl rfl (yap rfl (.p rfl) (.p rfl) rfl) ?_
  refine yaf (yah ?_)
  refine yam rfl (fun hc16 => ?_) (fun hc16 => ?_)
  ·replace hb13 := yax hc16 hb13
   refine yan (yah (yad ?_))
   refine yai hb13 ?_; clear hb13; intro q21 hq21 hb13
   refine pwc_join (Y := (Option Addr × Nat) × ((List TMeasure))) (fun ((a18, c19), l20) => [(0, .slc (List.map TMeasure.enc p0)), (1, .v (.string p1)), (2, .v (.string v1)), (3, .v (.int .i64 v2)), (4, .v (.int .i64 v3)), (11, .v (.slice a18 l20.length c19)), (12, .v (.int .i64 v8))]) (fun ((a18, c19), l20) => [PRes.row a18 l20.length c19 46 15 (List.map TMeasure.enc l20)]) (fun ((a18, c19), l20) => q21 = l20) ?_ ?_
   ·skip
    refine pwc_block (yad (yaa ?_))
    refine yab rfl rfl rfl (yae (p := .v (.int .i64 (-1))) rfl (.p rfl)) ?_
    refine yaf (yah (yad (yad (yaa ?_))))
    refine yab rfl rfl rfl (yac (p := .slc (List.map TMeasure.enc p0)) rfl (.p rfl)) ?_
    refine yab rfl rfl rfl (pq_lenT (enc := TMeasure.enc) rfl rfl (.p rfl)) ?_
    refine yab rfl rfl rfl (yac (p := .v (.int .i64 0)) rfl (.p rfl)) ?_
    refine yaf (yah ?_)
    refine yai hq21 ?_; clear hq21; intro q27 hq27 hq21
    refine pwc_join (Y := (Unit) × (Int)) (fun (_, v25) => [(0, .slc (List.map TMeasure.enc p0)), (1, .v (.string p1)), (2, .v (.string v1)), (3, .v (.int .i64 v2)), (4, .v (.int .i64 v3)), (11, .v (.slice a6 l5.length c7)), (12, .v (.int .i64 v8)), (13, .v (.int .i64 v25))]) (fun (_, v25) => [PRes.row a6 l5.length c7 46 15 (List.map TMeasure.enc l5)]) (fun (_, v25) => q27 = v25) ?_ ?_
    ·refine pwc_block ?_
     refine pwc_loopF (Y := Unit) (S := Int × Int) _ hq27 (fun _ (v22, v23) => [(0, .slc (List.map TMeasure.enc p0)), (1, .v (.string p1)), (2, .v (.string v1)), (3, .v (.int .i64 v2)), (4, .v (.int .i64 v3)), (11, .v (.slice a6 l5.length c7)), (12, .v (.int .i64 v8)), (13, .v (.int .i64 v22)), (21, .slc (List.map TMeasure.enc p0)), (22, .v (.int .i64 (p0.length : Int))), (23, .v (.int .i64 v23))]) (fun _ (v22, v23) => [PRes.row a6 l5.length c7 46 15 (List.map TMeasure.enc l5)]) () (zhc rfl (zhc rfl (zhc rfl (zhc rfl (zhc rfl (zhc rfl (zhc rfl (zhc rfl (zhc rfl (zhc rfl (zhc rfl zhn))))))))))) (zsc zph zsn) ?_
     rintro _ ⟨v22, v23⟩ o τ hb26; (try dsimp only at hb26); dsimp only [pupds]
     refine yad (yaa ?_)
     refine yab rfl rfl rfl (yap rfl (.p rfl) (.p rfl) rfl) ?_
     refine yaf (yah (yad ?_))
     refine yam rfl (fun hc28 => ?_) (fun hc28 => ?_)
     ·replace hb26 := yax hc28 hb26
      refine yan (yah (yad ?_))
      refine yai hb26 ?_; clear hb26; intro q31 hq31 hb26
      refine pwc_join (Y := (Unit) × (Int)) (fun (_, v30) => [(0, .slc (List.map TMeasure.enc p0)), (1, .v (.string p1)), (2, .v (.string v1)), (3, .v (.int .i64 v2)), (4, .v (.int .i64 v3)), (11, .v (.slice a6 l5.length c7)), (12, .v (.int .i64 v8)), (13, .v (.int .i64 v30)), (21, .slc (List.map TMeasure.enc p0)), (22, .v (.int .i64 (p0.length : Int))), (23, .v (.int .i64 v23))]) (fun (_, v30) => [PRes.row a6 l5.length c7 46 15 (List.map TMeasure.enc l5)]) (fun (_, v30) => q31 = v30) ?_ ?_
      ·skip
       refine pwc_block (yad (yaa ?_))
       refine yab rfl rfl rfl (yac (p := .v (.int .i64 v23)) rfl (.p rfl)) ?_
       refine yai hq31 ?_; clear hq31; intro m32 hm32 hq31
       refine yab rfl rfl rfl (pq_index (enc := TMeasure.enc) rfl rfl rfl (fun _ => rfl) (.p rfl) (.p rfl) (fun _ => hm32)) ?_
       refine yab rfl rfl rfl (pq_load_r (p := .agg [.v (.int .i64 m32.ID), .v (.int .i64 m32.Kind), .v (.string m32.Prefix), .slc (List.map eS m32.Origins), .v (.int .i64 m32.Company), .v (.int .i64 m32.From), .v (.int .i64 m32.To), .v (.int .i64 m32.Registered), .v (.int .i64 m32.Duty.Rate), .v (.int .i64 m32.Duty.Amount), .v (.int .i64 m32.Duty.Per), .v (.bool m32.Duty.HasMost), .v (.int .i64 m32.Duty.Most), .v (.bool m32.Duty.HasLeast), .v (.int .i64 m32.Duty.Least)]) rfl (.p rfl) rfl) ?_
       refine pwl_l rfl rfl rfl (pl_alloc (cs := [.v (.int .i64 0), .v (.int .i64 0), .v (.string ByteArray.empty), .v (.slice none 0 0), .v (.int .i64 0), .v (.int .i64 0), .v (.int .i64 0), .v (.int .i64 0), .v (.int .i64 0), .v (.int .i64 0), .v (.int .i64 0), .v (.bool false), .v (.int .i64 0), .v (.bool false), .v (.int .i64 0)]) rfl rfl rfl rfl (fun b33 => ?_))
       refine yab rfl rfl rfl (yae (p := .v (.int .i64 v23)) rfl (.p rfl)) ?_
       refine pwl_l0 rfl rfl (yaw (vs := [.v (.int .i64 m32.ID), .v (.int .i64 m32.Kind), .v (.string m32.Prefix), .slc (List.map eS m32.Origins), .v (.int .i64 m32.Company), .v (.int .i64 m32.From), .v (.int .i64 m32.To), .v (.int .i64 m32.Registered), .v (.int .i64 m32.Duty.Rate), .v (.int .i64 m32.Duty.Amount), .v (.int .i64 m32.Duty.Per), .v (.bool m32.Duty.HasMost), .v (.int .i64 m32.Duty.Most), .v (.bool m32.Duty.HasLeast), .v (.int .i64 m32.Duty.Least)]) rfl rfl rfl rfl rfl zuh (zlc (zlc (zlc (zlc (zlc (zlc (zlc (zlc (zlc (zlc (zlc (zlc (zlc (zlc (zlc zln))))))))))))))) ?_)
       refine yaf (yah (yad ?_))
       refine pwc_draw (ρd := []) [(0, 0), (1, 0), (2, 0), (3, 0), (4, 0), (5, 0), (6, 0), (7, 0), (8, 0), (9, 0), (10, 1), (11, 0), (12, 0), (13, 0), (14, 0), (15, 0), (16, 0), (17, 0), (18, 0), (19, 0), (20, 0), (21, 1), (22, 0), (23, 0)] _ (List.Perm.refl _) (by kernel_rfl) rfl ?_
       refine pwd_q rfl rfl rfl (yag rfl rfl rfl rfl rfl (.p rfl)) ?_
       refine pwd_q rfl rfl rfl (yaj (p := .v (.int .i64 m32.Kind)) rfl (.p rfl) zm0 rfl) ?_
       refine pwd_q rfl rfl rfl (yac (p := .v (.int .i64 v8)) rfl (.p rfl)) ?_
       refine pwd_q rfl rfl rfl (yap rfl (.p rfl) (.p rfl) rfl) ?_
       refine pwd_q rfl rfl rfl (yac (p := .v (.bool (m32.Kind == v8))) rfl (.p rfl)) ?_
       refine pwd_qg (yar rfl rfl rfl) rfl rfl (yaj (p := .agg [.v (.int .i64 m32.ID), .v (.int .i64 m32.Kind), .v (.string m32.Prefix), .slc (List.map eS m32.Origins), .v (.int .i64 m32.Company), .v (.int .i64 m32.From), .v (.int .i64 m32.To), .v (.int .i64 m32.Registered), .v (.int .i64 m32.Duty.Rate), .v (.int .i64 m32.Duty.Amount), .v (.int .i64 m32.Duty.Per), .v (.bool m32.Duty.HasMost), .v (.int .i64 m32.Duty.Most), .v (.bool m32.Duty.HasLeast), .v (.int .i64 m32.Duty.Least)]) rfl (.p rfl) zm0 rfl) ?_
       refine pwd_qg (yar rfl rfl rfl) rfl rfl (yac (p := .v (.string p1)) rfl (.p rfl)) ?_
       refine pwd_qg (yar rfl rfl rfl) rfl rfl (yac (p := .v (.string v1)) rfl (.p rfl)) ?_
       refine pwd_qg (yar rfl rfl rfl) rfl rfl (yac (p := .v (.int .i64 v2)) rfl (.p rfl)) ?_
       refine pwd_qg (yar rfl rfl rfl) rfl rfl (yac (p := .v (.int .i64 v3)) rfl (.p rfl)) ?_
       refine yai hq31 ?_; clear hq31; intro x34 hx34 hq31
       refine pwd_callg (yar rfl rfl rfl) rfl rfl rfl (pargs_cons (.g rfl) (pargs_cons (.g rfl) (pargs_cons (.g rfl) (pargs_cons (.g rfl) (pargs_cons (.g rfl) (pargs_nil)))))) (fun hc => measure_Covers_ok (gd_t hx34 hc)) ?_
       refine pwd_q rfl rfl rfl (pq_and rfl (.p rfl) (.p rfl) (.g rfl)) ?_
       refine pwd_q rfl rfl rfl (yac (p := .v (.bool ((m32.Kind == v8) && x34))) rfl (.p rfl)) ?_
       refine pwd_qg (yar rfl rfl rfl) rfl rfl (yac (p := .v (.int .i64 v22)) rfl (.p rfl)) ?_
       refine pwd_qg (yar rfl rfl rfl) rfl rfl (yap rfl (.g rfl) (.p rfl) rfl) ?_
       refine pwd_qg (yar rfl rfl rfl) rfl rfl (yac (p := .v (.bool (decide (v22 < 0)))) rfl (.g rfl)) ?_
       refine pwd_qg (pguard_gf rfl rfl rfl) rfl rfl (yaj (p := .agg [.v (.int .i64 m32.ID), .v (.int .i64 m32.Kind), .v (.string m32.Prefix), .slc (List.map eS m32.Origins), .v (.int .i64 m32.Company), .v (.int .i64 m32.From), .v (.int .i64 m32.To), .v (.int .i64 m32.Registered), .v (.int .i64 m32.Duty.Rate), .v (.int .i64 m32.Duty.Amount), .v (.int .i64 m32.Duty.Per), .v (.bool m32.Duty.HasMost), .v (.int .i64 m32.Duty.Most), .v (.bool m32.Duty.HasLeast), .v (.int .i64 m32.Duty.Least)]) rfl (.p rfl) zm0 rfl) ?_
       refine pwd_qg (pguard_gf rfl rfl rfl) rfl rfl (yac (p := .slc (List.map TMeasure.enc p0)) rfl (.p rfl)) ?_
       refine pwd_qg (pguard_gf rfl rfl rfl) rfl rfl (yac (p := .v (.int .i64 v22)) rfl (.p rfl)) ?_
       refine yai hq31 ?_; clear hq31; intro m35 hm35 hq31
       refine pwd_qg (pguard_gf rfl rfl rfl) rfl rfl (pq_index (enc := TMeasure.enc) rfl rfl rfl (fun _ => rfl) (.g rfl) (.g rfl) (gd_t hm35)) ?_
       refine pwd_qg (pguard_gf rfl rfl rfl) rfl rfl (pq_load_r (p := .agg [.v (.int .i64 m35.ID), .v (.int .i64 m35.Kind), .v (.string m35.Prefix), .slc (List.map eS m35.Origins), .v (.int .i64 m35.Company), .v (.int .i64 m35.From), .v (.int .i64 m35.To), .v (.int .i64 m35.Registered), .v (.int .i64 m35.Duty.Rate), .v (.int .i64 m35.Duty.Amount), .v (.int .i64 m35.Duty.Per), .v (.bool m35.Duty.HasMost), .v (.int .i64 m35.Duty.Most), .v (.bool m35.Duty.HasLeast), .v (.int .i64 m35.Duty.Least)]) rfl (.g rfl) rfl) ?_
       refine yai hq31 ?_; clear hq31; intro x36 hx36 hq31
       refine pwd_callg (pguard_gf rfl rfl rfl) rfl rfl rfl (pargs_cons (.g rfl) (pargs_cons (.g rfl) (pargs_nil))) (fun hc => measure_precedes_ok (gd_t hx36 hc)) ?_
       refine pwd_qg (yar rfl rfl rfl) rfl rfl (pq_or rfl (.g rfl) (.p rfl) (.g rfl)) ?_
       refine pwd_q rfl rfl rfl (pq_and rfl (.p rfl) (.p rfl) (.g rfl)) ?_
       refine pwd_nil (yah ?_)
       refine yam rfl (fun hc37 => ?_) (fun hc37 => ?_)
       ·replace hq31 := yax hc37 hq31
        refine yaa ?_
        refine yab rfl rfl rfl (yac (p := .v (.int .i64 v23)) rfl (.p rfl)) ?_
        refine yab rfl rfl rfl (yae (p := .v (.int .i64 v23)) rfl (.p rfl)) ?_
        refine yaf (pk_block_n ?_)
        obtain rfl := Option.some.inj hq31
        exact pk_mid ((), v23) (zhc rfl (zhc rfl (zhc rfl (zhc rfl (zhc rfl (zhc rfl (zhc rfl (zhc rfl (zhc rfl (zhc rfl (zhc rfl zhn))))))))))) (zsc (zpt zph) zsn) rfl
       ·replace hq31 := yay hc37 hq31
        refine yan (pk_block_n ?_)
        obtain rfl := Option.some.inj hq31
        exact pk_mid ((), v22) (zhc rfl (zhc rfl (zhc rfl (zhc rfl (zhc rfl (zhc rfl (zhc rfl (zhc rfl (zhc rfl (zhc rfl (zhc rfl zhn))))))))))) (zsc (zpt zph) zsn) rfl
      ·rintro ⟨_, v30⟩ τ hz; (try dsimp only at hz); subst q31; (try dsimp only at hb26); dsimp only [pupds]
       refine yaa ?_
       refine yab rfl rfl rfl (yau rfl (.p rfl) (.p rfl) rfl) ?_
       refine yab rfl rfl rfl (yac (p := .v (.int .i64 (IntKind.i64.wrap (v23 + 1)))) rfl (.p rfl)) ?_
       refine yaf ?_
       exact pk_loop hb26 () (zhc rfl (zhc rfl (zhc rfl (zhc rfl (zhc rfl (zhc rfl (zhc rfl (zhc rfl (zhc rfl (zhc rfl (zhc rfl zhn))))))))))) (zsc zph zsn)
     ·replace hb26 := yay hc28 hb26
      refine pwc_exit (pk_seq_exit ?_)
      refine pk_loop_exit hb26 (fun ht => ?_)
      refine pk_block_eq rfl ?_
      exact pk_mid ((), v22) (zhc rfl (zhc rfl (zhc rfl (zhc rfl (zhc rfl (zhc rfl (zhc rfl (zhc rfl zhn)))))))) (zsc zph zsn) ht.symm
    ·rintro ⟨_, v25⟩ τ hz; (try dsimp only at hz); subst q27; (try dsimp only at hq21); dsimp only [pupds]
     refine yad (yaa ?_)
     refine yab rfl rfl rfl (yac (p := .v (.int .i64 v25)) rfl (.p rfl)) ?_
     refine yab rfl rfl rfl (yap rfl (.p rfl) (.p rfl) rfl) ?_
     refine yaf (yah ?_)
     refine yam rfl (fun hc38 => ?_) (fun hc38 => ?_)
     ·replace hq21 := yax hc38 hq21
      refine yad (yaa ?_)
      refine yab rfl rfl rfl (yac (p := .slc (List.map TMeasure.enc p0)) rfl (.p rfl)) ?_
      refine yab rfl rfl rfl (yac (p := .v (.int .i64 v25)) rfl (.p rfl)) ?_
      refine yai hq21 ?_; clear hq21; intro m39 hm39 hq21
      refine yab rfl rfl rfl (pq_index (enc := TMeasure.enc) rfl rfl rfl (fun _ => rfl) (.p rfl) (.p rfl) (fun _ => hm39)) ?_
      refine yab rfl rfl rfl (pq_load_r (p := .agg [.v (.int .i64 m39.ID), .v (.int .i64 m39.Kind), .v (.string m39.Prefix), .slc (List.map eS m39.Origins), .v (.int .i64 m39.Company), .v (.int .i64 m39.From), .v (.int .i64 m39.To), .v (.int .i64 m39.Registered), .v (.int .i64 m39.Duty.Rate), .v (.int .i64 m39.Duty.Amount), .v (.int .i64 m39.Duty.Per), .v (.bool m39.Duty.HasMost), .v (.int .i64 m39.Duty.Most), .v (.bool m39.Duty.HasLeast), .v (.int .i64 m39.Duty.Least)]) rfl (.p rfl) rfl) ?_
      refine pwl_l rfl rfl rfl (pl_alloc (cs := [.v (.int .i64 0), .v (.int .i64 0), .v (.string ByteArray.empty), .v (.slice none 0 0), .v (.int .i64 0), .v (.int .i64 0), .v (.int .i64 0), .v (.int .i64 0), .v (.int .i64 0), .v (.int .i64 0), .v (.int .i64 0), .v (.bool false), .v (.int .i64 0), .v (.bool false), .v (.int .i64 0)]) rfl rfl rfl rfl (fun b40 => ?_))
      refine pwl_l0 rfl rfl (yaw (vs := [.v (.int .i64 m39.ID), .v (.int .i64 m39.Kind), .v (.string m39.Prefix), .slc (List.map eS m39.Origins), .v (.int .i64 m39.Company), .v (.int .i64 m39.From), .v (.int .i64 m39.To), .v (.int .i64 m39.Registered), .v (.int .i64 m39.Duty.Rate), .v (.int .i64 m39.Duty.Amount), .v (.int .i64 m39.Duty.Per), .v (.bool m39.Duty.HasMost), .v (.int .i64 m39.Duty.Most), .v (.bool m39.Duty.HasLeast), .v (.int .i64 m39.Duty.Least)]) rfl rfl rfl rfl rfl zuh (zlc (zlc (zlc (zlc (zlc (zlc (zlc (zlc (zlc (zlc (zlc (zlc (zlc (zlc (zlc zln))))))))))))))) ?_)
      refine yaf (yah (yad (yaa ?_)))
      refine yab rfl rfl rfl (yag rfl rfl rfl rfl rfl (.p rfl)) ?_
      refine yab rfl rfl rfl (yaj (p := .slc (List.map eS m39.Origins)) rfl (.p rfl) zm0 rfl) ?_
      refine yai hq21 ?_; clear hq21; intro x41 hx41 hq21
      refine pwl_l rfl rfl rfl (pl_callR rfl rfl (ρ1 := []) (List.Perm.refl _) (slices_Clone_string_string_ok hx41) ?_); rintro _ _ ⟨a42, c43, rfl, rfl⟩
      refine yab rfl rfl rfl (yag rfl rfl rfl rfl rfl (.p rfl)) ?_
      refine pwl_l0 rfl rfl (yaw (vs := [.v (.slice a42 x41.length c43)]) rfl rfl rfl rfl rfl (zut zuh) (zlt (zlt (zlt (zlc zln)))) ?_)
      refine yaf (yah (yaa ?_))
      refine yab rfl rfl rfl (yac (p := .v (.slice a6 l5.length c7)) rfl (.p rfl)) ?_
      refine pwl_frz (css := List.map eS x41) (a := a42) (by exact zph) ?_
      refine pwl_viewb (k := 3) (css := List.map eS x41) (b := b40) (a := a42) rfl zm0 (zut zuh) ?_
      refine yab rfl rfl rfl (yaj (p := .agg [.v (.int .i64 m39.ID), .v (.int .i64 m39.Kind), .v (.string m39.Prefix), .slc (List.map eS x41), .v (.int .i64 m39.Company), .v (.int .i64 m39.From), .v (.int .i64 m39.To), .v (.int .i64 m39.Registered), .v (.int .i64 m39.Duty.Rate), .v (.int .i64 m39.Duty.Amount), .v (.int .i64 m39.Duty.Per), .v (.bool m39.Duty.HasMost), .v (.int .i64 m39.Duty.Most), .v (.bool m39.Duty.HasLeast), .v (.int .i64 m39.Duty.Least)]) rfl (.p rfl) zm1 rfl) ?_
      refine pwl_l rfl rfl rfl (pl_lit rfl rfl rfl rfl rfl (zic rfl zin) rfl rfl rfl rfl (fun b45 => ?_))
      refine yai hq21 ?_; clear hq21; intro l47 hl47 hq21
      refine pwl_l rfl rfl rfl (pl_app_o (enc := TMeasure.enc) rfl rfl rfl rfl rfl rfl rfl rfl rfl zm0 (by exact zpt (zpt (zpt zph))) hl47 (fun a48 c49 => ?_))
      refine yab rfl rfl rfl (yae (p := .v (.slice a48 l47.length c49)) rfl (.p rfl)) ?_
      refine yaf (pk_block_n ?_)
      obtain rfl := Option.some.inj hq21
      exact pk_mid ((a48, c49), l47) (zhc rfl (zhc rfl (zhc rfl (zhc rfl (zhc rfl (zhc rfl (zhc rfl zhn))))))) (zsc zph zsn) rfl
     ·replace hq21 := yay hc38 hq21
      refine yan (pk_block_n ?_)
      obtain rfl := Option.some.inj hq21
      exact pk_mid ((a6, c7), l5) (zhc rfl (zhc rfl (zhc rfl (zhc rfl (zhc rfl (zhc rfl (zhc rfl zhn))))))) (zsc zph zsn) rfl
   ·rintro ⟨⟨a18, c19⟩, l20⟩ τ hz; (try dsimp only at hz); subst q21; (try dsimp only at hb13); dsimp only [pupds]
    refine yaa ?_
    refine yab rfl rfl rfl (yac (p := .v (.int .i64 v8)) rfl (.p rfl)) ?_
    refine yab rfl rfl rfl (yau rfl (.p rfl) (.p rfl) rfl) ?_
    refine yab rfl rfl rfl (yae (p := .v (.int .i64 (IntKind.i64.wrap (v8 + 1)))) rfl (.p rfl)) ?_
    refine yaf ?_
    exact pk_loop hb13 (a18, c19) (zhc rfl (zhc rfl (zhc rfl (zhc rfl (zhc rfl (zhc rfl (zhc rfl zhn))))))) (zsc zph zsn)
  ·replace hb13 := yay hc16 hb13
   refine pwc_exit (pk_seq_exit ?_)
   refine pk_loop_exit hb13 (fun ht => ?_)
   refine pk_block_eq rfl ?_
   exact pk_mid ((a6, c7), l5) (zhc rfl zhn) (zsc zph zsn) ht.symm
 ·rintro ⟨⟨a10, c11⟩, l12⟩ τ hz; (try dsimp only at hz); subst q14; (try dsimp only at h); dsimp only [pupds]
  refine yad (yaa ?_)
  refine yab rfl rfl rfl (yac (p := .v (.slice a10 l12.length c11)) rfl (.p rfl)) ?_
  refine yab rfl rfl rfl (yae (p := .v (.slice a10 l12.length c11)) rfl (.p rfl)) ?_
  refine yaf (yah ?_)
  refine pwc_frzt (css := List.map TMeasure.enc l12) 10 rfl (by exact zph) ?_
  refine yas ?_
  obtain rfl := Option.some.inj h
  exact yat (prv_1 (yav rfl)) zsn ⟨rfl, rfl⟩
def measure_Validate (p0 : (List TMeasure)) : Option Int := cond (decide (300 < (p0.length : Int))) (some 8) (Option.bind (loopF (S := Int) (T := (Unit) ⊕ (_)) (fun v2 => cond (decide (v2 < (p0.length : Int))) (Option.bind (idx p0 v2) (fun m6 => cond ((((((decide (m6.ID < 1)) || (decide (1000000 < m6.ID))) || (decide (m6.Kind < 1))) || (decide (6 < m6.Kind))) || (decide (m6.Company < 0))) || (decide (999 < m6.Company))) (some (.inr (.inr 2))) (Option.bind (gd (decide (0 < v2)) (idx p0 (IntKind.i64.wrap (v2 - 1)))) (fun m9 => cond ((decide (0 < v2)) && (decide (m6.ID ≤ m9.ID))) (some (.inr (.inr 9))) (Option.bind (nomenclature_Level m6.Prefix) (fun x11 => cond (x11 == 0) (some (.inr (.inr 1))) (cond (decide (20 < (m6.Origins.length : Int))) (some (.inr (.inr 8))) (Option.bind (measure_validOrigins m6.Origins) (fun x14 => cond (!x14) (some (.inr (.inr 1))) (cond (((((decide (m6.From < 0)) || (decide (m6.To ≤ m6.From))) || (decide (36525 < m6.To))) || (decide (m6.Registered < (-1)))) || (decide (m6.From < m6.Registered))) (some (.inr (.inr 2))) (Option.bind (duty_Validate m6.Duty) (fun x17 => cond (x17 != 0) (some (.inr (.inr x17))) (some (.inl (IntKind.i64.wrap (v2 + 1)))))))))))))))) (some (.inr (.inl ())))) FUEL 0) (fun q => match q with | .inl _ => some 0 | .inr e => some e))
set_option maxHeartbeats 4000000 in
theorem measure_Validate_ok {p0 : (List TMeasure)} {r : Int}  (h : measure_Validate p0 = some r) : PF 35 [.slc (List.map TMeasure.enc p0)] (.v (.int .i64 r)) := by
 unfold measure_Validate at h
 refine pf_of ?_
 refine penter Tryz.func35 fk35 rfl Tryz.ntmps35 Tryz.results35 rfl ?_
 refine yad (yaa ?_)
 refine yab rfl rfl rfl (yae (p := .v (.int .i64 0)) rfl (.p rfl)) ?_
 refine yaf (yah (yad (yad (yaa ?_))))
 refine yab rfl rfl rfl (yac (p := .slc (List.map TMeasure.enc p0)) rfl (.p rfl)) ?_
 refine yab rfl rfl rfl (pq_lenT (enc := TMeasure.enc) rfl rfl (.p rfl)) ?_
 refine yab rfl rfl rfl (yap rfl (.p rfl) (.p rfl) rfl) ?_
 refine yaf (yah ?_)
 refine yam rfl (fun hc1 => ?_) (fun hc1 => ?_)
 ·replace h := yax hc1 h
  refine yad (yaa ?_)
  refine yab rfl rfl rfl (yae (p := .v (.int .i64 8)) rfl (.p rfl)) ?_
  refine yaf (yah (yas (yaq ?_)))
  obtain rfl := Option.some.inj h
  exact yat (prv_1 (yav rfl)) zsn ⟨rfl, rfl⟩
 ·replace h := yay hc1 h
  refine yan (yah (yad (yad (yaa ?_))))
  refine yab rfl rfl rfl (yac (p := .slc (List.map TMeasure.enc p0)) rfl (.p rfl)) ?_
  refine yab rfl rfl rfl (pq_lenT (enc := TMeasure.enc) rfl rfl (.p rfl)) ?_
  refine yab rfl rfl rfl (yac (p := .v (.int .i64 0)) rfl (.p rfl)) ?_
  refine yaf (yah ?_)
  refine yai h ?_; clear h; intro q4 hq4 h
  refine pwc_join (Y := (Unit) × (Unit)) (fun (_, _) => []) (fun (_, _) => []) (fun (_, _) => q4 = Sum.inl ()) ?_ ?_
  ·refine pwc_block ?_
   refine pwc_loopF (Y := Unit) (S := Int) _ hq4 (fun _ v2 => [(0, .slc (List.map TMeasure.enc p0)), (9, .slc (List.map TMeasure.enc p0)), (10, .v (.int .i64 (p0.length : Int))), (11, .v (.int .i64 v2))]) (fun _ v2 => []) () (zhc rfl (zhc rfl (zhc rfl (zhc rfl zhn)))) zsn ?_
   rintro _ v2 o τ hb3; (try dsimp only at hb3); dsimp only [pupds]
   refine yad (yaa ?_)
   refine yab rfl rfl rfl (yap rfl (.p rfl) (.p rfl) rfl) ?_
   refine yaf (yah (yad ?_))
   refine yam rfl (fun hc5 => ?_) (fun hc5 => ?_)
   ·replace hb3 := yax hc5 hb3
    refine yan (yah (yad (pwc_block (yad (yaa ?_)))))
    refine yab rfl rfl rfl (yac (p := .v (.int .i64 v2)) rfl (.p rfl)) ?_
    refine yai hb3 ?_; clear hb3; intro m6 hm6 hb3
    refine yab rfl rfl rfl (pq_index (enc := TMeasure.enc) rfl rfl rfl (fun _ => rfl) (.p rfl) (.p rfl) (fun _ => hm6)) ?_
    refine yab rfl rfl rfl (pq_load_r (p := .agg [.v (.int .i64 m6.ID), .v (.int .i64 m6.Kind), .v (.string m6.Prefix), .slc (List.map eS m6.Origins), .v (.int .i64 m6.Company), .v (.int .i64 m6.From), .v (.int .i64 m6.To), .v (.int .i64 m6.Registered), .v (.int .i64 m6.Duty.Rate), .v (.int .i64 m6.Duty.Amount), .v (.int .i64 m6.Duty.Per), .v (.bool m6.Duty.HasMost), .v (.int .i64 m6.Duty.Most), .v (.bool m6.Duty.HasLeast), .v (.int .i64 m6.Duty.Least)]) rfl (.p rfl) rfl) ?_
    refine pwl_l rfl rfl rfl (pl_alloc (cs := [.v (.int .i64 0), .v (.int .i64 0), .v (.string ByteArray.empty), .v (.slice none 0 0), .v (.int .i64 0), .v (.int .i64 0), .v (.int .i64 0), .v (.int .i64 0), .v (.int .i64 0), .v (.int .i64 0), .v (.int .i64 0), .v (.bool false), .v (.int .i64 0), .v (.bool false), .v (.int .i64 0)]) rfl rfl rfl rfl (fun b7 => ?_))
    refine yab rfl rfl rfl (yae (p := .v (.int .i64 v2)) rfl (.p rfl)) ?_
    refine pwl_l0 rfl rfl (yaw (vs := [.v (.int .i64 m6.ID), .v (.int .i64 m6.Kind), .v (.string m6.Prefix), .slc (List.map eS m6.Origins), .v (.int .i64 m6.Company), .v (.int .i64 m6.From), .v (.int .i64 m6.To), .v (.int .i64 m6.Registered), .v (.int .i64 m6.Duty.Rate), .v (.int .i64 m6.Duty.Amount), .v (.int .i64 m6.Duty.Per), .v (.bool m6.Duty.HasMost), .v (.int .i64 m6.Duty.Most), .v (.bool m6.Duty.HasLeast), .v (.int .i64 m6.Duty.Least)]) rfl rfl rfl rfl rfl zuh (zlc (zlc (zlc (zlc (zlc (zlc (zlc (zlc (zlc (zlc (zlc (zlc (zlc (zlc (zlc zln))))))))))))))) ?_)
    refine yaf (yah (yad (yad (yaa ?_))))
    refine yab rfl rfl rfl (yag rfl rfl rfl rfl rfl (.p rfl)) ?_
    refine yab rfl rfl rfl (yaj (p := .v (.int .i64 m6.ID)) rfl (.p rfl) zm0 rfl) ?_
    refine yab rfl rfl rfl (yap rfl (.p rfl) (.p rfl) rfl) ?_
    refine yab rfl rfl rfl (yac (p := .v (.bool (decide (m6.ID < 1)))) rfl (.p rfl)) ?_
    refine yal (yak rfl rfl rfl) rfl rfl (yag rfl rfl rfl rfl rfl (.p rfl)) ?_
    refine yal (yak rfl rfl rfl) rfl rfl (yaj (p := .v (.int .i64 m6.ID)) rfl (.g rfl) zm0 rfl) ?_
    refine yal (yak rfl rfl rfl) rfl rfl (yap rfl (.g rfl) (.p rfl) rfl) ?_
    refine yab rfl rfl rfl (pq_or rfl (.p rfl) (.p rfl) (.g rfl)) ?_
    refine yab rfl rfl rfl (yac (p := .v (.bool ((decide (m6.ID < 1)) || (decide (1000000 < m6.ID))))) rfl (.p rfl)) ?_
    refine yal (yak rfl rfl rfl) rfl rfl (yag rfl rfl rfl rfl rfl (.p rfl)) ?_
    refine yal (yak rfl rfl rfl) rfl rfl (yaj (p := .v (.int .i64 m6.Kind)) rfl (.g rfl) zm0 rfl) ?_
    refine yal (yak rfl rfl rfl) rfl rfl (yap rfl (.g rfl) (.p rfl) rfl) ?_
    refine yab rfl rfl rfl (pq_or rfl (.p rfl) (.p rfl) (.g rfl)) ?_
    refine yab rfl rfl rfl (yac (p := .v (.bool (((decide (m6.ID < 1)) || (decide (1000000 < m6.ID))) || (decide (m6.Kind < 1))))) rfl (.p rfl)) ?_
    refine yal (yak rfl rfl rfl) rfl rfl (yag rfl rfl rfl rfl rfl (.p rfl)) ?_
    refine yal (yak rfl rfl rfl) rfl rfl (yaj (p := .v (.int .i64 m6.Kind)) rfl (.g rfl) zm0 rfl) ?_
    refine yal (yak rfl rfl rfl) rfl rfl (yap rfl (.g rfl) (.p rfl) rfl) ?_
    refine yab rfl rfl rfl (pq_or rfl (.p rfl) (.p rfl) (.g rfl)) ?_
    refine yab rfl rfl rfl (yac (p := .v (.bool ((((decide (m6.ID < 1)) || (decide (1000000 < m6.ID))) || (decide (m6.Kind < 1))) || (decide (6 < m6.Kind))))) rfl (.p rfl)) ?_
    refine yal (yak rfl rfl rfl) rfl rfl (yag rfl rfl rfl rfl rfl (.p rfl)) ?_
    refine yal (yak rfl rfl rfl) rfl rfl (yaj (p := .v (.int .i64 m6.Company)) rfl (.g rfl) zm0 rfl) ?_
    refine yal (yak rfl rfl rfl) rfl rfl (yap rfl (.g rfl) (.p rfl) rfl) ?_
    refine yab rfl rfl rfl (pq_or rfl (.p rfl) (.p rfl) (.g rfl)) ?_
    refine yab rfl rfl rfl (yac (p := .v (.bool (((((decide (m6.ID < 1)) || (decide (1000000 < m6.ID))) || (decide (m6.Kind < 1))) || (decide (6 < m6.Kind))) || (decide (m6.Company < 0))))) rfl (.p rfl)) ?_
    refine yal (yak rfl rfl rfl) rfl rfl (yag rfl rfl rfl rfl rfl (.p rfl)) ?_
    refine yal (yak rfl rfl rfl) rfl rfl (yaj (p := .v (.int .i64 m6.Company)) rfl (.g rfl) zm0 rfl) ?_
    refine yal (yak rfl rfl rfl) rfl rfl (yap rfl (.g rfl) (.p rfl) rfl) ?_
    refine yab rfl rfl rfl (pq_or rfl (.p rfl) (.p rfl) (.g rfl)) ?_
    refine yaf (yah ?_)
    refine yam rfl (fun hc8 => ?_) (fun hc8 => ?_)
    ·replace hb3 := yax hc8 hb3
     refine yad (yaa ?_)
     refine yab rfl rfl rfl (yae (p := .v (.int .i64 2)) rfl (.p rfl)) ?_
     refine yaf (yah (yas (yaq (yaz (yaq ?_)))))
     refine pk_loop_ret hb3 (fun ht => ?_); subst ht
     have h := (show some _ = some _ from h)
     refine yaz (pk_mid_ret ?_)
     obtain rfl := Option.some.inj h
     exact yat (prv_1 (yav rfl)) zsn ⟨rfl, rfl⟩
    ·replace hb3 := yay hc8 hb3
     refine yan (yah (yad (yad ?_)))
     refine pwc_draw (ρd := []) [(0, 0), (1, 0), (2, 0), (3, 0), (4, 0), (5, 0), (6, 0), (7, 0), (8, 0), (9, 0), (10, 0), (11, 0), (12, 0)] _ (List.Perm.refl _) (by kernel_rfl) rfl ?_
     refine pwd_q rfl rfl rfl (yac (p := .v (.int .i64 v2)) rfl (.p rfl)) ?_
     refine pwd_q rfl rfl rfl (yap rfl (.p rfl) (.p rfl) rfl) ?_
     refine pwd_q rfl rfl rfl (yac (p := .v (.bool (decide (0 < v2)))) rfl (.p rfl)) ?_
     refine pwd_qg (yar rfl rfl rfl) rfl rfl (yag rfl rfl rfl rfl rfl (.p rfl)) ?_
     refine pwd_qg (yar rfl rfl rfl) rfl rfl (yaj (p := .v (.int .i64 m6.ID)) rfl (.g rfl) zm0 rfl) ?_
     refine pwd_qg (yar rfl rfl rfl) rfl rfl (yac (p := .slc (List.map TMeasure.enc p0)) rfl (.p rfl)) ?_
     refine pwd_qg (yar rfl rfl rfl) rfl rfl (yac (p := .v (.int .i64 v2)) rfl (.p rfl)) ?_
     refine pwd_qg (yar rfl rfl rfl) rfl rfl (yau rfl (.g rfl) (.p rfl) rfl) ?_
     refine yai hb3 ?_; clear hb3; intro m9 hm9 hb3
     refine pwd_qg (yar rfl rfl rfl) rfl rfl (pq_index (enc := TMeasure.enc) rfl rfl rfl (fun _ => rfl) (.g rfl) (.g rfl) (gd_t hm9)) ?_
     refine pwd_qg (yar rfl rfl rfl) rfl rfl (pq_fieldAddrR rfl rfl rfl rfl rfl (.g rfl)) ?_
     refine pwd_qg (yar rfl rfl rfl) rfl rfl (pq_load_r (p := .v (.int .i64 m9.ID)) rfl (.g rfl) rfl) ?_
     refine pwd_qg (yar rfl rfl rfl) rfl rfl (yap rfl (.g rfl) (.g rfl) rfl) ?_
     refine pwd_q rfl rfl rfl (pq_and rfl (.p rfl) (.p rfl) (.g rfl)) ?_
     refine pwd_nil (yah ?_)
     refine yam rfl (fun hc10 => ?_) (fun hc10 => ?_)
     ·replace hb3 := yax hc10 hb3
      refine yad (yaa ?_)
      refine yab rfl rfl rfl (yae (p := .v (.int .i64 9)) rfl (.p rfl)) ?_
      refine yaf (yah (yas (yaq (yaz (yaq ?_)))))
      refine pk_loop_ret hb3 (fun ht => ?_); subst ht
      have h := (show some _ = some _ from h)
      refine yaz (pk_mid_ret ?_)
      obtain rfl := Option.some.inj h
      exact yat (prv_1 (yav rfl)) zsn ⟨rfl, rfl⟩
     ·replace hb3 := yay hc10 hb3
      refine yan (yah (yad (yad (yaa ?_))))
      refine yab rfl rfl rfl (yag rfl rfl rfl rfl rfl (.p rfl)) ?_
      refine yab rfl rfl rfl (yaj (p := .v (.string m6.Prefix)) rfl (.p rfl) zm0 rfl) ?_
      refine yai hb3 ?_; clear hb3; intro x11 hx11 hb3
      refine pwl_call rfl rfl rfl rfl rfl (nomenclature_Level_ok hx11) ?_
      refine yab rfl rfl rfl (yap rfl (.p rfl) (.p rfl) rfl) ?_
      refine yaf (yah ?_)
      refine yam rfl (fun hc12 => ?_) (fun hc12 => ?_)
      ·replace hb3 := yax hc12 hb3
       refine yad (yaa ?_)
       refine yab rfl rfl rfl (yae (p := .v (.int .i64 1)) rfl (.p rfl)) ?_
       refine yaf (yah (yas (yaq (yaz (yaq ?_)))))
       refine pk_loop_ret hb3 (fun ht => ?_); subst ht
       have h := (show some _ = some _ from h)
       refine yaz (pk_mid_ret ?_)
       obtain rfl := Option.some.inj h
       exact yat (prv_1 (yav rfl)) zsn ⟨rfl, rfl⟩
      ·replace hb3 := yay hc12 hb3
       refine yan (yah (yad (yad (yaa ?_))))
       refine yab rfl rfl rfl (yag rfl rfl rfl rfl rfl (.p rfl)) ?_
       refine yab rfl rfl rfl (yaj (p := .slc (List.map eS m6.Origins)) rfl (.p rfl) zm0 rfl) ?_
       refine yab rfl rfl rfl (pq_lenT (enc := eS) rfl rfl (.p rfl)) ?_
       refine yab rfl rfl rfl (yap rfl (.p rfl) (.p rfl) rfl) ?_
       refine yaf (yah ?_)
       refine yam rfl (fun hc13 => ?_) (fun hc13 => ?_)
       ·replace hb3 := yax hc13 hb3
        refine yad (yaa ?_)
        refine yab rfl rfl rfl (yae (p := .v (.int .i64 8)) rfl (.p rfl)) ?_
        refine yaf (yah (yas (yaq (yaz (yaq ?_)))))
        refine pk_loop_ret hb3 (fun ht => ?_); subst ht
        have h := (show some _ = some _ from h)
        refine yaz (pk_mid_ret ?_)
        obtain rfl := Option.some.inj h
        exact yat (prv_1 (yav rfl)) zsn ⟨rfl, rfl⟩
       ·replace hb3 := yay hc13 hb3
        refine yan (yah (yad (yad (yaa ?_))))
        refine yab rfl rfl rfl (yag rfl rfl rfl rfl rfl (.p rfl)) ?_
        refine yab rfl rfl rfl (yaj (p := .slc (List.map eS m6.Origins)) rfl (.p rfl) zm0 rfl) ?_
        refine yai hb3 ?_; clear hb3; intro x14 hx14 hb3
        refine pwl_call rfl rfl rfl rfl rfl (measure_validOrigins_ok hx14) ?_
        refine yab rfl rfl rfl (pq_not rfl (.p rfl)) ?_
        refine yaf (yah ?_)
        refine yam rfl (fun hc15 => ?_) (fun hc15 => ?_)
        ·replace hb3 := yax hc15 hb3
         refine yad (yaa ?_)
         refine yab rfl rfl rfl (yae (p := .v (.int .i64 1)) rfl (.p rfl)) ?_
         refine yaf (yah (yas (yaq (yaz (yaq ?_)))))
         refine pk_loop_ret hb3 (fun ht => ?_); subst ht
         have h := (show some _ = some _ from h)
         refine yaz (pk_mid_ret ?_)
         obtain rfl := Option.some.inj h
         exact yat (prv_1 (yav rfl)) zsn ⟨rfl, rfl⟩
        ·replace hb3 := yay hc15 hb3
         refine yan (yah (yad (yad (yaa ?_))))
         refine yab rfl rfl rfl (yag rfl rfl rfl rfl rfl (.p rfl)) ?_
         refine yab rfl rfl rfl (yaj (p := .v (.int .i64 m6.From)) rfl (.p rfl) zm0 rfl) ?_
         refine yab rfl rfl rfl (yap rfl (.p rfl) (.p rfl) rfl) ?_
         refine yab rfl rfl rfl (yac (p := .v (.bool (decide (m6.From < 0)))) rfl (.p rfl)) ?_
         refine yal (yak rfl rfl rfl) rfl rfl (yag rfl rfl rfl rfl rfl (.p rfl)) ?_
         refine yal (yak rfl rfl rfl) rfl rfl (yaj (p := .v (.int .i64 m6.To)) rfl (.g rfl) zm0 rfl) ?_
         refine yal (yak rfl rfl rfl) rfl rfl (yag rfl rfl rfl rfl rfl (.p rfl)) ?_
         refine yal (yak rfl rfl rfl) rfl rfl (yaj (p := .v (.int .i64 m6.From)) rfl (.g rfl) zm0 rfl) ?_
         refine yal (yak rfl rfl rfl) rfl rfl (yap rfl (.g rfl) (.g rfl) rfl) ?_
         refine yab rfl rfl rfl (pq_or rfl (.p rfl) (.p rfl) (.g rfl)) ?_
         refine yab rfl rfl rfl (yac (p := .v (.bool ((decide (m6.From < 0)) || (decide (m6.To ≤ m6.From))))) rfl (.p rfl)) ?_
         refine yal (yak rfl rfl rfl) rfl rfl (yag rfl rfl rfl rfl rfl (.p rfl)) ?_
         refine yal (yak rfl rfl rfl) rfl rfl (yaj (p := .v (.int .i64 m6.To)) rfl (.g rfl) zm0 rfl) ?_
         refine yal (yak rfl rfl rfl) rfl rfl (yap rfl (.g rfl) (.p rfl) rfl) ?_
         refine yab rfl rfl rfl (pq_or rfl (.p rfl) (.p rfl) (.g rfl)) ?_
         refine yab rfl rfl rfl (yac (p := .v (.bool (((decide (m6.From < 0)) || (decide (m6.To ≤ m6.From))) || (decide (36525 < m6.To))))) rfl (.p rfl)) ?_
         refine yal (yak rfl rfl rfl) rfl rfl (yag rfl rfl rfl rfl rfl (.p rfl)) ?_
         refine yal (yak rfl rfl rfl) rfl rfl (yaj (p := .v (.int .i64 m6.Registered)) rfl (.g rfl) zm0 rfl) ?_
         refine yal (yak rfl rfl rfl) rfl rfl (yap rfl (.g rfl) (.p rfl) rfl) ?_
         refine yab rfl rfl rfl (pq_or rfl (.p rfl) (.p rfl) (.g rfl)) ?_
         refine yab rfl rfl rfl (yac (p := .v (.bool ((((decide (m6.From < 0)) || (decide (m6.To ≤ m6.From))) || (decide (36525 < m6.To))) || (decide (m6.Registered < (-1)))))) rfl (.p rfl)) ?_
         refine yal (yak rfl rfl rfl) rfl rfl (yag rfl rfl rfl rfl rfl (.p rfl)) ?_
         refine yal (yak rfl rfl rfl) rfl rfl (yaj (p := .v (.int .i64 m6.Registered)) rfl (.g rfl) zm0 rfl) ?_
         refine yal (yak rfl rfl rfl) rfl rfl (yag rfl rfl rfl rfl rfl (.p rfl)) ?_
         refine yal (yak rfl rfl rfl) rfl rfl (yaj (p := .v (.int .i64 m6.From)) rfl (.g rfl) zm0 rfl) ?_
         refine yal (yak rfl rfl rfl) rfl rfl (yap rfl (.g rfl) (.g rfl) rfl) ?_
         refine yab rfl rfl rfl (pq_or rfl (.p rfl) (.p rfl) (.g rfl)) ?_
         refine yaf (yah ?_)
         refine yam rfl (fun hc16 => ?_) (fun hc16 => ?_)
         ·replace hb3 := yax hc16 hb3
          refine yad (yaa ?_)
          refine yab rfl rfl rfl (yae (p := .v (.int .i64 2)) rfl (.p rfl)) ?_
          refine yaf (yah (yas (yaq (yaz (yaq ?_)))))
          refine pk_loop_ret hb3 (fun ht => ?_); subst ht
          have h := (show some _ = some _ from h)
          refine yaz (pk_mid_ret ?_)
          obtain rfl := Option.some.inj h
          exact yat (prv_1 (yav rfl)) zsn ⟨rfl, rfl⟩
         ·replace hb3 := yay hc16 hb3
          refine yan (yah (yad (yaa ?_)))
          refine yab rfl rfl rfl (yag rfl rfl rfl rfl rfl (.p rfl)) ?_
          refine yab rfl rfl rfl (yaj (p := .agg [.v (.int .i64 m6.Duty.Rate), .v (.int .i64 m6.Duty.Amount), .v (.int .i64 m6.Duty.Per), .v (.bool m6.Duty.HasMost), .v (.int .i64 m6.Duty.Most), .v (.bool m6.Duty.HasLeast), .v (.int .i64 m6.Duty.Least)]) rfl (.p rfl) zm0 rfl) ?_
          refine yai hb3 ?_; clear hb3; intro x17 hx17 hb3
          refine pwl_call rfl rfl rfl rfl rfl (duty_Validate_ok hx17) ?_
          refine yab rfl rfl rfl (yae (p := .v (.int .i64 x17)) rfl (.p rfl)) ?_
          refine yaf (yah (yad (yaa ?_)))
          refine yab rfl rfl rfl (yac (p := .v (.int .i64 x17)) rfl (.p rfl)) ?_
          refine yab rfl rfl rfl (yap rfl (.p rfl) (.p rfl) rfl) ?_
          refine yaf (yah ?_)
          refine yam rfl (fun hc18 => ?_) (fun hc18 => ?_)
          ·replace hb3 := yax hc18 hb3
           refine yad (yaa ?_)
           refine yab rfl rfl rfl (yac (p := .v (.int .i64 x17)) rfl (.p rfl)) ?_
           refine yab rfl rfl rfl (yae (p := .v (.int .i64 x17)) rfl (.p rfl)) ?_
           refine yaf (yah (yas (yaz (yaq ?_))))
           refine pk_loop_ret hb3 (fun ht => ?_); subst ht
           have h := (show some _ = some _ from h)
           refine yaz (pk_mid_ret ?_)
           obtain rfl := Option.some.inj h
           exact yat (prv_1 (yav rfl)) zsn ⟨rfl, rfl⟩
          ·replace hb3 := yay hc18 hb3
           refine yan (pk_block_n (yah (yaa ?_)))
           refine yab rfl rfl rfl (yau rfl (.p rfl) (.p rfl) rfl) ?_
           refine yab rfl rfl rfl (yac (p := .v (.int .i64 (IntKind.i64.wrap (v2 + 1)))) rfl (.p rfl)) ?_
           refine yaf ?_
           exact pk_loop hb3 () (zhc rfl (zhc rfl (zhc rfl (zhc rfl zhn)))) zsn
   ·replace hb3 := yay hc5 hb3
    refine pwc_exit (pk_seq_exit ?_)
    refine pk_loop_exit hb3 (fun ht => ?_)
    refine pk_block_eq rfl ?_
    exact pk_mid ((), ()) zhn zsn ht.symm
  ·rintro ⟨_, _⟩ τ hz; (try dsimp only at hz); subst q4; (try dsimp only at h); dsimp only [pupds]
   refine yad (yaa ?_)
   refine yab rfl rfl rfl (yae (p := .v (.int .i64 0)) rfl (.p rfl)) ?_
   refine yaf (yah (yas ?_))
   obtain rfl := Option.some.inj h
   exact yat (prv_1 (yav rfl)) zsn ⟨rfl, rfl⟩
def assess_Validate (p0 : TItem) : Option Int := Option.bind (nomenclature_Level p0.Code) (fun x2 => Option.bind (gd (!(x2 != 8)) (production_ValidCountry p0.Origin)) (fun x3 => cond ((x2 != 8) || (!x3)) (some 1) (cond ((((((((((decide (p0.Company < 0)) || (decide (999 < p0.Company))) || (decide (p0.Day < 0))) || (decide (36524 < p0.Day))) || (decide (p0.Quantity < 0))) || (decide (1000000000 < p0.Quantity))) || (decide (p0.Value < 0))) || (decide (1000000000000 < p0.Value))) || (decide (p0.Granted < 0))) || (decide (p0.Quantity < p0.Granted))) (some 2) (some 0))))
set_option maxHeartbeats 4000000 in
theorem assess_Validate_ok {p0 : TItem} {r : Int}  (h : assess_Validate p0 = some r) : PF 12 [.agg [.v (.string p0.Code), .v (.string p0.Origin), .v (.bool p0.Proof), .v (.int .i64 p0.Company), .v (.int .i64 p0.Day), .v (.int .i64 p0.Quantity), .v (.int .i64 p0.Value), .v (.int .i64 p0.Granted)]] (.v (.int .i64 r)) := by
 unfold assess_Validate at h
 refine pf_of ?_
 refine penter Tryz.func12 fk12 rfl Tryz.ntmps12 Tryz.results12 rfl ?_
 refine yad (yaa ?_)
 refine pwl_l rfl rfl rfl (pl_box (cs := [.v (.string p0.Code), .v (.string p0.Origin), .v (.bool p0.Proof), .v (.int .i64 p0.Company), .v (.int .i64 p0.Day), .v (.int .i64 p0.Quantity), .v (.int .i64 p0.Value), .v (.int .i64 p0.Granted)]) rfl rfl (fun b1 => ?_))
 refine yab rfl rfl rfl (yae (p := .v (.int .i64 0)) rfl (.p rfl)) ?_
 refine yaf (yah (yad (yad (yaa ?_))))
 refine yab rfl rfl rfl (yag rfl rfl rfl rfl rfl (.p rfl)) ?_
 refine yab rfl rfl rfl (yaj (p := .v (.string p0.Code)) rfl (.p rfl) zm0 rfl) ?_
 refine yai h ?_; clear h; intro x2 hx2 h
 refine pwl_call rfl rfl rfl rfl rfl (nomenclature_Level_ok hx2) ?_
 refine yab rfl rfl rfl (yap rfl (.p rfl) (.p rfl) rfl) ?_
 refine yab rfl rfl rfl (yac (p := .v (.bool (x2 != 8))) rfl (.p rfl)) ?_
 refine yal (yak rfl rfl rfl) rfl rfl (yag rfl rfl rfl rfl rfl (.p rfl)) ?_
 refine yal (yak rfl rfl rfl) rfl rfl (yaj (p := .v (.string p0.Origin)) rfl (.g rfl) zm0 rfl) ?_
 refine yai h ?_; clear h; intro x3 hx3 h
 refine pwl_callg (yak rfl rfl rfl) rfl rfl rfl (pargs_cons (.g rfl) (pargs_nil)) (fun hc => production_ValidCountry_ok (gd_t hx3 hc)) ?_
 refine yal (yak rfl rfl rfl) rfl rfl (pq_not rfl (.g rfl)) ?_
 refine yab rfl rfl rfl (pq_or rfl (.p rfl) (.p rfl) (.g rfl)) ?_
 refine yaf (yah ?_)
 refine yam rfl (fun hc4 => ?_) (fun hc4 => ?_)
 ·replace h := yax hc4 h
  refine yad (yaa ?_)
  refine yab rfl rfl rfl (yae (p := .v (.int .i64 1)) rfl (.p rfl)) ?_
  refine yaf (yah (yas (yaq ?_)))
  obtain rfl := Option.some.inj h
  exact yat (prv_1 (yav rfl)) zsn ⟨rfl, rfl⟩
 ·replace h := yay hc4 h
  refine yan (yah (yad (yad (yaa ?_))))
  refine yab rfl rfl rfl (yag rfl rfl rfl rfl rfl (.p rfl)) ?_
  refine yab rfl rfl rfl (yaj (p := .v (.int .i64 p0.Company)) rfl (.p rfl) zm0 rfl) ?_
  refine yab rfl rfl rfl (yap rfl (.p rfl) (.p rfl) rfl) ?_
  refine yab rfl rfl rfl (yac (p := .v (.bool (decide (p0.Company < 0)))) rfl (.p rfl)) ?_
  refine yal (yak rfl rfl rfl) rfl rfl (yag rfl rfl rfl rfl rfl (.p rfl)) ?_
  refine yal (yak rfl rfl rfl) rfl rfl (yaj (p := .v (.int .i64 p0.Company)) rfl (.g rfl) zm0 rfl) ?_
  refine yal (yak rfl rfl rfl) rfl rfl (yap rfl (.g rfl) (.p rfl) rfl) ?_
  refine yab rfl rfl rfl (pq_or rfl (.p rfl) (.p rfl) (.g rfl)) ?_
  refine yab rfl rfl rfl (yac (p := .v (.bool ((decide (p0.Company < 0)) || (decide (999 < p0.Company))))) rfl (.p rfl)) ?_
  refine yal (yak rfl rfl rfl) rfl rfl (yag rfl rfl rfl rfl rfl (.p rfl)) ?_
  refine yal (yak rfl rfl rfl) rfl rfl (yaj (p := .v (.int .i64 p0.Day)) rfl (.g rfl) zm0 rfl) ?_
  refine yal (yak rfl rfl rfl) rfl rfl (yap rfl (.g rfl) (.p rfl) rfl) ?_
  refine yab rfl rfl rfl (pq_or rfl (.p rfl) (.p rfl) (.g rfl)) ?_
  refine yab rfl rfl rfl (yac (p := .v (.bool (((decide (p0.Company < 0)) || (decide (999 < p0.Company))) || (decide (p0.Day < 0))))) rfl (.p rfl)) ?_
  refine yal (yak rfl rfl rfl) rfl rfl (yag rfl rfl rfl rfl rfl (.p rfl)) ?_
  refine yal (yak rfl rfl rfl) rfl rfl (yaj (p := .v (.int .i64 p0.Day)) rfl (.g rfl) zm0 rfl) ?_
  refine yal (yak rfl rfl rfl) rfl rfl (yap rfl (.g rfl) (.p rfl) rfl) ?_
  refine yab rfl rfl rfl (pq_or rfl (.p rfl) (.p rfl) (.g rfl)) ?_
  refine yab rfl rfl rfl (yac (p := .v (.bool ((((decide (p0.Company < 0)) || (decide (999 < p0.Company))) || (decide (p0.Day < 0))) || (decide (36524 < p0.Day))))) rfl (.p rfl)) ?_
  refine yal (yak rfl rfl rfl) rfl rfl (yag rfl rfl rfl rfl rfl (.p rfl)) ?_
  refine yal (yak rfl rfl rfl) rfl rfl (yaj (p := .v (.int .i64 p0.Quantity)) rfl (.g rfl) zm0 rfl) ?_
  refine yal (yak rfl rfl rfl) rfl rfl (yap rfl (.g rfl) (.p rfl) rfl) ?_
  refine yab rfl rfl rfl (pq_or rfl (.p rfl) (.p rfl) (.g rfl)) ?_
  refine yab rfl rfl rfl (yac (p := .v (.bool (((((decide (p0.Company < 0)) || (decide (999 < p0.Company))) || (decide (p0.Day < 0))) || (decide (36524 < p0.Day))) || (decide (p0.Quantity < 0))))) rfl (.p rfl)) ?_
  refine yal (yak rfl rfl rfl) rfl rfl (yag rfl rfl rfl rfl rfl (.p rfl)) ?_
  refine yal (yak rfl rfl rfl) rfl rfl (yaj (p := .v (.int .i64 p0.Quantity)) rfl (.g rfl) zm0 rfl) ?_
  refine yal (yak rfl rfl rfl) rfl rfl (yap rfl (.g rfl) (.p rfl) rfl) ?_
  refine yab rfl rfl rfl (pq_or rfl (.p rfl) (.p rfl) (.g rfl)) ?_
  refine yab rfl rfl rfl (yac (p := .v (.bool ((((((decide (p0.Company < 0)) || (decide (999 < p0.Company))) || (decide (p0.Day < 0))) || (decide (36524 < p0.Day))) || (decide (p0.Quantity < 0))) || (decide (1000000000 < p0.Quantity))))) rfl (.p rfl)) ?_
  refine yal (yak rfl rfl rfl) rfl rfl (yag rfl rfl rfl rfl rfl (.p rfl)) ?_
  refine yal (yak rfl rfl rfl) rfl rfl (yaj (p := .v (.int .i64 p0.Value)) rfl (.g rfl) zm0 rfl) ?_
  refine yal (yak rfl rfl rfl) rfl rfl (yap rfl (.g rfl) (.p rfl) rfl) ?_
  refine yab rfl rfl rfl (pq_or rfl (.p rfl) (.p rfl) (.g rfl)) ?_
  refine yab rfl rfl rfl (yac (p := .v (.bool (((((((decide (p0.Company < 0)) || (decide (999 < p0.Company))) || (decide (p0.Day < 0))) || (decide (36524 < p0.Day))) || (decide (p0.Quantity < 0))) || (decide (1000000000 < p0.Quantity))) || (decide (p0.Value < 0))))) rfl (.p rfl)) ?_
  refine yal (yak rfl rfl rfl) rfl rfl (yag rfl rfl rfl rfl rfl (.p rfl)) ?_
  refine yal (yak rfl rfl rfl) rfl rfl (yaj (p := .v (.int .i64 p0.Value)) rfl (.g rfl) zm0 rfl) ?_
  refine yal (yak rfl rfl rfl) rfl rfl (yap rfl (.g rfl) (.p rfl) rfl) ?_
  refine yab rfl rfl rfl (pq_or rfl (.p rfl) (.p rfl) (.g rfl)) ?_
  refine yab rfl rfl rfl (yac (p := .v (.bool ((((((((decide (p0.Company < 0)) || (decide (999 < p0.Company))) || (decide (p0.Day < 0))) || (decide (36524 < p0.Day))) || (decide (p0.Quantity < 0))) || (decide (1000000000 < p0.Quantity))) || (decide (p0.Value < 0))) || (decide (1000000000000 < p0.Value))))) rfl (.p rfl)) ?_
  refine yal (yak rfl rfl rfl) rfl rfl (yag rfl rfl rfl rfl rfl (.p rfl)) ?_
  refine yal (yak rfl rfl rfl) rfl rfl (yaj (p := .v (.int .i64 p0.Granted)) rfl (.g rfl) zm0 rfl) ?_
  refine yal (yak rfl rfl rfl) rfl rfl (yap rfl (.g rfl) (.p rfl) rfl) ?_
  refine yab rfl rfl rfl (pq_or rfl (.p rfl) (.p rfl) (.g rfl)) ?_
  refine yab rfl rfl rfl (yac (p := .v (.bool (((((((((decide (p0.Company < 0)) || (decide (999 < p0.Company))) || (decide (p0.Day < 0))) || (decide (36524 < p0.Day))) || (decide (p0.Quantity < 0))) || (decide (1000000000 < p0.Quantity))) || (decide (p0.Value < 0))) || (decide (1000000000000 < p0.Value))) || (decide (p0.Granted < 0))))) rfl (.p rfl)) ?_
  refine yal (yak rfl rfl rfl) rfl rfl (yag rfl rfl rfl rfl rfl (.p rfl)) ?_
  refine yal (yak rfl rfl rfl) rfl rfl (yaj (p := .v (.int .i64 p0.Granted)) rfl (.g rfl) zm0 rfl) ?_
  refine yal (yak rfl rfl rfl) rfl rfl (yag rfl rfl rfl rfl rfl (.p rfl)) ?_
  refine yal (yak rfl rfl rfl) rfl rfl (yaj (p := .v (.int .i64 p0.Quantity)) rfl (.g rfl) zm0 rfl) ?_
  refine yal (yak rfl rfl rfl) rfl rfl (yap rfl (.g rfl) (.g rfl) rfl) ?_
  refine yab rfl rfl rfl (pq_or rfl (.p rfl) (.p rfl) (.g rfl)) ?_
  refine yaf (yah ?_)
  refine yam rfl (fun hc5 => ?_) (fun hc5 => ?_)
  ·replace h := yax hc5 h
   refine yad (yaa ?_)
   refine yab rfl rfl rfl (yae (p := .v (.int .i64 2)) rfl (.p rfl)) ?_
   refine yaf (yah (yas (yaq ?_)))
   obtain rfl := Option.some.inj h
   exact yat (prv_1 (yav rfl)) zsn ⟨rfl, rfl⟩
  ·replace h := yay hc5 h
   refine yan (yah (yad (yaa ?_)))
   refine yab rfl rfl rfl (yae (p := .v (.int .i64 0)) rfl (.p rfl)) ?_
   refine yaf (yah (yas ?_))
   obtain rfl := Option.some.inj h
   exact yat (prv_1 (yav rfl)) zsn ⟨rfl, rfl⟩
def assess_Assess (p0 : (List TMeasure)) (p1 : TItem) : Option (TDebt × Int) := Option.bind (measure_Validate p0) (fun x3 => cond (x3 != 0) (some ((⟨[], 0⟩ : TDebt), x3)) (Option.bind (assess_Validate p1) (fun x5 => cond (x5 != 0) (some ((⟨[], 0⟩ : TDebt), x5)) (Option.bind (measure_Applicable p0 p1.Code p1.Origin p1.Company p1.Day) (fun x7 => Option.bind (slices_ContainsFunc_api_Measure_api_Measure x7 (fun y8 => assess_Assess_1 y8)) (fun x9 => cond (!x9) (some ((⟨[], 0⟩ : TDebt), 7)) (Option.bind (assess_partsOf p1) (fun x11 => cond (x11.2 != 0) (some ((⟨[], 0⟩ : TDebt), x11.2)) (Option.bind (loopF (S := Int × (List TDebtLine) × Int) (T := ((List TDebtLine) × Int) ⊕ (_)) (fun (v14, l16, v19) => cond (decide (v14 < (x11.1.length : Int))) (Option.bind (α := ((List TDebtLine) × Int) ⊕ _) (Option.bind (idx x11.1 v14) (fun m35 => Option.bind (assess_leastDuty x7 m35) (fun x37 => cond (x37.2.2 != 0) (some (.inr (.inr (.inr ((⟨[], 0⟩ : TDebt), x37.2.2))))) (cond x37.2.1 (Option.bind (app 40 l16 [x37.1]) (fun l43 => some (.inl (l43, (IntKind.i64.wrap (v19 + x37.1.Amount)))))) (some (.inl (l16, v19))))))) (fun q => match q with | .inl (l32, v33) => some (.inl ((IntKind.i64.wrap (v14 + 1)), l32, v33)) | .inr e => some e)) (some (.inr (.inl (l16, v19))))) FUEL (0, ([] : List TDebtLine), 0)) (fun q => match q with | .inl (l23, v24) => cond (decide (1000000000000 < v24)) (some ((⟨[], 0⟩ : TDebt), 3)) (some ((⟨l23, v24⟩ : TDebt), 0)) | .inr e => some e))))))))))
set_option maxHeartbeats 4000000 in
theorem assess_Assess_ok {p0 : (List TMeasure)} {p1 : TItem} {r : (TDebt × Int)}  (h : assess_Assess p0 p1 = some r) : PF 17 [.slc (List.map TMeasure.enc p0), .agg [.v (.string p1.Code), .v (.string p1.Origin), .v (.bool p1.Proof), .v (.int .i64 p1.Company), .v (.int .i64 p1.Day), .v (.int .i64 p1.Quantity), .v (.int .i64 p1.Value), .v (.int .i64 p1.Granted)]] (.tup [.agg [.slc (List.map TDebtLine.enc r.1.Lines), .v (.int .i64 r.1.Total)], .v (.int .i64 r.2)]) := by
 unfold assess_Assess at h
 refine pf_of ?_
 refine penter Tryz.func17 fk17 rfl Tryz.ntmps17 Tryz.results17 rfl ?_
 refine yad (yaa ?_)
 refine pwl_l rfl rfl rfl (pl_box (cs := [.v (.string p1.Code), .v (.string p1.Origin), .v (.bool p1.Proof), .v (.int .i64 p1.Company), .v (.int .i64 p1.Day), .v (.int .i64 p1.Quantity), .v (.int .i64 p1.Value), .v (.int .i64 p1.Granted)]) rfl rfl (fun b1 => ?_))
 refine pwl_l rfl rfl rfl (pl_alloc (cs := [.v (.slice none 0 0), .v (.int .i64 0)]) rfl rfl rfl rfl (fun b2 => ?_))
 refine yab rfl rfl rfl (yae (p := .v (.int .i64 0)) rfl (.p rfl)) ?_
 refine yaf (yah (yad (yad (yaa ?_))))
 refine yab rfl rfl rfl (yac (p := .slc (List.map TMeasure.enc p0)) rfl (.p rfl)) ?_
 refine yai h ?_; clear h; intro x3 hx3 h
 refine pwl_call rfl rfl rfl rfl rfl (measure_Validate_ok hx3) ?_
 refine yab rfl rfl rfl (yae (p := .v (.int .i64 x3)) rfl (.p rfl)) ?_
 refine yaf (yah (yad (yaa ?_)))
 refine yab rfl rfl rfl (yac (p := .v (.int .i64 x3)) rfl (.p rfl)) ?_
 refine yab rfl rfl rfl (yap rfl (.p rfl) (.p rfl) rfl) ?_
 refine yaf (yah ?_)
 refine yam rfl (fun hc4 => ?_) (fun hc4 => ?_)
 ·replace h := yax hc4 h
  refine yad (yaa ?_)
  refine yab rfl rfl rfl (pq_build (cs := [.v (.slice none 0 0), .v (.int .i64 0)]) rfl rfl rfl rfl rfl rfl rfl zfn) ?_
  refine yab rfl rfl rfl (yac (p := .v (.int .i64 x3)) rfl (.p rfl)) ?_
  refine pwl_l0 rfl rfl (yaw (vs := [.v (.slice none 0 0), .v (.int .i64 0)]) rfl rfl rfl rfl rfl zuh (zlc (zlc zln)) ?_)
  refine yab rfl rfl rfl (yae (p := .v (.int .i64 x3)) rfl (.p rfl)) ?_
  refine yaf (yah ?_)
  refine pwc_nilb (k := 0) (b := b2) rfl zuh ?_
  refine yas (yaq ?_)
  obtain rfl := Option.some.inj h
  exact yat (prv_2 (prv1_c rfl zm0 rfl) (yav rfl)) zsn ⟨rfl, rfl⟩
 ·replace h := yay hc4 h
  refine yan (yah (yad (yad (yaa ?_))))
  refine yab rfl rfl rfl (yaj (p := .agg [.v (.string p1.Code), .v (.string p1.Origin), .v (.bool p1.Proof), .v (.int .i64 p1.Company), .v (.int .i64 p1.Day), .v (.int .i64 p1.Quantity), .v (.int .i64 p1.Value), .v (.int .i64 p1.Granted)]) rfl (.p rfl) zm1 rfl) ?_
  refine yai h ?_; clear h; intro x5 hx5 h
  refine pwl_call rfl rfl rfl rfl rfl (assess_Validate_ok hx5) ?_
  refine yab rfl rfl rfl (yae (p := .v (.int .i64 x5)) rfl (.p rfl)) ?_
  refine yaf (yah (yad (yaa ?_)))
  refine yab rfl rfl rfl (yac (p := .v (.int .i64 x5)) rfl (.p rfl)) ?_
  refine yab rfl rfl rfl (yap rfl (.p rfl) (.p rfl) rfl) ?_
  refine yaf (yah ?_)
  refine yam rfl (fun hc6 => ?_) (fun hc6 => ?_)
  ·replace h := yax hc6 h
   refine yad (yaa ?_)
   refine yab rfl rfl rfl (pq_build (cs := [.v (.slice none 0 0), .v (.int .i64 0)]) rfl rfl rfl rfl rfl rfl rfl zfn) ?_
   refine yab rfl rfl rfl (yac (p := .v (.int .i64 x5)) rfl (.p rfl)) ?_
   refine pwl_l0 rfl rfl (yaw (vs := [.v (.slice none 0 0), .v (.int .i64 0)]) rfl rfl rfl rfl rfl zuh (zlc (zlc zln)) ?_)
   refine yab rfl rfl rfl (yae (p := .v (.int .i64 x5)) rfl (.p rfl)) ?_
   refine yaf (yah ?_)
   refine pwc_nilb (k := 0) (b := b2) rfl zuh ?_
   refine yas (yaq ?_)
   obtain rfl := Option.some.inj h
   exact yat (prv_2 (prv1_c rfl zm0 rfl) (yav rfl)) zsn ⟨rfl, rfl⟩
  ·replace h := yay hc6 h
   refine yan (yah (yad (yaa ?_)))
   refine yab rfl rfl rfl (yac (p := .slc (List.map TMeasure.enc p0)) rfl (.p rfl)) ?_
   refine yab rfl rfl rfl (yag rfl rfl rfl rfl rfl (.p rfl)) ?_
   refine yab rfl rfl rfl (yaj (p := .v (.string p1.Code)) rfl (.p rfl) zm1 rfl) ?_
   refine yab rfl rfl rfl (yag rfl rfl rfl rfl rfl (.p rfl)) ?_
   refine yab rfl rfl rfl (yaj (p := .v (.string p1.Origin)) rfl (.p rfl) zm1 rfl) ?_
   refine yab rfl rfl rfl (yag rfl rfl rfl rfl rfl (.p rfl)) ?_
   refine yab rfl rfl rfl (yaj (p := .v (.int .i64 p1.Company)) rfl (.p rfl) zm1 rfl) ?_
   refine yab rfl rfl rfl (yag rfl rfl rfl rfl rfl (.p rfl)) ?_
   refine yab rfl rfl rfl (yaj (p := .v (.int .i64 p1.Day)) rfl (.p rfl) zm1 rfl) ?_
   refine yai h ?_; clear h; intro x7 hx7 h
   refine pwl_call rfl rfl rfl rfl rfl (measure_Applicable_ok hx7) ?_
   refine yab rfl rfl rfl (yae (p := .slc (List.map TMeasure.enc x7)) rfl (.p rfl)) ?_
   refine yaf (yah (yad (yad (yaa ?_))))
   refine yab rfl rfl rfl (yac (p := .slc (List.map TMeasure.enc x7)) rfl (.p rfl)) ?_
   refine yai h ?_; clear h; intro x9 hx9 h
   refine pwl_call rfl rfl rfl rfl rfl (slices_ContainsFunc_api_Measure_api_Measure_ok (fun hr => pfv_of (assess_Assess_1_ok hr)) hx9) ?_
   refine yab rfl rfl rfl (pq_not rfl (.p rfl)) ?_
   refine yaf (yah ?_)
   refine yam rfl (fun hc10 => ?_) (fun hc10 => ?_)
   ·replace h := yax hc10 h
    refine yad (yaa ?_)
    refine yab rfl rfl rfl (pq_build (cs := [.v (.slice none 0 0), .v (.int .i64 0)]) rfl rfl rfl rfl rfl rfl rfl zfn) ?_
    refine pwl_l0 rfl rfl (yaw (vs := [.v (.slice none 0 0), .v (.int .i64 0)]) rfl rfl rfl rfl rfl zuh (zlc (zlc zln)) ?_)
    refine yab rfl rfl rfl (yae (p := .v (.int .i64 7)) rfl (.p rfl)) ?_
    refine yaf (yah ?_)
    refine pwc_nilb (k := 0) (b := b2) rfl zuh ?_
    refine yas (yaq ?_)
    obtain rfl := Option.some.inj h
    exact yat (prv_2 (prv1_c rfl zm0 rfl) (yav rfl)) zsn ⟨rfl, rfl⟩
   ·replace h := yay hc10 h
    refine yan (yah (yad (yaa ?_)))
    refine yab rfl rfl rfl (yaj (p := .agg [.v (.string p1.Code), .v (.string p1.Origin), .v (.bool p1.Proof), .v (.int .i64 p1.Company), .v (.int .i64 p1.Day), .v (.int .i64 p1.Quantity), .v (.int .i64 p1.Value), .v (.int .i64 p1.Granted)]) rfl (.p rfl) zm1 rfl) ?_
    refine yai h ?_; clear h; intro x11 hx11 h
    refine pwl_call rfl rfl rfl rfl rfl (assess_partsOf_ok hx11) ?_
    refine yab rfl rfl rfl (yac (p := .tup [.slc (List.map Tassess_part.enc x11.1), .v (.int .i64 x11.2)]) rfl (.p rfl)) ?_
    refine yab rfl rfl rfl (pq_extract (p := .slc (List.map Tassess_part.enc x11.1)) rfl (.p rfl) rfl) ?_
    refine yab rfl rfl rfl (pq_extract (p := .v (.int .i64 x11.2)) rfl (.p rfl) rfl) ?_
    refine yab rfl rfl rfl (yae (p := .slc (List.map Tassess_part.enc x11.1)) rfl (.p rfl)) ?_
    refine yab rfl rfl rfl (yae (p := .v (.int .i64 x11.2)) rfl (.p rfl)) ?_
    refine yaf (yah (yad (yad (yaa ?_))))
    refine yab rfl rfl rfl (yac (p := .v (.int .i64 x11.2)) rfl (.p rfl)) ?_
    refine yab rfl rfl rfl (yap rfl (.p rfl) (.p rfl) rfl) ?_
    refine yaf (yah ?_)
    refine yam rfl (fun hc12 => ?_) (fun hc12 => ?_)
    ·replace h := yax hc12 h
     refine yad (yaa ?_)
     refine yab rfl rfl rfl (pq_build (cs := [.v (.slice none 0 0), .v (.int .i64 0)]) rfl rfl rfl rfl rfl rfl rfl zfn) ?_
     refine yab rfl rfl rfl (yac (p := .v (.int .i64 x11.2)) rfl (.p rfl)) ?_
     refine pwl_l0 rfl rfl (yaw (vs := [.v (.slice none 0 0), .v (.int .i64 0)]) rfl rfl rfl rfl rfl zuh (zlc (zlc zln)) ?_)
     refine yab rfl rfl rfl (yae (p := .v (.int .i64 x11.2)) rfl (.p rfl)) ?_
     refine yaf (yah ?_)
     refine pwc_nilb (k := 0) (b := b2) rfl zuh ?_
     refine yas (yaq ?_)
     obtain rfl := Option.some.inj h
     exact yat (prv_2 (prv1_c rfl zm0 rfl) (yav rfl)) zsn ⟨rfl, rfl⟩
    ·replace h := yay hc12 h
     refine yan (yah (yad (yaa ?_)))
     refine pwl_l rfl rfl rfl (pl_alloc (cs := [.v (.slice none 0 0), .v (.int .i64 0)]) rfl rfl rfl rfl (fun b13 => ?_))
     refine yaf (yah (yad (yad (yaa ?_))))
     refine yab rfl rfl rfl (yac (p := .slc (List.map Tassess_part.enc x11.1)) rfl (.p rfl)) ?_
     refine yab rfl rfl rfl (pq_lenT (enc := Tassess_part.enc) rfl rfl (.p rfl)) ?_
     refine yab rfl rfl rfl (yac (p := .v (.int .i64 0)) rfl (.p rfl)) ?_
     refine yaf (yah ?_)
     refine pwc_nilrow 49 5 ?_
     refine yai h ?_; clear h; intro q26 hq26 h
     refine pwc_join (Y := (Option Addr × Nat) × ((List TDebtLine) × Int)) (fun ((a21, c22), (l23, v24)) => [(4, .v (.pointer (some ⟨b2, 0, none⟩))), (11, .v (.pointer (some ⟨b13, 0, none⟩)))]) (fun ((a21, c22), (l23, v24)) => [PRes.b b13 35 [.v (.slice a21 l23.length c22), .v (.int .i64 v24)], PRes.b b2 35 [.v (.slice none 0 0), .v (.int .i64 0)], PRes.row a21 l23.length c22 49 5 (List.map TDebtLine.enc l23)]) (fun ((a21, c22), (l23, v24)) => q26 = Sum.inl (l23, v24)) ?_ ?_
     ·refine pwc_block ?_
      refine pwc_loopF (Y := Option Addr × Nat) (S := Int × (List TDebtLine) × Int) _ hq26 (fun (a17, c18) (v14, l16, v19) => [(4, .v (.pointer (some ⟨b2, 0, none⟩))), (8, .slc (List.map TMeasure.enc x7)), (11, .v (.pointer (some ⟨b13, 0, none⟩))), (52, .slc (List.map Tassess_part.enc x11.1)), (53, .v (.int .i64 (x11.1.length : Int))), (54, .v (.int .i64 v14))]) (fun (a17, c18) (v14, l16, v19) => [PRes.b b13 35 [.v (.slice a17 l16.length c18), .v (.int .i64 v19)], PRes.b b2 35 [.v (.slice none 0 0), .v (.int .i64 0)], PRes.row a17 l16.length c18 49 5 (List.map TDebtLine.enc l16)]) (none, 0) (zhc rfl (zhc rfl (zhc rfl (zhc rfl (zhc rfl (zhc rfl zhn)))))) (zsc (zpt zph) (zsc (zpt zph) (zsc zph zsn))) ?_
      rintro ⟨a17, c18⟩ ⟨v14, l16, v19⟩ o τ hb25; (try dsimp only at hb25); dsimp only [pupds]
      refine yad (yaa ?_)
      refine yab rfl rfl rfl (yap rfl (.p rfl) (.p rfl) rfl) ?_
      refine yaf (yah (yad ?_))
      refine yam rfl (fun hc28 => ?_) (fun hc28 => ?_)
      ·replace hb25 := yax hc28 hb25
       refine yan (yah (yad ?_))
       refine yai hb25 ?_; clear hb25; intro q34 hq34 hb25
       refine pwc_join (Y := (Option Addr × Nat) × ((List TDebtLine) × Int)) (fun ((a30, c31), (l32, v33)) => [(4, .v (.pointer (some ⟨b2, 0, none⟩))), (8, .slc (List.map TMeasure.enc x7)), (11, .v (.pointer (some ⟨b13, 0, none⟩))), (52, .slc (List.map Tassess_part.enc x11.1)), (53, .v (.int .i64 (x11.1.length : Int))), (54, .v (.int .i64 v14))]) (fun ((a30, c31), (l32, v33)) => [PRes.b b13 35 [.v (.slice a30 l32.length c31), .v (.int .i64 v33)], PRes.b b2 35 [.v (.slice none 0 0), .v (.int .i64 0)], PRes.row a30 l32.length c31 49 5 (List.map TDebtLine.enc l32)]) (fun ((a30, c31), (l32, v33)) => q34 = Sum.inl (l32, v33)) ?_ ?_
       ·skip
        refine pwc_block (yad (yaa ?_))
        refine yai hq34 ?_; clear hq34; intro m35 hm35 hq34
        refine yab rfl rfl rfl (pq_index (enc := Tassess_part.enc) rfl rfl rfl (fun _ => rfl) (.p rfl) (.p rfl) (fun _ => hm35)) ?_
        refine yab rfl rfl rfl (pq_load_r (p := .agg [.v (.int .i64 m35.quantity), .v (.int .i64 m35.value), .slc (List.map eI m35.kinds)]) rfl (.p rfl) rfl) ?_
        refine pwl_l rfl rfl rfl (pl_alloc (cs := [.v (.int .i64 0), .v (.int .i64 0), .v (.slice none 0 0)]) rfl rfl rfl rfl (fun b36 => ?_))
        refine pwl_l0 rfl rfl (yaw (vs := [.v (.int .i64 m35.quantity), .v (.int .i64 m35.value), .slc (List.map eI m35.kinds)]) rfl rfl rfl rfl rfl zuh (zlc (zlc (zlc zln))) ?_)
        refine yaf (yah (yad (yaa ?_)))
        refine yab rfl rfl rfl (yac (p := .slc (List.map TMeasure.enc x7)) rfl (.p rfl)) ?_
        refine yab rfl rfl rfl (yaj (p := .agg [.v (.int .i64 m35.quantity), .v (.int .i64 m35.value), .slc (List.map eI m35.kinds)]) rfl (.p rfl) zm0 rfl) ?_
        refine yai hq34 ?_; clear hq34; intro x37 hx37 hq34
        refine pwl_call rfl rfl rfl rfl rfl (assess_leastDuty_ok hx37) ?_
        refine yab rfl rfl rfl (yac (p := .tup [.agg [.v (.int .i64 x37.1.Kind), .v (.int .i64 x37.1.Measure), .v (.int .i64 x37.1.Quantity), .v (.int .i64 x37.1.Value), .v (.int .i64 x37.1.Amount)], .v (.bool x37.2.1), .v (.int .i64 x37.2.2)]) rfl (.p rfl)) ?_
        refine yab rfl rfl rfl (pq_extract (p := .agg [.v (.int .i64 x37.1.Kind), .v (.int .i64 x37.1.Measure), .v (.int .i64 x37.1.Quantity), .v (.int .i64 x37.1.Value), .v (.int .i64 x37.1.Amount)]) rfl (.p rfl) rfl) ?_
        refine yab rfl rfl rfl (pq_extract (p := .v (.bool x37.2.1)) rfl (.p rfl) rfl) ?_
        refine yab rfl rfl rfl (pq_extract (p := .v (.int .i64 x37.2.2)) rfl (.p rfl) rfl) ?_
        refine pwl_l rfl rfl rfl (pl_alloc (cs := [.v (.int .i64 0), .v (.int .i64 0), .v (.int .i64 0), .v (.int .i64 0), .v (.int .i64 0)]) rfl rfl rfl rfl (fun b38 => ?_))
        refine pwl_l0 rfl rfl (yaw (vs := [.v (.int .i64 x37.1.Kind), .v (.int .i64 x37.1.Measure), .v (.int .i64 x37.1.Quantity), .v (.int .i64 x37.1.Value), .v (.int .i64 x37.1.Amount)]) rfl rfl rfl rfl rfl zuh (zlc (zlc (zlc (zlc (zlc zln))))) ?_)
        refine yab rfl rfl rfl (yae (p := .v (.bool x37.2.1)) rfl (.p rfl)) ?_
        refine yab rfl rfl rfl (yae (p := .v (.int .i64 x37.2.2)) rfl (.p rfl)) ?_
        refine yaf (yah (yad (yad (yaa ?_))))
        refine yab rfl rfl rfl (yac (p := .v (.int .i64 x37.2.2)) rfl (.p rfl)) ?_
        refine yab rfl rfl rfl (yap rfl (.p rfl) (.p rfl) rfl) ?_
        refine yaf (yah ?_)
        refine yam rfl (fun hc39 => ?_) (fun hc39 => ?_)
        ·replace hq34 := yax hc39 hq34
         refine yad (yaa ?_)
         refine yab rfl rfl rfl (pq_build (cs := [.v (.slice none 0 0), .v (.int .i64 0)]) rfl rfl rfl rfl rfl rfl rfl zfn) ?_
         refine yab rfl rfl rfl (yac (p := .v (.int .i64 x37.2.2)) rfl (.p rfl)) ?_
         refine pwl_l0 rfl rfl (yaw (vs := [.v (.slice none 0 0), .v (.int .i64 0)]) rfl rfl rfl rfl rfl (zut (zut (zut zuh))) (zlc (zlc zln)) ?_)
         refine yab rfl rfl rfl (yae (p := .v (.int .i64 x37.2.2)) rfl (.p rfl)) ?_
         refine yaf (yah ?_)
         refine pwc_nilb (k := 0) (b := b2) rfl (zut (zut (zut zuh))) ?_
         refine yas (yaq (yaz (pk_mid_ret ?_)))
         obtain rfl := Option.some.inj hq34
         have hb25 := (show some _ = some _ from hb25)
         refine pk_loop_ret hb25 (fun ht => ?_); subst ht
         have h := (show some _ = some _ from h)
         refine yaz (pk_mid_ret ?_)
         obtain rfl := Option.some.inj h
         exact yat (prv_2 (prv1_c rfl zm3 rfl) (yav rfl)) zsn ⟨rfl, rfl⟩
        ·replace hq34 := yay hc39 hq34
         refine yan (yah (yad (yaa ?_)))
         refine yab rfl rfl rfl (yac (p := .v (.bool x37.2.1)) rfl (.p rfl)) ?_
         refine yaf (yah ?_)
         refine yam rfl (fun hc40 => ?_) (fun hc40 => ?_)
         ·replace hq34 := yax hc40 hq34
          refine yad (yaa ?_)
          refine yab rfl rfl rfl (yag rfl rfl rfl rfl rfl (.p rfl)) ?_
          refine yab rfl rfl rfl (yaj (p := .v (.slice a17 l16.length c18)) rfl (.p rfl) zm2 rfl) ?_
          refine yab rfl rfl rfl (yaj (p := .agg [.v (.int .i64 x37.1.Kind), .v (.int .i64 x37.1.Measure), .v (.int .i64 x37.1.Quantity), .v (.int .i64 x37.1.Value), .v (.int .i64 x37.1.Amount)]) rfl (.p rfl) zm0 rfl) ?_
          refine pwl_l rfl rfl rfl (pl_lit rfl rfl rfl rfl rfl (zic rfl zin) rfl rfl rfl rfl (fun b41 => ?_))
          refine yai hq34 ?_; clear hq34; intro l43 hl43 hq34
          refine pwl_l rfl rfl rfl (pl_app_o (enc := TDebtLine.enc) rfl rfl rfl rfl rfl rfl rfl rfl rfl zm0 (by exact zpt (zpt (zpt (zpt (zpt zph))))) hl43 (fun a44 c45 => ?_))
          refine yab rfl rfl rfl (yag rfl rfl rfl rfl rfl (.p rfl)) ?_
          refine pwl_l0 rfl rfl (yaw (vs := [.v (.slice a44 l43.length c45)]) rfl rfl rfl rfl rfl (zut (zut (zut (zut zuh)))) (zlc zln) ?_)
          refine yaf (yah (yaa ?_))
          refine yab rfl rfl rfl (yag rfl rfl rfl rfl rfl (.p rfl)) ?_
          refine yab rfl rfl rfl (yaj (p := .v (.int .i64 v19)) rfl (.p rfl) zm4 rfl) ?_
          refine yab rfl rfl rfl (yag rfl rfl rfl rfl rfl (.p rfl)) ?_
          refine yab rfl rfl rfl (yaj (p := .v (.int .i64 x37.1.Amount)) rfl (.p rfl) zm2 rfl) ?_
          refine yab rfl rfl rfl (yau rfl (.p rfl) (.p rfl) rfl) ?_
          refine yab rfl rfl rfl (yag rfl rfl rfl rfl rfl (.p rfl)) ?_
          refine pwl_l0 rfl rfl (yaw (vs := [.v (.int .i64 (IntKind.i64.wrap (v19 + x37.1.Amount)))]) rfl rfl rfl rfl rfl (zut (zut (zut (zut zuh)))) (zlt (zlc zln)) ?_)
          refine yaf (pk_block_n ?_)
          obtain rfl := Option.some.inj hq34
          exact pk_mid ((a44, c45), (l43, (IntKind.i64.wrap (v19 + x37.1.Amount)))) (zhc rfl (zhc rfl (zhc rfl (zhc rfl (zhc rfl (zhc rfl zhn)))))) (zsc (zpt (zpt (zpt (zpt zph)))) (zsc (zpt (zpt (zpt (zpt zph)))) (zsc zph zsn))) rfl
         ·replace hq34 := yay hc40 hq34
          refine yan (pk_block_n ?_)
          obtain rfl := Option.some.inj hq34
          exact pk_mid ((a17, c18), (l16, v19)) (zhc rfl (zhc rfl (zhc rfl (zhc rfl (zhc rfl (zhc rfl zhn)))))) (zsc (zpt (zpt zph)) (zsc (zpt (zpt zph)) (zsc (zpt (zpt zph)) zsn))) rfl
       ·rintro ⟨⟨a30, c31⟩, ⟨l32, v33⟩⟩ τ hz; (try dsimp only at hz); subst q34; (try dsimp only at hb25); dsimp only [pupds]
        refine yaa ?_
        refine yab rfl rfl rfl (yau rfl (.p rfl) (.p rfl) rfl) ?_
        refine yab rfl rfl rfl (yac (p := .v (.int .i64 (IntKind.i64.wrap (v14 + 1)))) rfl (.p rfl)) ?_
        refine yaf ?_
        exact pk_loop hb25 (a30, c31) (zhc rfl (zhc rfl (zhc rfl (zhc rfl (zhc rfl (zhc rfl zhn)))))) (zsc zph (zsc zph (zsc zph zsn)))
      ·replace hb25 := yay hc28 hb25
       refine pwc_exit (pk_seq_exit ?_)
       refine pk_loop_exit hb25 (fun ht => ?_)
       refine pk_block_eq rfl ?_
       exact pk_mid ((a17, c18), (l16, v19)) (zhc rfl (zhc rfl zhn)) (zsc zph (zsc zph (zsc zph zsn))) ht.symm
     ·rintro ⟨⟨a21, c22⟩, ⟨l23, v24⟩⟩ τ hz; (try dsimp only at hz); subst q26; (try dsimp only at h); dsimp only [pupds]
      refine yad (yad (yaa ?_))
      refine yab rfl rfl rfl (yag rfl rfl rfl rfl rfl (.p rfl)) ?_
      refine yab rfl rfl rfl (yaj (p := .v (.int .i64 v24)) rfl (.p rfl) zm0 rfl) ?_
      refine yab rfl rfl rfl (yap rfl (.p rfl) (.p rfl) rfl) ?_
      refine yaf (yah ?_)
      refine yam rfl (fun hc47 => ?_) (fun hc47 => ?_)
      ·replace h := yax hc47 h
       refine yad (yaa ?_)
       refine yab rfl rfl rfl (pq_build (cs := [.v (.slice none 0 0), .v (.int .i64 0)]) rfl rfl rfl rfl rfl rfl rfl zfn) ?_
       refine pwl_l0 rfl rfl (yaw (vs := [.v (.slice none 0 0), .v (.int .i64 0)]) rfl rfl rfl rfl rfl (zut zuh) (zlc (zlc zln)) ?_)
       refine yab rfl rfl rfl (yae (p := .v (.int .i64 3)) rfl (.p rfl)) ?_
       refine yaf (yah ?_)
       refine pwc_nilb (k := 0) (b := b2) rfl (zut zuh) ?_
       refine yas (yaq ?_)
       obtain rfl := Option.some.inj h
       exact yat (prv_2 (prv1_c rfl zm1 rfl) (yav rfl)) zsn ⟨rfl, rfl⟩
      ·replace h := yay hc47 h
       refine yan (yah (yad (yaa ?_)))
       refine pwl_frz (css := List.map TDebtLine.enc l23) (a := a21) (by exact zpt (zpt zph)) ?_
       refine pwl_viewb (k := 0) (css := List.map TDebtLine.enc l23) (b := b13) (a := a21) rfl zm0 (zut zuh) ?_
       refine yab rfl rfl rfl (yaj (p := .agg [.slc (List.map TDebtLine.enc l23), .v (.int .i64 v24)]) rfl (.p rfl) zm1 rfl) ?_
       refine pwl_l0 rfl rfl (yaw (vs := [.slc (List.map TDebtLine.enc l23), .v (.int .i64 v24)]) rfl rfl rfl rfl rfl (zut (zut zuh)) (zlc (zlc zln)) ?_)
       refine yab rfl rfl rfl (yae (p := .v (.int .i64 0)) rfl (.p rfl)) ?_
       refine yaf (yah (yas ?_))
       obtain rfl := Option.some.inj h
       exact yat (prv_2 (prv1_c rfl zm2 rfl) (yav rfl)) zsn ⟨rfl, rfl⟩
def assess_Total (p0 : (List TMeasure)) (p1 : TItem) : Option (Int × Int) := Option.bind (assess_Assess p0 p1) (fun x2 => some (x2.1.Total, x2.2))
set_option maxHeartbeats 4000000 in
theorem assess_Total_ok {p0 : (List TMeasure)} {p1 : TItem} {r : (Int × Int)}  (h : assess_Total p0 p1 = some r) : PF 19 [.slc (List.map TMeasure.enc p0), .agg [.v (.string p1.Code), .v (.string p1.Origin), .v (.bool p1.Proof), .v (.int .i64 p1.Company), .v (.int .i64 p1.Day), .v (.int .i64 p1.Quantity), .v (.int .i64 p1.Value), .v (.int .i64 p1.Granted)]] (.tup [.v (.int .i64 r.1), .v (.int .i64 r.2)]) := by
 unfold assess_Total at h
 refine pf_of ?_
 refine penter Tryz.func19 fk19 rfl Tryz.ntmps19 Tryz.results19 rfl ?_
 refine yad (yaa ?_)
 refine pwl_l rfl rfl rfl (pl_box (cs := [.v (.string p1.Code), .v (.string p1.Origin), .v (.bool p1.Proof), .v (.int .i64 p1.Company), .v (.int .i64 p1.Day), .v (.int .i64 p1.Quantity), .v (.int .i64 p1.Value), .v (.int .i64 p1.Granted)]) rfl rfl (fun b1 => ?_))
 refine yab rfl rfl rfl (yae (p := .v (.int .i64 0)) rfl (.p rfl)) ?_
 refine yab rfl rfl rfl (yae (p := .v (.int .i64 0)) rfl (.p rfl)) ?_
 refine yaf (yah (yad (yaa ?_)))
 refine yab rfl rfl rfl (yac (p := .slc (List.map TMeasure.enc p0)) rfl (.p rfl)) ?_
 refine yab rfl rfl rfl (yaj (p := .agg [.v (.string p1.Code), .v (.string p1.Origin), .v (.bool p1.Proof), .v (.int .i64 p1.Company), .v (.int .i64 p1.Day), .v (.int .i64 p1.Quantity), .v (.int .i64 p1.Value), .v (.int .i64 p1.Granted)]) rfl (.p rfl) zm0 rfl) ?_
 refine yai h ?_; clear h; intro x2 hx2 h
 refine pwl_call rfl rfl rfl rfl rfl (assess_Assess_ok hx2) ?_
 refine yab rfl rfl rfl (yac (p := .tup [.agg [.slc (List.map TDebtLine.enc x2.1.Lines), .v (.int .i64 x2.1.Total)], .v (.int .i64 x2.2)]) rfl (.p rfl)) ?_
 refine yab rfl rfl rfl (pq_extract (p := .agg [.slc (List.map TDebtLine.enc x2.1.Lines), .v (.int .i64 x2.1.Total)]) rfl (.p rfl) rfl) ?_
 refine yab rfl rfl rfl (pq_extract (p := .v (.int .i64 x2.2)) rfl (.p rfl) rfl) ?_
 refine pwl_l rfl rfl rfl (pl_alloc (cs := [.v (.slice none 0 0), .v (.int .i64 0)]) rfl rfl rfl rfl (fun b3 => ?_))
 refine pwl_l0 rfl rfl (yaw (vs := [.slc (List.map TDebtLine.enc x2.1.Lines), .v (.int .i64 x2.1.Total)]) rfl rfl rfl rfl rfl zuh (zlc (zlc zln)) ?_)
 refine yab rfl rfl rfl (yae (p := .v (.int .i64 x2.2)) rfl (.p rfl)) ?_
 refine yaf (yah (yad (yaa ?_)))
 refine yab rfl rfl rfl (yag rfl rfl rfl rfl rfl (.p rfl)) ?_
 refine yab rfl rfl rfl (yaj (p := .v (.int .i64 x2.1.Total)) rfl (.p rfl) zm0 rfl) ?_
 refine yab rfl rfl rfl (yac (p := .v (.int .i64 x2.2)) rfl (.p rfl)) ?_
 refine yab rfl rfl rfl (yae (p := .v (.int .i64 x2.1.Total)) rfl (.p rfl)) ?_
 refine yab rfl rfl rfl (yae (p := .v (.int .i64 x2.2)) rfl (.p rfl)) ?_
 refine yaf (yah (yas ?_))
 obtain rfl := Option.some.inj h
 exact yat (prv_2 (yav rfl) (yav rfl)) zsn ⟨rfl, rfl⟩
def law20_awake  : Option Bool := Option.bind (assess_Assess [(⟨1, 1, (⟨#[57, 52]⟩ : ByteArray), [], 0, 0, 100, (-1), (⟨50000, 0, 0, false, 0, false, 0⟩ : TDuty)⟩ : TMeasure), (⟨2, 3, (⟨#[57, 52]⟩ : ByteArray), [], 0, 0, 100, (-1), (⟨0, 0, 0, false, 0, false, 0⟩ : TDuty)⟩ : TMeasure)] (⟨(⟨#[57, 52, 48, 49, 51, 48, 48, 48]⟩ : ByteArray), (⟨#[65, 65]⟩ : ByteArray), false, 0, 0, 10, 10000, 0⟩ : TItem)) (fun x4 => Option.bind (assess_Total [(⟨1, 1, (⟨#[57, 52]⟩ : ByteArray), [], 0, 0, 100, (-1), (⟨50000, 0, 0, false, 0, false, 0⟩ : TDuty)⟩ : TMeasure), (⟨2, 3, (⟨#[57, 52]⟩ : ByteArray), [], 0, 0, 100, (-1), (⟨0, 0, 0, false, 0, false, 0⟩ : TDuty)⟩ : TMeasure)] (⟨(⟨#[57, 52, 48, 49, 51, 48, 48, 48]⟩ : ByteArray), (⟨#[65, 65]⟩ : ByteArray), true, 0, 0, 10, 10000, 0⟩ : TItem)) (fun x6 => some (((((x4.2 == 0) && (x6.2 == 0)) && (x4.1.Total == 500)) && ((x4.1.Lines.length : Int) == 1)) && (x6.1 == 0))))
set_option maxHeartbeats 4000000 in
theorem law20_awake_ok  {r : Bool}  (h : law20_awake  = some r) : PF 15 [] (.v (.bool r)) := by
 unfold law20_awake at h
 refine pf_of ?_
 refine penter Tryz.func15 fk15 rfl Tryz.ntmps15 Tryz.results15 rfl ?_
 refine yad (yaa ?_)
 refine yab rfl rfl rfl (yae (p := .v (.bool false)) rfl (.p rfl)) ?_
 refine yaf (yah (yad (yaa ?_)))
 refine yab rfl rfl rfl (pq_build (cs := [.v (.int .i64 50000), .v (.int .i64 0), .v (.int .i64 0), .v (.bool false), .v (.int .i64 0), .v (.bool false), .v (.int .i64 0)]) rfl rfl rfl rfl rfl rfl rfl (zfc rfl rfl rfl rfl (zlc zln) zfn)) ?_
 refine yab rfl rfl rfl (pq_build (cs := [.v (.int .i64 1), .v (.int .i64 1), .v (.string (⟨#[57, 52]⟩ : ByteArray)), .v (.slice none 0 0), .v (.int .i64 0), .v (.int .i64 0), .v (.int .i64 100), .v (.int .i64 (-1)), .v (.int .i64 50000), .v (.int .i64 0), .v (.int .i64 0), .v (.bool false), .v (.int .i64 0), .v (.bool false), .v (.int .i64 0)]) rfl rfl rfl rfl rfl rfl rfl (zfc rfl rfl rfl rfl (zlc zln) (zfc rfl rfl rfl rfl (zlt (zlc zln)) (zfc rfl rfl rfl rfl (zlt (zlt (zlc zln))) (zfc rfl rfl rfl rfl (zlt (zlt (zlt (zlt (zlt (zlt (zlc zln))))))) (zfc rfl rfl rfl rfl (zlt (zlt (zlt (zlt (zlt (zlt (zlt (zlc zln)))))))) (zfc rfl rfl rfl rfl (zlt (zlt (zlt (zlt (zlt (zlt (zlt (zlt (zlc (zlc (zlc (zlc (zlc (zlc (zlc zln))))))))))))))) zfn))))))) ?_
 refine yab rfl rfl rfl (pq_build (cs := [.v (.int .i64 2), .v (.int .i64 3), .v (.string (⟨#[57, 52]⟩ : ByteArray)), .v (.slice none 0 0), .v (.int .i64 0), .v (.int .i64 0), .v (.int .i64 100), .v (.int .i64 (-1)), .v (.int .i64 0), .v (.int .i64 0), .v (.int .i64 0), .v (.bool false), .v (.int .i64 0), .v (.bool false), .v (.int .i64 0)]) rfl rfl rfl rfl rfl rfl rfl (zfc rfl rfl rfl rfl (zlc zln) (zfc rfl rfl rfl rfl (zlt (zlc zln)) (zfc rfl rfl rfl rfl (zlt (zlt (zlc zln))) (zfc rfl rfl rfl rfl (zlt (zlt (zlt (zlt (zlt (zlt (zlc zln))))))) (zfc rfl rfl rfl rfl (zlt (zlt (zlt (zlt (zlt (zlt (zlt (zlc zln)))))))) zfn)))))) ?_
 refine pwl_aggnil 8 3 rfl rfl ?_
 refine pwl_aggnil 9 3 rfl rfl ?_
 refine pwl_l rfl rfl rfl (pl_lit rfl rfl rfl rfl rfl (zic rfl (zic rfl zin)) rfl rfl rfl rfl (fun b1 => ?_))
 refine yab rfl rfl rfl (yae (p := .v (.slice (some ⟨b1, 0, none⟩) 2 2)) rfl (.p rfl)) ?_
 refine yaf (yah (yad (yaa ?_)))
 refine yab rfl rfl rfl (pq_build (cs := [.v (.string (⟨#[57, 52, 48, 49, 51, 48, 48, 48]⟩ : ByteArray)), .v (.string (⟨#[65, 65]⟩ : ByteArray)), .v (.bool false), .v (.int .i64 0), .v (.int .i64 0), .v (.int .i64 10), .v (.int .i64 10000), .v (.int .i64 0)]) rfl rfl rfl rfl rfl rfl rfl (zfc rfl rfl rfl rfl (zlc zln) (zfc rfl rfl rfl rfl (zlt (zlc zln)) (zfc rfl rfl rfl rfl (zlt (zlt (zlt (zlt (zlt (zlc zln)))))) (zfc rfl rfl rfl rfl (zlt (zlt (zlt (zlt (zlt (zlt (zlc zln))))))) zfn))))) ?_
 refine pwl_l rfl rfl rfl (pl_alloc (cs := [.v (.string ByteArray.empty), .v (.string ByteArray.empty), .v (.bool false), .v (.int .i64 0), .v (.int .i64 0), .v (.int .i64 0), .v (.int .i64 0), .v (.int .i64 0)]) rfl rfl rfl rfl (fun b3 => ?_))
 refine pwl_l0 rfl rfl (yaw (vs := [.v (.string (⟨#[57, 52, 48, 49, 51, 48, 48, 48]⟩ : ByteArray)), .v (.string (⟨#[65, 65]⟩ : ByteArray)), .v (.bool false), .v (.int .i64 0), .v (.int .i64 0), .v (.int .i64 10), .v (.int .i64 10000), .v (.int .i64 0)]) rfl rfl rfl rfl rfl zuh (zlc (zlc (zlc (zlc (zlc (zlc (zlc (zlc zln)))))))) ?_)
 refine yaf (yah (yad (yaa ?_)))
 refine yab rfl rfl rfl (yac (p := .v (.slice (some ⟨b1, 0, none⟩) 2 2)) rfl (.p rfl)) ?_
 refine yab rfl rfl rfl (yaj (p := .agg [.v (.string (⟨#[57, 52, 48, 49, 51, 48, 48, 48]⟩ : ByteArray)), .v (.string (⟨#[65, 65]⟩ : ByteArray)), .v (.bool false), .v (.int .i64 0), .v (.int .i64 0), .v (.int .i64 10), .v (.int .i64 10000), .v (.int .i64 0)]) rfl (.p rfl) zm0 rfl) ?_
 refine pwl_frzt (css := List.map TMeasure.enc [(⟨1, 1, (⟨#[57, 52]⟩ : ByteArray), [], 0, 0, 100, (-1), (⟨50000, 0, 0, false, 0, false, 0⟩ : TDuty)⟩ : TMeasure), (⟨2, 3, (⟨#[57, 52]⟩ : ByteArray), [], 0, 0, 100, (-1), (⟨0, 0, 0, false, 0, false, 0⟩ : TDuty)⟩ : TMeasure)]) 13 rfl (by exact zpt zph) ?_
 refine yai h ?_; clear h; intro x4 hx4 h
 refine pwl_call rfl rfl rfl rfl rfl (assess_Assess_ok hx4) ?_
 refine yab rfl rfl rfl (yac (p := .tup [.agg [.slc (List.map TDebtLine.enc x4.1.Lines), .v (.int .i64 x4.1.Total)], .v (.int .i64 x4.2)]) rfl (.p rfl)) ?_
 refine yab rfl rfl rfl (pq_extract (p := .agg [.slc (List.map TDebtLine.enc x4.1.Lines), .v (.int .i64 x4.1.Total)]) rfl (.p rfl) rfl) ?_
 refine yab rfl rfl rfl (pq_extract (p := .v (.int .i64 x4.2)) rfl (.p rfl) rfl) ?_
 refine pwl_l rfl rfl rfl (pl_alloc (cs := [.v (.slice none 0 0), .v (.int .i64 0)]) rfl rfl rfl rfl (fun b5 => ?_))
 refine pwl_l0 rfl rfl (yaw (vs := [.slc (List.map TDebtLine.enc x4.1.Lines), .v (.int .i64 x4.1.Total)]) rfl rfl rfl rfl rfl zuh (zlc (zlc zln)) ?_)
 refine yab rfl rfl rfl (yae (p := .v (.int .i64 x4.2)) rfl (.p rfl)) ?_
 refine yaf (yah (yad (yaa ?_)))
 refine yab rfl rfl rfl (yag rfl rfl rfl rfl rfl (.p rfl)) ?_
 refine pwl_l0 rfl rfl (yaw (vs := [.v (.bool true)]) rfl rfl rfl rfl rfl (zut (zut zuh)) (zlt (zlt (zlc zln))) ?_)
 refine yaf (yah (yad (yaa ?_)))
 refine yab rfl rfl rfl (yac (p := .v (.slice (some ⟨b1, 0, none⟩) 2 2)) rfl (.p rfl)) ?_
 refine yab rfl rfl rfl (yaj (p := .agg [.v (.string (⟨#[57, 52, 48, 49, 51, 48, 48, 48]⟩ : ByteArray)), .v (.string (⟨#[65, 65]⟩ : ByteArray)), .v (.bool true), .v (.int .i64 0), .v (.int .i64 0), .v (.int .i64 10), .v (.int .i64 10000), .v (.int .i64 0)]) rfl (.p rfl) zm2 rfl) ?_
 refine pwl_view (css := List.map TMeasure.enc [(⟨1, 1, (⟨#[57, 52]⟩ : ByteArray), [], 0, 0, 100, (-1), (⟨50000, 0, 0, false, 0, false, 0⟩ : TDuty)⟩ : TMeasure), (⟨2, 3, (⟨#[57, 52]⟩ : ByteArray), [], 0, 0, 100, (-1), (⟨0, 0, 0, false, 0, false, 0⟩ : TDuty)⟩ : TMeasure)]) 20 rfl zm1 ?_
 refine yai h ?_; clear h; intro x6 hx6 h
 refine pwl_call rfl rfl rfl rfl rfl (assess_Total_ok hx6) ?_
 refine yab rfl rfl rfl (yac (p := .tup [.v (.int .i64 x6.1), .v (.int .i64 x6.2)]) rfl (.p rfl)) ?_
 refine yab rfl rfl rfl (pq_extract (p := .v (.int .i64 x6.1)) rfl (.p rfl) rfl) ?_
 refine yab rfl rfl rfl (pq_extract (p := .v (.int .i64 x6.2)) rfl (.p rfl) rfl) ?_
 refine yab rfl rfl rfl (yae (p := .v (.int .i64 x6.1)) rfl (.p rfl)) ?_
 refine yab rfl rfl rfl (yae (p := .v (.int .i64 x6.2)) rfl (.p rfl)) ?_
 refine yaf (yah (yad (yaa ?_)))
 refine yab rfl rfl rfl (yac (p := .v (.int .i64 x4.2)) rfl (.p rfl)) ?_
 refine yab rfl rfl rfl (yap rfl (.p rfl) (.p rfl) rfl) ?_
 refine yab rfl rfl rfl (yac (p := .v (.bool (x4.2 == 0))) rfl (.p rfl)) ?_
 refine yal (yar rfl rfl rfl) rfl rfl (yac (p := .v (.int .i64 x6.2)) rfl (.p rfl)) ?_
 refine yal (yar rfl rfl rfl) rfl rfl (yap rfl (.g rfl) (.p rfl) rfl) ?_
 refine yab rfl rfl rfl (pq_and rfl (.p rfl) (.p rfl) (.g rfl)) ?_
 refine yab rfl rfl rfl (yac (p := .v (.bool ((x4.2 == 0) && (x6.2 == 0)))) rfl (.p rfl)) ?_
 refine yal (yar rfl rfl rfl) rfl rfl (yag rfl rfl rfl rfl rfl (.p rfl)) ?_
 refine yal (yar rfl rfl rfl) rfl rfl (yaj (p := .v (.int .i64 x4.1.Total)) rfl (.g rfl) zm0 rfl) ?_
 refine yal (yar rfl rfl rfl) rfl rfl (yap rfl (.g rfl) (.p rfl) rfl) ?_
 refine yab rfl rfl rfl (pq_and rfl (.p rfl) (.p rfl) (.g rfl)) ?_
 refine yab rfl rfl rfl (yac (p := .v (.bool (((x4.2 == 0) && (x6.2 == 0)) && (x4.1.Total == 500)))) rfl (.p rfl)) ?_
 refine yal (yar rfl rfl rfl) rfl rfl (yag rfl rfl rfl rfl rfl (.p rfl)) ?_
 refine yal (yar rfl rfl rfl) rfl rfl (yaj (p := .slc (List.map TDebtLine.enc x4.1.Lines)) rfl (.g rfl) zm0 rfl) ?_
 refine yal (yar rfl rfl rfl) rfl rfl (pq_lenT (enc := TDebtLine.enc) rfl rfl (.g rfl)) ?_
 refine yal (yar rfl rfl rfl) rfl rfl (yap rfl (.g rfl) (.p rfl) rfl) ?_
 refine yab rfl rfl rfl (pq_and rfl (.p rfl) (.p rfl) (.g rfl)) ?_
 refine yab rfl rfl rfl (yac (p := .v (.bool ((((x4.2 == 0) && (x6.2 == 0)) && (x4.1.Total == 500)) && ((x4.1.Lines.length : Int) == 1)))) rfl (.p rfl)) ?_
 refine yal (yar rfl rfl rfl) rfl rfl (yac (p := .v (.int .i64 x6.1)) rfl (.p rfl)) ?_
 refine yal (yar rfl rfl rfl) rfl rfl (yap rfl (.g rfl) (.p rfl) rfl) ?_
 refine yab rfl rfl rfl (pq_and rfl (.p rfl) (.p rfl) (.g rfl)) ?_
 refine yab rfl rfl rfl (yae (p := .v (.bool (((((x4.2 == 0) && (x6.2 == 0)) && (x4.1.Total == 500)) && ((x4.1.Lines.length : Int) == 1)) && (x6.1 == 0)))) rfl (.p rfl)) ?_
 refine yaf (yah (yas ?_))
 obtain rfl := Option.some.inj h
 exact yat (prv_1 (yav rfl)) zsn ⟨rfl, rfl⟩
end SX
end Go.Proofs.YtfcecieppoljlaaGreatDoor
set_option maxRecDepth 100000
namespace Go.Proofs.YtfcecieppoljlaaGreatDoor
namespace SX
open Go
def k0 (W : World) : Kr := ⟨W, fun b => b < W.heap.size⟩
theorem cellsOf_eq {t : Nat} {z : Value} {s b : Nat} (h : inf t = some (z, s, b)) : Tryz.prog.cellsOf t = s ∧ Tryz.prog.bytesOf t = b := by
 obtain ⟨i, h1, h2, h3, h4⟩ := inf_get h
 constructor
 ·simp [Program.cellsOf, h1, h3]
 ·simp [Program.bytesOf, h1, h4]
def Light {H : Type} (t : Nat) (d : DataW H) : Prop := ∀ n ∈ d.weights Tryz.prog t, n ≤ reachBytes
def Opens {H : Type} (eh : TypeId × Value → H) {α : Type} (t : Nat) (e : α → List PV) : Prop :=
 ∀ (W : World) (fuel : Nat) (cs : List Value) (x : DataW H × List MemPlace), DataW.trod eh Tryz.prog W 0 (fun _ => true) true fuel t cs = some x → Light t x.1 → ∃ m, Rps (k0 W) (e m) cs ∧ One cs
section
variable {H : Type} {eh : TypeId × Value → H}
theorem one1 {v : Value} (h : v.oneCell' = true) : One [v] := fun u hu => by rw [List.mem_singleton.1 hu]; exact h
theorem opens_int {t : Nat} {k : IntKind} (h : und t = some (.int k)) : Opens eh t (fun x : Int => [.v (.int k x)]) := fun W fuel cs x hx _ => by
 obtain ⟨n, rfl, _, _⟩ := DataW.trod_int (und_ok h) hx
 exact ⟨n, .cons (.v rfl) .nil, one1 rfl⟩
theorem weightsAll_mem {e : Nat} : ∀ {l : List (DataW H)} {d : DataW H} {n : Nat}, d ∈ l → n ∈ d.weights Tryz.prog e → n ∈ DataW.weightsAll Tryz.prog e l
 | d' :: l, d, n, hd, hn => by
  simp only [DataW.weightsAll, List.mem_append]
  rcases List.mem_cons.1 hd with rfl | hd
  ·exact .inl hn
  ·exact .inr (weightsAll_mem hd hn)
theorem list_of {α β : Type} {R : α → β → Prop} : ∀ (l : List β), (∀ b ∈ l, ∃ a, R a b) → ∃ la : List α, la.length = l.length ∧ ∀ (i : Nat) (b : β), l[i]? = some b → ∃ a, la[i]? = some a ∧ R a b
 | [], _ => ⟨[], rfl, fun i b h => by simp at h⟩
 | b :: l, h => by
  obtain ⟨a, ha⟩ := h b (by simp)
  obtain ⟨la, h1, h2⟩ := list_of l fun b hb => h b (by simp [hb])
  refine ⟨a :: la, by simp [h1], fun i b' hb => ?_⟩
  cases i with
  | zero => simp only [List.getElem?_cons_zero, Option.some.injEq] at hb; subst hb; exact ⟨a, rfl, ha⟩
  | succ i => simp only [List.getElem?_cons_succ] at hb ⊢; exact h2 i b' hb
theorem opens_slice {α : Type} {t E sz by' : Nat} {z : Value} {e : α → List PV} (hu : und t = some (.slice E)) (hi : inf E = some (z, sz, by')) (h0 : Nat.blt 0 sz = true) (hb0 : Nat.blt 0 by' = true) (hE : Opens eh E e) : Opens eh t (eL e) := fun W fuel cs x hx hw => by
 obtain ⟨hcz, hby⟩ := cellsOf_eq hi
 have hsz : 0 < sz := by have := h0; simp [Nat.blt] at this; omega
 have hbp : 0 < by' := by have := hb0; simp [Nat.blt] at this; omega
 rcases DataW.trod_slice (und_ok hu) hx with ⟨rfl, _⟩ | ⟨a, len, cap, elems, rest, n, rfl, rfl, rfl, _, hl, hm, hlen, hel, _, _⟩
 ·exact ⟨[], .cons (.slc (sz := sz) (css := []) Sl.nil (by omega) (fun _ h => by cases h) .nil) .nil, one1 rfl⟩
 ·rw [hcz] at hel
  have hwl : (elems.length + rest.length) * by' ≤ reachBytes := by
   have := hw ((elems.length + rest.length) * by') (by simp only [DataW.weights, und_ok hu, hby, List.length_map]; exact List.mem_cons_self)
   exact this
  have hn : len ≤ 140737488355328 := by
   unfold reachBytes at hwl
   have : elems.length * 1 ≤ (elems.length + rest.length) * by' := Nat.mul_le_mul (by omega) (by omega)
   omega
  have hcells : ∀ i ∈ List.range len, ∃ p : α × List Value, W.cells? 0 (a.add (i * sz)) sz = some p.2 ∧ Rps (k0 W) (e p.1) p.2 ∧ One p.2 := fun i hi' => by
   have hi' : i < len := List.mem_range.1 hi'
   have h1 := hel i hi'
   have hlt : i < elems.length := by omega
   rw [List.getElem?_eq_getElem hlt] at h1
   obtain ⟨cs, h2, h3⟩ := Option.bind_eq_some_iff.1 h1
   obtain ⟨m, k1, k2⟩ := hE W n cs _ h3 fun q hq => hw q (by
    simp only [DataW.weights, und_ok hu]
    exact List.mem_cons_of_mem _ (List.mem_append.2 (.inl (weightsAll_mem (List.mem_map.2 ⟨_, List.getElem_mem hlt, rfl⟩) hq))))
   exact ⟨(m, cs), h2, k1, k2⟩
  obtain ⟨ps, g1, g2⟩ := list_of (R := fun (p : α × List Value) i => W.cells? 0 (a.add (i * sz)) sz = some p.2 ∧ Rps (k0 W) (e p.1) p.2 ∧ One p.2) (List.range len) hcells
  rw [List.length_range] at g1
  have g3 : ∀ (i : Nat) (p : α × List Value), ps[i]? = some p → W.cells? 0 (a.add (i * sz)) sz = some p.2 ∧ Rps (k0 W) (e p.1) p.2 ∧ One p.2 := fun i p hp => by
   have hlt := (List.getElem?_eq_some_iff.1 hp).1
   obtain ⟨p', h1, h2⟩ := g2 i i (by rw [List.getElem?_range (by omega)])
   rw [hp] at h1; injection h1 with h1; subst h1; exact h2
  refine ⟨ps.map (·.1), .cons (.slc (sz := sz) (css := ps.map (·.2)) ⟨by simp [g1], hl, ?_, ?_⟩ hn ?_ ?_) .nil, one1 rfl⟩
  ·intro c hc
   obtain ⟨p, hp, rfl⟩ := List.mem_map.1 hc
   obtain ⟨i, hi', rfl⟩ := List.getElem_of_mem hp
   exact (World.cells?_some (g3 i _ (List.getElem?_eq_getElem hi')).1).2.1
  ·intro hpos
   have hp0 : 0 < ps.length := by omega
   have hc0 := (World.cells?_some (g3 0 _ (List.getElem?_eq_getElem hp0)).1)
   have hread := hc0.2.2 0 hsz
   have hspot : a.spot = none := by
    have hlt : 0 < (ps[0]).2.length := by rw [hc0.2.1]; exact hsz
    rw [List.getElem?_eq_getElem hlt] at hread
    unfold World.cell? at hread
    cases hs : a.spot with
    | none => rfl
    | some q =>
     have hsp : ((a.add (0 * sz)).add 0).spot.isSome = true := by simp [Addr.add, hs]
     split at hread
     ·rw [if_pos hsp] at hread; cases hread
     ·cases hread
   obtain ⟨ab, ao, asp⟩ := a
   simp only at hspot; subst hspot
   refine ⟨ab, ao, rfl, fun j c hj => ?_⟩
   rw [List.getElem?_map] at hj
   cases hpj : ps[j]? with
   | none => rw [hpj] at hj; cases hj
   | some p =>
    rw [hpj] at hj; simp only [Option.map_some, Option.some.injEq] at hj; subst hj
    have hcj := World.cells?_some (g3 j p hpj).1
    refine ⟨?_, fun i u hu' => ?_⟩
    ·have h1 := hcj.2.2 0 hsz
     have hlt : 0 < p.2.length := by rw [hcj.2.1]; exact hsz
     rw [List.getElem?_eq_getElem hlt, add_none, add_none] at h1
     unfold World.cell? at h1
     split at h1
     ·rename_i heq
      have := heap_some_lt heq
      exact this
     ·cases h1
    ·have hlt : i < sz := by have := (List.getElem?_eq_some_iff.1 hu').1; omega
     have h1 := hcj.2.2 i hlt
     rw [add_none, add_none] at h1
     rw [← hu']; exact h1
  ·intro c hc
   obtain ⟨p, hp, rfl⟩ := List.mem_map.1 hc
   obtain ⟨i, hi', rfl⟩ := List.getElem_of_mem hp
   exact (g3 i _ (List.getElem?_eq_getElem hi')).2.2
  ·have : ∀ (l : List (α × List Value)), (∀ p ∈ l, Rps (k0 W) (e p.1) p.2) → Rpss (k0 W) ((l.map (·.1)).map e) (l.map (·.2)) := fun l => by
    induction l with
    | nil => exact fun _ => .nil
    | cons p l ih => exact fun h => .cons (h p (by simp)) (ih fun q hq => h q (by simp [hq]))
   refine this ps fun p hp => ?_
   obtain ⟨i, hi', rfl⟩ := List.getElem_of_mem hp
   exact (g3 i _ (List.getElem?_eq_getElem hi')).2.1
end
end SX
end Go.Proofs.YtfcecieppoljlaaGreatDoor
set_option maxRecDepth 100000
namespace Go.Proofs.YtfcecieppoljlaaGreatDoor
open Go Go.ChangeShapes Go.WideShapes Go.RowKit
namespace SX
theorem own_ok : ownKnob Tryz.prog.godebug = none := by kernel_rfl
theorem laidOut_ok : laidOutB Tryz.prog = true := by kernel_rfl
def laidL : List (String × DataW Unit) := [("unicode/utf8.acceptRanges", Rows.laid_unicode_utf8_acceptRanges), ("customs/nomenclature.lengths", Rows.laid_customs_nomenclature_lengths), ("unicode/utf8.first", Rows.laid_unicode_utf8_first)]
mutual
def cellsD : DataW Unit → List Value
 | .lit (.int k n) => [.int k n]
 | .agg ds => cellsDs ds
 | _ => []
def cellsDs : List (DataW Unit) → List Value
 | [] => []
 | d :: r => cellsD d ++ cellsDs r
end
def c_acc : Array Value := (cellsD Rows.laid_unicode_utf8_acceptRanges).toArray
def c_len : Array Value := #[.int .i64 2, .int .i64 4, .int .i64 6, .int .i64 8]
def c_first : Array Value := (cellsD Rows.laid_unicode_utf8_first).toArray
def layAt (h : Array Obj) (g : Nat) (cs : Array Value) : Array Obj := h.modify g fun | .cells _ t frozen => .cells cs t frozen | o => o
noncomputable def laidWorld (os : Os) : World :=
 { World.holding Tryz.prog os ⟨#[], #[], []⟩ with heap := layAt (layAt (layAt (World.holding Tryz.prog os ⟨#[], #[], []⟩).heap 4 c_acc) 0 c_len) 3 c_first }
theorem laid_plain : (laidL.filter fun x => x.2.handleName?.isSome) = [] := by kernel_rfl
def placeB (w : World) : MemPlace → Bool
 | .cell b off => match w.heap[b]? with
  | some (.cells c _ (0, 0)) => match c[off]? with | some (.iface _ _) => false | _ => true
  | _ => false
 | _ => true
theorem placesB_ok {w : World} {ps : List MemPlace} (h : ps.all (placeB w) = true) : ∀ b off, MemPlace.cell b off ∈ ps → (∃ c t, w.heap[b]? = some (.cells c t (0, 0))) ∧ ∀ u v, w.cell? ⟨b, off, none⟩ = some (.iface u v) → Value.okWide Tryz.prog w .any 0 u v := fun b off hm => by
 have := List.all_eq_true.1 h _ hm
 unfold placeB at this
 split at this
 ·rename_i b' off' e
  injection e with e1 e2; subst e1; subst e2
  split at this
  ·rename_i c t heq
   refine ⟨⟨c, t, heq⟩, fun u v hc => ?_⟩
   simp only [World.cell?, heq] at hc
   split at this
   ·cases this
   ·rename_i hno; exact absurd hc (by simpa using hno u v)
  ·cases this
 ·rename_i hno; exact absurd rfl (hno b off)
theorem laidWorld_met (os : Os) (args : Array Value) : laidMetH Tryz.prog laidL ((laidWorld os).forCall (fun _ _ => 0) ⟨#[], args, []⟩).memory := by
 unfold laidMetH
 rw [laid_plain]
 refine ⟨_, ⟨4, 193, c_acc, 8, [], _, by kernel_rfl, by kernel_rfl, by kernel_rfl, by kernel_rfl, ⟨0, 94, c_len, 8, [], _, by kernel_rfl, by kernel_rfl, by kernel_rfl, by kernel_rfl, ⟨3, 190, c_first, 8, [], _, by kernel_rfl, by kernel_rfl, by kernel_rfl, by kernel_rfl, rfl, rfl⟩, rfl⟩, rfl⟩, ?_, ?_⟩
 ·exact of_decide_eq_true (by kernel_rfl)
 ·exact placesB_ok (by kernel_rfl)
theorem int_of_trod {H : Type} {eh : TypeId × Value → H} {P : Program} {w : World} {base : Nat} {sp : Nat → Bool} {held : Bool} {fuel : Nat} {t : TypeId} {k : IntKind} {c : Value} {y : DataW H × List MemPlace} (ht : P.underlying t = some (.int k)) (h : DataW.trod eh P w base sp held fuel t [c] = some y) : ∃ n, c = .int k n ∧ y = (.lit (.int k n), []) := by
 obtain ⟨n, h1, h2, _⟩ := DataW.trod_int ht h
 injection h1 with h1 _
 exact ⟨n, h1, h2⟩
theorem gok_of_laid {W : World} (h : laidMetH Tryz.prog laidL W) : GOK (k0 W) := by
 unfold laidMetH at h
 rw [laid_plain] at h
 obtain ⟨ps, ⟨_, _, _, _, _, _, _, _, _, _, ⟨g, t, cs, fuel, p, q, hg, ht, hvar, hd, _, _⟩, _⟩, _⟩ := h
 obtain rfl := Option.some.inj ((show Tryz.prog.globalNamed "customs/nomenclature.lengths" = some 0 by kernel_rfl).symm.trans hg)
 obtain rfl := Option.some.inj ((show (Tryz.prog.globals[0]?).map (·.type) = some 94 by kernel_rfl).symm.trans ht)
 have hcs : cs = c_len := by
  obtain ⟨l⟩ := cs
  cases fuel with
  | zero => simp [DataW.trod] at hd
  | succ fuel =>
   have hc1 := (cellsOf_eq (t := 94) rfl).1
   have hc2 := (cellsOf_eq (t := 3) rfl).1
   have hu1 : Tryz.prog.underlying 94 = some (.array 4 3) := und_ok rfl
   simp only [DataW.trod, hu1, hc1, hc2] at hd
   split at hd
   ·rename_i hl
    obtain ⟨c0, c1, c2, c3, rfl⟩ : ∃ c0 c1 c2 c3, l = [c0, c1, c2, c3] := by
     match l, hl with
     | [a, b, c, d], _ => exact ⟨a, b, c, d, rfl⟩
    have e : List.range 4 = [0, 1, 2, 3] := rfl
    rw [e] at hd
    simp only [Option.map_eq_some_iff, List.mapM_cons, List.mapM_nil, Option.bind_eq_bind, Option.bind_eq_some_iff, Option.pure_def, Option.some.injEq] at hd
    obtain ⟨xs, ⟨y0, h0, _, ⟨y1, h1, _, ⟨y2, h2, _, ⟨y3, h3, _, rfl, rfl⟩, rfl⟩, rfl⟩, rfl⟩, hx⟩ := hd
    have hui : Tryz.prog.underlying 3 = some (.int .i64) := und_ok rfl
    obtain ⟨n0, rfl, rfl⟩ := int_of_trod hui h0
    obtain ⟨n1, rfl, rfl⟩ := int_of_trod hui h1
    obtain ⟨n2, rfl, rfl⟩ := int_of_trod hui h2
    obtain ⟨n3, rfl, rfl⟩ := int_of_trod hui h3
    simp [Rows.laid_customs_nomenclature_lengths] at hx
    obtain ⟨⟨rfl, rfl, rfl, rfl⟩, _⟩ := hx
    rfl
   ·cases hd
 subst hcs
 have hcell : ∀ j u, c_len[j]? = some u → W.cell? ⟨0, j, none⟩ = some u := fun j u hu => by
  have := World.var?_cell hg hvar j
  rw [this]; exact hu
 refine ⟨?_, fun j u hu => ?_⟩
 ·have h0 := hcell 0 _ rfl
  unfold World.cell? at h0
  split at h0
  ·rename_i heq; exact heap_some_lt heq
  ·cases h0
 ·rw [Nat.zero_add]; exact hcell j u (by simpa [c_len] using hu)
end SX
end Go.Proofs.YtfcecieppoljlaaGreatDoor
set_option maxRecDepth 100000
namespace Go.Proofs.YtfcecieppoljlaaGreatDoor
open Go Go.ChangeShapes Go.WideShapes Go.RowKit
namespace SX
theorem inv0 (W : World) : Inv ⟨k0 W, []⟩ [] (k0 W) := ⟨.refl _ _, fun _ h => h, (fun _ h => by cases h), (fun _ h => by cases h), .nil⟩
theorem below_of {W : World} {ρ : List Res} {κ : Kr} (h : Inv ⟨k0 W, []⟩ ρ κ) : Below W.heap.size W κ.w := ⟨h.le.os, h.le.tape, h.le.output, h.le.kle.size, fun k hk => h.le.same k hk (by simp)⟩
section
variable {H : Type} {eh : TypeId × Value → H}
theorem trodAll_below {W W' : World} (hb : Below W.heap.size W W') {ts : List TypeId} (hr : ∀ t ∈ ts, Tryz.prog.readableRec t = true ∧ t < Tryz.prog.types.size) : ∀ {vs : List Value} {ds : List (DataW H)} {ps : List MemPlace}, DataW.TrodAll eh Tryz.prog W 0 (fun _ => true) true ts vs ds ps → (∀ p ∈ ps, p.block < W.heap.size) → DataW.TrodAll eh Tryz.prog W' 0 (fun b => decide (b < W.heap.size)) true ts vs ds ps := by
 induction ts with
 | nil => intro vs ds ps h _; cases vs <;> cases ds <;> first | exact h | cases h
 | cons t ts ih =>
  intro vs ds ps h hlt
  cases vs with
  | nil => cases h
  | cons v vs =>
   cases ds with
   | nil => cases h
   | cons d ds =>
    obtain ⟨p, q, h1, h2, e⟩ := h
    have ht := hr t (by simp)
    exact ⟨p, q, Below.trod laidOut_ok ht.1 ht.2 h1 hb (fun x hx => hlt x (by rw [e]; simp [hx])), ih (fun u hu => hr u (by simp [hu])) h2 (fun x hx => hlt x (by rw [e]; simp [hx])), e⟩
theorem readB {ts : List TypeId} (h : (ts.all fun t => Tryz.prog.readableRec t && Nat.blt t Tryz.prog.types.size) = true) : ∀ t ∈ ts, Tryz.prog.readableRec t = true ∧ t < Tryz.prog.types.size := fun t ht => by
 have := List.all_eq_true.1 h t ht
 rw [Bool.and_eq_true] at this
 exact ⟨this.1, by have h2 := this.2; exact Nat.le_of_ble_eq_true h2⟩
theorem row_post {f tb : Nat} {fn : Func} {s : ChangeSpec} {W : World} {args : Array Value} {ds gs : List (DataW H)} {before : List MemPlace} {pargs : List PV}
    (hrd : ∀ t ∈ fn.params.toList, Tryz.prog.readableRec t = true ∧ t < Tryz.prog.types.size) (hres : fn.resultTypes = #[tb]) (hub : Tryz.prog.underlying tb = some .bool) (hvars : s.vars = [])
    (hspec : s.fn H ds = { results := [.lit (.bool true)], args := ds }) (hW : DataW.Whole eh Tryz.prog fn.params.toList s.vars false W args.toList ds gs before) (hG : GOK (k0 W)) (hargs : Rps (k0 W) pargs args.toList) (hPF : PF f pargs (.v (.bool true))) :
    Calls Tryz.prog f args W fun e W' => ∃ v, e = .returned v ∧ s.post eh Tryz.prog fn false true false false W args v W' := by
  have hc := (hPF (k0 W) args.toList hG hargs).2 (inv0 W)
  have e : args.toList.toArray = args := by simp
  rw [e] at hc
  refine Calls.mono hc fun en W' ⟨v, ρ', κ', h1, h2, h3, h4, h5⟩ => ⟨v, h1, ?_⟩
  subst h2
  have hv := h5.val
  subst hv
  have hb := below_of h3
  have hW' := hW
  obtain ⟨p, q, hA, hV, rfl, hfz, hnd⟩ := hW
  rw [hvars] at hV
  obtain ⟨rfl, rfl⟩ : gs = [] ∧ q = [] := by
    cases gs with
    | nil => exact ⟨rfl, hV⟩
    | cons g r => exact absurd hV (by intro h; cases h)
  refine ⟨ds, [], _, [], p, [], hW', ?_, ?_, ?_, hb.frame _, fun h => by cases h⟩
  · rw [List.append_nil, hspec, hres]; exact trodAll_mk1 (shut_bool hub true)
  · rw [List.append_nil, hspec]; exact trodAll_below hb hrd hA (DataW.TrodAll.lt hA)
  · rw [hvars, List.append_nil, hspec]; rfl
theorem trodAll_cons {W : World} {t : TypeId} {ts : List TypeId} {vs : List Value} {ds : List (DataW H)} {ps : List MemPlace} (h : DataW.TrodAll eh Tryz.prog W 0 (fun _ => true) true (t :: ts) vs ds ps) : ∃ v vs' d ds' p q, vs = v :: vs' ∧ ds = d :: ds' ∧ DataW.Trod eh Tryz.prog W 0 (fun _ => true) true t v d p ∧ DataW.TrodAll eh Tryz.prog W 0 (fun _ => true) true ts vs' ds' q := by
 cases vs with
 | nil => cases h
 | cons v vs =>
  cases ds with
  | nil => cases h
  | cons d ds => obtain ⟨p, q, h1, h2, _⟩ := h; exact ⟨v, vs, d, ds, p, q, rfl, rfl, h1, h2⟩
theorem trodAll_nil {W : World} {vs : List Value} {ds : List (DataW H)} {ps : List MemPlace} (h : DataW.TrodAll eh Tryz.prog W 0 (fun _ => true) true [] vs ds ps) : vs = [] ∧ ds = [] := by
 cases vs <;> cases ds <;> first | exact ⟨rfl, rfl⟩ | cases h
theorem standIns_no {l : Array TypeId} (h : (l.toList.all fun t => !Tryz.prog.wantsStandIn t) = true) {j : Nat} {t : TypeId} (ht : l[j]? = some t) : Tryz.prog.wantsStandIn t = false := by
 have := List.all_eq_true.1 h t (by have := Array.mem_of_getElem? ht; simpa using this)
 simpa using this
theorem light_head {t : Nat} {ts : List Nat} {d : DataW H} {ds : List (DataW H)} (h : (DataW.weightsEach Tryz.prog (t :: ts) (d :: ds)).all (· ≤ reachBytes) = true) : Light t d ∧ (DataW.weightsEach Tryz.prog ts ds).all (· ≤ reachBytes) = true := by
 simp only [DataW.weightsEach, List.all_append, Bool.and_eq_true] at h
 exact ⟨fun n hn => by simpa using List.all_eq_true.1 h.1 n hn, h.2⟩
def isPlainD : TypeDesc → Bool
 | .int _ | .bool | .string | .slice _ => true
 | _ => false
theorem not_agg {W : World} {r : Reach} {base t : Nat} {v : Value} {D : TypeDesc} (hu : und t = some D) (hD : isPlainD D = true) (h : Value.okWide Tryz.prog W r base t v) : ∀ cs, v.cells.toList = [cs] → v = cs := fun cs he => by
 cases v with
 | agg arr =>
  exfalso
  unfold Value.okWide at h
  rw [und_ok hu] at h
  cases D <;> first | (revert hD; simp [isPlainD]; done) | (simp only at h; unfold Cell.okWide at h; rw [und_ok hu] at h; simp only at h; unfold Cell.ok at h; rw [und_ok hu] at h; simp at h)
 | _ => simpa [Value.cells] using he
theorem arg_one {W : World} {r : Reach} {base t : Nat} {v : Value} {D : TypeDesc} {α : Type} {e : α → List PV} {d : DataW H} {ps : List MemPlace} (hu : und t = some D) (hD : isPlainD D = true) (hO : Opens eh t e) (h1 : ∀ m, ∃ p, e m = [p]) (h : Value.okWide Tryz.prog W r base t v) (hd : DataW.Trod eh Tryz.prog W 0 (fun _ => true) true t v d ps) (hl : Light t d) : ∃ m, Rps (k0 W) (e m) [v] := by
 obtain ⟨fuel, hf⟩ := hd
 obtain ⟨m, h2, _⟩ := hO W fuel _ _ hf hl
 refine ⟨m, ?_⟩
 obtain ⟨p, hp⟩ := h1 m
 rw [hp] at h2
 generalize hc : v.cells.toList = cs at h2
 obtain ⟨w, ws, rfl, h3, h4⟩ := h2.cons_inv
 rw [h4.nil_inv] at hc
 rw [not_agg hu hD h w hc, hp]
 exact .cons h3 .nil
end
end SX
end Go.Proofs.YtfcecieppoljlaaGreatDoor
set_option maxRecDepth 100000
namespace Go.Proofs.YtfcecieppoljlaaGreatDoor
namespace SX
open Go
theorem loopF_run {S T : Type} {body : S → Option (S ⊕ T)} (P : S → Prop) (μ : S → Nat) (Q : T → Prop) (step : ∀ s, P s → (∃ s', body s = some (.inl s') ∧ P s' ∧ μ s' < μ s) ∨ ∃ t, body s = some (.inr t) ∧ Q t) : ∀ (N : Nat) (s : S), P s → μ s < N → ∃ t, loopF body N s = some t ∧ Q t := by
 intro N
 induction N with
 | zero => intro s _ h; exact absurd h (Nat.not_lt_zero _)
 | succ N ih =>
  intro s hp hm
  rw [loopF_succ]
  rcases step s hp with ⟨s', h1, h2, h3⟩ | ⟨t, h1, h2⟩
  ·rw [h1]; exact ih s' h2 (by omega)
  ·rw [h1]; exact ⟨t, rfl, h2⟩
theorem bnd {α β : Type} {x : Option α} {f : α → Option β} {a : α} (h : x = some a) : x.bind f = f a := by rw [h]; rfl
theorem i64s {r : Int} (h1 : -9223372036854775808 ≤ r) (h2 : r ≤ 9223372036854775807) : IntKind.i64.wrap r = r := wrap_i64 ⟨h1, h2⟩
theorem fuel_big {n : Nat} (h : n ≤ 1267650600228229401496703205000) : n < FUEL := Nat.lt_of_le_of_lt h (by unfold FUEL; omega)
theorem within_ok (a n : Int) (h1 : 1 ≤ n) (h2 : n ≤ 4611686018427387904) : ∃ r, made_Within a n = some r ∧ 0 ≤ r ∧ r < n := by
 have hl := Int.tmod_lt_of_pos a (show 0 < n by omega)
 have hl2 := Int.tmod_lt_of_pos (-a) (show 0 < n by omega)
 rw [Int.neg_tmod] at hl2
 unfold made_Within nz lb
 rw [if_neg (by omega), i64s (by omega) (by omega)]
 exact ⟨_, rfl, Int.tmod_nonneg _ (by omega), Int.tmod_lt_of_pos _ (by omega)⟩
def SOK (p : Tmade_Source) : Prop := 0 ≤ p.I ∧ p.I ≤ p.L.length ∧ p.L.length ≤ 1000000000000000
theorem next_ok {p : Tmade_Source} (hp : SOK p) (n : Int) (h1 : 1 ≤ n) (h2 : n ≤ 4611686018427387904) : ∃ r q, made_Source_Next p n = some (r, q) ∧ 0 ≤ r ∧ r < n ∧ SOK q := by
 obtain ⟨a1, a2, a3⟩ := hp
 unfold made_Source_Next
 by_cases h : (p.L.length : Int) ≤ p.I
 ·rw [decide_eq_true h]; exact ⟨_, _, rfl, by omega, by omega, a1, a2, a3⟩
 ·rw [decide_eq_false h, i64s (r := p.I + 1) (by omega) (by omega), i64s (by omega) (by omega)]
  simp only [cond_false]
  have e : idx p.L (p.I + 1 - 1) = some (p.L[p.I.toNat]'(by omega)) := by
   unfold idx; rw [if_pos (by omega)]
   have : (p.I + 1 - 1).toNat = p.I.toNat := by omega
   rw [this]; exact List.getElem?_eq_getElem _
  rw [bnd e]
  obtain ⟨r, h3, h4, h5⟩ := within_ok (p.L[p.I.toNat]'(by omega)) n h1 h2
  rw [bnd h3]
  exact ⟨_, _, rfl, h4, h5, by simp only; omega, by simp only; omega, a3⟩
theorem cut_ok (l : List Int) (n : Int) (h : 0 ≤ n) (h2 : n ≤ 1000) : ∃ m, made_Cut l n = some m ∧ (m.length : Int) ≤ n := by
 unfold made_Cut
 by_cases h1 : n < (l.length : Int)
 ·rw [decide_eq_true h1]
  have e : sub l 0 n = some ((l.take n.toNat).drop 0) := by unfold sub; rw [if_pos (by omega)]; rfl
  simp only [cond_true]; rw [bnd e]; exact ⟨_, rfl, by simp; omega⟩
 ·rw [decide_eq_false h1]; exact ⟨_, rfl, by omega⟩
def Digs (l : List Int) : Prop := ∀ x ∈ l, 48 ≤ x ∧ x ≤ 57
theorem code_ok {p : Tmade_Source} (hp : SOK p) : ∃ l q, made_Source_Code p 8 = some (strOfNums l, q) ∧ l.length = 8 ∧ Digs l ∧ SOK q := by
 unfold made_Source_Code
 obtain ⟨r, q, h1, h2, h3, h4⟩ := next_ok hp 2 (by omega) (by omega)
 rw [bnd h1]
 simp only
 rw [i64s (by omega) (by omega), wrap_u8 (by omega)]
 obtain ⟨t, h5, h6⟩ := loopF_run (body := fun (l5, l8, v9) => cond (decide (((l5.length : Nat) : Int) < 8)) (Option.bind (made_Source_Next (⟨l8, v9⟩ : Tmade_Source) 3) (fun x19 => Option.bind (app 1 l5 [48, (IntKind.u8.wrap (IntKind.i64.wrap (49 + x19.1)))]) (fun l22 => some (.inl (l22, x19.2.L, x19.2.I))))) (some (.inr (l5, l8, v9))))
  (fun s : List Int × List Int × Int => (s.1.length = 2 ∨ s.1.length = 4 ∨ s.1.length = 6 ∨ s.1.length = 8) ∧ Digs s.1 ∧ SOK ⟨s.2.1, s.2.2⟩) (fun s => 8 - s.1.length) (fun t : List Int × List Int × Int => t.1.length = 8 ∧ Digs t.1 ∧ SOK ⟨t.2.1, t.2.2⟩)
  (fun s hs => by
   obtain ⟨l, l8, v9⟩ := s
   obtain ⟨a1, a2, a3⟩ := hs
   simp only at a1 a2 a3 ⊢
   by_cases hl : ((l.length : Nat) : Int) < 8
   ·left
    rw [decide_eq_true hl]; simp only [cond_true]
    obtain ⟨r, q, b1, b2, b3, b4⟩ := next_ok a3 3 (by omega) (by omega)
    rw [bnd b1]; simp only
    rw [i64s (by omega) (by omega), wrap_u8 (by omega)]
    have e : app 1 l [48, 49 + r] = some (l ++ [48, 49 + r]) := by unfold app; rw [if_pos]; simp; omega
    rw [bnd e]
    refine ⟨_, rfl, ⟨by simp only [List.length_append, List.length_cons, List.length_nil]; omega, ?_, b4⟩, by simp only [List.length_append, List.length_cons, List.length_nil]; omega⟩
    intro x hx
    simp only [List.mem_append, List.mem_cons, List.not_mem_nil, or_false] at hx
    rcases hx with hx | rfl | rfl
    ·exact a2 x hx
    ·omega
    ·omega
   ·right
    rw [decide_eq_false hl]
    exact ⟨_, rfl, by show l.length = 8; omega, a2, a3⟩)
  FUEL ([57, 52 + r], q.L, q.I) ⟨by simp, by intro x hx; simp only [List.mem_cons, List.not_mem_nil, or_false] at hx; omega, h4⟩ (fuel_big (by simp))
 obtain ⟨l, l8, v9⟩ := t
 rw [bnd h5]
 exact ⟨_, _, rfl, h6.1, h6.2.1, h6.2.2⟩
theorem lvl_eight {l : List Int} (h1 : l.length = 8) (h2 : Digs l) : level (strOfNums l) = 8 := by
 have hs : (strOfNums l).size = 8 := by simp [strOfNums, ByteArray.size, h1]
 unfold level
 rw [if_pos, hs]; rfl
 refine ⟨by omega, ?_⟩
 unfold allDig bl strOfNums
 simp only [List.all_eq_true]
 intro c hc
 simp only [List.mem_map] at hc
 obtain ⟨x, hx, rfl⟩ := hc
 have := h2 x hx
 simp [isDig]
 omega
end SX
end Go.Proofs.YtfcecieppoljlaaGreatDoor
set_option maxRecDepth 100000
namespace Go.Proofs.YtfcecieppoljlaaGreatDoor
namespace SX
open Go
def U64 (a : Int) : Prop := 0 ≤ a ∧ a < 18446744073709551616
theorem wu (a : Int) : IntKind.u64.wrap a = a % 18446744073709551616 := rfl
theorem wu_id {a : Int} (h : U64 a) : IntKind.u64.wrap a = a := by rw [wu]; unfold U64 at h; omega
theorem bv64 {a : Int} (h : U64 a) : (BitVec.ofInt 64 a).toNat = a.toNat := by
 rw [BitVec.toNat_ofInt]; unfold U64 at h; omega
theorem iand_eq {a b : Int} (ha : U64 a) (hb : U64 b) : iand .u64 a b = ((a.toNat &&& b.toNat : Nat) : Int) := by
 have hlt : a.toNat &&& b.toNat < 18446744073709551616 := Nat.lt_of_le_of_lt Nat.and_le_left (by unfold U64 at ha; omega)
 have e : iand .u64 a b = IntKind.u64.wrap (((BitVec.ofInt 64 a &&& BitVec.ofInt 64 b).toNat : Nat) : Int) := rfl
 rw [e, BitVec.toNat_and, bv64 ha, bv64 hb, wu_id]
 exact ⟨by omega, by omega⟩
theorem ior_eq {a b : Int} (ha : U64 a) (hb : U64 b) : ior .u64 a b = ((a.toNat ||| b.toNat : Nat) : Int) := by
 have hlt : a.toNat ||| b.toNat < 2 ^ 64 := Nat.or_lt_two_pow (by unfold U64 at ha; omega) (by unfold U64 at hb; omega)
 have e : ior .u64 a b = IntKind.u64.wrap (((BitVec.ofInt 64 a ||| BitVec.ofInt 64 b).toNat : Nat) : Int) := rfl
 rw [e, BitVec.toNat_or, bv64 ha, bv64 hb, wu_id]
 exact ⟨by omega, by omega⟩
theorem iand_low {a : Int} (h : U64 a) : iand .u64 a 4294967295 = a % 4294967296 := by
 rw [iand_eq h ⟨by omega, by omega⟩]
 have : a.toNat &&& (4294967295 : Int).toNat = a.toNat % 4294967296 := Nat.and_two_pow_sub_one_eq_mod (n := 32) a.toNat
 rw [this]; unfold U64 at h; omega
theorem ishr_32 {a : Int} : ishr .u64 a 32 = a / 4294967296 := Int.fdiv_eq_ediv_of_nonneg a (show (0 : Int) ≤ 4294967296 by omega)
theorem mul64 {a b : Int} (ha : U64 a) (hb : U64 b) : ∃ h l, math_bits_Mul64 a b = some (h, l) ∧ U64 h ∧ U64 l ∧ h * 18446744073709551616 + l = a * b := by
 unfold math_bits_Mul64 lb
 rw [iand_low ha, iand_low hb]
 simp only [ishr_32]
 unfold U64 at ha hb
 have ea : a = 4294967296 * (a / 4294967296) + a % 4294967296 := by omega
 have eb : b = 4294967296 * (b / 4294967296) + b % 4294967296 := by omega
 have h1 : 0 ≤ a / 4294967296 ∧ a / 4294967296 < 4294967296 := by omega
 have h2 : 0 ≤ a % 4294967296 ∧ a % 4294967296 < 4294967296 := by omega
 have h3 : 0 ≤ b / 4294967296 ∧ b / 4294967296 < 4294967296 := by omega
 have h4 : 0 ≤ b % 4294967296 ∧ b % 4294967296 < 4294967296 := by omega
 generalize a / 4294967296 = x1 at *
 generalize a % 4294967296 = x0 at *
 generalize b / 4294967296 = y1 at *
 generalize b % 4294967296 = y0 at *
 subst ea eb
 have p00 : 0 ≤ x0 * y0 ∧ x0 * y0 ≤ 4294967295 * 4294967295 := ⟨Int.mul_nonneg h2.1 h4.1, Int.mul_le_mul (by omega) (by omega) h4.1 (by omega)⟩
 have p01 : 0 ≤ x0 * y1 ∧ x0 * y1 ≤ 4294967295 * 4294967295 := ⟨Int.mul_nonneg h2.1 h3.1, Int.mul_le_mul (by omega) (by omega) h3.1 (by omega)⟩
 have p10 : 0 ≤ x1 * y0 ∧ x1 * y0 ≤ 4294967295 * 4294967295 := ⟨Int.mul_nonneg h1.1 h4.1, Int.mul_le_mul (by omega) (by omega) h4.1 (by omega)⟩
 have p11 : 0 ≤ x1 * y1 ∧ x1 * y1 ≤ 4294967295 * 4294967295 := ⟨Int.mul_nonneg h1.1 h3.1, Int.mul_le_mul (by omega) (by omega) h3.1 (by omega)⟩
 have e : (4294967296 * x1 + x0) * (4294967296 * y1 + y0) = 18446744073709551616 * (x1 * y1) + 4294967296 * (x1 * y0) + 4294967296 * (x0 * y1) + x0 * y0 := by
  rw [Int.add_mul, Int.mul_add, Int.mul_add]
  have t1 : 4294967296 * x1 * (4294967296 * y1) = 18446744073709551616 * (x1 * y1) := by
   rw [Int.mul_assoc, ← Int.mul_assoc x1, Int.mul_comm x1 4294967296, Int.mul_assoc 4294967296 x1, ← Int.mul_assoc]; rfl
  have t2 : 4294967296 * x1 * y0 = 4294967296 * (x1 * y0) := Int.mul_assoc _ _ _
  have t3 : x0 * (4294967296 * y1) = 4294967296 * (x0 * y1) := by rw [← Int.mul_assoc, Int.mul_comm x0, Int.mul_assoc]
  rw [t1, t2, t3]; omega
 rw [e]
 generalize x0 * y0 = p at *
 generalize x0 * y1 = q at *
 generalize x1 * y0 = r at *
 generalize x1 * y1 = s at *
 refine ⟨_, _, rfl, ?_, ?_, ?_⟩
 all_goals simp only [wu, U64]
 all_goals first | omega | (rw [iand_low (by unfold U64; omega)]; omega)
end SX
end Go.Proofs.YtfcecieppoljlaaGreatDoor
set_option maxRecDepth 100000
namespace Go.Proofs.YtfcecieppoljlaaGreatDoor
namespace SX
open Go
def rv (w : Tref01_Wide) : Int := w.Hi * 18446744073709551616 + w.Lo
theorem ishr_u {a n : Int} (h : n.toNat ≤ 64) : ishr .u64 a n = a / 2 ^ n.toNat := by
 have e : ishr .u64 a n = a.fdiv (2 ^ min n.toNat 64) := rfl
 rw [e, Nat.min_eq_left h]
 exact Int.fdiv_eq_ediv_of_nonneg a (Int.le_of_lt (Int.pow_pos (by omega)))
end SX
end Go.Proofs.YtfcecieppoljlaaGreatDoor
set_option maxRecDepth 100000
namespace Go.Proofs.YtfcecieppoljlaaGreatDoor
namespace SX
open Go
end SX
end Go.Proofs.YtfcecieppoljlaaGreatDoor
set_option maxRecDepth 100000
namespace Go.Proofs.YtfcecieppoljlaaGreatDoor
namespace SX
open Go
structure KnInv (u u1 y1 y0 q rh : Int) : Prop where
 eq : u = q * y1 + rh
 r0 : 0 ≤ rh
 r1 : rh < 4294967296
 q0 : 0 ≤ q
 q1 : q ≤ 4294967297
 up : u * 4294967296 + u1 < q * (y1 * 4294967296 + y0) + (y1 * 4294967296 + y0)
section
variable {u u1 y1 y0 q rh : Int} (hu : 0 ≤ u) (huy : u < y1 * 4294967296 + y0) (h1 : 0 ≤ u1) (h1' : u1 < 4294967296) (hy : 2147483648 ≤ y1) (hy' : y1 < 4294967296) (hz : 0 ≤ y0) (hz' : y0 < 4294967296)
include hu huy h1 h1' hy hy' hz hz'
theorem kn_start : KnInv u u1 y1 y0 (u / y1) (u % y1) := by
 have hq0 : 0 ≤ u / y1 := Int.ediv_nonneg hu (by omega)
 have hr0 := Int.emod_nonneg u (show y1 ≠ 0 by omega)
 have hr1 := Int.emod_lt_of_pos u (show 0 < y1 by omega)
 have he := Int.emod_add_mul_ediv u y1
 rw [Int.mul_comm] at he
 have hz2 : 0 ≤ u / y1 * y0 := Int.mul_nonneg hq0 hz
 refine ⟨by omega, hr0, by omega, hq0, ?_, ?_⟩
 ·apply Int.le_of_lt_add_one
  apply Int.ediv_lt_of_lt_mul (by omega)
  omega
 ·rw [Int.mul_add, ← Int.mul_assoc]; omega
theorem kn_true (i : KnInv u u1 y1 y0 q rh) (h : 4294967296 ≤ q ∨ 4294967296 * rh + u1 < q * y0) : u * 4294967296 + u1 < q * (y1 * 4294967296 + y0) ∧ 1 ≤ q := by
 have e := i.eq
 have hlt : u * 4294967296 + u1 < q * (y1 * 4294967296 + y0) := by
  rcases h with h | h
  ·have : 4294967296 * (y1 * 4294967296 + y0) ≤ q * (y1 * 4294967296 + y0) := Int.mul_le_mul_of_nonneg_right h (by omega)
   omega
  ·rw [Int.mul_add, ← Int.mul_assoc]; omega
 refine ⟨hlt, ?_⟩
 have hq := i.q0
 by_cases hq0 : q = 0
 ·subst hq0; rw [Int.zero_mul] at hlt; omega
 ·omega
theorem kn_next (i : KnInv u u1 y1 y0 q rh) (h : 4294967296 ≤ q ∨ 4294967296 * rh + u1 < q * y0) (h2 : rh + y1 < 4294967296) : KnInv u u1 y1 y0 (q - 1) (rh + y1) := by
 obtain ⟨hlt, hq⟩ := kn_true hu huy h1 h1' hy hy' hz hz' i h
 have := i.eq; have := i.r0; have := i.q1
 refine ⟨by rw [Int.sub_mul]; omega, by omega, h2, by omega, by omega, ?_⟩
 rw [Int.sub_mul]; omega
theorem kn_stop (i : KnInv u u1 y1 y0 q rh) (h : 4294967296 ≤ q ∨ 4294967296 * rh + u1 < q * y0) (h2 : 4294967296 ≤ rh + y1) : (q - 1) * (y1 * 4294967296 + y0) ≤ u * 4294967296 + u1 ∧ u * 4294967296 + u1 < (q - 1) * (y1 * 4294967296 + y0) + (y1 * 4294967296 + y0) := by
 obtain ⟨hlt, hq⟩ := kn_true hu huy h1 h1' hy hy' hz hz' i h
 have e := i.eq; have := i.r0; have hq1 := i.q1
 refine ⟨?_, by rw [Int.sub_mul]; omega⟩
 have hz2 : (q - 1) * y0 ≤ 4294967296 * 4294967295 := Int.mul_le_mul (by omega) (by omega) hz (by omega)
 rw [Int.mul_add, ← Int.mul_assoc]
 rw [Int.sub_mul q 1 y1]
 omega
omit hu huy h1 h1' hy hy' hz hz' in
theorem kn_false (i : KnInv u u1 y1 y0 q rh) (h : ¬ (4294967296 ≤ q ∨ 4294967296 * rh + u1 < q * y0)) : q * (y1 * 4294967296 + y0) ≤ u * 4294967296 + u1 := by
 have e := i.eq
 rw [Int.mul_add, ← Int.mul_assoc]; omega
end
end SX
end Go.Proofs.YtfcecieppoljlaaGreatDoor
set_option maxRecDepth 100000
namespace Go.Proofs.YtfcecieppoljlaaGreatDoor
namespace SX
open Go
section
variable {u u1 y1 y0 : Int} (hu : 0 ≤ u) (huy : u < y1 * 4294967296 + y0) (h1 : 0 ≤ u1) (h1' : u1 < 4294967296) (hy : 2147483648 ≤ y1) (hy' : y1 < 4294967296) (hz : 0 ≤ y0) (hz' : y0 < 4294967296)
include hu huy h1 h1' hy hy' hz hz'
omit hu huy hy hy' in
theorem kn_cond {q rh : Int} (i : KnInv u u1 y1 y0 q rh) : ((decide (4294967296 ≤ q)) || (decide ((IntKind.u64.wrap ((IntKind.u64.wrap (4294967296 * rh)) + u1)) < (IntKind.u64.wrap (q * y0))))) = decide (4294967296 ≤ q ∨ 4294967296 * rh + u1 < q * y0) := by
 have := i.r0; have := i.r1; have := i.q0
 rw [wu_id (a := 4294967296 * rh) ⟨by omega, by omega⟩, wu_id (a := 4294967296 * rh + u1) ⟨by omega, by omega⟩]
 by_cases hq : 4294967296 ≤ q
 ·rw [decide_eq_true hq, decide_eq_true (Or.inl hq)]; rfl
 ·have hp : q * y0 ≤ 4294967295 * 4294967295 := Int.mul_le_mul (by omega) (by omega) hz (by omega)
  have hp0 : 0 ≤ q * y0 := Int.mul_nonneg (by omega) hz
  rw [wu_id (a := q * y0) ⟨hp0, by omega⟩, decide_eq_false hq, Bool.false_or]
  congr 1
  exact propext ⟨.inr, fun h => h.resolve_left hq⟩
omit hy hy' hz hz' in
theorem kn_end {q : Int} (h0 : 0 ≤ q) (h2 : q * (y1 * 4294967296 + y0) ≤ u * 4294967296 + u1) : q < 4294967296 := by
 have : q * (y1 * 4294967296 + y0) < 4294967296 * (y1 * 4294967296 + y0) := by omega
 exact Int.lt_of_mul_lt_mul_right this (by omega)
def KQ (u u1 y1 y0 q : Int) : Prop := 0 ≤ q ∧ q < 4294967296 ∧ q * (y1 * 4294967296 + y0) ≤ u * 4294967296 + u1 ∧ u * 4294967296 + u1 < q * (y1 * 4294967296 + y0) + (y1 * 4294967296 + y0)
theorem kn_loopA : ∃ q, loopF (S := Int × Int) (T := (Int)) (fun (v18, v19) => cond ((decide (4294967296 ≤ v18)) || (decide ((IntKind.u64.wrap ((IntKind.u64.wrap (4294967296 * v19)) + u1)) < (IntKind.u64.wrap (v18 * y0))))) (cond (decide (4294967296 ≤ (IntKind.u64.wrap (v19 + y1)))) (some (.inr (IntKind.u64.wrap (v18 - 1)))) (some (.inl ((IntKind.u64.wrap (v18 - 1)), (IntKind.u64.wrap (v19 + y1)))))) (some (.inr v18))) FUEL (u / y1, u % y1) = some q ∧ KQ u u1 y1 y0 q := by
 refine loopF_run (fun s : Int × Int => KnInv u u1 y1 y0 s.1 s.2) (fun s => s.1.toNat) (KQ u u1 y1 y0) ?_ FUEL _ (kn_start hu huy h1 h1' hy hy' hz hz') ?_
 ·rintro ⟨q, rh⟩ i
  dsimp only at i ⊢
  rw [kn_cond h1 h1' hz hz' i]
  have i0 := i.r0; have i1 := i.r1; have i2 := i.q0; have i3 := i.q1
  by_cases h : 4294967296 ≤ q ∨ 4294967296 * rh + u1 < q * y0
  ·rw [decide_eq_true h]
   obtain ⟨_, hq1⟩ := kn_true hu huy h1 h1' hy hy' hz hz' i h
   rw [wu_id (a := rh + y1) ⟨by omega, by omega⟩, wu_id (a := q - 1) ⟨by omega, by omega⟩]
   by_cases h2 : 4294967296 ≤ rh + y1
   ·rw [decide_eq_true h2]; right
    obtain ⟨e1, e2⟩ := kn_stop hu huy h1 h1' hy hy' hz hz' i h h2
    exact ⟨_, rfl, by omega, kn_end hu huy h1 h1' (by omega) e1, e1, e2⟩
   ·rw [decide_eq_false h2]; left
    exact ⟨_, rfl, kn_next hu huy h1 h1' hy hy' hz hz' i h (by omega), by dsimp only; omega⟩
  ·rw [decide_eq_false h]; right
   have e1 := kn_false i h
   exact ⟨_, rfl, i2, kn_end hu huy h1 h1' i2 e1, e1, i.up⟩
 ·have := (kn_start hu huy h1 h1' hy hy' hz hz').q1
  exact fuel_big (by dsimp only; omega)
theorem kn_loopB : ∃ q, loopF (S := Int × Int) (T := (Int)) (fun (v28, v29) => cond ((decide (4294967296 ≤ v29)) || (decide ((IntKind.u64.wrap ((IntKind.u64.wrap (4294967296 * v28)) + u1)) < (IntKind.u64.wrap (v29 * y0))))) (cond (decide (4294967296 ≤ (IntKind.u64.wrap (v28 + y1)))) (some (.inr (IntKind.u64.wrap (v29 - 1)))) (some (.inl ((IntKind.u64.wrap (v28 + y1)), (IntKind.u64.wrap (v29 - 1)))))) (some (.inr v29))) FUEL (u % y1, u / y1) = some q ∧ KQ u u1 y1 y0 q := by
 refine loopF_run (fun s : Int × Int => KnInv u u1 y1 y0 s.2 s.1) (fun s => s.2.toNat) (KQ u u1 y1 y0) ?_ FUEL _ (kn_start hu huy h1 h1' hy hy' hz hz') ?_
 ·rintro ⟨rh, q⟩ i
  dsimp only at i ⊢
  rw [kn_cond h1 h1' hz hz' i]
  have i0 := i.r0; have i1 := i.r1; have i2 := i.q0; have i3 := i.q1
  by_cases h : 4294967296 ≤ q ∨ 4294967296 * rh + u1 < q * y0
  ·rw [decide_eq_true h]
   obtain ⟨_, hq1⟩ := kn_true hu huy h1 h1' hy hy' hz hz' i h
   rw [wu_id (a := rh + y1) ⟨by omega, by omega⟩, wu_id (a := q - 1) ⟨by omega, by omega⟩]
   by_cases h2 : 4294967296 ≤ rh + y1
   ·rw [decide_eq_true h2]; right
    obtain ⟨e1, e2⟩ := kn_stop hu huy h1 h1' hy hy' hz hz' i h h2
    exact ⟨_, rfl, by omega, kn_end hu huy h1 h1' (by omega) e1, e1, e2⟩
   ·rw [decide_eq_false h2]; left
    exact ⟨_, rfl, kn_next hu huy h1 h1' hy hy' hz hz' i h (by omega), by dsimp only; omega⟩
  ·rw [decide_eq_false h]; right
   have e1 := kn_false i h
   exact ⟨_, rfl, i2, kn_end hu huy h1 h1' i2 e1, e1, i.up⟩
 ·have := (kn_start hu huy h1 h1' hy hy' hz hz').q1
  exact fuel_big (by dsimp only; omega)
end
theorem len_shift {a v : Int} {k n : Nat} (h : v = a / 2 ^ k) (hn : 1 ≤ n) (l : 2 ^ (n - 1) ≤ v) (g : v < 2 ^ n) : 2 ^ (k + n - 1) ≤ a ∧ a < 2 ^ (k + n) := by
 have hp : (0 : Int) < 2 ^ k := Int.pow_pos (by omega)
 have e1 := Int.ediv_mul_le a (Int.ne_of_gt hp)
 have e2 := Int.lt_ediv_add_one_mul_self a hp
 rw [← h] at e1 e2
 constructor
 ·rw [show k + n - 1 = (n - 1) + k by omega, Int.pow_add]
  exact Int.le_trans (Int.mul_le_mul_of_nonneg_right l (Int.le_of_lt hp)) e1
 ·rw [show k + n = n + k by omega, Int.pow_add]
  exact Int.lt_of_lt_of_le e2 (Int.mul_le_mul_of_nonneg_right (by omega) (Int.le_of_lt hp))
def lenTab : ByteArray := ⟨#[0, 1, 2, 2, 3, 3, 3, 3, 4, 4, 4, 4, 4, 4, 4, 4, 5, 5, 5, 5, 5, 5, 5, 5, 5, 5, 5, 5, 5, 5, 5, 5, 6, 6, 6, 6, 6, 6, 6, 6, 6, 6, 6, 6, 6, 6, 6, 6, 6, 6, 6, 6, 6, 6, 6, 6, 6, 6, 6, 6, 6, 6, 6, 6, 7, 7, 7, 7, 7, 7, 7, 7, 7, 7, 7, 7, 7, 7, 7, 7, 7, 7, 7, 7, 7, 7, 7, 7, 7, 7, 7, 7, 7, 7, 7, 7, 7, 7, 7, 7, 7, 7, 7, 7, 7, 7, 7, 7, 7, 7, 7, 7, 7, 7, 7, 7, 7, 7, 7, 7, 7, 7, 7, 7, 7, 7, 7, 7, 8, 8, 8, 8, 8, 8, 8, 8, 8, 8, 8, 8, 8, 8, 8, 8, 8, 8, 8, 8, 8, 8, 8, 8, 8, 8, 8, 8, 8, 8, 8, 8, 8, 8, 8, 8, 8, 8, 8, 8, 8, 8, 8, 8, 8, 8, 8, 8, 8, 8, 8, 8, 8, 8, 8, 8, 8, 8, 8, 8, 8, 8, 8, 8, 8, 8, 8, 8, 8, 8, 8, 8, 8, 8, 8, 8, 8, 8, 8, 8, 8, 8, 8, 8, 8, 8, 8, 8, 8, 8, 8, 8, 8, 8, 8, 8, 8, 8, 8, 8, 8, 8, 8, 8, 8, 8, 8, 8, 8, 8, 8, 8, 8, 8, 8, 8, 8, 8, 8, 8, 8, 8, 8, 8, 8, 8, 8, 8]⟩
theorem lenTab_all : ∀ v : Fin 256, (match idx lenTab.data.toList (v.val : Int) with | some c => decide (1 ≤ v.val → 1 ≤ c.toNat ∧ 2 ^ (c.toNat - 1) ≤ v.val) && decide (v.val < 2 ^ c.toNat) && decide (c.toNat ≤ 8) | none => false) = true := by decide
theorem lenTab_ok {v : Int} (h0 : 0 ≤ v) (h1 : v < 256) : ∃ c, idx lenTab.data.toList v = some c ∧ (1 ≤ v → 1 ≤ c.toNat ∧ 2 ^ (c.toNat - 1) ≤ v) ∧ v < 2 ^ c.toNat ∧ c.toNat ≤ 8 := by
 obtain ⟨k, rfl⟩ : ∃ k : Nat, v = (k : Int) := ⟨v.toNat, by omega⟩
 have := lenTab_all ⟨k, by omega⟩
 split at this
 ·rename_i c hc
  simp only [Bool.and_eq_true, decide_eq_true_eq] at this
  obtain ⟨⟨a, b⟩, d⟩ := this
  refine ⟨c, hc, fun h => ⟨(a (by omega)).1, ?_⟩, ?_, d⟩
  ·have := (a (by omega)).2; exact_mod_cast this
  ·exact_mod_cast b
 ·cases this
theorem len64 {a : Int} (ha : U64 a) (h1 : 1 ≤ a) : ∃ n : Nat, math_bits_Len64 a = some (n : Int) ∧ 1 ≤ n ∧ n ≤ 64 ∧ 2 ^ (n - 1) ≤ a ∧ a < 2 ^ n := by
 have key : ∃ (k : Nat) (v : Int), k ≤ 56 ∧ v = a / 2 ^ k ∧ 1 ≤ v ∧ v < 256 ∧ math_bits_Len64 a = Option.bind (idx lenTab.data.toList (IntKind.u8.wrap v)) (fun c13 => lb ((IntKind.i64.wrap ((k : Int) + (IntKind.i64.wrap (c13.toNat : Int))))) (fun w14 => some w14)) := by
  unfold U64 at ha
  have s32 : ∀ x : Int, ishr .u64 x 32 = x / 4294967296 := fun x => ishr_u (by decide)
  have s16 : ∀ x : Int, ishr .u64 x 16 = x / 65536 := fun x => ishr_u (by decide)
  have s8 : ∀ x : Int, ishr .u64 x 8 = x / 256 := fun x => ishr_u (by decide)
  unfold math_bits_Len64
  simp only [s32, s16, s8]
  by_cases c1 : 4294967296 ≤ a
  ·rw [decide_eq_true c1]
   simp only [cond_true, Option.bind_some]
   by_cases c2 : 65536 ≤ a / 4294967296
   ·rw [decide_eq_true c2]
    simp only [cond_true, Option.bind_some]
    by_cases c3 : 256 ≤ a / 4294967296 / 65536
    ·rw [decide_eq_true c3]
     exact ⟨56, a / 4294967296 / 65536 / 256, by omega, by simp only [Int.reducePow]; omega, by omega, by omega, rfl⟩
    ·rw [decide_eq_false c3]
     exact ⟨48, a / 4294967296 / 65536, by omega, by simp only [Int.reducePow]; omega, by omega, by omega, rfl⟩
   ·rw [decide_eq_false c2]
    simp only [cond_false, Option.bind_some]
    by_cases c3 : 256 ≤ a / 4294967296
    ·rw [decide_eq_true c3]
     exact ⟨40, a / 4294967296 / 256, by omega, by simp only [Int.reducePow]; omega, by omega, by omega, rfl⟩
    ·rw [decide_eq_false c3]
     exact ⟨32, a / 4294967296, by omega, by simp only [Int.reducePow], by omega, by omega, rfl⟩
  ·rw [decide_eq_false c1]
   simp only [cond_false, Option.bind_some]
   by_cases c2 : 65536 ≤ a
   ·rw [decide_eq_true c2]
    simp only [cond_true, Option.bind_some]
    by_cases c3 : 256 ≤ a / 65536
    ·rw [decide_eq_true c3]
     exact ⟨24, a / 65536 / 256, by omega, by simp only [Int.reducePow]; omega, by omega, by omega, rfl⟩
    ·rw [decide_eq_false c3]
     exact ⟨16, a / 65536, by omega, by simp only [Int.reducePow], by omega, by omega, rfl⟩
   ·rw [decide_eq_false c2]
    simp only [cond_false, Option.bind_some]
    by_cases c3 : 256 ≤ a
    ·rw [decide_eq_true c3]
     exact ⟨8, a / 256, by omega, by simp only [Int.reducePow], by omega, by omega, rfl⟩
    ·rw [decide_eq_false c3]
     exact ⟨0, a, by omega, by simp, by omega, by omega, rfl⟩
 obtain ⟨k, v, k1, k2, k3, k4, k5⟩ := key
 obtain ⟨c, c1, c2, c3, c4⟩ := lenTab_ok (v := v) (by omega) k4
 obtain ⟨c5, c6⟩ := c2 k3
 obtain ⟨l1, l2⟩ := len_shift k2 c5 c6 c3
 rw [k5, wrap_u8 (by omega), bnd c1]
 unfold lb
 rw [i64s (r := (c.toNat : Int)) (by omega) (by omega), i64s (by omega) (by omega)]
 exact ⟨k + c.toNat, by simp, by omega, by omega, l1, l2⟩
theorem lz64 {a : Int} (ha : U64 a) (h1 : 1 ≤ a) : ∃ s : Nat, math_bits_LeadingZeros64 a = some (s : Int) ∧ s ≤ 63 ∧ 9223372036854775808 ≤ a * 2 ^ s ∧ a * 2 ^ s < 18446744073709551616 := by
 obtain ⟨n, e1, e2, e3, e4, e5⟩ := len64 ha h1
 unfold math_bits_LeadingZeros64
 rw [bnd e1, i64s (by omega) (by omega)]
 refine ⟨64 - n, by congr 1; omega, by omega, ?_, ?_⟩
 ·have := Int.mul_le_mul_of_nonneg_right e4 (Int.le_of_lt (show (0 : Int) < 2 ^ (64 - n) from Int.pow_pos (by decide)))
  rw [← Int.pow_add, show n - 1 + (64 - n) = 63 by omega] at this
  exact this
 ·have := Int.mul_lt_mul_of_pos_right e5 (show (0 : Int) < 2 ^ (64 - n) from Int.pow_pos (by decide))
  rw [← Int.pow_add, show n + (64 - n) = 64 by omega] at this
  exact this
end SX
end Go.Proofs.YtfcecieppoljlaaGreatDoor
set_option maxRecDepth 100000
namespace Go.Proofs.YtfcecieppoljlaaGreatDoor
namespace SX
open Go
theorem ge0_ok {b : Int} (h : 0 ≤ b) : ge0 b = some () := by unfold ge0; rw [if_pos h]
theorem nz_ok {b : Int} (h : b ≠ 0) : nz b = some () := by unfold nz; rw [if_neg h]
theorem ishl_u {a : Int} {s : Nat} (h : s ≤ 64) : ishl .u64 a (s : Int) = IntKind.u64.wrap (a * 2 ^ s) := by
 have e : ishl .u64 a (s : Int) = IntKind.u64.wrap (a * 2 ^ min (s : Int).toNat 64) := rfl
 rw [e, Int.toNat_natCast, Nat.min_eq_left h]
theorem ior_sh {h b : Int} {s : Nat} (hh : 0 ≤ h) (hb : 0 ≤ b) (hb2 : b < 2 ^ s) (h1 : U64 (h * 2 ^ s)) (h2 : U64 b) : ior .u64 (h * 2 ^ s) b = h * 2 ^ s + b := by
 rw [ior_eq h1 h2]
 obtain ⟨x, rfl⟩ : ∃ k : Nat, h = (k : Int) := ⟨h.toNat, by omega⟩
 obtain ⟨z, rfl⟩ : ∃ k : Nat, b = (k : Int) := ⟨b.toNat, by omega⟩
 have e : ((x : Int) * 2 ^ s) = ((2 ^ s * x : Nat) : Int) := by push_cast; exact Int.mul_comm _ _
 have hz : z < 2 ^ s := by exact_mod_cast hb2
 rw [e, Int.toNat_natCast, Int.toNat_natCast, ← Nat.two_pow_add_eq_or_of_lt hz]
 rfl
theorem dm_of {n q r y : Int} (e : n = q * y + r) (h0 : 0 ≤ r) (h1 : r < y) : n / y = q ∧ n % y = r := by
 have gd : n / y = q := by
  rw [e, Int.add_comm, Int.add_mul_ediv_right _ _ (by omega), Int.ediv_eq_zero_of_lt h0 h1, Int.zero_add]
 refine ⟨gd, ?_⟩
 have := Int.emod_add_mul_ediv n y
 rw [gd, Int.mul_comm] at this
 omega
theorem div64 {hi lo y : Int} (h1 : U64 hi) (h2 : U64 lo) (h3 : U64 y) (h4 : hi < y) : math_bits_Div64 hi lo y = some ((hi * 18446744073709551616 + lo) / y, (hi * 18446744073709551616 + lo) % y) := by
 have hi0 := h1.1
 have hlo := h2.1
 have hy1 : 1 ≤ y := by omega
 unfold math_bits_Div64
 have cy : (y == 0) = false := by simp; omega
 rw [cy, decide_eq_false (show ¬ y ≤ hi by omega)]
 simp only [cond_false]
 by_cases hz : hi = 0
 ·subst hz
  have : ((0 : Int) == 0) = true := rfl
  rw [this]
  simp only [cond_true]
  rw [bnd (nz_ok (show y ≠ 0 by omega)), bnd (nz_ok (show y ≠ 0 by omega)), Int.tdiv_eq_ediv_of_nonneg hlo, Int.tmod_eq_emod_of_nonneg hlo]
  have : lo / y ≤ lo := Int.ediv_le_self _ hlo
  rw [wu_id ⟨Int.ediv_nonneg hlo (by omega), by have := h2.2; omega⟩]
  simp
 have cz : (hi == 0) = false := by simp; exact hz
 rw [cz]
 simp only [cond_false]
 obtain ⟨s, e1, e2, e3, e4⟩ := lz64 h3 hy1
 have hP : (0 : Int) < 2 ^ s := Int.pow_pos (by omega)
 have hM : (0 : Int) < 2 ^ (64 - s) := Int.pow_pos (by omega)
 have hPM : (2 : Int) ^ s * 2 ^ (64 - s) = 18446744073709551616 := by rw [← Int.pow_add, show s + (64 - s) = 64 by omega]; rfl
 have hhP : hi * 2 ^ s < y * 2 ^ s := Int.mul_lt_mul_of_pos_right h4 hP
 have hhP0 : 0 ≤ hi * 2 ^ s := Int.mul_nonneg hi0 (by omega)
 have hqd0 : 0 ≤ lo / 2 ^ (64 - s) := Int.ediv_nonneg hlo (by omega)
 have hqd1 : lo / 2 ^ (64 - s) < 2 ^ s := by
  apply Int.ediv_lt_of_lt_mul hM
  rw [hPM]; exact h2.2
 have hPle : (2 : Int) ^ s ≤ 18446744073709551616 := by rw [← hPM]; have := Int.mul_le_mul_of_nonneg_left (show (1 : Int) ≤ 2 ^ (64 - s) by omega) (Int.le_of_lt hP); omega
 have f1 : IntKind.u64.wrap (s : Int) = (s : Int) := wu_id ⟨by omega, by omega⟩
 have f2 : IntKind.u64.wrap (64 - (s : Int)) = ((64 - s : Nat) : Int) := by rw [wu_id ⟨by omega, by omega⟩]; omega
 have f3 : ishl .u64 y (s : Int) = y * 2 ^ s := by rw [ishl_u (by omega), wu_id ⟨by omega, e4⟩]
 have f4 : ishl .u64 hi (s : Int) = hi * 2 ^ s := by rw [ishl_u (by omega), wu_id ⟨hhP0, by omega⟩]
 have f5 : ishr .u64 lo ((64 - s : Nat) : Int) = lo / 2 ^ (64 - s) := by rw [ishr_u (by omega), Int.toNat_natCast]
 have f6 : ishl .u64 lo (s : Int) = (lo * 2 ^ s) % 18446744073709551616 := by rw [ishl_u (by omega), wu]
 have f7 : ior .u64 (hi * 2 ^ s) (lo / 2 ^ (64 - s)) = hi * 2 ^ s + lo / 2 ^ (64 - s) := ior_sh hi0 hqd0 hqd1 ⟨hhP0, by omega⟩ ⟨hqd0, by omega⟩
 rw [bnd e1]
 simp only [lb, f1, f2, f3, f4, f5, f6, f7, ge0_ok (Int.natCast_nonneg s), ge0_ok (Int.natCast_nonneg (64 - s)), Option.bind_some, ishr_32]
 have hN : (hi * 18446744073709551616 + lo) * 2 ^ s = (hi * 2 ^ s + lo / 2 ^ (64 - s)) * 18446744073709551616 + (lo * 2 ^ s) % 18446744073709551616 := by
  have g1 := Int.emod_add_mul_ediv lo (2 ^ (64 - s))
  have g2 : lo * 2 ^ s = lo % 2 ^ (64 - s) * 2 ^ s + 18446744073709551616 * (lo / 2 ^ (64 - s)) := by
   have := congrArg (· * (2 : Int) ^ s) g1
   simp only [Int.add_mul] at this
   rw [← this, ← hPM]
   rw [Int.mul_assoc, Int.mul_comm (lo / 2 ^ (64 - s)), ← Int.mul_assoc, Int.mul_comm (2 ^ (64 - s)), Int.mul_assoc]
  have g3 : 0 ≤ lo % 2 ^ (64 - s) * 2 ^ s := Int.mul_nonneg (Int.emod_nonneg _ (by omega)) (by omega)
  have g4 : lo % 2 ^ (64 - s) * 2 ^ s < 18446744073709551616 := by
   rw [← hPM, Int.mul_comm (2 ^ s)]
   exact Int.mul_lt_mul_of_pos_right (Int.emod_lt_of_pos _ hM) hP
  rw [Int.add_mul, Int.mul_right_comm hi]
  generalize lo % 2 ^ (64 - s) * 2 ^ s = A at *
  generalize lo / 2 ^ (64 - s) = B at *
  generalize lo * 2 ^ s = C at *
  generalize hi * 2 ^ s = D at *
  omega
 have hu0 : 0 ≤ hi * 2 ^ s + lo / 2 ^ (64 - s) := by omega
 have huy : hi * 2 ^ s + lo / 2 ^ (64 - s) < y * 2 ^ s := by
  have : (hi + 1) * 2 ^ s ≤ y * 2 ^ s := Int.mul_le_mul_of_nonneg_right (by omega) (by omega)
  rw [Int.add_mul] at this; omega
 have hU0 : 0 ≤ (lo * 2 ^ s) % 18446744073709551616 := by omega
 have hU1 : (lo * 2 ^ s) % 18446744073709551616 < 18446744073709551616 := by omega
 have hfin : ∀ q R : Int, (hi * 18446744073709551616 + lo) * 2 ^ s = q * (y * 2 ^ s) + R → 0 ≤ R → R < y * 2 ^ s → (hi * 18446744073709551616 + lo) / y = q ∧ (hi * 18446744073709551616 + lo) % y = R / 2 ^ s := by
  intro q R hq hR0 hR1
  have hr : R = (hi * 18446744073709551616 + lo - q * y) * 2 ^ s := by rw [Int.sub_mul, Int.mul_assoc q]; omega
  have hd : R / 2 ^ s = hi * 18446744073709551616 + lo - q * y := by rw [hr]; exact Int.mul_ediv_cancel _ (by omega)
  rw [hd]
  generalize hi * 18446744073709551616 + lo = n at *
  have : 0 ≤ n - q * y := by
   by_cases hc : 0 ≤ n - q * y
   ·exact hc
   ·have := Int.mul_le_mul_of_nonneg_right (show n - q * y ≤ -1 by omega) (Int.le_of_lt hP); omega
  have : n - q * y < y := by
   apply Int.lt_of_mul_lt_mul_right (a := 2 ^ s) _ (by omega)
   omega
  exact dm_of (by omega) (by assumption) (by assumption)
 generalize (hi * 18446744073709551616 + lo) * 2 ^ s = NP at *
 generalize hYe : y * 2 ^ s = Y at *
 generalize hi * 2 ^ s + lo / 2 ^ (64 - s) = u at *
 generalize (lo * 2 ^ s) % 18446744073709551616 = U at *
 rw [iand_low (a := Y) ⟨by omega, e4⟩, iand_low (a := U) ⟨hU0, hU1⟩]
 have k1 : Y / 4294967296 * 4294967296 + Y % 4294967296 = Y := by omega
 have k2 : 2147483648 ≤ Y / 4294967296 := by omega
 have k3 : Y / 4294967296 < 4294967296 := by omega
 have k4 : 0 ≤ Y % 4294967296 := by omega
 have k5 : Y % 4294967296 < 4294967296 := by omega
 have k6 : 0 ≤ U / 4294967296 := by omega
 have k7 : U / 4294967296 < 4294967296 := by omega
 have k8 : 0 ≤ U % 4294967296 := by omega
 have k9 : U % 4294967296 < 4294967296 := by omega
 have k10 : U = U / 4294967296 * 4294967296 + U % 4294967296 := by omega
 generalize U / 4294967296 = u1 at *
 generalize U % 4294967296 = u0 at *
 generalize Y / 4294967296 = y1 at *
 generalize Y % 4294967296 = y0 at *
 have dv : ∀ v : Int, 0 ≤ v → v < Y → IntKind.u64.wrap (Int.tdiv v y1) = v / y1 ∧ IntKind.u64.wrap (v - IntKind.u64.wrap (v / y1 * y1)) = v % y1 := by
  intro v v0 v1
  have := Int.ediv_le_self y1 v0
  have q0 := Int.ediv_nonneg v0 (show 0 ≤ y1 by omega)
  have m0 := Int.emod_nonneg v (show y1 ≠ 0 by omega)
  have m1 := Int.emod_lt_of_pos v (show 0 < y1 by omega)
  have e := Int.emod_add_mul_ediv v y1
  rw [Int.mul_comm] at e
  rw [Int.tdiv_eq_ediv_of_nonneg v0, wu_id (a := v / y1) ⟨q0, by omega⟩]
  refine ⟨rfl, ?_⟩
  have : 0 ≤ v / y1 * y1 := Int.mul_nonneg q0 (by omega)
  rw [wu_id (a := v / y1 * y1) ⟨this, by omega⟩, wu_id ⟨by omega, by omega⟩]
  omega
 have hnz : nz y1 = some () := nz_ok (by omega)
 obtain ⟨d1, d2⟩ := dv u hu0 huy
 simp only [hnz, d1, d2, Option.bind_some]
 obtain ⟨q1, l1, l2, l3, l4, l5⟩ := kn_loopA (u := u) (u1 := u1) (y1 := y1) (y0 := y0) hu0 (by omega) k6 k7 k2 k3 k4 k5
 rw [k1] at l4 l5
 rw [bnd l1]
 have w25 : IntKind.u64.wrap (IntKind.u64.wrap (IntKind.u64.wrap (u * 4294967296) + u1) - IntKind.u64.wrap (q1 * Y)) = u * 4294967296 + u1 - q1 * Y := by
  simp only [wu]
  generalize q1 * Y = z at *
  omega
 simp only [w25]
 have v0 : 0 ≤ u * 4294967296 + u1 - q1 * Y := by omega
 have v1 : u * 4294967296 + u1 - q1 * Y < Y := by omega
 have hv : u * 4294967296 + u1 = q1 * Y + (u * 4294967296 + u1 - q1 * Y) := by omega
 generalize u * 4294967296 + u1 - q1 * Y = v at *
 obtain ⟨d3, d4⟩ := dv v v0 v1
 simp only [d3, d4]
 obtain ⟨q0, m1, m2, m3, m4, m5⟩ := kn_loopB (u := v) (u1 := u0) (y1 := y1) (y0 := y0) v0 (by omega) k8 k9 k2 k3 k4 k5
 rw [k1] at m4 m5
 rw [bnd m1]
 have w36 : IntKind.u64.wrap (IntKind.u64.wrap (q1 * 4294967296) + q0) = q1 * 4294967296 + q0 := by simp only [wu]; omega
 have w37 : IntKind.u64.wrap (IntKind.u64.wrap (IntKind.u64.wrap (v * 4294967296) + u0) - IntKind.u64.wrap (q0 * Y)) = v * 4294967296 + u0 - q0 * Y := by
  simp only [wu]
  generalize q0 * Y = z at *
  omega
 rw [w36, w37, ishr_u (by omega), Int.toNat_natCast]
 obtain ⟨g1, g2⟩ := hfin (q1 * 4294967296 + q0) (v * 4294967296 + u0 - q0 * Y) (by
  rw [hN, k10, Int.add_mul, Int.mul_right_comm]
  generalize q1 * Y = z at *
  generalize q0 * Y = z0 at *
  omega) (by omega) (by omega)
 rw [g1, g2]
def xv (w : Texact_Wide) : Int := w.Hi * 18446744073709551616 + w.Lo
def XW (w : Texact_Wide) : Prop := U64 w.Hi ∧ U64 w.Lo
theorem exact_mul {a b : Int} (ha : U64 a) (hb : U64 b) : ∃ w, exact_Mul a b = some w ∧ XW w ∧ xv w = a * b := by
 obtain ⟨h, l, e1, e2, e3, e4⟩ := mul64 ha hb
 unfold exact_Mul; rw [bnd e1]
 exact ⟨_, rfl, ⟨e2, e3⟩, e4⟩
theorem exact_mulmod {a b c : Int} (ha : U64 a) (hb : U64 b) (hc : U64 c) (h1 : 1 ≤ c) : exact_MulMod a b c = some (a * b % c) := by
 unfold exact_MulMod
 have cc : (c == 0) = false := by simp; omega
 rw [cc]; simp only [cond_false]
 obtain ⟨w, e1, e2, e3⟩ := exact_mul ha hb
 rw [bnd e1]
 unfold math_bits_Rem64
 have hm0 : 0 ≤ w.Hi % c := Int.emod_nonneg _ (by omega)
 have hm1 : w.Hi % c < c := Int.emod_lt_of_pos _ (by omega)
 rw [bnd (nz_ok (show c ≠ 0 by omega)), Int.tmod_eq_emod_of_nonneg e2.1.1, bnd (div64 ⟨hm0, by have := hc.2; omega⟩ e2.2 hc hm1)]
 simp only [Option.bind_some]
 congr 1
 rw [← e3, xv, Int.add_emod, Int.mul_emod, Int.emod_emod, ← Int.mul_emod, ← Int.add_emod]
def rnd (n c m : Int) : Int := if m = 2 ∧ c ≤ 2 * (n % c) then n / c + 1 else n / c
theorem exact_div {w : Texact_Wide} {c m : Int} (hw : XW w) (hc : U64 c) (h1 : 1 ≤ c) (hm : m = 0 ∨ m = 2) : exact_Div w c m = some (if rnd (xv w) c m < 18446744073709551616 then (rnd (xv w) c m, 0) else (0, 3)) := by
 unfold exact_Div
 have hc0 : ((((c == 0) || (decide (m < 0))) || (decide (3 < m))) : Bool) = false := by
  rcases hm with rfl | rfl <;> simp <;> omega
 rw [hc0]; simp only [cond_false]
 have hn0 : 0 ≤ xv w := by unfold xv; have := hw.1.1; have := hw.2.1; omega
 have hr0 : 0 ≤ xv w % c := Int.emod_nonneg _ (by omega)
 have hr1 : xv w % c < c := Int.emod_lt_of_pos _ (by omega)
 have hle : xv w / c ≤ rnd (xv w) c m := by unfold rnd; split <;> omega
 by_cases h : c ≤ w.Hi
 ·rw [decide_eq_true h]
  have : 18446744073709551616 ≤ xv w / c := by
   apply Int.le_ediv_of_mul_le (by omega)
   have := Int.mul_le_mul_of_nonneg_left h (show (0 : Int) ≤ 18446744073709551616 by omega)
   unfold xv; have := hw.2.1; omega
  rw [if_neg (by omega)]; rfl
 ·rw [decide_eq_false h]
  simp only [cond_false]
  have e := div64 hw.1 hw.2 hc (by omega)
  rw [show w.Hi * 18446744073709551616 + w.Lo = xv w from rfl] at e
  rw [bnd e]
  have hq : xv w / c < 18446744073709551616 := by
   apply Int.ediv_lt_of_lt_mul (by omega)
   have := Int.mul_le_mul_of_nonneg_right (show w.Hi + 1 ≤ c by omega) (show (0 : Int) ≤ 18446744073709551616 by omega)
   unfold xv; have := hw.2.2; rw [Int.mul_comm 18446744073709551616]; omega
  have hq0 : 0 ≤ xv w / c := Int.ediv_nonneg hn0 (by omega)
  dsimp only
  have er : exact_raised (xv w / c) (xv w % c) c m = some (decide (m = 2 ∧ c ≤ 2 * (xv w % c))) := by
   unfold exact_raised
   rw [wu_id (a := c - xv w % c) ⟨by omega, by have := hc.2; omega⟩]
   rcases hm with rfl | rfl
   ·simp
   ·simp; omega
  rw [bnd er]
  unfold rnd
  by_cases hu : m = 2 ∧ c ≤ 2 * (xv w % c)
  ·rw [decide_eq_true hu, if_pos hu]
   simp only [Bool.not_true, cond_false]
   by_cases hx : xv w / c = 18446744073709551615
   ·rw [hx]; rfl
   ·have : (xv w / c == 18446744073709551615) = false := by simp; exact hx
    rw [this, if_pos (by omega), wu_id ⟨by omega, by omega⟩]; rfl
  ·rw [decide_eq_false hu, if_neg hu, if_pos hq]; rfl
end SX
end Go.Proofs.YtfcecieppoljlaaGreatDoor
set_option maxRecDepth 100000
namespace Go.Proofs.YtfcecieppoljlaaGreatDoor
namespace SX
open Go
def W : Int := 18446744073709551616
def xw (n : Int) : Texact_Wide := ⟨n / 18446744073709551616, n % 18446744073709551616⟩
def U128 (n : Int) : Prop := 0 ≤ n ∧ n < 340282366920938463463374607431768211456
theorem xw_ok {n : Int} (h : U128 n) : XW (xw n) ∧ xv (xw n) = n := by unfold U128 at h; unfold XW xv xw U64; dsimp only; omega
theorem xw_of {w : Texact_Wide} (h : XW w) : w = xw (xv w) ∧ U128 (xv w) := by
 obtain ⟨a, b⟩ := w
 unfold XW U64 at h; unfold xw xv U128; dsimp only at *
 refine ⟨?_, by omega⟩
 congr 1 <;> omega
theorem xmul {a b : Int} (ha : U64 a) (hb : U64 b) : exact_Mul a b = some (xw (a * b)) := by
 obtain ⟨w, e1, e2, e3⟩ := exact_mul ha hb
 rw [e1, ← e3]; exact congrArg some (xw_of e2).1
theorem xadd {a b : Int} (ha : U128 a) (hb : U128 b) (h : U128 (a + b)) : exact_Add (xw a) (xw b) = some (xw (a + b), 0) := by
 unfold U128 at *
 unfold exact_Add math_bits_Add64 xw
 dsimp only
 rw [if_pos (by omega)]
 simp only [Option.bind_some]
 rw [if_pos (by omega)]
 simp only [Option.bind_some]
 have : ((a / 18446744073709551616 + b / 18446744073709551616 + (a % 18446744073709551616 + b % 18446744073709551616 + 0) / 18446744073709551616) / 18446744073709551616 != 0) = false := by simp; omega
 rw [this]
 simp only [cond_false]
 congr 3 <;> omega
theorem xcmp {a b : Int} (ha : U128 a) (hb : U128 b) : exact_CompareWide (xw a) (xw b) = some (if a < b then -1 else if a = b then 0 else 1) := by
 unfold U128 at *
 unfold exact_CompareWide xw Texact_Wide.eqb
 dsimp only
 by_cases h : a < b
 ·have : ((decide (a / 18446744073709551616 < b / 18446744073709551616)) || ((a / 18446744073709551616 == b / 18446744073709551616) && (decide (a % 18446744073709551616 < b % 18446744073709551616)))) = true := by
   simp only [Bool.or_eq_true, Bool.and_eq_true, decide_eq_true_eq, beq_iff_eq]; omega
  rw [this, if_pos h]; rfl
 ·have : ((decide (a / 18446744073709551616 < b / 18446744073709551616)) || ((a / 18446744073709551616 == b / 18446744073709551616) && (decide (a % 18446744073709551616 < b % 18446744073709551616)))) = false := by
   simp only [Bool.or_eq_false_iff, Bool.and_eq_false_iff, decide_eq_false_iff_not, beq_eq_false_iff_ne]; omega
  rw [this, if_neg h]
  simp only [cond_false]
  by_cases h2 : a = b
  ·subst h2; simp
  ·rw [if_neg h2]
   have : ((a / 18446744073709551616 == b / 18446744073709551616) && (a % 18446744073709551616 == b % 18446744073709551616)) = false := by
    simp only [Bool.and_eq_false_iff, beq_eq_false_iff_ne]; omega
   simp [this]
theorem xdiv {n c : Int} (h : U128 n) (hc : U64 c) (h1 : 1 ≤ c) : exact_Div (xw n) c 2 = some (if rnd n c 2 < 18446744073709551616 then (rnd n c 2, 0) else (0, 3)) := by
 have := exact_div (xw_ok h).1 hc h1 (.inr rfl); rw [(xw_ok h).2] at this; exact this
structure DutyOK (d : TDuty) : Prop where
 r0 : 0 ≤ d.Rate
 r1 : d.Rate ≤ 10000000
 a0 : 0 ≤ d.Amount
 a1 : d.Amount ≤ 100000000
 p0 : 0 ≤ d.Per
 p1 : d.Per ≤ 1000000
 m0 : 0 ≤ d.Most
 m1 : d.Most ≤ 10000000
 l0 : 0 ≤ d.Least
 l1 : d.Least ≤ 10000000
theorem dutyVal (d : TDuty) : ∃ e, duty_Validate d = some e ∧ (e = 0 → DutyOK d) ∧ (e = 0 ∨ e = 1 ∨ e = 2) := by
 unfold duty_Validate
 by_cases h1 : ((((decide (d.Rate < 0)) || (decide (10000000 < d.Rate))) || (decide (d.Amount < 0))) || (decide (100000000 < d.Amount))) = true
 ·rw [h1]; exact ⟨_, rfl, by simp, by simp⟩
 rw [Bool.eq_false_iff.2 h1]
 by_cases h2 : (((decide (0 < d.Amount)) && ((decide (d.Per < 1)) || (decide (1000000 < d.Per)))) || ((d.Amount == 0) && (d.Per != 0))) = true
 ·rw [h2]; exact ⟨_, rfl, by simp, by simp⟩
 rw [Bool.eq_false_iff.2 h2]
 by_cases h3 : ((((decide (d.Most < 0)) || (decide (10000000 < d.Most))) || (decide (d.Least < 0))) || (decide (10000000 < d.Least))) = true
 ·rw [h3]; exact ⟨_, rfl, by simp, by simp⟩
 rw [Bool.eq_false_iff.2 h3]
 simp at h1 h2 h3
 have ok : DutyOK d := by constructor <;> omega
 simp only [cond_false]
 cases h4 : (((d.Most != 0) && (!d.HasMost)) || ((d.Least != 0) && (!d.HasLeast)))
 ·cases h5 : ((d.HasMost && d.HasLeast) && (decide (d.Most < d.Least)))
  ·exact ⟨_, rfl, fun _ => ok, by simp⟩
  ·exact ⟨_, rfl, by simp, by simp⟩
 ·exact ⟨_, rfl, by simp, by simp⟩
def evSum (d : TDuty) (v q : Int) : Int :=
 let p := imax d.Per 1
 let s := d.Rate * v * p + d.Amount * q * 1000000
 let s := if d.HasMost = true ∧ d.Most * v * p < s then d.Most * v * p else s
 if d.HasLeast = true ∧ s < d.Least * v * p then d.Least * v * p else s
def evN (d : TDuty) (v q : Int) : Int × Int := if rnd (evSum d v q) (1000000 * imax d.Per 1) 2 ≤ 1000000000000 then (rnd (evSum d v q) (1000000 * imax d.Per 1) 2, 0) else (0, 3)
theorem xstepM {β : Type} {b : Bool} {s m : Int} {k : Int × Int → Option β} (hs : U128 s) (hm : U128 m) : Option.bind (gd b (some (xw m))) (fun x12 => Option.bind (gd b (exact_CompareWide (xw s) x12)) (fun x13 => Option.bind (cond (b && (decide (0 < x13))) (Option.bind (some (xw m)) (fun x18 => some (x18.Hi, x18.Lo))) (some ((xw s).Hi, (xw s).Lo))) k)) = k ((xw (if b = true ∧ m < s then m else s)).Hi, (xw (if b = true ∧ m < s then m else s)).Lo) := by
 cases b
 ·simp [gd]
 ·simp only [gd, cond_true, Option.bind_some, Bool.true_and]
  rw [xcmp hs hm]
  simp only [Option.bind_some, true_and]
  by_cases h : m < s
  ·rw [if_neg (by omega), if_neg (by omega), if_pos h]; rfl
  ·rw [if_neg h]
   by_cases h2 : s < m
   ·rw [if_pos h2]; rfl
   ·rw [if_neg h2, if_pos (by omega)]; rfl
theorem xstepL {β : Type} {b : Bool} {s m : Int} {k : Int × Int → Option β} (hs : U128 s) (hm : U128 m) : Option.bind (gd b (some (xw m))) (fun x12 => Option.bind (gd b (exact_CompareWide ⟨(xw s).Hi, (xw s).Lo⟩ x12)) (fun x13 => Option.bind (cond (b && (decide (x13 < 0))) (Option.bind (some (xw m)) (fun x18 => some (x18.Hi, x18.Lo))) (some ((xw s).Hi, (xw s).Lo))) k)) = k ((xw (if b = true ∧ s < m then m else s)).Hi, (xw (if b = true ∧ s < m then m else s)).Lo) := by
 cases b
 ·simp [gd]
 ·simp only [gd, cond_true, Option.bind_some, Bool.true_and]
  rw [show exact_CompareWide ⟨(xw s).Hi, (xw s).Lo⟩ (xw m) = _ from xcmp hs hm]
  simp only [Option.bind_some, true_and]
  by_cases h : s < m
  ·rw [if_pos h, if_pos h]; rfl
  ·rw [if_neg h, if_neg h]
   split <;> rfl
theorem rnd_nonneg {n c : Int} (h : 0 ≤ n) (hc : 1 ≤ c) : 0 ≤ rnd n c 2 := by
 have := Int.ediv_nonneg h (show 0 ≤ c by omega)
 unfold rnd; split <;> omega
theorem evFin (r : Int) (h : 0 ≤ r) : (Option.bind (some (if r < 18446744073709551616 then (r, (0 : Int)) else (0, 3))) (fun x26 => cond ((x26.2 != 0) || (decide (1000000000000 < x26.1))) (some ((0 : Int), (3 : Int))) (some ((IntKind.i64.wrap x26.1), 0)))) = some (if r ≤ 1000000000000 then (r, 0) else (0, 3)) := by
 by_cases h1 : r ≤ 1000000000000
 ·rw [if_pos (by omega), if_pos h1]
  simp only [Option.bind_some]
  rw [decide_eq_false (by omega), i64s (by omega) (by omega)]; rfl
 ·rw [if_neg h1]
  by_cases h2 : r < 18446744073709551616
  ·rw [if_pos h2]
   simp only [Option.bind_some]
   rw [decide_eq_true (by omega), Bool.or_true]; rfl
  ·rw [if_neg h2]; rfl
section
variable {d : TDuty} {v q : Int} (hd : DutyOK d) (hv : 0 ≤ v) (hv' : v ≤ 1000000000000) (hq : 0 ≤ q) (hq' : q ≤ 1000000000)
include hv hv' in
theorem prodU {r : Int} (h0 : 0 ≤ r) (h1 : r ≤ 10000000) : U64 (r * v) ∧ 0 ≤ r * v ∧ r * v ≤ 10000000000000000000 := by
 have a := Int.mul_nonneg h0 hv
 have b : r * v ≤ 10000000 * 1000000000000 := Int.mul_le_mul h1 hv' hv (by omega)
 exact ⟨⟨a, by omega⟩, a, by omega⟩
include hq hq' in
theorem prodQ {r : Int} (h0 : 0 ≤ r) (h1 : r ≤ 100000000) : U64 (r * q) ∧ 0 ≤ r * q ∧ r * q ≤ 100000000000000000 := by
 have a := Int.mul_nonneg h0 hq
 have b : r * q ≤ 100000000 * 1000000000 := Int.mul_le_mul h1 hq' hq (by omega)
 exact ⟨⟨a, by omega⟩, a, by omega⟩
include hd in
theorem perU : 1 ≤ imax d.Per 1 ∧ imax d.Per 1 ≤ 1000000 := by
 have := hd.p0; have := hd.p1; unfold imax; split <;> omega
include hd hv hv' in
theorem partU {r : Int} (h0 : 0 ≤ r) (h1 : r ≤ 10000000) : U128 (r * v * imax d.Per 1) ∧ r * v * imax d.Per 1 ≤ 10000000000000000000000000 := by
 obtain ⟨_, a, b⟩ := prodU hv hv' h0 h1
 obtain ⟨p0, p1⟩ := perU hd
 have c := Int.mul_nonneg a (show 0 ≤ imax d.Per 1 by omega)
 have e : r * v * imax d.Per 1 ≤ 10000000000000000000 * 1000000 := Int.mul_le_mul b p1 (by omega) (by omega)
 exact ⟨⟨c, by omega⟩, by omega⟩
include hd hv hv' in
theorem xpart {r : Int} (h0 : 0 ≤ r) (h1 : r ≤ 10000000) : duty_Evaluate_1 r v (IntKind.u64.wrap (imax d.Per 1)) = some (xw (r * v * imax d.Per 1)) := by
 obtain ⟨a, _, _⟩ := prodU hv hv' h0 h1
 obtain ⟨p0, p1⟩ := perU hd
 unfold duty_Evaluate_1
 rw [wu_id (a := r) ⟨h0, by omega⟩, wu_id (a := v) ⟨hv, by omega⟩, wu_id a, wu_id (a := imax d.Per 1) ⟨by omega, by omega⟩, xmul a ⟨by omega, by omega⟩]; rfl
include hd hv hv' hq hq'
theorem evSum_ok : U128 (evSum d v q) ∧ evSum d v q ≤ 20000000000000000000000000 := by
 obtain ⟨⟨a1, _⟩, a3⟩ := partU hd hv hv' hd.r0 hd.r1
 obtain ⟨⟨b1, _⟩, b3⟩ := partU hd hv hv' hd.m0 hd.m1
 obtain ⟨⟨c1, _⟩, c3⟩ := partU hd hv hv' hd.l0 hd.l1
 obtain ⟨_, e1, e2⟩ := prodQ hq hq' hd.a0 hd.a1
 unfold evSum U128
 dsimp only
 split <;> split <;> omega
theorem eval_prog (hval : duty_Validate d = some 0) : duty_Evaluate d v q = some (evN d v q) := by
 obtain ⟨A, a3⟩ := partU hd hv hv' hd.r0 hd.r1
 obtain ⟨B, b3⟩ := partU hd hv hv' hd.m0 hd.m1
 obtain ⟨C, c3⟩ := partU hd hv hv' hd.l0 hd.l1
 obtain ⟨e0, e1, e2⟩ := prodQ hq hq' hd.a0 hd.a1
 obtain ⟨p0, p1⟩ := perU hd
 obtain ⟨G, _⟩ := evSum_ok hd hv hv' hq hq'
 have ha0 := hd.a0; have ha1 := hd.a1
 have E : U128 (d.Amount * q * 1000000) := ⟨by omega, by omega⟩
 have F : U128 (d.Rate * v * imax d.Per 1 + d.Amount * q * 1000000) := ⟨by have := A.1; omega, by omega⟩
 unfold duty_Evaluate
 rw [bnd hval]
 have hc : ((((decide (v < 0)) || (decide (1000000000000 < v))) || (decide (q < 0))) || (decide (1000000000 < q))) = false := by simp; omega
 rw [hc, xpart hd hv hv' hd.r0 hd.r1, wu_id (a := d.Amount) ⟨ha0, by omega⟩, wu_id (a := q) ⟨hq, by omega⟩, wu_id e0, xmul e0 ⟨by omega, by omega⟩]
 simp only [bne_self_eq_false, cond_false, Option.bind_some]
 rw [xadd A E F]
 simp only [bne_self_eq_false, cond_false, Option.bind_some]
 rw [xpart hd hv hv' hd.m0 hd.m1, xpart hd hv hv' hd.l0 hd.l1, xstepM F B]
 dsimp only
 rw [xstepL (by split <;> assumption) C]
 dsimp only
 rw [wu_id (a := imax d.Per 1) ⟨by omega, by omega⟩, wu_id (a := 1000000 * imax d.Per 1) ⟨by omega, by omega⟩]
 have := xdiv G (c := 1000000 * imax d.Per 1) ⟨by omega, by omega⟩ (by omega)
 unfold evSum at this
 dsimp only at this
 erw [this]
 unfold evN evSum
 dsimp only
 exact evFin _ (rnd_nonneg G.1 (by omega))
end
theorem evN_ok (d : TDuty) (v q : Int) (h : 0 ≤ evSum d v q) (hp : 1 ≤ imax d.Per 1) : ((evN d v q).2 = 0 ∧ 0 ≤ (evN d v q).1 ∧ (evN d v q).1 ≤ 1000000000000) ∨ ((evN d v q).2 = 3 ∧ (evN d v q).1 = 0) := by
 have := rnd_nonneg (c := 1000000 * imax d.Per 1) h (by omega)
 unfold evN; split
 ·left; dsimp only; omega
 ·right; exact ⟨rfl, rfl⟩
end SX
end Go.Proofs.YtfcecieppoljlaaGreatDoor
set_option maxRecDepth 100000
namespace Go.Proofs.YtfcecieppoljlaaGreatDoor
namespace SX
open Go
attribute [local irreducible] PWL PWC PWD POpL POpQ PEv PGuardIs PSub PPick PUpd PSplice PFill PLit PF PFV PCall pseqK pblockK pmidK pcutK ploopK pretK Cov PHolds loopF idx app mk gd lb nz ge0 cat sub ssub iand ior ixor ishl ishr imin imax IntKind.wrap Int.tmod Int.tdiv Op.bytesLess strOfNums
def made_Source_duty (p0 : Tmade_Source) : Option (TDuty × Tmade_Source) := Option.bind (made_Source_Next p0 3) (fun x3 => Option.bind (cond (decide (0 < x3.1)) (Option.bind (made_Source_rate x3.2) (fun x9 => some (x9.2.L, x9.2.I, (IntKind.i64.wrap (Int.tdiv x9.1 4))))) (some (x3.2.L, x3.2.I, 0))) (fun (l4, v5, v6) => Option.bind (made_Source_Next (⟨l4, v5⟩ : Tmade_Source) 3) (fun x10 => Option.bind (cond (x10.1 == 1) (Option.bind (made_Source_Next x10.2 500) (fun x17 => Option.bind (made_Source_Next x17.2 5) (fun x20 => Option.bind (idx [1, 100, 1000, 1000000, 7] x20.1) (fun m21 => some (x20.2.L, x20.2.I, (IntKind.i64.wrap (1 + x17.1)), m21))))) (some (x10.2.L, x10.2.I, 0, 0))) (fun (l11, v12, v13, v14) => Option.bind (made_Source_Next (⟨l11, v12⟩ : Tmade_Source) 4) (fun x23 => Option.bind (cond (x23.1 == 1) (Option.bind (made_Source_rate x23.2) (fun x30 => some (x30.2.L, x30.2.I, true, x30.1))) (some (x23.2.L, x23.2.I, false, 0))) (fun (l24, v25, v26, v27) => Option.bind (made_Source_Next (⟨l24, v25⟩ : Tmade_Source) 4) (fun x31 => Option.bind (cond (x31.1 == 1) (Option.bind (made_Source_rate x31.2) (fun x38 => cond v26 (some (x38.2.L, x38.2.I, true, (imin (IntKind.i64.wrap (Int.tdiv x38.1 8)) v27))) (some (x38.2.L, x38.2.I, true, (IntKind.i64.wrap (Int.tdiv x38.1 8)))))) (some (x31.2.L, x31.2.I, false, 0))) (fun (l32, v33, v34, v35) => some ((⟨v6, v13, v14, v26, v27, v34, v35⟩ : TDuty), (⟨l32, v33⟩ : Tmade_Source))))))))))
set_option maxHeartbeats 4000000 in
theorem made_Source_duty_ok {p0 : Tmade_Source} {b0 : Nat} {r : (TDuty × Tmade_Source)}  (h : made_Source_duty p0 = some r) : PCall 34 [.v (.pointer (some ⟨b0, 0, none⟩))] [PRes.b b0 59 [.slc (List.map eI p0.L), .v (.int .i64 p0.I)]] (fun pv ρ' => pv = .agg [.v (.int .i64 r.1.Rate), .v (.int .i64 r.1.Amount), .v (.int .i64 r.1.Per), .v (.bool r.1.HasMost), .v (.int .i64 r.1.Most), .v (.bool r.1.HasLeast), .v (.int .i64 r.1.Least)] ∧ ρ' = [PRes.b b0 59 [.slc (List.map eI r.2.L), .v (.int .i64 r.2.I)]]) := by
 unfold made_Source_duty at h
 refine penter Tryz.func34 fk34 rfl Tryz.ntmps34 Tryz.results34 rfl ?_
 refine yad (yaa ?_)
 refine pwl_l rfl rfl rfl (pl_alloc (cs := [.v (.int .i64 0), .v (.int .i64 0), .v (.int .i64 0), .v (.bool false), .v (.int .i64 0), .v (.bool false), .v (.int .i64 0)]) rfl rfl rfl rfl (fun b1 => ?_))
 refine yaf (yah (yad (yaa ?_)))
 refine yab rfl rfl rfl (pq_build (cs := [.v (.int .i64 0), .v (.int .i64 0), .v (.int .i64 0), .v (.bool false), .v (.int .i64 0), .v (.bool false), .v (.int .i64 0)]) rfl rfl rfl rfl rfl rfl rfl zfn) ?_
 refine pwl_l rfl rfl rfl (pl_alloc (cs := [.v (.int .i64 0), .v (.int .i64 0), .v (.int .i64 0), .v (.bool false), .v (.int .i64 0), .v (.bool false), .v (.int .i64 0)]) rfl rfl rfl rfl (fun b2 => ?_))
 refine pwl_l0 rfl rfl (yaw (vs := [.v (.int .i64 0), .v (.int .i64 0), .v (.int .i64 0), .v (.bool false), .v (.int .i64 0), .v (.bool false), .v (.int .i64 0)]) rfl rfl rfl rfl rfl zuh (zlc (zlc (zlc (zlc (zlc (zlc (zlc zln))))))) ?_)
 refine yaf (yah (yad (yad (yaa ?_))))
 refine yab rfl rfl rfl (yac (p := .v (.pointer (some ⟨b0, 0, none⟩))) rfl (.p rfl)) ?_
 refine yai h ?_; clear h; intro x3 hx3 h
 refine pwl_l rfl rfl rfl (pl_callR rfl rfl (ρ1 := [_]) (yba (by exact zpt (zpt zph)) (List.Perm.refl _)) (yao hx3) ?_); rintro _ _ ⟨rfl, rfl⟩
 refine yab rfl rfl rfl (yap rfl (.p rfl) (.p rfl) rfl) ?_
 refine yaf (yah ?_)
 refine yai h ?_; clear h; intro q7 hq7 h
 refine pwc_join (Y := (Unit) × ((List Int) × Int × Int)) (fun (_, (l4, v5, v6)) => [(0, .v (.pointer (some ⟨b0, 0, none⟩))), (2, .v (.pointer (some ⟨b1, 0, none⟩))), (3, .v (.pointer (some ⟨b2, 0, none⟩)))]) (fun (_, (l4, v5, v6)) => [PRes.b b0 59 [.slc (List.map eI l4), .v (.int .i64 v5)], PRes.b b1 44 [.v (.int .i64 0), .v (.int .i64 0), .v (.int .i64 0), .v (.bool false), .v (.int .i64 0), .v (.bool false), .v (.int .i64 0)], PRes.b b2 44 [.v (.int .i64 v6), .v (.int .i64 0), .v (.int .i64 0), .v (.bool false), .v (.int .i64 0), .v (.bool false), .v (.int .i64 0)]]) (fun (_, (l4, v5, v6)) => q7 = (l4, v5, v6)) ?_ ?_
 ·skip
  refine yam rfl (fun hc8 => ?_) (fun hc8 => ?_)
  ·replace hq7 := yax hc8 hq7
   refine yaa ?_
   refine yab rfl rfl rfl (yac (p := .v (.pointer (some ⟨b0, 0, none⟩))) rfl (.p rfl)) ?_
   refine yai hq7 ?_; clear hq7; intro x9 hx9 hq7
   refine pwl_l rfl rfl rfl (pl_callR rfl rfl (ρ1 := [_]) (yba (by exact zph) (List.Perm.refl _)) (made_Source_rate_ok hx9) ?_); rintro _ _ ⟨rfl, rfl⟩
   refine yab rfl rfl rfl (pq_quo rfl (.p rfl) (.p rfl) (fun _ => by decide)) ?_
   refine yab rfl rfl rfl (yag rfl rfl rfl rfl rfl (.p rfl)) ?_
   refine pwl_l0 rfl rfl (yaw (vs := [.v (.int .i64 (IntKind.i64.wrap (Int.tdiv x9.1 4)))]) rfl rfl rfl rfl rfl (zut zuh) (zlc zln) ?_)
   refine yaf ?_
   obtain rfl := Option.some.inj hq7
   exact pk_mid ((), (x9.2.L, x9.2.I, (IntKind.i64.wrap (Int.tdiv x9.1 4)))) (zhc rfl (zhc rfl (zhc rfl zhn))) (zsc zph (zsc (zpt zph) (zsc zph zsn))) rfl
  ·replace hq7 := yay hc8 hq7
   refine yan ?_
   obtain rfl := Option.some.inj hq7
   exact pk_mid ((), (x3.2.L, x3.2.I, 0)) (zhc rfl (zhc rfl (zhc rfl zhn))) (zsc zph (zsc (zpt zph) (zsc zph zsn))) rfl
 ·rintro ⟨_, ⟨l4, v5, v6⟩⟩ τ hz; (try dsimp only at hz); subst q7; (try dsimp only at h); dsimp only [pupds]
  refine yad (yad (yaa ?_))
  refine yab rfl rfl rfl (yac (p := .v (.pointer (some ⟨b0, 0, none⟩))) rfl (.p rfl)) ?_
  refine yai h ?_; clear h; intro x10 hx10 h
  refine pwl_l rfl rfl rfl (pl_callR rfl rfl (ρ1 := [_]) (yba (by exact zph) (List.Perm.refl _)) (yao hx10) ?_); rintro _ _ ⟨rfl, rfl⟩
  refine yab rfl rfl rfl (yap rfl (.p rfl) (.p rfl) rfl) ?_
  refine yaf (yah ?_)
  refine yai h ?_; clear h; intro q15 hq15 h
  refine pwc_join (Y := (Unit) × ((List Int) × Int × Int × Int)) (fun (_, (l11, v12, v13, v14)) => [(0, .v (.pointer (some ⟨b0, 0, none⟩))), (2, .v (.pointer (some ⟨b1, 0, none⟩))), (3, .v (.pointer (some ⟨b2, 0, none⟩)))]) (fun (_, (l11, v12, v13, v14)) => [PRes.b b0 59 [.slc (List.map eI l11), .v (.int .i64 v12)], PRes.b b1 44 [.v (.int .i64 0), .v (.int .i64 0), .v (.int .i64 0), .v (.bool false), .v (.int .i64 0), .v (.bool false), .v (.int .i64 0)], PRes.b b2 44 [.v (.int .i64 v6), .v (.int .i64 v13), .v (.int .i64 v14), .v (.bool false), .v (.int .i64 0), .v (.bool false), .v (.int .i64 0)]]) (fun (_, (l11, v12, v13, v14)) => q15 = (l11, v12, v13, v14)) ?_ ?_
  ·skip
   refine yam rfl (fun hc16 => ?_) (fun hc16 => ?_)
   ·replace hq15 := yax hc16 hq15
    refine yai hq15 ?_; clear hq15; intro x17 hx17 hq15
    refine yai hq15 ?_; clear hq15; intro x20 hx20 hq15
    refine yai hq15 ?_; clear hq15; intro m21 hm21 hq15
    refine pwc_cutK (Y := Unit) (fun _ => [(0, .v (.pointer (some ⟨b0, 0, none⟩))), (2, .v (.pointer (some ⟨b1, 0, none⟩))), (3, .v (.pointer (some ⟨b2, 0, none⟩)))]) (fun _ => [PRes.b b0 59 [.slc (List.map eI x20.2.L), .v (.int .i64 x20.2.I)], PRes.b b1 44 [.v (.int .i64 0), .v (.int .i64 0), .v (.int .i64 0), .v (.bool false), .v (.int .i64 0), .v (.bool false), .v (.int .i64 0)], PRes.b b2 44 [.v (.int .i64 v6), .v (.int .i64 (IntKind.i64.wrap (1 + x17.1))), .v (.int .i64 m21), .v (.bool false), .v (.int .i64 0), .v (.bool false), .v (.int .i64 0)]]) (fun _ => True) ?_ ?_
    ·refine pws_start (ρd := [PRes.b b0 _ _, PRes.b b2 _ _]) _ (yba zph (yba (zpt zph) (List.Perm.refl _))) ?_
     refine pws_q 0 (by kernel_rfl) rfl rfl rfl rfl (yac (p := .v (.pointer (some ⟨b0, 0, none⟩))) rfl (.p rfl)) ?_
     refine pws_q 4 (by kernel_rfl) rfl rfl rfl rfl (yac (p := .v (.pointer (some ⟨b0, 0, none⟩))) rfl (.p rfl)) ?_
     refine pws_two 1 3 (by kernel_rfl) ?_ ?_
     ·skip
      refine pstep_l rfl rfl rfl rfl (pl_callR rfl rfl (ρ1 := [_]) (yba (by exact zph) (List.Perm.refl _)) (yao hx17) ?_); rintro _ _ ⟨rfl, rfl⟩
      refine pws_q 2 (by kernel_rfl) rfl rfl rfl rfl (yau rfl (.p rfl) (.p rfl) rfl) ?_
      refine pws_q 8 (by kernel_rfl) rfl rfl rfl rfl (yag rfl rfl rfl rfl rfl (.p rfl)) ?_
      refine pws_two 3 5 (by kernel_rfl) ?_ ?_
      ·skip
       refine pstep_l rfl rfl rfl rfl (pl_lit rfl rfl rfl rfl rfl (zic rfl (zic rfl (zic rfl (zic rfl (zic rfl zin))))) rfl rfl rfl rfl (fun b18 => ?_))
       refine pws_one 5 (by kernel_rfl) ?_
       refine pstep_l rfl rfl rfl rfl (pl_callR rfl rfl (ρ1 := [_]) (yba (by exact zpt zph) (List.Perm.refl _)) (yao hx20) ?_); rintro _ _ ⟨rfl, rfl⟩
       refine pws_two 6 9 (by kernel_rfl) ?_ ?_
       ·skip
        refine pstep_l rfl rfl rfl rfl (pl_q (pq_indexO (enc := eI) (xs := [1, 100, 1000, 1000000, 7]) rfl rfl rfl (.p rfl) zm1 (.p rfl) (fun _ => hm21)) ?_)
        refine pws_two 7 9 (by kernel_rfl) ?_ ?_
        ·skip
         refine pstep_l rfl rfl rfl rfl (pl_q (pq_load_o (p := .v (.int .i64 m21)) (enc := eI) (xs := [1, 100, 1000, 1000000, 7]) (a := (some ⟨b18, 0, none⟩)) x20.1 0 m21 rfl (.p rfl) rfl zm1 (fun _ => hm21) rfl) ?_)
         refine pws_one 9 (by kernel_rfl) ?_
         refine pstep_l0 rfl rfl rfl (yaw (vs := [.v (.int .i64 (IntKind.i64.wrap (1 + x17.1)))]) rfl rfl rfl rfl rfl (zut (zut zuh)) (zlt (zlc zln)) ?_)
         refine pws_q 10 (by kernel_rfl) rfl rfl rfl rfl (yag rfl rfl rfl rfl rfl (.p rfl)) ?_
         refine pws_one 11 (by kernel_rfl) ?_
         refine pstep_l0 rfl rfl rfl (yaw (vs := [.v (.int .i64 m21)]) rfl rfl rfl rfl rfl (zut (zut zuh)) (zlt (zlt (zlc zln))) ?_)
         refine pws_done (by kernel_rfl) ?_
         exact pk_cut () (zhc rfl (zhc rfl (zhc rfl zhn))) (zsc zph (zsc (zpt (zpt zph)) (zsc (zpt zph) zsn))) trivial
        ·skip
         refine pstep_l0 rfl rfl rfl (yaw (vs := [.v (.int .i64 (IntKind.i64.wrap (1 + x17.1)))]) rfl rfl rfl rfl rfl (zut (zut zuh)) (zlt (zlc zln)) ?_)
         refine pws_one 7 (by kernel_rfl) ?_
         refine pstep_l rfl rfl rfl rfl (pl_q (pq_load_o (p := .v (.int .i64 m21)) (enc := eI) (xs := [1, 100, 1000, 1000000, 7]) (a := (some ⟨b18, 0, none⟩)) x20.1 0 m21 rfl (.p rfl) rfl zm1 (fun _ => hm21) rfl) ?_)
         refine pws_q 10 (by kernel_rfl) rfl rfl rfl rfl (yag rfl rfl rfl rfl rfl (.p rfl)) ?_
         refine pws_one 11 (by kernel_rfl) ?_
         refine pstep_l0 rfl rfl rfl (yaw (vs := [.v (.int .i64 m21)]) rfl rfl rfl rfl rfl (zut (zut zuh)) (zlt (zlt (zlc zln))) ?_)
         refine pws_done (by kernel_rfl) ?_
         exact pk_cut () (zhc rfl (zhc rfl (zhc rfl zhn))) (zsc zph (zsc (zpt (zpt zph)) (zsc (zpt zph) zsn))) trivial
       ·skip
        refine pstep_l0 rfl rfl rfl (yaw (vs := [.v (.int .i64 (IntKind.i64.wrap (1 + x17.1)))]) rfl rfl rfl rfl rfl (zut (zut zuh)) (zlt (zlc zln)) ?_)
        refine pws_one 6 (by kernel_rfl) ?_
        refine pstep_l rfl rfl rfl rfl (pl_q (pq_indexO (enc := eI) (xs := [1, 100, 1000, 1000000, 7]) rfl rfl rfl (.p rfl) zm1 (.p rfl) (fun _ => hm21)) ?_)
        refine pws_one 7 (by kernel_rfl) ?_
        refine pstep_l rfl rfl rfl rfl (pl_q (pq_load_o (p := .v (.int .i64 m21)) (enc := eI) (xs := [1, 100, 1000, 1000000, 7]) (a := (some ⟨b18, 0, none⟩)) x20.1 0 m21 rfl (.p rfl) rfl zm1 (fun _ => hm21) rfl) ?_)
        refine pws_q 10 (by kernel_rfl) rfl rfl rfl rfl (yag rfl rfl rfl rfl rfl (.p rfl)) ?_
        refine pws_one 11 (by kernel_rfl) ?_
        refine pstep_l0 rfl rfl rfl (yaw (vs := [.v (.int .i64 m21)]) rfl rfl rfl rfl rfl (zut (zut zuh)) (zlt (zlt (zlc zln))) ?_)
        refine pws_done (by kernel_rfl) ?_
        exact pk_cut () (zhc rfl (zhc rfl (zhc rfl zhn))) (zsc zph (zsc (zpt (zpt zph)) (zsc (zpt zph) zsn))) trivial
      ·skip
       refine pstep_l rfl rfl rfl rfl (pl_callR rfl rfl (ρ1 := [_]) (yba (by exact zph) (List.Perm.refl _)) (yao hx20) ?_); rintro _ _ ⟨rfl, rfl⟩
       refine pws_two 3 9 (by kernel_rfl) ?_ ?_
       ·skip
        refine pstep_l rfl rfl rfl rfl (pl_lit rfl rfl rfl rfl rfl (zic rfl (zic rfl (zic rfl (zic rfl (zic rfl zin))))) rfl rfl rfl rfl (fun b18 => ?_))
        refine pws_two 6 9 (by kernel_rfl) ?_ ?_
        ·skip
         refine pstep_l rfl rfl rfl rfl (pl_q (pq_indexO (enc := eI) (xs := [1, 100, 1000, 1000000, 7]) rfl rfl rfl (.p rfl) zm0 (.p rfl) (fun _ => hm21)) ?_)
         refine pws_two 7 9 (by kernel_rfl) ?_ ?_
         ·skip
          refine pstep_l rfl rfl rfl rfl (pl_q (pq_load_o (p := .v (.int .i64 m21)) (enc := eI) (xs := [1, 100, 1000, 1000000, 7]) (a := (some ⟨b18, 0, none⟩)) x20.1 0 m21 rfl (.p rfl) rfl zm0 (fun _ => hm21) rfl) ?_)
          refine pws_one 9 (by kernel_rfl) ?_
          refine pstep_l0 rfl rfl rfl (yaw (vs := [.v (.int .i64 (IntKind.i64.wrap (1 + x17.1)))]) rfl rfl rfl rfl rfl (zut (zut zuh)) (zlt (zlc zln)) ?_)
          refine pws_q 10 (by kernel_rfl) rfl rfl rfl rfl (yag rfl rfl rfl rfl rfl (.p rfl)) ?_
          refine pws_one 11 (by kernel_rfl) ?_
          refine pstep_l0 rfl rfl rfl (yaw (vs := [.v (.int .i64 m21)]) rfl rfl rfl rfl rfl (zut (zut zuh)) (zlt (zlt (zlc zln))) ?_)
          refine pws_done (by kernel_rfl) ?_
          exact pk_cut () (zhc rfl (zhc rfl (zhc rfl zhn))) (zsc (zpt zph) (zsc (zpt (zpt zph)) (zsc (zpt zph) zsn))) trivial
         ·skip
          refine pstep_l0 rfl rfl rfl (yaw (vs := [.v (.int .i64 (IntKind.i64.wrap (1 + x17.1)))]) rfl rfl rfl rfl rfl (zut (zut zuh)) (zlt (zlc zln)) ?_)
          refine pws_one 7 (by kernel_rfl) ?_
          refine pstep_l rfl rfl rfl rfl (pl_q (pq_load_o (p := .v (.int .i64 m21)) (enc := eI) (xs := [1, 100, 1000, 1000000, 7]) (a := (some ⟨b18, 0, none⟩)) x20.1 0 m21 rfl (.p rfl) rfl zm0 (fun _ => hm21) rfl) ?_)
          refine pws_q 10 (by kernel_rfl) rfl rfl rfl rfl (yag rfl rfl rfl rfl rfl (.p rfl)) ?_
          refine pws_one 11 (by kernel_rfl) ?_
          refine pstep_l0 rfl rfl rfl (yaw (vs := [.v (.int .i64 m21)]) rfl rfl rfl rfl rfl (zut (zut zuh)) (zlt (zlt (zlc zln))) ?_)
          refine pws_done (by kernel_rfl) ?_
          exact pk_cut () (zhc rfl (zhc rfl (zhc rfl zhn))) (zsc (zpt zph) (zsc (zpt (zpt zph)) (zsc (zpt zph) zsn))) trivial
        ·skip
         refine pstep_l0 rfl rfl rfl (yaw (vs := [.v (.int .i64 (IntKind.i64.wrap (1 + x17.1)))]) rfl rfl rfl rfl rfl (zut (zut zuh)) (zlt (zlc zln)) ?_)
         refine pws_one 6 (by kernel_rfl) ?_
         refine pstep_l rfl rfl rfl rfl (pl_q (pq_indexO (enc := eI) (xs := [1, 100, 1000, 1000000, 7]) rfl rfl rfl (.p rfl) zm0 (.p rfl) (fun _ => hm21)) ?_)
         refine pws_one 7 (by kernel_rfl) ?_
         refine pstep_l rfl rfl rfl rfl (pl_q (pq_load_o (p := .v (.int .i64 m21)) (enc := eI) (xs := [1, 100, 1000, 1000000, 7]) (a := (some ⟨b18, 0, none⟩)) x20.1 0 m21 rfl (.p rfl) rfl zm0 (fun _ => hm21) rfl) ?_)
         refine pws_q 10 (by kernel_rfl) rfl rfl rfl rfl (yag rfl rfl rfl rfl rfl (.p rfl)) ?_
         refine pws_one 11 (by kernel_rfl) ?_
         refine pstep_l0 rfl rfl rfl (yaw (vs := [.v (.int .i64 m21)]) rfl rfl rfl rfl rfl (zut (zut zuh)) (zlt (zlt (zlc zln))) ?_)
         refine pws_done (by kernel_rfl) ?_
         exact pk_cut () (zhc rfl (zhc rfl (zhc rfl zhn))) (zsc (zpt zph) (zsc (zpt (zpt zph)) (zsc (zpt zph) zsn))) trivial
       ·skip
        refine pstep_l0 rfl rfl rfl (yaw (vs := [.v (.int .i64 (IntKind.i64.wrap (1 + x17.1)))]) rfl rfl rfl rfl rfl (zut zuh) (zlt (zlc zln)) ?_)
        refine pws_one 3 (by kernel_rfl) ?_
        refine pstep_l rfl rfl rfl rfl (pl_lit rfl rfl rfl rfl rfl (zic rfl (zic rfl (zic rfl (zic rfl (zic rfl zin))))) rfl rfl rfl rfl (fun b18 => ?_))
        refine pws_one 6 (by kernel_rfl) ?_
        refine pstep_l rfl rfl rfl rfl (pl_q (pq_indexO (enc := eI) (xs := [1, 100, 1000, 1000000, 7]) rfl rfl rfl (.p rfl) zm0 (.p rfl) (fun _ => hm21)) ?_)
        refine pws_one 7 (by kernel_rfl) ?_
        refine pstep_l rfl rfl rfl rfl (pl_q (pq_load_o (p := .v (.int .i64 m21)) (enc := eI) (xs := [1, 100, 1000, 1000000, 7]) (a := (some ⟨b18, 0, none⟩)) x20.1 0 m21 rfl (.p rfl) rfl zm0 (fun _ => hm21) rfl) ?_)
        refine pws_q 10 (by kernel_rfl) rfl rfl rfl rfl (yag rfl rfl rfl rfl rfl (.p rfl)) ?_
        refine pws_one 11 (by kernel_rfl) ?_
        refine pstep_l0 rfl rfl rfl (yaw (vs := [.v (.int .i64 m21)]) rfl rfl rfl rfl rfl (zut (zut zuh)) (zlt (zlt (zlc zln))) ?_)
        refine pws_done (by kernel_rfl) ?_
        exact pk_cut () (zhc rfl (zhc rfl (zhc rfl zhn))) (zsc (zpt zph) (zsc (zpt (zpt zph)) (zsc (zpt zph) zsn))) trivial
     ·skip
      refine pstep_l rfl rfl rfl rfl (pl_lit rfl rfl rfl rfl rfl (zic rfl (zic rfl (zic rfl (zic rfl (zic rfl zin))))) rfl rfl rfl rfl (fun b18 => ?_))
      refine pws_one 1 (by kernel_rfl) ?_
      refine pstep_l rfl rfl rfl rfl (pl_callR rfl rfl (ρ1 := [_]) (yba (by exact zpt zph) (List.Perm.refl _)) (yao hx17) ?_); rintro _ _ ⟨rfl, rfl⟩
      refine pws_q 2 (by kernel_rfl) rfl rfl rfl rfl (yau rfl (.p rfl) (.p rfl) rfl) ?_
      refine pws_q 8 (by kernel_rfl) rfl rfl rfl rfl (yag rfl rfl rfl rfl rfl (.p rfl)) ?_
      refine pws_one 5 (by kernel_rfl) ?_
      refine pstep_l rfl rfl rfl rfl (pl_callR rfl rfl (ρ1 := [_]) (yba (by exact zph) (List.Perm.refl _)) (yao hx20) ?_); rintro _ _ ⟨rfl, rfl⟩
      refine pws_two 6 9 (by kernel_rfl) ?_ ?_
      ·skip
       refine pstep_l rfl rfl rfl rfl (pl_q (pq_indexO (enc := eI) (xs := [1, 100, 1000, 1000000, 7]) rfl rfl rfl (.p rfl) zm1 (.p rfl) (fun _ => hm21)) ?_)
       refine pws_two 7 9 (by kernel_rfl) ?_ ?_
       ·skip
        refine pstep_l rfl rfl rfl rfl (pl_q (pq_load_o (p := .v (.int .i64 m21)) (enc := eI) (xs := [1, 100, 1000, 1000000, 7]) (a := (some ⟨b18, 0, none⟩)) x20.1 0 m21 rfl (.p rfl) rfl zm1 (fun _ => hm21) rfl) ?_)
        refine pws_one 9 (by kernel_rfl) ?_
        refine pstep_l0 rfl rfl rfl (yaw (vs := [.v (.int .i64 (IntKind.i64.wrap (1 + x17.1)))]) rfl rfl rfl rfl rfl (zut (zut zuh)) (zlt (zlc zln)) ?_)
        refine pws_q 10 (by kernel_rfl) rfl rfl rfl rfl (yag rfl rfl rfl rfl rfl (.p rfl)) ?_
        refine pws_one 11 (by kernel_rfl) ?_
        refine pstep_l0 rfl rfl rfl (yaw (vs := [.v (.int .i64 m21)]) rfl rfl rfl rfl rfl (zut (zut zuh)) (zlt (zlt (zlc zln))) ?_)
        refine pws_done (by kernel_rfl) ?_
        exact pk_cut () (zhc rfl (zhc rfl (zhc rfl zhn))) (zsc zph (zsc (zpt (zpt zph)) (zsc (zpt zph) zsn))) trivial
       ·skip
        refine pstep_l0 rfl rfl rfl (yaw (vs := [.v (.int .i64 (IntKind.i64.wrap (1 + x17.1)))]) rfl rfl rfl rfl rfl (zut (zut zuh)) (zlt (zlc zln)) ?_)
        refine pws_one 7 (by kernel_rfl) ?_
        refine pstep_l rfl rfl rfl rfl (pl_q (pq_load_o (p := .v (.int .i64 m21)) (enc := eI) (xs := [1, 100, 1000, 1000000, 7]) (a := (some ⟨b18, 0, none⟩)) x20.1 0 m21 rfl (.p rfl) rfl zm1 (fun _ => hm21) rfl) ?_)
        refine pws_q 10 (by kernel_rfl) rfl rfl rfl rfl (yag rfl rfl rfl rfl rfl (.p rfl)) ?_
        refine pws_one 11 (by kernel_rfl) ?_
        refine pstep_l0 rfl rfl rfl (yaw (vs := [.v (.int .i64 m21)]) rfl rfl rfl rfl rfl (zut (zut zuh)) (zlt (zlt (zlc zln))) ?_)
        refine pws_done (by kernel_rfl) ?_
        exact pk_cut () (zhc rfl (zhc rfl (zhc rfl zhn))) (zsc zph (zsc (zpt (zpt zph)) (zsc (zpt zph) zsn))) trivial
      ·skip
       refine pstep_l0 rfl rfl rfl (yaw (vs := [.v (.int .i64 (IntKind.i64.wrap (1 + x17.1)))]) rfl rfl rfl rfl rfl (zut (zut zuh)) (zlt (zlc zln)) ?_)
       refine pws_one 6 (by kernel_rfl) ?_
       refine pstep_l rfl rfl rfl rfl (pl_q (pq_indexO (enc := eI) (xs := [1, 100, 1000, 1000000, 7]) rfl rfl rfl (.p rfl) zm1 (.p rfl) (fun _ => hm21)) ?_)
       refine pws_one 7 (by kernel_rfl) ?_
       refine pstep_l rfl rfl rfl rfl (pl_q (pq_load_o (p := .v (.int .i64 m21)) (enc := eI) (xs := [1, 100, 1000, 1000000, 7]) (a := (some ⟨b18, 0, none⟩)) x20.1 0 m21 rfl (.p rfl) rfl zm1 (fun _ => hm21) rfl) ?_)
       refine pws_q 10 (by kernel_rfl) rfl rfl rfl rfl (yag rfl rfl rfl rfl rfl (.p rfl)) ?_
       refine pws_one 11 (by kernel_rfl) ?_
       refine pstep_l0 rfl rfl rfl (yaw (vs := [.v (.int .i64 m21)]) rfl rfl rfl rfl rfl (zut (zut zuh)) (zlt (zlt (zlc zln))) ?_)
       refine pws_done (by kernel_rfl) ?_
       exact pk_cut () (zhc rfl (zhc rfl (zhc rfl zhn))) (zsc zph (zsc (zpt (zpt zph)) (zsc (zpt zph) zsn))) trivial
    ·rintro _ τ ρ1 hsub22 _; (try dsimp only at hsub22); dsimp only [pupds]
     obtain rfl := Option.some.inj hq15
     exact pk_mid ((), (x20.2.L, x20.2.I, (IntKind.i64.wrap (1 + x17.1)), m21)) (zhc rfl (zhc rfl (zhc rfl zhn))) (PSub.trans (zsc zph (zsc zph (zsc zph zsn))) hsub22) rfl
   ·replace hq15 := yay hc16 hq15
    refine yan ?_
    obtain rfl := Option.some.inj hq15
    exact pk_mid ((), (x10.2.L, x10.2.I, 0, 0)) (zhc rfl (zhc rfl (zhc rfl zhn))) (zsc zph (zsc zph (zsc zph zsn))) rfl
  ·rintro ⟨_, ⟨l11, v12, v13, v14⟩⟩ τ hz; (try dsimp only at hz); subst q15; (try dsimp only at h); dsimp only [pupds]
   refine yad (yad (yaa ?_))
   refine yab rfl rfl rfl (yac (p := .v (.pointer (some ⟨b0, 0, none⟩))) rfl (.p rfl)) ?_
   refine yai h ?_; clear h; intro x23 hx23 h
   refine pwl_l rfl rfl rfl (pl_callR rfl rfl (ρ1 := [_]) (yba (by exact zph) (List.Perm.refl _)) (yao hx23) ?_); rintro _ _ ⟨rfl, rfl⟩
   refine yab rfl rfl rfl (yap rfl (.p rfl) (.p rfl) rfl) ?_
   refine yaf (yah ?_)
   refine yai h ?_; clear h; intro q28 hq28 h
   refine pwc_join (Y := (Unit) × ((List Int) × Int × Bool × Int)) (fun (_, (l24, v25, v26, v27)) => [(0, .v (.pointer (some ⟨b0, 0, none⟩))), (2, .v (.pointer (some ⟨b1, 0, none⟩))), (3, .v (.pointer (some ⟨b2, 0, none⟩)))]) (fun (_, (l24, v25, v26, v27)) => [PRes.b b0 59 [.slc (List.map eI l24), .v (.int .i64 v25)], PRes.b b1 44 [.v (.int .i64 0), .v (.int .i64 0), .v (.int .i64 0), .v (.bool false), .v (.int .i64 0), .v (.bool false), .v (.int .i64 0)], PRes.b b2 44 [.v (.int .i64 v6), .v (.int .i64 v13), .v (.int .i64 v14), .v (.bool v26), .v (.int .i64 v27), .v (.bool false), .v (.int .i64 0)]]) (fun (_, (l24, v25, v26, v27)) => q28 = (l24, v25, v26, v27)) ?_ ?_
   ·skip
    refine yam rfl (fun hc29 => ?_) (fun hc29 => ?_)
    ·replace hq28 := yax hc29 hq28
     refine yaa ?_
     refine yab rfl rfl rfl (yac (p := .v (.pointer (some ⟨b0, 0, none⟩))) rfl (.p rfl)) ?_
     refine yai hq28 ?_; clear hq28; intro x30 hx30 hq28
     refine pwl_l rfl rfl rfl (pl_callR rfl rfl (ρ1 := [_]) (yba (by exact zph) (List.Perm.refl _)) (made_Source_rate_ok hx30) ?_); rintro _ _ ⟨rfl, rfl⟩
     refine yab rfl rfl rfl (yag rfl rfl rfl rfl rfl (.p rfl)) ?_
     refine pwl_l0 rfl rfl (yaw (vs := [.v (.bool true)]) rfl rfl rfl rfl rfl (zut (zut zuh)) (zlt (zlt (zlt (zlc zln)))) ?_)
     refine yab rfl rfl rfl (yag rfl rfl rfl rfl rfl (.p rfl)) ?_
     refine pwl_l0 rfl rfl (yaw (vs := [.v (.int .i64 x30.1)]) rfl rfl rfl rfl rfl (zut (zut zuh)) (zlt (zlt (zlt (zlt (zlc zln))))) ?_)
     refine yaf ?_
     obtain rfl := Option.some.inj hq28
     exact pk_mid ((), (x30.2.L, x30.2.I, true, x30.1)) (zhc rfl (zhc rfl (zhc rfl zhn))) (zsc zph (zsc zph (zsc zph zsn))) rfl
    ·replace hq28 := yay hc29 hq28
     refine yan ?_
     obtain rfl := Option.some.inj hq28
     exact pk_mid ((), (x23.2.L, x23.2.I, false, 0)) (zhc rfl (zhc rfl (zhc rfl zhn))) (zsc zph (zsc zph (zsc zph zsn))) rfl
   ·rintro ⟨_, ⟨l24, v25, v26, v27⟩⟩ τ hz; (try dsimp only at hz); subst q28; (try dsimp only at h); dsimp only [pupds]
    refine yad (yad (yaa ?_))
    refine yab rfl rfl rfl (yac (p := .v (.pointer (some ⟨b0, 0, none⟩))) rfl (.p rfl)) ?_
    refine yai h ?_; clear h; intro x31 hx31 h
    refine pwl_l rfl rfl rfl (pl_callR rfl rfl (ρ1 := [_]) (yba (by exact zph) (List.Perm.refl _)) (yao hx31) ?_); rintro _ _ ⟨rfl, rfl⟩
    refine yab rfl rfl rfl (yap rfl (.p rfl) (.p rfl) rfl) ?_
    refine yaf (yah ?_)
    refine yai h ?_; clear h; intro q36 hq36 h
    refine pwc_join (Y := (Unit) × ((List Int) × Int × Bool × Int)) (fun (_, (l32, v33, v34, v35)) => [(2, .v (.pointer (some ⟨b1, 0, none⟩))), (3, .v (.pointer (some ⟨b2, 0, none⟩)))]) (fun (_, (l32, v33, v34, v35)) => [PRes.b b0 59 [.slc (List.map eI l32), .v (.int .i64 v33)], PRes.b b1 44 [.v (.int .i64 0), .v (.int .i64 0), .v (.int .i64 0), .v (.bool false), .v (.int .i64 0), .v (.bool false), .v (.int .i64 0)], PRes.b b2 44 [.v (.int .i64 v6), .v (.int .i64 v13), .v (.int .i64 v14), .v (.bool v26), .v (.int .i64 v27), .v (.bool v34), .v (.int .i64 v35)]]) (fun (_, (l32, v33, v34, v35)) => q36 = (l32, v33, v34, v35)) ?_ ?_
    ·skip
     refine yam rfl (fun hc37 => ?_) (fun hc37 => ?_)
     ·replace hq36 := yax hc37 hq36
      refine yad (yaa ?_)
      refine yab rfl rfl rfl (yac (p := .v (.pointer (some ⟨b0, 0, none⟩))) rfl (.p rfl)) ?_
      refine yai hq36 ?_; clear hq36; intro x38 hx38 hq36
      refine pwl_l rfl rfl rfl (pl_callR rfl rfl (ρ1 := [_]) (yba (by exact zph) (List.Perm.refl _)) (made_Source_rate_ok hx38) ?_); rintro _ _ ⟨rfl, rfl⟩
      refine yab rfl rfl rfl (pq_quo rfl (.p rfl) (.p rfl) (fun _ => by decide)) ?_
      refine yab rfl rfl rfl (yag rfl rfl rfl rfl rfl (.p rfl)) ?_
      refine pwl_l0 rfl rfl (yaw (vs := [.v (.bool true)]) rfl rfl rfl rfl rfl (zut (zut zuh)) (zlt (zlt (zlt (zlt (zlt (zlc zln)))))) ?_)
      refine yab rfl rfl rfl (yag rfl rfl rfl rfl rfl (.p rfl)) ?_
      refine pwl_l0 rfl rfl (yaw (vs := [.v (.int .i64 (IntKind.i64.wrap (Int.tdiv x38.1 8)))]) rfl rfl rfl rfl rfl (zut (zut zuh)) (zlt (zlt (zlt (zlt (zlt (zlt (zlc zln))))))) ?_)
      refine yaf (yah (yad (yaa ?_)))
      refine yab rfl rfl rfl (yag rfl rfl rfl rfl rfl (.p rfl)) ?_
      refine yab rfl rfl rfl (yaj (p := .v (.bool v26)) rfl (.p rfl) zm2 rfl) ?_
      refine yaf (yah ?_)
      refine yam rfl (fun hc39 => ?_) (fun hc39 => ?_)
      ·replace hq36 := yax hc39 hq36
       refine yaa ?_
       refine yab rfl rfl rfl (yag rfl rfl rfl rfl rfl (.p rfl)) ?_
       refine yab rfl rfl rfl (yaj (p := .v (.int .i64 (IntKind.i64.wrap (Int.tdiv x38.1 8)))) rfl (.p rfl) zm2 rfl) ?_
       refine yab rfl rfl rfl (yag rfl rfl rfl rfl rfl (.p rfl)) ?_
       refine yab rfl rfl rfl (yaj (p := .v (.int .i64 v27)) rfl (.p rfl) zm2 rfl) ?_
       refine yab rfl rfl rfl (pq_min rfl (.p rfl) (.p rfl)) ?_
       refine yab rfl rfl rfl (yag rfl rfl rfl rfl rfl (.p rfl)) ?_
       refine pwl_l0 rfl rfl (yaw (vs := [.v (.int .i64 (imin (IntKind.i64.wrap (Int.tdiv x38.1 8)) v27))]) rfl rfl rfl rfl rfl (zut (zut zuh)) (zlt (zlt (zlt (zlt (zlt (zlt (zlc zln))))))) ?_)
       refine yaf ?_
       obtain rfl := Option.some.inj hq36
       exact pk_mid ((), (x38.2.L, x38.2.I, true, (imin (IntKind.i64.wrap (Int.tdiv x38.1 8)) v27))) (zhc rfl (zhc rfl zhn)) (zsc zph (zsc zph (zsc zph zsn))) rfl
      ·replace hq36 := yay hc39 hq36
       refine yan ?_
       obtain rfl := Option.some.inj hq36
       exact pk_mid ((), (x38.2.L, x38.2.I, true, (IntKind.i64.wrap (Int.tdiv x38.1 8)))) (zhc rfl (zhc rfl zhn)) (zsc zph (zsc zph (zsc zph zsn))) rfl
     ·replace hq36 := yay hc37 hq36
      refine yan ?_
      obtain rfl := Option.some.inj hq36
      exact pk_mid ((), (x31.2.L, x31.2.I, false, 0)) (zhc rfl (zhc rfl zhn)) (zsc zph (zsc zph (zsc zph zsn))) rfl
    ·rintro ⟨_, ⟨l32, v33, v34, v35⟩⟩ τ hz; (try dsimp only at hz); subst q36; (try dsimp only at h); dsimp only [pupds]
     refine yad (yaa ?_)
     refine yab rfl rfl rfl (yaj (p := .agg [.v (.int .i64 v6), .v (.int .i64 v13), .v (.int .i64 v14), .v (.bool v26), .v (.int .i64 v27), .v (.bool v34), .v (.int .i64 v35)]) rfl (.p rfl) zm2 rfl) ?_
     refine pwl_l0 rfl rfl (yaw (vs := [.v (.int .i64 v6), .v (.int .i64 v13), .v (.int .i64 v14), .v (.bool v26), .v (.int .i64 v27), .v (.bool v34), .v (.int .i64 v35)]) rfl rfl rfl rfl rfl (zut zuh) (zlc (zlc (zlc (zlc (zlc (zlc (zlc zln))))))) ?_)
     refine yaf (yah (yas ?_))
     obtain rfl := Option.some.inj h
     exact yat (prv_1 (prv1_c rfl zm1 rfl)) (zsc zph zsn) ⟨rfl, rfl⟩
def made_Measures (p0 : (List Int)) : Option (List TMeasure) := Option.bind (made_Cut p0 300) (fun x1 => Option.bind (made_Source_Next (⟨x1, 0⟩ : Tmade_Source) 8) (fun x3 => Option.bind (cond (decide (0 < x3.1)) (Option.bind (made_Source_duty x3.2) (fun x12 => Option.bind (made_Source_duty x12.2) (fun x13 => Option.bind (app 144 ([] : List TMeasure) [(⟨1, 1, (⟨#[57, 52]⟩ : ByteArray), [], 0, 0, 36525, (-1), x12.1⟩ : TMeasure), (⟨2, 1, (⟨#[57, 53]⟩ : ByteArray), [], 0, 0, 25, (-1), x13.1⟩ : TMeasure)]) (fun l17 => some (l17, x13.2.L, x13.2.I))))) (some (([] : (List TMeasure)), x3.2.L, x3.2.I))) (fun (l7, l8, v9) => Option.bind (made_Source_Next (⟨l8, v9⟩ : Tmade_Source) 13) (fun x21 => Option.bind (loopF (S := (List TMeasure) × Int × (List Int) × Int) (T := ((List TMeasure))) (fun (l23, v26, l27, v28) => cond (decide (v26 < x21.1)) (Option.bind (made_Source_Next (⟨l27, v28⟩ : Tmade_Source) 6) (fun x36 => Option.bind (made_Source_Next x36.2 4) (fun x37 => Option.bind (made_Source_Code x37.2 (IntKind.i64.wrap (2 + (IntKind.i64.wrap (2 * x37.1))))) (fun x38 => Option.bind (made_Source_Next x38.2 20) (fun x39 => Option.bind (made_Source_duty x39.2) (fun x40 => Option.bind (made_Source_Next x40.2 30) (fun x42 => Option.bind (made_Source_Next x42.2 3) (fun x43 => Option.bind (cond (x43.1 == 1) (Option.bind (made_Source_Next x43.2 (IntKind.i64.wrap (x39.1 + 1))) (fun x50 => some (x50.2.L, x50.2.I, x50.1))) (some (x43.2.L, x43.2.I, (-1)))) (fun (l45, v46, v47) => Option.bind (made_Source_Next (⟨l45, v46⟩ : Tmade_Source) 3) (fun x51 => Option.bind (cond (x51.1 == 1) (Option.bind (made_Source_Next x51.2 2) (fun x58 => some (x58.2.L, x58.2.I, (IntKind.i64.wrap (1 + x58.1))))) (some (x51.2.L, x51.2.I, 0))) (fun (l53, v54, v55) => Option.bind (made_Source_Next (⟨l53, v54⟩ : Tmade_Source) 16) (fun x59 => Option.bind (loopF (S := Int × (List ByteArray)) (T := ((List ByteArray))) (fun (v60, l62) => cond ((decide (v60 < 3)) && (decide (7 < x59.1))) (Option.bind (Option.bind (ge0 v60) (fun u80 => cond ((iand .i64 (ishr .i64 x59.1 v60) 1) == 1) (Option.bind (made_Countries) (fun x82 => Option.bind (idx x82 v60) (fun m83 => Option.bind (app 16 l62 [m83]) (fun l86 => some l86)))) (some l62))) (fun l78 => some (.inl ((IntKind.i64.wrap (v60 + 1)), l78)))) (some (.inr l62))) FUEL (0, ([] : List ByteArray))) (fun l69 => Option.bind (app 144 l23 [(⟨(IntKind.i64.wrap (3 + (IntKind.i64.wrap (2 * v26)))), (IntKind.i64.wrap (1 + x36.1)), x38.1, l69, v55, x39.1, (IntKind.i64.wrap ((IntKind.i64.wrap (x39.1 + 1)) + x42.1)), v47, x40.1⟩ : TMeasure)]) (fun l93 => some (.inl (l93, (IntKind.i64.wrap (v26 + 1)), x59.2.L, x59.2.I)))))))))))))))) (some (.inr l23))) FUEL (l7, 0, x21.2.L, x21.2.I)) (fun l32 => some l32)))))
set_option maxHeartbeats 4000000 in
theorem made_Measures_ok {p0 : (List Int)} {r : (List TMeasure)}  (h : made_Measures p0 = some r) : PF 16 [.slc (List.map eI p0)] (.slc (List.map TMeasure.enc r)) := by
 unfold made_Measures at h
 refine pf_of ?_
 refine penter Tryz.func16 fk16 rfl Tryz.ntmps16 Tryz.results16 rfl ?_
 refine yad (yaa ?_)
 refine yab rfl rfl rfl (yae (p := .v (.slice none 0 0)) rfl (.p rfl)) ?_
 refine yaf (yah (yad (yaa ?_)))
 refine yab rfl rfl rfl (yac (p := .slc (List.map eI p0)) rfl (.p rfl)) ?_
 refine yai h ?_; clear h; intro x1 hx1 h
 refine pwl_call rfl rfl rfl rfl rfl (made_Cut_ok hx1) ?_
 refine yab rfl rfl rfl (pq_build (cs := [.slc (List.map eI x1), .v (.int .i64 0)]) rfl rfl rfl rfl rfl rfl rfl (zfc rfl rfl rfl rfl (zlc zln) zfn)) ?_
 refine pwl_l rfl rfl rfl (pl_box (cs := [.slc (List.map eI x1), .v (.int .i64 0)]) rfl rfl (fun b2 => ?_))
 refine yab rfl rfl rfl (yae (p := .v (.pointer (some ⟨b2, 0, none⟩))) rfl (.p rfl)) ?_
 refine yaf (yah (yad (yaa ?_)))
 refine yab rfl rfl rfl (yae (p := .v (.slice none 0 0)) rfl (.p rfl)) ?_
 refine yaf (yah (yad (yad (yaa ?_))))
 refine yab rfl rfl rfl (yac (p := .v (.pointer (some ⟨b2, 0, none⟩))) rfl (.p rfl)) ?_
 refine yai h ?_; clear h; intro x3 hx3 h
 refine pwl_l rfl rfl rfl (pl_callR rfl rfl (ρ1 := [_]) (yba (by exact zph) (List.Perm.refl _)) (yao hx3) ?_); rintro _ _ ⟨rfl, rfl⟩
 refine yab rfl rfl rfl (yap rfl (.p rfl) (.p rfl) rfl) ?_
 refine yaf (yah ?_)
 refine yai h ?_; clear h; intro q10 hq10 h
 refine pwc_join (Y := (Option Addr × Nat) × ((List TMeasure) × (List Int) × Int)) (fun ((a5, c6), (l7, l8, v9)) => [(3, .v (.pointer (some ⟨b2, 0, none⟩))), (4, .v (.slice a5 l7.length c6))]) (fun ((a5, c6), (l7, l8, v9)) => [PRes.b b2 59 [.slc (List.map eI l8), .v (.int .i64 v9)], PRes.row a5 l7.length c6 46 15 (List.map TMeasure.enc l7)]) (fun ((a5, c6), (l7, l8, v9)) => q10 = (l7, l8, v9)) ?_ ?_
 ·skip
  refine yam rfl (fun hc11 => ?_) (fun hc11 => ?_)
  ·replace hq10 := yax hc11 hq10
   refine yaa ?_
   refine yab rfl rfl rfl (yac (p := .v (.slice none 0 0)) rfl (.p rfl)) ?_
   refine yab rfl rfl rfl (yac (p := .v (.pointer (some ⟨b2, 0, none⟩))) rfl (.p rfl)) ?_
   refine yai hq10 ?_; clear hq10; intro x12 hx12 hq10
   refine pwl_l rfl rfl rfl (pl_callR rfl rfl (ρ1 := [_]) (yba (by exact zph) (List.Perm.refl _)) (made_Source_duty_ok hx12) ?_); rintro _ _ ⟨rfl, rfl⟩
   refine yab rfl rfl rfl (pq_build (cs := [.v (.int .i64 1), .v (.int .i64 1), .v (.string (⟨#[57, 52]⟩ : ByteArray)), .v (.slice none 0 0), .v (.int .i64 0), .v (.int .i64 0), .v (.int .i64 36525), .v (.int .i64 (-1)), .v (.int .i64 x12.1.Rate), .v (.int .i64 x12.1.Amount), .v (.int .i64 x12.1.Per), .v (.bool x12.1.HasMost), .v (.int .i64 x12.1.Most), .v (.bool x12.1.HasLeast), .v (.int .i64 x12.1.Least)]) rfl rfl rfl rfl rfl rfl rfl (zfc rfl rfl rfl rfl (zlc zln) (zfc rfl rfl rfl rfl (zlt (zlc zln)) (zfc rfl rfl rfl rfl (zlt (zlt (zlc zln))) (zfc rfl rfl rfl rfl (zlt (zlt (zlt (zlt (zlt (zlt (zlc zln))))))) (zfc rfl rfl rfl rfl (zlt (zlt (zlt (zlt (zlt (zlt (zlt (zlc zln)))))))) (zfc rfl rfl rfl rfl (zlt (zlt (zlt (zlt (zlt (zlt (zlt (zlt (zlc (zlc (zlc (zlc (zlc (zlc (zlc zln))))))))))))))) zfn))))))) ?_
   refine yab rfl rfl rfl (yac (p := .v (.pointer (some ⟨b2, 0, none⟩))) rfl (.p rfl)) ?_
   refine yai hq10 ?_; clear hq10; intro x13 hx13 hq10
   refine pwl_l rfl rfl rfl (pl_callR rfl rfl (ρ1 := [_]) (yba (by exact zph) (List.Perm.refl _)) (made_Source_duty_ok hx13) ?_); rintro _ _ ⟨rfl, rfl⟩
   refine yab rfl rfl rfl (pq_build (cs := [.v (.int .i64 2), .v (.int .i64 1), .v (.string (⟨#[57, 53]⟩ : ByteArray)), .v (.slice none 0 0), .v (.int .i64 0), .v (.int .i64 0), .v (.int .i64 25), .v (.int .i64 (-1)), .v (.int .i64 x13.1.Rate), .v (.int .i64 x13.1.Amount), .v (.int .i64 x13.1.Per), .v (.bool x13.1.HasMost), .v (.int .i64 x13.1.Most), .v (.bool x13.1.HasLeast), .v (.int .i64 x13.1.Least)]) rfl rfl rfl rfl rfl rfl rfl (zfc rfl rfl rfl rfl (zlc zln) (zfc rfl rfl rfl rfl (zlt (zlc zln)) (zfc rfl rfl rfl rfl (zlt (zlt (zlc zln))) (zfc rfl rfl rfl rfl (zlt (zlt (zlt (zlt (zlt (zlt (zlc zln))))))) (zfc rfl rfl rfl rfl (zlt (zlt (zlt (zlt (zlt (zlt (zlt (zlc zln)))))))) (zfc rfl rfl rfl rfl (zlt (zlt (zlt (zlt (zlt (zlt (zlt (zlt (zlc (zlc (zlc (zlc (zlc (zlc (zlc zln))))))))))))))) zfn))))))) ?_
   refine pwl_aggnil 20 3 rfl rfl ?_
   refine pwl_aggnil 23 3 rfl rfl ?_
   refine pwl_l rfl rfl rfl (pl_lit rfl rfl rfl rfl rfl (zic rfl (zic rfl zin)) rfl rfl rfl rfl (fun b14 => ?_))
   refine pwl_nilrow 46 15 ?_
   refine yai hq10 ?_; clear hq10; intro l17 hl17 hq10
   refine pwl_l rfl rfl rfl (pl_app_o (enc := TMeasure.enc) rfl rfl rfl rfl rfl rfl rfl rfl rfl zm1 (by exact zph) hl17 (fun a18 c19 => ?_))
   refine yab rfl rfl rfl (yae (p := .v (.slice a18 l17.length c19)) rfl (.p rfl)) ?_
   refine yaf ?_
   obtain rfl := Option.some.inj hq10
   exact pk_mid ((a18, c19), (l17, x13.2.L, x13.2.I)) (zhc rfl (zhc rfl zhn)) (zsc (zpt (zpt zph)) (zsc zph zsn)) rfl
  ·replace hq10 := yay hc11 hq10
   refine yan ?_
   refine pk_mid_cov (cov_nilrow 46 15) ?_
   obtain rfl := Option.some.inj hq10
   exact pk_mid ((none, 0), (([] : (List TMeasure)), x3.2.L, x3.2.I)) (zhc rfl (zhc rfl zhn)) (zsc (zpt zph) (zsc zph zsn)) rfl
 ·rintro ⟨⟨a5, c6⟩, ⟨l7, l8, v9⟩⟩ τ hz; (try dsimp only at hz); subst q10; (try dsimp only at h); dsimp only [pupds]
  refine yad (yad (yaa ?_))
  refine yab rfl rfl rfl (yac (p := .v (.pointer (some ⟨b2, 0, none⟩))) rfl (.p rfl)) ?_
  refine yai h ?_; clear h; intro x21 hx21 h
  refine pwl_l rfl rfl rfl (pl_callR rfl rfl (ρ1 := [_]) (yba (by exact zph) (List.Perm.refl _)) (yao hx21) ?_); rintro _ _ ⟨rfl, rfl⟩
  refine yab rfl rfl rfl (yae (p := .v (.int .i64 0)) rfl (.p rfl)) ?_
  refine yab rfl rfl rfl (yae (p := .v (.int .i64 x21.1)) rfl (.p rfl)) ?_
  refine yaf (yah ?_)
  refine yai h ?_; clear h; intro q34 hq34 h
  refine pwc_join (Y := (Option Addr × Nat) × ((List TMeasure))) (fun ((a30, c31), l32) => [(4, .v (.slice a30 l32.length c31))]) (fun ((a30, c31), l32) => [PRes.row a30 l32.length c31 46 15 (List.map TMeasure.enc l32)]) (fun ((a30, c31), l32) => q34 = l32) ?_ ?_
  ·refine pwc_block ?_
   refine pwc_loopF (Y := Option Addr × Nat) (S := (List TMeasure) × Int × (List Int) × Int) _ hq34 (fun (a24, c25) (l23, v26, l27, v28) => [(3, .v (.pointer (some ⟨b2, 0, none⟩))), (4, .v (.slice a24 l23.length c25)), (5, .v (.int .i64 v26)), (6, .v (.int .i64 x21.1))]) (fun (a24, c25) (l23, v26, l27, v28) => [PRes.b b2 59 [.slc (List.map eI l27), .v (.int .i64 v28)], PRes.row a24 l23.length c25 46 15 (List.map TMeasure.enc l23)]) (a5, c6) (zhc rfl (zhc rfl (zhc rfl (zhc rfl zhn)))) (zsc zph (zsc zph zsn)) ?_
   rintro ⟨a24, c25⟩ ⟨l23, v26, l27, v28⟩ o τ hb33; (try dsimp only at hb33); dsimp only [pupds]
   refine yad (yad (yaa ?_))
   refine yab rfl rfl rfl (yac (p := .v (.int .i64 v26)) rfl (.p rfl)) ?_
   refine yab rfl rfl rfl (yac (p := .v (.int .i64 x21.1)) rfl (.p rfl)) ?_
   refine yab rfl rfl rfl (yap rfl (.p rfl) (.p rfl) rfl) ?_
   refine yaf (yah ?_)
   refine yam rfl (fun hc35 => ?_) (fun hc35 => ?_)
   ·replace hb33 := yax hc35 hb33
    refine yan (yah (yad (pwc_block (yad (yaa ?_)))))
    refine yab rfl rfl rfl (yac (p := .v (.int .i64 v26)) rfl (.p rfl)) ?_
    refine yab rfl rfl rfl (yau rfl (.p rfl) (.p rfl) rfl) ?_
    refine yab rfl rfl rfl (yau rfl (.p rfl) (.p rfl) rfl) ?_
    refine yab rfl rfl rfl (yac (p := .v (.pointer (some ⟨b2, 0, none⟩))) rfl (.p rfl)) ?_
    refine yai hb33 ?_; clear hb33; intro x36 hx36 hb33
    refine pwl_l rfl rfl rfl (pl_callR rfl rfl (ρ1 := [_]) (yba (by exact zph) (List.Perm.refl _)) (yao hx36) ?_); rintro _ _ ⟨rfl, rfl⟩
    refine yab rfl rfl rfl (yau rfl (.p rfl) (.p rfl) rfl) ?_
    refine yab rfl rfl rfl (yac (p := .v (.pointer (some ⟨b2, 0, none⟩))) rfl (.p rfl)) ?_
    refine yab rfl rfl rfl (yac (p := .v (.pointer (some ⟨b2, 0, none⟩))) rfl (.p rfl)) ?_
    refine yai hb33 ?_; clear hb33; intro x37 hx37 hb33
    refine pwl_l rfl rfl rfl (pl_callR rfl rfl (ρ1 := [_]) (yba (by exact zph) (List.Perm.refl _)) (yao hx37) ?_); rintro _ _ ⟨rfl, rfl⟩
    refine yab rfl rfl rfl (yau rfl (.p rfl) (.p rfl) rfl) ?_
    refine yab rfl rfl rfl (yau rfl (.p rfl) (.p rfl) rfl) ?_
    refine yai hb33 ?_; clear hb33; intro x38 hx38 hb33
    refine pwl_l rfl rfl rfl (pl_callR rfl rfl (ρ1 := [_]) (yba (by exact zph) (List.Perm.refl _)) (made_Source_Code_ok hx38) ?_); rintro _ _ ⟨rfl, rfl⟩
    refine yab rfl rfl rfl (yac (p := .v (.pointer (some ⟨b2, 0, none⟩))) rfl (.p rfl)) ?_
    refine yai hb33 ?_; clear hb33; intro x39 hx39 hb33
    refine pwl_l rfl rfl rfl (pl_callR rfl rfl (ρ1 := [_]) (yba (by exact zph) (List.Perm.refl _)) (yao hx39) ?_); rintro _ _ ⟨rfl, rfl⟩
    refine yab rfl rfl rfl (yac (p := .v (.pointer (some ⟨b2, 0, none⟩))) rfl (.p rfl)) ?_
    refine yai hb33 ?_; clear hb33; intro x40 hx40 hb33
    refine pwl_l rfl rfl rfl (pl_callR rfl rfl (ρ1 := [_]) (yba (by exact zph) (List.Perm.refl _)) (made_Source_duty_ok hx40) ?_); rintro _ _ ⟨rfl, rfl⟩
    refine yab rfl rfl rfl (pq_build (cs := [.v (.int .i64 (IntKind.i64.wrap (3 + (IntKind.i64.wrap (2 * v26))))), .v (.int .i64 (IntKind.i64.wrap (1 + x36.1))), .v (.string x38.1), .v (.slice none 0 0), .v (.int .i64 0), .v (.int .i64 x39.1), .v (.int .i64 0), .v (.int .i64 (-1)), .v (.int .i64 x40.1.Rate), .v (.int .i64 x40.1.Amount), .v (.int .i64 x40.1.Per), .v (.bool x40.1.HasMost), .v (.int .i64 x40.1.Most), .v (.bool x40.1.HasLeast), .v (.int .i64 x40.1.Least)]) rfl rfl rfl rfl rfl rfl rfl (zfc rfl rfl rfl rfl (zlc zln) (zfc rfl rfl rfl rfl (zlt (zlc zln)) (zfc rfl rfl rfl rfl (zlt (zlt (zlc zln))) (zfc rfl rfl rfl rfl (zlt (zlt (zlt (zlt (zlt (zlc zln)))))) (zfc rfl rfl rfl rfl (zlt (zlt (zlt (zlt (zlt (zlt (zlt (zlc zln)))))))) (zfc rfl rfl rfl rfl (zlt (zlt (zlt (zlt (zlt (zlt (zlt (zlt (zlc (zlc (zlc (zlc (zlc (zlc (zlc zln))))))))))))))) zfn))))))) ?_
    refine pwl_l rfl rfl rfl (pl_alloc (cs := [.v (.int .i64 0), .v (.int .i64 0), .v (.string ByteArray.empty), .v (.slice none 0 0), .v (.int .i64 0), .v (.int .i64 0), .v (.int .i64 0), .v (.int .i64 0), .v (.int .i64 0), .v (.int .i64 0), .v (.int .i64 0), .v (.bool false), .v (.int .i64 0), .v (.bool false), .v (.int .i64 0)]) rfl rfl rfl rfl (fun b41 => ?_))
    refine pwl_l0 rfl rfl (yaw (vs := [.v (.int .i64 (IntKind.i64.wrap (3 + (IntKind.i64.wrap (2 * v26))))), .v (.int .i64 (IntKind.i64.wrap (1 + x36.1))), .v (.string x38.1), .v (.slice none 0 0), .v (.int .i64 0), .v (.int .i64 x39.1), .v (.int .i64 0), .v (.int .i64 (-1)), .v (.int .i64 x40.1.Rate), .v (.int .i64 x40.1.Amount), .v (.int .i64 x40.1.Per), .v (.bool x40.1.HasMost), .v (.int .i64 x40.1.Most), .v (.bool x40.1.HasLeast), .v (.int .i64 x40.1.Least)]) rfl rfl rfl rfl rfl zuh (zlc (zlc (zlc (zlc (zlc (zlc (zlc (zlc (zlc (zlc (zlc (zlc (zlc (zlc (zlc zln))))))))))))))) ?_)
    refine yaf (yah (yad ?_))
    refine yai hb33 ?_; clear hb33; intro x42 hx42 hb33
    refine pwc_join (Y := Unit) (fun _ => [(3, .v (.pointer (some ⟨b2, 0, none⟩))), (4, .v (.slice a24 l23.length c25)), (5, .v (.int .i64 v26)), (6, .v (.int .i64 x21.1)), (7, .v (.pointer (some ⟨b41, 0, none⟩)))]) (fun _ => [PRes.b b2 59 [.slc (List.map eI x42.2.L), .v (.int .i64 x42.2.I)], PRes.b b41 46 [.v (.int .i64 (IntKind.i64.wrap (3 + (IntKind.i64.wrap (2 * v26))))), .v (.int .i64 (IntKind.i64.wrap (1 + x36.1))), .v (.string x38.1), .v (.slice none 0 0), .v (.int .i64 0), .v (.int .i64 x39.1), .v (.int .i64 (IntKind.i64.wrap ((IntKind.i64.wrap (x39.1 + 1)) + x42.1))), .v (.int .i64 (-1)), .v (.int .i64 x40.1.Rate), .v (.int .i64 x40.1.Amount), .v (.int .i64 x40.1.Per), .v (.bool x40.1.HasMost), .v (.int .i64 x40.1.Most), .v (.bool x40.1.HasLeast), .v (.int .i64 x40.1.Least)], PRes.row a24 l23.length c25 46 15 (List.map TMeasure.enc l23)]) (fun _ => True) ?_ ?_
    ·refine pws_start (ρd := [PRes.b b2 _ _, PRes.b b41 _ _]) _ (yba (zpt zph) (List.Perm.refl _)) ?_
     refine pws_q 0 (by kernel_rfl) rfl rfl rfl rfl (yag rfl rfl rfl rfl rfl (.p rfl)) ?_
     refine pws_q 3 (by kernel_rfl) rfl rfl rfl rfl (yac (p := .v (.pointer (some ⟨b2, 0, none⟩))) rfl (.p rfl)) ?_
     refine pws_two 1 4 (by kernel_rfl) ?_ ?_
     ·skip
      refine pstep_l rfl rfl rfl rfl (pl_q (yaj (p := .v (.int .i64 x39.1)) rfl (.p rfl) zm1 rfl) ?_)
      refine pws_q 2 (by kernel_rfl) rfl rfl rfl rfl (yau rfl (.p rfl) (.p rfl) rfl) ?_
      refine pws_one 4 (by kernel_rfl) ?_
      refine pstep_l rfl rfl rfl rfl (pl_callR rfl rfl (ρ1 := [_]) (yba (by exact zph) (List.Perm.refl _)) (yao hx42) ?_); rintro _ _ ⟨rfl, rfl⟩
      refine pws_q 5 (by kernel_rfl) rfl rfl rfl rfl (yau rfl (.p rfl) (.p rfl) rfl) ?_
      refine pws_q 6 (by kernel_rfl) rfl rfl rfl rfl (yag rfl rfl rfl rfl rfl (.p rfl)) ?_
      refine pws_one 7 (by kernel_rfl) ?_
      refine pstep_l0 rfl rfl rfl (yaw (vs := [.v (.int .i64 (IntKind.i64.wrap ((IntKind.i64.wrap (x39.1 + 1)) + x42.1)))]) rfl rfl rfl rfl rfl (zut zuh) (zlt (zlt (zlt (zlt (zlt (zlt (zlc zln))))))) ?_)
      refine pws_done (by kernel_rfl) ?_
      exact pk_mid () (zhc rfl (zhc rfl (zhc rfl (zhc rfl (zhc rfl zhn))))) (zsc zph (zsc zph (zsc zph zsn))) trivial
     ·skip
      refine pstep_l rfl rfl rfl rfl (pl_callR rfl rfl (ρ1 := [_]) (yba (by exact zph) (List.Perm.refl _)) (yao hx42) ?_); rintro _ _ ⟨rfl, rfl⟩
      refine pws_one 1 (by kernel_rfl) ?_
      refine pstep_l rfl rfl rfl rfl (pl_q (yaj (p := .v (.int .i64 x39.1)) rfl (.p rfl) zm1 rfl) ?_)
      refine pws_q 2 (by kernel_rfl) rfl rfl rfl rfl (yau rfl (.p rfl) (.p rfl) rfl) ?_
      refine pws_q 5 (by kernel_rfl) rfl rfl rfl rfl (yau rfl (.p rfl) (.p rfl) rfl) ?_
      refine pws_q 6 (by kernel_rfl) rfl rfl rfl rfl (yag rfl rfl rfl rfl rfl (.p rfl)) ?_
      refine pws_one 7 (by kernel_rfl) ?_
      refine pstep_l0 rfl rfl rfl (yaw (vs := [.v (.int .i64 (IntKind.i64.wrap ((IntKind.i64.wrap (x39.1 + 1)) + x42.1)))]) rfl rfl rfl rfl rfl (zut zuh) (zlt (zlt (zlt (zlt (zlt (zlt (zlc zln))))))) ?_)
      refine pws_done (by kernel_rfl) ?_
      exact pk_mid () (zhc rfl (zhc rfl (zhc rfl (zhc rfl (zhc rfl zhn))))) (zsc zph (zsc zph (zsc zph zsn))) trivial
    ·rintro _ τ _; dsimp only [pupds]
     refine yad (yad (yaa ?_))
     refine yab rfl rfl rfl (yac (p := .v (.pointer (some ⟨b2, 0, none⟩))) rfl (.p rfl)) ?_
     refine yai hb33 ?_; clear hb33; intro x43 hx43 hb33
     refine pwl_l rfl rfl rfl (pl_callR rfl rfl (ρ1 := [_]) (yba (by exact zph) (List.Perm.refl _)) (yao hx43) ?_); rintro _ _ ⟨rfl, rfl⟩
     refine yab rfl rfl rfl (yap rfl (.p rfl) (.p rfl) rfl) ?_
     refine yaf (yah ?_)
     refine yai hb33 ?_; clear hb33; intro q48 hq48 hb33
     refine pwc_join (Y := (Unit) × ((List Int) × Int × Int)) (fun (_, (l45, v46, v47)) => [(3, .v (.pointer (some ⟨b2, 0, none⟩))), (4, .v (.slice a24 l23.length c25)), (5, .v (.int .i64 v26)), (6, .v (.int .i64 x21.1)), (7, .v (.pointer (some ⟨b41, 0, none⟩)))]) (fun (_, (l45, v46, v47)) => [PRes.b b2 59 [.slc (List.map eI l45), .v (.int .i64 v46)], PRes.b b41 46 [.v (.int .i64 (IntKind.i64.wrap (3 + (IntKind.i64.wrap (2 * v26))))), .v (.int .i64 (IntKind.i64.wrap (1 + x36.1))), .v (.string x38.1), .v (.slice none 0 0), .v (.int .i64 0), .v (.int .i64 x39.1), .v (.int .i64 (IntKind.i64.wrap ((IntKind.i64.wrap (x39.1 + 1)) + x42.1))), .v (.int .i64 v47), .v (.int .i64 x40.1.Rate), .v (.int .i64 x40.1.Amount), .v (.int .i64 x40.1.Per), .v (.bool x40.1.HasMost), .v (.int .i64 x40.1.Most), .v (.bool x40.1.HasLeast), .v (.int .i64 x40.1.Least)], PRes.row a24 l23.length c25 46 15 (List.map TMeasure.enc l23)]) (fun (_, (l45, v46, v47)) => q48 = (l45, v46, v47)) ?_ ?_
     ·skip
      refine yam rfl (fun hc49 => ?_) (fun hc49 => ?_)
      ·replace hq48 := yax hc49 hq48
       refine yaa ?_
       refine yab rfl rfl rfl (yac (p := .v (.pointer (some ⟨b2, 0, none⟩))) rfl (.p rfl)) ?_
       refine yab rfl rfl rfl (yag rfl rfl rfl rfl rfl (.p rfl)) ?_
       refine yab rfl rfl rfl (yaj (p := .v (.int .i64 x39.1)) rfl (.p rfl) zm1 rfl) ?_
       refine yab rfl rfl rfl (yau rfl (.p rfl) (.p rfl) rfl) ?_
       refine yai hq48 ?_; clear hq48; intro x50 hx50 hq48
       refine pwl_l rfl rfl rfl (pl_callR rfl rfl (ρ1 := [_]) (yba (by exact zph) (List.Perm.refl _)) (yao hx50) ?_); rintro _ _ ⟨rfl, rfl⟩
       refine yab rfl rfl rfl (yag rfl rfl rfl rfl rfl (.p rfl)) ?_
       refine pwl_l0 rfl rfl (yaw (vs := [.v (.int .i64 x50.1)]) rfl rfl rfl rfl rfl (zut zuh) (zlt (zlt (zlt (zlt (zlt (zlt (zlt (zlc zln)))))))) ?_)
       refine yaf ?_
       obtain rfl := Option.some.inj hq48
       exact pk_mid ((), (x50.2.L, x50.2.I, x50.1)) (zhc rfl (zhc rfl (zhc rfl (zhc rfl (zhc rfl zhn))))) (zsc zph (zsc zph (zsc zph zsn))) rfl
      ·replace hq48 := yay hc49 hq48
       refine yan ?_
       obtain rfl := Option.some.inj hq48
       exact pk_mid ((), (x43.2.L, x43.2.I, (-1))) (zhc rfl (zhc rfl (zhc rfl (zhc rfl (zhc rfl zhn))))) (zsc zph (zsc zph (zsc zph zsn))) rfl
     ·rintro ⟨_, ⟨l45, v46, v47⟩⟩ τ hz; (try dsimp only at hz); subst q48; (try dsimp only at hb33); dsimp only [pupds]
      refine yad (yad (yaa ?_))
      refine yab rfl rfl rfl (yac (p := .v (.pointer (some ⟨b2, 0, none⟩))) rfl (.p rfl)) ?_
      refine yai hb33 ?_; clear hb33; intro x51 hx51 hb33
      refine pwl_l rfl rfl rfl (pl_callR rfl rfl (ρ1 := [_]) (yba (by exact zph) (List.Perm.refl _)) (yao hx51) ?_); rintro _ _ ⟨rfl, rfl⟩
      refine yab rfl rfl rfl (yap rfl (.p rfl) (.p rfl) rfl) ?_
      refine yaf (yah ?_)
      refine yai hb33 ?_; clear hb33; intro q56 hq56 hb33
      refine pwc_join (Y := (Unit) × ((List Int) × Int × Int)) (fun (_, (l53, v54, v55)) => [(3, .v (.pointer (some ⟨b2, 0, none⟩))), (4, .v (.slice a24 l23.length c25)), (5, .v (.int .i64 v26)), (6, .v (.int .i64 x21.1)), (7, .v (.pointer (some ⟨b41, 0, none⟩)))]) (fun (_, (l53, v54, v55)) => [PRes.b b2 59 [.slc (List.map eI l53), .v (.int .i64 v54)], PRes.b b41 46 [.v (.int .i64 (IntKind.i64.wrap (3 + (IntKind.i64.wrap (2 * v26))))), .v (.int .i64 (IntKind.i64.wrap (1 + x36.1))), .v (.string x38.1), .v (.slice none 0 0), .v (.int .i64 v55), .v (.int .i64 x39.1), .v (.int .i64 (IntKind.i64.wrap ((IntKind.i64.wrap (x39.1 + 1)) + x42.1))), .v (.int .i64 v47), .v (.int .i64 x40.1.Rate), .v (.int .i64 x40.1.Amount), .v (.int .i64 x40.1.Per), .v (.bool x40.1.HasMost), .v (.int .i64 x40.1.Most), .v (.bool x40.1.HasLeast), .v (.int .i64 x40.1.Least)], PRes.row a24 l23.length c25 46 15 (List.map TMeasure.enc l23)]) (fun (_, (l53, v54, v55)) => q56 = (l53, v54, v55)) ?_ ?_
      ·skip
       refine yam rfl (fun hc57 => ?_) (fun hc57 => ?_)
       ·replace hq56 := yax hc57 hq56
        refine yaa ?_
        refine yab rfl rfl rfl (yac (p := .v (.pointer (some ⟨b2, 0, none⟩))) rfl (.p rfl)) ?_
        refine yai hq56 ?_; clear hq56; intro x58 hx58 hq56
        refine pwl_l rfl rfl rfl (pl_callR rfl rfl (ρ1 := [_]) (yba (by exact zph) (List.Perm.refl _)) (yao hx58) ?_); rintro _ _ ⟨rfl, rfl⟩
        refine yab rfl rfl rfl (yau rfl (.p rfl) (.p rfl) rfl) ?_
        refine yab rfl rfl rfl (yag rfl rfl rfl rfl rfl (.p rfl)) ?_
        refine pwl_l0 rfl rfl (yaw (vs := [.v (.int .i64 (IntKind.i64.wrap (1 + x58.1)))]) rfl rfl rfl rfl rfl (zut zuh) (zlt (zlt (zlt (zlt (zlc zln))))) ?_)
        refine yaf ?_
        obtain rfl := Option.some.inj hq56
        exact pk_mid ((), (x58.2.L, x58.2.I, (IntKind.i64.wrap (1 + x58.1)))) (zhc rfl (zhc rfl (zhc rfl (zhc rfl (zhc rfl zhn))))) (zsc zph (zsc zph (zsc zph zsn))) rfl
       ·replace hq56 := yay hc57 hq56
        refine yan ?_
        obtain rfl := Option.some.inj hq56
        exact pk_mid ((), (x51.2.L, x51.2.I, 0)) (zhc rfl (zhc rfl (zhc rfl (zhc rfl (zhc rfl zhn))))) (zsc zph (zsc zph (zsc zph zsn))) rfl
      ·rintro ⟨_, ⟨l53, v54, v55⟩⟩ τ hz; (try dsimp only at hz); subst q56; (try dsimp only at hb33); dsimp only [pupds]
       refine yad (yaa ?_)
       refine yab rfl rfl rfl (yac (p := .v (.pointer (some ⟨b2, 0, none⟩))) rfl (.p rfl)) ?_
       refine yai hb33 ?_; clear hb33; intro x59 hx59 hb33
       refine pwl_l rfl rfl rfl (pl_callR rfl rfl (ρ1 := [_]) (yba (by exact zph) (List.Perm.refl _)) (yao hx59) ?_); rintro _ _ ⟨rfl, rfl⟩
       refine yab rfl rfl rfl (yae (p := .v (.int .i64 x59.1)) rfl (.p rfl)) ?_
       refine yaf (yah (yad (yad (yaa ?_))))
       refine yab rfl rfl rfl (yae (p := .v (.int .i64 0)) rfl (.p rfl)) ?_
       refine yaf (yah ?_)
       refine pwc_nilrow 9 1 ?_
       refine yai hb33 ?_; clear hb33; intro q71 hq71 hb33
       refine pwc_join (Y := (Option Addr × Nat) × ((List ByteArray))) (fun ((a67, c68), l69) => [(3, .v (.pointer (some ⟨b2, 0, none⟩))), (4, .v (.slice a24 l23.length c25)), (5, .v (.int .i64 v26)), (6, .v (.int .i64 x21.1)), (7, .v (.pointer (some ⟨b41, 0, none⟩)))]) (fun ((a67, c68), l69) => [PRes.b b2 59 [.slc (List.map eI x59.2.L), .v (.int .i64 x59.2.I)], PRes.b b41 46 [.v (.int .i64 (IntKind.i64.wrap (3 + (IntKind.i64.wrap (2 * v26))))), .v (.int .i64 (IntKind.i64.wrap (1 + x36.1))), .v (.string x38.1), .v (.slice a67 l69.length c68), .v (.int .i64 v55), .v (.int .i64 x39.1), .v (.int .i64 (IntKind.i64.wrap ((IntKind.i64.wrap (x39.1 + 1)) + x42.1))), .v (.int .i64 v47), .v (.int .i64 x40.1.Rate), .v (.int .i64 x40.1.Amount), .v (.int .i64 x40.1.Per), .v (.bool x40.1.HasMost), .v (.int .i64 x40.1.Most), .v (.bool x40.1.HasLeast), .v (.int .i64 x40.1.Least)], PRes.row a24 l23.length c25 46 15 (List.map TMeasure.enc l23), PRes.row a67 l69.length c68 9 1 (List.map eS l69)]) (fun ((a67, c68), l69) => q71 = l69) ?_ ?_
       ·refine pwc_block ?_
        refine pwc_loopF (Y := Option Addr × Nat) (S := Int × (List ByteArray)) _ hq71 (fun (a63, c64) (v60, l62) => [(3, .v (.pointer (some ⟨b2, 0, none⟩))), (4, .v (.slice a24 l23.length c25)), (5, .v (.int .i64 v26)), (6, .v (.int .i64 x21.1)), (7, .v (.pointer (some ⟨b41, 0, none⟩))), (8, .v (.int .i64 x59.1)), (9, .v (.int .i64 v60))]) (fun (a63, c64) (v60, l62) => [PRes.b b2 59 [.slc (List.map eI x59.2.L), .v (.int .i64 x59.2.I)], PRes.b b41 46 [.v (.int .i64 (IntKind.i64.wrap (3 + (IntKind.i64.wrap (2 * v26))))), .v (.int .i64 (IntKind.i64.wrap (1 + x36.1))), .v (.string x38.1), .v (.slice a63 l62.length c64), .v (.int .i64 v55), .v (.int .i64 x39.1), .v (.int .i64 (IntKind.i64.wrap ((IntKind.i64.wrap (x39.1 + 1)) + x42.1))), .v (.int .i64 v47), .v (.int .i64 x40.1.Rate), .v (.int .i64 x40.1.Amount), .v (.int .i64 x40.1.Per), .v (.bool x40.1.HasMost), .v (.int .i64 x40.1.Most), .v (.bool x40.1.HasLeast), .v (.int .i64 x40.1.Least)], PRes.row a24 l23.length c25 46 15 (List.map TMeasure.enc l23), PRes.row a63 l62.length c64 9 1 (List.map eS l62)]) (none, 0) (zhc rfl (zhc rfl (zhc rfl (zhc rfl (zhc rfl (zhc rfl (zhc rfl zhn))))))) (zsc (zpt zph) (zsc (zpt zph) (zsc (zpt zph) (zsc zph zsn)))) ?_
        rintro ⟨a63, c64⟩ ⟨v60, l62⟩ o τ hb70; (try dsimp only at hb70); dsimp only [pupds]
        refine yad (yad (yaa ?_))
        refine yab rfl rfl rfl (yac (p := .v (.int .i64 v60)) rfl (.p rfl)) ?_
        refine yab rfl rfl rfl (yap rfl (.p rfl) (.p rfl) rfl) ?_
        refine yab rfl rfl rfl (yac (p := .v (.bool (decide (v60 < 3)))) rfl (.p rfl)) ?_
        refine yal (yar rfl rfl rfl) rfl rfl (yac (p := .v (.int .i64 x59.1)) rfl (.p rfl)) ?_
        refine yal (yar rfl rfl rfl) rfl rfl (yap rfl (.g rfl) (.p rfl) rfl) ?_
        refine yab rfl rfl rfl (pq_and rfl (.p rfl) (.p rfl) (.g rfl)) ?_
        refine yaf (yah ?_)
        refine yam rfl (fun hc73 => ?_) (fun hc73 => ?_)
        ·replace hb70 := yax hc73 hb70
         refine yan (yah (yad ?_))
         refine yai hb70 ?_; clear hb70; intro q79 hq79 hb70
         refine pwc_join (Y := (Option Addr × Nat) × ((List ByteArray))) (fun ((a76, c77), l78) => [(3, .v (.pointer (some ⟨b2, 0, none⟩))), (4, .v (.slice a24 l23.length c25)), (5, .v (.int .i64 v26)), (6, .v (.int .i64 x21.1)), (7, .v (.pointer (some ⟨b41, 0, none⟩))), (8, .v (.int .i64 x59.1)), (9, .v (.int .i64 v60))]) (fun ((a76, c77), l78) => [PRes.b b2 59 [.slc (List.map eI x59.2.L), .v (.int .i64 x59.2.I)], PRes.b b41 46 [.v (.int .i64 (IntKind.i64.wrap (3 + (IntKind.i64.wrap (2 * v26))))), .v (.int .i64 (IntKind.i64.wrap (1 + x36.1))), .v (.string x38.1), .v (.slice a76 l78.length c77), .v (.int .i64 v55), .v (.int .i64 x39.1), .v (.int .i64 (IntKind.i64.wrap ((IntKind.i64.wrap (x39.1 + 1)) + x42.1))), .v (.int .i64 v47), .v (.int .i64 x40.1.Rate), .v (.int .i64 x40.1.Amount), .v (.int .i64 x40.1.Per), .v (.bool x40.1.HasMost), .v (.int .i64 x40.1.Most), .v (.bool x40.1.HasLeast), .v (.int .i64 x40.1.Least)], PRes.row a24 l23.length c25 46 15 (List.map TMeasure.enc l23), PRes.row a76 l78.length c77 9 1 (List.map eS l78)]) (fun ((a76, c77), l78) => q79 = l78) ?_ ?_
         ·skip
          refine pwc_block (yad (yaa ?_))
          refine yab rfl rfl rfl (yac (p := .v (.int .i64 x59.1)) rfl (.p rfl)) ?_
          refine yab rfl rfl rfl (yac (p := .v (.int .i64 v60)) rfl (.p rfl)) ?_
          refine yai hq79 ?_; clear hq79; intro u80 hu80 hq79
          refine yab rfl rfl rfl (pq_shift rfl (.p rfl) (.p rfl) (fun _ => ge0_some hu80) rfl) ?_
          refine yab rfl rfl rfl (pq_bits rfl (.p rfl) (.p rfl) rfl) ?_
          refine yab rfl rfl rfl (yap rfl (.p rfl) (.p rfl) rfl) ?_
          refine yaf (yah ?_)
          refine yam rfl (fun hc81 => ?_) (fun hc81 => ?_)
          ·replace hq79 := yax hc81 hq79
           refine yai hq79 ?_; clear hq79; intro x82 hx82 hq79
           refine yai hq79 ?_; clear hq79; intro m83 hm83 hq79
           refine yai hq79 ?_; clear hq79; intro l86 hl86 hq79
           refine pwc_cutK (Y := Option Addr × Nat) (fun (a87, c88) => [(3, .v (.pointer (some ⟨b2, 0, none⟩))), (4, .v (.slice a24 l23.length c25)), (5, .v (.int .i64 v26)), (6, .v (.int .i64 x21.1)), (7, .v (.pointer (some ⟨b41, 0, none⟩))), (8, .v (.int .i64 x59.1)), (9, .v (.int .i64 v60))]) (fun (a87, c88) => [PRes.b b2 59 [.slc (List.map eI x59.2.L), .v (.int .i64 x59.2.I)], PRes.b b41 46 [.v (.int .i64 (IntKind.i64.wrap (3 + (IntKind.i64.wrap (2 * v26))))), .v (.int .i64 (IntKind.i64.wrap (1 + x36.1))), .v (.string x38.1), .v (.slice a87 l86.length c88), .v (.int .i64 v55), .v (.int .i64 x39.1), .v (.int .i64 (IntKind.i64.wrap ((IntKind.i64.wrap (x39.1 + 1)) + x42.1))), .v (.int .i64 v47), .v (.int .i64 x40.1.Rate), .v (.int .i64 x40.1.Amount), .v (.int .i64 x40.1.Per), .v (.bool x40.1.HasMost), .v (.int .i64 x40.1.Most), .v (.bool x40.1.HasLeast), .v (.int .i64 x40.1.Least)], PRes.row a24 l23.length c25 46 15 (List.map TMeasure.enc l23), PRes.row a87 l86.length c88 9 1 (List.map eS l86)]) (fun _ => True) ?_ ?_
           ·refine pws_start (ρd := [PRes.row a63 _ _ _ _ _, PRes.b b41 _ _]) _ (yba (zpt (zpt (zpt zph))) (yba (zpt zph) (List.Perm.refl _))) ?_
            refine pws_q 0 (by kernel_rfl) rfl rfl rfl rfl (yag rfl rfl rfl rfl rfl (.p rfl)) ?_
            refine pws_q 3 (by kernel_rfl) rfl rfl rfl rfl (yac (p := .v (.int .i64 v60)) rfl (.p rfl)) ?_
            refine pws_two 1 2 (by kernel_rfl) ?_ ?_
            ·skip
             refine pstep_l rfl rfl rfl rfl (pl_q (yaj (p := .v (.slice a63 l62.length c64)) rfl (.p rfl) zm1 rfl) ?_)
             refine pws_one 2 (by kernel_rfl) ?_
             refine pstep_call rfl rfl rfl rfl rfl rfl (made_Countries_ok hx82) ?_
             refine pws_q 4 (by kernel_rfl) rfl rfl rfl rfl (pq_index (enc := eS) rfl rfl rfl (fun _ => rfl) (.p rfl) (.p rfl) (fun _ => hm83)) ?_
             refine pws_q 5 (by kernel_rfl) rfl rfl rfl rfl (pq_load_r (p := .v (.string m83)) rfl (.p rfl) rfl) ?_
             refine pws_one 6 (by kernel_rfl) ?_
             refine pstep_l rfl rfl rfl rfl (pl_lit rfl rfl rfl rfl rfl (zic rfl zin) rfl rfl rfl rfl (fun b84 => ?_))
             refine pws_one 7 (by kernel_rfl) ?_
             refine pstep_l rfl rfl rfl rfl (pl_app_o (enc := eS) rfl rfl rfl rfl rfl rfl rfl rfl rfl zm0 (by exact zpt zph) hl86 (fun a87 c88 => ?_))
             refine pws_q 8 (by kernel_rfl) rfl rfl rfl rfl (yag rfl rfl rfl rfl rfl (.p rfl)) ?_
             refine pws_one 9 (by kernel_rfl) ?_
             refine pstep_l0 rfl rfl rfl (yaw (vs := [.v (.slice a87 l86.length c88)]) rfl rfl rfl rfl rfl (zut (zut zuh)) (zlt (zlt (zlt (zlc zln)))) ?_)
             refine pws_done (by kernel_rfl) ?_
             exact pk_cut (a87, c88) (zhc rfl (zhc rfl (zhc rfl (zhc rfl (zhc rfl (zhc rfl (zhc rfl zhn))))))) (zsc (zpt (zpt (zpt zph))) (zsc (zpt (zpt zph)) (zsc (zpt (zpt zph)) (zsc zph zsn)))) trivial
            ·skip
             refine pstep_call rfl rfl rfl rfl rfl rfl (made_Countries_ok hx82) ?_
             refine pws_q 4 (by kernel_rfl) rfl rfl rfl rfl (pq_index (enc := eS) rfl rfl rfl (fun _ => rfl) (.p rfl) (.p rfl) (fun _ => hm83)) ?_
             refine pws_q 5 (by kernel_rfl) rfl rfl rfl rfl (pq_load_r (p := .v (.string m83)) rfl (.p rfl) rfl) ?_
             refine pws_two 1 6 (by kernel_rfl) ?_ ?_
             ·skip
              refine pstep_l rfl rfl rfl rfl (pl_q (yaj (p := .v (.slice a63 l62.length c64)) rfl (.p rfl) zm1 rfl) ?_)
              refine pws_one 6 (by kernel_rfl) ?_
              refine pstep_l rfl rfl rfl rfl (pl_lit rfl rfl rfl rfl rfl (zic rfl zin) rfl rfl rfl rfl (fun b84 => ?_))
              refine pws_one 7 (by kernel_rfl) ?_
              refine pstep_l rfl rfl rfl rfl (pl_app_o (enc := eS) rfl rfl rfl rfl rfl rfl rfl rfl rfl zm0 (by exact zpt zph) hl86 (fun a87 c88 => ?_))
              refine pws_q 8 (by kernel_rfl) rfl rfl rfl rfl (yag rfl rfl rfl rfl rfl (.p rfl)) ?_
              refine pws_one 9 (by kernel_rfl) ?_
              refine pstep_l0 rfl rfl rfl (yaw (vs := [.v (.slice a87 l86.length c88)]) rfl rfl rfl rfl rfl (zut (zut zuh)) (zlt (zlt (zlt (zlc zln)))) ?_)
              refine pws_done (by kernel_rfl) ?_
              exact pk_cut (a87, c88) (zhc rfl (zhc rfl (zhc rfl (zhc rfl (zhc rfl (zhc rfl (zhc rfl zhn))))))) (zsc (zpt (zpt (zpt zph))) (zsc (zpt (zpt zph)) (zsc (zpt (zpt zph)) (zsc zph zsn)))) trivial
             ·skip
              refine pstep_l rfl rfl rfl rfl (pl_lit rfl rfl rfl rfl rfl (zic rfl zin) rfl rfl rfl rfl (fun b84 => ?_))
              refine pws_one 1 (by kernel_rfl) ?_
              refine pstep_l rfl rfl rfl rfl (pl_q (yaj (p := .v (.slice a63 l62.length c64)) rfl (.p rfl) zm2 rfl) ?_)
              refine pws_one 7 (by kernel_rfl) ?_
              refine pstep_l rfl rfl rfl rfl (pl_app_o (enc := eS) rfl rfl rfl rfl rfl rfl rfl rfl rfl zm0 (by exact zpt zph) hl86 (fun a87 c88 => ?_))
              refine pws_q 8 (by kernel_rfl) rfl rfl rfl rfl (yag rfl rfl rfl rfl rfl (.p rfl)) ?_
              refine pws_one 9 (by kernel_rfl) ?_
              refine pstep_l0 rfl rfl rfl (yaw (vs := [.v (.slice a87 l86.length c88)]) rfl rfl rfl rfl rfl (zut (zut zuh)) (zlt (zlt (zlt (zlc zln)))) ?_)
              refine pws_done (by kernel_rfl) ?_
              exact pk_cut (a87, c88) (zhc rfl (zhc rfl (zhc rfl (zhc rfl (zhc rfl (zhc rfl (zhc rfl zhn))))))) (zsc (zpt (zpt (zpt zph))) (zsc (zpt (zpt zph)) (zsc (zpt (zpt zph)) (zsc zph zsn)))) trivial
           ·rintro ⟨a87, c88⟩ τ ρ1 hsub90 _; (try dsimp only at hsub90); dsimp only [pupds]
            refine pk_block_n ?_
            obtain rfl := Option.some.inj hq79
            exact pk_mid ((a87, c88), l86) (zhc rfl (zhc rfl (zhc rfl (zhc rfl (zhc rfl (zhc rfl (zhc rfl zhn))))))) (PSub.trans (zsc zph (zsc zph (zsc zph (zsc zph zsn)))) hsub90) rfl
          ·replace hq79 := yay hc81 hq79
           refine yan (pk_block_n ?_)
           obtain rfl := Option.some.inj hq79
           exact pk_mid ((a63, c64), l62) (zhc rfl (zhc rfl (zhc rfl (zhc rfl (zhc rfl (zhc rfl (zhc rfl zhn))))))) (zsc zph (zsc zph (zsc zph (zsc zph zsn)))) rfl
         ·rintro ⟨⟨a76, c77⟩, l78⟩ τ hz; (try dsimp only at hz); subst q79; (try dsimp only at hb70); dsimp only [pupds]
          refine yaa ?_
          refine yab rfl rfl rfl (yac (p := .v (.int .i64 v60)) rfl (.p rfl)) ?_
          refine yab rfl rfl rfl (yau rfl (.p rfl) (.p rfl) rfl) ?_
          refine yab rfl rfl rfl (yae (p := .v (.int .i64 (IntKind.i64.wrap (v60 + 1)))) rfl (.p rfl)) ?_
          refine yaf ?_
          exact pk_loop hb70 (a76, c77) (zhc rfl (zhc rfl (zhc rfl (zhc rfl (zhc rfl (zhc rfl (zhc rfl zhn))))))) (zsc zph (zsc zph (zsc zph (zsc zph zsn))))
        ·replace hb70 := yay hc73 hb70
         refine pwc_exit (pk_seq_exit ?_)
         refine pk_loop_exit hb70 (fun ht => ?_)
         refine pk_block_eq rfl ?_
         exact pk_mid ((a63, c64), l62) (zhc rfl (zhc rfl (zhc rfl (zhc rfl (zhc rfl zhn))))) (zsc zph (zsc zph (zsc zph (zsc zph zsn)))) ht.symm
       ·rintro ⟨⟨a67, c68⟩, l69⟩ τ hz; (try dsimp only at hz); subst q71; (try dsimp only at hb33); dsimp only [pupds]
        refine yaa ?_
        refine yab rfl rfl rfl (yac (p := .v (.slice a24 l23.length c25)) rfl (.p rfl)) ?_
        refine pwl_frz (css := List.map eS l69) (a := a67) (by exact zpt (zpt (zpt zph))) ?_
        refine pwl_viewb (k := 3) (css := List.map eS l69) (b := b41) (a := a67) rfl zm0 (zut (zut zuh)) ?_
        refine yab rfl rfl rfl (yaj (p := .agg [.v (.int .i64 (IntKind.i64.wrap (3 + (IntKind.i64.wrap (2 * v26))))), .v (.int .i64 (IntKind.i64.wrap (1 + x36.1))), .v (.string x38.1), .slc (List.map eS l69), .v (.int .i64 v55), .v (.int .i64 x39.1), .v (.int .i64 (IntKind.i64.wrap ((IntKind.i64.wrap (x39.1 + 1)) + x42.1))), .v (.int .i64 v47), .v (.int .i64 x40.1.Rate), .v (.int .i64 x40.1.Amount), .v (.int .i64 x40.1.Per), .v (.bool x40.1.HasMost), .v (.int .i64 x40.1.Most), .v (.bool x40.1.HasLeast), .v (.int .i64 x40.1.Least)]) rfl (.p rfl) zm2 rfl) ?_
        refine pwl_l rfl rfl rfl (pl_lit rfl rfl rfl rfl rfl (zic rfl zin) rfl rfl rfl rfl (fun b91 => ?_))
        refine yai hb33 ?_; clear hb33; intro l93 hl93 hb33
        refine pwl_l rfl rfl rfl (pl_app_o (enc := TMeasure.enc) rfl rfl rfl rfl rfl rfl rfl rfl rfl zm0 (by exact zpt (zpt (zpt (zpt zph)))) hl93 (fun a94 c95 => ?_))
        refine yab rfl rfl rfl (yae (p := .v (.slice a94 l93.length c95)) rfl (.p rfl)) ?_
        refine yaf (pk_block_n (yah (yaa ?_)))
        refine yab rfl rfl rfl (yac (p := .v (.int .i64 v26)) rfl (.p rfl)) ?_
        refine yab rfl rfl rfl (yau rfl (.p rfl) (.p rfl) rfl) ?_
        refine yab rfl rfl rfl (yae (p := .v (.int .i64 (IntKind.i64.wrap (v26 + 1)))) rfl (.p rfl)) ?_
        refine yaf ?_
        exact pk_loop hb33 (a94, c95) (zhc rfl (zhc rfl (zhc rfl (zhc rfl zhn)))) (zsc (zpt (zpt (zpt zph))) (zsc zph zsn))
   ·replace hb33 := yay hc35 hb33
    refine pwc_exit (pk_seq_exit ?_)
    refine pk_loop_exit hb33 (fun ht => ?_)
    refine pk_block_eq rfl ?_
    exact pk_mid ((a24, c25), l23) (zhc rfl zhn) (zsc (zpt zph) zsn) ht.symm
  ·rintro ⟨⟨a30, c31⟩, l32⟩ τ hz; (try dsimp only at hz); subst q34; (try dsimp only at h); dsimp only [pupds]
   refine yad (yaa ?_)
   refine yab rfl rfl rfl (yac (p := .v (.slice a30 l32.length c31)) rfl (.p rfl)) ?_
   refine yab rfl rfl rfl (yae (p := .v (.slice a30 l32.length c31)) rfl (.p rfl)) ?_
   refine yaf (yah ?_)
   refine pwc_frzt (css := List.map TMeasure.enc l32) 2 rfl (by exact zph) ?_
   refine yas ?_
   obtain rfl := Option.some.inj h
   exact yat (prv_1 (yav rfl)) zsn ⟨rfl, rfl⟩
def law20_AssessRelief (p0 : (List Int)) (p1 : (List Int)) (p2 : (List Int)) : Option Bool := Option.bind (made_Measures p0) (fun x1 => Option.bind (made_Item p1) (fun x2 => Option.bind (assess_Total x1 (⟨x2.Code, x2.Origin, false, x2.Company, x2.Day, x2.Quantity, x2.Value, x2.Granted⟩ : TItem)) (fun x4 => Option.bind (assess_Total x1 (⟨x2.Code, x2.Origin, true, x2.Company, x2.Day, x2.Quantity, x2.Value, x2.Granted⟩ : TItem)) (fun x5 => cond ((x4.2 != 0) || (x5.2 != 0)) (Option.bind (gd (((x4.2 == 0) || (x5.2 == x4.2)) || (x4.2 == 3)) (law20_awake)) (fun x7 => some ((((x4.2 == 0) || (x5.2 == x4.2)) || (x4.2 == 3)) && x7))) (cond (decide (x4.1 < x5.1)) (some false) (Option.bind (made_Measures p2) (fun x9 => cond ((x9.length : Int) == 0) (Option.bind (law20_awake) (fun x11 => some x11)) (Option.bind (idx x9 (IntKind.i64.wrap ((x9.length : Int) - 1))) (fun m12 => Option.bind (loopF (S := Int) (T := (Unit) ⊕ (_)) (fun v14 => cond (decide (v14 < (x1.length : Int))) (Option.bind (idx x1 v14) (fun m18 => cond (m18.Kind == m12.Kind) (Option.bind (law20_awake) (fun x20 => some (.inr (.inr x20)))) (some (.inl (IntKind.i64.wrap (v14 + 1)))))) (some (.inr (.inl ())))) FUEL 0) (fun q => match q with | .inl _ => Option.bind (app 144 ([] : List TMeasure) x1) (fun l23 => Option.bind (app 144 l23 [(⟨1000, m12.Kind, m12.Prefix, m12.Origins, m12.Company, m12.From, m12.To, m12.Registered, m12.Duty⟩ : TMeasure)]) (fun l29 => Option.bind (assess_Total l29 (⟨x2.Code, x2.Origin, true, x2.Company, x2.Day, x2.Quantity, x2.Value, x2.Granted⟩ : TItem)) (fun x32 => Option.bind (gd ((((x32.2 != 0) || (decide (m12.Kind < 2))) || (decide (4 < m12.Kind))) || (decide (x32.1 ≤ x5.1))) (law20_awake)) (fun x33 => some (((((x32.2 != 0) || (decide (m12.Kind < 2))) || (decide (4 < m12.Kind))) || (decide (x32.1 ≤ x5.1))) && x33))))) | .inr e => some e))))))))))
set_option maxHeartbeats 4000000 in
theorem law20_AssessRelief_ok {p0 : (List Int)} {p1 : (List Int)} {p2 : (List Int)} {r : Bool}  (h : law20_AssessRelief p0 p1 p2 = some r) : PF 7 [.slc (List.map eI p0), .slc (List.map eI p1), .slc (List.map eI p2)] (.v (.bool r)) := by
 unfold law20_AssessRelief at h
 refine pf_of ?_
 refine penter Tryz.func7 fk7 rfl Tryz.ntmps7 Tryz.results7 rfl ?_
 refine yad (yaa ?_)
 refine yab rfl rfl rfl (yae (p := .v (.bool false)) rfl (.p rfl)) ?_
 refine yaf (yah (yad (yaa ?_)))
 refine yab rfl rfl rfl (yac (p := .slc (List.map eI p0)) rfl (.p rfl)) ?_
 refine yai h ?_; clear h; intro x1 hx1 h
 refine pwl_call rfl rfl rfl rfl rfl (made_Measures_ok hx1) ?_
 refine yab rfl rfl rfl (yac (p := .slc (List.map eI p1)) rfl (.p rfl)) ?_
 refine yai h ?_; clear h; intro x2 hx2 h
 refine pwl_call rfl rfl rfl rfl rfl (made_Item_ok hx2) ?_
 refine pwl_l rfl rfl rfl (pl_alloc (cs := [.v (.string ByteArray.empty), .v (.string ByteArray.empty), .v (.bool false), .v (.int .i64 0), .v (.int .i64 0), .v (.int .i64 0), .v (.int .i64 0), .v (.int .i64 0)]) rfl rfl rfl rfl (fun b3 => ?_))
 refine yab rfl rfl rfl (yae (p := .slc (List.map TMeasure.enc x1)) rfl (.p rfl)) ?_
 refine pwl_l0 rfl rfl (yaw (vs := [.v (.string x2.Code), .v (.string x2.Origin), .v (.bool x2.Proof), .v (.int .i64 x2.Company), .v (.int .i64 x2.Day), .v (.int .i64 x2.Quantity), .v (.int .i64 x2.Value), .v (.int .i64 x2.Granted)]) rfl rfl rfl rfl rfl zuh (zlc (zlc (zlc (zlc (zlc (zlc (zlc (zlc zln)))))))) ?_)
 refine yaf (yah (yad (yaa ?_)))
 refine yab rfl rfl rfl (yag rfl rfl rfl rfl rfl (.p rfl)) ?_
 refine pwl_l0 rfl rfl (yaw (vs := [.v (.bool false)]) rfl rfl rfl rfl rfl zuh (zlt (zlt (zlc zln))) ?_)
 refine yaf (yah (yad (yaa ?_)))
 refine yab rfl rfl rfl (yac (p := .slc (List.map TMeasure.enc x1)) rfl (.p rfl)) ?_
 refine yab rfl rfl rfl (yaj (p := .agg [.v (.string x2.Code), .v (.string x2.Origin), .v (.bool false), .v (.int .i64 x2.Company), .v (.int .i64 x2.Day), .v (.int .i64 x2.Quantity), .v (.int .i64 x2.Value), .v (.int .i64 x2.Granted)]) rfl (.p rfl) zm0 rfl) ?_
 refine yai h ?_; clear h; intro x4 hx4 h
 refine pwl_call rfl rfl rfl rfl rfl (assess_Total_ok hx4) ?_
 refine yab rfl rfl rfl (yac (p := .tup [.v (.int .i64 x4.1), .v (.int .i64 x4.2)]) rfl (.p rfl)) ?_
 refine yab rfl rfl rfl (pq_extract (p := .v (.int .i64 x4.1)) rfl (.p rfl) rfl) ?_
 refine yab rfl rfl rfl (pq_extract (p := .v (.int .i64 x4.2)) rfl (.p rfl) rfl) ?_
 refine yab rfl rfl rfl (yae (p := .v (.int .i64 x4.1)) rfl (.p rfl)) ?_
 refine yab rfl rfl rfl (yae (p := .v (.int .i64 x4.2)) rfl (.p rfl)) ?_
 refine yaf (yah (yad (yaa ?_)))
 refine yab rfl rfl rfl (yag rfl rfl rfl rfl rfl (.p rfl)) ?_
 refine pwl_l0 rfl rfl (yaw (vs := [.v (.bool true)]) rfl rfl rfl rfl rfl zuh (zlt (zlt (zlc zln))) ?_)
 refine yaf (yah (yad (yaa ?_)))
 refine yab rfl rfl rfl (yac (p := .slc (List.map TMeasure.enc x1)) rfl (.p rfl)) ?_
 refine yab rfl rfl rfl (yaj (p := .agg [.v (.string x2.Code), .v (.string x2.Origin), .v (.bool true), .v (.int .i64 x2.Company), .v (.int .i64 x2.Day), .v (.int .i64 x2.Quantity), .v (.int .i64 x2.Value), .v (.int .i64 x2.Granted)]) rfl (.p rfl) zm0 rfl) ?_
 refine yai h ?_; clear h; intro x5 hx5 h
 refine pwl_call rfl rfl rfl rfl rfl (assess_Total_ok hx5) ?_
 refine yab rfl rfl rfl (yac (p := .tup [.v (.int .i64 x5.1), .v (.int .i64 x5.2)]) rfl (.p rfl)) ?_
 refine yab rfl rfl rfl (pq_extract (p := .v (.int .i64 x5.1)) rfl (.p rfl) rfl) ?_
 refine yab rfl rfl rfl (pq_extract (p := .v (.int .i64 x5.2)) rfl (.p rfl) rfl) ?_
 refine yab rfl rfl rfl (yae (p := .v (.int .i64 x5.1)) rfl (.p rfl)) ?_
 refine yab rfl rfl rfl (yae (p := .v (.int .i64 x5.2)) rfl (.p rfl)) ?_
 refine yaf (yah (yad (yad (yaa ?_))))
 refine yab rfl rfl rfl (yac (p := .v (.int .i64 x4.2)) rfl (.p rfl)) ?_
 refine yab rfl rfl rfl (yap rfl (.p rfl) (.p rfl) rfl) ?_
 refine yab rfl rfl rfl (yac (p := .v (.bool (x4.2 != 0))) rfl (.p rfl)) ?_
 refine yal (yak rfl rfl rfl) rfl rfl (yac (p := .v (.int .i64 x5.2)) rfl (.p rfl)) ?_
 refine yal (yak rfl rfl rfl) rfl rfl (yap rfl (.g rfl) (.p rfl) rfl) ?_
 refine yab rfl rfl rfl (pq_or rfl (.p rfl) (.p rfl) (.g rfl)) ?_
 refine yaf (yah ?_)
 refine yam rfl (fun hc6 => ?_) (fun hc6 => ?_)
 ·replace h := yax hc6 h
  refine yad (yaa ?_)
  refine yab rfl rfl rfl (yac (p := .v (.int .i64 x4.2)) rfl (.p rfl)) ?_
  refine yab rfl rfl rfl (yap rfl (.p rfl) (.p rfl) rfl) ?_
  refine yab rfl rfl rfl (yac (p := .v (.bool (x4.2 == 0))) rfl (.p rfl)) ?_
  refine yal (yak rfl rfl rfl) rfl rfl (yac (p := .v (.int .i64 x5.2)) rfl (.p rfl)) ?_
  refine yal (yak rfl rfl rfl) rfl rfl (yac (p := .v (.int .i64 x4.2)) rfl (.p rfl)) ?_
  refine yal (yak rfl rfl rfl) rfl rfl (yap rfl (.g rfl) (.g rfl) rfl) ?_
  refine yab rfl rfl rfl (pq_or rfl (.p rfl) (.p rfl) (.g rfl)) ?_
  refine yab rfl rfl rfl (yac (p := .v (.bool ((x4.2 == 0) || (x5.2 == x4.2)))) rfl (.p rfl)) ?_
  refine yal (yak rfl rfl rfl) rfl rfl (yac (p := .v (.int .i64 x4.2)) rfl (.p rfl)) ?_
  refine yal (yak rfl rfl rfl) rfl rfl (yap rfl (.g rfl) (.p rfl) rfl) ?_
  refine yab rfl rfl rfl (pq_or rfl (.p rfl) (.p rfl) (.g rfl)) ?_
  refine yab rfl rfl rfl (yac (p := .v (.bool (((x4.2 == 0) || (x5.2 == x4.2)) || (x4.2 == 3)))) rfl (.p rfl)) ?_
  refine yai h ?_; clear h; intro x7 hx7 h
  refine pwl_callg (yar rfl rfl rfl) rfl rfl rfl (pargs_nil) (fun hc => law20_awake_ok (gd_t hx7 hc)) ?_
  refine yab rfl rfl rfl (pq_and rfl (.p rfl) (.p rfl) (.g rfl)) ?_
  refine yab rfl rfl rfl (yae (p := .v (.bool ((((x4.2 == 0) || (x5.2 == x4.2)) || (x4.2 == 3)) && x7))) rfl (.p rfl)) ?_
  refine yaf (yah (yas (yaq ?_)))
  obtain rfl := Option.some.inj h
  exact yat (prv_1 (yav rfl)) zsn ⟨rfl, rfl⟩
 ·replace h := yay hc6 h
  refine yan (yah (yad (yad (yaa ?_))))
  refine yab rfl rfl rfl (yac (p := .v (.int .i64 x5.1)) rfl (.p rfl)) ?_
  refine yab rfl rfl rfl (yac (p := .v (.int .i64 x4.1)) rfl (.p rfl)) ?_
  refine yab rfl rfl rfl (yap rfl (.p rfl) (.p rfl) rfl) ?_
  refine yaf (yah ?_)
  refine yam rfl (fun hc8 => ?_) (fun hc8 => ?_)
  ·replace h := yax hc8 h
   refine yad (yaa ?_)
   refine yab rfl rfl rfl (yae (p := .v (.bool false)) rfl (.p rfl)) ?_
   refine yaf (yah (yas (yaq ?_)))
   obtain rfl := Option.some.inj h
   exact yat (prv_1 (yav rfl)) zsn ⟨rfl, rfl⟩
  ·replace h := yay hc8 h
   refine yan (yah (yad (yaa ?_)))
   refine yab rfl rfl rfl (yac (p := .slc (List.map eI p2)) rfl (.p rfl)) ?_
   refine yai h ?_; clear h; intro x9 hx9 h
   refine pwl_call rfl rfl rfl rfl rfl (made_Measures_ok hx9) ?_
   refine yab rfl rfl rfl (yae (p := .slc (List.map TMeasure.enc x9)) rfl (.p rfl)) ?_
   refine yaf (yah (yad (yad (yaa ?_))))
   refine yab rfl rfl rfl (yac (p := .slc (List.map TMeasure.enc x9)) rfl (.p rfl)) ?_
   refine yab rfl rfl rfl (pq_lenT (enc := TMeasure.enc) rfl rfl (.p rfl)) ?_
   refine yab rfl rfl rfl (yap rfl (.p rfl) (.p rfl) rfl) ?_
   refine yaf (yah ?_)
   refine yam rfl (fun hc10 => ?_) (fun hc10 => ?_)
   ·replace h := yax hc10 h
    refine yad (yaa ?_)
    refine yai h ?_; clear h; intro x11 hx11 h
    refine pwl_call rfl rfl rfl rfl rfl (law20_awake_ok hx11) ?_
    refine yab rfl rfl rfl (yae (p := .v (.bool x11)) rfl (.p rfl)) ?_
    refine yaf (yah (yas (yaq ?_)))
    obtain rfl := Option.some.inj h
    exact yat (prv_1 (yav rfl)) zsn ⟨rfl, rfl⟩
   ·replace h := yay hc10 h
    refine yan (yah (yad (yaa ?_)))
    refine yab rfl rfl rfl (yac (p := .slc (List.map TMeasure.enc x9)) rfl (.p rfl)) ?_
    refine yab rfl rfl rfl (yac (p := .slc (List.map TMeasure.enc x9)) rfl (.p rfl)) ?_
    refine yab rfl rfl rfl (pq_lenT (enc := TMeasure.enc) rfl rfl (.p rfl)) ?_
    refine yab rfl rfl rfl (yau rfl (.p rfl) (.p rfl) rfl) ?_
    refine yai h ?_; clear h; intro m12 hm12 h
    refine yab rfl rfl rfl (pq_index (enc := TMeasure.enc) rfl rfl rfl (fun _ => rfl) (.p rfl) (.p rfl) (fun _ => hm12)) ?_
    refine yab rfl rfl rfl (pq_load_r (p := .agg [.v (.int .i64 m12.ID), .v (.int .i64 m12.Kind), .v (.string m12.Prefix), .slc (List.map eS m12.Origins), .v (.int .i64 m12.Company), .v (.int .i64 m12.From), .v (.int .i64 m12.To), .v (.int .i64 m12.Registered), .v (.int .i64 m12.Duty.Rate), .v (.int .i64 m12.Duty.Amount), .v (.int .i64 m12.Duty.Per), .v (.bool m12.Duty.HasMost), .v (.int .i64 m12.Duty.Most), .v (.bool m12.Duty.HasLeast), .v (.int .i64 m12.Duty.Least)]) rfl (.p rfl) rfl) ?_
    refine pwl_l rfl rfl rfl (pl_alloc (cs := [.v (.int .i64 0), .v (.int .i64 0), .v (.string ByteArray.empty), .v (.slice none 0 0), .v (.int .i64 0), .v (.int .i64 0), .v (.int .i64 0), .v (.int .i64 0), .v (.int .i64 0), .v (.int .i64 0), .v (.int .i64 0), .v (.bool false), .v (.int .i64 0), .v (.bool false), .v (.int .i64 0)]) rfl rfl rfl rfl (fun b13 => ?_))
    refine pwl_l0 rfl rfl (yaw (vs := [.v (.int .i64 m12.ID), .v (.int .i64 m12.Kind), .v (.string m12.Prefix), .slc (List.map eS m12.Origins), .v (.int .i64 m12.Company), .v (.int .i64 m12.From), .v (.int .i64 m12.To), .v (.int .i64 m12.Registered), .v (.int .i64 m12.Duty.Rate), .v (.int .i64 m12.Duty.Amount), .v (.int .i64 m12.Duty.Per), .v (.bool m12.Duty.HasMost), .v (.int .i64 m12.Duty.Most), .v (.bool m12.Duty.HasLeast), .v (.int .i64 m12.Duty.Least)]) rfl rfl rfl rfl rfl zuh (zlc (zlc (zlc (zlc (zlc (zlc (zlc (zlc (zlc (zlc (zlc (zlc (zlc (zlc (zlc zln))))))))))))))) ?_)
    refine yaf (yah (yad (yaa ?_)))
    refine yab rfl rfl rfl (yag rfl rfl rfl rfl rfl (.p rfl)) ?_
    refine pwl_l0 rfl rfl (yaw (vs := [.v (.int .i64 1000)]) rfl rfl rfl rfl rfl zuh (zlc zln) ?_)
    refine yaf (yah (yad (yad (yaa ?_))))
    refine yab rfl rfl rfl (yae (p := .v (.int .i64 0)) rfl (.p rfl)) ?_
    refine yaf (yah ?_)
    refine yai h ?_; clear h; intro q16 hq16 h
    refine pwc_join (Y := (Unit) × (Unit)) (fun (_, _) => [(7, .slc (List.map TMeasure.enc x1)), (8, .v (.pointer (some ⟨b3, 0, none⟩))), (11, .v (.int .i64 x5.1)), (14, .v (.pointer (some ⟨b13, 0, none⟩)))]) (fun (_, _) => [PRes.b b13 46 [.v (.int .i64 1000), .v (.int .i64 m12.Kind), .v (.string m12.Prefix), .slc (List.map eS m12.Origins), .v (.int .i64 m12.Company), .v (.int .i64 m12.From), .v (.int .i64 m12.To), .v (.int .i64 m12.Registered), .v (.int .i64 m12.Duty.Rate), .v (.int .i64 m12.Duty.Amount), .v (.int .i64 m12.Duty.Per), .v (.bool m12.Duty.HasMost), .v (.int .i64 m12.Duty.Most), .v (.bool m12.Duty.HasLeast), .v (.int .i64 m12.Duty.Least)], PRes.b b3 23 [.v (.string x2.Code), .v (.string x2.Origin), .v (.bool true), .v (.int .i64 x2.Company), .v (.int .i64 x2.Day), .v (.int .i64 x2.Quantity), .v (.int .i64 x2.Value), .v (.int .i64 x2.Granted)]]) (fun (_, _) => q16 = Sum.inl ()) ?_ ?_
    ·refine pwc_block ?_
     refine pwc_loopF (Y := Unit) (S := Int) _ hq16 (fun _ v14 => [(7, .slc (List.map TMeasure.enc x1)), (8, .v (.pointer (some ⟨b3, 0, none⟩))), (11, .v (.int .i64 x5.1)), (14, .v (.pointer (some ⟨b13, 0, none⟩))), (15, .v (.int .i64 v14))]) (fun _ v14 => [PRes.b b13 46 [.v (.int .i64 1000), .v (.int .i64 m12.Kind), .v (.string m12.Prefix), .slc (List.map eS m12.Origins), .v (.int .i64 m12.Company), .v (.int .i64 m12.From), .v (.int .i64 m12.To), .v (.int .i64 m12.Registered), .v (.int .i64 m12.Duty.Rate), .v (.int .i64 m12.Duty.Amount), .v (.int .i64 m12.Duty.Per), .v (.bool m12.Duty.HasMost), .v (.int .i64 m12.Duty.Most), .v (.bool m12.Duty.HasLeast), .v (.int .i64 m12.Duty.Least)], PRes.b b3 23 [.v (.string x2.Code), .v (.string x2.Origin), .v (.bool true), .v (.int .i64 x2.Company), .v (.int .i64 x2.Day), .v (.int .i64 x2.Quantity), .v (.int .i64 x2.Value), .v (.int .i64 x2.Granted)]]) () (zhc rfl (zhc rfl (zhc rfl (zhc rfl (zhc rfl zhn))))) (zsc zph (zsc zph zsn)) ?_
     rintro _ v14 o τ hb15; (try dsimp only at hb15); dsimp only [pupds]
     refine yad (yad (yaa ?_))
     refine yab rfl rfl rfl (yac (p := .v (.int .i64 v14)) rfl (.p rfl)) ?_
     refine yab rfl rfl rfl (yac (p := .slc (List.map TMeasure.enc x1)) rfl (.p rfl)) ?_
     refine yab rfl rfl rfl (pq_lenT (enc := TMeasure.enc) rfl rfl (.p rfl)) ?_
     refine yab rfl rfl rfl (yap rfl (.p rfl) (.p rfl) rfl) ?_
     refine yaf (yah ?_)
     refine yam rfl (fun hc17 => ?_) (fun hc17 => ?_)
     ·replace hb15 := yax hc17 hb15
      refine yan (yah (yad (pwc_block (yad ?_))))
      refine pwc_draw (ρd := []) [(0, 0), (1, 0), (2, 0), (3, 0), (4, 0), (5, 0), (6, 0), (7, 0)] _ (List.Perm.refl _) (by kernel_rfl) rfl ?_
      refine pwd_q rfl rfl rfl (yac (p := .slc (List.map TMeasure.enc x1)) rfl (.p rfl)) ?_
      refine pwd_q rfl rfl rfl (yac (p := .v (.int .i64 v14)) rfl (.p rfl)) ?_
      refine yai hb15 ?_; clear hb15; intro m18 hm18 hb15
      refine pwd_q rfl rfl rfl (pq_index (enc := TMeasure.enc) rfl rfl rfl (fun _ => rfl) (.p rfl) (.p rfl) (fun _ => hm18)) ?_
      refine pwd_q rfl rfl rfl (pq_fieldAddrR rfl rfl rfl rfl rfl (.p rfl)) ?_
      refine pwd_q rfl rfl rfl (pq_load_r (p := .v (.int .i64 m18.Kind)) rfl (.p rfl) rfl) ?_
      refine pwd_q rfl rfl rfl (yag rfl rfl rfl rfl rfl (.p rfl)) ?_
      refine pwd_q rfl rfl rfl (yaj (p := .v (.int .i64 m12.Kind)) rfl (.p rfl) zm0 rfl) ?_
      refine pwd_q rfl rfl rfl (yap rfl (.p rfl) (.p rfl) rfl) ?_
      refine pwd_nil (yah ?_)
      refine yam rfl (fun hc19 => ?_) (fun hc19 => ?_)
      ·replace hb15 := yax hc19 hb15
       refine yad (yaa ?_)
       refine yai hb15 ?_; clear hb15; intro x20 hx20 hb15
       refine pwl_call rfl rfl rfl rfl rfl (law20_awake_ok hx20) ?_
       refine yab rfl rfl rfl (yae (p := .v (.bool x20)) rfl (.p rfl)) ?_
       refine yaf (yah (yas (yaz (yaq ?_))))
       refine pk_loop_ret hb15 (fun ht => ?_); subst ht
       have h := (show some _ = some _ from h)
       refine yaz (pk_mid_ret ?_)
       obtain rfl := Option.some.inj h
       exact yat (prv_1 (yav rfl)) zsn ⟨rfl, rfl⟩
      ·replace hb15 := yay hc19 hb15
       refine yan (pk_block_n (yah (yaa ?_)))
       refine yab rfl rfl rfl (yac (p := .v (.int .i64 v14)) rfl (.p rfl)) ?_
       refine yab rfl rfl rfl (yau rfl (.p rfl) (.p rfl) rfl) ?_
       refine yab rfl rfl rfl (yae (p := .v (.int .i64 (IntKind.i64.wrap (v14 + 1)))) rfl (.p rfl)) ?_
       refine yaf ?_
       exact pk_loop hb15 () (zhc rfl (zhc rfl (zhc rfl (zhc rfl (zhc rfl zhn))))) (zsc zph (zsc zph zsn))
     ·replace hb15 := yay hc17 hb15
      refine pwc_exit (pk_seq_exit ?_)
      refine pk_loop_exit hb15 (fun ht => ?_)
      refine pk_block_eq rfl ?_
      exact pk_mid ((), ()) (zhc rfl (zhc rfl (zhc rfl (zhc rfl zhn)))) (zsc zph (zsc zph zsn)) ht.symm
    ·rintro ⟨_, _⟩ τ hz; (try dsimp only at hz); subst q16; (try dsimp only at h); dsimp only [pupds]
     refine yad ?_
     refine pwc_draw (ρd := []) [(1, 0), (3, 0), (4, 3), (6, 0), (0, 1), (2, 1), (4, 2), (5, 1), (7, 1), (8, 0), (9, 0), (10, 0), (11, 0), (12, 0)] _ (List.Perm.refl _) (by kernel_rfl) rfl ?_
     refine pwd_q rfl rfl rfl (yac (p := .slc (List.map TMeasure.enc x1)) rfl (.p rfl)) ?_
     refine pwd_q rfl rfl rfl (yaj (p := .agg [.v (.int .i64 1000), .v (.int .i64 m12.Kind), .v (.string m12.Prefix), .slc (List.map eS m12.Origins), .v (.int .i64 m12.Company), .v (.int .i64 m12.From), .v (.int .i64 m12.To), .v (.int .i64 m12.Registered), .v (.int .i64 m12.Duty.Rate), .v (.int .i64 m12.Duty.Amount), .v (.int .i64 m12.Duty.Per), .v (.bool m12.Duty.HasMost), .v (.int .i64 m12.Duty.Most), .v (.bool m12.Duty.HasLeast), .v (.int .i64 m12.Duty.Least)]) rfl (.p rfl) zm0 rfl) ?_
     refine pwd_tell (plate_lit rfl rfl rfl rfl rfl (zic rfl zin) rfl rfl rfl) ?_
     refine pwd_q rfl rfl rfl (yaj (p := .agg [.v (.string x2.Code), .v (.string x2.Origin), .v (.bool true), .v (.int .i64 x2.Company), .v (.int .i64 x2.Day), .v (.int .i64 x2.Quantity), .v (.int .i64 x2.Value), .v (.int .i64 x2.Granted)]) rfl (.p rfl) zm1 rfl) ?_
     refine pwd_l rfl rfl rfl (pl_lit rfl rfl rfl rfl rfl zin rfl rfl rfl rfl (fun b21 => ?_))
     refine yai h ?_; clear h; intro l23 hl23 h
     refine pwd_l rfl rfl rfl (pl_app_s (enc := TMeasure.enc) rfl rfl rfl rfl rfl (fun _ => rfl) rfl rfl rfl (by exact zph) hl23 (fun a24 c25 => ?_))
     refine pwd_late (plate_lit rfl rfl rfl rfl rfl (zic rfl zin) rfl rfl rfl) (fun _ => rfl) rfl (fun b27 => ?_)
     refine yai h ?_; clear h; intro l29 hl29 h
     refine pwd_l rfl rfl rfl (pl_fz (pl_app_b (enc := TMeasure.enc) rfl rfl rfl rfl rfl (fun _ => rfl) rfl rfl rfl rfl zm0 rfl (by exact zpt zph) hl29 (fun a30 c31 => ⟨_, _, _, _, _, _, _, rfl, by (repeat (first | exact zph | apply zpt)), ?_⟩)))
     refine yai h ?_; clear h; intro x32 hx32 h
     refine pwd_call rfl rfl rfl rfl rfl (assess_Total_ok hx32) ?_
     refine pwd_q rfl rfl rfl (yac (p := .tup [.v (.int .i64 x32.1), .v (.int .i64 x32.2)]) rfl (.p rfl)) ?_
     refine pwd_q rfl rfl rfl (pq_extract (p := .v (.int .i64 x32.1)) rfl (.p rfl) rfl) ?_
     refine pwd_q rfl rfl rfl (pq_extract (p := .v (.int .i64 x32.2)) rfl (.p rfl) rfl) ?_
     refine pwd_q rfl rfl rfl (yae (p := .v (.int .i64 x32.1)) rfl (.p rfl)) ?_
     refine pwd_q rfl rfl rfl (yae (p := .v (.int .i64 x32.2)) rfl (.p rfl)) ?_
     refine pwd_nil (yah (yad (yaa ?_)))
     refine yab rfl rfl rfl (yac (p := .v (.int .i64 x32.2)) rfl (.p rfl)) ?_
     refine yab rfl rfl rfl (yap rfl (.p rfl) (.p rfl) rfl) ?_
     refine yab rfl rfl rfl (yac (p := .v (.bool (x32.2 != 0))) rfl (.p rfl)) ?_
     refine yal (yak rfl rfl rfl) rfl rfl (yag rfl rfl rfl rfl rfl (.p rfl)) ?_
     refine yal (yak rfl rfl rfl) rfl rfl (yaj (p := .v (.int .i64 m12.Kind)) rfl (.g rfl) zm1 rfl) ?_
     refine yal (yak rfl rfl rfl) rfl rfl (yap rfl (.g rfl) (.p rfl) rfl) ?_
     refine yab rfl rfl rfl (pq_or rfl (.p rfl) (.p rfl) (.g rfl)) ?_
     refine yab rfl rfl rfl (yac (p := .v (.bool ((x32.2 != 0) || (decide (m12.Kind < 2))))) rfl (.p rfl)) ?_
     refine yal (yak rfl rfl rfl) rfl rfl (yag rfl rfl rfl rfl rfl (.p rfl)) ?_
     refine yal (yak rfl rfl rfl) rfl rfl (yaj (p := .v (.int .i64 m12.Kind)) rfl (.g rfl) zm1 rfl) ?_
     refine yal (yak rfl rfl rfl) rfl rfl (yap rfl (.g rfl) (.p rfl) rfl) ?_
     refine yab rfl rfl rfl (pq_or rfl (.p rfl) (.p rfl) (.g rfl)) ?_
     refine yab rfl rfl rfl (yac (p := .v (.bool (((x32.2 != 0) || (decide (m12.Kind < 2))) || (decide (4 < m12.Kind))))) rfl (.p rfl)) ?_
     refine yal (yak rfl rfl rfl) rfl rfl (yac (p := .v (.int .i64 x32.1)) rfl (.p rfl)) ?_
     refine yal (yak rfl rfl rfl) rfl rfl (yac (p := .v (.int .i64 x5.1)) rfl (.p rfl)) ?_
     refine yal (yak rfl rfl rfl) rfl rfl (yap rfl (.g rfl) (.g rfl) rfl) ?_
     refine yab rfl rfl rfl (pq_or rfl (.p rfl) (.p rfl) (.g rfl)) ?_
     refine yab rfl rfl rfl (yac (p := .v (.bool ((((x32.2 != 0) || (decide (m12.Kind < 2))) || (decide (4 < m12.Kind))) || (decide (x32.1 ≤ x5.1))))) rfl (.p rfl)) ?_
     refine yai h ?_; clear h; intro x33 hx33 h
     refine pwl_callg (yar rfl rfl rfl) rfl rfl rfl (pargs_nil) (fun hc => law20_awake_ok (gd_t hx33 hc)) ?_
     refine yab rfl rfl rfl (pq_and rfl (.p rfl) (.p rfl) (.g rfl)) ?_
     refine yab rfl rfl rfl (yae (p := .v (.bool (((((x32.2 != 0) || (decide (m12.Kind < 2))) || (decide (4 < m12.Kind))) || (decide (x32.1 ≤ x5.1))) && x33))) rfl (.p rfl)) ?_
     refine yaf (yah (yas ?_))
     obtain rfl := Option.some.inj h
     exact yat (prv_1 (yav rfl)) zsn ⟨rfl, rfl⟩
end SX
end Go.Proofs.YtfcecieppoljlaaGreatDoor
