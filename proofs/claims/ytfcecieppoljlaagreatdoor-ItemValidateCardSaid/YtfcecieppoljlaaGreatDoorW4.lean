/- Walks: 95, 93, 62, 40, 36, 35, 12, 17, 19, 15, 3. No statement of the seat is proved here. Written by our program gen.py. -/
import Derived.Test.YtfcecieppoljlaaGreatDoorW3
set_option maxRecDepth 100000
namespace Go.Proofs.YtfcecieppoljlaaGreatDoor
namespace SX
open Go
attribute [local irreducible] PWL PWC PWD POpL POpQ PEv PGuardIs PSub PPick PUpd PSplice PFill PLit PF PFV PCall pseqK pblockK pmidK pcutK ploopK pretK Cov PHolds loopF idx app mk gd lb nz ge0 cat sub ssub iand ior ixor ishl ishr imin imax IntKind.wrap Int.tmod Int.tdiv Op.bytesLess strOfNums
/-- customs/exact.Add -/
def exact_Add (p0 : Texact_Wide) (p1 : Texact_Wide) : Option (Texact_Wide × Int) := Option.bind (math_bits_Add64 p0.Lo p1.Lo 0) (fun x4 => Option.bind (math_bits_Add64 p0.Hi p1.Hi x4.2) (fun x5 => cond (x5.2 != 0) (some ((⟨0, 0⟩ : Texact_Wide), 3)) (some ((⟨x5.1, x4.1⟩ : Texact_Wide), 0))))
set_option maxHeartbeats 4000000 in
theorem exact_Add_ok {p0 : Texact_Wide} {p1 : Texact_Wide} {r : (Texact_Wide × Int)}  (h : exact_Add p0 p1 = some r) : PF 95 [.agg [.v (.int .u64 p0.Hi), .v (.int .u64 p0.Lo)], .agg [.v (.int .u64 p1.Hi), .v (.int .u64 p1.Lo)]] (.tup [.agg [.v (.int .u64 r.1.Hi), .v (.int .u64 r.1.Lo)], .v (.int .i64 r.2)]) := by
  unfold exact_Add at h
  refine pf_of ?_
  refine penter Tryz.func95 fk95 rfl Tryz.ntmps95 Tryz.results95 rfl ?_
  refine pwc_seq ?_
  refine pwc_region ?_
  refine pwl_l rfl rfl rfl (pl_box (cs := [.v (.int .u64 p0.Hi), .v (.int .u64 p0.Lo)]) rfl rfl (fun b1 => ?_))
  refine pwl_l rfl rfl rfl (pl_box (cs := [.v (.int .u64 p1.Hi), .v (.int .u64 p1.Lo)]) rfl rfl (fun b2 => ?_))
  refine pwl_l rfl rfl rfl (pl_alloc (cs := [.v (.int .u64 0), .v (.int .u64 0)]) rfl rfl rfl rfl (fun b3 => ?_))
  refine pwl_q rfl rfl rfl (pq_assign (p := .v (.int .i64 0)) rfl (.p rfl)) ?_
  refine pwl_nil ?_
  (repeat (first | apply pk_block_n | apply pk_seq))
  refine pwc_seq ?_
  refine pwc_region ?_
  refine pwl_q rfl rfl rfl (pq_fieldAddr rfl rfl rfl rfl rfl (.p rfl)) ?_
  refine pwl_q rfl rfl rfl (pq_load_b (p := .v (.int .u64 p0.Lo)) rfl (.p rfl) (by (repeat (first | exact List.Mem.head _ | apply List.Mem.tail))) rfl) ?_
  refine pwl_q rfl rfl rfl (pq_fieldAddr rfl rfl rfl rfl rfl (.p rfl)) ?_
  refine pwl_q rfl rfl rfl (pq_load_b (p := .v (.int .u64 p1.Lo)) rfl (.p rfl) (by (repeat (first | exact List.Mem.head _ | apply List.Mem.tail))) rfl) ?_
  refine bind_elim h ?_; clear h; intro x4 hx4 h
  refine pwl_l rfl rfl rfl (pl_add64 rfl rfl hx4 ?_)
  refine pwl_q rfl rfl rfl (pq_move (p := .tup [.v (.int .u64 x4.1), .v (.int .u64 x4.2)]) rfl (.p rfl)) ?_
  refine pwl_q rfl rfl rfl (pq_extract (p := .v (.int .u64 x4.1)) rfl (.p rfl) rfl) ?_
  refine pwl_q rfl rfl rfl (pq_extract (p := .v (.int .u64 x4.2)) rfl (.p rfl) rfl) ?_
  refine pwl_q rfl rfl rfl (pq_assign (p := .v (.int .u64 x4.1)) rfl (.p rfl)) ?_
  refine pwl_q rfl rfl rfl (pq_assign (p := .v (.int .u64 x4.2)) rfl (.p rfl)) ?_
  refine pwl_nil ?_
  (repeat (first | apply pk_block_n | apply pk_seq))
  refine pwc_seq ?_
  refine pwc_region ?_
  refine pwl_q rfl rfl rfl (pq_fieldAddr rfl rfl rfl rfl rfl (.p rfl)) ?_
  refine pwl_q rfl rfl rfl (pq_load_b (p := .v (.int .u64 p0.Hi)) rfl (.p rfl) (by (repeat (first | exact List.Mem.head _ | apply List.Mem.tail))) rfl) ?_
  refine pwl_q rfl rfl rfl (pq_fieldAddr rfl rfl rfl rfl rfl (.p rfl)) ?_
  refine pwl_q rfl rfl rfl (pq_load_b (p := .v (.int .u64 p1.Hi)) rfl (.p rfl) (by (repeat (first | exact List.Mem.head _ | apply List.Mem.tail))) rfl) ?_
  refine pwl_q rfl rfl rfl (pq_move (p := .v (.int .u64 x4.2)) rfl (.p rfl)) ?_
  refine bind_elim h ?_; clear h; intro x5 hx5 h
  refine pwl_l rfl rfl rfl (pl_add64 rfl rfl hx5 ?_)
  refine pwl_q rfl rfl rfl (pq_move (p := .tup [.v (.int .u64 x5.1), .v (.int .u64 x5.2)]) rfl (.p rfl)) ?_
  refine pwl_q rfl rfl rfl (pq_extract (p := .v (.int .u64 x5.1)) rfl (.p rfl) rfl) ?_
  refine pwl_q rfl rfl rfl (pq_extract (p := .v (.int .u64 x5.2)) rfl (.p rfl) rfl) ?_
  refine pwl_q rfl rfl rfl (pq_assign (p := .v (.int .u64 x5.1)) rfl (.p rfl)) ?_
  refine pwl_q rfl rfl rfl (pq_assign (p := .v (.int .u64 x5.2)) rfl (.p rfl)) ?_
  refine pwl_nil ?_
  (repeat (first | apply pk_block_n | apply pk_seq))
  refine pwc_seq ?_
  refine pwc_seq ?_
  refine pwc_region ?_
  refine pwl_q rfl rfl rfl (pq_move (p := .v (.int .u64 x5.2)) rfl (.p rfl)) ?_
  refine pwl_q rfl rfl rfl (pq_cmp rfl (.p rfl) (.p rfl) rfl) ?_
  refine pwl_nil ?_
  (repeat (first | apply pk_block_n | apply pk_seq))
  refine pwc_cond rfl (fun hc6 => ?_) (fun hc6 => ?_)
  · replace h := cond_t hc6 h
    refine pwc_seq ?_
    refine pwc_region ?_
    refine pwl_q rfl rfl rfl (pq_build (cs := [.v (.int .u64 0), .v (.int .u64 0)]) rfl rfl rfl rfl rfl rfl rfl (by (repeat (first | exact PFill.nil | (apply PFill.cons rfl rfl rfl rfl; (focus (repeat (first | exact PSplice.nil | apply PSplice.c | apply PSplice.t)))))))) ?_
    refine pwl_l0 rfl rfl (pl_store (vs := [.v (.int .u64 0), .v (.int .u64 0)]) rfl rfl rfl rfl rfl (by (repeat (first | exact PUpd.h | apply PUpd.t))) (by (repeat (first | exact PSplice.nil | apply PSplice.c | apply PSplice.t))) ?_)
    refine pwl_q rfl rfl rfl (pq_assign (p := .v (.int .i64 3)) rfl (.p rfl)) ?_
    refine pwl_nil ?_
    (repeat (first | apply pk_block_n | apply pk_seq))
    refine pwc_ret ?_
    (repeat (first | apply pk_seq_ret | apply pk_block_ret | apply pk_mid_ret | apply pk_cut_ret))
    obtain rfl := Option.some.inj h
    exact pret_of (prv_2 (prv1_c rfl (by (repeat (first | exact List.Mem.head _ | apply List.Mem.tail))) rfl) (prv1_t rfl)) PSub.nil ⟨rfl, rfl⟩
  · replace h := cond_f hc6 h
    refine pwc_skip ?_
    (repeat (first | apply pk_block_n | apply pk_seq))
    refine pwc_seq ?_
    refine pwc_region ?_
    refine pwl_q rfl rfl rfl (pq_move (p := .v (.int .u64 x5.1)) rfl (.p rfl)) ?_
    refine pwl_q rfl rfl rfl (pq_move (p := .v (.int .u64 x4.1)) rfl (.p rfl)) ?_
    refine pwl_q rfl rfl rfl (pq_build (cs := [.v (.int .u64 x5.1), .v (.int .u64 x4.1)]) rfl rfl rfl rfl rfl rfl rfl (by (repeat (first | exact PFill.nil | (apply PFill.cons rfl rfl rfl rfl; (focus (repeat (first | exact PSplice.nil | apply PSplice.c | apply PSplice.t)))))))) ?_
    refine pwl_l0 rfl rfl (pl_store (vs := [.v (.int .u64 x5.1), .v (.int .u64 x4.1)]) rfl rfl rfl rfl rfl (by (repeat (first | exact PUpd.h | apply PUpd.t))) (by (repeat (first | exact PSplice.nil | apply PSplice.c | apply PSplice.t))) ?_)
    refine pwl_q rfl rfl rfl (pq_assign (p := .v (.int .i64 0)) rfl (.p rfl)) ?_
    refine pwl_nil ?_
    (repeat (first | apply pk_block_n | apply pk_seq))
    refine pwc_ret ?_
    (repeat (first | apply pk_seq_ret | apply pk_block_ret | apply pk_mid_ret | apply pk_cut_ret))
    obtain rfl := Option.some.inj h
    exact pret_of (prv_2 (prv1_c rfl (by (repeat (first | exact List.Mem.head _ | apply List.Mem.tail))) rfl) (prv1_t rfl)) PSub.nil ⟨rfl, rfl⟩
/-- customs/duty.Evaluate$1 -/
def duty_Evaluate_1 (p0 : Int) (p1 : Int) (p2 : Int) : Option Texact_Wide := Option.bind (exact_Mul (IntKind.u64.wrap ((IntKind.u64.wrap p0) * (IntKind.u64.wrap p1))) p2) (fun x2 => some x2)
set_option maxHeartbeats 4000000 in
theorem duty_Evaluate_1_ok {p0 : Int} {p1 : Int} {p2 : Int} {r : Texact_Wide}  (h : duty_Evaluate_1 p0 p1 p2 = some r) : PF 93 [.v (.int .i64 p0), .ref [.v (.int .i64 p1)] 0, .ref [.v (.int .u64 p2)] 0] (.agg [.v (.int .u64 r.Hi), .v (.int .u64 r.Lo)]) := by
  unfold duty_Evaluate_1 at h
  refine pf_of ?_
  refine penter Tryz.func93 fk93 rfl Tryz.ntmps93 Tryz.results93 rfl ?_
  refine pwc_seq ?_
  refine pwc_region ?_
  refine pwl_l rfl rfl rfl (pl_alloc (cs := [.v (.int .u64 0), .v (.int .u64 0)]) rfl rfl rfl rfl (fun b1 => ?_))
  refine pwl_nil ?_
  (repeat (first | apply pk_block_n | apply pk_seq))
  refine pwc_seq ?_
  refine pwc_region ?_
  refine pwl_q rfl rfl rfl (pq_move (p := .v (.int .i64 p0)) rfl (.p rfl)) ?_
  refine pwl_q rfl rfl rfl (pq_conv rfl rfl rfl (.p rfl)) ?_
  refine pwl_q rfl rfl rfl (pq_load_r (p := .v (.int .i64 p1)) rfl (.p rfl) rfl) ?_
  refine pwl_q rfl rfl rfl (pq_conv rfl rfl rfl (.p rfl)) ?_
  refine pwl_q rfl rfl rfl (pq_arith rfl (.p rfl) (.p rfl) rfl) ?_
  refine pwl_q rfl rfl rfl (pq_load_r (p := .v (.int .u64 p2)) rfl (.p rfl) rfl) ?_
  refine bind_elim h ?_; clear h; intro x2 hx2 h
  refine pwl_call rfl rfl rfl rfl rfl (exact_Mul_ok hx2) ?_
  refine pwl_l0 rfl rfl (pl_store (vs := [.v (.int .u64 x2.Hi), .v (.int .u64 x2.Lo)]) rfl rfl rfl rfl rfl (by (repeat (first | exact PUpd.h | apply PUpd.t))) (by (repeat (first | exact PSplice.nil | apply PSplice.c | apply PSplice.t))) ?_)
  refine pwl_nil ?_
  (repeat (first | apply pk_block_n | apply pk_seq))
  refine pwc_ret ?_
  (repeat (first | apply pk_seq_ret | apply pk_block_ret | apply pk_mid_ret | apply pk_cut_ret))
  obtain rfl := Option.some.inj h
  exact pret_of (prv_1 (prv1_c rfl (by (repeat (first | exact List.Mem.head _ | apply List.Mem.tail))) rfl)) PSub.nil ⟨rfl, rfl⟩
/-- customs/duty.Evaluate -/
def duty_Evaluate (p0 : TDuty) (p1 : Int) (p2 : Int) : Option (Int × Int) := Option.bind (duty_Validate p0) (fun x3 => cond (x3 != 0) (some (0, x3)) (cond ((((decide (p1 < 0)) || (decide (1000000000000 < p1))) || (decide (p2 < 0))) || (decide (1000000000 < p2))) (some (0, 2)) (Option.bind (duty_Evaluate_1 p0.Rate p1 (IntKind.u64.wrap (imax p0.Per 1))) (fun x7 => Option.bind (exact_Mul (IntKind.u64.wrap ((IntKind.u64.wrap p0.Amount) * (IntKind.u64.wrap p2))) 1000000) (fun x8 => Option.bind (exact_Add x7 x8) (fun x9 => cond (x9.2 != 0) (some (0, 3)) (Option.bind (gd p0.HasMost (duty_Evaluate_1 p0.Most p1 (IntKind.u64.wrap (imax p0.Per 1)))) (fun x12 => Option.bind (gd p0.HasMost (exact_CompareWide x9.1 x12)) (fun x13 => Option.bind (cond (p0.HasMost && (decide (0 < x13))) (Option.bind (duty_Evaluate_1 p0.Most p1 (IntKind.u64.wrap (imax p0.Per 1))) (fun x18 => some (x18.Hi, x18.Lo))) (some (x9.1.Hi, x9.1.Lo))) (fun (v14, v15) => Option.bind (gd p0.HasLeast (duty_Evaluate_1 p0.Least p1 (IntKind.u64.wrap (imax p0.Per 1)))) (fun x19 => Option.bind (gd p0.HasLeast (exact_CompareWide (⟨v14, v15⟩ : Texact_Wide) x19)) (fun x20 => Option.bind (cond (p0.HasLeast && (decide (x20 < 0))) (Option.bind (duty_Evaluate_1 p0.Least p1 (IntKind.u64.wrap (imax p0.Per 1))) (fun x25 => some (x25.Hi, x25.Lo))) (some (v14, v15))) (fun (v21, v22) => Option.bind (exact_Div (⟨v21, v22⟩ : Texact_Wide) (IntKind.u64.wrap (1000000 * (IntKind.u64.wrap (imax p0.Per 1)))) 2) (fun x26 => cond ((x26.2 != 0) || (decide (1000000000000 < x26.1))) (some (0, 3)) (some ((IntKind.i64.wrap x26.1), 0))))))))))))))))
set_option maxHeartbeats 4000000 in
theorem duty_Evaluate_ok {p0 : TDuty} {p1 : Int} {p2 : Int} {r : (Int × Int)}  (h : duty_Evaluate p0 p1 p2 = some r) : PF 62 [.agg [.v (.int .i64 p0.Rate), .v (.int .i64 p0.Amount), .v (.int .i64 p0.Per), .v (.bool p0.HasMost), .v (.int .i64 p0.Most), .v (.bool p0.HasLeast), .v (.int .i64 p0.Least)], .v (.int .i64 p1), .v (.int .i64 p2)] (.tup [.v (.int .i64 r.1), .v (.int .i64 r.2)]) := by
  unfold duty_Evaluate at h
  refine pf_of ?_
  refine penter Tryz.func62 fk62 rfl Tryz.ntmps62 Tryz.results62 rfl ?_
  refine pwc_seq ?_
  refine pwc_region ?_
  refine pwl_l rfl rfl rfl (pl_box (cs := [.v (.int .i64 p0.Rate), .v (.int .i64 p0.Amount), .v (.int .i64 p0.Per), .v (.bool p0.HasMost), .v (.int .i64 p0.Most), .v (.bool p0.HasLeast), .v (.int .i64 p0.Least)]) rfl rfl (fun b1 => ?_))
  refine pwl_l rfl rfl rfl (pl_box (cs := [.v (.int .i64 p1)]) rfl rfl (fun b2 => ?_))
  refine pwl_q rfl rfl rfl (pq_assign (p := .v (.int .i64 0)) rfl (.p rfl)) ?_
  refine pwl_q rfl rfl rfl (pq_assign (p := .v (.int .i64 0)) rfl (.p rfl)) ?_
  refine pwl_nil ?_
  (repeat (first | apply pk_block_n | apply pk_seq))
  refine pwc_seq ?_
  refine pwc_seq ?_
  refine pwc_region ?_
  refine pwl_q rfl rfl rfl (pq_load_b (p := .agg [.v (.int .i64 p0.Rate), .v (.int .i64 p0.Amount), .v (.int .i64 p0.Per), .v (.bool p0.HasMost), .v (.int .i64 p0.Most), .v (.bool p0.HasLeast), .v (.int .i64 p0.Least)]) rfl (.p rfl) (by (repeat (first | exact List.Mem.head _ | apply List.Mem.tail))) rfl) ?_
  refine bind_elim h ?_; clear h; intro x3 hx3 h
  refine pwl_call rfl rfl rfl rfl rfl (duty_Validate_ok hx3) ?_
  refine pwl_q rfl rfl rfl (pq_assign (p := .v (.int .i64 x3)) rfl (.p rfl)) ?_
  refine pwl_nil ?_
  (repeat (first | apply pk_block_n | apply pk_seq))
  refine pwc_seq ?_
  refine pwc_region ?_
  refine pwl_q rfl rfl rfl (pq_move (p := .v (.int .i64 x3)) rfl (.p rfl)) ?_
  refine pwl_q rfl rfl rfl (pq_cmp rfl (.p rfl) (.p rfl) rfl) ?_
  refine pwl_nil ?_
  (repeat (first | apply pk_block_n | apply pk_seq))
  refine pwc_cond rfl (fun hc4 => ?_) (fun hc4 => ?_)
  · replace h := cond_t hc4 h
    refine pwc_seq ?_
    refine pwc_region ?_
    refine pwl_q rfl rfl rfl (pq_move (p := .v (.int .i64 x3)) rfl (.p rfl)) ?_
    refine pwl_q rfl rfl rfl (pq_assign (p := .v (.int .i64 0)) rfl (.p rfl)) ?_
    refine pwl_q rfl rfl rfl (pq_assign (p := .v (.int .i64 x3)) rfl (.p rfl)) ?_
    refine pwl_nil ?_
    (repeat (first | apply pk_block_n | apply pk_seq))
    refine pwc_ret ?_
    (repeat (first | apply pk_seq_ret | apply pk_block_ret | apply pk_mid_ret | apply pk_cut_ret))
    obtain rfl := Option.some.inj h
    exact pret_of (prv_2 (prv1_t rfl) (prv1_t rfl)) PSub.nil ⟨rfl, rfl⟩
  · replace h := cond_f hc4 h
    refine pwc_skip ?_
    (repeat (first | apply pk_block_n | apply pk_seq))
    refine pwc_seq ?_
    refine pwc_seq ?_
    refine pwc_region ?_
    refine pwl_q rfl rfl rfl (pq_load_b (p := .v (.int .i64 p1)) rfl (.p rfl) (by (repeat (first | exact List.Mem.head _ | apply List.Mem.tail))) rfl) ?_
    refine pwl_q rfl rfl rfl (pq_cmp rfl (.p rfl) (.p rfl) rfl) ?_
    refine pwl_q rfl rfl rfl (pq_move (p := .v (.bool (decide (p1 < 0)))) rfl (.p rfl)) ?_
    refine pwl_qg (pguard_f rfl rfl rfl) rfl rfl (pq_load_b (p := .v (.int .i64 p1)) rfl (.p rfl) (by (repeat (first | exact List.Mem.head _ | apply List.Mem.tail))) rfl) ?_
    refine pwl_qg (pguard_f rfl rfl rfl) rfl rfl (pq_cmp rfl (.g rfl) (.p rfl) rfl) ?_
    refine pwl_q rfl rfl rfl (pq_or rfl (.p rfl) (.p rfl) (.g rfl)) ?_
    refine pwl_q rfl rfl rfl (pq_move (p := .v (.bool ((decide (p1 < 0)) || (decide (1000000000000 < p1))))) rfl (.p rfl)) ?_
    refine pwl_qg (pguard_f rfl rfl rfl) rfl rfl (pq_move (p := .v (.int .i64 p2)) rfl (.p rfl)) ?_
    refine pwl_qg (pguard_f rfl rfl rfl) rfl rfl (pq_cmp rfl (.g rfl) (.p rfl) rfl) ?_
    refine pwl_q rfl rfl rfl (pq_or rfl (.p rfl) (.p rfl) (.g rfl)) ?_
    refine pwl_q rfl rfl rfl (pq_move (p := .v (.bool (((decide (p1 < 0)) || (decide (1000000000000 < p1))) || (decide (p2 < 0))))) rfl (.p rfl)) ?_
    refine pwl_qg (pguard_f rfl rfl rfl) rfl rfl (pq_move (p := .v (.int .i64 p2)) rfl (.p rfl)) ?_
    refine pwl_qg (pguard_f rfl rfl rfl) rfl rfl (pq_cmp rfl (.g rfl) (.p rfl) rfl) ?_
    refine pwl_q rfl rfl rfl (pq_or rfl (.p rfl) (.p rfl) (.g rfl)) ?_
    refine pwl_nil ?_
    (repeat (first | apply pk_block_n | apply pk_seq))
    refine pwc_cond rfl (fun hc5 => ?_) (fun hc5 => ?_)
    · replace h := cond_t hc5 h
      refine pwc_seq ?_
      refine pwc_region ?_
      refine pwl_q rfl rfl rfl (pq_assign (p := .v (.int .i64 0)) rfl (.p rfl)) ?_
      refine pwl_q rfl rfl rfl (pq_assign (p := .v (.int .i64 2)) rfl (.p rfl)) ?_
      refine pwl_nil ?_
      (repeat (first | apply pk_block_n | apply pk_seq))
      refine pwc_ret ?_
      (repeat (first | apply pk_seq_ret | apply pk_block_ret | apply pk_mid_ret | apply pk_cut_ret))
      obtain rfl := Option.some.inj h
      exact pret_of (prv_2 (prv1_t rfl) (prv1_t rfl)) PSub.nil ⟨rfl, rfl⟩
    · replace h := cond_f hc5 h
      refine pwc_skip ?_
      (repeat (first | apply pk_block_n | apply pk_seq))
      refine pwc_seq ?_
      refine pwc_region ?_
      refine pwl_q rfl rfl rfl (pq_fieldAddr rfl rfl rfl rfl rfl (.p rfl)) ?_
      refine pwl_q rfl rfl rfl (pq_load_b (p := .v (.int .i64 p0.Per)) rfl (.p rfl) (by (repeat (first | exact List.Mem.head _ | apply List.Mem.tail))) rfl) ?_
      refine pwl_q rfl rfl rfl (pq_max rfl (.p rfl) (.p rfl)) ?_
      refine pwl_q rfl rfl rfl (pq_conv rfl rfl rfl (.p rfl)) ?_
      refine pwl_l rfl rfl rfl (pl_alloc (cs := [.v (.int .u64 0)]) rfl rfl rfl rfl (fun b6 => ?_))
      refine pwl_l0 rfl rfl (pl_store (vs := [.v (.int .u64 (IntKind.u64.wrap (imax p0.Per 1)))]) rfl rfl rfl rfl rfl (by (repeat (first | exact PUpd.h | apply PUpd.t))) (by (repeat (first | exact PSplice.nil | apply PSplice.c | apply PSplice.t))) ?_)
      refine pwl_nil ?_
      (repeat (first | apply pk_block_n | apply pk_seq))
      refine pwc_seq ?_
      refine pwc_region ?_
      refine pwl_frb 4 rfl (by (repeat (first | exact PPick.h | apply PPick.t))) ?_
      refine pwl_frb 9 rfl (by (repeat (first | exact PPick.h | apply PPick.t))) ?_
      refine pwl_q rfl rfl rfl (pq_makeFunc rfl) ?_
      refine pwl_q rfl rfl rfl (pq_assign (p := .fn 93 [.ref [.v (.int .i64 p1)] 0, .ref [.v (.int .u64 (IntKind.u64.wrap (imax p0.Per 1)))] 0]) rfl (.p rfl)) ?_
      refine pwl_nil ?_
      (repeat (first | apply pk_block_n | apply pk_seq))
      refine pwc_seq ?_
      refine pwc_draw (ρd := []) [(0, 0), (1, 0), (2, 0), (4, 0), (5, 0), (6, 0), (7, 0), (8, 0), (9, 0), (3, 1), (10, 1), (11, 1), (12, 0), (13, 0), (14, 0), (15, 2), (16, 1), (17, 0)] _ (List.Perm.refl _) (by kernel_rfl) rfl ?_
      refine pwd_q rfl rfl rfl (pq_move (p := .fn 93 [.ref [.v (.int .i64 p1)] 0, .ref [.v (.int .u64 (IntKind.u64.wrap (imax p0.Per 1)))] 0]) rfl (.p rfl)) ?_
      refine pwd_q rfl rfl rfl (pq_fieldAddr rfl rfl rfl rfl rfl (.p rfl)) ?_
      refine pwd_q rfl rfl rfl (pq_load_b (p := .v (.int .i64 p0.Rate)) rfl (.p rfl) (by (repeat (first | exact List.Mem.head _ | apply List.Mem.tail))) rfl) ?_
      refine pwd_q rfl rfl rfl (pq_fieldAddr rfl rfl rfl rfl rfl (.p rfl)) ?_
      refine pwd_q rfl rfl rfl (pq_load_b (p := .v (.int .i64 p0.Amount)) rfl (.p rfl) (by (repeat (first | exact List.Mem.head _ | apply List.Mem.tail))) rfl) ?_
      refine pwd_q rfl rfl rfl (pq_conv rfl rfl rfl (.p rfl)) ?_
      refine pwd_q rfl rfl rfl (pq_move (p := .v (.int .i64 p2)) rfl (.p rfl)) ?_
      refine pwd_q rfl rfl rfl (pq_conv rfl rfl rfl (.p rfl)) ?_
      refine pwd_q rfl rfl rfl (pq_arith rfl (.p rfl) (.p rfl) rfl) ?_
      refine bind_elim h ?_; clear h; intro x7 hx7 h
      refine pwd_callv rfl rfl rfl rfl rfl (pfv_of (duty_Evaluate_1_ok hx7)) ?_
      refine bind_elim h ?_; clear h; intro x8 hx8 h
      refine pwd_call rfl rfl rfl rfl rfl (exact_Mul_ok hx8) ?_
      refine bind_elim h ?_; clear h; intro x9 hx9 h
      refine pwd_call rfl rfl rfl rfl rfl (exact_Add_ok hx9) ?_
      refine pwd_q rfl rfl rfl (pq_move (p := .tup [.agg [.v (.int .u64 x9.1.Hi), .v (.int .u64 x9.1.Lo)], .v (.int .i64 x9.2)]) rfl (.p rfl)) ?_
      refine pwd_q rfl rfl rfl (pq_extract (p := .agg [.v (.int .u64 x9.1.Hi), .v (.int .u64 x9.1.Lo)]) rfl (.p rfl) rfl) ?_
      refine pwd_q rfl rfl rfl (pq_extract (p := .v (.int .i64 x9.2)) rfl (.p rfl) rfl) ?_
      refine pwd_late (plate_alloc rfl rfl rfl rfl rfl) (fun _ => rfl) rfl (fun b10 => ?_)
      refine pwd_l0 rfl rfl (pl_store (vs := [.v (.int .u64 x9.1.Hi), .v (.int .u64 x9.1.Lo)]) rfl rfl rfl rfl rfl (by (repeat (first | exact PUpd.h | apply PUpd.t))) (by (repeat (first | exact PSplice.nil | apply PSplice.c | apply PSplice.t))) ?_)
      refine pwd_q rfl rfl rfl (pq_assign (p := .v (.int .i64 x9.2)) rfl (.p rfl)) ?_
      refine pwd_nil ?_
      (repeat (first | apply pk_block_n | apply pk_seq))
      refine pwc_seq ?_
      refine pwc_seq ?_
      refine pwc_region ?_
      refine pwl_q rfl rfl rfl (pq_move (p := .v (.int .i64 x9.2)) rfl (.p rfl)) ?_
      refine pwl_q rfl rfl rfl (pq_cmp rfl (.p rfl) (.p rfl) rfl) ?_
      refine pwl_nil ?_
      (repeat (first | apply pk_block_n | apply pk_seq))
      refine pwc_cond rfl (fun hc11 => ?_) (fun hc11 => ?_)
      · replace h := cond_t hc11 h
        refine pwc_seq ?_
        refine pwc_region ?_
        refine pwl_q rfl rfl rfl (pq_assign (p := .v (.int .i64 0)) rfl (.p rfl)) ?_
        refine pwl_q rfl rfl rfl (pq_assign (p := .v (.int .i64 3)) rfl (.p rfl)) ?_
        refine pwl_nil ?_
        (repeat (first | apply pk_block_n | apply pk_seq))
        refine pwc_ret ?_
        (repeat (first | apply pk_seq_ret | apply pk_block_ret | apply pk_mid_ret | apply pk_cut_ret))
        obtain rfl := Option.some.inj h
        exact pret_of (prv_2 (prv1_t rfl) (prv1_t rfl)) PSub.nil ⟨rfl, rfl⟩
      · replace h := cond_f hc11 h
        refine pwc_skip ?_
        (repeat (first | apply pk_block_n | apply pk_seq))
        refine pwc_seq ?_
        refine pwc_seq ?_
        refine pwc_draw (ρd := []) [(0, 0), (1, 0), (2, 0), (3, 0), (4, 0), (5, 0), (6, 0), (7, 1), (8, 1), (9, 0), (10, 0)] _ (List.Perm.refl _) (by kernel_rfl) rfl ?_
        refine pwd_q rfl rfl rfl (pq_fieldAddr rfl rfl rfl rfl rfl (.p rfl)) ?_
        refine pwd_q rfl rfl rfl (pq_load_b (p := .v (.bool p0.HasMost)) rfl (.p rfl) (by (repeat (first | exact List.Mem.head _ | apply List.Mem.tail))) rfl) ?_
        refine pwd_q rfl rfl rfl (pq_move (p := .v (.bool p0.HasMost)) rfl (.p rfl)) ?_
        refine pwd_qg (pguard_t rfl rfl rfl) rfl rfl (pq_load_b (p := .agg [.v (.int .u64 x9.1.Hi), .v (.int .u64 x9.1.Lo)]) rfl (.p rfl) (by (repeat (first | exact List.Mem.head _ | apply List.Mem.tail))) rfl) ?_
        refine pwd_qg (pguard_t rfl rfl rfl) rfl rfl (pq_move (p := .fn 93 [.ref [.v (.int .i64 p1)] 0, .ref [.v (.int .u64 (IntKind.u64.wrap (imax p0.Per 1)))] 0]) rfl (.p rfl)) ?_
        refine pwd_qg (pguard_t rfl rfl rfl) rfl rfl (pq_fieldAddr rfl rfl rfl rfl rfl (.p rfl)) ?_
        refine pwd_qg (pguard_t rfl rfl rfl) rfl rfl (pq_load_b (p := .v (.int .i64 p0.Most)) rfl (.g rfl) (by (repeat (first | exact List.Mem.head _ | apply List.Mem.tail))) rfl) ?_
        refine bind_elim h ?_; clear h; intro x12 hx12 h
        refine pwd_callvg (pguard_t rfl rfl rfl) rfl rfl rfl (.g rfl) (pargs_cons (.g rfl) (pargs_nil)) (fun hc => pfv_of (duty_Evaluate_1_ok (gd_t hx12 hc))) ?_
        refine bind_elim h ?_; clear h; intro x13 hx13 h
        refine pwd_callg (pguard_t rfl rfl rfl) rfl rfl rfl (pargs_cons (.g rfl) (pargs_cons (.g rfl) (pargs_nil))) (fun hc => exact_CompareWide_ok (gd_t hx13 hc)) ?_
        refine pwd_qg (pguard_t rfl rfl rfl) rfl rfl (pq_cmp rfl (.g rfl) (.p rfl) rfl) ?_
        refine pwd_q rfl rfl rfl (pq_and rfl (.p rfl) (.p rfl) (.g rfl)) ?_
        refine pwd_nil ?_
        (repeat (first | apply pk_block_n | apply pk_seq))
        refine bind_elim h ?_; clear h; intro q16 hq16 h
        refine pwc_join (Y := (Unit) × (Int × Int)) (fun (_, (v14, v15)) => [(3, .v (.pointer (some ⟨b1, 0, none⟩))), (9, .ref [.v (.int .u64 (IntKind.u64.wrap (imax p0.Per 1)))] 0), (10, .fn 93 [.ref [.v (.int .i64 p1)] 0, .ref [.v (.int .u64 (IntKind.u64.wrap (imax p0.Per 1)))] 0]), (11, .v (.pointer (some ⟨b10, 0, none⟩)))]) (fun (_, (v14, v15)) => [PRes.b b1 44 [.v (.int .i64 p0.Rate), .v (.int .i64 p0.Amount), .v (.int .i64 p0.Per), .v (.bool p0.HasMost), .v (.int .i64 p0.Most), .v (.bool p0.HasLeast), .v (.int .i64 p0.Least)], PRes.b b10 149 [.v (.int .u64 v14), .v (.int .u64 v15)]]) (fun (_, (v14, v15)) => q16 = (v14, v15)) ?_ ?_
        · skip
          refine pwc_cond rfl (fun hc17 => ?_) (fun hc17 => ?_)
          · replace hq16 := cond_t hc17 hq16
            refine pwc_region ?_
            refine pwl_q rfl rfl rfl (pq_move (p := .fn 93 [.ref [.v (.int .i64 p1)] 0, .ref [.v (.int .u64 (IntKind.u64.wrap (imax p0.Per 1)))] 0]) rfl (.p rfl)) ?_
            refine pwl_q rfl rfl rfl (pq_fieldAddr rfl rfl rfl rfl rfl (.p rfl)) ?_
            refine pwl_q rfl rfl rfl (pq_load_b (p := .v (.int .i64 p0.Most)) rfl (.p rfl) (by (repeat (first | exact List.Mem.head _ | apply List.Mem.tail))) rfl) ?_
            refine bind_elim hq16 ?_; clear hq16; intro x18 hx18 hq16
            refine pwl_callv rfl rfl rfl rfl rfl (pfv_of (duty_Evaluate_1_ok hx18)) ?_
            refine pwl_l0 rfl rfl (pl_store (vs := [.v (.int .u64 x18.Hi), .v (.int .u64 x18.Lo)]) rfl rfl rfl rfl rfl (by (repeat (first | exact PUpd.h | apply PUpd.t))) (by (repeat (first | exact PSplice.nil | apply PSplice.c | apply PSplice.t))) ?_)
            refine pwl_nil ?_
            obtain rfl := Option.some.inj hq16
            exact pk_mid ((), (x18.Hi, x18.Lo)) (by (repeat (first | exact PHolds.nil | apply PHolds.cons rfl))) (by (repeat (first | exact PSub.nil | (apply PSub.cons; (focus (repeat (first | exact PPick.h | apply PPick.t))))))) rfl
          · replace hq16 := cond_f hc17 hq16
            refine pwc_skip ?_
            obtain rfl := Option.some.inj hq16
            exact pk_mid ((), (x9.1.Hi, x9.1.Lo)) (by (repeat (first | exact PHolds.nil | apply PHolds.cons rfl))) (by (repeat (first | exact PSub.nil | (apply PSub.cons; (focus (repeat (first | exact PPick.h | apply PPick.t))))))) rfl
        · rintro ⟨_, ⟨v14, v15⟩⟩ τ hz; (try dsimp only at hz); subst q16; (try dsimp only at h); dsimp only [pupds]
          refine pwc_seq ?_
          refine pwc_seq ?_
          refine pwc_draw (ρd := []) [(0, 0), (1, 0), (2, 0), (3, 0), (4, 0), (5, 0), (6, 0), (7, 1), (8, 1), (9, 0), (10, 0)] _ (List.Perm.refl _) (by kernel_rfl) rfl ?_
          refine pwd_q rfl rfl rfl (pq_fieldAddr rfl rfl rfl rfl rfl (.p rfl)) ?_
          refine pwd_q rfl rfl rfl (pq_load_b (p := .v (.bool p0.HasLeast)) rfl (.p rfl) (by (repeat (first | exact List.Mem.head _ | apply List.Mem.tail))) rfl) ?_
          refine pwd_q rfl rfl rfl (pq_move (p := .v (.bool p0.HasLeast)) rfl (.p rfl)) ?_
          refine pwd_qg (pguard_t rfl rfl rfl) rfl rfl (pq_load_b (p := .agg [.v (.int .u64 v14), .v (.int .u64 v15)]) rfl (.p rfl) (by (repeat (first | exact List.Mem.head _ | apply List.Mem.tail))) rfl) ?_
          refine pwd_qg (pguard_t rfl rfl rfl) rfl rfl (pq_move (p := .fn 93 [.ref [.v (.int .i64 p1)] 0, .ref [.v (.int .u64 (IntKind.u64.wrap (imax p0.Per 1)))] 0]) rfl (.p rfl)) ?_
          refine pwd_qg (pguard_t rfl rfl rfl) rfl rfl (pq_fieldAddr rfl rfl rfl rfl rfl (.p rfl)) ?_
          refine pwd_qg (pguard_t rfl rfl rfl) rfl rfl (pq_load_b (p := .v (.int .i64 p0.Least)) rfl (.g rfl) (by (repeat (first | exact List.Mem.head _ | apply List.Mem.tail))) rfl) ?_
          refine bind_elim h ?_; clear h; intro x19 hx19 h
          refine pwd_callvg (pguard_t rfl rfl rfl) rfl rfl rfl (.g rfl) (pargs_cons (.g rfl) (pargs_nil)) (fun hc => pfv_of (duty_Evaluate_1_ok (gd_t hx19 hc))) ?_
          refine bind_elim h ?_; clear h; intro x20 hx20 h
          refine pwd_callg (pguard_t rfl rfl rfl) rfl rfl rfl (pargs_cons (.g rfl) (pargs_cons (.g rfl) (pargs_nil))) (fun hc => exact_CompareWide_ok (gd_t hx20 hc)) ?_
          refine pwd_qg (pguard_t rfl rfl rfl) rfl rfl (pq_cmp rfl (.g rfl) (.p rfl) rfl) ?_
          refine pwd_q rfl rfl rfl (pq_and rfl (.p rfl) (.p rfl) (.g rfl)) ?_
          refine pwd_nil ?_
          (repeat (first | apply pk_block_n | apply pk_seq))
          refine bind_elim h ?_; clear h; intro q23 hq23 h
          refine pwc_join (Y := (Unit) × (Int × Int)) (fun (_, (v21, v22)) => [(9, .ref [.v (.int .u64 (IntKind.u64.wrap (imax p0.Per 1)))] 0), (11, .v (.pointer (some ⟨b10, 0, none⟩)))]) (fun (_, (v21, v22)) => [PRes.b b10 149 [.v (.int .u64 v21), .v (.int .u64 v22)]]) (fun (_, (v21, v22)) => q23 = (v21, v22)) ?_ ?_
          · skip
            refine pwc_cond rfl (fun hc24 => ?_) (fun hc24 => ?_)
            · replace hq23 := cond_t hc24 hq23
              refine pwc_region ?_
              refine pwl_q rfl rfl rfl (pq_move (p := .fn 93 [.ref [.v (.int .i64 p1)] 0, .ref [.v (.int .u64 (IntKind.u64.wrap (imax p0.Per 1)))] 0]) rfl (.p rfl)) ?_
              refine pwl_q rfl rfl rfl (pq_fieldAddr rfl rfl rfl rfl rfl (.p rfl)) ?_
              refine pwl_q rfl rfl rfl (pq_load_b (p := .v (.int .i64 p0.Least)) rfl (.p rfl) (by (repeat (first | exact List.Mem.head _ | apply List.Mem.tail))) rfl) ?_
              refine bind_elim hq23 ?_; clear hq23; intro x25 hx25 hq23
              refine pwl_callv rfl rfl rfl rfl rfl (pfv_of (duty_Evaluate_1_ok hx25)) ?_
              refine pwl_l0 rfl rfl (pl_store (vs := [.v (.int .u64 x25.Hi), .v (.int .u64 x25.Lo)]) rfl rfl rfl rfl rfl (by (repeat (first | exact PUpd.h | apply PUpd.t))) (by (repeat (first | exact PSplice.nil | apply PSplice.c | apply PSplice.t))) ?_)
              refine pwl_nil ?_
              obtain rfl := Option.some.inj hq23
              exact pk_mid ((), (x25.Hi, x25.Lo)) (by (repeat (first | exact PHolds.nil | apply PHolds.cons rfl))) (by (repeat (first | exact PSub.nil | (apply PSub.cons; (focus (repeat (first | exact PPick.h | apply PPick.t))))))) rfl
            · replace hq23 := cond_f hc24 hq23
              refine pwc_skip ?_
              obtain rfl := Option.some.inj hq23
              exact pk_mid ((), (v14, v15)) (by (repeat (first | exact PHolds.nil | apply PHolds.cons rfl))) (by (repeat (first | exact PSub.nil | (apply PSub.cons; (focus (repeat (first | exact PPick.h | apply PPick.t))))))) rfl
          · rintro ⟨_, ⟨v21, v22⟩⟩ τ hz; (try dsimp only at hz); subst q23; (try dsimp only at h); dsimp only [pupds]
            refine pwc_seq ?_
            refine pwc_region ?_
            refine pwl_q rfl rfl rfl (pq_load_b (p := .agg [.v (.int .u64 v21), .v (.int .u64 v22)]) rfl (.p rfl) (by (repeat (first | exact List.Mem.head _ | apply List.Mem.tail))) rfl) ?_
            refine pwl_q rfl rfl rfl (pq_load_r (p := .v (.int .u64 (IntKind.u64.wrap (imax p0.Per 1)))) rfl (.p rfl) rfl) ?_
            refine pwl_q rfl rfl rfl (pq_arith rfl (.p rfl) (.p rfl) rfl) ?_
            refine bind_elim h ?_; clear h; intro x26 hx26 h
            refine pwl_call rfl rfl rfl rfl rfl (exact_Div_ok hx26) ?_
            refine pwl_q rfl rfl rfl (pq_move (p := .tup [.v (.int .u64 x26.1), .v (.int .i64 x26.2)]) rfl (.p rfl)) ?_
            refine pwl_q rfl rfl rfl (pq_extract (p := .v (.int .u64 x26.1)) rfl (.p rfl) rfl) ?_
            refine pwl_q rfl rfl rfl (pq_extract (p := .v (.int .i64 x26.2)) rfl (.p rfl) rfl) ?_
            refine pwl_q rfl rfl rfl (pq_assign (p := .v (.int .u64 x26.1)) rfl (.p rfl)) ?_
            refine pwl_q rfl rfl rfl (pq_assign (p := .v (.int .i64 x26.2)) rfl (.p rfl)) ?_
            refine pwl_nil ?_
            (repeat (first | apply pk_block_n | apply pk_seq))
            refine pwc_seq ?_
            refine pwc_seq ?_
            refine pwc_region ?_
            refine pwl_q rfl rfl rfl (pq_move (p := .v (.int .i64 x26.2)) rfl (.p rfl)) ?_
            refine pwl_q rfl rfl rfl (pq_cmp rfl (.p rfl) (.p rfl) rfl) ?_
            refine pwl_q rfl rfl rfl (pq_move (p := .v (.bool (x26.2 != 0))) rfl (.p rfl)) ?_
            refine pwl_qg (pguard_f rfl rfl rfl) rfl rfl (pq_move (p := .v (.int .u64 x26.1)) rfl (.p rfl)) ?_
            refine pwl_qg (pguard_f rfl rfl rfl) rfl rfl (pq_cmp rfl (.g rfl) (.p rfl) rfl) ?_
            refine pwl_q rfl rfl rfl (pq_or rfl (.p rfl) (.p rfl) (.g rfl)) ?_
            refine pwl_nil ?_
            (repeat (first | apply pk_block_n | apply pk_seq))
            refine pwc_cond rfl (fun hc27 => ?_) (fun hc27 => ?_)
            · replace h := cond_t hc27 h
              refine pwc_seq ?_
              refine pwc_region ?_
              refine pwl_q rfl rfl rfl (pq_assign (p := .v (.int .i64 0)) rfl (.p rfl)) ?_
              refine pwl_q rfl rfl rfl (pq_assign (p := .v (.int .i64 3)) rfl (.p rfl)) ?_
              refine pwl_nil ?_
              (repeat (first | apply pk_block_n | apply pk_seq))
              refine pwc_ret ?_
              (repeat (first | apply pk_seq_ret | apply pk_block_ret | apply pk_mid_ret | apply pk_cut_ret))
              obtain rfl := Option.some.inj h
              exact pret_of (prv_2 (prv1_t rfl) (prv1_t rfl)) PSub.nil ⟨rfl, rfl⟩
            · replace h := cond_f hc27 h
              refine pwc_skip ?_
              (repeat (first | apply pk_block_n | apply pk_seq))
              refine pwc_seq ?_
              refine pwc_region ?_
              refine pwl_q rfl rfl rfl (pq_move (p := .v (.int .u64 x26.1)) rfl (.p rfl)) ?_
              refine pwl_q rfl rfl rfl (pq_conv rfl rfl rfl (.p rfl)) ?_
              refine pwl_q rfl rfl rfl (pq_assign (p := .v (.int .i64 (IntKind.i64.wrap x26.1))) rfl (.p rfl)) ?_
              refine pwl_q rfl rfl rfl (pq_assign (p := .v (.int .i64 0)) rfl (.p rfl)) ?_
              refine pwl_nil ?_
              (repeat (first | apply pk_block_n | apply pk_seq))
              refine pwc_ret ?_
              (repeat (first | apply pk_seq_ret | apply pk_block_ret | apply pk_mid_ret | apply pk_cut_ret))
              obtain rfl := Option.some.inj h
              exact pret_of (prv_2 (prv1_t rfl) (prv1_t rfl)) PSub.nil ⟨rfl, rfl⟩
/-- customs/assess.leastDuty -/
def assess_leastDuty (p0 : (List TMeasure)) (p1 : Tassess_part) : Option (TDebtLine × Bool × Int) := Option.bind (loopF (S := Bool × Int × Int × Int × Int × Int × Int) (T := (Bool × Int × Int × Int × Int × Int) ⊕ (_)) (fun (v4, v5, v6, v7, v8, v9, v10) => cond (decide (v5 < (p1.kinds.length : Int))) (Option.bind (idx p1.kinds v5) (fun m20 => Option.bind (loopF (S := Bool × Int × Int × Int × Int × Int × Int) (T := (Bool × Int × Int × Int × Int × Int) ⊕ (_)) (fun (v21, v22, v23, v24, v25, v26, v27) => cond (decide (v22 < (p0.length : Int))) (Option.bind (α := (Bool × Int × Int × Int × Int × Int) ⊕ _) (Option.bind (idx p0 v22) (fun m44 => cond (m44.Kind != m20) (some (.inl (v21, v23, v24, v25, v26, v27))) (Option.bind (duty_Evaluate m44.Duty p1.value p1.quantity) (fun x47 => cond (x47.2 != 0) (some (.inr (.inr (.inr (.inr (.inr ((⟨0, 0, 0, 0, 0⟩ : TDebtLine), false, x47.2))))))) (cond ((!v21) || (decide (x47.1 < v27))) (some (.inl (true, m44.Kind, m44.ID, p1.quantity, p1.value, x47.1))) (some (.inl (v21, v23, v24, v25, v26, v27)))))))) (fun q => match q with | .inl (v37, v38, v39, v40, v41, v42) => some (.inl (v37, (IntKind.i64.wrap (v22 + 1)), v38, v39, v40, v41, v42)) | .inr e => some e)) (some (.inr (.inl (v21, v23, v24, v25, v26, v27))))) FUEL (v4, 0, v6, v7, v8, v9, v10)) (fun q => match q with | .inl (v28, v29, v30, v31, v32, v33) => some (.inl (v28, (IntKind.i64.wrap (v5 + 1)), v29, v30, v31, v32, v33)) | .inr e => some e))) (some (.inr (.inl (v4, v6, v7, v8, v9, v10))))) FUEL (false, 0, 0, 0, 0, 0, 0)) (fun q => match q with | .inl (v11, v12, v13, v14, v15, v16) => some ((⟨v12, v13, v14, v15, v16⟩ : TDebtLine), v11, 0) | .inr e => some e)
set_option maxHeartbeats 4000000 in
theorem assess_leastDuty_ok {p0 : (List TMeasure)} {p1 : Tassess_part} {r : (TDebtLine × Bool × Int)}  (h : assess_leastDuty p0 p1 = some r) : PF 40 [.slc (List.map TMeasure.enc p0), .agg [.v (.int .i64 p1.quantity), .v (.int .i64 p1.value), .slc (List.map eI p1.kinds)]] (.tup [.agg [.v (.int .i64 r.1.Kind), .v (.int .i64 r.1.Measure), .v (.int .i64 r.1.Quantity), .v (.int .i64 r.1.Value), .v (.int .i64 r.1.Amount)], .v (.bool r.2.1), .v (.int .i64 r.2.2)]) := by
  unfold assess_leastDuty at h
  refine pf_of ?_
  refine penter Tryz.func40 fk40 rfl Tryz.ntmps40 Tryz.results40 rfl ?_
  refine pwc_seq ?_
  refine pwc_region ?_
  refine pwl_l rfl rfl rfl (pl_box (cs := [.v (.int .i64 p1.quantity), .v (.int .i64 p1.value), .slc (List.map eI p1.kinds)]) rfl rfl (fun b1 => ?_))
  refine pwl_l rfl rfl rfl (pl_alloc (cs := [.v (.int .i64 0), .v (.int .i64 0), .v (.int .i64 0), .v (.int .i64 0), .v (.int .i64 0)]) rfl rfl rfl rfl (fun b2 => ?_))
  refine pwl_q rfl rfl rfl (pq_assign (p := .v (.bool false)) rfl (.p rfl)) ?_
  refine pwl_q rfl rfl rfl (pq_assign (p := .v (.int .i64 0)) rfl (.p rfl)) ?_
  refine pwl_nil ?_
  (repeat (first | apply pk_block_n | apply pk_seq))
  refine pwc_seq ?_
  refine pwc_region ?_
  refine pwl_l rfl rfl rfl (pl_alloc (cs := [.v (.int .i64 0), .v (.int .i64 0), .v (.int .i64 0), .v (.int .i64 0), .v (.int .i64 0)]) rfl rfl rfl rfl (fun b3 => ?_))
  refine pwl_nil ?_
  (repeat (first | apply pk_block_n | apply pk_seq))
  refine pwc_seq ?_
  refine pwc_region ?_
  refine pwl_q rfl rfl rfl (pq_assign (p := .v (.bool false)) rfl (.p rfl)) ?_
  refine pwl_nil ?_
  (repeat (first | apply pk_block_n | apply pk_seq))
  refine pwc_seq ?_
  refine pwc_seq ?_
  refine pwc_region ?_
  refine pwl_q rfl rfl rfl (pq_fieldAddr rfl rfl rfl rfl rfl (.p rfl)) ?_
  refine pwl_q rfl rfl rfl (pq_load_b (p := .slc (List.map eI p1.kinds)) rfl (.p rfl) (by (repeat (first | exact List.Mem.head _ | apply List.Mem.tail))) rfl) ?_
  refine pwl_q rfl rfl rfl (pq_lenT (enc := eI) rfl rfl (.p rfl)) ?_
  refine pwl_q rfl rfl rfl (pq_move (p := .v (.int .i64 0)) rfl (.p rfl)) ?_
  refine pwl_nil ?_
  (repeat (first | apply pk_block_n | apply pk_seq))
  refine bind_elim h ?_; clear h; intro q18 hq18 h
  refine pwc_join (Y := (Unit) × (Bool × Int × Int × Int × Int × Int)) (fun (_, (v11, v12, v13, v14, v15, v16)) => [(4, .v (.pointer (some ⟨b2, 0, none⟩))), (7, .v (.pointer (some ⟨b3, 0, none⟩))), (8, .v (.bool v11))]) (fun (_, (v11, v12, v13, v14, v15, v16)) => [PRes.b b2 49 [.v (.int .i64 0), .v (.int .i64 0), .v (.int .i64 0), .v (.int .i64 0), .v (.int .i64 0)], PRes.b b3 49 [.v (.int .i64 v12), .v (.int .i64 v13), .v (.int .i64 v14), .v (.int .i64 v15), .v (.int .i64 v16)]]) (fun (_, (v11, v12, v13, v14, v15, v16)) => q18 = Sum.inl (v11, v12, v13, v14, v15, v16)) ?_ ?_
  · refine pwc_block ?_
    refine pwc_loopF (Y := Unit) (S := Bool × Int × Int × Int × Int × Int × Int) _ hq18 (fun _ (v4, v5, v6, v7, v8, v9, v10) => [(0, .slc (List.map TMeasure.enc p0)), (3, .v (.pointer (some ⟨b1, 0, none⟩))), (4, .v (.pointer (some ⟨b2, 0, none⟩))), (7, .v (.pointer (some ⟨b3, 0, none⟩))), (8, .v (.bool v4)), (16, .slc (List.map eI p1.kinds)), (17, .v (.int .i64 (p1.kinds.length : Int))), (18, .v (.int .i64 v5))]) (fun _ (v4, v5, v6, v7, v8, v9, v10) => [PRes.b b1 74 [.v (.int .i64 p1.quantity), .v (.int .i64 p1.value), .slc (List.map eI p1.kinds)], PRes.b b2 49 [.v (.int .i64 0), .v (.int .i64 0), .v (.int .i64 0), .v (.int .i64 0), .v (.int .i64 0)], PRes.b b3 49 [.v (.int .i64 v6), .v (.int .i64 v7), .v (.int .i64 v8), .v (.int .i64 v9), .v (.int .i64 v10)]]) () (by (repeat (first | exact PHolds.nil | apply PHolds.cons rfl))) (by (repeat (first | exact PSub.nil | (apply PSub.cons; (focus (repeat (first | exact PPick.h | apply PPick.t))))))) ?_
    rintro _ ⟨v4, v5, v6, v7, v8, v9, v10⟩ o τ hb17; (try dsimp only at hb17); dsimp only [pupds]
    refine pwc_seq ?_
    refine pwc_region ?_
    refine pwl_q rfl rfl rfl (pq_cmp rfl (.p rfl) (.p rfl) rfl) ?_
    refine pwl_nil ?_
    (repeat (first | apply pk_block_n | apply pk_seq))
    refine pwc_seq ?_
    refine pwc_cond rfl (fun hc19 => ?_) (fun hc19 => ?_)
    · replace hb17 := cond_t hc19 hb17
      refine pwc_skip ?_
      (repeat (first | apply pk_block_n | apply pk_seq))
      refine pwc_seq ?_
      refine pwc_block ?_
      refine pwc_seq ?_
      refine pwc_region ?_
      refine bind_elim hb17 ?_; clear hb17; intro m20 hm20 hb17
      refine pwl_q rfl rfl rfl (pq_index (enc := eI) rfl rfl rfl (fun _ => rfl) (.p rfl) (.p rfl) (fun _ => hm20)) ?_
      refine pwl_q rfl rfl rfl (pq_load_r (p := .v (.int .i64 m20)) rfl (.p rfl) rfl) ?_
      refine pwl_q rfl rfl rfl (pq_assign (p := .v (.int .i64 m20)) rfl (.p rfl)) ?_
      refine pwl_nil ?_
      (repeat (first | apply pk_block_n | apply pk_seq))
      refine pwc_seq ?_
      refine pwc_region ?_
      refine pwl_q rfl rfl rfl (pq_move (p := .slc (List.map TMeasure.enc p0)) rfl (.p rfl)) ?_
      refine pwl_q rfl rfl rfl (pq_lenT (enc := TMeasure.enc) rfl rfl (.p rfl)) ?_
      refine pwl_q rfl rfl rfl (pq_move (p := .v (.int .i64 0)) rfl (.p rfl)) ?_
      refine pwl_nil ?_
      (repeat (first | apply pk_block_n | apply pk_seq))
      refine bind_elim hb17 ?_; clear hb17; intro q35 hq35 hb17
      refine pwc_cutK (Y := (Unit) × (Bool × Int × Int × Int × Int × Int)) (fun (_, (v28, v29, v30, v31, v32, v33)) => [(0, .slc (List.map TMeasure.enc p0)), (3, .v (.pointer (some ⟨b1, 0, none⟩))), (4, .v (.pointer (some ⟨b2, 0, none⟩))), (7, .v (.pointer (some ⟨b3, 0, none⟩))), (8, .v (.bool v28)), (16, .slc (List.map eI p1.kinds)), (17, .v (.int .i64 (p1.kinds.length : Int))), (18, .v (.int .i64 v5))]) (fun (_, (v28, v29, v30, v31, v32, v33)) => [PRes.b b1 74 [.v (.int .i64 p1.quantity), .v (.int .i64 p1.value), .slc (List.map eI p1.kinds)], PRes.b b2 49 [.v (.int .i64 0), .v (.int .i64 0), .v (.int .i64 0), .v (.int .i64 0), .v (.int .i64 0)], PRes.b b3 49 [.v (.int .i64 v29), .v (.int .i64 v30), .v (.int .i64 v31), .v (.int .i64 v32), .v (.int .i64 v33)]]) (fun (_, (v28, v29, v30, v31, v32, v33)) => q35 = Sum.inl (v28, v29, v30, v31, v32, v33)) ?_ ?_
      · refine pwc_block ?_
        refine pwc_loopF (Y := Unit) (S := Bool × Int × Int × Int × Int × Int × Int) _ hq35 (fun _ (v21, v22, v23, v24, v25, v26, v27) => [(0, .slc (List.map TMeasure.enc p0)), (3, .v (.pointer (some ⟨b1, 0, none⟩))), (4, .v (.pointer (some ⟨b2, 0, none⟩))), (7, .v (.pointer (some ⟨b3, 0, none⟩))), (8, .v (.bool v21)), (10, .v (.int .i64 m20)), (16, .slc (List.map eI p1.kinds)), (17, .v (.int .i64 (p1.kinds.length : Int))), (18, .v (.int .i64 v5)), (22, .slc (List.map TMeasure.enc p0)), (23, .v (.int .i64 (p0.length : Int))), (24, .v (.int .i64 v22))]) (fun _ (v21, v22, v23, v24, v25, v26, v27) => [PRes.b b1 74 [.v (.int .i64 p1.quantity), .v (.int .i64 p1.value), .slc (List.map eI p1.kinds)], PRes.b b2 49 [.v (.int .i64 0), .v (.int .i64 0), .v (.int .i64 0), .v (.int .i64 0), .v (.int .i64 0)], PRes.b b3 49 [.v (.int .i64 v23), .v (.int .i64 v24), .v (.int .i64 v25), .v (.int .i64 v26), .v (.int .i64 v27)]]) () (by (repeat (first | exact PHolds.nil | apply PHolds.cons rfl))) (by (repeat (first | exact PSub.nil | (apply PSub.cons; (focus (repeat (first | exact PPick.h | apply PPick.t))))))) ?_
        rintro _ ⟨v21, v22, v23, v24, v25, v26, v27⟩ o τ hb34; (try dsimp only at hb34); dsimp only [pupds]
        refine pwc_seq ?_
        refine pwc_region ?_
        refine pwl_q rfl rfl rfl (pq_cmp rfl (.p rfl) (.p rfl) rfl) ?_
        refine pwl_nil ?_
        (repeat (first | apply pk_block_n | apply pk_seq))
        refine pwc_seq ?_
        refine pwc_cond rfl (fun hc36 => ?_) (fun hc36 => ?_)
        · replace hb34 := cond_t hc36 hb34
          refine pwc_skip ?_
          (repeat (first | apply pk_block_n | apply pk_seq))
          refine pwc_seq ?_
          refine bind_elim hb34 ?_; clear hb34; intro q43 hq43 hb34
          refine pwc_join (Y := (Unit) × (Bool × Int × Int × Int × Int × Int)) (fun (_, (v37, v38, v39, v40, v41, v42)) => [(0, .slc (List.map TMeasure.enc p0)), (3, .v (.pointer (some ⟨b1, 0, none⟩))), (4, .v (.pointer (some ⟨b2, 0, none⟩))), (7, .v (.pointer (some ⟨b3, 0, none⟩))), (8, .v (.bool v37)), (10, .v (.int .i64 m20)), (16, .slc (List.map eI p1.kinds)), (17, .v (.int .i64 (p1.kinds.length : Int))), (18, .v (.int .i64 v5)), (22, .slc (List.map TMeasure.enc p0)), (23, .v (.int .i64 (p0.length : Int))), (24, .v (.int .i64 v22))]) (fun (_, (v37, v38, v39, v40, v41, v42)) => [PRes.b b1 74 [.v (.int .i64 p1.quantity), .v (.int .i64 p1.value), .slc (List.map eI p1.kinds)], PRes.b b2 49 [.v (.int .i64 0), .v (.int .i64 0), .v (.int .i64 0), .v (.int .i64 0), .v (.int .i64 0)], PRes.b b3 49 [.v (.int .i64 v38), .v (.int .i64 v39), .v (.int .i64 v40), .v (.int .i64 v41), .v (.int .i64 v42)]]) (fun (_, (v37, v38, v39, v40, v41, v42)) => q43 = Sum.inl (v37, v38, v39, v40, v41, v42)) ?_ ?_
          · skip
            refine pwc_block ?_
            refine pwc_seq ?_
            refine pwc_region ?_
            refine bind_elim hq43 ?_; clear hq43; intro m44 hm44 hq43
            refine pwl_q rfl rfl rfl (pq_index (enc := TMeasure.enc) rfl rfl rfl (fun _ => rfl) (.p rfl) (.p rfl) (fun _ => hm44)) ?_
            refine pwl_q rfl rfl rfl (pq_load_r (p := .agg [.v (.int .i64 m44.ID), .v (.int .i64 m44.Kind), .v (.string m44.Prefix), .slc (List.map eS m44.Origins), .v (.int .i64 m44.Company), .v (.int .i64 m44.From), .v (.int .i64 m44.To), .v (.int .i64 m44.Registered), .v (.int .i64 m44.Duty.Rate), .v (.int .i64 m44.Duty.Amount), .v (.int .i64 m44.Duty.Per), .v (.bool m44.Duty.HasMost), .v (.int .i64 m44.Duty.Most), .v (.bool m44.Duty.HasLeast), .v (.int .i64 m44.Duty.Least)]) rfl (.p rfl) rfl) ?_
            refine pwl_l rfl rfl rfl (pl_alloc (cs := [.v (.int .i64 0), .v (.int .i64 0), .v (.string ByteArray.empty), .v (.slice none 0 0), .v (.int .i64 0), .v (.int .i64 0), .v (.int .i64 0), .v (.int .i64 0), .v (.int .i64 0), .v (.int .i64 0), .v (.int .i64 0), .v (.bool false), .v (.int .i64 0), .v (.bool false), .v (.int .i64 0)]) rfl rfl rfl rfl (fun b45 => ?_))
            refine pwl_l0 rfl rfl (pl_store (vs := [.v (.int .i64 m44.ID), .v (.int .i64 m44.Kind), .v (.string m44.Prefix), .slc (List.map eS m44.Origins), .v (.int .i64 m44.Company), .v (.int .i64 m44.From), .v (.int .i64 m44.To), .v (.int .i64 m44.Registered), .v (.int .i64 m44.Duty.Rate), .v (.int .i64 m44.Duty.Amount), .v (.int .i64 m44.Duty.Per), .v (.bool m44.Duty.HasMost), .v (.int .i64 m44.Duty.Most), .v (.bool m44.Duty.HasLeast), .v (.int .i64 m44.Duty.Least)]) rfl rfl rfl rfl rfl (by (repeat (first | exact PUpd.h | apply PUpd.t))) (by (repeat (first | exact PSplice.nil | apply PSplice.c | apply PSplice.t))) ?_)
            refine pwl_nil ?_
            (repeat (first | apply pk_block_n | apply pk_seq))
            refine pwc_seq ?_
            refine pwc_seq ?_
            refine pwc_region ?_
            refine pwl_q rfl rfl rfl (pq_fieldAddr rfl rfl rfl rfl rfl (.p rfl)) ?_
            refine pwl_q rfl rfl rfl (pq_load_b (p := .v (.int .i64 m44.Kind)) rfl (.p rfl) (by (repeat (first | exact List.Mem.head _ | apply List.Mem.tail))) rfl) ?_
            refine pwl_q rfl rfl rfl (pq_move (p := .v (.int .i64 m20)) rfl (.p rfl)) ?_
            refine pwl_q rfl rfl rfl (pq_cmp rfl (.p rfl) (.p rfl) rfl) ?_
            refine pwl_nil ?_
            (repeat (first | apply pk_block_n | apply pk_seq))
            refine pwc_cond rfl (fun hc46 => ?_) (fun hc46 => ?_)
            · replace hq43 := cond_t hc46 hq43
              refine pwc_exit ?_
              (repeat (first | apply pk_seq_exit | apply pk_mid_exit | apply pk_cut_exit | apply pk_block_ne rfl))
              refine pk_block_eq rfl ?_
              obtain rfl := Option.some.inj hq43
              exact pk_mid ((), (v21, v23, v24, v25, v26, v27)) (by (repeat (first | exact PHolds.nil | apply PHolds.cons rfl))) (by (repeat (first | exact PSub.nil | (apply PSub.cons; (focus (repeat (first | exact PPick.h | apply PPick.t))))))) rfl
            · replace hq43 := cond_f hc46 hq43
              refine pwc_skip ?_
              (repeat (first | apply pk_block_n | apply pk_seq))
              refine pwc_seq ?_
              refine pwc_region ?_
              refine pwl_q rfl rfl rfl (pq_fieldAddr rfl rfl rfl rfl rfl (.p rfl)) ?_
              refine pwl_q rfl rfl rfl (pq_load_b (p := .agg [.v (.int .i64 m44.Duty.Rate), .v (.int .i64 m44.Duty.Amount), .v (.int .i64 m44.Duty.Per), .v (.bool m44.Duty.HasMost), .v (.int .i64 m44.Duty.Most), .v (.bool m44.Duty.HasLeast), .v (.int .i64 m44.Duty.Least)]) rfl (.p rfl) (by (repeat (first | exact List.Mem.head _ | apply List.Mem.tail))) rfl) ?_
              refine pwl_q rfl rfl rfl (pq_fieldAddr rfl rfl rfl rfl rfl (.p rfl)) ?_
              refine pwl_q rfl rfl rfl (pq_load_b (p := .v (.int .i64 p1.value)) rfl (.p rfl) (by (repeat (first | exact List.Mem.head _ | apply List.Mem.tail))) rfl) ?_
              refine pwl_q rfl rfl rfl (pq_fieldAddr rfl rfl rfl rfl rfl (.p rfl)) ?_
              refine pwl_q rfl rfl rfl (pq_load_b (p := .v (.int .i64 p1.quantity)) rfl (.p rfl) (by (repeat (first | exact List.Mem.head _ | apply List.Mem.tail))) rfl) ?_
              refine bind_elim hq43 ?_; clear hq43; intro x47 hx47 hq43
              refine pwl_call rfl rfl rfl rfl rfl (duty_Evaluate_ok hx47) ?_
              refine pwl_q rfl rfl rfl (pq_move (p := .tup [.v (.int .i64 x47.1), .v (.int .i64 x47.2)]) rfl (.p rfl)) ?_
              refine pwl_q rfl rfl rfl (pq_extract (p := .v (.int .i64 x47.1)) rfl (.p rfl) rfl) ?_
              refine pwl_q rfl rfl rfl (pq_extract (p := .v (.int .i64 x47.2)) rfl (.p rfl) rfl) ?_
              refine pwl_q rfl rfl rfl (pq_assign (p := .v (.int .i64 x47.1)) rfl (.p rfl)) ?_
              refine pwl_q rfl rfl rfl (pq_assign (p := .v (.int .i64 x47.2)) rfl (.p rfl)) ?_
              refine pwl_nil ?_
              (repeat (first | apply pk_block_n | apply pk_seq))
              refine pwc_seq ?_
              refine pwc_seq ?_
              refine pwc_region ?_
              refine pwl_q rfl rfl rfl (pq_move (p := .v (.int .i64 x47.2)) rfl (.p rfl)) ?_
              refine pwl_q rfl rfl rfl (pq_cmp rfl (.p rfl) (.p rfl) rfl) ?_
              refine pwl_nil ?_
              (repeat (first | apply pk_block_n | apply pk_seq))
              refine pwc_cond rfl (fun hc48 => ?_) (fun hc48 => ?_)
              · replace hq43 := cond_t hc48 hq43
                refine pwc_seq ?_
                refine pwc_region ?_
                refine pwl_q rfl rfl rfl (pq_build (cs := [.v (.int .i64 0), .v (.int .i64 0), .v (.int .i64 0), .v (.int .i64 0), .v (.int .i64 0)]) rfl rfl rfl rfl rfl rfl rfl (by (repeat (first | exact PFill.nil | (apply PFill.cons rfl rfl rfl rfl; (focus (repeat (first | exact PSplice.nil | apply PSplice.c | apply PSplice.t)))))))) ?_
                refine pwl_q rfl rfl rfl (pq_move (p := .v (.int .i64 x47.2)) rfl (.p rfl)) ?_
                refine pwl_l0 rfl rfl (pl_store (vs := [.v (.int .i64 0), .v (.int .i64 0), .v (.int .i64 0), .v (.int .i64 0), .v (.int .i64 0)]) rfl rfl rfl rfl rfl (by (repeat (first | exact PUpd.h | apply PUpd.t))) (by (repeat (first | exact PSplice.nil | apply PSplice.c | apply PSplice.t))) ?_)
                refine pwl_q rfl rfl rfl (pq_assign (p := .v (.bool false)) rfl (.p rfl)) ?_
                refine pwl_q rfl rfl rfl (pq_assign (p := .v (.int .i64 x47.2)) rfl (.p rfl)) ?_
                refine pwl_nil ?_
                (repeat (first | apply pk_block_n | apply pk_seq))
                refine pwc_ret ?_
                (repeat (first | apply pk_seq_ret | apply pk_block_ret | apply pk_mid_ret | apply pk_cut_ret))
                obtain rfl := Option.some.inj hq43
                have hb34 := (show some _ = some _ from hb34)
                (repeat (first | apply pk_seq_ret | apply pk_block_ret | apply pk_mid_ret | apply pk_cut_ret))
                refine pk_loop_ret hb34 (fun ht => ?_); subst ht
                have hb17 := (show some _ = some _ from hb17)
                (repeat (first | apply pk_seq_ret | apply pk_block_ret | apply pk_mid_ret | apply pk_cut_ret))
                refine pk_loop_ret hb17 (fun ht => ?_); subst ht
                have h := (show some _ = some _ from h)
                (repeat (first | apply pk_seq_ret | apply pk_block_ret | apply pk_mid_ret | apply pk_cut_ret))
                obtain rfl := Option.some.inj h
                exact pret_of (prv_3 (prv1_c rfl (by (repeat (first | exact List.Mem.head _ | apply List.Mem.tail))) rfl) (prv1_t rfl) (prv1_t rfl)) PSub.nil ⟨rfl, rfl⟩
              · replace hq43 := cond_f hc48 hq43
                refine pwc_skip ?_
                (repeat (first | apply pk_block_n | apply pk_seq))
                refine pwc_seq ?_
                refine pwc_region ?_
                refine pwl_q rfl rfl rfl (pq_move (p := .v (.bool v21)) rfl (.p rfl)) ?_
                refine pwl_q rfl rfl rfl (pq_not rfl (.p rfl)) ?_
                refine pwl_q rfl rfl rfl (pq_move (p := .v (.bool (!v21))) rfl (.p rfl)) ?_
                refine pwl_qg (pguard_f rfl rfl rfl) rfl rfl (pq_move (p := .v (.int .i64 x47.1)) rfl (.p rfl)) ?_
                refine pwl_qg (pguard_f rfl rfl rfl) rfl rfl (pq_fieldAddr rfl rfl rfl rfl rfl (.p rfl)) ?_
                refine pwl_qg (pguard_f rfl rfl rfl) rfl rfl (pq_load_b (p := .v (.int .i64 v27)) rfl (.g rfl) (by (repeat (first | exact List.Mem.head _ | apply List.Mem.tail))) rfl) ?_
                refine pwl_qg (pguard_f rfl rfl rfl) rfl rfl (pq_cmp rfl (.g rfl) (.g rfl) rfl) ?_
                refine pwl_q rfl rfl rfl (pq_or rfl (.p rfl) (.p rfl) (.g rfl)) ?_
                refine pwl_nil ?_
                (repeat (first | apply pk_block_n | apply pk_seq))
                refine pwc_cond rfl (fun hc49 => ?_) (fun hc49 => ?_)
                · replace hq43 := cond_t hc49 hq43
                  refine pwc_seq ?_
                  refine pwc_region ?_
                  refine pwl_q rfl rfl rfl (pq_fieldAddr rfl rfl rfl rfl rfl (.p rfl)) ?_
                  refine pwl_q rfl rfl rfl (pq_load_b (p := .v (.int .i64 m44.Kind)) rfl (.p rfl) (by (repeat (first | exact List.Mem.head _ | apply List.Mem.tail))) rfl) ?_
                  refine pwl_q rfl rfl rfl (pq_fieldAddr rfl rfl rfl rfl rfl (.p rfl)) ?_
                  refine pwl_q rfl rfl rfl (pq_load_b (p := .v (.int .i64 m44.ID)) rfl (.p rfl) (by (repeat (first | exact List.Mem.head _ | apply List.Mem.tail))) rfl) ?_
                  refine pwl_q rfl rfl rfl (pq_fieldAddr rfl rfl rfl rfl rfl (.p rfl)) ?_
                  refine pwl_q rfl rfl rfl (pq_load_b (p := .v (.int .i64 p1.quantity)) rfl (.p rfl) (by (repeat (first | exact List.Mem.head _ | apply List.Mem.tail))) rfl) ?_
                  refine pwl_q rfl rfl rfl (pq_fieldAddr rfl rfl rfl rfl rfl (.p rfl)) ?_
                  refine pwl_q rfl rfl rfl (pq_load_b (p := .v (.int .i64 p1.value)) rfl (.p rfl) (by (repeat (first | exact List.Mem.head _ | apply List.Mem.tail))) rfl) ?_
                  refine pwl_q rfl rfl rfl (pq_move (p := .v (.int .i64 x47.1)) rfl (.p rfl)) ?_
                  refine pwl_q rfl rfl rfl (pq_build (cs := [.v (.int .i64 m44.Kind), .v (.int .i64 m44.ID), .v (.int .i64 p1.quantity), .v (.int .i64 p1.value), .v (.int .i64 x47.1)]) rfl rfl rfl rfl rfl rfl rfl (by (repeat (first | exact PFill.nil | (apply PFill.cons rfl rfl rfl rfl; (focus (repeat (first | exact PSplice.nil | apply PSplice.c | apply PSplice.t)))))))) ?_
                  refine pwl_l0 rfl rfl (pl_store (vs := [.v (.int .i64 m44.Kind), .v (.int .i64 m44.ID), .v (.int .i64 p1.quantity), .v (.int .i64 p1.value), .v (.int .i64 x47.1)]) rfl rfl rfl rfl rfl (by (repeat (first | exact PUpd.h | apply PUpd.t))) (by (repeat (first | exact PSplice.nil | apply PSplice.c | apply PSplice.t))) ?_)
                  refine pwl_nil ?_
                  (repeat (first | apply pk_block_n | apply pk_seq))
                  refine pwc_region ?_
                  refine pwl_q rfl rfl rfl (pq_assign (p := .v (.bool true)) rfl (.p rfl)) ?_
                  refine pwl_nil ?_
                  refine pk_block_n ?_
                  obtain rfl := Option.some.inj hq43
                  exact pk_mid ((), (true, m44.Kind, m44.ID, p1.quantity, p1.value, x47.1)) (by (repeat (first | exact PHolds.nil | apply PHolds.cons rfl))) (by (repeat (first | exact PSub.nil | (apply PSub.cons; (focus (repeat (first | exact PPick.h | apply PPick.t))))))) rfl
                · replace hq43 := cond_f hc49 hq43
                  refine pwc_skip ?_
                  refine pk_block_n ?_
                  obtain rfl := Option.some.inj hq43
                  exact pk_mid ((), (v21, v23, v24, v25, v26, v27)) (by (repeat (first | exact PHolds.nil | apply PHolds.cons rfl))) (by (repeat (first | exact PSub.nil | (apply PSub.cons; (focus (repeat (first | exact PPick.h | apply PPick.t))))))) rfl
          · rintro ⟨_, ⟨v37, v38, v39, v40, v41, v42⟩⟩ τ hz; (try dsimp only at hz); subst q43; (try dsimp only at hb34); dsimp only [pupds]
            refine pwc_region ?_
            refine pwl_q rfl rfl rfl (pq_arith rfl (.p rfl) (.p rfl) rfl) ?_
            refine pwl_q rfl rfl rfl (pq_move (p := .v (.int .i64 (IntKind.i64.wrap (v22 + 1)))) rfl (.p rfl)) ?_
            refine pwl_nil ?_
            (repeat apply pk_block_n)
            exact pk_loop hb34 () (by (repeat (first | exact PHolds.nil | apply PHolds.cons rfl))) (by (repeat (first | exact PSub.nil | (apply PSub.cons; (focus (repeat (first | exact PPick.h | apply PPick.t)))))))
        · replace hb34 := cond_f hc36 hb34
          refine pwc_exit ?_
          (repeat (first | apply pk_seq_exit | apply pk_mid_exit | apply pk_cut_exit | apply pk_block_ne rfl))
          refine pk_loop_exit hb34 (fun ht => ?_)
          refine pk_block_eq rfl ?_
          exact pk_cut ((), (v21, v23, v24, v25, v26, v27)) (by (repeat (first | exact PHolds.nil | apply PHolds.cons rfl))) (by (repeat (first | exact PSub.nil | (apply PSub.cons; (focus (repeat (first | exact PPick.h | apply PPick.t))))))) ht.symm
      · rintro ⟨_, ⟨v28, v29, v30, v31, v32, v33⟩⟩ τ ρ1 hsub50 hz; (try dsimp only at hz hsub50); subst q35; (try dsimp only at hb17); dsimp only [pupds]
        refine pk_block_n ?_
        (repeat (first | apply pk_block_n | apply pk_seq))
        refine pwc_sub hsub50 ?_
        refine pwc_region ?_
        refine pwl_q rfl rfl rfl (pq_arith rfl (.p rfl) (.p rfl) rfl) ?_
        refine pwl_q rfl rfl rfl (pq_move (p := .v (.int .i64 (IntKind.i64.wrap (v5 + 1)))) rfl (.p rfl)) ?_
        refine pwl_nil ?_
        (repeat apply pk_block_n)
        exact pk_loop hb17 () (by (repeat (first | exact PHolds.nil | apply PHolds.cons rfl))) (by (repeat (first | exact PSub.nil | (apply PSub.cons; (focus (repeat (first | exact PPick.h | apply PPick.t)))))))
    · replace hb17 := cond_f hc19 hb17
      refine pwc_exit ?_
      (repeat (first | apply pk_seq_exit | apply pk_mid_exit | apply pk_cut_exit | apply pk_block_ne rfl))
      refine pk_loop_exit hb17 (fun ht => ?_)
      refine pk_block_eq rfl ?_
      exact pk_mid ((), (v4, v6, v7, v8, v9, v10)) (by (repeat (first | exact PHolds.nil | apply PHolds.cons rfl))) (by (repeat (first | exact PSub.nil | (apply PSub.cons; (focus (repeat (first | exact PPick.h | apply PPick.t))))))) ht.symm
  · rintro ⟨_, ⟨v11, v12, v13, v14, v15, v16⟩⟩ τ hz; (try dsimp only at hz); subst q18; (try dsimp only at h); dsimp only [pupds]
    refine pwc_seq ?_
    refine pwc_region ?_
    refine pwl_q rfl rfl rfl (pq_load_b (p := .agg [.v (.int .i64 v12), .v (.int .i64 v13), .v (.int .i64 v14), .v (.int .i64 v15), .v (.int .i64 v16)]) rfl (.p rfl) (by (repeat (first | exact List.Mem.head _ | apply List.Mem.tail))) rfl) ?_
    refine pwl_q rfl rfl rfl (pq_move (p := .v (.bool v11)) rfl (.p rfl)) ?_
    refine pwl_l0 rfl rfl (pl_store (vs := [.v (.int .i64 v12), .v (.int .i64 v13), .v (.int .i64 v14), .v (.int .i64 v15), .v (.int .i64 v16)]) rfl rfl rfl rfl rfl (by (repeat (first | exact PUpd.h | apply PUpd.t))) (by (repeat (first | exact PSplice.nil | apply PSplice.c | apply PSplice.t))) ?_)
    refine pwl_q rfl rfl rfl (pq_assign (p := .v (.bool v11)) rfl (.p rfl)) ?_
    refine pwl_q rfl rfl rfl (pq_assign (p := .v (.int .i64 0)) rfl (.p rfl)) ?_
    refine pwl_nil ?_
    (repeat (first | apply pk_block_n | apply pk_seq))
    refine pwc_ret ?_
    (repeat (first | apply pk_seq_ret | apply pk_block_ret | apply pk_mid_ret | apply pk_cut_ret))
    obtain rfl := Option.some.inj h
    exact pret_of (prv_3 (prv1_c rfl (by (repeat (first | exact List.Mem.head _ | apply List.Mem.tail))) rfl) (prv1_t rfl) (prv1_t rfl)) PSub.nil ⟨rfl, rfl⟩
/-- customs/measure.Applicable -/
def measure_Applicable (p0 : (List TMeasure)) (p1 : ByteArray) (p2 : ByteArray) (p3 : Int) (p4 : Int) : Option (List TMeasure) := Option.bind (loopF (S := ByteArray × Int × Int × (List TMeasure) × Int) (T := ((List TMeasure))) (fun (v1, v2, v3, l5, v8) => cond (decide (v8 ≤ 6)) (Option.bind (Option.bind (loopF (S := Int × Int) (T := (Int)) (fun (v22, v23) => cond (decide (v23 < (p0.length : Int))) (Option.bind (Option.bind (idx p0 v23) (fun m32 => Option.bind (gd (m32.Kind == v8) (measure_Covers m32 p1 v1 v2 v3)) (fun x34 => Option.bind (gd (((m32.Kind == v8) && x34) && (!(decide (v22 < 0)))) (idx p0 v22)) (fun m35 => Option.bind (gd (((m32.Kind == v8) && x34) && (!(decide (v22 < 0)))) (measure_precedes m32 m35)) (fun x36 => cond (((m32.Kind == v8) && x34) && ((decide (v22 < 0)) || x36)) (some v23) (some v22)))))) (fun v30 => some (.inl (v30, (IntKind.i64.wrap (v23 + 1)))))) (some (.inr v22))) FUEL ((-1), 0)) (fun v25 => cond (decide (0 ≤ v25)) (Option.bind (idx p0 v25) (fun m39 => Option.bind (slices_Clone_string_string m39.Origins) (fun x41 => Option.bind (app 144 l5 [(⟨m39.ID, m39.Kind, m39.Prefix, x41, m39.Company, m39.From, m39.To, m39.Registered, m39.Duty⟩ : TMeasure)]) (fun l47 => some l47)))) (some l5))) (fun l20 => some (.inl (v1, v2, v3, l20, (IntKind.i64.wrap (v8 + 1)))))) (some (.inr l5))) FUEL (p2, p3, p4, ([] : List TMeasure), 1)) (fun l12 => some l12)
set_option maxHeartbeats 4000000 in
theorem measure_Applicable_ok {p0 : (List TMeasure)} {p1 : ByteArray} {p2 : ByteArray} {p3 : Int} {p4 : Int} {r : (List TMeasure)}  (h : measure_Applicable p0 p1 p2 p3 p4 = some r) : PF 36 [.slc (List.map TMeasure.enc p0), .v (.string p1), .v (.string p2), .v (.int .i64 p3), .v (.int .i64 p4)] (.slc (List.map TMeasure.enc r)) := by
  unfold measure_Applicable at h
  refine pf_of ?_
  refine penter Tryz.func36 fk36 rfl Tryz.ntmps36 Tryz.results36 rfl ?_
  refine pwc_seq ?_
  refine pwc_region ?_
  refine pwl_q rfl rfl rfl (pq_assign (p := .v (.slice none 0 0)) rfl (.p rfl)) ?_
  refine pwl_nil ?_
  (repeat (first | apply pk_block_n | apply pk_seq))
  refine pwc_seq ?_
  refine pwc_region ?_
  refine pwl_q rfl rfl rfl (pq_assign (p := .v (.slice none 0 0)) rfl (.p rfl)) ?_
  refine pwl_nil ?_
  (repeat (first | apply pk_block_n | apply pk_seq))
  refine pwc_seq ?_
  refine pwc_seq ?_
  refine pwc_region ?_
  refine pwl_q rfl rfl rfl (pq_assign (p := .v (.int .i64 1)) rfl (.p rfl)) ?_
  refine pwl_nil ?_
  (repeat (first | apply pk_block_n | apply pk_seq))
  refine pwc_nilrow 46 15 ?_
  refine bind_elim h ?_; clear h; intro q14 hq14 h
  refine pwc_join (Y := (Option Addr × Nat) × ((List TMeasure))) (fun ((a10, c11), l12) => [(11, .v (.slice a10 l12.length c11))]) (fun ((a10, c11), l12) => [PRes.row a10 l12.length c11 46 15 (List.map TMeasure.enc l12)]) (fun ((a10, c11), l12) => q14 = l12) ?_ ?_
  · refine pwc_block ?_
    refine pwc_loopF (Y := Option Addr × Nat) (S := ByteArray × Int × Int × (List TMeasure) × Int) _ hq14 (fun (a6, c7) (v1, v2, v3, l5, v8) => [(0, .slc (List.map TMeasure.enc p0)), (1, .v (.string p1)), (2, .v (.string v1)), (3, .v (.int .i64 v2)), (4, .v (.int .i64 v3)), (11, .v (.slice a6 l5.length c7)), (12, .v (.int .i64 v8))]) (fun (a6, c7) (v1, v2, v3, l5, v8) => [PRes.row a6 l5.length c7 46 15 (List.map TMeasure.enc l5)]) (none, 0) (by (repeat (first | exact PHolds.nil | apply PHolds.cons rfl))) (by (repeat (first | exact PSub.nil | (apply PSub.cons; (focus (repeat (first | exact PPick.h | apply PPick.t))))))) ?_
    rintro ⟨a6, c7⟩ ⟨v1, v2, v3, l5, v8⟩ o τ hb13; (try dsimp only at hb13); dsimp only [pupds]
    refine pwc_seq ?_
    refine pwc_seq ?_
    refine pwc_region ?_
    refine pwl_q rfl rfl rfl (pq_move (p := .v (.int .i64 v8)) rfl (.p rfl)) ?_
    refine pwl_q rfl rfl rfl (pq_cmp rfl (.p rfl) (.p rfl) rfl) ?_
    refine pwl_nil ?_
    (repeat (first | apply pk_block_n | apply pk_seq))
    refine pwc_cond rfl (fun hc16 => ?_) (fun hc16 => ?_)
    · replace hb13 := cond_t hc16 hb13
      refine pwc_skip ?_
      (repeat (first | apply pk_block_n | apply pk_seq))
      refine pwc_seq ?_
      refine bind_elim hb13 ?_; clear hb13; intro q21 hq21 hb13
      refine pwc_join (Y := (Option Addr × Nat) × ((List TMeasure))) (fun ((a18, c19), l20) => [(0, .slc (List.map TMeasure.enc p0)), (1, .v (.string p1)), (2, .v (.string v1)), (3, .v (.int .i64 v2)), (4, .v (.int .i64 v3)), (11, .v (.slice a18 l20.length c19)), (12, .v (.int .i64 v8))]) (fun ((a18, c19), l20) => [PRes.row a18 l20.length c19 46 15 (List.map TMeasure.enc l20)]) (fun ((a18, c19), l20) => q21 = l20) ?_ ?_
      · skip
        refine pwc_block ?_
        refine pwc_seq ?_
        refine pwc_region ?_
        refine pwl_q rfl rfl rfl (pq_assign (p := .v (.int .i64 (-1))) rfl (.p rfl)) ?_
        refine pwl_nil ?_
        (repeat (first | apply pk_block_n | apply pk_seq))
        refine pwc_seq ?_
        refine pwc_seq ?_
        refine pwc_region ?_
        refine pwl_q rfl rfl rfl (pq_move (p := .slc (List.map TMeasure.enc p0)) rfl (.p rfl)) ?_
        refine pwl_q rfl rfl rfl (pq_lenT (enc := TMeasure.enc) rfl rfl (.p rfl)) ?_
        refine pwl_q rfl rfl rfl (pq_move (p := .v (.int .i64 0)) rfl (.p rfl)) ?_
        refine pwl_nil ?_
        (repeat (first | apply pk_block_n | apply pk_seq))
        refine bind_elim hq21 ?_; clear hq21; intro q27 hq27 hq21
        refine pwc_join (Y := (Unit) × (Int)) (fun (_, v25) => [(0, .slc (List.map TMeasure.enc p0)), (1, .v (.string p1)), (2, .v (.string v1)), (3, .v (.int .i64 v2)), (4, .v (.int .i64 v3)), (11, .v (.slice a6 l5.length c7)), (12, .v (.int .i64 v8)), (13, .v (.int .i64 v25))]) (fun (_, v25) => [PRes.row a6 l5.length c7 46 15 (List.map TMeasure.enc l5)]) (fun (_, v25) => q27 = v25) ?_ ?_
        · refine pwc_block ?_
          refine pwc_loopF (Y := Unit) (S := Int × Int) _ hq27 (fun _ (v22, v23) => [(0, .slc (List.map TMeasure.enc p0)), (1, .v (.string p1)), (2, .v (.string v1)), (3, .v (.int .i64 v2)), (4, .v (.int .i64 v3)), (11, .v (.slice a6 l5.length c7)), (12, .v (.int .i64 v8)), (13, .v (.int .i64 v22)), (21, .slc (List.map TMeasure.enc p0)), (22, .v (.int .i64 (p0.length : Int))), (23, .v (.int .i64 v23))]) (fun _ (v22, v23) => [PRes.row a6 l5.length c7 46 15 (List.map TMeasure.enc l5)]) () (by (repeat (first | exact PHolds.nil | apply PHolds.cons rfl))) (by (repeat (first | exact PSub.nil | (apply PSub.cons; (focus (repeat (first | exact PPick.h | apply PPick.t))))))) ?_
          rintro _ ⟨v22, v23⟩ o τ hb26; (try dsimp only at hb26); dsimp only [pupds]
          refine pwc_seq ?_
          refine pwc_region ?_
          refine pwl_q rfl rfl rfl (pq_cmp rfl (.p rfl) (.p rfl) rfl) ?_
          refine pwl_nil ?_
          (repeat (first | apply pk_block_n | apply pk_seq))
          refine pwc_seq ?_
          refine pwc_cond rfl (fun hc28 => ?_) (fun hc28 => ?_)
          · replace hb26 := cond_t hc28 hb26
            refine pwc_skip ?_
            (repeat (first | apply pk_block_n | apply pk_seq))
            refine pwc_seq ?_
            refine bind_elim hb26 ?_; clear hb26; intro q31 hq31 hb26
            refine pwc_join (Y := (Unit) × (Int)) (fun (_, v30) => [(0, .slc (List.map TMeasure.enc p0)), (1, .v (.string p1)), (2, .v (.string v1)), (3, .v (.int .i64 v2)), (4, .v (.int .i64 v3)), (11, .v (.slice a6 l5.length c7)), (12, .v (.int .i64 v8)), (13, .v (.int .i64 v30)), (21, .slc (List.map TMeasure.enc p0)), (22, .v (.int .i64 (p0.length : Int))), (23, .v (.int .i64 v23))]) (fun (_, v30) => [PRes.row a6 l5.length c7 46 15 (List.map TMeasure.enc l5)]) (fun (_, v30) => q31 = v30) ?_ ?_
            · skip
              refine pwc_block ?_
              refine pwc_seq ?_
              refine pwc_region ?_
              refine pwl_q rfl rfl rfl (pq_move (p := .v (.int .i64 v23)) rfl (.p rfl)) ?_
              refine bind_elim hq31 ?_; clear hq31; intro m32 hm32 hq31
              refine pwl_q rfl rfl rfl (pq_index (enc := TMeasure.enc) rfl rfl rfl (fun _ => rfl) (.p rfl) (.p rfl) (fun _ => hm32)) ?_
              refine pwl_q rfl rfl rfl (pq_load_r (p := .agg [.v (.int .i64 m32.ID), .v (.int .i64 m32.Kind), .v (.string m32.Prefix), .slc (List.map eS m32.Origins), .v (.int .i64 m32.Company), .v (.int .i64 m32.From), .v (.int .i64 m32.To), .v (.int .i64 m32.Registered), .v (.int .i64 m32.Duty.Rate), .v (.int .i64 m32.Duty.Amount), .v (.int .i64 m32.Duty.Per), .v (.bool m32.Duty.HasMost), .v (.int .i64 m32.Duty.Most), .v (.bool m32.Duty.HasLeast), .v (.int .i64 m32.Duty.Least)]) rfl (.p rfl) rfl) ?_
              refine pwl_l rfl rfl rfl (pl_alloc (cs := [.v (.int .i64 0), .v (.int .i64 0), .v (.string ByteArray.empty), .v (.slice none 0 0), .v (.int .i64 0), .v (.int .i64 0), .v (.int .i64 0), .v (.int .i64 0), .v (.int .i64 0), .v (.int .i64 0), .v (.int .i64 0), .v (.bool false), .v (.int .i64 0), .v (.bool false), .v (.int .i64 0)]) rfl rfl rfl rfl (fun b33 => ?_))
              refine pwl_q rfl rfl rfl (pq_assign (p := .v (.int .i64 v23)) rfl (.p rfl)) ?_
              refine pwl_l0 rfl rfl (pl_store (vs := [.v (.int .i64 m32.ID), .v (.int .i64 m32.Kind), .v (.string m32.Prefix), .slc (List.map eS m32.Origins), .v (.int .i64 m32.Company), .v (.int .i64 m32.From), .v (.int .i64 m32.To), .v (.int .i64 m32.Registered), .v (.int .i64 m32.Duty.Rate), .v (.int .i64 m32.Duty.Amount), .v (.int .i64 m32.Duty.Per), .v (.bool m32.Duty.HasMost), .v (.int .i64 m32.Duty.Most), .v (.bool m32.Duty.HasLeast), .v (.int .i64 m32.Duty.Least)]) rfl rfl rfl rfl rfl (by (repeat (first | exact PUpd.h | apply PUpd.t))) (by (repeat (first | exact PSplice.nil | apply PSplice.c | apply PSplice.t))) ?_)
              refine pwl_nil ?_
              (repeat (first | apply pk_block_n | apply pk_seq))
              refine pwc_seq ?_
              refine pwc_draw (ρd := []) [(0, 0), (1, 0), (2, 0), (3, 0), (4, 0), (5, 0), (6, 0), (7, 0), (8, 0), (9, 0), (10, 1), (11, 0), (12, 0), (13, 0), (14, 0), (15, 0), (16, 0), (17, 0), (18, 0), (19, 0), (20, 0), (21, 1), (22, 0), (23, 0)] _ (List.Perm.refl _) (by kernel_rfl) rfl ?_
              refine pwd_q rfl rfl rfl (pq_fieldAddr rfl rfl rfl rfl rfl (.p rfl)) ?_
              refine pwd_q rfl rfl rfl (pq_load_b (p := .v (.int .i64 m32.Kind)) rfl (.p rfl) (by (repeat (first | exact List.Mem.head _ | apply List.Mem.tail))) rfl) ?_
              refine pwd_q rfl rfl rfl (pq_move (p := .v (.int .i64 v8)) rfl (.p rfl)) ?_
              refine pwd_q rfl rfl rfl (pq_cmp rfl (.p rfl) (.p rfl) rfl) ?_
              refine pwd_q rfl rfl rfl (pq_move (p := .v (.bool (m32.Kind == v8))) rfl (.p rfl)) ?_
              refine pwd_qg (pguard_t rfl rfl rfl) rfl rfl (pq_load_b (p := .agg [.v (.int .i64 m32.ID), .v (.int .i64 m32.Kind), .v (.string m32.Prefix), .slc (List.map eS m32.Origins), .v (.int .i64 m32.Company), .v (.int .i64 m32.From), .v (.int .i64 m32.To), .v (.int .i64 m32.Registered), .v (.int .i64 m32.Duty.Rate), .v (.int .i64 m32.Duty.Amount), .v (.int .i64 m32.Duty.Per), .v (.bool m32.Duty.HasMost), .v (.int .i64 m32.Duty.Most), .v (.bool m32.Duty.HasLeast), .v (.int .i64 m32.Duty.Least)]) rfl (.p rfl) (by (repeat (first | exact List.Mem.head _ | apply List.Mem.tail))) rfl) ?_
              refine pwd_qg (pguard_t rfl rfl rfl) rfl rfl (pq_move (p := .v (.string p1)) rfl (.p rfl)) ?_
              refine pwd_qg (pguard_t rfl rfl rfl) rfl rfl (pq_move (p := .v (.string v1)) rfl (.p rfl)) ?_
              refine pwd_qg (pguard_t rfl rfl rfl) rfl rfl (pq_move (p := .v (.int .i64 v2)) rfl (.p rfl)) ?_
              refine pwd_qg (pguard_t rfl rfl rfl) rfl rfl (pq_move (p := .v (.int .i64 v3)) rfl (.p rfl)) ?_
              refine bind_elim hq31 ?_; clear hq31; intro x34 hx34 hq31
              refine pwd_callg (pguard_t rfl rfl rfl) rfl rfl rfl (pargs_cons (.g rfl) (pargs_cons (.g rfl) (pargs_cons (.g rfl) (pargs_cons (.g rfl) (pargs_cons (.g rfl) (pargs_nil)))))) (fun hc => measure_Covers_ok (gd_t hx34 hc)) ?_
              refine pwd_q rfl rfl rfl (pq_and rfl (.p rfl) (.p rfl) (.g rfl)) ?_
              refine pwd_q rfl rfl rfl (pq_move (p := .v (.bool ((m32.Kind == v8) && x34))) rfl (.p rfl)) ?_
              refine pwd_qg (pguard_t rfl rfl rfl) rfl rfl (pq_move (p := .v (.int .i64 v22)) rfl (.p rfl)) ?_
              refine pwd_qg (pguard_t rfl rfl rfl) rfl rfl (pq_cmp rfl (.g rfl) (.p rfl) rfl) ?_
              refine pwd_qg (pguard_t rfl rfl rfl) rfl rfl (pq_move (p := .v (.bool (decide (v22 < 0)))) rfl (.g rfl)) ?_
              refine pwd_qg (pguard_gf rfl rfl rfl) rfl rfl (pq_load_b (p := .agg [.v (.int .i64 m32.ID), .v (.int .i64 m32.Kind), .v (.string m32.Prefix), .slc (List.map eS m32.Origins), .v (.int .i64 m32.Company), .v (.int .i64 m32.From), .v (.int .i64 m32.To), .v (.int .i64 m32.Registered), .v (.int .i64 m32.Duty.Rate), .v (.int .i64 m32.Duty.Amount), .v (.int .i64 m32.Duty.Per), .v (.bool m32.Duty.HasMost), .v (.int .i64 m32.Duty.Most), .v (.bool m32.Duty.HasLeast), .v (.int .i64 m32.Duty.Least)]) rfl (.p rfl) (by (repeat (first | exact List.Mem.head _ | apply List.Mem.tail))) rfl) ?_
              refine pwd_qg (pguard_gf rfl rfl rfl) rfl rfl (pq_move (p := .slc (List.map TMeasure.enc p0)) rfl (.p rfl)) ?_
              refine pwd_qg (pguard_gf rfl rfl rfl) rfl rfl (pq_move (p := .v (.int .i64 v22)) rfl (.p rfl)) ?_
              refine bind_elim hq31 ?_; clear hq31; intro m35 hm35 hq31
              refine pwd_qg (pguard_gf rfl rfl rfl) rfl rfl (pq_index (enc := TMeasure.enc) rfl rfl rfl (fun _ => rfl) (.g rfl) (.g rfl) (gd_t hm35)) ?_
              refine pwd_qg (pguard_gf rfl rfl rfl) rfl rfl (pq_load_r (p := .agg [.v (.int .i64 m35.ID), .v (.int .i64 m35.Kind), .v (.string m35.Prefix), .slc (List.map eS m35.Origins), .v (.int .i64 m35.Company), .v (.int .i64 m35.From), .v (.int .i64 m35.To), .v (.int .i64 m35.Registered), .v (.int .i64 m35.Duty.Rate), .v (.int .i64 m35.Duty.Amount), .v (.int .i64 m35.Duty.Per), .v (.bool m35.Duty.HasMost), .v (.int .i64 m35.Duty.Most), .v (.bool m35.Duty.HasLeast), .v (.int .i64 m35.Duty.Least)]) rfl (.g rfl) rfl) ?_
              refine bind_elim hq31 ?_; clear hq31; intro x36 hx36 hq31
              refine pwd_callg (pguard_gf rfl rfl rfl) rfl rfl rfl (pargs_cons (.g rfl) (pargs_cons (.g rfl) (pargs_nil))) (fun hc => measure_precedes_ok (gd_t hx36 hc)) ?_
              refine pwd_qg (pguard_t rfl rfl rfl) rfl rfl (pq_or rfl (.g rfl) (.p rfl) (.g rfl)) ?_
              refine pwd_q rfl rfl rfl (pq_and rfl (.p rfl) (.p rfl) (.g rfl)) ?_
              refine pwd_nil ?_
              (repeat (first | apply pk_block_n | apply pk_seq))
              refine pwc_cond rfl (fun hc37 => ?_) (fun hc37 => ?_)
              · replace hq31 := cond_t hc37 hq31
                refine pwc_region ?_
                refine pwl_q rfl rfl rfl (pq_move (p := .v (.int .i64 v23)) rfl (.p rfl)) ?_
                refine pwl_q rfl rfl rfl (pq_assign (p := .v (.int .i64 v23)) rfl (.p rfl)) ?_
                refine pwl_nil ?_
                refine pk_block_n ?_
                obtain rfl := Option.some.inj hq31
                exact pk_mid ((), v23) (by (repeat (first | exact PHolds.nil | apply PHolds.cons rfl))) (by (repeat (first | exact PSub.nil | (apply PSub.cons; (focus (repeat (first | exact PPick.h | apply PPick.t))))))) rfl
              · replace hq31 := cond_f hc37 hq31
                refine pwc_skip ?_
                refine pk_block_n ?_
                obtain rfl := Option.some.inj hq31
                exact pk_mid ((), v22) (by (repeat (first | exact PHolds.nil | apply PHolds.cons rfl))) (by (repeat (first | exact PSub.nil | (apply PSub.cons; (focus (repeat (first | exact PPick.h | apply PPick.t))))))) rfl
            · rintro ⟨_, v30⟩ τ hz; (try dsimp only at hz); subst q31; (try dsimp only at hb26); dsimp only [pupds]
              refine pwc_region ?_
              refine pwl_q rfl rfl rfl (pq_arith rfl (.p rfl) (.p rfl) rfl) ?_
              refine pwl_q rfl rfl rfl (pq_move (p := .v (.int .i64 (IntKind.i64.wrap (v23 + 1)))) rfl (.p rfl)) ?_
              refine pwl_nil ?_
              (repeat apply pk_block_n)
              exact pk_loop hb26 () (by (repeat (first | exact PHolds.nil | apply PHolds.cons rfl))) (by (repeat (first | exact PSub.nil | (apply PSub.cons; (focus (repeat (first | exact PPick.h | apply PPick.t)))))))
          · replace hb26 := cond_f hc28 hb26
            refine pwc_exit ?_
            (repeat (first | apply pk_seq_exit | apply pk_mid_exit | apply pk_cut_exit | apply pk_block_ne rfl))
            refine pk_loop_exit hb26 (fun ht => ?_)
            refine pk_block_eq rfl ?_
            exact pk_mid ((), v22) (by (repeat (first | exact PHolds.nil | apply PHolds.cons rfl))) (by (repeat (first | exact PSub.nil | (apply PSub.cons; (focus (repeat (first | exact PPick.h | apply PPick.t))))))) ht.symm
        · rintro ⟨_, v25⟩ τ hz; (try dsimp only at hz); subst q27; (try dsimp only at hq21); dsimp only [pupds]
          refine pwc_seq ?_
          refine pwc_region ?_
          refine pwl_q rfl rfl rfl (pq_move (p := .v (.int .i64 v25)) rfl (.p rfl)) ?_
          refine pwl_q rfl rfl rfl (pq_cmp rfl (.p rfl) (.p rfl) rfl) ?_
          refine pwl_nil ?_
          (repeat (first | apply pk_block_n | apply pk_seq))
          refine pwc_cond rfl (fun hc38 => ?_) (fun hc38 => ?_)
          · replace hq21 := cond_t hc38 hq21
            refine pwc_seq ?_
            refine pwc_region ?_
            refine pwl_q rfl rfl rfl (pq_move (p := .slc (List.map TMeasure.enc p0)) rfl (.p rfl)) ?_
            refine pwl_q rfl rfl rfl (pq_move (p := .v (.int .i64 v25)) rfl (.p rfl)) ?_
            refine bind_elim hq21 ?_; clear hq21; intro m39 hm39 hq21
            refine pwl_q rfl rfl rfl (pq_index (enc := TMeasure.enc) rfl rfl rfl (fun _ => rfl) (.p rfl) (.p rfl) (fun _ => hm39)) ?_
            refine pwl_q rfl rfl rfl (pq_load_r (p := .agg [.v (.int .i64 m39.ID), .v (.int .i64 m39.Kind), .v (.string m39.Prefix), .slc (List.map eS m39.Origins), .v (.int .i64 m39.Company), .v (.int .i64 m39.From), .v (.int .i64 m39.To), .v (.int .i64 m39.Registered), .v (.int .i64 m39.Duty.Rate), .v (.int .i64 m39.Duty.Amount), .v (.int .i64 m39.Duty.Per), .v (.bool m39.Duty.HasMost), .v (.int .i64 m39.Duty.Most), .v (.bool m39.Duty.HasLeast), .v (.int .i64 m39.Duty.Least)]) rfl (.p rfl) rfl) ?_
            refine pwl_l rfl rfl rfl (pl_alloc (cs := [.v (.int .i64 0), .v (.int .i64 0), .v (.string ByteArray.empty), .v (.slice none 0 0), .v (.int .i64 0), .v (.int .i64 0), .v (.int .i64 0), .v (.int .i64 0), .v (.int .i64 0), .v (.int .i64 0), .v (.int .i64 0), .v (.bool false), .v (.int .i64 0), .v (.bool false), .v (.int .i64 0)]) rfl rfl rfl rfl (fun b40 => ?_))
            refine pwl_l0 rfl rfl (pl_store (vs := [.v (.int .i64 m39.ID), .v (.int .i64 m39.Kind), .v (.string m39.Prefix), .slc (List.map eS m39.Origins), .v (.int .i64 m39.Company), .v (.int .i64 m39.From), .v (.int .i64 m39.To), .v (.int .i64 m39.Registered), .v (.int .i64 m39.Duty.Rate), .v (.int .i64 m39.Duty.Amount), .v (.int .i64 m39.Duty.Per), .v (.bool m39.Duty.HasMost), .v (.int .i64 m39.Duty.Most), .v (.bool m39.Duty.HasLeast), .v (.int .i64 m39.Duty.Least)]) rfl rfl rfl rfl rfl (by (repeat (first | exact PUpd.h | apply PUpd.t))) (by (repeat (first | exact PSplice.nil | apply PSplice.c | apply PSplice.t))) ?_)
            refine pwl_nil ?_
            (repeat (first | apply pk_block_n | apply pk_seq))
            refine pwc_seq ?_
            refine pwc_region ?_
            refine pwl_q rfl rfl rfl (pq_fieldAddr rfl rfl rfl rfl rfl (.p rfl)) ?_
            refine pwl_q rfl rfl rfl (pq_load_b (p := .slc (List.map eS m39.Origins)) rfl (.p rfl) (by (repeat (first | exact List.Mem.head _ | apply List.Mem.tail))) rfl) ?_
            refine bind_elim hq21 ?_; clear hq21; intro x41 hx41 hq21
            refine pwl_l rfl rfl rfl (pl_callR rfl rfl (ρ1 := []) (List.Perm.refl _) (slices_Clone_string_string_ok hx41) ?_); rintro _ _ ⟨a42, c43, rfl, rfl⟩
            refine pwl_q rfl rfl rfl (pq_fieldAddr rfl rfl rfl rfl rfl (.p rfl)) ?_
            refine pwl_l0 rfl rfl (pl_store (vs := [.v (.slice a42 x41.length c43)]) rfl rfl rfl rfl rfl (by (repeat (first | exact PUpd.h | apply PUpd.t))) (by (repeat (first | exact PSplice.nil | apply PSplice.c | apply PSplice.t))) ?_)
            refine pwl_nil ?_
            (repeat (first | apply pk_block_n | apply pk_seq))
            refine pwc_region ?_
            refine pwl_q rfl rfl rfl (pq_move (p := .v (.slice a6 l5.length c7)) rfl (.p rfl)) ?_
            refine pwl_frz (css := List.map eS x41) (a := a42) (by (repeat (first | exact PPick.h | apply PPick.t))) ?_
            refine pwl_viewb (k := 3) (css := List.map eS x41) (b := b40) (a := a42) rfl (by (repeat (first | exact List.Mem.head _ | apply List.Mem.tail))) (by (repeat (first | exact PUpd.h | apply PUpd.t))) ?_
            refine pwl_q rfl rfl rfl (pq_load_b (p := .agg [.v (.int .i64 m39.ID), .v (.int .i64 m39.Kind), .v (.string m39.Prefix), .slc (List.map eS x41), .v (.int .i64 m39.Company), .v (.int .i64 m39.From), .v (.int .i64 m39.To), .v (.int .i64 m39.Registered), .v (.int .i64 m39.Duty.Rate), .v (.int .i64 m39.Duty.Amount), .v (.int .i64 m39.Duty.Per), .v (.bool m39.Duty.HasMost), .v (.int .i64 m39.Duty.Most), .v (.bool m39.Duty.HasLeast), .v (.int .i64 m39.Duty.Least)]) rfl (.p rfl) (by (repeat (first | exact List.Mem.head _ | apply List.Mem.tail))) rfl) ?_
            refine pwl_l rfl rfl rfl (pl_lit rfl rfl rfl rfl rfl (by (repeat (first | exact PLit.nil | apply PLit.cons rfl))) rfl rfl rfl rfl (fun b45 => ?_))
            refine bind_elim hq21 ?_; clear hq21; intro l47 hl47 hq21
            refine pwl_l rfl rfl rfl (pl_app_o (enc := TMeasure.enc) rfl rfl rfl rfl rfl rfl rfl rfl rfl (by (repeat (first | exact List.Mem.head _ | apply List.Mem.tail))) (by (repeat (first | exact PPick.h | apply PPick.t))) hl47 (fun a48 c49 => ?_))
            refine pwl_q rfl rfl rfl (pq_assign (p := .v (.slice a48 l47.length c49)) rfl (.p rfl)) ?_
            refine pwl_nil ?_
            refine pk_block_n ?_
            obtain rfl := Option.some.inj hq21
            exact pk_mid ((a48, c49), l47) (by (repeat (first | exact PHolds.nil | apply PHolds.cons rfl))) (by (repeat (first | exact PSub.nil | (apply PSub.cons; (focus (repeat (first | exact PPick.h | apply PPick.t))))))) rfl
          · replace hq21 := cond_f hc38 hq21
            refine pwc_skip ?_
            refine pk_block_n ?_
            obtain rfl := Option.some.inj hq21
            exact pk_mid ((a6, c7), l5) (by (repeat (first | exact PHolds.nil | apply PHolds.cons rfl))) (by (repeat (first | exact PSub.nil | (apply PSub.cons; (focus (repeat (first | exact PPick.h | apply PPick.t))))))) rfl
      · rintro ⟨⟨a18, c19⟩, l20⟩ τ hz; (try dsimp only at hz); subst q21; (try dsimp only at hb13); dsimp only [pupds]
        refine pwc_region ?_
        refine pwl_q rfl rfl rfl (pq_move (p := .v (.int .i64 v8)) rfl (.p rfl)) ?_
        refine pwl_q rfl rfl rfl (pq_arith rfl (.p rfl) (.p rfl) rfl) ?_
        refine pwl_q rfl rfl rfl (pq_assign (p := .v (.int .i64 (IntKind.i64.wrap (v8 + 1)))) rfl (.p rfl)) ?_
        refine pwl_nil ?_
        (repeat apply pk_block_n)
        exact pk_loop hb13 (a18, c19) (by (repeat (first | exact PHolds.nil | apply PHolds.cons rfl))) (by (repeat (first | exact PSub.nil | (apply PSub.cons; (focus (repeat (first | exact PPick.h | apply PPick.t)))))))
    · replace hb13 := cond_f hc16 hb13
      refine pwc_exit ?_
      (repeat (first | apply pk_seq_exit | apply pk_mid_exit | apply pk_cut_exit | apply pk_block_ne rfl))
      refine pk_loop_exit hb13 (fun ht => ?_)
      refine pk_block_eq rfl ?_
      exact pk_mid ((a6, c7), l5) (by (repeat (first | exact PHolds.nil | apply PHolds.cons rfl))) (by (repeat (first | exact PSub.nil | (apply PSub.cons; (focus (repeat (first | exact PPick.h | apply PPick.t))))))) ht.symm
  · rintro ⟨⟨a10, c11⟩, l12⟩ τ hz; (try dsimp only at hz); subst q14; (try dsimp only at h); dsimp only [pupds]
    refine pwc_seq ?_
    refine pwc_region ?_
    refine pwl_q rfl rfl rfl (pq_move (p := .v (.slice a10 l12.length c11)) rfl (.p rfl)) ?_
    refine pwl_q rfl rfl rfl (pq_assign (p := .v (.slice a10 l12.length c11)) rfl (.p rfl)) ?_
    refine pwl_nil ?_
    (repeat (first | apply pk_block_n | apply pk_seq))
    refine pwc_frzt (css := List.map TMeasure.enc l12) 10 rfl (by (repeat (first | exact PPick.h | apply PPick.t))) ?_
    refine pwc_ret ?_
    (repeat (first | apply pk_seq_ret | apply pk_block_ret | apply pk_mid_ret | apply pk_cut_ret))
    obtain rfl := Option.some.inj h
    exact pret_of (prv_1 (prv1_t rfl)) PSub.nil ⟨rfl, rfl⟩
/-- customs/measure.Validate -/
def measure_Validate (p0 : (List TMeasure)) : Option Int := cond (decide (300 < (p0.length : Int))) (some 8) (Option.bind (loopF (S := Int) (T := (Unit) ⊕ (_)) (fun v2 => cond (decide (v2 < (p0.length : Int))) (Option.bind (idx p0 v2) (fun m6 => cond ((((((decide (m6.ID < 1)) || (decide (1000000 < m6.ID))) || (decide (m6.Kind < 1))) || (decide (6 < m6.Kind))) || (decide (m6.Company < 0))) || (decide (999 < m6.Company))) (some (.inr (.inr 2))) (Option.bind (gd (decide (0 < v2)) (idx p0 (IntKind.i64.wrap (v2 - 1)))) (fun m9 => cond ((decide (0 < v2)) && (decide (m6.ID ≤ m9.ID))) (some (.inr (.inr 9))) (Option.bind (nomenclature_Level m6.Prefix) (fun x11 => cond (x11 == 0) (some (.inr (.inr 1))) (cond (decide (20 < (m6.Origins.length : Int))) (some (.inr (.inr 8))) (Option.bind (measure_validOrigins m6.Origins) (fun x14 => cond (!x14) (some (.inr (.inr 1))) (cond (((((decide (m6.From < 0)) || (decide (m6.To ≤ m6.From))) || (decide (36525 < m6.To))) || (decide (m6.Registered < (-1)))) || (decide (m6.From < m6.Registered))) (some (.inr (.inr 2))) (Option.bind (duty_Validate m6.Duty) (fun x17 => cond (x17 != 0) (some (.inr (.inr x17))) (some (.inl (IntKind.i64.wrap (v2 + 1)))))))))))))))) (some (.inr (.inl ())))) FUEL 0) (fun q => match q with | .inl _ => some 0 | .inr e => some e))
set_option maxHeartbeats 4000000 in
theorem measure_Validate_ok {p0 : (List TMeasure)} {r : Int}  (h : measure_Validate p0 = some r) : PF 35 [.slc (List.map TMeasure.enc p0)] (.v (.int .i64 r)) := by
  unfold measure_Validate at h
  refine pf_of ?_
  refine penter Tryz.func35 fk35 rfl Tryz.ntmps35 Tryz.results35 rfl ?_
  refine pwc_seq ?_
  refine pwc_region ?_
  refine pwl_q rfl rfl rfl (pq_assign (p := .v (.int .i64 0)) rfl (.p rfl)) ?_
  refine pwl_nil ?_
  (repeat (first | apply pk_block_n | apply pk_seq))
  refine pwc_seq ?_
  refine pwc_seq ?_
  refine pwc_region ?_
  refine pwl_q rfl rfl rfl (pq_move (p := .slc (List.map TMeasure.enc p0)) rfl (.p rfl)) ?_
  refine pwl_q rfl rfl rfl (pq_lenT (enc := TMeasure.enc) rfl rfl (.p rfl)) ?_
  refine pwl_q rfl rfl rfl (pq_cmp rfl (.p rfl) (.p rfl) rfl) ?_
  refine pwl_nil ?_
  (repeat (first | apply pk_block_n | apply pk_seq))
  refine pwc_cond rfl (fun hc1 => ?_) (fun hc1 => ?_)
  · replace h := cond_t hc1 h
    refine pwc_seq ?_
    refine pwc_region ?_
    refine pwl_q rfl rfl rfl (pq_assign (p := .v (.int .i64 8)) rfl (.p rfl)) ?_
    refine pwl_nil ?_
    (repeat (first | apply pk_block_n | apply pk_seq))
    refine pwc_ret ?_
    (repeat (first | apply pk_seq_ret | apply pk_block_ret | apply pk_mid_ret | apply pk_cut_ret))
    obtain rfl := Option.some.inj h
    exact pret_of (prv_1 (prv1_t rfl)) PSub.nil ⟨rfl, rfl⟩
  · replace h := cond_f hc1 h
    refine pwc_skip ?_
    (repeat (first | apply pk_block_n | apply pk_seq))
    refine pwc_seq ?_
    refine pwc_seq ?_
    refine pwc_region ?_
    refine pwl_q rfl rfl rfl (pq_move (p := .slc (List.map TMeasure.enc p0)) rfl (.p rfl)) ?_
    refine pwl_q rfl rfl rfl (pq_lenT (enc := TMeasure.enc) rfl rfl (.p rfl)) ?_
    refine pwl_q rfl rfl rfl (pq_move (p := .v (.int .i64 0)) rfl (.p rfl)) ?_
    refine pwl_nil ?_
    (repeat (first | apply pk_block_n | apply pk_seq))
    refine bind_elim h ?_; clear h; intro q4 hq4 h
    refine pwc_join (Y := (Unit) × (Unit)) (fun (_, _) => []) (fun (_, _) => []) (fun (_, _) => q4 = Sum.inl ()) ?_ ?_
    · refine pwc_block ?_
      refine pwc_loopF (Y := Unit) (S := Int) _ hq4 (fun _ v2 => [(0, .slc (List.map TMeasure.enc p0)), (9, .slc (List.map TMeasure.enc p0)), (10, .v (.int .i64 (p0.length : Int))), (11, .v (.int .i64 v2))]) (fun _ v2 => []) () (by (repeat (first | exact PHolds.nil | apply PHolds.cons rfl))) (by (repeat (first | exact PSub.nil | (apply PSub.cons; (focus (repeat (first | exact PPick.h | apply PPick.t))))))) ?_
      rintro _ v2 o τ hb3; (try dsimp only at hb3); dsimp only [pupds]
      refine pwc_seq ?_
      refine pwc_region ?_
      refine pwl_q rfl rfl rfl (pq_cmp rfl (.p rfl) (.p rfl) rfl) ?_
      refine pwl_nil ?_
      (repeat (first | apply pk_block_n | apply pk_seq))
      refine pwc_seq ?_
      refine pwc_cond rfl (fun hc5 => ?_) (fun hc5 => ?_)
      · replace hb3 := cond_t hc5 hb3
        refine pwc_skip ?_
        (repeat (first | apply pk_block_n | apply pk_seq))
        refine pwc_seq ?_
        refine pwc_block ?_
        refine pwc_seq ?_
        refine pwc_region ?_
        refine pwl_q rfl rfl rfl (pq_move (p := .v (.int .i64 v2)) rfl (.p rfl)) ?_
        refine bind_elim hb3 ?_; clear hb3; intro m6 hm6 hb3
        refine pwl_q rfl rfl rfl (pq_index (enc := TMeasure.enc) rfl rfl rfl (fun _ => rfl) (.p rfl) (.p rfl) (fun _ => hm6)) ?_
        refine pwl_q rfl rfl rfl (pq_load_r (p := .agg [.v (.int .i64 m6.ID), .v (.int .i64 m6.Kind), .v (.string m6.Prefix), .slc (List.map eS m6.Origins), .v (.int .i64 m6.Company), .v (.int .i64 m6.From), .v (.int .i64 m6.To), .v (.int .i64 m6.Registered), .v (.int .i64 m6.Duty.Rate), .v (.int .i64 m6.Duty.Amount), .v (.int .i64 m6.Duty.Per), .v (.bool m6.Duty.HasMost), .v (.int .i64 m6.Duty.Most), .v (.bool m6.Duty.HasLeast), .v (.int .i64 m6.Duty.Least)]) rfl (.p rfl) rfl) ?_
        refine pwl_l rfl rfl rfl (pl_alloc (cs := [.v (.int .i64 0), .v (.int .i64 0), .v (.string ByteArray.empty), .v (.slice none 0 0), .v (.int .i64 0), .v (.int .i64 0), .v (.int .i64 0), .v (.int .i64 0), .v (.int .i64 0), .v (.int .i64 0), .v (.int .i64 0), .v (.bool false), .v (.int .i64 0), .v (.bool false), .v (.int .i64 0)]) rfl rfl rfl rfl (fun b7 => ?_))
        refine pwl_q rfl rfl rfl (pq_assign (p := .v (.int .i64 v2)) rfl (.p rfl)) ?_
        refine pwl_l0 rfl rfl (pl_store (vs := [.v (.int .i64 m6.ID), .v (.int .i64 m6.Kind), .v (.string m6.Prefix), .slc (List.map eS m6.Origins), .v (.int .i64 m6.Company), .v (.int .i64 m6.From), .v (.int .i64 m6.To), .v (.int .i64 m6.Registered), .v (.int .i64 m6.Duty.Rate), .v (.int .i64 m6.Duty.Amount), .v (.int .i64 m6.Duty.Per), .v (.bool m6.Duty.HasMost), .v (.int .i64 m6.Duty.Most), .v (.bool m6.Duty.HasLeast), .v (.int .i64 m6.Duty.Least)]) rfl rfl rfl rfl rfl (by (repeat (first | exact PUpd.h | apply PUpd.t))) (by (repeat (first | exact PSplice.nil | apply PSplice.c | apply PSplice.t))) ?_)
        refine pwl_nil ?_
        (repeat (first | apply pk_block_n | apply pk_seq))
        refine pwc_seq ?_
        refine pwc_seq ?_
        refine pwc_region ?_
        refine pwl_q rfl rfl rfl (pq_fieldAddr rfl rfl rfl rfl rfl (.p rfl)) ?_
        refine pwl_q rfl rfl rfl (pq_load_b (p := .v (.int .i64 m6.ID)) rfl (.p rfl) (by (repeat (first | exact List.Mem.head _ | apply List.Mem.tail))) rfl) ?_
        refine pwl_q rfl rfl rfl (pq_cmp rfl (.p rfl) (.p rfl) rfl) ?_
        refine pwl_q rfl rfl rfl (pq_move (p := .v (.bool (decide (m6.ID < 1)))) rfl (.p rfl)) ?_
        refine pwl_qg (pguard_f rfl rfl rfl) rfl rfl (pq_fieldAddr rfl rfl rfl rfl rfl (.p rfl)) ?_
        refine pwl_qg (pguard_f rfl rfl rfl) rfl rfl (pq_load_b (p := .v (.int .i64 m6.ID)) rfl (.g rfl) (by (repeat (first | exact List.Mem.head _ | apply List.Mem.tail))) rfl) ?_
        refine pwl_qg (pguard_f rfl rfl rfl) rfl rfl (pq_cmp rfl (.g rfl) (.p rfl) rfl) ?_
        refine pwl_q rfl rfl rfl (pq_or rfl (.p rfl) (.p rfl) (.g rfl)) ?_
        refine pwl_q rfl rfl rfl (pq_move (p := .v (.bool ((decide (m6.ID < 1)) || (decide (1000000 < m6.ID))))) rfl (.p rfl)) ?_
        refine pwl_qg (pguard_f rfl rfl rfl) rfl rfl (pq_fieldAddr rfl rfl rfl rfl rfl (.p rfl)) ?_
        refine pwl_qg (pguard_f rfl rfl rfl) rfl rfl (pq_load_b (p := .v (.int .i64 m6.Kind)) rfl (.g rfl) (by (repeat (first | exact List.Mem.head _ | apply List.Mem.tail))) rfl) ?_
        refine pwl_qg (pguard_f rfl rfl rfl) rfl rfl (pq_cmp rfl (.g rfl) (.p rfl) rfl) ?_
        refine pwl_q rfl rfl rfl (pq_or rfl (.p rfl) (.p rfl) (.g rfl)) ?_
        refine pwl_q rfl rfl rfl (pq_move (p := .v (.bool (((decide (m6.ID < 1)) || (decide (1000000 < m6.ID))) || (decide (m6.Kind < 1))))) rfl (.p rfl)) ?_
        refine pwl_qg (pguard_f rfl rfl rfl) rfl rfl (pq_fieldAddr rfl rfl rfl rfl rfl (.p rfl)) ?_
        refine pwl_qg (pguard_f rfl rfl rfl) rfl rfl (pq_load_b (p := .v (.int .i64 m6.Kind)) rfl (.g rfl) (by (repeat (first | exact List.Mem.head _ | apply List.Mem.tail))) rfl) ?_
        refine pwl_qg (pguard_f rfl rfl rfl) rfl rfl (pq_cmp rfl (.g rfl) (.p rfl) rfl) ?_
        refine pwl_q rfl rfl rfl (pq_or rfl (.p rfl) (.p rfl) (.g rfl)) ?_
        refine pwl_q rfl rfl rfl (pq_move (p := .v (.bool ((((decide (m6.ID < 1)) || (decide (1000000 < m6.ID))) || (decide (m6.Kind < 1))) || (decide (6 < m6.Kind))))) rfl (.p rfl)) ?_
        refine pwl_qg (pguard_f rfl rfl rfl) rfl rfl (pq_fieldAddr rfl rfl rfl rfl rfl (.p rfl)) ?_
        refine pwl_qg (pguard_f rfl rfl rfl) rfl rfl (pq_load_b (p := .v (.int .i64 m6.Company)) rfl (.g rfl) (by (repeat (first | exact List.Mem.head _ | apply List.Mem.tail))) rfl) ?_
        refine pwl_qg (pguard_f rfl rfl rfl) rfl rfl (pq_cmp rfl (.g rfl) (.p rfl) rfl) ?_
        refine pwl_q rfl rfl rfl (pq_or rfl (.p rfl) (.p rfl) (.g rfl)) ?_
        refine pwl_q rfl rfl rfl (pq_move (p := .v (.bool (((((decide (m6.ID < 1)) || (decide (1000000 < m6.ID))) || (decide (m6.Kind < 1))) || (decide (6 < m6.Kind))) || (decide (m6.Company < 0))))) rfl (.p rfl)) ?_
        refine pwl_qg (pguard_f rfl rfl rfl) rfl rfl (pq_fieldAddr rfl rfl rfl rfl rfl (.p rfl)) ?_
        refine pwl_qg (pguard_f rfl rfl rfl) rfl rfl (pq_load_b (p := .v (.int .i64 m6.Company)) rfl (.g rfl) (by (repeat (first | exact List.Mem.head _ | apply List.Mem.tail))) rfl) ?_
        refine pwl_qg (pguard_f rfl rfl rfl) rfl rfl (pq_cmp rfl (.g rfl) (.p rfl) rfl) ?_
        refine pwl_q rfl rfl rfl (pq_or rfl (.p rfl) (.p rfl) (.g rfl)) ?_
        refine pwl_nil ?_
        (repeat (first | apply pk_block_n | apply pk_seq))
        refine pwc_cond rfl (fun hc8 => ?_) (fun hc8 => ?_)
        · replace hb3 := cond_t hc8 hb3
          refine pwc_seq ?_
          refine pwc_region ?_
          refine pwl_q rfl rfl rfl (pq_assign (p := .v (.int .i64 2)) rfl (.p rfl)) ?_
          refine pwl_nil ?_
          (repeat (first | apply pk_block_n | apply pk_seq))
          refine pwc_ret ?_
          (repeat (first | apply pk_seq_ret | apply pk_block_ret | apply pk_mid_ret | apply pk_cut_ret))
          refine pk_loop_ret hb3 (fun ht => ?_); subst ht
          have h := (show some _ = some _ from h)
          (repeat (first | apply pk_seq_ret | apply pk_block_ret | apply pk_mid_ret | apply pk_cut_ret))
          obtain rfl := Option.some.inj h
          exact pret_of (prv_1 (prv1_t rfl)) PSub.nil ⟨rfl, rfl⟩
        · replace hb3 := cond_f hc8 hb3
          refine pwc_skip ?_
          (repeat (first | apply pk_block_n | apply pk_seq))
          refine pwc_seq ?_
          refine pwc_seq ?_
          refine pwc_draw (ρd := []) [(0, 0), (1, 0), (2, 0), (3, 0), (4, 0), (5, 0), (6, 0), (7, 0), (8, 0), (9, 0), (10, 0), (11, 0), (12, 0)] _ (List.Perm.refl _) (by kernel_rfl) rfl ?_
          refine pwd_q rfl rfl rfl (pq_move (p := .v (.int .i64 v2)) rfl (.p rfl)) ?_
          refine pwd_q rfl rfl rfl (pq_cmp rfl (.p rfl) (.p rfl) rfl) ?_
          refine pwd_q rfl rfl rfl (pq_move (p := .v (.bool (decide (0 < v2)))) rfl (.p rfl)) ?_
          refine pwd_qg (pguard_t rfl rfl rfl) rfl rfl (pq_fieldAddr rfl rfl rfl rfl rfl (.p rfl)) ?_
          refine pwd_qg (pguard_t rfl rfl rfl) rfl rfl (pq_load_b (p := .v (.int .i64 m6.ID)) rfl (.g rfl) (by (repeat (first | exact List.Mem.head _ | apply List.Mem.tail))) rfl) ?_
          refine pwd_qg (pguard_t rfl rfl rfl) rfl rfl (pq_move (p := .slc (List.map TMeasure.enc p0)) rfl (.p rfl)) ?_
          refine pwd_qg (pguard_t rfl rfl rfl) rfl rfl (pq_move (p := .v (.int .i64 v2)) rfl (.p rfl)) ?_
          refine pwd_qg (pguard_t rfl rfl rfl) rfl rfl (pq_arith rfl (.g rfl) (.p rfl) rfl) ?_
          refine bind_elim hb3 ?_; clear hb3; intro m9 hm9 hb3
          refine pwd_qg (pguard_t rfl rfl rfl) rfl rfl (pq_index (enc := TMeasure.enc) rfl rfl rfl (fun _ => rfl) (.g rfl) (.g rfl) (gd_t hm9)) ?_
          refine pwd_qg (pguard_t rfl rfl rfl) rfl rfl (pq_fieldAddrR rfl rfl rfl rfl rfl (.g rfl)) ?_
          refine pwd_qg (pguard_t rfl rfl rfl) rfl rfl (pq_load_r (p := .v (.int .i64 m9.ID)) rfl (.g rfl) rfl) ?_
          refine pwd_qg (pguard_t rfl rfl rfl) rfl rfl (pq_cmp rfl (.g rfl) (.g rfl) rfl) ?_
          refine pwd_q rfl rfl rfl (pq_and rfl (.p rfl) (.p rfl) (.g rfl)) ?_
          refine pwd_nil ?_
          (repeat (first | apply pk_block_n | apply pk_seq))
          refine pwc_cond rfl (fun hc10 => ?_) (fun hc10 => ?_)
          · replace hb3 := cond_t hc10 hb3
            refine pwc_seq ?_
            refine pwc_region ?_
            refine pwl_q rfl rfl rfl (pq_assign (p := .v (.int .i64 9)) rfl (.p rfl)) ?_
            refine pwl_nil ?_
            (repeat (first | apply pk_block_n | apply pk_seq))
            refine pwc_ret ?_
            (repeat (first | apply pk_seq_ret | apply pk_block_ret | apply pk_mid_ret | apply pk_cut_ret))
            refine pk_loop_ret hb3 (fun ht => ?_); subst ht
            have h := (show some _ = some _ from h)
            (repeat (first | apply pk_seq_ret | apply pk_block_ret | apply pk_mid_ret | apply pk_cut_ret))
            obtain rfl := Option.some.inj h
            exact pret_of (prv_1 (prv1_t rfl)) PSub.nil ⟨rfl, rfl⟩
          · replace hb3 := cond_f hc10 hb3
            refine pwc_skip ?_
            (repeat (first | apply pk_block_n | apply pk_seq))
            refine pwc_seq ?_
            refine pwc_seq ?_
            refine pwc_region ?_
            refine pwl_q rfl rfl rfl (pq_fieldAddr rfl rfl rfl rfl rfl (.p rfl)) ?_
            refine pwl_q rfl rfl rfl (pq_load_b (p := .v (.string m6.Prefix)) rfl (.p rfl) (by (repeat (first | exact List.Mem.head _ | apply List.Mem.tail))) rfl) ?_
            refine bind_elim hb3 ?_; clear hb3; intro x11 hx11 hb3
            refine pwl_call rfl rfl rfl rfl rfl (nomenclature_Level_ok hx11) ?_
            refine pwl_q rfl rfl rfl (pq_cmp rfl (.p rfl) (.p rfl) rfl) ?_
            refine pwl_nil ?_
            (repeat (first | apply pk_block_n | apply pk_seq))
            refine pwc_cond rfl (fun hc12 => ?_) (fun hc12 => ?_)
            · replace hb3 := cond_t hc12 hb3
              refine pwc_seq ?_
              refine pwc_region ?_
              refine pwl_q rfl rfl rfl (pq_assign (p := .v (.int .i64 1)) rfl (.p rfl)) ?_
              refine pwl_nil ?_
              (repeat (first | apply pk_block_n | apply pk_seq))
              refine pwc_ret ?_
              (repeat (first | apply pk_seq_ret | apply pk_block_ret | apply pk_mid_ret | apply pk_cut_ret))
              refine pk_loop_ret hb3 (fun ht => ?_); subst ht
              have h := (show some _ = some _ from h)
              (repeat (first | apply pk_seq_ret | apply pk_block_ret | apply pk_mid_ret | apply pk_cut_ret))
              obtain rfl := Option.some.inj h
              exact pret_of (prv_1 (prv1_t rfl)) PSub.nil ⟨rfl, rfl⟩
            · replace hb3 := cond_f hc12 hb3
              refine pwc_skip ?_
              (repeat (first | apply pk_block_n | apply pk_seq))
              refine pwc_seq ?_
              refine pwc_seq ?_
              refine pwc_region ?_
              refine pwl_q rfl rfl rfl (pq_fieldAddr rfl rfl rfl rfl rfl (.p rfl)) ?_
              refine pwl_q rfl rfl rfl (pq_load_b (p := .slc (List.map eS m6.Origins)) rfl (.p rfl) (by (repeat (first | exact List.Mem.head _ | apply List.Mem.tail))) rfl) ?_
              refine pwl_q rfl rfl rfl (pq_lenT (enc := eS) rfl rfl (.p rfl)) ?_
              refine pwl_q rfl rfl rfl (pq_cmp rfl (.p rfl) (.p rfl) rfl) ?_
              refine pwl_nil ?_
              (repeat (first | apply pk_block_n | apply pk_seq))
              refine pwc_cond rfl (fun hc13 => ?_) (fun hc13 => ?_)
              · replace hb3 := cond_t hc13 hb3
                refine pwc_seq ?_
                refine pwc_region ?_
                refine pwl_q rfl rfl rfl (pq_assign (p := .v (.int .i64 8)) rfl (.p rfl)) ?_
                refine pwl_nil ?_
                (repeat (first | apply pk_block_n | apply pk_seq))
                refine pwc_ret ?_
                (repeat (first | apply pk_seq_ret | apply pk_block_ret | apply pk_mid_ret | apply pk_cut_ret))
                refine pk_loop_ret hb3 (fun ht => ?_); subst ht
                have h := (show some _ = some _ from h)
                (repeat (first | apply pk_seq_ret | apply pk_block_ret | apply pk_mid_ret | apply pk_cut_ret))
                obtain rfl := Option.some.inj h
                exact pret_of (prv_1 (prv1_t rfl)) PSub.nil ⟨rfl, rfl⟩
              · replace hb3 := cond_f hc13 hb3
                refine pwc_skip ?_
                (repeat (first | apply pk_block_n | apply pk_seq))
                refine pwc_seq ?_
                refine pwc_seq ?_
                refine pwc_region ?_
                refine pwl_q rfl rfl rfl (pq_fieldAddr rfl rfl rfl rfl rfl (.p rfl)) ?_
                refine pwl_q rfl rfl rfl (pq_load_b (p := .slc (List.map eS m6.Origins)) rfl (.p rfl) (by (repeat (first | exact List.Mem.head _ | apply List.Mem.tail))) rfl) ?_
                refine bind_elim hb3 ?_; clear hb3; intro x14 hx14 hb3
                refine pwl_call rfl rfl rfl rfl rfl (measure_validOrigins_ok hx14) ?_
                refine pwl_q rfl rfl rfl (pq_not rfl (.p rfl)) ?_
                refine pwl_nil ?_
                (repeat (first | apply pk_block_n | apply pk_seq))
                refine pwc_cond rfl (fun hc15 => ?_) (fun hc15 => ?_)
                · replace hb3 := cond_t hc15 hb3
                  refine pwc_seq ?_
                  refine pwc_region ?_
                  refine pwl_q rfl rfl rfl (pq_assign (p := .v (.int .i64 1)) rfl (.p rfl)) ?_
                  refine pwl_nil ?_
                  (repeat (first | apply pk_block_n | apply pk_seq))
                  refine pwc_ret ?_
                  (repeat (first | apply pk_seq_ret | apply pk_block_ret | apply pk_mid_ret | apply pk_cut_ret))
                  refine pk_loop_ret hb3 (fun ht => ?_); subst ht
                  have h := (show some _ = some _ from h)
                  (repeat (first | apply pk_seq_ret | apply pk_block_ret | apply pk_mid_ret | apply pk_cut_ret))
                  obtain rfl := Option.some.inj h
                  exact pret_of (prv_1 (prv1_t rfl)) PSub.nil ⟨rfl, rfl⟩
                · replace hb3 := cond_f hc15 hb3
                  refine pwc_skip ?_
                  (repeat (first | apply pk_block_n | apply pk_seq))
                  refine pwc_seq ?_
                  refine pwc_seq ?_
                  refine pwc_region ?_
                  refine pwl_q rfl rfl rfl (pq_fieldAddr rfl rfl rfl rfl rfl (.p rfl)) ?_
                  refine pwl_q rfl rfl rfl (pq_load_b (p := .v (.int .i64 m6.From)) rfl (.p rfl) (by (repeat (first | exact List.Mem.head _ | apply List.Mem.tail))) rfl) ?_
                  refine pwl_q rfl rfl rfl (pq_cmp rfl (.p rfl) (.p rfl) rfl) ?_
                  refine pwl_q rfl rfl rfl (pq_move (p := .v (.bool (decide (m6.From < 0)))) rfl (.p rfl)) ?_
                  refine pwl_qg (pguard_f rfl rfl rfl) rfl rfl (pq_fieldAddr rfl rfl rfl rfl rfl (.p rfl)) ?_
                  refine pwl_qg (pguard_f rfl rfl rfl) rfl rfl (pq_load_b (p := .v (.int .i64 m6.To)) rfl (.g rfl) (by (repeat (first | exact List.Mem.head _ | apply List.Mem.tail))) rfl) ?_
                  refine pwl_qg (pguard_f rfl rfl rfl) rfl rfl (pq_fieldAddr rfl rfl rfl rfl rfl (.p rfl)) ?_
                  refine pwl_qg (pguard_f rfl rfl rfl) rfl rfl (pq_load_b (p := .v (.int .i64 m6.From)) rfl (.g rfl) (by (repeat (first | exact List.Mem.head _ | apply List.Mem.tail))) rfl) ?_
                  refine pwl_qg (pguard_f rfl rfl rfl) rfl rfl (pq_cmp rfl (.g rfl) (.g rfl) rfl) ?_
                  refine pwl_q rfl rfl rfl (pq_or rfl (.p rfl) (.p rfl) (.g rfl)) ?_
                  refine pwl_q rfl rfl rfl (pq_move (p := .v (.bool ((decide (m6.From < 0)) || (decide (m6.To ≤ m6.From))))) rfl (.p rfl)) ?_
                  refine pwl_qg (pguard_f rfl rfl rfl) rfl rfl (pq_fieldAddr rfl rfl rfl rfl rfl (.p rfl)) ?_
                  refine pwl_qg (pguard_f rfl rfl rfl) rfl rfl (pq_load_b (p := .v (.int .i64 m6.To)) rfl (.g rfl) (by (repeat (first | exact List.Mem.head _ | apply List.Mem.tail))) rfl) ?_
                  refine pwl_qg (pguard_f rfl rfl rfl) rfl rfl (pq_cmp rfl (.g rfl) (.p rfl) rfl) ?_
                  refine pwl_q rfl rfl rfl (pq_or rfl (.p rfl) (.p rfl) (.g rfl)) ?_
                  refine pwl_q rfl rfl rfl (pq_move (p := .v (.bool (((decide (m6.From < 0)) || (decide (m6.To ≤ m6.From))) || (decide (36525 < m6.To))))) rfl (.p rfl)) ?_
                  refine pwl_qg (pguard_f rfl rfl rfl) rfl rfl (pq_fieldAddr rfl rfl rfl rfl rfl (.p rfl)) ?_
                  refine pwl_qg (pguard_f rfl rfl rfl) rfl rfl (pq_load_b (p := .v (.int .i64 m6.Registered)) rfl (.g rfl) (by (repeat (first | exact List.Mem.head _ | apply List.Mem.tail))) rfl) ?_
                  refine pwl_qg (pguard_f rfl rfl rfl) rfl rfl (pq_cmp rfl (.g rfl) (.p rfl) rfl) ?_
                  refine pwl_q rfl rfl rfl (pq_or rfl (.p rfl) (.p rfl) (.g rfl)) ?_
                  refine pwl_q rfl rfl rfl (pq_move (p := .v (.bool ((((decide (m6.From < 0)) || (decide (m6.To ≤ m6.From))) || (decide (36525 < m6.To))) || (decide (m6.Registered < (-1)))))) rfl (.p rfl)) ?_
                  refine pwl_qg (pguard_f rfl rfl rfl) rfl rfl (pq_fieldAddr rfl rfl rfl rfl rfl (.p rfl)) ?_
                  refine pwl_qg (pguard_f rfl rfl rfl) rfl rfl (pq_load_b (p := .v (.int .i64 m6.Registered)) rfl (.g rfl) (by (repeat (first | exact List.Mem.head _ | apply List.Mem.tail))) rfl) ?_
                  refine pwl_qg (pguard_f rfl rfl rfl) rfl rfl (pq_fieldAddr rfl rfl rfl rfl rfl (.p rfl)) ?_
                  refine pwl_qg (pguard_f rfl rfl rfl) rfl rfl (pq_load_b (p := .v (.int .i64 m6.From)) rfl (.g rfl) (by (repeat (first | exact List.Mem.head _ | apply List.Mem.tail))) rfl) ?_
                  refine pwl_qg (pguard_f rfl rfl rfl) rfl rfl (pq_cmp rfl (.g rfl) (.g rfl) rfl) ?_
                  refine pwl_q rfl rfl rfl (pq_or rfl (.p rfl) (.p rfl) (.g rfl)) ?_
                  refine pwl_nil ?_
                  (repeat (first | apply pk_block_n | apply pk_seq))
                  refine pwc_cond rfl (fun hc16 => ?_) (fun hc16 => ?_)
                  · replace hb3 := cond_t hc16 hb3
                    refine pwc_seq ?_
                    refine pwc_region ?_
                    refine pwl_q rfl rfl rfl (pq_assign (p := .v (.int .i64 2)) rfl (.p rfl)) ?_
                    refine pwl_nil ?_
                    (repeat (first | apply pk_block_n | apply pk_seq))
                    refine pwc_ret ?_
                    (repeat (first | apply pk_seq_ret | apply pk_block_ret | apply pk_mid_ret | apply pk_cut_ret))
                    refine pk_loop_ret hb3 (fun ht => ?_); subst ht
                    have h := (show some _ = some _ from h)
                    (repeat (first | apply pk_seq_ret | apply pk_block_ret | apply pk_mid_ret | apply pk_cut_ret))
                    obtain rfl := Option.some.inj h
                    exact pret_of (prv_1 (prv1_t rfl)) PSub.nil ⟨rfl, rfl⟩
                  · replace hb3 := cond_f hc16 hb3
                    refine pwc_skip ?_
                    (repeat (first | apply pk_block_n | apply pk_seq))
                    refine pwc_seq ?_
                    refine pwc_region ?_
                    refine pwl_q rfl rfl rfl (pq_fieldAddr rfl rfl rfl rfl rfl (.p rfl)) ?_
                    refine pwl_q rfl rfl rfl (pq_load_b (p := .agg [.v (.int .i64 m6.Duty.Rate), .v (.int .i64 m6.Duty.Amount), .v (.int .i64 m6.Duty.Per), .v (.bool m6.Duty.HasMost), .v (.int .i64 m6.Duty.Most), .v (.bool m6.Duty.HasLeast), .v (.int .i64 m6.Duty.Least)]) rfl (.p rfl) (by (repeat (first | exact List.Mem.head _ | apply List.Mem.tail))) rfl) ?_
                    refine bind_elim hb3 ?_; clear hb3; intro x17 hx17 hb3
                    refine pwl_call rfl rfl rfl rfl rfl (duty_Validate_ok hx17) ?_
                    refine pwl_q rfl rfl rfl (pq_assign (p := .v (.int .i64 x17)) rfl (.p rfl)) ?_
                    refine pwl_nil ?_
                    (repeat (first | apply pk_block_n | apply pk_seq))
                    refine pwc_seq ?_
                    refine pwc_region ?_
                    refine pwl_q rfl rfl rfl (pq_move (p := .v (.int .i64 x17)) rfl (.p rfl)) ?_
                    refine pwl_q rfl rfl rfl (pq_cmp rfl (.p rfl) (.p rfl) rfl) ?_
                    refine pwl_nil ?_
                    (repeat (first | apply pk_block_n | apply pk_seq))
                    refine pwc_cond rfl (fun hc18 => ?_) (fun hc18 => ?_)
                    · replace hb3 := cond_t hc18 hb3
                      refine pwc_seq ?_
                      refine pwc_region ?_
                      refine pwl_q rfl rfl rfl (pq_move (p := .v (.int .i64 x17)) rfl (.p rfl)) ?_
                      refine pwl_q rfl rfl rfl (pq_assign (p := .v (.int .i64 x17)) rfl (.p rfl)) ?_
                      refine pwl_nil ?_
                      (repeat (first | apply pk_block_n | apply pk_seq))
                      refine pwc_ret ?_
                      (repeat (first | apply pk_seq_ret | apply pk_block_ret | apply pk_mid_ret | apply pk_cut_ret))
                      refine pk_loop_ret hb3 (fun ht => ?_); subst ht
                      have h := (show some _ = some _ from h)
                      (repeat (first | apply pk_seq_ret | apply pk_block_ret | apply pk_mid_ret | apply pk_cut_ret))
                      obtain rfl := Option.some.inj h
                      exact pret_of (prv_1 (prv1_t rfl)) PSub.nil ⟨rfl, rfl⟩
                    · replace hb3 := cond_f hc18 hb3
                      refine pwc_skip ?_
                      refine pk_block_n ?_
                      (repeat (first | apply pk_block_n | apply pk_seq))
                      refine pwc_region ?_
                      refine pwl_q rfl rfl rfl (pq_arith rfl (.p rfl) (.p rfl) rfl) ?_
                      refine pwl_q rfl rfl rfl (pq_move (p := .v (.int .i64 (IntKind.i64.wrap (v2 + 1)))) rfl (.p rfl)) ?_
                      refine pwl_nil ?_
                      (repeat apply pk_block_n)
                      exact pk_loop hb3 () (by (repeat (first | exact PHolds.nil | apply PHolds.cons rfl))) (by (repeat (first | exact PSub.nil | (apply PSub.cons; (focus (repeat (first | exact PPick.h | apply PPick.t)))))))
      · replace hb3 := cond_f hc5 hb3
        refine pwc_exit ?_
        (repeat (first | apply pk_seq_exit | apply pk_mid_exit | apply pk_cut_exit | apply pk_block_ne rfl))
        refine pk_loop_exit hb3 (fun ht => ?_)
        refine pk_block_eq rfl ?_
        exact pk_mid ((), ()) (by (repeat (first | exact PHolds.nil | apply PHolds.cons rfl))) (by (repeat (first | exact PSub.nil | (apply PSub.cons; (focus (repeat (first | exact PPick.h | apply PPick.t))))))) ht.symm
    · rintro ⟨_, _⟩ τ hz; (try dsimp only at hz); subst q4; (try dsimp only at h); dsimp only [pupds]
      refine pwc_seq ?_
      refine pwc_region ?_
      refine pwl_q rfl rfl rfl (pq_assign (p := .v (.int .i64 0)) rfl (.p rfl)) ?_
      refine pwl_nil ?_
      (repeat (first | apply pk_block_n | apply pk_seq))
      refine pwc_ret ?_
      (repeat (first | apply pk_seq_ret | apply pk_block_ret | apply pk_mid_ret | apply pk_cut_ret))
      obtain rfl := Option.some.inj h
      exact pret_of (prv_1 (prv1_t rfl)) PSub.nil ⟨rfl, rfl⟩
/-- customs/assess.Validate -/
def assess_Validate (p0 : TItem) : Option Int := Option.bind (nomenclature_Level p0.Code) (fun x2 => Option.bind (gd (!(x2 != 8)) (production_ValidCountry p0.Origin)) (fun x3 => cond ((x2 != 8) || (!x3)) (some 1) (cond ((((((((((decide (p0.Company < 0)) || (decide (999 < p0.Company))) || (decide (p0.Day < 0))) || (decide (36524 < p0.Day))) || (decide (p0.Quantity < 0))) || (decide (1000000000 < p0.Quantity))) || (decide (p0.Value < 0))) || (decide (1000000000000 < p0.Value))) || (decide (p0.Granted < 0))) || (decide (p0.Quantity < p0.Granted))) (some 2) (some 0))))
set_option maxHeartbeats 4000000 in
theorem assess_Validate_ok {p0 : TItem} {r : Int}  (h : assess_Validate p0 = some r) : PF 12 [.agg [.v (.string p0.Code), .v (.string p0.Origin), .v (.bool p0.Proof), .v (.int .i64 p0.Company), .v (.int .i64 p0.Day), .v (.int .i64 p0.Quantity), .v (.int .i64 p0.Value), .v (.int .i64 p0.Granted)]] (.v (.int .i64 r)) := by
  unfold assess_Validate at h
  refine pf_of ?_
  refine penter Tryz.func12 fk12 rfl Tryz.ntmps12 Tryz.results12 rfl ?_
  refine pwc_seq ?_
  refine pwc_region ?_
  refine pwl_l rfl rfl rfl (pl_box (cs := [.v (.string p0.Code), .v (.string p0.Origin), .v (.bool p0.Proof), .v (.int .i64 p0.Company), .v (.int .i64 p0.Day), .v (.int .i64 p0.Quantity), .v (.int .i64 p0.Value), .v (.int .i64 p0.Granted)]) rfl rfl (fun b1 => ?_))
  refine pwl_q rfl rfl rfl (pq_assign (p := .v (.int .i64 0)) rfl (.p rfl)) ?_
  refine pwl_nil ?_
  (repeat (first | apply pk_block_n | apply pk_seq))
  refine pwc_seq ?_
  refine pwc_seq ?_
  refine pwc_region ?_
  refine pwl_q rfl rfl rfl (pq_fieldAddr rfl rfl rfl rfl rfl (.p rfl)) ?_
  refine pwl_q rfl rfl rfl (pq_load_b (p := .v (.string p0.Code)) rfl (.p rfl) (by (repeat (first | exact List.Mem.head _ | apply List.Mem.tail))) rfl) ?_
  refine bind_elim h ?_; clear h; intro x2 hx2 h
  refine pwl_call rfl rfl rfl rfl rfl (nomenclature_Level_ok hx2) ?_
  refine pwl_q rfl rfl rfl (pq_cmp rfl (.p rfl) (.p rfl) rfl) ?_
  refine pwl_q rfl rfl rfl (pq_move (p := .v (.bool (x2 != 8))) rfl (.p rfl)) ?_
  refine pwl_qg (pguard_f rfl rfl rfl) rfl rfl (pq_fieldAddr rfl rfl rfl rfl rfl (.p rfl)) ?_
  refine pwl_qg (pguard_f rfl rfl rfl) rfl rfl (pq_load_b (p := .v (.string p0.Origin)) rfl (.g rfl) (by (repeat (first | exact List.Mem.head _ | apply List.Mem.tail))) rfl) ?_
  refine bind_elim h ?_; clear h; intro x3 hx3 h
  refine pwl_callg (pguard_f rfl rfl rfl) rfl rfl rfl (pargs_cons (.g rfl) (pargs_nil)) (fun hc => production_ValidCountry_ok (gd_t hx3 hc)) ?_
  refine pwl_qg (pguard_f rfl rfl rfl) rfl rfl (pq_not rfl (.g rfl)) ?_
  refine pwl_q rfl rfl rfl (pq_or rfl (.p rfl) (.p rfl) (.g rfl)) ?_
  refine pwl_nil ?_
  (repeat (first | apply pk_block_n | apply pk_seq))
  refine pwc_cond rfl (fun hc4 => ?_) (fun hc4 => ?_)
  · replace h := cond_t hc4 h
    refine pwc_seq ?_
    refine pwc_region ?_
    refine pwl_q rfl rfl rfl (pq_assign (p := .v (.int .i64 1)) rfl (.p rfl)) ?_
    refine pwl_nil ?_
    (repeat (first | apply pk_block_n | apply pk_seq))
    refine pwc_ret ?_
    (repeat (first | apply pk_seq_ret | apply pk_block_ret | apply pk_mid_ret | apply pk_cut_ret))
    obtain rfl := Option.some.inj h
    exact pret_of (prv_1 (prv1_t rfl)) PSub.nil ⟨rfl, rfl⟩
  · replace h := cond_f hc4 h
    refine pwc_skip ?_
    (repeat (first | apply pk_block_n | apply pk_seq))
    refine pwc_seq ?_
    refine pwc_seq ?_
    refine pwc_region ?_
    refine pwl_q rfl rfl rfl (pq_fieldAddr rfl rfl rfl rfl rfl (.p rfl)) ?_
    refine pwl_q rfl rfl rfl (pq_load_b (p := .v (.int .i64 p0.Company)) rfl (.p rfl) (by (repeat (first | exact List.Mem.head _ | apply List.Mem.tail))) rfl) ?_
    refine pwl_q rfl rfl rfl (pq_cmp rfl (.p rfl) (.p rfl) rfl) ?_
    refine pwl_q rfl rfl rfl (pq_move (p := .v (.bool (decide (p0.Company < 0)))) rfl (.p rfl)) ?_
    refine pwl_qg (pguard_f rfl rfl rfl) rfl rfl (pq_fieldAddr rfl rfl rfl rfl rfl (.p rfl)) ?_
    refine pwl_qg (pguard_f rfl rfl rfl) rfl rfl (pq_load_b (p := .v (.int .i64 p0.Company)) rfl (.g rfl) (by (repeat (first | exact List.Mem.head _ | apply List.Mem.tail))) rfl) ?_
    refine pwl_qg (pguard_f rfl rfl rfl) rfl rfl (pq_cmp rfl (.g rfl) (.p rfl) rfl) ?_
    refine pwl_q rfl rfl rfl (pq_or rfl (.p rfl) (.p rfl) (.g rfl)) ?_
    refine pwl_q rfl rfl rfl (pq_move (p := .v (.bool ((decide (p0.Company < 0)) || (decide (999 < p0.Company))))) rfl (.p rfl)) ?_
    refine pwl_qg (pguard_f rfl rfl rfl) rfl rfl (pq_fieldAddr rfl rfl rfl rfl rfl (.p rfl)) ?_
    refine pwl_qg (pguard_f rfl rfl rfl) rfl rfl (pq_load_b (p := .v (.int .i64 p0.Day)) rfl (.g rfl) (by (repeat (first | exact List.Mem.head _ | apply List.Mem.tail))) rfl) ?_
    refine pwl_qg (pguard_f rfl rfl rfl) rfl rfl (pq_cmp rfl (.g rfl) (.p rfl) rfl) ?_
    refine pwl_q rfl rfl rfl (pq_or rfl (.p rfl) (.p rfl) (.g rfl)) ?_
    refine pwl_q rfl rfl rfl (pq_move (p := .v (.bool (((decide (p0.Company < 0)) || (decide (999 < p0.Company))) || (decide (p0.Day < 0))))) rfl (.p rfl)) ?_
    refine pwl_qg (pguard_f rfl rfl rfl) rfl rfl (pq_fieldAddr rfl rfl rfl rfl rfl (.p rfl)) ?_
    refine pwl_qg (pguard_f rfl rfl rfl) rfl rfl (pq_load_b (p := .v (.int .i64 p0.Day)) rfl (.g rfl) (by (repeat (first | exact List.Mem.head _ | apply List.Mem.tail))) rfl) ?_
    refine pwl_qg (pguard_f rfl rfl rfl) rfl rfl (pq_cmp rfl (.g rfl) (.p rfl) rfl) ?_
    refine pwl_q rfl rfl rfl (pq_or rfl (.p rfl) (.p rfl) (.g rfl)) ?_
    refine pwl_q rfl rfl rfl (pq_move (p := .v (.bool ((((decide (p0.Company < 0)) || (decide (999 < p0.Company))) || (decide (p0.Day < 0))) || (decide (36524 < p0.Day))))) rfl (.p rfl)) ?_
    refine pwl_qg (pguard_f rfl rfl rfl) rfl rfl (pq_fieldAddr rfl rfl rfl rfl rfl (.p rfl)) ?_
    refine pwl_qg (pguard_f rfl rfl rfl) rfl rfl (pq_load_b (p := .v (.int .i64 p0.Quantity)) rfl (.g rfl) (by (repeat (first | exact List.Mem.head _ | apply List.Mem.tail))) rfl) ?_
    refine pwl_qg (pguard_f rfl rfl rfl) rfl rfl (pq_cmp rfl (.g rfl) (.p rfl) rfl) ?_
    refine pwl_q rfl rfl rfl (pq_or rfl (.p rfl) (.p rfl) (.g rfl)) ?_
    refine pwl_q rfl rfl rfl (pq_move (p := .v (.bool (((((decide (p0.Company < 0)) || (decide (999 < p0.Company))) || (decide (p0.Day < 0))) || (decide (36524 < p0.Day))) || (decide (p0.Quantity < 0))))) rfl (.p rfl)) ?_
    refine pwl_qg (pguard_f rfl rfl rfl) rfl rfl (pq_fieldAddr rfl rfl rfl rfl rfl (.p rfl)) ?_
    refine pwl_qg (pguard_f rfl rfl rfl) rfl rfl (pq_load_b (p := .v (.int .i64 p0.Quantity)) rfl (.g rfl) (by (repeat (first | exact List.Mem.head _ | apply List.Mem.tail))) rfl) ?_
    refine pwl_qg (pguard_f rfl rfl rfl) rfl rfl (pq_cmp rfl (.g rfl) (.p rfl) rfl) ?_
    refine pwl_q rfl rfl rfl (pq_or rfl (.p rfl) (.p rfl) (.g rfl)) ?_
    refine pwl_q rfl rfl rfl (pq_move (p := .v (.bool ((((((decide (p0.Company < 0)) || (decide (999 < p0.Company))) || (decide (p0.Day < 0))) || (decide (36524 < p0.Day))) || (decide (p0.Quantity < 0))) || (decide (1000000000 < p0.Quantity))))) rfl (.p rfl)) ?_
    refine pwl_qg (pguard_f rfl rfl rfl) rfl rfl (pq_fieldAddr rfl rfl rfl rfl rfl (.p rfl)) ?_
    refine pwl_qg (pguard_f rfl rfl rfl) rfl rfl (pq_load_b (p := .v (.int .i64 p0.Value)) rfl (.g rfl) (by (repeat (first | exact List.Mem.head _ | apply List.Mem.tail))) rfl) ?_
    refine pwl_qg (pguard_f rfl rfl rfl) rfl rfl (pq_cmp rfl (.g rfl) (.p rfl) rfl) ?_
    refine pwl_q rfl rfl rfl (pq_or rfl (.p rfl) (.p rfl) (.g rfl)) ?_
    refine pwl_q rfl rfl rfl (pq_move (p := .v (.bool (((((((decide (p0.Company < 0)) || (decide (999 < p0.Company))) || (decide (p0.Day < 0))) || (decide (36524 < p0.Day))) || (decide (p0.Quantity < 0))) || (decide (1000000000 < p0.Quantity))) || (decide (p0.Value < 0))))) rfl (.p rfl)) ?_
    refine pwl_qg (pguard_f rfl rfl rfl) rfl rfl (pq_fieldAddr rfl rfl rfl rfl rfl (.p rfl)) ?_
    refine pwl_qg (pguard_f rfl rfl rfl) rfl rfl (pq_load_b (p := .v (.int .i64 p0.Value)) rfl (.g rfl) (by (repeat (first | exact List.Mem.head _ | apply List.Mem.tail))) rfl) ?_
    refine pwl_qg (pguard_f rfl rfl rfl) rfl rfl (pq_cmp rfl (.g rfl) (.p rfl) rfl) ?_
    refine pwl_q rfl rfl rfl (pq_or rfl (.p rfl) (.p rfl) (.g rfl)) ?_
    refine pwl_q rfl rfl rfl (pq_move (p := .v (.bool ((((((((decide (p0.Company < 0)) || (decide (999 < p0.Company))) || (decide (p0.Day < 0))) || (decide (36524 < p0.Day))) || (decide (p0.Quantity < 0))) || (decide (1000000000 < p0.Quantity))) || (decide (p0.Value < 0))) || (decide (1000000000000 < p0.Value))))) rfl (.p rfl)) ?_
    refine pwl_qg (pguard_f rfl rfl rfl) rfl rfl (pq_fieldAddr rfl rfl rfl rfl rfl (.p rfl)) ?_
    refine pwl_qg (pguard_f rfl rfl rfl) rfl rfl (pq_load_b (p := .v (.int .i64 p0.Granted)) rfl (.g rfl) (by (repeat (first | exact List.Mem.head _ | apply List.Mem.tail))) rfl) ?_
    refine pwl_qg (pguard_f rfl rfl rfl) rfl rfl (pq_cmp rfl (.g rfl) (.p rfl) rfl) ?_
    refine pwl_q rfl rfl rfl (pq_or rfl (.p rfl) (.p rfl) (.g rfl)) ?_
    refine pwl_q rfl rfl rfl (pq_move (p := .v (.bool (((((((((decide (p0.Company < 0)) || (decide (999 < p0.Company))) || (decide (p0.Day < 0))) || (decide (36524 < p0.Day))) || (decide (p0.Quantity < 0))) || (decide (1000000000 < p0.Quantity))) || (decide (p0.Value < 0))) || (decide (1000000000000 < p0.Value))) || (decide (p0.Granted < 0))))) rfl (.p rfl)) ?_
    refine pwl_qg (pguard_f rfl rfl rfl) rfl rfl (pq_fieldAddr rfl rfl rfl rfl rfl (.p rfl)) ?_
    refine pwl_qg (pguard_f rfl rfl rfl) rfl rfl (pq_load_b (p := .v (.int .i64 p0.Granted)) rfl (.g rfl) (by (repeat (first | exact List.Mem.head _ | apply List.Mem.tail))) rfl) ?_
    refine pwl_qg (pguard_f rfl rfl rfl) rfl rfl (pq_fieldAddr rfl rfl rfl rfl rfl (.p rfl)) ?_
    refine pwl_qg (pguard_f rfl rfl rfl) rfl rfl (pq_load_b (p := .v (.int .i64 p0.Quantity)) rfl (.g rfl) (by (repeat (first | exact List.Mem.head _ | apply List.Mem.tail))) rfl) ?_
    refine pwl_qg (pguard_f rfl rfl rfl) rfl rfl (pq_cmp rfl (.g rfl) (.g rfl) rfl) ?_
    refine pwl_q rfl rfl rfl (pq_or rfl (.p rfl) (.p rfl) (.g rfl)) ?_
    refine pwl_nil ?_
    (repeat (first | apply pk_block_n | apply pk_seq))
    refine pwc_cond rfl (fun hc5 => ?_) (fun hc5 => ?_)
    · replace h := cond_t hc5 h
      refine pwc_seq ?_
      refine pwc_region ?_
      refine pwl_q rfl rfl rfl (pq_assign (p := .v (.int .i64 2)) rfl (.p rfl)) ?_
      refine pwl_nil ?_
      (repeat (first | apply pk_block_n | apply pk_seq))
      refine pwc_ret ?_
      (repeat (first | apply pk_seq_ret | apply pk_block_ret | apply pk_mid_ret | apply pk_cut_ret))
      obtain rfl := Option.some.inj h
      exact pret_of (prv_1 (prv1_t rfl)) PSub.nil ⟨rfl, rfl⟩
    · replace h := cond_f hc5 h
      refine pwc_skip ?_
      (repeat (first | apply pk_block_n | apply pk_seq))
      refine pwc_seq ?_
      refine pwc_region ?_
      refine pwl_q rfl rfl rfl (pq_assign (p := .v (.int .i64 0)) rfl (.p rfl)) ?_
      refine pwl_nil ?_
      (repeat (first | apply pk_block_n | apply pk_seq))
      refine pwc_ret ?_
      (repeat (first | apply pk_seq_ret | apply pk_block_ret | apply pk_mid_ret | apply pk_cut_ret))
      obtain rfl := Option.some.inj h
      exact pret_of (prv_1 (prv1_t rfl)) PSub.nil ⟨rfl, rfl⟩
/-- customs/assess.Assess -/
def assess_Assess (p0 : (List TMeasure)) (p1 : TItem) : Option (TDebt × Int) := Option.bind (measure_Validate p0) (fun x3 => cond (x3 != 0) (some ((⟨[], 0⟩ : TDebt), x3)) (Option.bind (assess_Validate p1) (fun x5 => cond (x5 != 0) (some ((⟨[], 0⟩ : TDebt), x5)) (Option.bind (measure_Applicable p0 p1.Code p1.Origin p1.Company p1.Day) (fun x7 => Option.bind (slices_ContainsFunc_api_Measure_api_Measure x7 (fun y8 => assess_Assess_1 y8)) (fun x9 => cond (!x9) (some ((⟨[], 0⟩ : TDebt), 7)) (Option.bind (assess_partsOf p1) (fun x11 => cond (x11.2 != 0) (some ((⟨[], 0⟩ : TDebt), x11.2)) (Option.bind (loopF (S := Int × (List TDebtLine) × Int) (T := ((List TDebtLine) × Int) ⊕ (_)) (fun (v14, l16, v19) => cond (decide (v14 < (x11.1.length : Int))) (Option.bind (α := ((List TDebtLine) × Int) ⊕ _) (Option.bind (idx x11.1 v14) (fun m35 => Option.bind (assess_leastDuty x7 m35) (fun x37 => cond (x37.2.2 != 0) (some (.inr (.inr (.inr ((⟨[], 0⟩ : TDebt), x37.2.2))))) (cond x37.2.1 (Option.bind (app 40 l16 [x37.1]) (fun l43 => some (.inl (l43, (IntKind.i64.wrap (v19 + x37.1.Amount)))))) (some (.inl (l16, v19))))))) (fun q => match q with | .inl (l32, v33) => some (.inl ((IntKind.i64.wrap (v14 + 1)), l32, v33)) | .inr e => some e)) (some (.inr (.inl (l16, v19))))) FUEL (0, ([] : List TDebtLine), 0)) (fun q => match q with | .inl (l23, v24) => cond (decide (1000000000000 < v24)) (some ((⟨[], 0⟩ : TDebt), 3)) (some ((⟨l23, v24⟩ : TDebt), 0)) | .inr e => some e))))))))))
set_option maxHeartbeats 4000000 in
theorem assess_Assess_ok {p0 : (List TMeasure)} {p1 : TItem} {r : (TDebt × Int)}  (h : assess_Assess p0 p1 = some r) : PF 17 [.slc (List.map TMeasure.enc p0), .agg [.v (.string p1.Code), .v (.string p1.Origin), .v (.bool p1.Proof), .v (.int .i64 p1.Company), .v (.int .i64 p1.Day), .v (.int .i64 p1.Quantity), .v (.int .i64 p1.Value), .v (.int .i64 p1.Granted)]] (.tup [.agg [.slc (List.map TDebtLine.enc r.1.Lines), .v (.int .i64 r.1.Total)], .v (.int .i64 r.2)]) := by
  unfold assess_Assess at h
  refine pf_of ?_
  refine penter Tryz.func17 fk17 rfl Tryz.ntmps17 Tryz.results17 rfl ?_
  refine pwc_seq ?_
  refine pwc_region ?_
  refine pwl_l rfl rfl rfl (pl_box (cs := [.v (.string p1.Code), .v (.string p1.Origin), .v (.bool p1.Proof), .v (.int .i64 p1.Company), .v (.int .i64 p1.Day), .v (.int .i64 p1.Quantity), .v (.int .i64 p1.Value), .v (.int .i64 p1.Granted)]) rfl rfl (fun b1 => ?_))
  refine pwl_l rfl rfl rfl (pl_alloc (cs := [.v (.slice none 0 0), .v (.int .i64 0)]) rfl rfl rfl rfl (fun b2 => ?_))
  refine pwl_q rfl rfl rfl (pq_assign (p := .v (.int .i64 0)) rfl (.p rfl)) ?_
  refine pwl_nil ?_
  (repeat (first | apply pk_block_n | apply pk_seq))
  refine pwc_seq ?_
  refine pwc_seq ?_
  refine pwc_region ?_
  refine pwl_q rfl rfl rfl (pq_move (p := .slc (List.map TMeasure.enc p0)) rfl (.p rfl)) ?_
  refine bind_elim h ?_; clear h; intro x3 hx3 h
  refine pwl_call rfl rfl rfl rfl rfl (measure_Validate_ok hx3) ?_
  refine pwl_q rfl rfl rfl (pq_assign (p := .v (.int .i64 x3)) rfl (.p rfl)) ?_
  refine pwl_nil ?_
  (repeat (first | apply pk_block_n | apply pk_seq))
  refine pwc_seq ?_
  refine pwc_region ?_
  refine pwl_q rfl rfl rfl (pq_move (p := .v (.int .i64 x3)) rfl (.p rfl)) ?_
  refine pwl_q rfl rfl rfl (pq_cmp rfl (.p rfl) (.p rfl) rfl) ?_
  refine pwl_nil ?_
  (repeat (first | apply pk_block_n | apply pk_seq))
  refine pwc_cond rfl (fun hc4 => ?_) (fun hc4 => ?_)
  · replace h := cond_t hc4 h
    refine pwc_seq ?_
    refine pwc_region ?_
    refine pwl_q rfl rfl rfl (pq_build (cs := [.v (.slice none 0 0), .v (.int .i64 0)]) rfl rfl rfl rfl rfl rfl rfl (by (repeat (first | exact PFill.nil | (apply PFill.cons rfl rfl rfl rfl; (focus (repeat (first | exact PSplice.nil | apply PSplice.c | apply PSplice.t)))))))) ?_
    refine pwl_q rfl rfl rfl (pq_move (p := .v (.int .i64 x3)) rfl (.p rfl)) ?_
    refine pwl_l0 rfl rfl (pl_store (vs := [.v (.slice none 0 0), .v (.int .i64 0)]) rfl rfl rfl rfl rfl (by (repeat (first | exact PUpd.h | apply PUpd.t))) (by (repeat (first | exact PSplice.nil | apply PSplice.c | apply PSplice.t))) ?_)
    refine pwl_q rfl rfl rfl (pq_assign (p := .v (.int .i64 x3)) rfl (.p rfl)) ?_
    refine pwl_nil ?_
    (repeat (first | apply pk_block_n | apply pk_seq))
    refine pwc_nilb (k := 0) (b := b2) rfl (by (repeat (first | exact PUpd.h | apply PUpd.t))) ?_
    refine pwc_ret ?_
    (repeat (first | apply pk_seq_ret | apply pk_block_ret | apply pk_mid_ret | apply pk_cut_ret))
    obtain rfl := Option.some.inj h
    exact pret_of (prv_2 (prv1_c rfl (by (repeat (first | exact List.Mem.head _ | apply List.Mem.tail))) rfl) (prv1_t rfl)) PSub.nil ⟨rfl, rfl⟩
  · replace h := cond_f hc4 h
    refine pwc_skip ?_
    (repeat (first | apply pk_block_n | apply pk_seq))
    refine pwc_seq ?_
    refine pwc_seq ?_
    refine pwc_region ?_
    refine pwl_q rfl rfl rfl (pq_load_b (p := .agg [.v (.string p1.Code), .v (.string p1.Origin), .v (.bool p1.Proof), .v (.int .i64 p1.Company), .v (.int .i64 p1.Day), .v (.int .i64 p1.Quantity), .v (.int .i64 p1.Value), .v (.int .i64 p1.Granted)]) rfl (.p rfl) (by (repeat (first | exact List.Mem.head _ | apply List.Mem.tail))) rfl) ?_
    refine bind_elim h ?_; clear h; intro x5 hx5 h
    refine pwl_call rfl rfl rfl rfl rfl (assess_Validate_ok hx5) ?_
    refine pwl_q rfl rfl rfl (pq_assign (p := .v (.int .i64 x5)) rfl (.p rfl)) ?_
    refine pwl_nil ?_
    (repeat (first | apply pk_block_n | apply pk_seq))
    refine pwc_seq ?_
    refine pwc_region ?_
    refine pwl_q rfl rfl rfl (pq_move (p := .v (.int .i64 x5)) rfl (.p rfl)) ?_
    refine pwl_q rfl rfl rfl (pq_cmp rfl (.p rfl) (.p rfl) rfl) ?_
    refine pwl_nil ?_
    (repeat (first | apply pk_block_n | apply pk_seq))
    refine pwc_cond rfl (fun hc6 => ?_) (fun hc6 => ?_)
    · replace h := cond_t hc6 h
      refine pwc_seq ?_
      refine pwc_region ?_
      refine pwl_q rfl rfl rfl (pq_build (cs := [.v (.slice none 0 0), .v (.int .i64 0)]) rfl rfl rfl rfl rfl rfl rfl (by (repeat (first | exact PFill.nil | (apply PFill.cons rfl rfl rfl rfl; (focus (repeat (first | exact PSplice.nil | apply PSplice.c | apply PSplice.t)))))))) ?_
      refine pwl_q rfl rfl rfl (pq_move (p := .v (.int .i64 x5)) rfl (.p rfl)) ?_
      refine pwl_l0 rfl rfl (pl_store (vs := [.v (.slice none 0 0), .v (.int .i64 0)]) rfl rfl rfl rfl rfl (by (repeat (first | exact PUpd.h | apply PUpd.t))) (by (repeat (first | exact PSplice.nil | apply PSplice.c | apply PSplice.t))) ?_)
      refine pwl_q rfl rfl rfl (pq_assign (p := .v (.int .i64 x5)) rfl (.p rfl)) ?_
      refine pwl_nil ?_
      (repeat (first | apply pk_block_n | apply pk_seq))
      refine pwc_nilb (k := 0) (b := b2) rfl (by (repeat (first | exact PUpd.h | apply PUpd.t))) ?_
      refine pwc_ret ?_
      (repeat (first | apply pk_seq_ret | apply pk_block_ret | apply pk_mid_ret | apply pk_cut_ret))
      obtain rfl := Option.some.inj h
      exact pret_of (prv_2 (prv1_c rfl (by (repeat (first | exact List.Mem.head _ | apply List.Mem.tail))) rfl) (prv1_t rfl)) PSub.nil ⟨rfl, rfl⟩
    · replace h := cond_f hc6 h
      refine pwc_skip ?_
      (repeat (first | apply pk_block_n | apply pk_seq))
      refine pwc_seq ?_
      refine pwc_region ?_
      refine pwl_q rfl rfl rfl (pq_move (p := .slc (List.map TMeasure.enc p0)) rfl (.p rfl)) ?_
      refine pwl_q rfl rfl rfl (pq_fieldAddr rfl rfl rfl rfl rfl (.p rfl)) ?_
      refine pwl_q rfl rfl rfl (pq_load_b (p := .v (.string p1.Code)) rfl (.p rfl) (by (repeat (first | exact List.Mem.head _ | apply List.Mem.tail))) rfl) ?_
      refine pwl_q rfl rfl rfl (pq_fieldAddr rfl rfl rfl rfl rfl (.p rfl)) ?_
      refine pwl_q rfl rfl rfl (pq_load_b (p := .v (.string p1.Origin)) rfl (.p rfl) (by (repeat (first | exact List.Mem.head _ | apply List.Mem.tail))) rfl) ?_
      refine pwl_q rfl rfl rfl (pq_fieldAddr rfl rfl rfl rfl rfl (.p rfl)) ?_
      refine pwl_q rfl rfl rfl (pq_load_b (p := .v (.int .i64 p1.Company)) rfl (.p rfl) (by (repeat (first | exact List.Mem.head _ | apply List.Mem.tail))) rfl) ?_
      refine pwl_q rfl rfl rfl (pq_fieldAddr rfl rfl rfl rfl rfl (.p rfl)) ?_
      refine pwl_q rfl rfl rfl (pq_load_b (p := .v (.int .i64 p1.Day)) rfl (.p rfl) (by (repeat (first | exact List.Mem.head _ | apply List.Mem.tail))) rfl) ?_
      refine bind_elim h ?_; clear h; intro x7 hx7 h
      refine pwl_call rfl rfl rfl rfl rfl (measure_Applicable_ok hx7) ?_
      refine pwl_q rfl rfl rfl (pq_assign (p := .slc (List.map TMeasure.enc x7)) rfl (.p rfl)) ?_
      refine pwl_nil ?_
      (repeat (first | apply pk_block_n | apply pk_seq))
      refine pwc_seq ?_
      refine pwc_seq ?_
      refine pwc_region ?_
      refine pwl_q rfl rfl rfl (pq_move (p := .slc (List.map TMeasure.enc x7)) rfl (.p rfl)) ?_
      refine bind_elim h ?_; clear h; intro x9 hx9 h
      refine pwl_call rfl rfl rfl rfl rfl (slices_ContainsFunc_api_Measure_api_Measure_ok (fun hr => pfv_of (assess_Assess_1_ok hr)) hx9) ?_
      refine pwl_q rfl rfl rfl (pq_not rfl (.p rfl)) ?_
      refine pwl_nil ?_
      (repeat (first | apply pk_block_n | apply pk_seq))
      refine pwc_cond rfl (fun hc10 => ?_) (fun hc10 => ?_)
      · replace h := cond_t hc10 h
        refine pwc_seq ?_
        refine pwc_region ?_
        refine pwl_q rfl rfl rfl (pq_build (cs := [.v (.slice none 0 0), .v (.int .i64 0)]) rfl rfl rfl rfl rfl rfl rfl (by (repeat (first | exact PFill.nil | (apply PFill.cons rfl rfl rfl rfl; (focus (repeat (first | exact PSplice.nil | apply PSplice.c | apply PSplice.t)))))))) ?_
        refine pwl_l0 rfl rfl (pl_store (vs := [.v (.slice none 0 0), .v (.int .i64 0)]) rfl rfl rfl rfl rfl (by (repeat (first | exact PUpd.h | apply PUpd.t))) (by (repeat (first | exact PSplice.nil | apply PSplice.c | apply PSplice.t))) ?_)
        refine pwl_q rfl rfl rfl (pq_assign (p := .v (.int .i64 7)) rfl (.p rfl)) ?_
        refine pwl_nil ?_
        (repeat (first | apply pk_block_n | apply pk_seq))
        refine pwc_nilb (k := 0) (b := b2) rfl (by (repeat (first | exact PUpd.h | apply PUpd.t))) ?_
        refine pwc_ret ?_
        (repeat (first | apply pk_seq_ret | apply pk_block_ret | apply pk_mid_ret | apply pk_cut_ret))
        obtain rfl := Option.some.inj h
        exact pret_of (prv_2 (prv1_c rfl (by (repeat (first | exact List.Mem.head _ | apply List.Mem.tail))) rfl) (prv1_t rfl)) PSub.nil ⟨rfl, rfl⟩
      · replace h := cond_f hc10 h
        refine pwc_skip ?_
        (repeat (first | apply pk_block_n | apply pk_seq))
        refine pwc_seq ?_
        refine pwc_region ?_
        refine pwl_q rfl rfl rfl (pq_load_b (p := .agg [.v (.string p1.Code), .v (.string p1.Origin), .v (.bool p1.Proof), .v (.int .i64 p1.Company), .v (.int .i64 p1.Day), .v (.int .i64 p1.Quantity), .v (.int .i64 p1.Value), .v (.int .i64 p1.Granted)]) rfl (.p rfl) (by (repeat (first | exact List.Mem.head _ | apply List.Mem.tail))) rfl) ?_
        refine bind_elim h ?_; clear h; intro x11 hx11 h
        refine pwl_call rfl rfl rfl rfl rfl (assess_partsOf_ok hx11) ?_
        refine pwl_q rfl rfl rfl (pq_move (p := .tup [.slc (List.map Tassess_part.enc x11.1), .v (.int .i64 x11.2)]) rfl (.p rfl)) ?_
        refine pwl_q rfl rfl rfl (pq_extract (p := .slc (List.map Tassess_part.enc x11.1)) rfl (.p rfl) rfl) ?_
        refine pwl_q rfl rfl rfl (pq_extract (p := .v (.int .i64 x11.2)) rfl (.p rfl) rfl) ?_
        refine pwl_q rfl rfl rfl (pq_assign (p := .slc (List.map Tassess_part.enc x11.1)) rfl (.p rfl)) ?_
        refine pwl_q rfl rfl rfl (pq_assign (p := .v (.int .i64 x11.2)) rfl (.p rfl)) ?_
        refine pwl_nil ?_
        (repeat (first | apply pk_block_n | apply pk_seq))
        refine pwc_seq ?_
        refine pwc_seq ?_
        refine pwc_region ?_
        refine pwl_q rfl rfl rfl (pq_move (p := .v (.int .i64 x11.2)) rfl (.p rfl)) ?_
        refine pwl_q rfl rfl rfl (pq_cmp rfl (.p rfl) (.p rfl) rfl) ?_
        refine pwl_nil ?_
        (repeat (first | apply pk_block_n | apply pk_seq))
        refine pwc_cond rfl (fun hc12 => ?_) (fun hc12 => ?_)
        · replace h := cond_t hc12 h
          refine pwc_seq ?_
          refine pwc_region ?_
          refine pwl_q rfl rfl rfl (pq_build (cs := [.v (.slice none 0 0), .v (.int .i64 0)]) rfl rfl rfl rfl rfl rfl rfl (by (repeat (first | exact PFill.nil | (apply PFill.cons rfl rfl rfl rfl; (focus (repeat (first | exact PSplice.nil | apply PSplice.c | apply PSplice.t)))))))) ?_
          refine pwl_q rfl rfl rfl (pq_move (p := .v (.int .i64 x11.2)) rfl (.p rfl)) ?_
          refine pwl_l0 rfl rfl (pl_store (vs := [.v (.slice none 0 0), .v (.int .i64 0)]) rfl rfl rfl rfl rfl (by (repeat (first | exact PUpd.h | apply PUpd.t))) (by (repeat (first | exact PSplice.nil | apply PSplice.c | apply PSplice.t))) ?_)
          refine pwl_q rfl rfl rfl (pq_assign (p := .v (.int .i64 x11.2)) rfl (.p rfl)) ?_
          refine pwl_nil ?_
          (repeat (first | apply pk_block_n | apply pk_seq))
          refine pwc_nilb (k := 0) (b := b2) rfl (by (repeat (first | exact PUpd.h | apply PUpd.t))) ?_
          refine pwc_ret ?_
          (repeat (first | apply pk_seq_ret | apply pk_block_ret | apply pk_mid_ret | apply pk_cut_ret))
          obtain rfl := Option.some.inj h
          exact pret_of (prv_2 (prv1_c rfl (by (repeat (first | exact List.Mem.head _ | apply List.Mem.tail))) rfl) (prv1_t rfl)) PSub.nil ⟨rfl, rfl⟩
        · replace h := cond_f hc12 h
          refine pwc_skip ?_
          (repeat (first | apply pk_block_n | apply pk_seq))
          refine pwc_seq ?_
          refine pwc_region ?_
          refine pwl_l rfl rfl rfl (pl_alloc (cs := [.v (.slice none 0 0), .v (.int .i64 0)]) rfl rfl rfl rfl (fun b13 => ?_))
          refine pwl_nil ?_
          (repeat (first | apply pk_block_n | apply pk_seq))
          refine pwc_seq ?_
          refine pwc_seq ?_
          refine pwc_region ?_
          refine pwl_q rfl rfl rfl (pq_move (p := .slc (List.map Tassess_part.enc x11.1)) rfl (.p rfl)) ?_
          refine pwl_q rfl rfl rfl (pq_lenT (enc := Tassess_part.enc) rfl rfl (.p rfl)) ?_
          refine pwl_q rfl rfl rfl (pq_move (p := .v (.int .i64 0)) rfl (.p rfl)) ?_
          refine pwl_nil ?_
          (repeat (first | apply pk_block_n | apply pk_seq))
          refine pwc_nilrow 49 5 ?_
          refine bind_elim h ?_; clear h; intro q26 hq26 h
          refine pwc_join (Y := (Option Addr × Nat) × ((List TDebtLine) × Int)) (fun ((a21, c22), (l23, v24)) => [(4, .v (.pointer (some ⟨b2, 0, none⟩))), (11, .v (.pointer (some ⟨b13, 0, none⟩)))]) (fun ((a21, c22), (l23, v24)) => [PRes.b b13 35 [.v (.slice a21 l23.length c22), .v (.int .i64 v24)], PRes.b b2 35 [.v (.slice none 0 0), .v (.int .i64 0)], PRes.row a21 l23.length c22 49 5 (List.map TDebtLine.enc l23)]) (fun ((a21, c22), (l23, v24)) => q26 = Sum.inl (l23, v24)) ?_ ?_
          · refine pwc_block ?_
            refine pwc_loopF (Y := Option Addr × Nat) (S := Int × (List TDebtLine) × Int) _ hq26 (fun (a17, c18) (v14, l16, v19) => [(4, .v (.pointer (some ⟨b2, 0, none⟩))), (8, .slc (List.map TMeasure.enc x7)), (11, .v (.pointer (some ⟨b13, 0, none⟩))), (52, .slc (List.map Tassess_part.enc x11.1)), (53, .v (.int .i64 (x11.1.length : Int))), (54, .v (.int .i64 v14))]) (fun (a17, c18) (v14, l16, v19) => [PRes.b b13 35 [.v (.slice a17 l16.length c18), .v (.int .i64 v19)], PRes.b b2 35 [.v (.slice none 0 0), .v (.int .i64 0)], PRes.row a17 l16.length c18 49 5 (List.map TDebtLine.enc l16)]) (none, 0) (by (repeat (first | exact PHolds.nil | apply PHolds.cons rfl))) (by (repeat (first | exact PSub.nil | (apply PSub.cons; (focus (repeat (first | exact PPick.h | apply PPick.t))))))) ?_
            rintro ⟨a17, c18⟩ ⟨v14, l16, v19⟩ o τ hb25; (try dsimp only at hb25); dsimp only [pupds]
            refine pwc_seq ?_
            refine pwc_region ?_
            refine pwl_q rfl rfl rfl (pq_cmp rfl (.p rfl) (.p rfl) rfl) ?_
            refine pwl_nil ?_
            (repeat (first | apply pk_block_n | apply pk_seq))
            refine pwc_seq ?_
            refine pwc_cond rfl (fun hc28 => ?_) (fun hc28 => ?_)
            · replace hb25 := cond_t hc28 hb25
              refine pwc_skip ?_
              (repeat (first | apply pk_block_n | apply pk_seq))
              refine pwc_seq ?_
              refine bind_elim hb25 ?_; clear hb25; intro q34 hq34 hb25
              refine pwc_join (Y := (Option Addr × Nat) × ((List TDebtLine) × Int)) (fun ((a30, c31), (l32, v33)) => [(4, .v (.pointer (some ⟨b2, 0, none⟩))), (8, .slc (List.map TMeasure.enc x7)), (11, .v (.pointer (some ⟨b13, 0, none⟩))), (52, .slc (List.map Tassess_part.enc x11.1)), (53, .v (.int .i64 (x11.1.length : Int))), (54, .v (.int .i64 v14))]) (fun ((a30, c31), (l32, v33)) => [PRes.b b13 35 [.v (.slice a30 l32.length c31), .v (.int .i64 v33)], PRes.b b2 35 [.v (.slice none 0 0), .v (.int .i64 0)], PRes.row a30 l32.length c31 49 5 (List.map TDebtLine.enc l32)]) (fun ((a30, c31), (l32, v33)) => q34 = Sum.inl (l32, v33)) ?_ ?_
              · skip
                refine pwc_block ?_
                refine pwc_seq ?_
                refine pwc_region ?_
                refine bind_elim hq34 ?_; clear hq34; intro m35 hm35 hq34
                refine pwl_q rfl rfl rfl (pq_index (enc := Tassess_part.enc) rfl rfl rfl (fun _ => rfl) (.p rfl) (.p rfl) (fun _ => hm35)) ?_
                refine pwl_q rfl rfl rfl (pq_load_r (p := .agg [.v (.int .i64 m35.quantity), .v (.int .i64 m35.value), .slc (List.map eI m35.kinds)]) rfl (.p rfl) rfl) ?_
                refine pwl_l rfl rfl rfl (pl_alloc (cs := [.v (.int .i64 0), .v (.int .i64 0), .v (.slice none 0 0)]) rfl rfl rfl rfl (fun b36 => ?_))
                refine pwl_l0 rfl rfl (pl_store (vs := [.v (.int .i64 m35.quantity), .v (.int .i64 m35.value), .slc (List.map eI m35.kinds)]) rfl rfl rfl rfl rfl (by (repeat (first | exact PUpd.h | apply PUpd.t))) (by (repeat (first | exact PSplice.nil | apply PSplice.c | apply PSplice.t))) ?_)
                refine pwl_nil ?_
                (repeat (first | apply pk_block_n | apply pk_seq))
                refine pwc_seq ?_
                refine pwc_region ?_
                refine pwl_q rfl rfl rfl (pq_move (p := .slc (List.map TMeasure.enc x7)) rfl (.p rfl)) ?_
                refine pwl_q rfl rfl rfl (pq_load_b (p := .agg [.v (.int .i64 m35.quantity), .v (.int .i64 m35.value), .slc (List.map eI m35.kinds)]) rfl (.p rfl) (by (repeat (first | exact List.Mem.head _ | apply List.Mem.tail))) rfl) ?_
                refine bind_elim hq34 ?_; clear hq34; intro x37 hx37 hq34
                refine pwl_call rfl rfl rfl rfl rfl (assess_leastDuty_ok hx37) ?_
                refine pwl_q rfl rfl rfl (pq_move (p := .tup [.agg [.v (.int .i64 x37.1.Kind), .v (.int .i64 x37.1.Measure), .v (.int .i64 x37.1.Quantity), .v (.int .i64 x37.1.Value), .v (.int .i64 x37.1.Amount)], .v (.bool x37.2.1), .v (.int .i64 x37.2.2)]) rfl (.p rfl)) ?_
                refine pwl_q rfl rfl rfl (pq_extract (p := .agg [.v (.int .i64 x37.1.Kind), .v (.int .i64 x37.1.Measure), .v (.int .i64 x37.1.Quantity), .v (.int .i64 x37.1.Value), .v (.int .i64 x37.1.Amount)]) rfl (.p rfl) rfl) ?_
                refine pwl_q rfl rfl rfl (pq_extract (p := .v (.bool x37.2.1)) rfl (.p rfl) rfl) ?_
                refine pwl_q rfl rfl rfl (pq_extract (p := .v (.int .i64 x37.2.2)) rfl (.p rfl) rfl) ?_
                refine pwl_l rfl rfl rfl (pl_alloc (cs := [.v (.int .i64 0), .v (.int .i64 0), .v (.int .i64 0), .v (.int .i64 0), .v (.int .i64 0)]) rfl rfl rfl rfl (fun b38 => ?_))
                refine pwl_l0 rfl rfl (pl_store (vs := [.v (.int .i64 x37.1.Kind), .v (.int .i64 x37.1.Measure), .v (.int .i64 x37.1.Quantity), .v (.int .i64 x37.1.Value), .v (.int .i64 x37.1.Amount)]) rfl rfl rfl rfl rfl (by (repeat (first | exact PUpd.h | apply PUpd.t))) (by (repeat (first | exact PSplice.nil | apply PSplice.c | apply PSplice.t))) ?_)
                refine pwl_q rfl rfl rfl (pq_assign (p := .v (.bool x37.2.1)) rfl (.p rfl)) ?_
                refine pwl_q rfl rfl rfl (pq_assign (p := .v (.int .i64 x37.2.2)) rfl (.p rfl)) ?_
                refine pwl_nil ?_
                (repeat (first | apply pk_block_n | apply pk_seq))
                refine pwc_seq ?_
                refine pwc_seq ?_
                refine pwc_region ?_
                refine pwl_q rfl rfl rfl (pq_move (p := .v (.int .i64 x37.2.2)) rfl (.p rfl)) ?_
                refine pwl_q rfl rfl rfl (pq_cmp rfl (.p rfl) (.p rfl) rfl) ?_
                refine pwl_nil ?_
                (repeat (first | apply pk_block_n | apply pk_seq))
                refine pwc_cond rfl (fun hc39 => ?_) (fun hc39 => ?_)
                · replace hq34 := cond_t hc39 hq34
                  refine pwc_seq ?_
                  refine pwc_region ?_
                  refine pwl_q rfl rfl rfl (pq_build (cs := [.v (.slice none 0 0), .v (.int .i64 0)]) rfl rfl rfl rfl rfl rfl rfl (by (repeat (first | exact PFill.nil | (apply PFill.cons rfl rfl rfl rfl; (focus (repeat (first | exact PSplice.nil | apply PSplice.c | apply PSplice.t)))))))) ?_
                  refine pwl_q rfl rfl rfl (pq_move (p := .v (.int .i64 x37.2.2)) rfl (.p rfl)) ?_
                  refine pwl_l0 rfl rfl (pl_store (vs := [.v (.slice none 0 0), .v (.int .i64 0)]) rfl rfl rfl rfl rfl (by (repeat (first | exact PUpd.h | apply PUpd.t))) (by (repeat (first | exact PSplice.nil | apply PSplice.c | apply PSplice.t))) ?_)
                  refine pwl_q rfl rfl rfl (pq_assign (p := .v (.int .i64 x37.2.2)) rfl (.p rfl)) ?_
                  refine pwl_nil ?_
                  (repeat (first | apply pk_block_n | apply pk_seq))
                  refine pwc_nilb (k := 0) (b := b2) rfl (by (repeat (first | exact PUpd.h | apply PUpd.t))) ?_
                  refine pwc_ret ?_
                  (repeat (first | apply pk_seq_ret | apply pk_block_ret | apply pk_mid_ret | apply pk_cut_ret))
                  obtain rfl := Option.some.inj hq34
                  have hb25 := (show some _ = some _ from hb25)
                  (repeat (first | apply pk_seq_ret | apply pk_block_ret | apply pk_mid_ret | apply pk_cut_ret))
                  refine pk_loop_ret hb25 (fun ht => ?_); subst ht
                  have h := (show some _ = some _ from h)
                  (repeat (first | apply pk_seq_ret | apply pk_block_ret | apply pk_mid_ret | apply pk_cut_ret))
                  obtain rfl := Option.some.inj h
                  exact pret_of (prv_2 (prv1_c rfl (by (repeat (first | exact List.Mem.head _ | apply List.Mem.tail))) rfl) (prv1_t rfl)) PSub.nil ⟨rfl, rfl⟩
                · replace hq34 := cond_f hc39 hq34
                  refine pwc_skip ?_
                  (repeat (first | apply pk_block_n | apply pk_seq))
                  refine pwc_seq ?_
                  refine pwc_region ?_
                  refine pwl_q rfl rfl rfl (pq_move (p := .v (.bool x37.2.1)) rfl (.p rfl)) ?_
                  refine pwl_nil ?_
                  (repeat (first | apply pk_block_n | apply pk_seq))
                  refine pwc_cond rfl (fun hc40 => ?_) (fun hc40 => ?_)
                  · replace hq34 := cond_t hc40 hq34
                    refine pwc_seq ?_
                    refine pwc_region ?_
                    refine pwl_q rfl rfl rfl (pq_fieldAddr rfl rfl rfl rfl rfl (.p rfl)) ?_
                    refine pwl_q rfl rfl rfl (pq_load_b (p := .v (.slice a17 l16.length c18)) rfl (.p rfl) (by (repeat (first | exact List.Mem.head _ | apply List.Mem.tail))) rfl) ?_
                    refine pwl_q rfl rfl rfl (pq_load_b (p := .agg [.v (.int .i64 x37.1.Kind), .v (.int .i64 x37.1.Measure), .v (.int .i64 x37.1.Quantity), .v (.int .i64 x37.1.Value), .v (.int .i64 x37.1.Amount)]) rfl (.p rfl) (by (repeat (first | exact List.Mem.head _ | apply List.Mem.tail))) rfl) ?_
                    refine pwl_l rfl rfl rfl (pl_lit rfl rfl rfl rfl rfl (by (repeat (first | exact PLit.nil | apply PLit.cons rfl))) rfl rfl rfl rfl (fun b41 => ?_))
                    refine bind_elim hq34 ?_; clear hq34; intro l43 hl43 hq34
                    refine pwl_l rfl rfl rfl (pl_app_o (enc := TDebtLine.enc) rfl rfl rfl rfl rfl rfl rfl rfl rfl (by (repeat (first | exact List.Mem.head _ | apply List.Mem.tail))) (by (repeat (first | exact PPick.h | apply PPick.t))) hl43 (fun a44 c45 => ?_))
                    refine pwl_q rfl rfl rfl (pq_fieldAddr rfl rfl rfl rfl rfl (.p rfl)) ?_
                    refine pwl_l0 rfl rfl (pl_store (vs := [.v (.slice a44 l43.length c45)]) rfl rfl rfl rfl rfl (by (repeat (first | exact PUpd.h | apply PUpd.t))) (by (repeat (first | exact PSplice.nil | apply PSplice.c | apply PSplice.t))) ?_)
                    refine pwl_nil ?_
                    (repeat (first | apply pk_block_n | apply pk_seq))
                    refine pwc_region ?_
                    refine pwl_q rfl rfl rfl (pq_fieldAddr rfl rfl rfl rfl rfl (.p rfl)) ?_
                    refine pwl_q rfl rfl rfl (pq_load_b (p := .v (.int .i64 v19)) rfl (.p rfl) (by (repeat (first | exact List.Mem.head _ | apply List.Mem.tail))) rfl) ?_
                    refine pwl_q rfl rfl rfl (pq_fieldAddr rfl rfl rfl rfl rfl (.p rfl)) ?_
                    refine pwl_q rfl rfl rfl (pq_load_b (p := .v (.int .i64 x37.1.Amount)) rfl (.p rfl) (by (repeat (first | exact List.Mem.head _ | apply List.Mem.tail))) rfl) ?_
                    refine pwl_q rfl rfl rfl (pq_arith rfl (.p rfl) (.p rfl) rfl) ?_
                    refine pwl_q rfl rfl rfl (pq_fieldAddr rfl rfl rfl rfl rfl (.p rfl)) ?_
                    refine pwl_l0 rfl rfl (pl_store (vs := [.v (.int .i64 (IntKind.i64.wrap (v19 + x37.1.Amount)))]) rfl rfl rfl rfl rfl (by (repeat (first | exact PUpd.h | apply PUpd.t))) (by (repeat (first | exact PSplice.nil | apply PSplice.c | apply PSplice.t))) ?_)
                    refine pwl_nil ?_
                    refine pk_block_n ?_
                    obtain rfl := Option.some.inj hq34
                    exact pk_mid ((a44, c45), (l43, (IntKind.i64.wrap (v19 + x37.1.Amount)))) (by (repeat (first | exact PHolds.nil | apply PHolds.cons rfl))) (by (repeat (first | exact PSub.nil | (apply PSub.cons; (focus (repeat (first | exact PPick.h | apply PPick.t))))))) rfl
                  · replace hq34 := cond_f hc40 hq34
                    refine pwc_skip ?_
                    refine pk_block_n ?_
                    obtain rfl := Option.some.inj hq34
                    exact pk_mid ((a17, c18), (l16, v19)) (by (repeat (first | exact PHolds.nil | apply PHolds.cons rfl))) (by (repeat (first | exact PSub.nil | (apply PSub.cons; (focus (repeat (first | exact PPick.h | apply PPick.t))))))) rfl
              · rintro ⟨⟨a30, c31⟩, ⟨l32, v33⟩⟩ τ hz; (try dsimp only at hz); subst q34; (try dsimp only at hb25); dsimp only [pupds]
                refine pwc_region ?_
                refine pwl_q rfl rfl rfl (pq_arith rfl (.p rfl) (.p rfl) rfl) ?_
                refine pwl_q rfl rfl rfl (pq_move (p := .v (.int .i64 (IntKind.i64.wrap (v14 + 1)))) rfl (.p rfl)) ?_
                refine pwl_nil ?_
                (repeat apply pk_block_n)
                exact pk_loop hb25 (a30, c31) (by (repeat (first | exact PHolds.nil | apply PHolds.cons rfl))) (by (repeat (first | exact PSub.nil | (apply PSub.cons; (focus (repeat (first | exact PPick.h | apply PPick.t)))))))
            · replace hb25 := cond_f hc28 hb25
              refine pwc_exit ?_
              (repeat (first | apply pk_seq_exit | apply pk_mid_exit | apply pk_cut_exit | apply pk_block_ne rfl))
              refine pk_loop_exit hb25 (fun ht => ?_)
              refine pk_block_eq rfl ?_
              exact pk_mid ((a17, c18), (l16, v19)) (by (repeat (first | exact PHolds.nil | apply PHolds.cons rfl))) (by (repeat (first | exact PSub.nil | (apply PSub.cons; (focus (repeat (first | exact PPick.h | apply PPick.t))))))) ht.symm
          · rintro ⟨⟨a21, c22⟩, ⟨l23, v24⟩⟩ τ hz; (try dsimp only at hz); subst q26; (try dsimp only at h); dsimp only [pupds]
            refine pwc_seq ?_
            refine pwc_seq ?_
            refine pwc_region ?_
            refine pwl_q rfl rfl rfl (pq_fieldAddr rfl rfl rfl rfl rfl (.p rfl)) ?_
            refine pwl_q rfl rfl rfl (pq_load_b (p := .v (.int .i64 v24)) rfl (.p rfl) (by (repeat (first | exact List.Mem.head _ | apply List.Mem.tail))) rfl) ?_
            refine pwl_q rfl rfl rfl (pq_cmp rfl (.p rfl) (.p rfl) rfl) ?_
            refine pwl_nil ?_
            (repeat (first | apply pk_block_n | apply pk_seq))
            refine pwc_cond rfl (fun hc47 => ?_) (fun hc47 => ?_)
            · replace h := cond_t hc47 h
              refine pwc_seq ?_
              refine pwc_region ?_
              refine pwl_q rfl rfl rfl (pq_build (cs := [.v (.slice none 0 0), .v (.int .i64 0)]) rfl rfl rfl rfl rfl rfl rfl (by (repeat (first | exact PFill.nil | (apply PFill.cons rfl rfl rfl rfl; (focus (repeat (first | exact PSplice.nil | apply PSplice.c | apply PSplice.t)))))))) ?_
              refine pwl_l0 rfl rfl (pl_store (vs := [.v (.slice none 0 0), .v (.int .i64 0)]) rfl rfl rfl rfl rfl (by (repeat (first | exact PUpd.h | apply PUpd.t))) (by (repeat (first | exact PSplice.nil | apply PSplice.c | apply PSplice.t))) ?_)
              refine pwl_q rfl rfl rfl (pq_assign (p := .v (.int .i64 3)) rfl (.p rfl)) ?_
              refine pwl_nil ?_
              (repeat (first | apply pk_block_n | apply pk_seq))
              refine pwc_nilb (k := 0) (b := b2) rfl (by (repeat (first | exact PUpd.h | apply PUpd.t))) ?_
              refine pwc_ret ?_
              (repeat (first | apply pk_seq_ret | apply pk_block_ret | apply pk_mid_ret | apply pk_cut_ret))
              obtain rfl := Option.some.inj h
              exact pret_of (prv_2 (prv1_c rfl (by (repeat (first | exact List.Mem.head _ | apply List.Mem.tail))) rfl) (prv1_t rfl)) PSub.nil ⟨rfl, rfl⟩
            · replace h := cond_f hc47 h
              refine pwc_skip ?_
              (repeat (first | apply pk_block_n | apply pk_seq))
              refine pwc_seq ?_
              refine pwc_region ?_
              refine pwl_frz (css := List.map TDebtLine.enc l23) (a := a21) (by (repeat (first | exact PPick.h | apply PPick.t))) ?_
              refine pwl_viewb (k := 0) (css := List.map TDebtLine.enc l23) (b := b13) (a := a21) rfl (by (repeat (first | exact List.Mem.head _ | apply List.Mem.tail))) (by (repeat (first | exact PUpd.h | apply PUpd.t))) ?_
              refine pwl_q rfl rfl rfl (pq_load_b (p := .agg [.slc (List.map TDebtLine.enc l23), .v (.int .i64 v24)]) rfl (.p rfl) (by (repeat (first | exact List.Mem.head _ | apply List.Mem.tail))) rfl) ?_
              refine pwl_l0 rfl rfl (pl_store (vs := [.slc (List.map TDebtLine.enc l23), .v (.int .i64 v24)]) rfl rfl rfl rfl rfl (by (repeat (first | exact PUpd.h | apply PUpd.t))) (by (repeat (first | exact PSplice.nil | apply PSplice.c | apply PSplice.t))) ?_)
              refine pwl_q rfl rfl rfl (pq_assign (p := .v (.int .i64 0)) rfl (.p rfl)) ?_
              refine pwl_nil ?_
              (repeat (first | apply pk_block_n | apply pk_seq))
              refine pwc_ret ?_
              (repeat (first | apply pk_seq_ret | apply pk_block_ret | apply pk_mid_ret | apply pk_cut_ret))
              obtain rfl := Option.some.inj h
              exact pret_of (prv_2 (prv1_c rfl (by (repeat (first | exact List.Mem.head _ | apply List.Mem.tail))) rfl) (prv1_t rfl)) PSub.nil ⟨rfl, rfl⟩
/-- customs/assess.Total -/
def assess_Total (p0 : (List TMeasure)) (p1 : TItem) : Option (Int × Int) := Option.bind (assess_Assess p0 p1) (fun x2 => some (x2.1.Total, x2.2))
set_option maxHeartbeats 4000000 in
theorem assess_Total_ok {p0 : (List TMeasure)} {p1 : TItem} {r : (Int × Int)}  (h : assess_Total p0 p1 = some r) : PF 19 [.slc (List.map TMeasure.enc p0), .agg [.v (.string p1.Code), .v (.string p1.Origin), .v (.bool p1.Proof), .v (.int .i64 p1.Company), .v (.int .i64 p1.Day), .v (.int .i64 p1.Quantity), .v (.int .i64 p1.Value), .v (.int .i64 p1.Granted)]] (.tup [.v (.int .i64 r.1), .v (.int .i64 r.2)]) := by
  unfold assess_Total at h
  refine pf_of ?_
  refine penter Tryz.func19 fk19 rfl Tryz.ntmps19 Tryz.results19 rfl ?_
  refine pwc_seq ?_
  refine pwc_region ?_
  refine pwl_l rfl rfl rfl (pl_box (cs := [.v (.string p1.Code), .v (.string p1.Origin), .v (.bool p1.Proof), .v (.int .i64 p1.Company), .v (.int .i64 p1.Day), .v (.int .i64 p1.Quantity), .v (.int .i64 p1.Value), .v (.int .i64 p1.Granted)]) rfl rfl (fun b1 => ?_))
  refine pwl_q rfl rfl rfl (pq_assign (p := .v (.int .i64 0)) rfl (.p rfl)) ?_
  refine pwl_q rfl rfl rfl (pq_assign (p := .v (.int .i64 0)) rfl (.p rfl)) ?_
  refine pwl_nil ?_
  (repeat (first | apply pk_block_n | apply pk_seq))
  refine pwc_seq ?_
  refine pwc_region ?_
  refine pwl_q rfl rfl rfl (pq_move (p := .slc (List.map TMeasure.enc p0)) rfl (.p rfl)) ?_
  refine pwl_q rfl rfl rfl (pq_load_b (p := .agg [.v (.string p1.Code), .v (.string p1.Origin), .v (.bool p1.Proof), .v (.int .i64 p1.Company), .v (.int .i64 p1.Day), .v (.int .i64 p1.Quantity), .v (.int .i64 p1.Value), .v (.int .i64 p1.Granted)]) rfl (.p rfl) (by (repeat (first | exact List.Mem.head _ | apply List.Mem.tail))) rfl) ?_
  refine bind_elim h ?_; clear h; intro x2 hx2 h
  refine pwl_call rfl rfl rfl rfl rfl (assess_Assess_ok hx2) ?_
  refine pwl_q rfl rfl rfl (pq_move (p := .tup [.agg [.slc (List.map TDebtLine.enc x2.1.Lines), .v (.int .i64 x2.1.Total)], .v (.int .i64 x2.2)]) rfl (.p rfl)) ?_
  refine pwl_q rfl rfl rfl (pq_extract (p := .agg [.slc (List.map TDebtLine.enc x2.1.Lines), .v (.int .i64 x2.1.Total)]) rfl (.p rfl) rfl) ?_
  refine pwl_q rfl rfl rfl (pq_extract (p := .v (.int .i64 x2.2)) rfl (.p rfl) rfl) ?_
  refine pwl_l rfl rfl rfl (pl_alloc (cs := [.v (.slice none 0 0), .v (.int .i64 0)]) rfl rfl rfl rfl (fun b3 => ?_))
  refine pwl_l0 rfl rfl (pl_store (vs := [.slc (List.map TDebtLine.enc x2.1.Lines), .v (.int .i64 x2.1.Total)]) rfl rfl rfl rfl rfl (by (repeat (first | exact PUpd.h | apply PUpd.t))) (by (repeat (first | exact PSplice.nil | apply PSplice.c | apply PSplice.t))) ?_)
  refine pwl_q rfl rfl rfl (pq_assign (p := .v (.int .i64 x2.2)) rfl (.p rfl)) ?_
  refine pwl_nil ?_
  (repeat (first | apply pk_block_n | apply pk_seq))
  refine pwc_seq ?_
  refine pwc_region ?_
  refine pwl_q rfl rfl rfl (pq_fieldAddr rfl rfl rfl rfl rfl (.p rfl)) ?_
  refine pwl_q rfl rfl rfl (pq_load_b (p := .v (.int .i64 x2.1.Total)) rfl (.p rfl) (by (repeat (first | exact List.Mem.head _ | apply List.Mem.tail))) rfl) ?_
  refine pwl_q rfl rfl rfl (pq_move (p := .v (.int .i64 x2.2)) rfl (.p rfl)) ?_
  refine pwl_q rfl rfl rfl (pq_assign (p := .v (.int .i64 x2.1.Total)) rfl (.p rfl)) ?_
  refine pwl_q rfl rfl rfl (pq_assign (p := .v (.int .i64 x2.2)) rfl (.p rfl)) ?_
  refine pwl_nil ?_
  (repeat (first | apply pk_block_n | apply pk_seq))
  refine pwc_ret ?_
  (repeat (first | apply pk_seq_ret | apply pk_block_ret | apply pk_mid_ret | apply pk_cut_ret))
  obtain rfl := Option.some.inj h
  exact pret_of (prv_2 (prv1_t rfl) (prv1_t rfl)) PSub.nil ⟨rfl, rfl⟩
/-- customs/customslaw20.awake -/
def law20_awake  : Option Bool := Option.bind (assess_Assess [(⟨1, 1, (⟨#[57, 52]⟩ : ByteArray), [], 0, 0, 100, (-1), (⟨50000, 0, 0, false, 0, false, 0⟩ : TDuty)⟩ : TMeasure), (⟨2, 3, (⟨#[57, 52]⟩ : ByteArray), [], 0, 0, 100, (-1), (⟨0, 0, 0, false, 0, false, 0⟩ : TDuty)⟩ : TMeasure)] (⟨(⟨#[57, 52, 48, 49, 51, 48, 48, 48]⟩ : ByteArray), (⟨#[65, 65]⟩ : ByteArray), false, 0, 0, 10, 10000, 0⟩ : TItem)) (fun x4 => Option.bind (assess_Total [(⟨1, 1, (⟨#[57, 52]⟩ : ByteArray), [], 0, 0, 100, (-1), (⟨50000, 0, 0, false, 0, false, 0⟩ : TDuty)⟩ : TMeasure), (⟨2, 3, (⟨#[57, 52]⟩ : ByteArray), [], 0, 0, 100, (-1), (⟨0, 0, 0, false, 0, false, 0⟩ : TDuty)⟩ : TMeasure)] (⟨(⟨#[57, 52, 48, 49, 51, 48, 48, 48]⟩ : ByteArray), (⟨#[65, 65]⟩ : ByteArray), true, 0, 0, 10, 10000, 0⟩ : TItem)) (fun x6 => some (((((x4.2 == 0) && (x6.2 == 0)) && (x4.1.Total == 500)) && ((x4.1.Lines.length : Int) == 1)) && (x6.1 == 0))))
set_option maxHeartbeats 4000000 in
theorem law20_awake_ok  {r : Bool}  (h : law20_awake  = some r) : PF 15 [] (.v (.bool r)) := by
  unfold law20_awake at h
  refine pf_of ?_
  refine penter Tryz.func15 fk15 rfl Tryz.ntmps15 Tryz.results15 rfl ?_
  refine pwc_seq ?_
  refine pwc_region ?_
  refine pwl_q rfl rfl rfl (pq_assign (p := .v (.bool false)) rfl (.p rfl)) ?_
  refine pwl_nil ?_
  (repeat (first | apply pk_block_n | apply pk_seq))
  refine pwc_seq ?_
  refine pwc_region ?_
  refine pwl_q rfl rfl rfl (pq_build (cs := [.v (.int .i64 50000), .v (.int .i64 0), .v (.int .i64 0), .v (.bool false), .v (.int .i64 0), .v (.bool false), .v (.int .i64 0)]) rfl rfl rfl rfl rfl rfl rfl (by (repeat (first | exact PFill.nil | (apply PFill.cons rfl rfl rfl rfl; (focus (repeat (first | exact PSplice.nil | apply PSplice.c | apply PSplice.t)))))))) ?_
  refine pwl_q rfl rfl rfl (pq_build (cs := [.v (.int .i64 1), .v (.int .i64 1), .v (.string (⟨#[57, 52]⟩ : ByteArray)), .v (.slice none 0 0), .v (.int .i64 0), .v (.int .i64 0), .v (.int .i64 100), .v (.int .i64 (-1)), .v (.int .i64 50000), .v (.int .i64 0), .v (.int .i64 0), .v (.bool false), .v (.int .i64 0), .v (.bool false), .v (.int .i64 0)]) rfl rfl rfl rfl rfl rfl rfl (by (repeat (first | exact PFill.nil | (apply PFill.cons rfl rfl rfl rfl; (focus (repeat (first | exact PSplice.nil | apply PSplice.c | apply PSplice.t)))))))) ?_
  refine pwl_q rfl rfl rfl (pq_build (cs := [.v (.int .i64 2), .v (.int .i64 3), .v (.string (⟨#[57, 52]⟩ : ByteArray)), .v (.slice none 0 0), .v (.int .i64 0), .v (.int .i64 0), .v (.int .i64 100), .v (.int .i64 (-1)), .v (.int .i64 0), .v (.int .i64 0), .v (.int .i64 0), .v (.bool false), .v (.int .i64 0), .v (.bool false), .v (.int .i64 0)]) rfl rfl rfl rfl rfl rfl rfl (by (repeat (first | exact PFill.nil | (apply PFill.cons rfl rfl rfl rfl; (focus (repeat (first | exact PSplice.nil | apply PSplice.c | apply PSplice.t)))))))) ?_
  refine pwl_aggnil 8 3 rfl rfl ?_
  refine pwl_aggnil 9 3 rfl rfl ?_
  refine pwl_l rfl rfl rfl (pl_lit rfl rfl rfl rfl rfl (by (repeat (first | exact PLit.nil | apply PLit.cons rfl))) rfl rfl rfl rfl (fun b1 => ?_))
  refine pwl_q rfl rfl rfl (pq_assign (p := .v (.slice (some ⟨b1, 0, none⟩) 2 2)) rfl (.p rfl)) ?_
  refine pwl_nil ?_
  (repeat (first | apply pk_block_n | apply pk_seq))
  refine pwc_seq ?_
  refine pwc_region ?_
  refine pwl_q rfl rfl rfl (pq_build (cs := [.v (.string (⟨#[57, 52, 48, 49, 51, 48, 48, 48]⟩ : ByteArray)), .v (.string (⟨#[65, 65]⟩ : ByteArray)), .v (.bool false), .v (.int .i64 0), .v (.int .i64 0), .v (.int .i64 10), .v (.int .i64 10000), .v (.int .i64 0)]) rfl rfl rfl rfl rfl rfl rfl (by (repeat (first | exact PFill.nil | (apply PFill.cons rfl rfl rfl rfl; (focus (repeat (first | exact PSplice.nil | apply PSplice.c | apply PSplice.t)))))))) ?_
  refine pwl_l rfl rfl rfl (pl_alloc (cs := [.v (.string ByteArray.empty), .v (.string ByteArray.empty), .v (.bool false), .v (.int .i64 0), .v (.int .i64 0), .v (.int .i64 0), .v (.int .i64 0), .v (.int .i64 0)]) rfl rfl rfl rfl (fun b3 => ?_))
  refine pwl_l0 rfl rfl (pl_store (vs := [.v (.string (⟨#[57, 52, 48, 49, 51, 48, 48, 48]⟩ : ByteArray)), .v (.string (⟨#[65, 65]⟩ : ByteArray)), .v (.bool false), .v (.int .i64 0), .v (.int .i64 0), .v (.int .i64 10), .v (.int .i64 10000), .v (.int .i64 0)]) rfl rfl rfl rfl rfl (by (repeat (first | exact PUpd.h | apply PUpd.t))) (by (repeat (first | exact PSplice.nil | apply PSplice.c | apply PSplice.t))) ?_)
  refine pwl_nil ?_
  (repeat (first | apply pk_block_n | apply pk_seq))
  refine pwc_seq ?_
  refine pwc_region ?_
  refine pwl_q rfl rfl rfl (pq_move (p := .v (.slice (some ⟨b1, 0, none⟩) 2 2)) rfl (.p rfl)) ?_
  refine pwl_q rfl rfl rfl (pq_load_b (p := .agg [.v (.string (⟨#[57, 52, 48, 49, 51, 48, 48, 48]⟩ : ByteArray)), .v (.string (⟨#[65, 65]⟩ : ByteArray)), .v (.bool false), .v (.int .i64 0), .v (.int .i64 0), .v (.int .i64 10), .v (.int .i64 10000), .v (.int .i64 0)]) rfl (.p rfl) (by (repeat (first | exact List.Mem.head _ | apply List.Mem.tail))) rfl) ?_
  refine pwl_frzt (css := List.map TMeasure.enc [(⟨1, 1, (⟨#[57, 52]⟩ : ByteArray), [], 0, 0, 100, (-1), (⟨50000, 0, 0, false, 0, false, 0⟩ : TDuty)⟩ : TMeasure), (⟨2, 3, (⟨#[57, 52]⟩ : ByteArray), [], 0, 0, 100, (-1), (⟨0, 0, 0, false, 0, false, 0⟩ : TDuty)⟩ : TMeasure)]) 13 rfl (by (repeat (first | exact PPick.h | apply PPick.t))) ?_
  refine bind_elim h ?_; clear h; intro x4 hx4 h
  refine pwl_call rfl rfl rfl rfl rfl (assess_Assess_ok hx4) ?_
  refine pwl_q rfl rfl rfl (pq_move (p := .tup [.agg [.slc (List.map TDebtLine.enc x4.1.Lines), .v (.int .i64 x4.1.Total)], .v (.int .i64 x4.2)]) rfl (.p rfl)) ?_
  refine pwl_q rfl rfl rfl (pq_extract (p := .agg [.slc (List.map TDebtLine.enc x4.1.Lines), .v (.int .i64 x4.1.Total)]) rfl (.p rfl) rfl) ?_
  refine pwl_q rfl rfl rfl (pq_extract (p := .v (.int .i64 x4.2)) rfl (.p rfl) rfl) ?_
  refine pwl_l rfl rfl rfl (pl_alloc (cs := [.v (.slice none 0 0), .v (.int .i64 0)]) rfl rfl rfl rfl (fun b5 => ?_))
  refine pwl_l0 rfl rfl (pl_store (vs := [.slc (List.map TDebtLine.enc x4.1.Lines), .v (.int .i64 x4.1.Total)]) rfl rfl rfl rfl rfl (by (repeat (first | exact PUpd.h | apply PUpd.t))) (by (repeat (first | exact PSplice.nil | apply PSplice.c | apply PSplice.t))) ?_)
  refine pwl_q rfl rfl rfl (pq_assign (p := .v (.int .i64 x4.2)) rfl (.p rfl)) ?_
  refine pwl_nil ?_
  (repeat (first | apply pk_block_n | apply pk_seq))
  refine pwc_seq ?_
  refine pwc_region ?_
  refine pwl_q rfl rfl rfl (pq_fieldAddr rfl rfl rfl rfl rfl (.p rfl)) ?_
  refine pwl_l0 rfl rfl (pl_store (vs := [.v (.bool true)]) rfl rfl rfl rfl rfl (by (repeat (first | exact PUpd.h | apply PUpd.t))) (by (repeat (first | exact PSplice.nil | apply PSplice.c | apply PSplice.t))) ?_)
  refine pwl_nil ?_
  (repeat (first | apply pk_block_n | apply pk_seq))
  refine pwc_seq ?_
  refine pwc_region ?_
  refine pwl_q rfl rfl rfl (pq_move (p := .v (.slice (some ⟨b1, 0, none⟩) 2 2)) rfl (.p rfl)) ?_
  refine pwl_q rfl rfl rfl (pq_load_b (p := .agg [.v (.string (⟨#[57, 52, 48, 49, 51, 48, 48, 48]⟩ : ByteArray)), .v (.string (⟨#[65, 65]⟩ : ByteArray)), .v (.bool true), .v (.int .i64 0), .v (.int .i64 0), .v (.int .i64 10), .v (.int .i64 10000), .v (.int .i64 0)]) rfl (.p rfl) (by (repeat (first | exact List.Mem.head _ | apply List.Mem.tail))) rfl) ?_
  refine pwl_view (css := List.map TMeasure.enc [(⟨1, 1, (⟨#[57, 52]⟩ : ByteArray), [], 0, 0, 100, (-1), (⟨50000, 0, 0, false, 0, false, 0⟩ : TDuty)⟩ : TMeasure), (⟨2, 3, (⟨#[57, 52]⟩ : ByteArray), [], 0, 0, 100, (-1), (⟨0, 0, 0, false, 0, false, 0⟩ : TDuty)⟩ : TMeasure)]) 20 rfl (by (repeat (first | exact List.Mem.head _ | apply List.Mem.tail))) ?_
  refine bind_elim h ?_; clear h; intro x6 hx6 h
  refine pwl_call rfl rfl rfl rfl rfl (assess_Total_ok hx6) ?_
  refine pwl_q rfl rfl rfl (pq_move (p := .tup [.v (.int .i64 x6.1), .v (.int .i64 x6.2)]) rfl (.p rfl)) ?_
  refine pwl_q rfl rfl rfl (pq_extract (p := .v (.int .i64 x6.1)) rfl (.p rfl) rfl) ?_
  refine pwl_q rfl rfl rfl (pq_extract (p := .v (.int .i64 x6.2)) rfl (.p rfl) rfl) ?_
  refine pwl_q rfl rfl rfl (pq_assign (p := .v (.int .i64 x6.1)) rfl (.p rfl)) ?_
  refine pwl_q rfl rfl rfl (pq_assign (p := .v (.int .i64 x6.2)) rfl (.p rfl)) ?_
  refine pwl_nil ?_
  (repeat (first | apply pk_block_n | apply pk_seq))
  refine pwc_seq ?_
  refine pwc_region ?_
  refine pwl_q rfl rfl rfl (pq_move (p := .v (.int .i64 x4.2)) rfl (.p rfl)) ?_
  refine pwl_q rfl rfl rfl (pq_cmp rfl (.p rfl) (.p rfl) rfl) ?_
  refine pwl_q rfl rfl rfl (pq_move (p := .v (.bool (x4.2 == 0))) rfl (.p rfl)) ?_
  refine pwl_qg (pguard_t rfl rfl rfl) rfl rfl (pq_move (p := .v (.int .i64 x6.2)) rfl (.p rfl)) ?_
  refine pwl_qg (pguard_t rfl rfl rfl) rfl rfl (pq_cmp rfl (.g rfl) (.p rfl) rfl) ?_
  refine pwl_q rfl rfl rfl (pq_and rfl (.p rfl) (.p rfl) (.g rfl)) ?_
  refine pwl_q rfl rfl rfl (pq_move (p := .v (.bool ((x4.2 == 0) && (x6.2 == 0)))) rfl (.p rfl)) ?_
  refine pwl_qg (pguard_t rfl rfl rfl) rfl rfl (pq_fieldAddr rfl rfl rfl rfl rfl (.p rfl)) ?_
  refine pwl_qg (pguard_t rfl rfl rfl) rfl rfl (pq_load_b (p := .v (.int .i64 x4.1.Total)) rfl (.g rfl) (by (repeat (first | exact List.Mem.head _ | apply List.Mem.tail))) rfl) ?_
  refine pwl_qg (pguard_t rfl rfl rfl) rfl rfl (pq_cmp rfl (.g rfl) (.p rfl) rfl) ?_
  refine pwl_q rfl rfl rfl (pq_and rfl (.p rfl) (.p rfl) (.g rfl)) ?_
  refine pwl_q rfl rfl rfl (pq_move (p := .v (.bool (((x4.2 == 0) && (x6.2 == 0)) && (x4.1.Total == 500)))) rfl (.p rfl)) ?_
  refine pwl_qg (pguard_t rfl rfl rfl) rfl rfl (pq_fieldAddr rfl rfl rfl rfl rfl (.p rfl)) ?_
  refine pwl_qg (pguard_t rfl rfl rfl) rfl rfl (pq_load_b (p := .slc (List.map TDebtLine.enc x4.1.Lines)) rfl (.g rfl) (by (repeat (first | exact List.Mem.head _ | apply List.Mem.tail))) rfl) ?_
  refine pwl_qg (pguard_t rfl rfl rfl) rfl rfl (pq_lenT (enc := TDebtLine.enc) rfl rfl (.g rfl)) ?_
  refine pwl_qg (pguard_t rfl rfl rfl) rfl rfl (pq_cmp rfl (.g rfl) (.p rfl) rfl) ?_
  refine pwl_q rfl rfl rfl (pq_and rfl (.p rfl) (.p rfl) (.g rfl)) ?_
  refine pwl_q rfl rfl rfl (pq_move (p := .v (.bool ((((x4.2 == 0) && (x6.2 == 0)) && (x4.1.Total == 500)) && ((x4.1.Lines.length : Int) == 1)))) rfl (.p rfl)) ?_
  refine pwl_qg (pguard_t rfl rfl rfl) rfl rfl (pq_move (p := .v (.int .i64 x6.1)) rfl (.p rfl)) ?_
  refine pwl_qg (pguard_t rfl rfl rfl) rfl rfl (pq_cmp rfl (.g rfl) (.p rfl) rfl) ?_
  refine pwl_q rfl rfl rfl (pq_and rfl (.p rfl) (.p rfl) (.g rfl)) ?_
  refine pwl_q rfl rfl rfl (pq_assign (p := .v (.bool (((((x4.2 == 0) && (x6.2 == 0)) && (x4.1.Total == 500)) && ((x4.1.Lines.length : Int) == 1)) && (x6.1 == 0)))) rfl (.p rfl)) ?_
  refine pwl_nil ?_
  (repeat (first | apply pk_block_n | apply pk_seq))
  refine pwc_ret ?_
  (repeat (first | apply pk_seq_ret | apply pk_block_ret | apply pk_mid_ret | apply pk_cut_ret))
  obtain rfl := Option.some.inj h
  exact pret_of (prv_1 (prv1_t rfl)) PSub.nil ⟨rfl, rfl⟩
/-- customs/customslaw20.ItemValidate -/
def law20_ItemValidate (p0 : TItem) (p1 : (List Int)) (p2 : Int) (p3 : Int) : Option Bool := Option.bind (made_Item p1) (fun x2 => Option.bind (assess_Validate p0) (fun x4 => Option.bind (ref19_Item p0) (fun x5 => Option.bind (gd (!(x4 != x5)) (assess_Validate x2)) (fun x6 => cond ((x4 != x5) || (x6 != 0)) (some false) (Option.bind (made_Within p2 7) (fun x8 => Option.bind (cond (x8 == 0) (some (p0.Code, x2.Origin, x2.Company, x2.Day, x2.Quantity, x2.Value, x2.Granted)) (cond (x8 == 1) (some (x2.Code, p0.Origin, x2.Company, x2.Day, x2.Quantity, x2.Value, x2.Granted)) (cond (x8 == 2) (some (x2.Code, x2.Origin, p3, x2.Day, x2.Quantity, x2.Value, x2.Granted)) (cond (x8 == 3) (some (x2.Code, x2.Origin, x2.Company, p3, x2.Quantity, x2.Value, x2.Granted)) (cond (x8 == 4) (some (x2.Code, x2.Origin, x2.Company, x2.Day, p3, x2.Value, x2.Granted)) (cond (x8 == 5) (some (x2.Code, x2.Origin, x2.Company, x2.Day, x2.Quantity, p3, x2.Granted)) (Option.bind (made_Within p3 3) (fun x23 => some (x2.Code, x2.Origin, x2.Company, x2.Day, x2.Quantity, x2.Value, (IntKind.i64.wrap ((IntKind.i64.wrap (x2.Quantity + x23)) - 1))))))))))) (fun (v9, v10, v11, v12, v13, v14, v15) => Option.bind (assess_Validate (⟨v9, v10, x2.Proof, v11, v12, v13, v14, v15⟩ : TItem)) (fun x25 => Option.bind (ref19_Item (⟨v9, v10, x2.Proof, v11, v12, v13, v14, v15⟩ : TItem)) (fun x26 => Option.bind (gd (x25 == x26) (law20_awake)) (fun x27 => some ((x25 == x26) && x27)))))))))))
set_option maxHeartbeats 4000000 in
theorem law20_ItemValidate_ok {p0 : TItem} {p1 : (List Int)} {p2 : Int} {p3 : Int} {r : Bool}  (h : law20_ItemValidate p0 p1 p2 p3 = some r) : PF 3 [.agg [.v (.string p0.Code), .v (.string p0.Origin), .v (.bool p0.Proof), .v (.int .i64 p0.Company), .v (.int .i64 p0.Day), .v (.int .i64 p0.Quantity), .v (.int .i64 p0.Value), .v (.int .i64 p0.Granted)], .slc (List.map eI p1), .v (.int .i64 p2), .v (.int .i64 p3)] (.v (.bool r)) := by
  unfold law20_ItemValidate at h
  refine pf_of ?_
  refine penter Tryz.func3 fk3 rfl Tryz.ntmps3 Tryz.results3 rfl ?_
  refine pwc_seq ?_
  refine pwc_region ?_
  refine pwl_l rfl rfl rfl (pl_box (cs := [.v (.string p0.Code), .v (.string p0.Origin), .v (.bool p0.Proof), .v (.int .i64 p0.Company), .v (.int .i64 p0.Day), .v (.int .i64 p0.Quantity), .v (.int .i64 p0.Value), .v (.int .i64 p0.Granted)]) rfl rfl (fun b1 => ?_))
  refine pwl_q rfl rfl rfl (pq_assign (p := .v (.bool false)) rfl (.p rfl)) ?_
  refine pwl_nil ?_
  (repeat (first | apply pk_block_n | apply pk_seq))
  refine pwc_seq ?_
  refine pwc_region ?_
  refine pwl_q rfl rfl rfl (pq_move (p := .slc (List.map eI p1)) rfl (.p rfl)) ?_
  refine bind_elim h ?_; clear h; intro x2 hx2 h
  refine pwl_call rfl rfl rfl rfl rfl (made_Item_ok hx2) ?_
  refine pwl_l rfl rfl rfl (pl_alloc (cs := [.v (.string ByteArray.empty), .v (.string ByteArray.empty), .v (.bool false), .v (.int .i64 0), .v (.int .i64 0), .v (.int .i64 0), .v (.int .i64 0), .v (.int .i64 0)]) rfl rfl rfl rfl (fun b3 => ?_))
  refine pwl_l0 rfl rfl (pl_store (vs := [.v (.string x2.Code), .v (.string x2.Origin), .v (.bool x2.Proof), .v (.int .i64 x2.Company), .v (.int .i64 x2.Day), .v (.int .i64 x2.Quantity), .v (.int .i64 x2.Value), .v (.int .i64 x2.Granted)]) rfl rfl rfl rfl rfl (by (repeat (first | exact PUpd.h | apply PUpd.t))) (by (repeat (first | exact PSplice.nil | apply PSplice.c | apply PSplice.t))) ?_)
  refine pwl_nil ?_
  (repeat (first | apply pk_block_n | apply pk_seq))
  refine pwc_seq ?_
  refine pwc_seq ?_
  refine pwc_draw (ρd := []) [(0, 0), (2, 0), (1, 1), (3, 1), (4, 0), (5, 0), (6, 0), (7, 1), (8, 0), (9, 0)] _ (List.Perm.refl _) (by kernel_rfl) rfl ?_
  refine pwd_q rfl rfl rfl (pq_load_b (p := .agg [.v (.string p0.Code), .v (.string p0.Origin), .v (.bool p0.Proof), .v (.int .i64 p0.Company), .v (.int .i64 p0.Day), .v (.int .i64 p0.Quantity), .v (.int .i64 p0.Value), .v (.int .i64 p0.Granted)]) rfl (.p rfl) (by (repeat (first | exact List.Mem.head _ | apply List.Mem.tail))) rfl) ?_
  refine pwd_q rfl rfl rfl (pq_load_b (p := .agg [.v (.string p0.Code), .v (.string p0.Origin), .v (.bool p0.Proof), .v (.int .i64 p0.Company), .v (.int .i64 p0.Day), .v (.int .i64 p0.Quantity), .v (.int .i64 p0.Value), .v (.int .i64 p0.Granted)]) rfl (.p rfl) (by (repeat (first | exact List.Mem.head _ | apply List.Mem.tail))) rfl) ?_
  refine bind_elim h ?_; clear h; intro x4 hx4 h
  refine pwd_call rfl rfl rfl rfl rfl (assess_Validate_ok hx4) ?_
  refine bind_elim h ?_; clear h; intro x5 hx5 h
  refine pwd_call rfl rfl rfl rfl rfl (ref19_Item_ok hx5) ?_
  refine pwd_q rfl rfl rfl (pq_cmp rfl (.p rfl) (.p rfl) rfl) ?_
  refine pwd_q rfl rfl rfl (pq_move (p := .v (.bool (x4 != x5))) rfl (.p rfl)) ?_
  refine pwd_qg (pguard_f rfl rfl rfl) rfl rfl (pq_load_b (p := .agg [.v (.string x2.Code), .v (.string x2.Origin), .v (.bool x2.Proof), .v (.int .i64 x2.Company), .v (.int .i64 x2.Day), .v (.int .i64 x2.Quantity), .v (.int .i64 x2.Value), .v (.int .i64 x2.Granted)]) rfl (.p rfl) (by (repeat (first | exact List.Mem.head _ | apply List.Mem.tail))) rfl) ?_
  refine bind_elim h ?_; clear h; intro x6 hx6 h
  refine pwd_callg (pguard_f rfl rfl rfl) rfl rfl rfl (pargs_cons (.g rfl) (pargs_nil)) (fun hc => assess_Validate_ok (gd_t hx6 hc)) ?_
  refine pwd_qg (pguard_f rfl rfl rfl) rfl rfl (pq_cmp rfl (.g rfl) (.p rfl) rfl) ?_
  refine pwd_q rfl rfl rfl (pq_or rfl (.p rfl) (.p rfl) (.g rfl)) ?_
  refine pwd_nil ?_
  (repeat (first | apply pk_block_n | apply pk_seq))
  refine pwc_cond rfl (fun hc7 => ?_) (fun hc7 => ?_)
  · replace h := cond_t hc7 h
    refine pwc_seq ?_
    refine pwc_region ?_
    refine pwl_q rfl rfl rfl (pq_assign (p := .v (.bool false)) rfl (.p rfl)) ?_
    refine pwl_nil ?_
    (repeat (first | apply pk_block_n | apply pk_seq))
    refine pwc_ret ?_
    (repeat (first | apply pk_seq_ret | apply pk_block_ret | apply pk_mid_ret | apply pk_cut_ret))
    obtain rfl := Option.some.inj h
    exact pret_of (prv_1 (prv1_t rfl)) PSub.nil ⟨rfl, rfl⟩
  · replace h := cond_f hc7 h
    refine pwc_skip ?_
    (repeat (first | apply pk_block_n | apply pk_seq))
    refine pwc_seq ?_
    refine pwc_seq ?_
    refine pwc_region ?_
    refine pwl_q rfl rfl rfl (pq_move (p := .v (.int .i64 p2)) rfl (.p rfl)) ?_
    refine bind_elim h ?_; clear h; intro x8 hx8 h
    refine pwl_call rfl rfl rfl rfl rfl (made_Within_ok hx8) ?_
    refine pwl_nil ?_
    (repeat (first | apply pk_block_n | apply pk_seq))
    refine bind_elim h ?_; clear h; intro q16 hq16 h
    refine pwc_join (Y := (Unit) × (ByteArray × ByteArray × Int × Int × Int × Int × Int)) (fun (_, (v9, v10, v11, v12, v13, v14, v15)) => [(9, .v (.pointer (some ⟨b3, 0, none⟩)))]) (fun (_, (v9, v10, v11, v12, v13, v14, v15)) => [PRes.b b3 23 [.v (.string v9), .v (.string v10), .v (.bool x2.Proof), .v (.int .i64 v11), .v (.int .i64 v12), .v (.int .i64 v13), .v (.int .i64 v14), .v (.int .i64 v15)]]) (fun (_, (v9, v10, v11, v12, v13, v14, v15)) => q16 = (v9, v10, v11, v12, v13, v14, v15)) ?_ ?_
    · skip
      refine pwc_block ?_
      refine pwc_seq ?_
      refine pwc_region ?_
      refine pwl_q rfl rfl rfl (pq_cmp rfl (.p rfl) (.p rfl) rfl) ?_
      refine pwl_q rfl rfl rfl (pq_assign (p := .v (.bool (x8 == 0))) rfl (.p rfl)) ?_
      refine pwl_nil ?_
      (repeat (first | apply pk_block_n | apply pk_seq))
      refine pwc_cond rfl (fun hc17 => ?_) (fun hc17 => ?_)
      · replace hq16 := cond_t hc17 hq16
        refine pwc_region ?_
        refine pwl_q rfl rfl rfl (pq_fieldAddr rfl rfl rfl rfl rfl (.p rfl)) ?_
        refine pwl_q rfl rfl rfl (pq_load_b (p := .v (.string p0.Code)) rfl (.p rfl) (by (repeat (first | exact List.Mem.head _ | apply List.Mem.tail))) rfl) ?_
        refine pwl_q rfl rfl rfl (pq_fieldAddr rfl rfl rfl rfl rfl (.p rfl)) ?_
        refine pwl_l0 rfl rfl (pl_store (vs := [.v (.string p0.Code)]) rfl rfl rfl rfl rfl (by (repeat (first | exact PUpd.h | apply PUpd.t))) (by (repeat (first | exact PSplice.nil | apply PSplice.c | apply PSplice.t))) ?_)
        refine pwl_nil ?_
        refine pk_block_n ?_
        obtain rfl := Option.some.inj hq16
        exact pk_mid ((), (p0.Code, x2.Origin, x2.Company, x2.Day, x2.Quantity, x2.Value, x2.Granted)) (by (repeat (first | exact PHolds.nil | apply PHolds.cons rfl))) (by (repeat (first | exact PSub.nil | (apply PSub.cons; (focus (repeat (first | exact PPick.h | apply PPick.t))))))) rfl
      · replace hq16 := cond_f hc17 hq16
        refine pwc_seq ?_
        refine pwc_region ?_
        refine pwl_q rfl rfl rfl (pq_cmp rfl (.p rfl) (.p rfl) rfl) ?_
        refine pwl_q rfl rfl rfl (pq_assign (p := .v (.bool (x8 == 1))) rfl (.p rfl)) ?_
        refine pwl_nil ?_
        (repeat (first | apply pk_block_n | apply pk_seq))
        refine pwc_cond rfl (fun hc18 => ?_) (fun hc18 => ?_)
        · replace hq16 := cond_t hc18 hq16
          refine pwc_region ?_
          refine pwl_q rfl rfl rfl (pq_fieldAddr rfl rfl rfl rfl rfl (.p rfl)) ?_
          refine pwl_q rfl rfl rfl (pq_load_b (p := .v (.string p0.Origin)) rfl (.p rfl) (by (repeat (first | exact List.Mem.head _ | apply List.Mem.tail))) rfl) ?_
          refine pwl_q rfl rfl rfl (pq_fieldAddr rfl rfl rfl rfl rfl (.p rfl)) ?_
          refine pwl_l0 rfl rfl (pl_store (vs := [.v (.string p0.Origin)]) rfl rfl rfl rfl rfl (by (repeat (first | exact PUpd.h | apply PUpd.t))) (by (repeat (first | exact PSplice.nil | apply PSplice.c | apply PSplice.t))) ?_)
          refine pwl_nil ?_
          refine pk_block_n ?_
          obtain rfl := Option.some.inj hq16
          exact pk_mid ((), (x2.Code, p0.Origin, x2.Company, x2.Day, x2.Quantity, x2.Value, x2.Granted)) (by (repeat (first | exact PHolds.nil | apply PHolds.cons rfl))) (by (repeat (first | exact PSub.nil | (apply PSub.cons; (focus (repeat (first | exact PPick.h | apply PPick.t))))))) rfl
        · replace hq16 := cond_f hc18 hq16
          refine pwc_seq ?_
          refine pwc_region ?_
          refine pwl_q rfl rfl rfl (pq_cmp rfl (.p rfl) (.p rfl) rfl) ?_
          refine pwl_q rfl rfl rfl (pq_assign (p := .v (.bool (x8 == 2))) rfl (.p rfl)) ?_
          refine pwl_nil ?_
          (repeat (first | apply pk_block_n | apply pk_seq))
          refine pwc_cond rfl (fun hc19 => ?_) (fun hc19 => ?_)
          · replace hq16 := cond_t hc19 hq16
            refine pwc_region ?_
            refine pwl_q rfl rfl rfl (pq_move (p := .v (.int .i64 p3)) rfl (.p rfl)) ?_
            refine pwl_q rfl rfl rfl (pq_fieldAddr rfl rfl rfl rfl rfl (.p rfl)) ?_
            refine pwl_l0 rfl rfl (pl_store (vs := [.v (.int .i64 p3)]) rfl rfl rfl rfl rfl (by (repeat (first | exact PUpd.h | apply PUpd.t))) (by (repeat (first | exact PSplice.nil | apply PSplice.c | apply PSplice.t))) ?_)
            refine pwl_nil ?_
            refine pk_block_n ?_
            obtain rfl := Option.some.inj hq16
            exact pk_mid ((), (x2.Code, x2.Origin, p3, x2.Day, x2.Quantity, x2.Value, x2.Granted)) (by (repeat (first | exact PHolds.nil | apply PHolds.cons rfl))) (by (repeat (first | exact PSub.nil | (apply PSub.cons; (focus (repeat (first | exact PPick.h | apply PPick.t))))))) rfl
          · replace hq16 := cond_f hc19 hq16
            refine pwc_seq ?_
            refine pwc_region ?_
            refine pwl_q rfl rfl rfl (pq_cmp rfl (.p rfl) (.p rfl) rfl) ?_
            refine pwl_q rfl rfl rfl (pq_assign (p := .v (.bool (x8 == 3))) rfl (.p rfl)) ?_
            refine pwl_nil ?_
            (repeat (first | apply pk_block_n | apply pk_seq))
            refine pwc_cond rfl (fun hc20 => ?_) (fun hc20 => ?_)
            · replace hq16 := cond_t hc20 hq16
              refine pwc_region ?_
              refine pwl_q rfl rfl rfl (pq_move (p := .v (.int .i64 p3)) rfl (.p rfl)) ?_
              refine pwl_q rfl rfl rfl (pq_fieldAddr rfl rfl rfl rfl rfl (.p rfl)) ?_
              refine pwl_l0 rfl rfl (pl_store (vs := [.v (.int .i64 p3)]) rfl rfl rfl rfl rfl (by (repeat (first | exact PUpd.h | apply PUpd.t))) (by (repeat (first | exact PSplice.nil | apply PSplice.c | apply PSplice.t))) ?_)
              refine pwl_nil ?_
              refine pk_block_n ?_
              obtain rfl := Option.some.inj hq16
              exact pk_mid ((), (x2.Code, x2.Origin, x2.Company, p3, x2.Quantity, x2.Value, x2.Granted)) (by (repeat (first | exact PHolds.nil | apply PHolds.cons rfl))) (by (repeat (first | exact PSub.nil | (apply PSub.cons; (focus (repeat (first | exact PPick.h | apply PPick.t))))))) rfl
            · replace hq16 := cond_f hc20 hq16
              refine pwc_seq ?_
              refine pwc_region ?_
              refine pwl_q rfl rfl rfl (pq_cmp rfl (.p rfl) (.p rfl) rfl) ?_
              refine pwl_q rfl rfl rfl (pq_assign (p := .v (.bool (x8 == 4))) rfl (.p rfl)) ?_
              refine pwl_nil ?_
              (repeat (first | apply pk_block_n | apply pk_seq))
              refine pwc_cond rfl (fun hc21 => ?_) (fun hc21 => ?_)
              · replace hq16 := cond_t hc21 hq16
                refine pwc_region ?_
                refine pwl_q rfl rfl rfl (pq_move (p := .v (.int .i64 p3)) rfl (.p rfl)) ?_
                refine pwl_q rfl rfl rfl (pq_fieldAddr rfl rfl rfl rfl rfl (.p rfl)) ?_
                refine pwl_l0 rfl rfl (pl_store (vs := [.v (.int .i64 p3)]) rfl rfl rfl rfl rfl (by (repeat (first | exact PUpd.h | apply PUpd.t))) (by (repeat (first | exact PSplice.nil | apply PSplice.c | apply PSplice.t))) ?_)
                refine pwl_nil ?_
                refine pk_block_n ?_
                obtain rfl := Option.some.inj hq16
                exact pk_mid ((), (x2.Code, x2.Origin, x2.Company, x2.Day, p3, x2.Value, x2.Granted)) (by (repeat (first | exact PHolds.nil | apply PHolds.cons rfl))) (by (repeat (first | exact PSub.nil | (apply PSub.cons; (focus (repeat (first | exact PPick.h | apply PPick.t))))))) rfl
              · replace hq16 := cond_f hc21 hq16
                refine pwc_seq ?_
                refine pwc_region ?_
                refine pwl_q rfl rfl rfl (pq_cmp rfl (.p rfl) (.p rfl) rfl) ?_
                refine pwl_q rfl rfl rfl (pq_assign (p := .v (.bool (x8 == 5))) rfl (.p rfl)) ?_
                refine pwl_nil ?_
                (repeat (first | apply pk_block_n | apply pk_seq))
                refine pwc_cond rfl (fun hc22 => ?_) (fun hc22 => ?_)
                · replace hq16 := cond_t hc22 hq16
                  refine pwc_region ?_
                  refine pwl_q rfl rfl rfl (pq_move (p := .v (.int .i64 p3)) rfl (.p rfl)) ?_
                  refine pwl_q rfl rfl rfl (pq_fieldAddr rfl rfl rfl rfl rfl (.p rfl)) ?_
                  refine pwl_l0 rfl rfl (pl_store (vs := [.v (.int .i64 p3)]) rfl rfl rfl rfl rfl (by (repeat (first | exact PUpd.h | apply PUpd.t))) (by (repeat (first | exact PSplice.nil | apply PSplice.c | apply PSplice.t))) ?_)
                  refine pwl_nil ?_
                  refine pk_block_n ?_
                  obtain rfl := Option.some.inj hq16
                  exact pk_mid ((), (x2.Code, x2.Origin, x2.Company, x2.Day, x2.Quantity, p3, x2.Granted)) (by (repeat (first | exact PHolds.nil | apply PHolds.cons rfl))) (by (repeat (first | exact PSub.nil | (apply PSub.cons; (focus (repeat (first | exact PPick.h | apply PPick.t))))))) rfl
                · replace hq16 := cond_f hc22 hq16
                  refine bind_elim hq16 ?_; clear hq16; intro x23 hx23 hq16
                  refine pwc_cutK (Y := Unit) (fun _ => [(9, .v (.pointer (some ⟨b3, 0, none⟩)))]) (fun _ => [PRes.b b3 23 [.v (.string x2.Code), .v (.string x2.Origin), .v (.bool x2.Proof), .v (.int .i64 x2.Company), .v (.int .i64 x2.Day), .v (.int .i64 x2.Quantity), .v (.int .i64 x2.Value), .v (.int .i64 (IntKind.i64.wrap ((IntKind.i64.wrap (x2.Quantity + x23)) - 1)))]]) (fun _ => True) ?_ ?_
                  · refine pws_start (ρd := [PRes.b b3 _ _]) _ (by (repeat (first | exact List.Perm.refl _ | (refine perm_pick (by (repeat (first | exact PPick.h | apply PPick.t))) ?_)))) ?_
                    refine pws_q 0 (by kernel_rfl) rfl rfl rfl rfl (pq_fieldAddr rfl rfl rfl rfl rfl (.p rfl)) ?_
                    refine pws_q 2 (by kernel_rfl) rfl rfl rfl rfl (pq_move (p := .v (.int .i64 p3)) rfl (.p rfl)) ?_
                    refine pws_two 1 3 (by kernel_rfl) ?_ ?_
                    · skip
                      refine pstep_l rfl rfl rfl rfl (pl_q (pq_load_b (p := .v (.int .i64 x2.Quantity)) rfl (.p rfl) (by (repeat (first | exact List.Mem.head _ | apply List.Mem.tail))) rfl) ?_)
                      refine pws_one 3 (by kernel_rfl) ?_
                      refine pstep_call rfl rfl rfl rfl rfl rfl (made_Within_ok hx23) ?_
                      refine pws_q 4 (by kernel_rfl) rfl rfl rfl rfl (pq_arith rfl (.p rfl) (.p rfl) rfl) ?_
                      refine pws_q 5 (by kernel_rfl) rfl rfl rfl rfl (pq_arith rfl (.p rfl) (.p rfl) rfl) ?_
                      refine pws_q 6 (by kernel_rfl) rfl rfl rfl rfl (pq_fieldAddr rfl rfl rfl rfl rfl (.p rfl)) ?_
                      refine pws_one 7 (by kernel_rfl) ?_
                      refine pstep_l0 rfl rfl rfl (pl_store (vs := [.v (.int .i64 (IntKind.i64.wrap ((IntKind.i64.wrap (x2.Quantity + x23)) - 1)))]) rfl rfl rfl rfl rfl (by (repeat (first | exact PUpd.h | apply PUpd.t))) (by (repeat (first | exact PSplice.nil | apply PSplice.c | apply PSplice.t))) ?_)
                      refine pws_done (by kernel_rfl) ?_
                      exact pk_cut () (by (repeat (first | exact PHolds.nil | apply PHolds.cons rfl))) (by (repeat (first | exact PSub.nil | (apply PSub.cons; (focus (repeat (first | exact PPick.h | apply PPick.t))))))) trivial
                    · skip
                      refine pstep_call rfl rfl rfl rfl rfl rfl (made_Within_ok hx23) ?_
                      refine pws_one 1 (by kernel_rfl) ?_
                      refine pstep_l rfl rfl rfl rfl (pl_q (pq_load_b (p := .v (.int .i64 x2.Quantity)) rfl (.p rfl) (by (repeat (first | exact List.Mem.head _ | apply List.Mem.tail))) rfl) ?_)
                      refine pws_q 4 (by kernel_rfl) rfl rfl rfl rfl (pq_arith rfl (.p rfl) (.p rfl) rfl) ?_
                      refine pws_q 5 (by kernel_rfl) rfl rfl rfl rfl (pq_arith rfl (.p rfl) (.p rfl) rfl) ?_
                      refine pws_q 6 (by kernel_rfl) rfl rfl rfl rfl (pq_fieldAddr rfl rfl rfl rfl rfl (.p rfl)) ?_
                      refine pws_one 7 (by kernel_rfl) ?_
                      refine pstep_l0 rfl rfl rfl (pl_store (vs := [.v (.int .i64 (IntKind.i64.wrap ((IntKind.i64.wrap (x2.Quantity + x23)) - 1)))]) rfl rfl rfl rfl rfl (by (repeat (first | exact PUpd.h | apply PUpd.t))) (by (repeat (first | exact PSplice.nil | apply PSplice.c | apply PSplice.t))) ?_)
                      refine pws_done (by kernel_rfl) ?_
                      exact pk_cut () (by (repeat (first | exact PHolds.nil | apply PHolds.cons rfl))) (by (repeat (first | exact PSub.nil | (apply PSub.cons; (focus (repeat (first | exact PPick.h | apply PPick.t))))))) trivial
                  · intro _ τ ρ1 hsub24 _; (try dsimp only at hsub24); dsimp only [pupds]
                    refine pk_block_n ?_
                    obtain rfl := Option.some.inj hq16
                    exact pk_mid ((), (x2.Code, x2.Origin, x2.Company, x2.Day, x2.Quantity, x2.Value, (IntKind.i64.wrap ((IntKind.i64.wrap (x2.Quantity + x23)) - 1)))) (by (repeat (first | exact PHolds.nil | apply PHolds.cons rfl))) (PSub.trans (by (repeat (first | exact PSub.nil | (apply PSub.cons; (focus (repeat (first | exact PPick.h | apply PPick.t))))))) hsub24) rfl
    · rintro ⟨_, ⟨v9, v10, v11, v12, v13, v14, v15⟩⟩ τ hz; (try dsimp only at hz); subst q16; (try dsimp only at h); dsimp only [pupds]
      refine pwc_seq ?_
      refine pwc_draw (ρd := []) [(0, 0), (2, 0), (1, 1), (3, 1), (4, 0), (5, 0), (6, 1), (7, 0), (8, 0)] _ (List.Perm.refl _) (by kernel_rfl) rfl ?_
      refine pwd_q rfl rfl rfl (pq_load_b (p := .agg [.v (.string v9), .v (.string v10), .v (.bool x2.Proof), .v (.int .i64 v11), .v (.int .i64 v12), .v (.int .i64 v13), .v (.int .i64 v14), .v (.int .i64 v15)]) rfl (.p rfl) (by (repeat (first | exact List.Mem.head _ | apply List.Mem.tail))) rfl) ?_
      refine pwd_q rfl rfl rfl (pq_load_b (p := .agg [.v (.string v9), .v (.string v10), .v (.bool x2.Proof), .v (.int .i64 v11), .v (.int .i64 v12), .v (.int .i64 v13), .v (.int .i64 v14), .v (.int .i64 v15)]) rfl (.p rfl) (by (repeat (first | exact List.Mem.head _ | apply List.Mem.tail))) rfl) ?_
      refine bind_elim h ?_; clear h; intro x25 hx25 h
      refine pwd_call rfl rfl rfl rfl rfl (assess_Validate_ok hx25) ?_
      refine bind_elim h ?_; clear h; intro x26 hx26 h
      refine pwd_call rfl rfl rfl rfl rfl (ref19_Item_ok hx26) ?_
      refine pwd_q rfl rfl rfl (pq_cmp rfl (.p rfl) (.p rfl) rfl) ?_
      refine pwd_q rfl rfl rfl (pq_move (p := .v (.bool (x25 == x26))) rfl (.p rfl)) ?_
      refine bind_elim h ?_; clear h; intro x27 hx27 h
      refine pwd_callg (pguard_t rfl rfl rfl) rfl rfl rfl (pargs_nil) (fun hc => law20_awake_ok (gd_t hx27 hc)) ?_
      refine pwd_q rfl rfl rfl (pq_and rfl (.p rfl) (.p rfl) (.g rfl)) ?_
      refine pwd_q rfl rfl rfl (pq_assign (p := .v (.bool ((x25 == x26) && x27))) rfl (.p rfl)) ?_
      refine pwd_nil ?_
      (repeat (first | apply pk_block_n | apply pk_seq))
      refine pwc_ret ?_
      (repeat (first | apply pk_seq_ret | apply pk_block_ret | apply pk_mid_ret | apply pk_cut_ret))
      obtain rfl := Option.some.inj h
      exact pret_of (prv_1 (prv1_t rfl)) PSub.nil ⟨rfl, rfl⟩
end SX
end Go.Proofs.YtfcecieppoljlaaGreatDoor
