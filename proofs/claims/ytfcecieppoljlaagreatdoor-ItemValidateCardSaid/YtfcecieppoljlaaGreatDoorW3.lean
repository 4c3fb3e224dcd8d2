/- Walks: 109, 75, 134, 119, 120, 92, 123, 97, 89, 117, 90, 60, 39. No statement of the seat is proved here. Written by our program gen.py. -/
import Derived.Test.YtfcecieppoljlaaGreatDoorW2
import Derived.Test.YtfcecieppoljlaaGreatDoorS1
set_option maxRecDepth 100000
namespace Go.Proofs.YtfcecieppoljlaaGreatDoor
namespace SX
open Go
attribute [local irreducible] PWL PWC PWD POpL POpQ PEv PGuardIs PSub PPick PUpd PSplice PFill PLit PF PFV PCall pseqK pblockK pmidK pcutK ploopK pretK Cov PHolds loopF idx app mk gd lb nz ge0 cat sub ssub iand ior ixor ishl ishr imin imax IntKind.wrap Int.tmod Int.tdiv Op.bytesLess strOfNums
/-- math/bits.Len32 -/
def math_bits_Len32 (p0 : Int) : Option Int := Option.bind (cond (decide (65536 ≤ p0)) (some ((ishr .u32 p0 16), 16)) (some (p0, 0))) (fun (v1, v2) => Option.bind (cond (decide (256 ≤ v1)) (some ((ishr .u32 v1 8), (IntKind.i64.wrap (v2 + 8)))) (some (v1, v2))) (fun (v5, v6) => Option.bind (idx (⟨#[0, 1, 2, 2, 3, 3, 3, 3, 4, 4, 4, 4, 4, 4, 4, 4, 5, 5, 5, 5, 5, 5, 5, 5, 5, 5, 5, 5, 5, 5, 5, 5, 6, 6, 6, 6, 6, 6, 6, 6, 6, 6, 6, 6, 6, 6, 6, 6, 6, 6, 6, 6, 6, 6, 6, 6, 6, 6, 6, 6, 6, 6, 6, 6, 7, 7, 7, 7, 7, 7, 7, 7, 7, 7, 7, 7, 7, 7, 7, 7, 7, 7, 7, 7, 7, 7, 7, 7, 7, 7, 7, 7, 7, 7, 7, 7, 7, 7, 7, 7, 7, 7, 7, 7, 7, 7, 7, 7, 7, 7, 7, 7, 7, 7, 7, 7, 7, 7, 7, 7, 7, 7, 7, 7, 7, 7, 7, 7, 8, 8, 8, 8, 8, 8, 8, 8, 8, 8, 8, 8, 8, 8, 8, 8, 8, 8, 8, 8, 8, 8, 8, 8, 8, 8, 8, 8, 8, 8, 8, 8, 8, 8, 8, 8, 8, 8, 8, 8, 8, 8, 8, 8, 8, 8, 8, 8, 8, 8, 8, 8, 8, 8, 8, 8, 8, 8, 8, 8, 8, 8, 8, 8, 8, 8, 8, 8, 8, 8, 8, 8, 8, 8, 8, 8, 8, 8, 8, 8, 8, 8, 8, 8, 8, 8, 8, 8, 8, 8, 8, 8, 8, 8, 8, 8, 8, 8, 8, 8, 8, 8, 8, 8, 8, 8, 8, 8, 8, 8, 8, 8, 8, 8, 8, 8, 8, 8, 8, 8, 8, 8, 8, 8, 8, 8, 8, 8]⟩ : ByteArray).data.toList (IntKind.u8.wrap v5)) (fun c9 => lb ((IntKind.i64.wrap (v6 + (IntKind.i64.wrap (c9.toNat : Int))))) (fun w10 => some w10))))
set_option maxHeartbeats 4000000 in
theorem math_bits_Len32_ok {p0 : Int} {r : Int}  (h : math_bits_Len32 p0 = some r) : PF 109 [.v (.int .u32 p0)] (.v (.int .i64 r)) := by
  unfold math_bits_Len32 at h
  refine pf_of ?_
  refine penter Tryz.func109 fk109 rfl Tryz.ntmps109 Tryz.results109 rfl ?_
  refine pwc_seq ?_
  refine pwc_region ?_
  refine pwl_q rfl rfl rfl (pq_assign (p := .v (.int .i64 0)) rfl (.p rfl)) ?_
  refine pwl_nil ?_
  (repeat (first | apply pk_block_n | apply pk_seq))
  refine pwc_seq ?_
  refine pwc_seq ?_
  refine pwc_region ?_
  refine pwl_q rfl rfl rfl (pq_move (p := .v (.int .u32 p0)) rfl (.p rfl)) ?_
  refine pwl_q rfl rfl rfl (pq_cmp rfl (.p rfl) (.p rfl) rfl) ?_
  refine pwl_nil ?_
  (repeat (first | apply pk_block_n | apply pk_seq))
  refine bind_elim h ?_; clear h; intro q3 hq3 h
  refine pwc_join (Y := (Unit) × (Int × Int)) (fun (_, (v1, v2)) => [(0, .v (.int .u32 v1)), (2, .v (.int .i64 v2))]) (fun (_, (v1, v2)) => []) (fun (_, (v1, v2)) => q3 = (v1, v2)) ?_ ?_
  · skip
    refine pwc_cond rfl (fun hc4 => ?_) (fun hc4 => ?_)
    · replace hq3 := cond_t hc4 hq3
      refine pwc_seq ?_
      refine pwc_region ?_
      refine pwl_q rfl rfl rfl (pq_move (p := .v (.int .u32 p0)) rfl (.p rfl)) ?_
      refine pwl_q rfl rfl rfl (pq_shift rfl (.p rfl) (.p rfl) (fun _ => by decide) rfl) ?_
      refine pwl_q rfl rfl rfl (pq_assign (p := .v (.int .u32 (ishr .u32 p0 16))) rfl (.p rfl)) ?_
      refine pwl_nil ?_
      (repeat (first | apply pk_block_n | apply pk_seq))
      refine pwc_region ?_
      refine pwl_q rfl rfl rfl (pq_assign (p := .v (.int .i64 16)) rfl (.p rfl)) ?_
      refine pwl_nil ?_
      obtain rfl := Option.some.inj hq3
      exact pk_mid ((), ((ishr .u32 p0 16), 16)) (by (repeat (first | exact PHolds.nil | apply PHolds.cons rfl))) (by (repeat (first | exact PSub.nil | (apply PSub.cons; (focus (repeat (first | exact PPick.h | apply PPick.t))))))) rfl
    · replace hq3 := cond_f hc4 hq3
      refine pwc_skip ?_
      obtain rfl := Option.some.inj hq3
      exact pk_mid ((), (p0, 0)) (by (repeat (first | exact PHolds.nil | apply PHolds.cons rfl))) (by (repeat (first | exact PSub.nil | (apply PSub.cons; (focus (repeat (first | exact PPick.h | apply PPick.t))))))) rfl
  · rintro ⟨_, ⟨v1, v2⟩⟩ τ hz; (try dsimp only at hz); subst q3; (try dsimp only at h); dsimp only [pupds]
    refine pwc_seq ?_
    refine pwc_seq ?_
    refine pwc_region ?_
    refine pwl_q rfl rfl rfl (pq_move (p := .v (.int .u32 v1)) rfl (.p rfl)) ?_
    refine pwl_q rfl rfl rfl (pq_cmp rfl (.p rfl) (.p rfl) rfl) ?_
    refine pwl_nil ?_
    (repeat (first | apply pk_block_n | apply pk_seq))
    refine bind_elim h ?_; clear h; intro q7 hq7 h
    refine pwc_join (Y := (Unit) × (Int × Int)) (fun (_, (v5, v6)) => [(0, .v (.int .u32 v5)), (2, .v (.int .i64 v6))]) (fun (_, (v5, v6)) => []) (fun (_, (v5, v6)) => q7 = (v5, v6)) ?_ ?_
    · skip
      refine pwc_cond rfl (fun hc8 => ?_) (fun hc8 => ?_)
      · replace hq7 := cond_t hc8 hq7
        refine pwc_seq ?_
        refine pwc_region ?_
        refine pwl_q rfl rfl rfl (pq_move (p := .v (.int .u32 v1)) rfl (.p rfl)) ?_
        refine pwl_q rfl rfl rfl (pq_shift rfl (.p rfl) (.p rfl) (fun _ => by decide) rfl) ?_
        refine pwl_q rfl rfl rfl (pq_assign (p := .v (.int .u32 (ishr .u32 v1 8))) rfl (.p rfl)) ?_
        refine pwl_nil ?_
        (repeat (first | apply pk_block_n | apply pk_seq))
        refine pwc_region ?_
        refine pwl_q rfl rfl rfl (pq_move (p := .v (.int .i64 v2)) rfl (.p rfl)) ?_
        refine pwl_q rfl rfl rfl (pq_arith rfl (.p rfl) (.p rfl) rfl) ?_
        refine pwl_q rfl rfl rfl (pq_assign (p := .v (.int .i64 (IntKind.i64.wrap (v2 + 8)))) rfl (.p rfl)) ?_
        refine pwl_nil ?_
        obtain rfl := Option.some.inj hq7
        exact pk_mid ((), ((ishr .u32 v1 8), (IntKind.i64.wrap (v2 + 8)))) (by (repeat (first | exact PHolds.nil | apply PHolds.cons rfl))) (by (repeat (first | exact PSub.nil | (apply PSub.cons; (focus (repeat (first | exact PPick.h | apply PPick.t))))))) rfl
      · replace hq7 := cond_f hc8 hq7
        refine pwc_skip ?_
        obtain rfl := Option.some.inj hq7
        exact pk_mid ((), (v1, v2)) (by (repeat (first | exact PHolds.nil | apply PHolds.cons rfl))) (by (repeat (first | exact PSub.nil | (apply PSub.cons; (focus (repeat (first | exact PPick.h | apply PPick.t))))))) rfl
    · rintro ⟨_, ⟨v5, v6⟩⟩ τ hz; (try dsimp only at hz); subst q7; (try dsimp only at h); dsimp only [pupds]
      refine pwc_seq ?_
      refine pwc_region ?_
      refine pwl_q rfl rfl rfl (pq_move (p := .v (.int .i64 v6)) rfl (.p rfl)) ?_
      refine pwl_q rfl rfl rfl (pq_move (p := .v (.int .u32 v5)) rfl (.p rfl)) ?_
      refine pwl_q rfl rfl rfl (pq_conv rfl rfl rfl (.p rfl)) ?_
      refine bind_elim h ?_; clear h; intro c9 hc9 h
      refine pwl_q rfl rfl rfl (pq_indexS rfl rfl (.p rfl) (.p rfl) (fun _ => hc9)) ?_
      refine pwl_q rfl rfl rfl (pq_conv rfl rfl rfl (.p rfl)) ?_
      refine pwl_q rfl rfl rfl (pq_arith rfl (.p rfl) (.p rfl) rfl) ?_
      refine lb_elim h ?_; clear h; intro w10 hw10 h
      refine pwl_q rfl rfl rfl (pq_assign rfl (.p (congrArg (fun z => PV.v (Value.int .i64 z)) hw10))) ?_
      refine pwl_nil ?_
      (repeat (first | apply pk_block_n | apply pk_seq))
      refine pwc_ret ?_
      (repeat (first | apply pk_seq_ret | apply pk_block_ret | apply pk_mid_ret | apply pk_cut_ret))
      obtain rfl := Option.some.inj h
      exact pret_of (prv_1 (prv1_t rfl)) PSub.nil ⟨rfl, rfl⟩
/-- math/bits.Len -/
def math_bits_Len (p0 : Int) : Option Int := cond false (Option.bind (math_bits_Len32 (IntKind.u32.wrap p0)) (fun x2 => some x2)) (Option.bind (math_bits_Len64 p0) (fun x3 => some x3))
set_option maxHeartbeats 4000000 in
theorem math_bits_Len_ok {p0 : Int} {r : Int}  (h : math_bits_Len p0 = some r) : PF 75 [.v (.int .u64 p0)] (.v (.int .i64 r)) := by
  unfold math_bits_Len at h
  refine pf_of ?_
  refine penter Tryz.func75 fk75 rfl Tryz.ntmps75 Tryz.results75 rfl ?_
  refine pwc_seq ?_
  refine pwc_region ?_
  refine pwl_q rfl rfl rfl (pq_assign (p := .v (.int .i64 0)) rfl (.p rfl)) ?_
  refine pwl_nil ?_
  (repeat (first | apply pk_block_n | apply pk_seq))
  refine pwc_seq ?_
  refine pwc_cond rfl (fun hc1 => ?_) (fun hc1 => ?_)
  · replace h := cond_t hc1 h
    refine pwc_seq ?_
    refine pwc_region ?_
    refine pwl_q rfl rfl rfl (pq_move (p := .v (.int .u64 p0)) rfl (.p rfl)) ?_
    refine pwl_q rfl rfl rfl (pq_conv rfl rfl rfl (.p rfl)) ?_
    refine bind_elim h ?_; clear h; intro x2 hx2 h
    refine pwl_call rfl rfl rfl rfl rfl (math_bits_Len32_ok hx2) ?_
    refine pwl_q rfl rfl rfl (pq_assign (p := .v (.int .i64 x2)) rfl (.p rfl)) ?_
    refine pwl_nil ?_
    (repeat (first | apply pk_block_n | apply pk_seq))
    refine pwc_ret ?_
    (repeat (first | apply pk_seq_ret | apply pk_block_ret | apply pk_mid_ret | apply pk_cut_ret))
    obtain rfl := Option.some.inj h
    exact pret_of (prv_1 (prv1_t rfl)) PSub.nil ⟨rfl, rfl⟩
  · replace h := cond_f hc1 h
    refine pwc_skip ?_
    (repeat (first | apply pk_block_n | apply pk_seq))
    refine pwc_seq ?_
    refine pwc_region ?_
    refine pwl_q rfl rfl rfl (pq_move (p := .v (.int .u64 p0)) rfl (.p rfl)) ?_
    refine bind_elim h ?_; clear h; intro x3 hx3 h
    refine pwl_call rfl rfl rfl rfl rfl (math_bits_Len64_ok hx3) ?_
    refine pwl_q rfl rfl rfl (pq_assign (p := .v (.int .i64 x3)) rfl (.p rfl)) ?_
    refine pwl_nil ?_
    (repeat (first | apply pk_block_n | apply pk_seq))
    refine pwc_ret ?_
    (repeat (first | apply pk_seq_ret | apply pk_block_ret | apply pk_mid_ret | apply pk_cut_ret))
    obtain rfl := Option.some.inj h
    exact pret_of (prv_1 (prv1_t rfl)) PSub.nil ⟨rfl, rfl⟩
/-- slices.pdqsortCmpFunc[customs/apportion.portion] -/
def slices_pdqsortCmpFunc_apportion_portion (p0 : (List Tapportion_portion)) (p1 : Int) (p2 : Int) (p3 : Int) (p4 : (Tapportion_portion → Tapportion_portion → Option Int)) : Option (List Tapportion_portion) := Option.bind (loopF (S := Unit) (T := (Unit) ⊕ (_)) (fun _ => cond (decide ((IntKind.i64.wrap (p2 - p1)) ≤ 12)) (Option.bind (slices_insertionSortCmpFunc_apportion_portion p0 p1 p2 p4) (fun x4 => some (.inr (.inr x4)))) (cond (p3 == 0) (none) (cond (!true) (none) (none)))) FUEL ()) (fun q => match q with | .inl _ => none | .inr e => some e)
set_option maxHeartbeats 4000000 in
theorem slices_pdqsortCmpFunc_apportion_portion_ok {p0 : (List Tapportion_portion)} {p1 : Int} {p2 : Int} {p3 : Int} {p4 : (Tapportion_portion → Tapportion_portion → Option Int)} {a_0 : Option Addr}  {n_0 : Nat}  {c_0 : Nat} {r : (List Tapportion_portion)} {g4 : PV} (hg4 : ∀ {y0 : Tapportion_portion} {y1 : Tapportion_portion} {w : Int}, p4 y0 y1 = some w → PFV g4 [.agg [.v (.int .i64 y0.index_), .v (.int .u64 y0.share), .v (.int .u64 y0.rest)], .agg [.v (.int .i64 y1.index_), .v (.int .u64 y1.share), .v (.int .u64 y1.rest)]] (.v (.int .i64 w))) (h : slices_pdqsortCmpFunc_apportion_portion p0 p1 p2 p3 p4 = some r) : PCall 134 [.v (.slice a_0 n_0 c_0), .v (.int .i64 p1), .v (.int .i64 p2), .v (.int .i64 p3), g4] [PRes.row a_0 n_0 c_0 144 3 (List.map Tapportion_portion.enc p0)] (fun pv ρ' => pv = .tup [] ∧ ρ' = [PRes.row a_0 n_0 c_0 144 3 (List.map Tapportion_portion.enc r)]) := by
  unfold slices_pdqsortCmpFunc_apportion_portion at h
  refine penter Tryz.func134 fk134 rfl Tryz.ntmps134 Tryz.results134 rfl ?_
  refine pwc_rowfact (enc := Tapportion_portion.enc) (xs := p0) (a := a_0) (by (repeat (first | exact List.Mem.head _ | apply List.Mem.tail))) (fun hl ha => ?_); subst hl; clear ha
  refine pwc_seq ?_
  refine pwc_region ?_
  refine pwl_q rfl rfl rfl (pq_assign (p := .v (.bool true)) rfl (.p rfl)) ?_
  refine pwl_nil ?_
  (repeat (first | apply pk_block_n | apply pk_seq))
  refine pwc_seq ?_
  refine pwc_region ?_
  refine pwl_q rfl rfl rfl (pq_assign (p := .v (.bool true)) rfl (.p rfl)) ?_
  refine pwl_nil ?_
  (repeat (first | apply pk_block_n | apply pk_seq))
  refine bind_elim h ?_; clear h; intro q2 hq2 h
  refine pwc_block ?_
  refine pwc_loopF (Y := Unit) (S := Unit) _ hq2 (fun _ _ => [(0, .v (.slice a_0 p0.length c_0)), (1, .v (.int .i64 p1)), (2, .v (.int .i64 p2)), (3, .v (.int .i64 p3)), (4, g4), (10, .v (.bool true)), (11, .v (.bool true))]) (fun _ _ => [PRes.row a_0 p0.length c_0 144 3 (List.map Tapportion_portion.enc p0)]) () (by (repeat (first | exact PHolds.nil | apply PHolds.cons rfl))) (by (repeat (first | exact PSub.nil | (apply PSub.cons; (focus (repeat (first | exact PPick.h | apply PPick.t))))))) ?_
  rintro _ _ o τ hb1; (try dsimp only at hb1); dsimp only [pupds]
  refine pwc_block ?_
  refine pwc_seq ?_
  refine pwc_region ?_
  refine pwl_q rfl rfl rfl (pq_move (p := .v (.int .i64 p2)) rfl (.p rfl)) ?_
  refine pwl_q rfl rfl rfl (pq_move (p := .v (.int .i64 p1)) rfl (.p rfl)) ?_
  refine pwl_q rfl rfl rfl (pq_arith rfl (.p rfl) (.p rfl) rfl) ?_
  refine pwl_q rfl rfl rfl (pq_assign (p := .v (.int .i64 (IntKind.i64.wrap (p2 - p1)))) rfl (.p rfl)) ?_
  refine pwl_nil ?_
  (repeat (first | apply pk_block_n | apply pk_seq))
  refine pwc_seq ?_
  refine pwc_seq ?_
  refine pwc_region ?_
  refine pwl_q rfl rfl rfl (pq_move (p := .v (.int .i64 (IntKind.i64.wrap (p2 - p1)))) rfl (.p rfl)) ?_
  refine pwl_q rfl rfl rfl (pq_cmp rfl (.p rfl) (.p rfl) rfl) ?_
  refine pwl_nil ?_
  (repeat (first | apply pk_block_n | apply pk_seq))
  refine pwc_cond rfl (fun hc3 => ?_) (fun hc3 => ?_)
  · replace hb1 := cond_t hc3 hb1
    refine pwc_seq ?_
    refine pwc_region ?_
    refine pwl_q rfl rfl rfl (pq_move (p := .v (.slice a_0 p0.length c_0)) rfl (.p rfl)) ?_
    refine pwl_q rfl rfl rfl (pq_move (p := .v (.int .i64 p1)) rfl (.p rfl)) ?_
    refine pwl_q rfl rfl rfl (pq_move (p := .v (.int .i64 p2)) rfl (.p rfl)) ?_
    refine pwl_q rfl rfl rfl (pq_move (p := g4) rfl (.p rfl)) ?_
    refine bind_elim hb1 ?_; clear hb1; intro x4 hx4 hb1
    refine pwl_l rfl rfl rfl (pl_callR rfl rfl (ρ1 := [_]) (perm_pick (by (repeat (first | exact PPick.h | apply PPick.t))) (List.Perm.refl _)) (slices_insertionSortCmpFunc_apportion_portion_ok hg4 hx4) ?_); rintro _ _ ⟨rfl, rfl⟩
    refine pwl_nil ?_
    (repeat (first | apply pk_block_n | apply pk_seq))
    refine pwc_ret ?_
    (repeat (first | apply pk_seq_ret | apply pk_block_ret | apply pk_mid_ret | apply pk_cut_ret))
    refine pk_loop_ret hb1 (fun ht => ?_); subst ht
    have h := (show some _ = some _ from h)
    (repeat (first | apply pk_seq_ret | apply pk_block_ret | apply pk_mid_ret | apply pk_cut_ret))
    obtain rfl := Option.some.inj h
    exact pret_of (rfl : PRV [] _ _ (.tup [])) (by (repeat (first | exact PSub.nil | (apply PSub.cons; (focus (repeat (first | exact PPick.h | apply PPick.t))))))) ⟨rfl, rfl⟩
  · replace hb1 := cond_f hc3 hb1
    refine pwc_skip ?_
    (repeat (first | apply pk_block_n | apply pk_seq))
    refine pwc_seq ?_
    refine pwc_seq ?_
    refine pwc_region ?_
    refine pwl_q rfl rfl rfl (pq_move (p := .v (.int .i64 p3)) rfl (.p rfl)) ?_
    refine pwl_q rfl rfl rfl (pq_cmp rfl (.p rfl) (.p rfl) rfl) ?_
    refine pwl_nil ?_
    (repeat (first | apply pk_block_n | apply pk_seq))
    refine pwc_cond rfl (fun hc5 => ?_) (fun hc5 => ?_)
    · replace hb1 := cond_t hc5 hb1
      refine pwc_seq ?_
      refine pwc_region ?_
      refine pwl_q rfl rfl rfl (pq_move (p := .v (.slice a_0 p0.length c_0)) rfl (.p rfl)) ?_
      refine pwl_q rfl rfl rfl (pq_move (p := .v (.int .i64 p1)) rfl (.p rfl)) ?_
      refine pwl_q rfl rfl rfl (pq_move (p := .v (.int .i64 p2)) rfl (.p rfl)) ?_
      refine pwl_q rfl rfl rfl (pq_move (p := g4) rfl (.p rfl)) ?_
      exact absurd hb1 (by simp)
    · replace hb1 := cond_f hc5 hb1
      refine pwc_skip ?_
      (repeat (first | apply pk_block_n | apply pk_seq))
      refine pwc_seq ?_
      refine pwc_seq ?_
      refine pwc_region ?_
      refine pwl_q rfl rfl rfl (pq_move (p := .v (.bool true)) rfl (.p rfl)) ?_
      refine pwl_q rfl rfl rfl (pq_not rfl (.p rfl)) ?_
      refine pwl_nil ?_
      (repeat (first | apply pk_block_n | apply pk_seq))
      refine pwc_cond rfl (fun hc6 => ?_) (fun hc6 => ?_)
      · replace hb1 := cond_t hc6 hb1
        refine pwc_seq ?_
        refine pwc_region ?_
        refine pwl_q rfl rfl rfl (pq_move (p := .v (.slice a_0 p0.length c_0)) rfl (.p rfl)) ?_
        refine pwl_q rfl rfl rfl (pq_move (p := .v (.int .i64 p1)) rfl (.p rfl)) ?_
        refine pwl_q rfl rfl rfl (pq_move (p := .v (.int .i64 p2)) rfl (.p rfl)) ?_
        refine pwl_q rfl rfl rfl (pq_move (p := g4) rfl (.p rfl)) ?_
        exact absurd hb1 (by simp)
      · replace hb1 := cond_f hc6 hb1
        refine pwc_skip ?_
        (repeat (first | apply pk_block_n | apply pk_seq))
        refine pwc_seq ?_
        refine pwc_region ?_
        refine pwl_q rfl rfl rfl (pq_move (p := .v (.slice a_0 p0.length c_0)) rfl (.p rfl)) ?_
        refine pwl_q rfl rfl rfl (pq_move (p := .v (.int .i64 p1)) rfl (.p rfl)) ?_
        refine pwl_q rfl rfl rfl (pq_move (p := .v (.int .i64 p2)) rfl (.p rfl)) ?_
        refine pwl_q rfl rfl rfl (pq_move (p := g4) rfl (.p rfl)) ?_
        exact absurd hb1 (by simp)
/-- slices.SortFunc[[]customs/apportion.portion,customs/apportion.portion] -/
def slices_SortFunc_apportion_portion_apportion_portion (p0 : (List Tapportion_portion)) (p1 : (Tapportion_portion → Tapportion_portion → Option Int)) : Option (List Tapportion_portion) := Option.bind (math_bits_Len (IntKind.u64.wrap ((p0.length : Nat) : Int))) (fun x1 => Option.bind (slices_pdqsortCmpFunc_apportion_portion p0 0 ((p0.length : Nat) : Int) x1 p1) (fun x2 => some x2))
set_option maxHeartbeats 4000000 in
theorem slices_SortFunc_apportion_portion_apportion_portion_ok {p0 : (List Tapportion_portion)} {p1 : (Tapportion_portion → Tapportion_portion → Option Int)} {a_0 : Option Addr}  {n_0 : Nat}  {c_0 : Nat} {r : (List Tapportion_portion)} {g1 : PV} (hg1 : ∀ {y0 : Tapportion_portion} {y1 : Tapportion_portion} {w : Int}, p1 y0 y1 = some w → PFV g1 [.agg [.v (.int .i64 y0.index_), .v (.int .u64 y0.share), .v (.int .u64 y0.rest)], .agg [.v (.int .i64 y1.index_), .v (.int .u64 y1.share), .v (.int .u64 y1.rest)]] (.v (.int .i64 w))) (h : slices_SortFunc_apportion_portion_apportion_portion p0 p1 = some r) : PCall 119 [.v (.slice a_0 n_0 c_0), g1] [PRes.row a_0 n_0 c_0 144 3 (List.map Tapportion_portion.enc p0)] (fun pv ρ' => pv = .tup [] ∧ ρ' = [PRes.row a_0 n_0 c_0 144 3 (List.map Tapportion_portion.enc r)]) := by
  unfold slices_SortFunc_apportion_portion_apportion_portion at h
  refine penter Tryz.func119 fk119 rfl Tryz.ntmps119 Tryz.results119 rfl ?_
  refine pwc_rowfact (enc := Tapportion_portion.enc) (xs := p0) (a := a_0) (by (repeat (first | exact List.Mem.head _ | apply List.Mem.tail))) (fun hl ha => ?_); subst hl; clear ha
  refine pwc_seq ?_
  refine pwc_region ?_
  refine pwl_q rfl rfl rfl (pq_move (p := .v (.slice a_0 p0.length c_0)) rfl (.p rfl)) ?_
  refine pwl_q rfl rfl rfl (pq_lenO rfl rfl (.p rfl)) ?_
  refine pwl_q rfl rfl rfl (pq_assign (p := .v (.int .i64 ((p0.length : Nat) : Int))) rfl (.p rfl)) ?_
  refine pwl_nil ?_
  (repeat (first | apply pk_block_n | apply pk_seq))
  refine pwc_region ?_
  refine pwl_q rfl rfl rfl (pq_move (p := .v (.slice a_0 p0.length c_0)) rfl (.p rfl)) ?_
  refine pwl_q rfl rfl rfl (pq_move (p := .v (.int .i64 ((p0.length : Nat) : Int))) rfl (.p rfl)) ?_
  refine pwl_q rfl rfl rfl (pq_move (p := .v (.int .i64 ((p0.length : Nat) : Int))) rfl (.p rfl)) ?_
  refine pwl_q rfl rfl rfl (pq_conv rfl rfl rfl (.p rfl)) ?_
  refine bind_elim h ?_; clear h; intro x1 hx1 h
  refine pwl_call rfl rfl rfl rfl rfl (math_bits_Len_ok hx1) ?_
  refine pwl_q rfl rfl rfl (pq_move (p := g1) rfl (.p rfl)) ?_
  refine bind_elim h ?_; clear h; intro x2 hx2 h
  refine pwl_l rfl rfl rfl (pl_callR rfl rfl (ρ1 := [_]) (perm_pick (by (repeat (first | exact PPick.h | apply PPick.t))) (List.Perm.refl _)) (slices_pdqsortCmpFunc_apportion_portion_ok hg1 hx2) ?_); rintro _ _ ⟨rfl, rfl⟩
  refine pwl_nil ?_
  obtain rfl := Option.some.inj h
  exact pret_ofN (rfl : PRV [] _ _ (.tup [])) (by (repeat (first | exact PSub.nil | (apply PSub.cons; (focus (repeat (first | exact PPick.h | apply PPick.t))))))) ⟨rfl, rfl⟩
/-- (customs/apportion.ranking).sort$1 -/
def apportion_ranking_sort_1 (p0 : Tapportion_portion) (p1 : Tapportion_portion) (p2 : Tapportion_ranking) : Option Int := Option.bind (apportion_byRest p0 p1) (fun x3 => some x3)
set_option maxHeartbeats 4000000 in
theorem apportion_ranking_sort_1_ok {p0 : Tapportion_portion} {p1 : Tapportion_portion} {p2 : Tapportion_ranking} {r : Int}  (h : apportion_ranking_sort_1 p0 p1 p2 = some r) : PF 120 [.agg [.v (.int .i64 p0.index_), .v (.int .u64 p0.share), .v (.int .u64 p0.rest)], .agg [.v (.int .i64 p1.index_), .v (.int .u64 p1.share), .v (.int .u64 p1.rest)], .ref [.fn 91 []] 0] (.v (.int .i64 r)) := by
  unfold apportion_ranking_sort_1 at h
  refine pf_of ?_
  refine penter Tryz.func120 fk120 rfl Tryz.ntmps120 Tryz.results120 rfl ?_
  refine pwc_seq ?_
  refine pwc_region ?_
  refine pwl_l rfl rfl rfl (pl_box (cs := [.v (.int .i64 p0.index_), .v (.int .u64 p0.share), .v (.int .u64 p0.rest)]) rfl rfl (fun b1 => ?_))
  refine pwl_l rfl rfl rfl (pl_box (cs := [.v (.int .i64 p1.index_), .v (.int .u64 p1.share), .v (.int .u64 p1.rest)]) rfl rfl (fun b2 => ?_))
  refine pwl_q rfl rfl rfl (pq_assign (p := .v (.int .i64 0)) rfl (.p rfl)) ?_
  refine pwl_nil ?_
  (repeat (first | apply pk_block_n | apply pk_seq))
  refine pwc_seq ?_
  refine pwc_region ?_
  refine pwl_q rfl rfl rfl (pq_fieldAddrR rfl rfl rfl rfl rfl (.p rfl)) ?_
  refine pwl_q rfl rfl rfl (pq_load_r (p := .fn 91 []) rfl (.p rfl) rfl) ?_
  refine pwl_q rfl rfl rfl (pq_load_b (p := .agg [.v (.int .i64 p0.index_), .v (.int .u64 p0.share), .v (.int .u64 p0.rest)]) rfl (.p rfl) (by (repeat (first | exact List.Mem.head _ | apply List.Mem.tail))) rfl) ?_
  refine pwl_q rfl rfl rfl (pq_load_b (p := .agg [.v (.int .i64 p1.index_), .v (.int .u64 p1.share), .v (.int .u64 p1.rest)]) rfl (.p rfl) (by (repeat (first | exact List.Mem.head _ | apply List.Mem.tail))) rfl) ?_
  refine bind_elim h ?_; clear h; intro x3 hx3 h
  refine pwl_callv rfl rfl rfl rfl rfl (pfv_of (apportion_byRest_ok hx3)) ?_
  refine pwl_q rfl rfl rfl (pq_assign (p := .v (.int .i64 x3)) rfl (.p rfl)) ?_
  refine pwl_nil ?_
  (repeat (first | apply pk_block_n | apply pk_seq))
  refine pwc_ret ?_
  (repeat (first | apply pk_seq_ret | apply pk_block_ret | apply pk_mid_ret | apply pk_cut_ret))
  obtain rfl := Option.some.inj h
  exact pret_of (prv_1 (prv1_t rfl)) PSub.nil ⟨rfl, rfl⟩
/-- (customs/apportion.ranking).sort -/
def apportion_ranking_sort (p0 : Tapportion_ranking) (p1 : (List Tapportion_portion)) : Option (List Tapportion_portion) := Option.bind (slices_SortFunc_apportion_portion_apportion_portion p1 (fun y2 y3 => apportion_ranking_sort_1 y2 y3 (⟨()⟩ : Tapportion_ranking))) (fun x4 => some x4)
set_option maxHeartbeats 4000000 in
theorem apportion_ranking_sort_ok {p0 : Tapportion_ranking} {p1 : (List Tapportion_portion)} {a_1 : Option Addr}  {n_1 : Nat}  {c_1 : Nat} {r : (List Tapportion_portion)}  (h : apportion_ranking_sort p0 p1 = some r) : PCall 92 [.agg [.fn 91 []], .v (.slice a_1 n_1 c_1)] [PRes.row a_1 n_1 c_1 144 3 (List.map Tapportion_portion.enc p1)] (fun pv ρ' => pv = .tup [] ∧ ρ' = [PRes.row a_1 n_1 c_1 144 3 (List.map Tapportion_portion.enc r)]) := by
  unfold apportion_ranking_sort at h
  refine penter Tryz.func92 fk92 rfl Tryz.ntmps92 Tryz.results92 rfl ?_
  refine pwc_rowfact (enc := Tapportion_portion.enc) (xs := p1) (a := a_1) (by (repeat (first | exact List.Mem.head _ | apply List.Mem.tail))) (fun hl ha => ?_); subst hl; clear ha
  refine pwc_seq ?_
  refine pwc_region ?_
  refine pwl_l rfl rfl rfl (pl_box (cs := [.fn 91 []]) rfl rfl (fun b1 => ?_))
  refine pwl_nil ?_
  (repeat (first | apply pk_block_n | apply pk_seq))
  refine pwc_region ?_
  refine pwl_q rfl rfl rfl (pq_move (p := .v (.slice a_1 p1.length c_1)) rfl (.p rfl)) ?_
  refine pwl_frb 2 rfl (by (repeat (first | exact PPick.h | apply PPick.t))) ?_
  refine pwl_q rfl rfl rfl (pq_makeFunc rfl) ?_
  refine bind_elim h ?_; clear h; intro x4 hx4 h
  refine pwl_l rfl rfl rfl (pl_callR rfl rfl (ρ1 := [_]) (perm_pick (by (repeat (first | exact PPick.h | apply PPick.t))) (List.Perm.refl _)) (slices_SortFunc_apportion_portion_apportion_portion_ok (fun hr => pfv_of (apportion_ranking_sort_1_ok hr)) hx4) ?_); rintro _ _ ⟨rfl, rfl⟩
  refine pwl_nil ?_
  obtain rfl := Option.some.inj h
  exact pret_ofN (rfl : PRV [] _ _ (.tup [])) (by (repeat (first | exact PSub.nil | (apply PSub.cons; (focus (repeat (first | exact PPick.h | apply PPick.t))))))) ⟨rfl, rfl⟩
/-- math/bits.Div64 -/
def math_bits_Div64 (p0 : Int) (p1 : Int) (p2 : Int) : Option (Int × Int) := cond (p2 == 0) (none) (cond (decide (p2 ≤ p0)) (none) (cond (p0 == 0) (Option.bind (nz p2) (fun u4 => Option.bind (nz p2) (fun u5 => some ((IntKind.u64.wrap (Int.tdiv p1 p2)), (Int.tmod p1 p2))))) (Option.bind (math_bits_LeadingZeros64 p2) (fun x6 => Option.bind (ge0 (IntKind.u64.wrap x6)) (fun u7 => lb ((ishr .u64 (ishl .u64 p2 (IntKind.u64.wrap x6)) 32)) (fun w8 => lb ((iand .u64 (ishl .u64 p2 (IntKind.u64.wrap x6)) 4294967295)) (fun w9 => Option.bind (ge0 (IntKind.u64.wrap x6)) (fun u10 => Option.bind (ge0 (IntKind.u64.wrap (64 - (IntKind.u64.wrap x6)))) (fun u11 => lb ((ior .u64 (ishl .u64 p0 (IntKind.u64.wrap x6)) (ishr .u64 p1 (IntKind.u64.wrap (64 - (IntKind.u64.wrap x6)))))) (fun w12 => Option.bind (ge0 (IntKind.u64.wrap x6)) (fun u13 => lb ((ishr .u64 (ishl .u64 p1 (IntKind.u64.wrap x6)) 32)) (fun w14 => lb ((iand .u64 (ishl .u64 p1 (IntKind.u64.wrap x6)) 4294967295)) (fun w15 => Option.bind (nz w8) (fun u16 => lb ((IntKind.u64.wrap (w12 - (IntKind.u64.wrap ((IntKind.u64.wrap (Int.tdiv w12 w8)) * w8))))) (fun w17 => Option.bind (loopF (S := Int × Int) (T := (Int)) (fun (v18, v19) => cond ((decide (4294967296 ≤ v18)) || (decide ((IntKind.u64.wrap ((IntKind.u64.wrap (4294967296 * v19)) + w14)) < (IntKind.u64.wrap (v18 * w9))))) (cond (decide (4294967296 ≤ (IntKind.u64.wrap (v19 + w8)))) (some (.inr (IntKind.u64.wrap (v18 - 1)))) (some (.inl ((IntKind.u64.wrap (v18 - 1)), (IntKind.u64.wrap (v19 + w8)))))) (some (.inr v18))) FUEL ((IntKind.u64.wrap (Int.tdiv w12 w8)), w17)) (fun v20 => lb ((IntKind.u64.wrap ((IntKind.u64.wrap ((IntKind.u64.wrap (w12 * 4294967296)) + w14)) - (IntKind.u64.wrap (v20 * (ishl .u64 p2 (IntKind.u64.wrap x6))))))) (fun w25 => Option.bind (nz w8) (fun u26 => lb ((IntKind.u64.wrap (w25 - (IntKind.u64.wrap ((IntKind.u64.wrap (Int.tdiv w25 w8)) * w8))))) (fun w27 => Option.bind (loopF (S := Int × Int) (T := (Int)) (fun (v28, v29) => cond ((decide (4294967296 ≤ v29)) || (decide ((IntKind.u64.wrap ((IntKind.u64.wrap (4294967296 * v28)) + w15)) < (IntKind.u64.wrap (v29 * w9))))) (cond (decide (4294967296 ≤ (IntKind.u64.wrap (v28 + w8)))) (some (.inr (IntKind.u64.wrap (v29 - 1)))) (some (.inl ((IntKind.u64.wrap (v28 + w8)), (IntKind.u64.wrap (v29 - 1)))))) (some (.inr v29))) FUEL (w27, (IntKind.u64.wrap (Int.tdiv w25 w8)))) (fun v30 => Option.bind (ge0 (IntKind.u64.wrap x6)) (fun u35 => lb ((IntKind.u64.wrap ((IntKind.u64.wrap (v20 * 4294967296)) + v30))) (fun w36 => lb ((ishr .u64 (IntKind.u64.wrap ((IntKind.u64.wrap ((IntKind.u64.wrap (w25 * 4294967296)) + w15)) - (IntKind.u64.wrap (v30 * (ishl .u64 p2 (IntKind.u64.wrap x6)))))) (IntKind.u64.wrap x6))) (fun w37 => some (w36, w37))))))))))))))))))))))))
set_option maxHeartbeats 4000000 in
theorem math_bits_Div64_ok {p0 : Int} {p1 : Int} {p2 : Int} {r : (Int × Int)}  (h : math_bits_Div64 p0 p1 p2 = some r) : PF 123 [.v (.int .u64 p0), .v (.int .u64 p1), .v (.int .u64 p2)] (.tup [.v (.int .u64 r.1), .v (.int .u64 r.2)]) := by
  unfold math_bits_Div64 at h
  refine pf_of ?_
  refine penter Tryz.func123 fk123 rfl Tryz.ntmps123 Tryz.results123 rfl ?_
  refine pwc_seq ?_
  refine pwc_region ?_
  refine pwl_q rfl rfl rfl (pq_assign (p := .v (.int .u64 0)) rfl (.p rfl)) ?_
  refine pwl_q rfl rfl rfl (pq_assign (p := .v (.int .u64 0)) rfl (.p rfl)) ?_
  refine pwl_nil ?_
  (repeat (first | apply pk_block_n | apply pk_seq))
  refine pwc_seq ?_
  refine pwc_seq ?_
  refine pwc_region ?_
  refine pwl_q rfl rfl rfl (pq_move (p := .v (.int .u64 p2)) rfl (.p rfl)) ?_
  refine pwl_q rfl rfl rfl (pq_cmp rfl (.p rfl) (.p rfl) rfl) ?_
  refine pwl_nil ?_
  (repeat (first | apply pk_block_n | apply pk_seq))
  refine pwc_cond rfl (fun hc1 => ?_) (fun hc1 => ?_)
  · replace h := cond_t hc1 h
    refine pwc_region ?_
    exact absurd h (by simp)
  · replace h := cond_f hc1 h
    refine pwc_skip ?_
    (repeat (first | apply pk_block_n | apply pk_seq))
    refine pwc_seq ?_
    refine pwc_seq ?_
    refine pwc_region ?_
    refine pwl_q rfl rfl rfl (pq_move (p := .v (.int .u64 p2)) rfl (.p rfl)) ?_
    refine pwl_q rfl rfl rfl (pq_move (p := .v (.int .u64 p0)) rfl (.p rfl)) ?_
    refine pwl_q rfl rfl rfl (pq_cmp rfl (.p rfl) (.p rfl) rfl) ?_
    refine pwl_nil ?_
    (repeat (first | apply pk_block_n | apply pk_seq))
    refine pwc_cond rfl (fun hc2 => ?_) (fun hc2 => ?_)
    · replace h := cond_t hc2 h
      refine pwc_region ?_
      exact absurd h (by simp)
    · replace h := cond_f hc2 h
      refine pwc_skip ?_
      (repeat (first | apply pk_block_n | apply pk_seq))
      refine pwc_seq ?_
      refine pwc_seq ?_
      refine pwc_region ?_
      refine pwl_q rfl rfl rfl (pq_move (p := .v (.int .u64 p0)) rfl (.p rfl)) ?_
      refine pwl_q rfl rfl rfl (pq_cmp rfl (.p rfl) (.p rfl) rfl) ?_
      refine pwl_nil ?_
      (repeat (first | apply pk_block_n | apply pk_seq))
      refine pwc_cond rfl (fun hc3 => ?_) (fun hc3 => ?_)
      · replace h := cond_t hc3 h
        refine pwc_seq ?_
        refine pwc_draw (ρd := []) [(0, 0), (1, 0), (2, 0), (3, 0), (4, 0), (5, 0), (6, 0), (7, 0)] _ (List.Perm.refl _) (by kernel_rfl) rfl ?_
        refine pwd_q rfl rfl rfl (pq_move (p := .v (.int .u64 p1)) rfl (.p rfl)) ?_
        refine pwd_q rfl rfl rfl (pq_move (p := .v (.int .u64 p2)) rfl (.p rfl)) ?_
        refine bind_elim h ?_; clear h; intro u4 hu4 h
        refine pwd_q rfl rfl rfl (pq_quo rfl (.p rfl) (.p rfl) (fun _ => nz_some hu4)) ?_
        refine pwd_q rfl rfl rfl (pq_move (p := .v (.int .u64 p1)) rfl (.p rfl)) ?_
        refine pwd_q rfl rfl rfl (pq_move (p := .v (.int .u64 p2)) rfl (.p rfl)) ?_
        refine bind_elim h ?_; clear h; intro u5 hu5 h
        refine pwd_q rfl rfl rfl (pq_rem rfl (.p rfl) (.p rfl) (fun _ => nz_some hu5)) ?_
        refine pwd_q rfl rfl rfl (pq_assign (p := .v (.int .u64 (IntKind.u64.wrap (Int.tdiv p1 p2)))) rfl (.p rfl)) ?_
        refine pwd_q rfl rfl rfl (pq_assign (p := .v (.int .u64 (Int.tmod p1 p2))) rfl (.p rfl)) ?_
        refine pwd_nil ?_
        (repeat (first | apply pk_block_n | apply pk_seq))
        refine pwc_ret ?_
        (repeat (first | apply pk_seq_ret | apply pk_block_ret | apply pk_mid_ret | apply pk_cut_ret))
        obtain rfl := Option.some.inj h
        exact pret_of (prv_2 (prv1_t rfl) (prv1_t rfl)) PSub.nil ⟨rfl, rfl⟩
      · replace h := cond_f hc3 h
        refine pwc_skip ?_
        (repeat (first | apply pk_block_n | apply pk_seq))
        refine pwc_seq ?_
        refine pwc_region ?_
        refine pwl_q rfl rfl rfl (pq_move (p := .v (.int .u64 p2)) rfl (.p rfl)) ?_
        refine bind_elim h ?_; clear h; intro x6 hx6 h
        refine pwl_call rfl rfl rfl rfl rfl (math_bits_LeadingZeros64_ok hx6) ?_
        refine pwl_q rfl rfl rfl (pq_conv rfl rfl rfl (.p rfl)) ?_
        refine pwl_q rfl rfl rfl (pq_assign (p := .v (.int .u64 (IntKind.u64.wrap x6))) rfl (.p rfl)) ?_
        refine pwl_nil ?_
        (repeat (first | apply pk_block_n | apply pk_seq))
        refine pwc_seq ?_
        refine pwc_region ?_
        refine pwl_q rfl rfl rfl (pq_move (p := .v (.int .u64 p2)) rfl (.p rfl)) ?_
        refine pwl_q rfl rfl rfl (pq_move (p := .v (.int .u64 (IntKind.u64.wrap x6))) rfl (.p rfl)) ?_
        refine bind_elim h ?_; clear h; intro u7 hu7 h
        refine pwl_q rfl rfl rfl (pq_shift rfl (.p rfl) (.p rfl) (fun _ => ge0_some hu7) rfl) ?_
        refine pwl_q rfl rfl rfl (pq_assign (p := .v (.int .u64 (ishl .u64 p2 (IntKind.u64.wrap x6)))) rfl (.p rfl)) ?_
        refine pwl_nil ?_
        (repeat (first | apply pk_block_n | apply pk_seq))
        refine pwc_seq ?_
        refine pwc_region ?_
        refine pwl_q rfl rfl rfl (pq_move (p := .v (.int .u64 (ishl .u64 p2 (IntKind.u64.wrap x6)))) rfl (.p rfl)) ?_
        refine pwl_q rfl rfl rfl (pq_shift rfl (.p rfl) (.p rfl) (fun _ => by decide) rfl) ?_
        refine lb_elim h ?_; clear h; intro w8 hw8 h
        refine pwl_q rfl rfl rfl (pq_assign rfl (.p (congrArg (fun z => PV.v (Value.int .u64 z)) hw8))) ?_
        refine pwl_nil ?_
        (repeat (first | apply pk_block_n | apply pk_seq))
        refine pwc_seq ?_
        refine pwc_region ?_
        refine pwl_q rfl rfl rfl (pq_move (p := .v (.int .u64 (ishl .u64 p2 (IntKind.u64.wrap x6)))) rfl (.p rfl)) ?_
        refine pwl_q rfl rfl rfl (pq_bits rfl (.p rfl) (.p rfl) rfl) ?_
        refine lb_elim h ?_; clear h; intro w9 hw9 h
        refine pwl_q rfl rfl rfl (pq_assign rfl (.p (congrArg (fun z => PV.v (Value.int .u64 z)) hw9))) ?_
        refine pwl_nil ?_
        (repeat (first | apply pk_block_n | apply pk_seq))
        refine pwc_seq ?_
        refine pwc_region ?_
        refine pwl_q rfl rfl rfl (pq_move (p := .v (.int .u64 p0)) rfl (.p rfl)) ?_
        refine pwl_q rfl rfl rfl (pq_move (p := .v (.int .u64 (IntKind.u64.wrap x6))) rfl (.p rfl)) ?_
        refine bind_elim h ?_; clear h; intro u10 hu10 h
        refine pwl_q rfl rfl rfl (pq_shift rfl (.p rfl) (.p rfl) (fun _ => ge0_some hu10) rfl) ?_
        refine pwl_q rfl rfl rfl (pq_move (p := .v (.int .u64 p1)) rfl (.p rfl)) ?_
        refine pwl_q rfl rfl rfl (pq_move (p := .v (.int .u64 (IntKind.u64.wrap x6))) rfl (.p rfl)) ?_
        refine pwl_q rfl rfl rfl (pq_arith rfl (.p rfl) (.p rfl) rfl) ?_
        refine bind_elim h ?_; clear h; intro u11 hu11 h
        refine pwl_q rfl rfl rfl (pq_shift rfl (.p rfl) (.p rfl) (fun _ => ge0_some hu11) rfl) ?_
        refine pwl_q rfl rfl rfl (pq_bits rfl (.p rfl) (.p rfl) rfl) ?_
        refine lb_elim h ?_; clear h; intro w12 hw12 h
        refine pwl_q rfl rfl rfl (pq_assign rfl (.p (congrArg (fun z => PV.v (Value.int .u64 z)) hw12))) ?_
        refine pwl_nil ?_
        (repeat (first | apply pk_block_n | apply pk_seq))
        refine pwc_seq ?_
        refine pwc_region ?_
        refine pwl_q rfl rfl rfl (pq_move (p := .v (.int .u64 p1)) rfl (.p rfl)) ?_
        refine pwl_q rfl rfl rfl (pq_move (p := .v (.int .u64 (IntKind.u64.wrap x6))) rfl (.p rfl)) ?_
        refine bind_elim h ?_; clear h; intro u13 hu13 h
        refine pwl_q rfl rfl rfl (pq_shift rfl (.p rfl) (.p rfl) (fun _ => ge0_some hu13) rfl) ?_
        refine pwl_q rfl rfl rfl (pq_assign (p := .v (.int .u64 (ishl .u64 p1 (IntKind.u64.wrap x6)))) rfl (.p rfl)) ?_
        refine pwl_nil ?_
        (repeat (first | apply pk_block_n | apply pk_seq))
        refine pwc_seq ?_
        refine pwc_region ?_
        refine pwl_q rfl rfl rfl (pq_move (p := .v (.int .u64 (ishl .u64 p1 (IntKind.u64.wrap x6)))) rfl (.p rfl)) ?_
        refine pwl_q rfl rfl rfl (pq_shift rfl (.p rfl) (.p rfl) (fun _ => by decide) rfl) ?_
        refine lb_elim h ?_; clear h; intro w14 hw14 h
        refine pwl_q rfl rfl rfl (pq_assign rfl (.p (congrArg (fun z => PV.v (Value.int .u64 z)) hw14))) ?_
        refine pwl_nil ?_
        (repeat (first | apply pk_block_n | apply pk_seq))
        refine pwc_seq ?_
        refine pwc_region ?_
        refine pwl_q rfl rfl rfl (pq_move (p := .v (.int .u64 (ishl .u64 p1 (IntKind.u64.wrap x6)))) rfl (.p rfl)) ?_
        refine pwl_q rfl rfl rfl (pq_bits rfl (.p rfl) (.p rfl) rfl) ?_
        refine lb_elim h ?_; clear h; intro w15 hw15 h
        refine pwl_q rfl rfl rfl (pq_assign rfl (.p (congrArg (fun z => PV.v (Value.int .u64 z)) hw15))) ?_
        refine pwl_nil ?_
        (repeat (first | apply pk_block_n | apply pk_seq))
        refine pwc_seq ?_
        refine pwc_region ?_
        refine pwl_q rfl rfl rfl (pq_move (p := .v (.int .u64 w12)) rfl (.p rfl)) ?_
        refine pwl_q rfl rfl rfl (pq_move (p := .v (.int .u64 w8)) rfl (.p rfl)) ?_
        refine bind_elim h ?_; clear h; intro u16 hu16 h
        refine pwl_q rfl rfl rfl (pq_quo rfl (.p rfl) (.p rfl) (fun _ => nz_some hu16)) ?_
        refine pwl_q rfl rfl rfl (pq_assign (p := .v (.int .u64 (IntKind.u64.wrap (Int.tdiv w12 w8)))) rfl (.p rfl)) ?_
        refine pwl_nil ?_
        (repeat (first | apply pk_block_n | apply pk_seq))
        refine pwc_seq ?_
        refine pwc_region ?_
        refine pwl_q rfl rfl rfl (pq_move (p := .v (.int .u64 w12)) rfl (.p rfl)) ?_
        refine pwl_q rfl rfl rfl (pq_move (p := .v (.int .u64 (IntKind.u64.wrap (Int.tdiv w12 w8)))) rfl (.p rfl)) ?_
        refine pwl_q rfl rfl rfl (pq_move (p := .v (.int .u64 w8)) rfl (.p rfl)) ?_
        refine pwl_q rfl rfl rfl (pq_arith rfl (.p rfl) (.p rfl) rfl) ?_
        refine pwl_q rfl rfl rfl (pq_arith rfl (.p rfl) (.p rfl) rfl) ?_
        refine lb_elim h ?_; clear h; intro w17 hw17 h
        refine pwl_q rfl rfl rfl (pq_assign rfl (.p (congrArg (fun z => PV.v (Value.int .u64 z)) hw17))) ?_
        refine pwl_nil ?_
        (repeat (first | apply pk_block_n | apply pk_seq))
        refine pwc_seq ?_
        refine bind_elim h ?_; clear h; intro q22 hq22 h
        refine pwc_join (Y := (Unit) × (Int)) (fun (_, v20) => [(2, .v (.int .u64 (ishl .u64 p2 (IntKind.u64.wrap x6)))), (8, .v (.int .u64 (IntKind.u64.wrap x6))), (9, .v (.int .u64 w8)), (10, .v (.int .u64 w9)), (11, .v (.int .u64 w12)), (13, .v (.int .u64 w14)), (14, .v (.int .u64 w15)), (15, .v (.int .u64 v20))]) (fun (_, v20) => []) (fun (_, v20) => q22 = v20) ?_ ?_
        · refine pwc_block ?_
          refine pwc_loopF (Y := Unit) (S := Int × Int) _ hq22 (fun _ (v18, v19) => [(2, .v (.int .u64 (ishl .u64 p2 (IntKind.u64.wrap x6)))), (8, .v (.int .u64 (IntKind.u64.wrap x6))), (9, .v (.int .u64 w8)), (10, .v (.int .u64 w9)), (11, .v (.int .u64 w12)), (13, .v (.int .u64 w14)), (14, .v (.int .u64 w15)), (15, .v (.int .u64 v18)), (16, .v (.int .u64 v19))]) (fun _ (v18, v19) => []) () (by (repeat (first | exact PHolds.nil | apply PHolds.cons rfl))) (by (repeat (first | exact PSub.nil | (apply PSub.cons; (focus (repeat (first | exact PPick.h | apply PPick.t))))))) ?_
          rintro _ ⟨v18, v19⟩ o τ hb21; (try dsimp only at hb21); dsimp only [pupds]
          refine pwc_seq ?_
          refine pwc_seq ?_
          refine pwc_region ?_
          refine pwl_q rfl rfl rfl (pq_move (p := .v (.int .u64 v18)) rfl (.p rfl)) ?_
          refine pwl_q rfl rfl rfl (pq_cmp rfl (.p rfl) (.p rfl) rfl) ?_
          refine pwl_q rfl rfl rfl (pq_move (p := .v (.bool (decide (4294967296 ≤ v18)))) rfl (.p rfl)) ?_
          refine pwl_qg (pguard_f rfl rfl rfl) rfl rfl (pq_move (p := .v (.int .u64 v18)) rfl (.p rfl)) ?_
          refine pwl_qg (pguard_f rfl rfl rfl) rfl rfl (pq_move (p := .v (.int .u64 w9)) rfl (.p rfl)) ?_
          refine pwl_qg (pguard_f rfl rfl rfl) rfl rfl (pq_arith rfl (.g rfl) (.g rfl) rfl) ?_
          refine pwl_qg (pguard_f rfl rfl rfl) rfl rfl (pq_move (p := .v (.int .u64 v19)) rfl (.p rfl)) ?_
          refine pwl_qg (pguard_f rfl rfl rfl) rfl rfl (pq_arith rfl (.p rfl) (.g rfl) rfl) ?_
          refine pwl_qg (pguard_f rfl rfl rfl) rfl rfl (pq_move (p := .v (.int .u64 w14)) rfl (.p rfl)) ?_
          refine pwl_qg (pguard_f rfl rfl rfl) rfl rfl (pq_arith rfl (.g rfl) (.g rfl) rfl) ?_
          refine pwl_qg (pguard_f rfl rfl rfl) rfl rfl (pq_cmp rfl (.g rfl) (.g rfl) rfl) ?_
          refine pwl_q rfl rfl rfl (pq_or rfl (.p rfl) (.p rfl) (.g rfl)) ?_
          refine pwl_nil ?_
          (repeat (first | apply pk_block_n | apply pk_seq))
          refine pwc_cond rfl (fun hc23 => ?_) (fun hc23 => ?_)
          · replace hb21 := cond_t hc23 hb21
            refine pwc_skip ?_
            (repeat (first | apply pk_block_n | apply pk_seq))
            refine pwc_block ?_
            refine pwc_seq ?_
            refine pwc_region ?_
            refine pwl_q rfl rfl rfl (pq_move (p := .v (.int .u64 v18)) rfl (.p rfl)) ?_
            refine pwl_q rfl rfl rfl (pq_arith rfl (.p rfl) (.p rfl) rfl) ?_
            refine pwl_q rfl rfl rfl (pq_assign (p := .v (.int .u64 (IntKind.u64.wrap (v18 - 1)))) rfl (.p rfl)) ?_
            refine pwl_nil ?_
            (repeat (first | apply pk_block_n | apply pk_seq))
            refine pwc_seq ?_
            refine pwc_region ?_
            refine pwl_q rfl rfl rfl (pq_move (p := .v (.int .u64 v19)) rfl (.p rfl)) ?_
            refine pwl_q rfl rfl rfl (pq_move (p := .v (.int .u64 w8)) rfl (.p rfl)) ?_
            refine pwl_q rfl rfl rfl (pq_arith rfl (.p rfl) (.p rfl) rfl) ?_
            refine pwl_q rfl rfl rfl (pq_assign (p := .v (.int .u64 (IntKind.u64.wrap (v19 + w8)))) rfl (.p rfl)) ?_
            refine pwl_nil ?_
            (repeat (first | apply pk_block_n | apply pk_seq))
            refine pwc_seq ?_
            refine pwc_region ?_
            refine pwl_q rfl rfl rfl (pq_move (p := .v (.int .u64 (IntKind.u64.wrap (v19 + w8)))) rfl (.p rfl)) ?_
            refine pwl_q rfl rfl rfl (pq_cmp rfl (.p rfl) (.p rfl) rfl) ?_
            refine pwl_nil ?_
            (repeat (first | apply pk_block_n | apply pk_seq))
            refine pwc_cond rfl (fun hc24 => ?_) (fun hc24 => ?_)
            · replace hb21 := cond_t hc24 hb21
              refine pwc_exit ?_
              (repeat (first | apply pk_seq_exit | apply pk_mid_exit | apply pk_cut_exit | apply pk_block_ne rfl))
              refine pk_loop_exit hb21 (fun ht => ?_)
              refine pk_block_eq rfl ?_
              exact pk_mid ((), (IntKind.u64.wrap (v18 - 1))) (by (repeat (first | exact PHolds.nil | apply PHolds.cons rfl))) (by (repeat (first | exact PSub.nil | (apply PSub.cons; (focus (repeat (first | exact PPick.h | apply PPick.t))))))) ht.symm
            · replace hb21 := cond_f hc24 hb21
              refine pwc_skip ?_
              refine pk_block_n ?_
              (repeat apply pk_block_n)
              exact pk_loop hb21 () (by (repeat (first | exact PHolds.nil | apply PHolds.cons rfl))) (by (repeat (first | exact PSub.nil | (apply PSub.cons; (focus (repeat (first | exact PPick.h | apply PPick.t)))))))
          · replace hb21 := cond_f hc23 hb21
            refine pwc_exit ?_
            (repeat (first | apply pk_seq_exit | apply pk_mid_exit | apply pk_cut_exit | apply pk_block_ne rfl))
            refine pk_loop_exit hb21 (fun ht => ?_)
            refine pk_block_eq rfl ?_
            exact pk_mid ((), v18) (by (repeat (first | exact PHolds.nil | apply PHolds.cons rfl))) (by (repeat (first | exact PSub.nil | (apply PSub.cons; (focus (repeat (first | exact PPick.h | apply PPick.t))))))) ht.symm
        · rintro ⟨_, v20⟩ τ hz; (try dsimp only at hz); subst q22; (try dsimp only at h); dsimp only [pupds]
          refine pwc_seq ?_
          refine pwc_region ?_
          refine pwl_q rfl rfl rfl (pq_move (p := .v (.int .u64 w12)) rfl (.p rfl)) ?_
          refine pwl_q rfl rfl rfl (pq_arith rfl (.p rfl) (.p rfl) rfl) ?_
          refine pwl_q rfl rfl rfl (pq_move (p := .v (.int .u64 w14)) rfl (.p rfl)) ?_
          refine pwl_q rfl rfl rfl (pq_arith rfl (.p rfl) (.p rfl) rfl) ?_
          refine pwl_q rfl rfl rfl (pq_move (p := .v (.int .u64 v20)) rfl (.p rfl)) ?_
          refine pwl_q rfl rfl rfl (pq_move (p := .v (.int .u64 (ishl .u64 p2 (IntKind.u64.wrap x6)))) rfl (.p rfl)) ?_
          refine pwl_q rfl rfl rfl (pq_arith rfl (.p rfl) (.p rfl) rfl) ?_
          refine pwl_q rfl rfl rfl (pq_arith rfl (.p rfl) (.p rfl) rfl) ?_
          refine lb_elim h ?_; clear h; intro w25 hw25 h
          refine pwl_q rfl rfl rfl (pq_assign rfl (.p (congrArg (fun z => PV.v (Value.int .u64 z)) hw25))) ?_
          refine pwl_nil ?_
          (repeat (first | apply pk_block_n | apply pk_seq))
          refine pwc_seq ?_
          refine pwc_region ?_
          refine pwl_q rfl rfl rfl (pq_move (p := .v (.int .u64 w25)) rfl (.p rfl)) ?_
          refine pwl_q rfl rfl rfl (pq_move (p := .v (.int .u64 w8)) rfl (.p rfl)) ?_
          refine bind_elim h ?_; clear h; intro u26 hu26 h
          refine pwl_q rfl rfl rfl (pq_quo rfl (.p rfl) (.p rfl) (fun _ => nz_some hu26)) ?_
          refine pwl_q rfl rfl rfl (pq_assign (p := .v (.int .u64 (IntKind.u64.wrap (Int.tdiv w25 w8)))) rfl (.p rfl)) ?_
          refine pwl_nil ?_
          (repeat (first | apply pk_block_n | apply pk_seq))
          refine pwc_seq ?_
          refine pwc_region ?_
          refine pwl_q rfl rfl rfl (pq_move (p := .v (.int .u64 w25)) rfl (.p rfl)) ?_
          refine pwl_q rfl rfl rfl (pq_move (p := .v (.int .u64 (IntKind.u64.wrap (Int.tdiv w25 w8)))) rfl (.p rfl)) ?_
          refine pwl_q rfl rfl rfl (pq_move (p := .v (.int .u64 w8)) rfl (.p rfl)) ?_
          refine pwl_q rfl rfl rfl (pq_arith rfl (.p rfl) (.p rfl) rfl) ?_
          refine pwl_q rfl rfl rfl (pq_arith rfl (.p rfl) (.p rfl) rfl) ?_
          refine lb_elim h ?_; clear h; intro w27 hw27 h
          refine pwl_q rfl rfl rfl (pq_assign rfl (.p (congrArg (fun z => PV.v (Value.int .u64 z)) hw27))) ?_
          refine pwl_nil ?_
          (repeat (first | apply pk_block_n | apply pk_seq))
          refine pwc_seq ?_
          refine bind_elim h ?_; clear h; intro q32 hq32 h
          refine pwc_join (Y := (Unit) × (Int)) (fun (_, v30) => [(2, .v (.int .u64 (ishl .u64 p2 (IntKind.u64.wrap x6)))), (8, .v (.int .u64 (IntKind.u64.wrap x6))), (14, .v (.int .u64 w15)), (15, .v (.int .u64 v20)), (17, .v (.int .u64 w25)), (18, .v (.int .u64 v30))]) (fun (_, v30) => []) (fun (_, v30) => q32 = v30) ?_ ?_
          · refine pwc_block ?_
            refine pwc_loopF (Y := Unit) (S := Int × Int) _ hq32 (fun _ (v28, v29) => [(2, .v (.int .u64 (ishl .u64 p2 (IntKind.u64.wrap x6)))), (8, .v (.int .u64 (IntKind.u64.wrap x6))), (9, .v (.int .u64 w8)), (10, .v (.int .u64 w9)), (14, .v (.int .u64 w15)), (15, .v (.int .u64 v20)), (16, .v (.int .u64 v28)), (17, .v (.int .u64 w25)), (18, .v (.int .u64 v29))]) (fun _ (v28, v29) => []) () (by (repeat (first | exact PHolds.nil | apply PHolds.cons rfl))) (by (repeat (first | exact PSub.nil | (apply PSub.cons; (focus (repeat (first | exact PPick.h | apply PPick.t))))))) ?_
            rintro _ ⟨v28, v29⟩ o τ hb31; (try dsimp only at hb31); dsimp only [pupds]
            refine pwc_seq ?_
            refine pwc_seq ?_
            refine pwc_region ?_
            refine pwl_q rfl rfl rfl (pq_move (p := .v (.int .u64 v29)) rfl (.p rfl)) ?_
            refine pwl_q rfl rfl rfl (pq_cmp rfl (.p rfl) (.p rfl) rfl) ?_
            refine pwl_q rfl rfl rfl (pq_move (p := .v (.bool (decide (4294967296 ≤ v29)))) rfl (.p rfl)) ?_
            refine pwl_qg (pguard_f rfl rfl rfl) rfl rfl (pq_move (p := .v (.int .u64 v29)) rfl (.p rfl)) ?_
            refine pwl_qg (pguard_f rfl rfl rfl) rfl rfl (pq_move (p := .v (.int .u64 w9)) rfl (.p rfl)) ?_
            refine pwl_qg (pguard_f rfl rfl rfl) rfl rfl (pq_arith rfl (.g rfl) (.g rfl) rfl) ?_
            refine pwl_qg (pguard_f rfl rfl rfl) rfl rfl (pq_move (p := .v (.int .u64 v28)) rfl (.p rfl)) ?_
            refine pwl_qg (pguard_f rfl rfl rfl) rfl rfl (pq_arith rfl (.p rfl) (.g rfl) rfl) ?_
            refine pwl_qg (pguard_f rfl rfl rfl) rfl rfl (pq_move (p := .v (.int .u64 w15)) rfl (.p rfl)) ?_
            refine pwl_qg (pguard_f rfl rfl rfl) rfl rfl (pq_arith rfl (.g rfl) (.g rfl) rfl) ?_
            refine pwl_qg (pguard_f rfl rfl rfl) rfl rfl (pq_cmp rfl (.g rfl) (.g rfl) rfl) ?_
            refine pwl_q rfl rfl rfl (pq_or rfl (.p rfl) (.p rfl) (.g rfl)) ?_
            refine pwl_nil ?_
            (repeat (first | apply pk_block_n | apply pk_seq))
            refine pwc_cond rfl (fun hc33 => ?_) (fun hc33 => ?_)
            · replace hb31 := cond_t hc33 hb31
              refine pwc_skip ?_
              (repeat (first | apply pk_block_n | apply pk_seq))
              refine pwc_block ?_
              refine pwc_seq ?_
              refine pwc_region ?_
              refine pwl_q rfl rfl rfl (pq_move (p := .v (.int .u64 v29)) rfl (.p rfl)) ?_
              refine pwl_q rfl rfl rfl (pq_arith rfl (.p rfl) (.p rfl) rfl) ?_
              refine pwl_q rfl rfl rfl (pq_assign (p := .v (.int .u64 (IntKind.u64.wrap (v29 - 1)))) rfl (.p rfl)) ?_
              refine pwl_nil ?_
              (repeat (first | apply pk_block_n | apply pk_seq))
              refine pwc_seq ?_
              refine pwc_region ?_
              refine pwl_q rfl rfl rfl (pq_move (p := .v (.int .u64 v28)) rfl (.p rfl)) ?_
              refine pwl_q rfl rfl rfl (pq_move (p := .v (.int .u64 w8)) rfl (.p rfl)) ?_
              refine pwl_q rfl rfl rfl (pq_arith rfl (.p rfl) (.p rfl) rfl) ?_
              refine pwl_q rfl rfl rfl (pq_assign (p := .v (.int .u64 (IntKind.u64.wrap (v28 + w8)))) rfl (.p rfl)) ?_
              refine pwl_nil ?_
              (repeat (first | apply pk_block_n | apply pk_seq))
              refine pwc_seq ?_
              refine pwc_region ?_
              refine pwl_q rfl rfl rfl (pq_move (p := .v (.int .u64 (IntKind.u64.wrap (v28 + w8)))) rfl (.p rfl)) ?_
              refine pwl_q rfl rfl rfl (pq_cmp rfl (.p rfl) (.p rfl) rfl) ?_
              refine pwl_nil ?_
              (repeat (first | apply pk_block_n | apply pk_seq))
              refine pwc_cond rfl (fun hc34 => ?_) (fun hc34 => ?_)
              · replace hb31 := cond_t hc34 hb31
                refine pwc_exit ?_
                (repeat (first | apply pk_seq_exit | apply pk_mid_exit | apply pk_cut_exit | apply pk_block_ne rfl))
                refine pk_loop_exit hb31 (fun ht => ?_)
                refine pk_block_eq rfl ?_
                exact pk_mid ((), (IntKind.u64.wrap (v29 - 1))) (by (repeat (first | exact PHolds.nil | apply PHolds.cons rfl))) (by (repeat (first | exact PSub.nil | (apply PSub.cons; (focus (repeat (first | exact PPick.h | apply PPick.t))))))) ht.symm
              · replace hb31 := cond_f hc34 hb31
                refine pwc_skip ?_
                refine pk_block_n ?_
                (repeat apply pk_block_n)
                exact pk_loop hb31 () (by (repeat (first | exact PHolds.nil | apply PHolds.cons rfl))) (by (repeat (first | exact PSub.nil | (apply PSub.cons; (focus (repeat (first | exact PPick.h | apply PPick.t)))))))
            · replace hb31 := cond_f hc33 hb31
              refine pwc_exit ?_
              (repeat (first | apply pk_seq_exit | apply pk_mid_exit | apply pk_cut_exit | apply pk_block_ne rfl))
              refine pk_loop_exit hb31 (fun ht => ?_)
              refine pk_block_eq rfl ?_
              exact pk_mid ((), v29) (by (repeat (first | exact PHolds.nil | apply PHolds.cons rfl))) (by (repeat (first | exact PSub.nil | (apply PSub.cons; (focus (repeat (first | exact PPick.h | apply PPick.t))))))) ht.symm
          · rintro ⟨_, v30⟩ τ hz; (try dsimp only at hz); subst q32; (try dsimp only at h); dsimp only [pupds]
            refine pwc_seq ?_
            refine pwc_region ?_
            refine pwl_q rfl rfl rfl (pq_move (p := .v (.int .u64 v20)) rfl (.p rfl)) ?_
            refine pwl_q rfl rfl rfl (pq_arith rfl (.p rfl) (.p rfl) rfl) ?_
            refine pwl_q rfl rfl rfl (pq_move (p := .v (.int .u64 v30)) rfl (.p rfl)) ?_
            refine pwl_q rfl rfl rfl (pq_arith rfl (.p rfl) (.p rfl) rfl) ?_
            refine pwl_q rfl rfl rfl (pq_move (p := .v (.int .u64 w25)) rfl (.p rfl)) ?_
            refine pwl_q rfl rfl rfl (pq_arith rfl (.p rfl) (.p rfl) rfl) ?_
            refine pwl_q rfl rfl rfl (pq_move (p := .v (.int .u64 w15)) rfl (.p rfl)) ?_
            refine pwl_q rfl rfl rfl (pq_arith rfl (.p rfl) (.p rfl) rfl) ?_
            refine pwl_q rfl rfl rfl (pq_move (p := .v (.int .u64 v30)) rfl (.p rfl)) ?_
            refine pwl_q rfl rfl rfl (pq_move (p := .v (.int .u64 (ishl .u64 p2 (IntKind.u64.wrap x6)))) rfl (.p rfl)) ?_
            refine pwl_q rfl rfl rfl (pq_arith rfl (.p rfl) (.p rfl) rfl) ?_
            refine pwl_q rfl rfl rfl (pq_arith rfl (.p rfl) (.p rfl) rfl) ?_
            refine pwl_q rfl rfl rfl (pq_move (p := .v (.int .u64 (IntKind.u64.wrap x6))) rfl (.p rfl)) ?_
            refine bind_elim h ?_; clear h; intro u35 hu35 h
            refine pwl_q rfl rfl rfl (pq_shift rfl (.p rfl) (.p rfl) (fun _ => ge0_some hu35) rfl) ?_
            refine lb_elim h ?_; clear h; intro w36 hw36 h
            refine pwl_q rfl rfl rfl (pq_assign rfl (.p (congrArg (fun z => PV.v (Value.int .u64 z)) hw36))) ?_
            refine lb_elim h ?_; clear h; intro w37 hw37 h
            refine pwl_q rfl rfl rfl (pq_assign rfl (.p (congrArg (fun z => PV.v (Value.int .u64 z)) hw37))) ?_
            refine pwl_nil ?_
            (repeat (first | apply pk_block_n | apply pk_seq))
            refine pwc_ret ?_
            (repeat (first | apply pk_seq_ret | apply pk_block_ret | apply pk_mid_ret | apply pk_cut_ret))
            obtain rfl := Option.some.inj h
            exact pret_of (prv_2 (prv1_t rfl) (prv1_t rfl)) PSub.nil ⟨rfl, rfl⟩
/-- customs/exact.Div -/
def exact_Div (p0 : Texact_Wide) (p1 : Int) (p2 : Int) : Option (Int × Int) := cond (((p1 == 0) || (decide (p2 < 0))) || (decide (3 < p2))) (some (0, 2)) (cond (decide (p1 ≤ p0.Hi)) (some (0, 3)) (Option.bind (math_bits_Div64 p0.Hi p0.Lo p1) (fun x4 => Option.bind (exact_raised x4.1 x4.2 p1 p2) (fun x5 => cond (!x5) (some (x4.1, 0)) (cond (x4.1 == 18446744073709551615) (some (0, 3)) (some ((IntKind.u64.wrap (x4.1 + 1)), 0)))))))
set_option maxHeartbeats 4000000 in
theorem exact_Div_ok {p0 : Texact_Wide} {p1 : Int} {p2 : Int} {r : (Int × Int)}  (h : exact_Div p0 p1 p2 = some r) : PF 97 [.agg [.v (.int .u64 p0.Hi), .v (.int .u64 p0.Lo)], .v (.int .u64 p1), .v (.int .i64 p2)] (.tup [.v (.int .u64 r.1), .v (.int .i64 r.2)]) := by
  unfold exact_Div at h
  refine pf_of ?_
  refine penter Tryz.func97 fk97 rfl Tryz.ntmps97 Tryz.results97 rfl ?_
  refine pwc_seq ?_
  refine pwc_region ?_
  refine pwl_l rfl rfl rfl (pl_box (cs := [.v (.int .u64 p0.Hi), .v (.int .u64 p0.Lo)]) rfl rfl (fun b1 => ?_))
  refine pwl_q rfl rfl rfl (pq_assign (p := .v (.int .u64 0)) rfl (.p rfl)) ?_
  refine pwl_q rfl rfl rfl (pq_assign (p := .v (.int .i64 0)) rfl (.p rfl)) ?_
  refine pwl_nil ?_
  (repeat (first | apply pk_block_n | apply pk_seq))
  refine pwc_seq ?_
  refine pwc_seq ?_
  refine pwc_region ?_
  refine pwl_q rfl rfl rfl (pq_move (p := .v (.int .u64 p1)) rfl (.p rfl)) ?_
  refine pwl_q rfl rfl rfl (pq_cmp rfl (.p rfl) (.p rfl) rfl) ?_
  refine pwl_q rfl rfl rfl (pq_move (p := .v (.bool (p1 == 0))) rfl (.p rfl)) ?_
  refine pwl_qg (pguard_f rfl rfl rfl) rfl rfl (pq_move (p := .v (.int .i64 p2)) rfl (.p rfl)) ?_
  refine pwl_qg (pguard_f rfl rfl rfl) rfl rfl (pq_cmp rfl (.g rfl) (.p rfl) rfl) ?_
  refine pwl_q rfl rfl rfl (pq_or rfl (.p rfl) (.p rfl) (.g rfl)) ?_
  refine pwl_q rfl rfl rfl (pq_move (p := .v (.bool ((p1 == 0) || (decide (p2 < 0))))) rfl (.p rfl)) ?_
  refine pwl_qg (pguard_f rfl rfl rfl) rfl rfl (pq_move (p := .v (.int .i64 p2)) rfl (.p rfl)) ?_
  refine pwl_qg (pguard_f rfl rfl rfl) rfl rfl (pq_cmp rfl (.g rfl) (.p rfl) rfl) ?_
  refine pwl_q rfl rfl rfl (pq_or rfl (.p rfl) (.p rfl) (.g rfl)) ?_
  refine pwl_nil ?_
  (repeat (first | apply pk_block_n | apply pk_seq))
  refine pwc_cond rfl (fun hc2 => ?_) (fun hc2 => ?_)
  · replace h := cond_t hc2 h
    refine pwc_seq ?_
    refine pwc_region ?_
    refine pwl_q rfl rfl rfl (pq_assign (p := .v (.int .u64 0)) rfl (.p rfl)) ?_
    refine pwl_q rfl rfl rfl (pq_assign (p := .v (.int .i64 2)) rfl (.p rfl)) ?_
    refine pwl_nil ?_
    (repeat (first | apply pk_block_n | apply pk_seq))
    refine pwc_ret ?_
    (repeat (first | apply pk_seq_ret | apply pk_block_ret | apply pk_mid_ret | apply pk_cut_ret))
    obtain rfl := Option.some.inj h
    exact pret_of (prv_2 (prv1_t rfl) (prv1_t rfl)) PSub.nil ⟨rfl, rfl⟩
  · replace h := cond_f hc2 h
    refine pwc_skip ?_
    (repeat (first | apply pk_block_n | apply pk_seq))
    refine pwc_seq ?_
    refine pwc_seq ?_
    refine pwc_region ?_
    refine pwl_q rfl rfl rfl (pq_fieldAddr rfl rfl rfl rfl rfl (.p rfl)) ?_
    refine pwl_q rfl rfl rfl (pq_load_b (p := .v (.int .u64 p0.Hi)) rfl (.p rfl) (by (repeat (first | exact List.Mem.head _ | apply List.Mem.tail))) rfl) ?_
    refine pwl_q rfl rfl rfl (pq_move (p := .v (.int .u64 p1)) rfl (.p rfl)) ?_
    refine pwl_q rfl rfl rfl (pq_cmp rfl (.p rfl) (.p rfl) rfl) ?_
    refine pwl_nil ?_
    (repeat (first | apply pk_block_n | apply pk_seq))
    refine pwc_cond rfl (fun hc3 => ?_) (fun hc3 => ?_)
    · replace h := cond_t hc3 h
      refine pwc_seq ?_
      refine pwc_region ?_
      refine pwl_q rfl rfl rfl (pq_assign (p := .v (.int .u64 0)) rfl (.p rfl)) ?_
      refine pwl_q rfl rfl rfl (pq_assign (p := .v (.int .i64 3)) rfl (.p rfl)) ?_
      refine pwl_nil ?_
      (repeat (first | apply pk_block_n | apply pk_seq))
      refine pwc_ret ?_
      (repeat (first | apply pk_seq_ret | apply pk_block_ret | apply pk_mid_ret | apply pk_cut_ret))
      obtain rfl := Option.some.inj h
      exact pret_of (prv_2 (prv1_t rfl) (prv1_t rfl)) PSub.nil ⟨rfl, rfl⟩
    · replace h := cond_f hc3 h
      refine pwc_skip ?_
      (repeat (first | apply pk_block_n | apply pk_seq))
      refine pwc_seq ?_
      refine pwc_region ?_
      refine pwl_q rfl rfl rfl (pq_fieldAddr rfl rfl rfl rfl rfl (.p rfl)) ?_
      refine pwl_q rfl rfl rfl (pq_load_b (p := .v (.int .u64 p0.Hi)) rfl (.p rfl) (by (repeat (first | exact List.Mem.head _ | apply List.Mem.tail))) rfl) ?_
      refine pwl_q rfl rfl rfl (pq_fieldAddr rfl rfl rfl rfl rfl (.p rfl)) ?_
      refine pwl_q rfl rfl rfl (pq_load_b (p := .v (.int .u64 p0.Lo)) rfl (.p rfl) (by (repeat (first | exact List.Mem.head _ | apply List.Mem.tail))) rfl) ?_
      refine pwl_q rfl rfl rfl (pq_move (p := .v (.int .u64 p1)) rfl (.p rfl)) ?_
      refine bind_elim h ?_; clear h; intro x4 hx4 h
      refine pwl_call rfl rfl rfl rfl rfl (math_bits_Div64_ok hx4) ?_
      refine pwl_q rfl rfl rfl (pq_move (p := .tup [.v (.int .u64 x4.1), .v (.int .u64 x4.2)]) rfl (.p rfl)) ?_
      refine pwl_q rfl rfl rfl (pq_extract (p := .v (.int .u64 x4.1)) rfl (.p rfl) rfl) ?_
      refine pwl_q rfl rfl rfl (pq_extract (p := .v (.int .u64 x4.2)) rfl (.p rfl) rfl) ?_
      refine pwl_q rfl rfl rfl (pq_assign (p := .v (.int .u64 x4.1)) rfl (.p rfl)) ?_
      refine pwl_q rfl rfl rfl (pq_assign (p := .v (.int .u64 x4.2)) rfl (.p rfl)) ?_
      refine pwl_nil ?_
      (repeat (first | apply pk_block_n | apply pk_seq))
      refine pwc_seq ?_
      refine pwc_seq ?_
      refine pwc_region ?_
      refine pwl_q rfl rfl rfl (pq_move (p := .v (.int .u64 x4.1)) rfl (.p rfl)) ?_
      refine pwl_q rfl rfl rfl (pq_move (p := .v (.int .u64 x4.2)) rfl (.p rfl)) ?_
      refine pwl_q rfl rfl rfl (pq_move (p := .v (.int .u64 p1)) rfl (.p rfl)) ?_
      refine pwl_q rfl rfl rfl (pq_move (p := .v (.int .i64 p2)) rfl (.p rfl)) ?_
      refine bind_elim h ?_; clear h; intro x5 hx5 h
      refine pwl_call rfl rfl rfl rfl rfl (exact_raised_ok hx5) ?_
      refine pwl_q rfl rfl rfl (pq_not rfl (.p rfl)) ?_
      refine pwl_nil ?_
      (repeat (first | apply pk_block_n | apply pk_seq))
      refine pwc_cond rfl (fun hc6 => ?_) (fun hc6 => ?_)
      · replace h := cond_t hc6 h
        refine pwc_seq ?_
        refine pwc_region ?_
        refine pwl_q rfl rfl rfl (pq_move (p := .v (.int .u64 x4.1)) rfl (.p rfl)) ?_
        refine pwl_q rfl rfl rfl (pq_assign (p := .v (.int .u64 x4.1)) rfl (.p rfl)) ?_
        refine pwl_q rfl rfl rfl (pq_assign (p := .v (.int .i64 0)) rfl (.p rfl)) ?_
        refine pwl_nil ?_
        (repeat (first | apply pk_block_n | apply pk_seq))
        refine pwc_ret ?_
        (repeat (first | apply pk_seq_ret | apply pk_block_ret | apply pk_mid_ret | apply pk_cut_ret))
        obtain rfl := Option.some.inj h
        exact pret_of (prv_2 (prv1_t rfl) (prv1_t rfl)) PSub.nil ⟨rfl, rfl⟩
      · replace h := cond_f hc6 h
        refine pwc_skip ?_
        (repeat (first | apply pk_block_n | apply pk_seq))
        refine pwc_seq ?_
        refine pwc_seq ?_
        refine pwc_region ?_
        refine pwl_q rfl rfl rfl (pq_move (p := .v (.int .u64 x4.1)) rfl (.p rfl)) ?_
        refine pwl_q rfl rfl rfl (pq_cmp rfl (.p rfl) (.p rfl) rfl) ?_
        refine pwl_nil ?_
        (repeat (first | apply pk_block_n | apply pk_seq))
        refine pwc_cond rfl (fun hc7 => ?_) (fun hc7 => ?_)
        · replace h := cond_t hc7 h
          refine pwc_seq ?_
          refine pwc_region ?_
          refine pwl_q rfl rfl rfl (pq_assign (p := .v (.int .u64 0)) rfl (.p rfl)) ?_
          refine pwl_q rfl rfl rfl (pq_assign (p := .v (.int .i64 3)) rfl (.p rfl)) ?_
          refine pwl_nil ?_
          (repeat (first | apply pk_block_n | apply pk_seq))
          refine pwc_ret ?_
          (repeat (first | apply pk_seq_ret | apply pk_block_ret | apply pk_mid_ret | apply pk_cut_ret))
          obtain rfl := Option.some.inj h
          exact pret_of (prv_2 (prv1_t rfl) (prv1_t rfl)) PSub.nil ⟨rfl, rfl⟩
        · replace h := cond_f hc7 h
          refine pwc_skip ?_
          (repeat (first | apply pk_block_n | apply pk_seq))
          refine pwc_seq ?_
          refine pwc_region ?_
          refine pwl_q rfl rfl rfl (pq_move (p := .v (.int .u64 x4.1)) rfl (.p rfl)) ?_
          refine pwl_q rfl rfl rfl (pq_arith rfl (.p rfl) (.p rfl) rfl) ?_
          refine pwl_q rfl rfl rfl (pq_assign (p := .v (.int .u64 (IntKind.u64.wrap (x4.1 + 1)))) rfl (.p rfl)) ?_
          refine pwl_q rfl rfl rfl (pq_assign (p := .v (.int .i64 0)) rfl (.p rfl)) ?_
          refine pwl_nil ?_
          (repeat (first | apply pk_block_n | apply pk_seq))
          refine pwc_ret ?_
          (repeat (first | apply pk_seq_ret | apply pk_block_ret | apply pk_mid_ret | apply pk_cut_ret))
          obtain rfl := Option.some.inj h
          exact pret_of (prv_2 (prv1_t rfl) (prv1_t rfl)) PSub.nil ⟨rfl, rfl⟩
/-- customs/exact.MulDiv -/
def exact_MulDiv (p0 : Int) (p1 : Int) (p2 : Int) (p3 : Int) : Option (Int × Int) := Option.bind (exact_Mul p0 p1) (fun x1 => Option.bind (exact_Div x1 p2 p3) (fun x2 => some (x2.1, x2.2)))
set_option maxHeartbeats 4000000 in
theorem exact_MulDiv_ok {p0 : Int} {p1 : Int} {p2 : Int} {p3 : Int} {r : (Int × Int)}  (h : exact_MulDiv p0 p1 p2 p3 = some r) : PF 89 [.v (.int .u64 p0), .v (.int .u64 p1), .v (.int .u64 p2), .v (.int .i64 p3)] (.tup [.v (.int .u64 r.1), .v (.int .i64 r.2)]) := by
  unfold exact_MulDiv at h
  refine pf_of ?_
  refine penter Tryz.func89 fk89 rfl Tryz.ntmps89 Tryz.results89 rfl ?_
  refine pwc_seq ?_
  refine pwc_region ?_
  refine pwl_q rfl rfl rfl (pq_assign (p := .v (.int .u64 0)) rfl (.p rfl)) ?_
  refine pwl_q rfl rfl rfl (pq_assign (p := .v (.int .i64 0)) rfl (.p rfl)) ?_
  refine pwl_nil ?_
  (repeat (first | apply pk_block_n | apply pk_seq))
  refine pwc_seq ?_
  refine pwc_region ?_
  refine pwl_q rfl rfl rfl (pq_move (p := .v (.int .u64 p0)) rfl (.p rfl)) ?_
  refine pwl_q rfl rfl rfl (pq_move (p := .v (.int .u64 p1)) rfl (.p rfl)) ?_
  refine bind_elim h ?_; clear h; intro x1 hx1 h
  refine pwl_call rfl rfl rfl rfl rfl (exact_Mul_ok hx1) ?_
  refine pwl_q rfl rfl rfl (pq_move (p := .v (.int .u64 p2)) rfl (.p rfl)) ?_
  refine pwl_q rfl rfl rfl (pq_move (p := .v (.int .i64 p3)) rfl (.p rfl)) ?_
  refine bind_elim h ?_; clear h; intro x2 hx2 h
  refine pwl_call rfl rfl rfl rfl rfl (exact_Div_ok hx2) ?_
  refine pwl_q rfl rfl rfl (pq_extract (p := .v (.int .u64 x2.1)) rfl (.p rfl) rfl) ?_
  refine pwl_q rfl rfl rfl (pq_extract (p := .v (.int .i64 x2.2)) rfl (.p rfl) rfl) ?_
  refine pwl_q rfl rfl rfl (pq_assign (p := .v (.int .u64 x2.1)) rfl (.p rfl)) ?_
  refine pwl_q rfl rfl rfl (pq_assign (p := .v (.int .i64 x2.2)) rfl (.p rfl)) ?_
  refine pwl_nil ?_
  (repeat (first | apply pk_block_n | apply pk_seq))
  refine pwc_ret ?_
  (repeat (first | apply pk_seq_ret | apply pk_block_ret | apply pk_mid_ret | apply pk_cut_ret))
  obtain rfl := Option.some.inj h
  exact pret_of (prv_2 (prv1_t rfl) (prv1_t rfl)) PSub.nil ⟨rfl, rfl⟩
/-- math/bits.Rem64 -/
def math_bits_Rem64 (p0 : Int) (p1 : Int) (p2 : Int) : Option Int := Option.bind (nz p2) (fun u1 => Option.bind (math_bits_Div64 (Int.tmod p0 p2) p1 p2) (fun x2 => some x2.2))
set_option maxHeartbeats 4000000 in
theorem math_bits_Rem64_ok {p0 : Int} {p1 : Int} {p2 : Int} {r : Int}  (h : math_bits_Rem64 p0 p1 p2 = some r) : PF 117 [.v (.int .u64 p0), .v (.int .u64 p1), .v (.int .u64 p2)] (.v (.int .u64 r)) := by
  unfold math_bits_Rem64 at h
  refine pf_of ?_
  refine penter Tryz.func117 fk117 rfl Tryz.ntmps117 Tryz.results117 rfl ?_
  refine pwc_seq ?_
  refine pwc_region ?_
  refine pwl_q rfl rfl rfl (pq_assign (p := .v (.int .u64 0)) rfl (.p rfl)) ?_
  refine pwl_nil ?_
  (repeat (first | apply pk_block_n | apply pk_seq))
  refine pwc_seq ?_
  refine pwc_region ?_
  refine pwl_q rfl rfl rfl (pq_move (p := .v (.int .u64 p0)) rfl (.p rfl)) ?_
  refine pwl_q rfl rfl rfl (pq_move (p := .v (.int .u64 p2)) rfl (.p rfl)) ?_
  refine bind_elim h ?_; clear h; intro u1 hu1 h
  refine pwl_q rfl rfl rfl (pq_rem rfl (.p rfl) (.p rfl) (fun _ => nz_some hu1)) ?_
  refine pwl_q rfl rfl rfl (pq_move (p := .v (.int .u64 p1)) rfl (.p rfl)) ?_
  refine pwl_q rfl rfl rfl (pq_move (p := .v (.int .u64 p2)) rfl (.p rfl)) ?_
  refine bind_elim h ?_; clear h; intro x2 hx2 h
  refine pwl_call rfl rfl rfl rfl rfl (math_bits_Div64_ok hx2) ?_
  refine pwl_q rfl rfl rfl (pq_move (p := .tup [.v (.int .u64 x2.1), .v (.int .u64 x2.2)]) rfl (.p rfl)) ?_
  refine pwl_q rfl rfl rfl (pq_extract (p := .v (.int .u64 x2.1)) rfl (.p rfl) rfl) ?_
  refine pwl_q rfl rfl rfl (pq_extract (p := .v (.int .u64 x2.2)) rfl (.p rfl) rfl) ?_
  refine pwl_q rfl rfl rfl (pq_assign (p := .v (.int .u64 x2.1)) rfl (.p rfl)) ?_
  refine pwl_q rfl rfl rfl (pq_assign (p := .v (.int .u64 x2.2)) rfl (.p rfl)) ?_
  refine pwl_nil ?_
  (repeat (first | apply pk_block_n | apply pk_seq))
  refine pwc_seq ?_
  refine pwc_region ?_
  refine pwl_q rfl rfl rfl (pq_move (p := .v (.int .u64 x2.2)) rfl (.p rfl)) ?_
  refine pwl_q rfl rfl rfl (pq_assign (p := .v (.int .u64 x2.2)) rfl (.p rfl)) ?_
  refine pwl_nil ?_
  (repeat (first | apply pk_block_n | apply pk_seq))
  refine pwc_ret ?_
  (repeat (first | apply pk_seq_ret | apply pk_block_ret | apply pk_mid_ret | apply pk_cut_ret))
  obtain rfl := Option.some.inj h
  exact pret_of (prv_1 (prv1_t rfl)) PSub.nil ⟨rfl, rfl⟩
/-- customs/exact.MulMod -/
def exact_MulMod (p0 : Int) (p1 : Int) (p2 : Int) : Option Int := cond (p2 == 0) (some 0) (Option.bind (exact_Mul p0 p1) (fun x2 => Option.bind (math_bits_Rem64 x2.Hi x2.Lo p2) (fun x4 => some x4)))
set_option maxHeartbeats 4000000 in
theorem exact_MulMod_ok {p0 : Int} {p1 : Int} {p2 : Int} {r : Int}  (h : exact_MulMod p0 p1 p2 = some r) : PF 90 [.v (.int .u64 p0), .v (.int .u64 p1), .v (.int .u64 p2)] (.v (.int .u64 r)) := by
  unfold exact_MulMod at h
  refine pf_of ?_
  refine penter Tryz.func90 fk90 rfl Tryz.ntmps90 Tryz.results90 rfl ?_
  refine pwc_seq ?_
  refine pwc_region ?_
  refine pwl_q rfl rfl rfl (pq_assign (p := .v (.int .u64 0)) rfl (.p rfl)) ?_
  refine pwl_nil ?_
  (repeat (first | apply pk_block_n | apply pk_seq))
  refine pwc_seq ?_
  refine pwc_seq ?_
  refine pwc_region ?_
  refine pwl_q rfl rfl rfl (pq_move (p := .v (.int .u64 p2)) rfl (.p rfl)) ?_
  refine pwl_q rfl rfl rfl (pq_cmp rfl (.p rfl) (.p rfl) rfl) ?_
  refine pwl_nil ?_
  (repeat (first | apply pk_block_n | apply pk_seq))
  refine pwc_cond rfl (fun hc1 => ?_) (fun hc1 => ?_)
  · replace h := cond_t hc1 h
    refine pwc_seq ?_
    refine pwc_region ?_
    refine pwl_q rfl rfl rfl (pq_assign (p := .v (.int .u64 0)) rfl (.p rfl)) ?_
    refine pwl_nil ?_
    (repeat (first | apply pk_block_n | apply pk_seq))
    refine pwc_ret ?_
    (repeat (first | apply pk_seq_ret | apply pk_block_ret | apply pk_mid_ret | apply pk_cut_ret))
    obtain rfl := Option.some.inj h
    exact pret_of (prv_1 (prv1_t rfl)) PSub.nil ⟨rfl, rfl⟩
  · replace h := cond_f hc1 h
    refine pwc_skip ?_
    (repeat (first | apply pk_block_n | apply pk_seq))
    refine pwc_seq ?_
    refine pwc_region ?_
    refine pwl_q rfl rfl rfl (pq_move (p := .v (.int .u64 p0)) rfl (.p rfl)) ?_
    refine pwl_q rfl rfl rfl (pq_move (p := .v (.int .u64 p1)) rfl (.p rfl)) ?_
    refine bind_elim h ?_; clear h; intro x2 hx2 h
    refine pwl_call rfl rfl rfl rfl rfl (exact_Mul_ok hx2) ?_
    refine pwl_l rfl rfl rfl (pl_alloc (cs := [.v (.int .u64 0), .v (.int .u64 0)]) rfl rfl rfl rfl (fun b3 => ?_))
    refine pwl_l0 rfl rfl (pl_store (vs := [.v (.int .u64 x2.Hi), .v (.int .u64 x2.Lo)]) rfl rfl rfl rfl rfl (by (repeat (first | exact PUpd.h | apply PUpd.t))) (by (repeat (first | exact PSplice.nil | apply PSplice.c | apply PSplice.t))) ?_)
    refine pwl_nil ?_
    (repeat (first | apply pk_block_n | apply pk_seq))
    refine pwc_seq ?_
    refine pwc_region ?_
    refine pwl_q rfl rfl rfl (pq_fieldAddr rfl rfl rfl rfl rfl (.p rfl)) ?_
    refine pwl_q rfl rfl rfl (pq_load_b (p := .v (.int .u64 x2.Hi)) rfl (.p rfl) (by (repeat (first | exact List.Mem.head _ | apply List.Mem.tail))) rfl) ?_
    refine pwl_q rfl rfl rfl (pq_fieldAddr rfl rfl rfl rfl rfl (.p rfl)) ?_
    refine pwl_q rfl rfl rfl (pq_load_b (p := .v (.int .u64 x2.Lo)) rfl (.p rfl) (by (repeat (first | exact List.Mem.head _ | apply List.Mem.tail))) rfl) ?_
    refine pwl_q rfl rfl rfl (pq_move (p := .v (.int .u64 p2)) rfl (.p rfl)) ?_
    refine bind_elim h ?_; clear h; intro x4 hx4 h
    refine pwl_call rfl rfl rfl rfl rfl (math_bits_Rem64_ok hx4) ?_
    refine pwl_q rfl rfl rfl (pq_assign (p := .v (.int .u64 x4)) rfl (.p rfl)) ?_
    refine pwl_nil ?_
    (repeat (first | apply pk_block_n | apply pk_seq))
    refine pwc_ret ?_
    (repeat (first | apply pk_seq_ret | apply pk_block_ret | apply pk_mid_ret | apply pk_cut_ret))
    obtain rfl := Option.some.inj h
    exact pret_of (prv_1 (prv1_t rfl)) PSub.nil ⟨rfl, rfl⟩
/-- customs/apportion.Share -/
def apportion_Share (p0 : Int) (p1 : (List Int)) : Option ((List Int) × Int) := Option.bind (apportion_check p0 p1) (fun x1 => cond (x1 != 0) (some ([], x1)) (Option.bind (apportion_sumOf p1) (fun x3 => Option.bind (cond (x3 == 0) (some (p1.length : Int)) (some x3)) (fun v4 => Option.bind (mk 24 (⟨(0 : Int), (0 : Int), (0 : Int)⟩ : Tapportion_portion) (p1.length : Int)) (fun l7 => Option.bind (loopF (S := Int × (List Tapportion_portion) × Int) (T := (Int × (List Tapportion_portion))) (fun (v10, l12, v13) => cond (decide (v13 < (p1.length : Int))) (Option.bind (idx p1 v13) (fun m20 => Option.bind (cond (x3 == 0) (some 1) (some m20)) (fun v22 => Option.bind (exact_MulDiv (IntKind.u64.wrap p0) (IntKind.u64.wrap v22) (IntKind.u64.wrap v4) 0) (fun x25 => Option.bind (exact_MulMod (IntKind.u64.wrap p0) (IntKind.u64.wrap v22) (IntKind.u64.wrap v4)) (fun x26 => Option.bind (idx l12 v13) (fun m27 => lb ((IntKind.i64.wrap (v10 - (IntKind.i64.wrap x25.1)))) (fun w29 => some (.inl (w29, (l12.set v13.toNat (⟨v13, x25.1, x26⟩ : Tapportion_portion)), (IntKind.i64.wrap (v13 + 1))))))))))) (some (.inr (v10, l12)))) FUEL (p0, l7, 0)) (fun (v14, l16) => Option.bind (apportion_ranking_sort (⟨()⟩ : Tapportion_ranking) l16) (fun x30 => Option.bind (mk 8 (0 : Int) (p1.length : Int)) (fun l31 => Option.bind (loopF (S := (List Int) × Int) (T := ((List Int))) (fun (l35, v36) => cond (decide (v36 < ((l7.length : Nat) : Int))) (Option.bind (Option.bind (idx x30 v36) (fun m46 => Option.bind (idx l35 m46.index_) (fun m48 => cond (decide (v36 < v14)) (Option.bind (idx (l35.set m46.index_.toNat (IntKind.i64.wrap m46.share)) m46.index_) (fun m51 => Option.bind (idx (l35.set m46.index_.toNat (IntKind.i64.wrap m46.share)) m46.index_) (fun m52 => some ((l35.set m46.index_.toNat (IntKind.i64.wrap m46.share)).set m46.index_.toNat (IntKind.i64.wrap (m51 + 1)))))) (some (l35.set m46.index_.toNat (IntKind.i64.wrap m46.share)))))) (fun l43 => some (.inl (l43, (IntKind.i64.wrap (v36 + 1)))))) (some (.inr l35))) FUEL (l31, 0)) (fun l38 => some (l38, 0))))))))))
set_option maxHeartbeats 4000000 in
theorem apportion_Share_ok {p0 : Int} {p1 : (List Int)} {r : ((List Int) × Int)}  (h : apportion_Share p0 p1 = some r) : PF 60 [.v (.int .i64 p0), .slc (List.map eI p1)] (.tup [.slc (List.map eI r.1), .v (.int .i64 r.2)]) := by
  unfold apportion_Share at h
  refine pf_of ?_
  refine penter Tryz.func60 fk60 rfl Tryz.ntmps60 Tryz.results60 rfl ?_
  refine pwc_seq ?_
  refine pwc_region ?_
  refine pwl_q rfl rfl rfl (pq_assign (p := .v (.slice none 0 0)) rfl (.p rfl)) ?_
  refine pwl_q rfl rfl rfl (pq_assign (p := .v (.int .i64 0)) rfl (.p rfl)) ?_
  refine pwl_nil ?_
  (repeat (first | apply pk_block_n | apply pk_seq))
  refine pwc_seq ?_
  refine pwc_seq ?_
  refine pwc_region ?_
  refine pwl_q rfl rfl rfl (pq_move (p := .v (.int .i64 p0)) rfl (.p rfl)) ?_
  refine pwl_q rfl rfl rfl (pq_move (p := .slc (List.map eI p1)) rfl (.p rfl)) ?_
  refine bind_elim h ?_; clear h; intro x1 hx1 h
  refine pwl_call rfl rfl rfl rfl rfl (apportion_check_ok hx1) ?_
  refine pwl_q rfl rfl rfl (pq_assign (p := .v (.int .i64 x1)) rfl (.p rfl)) ?_
  refine pwl_nil ?_
  (repeat (first | apply pk_block_n | apply pk_seq))
  refine pwc_seq ?_
  refine pwc_region ?_
  refine pwl_q rfl rfl rfl (pq_move (p := .v (.int .i64 x1)) rfl (.p rfl)) ?_
  refine pwl_q rfl rfl rfl (pq_cmp rfl (.p rfl) (.p rfl) rfl) ?_
  refine pwl_nil ?_
  (repeat (first | apply pk_block_n | apply pk_seq))
  refine pwc_cond rfl (fun hc2 => ?_) (fun hc2 => ?_)
  · replace h := cond_t hc2 h
    refine pwc_seq ?_
    refine pwc_region ?_
    refine pwl_q rfl rfl rfl (pq_move (p := .v (.int .i64 x1)) rfl (.p rfl)) ?_
    refine pwl_q rfl rfl rfl (pq_assign (p := .v (.slice none 0 0)) rfl (.p rfl)) ?_
    refine pwl_q rfl rfl rfl (pq_assign (p := .v (.int .i64 x1)) rfl (.p rfl)) ?_
    refine pwl_nil ?_
    (repeat (first | apply pk_block_n | apply pk_seq))
    refine pwc_nil 4 rfl ?_
    refine pwc_ret ?_
    (repeat (first | apply pk_seq_ret | apply pk_block_ret | apply pk_mid_ret | apply pk_cut_ret))
    obtain rfl := Option.some.inj h
    exact pret_of (prv_2 (prv1_t rfl) (prv1_t rfl)) PSub.nil ⟨rfl, rfl⟩
  · replace h := cond_f hc2 h
    refine pwc_skip ?_
    (repeat (first | apply pk_block_n | apply pk_seq))
    refine pwc_seq ?_
    refine pwc_region ?_
    refine pwl_q rfl rfl rfl (pq_move (p := .slc (List.map eI p1)) rfl (.p rfl)) ?_
    refine bind_elim h ?_; clear h; intro x3 hx3 h
    refine pwl_call rfl rfl rfl rfl rfl (apportion_sumOf_ok hx3) ?_
    refine pwl_q rfl rfl rfl (pq_assign (p := .v (.int .i64 x3)) rfl (.p rfl)) ?_
    refine pwl_nil ?_
    (repeat (first | apply pk_block_n | apply pk_seq))
    refine pwc_seq ?_
    refine pwc_region ?_
    refine pwl_q rfl rfl rfl (pq_move (p := .v (.int .i64 x3)) rfl (.p rfl)) ?_
    refine pwl_q rfl rfl rfl (pq_cmp rfl (.p rfl) (.p rfl) rfl) ?_
    refine pwl_q rfl rfl rfl (pq_assign (p := .v (.bool (x3 == 0))) rfl (.p rfl)) ?_
    refine pwl_nil ?_
    (repeat (first | apply pk_block_n | apply pk_seq))
    refine pwc_seq ?_
    refine pwc_seq ?_
    refine pwc_region ?_
    refine pwl_q rfl rfl rfl (pq_move (p := .v (.bool (x3 == 0))) rfl (.p rfl)) ?_
    refine pwl_nil ?_
    (repeat (first | apply pk_block_n | apply pk_seq))
    refine bind_elim h ?_; clear h; intro q5 hq5 h
    refine pwc_join (Y := (Unit) × (Int)) (fun (_, v4) => [(0, .v (.int .i64 p0)), (1, .slc (List.map eI p1)), (7, .v (.int .i64 v4)), (8, .v (.bool (x3 == 0)))]) (fun (_, v4) => []) (fun (_, v4) => q5 = v4) ?_ ?_
    · skip
      refine pwc_cond rfl (fun hc6 => ?_) (fun hc6 => ?_)
      · replace hq5 := cond_t hc6 hq5
        refine pwc_region ?_
        refine pwl_q rfl rfl rfl (pq_move (p := .slc (List.map eI p1)) rfl (.p rfl)) ?_
        refine pwl_q rfl rfl rfl (pq_lenT (enc := eI) rfl rfl (.p rfl)) ?_
        refine pwl_q rfl rfl rfl (pq_assign (p := .v (.int .i64 (p1.length : Int))) rfl (.p rfl)) ?_
        refine pwl_nil ?_
        obtain rfl := Option.some.inj hq5
        exact pk_mid ((), (p1.length : Int)) (by (repeat (first | exact PHolds.nil | apply PHolds.cons rfl))) (by (repeat (first | exact PSub.nil | (apply PSub.cons; (focus (repeat (first | exact PPick.h | apply PPick.t))))))) rfl
      · replace hq5 := cond_f hc6 hq5
        refine pwc_skip ?_
        obtain rfl := Option.some.inj hq5
        exact pk_mid ((), x3) (by (repeat (first | exact PHolds.nil | apply PHolds.cons rfl))) (by (repeat (first | exact PSub.nil | (apply PSub.cons; (focus (repeat (first | exact PPick.h | apply PPick.t))))))) rfl
    · rintro ⟨_, v4⟩ τ hz; (try dsimp only at hz); subst q5; (try dsimp only at h); dsimp only [pupds]
      refine pwc_seq ?_
      refine pwc_region ?_
      refine pwl_q rfl rfl rfl (pq_move (p := .v (.int .i64 p0)) rfl (.p rfl)) ?_
      refine pwl_q rfl rfl rfl (pq_assign (p := .v (.int .i64 p0)) rfl (.p rfl)) ?_
      refine pwl_nil ?_
      (repeat (first | apply pk_block_n | apply pk_seq))
      refine pwc_seq ?_
      refine pwc_region ?_
      refine pwl_q rfl rfl rfl (pq_move (p := .slc (List.map eI p1)) rfl (.p rfl)) ?_
      refine pwl_q rfl rfl rfl (pq_lenT (enc := eI) rfl rfl (.p rfl)) ?_
      refine bind_elim h ?_; clear h; intro l7 hl7 h
      refine pwl_l rfl rfl rfl (pl_make (enc := Tapportion_portion.enc) rfl rfl rfl rfl rfl rfl rfl rfl rfl hl7 (fun b8 => ?_))
      refine pwl_q rfl rfl rfl (pq_assign (p := .v (.slice (some ⟨b8, 0, none⟩) l7.length l7.length)) rfl (.p rfl)) ?_
      refine pwl_nil ?_
      (repeat (first | apply pk_block_n | apply pk_seq))
      refine pwc_seq ?_
      refine pwc_seq ?_
      refine pwc_region ?_
      refine pwl_q rfl rfl rfl (pq_move (p := .slc (List.map eI p1)) rfl (.p rfl)) ?_
      refine pwl_q rfl rfl rfl (pq_lenT (enc := eI) rfl rfl (.p rfl)) ?_
      refine pwl_q rfl rfl rfl (pq_move (p := .v (.int .i64 0)) rfl (.p rfl)) ?_
      refine pwl_nil ?_
      (repeat (first | apply pk_block_n | apply pk_seq))
      refine bind_elim h ?_; clear h; intro q18 hq18 h
      refine pwc_join (Y := (Unit) × (Int × (List Tapportion_portion))) (fun (_, (v14, l16)) => [(1, .slc (List.map eI p1)), (9, .v (.int .i64 v14)), (10, .v (.slice (some ⟨b8, 0, none⟩) l7.length l7.length))]) (fun (_, (v14, l16)) => [PRes.row (some ⟨b8, 0, none⟩) l7.length l7.length 144 3 (List.map Tapportion_portion.enc l16)]) (fun (_, (v14, l16)) => q18 = (v14, l16)) ?_ ?_
      · refine pwc_block ?_
        refine pwc_loopF (Y := Unit) (S := Int × (List Tapportion_portion) × Int) _ hq18 (fun _ (v10, l12, v13) => [(0, .v (.int .i64 p0)), (1, .slc (List.map eI p1)), (7, .v (.int .i64 v4)), (8, .v (.bool (x3 == 0))), (9, .v (.int .i64 v10)), (10, .v (.slice (some ⟨b8, 0, none⟩) l7.length l7.length)), (36, .slc (List.map eI p1)), (37, .v (.int .i64 (p1.length : Int))), (38, .v (.int .i64 v13))]) (fun _ (v10, l12, v13) => [PRes.row (some ⟨b8, 0, none⟩) l7.length l7.length 144 3 (List.map Tapportion_portion.enc l12)]) () (by (repeat (first | exact PHolds.nil | apply PHolds.cons rfl))) (by (repeat (first | exact PSub.nil | (apply PSub.cons; (focus (repeat (first | exact PPick.h | apply PPick.t))))))) ?_
        rintro _ ⟨v10, l12, v13⟩ o τ hb17; (try dsimp only at hb17); dsimp only [pupds]
        refine pwc_seq ?_
        refine pwc_region ?_
        refine pwl_q rfl rfl rfl (pq_cmp rfl (.p rfl) (.p rfl) rfl) ?_
        refine pwl_nil ?_
        (repeat (first | apply pk_block_n | apply pk_seq))
        refine pwc_seq ?_
        refine pwc_cond rfl (fun hc19 => ?_) (fun hc19 => ?_)
        · replace hb17 := cond_t hc19 hb17
          refine pwc_skip ?_
          (repeat (first | apply pk_block_n | apply pk_seq))
          refine pwc_seq ?_
          refine pwc_block ?_
          refine pwc_seq ?_
          refine pwc_region ?_
          refine pwl_q rfl rfl rfl (pq_move (p := .v (.int .i64 v13)) rfl (.p rfl)) ?_
          refine bind_elim hb17 ?_; clear hb17; intro m20 hm20 hb17
          refine pwl_q rfl rfl rfl (pq_index (enc := eI) rfl rfl rfl (fun _ => rfl) (.p rfl) (.p rfl) (fun _ => hm20)) ?_
          refine pwl_q rfl rfl rfl (pq_load_r (p := .v (.int .i64 m20)) rfl (.p rfl) rfl) ?_
          refine pwl_q rfl rfl rfl (pq_assign (p := .v (.int .i64 v13)) rfl (.p rfl)) ?_
          refine pwl_q rfl rfl rfl (pq_assign (p := .v (.int .i64 m20)) rfl (.p rfl)) ?_
          refine pwl_nil ?_
          (repeat (first | apply pk_block_n | apply pk_seq))
          refine pwc_seq ?_
          refine pwc_seq ?_
          refine pwc_region ?_
          refine pwl_q rfl rfl rfl (pq_move (p := .v (.bool (x3 == 0))) rfl (.p rfl)) ?_
          refine pwl_nil ?_
          (repeat (first | apply pk_block_n | apply pk_seq))
          refine bind_elim hb17 ?_; clear hb17; intro q23 hq23 hb17
          refine pwc_join (Y := (Unit) × (Int)) (fun (_, v22) => [(0, .v (.int .i64 p0)), (1, .slc (List.map eI p1)), (7, .v (.int .i64 v4)), (8, .v (.bool (x3 == 0))), (9, .v (.int .i64 v10)), (10, .v (.slice (some ⟨b8, 0, none⟩) l7.length l7.length)), (11, .v (.int .i64 v13)), (12, .v (.int .i64 v22)), (36, .slc (List.map eI p1)), (37, .v (.int .i64 (p1.length : Int))), (38, .v (.int .i64 v13))]) (fun (_, v22) => [PRes.row (some ⟨b8, 0, none⟩) l7.length l7.length 144 3 (List.map Tapportion_portion.enc l12)]) (fun (_, v22) => q23 = v22) ?_ ?_
          · skip
            refine pwc_cond rfl (fun hc24 => ?_) (fun hc24 => ?_)
            · replace hq23 := cond_t hc24 hq23
              refine pwc_region ?_
              refine pwl_q rfl rfl rfl (pq_assign (p := .v (.int .i64 1)) rfl (.p rfl)) ?_
              refine pwl_nil ?_
              obtain rfl := Option.some.inj hq23
              exact pk_mid ((), 1) (by (repeat (first | exact PHolds.nil | apply PHolds.cons rfl))) (by (repeat (first | exact PSub.nil | (apply PSub.cons; (focus (repeat (first | exact PPick.h | apply PPick.t))))))) rfl
            · replace hq23 := cond_f hc24 hq23
              refine pwc_skip ?_
              obtain rfl := Option.some.inj hq23
              exact pk_mid ((), m20) (by (repeat (first | exact PHolds.nil | apply PHolds.cons rfl))) (by (repeat (first | exact PSub.nil | (apply PSub.cons; (focus (repeat (first | exact PPick.h | apply PPick.t))))))) rfl
          · rintro ⟨_, v22⟩ τ hz; (try dsimp only at hz); subst q23; (try dsimp only at hb17); dsimp only [pupds]
            refine pwc_seq ?_
            refine pwc_region ?_
            refine pwl_q rfl rfl rfl (pq_move (p := .v (.int .i64 p0)) rfl (.p rfl)) ?_
            refine pwl_q rfl rfl rfl (pq_conv rfl rfl rfl (.p rfl)) ?_
            refine pwl_q rfl rfl rfl (pq_move (p := .v (.int .i64 v22)) rfl (.p rfl)) ?_
            refine pwl_q rfl rfl rfl (pq_conv rfl rfl rfl (.p rfl)) ?_
            refine pwl_q rfl rfl rfl (pq_move (p := .v (.int .i64 v4)) rfl (.p rfl)) ?_
            refine pwl_q rfl rfl rfl (pq_conv rfl rfl rfl (.p rfl)) ?_
            refine bind_elim hb17 ?_; clear hb17; intro x25 hx25 hb17
            refine pwl_call rfl rfl rfl rfl rfl (exact_MulDiv_ok hx25) ?_
            refine pwl_q rfl rfl rfl (pq_move (p := .tup [.v (.int .u64 x25.1), .v (.int .i64 x25.2)]) rfl (.p rfl)) ?_
            refine pwl_q rfl rfl rfl (pq_extract (p := .v (.int .u64 x25.1)) rfl (.p rfl) rfl) ?_
            refine pwl_q rfl rfl rfl (pq_extract (p := .v (.int .i64 x25.2)) rfl (.p rfl) rfl) ?_
            refine pwl_q rfl rfl rfl (pq_assign (p := .v (.int .u64 x25.1)) rfl (.p rfl)) ?_
            refine pwl_q rfl rfl rfl (pq_assign (p := .v (.int .i64 x25.2)) rfl (.p rfl)) ?_
            refine pwl_nil ?_
            (repeat (first | apply pk_block_n | apply pk_seq))
            refine pwc_seq ?_
            refine pwc_region ?_
            refine pwl_q rfl rfl rfl (pq_move (p := .v (.int .i64 p0)) rfl (.p rfl)) ?_
            refine pwl_q rfl rfl rfl (pq_conv rfl rfl rfl (.p rfl)) ?_
            refine pwl_q rfl rfl rfl (pq_move (p := .v (.int .i64 v22)) rfl (.p rfl)) ?_
            refine pwl_q rfl rfl rfl (pq_conv rfl rfl rfl (.p rfl)) ?_
            refine pwl_q rfl rfl rfl (pq_move (p := .v (.int .i64 v4)) rfl (.p rfl)) ?_
            refine pwl_q rfl rfl rfl (pq_conv rfl rfl rfl (.p rfl)) ?_
            refine bind_elim hb17 ?_; clear hb17; intro x26 hx26 hb17
            refine pwl_call rfl rfl rfl rfl rfl (exact_MulMod_ok hx26) ?_
            refine pwl_q rfl rfl rfl (pq_assign (p := .v (.int .u64 x26)) rfl (.p rfl)) ?_
            refine pwl_nil ?_
            (repeat (first | apply pk_block_n | apply pk_seq))
            refine pwc_seq ?_
            refine pwc_region ?_
            refine pwl_q rfl rfl rfl (pq_move (p := .v (.slice (some ⟨b8, 0, none⟩) l7.length l7.length)) rfl (.p rfl)) ?_
            refine pwl_q rfl rfl rfl (pq_move (p := .v (.int .i64 v13)) rfl (.p rfl)) ?_
            refine pwl_q rfl rfl rfl (pq_move (p := .v (.int .i64 v13)) rfl (.p rfl)) ?_
            refine pwl_q rfl rfl rfl (pq_move (p := .v (.int .u64 x25.1)) rfl (.p rfl)) ?_
            refine pwl_q rfl rfl rfl (pq_move (p := .v (.int .u64 x26)) rfl (.p rfl)) ?_
            refine pwl_q rfl rfl rfl (pq_build (cs := [.v (.int .i64 v13), .v (.int .u64 x25.1), .v (.int .u64 x26)]) rfl rfl rfl rfl rfl rfl rfl (by (repeat (first | exact PFill.nil | (apply PFill.cons rfl rfl rfl rfl; (focus (repeat (first | exact PSplice.nil | apply PSplice.c | apply PSplice.t)))))))) ?_
            refine bind_elim hb17 ?_; clear hb17; intro m27 hm27 hb17
            refine pwl_q rfl rfl rfl (pq_indexO (enc := Tapportion_portion.enc) (xs := l12) rfl rfl rfl (.p rfl) (by (repeat (first | exact List.Mem.head _ | apply List.Mem.tail))) (.p rfl) (fun _ => hm27)) ?_
            refine pwl_l0 rfl rfl (pl_store_o (enc := Tapportion_portion.enc) (xs := l12) (a := (some ⟨b8, 0, none⟩)) v13 0 m27 (⟨v13, x25.1, x26⟩ : Tapportion_portion) rfl rfl rfl rfl (fun _ => rfl) rfl rfl hm27 (by (repeat (first | exact PSplice.nil | apply PSplice.c | apply PSplice.t))) (by (repeat (first | exact PUpd.h | apply PUpd.t))) ?_)
            refine pwl_nil ?_
            (repeat (first | apply pk_block_n | apply pk_seq))
            refine pwc_region ?_
            refine pwl_q rfl rfl rfl (pq_move (p := .v (.int .i64 v10)) rfl (.p rfl)) ?_
            refine pwl_q rfl rfl rfl (pq_move (p := .v (.int .u64 x25.1)) rfl (.p rfl)) ?_
            refine pwl_q rfl rfl rfl (pq_conv rfl rfl rfl (.p rfl)) ?_
            refine pwl_q rfl rfl rfl (pq_arith rfl (.p rfl) (.p rfl) rfl) ?_
            refine lb_elim hb17 ?_; clear hb17; intro w29 hw29 hb17
            refine pwl_q rfl rfl rfl (pq_assign rfl (.p (congrArg (fun z => PV.v (Value.int .i64 z)) hw29))) ?_
            refine pwl_nil ?_
            refine pk_block_n ?_
            (repeat (first | apply pk_block_n | apply pk_seq))
            refine pwc_region ?_
            refine pwl_q rfl rfl rfl (pq_arith rfl (.p rfl) (.p rfl) rfl) ?_
            refine pwl_q rfl rfl rfl (pq_move (p := .v (.int .i64 (IntKind.i64.wrap (v13 + 1)))) rfl (.p rfl)) ?_
            refine pwl_nil ?_
            (repeat apply pk_block_n)
            exact pk_loop hb17 () (by (repeat (first | exact PHolds.nil | apply PHolds.cons rfl))) (by (repeat (first | exact PSub.nil | (apply PSub.cons; (focus (repeat (first | exact PPick.h | apply PPick.t)))))))
        · replace hb17 := cond_f hc19 hb17
          refine pwc_exit ?_
          (repeat (first | apply pk_seq_exit | apply pk_mid_exit | apply pk_cut_exit | apply pk_block_ne rfl))
          refine pk_loop_exit hb17 (fun ht => ?_)
          refine pk_block_eq rfl ?_
          exact pk_mid ((), (v10, l12)) (by (repeat (first | exact PHolds.nil | apply PHolds.cons rfl))) (by (repeat (first | exact PSub.nil | (apply PSub.cons; (focus (repeat (first | exact PPick.h | apply PPick.t))))))) ht.symm
      · rintro ⟨_, ⟨v14, l16⟩⟩ τ hz; (try dsimp only at hz); subst q18; (try dsimp only at h); dsimp only [pupds]
        refine pwc_seq ?_
        refine pwc_region ?_
        refine pwl_q rfl rfl rfl (pq_build (cs := [.fn 91 []]) rfl rfl rfl rfl rfl rfl rfl (by (repeat (first | exact PFill.nil | (apply PFill.cons rfl rfl rfl rfl; (focus (repeat (first | exact PSplice.nil | apply PSplice.c | apply PSplice.t)))))))) ?_
        refine pwl_q rfl rfl rfl (pq_move (p := .v (.slice (some ⟨b8, 0, none⟩) l7.length l7.length)) rfl (.p rfl)) ?_
        refine bind_elim h ?_; clear h; intro x30 hx30 h
        refine pwl_l rfl rfl rfl (pl_callR rfl rfl (ρ1 := [_]) (perm_pick (by (repeat (first | exact PPick.h | apply PPick.t))) (List.Perm.refl _)) (apportion_ranking_sort_ok hx30) ?_); rintro _ _ ⟨rfl, rfl⟩
        refine pwl_nil ?_
        (repeat (first | apply pk_block_n | apply pk_seq))
        refine pwc_seq ?_
        refine pwc_region ?_
        refine pwl_q rfl rfl rfl (pq_move (p := .slc (List.map eI p1)) rfl (.p rfl)) ?_
        refine pwl_q rfl rfl rfl (pq_lenT (enc := eI) rfl rfl (.p rfl)) ?_
        refine bind_elim h ?_; clear h; intro l31 hl31 h
        refine pwl_l rfl rfl rfl (pl_make (enc := eI) rfl rfl rfl rfl rfl rfl rfl rfl rfl hl31 (fun b32 => ?_))
        refine pwl_q rfl rfl rfl (pq_assign (p := .v (.slice (some ⟨b32, 0, none⟩) l31.length l31.length)) rfl (.p rfl)) ?_
        refine pwl_nil ?_
        (repeat (first | apply pk_block_n | apply pk_seq))
        refine pwc_seq ?_
        refine pwc_seq ?_
        refine pwc_region ?_
        refine pwl_q rfl rfl rfl (pq_move (p := .v (.slice (some ⟨b8, 0, none⟩) l7.length l7.length)) rfl (.p rfl)) ?_
        refine pwl_q rfl rfl rfl (pq_lenO rfl rfl (.p rfl)) ?_
        refine pwl_q rfl rfl rfl (pq_move (p := .v (.int .i64 0)) rfl (.p rfl)) ?_
        refine pwl_nil ?_
        (repeat (first | apply pk_block_n | apply pk_seq))
        refine bind_elim h ?_; clear h; intro q40 hq40 h
        refine pwc_join (Y := (Unit) × ((List Int))) (fun (_, l38) => [(16, .v (.slice (some ⟨b32, 0, none⟩) l31.length l31.length))]) (fun (_, l38) => [PRes.row (some ⟨b32, 0, none⟩) l31.length l31.length 3 1 (List.map eI l38)]) (fun (_, l38) => q40 = l38) ?_ ?_
        · refine pwc_block ?_
          refine pwc_loopF (Y := Unit) (S := (List Int) × Int) _ hq40 (fun _ (l35, v36) => [(9, .v (.int .i64 v14)), (16, .v (.slice (some ⟨b32, 0, none⟩) l31.length l31.length)), (79, .v (.slice (some ⟨b8, 0, none⟩) l7.length l7.length)), (80, .v (.int .i64 ((l7.length : Nat) : Int))), (81, .v (.int .i64 v36))]) (fun _ (l35, v36) => [PRes.row (some ⟨b8, 0, none⟩) l7.length l7.length 144 3 (List.map Tapportion_portion.enc x30), PRes.row (some ⟨b32, 0, none⟩) l31.length l31.length 3 1 (List.map eI l35)]) () (by (repeat (first | exact PHolds.nil | apply PHolds.cons rfl))) (by (repeat (first | exact PSub.nil | (apply PSub.cons; (focus (repeat (first | exact PPick.h | apply PPick.t))))))) ?_
          rintro _ ⟨l35, v36⟩ o τ hb39; (try dsimp only at hb39); dsimp only [pupds]
          refine pwc_seq ?_
          refine pwc_region ?_
          refine pwl_q rfl rfl rfl (pq_cmp rfl (.p rfl) (.p rfl) rfl) ?_
          refine pwl_nil ?_
          (repeat (first | apply pk_block_n | apply pk_seq))
          refine pwc_seq ?_
          refine pwc_cond rfl (fun hc41 => ?_) (fun hc41 => ?_)
          · replace hb39 := cond_t hc41 hb39
            refine pwc_skip ?_
            (repeat (first | apply pk_block_n | apply pk_seq))
            refine pwc_seq ?_
            refine bind_elim hb39 ?_; clear hb39; intro q45 hq45 hb39
            refine pwc_join (Y := (Unit) × ((List Int))) (fun (_, l43) => [(9, .v (.int .i64 v14)), (16, .v (.slice (some ⟨b32, 0, none⟩) l31.length l31.length)), (79, .v (.slice (some ⟨b8, 0, none⟩) l7.length l7.length)), (80, .v (.int .i64 ((l7.length : Nat) : Int))), (81, .v (.int .i64 v36))]) (fun (_, l43) => [PRes.row (some ⟨b32, 0, none⟩) l31.length l31.length 3 1 (List.map eI l43), PRes.row (some ⟨b8, 0, none⟩) l7.length l7.length 144 3 (List.map Tapportion_portion.enc x30)]) (fun (_, l43) => q45 = l43) ?_ ?_
            · skip
              refine pwc_block ?_
              refine pwc_seq ?_
              refine pwc_region ?_
              refine pwl_q rfl rfl rfl (pq_move (p := .v (.int .i64 v36)) rfl (.p rfl)) ?_
              refine bind_elim hq45 ?_; clear hq45; intro m46 hm46 hq45
              refine pwl_q rfl rfl rfl (pq_indexO (enc := Tapportion_portion.enc) (xs := x30) rfl rfl rfl (.p rfl) (by (repeat (first | exact List.Mem.head _ | apply List.Mem.tail))) (.p rfl) (fun _ => hm46)) ?_
              refine pwl_q rfl rfl rfl (pq_load_o (p := .agg [.v (.int .i64 m46.index_), .v (.int .u64 m46.share), .v (.int .u64 m46.rest)]) (enc := Tapportion_portion.enc) (xs := x30) (a := (some ⟨b8, 0, none⟩)) v36 0 m46 rfl (.p rfl) rfl (by (repeat (first | exact List.Mem.head _ | apply List.Mem.tail))) (fun _ => hm46) rfl) ?_
              refine pwl_l rfl rfl rfl (pl_alloc (cs := [.v (.int .i64 0), .v (.int .u64 0), .v (.int .u64 0)]) rfl rfl rfl rfl (fun b47 => ?_))
              refine pwl_q rfl rfl rfl (pq_assign (p := .v (.int .i64 v36)) rfl (.p rfl)) ?_
              refine pwl_l0 rfl rfl (pl_store (vs := [.v (.int .i64 m46.index_), .v (.int .u64 m46.share), .v (.int .u64 m46.rest)]) rfl rfl rfl rfl rfl (by (repeat (first | exact PUpd.h | apply PUpd.t))) (by (repeat (first | exact PSplice.nil | apply PSplice.c | apply PSplice.t))) ?_)
              refine pwl_nil ?_
              (repeat (first | apply pk_block_n | apply pk_seq))
              refine pwc_seq ?_
              refine pwc_region ?_
              refine pwl_q rfl rfl rfl (pq_move (p := .v (.slice (some ⟨b32, 0, none⟩) l31.length l31.length)) rfl (.p rfl)) ?_
              refine pwl_q rfl rfl rfl (pq_fieldAddr rfl rfl rfl rfl rfl (.p rfl)) ?_
              refine pwl_q rfl rfl rfl (pq_load_b (p := .v (.int .i64 m46.index_)) rfl (.p rfl) (by (repeat (first | exact List.Mem.head _ | apply List.Mem.tail))) rfl) ?_
              refine pwl_q rfl rfl rfl (pq_fieldAddr rfl rfl rfl rfl rfl (.p rfl)) ?_
              refine pwl_q rfl rfl rfl (pq_load_b (p := .v (.int .u64 m46.share)) rfl (.p rfl) (by (repeat (first | exact List.Mem.head _ | apply List.Mem.tail))) rfl) ?_
              refine pwl_q rfl rfl rfl (pq_conv rfl rfl rfl (.p rfl)) ?_
              refine bind_elim hq45 ?_; clear hq45; intro m48 hm48 hq45
              refine pwl_q rfl rfl rfl (pq_indexO (enc := eI) (xs := l35) rfl rfl rfl (.p rfl) (by (repeat (first | exact List.Mem.head _ | apply List.Mem.tail))) (.p rfl) (fun _ => hm48)) ?_
              refine pwl_l0 rfl rfl (pl_store_o (enc := eI) (xs := l35) (a := (some ⟨b32, 0, none⟩)) m46.index_ 0 m48 (IntKind.i64.wrap m46.share) rfl rfl rfl rfl (fun _ => rfl) rfl rfl hm48 (by (repeat (first | exact PSplice.nil | apply PSplice.c | apply PSplice.t))) (by (repeat (first | exact PUpd.h | apply PUpd.t))) ?_)
              refine pwl_nil ?_
              (repeat (first | apply pk_block_n | apply pk_seq))
              refine pwc_seq ?_
              refine pwc_region ?_
              refine pwl_q rfl rfl rfl (pq_move (p := .v (.int .i64 v36)) rfl (.p rfl)) ?_
              refine pwl_q rfl rfl rfl (pq_move (p := .v (.int .i64 v14)) rfl (.p rfl)) ?_
              refine pwl_q rfl rfl rfl (pq_cmp rfl (.p rfl) (.p rfl) rfl) ?_
              refine pwl_nil ?_
              (repeat (first | apply pk_block_n | apply pk_seq))
              refine pwc_cond rfl (fun hc50 => ?_) (fun hc50 => ?_)
              · replace hq45 := cond_t hc50 hq45
                refine pwc_region ?_
                refine pwl_q rfl rfl rfl (pq_move (p := .v (.slice (some ⟨b32, 0, none⟩) l31.length l31.length)) rfl (.p rfl)) ?_
                refine pwl_q rfl rfl rfl (pq_fieldAddr rfl rfl rfl rfl rfl (.p rfl)) ?_
                refine pwl_q rfl rfl rfl (pq_load_b (p := .v (.int .i64 m46.index_)) rfl (.p rfl) (by (repeat (first | exact List.Mem.head _ | apply List.Mem.tail))) rfl) ?_
                refine bind_elim hq45 ?_; clear hq45; intro m51 hm51 hq45
                refine pwl_q rfl rfl rfl (pq_indexO (enc := eI) (xs := (l35.set m46.index_.toNat (IntKind.i64.wrap m46.share))) rfl rfl rfl (.p rfl) (by (repeat (first | exact List.Mem.head _ | apply List.Mem.tail))) (.p rfl) (fun _ => hm51)) ?_
                refine pwl_q rfl rfl rfl (pq_load_o (p := .v (.int .i64 m51)) (enc := eI) (xs := (l35.set m46.index_.toNat (IntKind.i64.wrap m46.share))) (a := (some ⟨b32, 0, none⟩)) m46.index_ 0 m51 rfl (.p rfl) rfl (by (repeat (first | exact List.Mem.head _ | apply List.Mem.tail))) (fun _ => hm51) rfl) ?_
                refine pwl_q rfl rfl rfl (pq_arith rfl (.p rfl) (.p rfl) rfl) ?_
                refine bind_elim hq45 ?_; clear hq45; intro m52 hm52 hq45
                refine pwl_q rfl rfl rfl (pq_indexO (enc := eI) (xs := (l35.set m46.index_.toNat (IntKind.i64.wrap m46.share))) rfl rfl rfl (.p rfl) (by (repeat (first | exact List.Mem.head _ | apply List.Mem.tail))) (.p rfl) (fun _ => hm52)) ?_
                refine pwl_l0 rfl rfl (pl_store_o (enc := eI) (xs := (l35.set m46.index_.toNat (IntKind.i64.wrap m46.share))) (a := (some ⟨b32, 0, none⟩)) m46.index_ 0 m52 (IntKind.i64.wrap (m51 + 1)) rfl rfl rfl rfl (fun _ => rfl) rfl rfl hm52 (by (repeat (first | exact PSplice.nil | apply PSplice.c | apply PSplice.t))) (by (repeat (first | exact PUpd.h | apply PUpd.t))) ?_)
                refine pwl_nil ?_
                refine pk_block_n ?_
                obtain rfl := Option.some.inj hq45
                exact pk_mid ((), ((l35.set m46.index_.toNat (IntKind.i64.wrap m46.share)).set m46.index_.toNat (IntKind.i64.wrap (m51 + 1)))) (by (repeat (first | exact PHolds.nil | apply PHolds.cons rfl))) (by (repeat (first | exact PSub.nil | (apply PSub.cons; (focus (repeat (first | exact PPick.h | apply PPick.t))))))) rfl
              · replace hq45 := cond_f hc50 hq45
                refine pwc_skip ?_
                refine pk_block_n ?_
                obtain rfl := Option.some.inj hq45
                exact pk_mid ((), (l35.set m46.index_.toNat (IntKind.i64.wrap m46.share))) (by (repeat (first | exact PHolds.nil | apply PHolds.cons rfl))) (by (repeat (first | exact PSub.nil | (apply PSub.cons; (focus (repeat (first | exact PPick.h | apply PPick.t))))))) rfl
            · rintro ⟨_, l43⟩ τ hz; (try dsimp only at hz); subst q45; (try dsimp only at hb39); dsimp only [pupds]
              refine pwc_region ?_
              refine pwl_q rfl rfl rfl (pq_arith rfl (.p rfl) (.p rfl) rfl) ?_
              refine pwl_q rfl rfl rfl (pq_move (p := .v (.int .i64 (IntKind.i64.wrap (v36 + 1)))) rfl (.p rfl)) ?_
              refine pwl_nil ?_
              (repeat apply pk_block_n)
              exact pk_loop hb39 () (by (repeat (first | exact PHolds.nil | apply PHolds.cons rfl))) (by (repeat (first | exact PSub.nil | (apply PSub.cons; (focus (repeat (first | exact PPick.h | apply PPick.t)))))))
          · replace hb39 := cond_f hc41 hb39
            refine pwc_exit ?_
            (repeat (first | apply pk_seq_exit | apply pk_mid_exit | apply pk_cut_exit | apply pk_block_ne rfl))
            refine pk_loop_exit hb39 (fun ht => ?_)
            refine pk_block_eq rfl ?_
            exact pk_mid ((), l35) (by (repeat (first | exact PHolds.nil | apply PHolds.cons rfl))) (by (repeat (first | exact PSub.nil | (apply PSub.cons; (focus (repeat (first | exact PPick.h | apply PPick.t))))))) ht.symm
        · rintro ⟨_, l38⟩ τ hz; (try dsimp only at hz); subst q40; (try dsimp only at h); dsimp only [pupds]
          refine pwc_seq ?_
          refine pwc_region ?_
          refine pwl_q rfl rfl rfl (pq_move (p := .v (.slice (some ⟨b32, 0, none⟩) l31.length l31.length)) rfl (.p rfl)) ?_
          refine pwl_q rfl rfl rfl (pq_assign (p := .v (.slice (some ⟨b32, 0, none⟩) l31.length l31.length)) rfl (.p rfl)) ?_
          refine pwl_q rfl rfl rfl (pq_assign (p := .v (.int .i64 0)) rfl (.p rfl)) ?_
          refine pwl_nil ?_
          (repeat (first | apply pk_block_n | apply pk_seq))
          refine pwc_frzt (css := List.map eI l38) 4 rfl (by (repeat (first | exact PPick.h | apply PPick.t))) ?_
          refine pwc_ret ?_
          (repeat (first | apply pk_seq_ret | apply pk_block_ret | apply pk_mid_ret | apply pk_cut_ret))
          obtain rfl := Option.some.inj h
          exact pret_of (prv_2 (prv1_t rfl) (prv1_t rfl)) PSub.nil ⟨rfl, rfl⟩
/-- customs/assess.partsOf -/
def assess_partsOf (p0 : TItem) : Option ((List Tassess_part) × Int) := Option.bind (α := ((List Int)) ⊕ _) (cond (decide (0 < p0.Quantity)) (Option.bind (apportion_Share p0.Value [p0.Granted, (IntKind.i64.wrap (p0.Quantity - p0.Granted))]) (fun x9 => cond (x9.2 != 0) (some (.inr ([], x9.2))) (some (.inl x9.1)))) (some (.inl [0, p0.Value]))) (fun q => match q with | .inl l4 => Option.bind (cond p0.Proof (Option.bind (app 8 [1, 2] [3]) (fun l21 => some l21)) (some [1, 2])) (fun l16 => Option.bind (cond (decide (0 < p0.Granted)) (Option.bind (idx l4 0) (fun m32 => Option.bind (slices_Clone_int_int l16) (fun x33 => Option.bind (app 8 x33 [4]) (fun l39 => Option.bind (app 40 ([] : List Tassess_part) [(⟨p0.Granted, m32, l39⟩ : Tassess_part)]) (fun l44 => some l44))))) (some ([] : (List Tassess_part)))) (fun l28 => Option.bind (cond ((decide (0 < (IntKind.i64.wrap (p0.Quantity - p0.Granted)))) || (p0.Quantity == 0)) (Option.bind (idx l4 1) (fun m54 => Option.bind (app 40 l28 [(⟨(IntKind.i64.wrap (p0.Quantity - p0.Granted)), m54, l16⟩ : Tassess_part)]) (fun l57 => some l57))) (some l28)) (fun l51 => Option.bind (app 40 l51 [(⟨p0.Quantity, p0.Value, [5]⟩ : Tassess_part), (⟨p0.Quantity, p0.Value, [6]⟩ : Tassess_part)]) (fun l67 => some (l67, 0))))) | .inr e => some e)
set_option maxHeartbeats 4000000 in
theorem assess_partsOf_ok {p0 : TItem} {r : ((List Tassess_part) × Int)}  (h : assess_partsOf p0 = some r) : PF 39 [.agg [.v (.string p0.Code), .v (.string p0.Origin), .v (.bool p0.Proof), .v (.int .i64 p0.Company), .v (.int .i64 p0.Day), .v (.int .i64 p0.Quantity), .v (.int .i64 p0.Value), .v (.int .i64 p0.Granted)]] (.tup [.slc (List.map Tassess_part.enc r.1), .v (.int .i64 r.2)]) := by
  unfold assess_partsOf at h
  refine pf_of ?_
  refine penter Tryz.func39 fk39 rfl Tryz.ntmps39 Tryz.results39 rfl ?_
  refine pwc_seq ?_
  refine pwc_region ?_
  refine pwl_l rfl rfl rfl (pl_box (cs := [.v (.string p0.Code), .v (.string p0.Origin), .v (.bool p0.Proof), .v (.int .i64 p0.Company), .v (.int .i64 p0.Day), .v (.int .i64 p0.Quantity), .v (.int .i64 p0.Value), .v (.int .i64 p0.Granted)]) rfl rfl (fun b1 => ?_))
  refine pwl_q rfl rfl rfl (pq_assign (p := .v (.slice none 0 0)) rfl (.p rfl)) ?_
  refine pwl_q rfl rfl rfl (pq_assign (p := .v (.int .i64 0)) rfl (.p rfl)) ?_
  refine pwl_nil ?_
  (repeat (first | apply pk_block_n | apply pk_seq))
  refine pwc_seq ?_
  refine pwc_region ?_
  refine pwl_q rfl rfl rfl (pq_fieldAddr rfl rfl rfl rfl rfl (.p rfl)) ?_
  refine pwl_q rfl rfl rfl (pq_load_b (p := .v (.int .i64 p0.Quantity)) rfl (.p rfl) (by (repeat (first | exact List.Mem.head _ | apply List.Mem.tail))) rfl) ?_
  refine pwl_q rfl rfl rfl (pq_fieldAddr rfl rfl rfl rfl rfl (.p rfl)) ?_
  refine pwl_q rfl rfl rfl (pq_load_b (p := .v (.int .i64 p0.Granted)) rfl (.p rfl) (by (repeat (first | exact List.Mem.head _ | apply List.Mem.tail))) rfl) ?_
  refine pwl_q rfl rfl rfl (pq_arith rfl (.p rfl) (.p rfl) rfl) ?_
  refine pwl_q rfl rfl rfl (pq_assign (p := .v (.int .i64 (IntKind.i64.wrap (p0.Quantity - p0.Granted)))) rfl (.p rfl)) ?_
  refine pwl_nil ?_
  (repeat (first | apply pk_block_n | apply pk_seq))
  refine pwc_seq ?_
  refine pwc_region ?_
  refine pwl_q rfl rfl rfl (pq_fieldAddr rfl rfl rfl rfl rfl (.p rfl)) ?_
  refine pwl_q rfl rfl rfl (pq_load_b (p := .v (.int .i64 p0.Value)) rfl (.p rfl) (by (repeat (first | exact List.Mem.head _ | apply List.Mem.tail))) rfl) ?_
  refine pwl_l rfl rfl rfl (pl_lit rfl rfl rfl rfl rfl (by (repeat (first | exact PLit.nil | apply PLit.cons rfl))) rfl rfl rfl rfl (fun b2 => ?_))
  refine pwl_q rfl rfl rfl (pq_assign (p := .v (.slice (some ⟨b2, 0, none⟩) 2 2)) rfl (.p rfl)) ?_
  refine pwl_nil ?_
  (repeat (first | apply pk_block_n | apply pk_seq))
  refine pwc_seq ?_
  refine pwc_seq ?_
  refine pwc_region ?_
  refine pwl_q rfl rfl rfl (pq_fieldAddr rfl rfl rfl rfl rfl (.p rfl)) ?_
  refine pwl_q rfl rfl rfl (pq_load_b (p := .v (.int .i64 p0.Quantity)) rfl (.p rfl) (by (repeat (first | exact List.Mem.head _ | apply List.Mem.tail))) rfl) ?_
  refine pwl_q rfl rfl rfl (pq_cmp rfl (.p rfl) (.p rfl) rfl) ?_
  refine pwl_nil ?_
  (repeat (first | apply pk_block_n | apply pk_seq))
  refine bind_elim h ?_; clear h; intro q5 hq5 h
  refine pwc_join (Y := (Unit) × ((List Int))) (fun (_, l4) => [(1, .v (.pointer (some ⟨b1, 0, none⟩))), (4, .v (.int .i64 (IntKind.i64.wrap (p0.Quantity - p0.Granted)))), (5, .slc (List.map eI l4))]) (fun (_, l4) => [PRes.b b1 23 [.v (.string p0.Code), .v (.string p0.Origin), .v (.bool p0.Proof), .v (.int .i64 p0.Company), .v (.int .i64 p0.Day), .v (.int .i64 p0.Quantity), .v (.int .i64 p0.Value), .v (.int .i64 p0.Granted)]]) (fun (_, l4) => q5 = Sum.inl l4) ?_ ?_
  · skip
    refine pwc_cond rfl (fun hc6 => ?_) (fun hc6 => ?_)
    · replace hq5 := cond_t hc6 hq5
      refine pwc_seq ?_
      refine pwc_region ?_
      refine pwl_q rfl rfl rfl (pq_assign (p := .v (.int .i64 0)) rfl (.p rfl)) ?_
      refine pwl_nil ?_
      (repeat (first | apply pk_block_n | apply pk_seq))
      refine pwc_seq ?_
      refine pwc_region ?_
      refine pwl_q rfl rfl rfl (pq_fieldAddr rfl rfl rfl rfl rfl (.p rfl)) ?_
      refine pwl_q rfl rfl rfl (pq_load_b (p := .v (.int .i64 p0.Value)) rfl (.p rfl) (by (repeat (first | exact List.Mem.head _ | apply List.Mem.tail))) rfl) ?_
      refine pwl_q rfl rfl rfl (pq_fieldAddr rfl rfl rfl rfl rfl (.p rfl)) ?_
      refine pwl_q rfl rfl rfl (pq_load_b (p := .v (.int .i64 p0.Granted)) rfl (.p rfl) (by (repeat (first | exact List.Mem.head _ | apply List.Mem.tail))) rfl) ?_
      refine pwl_q rfl rfl rfl (pq_move (p := .v (.int .i64 (IntKind.i64.wrap (p0.Quantity - p0.Granted)))) rfl (.p rfl)) ?_
      refine pwl_l rfl rfl rfl (pl_lit rfl rfl rfl rfl rfl (by (repeat (first | exact PLit.nil | apply PLit.cons rfl))) rfl rfl rfl rfl (fun b7 => ?_))
      refine pwl_frzt (css := List.map eI [p0.Granted, (IntKind.i64.wrap (p0.Quantity - p0.Granted))]) 26 rfl (by (repeat (first | exact PPick.h | apply PPick.t))) ?_
      refine bind_elim hq5 ?_; clear hq5; intro x9 hx9 hq5
      refine pwl_call rfl rfl rfl rfl rfl (apportion_Share_ok hx9) ?_
      refine pwl_q rfl rfl rfl (pq_move (p := .tup [.slc (List.map eI x9.1), .v (.int .i64 x9.2)]) rfl (.p rfl)) ?_
      refine pwl_q rfl rfl rfl (pq_extract (p := .slc (List.map eI x9.1)) rfl (.p rfl) rfl) ?_
      refine pwl_q rfl rfl rfl (pq_extract (p := .v (.int .i64 x9.2)) rfl (.p rfl) rfl) ?_
      refine pwl_q rfl rfl rfl (pq_assign (p := .slc (List.map eI x9.1)) rfl (.p rfl)) ?_
      refine pwl_q rfl rfl rfl (pq_assign (p := .v (.int .i64 x9.2)) rfl (.p rfl)) ?_
      refine pwl_nil ?_
      (repeat (first | apply pk_block_n | apply pk_seq))
      refine pwc_seq ?_
      refine pwc_region ?_
      refine pwl_q rfl rfl rfl (pq_move (p := .v (.int .i64 x9.2)) rfl (.p rfl)) ?_
      refine pwl_q rfl rfl rfl (pq_cmp rfl (.p rfl) (.p rfl) rfl) ?_
      refine pwl_nil ?_
      (repeat (first | apply pk_block_n | apply pk_seq))
      refine pwc_cond rfl (fun hc10 => ?_) (fun hc10 => ?_)
      · replace hq5 := cond_t hc10 hq5
        refine pwc_seq ?_
        refine pwc_region ?_
        refine pwl_q rfl rfl rfl (pq_move (p := .v (.int .i64 x9.2)) rfl (.p rfl)) ?_
        refine pwl_q rfl rfl rfl (pq_assign (p := .v (.slice none 0 0)) rfl (.p rfl)) ?_
        refine pwl_q rfl rfl rfl (pq_assign (p := .v (.int .i64 x9.2)) rfl (.p rfl)) ?_
        refine pwl_nil ?_
        (repeat (first | apply pk_block_n | apply pk_seq))
        refine pwc_nil 2 rfl ?_
        refine pwc_ret ?_
        (repeat (first | apply pk_seq_ret | apply pk_block_ret | apply pk_mid_ret | apply pk_cut_ret))
        obtain rfl := Option.some.inj hq5
        have h := (show some _ = some _ from h)
        (repeat (first | apply pk_seq_ret | apply pk_block_ret | apply pk_mid_ret | apply pk_cut_ret))
        obtain rfl := Option.some.inj h
        exact pret_of (prv_2 (prv1_t rfl) (prv1_t rfl)) PSub.nil ⟨rfl, rfl⟩
      · replace hq5 := cond_f hc10 hq5
        refine pwc_skip ?_
        obtain rfl := Option.some.inj hq5
        exact pk_mid ((), x9.1) (by (repeat (first | exact PHolds.nil | apply PHolds.cons rfl))) (by (repeat (first | exact PSub.nil | (apply PSub.cons; (focus (repeat (first | exact PPick.h | apply PPick.t))))))) rfl
    · replace hq5 := cond_f hc6 hq5
      refine pwc_skip ?_
      refine pk_mid_cov (cov_frzt (css := List.map eI [0, p0.Value]) 5 rfl (by (repeat (first | exact PPick.h | apply PPick.t)))) ?_
      obtain rfl := Option.some.inj hq5
      exact pk_mid ((), [0, p0.Value]) (by (repeat (first | exact PHolds.nil | apply PHolds.cons rfl))) (by (repeat (first | exact PSub.nil | (apply PSub.cons; (focus (repeat (first | exact PPick.h | apply PPick.t))))))) rfl
  · rintro ⟨_, l4⟩ τ hz; (try dsimp only at hz); subst q5; (try dsimp only at h); dsimp only [pupds]
    refine pwc_seq ?_
    refine pwc_region ?_
    refine pwl_l rfl rfl rfl (pl_lit rfl rfl rfl rfl rfl (by (repeat (first | exact PLit.nil | apply PLit.cons rfl))) rfl rfl rfl rfl (fun b11 => ?_))
    refine pwl_q rfl rfl rfl (pq_assign (p := .v (.slice (some ⟨b11, 0, none⟩) 2 2)) rfl (.p rfl)) ?_
    refine pwl_nil ?_
    (repeat (first | apply pk_block_n | apply pk_seq))
    refine pwc_seq ?_
    refine pwc_seq ?_
    refine pwc_region ?_
    refine pwl_q rfl rfl rfl (pq_fieldAddr rfl rfl rfl rfl rfl (.p rfl)) ?_
    refine pwl_q rfl rfl rfl (pq_load_b (p := .v (.bool p0.Proof)) rfl (.p rfl) (by (repeat (first | exact List.Mem.head _ | apply List.Mem.tail))) rfl) ?_
    refine pwl_nil ?_
    (repeat (first | apply pk_block_n | apply pk_seq))
    refine bind_elim h ?_; clear h; intro q17 hq17 h
    refine pwc_join (Y := (Option Addr × Nat) × ((List Int))) (fun ((a14, c15), l16) => [(1, .v (.pointer (some ⟨b1, 0, none⟩))), (4, .v (.int .i64 (IntKind.i64.wrap (p0.Quantity - p0.Granted)))), (5, .slc (List.map eI l4)), (7, .v (.slice a14 l16.length c15))]) (fun ((a14, c15), l16) => [PRes.b b1 23 [.v (.string p0.Code), .v (.string p0.Origin), .v (.bool p0.Proof), .v (.int .i64 p0.Company), .v (.int .i64 p0.Day), .v (.int .i64 p0.Quantity), .v (.int .i64 p0.Value), .v (.int .i64 p0.Granted)], PRes.row a14 l16.length c15 3 1 (List.map eI l16)]) (fun ((a14, c15), l16) => q17 = l16) ?_ ?_
    · skip
      refine pwc_cond rfl (fun hc18 => ?_) (fun hc18 => ?_)
      · replace hq17 := cond_t hc18 hq17
        refine pwc_region ?_
        refine pwl_q rfl rfl rfl (pq_move (p := .v (.slice (some ⟨b11, 0, none⟩) 2 2)) rfl (.p rfl)) ?_
        refine pwl_l rfl rfl rfl (pl_lit rfl rfl rfl rfl rfl (by (repeat (first | exact PLit.nil | apply PLit.cons rfl))) rfl rfl rfl rfl (fun b19 => ?_))
        refine bind_elim hq17 ?_; clear hq17; intro l21 hl21 hq17
        refine pwl_l rfl rfl rfl (pl_app_o (enc := eI) rfl rfl rfl rfl rfl rfl rfl rfl rfl (by (repeat (first | exact List.Mem.head _ | apply List.Mem.tail))) (by (repeat (first | exact PPick.h | apply PPick.t))) hl21 (fun a22 c23 => ?_))
        refine pwl_q rfl rfl rfl (pq_assign (p := .v (.slice a22 l21.length c23)) rfl (.p rfl)) ?_
        refine pwl_nil ?_
        obtain rfl := Option.some.inj hq17
        exact pk_mid ((a22, c23), l21) (by (repeat (first | exact PHolds.nil | apply PHolds.cons rfl))) (by (repeat (first | exact PSub.nil | (apply PSub.cons; (focus (repeat (first | exact PPick.h | apply PPick.t))))))) rfl
      · replace hq17 := cond_f hc18 hq17
        refine pwc_skip ?_
        obtain rfl := Option.some.inj hq17
        exact pk_mid (((some ⟨b11, 0, none⟩), 2), [1, 2]) (by (repeat (first | exact PHolds.nil | apply PHolds.cons rfl))) (by (repeat (first | exact PSub.nil | (apply PSub.cons; (focus (repeat (first | exact PPick.h | apply PPick.t))))))) rfl
    · rintro ⟨⟨a14, c15⟩, l16⟩ τ hz; (try dsimp only at hz); subst q17; (try dsimp only at h); dsimp only [pupds]
      refine pwc_seq ?_
      refine pwc_region ?_
      refine pwl_q rfl rfl rfl (pq_assign (p := .v (.slice none 0 0)) rfl (.p rfl)) ?_
      refine pwl_nil ?_
      (repeat (first | apply pk_block_n | apply pk_seq))
      refine pwc_seq ?_
      refine pwc_seq ?_
      refine pwc_region ?_
      refine pwl_q rfl rfl rfl (pq_fieldAddr rfl rfl rfl rfl rfl (.p rfl)) ?_
      refine pwl_q rfl rfl rfl (pq_load_b (p := .v (.int .i64 p0.Granted)) rfl (.p rfl) (by (repeat (first | exact List.Mem.head _ | apply List.Mem.tail))) rfl) ?_
      refine pwl_q rfl rfl rfl (pq_cmp rfl (.p rfl) (.p rfl) rfl) ?_
      refine pwl_nil ?_
      (repeat (first | apply pk_block_n | apply pk_seq))
      refine bind_elim h ?_; clear h; intro q29 hq29 h
      refine pwc_join (Y := (Option Addr × Nat) × ((List Tassess_part))) (fun ((a26, c27), l28) => [(1, .v (.pointer (some ⟨b1, 0, none⟩))), (4, .v (.int .i64 (IntKind.i64.wrap (p0.Quantity - p0.Granted)))), (5, .slc (List.map eI l4)), (7, .slc (List.map eI l16)), (8, .v (.slice a26 l28.length c27))]) (fun ((a26, c27), l28) => [PRes.b b1 23 [.v (.string p0.Code), .v (.string p0.Origin), .v (.bool p0.Proof), .v (.int .i64 p0.Company), .v (.int .i64 p0.Day), .v (.int .i64 p0.Quantity), .v (.int .i64 p0.Value), .v (.int .i64 p0.Granted)], PRes.row a26 l28.length c27 74 3 (List.map Tassess_part.enc l28)]) (fun ((a26, c27), l28) => q29 = l28) ?_ ?_
      · skip
        refine pwc_cond rfl (fun hc30 => ?_) (fun hc30 => ?_)
        · replace hq29 := cond_t hc30 hq29
          refine pwc_frzt (css := List.map eI l16) 7 rfl (by (repeat (first | exact PPick.h | apply PPick.t))) ?_
          refine pwc_nilrow 74 3 ?_
          refine pwc_draw (ρd := [PRes.row none _ _ _ _ _]) [(8, 3), (0, 0), (1, 0), (2, 0), (3, 0), (4, 0), (5, 0), (6, 0), (7, 1), (8, 2), (9, 1), (10, 0), (11, 1), (12, 1), (13, 0)] _ (by (repeat (first | exact List.Perm.refl _ | (refine perm_pick (by (repeat (first | exact PPick.h | apply PPick.t))) ?_)))) (by kernel_rfl) rfl ?_
          refine pwd_tell (plate_lit rfl rfl rfl rfl rfl (by (repeat (first | exact PLit.nil | apply PLit.cons rfl))) rfl rfl rfl) ?_
          refine pwd_q rfl rfl rfl (pq_move (p := .v (.slice none 0 0)) rfl (.p rfl)) ?_
          refine pwd_q rfl rfl rfl (pq_fieldAddr rfl rfl rfl rfl rfl (.p rfl)) ?_
          refine pwd_q rfl rfl rfl (pq_load_b (p := .v (.int .i64 p0.Granted)) rfl (.p rfl) (by (repeat (first | exact List.Mem.head _ | apply List.Mem.tail))) rfl) ?_
          refine pwd_q rfl rfl rfl (pq_move (p := .slc (List.map eI l4)) rfl (.p rfl)) ?_
          refine bind_elim hq29 ?_; clear hq29; intro m32 hm32 hq29
          refine pwd_q rfl rfl rfl (pq_index (enc := eI) rfl rfl rfl (fun _ => rfl) (.p rfl) (.p rfl) (fun _ => hm32)) ?_
          refine pwd_q rfl rfl rfl (pq_load_r (p := .v (.int .i64 m32)) rfl (.p rfl) rfl) ?_
          refine pwd_q rfl rfl rfl (pq_move (p := .slc (List.map eI l16)) rfl (.p rfl)) ?_
          refine bind_elim hq29 ?_; clear hq29; intro x33 hx33 hq29
          refine pwd_l rfl rfl rfl (pl_callR rfl rfl (ρ1 := []) (List.Perm.refl _) (slices_Clone_int_int_ok hx33) ?_); rintro _ _ ⟨a34, c35, rfl, rfl⟩
          refine pwd_late (plate_lit rfl rfl rfl rfl rfl (by (repeat (first | exact PLit.nil | apply PLit.cons rfl))) rfl rfl rfl) (fun _ => rfl) rfl (fun b37 => ?_)
          refine bind_elim hq29 ?_; clear hq29; intro l39 hl39 hq29
          refine pwd_l rfl rfl rfl (pl_fz (pl_app_b (enc := eI) rfl rfl rfl rfl rfl (fun _ => rfl) rfl rfl rfl rfl (by (repeat (first | exact List.Mem.head _ | apply List.Mem.tail))) rfl (by (repeat (first | exact PPick.h | apply PPick.t))) hl39 (fun a40 c41 => ⟨_, _, _, _, _, _, _, rfl, by (repeat (first | exact PPick.h | apply PPick.t)), ?_⟩)))
          refine pwd_q rfl rfl rfl (pq_buildZ (cs := [.v (.int .i64 p0.Granted), .v (.int .i64 m32), .slc (List.map eI l39)]) rfl rfl rfl rfl rfl rfl rfl (by (repeat (first | exact PFill.nil | (apply PFill.cons rfl rfl rfl rfl; (focus (repeat (first | exact PSplice.nil | apply PSplice.c | apply PSplice.t)))))))) ?_
          refine pwd_l rfl rfl rfl (pl_lit rfl rfl rfl rfl rfl (by (repeat (first | exact PLit.nil | apply PLit.cons rfl))) rfl rfl rfl rfl (fun b42 => ?_))
          refine bind_elim hq29 ?_; clear hq29; intro l44 hl44 hq29
          refine pwd_l rfl rfl rfl (pl_app_o (enc := Tassess_part.enc) rfl rfl rfl rfl rfl rfl rfl rfl rfl (by (repeat (first | exact List.Mem.head _ | apply List.Mem.tail))) (by (repeat (first | exact PPick.h | apply PPick.t))) hl44 (fun a45 c46 => ?_))
          refine pwd_q rfl rfl rfl (pq_assign (p := .v (.slice a45 l44.length c46)) rfl (.p rfl)) ?_
          refine pwd_nil ?_
          obtain rfl := Option.some.inj hq29
          exact pk_mid ((a45, c46), l44) (by (repeat (first | exact PHolds.nil | apply PHolds.cons rfl))) (by (repeat (first | exact PSub.nil | (apply PSub.cons; (focus (repeat (first | exact PPick.h | apply PPick.t))))))) rfl
        · replace hq29 := cond_f hc30 hq29
          refine pwc_skip ?_
          refine pk_mid_cov (cov_frzt (css := List.map eI l16) 7 rfl (by (repeat (first | exact PPick.h | apply PPick.t)))) ?_
          refine pk_mid_cov (cov_nilrow 74 3) ?_
          obtain rfl := Option.some.inj hq29
          exact pk_mid ((none, 0), ([] : (List Tassess_part))) (by (repeat (first | exact PHolds.nil | apply PHolds.cons rfl))) (by (repeat (first | exact PSub.nil | (apply PSub.cons; (focus (repeat (first | exact PPick.h | apply PPick.t))))))) rfl
      · rintro ⟨⟨a26, c27⟩, l28⟩ τ hz; (try dsimp only at hz); subst q29; (try dsimp only at h); dsimp only [pupds]
        refine pwc_seq ?_
        refine pwc_seq ?_
        refine pwc_region ?_
        refine pwl_q rfl rfl rfl (pq_move (p := .v (.int .i64 (IntKind.i64.wrap (p0.Quantity - p0.Granted)))) rfl (.p rfl)) ?_
        refine pwl_q rfl rfl rfl (pq_cmp rfl (.p rfl) (.p rfl) rfl) ?_
        refine pwl_q rfl rfl rfl (pq_move (p := .v (.bool (decide (0 < (IntKind.i64.wrap (p0.Quantity - p0.Granted)))))) rfl (.p rfl)) ?_
        refine pwl_qg (pguard_f rfl rfl rfl) rfl rfl (pq_fieldAddr rfl rfl rfl rfl rfl (.p rfl)) ?_
        refine pwl_qg (pguard_f rfl rfl rfl) rfl rfl (pq_load_b (p := .v (.int .i64 p0.Quantity)) rfl (.g rfl) (by (repeat (first | exact List.Mem.head _ | apply List.Mem.tail))) rfl) ?_
        refine pwl_qg (pguard_f rfl rfl rfl) rfl rfl (pq_cmp rfl (.g rfl) (.p rfl) rfl) ?_
        refine pwl_q rfl rfl rfl (pq_or rfl (.p rfl) (.p rfl) (.g rfl)) ?_
        refine pwl_nil ?_
        (repeat (first | apply pk_block_n | apply pk_seq))
        refine bind_elim h ?_; clear h; intro q52 hq52 h
        refine pwc_join (Y := (Option Addr × Nat) × ((List Tassess_part))) (fun ((a49, c50), l51) => [(1, .v (.pointer (some ⟨b1, 0, none⟩))), (8, .v (.slice a49 l51.length c50))]) (fun ((a49, c50), l51) => [PRes.b b1 23 [.v (.string p0.Code), .v (.string p0.Origin), .v (.bool p0.Proof), .v (.int .i64 p0.Company), .v (.int .i64 p0.Day), .v (.int .i64 p0.Quantity), .v (.int .i64 p0.Value), .v (.int .i64 p0.Granted)], PRes.row a49 l51.length c50 74 3 (List.map Tassess_part.enc l51)]) (fun ((a49, c50), l51) => q52 = l51) ?_ ?_
        · skip
          refine pwc_cond rfl (fun hc53 => ?_) (fun hc53 => ?_)
          · replace hq52 := cond_t hc53 hq52
            refine pwc_region ?_
            refine pwl_q rfl rfl rfl (pq_move (p := .v (.slice a26 l28.length c27)) rfl (.p rfl)) ?_
            refine pwl_q rfl rfl rfl (pq_move (p := .v (.int .i64 (IntKind.i64.wrap (p0.Quantity - p0.Granted)))) rfl (.p rfl)) ?_
            refine pwl_q rfl rfl rfl (pq_move (p := .slc (List.map eI l4)) rfl (.p rfl)) ?_
            refine bind_elim hq52 ?_; clear hq52; intro m54 hm54 hq52
            refine pwl_q rfl rfl rfl (pq_index (enc := eI) rfl rfl rfl (fun _ => rfl) (.p rfl) (.p rfl) (fun _ => hm54)) ?_
            refine pwl_q rfl rfl rfl (pq_load_r (p := .v (.int .i64 m54)) rfl (.p rfl) rfl) ?_
            refine pwl_q rfl rfl rfl (pq_move (p := .slc (List.map eI l16)) rfl (.p rfl)) ?_
            refine pwl_q rfl rfl rfl (pq_build (cs := [.v (.int .i64 (IntKind.i64.wrap (p0.Quantity - p0.Granted))), .v (.int .i64 m54), .slc (List.map eI l16)]) rfl rfl rfl rfl rfl rfl rfl (by (repeat (first | exact PFill.nil | (apply PFill.cons rfl rfl rfl rfl; (focus (repeat (first | exact PSplice.nil | apply PSplice.c | apply PSplice.t)))))))) ?_
            refine pwl_l rfl rfl rfl (pl_lit rfl rfl rfl rfl rfl (by (repeat (first | exact PLit.nil | apply PLit.cons rfl))) rfl rfl rfl rfl (fun b55 => ?_))
            refine bind_elim hq52 ?_; clear hq52; intro l57 hl57 hq52
            refine pwl_l rfl rfl rfl (pl_app_o (enc := Tassess_part.enc) rfl rfl rfl rfl rfl rfl rfl rfl rfl (by (repeat (first | exact List.Mem.head _ | apply List.Mem.tail))) (by (repeat (first | exact PPick.h | apply PPick.t))) hl57 (fun a58 c59 => ?_))
            refine pwl_q rfl rfl rfl (pq_assign (p := .v (.slice a58 l57.length c59)) rfl (.p rfl)) ?_
            refine pwl_nil ?_
            obtain rfl := Option.some.inj hq52
            exact pk_mid ((a58, c59), l57) (by (repeat (first | exact PHolds.nil | apply PHolds.cons rfl))) (by (repeat (first | exact PSub.nil | (apply PSub.cons; (focus (repeat (first | exact PPick.h | apply PPick.t))))))) rfl
          · replace hq52 := cond_f hc53 hq52
            refine pwc_skip ?_
            obtain rfl := Option.some.inj hq52
            exact pk_mid ((a26, c27), l28) (by (repeat (first | exact PHolds.nil | apply PHolds.cons rfl))) (by (repeat (first | exact PSub.nil | (apply PSub.cons; (focus (repeat (first | exact PPick.h | apply PPick.t))))))) rfl
        · rintro ⟨⟨a49, c50⟩, l51⟩ τ hz; (try dsimp only at hz); subst q52; (try dsimp only at h); dsimp only [pupds]
          refine pwc_seq ?_
          refine pwc_region ?_
          refine pwl_q rfl rfl rfl (pq_move (p := .v (.slice a49 l51.length c50)) rfl (.p rfl)) ?_
          refine pwl_q rfl rfl rfl (pq_fieldAddr rfl rfl rfl rfl rfl (.p rfl)) ?_
          refine pwl_q rfl rfl rfl (pq_load_b (p := .v (.int .i64 p0.Quantity)) rfl (.p rfl) (by (repeat (first | exact List.Mem.head _ | apply List.Mem.tail))) rfl) ?_
          refine pwl_q rfl rfl rfl (pq_fieldAddr rfl rfl rfl rfl rfl (.p rfl)) ?_
          refine pwl_q rfl rfl rfl (pq_load_b (p := .v (.int .i64 p0.Value)) rfl (.p rfl) (by (repeat (first | exact List.Mem.head _ | apply List.Mem.tail))) rfl) ?_
          refine pwl_l rfl rfl rfl (pl_lit rfl rfl rfl rfl rfl (by (repeat (first | exact PLit.nil | apply PLit.cons rfl))) rfl rfl rfl rfl (fun b61 => ?_))
          refine pwl_frzt (css := List.map eI [5]) 76 rfl (by (repeat (first | exact PPick.h | apply PPick.t))) ?_
          refine pwl_q rfl rfl rfl (pq_build (cs := [.v (.int .i64 p0.Quantity), .v (.int .i64 p0.Value), .slc (List.map eI [5])]) rfl rfl rfl rfl rfl rfl rfl (by (repeat (first | exact PFill.nil | (apply PFill.cons rfl rfl rfl rfl; (focus (repeat (first | exact PSplice.nil | apply PSplice.c | apply PSplice.t)))))))) ?_
          refine pwl_q rfl rfl rfl (pq_fieldAddr rfl rfl rfl rfl rfl (.p rfl)) ?_
          refine pwl_q rfl rfl rfl (pq_load_b (p := .v (.int .i64 p0.Quantity)) rfl (.p rfl) (by (repeat (first | exact List.Mem.head _ | apply List.Mem.tail))) rfl) ?_
          refine pwl_q rfl rfl rfl (pq_fieldAddr rfl rfl rfl rfl rfl (.p rfl)) ?_
          refine pwl_q rfl rfl rfl (pq_load_b (p := .v (.int .i64 p0.Value)) rfl (.p rfl) (by (repeat (first | exact List.Mem.head _ | apply List.Mem.tail))) rfl) ?_
          refine pwl_l rfl rfl rfl (pl_lit rfl rfl rfl rfl rfl (by (repeat (first | exact PLit.nil | apply PLit.cons rfl))) rfl rfl rfl rfl (fun b63 => ?_))
          refine pwl_frzt (css := List.map eI [6]) 82 rfl (by (repeat (first | exact PPick.h | apply PPick.t))) ?_
          refine pwl_q rfl rfl rfl (pq_build (cs := [.v (.int .i64 p0.Quantity), .v (.int .i64 p0.Value), .slc (List.map eI [6])]) rfl rfl rfl rfl rfl rfl rfl (by (repeat (first | exact PFill.nil | (apply PFill.cons rfl rfl rfl rfl; (focus (repeat (first | exact PSplice.nil | apply PSplice.c | apply PSplice.t)))))))) ?_
          refine pwl_l rfl rfl rfl (pl_lit rfl rfl rfl rfl rfl (by (repeat (first | exact PLit.nil | apply PLit.cons rfl))) rfl rfl rfl rfl (fun b65 => ?_))
          refine bind_elim h ?_; clear h; intro l67 hl67 h
          refine pwl_l rfl rfl rfl (pl_app_o (enc := Tassess_part.enc) rfl rfl rfl rfl rfl rfl rfl rfl rfl (by (repeat (first | exact List.Mem.head _ | apply List.Mem.tail))) (by (repeat (first | exact PPick.h | apply PPick.t))) hl67 (fun a68 c69 => ?_))
          refine pwl_q rfl rfl rfl (pq_assign (p := .v (.slice a68 l67.length c69)) rfl (.p rfl)) ?_
          refine pwl_q rfl rfl rfl (pq_assign (p := .v (.int .i64 0)) rfl (.p rfl)) ?_
          refine pwl_nil ?_
          (repeat (first | apply pk_block_n | apply pk_seq))
          refine pwc_frzt (css := List.map Tassess_part.enc l67) 2 rfl (by (repeat (first | exact PPick.h | apply PPick.t))) ?_
          refine pwc_ret ?_
          (repeat (first | apply pk_seq_ret | apply pk_block_ret | apply pk_mid_ret | apply pk_cut_ret))
          obtain rfl := Option.some.inj h
          exact pret_of (prv_2 (prv1_t rfl) (prv1_t rfl)) PSub.nil ⟨rfl, rfl⟩
end SX
end Go.Proofs.YtfcecieppoljlaaGreatDoor
