/- Walks: 26, 14, 29, 27, 28, 11, 52, 31, 32, 33, 13, 54, 55, 84, 115, 85, 116, 86, 56, 57, 59, 37, 38, 87, 88. No statement of the seat is proved here. Written by our program gen.py. -/
import Derived.Test.YtfcecieppoljlaaGreatDoorTy
import Derived.Test.YtfcecieppoljlaaGreatDoorFk
set_option maxRecDepth 100000
namespace Go.Proofs.YtfcecieppoljlaaGreatDoor
namespace SX
open Go
attribute [local irreducible] PWL PWC PWD POpL POpQ PEv PGuardIs PSub PPick PUpd PSplice PFill PLit PF PFV PCall pseqK pblockK pmidK pcutK ploopK pretK Cov PHolds loopF idx app mk gd lb nz ge0 cat sub ssub iand ior ixor ishl ishr imin imax IntKind.wrap Int.tmod Int.tdiv Op.bytesLess strOfNums
/-- customs/customsmade.Cut -/
def made_Cut (p0 : (List Int)) (p1 : Int) : Option (List Int) := cond (decide (p1 < (p0.length : Int))) (Option.bind (sub p0 0 p1) (fun l2 => some l2)) (some p0)
set_option maxHeartbeats 4000000 in
theorem made_Cut_ok {p0 : (List Int)} {p1 : Int} {r : (List Int)}  (h : made_Cut p0 p1 = some r) : PF 26 [.slc (List.map eI p0), .v (.int .i64 p1)] (.slc (List.map eI r)) := by
  unfold made_Cut at h
  refine pf_of ?_
  refine penter Tryz.func26 fk26 rfl Tryz.ntmps26 Tryz.results26 rfl ?_
  refine pwc_seq ?_
  refine pwc_region ?_
  refine pwl_q rfl rfl rfl (pq_assign (p := .v (.slice none 0 0)) rfl (.p rfl)) ?_
  refine pwl_nil ?_
  (repeat (first | apply pk_block_n | apply pk_seq))
  refine pwc_seq ?_
  refine pwc_seq ?_
  refine pwc_region ?_
  refine pwl_q rfl rfl rfl (pq_move (p := .slc (List.map eI p0)) rfl (.p rfl)) ?_
  refine pwl_q rfl rfl rfl (pq_lenT (enc := eI) rfl rfl (.p rfl)) ?_
  refine pwl_q rfl rfl rfl (pq_move (p := .v (.int .i64 p1)) rfl (.p rfl)) ?_
  refine pwl_q rfl rfl rfl (pq_cmp rfl (.p rfl) (.p rfl) rfl) ?_
  refine pwl_nil ?_
  (repeat (first | apply pk_block_n | apply pk_seq))
  refine pwc_cond rfl (fun hc1 => ?_) (fun hc1 => ?_)
  · replace h := cond_t hc1 h
    refine pwc_seq ?_
    refine pwc_region ?_
    refine pwl_q rfl rfl rfl (pq_move (p := .slc (List.map eI p0)) rfl (.p rfl)) ?_
    refine pwl_q rfl rfl rfl (pq_move (p := .v (.int .i64 p1)) rfl (.p rfl)) ?_
    refine bind_elim h ?_; clear h; intro l2 hl2 h
    refine pwl_q rfl rfl rfl (pq_sliceH (enc := eI) rfl rfl rfl (fun _ => rfl) (.p rfl) (.p rfl) (fun _ => hl2)) ?_
    refine pwl_q rfl rfl rfl (pq_assign (p := .slc (List.map eI l2)) rfl (.p rfl)) ?_
    refine pwl_nil ?_
    (repeat (first | apply pk_block_n | apply pk_seq))
    refine pwc_ret ?_
    (repeat (first | apply pk_seq_ret | apply pk_block_ret | apply pk_mid_ret | apply pk_cut_ret))
    obtain rfl := Option.some.inj h
    exact pret_of (prv_1 (prv1_t rfl)) PSub.nil ⟨rfl, rfl⟩
  · replace h := cond_f hc1 h
    refine pwc_skip ?_
    (repeat (first | apply pk_block_n | apply pk_seq))
    refine pwc_seq ?_
    refine pwc_region ?_
    refine pwl_q rfl rfl rfl (pq_move (p := .slc (List.map eI p0)) rfl (.p rfl)) ?_
    refine pwl_q rfl rfl rfl (pq_assign (p := .slc (List.map eI p0)) rfl (.p rfl)) ?_
    refine pwl_nil ?_
    (repeat (first | apply pk_block_n | apply pk_seq))
    refine pwc_ret ?_
    (repeat (first | apply pk_seq_ret | apply pk_block_ret | apply pk_mid_ret | apply pk_cut_ret))
    obtain rfl := Option.some.inj h
    exact pret_of (prv_1 (prv1_t rfl)) PSub.nil ⟨rfl, rfl⟩
/-- customs/customsmade.Within -/
def made_Within (p0 : Int) (p1 : Int) : Option Int := Option.bind (nz p1) (fun u1 => Option.bind (nz p1) (fun u2 => lb ((Int.tmod (IntKind.i64.wrap ((Int.tmod p0 p1) + p1)) p1)) (fun w3 => some w3)))
set_option maxHeartbeats 4000000 in
theorem made_Within_ok {p0 : Int} {p1 : Int} {r : Int}  (h : made_Within p0 p1 = some r) : PF 14 [.v (.int .i64 p0), .v (.int .i64 p1)] (.v (.int .i64 r)) := by
  unfold made_Within at h
  refine pf_of ?_
  refine penter Tryz.func14 fk14 rfl Tryz.ntmps14 Tryz.results14 rfl ?_
  refine pwc_seq ?_
  refine pwc_region ?_
  refine pwl_q rfl rfl rfl (pq_assign (p := .v (.int .i64 0)) rfl (.p rfl)) ?_
  refine pwl_nil ?_
  (repeat (first | apply pk_block_n | apply pk_seq))
  refine pwc_seq ?_
  refine pwc_region ?_
  refine pwl_q rfl rfl rfl (pq_move (p := .v (.int .i64 p0)) rfl (.p rfl)) ?_
  refine pwl_q rfl rfl rfl (pq_move (p := .v (.int .i64 p1)) rfl (.p rfl)) ?_
  refine bind_elim h ?_; clear h; intro u1 hu1 h
  refine pwl_q rfl rfl rfl (pq_rem rfl (.p rfl) (.p rfl) (fun _ => nz_some hu1)) ?_
  refine pwl_q rfl rfl rfl (pq_move (p := .v (.int .i64 p1)) rfl (.p rfl)) ?_
  refine pwl_q rfl rfl rfl (pq_arith rfl (.p rfl) (.p rfl) rfl) ?_
  refine pwl_q rfl rfl rfl (pq_move (p := .v (.int .i64 p1)) rfl (.p rfl)) ?_
  refine bind_elim h ?_; clear h; intro u2 hu2 h
  refine pwl_q rfl rfl rfl (pq_rem rfl (.p rfl) (.p rfl) (fun _ => nz_some hu2)) ?_
  refine lb_elim h ?_; clear h; intro w3 hw3 h
  refine pwl_q rfl rfl rfl (pq_assign rfl (.p (congrArg (fun z => PV.v (Value.int .i64 z)) hw3))) ?_
  refine pwl_nil ?_
  (repeat (first | apply pk_block_n | apply pk_seq))
  refine pwc_ret ?_
  (repeat (first | apply pk_seq_ret | apply pk_block_ret | apply pk_mid_ret | apply pk_cut_ret))
  obtain rfl := Option.some.inj h
  exact pret_of (prv_1 (prv1_t rfl)) PSub.nil ⟨rfl, rfl⟩
/-- (*customs/customsmade.Source).Next -/
def made_Source_Next (p0 : Tmade_Source) (p1 : Int) : Option (Int × Tmade_Source) := cond (decide ((p0.L.length : Int) ≤ p0.I)) (some (0, p0)) (Option.bind (idx p0.L (IntKind.i64.wrap ((IntKind.i64.wrap (p0.I + 1)) - 1))) (fun m2 => Option.bind (made_Within m2 p1) (fun x3 => some (x3, (⟨p0.L, (IntKind.i64.wrap (p0.I + 1))⟩ : Tmade_Source)))))
set_option maxHeartbeats 4000000 in
theorem made_Source_Next_ok {p0 : Tmade_Source} {p1 : Int} {b0 : Nat} {r : (Int × Tmade_Source)}  (h : made_Source_Next p0 p1 = some r) : PCall 29 [.v (.pointer (some ⟨b0, 0, none⟩)), .v (.int .i64 p1)] [PRes.b b0 59 [.slc (List.map eI p0.L), .v (.int .i64 p0.I)]] (fun pv ρ' => pv = .v (.int .i64 r.1) ∧ ρ' = [PRes.b b0 59 [.slc (List.map eI r.2.L), .v (.int .i64 r.2.I)]]) := by
  unfold made_Source_Next at h
  refine penter Tryz.func29 fk29 rfl Tryz.ntmps29 Tryz.results29 rfl ?_
  refine pwc_seq ?_
  refine pwc_region ?_
  refine pwl_q rfl rfl rfl (pq_assign (p := .v (.int .i64 0)) rfl (.p rfl)) ?_
  refine pwl_nil ?_
  (repeat (first | apply pk_block_n | apply pk_seq))
  refine pwc_seq ?_
  refine pwc_seq ?_
  refine pwc_draw (ρd := []) [(0, 0), (1, 0), (2, 0), (3, 0), (4, 0), (5, 0), (6, 0), (7, 0), (8, 0), (9, 0)] _ (List.Perm.refl _) (by kernel_rfl) rfl ?_
  refine pwd_q rfl rfl rfl (pq_move (p := .v (.pointer (some ⟨b0, 0, none⟩))) rfl (.p rfl)) ?_
  refine pwd_q rfl rfl rfl (pq_nilCheck rfl (.p rfl)) ?_
  refine pwd_q rfl rfl rfl (pq_fieldAddr rfl rfl rfl rfl rfl (.p rfl)) ?_
  refine pwd_q rfl rfl rfl (pq_load_b (p := .v (.int .i64 p0.I)) rfl (.p rfl) (by (repeat (first | exact List.Mem.head _ | apply List.Mem.tail))) rfl) ?_
  refine pwd_q rfl rfl rfl (pq_move (p := .v (.pointer (some ⟨b0, 0, none⟩))) rfl (.p rfl)) ?_
  refine pwd_q rfl rfl rfl (pq_nilCheck rfl (.p rfl)) ?_
  refine pwd_q rfl rfl rfl (pq_fieldAddr rfl rfl rfl rfl rfl (.p rfl)) ?_
  refine pwd_q rfl rfl rfl (pq_load_b (p := .slc (List.map eI p0.L)) rfl (.p rfl) (by (repeat (first | exact List.Mem.head _ | apply List.Mem.tail))) rfl) ?_
  refine pwd_q rfl rfl rfl (pq_lenT (enc := eI) rfl rfl (.p rfl)) ?_
  refine pwd_q rfl rfl rfl (pq_cmp rfl (.p rfl) (.p rfl) rfl) ?_
  refine pwd_nil ?_
  (repeat (first | apply pk_block_n | apply pk_seq))
  refine pwc_cond rfl (fun hc1 => ?_) (fun hc1 => ?_)
  · replace h := cond_t hc1 h
    refine pwc_seq ?_
    refine pwc_region ?_
    refine pwl_q rfl rfl rfl (pq_assign (p := .v (.int .i64 0)) rfl (.p rfl)) ?_
    refine pwl_nil ?_
    (repeat (first | apply pk_block_n | apply pk_seq))
    refine pwc_ret ?_
    (repeat (first | apply pk_seq_ret | apply pk_block_ret | apply pk_mid_ret | apply pk_cut_ret))
    obtain rfl := Option.some.inj h
    exact pret_of (prv_1 (prv1_t rfl)) (by (repeat (first | exact PSub.nil | (apply PSub.cons; (focus (repeat (first | exact PPick.h | apply PPick.t))))))) ⟨rfl, rfl⟩
  · replace h := cond_f hc1 h
    refine pwc_skip ?_
    (repeat (first | apply pk_block_n | apply pk_seq))
    refine pwc_seq ?_
    refine pwc_region ?_
    refine pwl_q rfl rfl rfl (pq_move (p := .v (.pointer (some ⟨b0, 0, none⟩))) rfl (.p rfl)) ?_
    refine pwl_q rfl rfl rfl (pq_nilCheck rfl (.p rfl)) ?_
    refine pwl_q rfl rfl rfl (pq_fieldAddr rfl rfl rfl rfl rfl (.p rfl)) ?_
    refine pwl_q rfl rfl rfl (pq_load_b (p := .v (.int .i64 p0.I)) rfl (.p rfl) (by (repeat (first | exact List.Mem.head _ | apply List.Mem.tail))) rfl) ?_
    refine pwl_q rfl rfl rfl (pq_arith rfl (.p rfl) (.p rfl) rfl) ?_
    refine pwl_q rfl rfl rfl (pq_nilCheck rfl (.p rfl)) ?_
    refine pwl_q rfl rfl rfl (pq_fieldAddr rfl rfl rfl rfl rfl (.p rfl)) ?_
    refine pwl_l0 rfl rfl (pl_store (vs := [.v (.int .i64 (IntKind.i64.wrap (p0.I + 1)))]) rfl rfl rfl rfl rfl (by (repeat (first | exact PUpd.h | apply PUpd.t))) (by (repeat (first | exact PSplice.nil | apply PSplice.c | apply PSplice.t))) ?_)
    refine pwl_nil ?_
    (repeat (first | apply pk_block_n | apply pk_seq))
    refine pwc_seq ?_
    refine pwc_draw (ρd := []) [(0, 0), (1, 0), (2, 0), (3, 0), (4, 0), (5, 0), (6, 0), (7, 0), (8, 0), (9, 0), (10, 0), (11, 0), (12, 1), (13, 0)] _ (List.Perm.refl _) (by kernel_rfl) rfl ?_
    refine pwd_q rfl rfl rfl (pq_move (p := .v (.pointer (some ⟨b0, 0, none⟩))) rfl (.p rfl)) ?_
    refine pwd_q rfl rfl rfl (pq_nilCheck rfl (.p rfl)) ?_
    refine pwd_q rfl rfl rfl (pq_fieldAddr rfl rfl rfl rfl rfl (.p rfl)) ?_
    refine pwd_q rfl rfl rfl (pq_load_b (p := .slc (List.map eI p0.L)) rfl (.p rfl) (by (repeat (first | exact List.Mem.head _ | apply List.Mem.tail))) rfl) ?_
    refine pwd_q rfl rfl rfl (pq_move (p := .v (.pointer (some ⟨b0, 0, none⟩))) rfl (.p rfl)) ?_
    refine pwd_q rfl rfl rfl (pq_nilCheck rfl (.p rfl)) ?_
    refine pwd_q rfl rfl rfl (pq_fieldAddr rfl rfl rfl rfl rfl (.p rfl)) ?_
    refine pwd_q rfl rfl rfl (pq_load_b (p := .v (.int .i64 (IntKind.i64.wrap (p0.I + 1)))) rfl (.p rfl) (by (repeat (first | exact List.Mem.head _ | apply List.Mem.tail))) rfl) ?_
    refine pwd_q rfl rfl rfl (pq_arith rfl (.p rfl) (.p rfl) rfl) ?_
    refine bind_elim h ?_; clear h; intro m2 hm2 h
    refine pwd_q rfl rfl rfl (pq_index (enc := eI) rfl rfl rfl (fun _ => rfl) (.p rfl) (.p rfl) (fun _ => hm2)) ?_
    refine pwd_q rfl rfl rfl (pq_load_r (p := .v (.int .i64 m2)) rfl (.p rfl) rfl) ?_
    refine pwd_q rfl rfl rfl (pq_move (p := .v (.int .i64 p1)) rfl (.p rfl)) ?_
    refine bind_elim h ?_; clear h; intro x3 hx3 h
    refine pwd_call rfl rfl rfl rfl rfl (made_Within_ok hx3) ?_
    refine pwd_q rfl rfl rfl (pq_assign (p := .v (.int .i64 x3)) rfl (.p rfl)) ?_
    refine pwd_nil ?_
    (repeat (first | apply pk_block_n | apply pk_seq))
    refine pwc_ret ?_
    (repeat (first | apply pk_seq_ret | apply pk_block_ret | apply pk_mid_ret | apply pk_cut_ret))
    obtain rfl := Option.some.inj h
    exact pret_of (prv_1 (prv1_t rfl)) (by (repeat (first | exact PSub.nil | (apply PSub.cons; (focus (repeat (first | exact PPick.h | apply PPick.t))))))) ⟨rfl, rfl⟩
/-- (*customs/customsmade.Source).Code -/
def made_Source_Code (p0 : Tmade_Source) (p1 : Int) : Option (ByteArray × Tmade_Source) := Option.bind (made_Source_Next p0 2) (fun x1 => Option.bind (loopF (S := (List Int) × (List Int) × Int) (T := ((List Int) × (List Int) × Int)) (fun (l5, l8, v9) => cond (decide (((l5.length : Nat) : Int) < p1)) (Option.bind (made_Source_Next (⟨l8, v9⟩ : Tmade_Source) 3) (fun x19 => Option.bind (app 1 l5 [48, (IntKind.u8.wrap (IntKind.i64.wrap (49 + x19.1)))]) (fun l22 => some (.inl (l22, x19.2.L, x19.2.I))))) (some (.inr (l5, l8, v9)))) FUEL ([57, (IntKind.u8.wrap (IntKind.i64.wrap (52 + x1.1)))], x1.2.L, x1.2.I)) (fun (l13, l14, v15) => some ((strOfNums l13), (⟨l14, v15⟩ : Tmade_Source))))
set_option maxHeartbeats 4000000 in
theorem made_Source_Code_ok {p0 : Tmade_Source} {p1 : Int} {b0 : Nat} {r : (ByteArray × Tmade_Source)}  (h : made_Source_Code p0 p1 = some r) : PCall 27 [.v (.pointer (some ⟨b0, 0, none⟩)), .v (.int .i64 p1)] [PRes.b b0 59 [.slc (List.map eI p0.L), .v (.int .i64 p0.I)]] (fun pv ρ' => pv = .v (.string r.1) ∧ ρ' = [PRes.b b0 59 [.slc (List.map eI r.2.L), .v (.int .i64 r.2.I)]]) := by
  unfold made_Source_Code at h
  refine penter Tryz.func27 fk27 rfl Tryz.ntmps27 Tryz.results27 rfl ?_
  refine pwc_seq ?_
  refine pwc_region ?_
  refine pwl_q rfl rfl rfl (pq_assign (p := .v (.string (⟨#[]⟩ : ByteArray))) rfl (.p rfl)) ?_
  refine pwl_nil ?_
  (repeat (first | apply pk_block_n | apply pk_seq))
  refine pwc_seq ?_
  refine pwc_region ?_
  refine pwl_q rfl rfl rfl (pq_move (p := .v (.pointer (some ⟨b0, 0, none⟩))) rfl (.p rfl)) ?_
  refine bind_elim h ?_; clear h; intro x1 hx1 h
  refine pwl_l rfl rfl rfl (pl_callR rfl rfl (ρ1 := [_]) (perm_pick (by (repeat (first | exact PPick.h | apply PPick.t))) (List.Perm.refl _)) (made_Source_Next_ok hx1) ?_); rintro _ _ ⟨rfl, rfl⟩
  refine pwl_q rfl rfl rfl (pq_arith rfl (.p rfl) (.p rfl) rfl) ?_
  refine pwl_q rfl rfl rfl (pq_conv rfl rfl rfl (.p rfl)) ?_
  refine pwl_l rfl rfl rfl (pl_lit rfl rfl rfl rfl rfl (by (repeat (first | exact PLit.nil | apply PLit.cons rfl))) rfl rfl rfl rfl (fun b2 => ?_))
  refine pwl_q rfl rfl rfl (pq_assign (p := .v (.slice (some ⟨b2, 0, none⟩) 2 2)) rfl (.p rfl)) ?_
  refine pwl_nil ?_
  (repeat (first | apply pk_block_n | apply pk_seq))
  refine pwc_seq ?_
  refine bind_elim h ?_; clear h; intro q17 hq17 h
  refine pwc_join (Y := (Option Addr × Nat) × ((List Int) × (List Int) × Int)) (fun ((a11, c12), (l13, l14, v15)) => [(5, .v (.slice a11 l13.length c12))]) (fun ((a11, c12), (l13, l14, v15)) => [PRes.b b0 59 [.slc (List.map eI l14), .v (.int .i64 v15)], PRes.row a11 l13.length c12 5 1 (List.map eB l13)]) (fun ((a11, c12), (l13, l14, v15)) => q17 = (l13, l14, v15)) ?_ ?_
  · refine pwc_block ?_
    refine pwc_loopF (Y := Option Addr × Nat) (S := (List Int) × (List Int) × Int) _ hq17 (fun (a6, c7) (l5, l8, v9) => [(0, .v (.pointer (some ⟨b0, 0, none⟩))), (1, .v (.int .i64 p1)), (5, .v (.slice a6 l5.length c7))]) (fun (a6, c7) (l5, l8, v9) => [PRes.b b0 59 [.slc (List.map eI l8), .v (.int .i64 v9)], PRes.row a6 l5.length c7 5 1 (List.map eB l5)]) ((some ⟨b2, 0, none⟩), 2) (by (repeat (first | exact PHolds.nil | apply PHolds.cons rfl))) (by (repeat (first | exact PSub.nil | (apply PSub.cons; (focus (repeat (first | exact PPick.h | apply PPick.t))))))) ?_
    rintro ⟨a6, c7⟩ ⟨l5, l8, v9⟩ o τ hb16; (try dsimp only at hb16); dsimp only [pupds]
    refine pwc_seq ?_
    refine pwc_seq ?_
    refine pwc_region ?_
    refine pwl_q rfl rfl rfl (pq_move (p := .v (.slice a6 l5.length c7)) rfl (.p rfl)) ?_
    refine pwl_q rfl rfl rfl (pq_lenO rfl rfl (.p rfl)) ?_
    refine pwl_q rfl rfl rfl (pq_move (p := .v (.int .i64 p1)) rfl (.p rfl)) ?_
    refine pwl_q rfl rfl rfl (pq_cmp rfl (.p rfl) (.p rfl) rfl) ?_
    refine pwl_nil ?_
    (repeat (first | apply pk_block_n | apply pk_seq))
    refine pwc_cond rfl (fun hc18 => ?_) (fun hc18 => ?_)
    · replace hb16 := cond_t hc18 hb16
      refine pwc_skip ?_
      (repeat (first | apply pk_block_n | apply pk_seq))
      refine pwc_block ?_
      refine pwc_region ?_
      refine pwl_q rfl rfl rfl (pq_move (p := .v (.slice a6 l5.length c7)) rfl (.p rfl)) ?_
      refine pwl_q rfl rfl rfl (pq_move (p := .v (.pointer (some ⟨b0, 0, none⟩))) rfl (.p rfl)) ?_
      refine bind_elim hb16 ?_; clear hb16; intro x19 hx19 hb16
      refine pwl_l rfl rfl rfl (pl_callR rfl rfl (ρ1 := [_]) (perm_pick (by (repeat (first | exact PPick.h | apply PPick.t))) (List.Perm.refl _)) (made_Source_Next_ok hx19) ?_); rintro _ _ ⟨rfl, rfl⟩
      refine pwl_q rfl rfl rfl (pq_arith rfl (.p rfl) (.p rfl) rfl) ?_
      refine pwl_q rfl rfl rfl (pq_conv rfl rfl rfl (.p rfl)) ?_
      refine pwl_l rfl rfl rfl (pl_lit rfl rfl rfl rfl rfl (by (repeat (first | exact PLit.nil | apply PLit.cons rfl))) rfl rfl rfl rfl (fun b20 => ?_))
      refine bind_elim hb16 ?_; clear hb16; intro l22 hl22 hb16
      refine pwl_l rfl rfl rfl (pl_app_o (enc := eB) rfl rfl rfl rfl rfl rfl rfl rfl rfl (by (repeat (first | exact List.Mem.head _ | apply List.Mem.tail))) (by (repeat (first | exact PPick.h | apply PPick.t))) hl22 (fun a23 c24 => ?_))
      refine pwl_q rfl rfl rfl (pq_assign (p := .v (.slice a23 l22.length c24)) rfl (.p rfl)) ?_
      refine pwl_nil ?_
      refine pk_block_n ?_
      (repeat apply pk_block_n)
      exact pk_loop hb16 (a23, c24) (by (repeat (first | exact PHolds.nil | apply PHolds.cons rfl))) (by (repeat (first | exact PSub.nil | (apply PSub.cons; (focus (repeat (first | exact PPick.h | apply PPick.t)))))))
    · replace hb16 := cond_f hc18 hb16
      refine pwc_exit ?_
      (repeat (first | apply pk_seq_exit | apply pk_mid_exit | apply pk_cut_exit | apply pk_block_ne rfl))
      refine pk_loop_exit hb16 (fun ht => ?_)
      refine pk_block_eq rfl ?_
      exact pk_mid ((a6, c7), (l5, l8, v9)) (by (repeat (first | exact PHolds.nil | apply PHolds.cons rfl))) (by (repeat (first | exact PSub.nil | (apply PSub.cons; (focus (repeat (first | exact PPick.h | apply PPick.t))))))) ht.symm
  · rintro ⟨⟨a11, c12⟩, ⟨l13, l14, v15⟩⟩ τ hz; (try dsimp only at hz); subst q17; (try dsimp only at h); dsimp only [pupds]
    refine pwc_seq ?_
    refine pwc_region ?_
    refine pwl_q rfl rfl rfl (pq_move (p := .v (.slice a11 l13.length c12)) rfl (.p rfl)) ?_
    refine pwl_l rfl rfl rfl (pq_bytes rfl rfl rfl rfl rfl (xs := l13) (by (repeat (first | exact List.Mem.head _ | apply List.Mem.tail))) rfl ?_)
    refine pwl_q rfl rfl rfl (pq_assign (p := .v (.string (strOfNums l13))) rfl (.p rfl)) ?_
    refine pwl_nil ?_
    (repeat (first | apply pk_block_n | apply pk_seq))
    refine pwc_ret ?_
    (repeat (first | apply pk_seq_ret | apply pk_block_ret | apply pk_mid_ret | apply pk_cut_ret))
    obtain rfl := Option.some.inj h
    exact pret_of (prv_1 (prv1_t rfl)) (by (repeat (first | exact PSub.nil | (apply PSub.cons; (focus (repeat (first | exact PPick.h | apply PPick.t))))))) ⟨rfl, rfl⟩
/-- customs/customsmade.Countries -/
def made_Countries  : Option (List ByteArray) := some [(⟨#[65, 65]⟩ : ByteArray), (⟨#[66, 66]⟩ : ByteArray), (⟨#[67, 67]⟩ : ByteArray), (⟨#[68, 68]⟩ : ByteArray), (⟨#[69, 69]⟩ : ByteArray), (⟨#[70, 70]⟩ : ByteArray)]
set_option maxHeartbeats 4000000 in
theorem made_Countries_ok  {r : (List ByteArray)}  (h : made_Countries  = some r) : PF 28 [] (.slc (List.map eS r)) := by
  unfold made_Countries at h
  refine pf_of ?_
  refine penter Tryz.func28 fk28 rfl Tryz.ntmps28 Tryz.results28 rfl ?_
  refine pwc_seq ?_
  refine pwc_region ?_
  refine pwl_q rfl rfl rfl (pq_assign (p := .v (.slice none 0 0)) rfl (.p rfl)) ?_
  refine pwl_nil ?_
  (repeat (first | apply pk_block_n | apply pk_seq))
  refine pwc_seq ?_
  refine pwc_region ?_
  refine pwl_l rfl rfl rfl (pl_lit rfl rfl rfl rfl rfl (by (repeat (first | exact PLit.nil | apply PLit.cons rfl))) rfl rfl rfl rfl (fun b1 => ?_))
  refine pwl_q rfl rfl rfl (pq_assign (p := .v (.slice (some ⟨b1, 0, none⟩) 6 6)) rfl (.p rfl)) ?_
  refine pwl_nil ?_
  (repeat (first | apply pk_block_n | apply pk_seq))
  refine pwc_frzt (css := List.map eS [(⟨#[65, 65]⟩ : ByteArray), (⟨#[66, 66]⟩ : ByteArray), (⟨#[67, 67]⟩ : ByteArray), (⟨#[68, 68]⟩ : ByteArray), (⟨#[69, 69]⟩ : ByteArray), (⟨#[70, 70]⟩ : ByteArray)]) 0 rfl (by (repeat (first | exact PPick.h | apply PPick.t))) ?_
  refine pwc_ret ?_
  (repeat (first | apply pk_seq_ret | apply pk_block_ret | apply pk_mid_ret | apply pk_cut_ret))
  obtain rfl := Option.some.inj h
  exact pret_of (prv_1 (prv1_t rfl)) PSub.nil ⟨rfl, rfl⟩
/-- customs/customsmade.Item -/
def made_Item (p0 : (List Int)) : Option TItem := Option.bind (made_Cut p0 20) (fun x2 => Option.bind (made_Source_Code (⟨x2, 0⟩ : Tmade_Source) 8) (fun x4 => Option.bind (made_Countries) (fun x5 => Option.bind (made_Source_Next x4.2 4) (fun x6 => Option.bind (idx x5 x6.1) (fun m7 => Option.bind (made_Source_Next x6.2 2) (fun x8 => Option.bind (made_Source_Next x8.2 3) (fun x9 => Option.bind (made_Source_Next x9.2 41) (fun x10 => Option.bind (made_Source_Next x10.2 1000) (fun x11 => Option.bind (made_Source_Next x11.2 1000000) (fun x12 => Option.bind (made_Source_Next x12.2 6) (fun x14 => Option.bind (cond (x14.1 == 1) (Option.bind (made_Source_Next x14.2 1000000001) (fun x21 => Option.bind (made_Source_Next x21.2 1000000000001) (fun x22 => some (x21.1, x22.1, x22.2.L, x22.2.I)))) (some (x11.1, x12.1, x14.2.L, x14.2.I))) (fun (v15, v16, l17, v18) => Option.bind (made_Source_Next (⟨l17, v18⟩ : Tmade_Source) 6) (fun x23 => Option.bind (cond (x23.1 == 1) (some 0) (some v15)) (fun v24 => Option.bind (made_Source_Next x23.2 2) (fun x27 => Option.bind (cond (x27.1 == 1) (Option.bind (made_Source_Next x27.2 (IntKind.i64.wrap (v24 + 1))) (fun x31 => some x31.1)) (some 0)) (fun v28 => some (⟨x4.1, m7, (x8.1 == 1), x9.1, x10.1, v24, v16, v28⟩ : TItem)))))))))))))))))
set_option maxHeartbeats 4000000 in
theorem made_Item_ok {p0 : (List Int)} {r : TItem}  (h : made_Item p0 = some r) : PF 11 [.slc (List.map eI p0)] (.agg [.v (.string r.Code), .v (.string r.Origin), .v (.bool r.Proof), .v (.int .i64 r.Company), .v (.int .i64 r.Day), .v (.int .i64 r.Quantity), .v (.int .i64 r.Value), .v (.int .i64 r.Granted)]) := by
  unfold made_Item at h
  refine pf_of ?_
  refine penter Tryz.func11 fk11 rfl Tryz.ntmps11 Tryz.results11 rfl ?_
  refine pwc_seq ?_
  refine pwc_region ?_
  refine pwl_l rfl rfl rfl (pl_alloc (cs := [.v (.string ByteArray.empty), .v (.string ByteArray.empty), .v (.bool false), .v (.int .i64 0), .v (.int .i64 0), .v (.int .i64 0), .v (.int .i64 0), .v (.int .i64 0)]) rfl rfl rfl rfl (fun b1 => ?_))
  refine pwl_nil ?_
  (repeat (first | apply pk_block_n | apply pk_seq))
  refine pwc_seq ?_
  refine pwc_region ?_
  refine pwl_q rfl rfl rfl (pq_move (p := .slc (List.map eI p0)) rfl (.p rfl)) ?_
  refine bind_elim h ?_; clear h; intro x2 hx2 h
  refine pwl_call rfl rfl rfl rfl rfl (made_Cut_ok hx2) ?_
  refine pwl_q rfl rfl rfl (pq_build (cs := [.slc (List.map eI x2), .v (.int .i64 0)]) rfl rfl rfl rfl rfl rfl rfl (by (repeat (first | exact PFill.nil | (apply PFill.cons rfl rfl rfl rfl; (focus (repeat (first | exact PSplice.nil | apply PSplice.c | apply PSplice.t)))))))) ?_
  refine pwl_l rfl rfl rfl (pl_box (cs := [.slc (List.map eI x2), .v (.int .i64 0)]) rfl rfl (fun b3 => ?_))
  refine pwl_q rfl rfl rfl (pq_assign (p := .v (.pointer (some ⟨b3, 0, none⟩))) rfl (.p rfl)) ?_
  refine pwl_nil ?_
  (repeat (first | apply pk_block_n | apply pk_seq))
  refine pwc_seq ?_
  refine pwc_draw (ρd := [PRes.b b3 _ _]) [(0, 0), (3, 0), (7, 0), (10, 0), (12, 0), (14, 0), (16, 0), (1, 1), (2, 1), (4, 1), (5, 0), (6, 0), (8, 1), (9, 0), (11, 1), (13, 1), (15, 1), (17, 1), (18, 0), (19, 2), (20, 1)] _ (by (repeat (first | exact List.Perm.refl _ | (refine perm_pick (by (repeat (first | exact PPick.h | apply PPick.t))) ?_)))) (by kernel_rfl) rfl ?_
  refine pwd_q rfl rfl rfl (pq_move (p := .v (.pointer (some ⟨b3, 0, none⟩))) rfl (.p rfl)) ?_
  refine pwd_q rfl rfl rfl (pq_move (p := .v (.pointer (some ⟨b3, 0, none⟩))) rfl (.p rfl)) ?_
  refine pwd_q rfl rfl rfl (pq_move (p := .v (.pointer (some ⟨b3, 0, none⟩))) rfl (.p rfl)) ?_
  refine pwd_q rfl rfl rfl (pq_move (p := .v (.pointer (some ⟨b3, 0, none⟩))) rfl (.p rfl)) ?_
  refine pwd_q rfl rfl rfl (pq_move (p := .v (.pointer (some ⟨b3, 0, none⟩))) rfl (.p rfl)) ?_
  refine pwd_q rfl rfl rfl (pq_move (p := .v (.pointer (some ⟨b3, 0, none⟩))) rfl (.p rfl)) ?_
  refine pwd_q rfl rfl rfl (pq_move (p := .v (.pointer (some ⟨b3, 0, none⟩))) rfl (.p rfl)) ?_
  refine bind_elim h ?_; clear h; intro x4 hx4 h
  refine pwd_l rfl rfl rfl (pl_callR rfl rfl (ρ1 := [_]) (perm_pick (by (repeat (first | exact PPick.h | apply PPick.t))) (List.Perm.refl _)) (made_Source_Code_ok hx4) ?_); rintro _ _ ⟨rfl, rfl⟩
  refine bind_elim h ?_; clear h; intro x5 hx5 h
  refine pwd_call rfl rfl rfl rfl rfl (made_Countries_ok hx5) ?_
  refine bind_elim h ?_; clear h; intro x6 hx6 h
  refine pwd_l rfl rfl rfl (pl_callR rfl rfl (ρ1 := [_]) (perm_pick (by (repeat (first | exact PPick.h | apply PPick.t))) (List.Perm.refl _)) (made_Source_Next_ok hx6) ?_); rintro _ _ ⟨rfl, rfl⟩
  refine bind_elim h ?_; clear h; intro m7 hm7 h
  refine pwd_q rfl rfl rfl (pq_index (enc := eS) rfl rfl rfl (fun _ => rfl) (.p rfl) (.p rfl) (fun _ => hm7)) ?_
  refine pwd_q rfl rfl rfl (pq_load_r (p := .v (.string m7)) rfl (.p rfl) rfl) ?_
  refine bind_elim h ?_; clear h; intro x8 hx8 h
  refine pwd_l rfl rfl rfl (pl_callR rfl rfl (ρ1 := [_]) (perm_pick (by (repeat (first | exact PPick.h | apply PPick.t))) (List.Perm.refl _)) (made_Source_Next_ok hx8) ?_); rintro _ _ ⟨rfl, rfl⟩
  refine pwd_q rfl rfl rfl (pq_cmp rfl (.p rfl) (.p rfl) rfl) ?_
  refine bind_elim h ?_; clear h; intro x9 hx9 h
  refine pwd_l rfl rfl rfl (pl_callR rfl rfl (ρ1 := [_]) (perm_pick (by (repeat (first | exact PPick.h | apply PPick.t))) (List.Perm.refl _)) (made_Source_Next_ok hx9) ?_); rintro _ _ ⟨rfl, rfl⟩
  refine bind_elim h ?_; clear h; intro x10 hx10 h
  refine pwd_l rfl rfl rfl (pl_callR rfl rfl (ρ1 := [_]) (perm_pick (by (repeat (first | exact PPick.h | apply PPick.t))) (List.Perm.refl _)) (made_Source_Next_ok hx10) ?_); rintro _ _ ⟨rfl, rfl⟩
  refine bind_elim h ?_; clear h; intro x11 hx11 h
  refine pwd_l rfl rfl rfl (pl_callR rfl rfl (ρ1 := [_]) (perm_pick (by (repeat (first | exact PPick.h | apply PPick.t))) (List.Perm.refl _)) (made_Source_Next_ok hx11) ?_); rintro _ _ ⟨rfl, rfl⟩
  refine bind_elim h ?_; clear h; intro x12 hx12 h
  refine pwd_l rfl rfl rfl (pl_callR rfl rfl (ρ1 := [_]) (perm_pick (by (repeat (first | exact PPick.h | apply PPick.t))) (List.Perm.refl _)) (made_Source_Next_ok hx12) ?_); rintro _ _ ⟨rfl, rfl⟩
  refine pwd_q rfl rfl rfl (pq_buildZ (cs := [.v (.string x4.1), .v (.string m7), .v (.bool (x8.1 == 1)), .v (.int .i64 x9.1), .v (.int .i64 x10.1), .v (.int .i64 x11.1), .v (.int .i64 x12.1), .v (.int .i64 0)]) rfl rfl rfl rfl rfl rfl rfl (by (repeat (first | exact PFill.nil | (apply PFill.cons rfl rfl rfl rfl; (focus (repeat (first | exact PSplice.nil | apply PSplice.c | apply PSplice.t)))))))) ?_
  refine pwd_late (plate_alloc rfl rfl rfl rfl rfl) (fun _ => rfl) rfl (fun b13 => ?_)
  refine pwd_l0 rfl rfl (pl_store (vs := [.v (.string x4.1), .v (.string m7), .v (.bool (x8.1 == 1)), .v (.int .i64 x9.1), .v (.int .i64 x10.1), .v (.int .i64 x11.1), .v (.int .i64 x12.1), .v (.int .i64 0)]) rfl rfl rfl rfl rfl (by (repeat (first | exact PUpd.h | apply PUpd.t))) (by (repeat (first | exact PSplice.nil | apply PSplice.c | apply PSplice.t))) ?_)
  refine pwd_nil ?_
  (repeat (first | apply pk_block_n | apply pk_seq))
  refine pwc_seq ?_
  refine pwc_seq ?_
  refine pwc_region ?_
  refine pwl_q rfl rfl rfl (pq_move (p := .v (.pointer (some ⟨b3, 0, none⟩))) rfl (.p rfl)) ?_
  refine bind_elim h ?_; clear h; intro x14 hx14 h
  refine pwl_l rfl rfl rfl (pl_callR rfl rfl (ρ1 := [_]) (perm_pick (by (repeat (first | exact PPick.h | apply PPick.t))) (List.Perm.refl _)) (made_Source_Next_ok hx14) ?_); rintro _ _ ⟨rfl, rfl⟩
  refine pwl_q rfl rfl rfl (pq_cmp rfl (.p rfl) (.p rfl) rfl) ?_
  refine pwl_nil ?_
  (repeat (first | apply pk_block_n | apply pk_seq))
  refine bind_elim h ?_; clear h; intro q19 hq19 h
  refine pwc_join (Y := (Unit) × (Int × Int × (List Int) × Int)) (fun (_, (v15, v16, l17, v18)) => [(2, .v (.pointer (some ⟨b1, 0, none⟩))), (3, .v (.pointer (some ⟨b3, 0, none⟩))), (4, .v (.pointer (some ⟨b13, 0, none⟩)))]) (fun (_, (v15, v16, l17, v18)) => [PRes.b b1 23 [.v (.string ByteArray.empty), .v (.string ByteArray.empty), .v (.bool false), .v (.int .i64 0), .v (.int .i64 0), .v (.int .i64 0), .v (.int .i64 0), .v (.int .i64 0)], PRes.b b13 23 [.v (.string x4.1), .v (.string m7), .v (.bool (x8.1 == 1)), .v (.int .i64 x9.1), .v (.int .i64 x10.1), .v (.int .i64 v15), .v (.int .i64 v16), .v (.int .i64 0)], PRes.b b3 59 [.slc (List.map eI l17), .v (.int .i64 v18)]]) (fun (_, (v15, v16, l17, v18)) => q19 = (v15, v16, l17, v18)) ?_ ?_
  · skip
    refine pwc_cond rfl (fun hc20 => ?_) (fun hc20 => ?_)
    · replace hq19 := cond_t hc20 hq19
      refine pwc_region ?_
      refine pwl_q rfl rfl rfl (pq_move (p := .v (.pointer (some ⟨b3, 0, none⟩))) rfl (.p rfl)) ?_
      refine bind_elim hq19 ?_; clear hq19; intro x21 hx21 hq19
      refine pwl_l rfl rfl rfl (pl_callR rfl rfl (ρ1 := [_]) (perm_pick (by (repeat (first | exact PPick.h | apply PPick.t))) (List.Perm.refl _)) (made_Source_Next_ok hx21) ?_); rintro _ _ ⟨rfl, rfl⟩
      refine pwl_q rfl rfl rfl (pq_move (p := .v (.pointer (some ⟨b3, 0, none⟩))) rfl (.p rfl)) ?_
      refine bind_elim hq19 ?_; clear hq19; intro x22 hx22 hq19
      refine pwl_l rfl rfl rfl (pl_callR rfl rfl (ρ1 := [_]) (perm_pick (by (repeat (first | exact PPick.h | apply PPick.t))) (List.Perm.refl _)) (made_Source_Next_ok hx22) ?_); rintro _ _ ⟨rfl, rfl⟩
      refine pwl_q rfl rfl rfl (pq_fieldAddr rfl rfl rfl rfl rfl (.p rfl)) ?_
      refine pwl_l0 rfl rfl (pl_store (vs := [.v (.int .i64 x21.1)]) rfl rfl rfl rfl rfl (by (repeat (first | exact PUpd.h | apply PUpd.t))) (by (repeat (first | exact PSplice.nil | apply PSplice.c | apply PSplice.t))) ?_)
      refine pwl_q rfl rfl rfl (pq_fieldAddr rfl rfl rfl rfl rfl (.p rfl)) ?_
      refine pwl_l0 rfl rfl (pl_store (vs := [.v (.int .i64 x22.1)]) rfl rfl rfl rfl rfl (by (repeat (first | exact PUpd.h | apply PUpd.t))) (by (repeat (first | exact PSplice.nil | apply PSplice.c | apply PSplice.t))) ?_)
      refine pwl_nil ?_
      obtain rfl := Option.some.inj hq19
      exact pk_mid ((), (x21.1, x22.1, x22.2.L, x22.2.I)) (by (repeat (first | exact PHolds.nil | apply PHolds.cons rfl))) (by (repeat (first | exact PSub.nil | (apply PSub.cons; (focus (repeat (first | exact PPick.h | apply PPick.t))))))) rfl
    · replace hq19 := cond_f hc20 hq19
      refine pwc_skip ?_
      obtain rfl := Option.some.inj hq19
      exact pk_mid ((), (x11.1, x12.1, x14.2.L, x14.2.I)) (by (repeat (first | exact PHolds.nil | apply PHolds.cons rfl))) (by (repeat (first | exact PSub.nil | (apply PSub.cons; (focus (repeat (first | exact PPick.h | apply PPick.t))))))) rfl
  · rintro ⟨_, ⟨v15, v16, l17, v18⟩⟩ τ hz; (try dsimp only at hz); subst q19; (try dsimp only at h); dsimp only [pupds]
    refine pwc_seq ?_
    refine pwc_seq ?_
    refine pwc_region ?_
    refine pwl_q rfl rfl rfl (pq_move (p := .v (.pointer (some ⟨b3, 0, none⟩))) rfl (.p rfl)) ?_
    refine bind_elim h ?_; clear h; intro x23 hx23 h
    refine pwl_l rfl rfl rfl (pl_callR rfl rfl (ρ1 := [_]) (perm_pick (by (repeat (first | exact PPick.h | apply PPick.t))) (List.Perm.refl _)) (made_Source_Next_ok hx23) ?_); rintro _ _ ⟨rfl, rfl⟩
    refine pwl_q rfl rfl rfl (pq_cmp rfl (.p rfl) (.p rfl) rfl) ?_
    refine pwl_nil ?_
    (repeat (first | apply pk_block_n | apply pk_seq))
    refine bind_elim h ?_; clear h; intro q25 hq25 h
    refine pwc_join (Y := (Unit) × (Int)) (fun (_, v24) => [(2, .v (.pointer (some ⟨b1, 0, none⟩))), (3, .v (.pointer (some ⟨b3, 0, none⟩))), (4, .v (.pointer (some ⟨b13, 0, none⟩)))]) (fun (_, v24) => [PRes.b b1 23 [.v (.string ByteArray.empty), .v (.string ByteArray.empty), .v (.bool false), .v (.int .i64 0), .v (.int .i64 0), .v (.int .i64 0), .v (.int .i64 0), .v (.int .i64 0)], PRes.b b13 23 [.v (.string x4.1), .v (.string m7), .v (.bool (x8.1 == 1)), .v (.int .i64 x9.1), .v (.int .i64 x10.1), .v (.int .i64 v24), .v (.int .i64 v16), .v (.int .i64 0)], PRes.b b3 59 [.slc (List.map eI x23.2.L), .v (.int .i64 x23.2.I)]]) (fun (_, v24) => q25 = v24) ?_ ?_
    · skip
      refine pwc_cond rfl (fun hc26 => ?_) (fun hc26 => ?_)
      · replace hq25 := cond_t hc26 hq25
        refine pwc_region ?_
        refine pwl_q rfl rfl rfl (pq_fieldAddr rfl rfl rfl rfl rfl (.p rfl)) ?_
        refine pwl_l0 rfl rfl (pl_store (vs := [.v (.int .i64 0)]) rfl rfl rfl rfl rfl (by (repeat (first | exact PUpd.h | apply PUpd.t))) (by (repeat (first | exact PSplice.nil | apply PSplice.c | apply PSplice.t))) ?_)
        refine pwl_nil ?_
        obtain rfl := Option.some.inj hq25
        exact pk_mid ((), 0) (by (repeat (first | exact PHolds.nil | apply PHolds.cons rfl))) (by (repeat (first | exact PSub.nil | (apply PSub.cons; (focus (repeat (first | exact PPick.h | apply PPick.t))))))) rfl
      · replace hq25 := cond_f hc26 hq25
        refine pwc_skip ?_
        obtain rfl := Option.some.inj hq25
        exact pk_mid ((), v15) (by (repeat (first | exact PHolds.nil | apply PHolds.cons rfl))) (by (repeat (first | exact PSub.nil | (apply PSub.cons; (focus (repeat (first | exact PPick.h | apply PPick.t))))))) rfl
    · rintro ⟨_, v24⟩ τ hz; (try dsimp only at hz); subst q25; (try dsimp only at h); dsimp only [pupds]
      refine pwc_seq ?_
      refine pwc_seq ?_
      refine pwc_region ?_
      refine pwl_q rfl rfl rfl (pq_move (p := .v (.pointer (some ⟨b3, 0, none⟩))) rfl (.p rfl)) ?_
      refine bind_elim h ?_; clear h; intro x27 hx27 h
      refine pwl_l rfl rfl rfl (pl_callR rfl rfl (ρ1 := [_]) (perm_pick (by (repeat (first | exact PPick.h | apply PPick.t))) (List.Perm.refl _)) (made_Source_Next_ok hx27) ?_); rintro _ _ ⟨rfl, rfl⟩
      refine pwl_q rfl rfl rfl (pq_cmp rfl (.p rfl) (.p rfl) rfl) ?_
      refine pwl_nil ?_
      (repeat (first | apply pk_block_n | apply pk_seq))
      refine bind_elim h ?_; clear h; intro q29 hq29 h
      refine pwc_join (Y := (Unit) × (Int)) (fun (_, v28) => [(2, .v (.pointer (some ⟨b1, 0, none⟩))), (4, .v (.pointer (some ⟨b13, 0, none⟩)))]) (fun (_, v28) => [PRes.b b1 23 [.v (.string ByteArray.empty), .v (.string ByteArray.empty), .v (.bool false), .v (.int .i64 0), .v (.int .i64 0), .v (.int .i64 0), .v (.int .i64 0), .v (.int .i64 0)], PRes.b b13 23 [.v (.string x4.1), .v (.string m7), .v (.bool (x8.1 == 1)), .v (.int .i64 x9.1), .v (.int .i64 x10.1), .v (.int .i64 v24), .v (.int .i64 v16), .v (.int .i64 v28)]]) (fun (_, v28) => q29 = v28) ?_ ?_
      · skip
        refine pwc_cond rfl (fun hc30 => ?_) (fun hc30 => ?_)
        · replace hq29 := cond_t hc30 hq29
          refine pwc_region ?_
          refine pwl_q rfl rfl rfl (pq_move (p := .v (.pointer (some ⟨b3, 0, none⟩))) rfl (.p rfl)) ?_
          refine pwl_q rfl rfl rfl (pq_fieldAddr rfl rfl rfl rfl rfl (.p rfl)) ?_
          refine pwl_q rfl rfl rfl (pq_load_b (p := .v (.int .i64 v24)) rfl (.p rfl) (by (repeat (first | exact List.Mem.head _ | apply List.Mem.tail))) rfl) ?_
          refine pwl_q rfl rfl rfl (pq_arith rfl (.p rfl) (.p rfl) rfl) ?_
          refine bind_elim hq29 ?_; clear hq29; intro x31 hx31 hq29
          refine pwl_l rfl rfl rfl (pl_callR rfl rfl (ρ1 := [_]) (perm_pick (by (repeat (first | exact PPick.h | apply PPick.t))) (List.Perm.refl _)) (made_Source_Next_ok hx31) ?_); rintro _ _ ⟨rfl, rfl⟩
          refine pwl_q rfl rfl rfl (pq_fieldAddr rfl rfl rfl rfl rfl (.p rfl)) ?_
          refine pwl_l0 rfl rfl (pl_store (vs := [.v (.int .i64 x31.1)]) rfl rfl rfl rfl rfl (by (repeat (first | exact PUpd.h | apply PUpd.t))) (by (repeat (first | exact PSplice.nil | apply PSplice.c | apply PSplice.t))) ?_)
          refine pwl_nil ?_
          obtain rfl := Option.some.inj hq29
          exact pk_mid ((), x31.1) (by (repeat (first | exact PHolds.nil | apply PHolds.cons rfl))) (by (repeat (first | exact PSub.nil | (apply PSub.cons; (focus (repeat (first | exact PPick.h | apply PPick.t))))))) rfl
        · replace hq29 := cond_f hc30 hq29
          refine pwc_skip ?_
          obtain rfl := Option.some.inj hq29
          exact pk_mid ((), 0) (by (repeat (first | exact PHolds.nil | apply PHolds.cons rfl))) (by (repeat (first | exact PSub.nil | (apply PSub.cons; (focus (repeat (first | exact PPick.h | apply PPick.t))))))) rfl
      · rintro ⟨_, v28⟩ τ hz; (try dsimp only at hz); subst q29; (try dsimp only at h); dsimp only [pupds]
        refine pwc_seq ?_
        refine pwc_region ?_
        refine pwl_q rfl rfl rfl (pq_load_b (p := .agg [.v (.string x4.1), .v (.string m7), .v (.bool (x8.1 == 1)), .v (.int .i64 x9.1), .v (.int .i64 x10.1), .v (.int .i64 v24), .v (.int .i64 v16), .v (.int .i64 v28)]) rfl (.p rfl) (by (repeat (first | exact List.Mem.head _ | apply List.Mem.tail))) rfl) ?_
        refine pwl_l0 rfl rfl (pl_store (vs := [.v (.string x4.1), .v (.string m7), .v (.bool (x8.1 == 1)), .v (.int .i64 x9.1), .v (.int .i64 x10.1), .v (.int .i64 v24), .v (.int .i64 v16), .v (.int .i64 v28)]) rfl rfl rfl rfl rfl (by (repeat (first | exact PUpd.h | apply PUpd.t))) (by (repeat (first | exact PSplice.nil | apply PSplice.c | apply PSplice.t))) ?_)
        refine pwl_nil ?_
        (repeat (first | apply pk_block_n | apply pk_seq))
        refine pwc_ret ?_
        (repeat (first | apply pk_seq_ret | apply pk_block_ret | apply pk_mid_ret | apply pk_cut_ret))
        obtain rfl := Option.some.inj h
        exact pret_of (prv_1 (prv1_c rfl (by (repeat (first | exact List.Mem.head _ | apply List.Mem.tail))) rfl)) PSub.nil ⟨rfl, rfl⟩
/-- customs/production.isCapital -/
def production_isCapital (p0 : Int) : Option Bool := some ((decide (65 ≤ p0)) && (decide (p0 ≤ 90)))
set_option maxHeartbeats 4000000 in
theorem production_isCapital_ok {p0 : Int} {r : Bool}  (h : production_isCapital p0 = some r) : PF 52 [.v (.int .u8 p0)] (.v (.bool r)) := by
  unfold production_isCapital at h
  refine pf_of ?_
  refine penter Tryz.func52 fk52 rfl Tryz.ntmps52 Tryz.results52 rfl ?_
  refine pwc_seq ?_
  refine pwc_region ?_
  refine pwl_q rfl rfl rfl (pq_assign (p := .v (.bool false)) rfl (.p rfl)) ?_
  refine pwl_nil ?_
  (repeat (first | apply pk_block_n | apply pk_seq))
  refine pwc_seq ?_
  refine pwc_region ?_
  refine pwl_q rfl rfl rfl (pq_move (p := .v (.int .u8 p0)) rfl (.p rfl)) ?_
  refine pwl_q rfl rfl rfl (pq_cmp rfl (.p rfl) (.p rfl) rfl) ?_
  refine pwl_q rfl rfl rfl (pq_move (p := .v (.bool (decide (65 ≤ p0)))) rfl (.p rfl)) ?_
  refine pwl_qg (pguard_t rfl rfl rfl) rfl rfl (pq_move (p := .v (.int .u8 p0)) rfl (.p rfl)) ?_
  refine pwl_qg (pguard_t rfl rfl rfl) rfl rfl (pq_cmp rfl (.g rfl) (.p rfl) rfl) ?_
  refine pwl_q rfl rfl rfl (pq_and rfl (.p rfl) (.p rfl) (.g rfl)) ?_
  refine pwl_q rfl rfl rfl (pq_assign (p := .v (.bool ((decide (65 ≤ p0)) && (decide (p0 ≤ 90))))) rfl (.p rfl)) ?_
  refine pwl_nil ?_
  (repeat (first | apply pk_block_n | apply pk_seq))
  refine pwc_ret ?_
  (repeat (first | apply pk_seq_ret | apply pk_block_ret | apply pk_mid_ret | apply pk_cut_ret))
  obtain rfl := Option.some.inj h
  exact pret_of (prv_1 (prv1_t rfl)) PSub.nil ⟨rfl, rfl⟩
/-- customs/production.ValidCountry -/
def production_ValidCountry (p0 : ByteArray) : Option Bool := Option.bind (gd ((p0.size : Int) == 2) (idx p0.data.toList 0)) (fun c1 => Option.bind (gd ((p0.size : Int) == 2) (production_isCapital (c1.toNat : Int))) (fun x2 => Option.bind (gd (((p0.size : Int) == 2) && x2) (idx p0.data.toList 1)) (fun c3 => Option.bind (gd (((p0.size : Int) == 2) && x2) (production_isCapital (c3.toNat : Int))) (fun x4 => some ((((p0.size : Int) == 2) && x2) && x4)))))
set_option maxHeartbeats 4000000 in
theorem production_ValidCountry_ok {p0 : ByteArray} {r : Bool}  (h : production_ValidCountry p0 = some r) : PF 31 [.v (.string p0)] (.v (.bool r)) := by
  unfold production_ValidCountry at h
  refine pf_of ?_
  refine penter Tryz.func31 fk31 rfl Tryz.ntmps31 Tryz.results31 rfl ?_
  refine pwc_seq ?_
  refine pwc_region ?_
  refine pwl_q rfl rfl rfl (pq_assign (p := .v (.bool false)) rfl (.p rfl)) ?_
  refine pwl_nil ?_
  (repeat (first | apply pk_block_n | apply pk_seq))
  refine pwc_seq ?_
  refine pwc_region ?_
  refine pwl_q rfl rfl rfl (pq_move (p := .v (.string p0)) rfl (.p rfl)) ?_
  refine pwl_q rfl rfl rfl (pq_lenS rfl rfl (.p rfl)) ?_
  refine pwl_q rfl rfl rfl (pq_cmp rfl (.p rfl) (.p rfl) rfl) ?_
  refine pwl_q rfl rfl rfl (pq_move (p := .v (.bool ((p0.size : Int) == 2))) rfl (.p rfl)) ?_
  refine pwl_qg (pguard_t rfl rfl rfl) rfl rfl (pq_move (p := .v (.string p0)) rfl (.p rfl)) ?_
  refine bind_elim h ?_; clear h; intro c1 hc1 h
  refine pwl_qg (pguard_t rfl rfl rfl) rfl rfl (pq_indexS rfl rfl (.g rfl) (.p rfl) (gd_t hc1)) ?_
  refine bind_elim h ?_; clear h; intro x2 hx2 h
  refine pwl_callg (pguard_t rfl rfl rfl) rfl rfl rfl (pargs_cons (.g rfl) (pargs_nil)) (fun hc => production_isCapital_ok (gd_t hx2 hc)) ?_
  refine pwl_q rfl rfl rfl (pq_and rfl (.p rfl) (.p rfl) (.g rfl)) ?_
  refine pwl_q rfl rfl rfl (pq_move (p := .v (.bool (((p0.size : Int) == 2) && x2))) rfl (.p rfl)) ?_
  refine pwl_qg (pguard_t rfl rfl rfl) rfl rfl (pq_move (p := .v (.string p0)) rfl (.p rfl)) ?_
  refine bind_elim h ?_; clear h; intro c3 hc3 h
  refine pwl_qg (pguard_t rfl rfl rfl) rfl rfl (pq_indexS rfl rfl (.g rfl) (.p rfl) (gd_t hc3)) ?_
  refine bind_elim h ?_; clear h; intro x4 hx4 h
  refine pwl_callg (pguard_t rfl rfl rfl) rfl rfl rfl (pargs_cons (.g rfl) (pargs_nil)) (fun hc => production_isCapital_ok (gd_t hx4 hc)) ?_
  refine pwl_q rfl rfl rfl (pq_and rfl (.p rfl) (.p rfl) (.g rfl)) ?_
  refine pwl_q rfl rfl rfl (pq_assign (p := .v (.bool ((((p0.size : Int) == 2) && x2) && x4))) rfl (.p rfl)) ?_
  refine pwl_nil ?_
  (repeat (first | apply pk_block_n | apply pk_seq))
  refine pwc_ret ?_
  (repeat (first | apply pk_seq_ret | apply pk_block_ret | apply pk_mid_ret | apply pk_cut_ret))
  obtain rfl := Option.some.inj h
  exact pret_of (prv_1 (prv1_t rfl)) PSub.nil ⟨rfl, rfl⟩
/-- customs/customsref08.Level -/
def ref08_Level (p0 : ByteArray) : Option Int := Option.bind (loopF (S := Int) (T := (Unit) ⊕ (_)) (fun v1 => cond (decide (v1 < (p0.size : Int))) (Option.bind (idx p0.data.toList v1) (fun c5 => Option.bind (gd (!(decide ((c5.toNat : Int) < 48))) (idx p0.data.toList v1)) (fun c6 => cond ((decide ((c5.toNat : Int) < 48)) || (decide (57 < (c6.toNat : Int)))) (some (.inr (.inr 0))) (some (.inl (IntKind.i64.wrap (v1 + 1))))))) (some (.inr (.inl ())))) FUEL 0) (fun q => match q with | .inl _ => cond ((decide (8 < (p0.size : Int))) || ((Int.tmod (p0.size : Int) 2) == 1)) (some 0) (some (p0.size : Int)) | .inr e => some e)
set_option maxHeartbeats 4000000 in
theorem ref08_Level_ok {p0 : ByteArray} {r : Int}  (h : ref08_Level p0 = some r) : PF 32 [.v (.string p0)] (.v (.int .i64 r)) := by
  unfold ref08_Level at h
  refine pf_of ?_
  refine penter Tryz.func32 fk32 rfl Tryz.ntmps32 Tryz.results32 rfl ?_
  refine pwc_seq ?_
  refine pwc_region ?_
  refine pwl_q rfl rfl rfl (pq_assign (p := .v (.int .i64 0)) rfl (.p rfl)) ?_
  refine pwl_nil ?_
  (repeat (first | apply pk_block_n | apply pk_seq))
  refine pwc_seq ?_
  refine pwc_seq ?_
  refine pwc_region ?_
  refine pwl_q rfl rfl rfl (pq_assign (p := .v (.int .i64 0)) rfl (.p rfl)) ?_
  refine pwl_nil ?_
  (repeat (first | apply pk_block_n | apply pk_seq))
  refine bind_elim h ?_; clear h; intro q3 hq3 h
  refine pwc_join (Y := (Unit) × (Unit)) (fun (_, _) => [(0, .v (.string p0))]) (fun (_, _) => []) (fun (_, _) => q3 = Sum.inl ()) ?_ ?_
  · refine pwc_block ?_
    refine pwc_loopF (Y := Unit) (S := Int) _ hq3 (fun _ v1 => [(0, .v (.string p0)), (3, .v (.int .i64 v1))]) (fun _ v1 => []) () (by (repeat (first | exact PHolds.nil | apply PHolds.cons rfl))) (by (repeat (first | exact PSub.nil | (apply PSub.cons; (focus (repeat (first | exact PPick.h | apply PPick.t))))))) ?_
    rintro _ v1 o τ hb2; (try dsimp only at hb2); dsimp only [pupds]
    refine pwc_seq ?_
    refine pwc_seq ?_
    refine pwc_region ?_
    refine pwl_q rfl rfl rfl (pq_move (p := .v (.int .i64 v1)) rfl (.p rfl)) ?_
    refine pwl_q rfl rfl rfl (pq_move (p := .v (.string p0)) rfl (.p rfl)) ?_
    refine pwl_q rfl rfl rfl (pq_lenS rfl rfl (.p rfl)) ?_
    refine pwl_q rfl rfl rfl (pq_cmp rfl (.p rfl) (.p rfl) rfl) ?_
    refine pwl_nil ?_
    (repeat (first | apply pk_block_n | apply pk_seq))
    refine pwc_cond rfl (fun hc4 => ?_) (fun hc4 => ?_)
    · replace hb2 := cond_t hc4 hb2
      refine pwc_skip ?_
      (repeat (first | apply pk_block_n | apply pk_seq))
      refine pwc_seq ?_
      refine pwc_block ?_
      refine pwc_seq ?_
      refine pwc_region ?_
      refine pwl_q rfl rfl rfl (pq_move (p := .v (.string p0)) rfl (.p rfl)) ?_
      refine pwl_q rfl rfl rfl (pq_move (p := .v (.int .i64 v1)) rfl (.p rfl)) ?_
      refine bind_elim hb2 ?_; clear hb2; intro c5 hc5 hb2
      refine pwl_q rfl rfl rfl (pq_indexS rfl rfl (.p rfl) (.p rfl) (fun _ => hc5)) ?_
      refine pwl_q rfl rfl rfl (pq_cmp rfl (.p rfl) (.p rfl) rfl) ?_
      refine pwl_q rfl rfl rfl (pq_move (p := .v (.bool (decide ((c5.toNat : Int) < 48)))) rfl (.p rfl)) ?_
      refine pwl_qg (pguard_f rfl rfl rfl) rfl rfl (pq_move (p := .v (.string p0)) rfl (.p rfl)) ?_
      refine pwl_qg (pguard_f rfl rfl rfl) rfl rfl (pq_move (p := .v (.int .i64 v1)) rfl (.p rfl)) ?_
      refine bind_elim hb2 ?_; clear hb2; intro c6 hc6 hb2
      refine pwl_qg (pguard_f rfl rfl rfl) rfl rfl (pq_indexS rfl rfl (.g rfl) (.g rfl) (gd_t hc6)) ?_
      refine pwl_qg (pguard_f rfl rfl rfl) rfl rfl (pq_cmp rfl (.g rfl) (.p rfl) rfl) ?_
      refine pwl_q rfl rfl rfl (pq_or rfl (.p rfl) (.p rfl) (.g rfl)) ?_
      refine pwl_nil ?_
      (repeat (first | apply pk_block_n | apply pk_seq))
      refine pwc_cond rfl (fun hc7 => ?_) (fun hc7 => ?_)
      · replace hb2 := cond_t hc7 hb2
        refine pwc_seq ?_
        refine pwc_region ?_
        refine pwl_q rfl rfl rfl (pq_assign (p := .v (.int .i64 0)) rfl (.p rfl)) ?_
        refine pwl_nil ?_
        (repeat (first | apply pk_block_n | apply pk_seq))
        refine pwc_ret ?_
        (repeat (first | apply pk_seq_ret | apply pk_block_ret | apply pk_mid_ret | apply pk_cut_ret))
        refine pk_loop_ret hb2 (fun ht => ?_); subst ht
        have h := (show some _ = some _ from h)
        (repeat (first | apply pk_seq_ret | apply pk_block_ret | apply pk_mid_ret | apply pk_cut_ret))
        obtain rfl := Option.some.inj h
        exact pret_of (prv_1 (prv1_t rfl)) PSub.nil ⟨rfl, rfl⟩
      · replace hb2 := cond_f hc7 hb2
        refine pwc_skip ?_
        refine pk_block_n ?_
        (repeat (first | apply pk_block_n | apply pk_seq))
        refine pwc_region ?_
        refine pwl_q rfl rfl rfl (pq_move (p := .v (.int .i64 v1)) rfl (.p rfl)) ?_
        refine pwl_q rfl rfl rfl (pq_arith rfl (.p rfl) (.p rfl) rfl) ?_
        refine pwl_q rfl rfl rfl (pq_assign (p := .v (.int .i64 (IntKind.i64.wrap (v1 + 1)))) rfl (.p rfl)) ?_
        refine pwl_nil ?_
        (repeat apply pk_block_n)
        exact pk_loop hb2 () (by (repeat (first | exact PHolds.nil | apply PHolds.cons rfl))) (by (repeat (first | exact PSub.nil | (apply PSub.cons; (focus (repeat (first | exact PPick.h | apply PPick.t)))))))
    · replace hb2 := cond_f hc4 hb2
      refine pwc_exit ?_
      (repeat (first | apply pk_seq_exit | apply pk_mid_exit | apply pk_cut_exit | apply pk_block_ne rfl))
      refine pk_loop_exit hb2 (fun ht => ?_)
      refine pk_block_eq rfl ?_
      exact pk_mid ((), ()) (by (repeat (first | exact PHolds.nil | apply PHolds.cons rfl))) (by (repeat (first | exact PSub.nil | (apply PSub.cons; (focus (repeat (first | exact PPick.h | apply PPick.t))))))) ht.symm
  · rintro ⟨_, _⟩ τ hz; (try dsimp only at hz); subst q3; (try dsimp only at h); dsimp only [pupds]
    refine pwc_seq ?_
    refine pwc_seq ?_
    refine pwc_region ?_
    refine pwl_q rfl rfl rfl (pq_move (p := .v (.string p0)) rfl (.p rfl)) ?_
    refine pwl_q rfl rfl rfl (pq_lenS rfl rfl (.p rfl)) ?_
    refine pwl_q rfl rfl rfl (pq_cmp rfl (.p rfl) (.p rfl) rfl) ?_
    refine pwl_q rfl rfl rfl (pq_move (p := .v (.bool (decide (8 < (p0.size : Int))))) rfl (.p rfl)) ?_
    refine pwl_qg (pguard_f rfl rfl rfl) rfl rfl (pq_move (p := .v (.string p0)) rfl (.p rfl)) ?_
    refine pwl_qg (pguard_f rfl rfl rfl) rfl rfl (pq_lenS rfl rfl (.g rfl)) ?_
    refine pwl_qg (pguard_f rfl rfl rfl) rfl rfl (pq_rem rfl (.g rfl) (.p rfl) (fun _ => by decide)) ?_
    refine pwl_qg (pguard_f rfl rfl rfl) rfl rfl (pq_cmp rfl (.g rfl) (.p rfl) rfl) ?_
    refine pwl_q rfl rfl rfl (pq_or rfl (.p rfl) (.p rfl) (.g rfl)) ?_
    refine pwl_nil ?_
    (repeat (first | apply pk_block_n | apply pk_seq))
    refine pwc_cond rfl (fun hc8 => ?_) (fun hc8 => ?_)
    · replace h := cond_t hc8 h
      refine pwc_seq ?_
      refine pwc_region ?_
      refine pwl_q rfl rfl rfl (pq_assign (p := .v (.int .i64 0)) rfl (.p rfl)) ?_
      refine pwl_nil ?_
      (repeat (first | apply pk_block_n | apply pk_seq))
      refine pwc_ret ?_
      (repeat (first | apply pk_seq_ret | apply pk_block_ret | apply pk_mid_ret | apply pk_cut_ret))
      obtain rfl := Option.some.inj h
      exact pret_of (prv_1 (prv1_t rfl)) PSub.nil ⟨rfl, rfl⟩
    · replace h := cond_f hc8 h
      refine pwc_skip ?_
      (repeat (first | apply pk_block_n | apply pk_seq))
      refine pwc_seq ?_
      refine pwc_region ?_
      refine pwl_q rfl rfl rfl (pq_move (p := .v (.string p0)) rfl (.p rfl)) ?_
      refine pwl_q rfl rfl rfl (pq_lenS rfl rfl (.p rfl)) ?_
      refine pwl_q rfl rfl rfl (pq_assign (p := .v (.int .i64 (p0.size : Int))) rfl (.p rfl)) ?_
      refine pwl_nil ?_
      (repeat (first | apply pk_block_n | apply pk_seq))
      refine pwc_ret ?_
      (repeat (first | apply pk_seq_ret | apply pk_block_ret | apply pk_mid_ret | apply pk_cut_ret))
      obtain rfl := Option.some.inj h
      exact pret_of (prv_1 (prv1_t rfl)) PSub.nil ⟨rfl, rfl⟩
/-- customs/customsref06.Country -/
def ref06_Country (p0 : ByteArray) : Option Bool := Option.bind (gd ((p0.size : Int) == 2) (idx p0.data.toList 0)) (fun c1 => Option.bind (gd (((p0.size : Int) == 2) && (decide (65 ≤ (c1.toNat : Int)))) (idx p0.data.toList 0)) (fun c2 => Option.bind (gd ((((p0.size : Int) == 2) && (decide (65 ≤ (c1.toNat : Int)))) && (decide ((c2.toNat : Int) ≤ 90))) (idx p0.data.toList 1)) (fun c3 => Option.bind (gd (((((p0.size : Int) == 2) && (decide (65 ≤ (c1.toNat : Int)))) && (decide ((c2.toNat : Int) ≤ 90))) && (decide (65 ≤ (c3.toNat : Int)))) (idx p0.data.toList 1)) (fun c4 => some ((((((p0.size : Int) == 2) && (decide (65 ≤ (c1.toNat : Int)))) && (decide ((c2.toNat : Int) ≤ 90))) && (decide (65 ≤ (c3.toNat : Int)))) && (decide ((c4.toNat : Int) ≤ 90)))))))
set_option maxHeartbeats 4000000 in
theorem ref06_Country_ok {p0 : ByteArray} {r : Bool}  (h : ref06_Country p0 = some r) : PF 33 [.v (.string p0)] (.v (.bool r)) := by
  unfold ref06_Country at h
  refine pf_of ?_
  refine penter Tryz.func33 fk33 rfl Tryz.ntmps33 Tryz.results33 rfl ?_
  refine pwc_seq ?_
  refine pwc_region ?_
  refine pwl_q rfl rfl rfl (pq_assign (p := .v (.bool false)) rfl (.p rfl)) ?_
  refine pwl_nil ?_
  (repeat (first | apply pk_block_n | apply pk_seq))
  refine pwc_seq ?_
  refine pwc_region ?_
  refine pwl_q rfl rfl rfl (pq_move (p := .v (.string p0)) rfl (.p rfl)) ?_
  refine pwl_q rfl rfl rfl (pq_lenS rfl rfl (.p rfl)) ?_
  refine pwl_q rfl rfl rfl (pq_cmp rfl (.p rfl) (.p rfl) rfl) ?_
  refine pwl_q rfl rfl rfl (pq_move (p := .v (.bool ((p0.size : Int) == 2))) rfl (.p rfl)) ?_
  refine pwl_qg (pguard_t rfl rfl rfl) rfl rfl (pq_move (p := .v (.string p0)) rfl (.p rfl)) ?_
  refine bind_elim h ?_; clear h; intro c1 hc1 h
  refine pwl_qg (pguard_t rfl rfl rfl) rfl rfl (pq_indexS rfl rfl (.g rfl) (.p rfl) (gd_t hc1)) ?_
  refine pwl_qg (pguard_t rfl rfl rfl) rfl rfl (pq_cmp rfl (.g rfl) (.p rfl) rfl) ?_
  refine pwl_q rfl rfl rfl (pq_and rfl (.p rfl) (.p rfl) (.g rfl)) ?_
  refine pwl_q rfl rfl rfl (pq_move (p := .v (.bool (((p0.size : Int) == 2) && (decide (65 ≤ (c1.toNat : Int)))))) rfl (.p rfl)) ?_
  refine pwl_qg (pguard_t rfl rfl rfl) rfl rfl (pq_move (p := .v (.string p0)) rfl (.p rfl)) ?_
  refine bind_elim h ?_; clear h; intro c2 hc2 h
  refine pwl_qg (pguard_t rfl rfl rfl) rfl rfl (pq_indexS rfl rfl (.g rfl) (.p rfl) (gd_t hc2)) ?_
  refine pwl_qg (pguard_t rfl rfl rfl) rfl rfl (pq_cmp rfl (.g rfl) (.p rfl) rfl) ?_
  refine pwl_q rfl rfl rfl (pq_and rfl (.p rfl) (.p rfl) (.g rfl)) ?_
  refine pwl_q rfl rfl rfl (pq_move (p := .v (.bool ((((p0.size : Int) == 2) && (decide (65 ≤ (c1.toNat : Int)))) && (decide ((c2.toNat : Int) ≤ 90))))) rfl (.p rfl)) ?_
  refine pwl_qg (pguard_t rfl rfl rfl) rfl rfl (pq_move (p := .v (.string p0)) rfl (.p rfl)) ?_
  refine bind_elim h ?_; clear h; intro c3 hc3 h
  refine pwl_qg (pguard_t rfl rfl rfl) rfl rfl (pq_indexS rfl rfl (.g rfl) (.p rfl) (gd_t hc3)) ?_
  refine pwl_qg (pguard_t rfl rfl rfl) rfl rfl (pq_cmp rfl (.g rfl) (.p rfl) rfl) ?_
  refine pwl_q rfl rfl rfl (pq_and rfl (.p rfl) (.p rfl) (.g rfl)) ?_
  refine pwl_q rfl rfl rfl (pq_move (p := .v (.bool (((((p0.size : Int) == 2) && (decide (65 ≤ (c1.toNat : Int)))) && (decide ((c2.toNat : Int) ≤ 90))) && (decide (65 ≤ (c3.toNat : Int)))))) rfl (.p rfl)) ?_
  refine pwl_qg (pguard_t rfl rfl rfl) rfl rfl (pq_move (p := .v (.string p0)) rfl (.p rfl)) ?_
  refine bind_elim h ?_; clear h; intro c4 hc4 h
  refine pwl_qg (pguard_t rfl rfl rfl) rfl rfl (pq_indexS rfl rfl (.g rfl) (.p rfl) (gd_t hc4)) ?_
  refine pwl_qg (pguard_t rfl rfl rfl) rfl rfl (pq_cmp rfl (.g rfl) (.p rfl) rfl) ?_
  refine pwl_q rfl rfl rfl (pq_and rfl (.p rfl) (.p rfl) (.g rfl)) ?_
  refine pwl_q rfl rfl rfl (pq_assign (p := .v (.bool ((((((p0.size : Int) == 2) && (decide (65 ≤ (c1.toNat : Int)))) && (decide ((c2.toNat : Int) ≤ 90))) && (decide (65 ≤ (c3.toNat : Int)))) && (decide ((c4.toNat : Int) ≤ 90))))) rfl (.p rfl)) ?_
  refine pwl_nil ?_
  (repeat (first | apply pk_block_n | apply pk_seq))
  refine pwc_ret ?_
  (repeat (first | apply pk_seq_ret | apply pk_block_ret | apply pk_mid_ret | apply pk_cut_ret))
  obtain rfl := Option.some.inj h
  exact pret_of (prv_1 (prv1_t rfl)) PSub.nil ⟨rfl, rfl⟩
/-- customs/customsref19.Item -/
def ref19_Item (p0 : TItem) : Option Int := Option.bind (ref08_Level p0.Code) (fun x2 => Option.bind (gd (!(x2 != 8)) (ref06_Country p0.Origin)) (fun x3 => cond ((x2 != 8) || (!x3)) (some 1) (cond ((((((((((decide (p0.Company < 0)) || (decide (999 < p0.Company))) || (decide (p0.Day < 0))) || (decide (36524 < p0.Day))) || (decide (p0.Quantity < 0))) || (decide (1000000000 < p0.Quantity))) || (decide (p0.Value < 0))) || (decide (1000000000000 < p0.Value))) || (decide (p0.Granted < 0))) || (decide (p0.Quantity < p0.Granted))) (some 2) (some 0))))
set_option maxHeartbeats 4000000 in
theorem ref19_Item_ok {p0 : TItem} {r : Int}  (h : ref19_Item p0 = some r) : PF 13 [.agg [.v (.string p0.Code), .v (.string p0.Origin), .v (.bool p0.Proof), .v (.int .i64 p0.Company), .v (.int .i64 p0.Day), .v (.int .i64 p0.Quantity), .v (.int .i64 p0.Value), .v (.int .i64 p0.Granted)]] (.v (.int .i64 r)) := by
  unfold ref19_Item at h
  refine pf_of ?_
  refine penter Tryz.func13 fk13 rfl Tryz.ntmps13 Tryz.results13 rfl ?_
  refine pwc_seq ?_
  refine pwc_region ?_
  refine pwl_l rfl rfl rfl (pl_box (cs := [.v (.string p0.Code), .v (.string p0.Origin), .v (.bool p0.Proof), .v (.int .i64 p0.Company), .v (.int .i64 p0.Day), .v (.int .i64 p0.Quantity), .v (.int .i64 p0.Value), .v (.int .i64 p0.Granted)]) rfl rfl (fun b1 => ?_))
  refine pwl_q rfl rfl rfl (pq_assign (p := .v (.int .i64 0)) rfl (.p rfl)) ?_
  refine pwl_nil ?_
  (repeat (first | apply pk_block_n | apply pk_seq))
  refine pwc_seq ?_
  refine pwc_seq ?_
  refine pwc_region ?_
  refine pwl_q rfl rfl rfl (pq_fieldAddr rfl rfl rfl rfl rfl (.p rfl)) ?_
  refine pwl_q rfl rfl rfl (pq_load_b (p := .v (.string p0.Code)) rfl (.p rfl) (by (repeat (first | exact List.Mem.head _ | apply List.Mem.tail))) rfl) ?_
  refine bind_elim h ?_; clear h; intro x2 hx2 h
  refine pwl_call rfl rfl rfl rfl rfl (ref08_Level_ok hx2) ?_
  refine pwl_q rfl rfl rfl (pq_cmp rfl (.p rfl) (.p rfl) rfl) ?_
  refine pwl_q rfl rfl rfl (pq_move (p := .v (.bool (x2 != 8))) rfl (.p rfl)) ?_
  refine pwl_qg (pguard_f rfl rfl rfl) rfl rfl (pq_fieldAddr rfl rfl rfl rfl rfl (.p rfl)) ?_
  refine pwl_qg (pguard_f rfl rfl rfl) rfl rfl (pq_load_b (p := .v (.string p0.Origin)) rfl (.g rfl) (by (repeat (first | exact List.Mem.head _ | apply List.Mem.tail))) rfl) ?_
  refine bind_elim h ?_; clear h; intro x3 hx3 h
  refine pwl_callg (pguard_f rfl rfl rfl) rfl rfl rfl (pargs_cons (.g rfl) (pargs_nil)) (fun hc => ref06_Country_ok (gd_t hx3 hc)) ?_
  refine pwl_qg (pguard_f rfl rfl rfl) rfl rfl (pq_not rfl (.g rfl)) ?_
  refine pwl_q rfl rfl rfl (pq_or rfl (.p rfl) (.p rfl) (.g rfl)) ?_
  refine pwl_nil ?_
  (repeat (first | apply pk_block_n | apply pk_seq))
  refine pwc_cond rfl (fun hc4 => ?_) (fun hc4 => ?_)
  · replace h := cond_t hc4 h
    refine pwc_seq ?_
    refine pwc_region ?_
    refine pwl_q rfl rfl rfl (pq_assign (p := .v (.int .i64 1)) rfl (.p rfl)) ?_
    refine pwl_nil ?_
    (repeat (first | apply pk_block_n | apply pk_seq))
    refine pwc_ret ?_
    (repeat (first | apply pk_seq_ret | apply pk_block_ret | apply pk_mid_ret | apply pk_cut_ret))
    obtain rfl := Option.some.inj h
    exact pret_of (prv_1 (prv1_t rfl)) PSub.nil ⟨rfl, rfl⟩
  · replace h := cond_f hc4 h
    refine pwc_skip ?_
    (repeat (first | apply pk_block_n | apply pk_seq))
    refine pwc_seq ?_
    refine pwc_seq ?_
    refine pwc_region ?_
    refine pwl_q rfl rfl rfl (pq_fieldAddr rfl rfl rfl rfl rfl (.p rfl)) ?_
    refine pwl_q rfl rfl rfl (pq_load_b (p := .v (.int .i64 p0.Company)) rfl (.p rfl) (by (repeat (first | exact List.Mem.head _ | apply List.Mem.tail))) rfl) ?_
    refine pwl_q rfl rfl rfl (pq_cmp rfl (.p rfl) (.p rfl) rfl) ?_
    refine pwl_q rfl rfl rfl (pq_move (p := .v (.bool (decide (p0.Company < 0)))) rfl (.p rfl)) ?_
    refine pwl_qg (pguard_f rfl rfl rfl) rfl rfl (pq_fieldAddr rfl rfl rfl rfl rfl (.p rfl)) ?_
    refine pwl_qg (pguard_f rfl rfl rfl) rfl rfl (pq_load_b (p := .v (.int .i64 p0.Company)) rfl (.g rfl) (by (repeat (first | exact List.Mem.head _ | apply List.Mem.tail))) rfl) ?_
    refine pwl_qg (pguard_f rfl rfl rfl) rfl rfl (pq_cmp rfl (.g rfl) (.p rfl) rfl) ?_
    refine pwl_q rfl rfl rfl (pq_or rfl (.p rfl) (.p rfl) (.g rfl)) ?_
    refine pwl_q rfl rfl rfl (pq_move (p := .v (.bool ((decide (p0.Company < 0)) || (decide (999 < p0.Company))))) rfl (.p rfl)) ?_
    refine pwl_qg (pguard_f rfl rfl rfl) rfl rfl (pq_fieldAddr rfl rfl rfl rfl rfl (.p rfl)) ?_
    refine pwl_qg (pguard_f rfl rfl rfl) rfl rfl (pq_load_b (p := .v (.int .i64 p0.Day)) rfl (.g rfl) (by (repeat (first | exact List.Mem.head _ | apply List.Mem.tail))) rfl) ?_
    refine pwl_qg (pguard_f rfl rfl rfl) rfl rfl (pq_cmp rfl (.g rfl) (.p rfl) rfl) ?_
    refine pwl_q rfl rfl rfl (pq_or rfl (.p rfl) (.p rfl) (.g rfl)) ?_
    refine pwl_q rfl rfl rfl (pq_move (p := .v (.bool (((decide (p0.Company < 0)) || (decide (999 < p0.Company))) || (decide (p0.Day < 0))))) rfl (.p rfl)) ?_
    refine pwl_qg (pguard_f rfl rfl rfl) rfl rfl (pq_fieldAddr rfl rfl rfl rfl rfl (.p rfl)) ?_
    refine pwl_qg (pguard_f rfl rfl rfl) rfl rfl (pq_load_b (p := .v (.int .i64 p0.Day)) rfl (.g rfl) (by (repeat (first | exact List.Mem.head _ | apply List.Mem.tail))) rfl) ?_
    refine pwl_qg (pguard_f rfl rfl rfl) rfl rfl (pq_cmp rfl (.g rfl) (.p rfl) rfl) ?_
    refine pwl_q rfl rfl rfl (pq_or rfl (.p rfl) (.p rfl) (.g rfl)) ?_
    refine pwl_q rfl rfl rfl (pq_move (p := .v (.bool ((((decide (p0.Company < 0)) || (decide (999 < p0.Company))) || (decide (p0.Day < 0))) || (decide (36524 < p0.Day))))) rfl (.p rfl)) ?_
    refine pwl_qg (pguard_f rfl rfl rfl) rfl rfl (pq_fieldAddr rfl rfl rfl rfl rfl (.p rfl)) ?_
    refine pwl_qg (pguard_f rfl rfl rfl) rfl rfl (pq_load_b (p := .v (.int .i64 p0.Quantity)) rfl (.g rfl) (by (repeat (first | exact List.Mem.head _ | apply List.Mem.tail))) rfl) ?_
    refine pwl_qg (pguard_f rfl rfl rfl) rfl rfl (pq_cmp rfl (.g rfl) (.p rfl) rfl) ?_
    refine pwl_q rfl rfl rfl (pq_or rfl (.p rfl) (.p rfl) (.g rfl)) ?_
    refine pwl_q rfl rfl rfl (pq_move (p := .v (.bool (((((decide (p0.Company < 0)) || (decide (999 < p0.Company))) || (decide (p0.Day < 0))) || (decide (36524 < p0.Day))) || (decide (p0.Quantity < 0))))) rfl (.p rfl)) ?_
    refine pwl_qg (pguard_f rfl rfl rfl) rfl rfl (pq_fieldAddr rfl rfl rfl rfl rfl (.p rfl)) ?_
    refine pwl_qg (pguard_f rfl rfl rfl) rfl rfl (pq_load_b (p := .v (.int .i64 p0.Quantity)) rfl (.g rfl) (by (repeat (first | exact List.Mem.head _ | apply List.Mem.tail))) rfl) ?_
    refine pwl_qg (pguard_f rfl rfl rfl) rfl rfl (pq_cmp rfl (.g rfl) (.p rfl) rfl) ?_
    refine pwl_q rfl rfl rfl (pq_or rfl (.p rfl) (.p rfl) (.g rfl)) ?_
    refine pwl_q rfl rfl rfl (pq_move (p := .v (.bool ((((((decide (p0.Company < 0)) || (decide (999 < p0.Company))) || (decide (p0.Day < 0))) || (decide (36524 < p0.Day))) || (decide (p0.Quantity < 0))) || (decide (1000000000 < p0.Quantity))))) rfl (.p rfl)) ?_
    refine pwl_qg (pguard_f rfl rfl rfl) rfl rfl (pq_fieldAddr rfl rfl rfl rfl rfl (.p rfl)) ?_
    refine pwl_qg (pguard_f rfl rfl rfl) rfl rfl (pq_load_b (p := .v (.int .i64 p0.Value)) rfl (.g rfl) (by (repeat (first | exact List.Mem.head _ | apply List.Mem.tail))) rfl) ?_
    refine pwl_qg (pguard_f rfl rfl rfl) rfl rfl (pq_cmp rfl (.g rfl) (.p rfl) rfl) ?_
    refine pwl_q rfl rfl rfl (pq_or rfl (.p rfl) (.p rfl) (.g rfl)) ?_
    refine pwl_q rfl rfl rfl (pq_move (p := .v (.bool (((((((decide (p0.Company < 0)) || (decide (999 < p0.Company))) || (decide (p0.Day < 0))) || (decide (36524 < p0.Day))) || (decide (p0.Quantity < 0))) || (decide (1000000000 < p0.Quantity))) || (decide (p0.Value < 0))))) rfl (.p rfl)) ?_
    refine pwl_qg (pguard_f rfl rfl rfl) rfl rfl (pq_fieldAddr rfl rfl rfl rfl rfl (.p rfl)) ?_
    refine pwl_qg (pguard_f rfl rfl rfl) rfl rfl (pq_load_b (p := .v (.int .i64 p0.Value)) rfl (.g rfl) (by (repeat (first | exact List.Mem.head _ | apply List.Mem.tail))) rfl) ?_
    refine pwl_qg (pguard_f rfl rfl rfl) rfl rfl (pq_cmp rfl (.g rfl) (.p rfl) rfl) ?_
    refine pwl_q rfl rfl rfl (pq_or rfl (.p rfl) (.p rfl) (.g rfl)) ?_
    refine pwl_q rfl rfl rfl (pq_move (p := .v (.bool ((((((((decide (p0.Company < 0)) || (decide (999 < p0.Company))) || (decide (p0.Day < 0))) || (decide (36524 < p0.Day))) || (decide (p0.Quantity < 0))) || (decide (1000000000 < p0.Quantity))) || (decide (p0.Value < 0))) || (decide (1000000000000 < p0.Value))))) rfl (.p rfl)) ?_
    refine pwl_qg (pguard_f rfl rfl rfl) rfl rfl (pq_fieldAddr rfl rfl rfl rfl rfl (.p rfl)) ?_
    refine pwl_qg (pguard_f rfl rfl rfl) rfl rfl (pq_load_b (p := .v (.int .i64 p0.Granted)) rfl (.g rfl) (by (repeat (first | exact List.Mem.head _ | apply List.Mem.tail))) rfl) ?_
    refine pwl_qg (pguard_f rfl rfl rfl) rfl rfl (pq_cmp rfl (.g rfl) (.p rfl) rfl) ?_
    refine pwl_q rfl rfl rfl (pq_or rfl (.p rfl) (.p rfl) (.g rfl)) ?_
    refine pwl_q rfl rfl rfl (pq_move (p := .v (.bool (((((((((decide (p0.Company < 0)) || (decide (999 < p0.Company))) || (decide (p0.Day < 0))) || (decide (36524 < p0.Day))) || (decide (p0.Quantity < 0))) || (decide (1000000000 < p0.Quantity))) || (decide (p0.Value < 0))) || (decide (1000000000000 < p0.Value))) || (decide (p0.Granted < 0))))) rfl (.p rfl)) ?_
    refine pwl_qg (pguard_f rfl rfl rfl) rfl rfl (pq_fieldAddr rfl rfl rfl rfl rfl (.p rfl)) ?_
    refine pwl_qg (pguard_f rfl rfl rfl) rfl rfl (pq_load_b (p := .v (.int .i64 p0.Granted)) rfl (.g rfl) (by (repeat (first | exact List.Mem.head _ | apply List.Mem.tail))) rfl) ?_
    refine pwl_qg (pguard_f rfl rfl rfl) rfl rfl (pq_fieldAddr rfl rfl rfl rfl rfl (.p rfl)) ?_
    refine pwl_qg (pguard_f rfl rfl rfl) rfl rfl (pq_load_b (p := .v (.int .i64 p0.Quantity)) rfl (.g rfl) (by (repeat (first | exact List.Mem.head _ | apply List.Mem.tail))) rfl) ?_
    refine pwl_qg (pguard_f rfl rfl rfl) rfl rfl (pq_cmp rfl (.g rfl) (.g rfl) rfl) ?_
    refine pwl_q rfl rfl rfl (pq_or rfl (.p rfl) (.p rfl) (.g rfl)) ?_
    refine pwl_nil ?_
    (repeat (first | apply pk_block_n | apply pk_seq))
    refine pwc_cond rfl (fun hc5 => ?_) (fun hc5 => ?_)
    · replace h := cond_t hc5 h
      refine pwc_seq ?_
      refine pwc_region ?_
      refine pwl_q rfl rfl rfl (pq_assign (p := .v (.int .i64 2)) rfl (.p rfl)) ?_
      refine pwl_nil ?_
      (repeat (first | apply pk_block_n | apply pk_seq))
      refine pwc_ret ?_
      (repeat (first | apply pk_seq_ret | apply pk_block_ret | apply pk_mid_ret | apply pk_cut_ret))
      obtain rfl := Option.some.inj h
      exact pret_of (prv_1 (prv1_t rfl)) PSub.nil ⟨rfl, rfl⟩
    · replace h := cond_f hc5 h
      refine pwc_skip ?_
      (repeat (first | apply pk_block_n | apply pk_seq))
      refine pwc_seq ?_
      refine pwc_region ?_
      refine pwl_q rfl rfl rfl (pq_assign (p := .v (.int .i64 0)) rfl (.p rfl)) ?_
      refine pwl_nil ?_
      (repeat (first | apply pk_block_n | apply pk_seq))
      refine pwc_ret ?_
      (repeat (first | apply pk_seq_ret | apply pk_block_ret | apply pk_mid_ret | apply pk_cut_ret))
      obtain rfl := Option.some.inj h
      exact pret_of (prv_1 (prv1_t rfl)) PSub.nil ⟨rfl, rfl⟩
/-- customs/measure.validOrigins -/
def measure_validOrigins (p0 : (List ByteArray)) : Option Bool := Option.bind (loopF (S := Int) (T := (Unit) ⊕ (_)) (fun v1 => cond (decide (v1 < (p0.length : Int))) (Option.bind (idx p0 v1) (fun m5 => Option.bind (production_ValidCountry m5) (fun x6 => Option.bind (gd ((!(!x6)) && (decide (0 < v1))) (idx p0 (IntKind.i64.wrap (v1 - 1)))) (fun m7 => cond ((!x6) || ((decide (0 < v1)) && (Op.bytesLess m5.toList m7.toList || decide (m5 = m7)))) (some (.inr (.inr false))) (some (.inl (IntKind.i64.wrap (v1 + 1)))))))) (some (.inr (.inl ())))) FUEL 0) (fun q => match q with | .inl _ => some true | .inr e => some e)
set_option maxHeartbeats 4000000 in
theorem measure_validOrigins_ok {p0 : (List ByteArray)} {r : Bool}  (h : measure_validOrigins p0 = some r) : PF 54 [.slc (List.map eS p0)] (.v (.bool r)) := by
  unfold measure_validOrigins at h
  refine pf_of ?_
  refine penter Tryz.func54 fk54 rfl Tryz.ntmps54 Tryz.results54 rfl ?_
  refine pwc_seq ?_
  refine pwc_region ?_
  refine pwl_q rfl rfl rfl (pq_assign (p := .v (.bool false)) rfl (.p rfl)) ?_
  refine pwl_nil ?_
  (repeat (first | apply pk_block_n | apply pk_seq))
  refine pwc_seq ?_
  refine pwc_seq ?_
  refine pwc_region ?_
  refine pwl_q rfl rfl rfl (pq_move (p := .slc (List.map eS p0)) rfl (.p rfl)) ?_
  refine pwl_q rfl rfl rfl (pq_lenT (enc := eS) rfl rfl (.p rfl)) ?_
  refine pwl_q rfl rfl rfl (pq_move (p := .v (.int .i64 0)) rfl (.p rfl)) ?_
  refine pwl_nil ?_
  (repeat (first | apply pk_block_n | apply pk_seq))
  refine bind_elim h ?_; clear h; intro q3 hq3 h
  refine pwc_join (Y := (Unit) × (Unit)) (fun (_, _) => []) (fun (_, _) => []) (fun (_, _) => q3 = Sum.inl ()) ?_ ?_
  · refine pwc_block ?_
    refine pwc_loopF (Y := Unit) (S := Int) _ hq3 (fun _ v1 => [(0, .slc (List.map eS p0)), (5, .slc (List.map eS p0)), (6, .v (.int .i64 (p0.length : Int))), (7, .v (.int .i64 v1))]) (fun _ v1 => []) () (by (repeat (first | exact PHolds.nil | apply PHolds.cons rfl))) (by (repeat (first | exact PSub.nil | (apply PSub.cons; (focus (repeat (first | exact PPick.h | apply PPick.t))))))) ?_
    rintro _ v1 o τ hb2; (try dsimp only at hb2); dsimp only [pupds]
    refine pwc_seq ?_
    refine pwc_region ?_
    refine pwl_q rfl rfl rfl (pq_cmp rfl (.p rfl) (.p rfl) rfl) ?_
    refine pwl_nil ?_
    (repeat (first | apply pk_block_n | apply pk_seq))
    refine pwc_seq ?_
    refine pwc_cond rfl (fun hc4 => ?_) (fun hc4 => ?_)
    · replace hb2 := cond_t hc4 hb2
      refine pwc_skip ?_
      (repeat (first | apply pk_block_n | apply pk_seq))
      refine pwc_seq ?_
      refine pwc_block ?_
      refine pwc_seq ?_
      refine pwc_region ?_
      refine pwl_q rfl rfl rfl (pq_move (p := .v (.int .i64 v1)) rfl (.p rfl)) ?_
      refine bind_elim hb2 ?_; clear hb2; intro m5 hm5 hb2
      refine pwl_q rfl rfl rfl (pq_index (enc := eS) rfl rfl rfl (fun _ => rfl) (.p rfl) (.p rfl) (fun _ => hm5)) ?_
      refine pwl_q rfl rfl rfl (pq_load_r (p := .v (.string m5)) rfl (.p rfl) rfl) ?_
      refine pwl_q rfl rfl rfl (pq_assign (p := .v (.int .i64 v1)) rfl (.p rfl)) ?_
      refine pwl_q rfl rfl rfl (pq_assign (p := .v (.string m5)) rfl (.p rfl)) ?_
      refine pwl_nil ?_
      (repeat (first | apply pk_block_n | apply pk_seq))
      refine pwc_seq ?_
      refine pwc_region ?_
      refine pwl_q rfl rfl rfl (pq_move (p := .v (.string m5)) rfl (.p rfl)) ?_
      refine bind_elim hb2 ?_; clear hb2; intro x6 hx6 hb2
      refine pwl_call rfl rfl rfl rfl rfl (production_ValidCountry_ok hx6) ?_
      refine pwl_q rfl rfl rfl (pq_not rfl (.p rfl)) ?_
      refine pwl_q rfl rfl rfl (pq_move (p := .v (.bool (!x6))) rfl (.p rfl)) ?_
      refine pwl_qg (pguard_f rfl rfl rfl) rfl rfl (pq_move (p := .v (.int .i64 v1)) rfl (.p rfl)) ?_
      refine pwl_qg (pguard_f rfl rfl rfl) rfl rfl (pq_cmp rfl (.g rfl) (.p rfl) rfl) ?_
      refine pwl_qg (pguard_f rfl rfl rfl) rfl rfl (pq_move (p := .v (.bool (decide (0 < v1)))) rfl (.g rfl)) ?_
      refine pwl_qg (pguard_gt rfl rfl rfl) rfl rfl (pq_move (p := .v (.string m5)) rfl (.p rfl)) ?_
      refine pwl_qg (pguard_gt rfl rfl rfl) rfl rfl (pq_move (p := .slc (List.map eS p0)) rfl (.p rfl)) ?_
      refine pwl_qg (pguard_gt rfl rfl rfl) rfl rfl (pq_move (p := .v (.int .i64 v1)) rfl (.p rfl)) ?_
      refine pwl_qg (pguard_gt rfl rfl rfl) rfl rfl (pq_arith rfl (.g rfl) (.p rfl) rfl) ?_
      refine bind_elim hb2 ?_; clear hb2; intro m7 hm7 hb2
      refine pwl_qg (pguard_gt rfl rfl rfl) rfl rfl (pq_index (enc := eS) rfl rfl rfl (fun _ => rfl) (.g rfl) (.g rfl) (gd_t hm7)) ?_
      refine pwl_qg (pguard_gt rfl rfl rfl) rfl rfl (pq_load_r (p := .v (.string m7)) rfl (.g rfl) rfl) ?_
      refine pwl_qg (pguard_gt rfl rfl rfl) rfl rfl (pq_str rfl (.g rfl) (.g rfl) rfl) ?_
      refine pwl_qg (pguard_f rfl rfl rfl) rfl rfl (pq_and rfl (.g rfl) (.p rfl) (.g rfl)) ?_
      refine pwl_q rfl rfl rfl (pq_or rfl (.p rfl) (.p rfl) (.g rfl)) ?_
      refine pwl_nil ?_
      (repeat (first | apply pk_block_n | apply pk_seq))
      refine pwc_cond rfl (fun hc8 => ?_) (fun hc8 => ?_)
      · replace hb2 := cond_t hc8 hb2
        refine pwc_seq ?_
        refine pwc_region ?_
        refine pwl_q rfl rfl rfl (pq_assign (p := .v (.bool false)) rfl (.p rfl)) ?_
        refine pwl_nil ?_
        (repeat (first | apply pk_block_n | apply pk_seq))
        refine pwc_ret ?_
        (repeat (first | apply pk_seq_ret | apply pk_block_ret | apply pk_mid_ret | apply pk_cut_ret))
        refine pk_loop_ret hb2 (fun ht => ?_); subst ht
        have h := (show some _ = some _ from h)
        (repeat (first | apply pk_seq_ret | apply pk_block_ret | apply pk_mid_ret | apply pk_cut_ret))
        obtain rfl := Option.some.inj h
        exact pret_of (prv_1 (prv1_t rfl)) PSub.nil ⟨rfl, rfl⟩
      · replace hb2 := cond_f hc8 hb2
        refine pwc_skip ?_
        refine pk_block_n ?_
        (repeat (first | apply pk_block_n | apply pk_seq))
        refine pwc_region ?_
        refine pwl_q rfl rfl rfl (pq_arith rfl (.p rfl) (.p rfl) rfl) ?_
        refine pwl_q rfl rfl rfl (pq_move (p := .v (.int .i64 (IntKind.i64.wrap (v1 + 1)))) rfl (.p rfl)) ?_
        refine pwl_nil ?_
        (repeat apply pk_block_n)
        exact pk_loop hb2 () (by (repeat (first | exact PHolds.nil | apply PHolds.cons rfl))) (by (repeat (first | exact PSub.nil | (apply PSub.cons; (focus (repeat (first | exact PPick.h | apply PPick.t)))))))
    · replace hb2 := cond_f hc4 hb2
      refine pwc_exit ?_
      (repeat (first | apply pk_seq_exit | apply pk_mid_exit | apply pk_cut_exit | apply pk_block_ne rfl))
      refine pk_loop_exit hb2 (fun ht => ?_)
      refine pk_block_eq rfl ?_
      exact pk_mid ((), ()) (by (repeat (first | exact PHolds.nil | apply PHolds.cons rfl))) (by (repeat (first | exact PSub.nil | (apply PSub.cons; (focus (repeat (first | exact PPick.h | apply PPick.t))))))) ht.symm
  · rintro ⟨_, _⟩ τ hz; (try dsimp only at hz); subst q3; (try dsimp only at h); dsimp only [pupds]
    refine pwc_seq ?_
    refine pwc_region ?_
    refine pwl_q rfl rfl rfl (pq_assign (p := .v (.bool true)) rfl (.p rfl)) ?_
    refine pwl_nil ?_
    (repeat (first | apply pk_block_n | apply pk_seq))
    refine pwc_ret ?_
    (repeat (first | apply pk_seq_ret | apply pk_block_ret | apply pk_mid_ret | apply pk_cut_ret))
    obtain rfl := Option.some.inj h
    exact pret_of (prv_1 (prv1_t rfl)) PSub.nil ⟨rfl, rfl⟩
/-- customs/duty.Validate -/
def duty_Validate (p0 : TDuty) : Option Int := cond ((((decide (p0.Rate < 0)) || (decide (10000000 < p0.Rate))) || (decide (p0.Amount < 0))) || (decide (100000000 < p0.Amount))) (some 2) (cond (((decide (0 < p0.Amount)) && ((decide (p0.Per < 1)) || (decide (1000000 < p0.Per)))) || ((p0.Amount == 0) && (p0.Per != 0))) (some 2) (cond ((((decide (p0.Most < 0)) || (decide (10000000 < p0.Most))) || (decide (p0.Least < 0))) || (decide (10000000 < p0.Least))) (some 2) (cond (((p0.Most != 0) && (!p0.HasMost)) || ((p0.Least != 0) && (!p0.HasLeast))) (some 1) (cond ((p0.HasMost && p0.HasLeast) && (decide (p0.Most < p0.Least))) (some 1) (some 0)))))
set_option maxHeartbeats 4000000 in
theorem duty_Validate_ok {p0 : TDuty} {r : Int}  (h : duty_Validate p0 = some r) : PF 55 [.agg [.v (.int .i64 p0.Rate), .v (.int .i64 p0.Amount), .v (.int .i64 p0.Per), .v (.bool p0.HasMost), .v (.int .i64 p0.Most), .v (.bool p0.HasLeast), .v (.int .i64 p0.Least)]] (.v (.int .i64 r)) := by
  unfold duty_Validate at h
  refine pf_of ?_
  refine penter Tryz.func55 fk55 rfl Tryz.ntmps55 Tryz.results55 rfl ?_
  refine pwc_seq ?_
  refine pwc_region ?_
  refine pwl_l rfl rfl rfl (pl_box (cs := [.v (.int .i64 p0.Rate), .v (.int .i64 p0.Amount), .v (.int .i64 p0.Per), .v (.bool p0.HasMost), .v (.int .i64 p0.Most), .v (.bool p0.HasLeast), .v (.int .i64 p0.Least)]) rfl rfl (fun b1 => ?_))
  refine pwl_q rfl rfl rfl (pq_assign (p := .v (.int .i64 0)) rfl (.p rfl)) ?_
  refine pwl_nil ?_
  (repeat (first | apply pk_block_n | apply pk_seq))
  refine pwc_seq ?_
  refine pwc_seq ?_
  refine pwc_region ?_
  refine pwl_q rfl rfl rfl (pq_fieldAddr rfl rfl rfl rfl rfl (.p rfl)) ?_
  refine pwl_q rfl rfl rfl (pq_load_b (p := .v (.int .i64 p0.Rate)) rfl (.p rfl) (by (repeat (first | exact List.Mem.head _ | apply List.Mem.tail))) rfl) ?_
  refine pwl_q rfl rfl rfl (pq_cmp rfl (.p rfl) (.p rfl) rfl) ?_
  refine pwl_q rfl rfl rfl (pq_move (p := .v (.bool (decide (p0.Rate < 0)))) rfl (.p rfl)) ?_
  refine pwl_qg (pguard_f rfl rfl rfl) rfl rfl (pq_fieldAddr rfl rfl rfl rfl rfl (.p rfl)) ?_
  refine pwl_qg (pguard_f rfl rfl rfl) rfl rfl (pq_load_b (p := .v (.int .i64 p0.Rate)) rfl (.g rfl) (by (repeat (first | exact List.Mem.head _ | apply List.Mem.tail))) rfl) ?_
  refine pwl_qg (pguard_f rfl rfl rfl) rfl rfl (pq_cmp rfl (.g rfl) (.p rfl) rfl) ?_
  refine pwl_q rfl rfl rfl (pq_or rfl (.p rfl) (.p rfl) (.g rfl)) ?_
  refine pwl_q rfl rfl rfl (pq_move (p := .v (.bool ((decide (p0.Rate < 0)) || (decide (10000000 < p0.Rate))))) rfl (.p rfl)) ?_
  refine pwl_qg (pguard_f rfl rfl rfl) rfl rfl (pq_fieldAddr rfl rfl rfl rfl rfl (.p rfl)) ?_
  refine pwl_qg (pguard_f rfl rfl rfl) rfl rfl (pq_load_b (p := .v (.int .i64 p0.Amount)) rfl (.g rfl) (by (repeat (first | exact List.Mem.head _ | apply List.Mem.tail))) rfl) ?_
  refine pwl_qg (pguard_f rfl rfl rfl) rfl rfl (pq_cmp rfl (.g rfl) (.p rfl) rfl) ?_
  refine pwl_q rfl rfl rfl (pq_or rfl (.p rfl) (.p rfl) (.g rfl)) ?_
  refine pwl_q rfl rfl rfl (pq_move (p := .v (.bool (((decide (p0.Rate < 0)) || (decide (10000000 < p0.Rate))) || (decide (p0.Amount < 0))))) rfl (.p rfl)) ?_
  refine pwl_qg (pguard_f rfl rfl rfl) rfl rfl (pq_fieldAddr rfl rfl rfl rfl rfl (.p rfl)) ?_
  refine pwl_qg (pguard_f rfl rfl rfl) rfl rfl (pq_load_b (p := .v (.int .i64 p0.Amount)) rfl (.g rfl) (by (repeat (first | exact List.Mem.head _ | apply List.Mem.tail))) rfl) ?_
  refine pwl_qg (pguard_f rfl rfl rfl) rfl rfl (pq_cmp rfl (.g rfl) (.p rfl) rfl) ?_
  refine pwl_q rfl rfl rfl (pq_or rfl (.p rfl) (.p rfl) (.g rfl)) ?_
  refine pwl_nil ?_
  (repeat (first | apply pk_block_n | apply pk_seq))
  refine pwc_cond rfl (fun hc2 => ?_) (fun hc2 => ?_)
  · replace h := cond_t hc2 h
    refine pwc_seq ?_
    refine pwc_region ?_
    refine pwl_q rfl rfl rfl (pq_assign (p := .v (.int .i64 2)) rfl (.p rfl)) ?_
    refine pwl_nil ?_
    (repeat (first | apply pk_block_n | apply pk_seq))
    refine pwc_ret ?_
    (repeat (first | apply pk_seq_ret | apply pk_block_ret | apply pk_mid_ret | apply pk_cut_ret))
    obtain rfl := Option.some.inj h
    exact pret_of (prv_1 (prv1_t rfl)) PSub.nil ⟨rfl, rfl⟩
  · replace h := cond_f hc2 h
    refine pwc_skip ?_
    (repeat (first | apply pk_block_n | apply pk_seq))
    refine pwc_seq ?_
    refine pwc_seq ?_
    refine pwc_region ?_
    refine pwl_q rfl rfl rfl (pq_fieldAddr rfl rfl rfl rfl rfl (.p rfl)) ?_
    refine pwl_q rfl rfl rfl (pq_load_b (p := .v (.int .i64 p0.Amount)) rfl (.p rfl) (by (repeat (first | exact List.Mem.head _ | apply List.Mem.tail))) rfl) ?_
    refine pwl_q rfl rfl rfl (pq_cmp rfl (.p rfl) (.p rfl) rfl) ?_
    refine pwl_q rfl rfl rfl (pq_move (p := .v (.bool (decide (0 < p0.Amount)))) rfl (.p rfl)) ?_
    refine pwl_qg (pguard_t rfl rfl rfl) rfl rfl (pq_fieldAddr rfl rfl rfl rfl rfl (.p rfl)) ?_
    refine pwl_qg (pguard_t rfl rfl rfl) rfl rfl (pq_load_b (p := .v (.int .i64 p0.Per)) rfl (.g rfl) (by (repeat (first | exact List.Mem.head _ | apply List.Mem.tail))) rfl) ?_
    refine pwl_qg (pguard_t rfl rfl rfl) rfl rfl (pq_cmp rfl (.g rfl) (.p rfl) rfl) ?_
    refine pwl_qg (pguard_t rfl rfl rfl) rfl rfl (pq_move (p := .v (.bool (decide (p0.Per < 1)))) rfl (.g rfl)) ?_
    refine pwl_qg (pguard_gf rfl rfl rfl) rfl rfl (pq_fieldAddr rfl rfl rfl rfl rfl (.p rfl)) ?_
    refine pwl_qg (pguard_gf rfl rfl rfl) rfl rfl (pq_load_b (p := .v (.int .i64 p0.Per)) rfl (.g rfl) (by (repeat (first | exact List.Mem.head _ | apply List.Mem.tail))) rfl) ?_
    refine pwl_qg (pguard_gf rfl rfl rfl) rfl rfl (pq_cmp rfl (.g rfl) (.p rfl) rfl) ?_
    refine pwl_qg (pguard_t rfl rfl rfl) rfl rfl (pq_or rfl (.g rfl) (.p rfl) (.g rfl)) ?_
    refine pwl_q rfl rfl rfl (pq_and rfl (.p rfl) (.p rfl) (.g rfl)) ?_
    refine pwl_q rfl rfl rfl (pq_move (p := .v (.bool ((decide (0 < p0.Amount)) && ((decide (p0.Per < 1)) || (decide (1000000 < p0.Per)))))) rfl (.p rfl)) ?_
    refine pwl_qg (pguard_f rfl rfl rfl) rfl rfl (pq_fieldAddr rfl rfl rfl rfl rfl (.p rfl)) ?_
    refine pwl_qg (pguard_f rfl rfl rfl) rfl rfl (pq_load_b (p := .v (.int .i64 p0.Amount)) rfl (.g rfl) (by (repeat (first | exact List.Mem.head _ | apply List.Mem.tail))) rfl) ?_
    refine pwl_qg (pguard_f rfl rfl rfl) rfl rfl (pq_cmp rfl (.g rfl) (.p rfl) rfl) ?_
    refine pwl_qg (pguard_f rfl rfl rfl) rfl rfl (pq_move (p := .v (.bool (p0.Amount == 0))) rfl (.g rfl)) ?_
    refine pwl_qg (pguard_gt rfl rfl rfl) rfl rfl (pq_fieldAddr rfl rfl rfl rfl rfl (.p rfl)) ?_
    refine pwl_qg (pguard_gt rfl rfl rfl) rfl rfl (pq_load_b (p := .v (.int .i64 p0.Per)) rfl (.g rfl) (by (repeat (first | exact List.Mem.head _ | apply List.Mem.tail))) rfl) ?_
    refine pwl_qg (pguard_gt rfl rfl rfl) rfl rfl (pq_cmp rfl (.g rfl) (.p rfl) rfl) ?_
    refine pwl_qg (pguard_f rfl rfl rfl) rfl rfl (pq_and rfl (.g rfl) (.p rfl) (.g rfl)) ?_
    refine pwl_q rfl rfl rfl (pq_or rfl (.p rfl) (.p rfl) (.g rfl)) ?_
    refine pwl_nil ?_
    (repeat (first | apply pk_block_n | apply pk_seq))
    refine pwc_cond rfl (fun hc3 => ?_) (fun hc3 => ?_)
    · replace h := cond_t hc3 h
      refine pwc_seq ?_
      refine pwc_region ?_
      refine pwl_q rfl rfl rfl (pq_assign (p := .v (.int .i64 2)) rfl (.p rfl)) ?_
      refine pwl_nil ?_
      (repeat (first | apply pk_block_n | apply pk_seq))
      refine pwc_ret ?_
      (repeat (first | apply pk_seq_ret | apply pk_block_ret | apply pk_mid_ret | apply pk_cut_ret))
      obtain rfl := Option.some.inj h
      exact pret_of (prv_1 (prv1_t rfl)) PSub.nil ⟨rfl, rfl⟩
    · replace h := cond_f hc3 h
      refine pwc_skip ?_
      (repeat (first | apply pk_block_n | apply pk_seq))
      refine pwc_seq ?_
      refine pwc_seq ?_
      refine pwc_region ?_
      refine pwl_q rfl rfl rfl (pq_fieldAddr rfl rfl rfl rfl rfl (.p rfl)) ?_
      refine pwl_q rfl rfl rfl (pq_load_b (p := .v (.int .i64 p0.Most)) rfl (.p rfl) (by (repeat (first | exact List.Mem.head _ | apply List.Mem.tail))) rfl) ?_
      refine pwl_q rfl rfl rfl (pq_cmp rfl (.p rfl) (.p rfl) rfl) ?_
      refine pwl_q rfl rfl rfl (pq_move (p := .v (.bool (decide (p0.Most < 0)))) rfl (.p rfl)) ?_
      refine pwl_qg (pguard_f rfl rfl rfl) rfl rfl (pq_fieldAddr rfl rfl rfl rfl rfl (.p rfl)) ?_
      refine pwl_qg (pguard_f rfl rfl rfl) rfl rfl (pq_load_b (p := .v (.int .i64 p0.Most)) rfl (.g rfl) (by (repeat (first | exact List.Mem.head _ | apply List.Mem.tail))) rfl) ?_
      refine pwl_qg (pguard_f rfl rfl rfl) rfl rfl (pq_cmp rfl (.g rfl) (.p rfl) rfl) ?_
      refine pwl_q rfl rfl rfl (pq_or rfl (.p rfl) (.p rfl) (.g rfl)) ?_
      refine pwl_q rfl rfl rfl (pq_move (p := .v (.bool ((decide (p0.Most < 0)) || (decide (10000000 < p0.Most))))) rfl (.p rfl)) ?_
      refine pwl_qg (pguard_f rfl rfl rfl) rfl rfl (pq_fieldAddr rfl rfl rfl rfl rfl (.p rfl)) ?_
      refine pwl_qg (pguard_f rfl rfl rfl) rfl rfl (pq_load_b (p := .v (.int .i64 p0.Least)) rfl (.g rfl) (by (repeat (first | exact List.Mem.head _ | apply List.Mem.tail))) rfl) ?_
      refine pwl_qg (pguard_f rfl rfl rfl) rfl rfl (pq_cmp rfl (.g rfl) (.p rfl) rfl) ?_
      refine pwl_q rfl rfl rfl (pq_or rfl (.p rfl) (.p rfl) (.g rfl)) ?_
      refine pwl_q rfl rfl rfl (pq_move (p := .v (.bool (((decide (p0.Most < 0)) || (decide (10000000 < p0.Most))) || (decide (p0.Least < 0))))) rfl (.p rfl)) ?_
      refine pwl_qg (pguard_f rfl rfl rfl) rfl rfl (pq_fieldAddr rfl rfl rfl rfl rfl (.p rfl)) ?_
      refine pwl_qg (pguard_f rfl rfl rfl) rfl rfl (pq_load_b (p := .v (.int .i64 p0.Least)) rfl (.g rfl) (by (repeat (first | exact List.Mem.head _ | apply List.Mem.tail))) rfl) ?_
      refine pwl_qg (pguard_f rfl rfl rfl) rfl rfl (pq_cmp rfl (.g rfl) (.p rfl) rfl) ?_
      refine pwl_q rfl rfl rfl (pq_or rfl (.p rfl) (.p rfl) (.g rfl)) ?_
      refine pwl_nil ?_
      (repeat (first | apply pk_block_n | apply pk_seq))
      refine pwc_cond rfl (fun hc4 => ?_) (fun hc4 => ?_)
      · replace h := cond_t hc4 h
        refine pwc_seq ?_
        refine pwc_region ?_
        refine pwl_q rfl rfl rfl (pq_assign (p := .v (.int .i64 2)) rfl (.p rfl)) ?_
        refine pwl_nil ?_
        (repeat (first | apply pk_block_n | apply pk_seq))
        refine pwc_ret ?_
        (repeat (first | apply pk_seq_ret | apply pk_block_ret | apply pk_mid_ret | apply pk_cut_ret))
        obtain rfl := Option.some.inj h
        exact pret_of (prv_1 (prv1_t rfl)) PSub.nil ⟨rfl, rfl⟩
      · replace h := cond_f hc4 h
        refine pwc_skip ?_
        (repeat (first | apply pk_block_n | apply pk_seq))
        refine pwc_seq ?_
        refine pwc_seq ?_
        refine pwc_region ?_
        refine pwl_q rfl rfl rfl (pq_fieldAddr rfl rfl rfl rfl rfl (.p rfl)) ?_
        refine pwl_q rfl rfl rfl (pq_load_b (p := .v (.int .i64 p0.Most)) rfl (.p rfl) (by (repeat (first | exact List.Mem.head _ | apply List.Mem.tail))) rfl) ?_
        refine pwl_q rfl rfl rfl (pq_cmp rfl (.p rfl) (.p rfl) rfl) ?_
        refine pwl_q rfl rfl rfl (pq_move (p := .v (.bool (p0.Most != 0))) rfl (.p rfl)) ?_
        refine pwl_qg (pguard_t rfl rfl rfl) rfl rfl (pq_fieldAddr rfl rfl rfl rfl rfl (.p rfl)) ?_
        refine pwl_qg (pguard_t rfl rfl rfl) rfl rfl (pq_load_b (p := .v (.bool p0.HasMost)) rfl (.g rfl) (by (repeat (first | exact List.Mem.head _ | apply List.Mem.tail))) rfl) ?_
        refine pwl_qg (pguard_t rfl rfl rfl) rfl rfl (pq_not rfl (.g rfl)) ?_
        refine pwl_q rfl rfl rfl (pq_and rfl (.p rfl) (.p rfl) (.g rfl)) ?_
        refine pwl_q rfl rfl rfl (pq_move (p := .v (.bool ((p0.Most != 0) && (!p0.HasMost)))) rfl (.p rfl)) ?_
        refine pwl_qg (pguard_f rfl rfl rfl) rfl rfl (pq_fieldAddr rfl rfl rfl rfl rfl (.p rfl)) ?_
        refine pwl_qg (pguard_f rfl rfl rfl) rfl rfl (pq_load_b (p := .v (.int .i64 p0.Least)) rfl (.g rfl) (by (repeat (first | exact List.Mem.head _ | apply List.Mem.tail))) rfl) ?_
        refine pwl_qg (pguard_f rfl rfl rfl) rfl rfl (pq_cmp rfl (.g rfl) (.p rfl) rfl) ?_
        refine pwl_qg (pguard_f rfl rfl rfl) rfl rfl (pq_move (p := .v (.bool (p0.Least != 0))) rfl (.g rfl)) ?_
        refine pwl_qg (pguard_gt rfl rfl rfl) rfl rfl (pq_fieldAddr rfl rfl rfl rfl rfl (.p rfl)) ?_
        refine pwl_qg (pguard_gt rfl rfl rfl) rfl rfl (pq_load_b (p := .v (.bool p0.HasLeast)) rfl (.g rfl) (by (repeat (first | exact List.Mem.head _ | apply List.Mem.tail))) rfl) ?_
        refine pwl_qg (pguard_gt rfl rfl rfl) rfl rfl (pq_not rfl (.g rfl)) ?_
        refine pwl_qg (pguard_f rfl rfl rfl) rfl rfl (pq_and rfl (.g rfl) (.p rfl) (.g rfl)) ?_
        refine pwl_q rfl rfl rfl (pq_or rfl (.p rfl) (.p rfl) (.g rfl)) ?_
        refine pwl_nil ?_
        (repeat (first | apply pk_block_n | apply pk_seq))
        refine pwc_cond rfl (fun hc5 => ?_) (fun hc5 => ?_)
        · replace h := cond_t hc5 h
          refine pwc_seq ?_
          refine pwc_region ?_
          refine pwl_q rfl rfl rfl (pq_assign (p := .v (.int .i64 1)) rfl (.p rfl)) ?_
          refine pwl_nil ?_
          (repeat (first | apply pk_block_n | apply pk_seq))
          refine pwc_ret ?_
          (repeat (first | apply pk_seq_ret | apply pk_block_ret | apply pk_mid_ret | apply pk_cut_ret))
          obtain rfl := Option.some.inj h
          exact pret_of (prv_1 (prv1_t rfl)) PSub.nil ⟨rfl, rfl⟩
        · replace h := cond_f hc5 h
          refine pwc_skip ?_
          (repeat (first | apply pk_block_n | apply pk_seq))
          refine pwc_seq ?_
          refine pwc_seq ?_
          refine pwc_region ?_
          refine pwl_q rfl rfl rfl (pq_fieldAddr rfl rfl rfl rfl rfl (.p rfl)) ?_
          refine pwl_q rfl rfl rfl (pq_load_b (p := .v (.bool p0.HasMost)) rfl (.p rfl) (by (repeat (first | exact List.Mem.head _ | apply List.Mem.tail))) rfl) ?_
          refine pwl_q rfl rfl rfl (pq_move (p := .v (.bool p0.HasMost)) rfl (.p rfl)) ?_
          refine pwl_qg (pguard_t rfl rfl rfl) rfl rfl (pq_fieldAddr rfl rfl rfl rfl rfl (.p rfl)) ?_
          refine pwl_qg (pguard_t rfl rfl rfl) rfl rfl (pq_load_b (p := .v (.bool p0.HasLeast)) rfl (.g rfl) (by (repeat (first | exact List.Mem.head _ | apply List.Mem.tail))) rfl) ?_
          refine pwl_q rfl rfl rfl (pq_and rfl (.p rfl) (.p rfl) (.g rfl)) ?_
          refine pwl_q rfl rfl rfl (pq_move (p := .v (.bool (p0.HasMost && p0.HasLeast))) rfl (.p rfl)) ?_
          refine pwl_qg (pguard_t rfl rfl rfl) rfl rfl (pq_fieldAddr rfl rfl rfl rfl rfl (.p rfl)) ?_
          refine pwl_qg (pguard_t rfl rfl rfl) rfl rfl (pq_load_b (p := .v (.int .i64 p0.Least)) rfl (.g rfl) (by (repeat (first | exact List.Mem.head _ | apply List.Mem.tail))) rfl) ?_
          refine pwl_qg (pguard_t rfl rfl rfl) rfl rfl (pq_fieldAddr rfl rfl rfl rfl rfl (.p rfl)) ?_
          refine pwl_qg (pguard_t rfl rfl rfl) rfl rfl (pq_load_b (p := .v (.int .i64 p0.Most)) rfl (.g rfl) (by (repeat (first | exact List.Mem.head _ | apply List.Mem.tail))) rfl) ?_
          refine pwl_qg (pguard_t rfl rfl rfl) rfl rfl (pq_cmp rfl (.g rfl) (.g rfl) rfl) ?_
          refine pwl_q rfl rfl rfl (pq_and rfl (.p rfl) (.p rfl) (.g rfl)) ?_
          refine pwl_nil ?_
          (repeat (first | apply pk_block_n | apply pk_seq))
          refine pwc_cond rfl (fun hc6 => ?_) (fun hc6 => ?_)
          · replace h := cond_t hc6 h
            refine pwc_seq ?_
            refine pwc_region ?_
            refine pwl_q rfl rfl rfl (pq_assign (p := .v (.int .i64 1)) rfl (.p rfl)) ?_
            refine pwl_nil ?_
            (repeat (first | apply pk_block_n | apply pk_seq))
            refine pwc_ret ?_
            (repeat (first | apply pk_seq_ret | apply pk_block_ret | apply pk_mid_ret | apply pk_cut_ret))
            obtain rfl := Option.some.inj h
            exact pret_of (prv_1 (prv1_t rfl)) PSub.nil ⟨rfl, rfl⟩
          · replace h := cond_f hc6 h
            refine pwc_skip ?_
            (repeat (first | apply pk_block_n | apply pk_seq))
            refine pwc_seq ?_
            refine pwc_region ?_
            refine pwl_q rfl rfl rfl (pq_assign (p := .v (.int .i64 0)) rfl (.p rfl)) ?_
            refine pwl_nil ?_
            (repeat (first | apply pk_block_n | apply pk_seq))
            refine pwc_ret ?_
            (repeat (first | apply pk_seq_ret | apply pk_block_ret | apply pk_mid_ret | apply pk_cut_ret))
            obtain rfl := Option.some.inj h
            exact pret_of (prv_1 (prv1_t rfl)) PSub.nil ⟨rfl, rfl⟩
/-- customs/measure.InForce -/
def measure_InForce (p0 : TMeasure) (p1 : Int) : Option Bool := some (((decide (p0.From ≤ p1)) && (decide (p1 < p0.To))) || (((p0.Registered != (-1)) && (decide (p0.Registered ≤ p1))) && (decide (p1 < p0.From))))
set_option maxHeartbeats 4000000 in
theorem measure_InForce_ok {p0 : TMeasure} {p1 : Int} {r : Bool}  (h : measure_InForce p0 p1 = some r) : PF 84 [.agg [.v (.int .i64 p0.ID), .v (.int .i64 p0.Kind), .v (.string p0.Prefix), .slc (List.map eS p0.Origins), .v (.int .i64 p0.Company), .v (.int .i64 p0.From), .v (.int .i64 p0.To), .v (.int .i64 p0.Registered), .v (.int .i64 p0.Duty.Rate), .v (.int .i64 p0.Duty.Amount), .v (.int .i64 p0.Duty.Per), .v (.bool p0.Duty.HasMost), .v (.int .i64 p0.Duty.Most), .v (.bool p0.Duty.HasLeast), .v (.int .i64 p0.Duty.Least)], .v (.int .i64 p1)] (.v (.bool r)) := by
  unfold measure_InForce at h
  refine pf_of ?_
  refine penter Tryz.func84 fk84 rfl Tryz.ntmps84 Tryz.results84 rfl ?_
  refine pwc_seq ?_
  refine pwc_region ?_
  refine pwl_l rfl rfl rfl (pl_box (cs := [.v (.int .i64 p0.ID), .v (.int .i64 p0.Kind), .v (.string p0.Prefix), .slc (List.map eS p0.Origins), .v (.int .i64 p0.Company), .v (.int .i64 p0.From), .v (.int .i64 p0.To), .v (.int .i64 p0.Registered), .v (.int .i64 p0.Duty.Rate), .v (.int .i64 p0.Duty.Amount), .v (.int .i64 p0.Duty.Per), .v (.bool p0.Duty.HasMost), .v (.int .i64 p0.Duty.Most), .v (.bool p0.Duty.HasLeast), .v (.int .i64 p0.Duty.Least)]) rfl rfl (fun b1 => ?_))
  refine pwl_q rfl rfl rfl (pq_assign (p := .v (.bool false)) rfl (.p rfl)) ?_
  refine pwl_nil ?_
  (repeat (first | apply pk_block_n | apply pk_seq))
  refine pwc_seq ?_
  refine pwc_region ?_
  refine pwl_q rfl rfl rfl (pq_fieldAddr rfl rfl rfl rfl rfl (.p rfl)) ?_
  refine pwl_q rfl rfl rfl (pq_load_b (p := .v (.int .i64 p0.From)) rfl (.p rfl) (by (repeat (first | exact List.Mem.head _ | apply List.Mem.tail))) rfl) ?_
  refine pwl_q rfl rfl rfl (pq_move (p := .v (.int .i64 p1)) rfl (.p rfl)) ?_
  refine pwl_q rfl rfl rfl (pq_cmp rfl (.p rfl) (.p rfl) rfl) ?_
  refine pwl_q rfl rfl rfl (pq_move (p := .v (.bool (decide (p0.From ≤ p1)))) rfl (.p rfl)) ?_
  refine pwl_qg (pguard_t rfl rfl rfl) rfl rfl (pq_move (p := .v (.int .i64 p1)) rfl (.p rfl)) ?_
  refine pwl_qg (pguard_t rfl rfl rfl) rfl rfl (pq_fieldAddr rfl rfl rfl rfl rfl (.p rfl)) ?_
  refine pwl_qg (pguard_t rfl rfl rfl) rfl rfl (pq_load_b (p := .v (.int .i64 p0.To)) rfl (.g rfl) (by (repeat (first | exact List.Mem.head _ | apply List.Mem.tail))) rfl) ?_
  refine pwl_qg (pguard_t rfl rfl rfl) rfl rfl (pq_cmp rfl (.g rfl) (.g rfl) rfl) ?_
  refine pwl_q rfl rfl rfl (pq_and rfl (.p rfl) (.p rfl) (.g rfl)) ?_
  refine pwl_q rfl rfl rfl (pq_move (p := .v (.bool ((decide (p0.From ≤ p1)) && (decide (p1 < p0.To))))) rfl (.p rfl)) ?_
  refine pwl_qg (pguard_f rfl rfl rfl) rfl rfl (pq_fieldAddr rfl rfl rfl rfl rfl (.p rfl)) ?_
  refine pwl_qg (pguard_f rfl rfl rfl) rfl rfl (pq_load_b (p := .v (.int .i64 p0.Registered)) rfl (.g rfl) (by (repeat (first | exact List.Mem.head _ | apply List.Mem.tail))) rfl) ?_
  refine pwl_qg (pguard_f rfl rfl rfl) rfl rfl (pq_cmp rfl (.g rfl) (.p rfl) rfl) ?_
  refine pwl_qg (pguard_f rfl rfl rfl) rfl rfl (pq_move (p := .v (.bool (p0.Registered != (-1)))) rfl (.g rfl)) ?_
  refine pwl_qg (pguard_gt rfl rfl rfl) rfl rfl (pq_fieldAddr rfl rfl rfl rfl rfl (.p rfl)) ?_
  refine pwl_qg (pguard_gt rfl rfl rfl) rfl rfl (pq_load_b (p := .v (.int .i64 p0.Registered)) rfl (.g rfl) (by (repeat (first | exact List.Mem.head _ | apply List.Mem.tail))) rfl) ?_
  refine pwl_qg (pguard_gt rfl rfl rfl) rfl rfl (pq_move (p := .v (.int .i64 p1)) rfl (.p rfl)) ?_
  refine pwl_qg (pguard_gt rfl rfl rfl) rfl rfl (pq_cmp rfl (.g rfl) (.g rfl) rfl) ?_
  refine pwl_qg (pguard_f rfl rfl rfl) rfl rfl (pq_and rfl (.g rfl) (.p rfl) (.g rfl)) ?_
  refine pwl_qg (pguard_f rfl rfl rfl) rfl rfl (pq_move (p := .v (.bool ((p0.Registered != (-1)) && (decide (p0.Registered ≤ p1))))) rfl (.g rfl)) ?_
  refine pwl_qg (pguard_gt rfl rfl rfl) rfl rfl (pq_move (p := .v (.int .i64 p1)) rfl (.p rfl)) ?_
  refine pwl_qg (pguard_gt rfl rfl rfl) rfl rfl (pq_fieldAddr rfl rfl rfl rfl rfl (.p rfl)) ?_
  refine pwl_qg (pguard_gt rfl rfl rfl) rfl rfl (pq_load_b (p := .v (.int .i64 p0.From)) rfl (.g rfl) (by (repeat (first | exact List.Mem.head _ | apply List.Mem.tail))) rfl) ?_
  refine pwl_qg (pguard_gt rfl rfl rfl) rfl rfl (pq_cmp rfl (.g rfl) (.g rfl) rfl) ?_
  refine pwl_qg (pguard_f rfl rfl rfl) rfl rfl (pq_and rfl (.g rfl) (.p rfl) (.g rfl)) ?_
  refine pwl_q rfl rfl rfl (pq_or rfl (.p rfl) (.p rfl) (.g rfl)) ?_
  refine pwl_q rfl rfl rfl (pq_assign (p := .v (.bool (((decide (p0.From ≤ p1)) && (decide (p1 < p0.To))) || (((p0.Registered != (-1)) && (decide (p0.Registered ≤ p1))) && (decide (p1 < p0.From)))))) rfl (.p rfl)) ?_
  refine pwl_nil ?_
  (repeat (first | apply pk_block_n | apply pk_seq))
  refine pwc_ret ?_
  (repeat (first | apply pk_seq_ret | apply pk_block_ret | apply pk_mid_ret | apply pk_cut_ret))
  obtain rfl := Option.some.inj h
  exact pret_of (prv_1 (prv1_t rfl)) PSub.nil ⟨rfl, rfl⟩
/-- internal/stringslite.HasPrefix -/
def stringslite_HasPrefix (p0 : ByteArray) (p1 : ByteArray) : Option Bool := Option.bind (gd (decide ((p1.size : Int) ≤ (p0.size : Int))) (ssub p0 0 (p1.size : Int))) (fun s1 => some ((decide ((p1.size : Int) ≤ (p0.size : Int))) && (decide (s1 = p1))))
set_option maxHeartbeats 4000000 in
theorem stringslite_HasPrefix_ok {p0 : ByteArray} {p1 : ByteArray} {r : Bool}  (h : stringslite_HasPrefix p0 p1 = some r) : PF 115 [.v (.string p0), .v (.string p1)] (.v (.bool r)) := by
  unfold stringslite_HasPrefix at h
  refine pf_of ?_
  refine penter Tryz.func115 fk115 rfl Tryz.ntmps115 Tryz.results115 rfl ?_
  refine pwc_seq ?_
  refine pwc_region ?_
  refine pwl_q rfl rfl rfl (pq_assign (p := .v (.bool false)) rfl (.p rfl)) ?_
  refine pwl_nil ?_
  (repeat (first | apply pk_block_n | apply pk_seq))
  refine pwc_seq ?_
  refine pwc_region ?_
  refine pwl_q rfl rfl rfl (pq_move (p := .v (.string p0)) rfl (.p rfl)) ?_
  refine pwl_q rfl rfl rfl (pq_lenS rfl rfl (.p rfl)) ?_
  refine pwl_q rfl rfl rfl (pq_move (p := .v (.string p1)) rfl (.p rfl)) ?_
  refine pwl_q rfl rfl rfl (pq_lenS rfl rfl (.p rfl)) ?_
  refine pwl_q rfl rfl rfl (pq_cmp rfl (.p rfl) (.p rfl) rfl) ?_
  refine pwl_q rfl rfl rfl (pq_move (p := .v (.bool (decide ((p1.size : Int) ≤ (p0.size : Int))))) rfl (.p rfl)) ?_
  refine pwl_qg (pguard_t rfl rfl rfl) rfl rfl (pq_move (p := .v (.string p0)) rfl (.p rfl)) ?_
  refine pwl_qg (pguard_t rfl rfl rfl) rfl rfl (pq_move (p := .v (.string p1)) rfl (.p rfl)) ?_
  refine pwl_qg (pguard_t rfl rfl rfl) rfl rfl (pq_lenS rfl rfl (.g rfl)) ?_
  refine bind_elim h ?_; clear h; intro s1 hs1 h
  refine pwl_qg (pguard_t rfl rfl rfl) rfl rfl (pq_ssliceH rfl rfl (.g rfl) (.g rfl) (gd_t hs1)) ?_
  refine pwl_qg (pguard_t rfl rfl rfl) rfl rfl (pq_move (p := .v (.string p1)) rfl (.p rfl)) ?_
  refine pwl_qg (pguard_t rfl rfl rfl) rfl rfl (pq_str rfl (.g rfl) (.g rfl) rfl) ?_
  refine pwl_q rfl rfl rfl (pq_and rfl (.p rfl) (.p rfl) (.g rfl)) ?_
  refine pwl_q rfl rfl rfl (pq_assign (p := .v (.bool ((decide ((p1.size : Int) ≤ (p0.size : Int))) && (decide (s1 = p1))))) rfl (.p rfl)) ?_
  refine pwl_nil ?_
  (repeat (first | apply pk_block_n | apply pk_seq))
  refine pwc_ret ?_
  (repeat (first | apply pk_seq_ret | apply pk_block_ret | apply pk_mid_ret | apply pk_cut_ret))
  obtain rfl := Option.some.inj h
  exact pret_of (prv_1 (prv1_t rfl)) PSub.nil ⟨rfl, rfl⟩
/-- strings.HasPrefix -/
def strings_HasPrefix (p0 : ByteArray) (p1 : ByteArray) : Option Bool := Option.bind (stringslite_HasPrefix p0 p1) (fun x1 => some x1)
set_option maxHeartbeats 4000000 in
theorem strings_HasPrefix_ok {p0 : ByteArray} {p1 : ByteArray} {r : Bool}  (h : strings_HasPrefix p0 p1 = some r) : PF 85 [.v (.string p0), .v (.string p1)] (.v (.bool r)) := by
  unfold strings_HasPrefix at h
  refine pf_of ?_
  refine penter Tryz.func85 fk85 rfl Tryz.ntmps85 Tryz.results85 rfl ?_
  refine pwc_seq ?_
  refine pwc_region ?_
  refine pwl_q rfl rfl rfl (pq_assign (p := .v (.bool false)) rfl (.p rfl)) ?_
  refine pwl_nil ?_
  (repeat (first | apply pk_block_n | apply pk_seq))
  refine pwc_seq ?_
  refine pwc_region ?_
  refine pwl_q rfl rfl rfl (pq_move (p := .v (.string p0)) rfl (.p rfl)) ?_
  refine pwl_q rfl rfl rfl (pq_move (p := .v (.string p1)) rfl (.p rfl)) ?_
  refine bind_elim h ?_; clear h; intro x1 hx1 h
  refine pwl_call rfl rfl rfl rfl rfl (stringslite_HasPrefix_ok hx1) ?_
  refine pwl_q rfl rfl rfl (pq_assign (p := .v (.bool x1)) rfl (.p rfl)) ?_
  refine pwl_nil ?_
  (repeat (first | apply pk_block_n | apply pk_seq))
  refine pwc_ret ?_
  (repeat (first | apply pk_seq_ret | apply pk_block_ret | apply pk_mid_ret | apply pk_cut_ret))
  obtain rfl := Option.some.inj h
  exact pret_of (prv_1 (prv1_t rfl)) PSub.nil ⟨rfl, rfl⟩
/-- slices.Index[[]string,string] -/
def slices_Index_string_string (p0 : (List ByteArray)) (p1 : ByteArray) : Option Int := Option.bind (loopF (S := Int) (T := (Unit) ⊕ (_)) (fun v1 => cond (decide (v1 < (p0.length : Int))) (Option.bind (idx p0 v1) (fun m5 => cond (decide (p1 = m5)) (some (.inr (.inr v1))) (some (.inl (IntKind.i64.wrap (v1 + 1)))))) (some (.inr (.inl ())))) FUEL 0) (fun q => match q with | .inl _ => some (-1) | .inr e => some e)
set_option maxHeartbeats 4000000 in
theorem slices_Index_string_string_ok {p0 : (List ByteArray)} {p1 : ByteArray} {r : Int}  (h : slices_Index_string_string p0 p1 = some r) : PF 116 [.slc (List.map eS p0), .v (.string p1)] (.v (.int .i64 r)) := by
  unfold slices_Index_string_string at h
  refine pf_of ?_
  refine penter Tryz.func116 fk116 rfl Tryz.ntmps116 Tryz.results116 rfl ?_
  refine pwc_seq ?_
  refine pwc_region ?_
  refine pwl_q rfl rfl rfl (pq_assign (p := .v (.int .i64 0)) rfl (.p rfl)) ?_
  refine pwl_nil ?_
  (repeat (first | apply pk_block_n | apply pk_seq))
  refine pwc_seq ?_
  refine pwc_seq ?_
  refine pwc_region ?_
  refine pwl_q rfl rfl rfl (pq_move (p := .slc (List.map eS p0)) rfl (.p rfl)) ?_
  refine pwl_q rfl rfl rfl (pq_lenT (enc := eS) rfl rfl (.p rfl)) ?_
  refine pwl_q rfl rfl rfl (pq_move (p := .v (.int .i64 0)) rfl (.p rfl)) ?_
  refine pwl_nil ?_
  (repeat (first | apply pk_block_n | apply pk_seq))
  refine bind_elim h ?_; clear h; intro q3 hq3 h
  refine pwc_join (Y := (Unit) × (Unit)) (fun (_, _) => []) (fun (_, _) => []) (fun (_, _) => q3 = Sum.inl ()) ?_ ?_
  · refine pwc_block ?_
    refine pwc_loopF (Y := Unit) (S := Int) _ hq3 (fun _ v1 => [(0, .slc (List.map eS p0)), (1, .v (.string p1)), (7, .v (.int .i64 (p0.length : Int))), (8, .v (.int .i64 v1))]) (fun _ v1 => []) () (by (repeat (first | exact PHolds.nil | apply PHolds.cons rfl))) (by (repeat (first | exact PSub.nil | (apply PSub.cons; (focus (repeat (first | exact PPick.h | apply PPick.t))))))) ?_
    rintro _ v1 o τ hb2; (try dsimp only at hb2); dsimp only [pupds]
    refine pwc_seq ?_
    refine pwc_region ?_
    refine pwl_q rfl rfl rfl (pq_cmp rfl (.p rfl) (.p rfl) rfl) ?_
    refine pwl_nil ?_
    (repeat (first | apply pk_block_n | apply pk_seq))
    refine pwc_seq ?_
    refine pwc_cond rfl (fun hc4 => ?_) (fun hc4 => ?_)
    · replace hb2 := cond_t hc4 hb2
      refine pwc_skip ?_
      (repeat (first | apply pk_block_n | apply pk_seq))
      refine pwc_seq ?_
      refine pwc_block ?_
      refine pwc_seq ?_
      refine pwc_region ?_
      refine pwl_q rfl rfl rfl (pq_move (p := .v (.int .i64 v1)) rfl (.p rfl)) ?_
      refine pwl_q rfl rfl rfl (pq_assign (p := .v (.int .i64 v1)) rfl (.p rfl)) ?_
      refine pwl_nil ?_
      (repeat (first | apply pk_block_n | apply pk_seq))
      refine pwc_seq ?_
      refine pwc_region ?_
      refine pwl_q rfl rfl rfl (pq_move (p := .v (.string p1)) rfl (.p rfl)) ?_
      refine pwl_q rfl rfl rfl (pq_move (p := .slc (List.map eS p0)) rfl (.p rfl)) ?_
      refine pwl_q rfl rfl rfl (pq_move (p := .v (.int .i64 v1)) rfl (.p rfl)) ?_
      refine bind_elim hb2 ?_; clear hb2; intro m5 hm5 hb2
      refine pwl_q rfl rfl rfl (pq_index (enc := eS) rfl rfl rfl (fun _ => rfl) (.p rfl) (.p rfl) (fun _ => hm5)) ?_
      refine pwl_q rfl rfl rfl (pq_load_r (p := .v (.string m5)) rfl (.p rfl) rfl) ?_
      refine pwl_q rfl rfl rfl (pq_str rfl (.p rfl) (.p rfl) rfl) ?_
      refine pwl_nil ?_
      (repeat (first | apply pk_block_n | apply pk_seq))
      refine pwc_cond rfl (fun hc6 => ?_) (fun hc6 => ?_)
      · replace hb2 := cond_t hc6 hb2
        refine pwc_seq ?_
        refine pwc_region ?_
        refine pwl_q rfl rfl rfl (pq_move (p := .v (.int .i64 v1)) rfl (.p rfl)) ?_
        refine pwl_q rfl rfl rfl (pq_assign (p := .v (.int .i64 v1)) rfl (.p rfl)) ?_
        refine pwl_nil ?_
        (repeat (first | apply pk_block_n | apply pk_seq))
        refine pwc_ret ?_
        (repeat (first | apply pk_seq_ret | apply pk_block_ret | apply pk_mid_ret | apply pk_cut_ret))
        refine pk_loop_ret hb2 (fun ht => ?_); subst ht
        have h := (show some _ = some _ from h)
        (repeat (first | apply pk_seq_ret | apply pk_block_ret | apply pk_mid_ret | apply pk_cut_ret))
        obtain rfl := Option.some.inj h
        exact pret_of (prv_1 (prv1_t rfl)) PSub.nil ⟨rfl, rfl⟩
      · replace hb2 := cond_f hc6 hb2
        refine pwc_skip ?_
        refine pk_block_n ?_
        (repeat (first | apply pk_block_n | apply pk_seq))
        refine pwc_region ?_
        refine pwl_q rfl rfl rfl (pq_arith rfl (.p rfl) (.p rfl) rfl) ?_
        refine pwl_q rfl rfl rfl (pq_move (p := .v (.int .i64 (IntKind.i64.wrap (v1 + 1)))) rfl (.p rfl)) ?_
        refine pwl_nil ?_
        (repeat apply pk_block_n)
        exact pk_loop hb2 () (by (repeat (first | exact PHolds.nil | apply PHolds.cons rfl))) (by (repeat (first | exact PSub.nil | (apply PSub.cons; (focus (repeat (first | exact PPick.h | apply PPick.t)))))))
    · replace hb2 := cond_f hc4 hb2
      refine pwc_exit ?_
      (repeat (first | apply pk_seq_exit | apply pk_mid_exit | apply pk_cut_exit | apply pk_block_ne rfl))
      refine pk_loop_exit hb2 (fun ht => ?_)
      refine pk_block_eq rfl ?_
      exact pk_mid ((), ()) (by (repeat (first | exact PHolds.nil | apply PHolds.cons rfl))) (by (repeat (first | exact PSub.nil | (apply PSub.cons; (focus (repeat (first | exact PPick.h | apply PPick.t))))))) ht.symm
  · rintro ⟨_, _⟩ τ hz; (try dsimp only at hz); subst q3; (try dsimp only at h); dsimp only [pupds]
    refine pwc_seq ?_
    refine pwc_region ?_
    refine pwl_q rfl rfl rfl (pq_assign (p := .v (.int .i64 (-1))) rfl (.p rfl)) ?_
    refine pwl_nil ?_
    (repeat (first | apply pk_block_n | apply pk_seq))
    refine pwc_ret ?_
    (repeat (first | apply pk_seq_ret | apply pk_block_ret | apply pk_mid_ret | apply pk_cut_ret))
    obtain rfl := Option.some.inj h
    exact pret_of (prv_1 (prv1_t rfl)) PSub.nil ⟨rfl, rfl⟩
/-- slices.Contains[[]string,string] -/
def slices_Contains_string_string (p0 : (List ByteArray)) (p1 : ByteArray) : Option Bool := Option.bind (slices_Index_string_string p0 p1) (fun x1 => some (decide (0 ≤ x1)))
set_option maxHeartbeats 4000000 in
theorem slices_Contains_string_string_ok {p0 : (List ByteArray)} {p1 : ByteArray} {r : Bool}  (h : slices_Contains_string_string p0 p1 = some r) : PF 86 [.slc (List.map eS p0), .v (.string p1)] (.v (.bool r)) := by
  unfold slices_Contains_string_string at h
  refine pf_of ?_
  refine penter Tryz.func86 fk86 rfl Tryz.ntmps86 Tryz.results86 rfl ?_
  refine pwc_seq ?_
  refine pwc_region ?_
  refine pwl_q rfl rfl rfl (pq_assign (p := .v (.bool false)) rfl (.p rfl)) ?_
  refine pwl_nil ?_
  (repeat (first | apply pk_block_n | apply pk_seq))
  refine pwc_seq ?_
  refine pwc_region ?_
  refine pwl_q rfl rfl rfl (pq_move (p := .slc (List.map eS p0)) rfl (.p rfl)) ?_
  refine pwl_q rfl rfl rfl (pq_move (p := .v (.string p1)) rfl (.p rfl)) ?_
  refine bind_elim h ?_; clear h; intro x1 hx1 h
  refine pwl_call rfl rfl rfl rfl rfl (slices_Index_string_string_ok hx1) ?_
  refine pwl_q rfl rfl rfl (pq_cmp rfl (.p rfl) (.p rfl) rfl) ?_
  refine pwl_q rfl rfl rfl (pq_assign (p := .v (.bool (decide (0 ≤ x1)))) rfl (.p rfl)) ?_
  refine pwl_nil ?_
  (repeat (first | apply pk_block_n | apply pk_seq))
  refine pwc_ret ?_
  (repeat (first | apply pk_seq_ret | apply pk_block_ret | apply pk_mid_ret | apply pk_cut_ret))
  obtain rfl := Option.some.inj h
  exact pret_of (prv_1 (prv1_t rfl)) PSub.nil ⟨rfl, rfl⟩
/-- customs/measure.Covers -/
def measure_Covers (p0 : TMeasure) (p1 : ByteArray) (p2 : ByteArray) (p3 : Int) (p4 : Int) : Option Bool := Option.bind (measure_InForce p0 p4) (fun x2 => Option.bind (gd x2 (strings_HasPrefix p1 p0.Prefix)) (fun x3 => Option.bind (gd ((x2 && x3) && (!((p0.Origins.length : Int) == 0))) (slices_Contains_string_string p0.Origins p2)) (fun x4 => some (((x2 && x3) && (((p0.Origins.length : Int) == 0) || x4)) && ((p0.Company == 0) || (p0.Company == p3))))))
set_option maxHeartbeats 4000000 in
theorem measure_Covers_ok {p0 : TMeasure} {p1 : ByteArray} {p2 : ByteArray} {p3 : Int} {p4 : Int} {r : Bool}  (h : measure_Covers p0 p1 p2 p3 p4 = some r) : PF 56 [.agg [.v (.int .i64 p0.ID), .v (.int .i64 p0.Kind), .v (.string p0.Prefix), .slc (List.map eS p0.Origins), .v (.int .i64 p0.Company), .v (.int .i64 p0.From), .v (.int .i64 p0.To), .v (.int .i64 p0.Registered), .v (.int .i64 p0.Duty.Rate), .v (.int .i64 p0.Duty.Amount), .v (.int .i64 p0.Duty.Per), .v (.bool p0.Duty.HasMost), .v (.int .i64 p0.Duty.Most), .v (.bool p0.Duty.HasLeast), .v (.int .i64 p0.Duty.Least)], .v (.string p1), .v (.string p2), .v (.int .i64 p3), .v (.int .i64 p4)] (.v (.bool r)) := by
  unfold measure_Covers at h
  refine pf_of ?_
  refine penter Tryz.func56 fk56 rfl Tryz.ntmps56 Tryz.results56 rfl ?_
  refine pwc_seq ?_
  refine pwc_region ?_
  refine pwl_l rfl rfl rfl (pl_box (cs := [.v (.int .i64 p0.ID), .v (.int .i64 p0.Kind), .v (.string p0.Prefix), .slc (List.map eS p0.Origins), .v (.int .i64 p0.Company), .v (.int .i64 p0.From), .v (.int .i64 p0.To), .v (.int .i64 p0.Registered), .v (.int .i64 p0.Duty.Rate), .v (.int .i64 p0.Duty.Amount), .v (.int .i64 p0.Duty.Per), .v (.bool p0.Duty.HasMost), .v (.int .i64 p0.Duty.Most), .v (.bool p0.Duty.HasLeast), .v (.int .i64 p0.Duty.Least)]) rfl rfl (fun b1 => ?_))
  refine pwl_q rfl rfl rfl (pq_assign (p := .v (.bool false)) rfl (.p rfl)) ?_
  refine pwl_nil ?_
  (repeat (first | apply pk_block_n | apply pk_seq))
  refine pwc_seq ?_
  refine pwc_region ?_
  refine pwl_q rfl rfl rfl (pq_load_b (p := .agg [.v (.int .i64 p0.ID), .v (.int .i64 p0.Kind), .v (.string p0.Prefix), .slc (List.map eS p0.Origins), .v (.int .i64 p0.Company), .v (.int .i64 p0.From), .v (.int .i64 p0.To), .v (.int .i64 p0.Registered), .v (.int .i64 p0.Duty.Rate), .v (.int .i64 p0.Duty.Amount), .v (.int .i64 p0.Duty.Per), .v (.bool p0.Duty.HasMost), .v (.int .i64 p0.Duty.Most), .v (.bool p0.Duty.HasLeast), .v (.int .i64 p0.Duty.Least)]) rfl (.p rfl) (by (repeat (first | exact List.Mem.head _ | apply List.Mem.tail))) rfl) ?_
  refine pwl_q rfl rfl rfl (pq_move (p := .v (.int .i64 p4)) rfl (.p rfl)) ?_
  refine bind_elim h ?_; clear h; intro x2 hx2 h
  refine pwl_call rfl rfl rfl rfl rfl (measure_InForce_ok hx2) ?_
  refine pwl_q rfl rfl rfl (pq_move (p := .v (.bool x2)) rfl (.p rfl)) ?_
  refine pwl_qg (pguard_t rfl rfl rfl) rfl rfl (pq_move (p := .v (.string p1)) rfl (.p rfl)) ?_
  refine pwl_qg (pguard_t rfl rfl rfl) rfl rfl (pq_fieldAddr rfl rfl rfl rfl rfl (.p rfl)) ?_
  refine pwl_qg (pguard_t rfl rfl rfl) rfl rfl (pq_load_b (p := .v (.string p0.Prefix)) rfl (.g rfl) (by (repeat (first | exact List.Mem.head _ | apply List.Mem.tail))) rfl) ?_
  refine bind_elim h ?_; clear h; intro x3 hx3 h
  refine pwl_callg (pguard_t rfl rfl rfl) rfl rfl rfl (pargs_cons (.g rfl) (pargs_cons (.g rfl) (pargs_nil))) (fun hc => strings_HasPrefix_ok (gd_t hx3 hc)) ?_
  refine pwl_q rfl rfl rfl (pq_and rfl (.p rfl) (.p rfl) (.g rfl)) ?_
  refine pwl_q rfl rfl rfl (pq_move (p := .v (.bool (x2 && x3))) rfl (.p rfl)) ?_
  refine pwl_qg (pguard_t rfl rfl rfl) rfl rfl (pq_fieldAddr rfl rfl rfl rfl rfl (.p rfl)) ?_
  refine pwl_qg (pguard_t rfl rfl rfl) rfl rfl (pq_load_b (p := .slc (List.map eS p0.Origins)) rfl (.g rfl) (by (repeat (first | exact List.Mem.head _ | apply List.Mem.tail))) rfl) ?_
  refine pwl_qg (pguard_t rfl rfl rfl) rfl rfl (pq_lenT (enc := eS) rfl rfl (.g rfl)) ?_
  refine pwl_qg (pguard_t rfl rfl rfl) rfl rfl (pq_cmp rfl (.g rfl) (.p rfl) rfl) ?_
  refine pwl_qg (pguard_t rfl rfl rfl) rfl rfl (pq_move (p := .v (.bool ((p0.Origins.length : Int) == 0))) rfl (.g rfl)) ?_
  refine pwl_qg (pguard_gf rfl rfl rfl) rfl rfl (pq_fieldAddr rfl rfl rfl rfl rfl (.p rfl)) ?_
  refine pwl_qg (pguard_gf rfl rfl rfl) rfl rfl (pq_load_b (p := .slc (List.map eS p0.Origins)) rfl (.g rfl) (by (repeat (first | exact List.Mem.head _ | apply List.Mem.tail))) rfl) ?_
  refine pwl_qg (pguard_gf rfl rfl rfl) rfl rfl (pq_move (p := .v (.string p2)) rfl (.p rfl)) ?_
  refine bind_elim h ?_; clear h; intro x4 hx4 h
  refine pwl_callg (pguard_gf rfl rfl rfl) rfl rfl rfl (pargs_cons (.g rfl) (pargs_cons (.g rfl) (pargs_nil))) (fun hc => slices_Contains_string_string_ok (gd_t hx4 hc)) ?_
  refine pwl_qg (pguard_t rfl rfl rfl) rfl rfl (pq_or rfl (.g rfl) (.p rfl) (.g rfl)) ?_
  refine pwl_q rfl rfl rfl (pq_and rfl (.p rfl) (.p rfl) (.g rfl)) ?_
  refine pwl_q rfl rfl rfl (pq_move (p := .v (.bool ((x2 && x3) && (((p0.Origins.length : Int) == 0) || x4)))) rfl (.p rfl)) ?_
  refine pwl_qg (pguard_t rfl rfl rfl) rfl rfl (pq_fieldAddr rfl rfl rfl rfl rfl (.p rfl)) ?_
  refine pwl_qg (pguard_t rfl rfl rfl) rfl rfl (pq_load_b (p := .v (.int .i64 p0.Company)) rfl (.g rfl) (by (repeat (first | exact List.Mem.head _ | apply List.Mem.tail))) rfl) ?_
  refine pwl_qg (pguard_t rfl rfl rfl) rfl rfl (pq_cmp rfl (.g rfl) (.p rfl) rfl) ?_
  refine pwl_qg (pguard_t rfl rfl rfl) rfl rfl (pq_move (p := .v (.bool (p0.Company == 0))) rfl (.g rfl)) ?_
  refine pwl_qg (pguard_gf rfl rfl rfl) rfl rfl (pq_fieldAddr rfl rfl rfl rfl rfl (.p rfl)) ?_
  refine pwl_qg (pguard_gf rfl rfl rfl) rfl rfl (pq_load_b (p := .v (.int .i64 p0.Company)) rfl (.g rfl) (by (repeat (first | exact List.Mem.head _ | apply List.Mem.tail))) rfl) ?_
  refine pwl_qg (pguard_gf rfl rfl rfl) rfl rfl (pq_move (p := .v (.int .i64 p3)) rfl (.p rfl)) ?_
  refine pwl_qg (pguard_gf rfl rfl rfl) rfl rfl (pq_cmp rfl (.g rfl) (.g rfl) rfl) ?_
  refine pwl_qg (pguard_t rfl rfl rfl) rfl rfl (pq_or rfl (.g rfl) (.p rfl) (.g rfl)) ?_
  refine pwl_q rfl rfl rfl (pq_and rfl (.p rfl) (.p rfl) (.g rfl)) ?_
  refine pwl_q rfl rfl rfl (pq_assign (p := .v (.bool (((x2 && x3) && (((p0.Origins.length : Int) == 0) || x4)) && ((p0.Company == 0) || (p0.Company == p3))))) rfl (.p rfl)) ?_
  refine pwl_nil ?_
  (repeat (first | apply pk_block_n | apply pk_seq))
  refine pwc_ret ?_
  (repeat (first | apply pk_seq_ret | apply pk_block_ret | apply pk_mid_ret | apply pk_cut_ret))
  obtain rfl := Option.some.inj h
  exact pret_of (prv_1 (prv1_t rfl)) PSub.nil ⟨rfl, rfl⟩
/-- customs/measure.precedes -/
def measure_precedes (p0 : TMeasure) (p1 : TMeasure) : Option Bool := cond ((p0.Prefix.size : Int) != (p1.Prefix.size : Int)) (some (decide ((p1.Prefix.size : Int) < (p0.Prefix.size : Int)))) (cond ((p0.Company != 0) != (p1.Company != 0)) (some (p0.Company != 0)) (cond ((p0.Origins.length : Int) != (p1.Origins.length : Int)) (some (((p1.Origins.length : Int) == 0) || (((p0.Origins.length : Int) != 0) && (decide ((p0.Origins.length : Int) < (p1.Origins.length : Int)))))) (some (decide (p1.ID < p0.ID)))))
set_option maxHeartbeats 4000000 in
theorem measure_precedes_ok {p0 : TMeasure} {p1 : TMeasure} {r : Bool}  (h : measure_precedes p0 p1 = some r) : PF 57 [.agg [.v (.int .i64 p0.ID), .v (.int .i64 p0.Kind), .v (.string p0.Prefix), .slc (List.map eS p0.Origins), .v (.int .i64 p0.Company), .v (.int .i64 p0.From), .v (.int .i64 p0.To), .v (.int .i64 p0.Registered), .v (.int .i64 p0.Duty.Rate), .v (.int .i64 p0.Duty.Amount), .v (.int .i64 p0.Duty.Per), .v (.bool p0.Duty.HasMost), .v (.int .i64 p0.Duty.Most), .v (.bool p0.Duty.HasLeast), .v (.int .i64 p0.Duty.Least)], .agg [.v (.int .i64 p1.ID), .v (.int .i64 p1.Kind), .v (.string p1.Prefix), .slc (List.map eS p1.Origins), .v (.int .i64 p1.Company), .v (.int .i64 p1.From), .v (.int .i64 p1.To), .v (.int .i64 p1.Registered), .v (.int .i64 p1.Duty.Rate), .v (.int .i64 p1.Duty.Amount), .v (.int .i64 p1.Duty.Per), .v (.bool p1.Duty.HasMost), .v (.int .i64 p1.Duty.Most), .v (.bool p1.Duty.HasLeast), .v (.int .i64 p1.Duty.Least)]] (.v (.bool r)) := by
  unfold measure_precedes at h
  refine pf_of ?_
  refine penter Tryz.func57 fk57 rfl Tryz.ntmps57 Tryz.results57 rfl ?_
  refine pwc_seq ?_
  refine pwc_region ?_
  refine pwl_l rfl rfl rfl (pl_box (cs := [.v (.int .i64 p0.ID), .v (.int .i64 p0.Kind), .v (.string p0.Prefix), .slc (List.map eS p0.Origins), .v (.int .i64 p0.Company), .v (.int .i64 p0.From), .v (.int .i64 p0.To), .v (.int .i64 p0.Registered), .v (.int .i64 p0.Duty.Rate), .v (.int .i64 p0.Duty.Amount), .v (.int .i64 p0.Duty.Per), .v (.bool p0.Duty.HasMost), .v (.int .i64 p0.Duty.Most), .v (.bool p0.Duty.HasLeast), .v (.int .i64 p0.Duty.Least)]) rfl rfl (fun b1 => ?_))
  refine pwl_l rfl rfl rfl (pl_box (cs := [.v (.int .i64 p1.ID), .v (.int .i64 p1.Kind), .v (.string p1.Prefix), .slc (List.map eS p1.Origins), .v (.int .i64 p1.Company), .v (.int .i64 p1.From), .v (.int .i64 p1.To), .v (.int .i64 p1.Registered), .v (.int .i64 p1.Duty.Rate), .v (.int .i64 p1.Duty.Amount), .v (.int .i64 p1.Duty.Per), .v (.bool p1.Duty.HasMost), .v (.int .i64 p1.Duty.Most), .v (.bool p1.Duty.HasLeast), .v (.int .i64 p1.Duty.Least)]) rfl rfl (fun b2 => ?_))
  refine pwl_q rfl rfl rfl (pq_assign (p := .v (.bool false)) rfl (.p rfl)) ?_
  refine pwl_nil ?_
  (repeat (first | apply pk_block_n | apply pk_seq))
  refine pwc_seq ?_
  refine pwc_seq ?_
  refine pwc_region ?_
  refine pwl_q rfl rfl rfl (pq_fieldAddr rfl rfl rfl rfl rfl (.p rfl)) ?_
  refine pwl_q rfl rfl rfl (pq_load_b (p := .v (.string p0.Prefix)) rfl (.p rfl) (by (repeat (first | exact List.Mem.head _ | apply List.Mem.tail))) rfl) ?_
  refine pwl_q rfl rfl rfl (pq_lenS rfl rfl (.p rfl)) ?_
  refine pwl_q rfl rfl rfl (pq_fieldAddr rfl rfl rfl rfl rfl (.p rfl)) ?_
  refine pwl_q rfl rfl rfl (pq_load_b (p := .v (.string p1.Prefix)) rfl (.p rfl) (by (repeat (first | exact List.Mem.head _ | apply List.Mem.tail))) rfl) ?_
  refine pwl_q rfl rfl rfl (pq_lenS rfl rfl (.p rfl)) ?_
  refine pwl_q rfl rfl rfl (pq_cmp rfl (.p rfl) (.p rfl) rfl) ?_
  refine pwl_nil ?_
  (repeat (first | apply pk_block_n | apply pk_seq))
  refine pwc_cond rfl (fun hc3 => ?_) (fun hc3 => ?_)
  · replace h := cond_t hc3 h
    refine pwc_seq ?_
    refine pwc_region ?_
    refine pwl_q rfl rfl rfl (pq_fieldAddr rfl rfl rfl rfl rfl (.p rfl)) ?_
    refine pwl_q rfl rfl rfl (pq_load_b (p := .v (.string p0.Prefix)) rfl (.p rfl) (by (repeat (first | exact List.Mem.head _ | apply List.Mem.tail))) rfl) ?_
    refine pwl_q rfl rfl rfl (pq_lenS rfl rfl (.p rfl)) ?_
    refine pwl_q rfl rfl rfl (pq_fieldAddr rfl rfl rfl rfl rfl (.p rfl)) ?_
    refine pwl_q rfl rfl rfl (pq_load_b (p := .v (.string p1.Prefix)) rfl (.p rfl) (by (repeat (first | exact List.Mem.head _ | apply List.Mem.tail))) rfl) ?_
    refine pwl_q rfl rfl rfl (pq_lenS rfl rfl (.p rfl)) ?_
    refine pwl_q rfl rfl rfl (pq_cmp rfl (.p rfl) (.p rfl) rfl) ?_
    refine pwl_q rfl rfl rfl (pq_assign (p := .v (.bool (decide ((p1.Prefix.size : Int) < (p0.Prefix.size : Int))))) rfl (.p rfl)) ?_
    refine pwl_nil ?_
    (repeat (first | apply pk_block_n | apply pk_seq))
    refine pwc_ret ?_
    (repeat (first | apply pk_seq_ret | apply pk_block_ret | apply pk_mid_ret | apply pk_cut_ret))
    obtain rfl := Option.some.inj h
    exact pret_of (prv_1 (prv1_t rfl)) PSub.nil ⟨rfl, rfl⟩
  · replace h := cond_f hc3 h
    refine pwc_skip ?_
    (repeat (first | apply pk_block_n | apply pk_seq))
    refine pwc_seq ?_
    refine pwc_seq ?_
    refine pwc_region ?_
    refine pwl_q rfl rfl rfl (pq_fieldAddr rfl rfl rfl rfl rfl (.p rfl)) ?_
    refine pwl_q rfl rfl rfl (pq_load_b (p := .v (.int .i64 p0.Company)) rfl (.p rfl) (by (repeat (first | exact List.Mem.head _ | apply List.Mem.tail))) rfl) ?_
    refine pwl_q rfl rfl rfl (pq_cmp rfl (.p rfl) (.p rfl) rfl) ?_
    refine pwl_q rfl rfl rfl (pq_fieldAddr rfl rfl rfl rfl rfl (.p rfl)) ?_
    refine pwl_q rfl rfl rfl (pq_load_b (p := .v (.int .i64 p1.Company)) rfl (.p rfl) (by (repeat (first | exact List.Mem.head _ | apply List.Mem.tail))) rfl) ?_
    refine pwl_q rfl rfl rfl (pq_cmp rfl (.p rfl) (.p rfl) rfl) ?_
    refine pwl_q rfl rfl rfl (pq_eqB rfl rfl (.p rfl) (.p rfl) rfl) ?_
    refine pwl_nil ?_
    (repeat (first | apply pk_block_n | apply pk_seq))
    refine pwc_cond rfl (fun hc4 => ?_) (fun hc4 => ?_)
    · replace h := cond_t hc4 h
      refine pwc_seq ?_
      refine pwc_region ?_
      refine pwl_q rfl rfl rfl (pq_fieldAddr rfl rfl rfl rfl rfl (.p rfl)) ?_
      refine pwl_q rfl rfl rfl (pq_load_b (p := .v (.int .i64 p0.Company)) rfl (.p rfl) (by (repeat (first | exact List.Mem.head _ | apply List.Mem.tail))) rfl) ?_
      refine pwl_q rfl rfl rfl (pq_cmp rfl (.p rfl) (.p rfl) rfl) ?_
      refine pwl_q rfl rfl rfl (pq_assign (p := .v (.bool (p0.Company != 0))) rfl (.p rfl)) ?_
      refine pwl_nil ?_
      (repeat (first | apply pk_block_n | apply pk_seq))
      refine pwc_ret ?_
      (repeat (first | apply pk_seq_ret | apply pk_block_ret | apply pk_mid_ret | apply pk_cut_ret))
      obtain rfl := Option.some.inj h
      exact pret_of (prv_1 (prv1_t rfl)) PSub.nil ⟨rfl, rfl⟩
    · replace h := cond_f hc4 h
      refine pwc_skip ?_
      (repeat (first | apply pk_block_n | apply pk_seq))
      refine pwc_seq ?_
      refine pwc_seq ?_
      refine pwc_region ?_
      refine pwl_q rfl rfl rfl (pq_fieldAddr rfl rfl rfl rfl rfl (.p rfl)) ?_
      refine pwl_q rfl rfl rfl (pq_load_b (p := .slc (List.map eS p0.Origins)) rfl (.p rfl) (by (repeat (first | exact List.Mem.head _ | apply List.Mem.tail))) rfl) ?_
      refine pwl_q rfl rfl rfl (pq_lenT (enc := eS) rfl rfl (.p rfl)) ?_
      refine pwl_q rfl rfl rfl (pq_fieldAddr rfl rfl rfl rfl rfl (.p rfl)) ?_
      refine pwl_q rfl rfl rfl (pq_load_b (p := .slc (List.map eS p1.Origins)) rfl (.p rfl) (by (repeat (first | exact List.Mem.head _ | apply List.Mem.tail))) rfl) ?_
      refine pwl_q rfl rfl rfl (pq_lenT (enc := eS) rfl rfl (.p rfl)) ?_
      refine pwl_q rfl rfl rfl (pq_cmp rfl (.p rfl) (.p rfl) rfl) ?_
      refine pwl_nil ?_
      (repeat (first | apply pk_block_n | apply pk_seq))
      refine pwc_cond rfl (fun hc5 => ?_) (fun hc5 => ?_)
      · replace h := cond_t hc5 h
        refine pwc_seq ?_
        refine pwc_region ?_
        refine pwl_q rfl rfl rfl (pq_fieldAddr rfl rfl rfl rfl rfl (.p rfl)) ?_
        refine pwl_q rfl rfl rfl (pq_load_b (p := .slc (List.map eS p1.Origins)) rfl (.p rfl) (by (repeat (first | exact List.Mem.head _ | apply List.Mem.tail))) rfl) ?_
        refine pwl_q rfl rfl rfl (pq_lenT (enc := eS) rfl rfl (.p rfl)) ?_
        refine pwl_q rfl rfl rfl (pq_cmp rfl (.p rfl) (.p rfl) rfl) ?_
        refine pwl_q rfl rfl rfl (pq_move (p := .v (.bool ((p1.Origins.length : Int) == 0))) rfl (.p rfl)) ?_
        refine pwl_qg (pguard_f rfl rfl rfl) rfl rfl (pq_fieldAddr rfl rfl rfl rfl rfl (.p rfl)) ?_
        refine pwl_qg (pguard_f rfl rfl rfl) rfl rfl (pq_load_b (p := .slc (List.map eS p0.Origins)) rfl (.g rfl) (by (repeat (first | exact List.Mem.head _ | apply List.Mem.tail))) rfl) ?_
        refine pwl_qg (pguard_f rfl rfl rfl) rfl rfl (pq_lenT (enc := eS) rfl rfl (.g rfl)) ?_
        refine pwl_qg (pguard_f rfl rfl rfl) rfl rfl (pq_cmp rfl (.g rfl) (.p rfl) rfl) ?_
        refine pwl_qg (pguard_f rfl rfl rfl) rfl rfl (pq_move (p := .v (.bool ((p0.Origins.length : Int) != 0))) rfl (.g rfl)) ?_
        refine pwl_qg (pguard_gt rfl rfl rfl) rfl rfl (pq_fieldAddr rfl rfl rfl rfl rfl (.p rfl)) ?_
        refine pwl_qg (pguard_gt rfl rfl rfl) rfl rfl (pq_load_b (p := .slc (List.map eS p0.Origins)) rfl (.g rfl) (by (repeat (first | exact List.Mem.head _ | apply List.Mem.tail))) rfl) ?_
        refine pwl_qg (pguard_gt rfl rfl rfl) rfl rfl (pq_lenT (enc := eS) rfl rfl (.g rfl)) ?_
        refine pwl_qg (pguard_gt rfl rfl rfl) rfl rfl (pq_fieldAddr rfl rfl rfl rfl rfl (.p rfl)) ?_
        refine pwl_qg (pguard_gt rfl rfl rfl) rfl rfl (pq_load_b (p := .slc (List.map eS p1.Origins)) rfl (.g rfl) (by (repeat (first | exact List.Mem.head _ | apply List.Mem.tail))) rfl) ?_
        refine pwl_qg (pguard_gt rfl rfl rfl) rfl rfl (pq_lenT (enc := eS) rfl rfl (.g rfl)) ?_
        refine pwl_qg (pguard_gt rfl rfl rfl) rfl rfl (pq_cmp rfl (.g rfl) (.g rfl) rfl) ?_
        refine pwl_qg (pguard_f rfl rfl rfl) rfl rfl (pq_and rfl (.g rfl) (.p rfl) (.g rfl)) ?_
        refine pwl_q rfl rfl rfl (pq_or rfl (.p rfl) (.p rfl) (.g rfl)) ?_
        refine pwl_q rfl rfl rfl (pq_assign (p := .v (.bool (((p1.Origins.length : Int) == 0) || (((p0.Origins.length : Int) != 0) && (decide ((p0.Origins.length : Int) < (p1.Origins.length : Int))))))) rfl (.p rfl)) ?_
        refine pwl_nil ?_
        (repeat (first | apply pk_block_n | apply pk_seq))
        refine pwc_ret ?_
        (repeat (first | apply pk_seq_ret | apply pk_block_ret | apply pk_mid_ret | apply pk_cut_ret))
        obtain rfl := Option.some.inj h
        exact pret_of (prv_1 (prv1_t rfl)) PSub.nil ⟨rfl, rfl⟩
      · replace h := cond_f hc5 h
        refine pwc_skip ?_
        (repeat (first | apply pk_block_n | apply pk_seq))
        refine pwc_seq ?_
        refine pwc_region ?_
        refine pwl_q rfl rfl rfl (pq_fieldAddr rfl rfl rfl rfl rfl (.p rfl)) ?_
        refine pwl_q rfl rfl rfl (pq_load_b (p := .v (.int .i64 p0.ID)) rfl (.p rfl) (by (repeat (first | exact List.Mem.head _ | apply List.Mem.tail))) rfl) ?_
        refine pwl_q rfl rfl rfl (pq_fieldAddr rfl rfl rfl rfl rfl (.p rfl)) ?_
        refine pwl_q rfl rfl rfl (pq_load_b (p := .v (.int .i64 p1.ID)) rfl (.p rfl) (by (repeat (first | exact List.Mem.head _ | apply List.Mem.tail))) rfl) ?_
        refine pwl_q rfl rfl rfl (pq_cmp rfl (.p rfl) (.p rfl) rfl) ?_
        refine pwl_q rfl rfl rfl (pq_assign (p := .v (.bool (decide (p1.ID < p0.ID)))) rfl (.p rfl)) ?_
        refine pwl_nil ?_
        (repeat (first | apply pk_block_n | apply pk_seq))
        refine pwc_ret ?_
        (repeat (first | apply pk_seq_ret | apply pk_block_ret | apply pk_mid_ret | apply pk_cut_ret))
        obtain rfl := Option.some.inj h
        exact pret_of (prv_1 (prv1_t rfl)) PSub.nil ⟨rfl, rfl⟩
/-- slices.IndexFunc[[]customs/api.Measure,customs/api.Measure] -/
def slices_IndexFunc_api_Measure_api_Measure (p0 : (List TMeasure)) (p1 : (TMeasure → Option Bool)) : Option Int := Option.bind (loopF (S := Int) (T := (Unit) ⊕ (_)) (fun v1 => cond (decide (v1 < (p0.length : Int))) (Option.bind (idx p0 v1) (fun m5 => Option.bind (p1 m5) (fun x6 => cond x6 (some (.inr (.inr v1))) (some (.inl (IntKind.i64.wrap (v1 + 1))))))) (some (.inr (.inl ())))) FUEL 0) (fun q => match q with | .inl _ => some (-1) | .inr e => some e)
set_option maxHeartbeats 4000000 in
theorem slices_IndexFunc_api_Measure_api_Measure_ok {p0 : (List TMeasure)} {p1 : (TMeasure → Option Bool)} {r : Int} {g1 : PV} (hg1 : ∀ {y0 : TMeasure} {w : Bool}, p1 y0 = some w → PFV g1 [.agg [.v (.int .i64 y0.ID), .v (.int .i64 y0.Kind), .v (.string y0.Prefix), .slc (List.map eS y0.Origins), .v (.int .i64 y0.Company), .v (.int .i64 y0.From), .v (.int .i64 y0.To), .v (.int .i64 y0.Registered), .v (.int .i64 y0.Duty.Rate), .v (.int .i64 y0.Duty.Amount), .v (.int .i64 y0.Duty.Per), .v (.bool y0.Duty.HasMost), .v (.int .i64 y0.Duty.Most), .v (.bool y0.Duty.HasLeast), .v (.int .i64 y0.Duty.Least)]] (.v (.bool w))) (h : slices_IndexFunc_api_Measure_api_Measure p0 p1 = some r) : PF 59 [.slc (List.map TMeasure.enc p0), g1] (.v (.int .i64 r)) := by
  unfold slices_IndexFunc_api_Measure_api_Measure at h
  refine pf_of ?_
  refine penter Tryz.func59 fk59 rfl Tryz.ntmps59 Tryz.results59 rfl ?_
  refine pwc_seq ?_
  refine pwc_region ?_
  refine pwl_q rfl rfl rfl (pq_assign (p := .v (.int .i64 0)) rfl (.p rfl)) ?_
  refine pwl_nil ?_
  (repeat (first | apply pk_block_n | apply pk_seq))
  refine pwc_seq ?_
  refine pwc_seq ?_
  refine pwc_region ?_
  refine pwl_q rfl rfl rfl (pq_move (p := .slc (List.map TMeasure.enc p0)) rfl (.p rfl)) ?_
  refine pwl_q rfl rfl rfl (pq_lenT (enc := TMeasure.enc) rfl rfl (.p rfl)) ?_
  refine pwl_q rfl rfl rfl (pq_move (p := .v (.int .i64 0)) rfl (.p rfl)) ?_
  refine pwl_nil ?_
  (repeat (first | apply pk_block_n | apply pk_seq))
  refine bind_elim h ?_; clear h; intro q3 hq3 h
  refine pwc_join (Y := (Unit) × (Unit)) (fun (_, _) => []) (fun (_, _) => []) (fun (_, _) => q3 = Sum.inl ()) ?_ ?_
  · refine pwc_block ?_
    refine pwc_loopF (Y := Unit) (S := Int) _ hq3 (fun _ v1 => [(0, .slc (List.map TMeasure.enc p0)), (1, g1), (7, .v (.int .i64 (p0.length : Int))), (8, .v (.int .i64 v1))]) (fun _ v1 => []) () (by (repeat (first | exact PHolds.nil | apply PHolds.cons rfl))) (by (repeat (first | exact PSub.nil | (apply PSub.cons; (focus (repeat (first | exact PPick.h | apply PPick.t))))))) ?_
    rintro _ v1 o τ hb2; (try dsimp only at hb2); dsimp only [pupds]
    refine pwc_seq ?_
    refine pwc_region ?_
    refine pwl_q rfl rfl rfl (pq_cmp rfl (.p rfl) (.p rfl) rfl) ?_
    refine pwl_nil ?_
    (repeat (first | apply pk_block_n | apply pk_seq))
    refine pwc_seq ?_
    refine pwc_cond rfl (fun hc4 => ?_) (fun hc4 => ?_)
    · replace hb2 := cond_t hc4 hb2
      refine pwc_skip ?_
      (repeat (first | apply pk_block_n | apply pk_seq))
      refine pwc_seq ?_
      refine pwc_block ?_
      refine pwc_seq ?_
      refine pwc_region ?_
      refine pwl_q rfl rfl rfl (pq_move (p := .v (.int .i64 v1)) rfl (.p rfl)) ?_
      refine pwl_q rfl rfl rfl (pq_assign (p := .v (.int .i64 v1)) rfl (.p rfl)) ?_
      refine pwl_nil ?_
      (repeat (first | apply pk_block_n | apply pk_seq))
      refine pwc_seq ?_
      refine pwc_region ?_
      refine pwl_q rfl rfl rfl (pq_move (p := g1) rfl (.p rfl)) ?_
      refine pwl_q rfl rfl rfl (pq_move (p := .slc (List.map TMeasure.enc p0)) rfl (.p rfl)) ?_
      refine pwl_q rfl rfl rfl (pq_move (p := .v (.int .i64 v1)) rfl (.p rfl)) ?_
      refine bind_elim hb2 ?_; clear hb2; intro m5 hm5 hb2
      refine pwl_q rfl rfl rfl (pq_index (enc := TMeasure.enc) rfl rfl rfl (fun _ => rfl) (.p rfl) (.p rfl) (fun _ => hm5)) ?_
      refine pwl_q rfl rfl rfl (pq_load_r (p := .agg [.v (.int .i64 m5.ID), .v (.int .i64 m5.Kind), .v (.string m5.Prefix), .slc (List.map eS m5.Origins), .v (.int .i64 m5.Company), .v (.int .i64 m5.From), .v (.int .i64 m5.To), .v (.int .i64 m5.Registered), .v (.int .i64 m5.Duty.Rate), .v (.int .i64 m5.Duty.Amount), .v (.int .i64 m5.Duty.Per), .v (.bool m5.Duty.HasMost), .v (.int .i64 m5.Duty.Most), .v (.bool m5.Duty.HasLeast), .v (.int .i64 m5.Duty.Least)]) rfl (.p rfl) rfl) ?_
      refine bind_elim hb2 ?_; clear hb2; intro x6 hx6 hb2
      refine pwl_callv rfl rfl rfl rfl rfl (hg1 hx6) ?_
      refine pwl_nil ?_
      (repeat (first | apply pk_block_n | apply pk_seq))
      refine pwc_cond rfl (fun hc7 => ?_) (fun hc7 => ?_)
      · replace hb2 := cond_t hc7 hb2
        refine pwc_seq ?_
        refine pwc_region ?_
        refine pwl_q rfl rfl rfl (pq_move (p := .v (.int .i64 v1)) rfl (.p rfl)) ?_
        refine pwl_q rfl rfl rfl (pq_assign (p := .v (.int .i64 v1)) rfl (.p rfl)) ?_
        refine pwl_nil ?_
        (repeat (first | apply pk_block_n | apply pk_seq))
        refine pwc_ret ?_
        (repeat (first | apply pk_seq_ret | apply pk_block_ret | apply pk_mid_ret | apply pk_cut_ret))
        refine pk_loop_ret hb2 (fun ht => ?_); subst ht
        have h := (show some _ = some _ from h)
        (repeat (first | apply pk_seq_ret | apply pk_block_ret | apply pk_mid_ret | apply pk_cut_ret))
        obtain rfl := Option.some.inj h
        exact pret_of (prv_1 (prv1_t rfl)) PSub.nil ⟨rfl, rfl⟩
      · replace hb2 := cond_f hc7 hb2
        refine pwc_skip ?_
        refine pk_block_n ?_
        (repeat (first | apply pk_block_n | apply pk_seq))
        refine pwc_region ?_
        refine pwl_q rfl rfl rfl (pq_arith rfl (.p rfl) (.p rfl) rfl) ?_
        refine pwl_q rfl rfl rfl (pq_move (p := .v (.int .i64 (IntKind.i64.wrap (v1 + 1)))) rfl (.p rfl)) ?_
        refine pwl_nil ?_
        (repeat apply pk_block_n)
        exact pk_loop hb2 () (by (repeat (first | exact PHolds.nil | apply PHolds.cons rfl))) (by (repeat (first | exact PSub.nil | (apply PSub.cons; (focus (repeat (first | exact PPick.h | apply PPick.t)))))))
    · replace hb2 := cond_f hc4 hb2
      refine pwc_exit ?_
      (repeat (first | apply pk_seq_exit | apply pk_mid_exit | apply pk_cut_exit | apply pk_block_ne rfl))
      refine pk_loop_exit hb2 (fun ht => ?_)
      refine pk_block_eq rfl ?_
      exact pk_mid ((), ()) (by (repeat (first | exact PHolds.nil | apply PHolds.cons rfl))) (by (repeat (first | exact PSub.nil | (apply PSub.cons; (focus (repeat (first | exact PPick.h | apply PPick.t))))))) ht.symm
  · rintro ⟨_, _⟩ τ hz; (try dsimp only at hz); subst q3; (try dsimp only at h); dsimp only [pupds]
    refine pwc_seq ?_
    refine pwc_region ?_
    refine pwl_q rfl rfl rfl (pq_assign (p := .v (.int .i64 (-1))) rfl (.p rfl)) ?_
    refine pwl_nil ?_
    (repeat (first | apply pk_block_n | apply pk_seq))
    refine pwc_ret ?_
    (repeat (first | apply pk_seq_ret | apply pk_block_ret | apply pk_mid_ret | apply pk_cut_ret))
    obtain rfl := Option.some.inj h
    exact pret_of (prv_1 (prv1_t rfl)) PSub.nil ⟨rfl, rfl⟩
/-- slices.ContainsFunc[[]customs/api.Measure,customs/api.Measure] -/
def slices_ContainsFunc_api_Measure_api_Measure (p0 : (List TMeasure)) (p1 : (TMeasure → Option Bool)) : Option Bool := Option.bind (slices_IndexFunc_api_Measure_api_Measure p0 p1) (fun x1 => some (decide (0 ≤ x1)))
set_option maxHeartbeats 4000000 in
theorem slices_ContainsFunc_api_Measure_api_Measure_ok {p0 : (List TMeasure)} {p1 : (TMeasure → Option Bool)} {r : Bool} {g1 : PV} (hg1 : ∀ {y0 : TMeasure} {w : Bool}, p1 y0 = some w → PFV g1 [.agg [.v (.int .i64 y0.ID), .v (.int .i64 y0.Kind), .v (.string y0.Prefix), .slc (List.map eS y0.Origins), .v (.int .i64 y0.Company), .v (.int .i64 y0.From), .v (.int .i64 y0.To), .v (.int .i64 y0.Registered), .v (.int .i64 y0.Duty.Rate), .v (.int .i64 y0.Duty.Amount), .v (.int .i64 y0.Duty.Per), .v (.bool y0.Duty.HasMost), .v (.int .i64 y0.Duty.Most), .v (.bool y0.Duty.HasLeast), .v (.int .i64 y0.Duty.Least)]] (.v (.bool w))) (h : slices_ContainsFunc_api_Measure_api_Measure p0 p1 = some r) : PF 37 [.slc (List.map TMeasure.enc p0), g1] (.v (.bool r)) := by
  unfold slices_ContainsFunc_api_Measure_api_Measure at h
  refine pf_of ?_
  refine penter Tryz.func37 fk37 rfl Tryz.ntmps37 Tryz.results37 rfl ?_
  refine pwc_seq ?_
  refine pwc_region ?_
  refine pwl_q rfl rfl rfl (pq_assign (p := .v (.bool false)) rfl (.p rfl)) ?_
  refine pwl_nil ?_
  (repeat (first | apply pk_block_n | apply pk_seq))
  refine pwc_seq ?_
  refine pwc_region ?_
  refine pwl_q rfl rfl rfl (pq_move (p := .slc (List.map TMeasure.enc p0)) rfl (.p rfl)) ?_
  refine pwl_q rfl rfl rfl (pq_move (p := g1) rfl (.p rfl)) ?_
  refine bind_elim h ?_; clear h; intro x1 hx1 h
  refine pwl_call rfl rfl rfl rfl rfl (slices_IndexFunc_api_Measure_api_Measure_ok hg1 hx1) ?_
  refine pwl_q rfl rfl rfl (pq_cmp rfl (.p rfl) (.p rfl) rfl) ?_
  refine pwl_q rfl rfl rfl (pq_assign (p := .v (.bool (decide (0 ≤ x1)))) rfl (.p rfl)) ?_
  refine pwl_nil ?_
  (repeat (first | apply pk_block_n | apply pk_seq))
  refine pwc_ret ?_
  (repeat (first | apply pk_seq_ret | apply pk_block_ret | apply pk_mid_ret | apply pk_cut_ret))
  obtain rfl := Option.some.inj h
  exact pret_of (prv_1 (prv1_t rfl)) PSub.nil ⟨rfl, rfl⟩
/-- customs/assess.Assess$1 -/
def assess_Assess_1 (p0 : TMeasure) : Option Bool := some (p0.Kind == 1)
set_option maxHeartbeats 4000000 in
theorem assess_Assess_1_ok {p0 : TMeasure} {r : Bool}  (h : assess_Assess_1 p0 = some r) : PF 38 [.agg [.v (.int .i64 p0.ID), .v (.int .i64 p0.Kind), .v (.string p0.Prefix), .slc (List.map eS p0.Origins), .v (.int .i64 p0.Company), .v (.int .i64 p0.From), .v (.int .i64 p0.To), .v (.int .i64 p0.Registered), .v (.int .i64 p0.Duty.Rate), .v (.int .i64 p0.Duty.Amount), .v (.int .i64 p0.Duty.Per), .v (.bool p0.Duty.HasMost), .v (.int .i64 p0.Duty.Most), .v (.bool p0.Duty.HasLeast), .v (.int .i64 p0.Duty.Least)]] (.v (.bool r)) := by
  unfold assess_Assess_1 at h
  refine pf_of ?_
  refine penter Tryz.func38 fk38 rfl Tryz.ntmps38 Tryz.results38 rfl ?_
  refine pwc_seq ?_
  refine pwc_region ?_
  refine pwl_l rfl rfl rfl (pl_box (cs := [.v (.int .i64 p0.ID), .v (.int .i64 p0.Kind), .v (.string p0.Prefix), .slc (List.map eS p0.Origins), .v (.int .i64 p0.Company), .v (.int .i64 p0.From), .v (.int .i64 p0.To), .v (.int .i64 p0.Registered), .v (.int .i64 p0.Duty.Rate), .v (.int .i64 p0.Duty.Amount), .v (.int .i64 p0.Duty.Per), .v (.bool p0.Duty.HasMost), .v (.int .i64 p0.Duty.Most), .v (.bool p0.Duty.HasLeast), .v (.int .i64 p0.Duty.Least)]) rfl rfl (fun b1 => ?_))
  refine pwl_q rfl rfl rfl (pq_assign (p := .v (.bool false)) rfl (.p rfl)) ?_
  refine pwl_nil ?_
  (repeat (first | apply pk_block_n | apply pk_seq))
  refine pwc_seq ?_
  refine pwc_region ?_
  refine pwl_q rfl rfl rfl (pq_fieldAddr rfl rfl rfl rfl rfl (.p rfl)) ?_
  refine pwl_q rfl rfl rfl (pq_load_b (p := .v (.int .i64 p0.Kind)) rfl (.p rfl) (by (repeat (first | exact List.Mem.head _ | apply List.Mem.tail))) rfl) ?_
  refine pwl_q rfl rfl rfl (pq_cmp rfl (.p rfl) (.p rfl) rfl) ?_
  refine pwl_q rfl rfl rfl (pq_assign (p := .v (.bool (p0.Kind == 1))) rfl (.p rfl)) ?_
  refine pwl_nil ?_
  (repeat (first | apply pk_block_n | apply pk_seq))
  refine pwc_ret ?_
  (repeat (first | apply pk_seq_ret | apply pk_block_ret | apply pk_mid_ret | apply pk_cut_ret))
  obtain rfl := Option.some.inj h
  exact pret_of (prv_1 (prv1_t rfl)) PSub.nil ⟨rfl, rfl⟩
/-- customs/apportion.check -/
def apportion_check (p0 : Int) (p1 : (List Int)) : Option Int := cond (decide (1000 < (p1.length : Int))) (some 8) (cond ((decide (p0 < 0)) || (decide (1000000000000 < p0))) (some 2) (Option.bind (loopF (S := Int) (T := (Unit) ⊕ (_)) (fun v3 => cond (decide (v3 < (p1.length : Int))) (Option.bind (idx p1 v3) (fun m7 => cond ((decide (m7 < 0)) || (decide (1000000000000 < m7))) (some (.inr (.inr 2))) (some (.inl (IntKind.i64.wrap (v3 + 1)))))) (some (.inr (.inl ())))) FUEL 0) (fun q => match q with | .inl _ => cond (((p1.length : Int) == 0) && (decide (0 < p0))) (some 7) (some 0) | .inr e => some e)))
set_option maxHeartbeats 4000000 in
theorem apportion_check_ok {p0 : Int} {p1 : (List Int)} {r : Int}  (h : apportion_check p0 p1 = some r) : PF 87 [.v (.int .i64 p0), .slc (List.map eI p1)] (.v (.int .i64 r)) := by
  unfold apportion_check at h
  refine pf_of ?_
  refine penter Tryz.func87 fk87 rfl Tryz.ntmps87 Tryz.results87 rfl ?_
  refine pwc_seq ?_
  refine pwc_region ?_
  refine pwl_q rfl rfl rfl (pq_assign (p := .v (.int .i64 0)) rfl (.p rfl)) ?_
  refine pwl_nil ?_
  (repeat (first | apply pk_block_n | apply pk_seq))
  refine pwc_seq ?_
  refine pwc_seq ?_
  refine pwc_region ?_
  refine pwl_q rfl rfl rfl (pq_move (p := .slc (List.map eI p1)) rfl (.p rfl)) ?_
  refine pwl_q rfl rfl rfl (pq_lenT (enc := eI) rfl rfl (.p rfl)) ?_
  refine pwl_q rfl rfl rfl (pq_cmp rfl (.p rfl) (.p rfl) rfl) ?_
  refine pwl_nil ?_
  (repeat (first | apply pk_block_n | apply pk_seq))
  refine pwc_cond rfl (fun hc1 => ?_) (fun hc1 => ?_)
  · replace h := cond_t hc1 h
    refine pwc_seq ?_
    refine pwc_region ?_
    refine pwl_q rfl rfl rfl (pq_assign (p := .v (.int .i64 8)) rfl (.p rfl)) ?_
    refine pwl_nil ?_
    (repeat (first | apply pk_block_n | apply pk_seq))
    refine pwc_ret ?_
    (repeat (first | apply pk_seq_ret | apply pk_block_ret | apply pk_mid_ret | apply pk_cut_ret))
    obtain rfl := Option.some.inj h
    exact pret_of (prv_1 (prv1_t rfl)) PSub.nil ⟨rfl, rfl⟩
  · replace h := cond_f hc1 h
    refine pwc_skip ?_
    (repeat (first | apply pk_block_n | apply pk_seq))
    refine pwc_seq ?_
    refine pwc_seq ?_
    refine pwc_region ?_
    refine pwl_q rfl rfl rfl (pq_move (p := .v (.int .i64 p0)) rfl (.p rfl)) ?_
    refine pwl_q rfl rfl rfl (pq_cmp rfl (.p rfl) (.p rfl) rfl) ?_
    refine pwl_q rfl rfl rfl (pq_move (p := .v (.bool (decide (p0 < 0)))) rfl (.p rfl)) ?_
    refine pwl_qg (pguard_f rfl rfl rfl) rfl rfl (pq_move (p := .v (.int .i64 p0)) rfl (.p rfl)) ?_
    refine pwl_qg (pguard_f rfl rfl rfl) rfl rfl (pq_cmp rfl (.g rfl) (.p rfl) rfl) ?_
    refine pwl_q rfl rfl rfl (pq_or rfl (.p rfl) (.p rfl) (.g rfl)) ?_
    refine pwl_nil ?_
    (repeat (first | apply pk_block_n | apply pk_seq))
    refine pwc_cond rfl (fun hc2 => ?_) (fun hc2 => ?_)
    · replace h := cond_t hc2 h
      refine pwc_seq ?_
      refine pwc_region ?_
      refine pwl_q rfl rfl rfl (pq_assign (p := .v (.int .i64 2)) rfl (.p rfl)) ?_
      refine pwl_nil ?_
      (repeat (first | apply pk_block_n | apply pk_seq))
      refine pwc_ret ?_
      (repeat (first | apply pk_seq_ret | apply pk_block_ret | apply pk_mid_ret | apply pk_cut_ret))
      obtain rfl := Option.some.inj h
      exact pret_of (prv_1 (prv1_t rfl)) PSub.nil ⟨rfl, rfl⟩
    · replace h := cond_f hc2 h
      refine pwc_skip ?_
      (repeat (first | apply pk_block_n | apply pk_seq))
      refine pwc_seq ?_
      refine pwc_seq ?_
      refine pwc_region ?_
      refine pwl_q rfl rfl rfl (pq_move (p := .slc (List.map eI p1)) rfl (.p rfl)) ?_
      refine pwl_q rfl rfl rfl (pq_lenT (enc := eI) rfl rfl (.p rfl)) ?_
      refine pwl_q rfl rfl rfl (pq_move (p := .v (.int .i64 0)) rfl (.p rfl)) ?_
      refine pwl_nil ?_
      (repeat (first | apply pk_block_n | apply pk_seq))
      refine bind_elim h ?_; clear h; intro q5 hq5 h
      refine pwc_join (Y := (Unit) × (Unit)) (fun (_, _) => [(0, .v (.int .i64 p0)), (1, .slc (List.map eI p1))]) (fun (_, _) => []) (fun (_, _) => q5 = Sum.inl ()) ?_ ?_
      · refine pwc_block ?_
        refine pwc_loopF (Y := Unit) (S := Int) _ hq5 (fun _ v3 => [(0, .v (.int .i64 p0)), (1, .slc (List.map eI p1)), (16, .slc (List.map eI p1)), (17, .v (.int .i64 (p1.length : Int))), (18, .v (.int .i64 v3))]) (fun _ v3 => []) () (by (repeat (first | exact PHolds.nil | apply PHolds.cons rfl))) (by (repeat (first | exact PSub.nil | (apply PSub.cons; (focus (repeat (first | exact PPick.h | apply PPick.t))))))) ?_
        rintro _ v3 o τ hb4; (try dsimp only at hb4); dsimp only [pupds]
        refine pwc_seq ?_
        refine pwc_region ?_
        refine pwl_q rfl rfl rfl (pq_cmp rfl (.p rfl) (.p rfl) rfl) ?_
        refine pwl_nil ?_
        (repeat (first | apply pk_block_n | apply pk_seq))
        refine pwc_seq ?_
        refine pwc_cond rfl (fun hc6 => ?_) (fun hc6 => ?_)
        · replace hb4 := cond_t hc6 hb4
          refine pwc_skip ?_
          (repeat (first | apply pk_block_n | apply pk_seq))
          refine pwc_seq ?_
          refine pwc_block ?_
          refine pwc_seq ?_
          refine pwc_region ?_
          refine bind_elim hb4 ?_; clear hb4; intro m7 hm7 hb4
          refine pwl_q rfl rfl rfl (pq_index (enc := eI) rfl rfl rfl (fun _ => rfl) (.p rfl) (.p rfl) (fun _ => hm7)) ?_
          refine pwl_q rfl rfl rfl (pq_load_r (p := .v (.int .i64 m7)) rfl (.p rfl) rfl) ?_
          refine pwl_q rfl rfl rfl (pq_assign (p := .v (.int .i64 m7)) rfl (.p rfl)) ?_
          refine pwl_nil ?_
          (repeat (first | apply pk_block_n | apply pk_seq))
          refine pwc_seq ?_
          refine pwc_region ?_
          refine pwl_q rfl rfl rfl (pq_move (p := .v (.int .i64 m7)) rfl (.p rfl)) ?_
          refine pwl_q rfl rfl rfl (pq_cmp rfl (.p rfl) (.p rfl) rfl) ?_
          refine pwl_q rfl rfl rfl (pq_move (p := .v (.bool (decide (m7 < 0)))) rfl (.p rfl)) ?_
          refine pwl_qg (pguard_f rfl rfl rfl) rfl rfl (pq_move (p := .v (.int .i64 m7)) rfl (.p rfl)) ?_
          refine pwl_qg (pguard_f rfl rfl rfl) rfl rfl (pq_cmp rfl (.g rfl) (.p rfl) rfl) ?_
          refine pwl_q rfl rfl rfl (pq_or rfl (.p rfl) (.p rfl) (.g rfl)) ?_
          refine pwl_nil ?_
          (repeat (first | apply pk_block_n | apply pk_seq))
          refine pwc_cond rfl (fun hc8 => ?_) (fun hc8 => ?_)
          · replace hb4 := cond_t hc8 hb4
            refine pwc_seq ?_
            refine pwc_region ?_
            refine pwl_q rfl rfl rfl (pq_assign (p := .v (.int .i64 2)) rfl (.p rfl)) ?_
            refine pwl_nil ?_
            (repeat (first | apply pk_block_n | apply pk_seq))
            refine pwc_ret ?_
            (repeat (first | apply pk_seq_ret | apply pk_block_ret | apply pk_mid_ret | apply pk_cut_ret))
            refine pk_loop_ret hb4 (fun ht => ?_); subst ht
            have h := (show some _ = some _ from h)
            (repeat (first | apply pk_seq_ret | apply pk_block_ret | apply pk_mid_ret | apply pk_cut_ret))
            obtain rfl := Option.some.inj h
            exact pret_of (prv_1 (prv1_t rfl)) PSub.nil ⟨rfl, rfl⟩
          · replace hb4 := cond_f hc8 hb4
            refine pwc_skip ?_
            refine pk_block_n ?_
            (repeat (first | apply pk_block_n | apply pk_seq))
            refine pwc_region ?_
            refine pwl_q rfl rfl rfl (pq_arith rfl (.p rfl) (.p rfl) rfl) ?_
            refine pwl_q rfl rfl rfl (pq_move (p := .v (.int .i64 (IntKind.i64.wrap (v3 + 1)))) rfl (.p rfl)) ?_
            refine pwl_nil ?_
            (repeat apply pk_block_n)
            exact pk_loop hb4 () (by (repeat (first | exact PHolds.nil | apply PHolds.cons rfl))) (by (repeat (first | exact PSub.nil | (apply PSub.cons; (focus (repeat (first | exact PPick.h | apply PPick.t)))))))
        · replace hb4 := cond_f hc6 hb4
          refine pwc_exit ?_
          (repeat (first | apply pk_seq_exit | apply pk_mid_exit | apply pk_cut_exit | apply pk_block_ne rfl))
          refine pk_loop_exit hb4 (fun ht => ?_)
          refine pk_block_eq rfl ?_
          exact pk_mid ((), ()) (by (repeat (first | exact PHolds.nil | apply PHolds.cons rfl))) (by (repeat (first | exact PSub.nil | (apply PSub.cons; (focus (repeat (first | exact PPick.h | apply PPick.t))))))) ht.symm
      · rintro ⟨_, _⟩ τ hz; (try dsimp only at hz); subst q5; (try dsimp only at h); dsimp only [pupds]
        refine pwc_seq ?_
        refine pwc_seq ?_
        refine pwc_region ?_
        refine pwl_q rfl rfl rfl (pq_move (p := .slc (List.map eI p1)) rfl (.p rfl)) ?_
        refine pwl_q rfl rfl rfl (pq_lenT (enc := eI) rfl rfl (.p rfl)) ?_
        refine pwl_q rfl rfl rfl (pq_cmp rfl (.p rfl) (.p rfl) rfl) ?_
        refine pwl_q rfl rfl rfl (pq_move (p := .v (.bool ((p1.length : Int) == 0))) rfl (.p rfl)) ?_
        refine pwl_qg (pguard_t rfl rfl rfl) rfl rfl (pq_move (p := .v (.int .i64 p0)) rfl (.p rfl)) ?_
        refine pwl_qg (pguard_t rfl rfl rfl) rfl rfl (pq_cmp rfl (.g rfl) (.p rfl) rfl) ?_
        refine pwl_q rfl rfl rfl (pq_and rfl (.p rfl) (.p rfl) (.g rfl)) ?_
        refine pwl_nil ?_
        (repeat (first | apply pk_block_n | apply pk_seq))
        refine pwc_cond rfl (fun hc9 => ?_) (fun hc9 => ?_)
        · replace h := cond_t hc9 h
          refine pwc_seq ?_
          refine pwc_region ?_
          refine pwl_q rfl rfl rfl (pq_assign (p := .v (.int .i64 7)) rfl (.p rfl)) ?_
          refine pwl_nil ?_
          (repeat (first | apply pk_block_n | apply pk_seq))
          refine pwc_ret ?_
          (repeat (first | apply pk_seq_ret | apply pk_block_ret | apply pk_mid_ret | apply pk_cut_ret))
          obtain rfl := Option.some.inj h
          exact pret_of (prv_1 (prv1_t rfl)) PSub.nil ⟨rfl, rfl⟩
        · replace h := cond_f hc9 h
          refine pwc_skip ?_
          (repeat (first | apply pk_block_n | apply pk_seq))
          refine pwc_seq ?_
          refine pwc_region ?_
          refine pwl_q rfl rfl rfl (pq_assign (p := .v (.int .i64 0)) rfl (.p rfl)) ?_
          refine pwl_nil ?_
          (repeat (first | apply pk_block_n | apply pk_seq))
          refine pwc_ret ?_
          (repeat (first | apply pk_seq_ret | apply pk_block_ret | apply pk_mid_ret | apply pk_cut_ret))
          obtain rfl := Option.some.inj h
          exact pret_of (prv_1 (prv1_t rfl)) PSub.nil ⟨rfl, rfl⟩
/-- customs/apportion.sumOf -/
def apportion_sumOf (p0 : (List Int)) : Option Int := Option.bind (loopF (S := Int × Int) (T := (Int)) (fun (v1, v2) => cond (decide (v2 < (p0.length : Int))) (Option.bind (idx p0 v2) (fun m7 => some (.inl ((IntKind.i64.wrap (v1 + m7)), (IntKind.i64.wrap (v2 + 1)))))) (some (.inr v1))) FUEL (0, 0)) (fun v3 => some v3)
set_option maxHeartbeats 4000000 in
theorem apportion_sumOf_ok {p0 : (List Int)} {r : Int}  (h : apportion_sumOf p0 = some r) : PF 88 [.slc (List.map eI p0)] (.v (.int .i64 r)) := by
  unfold apportion_sumOf at h
  refine pf_of ?_
  refine penter Tryz.func88 fk88 rfl Tryz.ntmps88 Tryz.results88 rfl ?_
  refine pwc_seq ?_
  refine pwc_region ?_
  refine pwl_q rfl rfl rfl (pq_assign (p := .v (.int .i64 0)) rfl (.p rfl)) ?_
  refine pwl_nil ?_
  (repeat (first | apply pk_block_n | apply pk_seq))
  refine pwc_seq ?_
  refine pwc_region ?_
  refine pwl_q rfl rfl rfl (pq_assign (p := .v (.int .i64 0)) rfl (.p rfl)) ?_
  refine pwl_nil ?_
  (repeat (first | apply pk_block_n | apply pk_seq))
  refine pwc_seq ?_
  refine pwc_seq ?_
  refine pwc_region ?_
  refine pwl_q rfl rfl rfl (pq_move (p := .slc (List.map eI p0)) rfl (.p rfl)) ?_
  refine pwl_q rfl rfl rfl (pq_lenT (enc := eI) rfl rfl (.p rfl)) ?_
  refine pwl_q rfl rfl rfl (pq_move (p := .v (.int .i64 0)) rfl (.p rfl)) ?_
  refine pwl_nil ?_
  (repeat (first | apply pk_block_n | apply pk_seq))
  refine bind_elim h ?_; clear h; intro q5 hq5 h
  refine pwc_join (Y := (Unit) × (Int)) (fun (_, v3) => [(3, .v (.int .i64 v3))]) (fun (_, v3) => []) (fun (_, v3) => q5 = v3) ?_ ?_
  · refine pwc_block ?_
    refine pwc_loopF (Y := Unit) (S := Int × Int) _ hq5 (fun _ (v1, v2) => [(3, .v (.int .i64 v1)), (6, .slc (List.map eI p0)), (7, .v (.int .i64 (p0.length : Int))), (8, .v (.int .i64 v2))]) (fun _ (v1, v2) => []) () (by (repeat (first | exact PHolds.nil | apply PHolds.cons rfl))) (by (repeat (first | exact PSub.nil | (apply PSub.cons; (focus (repeat (first | exact PPick.h | apply PPick.t))))))) ?_
    rintro _ ⟨v1, v2⟩ o τ hb4; (try dsimp only at hb4); dsimp only [pupds]
    refine pwc_seq ?_
    refine pwc_region ?_
    refine pwl_q rfl rfl rfl (pq_cmp rfl (.p rfl) (.p rfl) rfl) ?_
    refine pwl_nil ?_
    (repeat (first | apply pk_block_n | apply pk_seq))
    refine pwc_seq ?_
    refine pwc_cond rfl (fun hc6 => ?_) (fun hc6 => ?_)
    · replace hb4 := cond_t hc6 hb4
      refine pwc_skip ?_
      (repeat (first | apply pk_block_n | apply pk_seq))
      refine pwc_seq ?_
      refine pwc_block ?_
      refine pwc_seq ?_
      refine pwc_region ?_
      refine bind_elim hb4 ?_; clear hb4; intro m7 hm7 hb4
      refine pwl_q rfl rfl rfl (pq_index (enc := eI) rfl rfl rfl (fun _ => rfl) (.p rfl) (.p rfl) (fun _ => hm7)) ?_
      refine pwl_q rfl rfl rfl (pq_load_r (p := .v (.int .i64 m7)) rfl (.p rfl) rfl) ?_
      refine pwl_q rfl rfl rfl (pq_assign (p := .v (.int .i64 m7)) rfl (.p rfl)) ?_
      refine pwl_nil ?_
      (repeat (first | apply pk_block_n | apply pk_seq))
      refine pwc_region ?_
      refine pwl_q rfl rfl rfl (pq_move (p := .v (.int .i64 v1)) rfl (.p rfl)) ?_
      refine pwl_q rfl rfl rfl (pq_move (p := .v (.int .i64 m7)) rfl (.p rfl)) ?_
      refine pwl_q rfl rfl rfl (pq_arith rfl (.p rfl) (.p rfl) rfl) ?_
      refine pwl_q rfl rfl rfl (pq_assign (p := .v (.int .i64 (IntKind.i64.wrap (v1 + m7)))) rfl (.p rfl)) ?_
      refine pwl_nil ?_
      refine pk_block_n ?_
      (repeat (first | apply pk_block_n | apply pk_seq))
      refine pwc_region ?_
      refine pwl_q rfl rfl rfl (pq_arith rfl (.p rfl) (.p rfl) rfl) ?_
      refine pwl_q rfl rfl rfl (pq_move (p := .v (.int .i64 (IntKind.i64.wrap (v2 + 1)))) rfl (.p rfl)) ?_
      refine pwl_nil ?_
      (repeat apply pk_block_n)
      exact pk_loop hb4 () (by (repeat (first | exact PHolds.nil | apply PHolds.cons rfl))) (by (repeat (first | exact PSub.nil | (apply PSub.cons; (focus (repeat (first | exact PPick.h | apply PPick.t)))))))
    · replace hb4 := cond_f hc6 hb4
      refine pwc_exit ?_
      (repeat (first | apply pk_seq_exit | apply pk_mid_exit | apply pk_cut_exit | apply pk_block_ne rfl))
      refine pk_loop_exit hb4 (fun ht => ?_)
      refine pk_block_eq rfl ?_
      exact pk_mid ((), v1) (by (repeat (first | exact PHolds.nil | apply PHolds.cons rfl))) (by (repeat (first | exact PSub.nil | (apply PSub.cons; (focus (repeat (first | exact PPick.h | apply PPick.t))))))) ht.symm
  · rintro ⟨_, v3⟩ τ hz; (try dsimp only at hz); subst q5; (try dsimp only at h); dsimp only [pupds]
    refine pwc_seq ?_
    refine pwc_region ?_
    refine pwl_q rfl rfl rfl (pq_move (p := .v (.int .i64 v3)) rfl (.p rfl)) ?_
    refine pwl_q rfl rfl rfl (pq_assign (p := .v (.int .i64 v3)) rfl (.p rfl)) ?_
    refine pwl_nil ?_
    (repeat (first | apply pk_block_n | apply pk_seq))
    refine pwc_ret ?_
    (repeat (first | apply pk_seq_ret | apply pk_block_ret | apply pk_mid_ret | apply pk_cut_ret))
    obtain rfl := Option.some.inj h
    exact pret_of (prv_1 (prv1_t rfl)) PSub.nil ⟨rfl, rfl⟩
end SX
end Go.Proofs.YtfcecieppoljlaaGreatDoor
