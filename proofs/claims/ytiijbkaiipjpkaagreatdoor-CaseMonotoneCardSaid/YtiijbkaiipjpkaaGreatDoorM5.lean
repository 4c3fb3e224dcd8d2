/- A part of the proof: texts of the walk and of the plain laws, merged. No condition. -/
import Derived.Test.YtiijbkaiipjpkaaGreatDoorM4
import Derived.Test.YtiijbkaiipjpkaaGreatDoorChecked
import Derived.KernelRfl
import Derived.WalkKit
import Derived.OrdersHeld
import Derived.Laws.CopyRow
import Derived.Laws.StructEq
import Derived.Maps.AppendAt
import Derived.Laws.MakeOwn
import Derived.Laws.BytesArg
import Derived.Laws.Externs
import Derived.Laws.Cover3
import Derived.MapKept
import Derived.Laws.RangeAny
import Derived.Laws.RangeString
import Derived.Shelf.Slices.In.SortNone
import Derived.Shelf.Sort.Plain
import Derived.Test.YtiijbkaiipjpkaaGreatDoorProg
import Derived.Shelf.SlSortCmp.NoneTotal
import Derived.Ground.SlsfProg
import Derived.ChangeArms
import Derived.DataReads
import GoSem.ClaimJoined
import Derived.Test.YtiijbkaiipjpkaaGreatDoorRows
import Derived.ChangeSame
import Derived.ChangeVars
import Derived.JoinedOf
import Derived.RowKit
import Derived.RowKitTokens
import Derived.LaidLaws
import Derived.LaidHandle
import Derived.Carry
import Derived.Handed
import Derived.ChangeOld
import Derived.SevenTiedAt
import Derived.Test.YtiijbkaiipjpkaaGreatDoorCards
import Derived.Test.YtiijbkaiipjpkaaGreatDoorTie
set_option linter.unusedVariables false
set_option linter.unusedSimpArgs false
set_option maxRecDepth 100000
namespace Go.Proofs.YtiijbkaiipjpkaaGreatDoor
namespace SX
open Go
attribute [local irreducible] PWL PWC PWD POpL POpQ PEv PGuardIs PSub PPick PUpd PSplice PFill PLit PF PFV PCall FOk pseqK pblockK pmidK pcutK ploopK pretK Cov PHolds loopF idx app mk gd lb nz ge0 cat sub ssub iand ior ixor ishl ishr imin imax IntKind.wrap Int.tmod Int.tdiv Op.bytesLess strOfNums
def cumulation_CaseOf (p0 : (List TProduct)) (p1 : (List TAgreement)) (p2 : ByteArray) (p3 : TOriginClaim) (p4 : (List TOriginClaim)) : Option (TCase × (List TOriginClaim)) := Option.bind (cumulation_Admissible p0 p1 p2 p3) (fun x3 => cond (!x3) (some ((⟨ByteArray.empty, 0, false, [], []⟩ : TCase), [])) (Option.bind (production_Find p0 p3.Product) (fun x5 => Option.bind (cumulation_find p1 p3.Agreement) (fun x7 => Option.bind (cumulation_Partners p1 p3.Agreement x5.1.Country p2) (fun x9 => Option.bind (loopF (S := Int × (List (TOriginClaim × Bool))) (T := ((List (TOriginClaim × Bool)))) (fun (v12, l13) => cond (decide (v12 < (p4.length : Int))) (Option.bind (idx p4 v12) (fun m18 => some (.inl ((IntKind.i64.wrap (v12 + 1)), (mset l13 m18 true))))) (some (.inr l13))) FUEL (0, ([] : List (TOriginClaim × Bool)))) (fun l14 => Option.bind (cumulation_gather p0 x7.1 x5.1 (⟨x9, l14⟩ : Tcumulation_supplier)) (fun x20 => Option.bind (loopF (S := (List TOriginClaim) × Int × (List TInput)) (T := ((List TOriginClaim) × (List TInput))) (fun (l23, v26, l28) => cond (decide (v26 < (x20.1.length : Int))) (Option.bind (Option.bind (idx x20.1 v26) (fun m53 => Option.bind (Icumulation_supply_input m53) (fun x54 => Option.bind (app 32 l28 [x54]) (fun l57 => cond (Icumulation_supply.is_proved_ m53) (Option.bind (app 16 l23 [(((Icumulation_supply.as_proved_ m53)).premise)]) (fun l65 => some (l65, l57))) (some (l23, l57)))))) (fun (l47, l51) => some (.inl (l47, (IntKind.i64.wrap (v26 + 1)), l51)))) (some (.inr (l23, l28)))) FUEL (([] : List TOriginClaim), 0, ([] : List TInput))) (fun (l34, l38) => Option.bind (slices_SortFunc_api_OriginClaim_api_OriginClaim_cumulation_compareClaims l34) (fun x69 => Option.bind (slices_Compact_api_OriginClaim_api_OriginClaim x69) (fun x70 => some ((⟨x5.1.Code, x5.1.Price, x5.1.Obtained, x20.2, l38⟩ : TCase), x70)))))))))))
set_option maxHeartbeats 4000000 in
theorem cumulation_CaseOf_ok {p0 : (List TProduct)} {p1 : (List TAgreement)} {p2 : ByteArray} {p3 : TOriginClaim} {p4 : (List TOriginClaim)} {r : (TCase × (List TOriginClaim))}  (h : cumulation_CaseOf p0 p1 p2 p3 p4 = some r) : PF 34 [pL TProduct.enc p0, pL TAgreement.enc p1, pS p2, .agg [pI p3.Product, pI p3.Agreement], pL TOriginClaim.enc p4] (.tup [.agg [pS r.1.Code, pI r.1.Price, pB r.1.Obtained, pL eS r.1.Processes, pL TInput.enc r.1.Inputs], pL TOriginClaim.enc r.2]) := by
 unfold cumulation_CaseOf at h
 refine pf_of ?_
 refine penter Tryz.func34 fk34 rfl Tryz.ntmps34 Tryz.results34 rfl ?_
 refine yaa (yaf ?_)
 refine yay rfl rfl rfl (pl_box (cs := [pI p3.Product, pI p3.Agreement]) rfl rfl (fun b1 => ?_))
 refine yay rfl rfl rfl (pl_alloc (cs := [pS ByteArray.empty, pI 0, pB false, pN, pN]) rfl rfl rfl rfl (fun b2 => ?_))
 refine yas [] [11] [] fo0 (by kernel_rfl) ?_
 refine yab (yaa (yaa ?_))
 refine yac h ?_; clear h; intro x3 hx3 h
 refine yad [1] [27, 28, 29, 30, 31] [(32, pB (!x3))] (focl 4 (cumulation_Admissible_ok hx3) fo0) (by kernel_rfl) ?_
 refine yab ?_
 refine yah rfl (fun hc4 => ?_) (fun hc4 => ?_)
 ·replace h := yap hc4 h
  refine yaa (yaf ?_)
  refine yam 1 [] [] [(33, .agg [pS ByteArray.empty, pI 0, pB false, pN, pN])] fo0 (by kernel_rfl) ?_
  refine pwl_l0 rfl rfl (yaw (vs := [pS ByteArray.empty, pI 0, pB false, pN, pN]) rfl rfl rfl rfl rfl zuh (zlc (zlc (zlc (zlc (zlc zln))))) ?_)
  refine yas [] [] [(11, pN)] fo0 (by kernel_rfl) ?_
  refine yab ?_
  refine pwc_nilb (k := 3) (b := b2) rfl zuh ?_
  refine pwc_nilb (k := 4) (b := b2) rfl zuh ?_
  refine pwc_nil 11 rfl ?_
  refine yak (yai ?_)
  obtain rfl := Option.some.inj h
  exact yal (prv_2 (prv1_c rfl zm0 rfl) (yao rfl)) zsn ⟨rfl, rfl⟩
 ·replace h := yaq hc4 h
  refine yaj (yab (yaa ?_))
  refine yac h ?_; clear h; intro x5 hx5 h
  refine yaf ?_
  refine yam 7 [1] [35, 36, 37, 38, 34] [(39, .agg [pI x5.1.ID, pS x5.1.Code, pS x5.1.Country, pI x5.1.Price, pB x5.1.Obtained, pL eS x5.1.Processes, pL TIngredient.enc x5.1.Inputs]), (40, pB x5.2)] (focl 3 (production_Find_ok hx5) fo0) (by kernel_rfl) ?_
  refine yay rfl rfl rfl (pl_alloc (cs := [pI 0, pS ByteArray.empty, pS ByteArray.empty, pI 0, pB false, pN, pN]) rfl rfl rfl rfl (fun b6 => ?_))
  refine pwl_l0 rfl rfl (yaw (vs := [pI x5.1.ID, pS x5.1.Code, pS x5.1.Country, pI x5.1.Price, pB x5.1.Obtained, pL eS x5.1.Processes, pL TIngredient.enc x5.1.Inputs]) rfl rfl rfl rfl rfl zuh (zlc (zlc (zlc (zlc (zlc (zlc (zlc zln))))))) ?_)
  refine yas [] [13] [] fo0 (by kernel_rfl) ?_
  refine yab (yaa ?_)
  refine yac h ?_; clear h; intro x7 hx7 h
  refine yaf ?_
  refine yam 7 [2] [42, 43, 44, 45, 41] [(46, .agg [pI x7.1.ID, pI x7.1.Kind, pL eS x7.1.Parties, pL TRuleFor.enc x7.1.Rules]), (47, pB x7.2)] (focl 3 (cumulation_find_ok hx7) fo0) (by kernel_rfl) ?_
  refine yay rfl rfl rfl (pl_alloc (cs := [pI 0, pI 0, pN, pN]) rfl rfl rfl rfl (fun b8 => ?_))
  refine pwl_l0 rfl rfl (yaw (vs := [pI x7.1.ID, pI x7.1.Kind, pL eS x7.1.Parties, pL TRuleFor.enc x7.1.Rules]) rfl rfl rfl rfl rfl zuh (zlc (zlc (zlc (zlc zln)))) ?_)
  refine yas [] [15] [] fo0 (by kernel_rfl) ?_
  refine yab (yaa ?_)
  refine yac h ?_; clear h; intro x9 hx9 h
  refine yaf ?_
  refine yam 7 [3, 1] [48, 49, 50, 51, 52, 53] [(54, pL eI x9)] (focl 6 (cumulation_Partners_ok hx9) fo0) (by kernel_rfl) ?_
  refine yay rfl rfl rfl (pl_makeMapE TOriginClaim.key vT rfl (fun b10 => ?_))
  refine yam 1 [] [] [(56, .agg [pL eI x9, .v (.map (some b10))])] fo0 (by kernel_rfl) ?_
  refine yay rfl rfl rfl (pl_alloc (cs := [pN, .v (.map none)]) rfl rfl rfl rfl (fun b11 => ?_))
  refine pwl_l0 rfl rfl (yaw (vs := [pL eI x9, .v (.map (some b10))]) rfl rfl rfl rfl rfl zuh (zlc (zlc zln)) ?_)
  refine yba (yab (yaa (yaa ?_)))
  refine yad [] [] [(57, pL TOriginClaim.enc p4), (58, pI (p4.length : Int)), (59, pI 0)] fo0 (by kernel_rfl) ?_
  refine yab ?_
  refine yac h ?_; clear h; intro q16 hq16 h
  refine yaz (Y := (Unit) × ((List (TOriginClaim × Bool)))) (fun (_, l14) => [(0, pL TProduct.enc p0), (10, pP b2 0), (12, pP b6 0), (14, pP b8 0), (16, pP b11 0)]) (fun (_, l14) => [PRes.mp (some b10) (menc TOriginClaim.key vT l14), PRes.b b11 106 [pL eI x9, .v (.map (some b10))], PRes.b b2 45 [pS ByteArray.empty, pI 0, pB false, pN, pN], PRes.b b6 92 [pI x5.1.ID, pS x5.1.Code, pS x5.1.Country, pI x5.1.Price, pB x5.1.Obtained, pL eS x5.1.Processes, pL TIngredient.enc x5.1.Inputs], PRes.b b8 33 [pI x7.1.ID, pI x7.1.Kind, pL eS x7.1.Parties, pL TRuleFor.enc x7.1.Rules]]) (fun (_, l14) => q16 = l14) ?_ ?_
  ·refine yan ?_
   refine ybd (Y := Unit) (S := Int × (List (TOriginClaim × Bool))) _ hq16 (fun _ (v12, l13) => [(0, pL TProduct.enc p0), (10, pP b2 0), (12, pP b6 0), (14, pP b8 0), (16, pP b11 0), (57, pL TOriginClaim.enc p4), (58, pI (p4.length : Int)), (59, pI v12)]) (fun _ (v12, l13) => [PRes.mp (some b10) (menc TOriginClaim.key vT l13), PRes.b b11 106 [pL eI x9, .v (.map (some b10))], PRes.b b2 45 [pS ByteArray.empty, pI 0, pB false, pN, pN], PRes.b b6 92 [pI x5.1.ID, pS x5.1.Code, pS x5.1.Country, pI x5.1.Price, pB x5.1.Obtained, pL eS x5.1.Processes, pL TIngredient.enc x5.1.Inputs], PRes.b b8 33 [pI x7.1.ID, pI x7.1.Kind, pL eS x7.1.Parties, pL TRuleFor.enc x7.1.Rules]]) () (zhc rfl (zhc rfl (zhc rfl (zhc rfl (zhc rfl (zhc rfl (zhc rfl (zhc rfl zhn)))))))) (zsc (zpt zph) (zsc zph (zsc (zpt (zpt zph)) (zsc (zpt zph) (zsc zph zsn))))) ?_
   rintro _ ⟨v12, l13⟩ o τ hb15; (try dsimp only at hb15); dsimp only [pupds]
   refine yaa ?_
   refine yad [] [] [(60, pB (decide (v12 < (p4.length : Int))))] fo0 (by kernel_rfl) ?_
   refine yab (yaa ?_)
   refine yah rfl (fun hc17 => ?_) (fun hc17 => ?_)
   ·replace hb15 := yap hc17 hb15
    refine yaj (yab (yaa (yan (yaa ?_))))
    refine yac hb15 ?_; clear hb15; intro m18 hm18 hb15
    refine yaf ?_
    refine yam 2 [] [61] [(62, .agg [pI m18.Product, pI m18.Agreement])] (foix 0 TOriginClaim.enc hm18 fo0) (by kernel_rfl) ?_
    refine yay rfl rfl rfl (pl_alloc (cs := [pI 0, pI 0]) rfl rfl rfl rfl (fun b19 => ?_))
    refine pwl_l0 rfl rfl (yaw (vs := [pI m18.Product, pI m18.Agreement]) rfl rfl rfl rfl rfl zuh (zlc (zlc zln)) ?_)
    refine yba (yab (yaf ?_))
    refine yam 3 [2, 0] [63] [(64, .v (.map (some b10))), (65, .agg [pI m18.Product, pI m18.Agreement])] fo0 (by kernel_rfl) ?_
    refine pwl_l0 rfl rfl (pl_mapUpdate (xs := l13) (k := m18) (ek := TOriginClaim.key) (vv := vT) (v := true) rfl rfl TOriginClaim.kenc54 rfl rfl kP_key rfl (zut zuh) ?_)
    refine yba (yae (yab ?_))
    refine yad [] [66] [(59, pI (IntKind.i64.wrap (v12 + 1)))] fo0 (by kernel_rfl) ?_
    exact pk_loop hb15 () (zhc rfl (zhc rfl (zhc rfl (zhc rfl (zhc rfl (zhc rfl (zhc rfl (zhc rfl zhn)))))))) (zsc (zpt zph) (zsc (zpt zph) (zsc (zpt zph) (zsc (zpt zph) (zsc (zpt zph) zsn)))))
   ·replace hb15 := yaq hc17 hb15
    refine pwc_exit (yav ?_)
    refine yar hb15 (fun ht => ?_)
    refine yau rfl ?_
    exact pk_mid ((), l13) (zhc rfl (zhc rfl (zhc rfl (zhc rfl (zhc rfl zhn))))) (zsc zph (zsc zph (zsc zph (zsc zph (zsc zph zsn))))) ht.symm
  ·rintro ⟨_, l14⟩ τ hz; (try dsimp only at hz); subst q16; (try dsimp only at h); dsimp only [pupds]
   refine yaa ?_
   refine yac h ?_; clear h; intro x20 hx20 h
   refine yaf ?_
   refine yam 4 [4, 3, 1] [] [(68, pL TProduct.enc p0), (69, .agg [pI x7.1.ID, pI x7.1.Kind, pL eS x7.1.Parties, pL TRuleFor.enc x7.1.Rules]), (70, .agg [pI x5.1.ID, pS x5.1.Code, pS x5.1.Country, pI x5.1.Price, pB x5.1.Obtained, pL eS x5.1.Processes, pL TIngredient.enc x5.1.Inputs]), (71, .agg [pL eI x9, .v (.map (some b10))])] fo0 (by kernel_rfl) ?_
   refine yay rfl rfl rfl (pl_callR rfl rfl (ρ1 := [_]) (ybb (by exact zph) (List.Perm.refl _)) (cumulation_gather_ok hx20) ?_); rintro _ _ ⟨rfl, rfl⟩
   refine yas [] [67, 73, 74] [(19, pL Icumulation_supply.enc x20.1), (20, pL eS x20.2)] fo0 (by kernel_rfl) ?_
   refine yab (yaa (yaf ?_))
   refine yam 8 [3, 3, 3] [75, 76, 77, 78, 79, 80, 81] [(82, .agg [pS x5.1.Code, pI x5.1.Price, pB x5.1.Obtained, pL eS x20.2, pN])] fo0 (by kernel_rfl) ?_
   refine yay rfl rfl rfl (pl_alloc (cs := [pS ByteArray.empty, pI 0, pB false, pN, pN]) rfl rfl rfl rfl (fun b21 => ?_))
   refine pwl_l0 rfl rfl (yaw (vs := [pS x5.1.Code, pI x5.1.Price, pB x5.1.Obtained, pL eS x20.2, pN]) rfl rfl rfl rfl rfl zuh (zlc (zlc (zlc (zlc (zlc zln))))) ?_)
   refine yba (yab (yaa ?_))
   refine yad [] [] [(22, pN)] fo0 (by kernel_rfl) ?_
   refine yab (yaa (yaa ?_))
   refine yad [] [] [(83, pL Icumulation_supply.enc x20.1), (84, pI (x20.1.length : Int)), (85, pI 0)] fo0 (by kernel_rfl) ?_
   refine yab ?_
   refine pwc_nilrow 54 2 ?_
   refine pwc_nilrow 96 3 ?_
   refine yac h ?_; clear h; intro q40 hq40 h
   refine yaz (Y := (Option Addr × Nat × Option Addr × Nat) × ((List TOriginClaim) × (List TInput))) (fun ((a32, c33, a36, c37), (l34, l38)) => [(10, pP b2 0), (21, pP b21 0), (22, pO a32 l34.length c33)]) (fun ((a32, c33, a36, c37), (l34, l38)) => [PRes.b b2 45 [pS ByteArray.empty, pI 0, pB false, pN, pN], PRes.b b21 45 [pS x5.1.Code, pI x5.1.Price, pB x5.1.Obtained, pL eS x20.2, pO a36 l38.length c37], PRes.row a32 l34.length c33 54 2 (List.map TOriginClaim.enc l34), PRes.row a36 l38.length c37 96 3 (List.map TInput.enc l38)]) (fun ((a32, c33, a36, c37), (l34, l38)) => q40 = (l34, l38)) ?_ ?_
   ·refine yan ?_
    refine ybd (Y := Option Addr × Nat × Option Addr × Nat) (S := (List TOriginClaim) × Int × (List TInput)) _ hq40 (fun (a24, c25, a29, c30) (l23, v26, l28) => [(10, pP b2 0), (21, pP b21 0), (22, pO a24 l23.length c25), (83, pL Icumulation_supply.enc x20.1), (84, pI (x20.1.length : Int)), (85, pI v26)]) (fun (a24, c25, a29, c30) (l23, v26, l28) => [PRes.b b2 45 [pS ByteArray.empty, pI 0, pB false, pN, pN], PRes.b b21 45 [pS x5.1.Code, pI x5.1.Price, pB x5.1.Obtained, pL eS x20.2, pO a29 l28.length c30], PRes.row a24 l23.length c25 54 2 (List.map TOriginClaim.enc l23), PRes.row a29 l28.length c30 96 3 (List.map TInput.enc l28)]) (none, 0, none, 0) (zhc rfl (zhc rfl (zhc rfl (zhc rfl (zhc rfl (zhc rfl zhn)))))) (zsc (zpt (zpt (zpt (zpt (zpt zph))))) (zsc (zpt (zpt zph)) (zsc (zpt zph) (zsc zph zsn)))) ?_
    rintro ⟨a24, c25, a29, c30⟩ ⟨l23, v26, l28⟩ o τ hb39; (try dsimp only at hb39); dsimp only [pupds]
    refine yaa ?_
    refine yad [] [] [(86, pB (decide (v26 < (x20.1.length : Int))))] fo0 (by kernel_rfl) ?_
    refine yab (yaa ?_)
    refine yah rfl (fun hc43 => ?_) (fun hc43 => ?_)
    ·replace hb39 := yap hc43 hb39
     refine yaj (yab (yaa ?_))
     refine yac hb39 ?_; clear hb39; intro q52 hq52 hb39
     refine yaz (Y := (Option Addr × Nat × Option Addr × Nat) × ((List TOriginClaim) × (List TInput))) (fun ((a45, c46, a49, c50), (l47, l51)) => [(10, pP b2 0), (21, pP b21 0), (22, pO a45 l47.length c46), (83, pL Icumulation_supply.enc x20.1), (84, pI (x20.1.length : Int)), (85, pI v26)]) (fun ((a45, c46, a49, c50), (l47, l51)) => [PRes.b b2 45 [pS ByteArray.empty, pI 0, pB false, pN, pN], PRes.b b21 45 [pS x5.1.Code, pI x5.1.Price, pB x5.1.Obtained, pL eS x20.2, pO a49 l51.length c50], PRes.row a45 l47.length c46 54 2 (List.map TOriginClaim.enc l47), PRes.row a49 l51.length c50 96 3 (List.map TInput.enc l51)]) (fun ((a45, c46, a49, c50), (l47, l51)) => q52 = (l47, l51)) ?_ ?_
     ·skip
      refine yan (yaa ?_)
      refine yac hq52 ?_; clear hq52; intro m53 hm53 hq52
      refine yad [] [87, 88] [(24, Icumulation_supply.pv m53)] (foix 0 Icumulation_supply.enc hm53 fo0) (by kernel_rfl) ?_
      refine yab (yaa ?_)
      refine yac hq52 ?_; clear hq52; intro x54 hx54 hq52
      refine yac hq52 ?_; clear hq52; intro l57 hl57 hq52
      refine yaz (Y := Option Addr × Nat) (fun (a58, c59) => [(10, pP b2 0), (21, pP b21 0), (22, pO a24 l23.length c25), (24, Icumulation_supply.pv m53), (83, pL Icumulation_supply.enc x20.1), (84, pI (x20.1.length : Int)), (85, pI v26)]) (fun (a58, c59) => [PRes.b b2 45 [pS ByteArray.empty, pI 0, pB false, pN, pN], PRes.b b21 45 [pS x5.1.Code, pI x5.1.Price, pB x5.1.Obtained, pL eS x20.2, pO a58 l57.length c59], PRes.row a24 l23.length c25 54 2 (List.map TOriginClaim.enc l23), PRes.row a58 l57.length c59 96 3 (List.map TInput.enc l57)]) (fun _ => True) ?_ ?_
      ·refine pws_start (ρd := [PRes.row a29 _ _ _ _ _, PRes.b b21 _ _]) _ (ybb (zpt (zpt (zpt zph))) (ybb (zpt zph) (List.Perm.refl _))) ?_
       refine pws_q 0 (by kernel_rfl) rfl rfl rfl rfl (pq_fieldAddr rfl rfl rfl rfl rfl (.p rfl)) ?_
       refine pws_q 2 (by kernel_rfl) rfl rfl rfl rfl (pq_move (p := Icumulation_supply.pv m53) rfl (.p rfl)) ?_
       refine pws_two 1 3 (by kernel_rfl) ?_ ?_
       ·skip
        refine pstep_l rfl rfl rfl rfl (pl_q (pq_load_b (p := pO a29 l28.length c30) rfl (.p rfl) zm1 rfl) ?_)
        refine pws_one 3 (by kernel_rfl) ?_
        refine pstep_l rfl rfl rfl rfl (pl_invoke rfl rfl (Icumulation_supply_input_ok hx54) ?_)
        refine pws_one 4 (by kernel_rfl) ?_
        refine pstep_l rfl rfl rfl rfl (pl_lit rfl rfl rfl rfl rfl (zic rfl zin) rfl rfl rfl rfl (fun b55 => ?_))
        refine pws_one 5 (by kernel_rfl) ?_
        refine pstep_l rfl rfl rfl rfl (pl_app_o (enc := TInput.enc) rfl rfl rfl rfl rfl rfl rfl rfl rfl zm0 (by exact zpt zph) hl57 (fun a58 c59 => ?_))
        refine pws_q 6 (by kernel_rfl) rfl rfl rfl rfl (pq_fieldAddr rfl rfl rfl rfl rfl (.p rfl)) ?_
        refine pws_one 7 (by kernel_rfl) ?_
        refine pstep_l0 rfl rfl rfl (yaw (vs := [pO a58 l57.length c59]) rfl rfl rfl rfl rfl (zut (zut zuh)) (zlt (zlt (zlt (zlt (zlc zln))))) ?_)
        refine pws_done (by kernel_rfl) ?_
        exact pk_mid (a58, c59) (zhc rfl (zhc rfl (zhc rfl (zhc rfl (zhc rfl (zhc rfl (zhc rfl zhn))))))) (zsc (zpt (zpt (zpt zph))) (zsc (zpt (zpt zph)) (zsc (zpt (zpt zph)) (zsc zph zsn)))) trivial
       ·skip
        refine pstep_l rfl rfl rfl rfl (pl_invoke rfl rfl (Icumulation_supply_input_ok hx54) ?_)
        refine pws_two 1 4 (by kernel_rfl) ?_ ?_
        ·skip
         refine pstep_l rfl rfl rfl rfl (pl_q (pq_load_b (p := pO a29 l28.length c30) rfl (.p rfl) zm1 rfl) ?_)
         refine pws_one 4 (by kernel_rfl) ?_
         refine pstep_l rfl rfl rfl rfl (pl_lit rfl rfl rfl rfl rfl (zic rfl zin) rfl rfl rfl rfl (fun b55 => ?_))
         refine pws_one 5 (by kernel_rfl) ?_
         refine pstep_l rfl rfl rfl rfl (pl_app_o (enc := TInput.enc) rfl rfl rfl rfl rfl rfl rfl rfl rfl zm0 (by exact zpt zph) hl57 (fun a58 c59 => ?_))
         refine pws_q 6 (by kernel_rfl) rfl rfl rfl rfl (pq_fieldAddr rfl rfl rfl rfl rfl (.p rfl)) ?_
         refine pws_one 7 (by kernel_rfl) ?_
         refine pstep_l0 rfl rfl rfl (yaw (vs := [pO a58 l57.length c59]) rfl rfl rfl rfl rfl (zut (zut zuh)) (zlt (zlt (zlt (zlt (zlc zln))))) ?_)
         refine pws_done (by kernel_rfl) ?_
         exact pk_mid (a58, c59) (zhc rfl (zhc rfl (zhc rfl (zhc rfl (zhc rfl (zhc rfl (zhc rfl zhn))))))) (zsc (zpt (zpt (zpt zph))) (zsc (zpt (zpt zph)) (zsc (zpt (zpt zph)) (zsc zph zsn)))) trivial
        ·skip
         refine pstep_l rfl rfl rfl rfl (pl_lit rfl rfl rfl rfl rfl (zic rfl zin) rfl rfl rfl rfl (fun b55 => ?_))
         refine pws_one 1 (by kernel_rfl) ?_
         refine pstep_l rfl rfl rfl rfl (pl_q (pq_load_b (p := pO a29 l28.length c30) rfl (.p rfl) zm2 rfl) ?_)
         refine pws_one 5 (by kernel_rfl) ?_
         refine pstep_l rfl rfl rfl rfl (pl_app_o (enc := TInput.enc) rfl rfl rfl rfl rfl rfl rfl rfl rfl zm0 (by exact zpt zph) hl57 (fun a58 c59 => ?_))
         refine pws_q 6 (by kernel_rfl) rfl rfl rfl rfl (pq_fieldAddr rfl rfl rfl rfl rfl (.p rfl)) ?_
         refine pws_one 7 (by kernel_rfl) ?_
         refine pstep_l0 rfl rfl rfl (yaw (vs := [pO a58 l57.length c59]) rfl rfl rfl rfl rfl (zut (zut zuh)) (zlt (zlt (zlt (zlt (zlc zln))))) ?_)
         refine pws_done (by kernel_rfl) ?_
         exact pk_mid (a58, c59) (zhc rfl (zhc rfl (zhc rfl (zhc rfl (zhc rfl (zhc rfl (zhc rfl zhn))))))) (zsc (zpt (zpt (zpt zph))) (zsc (zpt (zpt zph)) (zsc (zpt (zpt zph)) (zsc zph zsn)))) trivial
      ·rintro ⟨a58, c59⟩ τ _; dsimp only [pupds]
       refine yaa (yaf ?_)
       refine yam 5 [] [97, 98, 96] [(99, .agg [pS ((((Icumulation_supply.as_proved_ m53)).use).Code), pI ((((Icumulation_supply.as_proved_ m53)).use).Value), pB ((((Icumulation_supply.as_proved_ m53)).use).Originating), pI ((((Icumulation_supply.as_proved_ m53)).premise).Product), pI ((((Icumulation_supply.as_proved_ m53)).premise).Agreement)]), (100, pB (Icumulation_supply.is_proved_ m53))] (fota 1 (Icumulation_supply.ta_proved_ m53) fo0) (by kernel_rfl) ?_
       refine yay rfl rfl rfl (pl_alloc (cs := [pS ByteArray.empty, pI 0, pB false, pI 0, pI 0]) rfl rfl rfl rfl (fun b61 => ?_))
       refine pwl_l0 rfl rfl (yaw (vs := [pS ((((Icumulation_supply.as_proved_ m53)).use).Code), pI ((((Icumulation_supply.as_proved_ m53)).use).Value), pB ((((Icumulation_supply.as_proved_ m53)).use).Originating), pI ((((Icumulation_supply.as_proved_ m53)).premise).Product), pI ((((Icumulation_supply.as_proved_ m53)).premise).Agreement)]) rfl rfl rfl rfl rfl zuh (zlc (zlc (zlc (zlc (zlc zln))))) ?_)
       refine yas [] [] [(26, pB (Icumulation_supply.is_proved_ m53))] fo0 (by kernel_rfl) ?_
       refine yab (yaa ?_)
       refine yad [] [] [(101, pB (Icumulation_supply.is_proved_ m53))] fo0 (by kernel_rfl) ?_
       refine yab ?_
       refine yah rfl (fun hc62 => ?_) (fun hc62 => ?_)
       ·replace hq52 := yap hc62 hq52
        refine yaf ?_
        refine yam 3 [0] [103] [(102, pO a24 l23.length c25), (104, .agg [pI ((((Icumulation_supply.as_proved_ m53)).premise).Product), pI ((((Icumulation_supply.as_proved_ m53)).premise).Agreement)])] fo0 (by kernel_rfl) ?_
        refine yay rfl rfl rfl (pl_lit rfl rfl rfl rfl rfl (zic rfl zin) rfl rfl rfl rfl (fun b63 => ?_))
        refine yac hq52 ?_; clear hq52; intro l65 hl65 hq52
        refine yay rfl rfl rfl (pl_app_o (enc := TOriginClaim.enc) rfl rfl rfl rfl rfl rfl rfl rfl rfl zm0 (by exact zpt (zpt (zpt (zpt zph)))) hl65 (fun a66 c67 => ?_))
        refine yas [] [] [(22, pO a66 l65.length c67)] fo0 (by kernel_rfl) ?_
        refine yae ?_
        obtain rfl := Option.some.inj hq52
        exact pk_mid ((a66, c67, a58, c59), (l65, l57)) (zhc rfl (zhc rfl (zhc rfl (zhc rfl (zhc rfl (zhc rfl zhn)))))) (zsc (zpt (zpt (zpt zph))) (zsc (zpt (zpt (zpt zph))) (zsc zph (zsc (zpt (zpt zph)) zsn)))) rfl
       ·replace hq52 := yaq hc62 hq52
        refine yaj (yae ?_)
        obtain rfl := Option.some.inj hq52
        exact pk_mid ((a24, c25, a58, c59), (l23, l57)) (zhc rfl (zhc rfl (zhc rfl (zhc rfl (zhc rfl (zhc rfl zhn)))))) (zsc (zpt zph) (zsc (zpt zph) (zsc (zpt zph) (zsc (zpt zph) zsn)))) rfl
     ·rintro ⟨⟨a45, c46, a49, c50⟩, ⟨l47, l51⟩⟩ τ hz; (try dsimp only at hz); subst q52; (try dsimp only at hb39); dsimp only [pupds]
      refine yad [] [107] [(85, pI (IntKind.i64.wrap (v26 + 1)))] fo0 (by kernel_rfl) ?_
      exact pk_loop hb39 (a45, c46, a49, c50) (zhc rfl (zhc rfl (zhc rfl (zhc rfl (zhc rfl (zhc rfl zhn)))))) (zsc zph (zsc zph (zsc zph (zsc zph zsn))))
    ·replace hb39 := yaq hc43 hb39
     refine pwc_exit (yav ?_)
     refine yar hb39 (fun ht => ?_)
     refine yau rfl ?_
     exact pk_mid ((a24, c25, a29, c30), (l23, l28)) (zhc rfl (zhc rfl (zhc rfl zhn))) (zsc zph (zsc zph (zsc zph (zsc zph zsn)))) ht.symm
   ·rintro ⟨⟨a32, c33, a36, c37⟩, ⟨l34, l38⟩⟩ τ hz; (try dsimp only at hz); subst q40; (try dsimp only at h); dsimp only [pupds]
    refine yaa ?_
    refine yac h ?_; clear h; intro x69 hx69 h
    refine yaf ?_
    refine yam 1 [] [] [(108, pO a32 l34.length c33)] fo0 (by kernel_rfl) ?_
    refine yay rfl rfl rfl (pl_callR rfl rfl (ρ1 := [_]) (ybb (by exact zpt (zpt zph)) (List.Perm.refl _)) (slices_SortFunc_api_OriginClaim_api_OriginClaim_cumulation_compareClaims_ok hx69) ?_); rintro _ _ ⟨rfl, rfl⟩
    refine yba (yab (yaa ?_))
    refine pwc_frz (css := List.map TInput.enc l38) (a := a36) (by exact zpt (zpt (zpt zph))) ?_
    refine pwc_viewb (k := 4) (enc := TInput.enc) (xs := l38) (b := b21) (a := a36) rfl zm0 (zut (zut (zut zuh))) ?_
    refine pwc_draw (ρd := [PRes.row a32 _ _ _ _ _, PRes.b b2 _ _]) [(0, 0), (1, 0), (2, 1), (3, 1), (4, 0)] _ (ybb (zpt zph) (ybb (zpt zph) (List.Perm.refl _))) (by kernel_rfl) rfl ?_
    refine yac h ?_; clear h; intro x70 hx70 h
    refine pwd_run 2 [1] [] [(110, .agg [pS x5.1.Code, pI x5.1.Price, pB x5.1.Obtained, pL eS x20.2, pL TInput.enc l38]), (111, pO a32 l34.length c33)] fo0 (by kernel_rfl) ?_
    refine pwd_l rfl rfl rfl (pl_callR rfl rfl (ρ1 := [_]) (ybb (by exact zph) (List.Perm.refl _)) (slices_Compact_api_OriginClaim_api_OriginClaim_ok hx70) ?_); rintro _ _ ⟨a71, c72, rfl, rfl⟩
    refine pwd_l0 rfl rfl (yaw (vs := [pS x5.1.Code, pI x5.1.Price, pB x5.1.Obtained, pL eS x20.2, pL TInput.enc l38]) rfl rfl rfl rfl rfl (zut zuh) (zlc (zlc (zlc (zlc (zlc zln))))) ?_)
    refine pwd_run 1 [] [] [(11, pO a71 x70.length c72)] fo0 (by kernel_rfl) ?_
    refine pwd_nil (yab ?_)
    refine pwc_frzt (enc := TOriginClaim.enc) (xs := x70) 11 rfl (by exact zph) ?_
    refine yak ?_
    obtain rfl := Option.some.inj h
    exact yal (prv_2 (prv1_c rfl zm1 rfl) (yao rfl)) zsn ⟨rfl, rfl⟩
def law14_awake  : Option Bool := Option.bind (cumulation_CaseOf [(⟨1, (⟨#[57, 52, 48, 49, 48, 49]⟩ : ByteArray), (⟨#[65, 65]⟩ : ByteArray), 10, true, [], []⟩ : TProduct), (⟨2, (⟨#[57, 52, 48, 49, 48, 50]⟩ : ByteArray), (⟨#[66, 66]⟩ : ByteArray), 10, false, [], [(⟨1, 4⟩ : TIngredient)]⟩ : TProduct)] [(⟨7, 1, [(⟨#[65, 65]⟩ : ByteArray), (⟨#[66, 66]⟩ : ByteArray), (⟨#[67, 67]⟩ : ByteArray)], [(⟨(⟨#[57, 52]⟩ : ByteArray), (⟨1, 0, [], 0, 0, ByteArray.empty, []⟩ : TRule)⟩ : TRuleFor)]⟩ : TAgreement)] (⟨#[67, 67]⟩ : ByteArray) (⟨2, 7⟩ : TOriginClaim) [(⟨1, 7⟩ : TOriginClaim)]) (fun x13 => Option.bind (cumulation_Validate [(⟨7, 1, [(⟨#[65, 65]⟩ : ByteArray), (⟨#[66, 66]⟩ : ByteArray), (⟨#[67, 67]⟩ : ByteArray)], [(⟨(⟨#[57, 52]⟩ : ByteArray), (⟨1, 0, [], 0, 0, ByteArray.empty, []⟩ : TRule)⟩ : TRuleFor)]⟩ : TAgreement)]) (fun x15 => Option.bind (gd (x15 == 0) (cumulation_Admissible [(⟨1, (⟨#[57, 52, 48, 49, 48, 49]⟩ : ByteArray), (⟨#[65, 65]⟩ : ByteArray), 10, true, [], []⟩ : TProduct), (⟨2, (⟨#[57, 52, 48, 49, 48, 50]⟩ : ByteArray), (⟨#[66, 66]⟩ : ByteArray), 10, false, [], [(⟨1, 4⟩ : TIngredient)]⟩ : TProduct)] [(⟨7, 1, [(⟨#[65, 65]⟩ : ByteArray), (⟨#[66, 66]⟩ : ByteArray), (⟨#[67, 67]⟩ : ByteArray)], [(⟨(⟨#[57, 52]⟩ : ByteArray), (⟨1, 0, [], 0, 0, ByteArray.empty, []⟩ : TRule)⟩ : TRuleFor)]⟩ : TAgreement)] (⟨#[67, 67]⟩ : ByteArray) (⟨2, 7⟩ : TOriginClaim))) (fun x16 => Option.bind (gd ((x15 == 0) && x16) (cumulation_Admissible [(⟨1, (⟨#[57, 52, 48, 49, 48, 49]⟩ : ByteArray), (⟨#[65, 65]⟩ : ByteArray), 10, true, [], []⟩ : TProduct), (⟨2, (⟨#[57, 52, 48, 49, 48, 50]⟩ : ByteArray), (⟨#[66, 66]⟩ : ByteArray), 10, false, [], [(⟨1, 4⟩ : TIngredient)]⟩ : TProduct)] [(⟨7, 1, [(⟨#[65, 65]⟩ : ByteArray), (⟨#[66, 66]⟩ : ByteArray), (⟨#[67, 67]⟩ : ByteArray)], [(⟨(⟨#[57, 52]⟩ : ByteArray), (⟨1, 0, [], 0, 0, ByteArray.empty, []⟩ : TRule)⟩ : TRuleFor)]⟩ : TAgreement)] (⟨#[66, 66]⟩ : ByteArray) (⟨2, 7⟩ : TOriginClaim))) (fun x17 => Option.bind (gd ((((x15 == 0) && x16) && (!x17)) && ((x13.1.Inputs.length : Int) == 1)) (idx x13.1.Inputs 0)) (fun m18 => some ((((((x15 == 0) && x16) && (!x17)) && ((x13.1.Inputs.length : Int) == 1)) && (TInput.eqb m18 (⟨(⟨#[57, 52, 48, 49, 48, 49]⟩ : ByteArray), 4, true⟩ : TInput))) && ((x13.2.length : Int) == 1)))))))
set_option maxHeartbeats 4000000 in
theorem law14_awake_ok  {r : Bool}  (h : law14_awake  = some r) : PF 14 [] (pB r) := by
 unfold law14_awake at h
 refine pf_of ?_
 refine penter Tryz.func14 fk14 rfl Tryz.ntmps14 Tryz.results14 rfl ?_
 refine yaa ?_
 refine yad [] [0] [] fo0 (by kernel_rfl) ?_
 refine yab (yaa (yaf ?_))
 refine yam 2 [] [] [(5, .agg [pI 1, pS (⟨#[57, 52, 48, 49, 48, 49]⟩ : ByteArray), pS (⟨#[65, 65]⟩ : ByteArray), pI 10, pB true, pN, pN]), (6, .agg [pI 1, pI 4])] fo0 (by kernel_rfl) ?_
 refine yay rfl rfl rfl (pl_lit rfl rfl rfl rfl rfl (zic rfl zin) rfl rfl rfl rfl (fun b1 => ?_))
 refine pwl_frzt (enc := TIngredient.enc) (xs := [(⟨1, 4⟩ : TIngredient)]) 7 rfl (by exact zph) ?_
 refine yam 1 [] [] [(8, .agg [pI 2, pS (⟨#[57, 52, 48, 49, 48, 50]⟩ : ByteArray), pS (⟨#[66, 66]⟩ : ByteArray), pI 10, pB false, pN, pL TIngredient.enc [(⟨1, 4⟩ : TIngredient)]])] fo0 (by kernel_rfl) ?_
 refine pwl_aggnil 5 5 rfl rfl ?_
 refine pwl_aggnil 5 6 rfl rfl ?_
 refine pwl_aggnil 8 5 rfl rfl ?_
 refine yay rfl rfl rfl (pl_lit rfl rfl rfl rfl rfl (zic rfl (zic rfl zin)) rfl rfl rfl rfl (fun b3 => ?_))
 refine yas [] [] [(1, pO (some ⟨b3, 0, none⟩) 2 2)] fo0 (by kernel_rfl) ?_
 refine yab (yaa (yaf ?_))
 refine yay rfl rfl rfl (pl_lit rfl rfl rfl rfl rfl (zic rfl (zic rfl (zic rfl zin))) rfl rfl rfl rfl (fun b5 => ?_))
 refine yam 1 [] [] [(11, .agg [pI 1, pI 0, pN, pI 0, pI 0, pS ByteArray.empty, pN])] fo0 (by kernel_rfl) ?_
 refine pwl_aggnil 11 2 rfl rfl ?_
 refine pwl_aggnil 11 6 rfl rfl ?_
 refine yam 1 [] [] [(12, .agg [pS (⟨#[57, 52]⟩ : ByteArray), pI 1, pI 0, pL eS [], pI 0, pI 0, pS ByteArray.empty, pL TRule.enc []])] fo0 (by kernel_rfl) ?_
 refine yay rfl rfl rfl (pl_lit rfl rfl rfl rfl rfl (zic rfl zin) rfl rfl rfl rfl (fun b7 => ?_))
 refine pwl_frzt (enc := eS) (xs := [(⟨#[65, 65]⟩ : ByteArray), (⟨#[66, 66]⟩ : ByteArray), (⟨#[67, 67]⟩ : ByteArray)]) 10 rfl (by exact zpt zph) ?_
 refine pwl_frzt (enc := TRuleFor.enc) (xs := [(⟨(⟨#[57, 52]⟩ : ByteArray), (⟨1, 0, [], 0, 0, ByteArray.empty, []⟩ : TRule)⟩ : TRuleFor)]) 13 rfl (by exact zpt zph) ?_
 refine yam 1 [] [] [(14, .agg [pI 7, pI 1, pL eS [(⟨#[65, 65]⟩ : ByteArray), (⟨#[66, 66]⟩ : ByteArray), (⟨#[67, 67]⟩ : ByteArray)], pL TRuleFor.enc [(⟨(⟨#[57, 52]⟩ : ByteArray), (⟨1, 0, [], 0, 0, ByteArray.empty, []⟩ : TRule)⟩ : TRuleFor)]])] fo0 (by kernel_rfl) ?_
 refine yay rfl rfl rfl (pl_lit rfl rfl rfl rfl rfl (zic rfl zin) rfl rfl rfl rfl (fun b9 => ?_))
 refine yas [] [] [(2, pO (some ⟨b9, 0, none⟩) 1 1)] fo0 (by kernel_rfl) ?_
 refine yab (yaa (yaf ?_))
 refine yam 4 [] [] [(17, pO (some ⟨b3, 0, none⟩) 2 2), (18, pO (some ⟨b9, 0, none⟩) 1 1), (19, .agg [pI 2, pI 7]), (20, .agg [pI 1, pI 7])] fo0 (by kernel_rfl) ?_
 refine yay rfl rfl rfl (pl_lit rfl rfl rfl rfl rfl (zic rfl zin) rfl rfl rfl rfl (fun b11 => ?_))
 refine pwl_frzt (enc := TProduct.enc) (xs := [(⟨1, (⟨#[57, 52, 48, 49, 48, 49]⟩ : ByteArray), (⟨#[65, 65]⟩ : ByteArray), 10, true, [], []⟩ : TProduct), (⟨2, (⟨#[57, 52, 48, 49, 48, 50]⟩ : ByteArray), (⟨#[66, 66]⟩ : ByteArray), 10, false, [], [(⟨1, 4⟩ : TIngredient)]⟩ : TProduct)]) 17 rfl (by exact zpt (zpt (zpt (zpt zph)))) ?_
 refine pwl_frzt (enc := TAgreement.enc) (xs := [(⟨7, 1, [(⟨#[65, 65]⟩ : ByteArray), (⟨#[66, 66]⟩ : ByteArray), (⟨#[67, 67]⟩ : ByteArray)], [(⟨(⟨#[57, 52]⟩ : ByteArray), (⟨1, 0, [], 0, 0, ByteArray.empty, []⟩ : TRule)⟩ : TRuleFor)]⟩ : TAgreement)]) 18 rfl (by exact zpt (zpt zph)) ?_
 refine pwl_frzt (enc := TOriginClaim.enc) (xs := [(⟨1, 7⟩ : TOriginClaim)]) 21 rfl (by exact zpt (zpt zph)) ?_
 refine yac h ?_; clear h; intro x13 hx13 h
 refine yam 4 [] [22, 16] [(23, .agg [pS x13.1.Code, pI x13.1.Price, pB x13.1.Obtained, pL eS x13.1.Processes, pL TInput.enc x13.1.Inputs]), (24, pL TOriginClaim.enc x13.2)] (focl 0 (cumulation_CaseOf_ok hx13) fo0) (by kernel_rfl) ?_
 refine yay rfl rfl rfl (pl_alloc (cs := [pS ByteArray.empty, pI 0, pB false, pN, pN]) rfl rfl rfl rfl (fun b14 => ?_))
 refine pwl_l0 rfl rfl (yaw (vs := [pS x13.1.Code, pI x13.1.Price, pB x13.1.Obtained, pL eS x13.1.Processes, pL TInput.enc x13.1.Inputs]) rfl rfl rfl rfl rfl zuh (zlc (zlc (zlc (zlc (zlc zln))))) ?_)
 refine yas [] [] [(4, pL TOriginClaim.enc x13.2)] fo0 (by kernel_rfl) ?_
 refine yab (yaa ?_)
 refine pwc_view (enc := TProduct.enc) (xs := [(⟨1, (⟨#[57, 52, 48, 49, 48, 49]⟩ : ByteArray), (⟨#[65, 65]⟩ : ByteArray), 10, true, [], []⟩ : TProduct), (⟨2, (⟨#[57, 52, 48, 49, 48, 50]⟩ : ByteArray), (⟨#[66, 66]⟩ : ByteArray), 10, false, [], [(⟨1, 4⟩ : TIngredient)]⟩ : TProduct)]) 1 rfl zm3 ?_
 refine pwc_view (enc := TAgreement.enc) (xs := [(⟨7, 1, [(⟨#[65, 65]⟩ : ByteArray), (⟨#[66, 66]⟩ : ByteArray), (⟨#[67, 67]⟩ : ByteArray)], [(⟨(⟨#[57, 52]⟩ : ByteArray), (⟨1, 0, [], 0, 0, ByteArray.empty, []⟩ : TRule)⟩ : TRuleFor)]⟩ : TAgreement)]) 2 rfl zm2 ?_
 refine yac h ?_; clear h; intro x15 hx15 h
 refine yac h ?_; clear h; intro x16 hx16 h
 refine yac h ?_; clear h; intro x17 hx17 h
 refine yac h ?_; clear h; intro m18 hm18 h
 refine yad [0, 0] [25, 26, 27, 28, 29, 30, 31, 32, 33, 34, 35, 36, 37, 38, 39, 40, 41, 42, 43, 44, 45, 46, 47, 48, 49, 50, 51, 52, 53, 54, 55, 56, 57, 58, 59] [(0, pB ((((((x15 == 0) && x16) && (!x17)) && ((x13.1.Inputs.length : Int) == 1)) && (TInput.eqb m18 (⟨(⟨#[57, 52, 48, 49, 48, 49]⟩ : ByteArray), 4, true⟩ : TInput))) && ((x13.2.length : Int) == 1)))] (focl 1 (cumulation_Validate_ok hx15) (foclg 7 (fun hc => cumulation_Admissible_ok (gd_t hx16 hc)) (foclg 13 (fun hc => cumulation_Admissible_ok (gd_t hx17 hc)) (foixg 25 TInput.enc (gd_t hm18) (foeq 28 TInput.eqok96 fo0))))) (by kernel_rfl) ?_
 refine yab (yak ?_)
 obtain rfl := Option.some.inj h
 exact yal (ybc (yao rfl)) zsn ⟨rfl, rfl⟩
def slices_Grow_int_int (p1 : Int) : Option (List Int) := Option.bind (mk0 8 p1) (fun _ => some [])
set_option maxHeartbeats 4000000 in
theorem slices_Grow_int_int_ok {p1 : Int} {r : (List Int)} (h : slices_Grow_int_int p1 = some r) : PCall 206 [.v (.slice none 0 0), pI p1] [] (fun pv ρ' => ∃ a c, pv = .v (.slice a r.length c) ∧ ρ' = [PRes.row a r.length c 3 1 (List.map eI r)]) := by
 unfold slices_Grow_int_int at h
 obtain ⟨u, hu, h⟩ := Option.bind_eq_some_iff.1 h
 obtain rfl := Option.some.inj h
 obtain ⟨hg0, hg1⟩ := mk0_le hu
 have ew : IntKind.i64.wrap (p1 - IntKind.i64.wrap (((0 : Nat) : Int) - ((0 : Nat) : Int))) = p1 := wrap_grow hg0 hg1
 refine penter Tryz.func206 fk206 rfl Tryz.ntmps206 Tryz.results206 rfl ?_
 (repeat refine yaa ?_)
 refine yad [] [4] [] fo0 (by kernel_rfl) ?_
 refine yab ?_
 (repeat refine yaa ?_)
 refine yad [] [5] [(6, pB (decide (p1 < 0)))] fo0 (by kernel_rfl) ?_
 refine yab ?_
 refine yah rfl (fun hc => absurd (of_decide_eq_true hc) (by omega)) (fun hc => ?_)
 refine yaj (yab ?_)
 (repeat refine yaa ?_)
 refine yaf ?_
 refine yam 2 [] [] [(8, pI p1), (9, .v (.slice none 0 0))] fo0 (by kernel_rfl) ?_
 refine pwl_q rfl rfl rfl (pq_capO rfl rfl (.p rfl)) ?_
 refine yas [] [11, 12, 13, 14] [(1, pI (IntKind.i64.wrap (p1 - IntKind.i64.wrap (((0 : Nat) : Int) - ((0 : Nat) : Int)))))] fo0 (by kernel_rfl) ?_
 rw [ew]
 refine yab ?_
 (repeat refine yaa ?_)
 refine yad [] [15] [(16, pB (decide (0 < p1)))] fo0 (by kernel_rfl) ?_
 refine yab ?_
 refine yah rfl (fun hc => ?_) (fun hc => ?_)
 ·refine yaf ?_
  refine yam 2 [] [] [(17, .v (.slice none 0 0)), (18, .v (.slice none 0 0))] fo0 (by kernel_rfl) ?_
  refine pwl_q rfl rfl rfl (pq_capO rfl rfl (.p rfl)) ?_
  refine pwl_q rfl rfl rfl (pq_sliceC rfl rfl rfl (.p rfl) (.p rfl) rfl (Nat.zero_le _)) ?_
  refine yam 1 [] [] [(21, pI p1)] fo0 (by kernel_rfl) ?_
  refine pwl_nilrow 3 1 ?_
  refine yay rfl rfl rfl (pl_growZ rfl rfl rfl rfl rfl rfl rfl rfl (of_decide_eq_true hc) hu (by exact zph) (fun a c hac => ?_))
  refine yam 2 [] [] [(23, .v (.slice none 0 0)), (24, pI 0)] fo0 (by kernel_rfl) ?_
  refine pwl_q rfl rfl rfl (pq_sliceC (k := 0) rfl rfl rfl (.p rfl) (.p rfl) rfl (Nat.zero_le _)) ?_
  refine yas [] [] [(0, .v (.slice a 0 c))] fo0 (by kernel_rfl) ?_
  refine yab ?_
  (repeat refine yaa ?_)
  refine yad [] [26] [(4, .v (.slice a 0 c))] fo0 (by kernel_rfl) ?_
  refine yab (yak ?_)
  exact yal (ybc (yao rfl)) (zsc zph zsn) ⟨_, _, rfl, rfl⟩
 ·refine yaj ?_
  refine yab ?_
  (repeat refine yaa ?_)
  refine yad [] [26] [(4, .v (.slice none 0 0))] fo0 (by kernel_rfl) ?_
  refine yab ?_
  refine pwc_nilrow 3 1 ?_
  refine yak ?_
  exact yal (ybc (yao rfl)) (zsc zph zsn) ⟨_, _, rfl, rfl⟩
def slices_Concat_int_int (p0 : (List (List Int))) : Option (List Int) := Option.bind (loopF (S := Int × Int) (T := (Int)) (fun (v1, v2) => cond (decide (v2 < (p0.length : Int))) (Option.bind (idx p0 v2) (fun m7 => cond (decide ((IntKind.i64.wrap (v1 + (m7.length : Int))) < 0)) (none) (some (.inl ((IntKind.i64.wrap (v1 + (m7.length : Int))), (IntKind.i64.wrap (v2 + 1))))))) (some (.inr v1))) FUEL (0, 0)) (fun v3 => Option.bind (slices_Grow_int_int v3) (fun x9 => Option.bind (loopF (S := (List Int) × Int) (T := ((List Int))) (fun (l14, v17) => cond (decide (v17 < (p0.length : Int))) (Option.bind (idx p0 v17) (fun m25 => Option.bind (app 8 l14 m25) (fun l26 => some (.inl (l26, (IntKind.i64.wrap (v17 + 1))))))) (some (.inr l14))) FUEL (x9, 0)) (fun l21 => some l21)))
set_option maxHeartbeats 4000000 in
theorem slices_Concat_int_int_ok {p0 : (List (List Int))} {r : (List Int)}  (h : slices_Concat_int_int p0 = some r) : PCall 205 [pL (eL eI) p0] [] (fun pv ρ' => ∃ a c, pv = .v (.slice a r.length c) ∧ ρ' = [PRes.row a r.length c 3 1 (List.map eI r)]) := by
 unfold slices_Concat_int_int at h
 refine penter Tryz.func205 fk205 rfl Tryz.ntmps205 Tryz.results205 rfl ?_
 refine yaa ?_
 refine yad [] [2] [] fo0 (by kernel_rfl) ?_
 refine yab (yaa ?_)
 refine yad [] [] [(3, pI 0)] fo0 (by kernel_rfl) ?_
 refine yab (yaa (yaa ?_))
 refine yad [] [] [(9, pL (eL eI) p0), (10, pI (p0.length : Int)), (11, pI 0)] fo0 (by kernel_rfl) ?_
 refine yab ?_
 refine yac h ?_; clear h; intro q5 hq5 h
 refine yaz (Y := (Unit) × (Int)) (fun (_, v3) => [(0, pL (eL eI) p0), (3, pI v3)]) (fun (_, v3) => []) (fun (_, v3) => q5 = v3) ?_ ?_
 ·refine yan ?_
  refine ybd (Y := Unit) (S := Int × Int) _ hq5 (fun _ (v1, v2) => [(0, pL (eL eI) p0), (3, pI v1), (9, pL (eL eI) p0), (10, pI (p0.length : Int)), (11, pI v2)]) (fun _ (v1, v2) => []) () (zhc rfl (zhc rfl (zhc rfl (zhc rfl (zhc rfl zhn))))) zsn ?_
  rintro _ ⟨v1, v2⟩ o τ hb4; (try dsimp only at hb4); dsimp only [pupds]
  refine yaa ?_
  refine yad [] [] [(12, pB (decide (v2 < (p0.length : Int))))] fo0 (by kernel_rfl) ?_
  refine yab (yaa ?_)
  refine yah rfl (fun hc6 => ?_) (fun hc6 => ?_)
  ·replace hb4 := yap hc6 hb4
   refine yaj (yab (yaa (yan (yaa ?_))))
   refine yac hb4 ?_; clear hb4; intro m7 hm7 hb4
   refine yad [] [13, 14] [(5, pL eI m7)] (foix 0 (eL eI) hm7 fo0) (by kernel_rfl) ?_
   refine yab (yaa ?_)
   refine yad [] [15, 16, 17, 18] [(3, pI (IntKind.i64.wrap (v1 + (m7.length : Int))))] fo0 (by kernel_rfl) ?_
   refine yab (yaa ?_)
   refine yad [] [19] [(20, pB (decide ((IntKind.i64.wrap (v1 + (m7.length : Int))) < 0)))] fo0 (by kernel_rfl) ?_
   refine yab ?_
   refine yah rfl (fun hc8 => ?_) (fun hc8 => ?_)
   ·replace hb4 := yap hc8 hb4
    refine yaf ?_
    exact absurd hb4 (by simp)
   ·replace hb4 := yaq hc8 hb4
    refine yaj (yae (yab ?_))
    refine yad [] [22] [(11, pI (IntKind.i64.wrap (v2 + 1)))] fo0 (by kernel_rfl) ?_
    exact pk_loop hb4 () (zhc rfl (zhc rfl (zhc rfl (zhc rfl (zhc rfl zhn))))) zsn
  ·replace hb4 := yaq hc6 hb4
   refine pwc_exit (yav ?_)
   refine yar hb4 (fun ht => ?_)
   refine yau rfl ?_
   exact pk_mid ((), v1) (zhc rfl (zhc rfl zhn)) zsn ht.symm
 ·rintro ⟨_, v3⟩ τ hz; (try dsimp only at hz); subst q5; (try dsimp only at h); dsimp only [pupds]
  refine yaa ?_
  refine yac h ?_; clear h; intro x9 hx9 h
  refine yaf ?_
  refine yam 1 [] [] [(23, pI v3)] fo0 (by kernel_rfl) ?_
  refine yay rfl rfl rfl (pl_callR rfl rfl (ρ1 := []) (List.Perm.refl _) (slices_Grow_int_int_ok hx9) ?_); rintro _ _ ⟨a10, c11, rfl, rfl⟩
  refine yas [] [] [(6, pO a10 x9.length c11)] fo0 (by kernel_rfl) ?_
  refine yab (yaa (yaa ?_))
  refine yad [] [] [(25, pL (eL eI) p0), (26, pI (p0.length : Int)), (27, pI 0)] fo0 (by kernel_rfl) ?_
  refine yab ?_
  refine yac h ?_; clear h; intro q23 hq23 h
  refine yaz (Y := (Option Addr × Nat) × ((List Int))) (fun ((a19, c20), l21) => [(6, pO a19 l21.length c20)]) (fun ((a19, c20), l21) => [PRes.row a19 l21.length c20 3 1 (List.map eI l21)]) (fun ((a19, c20), l21) => q23 = l21) ?_ ?_
  ·refine yan ?_
   refine ybd (Y := Option Addr × Nat) (S := (List Int) × Int) _ hq23 (fun (a15, c16) (l14, v17) => [(6, pO a15 l14.length c16), (25, pL (eL eI) p0), (26, pI (p0.length : Int)), (27, pI v17)]) (fun (a15, c16) (l14, v17) => [PRes.row a15 l14.length c16 3 1 (List.map eI l14)]) (a10, c11) (zhc rfl (zhc rfl (zhc rfl (zhc rfl zhn)))) (zsc zph zsn) ?_
   rintro ⟨a15, c16⟩ ⟨l14, v17⟩ o τ hb22; (try dsimp only at hb22); dsimp only [pupds]
   refine yaa ?_
   refine yad [] [] [(28, pB (decide (v17 < (p0.length : Int))))] fo0 (by kernel_rfl) ?_
   refine yab (yaa ?_)
   refine yah rfl (fun hc24 => ?_) (fun hc24 => ?_)
   ·replace hb22 := yap hc24 hb22
    refine yaj (yab (yaa (yan (yaa ?_))))
    refine yac hb22 ?_; clear hb22; intro m25 hm25 hb22
    refine yad [] [29, 30] [(8, pL eI m25)] (foix 0 (eL eI) hm25 fo0) (by kernel_rfl) ?_
    refine yab ?_
    refine yac hb22 ?_; clear hb22; intro l26 hl26 hb22
    refine yaf ?_
    refine yam 2 [] [] [(31, pO a15 l14.length c16), (32, pL eI m25)] fo0 (by kernel_rfl) ?_
    refine yay rfl rfl rfl (pl_app_s (enc := eI) rfl rfl rfl rfl rfl (fun _ => rfl) rfl rfl rfl (by exact zph) hl26 (fun a27 c28 => ?_))
    refine yas [] [] [(6, pO a27 l26.length c28)] fo0 (by kernel_rfl) ?_
    refine yae (yab ?_)
    refine yad [] [34] [(27, pI (IntKind.i64.wrap (v17 + 1)))] fo0 (by kernel_rfl) ?_
    exact pk_loop hb22 (a27, c28) (zhc rfl (zhc rfl (zhc rfl (zhc rfl zhn)))) (zsc zph zsn)
   ·replace hb22 := yaq hc24 hb22
    refine pwc_exit (yav ?_)
    refine yar hb22 (fun ht => ?_)
    refine yau rfl ?_
    exact pk_mid ((a15, c16), l14) (zhc rfl zhn) (zsc zph zsn) ht.symm
  ·rintro ⟨⟨a19, c20⟩, l21⟩ τ hz; (try dsimp only at hz); subst q23; (try dsimp only at h); dsimp only [pupds]
   refine yaa ?_
   refine yad [] [35] [(2, pO a19 l21.length c20)] fo0 (by kernel_rfl) ?_
   refine yab (yak ?_)
   obtain rfl := Option.some.inj h
   exact yal (ybc (yao rfl)) (zsc zph zsn) ⟨_, _, rfl, rfl⟩
def rule_every_witness_B (rec : Irule_test → TCase → Option ((List Int) × Bool)) (p0 : (List Irule_test)) (p1 : TCase) : Option ((List Int) × Bool) := Option.bind (loopF (S := (List Int) × Int) (T := ((List Int)) ⊕ (_)) (fun (l3, v6) => cond (decide (v6 < (p0.length : Int))) (Option.bind (idx p0 v6) (fun m15 => Option.bind (rec m15 p1) (fun x16 => cond (!x16.2) (some (.inr (.inr ([], false)))) (Option.bind (app 8 l3 x16.1) (fun l18 => some (.inl (l18, (IntKind.i64.wrap (v6 + 1))))))))) (some (.inr (.inl l3)))) FUEL (([] : List Int), 0)) (fun q => match q with | .inl l10 => some (l10, true) | .inr e => some e)
set_option maxHeartbeats 4000000 in
theorem rule_every_witness_B_ok {rec : Irule_test → TCase → Option ((List Int) × Bool)} (hrec : ∀ {x : Irule_test} {y0 : TCase} {w : ((List Int) × Bool)}, rec x y0 = some w → PFI x.pv "customs/rule.witness" [.agg [pS y0.Code, pI y0.Price, pB y0.Obtained, pL eS y0.Processes, pL TInput.enc y0.Inputs]] (.tup [pL eI w.1, pB w.2])) {p0 : (List Irule_test)} {p1 : TCase} {r : ((List Int) × Bool)} (h : rule_every_witness_B rec p0 p1 = some r) : PF 202 [pL Irule_test.enc p0, .agg [pS p1.Code, pI p1.Price, pB p1.Obtained, pL eS p1.Processes, pL TInput.enc p1.Inputs]] (.tup [pL eI r.1, pB r.2]) := by
 unfold rule_every_witness_B at h
 refine pf_of ?_
 refine penter Tryz.func202 fk202 rfl Tryz.ntmps202 Tryz.results202 rfl ?_
 refine yaa (yaf ?_)
 refine yay rfl rfl rfl (pl_box (cs := [pS p1.Code, pI p1.Price, pB p1.Obtained, pL eS p1.Processes, pL TInput.enc p1.Inputs]) rfl rfl (fun b1 => ?_))
 refine yas [] [4, 5] [] fo0 (by kernel_rfl) ?_
 refine yab (yaa ?_)
 refine yad [] [] [(6, pN)] fo0 (by kernel_rfl) ?_
 refine yab (yaa (yaa ?_))
 refine yad [] [] [(11, pL Irule_test.enc p0), (12, pI (p0.length : Int)), (13, pI 0)] fo0 (by kernel_rfl) ?_
 refine yab ?_
 refine pwc_nilrow 3 1 ?_
 refine yac h ?_; clear h; intro q12 hq12 h
 refine yaz (Y := (Option Addr × Nat) × ((List Int))) (fun ((a8, c9), l10) => [(6, pO a8 l10.length c9)]) (fun ((a8, c9), l10) => [PRes.row a8 l10.length c9 3 1 (List.map eI l10)]) (fun ((a8, c9), l10) => q12 = Sum.inl l10) ?_ ?_
 ·refine yan ?_
  refine ybd (Y := Option Addr × Nat) (S := (List Int) × Int) _ hq12 (fun (a4, c5) (l3, v6) => [(3, pP b1 0), (6, pO a4 l3.length c5), (11, pL Irule_test.enc p0), (12, pI (p0.length : Int)), (13, pI v6)]) (fun (a4, c5) (l3, v6) => [PRes.b b1 45 [pS p1.Code, pI p1.Price, pB p1.Obtained, pL eS p1.Processes, pL TInput.enc p1.Inputs], PRes.row a4 l3.length c5 3 1 (List.map eI l3)]) (none, 0) (zhc rfl (zhc rfl (zhc rfl (zhc rfl (zhc rfl zhn))))) (zsc (zpt zph) (zsc zph zsn)) ?_
  rintro ⟨a4, c5⟩ ⟨l3, v6⟩ o τ hb11; (try dsimp only at hb11); dsimp only [pupds]
  refine yaa ?_
  refine yad [] [] [(14, pB (decide (v6 < (p0.length : Int))))] fo0 (by kernel_rfl) ?_
  refine yab (yaa ?_)
  refine yah rfl (fun hc14 => ?_) (fun hc14 => ?_)
  ·replace hb11 := yap hc14 hb11
   refine yaj (yab (yaa (yan (yaa ?_))))
   refine yac hb11 ?_; clear hb11; intro m15 hm15 hb11
   refine yad [] [15, 16] [(8, Irule_test.pv m15)] (foix 0 Irule_test.enc hm15 fo0) (by kernel_rfl) ?_
   refine yab (yaa ?_)
   refine yac hb11 ?_; clear hb11; intro x16 hx16 hb11
   refine yad [0] [18, 19, 20, 17, 21, 22] [(9, pL eI x16.1), (10, pB x16.2)] (foci 2 (hrec hx16) fo0) (by kernel_rfl) ?_
   refine yab (yaa (yaa ?_))
   refine yad [] [23] [(24, pB (!x16.2))] fo0 (by kernel_rfl) ?_
   refine yab ?_
   refine yah rfl (fun hc17 => ?_) (fun hc17 => ?_)
   ·replace hb11 := yap hc17 hb11
    refine yaa ?_
    refine yad [] [] [(4, pN), (5, pB false)] fo0 (by kernel_rfl) ?_
    refine yab ?_
    refine pwc_nil 4 rfl ?_
    refine yak (yai (yag (yai ?_)))
    refine pk_loop_ret hb11 (fun ht => ?_); subst ht
    have h := (show some _ = some _ from h)
    refine yag (yax ?_)
    obtain rfl := Option.some.inj h
    exact yal (prv_2 (yao rfl) (yao rfl)) zsn ⟨rfl, rfl⟩
   ·replace hb11 := yaq hc17 hb11
    refine yaj (yab ?_)
    refine yac hb11 ?_; clear hb11; intro l18 hl18 hb11
    refine yaf ?_
    refine yam 2 [] [] [(25, pO a4 l3.length c5), (26, pL eI x16.1)] fo0 (by kernel_rfl) ?_
    refine yay rfl rfl rfl (pl_app_s (enc := eI) rfl rfl rfl rfl rfl (fun _ => rfl) rfl rfl rfl (by exact zpt zph) hl18 (fun a19 c20 => ?_))
    refine yas [] [] [(6, pO a19 l18.length c20)] fo0 (by kernel_rfl) ?_
    refine yae (yab ?_)
    refine yad [] [28] [(13, pI (IntKind.i64.wrap (v6 + 1)))] fo0 (by kernel_rfl) ?_
    exact pk_loop hb11 (a19, c20) (zhc rfl (zhc rfl (zhc rfl (zhc rfl (zhc rfl zhn))))) (zsc (zpt zph) (zsc zph zsn))
  ·replace hb11 := yaq hc14 hb11
   refine pwc_exit (yav ?_)
   refine yar hb11 (fun ht => ?_)
   refine yau rfl ?_
   exact pk_mid ((a4, c5), l3) (zhc rfl zhn) (zsc (zpt zph) zsn) ht.symm
 ·rintro ⟨⟨a8, c9⟩, l10⟩ τ hz; (try dsimp only at hz); subst q12; (try dsimp only at h); dsimp only [pupds]
  refine yaa ?_
  refine yad [] [29] [(4, pO a8 l10.length c9), (5, pB true)] fo0 (by kernel_rfl) ?_
  refine yab ?_
  refine pwc_frzt (enc := eI) (xs := l10) 4 rfl (by exact zph) ?_
  refine yak ?_
  obtain rfl := Option.some.inj h
  exact yal (prv_2 (yao rfl) (yao rfl)) zsn ⟨rfl, rfl⟩
def rule_some_witness_B (rec : Irule_test → TCase → Option ((List Int) × Bool)) (p0 : (List Irule_test)) (p1 : TCase) : Option ((List Int) × Bool) := Option.bind (loopF (S := Int) (T := (Unit) ⊕ (_)) (fun v2 => cond (decide (v2 < (p0.length : Int))) (Option.bind (idx p0 v2) (fun m6 => Option.bind (rec m6 p1) (fun x7 => cond x7.2 (Option.bind (slices_Concat_int_int [[v2], x7.1]) (fun x13 => some (.inr (.inr (x13, true))))) (some (.inl (IntKind.i64.wrap (v2 + 1))))))) (some (.inr (.inl ())))) FUEL 0) (fun q => match q with | .inl _ => some ([], false) | .inr e => some e)
set_option maxHeartbeats 4000000 in
theorem rule_some_witness_B_ok {rec : Irule_test → TCase → Option ((List Int) × Bool)} (hrec : ∀ {x : Irule_test} {y0 : TCase} {w : ((List Int) × Bool)}, rec x y0 = some w → PFI x.pv "customs/rule.witness" [.agg [pS y0.Code, pI y0.Price, pB y0.Obtained, pL eS y0.Processes, pL TInput.enc y0.Inputs]] (.tup [pL eI w.1, pB w.2])) {p0 : (List Irule_test)} {p1 : TCase} {r : ((List Int) × Bool)} (h : rule_some_witness_B rec p0 p1 = some r) : PF 204 [pL Irule_test.enc p0, .agg [pS p1.Code, pI p1.Price, pB p1.Obtained, pL eS p1.Processes, pL TInput.enc p1.Inputs]] (.tup [pL eI r.1, pB r.2]) := by
 unfold rule_some_witness_B at h
 refine pf_of ?_
 refine penter Tryz.func204 fk204 rfl Tryz.ntmps204 Tryz.results204 rfl ?_
 refine yaa (yaf ?_)
 refine yay rfl rfl rfl (pl_box (cs := [pS p1.Code, pI p1.Price, pB p1.Obtained, pL eS p1.Processes, pL TInput.enc p1.Inputs]) rfl rfl (fun b1 => ?_))
 refine yas [] [4, 5] [] fo0 (by kernel_rfl) ?_
 refine yab (yaa (yaa ?_))
 refine yad [] [] [(10, pL Irule_test.enc p0), (11, pI (p0.length : Int)), (12, pI 0)] fo0 (by kernel_rfl) ?_
 refine yab ?_
 refine yac h ?_; clear h; intro q4 hq4 h
 refine yaz (Y := (Unit) × (Unit)) (fun (_, _) => []) (fun (_, _) => []) (fun (_, _) => q4 = Sum.inl ()) ?_ ?_
 ·refine yan ?_
  refine ybd (Y := Unit) (S := Int) _ hq4 (fun _ v2 => [(3, pP b1 0), (10, pL Irule_test.enc p0), (11, pI (p0.length : Int)), (12, pI v2)]) (fun _ v2 => [PRes.b b1 45 [pS p1.Code, pI p1.Price, pB p1.Obtained, pL eS p1.Processes, pL TInput.enc p1.Inputs]]) () (zhc rfl (zhc rfl (zhc rfl (zhc rfl zhn)))) (zsc zph zsn) ?_
  rintro _ v2 o τ hb3; (try dsimp only at hb3); dsimp only [pupds]
  refine yaa ?_
  refine yad [] [] [(13, pB (decide (v2 < (p0.length : Int))))] fo0 (by kernel_rfl) ?_
  refine yab (yaa ?_)
  refine yah rfl (fun hc5 => ?_) (fun hc5 => ?_)
  ·replace hb3 := yap hc5 hb3
   refine yaj (yab (yaa (yan (yaa ?_))))
   refine yac hb3 ?_; clear hb3; intro m6 hm6 hb3
   refine yad [] [14, 15, 16] [(6, pI v2), (7, Irule_test.pv m6)] (foix 1 Irule_test.enc hm6 fo0) (by kernel_rfl) ?_
   refine yab (yaa ?_)
   refine yac hb3 ?_; clear hb3; intro x7 hx7 hb3
   refine yad [0] [18, 19, 20, 17, 21, 22] [(8, pL eI x7.1), (9, pB x7.2)] (foci 2 (hrec hx7) fo0) (by kernel_rfl) ?_
   refine yab (yaa ?_)
   refine yad [] [] [(23, pB x7.2)] fo0 (by kernel_rfl) ?_
   refine yab ?_
   refine yah rfl (fun hc8 => ?_) (fun hc8 => ?_)
   ·replace hb3 := yap hc8 hb3
    refine yaa (yaf ?_)
    refine yam 1 [] [] [(24, pI v2)] fo0 (by kernel_rfl) ?_
    refine yay rfl rfl rfl (pl_lit rfl rfl rfl rfl rfl (zic rfl zin) rfl rfl rfl rfl (fun b9 => ?_))
    refine yam 1 [] [] [(26, pL eI x7.1)] fo0 (by kernel_rfl) ?_
    refine pwl_frzt (enc := eI) (xs := [v2]) 25 rfl (by exact zph) ?_
    refine yay rfl rfl rfl (pl_lit rfl rfl rfl rfl rfl (zic rfl (zic rfl zin)) rfl rfl rfl rfl (fun b11 => ?_))
    refine pwl_frzt (enc := (eL eI)) (xs := [[v2], x7.1]) 27 rfl (by exact zph) ?_
    refine yac hb3 ?_; clear hb3; intro x13 hx13 hb3
    refine yay rfl rfl rfl (pl_callR rfl rfl (ρ1 := []) (List.Perm.refl _) (slices_Concat_int_int_ok hx13) ?_); rintro _ _ ⟨a14, c15, rfl, rfl⟩
    refine yas [] [] [(4, pO a14 x13.length c15), (5, pB true)] fo0 (by kernel_rfl) ?_
    refine yab ?_
    refine pwc_frzt (enc := eI) (xs := x13) 4 rfl (by exact zph) ?_
    refine yak (yag (yai ?_))
    refine pk_loop_ret hb3 (fun ht => ?_); subst ht
    have h := (show some _ = some _ from h)
    refine yag (yax ?_)
    obtain rfl := Option.some.inj h
    exact yal (prv_2 (yao rfl) (yao rfl)) zsn ⟨rfl, rfl⟩
   ·replace hb3 := yaq hc8 hb3
    refine yaj (yae (yab ?_))
    refine yad [] [29] [(12, pI (IntKind.i64.wrap (v2 + 1)))] fo0 (by kernel_rfl) ?_
    exact pk_loop hb3 () (zhc rfl (zhc rfl (zhc rfl (zhc rfl zhn)))) (zsc zph zsn)
  ·replace hb3 := yaq hc5 hb3
   refine pwc_exit (yav ?_)
   refine yar hb3 (fun ht => ?_)
   refine yau rfl ?_
   exact pk_mid ((), ()) zhn zsn ht.symm
 ·rintro ⟨_, _⟩ τ hz; (try dsimp only at hz); subst q4; (try dsimp only at h); dsimp only [pupds]
  refine yaa ?_
  refine yad [] [] [(4, pN), (5, pB false)] fo0 (by kernel_rfl) ?_
  refine yab ?_
  refine pwc_nil 4 rfl ?_
  refine yak ?_
  obtain rfl := Option.some.inj h
  exact yal (prv_2 (yao rfl) (yao rfl)) zsn ⟨rfl, rfl⟩
def Irule_test_witness_B (rec : Irule_test → TCase → Option ((List Int) × Bool)) (x : Irule_test) (y0 : TCase) : Option ((List Int) × Bool) := match x with | .single_ a => rule_single_witness a y0 | .every_ a => rule_every_witness_B rec a y0 | .some_ a => rule_some_witness_B rec a y0
theorem Irule_test_witness_B_ok {rec : Irule_test → TCase → Option ((List Int) × Bool)} (hrec : ∀ {x : Irule_test} {y0 : TCase} {w : ((List Int) × Bool)}, rec x y0 = some w → PFI x.pv "customs/rule.witness" [.agg [pS y0.Code, pI y0.Price, pB y0.Obtained, pL eS y0.Processes, pL TInput.enc y0.Inputs]] (.tup [pL eI w.1, pB w.2])) {x : Irule_test} {y0 : TCase} {w : ((List Int) × Bool)} (h : Irule_test_witness_B rec x y0 = some w) : PFI x.pv "customs/rule.witness" [.agg [pS y0.Code, pI y0.Price, pB y0.Obtained, pL eS y0.Processes, pL TInput.enc y0.Inputs]] (.tup [pL eI w.1, pB w.2]) := by
 cases x with
 | single_ a => rw [Irule_test.pv_single_]; exact pfi_of ⟨fun _ _ => by kernel_rfl⟩ (rule_single_witness_ok h)
 | every_ a => rw [Irule_test.pv_every_]; exact pfi_of ⟨fun _ _ => by kernel_rfl⟩ (rule_every_witness_B_ok hrec h)
 | some_ a => rw [Irule_test.pv_some_]; exact pfi_of ⟨fun _ _ => by kernel_rfl⟩ (rule_some_witness_B_ok hrec h)
def Irule_test_witness_F (n : Nat) : Irule_test → TCase → Option ((List Int) × Bool) := Nat.rec (motive := fun _ => Irule_test → TCase → Option ((List Int) × Bool)) (fun _ _ => none) (fun _ ih => Irule_test_witness_B ih) n
def Irule_test_witness (x : Irule_test) (y0 : TCase) : Option ((List Int) × Bool) := Irule_test_witness_F FUEL x y0
theorem Irule_test_witness_Fok (n : Nat) : ∀ {x : Irule_test} {y0 : TCase} {w : ((List Int) × Bool)}, Irule_test_witness_F n x y0 = some w → PFI x.pv "customs/rule.witness" [.agg [pS y0.Code, pI y0.Price, pB y0.Obtained, pL eS y0.Processes, pL TInput.enc y0.Inputs]] (.tup [pL eI w.1, pB w.2]) := by
 induction n with
 | zero => intros; rename_i h; exact nomatch h
 | succ n ih => intros; rename_i h; exact Irule_test_witness_B_ok (fun hr => ih hr) h
theorem Irule_test_witness_ok {x : Irule_test} {y0 : TCase} {w : ((List Int) × Bool)} (h : Irule_test_witness x y0 = some w) : PFI x.pv "customs/rule.witness" [.agg [pS y0.Code, pI y0.Price, pB y0.Obtained, pL eS y0.Processes, pL TInput.enc y0.Inputs]] (.tup [pL eI w.1, pB w.2]) := Irule_test_witness_Fok FUEL h
def rule_Witness (p0 : TRule) (p1 : TCase) : Option ((List Int) × Bool) := Option.bind (rule_applicable p0 p1) (fun x3 => cond (!x3) (some ([], false)) (Option.bind (rule_testOf p0) (fun x5 => Option.bind (Irule_test_witness x5 p1) (fun x6 => some (x6.1, x6.2)))))
set_option maxHeartbeats 4000000 in
theorem rule_Witness_ok {p0 : TRule} {p1 : TCase} {r : ((List Int) × Bool)}  (h : rule_Witness p0 p1 = some r) : PF 75 [.agg [pI p0.Kind, pI p0.Digits, pL eS p0.Except, pI p0.Tolerance, pI p0.Limit, pS p0.Name, pL TRule.enc p0.Args], .agg [pS p1.Code, pI p1.Price, pB p1.Obtained, pL eS p1.Processes, pL TInput.enc p1.Inputs]] (.tup [pL eI r.1, pB r.2]) := by
 unfold rule_Witness at h
 refine pf_of ?_
 refine penter Tryz.func75 fk75 rfl Tryz.ntmps75 Tryz.results75 rfl ?_
 refine yaa (yaf ?_)
 refine yay rfl rfl rfl (pl_box (cs := [pI p0.Kind, pI p0.Digits, pL eS p0.Except, pI p0.Tolerance, pI p0.Limit, pS p0.Name, pL TRule.enc p0.Args]) rfl rfl (fun b1 => ?_))
 refine yay rfl rfl rfl (pl_box (cs := [pS p1.Code, pI p1.Price, pB p1.Obtained, pL eS p1.Processes, pL TInput.enc p1.Inputs]) rfl rfl (fun b2 => ?_))
 refine yas [] [4, 5] [] fo0 (by kernel_rfl) ?_
 refine yab (yaa (yaa ?_))
 refine yac h ?_; clear h; intro x3 hx3 h
 refine yad [1, 0] [6, 7, 8] [(9, pB (!x3))] (focl 2 (rule_applicable_ok hx3) fo0) (by kernel_rfl) ?_
 refine yab ?_
 refine yah rfl (fun hc4 => ?_) (fun hc4 => ?_)
 ·replace h := yap hc4 h
  refine yaa ?_
  refine yad [] [] [(4, pN), (5, pB false)] fo0 (by kernel_rfl) ?_
  refine yab ?_
  refine pwc_nil 4 rfl ?_
  refine yak (yai ?_)
  obtain rfl := Option.some.inj h
  exact yal (prv_2 (yao rfl) (yao rfl)) zsn ⟨rfl, rfl⟩
 ·replace h := yaq hc4 h
  refine yaj (yab (yaa ?_))
  refine pwc_draw (ρd := []) [(0, 0), (2, 0), (1, 1), (3, 1), (4, 0), (5, 0), (6, 0), (7, 0)] _ (List.Perm.refl _) (by kernel_rfl) rfl ?_
  refine yac h ?_; clear h; intro x5 hx5 h
  refine yac h ?_; clear h; intro x6 hx6 h
  refine pwd_run 8 [1, 0] [10, 12, 11, 13, 14, 15] [(4, pL eI x6.1), (5, pB x6.2)] (focl 2 (rule_testOf_ok hx5) (foci 3 (Irule_test_witness_ok hx6) fo0)) (by kernel_rfl) ?_
  refine pwd_nil (yab (yak ?_))
  obtain rfl := Option.some.inj h
  exact yal (prv_2 (yao rfl) (yao rfl)) zsn ⟨rfl, rfl⟩
def rule_Holds (p0 : TRule) (p1 : TCase) : Option Bool := Option.bind (rule_Witness p0 p1) (fun x3 => some x3.2)
set_option maxHeartbeats 4000000 in
theorem rule_Holds_ok {p0 : TRule} {p1 : TCase} {r : Bool}  (h : rule_Holds p0 p1 = some r) : PF 42 [.agg [pI p0.Kind, pI p0.Digits, pL eS p0.Except, pI p0.Tolerance, pI p0.Limit, pS p0.Name, pL TRule.enc p0.Args], .agg [pS p1.Code, pI p1.Price, pB p1.Obtained, pL eS p1.Processes, pL TInput.enc p1.Inputs]] (pB r) := by
 unfold rule_Holds at h
 refine pf_of ?_
 refine penter Tryz.func42 fk42 rfl Tryz.ntmps42 Tryz.results42 rfl ?_
 refine yaa (yaf ?_)
 refine yay rfl rfl rfl (pl_box (cs := [pI p0.Kind, pI p0.Digits, pL eS p0.Except, pI p0.Tolerance, pI p0.Limit, pS p0.Name, pL TRule.enc p0.Args]) rfl rfl (fun b1 => ?_))
 refine yay rfl rfl rfl (pl_box (cs := [pS p1.Code, pI p1.Price, pB p1.Obtained, pL eS p1.Processes, pL TInput.enc p1.Inputs]) rfl rfl (fun b2 => ?_))
 refine yas [] [4] [] fo0 (by kernel_rfl) ?_
 refine yab (yaa ?_)
 refine yac h ?_; clear h; intro x3 hx3 h
 refine yad [1, 0] [8, 9, 10, 7, 11, 12, 5] [(6, pB x3.2)] (focl 2 (rule_Witness_ok hx3) fo0) (by kernel_rfl) ?_
 refine yab (yaa ?_)
 refine yad [] [13] [(4, pB x3.2)] fo0 (by kernel_rfl) ?_
 refine yab (yak ?_)
 obtain rfl := Option.some.inj h
 exact yal (ybc (yao rfl)) zsn ⟨rfl, rfl⟩
def law14_CaseMonotone (p0 : (List Int)) (p1 : (List Int)) (p2 : (List Int)) (p3 : Int) (p4 : Int) (p5 : Int) (p6 : (List Int)) (p7 : (List Int)) : Option Bool := Option.bind (made_Plan p0) (fun x1 => Option.bind (made_Agreements p1) (fun x5 => Option.bind (made_Rule p2) (fun x9 => Option.bind (law14_claim x1 x5 p3 p4) (fun x11 => Option.bind (made_Importer p5) (fun x12 => Option.bind (made_OriginClaims x1 x5 p6) (fun x14 => Option.bind (made_OriginClaims x1 x5 p7) (fun x15 => Option.bind (loopF (S := (List TOriginClaim) × Int) (T := ((List TOriginClaim))) (fun (l16, v17) => cond (decide (v17 < (x14.length : Int))) (Option.bind (idx x14 v17) (fun m22 => Option.bind (ref14_With l16 m22) (fun x23 => some (.inl (x23, (IntKind.i64.wrap (v17 + 1))))))) (some (.inr l16))) FUEL (x15, 0)) (fun l18 => Option.bind (cumulation_CaseOf x1 x5 x12 x11 x14) (fun x24 => Option.bind (cumulation_CaseOf x1 x5 x12 x11 l18) (fun x26 => cond (decide (x24.1.Code = (⟨#[]⟩ : ByteArray))) (Option.bind (gd (decide (x26.1.Code = (⟨#[]⟩ : ByteArray))) (law14_awake)) (fun x29 => some ((decide (x26.1.Code = (⟨#[]⟩ : ByteArray))) && x29))) (Option.bind (gd (decide (x26.1.Code = x24.1.Code)) (rule_Holds x9 x24.1)) (fun x30 => Option.bind (gd ((decide (x26.1.Code = x24.1.Code)) && (!(!x30))) (rule_Holds x9 x26.1)) (fun x31 => Option.bind (gd ((decide (x26.1.Code = x24.1.Code)) && ((!x30) || x31)) (law14_awake)) (fun x32 => some (((decide (x26.1.Code = x24.1.Code)) && ((!x30) || x31)) && x32)))))))))))))))
set_option maxHeartbeats 4000000 in
theorem law14_CaseMonotone_ok {p0 : (List Int)} {p1 : (List Int)} {p2 : (List Int)} {p3 : Int} {p4 : Int} {p5 : Int} {p6 : (List Int)} {p7 : (List Int)} {r : Bool}  (h : law14_CaseMonotone p0 p1 p2 p3 p4 p5 p6 p7 = some r) : PF 9 [pL eI p0, pL eI p1, pL eI p2, pI p3, pI p4, pI p5, pL eI p6, pL eI p7] (pB r) := by
 unfold law14_CaseMonotone at h
 refine pf_of ?_
 refine penter Tryz.func9 fk9 rfl Tryz.ntmps9 Tryz.results9 rfl ?_
 refine yaa ?_
 refine yad [] [16] [] fo0 (by kernel_rfl) ?_
 refine yab (yaa ?_)
 refine yac h ?_; clear h; intro x1 hx1 h
 refine yaf ?_
 refine yam 1 [] [] [(29, pL eI p0)] fo0 (by kernel_rfl) ?_
 refine yay rfl rfl rfl (pl_callR rfl rfl (ρ1 := []) (List.Perm.refl _) (made_Plan_ok hx1) ?_); rintro _ _ ⟨a2, c3, rfl, rfl⟩
 refine yac h ?_; clear h; intro x5 hx5 h
 refine yam 1 [] [] [(31, pL eI p1)] fo0 (by kernel_rfl) ?_
 refine yay rfl rfl rfl (pl_callR rfl rfl (ρ1 := []) (List.Perm.refl _) (made_Agreements_ok hx5) ?_); rintro _ _ ⟨a6, c7, rfl, rfl⟩
 refine yac h ?_; clear h; intro x9 hx9 h
 refine yam 2 [] [33] [(34, .agg [pI x9.Kind, pI x9.Digits, pL eS x9.Except, pI x9.Tolerance, pI x9.Limit, pS x9.Name, pL TRule.enc x9.Args])] (focl 1 (made_Rule_ok hx9) fo0) (by kernel_rfl) ?_
 refine yay rfl rfl rfl (pl_alloc (cs := [pI 0, pI 0, pN, pI 0, pI 0, pS ByteArray.empty, pN]) rfl rfl rfl rfl (fun b10 => ?_))
 refine yam 2 [] [] [(17, pO a2 x1.length c3), (18, pO a6 x5.length c7)] fo0 (by kernel_rfl) ?_
 refine pwl_l0 rfl rfl (yaw (vs := [pI x9.Kind, pI x9.Digits, pL eS x9.Except, pI x9.Tolerance, pI x9.Limit, pS x9.Name, pL TRule.enc x9.Args]) rfl rfl rfl rfl rfl zuh (zlc (zlc (zlc (zlc (zlc (zlc (zlc zln))))))) ?_)
 refine yba (yab (yaa (yaf ?_)))
 refine yam 4 [] [] [(35, pO a2 x1.length c3), (36, pO a6 x5.length c7), (37, pI p3), (38, pI p4)] fo0 (by kernel_rfl) ?_
 refine pwl_frzt (enc := TProduct.enc) (xs := x1) 35 rfl (by exact zpt (zpt zph)) ?_
 refine pwl_frzt (enc := TAgreement.enc) (xs := x5) 36 rfl (by exact zpt (zpt zph)) ?_
 refine yac h ?_; clear h; intro x11 hx11 h
 refine yac h ?_; clear h; intro x12 hx12 h
 refine yam 3 [] [40] [(39, .agg [pI x11.Product, pI x11.Agreement]), (41, pS x12)] (focl 0 (law14_claim_ok hx11) (focl 2 (made_Importer_ok hx12) fo0)) (by kernel_rfl) ?_
 refine yay rfl rfl rfl (pl_alloc (cs := [pI 0, pI 0]) rfl rfl rfl rfl (fun b13 => ?_))
 refine pwl_l0 rfl rfl (yaw (vs := [pI x11.Product, pI x11.Agreement]) rfl rfl rfl rfl rfl zuh (zlc (zlc zln)) ?_)
 refine yas [] [] [(21, pS x12)] fo0 (by kernel_rfl) ?_
 refine yab (yaa (yaf ?_))
 refine yam 3 [] [] [(42, pO a2 x1.length c3), (43, pO a6 x5.length c7), (44, pL eI p6)] fo0 (by kernel_rfl) ?_
 refine pwl_view (enc := TProduct.enc) (xs := x1) 42 rfl zm2 ?_
 refine pwl_view (enc := TAgreement.enc) (xs := x5) 43 rfl zm1 ?_
 refine yac h ?_; clear h; intro x14 hx14 h
 refine yam 4 [] [] [(45, pL TOriginClaim.enc x14), (46, pO a2 x1.length c3), (47, pO a6 x5.length c7), (48, pL eI p7)] (focl 0 (made_OriginClaims_ok hx14) fo0) (by kernel_rfl) ?_
 refine pwl_view (enc := TProduct.enc) (xs := x1) 46 rfl zm2 ?_
 refine pwl_view (enc := TAgreement.enc) (xs := x5) 47 rfl zm1 ?_
 refine yac h ?_; clear h; intro x15 hx15 h
 refine yas [] [49] [(22, pL TOriginClaim.enc x14), (23, pL TOriginClaim.enc x15)] (focl 0 (made_OriginClaims_ok hx15) fo0) (by kernel_rfl) ?_
 refine yab (yaa (yaa ?_))
 refine yad [] [] [(24, pI 0)] fo0 (by kernel_rfl) ?_
 refine yab ?_
 refine pwc_view (enc := TProduct.enc) (xs := x1) 17 rfl zm2 ?_
 refine pwc_view (enc := TAgreement.enc) (xs := x5) 18 rfl zm1 ?_
 refine yac h ?_; clear h; intro q20 hq20 h
 refine yaz (Y := (Unit) × ((List TOriginClaim))) (fun (_, l18) => [(17, pL TProduct.enc x1), (18, pL TAgreement.enc x5), (19, pP b10 0), (20, pP b13 0), (21, pS x12), (22, pL TOriginClaim.enc x14), (23, pL TOriginClaim.enc l18)]) (fun (_, l18) => [PRes.b b10 36 [pI x9.Kind, pI x9.Digits, pL eS x9.Except, pI x9.Tolerance, pI x9.Limit, pS x9.Name, pL TRule.enc x9.Args], PRes.b b13 54 [pI x11.Product, pI x11.Agreement]]) (fun (_, l18) => q20 = l18) ?_ ?_
 ·refine yan ?_
  refine ybd (Y := Unit) (S := (List TOriginClaim) × Int) _ hq20 (fun _ (l16, v17) => [(17, pL TProduct.enc x1), (18, pL TAgreement.enc x5), (19, pP b10 0), (20, pP b13 0), (21, pS x12), (22, pL TOriginClaim.enc x14), (23, pL TOriginClaim.enc l16), (24, pI v17)]) (fun _ (l16, v17) => [PRes.b b10 36 [pI x9.Kind, pI x9.Digits, pL eS x9.Except, pI x9.Tolerance, pI x9.Limit, pS x9.Name, pL TRule.enc x9.Args], PRes.b b13 54 [pI x11.Product, pI x11.Agreement]]) () (zhc rfl (zhc rfl (zhc rfl (zhc rfl (zhc rfl (zhc rfl (zhc rfl (zhc rfl zhn)))))))) (zsc (zpt (zpt (zpt zph))) (zsc zph zsn)) ?_
  rintro _ ⟨l16, v17⟩ o τ hb19; (try dsimp only at hb19); dsimp only [pupds]
  refine yaa (yaa ?_)
  refine yad [] [50, 51, 52] [(53, pB (decide (v17 < (x14.length : Int))))] fo0 (by kernel_rfl) ?_
  refine yab ?_
  refine yah rfl (fun hc21 => ?_) (fun hc21 => ?_)
  ·replace hb19 := yap hc21 hb19
   refine yaj (yab (yaa (yan ?_)))
   refine yac hb19 ?_; clear hb19; intro m22 hm22 hb19
   refine yac hb19 ?_; clear hb19; intro x23 hx23 hb19
   refine yad [] [56, 57, 58, 59, 60, 61] [(23, pL TOriginClaim.enc x23)] (foix 3 TOriginClaim.enc hm22 (focl 5 (ref14_With_ok hx23) fo0)) (by kernel_rfl) ?_
   refine yae (yab ?_)
   refine yad [] [54, 55] [(24, pI (IntKind.i64.wrap (v17 + 1)))] fo0 (by kernel_rfl) ?_
   exact pk_loop hb19 () (zhc rfl (zhc rfl (zhc rfl (zhc rfl (zhc rfl (zhc rfl (zhc rfl (zhc rfl zhn)))))))) (zsc zph (zsc zph zsn))
  ·replace hb19 := yaq hc21 hb19
   refine pwc_exit (yav ?_)
   refine yar hb19 (fun ht => ?_)
   refine yau rfl ?_
   exact pk_mid ((), l16) (zhc rfl (zhc rfl (zhc rfl (zhc rfl (zhc rfl (zhc rfl (zhc rfl zhn))))))) (zsc zph (zsc zph zsn)) ht.symm
 ·rintro ⟨_, l18⟩ τ hz; (try dsimp only at hz); subst q20; (try dsimp only at h); dsimp only [pupds]
  refine yaa ?_
  refine yac h ?_; clear h; intro x24 hx24 h
  refine yaf ?_
  refine yam 9 [1] [63, 64, 65, 66, 67, 68, 62] [(69, .agg [pS x24.1.Code, pI x24.1.Price, pB x24.1.Obtained, pL eS x24.1.Processes, pL TInput.enc x24.1.Inputs]), (70, pL TOriginClaim.enc x24.2)] (focl 5 (cumulation_CaseOf_ok hx24) fo0) (by kernel_rfl) ?_
  refine yay rfl rfl rfl (pl_alloc (cs := [pS ByteArray.empty, pI 0, pB false, pN, pN]) rfl rfl rfl rfl (fun b25 => ?_))
  refine pwl_l0 rfl rfl (yaw (vs := [pS x24.1.Code, pI x24.1.Price, pB x24.1.Obtained, pL eS x24.1.Processes, pL TInput.enc x24.1.Inputs]) rfl rfl rfl rfl rfl zuh (zlc (zlc (zlc (zlc (zlc zln))))) ?_)
  refine yas [] [26] [] fo0 (by kernel_rfl) ?_
  refine yab (yaa ?_)
  refine yac h ?_; clear h; intro x26 hx26 h
  refine yaf ?_
  refine yam 9 [2] [72, 73, 74, 75, 76, 77, 71] [(78, .agg [pS x26.1.Code, pI x26.1.Price, pB x26.1.Obtained, pL eS x26.1.Processes, pL TInput.enc x26.1.Inputs]), (79, pL TOriginClaim.enc x26.2)] (focl 5 (cumulation_CaseOf_ok hx26) fo0) (by kernel_rfl) ?_
  refine yay rfl rfl rfl (pl_alloc (cs := [pS ByteArray.empty, pI 0, pB false, pN, pN]) rfl rfl rfl rfl (fun b27 => ?_))
  refine pwl_l0 rfl rfl (yaw (vs := [pS x26.1.Code, pI x26.1.Price, pB x26.1.Obtained, pL eS x26.1.Processes, pL TInput.enc x26.1.Inputs]) rfl rfl rfl rfl rfl zuh (zlc (zlc (zlc (zlc (zlc zln))))) ?_)
  refine yas [] [28] [] fo0 (by kernel_rfl) ?_
  refine yab (yaa (yaa ?_))
  refine yad [1] [80, 81] [(82, pB (decide (x24.1.Code = (⟨#[]⟩ : ByteArray))))] fo0 (by kernel_rfl) ?_
  refine yab ?_
  refine yah rfl (fun hc28 => ?_) (fun hc28 => ?_)
  ·replace h := yap hc28 h
   refine yaa ?_
   refine yac h ?_; clear h; intro x29 hx29 h
   refine yad [0] [83, 84, 85, 86, 87, 88] [(16, pB ((decide (x26.1.Code = (⟨#[]⟩ : ByteArray))) && x29))] (foclg 4 (fun hc => law14_awake_ok (gd_t hx29 hc)) fo0) (by kernel_rfl) ?_
   refine yab (yak (yai ?_))
   obtain rfl := Option.some.inj h
   exact yal (ybc (yao rfl)) zsn ⟨rfl, rfl⟩
  ·replace h := yaq hc28 h
   refine yaj (yab (yaa ?_))
   refine yac h ?_; clear h; intro x30 hx30 h
   refine yac h ?_; clear h; intro x31 hx31 h
   refine yac h ?_; clear h; intro x32 hx32 h
   refine yad [0, 1, 2, 1, 2, 0] [89, 90, 91, 92, 93, 94, 95, 96, 97, 98, 99, 100, 101, 102, 103, 104, 105, 106, 107] [(16, pB (((decide (x26.1.Code = x24.1.Code)) && ((!x30) || x31)) && x32))] (foclg 8 (fun hc => rule_Holds_ok (gd_t hx30 hc)) (foclg 13 (fun hc => rule_Holds_ok (gd_t hx31 hc)) (foclg 17 (fun hc => law14_awake_ok (gd_t hx32 hc)) fo0))) (by kernel_rfl) ?_
   refine yab (yak ?_)
   obtain rfl := Option.some.inj h
   exact yal (ybc (yao rfl)) zsn ⟨rfl, rfl⟩
end SX
end Go.Proofs.YtiijbkaiipjpkaaGreatDoor
set_option maxRecDepth 100000
namespace Go.Proofs.YtiijbkaiipjpkaaGreatDoor
namespace SX
open Go
theorem loopF_run {S T : Type} {body : S → Option (S ⊕ T)} (P : S → Prop) (μ : S → Nat) (Q : T → Prop) (step : ∀ s, P s → (∃ s', body s = some (.inl s') ∧ P s' ∧ μ s' < μ s) ∨ ∃ t, body s = some (.inr t) ∧ Q t) : ∀ (N : Nat) (s : S), P s → μ s < N → ∃ t, loopF body N s = some t ∧ Q t := by
 intro N
 induction N with
 | zero => intro s _ h; exact absurd h (Nat.not_lt_zero _)
 | succ N ih =>
  intro s hp hm
  rw [loopF_succ]
  rcases step s hp with ⟨s', h1, h2, h3⟩ | ⟨t, h1, h2⟩
  ·rw [h1]; exact ih s' h2 (by omega)
  ·rw [h1]; exact ⟨t, rfl, h2⟩
def ctry (s : ByteArray) : Bool := match s.data.toList with | [a, b] => decide (65 ≤ (a.toNat : Int)) && decide ((a.toNat : Int) ≤ 90) && decide (65 ≤ (b.toNat : Int)) && decide ((b.toNat : Int) ≤ 90) | _ => false
theorem size_list (s : ByteArray) : s.size = s.data.toList.length := by rw [Array.length_toList]; rfl
def letter (c : UInt8) : Bool := decide (97 ≤ c.toNat) && decide (c.toNat ≤ 122)
def wordB (s : ByteArray) : Bool := decide (1 ≤ s.size) && decide (s.size ≤ 12) && s.data.toList.all letter
theorem prog_word (s : ByteArray) (hs : s.size ≤ 140737488355328) : goods_isWord s = some (wordB s) := by
 unfold goods_isWord wordB
 have i1 : decide ((s.size : Int) < 1) = !decide (1 ≤ s.size) := by rw [← decide_not]; exact decide_eq_decide.2 (by omega)
 have i2 : decide ((12 : Int) < (s.size : Int)) = !decide (s.size ≤ 12) := by rw [← decide_not]; exact decide_eq_decide.2 (by omega)
 rw [i1, i2]
 cases h1 : decide (1 ≤ s.size)
 ·rfl
 cases h2 : decide (s.size ≤ 12)
 ·rfl
 simp only [Bool.not_true, Bool.or_self, cond_false, Bool.true_and]
 have key : ∀ n pos N, s.size - pos = n → pos ≤ s.size → n < N → loopF (isWord_body s) N pos = some ((s.data.toList.drop pos).all letter) := by
  intro n
  induction n with
  | zero =>
   intro pos N hn hp hN
   obtain ⟨N, rfl⟩ : ∃ M, N = M + 1 := ⟨N - 1, by omega⟩
   have : Nat.blt pos s.size = false := by cases hb : Nat.blt pos s.size; rfl; simp [Nat.blt] at hb; omega
   rw [loopF_succ, isWord_body, this]
   rw [List.drop_of_length_le (by rw [← size_list]; omega)]; rfl
  | succ n ih =>
   intro pos N hn hp hN
   obtain ⟨N, rfl⟩ : ∃ M, N = M + 1 := ⟨N - 1, by omega⟩
   have hlt : pos < s.size := by omega
   have hb : Nat.blt pos s.size = true := by simp [Nat.blt]; omega
   have hlt2 : pos < s.data.toList.length := by rw [← size_list]; exact hlt
   have hget : s[pos] = s.data.toList[pos] := by
    rw [Array.getElem_toList]; rfl
   rw [loopF_succ, isWord_body, hb, List.drop_eq_getElem_cons hlt2, List.all_cons, ← hget]
   by_cases ha : (s[pos]'hlt).toNat < 128
   ·rw [decode_ascii s pos hlt ha]
    simp only [cond_true, letter]
    by_cases h1 : (s[pos]'hlt).toNat < 97
    ·rw [show decide (((s[pos]'hlt).toNat : Int) < 97) = true from decide_eq_true (by omega), show decide (97 ≤ (s[pos]'hlt).toNat) = false from decide_eq_false (by omega)]; rfl
    ·by_cases h2 : 122 < (s[pos]'hlt).toNat
     ·rw [show decide ((122 : Int) < ((s[pos]'hlt).toNat : Int)) = true from decide_eq_true (by omega), show decide ((s[pos]'hlt).toNat ≤ 122) = false from decide_eq_false (by omega), Bool.or_true, Bool.and_false]; rfl
     ·rw [decide_eq_false (by omega), decide_eq_false (by omega), decide_eq_true (Nat.not_lt.1 h1), decide_eq_true (Nat.not_lt.1 h2)]
      exact ih (pos + 1) N (by omega) (by omega) (by omega)
   ·have hh := decode_high s pos hlt (by omega)
    have h122 : ¬ (s[pos]'hlt).toNat ≤ 122 := by omega
    have : decide (122 < ((Utf8.decode s pos).1 : Int)) = true := decide_eq_true (by omega)
    simp [this, letter, h122]
 have := key s.size 0 FUEL (by omega) (by omega) (fuel_big (by omega))
 rw [this, List.drop_zero]
def ascB (lt : ByteArray → ByteArray → Bool) : List ByteArray → Bool
 | [] => true
 | [_] => true
 | a :: b :: l => lt a b && ascB lt (b :: l)
def okAt (p : ByteArray → Bool) (l : List ByteArray) (k : Nat) (x : ByteArray) : Bool := p x && (!decide (0 < k) || ltS (l.getD (k - 1) x) x)
theorem okAt_all (p : ByteArray → Bool) (l : List ByteArray) : (∀ i x, l[i]? = some x → okAt p l i x = true) ↔ (l.all p && ascB ltS l) = true := by
 have key : ∀ (l : List ByteArray), (∀ i, (h : i + 1 < l.length) → ltS l[i] l[i+1] = true) ↔ ascB ltS l = true := by
  intro l
  induction l with
  | nil => simp [ascB]
  | cons a l ih =>
   cases l with
   | nil => simp [ascB]
   | cons b l =>
    rw [ascB, Bool.and_eq_true, ← ih]
    constructor
    ·intro h; exact ⟨h 0 (by simp), fun i hi => h (i + 1) (by simpa using hi)⟩
    ·rintro ⟨h1, h2⟩ i hi
     cases i with
     | zero => exact h1
     | succ i => exact h2 i (by simpa using hi)
 rw [Bool.and_eq_true, ← key, List.all_eq_true]
 constructor
 ·intro h
  refine ⟨fun x hx => ?_, fun i hi => ?_⟩
  ·obtain ⟨i, hi, rfl⟩ := List.getElem_of_mem hx
   have := h i _ (List.getElem?_eq_getElem hi)
   simp only [okAt, Bool.and_eq_true] at this
   exact this.1
  ·have := h (i + 1) _ (List.getElem?_eq_getElem hi)
   simp only [okAt, Bool.and_eq_true, Nat.zero_lt_succ, decide_true, Bool.not_true, Bool.false_or, Nat.add_sub_cancel] at this
   rw [getD_in (by omega)] at this
   exact this.2
 ·rintro ⟨h1, h2⟩ i x hx
  obtain ⟨hi, rfl⟩ := List.getElem?_eq_some_iff.1 hx
  simp only [okAt, h1 _ (List.getElem_mem hi), Bool.true_and]
  by_cases h0 : 0 < i
  ·rw [decide_eq_true h0, Bool.not_true, Bool.false_or, getD_in (by omega)]
   obtain ⟨j, rfl⟩ : ∃ j, i = j + 1 := ⟨i - 1, by omega⟩
   exact h2 j hi
  ·simp [h0]
theorem findS_bad {T : Type} (p : ByteArray → Bool) (l : List ByteArray) (t : T) : findS (fun k x => cond (okAt p l k x) none (some t)) l 0 = cond (l.all p && ascB ltS l) none (some t) := by
 have hn := findS_none (g := fun k x => cond (okAt p l k x) none (some t)) (l := l) (k := 0)
 cases h : (l.all p && ascB ltS l)
 ·cases hf : findS (fun k x => cond (okAt p l k x) none (some t)) l 0 with
  | none =>
   exfalso
   have : (l.all p && ascB ltS l) = true := by
    rw [← okAt_all]
    intro i x hx
    have := hn.1 hf i x hx
    rw [Nat.zero_add] at this
    cases hk : okAt p l i x
    ·rw [hk] at this; cases this
    ·rfl
   rw [h] at this; cases this
  | some u =>
   have : ∀ (m : List ByteArray) (k : Nat) (u : T), findS (fun k x => cond (okAt p l k x) none (some t)) m k = some u → u = t := by
    intro m
    induction m with
    | nil => intro k u h; cases h
    | cons x m ih =>
     intro k u h
     rw [findS] at h
     cases hk : okAt p l k x
     ·rw [hk] at h; injection h with h; exact h.symm
     ·rw [hk] at h; exact ih _ _ h
   rw [this _ _ _ hf]; rfl
 ·rw [cond_true, hn]
  intro i x hx
  rw [Nat.zero_add, (okAt_all p l).2 h i x hx]; rfl
def wordsB (l : List ByteArray) : Bool := decide (l.length ≤ 8) && (l.all wordB && ascB ltS l)
def StrsOk (l : List ByteArray) : Prop := l.length ≤ 140737488355328 ∧ ∀ s ∈ l, s.size ≤ 140737488355328
theorem prog_words (l : List ByteArray) (hl : StrsOk l) : goods_ValidWords l = some (wordsB l) := by
 obtain ⟨hl, hs⟩ := hl
 unfold goods_ValidWords wordsB
 have i2 : decide ((8 : Int) < (l.length : Int)) = !decide (l.length ≤ 8) := by rw [← decide_not]; exact decide_eq_decide.2 (by omega)
 rw [i2]
 cases decide (l.length ≤ 8)
 ·rfl
 simp only [Bool.not_true, cond_false, Bool.true_and]
 refine (find_loop (l := l) (by omega) (fun k x => cond (okAt wordB l k x) none (some (.inr false))) (.inl ()) (fun k hk => ?_) (by simp only [dnlt, cond_false])).trans ?_
 ·have h62 : l.length ≤ 4611686018427387904 := by omega
  simp only [dlt hk, cond_true, idx_nat hk, Option.bind_some, prog_word _ (hs _ (List.getElem_mem hk)), d0k, wnext hk h62, okAt]
  cases hw : wordB l[k]
  ·rfl
  ·by_cases h0 : 0 < k
   ·simp only [h0, decide_true, Bool.not_true, Bool.not_false, Bool.and_true, Bool.true_and, Bool.false_or, gd_tt, idx_prev h0 hk h62, Option.bind_some, getD_in (show k - 1 < l.length by omega), ltS, str_tot]
    cases Op.bytesLess (l[k-1]'(by omega)).toList l[k].toList <;> rfl
   ·simp only [h0, decide_false, Bool.and_false, gd_ff, Option.bind_some, Bool.not_true, Bool.false_or, Bool.false_and, cond_false, Bool.not_false, Bool.true_and, Bool.true_or, Bool.or_false]; rfl
 ·rw [findS_bad]
  cases (l.all wordB && ascB ltS l) <;> rfl
end SX
end Go.Proofs.YtiijbkaiipjpkaaGreatDoor
set_option maxRecDepth 100000
namespace Go.Proofs.YtiijbkaiipjpkaaGreatDoor
namespace SX
open Go
mutual
def dep : TRule → Nat
 | ⟨_, _, _, _, _, _, l⟩ => 1 + deps l
def deps : List TRule → Nat
 | [] => 0
 | a :: l => max (dep a) (deps l)
end
mutual
def cnt : TRule → Nat
 | ⟨_, _, _, _, _, _, l⟩ => 1 + cnts l
def cnts : List TRule → Nat
 | [] => 0
 | a :: l => cnt a + cnts l
end
theorem dep_eq (r : TRule) : dep r = 1 + deps r.Args := by cases r; rw [dep]
theorem cnt_eq (r : TRule) : cnt r = 1 + cnts r.Args := by cases r; rw [cnt]
theorem dep_mem : ∀ {l : List TRule} {a : TRule}, a ∈ l → dep a ≤ deps l
 | b :: l, a, h => by
  rw [deps]
  rcases List.mem_cons.1 h with rfl | h
  ·omega
  ·have := dep_mem h; omega
theorem dep_arg {r a : TRule} (h : a ∈ r.Args) : dep a < dep r := by rw [dep_eq r]; have := dep_mem h; omega
mutual
theorem dep_cnt : ∀ r : TRule, dep r ≤ cnt r
 | ⟨_, _, _, _, _, _, l⟩ => by rw [dep, cnt]; have := deps_cnts l; omega
theorem deps_cnts : ∀ l : List TRule, deps l ≤ cnts l
 | [] => by rw [deps, cnts]; exact Nat.le_refl _
 | a :: l => by rw [deps, cnts]; have h1 := dep_cnt a; have h2 := deps_cnts l; omega
end
inductive ROk : TRule → Prop
 | mk (r : TRule) (h1 : StrsOk r.Except) (h2 : r.Name.size ≤ 140737488355328) (h3 : r.Args.length ≤ 140737488355328) (h4 : ∀ a ∈ r.Args, ROk a) : ROk r
theorem ROk.ex {r : TRule} (h : ROk r) : StrsOk r.Except := by cases h; assumption
theorem ROk.nm {r : TRule} (h : ROk r) : r.Name.size ≤ 140737488355328 := by cases h; assumption
theorem ROk.len {r : TRule} (h : ROk r) : r.Args.length ≤ 140737488355328 := by cases h; assumption
theorem ROk.arg {r : TRule} (h : ROk r) {a : TRule} (ha : a ∈ r.Args) : ROk a := by cases h with | mk _ _ _ _ h4 => exact h4 a ha
theorem nodes_F (n : Nat) : ∀ (r : TRule) (lim : Nat), ROk r → dep r ≤ n → 1 ≤ lim → lim ≤ 1000 → rule_nodes_F n r (lim : Int) = some ((min (cnt r) lim : Nat) : Int) := by
 induction n with
 | zero => intro r lim _ hd; rw [dep_eq] at hd; omega
 | succ n ih =>
  intro r lim hr hd h1 h2
  have hl := hr.len
  show rule_nodes_B (rule_nodes_F n) r (lim : Int) = _
  unfold rule_nodes_B
  refine (run_loop (l := r.Args) (by omega) (fun i (a : Nat) => ((a : Int), i)) (fun _ x a => cond (Nat.ble lim a) (.inr ()) (.inl (min (a + cnt x) lim))) (fun (a : Nat) => .inl (a : Int)) (fun (_ : Unit) => .inr (lim : Int)) (fun _ a => a ≤ lim) 1 h1 (fun k hk a ha => ⟨?_, fun a' h => ?_⟩) (fun a ha => ?_)).trans ?_
  ·simp only [dlt hk, cond_true, idx_nat hk, Option.bind_some]
   cases hb : Nat.ble lim a
   ·have hlt : a < lim := by rcases Nat.lt_or_ge a lim with h | h; exact h; rw [Nat.ble_eq_true_of_le h] at hb; cases hb
    rw [show decide ((lim : Int) ≤ (a : Int)) = false from decide_eq_false (by omega), i64s (by omega) (by omega), show (lim : Int) - (a : Int) = ((lim - a : Nat) : Int) by omega,
     ih _ (lim - a) (hr.arg (List.getElem_mem hk)) (by have := dep_arg (List.getElem_mem hk); omega) (by omega) (by omega)]
    simp only [cond_false, Option.bind_some, wnext hk (show r.Args.length ≤ 4611686018427387904 by omega), outc]
    rw [i64s (by omega) (by omega), show (a : Int) + ((min (cnt r.Args[k]) (lim - a) : Nat) : Int) = ((min (a + cnt r.Args[k]) lim : Nat) : Int) by omega]
   ·have hle := Nat.le_of_ble_eq_true hb
    rw [show decide ((lim : Int) ≤ (a : Int)) = true from decide_eq_true (by omega)]; rfl
  ·cases hb : Nat.ble lim a
   ·rw [hb] at h; injection h with h; omega
   ·rw [hb] at h; cases h
  ·simp only [dnlt, cond_false]
  ·have key : ∀ (l : List TRule) (i a : Nat), a ≤ lim → outf (fun (a : Nat) => (a : Int)) (fun (_ : Unit) => (lim : Int)) (run (fun _ x a => cond (Nat.ble lim a) (.inr ()) (.inl (min (a + cnt x) lim))) l i a) = ((min (a + cnts l) lim : Nat) : Int) := by
    intro l
    induction l with
    | nil => intro i a ha; rw [cnts]; show (a : Int) = _; omega
    | cons x l ihl =>
     intro i a ha
     rw [run_cons, cnts]
     cases hb : Nat.ble lim a
     ·exact (ihl _ _ (by omega)).trans (by omega)
     ·have hle := Nat.le_of_ble_eq_true hb
      show (lim : Int) = _; omega
   have k2 : ∀ (o : Nat ⊕ Unit), (match (outf (fun (a : Nat) => .inl (a : Int)) (fun (_ : Unit) => .inr (lim : Int)) o : Int ⊕ Int) with | .inl v4 => some v4 | .inr e => some e) = some (outf (fun (a : Nat) => (a : Int)) (fun (_ : Unit) => (lim : Int)) o) := fun o => by cases o <;> rfl
   rw [cnt_eq]
   exact (k2 _).trans (congrArg some (key _ _ _ h1))
def lev (s : ByteArray) : Bool := !(level s == 0)
def codesB (l : List ByteArray) : Bool := decide (l.length ≤ 6) && (l.all lev && ascB ltS l)
def mil (n : Int) : Bool := decide (0 ≤ n) && decide (n ≤ 1000000)
def plainB (r : TRule) : Bool := (r.Kind == 2 || (r.Digits == 0 && r.Except.isEmpty && r.Tolerance == 0)) && (r.Kind == 3 || r.Limit == 0) && (r.Kind == 4 || decide (r.Name = ⟨#[]⟩)) && (r.Kind == 5 || r.Kind == 6 || r.Args.isEmpty)
def leafB (r : TRule) : Bool := cond (r.Kind == 1) true (cond (r.Kind == 2) ((r.Digits == 2 || r.Digits == 4 || r.Digits == 6) && codesB r.Except && mil r.Tolerance) (cond (r.Kind == 3) (mil r.Limit) (cond (r.Kind == 4) (wordB r.Name) false)))
mutual
def ruleB : TRule → Bool
 | ⟨k, d, e, t, m, n, l⟩ => plainB ⟨k, d, e, t, m, n, l⟩ && cond (k == 5 || k == 6) (decide (2 ≤ l.length) && decide (l.length ≤ 6) && rulesB k l) (leafB ⟨k, d, e, t, m, n, l⟩)
def rulesB (k : Int) : List TRule → Bool
 | [] => true
 | a :: l => (!(a.Kind == k) && ruleB a) && rulesB k l
end
theorem rulesB_all (k : Int) : ∀ l : List TRule, rulesB k l = l.all fun a => !(a.Kind == k) && ruleB a
 | [] => by rw [rulesB]; rfl
 | a :: l => by rw [rulesB, rulesB_all k l]; rfl
theorem ruleB_eq (r : TRule) : ruleB r = (plainB r && cond (r.Kind == 5 || r.Kind == 6) (decide (2 ≤ r.Args.length) && decide (r.Args.length ≤ 6) && r.Args.all fun a => !(a.Kind == r.Kind) && ruleB a) (leafB r)) := by
 cases r; rw [ruleB, rulesB_all]
theorem len0 {α : Type} (l : List α) : ((l.length : Int) == 0) = l.isEmpty := by cases l <;> rfl
theorem len0' {α : Type} (l : List α) : decide (0 < (l.length : Int)) = !l.isEmpty := by cases l with
 | nil => rfl
 | cons a l => exact decide_eq_true (by rw [List.length_cons]; omega)
theorem prog_plain (r : TRule) : rule_plain r = some (plainB r) := by
 unfold rule_plain plainB
 rw [len0, len0']
 simp only [bne]
 cases (r.Kind == 2) <;> cases (r.Digits == 0) <;> cases r.Except.isEmpty <;> cases (r.Tolerance == 0) <;> cases (r.Kind == 3) <;> cases (r.Limit == 0) <;> cases (r.Kind == 4) <;> cases decide (r.Name = ⟨#[]⟩) <;> rfl
theorem prog_codes (l : List ByteArray) (hl : StrsOk l) : rule_validCodes l = some (codesB l) := by
 obtain ⟨hl, hs⟩ := hl
 unfold rule_validCodes codesB
 have i2 : decide ((6 : Int) < (l.length : Int)) = !decide (l.length ≤ 6) := by rw [← decide_not]; exact decide_eq_decide.2 (by omega)
 rw [i2]
 cases decide (l.length ≤ 6)
 ·rfl
 simp only [Bool.not_true, cond_false, Bool.true_and]
 refine (find_loop (l := l) (by omega) (fun k x => cond (okAt lev l k x) none (some (.inr false))) (.inl ()) (fun k hk => ?_) (by simp only [dnlt, cond_false])).trans ?_
 ·have h62 : l.length ≤ 4611686018427387904 := by omega
  simp only [dlt hk, cond_true, idx_nat hk, Option.bind_some, show ∀ s, nomenclature_Level s = some (level s) from fun _ => rfl, d0k, wnext hk h62, okAt, lev]
  cases hw : (level l[k] == 0)
  ·by_cases h0 : 0 < k
   ·simp only [h0, decide_true, Bool.not_true, Bool.not_false, Bool.and_true, Bool.true_and, Bool.false_or, gd_tt, idx_prev h0 hk h62, Option.bind_some, getD_in (show k - 1 < l.length by omega), ltS, str_tot]
    cases Op.bytesLess (l[k-1]'(by omega)).toList l[k].toList <;> rfl
   ·simp only [h0, decide_false, Bool.and_false, gd_ff, Option.bind_some, Bool.not_true, Bool.false_or, Bool.false_and, cond_false, Bool.not_false, Bool.true_and, Bool.true_or, Bool.or_false]; rfl
  ·rfl
 ·rw [findS_bad]
  cases (l.all lev && ascB ltS l) <;> rfl
end SX
end Go.Proofs.YtiijbkaiipjpkaaGreatDoor
set_option maxRecDepth 100000
namespace Go.Proofs.YtiijbkaiipjpkaaGreatDoor
namespace SX
open Go
theorem one_word (s : ByteArray) (hs : s.size ≤ 140737488355328) : goods_ValidWords [s] = some (wordB s) := by
 rw [prog_words [s] ⟨by simp, by simpa using hs⟩]
 simp [wordsB, ascB]
theorem valid_F (n : Nat) : ∀ (r : TRule), ROk r → dep r ≤ n → rule_valid_F n r = some (ruleB r) := by
 induction n with
 | zero => intro r _ hd; rw [dep_eq] at hd; omega
 | succ n ih =>
  intro r hr hd
  have hl := hr.len
  show rule_valid_B (rule_valid_F n) r = _
  unfold rule_valid_B
  rw [prog_plain, ruleB_eq, Option.bind_some]
  cases plainB r
  ·rfl
  simp only [Bool.not_true, cond_false, Bool.true_and]
  cases e1 : (r.Kind == 1)
  rotate_left
  ·have := eq_of_beq e1
   simp only [leafB, e1, this]; rfl
  cases e2 : (r.Kind == 2)
  rotate_left
  ·have := eq_of_beq e2
   simp only [leafB, e1, e2, this, cond_true, cond_false]
   rw [prog_codes _ hr.ex]
   show _ = some (_ && codesB r.Except && mil r.Tolerance)
   cases (r.Digits == 2 || r.Digits == 4 || r.Digits == 6)
   ·rfl
   ·simp only [gd_tt, Bool.true_and, Option.bind_some]
    cases codesB r.Except <;> rfl
  cases e3 : (r.Kind == 3)
  rotate_left
  ·have := eq_of_beq e3
   simp only [leafB, e1, e2, e3, this, cond_true, cond_false]; rfl
  cases e4 : (r.Kind == 4)
  rotate_left
  ·have := eq_of_beq e4
   simp only [leafB, e1, e2, e3, e4, this, cond_true, cond_false]
   rw [one_word _ hr.nm]; rfl
  simp only [leafB, e1, e2, e3, e4, cond_false]
  have e56 : (cond (r.Kind == 5) (some (r.Kind == 5)) (some (r.Kind == 6)) : Option Bool) = some (r.Kind == 5 || r.Kind == 6) := by cases (r.Kind == 5) <;> rfl
  rw [e56, Option.bind_some]
  cases (r.Kind == 5 || r.Kind == 6)
  ·rfl
  simp only [cond_true]
  have i1 : decide ((r.Args.length : Int) < 2) = !decide (2 ≤ r.Args.length) := by rw [← decide_not]; exact decide_eq_decide.2 (by omega)
  have i2 : decide ((6 : Int) < (r.Args.length : Int)) = !decide (r.Args.length ≤ 6) := by rw [← decide_not]; exact decide_eq_decide.2 (by omega)
  rw [i1, i2]
  cases decide (2 ≤ r.Args.length)
  ·rfl
  cases decide (r.Args.length ≤ 6)
  ·rfl
  simp only [Bool.not_true, Bool.or_self, cond_false, Bool.true_and]
  refine (find_loop (l := r.Args) (by omega) (fun _ a => cond (!(a.Kind == r.Kind) && ruleB a) none (some (.inr false))) (.inl ()) (fun k hk => ?_) (by simp only [dnlt, cond_false])).trans ?_
  ·simp only [dlt hk, cond_true, idx_nat hk, Option.bind_some, wnext hk (show r.Args.length ≤ 4611686018427387904 by omega)]
   have h2 := ih _ (hr.arg (List.getElem_mem hk)) (by have := dep_arg (List.getElem_mem hk); omega)
   cases (r.Args[k].Kind == r.Kind)
   ·simp only [Bool.not_false, gd_tt, h2, Option.bind_some, Bool.true_and, Bool.false_or]
    cases ruleB r.Args[k] <;> rfl
   ·rfl
  ·rw [findS_all]
   cases (r.Args.all fun a => !(a.Kind == r.Kind) && ruleB a) <;> rfl
def ruleE (r : TRule) : Int := cond (decide (cnt r ≤ 32)) (cond (ruleB r) 0 1) 8
theorem prog_rule (r : TRule) (hr : ROk r) (hd : dep r ≤ 1000) : rule_Validate r = some (ruleE r) := by
 unfold rule_Validate rule_nodes rule_valid ruleE
 have hf : FUEL = 1267650600228229401496703205376 := rfl
 have h1 := nodes_F FUEL r 33 hr (by rw [hf]; omega) (by omega) (by omega)
 rw [show ((33 : Nat) : Int) = 33 from rfl] at h1
 rw [h1, Option.bind_some, valid_F FUEL r hr (by rw [hf]; omega)]
 by_cases h : cnt r ≤ 32
 ·rw [decide_eq_false (by omega), decide_eq_true h]
  cases ruleB r <;> rfl
 ·rw [decide_eq_true (by omega), decide_eq_false h]; rfl
theorem ruleE_zero (r : TRule) : ruleE r = 0 ↔ cnt r ≤ 32 ∧ ruleB r = true := by
 unfold ruleE
 by_cases h : cnt r ≤ 32
 ·rw [decide_eq_true h]; cases ruleB r <;> simp [h]
 ·rw [decide_eq_false h]; simp [h]
end SX
end Go.Proofs.YtiijbkaiipjpkaaGreatDoor
set_option maxRecDepth 100000
namespace Go.Proofs.YtiijbkaiipjpkaaGreatDoor
namespace SX
open Go
structure RFOk (x : TRuleFor) : Prop where
 pre : x.Prefix.size ≤ 140737488355328
 rule : ROk x.Rule
 deep : dep x.Rule ≤ 1000
structure AOk (a : TAgreement) : Prop where
 par : StrsOk a.Parties
 len : a.Rules.length ≤ 140737488355328
 rules : ∀ x ∈ a.Rules, RFOk x
structure ASOk (l : List TAgreement) : Prop where
 len : l.length ≤ 140737488355328
 all : ∀ a ∈ l, AOk a
def partiesB (l : List ByteArray) : Bool := l.all ctry && ascB ltS l
def gRule (l : List TRuleFor) (k : Nat) (x : TRuleFor) : Option Int := cond (lev x.Prefix) (cond (decide (0 < k) && !ltS (l.getD (k - 1) x).Prefix x.Prefix) (some 9) (cond (ruleE x.Rule == 0) none (some (ruleE x.Rule)))) (some 1)
def rulesE (l : List TRuleFor) : Int := (findS (gRule l) l 0).getD 0
def gAgr (l : List TAgreement) (k : Nat) (a : TAgreement) : Option Int :=
 cond (decide (a.ID < 1) || decide (1000 < a.ID) || decide (a.Kind < 1) || decide (3 < a.Kind)) (some 2) (cond (decide (0 < k) && decide (a.ID ≤ (l.getD (k - 1) a).ID)) (some 9) (cond (decide (12 < a.Parties.length) || decide (12 < a.Rules.length)) (some 8)
  (cond (partiesB a.Parties) (cond (rulesE a.Rules == 0) none (some (rulesE a.Rules))) (some 1))))
def agrE (l : List TAgreement) : Int := cond (decide (l.length ≤ 8)) ((findS (gAgr l) l 0).getD 0) 8
end SX
end Go.Proofs.YtiijbkaiipjpkaaGreatDoor
set_option maxRecDepth 100000
namespace Go.Proofs.YtiijbkaiipjpkaaGreatDoor
namespace SX
open Go
def Y {α : Type} (x : Option α) (P : α → Prop) : Prop := ∃ a, x = some a ∧ P a
section
variable {α β S T : Type} {x y : Option α} {P P' : α → Prop} {Q : β → Prop} {f : α → Option β} {a : α} {c : Bool}
theorem Y.bind (h : Y x P) (k : ∀ a, P a → Y (f a) Q) : Y (x.bind f) Q := by
 obtain ⟨a, h1, h2⟩ := h; rw [h1]; exact k a h2
theorem Y.ret (h : P a) : Y (some a) P := ⟨a, rfl, h⟩
theorem Y.mono (h : Y x P) (k : ∀ a, P a → P' a) : Y x P' := by obtain ⟨a, h1, h2⟩ := h; exact ⟨a, h1, k a h2⟩
theorem Y.cond (h : c = true → Y x P) (k : c = false → Y y P) : Y (cond c x y) P := by cases c; exact k rfl; exact h rfl
theorem Y.eq {r : α} (h : x = some r) (k : Y (f r) Q) : Y (x.bind f) Q := by rw [h]; exact k
theorem Y.loop {body : S → Option (S ⊕ T)} {R : T → Prop} {s : S} (I : S → Prop) (μ : S → Nat) (h0 : I s) (hm : μ s ≤ 1267650600228229401496703205000) (step : ∀ s, I s → Y (body s) (fun o => match o with | .inl s' => I s' ∧ μ s' < μ s | .inr t => R t)) : Y (loopF body FUEL s) R := by
 obtain ⟨t, h1, h2⟩ := loopF_run (body := body) I μ R (fun s hs => by
  obtain ⟨o, k1, k2⟩ := step s hs
  cases o with
  | inl s' => exact .inl ⟨s', k1, k2⟩
  | inr t => exact .inr ⟨t, k1, k2⟩) FUEL s h0 (fuel_big hm)
 exact ⟨t, h1, h2⟩
theorem Y.idx {xs : List α} {i : Int} {n : Nat} (h : i = (n : Int)) (hn : n < xs.length) (k : Y (f xs[n]) Q) : Y ((idx xs i).bind f) Q := by subst h; rw [idx_nat hn]; exact k
theorem Y.gdp [Inhabited α] {z : Option (α × β)} {m : β} {R : α × β → Prop} (h : c = true → Y z R) (k : c = false → R (default, m)) : Y (gdp c z m) R := by
 cases c
 ·exact ⟨_, rfl, k rfl⟩
 ·exact h rfl
end
theorem within_ok (a n : Int) (h1 : 1 ≤ n) (h2 : n ≤ 4611686018427387904) : ∃ r, made_Within a n = some r ∧ 0 ≤ r ∧ r < n := by
 have hl := Int.tmod_lt_of_pos a (show 0 < n by omega)
 have hl2 := Int.tmod_lt_of_pos (-a) (show 0 < n by omega)
 rw [Int.neg_tmod] at hl2
 unfold made_Within nz lb
 rw [if_neg (by omega), i64s (by omega) (by omega)]
 exact ⟨_, rfl, Int.tmod_nonneg _ (by omega), Int.tmod_lt_of_pos _ (by omega)⟩
def SOK (p : Tmade_Source) : Prop := 0 ≤ p.I ∧ p.I ≤ p.L.length ∧ p.L.length ≤ 1000000000000000
theorem next_ok {p : Tmade_Source} (hp : SOK p) (n : Int) (h1 : 1 ≤ n) (h2 : n ≤ 4611686018427387904) : ∃ r q, made_Source_Next p n = some (r, q) ∧ 0 ≤ r ∧ r < n ∧ SOK q := by
 obtain ⟨a1, a2, a3⟩ := hp
 unfold made_Source_Next
 by_cases h : (p.L.length : Int) ≤ p.I
 ·rw [decide_eq_true h]; exact ⟨_, _, rfl, by omega, by omega, a1, a2, a3⟩
 ·rw [decide_eq_false h, i64s (r := p.I + 1) (by omega) (by omega), i64s (by omega) (by omega)]
  simp only [cond_false]
  have e : idx p.L (p.I + 1 - 1) = some (p.L[p.I.toNat]'(by omega)) := by
   unfold idx; rw [if_pos (by omega)]
   have : (p.I + 1 - 1).toNat = p.I.toNat := by omega
   rw [this]; exact List.getElem?_eq_getElem _
  rw [bnd e]
  obtain ⟨r, h3, h4, h5⟩ := within_ok (p.L[p.I.toNat]'(by omega)) n h1 h2
  rw [bnd h3]
  exact ⟨_, _, rfl, h4, h5, by simp only; omega, by simp only; omega, a3⟩
theorem cut_ok (l : List Int) (n : Int) (h : 0 ≤ n) (h2 : n ≤ 1000) : ∃ m, made_Cut l n = some m ∧ (m.length : Int) ≤ n := by
 unfold made_Cut
 by_cases h1 : n < (l.length : Int)
 ·rw [decide_eq_true h1]
  have e : sub l 0 n = some ((l.take n.toNat).drop 0) := by unfold sub; rw [if_pos (by omega)]; rfl
  simp only [cond_true]; rw [bnd e]; exact ⟨_, rfl, by simp; omega⟩
 ·rw [decide_eq_false h1]; exact ⟨_, rfl, by omega⟩
theorem within_Y (a n : Int) (h1 : 1 ≤ n) (h2 : n ≤ 4611686018427387904) : Y (made_Within a n) (fun r => 0 ≤ r ∧ r < n) := within_ok a n h1 h2
theorem next_Y {p : Tmade_Source} (hp : SOK p) (n : Int) (h1 : 1 ≤ n) (h2 : n ≤ 4611686018427387904) : Y (made_Source_Next p n) (fun r => 0 ≤ r.1 ∧ r.1 < n ∧ SOK r.2) := by
 obtain ⟨r, q, h3, h4, h5, h6⟩ := next_ok hp n h1 h2; exact ⟨(r, q), h3, h4, h5, h6⟩
theorem cut_Y (l : List Int) (n : Int) (h : 0 ≤ n) (h2 : n ≤ 1000) : Y (made_Cut l n) (fun m => SOK ⟨m, 0⟩) := by
 obtain ⟨m, h3, h4⟩ := cut_ok l n h h2
 exact ⟨m, h3, by dsimp only; omega, by dsimp only; omega, by dsimp only; omega⟩
theorem rate_Y {p : Tmade_Source} (hp : SOK p) : Y (made_Source_rate p) (fun r => mil r.1 = true ∧ SOK r.2) := by
 unfold made_Source_rate
 refine (next_Y hp 4 (by omega) (by omega)).bind fun a ⟨h1, h2, h3⟩ => ?_
 refine Y.cond (fun _ => ?_) (fun _ => ?_)
 ·refine (next_Y h3 101 (by omega) (by omega)).bind fun b ⟨k1, k2, k3⟩ => Y.ret ⟨?_, k3⟩
  rw [i64s (by omega) (by omega)]; simp only [mil, Bool.and_eq_true, decide_eq_true_eq]; omega
 ·refine (next_Y h3 1000001 (by omega) (by omega)).bind fun b ⟨k1, k2, k3⟩ => Y.ret ⟨?_, k3⟩
  simp only [mil, Bool.and_eq_true, decide_eq_true_eq]; omega
structure Good (r : TRule) (m : Nat) : Prop where
 ok : ROk r
 valid : ruleB r = true
 size : cnt r ≤ m
theorem strs0 : StrsOk [] := ⟨by simp, by simp⟩
theorem rok_leaf {r : TRule} (h1 : StrsOk r.Except) (h2 : r.Name.size ≤ 140737488355328) (h3 : r.Args = []) : ROk r := ⟨r, h1, h2, by rw [h3]; simp, by rw [h3]; simp⟩
theorem cnt_leaf {r : TRule} (h : r.Args = []) : cnt r = 1 := by rw [cnt_eq, h]; rfl
def bnd3 : Nat → Nat
 | 0 => 1
 | d + 1 => 1 + 3 * bnd3 d
theorem bnd3_pos (d : Nat) : 1 ≤ bnd3 d := by cases d <;> simp [bnd3]
theorem cnts_le {m : Nat} : ∀ {l : List TRule}, (∀ a ∈ l, cnt a ≤ m) → cnts l ≤ l.length * m
 | [], _ => by rw [cnts]; omega
 | a :: l, h => by
  rw [cnts, List.length_cons, Nat.add_mul, Nat.one_mul]
  have h1 := h a (by simp); have h2 := cnts_le (l := l) fun b hb => h b (by simp [hb]); omega
theorem leaf_Y {but : Int} (hb : but = 0 ∨ but = 5 ∨ but = 6) {r : TRule} {q : Tmade_Source} {m : Nat} (hm : 1 ≤ m) (hq : SOK q) (h1 : StrsOk r.Except) (h2 : r.Name.size ≤ 140737488355328) (h3 : r.Args = []) (hk : 1 ≤ r.Kind ∧ r.Kind ≤ 4) (hv : ruleB r = true) : Good r m ∧ r.Kind ≠ but ∧ SOK q :=
 ⟨⟨rok_leaf h1 h2 h3, hv, by rw [cnt_leaf h3]; exact hm⟩, by omega, hq⟩
theorem rule_step {d n : Nat} {p : Tmade_Source} {but : Int} (hp : SOK p) (hb : but = 0 ∨ but = 5 ∨ but = 6) (hn : d < n) (hd : d ≤ 10)
    (ih : ∀ d', d = d' + 1 → ∀ (q : Tmade_Source) (but' : Int), SOK q → (but' = 0 ∨ but' = 5 ∨ but' = 6) → Y (made_Source_rule_F (n - 1) q but' (d' : Int)) (fun r => Good r.1 (bnd3 d') ∧ r.1.Kind ≠ but' ∧ SOK r.2)) :
    Y (made_Source_rule_F n p but (d : Int)) (fun r => Good r.1 (bnd3 d) ∧ r.1.Kind ≠ but ∧ SOK r.2) := by
  obtain ⟨n, rfl⟩ : ∃ m, n = m + 1 := ⟨n - 1, by omega⟩
  rw [Nat.add_sub_cancel] at ih
  show Y (made_Source_rule_B (made_Source_rule_F n) p but (d : Int)) _
  unfold made_Source_rule_B
  refine (next_Y hp 8 (by omega) (by omega)).bind fun a ⟨h1, h2, h3⟩ => ?_
  refine Y.cond (fun hc => ?_) (fun hc => ?_)
  · simp only [Bool.and_eq_true, decide_eq_true_eq] at hc
    obtain ⟨d', rfl⟩ : ∃ d', d = d' + 1 := ⟨d - 1, by omega⟩
    have ih := ih d' rfl
    have hm1 : 0 ≤ Int.tmod a.1 2 := Int.tmod_nonneg _ (by omega)
    have hm2 : Int.tmod a.1 2 < 2 := Int.tmod_lt_of_pos _ (by omega)
    refine Y.bind (P := fun k => (k = 5 ∨ k = 6) ∧ k ≠ but) ?_ fun k ⟨hk, hkb⟩ => ?_
    · rw [i64s (by omega) (by omega)]
      refine Y.cond (fun hc => Y.ret ?_) (fun hc => Y.ret ?_)
      · have := eq_of_beq hc; rw [i64s (by omega) (by omega)]; omega
      · have : ¬ 5 + Int.tmod a.1 2 = but := by intro h; rw [h] at hc; simp at hc
        omega
    refine (next_Y h3 2 (by omega) (by omega)).bind fun b ⟨k1, k2, k3⟩ => ?_
    rw [i64s (r := 2 + b.1) (by omega) (by omega)]
    refine Y.bind (P := fun t : List Int × Int × List TRule => SOK ⟨t.1, t.2.1⟩ ∧ (2 ≤ t.2.2.length ∧ t.2.2.length ≤ 3) ∧ ∀ x ∈ t.2.2, Good x (bnd3 d') ∧ x.Kind ≠ k) ?_ fun t ⟨t1, t2, t3⟩ => ?_
    · refine Y.loop (fun s : Int × List Int × Int × List TRule => (0 ≤ s.1 ∧ s.1 + s.2.2.2.length = 2 + b.1) ∧ SOK ⟨s.2.1, s.2.2.1⟩ ∧ ∀ x ∈ s.2.2.2, Good x (bnd3 d') ∧ x.Kind ≠ k) (fun s => s.1.toNat) ⟨⟨by dsimp only; omega, by simp⟩, k3, by simp⟩ (by dsimp only; omega) fun s hs => ?_
      obtain ⟨v, l, i, m⟩ := s
      obtain ⟨⟨s1, s2⟩, s3, s4⟩ := hs
      dsimp only at s1 s2 s3 s4 ⊢
      refine Y.cond (fun hc => ?_) (fun hc => Y.ret ⟨s3, ?_, s4⟩)
      · have hc := of_decide_eq_true hc
        rw [i64s (by omega) (by omega), show ((d' + 1 : Nat) : Int) - 1 = (d' : Int) by omega]
        refine (ih _ k s3 (by omega)).bind fun x ⟨x1, x2, x3⟩ => ?_
        rw [app_ok (by simp; omega) (by simp; omega), Option.bind_some, i64s (by omega) (by omega)]
        refine Y.ret ⟨⟨⟨by dsimp only; omega, by simp; omega⟩, x3, fun z hz => ?_⟩, by dsimp only; omega⟩
        rcases List.mem_append.1 hz with hz | hz
        · exact s4 z hz
        · rw [List.mem_singleton.1 hz]; exact ⟨x1, x2⟩
      · have hc := of_decide_eq_false hc
        dsimp only; omega
    obtain ⟨l, i, m⟩ := t
    dsimp only at t1 t2 t3 ⊢
    refine Y.ret ⟨⟨⟨_, strs0, by simp, by dsimp only; omega, fun z hz => (t3 z hz).1.ok⟩, ?_, ?_⟩, hkb, t1⟩
    · rw [ruleB_eq]
      have e1 : (k == 5 || k == 6) = true := by rcases hk with rfl | rfl <;> rfl
      have e2 : plainB ⟨k, 0, [], 0, 0, ByteArray.empty, m⟩ = true := by rcases hk with rfl | rfl <;> rfl
      rw [e2]
      simp only [e1, cond_true, Bool.true_and, Bool.and_eq_true, decide_eq_true_eq, List.all_eq_true, Bool.not_eq_true', beq_eq_false_iff_ne, ne_eq]
      exact ⟨by omega, fun z hz => ⟨(t3 z hz).2, (t3 z hz).1.valid⟩⟩
    · rw [cnt_eq]
      have := cnts_le fun z hz => (t3 z hz).1.size
      have h3 : m.length * bnd3 d' ≤ 3 * bnd3 d' := Nat.mul_le_mul_right _ t2.2
      dsimp only [bnd3]; omega
  · have hpos := bnd3_pos d
    refine Y.bind (P := fun q : (List Int × Int) ⊕ (TRule × Tmade_Source) => match q with | .inl s => SOK ⟨s.1, s.2⟩ | .inr r => Good r.1 (bnd3 d) ∧ r.1.Kind ≠ but ∧ SOK r.2) ?_ fun q hq => ?_
    · refine Y.cond (fun _ => ?_) fun _ => Y.cond (fun _ => ?_) fun _ => Y.cond (fun _ => ?_) fun _ => Y.ret h3
      · refine (rate_Y h3).bind fun b ⟨k1, k2⟩ => Y.ret (leaf_Y hb hpos k2 strs0 (by simp) rfl ⟨by simp, by simp⟩ ?_)
        rw [ruleB_eq]; simp only [plainB, leafB, k1]; rfl
      · refine (next_Y h3 5 (by omega) (by omega)).bind fun b ⟨k1, k2, k3⟩ => ?_
        obtain ⟨j, hj⟩ : ∃ j : Nat, b.1 = (j : Int) := ⟨b.1.toNat, by omega⟩
        have hj5 : j < 5 := by omega
        refine Y.idx hj hj5 (Y.ret ?_)
        have hw : ∀ j : Nat, (h : j < 5) → wordB [(⟨#[97, 110, 100]⟩ : ByteArray), (⟨#[99, 117, 116]⟩ : ByteArray), (⟨#[111, 114]⟩ : ByteArray), (⟨#[115, 101, 119]⟩ : ByteArray), (⟨#[115, 112, 105, 110]⟩ : ByteArray)][j] = true := by
          intro j h
          match j, h with
          | 0, _ => rfl
          | 1, _ => rfl
          | 2, _ => rfl
          | 3, _ => rfl
          | 4, _ => rfl
        have hw2 := hw j hj5
        refine leaf_Y hb hpos k3 strs0 ?_ rfl ⟨by simp, by simp⟩ ?_
        · have h12 := hw2
          simp only [wordB, Bool.and_eq_true, decide_eq_true_eq] at h12
          dsimp only; omega
        · rw [ruleB_eq]; simp only [plainB, leafB, hw2]; rfl
      · refine (next_Y h3 3 (by omega) (by omega)).bind fun b ⟨k1, k2, k3⟩ => Y.cond (fun _ => Y.ret (leaf_Y hb hpos k3 strs0 (by simp) rfl ⟨by simp, by simp⟩ ?_)) fun _ => Y.ret k3
        rw [ruleB_eq]; rfl
    · cases q with
      | inr r => exact Y.ret hq
      | inl s =>
        obtain ⟨l, i⟩ := s
        dsimp only at hq ⊢
        refine (next_Y hq 3 (by omega) (by omega)).bind fun b ⟨k1, k2, k3⟩ => ?_
        refine (next_Y k3 3 (by omega) (by omega)).bind fun c ⟨c1, c2, c3⟩ => ?_
        refine Y.bind (P := fun t : List Int × Int × List ByteArray => SOK ⟨t.1, t.2.1⟩ ∧ StrsOk t.2.2 ∧ codesB t.2.2 = true) ?_ fun t ⟨t1, t2, t3⟩ => ?_
        · refine Y.cond (fun _ => ?_) fun _ => Y.ret ⟨c3, strs0, rfl⟩
          refine (next_Y c3 2 (by omega) (by omega)).bind fun e ⟨e1, e2, e3⟩ => ?_
          obtain he | he : e.1 = 0 ∨ e.1 = 1 := by omega
          · rw [he]; exact Y.ret ⟨e3, (show StrsOk [(⟨#[57, 52, 48, 49]⟩ : ByteArray), (⟨#[57, 53, 48, 50]⟩ : ByteArray)] from ⟨by decide, by decide⟩), (show codesB [(⟨#[57, 52, 48, 49]⟩ : ByteArray), (⟨#[57, 53, 48, 50]⟩ : ByteArray)] = true by kernel_rfl)⟩
          · rw [he]; exact Y.ret ⟨e3, (show StrsOk [(⟨#[57, 53, 48, 50]⟩ : ByteArray)] from ⟨by decide, by decide⟩), (show codesB [(⟨#[57, 53, 48, 50]⟩ : ByteArray)] = true by kernel_rfl)⟩
        obtain ⟨l2, i2, ex⟩ := t
        dsimp only at t1 t2 t3 ⊢
        refine (next_Y t1 3 (by omega) (by omega)).bind fun e ⟨e1, e2, e3⟩ => ?_
        refine Y.bind (P := fun t : List Int × Int × Int => SOK ⟨t.1, t.2.1⟩ ∧ mil t.2.2 = true) (Y.cond (fun _ => (rate_Y e3).bind fun f ⟨f1, f2⟩ => Y.ret ⟨f2, f1⟩) fun _ => Y.ret ⟨e3, rfl⟩) fun u ⟨u1, u2⟩ => ?_
        obtain ⟨l3, i3, tol⟩ := u
        dsimp only at u1 u2 ⊢
        refine Y.ret (leaf_Y hb hpos u1 t2 (by simp) rfl ⟨by simp, by simp⟩ ?_)
        rw [i64s (r := 2 * b.1) (by omega) (by omega), i64s (by omega) (by omega), ruleB_eq]
        simp only [plainB, leafB, t3, u2]
        obtain hb0 | hb0 | hb0 : b.1 = 0 ∨ b.1 = 1 ∨ b.1 = 2 := by omega
        · rw [hb0]; rfl
        · rw [hb0]; rfl
        · rw [hb0]; rfl
theorem rule_Y (d : Nat) : ∀ (n : Nat) (p : Tmade_Source) (but : Int), d < n → d ≤ 10 → SOK p → (but = 0 ∨ but = 5 ∨ but = 6) → Y (made_Source_rule_F n p but (d : Int)) (fun r => Good r.1 (bnd3 d) ∧ r.1.Kind ≠ but ∧ SOK r.2) := by
  induction d with
  | zero => exact fun n p but h1 h2 hp hb => rule_step hp hb h1 (by omega) (fun d h => absurd h (by omega))
  | succ d ih => exact fun n p but h1 h2 hp hb => rule_step hp hb h1 (by omega) (fun d' h q but' hq hb' => by
      obtain rfl : d' = d := by omega
      exact ih _ q but' (by omega) (by omega) hq hb')
end SX
end Go.Proofs.YtiijbkaiipjpkaaGreatDoor
set_option maxRecDepth 100000
namespace Go.Proofs.YtiijbkaiipjpkaaGreatDoor
namespace SX
open Go
theorem ltS_tr (x y z : ByteArray) (h1 : ltS x y = true) (h2 : ltS y z = true) : ltS x z = true := by
 rw [ltS_eq] at *; exact decide_eq_true (List.lt_trans (of_decide_eq_true h1) (of_decide_eq_true h2))
theorem ltS_irr (x : ByteArray) : ltS x x = false := by rw [ltS_eq]; exact decide_eq_false (List.lt_irrefl _)
theorem ascB_iff : ∀ l : List ByteArray, ascB ltS l = true ↔ l.Pairwise (fun a b => ltS a b = true)
 | [] => by simp [ascB]
 | [a] => by simp [ascB]
 | a :: b :: l => by
  rw [ascB, Bool.and_eq_true, ascB_iff (b :: l)]
  constructor
  ·rintro ⟨h1, h2⟩
   refine List.pairwise_cons.2 ⟨fun c hc => ?_, h2⟩
   rcases List.mem_cons.1 hc with rfl | hc
   ·exact h1
   ·exact ltS_tr _ _ _ h1 ((List.pairwise_cons.1 h2).1 c hc)
  ·intro h; obtain ⟨h1, h2⟩ := List.pairwise_cons.1 h; exact ⟨h1 b (by simp), h2⟩
theorem sublist_take {α : Type} {l C : List α} {v : Nat} (h : l.Sublist (C.take v)) (hv : v < C.length) : (l ++ [C[v]]).Sublist (C.take (v + 1)) ∧ l.Sublist (C.take (v + 1)) := by
 have e : C.take (v + 1) = C.take v ++ [C[v]] := by rw [List.take_add_one, List.getElem?_eq_getElem hv]; rfl
 rw [e]
 exact ⟨h.append (List.Sublist.refl _), h.trans (List.sublist_append_left _ _)⟩
def C6 : List ByteArray := [(⟨#[65, 65]⟩ : ByteArray), (⟨#[66, 66]⟩ : ByteArray), (⟨#[67, 67]⟩ : ByteArray), (⟨#[68, 68]⟩ : ByteArray), (⟨#[69, 69]⟩ : ByteArray), (⟨#[70, 70]⟩ : ByteArray)]
def P5 : List ByteArray := [(⟨#[57, 52]⟩ : ByteArray), (⟨#[57, 52, 48, 49]⟩ : ByteArray), (⟨#[57, 52, 48, 49, 48, 50]⟩ : ByteArray), (⟨#[57, 53]⟩ : ByteArray), (⟨#[57, 53, 48, 50]⟩ : ByteArray)]
theorem C6_ok : C6.all ctry = true ∧ ascB ltS C6 = true ∧ (C6.all fun s => decide (s.size ≤ 100)) = true := ⟨by kernel_rfl, by kernel_rfl, by kernel_rfl⟩
theorem P5_ok : P5.all lev = true ∧ ascB ltS P5 = true ∧ (P5.all fun s => decide (s.size ≤ 100)) = true := ⟨by kernel_rfl, by kernel_rfl, by kernel_rfl⟩
structure MA (i : Nat) (a : TAgreement) : Prop where
 id : a.ID = 2 + 5 * (i : Int)
 kind : 1 ≤ a.Kind ∧ a.Kind ≤ 3
 par : a.Parties.Sublist C6
 pre : (a.Rules.map (·.Prefix)).Sublist P5
 good : ∀ x ∈ a.Rules, Good x.Rule (bnd3 1)
 ne : a.Rules ≠ []
structure MAs (l : List TAgreement) : Prop where
 len : 1 ≤ l.length ∧ l.length ≤ 4
 all : ∀ (i : Nat) (a : TAgreement), l[i]? = some a → MA i a
theorem P5_len {a : TAgreement} (h : (a.Rules.map (·.Prefix)).Sublist P5) : a.Rules.length ≤ 5 := by have := h.length_le; simpa [P5] using this
theorem MA.strs {i : Nat} {a : TAgreement} (h : MA i a) : StrsOk a.Parties := by
 refine ⟨?_, fun s hs => ?_⟩
 ·have := h.par.length_le; have h6 : C6.length = 6 := rfl; omega
 ·have := of_decide_eq_true (List.all_eq_true.1 C6_ok.2.2 s (h.par.subset hs)); omega
theorem MA.aok {i : Nat} {a : TAgreement} (h : MA i a) : AOk a := by
 refine ⟨h.strs, by have := P5_len h.pre; omega, fun x hx => ?_⟩
 have hp := of_decide_eq_true (List.all_eq_true.1 P5_ok.2.2 x.Prefix (h.pre.subset (List.mem_map_of_mem hx)))
 have hg := h.good x hx
 exact ⟨by omega, hg.ok, by have h1 := dep_cnt x.Rule; have h2 := hg.size; simp only [bnd3] at h2; omega⟩
theorem MAs.ok {l : List TAgreement} (h : MAs l) : ASOk l := ⟨by have := h.len; omega, fun a ha => by
 obtain ⟨i, hi, rfl⟩ := List.getElem_of_mem ha; exact (h.all i _ (List.getElem?_eq_getElem hi)).aok⟩
theorem MA.parties {i : Nat} {a : TAgreement} (h : MA i a) : partiesB a.Parties = true := by
 unfold partiesB
 rw [Bool.and_eq_true]
 refine ⟨List.all_eq_true.2 fun s hs => List.all_eq_true.1 C6_ok.1 s (h.par.subset hs), ?_⟩
 rw [ascB_iff]; exact List.Pairwise.sublist h.par ((ascB_iff _).1 C6_ok.2.1)
theorem MA.rulesE {i : Nat} {a : TAgreement} (h : MA i a) : rulesE a.Rules = 0 := by
 have : findS (gRule a.Rules) a.Rules 0 = none := by
  rw [findS_none]
  intro k x hx
  obtain ⟨hk, rfl⟩ := List.getElem?_eq_some_iff.1 hx
  have hmem : a.Rules[k] ∈ a.Rules := List.getElem_mem hk
  have h1 := List.all_eq_true.1 P5_ok.1 _ (h.pre.subset (List.mem_map_of_mem hmem))
  have hg := h.good _ hmem
  have h2 : ruleE a.Rules[k].Rule = 0 := (ruleE_zero _).2 ⟨by have := hg.size; simp only [bnd3] at this; omega, hg.valid⟩
  unfold gRule
  rw [Nat.zero_add, h1, h2]
  have hpw := List.Pairwise.sublist h.pre ((ascB_iff _).1 P5_ok.2.1)
  by_cases h0 : 0 < k
  ·rw [getD_in (show k - 1 < a.Rules.length by omega)]
   have := (List.pairwise_iff_getElem.1 (List.pairwise_map.1 hpw)) (k - 1) k (by omega) hk (by omega)
   rw [this]; simp
  ·simp [h0]
 unfold SX.rulesE; rw [this]; rfl
theorem MAs.valid {l : List TAgreement} (h : MAs l) : agrE l = 0 := by
 have : findS (gAgr l) l 0 = none := by
  rw [findS_none]
  intro k x hx
  obtain ⟨hk, rfl⟩ := List.getElem?_eq_some_iff.1 hx
  have hm := h.all k _ hx
  have hl := h.len
  unfold gAgr
  rw [Nat.zero_add, hm.parties, hm.rulesE]
  have i1 : (decide (l[k].ID < 1) || decide (1000 < l[k].ID) || decide (l[k].Kind < 1) || decide (3 < l[k].Kind)) = false := by
   have e1 := hm.id; have e2 := hm.kind
   rw [decide_eq_false (by omega), decide_eq_false (by omega), decide_eq_false (by omega), decide_eq_false (by omega)]; rfl
  have i2 : (decide (12 < l[k].Parties.length) || decide (12 < l[k].Rules.length)) = false := by
   have e1 := hm.par.length_le; have e2 := P5_len hm.pre; have h6 : C6.length = 6 := rfl
   rw [decide_eq_false (by omega), decide_eq_false (by omega)]; rfl
  rw [i1, i2]
  by_cases h0 : 0 < k
  ·rw [getD_in (show k - 1 < l.length by omega)]
   have hm2 := h.all (k - 1) _ (List.getElem?_eq_getElem (by omega))
   have e1 := hm.id; have e2 := hm2.id
   rw [decide_eq_false (show ¬ l[k].ID ≤ (l[k-1]'(by omega)).ID by omega)]; simp
  ·simp [h0]
 unfold agrE
 rw [decide_eq_true (by have := h.len; omega), this]; rfl
theorem countries_ok : made_Countries = some C6 := rfl
def bitI (m : Int) (v : Int) : Bool := iand .i64 (ishr .i64 m v) 1 == 1
theorem some_bit : ((List.range 31).all fun m => (List.range 5).any fun v => bitI ((m + 1 : Nat) : Int) (v : Int)) = true := by kernel_rfl
theorem has_bit {m : Int} (h1 : 1 ≤ m) (h2 : m ≤ 31) : ∃ v : Nat, v < 5 ∧ bitI m (v : Int) = true := by
 have := List.all_eq_true.1 some_bit (m.toNat - 1) (List.mem_range.2 (by omega))
 obtain ⟨v, hv, h⟩ := List.any_eq_true.1 this
 rw [show ((m.toNat - 1 + 1 : Nat) : Int) = m by omega] at h
 exact ⟨v, List.mem_range.1 hv, h⟩
theorem ge0_nat (v : Nat) : ge0 (v : Int) = some () := by unfold ge0; rw [if_pos (by omega)]
theorem parties_Y {c : Int → Bool} : Y (loopF (S := Int × (List ByteArray)) (T := ((List ByteArray))) (fun (v22, l24) => cond (decide (v22 < 6)) (Option.bind (Option.bind (ge0 v22) (fun _ => cond (c v22) (Option.bind (made_Countries) (fun x44 => Option.bind (idx x44 v22) (fun m45 => Option.bind (app 16 l24 [m45]) (fun l48 => some l48)))) (some l24))) (fun l40 => some (.inl ((IntKind.i64.wrap (v22 + 1)), l40)))) (some (.inr l24))) FUEL (0, ([] : List ByteArray))) (fun l => l.Sublist C6) := by
 refine Y.loop (fun s => ∃ v : Nat, s.1 = (v : Int) ∧ v ≤ 6 ∧ s.2.Sublist (C6.take v)) (fun s => (6 - s.1).toNat) ⟨0, rfl, by omega, List.Sublist.refl _⟩ (by dsimp only; omega) fun s hs => ?_
 obtain ⟨i, l⟩ := s
 obtain ⟨v, rfl, h1, h2⟩ := hs
 dsimp only at h2 ⊢
 have hlen : l.length ≤ 6 := by have := h2.length_le; have h6 : C6.length = 6 := rfl; rw [List.length_take] at this; omega
 refine Y.cond (fun hc => ?_) (fun hc => Y.ret (h2.trans (List.take_sublist _ _)))
 have hv : v < 6 := by have := of_decide_eq_true hc; omega
 have hs := sublist_take h2 (show v < C6.length from hv)
 refine Y.bind (P := fun m : List ByteArray => m.Sublist (C6.take (v + 1))) (Y.eq (ge0_nat v) (Y.cond (fun _ => ?_) fun _ => Y.ret hs.2)) fun m hm => Y.ret ⟨⟨v + 1, ?_, by omega, hm⟩, ?_⟩
 ·refine Y.eq countries_ok (Y.idx rfl (show v < C6.length from hv) ?_)
  rw [app_ok (by simp; omega) (by simp; omega)]; exact Y.ret hs.1
 ·show IntKind.i64.wrap ((v : Int) + 1) = _; rw [i64s (by omega) (by omega)]; omega
 ·show (6 - IntKind.i64.wrap ((v : Int) + 1)).toNat < (6 - (v : Int)).toNat; rw [i64s (by omega) (by omega)]; omega
theorem agreements_Y (p0 : List Int) : Y (made_Agreements p0) MAs := by
 unfold made_Agreements
 refine (cut_Y p0 200 (by omega) (by omega)).bind fun x1 hx1 => ?_
 refine (next_Y hx1 4 (by omega) (by omega)).bind fun x3 ⟨a1, a2, a3⟩ => ?_
 rw [i64s (r := 1 + x3.1) (by omega) (by omega)]
 refine Y.bind (P := MAs) ?_ fun l hl => Y.ret hl
 refine Y.loop (fun s : List TAgreement × Int × List Int × Int => (s.2.1 = (s.1.length : Int) ∧ s.2.1 ≤ 1 + x3.1) ∧ SOK ⟨s.2.2.1, s.2.2.2⟩ ∧ ∀ i a, s.1[i]? = some a → MA i a) (fun s => (1 + x3.1 - s.2.1).toNat) ⟨⟨rfl, by dsimp only; omega⟩, a3, by simp⟩ (by dsimp only; omega) fun s hs => ?_
 obtain ⟨l5, v8, l9, v10⟩ := s
 obtain ⟨⟨h1, h2⟩, h3, h4⟩ := hs
 dsimp only at h1 h2 h3 h4 ⊢
 refine Y.cond (fun hc => ?_) (fun hc => Y.ret ⟨?_, h4⟩)
 rotate_left
 ·have hc := of_decide_eq_false hc; omega
 have hc := of_decide_eq_true hc
 refine (next_Y h3 3 (by omega) (by omega)).bind fun x19 ⟨b1, b2, b3⟩ => ?_
 refine (next_Y b3 64 (by omega) (by omega)).bind fun x21 ⟨c1, c2, c3⟩ => ?_
 refine (parties_Y (c := fun v => iand .i64 (ishr .i64 (ior .i64 x21.1 3) v) 1 == 1)).bind fun l31 hl31 => ?_
 refine Y.bind (P := fun r : Int × Tmade_Source => SOK r.2) (Y.gdp (fun _ => (next_Y c3 2 (by omega) (by omega)).mono fun r hr => hr.2.2) fun _ => c3) fun x53 hx53 => ?_
 refine Y.bind (P := fun t : List Int × Int × List TRuleFor => SOK ⟨t.1, t.2.1⟩ ∧ (t.2.2.map (·.Prefix)).Sublist P5 ∧ (∀ x ∈ t.2.2, Good x.Rule (bnd3 1)) ∧ t.2.2 ≠ []) ?_ fun t ⟨t1, t2, t3, t4⟩ => ?_
 ·refine Y.cond (fun hc2 => ?_) fun hc2 => ?_
  ·simp only [Bool.and_eq_true, decide_eq_true_eq] at hc2
   obtain ⟨j, hj⟩ : ∃ j : Nat, v8 - 1 = (j : Int) := ⟨(v8 - 1).toNat, by omega⟩
   refine Y.idx (n := j) (by rw [i64s (by omega) (by omega)]; exact hj) (show j < l5.length by omega) ?_
   have := h4 j _ (List.getElem?_eq_getElem (by omega))
   exact Y.ret ⟨hx53, this.pre, this.good, this.ne⟩
  ·refine (next_Y hx53 31 (by omega) (by omega)).bind fun x64 ⟨d1, d2, d3⟩ => ?_
   refine Y.bind (P := fun t : List Int × Int × List TRuleFor => SOK ⟨t.1, t.2.1⟩ ∧ (t.2.2.map (·.Prefix)).Sublist P5 ∧ (∀ x ∈ t.2.2, Good x.Rule (bnd3 1)) ∧ t.2.2 ≠ []) ?_ fun t ht => Y.ret ht
   refine Y.loop (fun s : Int × List Int × Int × List TRuleFor => ∃ v : Nat, s.1 = (v : Int) ∧ v ≤ 5 ∧ SOK ⟨s.2.1, s.2.2.1⟩ ∧ (s.2.2.2.map (·.Prefix)).Sublist (P5.take v) ∧ (∀ x ∈ s.2.2.2, Good x.Rule (bnd3 1)) ∧ (s.2.2.2 ≠ [] ∨ ∀ u : Nat, u < v → bitI (1 + x64.1) (u : Int) = false)) (fun s => (5 - s.1).toNat) ⟨0, rfl, by omega, d3, List.Sublist.refl _, by simp, .inr (fun u hu => absurd hu (Nat.not_lt_zero _))⟩ (by dsimp only; omega) fun s hs => ?_
   obtain ⟨i, l, k, m⟩ := s
   obtain ⟨v, rfl, e1, e2, e3, e4, e5⟩ := hs
   dsimp only at e2 e3 e4 e5 ⊢
   have hlen : m.length ≤ 5 := by have := e3.length_le; have h6 : P5.length = 5 := rfl; rw [List.length_take, List.length_map] at this; omega
   refine Y.cond (fun hc3 => ?_) (fun hc3 => Y.ret ⟨e2, e3.trans (List.take_sublist _ _), e4, ?_⟩)
   rotate_left
   ·have h5 : v = 5 := by have := of_decide_eq_false hc3; omega
    rcases e5 with e5 | e5
    ·exact e5
    ·obtain ⟨u, hu, hb⟩ := has_bit (m := 1 + x64.1) (by omega) (by omega)
     rw [e5 u (by omega)] at hb; cases hb
   have hv : v < 5 := by have := of_decide_eq_true hc3; omega
   have hs := sublist_take e3 (show v < P5.length from hv)
   refine Y.bind (P := fun t : List Int × Int × List TRuleFor => SOK ⟨t.1, t.2.1⟩ ∧ (t.2.2.map (·.Prefix)).Sublist (P5.take (v + 1)) ∧ (∀ x ∈ t.2.2, Good x.Rule (bnd3 1)) ∧ (t.2.2 ≠ [] ∨ ∀ u : Nat, u < v + 1 → bitI (1 + x64.1) (u : Int) = false)) (Y.eq (ge0_nat v) (Y.cond (fun _ => ?_) fun hbit => Y.ret ⟨e2, hs.2, e4, ?_⟩)) fun t ⟨t1, t2, t3, t4⟩ => Y.ret ⟨⟨v + 1, ?_, by omega, t1, t2, t3, t4⟩, ?_⟩
   ·refine Y.idx (xs := P5) rfl (show v < P5.length from hv) ?_
    refine (rule_Y 1 FUEL ⟨l, k⟩ 0 (fuel_big (by omega)) (by omega) e2 (.inl rfl)).bind fun r ⟨r1, r2, r3⟩ => ?_
    rw [app_ok (by simp; omega) (by simp; omega)]
    refine Y.ret ⟨r3, by rw [List.map_append]; exact hs.1, fun z hz => ?_, .inl (by simp)⟩
    rcases List.mem_append.1 hz with hz | hz
    ·exact e4 z hz
    ·rw [List.mem_singleton.1 hz]; exact r1
   ·rcases e5 with e5 | e5
    ·exact .inl e5
    ·refine .inr fun u hu => ?_
     rcases Nat.lt_or_ge u v with h | h
     ·exact e5 u h
     ·obtain rfl : u = v := by omega
      rw [i64s (by omega) (by omega)] at hbit; exact hbit
   ·show IntKind.i64.wrap ((v : Int) + 1) = _; rw [i64s (by omega) (by omega)]; omega
   ·show (5 - IntKind.i64.wrap ((v : Int) + 1)).toNat < (5 - (v : Int)).toNat; rw [i64s (by omega) (by omega)]; omega
 obtain ⟨l55, v56, l58⟩ := t
 dsimp only at t1 t2 t3 ⊢
 rw [app_ok (by simp; omega) (by simp; omega), Option.bind_some, i64s (r := v8 + 1) (by omega) (by omega), i64s (r := 1 + x19.1) (by omega) (by omega), i64s (r := 5 * v8) (by omega) (by omega), i64s (by omega) (by omega)]
 refine Y.ret ⟨⟨⟨by simp; omega, by dsimp only; omega⟩, t1, fun i a ha => ?_⟩, by dsimp only; omega⟩
 rw [List.getElem?_append] at ha
 split at ha
 ·exact h4 i a ha
 ·rename_i hi
  have hi0 : i - l5.length = 0 := by have := (List.getElem?_eq_some_iff.1 ha).1; simp at this; omega
  rw [hi0] at ha
  simp only [List.getElem?_cons_zero, Option.some.injEq] at ha
  subst ha
  exact ⟨by dsimp only; omega, ⟨by dsimp only; omega, by dsimp only; omega⟩, hl31, t2, t3, t4⟩
end SX
end Go.Proofs.YtiijbkaiipjpkaaGreatDoor
set_option maxRecDepth 100000
namespace Go.Proofs.YtiijbkaiipjpkaaGreatDoor
namespace SX
open Go
structure RawA (a : TAgreement) : Prop where
 par : StrsOk a.Parties
 len : a.Rules.length ≤ 140737488355328
 rules : ∀ x ∈ a.Rules, x.Prefix.size ≤ 140737488355328 ∧ ROk x.Rule
theorem app_nil_ok {α : Type} {b : Nat} {l : List α} (h : l.length ≤ 1000000000) (hb : b ≤ 1000) : app b ([] : List α) l = some l := by
 have := Nat.mul_le_mul h hb
 exact app_ok (by simpa using (by omega : l.length * b ≤ 140737488355328)) (by simp; omega)
end SX
end Go.Proofs.YtiijbkaiipjpkaaGreatDoor
set_option maxRecDepth 100000
namespace Go.Proofs.YtiijbkaiipjpkaaGreatDoor
namespace SX
open Go
def k0 (W : World) : Kr := ⟨W, fun b => b < W.heap.size⟩
theorem cellsOf_eq {t : Nat} {z : Value} {s b : Nat} (h : inf t = some (z, s, b)) : Tryz.prog.cellsOf t = s ∧ Tryz.prog.bytesOf t = b := by
 obtain ⟨i, h1, h2, h3, h4⟩ := inf_get h
 constructor
 ·simp [Program.cellsOf, h1, h3]
 ·simp [Program.bytesOf, h1, h4]
def Light {H : Type} (t : Nat) (d : DataW H) : Prop := ∀ n ∈ d.weights Tryz.prog t, n ≤ reachBytes
def Opens {H : Type} (eh : TypeId × Value → H) {α : Type} (t : Nat) (e : α → List PV) : Prop :=
 ∀ (W : World) (fuel : Nat) (cs : List Value) (x : DataW H × List MemPlace), DataW.trod eh Tryz.prog W 0 (fun _ => true) true fuel t cs = some x → Light t x.1 → ∃ m, Rps (k0 W) (e m) cs ∧ One cs
section
variable {H : Type} {eh : TypeId × Value → H}
theorem one1 {v : Value} (h : v.oneCell' = true) : One [v] := fun u hu => by rw [List.mem_singleton.1 hu]; exact h
theorem opens_int {t : Nat} {k : IntKind} (h : und t = some (.int k)) : Opens eh t (fun x : Int => [.v (.int k x)]) := fun W fuel cs x hx _ => by
 obtain ⟨n, rfl, _, _⟩ := DataW.trod_int (und_ok h) hx
 exact ⟨n, .cons (.v rfl) .nil, one1 rfl⟩
theorem weightsAll_mem {e : Nat} : ∀ {l : List (DataW H)} {d : DataW H} {n : Nat}, d ∈ l → n ∈ d.weights Tryz.prog e → n ∈ DataW.weightsAll Tryz.prog e l
 | d' :: l, d, n, hd, hn => by
  simp only [DataW.weightsAll, List.mem_append]
  rcases List.mem_cons.1 hd with rfl | hd
  ·exact .inl hn
  ·exact .inr (weightsAll_mem hd hn)
theorem list_of {α β : Type} {R : α → β → Prop} : ∀ (l : List β), (∀ b ∈ l, ∃ a, R a b) → ∃ la : List α, la.length = l.length ∧ ∀ (i : Nat) (b : β), l[i]? = some b → ∃ a, la[i]? = some a ∧ R a b
 | [], _ => ⟨[], rfl, fun i b h => by simp at h⟩
 | b :: l, h => by
  obtain ⟨a, ha⟩ := h b (by simp)
  obtain ⟨la, h1, h2⟩ := list_of l fun b hb => h b (by simp [hb])
  refine ⟨a :: la, by simp [h1], fun i b' hb => ?_⟩
  cases i with
  | zero => simp only [List.getElem?_cons_zero, Option.some.injEq] at hb; subst hb; exact ⟨a, rfl, ha⟩
  | succ i => simp only [List.getElem?_cons_succ] at hb ⊢; exact h2 i b' hb
def OpensN {H : Type} (eh : TypeId × Value → H) {α : Type} (N : Nat) (t : Nat) (e : α → List PV) : Prop :=
 ∀ (W : World) (fuel : Nat) (cs : List Value) (x : DataW H × List MemPlace), fuel < N → DataW.trod eh Tryz.prog W 0 (fun _ => true) true fuel t cs = some x → Light t x.1 → ∃ m, Rps (k0 W) (e m) cs ∧ One cs
theorem opens_sliceN {α : Type} {N t E sz by' : Nat} {z : Value} {e : α → List PV} (hu : und t = some (.slice E)) (hi : inf E = some (z, sz, by')) (h0 : Nat.blt 0 sz = true) (hb0 : Nat.blt 0 by' = true) (hE : OpensN eh N E e) : OpensN eh (N + 1) t (eL e) := fun W fuel cs x hfu hx hw => by
 obtain ⟨hcz, hby⟩ := cellsOf_eq hi
 have hsz : 0 < sz := by have := h0; simp [Nat.blt] at this; omega
 have hbp : 0 < by' := by have := hb0; simp [Nat.blt] at this; omega
 rcases DataW.trod_slice (und_ok hu) hx with ⟨rfl, _⟩ | ⟨a, len, cap, elems, rest, n, rfl, rfl, rfl, _, hl, hm, hlen, hel, _, _⟩
 ·exact ⟨[], .cons (.slc (sz := sz) (css := []) Sl.nil (Nat.zero_le _) (fun _ h => by cases h) .nil) .nil, one1 rfl⟩
 ·rw [hcz] at hel
  have hwl : (elems.length + rest.length) * by' ≤ reachBytes := by
   have := hw ((elems.length + rest.length) * by') (by simp only [DataW.weights, und_ok hu, hby, List.length_map]; exact List.mem_cons_self)
   exact this
  have hn : len ≤ 140737488355328 := by
   unfold reachBytes at hwl
   have : elems.length * 1 ≤ (elems.length + rest.length) * by' := Nat.mul_le_mul (by omega) (by omega)
   omega
  have hcells : ∀ i ∈ List.range len, ∃ p : α × List Value, W.cells? 0 (a.add (i * sz)) sz = some p.2 ∧ Rps (k0 W) (e p.1) p.2 ∧ One p.2 := fun i hi' => by
   have hi' : i < len := List.mem_range.1 hi'
   have h1 := hel i hi'
   have hlt : i < elems.length := by omega
   rw [List.getElem?_eq_getElem hlt] at h1
   obtain ⟨cs, h2, h3⟩ := Option.bind_eq_some_iff.1 h1
   obtain ⟨m, k1, k2⟩ := hE W n cs _ (by omega) h3 fun q hq => hw q (by
    simp only [DataW.weights, und_ok hu]
    exact List.mem_cons_of_mem _ (List.mem_append.2 (.inl (weightsAll_mem (List.mem_map.2 ⟨_, List.getElem_mem hlt, rfl⟩) hq))))
   exact ⟨(m, cs), h2, k1, k2⟩
  obtain ⟨ps, g1, g2⟩ := list_of (R := fun (p : α × List Value) i => W.cells? 0 (a.add (i * sz)) sz = some p.2 ∧ Rps (k0 W) (e p.1) p.2 ∧ One p.2) (List.range len) hcells
  rw [List.length_range] at g1
  have g3 : ∀ (i : Nat) (p : α × List Value), ps[i]? = some p → W.cells? 0 (a.add (i * sz)) sz = some p.2 ∧ Rps (k0 W) (e p.1) p.2 ∧ One p.2 := fun i p hp => by
   have hlt := (List.getElem?_eq_some_iff.1 hp).1
   obtain ⟨p', h1, h2⟩ := g2 i i (by rw [List.getElem?_range (by omega)])
   rw [hp] at h1; injection h1 with h1; subst h1; exact h2
  refine ⟨ps.map (·.1), ?_, one1 rfl⟩
  have hps : (ps.map (·.1)).length = len := by simp [g1]
  unfold eL; rw [hps]
  refine .cons (.slc (sz := sz) (css := ps.map (·.2)) ⟨by simp [g1], hl, ?_, ?_⟩ hn ?_ ?_) .nil
  ·intro c hc
   obtain ⟨p, hp, rfl⟩ := List.mem_map.1 hc
   obtain ⟨i, hi', rfl⟩ := List.getElem_of_mem hp
   exact (World.cells?_some (g3 i _ (List.getElem?_eq_getElem hi')).1).2.1
  ·intro hpos
   have hp0 : 0 < ps.length := by omega
   have hc0 := (World.cells?_some (g3 0 _ (List.getElem?_eq_getElem hp0)).1)
   have hread := hc0.2.2 0 hsz
   have hspot : a.spot = none := by
    have hlt : 0 < (ps[0]).2.length := by rw [hc0.2.1]; exact hsz
    rw [List.getElem?_eq_getElem hlt] at hread
    unfold World.cell? at hread
    cases hs : a.spot with
    | none => rfl
    | some q =>
     have hsp : ((a.add (0 * sz)).add 0).spot.isSome = true := by simp [Addr.add, hs]
     split at hread
     ·rw [if_pos hsp] at hread; cases hread
     ·cases hread
   obtain ⟨ab, ao, asp⟩ := a
   simp only at hspot; subst hspot
   refine ⟨ab, ao, rfl, fun j c hj => ?_⟩
   rw [List.getElem?_map] at hj
   cases hpj : ps[j]? with
   | none => rw [hpj] at hj; cases hj
   | some p =>
    rw [hpj] at hj; simp only [Option.map_some, Option.some.injEq] at hj; subst hj
    have hcj := World.cells?_some (g3 j p hpj).1
    refine ⟨?_, fun i u hu' => ?_⟩
    ·have h1 := hcj.2.2 0 hsz
     have hlt : 0 < p.2.length := by rw [hcj.2.1]; exact hsz
     rw [List.getElem?_eq_getElem hlt, add_none, add_none] at h1
     unfold World.cell? at h1
     split at h1
     ·rename_i heq
      have := heap_some_lt heq
      exact this
     ·cases h1
    ·have hlt : i < sz := by have := (List.getElem?_eq_some_iff.1 hu').1; omega
     have h1 := hcj.2.2 i hlt
     rw [add_none, add_none] at h1
     rw [← hu']; exact h1
  ·intro c hc
   obtain ⟨p, hp, rfl⟩ := List.mem_map.1 hc
   obtain ⟨i, hi', rfl⟩ := List.getElem_of_mem hp
   exact (g3 i _ (List.getElem?_eq_getElem hi')).2.2
  ·have : ∀ (l : List (α × List Value)), (∀ p ∈ l, Rps (k0 W) (e p.1) p.2) → Rpss (k0 W) ((l.map (·.1)).map e) (l.map (·.2)) := fun l => by
    induction l with
    | nil => exact fun _ => .nil
    | cons p l ih => exact fun h => .cons (h p (by simp)) (ih fun q hq => h q (by simp [hq]))
   refine this ps fun p hp => ?_
   obtain ⟨i, hi', rfl⟩ := List.getElem_of_mem hp
   exact (g3 i _ (List.getElem?_eq_getElem hi')).2.1
theorem opens_slice {α : Type} {t E sz by' : Nat} {z : Value} {e : α → List PV} (hu : und t = some (.slice E)) (hi : inf E = some (z, sz, by')) (h0 : Nat.blt 0 sz = true) (hb0 : Nat.blt 0 by' = true) (hE : Opens eh E e) : Opens eh t (eL e) := fun W fuel cs x hx hw =>
 opens_sliceN (N := fuel) hu hi h0 hb0 (fun W' f' cs' x' _ => hE W' f' cs' x') W fuel cs x (Nat.lt_succ_self _) hx hw
end
end SX
end Go.Proofs.YtiijbkaiipjpkaaGreatDoor
set_option maxRecDepth 100000
namespace Go.Proofs.YtiijbkaiipjpkaaGreatDoor
open Go Go.ChangeShapes Go.WideShapes Go.RowKit
namespace SX
theorem own_ok : ownKnob Tryz.prog.godebug = none := by kernel_rfl
theorem laidOut_ok : laidOutB Tryz.prog = true := by kernel_rfl
def laidL : List (String × DataW Unit) := [("unicode/utf8.acceptRanges", Rows.laid_unicode_utf8_acceptRanges), ("customs/nomenclature.lengths", Rows.laid_customs_nomenclature_lengths), ("unicode/utf8.first", Rows.laid_unicode_utf8_first)]
mutual
def cellsD : DataW Unit → List Value
 | .lit (.int k n) => [.int k n]
 | .agg ds => cellsDs ds
 | _ => []
def cellsDs : List (DataW Unit) → List Value
 | [] => []
 | d :: r => cellsD d ++ cellsDs r
end
def c_acc : Array Value := (cellsD Rows.laid_unicode_utf8_acceptRanges).toArray
def c_len : Array Value := #[.int .i64 2, .int .i64 4, .int .i64 6, .int .i64 8]
def c_first : Array Value := (cellsD Rows.laid_unicode_utf8_first).toArray
def layAt (h : Array Obj) (g : Nat) (cs : Array Value) : Array Obj := h.modify g fun | .cells _ t frozen => .cells cs t frozen | o => o
noncomputable def laidWorld (os : Os) : World :=
 { World.holding Tryz.prog os ⟨#[], #[], []⟩ with heap := layAt (layAt (layAt (World.holding Tryz.prog os ⟨#[], #[], []⟩).heap 4 c_acc) 0 c_len) 3 c_first }
theorem laid_plain : (laidL.filter fun x => x.2.handleName?.isSome) = [] := by kernel_rfl
def placeB (w : World) : MemPlace → Bool
 | .cell b off => match w.heap[b]? with
  | some (.cells c _ (0, 0)) => match c[off]? with | some (.iface _ _) => false | _ => true
  | _ => false
 | _ => true
theorem placesB_ok {w : World} {ps : List MemPlace} (h : ps.all (placeB w) = true) : ∀ b off, MemPlace.cell b off ∈ ps → (∃ c t, w.heap[b]? = some (.cells c t (0, 0))) ∧ ∀ u v, w.cell? ⟨b, off, none⟩ = some (.iface u v) → Value.okWide Tryz.prog w .any 0 u v := fun b off hm => by
 have := List.all_eq_true.1 h _ hm
 unfold placeB at this
 split at this
 ·rename_i b' off' e
  injection e with e1 e2; subst e1; subst e2
  split at this
  ·rename_i c t heq
   refine ⟨⟨c, t, heq⟩, fun u v hc => ?_⟩
   simp only [World.cell?, heq] at hc
   split at this
   ·cases this
   ·rename_i hno; exact absurd hc (by simpa using hno u v)
  ·cases this
 ·rename_i hno; exact absurd rfl (hno b off)
theorem laidWorld_met (os : Os) (args : Array Value) : laidMetH Tryz.prog laidL ((laidWorld os).forCall (fun _ _ => 0) ⟨#[], args, []⟩).memory := by
 unfold laidMetH
 rw [laid_plain]
 refine ⟨_, ⟨4, 230, c_acc, 8, [], _, by kernel_rfl, by kernel_rfl, by kernel_rfl, by kernel_rfl, ⟨0, 156, c_len, 8, [], _, by kernel_rfl, by kernel_rfl, by kernel_rfl, by kernel_rfl, ⟨3, 227, c_first, 8, [], _, by kernel_rfl, by kernel_rfl, by kernel_rfl, by kernel_rfl, rfl, rfl⟩, rfl⟩, rfl⟩, ?_, ?_⟩
 ·exact of_decide_eq_true (by kernel_rfl)
 ·exact placesB_ok (by kernel_rfl)
theorem int_of_trod {H : Type} {eh : TypeId × Value → H} {P : Program} {w : World} {base : Nat} {sp : Nat → Bool} {held : Bool} {fuel : Nat} {t : TypeId} {k : IntKind} {c : Value} {y : DataW H × List MemPlace} (ht : P.underlying t = some (.int k)) (h : DataW.trod eh P w base sp held fuel t [c] = some y) : ∃ n, c = .int k n ∧ y = (.lit (.int k n), []) := by
 obtain ⟨n, h1, h2, _⟩ := DataW.trod_int ht h
 injection h1 with h1 _
 exact ⟨n, h1, h2⟩
theorem gok_of_laid {W : World} (h : laidMetH Tryz.prog laidL W) : GOK (k0 W) := by
 unfold laidMetH at h
 rw [laid_plain] at h
 obtain ⟨ps, ⟨_, _, _, _, _, _, _, _, _, _, ⟨g, t, cs, fuel, p, q, hg, ht, hvar, hd, _, _⟩, _⟩, _⟩ := h
 obtain rfl := Option.some.inj ((show Tryz.prog.globalNamed "customs/nomenclature.lengths" = some 0 by kernel_rfl).symm.trans hg)
 obtain rfl := Option.some.inj ((show (Tryz.prog.globals[0]?).map (·.type) = some 156 by kernel_rfl).symm.trans ht)
 have hcs : cs = c_len := by
  obtain ⟨l⟩ := cs
  cases fuel with
  | zero => simp [DataW.trod] at hd
  | succ fuel =>
   have hc1 := (cellsOf_eq (t := 156) rfl).1
   have hc2 := (cellsOf_eq (t := 3) rfl).1
   have hu1 : Tryz.prog.underlying 156 = some (.array 4 3) := und_ok rfl
   simp only [DataW.trod, hu1, hc1, hc2] at hd
   split at hd
   ·rename_i hl
    obtain ⟨c0, c1, c2, c3, rfl⟩ : ∃ c0 c1 c2 c3, l = [c0, c1, c2, c3] := by
     match l, hl with
     | [a, b, c, d], _ => exact ⟨a, b, c, d, rfl⟩
    have e : List.range 4 = [0, 1, 2, 3] := rfl
    rw [e] at hd
    simp only [Option.map_eq_some_iff, List.mapM_cons, List.mapM_nil, Option.bind_eq_bind, Option.bind_eq_some_iff, Option.pure_def, Option.some.injEq] at hd
    obtain ⟨xs, ⟨y0, h0, _, ⟨y1, h1, _, ⟨y2, h2, _, ⟨y3, h3, _, rfl, rfl⟩, rfl⟩, rfl⟩, rfl⟩, hx⟩ := hd
    have hui : Tryz.prog.underlying 3 = some (.int .i64) := und_ok rfl
    obtain ⟨n0, rfl, rfl⟩ := int_of_trod hui h0
    obtain ⟨n1, rfl, rfl⟩ := int_of_trod hui h1
    obtain ⟨n2, rfl, rfl⟩ := int_of_trod hui h2
    obtain ⟨n3, rfl, rfl⟩ := int_of_trod hui h3
    simp [Rows.laid_customs_nomenclature_lengths] at hx
    obtain ⟨⟨rfl, rfl, rfl, rfl⟩, _⟩ := hx
    rfl
   ·cases hd
 subst hcs
 have hcell : ∀ j u, c_len[j]? = some u → W.cell? ⟨0, j, none⟩ = some u := fun j u hu => by
  have := World.var?_cell hg hvar j
  rw [this]; exact hu
 refine ⟨?_, fun j u hu => ?_⟩
 ·have h0 := hcell 0 _ rfl
  unfold World.cell? at h0
  split at h0
  ·rename_i heq; exact heap_some_lt heq
  ·cases h0
 ·rw [Nat.zero_add]; exact hcell j u (by simpa [c_len] using hu)
end SX
end Go.Proofs.YtiijbkaiipjpkaaGreatDoor
set_option maxRecDepth 100000
namespace Go.Proofs.YtiijbkaiipjpkaaGreatDoor
open Go Go.ChangeShapes Go.WideShapes Go.RowKit
namespace SX
theorem inv0 (W : World) : Inv ⟨k0 W, []⟩ [] (k0 W) := ⟨.refl _ _, fun _ h => h, (fun _ h => by cases h), (fun _ h => by cases h), .nil⟩
theorem below_of {W : World} {ρ : List Res} {κ : Kr} (h : Inv ⟨k0 W, []⟩ ρ κ) : Below W.heap.size W κ.w := ⟨h.le.os, h.le.tape, h.le.output, h.le.kle.size, fun k hk => h.le.same k hk (by simp)⟩
section
variable {H : Type} {eh : TypeId × Value → H}
theorem trodAll_below {W W' : World} (hb : Below W.heap.size W W') {ts : List TypeId} (hr : ∀ t ∈ ts, Tryz.prog.readableRec t = true ∧ t < Tryz.prog.types.size) : ∀ {vs : List Value} {ds : List (DataW H)} {ps : List MemPlace}, DataW.TrodAll eh Tryz.prog W 0 (fun _ => true) true ts vs ds ps → (∀ p ∈ ps, p.block < W.heap.size) → DataW.TrodAll eh Tryz.prog W' 0 (fun b => decide (b < W.heap.size)) true ts vs ds ps := by
 induction ts with
 | nil => intro vs ds ps h _; cases vs <;> cases ds <;> first | exact h | cases h
 | cons t ts ih =>
  intro vs ds ps h hlt
  cases vs with
  | nil => cases h
  | cons v vs =>
   cases ds with
   | nil => cases h
   | cons d ds =>
    obtain ⟨p, q, h1, h2, e⟩ := h
    have ht := hr t (by simp)
    exact ⟨p, q, Below.trod laidOut_ok ht.1 ht.2 h1 hb (fun x hx => hlt x (by rw [e]; simp [hx])), ih (fun u hu => hr u (by simp [hu])) h2 (fun x hx => hlt x (by rw [e]; simp [hx])), e⟩
theorem readB {ts : List TypeId} (h : (ts.all fun t => Tryz.prog.readableRec t && Nat.blt t Tryz.prog.types.size) = true) : ∀ t ∈ ts, Tryz.prog.readableRec t = true ∧ t < Tryz.prog.types.size := fun t ht => by
 have := List.all_eq_true.1 h t ht
 rw [Bool.and_eq_true] at this
 exact ⟨this.1, by have h2 := this.2; exact Nat.le_of_ble_eq_true h2⟩
theorem row_post {f tb : Nat} {fn : Func} {s : ChangeSpec} {W : World} {args : Array Value} {ds gs : List (DataW H)} {before : List MemPlace} {pargs : List PV}
    (hrd : ∀ t ∈ fn.params.toList, Tryz.prog.readableRec t = true ∧ t < Tryz.prog.types.size) (hres : fn.resultTypes = #[tb]) (hub : Tryz.prog.underlying tb = some .bool) (hvars : s.vars = [])
    (hspec : s.fn H ds = { results := [.lit (.bool true)], args := ds }) (hW : DataW.Whole eh Tryz.prog fn.params.toList s.vars false W args.toList ds gs before) (hG : GOK (k0 W)) (hargs : Rps (k0 W) pargs args.toList) (hPF : PF f pargs (.v (.bool true))) :
    Calls Tryz.prog f args W fun e W' => ∃ v, e = .returned v ∧ s.post eh Tryz.prog fn false true false false W args v W' := by
  have hc := (hPF (k0 W) args.toList hG hargs).2 (inv0 W)
  have e : args.toList.toArray = args := by simp
  rw [e] at hc
  refine Calls.mono hc fun en W' ⟨v, ρ', κ', h1, h2, h3, h4, h5⟩ => ⟨v, h1, ?_⟩
  subst h2
  have hv := h5.val
  subst hv
  have hb := below_of h3
  have hW' := hW
  obtain ⟨p, q, hA, hV, rfl, hfz, hnd⟩ := hW
  rw [hvars] at hV
  obtain ⟨rfl, rfl⟩ : gs = [] ∧ q = [] := by
    cases gs with
    | nil => exact ⟨rfl, hV⟩
    | cons g r => exact absurd hV (by intro h; cases h)
  refine ⟨ds, [], _, [], p, [], hW', ?_, ?_, ?_, hb.frame _, fun h => by cases h⟩
  · rw [List.append_nil, hspec, hres]; exact trodAll_mk1 (shut_bool hub true)
  · rw [List.append_nil, hspec]; exact trodAll_below hb hrd hA (DataW.TrodAll.lt hA)
  · rw [hvars, List.append_nil, hspec]; rfl
theorem trodAll_cons {W : World} {t : TypeId} {ts : List TypeId} {vs : List Value} {ds : List (DataW H)} {ps : List MemPlace} (h : DataW.TrodAll eh Tryz.prog W 0 (fun _ => true) true (t :: ts) vs ds ps) : ∃ v vs' d ds' p q, vs = v :: vs' ∧ ds = d :: ds' ∧ DataW.Trod eh Tryz.prog W 0 (fun _ => true) true t v d p ∧ DataW.TrodAll eh Tryz.prog W 0 (fun _ => true) true ts vs' ds' q := by
 cases vs with
 | nil => cases h
 | cons v vs =>
  cases ds with
  | nil => cases h
  | cons d ds => obtain ⟨p, q, h1, h2, _⟩ := h; exact ⟨v, vs, d, ds, p, q, rfl, rfl, h1, h2⟩
theorem trodAll_nil {W : World} {vs : List Value} {ds : List (DataW H)} {ps : List MemPlace} (h : DataW.TrodAll eh Tryz.prog W 0 (fun _ => true) true [] vs ds ps) : vs = [] ∧ ds = [] := by
 cases vs <;> cases ds <;> first | exact ⟨rfl, rfl⟩ | cases h
theorem standIns_no {l : Array TypeId} (h : (l.toList.all fun t => !Tryz.prog.wantsStandIn t) = true) {j : Nat} {t : TypeId} (ht : l[j]? = some t) : Tryz.prog.wantsStandIn t = false := by
 have := List.all_eq_true.1 h t (by have := Array.mem_of_getElem? ht; simpa using this)
 simpa using this
theorem light_head {t : Nat} {ts : List Nat} {d : DataW H} {ds : List (DataW H)} (h : (DataW.weightsEach Tryz.prog (t :: ts) (d :: ds)).all (· ≤ reachBytes) = true) : Light t d ∧ (DataW.weightsEach Tryz.prog ts ds).all (· ≤ reachBytes) = true := by
 simp only [DataW.weightsEach, List.all_append, Bool.and_eq_true] at h
 exact ⟨fun n hn => by simpa using List.all_eq_true.1 h.1 n hn, h.2⟩
def isPlainD : TypeDesc → Bool
 | .int _ | .bool | .string | .slice _ => true
 | _ => false
theorem not_agg {W : World} {r : Reach} {base t : Nat} {v : Value} {D : TypeDesc} (hu : und t = some D) (hD : isPlainD D = true) (h : Value.okWide Tryz.prog W r base t v) : ∀ cs, v.cells.toList = [cs] → v = cs := fun cs he => by
 cases v with
 | agg arr =>
  exfalso
  unfold Value.okWide at h
  rw [und_ok hu] at h
  cases D <;> first | (revert hD; simp [isPlainD]; done) | (simp only at h; unfold Cell.okWide at h; rw [und_ok hu] at h; simp only at h; unfold Cell.ok at h; rw [und_ok hu] at h; simp at h)
 | _ => simpa [Value.cells] using he
theorem arg_one {W : World} {r : Reach} {base t : Nat} {v : Value} {D : TypeDesc} {α : Type} {e : α → List PV} {d : DataW H} {ps : List MemPlace} (hu : und t = some D) (hD : isPlainD D = true) (hO : Opens eh t e) (h1 : ∀ m, ∃ p, e m = [p]) (h : Value.okWide Tryz.prog W r base t v) (hd : DataW.Trod eh Tryz.prog W 0 (fun _ => true) true t v d ps) (hl : Light t d) : ∃ m, Rps (k0 W) (e m) [v] := by
 obtain ⟨fuel, hf⟩ := hd
 obtain ⟨m, h2, _⟩ := hO W fuel _ _ hf hl
 refine ⟨m, ?_⟩
 obtain ⟨p, hp⟩ := h1 m
 rw [hp] at h2
 generalize hc : v.cells.toList = cs at h2
 obtain ⟨w, ws, rfl, h3, h4⟩ := h2.cons_inv
 rw [h4.nil_inv] at hc
 rw [not_agg hu hD h w hc, hp]
 exact .cons h3 .nil
end
theorem rps_str {κ : Kr} {ps : List PV} {vs : List Value} {k : Nat} {s : ByteArray} (h : Rps κ ps vs) (hk : ps[k]? = some (.v (.string s))) : s.size ≤ 140737488355328 := by
 obtain ⟨v, _, h2⟩ := h.get hk
 exact Nat.le_of_ble_eq_true h2.ok
theorem rps_slc {κ : Kr} {ps : List PV} {vs : List Value} {k mm : Nat} {xs : List (List PV)} (h : Rps κ ps vs) (hk : ps[k]? = some (.slc mm xs)) : xs.length ≤ 140737488355328 := by
 obtain ⟨v, _, h2⟩ := h.get hk
 cases h2 with
 | slc hs hb _ hss => rw [hss.len, hs.len]; exact hb
theorem rps_elem {κ : Kr} {ps : List PV} {vs : List Value} {k mm : Nat} {xs : List (List PV)} {x : List PV} (h : Rps κ ps vs) (hk : ps[k]? = some (.slc mm xs)) (hx : x ∈ xs) : ∃ ds, Rps κ x ds := by
 obtain ⟨v, _, h2⟩ := h.get hk
 cases h2 with
 | slc hs hb _ hss =>
  obtain ⟨i, hi, rfl⟩ := List.getElem_of_mem hx
  obtain ⟨ds, _, h3⟩ := hss.get (List.getElem?_eq_getElem hi)
  exact ⟨ds, h3⟩
end SX
end Go.Proofs.YtiijbkaiipjpkaaGreatDoor
set_option maxRecDepth 100000
namespace Go.Proofs.YtiijbkaiipjpkaaGreatDoor
namespace SX
open Go
theorem awake_ok : law14_awake = some true := by kernel_rfl
theorem strs_of {κ : Kr} {ps : List PV} {vs : List Value} {k : Nat} {l : List ByteArray} (h : Rps κ ps vs) (hk : ps[k]? = some (pL eS l)) : StrsOk l := by
 refine ⟨by have := rps_slc h hk; simpa using this, fun s hs => ?_⟩
 obtain ⟨ds, hd⟩ := rps_elem h hk (List.mem_map_of_mem (f := eS) hs)
 exact rps_str (k := 0) hd rfl
mutual
theorem rok_of {κ : Kr} : ∀ (r : TRule) (ds : List Value), Rps κ (TRule.enc r) ds → ROk r
 | ⟨k, d, e, t, m, n, l⟩, ds, h => by
  rw [TRule.enc_eq] at h
  have hl : l.length ≤ 140737488355328 := by have := rps_slc (k := 6) h rfl; simpa using this
  exact ⟨_, strs_of (k := 2) h rfl, rps_str (k := 5) h rfl, hl, roks_of l (fun a ha => rps_elem (k := 6) h rfl (List.mem_map_of_mem (f := TRule.enc) ha))⟩
theorem roks_of {κ : Kr} : ∀ (l : List TRule), (∀ a ∈ l, ∃ ds, Rps κ (TRule.enc a) ds) → ∀ a ∈ l, ROk a
 | [], _, _, h => by cases h
 | b :: l, h, a, ha => by
  rcases List.mem_cons.1 ha with e | ha
  ·obtain ⟨ds, hd⟩ := h b (by simp)
   rw [e]; exact rok_of b ds hd
  ·exact roks_of l (fun a ha => h a (by simp [ha])) a ha
end
end SX
end Go.Proofs.YtiijbkaiipjpkaaGreatDoor
set_option maxRecDepth 100000
namespace Go.Proofs.YtiijbkaiipjpkaaGreatDoor
namespace SX
open Go
def prefB (s p : ByteArray) : Bool := decide (p.size ≤ s.size) && decide (s.extract 0 p.size = p)
theorem pref_val (s p : ByteArray) : Option.bind (gd (decide ((p.size : Int) ≤ (s.size : Int))) (ssub s 0 (p.size : Int))) (fun s1 => some ((decide ((p.size : Int) ≤ (s.size : Int))) && (decide (s1 = p)))) = some (prefB s p) := by
 unfold prefB
 by_cases h : p.size ≤ s.size
 ·rw [decide_eq_true h, show decide ((p.size : Int) ≤ (s.size : Int)) = true from decide_eq_true (by omega), gd_tt]
  unfold ssub; rw [if_pos (by omega)]; rfl
 ·rw [decide_eq_false h, show decide ((p.size : Int) ≤ (s.size : Int)) = false from decide_eq_false (by omega)]; rfl
theorem prog_pref (s p : ByteArray) : strings_HasPrefix s p = some (prefB s p) := by
 unfold strings_HasPrefix stringslite_HasPrefix; rw [pref_val]; rfl
def bestStep (l : List TRuleFor) (code : ByteArray) (k : Nat) (x : TRuleFor) (b : Option Nat) : Option Nat :=
 cond (prefB code x.Prefix && (match b with | none => true | some j => decide ((l.getD j x).Prefix.size < x.Prefix.size))) (some k) b
def noE {α : Type} (e : Empty) : α := nomatch e
def bestI (l : List TRuleFor) (code : ByteArray) : Option Nat := outf (fun b => b) noE (run (fun k x b => (.inl (bestStep l code k x b) : Option Nat ⊕ Empty)) l 0 none)
def optI : Option Nat → Int
 | none => -1
 | some j => (j : Int)
theorem optI_neg (b : Option Nat) : decide (optI b < 0) = b.isNone := by
 cases b with
 | none => rfl
 | some j => exact decide_eq_false (by simp only [optI]; omega)
def inB (n : Nat) (b : Option Nat) : Prop := ∀ j, b = some j → j < n
theorem best_in {l : List TRuleFor} {code : ByteArray} {k : Nat} {x : TRuleFor} {b : Option Nat} (h : inB k b) : inB (k + 1) (bestStep l code k x b) := by
 intro j hj
 unfold bestStep at hj
 split at hj
 all_goals (cases hc : (prefB code x.Prefix && _) <;> rw [hc] at hj <;> simp only [cond_true, cond_false] at hj)
 all_goals first | (injection hj with hj; omega) | (have := h j hj; omega) | (cases hj)
theorem bestI_in (l : List TRuleFor) (code : ByteArray) : inB l.length (bestI l code) := by
 have key : ∀ (m : List TRuleFor) (i : Nat) (b : Option Nat), inB i b → inB (i + m.length) (outf (fun b => b) noE (run (fun k x b => (.inl (bestStep l code k x b) : Option Nat ⊕ Empty)) m i b)) := by
  intro m
  induction m with
  | nil => intro i b h; exact h
  | cons x m ih =>
   intro i b h
   rw [run_cons, List.length_cons, show i + (m.length + 1) = (i + 1) + m.length by omega]
   exact ih _ _ (best_in h)
 have := key l 0 none (fun j h => by cases h)
 rwa [Nat.zero_add] at this
theorem prog_best (l : List TRuleFor) (code : ByteArray) (hl : l.length ≤ 140737488355328) {β : Type} (K : Int → Option β) : Option.bind (loopF (S := Int × Int) (T := (Int)) (fun (v3, v4) => cond (decide (v4 < (l.length : Int))) (Option.bind (Option.bind (idx l v4) (fun m11 => Option.bind (strings_HasPrefix code m11.Prefix) (fun x13 => Option.bind (gd (x13 && (!(decide (v3 < 0)))) (idx l v3)) (fun m14 => cond (x13 && ((decide (v3 < 0)) || (decide ((m14.Prefix.size : Int) < (m11.Prefix.size : Int))))) (some v4) (some v3))))) (fun v9 => some (.inl (v9, (IntKind.i64.wrap (v4 + 1)))))) (some (.inr v3))) FUEL ((-1), 0)) K = K (optI (bestI l code)) := by
 have h62 : l.length ≤ 4611686018427387904 := by omega
 refine (run_loop (l := l) h62 (fun i (b : Option Nat) => (optI b, i)) (fun k x b => (.inl (bestStep l code k x b) : Option Nat ⊕ Empty)) optI noE (fun k b => inB k b) none (fun j h => by cases h) (fun k hk b hb => ⟨?_, fun b' h => by injection h with h; rw [← h]; exact best_in hb⟩) (fun b hb => by simp only [dnlt, cond_false])).trans ?_
 ·simp only [dlt hk, cond_true, idx_nat hk, Option.bind_some, prog_pref, wnext hk h62, outc, optI_neg]
  unfold bestStep
  cases hp : prefB code l[k].Prefix
  ·rfl
  ·cases b with
   | none => rfl
   | some j =>
    have hj := hb j rfl
    simp only [Option.isNone_some, Bool.not_false, Bool.and_true, gd_tt, optI, idx_nat (show j < l.length by omega), Option.bind_some, Bool.true_and, Bool.false_or, getD_in (show j < l.length by omega)]
    have e : decide (((l[j]'(by omega)).Prefix.size : Int) < (l[k].Prefix.size : Int)) = decide ((l[j]'(by omega)).Prefix.size < l[k].Prefix.size) := decide_eq_decide.2 (by omega)
    rw [e]
    cases decide ((l[j]'(by omega)).Prefix.size < l[k].Prefix.size) <;> rfl
 ·unfold bestI
  congr 1
  cases run (fun k x b => (.inl (bestStep l code k x b) : Option Nat ⊕ Empty)) l 0 none with
  | inl b => rfl
  | inr e => nomatch e
def opt2 {α : Type} (z : α) : Option α → α × Bool
 | some r => (r, true)
 | none => (z, false)
def zRule : TRule := ⟨0, 0, [], 0, 0, ByteArray.empty, []⟩
def ruleOfS (a : TAgreement) (code : ByteArray) : Option TRule := (bestI a.Rules code).bind fun j => (a.Rules[j]?).map (·.Rule)
theorem ruleOf_cases (a : TAgreement) (code : ByteArray) : (bestI a.Rules code = none ∧ ruleOfS a code = none) ∨ ∃ j, ∃ h : j < a.Rules.length, bestI a.Rules code = some j ∧ ruleOfS a code = some a.Rules[j].Rule := by
 cases hb : bestI a.Rules code with
 | none => left; exact ⟨rfl, by unfold ruleOfS; rw [hb]; rfl⟩
 | some j =>
  have hj := bestI_in a.Rules code j hb
  right; exact ⟨j, hj, rfl, by unfold ruleOfS; rw [hb, Option.bind_some, List.getElem?_eq_getElem hj]; rfl⟩
theorem ruleB_len {r : TRule} (h : ruleB r = true) : r.Args.length ≤ 6 ∧ (∀ a ∈ r.Args, ruleB a = true) ∧ r.Except.length ≤ 6 := by
 rw [ruleB_eq, Bool.and_eq_true] at h
 obtain ⟨h1, h2⟩ := h
 unfold plainB at h1
 simp only [Bool.and_eq_true, Bool.or_eq_true] at h1
 obtain ⟨⟨⟨p1, p2⟩, p3⟩, p4⟩ := h1
 have hE : r.Except.length ≤ 6 := by
  rcases p1 with p1 | ⟨⟨_, p1⟩, _⟩
  ·have hk := eq_of_beq p1
   rw [hk] at h2
   simp only [leafB, hk] at h2
   have h3 : codesB r.Except = true := by
    cases hc : codesB r.Except
    ·rw [hc] at h2; simp at h2
    ·rfl
   unfold codesB at h3
   simp only [Bool.and_eq_true, decide_eq_true_eq] at h3
   exact h3.1
  ·have := List.isEmpty_iff.1 p1; rw [this]; simp
 cases h56 : (r.Kind == 5 || r.Kind == 6)
 ·rw [Bool.or_eq_false_iff] at h56
  rcases p4 with (p4 | p4) | p4
  ·rw [h56.1] at p4; cases p4
  ·rw [h56.2] at p4; cases p4
  ·have := List.isEmpty_iff.1 p4; rw [this]; exact ⟨by simp, by simp, hE⟩
 ·rw [h56] at h2
  simp only [cond_true, Bool.and_eq_true, decide_eq_true_eq, List.all_eq_true] at h2
  exact ⟨h2.1.2, fun a ha => (h2.2 a ha).2, hE⟩
theorem clone_F (n : Nat) : ∀ (r : TRule), ruleB r = true → dep r ≤ n → cumulation_cloneRule_F n r = some r := by
 induction n with
 | zero => intro r _ hd; rw [dep_eq] at hd; omega
 | succ n ih =>
  intro r hr hd
  obtain ⟨h1, h2, h3⟩ := ruleB_len hr
  show cumulation_cloneRule_B (cumulation_cloneRule_F n) r = _
  unfold cumulation_cloneRule_B slices_Clone_string_string
  rw [app_nil_ok (by omega) (by omega), Option.bind_some, mk0_ok (by omega) (by omega), Option.bind_some]
  refine (fold_loop (l := r.Args) (by omega) (fun i (a : List TRule) => (a, i)) (fun a x => a ++ [x]) (fun a => a) (fun k a => a.length = k) [] rfl (fun k hk a ha => ⟨?_, by simp [ha]⟩) (fun a ha => by simp only [dnlt, cond_false])).1.trans ?_
  ·simp only [dlt hk, cond_true, idx_nat hk, Option.bind_some, wnext hk (show r.Args.length ≤ 4611686018427387904 by omega)]
   rw [ih _ (h2 _ (List.getElem_mem hk)) (by have := dep_arg (List.getElem_mem hk); omega), Option.bind_some, app_ok (by simp; omega) (by simp; omega)]; rfl
  ·have : ∀ (m acc : List TRule), m.foldl (fun a x => a ++ [x]) acc = acc ++ m := by
    intro m
    induction m with
    | nil => intro acc; simp
    | cons x m ih => intro acc; rw [List.foldl_cons, ih]; simp
   rw [this, List.nil_append]; cases r; rfl
theorem prog_clone (r : TRule) (h : ruleB r = true) (hd : dep r ≤ 1000) : cumulation_cloneRule r = some r := clone_F FUEL r h (by have hf : FUEL = 1267650600228229401496703205376 := rfl; omega)
structure VA (a : TAgreement) : Prop where
 ok : AOk a
 rules : ∀ x ∈ a.Rules, ruleE x.Rule = 0
 len : a.Rules.length ≤ 12 ∧ a.Parties.length ≤ 12
theorem prog_ruleOf (a : TAgreement) (code : ByteArray) (ha : VA a) : cumulation_RuleOf a code = some (opt2 zRule (ruleOfS a code)) := by
 unfold cumulation_RuleOf
 rw [prog_best _ _ ha.ok.len]
 rcases ruleOf_cases a code with ⟨h1, h2⟩ | ⟨j, hj, h1, h2⟩
 ·rw [h1, h2]; rfl
 ·have hm := List.getElem_mem hj
  have hr := ha.ok.rules _ hm
  have hv := ha.rules _ hm
  rw [h1, h2, optI_neg]
  simp only [Option.isNone_some, Bool.not_false, gd_tt, optI, idx_nat hj, Option.bind_some, prog_rule _ hr.rule hr.deep, hv, bne_self_eq_false, Bool.or_self, cond_false, prog_clone _ ((ruleE_zero _).1 hv).2 hr.deep]
  rfl
theorem MA.va {i : Nat} {a : TAgreement} (h : MA i a) : VA a := ⟨h.aok, fun x hx => (ruleE_zero _).2 ⟨by have := (h.good x hx).size; simp only [bnd3] at this; omega, (h.good x hx).valid⟩, by have := P5_len h.pre; omega, by have := h.par.length_le; have h6 : C6.length = 6 := rfl; omega⟩
end SX
end Go.Proofs.YtiijbkaiipjpkaaGreatDoor
set_option maxRecDepth 100000
namespace Go.Proofs.YtiijbkaiipjpkaaGreatDoor
namespace SX
open Go
theorem findS_ix {α T : Type} (p : α → Bool) (f : Nat → T) : ∀ (l : List α) (i : Nat), (findS (fun k x => cond (p x) (some (f k)) none) l i = none ∧ l.find? p = none) ∨ ∃ j, ∃ h : j < l.length, findS (fun k x => cond (p x) (some (f k)) none) l i = some (f (i + j)) ∧ l.find? p = some l[j]
 | [], _ => .inl ⟨rfl, rfl⟩
 | x :: xs, i => by
  rw [findS, List.find?_cons]
  cases hp : p x
  ·rcases findS_ix p f xs (i + 1) with ⟨h1, h2⟩ | ⟨j, hj, h1, h2⟩
   ·exact .inl ⟨h1, h2⟩
   ·exact .inr ⟨j + 1, by simpa using hj, by rw [show i + (j + 1) = i + 1 + j by omega]; exact h1, h2⟩
  ·exact .inr ⟨0, by simp, rfl, rfl⟩
def hasS (l : List ByteArray) (s : ByteArray) : Bool := l.any fun x => decide (x = s)
theorem hasS_iff (l : List ByteArray) (s : ByteArray) : hasS l s = true ↔ s ∈ l := by
 unfold hasS; simp
theorem prog_has (l : List ByteArray) (s : ByteArray) (hl : l.length ≤ 140737488355328) : slices_Contains_string_string l s = some (hasS l s) := by
 unfold slices_Contains_string_string
 have e : slices_Index_string_string l s = some (match findS (fun k x => cond (decide (x = s)) (some (Sum.inr (k : Int) : Unit ⊕ Int)) none) l 0 with | some (.inr k) => k | _ => -1) := by
  unfold slices_Index_string_string
  refine (find_loop (l := l) (by omega) (fun k x => cond (decide (x = s)) (some (.inr (k : Int))) none) (.inl ()) (fun k hk => ?_) (by simp only [dnlt, cond_false])).trans ?_
  ·simp only [dlt hk, cond_true, idx_nat hk, Option.bind_some, wnext hk (show l.length ≤ 4611686018427387904 by omega)]
   have e : decide (s = l[k]) = decide (l[k] = s) := decide_eq_decide.2 eq_comm
   rw [e]; cases decide (l[k] = s) <;> rfl
  ·cases findS (fun k x => cond (decide (x = s)) (some (Sum.inr (k : Int) : Unit ⊕ Int)) none) l 0 with
   | none => rfl
   | some t => cases t <;> rfl
 rw [e, Option.bind_some]
 rcases findS_ix (fun x => decide (x = s)) (fun k => (Sum.inr (k : Int) : Unit ⊕ Int)) l 0 with ⟨h1, h2⟩ | ⟨j, hj, h1, h2⟩
 ·rw [h1]
  have : hasS l s = false := by unfold hasS; rw [List.any_eq_false]; exact fun x hx => by have := List.find?_eq_none.1 h2 x hx; simpa using this
  rw [this]; rfl
 ·rw [h1]
  have : hasS l s = true := by
   have := List.find?_some h2
   rw [hasS_iff]; rw [← of_decide_eq_true this]; exact List.getElem_mem hj
  rw [this]
  show some (decide (0 ≤ ((0 + j : Nat) : Int))) = _
  rw [decide_eq_true (by omega)]
def findA (l : List TAgreement) (id : Int) : Option TAgreement := l.find? fun a => a.ID == id
def zAgr : TAgreement := ⟨0, 0, [], []⟩
theorem prog_findA (l : List TAgreement) (id : Int) (hl : l.length ≤ 140737488355328) : cumulation_find l id = some (opt2 zAgr (findA l id)) := by
 unfold cumulation_find findA
 have e : slices_IndexFunc_api_Agreement_api_Agreement l (fun y3 => cumulation_find_1 y3 id) = some (match findS (fun k (x : TAgreement) => cond (x.ID == id) (some (Sum.inr (k : Int) : Unit ⊕ Int)) none) l 0 with | some (.inr k) => k | _ => -1) := by
  unfold slices_IndexFunc_api_Agreement_api_Agreement cumulation_find_1
  refine (find_loop (l := l) (by omega) (fun k x => cond (x.ID == id) (some (.inr (k : Int))) none) (.inl ()) (fun k hk => ?_) (by simp only [dnlt, cond_false])).trans ?_
  ·simp only [dlt hk, cond_true, idx_nat hk, Option.bind_some, wnext hk (show l.length ≤ 4611686018427387904 by omega)]
   cases (l[k].ID == id) <;> rfl
  ·cases findS (fun k (x : TAgreement) => cond (x.ID == id) (some (Sum.inr (k : Int) : Unit ⊕ Int)) none) l 0 with
   | none => rfl
   | some t => cases t <;> rfl
 rw [e, Option.bind_some]
 rcases findS_ix (fun x : TAgreement => x.ID == id) (fun k => (Sum.inr (k : Int) : Unit ⊕ Int)) l 0 with ⟨h1, h2⟩ | ⟨j, hj, h1, h2⟩
 ·rw [h1, h2]; rfl
 ·rw [h1, h2]
  show cond (decide (((0 + j : Nat) : Int) < 0)) _ (Option.bind (idx l ((0 + j : Nat) : Int)) _) = _
  rw [decide_eq_false (by omega), Nat.zero_add, idx_nat hj]; rfl
def zipB {α : Type} (R : α → α → Bool) : List α → List α → Bool
 | [], _ => true
 | _ :: _, [] => true
 | x :: a, y :: b => R x y && zipB R a b
def eqLB {α : Type} (R : α → α → Bool) (a b : List α) : Bool := a.length == b.length && zipB R a b
theorem findS_zip {α T : Type} (R : α → α → Bool) (t : T) (B : List α) : ∀ (a b : List α) (i : Nat), B.drop i = b → a.length = b.length → findS (fun k x => cond (R x (B.getD k x)) none (some t)) a i = cond (zipB R a b) none (some t)
 | [], b, _, _, _ => by cases b <;> rfl
 | x :: a, [], _, _, h => by simp at h
 | x :: a, y :: b, i, hd, h => by
  have hi : i < B.length := by
   rcases Nat.lt_or_ge i B.length with h | h
   ·exact h
   ·rw [List.drop_of_length_le h] at hd; cases hd
  rw [List.drop_eq_getElem_cons hi] at hd
  injection hd with h1 h2
  rw [findS, zipB, getD_in hi, h1, findS_zip R t B a b (i + 1) h2 (by simpa using h)]
  cases R x y <;> rfl
theorem eqLB_iff {α : Type} {R : α → α → Bool} : ∀ {a b : List α}, (∀ x ∈ a, ∀ y ∈ b, R x y = true ↔ x = y) → (eqLB R a b = true ↔ a = b)
 | [], [], _ => by simp [eqLB, zipB]
 | [], y :: b, _ => by simp [eqLB]
 | x :: a, [], _ => by simp [eqLB]
 | x :: a, y :: b, h => by
  have ih := eqLB_iff (R := R) (a := a) (b := b) fun u hu v hv => h u (by simp [hu]) v (by simp [hv])
  have h0 := h x (by simp) y (by simp)
  unfold eqLB at ih ⊢
  rw [zipB]
  simp only [List.length_cons, Bool.and_eq_true, beq_iff_eq, Nat.add_right_cancel_iff, List.cons.injEq] at ih ⊢
  constructor
  ·rintro ⟨h1, h2, h3⟩; exact ⟨h0.1 h2, ih.1 ⟨h1, h3⟩⟩
  ·rintro ⟨h1, h2⟩; exact ⟨(ih.2 h2).1, h0.2 h1, (ih.2 h2).2⟩
theorem len_beq {α : Type} (a b : List α) : ((a.length : Int) != (b.length : Int)) = !(a.length == b.length) := by
 by_cases h : a.length = b.length
 ·rw [h]; simp
 ·have h2 : ¬ (a.length : Int) = (b.length : Int) := by omega
  have e1 : (a.length == b.length) = false := by simpa using h
  have e2 : ((a.length : Int) == (b.length : Int)) = false := by simpa using h2
  rw [e1, bne, e2]
theorem eq_loop {α : Type} {a b : List α} (ha : a.length ≤ 140737488355328) (R : α → α → Bool) {body : Int → Option (Int ⊕ (Unit ⊕ Bool))} {k : Unit ⊕ Bool → Option Bool} (hk : k (.inl ()) = some true ∧ k (.inr false) = some false) (hab : a.length = b.length)
    (hstep : ∀ (k : Nat) (hk : k < a.length) (hk2 : k < b.length), body (k : Int) = some (outg k (cond (R a[k] b[k]) none (some (.inr false))))) (hend : body (a.length : Int) = some (.inr (.inl ()))) : Option.bind (loopF body FUEL 0) k = some (zipB R a b) := by
  refine (find_loop (l := a) (by omega) (fun i x => cond (R x (b.getD i x)) none (some (.inr false))) (.inl ()) (fun i hi => ?_) hend).trans ?_
  · rw [hstep i hi (by omega), getD_in (show i < b.length by omega)]
  · rw [findS_zip R (Sum.inr false : Unit ⊕ Bool) b a b 0 rfl hab]
    cases zipB R a b
    · exact hk.2
    · exact hk.1
theorem sameStrings_ok (a b : List ByteArray) (ha : a.length ≤ 140737488355328) : ref08_SameStrings a b = some (decide (a = b)) := by
 have hiff : eqLB (fun x y => decide (x = y)) a b = decide (a = b) := by
  have := eqLB_iff (R := fun x y : ByteArray => decide (x = y)) (a := a) (b := b) (fun x _ y _ => by simp)
  cases h : eqLB (fun x y => decide (x = y)) a b
  ·rw [h] at this; exact (decide_eq_false fun e => by have := this.2 e; cases this).symm
  ·exact (decide_eq_true (this.1 h)).symm
 rw [← hiff]
 unfold ref08_SameStrings eqLB
 rw [len_beq]
 cases h : (a.length == b.length)
 ·rfl
 ·simp only [Bool.not_true, cond_false, Bool.true_and]
  refine eq_loop ha _ ⟨rfl, rfl⟩ (eq_of_beq h) (fun k hk hk2 => ?_) (by simp only [dnlt, cond_false])
  simp only [dlt hk, cond_true, idx_nat hk, idx_nat hk2, Option.bind_some, wnext hk (show a.length ≤ 4611686018427387904 by omega)]
  cases decide (a[k] = b[k]) <;> rfl
theorem equalStrings_ok (a b : List ByteArray) (ha : a.length ≤ 140737488355328) : slices_Equal_string_string a b = some (decide (a = b)) := by
 rw [← sameStrings_ok a b ha]; rfl
mutual
def ruleEq : TRule → TRule → Bool
 | ⟨k, d, e, t, m, n, l⟩, ⟨k', d', e', t', m', n', l'⟩ => k == k' && d == d' && t == t' && m == m' && decide (n = n') && decide (e = e') && rulesEq l l'
def rulesEq : List TRule → List TRule → Bool
 | [], [] => true
 | [], _ :: _ => false
 | _ :: _, [] => false
 | a :: l, b :: m => ruleEq a b && rulesEq l m
end
mutual
theorem ruleEq_iff : ∀ a b : TRule, ruleEq a b = true ↔ a = b
 | ⟨k, d, e, t, m, n, l⟩, ⟨k', d', e', t', m', n', l'⟩ => by
  rw [ruleEq]
  simp only [Bool.and_eq_true, beq_iff_eq, decide_eq_true_eq, rulesEq_iff l l', TRule.mk.injEq]
  constructor
  ·rintro ⟨⟨⟨⟨⟨⟨h1, h2⟩, h3⟩, h4⟩, h5⟩, h6⟩, h7⟩; exact ⟨h1, h2, h6, h3, h4, h5, h7⟩
  ·rintro ⟨h1, h2, h6, h3, h4, h5, h7⟩; exact ⟨⟨⟨⟨⟨⟨h1, h2⟩, h3⟩, h4⟩, h5⟩, h6⟩, h7⟩
theorem rulesEq_iff : ∀ a b : List TRule, rulesEq a b = true ↔ a = b
 | [], [] => by simp [rulesEq]
 | [], _ :: _ => by simp [rulesEq]
 | _ :: _, [] => by simp [rulesEq]
 | a :: l, b :: m => by rw [rulesEq, Bool.and_eq_true, ruleEq_iff a b, rulesEq_iff l m, List.cons.injEq]
end
theorem rulesEq_zip : ∀ a b : List TRule, rulesEq a b = eqLB ruleEq a b
 | [], [] => by simp [rulesEq, eqLB, zipB]
 | [], _ :: _ => by simp [rulesEq, eqLB]
 | _ :: _, [] => by simp [rulesEq, eqLB]
 | a :: l, b :: m => by
  rw [rulesEq, rulesEq_zip l m]
  unfold eqLB
  rw [zipB, List.length_cons, List.length_cons]
  have : (l.length + 1 == m.length + 1) = (l.length == m.length) := by
   cases h : (l.length == m.length)
   ·have := (beq_eq_false_iff_ne).1 h; exact beq_eq_false_iff_ne.2 (by omega)
   ·have := eq_of_beq h; rw [this]; simp
  rw [this]
  cases ruleEq a b <;> cases (l.length == m.length) <;> rfl
theorem ruleEq_def (a b : TRule) : ruleEq a b = (a.Kind == b.Kind && a.Digits == b.Digits && a.Tolerance == b.Tolerance && a.Limit == b.Limit && decide (a.Name = b.Name) && decide (a.Except = b.Except) && eqLB ruleEq a.Args b.Args) := by
 cases a; cases b; rw [ruleEq, rulesEq_zip]
theorem equalRule_F (n : Nat) : ∀ (a b : TRule), ROk a → dep a ≤ n → cumulation_equalRule_F n a b = some (ruleEq a b) := by
 induction n with
 | zero => intro a b _ hd; rw [dep_eq] at hd; omega
 | succ n ih =>
  intro a b ha hd
  have hl := ha.len
  have hA : slices_EqualFunc_api_Rule_api_Rule_api_Rule_api_Rule a.Args b.Args (fun y4 y5 => cumulation_equalRule_F n y4 y5) = some (eqLB ruleEq a.Args b.Args) := by
   unfold slices_EqualFunc_api_Rule_api_Rule_api_Rule_api_Rule eqLB
   rw [len_beq]
   cases h : (a.Args.length == b.Args.length)
   ·rfl
   simp only [Bool.not_true, cond_false, Bool.true_and]
   refine eq_loop hl _ ⟨rfl, rfl⟩ (eq_of_beq h) (fun k hk hk2 => ?_) (by simp only [dnlt, cond_false])
   simp only [dlt hk, cond_true, idx_nat hk, idx_nat hk2, Option.bind_some, wnext hk (show a.Args.length ≤ 4611686018427387904 by omega)]
   rw [ih _ _ (ha.arg (List.getElem_mem hk)) (by have := dep_arg (List.getElem_mem hk); omega), Option.bind_some]
   cases ruleEq a.Args[k] b.Args[k] <;> rfl
  show cumulation_equalRule_B (cumulation_equalRule_F n) a b = _
  unfold cumulation_equalRule_B
  rw [equalStrings_ok _ _ ha.ex.1, ruleEq_def, hA]
  cases (a.Kind == b.Kind && a.Digits == b.Digits && a.Tolerance == b.Tolerance && a.Limit == b.Limit && decide (a.Name = b.Name))
  ·rfl
  cases decide (a.Except = b.Except)
  ·rfl
  cases eqLB ruleEq a.Args b.Args <;> rfl
def rfEq (x y : TRuleFor) : Bool := decide (x.Prefix = y.Prefix) && ruleEq x.Rule y.Rule
theorem prog_sameRules (a b : List TRuleFor) (ha : a.length ≤ 140737488355328) (hr : ∀ x ∈ a, RFOk x) (hv : ∀ x ∈ a, ruleE x.Rule = 0) : cumulation_equalRules a b = some (eqLB rfEq a b) := by
 unfold cumulation_equalRules slices_EqualFunc_api_RuleFor_api_RuleFor_api_RuleFor_api_RuleFor eqLB
 rw [len_beq]
 cases h : (a.length == b.length)
 ·rfl
 simp only [Bool.not_true, cond_false, Bool.true_and]
 rw [eq_loop ha rfEq ⟨rfl, rfl⟩ (eq_of_beq h) (fun k hk hk2 => ?_) (by simp only [dnlt, cond_false])]
 ·rfl
 have hx := hr _ (List.getElem_mem hk)
 have hxv := hv _ (List.getElem_mem hk)
 simp only [dlt hk, cond_true, idx_nat hk, idx_nat hk2, Option.bind_some, wnext hk (show a.length ≤ 4611686018427387904 by omega), rfEq]
 unfold cumulation_equalRules_1
 cases decide (a[k].Prefix = b[k].Prefix)
 ·rfl
 ·have e : cumulation_equalRule a[k].Rule b[k].Rule = some (ruleEq a[k].Rule b[k].Rule) := equalRule_F FUEL _ _ hx.rule (by have hf : FUEL = 1267650600228229401496703205376 := rfl; have := hx.deep; omega)
  simp only [gd_tt, prog_rule _ hx.rule hx.deep, hxv, Option.bind_some, beq_self_eq_true, Bool.and_self, e, Bool.true_and]
  cases ruleEq a[k].Rule b[k].Rule <;> rfl
end SX
end Go.Proofs.YtiijbkaiipjpkaaGreatDoor
set_option maxRecDepth 100000
namespace Go.Proofs.YtiijbkaiipjpkaaGreatDoor
namespace SX
open Go
def Digs (l : List Int) : Prop := ∀ x ∈ l, 48 ≤ x ∧ x ≤ 57
theorem code_Y {p : Tmade_Source} (hp : SOK p) (n : Nat) (hn : n = 6 ∨ n = 8) : Y (made_Source_Code p (n : Int)) (fun r => (∃ l : List Int, r.1 = strOfNums l ∧ l.length = n ∧ Digs l) ∧ SOK r.2) := by
 unfold made_Source_Code
 refine (next_Y hp 2 (by omega) (by omega)).bind fun a ⟨a1, a2, a3⟩ => ?_
 rw [i64s (by omega) (by omega), wrap_u8 (by omega)]
 refine Y.bind (P := fun t : List Int × List Int × Int => t.1.length = n ∧ Digs t.1 ∧ SOK ⟨t.2.1, t.2.2⟩) ?_ fun t ⟨t1, t2, t3⟩ => ?_
 ·refine Y.loop (fun s : List Int × List Int × Int => (s.1.length % 2 = 0 ∧ s.1.length ≤ n) ∧ Digs s.1 ∧ SOK ⟨s.2.1, s.2.2⟩) (fun s => n - s.1.length) ⟨⟨by simp, by simp; omega⟩, fun x hx => by simp at hx; omega, a3⟩ (by dsimp only; omega) fun s hs => ?_
  obtain ⟨l, m, i⟩ := s
  obtain ⟨⟨s0, s1⟩, s2, s3⟩ := hs
  dsimp only at s0 s1 s2 s3 ⊢
  refine Y.cond (fun hc => ?_) (fun hc => Y.ret ⟨by have := of_decide_eq_false hc; dsimp only; omega, s2, s3⟩)
  have hc := of_decide_eq_true hc
  refine (next_Y s3 3 (by omega) (by omega)).bind fun x ⟨x1, x2, x3⟩ => ?_
  rw [app_ok (by simp; omega) (by simp; omega), Option.bind_some, i64s (by omega) (by omega), wrap_u8 (by omega)]
  refine Y.ret ⟨⟨⟨by simp; omega, by simp; omega⟩, fun z hz => ?_, x3⟩, by simp; omega⟩
  rcases List.mem_append.1 hz with hz | hz
  ·exact s2 z hz
  ·simp only [List.mem_cons, List.not_mem_nil, or_false] at hz; omega
 ·obtain ⟨l, m, i⟩ := t
  exact Y.ret ⟨⟨l, rfl, t1, t2⟩, t3⟩
theorem code_lvl {l : List Int} {n : Nat} (hn : n = 6 ∨ n = 8) (h1 : l.length = n) (h2 : Digs l) : level (strOfNums l) = (n : Int) ∧ (strOfNums l).size = n := by
 have hs : (strOfNums l).size = n := by
  unfold strOfNums
  show (Array.mk _).size = n
  simp [h1]
 have hd : allDig (strOfNums l) = true := by
  unfold allDig bl strOfNums
  rw [List.all_eq_true]
  intro c hc
  simp only [List.mem_map] at hc
  obtain ⟨x, hx, rfl⟩ := hc
  have := h2 x hx
  have h3 : (UInt8.ofNat x.toNat).toNat = x.toNat := by
   rw [UInt8.toNat_ofNat']; omega
  simp only [isDig, h3, decide_eq_true_eq]
  omega
 refine ⟨?_, hs⟩
 unfold level
 rw [if_pos ⟨by omega, hd⟩, hs]
def W5 : List ByteArray := [(⟨#[97, 110, 100]⟩ : ByteArray), (⟨#[99, 117, 116]⟩ : ByteArray), (⟨#[111, 114]⟩ : ByteArray), (⟨#[115, 101, 119]⟩ : ByteArray), (⟨#[115, 112, 105, 110]⟩ : ByteArray)]
theorem W5_ok : W5.all wordB = true ∧ ascB ltS W5 = true ∧ (W5.all fun s => decide (s.size ≤ 100)) = true := ⟨by kernel_rfl, by kernel_rfl, by kernel_rfl⟩
theorem processes_Y {p : Tmade_Source} (hp : SOK p) : Y (made_Source_processes p) (fun r => r.1.Sublist W5 ∧ SOK r.2) := by
 unfold made_Source_processes
 refine (next_Y hp 32 (by omega) (by omega)).bind fun a ⟨a1, a2, a3⟩ => ?_
 refine Y.bind (P := fun l : List ByteArray => l.Sublist W5) ?_ fun l hl => Y.ret ⟨hl, a3⟩
 refine Y.loop (fun s => ∃ v : Nat, s.2 = (v : Int) ∧ v ≤ 5 ∧ s.1.Sublist (W5.take v)) (fun s => (5 - s.2).toNat) ⟨0, rfl, by omega, List.Sublist.refl _⟩ (by dsimp only; omega) fun s hs => ?_
 obtain ⟨l, i⟩ := s
 obtain ⟨v, rfl, h1, h2⟩ := hs
 dsimp only at h2 ⊢
 have hlen : l.length ≤ 5 := by have := h2.length_le; have h6 : W5.length = 5 := rfl; rw [List.length_take] at this; omega
 refine Y.cond (fun hc => ?_) (fun hc => Y.ret (h2.trans (List.take_sublist _ _)))
 have hv : v < 5 := by have := of_decide_eq_true hc; omega
 have hs := sublist_take h2 (show v < W5.length from hv)
 refine Y.bind (P := fun m : List ByteArray => m.Sublist (W5.take (v + 1))) (Y.eq (ge0_nat v) (Y.cond (fun _ => ?_) fun _ => Y.ret hs.2)) fun m hm => Y.ret ⟨⟨v + 1, ?_, by omega, hm⟩, ?_⟩
 ·refine Y.idx (xs := W5) rfl (show v < W5.length from hv) ?_
  rw [app_ok (by simp; omega) (by simp; omega)]; exact Y.ret hs.1
 ·show IntKind.i64.wrap ((v : Int) + 1) = _; rw [i64s (by omega) (by omega)]; omega
 ·show (5 - IntKind.i64.wrap ((v : Int) + 1)).toNat < (5 - (v : Int)).toNat; rw [i64s (by omega) (by omega)]; omega
theorem codeN {x : Int} (h1 : 0 ≤ x) (h2 : x < 2) : ∃ n : Nat, (n = 6 ∨ n = 8) ∧ IntKind.i64.wrap (6 + IntKind.i64.wrap (2 * x)) = (n : Int) := by
 rw [i64s (r := 2 * x) (by omega) (by omega), i64s (by omega) (by omega)]
 exact ⟨(6 + 2 * x).toNat, by omega, by omega⟩
end SX
end Go.Proofs.YtiijbkaiipjpkaaGreatDoor
set_option maxRecDepth 100000
namespace Go.Proofs.YtiijbkaiipjpkaaGreatDoor
namespace SX
open Go
structure MProd (n : Nat) (i : Nat) (p : TProduct) : Prop where
 id : p.ID = 3 * ((i : Int) + 1)
 lvl : (level p.Code = 6 ∨ level p.Code = 8) ∧ 6 ≤ p.Code.size ∧ p.Code.size ≤ 8
 ctr : p.Country ∈ C6
 price : 1 ≤ p.Price ∧ p.Price ≤ 200
 proc : p.Processes.Sublist W5
 few : p.Inputs.length ≤ 4
 asc : p.Inputs.Pairwise fun a b => a.Product < b.Product
 inp : ∀ x ∈ p.Inputs, (∃ k : Nat, k < n ∧ x.Product = 3 * ((k : Int) + 1)) ∧ 0 ≤ x.Value ∧ x.Value < 100
 obt : p.Obtained = true → p.Inputs = []
structure MPs (l : List TProduct) : Prop where
 len : 1 ≤ l.length ∧ l.length ≤ 10
 all : ∀ (i : Nat) (p : TProduct), l[i]? = some p → MProd l.length i p
theorem plan_Y (p0 : List Int) : Y (made_Plan p0) MPs := by
 unfold made_Plan
 refine (cut_Y p0 300 (by omega) (by omega)).bind fun x1 hx1 => ?_
 refine (next_Y hx1 10 (by omega) (by omega)).bind fun x3 ⟨a1, a2, a3⟩ => ?_
 rw [i64s (r := 1 + x3.1) (by omega) (by omega)]
 obtain ⟨n, hn⟩ : ∃ n : Nat, 1 + x3.1 = (n : Int) := ⟨(1 + x3.1).toNat, by omega⟩
 rw [hn]
 have hn1 : 1 ≤ n ∧ n ≤ 10 := by omega
 refine Y.bind (P := MPs) ?_ fun l hl => Y.ret hl
 refine Y.loop (fun s : List TProduct × Int × List Int × Int => (s.2.1 = (s.1.length : Int) + 1 ∧ s.1.length ≤ n) ∧ SOK ⟨s.2.2.1, s.2.2.2⟩ ∧ ∀ i p, s.1[i]? = some p → MProd n i p) (fun s => n - s.1.length) ⟨⟨rfl, by simp⟩, a3, by simp⟩ (by dsimp only; omega) fun s hs => ?_
 obtain ⟨l5, v8, l9, v10⟩ := s
 obtain ⟨⟨h1, h2⟩, h3, h4⟩ := hs
 dsimp only at h1 h2 h3 h4 ⊢
 refine Y.cond (fun hc => ?_) (fun hc => Y.ret ?_)
 rotate_left
 ·have hc := of_decide_eq_false hc
  have e : l5.length = n := by omega
  exact ⟨by omega, by rw [e]; exact h4⟩
 have hc := of_decide_eq_true hc
 refine (next_Y h3 2 (by omega) (by omega)).bind fun x19 ⟨b1, b2, b3⟩ => ?_
 obtain ⟨w, hw, e⟩ := codeN b1 b2
 rw [e]
 refine (code_Y b3 w hw).bind fun x20 ⟨⟨cl, hc1, hc2, hc3⟩, hx20⟩ => ?_
 have hcode := code_lvl hw hc2 hc3
 refine Y.eq countries_ok ?_
 refine (next_Y hx20 4 (by omega) (by omega)).bind fun x22 ⟨c1, c2, c3⟩ => ?_
 obtain ⟨j, hj⟩ : ∃ j : Nat, x22.1 = (j : Int) := ⟨x22.1.toNat, by omega⟩
 refine Y.idx hj (show j < C6.length by have h6 : C6.length = 6 := rfl; omega) ?_
 refine (next_Y c3 200 (by omega) (by omega)).bind fun x24 ⟨d1, d2, d3⟩ => ?_
 refine (processes_Y d3).bind fun x25 ⟨hpr, hx25⟩ => ?_
 refine (next_Y hx25 4 (by omega) (by omega)).bind fun x26 ⟨_, _, h26⟩ => ?_
 refine (next_Y h26 1024 (by omega) (by omega)).bind fun x28 ⟨_, _, h28⟩ => ?_
 refine Y.bind (P := fun t : List Int × Int × List TIngredient => SOK ⟨t.1, t.2.1⟩ ∧ t.2.2.length ≤ 4 ∧ (t.2.2.Pairwise fun a b => a.Product < b.Product) ∧ (∀ x ∈ t.2.2, (∃ k : Nat, k < n ∧ x.Product = 3 * ((k : Int) + 1)) ∧ 0 ≤ x.Value ∧ x.Value < 100) ∧ ((x26.1 == 1) = true → t.2.2 = [])) ?_ fun t ⟨t1, t2, t3, t4, t5⟩ => ?_
 ·refine Y.loop (fun s : Int × List Int × Int × List TIngredient => ∃ v : Nat, s.1 = (v : Int) + 1 ∧ v ≤ n ∧ SOK ⟨s.2.1, s.2.2.1⟩ ∧ s.2.2.2.length ≤ 4 ∧ (s.2.2.2.Pairwise fun a b => a.Product < b.Product) ∧ (∀ x ∈ s.2.2.2, (∃ k : Nat, k < v ∧ x.Product = 3 * ((k : Int) + 1)) ∧ 0 ≤ x.Value ∧ x.Value < 100) ∧ ((x26.1 == 1) = true → s.2.2.2 = [])) (fun s => (n + 1 - s.1).toNat) ⟨0, rfl, by omega, h28, by simp, List.Pairwise.nil, by simp, fun _ => rfl⟩ (by dsimp only; omega) fun s hs => ?_
  obtain ⟨i, l, k, m⟩ := s
  obtain ⟨v, rfl, s1, s2, s3, s4, s5, s6⟩ := hs
  dsimp only at s2 s3 s4 s5 s6 ⊢
  refine Y.cond (fun hc3 => ?_) (fun hc3 => Y.ret ⟨s2, s3, s4, fun x hx => ?_, s6⟩)
  rotate_left
  ·obtain ⟨⟨k, h5, h6⟩, h7⟩ := s5 x hx; exact ⟨⟨k, by omega, h6⟩, h7⟩
  simp only [Bool.and_eq_true, decide_eq_true_eq, Bool.not_eq_true'] at hc3
  obtain ⟨⟨hc4, hc5⟩, hc6⟩ := hc3
  rw [i64s (r := (v : Int) + 1 - 1) (by omega) (by omega), i64s (r := (v : Int) + 1 + 1) (by omega) (by omega), i64s (r := 3 * ((v : Int) + 1)) (by omega) (by omega)]
  refine Y.bind (P := fun t : List Int × Int × List TIngredient => SOK ⟨t.1, t.2.1⟩ ∧ t.2.2.length ≤ 4 ∧ (t.2.2.Pairwise fun a b => a.Product < b.Product) ∧ (∀ x ∈ t.2.2, (∃ k : Nat, k < v + 1 ∧ x.Product = 3 * ((k : Int) + 1)) ∧ 0 ≤ x.Value ∧ x.Value < 100)) ?_ fun t ⟨t1, t2, t3, t4⟩ => Y.ret ⟨⟨v + 1, by dsimp only; omega, by omega, t1, t2, t3, t4, fun h => by rw [hc6] at h; cases h⟩, by dsimp only; omega⟩
  rw [show (v : Int) + 1 - 1 = (v : Int) by omega]
  refine Y.eq (ge0_nat v) ?_
  refine Y.bind (P := fun r : Int × Tmade_Source => SOK r.2) (Y.gdp (fun _ => (next_Y s2 3 (by omega) (by omega)).mono fun r hr => hr.2.2) fun _ => s2) fun x56 hx56 => ?_
  refine Y.cond (fun _ => ?_) (fun _ => Y.ret ⟨hx56, s3, s4, fun x hx => ?_⟩)
  rotate_left
  ·obtain ⟨⟨k, h5, h6⟩, h7⟩ := s5 x hx; exact ⟨⟨k, by omega, h6⟩, h7⟩
  refine (next_Y hx56 100 (by omega) (by omega)).bind fun x58 ⟨e1, e2, e3⟩ => ?_
  rw [app_ok (by simp; omega) (by simp; omega), Option.bind_some]
  refine Y.ret ⟨e3, by simp; omega, ?_, fun x hx => ?_⟩
  ·rw [List.pairwise_append]
   refine ⟨s4, List.pairwise_singleton _ _, fun a ha b hb => ?_⟩
   rw [List.mem_singleton.1 hb]
   obtain ⟨⟨k, h5, h6⟩, _⟩ := s5 a ha
   dsimp only; omega
  ·rcases List.mem_append.1 hx with hx | hx
   ·obtain ⟨⟨k, h5, h6⟩, h7⟩ := s5 x hx; exact ⟨⟨k, by omega, h6⟩, h7⟩
   ·rw [List.mem_singleton.1 hx]; exact ⟨⟨v, by omega, rfl⟩, e1, e2⟩
 obtain ⟨l37, v38, l42⟩ := t
 dsimp only at t1 t2 t3 t4 t5 ⊢
 rw [app_ok (by simp; omega) (by simp; omega), Option.bind_some, i64s (r := v8 + 1) (by omega) (by omega), i64s (r := 1 + x24.1) (by omega) (by omega), i64s (r := 3 * v8) (by omega) (by omega)]
 refine Y.ret ⟨⟨⟨by simp; omega, by simp; omega⟩, t1, fun i p hp => ?_⟩, by simp; omega⟩
 rw [List.getElem?_append] at hp
 split at hp
 ·exact h4 i p hp
 ·rename_i hi
  have hi0 : i - l5.length = 0 := by have := (List.getElem?_eq_some_iff.1 hp).1; simp at this; omega
  rw [hi0] at hp
  simp only [List.getElem?_cons_zero, Option.some.injEq] at hp
  subst hp
  refine ⟨by dsimp only; omega, ?_, List.getElem_mem _, ⟨by dsimp only; omega, by dsimp only; omega⟩, hpr, t2, t3, t4, t5⟩
  dsimp only; rw [hc1, hcode.1, hcode.2]; omega
structure Sorted (l : List TProduct) : Prop where
 len : l.length ≤ 1000000
 asc : l.Pairwise fun a b => a.ID < b.ID
 small : ∀ p ∈ l, p.Processes.length ≤ 1000000 ∧ p.Inputs.length ≤ 1000000
def findP (l : List TProduct) (id : Int) : Option TProduct := l.find? fun p => p.ID == id
def zProd : TProduct := ⟨0, ByteArray.empty, ByteArray.empty, 0, false, [], []⟩
theorem half_u (x : Nat) (h : x ≤ 10000000) : IntKind.i64.wrap (ishr .u64 (IntKind.u64.wrap (IntKind.i64.wrap (x : Int))) 1) = ((x / 2 : Nat) : Int) := by
 rw [i64s (r := (x : Int)) (by omega) (by omega), u64s (by omega) (by omega)]
 have : ishr .u64 (x : Int) 1 = (x : Int) / 2 := Int.fdiv_eq_ediv_of_nonneg _ (by decide)
 rw [this, i64s (by omega) (by omega)]; omega
theorem search_ok (l : List TProduct) (id : Int) (h : Sorted l) : ∃ j : Nat, production_search l id = some ((j : Int), (findP l id).isSome) ∧ (∀ p, findP l id = some p → ∃ hj : j < l.length, l[j] = p) := by
 have hl := h.len
 have cmp : ∀ p : TProduct, production_search_1 p id = some (if p.ID < id then -1 else if id < p.ID then 1 else 0) := fun p => by unfold production_search_1; rw [cmpI]; rfl
 unfold production_search slices_BinarySearchFunc_api_Product_api_Product_int
 have hloop : Y (loopF (S := Int × Int) (T := (Int × Int)) (fun (v1, v2) => cond (decide (v1 < v2)) (lb ((IntKind.i64.wrap (ishr .u64 (IntKind.u64.wrap (IntKind.i64.wrap (v1 + v2))) 1))) (fun w8 => Option.bind (idx l w8) (fun m9 => Option.bind (production_search_1 m9 id) (fun x10 => cond (decide (x10 < 0)) (some (.inl ((IntKind.i64.wrap (w8 + 1)), v2))) (some (.inl (v1, w8))))))) (some (.inr (id, v1)))) FUEL (0, (l.length : Int))) (fun t => t.1 = id ∧ ∃ j : Nat, t.2 = (j : Int) ∧ j ≤ l.length ∧ (∀ (k : Nat) (p : TProduct), l[k]? = some p → k < j → p.ID < id) ∧ (∀ (k : Nat) (p : TProduct), l[k]? = some p → j ≤ k → id ≤ p.ID)) := by
  refine Y.loop (fun s : Int × Int => ∃ i j : Nat, s.1 = (i : Int) ∧ s.2 = (j : Int) ∧ i ≤ j ∧ j ≤ l.length ∧ (∀ (k : Nat) (p : TProduct), l[k]? = some p → k < i → p.ID < id) ∧ (∀ (k : Nat) (p : TProduct), l[k]? = some p → j ≤ k → id ≤ p.ID)) (fun s => (s.2 - s.1).toNat) ⟨0, l.length, rfl, rfl, by omega, by omega, fun k p _ hk => absurd hk (Nat.not_lt_zero _), fun k p hp hk => by have := (List.getElem?_eq_some_iff.1 hp).1; omega⟩ (by dsimp only; omega) fun s hs => ?_
  obtain ⟨a, b⟩ := s
  obtain ⟨i, j, rfl, rfl, h1, h2, h3, h4⟩ := hs
  dsimp only
  refine Y.cond (fun hc => ?_) (fun hc => Y.ret ⟨rfl, i, rfl, by omega, h3, fun k p hp hk => h4 k p hp (by have := of_decide_eq_false hc; omega)⟩)
  have hc : i < j := by have := of_decide_eq_true hc; omega
  unfold lb
  rw [show (i : Int) + (j : Int) = ((i + j : Nat) : Int) by omega, half_u _ (by omega)]
  have hm : (i + j) / 2 < l.length := by omega
  have pw := List.pairwise_iff_getElem.1 h.asc
  refine Y.idx rfl hm (Y.eq (cmp _) ?_)
  by_cases hlt : l[(i + j) / 2].ID < id
  ·rw [if_pos hlt]
   refine Y.ret ⟨⟨(i + j) / 2 + 1, j, ?_, rfl, by omega, h2, fun k p hp hk => ?_, h4⟩, ?_⟩
   ·show IntKind.i64.wrap _ = _; rw [i64s (by omega) (by omega)]; omega
   ·obtain ⟨hk2, rfl⟩ := List.getElem?_eq_some_iff.1 hp
    rcases Nat.lt_or_ge k ((i + j) / 2) with h5 | h5
    ·have := pw k ((i + j) / 2) hk2 hm h5; omega
    ·have e : k = (i + j) / 2 := by omega
     subst e; exact hlt
   ·show ((j : Int) - IntKind.i64.wrap _).toNat < _; rw [i64s (by omega) (by omega)]; omega
  ·rw [if_neg hlt]
   have hd : decide ((if id < l[(i + j) / 2].ID then (1 : Int) else 0) < 0) = false := by split <;> rfl
   rw [hd]
   refine Y.ret ⟨⟨i, (i + j) / 2, rfl, rfl, by omega, by omega, h3, fun k p hp hk => ?_⟩, by dsimp only; omega⟩
   obtain ⟨hk2, rfl⟩ := List.getElem?_eq_some_iff.1 hp
   rcases Nat.lt_or_ge ((i + j) / 2) k with h5 | h5
   ·have := pw ((i + j) / 2) k hm hk2 h5; omega
   ·have e : k = (i + j) / 2 := by omega
    subst e; omega
 obtain ⟨⟨t1, t2⟩, e, rfl, j, hj, h1, h2, h3⟩ := hloop
 dsimp only at hj
 subst hj
 rw [e]
 simp only [Option.bind_some]
 by_cases hjl : j < l.length
 ·rw [decide_eq_true (show (j : Int) < (l.length : Int) by omega), gd_tt, idx_nat hjl, Option.bind_some, gd_tt, cmp, Option.bind_some]
  have h4 := h3 j _ (List.getElem?_eq_getElem hjl) (Nat.le_refl _)
  rw [if_neg (by omega)]
  by_cases heq : t1 < l[j].ID
  ·have hn : findP l t1 = none := by
    unfold findP; rw [List.find?_eq_none]
    intro p hp
    obtain ⟨k, hk, rfl⟩ := List.getElem_of_mem hp
    have : l[k].ID ≠ t1 := by
     rcases Nat.lt_or_ge k j with h5 | h5
     ·have := h2 k _ (List.getElem?_eq_getElem hk) h5; omega
     ·rcases Nat.lt_or_ge j k with h6 | h6
      ·have := List.pairwise_iff_getElem.1 h.asc j k hjl hk h6; omega
      ·have e : k = j := by omega
       subst e; omega
    simpa using this
   rw [if_pos heq, hn]; exact ⟨j, rfl, fun p hp => by cases hp⟩
  ·have hid : l[j].ID = t1 := by omega
   have hs : findP l t1 = some l[j] := by
    unfold findP
    rw [List.find?_eq_some_iff_getElem]
    refine ⟨by simpa using hid, j, hjl, rfl, fun k hk => ?_⟩
    have := h2 k _ (List.getElem?_eq_getElem (by omega)) hk
    have : l[k].ID ≠ t1 := by omega
    simpa using this
   rw [if_neg heq, hs]; exact ⟨j, rfl, fun p hp => by injection hp with hp; exact ⟨hjl, hp⟩⟩
 ·rw [decide_eq_false (show ¬ (j : Int) < (l.length : Int) by omega), gd_ff, Option.bind_some, gd_ff, Option.bind_some]
  have hn : findP l t1 = none := by
   unfold findP; rw [List.find?_eq_none]
   intro p hp
   obtain ⟨k, hk, rfl⟩ := List.getElem_of_mem hp
   have := h2 k _ (List.getElem?_eq_getElem hk) (by omega)
   have : l[k].ID ≠ t1 := by omega
   simpa using this
  rw [hn]; exact ⟨j, rfl, fun p hp => by cases hp⟩
theorem prog_findP (l : List TProduct) (id : Int) (h : Sorted l) : production_Find l id = some (opt2 zProd (findP l id)) := by
 unfold production_Find
 obtain ⟨j, e, hj⟩ := search_ok l id h
 rw [e, Option.bind_some]
 cases hf : findP l id with
 | none => rfl
 | some p =>
  obtain ⟨hjl, rfl⟩ := hj p hf
  have hs := h.small _ (List.getElem_mem hjl)
  simp only [Option.isSome_some, Bool.not_true, cond_false, idx_nat hjl, Option.bind_some]
  unfold slices_Clone_string_string slices_Clone_api_Ingredient_api_Ingredient
  rw [app_nil_ok (by omega) (by omega), Option.bind_some, app_nil_ok (by omega) (by omega), Option.bind_some]; rfl
theorem MPs.sorted {l : List TProduct} (h : MPs l) : Sorted l := by
 refine ⟨by have := h.len; omega, ?_, fun p hp => ?_⟩
 ·rw [List.pairwise_iff_getElem]
  intro i j hi hj hij
  have h1 := (h.all i _ (List.getElem?_eq_getElem hi)).id
  have h2 := (h.all j _ (List.getElem?_eq_getElem hj)).id
  omega
 ·obtain ⟨i, hi, rfl⟩ := List.getElem_of_mem hp
  have hm := h.all i _ (List.getElem?_eq_getElem hi)
  have h1 := hm.proc.length_le; have h2 := hm.few; have h6 : W5.length = 5 := rfl
  omega
end SX
end Go.Proofs.YtiijbkaiipjpkaaGreatDoor
set_option maxRecDepth 100000
namespace Go.Proofs.YtiijbkaiipjpkaaGreatDoor
namespace SX
open Go
structure VAs (l : List TAgreement) : Prop where
 len : l.length ≤ 1000
 all : ∀ a ∈ l, VA a
theorem MAs.vas {l : List TAgreement} (h : MAs l) : VAs l := ⟨by have := h.len; omega, fun a ha => by obtain ⟨i, hi, rfl⟩ := List.getElem_of_mem ha; exact (h.all i _ (List.getElem?_eq_getElem hi)).va⟩
theorem findA_va {l : List TAgreement} (h : VAs l) {id : Int} {a : TAgreement} (ha : findA l id = some a) : VA a ∧ a.ID = id ∧ a ∈ l := by
 have hm := List.mem_of_find?_eq_some ha
 exact ⟨h.all a hm, by have := List.find?_some ha; simpa using this, hm⟩
def hasP (a : TAgreement) (x y : ByteArray) : Bool := hasS a.Parties x && hasS a.Parties y
theorem prog_hasP (a : TAgreement) (x y : ByteArray) (ha : VA a) : cumulation_hasParties a x y = some (hasP a x y) := by
 have := ha.ok.par.1
 unfold cumulation_hasParties hasP
 rw [prog_has _ _ this, prog_has _ _ this, Option.bind_some]
 cases hasS a.Parties x <;> rfl
def admB (p : List TProduct) (l : List TAgreement) (i : ByteArray) (c : TOriginClaim) : Bool := match findP p c.Product, findA l c.Agreement with
 | some q, some a => !decide (q.Country = i) && hasP a q.Country i && (ruleOfS a q.Code).isSome
 | _, _ => false
theorem prog_adm (p : List TProduct) (l : List TAgreement) (i : ByteArray) (c : TOriginClaim) (hp : Sorted p) (hl : VAs l) : cumulation_Admissible p l i c = some (admB p l i c) := by
 unfold cumulation_Admissible admB
 have := hl.len
 rw [prog_findP _ _ hp, Option.bind_some]
 cases findP p c.Product with
 | none => rfl
 | some q =>
  rw [prog_findA _ _ (by omega)]
  simp only [opt2, Bool.not_true, cond_false, Option.bind_some]
  cases ha : findA l c.Agreement with
  | none => rfl
  | some a =>
   have hv := (findA_va hl ha).1
   rw [prog_hasP _ _ _ hv, prog_ruleOf _ _ hv]
   by_cases hq : q.Country = i
   ·simp [hq, gd]
   ·cases h1 : hasP a q.Country i
    ·simp [hq, gd, h1]
    ·cases h2 : ruleOfS a q.Code <;> simp [hq, gd, opt2, h1, h2]
def partner (a : TAgreement) (id : Int) (e i : ByteArray) (b : TAgreement) : Bool := !(b.ID == id) && hasP b e i && eqLB rfEq a.Rules b.Rules
def partnersS (l : List TAgreement) (id : Int) (e i : ByteArray) : List Int := match findA l id with
 | none => []
 | some a => id :: cond (a.Kind == 2) ((l.filter (partner a id e i)).map (·.ID)) []
theorem fold_filter (P : TAgreement → Bool) : ∀ (l : List TAgreement) (acc : List Int), l.foldl (fun acc b => cond (P b) (acc ++ [b.ID]) acc) acc = acc ++ (l.filter P).map (·.ID)
 | [], acc => by simp
 | b :: l, acc => by
  rw [List.foldl_cons, fold_filter P l, List.filter_cons]
  cases P b <;> simp
theorem prog_partners (l : List TAgreement) (id : Int) (e i : ByteArray) (hl : VAs l) : cumulation_Partners l id e i = some (partnersS l id e i) := by
 unfold cumulation_Partners partnersS
 have hlen := hl.len
 rw [prog_findA _ _ (by omega), Option.bind_some]
 cases ha : findA l id with
 | none => rfl
 | some a =>
  have hv := (findA_va hl ha).1
  simp only [opt2, Bool.not_true, cond_false, bne]
  cases hk : (a.Kind == 2)
  ·rfl
  simp only [Bool.not_true, cond_false, cond_true]
  refine (fold_loop (l := l) (by omega) (fun i (a : List Int) => (a, i)) (fun acc b => cond (partner a id e i b) (acc ++ [b.ID]) acc) (fun a => a) (fun k acc => acc.length ≤ k + 1) [id] (by simp) (fun k hk acc hacc => ⟨?_, ?_⟩) (fun acc _ => by simp only [dnlt, cond_false])).1.trans ?_
  ·have hb := hl.all _ (List.getElem_mem hk)
   simp only [dlt hk, cond_true, idx_nat hk, Option.bind_some, wnext hk (show l.length ≤ 4611686018427387904 by omega), partner, bne]
   rw [prog_hasP _ _ _ hb, prog_sameRules _ _ hv.ok.len hv.ok.rules hv.rules]
   cases (l[k].ID == id)
   ·cases hasP l[k] e i
    ·rfl
    ·cases eqLB rfEq a.Rules l[k].Rules
     ·rfl
     ·simp only [Bool.not_false, gd_tt, Option.bind_some, Bool.and_self, cond_true]
      rw [app_ok (by simp; omega) (by simp; omega)]; rfl
   ·rfl
  ·cases partner a id e i l[k] <;> simp <;> omega
  ·rw [fold_filter]; rfl
def AscA (l : List TAgreement) : Prop := l.Pairwise fun a b => a.ID < b.ID
theorem MAs.asc {l : List TAgreement} (h : MAs l) : AscA l := by
 unfold AscA; rw [List.pairwise_iff_getElem]
 intro i j hi hj hij
 have h1 := (h.all i _ (List.getElem?_eq_getElem hi)).id
 have h2 := (h.all j _ (List.getElem?_eq_getElem hj)).id
 omega
theorem partners_len (l : List TAgreement) (id : Int) (e i : ByteArray) : (partnersS l id e i).length ≤ l.length + 1 := by
 unfold partnersS
 cases findA l id with
 | none => simp
 | some a => cases h : (a.Kind == 2) <;> simp [h]; exact List.length_filter_le _ _
theorem importer_Y (x : Int) : Y (made_Importer x) (fun s => s ∈ C6) := by
 unfold made_Importer
 refine (within_Y x 8 (by omega) (by omega)).bind fun r ⟨h1, h2⟩ => ?_
 obtain ⟨j, hj⟩ : ∃ j : Nat, r = (j : Int) := ⟨r.toNat, by omega⟩
 refine Y.idx hj (show j < 8 by omega) (Y.ret ?_)
 have hj8 : j < 8 := by omega
 match j, hj8 with
 | 0, _ => exact .tail _ (.head _)
 | 1, _ => exact .tail _ (.head _)
 | 2, _ => exact .tail _ (.head _)
 | 3, _ => exact .head _
 | 4, _ => exact .tail _ (.tail _ (.head _))
 | 5, _ => exact .tail _ (.tail _ (.tail _ (.head _)))
 | 6, _ => exact .tail _ (.tail _ (.tail _ (.tail _ (.head _))))
 | 7, _ => exact .tail _ (.tail _ (.tail _ (.tail _ (.tail _ (.head _)))))
end SX
end Go.Proofs.YtiijbkaiipjpkaaGreatDoor
set_option maxRecDepth 100000
set_option linter.unusedSectionVars false
namespace Go.Proofs.YtiijbkaiipjpkaaGreatDoor
namespace SX
open Go
section
variable {α : Type} [DecidableEq α]
def dd : List α → List α
 | [] => []
 | [x] => [x]
 | x :: y :: l => cond (decide (x = y)) (dd (y :: l)) (x :: dd (y :: l))
theorem dd_snoc (x y : α) : ∀ l : List α, dd (l ++ [x, y]) = cond (decide (x = y)) (dd (l ++ [x])) (dd (l ++ [x]) ++ [y])
 | [] => by
  show dd [x, y] = _
  rw [dd]
  cases h : decide (x = y)
  ·rfl
  ·have := of_decide_eq_true h; subst this; rfl
 | [a] => by
  have ih := dd_snoc x y []
  simp only [List.nil_append] at ih
  simp only [List.cons_append, List.nil_append]
  rw [show dd [a, x, y] = cond (decide (a = x)) (dd [x, y]) (a :: dd [x, y]) from rfl, ih, show dd [a, x] = cond (decide (a = x)) (dd [x]) (a :: dd [x]) from rfl]
  cases decide (x = y) <;> cases decide (a = x) <;> rfl
 | a :: b :: l => by
  show dd (a :: b :: (l ++ [x, y])) = _
  have ih := dd_snoc x y (b :: l)
  simp only [List.cons_append] at ih
  rw [dd, ih]
  show _ = cond _ (dd (a :: b :: (l ++ [x]))) (dd (a :: b :: (l ++ [x])) ++ [y])
  rw [dd]
  cases decide (x = y) <;> cases decide (a = b) <;> rfl
theorem dd_mem : ∀ {l : List α} {z : α}, z ∈ dd l ↔ z ∈ l
 | [], z => Iff.rfl
 | [x], z => Iff.rfl
 | x :: y :: l, z => by
  rw [dd]
  have ih := dd_mem (l := y :: l) (z := z)
  cases h : decide (x = y)
  ·rw [cond_false, List.mem_cons, ih]; simp
  ·have := of_decide_eq_true h; subst this
   rw [cond_true, ih]; simp
theorem dd_len : ∀ l : List α, (dd l).length ≤ l.length
 | [] => Nat.le_refl _
 | [x] => Nat.le_refl _
 | x :: y :: l => by
  rw [dd]
  have ih := dd_len (y :: l)
  cases decide (x = y)
  ·simp only [cond_false, List.length_cons] at ih ⊢; omega
  ·simp only [cond_true, List.length_cons] at ih ⊢; omega
theorem dd_same : ∀ {l : List α}, (∀ i, (h : i + 1 < l.length) → l[i] ≠ l[i+1]) → dd l = l
 | [], _ => rfl
 | [x], _ => rfl
 | x :: y :: l, h => by
  have h0 := h 0 (by simp)
  simp only [List.getElem_cons_zero, List.getElem_cons_succ, Nat.zero_add] at h0
  rw [dd, decide_eq_false h0, cond_false, dd_same (l := y :: l) fun i hi => by have := h (i + 1) (by simpa using hi); simpa using this]
variable {lt : α → α → Bool}
def Strict (lt : α → α → Bool) (l : List α) : Prop := l.Pairwise fun a b => lt a b = true
theorem dd_strict (htot : ∀ x y, lt x y = false → lt y x = false → x = y) (htr : ∀ x y z, lt x y = true → lt y z = true → lt x z = true) : ∀ {l : List α}, l.Pairwise (fun a b => lt b a = false) → Strict lt (dd l)
 | [], _ => List.Pairwise.nil
 | [x], _ => List.pairwise_singleton _ _
 | x :: y :: l, h => by
  obtain ⟨h1, h2⟩ := List.pairwise_cons.1 h
  have ih := dd_strict htot htr h2
  rw [dd]
  cases hxy : decide (x = y)
  ·refine List.pairwise_cons.2 ⟨fun z hz => ?_, ih⟩
   have hz := dd_mem.1 hz
   have hne : x ≠ y := of_decide_eq_false hxy
   have hlt : lt x y = true := by
    cases hl : lt x y
    ·exact absurd (htot x y hl (h1 y (by simp))) hne
    ·rfl
   rcases List.mem_cons.1 hz with rfl | hz
   ·exact hlt
   ·cases hyz : lt y z
    ·have := (List.pairwise_cons.1 h2).1 z hz
     rw [← htot y z hyz this]; exact hlt
    ·exact htr _ _ _ hlt hyz
  ·exact ih
def memB (l : List α) (c : α) : Bool := l.any fun x => decide (x = c)
theorem memB_iff {l : List α} {c : α} : memB l c = true ↔ c ∈ l := by unfold memB; rw [List.any_eq_true]; exact ⟨fun ⟨x, h1, h2⟩ => of_decide_eq_true h2 ▸ h1, fun h => ⟨c, h, decide_eq_true rfl⟩⟩
def insS (lt : α → α → Bool) (l : List α) (c : α) : List α := cond (memB l c) l (l.takeWhile (fun x => lt x c) ++ c :: l.dropWhile (fun x => lt x c))
theorem insS_mem (l : List α) (c z : α) : z ∈ insS lt l c ↔ z = c ∨ z ∈ l := by
 unfold insS
 cases h : memB l c
 ·rw [cond_false, List.mem_append, List.mem_cons]
  have : z ∈ l ↔ z ∈ l.takeWhile (fun x => lt x c) ∨ z ∈ l.dropWhile (fun x => lt x c) := by
   rw [← List.mem_append, List.takeWhile_append_dropWhile]
  rw [this]
  constructor
  ·rintro (h | h | h); exact .inr (.inl h); exact .inl h; exact .inr (.inr h)
  ·rintro (h | h | h); exact .inr (.inl h); exact .inl h; exact .inr (.inr h)
 ·have := memB_iff.1 h
  rw [cond_true]
  constructor
  ·exact fun h => .inr h
  ·rintro (rfl | h); exact this; exact h
theorem insS_len (l : List α) (c : α) : (insS lt l c).length ≤ l.length + 1 := by
 unfold insS
 cases memB l c
 ·rw [cond_false, List.length_append, List.length_cons]
  have := congrArg List.length (List.takeWhile_append_dropWhile (p := fun x => lt x c) (l := l))
  rw [List.length_append] at this; omega
 ·exact Nat.le_succ _
def sd (lt : α → α → Bool) (l : List α) : List α := dd (isort lt l)
theorem sd_mem (l : List α) (z : α) : z ∈ sd lt l ↔ z ∈ l := by unfold sd; rw [dd_mem, isort_perm.mem_iff]
theorem sd_len (l : List α) : (sd lt l).length ≤ l.length := by unfold sd; have := dd_len (isort lt l); rw [isort_len] at this; exact this
structure Ord (lt : α → α → Bool) : Prop where
 irr : ∀ x, lt x x = false
 tr : ∀ x y z, lt x y = true → lt y z = true → lt x z = true
 ntr : ∀ x y z, lt x y = false → lt y z = false → lt x z = false
 tot : ∀ x y, lt x y = false → lt y x = false → x = y
theorem sd_strict (o : Ord lt) (l : List α) : Strict lt (sd lt l) := dd_strict o.tot o.tr (isort_sorted o.tr o.ntr o.irr l)
end
theorem ordS : Ord ltS := ⟨ltS_irr, ltS_tr, fun x y z h1 h2 => by
 rw [ltS_eq] at *; exact decide_eq_false (List.not_lt.2 (List.le_trans (List.not_lt.1 (of_decide_eq_false h2)) (List.not_lt.1 (of_decide_eq_false h1)))), fun x y h1 h2 => by
 rw [ltS_eq] at h1 h2
 exact str_ext.2 (List.le_antisymm (List.not_lt.1 (of_decide_eq_false h2)) (List.not_lt.1 (of_decide_eq_false h1)))⟩
section
variable {α : Type} [DecidableEq α]
theorem dd_take {p : List α} {n : Nat} (h0 : 1 ≤ n) (h : n < p.length) : dd (p.take (n + 1)) = cond (decide (p[n-1]'(by omega) = p[n])) (dd (p.take n)) (dd (p.take n) ++ [p[n]]) := by
 obtain ⟨m, rfl⟩ : ∃ m, n = m + 1 := ⟨n - 1, by omega⟩
 have e1 : p.take (m + 1) = p.take m ++ [p[m]'(by omega)] := by rw [List.take_add_one, List.getElem?_eq_getElem (by omega)]; rfl
 have e3 : p.take (m + 1 + 1) = p.take (m + 1) ++ [p[m+1]] := by rw [List.take_add_one, List.getElem?_eq_getElem h]; rfl
 have e2 : p.take (m + 1 + 1) = p.take m ++ [p[m]'(by omega), p[m+1]] := by rw [e3, e1, List.append_assoc]; rfl
 rw [e2, dd_snoc, e1]; rfl
structure CInv (p : List α) (v : Nat) (l : List α) (k i : Nat) : Prop where
 i1 : 1 ≤ i
 le : v + i ≤ p.length
 len : l.length = p.length
 kk : k = (dd (p.take (v + i))).length
 klt : k + 1 ≤ v + i
 pre : l.take k = dd (p.take (v + i))
 suf : ∀ j, v + i ≤ j + 1 → l[j]? = p[j]?
theorem CInv.step {p l : List α} {v k i : Nat} (c : CInv p v l k i) (h : v + i < p.length) (hv : 1 ≤ v) : ∃ x y, l[v + i]? = some x ∧ l[v + i - 1]? = some y ∧ (decide (x = y) = true → CInv p v l k (i + 1)) ∧ (decide (x = y) = false → k < l.length ∧ CInv p v (l.set k x) (k + 1) (i + 1)) := by
 have hx := c.suf (v + i) (by omega)
 have hy := c.suf (v + i - 1) (by omega)
 rw [List.getElem?_eq_getElem h] at hx
 rw [List.getElem?_eq_getElem (show v + i - 1 < p.length by omega)] at hy
 have hd := dd_take (p := p) (n := v + i) (by omega) h
 refine ⟨_, _, hx, hy, fun e => ?_, fun e => ?_⟩
 ·have e' : decide (p[v + i - 1]'(by omega) = p[v + i]) = true := decide_eq_true (of_decide_eq_true e).symm
  rw [e', cond_true] at hd
  exact ⟨by omega, by omega, c.len, by rw [← Nat.add_assoc, hd]; exact c.kk, by have := c.klt; omega, by rw [← Nat.add_assoc, hd]; exact c.pre, fun j hj => c.suf j (by omega)⟩
 ·have e' : decide (p[v + i - 1]'(by omega) = p[v + i]) = false := decide_eq_false (fun q => of_decide_eq_false e q.symm)
  rw [e', cond_false] at hd
  have hk : k < l.length := by have := c.klt; have := c.len; omega
  refine ⟨hk, by omega, by omega, by rw [List.length_set]; exact c.len, by rw [← Nat.add_assoc, hd, List.length_append, ← c.kk]; rfl, by have := c.klt; omega, ?_, fun j hj => ?_⟩
  ·rw [← Nat.add_assoc, hd, ← c.pre]
   rw [List.take_add_one, List.getElem?_set]
   simp only [if_true, hk]
   rw [List.take_set_of_le (Nat.le_refl k)]; rfl
  ·rw [List.getElem?_set, if_neg (by have := c.klt; omega)]; exact c.suf j (by omega)
theorem CInv.start {p : List α} {v : Nat} (hv : 1 ≤ v) (h : v < p.length) (he : p[v] = p[v-1]'(by omega)) (hb : ∀ j, 1 ≤ j → (hj : j < v) → p[j]'(by omega) ≠ p[j-1]'(by omega)) : CInv p v p v 1 := by
 have e1 : dd (p.take v) = p.take v := dd_same fun i hi => by
  rw [List.length_take] at hi
  rw [List.getElem_take, List.getElem_take]
  have := hb (i + 1) (by omega) (by omega)
  exact fun e => this e.symm
 have hd := dd_take (p := p) (n := v) hv h
 rw [decide_eq_true he.symm, cond_true, e1] at hd
 exact ⟨Nat.le_refl _, by omega, rfl, by rw [hd, List.length_take]; omega, by omega, by rw [hd], fun j _ => rfl⟩
end
end SX
end Go.Proofs.YtiijbkaiipjpkaaGreatDoor
set_option maxRecDepth 100000
namespace Go.Proofs.YtiijbkaiipjpkaaGreatDoor
namespace SX
open Go
theorem idx_opt {α : Type} (l : List α) (n : Nat) : idx l (n : Int) = l[n]? := by unfold idx; rw [if_pos (by omega)]; simp
theorem compact_gen {α : Type} [DecidableEq α] (E : α → α → Bool) (hE : ∀ x y, E x y = decide (x = y)) (z : α) (p : List α) (hp : p.length ≤ 1000000000) :
    cond (decide (((p.length : Nat) : Int) < 2)) (some p) (Option.bind (loopF (S := Int) (T := (Unit) ⊕ (List α)) (fun v2 => cond (decide (v2 < ((p.length : Nat) : Int))) (Option.bind (idx p v2) (fun m7 => Option.bind (idx p (IntKind.i64.wrap (v2 - 1))) (fun m8 => cond (E m7 m8) (Option.bind (sub p v2 (p.length : Int)) (fun _ => Option.bind (loopF (S := (List α) × Int × Int) (T := ((List α) × Int)) (fun (l12, v13, v14) => cond (decide (v14 < ((p.length - v2.toNat : Nat) : Int))) (Option.bind (Option.bind (ge0 v14) (fun _ => Option.bind (idx l12 (v2 + v14)) (fun m26 => Option.bind (ge0 (IntKind.i64.wrap (v14 - 1))) (fun _ => Option.bind (idx l12 (v2 + (IntKind.i64.wrap (v14 - 1)))) (fun m28 => cond (!(E m26 m28)) (Option.bind (ge0 v14) (fun _ => Option.bind (idx l12 (v2 + v14)) (fun m31 => Option.bind (idx l12 v13) (fun _ => some ((l12.set v13.toNat m31), (IntKind.i64.wrap (v13 + 1))))))) (some (l12, v13))))))) (fun (l22, v23) => some (.inl (l22, v23, (IntKind.i64.wrap (v14 + 1)))))) (some (.inr (l12, v13)))) FUEL (p, v2, 1)) (fun (l16, v17) => Option.bind (sub l16 v17 (l16.length : Int)) (fun _ => Option.bind (sub (List.take v17.toNat l16 ++ List.replicate (p.length - v17.toNat) z) 0 v17) (fun l35 => some (.inr (.inr l35))))))) (some (.inl (IntKind.i64.wrap (v2 + 1))))))) (some (.inr (.inl ())))) FUEL 1) (fun q => match q with | .inl _ => some p | .inr e => some e)) = some (dd p) := by
  by_cases h2 : p.length < 2
  · rw [decide_eq_true (show ((p.length : Nat) : Int) < 2 by omega)]
    match p, h2 with
    | [], _ => rfl
    | [x], _ => rfl
  rw [decide_eq_false (by omega), cond_false]
  have hl : Y (loopF (S := Int) (T := (Unit) ⊕ (List α)) (fun v2 => cond (decide (v2 < ((p.length : Nat) : Int))) (Option.bind (idx p v2) (fun m7 => Option.bind (idx p (IntKind.i64.wrap (v2 - 1))) (fun m8 => cond (E m7 m8) (Option.bind (sub p v2 (p.length : Int)) (fun _ => Option.bind (loopF (S := (List α) × Int × Int) (T := ((List α) × Int)) (fun (l12, v13, v14) => cond (decide (v14 < ((p.length - v2.toNat : Nat) : Int))) (Option.bind (Option.bind (ge0 v14) (fun _ => Option.bind (idx l12 (v2 + v14)) (fun m26 => Option.bind (ge0 (IntKind.i64.wrap (v14 - 1))) (fun _ => Option.bind (idx l12 (v2 + (IntKind.i64.wrap (v14 - 1)))) (fun m28 => cond (!(E m26 m28)) (Option.bind (ge0 v14) (fun _ => Option.bind (idx l12 (v2 + v14)) (fun m31 => Option.bind (idx l12 v13) (fun _ => some ((l12.set v13.toNat m31), (IntKind.i64.wrap (v13 + 1))))))) (some (l12, v13))))))) (fun (l22, v23) => some (.inl (l22, v23, (IntKind.i64.wrap (v14 + 1)))))) (some (.inr (l12, v13)))) FUEL (p, v2, 1)) (fun (l16, v17) => Option.bind (sub l16 v17 (l16.length : Int)) (fun _ => Option.bind (sub (List.take v17.toNat l16 ++ List.replicate (p.length - v17.toNat) z) 0 v17) (fun l35 => some (.inr (.inr l35))))))) (some (.inl (IntKind.i64.wrap (v2 + 1))))))) (some (.inr (.inl ())))) FUEL 1) (fun t => match t with | .inl _ => dd p = p | .inr e => e = dd p) := by
    refine Y.loop (fun s : Int => ∃ v : Nat, s = (v : Int) ∧ 1 ≤ v ∧ v ≤ p.length ∧ ∀ j, 1 ≤ j → (hj : j < v) → (hp : j < p.length) → p[j] ≠ p[j-1]'(by omega)) (fun s => (p.length - s).toNat) ⟨1, rfl, by omega, by omega, fun j h1 h2 => by omega⟩ (by omega) fun s hs => ?_
    obtain ⟨v, rfl, h1, h3, h4⟩ := hs
    refine Y.cond (fun hc => ?_) (fun hc => Y.ret (dd_same fun i hi => ?_))
    rotate_left
    · have hc := of_decide_eq_false hc
      have := h4 (i + 1) (by omega) (by omega) hi
      exact fun e => this e.symm
    have hv : v < p.length := by have := of_decide_eq_true hc; omega
    refine Y.idx rfl hv ?_
    refine Y.idx (n := v - 1) (by rw [i64s (by omega) (by omega)]; omega) (by omega) ?_
    rw [hE]
    refine Y.cond (fun he => ?_) (fun he => Y.ret ⟨⟨v + 1, ?_, by omega, by omega, fun j g1 g2 g3 => ?_⟩, ?_⟩)
    · rw [sub_ok (Nat.le_of_lt hv) (Nat.le_refl _), Option.bind_some]
      have he := of_decide_eq_true he
      have c0 := CInv.start h1 hv he fun j g1 g2 => h4 j g1 g2 (by omega)
      refine Y.bind (P := fun t : List α × Int => ∃ k : Nat, t.2 = (k : Int) ∧ k ≤ p.length ∧ t.1.length = p.length ∧ t.1.take k = dd p) ?_ fun t ⟨k, t1, t2, t3, t4⟩ => ?_
      · refine Y.loop (fun s : List α × Int × Int => ∃ k i : Nat, s.2.1 = (k : Int) ∧ s.2.2 = (i : Int) ∧ CInv p v s.1 k i) (fun s => (p.length - v - s.2.2).toNat) ⟨v, 1, rfl, rfl, c0⟩ (by dsimp only; omega) fun s hs => ?_
        obtain ⟨l, a, b⟩ := s
        obtain ⟨k, i, rfl, rfl, c⟩ := hs
        dsimp only at c ⊢
        have ci := c.i1; have cl := c.le; have ck := c.klt; have cn := c.len
        refine Y.cond (fun hc => ?_) (fun hc => Y.ret ⟨k, rfl, by omega, c.len, ?_⟩)
        rotate_left
        · have hc := of_decide_eq_false hc
          have e : v + i = p.length := by rw [Int.toNat_natCast] at hc; omega
          have := c.pre
          rw [e, List.take_length] at this; exact this
        have hlt : v + i < p.length := by have := of_decide_eq_true hc; rw [Int.toNat_natCast] at this; omega
        obtain ⟨x, y, hx, hy, s1, s2⟩ := c.step hlt h1
        refine Y.bind (P := fun t : List α × Int => ∃ k' : Nat, t.2 = (k' : Int) ∧ CInv p v t.1 k' (i + 1)) ?_ fun t ⟨k', t1, t2⟩ => Y.ret ⟨⟨k', i + 1, t1, ?_, t2⟩, ?_⟩
        · refine Y.eq (ge0_nat i) ?_
          rw [show (v : Int) + (i : Int) = ((v + i : Nat) : Int) by omega]
          refine Y.eq (by rw [idx_opt]; exact hx) ?_
          rw [i64s (r := (i : Int) - 1) (by omega) (by omega), show (i : Int) - 1 = ((i - 1 : Nat) : Int) by omega]
          refine Y.eq (ge0_nat (i - 1)) ?_
          rw [show (v : Int) + ((i - 1 : Nat) : Int) = ((v + i - 1 : Nat) : Int) by omega]
          refine Y.eq (by rw [idx_opt]; exact hy) ?_
          rw [hE]
          refine Y.cond (fun hne => ?_) (fun hne => Y.ret ⟨k, rfl, s1 (by simpa using hne)⟩)
          obtain ⟨hk, c2⟩ := s2 (by simpa using hne)
          refine Y.eq (ge0_nat i) (Y.eq (by rw [idx_opt]; exact hx) (Y.idx rfl hk (Y.ret ⟨k + 1, ?_, c2⟩)))
          show IntKind.i64.wrap ((k : Int) + 1) = _; rw [i64s (by omega) (by omega)]; omega
        · show IntKind.i64.wrap ((i : Int) + 1) = _; rw [i64s (by omega) (by omega)]; omega
        · show ((p.length : Int) - v - IntKind.i64.wrap ((i : Int) + 1)).toNat < ((p.length : Int) - v - (i : Int)).toNat; rw [i64s (by omega) (by omega)]; omega
      · obtain ⟨l, b⟩ := t
        dsimp only at t1 t3 t4 ⊢
        subst t1
        have e1 : sub l (k : Int) (l.length : Int) = some ((l.take l.length).drop k) := sub_ok (by omega) (Nat.le_refl _)
        rw [e1, Option.bind_some, Int.toNat_natCast]
        have e2 : sub (List.take k l ++ List.replicate (p.length - k) z) 0 (k : Int) = some (((List.take k l ++ List.replicate (p.length - k) z).take k).drop 0) := sub_ok (a := 0) (by omega) (by simp; omega)
        rw [e2, Option.bind_some]
        refine Y.ret ?_
        show ((List.take k l ++ List.replicate (p.length - k) z).take k).drop 0 = dd p
        rw [List.drop_zero, List.take_append_of_le_length (by rw [List.length_take]; omega), List.take_take, Nat.min_self, t4]
    · show IntKind.i64.wrap ((v : Int) + 1) = _; rw [i64s (by omega) (by omega)]; omega
    · rcases Nat.lt_or_ge j v with h | h
      · exact h4 j g1 h g3
      · have e : j = v := by omega
        subst e; exact of_decide_eq_false he
    · show ((p.length : Int) - IntKind.i64.wrap ((v : Int) + 1)).toNat < ((p.length : Int) - (v : Int)).toNat; rw [i64s (by omega) (by omega)]; omega
  obtain ⟨t, e, ht⟩ := hl
  rw [e]
  cases t with
  | inl u => dsimp only at ht; rw [Option.bind_some, ht]
  | inr u => dsimp only at ht; rw [Option.bind_some, ht]
theorem compactS (p : List ByteArray) (hp : p.length ≤ 1000000000) : slices_Compact_string_string p = some (dd p) := by
 refine Eq.trans ?_ (compact_gen (fun x y => decide (x = y)) (fun _ _ => rfl) ByteArray.empty p hp)
 kernel_rfl
theorem eqb_dec (x y : TOriginClaim) : TOriginClaim.eqb x y = decide (x = y) := by
 cases h : TOriginClaim.eqb x y
 ·exact (decide_eq_false fun e => by rw [TOriginClaim.eqb_iff.2 e] at h; cases h).symm
 ·exact (decide_eq_true (TOriginClaim.eqb_iff.1 h)).symm
theorem compactC (p : List TOriginClaim) (hp : p.length ≤ 1000000000) : slices_Compact_api_OriginClaim_api_OriginClaim p = some (dd p) := by
 refine Eq.trans ?_ (compact_gen TOriginClaim.eqb eqb_dec ⟨0, 0⟩ p hp)
 kernel_rfl
theorem ref_contains (l : List TOriginClaim) (c : TOriginClaim) (hl : l.length ≤ 140737488355328) : ref14_Contains l c = some (memB l c) := by
 unfold ref14_Contains
 refine (find_loop (l := l) (by omega) (fun _ x => cond (TOriginClaim.eqb x c) (some (.inr true)) none) (.inl ()) (fun k hk => ?_) (by simp only [dnlt, cond_false])).trans ?_
 ·simp only [dlt hk, cond_true, idx_nat hk, Option.bind_some, wnext hk (show l.length ≤ 4611686018427387904 by omega)]
  cases TOriginClaim.eqb l[k] c <;> rfl
 ·rw [findS_any (fun x => TOriginClaim.eqb x c)]
  have : (l.any fun x => TOriginClaim.eqb x c) = memB l c := by unfold memB; congr 1; funext x; exact eqb_dec x c
  rw [this]; cases memB l c <;> rfl
theorem while_take {α : Type} (P : α → Bool) : ∀ (l : List α) (k : Nat), k ≤ l.length → (∀ j x, l[j]? = some x → j < k → P x = true) → (∀ x, l[k]? = some x → P x = false) → l.takeWhile P = l.take k ∧ l.dropWhile P = l.drop k
 | [], k, h, _, _ => by simp at h; subst h; exact ⟨rfl, rfl⟩
 | x :: l, 0, _, _, h => by rw [List.takeWhile_cons, List.dropWhile_cons, h x rfl]; exact ⟨rfl, rfl⟩
 | x :: l, k + 1, h, h1, h2 => by
  obtain ⟨e1, e2⟩ := while_take P l k (by simpa using h) (fun j y hy hj => h1 (j + 1) y (by simpa using hy) (by omega)) (fun y hy => h2 y (by simpa using hy))
  rw [List.takeWhile_cons, List.dropWhile_cons, h1 0 x rfl (by omega)]
  simp only [if_true, List.take_succ_cons, List.drop_succ_cons]
  rw [e1, e2]; exact ⟨rfl, rfl⟩
theorem ref_withC (l : List TOriginClaim) (c : TOriginClaim) (hl : l.length ≤ 1000000000) : ref14_With l c = some (insS ltClaim l c) := by
 unfold ref14_With insS
 rw [ref_contains _ _ (by omega), Option.bind_some]
 cases memB l c
 rotate_left
 ·rfl
 simp only [cond_false]
 have hw : Y (loopF (S := Int) (T := (Int)) (fun v4 => Option.bind (gd (decide (v4 < (l.length : Int))) (idx l v4)) (fun m8 => Option.bind (gd (decide (v4 < (l.length : Int))) (ref14_Less m8 c)) (fun x9 => cond ((decide (v4 < (l.length : Int))) && x9) (some (.inl (IntKind.i64.wrap (v4 + 1)))) (some (.inr v4))))) FUEL 0) (fun t => ∃ k : Nat, t = (k : Int) ∧ k ≤ l.length ∧ l.takeWhile (fun x => ltClaim x c) = l.take k ∧ l.dropWhile (fun x => ltClaim x c) = l.drop k) := by
  refine Y.loop (fun s : Int => ∃ k : Nat, s = (k : Int) ∧ k ≤ l.length ∧ ∀ j x, l[j]? = some x → j < k → ltClaim x c = true) (fun s => (l.length - s).toNat) ⟨0, rfl, by omega, fun j x _ h => absurd h (Nat.not_lt_zero _)⟩ (by omega) fun s hs => ?_
  obtain ⟨k, rfl, h1, h2⟩ := hs
  rcases Nat.lt_or_ge k l.length with hk | hk
  ·rw [dlt hk, gd_tt, idx_nat hk, Option.bind_some, gd_tt]
   have e : ref14_Less l[k] c = some (ltClaim l[k] c) := by unfold ref14_Less ltClaim; rfl
   rw [e, Option.bind_some]
   cases hlt : ltClaim l[k] c
   ·exact Y.ret ⟨k, rfl, h1, while_take _ l k h1 h2 fun x hx => by rw [List.getElem?_eq_getElem hk] at hx; injection hx with hx; rw [← hx]; exact hlt⟩
   ·refine Y.ret ⟨⟨k + 1, ?_, by omega, fun j x hx hj => ?_⟩, ?_⟩
    ·show IntKind.i64.wrap ((k : Int) + 1) = _; rw [i64s (by omega) (by omega)]; omega
    ·rcases Nat.lt_or_ge j k with h | h
     ·exact h2 j x hx h
     ·have e : j = k := by omega
      subst e; rw [List.getElem?_eq_getElem hk] at hx; injection hx with hx; rw [← hx]; exact hlt
    ·show ((l.length : Int) - IntKind.i64.wrap ((k : Int) + 1)).toNat < ((l.length : Int) - (k : Int)).toNat; rw [i64s (by omega) (by omega)]; omega
  ·have e : k = l.length := by omega
   subst e
   rw [dnlt, gd_ff, Option.bind_some, gd_ff, Option.bind_some]
   exact Y.ret ⟨l.length, rfl, h1, while_take _ l _ h1 h2 fun x hx => by have := (List.getElem?_eq_some_iff.1 hx).1; omega⟩
 obtain ⟨t, e, k, rfl, h1, h2, h3⟩ := hw
 rw [e, Option.bind_some]
 have s1 : sub l 0 (k : Int) = some ((l.take k).drop 0) := sub_ok (a := 0) (by omega) h1
 have s2 : sub l (k : Int) (l.length : Int) = some ((l.take l.length).drop k) := sub_ok h1 (Nat.le_refl _)
 rw [s1, Option.bind_some, s2, Option.bind_some, List.drop_zero, List.take_length, app_nil_ok (by rw [List.length_take]; omega) (by omega), Option.bind_some, app_ok (by simp; omega) (by simp; omega), Option.bind_some, app_ok (by simp; omega) (by simp; omega), Option.bind_some, h2, h3, List.append_assoc]; rfl
def unionS (a b : List ByteArray) : List ByteArray := sd ltS (a ++ b)
theorem concat2 (a b : List ByteArray) (h : a.length + b.length ≤ 1000000) : slices_Concat_string_string [a, b] = some (a ++ b) := by
 unfold slices_Concat_string_string slices_Grow_string_string
 refine (run_loop (l := [a, b]) (by simp) (fun i (s : Nat) => ((s : Int), i)) (fun _ x s => (.inl (s + x.length) : Nat ⊕ Empty)) (fun (s : Nat) => (s : Int)) noE (fun k s => s ≤ 1000000 ∧ s = ([a, b].take k).flatten.length) 0 ⟨by omega, rfl⟩ (fun k hk s hs => ⟨?_, fun s' h' => ?_⟩) (fun s _ => by simp only [dnlt, cond_false])).trans ?_
 ·have hb : s + ([a, b][k]).length ≤ 1000000 := by
   obtain ⟨_, e⟩ := hs
   match k, hk with
   | 0, _ => simp at e; subst e; simp; omega
   | 1, _ => simp at e; subst e; simp; omega
  simp only [dlt hk, cond_true, idx_nat hk, Option.bind_some, wnext hk (show [a, b].length ≤ 4611686018427387904 by simp), outc]
  rw [i64s (by omega) (by omega), decide_eq_false (by omega)]
  simp only [cond_false, Int.natCast_add]
 ·injection h' with h'
  obtain ⟨h1, h2⟩ := hs
  subst h'
  match k, hk with
  | 0, _ => simp at h2 ⊢; subst h2; simp; omega
  | 1, _ => simp at h2 ⊢; subst h2; omega
 ·show Option.bind (Option.bind (mk0 16 ((0 + a.length + b.length : Nat) : Int)) _) _ = _
  rw [mk0_ok (by omega) (by omega), Option.bind_some, Option.bind_some]
  refine (fold_loop (l := [a, b]) (by simp) (fun i (s : List ByteArray) => (s, i)) (fun s x => s ++ x) (fun s => s) (fun k s => s = ([a, b].take k).flatten) [] rfl (fun k hk s hs => ⟨?_, ?_⟩) (fun s _ => by simp only [dnlt, cond_false])).1.trans ?_
  ·have hb : s.length + ([a, b][k]).length ≤ 1000000 := by
    match k, hk with
    | 0, _ => simp at hs; subst hs; simp; omega
    | 1, _ => simp at hs; subst hs; simp; omega
   simp only [dlt hk, cond_true, idx_nat hk, Option.bind_some, wnext hk (show [a, b].length ≤ 4611686018427387904 by simp)]
   rw [app_ok (by omega) (by omega)]; rfl
  ·match k, hk with
   | 0, _ => simp at hs; subst hs; simp
   | 1, _ => simp at hs; subst hs; simp
  ·simp
theorem prog_union (a b : List ByteArray) (h : a.length + b.length ≤ 1000000) : goods_Union a b = some (unionS a b) := by
 unfold goods_Union
 rw [concat2 a b h, Option.bind_some]
 show Option.bind (some (isort ltS (a ++ b))) _ = _
 rw [Option.bind_some, compactS _ (by rw [isort_len]; simp; omega)]; rfl
end SX
end Go.Proofs.YtiijbkaiipjpkaaGreatDoor
set_option maxRecDepth 100000
namespace Go.Proofs.YtiijbkaiipjpkaaGreatDoor
namespace SX
open Go
def U64 (a : Int) : Prop := 0 ≤ a ∧ a < 18446744073709551616
theorem wu (a : Int) : IntKind.u64.wrap a = a % 18446744073709551616 := rfl
theorem wu_id {a : Int} (h : U64 a) : IntKind.u64.wrap a = a := by rw [wu]; unfold U64 at h; omega
theorem bv64 {a : Int} (h : U64 a) : (BitVec.ofInt 64 a).toNat = a.toNat := by
 rw [BitVec.toNat_ofInt]; unfold U64 at h; omega
theorem iand_eq {a b : Int} (ha : U64 a) (hb : U64 b) : iand .u64 a b = ((a.toNat &&& b.toNat : Nat) : Int) := by
 have hlt : a.toNat &&& b.toNat < 18446744073709551616 := Nat.lt_of_le_of_lt Nat.and_le_left (by unfold U64 at ha; omega)
 have e : iand .u64 a b = IntKind.u64.wrap (((BitVec.ofInt 64 a &&& BitVec.ofInt 64 b).toNat : Nat) : Int) := rfl
 rw [e, BitVec.toNat_and, bv64 ha, bv64 hb, wu_id]
 exact ⟨by omega, by omega⟩
theorem ior_eq {a b : Int} (ha : U64 a) (hb : U64 b) : ior .u64 a b = ((a.toNat ||| b.toNat : Nat) : Int) := by
 have hlt : a.toNat ||| b.toNat < 2 ^ 64 := Nat.or_lt_two_pow (by unfold U64 at ha; omega) (by unfold U64 at hb; omega)
 have e : ior .u64 a b = IntKind.u64.wrap (((BitVec.ofInt 64 a ||| BitVec.ofInt 64 b).toNat : Nat) : Int) := rfl
 rw [e, BitVec.toNat_or, bv64 ha, bv64 hb, wu_id]
 exact ⟨by omega, by omega⟩
theorem iand_low {a : Int} (h : U64 a) : iand .u64 a 4294967295 = a % 4294967296 := by
 rw [iand_eq h ⟨by omega, by omega⟩]
 have : a.toNat &&& (4294967295 : Int).toNat = a.toNat % 4294967296 := Nat.and_two_pow_sub_one_eq_mod (n := 32) a.toNat
 rw [this]; unfold U64 at h; omega
theorem ishr_32 {a : Int} : ishr .u64 a 32 = a / 4294967296 := Int.fdiv_eq_ediv_of_nonneg a (show (0 : Int) ≤ 4294967296 by omega)
theorem mul64 {a b : Int} (ha : U64 a) (hb : U64 b) : ∃ h l, math_bits_Mul64 a b = some (h, l) ∧ U64 h ∧ U64 l ∧ h * 18446744073709551616 + l = a * b := by
 unfold math_bits_Mul64 lb
 rw [iand_low ha, iand_low hb]
 simp only [ishr_32]
 unfold U64 at ha hb
 have ea : a = 4294967296 * (a / 4294967296) + a % 4294967296 := by omega
 have eb : b = 4294967296 * (b / 4294967296) + b % 4294967296 := by omega
 have h1 : 0 ≤ a / 4294967296 ∧ a / 4294967296 < 4294967296 := by omega
 have h2 : 0 ≤ a % 4294967296 ∧ a % 4294967296 < 4294967296 := by omega
 have h3 : 0 ≤ b / 4294967296 ∧ b / 4294967296 < 4294967296 := by omega
 have h4 : 0 ≤ b % 4294967296 ∧ b % 4294967296 < 4294967296 := by omega
 generalize a / 4294967296 = x1 at *
 generalize a % 4294967296 = x0 at *
 generalize b / 4294967296 = y1 at *
 generalize b % 4294967296 = y0 at *
 subst ea eb
 have p00 : 0 ≤ x0 * y0 ∧ x0 * y0 ≤ 4294967295 * 4294967295 := ⟨Int.mul_nonneg h2.1 h4.1, Int.mul_le_mul (by omega) (by omega) h4.1 (by omega)⟩
 have p01 : 0 ≤ x0 * y1 ∧ x0 * y1 ≤ 4294967295 * 4294967295 := ⟨Int.mul_nonneg h2.1 h3.1, Int.mul_le_mul (by omega) (by omega) h3.1 (by omega)⟩
 have p10 : 0 ≤ x1 * y0 ∧ x1 * y0 ≤ 4294967295 * 4294967295 := ⟨Int.mul_nonneg h1.1 h4.1, Int.mul_le_mul (by omega) (by omega) h4.1 (by omega)⟩
 have p11 : 0 ≤ x1 * y1 ∧ x1 * y1 ≤ 4294967295 * 4294967295 := ⟨Int.mul_nonneg h1.1 h3.1, Int.mul_le_mul (by omega) (by omega) h3.1 (by omega)⟩
 have e : (4294967296 * x1 + x0) * (4294967296 * y1 + y0) = 18446744073709551616 * (x1 * y1) + 4294967296 * (x1 * y0) + 4294967296 * (x0 * y1) + x0 * y0 := by
  rw [Int.add_mul, Int.mul_add, Int.mul_add]
  have t1 : 4294967296 * x1 * (4294967296 * y1) = 18446744073709551616 * (x1 * y1) := by
   rw [Int.mul_assoc, ← Int.mul_assoc x1, Int.mul_comm x1 4294967296, Int.mul_assoc 4294967296 x1, ← Int.mul_assoc]; rfl
  have t2 : 4294967296 * x1 * y0 = 4294967296 * (x1 * y0) := Int.mul_assoc _ _ _
  have t3 : x0 * (4294967296 * y1) = 4294967296 * (x0 * y1) := by rw [← Int.mul_assoc, Int.mul_comm x0, Int.mul_assoc]
  rw [t1, t2, t3]; omega
 rw [e]
 generalize x0 * y0 = p at *
 generalize x0 * y1 = q at *
 generalize x1 * y0 = r at *
 generalize x1 * y1 = s at *
 refine ⟨_, _, rfl, ?_, ?_, ?_⟩
 all_goals simp only [wu, U64]
 all_goals first | omega | (rw [iand_low (by unfold U64; omega)]; omega)
end SX
end Go.Proofs.YtiijbkaiipjpkaaGreatDoor
set_option maxRecDepth 100000
namespace Go.Proofs.YtiijbkaiipjpkaaGreatDoor
namespace SX
open Go
def rv (w : Tref01_Wide) : Int := w.Hi * 18446744073709551616 + w.Lo
theorem ishr_u {a n : Int} (h : n.toNat ≤ 64) : ishr .u64 a n = a / 2 ^ n.toNat := by
 have e : ishr .u64 a n = a.fdiv (2 ^ min n.toNat 64) := rfl
 rw [e, Nat.min_eq_left h]
 exact Int.fdiv_eq_ediv_of_nonneg a (Int.le_of_lt (Int.pow_pos (by omega)))
end SX
end Go.Proofs.YtiijbkaiipjpkaaGreatDoor
set_option maxRecDepth 100000
namespace Go.Proofs.YtiijbkaiipjpkaaGreatDoor
namespace SX
open Go
end SX
end Go.Proofs.YtiijbkaiipjpkaaGreatDoor
set_option maxRecDepth 100000
namespace Go.Proofs.YtiijbkaiipjpkaaGreatDoor
namespace SX
open Go
structure KnInv (u u1 y1 y0 q rh : Int) : Prop where
 eq : u = q * y1 + rh
 r0 : 0 ≤ rh
 r1 : rh < 4294967296
 q0 : 0 ≤ q
 q1 : q ≤ 4294967297
 up : u * 4294967296 + u1 < q * (y1 * 4294967296 + y0) + (y1 * 4294967296 + y0)
section
variable {u u1 y1 y0 q rh : Int} (hu : 0 ≤ u) (huy : u < y1 * 4294967296 + y0) (h1 : 0 ≤ u1) (h1' : u1 < 4294967296) (hy : 2147483648 ≤ y1) (hy' : y1 < 4294967296) (hz : 0 ≤ y0) (hz' : y0 < 4294967296)
include hu huy h1 h1' hy hy' hz hz'
theorem kn_start : KnInv u u1 y1 y0 (u / y1) (u % y1) := by
 have hq0 : 0 ≤ u / y1 := Int.ediv_nonneg hu (by omega)
 have hr0 := Int.emod_nonneg u (show y1 ≠ 0 by omega)
 have hr1 := Int.emod_lt_of_pos u (show 0 < y1 by omega)
 have he := Int.emod_add_mul_ediv u y1
 rw [Int.mul_comm] at he
 have hz2 : 0 ≤ u / y1 * y0 := Int.mul_nonneg hq0 hz
 refine ⟨by omega, hr0, by omega, hq0, ?_, ?_⟩
 ·apply Int.le_of_lt_add_one
  apply Int.ediv_lt_of_lt_mul (by omega)
  omega
 ·rw [Int.mul_add, ← Int.mul_assoc]; omega
theorem kn_true (i : KnInv u u1 y1 y0 q rh) (h : 4294967296 ≤ q ∨ 4294967296 * rh + u1 < q * y0) : u * 4294967296 + u1 < q * (y1 * 4294967296 + y0) ∧ 1 ≤ q := by
 have e := i.eq
 have hlt : u * 4294967296 + u1 < q * (y1 * 4294967296 + y0) := by
  rcases h with h | h
  ·have : 4294967296 * (y1 * 4294967296 + y0) ≤ q * (y1 * 4294967296 + y0) := Int.mul_le_mul_of_nonneg_right h (by omega)
   omega
  ·rw [Int.mul_add, ← Int.mul_assoc]; omega
 refine ⟨hlt, ?_⟩
 have hq := i.q0
 by_cases hq0 : q = 0
 ·subst hq0; rw [Int.zero_mul] at hlt; omega
 ·omega
theorem kn_next (i : KnInv u u1 y1 y0 q rh) (h : 4294967296 ≤ q ∨ 4294967296 * rh + u1 < q * y0) (h2 : rh + y1 < 4294967296) : KnInv u u1 y1 y0 (q - 1) (rh + y1) := by
 obtain ⟨hlt, hq⟩ := kn_true hu huy h1 h1' hy hy' hz hz' i h
 have := i.eq; have := i.r0; have := i.q1
 refine ⟨by rw [Int.sub_mul]; omega, by omega, h2, by omega, by omega, ?_⟩
 rw [Int.sub_mul]; omega
theorem kn_stop (i : KnInv u u1 y1 y0 q rh) (h : 4294967296 ≤ q ∨ 4294967296 * rh + u1 < q * y0) (h2 : 4294967296 ≤ rh + y1) : (q - 1) * (y1 * 4294967296 + y0) ≤ u * 4294967296 + u1 ∧ u * 4294967296 + u1 < (q - 1) * (y1 * 4294967296 + y0) + (y1 * 4294967296 + y0) := by
 obtain ⟨hlt, hq⟩ := kn_true hu huy h1 h1' hy hy' hz hz' i h
 have e := i.eq; have := i.r0; have hq1 := i.q1
 refine ⟨?_, by rw [Int.sub_mul]; omega⟩
 have hz2 : (q - 1) * y0 ≤ 4294967296 * 4294967295 := Int.mul_le_mul (by omega) (by omega) hz (by omega)
 rw [Int.mul_add, ← Int.mul_assoc]
 rw [Int.sub_mul q 1 y1]
 omega
omit hu huy h1 h1' hy hy' hz hz' in
theorem kn_false (i : KnInv u u1 y1 y0 q rh) (h : ¬ (4294967296 ≤ q ∨ 4294967296 * rh + u1 < q * y0)) : q * (y1 * 4294967296 + y0) ≤ u * 4294967296 + u1 := by
 have e := i.eq
 rw [Int.mul_add, ← Int.mul_assoc]; omega
end
end SX
end Go.Proofs.YtiijbkaiipjpkaaGreatDoor
set_option maxRecDepth 100000
namespace Go.Proofs.YtiijbkaiipjpkaaGreatDoor
namespace SX
open Go
section
variable {u u1 y1 y0 : Int} (hu : 0 ≤ u) (huy : u < y1 * 4294967296 + y0) (h1 : 0 ≤ u1) (h1' : u1 < 4294967296) (hy : 2147483648 ≤ y1) (hy' : y1 < 4294967296) (hz : 0 ≤ y0) (hz' : y0 < 4294967296)
include hu huy h1 h1' hy hy' hz hz'
omit hu huy hy hy' in
theorem kn_cond {q rh : Int} (i : KnInv u u1 y1 y0 q rh) : ((decide (4294967296 ≤ q)) || (decide ((IntKind.u64.wrap ((IntKind.u64.wrap (4294967296 * rh)) + u1)) < (IntKind.u64.wrap (q * y0))))) = decide (4294967296 ≤ q ∨ 4294967296 * rh + u1 < q * y0) := by
 have := i.r0; have := i.r1; have := i.q0
 rw [wu_id (a := 4294967296 * rh) ⟨by omega, by omega⟩, wu_id (a := 4294967296 * rh + u1) ⟨by omega, by omega⟩]
 by_cases hq : 4294967296 ≤ q
 ·rw [decide_eq_true hq, decide_eq_true (Or.inl hq)]; rfl
 ·have hp : q * y0 ≤ 4294967295 * 4294967295 := Int.mul_le_mul (by omega) (by omega) hz (by omega)
  have hp0 : 0 ≤ q * y0 := Int.mul_nonneg (by omega) hz
  rw [wu_id (a := q * y0) ⟨hp0, by omega⟩, decide_eq_false hq, Bool.false_or]
  congr 1
  exact propext ⟨.inr, fun h => h.resolve_left hq⟩
omit hy hy' hz hz' in
theorem kn_end {q : Int} (h0 : 0 ≤ q) (h2 : q * (y1 * 4294967296 + y0) ≤ u * 4294967296 + u1) : q < 4294967296 := by
 have : q * (y1 * 4294967296 + y0) < 4294967296 * (y1 * 4294967296 + y0) := by omega
 exact Int.lt_of_mul_lt_mul_right this (by omega)
def KQ (u u1 y1 y0 q : Int) : Prop := 0 ≤ q ∧ q < 4294967296 ∧ q * (y1 * 4294967296 + y0) ≤ u * 4294967296 + u1 ∧ u * 4294967296 + u1 < q * (y1 * 4294967296 + y0) + (y1 * 4294967296 + y0)
theorem kn_loopA : ∃ q, loopF (S := Int × Int) (T := (Int)) (fun (v18, v19) => cond ((decide (4294967296 ≤ v18)) || (decide ((IntKind.u64.wrap ((IntKind.u64.wrap (4294967296 * v19)) + u1)) < (IntKind.u64.wrap (v18 * y0))))) (cond (decide (4294967296 ≤ (IntKind.u64.wrap (v19 + y1)))) (some (.inr (IntKind.u64.wrap (v18 - 1)))) (some (.inl ((IntKind.u64.wrap (v18 - 1)), (IntKind.u64.wrap (v19 + y1)))))) (some (.inr v18))) FUEL (u / y1, u % y1) = some q ∧ KQ u u1 y1 y0 q := by
 refine loopF_run (fun s : Int × Int => KnInv u u1 y1 y0 s.1 s.2) (fun s => s.1.toNat) (KQ u u1 y1 y0) ?_ FUEL _ (kn_start hu huy h1 h1' hy hy' hz hz') ?_
 ·rintro ⟨q, rh⟩ i
  dsimp only at i ⊢
  rw [kn_cond h1 h1' hz hz' i]
  have i0 := i.r0; have i1 := i.r1; have i2 := i.q0; have i3 := i.q1
  by_cases h : 4294967296 ≤ q ∨ 4294967296 * rh + u1 < q * y0
  ·rw [decide_eq_true h]
   obtain ⟨_, hq1⟩ := kn_true hu huy h1 h1' hy hy' hz hz' i h
   rw [wu_id (a := rh + y1) ⟨by omega, by omega⟩, wu_id (a := q - 1) ⟨by omega, by omega⟩]
   by_cases h2 : 4294967296 ≤ rh + y1
   ·rw [decide_eq_true h2]; right
    obtain ⟨e1, e2⟩ := kn_stop hu huy h1 h1' hy hy' hz hz' i h h2
    exact ⟨_, rfl, by omega, kn_end hu huy h1 h1' (by omega) e1, e1, e2⟩
   ·rw [decide_eq_false h2]; left
    exact ⟨_, rfl, kn_next hu huy h1 h1' hy hy' hz hz' i h (by omega), by dsimp only; omega⟩
  ·rw [decide_eq_false h]; right
   have e1 := kn_false i h
   exact ⟨_, rfl, i2, kn_end hu huy h1 h1' i2 e1, e1, i.up⟩
 ·have := (kn_start hu huy h1 h1' hy hy' hz hz').q1
  exact fuel_big (by dsimp only; omega)
theorem kn_loopB : ∃ q, loopF (S := Int × Int) (T := (Int)) (fun (v28, v29) => cond ((decide (4294967296 ≤ v29)) || (decide ((IntKind.u64.wrap ((IntKind.u64.wrap (4294967296 * v28)) + u1)) < (IntKind.u64.wrap (v29 * y0))))) (cond (decide (4294967296 ≤ (IntKind.u64.wrap (v28 + y1)))) (some (.inr (IntKind.u64.wrap (v29 - 1)))) (some (.inl ((IntKind.u64.wrap (v28 + y1)), (IntKind.u64.wrap (v29 - 1)))))) (some (.inr v29))) FUEL (u % y1, u / y1) = some q ∧ KQ u u1 y1 y0 q := by
 refine loopF_run (fun s : Int × Int => KnInv u u1 y1 y0 s.2 s.1) (fun s => s.2.toNat) (KQ u u1 y1 y0) ?_ FUEL _ (kn_start hu huy h1 h1' hy hy' hz hz') ?_
 ·rintro ⟨rh, q⟩ i
  dsimp only at i ⊢
  rw [kn_cond h1 h1' hz hz' i]
  have i0 := i.r0; have i1 := i.r1; have i2 := i.q0; have i3 := i.q1
  by_cases h : 4294967296 ≤ q ∨ 4294967296 * rh + u1 < q * y0
  ·rw [decide_eq_true h]
   obtain ⟨_, hq1⟩ := kn_true hu huy h1 h1' hy hy' hz hz' i h
   rw [wu_id (a := rh + y1) ⟨by omega, by omega⟩, wu_id (a := q - 1) ⟨by omega, by omega⟩]
   by_cases h2 : 4294967296 ≤ rh + y1
   ·rw [decide_eq_true h2]; right
    obtain ⟨e1, e2⟩ := kn_stop hu huy h1 h1' hy hy' hz hz' i h h2
    exact ⟨_, rfl, by omega, kn_end hu huy h1 h1' (by omega) e1, e1, e2⟩
   ·rw [decide_eq_false h2]; left
    exact ⟨_, rfl, kn_next hu huy h1 h1' hy hy' hz hz' i h (by omega), by dsimp only; omega⟩
  ·rw [decide_eq_false h]; right
   have e1 := kn_false i h
   exact ⟨_, rfl, i2, kn_end hu huy h1 h1' i2 e1, e1, i.up⟩
 ·have := (kn_start hu huy h1 h1' hy hy' hz hz').q1
  exact fuel_big (by dsimp only; omega)
end
theorem len_shift {a v : Int} {k n : Nat} (h : v = a / 2 ^ k) (hn : 1 ≤ n) (l : 2 ^ (n - 1) ≤ v) (g : v < 2 ^ n) : 2 ^ (k + n - 1) ≤ a ∧ a < 2 ^ (k + n) := by
 have hp : (0 : Int) < 2 ^ k := Int.pow_pos (by omega)
 have e1 := Int.ediv_mul_le a (Int.ne_of_gt hp)
 have e2 := Int.lt_ediv_add_one_mul_self a hp
 rw [← h] at e1 e2
 constructor
 ·rw [show k + n - 1 = (n - 1) + k by omega, Int.pow_add]
  exact Int.le_trans (Int.mul_le_mul_of_nonneg_right l (Int.le_of_lt hp)) e1
 ·rw [show k + n = n + k by omega, Int.pow_add]
  exact Int.lt_of_lt_of_le e2 (Int.mul_le_mul_of_nonneg_right (by omega) (Int.le_of_lt hp))
def lenTab : ByteArray := ⟨#[0, 1, 2, 2, 3, 3, 3, 3, 4, 4, 4, 4, 4, 4, 4, 4, 5, 5, 5, 5, 5, 5, 5, 5, 5, 5, 5, 5, 5, 5, 5, 5, 6, 6, 6, 6, 6, 6, 6, 6, 6, 6, 6, 6, 6, 6, 6, 6, 6, 6, 6, 6, 6, 6, 6, 6, 6, 6, 6, 6, 6, 6, 6, 6, 7, 7, 7, 7, 7, 7, 7, 7, 7, 7, 7, 7, 7, 7, 7, 7, 7, 7, 7, 7, 7, 7, 7, 7, 7, 7, 7, 7, 7, 7, 7, 7, 7, 7, 7, 7, 7, 7, 7, 7, 7, 7, 7, 7, 7, 7, 7, 7, 7, 7, 7, 7, 7, 7, 7, 7, 7, 7, 7, 7, 7, 7, 7, 7, 8, 8, 8, 8, 8, 8, 8, 8, 8, 8, 8, 8, 8, 8, 8, 8, 8, 8, 8, 8, 8, 8, 8, 8, 8, 8, 8, 8, 8, 8, 8, 8, 8, 8, 8, 8, 8, 8, 8, 8, 8, 8, 8, 8, 8, 8, 8, 8, 8, 8, 8, 8, 8, 8, 8, 8, 8, 8, 8, 8, 8, 8, 8, 8, 8, 8, 8, 8, 8, 8, 8, 8, 8, 8, 8, 8, 8, 8, 8, 8, 8, 8, 8, 8, 8, 8, 8, 8, 8, 8, 8, 8, 8, 8, 8, 8, 8, 8, 8, 8, 8, 8, 8, 8, 8, 8, 8, 8, 8, 8, 8, 8, 8, 8, 8, 8, 8, 8, 8, 8, 8, 8, 8, 8, 8, 8, 8, 8]⟩
theorem lenTab_all : ∀ v : Fin 256, (match idx lenTab.data.toList (v.val : Int) with | some c => decide (1 ≤ v.val → 1 ≤ c.toNat ∧ 2 ^ (c.toNat - 1) ≤ v.val) && decide (v.val < 2 ^ c.toNat) && decide (c.toNat ≤ 8) | none => false) = true := by decide
theorem lenTab_ok {v : Int} (h0 : 0 ≤ v) (h1 : v < 256) : ∃ c, idx lenTab.data.toList v = some c ∧ (1 ≤ v → 1 ≤ c.toNat ∧ 2 ^ (c.toNat - 1) ≤ v) ∧ v < 2 ^ c.toNat ∧ c.toNat ≤ 8 := by
 obtain ⟨k, rfl⟩ : ∃ k : Nat, v = (k : Int) := ⟨v.toNat, by omega⟩
 have := lenTab_all ⟨k, by omega⟩
 split at this
 ·rename_i c hc
  simp only [Bool.and_eq_true, decide_eq_true_eq] at this
  obtain ⟨⟨a, b⟩, d⟩ := this
  refine ⟨c, hc, fun h => ⟨(a (by omega)).1, ?_⟩, ?_, d⟩
  ·have := (a (by omega)).2; exact_mod_cast this
  ·exact_mod_cast b
 ·cases this
theorem len64 {a : Int} (ha : U64 a) (h1 : 1 ≤ a) : ∃ n : Nat, math_bits_Len64 a = some (n : Int) ∧ 1 ≤ n ∧ n ≤ 64 ∧ 2 ^ (n - 1) ≤ a ∧ a < 2 ^ n := by
 have key : ∃ (k : Nat) (v : Int), k ≤ 56 ∧ v = a / 2 ^ k ∧ 1 ≤ v ∧ v < 256 ∧ math_bits_Len64 a = Option.bind (idx lenTab.data.toList (IntKind.u8.wrap v)) (fun c13 => lb ((IntKind.i64.wrap ((k : Int) + (IntKind.i64.wrap (c13.toNat : Int))))) (fun w14 => some w14)) := by
  unfold U64 at ha
  have s32 : ∀ x : Int, ishr .u64 x 32 = x / 4294967296 := fun x => ishr_u (by decide)
  have s16 : ∀ x : Int, ishr .u64 x 16 = x / 65536 := fun x => ishr_u (by decide)
  have s8 : ∀ x : Int, ishr .u64 x 8 = x / 256 := fun x => ishr_u (by decide)
  unfold math_bits_Len64
  simp only [s32, s16, s8]
  by_cases c1 : 4294967296 ≤ a
  ·rw [decide_eq_true c1]
   simp only [cond_true, Option.bind_some]
   by_cases c2 : 65536 ≤ a / 4294967296
   ·rw [decide_eq_true c2]
    simp only [cond_true, Option.bind_some]
    by_cases c3 : 256 ≤ a / 4294967296 / 65536
    ·rw [decide_eq_true c3]
     exact ⟨56, a / 4294967296 / 65536 / 256, by omega, by simp only [Int.reducePow]; omega, by omega, by omega, rfl⟩
    ·rw [decide_eq_false c3]
     exact ⟨48, a / 4294967296 / 65536, by omega, by simp only [Int.reducePow]; omega, by omega, by omega, rfl⟩
   ·rw [decide_eq_false c2]
    simp only [cond_false, Option.bind_some]
    by_cases c3 : 256 ≤ a / 4294967296
    ·rw [decide_eq_true c3]
     exact ⟨40, a / 4294967296 / 256, by omega, by simp only [Int.reducePow]; omega, by omega, by omega, rfl⟩
    ·rw [decide_eq_false c3]
     exact ⟨32, a / 4294967296, by omega, by simp only [Int.reducePow], by omega, by omega, rfl⟩
  ·rw [decide_eq_false c1]
   simp only [cond_false, Option.bind_some]
   by_cases c2 : 65536 ≤ a
   ·rw [decide_eq_true c2]
    simp only [cond_true, Option.bind_some]
    by_cases c3 : 256 ≤ a / 65536
    ·rw [decide_eq_true c3]
     exact ⟨24, a / 65536 / 256, by omega, by simp only [Int.reducePow]; omega, by omega, by omega, rfl⟩
    ·rw [decide_eq_false c3]
     exact ⟨16, a / 65536, by omega, by simp only [Int.reducePow], by omega, by omega, rfl⟩
   ·rw [decide_eq_false c2]
    simp only [cond_false, Option.bind_some]
    by_cases c3 : 256 ≤ a
    ·rw [decide_eq_true c3]
     exact ⟨8, a / 256, by omega, by simp only [Int.reducePow], by omega, by omega, rfl⟩
    ·rw [decide_eq_false c3]
     exact ⟨0, a, by omega, by simp, by omega, by omega, rfl⟩
 obtain ⟨k, v, k1, k2, k3, k4, k5⟩ := key
 obtain ⟨c, c1, c2, c3, c4⟩ := lenTab_ok (v := v) (by omega) k4
 obtain ⟨c5, c6⟩ := c2 k3
 obtain ⟨l1, l2⟩ := len_shift k2 c5 c6 c3
 rw [k5, wrap_u8 (by omega), bnd c1]
 unfold lb
 rw [i64s (r := (c.toNat : Int)) (by omega) (by omega), i64s (by omega) (by omega)]
 exact ⟨k + c.toNat, by simp, by omega, by omega, l1, l2⟩
theorem lz64 {a : Int} (ha : U64 a) (h1 : 1 ≤ a) : ∃ s : Nat, math_bits_LeadingZeros64 a = some (s : Int) ∧ s ≤ 63 ∧ 9223372036854775808 ≤ a * 2 ^ s ∧ a * 2 ^ s < 18446744073709551616 := by
 obtain ⟨n, e1, e2, e3, e4, e5⟩ := len64 ha h1
 unfold math_bits_LeadingZeros64
 rw [bnd e1, i64s (by omega) (by omega)]
 refine ⟨64 - n, by congr 1; omega, by omega, ?_, ?_⟩
 ·have := Int.mul_le_mul_of_nonneg_right e4 (Int.le_of_lt (show (0 : Int) < 2 ^ (64 - n) from Int.pow_pos (by decide)))
  rw [← Int.pow_add, show n - 1 + (64 - n) = 63 by omega] at this
  exact this
 ·have := Int.mul_lt_mul_of_pos_right e5 (show (0 : Int) < 2 ^ (64 - n) from Int.pow_pos (by decide))
  rw [← Int.pow_add, show n + (64 - n) = 64 by omega] at this
  exact this
end SX
end Go.Proofs.YtiijbkaiipjpkaaGreatDoor
set_option maxRecDepth 100000
namespace Go.Proofs.YtiijbkaiipjpkaaGreatDoor
namespace SX
open Go
theorem ge0_ok {b : Int} (h : 0 ≤ b) : ge0 b = some () := by unfold ge0; rw [if_pos h]
theorem ishl_u {a : Int} {s : Nat} (h : s ≤ 64) : ishl .u64 a (s : Int) = IntKind.u64.wrap (a * 2 ^ s) := by
 have e : ishl .u64 a (s : Int) = IntKind.u64.wrap (a * 2 ^ min (s : Int).toNat 64) := rfl
 rw [e, Int.toNat_natCast, Nat.min_eq_left h]
theorem ior_sh {h b : Int} {s : Nat} (hh : 0 ≤ h) (hb : 0 ≤ b) (hb2 : b < 2 ^ s) (h1 : U64 (h * 2 ^ s)) (h2 : U64 b) : ior .u64 (h * 2 ^ s) b = h * 2 ^ s + b := by
 rw [ior_eq h1 h2]
 obtain ⟨x, rfl⟩ : ∃ k : Nat, h = (k : Int) := ⟨h.toNat, by omega⟩
 obtain ⟨z, rfl⟩ : ∃ k : Nat, b = (k : Int) := ⟨b.toNat, by omega⟩
 have e : ((x : Int) * 2 ^ s) = ((2 ^ s * x : Nat) : Int) := by push_cast; exact Int.mul_comm _ _
 have hz : z < 2 ^ s := by exact_mod_cast hb2
 rw [e, Int.toNat_natCast, Int.toNat_natCast, ← Nat.two_pow_add_eq_or_of_lt hz]
 rfl
theorem dm_of {n q r y : Int} (e : n = q * y + r) (h0 : 0 ≤ r) (h1 : r < y) : n / y = q ∧ n % y = r := by
 have gd : n / y = q := by
  rw [e, Int.add_comm, Int.add_mul_ediv_right _ _ (by omega), Int.ediv_eq_zero_of_lt h0 h1, Int.zero_add]
 refine ⟨gd, ?_⟩
 have := Int.emod_add_mul_ediv n y
 rw [gd, Int.mul_comm] at this
 omega
theorem div64 {hi lo y : Int} (h1 : U64 hi) (h2 : U64 lo) (h3 : U64 y) (h4 : hi < y) : math_bits_Div64 hi lo y = some ((hi * 18446744073709551616 + lo) / y, (hi * 18446744073709551616 + lo) % y) := by
 have hi0 := h1.1
 have hlo := h2.1
 have hy1 : 1 ≤ y := by omega
 unfold math_bits_Div64
 have cy : (y == 0) = false := by simp; omega
 rw [cy, decide_eq_false (show ¬ y ≤ hi by omega)]
 simp only [cond_false]
 by_cases hz : hi = 0
 ·subst hz
  have : ((0 : Int) == 0) = true := rfl
  rw [this]
  simp only [cond_true]
  rw [bnd (nz_ok (show y ≠ 0 by omega)), bnd (nz_ok (show y ≠ 0 by omega)), Int.tdiv_eq_ediv_of_nonneg hlo, Int.tmod_eq_emod_of_nonneg hlo]
  have : lo / y ≤ lo := Int.ediv_le_self _ hlo
  rw [wu_id ⟨Int.ediv_nonneg hlo (by omega), by have := h2.2; omega⟩]
  simp
 have cz : (hi == 0) = false := by simp; exact hz
 rw [cz]
 simp only [cond_false]
 obtain ⟨s, e1, e2, e3, e4⟩ := lz64 h3 hy1
 have hP : (0 : Int) < 2 ^ s := Int.pow_pos (by omega)
 have hM : (0 : Int) < 2 ^ (64 - s) := Int.pow_pos (by omega)
 have hPM : (2 : Int) ^ s * 2 ^ (64 - s) = 18446744073709551616 := by rw [← Int.pow_add, show s + (64 - s) = 64 by omega]; rfl
 have hhP : hi * 2 ^ s < y * 2 ^ s := Int.mul_lt_mul_of_pos_right h4 hP
 have hhP0 : 0 ≤ hi * 2 ^ s := Int.mul_nonneg hi0 (by omega)
 have hqd0 : 0 ≤ lo / 2 ^ (64 - s) := Int.ediv_nonneg hlo (by omega)
 have hqd1 : lo / 2 ^ (64 - s) < 2 ^ s := by
  apply Int.ediv_lt_of_lt_mul hM
  rw [hPM]; exact h2.2
 have hPle : (2 : Int) ^ s ≤ 18446744073709551616 := by rw [← hPM]; have := Int.mul_le_mul_of_nonneg_left (show (1 : Int) ≤ 2 ^ (64 - s) by omega) (Int.le_of_lt hP); omega
 have f1 : IntKind.u64.wrap (s : Int) = (s : Int) := wu_id ⟨by omega, by omega⟩
 have f2 : IntKind.u64.wrap (64 - (s : Int)) = ((64 - s : Nat) : Int) := by rw [wu_id ⟨by omega, by omega⟩]; omega
 have f3 : ishl .u64 y (s : Int) = y * 2 ^ s := by rw [ishl_u (by omega), wu_id ⟨by omega, e4⟩]
 have f4 : ishl .u64 hi (s : Int) = hi * 2 ^ s := by rw [ishl_u (by omega), wu_id ⟨hhP0, by omega⟩]
 have f5 : ishr .u64 lo ((64 - s : Nat) : Int) = lo / 2 ^ (64 - s) := by rw [ishr_u (by omega), Int.toNat_natCast]
 have f6 : ishl .u64 lo (s : Int) = (lo * 2 ^ s) % 18446744073709551616 := by rw [ishl_u (by omega), wu]
 have f7 : ior .u64 (hi * 2 ^ s) (lo / 2 ^ (64 - s)) = hi * 2 ^ s + lo / 2 ^ (64 - s) := ior_sh hi0 hqd0 hqd1 ⟨hhP0, by omega⟩ ⟨hqd0, by omega⟩
 rw [bnd e1]
 simp only [lb, f1, f2, f3, f4, f5, f6, f7, ge0_ok (Int.natCast_nonneg s), ge0_ok (Int.natCast_nonneg (64 - s)), Option.bind_some, ishr_32]
 have hN : (hi * 18446744073709551616 + lo) * 2 ^ s = (hi * 2 ^ s + lo / 2 ^ (64 - s)) * 18446744073709551616 + (lo * 2 ^ s) % 18446744073709551616 := by
  have g1 := Int.emod_add_mul_ediv lo (2 ^ (64 - s))
  have g2 : lo * 2 ^ s = lo % 2 ^ (64 - s) * 2 ^ s + 18446744073709551616 * (lo / 2 ^ (64 - s)) := by
   have := congrArg (· * (2 : Int) ^ s) g1
   simp only [Int.add_mul] at this
   rw [← this, ← hPM]
   rw [Int.mul_assoc, Int.mul_comm (lo / 2 ^ (64 - s)), ← Int.mul_assoc, Int.mul_comm (2 ^ (64 - s)), Int.mul_assoc]
  have g3 : 0 ≤ lo % 2 ^ (64 - s) * 2 ^ s := Int.mul_nonneg (Int.emod_nonneg _ (by omega)) (by omega)
  have g4 : lo % 2 ^ (64 - s) * 2 ^ s < 18446744073709551616 := by
   rw [← hPM, Int.mul_comm (2 ^ s)]
   exact Int.mul_lt_mul_of_pos_right (Int.emod_lt_of_pos _ hM) hP
  rw [Int.add_mul, Int.mul_right_comm hi]
  generalize lo % 2 ^ (64 - s) * 2 ^ s = A at *
  generalize lo / 2 ^ (64 - s) = B at *
  generalize lo * 2 ^ s = C at *
  generalize hi * 2 ^ s = D at *
  omega
 have hu0 : 0 ≤ hi * 2 ^ s + lo / 2 ^ (64 - s) := by omega
 have huy : hi * 2 ^ s + lo / 2 ^ (64 - s) < y * 2 ^ s := by
  have : (hi + 1) * 2 ^ s ≤ y * 2 ^ s := Int.mul_le_mul_of_nonneg_right (by omega) (by omega)
  rw [Int.add_mul] at this; omega
 have hU0 : 0 ≤ (lo * 2 ^ s) % 18446744073709551616 := by omega
 have hU1 : (lo * 2 ^ s) % 18446744073709551616 < 18446744073709551616 := by omega
 have hfin : ∀ q R : Int, (hi * 18446744073709551616 + lo) * 2 ^ s = q * (y * 2 ^ s) + R → 0 ≤ R → R < y * 2 ^ s → (hi * 18446744073709551616 + lo) / y = q ∧ (hi * 18446744073709551616 + lo) % y = R / 2 ^ s := by
  intro q R hq hR0 hR1
  have hr : R = (hi * 18446744073709551616 + lo - q * y) * 2 ^ s := by rw [Int.sub_mul, Int.mul_assoc q]; omega
  have hd : R / 2 ^ s = hi * 18446744073709551616 + lo - q * y := by rw [hr]; exact Int.mul_ediv_cancel _ (by omega)
  rw [hd]
  generalize hi * 18446744073709551616 + lo = n at *
  have : 0 ≤ n - q * y := by
   by_cases hc : 0 ≤ n - q * y
   ·exact hc
   ·have := Int.mul_le_mul_of_nonneg_right (show n - q * y ≤ -1 by omega) (Int.le_of_lt hP); omega
  have : n - q * y < y := by
   apply Int.lt_of_mul_lt_mul_right (a := 2 ^ s) _ (by omega)
   omega
  exact dm_of (by omega) (by assumption) (by assumption)
 generalize (hi * 18446744073709551616 + lo) * 2 ^ s = NP at *
 generalize hYe : y * 2 ^ s = Y at *
 generalize hi * 2 ^ s + lo / 2 ^ (64 - s) = u at *
 generalize (lo * 2 ^ s) % 18446744073709551616 = U at *
 rw [iand_low (a := Y) ⟨by omega, e4⟩, iand_low (a := U) ⟨hU0, hU1⟩]
 have k1 : Y / 4294967296 * 4294967296 + Y % 4294967296 = Y := by omega
 have k2 : 2147483648 ≤ Y / 4294967296 := by omega
 have k3 : Y / 4294967296 < 4294967296 := by omega
 have k4 : 0 ≤ Y % 4294967296 := by omega
 have k5 : Y % 4294967296 < 4294967296 := by omega
 have k6 : 0 ≤ U / 4294967296 := by omega
 have k7 : U / 4294967296 < 4294967296 := by omega
 have k8 : 0 ≤ U % 4294967296 := by omega
 have k9 : U % 4294967296 < 4294967296 := by omega
 have k10 : U = U / 4294967296 * 4294967296 + U % 4294967296 := by omega
 generalize U / 4294967296 = u1 at *
 generalize U % 4294967296 = u0 at *
 generalize Y / 4294967296 = y1 at *
 generalize Y % 4294967296 = y0 at *
 have dv : ∀ v : Int, 0 ≤ v → v < Y → IntKind.u64.wrap (Int.tdiv v y1) = v / y1 ∧ IntKind.u64.wrap (v - IntKind.u64.wrap (v / y1 * y1)) = v % y1 := by
  intro v v0 v1
  have := Int.ediv_le_self y1 v0
  have q0 := Int.ediv_nonneg v0 (show 0 ≤ y1 by omega)
  have m0 := Int.emod_nonneg v (show y1 ≠ 0 by omega)
  have m1 := Int.emod_lt_of_pos v (show 0 < y1 by omega)
  have e := Int.emod_add_mul_ediv v y1
  rw [Int.mul_comm] at e
  rw [Int.tdiv_eq_ediv_of_nonneg v0, wu_id (a := v / y1) ⟨q0, by omega⟩]
  refine ⟨rfl, ?_⟩
  have : 0 ≤ v / y1 * y1 := Int.mul_nonneg q0 (by omega)
  rw [wu_id (a := v / y1 * y1) ⟨this, by omega⟩, wu_id ⟨by omega, by omega⟩]
  omega
 have hnz : nz y1 = some () := nz_ok (by omega)
 obtain ⟨d1, d2⟩ := dv u hu0 huy
 simp only [hnz, d1, d2, Option.bind_some]
 obtain ⟨q1, l1, l2, l3, l4, l5⟩ := kn_loopA (u := u) (u1 := u1) (y1 := y1) (y0 := y0) hu0 (by omega) k6 k7 k2 k3 k4 k5
 rw [k1] at l4 l5
 rw [bnd l1]
 have w25 : IntKind.u64.wrap (IntKind.u64.wrap (IntKind.u64.wrap (u * 4294967296) + u1) - IntKind.u64.wrap (q1 * Y)) = u * 4294967296 + u1 - q1 * Y := by
  simp only [wu]
  generalize q1 * Y = z at *
  omega
 simp only [w25]
 have v0 : 0 ≤ u * 4294967296 + u1 - q1 * Y := by omega
 have v1 : u * 4294967296 + u1 - q1 * Y < Y := by omega
 have hv : u * 4294967296 + u1 = q1 * Y + (u * 4294967296 + u1 - q1 * Y) := by omega
 generalize u * 4294967296 + u1 - q1 * Y = v at *
 obtain ⟨d3, d4⟩ := dv v v0 v1
 simp only [d3, d4]
 obtain ⟨q0, m1, m2, m3, m4, m5⟩ := kn_loopB (u := v) (u1 := u0) (y1 := y1) (y0 := y0) v0 (by omega) k8 k9 k2 k3 k4 k5
 rw [k1] at m4 m5
 rw [bnd m1]
 have w36 : IntKind.u64.wrap (IntKind.u64.wrap (q1 * 4294967296) + q0) = q1 * 4294967296 + q0 := by simp only [wu]; omega
 have w37 : IntKind.u64.wrap (IntKind.u64.wrap (IntKind.u64.wrap (v * 4294967296) + u0) - IntKind.u64.wrap (q0 * Y)) = v * 4294967296 + u0 - q0 * Y := by
  simp only [wu]
  generalize q0 * Y = z at *
  omega
 rw [w36, w37, ishr_u (by omega), Int.toNat_natCast]
 obtain ⟨g1, g2⟩ := hfin (q1 * 4294967296 + q0) (v * 4294967296 + u0 - q0 * Y) (by
  rw [hN, k10, Int.add_mul, Int.mul_right_comm]
  generalize q1 * Y = z at *
  generalize q0 * Y = z0 at *
  omega) (by omega) (by omega)
 rw [g1, g2]
def xv (w : Texact_Wide) : Int := w.Hi * 18446744073709551616 + w.Lo
def XW (w : Texact_Wide) : Prop := U64 w.Hi ∧ U64 w.Lo
theorem exact_mul {a b : Int} (ha : U64 a) (hb : U64 b) : ∃ w, exact_Mul a b = some w ∧ XW w ∧ xv w = a * b := by
 obtain ⟨h, l, e1, e2, e3, e4⟩ := mul64 ha hb
 unfold exact_Mul; rw [bnd e1]
 exact ⟨_, rfl, ⟨e2, e3⟩, e4⟩
def rnd (n c m : Int) : Int := if (m = 2 ∧ c ≤ 2 * (n % c)) ∨ (m = 1 ∧ 0 < n % c) then n / c + 1 else n / c
theorem exact_div {w : Texact_Wide} {c m : Int} (hw : XW w) (hc : U64 c) (h1 : 1 ≤ c) (hm : m = 0 ∨ m = 1 ∨ m = 2) : exact_Div w c m = some (if rnd (xv w) c m < 18446744073709551616 then (rnd (xv w) c m, 0) else (0, 3)) := by
 unfold exact_Div
 have hc0 : ((((c == 0) || (decide (m < 0))) || (decide (3 < m))) : Bool) = false := by
  rcases hm with rfl | rfl | rfl <;> simp <;> omega
 rw [hc0]; simp only [cond_false]
 have hn0 : 0 ≤ xv w := by unfold xv; have := hw.1.1; have := hw.2.1; omega
 have hr0 : 0 ≤ xv w % c := Int.emod_nonneg _ (by omega)
 have hr1 : xv w % c < c := Int.emod_lt_of_pos _ (by omega)
 have hle : xv w / c ≤ rnd (xv w) c m := by unfold rnd; split <;> omega
 by_cases h : c ≤ w.Hi
 ·rw [decide_eq_true h]
  have : 18446744073709551616 ≤ xv w / c := by
   apply Int.le_ediv_of_mul_le (by omega)
   have := Int.mul_le_mul_of_nonneg_left h (show (0 : Int) ≤ 18446744073709551616 by omega)
   unfold xv; have := hw.2.1; omega
  rw [if_neg (by omega)]; rfl
 ·rw [decide_eq_false h]
  simp only [cond_false]
  have e := div64 hw.1 hw.2 hc (by omega)
  rw [show w.Hi * 18446744073709551616 + w.Lo = xv w from rfl] at e
  rw [bnd e]
  have hq : xv w / c < 18446744073709551616 := by
   apply Int.ediv_lt_of_lt_mul (by omega)
   have := Int.mul_le_mul_of_nonneg_right (show w.Hi + 1 ≤ c by omega) (show (0 : Int) ≤ 18446744073709551616 by omega)
   unfold xv; have := hw.2.2; rw [Int.mul_comm 18446744073709551616]; omega
  have hq0 : 0 ≤ xv w / c := Int.ediv_nonneg hn0 (by omega)
  dsimp only
  have er : exact_raised (xv w / c) (xv w % c) c m = some (decide ((m = 2 ∧ c ≤ 2 * (xv w % c)) ∨ (m = 1 ∧ 0 < xv w % c))) := by
   unfold exact_raised
   rw [wu_id (a := c - xv w % c) ⟨by omega, by have := hc.2; omega⟩]
   rcases hm with rfl | rfl | rfl
   ·simp
   ·simp
   ·simp; omega
  rw [bnd er]
  unfold rnd
  by_cases hu : (m = 2 ∧ c ≤ 2 * (xv w % c)) ∨ (m = 1 ∧ 0 < xv w % c)
  ·rw [decide_eq_true hu, if_pos hu]
   simp only [Bool.not_true, cond_false]
   by_cases hx : xv w / c = 18446744073709551615
   ·rw [hx]; rfl
   ·have : (xv w / c == 18446744073709551615) = false := by simp; exact hx
    rw [this, if_pos (by omega), wu_id ⟨by omega, by omega⟩]; rfl
  ·rw [decide_eq_false hu, if_neg hu, if_pos hq]; rfl
end SX
end Go.Proofs.YtiijbkaiipjpkaaGreatDoor
set_option maxRecDepth 100000
namespace Go.Proofs.YtiijbkaiipjpkaaGreatDoor
namespace SX
open Go
structure VProd (l : List TProduct) (p : TProduct) : Prop where
 price : 1 ≤ p.Price ∧ p.Price ≤ 1000000000000
 lvl : 6 ≤ level p.Code
 ctr : ctry p.Country = true
 proc : wordsB p.Processes = true
 few : p.Inputs.length ≤ 8
 asc : p.Inputs.Pairwise fun a b => a.Product < b.Product
 inp : ∀ x ∈ p.Inputs, (findP l x.Product).isSome = true ∧ 0 ≤ x.Value ∧ x.Value ≤ 1000000000000
 obt : p.Obtained = true → p.Inputs = []
structure VPs (l : List TProduct) : Prop where
 len : l.length ≤ 64
 asc : l.Pairwise fun a b => a.ID < b.ID
 all : ∀ p ∈ l, VProd l p
theorem wordsB_parts {l : List ByteArray} (h : wordsB l = true) : l.length ≤ 8 ∧ (∀ s ∈ l, wordB s = true) ∧ Strict ltS l := by
 unfold wordsB at h
 simp only [Bool.and_eq_true, decide_eq_true_eq] at h
 exact ⟨h.1, fun s hs => List.all_eq_true.1 h.2.1 s hs, (ascB_iff _).1 h.2.2⟩
theorem VPs.sorted {l : List TProduct} (h : VPs l) : Sorted l := ⟨by have := h.len; omega, h.asc, fun p hp => by have h1 := (wordsB_parts (h.all p hp).proc).1; have h2 := (h.all p hp).few; omega⟩
def getP (l : List TProduct) (id : Int) : TProduct := (findP l id).getD zProd
theorem findP_mem {l : List TProduct} {id : Int} {p : TProduct} (h : findP l id = some p) : p ∈ l ∧ p.ID = id := ⟨List.mem_of_find?_eq_some h, by have := List.find?_some h; simpa using this⟩
theorem getP_ok {l : List TProduct} (h : VPs l) {id : Int} (hs : (findP l id).isSome = true) : getP l id ∈ l ∧ VProd l (getP l id) ∧ (getP l id).ID = id := by
 cases hf : findP l id with
 | none => rw [hf] at hs; cases hs
 | some p =>
  have := findP_mem hf
  unfold getP; rw [hf]; exact ⟨this.1, h.all p this.1, this.2⟩
abbrev CSet := TOriginClaim → Bool
def takeS (ps : List Int) (S : CSet) (q : TProduct) (v : Int) : TInput × Option TOriginClaim := match ps.find? (fun id => S ⟨q.ID, id⟩) with
 | some id => (⟨q.Code, v, true⟩, some ⟨q.ID, id⟩)
 | none => (⟨q.Code, v, false⟩, none)
def portionS (v part price : Int) : Int := if rnd (v * part) price 1 ≤ 1000000000000 then rnd (v * part) price 1 else 1000000000000
def fullB (a : TAgreement) (q : TProduct) : Bool := a.Kind == 3 && hasS a.Parties q.Country
def supplyS (plan : List TProduct) (a : TAgreement) (ps : List Int) (S : CSet) (x : TIngredient) : List (TInput × Option TOriginClaim) :=
 cond ((takeS ps S (getP plan x.Product) x.Value).2.isSome || !fullB a (getP plan x.Product) || (getP plan x.Product).Inputs.isEmpty) [takeS ps S (getP plan x.Product) x.Value]
  ((getP plan x.Product).Inputs.map fun y => takeS ps S (getP plan y.Product) (portionS x.Value y.Value (getP plan x.Product).Price))
def suppliesS (plan : List TProduct) (a : TAgreement) (ps : List Int) (S : CSet) (p : TProduct) : List (TInput × Option TOriginClaim) := p.Inputs.flatMap (supplyS plan a ps S)
def procS (plan : List TProduct) (a : TAgreement) (acc : List ByteArray) (x : TIngredient) : List ByteArray := cond (fullB a (getP plan x.Product)) (unionS acc (getP plan x.Product).Processes) acc
def zCase : TCase := ⟨ByteArray.empty, 0, false, [], []⟩
def agrOf (l : List TAgreement) (id : Int) : TAgreement := (findA l id).getD zAgr
def caseC (plan : List TProduct) (l : List TAgreement) (imp : ByteArray) (c : TOriginClaim) (S : CSet) : TCase :=
 ⟨(getP plan c.Product).Code, (getP plan c.Product).Price, (getP plan c.Product).Obtained, ((getP plan c.Product).Inputs.foldl (procS plan (agrOf l c.Agreement)) (getP plan c.Product).Processes).take 8,
  (suppliesS plan (agrOf l c.Agreement) (partnersS l c.Agreement (getP plan c.Product).Country imp) S (getP plan c.Product)).map (·.1)⟩
def premC (plan : List TProduct) (l : List TAgreement) (imp : ByteArray) (c : TOriginClaim) (S : CSet) : List TOriginClaim :=
 sd ltClaim ((suppliesS plan (agrOf l c.Agreement) (partnersS l c.Agreement (getP plan c.Product).Country imp) S (getP plan c.Product)).filterMap (·.2))
def caseS (plan : List TProduct) (l : List TAgreement) (imp : ByteArray) (c : TOriginClaim) (S : CSet) : TCase × List TOriginClaim := cond (admB plan l imp c) (caseC plan l imp c S, premC plan l imp c S) (zCase, [])
theorem rnd_pos {n c : Int} (hn : 0 ≤ n) (hc : 1 ≤ c) : 0 ≤ rnd n c 1 := by
 unfold rnd
 have := Int.ediv_nonneg hn (show (0 : Int) ≤ c by omega)
 split <;> omega
theorem portionS_range {v part price : Int} (h1 : 0 ≤ v) (h2 : 0 ≤ part) (h3 : 1 ≤ price) : 0 ≤ portionS v part price ∧ portionS v part price ≤ 1000000000000 := by
 unfold portionS
 have := rnd_pos (Int.mul_nonneg h1 h2) h3
 split <;> omega
theorem prog_portion {v part price : Int} (h1 : 0 ≤ v ∧ v ≤ 1000000000000) (h2 : 0 ≤ part ∧ part ≤ 1000000000000) (h3 : 1 ≤ price ∧ price ≤ 1000000000000) : cumulation_portion v part price = some (portionS v part price) := by
 unfold cumulation_portion exact_MulDiv
 rw [wu_id (a := v) ⟨by omega, by omega⟩, wu_id (a := part) ⟨by omega, by omega⟩, wu_id (a := price) ⟨by omega, by omega⟩]
 obtain ⟨w, e1, e2, e3⟩ := exact_mul (a := v) (b := part) ⟨by omega, by omega⟩ ⟨by omega, by omega⟩
 rw [e1, Option.bind_some, exact_div e2 ⟨by omega, by omega⟩ h3.1 (.inr (.inl rfl)), e3]
 unfold portionS
 have hp := rnd_pos (Int.mul_nonneg h1.1 h2.1) h3.1
 generalize rnd (v * part) price 1 = r at hp
 by_cases hr : r < 18446744073709551616
 ·rw [if_pos hr]
  by_cases hm : r ≤ 1000000000000
  ·rw [if_pos hm]
   simp only [Option.bind_some, bne_self_eq_false, Bool.false_or]
   rw [decide_eq_false (by omega), cond_false, i64s (by omega) (by omega)]
  ·rw [if_neg hm]
   simp only [Option.bind_some, bne_self_eq_false, Bool.false_or]
   rw [decide_eq_true (by omega)]; rfl
 ·rw [if_neg hr, if_neg (by omega)]; rfl
def icS : TInput × Option TOriginClaim → Icumulation_supply
 | (i, some c) => .proved_ ⟨i, c⟩
 | (i, none) => .plain_ ⟨i⟩
theorem mget_mset {K V : Type} [DecidableEq K] (m : List (K × V)) (k c : K) (v : V) : mget (mset m k v) c = if k = c then some v else mget m c := by
 induction m with
 | nil => simp only [mset, mget]
 | cons p m ih =>
  obtain ⟨a, w⟩ := p
  simp only [mset]
  by_cases h : a = k
  ·subst h
   simp only [if_true, mget]
   split <;> rfl
  ·rw [if_neg h]
   simp only [mget, ih]
   by_cases h2 : a = c
   ·subst h2; simp [show ¬ k = a from fun e => h e.symm]
   ·simp [h2]
theorem mget_set (set : List TOriginClaim) (c : TOriginClaim) : (mget (set.foldl (fun m x => mset m x true) []) c).getD false = memB set c := by
 have key : ∀ (l : List TOriginClaim) (m : List (TOriginClaim × Bool)), (mget (l.foldl (fun m x => mset m x true) m) c).getD false = (memB l c || (mget m c).getD false) := by
  intro l
  induction l with
  | nil => intro m; rfl
  | cons x l ih =>
   intro m
   rw [List.foldl_cons, ih, mget_mset]
   show _ = ((decide (x = c) || memB l c) || _)
   by_cases h : x = c
   ·rw [if_pos h, decide_eq_true h]; cases memB l c <;> rfl
   ·rw [if_neg h, decide_eq_false h, Bool.false_or]
 rw [key]; show (memB set c || false) = _; rw [Bool.or_false]
theorem prog_take (ps : List Int) (m : List (TOriginClaim × Bool)) (S : CSet) (hm : ∀ c, (mget m c).getD false = S c) (hps : ps.length ≤ 140737488355328) (q : TProduct) (v : Int) : cumulation_supplier_take ⟨ps, m⟩ q v = some (icS (takeS ps S q v)) := by
 unfold cumulation_supplier_take takeS
 refine (find_loop (l := ps) (by omega) (fun _ id => cond (S ⟨q.ID, id⟩) (some (.inr (Icumulation_supply.proved_ ⟨⟨q.Code, v, true⟩, ⟨q.ID, id⟩⟩))) none) (.inl ()) (fun k hk => ?_) (by simp only [dnlt, cond_false])).trans ?_
 ·simp only [dlt hk, cond_true, idx_nat hk, Option.bind_some, wnext hk (show ps.length ≤ 4611686018427387904 by omega), hm]
  cases S ⟨q.ID, ps[k]⟩ <;> rfl
 ·rw [findS_find (fun id : Int => S ⟨q.ID, id⟩) (fun id => (Sum.inr (Icumulation_supply.proved_ ⟨⟨q.Code, v, true⟩, ⟨q.ID, id⟩⟩) : Unit ⊕ Icumulation_supply))]
  cases ps.find? (fun id : Int => S ⟨q.ID, id⟩) <;> rfl
theorem supplyS_len {plan : List TProduct} (hv : VPs plan) (a : TAgreement) (ps : List Int) (S : CSet) (x : TIngredient) (hx : (findP plan x.Product).isSome = true) : (supplyS plan a ps S x).length ≤ 8 := by
 unfold supplyS
 generalize ((takeS ps S (getP plan x.Product) x.Value).2.isSome || !fullB a (getP plan x.Product) || (getP plan x.Product).Inputs.isEmpty) = b
 cases b
 ·rw [cond_false, List.length_map]; exact (getP_ok hv hx).2.1.few
 ·simp
theorem wlen {w : List ByteArray} (h : wordsB w = true) : w.length ≤ 8 := (wordsB_parts h).1
theorem unionS_len (a b : List ByteArray) : (unionS a b).length ≤ a.length + b.length := by unfold unionS; have := sd_len (lt := ltS) (a ++ b); rwa [List.length_append] at this
theorem procS_len {plan : List TProduct} (hv : VPs plan) (a : TAgreement) (acc : List ByteArray) (x : TIngredient) (hx : (findP plan x.Product).isSome = true) : (procS plan a acc x).length ≤ acc.length + 8 := by
 unfold procS
 cases fullB a (getP plan x.Product)
 ·rw [cond_false]; omega
 ·rw [cond_true]
  have h1 := unionS_len acc (getP plan x.Product).Processes
  have h2 := wlen (getP_ok hv hx).2.1.proc
  omega
theorem find_fst {plan : List TProduct} (hv : VPs plan) (id : Int) : production_Find plan id = some (getP plan id, (findP plan id).isSome) := by
 rw [prog_findP _ _ hv.sorted]; unfold getP; cases findP plan id <;> rfl
theorem is_proved_ic (t : TInput × Option TOriginClaim) : (icS t).is_proved_ = t.2.isSome := by obtain ⟨i, c⟩ := t; cases c <;> rfl
theorem gather_ok {plan : List TProduct} (hv : VPs plan) (a : TAgreement) (ha : a.Parties.length ≤ 140737488355328) {p : TProduct} (hp : VProd plan p) (ps : List Int) (hps : ps.length ≤ 140737488355328) (m : List (TOriginClaim × Bool)) (S : CSet) (hm : ∀ c, (mget m c).getD false = S c) :
    cumulation_gather plan a p ⟨ps, m⟩ = some ((suppliesS plan a ps S p).map icS, (p.Inputs.foldl (procS plan a) p.Processes).take 8) := by
  unfold cumulation_gather slices_Clone_string_string
  have hpr := wlen hp.proc
  have hfew := hp.few
  rw [app_nil_ok (by omega) (by omega), Option.bind_some]
  refine (fold_loop (l := p.Inputs) (by omega) (fun i (s : List Icumulation_supply × List ByteArray) => (s.1, s.2, i)) (fun s x => (s.1 ++ (supplyS plan a ps S x).map icS, procS plan a s.2 x)) (fun s => s) (fun k s => s.1.length ≤ 8 * k ∧ s.2.length ≤ 8 + 8 * k) ([], p.Processes) ⟨by simp, by simpa using hpr⟩ (fun k hk s hs => ?_) (fun s _ => by simp only [dnlt, cond_false])).1.trans ?_
  · obtain ⟨l9, l12⟩ := s
    obtain ⟨h1, h2⟩ := hs
    dsimp only at h1 h2 ⊢
    obtain ⟨hin, hv0, hv1⟩ := hp.inp _ (List.getElem_mem hk)
    obtain ⟨hq1, hq2, hq3⟩ := getP_ok hv hin
    have hql := hq2.few
    refine ⟨?_, by have := supplyS_len hv a ps S p.Inputs[k] hin; simp; omega, by have := procS_len hv a l12 p.Inputs[k] hin; omega⟩
    simp only [dlt hk, cond_true, idx_nat hk, Option.bind_some, wnext hk (show p.Inputs.length ≤ 4611686018427387904 by omega), find_fst hv]
    generalize hx : p.Inputs[k] = x at *
    rw [prog_has _ _ ha, prog_take ps m S hm hps]
    unfold supplyS procS fullB
    have e1 : Option.bind (gd (a.Kind == 3) (some (hasS a.Parties (getP plan x.Product).Country))) (fun x33 => some ((a.Kind == 3) && x33)) = some ((a.Kind == 3) && hasS a.Parties (getP plan x.Product).Country) := by cases (a.Kind == 3) <;> rfl
    have e2 : ∀ {β : Type} (K : Bool → Option β), (∀ b c, ((a.Kind == 3) && b) = ((a.Kind == 3) && c) → K b = K c) → Option.bind (gd (a.Kind == 3) (some (hasS a.Parties (getP plan x.Product).Country))) K = K (hasS a.Parties (getP plan x.Product).Country) := by
      intro β K hK
      cases hk3 : (a.Kind == 3)
      · show K default = _; exact hK _ _ (by rw [hk3]; rfl)
      · rfl
    rw [e2 _ (fun b c hbc => by simp only [hbc])]
    generalize hF : ((a.Kind == 3) && hasS a.Parties (getP plan x.Product).Country) = F
    have e3 : (cond F (Option.bind (goods_Union l12 (getP plan x.Product).Processes) (fun x38 => some x38)) (some l12)) = some (cond F (unionS l12 (getP plan x.Product).Processes) l12) := by
      cases F
      · rfl
      · rw [cond_true, prog_union _ _ (by have := wlen hq2.proc; omega)]; rfl
    simp only [e3, Option.bind_some, is_proved_ic, len0]
    cases hc : ((takeS ps S (getP plan x.Product) x.Value).2.isSome || !F || (getP plan x.Product).Inputs.isEmpty)
    · simp only [cond_false]
      refine (congrArg (fun o => Option.bind o _) (fold_loop (l := (getP plan x.Product).Inputs) (by omega) (fun i (s : List Icumulation_supply) => (s, i)) (fun s y => s ++ [icS (takeS ps S (getP plan y.Product) (portionS x.Value y.Value (getP plan x.Product).Price))]) (fun s => s) (fun j s => s.length ≤ 8 * k + j) l9 h1 (fun j hj s hs => ⟨?_, by simp; omega⟩) (fun s _ => by simp only [dnlt, cond_false])).1).trans ?_
      rotate_left
      · simp only [Option.bind_some]
        have hfl : ∀ (ys : List TIngredient) (acc : List Icumulation_supply), ys.foldl (fun s y => s ++ [icS (takeS ps S (getP plan y.Product) (portionS x.Value y.Value (getP plan x.Product).Price))]) acc = acc ++ (ys.map fun y => takeS ps S (getP plan y.Product) (portionS x.Value y.Value (getP plan x.Product).Price)).map icS := by
          intro ys
          induction ys with
          | nil => intro acc; simp
          | cons y ys ih => intro acc; rw [List.foldl_cons, ih]; simp
        rw [hfl]
      · obtain ⟨hy1, hy2, hy3⟩ := hq2.inp _ (List.getElem_mem hj)
        simp only [dlt hj, cond_true, idx_nat hj, Option.bind_some, wnext hj (show (getP plan x.Product).Inputs.length ≤ 4611686018427387904 by omega), find_fst hv]
        rw [prog_portion ⟨hv0, hv1⟩ ⟨hy2, hy3⟩ hq2.price, Option.bind_some, prog_take ps m S hm hps, Option.bind_some, app_ok (by simp; omega) (by simp; omega)]; rfl
    · simp only [cond_true]
      rw [app_ok (by simp; omega) (by simp; omega)]; rfl
  · dsimp only
    have hfold : ∀ (xs : List TIngredient) (s : List Icumulation_supply × List ByteArray), xs.foldl (fun s x => (s.1 ++ (supplyS plan a ps S x).map icS, procS plan a s.2 x)) s = (s.1 ++ (xs.flatMap (supplyS plan a ps S)).map icS, xs.foldl (procS plan a) s.2) := by
      intro xs
      induction xs with
      | nil => intro s; simp
      | cons x xs ih => intro s; rw [List.foldl_cons, ih, List.flatMap_cons]; simp
    rw [hfold]
    dsimp only
    rw [sub_pre _ _ (by omega), Option.bind_some]; rfl
end SX
end Go.Proofs.YtiijbkaiipjpkaaGreatDoor
set_option maxRecDepth 100000
namespace Go.Proofs.YtiijbkaiipjpkaaGreatDoor
namespace SX
open Go
theorem adm_parts {p : List TProduct} {l : List TAgreement} {i : ByteArray} {c : TOriginClaim} (h : admB p l i c = true) : ∃ q a r, findP p c.Product = some q ∧ findA l c.Agreement = some a ∧ ruleOfS a q.Code = some r ∧ q.Country ≠ i ∧ hasP a q.Country i = true := by
 unfold admB at h
 split at h
 ·rename_i q a e1 e2
  simp only [Bool.and_eq_true, Bool.not_eq_true', decide_eq_false_iff_not] at h
  obtain ⟨⟨h1, h2⟩, h3⟩ := h
  obtain ⟨r, hr⟩ := Option.isSome_iff_exists.1 h3
  exact ⟨q, a, r, e1, e2, hr, h1, h2⟩
 ·cases h
theorem supplies_len {plan : List TProduct} (hv : VPs plan) (a : TAgreement) (ps : List Int) (S : CSet) {p : TProduct} (hp : VProd plan p) : (suppliesS plan a ps S p).length ≤ 64 := by
 unfold suppliesS
 have key : ∀ xs : List TIngredient, (∀ x ∈ xs, (findP plan x.Product).isSome = true) → (xs.flatMap (supplyS plan a ps S)).length ≤ 8 * xs.length := by
  intro xs
  induction xs with
  | nil => intro _; simp
  | cons x xs ih =>
   intro h
   rw [List.flatMap_cons, List.length_append, List.length_cons]
   have h1 := supplyS_len hv a ps S x (h x (by simp)); have h2 := ih fun y hy => h y (by simp [hy]); omega
 have h1 := key p.Inputs fun x hx => (hp.inp x hx).1
 have h2 := hp.few
 omega
theorem prog_case {plan : List TProduct} {l : List TAgreement} (hv : VPs plan) (hl : VAs l) (imp : ByteArray) (c : TOriginClaim) (set : List TOriginClaim) (hs : set.length ≤ 140737488355328) : cumulation_CaseOf plan l imp c set = some (caseS plan l imp c (memB set)) := by
 unfold cumulation_CaseOf caseS
 have hlen := hl.len
 rw [prog_adm _ _ _ _ hv.sorted hl, Option.bind_some]
 cases had : admB plan l imp c
 ·rfl
 obtain ⟨q, a, r, e1, e2, _, _, _⟩ := adm_parts had
 have hq : VProd plan (getP plan c.Product) := (getP_ok hv (by rw [e1]; rfl)).2.1
 have ha : agrOf l c.Agreement = a := by unfold agrOf; rw [e2]; rfl
 have hva := (findA_va hl e2).1
 simp only [Bool.not_true, cond_false, cond_true]
 rw [find_fst hv, Option.bind_some, prog_findA _ _ (by omega), e2, Option.bind_some, prog_partners _ _ _ _ hl, Option.bind_some]
 have hpl := partners_len l c.Agreement (getP plan c.Product).Country imp
 unfold caseC premC
 rw [ha]
 generalize hps : partnersS l c.Agreement (getP plan c.Product).Country imp = ps at *
 refine (fold_loop (l := set) (by omega) (fun i (m : List (TOriginClaim × Bool)) => (i, m)) (fun m x => mset m x true) (fun m => m) (fun _ _ => True) [] trivial (fun k hk m _ => ⟨?_, trivial⟩) (fun m _ => by simp only [dnlt, cond_false])).1.trans ?_
 ·simp only [dlt hk, cond_true, idx_nat hk, Option.bind_some, wnext hk (show set.length ≤ 4611686018427387904 by omega)]
 rw [gather_ok hv (opt2 zAgr (some a)).1 hva.ok.par.1 hq ps (by omega) _ (memB set) (fun c => mget_set set c), Option.bind_some]
 dsimp +instances only [opt2]
 have hsl := supplies_len hv a ps (memB set) hq
 refine (fold_loop (l := (suppliesS plan a ps (memB set) (getP plan c.Product)).map icS) (by rw [List.length_map]; omega) (fun i (s : List TOriginClaim × List TInput) => (s.1, i, s.2)) (fun s x => (cond x.is_proved_ (s.1 ++ [x.as_proved_.premise]) s.1, s.2 ++ [match x with | .plain_ y => y.use | .proved_ y => y.use])) (fun s => s) (fun k s => s.1.length ≤ k ∧ s.2.length ≤ k) ([], []) ⟨by simp, by simp⟩ (fun k hk s hs => ⟨?_, ?_⟩) (fun s _ => by simp only [dnlt, cond_false])).1.trans ?_
 ·have hk2 : k < 64 := by rw [List.length_map] at hk; omega
  have ei : ∀ x : Icumulation_supply, Icumulation_supply_input x = some (match x with | .plain_ y => y.use | .proved_ y => y.use) := fun x => by cases x <;> rfl
  simp only [dlt hk, cond_true, idx_nat hk, Option.bind_some, wnext hk (show ((suppliesS plan a ps (memB set) (getP plan c.Product)).map icS).length ≤ 4611686018427387904 by rw [List.length_map]; omega), ei]
  rw [app_ok (by simp; omega) (by simp; omega), Option.bind_some, app_ok (by simp; omega) (by simp; omega)]
  cases ((suppliesS plan a ps (memB set) (getP plan c.Product)).map icS)[k].is_proved_ <;> rfl
 ·obtain ⟨h1, h2⟩ := hs
  cases ((suppliesS plan a ps (memB set) (getP plan c.Product)).map icS)[k].is_proved_ <;> simp <;> omega
 ·have key : ∀ (xs : List (TInput × Option TOriginClaim)) (s : List TOriginClaim × List TInput), (xs.map icS).foldl (fun s x => (cond x.is_proved_ (s.1 ++ [x.as_proved_.premise]) s.1, s.2 ++ [match x with | .plain_ y => y.use | .proved_ y => y.use])) s = (s.1 ++ xs.filterMap (·.2), s.2 ++ xs.map (·.1)) := by
   intro xs
   induction xs with
   | nil => intro s; simp
   | cons x xs ih =>
    intro s
    obtain ⟨i, o⟩ := x
    rw [List.map_cons, List.foldl_cons, ih]
    cases o with
    | none => simp [icS, Icumulation_supply.is_proved_]
    | some c => simp [icS, Icumulation_supply.is_proved_, Icumulation_supply.as_proved_]
  rw [key]
  simp only [List.nil_append]
  show Option.bind (some (isort ltClaim _)) _ = _
  rw [Option.bind_some, compactC _ (by rw [isort_len]; have := List.length_filterMap_le (fun x : TInput × Option TOriginClaim => x.2) (suppliesS plan a ps (memB set) (getP plan c.Product)); omega)]; rfl
end SX
end Go.Proofs.YtiijbkaiipjpkaaGreatDoor
set_option maxRecDepth 100000
namespace Go.Proofs.YtiijbkaiipjpkaaGreatDoor
namespace SX
open Go
theorem C6_ctry {s : ByteArray} (h : s ∈ C6) : ctry s = true := List.all_eq_true.1 C6_ok.1 s h
theorem W5_words {l : List ByteArray} (h : l.Sublist W5) : wordsB l = true := by
 unfold wordsB
 have h1 := h.length_le
 have h5 : W5.length = 5 := rfl
 simp only [Bool.and_eq_true, decide_eq_true_eq]
 exact ⟨by omega, List.all_eq_true.2 fun s hs => List.all_eq_true.1 W5_ok.1 s (h.subset hs), (ascB_iff _).2 (List.Pairwise.sublist h ((ascB_iff _).1 W5_ok.2.1))⟩
theorem MPs.found {l : List TProduct} (h : MPs l) {k : Nat} (hk : k < l.length) : (findP l (3 * ((k : Int) + 1))).isSome = true := by
 unfold findP
 rw [List.find?_isSome]
 exact ⟨l[k], List.getElem_mem hk, by have := (h.all k _ (List.getElem?_eq_getElem hk)).id; simpa using this⟩
theorem MPs.vps {l : List TProduct} (h : MPs l) : VPs l := by
 refine ⟨by have := h.len; omega, h.sorted.asc, fun p hp => ?_⟩
 obtain ⟨i, hi, rfl⟩ := List.getElem_of_mem hp
 have hm := h.all i _ (List.getElem?_eq_getElem hi)
 refine ⟨by have := hm.price; omega, by have := hm.lvl.1; omega, C6_ctry hm.ctr, W5_words hm.proc, by have := hm.few; omega, hm.asc, fun x hx => ?_, hm.obt⟩
 obtain ⟨⟨k, hk, e⟩, h1, h2⟩ := hm.inp x hx
 exact ⟨by rw [e]; exact h.found hk, h1, by omega⟩
theorem claim_Y {p : List TProduct} {a : List TAgreement} (hp : 1 ≤ p.length ∧ p.length ≤ 64) (ha : 1 ≤ a.length ∧ a.length ≤ 1000) (x y : Int) : Y (law14_claim p a x y) (fun c => (∃ q ∈ p, c.Product = q.ID) ∧ ∃ b ∈ a, c.Agreement = b.ID) := by
 unfold law14_claim
 refine (within_Y x (p.length : Int) (by omega) (by omega)).bind fun u ⟨u1, u2⟩ => ?_
 obtain ⟨i, rfl⟩ : ∃ i : Nat, u = (i : Int) := ⟨u.toNat, by omega⟩
 refine Y.idx rfl (show i < p.length by omega) ?_
 refine (within_Y y (a.length : Int) (by omega) (by omega)).bind fun w ⟨w1, w2⟩ => ?_
 obtain ⟨j, rfl⟩ : ∃ j : Nat, w = (j : Int) := ⟨w.toNat, by omega⟩
 exact Y.idx rfl (show j < a.length by omega) (Y.ret ⟨⟨_, List.getElem_mem _, rfl⟩, ⟨_, List.getElem_mem _, rfl⟩⟩)
theorem claims_Y (p : List TProduct) (a : List TAgreement) (hp : p.length ≤ 64) (ha : a.length ≤ 1000) (l : List Int) : Y (made_OriginClaims p a l) (fun s => s.length ≤ 64 * 1000) := by
 unfold made_OriginClaims
 refine Y.bind (P := fun s : List TOriginClaim => s.length ≤ 64 * 1000) ?_ fun s hs => Y.ret hs
 refine Y.loop (fun s : List TOriginClaim × Int => ∃ v : Nat, s.2 = (v : Int) ∧ v ≤ p.length ∧ s.1.length ≤ v * 1000) (fun s => (p.length - s.2).toNat) ⟨0, rfl, by omega, by simp⟩ (by dsimp only; omega) fun s hs => ?_
 obtain ⟨q, i⟩ := s
 obtain ⟨v, rfl, h1, h2⟩ := hs
 dsimp only at h2 ⊢
 refine Y.cond (fun hc => ?_) (fun hc => Y.ret (by dsimp only; omega))
 have hv : v < p.length := by have := of_decide_eq_true hc; omega
 refine Y.bind (P := fun s : List TOriginClaim => s.length ≤ (v + 1) * 1000) ?_ fun s hs => Y.ret ⟨⟨v + 1, ?_, by omega, hs⟩, ?_⟩
 ·refine Y.loop (fun s : List TOriginClaim × Int => ∃ u : Nat, s.2 = (u : Int) ∧ u ≤ a.length ∧ s.1.length ≤ v * 1000 + u) (fun s => (a.length - s.2).toNat) ⟨0, rfl, by omega, h2⟩ (by dsimp only; omega) fun s hs => ?_
  obtain ⟨t, j⟩ := s
  obtain ⟨u, rfl, g1, g2⟩ := hs
  dsimp only at g2 ⊢
  refine Y.cond (fun hc => ?_) (fun hc => Y.ret (by dsimp only; omega))
  have hu : u < a.length := by have := of_decide_eq_true hc; omega
  have hm : v * a.length ≤ 64 * 1000 := Nat.mul_le_mul (by omega) ha
  refine Y.bind (P := fun s : List TOriginClaim => s.length ≤ v * 1000 + u + 1) ?_ fun s hs => Y.ret ⟨⟨u + 1, ?_, by omega, by omega⟩, ?_⟩
  ·unfold lb
   have e : (v : Int) * (a.length : Int) = ((v * a.length : Nat) : Int) := by simp
   rw [e, i64s (r := ((v * a.length : Nat) : Int)) (by omega) (by omega), i64s (by omega) (by omega), show ((v * a.length : Nat) : Int) + (u : Int) = ((v * a.length + u : Nat) : Int) by omega]
   have hg : ∃ m, gd (decide (((v * a.length + u : Nat) : Int) < (l.length : Int))) (idx l ((v * a.length + u : Nat) : Int)) = some m := by
    by_cases h : v * a.length + u < l.length
    ·rw [decide_eq_true (by omega), gd_tt, idx_nat h]; exact ⟨_, rfl⟩
    ·rw [decide_eq_false (by omega), gd_ff]; exact ⟨_, rfl⟩
   obtain ⟨m, hm⟩ := hg
   dsimp only
   rw [hm, Option.bind_some]
   refine Y.cond (fun _ => ?_) (fun _ => Y.ret (by omega))
   refine Y.idx rfl hv (Y.idx rfl hu ?_)
   rw [app_ok (by simp; omega) (by simp; omega)]
   exact Y.ret (by simp; omega)
  ·show IntKind.i64.wrap ((u : Int) + 1) = _; rw [i64s (by omega) (by omega)]; omega
  ·show ((a.length : Int) - IntKind.i64.wrap ((u : Int) + 1)).toNat < ((a.length : Int) - (u : Int)).toNat; rw [i64s (by omega) (by omega)]; omega
 ·show IntKind.i64.wrap ((v : Int) + 1) = _; rw [i64s (by omega) (by omega)]; omega
 ·show ((p.length : Int) - IntKind.i64.wrap ((v : Int) + 1)).toNat < ((p.length : Int) - (v : Int)).toNat; rw [i64s (by omega) (by omega)]; omega
theorem take_fst (ps : List Int) (S : CSet) (q : TProduct) (v : Int) : (takeS ps S q v).1.Code = q.Code ∧ (takeS ps S q v).1.Value = v ∧ (takeS ps S q v).1.Originating = (takeS ps S q v).2.isSome := by
 unfold takeS; split <;> exact ⟨rfl, rfl, rfl⟩
theorem supply_all {plan : List TProduct} (hv : VPs plan) (a : TAgreement) (ps : List Int) (S : CSet) {p : TProduct} (hp : VProd plan p) (P : TInput × Option TOriginClaim → Prop) (h : ∀ q ∈ plan, ∀ v, 0 ≤ v → v ≤ 1000000000000 → P (takeS ps S q v)) : ∀ t ∈ suppliesS plan a ps S p, P t := by
 intro t ht
 unfold suppliesS at ht
 obtain ⟨x, hx, ht⟩ := List.mem_flatMap.1 ht
 obtain ⟨h1, h2, h3⟩ := hp.inp x hx
 obtain ⟨hq1, hq2, _⟩ := getP_ok hv h1
 unfold supplyS at ht
 cases hc : ((takeS ps S (getP plan x.Product) x.Value).2.isSome || !fullB a (getP plan x.Product) || (getP plan x.Product).Inputs.isEmpty)
 ·rw [hc, cond_false] at ht
  obtain ⟨y, hy, rfl⟩ := List.mem_map.1 ht
  obtain ⟨g1, g2, g3⟩ := hq2.inp y hy
  have hr := portionS_range h2 g2 hq2.price.1
  exact h _ (getP_ok hv g1).1 _ hr.1 hr.2
 ·rw [hc, cond_true] at ht
  rw [List.mem_singleton.1 ht]
  exact h _ hq1 _ h2 h3
theorem union_words {a b : List ByteArray} (ha : ∀ s ∈ a, wordB s = true) (hb : ∀ s ∈ b, wordB s = true) : (∀ s ∈ unionS a b, wordB s = true) ∧ Strict ltS (unionS a b) := by
 refine ⟨fun s hs => ?_, sd_strict ordS _⟩
 have := (sd_mem (lt := ltS) (a ++ b) s).1 hs
 rcases List.mem_append.1 this with h | h
 ·exact ha s h
 ·exact hb s h
theorem proc_words {plan : List TProduct} (hv : VPs plan) (a : TAgreement) : ∀ (xs : List TIngredient) (acc : List ByteArray), (∀ x ∈ xs, (findP plan x.Product).isSome = true) → (∀ s ∈ acc, wordB s = true) → Strict ltS acc → (∀ s ∈ xs.foldl (procS plan a) acc, wordB s = true) ∧ Strict ltS (xs.foldl (procS plan a) acc)
 | [], acc, _, h1, h2 => ⟨h1, h2⟩
 | x :: xs, acc, h, h1, h2 => by
  have hx := getP_ok hv (h x (by simp))
  rw [List.foldl_cons]
  have : (∀ s ∈ procS plan a acc x, wordB s = true) ∧ Strict ltS (procS plan a acc x) := by
   unfold procS
   cases fullB a (getP plan x.Product)
   ·exact ⟨h1, h2⟩
   ·exact union_words h1 (wordsB_parts hx.2.1.proc).2.1
  exact proc_words hv a xs _ (fun y hy => h y (by simp [hy])) this.1 this.2
theorem wordB_size {s : ByteArray} (h : wordB s = true) : s.size ≤ 12 := by
 unfold wordB at h; simp only [Bool.and_eq_true, decide_eq_true_eq] at h; omega
theorem words_take {l : List ByteArray} (h1 : ∀ s ∈ l, wordB s = true) (h2 : Strict ltS l) : wordsB (l.take 8) = true ∧ StrsOk (l.take 8) := by
 refine ⟨?_, by rw [List.length_take]; omega, fun s hs => by have := wordB_size (h1 s (List.mem_of_mem_take hs)); omega⟩
 unfold wordsB
 simp only [Bool.and_eq_true, decide_eq_true_eq]
 exact ⟨by rw [List.length_take]; omega, List.all_eq_true.2 fun s hs => h1 s (List.mem_of_mem_take hs), (ascB_iff _).2 (List.Pairwise.sublist (List.take_sublist _ _) h2)⟩
structure VCase (x : TCase) : Prop where
 lvl : 6 ≤ level x.Code
 price : 1 ≤ x.Price ∧ x.Price ≤ 1000000000000
 proc : wordsB x.Processes = true ∧ StrsOk x.Processes
 few : x.Inputs.length ≤ 100
 inp : ∀ y ∈ x.Inputs, 6 ≤ level y.Code ∧ 0 ≤ y.Value ∧ y.Value ≤ 1000000000000
theorem case_valid {plan : List TProduct} {l : List TAgreement} (hv : VPs plan) (imp : ByteArray) (c : TOriginClaim) (S : CSet) (h : (findP plan c.Product).isSome = true) : VCase (caseC plan l imp c S) := by
 obtain ⟨hq1, hq, _⟩ := getP_ok hv h
 obtain ⟨w1, w2, w3⟩ := wordsB_parts hq.proc
 have hw := proc_words hv (agrOf l c.Agreement) (getP plan c.Product).Inputs _ (fun x hx => (hq.inp x hx).1) w2 w3
 refine ⟨hq.lvl, hq.price, words_take hw.1 hw.2, ?_, ?_⟩
 ·unfold caseC; dsimp only; rw [List.length_map]; have := supplies_len hv (agrOf l c.Agreement) (partnersS l c.Agreement (getP plan c.Product).Country imp) S hq; omega
 ·unfold caseC; dsimp only
  intro y hy
  obtain ⟨t, ht, rfl⟩ := List.mem_map.1 hy
  refine supply_all hv _ _ S hq (fun t => 6 ≤ level t.1.Code ∧ 0 ≤ t.1.Value ∧ t.1.Value ≤ 1000000000000) (fun q hqp v h1 h2 => ?_) t ht
  obtain ⟨g1, g2, _⟩ := take_fst (partnersS l c.Agreement (getP plan c.Product).Country imp) S q v
  rw [g1, g2]; exact ⟨(hv.all q hqp).lvl, h1, h2⟩
theorem prog_validCase {x : TCase} (h : VCase x) : rule_ValidateCase x = some 0 := by
 unfold rule_ValidateCase rule_goodsCode
 have hl := h.few
 show Option.bind (some (decide (6 ≤ level x.Code))) _ = _
 rw [decide_eq_true h.lvl, Option.bind_some]
 simp only [Bool.not_true, cond_false]
 rw [decide_eq_false (by have := h.price; omega), decide_eq_false (by have := h.price; omega), Bool.or_self, cond_false, prog_words _ h.proc.2, h.proc.1, Option.bind_some]
 simp only [Bool.not_true, cond_false]
 rw [decide_eq_false (by omega), cond_false]
 refine (find_loop (l := x.Inputs) (by omega) (fun _ _ => none) (.inl ()) (fun k hk => ?_) (by simp only [dnlt, cond_false])).trans ?_
 ·have hy := h.inp _ (List.getElem_mem hk)
  simp only [dlt hk, cond_true, idx_nat hk, Option.bind_some, wnext hk (show x.Inputs.length ≤ 4611686018427387904 by omega)]
  show Option.bind (Option.bind (some (level x.Inputs[k].Code)) _) _ = _
  rw [Option.bind_some, decide_eq_true hy.1, Option.bind_some, decide_eq_false (by omega), decide_eq_false (by omega)]; rfl
 ·have : ∀ (m : List TInput) (i : Nat), findS (fun (_ : Nat) (_ : TInput) => (none : Option (Unit ⊕ Int))) m i = none := by
   intro m
   induction m with
   | nil => intro i; rfl
   | cons x m ih => intro i; exact ih _
  rw [this]; rfl
theorem adm_found {p : List TProduct} {l : List TAgreement} {i : ByteArray} {c : TOriginClaim} (h : admB p l i c = true) : (findP p c.Product).isSome = true := by
 obtain ⟨q, a, r, e, _⟩ := adm_parts h; rw [e]; rfl
end SX
end Go.Proofs.YtiijbkaiipjpkaaGreatDoor
set_option maxRecDepth 100000
namespace Go.Proofs.YtiijbkaiipjpkaaGreatDoor
namespace SX
open Go
def xw (n : Int) : Texact_Wide := ⟨n / 18446744073709551616, n % 18446744073709551616⟩
def U128 (n : Int) : Prop := 0 ≤ n ∧ n < 340282366920938463463374607431768211456
theorem xw_of {w : Texact_Wide} (h : XW w) : w = xw (xv w) ∧ U128 (xv w) := by
 obtain ⟨a, b⟩ := w
 unfold XW U64 at h; unfold xw xv U128; dsimp only at *
 refine ⟨?_, by omega⟩
 congr 1 <;> omega
theorem xmul {a b : Int} (ha : U64 a) (hb : U64 b) : exact_Mul a b = some (xw (a * b)) ∧ U128 (a * b) := by
 obtain ⟨w, e1, e2, e3⟩ := exact_mul ha hb
 have := xw_of e2
 rw [e3] at this
 rw [e1]; exact ⟨congrArg some this.1, this.2⟩
theorem xcmp {a b : Int} (ha : U128 a) (hb : U128 b) : exact_CompareWide (xw a) (xw b) = some (if a < b then -1 else if a = b then 0 else 1) := by
 unfold U128 at *
 unfold exact_CompareWide xw Texact_Wide.eqb
 dsimp only
 by_cases h : a < b
 ·have : ((decide (a / 18446744073709551616 < b / 18446744073709551616)) || ((a / 18446744073709551616 == b / 18446744073709551616) && (decide (a % 18446744073709551616 < b % 18446744073709551616)))) = true := by
   simp only [Bool.or_eq_true, Bool.and_eq_true, decide_eq_true_eq, beq_iff_eq]; omega
  rw [this, if_pos h]; rfl
 ·have : ((decide (a / 18446744073709551616 < b / 18446744073709551616)) || ((a / 18446744073709551616 == b / 18446744073709551616) && (decide (a % 18446744073709551616 < b % 18446744073709551616)))) = false := by
   simp only [Bool.or_eq_false_iff, Bool.and_eq_false_iff, decide_eq_false_iff_not, beq_eq_false_iff_ne]; omega
  rw [this, if_neg h]
  simp only [cond_false]
  by_cases h2 : a = b
  ·subst h2; simp
  ·rw [if_neg h2]
   have : ((a / 18446744073709551616 == b / 18446744073709551616) && (a % 18446744073709551616 == b % 18446744073709551616)) = false := by
    simp only [Bool.and_eq_false_iff, beq_eq_false_iff_ne]; omega
   simp [this]
theorem prog_atMost {v s p : Int} (hv : 0 ≤ v ∧ v ≤ 100000000000000) (hs : 0 ≤ s ∧ s ≤ 1000000) (hp : 0 ≤ p ∧ p ≤ 1000000000000) : rule_atMost v s p = some (decide (v * 1000000 ≤ s * p)) := by
 unfold rule_atMost
 rw [wu_id (a := v) ⟨by omega, by omega⟩, wu_id (a := s) ⟨by omega, by omega⟩, wu_id (a := p) ⟨by omega, by omega⟩]
 obtain ⟨e1, u1⟩ := xmul (a := v) (b := 1000000) ⟨by omega, by omega⟩ ⟨by omega, by omega⟩
 obtain ⟨e2, u2⟩ := xmul (a := s) (b := p) ⟨by omega, by omega⟩ ⟨by omega, by omega⟩
 rw [e1, Option.bind_some, e2, Option.bind_some, xcmp u1 u2, Option.bind_some]
 congr 1
 by_cases h : v * 1000000 < s * p
 ·rw [if_pos h, decide_eq_true (by omega), decide_eq_true (by omega)]
 ·rw [if_neg h]
  by_cases h2 : v * 1000000 = s * p
  ·rw [if_pos h2, decide_eq_true (by omega), decide_eq_true (by omega)]
  ·rw [if_neg h2, decide_eq_false (by omega), decide_eq_false (by omega)]
def violB (r : TRule) (code inp : ByteArray) : Bool := prefB inp (code.extract 0 r.Digits.toNat) || r.Except.any fun x => prefB inp x
theorem prog_any (l : List ByteArray) (s : ByteArray) (hl : l.length ≤ 140737488355328) : slices_ContainsFunc_string_string l (fun y => rule_violates_1 y s) = some (l.any fun x => prefB s x) := by
 unfold slices_ContainsFunc_string_string
 have e : slices_IndexFunc_string_string l (fun y => rule_violates_1 y s) = some (match findS (fun k x => cond (prefB s x) (some (Sum.inr (k : Int) : Unit ⊕ Int)) none) l 0 with | some (.inr k) => k | _ => -1) := by
  unfold slices_IndexFunc_string_string
  refine (find_loop (l := l) (by omega) (fun k x => cond (prefB s x) (some (.inr (k : Int))) none) (.inl ()) (fun k hk => ?_) (by simp only [dnlt, cond_false])).trans ?_
  ·simp only [dlt hk, cond_true, idx_nat hk, Option.bind_some, wnext hk (show l.length ≤ 4611686018427387904 by omega)]
   unfold rule_violates_1
   rw [prog_pref, Option.bind_some, Option.bind_some]; cases prefB s l[k] <;> rfl
  ·cases findS (fun k x => cond (prefB s x) (some (Sum.inr (k : Int) : Unit ⊕ Int)) none) l 0 with
   | none => rfl
   | some t => cases t <;> rfl
 rw [e, Option.bind_some]
 rcases findS_ix (fun x => prefB s x) (fun k => (Sum.inr (k : Int) : Unit ⊕ Int)) l 0 with ⟨h1, h2⟩ | ⟨j, hj, h1, h2⟩
 ·rw [h1]
  have : (l.any fun x => prefB s x) = false := by rw [List.any_eq_false]; exact fun x hx => by have := List.find?_eq_none.1 h2 x hx; simpa using this
  rw [this]; rfl
 ·rw [h1]
  have : (l.any fun x => prefB s x) = true := by
   rw [List.any_eq_true]; exact ⟨_, List.getElem_mem hj, List.find?_some h2⟩
  rw [this]
  show some (decide (0 ≤ ((0 + j : Nat) : Int))) = _
  rw [decide_eq_true (by omega)]
theorem level_size {s : ByteArray} (h : 6 ≤ level s) : 6 ≤ s.size := by
 unfold level at h
 split at h
 ·omega
 ·omega
theorem prog_violates {r : TRule} {code : ByteArray} (hd : r.Digits = 2 ∨ r.Digits = 4 ∨ r.Digits = 6) (he : r.Except.length ≤ 6) (hc : 6 ≤ level code) (inp : ByteArray) : rule_violates r code inp = some (violB r code inp) := by
 unfold rule_violates violB
 have hs := level_size hc
 have e : ssub code 0 r.Digits = some (code.extract 0 r.Digits.toNat) := by
  unfold ssub; rw [if_pos (by omega)]; rfl
 rw [e, Option.bind_some, prog_pref, Option.bind_some]
 cases prefB inp (code.extract 0 r.Digits.toNat)
 ·simp only [cond_false, Bool.false_or]; rw [prog_any _ _ (by omega), Option.bind_some]
 ·rfl
def wS (f : TInput → Int) : List TInput → Int
 | [] => 0
 | i :: l => cond i.Originating 0 (f i) + wS f l
def fV (i : TInput) : Int := i.Value
def fW (r : TRule) (code : ByteArray) (i : TInput) : Int := cond (violB r code i.Code) i.Value 0
def fN (_ : TInput) : Int := 1
def leafH (r : TRule) (x : TCase) : Bool :=
 cond (r.Kind == 1) (x.Obtained && (wS fN x.Inputs == 0)) (cond (r.Kind == 2) (decide (wS (fW r x.Code) x.Inputs * 1000000 ≤ r.Tolerance * x.Price)) (cond (r.Kind == 3) (decide (wS fV x.Inputs * 1000000 ≤ r.Limit * x.Price)) (cond (r.Kind == 4) (hasS x.Processes r.Name) false)))
theorem wS_app (f : TInput → Int) : ∀ l m : List TInput, wS f (l ++ m) = wS f l + wS f m
 | [], m => by simp [wS]
 | i :: l, m => by rw [List.cons_append, wS, wS, wS_app f l m]; omega
theorem wS_range {f : TInput → Int} {b : Int} (hb : 0 ≤ b) : ∀ {l : List TInput}, (∀ i ∈ l, 0 ≤ f i ∧ f i ≤ b) → 0 ≤ wS f l ∧ wS f l ≤ l.length * b
 | [], _ => by simp [wS]
 | i :: l, h => by
  have h1 := wS_range hb (l := l) fun j hj => h j (by simp [hj])
  have h2 := h i (by simp)
  rw [wS, List.length_cons]
  have e : ((l.length + 1 : Nat) : Int) * b = l.length * b + b := by rw [Int.natCast_add, Int.add_mul]; simp
  rw [e]
  cases i.Originating
  ·simp only [cond_false]; omega
  ·simp only [cond_true]; omega
theorem prog_holds {r : TRule} {x : TCase} (hx : VCase x) (hr : ruleB r = true) : rule_holds r x = some (leafH r x) := by
 unfold rule_holds
 have hfew := hx.few
 have hrl := ruleB_len hr
 have hvi : r.Kind = 2 → ∀ i, rule_violates r x.Code i = some (violB r x.Code i) := by
  intro hk i
  have hl := hr
  rw [ruleB_eq, hk] at hl
  simp only [leafB, hk, Bool.and_eq_true] at hl
  have h3 := hl.2
  simp at h3
  exact prog_violates (by omega) hrl.2.2 hx.lvl i
 refine (fold_loop (l := x.Inputs) (by omega) (fun i (s : Int × Int × Int) => (s.1, s.2.1, s.2.2, i)) (fun s i => (s.1 + cond i.Originating 0 (fV i), s.2.1 + cond i.Originating 0 (cond (r.Kind == 2) (fW r x.Code i) 0), s.2.2 + cond i.Originating 0 (fN i))) (fun s => s) (fun k s => (0 ≤ s.1 ∧ s.1 ≤ k * 1000000000000) ∧ (0 ≤ s.2.1 ∧ s.2.1 ≤ k * 1000000000000) ∧ (0 ≤ s.2.2 ∧ s.2.2 ≤ k)) (0, 0, 0) ⟨by simp, by simp, by simp⟩ (fun k hk s hs => ?_) (fun s _ => by simp only [dnlt, cond_false])).1.trans ?_
 ·obtain ⟨a, b, c⟩ := s
  obtain ⟨s1, s2, s3⟩ := hs
  dsimp only at s1 s2 s3 ⊢
  have hi := hx.inp _ (List.getElem_mem hk)
  have hk100 : k < 100 := by omega
  simp only [dlt hk, cond_true, idx_nat hk, Option.bind_some, wnext hk (show x.Inputs.length ≤ 4611686018427387904 by omega)]
  generalize x.Inputs[k] = i at hi
  unfold fV fN fW
  cases i.Originating
  ·simp only [cond_false]
   cases hk2 : (r.Kind == 2)
   ·simp only [gd_ff, Option.bind_some, Bool.false_and, cond_false]
    rw [i64s (r := a + i.Value) (by omega) (by omega), i64s (r := c + 1) (by omega) (by omega)]
    refine ⟨by simp, ⟨by omega, by omega⟩, ⟨by omega, by omega⟩, by omega, by omega⟩
   ·rw [gd_tt, hvi (eq_of_beq hk2), Option.bind_some]
    cases violB r x.Code i.Code
    ·simp only [Bool.and_false, cond_false, Option.bind_some, cond_true]
     rw [i64s (r := a + i.Value) (by omega) (by omega), i64s (r := c + 1) (by omega) (by omega)]
     refine ⟨by simp, ⟨by omega, by omega⟩, ⟨by omega, by omega⟩, by omega, by omega⟩
    ·simp only [Bool.and_self, cond_true, Option.bind_some]
     rw [i64s (r := a + i.Value) (by omega) (by omega), i64s (r := c + 1) (by omega) (by omega), i64s (r := b + i.Value) (by omega) (by omega)]
     refine ⟨rfl, ⟨by omega, by omega⟩, ⟨by omega, by omega⟩, by omega, by omega⟩
  ·simp only [cond_true, Option.bind_some, Int.add_zero]
   refine ⟨trivial, ⟨by omega, by omega⟩, ⟨by omega, by omega⟩, by omega, by omega⟩
 ·have key : ∀ (l : List TInput) (a b c : Int), l.foldl (fun (s : Int × Int × Int) i => (s.1 + cond i.Originating 0 (fV i), s.2.1 + cond i.Originating 0 (cond (r.Kind == 2) (fW r x.Code i) 0), s.2.2 + cond i.Originating 0 (fN i))) (a, b, c) = (a + wS fV l, b + wS (fun i => cond (r.Kind == 2) (fW r x.Code i) 0) l, c + wS fN l) := by
   intro l
   induction l with
   | nil => intro a b c; simp [wS]
   | cons i l ih => intro a b c; rw [List.foldl_cons, ih]; simp only [wS, Int.add_assoc]
  rw [key]
  dsimp only
  have hv : 0 ≤ wS fV x.Inputs ∧ wS fV x.Inputs ≤ 100000000000000 := by
   have := wS_range (f := fV) (b := 1000000000000) (by omega) (l := x.Inputs) fun i hi => (hx.inp i hi).2
   omega
  have hw : 0 ≤ wS (fW r x.Code) x.Inputs ∧ wS (fW r x.Code) x.Inputs ≤ 100000000000000 := by
   have := wS_range (f := fW r x.Code) (b := 1000000000000) (by omega) (l := x.Inputs) fun i hi => by
    have := (hx.inp i hi).2
    unfold fW; cases violB r x.Code i.Code
    ·simp only [cond_false]; omega
    ·exact this
   omega
  have hp := hx.price
  unfold leafH
  have hl := hr
  rw [ruleB_eq] at hl
  unfold leafB mil at hl
  simp only [Int.zero_add]
  cases h1 : (r.Kind == 1)
  ·cases h2 : (r.Kind == 2)
   ·cases h3 : (r.Kind == 3)
    ·simp only [cond_false]
     cases h4 : (r.Kind == 4)
     ·rfl
     ·simp only [cond_true]; rw [prog_has _ _ hx.proc.2.1]; rfl
    ·have hk := eq_of_beq h3
     rw [hk] at hl
     simp at hl
     simp only [cond_false, cond_true]
     rw [prog_atMost hv hl.2 (by omega)]; rfl
   ·have hk := eq_of_beq h2
    rw [hk] at hl
    simp at hl
    simp only [cond_false, cond_true]
    rw [prog_atMost hw (by omega) (by omega)]; rfl
  ·simp only [cond_true]
end SX
end Go.Proofs.YtiijbkaiipjpkaaGreatDoor
