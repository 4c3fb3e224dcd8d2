/- AgreementChanged: for every input the law returns true, and each argument reads afterwards as it read before. Conditions: the package variables are as the program's text lays them (the card ties them). -/
import Derived.Test.YtiijbkaiipjpkaaGreatDoorM4
import Derived.Test.YtiijbkaiipjpkaaGreatDoorChecked
import Derived.KernelRfl
import Derived.WalkKit
import Derived.OrdersHeld
import Derived.Laws.CopyRow
import Derived.Laws.StructEq
import Derived.Maps.AppendAt
import Derived.Laws.MakeOwn
import Derived.Laws.BytesArg
import Derived.Laws.Externs
import Derived.Laws.Cover3
import Derived.MapKept
import Derived.Laws.RangeAny
import Derived.Laws.RangeString
import Derived.Shelf.Slices.In.SortNone
import Derived.Shelf.Sort.Plain
import Derived.Test.YtiijbkaiipjpkaaGreatDoorProg
import Derived.Shelf.SlSortCmp.NoneTotal
import Derived.Ground.SlsfProg
import Derived.ChangeArms
import Derived.DataReads
import GoSem.ClaimJoined
import Derived.Test.YtiijbkaiipjpkaaGreatDoorRows
import Derived.ChangeSame
import Derived.ChangeVars
import Derived.JoinedOf
import Derived.RowKit
import Derived.RowKitTokens
import Derived.LaidLaws
import Derived.LaidHandle
import Derived.Carry
import Derived.Handed
import Derived.ChangeOld
import Derived.SevenTiedAt
import Derived.Test.YtiijbkaiipjpkaaGreatDoorCards
import Derived.Test.YtiijbkaiipjpkaaGreatDoorTie
set_option linter.unusedVariables false
set_option linter.unusedSimpArgs false
set_option maxRecDepth 100000
namespace Go.Proofs.YtiijbkaiipjpkaaGreatDoor
namespace SX
open Go
attribute [local irreducible] PWL PWC PWD POpL POpQ PEv PGuardIs PSub PPick PUpd PSplice PFill PLit PF PFV PCall FOk pseqK pblockK pmidK pcutK ploopK pretK Cov PHolds loopF idx app mk gd lb nz ge0 cat sub ssub iand ior ixor ishl ishr imin imax IntKind.wrap Int.tmod Int.tdiv Op.bytesLess strOfNums
def cumulation_CaseOf (p0 : (List TProduct)) (p1 : (List TAgreement)) (p2 : ByteArray) (p3 : TOriginClaim) (p4 : (List TOriginClaim)) : Option (TCase × (List TOriginClaim)) := Option.bind (cumulation_Admissible p0 p1 p2 p3) (fun x3 => cond (!x3) (some ((⟨ByteArray.empty, 0, false, [], []⟩ : TCase), [])) (Option.bind (production_Find p0 p3.Product) (fun x5 => Option.bind (cumulation_find p1 p3.Agreement) (fun x7 => Option.bind (cumulation_Partners p1 p3.Agreement x5.1.Country p2) (fun x9 => Option.bind (loopF (S := Int × (List (TOriginClaim × Bool))) (T := ((List (TOriginClaim × Bool)))) (fun (v12, l13) => cond (decide (v12 < (p4.length : Int))) (Option.bind (idx p4 v12) (fun m18 => some (.inl ((IntKind.i64.wrap (v12 + 1)), (mset l13 m18 true))))) (some (.inr l13))) FUEL (0, ([] : List (TOriginClaim × Bool)))) (fun l14 => Option.bind (cumulation_gather p0 x7.1 x5.1 (⟨x9, l14⟩ : Tcumulation_supplier)) (fun x20 => Option.bind (loopF (S := (List TOriginClaim) × Int × (List TInput)) (T := ((List TOriginClaim) × (List TInput))) (fun (l23, v26, l28) => cond (decide (v26 < (x20.1.length : Int))) (Option.bind (Option.bind (idx x20.1 v26) (fun m53 => Option.bind (Icumulation_supply_input m53) (fun x54 => Option.bind (app 32 l28 [x54]) (fun l57 => cond (Icumulation_supply.is_proved_ m53) (Option.bind (app 16 l23 [(((Icumulation_supply.as_proved_ m53)).premise)]) (fun l65 => some (l65, l57))) (some (l23, l57)))))) (fun (l47, l51) => some (.inl (l47, (IntKind.i64.wrap (v26 + 1)), l51)))) (some (.inr (l23, l28)))) FUEL (([] : List TOriginClaim), 0, ([] : List TInput))) (fun (l34, l38) => Option.bind (slices_SortFunc_api_OriginClaim_api_OriginClaim_cumulation_compareClaims l34) (fun x69 => Option.bind (slices_Compact_api_OriginClaim_api_OriginClaim x69) (fun x70 => some ((⟨x5.1.Code, x5.1.Price, x5.1.Obtained, x20.2, l38⟩ : TCase), x70)))))))))))
set_option maxHeartbeats 4000000 in
theorem cumulation_CaseOf_ok {p0 : (List TProduct)} {p1 : (List TAgreement)} {p2 : ByteArray} {p3 : TOriginClaim} {p4 : (List TOriginClaim)} {r : (TCase × (List TOriginClaim))}  (h : cumulation_CaseOf p0 p1 p2 p3 p4 = some r) : PF 34 [pL TProduct.enc p0, pL TAgreement.enc p1, pS p2, .agg [pI p3.Product, pI p3.Agreement], pL TOriginClaim.enc p4] (.tup [.agg [pS r.1.Code, pI r.1.Price, pB r.1.Obtained, pL eS r.1.Processes, pL TInput.enc r.1.Inputs], pL TOriginClaim.enc r.2]) := by
 unfold cumulation_CaseOf at h
 refine pf_of ?_
 refine penter Tryz.func34 fk34 rfl Tryz.ntmps34 Tryz.results34 rfl ?_
 refine yaa (yae ?_)
 refine pwl_l rfl rfl rfl (pl_box (cs := [pI p3.Product, pI p3.Agreement]) rfl rfl (fun b1 => ?_))
 refine pwl_l rfl rfl rfl (pl_alloc (cs := [pS ByteArray.empty, pI 0, pB false, pN, pN]) rfl rfl rfl rfl (fun b2 => ?_))
 refine yax [] [11] [] fo0 (by kernel_rfl) ?_
 refine yab (yaa (yaa ?_))
 refine yac h ?_; clear h; intro x3 hx3 h
 refine yad [1] [27, 28, 29, 30, 31] [(32, pB (!x3))] (focl 4 (cumulation_Admissible_ok hx3) fo0) (by kernel_rfl) ?_
 refine yab ?_
 refine yai rfl (fun hc4 => ?_) (fun hc4 => ?_)
 ·replace h := yap hc4 h
  refine yaa (yae ?_)
  refine yam 1 [] [] [(33, .agg [pS ByteArray.empty, pI 0, pB false, pN, pN])] fo0 (by kernel_rfl) ?_
  refine pwl_l0 rfl rfl (yau (vs := [pS ByteArray.empty, pI 0, pB false, pN, pN]) rfl rfl rfl rfl rfl zuh (zlc (zlc (zlc (zlc (zlc zln))))) ?_)
  refine yax [] [] [(11, pN)] fo0 (by kernel_rfl) ?_
  refine yab ?_
  refine pwc_nilb (k := 3) (b := b2) rfl zuh ?_
  refine pwc_nilb (k := 4) (b := b2) rfl zuh ?_
  refine pwc_nil 11 rfl ?_
  refine yak (yah ?_)
  obtain rfl := Option.some.inj h
  exact yal (prv_2 (prv1_c rfl zm0 rfl) (yao rfl)) zsn ⟨rfl, rfl⟩
 ·replace h := yaq hc4 h
  refine yaj (yab (yaa ?_))
  refine yac h ?_; clear h; intro x5 hx5 h
  refine yae ?_
  refine yam 7 [1] [35, 36, 37, 38, 34] [(39, .agg [pI x5.1.ID, pS x5.1.Code, pS x5.1.Country, pI x5.1.Price, pB x5.1.Obtained, pL eS x5.1.Processes, pL TIngredient.enc x5.1.Inputs]), (40, pB x5.2)] (focl 3 (production_Find_ok hx5) fo0) (by kernel_rfl) ?_
  refine pwl_l rfl rfl rfl (pl_alloc (cs := [pI 0, pS ByteArray.empty, pS ByteArray.empty, pI 0, pB false, pN, pN]) rfl rfl rfl rfl (fun b6 => ?_))
  refine pwl_l0 rfl rfl (yau (vs := [pI x5.1.ID, pS x5.1.Code, pS x5.1.Country, pI x5.1.Price, pB x5.1.Obtained, pL eS x5.1.Processes, pL TIngredient.enc x5.1.Inputs]) rfl rfl rfl rfl rfl zuh (zlc (zlc (zlc (zlc (zlc (zlc (zlc zln))))))) ?_)
  refine yax [] [13] [] fo0 (by kernel_rfl) ?_
  refine yab (yaa ?_)
  refine yac h ?_; clear h; intro x7 hx7 h
  refine yae ?_
  refine yam 7 [2] [42, 43, 44, 45, 41] [(46, .agg [pI x7.1.ID, pI x7.1.Kind, pL eS x7.1.Parties, pL TRuleFor.enc x7.1.Rules]), (47, pB x7.2)] (focl 3 (cumulation_find_ok hx7) fo0) (by kernel_rfl) ?_
  refine pwl_l rfl rfl rfl (pl_alloc (cs := [pI 0, pI 0, pN, pN]) rfl rfl rfl rfl (fun b8 => ?_))
  refine pwl_l0 rfl rfl (yau (vs := [pI x7.1.ID, pI x7.1.Kind, pL eS x7.1.Parties, pL TRuleFor.enc x7.1.Rules]) rfl rfl rfl rfl rfl zuh (zlc (zlc (zlc (zlc zln)))) ?_)
  refine yax [] [15] [] fo0 (by kernel_rfl) ?_
  refine yab (yaa ?_)
  refine yac h ?_; clear h; intro x9 hx9 h
  refine yae ?_
  refine yam 7 [3, 1] [48, 49, 50, 51, 52, 53] [(54, pL eI x9)] (focl 6 (cumulation_Partners_ok hx9) fo0) (by kernel_rfl) ?_
  refine pwl_l rfl rfl rfl (pl_makeMapE TOriginClaim.key vT rfl (fun b10 => ?_))
  refine yam 1 [] [] [(56, .agg [pL eI x9, .v (.map (some b10))])] fo0 (by kernel_rfl) ?_
  refine pwl_l rfl rfl rfl (pl_alloc (cs := [pN, .v (.map none)]) rfl rfl rfl rfl (fun b11 => ?_))
  refine pwl_l0 rfl rfl (yau (vs := [pL eI x9, .v (.map (some b10))]) rfl rfl rfl rfl rfl zuh (zlc (zlc zln)) ?_)
  refine yav (yab (yaa (yaa ?_)))
  refine yad [] [] [(57, pL TOriginClaim.enc p4), (58, pI (p4.length : Int)), (59, pI 0)] fo0 (by kernel_rfl) ?_
  refine yab ?_
  refine yac h ?_; clear h; intro q16 hq16 h
  refine yaz (Y := (Unit) × ((List (TOriginClaim × Bool)))) (fun (_, l14) => [(0, pL TProduct.enc p0), (10, pP b2 0), (12, pP b6 0), (14, pP b8 0), (16, pP b11 0)]) (fun (_, l14) => [PRes.mp (some b10) (menc TOriginClaim.key vT l14), PRes.b b11 106 [pL eI x9, .v (.map (some b10))], PRes.b b2 45 [pS ByteArray.empty, pI 0, pB false, pN, pN], PRes.b b6 92 [pI x5.1.ID, pS x5.1.Code, pS x5.1.Country, pI x5.1.Price, pB x5.1.Obtained, pL eS x5.1.Processes, pL TIngredient.enc x5.1.Inputs], PRes.b b8 33 [pI x7.1.ID, pI x7.1.Kind, pL eS x7.1.Parties, pL TRuleFor.enc x7.1.Rules]]) (fun (_, l14) => q16 = l14) ?_ ?_
  ·refine yan ?_
   refine pwc_loopF (Y := Unit) (S := Int × (List (TOriginClaim × Bool))) _ hq16 (fun _ (v12, l13) => [(0, pL TProduct.enc p0), (10, pP b2 0), (12, pP b6 0), (14, pP b8 0), (16, pP b11 0), (57, pL TOriginClaim.enc p4), (58, pI (p4.length : Int)), (59, pI v12)]) (fun _ (v12, l13) => [PRes.mp (some b10) (menc TOriginClaim.key vT l13), PRes.b b11 106 [pL eI x9, .v (.map (some b10))], PRes.b b2 45 [pS ByteArray.empty, pI 0, pB false, pN, pN], PRes.b b6 92 [pI x5.1.ID, pS x5.1.Code, pS x5.1.Country, pI x5.1.Price, pB x5.1.Obtained, pL eS x5.1.Processes, pL TIngredient.enc x5.1.Inputs], PRes.b b8 33 [pI x7.1.ID, pI x7.1.Kind, pL eS x7.1.Parties, pL TRuleFor.enc x7.1.Rules]]) () (zhc rfl (zhc rfl (zhc rfl (zhc rfl (zhc rfl (zhc rfl (zhc rfl (zhc rfl zhn)))))))) (zsc (zpt zph) (zsc zph (zsc (zpt (zpt zph)) (zsc (zpt zph) (zsc zph zsn))))) ?_
   rintro _ ⟨v12, l13⟩ o τ hb15; (try dsimp only at hb15); dsimp only [pupds]
   refine yaa ?_
   refine yad [] [] [(60, pB (decide (v12 < (p4.length : Int))))] fo0 (by kernel_rfl) ?_
   refine yab (yaa ?_)
   refine yai rfl (fun hc17 => ?_) (fun hc17 => ?_)
   ·replace hb15 := yap hc17 hb15
    refine yaj (yab (yaa (yan (yaa ?_))))
    refine yac hb15 ?_; clear hb15; intro m18 hm18 hb15
    refine yae ?_
    refine yam 2 [] [61] [(62, .agg [pI m18.Product, pI m18.Agreement])] (foix 0 TOriginClaim.enc hm18 fo0) (by kernel_rfl) ?_
    refine pwl_l rfl rfl rfl (pl_alloc (cs := [pI 0, pI 0]) rfl rfl rfl rfl (fun b19 => ?_))
    refine pwl_l0 rfl rfl (yau (vs := [pI m18.Product, pI m18.Agreement]) rfl rfl rfl rfl rfl zuh (zlc (zlc zln)) ?_)
    refine yav (yab (yae ?_))
    refine yam 3 [2, 0] [63] [(64, .v (.map (some b10))), (65, .agg [pI m18.Product, pI m18.Agreement])] fo0 (by kernel_rfl) ?_
    refine pwl_l0 rfl rfl (pl_mapUpdate (xs := l13) (k := m18) (ek := TOriginClaim.key) (vv := vT) (v := true) rfl rfl TOriginClaim.kenc54 rfl rfl kP_key rfl (zut zuh) ?_)
    refine yav (yag (yab ?_))
    refine yad [] [66] [(59, pI (IntKind.i64.wrap (v12 + 1)))] fo0 (by kernel_rfl) ?_
    exact pk_loop hb15 () (zhc rfl (zhc rfl (zhc rfl (zhc rfl (zhc rfl (zhc rfl (zhc rfl (zhc rfl zhn)))))))) (zsc (zpt zph) (zsc (zpt zph) (zsc (zpt zph) (zsc (zpt zph) (zsc (zpt zph) zsn)))))
   ·replace hb15 := yaq hc17 hb15
    refine pwc_exit (yaw ?_)
    refine yar hb15 (fun ht => ?_)
    refine yat rfl ?_
    exact pk_mid ((), l13) (zhc rfl (zhc rfl (zhc rfl (zhc rfl (zhc rfl zhn))))) (zsc zph (zsc zph (zsc zph (zsc zph (zsc zph zsn))))) ht.symm
  ·rintro ⟨_, l14⟩ τ hz; (try dsimp only at hz); subst q16; (try dsimp only at h); dsimp only [pupds]
   refine yaa ?_
   refine yac h ?_; clear h; intro x20 hx20 h
   refine yae ?_
   refine yam 4 [4, 3, 1] [] [(68, pL TProduct.enc p0), (69, .agg [pI x7.1.ID, pI x7.1.Kind, pL eS x7.1.Parties, pL TRuleFor.enc x7.1.Rules]), (70, .agg [pI x5.1.ID, pS x5.1.Code, pS x5.1.Country, pI x5.1.Price, pB x5.1.Obtained, pL eS x5.1.Processes, pL TIngredient.enc x5.1.Inputs]), (71, .agg [pL eI x9, .v (.map (some b10))])] fo0 (by kernel_rfl) ?_
   refine pwl_l rfl rfl rfl (pl_callR rfl rfl (ρ1 := [_]) (perm_pick (by exact zph) (List.Perm.refl _)) (cumulation_gather_ok hx20) ?_); rintro _ _ ⟨rfl, rfl⟩
   refine yax [] [67, 73, 74] [(19, pL Icumulation_supply.enc x20.1), (20, pL eS x20.2)] fo0 (by kernel_rfl) ?_
   refine yab (yaa (yae ?_))
   refine yam 8 [3, 3, 3] [75, 76, 77, 78, 79, 80, 81] [(82, .agg [pS x5.1.Code, pI x5.1.Price, pB x5.1.Obtained, pL eS x20.2, pN])] fo0 (by kernel_rfl) ?_
   refine pwl_l rfl rfl rfl (pl_alloc (cs := [pS ByteArray.empty, pI 0, pB false, pN, pN]) rfl rfl rfl rfl (fun b21 => ?_))
   refine pwl_l0 rfl rfl (yau (vs := [pS x5.1.Code, pI x5.1.Price, pB x5.1.Obtained, pL eS x20.2, pN]) rfl rfl rfl rfl rfl zuh (zlc (zlc (zlc (zlc (zlc zln))))) ?_)
   refine yav (yab (yaa ?_))
   refine yad [] [] [(22, pN)] fo0 (by kernel_rfl) ?_
   refine yab (yaa (yaa ?_))
   refine yad [] [] [(83, pL Icumulation_supply.enc x20.1), (84, pI (x20.1.length : Int)), (85, pI 0)] fo0 (by kernel_rfl) ?_
   refine yab ?_
   refine pwc_nilrow 54 2 ?_
   refine pwc_nilrow 96 3 ?_
   refine yac h ?_; clear h; intro q40 hq40 h
   refine yaz (Y := (Option Addr × Nat × Option Addr × Nat) × ((List TOriginClaim) × (List TInput))) (fun ((a32, c33, a36, c37), (l34, l38)) => [(10, pP b2 0), (21, pP b21 0), (22, pO a32 l34.length c33)]) (fun ((a32, c33, a36, c37), (l34, l38)) => [PRes.b b2 45 [pS ByteArray.empty, pI 0, pB false, pN, pN], PRes.b b21 45 [pS x5.1.Code, pI x5.1.Price, pB x5.1.Obtained, pL eS x20.2, pO a36 l38.length c37], PRes.row a32 l34.length c33 54 2 (List.map TOriginClaim.enc l34), PRes.row a36 l38.length c37 96 3 (List.map TInput.enc l38)]) (fun ((a32, c33, a36, c37), (l34, l38)) => q40 = (l34, l38)) ?_ ?_
   ·refine yan ?_
    refine pwc_loopF (Y := Option Addr × Nat × Option Addr × Nat) (S := (List TOriginClaim) × Int × (List TInput)) _ hq40 (fun (a24, c25, a29, c30) (l23, v26, l28) => [(10, pP b2 0), (21, pP b21 0), (22, pO a24 l23.length c25), (83, pL Icumulation_supply.enc x20.1), (84, pI (x20.1.length : Int)), (85, pI v26)]) (fun (a24, c25, a29, c30) (l23, v26, l28) => [PRes.b b2 45 [pS ByteArray.empty, pI 0, pB false, pN, pN], PRes.b b21 45 [pS x5.1.Code, pI x5.1.Price, pB x5.1.Obtained, pL eS x20.2, pO a29 l28.length c30], PRes.row a24 l23.length c25 54 2 (List.map TOriginClaim.enc l23), PRes.row a29 l28.length c30 96 3 (List.map TInput.enc l28)]) (none, 0, none, 0) (zhc rfl (zhc rfl (zhc rfl (zhc rfl (zhc rfl (zhc rfl zhn)))))) (zsc (zpt (zpt (zpt (zpt (zpt zph))))) (zsc (zpt (zpt zph)) (zsc (zpt zph) (zsc zph zsn)))) ?_
    rintro ⟨a24, c25, a29, c30⟩ ⟨l23, v26, l28⟩ o τ hb39; (try dsimp only at hb39); dsimp only [pupds]
    refine yaa ?_
    refine yad [] [] [(86, pB (decide (v26 < (x20.1.length : Int))))] fo0 (by kernel_rfl) ?_
    refine yab (yaa ?_)
    refine yai rfl (fun hc43 => ?_) (fun hc43 => ?_)
    ·replace hb39 := yap hc43 hb39
     refine yaj (yab (yaa ?_))
     refine yac hb39 ?_; clear hb39; intro q52 hq52 hb39
     refine yaz (Y := (Option Addr × Nat × Option Addr × Nat) × ((List TOriginClaim) × (List TInput))) (fun ((a45, c46, a49, c50), (l47, l51)) => [(10, pP b2 0), (21, pP b21 0), (22, pO a45 l47.length c46), (83, pL Icumulation_supply.enc x20.1), (84, pI (x20.1.length : Int)), (85, pI v26)]) (fun ((a45, c46, a49, c50), (l47, l51)) => [PRes.b b2 45 [pS ByteArray.empty, pI 0, pB false, pN, pN], PRes.b b21 45 [pS x5.1.Code, pI x5.1.Price, pB x5.1.Obtained, pL eS x20.2, pO a49 l51.length c50], PRes.row a45 l47.length c46 54 2 (List.map TOriginClaim.enc l47), PRes.row a49 l51.length c50 96 3 (List.map TInput.enc l51)]) (fun ((a45, c46, a49, c50), (l47, l51)) => q52 = (l47, l51)) ?_ ?_
     ·skip
      refine yan (yaa ?_)
      refine yac hq52 ?_; clear hq52; intro m53 hm53 hq52
      refine yad [] [87, 88] [(24, Icumulation_supply.pv m53)] (foix 0 Icumulation_supply.enc hm53 fo0) (by kernel_rfl) ?_
      refine yab (yaa ?_)
      refine yac hq52 ?_; clear hq52; intro x54 hx54 hq52
      refine yac hq52 ?_; clear hq52; intro l57 hl57 hq52
      refine yaz (Y := Option Addr × Nat) (fun (a58, c59) => [(10, pP b2 0), (21, pP b21 0), (22, pO a24 l23.length c25), (24, Icumulation_supply.pv m53), (83, pL Icumulation_supply.enc x20.1), (84, pI (x20.1.length : Int)), (85, pI v26)]) (fun (a58, c59) => [PRes.b b2 45 [pS ByteArray.empty, pI 0, pB false, pN, pN], PRes.b b21 45 [pS x5.1.Code, pI x5.1.Price, pB x5.1.Obtained, pL eS x20.2, pO a58 l57.length c59], PRes.row a24 l23.length c25 54 2 (List.map TOriginClaim.enc l23), PRes.row a58 l57.length c59 96 3 (List.map TInput.enc l57)]) (fun _ => True) ?_ ?_
      ·refine pws_start (ρd := [PRes.row a29 _ _ _ _ _, PRes.b b21 _ _]) _ (perm_pick (zpt (zpt (zpt zph))) (perm_pick (zpt zph) (List.Perm.refl _))) ?_
       refine pws_q 0 (by kernel_rfl) rfl rfl rfl rfl (pq_fieldAddr rfl rfl rfl rfl rfl (.p rfl)) ?_
       refine pws_q 2 (by kernel_rfl) rfl rfl rfl rfl (pq_move (p := Icumulation_supply.pv m53) rfl (.p rfl)) ?_
       refine pws_two 1 3 (by kernel_rfl) ?_ ?_
       ·skip
        refine yay rfl rfl rfl rfl (pl_q (pq_load_b (p := pO a29 l28.length c30) rfl (.p rfl) zm1 rfl) ?_)
        refine pws_one 3 (by kernel_rfl) ?_
        refine yay rfl rfl rfl rfl (pl_invoke rfl rfl (Icumulation_supply_input_ok hx54) ?_)
        refine pws_one 4 (by kernel_rfl) ?_
        refine yay rfl rfl rfl rfl (pl_lit rfl rfl rfl rfl rfl (zic rfl zin) rfl rfl rfl rfl (fun b55 => ?_))
        refine pws_one 5 (by kernel_rfl) ?_
        refine yay rfl rfl rfl rfl (pl_app_o (enc := TInput.enc) rfl rfl rfl rfl rfl rfl rfl rfl rfl zm0 (by exact zpt zph) hl57 (fun a58 c59 => ?_))
        refine pws_q 6 (by kernel_rfl) rfl rfl rfl rfl (pq_fieldAddr rfl rfl rfl rfl rfl (.p rfl)) ?_
        refine pws_one 7 (by kernel_rfl) ?_
        refine pstep_l0 rfl rfl rfl (yau (vs := [pO a58 l57.length c59]) rfl rfl rfl rfl rfl (zut (zut zuh)) (zlt (zlt (zlt (zlt (zlc zln))))) ?_)
        refine pws_done (by kernel_rfl) ?_
        exact pk_mid (a58, c59) (zhc rfl (zhc rfl (zhc rfl (zhc rfl (zhc rfl (zhc rfl (zhc rfl zhn))))))) (zsc (zpt (zpt (zpt zph))) (zsc (zpt (zpt zph)) (zsc (zpt (zpt zph)) (zsc zph zsn)))) trivial
       ·skip
        refine yay rfl rfl rfl rfl (pl_invoke rfl rfl (Icumulation_supply_input_ok hx54) ?_)
        refine pws_two 1 4 (by kernel_rfl) ?_ ?_
        ·skip
         refine yay rfl rfl rfl rfl (pl_q (pq_load_b (p := pO a29 l28.length c30) rfl (.p rfl) zm1 rfl) ?_)
         refine pws_one 4 (by kernel_rfl) ?_
         refine yay rfl rfl rfl rfl (pl_lit rfl rfl rfl rfl rfl (zic rfl zin) rfl rfl rfl rfl (fun b55 => ?_))
         refine pws_one 5 (by kernel_rfl) ?_
         refine yay rfl rfl rfl rfl (pl_app_o (enc := TInput.enc) rfl rfl rfl rfl rfl rfl rfl rfl rfl zm0 (by exact zpt zph) hl57 (fun a58 c59 => ?_))
         refine pws_q 6 (by kernel_rfl) rfl rfl rfl rfl (pq_fieldAddr rfl rfl rfl rfl rfl (.p rfl)) ?_
         refine pws_one 7 (by kernel_rfl) ?_
         refine pstep_l0 rfl rfl rfl (yau (vs := [pO a58 l57.length c59]) rfl rfl rfl rfl rfl (zut (zut zuh)) (zlt (zlt (zlt (zlt (zlc zln))))) ?_)
         refine pws_done (by kernel_rfl) ?_
         exact pk_mid (a58, c59) (zhc rfl (zhc rfl (zhc rfl (zhc rfl (zhc rfl (zhc rfl (zhc rfl zhn))))))) (zsc (zpt (zpt (zpt zph))) (zsc (zpt (zpt zph)) (zsc (zpt (zpt zph)) (zsc zph zsn)))) trivial
        ·skip
         refine yay rfl rfl rfl rfl (pl_lit rfl rfl rfl rfl rfl (zic rfl zin) rfl rfl rfl rfl (fun b55 => ?_))
         refine pws_one 1 (by kernel_rfl) ?_
         refine yay rfl rfl rfl rfl (pl_q (pq_load_b (p := pO a29 l28.length c30) rfl (.p rfl) zm2 rfl) ?_)
         refine pws_one 5 (by kernel_rfl) ?_
         refine yay rfl rfl rfl rfl (pl_app_o (enc := TInput.enc) rfl rfl rfl rfl rfl rfl rfl rfl rfl zm0 (by exact zpt zph) hl57 (fun a58 c59 => ?_))
         refine pws_q 6 (by kernel_rfl) rfl rfl rfl rfl (pq_fieldAddr rfl rfl rfl rfl rfl (.p rfl)) ?_
         refine pws_one 7 (by kernel_rfl) ?_
         refine pstep_l0 rfl rfl rfl (yau (vs := [pO a58 l57.length c59]) rfl rfl rfl rfl rfl (zut (zut zuh)) (zlt (zlt (zlt (zlt (zlc zln))))) ?_)
         refine pws_done (by kernel_rfl) ?_
         exact pk_mid (a58, c59) (zhc rfl (zhc rfl (zhc rfl (zhc rfl (zhc rfl (zhc rfl (zhc rfl zhn))))))) (zsc (zpt (zpt (zpt zph))) (zsc (zpt (zpt zph)) (zsc (zpt (zpt zph)) (zsc zph zsn)))) trivial
      ·rintro ⟨a58, c59⟩ τ _; dsimp only [pupds]
       refine yaa (yae ?_)
       refine yam 5 [] [97, 98, 96] [(99, .agg [pS ((((Icumulation_supply.as_proved_ m53)).use).Code), pI ((((Icumulation_supply.as_proved_ m53)).use).Value), pB ((((Icumulation_supply.as_proved_ m53)).use).Originating), pI ((((Icumulation_supply.as_proved_ m53)).premise).Product), pI ((((Icumulation_supply.as_proved_ m53)).premise).Agreement)]), (100, pB (Icumulation_supply.is_proved_ m53))] (fota 1 (Icumulation_supply.ta_proved_ m53) fo0) (by kernel_rfl) ?_
       refine pwl_l rfl rfl rfl (pl_alloc (cs := [pS ByteArray.empty, pI 0, pB false, pI 0, pI 0]) rfl rfl rfl rfl (fun b61 => ?_))
       refine pwl_l0 rfl rfl (yau (vs := [pS ((((Icumulation_supply.as_proved_ m53)).use).Code), pI ((((Icumulation_supply.as_proved_ m53)).use).Value), pB ((((Icumulation_supply.as_proved_ m53)).use).Originating), pI ((((Icumulation_supply.as_proved_ m53)).premise).Product), pI ((((Icumulation_supply.as_proved_ m53)).premise).Agreement)]) rfl rfl rfl rfl rfl zuh (zlc (zlc (zlc (zlc (zlc zln))))) ?_)
       refine yax [] [] [(26, pB (Icumulation_supply.is_proved_ m53))] fo0 (by kernel_rfl) ?_
       refine yab (yaa ?_)
       refine yad [] [] [(101, pB (Icumulation_supply.is_proved_ m53))] fo0 (by kernel_rfl) ?_
       refine yab ?_
       refine yai rfl (fun hc62 => ?_) (fun hc62 => ?_)
       ·replace hq52 := yap hc62 hq52
        refine yae ?_
        refine yam 3 [0] [103] [(102, pO a24 l23.length c25), (104, .agg [pI ((((Icumulation_supply.as_proved_ m53)).premise).Product), pI ((((Icumulation_supply.as_proved_ m53)).premise).Agreement)])] fo0 (by kernel_rfl) ?_
        refine pwl_l rfl rfl rfl (pl_lit rfl rfl rfl rfl rfl (zic rfl zin) rfl rfl rfl rfl (fun b63 => ?_))
        refine yac hq52 ?_; clear hq52; intro l65 hl65 hq52
        refine pwl_l rfl rfl rfl (pl_app_o (enc := TOriginClaim.enc) rfl rfl rfl rfl rfl rfl rfl rfl rfl zm0 (by exact zpt (zpt (zpt (zpt zph)))) hl65 (fun a66 c67 => ?_))
        refine yax [] [] [(22, pO a66 l65.length c67)] fo0 (by kernel_rfl) ?_
        refine yag ?_
        obtain rfl := Option.some.inj hq52
        exact pk_mid ((a66, c67, a58, c59), (l65, l57)) (zhc rfl (zhc rfl (zhc rfl (zhc rfl (zhc rfl (zhc rfl zhn)))))) (zsc (zpt (zpt (zpt zph))) (zsc (zpt (zpt (zpt zph))) (zsc zph (zsc (zpt (zpt zph)) zsn)))) rfl
       ·replace hq52 := yaq hc62 hq52
        refine yaj (yag ?_)
        obtain rfl := Option.some.inj hq52
        exact pk_mid ((a24, c25, a58, c59), (l23, l57)) (zhc rfl (zhc rfl (zhc rfl (zhc rfl (zhc rfl (zhc rfl zhn)))))) (zsc (zpt zph) (zsc (zpt zph) (zsc (zpt zph) (zsc (zpt zph) zsn)))) rfl
     ·rintro ⟨⟨a45, c46, a49, c50⟩, ⟨l47, l51⟩⟩ τ hz; (try dsimp only at hz); subst q52; (try dsimp only at hb39); dsimp only [pupds]
      refine yad [] [107] [(85, pI (IntKind.i64.wrap (v26 + 1)))] fo0 (by kernel_rfl) ?_
      exact pk_loop hb39 (a45, c46, a49, c50) (zhc rfl (zhc rfl (zhc rfl (zhc rfl (zhc rfl (zhc rfl zhn)))))) (zsc zph (zsc zph (zsc zph (zsc zph zsn))))
    ·replace hb39 := yaq hc43 hb39
     refine pwc_exit (yaw ?_)
     refine yar hb39 (fun ht => ?_)
     refine yat rfl ?_
     exact pk_mid ((a24, c25, a29, c30), (l23, l28)) (zhc rfl (zhc rfl (zhc rfl zhn))) (zsc zph (zsc zph (zsc zph (zsc zph zsn)))) ht.symm
   ·rintro ⟨⟨a32, c33, a36, c37⟩, ⟨l34, l38⟩⟩ τ hz; (try dsimp only at hz); subst q40; (try dsimp only at h); dsimp only [pupds]
    refine yaa ?_
    refine yac h ?_; clear h; intro x69 hx69 h
    refine yae ?_
    refine yam 1 [] [] [(108, pO a32 l34.length c33)] fo0 (by kernel_rfl) ?_
    refine pwl_l rfl rfl rfl (pl_callR rfl rfl (ρ1 := [_]) (perm_pick (by exact zpt (zpt zph)) (List.Perm.refl _)) (slices_SortFunc_api_OriginClaim_api_OriginClaim_cumulation_compareClaims_ok hx69) ?_); rintro _ _ ⟨rfl, rfl⟩
    refine yav (yab (yaa ?_))
    refine pwc_frz (css := List.map TInput.enc l38) (a := a36) (by exact zpt (zpt (zpt zph))) ?_
    refine pwc_viewb (k := 4) (enc := TInput.enc) (xs := l38) (b := b21) (a := a36) rfl zm0 (zut (zut (zut zuh))) ?_
    refine pwc_draw (ρd := [PRes.row a32 _ _ _ _ _, PRes.b b2 _ _]) [(0, 0), (1, 0), (2, 1), (3, 1), (4, 0)] _ (perm_pick (zpt zph) (perm_pick (zpt zph) (List.Perm.refl _))) (by kernel_rfl) rfl ?_
    refine yac h ?_; clear h; intro x70 hx70 h
    refine pwd_run 2 [1] [] [(110, .agg [pS x5.1.Code, pI x5.1.Price, pB x5.1.Obtained, pL eS x20.2, pL TInput.enc l38]), (111, pO a32 l34.length c33)] fo0 (by kernel_rfl) ?_
    refine pwd_l rfl rfl rfl (pl_callR rfl rfl (ρ1 := [_]) (perm_pick (by exact zph) (List.Perm.refl _)) (slices_Compact_api_OriginClaim_api_OriginClaim_ok hx70) ?_); rintro _ _ ⟨a71, c72, rfl, rfl⟩
    refine pwd_l0 rfl rfl (yau (vs := [pS x5.1.Code, pI x5.1.Price, pB x5.1.Obtained, pL eS x20.2, pL TInput.enc l38]) rfl rfl rfl rfl rfl (zut zuh) (zlc (zlc (zlc (zlc (zlc zln))))) ?_)
    refine pwd_run 1 [] [] [(11, pO a71 x70.length c72)] fo0 (by kernel_rfl) ?_
    refine pwd_nil (yab ?_)
    refine pwc_frzt (enc := TOriginClaim.enc) (xs := x70) 11 rfl (by exact zph) ?_
    refine yak ?_
    obtain rfl := Option.some.inj h
    exact yal (prv_2 (prv1_c rfl zm1 rfl) (yao rfl)) zsn ⟨rfl, rfl⟩
def law14_awake  : Option Bool := Option.bind (cumulation_CaseOf [(⟨1, (⟨#[57, 52, 48, 49, 48, 49]⟩ : ByteArray), (⟨#[65, 65]⟩ : ByteArray), 10, true, [], []⟩ : TProduct), (⟨2, (⟨#[57, 52, 48, 49, 48, 50]⟩ : ByteArray), (⟨#[66, 66]⟩ : ByteArray), 10, false, [], [(⟨1, 4⟩ : TIngredient)]⟩ : TProduct)] [(⟨7, 1, [(⟨#[65, 65]⟩ : ByteArray), (⟨#[66, 66]⟩ : ByteArray), (⟨#[67, 67]⟩ : ByteArray)], [(⟨(⟨#[57, 52]⟩ : ByteArray), (⟨1, 0, [], 0, 0, ByteArray.empty, []⟩ : TRule)⟩ : TRuleFor)]⟩ : TAgreement)] (⟨#[67, 67]⟩ : ByteArray) (⟨2, 7⟩ : TOriginClaim) [(⟨1, 7⟩ : TOriginClaim)]) (fun x13 => Option.bind (cumulation_Validate [(⟨7, 1, [(⟨#[65, 65]⟩ : ByteArray), (⟨#[66, 66]⟩ : ByteArray), (⟨#[67, 67]⟩ : ByteArray)], [(⟨(⟨#[57, 52]⟩ : ByteArray), (⟨1, 0, [], 0, 0, ByteArray.empty, []⟩ : TRule)⟩ : TRuleFor)]⟩ : TAgreement)]) (fun x15 => Option.bind (gd (x15 == 0) (cumulation_Admissible [(⟨1, (⟨#[57, 52, 48, 49, 48, 49]⟩ : ByteArray), (⟨#[65, 65]⟩ : ByteArray), 10, true, [], []⟩ : TProduct), (⟨2, (⟨#[57, 52, 48, 49, 48, 50]⟩ : ByteArray), (⟨#[66, 66]⟩ : ByteArray), 10, false, [], [(⟨1, 4⟩ : TIngredient)]⟩ : TProduct)] [(⟨7, 1, [(⟨#[65, 65]⟩ : ByteArray), (⟨#[66, 66]⟩ : ByteArray), (⟨#[67, 67]⟩ : ByteArray)], [(⟨(⟨#[57, 52]⟩ : ByteArray), (⟨1, 0, [], 0, 0, ByteArray.empty, []⟩ : TRule)⟩ : TRuleFor)]⟩ : TAgreement)] (⟨#[67, 67]⟩ : ByteArray) (⟨2, 7⟩ : TOriginClaim))) (fun x16 => Option.bind (gd ((x15 == 0) && x16) (cumulation_Admissible [(⟨1, (⟨#[57, 52, 48, 49, 48, 49]⟩ : ByteArray), (⟨#[65, 65]⟩ : ByteArray), 10, true, [], []⟩ : TProduct), (⟨2, (⟨#[57, 52, 48, 49, 48, 50]⟩ : ByteArray), (⟨#[66, 66]⟩ : ByteArray), 10, false, [], [(⟨1, 4⟩ : TIngredient)]⟩ : TProduct)] [(⟨7, 1, [(⟨#[65, 65]⟩ : ByteArray), (⟨#[66, 66]⟩ : ByteArray), (⟨#[67, 67]⟩ : ByteArray)], [(⟨(⟨#[57, 52]⟩ : ByteArray), (⟨1, 0, [], 0, 0, ByteArray.empty, []⟩ : TRule)⟩ : TRuleFor)]⟩ : TAgreement)] (⟨#[66, 66]⟩ : ByteArray) (⟨2, 7⟩ : TOriginClaim))) (fun x17 => Option.bind (gd ((((x15 == 0) && x16) && (!x17)) && ((x13.1.Inputs.length : Int) == 1)) (idx x13.1.Inputs 0)) (fun m18 => some ((((((x15 == 0) && x16) && (!x17)) && ((x13.1.Inputs.length : Int) == 1)) && (TInput.eqb m18 (⟨(⟨#[57, 52, 48, 49, 48, 49]⟩ : ByteArray), 4, true⟩ : TInput))) && ((x13.2.length : Int) == 1)))))))
set_option maxHeartbeats 4000000 in
theorem law14_awake_ok  {r : Bool}  (h : law14_awake  = some r) : PF 14 [] (pB r) := by
 unfold law14_awake at h
 refine pf_of ?_
 refine penter Tryz.func14 fk14 rfl Tryz.ntmps14 Tryz.results14 rfl ?_
 refine yaa ?_
 refine yad [] [0] [] fo0 (by kernel_rfl) ?_
 refine yab (yaa (yae ?_))
 refine yam 2 [] [] [(5, .agg [pI 1, pS (⟨#[57, 52, 48, 49, 48, 49]⟩ : ByteArray), pS (⟨#[65, 65]⟩ : ByteArray), pI 10, pB true, pN, pN]), (6, .agg [pI 1, pI 4])] fo0 (by kernel_rfl) ?_
 refine pwl_l rfl rfl rfl (pl_lit rfl rfl rfl rfl rfl (zic rfl zin) rfl rfl rfl rfl (fun b1 => ?_))
 refine pwl_frzt (enc := TIngredient.enc) (xs := [(⟨1, 4⟩ : TIngredient)]) 7 rfl (by exact zph) ?_
 refine yam 1 [] [] [(8, .agg [pI 2, pS (⟨#[57, 52, 48, 49, 48, 50]⟩ : ByteArray), pS (⟨#[66, 66]⟩ : ByteArray), pI 10, pB false, pN, pL TIngredient.enc [(⟨1, 4⟩ : TIngredient)]])] fo0 (by kernel_rfl) ?_
 refine pwl_aggnil 5 5 rfl rfl ?_
 refine pwl_aggnil 5 6 rfl rfl ?_
 refine pwl_aggnil 8 5 rfl rfl ?_
 refine pwl_l rfl rfl rfl (pl_lit rfl rfl rfl rfl rfl (zic rfl (zic rfl zin)) rfl rfl rfl rfl (fun b3 => ?_))
 refine yax [] [] [(1, pO (some ⟨b3, 0, none⟩) 2 2)] fo0 (by kernel_rfl) ?_
 refine yab (yaa (yae ?_))
 refine pwl_l rfl rfl rfl (pl_lit rfl rfl rfl rfl rfl (zic rfl (zic rfl (zic rfl zin))) rfl rfl rfl rfl (fun b5 => ?_))
 refine yam 1 [] [] [(11, .agg [pI 1, pI 0, pN, pI 0, pI 0, pS ByteArray.empty, pN])] fo0 (by kernel_rfl) ?_
 refine pwl_aggnil 11 2 rfl rfl ?_
 refine pwl_aggnil 11 6 rfl rfl ?_
 refine yam 1 [] [] [(12, .agg [pS (⟨#[57, 52]⟩ : ByteArray), pI 1, pI 0, pL eS [], pI 0, pI 0, pS ByteArray.empty, pL TRule.enc []])] fo0 (by kernel_rfl) ?_
 refine pwl_l rfl rfl rfl (pl_lit rfl rfl rfl rfl rfl (zic rfl zin) rfl rfl rfl rfl (fun b7 => ?_))
 refine pwl_frzt (enc := eS) (xs := [(⟨#[65, 65]⟩ : ByteArray), (⟨#[66, 66]⟩ : ByteArray), (⟨#[67, 67]⟩ : ByteArray)]) 10 rfl (by exact zpt zph) ?_
 refine pwl_frzt (enc := TRuleFor.enc) (xs := [(⟨(⟨#[57, 52]⟩ : ByteArray), (⟨1, 0, [], 0, 0, ByteArray.empty, []⟩ : TRule)⟩ : TRuleFor)]) 13 rfl (by exact zpt zph) ?_
 refine yam 1 [] [] [(14, .agg [pI 7, pI 1, pL eS [(⟨#[65, 65]⟩ : ByteArray), (⟨#[66, 66]⟩ : ByteArray), (⟨#[67, 67]⟩ : ByteArray)], pL TRuleFor.enc [(⟨(⟨#[57, 52]⟩ : ByteArray), (⟨1, 0, [], 0, 0, ByteArray.empty, []⟩ : TRule)⟩ : TRuleFor)]])] fo0 (by kernel_rfl) ?_
 refine pwl_l rfl rfl rfl (pl_lit rfl rfl rfl rfl rfl (zic rfl zin) rfl rfl rfl rfl (fun b9 => ?_))
 refine yax [] [] [(2, pO (some ⟨b9, 0, none⟩) 1 1)] fo0 (by kernel_rfl) ?_
 refine yab (yaa (yae ?_))
 refine yam 4 [] [] [(17, pO (some ⟨b3, 0, none⟩) 2 2), (18, pO (some ⟨b9, 0, none⟩) 1 1), (19, .agg [pI 2, pI 7]), (20, .agg [pI 1, pI 7])] fo0 (by kernel_rfl) ?_
 refine pwl_l rfl rfl rfl (pl_lit rfl rfl rfl rfl rfl (zic rfl zin) rfl rfl rfl rfl (fun b11 => ?_))
 refine pwl_frzt (enc := TProduct.enc) (xs := [(⟨1, (⟨#[57, 52, 48, 49, 48, 49]⟩ : ByteArray), (⟨#[65, 65]⟩ : ByteArray), 10, true, [], []⟩ : TProduct), (⟨2, (⟨#[57, 52, 48, 49, 48, 50]⟩ : ByteArray), (⟨#[66, 66]⟩ : ByteArray), 10, false, [], [(⟨1, 4⟩ : TIngredient)]⟩ : TProduct)]) 17 rfl (by exact zpt (zpt (zpt (zpt zph)))) ?_
 refine pwl_frzt (enc := TAgreement.enc) (xs := [(⟨7, 1, [(⟨#[65, 65]⟩ : ByteArray), (⟨#[66, 66]⟩ : ByteArray), (⟨#[67, 67]⟩ : ByteArray)], [(⟨(⟨#[57, 52]⟩ : ByteArray), (⟨1, 0, [], 0, 0, ByteArray.empty, []⟩ : TRule)⟩ : TRuleFor)]⟩ : TAgreement)]) 18 rfl (by exact zpt (zpt zph)) ?_
 refine pwl_frzt (enc := TOriginClaim.enc) (xs := [(⟨1, 7⟩ : TOriginClaim)]) 21 rfl (by exact zpt (zpt zph)) ?_
 refine yac h ?_; clear h; intro x13 hx13 h
 refine yam 4 [] [22, 16] [(23, .agg [pS x13.1.Code, pI x13.1.Price, pB x13.1.Obtained, pL eS x13.1.Processes, pL TInput.enc x13.1.Inputs]), (24, pL TOriginClaim.enc x13.2)] (focl 0 (cumulation_CaseOf_ok hx13) fo0) (by kernel_rfl) ?_
 refine pwl_l rfl rfl rfl (pl_alloc (cs := [pS ByteArray.empty, pI 0, pB false, pN, pN]) rfl rfl rfl rfl (fun b14 => ?_))
 refine pwl_l0 rfl rfl (yau (vs := [pS x13.1.Code, pI x13.1.Price, pB x13.1.Obtained, pL eS x13.1.Processes, pL TInput.enc x13.1.Inputs]) rfl rfl rfl rfl rfl zuh (zlc (zlc (zlc (zlc (zlc zln))))) ?_)
 refine yax [] [] [(4, pL TOriginClaim.enc x13.2)] fo0 (by kernel_rfl) ?_
 refine yab (yaa ?_)
 refine pwc_view (enc := TProduct.enc) (xs := [(⟨1, (⟨#[57, 52, 48, 49, 48, 49]⟩ : ByteArray), (⟨#[65, 65]⟩ : ByteArray), 10, true, [], []⟩ : TProduct), (⟨2, (⟨#[57, 52, 48, 49, 48, 50]⟩ : ByteArray), (⟨#[66, 66]⟩ : ByteArray), 10, false, [], [(⟨1, 4⟩ : TIngredient)]⟩ : TProduct)]) 1 rfl zm3 ?_
 refine pwc_view (enc := TAgreement.enc) (xs := [(⟨7, 1, [(⟨#[65, 65]⟩ : ByteArray), (⟨#[66, 66]⟩ : ByteArray), (⟨#[67, 67]⟩ : ByteArray)], [(⟨(⟨#[57, 52]⟩ : ByteArray), (⟨1, 0, [], 0, 0, ByteArray.empty, []⟩ : TRule)⟩ : TRuleFor)]⟩ : TAgreement)]) 2 rfl zm2 ?_
 refine yac h ?_; clear h; intro x15 hx15 h
 refine yac h ?_; clear h; intro x16 hx16 h
 refine yac h ?_; clear h; intro x17 hx17 h
 refine yac h ?_; clear h; intro m18 hm18 h
 refine yad [0, 0] [25, 26, 27, 28, 29, 30, 31, 32, 33, 34, 35, 36, 37, 38, 39, 40, 41, 42, 43, 44, 45, 46, 47, 48, 49, 50, 51, 52, 53, 54, 55, 56, 57, 58, 59] [(0, pB ((((((x15 == 0) && x16) && (!x17)) && ((x13.1.Inputs.length : Int) == 1)) && (TInput.eqb m18 (⟨(⟨#[57, 52, 48, 49, 48, 49]⟩ : ByteArray), 4, true⟩ : TInput))) && ((x13.2.length : Int) == 1)))] (focl 1 (cumulation_Validate_ok hx15) (foclg 7 (fun hc => cumulation_Admissible_ok (gd_t hx16 hc)) (foclg 13 (fun hc => cumulation_Admissible_ok (gd_t hx17 hc)) (foixg 25 TInput.enc (gd_t hm18) (foeq 28 TInput.eqok96 fo0))))) (by kernel_rfl) ?_
 refine yab (yak ?_)
 obtain rfl := Option.some.inj h
 exact yal (yba (yao rfl)) zsn ⟨rfl, rfl⟩
def law14_AgreementChanged (p0 : (List Int)) (p1 : TAgreement) (p2 : TRuleFor) (p3 : Int) (p4 : Int) (p5 : Int) : Option Bool := Option.bind (made_Agreements p0) (fun x3 => Option.bind (made_Within p3 ((x3.length : Nat) : Int)) (fun x7 => Option.bind (made_Within p4 7) (fun x8 => Option.bind (cond (x8 == 0) (Option.bind (idx x3 x7) (fun m16 => some (x3.set x7.toNat (⟨p5, m16.Kind, m16.Parties, m16.Rules⟩ : TAgreement)))) (cond (x8 == 1) (Option.bind (made_Within p5 20) (fun x19 => Option.bind (idx x3 x7) (fun m20 => some (x3.set x7.toNat (⟨x19, m20.Kind, m20.Parties, m20.Rules⟩ : TAgreement))))) (cond (x8 == 2) (Option.bind (made_Within p5 6) (fun x23 => Option.bind (idx x3 x7) (fun m24 => some (x3.set x7.toNat (⟨m24.ID, (IntKind.i64.wrap (x23 - 1)), m24.Parties, m24.Rules⟩ : TAgreement))))) (cond (x8 == 3) (Option.bind (sub p1.Parties 0 (imin (p1.Parties.length : Int) 14)) (fun l27 => Option.bind (idx x3 x7) (fun m28 => some (x3.set x7.toNat (⟨m28.ID, m28.Kind, l27, m28.Rules⟩ : TAgreement))))) (cond (x8 == 4) (Option.bind (made_Pruned p2.Rule 5) (fun x31 => Option.bind (idx x3 x7) (fun m34 => Option.bind (app 112 ([] : List TRuleFor) m34.Rules) (fun l37 => Option.bind (app 112 l37 [(⟨p2.Prefix, x31⟩ : TRuleFor)]) (fun l43 => Option.bind (idx x3 x7) (fun m47 => some (x3.set x7.toNat (⟨m47.ID, m47.Kind, m47.Parties, l43⟩ : TAgreement)))))))) (cond (x8 == 5) (Option.bind (idx x3 x7) (fun m53 => Option.bind (app 112 ([] : List TRuleFor) m53.Rules) (fun l54 => Option.bind (made_Within p5 ((l54.length : Nat) : Int)) (fun x58 => Option.bind (made_Within (ishr .i64 p5 4) 8) (fun x59 => Option.bind (idx l54 x58) (fun m60 => Option.bind (idx x3 x7) (fun m62 => some (x3.set x7.toNat (⟨m62.ID, m62.Kind, m62.Parties, (l54.set x58.toNat (⟨m60.Prefix, (⟨x59, m60.Rule.Digits, m60.Rule.Except, m60.Rule.Tolerance, m60.Rule.Limit, m60.Rule.Name, m60.Rule.Args⟩ : TRule)⟩ : TRuleFor))⟩ : TAgreement))))))))) (Option.bind (sub x3 0 x7) (fun l64 => Option.bind (idx x3 x7) (fun m65 => Option.bind (sub x3 x7 (x3.length : Int)) (fun l66 => Option.bind (app 64 ([] : List TAgreement) l64) (fun l69 => Option.bind (app 64 l69 [m65]) (fun l75 => Option.bind (app 64 l75 l66) (fun l79 => some l79))))))))))))) (fun l12 => Option.bind (cumulation_Validate l12) (fun x85 => Option.bind (ref14_Agreements l12) (fun x86 => Option.bind (gd (x85 == x86) (law14_awake)) (fun x87 => some ((x85 == x86) && x87))))))))
set_option maxHeartbeats 4000000 in
theorem law14_AgreementChanged_ok {p0 : (List Int)} {p1 : TAgreement} {p2 : TRuleFor} {p3 : Int} {p4 : Int} {p5 : Int} {r : Bool}  (h : law14_AgreementChanged p0 p1 p2 p3 p4 p5 = some r) : PF 4 [pL eI p0, .agg [pI p1.ID, pI p1.Kind, pL eS p1.Parties, pL TRuleFor.enc p1.Rules], .agg [pS p2.Prefix, pI p2.Rule.Kind, pI p2.Rule.Digits, pL eS p2.Rule.Except, pI p2.Rule.Tolerance, pI p2.Rule.Limit, pS p2.Rule.Name, pL TRule.enc p2.Rule.Args], pI p3, pI p4, pI p5] (pB r) := by
 unfold law14_AgreementChanged at h
 refine pf_of ?_
 refine penter Tryz.func4 fk4 rfl Tryz.ntmps4 Tryz.results4 rfl ?_
 refine yaa (yae ?_)
 refine pwl_l rfl rfl rfl (pl_box (cs := [pI p1.ID, pI p1.Kind, pL eS p1.Parties, pL TRuleFor.enc p1.Rules]) rfl rfl (fun b1 => ?_))
 refine pwl_l rfl rfl rfl (pl_box (cs := [pS p2.Prefix, pI p2.Rule.Kind, pI p2.Rule.Digits, pL eS p2.Rule.Except, pI p2.Rule.Tolerance, pI p2.Rule.Limit, pS p2.Rule.Name, pL TRule.enc p2.Rule.Args]) rfl rfl (fun b2 => ?_))
 refine yax [] [12] [] fo0 (by kernel_rfl) ?_
 refine yab (yaa ?_)
 refine yac h ?_; clear h; intro x3 hx3 h
 refine yae ?_
 refine yam 1 [] [] [(16, pL eI p0)] fo0 (by kernel_rfl) ?_
 refine pwl_l rfl rfl rfl (pl_callR rfl rfl (ρ1 := []) (List.Perm.refl _) (made_Agreements_ok hx3) ?_); rintro _ _ ⟨a4, c5, rfl, rfl⟩
 refine yax [] [] [(13, pO a4 x3.length c5)] fo0 (by kernel_rfl) ?_
 refine yab (yaa ?_)
 refine yac h ?_; clear h; intro x7 hx7 h
 refine yad [] [18, 19, 20, 21] [(14, pI x7)] (focl 3 (made_Within_ok hx7) fo0) (by kernel_rfl) ?_
 refine yab (yaa (yaa ?_))
 refine yac h ?_; clear h; intro x8 hx8 h
 refine yad [] [22] [(23, pI x8)] (focl 1 (made_Within_ok hx8) fo0) (by kernel_rfl) ?_
 refine yab ?_
 refine yac h ?_; clear h; intro q14 hq14 h
 refine yaz (Y := (Option Addr × Nat × Nat) × ((List TAgreement))) (fun ((a10, c11, n13), l12) => [(13, pO a10 n13 c11)]) (fun ((a10, c11, n13), l12) => [PRes.row a10 n13 c11 33 4 (List.map TAgreement.enc l12)]) (fun ((a10, c11, n13), l12) => q14 = l12) ?_ ?_
 ·skip
  refine yan (yaa ?_)
  refine yad [] [40] [(39, pB (x8 == 0))] fo0 (by kernel_rfl) ?_
  refine yab ?_
  refine yai rfl (fun hc15 => ?_) (fun hc15 => ?_)
  ·replace hq14 := yap hc15 hq14
   refine yac hq14 ?_; clear hq14; intro m16 hm16 hq14
   refine yae ?_
   refine yam 3 [] [] [(41, pO a4 x3.length c5), (42, pI x7), (43, pI p5)] fo0 (by kernel_rfl) ?_
   refine pwl_q rfl rfl rfl (pq_indexO (enc := TAgreement.enc) (xs := x3) rfl rfl rfl (.p rfl) zm0 (.p rfl) (fun _ => hm16)) ?_
   refine yam 1 [] [] [(45, pP (ablk a4) (x7.toNat * 4))] fo0 (by kernel_rfl) ?_
   refine pwl_l0 rfl rfl (pl_store_o (enc := TAgreement.enc) (xs := x3) (a := a4) x7 0 m16 (⟨p5, m16.Kind, m16.Parties, m16.Rules⟩ : TAgreement) rfl rfl rfl rfl (fun _ => rfl) rfl rfl hm16 (zlc zln) zuh ?_)
   refine yav (yag ?_)
   obtain rfl := Option.some.inj hq14
   exact pk_mid ((a4, c5, x3.length), (x3.set x7.toNat (⟨p5, m16.Kind, m16.Parties, m16.Rules⟩ : TAgreement))) (zhc rfl zhn) (zsc zph zsn) rfl
  ·replace hq14 := yaq hc15 hq14
   refine yaa ?_
   refine yad [] [47] [(46, pB (x8 == 1))] fo0 (by kernel_rfl) ?_
   refine yab ?_
   refine yai rfl (fun hc18 => ?_) (fun hc18 => ?_)
   ·replace hq14 := yap hc18 hq14
    refine yac hq14 ?_; clear hq14; intro x19 hx19 hq14
    refine yac hq14 ?_; clear hq14; intro m20 hm20 hq14
    refine yae ?_
    refine yam 4 [] [50] [(48, pO a4 x3.length c5), (49, pI x7), (51, pI x19)] (focl 3 (made_Within_ok hx19) fo0) (by kernel_rfl) ?_
    refine pwl_q rfl rfl rfl (pq_indexO (enc := TAgreement.enc) (xs := x3) rfl rfl rfl (.p rfl) zm0 (.p rfl) (fun _ => hm20)) ?_
    refine yam 1 [] [] [(53, pP (ablk a4) (x7.toNat * 4))] fo0 (by kernel_rfl) ?_
    refine pwl_l0 rfl rfl (pl_store_o (enc := TAgreement.enc) (xs := x3) (a := a4) x7 0 m20 (⟨x19, m20.Kind, m20.Parties, m20.Rules⟩ : TAgreement) rfl rfl rfl rfl (fun _ => rfl) rfl rfl hm20 (zlc zln) zuh ?_)
    refine yav (yag ?_)
    obtain rfl := Option.some.inj hq14
    exact pk_mid ((a4, c5, x3.length), (x3.set x7.toNat (⟨x19, m20.Kind, m20.Parties, m20.Rules⟩ : TAgreement))) (zhc rfl zhn) (zsc zph zsn) rfl
   ·replace hq14 := yaq hc18 hq14
    refine yaa ?_
    refine yad [] [55] [(54, pB (x8 == 2))] fo0 (by kernel_rfl) ?_
    refine yab ?_
    refine yai rfl (fun hc22 => ?_) (fun hc22 => ?_)
    ·replace hq14 := yap hc22 hq14
     refine yac hq14 ?_; clear hq14; intro x23 hx23 hq14
     refine yac hq14 ?_; clear hq14; intro m24 hm24 hq14
     refine yae ?_
     refine yam 5 [] [58, 59] [(56, pO a4 x3.length c5), (57, pI x7), (60, pI (IntKind.i64.wrap (x23 - 1)))] (focl 3 (made_Within_ok hx23) fo0) (by kernel_rfl) ?_
     refine pwl_q rfl rfl rfl (pq_indexO (enc := TAgreement.enc) (xs := x3) rfl rfl rfl (.p rfl) zm0 (.p rfl) (fun _ => hm24)) ?_
     refine yam 1 [] [] [(62, pP (ablk a4) (x7.toNat * 4 + 1))] fo0 (by kernel_rfl) ?_
     refine pwl_l0 rfl rfl (pl_store_o (enc := TAgreement.enc) (xs := x3) (a := a4) x7 1 m24 (⟨m24.ID, (IntKind.i64.wrap (x23 - 1)), m24.Parties, m24.Rules⟩ : TAgreement) rfl rfl rfl rfl (fun _ => rfl) rfl rfl hm24 (zlt (zlc zln)) zuh ?_)
     refine yav (yag ?_)
     obtain rfl := Option.some.inj hq14
     exact pk_mid ((a4, c5, x3.length), (x3.set x7.toNat (⟨m24.ID, (IntKind.i64.wrap (x23 - 1)), m24.Parties, m24.Rules⟩ : TAgreement))) (zhc rfl zhn) (zsc zph zsn) rfl
    ·replace hq14 := yaq hc22 hq14
     refine yaa ?_
     refine yad [] [64] [(63, pB (x8 == 3))] fo0 (by kernel_rfl) ?_
     refine yab ?_
     refine yai rfl (fun hc26 => ?_) (fun hc26 => ?_)
     ·replace hq14 := yap hc26 hq14
      refine yac hq14 ?_; clear hq14; intro l27 hl27 hq14
      refine yac hq14 ?_; clear hq14; intro m28 hm28 hq14
      refine yae ?_
      refine yam 9 [2, 2] [67, 68, 69, 70, 71, 72] [(65, pO a4 x3.length c5), (66, pI x7), (73, pL eS l27)] (fosl 8 eS 1 (fun _ => rfl) hl27 fo0) (by kernel_rfl) ?_
      refine pwl_q rfl rfl rfl (pq_indexO (enc := TAgreement.enc) (xs := x3) rfl rfl rfl (.p rfl) zm0 (.p rfl) (fun _ => hm28)) ?_
      refine yam 1 [] [] [(75, pP (ablk a4) (x7.toNat * 4 + 2))] fo0 (by kernel_rfl) ?_
      refine pwl_l0 rfl rfl (pl_store_o (enc := TAgreement.enc) (xs := x3) (a := a4) x7 2 m28 (⟨m28.ID, m28.Kind, l27, m28.Rules⟩ : TAgreement) rfl rfl rfl rfl (fun _ => rfl) rfl rfl hm28 (zlt (zlt (zlc zln))) zuh ?_)
      refine yav (yag ?_)
      obtain rfl := Option.some.inj hq14
      exact pk_mid ((a4, c5, x3.length), (x3.set x7.toNat (⟨m28.ID, m28.Kind, l27, m28.Rules⟩ : TAgreement))) (zhc rfl zhn) (zsc zph zsn) rfl
     ·replace hq14 := yaq hc26 hq14
      refine yaa ?_
      refine yad [] [77] [(76, pB (x8 == 4))] fo0 (by kernel_rfl) ?_
      refine yab ?_
      refine yai rfl (fun hc30 => ?_) (fun hc30 => ?_)
      ·replace hq14 := yap hc30 hq14
       refine yaa ?_
       refine yac hq14 ?_; clear hq14; intro x31 hx31 hq14
       refine yae ?_
       refine yam 4 [1] [78, 79] [(80, .agg [pI x31.Kind, pI x31.Digits, pL eS x31.Except, pI x31.Tolerance, pI x31.Limit, pS x31.Name, pL TRule.enc x31.Args]), (81, pP b2 1)] (focl 2 (made_Pruned_ok hx31) fo0) (by kernel_rfl) ?_
       refine pwl_l0 rfl rfl (yau (vs := [pI x31.Kind, pI x31.Digits, pL eS x31.Except, pI x31.Tolerance, pI x31.Limit, pS x31.Name, pL TRule.enc x31.Args]) rfl rfl rfl rfl rfl (zut zuh) (zlt (zlc (zlc (zlc (zlc (zlc (zlc (zlc zln)))))))) ?_)
       refine yav (yab ?_)
       refine pwc_rowfact (enc := TAgreement.enc) (xs := x3) (a := a4) zm0 (fun hl32 ha33 => ?_)
       refine yac hq14 ?_; clear hq14; intro m34 hm34 hq14
       refine yac hq14 ?_; clear hq14; intro l37 hl37 hq14
       refine yac hq14 ?_; clear hq14; intro l43 hl43 hq14
       refine yac hq14 ?_; clear hq14; intro m47 hm47 hq14
       refine pwc_cutK (Y := Unit) (fun _ => [(13, pO a4 x3.length c5)]) (fun _ => [PRes.row a4 x3.length c5 33 4 (List.map TAgreement.enc (x3.set x7.toNat (⟨m47.ID, m47.Kind, m47.Parties, l43⟩ : TAgreement)))]) (fun _ => True) ?_ ?_
       ·refine pws_start (ρd := [PRes.row a4 _ _ _ _ _]) _ (List.Perm.refl _) ?_
        refine pws_q 0 (by kernel_rfl) rfl rfl rfl rfl (pq_move (p := pO a4 x3.length c5) rfl (.p rfl)) ?_
        refine pws_q 1 (by kernel_rfl) rfl rfl rfl rfl (pq_move (p := pI x7) rfl (.p rfl)) ?_
        refine pws_q 3 (by kernel_rfl) rfl rfl rfl rfl (pq_move (p := pO a4 x3.length c5) rfl (.p rfl)) ?_
        refine pws_q 4 (by kernel_rfl) rfl rfl rfl rfl (pq_move (p := pI x7) rfl (.p rfl)) ?_
        refine pws_q 5 (by kernel_rfl) rfl rfl rfl rfl (pq_indexF (xs := x3) (by first | exact hl32 | rfl | (simp only [List.length_set]; exact hl32) | simp only [List.length_set]) ha33 rfl rfl rfl (.p rfl) (.p rfl) (fun _ => hm34)) ?_
        refine pws_q 6 (by kernel_rfl) rfl rfl rfl rfl (pq_fieldAddr rfl rfl rfl rfl rfl (.p rfl)) ?_
        refine pws_q 9 (by kernel_rfl) rfl rfl rfl rfl (pq_load_b (p := .agg [pS p2.Prefix, pI x31.Kind, pI x31.Digits, pL eS x31.Except, pI x31.Tolerance, pI x31.Limit, pS x31.Name, pL TRule.enc x31.Args]) rfl (.p rfl) zm0 rfl) ?_
        refine pws_three 2 7 10 (by kernel_rfl) ?_ ?_ ?_
        ·skip
         refine yay rfl rfl rfl rfl (pl_lit rfl rfl rfl rfl rfl zin rfl rfl rfl rfl (fun b35 => ?_))
         refine pws_two 7 10 (by kernel_rfl) ?_ ?_
         ·skip
          refine yay rfl rfl rfl rfl (pl_q (pq_load_o (p := pL TRuleFor.enc m34.Rules) (enc := TAgreement.enc) (xs := x3) (a := a4) x7 3 m34 rfl (.p rfl) rfl zm1 (fun _ => hm34) rfl) ?_)
          refine pws_two 8 10 (by kernel_rfl) ?_ ?_
          ·skip
           refine yay rfl rfl rfl rfl (pl_app_s (enc := TRuleFor.enc) rfl rfl rfl rfl rfl (fun _ => rfl) rfl rfl rfl (by exact zph) hl37 (fun a38 c39 => ?_))
           refine pws_one 10 (by kernel_rfl) ?_
           refine yay rfl rfl rfl rfl (pl_lit rfl rfl rfl rfl rfl (zic rfl zin) rfl rfl rfl rfl (fun b41 => ?_))
           refine pws_one 11 (by kernel_rfl) ?_
           refine yay rfl rfl rfl rfl (pl_app_o (enc := TRuleFor.enc) rfl rfl rfl rfl rfl rfl rfl rfl rfl zm0 (by exact zpt zph) hl43 (fun a44 c45 => ?_))
           refine pws_q 12 (by kernel_rfl) rfl rfl rfl rfl (pq_indexF (xs := x3) (by first | exact hl32 | rfl | (simp only [List.length_set]; exact hl32) | simp only [List.length_set]) ha33 rfl rfl rfl (.p rfl) (.p rfl) (fun _ => hm47)) ?_
           refine pws_q 13 (by kernel_rfl) rfl rfl rfl rfl (pq_fieldAddr rfl rfl rfl rfl rfl (.p rfl)) ?_
           refine pws_one 14 (by kernel_rfl) ?_
           refine pstep_l0 rfl rfl rfl (pl_frzt (enc := TRuleFor.enc) (xs := l43) 93 rfl (by exact zph) (pl_store_o (enc := TAgreement.enc) (xs := x3) (a := a4) x7 3 m47 (⟨m47.ID, m47.Kind, m47.Parties, l43⟩ : TAgreement) rfl rfl rfl rfl (fun _ => rfl) rfl rfl hm47 (zlt (zlt (zlt (zlc zln)))) (zut (zut zuh)) ?_))
           refine pws_done (by kernel_rfl) ?_
           exact pk_cut () (zhc rfl zhn) (zsc (zpt (zpt zph)) zsn) trivial
          ·skip
           refine yay rfl rfl rfl rfl (pl_lit rfl rfl rfl rfl rfl (zic rfl zin) rfl rfl rfl rfl (fun b41 => ?_))
           refine pws_one 8 (by kernel_rfl) ?_
           refine yay rfl rfl rfl rfl (pl_app_s (enc := TRuleFor.enc) rfl rfl rfl rfl rfl (fun _ => rfl) rfl rfl rfl (by exact zpt zph) hl37 (fun a38 c39 => ?_))
           refine pws_one 11 (by kernel_rfl) ?_
           refine yay rfl rfl rfl rfl (pl_app_o (enc := TRuleFor.enc) rfl rfl rfl rfl rfl rfl rfl rfl rfl zm1 (by exact zph) hl43 (fun a44 c45 => ?_))
           refine pws_q 12 (by kernel_rfl) rfl rfl rfl rfl (pq_indexF (xs := x3) (by first | exact hl32 | rfl | (simp only [List.length_set]; exact hl32) | simp only [List.length_set]) ha33 rfl rfl rfl (.p rfl) (.p rfl) (fun _ => hm47)) ?_
           refine pws_q 13 (by kernel_rfl) rfl rfl rfl rfl (pq_fieldAddr rfl rfl rfl rfl rfl (.p rfl)) ?_
           refine pws_one 14 (by kernel_rfl) ?_
           refine pstep_l0 rfl rfl rfl (pl_frzt (enc := TRuleFor.enc) (xs := l43) 93 rfl (by exact zph) (pl_store_o (enc := TAgreement.enc) (xs := x3) (a := a4) x7 3 m47 (⟨m47.ID, m47.Kind, m47.Parties, l43⟩ : TAgreement) rfl rfl rfl rfl (fun _ => rfl) rfl rfl hm47 (zlt (zlt (zlt (zlc zln)))) (zut (zut zuh)) ?_))
           refine pws_done (by kernel_rfl) ?_
           exact pk_cut () (zhc rfl zhn) (zsc (zpt (zpt zph)) zsn) trivial
         ·skip
          refine yay rfl rfl rfl rfl (pl_lit rfl rfl rfl rfl rfl (zic rfl zin) rfl rfl rfl rfl (fun b41 => ?_))
          refine pws_one 7 (by kernel_rfl) ?_
          refine yay rfl rfl rfl rfl (pl_q (pq_load_o (p := pL TRuleFor.enc m34.Rules) (enc := TAgreement.enc) (xs := x3) (a := a4) x7 3 m34 rfl (.p rfl) rfl zm2 (fun _ => hm34) rfl) ?_)
          refine pws_one 8 (by kernel_rfl) ?_
          refine yay rfl rfl rfl rfl (pl_app_s (enc := TRuleFor.enc) rfl rfl rfl rfl rfl (fun _ => rfl) rfl rfl rfl (by exact zpt zph) hl37 (fun a38 c39 => ?_))
          refine pws_one 11 (by kernel_rfl) ?_
          refine yay rfl rfl rfl rfl (pl_app_o (enc := TRuleFor.enc) rfl rfl rfl rfl rfl rfl rfl rfl rfl zm1 (by exact zph) hl43 (fun a44 c45 => ?_))
          refine pws_q 12 (by kernel_rfl) rfl rfl rfl rfl (pq_indexF (xs := x3) (by first | exact hl32 | rfl | (simp only [List.length_set]; exact hl32) | simp only [List.length_set]) ha33 rfl rfl rfl (.p rfl) (.p rfl) (fun _ => hm47)) ?_
          refine pws_q 13 (by kernel_rfl) rfl rfl rfl rfl (pq_fieldAddr rfl rfl rfl rfl rfl (.p rfl)) ?_
          refine pws_one 14 (by kernel_rfl) ?_
          refine pstep_l0 rfl rfl rfl (pl_frzt (enc := TRuleFor.enc) (xs := l43) 93 rfl (by exact zph) (pl_store_o (enc := TAgreement.enc) (xs := x3) (a := a4) x7 3 m47 (⟨m47.ID, m47.Kind, m47.Parties, l43⟩ : TAgreement) rfl rfl rfl rfl (fun _ => rfl) rfl rfl hm47 (zlt (zlt (zlt (zlc zln)))) (zut (zut zuh)) ?_))
          refine pws_done (by kernel_rfl) ?_
          exact pk_cut () (zhc rfl zhn) (zsc (zpt (zpt zph)) zsn) trivial
        ·skip
         refine yay rfl rfl rfl rfl (pl_q (pq_load_o (p := pL TRuleFor.enc m34.Rules) (enc := TAgreement.enc) (xs := x3) (a := a4) x7 3 m34 rfl (.p rfl) rfl zm0 (fun _ => hm34) rfl) ?_)
         refine pws_two 2 10 (by kernel_rfl) ?_ ?_
         ·skip
          refine yay rfl rfl rfl rfl (pl_lit rfl rfl rfl rfl rfl zin rfl rfl rfl rfl (fun b35 => ?_))
          refine pws_two 8 10 (by kernel_rfl) ?_ ?_
          ·skip
           refine yay rfl rfl rfl rfl (pl_app_s (enc := TRuleFor.enc) rfl rfl rfl rfl rfl (fun _ => rfl) rfl rfl rfl (by exact zph) hl37 (fun a38 c39 => ?_))
           refine pws_one 10 (by kernel_rfl) ?_
           refine yay rfl rfl rfl rfl (pl_lit rfl rfl rfl rfl rfl (zic rfl zin) rfl rfl rfl rfl (fun b41 => ?_))
           refine pws_one 11 (by kernel_rfl) ?_
           refine yay rfl rfl rfl rfl (pl_app_o (enc := TRuleFor.enc) rfl rfl rfl rfl rfl rfl rfl rfl rfl zm0 (by exact zpt zph) hl43 (fun a44 c45 => ?_))
           refine pws_q 12 (by kernel_rfl) rfl rfl rfl rfl (pq_indexF (xs := x3) (by first | exact hl32 | rfl | (simp only [List.length_set]; exact hl32) | simp only [List.length_set]) ha33 rfl rfl rfl (.p rfl) (.p rfl) (fun _ => hm47)) ?_
           refine pws_q 13 (by kernel_rfl) rfl rfl rfl rfl (pq_fieldAddr rfl rfl rfl rfl rfl (.p rfl)) ?_
           refine pws_one 14 (by kernel_rfl) ?_
           refine pstep_l0 rfl rfl rfl (pl_frzt (enc := TRuleFor.enc) (xs := l43) 93 rfl (by exact zph) (pl_store_o (enc := TAgreement.enc) (xs := x3) (a := a4) x7 3 m47 (⟨m47.ID, m47.Kind, m47.Parties, l43⟩ : TAgreement) rfl rfl rfl rfl (fun _ => rfl) rfl rfl hm47 (zlt (zlt (zlt (zlc zln)))) (zut (zut zuh)) ?_))
           refine pws_done (by kernel_rfl) ?_
           exact pk_cut () (zhc rfl zhn) (zsc (zpt (zpt zph)) zsn) trivial
          ·skip
           refine yay rfl rfl rfl rfl (pl_lit rfl rfl rfl rfl rfl (zic rfl zin) rfl rfl rfl rfl (fun b41 => ?_))
           refine pws_one 8 (by kernel_rfl) ?_
           refine yay rfl rfl rfl rfl (pl_app_s (enc := TRuleFor.enc) rfl rfl rfl rfl rfl (fun _ => rfl) rfl rfl rfl (by exact zpt zph) hl37 (fun a38 c39 => ?_))
           refine pws_one 11 (by kernel_rfl) ?_
           refine yay rfl rfl rfl rfl (pl_app_o (enc := TRuleFor.enc) rfl rfl rfl rfl rfl rfl rfl rfl rfl zm1 (by exact zph) hl43 (fun a44 c45 => ?_))
           refine pws_q 12 (by kernel_rfl) rfl rfl rfl rfl (pq_indexF (xs := x3) (by first | exact hl32 | rfl | (simp only [List.length_set]; exact hl32) | simp only [List.length_set]) ha33 rfl rfl rfl (.p rfl) (.p rfl) (fun _ => hm47)) ?_
           refine pws_q 13 (by kernel_rfl) rfl rfl rfl rfl (pq_fieldAddr rfl rfl rfl rfl rfl (.p rfl)) ?_
           refine pws_one 14 (by kernel_rfl) ?_
           refine pstep_l0 rfl rfl rfl (pl_frzt (enc := TRuleFor.enc) (xs := l43) 93 rfl (by exact zph) (pl_store_o (enc := TAgreement.enc) (xs := x3) (a := a4) x7 3 m47 (⟨m47.ID, m47.Kind, m47.Parties, l43⟩ : TAgreement) rfl rfl rfl rfl (fun _ => rfl) rfl rfl hm47 (zlt (zlt (zlt (zlc zln)))) (zut (zut zuh)) ?_))
           refine pws_done (by kernel_rfl) ?_
           exact pk_cut () (zhc rfl zhn) (zsc (zpt (zpt zph)) zsn) trivial
         ·skip
          refine yay rfl rfl rfl rfl (pl_lit rfl rfl rfl rfl rfl (zic rfl zin) rfl rfl rfl rfl (fun b41 => ?_))
          refine pws_one 2 (by kernel_rfl) ?_
          refine yay rfl rfl rfl rfl (pl_lit rfl rfl rfl rfl rfl zin rfl rfl rfl rfl (fun b35 => ?_))
          refine pws_one 8 (by kernel_rfl) ?_
          refine yay rfl rfl rfl rfl (pl_app_s (enc := TRuleFor.enc) rfl rfl rfl rfl rfl (fun _ => rfl) rfl rfl rfl (by exact zph) hl37 (fun a38 c39 => ?_))
          refine pws_one 11 (by kernel_rfl) ?_
          refine yay rfl rfl rfl rfl (pl_app_o (enc := TRuleFor.enc) rfl rfl rfl rfl rfl rfl rfl rfl rfl zm1 (by exact zph) hl43 (fun a44 c45 => ?_))
          refine pws_q 12 (by kernel_rfl) rfl rfl rfl rfl (pq_indexF (xs := x3) (by first | exact hl32 | rfl | (simp only [List.length_set]; exact hl32) | simp only [List.length_set]) ha33 rfl rfl rfl (.p rfl) (.p rfl) (fun _ => hm47)) ?_
          refine pws_q 13 (by kernel_rfl) rfl rfl rfl rfl (pq_fieldAddr rfl rfl rfl rfl rfl (.p rfl)) ?_
          refine pws_one 14 (by kernel_rfl) ?_
          refine pstep_l0 rfl rfl rfl (pl_frzt (enc := TRuleFor.enc) (xs := l43) 93 rfl (by exact zph) (pl_store_o (enc := TAgreement.enc) (xs := x3) (a := a4) x7 3 m47 (⟨m47.ID, m47.Kind, m47.Parties, l43⟩ : TAgreement) rfl rfl rfl rfl (fun _ => rfl) rfl rfl hm47 (zlt (zlt (zlt (zlc zln)))) (zut (zut zuh)) ?_))
          refine pws_done (by kernel_rfl) ?_
          exact pk_cut () (zhc rfl zhn) (zsc (zpt (zpt zph)) zsn) trivial
        ·skip
         refine yay rfl rfl rfl rfl (pl_lit rfl rfl rfl rfl rfl (zic rfl zin) rfl rfl rfl rfl (fun b41 => ?_))
         refine pws_two 2 7 (by kernel_rfl) ?_ ?_
         ·skip
          refine yay rfl rfl rfl rfl (pl_lit rfl rfl rfl rfl rfl zin rfl rfl rfl rfl (fun b35 => ?_))
          refine pws_one 7 (by kernel_rfl) ?_
          refine yay rfl rfl rfl rfl (pl_q (pq_load_o (p := pL TRuleFor.enc m34.Rules) (enc := TAgreement.enc) (xs := x3) (a := a4) x7 3 m34 rfl (.p rfl) rfl zm2 (fun _ => hm34) rfl) ?_)
          refine pws_one 8 (by kernel_rfl) ?_
          refine yay rfl rfl rfl rfl (pl_app_s (enc := TRuleFor.enc) rfl rfl rfl rfl rfl (fun _ => rfl) rfl rfl rfl (by exact zph) hl37 (fun a38 c39 => ?_))
          refine pws_one 11 (by kernel_rfl) ?_
          refine yay rfl rfl rfl rfl (pl_app_o (enc := TRuleFor.enc) rfl rfl rfl rfl rfl rfl rfl rfl rfl zm1 (by exact zph) hl43 (fun a44 c45 => ?_))
          refine pws_q 12 (by kernel_rfl) rfl rfl rfl rfl (pq_indexF (xs := x3) (by first | exact hl32 | rfl | (simp only [List.length_set]; exact hl32) | simp only [List.length_set]) ha33 rfl rfl rfl (.p rfl) (.p rfl) (fun _ => hm47)) ?_
          refine pws_q 13 (by kernel_rfl) rfl rfl rfl rfl (pq_fieldAddr rfl rfl rfl rfl rfl (.p rfl)) ?_
          refine pws_one 14 (by kernel_rfl) ?_
          refine pstep_l0 rfl rfl rfl (pl_frzt (enc := TRuleFor.enc) (xs := l43) 93 rfl (by exact zph) (pl_store_o (enc := TAgreement.enc) (xs := x3) (a := a4) x7 3 m47 (⟨m47.ID, m47.Kind, m47.Parties, l43⟩ : TAgreement) rfl rfl rfl rfl (fun _ => rfl) rfl rfl hm47 (zlt (zlt (zlt (zlc zln)))) (zut (zut zuh)) ?_))
          refine pws_done (by kernel_rfl) ?_
          exact pk_cut () (zhc rfl zhn) (zsc (zpt (zpt zph)) zsn) trivial
         ·skip
          refine yay rfl rfl rfl rfl (pl_q (pq_load_o (p := pL TRuleFor.enc m34.Rules) (enc := TAgreement.enc) (xs := x3) (a := a4) x7 3 m34 rfl (.p rfl) rfl zm1 (fun _ => hm34) rfl) ?_)
          refine pws_one 2 (by kernel_rfl) ?_
          refine yay rfl rfl rfl rfl (pl_lit rfl rfl rfl rfl rfl zin rfl rfl rfl rfl (fun b35 => ?_))
          refine pws_one 8 (by kernel_rfl) ?_
          refine yay rfl rfl rfl rfl (pl_app_s (enc := TRuleFor.enc) rfl rfl rfl rfl rfl (fun _ => rfl) rfl rfl rfl (by exact zph) hl37 (fun a38 c39 => ?_))
          refine pws_one 11 (by kernel_rfl) ?_
          refine yay rfl rfl rfl rfl (pl_app_o (enc := TRuleFor.enc) rfl rfl rfl rfl rfl rfl rfl rfl rfl zm1 (by exact zph) hl43 (fun a44 c45 => ?_))
          refine pws_q 12 (by kernel_rfl) rfl rfl rfl rfl (pq_indexF (xs := x3) (by first | exact hl32 | rfl | (simp only [List.length_set]; exact hl32) | simp only [List.length_set]) ha33 rfl rfl rfl (.p rfl) (.p rfl) (fun _ => hm47)) ?_
          refine pws_q 13 (by kernel_rfl) rfl rfl rfl rfl (pq_fieldAddr rfl rfl rfl rfl rfl (.p rfl)) ?_
          refine pws_one 14 (by kernel_rfl) ?_
          refine pstep_l0 rfl rfl rfl (pl_frzt (enc := TRuleFor.enc) (xs := l43) 93 rfl (by exact zph) (pl_store_o (enc := TAgreement.enc) (xs := x3) (a := a4) x7 3 m47 (⟨m47.ID, m47.Kind, m47.Parties, l43⟩ : TAgreement) rfl rfl rfl rfl (fun _ => rfl) rfl rfl hm47 (zlt (zlt (zlt (zlc zln)))) (zut (zut zuh)) ?_))
          refine pws_done (by kernel_rfl) ?_
          exact pk_cut () (zhc rfl zhn) (zsc (zpt (zpt zph)) zsn) trivial
       ·rintro _ τ ρ1 hsub49 _; (try dsimp only at hsub49); dsimp only [pupds]
        refine yag ?_
        obtain rfl := Option.some.inj hq14
        exact pk_mid ((a4, c5, x3.length), (x3.set x7.toNat (⟨m47.ID, m47.Kind, m47.Parties, l43⟩ : TAgreement))) (zhc rfl zhn) (PSub.trans (zsc zph zsn) hsub49) rfl
      ·replace hq14 := yaq hc30 hq14
       refine yaa ?_
       refine yad [] [97] [(96, pB (x8 == 5))] fo0 (by kernel_rfl) ?_
       refine yab ?_
       refine yai rfl (fun hc50 => ?_) (fun hc50 => ?_)
       ·replace hq14 := yap hc50 hq14
        refine yaa (yae ?_)
        refine pwl_l rfl rfl rfl (pl_lit rfl rfl rfl rfl rfl zin rfl rfl rfl rfl (fun b51 => ?_))
        refine yac hq14 ?_; clear hq14; intro m53 hm53 hq14
        refine yam 2 [] [] [(99, pO a4 x3.length c5), (100, pI x7)] fo0 (by kernel_rfl) ?_
        refine pwl_q rfl rfl rfl (pq_indexO (enc := TAgreement.enc) (xs := x3) rfl rfl rfl (.p rfl) zm1 (.p rfl) (fun _ => hm53)) ?_
        refine yam 1 [] [] [(102, pP (ablk a4) (x7.toNat * 4 + 3))] fo0 (by kernel_rfl) ?_
        refine pwl_q rfl rfl rfl (pq_load_o (p := pL TRuleFor.enc m53.Rules) (enc := TAgreement.enc) (xs := x3) (a := a4) x7 3 m53 rfl (.p rfl) rfl zm1 (fun _ => hm53) rfl) ?_
        refine yac hq14 ?_; clear hq14; intro l54 hl54 hq14
        refine pwl_l rfl rfl rfl (pl_app_s (enc := TRuleFor.enc) rfl rfl rfl rfl rfl (fun _ => rfl) rfl rfl rfl (by exact zph) hl54 (fun a55 c56 => ?_))
        refine yax [] [] [(15, pO a55 l54.length c56)] fo0 (by kernel_rfl) ?_
        refine yab (yaa ?_)
        refine yac hq14 ?_; clear hq14; intro x58 hx58 hq14
        refine yac hq14 ?_; clear hq14; intro x59 hx59 hq14
        refine yac hq14 ?_; clear hq14; intro m60 hm60 hq14
        refine yae ?_
        refine yam 8 [] [106, 107, 108, 110, 111] [(105, pO a55 l54.length c56), (109, pI x58), (112, pI x59)] (focl 4 (made_Within_ok hx58) (focl 7 (made_Within_ok hx59) fo0)) (by kernel_rfl) ?_
        refine pwl_q rfl rfl rfl (pq_indexO (enc := TRuleFor.enc) (xs := l54) rfl rfl rfl (.p rfl) zm0 (.p rfl) (fun _ => hm60)) ?_
        refine yam 2 [] [114] [(115, pP (ablk a55) (x58.toNat * 8 + 1))] fo0 (by kernel_rfl) ?_
        refine pwl_l0 rfl rfl (pl_store_o (enc := TRuleFor.enc) (xs := l54) (a := a55) x58 1 m60 (⟨m60.Prefix, (⟨x59, m60.Rule.Digits, m60.Rule.Except, m60.Rule.Tolerance, m60.Rule.Limit, m60.Rule.Name, m60.Rule.Args⟩ : TRule)⟩ : TRuleFor) rfl rfl rfl rfl (fun _ => rfl) rfl rfl hm60 (zlt (zlc zln)) zuh ?_)
        refine yav (yab ?_)
        refine yac hq14 ?_; clear hq14; intro m62 hm62 hq14
        refine yae ?_
        refine yam 3 [] [] [(116, pO a4 x3.length c5), (117, pI x7), (118, pO a55 l54.length c56)] fo0 (by kernel_rfl) ?_
        refine pwl_q rfl rfl rfl (pq_indexO (enc := TAgreement.enc) (xs := x3) rfl rfl rfl (.p rfl) zm1 (.p rfl) (fun _ => hm62)) ?_
        refine yam 1 [] [] [(120, pP (ablk a4) (x7.toNat * 4 + 3))] fo0 (by kernel_rfl) ?_
        refine pwl_frzt (enc := TRuleFor.enc) (xs := (l54.set x58.toNat (⟨m60.Prefix, (⟨x59, m60.Rule.Digits, m60.Rule.Except, m60.Rule.Tolerance, m60.Rule.Limit, m60.Rule.Name, m60.Rule.Args⟩ : TRule)⟩ : TRuleFor))) 118 rfl (by exact zph) ?_
        refine pwl_l0 rfl rfl (pl_store_o (enc := TAgreement.enc) (xs := x3) (a := a4) x7 3 m62 (⟨m62.ID, m62.Kind, m62.Parties, (l54.set x58.toNat (⟨m60.Prefix, (⟨x59, m60.Rule.Digits, m60.Rule.Except, m60.Rule.Tolerance, m60.Rule.Limit, m60.Rule.Name, m60.Rule.Args⟩ : TRule)⟩ : TRuleFor))⟩ : TAgreement) rfl rfl rfl rfl (fun _ => rfl) rfl rfl hm62 (zlt (zlt (zlt (zlc zln)))) (zut zuh) ?_)
        refine yav (yag ?_)
        obtain rfl := Option.some.inj hq14
        exact pk_mid ((a4, c5, x3.length), (x3.set x7.toNat (⟨m62.ID, m62.Kind, m62.Parties, (l54.set x58.toNat (⟨m60.Prefix, (⟨x59, m60.Rule.Digits, m60.Rule.Except, m60.Rule.Tolerance, m60.Rule.Limit, m60.Rule.Name, m60.Rule.Args⟩ : TRule)⟩ : TRuleFor))⟩ : TAgreement))) (zhc rfl zhn) (zsc (zpt zph) zsn) rfl
       ·replace hq14 := yaq hc50 hq14
        refine pwc_frzt (enc := TAgreement.enc) (xs := x3) 13 rfl (by exact zph) ?_
        refine pwc_draw (ρd := []) [(1, 0), (2, 0), (3, 0), (5, 0), (6, 0), (7, 0), (8, 0), (9, 3), (11, 0), (12, 0), (13, 0), (0, 1), (4, 1), (9, 2), (10, 1), (14, 1), (15, 0)] _ (List.Perm.refl _) (by kernel_rfl) rfl ?_
        refine yac hq14 ?_; clear hq14; intro l64 hl64 hq14
        refine yac hq14 ?_; clear hq14; intro m65 hm65 hq14
        refine pwd_run 7 [] [25, 26, 29, 30, 31] [(27, pL TAgreement.enc l64), (32, .agg [pI m65.ID, pI m65.Kind, pL eS m65.Parties, pL TRuleFor.enc m65.Rules])] (fosl 2 TAgreement.enc 4 (fun _ => rfl) hl64 (foix 5 TAgreement.enc hm65 fo0)) (by kernel_rfl) ?_
        refine pwd_tell (plate_lit rfl rfl rfl rfl rfl (zic rfl zin) rfl rfl rfl) ?_
        refine yac hq14 ?_; clear hq14; intro l66 hl66 hq14
        refine pwd_run 3 [] [35, 36] [(37, pL TAgreement.enc l66)] (fosl 2 TAgreement.enc 4 (fun _ => rfl) hl66 fo0) (by kernel_rfl) ?_
        refine pwd_l rfl rfl rfl (pl_lit rfl rfl rfl rfl rfl zin rfl rfl rfl rfl (fun b67 => ?_))
        refine yac hq14 ?_; clear hq14; intro l69 hl69 hq14
        refine pwd_l rfl rfl rfl (pl_app_s (enc := TAgreement.enc) rfl rfl rfl rfl rfl (fun _ => rfl) rfl rfl rfl (by exact zph) hl69 (fun a70 c71 => ?_))
        refine pwd_late (plate_lit rfl rfl rfl rfl rfl (zic rfl zin) rfl rfl rfl) (fun _ => rfl) rfl (fun b73 => ?_)
        refine yac hq14 ?_; clear hq14; intro l75 hl75 hq14
        refine pwd_l rfl rfl rfl (pl_app_b (enc := TAgreement.enc) rfl rfl rfl rfl rfl (fun _ => rfl) rfl rfl rfl rfl zm0 rfl (by exact zpt zph) hl75 (fun a76 c77 => ?_))
        refine yac hq14 ?_; clear hq14; intro l79 hl79 hq14
        refine pwd_l rfl rfl rfl (pl_app_s (enc := TAgreement.enc) rfl rfl rfl rfl rfl (fun _ => rfl) rfl rfl rfl (by exact zph) hl79 (fun a80 c81 => ?_))
        refine pwd_run 1 [] [] [(13, pO a80 l79.length c81)] fo0 (by kernel_rfl) ?_
        refine pwd_nil (yag ?_)
        obtain rfl := Option.some.inj hq14
        exact pk_mid ((a80, c81, l79.length), l79) (zhc rfl zhn) (zsc zph zsn) rfl
 ·rintro ⟨⟨a10, c11, n13⟩, l12⟩ τ hz; (try dsimp only at hz); subst q14; (try dsimp only at h); dsimp only [pupds]
  refine pwc_rowfact (enc := TAgreement.enc) (xs := l12) (a := a10) zm0 (fun hl83 ha84 => ?_); subst hl83; clear ha84
  refine yaa (yae ?_)
  refine yam 1 [] [] [(121, pO a10 l12.length c11)] fo0 (by kernel_rfl) ?_
  refine pwl_frzt (enc := TAgreement.enc) (xs := l12) 121 rfl (by exact zph) ?_
  refine yac h ?_; clear h; intro x85 hx85 h
  refine yam 2 [] [] [(122, pI x85), (123, pO a10 l12.length c11)] (focl 0 (cumulation_Validate_ok hx85) fo0) (by kernel_rfl) ?_
  refine pwl_view (enc := TAgreement.enc) (xs := l12) 123 rfl zm0 ?_
  refine yac h ?_; clear h; intro x86 hx86 h
  refine yac h ?_; clear h; intro x87 hx87 h
  refine yax [] [124, 125, 126, 127, 128] [(12, pB ((x85 == x86) && x87))] (focl 0 (ref14_Agreements_ok hx86) (foclg 3 (fun hc => law14_awake_ok (gd_t hx87 hc)) fo0)) (by kernel_rfl) ?_
  refine yab (yak ?_)
  obtain rfl := Option.some.inj h
  exact yal (yba (yao rfl)) zsn ⟨rfl, rfl⟩
end SX
end Go.Proofs.YtiijbkaiipjpkaaGreatDoor
set_option maxRecDepth 100000
namespace Go.Proofs.YtiijbkaiipjpkaaGreatDoor
namespace SX
open Go
theorem loopF_run {S T : Type} {body : S → Option (S ⊕ T)} (P : S → Prop) (μ : S → Nat) (Q : T → Prop) (step : ∀ s, P s → (∃ s', body s = some (.inl s') ∧ P s' ∧ μ s' < μ s) ∨ ∃ t, body s = some (.inr t) ∧ Q t) : ∀ (N : Nat) (s : S), P s → μ s < N → ∃ t, loopF body N s = some t ∧ Q t := by
 intro N
 induction N with
 | zero => intro s _ h; exact absurd h (Nat.not_lt_zero _)
 | succ N ih =>
  intro s hp hm
  rw [loopF_succ]
  rcases step s hp with ⟨s', h1, h2, h3⟩ | ⟨t, h1, h2⟩
  ·rw [h1]; exact ih s' h2 (by omega)
  ·rw [h1]; exact ⟨t, rfl, h2⟩
theorem ix0 {α : Type} {a b : α} : idx [a, b] 0 = some a := rfl
theorem ix1 {α : Type} {a b : α} : idx [a, b] 1 = some b := rfl
theorem cap_eq (c : Int) : production_isCapital c = some (decide (65 ≤ c) && decide (c ≤ 90)) := rfl
def ctry (s : ByteArray) : Bool := match s.data.toList with | [a, b] => decide (65 ≤ (a.toNat : Int)) && decide ((a.toNat : Int) ≤ 90) && decide (65 ≤ (b.toNat : Int)) && decide ((b.toNat : Int) ≤ 90) | _ => false
theorem size_two {s : ByteArray} (h : ((s.size : Int) == 2) = true) : ∃ a b, s.data.toList = [a, b] := by
 have h2 : s.data.toList.length = 2 := by
  have := eq_of_beq h
  rw [Array.length_toList]; have e : s.size = s.data.size := rfl; omega
 match hd : s.data.toList, h2 with
 | [a, b], _ => exact ⟨a, b, rfl⟩
theorem not_two {s : ByteArray} (h : ((s.size : Int) == 2) = false) : ctry s = false := by
 unfold ctry
 split
 ·rename_i a b hd
  have e : s.size = s.data.toList.length := by rw [Array.length_toList]; rfl
  rw [hd] at e
  have e2 : (s.size : Int) = 2 := by rw [e]; rfl
  rw [e2] at h; cases h
 ·rfl
theorem valid_country (s : ByteArray) : production_ValidCountry s = some (ctry s) := by
 unfold production_ValidCountry
 cases h : ((s.size : Int) == 2)
 ·rw [not_two h]; rfl
 ·obtain ⟨a, b, hd⟩ := size_two h
  simp only [Bool.true_and, gd_tt, cap_eq]
  rw [hd]
  simp only [ctry, hd]
  rw [bnd ix0]
  simp only [Option.bind_some]
  cases h1 : (decide (65 ≤ (a.toNat : Int)) && decide ((a.toNat : Int) ≤ 90))
  ·rfl
  ·simp only [gd_tt, Bool.true_and]; rw [bnd ix1]; rfl
theorem ref_country (s : ByteArray) : ref06_Country s = some (ctry s) := by
 unfold ref06_Country
 cases h : ((s.size : Int) == 2)
 ·rw [not_two h]; rfl
 ·obtain ⟨a, b, hd⟩ := size_two h
  simp only [Bool.true_and, gd_tt]
  rw [hd]
  simp only [ctry, hd]
  rw [bnd ix0]
  cases h1 : decide (65 ≤ (a.toNat : Int))
  ·rfl
  ·simp only [gd_tt, Bool.true_and]; rw [bnd ix0]
   cases h2 : decide ((a.toNat : Int) ≤ 90)
   ·rfl
   ·simp only [gd_tt, Bool.true_and]; rw [bnd ix1]
    cases h3 : decide (65 ≤ (b.toNat : Int))
    ·rfl
    ·simp only [gd_tt, Bool.true_and]; rw [bnd ix1]
theorem ref_level (s : ByteArray) (hs : s.size ≤ 140737488355328) : ref08_Level s = some (level s) := by
 have hz : s.size = s.data.toList.length := by rw [Array.length_toList]; rfl
 unfold ref08_Level
 obtain ⟨t, h5, h6⟩ := loopF_run (body := fun v1 => cond (decide (v1 < (s.size : Int))) (Option.bind (idx s.data.toList v1) (fun c5 => Option.bind (gd (!(decide ((c5.toNat : Int) < 48))) (idx s.data.toList v1)) (fun c6 => cond ((decide ((c5.toNat : Int) < 48)) || (decide (57 < (c6.toNat : Int)))) (some (.inr (.inr 0))) (some (.inl (IntKind.i64.wrap (v1 + 1))))))) (some (.inr (.inl ()))))
  (fun v : Int => 0 ≤ v ∧ v ≤ s.size ∧ ∀ j, (h : j < s.data.toList.length) → (j : Int) < v → isDig (s.data.toList[j]).toNat = true) (fun v => (s.size : Int).toNat - v.toNat) (fun t : Unit ⊕ Int => (t = .inl () ∧ allDig s = true) ∨ (t = .inr 0 ∧ allDig s = false))
  (fun v hv => by
   obtain ⟨a1, a2, a3⟩ := hv
   by_cases hl : v < (s.size : Int)
   ·rw [decide_eq_true hl]; simp only [cond_true]
    obtain ⟨k, rfl⟩ : ∃ k : Nat, v = (k : Int) := ⟨v.toNat, by omega⟩
    have hk : k < s.data.toList.length := by omega
    rw [bnd (idx_nat hk)]
    by_cases hd : isDig (s.data.toList[k]).toNat = true
    ·left
     have hd2 := hd
     simp only [isDig, decide_eq_true_eq] at hd2
     rw [decide_eq_false (show ¬ ((s.data.toList[k].toNat : Nat) : Int) < 48 by omega)]
     simp only [Bool.not_false, gd_tt, Bool.false_or]
     rw [bnd (idx_nat hk), decide_eq_false (show ¬ 57 < ((s.data.toList[k].toNat : Nat) : Int) by omega)]
     simp only [cond_false]
     rw [i64s (by omega) (by omega)]
     refine ⟨_, rfl, ⟨by omega, by omega, fun j h1 h2 => ?_⟩, by omega⟩
     by_cases hj : j = k
     ·subst hj; exact hd
     ·exact a3 j h1 (by omega)
    ·right
     refine ⟨.inr 0, ?_, .inr ⟨rfl, ?_⟩⟩
     ·have hd2 := hd
      simp only [isDig, decide_eq_true_eq] at hd2
      by_cases h48 : ((s.data.toList[k].toNat : Nat) : Int) < 48
      ·rw [decide_eq_true h48]; rfl
      ·rw [decide_eq_false h48]
       simp only [Bool.not_false, gd_tt, Bool.false_or]
       rw [bnd (idx_nat hk), decide_eq_true (show 57 < ((s.data.toList[k].toNat : Nat) : Int) by omega)]; rfl
     ·cases ha : allDig s
      ·rfl
      ·exfalso; apply hd
       unfold allDig bl at ha
       exact List.all_eq_true.1 ha _ (List.getElem_mem hk)
   ·right
    rw [decide_eq_false hl]
    refine ⟨.inl (), rfl, .inl ⟨rfl, ?_⟩⟩
    unfold allDig bl
    rw [List.all_eq_true]
    intro c hc
    obtain ⟨j, hj, rfl⟩ := List.getElem_of_mem hc
    exact a3 j hj (by omega))
  FUEL 0 ⟨by omega, by omega, fun j _ h => by omega⟩ (fuel_big (by omega))
 rw [bnd h5]
 unfold level
 rcases h6 with ⟨rfl, h⟩ | ⟨rfl, h⟩
 ·simp only [h, and_true]
  by_cases h8 : (8 : Int) < (s.size : Int)
  ·rw [decide_eq_true h8, if_neg (by omega)]; rfl
  ·rw [decide_eq_false h8]
   simp only [Bool.false_or]
   have e : Int.tmod (s.size : Int) 2 = (s.size : Int) % 2 := Int.tmod_eq_emod_of_nonneg (by omega)
   rw [e]
   by_cases hp : (s.size : Int) % 2 = 1
   ·rw [hp, if_neg (by omega)]; rfl
   ·have : ((s.size : Int) % 2 == 1) = false := by simpa using hp
    rw [this]
    by_cases h0 : s.size = 0
    ·rw [if_neg (by omega), h0]; rfl
    ·rw [if_pos (by omega)]; rfl
 ·simp [h]
theorem size_list (s : ByteArray) : s.size = s.data.toList.length := by rw [Array.length_toList]; rfl
def letter (c : UInt8) : Bool := decide (97 ≤ c.toNat) && decide (c.toNat ≤ 122)
def wordB (s : ByteArray) : Bool := decide (1 ≤ s.size) && decide (s.size ≤ 12) && s.data.toList.all letter
theorem ref_word (s : ByteArray) (hs : s.size ≤ 140737488355328) : ref08_Word s = some (wordB s) := by
 unfold ref08_Word wordB
 have hz := size_list s
 rw [hz] at hs ⊢
 generalize s.data.toList = l at hs ⊢
 refine (find_loop (l := l) (by omega) (fun _ c => cond (letter c) none (some (.inr false))) (.inl ()) (fun k hk => ?_) (by simp only [dnlt, cond_false])).trans ?_
 ·simp only [dlt hk, cond_true, idx_nat hk, Option.bind_some, wnext hk (show l.length ≤ 4611686018427387904 by omega), letter]
  generalize l[k] = c
  by_cases h1 : c.toNat < 97
  ·rw [show decide ((c.toNat : Int) < 97) = true from decide_eq_true (by omega), show decide (97 ≤ c.toNat) = false from decide_eq_false (by omega)]; rfl
  ·rw [show decide ((c.toNat : Int) < 97) = false from decide_eq_false (by omega), show decide (97 ≤ c.toNat) = true from decide_eq_true (by omega)]
   simp only [Bool.not_false, gd_tt, Option.bind_some, Bool.false_or, Bool.true_and]
   by_cases h2 : 122 < c.toNat
   ·rw [show decide ((122 : Int) < (c.toNat : Int)) = true from decide_eq_true (by omega), show decide (c.toNat ≤ 122) = false from decide_eq_false (by omega)]; rfl
   ·rw [show decide ((122 : Int) < (c.toNat : Int)) = false from decide_eq_false (by omega), show decide (c.toNat ≤ 122) = true from decide_eq_true (by omega)]; rfl
 ·rw [findS_all]
  have i1 : decide ((1 : Int) ≤ (l.length : Int)) = decide (1 ≤ l.length) := decide_eq_decide.2 (by omega)
  have i2 : decide ((l.length : Int) ≤ (12 : Int)) = decide (l.length ≤ 12) := decide_eq_decide.2 (by omega)
  cases l.all letter
  ·simp
  ·simp [i1, i2]
theorem prog_word (s : ByteArray) (hs : s.size ≤ 140737488355328) : goods_isWord s = some (wordB s) := by
 unfold goods_isWord wordB
 have i1 : decide ((s.size : Int) < 1) = !decide (1 ≤ s.size) := by rw [← decide_not]; exact decide_eq_decide.2 (by omega)
 have i2 : decide ((12 : Int) < (s.size : Int)) = !decide (s.size ≤ 12) := by rw [← decide_not]; exact decide_eq_decide.2 (by omega)
 rw [i1, i2]
 cases h1 : decide (1 ≤ s.size)
 ·rfl
 cases h2 : decide (s.size ≤ 12)
 ·rfl
 simp only [Bool.not_true, Bool.or_self, cond_false, Bool.true_and]
 have key : ∀ n pos N, s.size - pos = n → pos ≤ s.size → n < N → loopF (isWord_body s) N pos = some ((s.data.toList.drop pos).all letter) := by
  intro n
  induction n with
  | zero =>
   intro pos N hn hp hN
   obtain ⟨N, rfl⟩ : ∃ M, N = M + 1 := ⟨N - 1, by omega⟩
   have : Nat.blt pos s.size = false := by cases hb : Nat.blt pos s.size; rfl; simp [Nat.blt] at hb; omega
   rw [loopF_succ, isWord_body, this]
   rw [List.drop_of_length_le (by rw [← size_list]; omega)]; rfl
  | succ n ih =>
   intro pos N hn hp hN
   obtain ⟨N, rfl⟩ : ∃ M, N = M + 1 := ⟨N - 1, by omega⟩
   have hlt : pos < s.size := by omega
   have hb : Nat.blt pos s.size = true := by simp [Nat.blt]; omega
   have hlt2 : pos < s.data.toList.length := by rw [← size_list]; exact hlt
   have hget : s[pos] = s.data.toList[pos] := by
    rw [Array.getElem_toList]; rfl
   rw [loopF_succ, isWord_body, hb, List.drop_eq_getElem_cons hlt2, List.all_cons, ← hget]
   by_cases ha : (s[pos]'hlt).toNat < 128
   ·rw [decode_ascii s pos hlt ha]
    simp only [cond_true, letter]
    by_cases h1 : (s[pos]'hlt).toNat < 97
    ·rw [show decide (((s[pos]'hlt).toNat : Int) < 97) = true from decide_eq_true (by omega), show decide (97 ≤ (s[pos]'hlt).toNat) = false from decide_eq_false (by omega)]; rfl
    ·by_cases h2 : 122 < (s[pos]'hlt).toNat
     ·rw [show decide ((122 : Int) < ((s[pos]'hlt).toNat : Int)) = true from decide_eq_true (by omega), show decide ((s[pos]'hlt).toNat ≤ 122) = false from decide_eq_false (by omega), Bool.or_true, Bool.and_false]; rfl
     ·rw [decide_eq_false (by omega), decide_eq_false (by omega), decide_eq_true (Nat.not_lt.1 h1), decide_eq_true (Nat.not_lt.1 h2)]
      exact ih (pos + 1) N (by omega) (by omega) (by omega)
   ·have hh := decode_high s pos hlt (by omega)
    have h122 : ¬ (s[pos]'hlt).toNat ≤ 122 := by omega
    have : decide (122 < ((Utf8.decode s pos).1 : Int)) = true := decide_eq_true (by omega)
    simp [this, letter, h122]
 have := key s.size 0 FUEL (by omega) (by omega) (fuel_big (by omega))
 rw [this, List.drop_zero]
def ascB (lt : ByteArray → ByteArray → Bool) : List ByteArray → Bool
 | [] => true
 | [_] => true
 | a :: b :: l => lt a b && ascB lt (b :: l)
def okAt (p : ByteArray → Bool) (l : List ByteArray) (k : Nat) (x : ByteArray) : Bool := p x && (!decide (0 < k) || ltS (l.getD (k - 1) x) x)
theorem okAt_all (p : ByteArray → Bool) (l : List ByteArray) : (∀ i x, l[i]? = some x → okAt p l i x = true) ↔ (l.all p && ascB ltS l) = true := by
 have key : ∀ (l : List ByteArray), (∀ i, (h : i + 1 < l.length) → ltS l[i] l[i+1] = true) ↔ ascB ltS l = true := by
  intro l
  induction l with
  | nil => simp [ascB]
  | cons a l ih =>
   cases l with
   | nil => simp [ascB]
   | cons b l =>
    rw [ascB, Bool.and_eq_true, ← ih]
    constructor
    ·intro h; exact ⟨h 0 (by simp), fun i hi => h (i + 1) (by simpa using hi)⟩
    ·rintro ⟨h1, h2⟩ i hi
     cases i with
     | zero => exact h1
     | succ i => exact h2 i (by simpa using hi)
 rw [Bool.and_eq_true, ← key, List.all_eq_true]
 constructor
 ·intro h
  refine ⟨fun x hx => ?_, fun i hi => ?_⟩
  ·obtain ⟨i, hi, rfl⟩ := List.getElem_of_mem hx
   have := h i _ (List.getElem?_eq_getElem hi)
   simp only [okAt, Bool.and_eq_true] at this
   exact this.1
  ·have := h (i + 1) _ (List.getElem?_eq_getElem hi)
   simp only [okAt, Bool.and_eq_true, Nat.zero_lt_succ, decide_true, Bool.not_true, Bool.false_or, Nat.add_sub_cancel] at this
   rw [getD_in (by omega)] at this
   exact this.2
 ·rintro ⟨h1, h2⟩ i x hx
  obtain ⟨hi, rfl⟩ := List.getElem?_eq_some_iff.1 hx
  simp only [okAt, h1 _ (List.getElem_mem hi), Bool.true_and]
  by_cases h0 : 0 < i
  ·rw [decide_eq_true h0, Bool.not_true, Bool.false_or, getD_in (by omega)]
   obtain ⟨j, rfl⟩ : ∃ j, i = j + 1 := ⟨i - 1, by omega⟩
   exact h2 j hi
  ·simp [h0]
theorem findS_bad {T : Type} (p : ByteArray → Bool) (l : List ByteArray) (t : T) : findS (fun k x => cond (okAt p l k x) none (some t)) l 0 = cond (l.all p && ascB ltS l) none (some t) := by
 have hn := findS_none (g := fun k x => cond (okAt p l k x) none (some t)) (l := l) (k := 0)
 cases h : (l.all p && ascB ltS l)
 ·cases hf : findS (fun k x => cond (okAt p l k x) none (some t)) l 0 with
  | none =>
   exfalso
   have : (l.all p && ascB ltS l) = true := by
    rw [← okAt_all]
    intro i x hx
    have := hn.1 hf i x hx
    rw [Nat.zero_add] at this
    cases hk : okAt p l i x
    ·rw [hk] at this; cases this
    ·rfl
   rw [h] at this; cases this
  | some u =>
   have : ∀ (m : List ByteArray) (k : Nat) (u : T), findS (fun k x => cond (okAt p l k x) none (some t)) m k = some u → u = t := by
    intro m
    induction m with
    | nil => intro k u h; cases h
    | cons x m ih =>
     intro k u h
     rw [findS] at h
     cases hk : okAt p l k x
     ·rw [hk] at h; injection h with h; exact h.symm
     ·rw [hk] at h; exact ih _ _ h
   rw [this _ _ _ hf]; rfl
 ·rw [cond_true, hn]
  intro i x hx
  rw [Nat.zero_add, (okAt_all p l).2 h i x hx]; rfl
def wordsB (l : List ByteArray) : Bool := decide (l.length ≤ 8) && (l.all wordB && ascB ltS l)
def StrsOk (l : List ByteArray) : Prop := l.length ≤ 140737488355328 ∧ ∀ s ∈ l, s.size ≤ 140737488355328
theorem prog_words (l : List ByteArray) (hl : StrsOk l) : goods_ValidWords l = some (wordsB l) := by
 obtain ⟨hl, hs⟩ := hl
 unfold goods_ValidWords wordsB
 have i2 : decide ((8 : Int) < (l.length : Int)) = !decide (l.length ≤ 8) := by rw [← decide_not]; exact decide_eq_decide.2 (by omega)
 rw [i2]
 cases decide (l.length ≤ 8)
 ·rfl
 simp only [Bool.not_true, cond_false, Bool.true_and]
 refine (find_loop (l := l) (by omega) (fun k x => cond (okAt wordB l k x) none (some (.inr false))) (.inl ()) (fun k hk => ?_) (by simp only [dnlt, cond_false])).trans ?_
 ·have h62 : l.length ≤ 4611686018427387904 := by omega
  simp only [dlt hk, cond_true, idx_nat hk, Option.bind_some, prog_word _ (hs _ (List.getElem_mem hk)), d0k, wnext hk h62, okAt]
  cases hw : wordB l[k]
  ·rfl
  ·by_cases h0 : 0 < k
   ·simp only [h0, decide_true, Bool.not_true, Bool.not_false, Bool.and_true, Bool.true_and, Bool.false_or, gd_tt, idx_prev h0 hk h62, Option.bind_some, getD_in (show k - 1 < l.length by omega), ltS, str_tot]
    cases Op.bytesLess (l[k-1]'(by omega)).toList l[k].toList <;> rfl
   ·simp only [h0, decide_false, Bool.and_false, gd_ff, Option.bind_some, Bool.not_true, Bool.false_or, Bool.false_and, cond_false, Bool.not_false, Bool.true_and, Bool.true_or, Bool.or_false]; rfl
 ·rw [findS_bad]
  cases (l.all wordB && ascB ltS l) <;> rfl
end SX
end Go.Proofs.YtiijbkaiipjpkaaGreatDoor
set_option maxRecDepth 100000
namespace Go.Proofs.YtiijbkaiipjpkaaGreatDoor
namespace SX
open Go
mutual
def dep : TRule → Nat
 | ⟨_, _, _, _, _, _, l⟩ => 1 + deps l
def deps : List TRule → Nat
 | [] => 0
 | a :: l => max (dep a) (deps l)
end
mutual
def cnt : TRule → Nat
 | ⟨_, _, _, _, _, _, l⟩ => 1 + cnts l
def cnts : List TRule → Nat
 | [] => 0
 | a :: l => cnt a + cnts l
end
theorem dep_eq (r : TRule) : dep r = 1 + deps r.Args := by cases r; rw [dep]
theorem cnt_eq (r : TRule) : cnt r = 1 + cnts r.Args := by cases r; rw [cnt]
theorem dep_mem : ∀ {l : List TRule} {a : TRule}, a ∈ l → dep a ≤ deps l
 | b :: l, a, h => by
  rw [deps]
  rcases List.mem_cons.1 h with rfl | h
  ·omega
  ·have := dep_mem h; omega
theorem dep_arg {r a : TRule} (h : a ∈ r.Args) : dep a < dep r := by rw [dep_eq r]; have := dep_mem h; omega
mutual
theorem dep_cnt : ∀ r : TRule, dep r ≤ cnt r
 | ⟨_, _, _, _, _, _, l⟩ => by rw [dep, cnt]; have := deps_cnts l; omega
theorem deps_cnts : ∀ l : List TRule, deps l ≤ cnts l
 | [] => by rw [deps, cnts]; exact Nat.le_refl _
 | a :: l => by rw [deps, cnts]; have h1 := dep_cnt a; have h2 := deps_cnts l; omega
end
inductive ROk : TRule → Prop
 | mk (r : TRule) (h1 : StrsOk r.Except) (h2 : r.Name.size ≤ 140737488355328) (h3 : r.Args.length ≤ 140737488355328) (h4 : ∀ a ∈ r.Args, ROk a) : ROk r
theorem ROk.ex {r : TRule} (h : ROk r) : StrsOk r.Except := by cases h; assumption
theorem ROk.nm {r : TRule} (h : ROk r) : r.Name.size ≤ 140737488355328 := by cases h; assumption
theorem ROk.len {r : TRule} (h : ROk r) : r.Args.length ≤ 140737488355328 := by cases h; assumption
theorem ROk.arg {r : TRule} (h : ROk r) {a : TRule} (ha : a ∈ r.Args) : ROk a := by cases h with | mk _ _ _ _ h4 => exact h4 a ha
theorem nodes_F (n : Nat) : ∀ (r : TRule) (lim : Nat), ROk r → dep r ≤ n → 1 ≤ lim → lim ≤ 1000 → rule_nodes_F n r (lim : Int) = some ((min (cnt r) lim : Nat) : Int) := by
 induction n with
 | zero => intro r lim _ hd; rw [dep_eq] at hd; omega
 | succ n ih =>
  intro r lim hr hd h1 h2
  have hl := hr.len
  show rule_nodes_B (rule_nodes_F n) r (lim : Int) = _
  unfold rule_nodes_B
  refine (run_loop (l := r.Args) (by omega) (fun i (a : Nat) => ((a : Int), i)) (fun _ x a => cond (Nat.ble lim a) (.inr ()) (.inl (min (a + cnt x) lim))) (fun (a : Nat) => .inl (a : Int)) (fun (_ : Unit) => .inr (lim : Int)) (fun _ a => a ≤ lim) 1 h1 (fun k hk a ha => ⟨?_, fun a' h => ?_⟩) (fun a ha => ?_)).trans ?_
  ·simp only [dlt hk, cond_true, idx_nat hk, Option.bind_some]
   cases hb : Nat.ble lim a
   ·have hlt : a < lim := by rcases Nat.lt_or_ge a lim with h | h; exact h; rw [Nat.ble_eq_true_of_le h] at hb; cases hb
    rw [show decide ((lim : Int) ≤ (a : Int)) = false from decide_eq_false (by omega), i64s (by omega) (by omega), show (lim : Int) - (a : Int) = ((lim - a : Nat) : Int) by omega,
     ih _ (lim - a) (hr.arg (List.getElem_mem hk)) (by have := dep_arg (List.getElem_mem hk); omega) (by omega) (by omega)]
    simp only [cond_false, Option.bind_some, wnext hk (show r.Args.length ≤ 4611686018427387904 by omega), outc]
    rw [i64s (by omega) (by omega), show (a : Int) + ((min (cnt r.Args[k]) (lim - a) : Nat) : Int) = ((min (a + cnt r.Args[k]) lim : Nat) : Int) by omega]
   ·have hle := Nat.le_of_ble_eq_true hb
    rw [show decide ((lim : Int) ≤ (a : Int)) = true from decide_eq_true (by omega)]; rfl
  ·cases hb : Nat.ble lim a
   ·rw [hb] at h; injection h with h; omega
   ·rw [hb] at h; cases h
  ·simp only [dnlt, cond_false]
  ·have key : ∀ (l : List TRule) (i a : Nat), a ≤ lim → outf (fun (a : Nat) => (a : Int)) (fun (_ : Unit) => (lim : Int)) (run (fun _ x a => cond (Nat.ble lim a) (.inr ()) (.inl (min (a + cnt x) lim))) l i a) = ((min (a + cnts l) lim : Nat) : Int) := by
    intro l
    induction l with
    | nil => intro i a ha; rw [cnts]; show (a : Int) = _; omega
    | cons x l ihl =>
     intro i a ha
     rw [run_cons, cnts]
     cases hb : Nat.ble lim a
     ·exact (ihl _ _ (by omega)).trans (by omega)
     ·have hle := Nat.le_of_ble_eq_true hb
      show (lim : Int) = _; omega
   have k2 : ∀ (o : Nat ⊕ Unit), (match (outf (fun (a : Nat) => .inl (a : Int)) (fun (_ : Unit) => .inr (lim : Int)) o : Int ⊕ Int) with | .inl v4 => some v4 | .inr e => some e) = some (outf (fun (a : Nat) => (a : Int)) (fun (_ : Unit) => (lim : Int)) o) := fun o => by cases o <;> rfl
   rw [cnt_eq]
   exact (k2 _).trans (congrArg some (key _ _ _ h1))
theorem refcount_F (n : Nat) : ∀ (r : TRule), ROk r → dep r ≤ n → ref12_Count_F n r = some ((min (cnt r) 33 : Nat) : Int) := by
 induction n with
 | zero => intro r _ hd; rw [dep_eq] at hd; omega
 | succ n ih =>
  intro r hr hd
  have hl := hr.len
  show ref12_Count_B (ref12_Count_F n) r = _
  unfold ref12_Count_B
  refine (run_loop (l := r.Args) (by omega) (fun i (a : Nat) => ((a : Int), i)) (fun _ x a => cond (Nat.ble a 32) (.inl (a + min (cnt x) 33)) (.inr a)) (fun a => (a : Int)) (fun (a : Nat) => (a : Int)) (fun _ a => a ≤ 1000) 1 (by omega) (fun k hk a ha => ⟨?_, fun a' h => ?_⟩) (fun a ha => ?_)).trans ?_
  ·simp only [dlt hk, Bool.true_and, idx_nat hk, Option.bind_some]
   cases hb : Nat.ble a 32
   ·have hlt : 32 < a := by rcases Nat.lt_or_ge 32 a with h | h; exact h; rw [Nat.ble_eq_true_of_le h] at hb; cases hb
    rw [show decide ((a : Int) ≤ 32) = false from decide_eq_false (by omega)]; rfl
   ·have hle := Nat.le_of_ble_eq_true hb
    rw [show decide ((a : Int) ≤ 32) = true from decide_eq_true (by omega), ih _ (hr.arg (List.getElem_mem hk)) (by have := dep_arg (List.getElem_mem hk); omega)]
    simp only [cond_true, Option.bind_some, wnext hk (show r.Args.length ≤ 4611686018427387904 by omega), outc]
    rw [i64s (by omega) (by omega), show (a : Int) + ((min (cnt r.Args[k]) 33 : Nat) : Int) = ((a + min (cnt r.Args[k]) 33 : Nat) : Int) by omega]
  ·cases hb : Nat.ble a 32
   ·rw [hb] at h; cases h
   ·have hle := Nat.le_of_ble_eq_true hb
    rw [hb] at h; injection h with h; omega
  ·simp only [dnlt, Bool.false_and, cond_false]
  ·have key : ∀ (l : List TRule) (i a : Nat), ∃ q : Nat, outf (fun (a : Nat) => (a : Int)) (fun (a : Nat) => (a : Int)) (run (fun _ x a => cond (Nat.ble a 32) (.inl (a + min (cnt x) 33)) (.inr a)) l i a) = (q : Int) ∧ min q 33 = min (a + cnts l) 33 := by
    intro l
    induction l with
    | nil => intro i a; exact ⟨a, rfl, by rw [cnts]; omega⟩
    | cons x l ihl =>
     intro i a
     rw [run_cons, cnts]
     cases hb : Nat.ble a 32
     ·have hlt : 32 < a := by rcases Nat.lt_or_ge 32 a with h | h; exact h; rw [Nat.ble_eq_true_of_le h] at hb; cases hb
      exact ⟨a, rfl, by omega⟩
     ·obtain ⟨q, h1, h2⟩ := ihl (i + 1) (a + min (cnt x) 33)
      exact ⟨q, h1, by omega⟩
   obtain ⟨q, h1, h2⟩ := key r.Args 0 1
   rw [cnt_eq, ← h2, h1]
   congr 1; unfold imin; split <;> omega
def lev (s : ByteArray) : Bool := !(level s == 0)
def codesB (l : List ByteArray) : Bool := decide (l.length ≤ 6) && (l.all lev && ascB ltS l)
def mil (n : Int) : Bool := decide (0 ≤ n) && decide (n ≤ 1000000)
def plainB (r : TRule) : Bool := (r.Kind == 2 || (r.Digits == 0 && r.Except.isEmpty && r.Tolerance == 0)) && (r.Kind == 3 || r.Limit == 0) && (r.Kind == 4 || decide (r.Name = ⟨#[]⟩)) && (r.Kind == 5 || r.Kind == 6 || r.Args.isEmpty)
def leafB (r : TRule) : Bool := cond (r.Kind == 1) true (cond (r.Kind == 2) ((r.Digits == 2 || r.Digits == 4 || r.Digits == 6) && codesB r.Except && mil r.Tolerance) (cond (r.Kind == 3) (mil r.Limit) (cond (r.Kind == 4) (wordB r.Name) false)))
mutual
def ruleB : TRule → Bool
 | ⟨k, d, e, t, m, n, l⟩ => plainB ⟨k, d, e, t, m, n, l⟩ && cond (k == 5 || k == 6) (decide (2 ≤ l.length) && decide (l.length ≤ 6) && rulesB k l) (leafB ⟨k, d, e, t, m, n, l⟩)
def rulesB (k : Int) : List TRule → Bool
 | [] => true
 | a :: l => (!(a.Kind == k) && ruleB a) && rulesB k l
end
theorem rulesB_all (k : Int) : ∀ l : List TRule, rulesB k l = l.all fun a => !(a.Kind == k) && ruleB a
 | [] => by rw [rulesB]; rfl
 | a :: l => by rw [rulesB, rulesB_all k l]; rfl
theorem ruleB_eq (r : TRule) : ruleB r = (plainB r && cond (r.Kind == 5 || r.Kind == 6) (decide (2 ≤ r.Args.length) && decide (r.Args.length ≤ 6) && r.Args.all fun a => !(a.Kind == r.Kind) && ruleB a) (leafB r)) := by
 cases r; rw [ruleB, rulesB_all]
theorem len0 {α : Type} (l : List α) : ((l.length : Int) == 0) = l.isEmpty := by cases l <;> rfl
theorem len0' {α : Type} (l : List α) : decide (0 < (l.length : Int)) = !l.isEmpty := by cases l with
 | nil => rfl
 | cons a l => exact decide_eq_true (by rw [List.length_cons]; omega)
theorem prog_plain (r : TRule) : rule_plain r = some (plainB r) := by
 unfold rule_plain plainB
 rw [len0, len0']
 simp only [bne]
 cases (r.Kind == 2) <;> cases (r.Digits == 0) <;> cases r.Except.isEmpty <;> cases (r.Tolerance == 0) <;> cases (r.Kind == 3) <;> cases (r.Limit == 0) <;> cases (r.Kind == 4) <;> cases decide (r.Name = ⟨#[]⟩) <;> rfl
theorem ref_plain (r : TRule) : ref12_plain r = some (plainB r) := by
 unfold ref12_plain plainB
 rw [len0, len0']
 simp only [bne]
 cases (r.Kind == 2) <;> cases (r.Digits == 0) <;> cases r.Except.isEmpty <;> cases (r.Tolerance == 0) <;> cases (r.Kind == 3) <;> cases (r.Limit == 0) <;> cases (r.Kind == 4) <;> cases decide (r.Name = ⟨#[]⟩) <;> rfl
theorem prog_codes (l : List ByteArray) (hl : StrsOk l) : rule_validCodes l = some (codesB l) := by
 obtain ⟨hl, hs⟩ := hl
 unfold rule_validCodes codesB
 have i2 : decide ((6 : Int) < (l.length : Int)) = !decide (l.length ≤ 6) := by rw [← decide_not]; exact decide_eq_decide.2 (by omega)
 rw [i2]
 cases decide (l.length ≤ 6)
 ·rfl
 simp only [Bool.not_true, cond_false, Bool.true_and]
 refine (find_loop (l := l) (by omega) (fun k x => cond (okAt lev l k x) none (some (.inr false))) (.inl ()) (fun k hk => ?_) (by simp only [dnlt, cond_false])).trans ?_
 ·have h62 : l.length ≤ 4611686018427387904 := by omega
  simp only [dlt hk, cond_true, idx_nat hk, Option.bind_some, show ∀ s, nomenclature_Level s = some (level s) from fun _ => rfl, d0k, wnext hk h62, okAt, lev]
  cases hw : (level l[k] == 0)
  ·by_cases h0 : 0 < k
   ·simp only [h0, decide_true, Bool.not_true, Bool.not_false, Bool.and_true, Bool.true_and, Bool.false_or, gd_tt, idx_prev h0 hk h62, Option.bind_some, getD_in (show k - 1 < l.length by omega), ltS, str_tot]
    cases Op.bytesLess (l[k-1]'(by omega)).toList l[k].toList <;> rfl
   ·simp only [h0, decide_false, Bool.and_false, gd_ff, Option.bind_some, Bool.not_true, Bool.false_or, Bool.false_and, cond_false, Bool.not_false, Bool.true_and, Bool.true_or, Bool.or_false]; rfl
  ·rfl
 ·rw [findS_bad]
  cases (l.all lev && ascB ltS l) <;> rfl
theorem ref_codes (l : List ByteArray) (hl : StrsOk l) {β : Type} (k : Unit ⊕ Bool → Option β) : Option.bind (loopF (S := Int) (T := (Unit) ⊕ (_)) (fun v6 => cond (decide (v6 < (l.length : Int))) (Option.bind (idx l v6) (fun m10 => Option.bind (ref08_Level m10) (fun x11 => Option.bind (gd ((!(x11 == 0)) && (decide (0 < v6))) (idx l (IntKind.i64.wrap (v6 - 1)))) (fun m12 => Option.bind (gd ((!(x11 == 0)) && (decide (0 < v6))) (idx l v6)) (fun m13 => cond ((x11 == 0) || ((decide (0 < v6)) && (!Op.bytesLess m12.toList m13.toList))) (some (.inr (.inr false))) (some (.inl (IntKind.i64.wrap (v6 + 1))))))))) (some (.inr (.inl ())))) FUEL 0) k = k (cond (l.all lev && ascB ltS l) (.inl ()) (.inr false)) := by
 obtain ⟨hl, hs⟩ := hl
 refine (find_loop (l := l) (by omega) (fun k x => cond (okAt lev l k x) none (some (.inr false))) (.inl ()) (fun k hk => ?_) (by simp only [dnlt, cond_false])).trans ?_
 ·have h62 : l.length ≤ 4611686018427387904 := by omega
  simp only [dlt hk, cond_true, idx_nat hk, Option.bind_some, ref_level _ (hs _ (List.getElem_mem hk)), d0k, wnext hk h62, okAt, lev]
  cases hw : (level l[k] == 0)
  ·by_cases h0 : 0 < k
   ·simp only [h0, decide_true, Bool.not_true, Bool.not_false, Bool.and_true, Bool.true_and, Bool.false_or, gd_tt, idx_prev h0 hk h62, Option.bind_some, getD_in (show k - 1 < l.length by omega), ltS]
    cases Op.bytesLess (l[k-1]'(by omega)).toList l[k].toList <;> rfl
   ·simp only [h0, decide_false, Bool.and_false, gd_ff, Option.bind_some, Bool.not_true, Bool.false_or, Bool.false_and, cond_false, Bool.not_false, Bool.true_and, Bool.true_or, Bool.or_false]; rfl
  ·rfl
 ·rw [findS_bad]
  cases (l.all lev && ascB ltS l) <;> rfl
end SX
end Go.Proofs.YtiijbkaiipjpkaaGreatDoor
set_option maxRecDepth 100000
namespace Go.Proofs.YtiijbkaiipjpkaaGreatDoor
namespace SX
open Go
theorem one_word (s : ByteArray) (hs : s.size ≤ 140737488355328) : goods_ValidWords [s] = some (wordB s) := by
 rw [prog_words [s] ⟨by simp, by simpa using hs⟩]
 simp [wordsB, ascB]
theorem valid_F (n : Nat) : ∀ (r : TRule), ROk r → dep r ≤ n → rule_valid_F n r = some (ruleB r) := by
 induction n with
 | zero => intro r _ hd; rw [dep_eq] at hd; omega
 | succ n ih =>
  intro r hr hd
  have hl := hr.len
  show rule_valid_B (rule_valid_F n) r = _
  unfold rule_valid_B
  rw [prog_plain, ruleB_eq, Option.bind_some]
  cases plainB r
  ·rfl
  simp only [Bool.not_true, cond_false, Bool.true_and]
  cases e1 : (r.Kind == 1)
  rotate_left
  ·have := eq_of_beq e1
   simp only [leafB, e1, this]; rfl
  cases e2 : (r.Kind == 2)
  rotate_left
  ·have := eq_of_beq e2
   simp only [leafB, e1, e2, this, cond_true, cond_false]
   rw [prog_codes _ hr.ex]
   show _ = some (_ && codesB r.Except && mil r.Tolerance)
   cases (r.Digits == 2 || r.Digits == 4 || r.Digits == 6)
   ·rfl
   ·simp only [gd_tt, Bool.true_and, Option.bind_some]
    cases codesB r.Except <;> rfl
  cases e3 : (r.Kind == 3)
  rotate_left
  ·have := eq_of_beq e3
   simp only [leafB, e1, e2, e3, this, cond_true, cond_false]; rfl
  cases e4 : (r.Kind == 4)
  rotate_left
  ·have := eq_of_beq e4
   simp only [leafB, e1, e2, e3, e4, this, cond_true, cond_false]
   rw [one_word _ hr.nm]; rfl
  simp only [leafB, e1, e2, e3, e4, cond_false]
  have e56 : (cond (r.Kind == 5) (some (r.Kind == 5)) (some (r.Kind == 6)) : Option Bool) = some (r.Kind == 5 || r.Kind == 6) := by cases (r.Kind == 5) <;> rfl
  rw [e56, Option.bind_some]
  cases (r.Kind == 5 || r.Kind == 6)
  ·rfl
  simp only [cond_true]
  have i1 : decide ((r.Args.length : Int) < 2) = !decide (2 ≤ r.Args.length) := by rw [← decide_not]; exact decide_eq_decide.2 (by omega)
  have i2 : decide ((6 : Int) < (r.Args.length : Int)) = !decide (r.Args.length ≤ 6) := by rw [← decide_not]; exact decide_eq_decide.2 (by omega)
  rw [i1, i2]
  cases decide (2 ≤ r.Args.length)
  ·rfl
  cases decide (r.Args.length ≤ 6)
  ·rfl
  simp only [Bool.not_true, Bool.or_self, cond_false, Bool.true_and]
  refine (find_loop (l := r.Args) (by omega) (fun _ a => cond (!(a.Kind == r.Kind) && ruleB a) none (some (.inr false))) (.inl ()) (fun k hk => ?_) (by simp only [dnlt, cond_false])).trans ?_
  ·simp only [dlt hk, cond_true, idx_nat hk, Option.bind_some, wnext hk (show r.Args.length ≤ 4611686018427387904 by omega)]
   have h2 := ih _ (hr.arg (List.getElem_mem hk)) (by have := dep_arg (List.getElem_mem hk); omega)
   cases (r.Args[k].Kind == r.Kind)
   ·simp only [Bool.not_false, gd_tt, h2, Option.bind_some, Bool.true_and, Bool.false_or]
    cases ruleB r.Args[k] <;> rfl
   ·rfl
  ·rw [findS_all]
   cases (r.Args.all fun a => !(a.Kind == r.Kind) && ruleB a) <;> rfl
theorem right_F (n : Nat) : ∀ (r : TRule), ROk r → dep r ≤ n → ref12_right_F n r = some (ruleB r) := by
 induction n with
 | zero => intro r _ hd; rw [dep_eq] at hd; omega
 | succ n ih =>
  intro r hr hd
  have hl := hr.len
  show ref12_right_B (ref12_right_F n) r = _
  unfold ref12_right_B
  rw [ref_plain, ruleB_eq, Option.bind_some]
  cases plainB r
  ·rfl
  simp only [Bool.not_true, cond_false, Bool.true_and]
  cases e1 : (r.Kind == 1)
  rotate_left
  ·have := eq_of_beq e1
   simp only [leafB, e1, this]; rfl
  cases e2 : (r.Kind == 2)
  rotate_left
  ·have := eq_of_beq e2
   simp only [leafB, e1, e2, this, cond_true, cond_false]
   rw [ref_codes _ hr.ex]
   show _ = some (_ && codesB r.Except && mil r.Tolerance)
   unfold codesB mil
   have i2 : decide ((r.Except.length : Int) ≤ 6) = decide (r.Except.length ≤ 6) := decide_eq_decide.2 (by omega)
   rw [i2]
   cases (r.Except.all lev && ascB ltS r.Except)
   ·cases (r.Digits == 2 || r.Digits == 4 || r.Digits == 6) <;> cases decide (r.Except.length ≤ 6) <;> rfl
   ·cases (r.Digits == 2 || r.Digits == 4 || r.Digits == 6) <;> cases decide (r.Except.length ≤ 6) <;> rfl
  cases e3 : (r.Kind == 3)
  rotate_left
  ·have := eq_of_beq e3
   simp only [leafB, e1, e2, e3, this, cond_true, cond_false]; rfl
  cases e4 : (r.Kind == 4)
  rotate_left
  ·have := eq_of_beq e4
   simp only [leafB, e1, e2, e3, e4, this, cond_true, cond_false]
   rw [ref_word _ hr.nm]; rfl
  simp only [leafB, e1, e2, e3, e4, cond_false]
  have e56 : (cond (r.Kind == 5) (some (r.Kind == 5)) (some (r.Kind == 6)) : Option Bool) = some (r.Kind == 5 || r.Kind == 6) := by cases (r.Kind == 5) <;> rfl
  rw [e56, Option.bind_some]
  cases (r.Kind == 5 || r.Kind == 6)
  ·rfl
  simp only [cond_true]
  have i1 : decide ((2 : Int) ≤ (r.Args.length : Int)) = decide (2 ≤ r.Args.length) := decide_eq_decide.2 (by omega)
  have i2 : decide ((r.Args.length : Int) ≤ (6 : Int)) = decide (r.Args.length ≤ 6) := decide_eq_decide.2 (by omega)
  rw [i1, i2]
  refine (find_loop (l := r.Args) (by omega) (fun _ a => cond (!(a.Kind == r.Kind) && ruleB a) none (some (.inr false))) (.inl ()) (fun k hk => ?_) (by simp only [dnlt, cond_false])).trans ?_
  ·simp only [dlt hk, cond_true, idx_nat hk, Option.bind_some, wnext hk (show r.Args.length ≤ 4611686018427387904 by omega)]
   have h2 := ih _ (hr.arg (List.getElem_mem hk)) (by have := dep_arg (List.getElem_mem hk); omega)
   cases (r.Args[k].Kind == r.Kind)
   ·simp only [Bool.not_false, gd_tt, h2, Option.bind_some, Bool.true_and, Bool.false_or]
    cases ruleB r.Args[k] <;> rfl
   ·rfl
  ·rw [findS_all]
   cases (r.Args.all fun a => !(a.Kind == r.Kind) && ruleB a)
   ·simp
   ·simp
def ruleE (r : TRule) : Int := cond (decide (cnt r ≤ 32)) (cond (ruleB r) 0 1) 8
theorem prog_rule (r : TRule) (hr : ROk r) (hd : dep r ≤ 1000) : rule_Validate r = some (ruleE r) := by
 unfold rule_Validate rule_nodes rule_valid ruleE
 have hf : FUEL = 1267650600228229401496703205376 := rfl
 have h1 := nodes_F FUEL r 33 hr (by rw [hf]; omega) (by omega) (by omega)
 rw [show ((33 : Nat) : Int) = 33 from rfl] at h1
 rw [h1, Option.bind_some, valid_F FUEL r hr (by rw [hf]; omega)]
 by_cases h : cnt r ≤ 32
 ·rw [decide_eq_false (by omega), decide_eq_true h]
  cases ruleB r <;> rfl
 ·rw [decide_eq_true (by omega), decide_eq_false h]; rfl
theorem ref_rule (r : TRule) (hr : ROk r) (hd : dep r ≤ 1000) : ref12_Rule r = some (ruleE r) := by
 unfold ref12_Rule ref12_Count ref12_right ruleE
 have hf : FUEL = 1267650600228229401496703205376 := rfl
 rw [refcount_F FUEL r hr (by rw [hf]; omega), Option.bind_some, right_F FUEL r hr (by rw [hf]; omega)]
 by_cases h : cnt r ≤ 32
 ·rw [decide_eq_false (by omega), decide_eq_true h]
  cases ruleB r <;> rfl
 ·rw [decide_eq_true (by omega), decide_eq_false h]; rfl
theorem ruleE_zero (r : TRule) : ruleE r = 0 ↔ cnt r ≤ 32 ∧ ruleB r = true := by
 unfold ruleE
 by_cases h : cnt r ≤ 32
 ·rw [decide_eq_true h]; cases ruleB r <;> simp [h]
 ·rw [decide_eq_false h]; simp [h]
end SX
end Go.Proofs.YtiijbkaiipjpkaaGreatDoor
set_option maxRecDepth 100000
namespace Go.Proofs.YtiijbkaiipjpkaaGreatDoor
namespace SX
open Go
structure RFOk (x : TRuleFor) : Prop where
 pre : x.Prefix.size ≤ 140737488355328
 rule : ROk x.Rule
 deep : dep x.Rule ≤ 1000
structure AOk (a : TAgreement) : Prop where
 par : StrsOk a.Parties
 len : a.Rules.length ≤ 140737488355328
 rules : ∀ x ∈ a.Rules, RFOk x
structure ASOk (l : List TAgreement) : Prop where
 len : l.length ≤ 140737488355328
 all : ∀ a ∈ l, AOk a
def partiesB (l : List ByteArray) : Bool := l.all ctry && ascB ltS l
def gRule (l : List TRuleFor) (k : Nat) (x : TRuleFor) : Option Int := cond (lev x.Prefix) (cond (decide (0 < k) && !ltS (l.getD (k - 1) x).Prefix x.Prefix) (some 9) (cond (ruleE x.Rule == 0) none (some (ruleE x.Rule)))) (some 1)
def rulesE (l : List TRuleFor) : Int := (findS (gRule l) l 0).getD 0
def gAgr (l : List TAgreement) (k : Nat) (a : TAgreement) : Option Int :=
 cond (decide (a.ID < 1) || decide (1000 < a.ID) || decide (a.Kind < 1) || decide (3 < a.Kind)) (some 2) (cond (decide (0 < k) && decide (a.ID ≤ (l.getD (k - 1) a).ID)) (some 9) (cond (decide (12 < a.Parties.length) || decide (12 < a.Rules.length)) (some 8)
  (cond (partiesB a.Parties) (cond (rulesE a.Rules == 0) none (some (rulesE a.Rules))) (some 1))))
def agrE (l : List TAgreement) : Int := cond (decide (l.length ≤ 8)) ((findS (gAgr l) l 0).getD 0) 8
theorem prog_parties (l : List ByteArray) (hl : StrsOk l) : cumulation_validParties l = some (partiesB l) := by
 obtain ⟨hl, hs⟩ := hl
 unfold cumulation_validParties partiesB
 refine (find_loop (l := l) (by omega) (fun k x => cond (okAt ctry l k x) none (some (.inr false))) (.inl ()) (fun k hk => ?_) (by simp only [dnlt, cond_false])).trans ?_
 ·have h62 : l.length ≤ 4611686018427387904 := by omega
  simp only [dlt hk, cond_true, idx_nat hk, Option.bind_some, valid_country, d0k, wnext hk h62, okAt]
  cases hw : ctry l[k]
  ·rfl
  ·by_cases h0 : 0 < k
   ·simp only [h0, decide_true, Bool.not_true, Bool.not_false, Bool.and_true, Bool.true_and, Bool.false_or, gd_tt, idx_prev h0 hk h62, Option.bind_some, getD_in (show k - 1 < l.length by omega), ltS, str_tot]
    cases Op.bytesLess (l[k-1]'(by omega)).toList l[k].toList <;> rfl
   ·simp only [h0, decide_false, Bool.and_false, gd_ff, Option.bind_some, Bool.not_true, Bool.false_or, Bool.false_and, cond_false, Bool.not_false, Bool.true_and, Bool.true_or, Bool.or_false]; rfl
 ·rw [findS_bad]
  cases (l.all ctry && ascB ltS l) <;> rfl
theorem prog_rulesE (l : List TRuleFor) (hl : l.length ≤ 140737488355328) (hr : ∀ x ∈ l, RFOk x) : cumulation_validateRules l = some (rulesE l) := by
 unfold cumulation_validateRules rulesE
 have h62 : l.length ≤ 4611686018427387904 := by omega
 refine (find_loop (l := l) h62 (fun k x => (gRule l k x).map .inr) (.inl ()) (fun k hk => ?_) (by simp only [dnlt, cond_false])).trans ?_
 ·simp only [dlt hk, cond_true, idx_nat hk, Option.bind_some, show ∀ s, nomenclature_Level s = some (level s) from fun _ => rfl, d0k, wnext hk h62, gRule, lev]
  cases hw : (level l[k].Prefix == 0)
  ·have h2 := prog_rule _ (hr _ (List.getElem_mem hk)).rule (hr _ (List.getElem_mem hk)).deep
   by_cases h0 : 0 < k
   ·simp only [h0, decide_true, Bool.true_and, gd_tt, idx_prev h0 hk h62, Option.bind_some, getD_in (show k - 1 < l.length by omega), ltS, str_tot, Bool.not_false, cond_true, cond_false]
    cases Op.bytesLess (l[k-1]'(by omega)).Prefix.toList l[k].Prefix.toList
    ·rfl
    ·simp only [Bool.not_true, cond_false]
     rw [h2]
     simp only [bne]
     cases hz : (ruleE l[k].Rule == 0) <;> simp [hz, outg]
   ·simp only [h0, decide_false, Bool.false_and, gd_ff, Option.bind_some, cond_false, Bool.not_false, cond_true]
    rw [h2]
    simp only [bne]
    cases hz : (ruleE l[k].Rule == 0) <;> simp [hz, outg]
  ·rfl
 ·have key : ∀ (g : Nat → TRuleFor → Option Int) (m : List TRuleFor) (i : Nat), findS (fun k x => (g k x).map (Sum.inr : Int → Unit ⊕ Int)) m i = (findS g m i).map Sum.inr := by
   intro g m
   induction m with
   | nil => intro i; rfl
   | cons x m ih => intro i; rw [findS, findS]; cases g i x with | none => exact ih _ | some t => rfl
  rw [key]
  cases findS (gRule l) l 0 <;> rfl
theorem findS_map {α T U : Type} (f : T → U) (g : Nat → α → Option T) : ∀ (m : List α) (i : Nat), findS (fun k x => (g k x).map f) m i = (findS g m i).map f
 | [], _ => rfl
 | x :: m, i => by rw [findS, findS]; cases g i x with | none => exact findS_map f g m _ | some t => rfl
theorem prog_agr (l : List TAgreement) (hl : ASOk l) : cumulation_Validate l = some (agrE l) := by
 unfold cumulation_Validate agrE
 have h62 : l.length ≤ 4611686018427387904 := by have := hl.len; omega
 have i1 : decide ((8 : Int) < (l.length : Int)) = !decide (l.length ≤ 8) := by rw [← decide_not]; exact decide_eq_decide.2 (by omega)
 rw [i1]
 cases decide (l.length ≤ 8)
 ·rfl
 simp only [Bool.not_true, cond_false, cond_true]
 refine (find_loop (l := l) h62 (fun k x => (gAgr l k x).map .inr) (.inl ()) (fun k hk => ?_) (by simp only [dnlt, cond_false])).trans ?_
 ·have ha := hl.all _ (List.getElem_mem hk)
  simp only [dlt hk, cond_true, idx_nat hk, Option.bind_some, d0k, wnext hk h62, gAgr]
  have j1 : decide ((12 : Int) < (l[k].Parties.length : Int)) = decide (12 < l[k].Parties.length) := decide_eq_decide.2 (by omega)
  have j2 : decide ((12 : Int) < (l[k].Rules.length : Int)) = decide (12 < l[k].Rules.length) := decide_eq_decide.2 (by omega)
  rw [prog_parties _ ha.par, prog_rulesE _ ha.len ha.rules, j1, j2]
  cases (decide (l[k].ID < 1) || decide (1000 < l[k].ID) || decide (l[k].Kind < 1) || decide (3 < l[k].Kind))
  ·by_cases h0 : 0 < k
   ·simp only [h0, decide_true, Bool.true_and, gd_tt, idx_prev h0 hk h62, Option.bind_some, getD_in (show k - 1 < l.length by omega), cond_false]
    cases decide (l[k].ID ≤ (l[k-1]'(by omega)).ID)
    ·cases (decide (12 < l[k].Parties.length) || decide (12 < l[k].Rules.length))
     ·cases partiesB l[k].Parties
      ·rfl
      ·simp only [cond_false, cond_true, Bool.not_true, bne]
       cases hz : (rulesE l[k].Rules == 0) <;> simp [hz, outg]
     ·rfl
    ·rfl
   ·simp only [h0, decide_false, Bool.false_and, gd_ff, Option.bind_some, cond_false]
    cases (decide (12 < l[k].Parties.length) || decide (12 < l[k].Rules.length))
    ·cases partiesB l[k].Parties
     ·rfl
     ·simp only [cond_false, cond_true, Bool.not_true, bne]
      cases hz : (rulesE l[k].Rules == 0) <;> simp [hz, outg]
    ·rfl
  ·rfl
 ·rw [findS_map]
  cases findS (gAgr l) l 0 <;> rfl
theorem ref_agr (l : List TAgreement) (hl : ASOk l) : ref14_Agreements l = some (agrE l) := by
  unfold ref14_Agreements agrE
  have h62 : l.length ≤ 4611686018427387904 := by have := hl.len; omega
  have i1 : decide ((8 : Int) < (l.length : Int)) = !decide (l.length ≤ 8) := by rw [← decide_not]; exact decide_eq_decide.2 (by omega)
  rw [i1]
  cases decide (l.length ≤ 8)
  · rfl
  simp only [Bool.not_true, cond_false, cond_true]
  refine (find_loop (l := l) h62 (fun k x => (gAgr l k x).map .inr) (.inl ()) (fun k hk => ?_) (by simp only [dnlt, cond_false])).trans ?_
  · have ha := hl.all _ (List.getElem_mem hk)
    simp only [dlt hk, cond_true, idx_nat hk, Option.bind_some, d0k, wnext hk h62, gAgr]
    have j1 : decide ((12 : Int) < (l[k].Parties.length : Int)) = decide (12 < l[k].Parties.length) := decide_eq_decide.2 (by omega)
    have j2 : decide ((12 : Int) < (l[k].Rules.length : Int)) = decide (12 < l[k].Rules.length) := decide_eq_decide.2 (by omega)
    rw [j1, j2]
    have tail : (Option.bind (loopF (S := Int) (T := (Unit) ⊕ (Int ⊕ (Unit ⊕ Int))) (fun v12 => cond (decide (v12 < (l[k].Parties.length : Int))) (Option.bind (idx l[k].Parties v12) (fun m16 => Option.bind (ref06_Country m16) (fun x17 => Option.bind (gd ((!(!x17)) && (decide (0 < v12))) (idx l[k].Parties (IntKind.i64.wrap (v12 - 1)))) (fun m18 => Option.bind (gd ((!(!x17)) && (decide (0 < v12))) (idx l[k].Parties v12)) (fun m19 => cond ((!x17) || ((decide (0 < v12)) && (!Op.bytesLess m18.toList m19.toList))) (some (.inr (.inr (.inr (.inr 1))))) (some (.inl (IntKind.i64.wrap (v12 + 1))))))))) (some (.inr (.inl ())))) FUEL 0)
        (fun q => match q with
          | .inl _ => Option.bind (loopF (S := Int) (T := (Unit) ⊕ (Int ⊕ (Unit ⊕ Int))) (fun v21 => cond (decide (v21 < (l[k].Rules.length : Int))) (Option.bind (idx l[k].Rules v21) (fun m25 => Option.bind (ref08_Level m25.Prefix) (fun x26 => cond (x26 == 0) (some (.inr (.inr (.inr (.inr 1))))) (Option.bind (gd (decide (0 < v21)) (idx l[k].Rules (IntKind.i64.wrap (v21 - 1)))) (fun m28 => Option.bind (gd (decide (0 < v21)) (idx l[k].Rules v21)) (fun m29 => cond ((decide (0 < v21)) && (!Op.bytesLess m28.Prefix.toList m29.Prefix.toList)) (some (.inr (.inr (.inr (.inr 9))))) (Option.bind (idx l[k].Rules v21) (fun m31 => Option.bind (ref12_Rule m31.Rule) (fun x32 => cond (x32 != 0) (some (.inr (.inr (.inr (.inr x32))))) (some (.inl (IntKind.i64.wrap (v21 + 1))))))))))))) (some (.inr (.inl ())))) FUEL 0) (fun q => match q with | .inl _ => some (.inl ((k + 1 : Nat) : Int)) | .inr e => some e)
          | .inr e => some e) : Option (Int ⊕ (Unit ⊕ Int))) = some (outg k ((cond (partiesB l[k].Parties) (cond (rulesE l[k].Rules == 0) none (some (rulesE l[k].Rules))) (some 1)).map .inr)) := by
      obtain ⟨hp, hps⟩ := ha.par
      have hq := ha.len; have hqr := ha.rules
      generalize l[k].Parties = P at hp hps
      generalize l[k].Rules = R at hq hqr
      have hP : P.length ≤ 4611686018427387904 := by omega
      have hR : R.length ≤ 4611686018427387904 := by omega
      refine (find_loop (l := P) hP (fun k x => cond (okAt ctry P k x) none (some (.inr (.inr (.inr 1))))) (.inl ()) (fun k hk => ?_) (by simp only [dnlt, cond_false])).trans ?_
      · simp only [dlt hk, cond_true, idx_nat hk, Option.bind_some, ref_country, d0k, wnext hk hP, okAt]
        cases hw : ctry P[k]
        · rfl
        · by_cases h0 : 0 < k
          · simp only [h0, decide_true, Bool.not_true, Bool.not_false, Bool.and_true, Bool.true_and, Bool.false_or, gd_tt, idx_prev h0 hk hP, Option.bind_some, getD_in (show k - 1 < P.length by omega), ltS]
            cases Op.bytesLess (P[k-1]'(by omega)).toList P[k].toList <;> rfl
          · simp only [h0, decide_false, Bool.and_false, gd_ff, Option.bind_some, Bool.not_true, Bool.false_or, Bool.false_and, cond_false, Bool.not_false, Bool.true_and, Bool.true_or, Bool.or_false]; rfl
      · rw [findS_bad]
        unfold partiesB
        cases (P.all ctry && ascB ltS P)
        · rfl
        simp only [cond_true, Option.getD_none]
        refine (find_loop (l := R) hR (fun k x => (gRule R k x).map fun e => .inr (.inr (.inr e))) (.inl ()) (fun k hk => ?_) (by simp only [dnlt, cond_false])).trans ?_
        · simp only [dlt hk, cond_true, idx_nat hk, Option.bind_some, ref_level _ (hqr _ (List.getElem_mem hk)).pre, d0k, wnext hk hR, gRule, lev]
          cases hw : (level R[k].Prefix == 0)
          · have h2 := ref_rule _ (hqr _ (List.getElem_mem hk)).rule (hqr _ (List.getElem_mem hk)).deep
            by_cases h0 : 0 < k
            · simp only [h0, decide_true, Bool.true_and, gd_tt, idx_prev h0 hk hR, Option.bind_some, getD_in (show k - 1 < R.length by omega), ltS, Bool.not_false, cond_true, cond_false]
              cases Op.bytesLess (R[k-1]'(by omega)).Prefix.toList R[k].Prefix.toList
              · rfl
              · simp only [Bool.not_true, cond_false]
                rw [h2]
                simp only [bne]
                cases hz : (ruleE R[k].Rule == 0) <;> simp [hz, outg]
            · simp only [h0, decide_false, Bool.false_and, gd_ff, Option.bind_some, cond_false, Bool.not_false, cond_true]
              rw [h2]
              simp only [bne]
              cases hz : (ruleE R[k].Rule == 0) <;> simp [hz, outg]
          · rfl
        · rw [findS_map]
          unfold rulesE
          have hne : ∀ e, findS (gRule R) R 0 = some e → (e == 0) = false := by
            have : ∀ (m : List TRuleFor) (i : Nat) (e : Int), findS (gRule R) m i = some e → (e == 0) = false := by
              intro m
              induction m with
              | nil => intro i e h; cases h
              | cons x m ih =>
                intro i e h
                rw [findS] at h
                cases hg : gRule R i x with
                | none => rw [hg] at h; exact ih _ _ h
                | some t =>
                  rw [hg] at h; injection h with h; subst h
                  unfold gRule at hg
                  cases hb : lev x.Prefix
                  · rw [hb] at hg; injection hg with hg; subst hg; rfl
                  · rw [hb] at hg
                    cases h9 : (decide (0 < i) && !ltS (R.getD (i - 1) x).Prefix x.Prefix)
                    · rw [h9] at hg
                      cases hz : (ruleE x.Rule == 0)
                      · rw [hz] at hg; injection hg with hg; subst hg; exact hz
                      · rw [hz] at hg; cases hg
                    · rw [h9] at hg; injection hg with hg; subst hg; rfl
            exact this R 0
          cases hf : findS (gRule R) R 0 with
          | none => rfl
          | some e => simp [hne e hf, outg]
    cases (decide (l[k].ID < 1) || decide (1000 < l[k].ID) || decide (l[k].Kind < 1) || decide (3 < l[k].Kind))
    · by_cases h0 : 0 < k
      · simp only [h0, decide_true, Bool.true_and, gd_tt, idx_prev h0 hk h62, Option.bind_some, getD_in (show k - 1 < l.length by omega), cond_false]
        cases decide (l[k].ID ≤ (l[k-1]'(by omega)).ID)
        · cases (decide (12 < l[k].Parties.length) || decide (12 < l[k].Rules.length))
          · exact tail
          · rfl
        · rfl
      · simp only [h0, decide_false, Bool.false_and, gd_ff, Option.bind_some, cond_false]
        cases (decide (12 < l[k].Parties.length) || decide (12 < l[k].Rules.length))
        · exact tail
        · rfl
    · rfl
  · rw [findS_map]
    cases findS (gAgr l) l 0 <;> rfl
end SX
end Go.Proofs.YtiijbkaiipjpkaaGreatDoor
set_option maxRecDepth 100000
namespace Go.Proofs.YtiijbkaiipjpkaaGreatDoor
namespace SX
open Go
def Y {α : Type} (x : Option α) (P : α → Prop) : Prop := ∃ a, x = some a ∧ P a
section
variable {α β S T : Type} {x y : Option α} {P P' : α → Prop} {Q : β → Prop} {f : α → Option β} {a : α} {c : Bool}
theorem Y.bind (h : Y x P) (k : ∀ a, P a → Y (f a) Q) : Y (x.bind f) Q := by
 obtain ⟨a, h1, h2⟩ := h; rw [h1]; exact k a h2
theorem Y.ret (h : P a) : Y (some a) P := ⟨a, rfl, h⟩
theorem Y.mono (h : Y x P) (k : ∀ a, P a → P' a) : Y x P' := by obtain ⟨a, h1, h2⟩ := h; exact ⟨a, h1, k a h2⟩
theorem Y.cond (h : c = true → Y x P) (k : c = false → Y y P) : Y (cond c x y) P := by cases c; exact k rfl; exact h rfl
theorem Y.eq {r : α} (h : x = some r) (k : Y (f r) Q) : Y (x.bind f) Q := by rw [h]; exact k
theorem Y.loop {body : S → Option (S ⊕ T)} {R : T → Prop} {s : S} (I : S → Prop) (μ : S → Nat) (h0 : I s) (hm : μ s ≤ 1267650600228229401496703205000) (step : ∀ s, I s → Y (body s) (fun o => match o with | .inl s' => I s' ∧ μ s' < μ s | .inr t => R t)) : Y (loopF body FUEL s) R := by
 obtain ⟨t, h1, h2⟩ := loopF_run (body := body) I μ R (fun s hs => by
  obtain ⟨o, k1, k2⟩ := step s hs
  cases o with
  | inl s' => exact .inl ⟨s', k1, k2⟩
  | inr t => exact .inr ⟨t, k1, k2⟩) FUEL s h0 (fuel_big hm)
 exact ⟨t, h1, h2⟩
theorem Y.idx {xs : List α} {i : Int} {n : Nat} (h : i = (n : Int)) (hn : n < xs.length) (k : Y (f xs[n]) Q) : Y ((idx xs i).bind f) Q := by subst h; rw [idx_nat hn]; exact k
theorem Y.gdp [Inhabited α] {z : Option (α × β)} {m : β} {R : α × β → Prop} (h : c = true → Y z R) (k : c = false → R (default, m)) : Y (gdp c z m) R := by
 cases c
 ·exact ⟨_, rfl, k rfl⟩
 ·exact h rfl
end
theorem within_ok (a n : Int) (h1 : 1 ≤ n) (h2 : n ≤ 4611686018427387904) : ∃ r, made_Within a n = some r ∧ 0 ≤ r ∧ r < n := by
 have hl := Int.tmod_lt_of_pos a (show 0 < n by omega)
 have hl2 := Int.tmod_lt_of_pos (-a) (show 0 < n by omega)
 rw [Int.neg_tmod] at hl2
 unfold made_Within nz lb
 rw [if_neg (by omega), i64s (by omega) (by omega)]
 exact ⟨_, rfl, Int.tmod_nonneg _ (by omega), Int.tmod_lt_of_pos _ (by omega)⟩
def SOK (p : Tmade_Source) : Prop := 0 ≤ p.I ∧ p.I ≤ p.L.length ∧ p.L.length ≤ 1000000000000000
theorem next_ok {p : Tmade_Source} (hp : SOK p) (n : Int) (h1 : 1 ≤ n) (h2 : n ≤ 4611686018427387904) : ∃ r q, made_Source_Next p n = some (r, q) ∧ 0 ≤ r ∧ r < n ∧ SOK q := by
 obtain ⟨a1, a2, a3⟩ := hp
 unfold made_Source_Next
 by_cases h : (p.L.length : Int) ≤ p.I
 ·rw [decide_eq_true h]; exact ⟨_, _, rfl, by omega, by omega, a1, a2, a3⟩
 ·rw [decide_eq_false h, i64s (r := p.I + 1) (by omega) (by omega), i64s (by omega) (by omega)]
  simp only [cond_false]
  have e : idx p.L (p.I + 1 - 1) = some (p.L[p.I.toNat]'(by omega)) := by
   unfold idx; rw [if_pos (by omega)]
   have : (p.I + 1 - 1).toNat = p.I.toNat := by omega
   rw [this]; exact List.getElem?_eq_getElem _
  rw [bnd e]
  obtain ⟨r, h3, h4, h5⟩ := within_ok (p.L[p.I.toNat]'(by omega)) n h1 h2
  rw [bnd h3]
  exact ⟨_, _, rfl, h4, h5, by simp only; omega, by simp only; omega, a3⟩
theorem cut_ok (l : List Int) (n : Int) (h : 0 ≤ n) (h2 : n ≤ 1000) : ∃ m, made_Cut l n = some m ∧ (m.length : Int) ≤ n := by
 unfold made_Cut
 by_cases h1 : n < (l.length : Int)
 ·rw [decide_eq_true h1]
  have e : sub l 0 n = some ((l.take n.toNat).drop 0) := by unfold sub; rw [if_pos (by omega)]; rfl
  simp only [cond_true]; rw [bnd e]; exact ⟨_, rfl, by simp; omega⟩
 ·rw [decide_eq_false h1]; exact ⟨_, rfl, by omega⟩
theorem within_Y (a n : Int) (h1 : 1 ≤ n) (h2 : n ≤ 4611686018427387904) : Y (made_Within a n) (fun r => 0 ≤ r ∧ r < n) := within_ok a n h1 h2
theorem next_Y {p : Tmade_Source} (hp : SOK p) (n : Int) (h1 : 1 ≤ n) (h2 : n ≤ 4611686018427387904) : Y (made_Source_Next p n) (fun r => 0 ≤ r.1 ∧ r.1 < n ∧ SOK r.2) := by
 obtain ⟨r, q, h3, h4, h5, h6⟩ := next_ok hp n h1 h2; exact ⟨(r, q), h3, h4, h5, h6⟩
theorem cut_Y (l : List Int) (n : Int) (h : 0 ≤ n) (h2 : n ≤ 1000) : Y (made_Cut l n) (fun m => SOK ⟨m, 0⟩) := by
 obtain ⟨m, h3, h4⟩ := cut_ok l n h h2
 exact ⟨m, h3, by dsimp only; omega, by dsimp only; omega, by dsimp only; omega⟩
theorem rate_Y {p : Tmade_Source} (hp : SOK p) : Y (made_Source_rate p) (fun r => mil r.1 = true ∧ SOK r.2) := by
 unfold made_Source_rate
 refine (next_Y hp 4 (by omega) (by omega)).bind fun a ⟨h1, h2, h3⟩ => ?_
 refine Y.cond (fun _ => ?_) (fun _ => ?_)
 ·refine (next_Y h3 101 (by omega) (by omega)).bind fun b ⟨k1, k2, k3⟩ => Y.ret ⟨?_, k3⟩
  rw [i64s (by omega) (by omega)]; simp only [mil, Bool.and_eq_true, decide_eq_true_eq]; omega
 ·refine (next_Y h3 1000001 (by omega) (by omega)).bind fun b ⟨k1, k2, k3⟩ => Y.ret ⟨?_, k3⟩
  simp only [mil, Bool.and_eq_true, decide_eq_true_eq]; omega
structure Good (r : TRule) (m : Nat) : Prop where
 ok : ROk r
 valid : ruleB r = true
 size : cnt r ≤ m
theorem strs0 : StrsOk [] := ⟨by simp, by simp⟩
theorem rok_leaf {r : TRule} (h1 : StrsOk r.Except) (h2 : r.Name.size ≤ 140737488355328) (h3 : r.Args = []) : ROk r := ⟨r, h1, h2, by rw [h3]; simp, by rw [h3]; simp⟩
theorem cnt_leaf {r : TRule} (h : r.Args = []) : cnt r = 1 := by rw [cnt_eq, h]; rfl
def bnd3 : Nat → Nat
 | 0 => 1
 | d + 1 => 1 + 3 * bnd3 d
theorem bnd3_pos (d : Nat) : 1 ≤ bnd3 d := by cases d <;> simp [bnd3]
theorem cnts_le {m : Nat} : ∀ {l : List TRule}, (∀ a ∈ l, cnt a ≤ m) → cnts l ≤ l.length * m
 | [], _ => by rw [cnts]; omega
 | a :: l, h => by
  rw [cnts, List.length_cons, Nat.add_mul, Nat.one_mul]
  have h1 := h a (by simp); have h2 := cnts_le (l := l) fun b hb => h b (by simp [hb]); omega
theorem leaf_Y {but : Int} (hb : but = 0 ∨ but = 5 ∨ but = 6) {r : TRule} {q : Tmade_Source} {m : Nat} (hm : 1 ≤ m) (hq : SOK q) (h1 : StrsOk r.Except) (h2 : r.Name.size ≤ 140737488355328) (h3 : r.Args = []) (hk : 1 ≤ r.Kind ∧ r.Kind ≤ 4) (hv : ruleB r = true) : Good r m ∧ r.Kind ≠ but ∧ SOK q :=
 ⟨⟨rok_leaf h1 h2 h3, hv, by rw [cnt_leaf h3]; exact hm⟩, by omega, hq⟩
theorem rule_step {d n : Nat} {p : Tmade_Source} {but : Int} (hp : SOK p) (hb : but = 0 ∨ but = 5 ∨ but = 6) (hn : d < n) (hd : d ≤ 10)
    (ih : ∀ d', d = d' + 1 → ∀ (q : Tmade_Source) (but' : Int), SOK q → (but' = 0 ∨ but' = 5 ∨ but' = 6) → Y (made_Source_rule_F (n - 1) q but' (d' : Int)) (fun r => Good r.1 (bnd3 d') ∧ r.1.Kind ≠ but' ∧ SOK r.2)) :
    Y (made_Source_rule_F n p but (d : Int)) (fun r => Good r.1 (bnd3 d) ∧ r.1.Kind ≠ but ∧ SOK r.2) := by
  obtain ⟨n, rfl⟩ : ∃ m, n = m + 1 := ⟨n - 1, by omega⟩
  rw [Nat.add_sub_cancel] at ih
  show Y (made_Source_rule_B (made_Source_rule_F n) p but (d : Int)) _
  unfold made_Source_rule_B
  refine (next_Y hp 8 (by omega) (by omega)).bind fun a ⟨h1, h2, h3⟩ => ?_
  refine Y.cond (fun hc => ?_) (fun hc => ?_)
  · simp only [Bool.and_eq_true, decide_eq_true_eq] at hc
    obtain ⟨d', rfl⟩ : ∃ d', d = d' + 1 := ⟨d - 1, by omega⟩
    have ih := ih d' rfl
    have hm1 : 0 ≤ Int.tmod a.1 2 := Int.tmod_nonneg _ (by omega)
    have hm2 : Int.tmod a.1 2 < 2 := Int.tmod_lt_of_pos _ (by omega)
    refine Y.bind (P := fun k => (k = 5 ∨ k = 6) ∧ k ≠ but) ?_ fun k ⟨hk, hkb⟩ => ?_
    · rw [i64s (by omega) (by omega)]
      refine Y.cond (fun hc => Y.ret ?_) (fun hc => Y.ret ?_)
      · have := eq_of_beq hc; rw [i64s (by omega) (by omega)]; omega
      · have : ¬ 5 + Int.tmod a.1 2 = but := by intro h; rw [h] at hc; simp at hc
        omega
    refine (next_Y h3 2 (by omega) (by omega)).bind fun b ⟨k1, k2, k3⟩ => ?_
    rw [i64s (r := 2 + b.1) (by omega) (by omega)]
    refine Y.bind (P := fun t : List Int × Int × List TRule => SOK ⟨t.1, t.2.1⟩ ∧ (2 ≤ t.2.2.length ∧ t.2.2.length ≤ 3) ∧ ∀ x ∈ t.2.2, Good x (bnd3 d') ∧ x.Kind ≠ k) ?_ fun t ⟨t1, t2, t3⟩ => ?_
    · refine Y.loop (fun s : Int × List Int × Int × List TRule => (0 ≤ s.1 ∧ s.1 + s.2.2.2.length = 2 + b.1) ∧ SOK ⟨s.2.1, s.2.2.1⟩ ∧ ∀ x ∈ s.2.2.2, Good x (bnd3 d') ∧ x.Kind ≠ k) (fun s => s.1.toNat) ⟨⟨by dsimp only; omega, by simp⟩, k3, by simp⟩ (by dsimp only; omega) fun s hs => ?_
      obtain ⟨v, l, i, m⟩ := s
      obtain ⟨⟨s1, s2⟩, s3, s4⟩ := hs
      dsimp only at s1 s2 s3 s4 ⊢
      refine Y.cond (fun hc => ?_) (fun hc => Y.ret ⟨s3, ?_, s4⟩)
      · have hc := of_decide_eq_true hc
        rw [i64s (by omega) (by omega), show ((d' + 1 : Nat) : Int) - 1 = (d' : Int) by omega]
        refine (ih _ k s3 (by omega)).bind fun x ⟨x1, x2, x3⟩ => ?_
        rw [app_ok (by simp; omega) (by simp; omega), Option.bind_some, i64s (by omega) (by omega)]
        refine Y.ret ⟨⟨⟨by dsimp only; omega, by simp; omega⟩, x3, fun z hz => ?_⟩, by dsimp only; omega⟩
        rcases List.mem_append.1 hz with hz | hz
        · exact s4 z hz
        · rw [List.mem_singleton.1 hz]; exact ⟨x1, x2⟩
      · have hc := of_decide_eq_false hc
        dsimp only; omega
    obtain ⟨l, i, m⟩ := t
    dsimp only at t1 t2 t3 ⊢
    refine Y.ret ⟨⟨⟨_, strs0, by simp, by dsimp only; omega, fun z hz => (t3 z hz).1.ok⟩, ?_, ?_⟩, hkb, t1⟩
    · rw [ruleB_eq]
      have e1 : (k == 5 || k == 6) = true := by rcases hk with rfl | rfl <;> rfl
      have e2 : plainB ⟨k, 0, [], 0, 0, ByteArray.empty, m⟩ = true := by rcases hk with rfl | rfl <;> rfl
      rw [e2]
      simp only [e1, cond_true, Bool.true_and, Bool.and_eq_true, decide_eq_true_eq, List.all_eq_true, Bool.not_eq_true', beq_eq_false_iff_ne, ne_eq]
      exact ⟨by omega, fun z hz => ⟨(t3 z hz).2, (t3 z hz).1.valid⟩⟩
    · rw [cnt_eq]
      have := cnts_le fun z hz => (t3 z hz).1.size
      have h3 : m.length * bnd3 d' ≤ 3 * bnd3 d' := Nat.mul_le_mul_right _ t2.2
      dsimp only [bnd3]; omega
  · have hpos := bnd3_pos d
    refine Y.bind (P := fun q : (List Int × Int) ⊕ (TRule × Tmade_Source) => match q with | .inl s => SOK ⟨s.1, s.2⟩ | .inr r => Good r.1 (bnd3 d) ∧ r.1.Kind ≠ but ∧ SOK r.2) ?_ fun q hq => ?_
    · refine Y.cond (fun _ => ?_) fun _ => Y.cond (fun _ => ?_) fun _ => Y.cond (fun _ => ?_) fun _ => Y.ret h3
      · refine (rate_Y h3).bind fun b ⟨k1, k2⟩ => Y.ret (leaf_Y hb hpos k2 strs0 (by simp) rfl ⟨by simp, by simp⟩ ?_)
        rw [ruleB_eq]; simp only [plainB, leafB, k1]; rfl
      · refine (next_Y h3 5 (by omega) (by omega)).bind fun b ⟨k1, k2, k3⟩ => ?_
        obtain ⟨j, hj⟩ : ∃ j : Nat, b.1 = (j : Int) := ⟨b.1.toNat, by omega⟩
        have hj5 : j < 5 := by omega
        refine Y.idx hj hj5 (Y.ret ?_)
        have hw : ∀ j : Nat, (h : j < 5) → wordB [(⟨#[97, 110, 100]⟩ : ByteArray), (⟨#[99, 117, 116]⟩ : ByteArray), (⟨#[111, 114]⟩ : ByteArray), (⟨#[115, 101, 119]⟩ : ByteArray), (⟨#[115, 112, 105, 110]⟩ : ByteArray)][j] = true := by
          intro j h
          match j, h with
          | 0, _ => rfl
          | 1, _ => rfl
          | 2, _ => rfl
          | 3, _ => rfl
          | 4, _ => rfl
        have hw2 := hw j hj5
        refine leaf_Y hb hpos k3 strs0 ?_ rfl ⟨by simp, by simp⟩ ?_
        · have h12 := hw2
          simp only [wordB, Bool.and_eq_true, decide_eq_true_eq] at h12
          dsimp only; omega
        · rw [ruleB_eq]; simp only [plainB, leafB, hw2]; rfl
      · refine (next_Y h3 3 (by omega) (by omega)).bind fun b ⟨k1, k2, k3⟩ => Y.cond (fun _ => Y.ret (leaf_Y hb hpos k3 strs0 (by simp) rfl ⟨by simp, by simp⟩ ?_)) fun _ => Y.ret k3
        rw [ruleB_eq]; rfl
    · cases q with
      | inr r => exact Y.ret hq
      | inl s =>
        obtain ⟨l, i⟩ := s
        dsimp only at hq ⊢
        refine (next_Y hq 3 (by omega) (by omega)).bind fun b ⟨k1, k2, k3⟩ => ?_
        refine (next_Y k3 3 (by omega) (by omega)).bind fun c ⟨c1, c2, c3⟩ => ?_
        refine Y.bind (P := fun t : List Int × Int × List ByteArray => SOK ⟨t.1, t.2.1⟩ ∧ StrsOk t.2.2 ∧ codesB t.2.2 = true) ?_ fun t ⟨t1, t2, t3⟩ => ?_
        · refine Y.cond (fun _ => ?_) fun _ => Y.ret ⟨c3, strs0, rfl⟩
          refine (next_Y c3 2 (by omega) (by omega)).bind fun e ⟨e1, e2, e3⟩ => ?_
          obtain he | he : e.1 = 0 ∨ e.1 = 1 := by omega
          · rw [he]; exact Y.ret ⟨e3, (show StrsOk [(⟨#[57, 52, 48, 49]⟩ : ByteArray), (⟨#[57, 53, 48, 50]⟩ : ByteArray)] from ⟨by decide, by decide⟩), (show codesB [(⟨#[57, 52, 48, 49]⟩ : ByteArray), (⟨#[57, 53, 48, 50]⟩ : ByteArray)] = true by kernel_rfl)⟩
          · rw [he]; exact Y.ret ⟨e3, (show StrsOk [(⟨#[57, 53, 48, 50]⟩ : ByteArray)] from ⟨by decide, by decide⟩), (show codesB [(⟨#[57, 53, 48, 50]⟩ : ByteArray)] = true by kernel_rfl)⟩
        obtain ⟨l2, i2, ex⟩ := t
        dsimp only at t1 t2 t3 ⊢
        refine (next_Y t1 3 (by omega) (by omega)).bind fun e ⟨e1, e2, e3⟩ => ?_
        refine Y.bind (P := fun t : List Int × Int × Int => SOK ⟨t.1, t.2.1⟩ ∧ mil t.2.2 = true) (Y.cond (fun _ => (rate_Y e3).bind fun f ⟨f1, f2⟩ => Y.ret ⟨f2, f1⟩) fun _ => Y.ret ⟨e3, rfl⟩) fun u ⟨u1, u2⟩ => ?_
        obtain ⟨l3, i3, tol⟩ := u
        dsimp only at u1 u2 ⊢
        refine Y.ret (leaf_Y hb hpos u1 t2 (by simp) rfl ⟨by simp, by simp⟩ ?_)
        rw [i64s (r := 2 * b.1) (by omega) (by omega), i64s (by omega) (by omega), ruleB_eq]
        simp only [plainB, leafB, t3, u2]
        obtain hb0 | hb0 | hb0 : b.1 = 0 ∨ b.1 = 1 ∨ b.1 = 2 := by omega
        · rw [hb0]; rfl
        · rw [hb0]; rfl
        · rw [hb0]; rfl
theorem rule_Y (d : Nat) : ∀ (n : Nat) (p : Tmade_Source) (but : Int), d < n → d ≤ 10 → SOK p → (but = 0 ∨ but = 5 ∨ but = 6) → Y (made_Source_rule_F n p but (d : Int)) (fun r => Good r.1 (bnd3 d) ∧ r.1.Kind ≠ but ∧ SOK r.2) := by
  induction d with
  | zero => exact fun n p but h1 h2 hp hb => rule_step hp hb h1 (by omega) (fun d h => absurd h (by omega))
  | succ d ih => exact fun n p but h1 h2 hp hb => rule_step hp hb h1 (by omega) (fun d' h q but' hq hb' => by
      obtain rfl : d' = d := by omega
      exact ih _ q but' (by omega) (by omega) hq hb')
end SX
end Go.Proofs.YtiijbkaiipjpkaaGreatDoor
set_option maxRecDepth 100000
namespace Go.Proofs.YtiijbkaiipjpkaaGreatDoor
namespace SX
open Go
theorem ltS_tr (x y z : ByteArray) (h1 : ltS x y = true) (h2 : ltS y z = true) : ltS x z = true := by
 rw [ltS_eq] at *; exact decide_eq_true (List.lt_trans (of_decide_eq_true h1) (of_decide_eq_true h2))
theorem ascB_iff : ∀ l : List ByteArray, ascB ltS l = true ↔ l.Pairwise (fun a b => ltS a b = true)
 | [] => by simp [ascB]
 | [a] => by simp [ascB]
 | a :: b :: l => by
  rw [ascB, Bool.and_eq_true, ascB_iff (b :: l)]
  constructor
  ·rintro ⟨h1, h2⟩
   refine List.pairwise_cons.2 ⟨fun c hc => ?_, h2⟩
   rcases List.mem_cons.1 hc with rfl | hc
   ·exact h1
   ·exact ltS_tr _ _ _ h1 ((List.pairwise_cons.1 h2).1 c hc)
  ·intro h; obtain ⟨h1, h2⟩ := List.pairwise_cons.1 h; exact ⟨h1 b (by simp), h2⟩
theorem sublist_take {α : Type} {l C : List α} {v : Nat} (h : l.Sublist (C.take v)) (hv : v < C.length) : (l ++ [C[v]]).Sublist (C.take (v + 1)) ∧ l.Sublist (C.take (v + 1)) := by
 have e : C.take (v + 1) = C.take v ++ [C[v]] := by rw [List.take_add_one, List.getElem?_eq_getElem hv]; rfl
 rw [e]
 exact ⟨h.append (List.Sublist.refl _), h.trans (List.sublist_append_left _ _)⟩
def C6 : List ByteArray := [(⟨#[65, 65]⟩ : ByteArray), (⟨#[66, 66]⟩ : ByteArray), (⟨#[67, 67]⟩ : ByteArray), (⟨#[68, 68]⟩ : ByteArray), (⟨#[69, 69]⟩ : ByteArray), (⟨#[70, 70]⟩ : ByteArray)]
def P5 : List ByteArray := [(⟨#[57, 52]⟩ : ByteArray), (⟨#[57, 52, 48, 49]⟩ : ByteArray), (⟨#[57, 52, 48, 49, 48, 50]⟩ : ByteArray), (⟨#[57, 53]⟩ : ByteArray), (⟨#[57, 53, 48, 50]⟩ : ByteArray)]
theorem C6_ok : C6.all ctry = true ∧ ascB ltS C6 = true ∧ (C6.all fun s => decide (s.size ≤ 100)) = true := ⟨by kernel_rfl, by kernel_rfl, by kernel_rfl⟩
theorem P5_ok : P5.all lev = true ∧ ascB ltS P5 = true ∧ (P5.all fun s => decide (s.size ≤ 100)) = true := ⟨by kernel_rfl, by kernel_rfl, by kernel_rfl⟩
structure MA (i : Nat) (a : TAgreement) : Prop where
 id : a.ID = 2 + 5 * (i : Int)
 kind : 1 ≤ a.Kind ∧ a.Kind ≤ 3
 par : a.Parties.Sublist C6
 pre : (a.Rules.map (·.Prefix)).Sublist P5
 good : ∀ x ∈ a.Rules, Good x.Rule (bnd3 1)
 ne : a.Rules ≠ []
structure MAs (l : List TAgreement) : Prop where
 len : 1 ≤ l.length ∧ l.length ≤ 4
 all : ∀ (i : Nat) (a : TAgreement), l[i]? = some a → MA i a
theorem P5_len {a : TAgreement} (h : (a.Rules.map (·.Prefix)).Sublist P5) : a.Rules.length ≤ 5 := by have := h.length_le; simpa [P5] using this
theorem MA.strs {i : Nat} {a : TAgreement} (h : MA i a) : StrsOk a.Parties := by
 refine ⟨?_, fun s hs => ?_⟩
 ·have := h.par.length_le; have h6 : C6.length = 6 := rfl; omega
 ·have := of_decide_eq_true (List.all_eq_true.1 C6_ok.2.2 s (h.par.subset hs)); omega
theorem MA.aok {i : Nat} {a : TAgreement} (h : MA i a) : AOk a := by
 refine ⟨h.strs, by have := P5_len h.pre; omega, fun x hx => ?_⟩
 have hp := of_decide_eq_true (List.all_eq_true.1 P5_ok.2.2 x.Prefix (h.pre.subset (List.mem_map_of_mem hx)))
 have hg := h.good x hx
 exact ⟨by omega, hg.ok, by have h1 := dep_cnt x.Rule; have h2 := hg.size; simp only [bnd3] at h2; omega⟩
theorem MAs.ok {l : List TAgreement} (h : MAs l) : ASOk l := ⟨by have := h.len; omega, fun a ha => by
 obtain ⟨i, hi, rfl⟩ := List.getElem_of_mem ha; exact (h.all i _ (List.getElem?_eq_getElem hi)).aok⟩
theorem MA.parties {i : Nat} {a : TAgreement} (h : MA i a) : partiesB a.Parties = true := by
 unfold partiesB
 rw [Bool.and_eq_true]
 refine ⟨List.all_eq_true.2 fun s hs => List.all_eq_true.1 C6_ok.1 s (h.par.subset hs), ?_⟩
 rw [ascB_iff]; exact List.Pairwise.sublist h.par ((ascB_iff _).1 C6_ok.2.1)
theorem MA.rulesE {i : Nat} {a : TAgreement} (h : MA i a) : rulesE a.Rules = 0 := by
 have : findS (gRule a.Rules) a.Rules 0 = none := by
  rw [findS_none]
  intro k x hx
  obtain ⟨hk, rfl⟩ := List.getElem?_eq_some_iff.1 hx
  have hmem : a.Rules[k] ∈ a.Rules := List.getElem_mem hk
  have h1 := List.all_eq_true.1 P5_ok.1 _ (h.pre.subset (List.mem_map_of_mem hmem))
  have hg := h.good _ hmem
  have h2 : ruleE a.Rules[k].Rule = 0 := (ruleE_zero _).2 ⟨by have := hg.size; simp only [bnd3] at this; omega, hg.valid⟩
  unfold gRule
  rw [Nat.zero_add, h1, h2]
  have hpw := List.Pairwise.sublist h.pre ((ascB_iff _).1 P5_ok.2.1)
  by_cases h0 : 0 < k
  ·rw [getD_in (show k - 1 < a.Rules.length by omega)]
   have := (List.pairwise_iff_getElem.1 (List.pairwise_map.1 hpw)) (k - 1) k (by omega) hk (by omega)
   rw [this]; simp
  ·simp [h0]
 unfold SX.rulesE; rw [this]; rfl
theorem MAs.valid {l : List TAgreement} (h : MAs l) : agrE l = 0 := by
 have : findS (gAgr l) l 0 = none := by
  rw [findS_none]
  intro k x hx
  obtain ⟨hk, rfl⟩ := List.getElem?_eq_some_iff.1 hx
  have hm := h.all k _ hx
  have hl := h.len
  unfold gAgr
  rw [Nat.zero_add, hm.parties, hm.rulesE]
  have i1 : (decide (l[k].ID < 1) || decide (1000 < l[k].ID) || decide (l[k].Kind < 1) || decide (3 < l[k].Kind)) = false := by
   have e1 := hm.id; have e2 := hm.kind
   rw [decide_eq_false (by omega), decide_eq_false (by omega), decide_eq_false (by omega), decide_eq_false (by omega)]; rfl
  have i2 : (decide (12 < l[k].Parties.length) || decide (12 < l[k].Rules.length)) = false := by
   have e1 := hm.par.length_le; have e2 := P5_len hm.pre; have h6 : C6.length = 6 := rfl
   rw [decide_eq_false (by omega), decide_eq_false (by omega)]; rfl
  rw [i1, i2]
  by_cases h0 : 0 < k
  ·rw [getD_in (show k - 1 < l.length by omega)]
   have hm2 := h.all (k - 1) _ (List.getElem?_eq_getElem (by omega))
   have e1 := hm.id; have e2 := hm2.id
   rw [decide_eq_false (show ¬ l[k].ID ≤ (l[k-1]'(by omega)).ID by omega)]; simp
  ·simp [h0]
 unfold agrE
 rw [decide_eq_true (by have := h.len; omega), this]; rfl
theorem countries_ok : made_Countries = some C6 := rfl
def bitI (m : Int) (v : Int) : Bool := iand .i64 (ishr .i64 m v) 1 == 1
theorem some_bit : ((List.range 31).all fun m => (List.range 5).any fun v => bitI ((m + 1 : Nat) : Int) (v : Int)) = true := by kernel_rfl
theorem has_bit {m : Int} (h1 : 1 ≤ m) (h2 : m ≤ 31) : ∃ v : Nat, v < 5 ∧ bitI m (v : Int) = true := by
 have := List.all_eq_true.1 some_bit (m.toNat - 1) (List.mem_range.2 (by omega))
 obtain ⟨v, hv, h⟩ := List.any_eq_true.1 this
 rw [show ((m.toNat - 1 + 1 : Nat) : Int) = m by omega] at h
 exact ⟨v, List.mem_range.1 hv, h⟩
theorem ge0_nat (v : Nat) : ge0 (v : Int) = some () := by unfold ge0; rw [if_pos (by omega)]
theorem parties_Y {c : Int → Bool} : Y (loopF (S := Int × (List ByteArray)) (T := ((List ByteArray))) (fun (v22, l24) => cond (decide (v22 < 6)) (Option.bind (Option.bind (ge0 v22) (fun _ => cond (c v22) (Option.bind (made_Countries) (fun x44 => Option.bind (idx x44 v22) (fun m45 => Option.bind (app 16 l24 [m45]) (fun l48 => some l48)))) (some l24))) (fun l40 => some (.inl ((IntKind.i64.wrap (v22 + 1)), l40)))) (some (.inr l24))) FUEL (0, ([] : List ByteArray))) (fun l => l.Sublist C6) := by
 refine Y.loop (fun s => ∃ v : Nat, s.1 = (v : Int) ∧ v ≤ 6 ∧ s.2.Sublist (C6.take v)) (fun s => (6 - s.1).toNat) ⟨0, rfl, by omega, List.Sublist.refl _⟩ (by dsimp only; omega) fun s hs => ?_
 obtain ⟨i, l⟩ := s
 obtain ⟨v, rfl, h1, h2⟩ := hs
 dsimp only at h2 ⊢
 have hlen : l.length ≤ 6 := by have := h2.length_le; have h6 : C6.length = 6 := rfl; rw [List.length_take] at this; omega
 refine Y.cond (fun hc => ?_) (fun hc => Y.ret (h2.trans (List.take_sublist _ _)))
 have hv : v < 6 := by have := of_decide_eq_true hc; omega
 have hs := sublist_take h2 (show v < C6.length from hv)
 refine Y.bind (P := fun m : List ByteArray => m.Sublist (C6.take (v + 1))) (Y.eq (ge0_nat v) (Y.cond (fun _ => ?_) fun _ => Y.ret hs.2)) fun m hm => Y.ret ⟨⟨v + 1, ?_, by omega, hm⟩, ?_⟩
 ·refine Y.eq countries_ok (Y.idx rfl (show v < C6.length from hv) ?_)
  rw [app_ok (by simp; omega) (by simp; omega)]; exact Y.ret hs.1
 ·show IntKind.i64.wrap ((v : Int) + 1) = _; rw [i64s (by omega) (by omega)]; omega
 ·show (6 - IntKind.i64.wrap ((v : Int) + 1)).toNat < (6 - (v : Int)).toNat; rw [i64s (by omega) (by omega)]; omega
theorem agreements_Y (p0 : List Int) : Y (made_Agreements p0) MAs := by
 unfold made_Agreements
 refine (cut_Y p0 200 (by omega) (by omega)).bind fun x1 hx1 => ?_
 refine (next_Y hx1 4 (by omega) (by omega)).bind fun x3 ⟨a1, a2, a3⟩ => ?_
 rw [i64s (r := 1 + x3.1) (by omega) (by omega)]
 refine Y.bind (P := MAs) ?_ fun l hl => Y.ret hl
 refine Y.loop (fun s : List TAgreement × Int × List Int × Int => (s.2.1 = (s.1.length : Int) ∧ s.2.1 ≤ 1 + x3.1) ∧ SOK ⟨s.2.2.1, s.2.2.2⟩ ∧ ∀ i a, s.1[i]? = some a → MA i a) (fun s => (1 + x3.1 - s.2.1).toNat) ⟨⟨rfl, by dsimp only; omega⟩, a3, by simp⟩ (by dsimp only; omega) fun s hs => ?_
 obtain ⟨l5, v8, l9, v10⟩ := s
 obtain ⟨⟨h1, h2⟩, h3, h4⟩ := hs
 dsimp only at h1 h2 h3 h4 ⊢
 refine Y.cond (fun hc => ?_) (fun hc => Y.ret ⟨?_, h4⟩)
 rotate_left
 ·have hc := of_decide_eq_false hc; omega
 have hc := of_decide_eq_true hc
 refine (next_Y h3 3 (by omega) (by omega)).bind fun x19 ⟨b1, b2, b3⟩ => ?_
 refine (next_Y b3 64 (by omega) (by omega)).bind fun x21 ⟨c1, c2, c3⟩ => ?_
 refine (parties_Y (c := fun v => iand .i64 (ishr .i64 (ior .i64 x21.1 3) v) 1 == 1)).bind fun l31 hl31 => ?_
 refine Y.bind (P := fun r : Int × Tmade_Source => SOK r.2) (Y.gdp (fun _ => (next_Y c3 2 (by omega) (by omega)).mono fun r hr => hr.2.2) fun _ => c3) fun x53 hx53 => ?_
 refine Y.bind (P := fun t : List Int × Int × List TRuleFor => SOK ⟨t.1, t.2.1⟩ ∧ (t.2.2.map (·.Prefix)).Sublist P5 ∧ (∀ x ∈ t.2.2, Good x.Rule (bnd3 1)) ∧ t.2.2 ≠ []) ?_ fun t ⟨t1, t2, t3, t4⟩ => ?_
 ·refine Y.cond (fun hc2 => ?_) fun hc2 => ?_
  ·simp only [Bool.and_eq_true, decide_eq_true_eq] at hc2
   obtain ⟨j, hj⟩ : ∃ j : Nat, v8 - 1 = (j : Int) := ⟨(v8 - 1).toNat, by omega⟩
   refine Y.idx (n := j) (by rw [i64s (by omega) (by omega)]; exact hj) (show j < l5.length by omega) ?_
   have := h4 j _ (List.getElem?_eq_getElem (by omega))
   exact Y.ret ⟨hx53, this.pre, this.good, this.ne⟩
  ·refine (next_Y hx53 31 (by omega) (by omega)).bind fun x64 ⟨d1, d2, d3⟩ => ?_
   refine Y.bind (P := fun t : List Int × Int × List TRuleFor => SOK ⟨t.1, t.2.1⟩ ∧ (t.2.2.map (·.Prefix)).Sublist P5 ∧ (∀ x ∈ t.2.2, Good x.Rule (bnd3 1)) ∧ t.2.2 ≠ []) ?_ fun t ht => Y.ret ht
   refine Y.loop (fun s : Int × List Int × Int × List TRuleFor => ∃ v : Nat, s.1 = (v : Int) ∧ v ≤ 5 ∧ SOK ⟨s.2.1, s.2.2.1⟩ ∧ (s.2.2.2.map (·.Prefix)).Sublist (P5.take v) ∧ (∀ x ∈ s.2.2.2, Good x.Rule (bnd3 1)) ∧ (s.2.2.2 ≠ [] ∨ ∀ u : Nat, u < v → bitI (1 + x64.1) (u : Int) = false)) (fun s => (5 - s.1).toNat) ⟨0, rfl, by omega, d3, List.Sublist.refl _, by simp, .inr (fun u hu => absurd hu (Nat.not_lt_zero _))⟩ (by dsimp only; omega) fun s hs => ?_
   obtain ⟨i, l, k, m⟩ := s
   obtain ⟨v, rfl, e1, e2, e3, e4, e5⟩ := hs
   dsimp only at e2 e3 e4 e5 ⊢
   have hlen : m.length ≤ 5 := by have := e3.length_le; have h6 : P5.length = 5 := rfl; rw [List.length_take, List.length_map] at this; omega
   refine Y.cond (fun hc3 => ?_) (fun hc3 => Y.ret ⟨e2, e3.trans (List.take_sublist _ _), e4, ?_⟩)
   rotate_left
   ·have h5 : v = 5 := by have := of_decide_eq_false hc3; omega
    rcases e5 with e5 | e5
    ·exact e5
    ·obtain ⟨u, hu, hb⟩ := has_bit (m := 1 + x64.1) (by omega) (by omega)
     rw [e5 u (by omega)] at hb; cases hb
   have hv : v < 5 := by have := of_decide_eq_true hc3; omega
   have hs := sublist_take e3 (show v < P5.length from hv)
   refine Y.bind (P := fun t : List Int × Int × List TRuleFor => SOK ⟨t.1, t.2.1⟩ ∧ (t.2.2.map (·.Prefix)).Sublist (P5.take (v + 1)) ∧ (∀ x ∈ t.2.2, Good x.Rule (bnd3 1)) ∧ (t.2.2 ≠ [] ∨ ∀ u : Nat, u < v + 1 → bitI (1 + x64.1) (u : Int) = false)) (Y.eq (ge0_nat v) (Y.cond (fun _ => ?_) fun hbit => Y.ret ⟨e2, hs.2, e4, ?_⟩)) fun t ⟨t1, t2, t3, t4⟩ => Y.ret ⟨⟨v + 1, ?_, by omega, t1, t2, t3, t4⟩, ?_⟩
   ·refine Y.idx (xs := P5) rfl (show v < P5.length from hv) ?_
    refine (rule_Y 1 FUEL ⟨l, k⟩ 0 (fuel_big (by omega)) (by omega) e2 (.inl rfl)).bind fun r ⟨r1, r2, r3⟩ => ?_
    rw [app_ok (by simp; omega) (by simp; omega)]
    refine Y.ret ⟨r3, by rw [List.map_append]; exact hs.1, fun z hz => ?_, .inl (by simp)⟩
    rcases List.mem_append.1 hz with hz | hz
    ·exact e4 z hz
    ·rw [List.mem_singleton.1 hz]; exact r1
   ·rcases e5 with e5 | e5
    ·exact .inl e5
    ·refine .inr fun u hu => ?_
     rcases Nat.lt_or_ge u v with h | h
     ·exact e5 u h
     ·obtain rfl : u = v := by omega
      rw [i64s (by omega) (by omega)] at hbit; exact hbit
   ·show IntKind.i64.wrap ((v : Int) + 1) = _; rw [i64s (by omega) (by omega)]; omega
   ·show (5 - IntKind.i64.wrap ((v : Int) + 1)).toNat < (5 - (v : Int)).toNat; rw [i64s (by omega) (by omega)]; omega
 obtain ⟨l55, v56, l58⟩ := t
 dsimp only at t1 t2 t3 ⊢
 rw [app_ok (by simp; omega) (by simp; omega), Option.bind_some, i64s (r := v8 + 1) (by omega) (by omega), i64s (r := 1 + x19.1) (by omega) (by omega), i64s (r := 5 * v8) (by omega) (by omega), i64s (by omega) (by omega)]
 refine Y.ret ⟨⟨⟨by simp; omega, by dsimp only; omega⟩, t1, fun i a ha => ?_⟩, by dsimp only; omega⟩
 rw [List.getElem?_append] at ha
 split at ha
 ·exact h4 i a ha
 ·rename_i hi
  have hi0 : i - l5.length = 0 := by have := (List.getElem?_eq_some_iff.1 ha).1; simp at this; omega
  rw [hi0] at ha
  simp only [List.getElem?_cons_zero, Option.some.injEq] at ha
  subst ha
  exact ⟨by dsimp only; omega, ⟨by dsimp only; omega, by dsimp only; omega⟩, hl31, t2, t3, t4⟩
end SX
end Go.Proofs.YtiijbkaiipjpkaaGreatDoor
set_option maxRecDepth 100000
namespace Go.Proofs.YtiijbkaiipjpkaaGreatDoor
namespace SX
open Go
structure RawA (a : TAgreement) : Prop where
 par : StrsOk a.Parties
 len : a.Rules.length ≤ 140737488355328
 rules : ∀ x ∈ a.Rules, x.Prefix.size ≤ 140737488355328 ∧ ROk x.Rule
theorem deps_le {m : Nat} : ∀ {l : List TRule}, (∀ a ∈ l, dep a ≤ m) → deps l ≤ m
 | [], _ => by rw [deps]; omega
 | a :: l, h => by rw [deps]; have h1 := h a (by simp); have h2 := deps_le (l := l) fun b hb => h b (by simp [hb]); omega
theorem map_Y {α : Type} {L : List α} (hL : L.length ≤ 4611686018427387904) {body : List α × Int → Option ((List α × Int) ⊕ List α)} (P Q : α → Prop) (hP : ∀ x ∈ L, P x)
    (step : ∀ (l : List α) (k : Nat) (hk : k < l.length), l.length = L.length → P l[k] → Y (body (l, (k : Int))) (fun o => ∃ y, Q y ∧ o = .inl (l.set k y, ((k + 1 : Nat) : Int))))
    (hend : ∀ l, l.length = L.length → body (l, (L.length : Int)) = some (.inr l)) : Y (loopF body FUEL (L, 0)) (fun r => r.length = L.length ∧ ∀ x ∈ r, Q x) := by
  refine Y.loop (fun s => ∃ v : Nat, s.2 = (v : Int) ∧ v ≤ L.length ∧ s.1.length = L.length ∧ (∀ (i : Nat) (x : α), s.1[i]? = some x → i < v → Q x) ∧ (∀ (i : Nat) (x : α), s.1[i]? = some x → v ≤ i → P x)) (fun s => L.length - s.2.toNat) ⟨0, rfl, by omega, rfl, by omega, fun i x hx _ => hP x (List.mem_of_getElem? hx)⟩ (by dsimp only; omega) fun s hs => ?_
  obtain ⟨l, i⟩ := s
  obtain ⟨v, rfl, h1, h2, h3, h4⟩ := hs
  dsimp only at h2 h3 h4 ⊢
  rcases Nat.lt_or_ge v L.length with hv | hv
  · have hk : v < l.length := by omega
    refine (step l v hk h2 (h4 v _ (List.getElem?_eq_getElem hk) (Nat.le_refl _))).mono fun o ⟨y, hy, ho⟩ => ?_
    subst ho
    refine ⟨⟨v + 1, rfl, by omega, by simp [h2], fun i x hx hi => ?_, fun i x hx hi => ?_⟩, by dsimp only; omega⟩
    · rw [List.getElem?_set] at hx
      split at hx
      · injection hx with hx; exact hx ▸ hy
      · exact h3 i x hx (by omega)
    · rw [List.getElem?_set] at hx
      rw [if_neg (by omega)] at hx
      exact h4 i x hx (by omega)
  · have e : v = L.length := by omega
    subst e
    rw [hend l h2]
    refine Y.ret ⟨h2, fun x hx => ?_⟩
    obtain ⟨i, hi, rfl⟩ := List.getElem_of_mem hx
    exact h3 i _ (List.getElem?_eq_getElem hi) (by omega)
theorem app_nil_ok {α : Type} {b : Nat} {l : List α} (h : l.length ≤ 1000000000) (hb : b ≤ 1000) : app b ([] : List α) l = some l := by
 have := Nat.mul_le_mul h hb
 exact app_ok (by simpa using (by omega : l.length * b ≤ 140737488355328)) (by simp; omega)
theorem pruned_Y (d : Nat) : ∀ (n : Nat) (r : TRule), d < n → d ≤ 100 → ROk r → Y (made_Pruned_F n r (d : Int)) (fun r' => ROk r' ∧ dep r' ≤ d + 1) := by
 induction d with
 | zero =>
  intro n r hn hd hr
  obtain ⟨n, rfl⟩ : ∃ m, n = m + 1 := ⟨n - 1, by omega⟩
  show Y (made_Pruned_B (made_Pruned_F n) r 0) _
  unfold made_Pruned_B
  rw [show decide ((5 : Int) ≤ 0) = false from rfl, show decide ((0 : Int) < 1) = true from rfl]
  simp only [cond_false, cond_true, Option.bind_some]
  rw [sub_pre _ _ (by omega)]
  simp only [Option.bind_some]
  rw [show (0 : Int).toNat = 0 from rfl, List.take_zero, app_nil_ok (by simp) (by omega), Option.bind_some]
  refine Y.bind (map_Y (L := ([] : List TRule)) (by simp) (fun _ => True) (fun _ => False) (by simp) (fun l k hk hl _ => by simp at hl; simp [hl] at hk) (fun l hl => by simp only [List.length_nil]; rfl)) fun l ⟨h1, h2⟩ => Y.ret ⟨?_, ?_⟩
  ·exact ⟨_, hr.ex, hr.nm, by dsimp only; simp at h1; simp [h1], fun a ha => (h2 a ha).elim⟩
  ·rw [dep_eq]; dsimp only; simp at h1; rw [h1]; rw [deps]; omega
 | succ d ih =>
  intro n r hn hd hr
  obtain ⟨n, rfl⟩ : ∃ m, n = m + 1 := ⟨n - 1, by omega⟩
  show Y (made_Pruned_B (made_Pruned_F n) r ((d + 1 : Nat) : Int)) _
  unfold made_Pruned_B
  refine Y.bind (P := fun v : Int => 0 ≤ v ∧ v ≤ 8) (Y.cond (fun _ => Y.ret (by omega)) fun _ => Y.ret (by omega)) fun v3 hv3 => ?_
  refine Y.bind (P := fun v : Int => 0 ≤ v ∧ v ≤ 8) (Y.cond (fun _ => Y.ret (by omega)) fun _ => Y.ret hv3) fun v6 hv6 => ?_
  rw [sub_pre _ _ hv6.1, Option.bind_some, app_nil_ok (by simp; omega) (by omega), Option.bind_some]
  have hlen : (r.Args.take v6.toNat).length ≤ 8 := by simp; omega
  refine Y.bind (map_Y (L := r.Args.take v6.toNat) (by omega) ROk (fun x => ROk x ∧ dep x ≤ d + 1) (fun x hx => hr.arg (List.mem_of_mem_take hx)) (fun l k hk hl hp => ?_) (fun l hl => by simp only [dnlt, cond_false])) fun l ⟨h1, h2⟩ => Y.ret ⟨?_, ?_⟩
  ·rw [← hl]
   simp only [dlt hk, cond_true, idx_nat hk, Option.bind_some, wnext hk (show l.length ≤ 4611686018427387904 by omega)]
   rw [i64s (by omega) (by omega), show ((d + 1 : Nat) : Int) - 1 = (d : Int) by omega]
   refine (ih n _ (by omega) (by omega) hp).bind fun x hx => Y.ret ⟨x, hx, by simp⟩
  ·exact ⟨_, hr.ex, hr.nm, by dsimp only; omega, fun a ha => (h2 a ha).1⟩
  ·rw [dep_eq]; have := deps_le fun a ha => (h2 a ha).2; dsimp only; omega
end SX
end Go.Proofs.YtiijbkaiipjpkaaGreatDoor
set_option maxRecDepth 100000
namespace Go.Proofs.YtiijbkaiipjpkaaGreatDoor
namespace SX
open Go
def k0 (W : World) : Kr := ⟨W, fun b => b < W.heap.size⟩
theorem cellsOf_eq {t : Nat} {z : Value} {s b : Nat} (h : inf t = some (z, s, b)) : Tryz.prog.cellsOf t = s ∧ Tryz.prog.bytesOf t = b := by
 obtain ⟨i, h1, h2, h3, h4⟩ := inf_get h
 constructor
 ·simp [Program.cellsOf, h1, h3]
 ·simp [Program.bytesOf, h1, h4]
def Light {H : Type} (t : Nat) (d : DataW H) : Prop := ∀ n ∈ d.weights Tryz.prog t, n ≤ reachBytes
def Opens {H : Type} (eh : TypeId × Value → H) {α : Type} (t : Nat) (e : α → List PV) : Prop :=
 ∀ (W : World) (fuel : Nat) (cs : List Value) (x : DataW H × List MemPlace), DataW.trod eh Tryz.prog W 0 (fun _ => true) true fuel t cs = some x → Light t x.1 → ∃ m, Rps (k0 W) (e m) cs ∧ One cs
section
variable {H : Type} {eh : TypeId × Value → H}
theorem one1 {v : Value} (h : v.oneCell' = true) : One [v] := fun u hu => by rw [List.mem_singleton.1 hu]; exact h
theorem opens_int {t : Nat} {k : IntKind} (h : und t = some (.int k)) : Opens eh t (fun x : Int => [.v (.int k x)]) := fun W fuel cs x hx _ => by
 obtain ⟨n, rfl, _, _⟩ := DataW.trod_int (und_ok h) hx
 exact ⟨n, .cons (.v rfl) .nil, one1 rfl⟩
theorem opens_str {t : Nat} (h : und t = some .string) : Opens eh t eS := fun W fuel cs x hx hw => by
 obtain ⟨s, rfl, rfl, _⟩ := DataW.trod_string (und_ok h) hx
 have := hw s.data.toList.length (by simp [DataW.weights])
 refine ⟨s, .cons (.v ?_) .nil, one1 rfl⟩
 unfold reachBytes at this
 have e : s.data.toList.length = s.size := by simp
 exact Nat.ble_eq_true_of_le (by omega)
theorem weightsAll_mem {e : Nat} : ∀ {l : List (DataW H)} {d : DataW H} {n : Nat}, d ∈ l → n ∈ d.weights Tryz.prog e → n ∈ DataW.weightsAll Tryz.prog e l
 | d' :: l, d, n, hd, hn => by
  simp only [DataW.weightsAll, List.mem_append]
  rcases List.mem_cons.1 hd with rfl | hd
  ·exact .inl hn
  ·exact .inr (weightsAll_mem hd hn)
theorem list_of {α β : Type} {R : α → β → Prop} : ∀ (l : List β), (∀ b ∈ l, ∃ a, R a b) → ∃ la : List α, la.length = l.length ∧ ∀ (i : Nat) (b : β), l[i]? = some b → ∃ a, la[i]? = some a ∧ R a b
 | [], _ => ⟨[], rfl, fun i b h => by simp at h⟩
 | b :: l, h => by
  obtain ⟨a, ha⟩ := h b (by simp)
  obtain ⟨la, h1, h2⟩ := list_of l fun b hb => h b (by simp [hb])
  refine ⟨a :: la, by simp [h1], fun i b' hb => ?_⟩
  cases i with
  | zero => simp only [List.getElem?_cons_zero, Option.some.injEq] at hb; subst hb; exact ⟨a, rfl, ha⟩
  | succ i => simp only [List.getElem?_cons_succ] at hb ⊢; exact h2 i b' hb
def OpensN {H : Type} (eh : TypeId × Value → H) {α : Type} (N : Nat) (t : Nat) (e : α → List PV) : Prop :=
 ∀ (W : World) (fuel : Nat) (cs : List Value) (x : DataW H × List MemPlace), fuel < N → DataW.trod eh Tryz.prog W 0 (fun _ => true) true fuel t cs = some x → Light t x.1 → ∃ m, Rps (k0 W) (e m) cs ∧ One cs
theorem opens_sliceN {α : Type} {N t E sz by' : Nat} {z : Value} {e : α → List PV} (hu : und t = some (.slice E)) (hi : inf E = some (z, sz, by')) (h0 : Nat.blt 0 sz = true) (hb0 : Nat.blt 0 by' = true) (hE : OpensN eh N E e) : OpensN eh (N + 1) t (eL e) := fun W fuel cs x hfu hx hw => by
 obtain ⟨hcz, hby⟩ := cellsOf_eq hi
 have hsz : 0 < sz := by have := h0; simp [Nat.blt] at this; omega
 have hbp : 0 < by' := by have := hb0; simp [Nat.blt] at this; omega
 rcases DataW.trod_slice (und_ok hu) hx with ⟨rfl, _⟩ | ⟨a, len, cap, elems, rest, n, rfl, rfl, rfl, _, hl, hm, hlen, hel, _, _⟩
 ·exact ⟨[], .cons (.slc (sz := sz) (css := []) Sl.nil (Nat.zero_le _) (fun _ h => by cases h) .nil) .nil, one1 rfl⟩
 ·rw [hcz] at hel
  have hwl : (elems.length + rest.length) * by' ≤ reachBytes := by
   have := hw ((elems.length + rest.length) * by') (by simp only [DataW.weights, und_ok hu, hby, List.length_map]; exact List.mem_cons_self)
   exact this
  have hn : len ≤ 140737488355328 := by
   unfold reachBytes at hwl
   have : elems.length * 1 ≤ (elems.length + rest.length) * by' := Nat.mul_le_mul (by omega) (by omega)
   omega
  have hcells : ∀ i ∈ List.range len, ∃ p : α × List Value, W.cells? 0 (a.add (i * sz)) sz = some p.2 ∧ Rps (k0 W) (e p.1) p.2 ∧ One p.2 := fun i hi' => by
   have hi' : i < len := List.mem_range.1 hi'
   have h1 := hel i hi'
   have hlt : i < elems.length := by omega
   rw [List.getElem?_eq_getElem hlt] at h1
   obtain ⟨cs, h2, h3⟩ := Option.bind_eq_some_iff.1 h1
   obtain ⟨m, k1, k2⟩ := hE W n cs _ (by omega) h3 fun q hq => hw q (by
    simp only [DataW.weights, und_ok hu]
    exact List.mem_cons_of_mem _ (List.mem_append.2 (.inl (weightsAll_mem (List.mem_map.2 ⟨_, List.getElem_mem hlt, rfl⟩) hq))))
   exact ⟨(m, cs), h2, k1, k2⟩
  obtain ⟨ps, g1, g2⟩ := list_of (R := fun (p : α × List Value) i => W.cells? 0 (a.add (i * sz)) sz = some p.2 ∧ Rps (k0 W) (e p.1) p.2 ∧ One p.2) (List.range len) hcells
  rw [List.length_range] at g1
  have g3 : ∀ (i : Nat) (p : α × List Value), ps[i]? = some p → W.cells? 0 (a.add (i * sz)) sz = some p.2 ∧ Rps (k0 W) (e p.1) p.2 ∧ One p.2 := fun i p hp => by
   have hlt := (List.getElem?_eq_some_iff.1 hp).1
   obtain ⟨p', h1, h2⟩ := g2 i i (by rw [List.getElem?_range (by omega)])
   rw [hp] at h1; injection h1 with h1; subst h1; exact h2
  refine ⟨ps.map (·.1), ?_, one1 rfl⟩
  have hps : (ps.map (·.1)).length = len := by simp [g1]
  unfold eL; rw [hps]
  refine .cons (.slc (sz := sz) (css := ps.map (·.2)) ⟨by simp [g1], hl, ?_, ?_⟩ hn ?_ ?_) .nil
  ·intro c hc
   obtain ⟨p, hp, rfl⟩ := List.mem_map.1 hc
   obtain ⟨i, hi', rfl⟩ := List.getElem_of_mem hp
   exact (World.cells?_some (g3 i _ (List.getElem?_eq_getElem hi')).1).2.1
  ·intro hpos
   have hp0 : 0 < ps.length := by omega
   have hc0 := (World.cells?_some (g3 0 _ (List.getElem?_eq_getElem hp0)).1)
   have hread := hc0.2.2 0 hsz
   have hspot : a.spot = none := by
    have hlt : 0 < (ps[0]).2.length := by rw [hc0.2.1]; exact hsz
    rw [List.getElem?_eq_getElem hlt] at hread
    unfold World.cell? at hread
    cases hs : a.spot with
    | none => rfl
    | some q =>
     have hsp : ((a.add (0 * sz)).add 0).spot.isSome = true := by simp [Addr.add, hs]
     split at hread
     ·rw [if_pos hsp] at hread; cases hread
     ·cases hread
   obtain ⟨ab, ao, asp⟩ := a
   simp only at hspot; subst hspot
   refine ⟨ab, ao, rfl, fun j c hj => ?_⟩
   rw [List.getElem?_map] at hj
   cases hpj : ps[j]? with
   | none => rw [hpj] at hj; cases hj
   | some p =>
    rw [hpj] at hj; simp only [Option.map_some, Option.some.injEq] at hj; subst hj
    have hcj := World.cells?_some (g3 j p hpj).1
    refine ⟨?_, fun i u hu' => ?_⟩
    ·have h1 := hcj.2.2 0 hsz
     have hlt : 0 < p.2.length := by rw [hcj.2.1]; exact hsz
     rw [List.getElem?_eq_getElem hlt, add_none, add_none] at h1
     unfold World.cell? at h1
     split at h1
     ·rename_i heq
      have := heap_some_lt heq
      exact this
     ·cases h1
    ·have hlt : i < sz := by have := (List.getElem?_eq_some_iff.1 hu').1; omega
     have h1 := hcj.2.2 i hlt
     rw [add_none, add_none] at h1
     rw [← hu']; exact h1
  ·intro c hc
   obtain ⟨p, hp, rfl⟩ := List.mem_map.1 hc
   obtain ⟨i, hi', rfl⟩ := List.getElem_of_mem hp
   exact (g3 i _ (List.getElem?_eq_getElem hi')).2.2
  ·have : ∀ (l : List (α × List Value)), (∀ p ∈ l, Rps (k0 W) (e p.1) p.2) → Rpss (k0 W) ((l.map (·.1)).map e) (l.map (·.2)) := fun l => by
    induction l with
    | nil => exact fun _ => .nil
    | cons p l ih => exact fun h => .cons (h p (by simp)) (ih fun q hq => h q (by simp [hq]))
   refine this ps fun p hp => ?_
   obtain ⟨i, hi', rfl⟩ := List.getElem_of_mem hp
   exact (g3 i _ (List.getElem?_eq_getElem hi')).2.1
theorem opens_slice {α : Type} {t E sz by' : Nat} {z : Value} {e : α → List PV} (hu : und t = some (.slice E)) (hi : inf E = some (z, sz, by')) (h0 : Nat.blt 0 sz = true) (hb0 : Nat.blt 0 by' = true) (hE : Opens eh E e) : Opens eh t (eL e) := fun W fuel cs x hx hw =>
 opens_sliceN (N := fuel) hu hi h0 hb0 (fun W' f' cs' x' _ => hE W' f' cs' x') W fuel cs x (Nat.lt_succ_self _) hx hw
theorem rps_step {κ : Kr} {cs : List Value} {off sz : Nat} {ps qs : List PV} (h : Rps κ ps ((cs.drop off).take sz)) (h2 : Rps κ qs (cs.drop (off + sz))) : Rps κ (ps ++ qs) (cs.drop off) := by
 have e : cs.drop off = (cs.drop off).take sz ++ cs.drop (off + sz) := by rw [← List.drop_drop, List.take_append_drop]
 rw [e]; exact h.app h2
theorem one_step {cs : List Value} {off sz : Nat} (h : One ((cs.drop off).take sz)) (h2 : One (cs.drop (off + sz))) : One (cs.drop off) := by
 have e : cs.drop off = (cs.drop off).take sz ++ cs.drop (off + sz) := by rw [← List.drop_drop, List.take_append_drop]
 rw [e]; exact fun u hu => (List.mem_append.1 hu).elim (h u) (h2 u)
theorem rps_end {κ : Kr} {cs : List Value} {off : Nat} (h : cs.length = off) : Rps κ [] (cs.drop off) := by rw [List.drop_of_length_le (by omega)]; exact .nil
theorem one_end {cs : List Value} {off : Nat} (h : cs.length = off) : One (cs.drop off) := by rw [List.drop_of_length_le (by omega)]; exact fun _ h => by cases h
end
end SX
end Go.Proofs.YtiijbkaiipjpkaaGreatDoor
set_option maxRecDepth 100000
namespace Go.Proofs.YtiijbkaiipjpkaaGreatDoor
open Go Go.ChangeShapes Go.WideShapes Go.RowKit
namespace SX
theorem own_ok : ownKnob Tryz.prog.godebug = none := by kernel_rfl
theorem laidOut_ok : laidOutB Tryz.prog = true := by kernel_rfl
def laidL : List (String × DataW Unit) := [("unicode/utf8.acceptRanges", Rows.laid_unicode_utf8_acceptRanges), ("customs/nomenclature.lengths", Rows.laid_customs_nomenclature_lengths), ("unicode/utf8.first", Rows.laid_unicode_utf8_first)]
mutual
def cellsD : DataW Unit → List Value
 | .lit (.int k n) => [.int k n]
 | .agg ds => cellsDs ds
 | _ => []
def cellsDs : List (DataW Unit) → List Value
 | [] => []
 | d :: r => cellsD d ++ cellsDs r
end
def c_acc : Array Value := (cellsD Rows.laid_unicode_utf8_acceptRanges).toArray
def c_len : Array Value := #[.int .i64 2, .int .i64 4, .int .i64 6, .int .i64 8]
def c_first : Array Value := (cellsD Rows.laid_unicode_utf8_first).toArray
def layAt (h : Array Obj) (g : Nat) (cs : Array Value) : Array Obj := h.modify g fun | .cells _ t frozen => .cells cs t frozen | o => o
noncomputable def laidWorld (os : Os) : World :=
 { World.holding Tryz.prog os ⟨#[], #[], []⟩ with heap := layAt (layAt (layAt (World.holding Tryz.prog os ⟨#[], #[], []⟩).heap 4 c_acc) 0 c_len) 3 c_first }
theorem laid_plain : (laidL.filter fun x => x.2.handleName?.isSome) = [] := by kernel_rfl
def placeB (w : World) : MemPlace → Bool
 | .cell b off => match w.heap[b]? with
  | some (.cells c _ (0, 0)) => match c[off]? with | some (.iface _ _) => false | _ => true
  | _ => false
 | _ => true
theorem placesB_ok {w : World} {ps : List MemPlace} (h : ps.all (placeB w) = true) : ∀ b off, MemPlace.cell b off ∈ ps → (∃ c t, w.heap[b]? = some (.cells c t (0, 0))) ∧ ∀ u v, w.cell? ⟨b, off, none⟩ = some (.iface u v) → Value.okWide Tryz.prog w .any 0 u v := fun b off hm => by
 have := List.all_eq_true.1 h _ hm
 unfold placeB at this
 split at this
 ·rename_i b' off' e
  injection e with e1 e2; subst e1; subst e2
  split at this
  ·rename_i c t heq
   refine ⟨⟨c, t, heq⟩, fun u v hc => ?_⟩
   simp only [World.cell?, heq] at hc
   split at this
   ·cases this
   ·rename_i hno; exact absurd hc (by simpa using hno u v)
  ·cases this
 ·rename_i hno; exact absurd rfl (hno b off)
theorem laidWorld_met (os : Os) (args : Array Value) : laidMetH Tryz.prog laidL ((laidWorld os).forCall (fun _ _ => 0) ⟨#[], args, []⟩).memory := by
 unfold laidMetH
 rw [laid_plain]
 refine ⟨_, ⟨4, 230, c_acc, 8, [], _, by kernel_rfl, by kernel_rfl, by kernel_rfl, by kernel_rfl, ⟨0, 156, c_len, 8, [], _, by kernel_rfl, by kernel_rfl, by kernel_rfl, by kernel_rfl, ⟨3, 227, c_first, 8, [], _, by kernel_rfl, by kernel_rfl, by kernel_rfl, by kernel_rfl, rfl, rfl⟩, rfl⟩, rfl⟩, ?_, ?_⟩
 ·exact of_decide_eq_true (by kernel_rfl)
 ·exact placesB_ok (by kernel_rfl)
theorem int_of_trod {H : Type} {eh : TypeId × Value → H} {P : Program} {w : World} {base : Nat} {sp : Nat → Bool} {held : Bool} {fuel : Nat} {t : TypeId} {k : IntKind} {c : Value} {y : DataW H × List MemPlace} (ht : P.underlying t = some (.int k)) (h : DataW.trod eh P w base sp held fuel t [c] = some y) : ∃ n, c = .int k n ∧ y = (.lit (.int k n), []) := by
 obtain ⟨n, h1, h2, _⟩ := DataW.trod_int ht h
 injection h1 with h1 _
 exact ⟨n, h1, h2⟩
theorem gok_of_laid {W : World} (h : laidMetH Tryz.prog laidL W) : GOK (k0 W) := by
 unfold laidMetH at h
 rw [laid_plain] at h
 obtain ⟨ps, ⟨_, _, _, _, _, _, _, _, _, _, ⟨g, t, cs, fuel, p, q, hg, ht, hvar, hd, _, _⟩, _⟩, _⟩ := h
 obtain rfl := Option.some.inj ((show Tryz.prog.globalNamed "customs/nomenclature.lengths" = some 0 by kernel_rfl).symm.trans hg)
 obtain rfl := Option.some.inj ((show (Tryz.prog.globals[0]?).map (·.type) = some 156 by kernel_rfl).symm.trans ht)
 have hcs : cs = c_len := by
  obtain ⟨l⟩ := cs
  cases fuel with
  | zero => simp [DataW.trod] at hd
  | succ fuel =>
   have hc1 := (cellsOf_eq (t := 156) rfl).1
   have hc2 := (cellsOf_eq (t := 3) rfl).1
   have hu1 : Tryz.prog.underlying 156 = some (.array 4 3) := und_ok rfl
   simp only [DataW.trod, hu1, hc1, hc2] at hd
   split at hd
   ·rename_i hl
    obtain ⟨c0, c1, c2, c3, rfl⟩ : ∃ c0 c1 c2 c3, l = [c0, c1, c2, c3] := by
     match l, hl with
     | [a, b, c, d], _ => exact ⟨a, b, c, d, rfl⟩
    have e : List.range 4 = [0, 1, 2, 3] := rfl
    rw [e] at hd
    simp only [Option.map_eq_some_iff, List.mapM_cons, List.mapM_nil, Option.bind_eq_bind, Option.bind_eq_some_iff, Option.pure_def, Option.some.injEq] at hd
    obtain ⟨xs, ⟨y0, h0, _, ⟨y1, h1, _, ⟨y2, h2, _, ⟨y3, h3, _, rfl, rfl⟩, rfl⟩, rfl⟩, rfl⟩, hx⟩ := hd
    have hui : Tryz.prog.underlying 3 = some (.int .i64) := und_ok rfl
    obtain ⟨n0, rfl, rfl⟩ := int_of_trod hui h0
    obtain ⟨n1, rfl, rfl⟩ := int_of_trod hui h1
    obtain ⟨n2, rfl, rfl⟩ := int_of_trod hui h2
    obtain ⟨n3, rfl, rfl⟩ := int_of_trod hui h3
    simp [Rows.laid_customs_nomenclature_lengths] at hx
    obtain ⟨⟨rfl, rfl, rfl, rfl⟩, _⟩ := hx
    rfl
   ·cases hd
 subst hcs
 have hcell : ∀ j u, c_len[j]? = some u → W.cell? ⟨0, j, none⟩ = some u := fun j u hu => by
  have := World.var?_cell hg hvar j
  rw [this]; exact hu
 refine ⟨?_, fun j u hu => ?_⟩
 ·have h0 := hcell 0 _ rfl
  unfold World.cell? at h0
  split at h0
  ·rename_i heq; exact heap_some_lt heq
  ·cases h0
 ·rw [Nat.zero_add]; exact hcell j u (by simpa [c_len] using hu)
end SX
end Go.Proofs.YtiijbkaiipjpkaaGreatDoor
set_option maxRecDepth 100000
namespace Go.Proofs.YtiijbkaiipjpkaaGreatDoor
open Go Go.ChangeShapes Go.WideShapes Go.RowKit
namespace SX
theorem inv0 (W : World) : Inv ⟨k0 W, []⟩ [] (k0 W) := ⟨.refl _ _, fun _ h => h, (fun _ h => by cases h), (fun _ h => by cases h), .nil⟩
theorem below_of {W : World} {ρ : List Res} {κ : Kr} (h : Inv ⟨k0 W, []⟩ ρ κ) : Below W.heap.size W κ.w := ⟨h.le.os, h.le.tape, h.le.output, h.le.kle.size, fun k hk => h.le.same k hk (by simp)⟩
section
variable {H : Type} {eh : TypeId × Value → H}
theorem trodAll_below {W W' : World} (hb : Below W.heap.size W W') {ts : List TypeId} (hr : ∀ t ∈ ts, Tryz.prog.readableRec t = true ∧ t < Tryz.prog.types.size) : ∀ {vs : List Value} {ds : List (DataW H)} {ps : List MemPlace}, DataW.TrodAll eh Tryz.prog W 0 (fun _ => true) true ts vs ds ps → (∀ p ∈ ps, p.block < W.heap.size) → DataW.TrodAll eh Tryz.prog W' 0 (fun b => decide (b < W.heap.size)) true ts vs ds ps := by
 induction ts with
 | nil => intro vs ds ps h _; cases vs <;> cases ds <;> first | exact h | cases h
 | cons t ts ih =>
  intro vs ds ps h hlt
  cases vs with
  | nil => cases h
  | cons v vs =>
   cases ds with
   | nil => cases h
   | cons d ds =>
    obtain ⟨p, q, h1, h2, e⟩ := h
    have ht := hr t (by simp)
    exact ⟨p, q, Below.trod laidOut_ok ht.1 ht.2 h1 hb (fun x hx => hlt x (by rw [e]; simp [hx])), ih (fun u hu => hr u (by simp [hu])) h2 (fun x hx => hlt x (by rw [e]; simp [hx])), e⟩
theorem readB {ts : List TypeId} (h : (ts.all fun t => Tryz.prog.readableRec t && Nat.blt t Tryz.prog.types.size) = true) : ∀ t ∈ ts, Tryz.prog.readableRec t = true ∧ t < Tryz.prog.types.size := fun t ht => by
 have := List.all_eq_true.1 h t ht
 rw [Bool.and_eq_true] at this
 exact ⟨this.1, by have h2 := this.2; exact Nat.le_of_ble_eq_true h2⟩
theorem row_post {f tb : Nat} {fn : Func} {s : ChangeSpec} {W : World} {args : Array Value} {ds gs : List (DataW H)} {before : List MemPlace} {pargs : List PV}
    (hrd : ∀ t ∈ fn.params.toList, Tryz.prog.readableRec t = true ∧ t < Tryz.prog.types.size) (hres : fn.resultTypes = #[tb]) (hub : Tryz.prog.underlying tb = some .bool) (hvars : s.vars = [])
    (hspec : s.fn H ds = { results := [.lit (.bool true)], args := ds }) (hW : DataW.Whole eh Tryz.prog fn.params.toList s.vars false W args.toList ds gs before) (hG : GOK (k0 W)) (hargs : Rps (k0 W) pargs args.toList) (hPF : PF f pargs (.v (.bool true))) :
    Calls Tryz.prog f args W fun e W' => ∃ v, e = .returned v ∧ s.post eh Tryz.prog fn false true false false W args v W' := by
  have hc := (hPF (k0 W) args.toList hG hargs).2 (inv0 W)
  have e : args.toList.toArray = args := by simp
  rw [e] at hc
  refine Calls.mono hc fun en W' ⟨v, ρ', κ', h1, h2, h3, h4, h5⟩ => ⟨v, h1, ?_⟩
  subst h2
  have hv := h5.val
  subst hv
  have hb := below_of h3
  have hW' := hW
  obtain ⟨p, q, hA, hV, rfl, hfz, hnd⟩ := hW
  rw [hvars] at hV
  obtain ⟨rfl, rfl⟩ : gs = [] ∧ q = [] := by
    cases gs with
    | nil => exact ⟨rfl, hV⟩
    | cons g r => exact absurd hV (by intro h; cases h)
  refine ⟨ds, [], _, [], p, [], hW', ?_, ?_, ?_, hb.frame _, fun h => by cases h⟩
  · rw [List.append_nil, hspec, hres]; exact trodAll_mk1 (shut_bool hub true)
  · rw [List.append_nil, hspec]; exact trodAll_below hb hrd hA (DataW.TrodAll.lt hA)
  · rw [hvars, List.append_nil, hspec]; rfl
theorem trodAll_cons {W : World} {t : TypeId} {ts : List TypeId} {vs : List Value} {ds : List (DataW H)} {ps : List MemPlace} (h : DataW.TrodAll eh Tryz.prog W 0 (fun _ => true) true (t :: ts) vs ds ps) : ∃ v vs' d ds' p q, vs = v :: vs' ∧ ds = d :: ds' ∧ DataW.Trod eh Tryz.prog W 0 (fun _ => true) true t v d p ∧ DataW.TrodAll eh Tryz.prog W 0 (fun _ => true) true ts vs' ds' q := by
 cases vs with
 | nil => cases h
 | cons v vs =>
  cases ds with
  | nil => cases h
  | cons d ds => obtain ⟨p, q, h1, h2, _⟩ := h; exact ⟨v, vs, d, ds, p, q, rfl, rfl, h1, h2⟩
theorem trodAll_nil {W : World} {vs : List Value} {ds : List (DataW H)} {ps : List MemPlace} (h : DataW.TrodAll eh Tryz.prog W 0 (fun _ => true) true [] vs ds ps) : vs = [] ∧ ds = [] := by
 cases vs <;> cases ds <;> first | exact ⟨rfl, rfl⟩ | cases h
theorem standIns_no {l : Array TypeId} (h : (l.toList.all fun t => !Tryz.prog.wantsStandIn t) = true) {j : Nat} {t : TypeId} (ht : l[j]? = some t) : Tryz.prog.wantsStandIn t = false := by
 have := List.all_eq_true.1 h t (by have := Array.mem_of_getElem? ht; simpa using this)
 simpa using this
theorem light_head {t : Nat} {ts : List Nat} {d : DataW H} {ds : List (DataW H)} (h : (DataW.weightsEach Tryz.prog (t :: ts) (d :: ds)).all (· ≤ reachBytes) = true) : Light t d ∧ (DataW.weightsEach Tryz.prog ts ds).all (· ≤ reachBytes) = true := by
 simp only [DataW.weightsEach, List.all_append, Bool.and_eq_true] at h
 exact ⟨fun n hn => by simpa using List.all_eq_true.1 h.1 n hn, h.2⟩
def isPlainD : TypeDesc → Bool
 | .int _ | .bool | .string | .slice _ => true
 | _ => false
theorem not_agg {W : World} {r : Reach} {base t : Nat} {v : Value} {D : TypeDesc} (hu : und t = some D) (hD : isPlainD D = true) (h : Value.okWide Tryz.prog W r base t v) : ∀ cs, v.cells.toList = [cs] → v = cs := fun cs he => by
 cases v with
 | agg arr =>
  exfalso
  unfold Value.okWide at h
  rw [und_ok hu] at h
  cases D <;> first | (revert hD; simp [isPlainD]; done) | (simp only at h; unfold Cell.okWide at h; rw [und_ok hu] at h; simp only at h; unfold Cell.ok at h; rw [und_ok hu] at h; simp at h)
 | _ => simpa [Value.cells] using he
theorem arg_agg {W : World} {r : Reach} {base t : Nat} {v : Value} {D : TypeDesc} {α : Type} {e : α → List PV} {d : DataW H} {ps : List MemPlace} (hu : und t = some D) (hD : isAggD D = true) (hO : Opens eh t e) (h : Value.okWide Tryz.prog W r base t v) (hd : DataW.Trod eh Tryz.prog W 0 (fun _ => true) true t v d ps) (hl : Light t d) : ∃ m, Rp (k0 W) (.agg (e m)) v := by
 obtain ⟨fuel, hf⟩ := hd
 obtain ⟨m, h1, h2⟩ := hO W fuel _ _ hf hl
 have : ∃ cs, v = .agg cs := by
  unfold Value.okWide at h
  rw [und_ok hu] at h
  cases D <;> first | (revert hD; simp [isAggD]; done) | (obtain ⟨cs, e, _⟩ := h; exact ⟨cs, e⟩)
 obtain ⟨cs, rfl⟩ := this
 refine ⟨m, ?_⟩
 have e2 : (Value.agg cs) = .agg cs.toList.toArray := by simp
 rw [e2]
 exact .agg h2 h1
theorem arg_one {W : World} {r : Reach} {base t : Nat} {v : Value} {D : TypeDesc} {α : Type} {e : α → List PV} {d : DataW H} {ps : List MemPlace} (hu : und t = some D) (hD : isPlainD D = true) (hO : Opens eh t e) (h1 : ∀ m, ∃ p, e m = [p]) (h : Value.okWide Tryz.prog W r base t v) (hd : DataW.Trod eh Tryz.prog W 0 (fun _ => true) true t v d ps) (hl : Light t d) : ∃ m, Rps (k0 W) (e m) [v] := by
 obtain ⟨fuel, hf⟩ := hd
 obtain ⟨m, h2, _⟩ := hO W fuel _ _ hf hl
 refine ⟨m, ?_⟩
 obtain ⟨p, hp⟩ := h1 m
 rw [hp] at h2
 generalize hc : v.cells.toList = cs at h2
 obtain ⟨w, ws, rfl, h3, h4⟩ := h2.cons_inv
 rw [h4.nil_inv] at hc
 rw [not_agg hu hD h w hc, hp]
 exact .cons h3 .nil
end
theorem rps_str {κ : Kr} {ps : List PV} {vs : List Value} {k : Nat} {s : ByteArray} (h : Rps κ ps vs) (hk : ps[k]? = some (.v (.string s))) : s.size ≤ 140737488355328 := by
 obtain ⟨v, _, h2⟩ := h.get hk
 exact Nat.le_of_ble_eq_true h2.ok
theorem rps_slc {κ : Kr} {ps : List PV} {vs : List Value} {k mm : Nat} {xs : List (List PV)} (h : Rps κ ps vs) (hk : ps[k]? = some (.slc mm xs)) : xs.length ≤ 140737488355328 := by
 obtain ⟨v, _, h2⟩ := h.get hk
 cases h2 with
 | slc hs hb _ hss => rw [hss.len, hs.len]; exact hb
theorem rps_agg {κ : Kr} {cs : List PV} {vs : List Value} (h : Rps κ [.agg cs] vs) : ∃ ds, Rps κ cs ds := by
 obtain ⟨v, ws, rfl, h1, _⟩ := h.cons_inv
 cases h1 with
 | agg _ hc => exact ⟨_, hc⟩
theorem rps_elem {κ : Kr} {ps : List PV} {vs : List Value} {k mm : Nat} {xs : List (List PV)} {x : List PV} (h : Rps κ ps vs) (hk : ps[k]? = some (.slc mm xs)) (hx : x ∈ xs) : ∃ ds, Rps κ x ds := by
 obtain ⟨v, _, h2⟩ := h.get hk
 cases h2 with
 | slc hs hb _ hss =>
  obtain ⟨i, hi, rfl⟩ := List.getElem_of_mem hx
  obtain ⟨ds, _, h3⟩ := hss.get (List.getElem?_eq_getElem hi)
  exact ⟨ds, h3⟩
end SX
end Go.Proofs.YtiijbkaiipjpkaaGreatDoor
set_option maxRecDepth 100000
namespace Go.Proofs.YtiijbkaiipjpkaaGreatDoor
namespace SX
open Go
theorem awake_ok : law14_awake = some true := by kernel_rfl
theorem strs_of {κ : Kr} {ps : List PV} {vs : List Value} {k : Nat} {l : List ByteArray} (h : Rps κ ps vs) (hk : ps[k]? = some (pL eS l)) : StrsOk l := by
 refine ⟨by have := rps_slc h hk; simpa using this, fun s hs => ?_⟩
 obtain ⟨ds, hd⟩ := rps_elem h hk (List.mem_map_of_mem (f := eS) hs)
 exact rps_str (k := 0) hd rfl
mutual
theorem rok_of {κ : Kr} : ∀ (r : TRule) (ds : List Value), Rps κ (TRule.enc r) ds → ROk r
 | ⟨k, d, e, t, m, n, l⟩, ds, h => by
  rw [TRule.enc_eq] at h
  have hl : l.length ≤ 140737488355328 := by have := rps_slc (k := 6) h rfl; simpa using this
  exact ⟨_, strs_of (k := 2) h rfl, rps_str (k := 5) h rfl, hl, roks_of l (fun a ha => rps_elem (k := 6) h rfl (List.mem_map_of_mem (f := TRule.enc) ha))⟩
theorem roks_of {κ : Kr} : ∀ (l : List TRule), (∀ a ∈ l, ∃ ds, Rps κ (TRule.enc a) ds) → ∀ a ∈ l, ROk a
 | [], _, _, h => by cases h
 | b :: l, h, a, ha => by
  rcases List.mem_cons.1 ha with e | ha
  ·obtain ⟨ds, hd⟩ := h b (by simp)
   rw [e]; exact rok_of b ds hd
  ·exact roks_of l (fun a ha => h a (by simp [ha])) a ha
end
theorem rfok_of {κ : Kr} {x : TRuleFor} {ds : List Value} (h : Rps κ (TRuleFor.enc x) ds) : x.Prefix.size ≤ 140737488355328 ∧ ROk x.Rule := by
 refine ⟨rps_str (k := 0) h rfl, ?_⟩
 have := h.drop 1
 exact rok_of x.Rule _ (by rw [TRule.enc_eq]; exact this)
theorem rawA_of {κ : Kr} {a : TAgreement} {ds : List Value} (h : Rps κ (TAgreement.enc a) ds) : RawA a := by
 refine ⟨strs_of (k := 2) h rfl, by have := rps_slc (k := 3) h rfl; simpa using this, fun x hx => ?_⟩
 obtain ⟨ds, hd⟩ := rps_elem (k := 3) h rfl (List.mem_map_of_mem (f := TRuleFor.enc) hx)
 exact rfok_of hd
end SX
end Go.Proofs.YtiijbkaiipjpkaaGreatDoor
set_option maxRecDepth 100000
namespace Go.Proofs.YtiijbkaiipjpkaaGreatDoor
namespace SX
open Go
theorem ASOk.set {l : List TAgreement} (h : ASOk l) {k : Nat} {a : TAgreement} (ha : AOk a) : ASOk (l.set k a) := ⟨by rw [List.length_set]; exact h.len, fun b hb => by
 rcases List.mem_or_eq_of_mem_set hb with hb | rfl
 ·exact h.all b hb
 ·exact ha⟩
theorem changed_Y (p0 : List Int) (p1 : TAgreement) (p2 : TRuleFor) (p3 p4 p5 : Int) (h1 : StrsOk p1.Parties) (h2 : p2.Prefix.size ≤ 140737488355328 ∧ ROk p2.Rule) : law14_AgreementChanged p0 p1 p2 p3 p4 p5 = some true := by
 unfold law14_AgreementChanged
 obtain ⟨x3, e3, hx3⟩ := agreements_Y p0
 rw [e3, Option.bind_some]
 have hlen := hx3.len
 obtain ⟨x7, e7, h71, h72⟩ := within_Y p3 ((x3.length : Nat) : Int) (by omega) (by omega)
 rw [e7, Option.bind_some]
 obtain ⟨x8, e8, h81, h82⟩ := within_Y p4 7 (by omega) (by omega)
 rw [e8, Option.bind_some]
 obtain ⟨k, rfl⟩ : ∃ k : Nat, x7 = (k : Int) := ⟨x7.toNat, by omega⟩
 have hk : k < x3.length := by omega
 have hm := hx3.all k _ (List.getElem?_eq_getElem hk)
 have ha := hm.aok
 have hrl := P5_len hm.pre
 rw [idx_nat hk, Int.toNat_natCast]
 simp only [Option.bind_some]
 generalize x3[k] = m at hm ha hrl
 have hok := hx3.ok
 suffices hy : ∀ (c : Option (List TAgreement)), Y c ASOk → Option.bind c (fun l12 => Option.bind (cumulation_Validate l12) (fun x85 => Option.bind (ref14_Agreements l12) (fun x86 => Option.bind (gd (x85 == x86) (law14_awake)) (fun x87 => some ((x85 == x86) && x87))))) = some true by
  refine hy _ ?_
  refine Y.cond (fun _ => Y.ret (hok.set ⟨ha.par, ha.len, ha.rules⟩)) fun _ => ?_
  refine Y.cond (fun _ => (within_Y p5 20 (by omega) (by omega)).bind fun x _ => Y.ret (hok.set ⟨ha.par, ha.len, ha.rules⟩)) fun _ => ?_
  refine Y.cond (fun _ => (within_Y p5 6 (by omega) (by omega)).bind fun x _ => Y.ret (hok.set ⟨ha.par, ha.len, ha.rules⟩)) fun _ => ?_
  refine Y.cond (fun _ => ?_) fun _ => ?_
  ·rw [sub_pre _ _ (by omega), Option.bind_some]
   refine Y.ret (hok.set ⟨⟨?_, fun s hs => h1.2 s (List.mem_of_mem_take hs)⟩, ha.len, ha.rules⟩)
   dsimp only; rw [List.length_take]; have := h1.1; omega
  refine Y.cond (fun _ => ?_) fun _ => ?_
  ·refine (pruned_Y 5 FUEL _ (fuel_big (by omega)) (by omega) h2.2).bind fun x ⟨x1, x2⟩ => ?_
   rw [app_nil_ok (by omega) (by omega), Option.bind_some, app_ok (by simp; omega) (by simp; omega), Option.bind_some]
   refine Y.ret (hok.set ⟨ha.par, by dsimp only; simp; omega, fun z hz => ?_⟩)
   rcases List.mem_append.1 hz with hz | hz
   ·exact ha.rules z hz
   ·rw [List.mem_singleton.1 hz]; exact ⟨h2.1, x1, by dsimp only; omega⟩
  refine Y.cond (fun _ => ?_) fun _ => ?_
  ·rw [app_nil_ok (by omega) (by omega), Option.bind_some]
   have hne : 1 ≤ m.Rules.length := by rcases Nat.eq_zero_or_pos m.Rules.length with h | h; exact absurd (List.eq_nil_of_length_eq_zero h) hm.ne; exact h
   refine (within_Y p5 ((m.Rules.length : Nat) : Int) (by omega) (by omega)).bind fun x58 ⟨y1, y2⟩ => ?_
   refine (within_Y (ishr .i64 p5 4) 8 (by omega) (by omega)).bind fun x59 _ => ?_
   obtain ⟨j, rfl⟩ : ∃ j : Nat, x58 = (j : Int) := ⟨x58.toNat, by omega⟩
   have hj : j < m.Rules.length := by omega
   refine Y.idx rfl hj (Y.ret (hok.set ⟨ha.par, by dsimp only; rw [List.length_set]; omega, fun z hz => ?_⟩))
   rcases List.mem_or_eq_of_mem_set hz with hz | rfl
   ·exact ha.rules z hz
   ·have hr := ha.rules _ (List.getElem_mem hj)
    exact ⟨hr.pre, ⟨_, hr.rule.ex, hr.rule.nm, hr.rule.len, fun a h => hr.rule.arg h⟩, by have := hr.deep; rw [dep_eq] at this ⊢; exact this⟩
  ·rw [show sub x3 0 (k : Int) = some (x3.take k) from by unfold sub; rw [if_pos (by omega)]; simp, Option.bind_some, show sub x3 (k : Int) (x3.length : Int) = some (x3.drop k) from by unfold sub; rw [if_pos (by omega)]; simp, Option.bind_some,
    app_nil_ok (by simp; omega) (by omega), Option.bind_some, app_ok (by simp; omega) (by simp; omega), Option.bind_some, app_ok (by simp; omega) (by simp; omega)]
   refine Y.ret ⟨by simp; omega, fun b hb => ?_⟩
   rcases List.mem_append.1 hb with hb | hb
   ·rcases List.mem_append.1 hb with hb | hb
    ·exact hok.all b (List.mem_of_mem_take hb)
    ·rw [List.mem_singleton.1 hb]; exact ha
   ·exact hok.all b (List.mem_of_mem_drop hb)
 intro c ⟨l, e, h⟩
 rw [e, Option.bind_some, prog_agr l h, Option.bind_some, ref_agr l h, Option.bind_some]
 simp only [beq_self_eq_true, gd_tt, awake_ok, Option.bind_some, Bool.true_and]
theorem agreementChanged_law (m0 : List Int) (m1 : TAgreement) (m2 : TRuleFor) (m3 m4 m5 : Int) {κ : Kr} {v0 v1 v2 v3 v4 v5 : List Value} (_ : Rps κ (eL eI m0) v0) (s1 : Rps κ [.agg (TAgreement.enc m1)] v1) (s2 : Rps κ [.agg (TRuleFor.enc m2)] v2) (_ : Rps κ (eI m3) v3) (_ : Rps κ (eI m4) v4) (_ : Rps κ (eI m5) v5) : law14_AgreementChanged m0 m1 m2 m3 m4 m5 = some true := by
 obtain ⟨d1, h1⟩ := rps_agg s1
 obtain ⟨d2, h2⟩ := rps_agg s2
 exact changed_Y m0 m1 m2 m3 m4 m5 (rawA_of h1).par (rfok_of h2)
end SX
end Go.Proofs.YtiijbkaiipjpkaaGreatDoor
set_option maxRecDepth 100000
namespace Go.Proofs.YtiijbkaiipjpkaaGreatDoor
namespace SX
open Go
theorem op3 {H : Type} {eh : TypeId × Value → H} : Opens eh 3 eI := opens_int rfl
theorem op9 {H : Type} {eh : TypeId × Value → H} : Opens eh 9 eS := opens_str rfl
theorem op30 {H : Type} {eh : TypeId × Value → H} : Opens eh 30 (eL eS) := opens_slice rfl rfl rfl rfl op9
theorem opN36 {H : Type} {eh : TypeId × Value → H} : ∀ N, OpensN eh N 36 TRule.enc := by
 refine Nat.rec (motive := fun N => OpensN eh N 36 TRule.enc) (fun _ _ _ _ h => absurd h (Nat.not_lt_zero _)) (fun N ih => ?_)
 intro W fuel cs x hfu hx hw
 obtain ⟨xs, n, rfl, rfl, hl, hlen, hf⟩ := DataW.trod_struct (und_ok (t := 36) rfl) hx
 obtain ⟨x0, x1, x2, x3, x4, x5, x6, rfl⟩ : ∃ x0 x1 x2 x3 x4 x5 x6, xs = [x0, x1, x2, x3, x4, x5, x6] := by
  match xs, hlen with
  | [a0, a1, a2, a3, a4, a5, a6], _ => exact ⟨a0, a1, a2, a3, a4, a5, a6, rfl⟩
 have hw2 : ∀ n ∈ DataW.weightsEach Tryz.prog [3, 3, 30, 3, 3, 9, 34] [x0.1, x1.1, x2.1, x3.1, x4.1, x5.1, x6.1], n ≤ reachBytes := fun n hn => hw n (by simp only [DataW.weights, und_ok (t := 36) rfl]; exact hn)
 simp only [DataW.weightsEach, List.mem_append] at hw2
 have g0 : DataW.trod eh Tryz.prog W 0 (fun _ => true) true n 3 ((cs.drop 0).take (Tryz.prog.cellsOf 3)) = some x0 := hf 0 _ rfl
 rw [(cellsOf_eq (t := 3) rfl).1] at g0
 obtain ⟨m0, r0, o0⟩ := op3 W n _ _ g0 (fun n hn => hw2 n (.inl hn))
 have g1 : DataW.trod eh Tryz.prog W 0 (fun _ => true) true n 3 ((cs.drop 1).take (Tryz.prog.cellsOf 3)) = some x1 := hf 1 _ rfl
 rw [(cellsOf_eq (t := 3) rfl).1] at g1
 obtain ⟨m1, r1, o1⟩ := op3 W n _ _ g1 (fun n hn => hw2 n (.inr (.inl hn)))
 have g2 : DataW.trod eh Tryz.prog W 0 (fun _ => true) true n 30 ((cs.drop 2).take (Tryz.prog.cellsOf 30)) = some x2 := hf 2 _ rfl
 rw [(cellsOf_eq (t := 30) rfl).1] at g2
 obtain ⟨m2, r2, o2⟩ := op30 W n _ _ g2 (fun n hn => hw2 n (.inr (.inr (.inl hn))))
 have g3 : DataW.trod eh Tryz.prog W 0 (fun _ => true) true n 3 ((cs.drop 3).take (Tryz.prog.cellsOf 3)) = some x3 := hf 3 _ rfl
 rw [(cellsOf_eq (t := 3) rfl).1] at g3
 obtain ⟨m3, r3, o3⟩ := op3 W n _ _ g3 (fun n hn => hw2 n (.inr (.inr (.inr (.inl hn)))))
 have g4 : DataW.trod eh Tryz.prog W 0 (fun _ => true) true n 3 ((cs.drop 4).take (Tryz.prog.cellsOf 3)) = some x4 := hf 4 _ rfl
 rw [(cellsOf_eq (t := 3) rfl).1] at g4
 obtain ⟨m4, r4, o4⟩ := op3 W n _ _ g4 (fun n hn => hw2 n (.inr (.inr (.inr (.inr (.inl hn))))))
 have g5 : DataW.trod eh Tryz.prog W 0 (fun _ => true) true n 9 ((cs.drop 5).take (Tryz.prog.cellsOf 9)) = some x5 := hf 5 _ rfl
 rw [(cellsOf_eq (t := 9) rfl).1] at g5
 obtain ⟨m5, r5, o5⟩ := op9 W n _ _ g5 (fun n hn => hw2 n (.inr (.inr (.inr (.inr (.inr (.inl hn)))))))
 have g6 : DataW.trod eh Tryz.prog W 0 (fun _ => true) true n 34 ((cs.drop 6).take (Tryz.prog.cellsOf 34)) = some x6 := hf 6 _ rfl
 rw [(cellsOf_eq (t := 34) rfl).1] at g6
 obtain ⟨m6, r6, o6⟩ := opens_sliceN (t := 34) rfl rfl rfl rfl ih W n _ _ (by omega) g6 (fun n hn => hw2 n (.inr (.inr (.inr (.inr (.inr (.inr (.inl hn))))))))
 have hl2 : cs.length = 7 := hl.trans (cellsOf_eq (t := 36) rfl).1
 refine ⟨(⟨m0, m1, m2, m3, m4, m5, m6⟩ : TRule), ?_, (one_step (off := 0) o0 (one_step (off := 1) o1 (one_step (off := 2) o2 (one_step (off := 3) o3 (one_step (off := 4) o4 (one_step (off := 5) o5 (one_step (off := 6) o6 (one_end hl2))))))))⟩
 rw [TRule.enc_eq]; exact (rps_step (off := 0) r0 (rps_step (off := 1) r1 (rps_step (off := 2) r2 (rps_step (off := 3) r3 (rps_step (off := 4) r4 (rps_step (off := 5) r5 (rps_step (off := 6) r6 (rps_end hl2))))))))
theorem op36 {H : Type} {eh : TypeId × Value → H} : Opens eh 36 TRule.enc := fun W fuel cs x hx hw => opN36 (fuel + 1) W fuel cs x (Nat.lt_succ_self _) hx hw
theorem op38 {H : Type} {eh : TypeId × Value → H} : Opens eh 38 TRuleFor.enc := fun W fuel cs x hx hw => by
 obtain ⟨xs, n, rfl, rfl, hl, hlen, hf⟩ := DataW.trod_struct (und_ok (t := 38) rfl) hx
 obtain ⟨x0, x1, rfl⟩ : ∃ x0 x1, xs = [x0, x1] := by
  match xs, hlen with
  | [a0, a1], _ => exact ⟨a0, a1, rfl⟩
 have hw2 : ∀ n ∈ DataW.weightsEach Tryz.prog [9, 36] [x0.1, x1.1], n ≤ reachBytes := fun n hn => hw n (by simp only [DataW.weights, und_ok (t := 38) rfl]; exact hn)
 simp only [DataW.weightsEach, List.mem_append] at hw2
 have g0 : DataW.trod eh Tryz.prog W 0 (fun _ => true) true n 9 ((cs.drop 0).take (Tryz.prog.cellsOf 9)) = some x0 := hf 0 _ rfl
 rw [(cellsOf_eq (t := 9) rfl).1] at g0
 obtain ⟨m0, r0, o0⟩ := op9 W n _ _ g0 (fun n hn => hw2 n (.inl hn))
 have g1 : DataW.trod eh Tryz.prog W 0 (fun _ => true) true n 36 ((cs.drop 1).take (Tryz.prog.cellsOf 36)) = some x1 := hf 1 _ rfl
 rw [(cellsOf_eq (t := 36) rfl).1] at g1
 obtain ⟨m1, r1, o1⟩ := op36 W n _ _ g1 (fun n hn => hw2 n (.inr (.inl hn)))
 rw [TRule.enc_eq] at r1
 have hl2 : cs.length = 8 := hl.trans (cellsOf_eq (t := 38) rfl).1
 exact ⟨(⟨m0, m1⟩ : TRuleFor), (rps_step (off := 0) r0 (rps_step (off := 1) r1 (rps_end hl2))), (one_step (off := 0) o0 (one_step (off := 1) o1 (one_end hl2)))⟩
theorem op31 {H : Type} {eh : TypeId × Value → H} : Opens eh 31 (eL TRuleFor.enc) := opens_slice rfl rfl rfl rfl op38
theorem op33 {H : Type} {eh : TypeId × Value → H} : Opens eh 33 TAgreement.enc := fun W fuel cs x hx hw => by
 obtain ⟨xs, n, rfl, rfl, hl, hlen, hf⟩ := DataW.trod_struct (und_ok (t := 33) rfl) hx
 obtain ⟨x0, x1, x2, x3, rfl⟩ : ∃ x0 x1 x2 x3, xs = [x0, x1, x2, x3] := by
  match xs, hlen with
  | [a0, a1, a2, a3], _ => exact ⟨a0, a1, a2, a3, rfl⟩
 have hw2 : ∀ n ∈ DataW.weightsEach Tryz.prog [3, 3, 30, 31] [x0.1, x1.1, x2.1, x3.1], n ≤ reachBytes := fun n hn => hw n (by simp only [DataW.weights, und_ok (t := 33) rfl]; exact hn)
 simp only [DataW.weightsEach, List.mem_append] at hw2
 have g0 : DataW.trod eh Tryz.prog W 0 (fun _ => true) true n 3 ((cs.drop 0).take (Tryz.prog.cellsOf 3)) = some x0 := hf 0 _ rfl
 rw [(cellsOf_eq (t := 3) rfl).1] at g0
 obtain ⟨m0, r0, o0⟩ := op3 W n _ _ g0 (fun n hn => hw2 n (.inl hn))
 have g1 : DataW.trod eh Tryz.prog W 0 (fun _ => true) true n 3 ((cs.drop 1).take (Tryz.prog.cellsOf 3)) = some x1 := hf 1 _ rfl
 rw [(cellsOf_eq (t := 3) rfl).1] at g1
 obtain ⟨m1, r1, o1⟩ := op3 W n _ _ g1 (fun n hn => hw2 n (.inr (.inl hn)))
 have g2 : DataW.trod eh Tryz.prog W 0 (fun _ => true) true n 30 ((cs.drop 2).take (Tryz.prog.cellsOf 30)) = some x2 := hf 2 _ rfl
 rw [(cellsOf_eq (t := 30) rfl).1] at g2
 obtain ⟨m2, r2, o2⟩ := op30 W n _ _ g2 (fun n hn => hw2 n (.inr (.inr (.inl hn))))
 have g3 : DataW.trod eh Tryz.prog W 0 (fun _ => true) true n 31 ((cs.drop 3).take (Tryz.prog.cellsOf 31)) = some x3 := hf 3 _ rfl
 rw [(cellsOf_eq (t := 31) rfl).1] at g3
 obtain ⟨m3, r3, o3⟩ := op31 W n _ _ g3 (fun n hn => hw2 n (.inr (.inr (.inr (.inl hn)))))
 have hl2 : cs.length = 4 := hl.trans (cellsOf_eq (t := 33) rfl).1
 exact ⟨(⟨m0, m1, m2, m3⟩ : TAgreement), (rps_step (off := 0) r0 (rps_step (off := 1) r1 (rps_step (off := 2) r2 (rps_step (off := 3) r3 (rps_end hl2))))), (one_step (off := 0) o0 (one_step (off := 1) o1 (one_step (off := 2) o2 (one_step (off := 3) o3 (one_end hl2)))))⟩
theorem op23 {H : Type} {eh : TypeId × Value → H} : Opens eh 23 (eL eI) := opens_slice rfl rfl rfl rfl op3
end SX
end Go.Proofs.YtiijbkaiipjpkaaGreatDoor
set_option maxRecDepth 100000
namespace Go.Proofs.YtiijbkaiipjpkaaGreatDoor
open Go Go.ChangeShapes Go.WideShapes Go.RowKit
open SX
theorem agreementChanged_lifted (os : Os) (started : os.Started) (H : Type) (enc : TypeId × Value → H) :
    ReturnsInHanded {} Tryz.checked os 4 .any (fun w args => (Rows.agreementChangedSpec.pre enc Tryz.prog Tryz.f4 [] false w args ∧ laidMetH Tryz.prog laidL w) ∧ sizedMet enc Tryz.prog Tryz.f4 (OpenSpec.ofChange Rows.agreementChangedSpec) false w args)
      (Rows.agreementChangedSpec.post enc Tryz.prog Tryz.f4 false true false false) := by
  refine returnsInHanded_of_change_and (C := Tryz.checked) (X := fun w _ => laidMetH Tryz.prog laidL w) (fun _ _ _ hh h => h.of_heap hh) own_ok started (by kernel_rfl) Tryz.func4
    (ChangeSpec.witness_at (enc := enc) (C := Tryz.checked) (os := os) (X := fun w _ => laidMetH Tryz.prog laidL w) false (laidWorld os) #[.slice none 0 0, .agg #[.int .i64 0, .int .i64 0, .slice none 0 0, .slice none 0 0], .agg #[.string ByteArray.empty, .int .i64 0, .int .i64 0, .slice none 0 0, .int .i64 0, .int .i64 0, .string ByteArray.empty, .slice none 0 0], .int .i64 0, .int .i64 0, .int .i64 0] 8 rfl (by kernel_rfl) (by kernel_rfl) (by kernel_rfl) (by kernel_rfl) (by kernel_rfl) (laidWorld_met os _)) ?_
  intro W base args ds gs before hval0 hW _ hwt hL _
  have hval : ∀ (j : Nat) t v, Tryz.f4.params[j]? = some t → args[j]? = some v → Value.okWide Tryz.prog W .any base t v := hval0
  have hW2 := hW
  obtain ⟨p, q, hA0, hV0, rfl, _, _⟩ := hW
  have hA : DataW.TrodAll enc Tryz.prog W 0 (fun _ => true) true [23, 33, 38, 3, 3, 3] args.toList ds p := hA0
  obtain ⟨rfl, rfl⟩ : gs = [] ∧ q = [] := by
    cases gs with
    | nil => exact ⟨rfl, hV0⟩
    | cons g r => exact absurd hV0 (by intro h; cases h)
  generalize hargs : args.toList = vs at hA
  have hval2 : ∀ (j : Nat) t v, [23, 33, 38, 3, 3, 3][j]? = some t → vs[j]? = some v → Value.okWide Tryz.prog W .any base t v := fun j t v h1 h2 => hval j t v (by rw [Tryz.params4]; simpa using h1) (by rw [← hargs] at h2; simpa using h2)
  obtain ⟨v0, vs0, d0, ds0, p0, q0, rfl, rfl, h0, hA⟩ := SX.trodAll_cons hA
  obtain ⟨v1, vs1, d1, ds1, p1, q1, rfl, rfl, h1, hA⟩ := SX.trodAll_cons hA
  obtain ⟨v2, vs2, d2, ds2, p2, q2, rfl, rfl, h2, hA⟩ := SX.trodAll_cons hA
  obtain ⟨v3, vs3, d3, ds3, p3, q3, rfl, rfl, h3, hA⟩ := SX.trodAll_cons hA
  obtain ⟨v4, vs4, d4, ds4, p4, q4, rfl, rfl, h4, hA⟩ := SX.trodAll_cons hA
  obtain ⟨v5, vs5, d5, ds5, p5, q5, rfl, rfl, h5, hA⟩ := SX.trodAll_cons hA
  obtain ⟨rfl, rfl⟩ := SX.trodAll_nil hA
  have hw : (DataW.weightsEach Tryz.prog [23, 33, 38, 3, 3, 3] [d0, d1, d2, d3, d4, d5]).all (· ≤ reachBytes) = true := hwt
  obtain ⟨l0, hw⟩ := SX.light_head hw
  obtain ⟨m0, s0⟩ := arg_one rfl rfl op23 (fun _ => ⟨_, rfl⟩) (hval2 0 23 v0 rfl rfl) h0 l0
  obtain ⟨l1, hw⟩ := SX.light_head hw
  obtain ⟨m1, r1⟩ := arg_agg rfl rfl op33 (hval2 1 33 v1 rfl rfl) h1 l1
  have s1 := Rps.cons r1 .nil
  obtain ⟨l2, hw⟩ := SX.light_head hw
  obtain ⟨m2, r2⟩ := arg_agg rfl rfl op38 (hval2 2 38 v2 rfl rfl) h2 l2
  have s2 := Rps.cons r2 .nil
  obtain ⟨l3, hw⟩ := SX.light_head hw
  obtain ⟨m3, s3⟩ := arg_one rfl rfl op3 (fun _ => ⟨_, rfl⟩) (hval2 3 3 v3 rfl rfl) h3 l3
  obtain ⟨l4, hw⟩ := SX.light_head hw
  obtain ⟨m4, s4⟩ := arg_one rfl rfl op3 (fun _ => ⟨_, rfl⟩) (hval2 4 3 v4 rfl rfl) h4 l4
  obtain ⟨l5, hw⟩ := SX.light_head hw
  obtain ⟨m5, s5⟩ := arg_one rfl rfl op3 (fun _ => ⟨_, rfl⟩) (hval2 5 3 v5 rfl rfl) h5 l5
  exact row_post (readB (by kernel_rfl)) rfl (und_ok rfl) rfl (by simp [Rows.agreementChangedSpec]) hW2 (gok_of_laid hL) (by rw [hargs]; exact (s0.app (s1.app (s2.app (s3.app (s4.app s5)))))) (law14_AgreementChanged_ok (agreementChanged_law m0 m1 m2 m3 m4 m5 s0 s1 s2 s3 s4 s5))
theorem agreementChanged_holds : Rows.AgreementChangedSaid :=
 OpenClaim.holds_of_wide 4 Tryz.f4 rfl rfl rfl rfl rfl rfl rfl ⟨rfl, rfl, rfl, rfl, rfl⟩ rfl rfl rfl rfl rfl (by kernel_rfl) Tryz.func4 (by kernel_rfl)
  (of_decide_eq_true (by kernel_rfl)) (by unfold Func.isWrapper; rw [if_neg (of_decide_eq_false (by kernel_rfl))]; exact ⟨rfl, rfl⟩)
  (fun os started H enc _ => agreementChanged_lifted os started H enc)
theorem agreementChanged_card : Rows.AgreementChangedCardSaid :=
 Claim7.holds_tied_plain_at .later [] [.data, .data, .pinned] true (true, "daaef14461230708ffb83573f1fcc36e0026bff35fd16ab9288311ad3f1de33f") true
  agreementChanged_holds (fun _ h => by cases h) (by kernel_rfl) (fun _ h => by cases h) agreementChanged_row_tie rfl ⟨rfl, rfl⟩ (by kernel_rfl) rfl
  (fun f fn hf hfn => by
   obtain rfl : f = 4 := Option.some.inj ((show Tryz.prog.funcNamed "customs/customslaw14.AgreementChanged" = some 4 by kernel_rfl).symm.trans hf) |>.symm
   obtain rfl : fn = Tryz.f4 := (Option.some.inj (Tryz.func4.symm.trans hfn)).symm
   exact ⟨by kernel_rfl, fun j t ht => by
    rw [Tryz.params4] at ht
    exact standIns_no (by kernel_rfl) ht⟩)
  (by kernel_rfl)
#print axioms agreementChanged_card
end Go.Proofs.YtiijbkaiipjpkaaGreatDoor
