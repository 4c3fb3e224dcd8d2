/- A part of the proof: texts of the walk and of the plain laws, merged. No condition. -/
import Derived.Test.YtiijbkaiipjpkaaGreatDoorM2
import Derived.Test.YtiijbkaiipjpkaaGreatDoorChecked
import Derived.KernelRfl
import Derived.WalkKit
import Derived.OrdersHeld
import Derived.Laws.CopyRow
import Derived.Laws.StructEq
import Derived.Maps.AppendAt
import Derived.Laws.MakeOwn
import Derived.Laws.BytesArg
import Derived.Laws.Externs
import Derived.Laws.Cover3
import Derived.MapKept
import Derived.Laws.RangeAny
import Derived.Laws.RangeString
import Derived.Shelf.Slices.In.SortNone
import Derived.Shelf.Sort.Plain
import Derived.Test.YtiijbkaiipjpkaaGreatDoorProg
import Derived.Shelf.SlSortCmp.NoneTotal
import Derived.Ground.SlsfProg
import Derived.ChangeArms
import Derived.DataReads
import GoSem.ClaimJoined
import Derived.Test.YtiijbkaiipjpkaaGreatDoorRows
import Derived.ChangeSame
import Derived.ChangeVars
import Derived.JoinedOf
import Derived.RowKit
import Derived.RowKitTokens
import Derived.LaidLaws
import Derived.LaidHandle
import Derived.Carry
import Derived.Handed
import Derived.ChangeOld
import Derived.SevenTiedAt
import Derived.Test.YtiijbkaiipjpkaaGreatDoorCards
import Derived.Test.YtiijbkaiipjpkaaGreatDoorTie
set_option linter.unusedVariables false
set_option linter.unusedSimpArgs false
set_option maxRecDepth 100000
namespace Go.Proofs.YtiijbkaiipjpkaaGreatDoor
namespace SX
open Go
attribute [local irreducible] PWL PWC PWD POpL POpQ PEv PGuardIs PSub PPick PUpd PSplice PFill PLit PF PFV PCall FOk pseqK pblockK pmidK pcutK ploopK pretK Cov PHolds loopF idx app mk gd lb nz ge0 cat sub ssub iand ior ixor ishl ishr imin imax IntKind.wrap Int.tmod Int.tdiv Op.bytesLess strOfNums
def production_isCapital (p0 : Int) : Option Bool := some ((decide (65 ≤ p0)) && (decide (p0 ≤ 90)))
set_option maxHeartbeats 4000000 in
theorem production_isCapital_ok {p0 : Int} {r : Bool}  (h : production_isCapital p0 = some r) : PF 106 [pY p0] (pB r) := by
 unfold production_isCapital at h
 refine pf_of ?_
 refine penter Tryz.func106 fk106 rfl Tryz.ntmps106 Tryz.results106 rfl ?_
 refine yaa ?_
 refine yad [] [2] [] fo0 (by kernel_rfl) ?_
 refine yab (yaa ?_)
 refine yad [] [3, 4, 5, 6, 7, 8] [(2, pB ((decide (65 ≤ p0)) && (decide (p0 ≤ 90))))] fo0 (by kernel_rfl) ?_
 refine yab (yak ?_)
 obtain rfl := Option.some.inj h
 exact yal (ybc (yao rfl)) zsn ⟨rfl, rfl⟩
def production_ValidCountry (p0 : ByteArray) : Option Bool := Option.bind (gd ((p0.size : Int) == 2) (idx p0.data.toList 0)) (fun c1 => Option.bind (gd ((p0.size : Int) == 2) (production_isCapital (c1.toNat : Int))) (fun x2 => Option.bind (gd (((p0.size : Int) == 2) && x2) (idx p0.data.toList 1)) (fun c3 => Option.bind (gd (((p0.size : Int) == 2) && x2) (production_isCapital (c3.toNat : Int))) (fun x4 => some ((((p0.size : Int) == 2) && x2) && x4)))))
set_option maxHeartbeats 4000000 in
theorem production_ValidCountry_ok {p0 : ByteArray} {r : Bool}  (h : production_ValidCountry p0 = some r) : PF 76 [pS p0] (pB r) := by
 unfold production_ValidCountry at h
 refine pf_of ?_
 refine penter Tryz.func76 fk76 rfl Tryz.ntmps76 Tryz.results76 rfl ?_
 refine yaa ?_
 refine yad [] [2] [] fo0 (by kernel_rfl) ?_
 refine yab (yaa ?_)
 refine yac h ?_; clear h; intro c1 hc1 h
 refine yac h ?_; clear h; intro x2 hx2 h
 refine yac h ?_; clear h; intro c3 hc3 h
 refine yac h ?_; clear h; intro x4 hx4 h
 refine yad [] [3, 4, 5, 6, 7, 8, 9, 10, 11, 12, 13, 14, 15] [(2, pB ((((p0.size : Int) == 2) && x2) && x4))] (fosxg 5 (gd_t hc1) (foclg 6 (fun hc => production_isCapital_ok (gd_t hx2 hc)) (fosxg 10 (gd_t hc3) (foclg 11 (fun hc => production_isCapital_ok (gd_t hx4 hc)) fo0)))) (by kernel_rfl) ?_
 refine yab (yak ?_)
 obtain rfl := Option.some.inj h
 exact yal (ybc (yao rfl)) zsn ⟨rfl, rfl⟩
def made_Within (p0 : Int) (p1 : Int) : Option Int := Option.bind (nz p1) (fun u1 => Option.bind (nz p1) (fun u2 => lb ((Int.tmod (IntKind.i64.wrap ((Int.tmod p0 p1) + p1)) p1)) (fun w3 => some w3)))
set_option maxHeartbeats 4000000 in
theorem made_Within_ok {p0 : Int} {p1 : Int} {r : Int}  (h : made_Within p0 p1 = some r) : PF 15 [pI p0, pI p1] (pI r) := by
 unfold made_Within at h
 refine pf_of ?_
 refine penter Tryz.func15 fk15 rfl Tryz.ntmps15 Tryz.results15 rfl ?_
 refine yaa ?_
 refine yad [] [4] [] fo0 (by kernel_rfl) ?_
 refine yab (yaa ?_)
 refine yac h ?_; clear h; intro u1 hu1 h
 refine yac h ?_; clear h; intro u2 hu2 h
 refine lb_elim h ?_; clear h; intro w3 hw3 h
 refine yaf ?_
 refine yam 7 [] [5, 6, 7, 8, 9, 10] [(11, pI (Int.tmod (IntKind.i64.wrap ((Int.tmod p0 p1) + p1)) p1))] (fonz 2 hu1 (fonz 6 hu2 fo0)) (by kernel_rfl) ?_
 refine pwl_q rfl rfl rfl (pq_assign rfl (.p (congrArg (fun z => PV.v (Value.int .i64 z)) hw3))) ?_
 refine yba (yab (yak ?_))
 obtain rfl := Option.some.inj h
 exact yal (ybc (yao rfl)) zsn ⟨rfl, rfl⟩
def made_Cut (p0 : (List Int)) (p1 : Int) : Option (List Int) := cond (decide (p1 < (p0.length : Int))) (Option.bind (sub p0 0 p1) (fun l2 => some l2)) (some p0)
set_option maxHeartbeats 4000000 in
theorem made_Cut_ok {p0 : (List Int)} {p1 : Int} {r : (List Int)}  (h : made_Cut p0 p1 = some r) : PF 49 [pL eI p0, pI p1] (pL eI r) := by
 unfold made_Cut at h
 refine pf_of ?_
 refine penter Tryz.func49 fk49 rfl Tryz.ntmps49 Tryz.results49 rfl ?_
 refine yaa ?_
 refine yad [] [4] [] fo0 (by kernel_rfl) ?_
 refine yab (yaa (yaa ?_))
 refine yad [] [5, 6, 7] [(8, pB (decide (p1 < (p0.length : Int))))] fo0 (by kernel_rfl) ?_
 refine yab ?_
 refine yah rfl (fun hc1 => ?_) (fun hc1 => ?_)
 ·replace h := yap hc1 h
  refine yaa ?_
  refine yac h ?_; clear h; intro l2 hl2 h
  refine yad [] [9, 10, 11] [(4, pL eI l2)] (fosl 2 eI 1 (fun _ => rfl) hl2 fo0) (by kernel_rfl) ?_
  refine yab (yak (yai ?_))
  obtain rfl := Option.some.inj h
  exact yal (ybc (yao rfl)) zsn ⟨rfl, rfl⟩
 ·replace h := yaq hc1 h
  refine yaj (yab (yaa ?_))
  refine yad [] [12] [(4, pL eI p0)] fo0 (by kernel_rfl) ?_
  refine yab (yak ?_)
  obtain rfl := Option.some.inj h
  exact yal (ybc (yao rfl)) zsn ⟨rfl, rfl⟩
def cumulation_validParties (p0 : (List ByteArray)) : Option Bool := Option.bind (loopF (S := Int) (T := (Unit) ⊕ (_)) (fun v1 => cond (decide (v1 < (p0.length : Int))) (Option.bind (idx p0 v1) (fun m5 => Option.bind (production_ValidCountry m5) (fun x6 => Option.bind (gd ((!(!x6)) && (decide (0 < v1))) (idx p0 (IntKind.i64.wrap (v1 - 1)))) (fun m7 => cond ((!x6) || ((decide (0 < v1)) && (Op.bytesLess m5.toList m7.toList || decide (m5 = m7)))) (some (.inr (.inr false))) (some (.inl (IntKind.i64.wrap (v1 + 1)))))))) (some (.inr (.inl ())))) FUEL 0) (fun q => match q with | .inl _ => some true | .inr e => some e)
set_option maxHeartbeats 4000000 in
theorem cumulation_validParties_ok {p0 : (List ByteArray)} {r : Bool}  (h : cumulation_validParties p0 = some r) : PF 44 [pL eS p0] (pB r) := by
 unfold cumulation_validParties at h
 refine pf_of ?_
 refine penter Tryz.func44 fk44 rfl Tryz.ntmps44 Tryz.results44 rfl ?_
 refine yaa ?_
 refine yad [] [2] [] fo0 (by kernel_rfl) ?_
 refine yab (yaa (yaa ?_))
 refine yad [] [] [(5, pL eS p0), (6, pI (p0.length : Int)), (7, pI 0)] fo0 (by kernel_rfl) ?_
 refine yab ?_
 refine yac h ?_; clear h; intro q3 hq3 h
 refine yaz (Y := (Unit) × (Unit)) (fun (_, _) => []) (fun (_, _) => []) (fun (_, _) => q3 = Sum.inl ()) ?_ ?_
 ·refine yan ?_
  refine ybd (Y := Unit) (S := Int) _ hq3 (fun _ v1 => [(0, pL eS p0), (5, pL eS p0), (6, pI (p0.length : Int)), (7, pI v1)]) (fun _ v1 => []) () (zhc rfl (zhc rfl (zhc rfl (zhc rfl zhn)))) zsn ?_
  rintro _ v1 o τ hb2; (try dsimp only at hb2); dsimp only [pupds]
  refine yaa ?_
  refine yad [] [] [(8, pB (decide (v1 < (p0.length : Int))))] fo0 (by kernel_rfl) ?_
  refine yab (yaa ?_)
  refine yah rfl (fun hc4 => ?_) (fun hc4 => ?_)
  ·replace hb2 := yap hc4 hb2
   refine yaj (yab (yaa (yan (yaa ?_))))
   refine yac hb2 ?_; clear hb2; intro m5 hm5 hb2
   refine yad [] [9, 10, 11] [(3, pI v1), (4, pS m5)] (foix 1 eS hm5 fo0) (by kernel_rfl) ?_
   refine yab (yaa ?_)
   refine yac hb2 ?_; clear hb2; intro x6 hx6 hb2
   refine yac hb2 ?_; clear hb2; intro m7 hm7 hb2
   refine yad [] [12, 13, 14, 15, 16, 17, 18, 19, 20, 21, 22, 23, 24, 25, 26] [(27, pB ((!x6) || ((decide (0 < v1)) && (Op.bytesLess m5.toList m7.toList || decide (m5 = m7)))))] (focl 1 (production_ValidCountry_ok hx6) (foixg 11 eS (gd_t hm7) fo0)) (by kernel_rfl) ?_
   refine yab ?_
   refine yah rfl (fun hc8 => ?_) (fun hc8 => ?_)
   ·replace hb2 := yap hc8 hb2
    refine yaa ?_
    refine yad [] [] [(2, pB false)] fo0 (by kernel_rfl) ?_
    refine yab (yak (yag (yai ?_)))
    refine pk_loop_ret hb2 (fun ht => ?_); subst ht
    have h := (show some _ = some _ from h)
    refine yag (yax ?_)
    obtain rfl := Option.some.inj h
    exact yal (ybc (yao rfl)) zsn ⟨rfl, rfl⟩
   ·replace hb2 := yaq hc8 hb2
    refine yaj (yae (yab ?_))
    refine yad [] [28] [(7, pI (IntKind.i64.wrap (v1 + 1)))] fo0 (by kernel_rfl) ?_
    exact pk_loop hb2 () (zhc rfl (zhc rfl (zhc rfl (zhc rfl zhn)))) zsn
  ·replace hb2 := yaq hc4 hb2
   refine pwc_exit (yav ?_)
   refine yar hb2 (fun ht => ?_)
   refine yau rfl ?_
   exact pk_mid ((), ()) zhn zsn ht.symm
 ·rintro ⟨_, _⟩ τ hz; (try dsimp only at hz); subst q3; (try dsimp only at h); dsimp only [pupds]
  refine yaa ?_
  refine yad [] [] [(2, pB true)] fo0 (by kernel_rfl) ?_
  refine yab (yak ?_)
  obtain rfl := Option.some.inj h
  exact yal (ybc (yao rfl)) zsn ⟨rfl, rfl⟩
def ref14_Contains (p0 : (List TOriginClaim)) (p1 : TOriginClaim) : Option Bool := Option.bind (loopF (S := Int) (T := (Unit) ⊕ (_)) (fun v2 => cond (decide (v2 < (p0.length : Int))) (Option.bind (idx p0 v2) (fun m6 => cond (TOriginClaim.eqb m6 p1) (some (.inr (.inr true))) (some (.inl (IntKind.i64.wrap (v2 + 1)))))) (some (.inr (.inl ())))) FUEL 0) (fun q => match q with | .inl _ => some false | .inr e => some e)
set_option maxHeartbeats 4000000 in
theorem ref14_Contains_ok {p0 : (List TOriginClaim)} {p1 : TOriginClaim} {r : Bool}  (h : ref14_Contains p0 p1 = some r) : PF 35 [pL TOriginClaim.enc p0, .agg [pI p1.Product, pI p1.Agreement]] (pB r) := by
 unfold ref14_Contains at h
 refine pf_of ?_
 refine penter Tryz.func35 fk35 rfl Tryz.ntmps35 Tryz.results35 rfl ?_
 refine yaa (yaf ?_)
 refine yay rfl rfl rfl (pl_box (cs := [pI p1.Product, pI p1.Agreement]) rfl rfl (fun b1 => ?_))
 refine yas [] [4] [] fo0 (by kernel_rfl) ?_
 refine yab (yaa (yaa ?_))
 refine yad [] [] [(5, pI 0)] fo0 (by kernel_rfl) ?_
 refine yab ?_
 refine yac h ?_; clear h; intro q4 hq4 h
 refine yaz (Y := (Unit) × (Unit)) (fun (_, _) => []) (fun (_, _) => []) (fun (_, _) => q4 = Sum.inl ()) ?_ ?_
 ·refine yan ?_
  refine ybd (Y := Unit) (S := Int) _ hq4 (fun _ v2 => [(0, pL TOriginClaim.enc p0), (3, pP b1 0), (5, pI v2)]) (fun _ v2 => [PRes.b b1 54 [pI p1.Product, pI p1.Agreement]]) () (zhc rfl (zhc rfl (zhc rfl zhn))) (zsc zph zsn) ?_
  rintro _ v2 o τ hb3; (try dsimp only at hb3); dsimp only [pupds]
  refine yaa (yaa ?_)
  refine yad [] [6, 7, 8] [(9, pB (decide (v2 < (p0.length : Int))))] fo0 (by kernel_rfl) ?_
  refine yab ?_
  refine yah rfl (fun hc5 => ?_) (fun hc5 => ?_)
  ·replace hb3 := yap hc5 hb3
   refine yaj (yab (yaa (yan (yaa ?_))))
   refine pwc_draw (ρd := []) [(0, 0), (1, 0), (2, 0), (3, 0), (4, 0), (5, 0)] _ (List.Perm.refl _) (by kernel_rfl) rfl ?_
   refine yac hb3 ?_; clear hb3; intro m6 hm6 hb3
   refine pwd_run 6 [0] [12, 13, 14, 15, 16] [(17, pB (TOriginClaim.eqb m6 p1))] (foix 2 TOriginClaim.enc hm6 (foeq 5 TOriginClaim.eqok54 fo0)) (by kernel_rfl) ?_
   refine pwd_nil (yab ?_)
   refine yah rfl (fun hc7 => ?_) (fun hc7 => ?_)
   ·replace hb3 := yap hc7 hb3
    refine yaa ?_
    refine yad [] [] [(4, pB true)] fo0 (by kernel_rfl) ?_
    refine yab (yak (yag (yai ?_)))
    refine pk_loop_ret hb3 (fun ht => ?_); subst ht
    have h := (show some _ = some _ from h)
    refine yag (yax ?_)
    obtain rfl := Option.some.inj h
    exact yal (ybc (yao rfl)) zsn ⟨rfl, rfl⟩
   ·replace hb3 := yaq hc7 hb3
    refine yaj (yae (yab ?_))
    refine yad [] [10, 11] [(5, pI (IntKind.i64.wrap (v2 + 1)))] fo0 (by kernel_rfl) ?_
    exact pk_loop hb3 () (zhc rfl (zhc rfl (zhc rfl zhn))) (zsc zph zsn)
  ·replace hb3 := yaq hc5 hb3
   refine pwc_exit (yav ?_)
   refine yar hb3 (fun ht => ?_)
   refine yau rfl ?_
   exact pk_mid ((), ()) zhn zsn ht.symm
 ·rintro ⟨_, _⟩ τ hz; (try dsimp only at hz); subst q4; (try dsimp only at h); dsimp only [pupds]
  refine yaa ?_
  refine yad [] [] [(4, pB false)] fo0 (by kernel_rfl) ?_
  refine yab (yak ?_)
  obtain rfl := Option.some.inj h
  exact yal (ybc (yao rfl)) zsn ⟨rfl, rfl⟩
def rule_nodes_B (rec : TRule → Int → Option Int) (p0 : TRule) (p1 : Int) : Option Int := Option.bind (loopF (S := Int × Int) (T := (Int) ⊕ (_)) (fun (v2, v3) => cond (decide (v3 < (p0.Args.length : Int))) (Option.bind (idx p0.Args v3) (fun m8 => cond (decide (p1 ≤ v2)) (some (.inr (.inr p1))) (Option.bind (rec m8 (IntKind.i64.wrap (p1 - v2))) (fun x11 => some (.inl ((IntKind.i64.wrap (v2 + x11)), (IntKind.i64.wrap (v3 + 1)))))))) (some (.inr (.inl v2)))) FUEL (1, 0)) (fun q => match q with | .inl v4 => some v4 | .inr e => some e)
set_option maxHeartbeats 4000000 in
theorem rule_nodes_B_ok {rec : TRule → Int → Option Int} (hrec : ∀ {p0 : TRule} {p1 : Int} {r : Int}, rec p0 p1 = some r → PF 82 [.agg [pI p0.Kind, pI p0.Digits, pL eS p0.Except, pI p0.Tolerance, pI p0.Limit, pS p0.Name, pL TRule.enc p0.Args], pI p1] (pI r)) {p0 : TRule} {p1 : Int} {r : Int} (h : rule_nodes_B rec p0 p1 = some r) : PF 82 [.agg [pI p0.Kind, pI p0.Digits, pL eS p0.Except, pI p0.Tolerance, pI p0.Limit, pS p0.Name, pL TRule.enc p0.Args], pI p1] (pI r) := by
 unfold rule_nodes_B at h
 refine pf_of ?_
 refine penter Tryz.func82 fk82 rfl Tryz.ntmps82 Tryz.results82 rfl ?_
 refine yaa (yaf ?_)
 refine yay rfl rfl rfl (pl_box (cs := [pI p0.Kind, pI p0.Digits, pL eS p0.Except, pI p0.Tolerance, pI p0.Limit, pS p0.Name, pL TRule.enc p0.Args]) rfl rfl (fun b1 => ?_))
 refine yas [] [4] [] fo0 (by kernel_rfl) ?_
 refine yab (yaa ?_)
 refine yad [] [] [(5, pI 1)] fo0 (by kernel_rfl) ?_
 refine yab (yaa (yaa ?_))
 refine yad [0] [8] [(9, pL TRule.enc p0.Args), (10, pI (p0.Args.length : Int)), (11, pI 0)] fo0 (by kernel_rfl) ?_
 refine yab ?_
 refine yac h ?_; clear h; intro q6 hq6 h
 refine yaz (Y := (Unit) × (Int)) (fun (_, v4) => [(5, pI v4)]) (fun (_, v4) => []) (fun (_, v4) => q6 = Sum.inl v4) ?_ ?_
 ·refine yan ?_
  refine ybd (Y := Unit) (S := Int × Int) _ hq6 (fun _ (v2, v3) => [(1, pI p1), (5, pI v2), (9, pL TRule.enc p0.Args), (10, pI (p0.Args.length : Int)), (11, pI v3)]) (fun _ (v2, v3) => []) () (zhc rfl (zhc rfl (zhc rfl (zhc rfl (zhc rfl zhn))))) zsn ?_
  rintro _ ⟨v2, v3⟩ o τ hb5; (try dsimp only at hb5); dsimp only [pupds]
  refine yaa ?_
  refine yad [] [] [(12, pB (decide (v3 < (p0.Args.length : Int))))] fo0 (by kernel_rfl) ?_
  refine yab (yaa ?_)
  refine yah rfl (fun hc7 => ?_) (fun hc7 => ?_)
  ·replace hb5 := yap hc7 hb5
   refine yaj (yab (yaa (yan (yaa ?_))))
   refine yac hb5 ?_; clear hb5; intro m8 hm8 hb5
   refine yaf ?_
   refine yam 2 [] [13] [(14, .agg [pI m8.Kind, pI m8.Digits, pL eS m8.Except, pI m8.Tolerance, pI m8.Limit, pS m8.Name, pL TRule.enc m8.Args])] (foixr 0 TRule.enc (TRule.enc_eq _) hm8 fo0) (by kernel_rfl) ?_
   refine yay rfl rfl rfl (pl_alloc (cs := [pI 0, pI 0, pN, pI 0, pI 0, pS ByteArray.empty, pN]) rfl rfl rfl rfl (fun b9 => ?_))
   refine pwl_l0 rfl rfl (yaw (vs := [pI m8.Kind, pI m8.Digits, pL eS m8.Except, pI m8.Tolerance, pI m8.Limit, pS m8.Name, pL TRule.enc m8.Args]) rfl rfl rfl rfl rfl zuh (zlc (zlc (zlc (zlc (zlc (zlc (zlc zln))))))) ?_)
   refine yba (yab (yaa (yaa ?_)))
   refine yad [] [15, 16] [(17, pB (decide (p1 ≤ v2)))] fo0 (by kernel_rfl) ?_
   refine yab ?_
   refine yah rfl (fun hc10 => ?_) (fun hc10 => ?_)
   ·replace hb5 := yap hc10 hb5
    refine yaa ?_
    refine yad [] [18] [(4, pI p1)] fo0 (by kernel_rfl) ?_
    refine yab (yak (yai (yag (yai ?_))))
    refine pk_loop_ret hb5 (fun ht => ?_); subst ht
    have h := (show some _ = some _ from h)
    refine yag (yax ?_)
    obtain rfl := Option.some.inj h
    exact yal (ybc (yao rfl)) zsn ⟨rfl, rfl⟩
   ·replace hb5 := yaq hc10 hb5
    refine yaj (yab ?_)
    refine yac hb5 ?_; clear hb5; intro x11 hx11 hb5
    refine yad [0] [19, 20, 21, 22, 23, 24, 25] [(5, pI (IntKind.i64.wrap (v2 + x11)))] (focl 5 (hrec hx11) fo0) (by kernel_rfl) ?_
    refine yae (yab ?_)
    refine yad [] [26] [(11, pI (IntKind.i64.wrap (v3 + 1)))] fo0 (by kernel_rfl) ?_
    exact pk_loop hb5 () (zhc rfl (zhc rfl (zhc rfl (zhc rfl (zhc rfl zhn))))) zsn
  ·replace hb5 := yaq hc7 hb5
   refine pwc_exit (yav ?_)
   refine yar hb5 (fun ht => ?_)
   refine yau rfl ?_
   exact pk_mid ((), v2) (zhc rfl zhn) zsn ht.symm
 ·rintro ⟨_, v4⟩ τ hz; (try dsimp only at hz); subst q6; (try dsimp only at h); dsimp only [pupds]
  refine yaa ?_
  refine yad [] [27] [(4, pI v4)] fo0 (by kernel_rfl) ?_
  refine yab (yak ?_)
  obtain rfl := Option.some.inj h
  exact yal (ybc (yao rfl)) zsn ⟨rfl, rfl⟩
def rule_nodes_F (n : Nat) : TRule → Int → Option Int := Nat.rec (motive := fun _ => TRule → Int → Option Int) (fun _ _ => none) (fun _ ih => rule_nodes_B ih) n
def rule_nodes (p0 : TRule) (p1 : Int) : Option Int := rule_nodes_F FUEL p0 p1
theorem rule_nodes_Fok (n : Nat) : ∀ {p0 : TRule} {p1 : Int} {r : Int}, rule_nodes_F n p0 p1 = some r → PF 82 [.agg [pI p0.Kind, pI p0.Digits, pL eS p0.Except, pI p0.Tolerance, pI p0.Limit, pS p0.Name, pL TRule.enc p0.Args], pI p1] (pI r) := by
 induction n with
 | zero => intros; rename_i h; exact nomatch h
 | succ n ih => intros; rename_i h; exact rule_nodes_B_ok (fun hr => ih hr) h
theorem rule_nodes_ok {p0 : TRule} {p1 : Int} {r : Int} (h : rule_nodes p0 p1 = some r) : PF 82 [.agg [pI p0.Kind, pI p0.Digits, pL eS p0.Except, pI p0.Tolerance, pI p0.Limit, pS p0.Name, pL TRule.enc p0.Args], pI p1] (pI r) := rule_nodes_Fok FUEL h
def rule_plain (p0 : TRule) : Option Bool := cond ((!(p0.Kind == 2)) && (((p0.Digits != 0) || (decide (0 < (p0.Except.length : Int)))) || (p0.Tolerance != 0))) (some false) (cond ((p0.Kind != 3) && (p0.Limit != 0)) (some false) (cond ((p0.Kind != 4) && (!decide (p0.Name = (⟨#[]⟩ : ByteArray)))) (some false) (some (((p0.Kind == 5) || (p0.Kind == 6)) || ((p0.Args.length : Int) == 0)))))
set_option maxHeartbeats 4000000 in
theorem rule_plain_ok {p0 : TRule} {r : Bool}  (h : rule_plain p0 = some r) : PF 110 [.agg [pI p0.Kind, pI p0.Digits, pL eS p0.Except, pI p0.Tolerance, pI p0.Limit, pS p0.Name, pL TRule.enc p0.Args]] (pB r) := by
 unfold rule_plain at h
 refine pf_of ?_
 refine penter Tryz.func110 fk110 rfl Tryz.ntmps110 Tryz.results110 rfl ?_
 refine yaa (yaf ?_)
 refine yay rfl rfl rfl (pl_box (cs := [pI p0.Kind, pI p0.Digits, pL eS p0.Except, pI p0.Tolerance, pI p0.Limit, pS p0.Name, pL TRule.enc p0.Args]) rfl rfl (fun b1 => ?_))
 refine yas [] [2] [] fo0 (by kernel_rfl) ?_
 refine yab (yaa ?_)
 refine yad [0] [5, 6, 7] [(3, pB (p0.Kind == 2))] fo0 (by kernel_rfl) ?_
 refine yab (yaa ?_)
 refine yad [0, 0] [8, 9, 10, 11, 12, 13, 14, 15] [(4, pB ((p0.Kind == 5) || (p0.Kind == 6)))] fo0 (by kernel_rfl) ?_
 refine yab (yaa (yan (yaa ?_)))
 refine yad [0, 0, 0] [17, 18, 19, 20, 21, 22, 23, 24, 25, 26, 27, 28, 29, 30, 31, 32, 33, 34] [(16, pB ((!(p0.Kind == 2)) && (((p0.Digits != 0) || (decide (0 < (p0.Except.length : Int)))) || (p0.Tolerance != 0))))] fo0 (by kernel_rfl) ?_
 refine yab ?_
 refine yah rfl (fun hc2 => ?_) (fun hc2 => ?_)
 ·replace h := yap hc2 h
  refine yaa ?_
  refine yad [] [] [(2, pB false)] fo0 (by kernel_rfl) ?_
  refine yab (yak (yag (yai ?_)))
  obtain rfl := Option.some.inj h
  exact yal (ybc (yao rfl)) zsn ⟨rfl, rfl⟩
 ·replace h := yaq hc2 h
  refine yaa ?_
  refine yad [0, 0] [36, 37, 38, 39, 40, 41, 42, 43] [(35, pB ((p0.Kind != 3) && (p0.Limit != 0)))] fo0 (by kernel_rfl) ?_
  refine yab ?_
  refine yah rfl (fun hc3 => ?_) (fun hc3 => ?_)
  ·replace h := yap hc3 h
   refine yaa ?_
   refine yad [] [] [(2, pB false)] fo0 (by kernel_rfl) ?_
   refine yab (yak (yag (yai ?_)))
   obtain rfl := Option.some.inj h
   exact yal (ybc (yao rfl)) zsn ⟨rfl, rfl⟩
  ·replace h := yaq hc3 h
   refine yaa ?_
   refine yad [0, 0] [45, 46, 47, 48, 49, 50, 51, 52] [(44, pB ((p0.Kind != 4) && (!decide (p0.Name = (⟨#[]⟩ : ByteArray)))))] fo0 (by kernel_rfl) ?_
   refine yab ?_
   refine yah rfl (fun hc4 => ?_) (fun hc4 => ?_)
   ·replace h := yap hc4 h
    refine yaa ?_
    refine yad [] [] [(2, pB false)] fo0 (by kernel_rfl) ?_
    refine yab (yak (yag (yai ?_)))
    obtain rfl := Option.some.inj h
    exact yal (ybc (yao rfl)) zsn ⟨rfl, rfl⟩
   ·replace h := yaq hc4 h
    refine yaj (yae (yab (yaa ?_)))
    refine yad [0] [53, 54, 55, 56, 57, 58, 59] [(2, pB (((p0.Kind == 5) || (p0.Kind == 6)) || ((p0.Args.length : Int) == 0)))] fo0 (by kernel_rfl) ?_
    refine yab (yak ?_)
    obtain rfl := Option.some.inj h
    exact yal (ybc (yao rfl)) zsn ⟨rfl, rfl⟩
def rule_millionths (p0 : Int) : Option Bool := some ((decide (0 ≤ p0)) && (decide (p0 ≤ 1000000)))
set_option maxHeartbeats 4000000 in
theorem rule_millionths_ok {p0 : Int} {r : Bool}  (h : rule_millionths p0 = some r) : PF 112 [pI p0] (pB r) := by
 unfold rule_millionths at h
 refine pf_of ?_
 refine penter Tryz.func112 fk112 rfl Tryz.ntmps112 Tryz.results112 rfl ?_
 refine yaa ?_
 refine yad [] [2] [] fo0 (by kernel_rfl) ?_
 refine yab (yaa ?_)
 refine yad [] [3, 4, 5, 6, 7, 8] [(2, pB ((decide (0 ≤ p0)) && (decide (p0 ≤ 1000000))))] fo0 (by kernel_rfl) ?_
 refine yab (yak ?_)
 obtain rfl := Option.some.inj h
 exact yal (ybc (yao rfl)) zsn ⟨rfl, rfl⟩
def ref08_SameStrings (p0 : (List ByteArray)) (p1 : (List ByteArray)) : Option Bool := cond ((p0.length : Int) != (p1.length : Int)) (some false) (Option.bind (loopF (S := Int) (T := (Unit) ⊕ (_)) (fun v2 => cond (decide (v2 < (p0.length : Int))) (Option.bind (idx p0 v2) (fun m6 => Option.bind (idx p1 v2) (fun m7 => cond (!decide (m6 = m7)) (some (.inr (.inr false))) (some (.inl (IntKind.i64.wrap (v2 + 1))))))) (some (.inr (.inl ())))) FUEL 0) (fun q => match q with | .inl _ => some true | .inr e => some e))
def ref14_Less (p0 : TOriginClaim) (p1 : TOriginClaim) : Option Bool := some ((decide (p0.Product < p1.Product)) || ((p0.Product == p1.Product) && (decide (p0.Agreement < p1.Agreement))))
set_option maxHeartbeats 4000000 in
theorem ref14_Less_ok {p0 : TOriginClaim} {p1 : TOriginClaim} {r : Bool}  (h : ref14_Less p0 p1 = some r) : PF 74 [.agg [pI p0.Product, pI p0.Agreement], .agg [pI p1.Product, pI p1.Agreement]] (pB r) := by
 unfold ref14_Less at h
 refine pf_of ?_
 refine penter Tryz.func74 fk74 rfl Tryz.ntmps74 Tryz.results74 rfl ?_
 refine yaa (yaf ?_)
 refine yay rfl rfl rfl (pl_box (cs := [pI p0.Product, pI p0.Agreement]) rfl rfl (fun b1 => ?_))
 refine yay rfl rfl rfl (pl_box (cs := [pI p1.Product, pI p1.Agreement]) rfl rfl (fun b2 => ?_))
 refine yas [] [4] [] fo0 (by kernel_rfl) ?_
 refine yab (yaa ?_)
 refine yad [1, 0, 1, 0, 1, 0] [5, 6, 7, 8, 9, 10, 11, 12, 13, 14, 15, 16, 17, 18, 19, 20, 21, 22, 23] [(4, pB ((decide (p0.Product < p1.Product)) || ((p0.Product == p1.Product) && (decide (p0.Agreement < p1.Agreement)))))] fo0 (by kernel_rfl) ?_
 refine yab (yak ?_)
 obtain rfl := Option.some.inj h
 exact yal (ybc (yao rfl)) zsn ⟨rfl, rfl⟩
end SX
end Go.Proofs.YtiijbkaiipjpkaaGreatDoor
set_option maxRecDepth 100000
namespace Go.Proofs.YtiijbkaiipjpkaaGreatDoor
namespace SX
open Go
abbrev bl (s : ByteArray) : List UInt8 := s.data.toList
theorem bl_hi (s : ByteArray) (k : Nat) : bl (s.extract 0 k) = (bl s).take k := by simp [bl]
theorem bl_lo (s : ByteArray) (k : Nat) : bl (s.extract k s.size) = (bl s).drop k := by
  simp only [bl, ByteArray.data_extract, Array.toList_extract, List.extract_eq_take_drop]
  rw [List.take_of_length_le]; simp
theorem bl_size (s : ByteArray) : s.size = (bl s).length := by simp [bl]
theorem bl_inj {s u : ByteArray} (h : bl s = bl u) : s = u := by
  obtain ⟨⟨x⟩⟩ := s; obtain ⟨⟨y⟩⟩ := u; simp [bl] at h; subst h; rfl
def isDig (n : Nat) : Bool := decide (48 ≤ n ∧ n ≤ 57)
def setCells (p : Nat → Bool) : List Value := (List.range 256).map fun i => .bool (p i)
theorem setCells_len (p : Nat → Bool) : (setCells p).length = 256 := by simp [setCells]
theorem setCells_get (p : Nat → Bool) {j : Nat} (h : j < 256) : (setCells p)[j]? = some (.bool (p j)) := by simp [setCells, h]
theorem setCells_set (p q : Nat → Bool) {j : Nat} (h : ∀ i, q i = (decide (i = j) || p i)) : (setCells p).set j (.bool true) = setCells q := by
  apply List.ext_getElem?
  intro i
  rw [List.getElem?_set]
  simp only [setCells_len]
  rcases Nat.lt_or_ge i 256 with hi | hi
  · rw [setCells_get q hi, setCells_get p hi, h i]
    by_cases e : j = i
    · subst e; simp [hi]
    · rw [if_neg e]; simp [show ¬ i = j from fun h => e h.symm]
  · rw [List.getElem?_eq_none (by rw [setCells_len]; exact hi), List.getElem?_eq_none (by rw [setCells_len]; exact hi)]
    split
    · rw [if_neg (by omega)]
    · rfl
section
variable {o : Oper} {σ : Env} {ρ : List Res} {κ : Kr} {c : Bool} {x y : Operand} {K : Value → List Res → Kr → Prop}
theorem Sh.at1 {b k : Nat} {cs : List Value} {v : Value} (h : Sh κ b 0 cs) (hv : cs[k]? = some v) : Sh κ b (0 + k * 1) [v] := ⟨h.1, fun j u hu => by
  cases j with
  | zero => simp at hu; subst hu; have := h.2 k v hv; simpa using this
  | succ j => simp at hu⟩
theorem oq_load_all {t b T sz by' : Nat} {cs : List Value} {z : Value} {d : TypeDesc} (ho : o.op = .load t x) (hx : Ev σ c x (.pointer (some ⟨b, 0, none⟩))) (hm : Res.b b T cs ∈ ρ) (hd : und t = some d) (ha : isAggD d = true) (hi : inf t = some (z, sz, by')) (hl : cs.length = sz) : OpQ c o σ ρ κ (.agg cs.toArray) := by
  refine oq_load_b ho hx hm ?_
  unfold readAs
  simp only [hd, hi, ha, cond_true, List.drop_zero]
  rw [Nat.ble_eq_true_of_le (by omega)]
  simp [← hl]
end
attribute [local irreducible] WL WC WD OpL OpQ OpG Ev GuardIs seqK blockK retK Call CallP midK loopK Holds upds Sub Pick WS Step Lit Upd SetAt SpliceAt FillR Sh LateRun
theorem contains_ok (κ : Kr) (b : Nat) (p : Nat → Bool) (m : Int) (hs : Sh κ b 0 (setCells p)) (h0 : 0 ≤ m) (h1 : m ≤ 255) : CallP 151 [.pointer (some ⟨b, 0, none⟩), .int .u8 m] κ fun v _ => v = .bool (p m.toNat) := by
  (unfold CallP; apply call_of Tryz.func151 fk151 rfl Tryz.ntmps151 Tryz.results151 rfl)
  repeat (first | (first | (apply wl_q rfl rfl rfl; (focus (first | exact oq_move (v := (.int _ _)) rfl (.p rfl) | exact oq_move (v := (.pointer _)) rfl (.p rfl) | exact oq_assign (v := (.bool _)) rfl (.p rfl) | exact oq_nilCheck rfl (.p rfl)))) | apply wl_nil) | (first | apply wc_seq | apply wc_region | apply k_seq))
  apply wl_q rfl rfl rfl (oq_indexP (j := m.toNat) rfl rfl rfl (.p rfl) (.p rfl) (fun _ => by omega) (fun _ => by omega))
  apply wl_q rfl rfl rfl (oq_load_s rfl (.p rfl) (fun _ => (hs.mono (by (repeat (exact Kle.refl _)))).at1 (setCells_get p (by omega))) rfl)
  repeat (first | (first | (apply wl_q rfl rfl rfl; (focus (exact oq_assign (v := (.bool _)) rfl (.p rfl)))) | apply wl_nil) | (first | apply k_seq | apply wc_ret))
  exact ret_of (rv_t (v := .bool _) rfl) .none ⟨rfl, rfl⟩
def digits10 : ByteArray := ⟨#[48, 49, 50, 51, 52, 53, 54, 55, 56, 57]⟩
theorem digits10_get : ∀ {k : Nat}, k < 10 → ((digits10.data.toList.getD k 0).toNat : Int) = 48 + (k : Int) := by decide
theorem ascii_ok (κ : Kr) : CallP 137 [.string digits10] κ fun v _ => v = .tuple #[.agg (setCells isDig).toArray, .bool true] := by
  (unfold CallP; apply call_of Tryz.func137 fk137 rfl Tryz.ntmps137 Tryz.results137 rfl)
  repeat (first | (first | (apply wl_q rfl rfl rfl; (focus (first | exact oq_assign (v := (.int _ _)) rfl (.p rfl) | exact oq_assign (v := (.bool _)) rfl (.p rfl)))) | (apply wl_l rfl rfl rfl; apply ol_allocA rfl rfl; intro _ _ _) | apply wl_nil) | (first | apply wc_seq | apply wc_region | apply wc_block | apply k_seq))
  rename_i b2 κ1 _
  have e0 : List.replicate 256 (Value.bool false) = setCells (fun i => decide (48 ≤ i ∧ i < 48 + 0)) := by
    apply List.ext_getElem?
    intro i
    rcases Nat.lt_or_ge i 256 with hi | hi
    · rw [setCells_get _ hi, List.getElem?_replicate, if_pos hi]; congr 2; symm; rw [decide_eq_false_iff_not]; omega
    · rw [List.getElem?_eq_none (by simpa using hi), List.getElem?_eq_none (by rw [setCells_len]; exact hi)]
  rw [e0]
  refine wc_loopL (X := Nat) (fun k => [(0, .string digits10), (2, .pointer (some ⟨b2, 0, none⟩)), (4, .int .i64 (k : Int))]) (fun k => [Res.b b2 190 (setCells fun i => decide (48 ≤ i ∧ i < 48 + k))]) (fun k _ => k ≤ 10) (fun k => 10 - k) 0 (by (repeat (first | exact Holds.nil | apply Holds.cons rfl))) (by (repeat (first | exact Sub.nil | (apply Sub.cons; (focus (repeat (exact Pick.h))))))) (by omega) ?_
  intro k τ κ2 _ hk
  simp only [upds]
  repeat (first | (first | (apply wl_q rfl rfl rfl; (focus (first | exact oq_move (v := (.int _ _)) rfl (.p rfl) | exact oq_move (v := (.string _)) rfl (.p rfl) | exact oq_cmp rfl (.p rfl) (.p rfl) rfl | exact oq_lenS rfl rfl (.p rfl)))) | apply wl_nil) | (first | apply wc_seq | apply wc_region | apply k_seq))
  apply wc_dec rfl <;> intro hc
  · have hk10 : k < 10 := by
      have e : (digits10.size : Int) = 10 := rfl
      rw [e] at hc; omega
    repeat (first | (apply wl_q rfl rfl rfl; (focus (first | exact oq_move (v := (.int _ _)) rfl (.p rfl) | exact oq_move (v := (.string _)) rfl (.p rfl)))) | (first | apply wc_seq | apply wc_region | apply wc_block | apply k_seq | apply wc_skip))
    apply wl_q rfl rfl rfl (oq_indexS (s := digits10) (j := k) rfl rfl (.p rfl) (.p rfl) (fun _ => rfl) (fun _ => hk10))
    rw [digits10_get hk10]
    repeat (first | (first | (apply wl_q rfl rfl rfl; (focus (first | exact oq_move (v := (.int _ _)) rfl (.p rfl) | exact oq_assign (v := (.int _ _)) rfl (.p rfl) | exact oq_cmp rfl (.p rfl) (.p rfl) rfl))) | apply wl_nil) | (first | apply wc_seq | apply wc_region | apply k_seq))
    apply wc_condF (by have : ¬ (128 : Int) ≤ 48 + (k : Int) := by omega
                       simp [ev, upd, this])
    repeat (first | (apply wl_q rfl rfl rfl; (focus (exact oq_move (v := (.int _ _)) rfl (.p rfl)))) | (first | apply wc_region | apply k_seq | apply wc_skip))
    apply wl_q rfl rfl rfl (oq_indexP (j := 48 + k) rfl rfl rfl (.p rfl) (.p rfl) (fun _ => by omega) (fun _ => by omega))
    apply wl_l0 rfl rfl
    apply ol_storeI (v := .bool true) rfl rfl rfl rfl rfl rfl (by (repeat (exact Upd.h))) (by rw [setCells_len]; omega)
    intro κ3 _
    have e1 : (setCells fun i => decide (48 ≤ i ∧ i < 48 + k)).set (0 + (48 + k) * 1) (.bool true) = setCells fun i => decide (48 ≤ i ∧ i < 48 + (k + 1)) :=
      setCells_set _ _ fun i => by rw [Bool.eq_iff_iff]; simp; omega
    rw [e1]
    repeat (first | (first | (apply wl_q rfl rfl rfl; (focus (first | exact oq_move (v := (.int _ _)) rfl (.p rfl) | exact oq_assign (v := (.int _ _)) rfl (.p rfl) | exact oq_arith64 rfl (.p rfl) (.p rfl) rfl (fun _ => by omega)))) | apply wl_nil) | (first | apply wc_region | apply k_seq | apply k_block_n))
    exact k_loop (k + 1) (by (repeat (first | exact Holds.nil | apply Holds.cons rfl))) (by (repeat (first | exact Sub.nil | (apply Sub.cons; (focus (repeat (exact Pick.h))))))) (by omega) (by omega)
  · have hk10 : k = 10 := by
      have e : (digits10.size : Int) = 10 := rfl
      rw [e] at hc; omega
    subst hk10
    have e2 : (fun i => decide (48 ≤ i ∧ i < 48 + 10)) = isDig := by funext i; simp only [isDig]; rw [Bool.eq_iff_iff]; simp; omega
    rw [e2]
    apply wc_exit; apply k_seq_exit; apply k_loop_exit; apply k_block_eq rfl; apply k_seq; apply wc_seq; apply wc_region
    apply wl_q rfl rfl rfl (oq_load_all rfl (.p rfl) (by (repeat (exact List.Mem.head _))) rfl rfl rfl (setCells_len _))
    apply wl_l0 rfl rfl
    apply ol_storeA rfl rfl rfl rfl (setCells_len _) (by simp [setCells, Value.oneCell']) (by (repeat (exact Upd.h))) rfl
    intro κ3 _
    repeat (first | (first | (apply wl_q rfl rfl rfl; (focus (exact oq_assign (v := (.bool _)) rfl (.p rfl)))) | apply wl_nil) | (first | apply k_seq | apply wc_ret))
    refine ret_of (rv_2 (RV1.cell rfl (by (repeat (exact List.Mem.head _))) ?_) (rv1_t (v := .bool _) rfl)) .none ⟨rfl, rfl⟩
    unfold readAs
    simp only [show und 190 = some (.array 256 4) from rfl, show inf 190 = some (.agg (List.replicate 256 (.bool false)).toArray, 256, 256) from rfl, isAggD, cond_true, List.drop_zero, setCells_len]
    rw [List.take_of_length_le (by rw [setCells_len]; omega)]; rfl
theorem getD_lt {l : List UInt8} {j : Nat} (h : j < l.length) : l.getD j 0 = l[j] := by simp [List.getD_eq_getElem?_getD, h]
theorem trimRight_ok (κ : Kr) (b : Nat) (s : ByteArray) (hs : Sh κ b 0 (setCells isDig)) (hz : s.size ≤ 1000000000) : CallP 139 [.string s, .pointer (some ⟨b, 0, none⟩)] κ fun v _ => ∃ u k, v = .string u ∧ bl u = (bl s).take k ∧ k ≤ (bl s).length ∧ (∀ c ∈ (bl s).drop k, isDig c.toNat = true) ∧ (∀ c, (bl u).getLast? = some c → isDig c.toNat = false) := by
  (unfold CallP; apply call_of Tryz.func139 fk139 rfl Tryz.ntmps139 Tryz.results139 rfl)
  repeat (first | (first | (apply wl_q rfl rfl rfl; (focus (exact oq_assign (v := (.string _)) rfl (.p rfl)))) | apply wl_nil) | (first | apply wc_seq | apply wc_region | apply wc_block | apply k_seq))
  refine wc_loopL (X := ByteArray × Nat) (fun z => [(0, .string z.1), (1, .pointer (some ⟨b, 0, none⟩))]) (fun _ => []) (fun z _ => bl z.1 = (bl s).take z.2 ∧ z.2 ≤ (bl s).length ∧ ∀ c ∈ (bl s).drop z.2, isDig c.toNat = true) (fun z => z.2) (s, (bl s).length) (by (repeat (first | exact Holds.nil | apply Holds.cons rfl))) (by (repeat (exact Sub.nil))) ⟨(List.take_length).symm, Nat.le_refl _, by rw [List.drop_length]; simp⟩ ?_
  rw [bl_size] at hz
  rintro ⟨u, k⟩ τ κ2 _ ⟨h1, h2, h3⟩
  dsimp only at h1 h2 h3
  have hsz : u.size = k := by rw [bl_size, h1, List.length_take]; omega
  simp only [upds]
  repeat (first | (first | (apply wl_q rfl rfl rfl; (focus (first | exact oq_move (v := (.string _)) rfl (.p rfl) | exact oq_cmp rfl (.p rfl) (.p rfl) rfl | exact oq_lenS rfl rfl (.p rfl)))) | apply wl_nil) | (first | apply wc_seq | apply wc_region | apply k_seq))
  apply wc_dec rfl <;> intro hc
  · have hk0 : 0 < k := by omega
    repeat (first | (apply wl_q rfl rfl rfl; (focus (first | exact oq_move (v := (.pointer _)) rfl (.p rfl) | exact oq_move (v := (.string _)) rfl (.p rfl) | exact oq_arith64 rfl (.p rfl) (.p rfl) rfl (fun _ => by omega) | exact oq_lenS rfl rfl (.p rfl)))) | (first | apply wc_seq | apply wc_region | apply wc_block | apply k_seq | apply wc_skip))
    apply wl_q rfl rfl rfl (oq_indexS (j := k - 1) rfl rfl (.p rfl) (.p rfl) (fun _ => by omega) (fun _ => by omega))
    have hlast : (bl u).getLast? = some ((bl u).getD (k - 1) 0) := by
      rw [List.getLast?_eq_getElem?, ← bl_size, hsz, getD_lt (by rw [← bl_size]; omega), List.getElem?_eq_getElem]
    apply wl_l rfl rfl rfl; apply ol_callP rfl rfl (contains_ok _ b isDig ((u.data.toList.getD (k - 1) 0).toNat : Int) (hs.mono (by (repeat (assumption)))) (by omega) (by have := (u.data.toList.getD (k - 1) 0).toNat_lt; omega))
    rintro v κ3 _ rfl
    repeat (first | (first | (apply wl_q rfl rfl rfl; (focus (exact oq_not rfl (.p rfl)))) | apply wl_nil) | (apply k_seq))
    rw [Int.toNat_natCast]
    apply wc_cond rfl <;> intro hb
    · repeat (first | (first | (apply wl_q rfl rfl rfl; (focus (first | exact oq_move (v := (.string _)) rfl (.p rfl) | exact oq_assign (v := (.string _)) rfl (.p rfl)))) | apply wl_nil) | (first | apply wc_seq | apply wc_region | apply k_seq | apply wc_ret | apply wc_exit | apply k_seq_exit | apply k_block_eq rfl | apply k_block_ne rfl | apply k_loop_exit))
      refine ret_of (rv_t (v := .string _) rfl) .none ⟨rfl, u, k, rfl, h1, h2, h3, fun c hc => ?_⟩
      rw [hlast] at hc; injection hc with hc; subst hc; simpa using hb
    · repeat (first | (apply wl_q rfl rfl rfl; (focus (first | exact oq_move (v := (.string _)) rfl (.p rfl) | exact oq_arith64 rfl (.p rfl) (.p rfl) rfl (fun _ => by omega) | exact oq_lenS rfl rfl (.p rfl)))) | (first | apply wc_region | apply k_seq | apply wc_skip))
      apply wl_q rfl rfl rfl (oq_sliceSHi (h := k - 1) rfl rfl (.p rfl) (.p rfl) (fun _ => by omega) (fun _ => by omega))
      repeat (first | (first | (apply wl_q rfl rfl rfl; (focus (exact oq_assign (v := (.string _)) rfl (.p rfl)))) | apply wl_nil) | (apply k_block_n))
      refine k_loop (u.extract 0 (k - 1), k - 1) (by (repeat (first | exact Holds.nil | apply Holds.cons rfl))) (by (repeat (exact Sub.nil))) ⟨?_, by ((try dsimp only at *) <;> omega), ?_⟩ (by ((try dsimp only at *) <;> omega))
      · rw [bl_hi, h1, List.take_take]; congr 1; omega
      · intro c hc
        rw [List.drop_eq_getElem_cons (by omega)] at hc
        rcases List.mem_cons.1 hc with rfl | hc
        · have e : (bl u).getD (k - 1) 0 = (bl s)[k - 1]'(by omega) := by
            rw [getD_lt (by rw [← bl_size]; omega)]; simp [h1]
          rw [← e]; simpa using hb
        · rw [show k - 1 + 1 = k by omega] at hc; exact h3 c hc
  · repeat (first | (first | (apply wl_q rfl rfl rfl; (focus (first | exact oq_move (v := (.string _)) rfl (.p rfl) | exact oq_assign (v := (.string _)) rfl (.p rfl)))) | apply wl_nil) | (first | apply wc_seq | apply wc_region | apply k_seq | apply wc_ret | apply wc_exit | apply k_seq_exit | apply k_block_eq rfl | apply k_loop_exit))
    refine ret_of (rv_t (v := .string _) rfl) .none ⟨rfl, u, k, rfl, h1, h2, h3, fun c hc' => ?_⟩
    have : bl u = [] := List.eq_nil_of_length_eq_zero (by rw [← bl_size]; omega)
    rw [this] at hc'; cases hc'
end SX
end Go.Proofs.YtiijbkaiipjpkaaGreatDoor
set_option maxRecDepth 100000
namespace Go.Proofs.YtiijbkaiipjpkaaGreatDoor
namespace SX
open Go
attribute [local irreducible] WL WC WD OpL OpQ OpG Ev GuardIs seqK blockK retK Call CallP midK loopK Holds upds Sub Pick WS Step Lit Upd SetAt SpliceAt FillR Sh LateRun
theorem trimLeft_ok (κ : Kr) (b : Nat) (s : ByteArray) (hs : Sh κ b 0 (setCells isDig)) : CallP 138 [.string s, .pointer (some ⟨b, 0, none⟩)] κ fun v _ => ∃ u k, v = .string u ∧ bl u = (bl s).drop k ∧ k ≤ (bl s).length ∧ (∀ c ∈ (bl s).take k, isDig c.toNat = true) ∧ (∀ c, (bl u).head? = some c → isDig c.toNat = false) := by
  (unfold CallP; apply call_of Tryz.func138 fk138 rfl Tryz.ntmps138 Tryz.results138 rfl)
  repeat (first | (first | (apply wl_q rfl rfl rfl; (focus (exact oq_assign (v := (.string _)) rfl (.p rfl)))) | apply wl_nil) | (first | apply wc_seq | apply wc_region | apply wc_block | apply k_seq))
  refine wc_loopL (X := ByteArray × Nat) (fun z => [(0, .string z.1), (1, .pointer (some ⟨b, 0, none⟩))]) (fun _ => []) (fun z _ => bl z.1 = (bl s).drop z.2 ∧ z.2 ≤ (bl s).length ∧ ∀ c ∈ (bl s).take z.2, isDig c.toNat = true) (fun z => (bl s).length - z.2) (s, 0) (by (repeat (first | exact Holds.nil | apply Holds.cons rfl))) (by (repeat (exact Sub.nil))) ⟨rfl, Nat.zero_le _, by simp⟩ ?_
  rintro ⟨u, k⟩ τ κ2 _ ⟨h1, h2, h3⟩
  dsimp only at h1 h2 h3
  have hsz : u.size = (bl s).length - k := by rw [bl_size, h1, List.length_drop]
  simp only [upds]
  repeat (first | (first | (apply wl_q rfl rfl rfl; (focus (first | exact oq_move (v := (.string _)) rfl (.p rfl) | exact oq_cmp rfl (.p rfl) (.p rfl) rfl | exact oq_lenS rfl rfl (.p rfl)))) | apply wl_nil) | (first | apply wc_seq | apply wc_region | apply k_seq))
  apply wc_dec rfl <;> intro hc
  · have hk0 : k < (bl s).length := by omega
    have hu0 : 0 < (bl u).length := by rw [← bl_size]; omega
    repeat (first | (apply wl_q rfl rfl rfl; (focus (first | exact oq_move (v := (.pointer _)) rfl (.p rfl) | exact oq_move (v := (.string _)) rfl (.p rfl)))) | (first | apply wc_seq | apply wc_region | apply wc_block | apply k_seq | apply wc_skip))
    apply wl_q rfl rfl rfl (oq_indexS (j := 0) rfl rfl (.p rfl) (.p rfl) (fun _ => by omega) (fun _ => by omega))
    have hhead : (bl u).head? = some ((bl u).getD 0 0) := by
      rw [List.head?_eq_getElem?, getD_lt hu0, List.getElem?_eq_getElem hu0]
    apply wl_l rfl rfl rfl; apply ol_callP rfl rfl (contains_ok _ b isDig ((u.data.toList.getD 0 0).toNat : Int) (hs.mono (by (repeat (assumption)))) (by omega) (by have := (u.data.toList.getD 0 0).toNat_lt; omega))
    rintro v κ3 _ rfl
    repeat (first | (first | (apply wl_q rfl rfl rfl; (focus (exact oq_not rfl (.p rfl)))) | apply wl_nil) | (apply k_seq))
    rw [Int.toNat_natCast]
    apply wc_cond rfl <;> intro hb
    · repeat (first | (first | (apply wl_q rfl rfl rfl; (focus (first | exact oq_move (v := (.string _)) rfl (.p rfl) | exact oq_assign (v := (.string _)) rfl (.p rfl)))) | apply wl_nil) | (first | apply wc_seq | apply wc_region | apply k_seq | apply wc_ret | apply wc_exit | apply k_seq_exit | apply k_block_eq rfl | apply k_block_ne rfl | apply k_loop_exit))
      refine ret_of (rv_t (v := .string _) rfl) .none ⟨rfl, u, k, rfl, h1, h2, h3, fun c hc => ?_⟩
      rw [hhead] at hc; injection hc with hc; subst hc; simpa using hb
    · repeat (first | (apply wl_q rfl rfl rfl; (focus (exact oq_move (v := (.string _)) rfl (.p rfl)))) | (first | apply wc_region | apply k_seq | apply wc_skip))
      apply wl_q rfl rfl rfl (oq_sliceSLo (l := 1) rfl rfl (.p rfl) (.p rfl) (fun _ => by omega) (fun _ => by omega))
      repeat (first | (first | (apply wl_q rfl rfl rfl; (focus (exact oq_assign (v := (.string _)) rfl (.p rfl)))) | apply wl_nil) | (apply k_block_n))
      refine k_loop (u.extract 1 u.size, k + 1) (by (repeat (first | exact Holds.nil | apply Holds.cons rfl))) (by (repeat (exact Sub.nil))) ⟨?_, by ((try dsimp only at *) <;> omega), ?_⟩ (by ((try dsimp only at *) <;> omega))
      · rw [bl_lo, h1, List.drop_drop]
      · intro c hc
        rw [List.take_add_one] at hc
        rcases List.mem_append.1 hc with hc | hc
        · exact h3 c hc
        · have e : (bl u).getD 0 0 = (bl s)[k]'hk0 := by rw [getD_lt hu0]; simp [h1]
          rw [List.getElem?_eq_getElem hk0] at hc
          simp only [Option.toList_some, List.mem_cons, List.not_mem_nil, or_false] at hc
          subst hc; rw [← e]; simpa using hb
  · repeat (first | (first | (apply wl_q rfl rfl rfl; (focus (first | exact oq_move (v := (.string _)) rfl (.p rfl) | exact oq_assign (v := (.string _)) rfl (.p rfl)))) | apply wl_nil) | (first | apply wc_seq | apply wc_region | apply k_seq | apply wc_ret | apply wc_exit | apply k_seq_exit | apply k_block_eq rfl | apply k_loop_exit))
    refine ret_of (rv_t (v := .string _) rfl) .none ⟨rfl, u, k, rfl, h1, h2, h3, fun c hc' => ?_⟩
    have : bl u = [] := List.eq_nil_of_length_eq_zero (by rw [← bl_size]; omega)
    rw [this] at hc'; cases hc'
def allDig (s : ByteArray) : Bool := (bl s).all fun c => isDig c.toNat
theorem size_zero {s : ByteArray} : s = ⟨#[]⟩ ↔ bl s = [] := ⟨fun h => by rw [h], fun h => bl_inj (by rw [h])⟩
theorem trim_ok (κ : Kr) (s : ByteArray) (hz : s.size ≤ 1000000000) : CallP 107 [.string s, .string digits10] κ fun v _ => ∃ u, v = .string u ∧ (u = ⟨#[]⟩ ↔ allDig s = true) := by
  (unfold CallP; apply call_of Tryz.func107 fk107 rfl Tryz.ntmps107 Tryz.results107 rfl)
  repeat (first | (first | (apply wl_q rfl rfl rfl; (focus (first | exact oq_move (v := (.bool _)) rfl (.p rfl) | exact oq_move (v := (.string _)) rfl (.p rfl) | exact oq_assign (v := (.string _)) rfl (.p rfl) | exact oq_or rfl (.p rfl) (.p rfl) (.g rfl) | exact oq_str rfl (.p rfl) (.p rfl) rfl))) | (apply wl_qg; (focus (exact guard_f rfl rfl rfl)); rfl; rfl; (focus (first | (apply oq_move (v := (.string _)) rfl; (focus (exact Ev.p rfl))) | (apply oq_str rfl (by (focus (exact Ev.g rfl))) (by (focus (exact Ev.p rfl))); rfl)))) | apply wl_nil) | (first | apply wc_seq | apply wc_region | apply k_seq))
  apply wc_cond rfl <;> intro hb
  · repeat (first | (first | (apply wl_q rfl rfl rfl; (focus (first | exact oq_move (v := (.string _)) rfl (.p rfl) | exact oq_assign (v := (.string _)) rfl (.p rfl)))) | apply wl_nil) | (first | apply wc_seq | apply wc_region | apply k_seq | apply wc_ret | apply k_seq_ret))
    have : s = ⟨#[]⟩ := by simpa [digits10] using hb
    refine ret_of (rv_t (v := .string _) rfl) .none ⟨rfl, s, rfl, ?_⟩
    subst this; simp [allDig, bl]
  · have hne : ¬ bl s = [] := fun h => by rw [size_zero.2 h] at hb; simp at hb
    repeat (first | (first | (apply wl_q rfl rfl rfl; (focus (first | exact oq_move (v := (.bool _)) rfl (.p rfl) | exact oq_move (v := (.string _)) rfl (.p rfl) | exact oq_cmp rfl (.p rfl) (.p rfl) rfl | exact oq_lenS rfl rfl (.p rfl)))) | (apply wl_qg; (focus (exact guard_t rfl rfl rfl)); rfl; rfl; (focus (apply oq_move (v := (.string _)) rfl; (focus (exact Ev.p rfl)))))) | (first | apply wc_seq | apply wc_region | apply k_seq | apply wc_skip))
    apply wl_qg; (focus (exact guard_t rfl rfl rfl)); rfl; rfl; exact oq_indexS (s := digits10) (j := 0) rfl rfl (.g rfl) (.p rfl) (fun _ => rfl) (fun _ => by decide)
    repeat (first | (first | (apply wl_q rfl rfl rfl; (focus (exact oq_and rfl (.p rfl) (.p rfl) (.g rfl)))) | (apply wl_qg; (focus (exact guard_t rfl rfl rfl)); rfl; rfl; (focus (apply oq_cmp rfl (by (focus (exact Ev.g rfl))) (by (focus (exact Ev.p rfl))); rfl))) | apply wl_nil) | (apply k_seq))
    apply wc_cond rfl <;> intro hb2
    · have e : (digits10.size : Int) = 10 := rfl
      rw [e] at hb2; simp at hb2
    repeat (first | (apply wl_q rfl rfl rfl; (focus (exact oq_move (v := (.string _)) rfl (.p rfl)))) | (first | apply wc_seq | apply wc_region | apply k_seq | apply wc_skip))
    refine wl_fun rfl rfl rfl rfl rfl (ascii_ok _) fun κ1 _ => ?_
    repeat (first | (first | (apply wl_q rfl rfl rfl; (focus (first | exact oq_move (v := (.bool _)) rfl (.p rfl) | exact oq_move (v := (.tuple _)) rfl (.p rfl) | exact oq_assign (v := (.bool _)) rfl (.p rfl) | exact oq_extract rfl (.p rfl) rfl))) | (apply wl_l rfl rfl rfl; apply ol_allocA rfl rfl; intro _ _ _) | (apply wl_l0 rfl rfl; apply ol_storeA rfl rfl rfl rfl rfl rfl; (focus (repeat (exact Upd.h))); rfl; intro _ _) | apply wl_nil) | (first | apply wc_seq | apply wc_region | apply k_seq))
    rename_i b5 _ _ _ _
    apply wc_pub (b := b5) Pick.h rfl; intro κ3 _ hS hsays
    have hset := sh_pub hS hsays
    apply wc_condT rfl
    repeat (first | (apply wl_q rfl rfl rfl; (focus (exact oq_move (v := (.string _)) rfl (.p rfl)))) | (first | apply wc_seq | apply wc_region))
    apply wl_l rfl rfl rfl; apply ol_callP rfl rfl (trimRight_ok _ b5 s (hset.mono (by (repeat (exact Kle.refl _)))) hz)
    rintro v κ4 _ ⟨u, k, rfl, h1, h2, h3, h4⟩
    apply wl_l rfl rfl rfl; apply ol_callP rfl rfl (trimLeft_ok _ b5 u (hset.mono (by (repeat (assumption)))))
    rintro v κ5 _ ⟨u2, k2, rfl, g1, g2, g3, g4⟩
    repeat (first | (first | (apply wl_q rfl rfl rfl; (focus (exact oq_assign (v := (.string _)) rfl (.p rfl)))) | apply wl_nil) | (first | apply k_seq | apply wc_ret | apply k_seq_ret))
    refine ret_of (rv_t (v := .string _) rfl) .none ⟨rfl, u2, rfl, ?_⟩
    rw [size_zero]
    unfold allDig
    rw [List.all_eq_true]
    constructor
    · intro h
      have hk2 : k2 = (bl u).length := by
        have := congrArg List.length (g1.symm.trans h); simp only [List.length_drop, List.length_nil] at this; omega
      intro c hc
      rw [← List.take_append_drop k (bl s)] at hc
      rcases List.mem_append.1 hc with hc | hc
      · rw [← h1] at hc; rw [hk2, List.take_length] at g3; exact g3 c hc
      · exact h3 c hc
    · intro h
      have hu : bl u = [] := by
        rcases List.eq_nil_or_concat (bl u) with hu | ⟨l, c, hu⟩
        · exact hu
        · have hc := h4 c (by rw [hu]; simp)
          have hm : c ∈ bl s := List.mem_of_mem_take (i := k) (by rw [← h1, hu]; simp)
          rw [h c hm] at hc; cases hc
      rw [g1, hu]; simp
end SX
end Go.Proofs.YtiijbkaiipjpkaaGreatDoor
set_option maxRecDepth 100000
namespace Go.Proofs.YtiijbkaiipjpkaaGreatDoor
namespace SX
open Go
attribute [local irreducible] WL WC WD OpL OpQ OpG Ev GuardIs seqK blockK retK Call CallP midK loopK Holds upds Sub Pick WS Step Lit Upd SetAt SpliceAt FillR Sh LateRun
def Glob (κ : Kr) : Prop := Sh κ 0 0 [.int .i64 2, .int .i64 4, .int .i64 6, .int .i64 8]
theorem Glob.mono {κ κ' : Kr} (h : Glob κ) (k : Kle κ κ') : Glob κ' := Sh.mono h k
def level (s : ByteArray) : Int := if (s.size = 2 ∨ s.size = 4 ∨ s.size = 6 ∨ s.size = 8) ∧ allDig s = true then (s.size : Int) else 0
theorem gv_some {c : Bool} {v : Value} {P : ByteArray → Prop} (h : c = true → ∃ u, v = .string u ∧ P u) : ∃ u, gv c v = gv c (.string u) ∧ (c = true → P u) := by
  cases c
  · exact ⟨⟨#[]⟩, by rw [gv_false, gv_false], fun h => by cases h⟩
  · obtain ⟨u, rfl, h2⟩ := h rfl; exact ⟨u, rfl, fun _ => h2⟩
theorem level_ok (κ : Kr) (s : ByteArray) (hg : Glob κ) : CallP 77 [.string s] κ fun v _ => v = .int .i64 (level s) := by
  (unfold CallP; apply call_of Tryz.func77 fk77 rfl Tryz.ntmps77 Tryz.results77 rfl)
  repeat (first | (first | (apply wl_q rfl rfl rfl; (focus (exact oq_assign (v := (.int _ _)) rfl (.p rfl)))) | apply wl_nil) | (first | apply wc_seq | apply wc_region | apply k_seq))
  apply wl_q rfl rfl rfl (oq_load_s rfl (.p rfl) (fun _ => hg) rfl)
  repeat (first | (first | (apply wl_q rfl rfl rfl; (focus (exact oq_move (v := (.int _ _)) rfl (.p rfl)))) | apply wl_nil) | (first | apply wc_block | apply k_seq))
  refine wc_loopL (X := Nat) (fun k => [(0, .string s), (5, .agg #[.int .i64 2, .int .i64 4, .int .i64 6, .int .i64 8]), (6, .int .i64 (k : Int))]) (fun _ => []) (fun k _ => k ≤ 4 ∧ ∀ j, j < k → ¬ (s.size = 2 * (j + 1) ∧ allDig s = true)) (fun k => 4 - k) 0 (by (repeat (first | exact Holds.nil | apply Holds.cons rfl))) (by (repeat (exact Sub.nil))) ⟨by omega, by omega⟩ ?_
  rintro k τ κ1 _ ⟨hk, hno⟩
  simp only [upds]
  repeat (first | (first | (apply wl_q rfl rfl rfl; (focus (exact oq_cmp rfl (.p rfl) (.p rfl) rfl))) | apply wl_nil) | (first | apply wc_seq | apply wc_region | apply k_seq))
  apply wc_dec rfl <;> intro hc
  · have hk4 : k < 4 := by omega
    repeat (first | apply wc_seq | apply wc_region | apply wc_block | apply k_seq | apply wc_skip)
    apply wl_q rfl rfl rfl (oq_indexA (cs := [.int .i64 2, .int .i64 4, .int .i64 6, .int .i64 8]) (v := .int .i64 (2 * ((k : Int) + 1))) (j := k) rfl rfl rfl rfl rfl (.p rfl) (.p rfl) (fun _ => rfl) (fun _ => hk4) (fun _ => by
      have : k = 0 ∨ k = 1 ∨ k = 2 ∨ k = 3 := by omega
      rcases this with rfl | rfl | rfl | rfl <;> rfl))
    repeat (first | (first | (apply wl_q rfl rfl rfl; (focus (first | exact oq_move (v := (.int _ _)) rfl (.p rfl) | exact oq_move (v := (.bool _)) rfl (.p rfl) | exact oq_move (v := (.string _)) rfl (.p rfl) | exact oq_assign (v := (.int _ _)) rfl (.p rfl) | exact oq_cmp rfl (.p rfl) (.p rfl) rfl | exact oq_lenS rfl rfl (.p rfl)))) | (apply wl_qg; (focus (exact guard_t rfl rfl rfl)); rfl; rfl; (focus (apply oq_move (v := (.string _)) rfl; (focus (exact Ev.p rfl))))) | apply wl_nil) | (first | apply wc_seq | apply wc_region | apply k_seq))
    apply wl_g; (focus (exact guard_t rfl rfl rfl)); rfl; rfl
    refine og_callP rfl (ar2 (.g rfl) (.p rfl)) (fun hcc => trim_ok _ s (by simp at hcc; omega)) fun v κ2 _ hv => ?_
    obtain ⟨u, hu, hP⟩ := gv_some hv
    rw [hu]
    repeat (first | (first | (apply wl_q rfl rfl rfl; (focus (exact oq_and rfl (.p rfl) (.p rfl) (.g rfl)))) | (apply wl_qg; (focus (exact guard_t rfl rfl rfl)); rfl; rfl; (focus (apply oq_str rfl (by (focus (exact Ev.g rfl))) (by (focus (exact Ev.p rfl))); rfl))) | apply wl_nil) | (apply k_seq))
    apply wc_cond rfl <;> intro hb
    · simp only [Bool.and_eq_true, beq_iff_eq, decide_eq_true_eq] at hb
      have hd : allDig s = true := (hP (by simpa using hb.1)).1 hb.2
      repeat (first | (first | (apply wl_q rfl rfl rfl; (focus (first | exact oq_move (v := (.int _ _)) rfl (.p rfl) | exact oq_assign (v := (.int _ _)) rfl (.p rfl)))) | apply wl_nil) | (first | apply wc_seq | apply wc_region | apply k_seq | apply wc_ret | apply k_seq_ret | apply k_block_ret | apply k_loop_ret))
      refine ret_of (rv_t (v := .int _ _) rfl) .none ⟨rfl, ?_⟩
      show Value.int .i64 (2 * ((k : Int) + 1)) = .int .i64 (level s)
      unfold level
      rw [if_pos ⟨by omega, hd⟩, ← hb.1]
    · repeat (first | (first | (apply wl_q rfl rfl rfl; (focus (first | exact oq_move (v := (.int _ _)) rfl (.p rfl) | exact oq_arith64 rfl (.p rfl) (.p rfl) rfl (fun _ => by omega)))) | apply wl_nil) | (first | apply wc_region | apply k_seq | apply wc_skip | apply k_block_n))
      refine k_loop (k + 1) (by (repeat (first | exact Holds.nil | apply Holds.cons rfl))) (by (repeat (exact Sub.nil))) ⟨by omega, fun j hj => ?_⟩ (by omega)
      rcases Nat.lt_or_ge j k with h | h
      · exact hno j h
      · have : j = k := by omega
        subst this
        rintro ⟨h1, h2⟩
        have hcc : ((s.size : Int) == 2 * ((j : Int) + 1)) = true := by simp; omega
        have := (hP (by simpa using hcc)).2 h2
        subst this
        rw [hcc] at hb; simp at hb
  · repeat (first | (first | (apply wl_q rfl rfl rfl; (focus (exact oq_assign (v := (.int _ _)) rfl (.p rfl)))) | apply wl_nil) | (first | apply wc_seq | apply wc_region | apply k_seq | apply wc_ret | apply wc_exit | apply k_seq_exit | apply k_block_eq rfl | apply k_loop_exit))
    refine ret_of (rv_t (v := .int _ _) rfl) .none ⟨rfl, ?_⟩
    show Value.int .i64 0 = .int .i64 (level s)
    unfold level
    rw [if_neg]
    rintro ⟨h1, h2⟩
    have : k = 4 := by omega
    subst this
    rcases h1 with h1 | h1 | h1 | h1
    · exact hno 0 (by omega) ⟨h1, h2⟩
    · exact hno 1 (by omega) ⟨h1, h2⟩
    · exact hno 2 (by omega) ⟨h1, h2⟩
    · exact hno 3 (by omega) ⟨h1, h2⟩
end SX
end Go.Proofs.YtiijbkaiipjpkaaGreatDoor
set_option maxRecDepth 100000
namespace Go.Proofs.YtiijbkaiipjpkaaGreatDoor
namespace SX
open Go
def nomenclature_Level (p0 : ByteArray) : Option Int := some (level p0)
theorem nomenclature_Level_ok {p0 : ByteArray} {r : Int} (h : nomenclature_Level p0 = some r) : PF 77 [.v (.string p0)] (.v (.int .i64 r)) := fun κ args g ha => by
 obtain ⟨v, ws, rfl, h1, h2⟩ := ha.cons_inv
 rw [h2.nil_inv, h1.val]
 have h := Option.some.inj h; subst h
 exact (level_ok κ p0 g).mono fun v κ' _ hv => by subst hv; exact .v rfl
end SX
end Go.Proofs.YtiijbkaiipjpkaaGreatDoor
set_option maxRecDepth 100000
namespace Go.Proofs.YtiijbkaiipjpkaaGreatDoor
namespace SX
open Go
attribute [local irreducible] PWL PWC PWD POpL POpQ PEv PGuardIs PSub PPick PUpd PSplice PFill PLit PF PFV PCall FOk pseqK pblockK pmidK pcutK ploopK pretK Cov PHolds loopF idx app mk gd lb nz ge0 cat sub ssub iand ior ixor ishl ishr imin imax IntKind.wrap Int.tmod Int.tdiv Op.bytesLess strOfNums
def slices_IndexFunc_api_Agreement_api_Agreement (p0 : (List TAgreement)) (p1 : (TAgreement → Option Bool)) : Option Int := Option.bind (loopF (S := Int) (T := (Unit) ⊕ (_)) (fun v1 => cond (decide (v1 < (p0.length : Int))) (Option.bind (idx p0 v1) (fun m5 => Option.bind (p1 m5) (fun x6 => cond x6 (some (.inr (.inr v1))) (some (.inl (IntKind.i64.wrap (v1 + 1))))))) (some (.inr (.inl ())))) FUEL 0) (fun q => match q with | .inl _ => some (-1) | .inr e => some e)
set_option maxHeartbeats 4000000 in
theorem slices_IndexFunc_api_Agreement_api_Agreement_ok {p0 : (List TAgreement)} {p1 : (TAgreement → Option Bool)} {r : Int} {g1 : PV} (hg1 : ∀ {y0 : TAgreement} {w : Bool}, p1 y0 = some w → PFV g1 [.agg [pI y0.ID, pI y0.Kind, pL eS y0.Parties, pL TRuleFor.enc y0.Rules]] (pB w)) (h : slices_IndexFunc_api_Agreement_api_Agreement p0 p1 = some r) : PF 85 [pL TAgreement.enc p0, g1] (pI r) := by
 unfold slices_IndexFunc_api_Agreement_api_Agreement at h
 refine pf_of ?_
 refine penter Tryz.func85 fk85 rfl Tryz.ntmps85 Tryz.results85 rfl ?_
 refine yaa ?_
 refine yad [] [4] [] fo0 (by kernel_rfl) ?_
 refine yab (yaa (yaa ?_))
 refine yad [] [6] [(7, pI (p0.length : Int)), (8, pI 0)] fo0 (by kernel_rfl) ?_
 refine yab ?_
 refine yac h ?_; clear h; intro q3 hq3 h
 refine yaz (Y := (Unit) × (Unit)) (fun (_, _) => []) (fun (_, _) => []) (fun (_, _) => q3 = Sum.inl ()) ?_ ?_
 ·refine yan ?_
  refine ybd (Y := Unit) (S := Int) _ hq3 (fun _ v1 => [(0, pL TAgreement.enc p0), (1, g1), (7, pI (p0.length : Int)), (8, pI v1)]) (fun _ v1 => []) () (zhc rfl (zhc rfl (zhc rfl (zhc rfl zhn)))) zsn ?_
  rintro _ v1 o τ hb2; (try dsimp only at hb2); dsimp only [pupds]
  refine yaa ?_
  refine yad [] [] [(9, pB (decide (v1 < (p0.length : Int))))] fo0 (by kernel_rfl) ?_
  refine yab (yaa ?_)
  refine yah rfl (fun hc4 => ?_) (fun hc4 => ?_)
  ·replace hb2 := yap hc4 hb2
   refine yaj (yab (yaa (yan (yaa ?_))))
   refine yad [] [10] [(5, pI v1)] fo0 (by kernel_rfl) ?_
   refine yab (yaa ?_)
   refine yac hb2 ?_; clear hb2; intro m5 hm5 hb2
   refine yac hb2 ?_; clear hb2; intro x6 hx6 hb2
   refine yad [] [11, 12, 13, 14, 15] [(16, pB x6)] (foix 3 TAgreement.enc hm5 (focv 5 (hg1 hx6) fo0)) (by kernel_rfl) ?_
   refine yab ?_
   refine yah rfl (fun hc7 => ?_) (fun hc7 => ?_)
   ·replace hb2 := yap hc7 hb2
    refine yaa ?_
    refine yad [] [17] [(4, pI v1)] fo0 (by kernel_rfl) ?_
    refine yab (yak (yag (yai ?_)))
    refine pk_loop_ret hb2 (fun ht => ?_); subst ht
    have h := (show some _ = some _ from h)
    refine yag (yax ?_)
    obtain rfl := Option.some.inj h
    exact yal (ybc (yao rfl)) zsn ⟨rfl, rfl⟩
   ·replace hb2 := yaq hc7 hb2
    refine yaj (yae (yab ?_))
    refine yad [] [18] [(8, pI (IntKind.i64.wrap (v1 + 1)))] fo0 (by kernel_rfl) ?_
    exact pk_loop hb2 () (zhc rfl (zhc rfl (zhc rfl (zhc rfl zhn)))) zsn
  ·replace hb2 := yaq hc4 hb2
   refine pwc_exit (yav ?_)
   refine yar hb2 (fun ht => ?_)
   refine yau rfl ?_
   exact pk_mid ((), ()) zhn zsn ht.symm
 ·rintro ⟨_, _⟩ τ hz; (try dsimp only at hz); subst q3; (try dsimp only at h); dsimp only [pupds]
  refine yaa ?_
  refine yad [] [] [(4, pI (-1))] fo0 (by kernel_rfl) ?_
  refine yab (yak ?_)
  obtain rfl := Option.some.inj h
  exact yal (ybc (yao rfl)) zsn ⟨rfl, rfl⟩
def cumulation_find_1 (p0 : TAgreement) (p1 : Int) : Option Bool := some (p0.ID == p1)
set_option maxHeartbeats 4000000 in
theorem cumulation_find_1_ok {p0 : TAgreement} {p1 : Int} {r : Bool}  (h : cumulation_find_1 p0 p1 = some r) : PF 86 [.agg [pI p0.ID, pI p0.Kind, pL eS p0.Parties, pL TRuleFor.enc p0.Rules], .ref [pI p1] 0] (pB r) := by
 unfold cumulation_find_1 at h
 refine pf_of ?_
 refine penter Tryz.func86 fk86 rfl Tryz.ntmps86 Tryz.results86 rfl ?_
 refine yaa (yaf ?_)
 refine yay rfl rfl rfl (pl_box (cs := [pI p0.ID, pI p0.Kind, pL eS p0.Parties, pL TRuleFor.enc p0.Rules]) rfl rfl (fun b1 => ?_))
 refine yas [] [3] [] fo0 (by kernel_rfl) ?_
 refine yab (yaa ?_)
 refine yad [0] [4, 5, 6, 7] [(3, pB (p0.ID == p1))] fo0 (by kernel_rfl) ?_
 refine yab (yak ?_)
 obtain rfl := Option.some.inj h
 exact yal (ybc (yao rfl)) zsn ⟨rfl, rfl⟩
def cumulation_find (p0 : (List TAgreement)) (p1 : Int) : Option (TAgreement × Bool) := Option.bind (slices_IndexFunc_api_Agreement_api_Agreement p0 (fun y3 => cumulation_find_1 y3 p1)) (fun x4 => cond (decide (x4 < 0)) (some ((⟨0, 0, [], []⟩ : TAgreement), false)) (Option.bind (idx p0 x4) (fun m6 => some (m6, true))))
set_option maxHeartbeats 4000000 in
theorem cumulation_find_ok {p0 : (List TAgreement)} {p1 : Int} {r : (TAgreement × Bool)}  (h : cumulation_find p0 p1 = some r) : PF 59 [pL TAgreement.enc p0, pI p1] (.tup [.agg [pI r.1.ID, pI r.1.Kind, pL eS r.1.Parties, pL TRuleFor.enc r.1.Rules], pB r.2]) := by
 unfold cumulation_find at h
 refine pf_of ?_
 refine penter Tryz.func59 fk59 rfl Tryz.ntmps59 Tryz.results59 rfl ?_
 refine yaa (yaf ?_)
 refine yay rfl rfl rfl (pl_box (cs := [pI p1]) rfl rfl (fun b1 => ?_))
 refine yay rfl rfl rfl (pl_alloc (cs := [pI 0, pI 0, pN, pN]) rfl rfl rfl rfl (fun b2 => ?_))
 refine yas [] [5] [] fo0 (by kernel_rfl) ?_
 refine yab (yaa (yaf ?_))
 refine yam 1 [] [] [(7, pL TAgreement.enc p0)] fo0 (by kernel_rfl) ?_
 refine pwl_frb 3 rfl (by exact zpt zph) ?_
 refine yac h ?_; clear h; intro x4 hx4 h
 refine yas [] [8, 9] [(6, pI x4)] (focl 1 (slices_IndexFunc_api_Agreement_api_Agreement_ok (fun hr => pfv_of (cumulation_find_1_ok hr)) hx4) fo0) (by kernel_rfl) ?_
 refine yab (yaa (yaa ?_))
 refine yad [] [10] [(11, pB (decide (x4 < 0)))] fo0 (by kernel_rfl) ?_
 refine yab ?_
 refine yah rfl (fun hc5 => ?_) (fun hc5 => ?_)
 ·replace h := yap hc5 h
  refine yaa (yaf ?_)
  refine yam 1 [] [] [(12, .agg [pI 0, pI 0, pN, pN])] fo0 (by kernel_rfl) ?_
  refine pwl_l0 rfl rfl (yaw (vs := [pI 0, pI 0, pN, pN]) rfl rfl rfl rfl rfl (zut zuh) (zlc (zlc (zlc (zlc zln)))) ?_)
  refine yas [] [] [(5, pB false)] fo0 (by kernel_rfl) ?_
  refine yab ?_
  refine pwc_nilb (k := 2) (b := b2) rfl (zut zuh) ?_
  refine pwc_nilb (k := 3) (b := b2) rfl (zut zuh) ?_
  refine yak (yai ?_)
  obtain rfl := Option.some.inj h
  exact yal (prv_2 (prv1_c rfl zm1 rfl) (yao rfl)) zsn ⟨rfl, rfl⟩
 ·replace h := yaq hc5 h
  refine yaj (yab (yaa ?_))
  refine yac h ?_; clear h; intro m6 hm6 h
  refine yaf ?_
  refine yam 4 [] [13, 14, 15] [(16, .agg [pI m6.ID, pI m6.Kind, pL eS m6.Parties, pL TRuleFor.enc m6.Rules])] (foix 2 TAgreement.enc hm6 fo0) (by kernel_rfl) ?_
  refine pwl_l0 rfl rfl (yaw (vs := [pI m6.ID, pI m6.Kind, pL eS m6.Parties, pL TRuleFor.enc m6.Rules]) rfl rfl rfl rfl rfl (zut zuh) (zlc (zlc (zlc (zlc zln)))) ?_)
  refine yas [] [] [(5, pB true)] fo0 (by kernel_rfl) ?_
  refine yab (yak ?_)
  obtain rfl := Option.some.inj h
  exact yal (prv_2 (prv1_c rfl zm1 rfl) (yao rfl)) zsn ⟨rfl, rfl⟩
def slices_Index_string_string (p0 : (List ByteArray)) (p1 : ByteArray) : Option Int := Option.bind (loopF (S := Int) (T := (Unit) ⊕ (_)) (fun v1 => cond (decide (v1 < (p0.length : Int))) (Option.bind (idx p0 v1) (fun m5 => cond (decide (p1 = m5)) (some (.inr (.inr v1))) (some (.inl (IntKind.i64.wrap (v1 + 1)))))) (some (.inr (.inl ())))) FUEL 0) (fun q => match q with | .inl _ => some (-1) | .inr e => some e)
set_option maxHeartbeats 4000000 in
theorem slices_Index_string_string_ok {p0 : (List ByteArray)} {p1 : ByteArray} {r : Int}  (h : slices_Index_string_string p0 p1 = some r) : PF 113 [pL eS p0, pS p1] (pI r) := by
 unfold slices_Index_string_string at h
 refine pf_of ?_
 refine penter Tryz.func113 fk113 rfl Tryz.ntmps113 Tryz.results113 rfl ?_
 refine yaa ?_
 refine yad [] [4] [] fo0 (by kernel_rfl) ?_
 refine yab (yaa (yaa ?_))
 refine yad [] [6] [(7, pI (p0.length : Int)), (8, pI 0)] fo0 (by kernel_rfl) ?_
 refine yab ?_
 refine yac h ?_; clear h; intro q3 hq3 h
 refine yaz (Y := (Unit) × (Unit)) (fun (_, _) => []) (fun (_, _) => []) (fun (_, _) => q3 = Sum.inl ()) ?_ ?_
 ·refine yan ?_
  refine ybd (Y := Unit) (S := Int) _ hq3 (fun _ v1 => [(0, pL eS p0), (1, pS p1), (7, pI (p0.length : Int)), (8, pI v1)]) (fun _ v1 => []) () (zhc rfl (zhc rfl (zhc rfl (zhc rfl zhn)))) zsn ?_
  rintro _ v1 o τ hb2; (try dsimp only at hb2); dsimp only [pupds]
  refine yaa ?_
  refine yad [] [] [(9, pB (decide (v1 < (p0.length : Int))))] fo0 (by kernel_rfl) ?_
  refine yab (yaa ?_)
  refine yah rfl (fun hc4 => ?_) (fun hc4 => ?_)
  ·replace hb2 := yap hc4 hb2
   refine yaj (yab (yaa (yan (yaa ?_))))
   refine yad [] [10] [(5, pI v1)] fo0 (by kernel_rfl) ?_
   refine yab (yaa ?_)
   refine yac hb2 ?_; clear hb2; intro m5 hm5 hb2
   refine yad [] [11, 12, 13, 14, 15] [(16, pB (decide (p1 = m5)))] (foix 3 eS hm5 fo0) (by kernel_rfl) ?_
   refine yab ?_
   refine yah rfl (fun hc6 => ?_) (fun hc6 => ?_)
   ·replace hb2 := yap hc6 hb2
    refine yaa ?_
    refine yad [] [17] [(4, pI v1)] fo0 (by kernel_rfl) ?_
    refine yab (yak (yag (yai ?_)))
    refine pk_loop_ret hb2 (fun ht => ?_); subst ht
    have h := (show some _ = some _ from h)
    refine yag (yax ?_)
    obtain rfl := Option.some.inj h
    exact yal (ybc (yao rfl)) zsn ⟨rfl, rfl⟩
   ·replace hb2 := yaq hc6 hb2
    refine yaj (yae (yab ?_))
    refine yad [] [18] [(8, pI (IntKind.i64.wrap (v1 + 1)))] fo0 (by kernel_rfl) ?_
    exact pk_loop hb2 () (zhc rfl (zhc rfl (zhc rfl (zhc rfl zhn)))) zsn
  ·replace hb2 := yaq hc4 hb2
   refine pwc_exit (yav ?_)
   refine yar hb2 (fun ht => ?_)
   refine yau rfl ?_
   exact pk_mid ((), ()) zhn zsn ht.symm
 ·rintro ⟨_, _⟩ τ hz; (try dsimp only at hz); subst q3; (try dsimp only at h); dsimp only [pupds]
  refine yaa ?_
  refine yad [] [] [(4, pI (-1))] fo0 (by kernel_rfl) ?_
  refine yab (yak ?_)
  obtain rfl := Option.some.inj h
  exact yal (ybc (yao rfl)) zsn ⟨rfl, rfl⟩
def slices_Contains_string_string (p0 : (List ByteArray)) (p1 : ByteArray) : Option Bool := Option.bind (slices_Index_string_string p0 p1) (fun x1 => some (decide (0 ≤ x1)))
set_option maxHeartbeats 4000000 in
theorem slices_Contains_string_string_ok {p0 : (List ByteArray)} {p1 : ByteArray} {r : Bool}  (h : slices_Contains_string_string p0 p1 = some r) : PF 87 [pL eS p0, pS p1] (pB r) := by
 unfold slices_Contains_string_string at h
 refine pf_of ?_
 refine penter Tryz.func87 fk87 rfl Tryz.ntmps87 Tryz.results87 rfl ?_
 refine yaa ?_
 refine yad [] [4] [] fo0 (by kernel_rfl) ?_
 refine yab (yaa ?_)
 refine yac h ?_; clear h; intro x1 hx1 h
 refine yad [] [5, 6, 7, 8] [(4, pB (decide (0 ≤ x1)))] (focl 2 (slices_Index_string_string_ok hx1) fo0) (by kernel_rfl) ?_
 refine yab (yak ?_)
 obtain rfl := Option.some.inj h
 exact yal (ybc (yao rfl)) zsn ⟨rfl, rfl⟩
def cumulation_hasParties (p0 : TAgreement) (p1 : ByteArray) (p2 : ByteArray) : Option Bool := Option.bind (slices_Contains_string_string p0.Parties p1) (fun x2 => Option.bind (gd x2 (slices_Contains_string_string p0.Parties p2)) (fun x3 => some (x2 && x3)))
set_option maxHeartbeats 4000000 in
theorem cumulation_hasParties_ok {p0 : TAgreement} {p1 : ByteArray} {p2 : ByteArray} {r : Bool}  (h : cumulation_hasParties p0 p1 p2 = some r) : PF 60 [.agg [pI p0.ID, pI p0.Kind, pL eS p0.Parties, pL TRuleFor.enc p0.Rules], pS p1, pS p2] (pB r) := by
 unfold cumulation_hasParties at h
 refine pf_of ?_
 refine penter Tryz.func60 fk60 rfl Tryz.ntmps60 Tryz.results60 rfl ?_
 refine yaa (yaf ?_)
 refine yay rfl rfl rfl (pl_box (cs := [pI p0.ID, pI p0.Kind, pL eS p0.Parties, pL TRuleFor.enc p0.Rules]) rfl rfl (fun b1 => ?_))
 refine yas [] [6] [] fo0 (by kernel_rfl) ?_
 refine yab (yaa ?_)
 refine yac h ?_; clear h; intro x2 hx2 h
 refine yac h ?_; clear h; intro x3 hx3 h
 refine yad [0, 0] [7, 8, 9, 10, 11, 12, 13, 14, 15, 16] [(6, pB (x2 && x3))] (focl 3 (slices_Contains_string_string_ok hx2) (foclg 8 (fun hc => slices_Contains_string_string_ok (gd_t hx3 hc)) fo0)) (by kernel_rfl) ?_
 refine yab (yak ?_)
 obtain rfl := Option.some.inj h
 exact yal (ybc (yao rfl)) zsn ⟨rfl, rfl⟩
def slices_BinarySearchFunc_api_Product_api_Product_int (p0 : (List TProduct)) (p1 : Int) (p2 : (TProduct → Int → Option Int)) : Option (Int × Bool) := Option.bind (loopF (S := Int × Int) (T := (Int × Int)) (fun (v1, v2) => cond (decide (v1 < v2)) (lb ((IntKind.i64.wrap (ishr .u64 (IntKind.u64.wrap (IntKind.i64.wrap (v1 + v2))) 1))) (fun w8 => Option.bind (idx p0 w8) (fun m9 => Option.bind (p2 m9 p1) (fun x10 => cond (decide (x10 < 0)) (some (.inl ((IntKind.i64.wrap (w8 + 1)), v2))) (some (.inl (v1, w8))))))) (some (.inr (p1, v1)))) FUEL (0, (p0.length : Int))) (fun (v3, v4) => Option.bind (gd (decide (v4 < (p0.length : Int))) (idx p0 v4)) (fun m12 => Option.bind (gd (decide (v4 < (p0.length : Int))) (p2 m12 v3)) (fun x13 => some (v4, ((decide (v4 < (p0.length : Int))) && (x13 == 0))))))
set_option maxHeartbeats 4000000 in
theorem slices_BinarySearchFunc_api_Product_api_Product_int_ok {p0 : (List TProduct)} {p1 : Int} {p2 : (TProduct → Int → Option Int)} {r : (Int × Bool)} {g2 : PV} (hg2 : ∀ {y0 : TProduct} {y1 : Int} {w : Int}, p2 y0 y1 = some w → PFV g2 [.agg [pI y0.ID, pS y0.Code, pS y0.Country, pI y0.Price, pB y0.Obtained, pL eS y0.Processes, pL TIngredient.enc y0.Inputs], pI y1] (pI w)) (h : slices_BinarySearchFunc_api_Product_api_Product_int p0 p1 p2 = some r) : PF 116 [pL TProduct.enc p0, pI p1, g2] (.tup [pI r.1, pB r.2]) := by
 unfold slices_BinarySearchFunc_api_Product_api_Product_int at h
 refine pf_of ?_
 refine penter Tryz.func116 fk116 rfl Tryz.ntmps116 Tryz.results116 rfl ?_
 refine yaa ?_
 refine yad [] [6, 7] [] fo0 (by kernel_rfl) ?_
 refine yab (yaa ?_)
 refine yad [] [12, 13] [(8, pI (p0.length : Int))] fo0 (by kernel_rfl) ?_
 refine yab (yaa ?_)
 refine yad [] [14] [(9, pI 0), (10, pI (p0.length : Int))] fo0 (by kernel_rfl) ?_
 refine yab (yaa ?_)
 refine yac h ?_; clear h; intro q6 hq6 h
 refine yaz (Y := (Unit) × (Int × Int)) (fun (_, (v3, v4)) => [(0, pL TProduct.enc p0), (1, pI v3), (2, g2), (8, pI (p0.length : Int)), (9, pI v4)]) (fun (_, (v3, v4)) => []) (fun (_, (v3, v4)) => q6 = (v3, v4)) ?_ ?_
 ·refine yan ?_
  refine ybd (Y := Unit) (S := Int × Int) _ hq6 (fun _ (v1, v2) => [(0, pL TProduct.enc p0), (1, pI p1), (2, g2), (8, pI (p0.length : Int)), (9, pI v1), (10, pI v2)]) (fun _ (v1, v2) => []) () (zhc rfl (zhc rfl (zhc rfl (zhc rfl (zhc rfl (zhc rfl zhn)))))) zsn ?_
  rintro _ ⟨v1, v2⟩ o τ hb5; (try dsimp only at hb5); dsimp only [pupds]
  refine yaa (yaa ?_)
  refine yad [] [15, 16] [(17, pB (decide (v1 < v2)))] fo0 (by kernel_rfl) ?_
  refine yab ?_
  refine yah rfl (fun hc7 => ?_) (fun hc7 => ?_)
  ·replace hb5 := yap hc7 hb5
   refine yaj (yab (yan (yaa ?_)))
   refine lb_elim hb5 ?_; clear hb5; intro w8 hw8 hb5
   refine yaf ?_
   refine yam 6 [] [18, 19, 20, 21, 22] [(23, pI (IntKind.i64.wrap (ishr .u64 (IntKind.u64.wrap (IntKind.i64.wrap (v1 + v2))) 1)))] fo0 (by kernel_rfl) ?_
   refine pwl_q rfl rfl rfl (pq_assign rfl (.p (congrArg (fun z => PV.v (Value.int .i64 z)) hw8))) ?_
   refine yba (yab (yaa ?_))
   refine yac hb5 ?_; clear hb5; intro m9 hm9 hb5
   refine yac hb5 ?_; clear hb5; intro x10 hx10 hb5
   refine yad [] [24, 25, 26, 27, 28, 29, 30] [(31, pB (decide (x10 < 0)))] (foix 3 TProduct.enc hm9 (focv 6 (hg2 hx10) fo0)) (by kernel_rfl) ?_
   refine yab ?_
   refine yah rfl (fun hc11 => ?_) (fun hc11 => ?_)
   ·replace hb5 := yap hc11 hb5
    refine yad [] [32, 33] [(9, pI (IntKind.i64.wrap (w8 + 1)))] fo0 (by kernel_rfl) ?_
    refine yae ?_
    exact pk_loop hb5 () (zhc rfl (zhc rfl (zhc rfl (zhc rfl (zhc rfl (zhc rfl zhn)))))) zsn
   ·replace hb5 := yaq hc11 hb5
    refine yad [] [34] [(10, pI w8)] fo0 (by kernel_rfl) ?_
    refine yae ?_
    exact pk_loop hb5 () (zhc rfl (zhc rfl (zhc rfl (zhc rfl (zhc rfl (zhc rfl zhn)))))) zsn
  ·replace hb5 := yaq hc7 hb5
   refine pwc_exit (yav ?_)
   refine yar hb5 (fun ht => ?_)
   refine yau rfl ?_
   exact pk_mid ((), (p1, v1)) (zhc rfl (zhc rfl (zhc rfl (zhc rfl (zhc rfl zhn))))) zsn ht.symm
 ·rintro ⟨_, ⟨v3, v4⟩⟩ τ hz; (try dsimp only at hz); subst q6; (try dsimp only at h); dsimp only [pupds]
  refine yaa ?_
  refine yac h ?_; clear h; intro m12 hm12 h
  refine yac h ?_; clear h; intro x13 hx13 h
  refine yad [] [35, 36, 37, 38, 39, 40, 41, 42, 43, 44, 45, 46, 47, 48] [(6, pI v4), (7, pB ((decide (v4 < (p0.length : Int))) && (x13 == 0)))] (foixg 8 TProduct.enc (gd_t hm12) (focvg 11 (fun hc => hg2 (gd_t hx13 hc)) fo0)) (by kernel_rfl) ?_
  refine yab (yak ?_)
  obtain rfl := Option.some.inj h
  exact yal (prv_2 (yao rfl) (yao rfl)) zsn ⟨rfl, rfl⟩
def cmp_isNaN_int (p0 : Int) : Option Bool := some (p0 != p0)
set_option maxHeartbeats 4000000 in
theorem cmp_isNaN_int_ok {p0 : Int} {r : Bool}  (h : cmp_isNaN_int p0 = some r) : PF 132 [pI p0] (pB r) := by
 unfold cmp_isNaN_int at h
 refine pf_of ?_
 refine penter Tryz.func132 fk132 rfl Tryz.ntmps132 Tryz.results132 rfl ?_
 refine yaa ?_
 refine yad [] [2] [] fo0 (by kernel_rfl) ?_
 refine yab (yaa ?_)
 refine yad [] [3, 4, 5] [(2, pB (p0 != p0))] fo0 (by kernel_rfl) ?_
 refine yab (yak ?_)
 obtain rfl := Option.some.inj h
 exact yal (ybc (yao rfl)) zsn ⟨rfl, rfl⟩
def cmp_Compare_int (p0 : Int) (p1 : Int) : Option Int := Option.bind (cmp_isNaN_int p0) (fun x1 => Option.bind (cmp_isNaN_int p1) (fun x2 => cond x1 (cond x2 (some 0) (some (-1))) (cond x2 (some 1) (cond (decide (p0 < p1)) (some (-1)) (cond (decide (p1 < p0)) (some 1) (some 0))))))
set_option maxHeartbeats 4000000 in
theorem cmp_Compare_int_ok {p0 : Int} {p1 : Int} {r : Int}  (h : cmp_Compare_int p0 p1 = some r) : PF 99 [pI p0, pI p1] (pI r) := by
 unfold cmp_Compare_int at h
 refine pf_of ?_
 refine penter Tryz.func99 fk99 rfl Tryz.ntmps99 Tryz.results99 rfl ?_
 refine yaa ?_
 refine yad [] [4] [] fo0 (by kernel_rfl) ?_
 refine yab (yaa ?_)
 refine yac h ?_; clear h; intro x1 hx1 h
 refine yad [] [7, 8] [(5, pB x1)] (focl 1 (cmp_isNaN_int_ok hx1) fo0) (by kernel_rfl) ?_
 refine yab (yaa ?_)
 refine yac h ?_; clear h; intro x2 hx2 h
 refine yad [] [9, 10] [(6, pB x2)] (focl 1 (cmp_isNaN_int_ok hx2) fo0) (by kernel_rfl) ?_
 refine yab (yaa (yaa ?_))
 refine yad [] [] [(11, pB x1)] fo0 (by kernel_rfl) ?_
 refine yab ?_
 refine yah rfl (fun hc3 => ?_) (fun hc3 => ?_)
 ·replace h := yap hc3 h
  refine yaa (yaa ?_)
  refine yad [] [] [(12, pB x2)] fo0 (by kernel_rfl) ?_
  refine yab ?_
  refine yah rfl (fun hc4 => ?_) (fun hc4 => ?_)
  ·replace h := yap hc4 h
   refine yaa ?_
   refine yad [] [] [(4, pI 0)] fo0 (by kernel_rfl) ?_
   refine yab (yak (yai (yai ?_)))
   obtain rfl := Option.some.inj h
   exact yal (ybc (yao rfl)) zsn ⟨rfl, rfl⟩
  ·replace h := yaq hc4 h
   refine yaj (yab (yaa ?_))
   refine yad [] [] [(4, pI (-1))] fo0 (by kernel_rfl) ?_
   refine yab (yak (yai ?_))
   obtain rfl := Option.some.inj h
   exact yal (ybc (yao rfl)) zsn ⟨rfl, rfl⟩
 ·replace h := yaq hc3 h
  refine yaj (yab (yaa (yaa ?_)))
  refine yad [] [] [(13, pB x2)] fo0 (by kernel_rfl) ?_
  refine yab ?_
  refine yah rfl (fun hc5 => ?_) (fun hc5 => ?_)
  ·replace h := yap hc5 h
   refine yaa ?_
   refine yad [] [] [(4, pI 1)] fo0 (by kernel_rfl) ?_
   refine yab (yak (yai ?_))
   obtain rfl := Option.some.inj h
   exact yal (ybc (yao rfl)) zsn ⟨rfl, rfl⟩
  ·replace h := yaq hc5 h
   refine yaj (yab (yaa (yaa ?_)))
   refine yad [] [14, 15] [(16, pB (decide (p0 < p1)))] fo0 (by kernel_rfl) ?_
   refine yab ?_
   refine yah rfl (fun hc6 => ?_) (fun hc6 => ?_)
   ·replace h := yap hc6 h
    refine yaa ?_
    refine yad [] [] [(4, pI (-1))] fo0 (by kernel_rfl) ?_
    refine yab (yak (yai ?_))
    obtain rfl := Option.some.inj h
    exact yal (ybc (yao rfl)) zsn ⟨rfl, rfl⟩
   ·replace h := yaq hc6 h
    refine yaj (yab (yaa (yaa ?_)))
    refine yad [] [17, 18] [(19, pB (decide (p1 < p0)))] fo0 (by kernel_rfl) ?_
    refine yab ?_
    refine yah rfl (fun hc7 => ?_) (fun hc7 => ?_)
    ·replace h := yap hc7 h
     refine yaa ?_
     refine yad [] [] [(4, pI 1)] fo0 (by kernel_rfl) ?_
     refine yab (yak (yai ?_))
     obtain rfl := Option.some.inj h
     exact yal (ybc (yao rfl)) zsn ⟨rfl, rfl⟩
    ·replace h := yaq hc7 h
     refine yaj (yab (yaa ?_))
     refine yad [] [] [(4, pI 0)] fo0 (by kernel_rfl) ?_
     refine yab (yak ?_)
     obtain rfl := Option.some.inj h
     exact yal (ybc (yao rfl)) zsn ⟨rfl, rfl⟩
def production_search_1 (p0 : TProduct) (p1 : Int) : Option Int := Option.bind (cmp_Compare_int p0.ID p1) (fun x2 => some x2)
set_option maxHeartbeats 4000000 in
theorem production_search_1_ok {p0 : TProduct} {p1 : Int} {r : Int}  (h : production_search_1 p0 p1 = some r) : PF 117 [.agg [pI p0.ID, pS p0.Code, pS p0.Country, pI p0.Price, pB p0.Obtained, pL eS p0.Processes, pL TIngredient.enc p0.Inputs], pI p1] (pI r) := by
 unfold production_search_1 at h
 refine pf_of ?_
 refine penter Tryz.func117 fk117 rfl Tryz.ntmps117 Tryz.results117 rfl ?_
 refine yaa (yaf ?_)
 refine yay rfl rfl rfl (pl_box (cs := [pI p0.ID, pS p0.Code, pS p0.Country, pI p0.Price, pB p0.Obtained, pL eS p0.Processes, pL TIngredient.enc p0.Inputs]) rfl rfl (fun b1 => ?_))
 refine yas [] [4] [] fo0 (by kernel_rfl) ?_
 refine yab (yaa ?_)
 refine yac h ?_; clear h; intro x2 hx2 h
 refine yad [0] [5, 6, 7, 8] [(4, pI x2)] (focl 3 (cmp_Compare_int_ok hx2) fo0) (by kernel_rfl) ?_
 refine yab (yak ?_)
 obtain rfl := Option.some.inj h
 exact yal (ybc (yao rfl)) zsn ⟨rfl, rfl⟩
def production_search (p0 : (List TProduct)) (p1 : Int) : Option (Int × Bool) := Option.bind (slices_BinarySearchFunc_api_Product_api_Product_int p0 p1 (fun y1 y2 => production_search_1 y1 y2)) (fun x3 => some (x3.1, x3.2))
set_option maxHeartbeats 4000000 in
theorem production_search_ok {p0 : (List TProduct)} {p1 : Int} {r : (Int × Bool)}  (h : production_search p0 p1 = some r) : PF 91 [pL TProduct.enc p0, pI p1] (.tup [pI r.1, pB r.2]) := by
 unfold production_search at h
 refine pf_of ?_
 refine penter Tryz.func91 fk91 rfl Tryz.ntmps91 Tryz.results91 rfl ?_
 refine yaa ?_
 refine yad [] [4, 5] [] fo0 (by kernel_rfl) ?_
 refine yab (yaa ?_)
 refine yac h ?_; clear h; intro x3 hx3 h
 refine yad [] [6, 7, 8, 9, 10] [(4, pI x3.1), (5, pB x3.2)] (focl 2 (slices_BinarySearchFunc_api_Product_api_Product_int_ok (fun hr => pfv_of (production_search_1_ok hr)) hx3) fo0) (by kernel_rfl) ?_
 refine yab (yak ?_)
 obtain rfl := Option.some.inj h
 exact yal (prv_2 (yao rfl) (yao rfl)) zsn ⟨rfl, rfl⟩
def slices_Clone_string_string (p0 : (List ByteArray)) : Option (List ByteArray) := app 16 ([] : List ByteArray) p0
set_option maxHeartbeats 4000000 in
theorem slices_Clone_string_string_ok {p0 : (List ByteArray)} {r : (List ByteArray)} (h : slices_Clone_string_string p0 = some r) : PCall 84 [pL eS p0] [] (fun pv ρ' => ∃ a c, pv = .v (.slice a r.length c) ∧ ρ' = [PRes.row a r.length c 9 1 (List.map eS r)]) := by
 unfold slices_Clone_string_string at h
 refine penter Tryz.func84 fk84 rfl Tryz.ntmps84 Tryz.results84 rfl ?_
 (repeat refine yaa ?_)
 refine yaf ?_
 refine zas (p := .v (.slice none 0 0)) rfl rfl rfl rfl rfl ?_
 refine yba (yab ?_)
 (repeat refine yaa ?_)
 refine yaf ?_
 refine zmv (p := pL eS p0) rfl rfl rfl rfl rfl ?_
 refine pwl_eqnil rfl rfl rfl rfl rfl rfl (fun b hb => ?_)
 refine yba (yab ?_)
 refine yah rfl (fun hc => ?_) (fun hc => ?_)
 ·have e0 : p0 = [] := List.map_eq_nil_iff.1 (hb hc)
  subst e0; obtain ⟨rfl, _⟩ := app_some h
  (repeat refine yaa ?_)
  refine yaf ?_
  refine zas (p := .v (.slice none 0 0)) rfl rfl rfl rfl rfl ?_
  refine yba (yab ?_)
  refine pwc_nilrow 9 1 ?_
  refine yak (yai ?_)
  exact yal (ybc (yao rfl)) (zsc zph zsn) ⟨_, _, rfl, rfl⟩
 ·refine yaj ?_
  refine yab ?_
  (repeat refine yaa ?_)
  refine yaf ?_
  refine yay rfl rfl rfl (pl_lit rfl rfl rfl rfl rfl zin rfl rfl rfl rfl (fun b1 => ?_))
  refine zmv (p := pL eS p0) rfl rfl rfl rfl rfl ?_
  refine yay rfl rfl rfl (pl_app_s (enc := eS) (xs := ([] : List ByteArray)) rfl rfl rfl rfl rfl (fun _ => rfl) rfl rfl rfl (by exact zph) h (fun a c => ?_))
  refine zas (p := .v (.slice a r.length c)) rfl rfl rfl rfl rfl ?_
  refine yba (yab (yak ?_))
  exact yal (ybc (yao rfl)) (zsc zph zsn) ⟨_, _, rfl, rfl⟩
def slices_Clone_api_Ingredient_api_Ingredient (p0 : (List TIngredient)) : Option (List TIngredient) := app 16 ([] : List TIngredient) p0
set_option maxHeartbeats 4000000 in
theorem slices_Clone_api_Ingredient_api_Ingredient_ok {p0 : (List TIngredient)} {r : (List TIngredient)} (h : slices_Clone_api_Ingredient_api_Ingredient p0 = some r) : PCall 92 [pL TIngredient.enc p0] [] (fun pv ρ' => ∃ a c, pv = .v (.slice a r.length c) ∧ ρ' = [PRes.row a r.length c 94 2 (List.map TIngredient.enc r)]) := by
 unfold slices_Clone_api_Ingredient_api_Ingredient at h
 refine penter Tryz.func92 fk92 rfl Tryz.ntmps92 Tryz.results92 rfl ?_
 (repeat refine yaa ?_)
 refine yaf ?_
 refine zas (p := .v (.slice none 0 0)) rfl rfl rfl rfl rfl ?_
 refine yba (yab ?_)
 (repeat refine yaa ?_)
 refine yaf ?_
 refine zmv (p := pL TIngredient.enc p0) rfl rfl rfl rfl rfl ?_
 refine pwl_eqnil rfl rfl rfl rfl rfl rfl (fun b hb => ?_)
 refine yba (yab ?_)
 refine yah rfl (fun hc => ?_) (fun hc => ?_)
 ·have e0 : p0 = [] := List.map_eq_nil_iff.1 (hb hc)
  subst e0; obtain ⟨rfl, _⟩ := app_some h
  (repeat refine yaa ?_)
  refine yaf ?_
  refine zas (p := .v (.slice none 0 0)) rfl rfl rfl rfl rfl ?_
  refine yba (yab ?_)
  refine pwc_nilrow 94 2 ?_
  refine yak (yai ?_)
  exact yal (ybc (yao rfl)) (zsc zph zsn) ⟨_, _, rfl, rfl⟩
 ·refine yaj ?_
  refine yab ?_
  (repeat refine yaa ?_)
  refine yaf ?_
  refine yay rfl rfl rfl (pl_lit rfl rfl rfl rfl rfl zin rfl rfl rfl rfl (fun b1 => ?_))
  refine zmv (p := pL TIngredient.enc p0) rfl rfl rfl rfl rfl ?_
  refine yay rfl rfl rfl (pl_app_s (enc := TIngredient.enc) (xs := ([] : List TIngredient)) rfl rfl rfl rfl rfl (fun _ => rfl) rfl rfl rfl (by exact zph) h (fun a c => ?_))
  refine zas (p := .v (.slice a r.length c)) rfl rfl rfl rfl rfl ?_
  refine yba (yab (yak ?_))
  exact yal (ybc (yao rfl)) (zsc zph zsn) ⟨_, _, rfl, rfl⟩
def production_Find (p0 : (List TProduct)) (p1 : Int) : Option (TProduct × Bool) := Option.bind (production_search p0 p1) (fun x2 => cond (!x2.2) (some ((⟨0, ByteArray.empty, ByteArray.empty, 0, false, [], []⟩ : TProduct), false)) (Option.bind (idx p0 x2.1) (fun m4 => Option.bind (slices_Clone_string_string m4.Processes) (fun x6 => Option.bind (slices_Clone_api_Ingredient_api_Ingredient m4.Inputs) (fun x10 => some ((⟨m4.ID, m4.Code, m4.Country, m4.Price, m4.Obtained, x6, x10⟩ : TProduct), true))))))
set_option maxHeartbeats 4000000 in
theorem production_Find_ok {p0 : (List TProduct)} {p1 : Int} {r : (TProduct × Bool)}  (h : production_Find p0 p1 = some r) : PF 62 [pL TProduct.enc p0, pI p1] (.tup [.agg [pI r.1.ID, pS r.1.Code, pS r.1.Country, pI r.1.Price, pB r.1.Obtained, pL eS r.1.Processes, pL TIngredient.enc r.1.Inputs], pB r.2]) := by
 unfold production_Find at h
 refine pf_of ?_
 refine penter Tryz.func62 fk62 rfl Tryz.ntmps62 Tryz.results62 rfl ?_
 refine yaa (yaf ?_)
 refine yay rfl rfl rfl (pl_alloc (cs := [pI 0, pS ByteArray.empty, pS ByteArray.empty, pI 0, pB false, pN, pN]) rfl rfl rfl rfl (fun b1 => ?_))
 refine yas [] [5] [] fo0 (by kernel_rfl) ?_
 refine yab (yaa ?_)
 refine yac h ?_; clear h; intro x2 hx2 h
 refine yad [] [10, 11, 12, 9, 13, 14] [(6, pI x2.1), (7, pB x2.2)] (focl 2 (production_search_ok hx2) fo0) (by kernel_rfl) ?_
 refine yab (yaa (yaa ?_))
 refine yad [] [15] [(16, pB (!x2.2))] fo0 (by kernel_rfl) ?_
 refine yab ?_
 refine yah rfl (fun hc3 => ?_) (fun hc3 => ?_)
 ·replace h := yap hc3 h
  refine yaa (yaf ?_)
  refine yam 1 [] [] [(17, .agg [pI 0, pS ByteArray.empty, pS ByteArray.empty, pI 0, pB false, pN, pN])] fo0 (by kernel_rfl) ?_
  refine pwl_l0 rfl rfl (yaw (vs := [pI 0, pS ByteArray.empty, pS ByteArray.empty, pI 0, pB false, pN, pN]) rfl rfl rfl rfl rfl zuh (zlc (zlc (zlc (zlc (zlc (zlc (zlc zln))))))) ?_)
  refine yas [] [] [(5, pB false)] fo0 (by kernel_rfl) ?_
  refine yab ?_
  refine pwc_nilb (k := 5) (b := b1) rfl zuh ?_
  refine pwc_nilb (k := 6) (b := b1) rfl zuh ?_
  refine yak (yai ?_)
  obtain rfl := Option.some.inj h
  exact yal (prv_2 (prv1_c rfl zm0 rfl) (yao rfl)) zsn ⟨rfl, rfl⟩
 ·replace h := yaq hc3 h
  refine yaj (yab (yaa ?_))
  refine yac h ?_; clear h; intro m4 hm4 h
  refine yaf ?_
  refine yam 4 [] [18, 19, 20] [(21, .agg [pI m4.ID, pS m4.Code, pS m4.Country, pI m4.Price, pB m4.Obtained, pL eS m4.Processes, pL TIngredient.enc m4.Inputs])] (foix 2 TProduct.enc hm4 fo0) (by kernel_rfl) ?_
  refine yay rfl rfl rfl (pl_alloc (cs := [pI 0, pS ByteArray.empty, pS ByteArray.empty, pI 0, pB false, pN, pN]) rfl rfl rfl rfl (fun b5 => ?_))
  refine pwl_l0 rfl rfl (yaw (vs := [pI m4.ID, pS m4.Code, pS m4.Country, pI m4.Price, pB m4.Obtained, pL eS m4.Processes, pL TIngredient.enc m4.Inputs]) rfl rfl rfl rfl rfl zuh (zlc (zlc (zlc (zlc (zlc (zlc (zlc zln))))))) ?_)
  refine yba (yab (yaa ?_))
  refine yac h ?_; clear h; intro x6 hx6 h
  refine yaf ?_
  refine yam 2 [0] [22] [(23, pL eS m4.Processes)] fo0 (by kernel_rfl) ?_
  refine yay rfl rfl rfl (pl_callR rfl rfl (ρ1 := []) (List.Perm.refl _) (slices_Clone_string_string_ok hx6) ?_); rintro _ _ ⟨a7, c8, rfl, rfl⟩
  refine yam 1 [] [] [(25, pP b5 5)] fo0 (by kernel_rfl) ?_
  refine pwl_l0 rfl rfl (yaw (vs := [pO a7 x6.length c8]) rfl rfl rfl rfl rfl (zut zuh) (zlt (zlt (zlt (zlt (zlt (zlc zln)))))) ?_)
  refine yba (yab (yaa ?_))
  refine yac h ?_; clear h; intro x10 hx10 h
  refine yaf ?_
  refine yam 2 [1] [26] [(27, pL TIngredient.enc m4.Inputs)] fo0 (by kernel_rfl) ?_
  refine yay rfl rfl rfl (pl_callR rfl rfl (ρ1 := []) (List.Perm.refl _) (slices_Clone_api_Ingredient_api_Ingredient_ok hx10) ?_); rintro _ _ ⟨a11, c12, rfl, rfl⟩
  refine yam 1 [] [] [(29, pP b5 6)] fo0 (by kernel_rfl) ?_
  refine pwl_l0 rfl rfl (yaw (vs := [pO a11 x10.length c12]) rfl rfl rfl rfl rfl (zut (zut zuh)) (zlt (zlt (zlt (zlt (zlt (zlt (zlc zln))))))) ?_)
  refine yba (yab (yaa (yaf ?_)))
  refine pwl_frz (css := List.map eS x6) (a := a7) (by exact zpt zph) ?_
  refine pwl_viewb (k := 5) (enc := eS) (xs := x6) (b := b5) (a := a7) rfl zm0 (zut (zut zuh)) ?_
  refine pwl_frz (css := List.map TIngredient.enc x10) (a := a11) (by exact zpt zph) ?_
  refine pwl_viewb (k := 6) (enc := TIngredient.enc) (xs := x10) (b := b5) (a := a11) rfl zm0 (zut (zut zuh)) ?_
  refine yam 1 [2] [] [(30, .agg [pI m4.ID, pS m4.Code, pS m4.Country, pI m4.Price, pB m4.Obtained, pL eS x6, pL TIngredient.enc x10])] fo0 (by kernel_rfl) ?_
  refine pwl_l0 rfl rfl (yaw (vs := [pI m4.ID, pS m4.Code, pS m4.Country, pI m4.Price, pB m4.Obtained, pL eS x6, pL TIngredient.enc x10]) rfl rfl rfl rfl rfl (zut (zut (zut zuh))) (zlc (zlc (zlc (zlc (zlc (zlc (zlc zln))))))) ?_)
  refine yas [] [] [(5, pB true)] fo0 (by kernel_rfl) ?_
  refine yab (yak ?_)
  obtain rfl := Option.some.inj h
  exact yal (prv_2 (prv1_c rfl zm3 rfl) (yao rfl)) zsn ⟨rfl, rfl⟩
def rule_goodsCode (p0 : ByteArray) : Option Bool := Option.bind (nomenclature_Level p0) (fun x1 => some (decide (6 ≤ x1)))
set_option maxHeartbeats 4000000 in
theorem rule_goodsCode_ok {p0 : ByteArray} {r : Bool}  (h : rule_goodsCode p0 = some r) : PF 72 [pS p0] (pB r) := by
 unfold rule_goodsCode at h
 refine pf_of ?_
 refine penter Tryz.func72 fk72 rfl Tryz.ntmps72 Tryz.results72 rfl ?_
 refine yaa ?_
 refine yad [] [2] [] fo0 (by kernel_rfl) ?_
 refine yab (yaa ?_)
 refine yac h ?_; clear h; intro x1 hx1 h
 refine yad [] [3, 4, 5] [(2, pB (decide (6 ≤ x1)))] (focl 1 (nomenclature_Level_ok hx1) fo0) (by kernel_rfl) ?_
 refine yab (yak ?_)
 obtain rfl := Option.some.inj h
 exact yal (ybc (yao rfl)) zsn ⟨rfl, rfl⟩
end SX
end Go.Proofs.YtiijbkaiipjpkaaGreatDoor
set_option maxRecDepth 100000
namespace Go.Proofs.YtiijbkaiipjpkaaGreatDoor
namespace SX
open Go
attribute [local irreducible] PWL PWC PWD POpL POpQ PEv PGuardIs PSub PPick PUpd PSplice PFill PLit PF PFV PCall FOk pseqK pblockK pmidK pcutK ploopK pretK Cov PHolds loopF idx app mk gd lb nz ge0 cat sub ssub iand ior ixor ishl ishr imin imax IntKind.wrap Int.tmod Int.tdiv Op.bytesLess strOfNums
def made_Source_Next (p0 : Tmade_Source) (p1 : Int) : Option (Int × Tmade_Source) := cond (decide ((p0.L.length : Int) ≤ p0.I)) (some (0, p0)) (Option.bind (idx p0.L (IntKind.i64.wrap ((IntKind.i64.wrap (p0.I + 1)) - 1))) (fun m2 => Option.bind (made_Within m2 p1) (fun x3 => some (x3, (⟨p0.L, (IntKind.i64.wrap (p0.I + 1))⟩ : Tmade_Source)))))
set_option maxHeartbeats 4000000 in
theorem yat {p0 : Tmade_Source} {p1 : Int} {b0 : Nat} {r : (Int × Tmade_Source)}  (h : made_Source_Next p0 p1 = some r) : PCall 50 [pP b0 0, pI p1] [PRes.b b0 87 [pL eI p0.L, pI p0.I]] (fun pv ρ' => pv = pI r.1 ∧ ρ' = [PRes.b b0 87 [pL eI r.2.L, pI r.2.I]]) := by
 unfold made_Source_Next at h
 refine penter Tryz.func50 fk50 rfl Tryz.ntmps50 Tryz.results50 rfl ?_
 refine yaa ?_
 refine yad [] [4] [] fo0 (by kernel_rfl) ?_
 (repeat (first | apply yae | apply yab))
 refine yaa (yaa ?_)
 refine pwc_draw (ρd := []) [(0, 0), (1, 0), (2, 0), (3, 0), (4, 0), (5, 0), (6, 0), (7, 0), (8, 0), (9, 0)] _ (List.Perm.refl _) (by kernel_rfl) rfl ?_
 refine pwd_run 10 [0, 0] [5, 6, 7, 8, 9, 10, 11, 12, 13] [(14, pB (decide ((p0.L.length : Int) ≤ p0.I)))] fo0 (by kernel_rfl) ?_
 refine pwd_nil ?_
 (repeat (first | apply yae | apply yab))
 refine yah rfl (fun hc1 => ?_) (fun hc1 => ?_)
 ·replace h := yap hc1 h
  refine yaa ?_
  refine yad [] [] [(4, pI 0)] fo0 (by kernel_rfl) ?_
  (repeat (first | apply yae | apply yab))
  refine yak ?_
  (repeat (first | apply yai | apply yag | apply yax | apply pk_cut_ret))
  obtain rfl := Option.some.inj h
  exact yal (ybc (yao rfl)) (by (repeat (first | exact zsn | (apply zsc; (focus (repeat (first | exact zph | apply zpt))))))) ⟨rfl, rfl⟩
 ·replace h := yaq hc1 h
  refine yaj ?_
  (repeat (first | apply yae | apply yab))
  refine yaa (yaf ?_)
  refine yam 7 [0] [15, 16, 17, 18, 20] [(19, pI (IntKind.i64.wrap (p0.I + 1))), (21, pP b0 1)] fo0 (by kernel_rfl) ?_
  refine pwl_l0 rfl rfl (yaw (vs := [pI (IntKind.i64.wrap (p0.I + 1))]) rfl rfl rfl rfl rfl (by (repeat (first | exact zuh | apply zut))) (by (repeat (first | exact zln | apply zlc | apply zlt))) ?_)
  refine yba ?_
  (repeat (first | apply yae | apply yab))
  refine yaa ?_
  refine pwc_draw (ρd := []) [(0, 0), (1, 0), (2, 0), (3, 0), (4, 0), (5, 0), (6, 0), (7, 0), (8, 0), (9, 0), (10, 0), (11, 0), (12, 1), (13, 0)] _ (List.Perm.refl _) (by kernel_rfl) rfl ?_
  refine yac h ?_; clear h; intro m2 hm2 h
  refine yac h ?_; clear h; intro x3 hx3 h
  refine pwd_run 14 [0, 0] [22, 23, 24, 25, 26, 27, 28, 29, 30, 31, 32, 33, 34] [(4, pI x3)] (foix 9 eI hm2 (focl 12 (made_Within_ok hx3) fo0)) (by kernel_rfl) ?_
  refine pwd_nil ?_
  (repeat (first | apply yae | apply yab))
  refine yak ?_
  (repeat (first | apply yai | apply yag | apply yax | apply pk_cut_ret))
  obtain rfl := Option.some.inj h
  exact yal (ybc (yao rfl)) (by (repeat (first | exact zsn | (apply zsc; (focus (repeat (first | exact zph | apply zpt))))))) ⟨rfl, rfl⟩
def made_Source_rate (p0 : Tmade_Source) : Option (Int × Tmade_Source) := Option.bind (made_Source_Next p0 4) (fun x1 => cond (decide (0 < x1.1)) (Option.bind (made_Source_Next x1.2 101) (fun x3 => some ((IntKind.i64.wrap (10000 * x3.1)), x3.2))) (Option.bind (made_Source_Next x1.2 1000001) (fun x4 => some (x4.1, x4.2))))
set_option maxHeartbeats 4000000 in
theorem made_Source_rate_ok {p0 : Tmade_Source} {b0 : Nat} {r : (Int × Tmade_Source)}  (h : made_Source_rate p0 = some r) : PCall 80 [pP b0 0] [PRes.b b0 87 [pL eI p0.L, pI p0.I]] (fun pv ρ' => pv = pI r.1 ∧ ρ' = [PRes.b b0 87 [pL eI r.2.L, pI r.2.I]]) := by
 unfold made_Source_rate at h
 refine penter Tryz.func80 fk80 rfl Tryz.ntmps80 Tryz.results80 rfl ?_
 refine yaa ?_
 refine yad [] [2] [] fo0 (by kernel_rfl) ?_
 (repeat (first | apply yae | apply yab))
 refine yaa (yaa ?_)
 refine yac h ?_; clear h; intro x1 hx1 h
 refine yaf ?_
 refine yam 1 [] [] [(3, pP b0 0)] fo0 (by kernel_rfl) ?_
 refine yay rfl rfl rfl (pl_callR rfl rfl (ρ1 := [_]) (ybb (by (repeat (first | exact zph | apply zpt))) (List.Perm.refl _)) (yat hx1) ?_); rintro _ _ ⟨rfl, rfl⟩
 refine yas [] [] [(5, pB (decide (0 < x1.1)))] fo0 (by kernel_rfl) ?_
 (repeat (first | apply yae | apply yab))
 refine yah rfl (fun hc2 => ?_) (fun hc2 => ?_)
 ·replace h := yap hc2 h
  refine yaa ?_
  refine yac h ?_; clear h; intro x3 hx3 h
  refine yaf ?_
  refine yam 1 [] [] [(6, pP b0 0)] fo0 (by kernel_rfl) ?_
  refine yay rfl rfl rfl (pl_callR rfl rfl (ρ1 := [_]) (ybb (by (repeat (first | exact zph | apply zpt))) (List.Perm.refl _)) (yat hx3) ?_); rintro _ _ ⟨rfl, rfl⟩
  refine yas [] [8] [(2, pI (IntKind.i64.wrap (10000 * x3.1)))] fo0 (by kernel_rfl) ?_
  (repeat (first | apply yae | apply yab))
  refine yak ?_
  (repeat (first | apply yai | apply yag | apply yax | apply pk_cut_ret))
  obtain rfl := Option.some.inj h
  exact yal (ybc (yao rfl)) (by (repeat (first | exact zsn | (apply zsc; (focus (repeat (first | exact zph | apply zpt))))))) ⟨rfl, rfl⟩
 ·replace h := yaq hc2 h
  refine yaj ?_
  (repeat (first | apply yae | apply yab))
  refine yaa ?_
  refine yac h ?_; clear h; intro x4 hx4 h
  refine yaf ?_
  refine yam 1 [] [] [(9, pP b0 0)] fo0 (by kernel_rfl) ?_
  refine yay rfl rfl rfl (pl_callR rfl rfl (ρ1 := [_]) (ybb (by (repeat (first | exact zph | apply zpt))) (List.Perm.refl _)) (yat hx4) ?_); rintro _ _ ⟨rfl, rfl⟩
  refine yas [] [] [(2, pI x4.1)] fo0 (by kernel_rfl) ?_
  (repeat (first | apply yae | apply yab))
  refine yak ?_
  (repeat (first | apply yai | apply yag | apply yax | apply pk_cut_ret))
  obtain rfl := Option.some.inj h
  exact yal (ybc (yao rfl)) (by (repeat (first | exact zsn | (apply zsc; (focus (repeat (first | exact zph | apply zpt))))))) ⟨rfl, rfl⟩
def made_Source_rule_B (rec : Tmade_Source → Int → Int → Option (TRule × Tmade_Source)) (p0 : Tmade_Source) (p1 : Int) (p2 : Int) : Option (TRule × Tmade_Source) := Option.bind (made_Source_Next p0 8) (fun x2 => cond ((decide (5 ≤ x2.1)) && (decide (0 < p2))) (Option.bind (cond ((IntKind.i64.wrap (5 + (Int.tmod x2.1 2))) == p1) (some (IntKind.i64.wrap (11 - p1))) (some (IntKind.i64.wrap (5 + (Int.tmod x2.1 2))))) (fun v5 => Option.bind (made_Source_Next x2.2 2) (fun x8 => Option.bind (loopF (S := Int × (List Int) × Int × (List TRule)) (T := ((List Int) × Int × (List TRule))) (fun (v9, l10, v11, l13) => cond (decide (0 < v9)) (Option.bind (rec (⟨l10, v11⟩ : Tmade_Source) v5 (IntKind.i64.wrap (p2 - 1))) (fun x26 => Option.bind (app 96 l13 [x26.1]) (fun l29 => some (.inl ((IntKind.i64.wrap (v9 - 1)), x26.2.L, x26.2.I, l29))))) (some (.inr (l10, v11, l13)))) FUEL ((IntKind.i64.wrap (2 + x8.1)), x8.2.L, x8.2.I, ([] : List TRule))) (fun (l16, v17, l21) => some ((⟨v5, 0, [], 0, 0, ByteArray.empty, l21⟩ : TRule), (⟨l16, v17⟩ : Tmade_Source)))))) (Option.bind (α := ((List Int) × Int) ⊕ _) (cond ((Int.tmod x2.1 4) == 1) (Option.bind (made_Source_rate x2.2) (fun x38 => some (.inr ((⟨3, 0, [], 0, x38.1, ByteArray.empty, []⟩ : TRule), x38.2)))) (cond ((Int.tmod x2.1 4) == 2) (Option.bind (made_Source_Next x2.2 5) (fun x42 => Option.bind (idx [(⟨#[97, 110, 100]⟩ : ByteArray), (⟨#[99, 117, 116]⟩ : ByteArray), (⟨#[111, 114]⟩ : ByteArray), (⟨#[115, 101, 119]⟩ : ByteArray), (⟨#[115, 112, 105, 110]⟩ : ByteArray)] x42.1) (fun m43 => some (.inr ((⟨4, 0, [], 0, 0, m43, []⟩ : TRule), x42.2))))) (cond ((Int.tmod x2.1 4) == 3) (Option.bind (made_Source_Next x2.2 3) (fun x45 => cond (x45.1 == 1) (some (.inr ((⟨1, 0, [], 0, 0, ByteArray.empty, []⟩ : TRule), x45.2))) (some (.inl (x45.2.L, x45.2.I))))) (some (.inl (x2.2.L, x2.2.I)))))) (fun q => match q with | .inl (l34, v35) => Option.bind (made_Source_Next (⟨l34, v35⟩ : Tmade_Source) 3) (fun x47 => Option.bind (made_Source_Next x47.2 3) (fun x49 => Option.bind (cond (x49.1 == 1) (Option.bind (made_Source_Next x49.2 2) (fun x57 => Option.bind (sub [(⟨#[57, 52, 48, 49]⟩ : ByteArray), (⟨#[57, 53, 48, 50]⟩ : ByteArray)] x57.1 ([(⟨#[57, 52, 48, 49]⟩ : ByteArray), (⟨#[57, 53, 48, 50]⟩ : ByteArray)].length : Int)) (fun l58 => some (x57.2.L, x57.2.I, l58)))) (some (x49.2.L, x49.2.I, []))) (fun (l50, v51, l52) => Option.bind (made_Source_Next (⟨l50, v51⟩ : Tmade_Source) 3) (fun x59 => Option.bind (cond (x59.1 == 1) (Option.bind (made_Source_rate x59.2) (fun x65 => some (x65.2.L, x65.2.I, x65.1))) (some (x59.2.L, x59.2.I, 0))) (fun (l60, v61, v62) => some ((⟨2, (IntKind.i64.wrap (2 + (IntKind.i64.wrap (2 * x47.1)))), l52, v62, 0, ByteArray.empty, []⟩ : TRule), (⟨l60, v61⟩ : Tmade_Source))))))) | .inr e => some e)))
set_option maxHeartbeats 4000000 in
theorem made_Source_rule_B_ok {rec : Tmade_Source → Int → Int → Option (TRule × Tmade_Source)} (hrec : ∀ {p0 : Tmade_Source} {p1 : Int} {p2 : Int} {b0 : Nat} {r : (TRule × Tmade_Source)}, rec p0 p1 p2 = some r → PCall 51 [pP b0 0, pI p1, pI p2] [PRes.b b0 87 [pL eI p0.L, pI p0.I]] (fun pv ρ' => pv = .agg [pI r.1.Kind, pI r.1.Digits, pL eS r.1.Except, pI r.1.Tolerance, pI r.1.Limit, pS r.1.Name, pL TRule.enc r.1.Args] ∧ ρ' = [PRes.b b0 87 [pL eI r.2.L, pI r.2.I]])) {p0 : Tmade_Source} {p1 : Int} {p2 : Int} {b0 : Nat} {r : (TRule × Tmade_Source)} (h : made_Source_rule_B rec p0 p1 p2 = some r) : PCall 51 [pP b0 0, pI p1, pI p2] [PRes.b b0 87 [pL eI p0.L, pI p0.I]] (fun pv ρ' => pv = .agg [pI r.1.Kind, pI r.1.Digits, pL eS r.1.Except, pI r.1.Tolerance, pI r.1.Limit, pS r.1.Name, pL TRule.enc r.1.Args] ∧ ρ' = [PRes.b b0 87 [pL eI r.2.L, pI r.2.I]]) := by
 unfold made_Source_rule_B at h
 refine penter Tryz.func51 fk51 rfl Tryz.ntmps51 Tryz.results51 rfl ?_
 refine yaa (yaf ?_)
 refine yay rfl rfl rfl (pl_alloc (cs := [pI 0, pI 0, pN, pI 0, pI 0, pS ByteArray.empty, pN]) rfl rfl rfl rfl (fun b1 => ?_))
 refine yba ?_
 (repeat (first | apply yae | apply yab))
 refine yaa ?_
 refine yac h ?_; clear h; intro x2 hx2 h
 refine yaf ?_
 refine yam 1 [] [] [(11, pP b0 0)] fo0 (by kernel_rfl) ?_
 refine yay rfl rfl rfl (pl_callR rfl rfl (ρ1 := [_]) (ybb (by (repeat (first | exact zph | apply zpt))) (List.Perm.refl _)) (yat hx2) ?_); rintro _ _ ⟨rfl, rfl⟩
 refine yas [] [] [(7, pI x2.1)] fo0 (by kernel_rfl) ?_
 (repeat (first | apply yae | apply yab))
 refine yaa (yaa ?_)
 refine yad [] [13, 14, 15, 16, 17] [(18, pB ((decide (5 ≤ x2.1)) && (decide (0 < p2))))] fo0 (by kernel_rfl) ?_
 (repeat (first | apply yae | apply yab))
 refine yah rfl (fun hc3 => ?_) (fun hc3 => ?_)
 ·replace h := yap hc3 h
  refine yaa (yaf ?_)
  refine yam 4 [] [19, 20, 21] [(22, .agg [pI (IntKind.i64.wrap (5 + (Int.tmod x2.1 2))), pI 0, pN, pI 0, pI 0, pS ByteArray.empty, pN])] fo0 (by kernel_rfl) ?_
  refine yay rfl rfl rfl (pl_alloc (cs := [pI 0, pI 0, pN, pI 0, pI 0, pS ByteArray.empty, pN]) rfl rfl rfl rfl (fun b4 => ?_))
  refine pwl_l0 rfl rfl (yaw (vs := [pI (IntKind.i64.wrap (5 + (Int.tmod x2.1 2))), pI 0, pN, pI 0, pI 0, pS ByteArray.empty, pN]) rfl rfl rfl rfl rfl (by (repeat (first | exact zuh | apply zut))) (by (repeat (first | exact zln | apply zlc | apply zlt))) ?_)
  refine yba ?_
  (repeat (first | apply yae | apply yab))
  refine yaa (yaa ?_)
  refine yad [0] [23, 24, 25] [(26, pB ((IntKind.i64.wrap (5 + (Int.tmod x2.1 2))) == p1))] fo0 (by kernel_rfl) ?_
  (repeat (first | apply yae | apply yab))
  refine yac h ?_; clear h; intro q6 hq6 h
  refine yaz (Y := (Unit) × (Int)) (fun (_, v5) => [(0, pP b0 0), (2, pI p2), (6, pP b1 0), (8, pP b4 0)]) (fun (_, v5) => [PRes.b b0 87 [pL eI x2.2.L, pI x2.2.I], PRes.b b1 36 [pI 0, pI 0, pN, pI 0, pI 0, pS ByteArray.empty, pN], PRes.b b4 36 [pI v5, pI 0, pN, pI 0, pI 0, pS ByteArray.empty, pN]]) (fun (_, v5) => q6 = v5) ?_ ?_
  ·skip
   refine yah rfl (fun hc7 => ?_) (fun hc7 => ?_)
   ·replace hq6 := yap hc7 hq6
    refine yaf ?_
    refine yam 3 [] [27] [(28, pI (IntKind.i64.wrap (11 - p1))), (29, pP b4 0)] fo0 (by kernel_rfl) ?_
    refine pwl_l0 rfl rfl (yaw (vs := [pI (IntKind.i64.wrap (11 - p1))]) rfl rfl rfl rfl rfl (by (repeat (first | exact zuh | apply zut))) (by (repeat (first | exact zln | apply zlc | apply zlt))) ?_)
    refine yba ?_
    obtain rfl := Option.some.inj hq6
    exact pk_mid ((), (IntKind.i64.wrap (11 - p1))) (by (repeat (first | exact zhn | apply zhc rfl))) (by (repeat (first | exact zsn | (apply zsc; (focus (repeat (first | exact zph | apply zpt))))))) rfl
   ·replace hq6 := yaq hc7 hq6
    refine yaj ?_
    obtain rfl := Option.some.inj hq6
    exact pk_mid ((), (IntKind.i64.wrap (5 + (Int.tmod x2.1 2)))) (by (repeat (first | exact zhn | apply zhc rfl))) (by (repeat (first | exact zsn | (apply zsc; (focus (repeat (first | exact zph | apply zpt))))))) rfl
  ·rintro ⟨_, v5⟩ τ hz; (try dsimp only at hz); subst q6; (try dsimp only at h); dsimp only [pupds]
   refine yaa (yaa ?_)
   refine yac h ?_; clear h; intro x8 hx8 h
   refine yaf ?_
   refine yam 1 [] [] [(30, pP b0 0)] fo0 (by kernel_rfl) ?_
   refine yay rfl rfl rfl (pl_callR rfl rfl (ρ1 := [_]) (ybb (by (repeat (first | exact zph | apply zpt))) (List.Perm.refl _)) (yat hx8) ?_); rintro _ _ ⟨rfl, rfl⟩
   refine yas [] [32] [(9, pI (IntKind.i64.wrap (2 + x8.1)))] fo0 (by kernel_rfl) ?_
   (repeat (first | apply yae | apply yab))
   refine pwc_nilrow 36 7 ?_
   refine yac h ?_; clear h; intro q23 hq23 h
   refine yaz (Y := (Option Addr × Nat) × ((List Int) × Int × (List TRule))) (fun ((a19, c20), (l16, v17, l21)) => [(6, pP b1 0), (8, pP b4 0)]) (fun ((a19, c20), (l16, v17, l21)) => [PRes.b b0 87 [pL eI l16, pI v17], PRes.b b1 36 [pI 0, pI 0, pN, pI 0, pI 0, pS ByteArray.empty, pN], PRes.b b4 36 [pI v5, pI 0, pN, pI 0, pI 0, pS ByteArray.empty, pO a19 l21.length c20], PRes.row a19 l21.length c20 36 7 (List.map TRule.enc l21)]) (fun ((a19, c20), (l16, v17, l21)) => q23 = (l16, v17, l21)) ?_ ?_
   ·refine yan ?_
    refine ybd (Y := Option Addr × Nat) (S := Int × (List Int) × Int × (List TRule)) _ hq23 (fun (a14, c15) (v9, l10, v11, l13) => [(0, pP b0 0), (2, pI p2), (6, pP b1 0), (8, pP b4 0), (9, pI v9)]) (fun (a14, c15) (v9, l10, v11, l13) => [PRes.b b0 87 [pL eI l10, pI v11], PRes.b b1 36 [pI 0, pI 0, pN, pI 0, pI 0, pS ByteArray.empty, pN], PRes.b b4 36 [pI v5, pI 0, pN, pI 0, pI 0, pS ByteArray.empty, pO a14 l13.length c15], PRes.row a14 l13.length c15 36 7 (List.map TRule.enc l13)]) (none, 0) (by (repeat (first | exact zhn | apply zhc rfl))) (by (repeat (first | exact zsn | (apply zsc; (focus (repeat (first | exact zph | apply zpt))))))) ?_
    rintro ⟨a14, c15⟩ ⟨v9, l10, v11, l13⟩ o τ hb22; (try dsimp only at hb22); dsimp only [pupds]
    refine yaa (yaa ?_)
    refine yad [] [33] [(34, pB (decide (0 < v9)))] fo0 (by kernel_rfl) ?_
    (repeat (first | apply yae | apply yab))
    refine yah rfl (fun hc25 => ?_) (fun hc25 => ?_)
    ·replace hb22 := yap hc25 hb22
     refine yaj ?_
     (repeat (first | apply yae | apply yab))
     refine yaa (yan ?_)
     refine yac hb22 ?_; clear hb22; intro x26 hx26 hb22
     refine yac hb22 ?_; clear hb22; intro l29 hl29 hb22
     refine pwc_cutK (Y := Option Addr × Nat) (fun (a30, c31) => [(0, pP b0 0), (2, pI p2), (6, pP b1 0), (8, pP b4 0), (9, pI v9)]) (fun (a30, c31) => [PRes.b b0 87 [pL eI x26.2.L, pI x26.2.I], PRes.b b1 36 [pI 0, pI 0, pN, pI 0, pI 0, pS ByteArray.empty, pN], PRes.b b4 36 [pI v5, pI 0, pN, pI 0, pI 0, pS ByteArray.empty, pO a30 l29.length c31], PRes.row a30 l29.length c31 36 7 (List.map TRule.enc l29)]) (fun _ => True) ?_ ?_
     ·refine pws_start (ρd := [PRes.b b0 _ _, PRes.row a14 _ _ _ _ _, PRes.b b4 _ _]) _ (by (repeat (first | exact List.Perm.refl _ | (refine ybb (by (repeat (first | exact zph | apply zpt))) ?_)))) ?_
      refine pws_q 0 (by kernel_rfl) rfl rfl rfl rfl (pq_fieldAddr rfl rfl rfl rfl rfl (.p rfl)) ?_
      refine pws_q 2 (by kernel_rfl) rfl rfl rfl rfl (pq_move (p := pP b0 0) rfl (.p rfl)) ?_
      refine pws_q 3 (by kernel_rfl) rfl rfl rfl rfl (pq_fieldAddr rfl rfl rfl rfl rfl (.p rfl)) ?_
      refine pws_q 5 (by kernel_rfl) rfl rfl rfl rfl (pq_move (p := pI p2) rfl (.p rfl)) ?_
      refine pws_q 6 (by kernel_rfl) rfl rfl rfl rfl (pq_arith rfl (.p rfl) (.p rfl) rfl) ?_
      refine pws_two 1 4 (by kernel_rfl) ?_ ?_
      ·skip
       refine pstep_l rfl rfl rfl rfl (pl_q (pq_load_b (p := pO a14 l13.length c15) rfl (.p rfl) (by (repeat (first | exact List.Mem.head _ | apply List.Mem.tail))) rfl) ?_)
       refine pws_one 4 (by kernel_rfl) ?_
       refine pstep_l rfl rfl rfl rfl (pl_q (pq_load_b (p := pI v5) rfl (.p rfl) (by (repeat (first | exact List.Mem.head _ | apply List.Mem.tail))) rfl) ?_)
       refine pws_one 7 (by kernel_rfl) ?_
       refine pstep_l rfl rfl rfl rfl (pl_callR rfl rfl (ρ1 := [_]) (ybb (by (repeat (first | exact zph | apply zpt))) (List.Perm.refl _)) (hrec hx26) ?_); rintro _ _ ⟨rfl, rfl⟩
       refine pws_one 8 (by kernel_rfl) ?_
       refine pstep_l rfl rfl rfl rfl (pl_lit (css := List.map TRule.enc [x26.1]) rfl rfl rfl rfl rfl (by (simp only [List.map_cons, List.map_nil, TRule.enc_eq]; (repeat (first | exact zin | apply zic rfl)))) rfl (by (simp only [List.map_cons, List.map_nil, TRule.enc_eq]; rfl)) rfl rfl (fun b27 => ?_))
       refine pws_one 9 (by kernel_rfl) ?_
       refine pstep_l rfl rfl rfl rfl (pl_app_o (enc := TRule.enc) rfl rfl rfl rfl rfl rfl rfl rfl rfl (by (repeat (first | exact List.Mem.head _ | apply List.Mem.tail))) (by (repeat (first | exact zph | apply zpt))) hl29 (fun a30 c31 => ?_))
       refine pws_q 10 (by kernel_rfl) rfl rfl rfl rfl (pq_fieldAddr rfl rfl rfl rfl rfl (.p rfl)) ?_
       refine pws_one 11 (by kernel_rfl) ?_
       refine pstep_l0 rfl rfl rfl (yaw (vs := [pO a30 l29.length c31]) rfl rfl rfl rfl rfl (by (repeat (first | exact zuh | apply zut))) (by (repeat (first | exact zln | apply zlc | apply zlt))) ?_)
       refine pws_done (by kernel_rfl) ?_
       exact pk_cut (a30, c31) (by (repeat (first | exact zhn | apply zhc rfl))) (by (repeat (first | exact zsn | (apply zsc; (focus (repeat (first | exact zph | apply zpt))))))) trivial
      ·skip
       refine pstep_l rfl rfl rfl rfl (pl_q (pq_load_b (p := pI v5) rfl (.p rfl) (by (repeat (first | exact List.Mem.head _ | apply List.Mem.tail))) rfl) ?_)
       refine pws_two 1 7 (by kernel_rfl) ?_ ?_
       ·skip
        refine pstep_l rfl rfl rfl rfl (pl_q (pq_load_b (p := pO a14 l13.length c15) rfl (.p rfl) (by (repeat (first | exact List.Mem.head _ | apply List.Mem.tail))) rfl) ?_)
        refine pws_one 7 (by kernel_rfl) ?_
        refine pstep_l rfl rfl rfl rfl (pl_callR rfl rfl (ρ1 := [_]) (ybb (by (repeat (first | exact zph | apply zpt))) (List.Perm.refl _)) (hrec hx26) ?_); rintro _ _ ⟨rfl, rfl⟩
        refine pws_one 8 (by kernel_rfl) ?_
        refine pstep_l rfl rfl rfl rfl (pl_lit (css := List.map TRule.enc [x26.1]) rfl rfl rfl rfl rfl (by (simp only [List.map_cons, List.map_nil, TRule.enc_eq]; (repeat (first | exact zin | apply zic rfl)))) rfl (by (simp only [List.map_cons, List.map_nil, TRule.enc_eq]; rfl)) rfl rfl (fun b27 => ?_))
        refine pws_one 9 (by kernel_rfl) ?_
        refine pstep_l rfl rfl rfl rfl (pl_app_o (enc := TRule.enc) rfl rfl rfl rfl rfl rfl rfl rfl rfl (by (repeat (first | exact List.Mem.head _ | apply List.Mem.tail))) (by (repeat (first | exact zph | apply zpt))) hl29 (fun a30 c31 => ?_))
        refine pws_q 10 (by kernel_rfl) rfl rfl rfl rfl (pq_fieldAddr rfl rfl rfl rfl rfl (.p rfl)) ?_
        refine pws_one 11 (by kernel_rfl) ?_
        refine pstep_l0 rfl rfl rfl (yaw (vs := [pO a30 l29.length c31]) rfl rfl rfl rfl rfl (by (repeat (first | exact zuh | apply zut))) (by (repeat (first | exact zln | apply zlc | apply zlt))) ?_)
        refine pws_done (by kernel_rfl) ?_
        exact pk_cut (a30, c31) (by (repeat (first | exact zhn | apply zhc rfl))) (by (repeat (first | exact zsn | (apply zsc; (focus (repeat (first | exact zph | apply zpt))))))) trivial
       ·skip
        refine pstep_l rfl rfl rfl rfl (pl_callR rfl rfl (ρ1 := [_]) (ybb (by (repeat (first | exact zph | apply zpt))) (List.Perm.refl _)) (hrec hx26) ?_); rintro _ _ ⟨rfl, rfl⟩
        refine pws_two 1 8 (by kernel_rfl) ?_ ?_
        ·skip
         refine pstep_l rfl rfl rfl rfl (pl_q (pq_load_b (p := pO a14 l13.length c15) rfl (.p rfl) (by (repeat (first | exact List.Mem.head _ | apply List.Mem.tail))) rfl) ?_)
         refine pws_one 8 (by kernel_rfl) ?_
         refine pstep_l rfl rfl rfl rfl (pl_lit (css := List.map TRule.enc [x26.1]) rfl rfl rfl rfl rfl (by (simp only [List.map_cons, List.map_nil, TRule.enc_eq]; (repeat (first | exact zin | apply zic rfl)))) rfl (by (simp only [List.map_cons, List.map_nil, TRule.enc_eq]; rfl)) rfl rfl (fun b27 => ?_))
         refine pws_one 9 (by kernel_rfl) ?_
         refine pstep_l rfl rfl rfl rfl (pl_app_o (enc := TRule.enc) rfl rfl rfl rfl rfl rfl rfl rfl rfl (by (repeat (first | exact List.Mem.head _ | apply List.Mem.tail))) (by (repeat (first | exact zph | apply zpt))) hl29 (fun a30 c31 => ?_))
         refine pws_q 10 (by kernel_rfl) rfl rfl rfl rfl (pq_fieldAddr rfl rfl rfl rfl rfl (.p rfl)) ?_
         refine pws_one 11 (by kernel_rfl) ?_
         refine pstep_l0 rfl rfl rfl (yaw (vs := [pO a30 l29.length c31]) rfl rfl rfl rfl rfl (by (repeat (first | exact zuh | apply zut))) (by (repeat (first | exact zln | apply zlc | apply zlt))) ?_)
         refine pws_done (by kernel_rfl) ?_
         exact pk_cut (a30, c31) (by (repeat (first | exact zhn | apply zhc rfl))) (by (repeat (first | exact zsn | (apply zsc; (focus (repeat (first | exact zph | apply zpt))))))) trivial
        ·skip
         refine pstep_l rfl rfl rfl rfl (pl_lit (css := List.map TRule.enc [x26.1]) rfl rfl rfl rfl rfl (by (simp only [List.map_cons, List.map_nil, TRule.enc_eq]; (repeat (first | exact zin | apply zic rfl)))) rfl (by (simp only [List.map_cons, List.map_nil, TRule.enc_eq]; rfl)) rfl rfl (fun b27 => ?_))
         refine pws_one 1 (by kernel_rfl) ?_
         refine pstep_l rfl rfl rfl rfl (pl_q (pq_load_b (p := pO a14 l13.length c15) rfl (.p rfl) (by (repeat (first | exact List.Mem.head _ | apply List.Mem.tail))) rfl) ?_)
         refine pws_one 9 (by kernel_rfl) ?_
         refine pstep_l rfl rfl rfl rfl (pl_app_o (enc := TRule.enc) rfl rfl rfl rfl rfl rfl rfl rfl rfl (by (repeat (first | exact List.Mem.head _ | apply List.Mem.tail))) (by (repeat (first | exact zph | apply zpt))) hl29 (fun a30 c31 => ?_))
         refine pws_q 10 (by kernel_rfl) rfl rfl rfl rfl (pq_fieldAddr rfl rfl rfl rfl rfl (.p rfl)) ?_
         refine pws_one 11 (by kernel_rfl) ?_
         refine pstep_l0 rfl rfl rfl (yaw (vs := [pO a30 l29.length c31]) rfl rfl rfl rfl rfl (by (repeat (first | exact zuh | apply zut))) (by (repeat (first | exact zln | apply zlc | apply zlt))) ?_)
         refine pws_done (by kernel_rfl) ?_
         exact pk_cut (a30, c31) (by (repeat (first | exact zhn | apply zhc rfl))) (by (repeat (first | exact zsn | (apply zsc; (focus (repeat (first | exact zph | apply zpt))))))) trivial
     ·rintro ⟨a30, c31⟩ τ ρ1 hsub33 _; (try dsimp only at hsub33); dsimp only [pupds]
      refine yae ?_
      (repeat (first | apply yae | apply yab))
      refine pwc_sub hsub33 ?_
      refine yad [] [35, 36] [(9, pI (IntKind.i64.wrap (v9 - 1)))] fo0 (by kernel_rfl) ?_
      (repeat apply yae)
      exact pk_loop hb22 (a30, c31) (by (repeat (first | exact zhn | apply zhc rfl))) (by (repeat (first | exact zsn | (apply zsc; (focus (repeat (first | exact zph | apply zpt)))))))
    ·replace hb22 := yaq hc25 hb22
     refine pwc_exit ?_
     (repeat (first | apply yav | apply pk_mid_exit | apply pk_cut_exit | apply pk_block_ne rfl))
     refine yar hb22 (fun ht => ?_)
     refine yau rfl ?_
     exact pk_mid ((a14, c15), (l10, v11, l13)) (by (repeat (first | exact zhn | apply zhc rfl))) (by (repeat (first | exact zsn | (apply zsc; (focus (repeat (first | exact zph | apply zpt))))))) ht.symm
   ·rintro ⟨⟨a19, c20⟩, ⟨l16, v17, l21⟩⟩ τ hz; (try dsimp only at hz); subst q23; (try dsimp only at h); dsimp only [pupds]
    refine yaa (yaf ?_)
    refine pwl_nilb (k := 2) (b := b4) rfl (by (repeat (first | exact zuh | apply zut))) ?_
    refine pwl_frz (css := List.map TRule.enc l21) (a := a19) (by (repeat (first | exact zph | apply zpt))) ?_
    refine pwl_viewb (k := 6) (enc := TRule.enc) (xs := l21) (b := b4) (a := a19) rfl (by (repeat (first | exact List.Mem.head _ | apply List.Mem.tail))) (by (repeat (first | exact zuh | apply zut))) ?_
    refine yam 1 [3] [] [(48, .agg [pI v5, pI 0, pL eS [], pI 0, pI 0, pS ByteArray.empty, pL TRule.enc l21])] fo0 (by kernel_rfl) ?_
    refine pwl_l0 rfl rfl (yaw (vs := [pI v5, pI 0, pL eS [], pI 0, pI 0, pS ByteArray.empty, pL TRule.enc l21]) rfl rfl rfl rfl rfl (by (repeat (first | exact zuh | apply zut))) (by (repeat (first | exact zln | apply zlc | apply zlt))) ?_)
    refine yba ?_
    (repeat (first | apply yae | apply yab))
    refine yak ?_
    (repeat (first | apply yai | apply yag | apply yax | apply pk_cut_ret))
    obtain rfl := Option.some.inj h
    exact yal (ybc (prv1_c rfl (by (repeat (first | exact List.Mem.head _ | apply List.Mem.tail))) rfl)) (by (repeat (first | exact zsn | (apply zsc; (focus (repeat (first | exact zph | apply zpt))))))) ⟨rfl, rfl⟩
 ·replace h := yaq hc3 h
  refine yaj ?_
  (repeat (first | apply yae | apply yab))
  refine yaa (yaa ?_)
  refine yad [] [49] [(50, pI (Int.tmod x2.1 4))] fo0 (by kernel_rfl) ?_
  (repeat (first | apply yae | apply yab))
  refine yac h ?_; clear h; intro q36 hq36 h
  refine yaz (Y := (Unit) × ((List Int) × Int)) (fun (_, (l34, v35)) => [(0, pP b0 0), (6, pP b1 0)]) (fun (_, (l34, v35)) => [PRes.b b0 87 [pL eI l34, pI v35], PRes.b b1 36 [pI 0, pI 0, pN, pI 0, pI 0, pS ByteArray.empty, pN]]) (fun (_, (l34, v35)) => q36 = Sum.inl (l34, v35)) ?_ ?_
  ·skip
   refine yan (yaa ?_)
   refine yad [] [52] [(51, pB ((Int.tmod x2.1 4) == 1))] fo0 (by kernel_rfl) ?_
   (repeat (first | apply yae | apply yab))
   refine yah rfl (fun hc37 => ?_) (fun hc37 => ?_)
   ·replace hq36 := yap hc37 hq36
    refine yaa ?_
    refine yac hq36 ?_; clear hq36; intro x38 hx38 hq36
    refine yaf ?_
    refine yam 1 [] [] [(53, pP b0 0)] fo0 (by kernel_rfl) ?_
    refine yay rfl rfl rfl (pl_callR rfl rfl (ρ1 := [_]) (ybb (by (repeat (first | exact zph | apply zpt))) (List.Perm.refl _)) (made_Source_rate_ok hx38) ?_); rintro _ _ ⟨rfl, rfl⟩
    refine yam 1 [] [] [(55, .agg [pI 3, pI 0, pN, pI 0, pI x38.1, pS ByteArray.empty, pN])] fo0 (by kernel_rfl) ?_
    refine pwl_l0 rfl rfl (yaw (vs := [pI 3, pI 0, pN, pI 0, pI x38.1, pS ByteArray.empty, pN]) rfl rfl rfl rfl rfl (by (repeat (first | exact zuh | apply zut))) (by (repeat (first | exact zln | apply zlc | apply zlt))) ?_)
    refine yba ?_
    (repeat (first | apply yae | apply yab))
    refine pwc_nilb (k := 2) (b := b1) rfl (by (repeat (first | exact zuh | apply zut))) ?_
    refine pwc_nilb (k := 6) (b := b1) rfl (by (repeat (first | exact zuh | apply zut))) ?_
    refine yak ?_
    (repeat (first | apply yai | apply yag | apply yax | apply pk_cut_ret))
    obtain rfl := Option.some.inj hq36
    have h := (show some _ = some _ from h)
    (repeat (first | apply yai | apply yag | apply yax | apply pk_cut_ret))
    obtain rfl := Option.some.inj h
    exact yal (ybc (prv1_c rfl (by (repeat (first | exact List.Mem.head _ | apply List.Mem.tail))) rfl)) (by (repeat (first | exact zsn | (apply zsc; (focus (repeat (first | exact zph | apply zpt))))))) ⟨rfl, rfl⟩
   ·replace hq36 := yaq hc37 hq36
    refine yaa ?_
    refine yad [] [57] [(56, pB ((Int.tmod x2.1 4) == 2))] fo0 (by kernel_rfl) ?_
    (repeat (first | apply yae | apply yab))
    refine yah rfl (fun hc39 => ?_) (fun hc39 => ?_)
    ·replace hq36 := yap hc39 hq36
     refine yaa (yaf ?_)
     refine yay rfl rfl rfl (pl_lit rfl rfl rfl rfl rfl (by (repeat (first | exact zin | apply zic rfl))) rfl rfl rfl rfl (fun b40 => ?_))
     refine yac hq36 ?_; clear hq36; intro x42 hx42 hq36
     refine yam 1 [] [] [(59, pP b0 0)] fo0 (by kernel_rfl) ?_
     refine yay rfl rfl rfl (pl_callR rfl rfl (ρ1 := [_]) (ybb (by (repeat (first | exact zph | apply zpt))) (List.Perm.refl _)) (yat hx42) ?_); rintro _ _ ⟨rfl, rfl⟩
     refine yac hq36 ?_; clear hq36; intro m43 hm43 hq36
     refine pwl_q rfl rfl rfl (pq_indexO (enc := eS) (xs := [(⟨#[97, 110, 100]⟩ : ByteArray), (⟨#[99, 117, 116]⟩ : ByteArray), (⟨#[111, 114]⟩ : ByteArray), (⟨#[115, 101, 119]⟩ : ByteArray), (⟨#[115, 112, 105, 110]⟩ : ByteArray)]) rfl rfl rfl (.p rfl) (by (repeat (first | exact List.Mem.head _ | apply List.Mem.tail))) (.p rfl) (fun _ => hm43)) ?_
     refine pwl_q rfl rfl rfl (pq_load_o (p := pS m43) (enc := eS) (xs := [(⟨#[97, 110, 100]⟩ : ByteArray), (⟨#[99, 117, 116]⟩ : ByteArray), (⟨#[111, 114]⟩ : ByteArray), (⟨#[115, 101, 119]⟩ : ByteArray), (⟨#[115, 112, 105, 110]⟩ : ByteArray)]) (a := (some ⟨b40, 0, none⟩)) x42.1 0 m43 rfl (.p rfl) rfl (by (repeat (first | exact List.Mem.head _ | apply List.Mem.tail))) (fun _ => hm43) rfl) ?_
     refine yam 1 [] [] [(63, .agg [pI 4, pI 0, pN, pI 0, pI 0, pS m43, pN])] fo0 (by kernel_rfl) ?_
     refine pwl_l0 rfl rfl (yaw (vs := [pI 4, pI 0, pN, pI 0, pI 0, pS m43, pN]) rfl rfl rfl rfl rfl (by (repeat (first | exact zuh | apply zut))) (by (repeat (first | exact zln | apply zlc | apply zlt))) ?_)
     refine yba ?_
     (repeat (first | apply yae | apply yab))
     refine pwc_nilb (k := 2) (b := b1) rfl (by (repeat (first | exact zuh | apply zut))) ?_
     refine pwc_nilb (k := 6) (b := b1) rfl (by (repeat (first | exact zuh | apply zut))) ?_
     refine yak ?_
     (repeat (first | apply yai | apply yag | apply yax | apply pk_cut_ret))
     obtain rfl := Option.some.inj hq36
     have h := (show some _ = some _ from h)
     (repeat (first | apply yai | apply yag | apply yax | apply pk_cut_ret))
     obtain rfl := Option.some.inj h
     exact yal (ybc (prv1_c rfl (by (repeat (first | exact List.Mem.head _ | apply List.Mem.tail))) rfl)) (by (repeat (first | exact zsn | (apply zsc; (focus (repeat (first | exact zph | apply zpt))))))) ⟨rfl, rfl⟩
    ·replace hq36 := yaq hc39 hq36
     refine yaa ?_
     refine yad [] [65] [(64, pB ((Int.tmod x2.1 4) == 3))] fo0 (by kernel_rfl) ?_
     (repeat (first | apply yae | apply yab))
     refine yah rfl (fun hc44 => ?_) (fun hc44 => ?_)
     ·replace hq36 := yap hc44 hq36
      refine yaa ?_
      refine yac hq36 ?_; clear hq36; intro x45 hx45 hq36
      refine yaf ?_
      refine yam 1 [] [] [(66, pP b0 0)] fo0 (by kernel_rfl) ?_
      refine yay rfl rfl rfl (pl_callR rfl rfl (ρ1 := [_]) (ybb (by (repeat (first | exact zph | apply zpt))) (List.Perm.refl _)) (yat hx45) ?_); rintro _ _ ⟨rfl, rfl⟩
      refine yas [] [] [(68, pB (x45.1 == 1))] fo0 (by kernel_rfl) ?_
      (repeat (first | apply yae | apply yab))
      refine yah rfl (fun hc46 => ?_) (fun hc46 => ?_)
      ·replace hq36 := yap hc46 hq36
       refine yaa (yaf ?_)
       refine yam 1 [] [] [(69, .agg [pI 1, pI 0, pN, pI 0, pI 0, pS ByteArray.empty, pN])] fo0 (by kernel_rfl) ?_
       refine pwl_l0 rfl rfl (yaw (vs := [pI 1, pI 0, pN, pI 0, pI 0, pS ByteArray.empty, pN]) rfl rfl rfl rfl rfl (by (repeat (first | exact zuh | apply zut))) (by (repeat (first | exact zln | apply zlc | apply zlt))) ?_)
       refine yba ?_
       (repeat (first | apply yae | apply yab))
       refine pwc_nilb (k := 2) (b := b1) rfl (by (repeat (first | exact zuh | apply zut))) ?_
       refine pwc_nilb (k := 6) (b := b1) rfl (by (repeat (first | exact zuh | apply zut))) ?_
       refine yak ?_
       (repeat (first | apply yai | apply yag | apply yax | apply pk_cut_ret))
       obtain rfl := Option.some.inj hq36
       have h := (show some _ = some _ from h)
       (repeat (first | apply yai | apply yag | apply yax | apply pk_cut_ret))
       obtain rfl := Option.some.inj h
       exact yal (ybc (prv1_c rfl (by (repeat (first | exact List.Mem.head _ | apply List.Mem.tail))) rfl)) (by (repeat (first | exact zsn | (apply zsc; (focus (repeat (first | exact zph | apply zpt))))))) ⟨rfl, rfl⟩
      ·replace hq36 := yaq hc46 hq36
       refine yaj (yae ?_)
       obtain rfl := Option.some.inj hq36
       exact pk_mid ((), (x45.2.L, x45.2.I)) (by (repeat (first | exact zhn | apply zhc rfl))) (by (repeat (first | exact zsn | (apply zsc; (focus (repeat (first | exact zph | apply zpt))))))) rfl
     ·replace hq36 := yaq hc44 hq36
      refine yaj (yae ?_)
      obtain rfl := Option.some.inj hq36
      exact pk_mid ((), (x2.2.L, x2.2.I)) (by (repeat (first | exact zhn | apply zhc rfl))) (by (repeat (first | exact zsn | (apply zsc; (focus (repeat (first | exact zph | apply zpt))))))) rfl
  ·rintro ⟨_, ⟨l34, v35⟩⟩ τ hz; (try dsimp only at hz); subst q36; (try dsimp only at h); dsimp only [pupds]
   refine yaa ?_
   refine yac h ?_; clear h; intro x47 hx47 h
   refine yaf ?_
   refine yam 1 [] [] [(70, pP b0 0)] fo0 (by kernel_rfl) ?_
   refine yay rfl rfl rfl (pl_callR rfl rfl (ρ1 := [_]) (ybb (by (repeat (first | exact zph | apply zpt))) (List.Perm.refl _)) (yat hx47) ?_); rintro _ _ ⟨rfl, rfl⟩
   refine yam 3 [] [72, 73] [(74, .agg [pI 2, pI (IntKind.i64.wrap (2 + (IntKind.i64.wrap (2 * x47.1)))), pN, pI 0, pI 0, pS ByteArray.empty, pN])] fo0 (by kernel_rfl) ?_
   refine yay rfl rfl rfl (pl_alloc (cs := [pI 0, pI 0, pN, pI 0, pI 0, pS ByteArray.empty, pN]) rfl rfl rfl rfl (fun b48 => ?_))
   refine pwl_l0 rfl rfl (yaw (vs := [pI 2, pI (IntKind.i64.wrap (2 + (IntKind.i64.wrap (2 * x47.1)))), pN, pI 0, pI 0, pS ByteArray.empty, pN]) rfl rfl rfl rfl rfl (by (repeat (first | exact zuh | apply zut))) (by (repeat (first | exact zln | apply zlc | apply zlt))) ?_)
   refine yba ?_
   (repeat (first | apply yae | apply yab))
   refine yaa (yaa ?_)
   refine yac h ?_; clear h; intro x49 hx49 h
   refine yaf ?_
   refine yam 1 [] [] [(75, pP b0 0)] fo0 (by kernel_rfl) ?_
   refine yay rfl rfl rfl (pl_callR rfl rfl (ρ1 := [_]) (ybb (by (repeat (first | exact zph | apply zpt))) (List.Perm.refl _)) (yat hx49) ?_); rintro _ _ ⟨rfl, rfl⟩
   refine yas [] [] [(77, pB (x49.1 == 1))] fo0 (by kernel_rfl) ?_
   (repeat (first | apply yae | apply yab))
   refine yac h ?_; clear h; intro q53 hq53 h
   refine yaz (Y := (Unit) × ((List Int) × Int × (List ByteArray))) (fun (_, (l50, v51, l52)) => [(0, pP b0 0), (6, pP b1 0), (10, pP b48 0)]) (fun (_, (l50, v51, l52)) => [PRes.b b0 87 [pL eI l50, pI v51], PRes.b b1 36 [pI 0, pI 0, pN, pI 0, pI 0, pS ByteArray.empty, pN], PRes.b b48 36 [pI 2, pI (IntKind.i64.wrap (2 + (IntKind.i64.wrap (2 * x47.1)))), pL eS l52, pI 0, pI 0, pS ByteArray.empty, pN]]) (fun (_, (l50, v51, l52)) => q53 = (l50, v51, l52)) ?_ ?_
   ·skip
    refine yah rfl (fun hc54 => ?_) (fun hc54 => ?_)
    ·replace hq53 := yap hc54 hq53
     refine yaf ?_
     refine yay rfl rfl rfl (pl_lit rfl rfl rfl rfl rfl (by (repeat (first | exact zin | apply zic rfl))) rfl rfl rfl rfl (fun b55 => ?_))
     refine yac hq53 ?_; clear hq53; intro x57 hx57 hq53
     refine yam 1 [] [] [(79, pP b0 0)] fo0 (by kernel_rfl) ?_
     refine yay rfl rfl rfl (pl_callR rfl rfl (ρ1 := [_]) (ybb (by (repeat (first | exact zph | apply zpt))) (List.Perm.refl _)) (yat hx57) ?_); rintro _ _ ⟨rfl, rfl⟩
     refine pwl_frzt (enc := eS) (xs := [(⟨#[57, 52, 48, 49]⟩ : ByteArray), (⟨#[57, 53, 48, 50]⟩ : ByteArray)]) 78 rfl (by (repeat (first | exact zph | apply zpt))) ?_
     refine yac hq53 ?_; clear hq53; intro l58 hl58 hq53
     refine yam 2 [] [] [(81, pL eS l58), (82, pP b48 2)] (fosl 0 eS 1 (fun _ => rfl) hl58 fo0) (by kernel_rfl) ?_
     refine pwl_l0 rfl rfl (yaw (vs := [pL eS l58]) rfl rfl rfl rfl rfl (by (repeat (first | exact zuh | apply zut))) (by (repeat (first | exact zln | apply zlc | apply zlt))) ?_)
     refine yba ?_
     obtain rfl := Option.some.inj hq53
     exact pk_mid ((), (x57.2.L, x57.2.I, l58)) (by (repeat (first | exact zhn | apply zhc rfl))) (by (repeat (first | exact zsn | (apply zsc; (focus (repeat (first | exact zph | apply zpt))))))) rfl
    ·replace hq53 := yaq hc54 hq53
     refine yaj ?_
     refine pk_mid_cov (cov_nilb (k := 2) (b := b48) rfl (by (repeat (first | exact zuh | apply zut)))) ?_
     obtain rfl := Option.some.inj hq53
     exact pk_mid ((), (x49.2.L, x49.2.I, [])) (by (repeat (first | exact zhn | apply zhc rfl))) (by (repeat (first | exact zsn | (apply zsc; (focus (repeat (first | exact zph | apply zpt))))))) rfl
   ·rintro ⟨_, ⟨l50, v51, l52⟩⟩ τ hz; (try dsimp only at hz); subst q53; (try dsimp only at h); dsimp only [pupds]
    refine yaa (yaa ?_)
    refine yac h ?_; clear h; intro x59 hx59 h
    refine yaf ?_
    refine yam 1 [] [] [(83, pP b0 0)] fo0 (by kernel_rfl) ?_
    refine yay rfl rfl rfl (pl_callR rfl rfl (ρ1 := [_]) (ybb (by (repeat (first | exact zph | apply zpt))) (List.Perm.refl _)) (yat hx59) ?_); rintro _ _ ⟨rfl, rfl⟩
    refine yas [] [] [(85, pB (x59.1 == 1))] fo0 (by kernel_rfl) ?_
    (repeat (first | apply yae | apply yab))
    refine yac h ?_; clear h; intro q63 hq63 h
    refine yaz (Y := (Unit) × ((List Int) × Int × Int)) (fun (_, (l60, v61, v62)) => [(6, pP b1 0), (10, pP b48 0)]) (fun (_, (l60, v61, v62)) => [PRes.b b0 87 [pL eI l60, pI v61], PRes.b b1 36 [pI 0, pI 0, pN, pI 0, pI 0, pS ByteArray.empty, pN], PRes.b b48 36 [pI 2, pI (IntKind.i64.wrap (2 + (IntKind.i64.wrap (2 * x47.1)))), pL eS l52, pI v62, pI 0, pS ByteArray.empty, pN]]) (fun (_, (l60, v61, v62)) => q63 = (l60, v61, v62)) ?_ ?_
    ·skip
     refine yah rfl (fun hc64 => ?_) (fun hc64 => ?_)
     ·replace hq63 := yap hc64 hq63
      refine yac hq63 ?_; clear hq63; intro x65 hx65 hq63
      refine yaf ?_
      refine yam 1 [] [] [(86, pP b0 0)] fo0 (by kernel_rfl) ?_
      refine yay rfl rfl rfl (pl_callR rfl rfl (ρ1 := [_]) (ybb (by (repeat (first | exact zph | apply zpt))) (List.Perm.refl _)) (made_Source_rate_ok hx65) ?_); rintro _ _ ⟨rfl, rfl⟩
      refine yam 1 [] [] [(88, pP b48 3)] fo0 (by kernel_rfl) ?_
      refine pwl_l0 rfl rfl (yaw (vs := [pI x65.1]) rfl rfl rfl rfl rfl (by (repeat (first | exact zuh | apply zut))) (by (repeat (first | exact zln | apply zlc | apply zlt))) ?_)
      refine yba ?_
      obtain rfl := Option.some.inj hq63
      exact pk_mid ((), (x65.2.L, x65.2.I, x65.1)) (by (repeat (first | exact zhn | apply zhc rfl))) (by (repeat (first | exact zsn | (apply zsc; (focus (repeat (first | exact zph | apply zpt))))))) rfl
     ·replace hq63 := yaq hc64 hq63
      refine yaj ?_
      obtain rfl := Option.some.inj hq63
      exact pk_mid ((), (x59.2.L, x59.2.I, 0)) (by (repeat (first | exact zhn | apply zhc rfl))) (by (repeat (first | exact zsn | (apply zsc; (focus (repeat (first | exact zph | apply zpt))))))) rfl
    ·rintro ⟨_, ⟨l60, v61, v62⟩⟩ τ hz; (try dsimp only at hz); subst q63; (try dsimp only at h); dsimp only [pupds]
     refine yaa (yaf ?_)
     refine pwl_nilb (k := 6) (b := b48) rfl (by (repeat (first | exact zuh | apply zut))) ?_
     refine yam 1 [2] [] [(89, .agg [pI 2, pI (IntKind.i64.wrap (2 + (IntKind.i64.wrap (2 * x47.1)))), pL eS l52, pI v62, pI 0, pS ByteArray.empty, pL TRule.enc []])] fo0 (by kernel_rfl) ?_
     refine pwl_l0 rfl rfl (yaw (vs := [pI 2, pI (IntKind.i64.wrap (2 + (IntKind.i64.wrap (2 * x47.1)))), pL eS l52, pI v62, pI 0, pS ByteArray.empty, pL TRule.enc []]) rfl rfl rfl rfl rfl (by (repeat (first | exact zuh | apply zut))) (by (repeat (first | exact zln | apply zlc | apply zlt))) ?_)
     refine yba ?_
     (repeat (first | apply yae | apply yab))
     refine yak ?_
     (repeat (first | apply yai | apply yag | apply yax | apply pk_cut_ret))
     obtain rfl := Option.some.inj h
     exact yal (ybc (prv1_c rfl (by (repeat (first | exact List.Mem.head _ | apply List.Mem.tail))) rfl)) (by (repeat (first | exact zsn | (apply zsc; (focus (repeat (first | exact zph | apply zpt))))))) ⟨rfl, rfl⟩
def made_Source_rule_F (n : Nat) : Tmade_Source → Int → Int → Option (TRule × Tmade_Source) := Nat.rec (motive := fun _ => Tmade_Source → Int → Int → Option (TRule × Tmade_Source)) (fun _ _ _ => none) (fun _ ih => made_Source_rule_B ih) n
def made_Source_rule (p0 : Tmade_Source) (p1 : Int) (p2 : Int) : Option (TRule × Tmade_Source) := made_Source_rule_F FUEL p0 p1 p2
theorem made_Source_rule_Fok (n : Nat) : ∀ {p0 : Tmade_Source} {p1 : Int} {p2 : Int} {b0 : Nat} {r : (TRule × Tmade_Source)}, made_Source_rule_F n p0 p1 p2 = some r → PCall 51 [pP b0 0, pI p1, pI p2] [PRes.b b0 87 [pL eI p0.L, pI p0.I]] (fun pv ρ' => pv = .agg [pI r.1.Kind, pI r.1.Digits, pL eS r.1.Except, pI r.1.Tolerance, pI r.1.Limit, pS r.1.Name, pL TRule.enc r.1.Args] ∧ ρ' = [PRes.b b0 87 [pL eI r.2.L, pI r.2.I]]) := by
 induction n with
 | zero => intros; rename_i h; exact nomatch h
 | succ n ih => intros; rename_i h; exact made_Source_rule_B_ok (fun hr => ih hr) h
theorem made_Source_rule_ok {p0 : Tmade_Source} {p1 : Int} {p2 : Int} {b0 : Nat} {r : (TRule × Tmade_Source)} (h : made_Source_rule p0 p1 p2 = some r) : PCall 51 [pP b0 0, pI p1, pI p2] [PRes.b b0 87 [pL eI p0.L, pI p0.I]] (fun pv ρ' => pv = .agg [pI r.1.Kind, pI r.1.Digits, pL eS r.1.Except, pI r.1.Tolerance, pI r.1.Limit, pS r.1.Name, pL TRule.enc r.1.Args] ∧ ρ' = [PRes.b b0 87 [pL eI r.2.L, pI r.2.I]]) := made_Source_rule_Fok FUEL h
def made_Countries  : Option (List ByteArray) := some [(⟨#[65, 65]⟩ : ByteArray), (⟨#[66, 66]⟩ : ByteArray), (⟨#[67, 67]⟩ : ByteArray), (⟨#[68, 68]⟩ : ByteArray), (⟨#[69, 69]⟩ : ByteArray), (⟨#[70, 70]⟩ : ByteArray)]
set_option maxHeartbeats 4000000 in
theorem made_Countries_ok  {r : (List ByteArray)}  (h : made_Countries  = some r) : PF 23 [] (pL eS r) := by
 unfold made_Countries at h
 refine pf_of ?_
 refine penter Tryz.func23 fk23 rfl Tryz.ntmps23 Tryz.results23 rfl ?_
 refine yaa ?_
 refine yad [] [0] [] fo0 (by kernel_rfl) ?_
 (repeat (first | apply yae | apply yab))
 refine yaa (yaf ?_)
 refine yay rfl rfl rfl (pl_lit rfl rfl rfl rfl rfl (by (repeat (first | exact zin | apply zic rfl))) rfl rfl rfl rfl (fun b1 => ?_))
 refine yas [] [] [(0, pO (some ⟨b1, 0, none⟩) 6 6)] fo0 (by kernel_rfl) ?_
 (repeat (first | apply yae | apply yab))
 refine pwc_frzt (enc := eS) (xs := [(⟨#[65, 65]⟩ : ByteArray), (⟨#[66, 66]⟩ : ByteArray), (⟨#[67, 67]⟩ : ByteArray), (⟨#[68, 68]⟩ : ByteArray), (⟨#[69, 69]⟩ : ByteArray), (⟨#[70, 70]⟩ : ByteArray)]) 0 rfl (by (repeat (first | exact zph | apply zpt))) ?_
 refine yak ?_
 (repeat (first | apply yai | apply yag | apply yax | apply pk_cut_ret))
 obtain rfl := Option.some.inj h
 exact yal (ybc (yao rfl)) zsn ⟨rfl, rfl⟩
def made_Agreements (p0 : (List Int)) : Option (List TAgreement) := Option.bind (made_Cut p0 200) (fun x1 => Option.bind (made_Source_Next (⟨x1, 0⟩ : Tmade_Source) 4) (fun x3 => Option.bind (loopF (S := (List TAgreement) × Int × (List Int) × Int) (T := ((List TAgreement))) (fun (l5, v8, l9, v10) => cond (decide (v8 < (IntKind.i64.wrap (1 + x3.1)))) (Option.bind (made_Source_Next (⟨l9, v10⟩ : Tmade_Source) 3) (fun x19 => Option.bind (made_Source_Next x19.2 64) (fun x21 => Option.bind (loopF (S := Int × (List ByteArray)) (T := ((List ByteArray))) (fun (v22, l24) => cond (decide (v22 < 6)) (Option.bind (Option.bind (ge0 v22) (fun u42 => cond ((iand .i64 (ishr .i64 (ior .i64 x21.1 3) v22) 1) == 1) (Option.bind (made_Countries) (fun x44 => Option.bind (idx x44 v22) (fun m45 => Option.bind (app 16 l24 [m45]) (fun l48 => some l48)))) (some l24))) (fun l40 => some (.inl ((IntKind.i64.wrap (v22 + 1)), l40)))) (some (.inr l24))) FUEL (0, ([] : List ByteArray))) (fun l31 => Option.bind (gdp (decide (0 < v8)) (made_Source_Next x21.2 2) x21.2) (fun x53 => Option.bind (cond ((decide (0 < v8)) && (x53.1 == 1)) (Option.bind (idx l5 (IntKind.i64.wrap (v8 - 1))) (fun m61 => some (x53.2.L, x53.2.I, m61.Rules))) (Option.bind (made_Source_Next x53.2 31) (fun x64 => Option.bind (loopF (S := Int × (List Int) × Int × (List TRuleFor)) (T := ((List Int) × Int × (List TRuleFor))) (fun (v65, l66, v67, l69) => cond (decide (v65 < 5)) (Option.bind (Option.bind (ge0 v65) (fun u94 => cond ((iand .i64 (ishr .i64 (IntKind.i64.wrap (1 + x64.1)) v65) 1) == 1) (Option.bind (idx [(⟨#[57, 52]⟩ : ByteArray), (⟨#[57, 52, 48, 49]⟩ : ByteArray), (⟨#[57, 52, 48, 49, 48, 50]⟩ : ByteArray), (⟨#[57, 53]⟩ : ByteArray), (⟨#[57, 53, 48, 50]⟩ : ByteArray)] v65) (fun m96 => Option.bind (made_Source_rule (⟨l66, v67⟩ : Tmade_Source) 0 1) (fun x97 => Option.bind (app 112 l69 [(⟨m96, x97.1⟩ : TRuleFor)]) (fun l100 => some (x97.2.L, x97.2.I, l100))))) (some (l66, v67, l69)))) (fun (l86, v87, l92) => some (.inl ((IntKind.i64.wrap (v65 + 1)), l86, v87, l92)))) (some (.inr (l66, v67, l69)))) FUEL (0, x64.2.L, x64.2.I, ([] : List TRuleFor))) (fun (l73, v74, l79) => some (l73, v74, l79))))) (fun (l55, v56, l58) => Option.bind (app 64 l5 [(⟨(IntKind.i64.wrap (2 + (IntKind.i64.wrap (5 * v8)))), (IntKind.i64.wrap (1 + x19.1)), l31, l58⟩ : TAgreement)]) (fun l108 => some (.inl (l108, (IntKind.i64.wrap (v8 + 1)), l55, v56))))))))) (some (.inr l5))) FUEL (([] : List TAgreement), 0, x3.2.L, x3.2.I)) (fun l14 => some l14)))
set_option maxHeartbeats 4000000 in
theorem made_Agreements_ok {p0 : (List Int)} {r : (List TAgreement)}  (h : made_Agreements p0 = some r) : PCall 13 [pL eI p0] [] (fun pv ρ' => ∃ a c, pv = .v (.slice a r.length c) ∧ ρ' = [PRes.row a r.length c 33 4 (List.map TAgreement.enc r)]) := by
 unfold made_Agreements at h
 refine penter Tryz.func13 fk13 rfl Tryz.ntmps13 Tryz.results13 rfl ?_
 refine yaa ?_
 refine yad [] [2] [] fo0 (by kernel_rfl) ?_
 (repeat (first | apply yae | apply yab))
 refine yaa ?_
 refine yac h ?_; clear h; intro x1 hx1 h
 refine yaf ?_
 refine yam 3 [] [13, 14] [(15, .agg [pL eI x1, pI 0])] (focl 1 (made_Cut_ok hx1) fo0) (by kernel_rfl) ?_
 refine yay rfl rfl rfl (pl_box (cs := [pL eI x1, pI 0]) rfl rfl (fun b2 => ?_))
 refine yas [] [] [(3, pP b2 0)] fo0 (by kernel_rfl) ?_
 (repeat (first | apply yae | apply yab))
 refine yaa ?_
 refine yad [] [] [(4, pN)] fo0 (by kernel_rfl) ?_
 (repeat (first | apply yae | apply yab))
 refine yaa (yaa ?_)
 refine yac h ?_; clear h; intro x3 hx3 h
 refine yaf ?_
 refine yam 1 [] [] [(17, pP b2 0)] fo0 (by kernel_rfl) ?_
 refine yay rfl rfl rfl (pl_callR rfl rfl (ρ1 := [_]) (ybb (by (repeat (first | exact zph | apply zpt))) (List.Perm.refl _)) (yat hx3) ?_); rintro _ _ ⟨rfl, rfl⟩
 refine yas [] [19] [(5, pI 0), (6, pI (IntKind.i64.wrap (1 + x3.1)))] fo0 (by kernel_rfl) ?_
 (repeat (first | apply yae | apply yab))
 refine pwc_nilrow 33 4 ?_
 refine yac h ?_; clear h; intro q16 hq16 h
 refine yaz (Y := (Option Addr × Nat) × ((List TAgreement))) (fun ((a12, c13), l14) => [(4, pO a12 l14.length c13)]) (fun ((a12, c13), l14) => [PRes.row a12 l14.length c13 33 4 (List.map TAgreement.enc l14)]) (fun ((a12, c13), l14) => q16 = l14) ?_ ?_
 ·refine yan ?_
  refine ybd (Y := Option Addr × Nat) (S := (List TAgreement) × Int × (List Int) × Int) _ hq16 (fun (a6, c7) (l5, v8, l9, v10) => [(3, pP b2 0), (4, pO a6 l5.length c7), (5, pI v8), (6, pI (IntKind.i64.wrap (1 + x3.1)))]) (fun (a6, c7) (l5, v8, l9, v10) => [PRes.b b2 87 [pL eI l9, pI v10], PRes.row a6 l5.length c7 33 4 (List.map TAgreement.enc l5)]) (none, 0) (by (repeat (first | exact zhn | apply zhc rfl))) (by (repeat (first | exact zsn | (apply zsc; (focus (repeat (first | exact zph | apply zpt))))))) ?_
  rintro ⟨a6, c7⟩ ⟨l5, v8, l9, v10⟩ o τ hb15; (try dsimp only at hb15); dsimp only [pupds]
  refine yaa (yaa ?_)
  refine yad [] [20, 21] [(22, pB (decide (v8 < (IntKind.i64.wrap (1 + x3.1)))))] fo0 (by kernel_rfl) ?_
  (repeat (first | apply yae | apply yab))
  refine yah rfl (fun hc18 => ?_) (fun hc18 => ?_)
  ·replace hb15 := yap hc18 hb15
   refine yaj ?_
   (repeat (first | apply yae | apply yab))
   refine yaa (yan (yaa ?_))
   refine yac hb15 ?_; clear hb15; intro x19 hx19 hb15
   refine yaf ?_
   refine yam 4 [] [25, 26] [(27, pI (IntKind.i64.wrap (2 + (IntKind.i64.wrap (5 * v8))))), (28, pP b2 0)] fo0 (by kernel_rfl) ?_
   refine yay rfl rfl rfl (pl_callR rfl rfl (ρ1 := [_]) (ybb (by (repeat (first | exact zph | apply zpt))) (List.Perm.refl _)) (yat hx19) ?_); rintro _ _ ⟨rfl, rfl⟩
   refine yam 2 [] [30] [(31, .agg [pI (IntKind.i64.wrap (2 + (IntKind.i64.wrap (5 * v8)))), pI (IntKind.i64.wrap (1 + x19.1)), pN, pN])] fo0 (by kernel_rfl) ?_
   refine yay rfl rfl rfl (pl_alloc (cs := [pI 0, pI 0, pN, pN]) rfl rfl rfl rfl (fun b20 => ?_))
   refine pwl_l0 rfl rfl (yaw (vs := [pI (IntKind.i64.wrap (2 + (IntKind.i64.wrap (5 * v8)))), pI (IntKind.i64.wrap (1 + x19.1)), pN, pN]) rfl rfl rfl rfl rfl (by (repeat (first | exact zuh | apply zut))) (by (repeat (first | exact zln | apply zlc | apply zlt))) ?_)
   refine yba ?_
   (repeat (first | apply yae | apply yab))
   refine yaa ?_
   refine yac hb15 ?_; clear hb15; intro x21 hx21 hb15
   refine yaf ?_
   refine yam 1 [] [] [(32, pP b2 0)] fo0 (by kernel_rfl) ?_
   refine yay rfl rfl rfl (pl_callR rfl rfl (ρ1 := [_]) (ybb (by (repeat (first | exact zph | apply zpt))) (List.Perm.refl _)) (yat hx21) ?_); rintro _ _ ⟨rfl, rfl⟩
   refine yas [] [34] [(8, pI (ior .i64 x21.1 3))] fo0 (by kernel_rfl) ?_
   (repeat (first | apply yae | apply yab))
   refine yaa (yaa ?_)
   refine yad [] [] [(9, pI 0)] fo0 (by kernel_rfl) ?_
   (repeat (first | apply yae | apply yab))
   refine pwc_nilrow 9 1 ?_
   refine yac hb15 ?_; clear hb15; intro q33 hq33 hb15
   refine yaz (Y := (Option Addr × Nat) × ((List ByteArray))) (fun ((a29, c30), l31) => [(3, pP b2 0), (4, pO a6 l5.length c7), (5, pI v8), (6, pI (IntKind.i64.wrap (1 + x3.1))), (7, pP b20 0)]) (fun ((a29, c30), l31) => [PRes.b b2 87 [pL eI x21.2.L, pI x21.2.I], PRes.b b20 33 [pI (IntKind.i64.wrap (2 + (IntKind.i64.wrap (5 * v8)))), pI (IntKind.i64.wrap (1 + x19.1)), pO a29 l31.length c30, pN], PRes.row a6 l5.length c7 33 4 (List.map TAgreement.enc l5), PRes.row a29 l31.length c30 9 1 (List.map eS l31)]) (fun ((a29, c30), l31) => q33 = l31) ?_ ?_
   ·refine yan ?_
    refine ybd (Y := Option Addr × Nat) (S := Int × (List ByteArray)) _ hq33 (fun (a25, c26) (v22, l24) => [(3, pP b2 0), (4, pO a6 l5.length c7), (5, pI v8), (6, pI (IntKind.i64.wrap (1 + x3.1))), (7, pP b20 0), (8, pI (ior .i64 x21.1 3)), (9, pI v22)]) (fun (a25, c26) (v22, l24) => [PRes.b b2 87 [pL eI x21.2.L, pI x21.2.I], PRes.b b20 33 [pI (IntKind.i64.wrap (2 + (IntKind.i64.wrap (5 * v8)))), pI (IntKind.i64.wrap (1 + x19.1)), pO a25 l24.length c26, pN], PRes.row a25 l24.length c26 9 1 (List.map eS l24), PRes.row a6 l5.length c7 33 4 (List.map TAgreement.enc l5)]) (none, 0) (by (repeat (first | exact zhn | apply zhc rfl))) (by (repeat (first | exact zsn | (apply zsc; (focus (repeat (first | exact zph | apply zpt))))))) ?_
    rintro ⟨a25, c26⟩ ⟨v22, l24⟩ o τ hb32; (try dsimp only at hb32); dsimp only [pupds]
    refine yaa (yaa ?_)
    refine yad [] [35] [(36, pB (decide (v22 < 6)))] fo0 (by kernel_rfl) ?_
    (repeat (first | apply yae | apply yab))
    refine yah rfl (fun hc35 => ?_) (fun hc35 => ?_)
    ·replace hb32 := yap hc35 hb32
     refine yaj ?_
     (repeat (first | apply yae | apply yab))
     refine yaa ?_
     refine yac hb32 ?_; clear hb32; intro q41 hq41 hb32
     refine yaz (Y := (Option Addr × Nat) × ((List ByteArray))) (fun ((a38, c39), l40) => [(3, pP b2 0), (4, pO a6 l5.length c7), (5, pI v8), (6, pI (IntKind.i64.wrap (1 + x3.1))), (7, pP b20 0), (8, pI (ior .i64 x21.1 3)), (9, pI v22)]) (fun ((a38, c39), l40) => [PRes.b b2 87 [pL eI x21.2.L, pI x21.2.I], PRes.b b20 33 [pI (IntKind.i64.wrap (2 + (IntKind.i64.wrap (5 * v8)))), pI (IntKind.i64.wrap (1 + x19.1)), pO a38 l40.length c39, pN], PRes.row a6 l5.length c7 33 4 (List.map TAgreement.enc l5), PRes.row a38 l40.length c39 9 1 (List.map eS l40)]) (fun ((a38, c39), l40) => q41 = l40) ?_ ?_
     ·skip
      refine yan (yaa ?_)
      refine yac hq41 ?_; clear hq41; intro u42 hu42 hq41
      refine yad [] [39, 40, 41, 42] [(43, pB ((iand .i64 (ishr .i64 (ior .i64 x21.1 3) v22) 1) == 1))] (foge 2 hu42 fo0) (by kernel_rfl) ?_
      (repeat (first | apply yae | apply yab))
      refine yah rfl (fun hc43 => ?_) (fun hc43 => ?_)
      ·replace hq41 := yap hc43 hq41
       refine yac hq41 ?_; clear hq41; intro x44 hx44 hq41
       refine yac hq41 ?_; clear hq41; intro m45 hm45 hq41
       refine yac hq41 ?_; clear hq41; intro l48 hl48 hq41
       refine pwc_cutK (Y := Option Addr × Nat) (fun (a49, c50) => [(3, pP b2 0), (4, pO a6 l5.length c7), (5, pI v8), (6, pI (IntKind.i64.wrap (1 + x3.1))), (7, pP b20 0), (8, pI (ior .i64 x21.1 3)), (9, pI v22)]) (fun (a49, c50) => [PRes.b b2 87 [pL eI x21.2.L, pI x21.2.I], PRes.b b20 33 [pI (IntKind.i64.wrap (2 + (IntKind.i64.wrap (5 * v8)))), pI (IntKind.i64.wrap (1 + x19.1)), pO a49 l48.length c50, pN], PRes.row a6 l5.length c7 33 4 (List.map TAgreement.enc l5), PRes.row a49 l48.length c50 9 1 (List.map eS l48)]) (fun _ => True) ?_ ?_
       ·refine pws_start (ρd := [PRes.row a25 _ _ _ _ _, PRes.b b20 _ _]) _ (by (repeat (first | exact List.Perm.refl _ | (refine ybb (by (repeat (first | exact zph | apply zpt))) ?_)))) ?_
        refine pws_q 0 (by kernel_rfl) rfl rfl rfl rfl (pq_fieldAddr rfl rfl rfl rfl rfl (.p rfl)) ?_
        refine pws_q 3 (by kernel_rfl) rfl rfl rfl rfl (pq_move (p := pI v22) rfl (.p rfl)) ?_
        refine pws_two 1 2 (by kernel_rfl) ?_ ?_
        ·skip
         refine pstep_l rfl rfl rfl rfl (pl_q (pq_load_b (p := pO a25 l24.length c26) rfl (.p rfl) (by (repeat (first | exact List.Mem.head _ | apply List.Mem.tail))) rfl) ?_)
         refine pws_one 2 (by kernel_rfl) ?_
         refine pstep_call rfl rfl rfl rfl rfl rfl (made_Countries_ok hx44) ?_
         refine pws_q 4 (by kernel_rfl) rfl rfl rfl rfl (pq_index (enc := eS) rfl rfl rfl (fun _ => rfl) (.p rfl) (.p rfl) (fun _ => hm45)) ?_
         refine pws_q 5 (by kernel_rfl) rfl rfl rfl rfl (pq_load_r (p := pS m45) rfl (.p rfl) rfl) ?_
         refine pws_one 6 (by kernel_rfl) ?_
         refine pstep_l rfl rfl rfl rfl (pl_lit rfl rfl rfl rfl rfl (by (repeat (first | exact zin | apply zic rfl))) rfl rfl rfl rfl (fun b46 => ?_))
         refine pws_one 7 (by kernel_rfl) ?_
         refine pstep_l rfl rfl rfl rfl (pl_app_o (enc := eS) rfl rfl rfl rfl rfl rfl rfl rfl rfl (by (repeat (first | exact List.Mem.head _ | apply List.Mem.tail))) (by (repeat (first | exact zph | apply zpt))) hl48 (fun a49 c50 => ?_))
         refine pws_q 8 (by kernel_rfl) rfl rfl rfl rfl (pq_fieldAddr rfl rfl rfl rfl rfl (.p rfl)) ?_
         refine pws_one 9 (by kernel_rfl) ?_
         refine pstep_l0 rfl rfl rfl (yaw (vs := [pO a49 l48.length c50]) rfl rfl rfl rfl rfl (by (repeat (first | exact zuh | apply zut))) (by (repeat (first | exact zln | apply zlc | apply zlt))) ?_)
         refine pws_done (by kernel_rfl) ?_
         exact pk_cut (a49, c50) (by (repeat (first | exact zhn | apply zhc rfl))) (by (repeat (first | exact zsn | (apply zsc; (focus (repeat (first | exact zph | apply zpt))))))) trivial
        ·skip
         refine pstep_call rfl rfl rfl rfl rfl rfl (made_Countries_ok hx44) ?_
         refine pws_q 4 (by kernel_rfl) rfl rfl rfl rfl (pq_index (enc := eS) rfl rfl rfl (fun _ => rfl) (.p rfl) (.p rfl) (fun _ => hm45)) ?_
         refine pws_q 5 (by kernel_rfl) rfl rfl rfl rfl (pq_load_r (p := pS m45) rfl (.p rfl) rfl) ?_
         refine pws_two 1 6 (by kernel_rfl) ?_ ?_
         ·skip
          refine pstep_l rfl rfl rfl rfl (pl_q (pq_load_b (p := pO a25 l24.length c26) rfl (.p rfl) (by (repeat (first | exact List.Mem.head _ | apply List.Mem.tail))) rfl) ?_)
          refine pws_one 6 (by kernel_rfl) ?_
          refine pstep_l rfl rfl rfl rfl (pl_lit rfl rfl rfl rfl rfl (by (repeat (first | exact zin | apply zic rfl))) rfl rfl rfl rfl (fun b46 => ?_))
          refine pws_one 7 (by kernel_rfl) ?_
          refine pstep_l rfl rfl rfl rfl (pl_app_o (enc := eS) rfl rfl rfl rfl rfl rfl rfl rfl rfl (by (repeat (first | exact List.Mem.head _ | apply List.Mem.tail))) (by (repeat (first | exact zph | apply zpt))) hl48 (fun a49 c50 => ?_))
          refine pws_q 8 (by kernel_rfl) rfl rfl rfl rfl (pq_fieldAddr rfl rfl rfl rfl rfl (.p rfl)) ?_
          refine pws_one 9 (by kernel_rfl) ?_
          refine pstep_l0 rfl rfl rfl (yaw (vs := [pO a49 l48.length c50]) rfl rfl rfl rfl rfl (by (repeat (first | exact zuh | apply zut))) (by (repeat (first | exact zln | apply zlc | apply zlt))) ?_)
          refine pws_done (by kernel_rfl) ?_
          exact pk_cut (a49, c50) (by (repeat (first | exact zhn | apply zhc rfl))) (by (repeat (first | exact zsn | (apply zsc; (focus (repeat (first | exact zph | apply zpt))))))) trivial
         ·skip
          refine pstep_l rfl rfl rfl rfl (pl_lit rfl rfl rfl rfl rfl (by (repeat (first | exact zin | apply zic rfl))) rfl rfl rfl rfl (fun b46 => ?_))
          refine pws_one 1 (by kernel_rfl) ?_
          refine pstep_l rfl rfl rfl rfl (pl_q (pq_load_b (p := pO a25 l24.length c26) rfl (.p rfl) (by (repeat (first | exact List.Mem.head _ | apply List.Mem.tail))) rfl) ?_)
          refine pws_one 7 (by kernel_rfl) ?_
          refine pstep_l rfl rfl rfl rfl (pl_app_o (enc := eS) rfl rfl rfl rfl rfl rfl rfl rfl rfl (by (repeat (first | exact List.Mem.head _ | apply List.Mem.tail))) (by (repeat (first | exact zph | apply zpt))) hl48 (fun a49 c50 => ?_))
          refine pws_q 8 (by kernel_rfl) rfl rfl rfl rfl (pq_fieldAddr rfl rfl rfl rfl rfl (.p rfl)) ?_
          refine pws_one 9 (by kernel_rfl) ?_
          refine pstep_l0 rfl rfl rfl (yaw (vs := [pO a49 l48.length c50]) rfl rfl rfl rfl rfl (by (repeat (first | exact zuh | apply zut))) (by (repeat (first | exact zln | apply zlc | apply zlt))) ?_)
          refine pws_done (by kernel_rfl) ?_
          exact pk_cut (a49, c50) (by (repeat (first | exact zhn | apply zhc rfl))) (by (repeat (first | exact zsn | (apply zsc; (focus (repeat (first | exact zph | apply zpt))))))) trivial
       ·rintro ⟨a49, c50⟩ τ ρ1 hsub52 _; (try dsimp only at hsub52); dsimp only [pupds]
        refine yae ?_
        obtain rfl := Option.some.inj hq41
        exact pk_mid ((a49, c50), l48) (by (repeat (first | exact zhn | apply zhc rfl))) (PSub.trans (by (repeat (first | exact zsn | (apply zsc; (focus (repeat (first | exact zph | apply zpt))))))) hsub52) rfl
      ·replace hq41 := yaq hc43 hq41
       refine yaj (yae ?_)
       obtain rfl := Option.some.inj hq41
       exact pk_mid ((a25, c26), l24) (by (repeat (first | exact zhn | apply zhc rfl))) (by (repeat (first | exact zsn | (apply zsc; (focus (repeat (first | exact zph | apply zpt))))))) rfl
     ·rintro ⟨⟨a38, c39⟩, l40⟩ τ hz; (try dsimp only at hz); subst q41; (try dsimp only at hb32); dsimp only [pupds]
      refine yad [] [37, 38] [(9, pI (IntKind.i64.wrap (v22 + 1)))] fo0 (by kernel_rfl) ?_
      (repeat apply yae)
      exact pk_loop hb32 (a38, c39) (by (repeat (first | exact zhn | apply zhc rfl))) (by (repeat (first | exact zsn | (apply zsc; (focus (repeat (first | exact zph | apply zpt)))))))
    ·replace hb32 := yaq hc35 hb32
     refine pwc_exit ?_
     (repeat (first | apply yav | apply pk_mid_exit | apply pk_cut_exit | apply pk_block_ne rfl))
     refine yar hb32 (fun ht => ?_)
     refine yau rfl ?_
     exact pk_mid ((a25, c26), l24) (by (repeat (first | exact zhn | apply zhc rfl))) (by (repeat (first | exact zsn | (apply zsc; (focus (repeat (first | exact zph | apply zpt))))))) ht.symm
   ·rintro ⟨⟨a29, c30⟩, l31⟩ τ hz; (try dsimp only at hz); subst q33; (try dsimp only at hb15); dsimp only [pupds]
    refine yaa (yaa ?_)
    refine yac hb15 ?_; clear hb15; intro x53 hx53 hb15
    refine yaf ?_
    refine yam 4 [] [53, 54] [(55, pB (decide (0 < v8))), (56, pgv (decide (0 < v8)) (pP b2 0))] fo0 (by kernel_rfl) ?_
    refine pwl_callRg (pguard_t rfl rfl rfl) rfl rfl rfl (by (repeat (first | exact zph | apply zpt))) (pargs_cons (.g rfl) (pargs_cons (.p rfl) (pargs_nil))) (fun hc => yat (gdp_t hx53 hc)) (fun hc => by rw [gdp_f hx53 hc]) ?_
    refine pwl_qg (pguard_t rfl rfl rfl) rfl rfl (pq_cmp rfl (.g rfl) (.p rfl) rfl) ?_
    refine pwl_q rfl rfl rfl (pq_and rfl (.p rfl) (.p rfl) (.g rfl)) ?_
    refine yba ?_
    (repeat (first | apply yae | apply yab))
    refine yac hb15 ?_; clear hb15; intro q59 hq59 hb15
    refine yaz (Y := (Unit) × ((List Int) × Int × (List TRuleFor))) (fun (_, (l55, v56, l58)) => [(3, pP b2 0), (4, pO a6 l5.length c7), (5, pI v8), (6, pI (IntKind.i64.wrap (1 + x3.1))), (7, pP b20 0)]) (fun (_, (l55, v56, l58)) => [PRes.b b2 87 [pL eI l55, pI v56], PRes.b b20 33 [pI (IntKind.i64.wrap (2 + (IntKind.i64.wrap (5 * v8)))), pI (IntKind.i64.wrap (1 + x19.1)), pO a29 l31.length c30, pL TRuleFor.enc l58], PRes.row a6 l5.length c7 33 4 (List.map TAgreement.enc l5), PRes.row a29 l31.length c30 9 1 (List.map eS l31)]) (fun (_, (l55, v56, l58)) => q59 = (l55, v56, l58)) ?_ ?_
    ·skip
     refine yah rfl (fun hc60 => ?_) (fun hc60 => ?_)
     ·replace hq59 := yap hc60 hq59
      refine yac hq59 ?_; clear hq59; intro m61 hm61 hq59
      refine yaf ?_
      refine yam 3 [] [61] [(60, pO a6 l5.length c7), (62, pI (IntKind.i64.wrap (v8 - 1)))] fo0 (by kernel_rfl) ?_
      refine pwl_q rfl rfl rfl (pq_indexO (enc := TAgreement.enc) (xs := l5) rfl rfl rfl (.p rfl) (by (repeat (first | exact List.Mem.head _ | apply List.Mem.tail))) (.p rfl) (fun _ => hm61)) ?_
      refine yam 1 [] [] [(64, pP (ablk a6) ((IntKind.i64.wrap (v8 - 1)).toNat * 4 + 3))] fo0 (by kernel_rfl) ?_
      refine pwl_q rfl rfl rfl (pq_load_o (p := pL TRuleFor.enc m61.Rules) (enc := TAgreement.enc) (xs := l5) (a := a6) (IntKind.i64.wrap (v8 - 1)) 3 m61 rfl (.p rfl) rfl (by (repeat (first | exact List.Mem.head _ | apply List.Mem.tail))) (fun _ => hm61) rfl) ?_
      refine yam 1 [] [] [(66, pP b20 3)] fo0 (by kernel_rfl) ?_
      refine pwl_l0 rfl rfl (yaw (vs := [pL TRuleFor.enc m61.Rules]) rfl rfl rfl rfl rfl (by (repeat (first | exact zuh | apply zut))) (by (repeat (first | exact zln | apply zlc | apply zlt))) ?_)
      refine yba ?_
      obtain rfl := Option.some.inj hq59
      exact pk_mid ((), (x53.2.L, x53.2.I, m61.Rules)) (by (repeat (first | exact zhn | apply zhc rfl))) (by (repeat (first | exact zsn | (apply zsc; (focus (repeat (first | exact zph | apply zpt))))))) rfl
     ·replace hq59 := yaq hc60 hq59
      refine yaa (yaf ?_)
      refine yay rfl rfl rfl (pl_lit rfl rfl rfl rfl rfl (by (repeat (first | exact zin | apply zic rfl))) rfl rfl rfl rfl (fun b62 => ?_))
      refine yas [] [] [(10, pO (some ⟨b62, 0, none⟩) 5 5)] fo0 (by kernel_rfl) ?_
      (repeat (first | apply yae | apply yab))
      refine yaa ?_
      refine yac hq59 ?_; clear hq59; intro x64 hx64 hq59
      refine yaf ?_
      refine yam 1 [] [] [(68, pP b2 0)] fo0 (by kernel_rfl) ?_
      refine yay rfl rfl rfl (pl_callR rfl rfl (ρ1 := [_]) (ybb (by (repeat (first | exact zph | apply zpt))) (List.Perm.refl _)) (yat hx64) ?_); rintro _ _ ⟨rfl, rfl⟩
      refine yas [] [70] [(11, pI (IntKind.i64.wrap (1 + x64.1)))] fo0 (by kernel_rfl) ?_
      (repeat (first | apply yae | apply yab))
      refine yaa ?_
      refine yad [] [] [(12, pI 0)] fo0 (by kernel_rfl) ?_
      (repeat (first | apply yae | apply yab))
      refine pwc_nilrow 38 8 ?_
      refine yac hq59 ?_; clear hq59; intro q81 hq81 hq59
      refine pwc_cutK (Y := (Option Addr × Nat) × ((List Int) × Int × (List TRuleFor))) (fun ((a77, c78), (l73, v74, l79)) => [(3, pP b2 0), (4, pO a6 l5.length c7), (5, pI v8), (6, pI (IntKind.i64.wrap (1 + x3.1))), (7, pP b20 0)]) (fun ((a77, c78), (l73, v74, l79)) => [PRes.b b2 87 [pL eI l73, pI v74], PRes.b b20 33 [pI (IntKind.i64.wrap (2 + (IntKind.i64.wrap (5 * v8)))), pI (IntKind.i64.wrap (1 + x19.1)), pO a29 l31.length c30, pO a77 l79.length c78], PRes.row a6 l5.length c7 33 4 (List.map TAgreement.enc l5), PRes.row a29 l31.length c30 9 1 (List.map eS l31), PRes.row a77 l79.length c78 38 8 (List.map TRuleFor.enc l79)]) (fun ((a77, c78), (l73, v74, l79)) => q81 = (l73, v74, l79)) ?_ ?_
      ·refine yan ?_
       refine ybd (Y := Option Addr × Nat) (S := Int × (List Int) × Int × (List TRuleFor)) _ hq81 (fun (a70, c71) (v65, l66, v67, l69) => [(3, pP b2 0), (4, pO a6 l5.length c7), (5, pI v8), (6, pI (IntKind.i64.wrap (1 + x3.1))), (7, pP b20 0), (10, pO (some ⟨b62, 0, none⟩) 5 5), (11, pI (IntKind.i64.wrap (1 + x64.1))), (12, pI v65)]) (fun (a70, c71) (v65, l66, v67, l69) => [PRes.b b2 87 [pL eI l66, pI v67], PRes.b b20 33 [pI (IntKind.i64.wrap (2 + (IntKind.i64.wrap (5 * v8)))), pI (IntKind.i64.wrap (1 + x19.1)), pO a29 l31.length c30, pO a70 l69.length c71], PRes.row a6 l5.length c7 33 4 (List.map TAgreement.enc l5), PRes.row a29 l31.length c30 9 1 (List.map eS l31), PRes.row (some ⟨b62, 0, none⟩) 5 5 9 1 (List.map eS [(⟨#[57, 52]⟩ : ByteArray), (⟨#[57, 52, 48, 49]⟩ : ByteArray), (⟨#[57, 52, 48, 49, 48, 50]⟩ : ByteArray), (⟨#[57, 53]⟩ : ByteArray), (⟨#[57, 53, 48, 50]⟩ : ByteArray)]), PRes.row a70 l69.length c71 38 8 (List.map TRuleFor.enc l69)]) (none, 0) (by (repeat (first | exact zhn | apply zhc rfl))) (by (repeat (first | exact zsn | (apply zsc; (focus (repeat (first | exact zph | apply zpt))))))) ?_
       rintro ⟨a70, c71⟩ ⟨v65, l66, v67, l69⟩ o τ hb80; (try dsimp only at hb80); dsimp only [pupds]
       refine yaa (yaa ?_)
       refine yad [] [71] [(72, pB (decide (v65 < 5)))] fo0 (by kernel_rfl) ?_
       (repeat (first | apply yae | apply yab))
       refine yah rfl (fun hc83 => ?_) (fun hc83 => ?_)
       ·replace hb80 := yap hc83 hb80
        refine yaj ?_
        (repeat (first | apply yae | apply yab))
        refine yaa ?_
        refine yac hb80 ?_; clear hb80; intro q93 hq93 hb80
        refine yaz (Y := (Option Addr × Nat) × ((List Int) × Int × (List TRuleFor))) (fun ((a90, c91), (l86, v87, l92)) => [(3, pP b2 0), (4, pO a6 l5.length c7), (5, pI v8), (6, pI (IntKind.i64.wrap (1 + x3.1))), (7, pP b20 0), (10, pO (some ⟨b62, 0, none⟩) 5 5), (11, pI (IntKind.i64.wrap (1 + x64.1))), (12, pI v65)]) (fun ((a90, c91), (l86, v87, l92)) => [PRes.b b2 87 [pL eI l86, pI v87], PRes.b b20 33 [pI (IntKind.i64.wrap (2 + (IntKind.i64.wrap (5 * v8)))), pI (IntKind.i64.wrap (1 + x19.1)), pO a29 l31.length c30, pO a90 l92.length c91], PRes.row a6 l5.length c7 33 4 (List.map TAgreement.enc l5), PRes.row (some ⟨b62, 0, none⟩) 5 5 9 1 (List.map eS [(⟨#[57, 52]⟩ : ByteArray), (⟨#[57, 52, 48, 49]⟩ : ByteArray), (⟨#[57, 52, 48, 49, 48, 50]⟩ : ByteArray), (⟨#[57, 53]⟩ : ByteArray), (⟨#[57, 53, 48, 50]⟩ : ByteArray)]), PRes.row a29 l31.length c30 9 1 (List.map eS l31), PRes.row a90 l92.length c91 38 8 (List.map TRuleFor.enc l92)]) (fun ((a90, c91), (l86, v87, l92)) => q93 = (l86, v87, l92)) ?_ ?_
        ·skip
         refine yan (yaa ?_)
         refine yac hq93 ?_; clear hq93; intro u94 hu94 hq93
         refine yad [] [75, 76, 77, 78] [(79, pB ((iand .i64 (ishr .i64 (IntKind.i64.wrap (1 + x64.1)) v65) 1) == 1))] (foge 2 hu94 fo0) (by kernel_rfl) ?_
         (repeat (first | apply yae | apply yab))
         refine yah rfl (fun hc95 => ?_) (fun hc95 => ?_)
         ·replace hq93 := yap hc95 hq93
          refine yac hq93 ?_; clear hq93; intro m96 hm96 hq93
          refine yac hq93 ?_; clear hq93; intro x97 hx97 hq93
          refine yac hq93 ?_; clear hq93; intro l100 hl100 hq93
          refine pwc_cutK (Y := Option Addr × Nat) (fun (a101, c102) => [(3, pP b2 0), (4, pO a6 l5.length c7), (5, pI v8), (6, pI (IntKind.i64.wrap (1 + x3.1))), (7, pP b20 0), (10, pO (some ⟨b62, 0, none⟩) 5 5), (11, pI (IntKind.i64.wrap (1 + x64.1))), (12, pI v65)]) (fun (a101, c102) => [PRes.b b2 87 [pL eI x97.2.L, pI x97.2.I], PRes.b b20 33 [pI (IntKind.i64.wrap (2 + (IntKind.i64.wrap (5 * v8)))), pI (IntKind.i64.wrap (1 + x19.1)), pO a29 l31.length c30, pO a101 l100.length c102], PRes.row a101 l100.length c102 38 8 (List.map TRuleFor.enc l100), PRes.row a6 l5.length c7 33 4 (List.map TAgreement.enc l5), PRes.row a29 l31.length c30 9 1 (List.map eS l31), PRes.row (some ⟨b62, 0, none⟩) 5 5 9 1 (List.map eS [(⟨#[57, 52]⟩ : ByteArray), (⟨#[57, 52, 48, 49]⟩ : ByteArray), (⟨#[57, 52, 48, 49, 48, 50]⟩ : ByteArray), (⟨#[57, 53]⟩ : ByteArray), (⟨#[57, 53, 48, 50]⟩ : ByteArray)])]) (fun _ => True) ?_ ?_
          ·refine pws_start (ρd := [PRes.b b2 _ _, PRes.row a70 _ _ _ _ _, PRes.b b20 _ _]) _ (by (repeat (first | exact List.Perm.refl _ | (refine ybb (by (repeat (first | exact zph | apply zpt))) ?_)))) ?_
           refine pws_q 0 (by kernel_rfl) rfl rfl rfl rfl (pq_fieldAddr rfl rfl rfl rfl rfl (.p rfl)) ?_
           refine pws_q 2 (by kernel_rfl) rfl rfl rfl rfl (pq_move (p := pO (some ⟨b62, 0, none⟩) 5 5) rfl (.p rfl)) ?_
           refine pws_q 3 (by kernel_rfl) rfl rfl rfl rfl (pq_move (p := pI v65) rfl (.p rfl)) ?_
           refine pws_q 4 (by kernel_rfl) rfl rfl rfl rfl (pq_indexO (enc := eS) (xs := [(⟨#[57, 52]⟩ : ByteArray), (⟨#[57, 52, 48, 49]⟩ : ByteArray), (⟨#[57, 52, 48, 49, 48, 50]⟩ : ByteArray), (⟨#[57, 53]⟩ : ByteArray), (⟨#[57, 53, 48, 50]⟩ : ByteArray)]) rfl rfl rfl (.p rfl) (by (repeat (first | exact List.Mem.head _ | apply List.Mem.tail))) (.p rfl) (fun _ => hm96)) ?_
           refine pws_q 5 (by kernel_rfl) rfl rfl rfl rfl (pq_load_o (p := pS m96) (enc := eS) (xs := [(⟨#[57, 52]⟩ : ByteArray), (⟨#[57, 52, 48, 49]⟩ : ByteArray), (⟨#[57, 52, 48, 49, 48, 50]⟩ : ByteArray), (⟨#[57, 53]⟩ : ByteArray), (⟨#[57, 53, 48, 50]⟩ : ByteArray)]) (a := (some ⟨b62, 0, none⟩)) v65 0 m96 rfl (.p rfl) rfl (by (repeat (first | exact List.Mem.head _ | apply List.Mem.tail))) (fun _ => hm96) rfl) ?_
           refine pws_q 6 (by kernel_rfl) rfl rfl rfl rfl (pq_move (p := pP b2 0) rfl (.p rfl)) ?_
           refine pws_two 1 7 (by kernel_rfl) ?_ ?_
           ·skip
            refine pstep_l rfl rfl rfl rfl (pl_q (pq_load_b (p := pO a70 l69.length c71) rfl (.p rfl) (by (repeat (first | exact List.Mem.head _ | apply List.Mem.tail))) rfl) ?_)
            refine pws_one 7 (by kernel_rfl) ?_
            refine pstep_l rfl rfl rfl rfl (pl_callR rfl rfl (ρ1 := [_]) (ybb (by (repeat (first | exact zph | apply zpt))) (List.Perm.refl _)) (made_Source_rule_ok hx97) ?_); rintro _ _ ⟨rfl, rfl⟩
            refine pws_q 8 (by kernel_rfl) rfl rfl rfl rfl (pq_buildZ (cs := [pS m96, pI x97.1.Kind, pI x97.1.Digits, pL eS x97.1.Except, pI x97.1.Tolerance, pI x97.1.Limit, pS x97.1.Name, pL TRule.enc x97.1.Args]) rfl rfl rfl rfl rfl rfl rfl (by (repeat (first | exact zfn | (apply zfc rfl rfl rfl rfl; (focus (repeat (first | exact zln | apply zlc | apply zlt)))))))) ?_
            refine pws_one 9 (by kernel_rfl) ?_
            refine pstep_l rfl rfl rfl rfl (pl_lit rfl rfl rfl rfl rfl (by (repeat (first | exact zin | apply zic rfl))) rfl rfl rfl rfl (fun b98 => ?_))
            refine pws_one 10 (by kernel_rfl) ?_
            refine pstep_l rfl rfl rfl rfl (pl_app_o (enc := TRuleFor.enc) rfl rfl rfl rfl rfl rfl rfl rfl rfl (by (repeat (first | exact List.Mem.head _ | apply List.Mem.tail))) (by (repeat (first | exact zph | apply zpt))) hl100 (fun a101 c102 => ?_))
            refine pws_q 11 (by kernel_rfl) rfl rfl rfl rfl (pq_fieldAddr rfl rfl rfl rfl rfl (.p rfl)) ?_
            refine pws_one 12 (by kernel_rfl) ?_
            refine pstep_l0 rfl rfl rfl (yaw (vs := [pO a101 l100.length c102]) rfl rfl rfl rfl rfl (by (repeat (first | exact zuh | apply zut))) (by (repeat (first | exact zln | apply zlc | apply zlt))) ?_)
            refine pws_done (by kernel_rfl) ?_
            exact pk_cut (a101, c102) (by (repeat (first | exact zhn | apply zhc rfl))) (by (repeat (first | exact zsn | (apply zsc; (focus (repeat (first | exact zph | apply zpt))))))) trivial
           ·skip
            refine pstep_l rfl rfl rfl rfl (pl_callR rfl rfl (ρ1 := [_]) (ybb (by (repeat (first | exact zph | apply zpt))) (List.Perm.refl _)) (made_Source_rule_ok hx97) ?_); rintro _ _ ⟨rfl, rfl⟩
            refine pws_q 8 (by kernel_rfl) rfl rfl rfl rfl (pq_buildZ (cs := [pS m96, pI x97.1.Kind, pI x97.1.Digits, pL eS x97.1.Except, pI x97.1.Tolerance, pI x97.1.Limit, pS x97.1.Name, pL TRule.enc x97.1.Args]) rfl rfl rfl rfl rfl rfl rfl (by (repeat (first | exact zfn | (apply zfc rfl rfl rfl rfl; (focus (repeat (first | exact zln | apply zlc | apply zlt)))))))) ?_
            refine pws_two 1 9 (by kernel_rfl) ?_ ?_
            ·skip
             refine pstep_l rfl rfl rfl rfl (pl_q (pq_load_b (p := pO a70 l69.length c71) rfl (.p rfl) (by (repeat (first | exact List.Mem.head _ | apply List.Mem.tail))) rfl) ?_)
             refine pws_one 9 (by kernel_rfl) ?_
             refine pstep_l rfl rfl rfl rfl (pl_lit rfl rfl rfl rfl rfl (by (repeat (first | exact zin | apply zic rfl))) rfl rfl rfl rfl (fun b98 => ?_))
             refine pws_one 10 (by kernel_rfl) ?_
             refine pstep_l rfl rfl rfl rfl (pl_app_o (enc := TRuleFor.enc) rfl rfl rfl rfl rfl rfl rfl rfl rfl (by (repeat (first | exact List.Mem.head _ | apply List.Mem.tail))) (by (repeat (first | exact zph | apply zpt))) hl100 (fun a101 c102 => ?_))
             refine pws_q 11 (by kernel_rfl) rfl rfl rfl rfl (pq_fieldAddr rfl rfl rfl rfl rfl (.p rfl)) ?_
             refine pws_one 12 (by kernel_rfl) ?_
             refine pstep_l0 rfl rfl rfl (yaw (vs := [pO a101 l100.length c102]) rfl rfl rfl rfl rfl (by (repeat (first | exact zuh | apply zut))) (by (repeat (first | exact zln | apply zlc | apply zlt))) ?_)
             refine pws_done (by kernel_rfl) ?_
             exact pk_cut (a101, c102) (by (repeat (first | exact zhn | apply zhc rfl))) (by (repeat (first | exact zsn | (apply zsc; (focus (repeat (first | exact zph | apply zpt))))))) trivial
            ·skip
             refine pstep_l rfl rfl rfl rfl (pl_lit rfl rfl rfl rfl rfl (by (repeat (first | exact zin | apply zic rfl))) rfl rfl rfl rfl (fun b98 => ?_))
             refine pws_one 1 (by kernel_rfl) ?_
             refine pstep_l rfl rfl rfl rfl (pl_q (pq_load_b (p := pO a70 l69.length c71) rfl (.p rfl) (by (repeat (first | exact List.Mem.head _ | apply List.Mem.tail))) rfl) ?_)
             refine pws_one 10 (by kernel_rfl) ?_
             refine pstep_l rfl rfl rfl rfl (pl_app_o (enc := TRuleFor.enc) rfl rfl rfl rfl rfl rfl rfl rfl rfl (by (repeat (first | exact List.Mem.head _ | apply List.Mem.tail))) (by (repeat (first | exact zph | apply zpt))) hl100 (fun a101 c102 => ?_))
             refine pws_q 11 (by kernel_rfl) rfl rfl rfl rfl (pq_fieldAddr rfl rfl rfl rfl rfl (.p rfl)) ?_
             refine pws_one 12 (by kernel_rfl) ?_
             refine pstep_l0 rfl rfl rfl (yaw (vs := [pO a101 l100.length c102]) rfl rfl rfl rfl rfl (by (repeat (first | exact zuh | apply zut))) (by (repeat (first | exact zln | apply zlc | apply zlt))) ?_)
             refine pws_done (by kernel_rfl) ?_
             exact pk_cut (a101, c102) (by (repeat (first | exact zhn | apply zhc rfl))) (by (repeat (first | exact zsn | (apply zsc; (focus (repeat (first | exact zph | apply zpt))))))) trivial
          ·rintro ⟨a101, c102⟩ τ ρ1 hsub104 _; (try dsimp only at hsub104); dsimp only [pupds]
           refine yae ?_
           obtain rfl := Option.some.inj hq93
           exact pk_mid ((a101, c102), (x97.2.L, x97.2.I, l100)) (by (repeat (first | exact zhn | apply zhc rfl))) (PSub.trans (by (repeat (first | exact zsn | (apply zsc; (focus (repeat (first | exact zph | apply zpt))))))) hsub104) rfl
         ·replace hq93 := yaq hc95 hq93
          refine yaj (yae ?_)
          obtain rfl := Option.some.inj hq93
          exact pk_mid ((a70, c71), (l66, v67, l69)) (by (repeat (first | exact zhn | apply zhc rfl))) (by (repeat (first | exact zsn | (apply zsc; (focus (repeat (first | exact zph | apply zpt))))))) rfl
        ·rintro ⟨⟨a90, c91⟩, ⟨l86, v87, l92⟩⟩ τ hz; (try dsimp only at hz); subst q93; (try dsimp only at hb80); dsimp only [pupds]
         refine yad [] [73, 74] [(12, pI (IntKind.i64.wrap (v65 + 1)))] fo0 (by kernel_rfl) ?_
         (repeat apply yae)
         exact pk_loop hb80 (a90, c91) (by (repeat (first | exact zhn | apply zhc rfl))) (by (repeat (first | exact zsn | (apply zsc; (focus (repeat (first | exact zph | apply zpt)))))))
       ·replace hb80 := yaq hc83 hb80
        refine pwc_exit ?_
        (repeat (first | apply yav | apply pk_mid_exit | apply pk_cut_exit | apply pk_block_ne rfl))
        refine yar hb80 (fun ht => ?_)
        refine yau rfl ?_
        exact pk_cut ((a70, c71), (l66, v67, l69)) (by (repeat (first | exact zhn | apply zhc rfl))) (by (repeat (first | exact zsn | (apply zsc; (focus (repeat (first | exact zph | apply zpt))))))) ht.symm
      ·rintro ⟨⟨a77, c78⟩, ⟨l73, v74, l79⟩⟩ τ ρ1 hsub105 hz; (try dsimp only at hz hsub105); subst q81; (try dsimp only at hq59); dsimp only [pupds]
       refine pk_mid_cov (cov_sub hsub105) ?_
       refine pk_mid_cov (cov_frz (css := List.map TRuleFor.enc l79) (a := a77) (by (repeat (first | exact zph | apply zpt)))) ?_
       refine pk_mid_cov (cov_viewb (k := 3) (enc := TRuleFor.enc) (xs := l79) (b := b20) (a := a77) rfl (by (repeat (first | exact List.Mem.head _ | apply List.Mem.tail))) (by (repeat (first | exact zuh | apply zut)))) ?_
       obtain rfl := Option.some.inj hq59
       exact pk_mid ((), (l73, v74, l79)) (by (repeat (first | exact zhn | apply zhc rfl))) (by (repeat (first | exact zsn | (apply zsc; (focus (repeat (first | exact zph | apply zpt))))))) rfl
    ·rintro ⟨_, ⟨l55, v56, l58⟩⟩ τ hz; (try dsimp only at hz); subst q59; (try dsimp only at hb15); dsimp only [pupds]
     refine yaf ?_
     refine yam 1 [] [] [(92, pO a6 l5.length c7)] fo0 (by kernel_rfl) ?_
     refine pwl_frz (css := List.map eS l31) (a := a29) (by (repeat (first | exact zph | apply zpt))) ?_
     refine pwl_viewb (k := 2) (enc := eS) (xs := l31) (b := b20) (a := a29) rfl (by (repeat (first | exact List.Mem.head _ | apply List.Mem.tail))) (by (repeat (first | exact zuh | apply zut))) ?_
     refine yam 1 [2] [] [(93, .agg [pI (IntKind.i64.wrap (2 + (IntKind.i64.wrap (5 * v8)))), pI (IntKind.i64.wrap (1 + x19.1)), pL eS l31, pL TRuleFor.enc l58])] fo0 (by kernel_rfl) ?_
     refine yay rfl rfl rfl (pl_lit rfl rfl rfl rfl rfl (by (repeat (first | exact zin | apply zic rfl))) rfl rfl rfl rfl (fun b106 => ?_))
     refine yac hb15 ?_; clear hb15; intro l108 hl108 hb15
     refine yay rfl rfl rfl (pl_app_o (enc := TAgreement.enc) rfl rfl rfl rfl rfl rfl rfl rfl rfl (by (repeat (first | exact List.Mem.head _ | apply List.Mem.tail))) (by (repeat (first | exact zph | apply zpt))) hl108 (fun a109 c110 => ?_))
     refine yas [] [] [(4, pO a109 l108.length c110)] fo0 (by kernel_rfl) ?_
     refine yae ?_
     (repeat (first | apply yae | apply yab))
     refine yad [] [23, 24] [(5, pI (IntKind.i64.wrap (v8 + 1)))] fo0 (by kernel_rfl) ?_
     (repeat apply yae)
     exact pk_loop hb15 (a109, c110) (by (repeat (first | exact zhn | apply zhc rfl))) (by (repeat (first | exact zsn | (apply zsc; (focus (repeat (first | exact zph | apply zpt)))))))
  ·replace hb15 := yaq hc18 hb15
   refine pwc_exit ?_
   (repeat (first | apply yav | apply pk_mid_exit | apply pk_cut_exit | apply pk_block_ne rfl))
   refine yar hb15 (fun ht => ?_)
   refine yau rfl ?_
   exact pk_mid ((a6, c7), l5) (by (repeat (first | exact zhn | apply zhc rfl))) (by (repeat (first | exact zsn | (apply zsc; (focus (repeat (first | exact zph | apply zpt))))))) ht.symm
 ·rintro ⟨⟨a12, c13⟩, l14⟩ τ hz; (try dsimp only at hz); subst q16; (try dsimp only at h); dsimp only [pupds]
  refine yaa ?_
  refine yad [] [96] [(2, pO a12 l14.length c13)] fo0 (by kernel_rfl) ?_
  (repeat (first | apply yae | apply yab))
  refine yak ?_
  (repeat (first | apply yai | apply yag | apply yax | apply pk_cut_ret))
  obtain rfl := Option.some.inj h
  exact yal (ybc (yao rfl)) (by (repeat (first | exact zsn | (apply zsc; (focus (repeat (first | exact zph | apply zpt))))))) ⟨_, _, rfl, rfl⟩
def made_Source_Code (p0 : Tmade_Source) (p1 : Int) : Option (ByteArray × Tmade_Source) := Option.bind (made_Source_Next p0 2) (fun x1 => Option.bind (loopF (S := (List Int) × (List Int) × Int) (T := ((List Int) × (List Int) × Int)) (fun (l5, l8, v9) => cond (decide (((l5.length : Nat) : Int) < p1)) (Option.bind (made_Source_Next (⟨l8, v9⟩ : Tmade_Source) 3) (fun x19 => Option.bind (app 1 l5 [48, (IntKind.u8.wrap (IntKind.i64.wrap (49 + x19.1)))]) (fun l22 => some (.inl (l22, x19.2.L, x19.2.I))))) (some (.inr (l5, l8, v9)))) FUEL ([57, (IntKind.u8.wrap (IntKind.i64.wrap (52 + x1.1)))], x1.2.L, x1.2.I)) (fun (l13, l14, v15) => some ((strOfNums l13), (⟨l14, v15⟩ : Tmade_Source))))
set_option maxHeartbeats 4000000 in
theorem made_Source_Code_ok {p0 : Tmade_Source} {p1 : Int} {b0 : Nat} {r : (ByteArray × Tmade_Source)}  (h : made_Source_Code p0 p1 = some r) : PCall 52 [pP b0 0, pI p1] [PRes.b b0 87 [pL eI p0.L, pI p0.I]] (fun pv ρ' => pv = pS r.1 ∧ ρ' = [PRes.b b0 87 [pL eI r.2.L, pI r.2.I]]) := by
 unfold made_Source_Code at h
 refine penter Tryz.func52 fk52 rfl Tryz.ntmps52 Tryz.results52 rfl ?_
 refine yaa ?_
 refine yad [] [4] [] fo0 (by kernel_rfl) ?_
 (repeat (first | apply yae | apply yab))
 refine yaa ?_
 refine yac h ?_; clear h; intro x1 hx1 h
 refine yaf ?_
 refine yam 1 [] [] [(6, pP b0 0)] fo0 (by kernel_rfl) ?_
 refine yay rfl rfl rfl (pl_callR rfl rfl (ρ1 := [_]) (ybb (by (repeat (first | exact zph | apply zpt))) (List.Perm.refl _)) (yat hx1) ?_); rintro _ _ ⟨rfl, rfl⟩
 refine yam 2 [] [8] [(9, pY (IntKind.u8.wrap (IntKind.i64.wrap (52 + x1.1))))] fo0 (by kernel_rfl) ?_
 refine yay rfl rfl rfl (pl_lit rfl rfl rfl rfl rfl (by (repeat (first | exact zin | apply zic rfl))) rfl rfl rfl rfl (fun b2 => ?_))
 refine yas [] [] [(5, pO (some ⟨b2, 0, none⟩) 2 2)] fo0 (by kernel_rfl) ?_
 (repeat (first | apply yae | apply yab))
 refine yaa ?_
 refine yac h ?_; clear h; intro q17 hq17 h
 refine yaz (Y := (Option Addr × Nat) × ((List Int) × (List Int) × Int)) (fun ((a11, c12), (l13, l14, v15)) => [(5, pO a11 l13.length c12)]) (fun ((a11, c12), (l13, l14, v15)) => [PRes.b b0 87 [pL eI l14, pI v15], PRes.row a11 l13.length c12 5 1 (List.map eB l13)]) (fun ((a11, c12), (l13, l14, v15)) => q17 = (l13, l14, v15)) ?_ ?_
 ·refine yan ?_
  refine ybd (Y := Option Addr × Nat) (S := (List Int) × (List Int) × Int) _ hq17 (fun (a6, c7) (l5, l8, v9) => [(0, pP b0 0), (1, pI p1), (5, pO a6 l5.length c7)]) (fun (a6, c7) (l5, l8, v9) => [PRes.b b0 87 [pL eI l8, pI v9], PRes.row a6 l5.length c7 5 1 (List.map eB l5)]) ((some ⟨b2, 0, none⟩), 2) (by (repeat (first | exact zhn | apply zhc rfl))) (by (repeat (first | exact zsn | (apply zsc; (focus (repeat (first | exact zph | apply zpt))))))) ?_
  rintro ⟨a6, c7⟩ ⟨l5, l8, v9⟩ o τ hb16; (try dsimp only at hb16); dsimp only [pupds]
  refine yaa (yaa ?_)
  refine yad [] [11, 12, 13] [(14, pB (decide (((l5.length : Nat) : Int) < p1)))] fo0 (by kernel_rfl) ?_
  (repeat (first | apply yae | apply yab))
  refine yah rfl (fun hc18 => ?_) (fun hc18 => ?_)
  ·replace hb16 := yap hc18 hb16
   refine yaj ?_
   (repeat (first | apply yae | apply yab))
   refine yan ?_
   refine yac hb16 ?_; clear hb16; intro x19 hx19 hb16
   refine yaf ?_
   refine yam 2 [] [] [(15, pO a6 l5.length c7), (16, pP b0 0)] fo0 (by kernel_rfl) ?_
   refine yay rfl rfl rfl (pl_callR rfl rfl (ρ1 := [_]) (ybb (by (repeat (first | exact zph | apply zpt))) (List.Perm.refl _)) (yat hx19) ?_); rintro _ _ ⟨rfl, rfl⟩
   refine yam 2 [] [18] [(19, pY (IntKind.u8.wrap (IntKind.i64.wrap (49 + x19.1))))] fo0 (by kernel_rfl) ?_
   refine yay rfl rfl rfl (pl_lit rfl rfl rfl rfl rfl (by (repeat (first | exact zin | apply zic rfl))) rfl rfl rfl rfl (fun b20 => ?_))
   refine yac hb16 ?_; clear hb16; intro l22 hl22 hb16
   refine yay rfl rfl rfl (pl_app_o (enc := eB) rfl rfl rfl rfl rfl rfl rfl rfl rfl (by (repeat (first | exact List.Mem.head _ | apply List.Mem.tail))) (by (repeat (first | exact zph | apply zpt))) hl22 (fun a23 c24 => ?_))
   refine yas [] [] [(5, pO a23 l22.length c24)] fo0 (by kernel_rfl) ?_
   refine yae ?_
   (repeat apply yae)
   exact pk_loop hb16 (a23, c24) (by (repeat (first | exact zhn | apply zhc rfl))) (by (repeat (first | exact zsn | (apply zsc; (focus (repeat (first | exact zph | apply zpt)))))))
  ·replace hb16 := yaq hc18 hb16
   refine pwc_exit ?_
   (repeat (first | apply yav | apply pk_mid_exit | apply pk_cut_exit | apply pk_block_ne rfl))
   refine yar hb16 (fun ht => ?_)
   refine yau rfl ?_
   exact pk_mid ((a6, c7), (l5, l8, v9)) (by (repeat (first | exact zhn | apply zhc rfl))) (by (repeat (first | exact zsn | (apply zsc; (focus (repeat (first | exact zph | apply zpt))))))) ht.symm
 ·rintro ⟨⟨a11, c12⟩, ⟨l13, l14, v15⟩⟩ τ hz; (try dsimp only at hz); subst q17; (try dsimp only at h); dsimp only [pupds]
  refine yaa (yaf ?_)
  refine yam 1 [] [] [(22, pO a11 l13.length c12)] fo0 (by kernel_rfl) ?_
  refine yay rfl rfl rfl (pq_bytes rfl rfl rfl rfl rfl (xs := l13) (by (repeat (first | exact List.Mem.head _ | apply List.Mem.tail))) rfl ?_)
  refine yas [] [] [(4, pS (strOfNums l13))] fo0 (by kernel_rfl) ?_
  (repeat (first | apply yae | apply yab))
  refine yak ?_
  (repeat (first | apply yai | apply yag | apply yax | apply pk_cut_ret))
  obtain rfl := Option.some.inj h
  exact yal (ybc (yao rfl)) (by (repeat (first | exact zsn | (apply zsc; (focus (repeat (first | exact zph | apply zpt))))))) ⟨rfl, rfl⟩
def made_Source_processes (p0 : Tmade_Source) : Option ((List ByteArray) × Tmade_Source) := Option.bind (made_Source_Next p0 32) (fun x1 => Option.bind (loopF (S := (List ByteArray) × Int) (T := ((List ByteArray))) (fun (l3, v6) => cond (decide (v6 < 5)) (Option.bind (Option.bind (ge0 v6) (fun u20 => cond ((iand .i64 (ishr .i64 x1.1 v6) 1) == 1) (Option.bind (idx [(⟨#[97, 110, 100]⟩ : ByteArray), (⟨#[99, 117, 116]⟩ : ByteArray), (⟨#[111, 114]⟩ : ByteArray), (⟨#[115, 101, 119]⟩ : ByteArray), (⟨#[115, 112, 105, 110]⟩ : ByteArray)] v6) (fun m24 => Option.bind (app 16 l3 [m24]) (fun l27 => some l27))) (some l3))) (fun l18 => some (.inl (l18, (IntKind.i64.wrap (v6 + 1)))))) (some (.inr l3))) FUEL (([] : List ByteArray), 0)) (fun l10 => some (l10, x1.2)))
set_option maxHeartbeats 4000000 in
theorem made_Source_processes_ok {p0 : Tmade_Source} {b0 : Nat} {r : ((List ByteArray) × Tmade_Source)}  (h : made_Source_processes p0 = some r) : PCall 53 [pP b0 0] [PRes.b b0 87 [pL eI p0.L, pI p0.I]] (fun pv ρ' => pv = pL eS r.1 ∧ ρ' = [PRes.b b0 87 [pL eI r.2.L, pI r.2.I]]) := by
 unfold made_Source_processes at h
 refine penter Tryz.func53 fk53 rfl Tryz.ntmps53 Tryz.results53 rfl ?_
 refine yaa ?_
 refine yad [] [2] [] fo0 (by kernel_rfl) ?_
 (repeat (first | apply yae | apply yab))
 refine yaa ?_
 refine yad [] [] [(3, pN)] fo0 (by kernel_rfl) ?_
 (repeat (first | apply yae | apply yab))
 refine yaa ?_
 refine yac h ?_; clear h; intro x1 hx1 h
 refine yaf ?_
 refine yam 1 [] [] [(6, pP b0 0)] fo0 (by kernel_rfl) ?_
 refine yay rfl rfl rfl (pl_callR rfl rfl (ρ1 := [_]) (ybb (by (repeat (first | exact zph | apply zpt))) (List.Perm.refl _)) (yat hx1) ?_); rintro _ _ ⟨rfl, rfl⟩
 refine yas [] [] [(4, pI x1.1)] fo0 (by kernel_rfl) ?_
 (repeat (first | apply yae | apply yab))
 refine yaa (yaa ?_)
 refine yad [] [] [(5, pI 0)] fo0 (by kernel_rfl) ?_
 (repeat (first | apply yae | apply yab))
 refine pwc_nilrow 9 1 ?_
 refine yac h ?_; clear h; intro q12 hq12 h
 refine yaz (Y := (Option Addr × Nat) × ((List ByteArray))) (fun ((a8, c9), l10) => [(3, pO a8 l10.length c9)]) (fun ((a8, c9), l10) => [PRes.b b0 87 [pL eI x1.2.L, pI x1.2.I], PRes.row a8 l10.length c9 9 1 (List.map eS l10)]) (fun ((a8, c9), l10) => q12 = l10) ?_ ?_
 ·refine yan ?_
  refine ybd (Y := Option Addr × Nat) (S := (List ByteArray) × Int) _ hq12 (fun (a4, c5) (l3, v6) => [(3, pO a4 l3.length c5), (4, pI x1.1), (5, pI v6)]) (fun (a4, c5) (l3, v6) => [PRes.b b0 87 [pL eI x1.2.L, pI x1.2.I], PRes.row a4 l3.length c5 9 1 (List.map eS l3)]) (none, 0) (by (repeat (first | exact zhn | apply zhc rfl))) (by (repeat (first | exact zsn | (apply zsc; (focus (repeat (first | exact zph | apply zpt))))))) ?_
  rintro ⟨a4, c5⟩ ⟨l3, v6⟩ o τ hb11; (try dsimp only at hb11); dsimp only [pupds]
  refine yaa (yaa ?_)
  refine yad [] [8] [(9, pB (decide (v6 < 5)))] fo0 (by kernel_rfl) ?_
  (repeat (first | apply yae | apply yab))
  refine yah rfl (fun hc14 => ?_) (fun hc14 => ?_)
  ·replace hb11 := yap hc14 hb11
   refine yaj ?_
   (repeat (first | apply yae | apply yab))
   refine yaa ?_
   refine yac hb11 ?_; clear hb11; intro q19 hq19 hb11
   refine yaz (Y := (Option Addr × Nat) × ((List ByteArray))) (fun ((a16, c17), l18) => [(3, pO a16 l18.length c17), (4, pI x1.1), (5, pI v6)]) (fun ((a16, c17), l18) => [PRes.b b0 87 [pL eI x1.2.L, pI x1.2.I], PRes.row a16 l18.length c17 9 1 (List.map eS l18)]) (fun ((a16, c17), l18) => q19 = l18) ?_ ?_
   ·skip
    refine yan (yaa ?_)
    refine yac hq19 ?_; clear hq19; intro u20 hu20 hq19
    refine yad [] [12, 13, 14, 15] [(16, pB ((iand .i64 (ishr .i64 x1.1 v6) 1) == 1))] (foge 2 hu20 fo0) (by kernel_rfl) ?_
    (repeat (first | apply yae | apply yab))
    refine yah rfl (fun hc21 => ?_) (fun hc21 => ?_)
    ·replace hq19 := yap hc21 hq19
     refine yaf ?_
     refine yam 1 [] [] [(17, pO a4 l3.length c5)] fo0 (by kernel_rfl) ?_
     refine yay rfl rfl rfl (pl_lit rfl rfl rfl rfl rfl (by (repeat (first | exact zin | apply zic rfl))) rfl rfl rfl rfl (fun b22 => ?_))
     refine yac hq19 ?_; clear hq19; intro m24 hm24 hq19
     refine yam 1 [] [] [(19, pI v6)] fo0 (by kernel_rfl) ?_
     refine pwl_q rfl rfl rfl (pq_indexO (enc := eS) (xs := [(⟨#[97, 110, 100]⟩ : ByteArray), (⟨#[99, 117, 116]⟩ : ByteArray), (⟨#[111, 114]⟩ : ByteArray), (⟨#[115, 101, 119]⟩ : ByteArray), (⟨#[115, 112, 105, 110]⟩ : ByteArray)]) rfl rfl rfl (.p rfl) (by (repeat (first | exact List.Mem.head _ | apply List.Mem.tail))) (.p rfl) (fun _ => hm24)) ?_
     refine pwl_q rfl rfl rfl (pq_load_o (p := pS m24) (enc := eS) (xs := [(⟨#[97, 110, 100]⟩ : ByteArray), (⟨#[99, 117, 116]⟩ : ByteArray), (⟨#[111, 114]⟩ : ByteArray), (⟨#[115, 101, 119]⟩ : ByteArray), (⟨#[115, 112, 105, 110]⟩ : ByteArray)]) (a := (some ⟨b22, 0, none⟩)) v6 0 m24 rfl (.p rfl) rfl (by (repeat (first | exact List.Mem.head _ | apply List.Mem.tail))) (fun _ => hm24) rfl) ?_
     refine yay rfl rfl rfl (pl_lit rfl rfl rfl rfl rfl (by (repeat (first | exact zin | apply zic rfl))) rfl rfl rfl rfl (fun b25 => ?_))
     refine yac hq19 ?_; clear hq19; intro l27 hl27 hq19
     refine yay rfl rfl rfl (pl_app_o (enc := eS) rfl rfl rfl rfl rfl rfl rfl rfl rfl (by (repeat (first | exact List.Mem.head _ | apply List.Mem.tail))) (by (repeat (first | exact zph | apply zpt))) hl27 (fun a28 c29 => ?_))
     refine yas [] [] [(3, pO a28 l27.length c29)] fo0 (by kernel_rfl) ?_
     refine yae ?_
     obtain rfl := Option.some.inj hq19
     exact pk_mid ((a28, c29), l27) (by (repeat (first | exact zhn | apply zhc rfl))) (by (repeat (first | exact zsn | (apply zsc; (focus (repeat (first | exact zph | apply zpt))))))) rfl
    ·replace hq19 := yaq hc21 hq19
     refine yaj (yae ?_)
     obtain rfl := Option.some.inj hq19
     exact pk_mid ((a4, c5), l3) (by (repeat (first | exact zhn | apply zhc rfl))) (by (repeat (first | exact zsn | (apply zsc; (focus (repeat (first | exact zph | apply zpt))))))) rfl
   ·rintro ⟨⟨a16, c17⟩, l18⟩ τ hz; (try dsimp only at hz); subst q19; (try dsimp only at hb11); dsimp only [pupds]
    refine yad [] [10, 11] [(5, pI (IntKind.i64.wrap (v6 + 1)))] fo0 (by kernel_rfl) ?_
    (repeat apply yae)
    exact pk_loop hb11 (a16, c17) (by (repeat (first | exact zhn | apply zhc rfl))) (by (repeat (first | exact zsn | (apply zsc; (focus (repeat (first | exact zph | apply zpt)))))))
  ·replace hb11 := yaq hc14 hb11
   refine pwc_exit ?_
   (repeat (first | apply yav | apply pk_mid_exit | apply pk_cut_exit | apply pk_block_ne rfl))
   refine yar hb11 (fun ht => ?_)
   refine yau rfl ?_
   exact pk_mid ((a4, c5), l3) (by (repeat (first | exact zhn | apply zhc rfl))) (by (repeat (first | exact zsn | (apply zsc; (focus (repeat (first | exact zph | apply zpt))))))) ht.symm
 ·rintro ⟨⟨a8, c9⟩, l10⟩ τ hz; (try dsimp only at hz); subst q12; (try dsimp only at h); dsimp only [pupds]
  refine yaa ?_
  refine yad [] [24] [(2, pO a8 l10.length c9)] fo0 (by kernel_rfl) ?_
  (repeat (first | apply yae | apply yab))
  refine pwc_frzt (enc := eS) (xs := l10) 2 rfl (by (repeat (first | exact zph | apply zpt))) ?_
  refine yak ?_
  (repeat (first | apply yai | apply yag | apply yax | apply pk_cut_ret))
  obtain rfl := Option.some.inj h
  exact yal (ybc (yao rfl)) (by (repeat (first | exact zsn | (apply zsc; (focus (repeat (first | exact zph | apply zpt))))))) ⟨rfl, rfl⟩
def made_Plan (p0 : (List Int)) : Option (List TProduct) := Option.bind (made_Cut p0 300) (fun x1 => Option.bind (made_Source_Next (⟨x1, 0⟩ : Tmade_Source) 10) (fun x3 => Option.bind (loopF (S := (List TProduct) × Int × (List Int) × Int) (T := ((List TProduct))) (fun (l5, v8, l9, v10) => cond (decide (v8 ≤ (IntKind.i64.wrap (1 + x3.1)))) (Option.bind (made_Source_Next (⟨l9, v10⟩ : Tmade_Source) 2) (fun x19 => Option.bind (made_Source_Code x19.2 (IntKind.i64.wrap (6 + (IntKind.i64.wrap (2 * x19.1))))) (fun x20 => Option.bind (made_Countries) (fun x21 => Option.bind (made_Source_Next x20.2 4) (fun x22 => Option.bind (idx x21 x22.1) (fun m23 => Option.bind (made_Source_Next x22.2 200) (fun x24 => Option.bind (made_Source_processes x24.2) (fun x25 => Option.bind (made_Source_Next x25.2 4) (fun x26 => Option.bind (made_Source_Next x26.2 1024) (fun x28 => Option.bind (loopF (S := Int × (List Int) × Int × (List TIngredient)) (T := ((List Int) × Int × (List TIngredient))) (fun (v29, l30, v31, l33) => cond (((decide (v29 ≤ (IntKind.i64.wrap (1 + x3.1)))) && (decide (((l33.length : Nat) : Int) < 4))) && (!(x26.1 == 1))) (Option.bind (Option.bind (ge0 (IntKind.i64.wrap (v29 - 1))) (fun u55 => Option.bind (gdp (((iand .i64 (ishr .i64 x28.1 (IntKind.i64.wrap (v29 - 1))) 1) == 1) && (!(decide (v29 < v8)))) (made_Source_Next (⟨l30, v31⟩ : Tmade_Source) 3) (⟨l30, v31⟩ : Tmade_Source)) (fun x56 => cond (((iand .i64 (ishr .i64 x28.1 (IntKind.i64.wrap (v29 - 1))) 1) == 1) && ((decide (v29 < v8)) || (x56.1 == 1))) (Option.bind (made_Source_Next x56.2 100) (fun x58 => Option.bind (app 16 l33 [(⟨(IntKind.i64.wrap (3 * v29)), x58.1⟩ : TIngredient)]) (fun l61 => some (x58.2.L, x58.2.I, l61)))) (some (x56.2.L, x56.2.I, l33))))) (fun (l48, v49, l53) => some (.inl ((IntKind.i64.wrap (v29 + 1)), l48, v49, l53)))) (some (.inr (l30, v31, l33)))) FUEL (1, x28.2.L, x28.2.I, ([] : List TIngredient))) (fun (l37, v38, l42) => Option.bind (app 104 l5 [(⟨(IntKind.i64.wrap (3 * v8)), x20.1, m23, (IntKind.i64.wrap (1 + x24.1)), (x26.1 == 1), x25.1, l42⟩ : TProduct)]) (fun l68 => some (.inl (l68, (IntKind.i64.wrap (v8 + 1)), l37, v38)))))))))))))) (some (.inr l5))) FUEL (([] : List TProduct), 1, x3.2.L, x3.2.I)) (fun l14 => some l14)))
set_option maxHeartbeats 4000000 in
theorem made_Plan_ok {p0 : (List Int)} {r : (List TProduct)}  (h : made_Plan p0 = some r) : PCall 21 [pL eI p0] [] (fun pv ρ' => ∃ a c, pv = .v (.slice a r.length c) ∧ ρ' = [PRes.row a r.length c 92 7 (List.map TProduct.enc r)]) := by
 unfold made_Plan at h
 refine penter Tryz.func21 fk21 rfl Tryz.ntmps21 Tryz.results21 rfl ?_
 refine yaa ?_
 refine yad [] [2] [] fo0 (by kernel_rfl) ?_
 (repeat (first | apply yae | apply yab))
 refine yaa ?_
 refine yac h ?_; clear h; intro x1 hx1 h
 refine yaf ?_
 refine yam 3 [] [10, 11] [(12, .agg [pL eI x1, pI 0])] (focl 1 (made_Cut_ok hx1) fo0) (by kernel_rfl) ?_
 refine yay rfl rfl rfl (pl_box (cs := [pL eI x1, pI 0]) rfl rfl (fun b2 => ?_))
 refine yas [] [] [(3, pP b2 0)] fo0 (by kernel_rfl) ?_
 (repeat (first | apply yae | apply yab))
 refine yaa ?_
 refine yac h ?_; clear h; intro x3 hx3 h
 refine yaf ?_
 refine yam 1 [] [] [(14, pP b2 0)] fo0 (by kernel_rfl) ?_
 refine yay rfl rfl rfl (pl_callR rfl rfl (ρ1 := [_]) (ybb (by (repeat (first | exact zph | apply zpt))) (List.Perm.refl _)) (yat hx3) ?_); rintro _ _ ⟨rfl, rfl⟩
 refine yas [] [16] [(4, pI (IntKind.i64.wrap (1 + x3.1)))] fo0 (by kernel_rfl) ?_
 (repeat (first | apply yae | apply yab))
 refine yaa ?_
 refine yad [] [] [(5, pN)] fo0 (by kernel_rfl) ?_
 (repeat (first | apply yae | apply yab))
 refine yaa (yaa ?_)
 refine yad [] [] [(6, pI 1)] fo0 (by kernel_rfl) ?_
 (repeat (first | apply yae | apply yab))
 refine pwc_nilrow 92 7 ?_
 refine yac h ?_; clear h; intro q16 hq16 h
 refine yaz (Y := (Option Addr × Nat) × ((List TProduct))) (fun ((a12, c13), l14) => [(5, pO a12 l14.length c13)]) (fun ((a12, c13), l14) => [PRes.row a12 l14.length c13 92 7 (List.map TProduct.enc l14)]) (fun ((a12, c13), l14) => q16 = l14) ?_ ?_
 ·refine yan ?_
  refine ybd (Y := Option Addr × Nat) (S := (List TProduct) × Int × (List Int) × Int) _ hq16 (fun (a6, c7) (l5, v8, l9, v10) => [(3, pP b2 0), (4, pI (IntKind.i64.wrap (1 + x3.1))), (5, pO a6 l5.length c7), (6, pI v8)]) (fun (a6, c7) (l5, v8, l9, v10) => [PRes.b b2 87 [pL eI l9, pI v10], PRes.row a6 l5.length c7 92 7 (List.map TProduct.enc l5)]) (none, 0) (by (repeat (first | exact zhn | apply zhc rfl))) (by (repeat (first | exact zsn | (apply zsc; (focus (repeat (first | exact zph | apply zpt))))))) ?_
  rintro ⟨a6, c7⟩ ⟨l5, v8, l9, v10⟩ o τ hb15; (try dsimp only at hb15); dsimp only [pupds]
  refine yaa (yaa ?_)
  refine yad [] [17, 18] [(19, pB (decide (v8 ≤ (IntKind.i64.wrap (1 + x3.1)))))] fo0 (by kernel_rfl) ?_
  (repeat (first | apply yae | apply yab))
  refine yah rfl (fun hc18 => ?_) (fun hc18 => ?_)
  ·replace hb15 := yap hc18 hb15
   refine yaj ?_
   (repeat (first | apply yae | apply yab))
   refine yaa (yan (yaa ?_))
   refine pwc_draw (ρd := [PRes.b b2 _ _]) [(0, 0), (1, 0), (2, 0), (3, 0), (9, 0), (13, 0), (16, 0), (18, 0), (4, 1), (5, 0), (6, 0), (7, 1), (8, 1), (10, 1), (11, 0), (12, 0), (14, 1), (15, 0), (17, 1), (19, 1), (20, 0), (21, 0), (22, 2), (23, 1)] _ (by (repeat (first | exact List.Perm.refl _ | (refine ybb (by (repeat (first | exact zph | apply zpt))) ?_)))) (by kernel_rfl) rfl ?_
   refine yac hb15 ?_; clear hb15; intro x19 hx19 hb15
   refine pwd_run 8 [] [22] [(23, pI (IntKind.i64.wrap (3 * v8))), (24, pP b2 0), (25, pP b2 0), (31, pP b2 0), (35, pP b2 0), (38, pP b2 0), (40, pP b2 0)] fo0 (by kernel_rfl) ?_
   refine pwd_l rfl rfl rfl (pl_callR rfl rfl (ρ1 := [_]) (ybb (by (repeat (first | exact zph | apply zpt))) (List.Perm.refl _)) (yat hx19) ?_); rintro _ _ ⟨rfl, rfl⟩
   refine yac hb15 ?_; clear hb15; intro x20 hx20 hb15
   refine pwd_run 2 [] [27] [(28, pI (IntKind.i64.wrap (6 + (IntKind.i64.wrap (2 * x19.1)))))] fo0 (by kernel_rfl) ?_
   refine pwd_l rfl rfl rfl (pl_callR rfl rfl (ρ1 := [_]) (ybb (by (repeat (first | exact zph | apply zpt))) (List.Perm.refl _)) (made_Source_Code_ok hx20) ?_); rintro _ _ ⟨rfl, rfl⟩
   refine yac hb15 ?_; clear hb15; intro x21 hx21 hb15
   refine yac hb15 ?_; clear hb15; intro x22 hx22 hb15
   refine pwd_run 1 [] [] [(30, pL eS x21)] (focl 0 (made_Countries_ok hx21) fo0) (by kernel_rfl) ?_
   refine pwd_l rfl rfl rfl (pl_callR rfl rfl (ρ1 := [_]) (ybb (by (repeat (first | exact zph | apply zpt))) (List.Perm.refl _)) (yat hx22) ?_); rintro _ _ ⟨rfl, rfl⟩
   refine yac hb15 ?_; clear hb15; intro m23 hm23 hb15
   refine yac hb15 ?_; clear hb15; intro x24 hx24 hb15
   refine pwd_run 2 [] [33] [(34, pS m23)] (foix 0 eS hm23 fo0) (by kernel_rfl) ?_
   refine pwd_l rfl rfl rfl (pl_callR rfl rfl (ρ1 := [_]) (ybb (by (repeat (first | exact zph | apply zpt))) (List.Perm.refl _)) (yat hx24) ?_); rintro _ _ ⟨rfl, rfl⟩
   refine yac hb15 ?_; clear hb15; intro x25 hx25 hb15
   refine pwd_run 1 [] [] [(37, pI (IntKind.i64.wrap (1 + x24.1)))] fo0 (by kernel_rfl) ?_
   refine pwd_l rfl rfl rfl (pl_callR rfl rfl (ρ1 := [_]) (ybb (by (repeat (first | exact zph | apply zpt))) (List.Perm.refl _)) (made_Source_processes_ok hx25) ?_); rintro _ _ ⟨rfl, rfl⟩
   refine yac hb15 ?_; clear hb15; intro x26 hx26 hb15
   refine pwd_l rfl rfl rfl (pl_callR rfl rfl (ρ1 := [_]) (ybb (by (repeat (first | exact zph | apply zpt))) (List.Perm.refl _)) (yat hx26) ?_); rintro _ _ ⟨rfl, rfl⟩
   refine pwd_run 2 [] [42] [(43, .agg [pI (IntKind.i64.wrap (3 * v8)), pS x20.1, pS m23, pI (IntKind.i64.wrap (1 + x24.1)), pB (x26.1 == 1), pL eS x25.1, pN])] fo0 (by kernel_rfl) ?_
   refine pwd_late (plate_alloc rfl rfl rfl rfl rfl) (fun _ => rfl) rfl (fun b27 => ?_)
   refine pwd_l0 rfl rfl (yaw (vs := [pI (IntKind.i64.wrap (3 * v8)), pS x20.1, pS m23, pI (IntKind.i64.wrap (1 + x24.1)), pB (x26.1 == 1), pL eS x25.1, pN]) rfl rfl rfl rfl rfl (by (repeat (first | exact zuh | apply zut))) (by (repeat (first | exact zln | apply zlc | apply zlt))) ?_)
   refine pwd_nil ?_
   (repeat (first | apply yae | apply yab))
   refine yaa ?_
   refine yac hb15 ?_; clear hb15; intro x28 hx28 hb15
   refine yaf ?_
   refine yam 1 [] [] [(44, pP b2 0)] fo0 (by kernel_rfl) ?_
   refine yay rfl rfl rfl (pl_callR rfl rfl (ρ1 := [_]) (ybb (by (repeat (first | exact zph | apply zpt))) (List.Perm.refl _)) (yat hx28) ?_); rintro _ _ ⟨rfl, rfl⟩
   refine yas [] [] [(8, pI x28.1)] fo0 (by kernel_rfl) ?_
   (repeat (first | apply yae | apply yab))
   refine yaa (yaa ?_)
   refine yad [] [] [(9, pI 1)] fo0 (by kernel_rfl) ?_
   (repeat (first | apply yae | apply yab))
   refine pwc_nilrow 94 2 ?_
   refine yac hb15 ?_; clear hb15; intro q44 hq44 hb15
   refine yaz (Y := (Option Addr × Nat) × ((List Int) × Int × (List TIngredient))) (fun ((a40, c41), (l37, v38, l42)) => [(3, pP b2 0), (4, pI (IntKind.i64.wrap (1 + x3.1))), (5, pO a6 l5.length c7), (6, pI v8), (7, pP b27 0)]) (fun ((a40, c41), (l37, v38, l42)) => [PRes.b b2 87 [pL eI l37, pI v38], PRes.b b27 92 [pI (IntKind.i64.wrap (3 * v8)), pS x20.1, pS m23, pI (IntKind.i64.wrap (1 + x24.1)), pB (x26.1 == 1), pL eS x25.1, pO a40 l42.length c41], PRes.row a6 l5.length c7 92 7 (List.map TProduct.enc l5), PRes.row a40 l42.length c41 94 2 (List.map TIngredient.enc l42)]) (fun ((a40, c41), (l37, v38, l42)) => q44 = (l37, v38, l42)) ?_ ?_
   ·refine yan ?_
    refine ybd (Y := Option Addr × Nat) (S := Int × (List Int) × Int × (List TIngredient)) _ hq44 (fun (a34, c35) (v29, l30, v31, l33) => [(3, pP b2 0), (4, pI (IntKind.i64.wrap (1 + x3.1))), (5, pO a6 l5.length c7), (6, pI v8), (7, pP b27 0), (8, pI x28.1), (9, pI v29)]) (fun (a34, c35) (v29, l30, v31, l33) => [PRes.b b2 87 [pL eI l30, pI v31], PRes.b b27 92 [pI (IntKind.i64.wrap (3 * v8)), pS x20.1, pS m23, pI (IntKind.i64.wrap (1 + x24.1)), pB (x26.1 == 1), pL eS x25.1, pO a34 l33.length c35], PRes.row a34 l33.length c35 94 2 (List.map TIngredient.enc l33), PRes.row a6 l5.length c7 92 7 (List.map TProduct.enc l5)]) (none, 0) (by (repeat (first | exact zhn | apply zhc rfl))) (by (repeat (first | exact zsn | (apply zsc; (focus (repeat (first | exact zph | apply zpt))))))) ?_
    rintro ⟨a34, c35⟩ ⟨v29, l30, v31, l33⟩ o τ hb43; (try dsimp only at hb43); dsimp only [pupds]
    refine yaa (yaa ?_)
    refine yad [1, 1] [46, 47, 48, 49, 50, 51, 52, 53, 54, 55, 56, 57, 58] [(59, pB (((decide (v29 ≤ (IntKind.i64.wrap (1 + x3.1)))) && (decide (((l33.length : Nat) : Int) < 4))) && (!(x26.1 == 1))))] fo0 (by kernel_rfl) ?_
    (repeat (first | apply yae | apply yab))
    refine yah rfl (fun hc46 => ?_) (fun hc46 => ?_)
    ·replace hb43 := yap hc46 hb43
     refine yaj ?_
     (repeat (first | apply yae | apply yab))
     refine yaa ?_
     refine yac hb43 ?_; clear hb43; intro q54 hq54 hb43
     refine yaz (Y := (Option Addr × Nat) × ((List Int) × Int × (List TIngredient))) (fun ((a51, c52), (l48, v49, l53)) => [(3, pP b2 0), (4, pI (IntKind.i64.wrap (1 + x3.1))), (5, pO a6 l5.length c7), (6, pI v8), (7, pP b27 0), (8, pI x28.1), (9, pI v29)]) (fun ((a51, c52), (l48, v49, l53)) => [PRes.b b2 87 [pL eI l48, pI v49], PRes.b b27 92 [pI (IntKind.i64.wrap (3 * v8)), pS x20.1, pS m23, pI (IntKind.i64.wrap (1 + x24.1)), pB (x26.1 == 1), pL eS x25.1, pO a51 l53.length c52], PRes.row a6 l5.length c7 92 7 (List.map TProduct.enc l5), PRes.row a51 l53.length c52 94 2 (List.map TIngredient.enc l53)]) (fun ((a51, c52), (l48, v49, l53)) => q54 = (l48, v49, l53)) ?_ ?_
     ·skip
      refine yan (yaa ?_)
      refine yac hq54 ?_; clear hq54; intro u55 hu55 hq54
      refine yac hq54 ?_; clear hq54; intro x56 hx56 hq54
      refine yaf ?_
      refine yam 12 [] [62, 63, 64, 65, 66, 67, 69, 70, 71] [(68, pB ((iand .i64 (ishr .i64 x28.1 (IntKind.i64.wrap (v29 - 1))) 1) == 1)), (72, pgv ((iand .i64 (ishr .i64 x28.1 (IntKind.i64.wrap (v29 - 1))) 1) == 1) (pB (decide (v29 < v8)))), (73, pgv (((iand .i64 (ishr .i64 x28.1 (IntKind.i64.wrap (v29 - 1))) 1) == 1) && (!(decide (v29 < v8)))) (pP b2 0))] (foge 3 hu55 fo0) (by kernel_rfl) ?_
      refine pwl_callRg (pguard_gf rfl rfl rfl) rfl rfl rfl (by (repeat (first | exact zph | apply zpt))) (pargs_cons (.g rfl) (pargs_cons (.p rfl) (pargs_nil))) (fun hc => yat (gdp_t hx56 hc)) (fun hc => by rw [gdp_f hx56 hc]) ?_
      refine pwl_qg (pguard_gf rfl rfl rfl) rfl rfl (pq_cmp rfl (.g rfl) (.p rfl) rfl) ?_
      refine pwl_qg (pguard_t rfl rfl rfl) rfl rfl (pq_or rfl (.g rfl) (.p rfl) (.g rfl)) ?_
      refine pwl_q rfl rfl rfl (pq_and rfl (.p rfl) (.p rfl) (.g rfl)) ?_
      refine yba ?_
      (repeat (first | apply yae | apply yab))
      refine yah rfl (fun hc57 => ?_) (fun hc57 => ?_)
      ·replace hq54 := yap hc57 hq54
       refine yac hq54 ?_; clear hq54; intro x58 hx58 hq54
       refine yac hq54 ?_; clear hq54; intro l61 hl61 hq54
       refine pwc_cutK (Y := Option Addr × Nat) (fun (a62, c63) => [(3, pP b2 0), (4, pI (IntKind.i64.wrap (1 + x3.1))), (5, pO a6 l5.length c7), (6, pI v8), (7, pP b27 0), (8, pI x28.1), (9, pI v29)]) (fun (a62, c63) => [PRes.b b2 87 [pL eI x58.2.L, pI x58.2.I], PRes.b b27 92 [pI (IntKind.i64.wrap (3 * v8)), pS x20.1, pS m23, pI (IntKind.i64.wrap (1 + x24.1)), pB (x26.1 == 1), pL eS x25.1, pO a62 l61.length c63], PRes.row a6 l5.length c7 92 7 (List.map TProduct.enc l5), PRes.row a62 l61.length c63 94 2 (List.map TIngredient.enc l61)]) (fun _ => True) ?_ ?_
       ·refine pws_start (ρd := [PRes.b b2 _ _, PRes.row a34 _ _ _ _ _, PRes.b b27 _ _]) _ (by (repeat (first | exact List.Perm.refl _ | (refine ybb (by (repeat (first | exact zph | apply zpt))) ?_)))) ?_
        refine pws_q 0 (by kernel_rfl) rfl rfl rfl rfl (pq_fieldAddr rfl rfl rfl rfl rfl (.p rfl)) ?_
        refine pws_q 2 (by kernel_rfl) rfl rfl rfl rfl (pq_move (p := pI v29) rfl (.p rfl)) ?_
        refine pws_q 3 (by kernel_rfl) rfl rfl rfl rfl (pq_arith rfl (.p rfl) (.p rfl) rfl) ?_
        refine pws_q 4 (by kernel_rfl) rfl rfl rfl rfl (pq_move (p := pP b2 0) rfl (.p rfl)) ?_
        refine pws_two 1 5 (by kernel_rfl) ?_ ?_
        ·skip
         refine pstep_l rfl rfl rfl rfl (pl_q (pq_load_b (p := pO a34 l33.length c35) rfl (.p rfl) (by (repeat (first | exact List.Mem.head _ | apply List.Mem.tail))) rfl) ?_)
         refine pws_one 5 (by kernel_rfl) ?_
         refine pstep_l rfl rfl rfl rfl (pl_callR rfl rfl (ρ1 := [_]) (ybb (by (repeat (first | exact zph | apply zpt))) (List.Perm.refl _)) (yat hx58) ?_); rintro _ _ ⟨rfl, rfl⟩
         refine pws_q 6 (by kernel_rfl) rfl rfl rfl rfl (pq_build (cs := [pI (IntKind.i64.wrap (3 * v29)), pI x58.1]) rfl rfl rfl rfl rfl rfl rfl (by (repeat (first | exact zfn | (apply zfc rfl rfl rfl rfl; (focus (repeat (first | exact zln | apply zlc | apply zlt)))))))) ?_
         refine pws_one 7 (by kernel_rfl) ?_
         refine pstep_l rfl rfl rfl rfl (pl_lit rfl rfl rfl rfl rfl (by (repeat (first | exact zin | apply zic rfl))) rfl rfl rfl rfl (fun b59 => ?_))
         refine pws_one 8 (by kernel_rfl) ?_
         refine pstep_l rfl rfl rfl rfl (pl_app_o (enc := TIngredient.enc) rfl rfl rfl rfl rfl rfl rfl rfl rfl (by (repeat (first | exact List.Mem.head _ | apply List.Mem.tail))) (by (repeat (first | exact zph | apply zpt))) hl61 (fun a62 c63 => ?_))
         refine pws_q 9 (by kernel_rfl) rfl rfl rfl rfl (pq_fieldAddr rfl rfl rfl rfl rfl (.p rfl)) ?_
         refine pws_one 10 (by kernel_rfl) ?_
         refine pstep_l0 rfl rfl rfl (yaw (vs := [pO a62 l61.length c63]) rfl rfl rfl rfl rfl (by (repeat (first | exact zuh | apply zut))) (by (repeat (first | exact zln | apply zlc | apply zlt))) ?_)
         refine pws_done (by kernel_rfl) ?_
         exact pk_cut (a62, c63) (by (repeat (first | exact zhn | apply zhc rfl))) (by (repeat (first | exact zsn | (apply zsc; (focus (repeat (first | exact zph | apply zpt))))))) trivial
        ·skip
         refine pstep_l rfl rfl rfl rfl (pl_callR rfl rfl (ρ1 := [_]) (ybb (by (repeat (first | exact zph | apply zpt))) (List.Perm.refl _)) (yat hx58) ?_); rintro _ _ ⟨rfl, rfl⟩
         refine pws_q 6 (by kernel_rfl) rfl rfl rfl rfl (pq_build (cs := [pI (IntKind.i64.wrap (3 * v29)), pI x58.1]) rfl rfl rfl rfl rfl rfl rfl (by (repeat (first | exact zfn | (apply zfc rfl rfl rfl rfl; (focus (repeat (first | exact zln | apply zlc | apply zlt)))))))) ?_
         refine pws_two 1 7 (by kernel_rfl) ?_ ?_
         ·skip
          refine pstep_l rfl rfl rfl rfl (pl_q (pq_load_b (p := pO a34 l33.length c35) rfl (.p rfl) (by (repeat (first | exact List.Mem.head _ | apply List.Mem.tail))) rfl) ?_)
          refine pws_one 7 (by kernel_rfl) ?_
          refine pstep_l rfl rfl rfl rfl (pl_lit rfl rfl rfl rfl rfl (by (repeat (first | exact zin | apply zic rfl))) rfl rfl rfl rfl (fun b59 => ?_))
          refine pws_one 8 (by kernel_rfl) ?_
          refine pstep_l rfl rfl rfl rfl (pl_app_o (enc := TIngredient.enc) rfl rfl rfl rfl rfl rfl rfl rfl rfl (by (repeat (first | exact List.Mem.head _ | apply List.Mem.tail))) (by (repeat (first | exact zph | apply zpt))) hl61 (fun a62 c63 => ?_))
          refine pws_q 9 (by kernel_rfl) rfl rfl rfl rfl (pq_fieldAddr rfl rfl rfl rfl rfl (.p rfl)) ?_
          refine pws_one 10 (by kernel_rfl) ?_
          refine pstep_l0 rfl rfl rfl (yaw (vs := [pO a62 l61.length c63]) rfl rfl rfl rfl rfl (by (repeat (first | exact zuh | apply zut))) (by (repeat (first | exact zln | apply zlc | apply zlt))) ?_)
          refine pws_done (by kernel_rfl) ?_
          exact pk_cut (a62, c63) (by (repeat (first | exact zhn | apply zhc rfl))) (by (repeat (first | exact zsn | (apply zsc; (focus (repeat (first | exact zph | apply zpt))))))) trivial
         ·skip
          refine pstep_l rfl rfl rfl rfl (pl_lit rfl rfl rfl rfl rfl (by (repeat (first | exact zin | apply zic rfl))) rfl rfl rfl rfl (fun b59 => ?_))
          refine pws_one 1 (by kernel_rfl) ?_
          refine pstep_l rfl rfl rfl rfl (pl_q (pq_load_b (p := pO a34 l33.length c35) rfl (.p rfl) (by (repeat (first | exact List.Mem.head _ | apply List.Mem.tail))) rfl) ?_)
          refine pws_one 8 (by kernel_rfl) ?_
          refine pstep_l rfl rfl rfl rfl (pl_app_o (enc := TIngredient.enc) rfl rfl rfl rfl rfl rfl rfl rfl rfl (by (repeat (first | exact List.Mem.head _ | apply List.Mem.tail))) (by (repeat (first | exact zph | apply zpt))) hl61 (fun a62 c63 => ?_))
          refine pws_q 9 (by kernel_rfl) rfl rfl rfl rfl (pq_fieldAddr rfl rfl rfl rfl rfl (.p rfl)) ?_
          refine pws_one 10 (by kernel_rfl) ?_
          refine pstep_l0 rfl rfl rfl (yaw (vs := [pO a62 l61.length c63]) rfl rfl rfl rfl rfl (by (repeat (first | exact zuh | apply zut))) (by (repeat (first | exact zln | apply zlc | apply zlt))) ?_)
          refine pws_done (by kernel_rfl) ?_
          exact pk_cut (a62, c63) (by (repeat (first | exact zhn | apply zhc rfl))) (by (repeat (first | exact zsn | (apply zsc; (focus (repeat (first | exact zph | apply zpt))))))) trivial
       ·rintro ⟨a62, c63⟩ τ ρ1 hsub65 _; (try dsimp only at hsub65); dsimp only [pupds]
        refine yae ?_
        obtain rfl := Option.some.inj hq54
        exact pk_mid ((a62, c63), (x58.2.L, x58.2.I, l61)) (by (repeat (first | exact zhn | apply zhc rfl))) (PSub.trans (by (repeat (first | exact zsn | (apply zsc; (focus (repeat (first | exact zph | apply zpt))))))) hsub65) rfl
      ·replace hq54 := yaq hc57 hq54
       refine yaj (yae ?_)
       obtain rfl := Option.some.inj hq54
       exact pk_mid ((a34, c35), (x56.2.L, x56.2.I, l33)) (by (repeat (first | exact zhn | apply zhc rfl))) (by (repeat (first | exact zsn | (apply zsc; (focus (repeat (first | exact zph | apply zpt))))))) rfl
     ·rintro ⟨⟨a51, c52⟩, ⟨l48, v49, l53⟩⟩ τ hz; (try dsimp only at hz); subst q54; (try dsimp only at hb43); dsimp only [pupds]
      refine yad [] [60, 61] [(9, pI (IntKind.i64.wrap (v29 + 1)))] fo0 (by kernel_rfl) ?_
      (repeat apply yae)
      exact pk_loop hb43 (a51, c52) (by (repeat (first | exact zhn | apply zhc rfl))) (by (repeat (first | exact zsn | (apply zsc; (focus (repeat (first | exact zph | apply zpt)))))))
    ·replace hb43 := yaq hc46 hb43
     refine pwc_exit ?_
     (repeat (first | apply yav | apply pk_mid_exit | apply pk_cut_exit | apply pk_block_ne rfl))
     refine yar hb43 (fun ht => ?_)
     refine yau rfl ?_
     exact pk_mid ((a34, c35), (l30, v31, l33)) (by (repeat (first | exact zhn | apply zhc rfl))) (by (repeat (first | exact zsn | (apply zsc; (focus (repeat (first | exact zph | apply zpt))))))) ht.symm
   ·rintro ⟨⟨a40, c41⟩, ⟨l37, v38, l42⟩⟩ τ hz; (try dsimp only at hz); subst q44; (try dsimp only at hb15); dsimp only [pupds]
    refine yaf ?_
    refine yam 1 [] [] [(88, pO a6 l5.length c7)] fo0 (by kernel_rfl) ?_
    refine pwl_frz (css := List.map TIngredient.enc l42) (a := a40) (by (repeat (first | exact zph | apply zpt))) ?_
    refine pwl_viewb (k := 6) (enc := TIngredient.enc) (xs := l42) (b := b27) (a := a40) rfl (by (repeat (first | exact List.Mem.head _ | apply List.Mem.tail))) (by (repeat (first | exact zuh | apply zut))) ?_
    refine yam 1 [2] [] [(89, .agg [pI (IntKind.i64.wrap (3 * v8)), pS x20.1, pS m23, pI (IntKind.i64.wrap (1 + x24.1)), pB (x26.1 == 1), pL eS x25.1, pL TIngredient.enc l42])] fo0 (by kernel_rfl) ?_
    refine yay rfl rfl rfl (pl_lit rfl rfl rfl rfl rfl (by (repeat (first | exact zin | apply zic rfl))) rfl rfl rfl rfl (fun b66 => ?_))
    refine yac hb15 ?_; clear hb15; intro l68 hl68 hb15
    refine yay rfl rfl rfl (pl_app_o (enc := TProduct.enc) rfl rfl rfl rfl rfl rfl rfl rfl rfl (by (repeat (first | exact List.Mem.head _ | apply List.Mem.tail))) (by (repeat (first | exact zph | apply zpt))) hl68 (fun a69 c70 => ?_))
    refine yas [] [] [(5, pO a69 l68.length c70)] fo0 (by kernel_rfl) ?_
    refine yae ?_
    (repeat (first | apply yae | apply yab))
    refine yad [] [20, 21] [(6, pI (IntKind.i64.wrap (v8 + 1)))] fo0 (by kernel_rfl) ?_
    (repeat apply yae)
    exact pk_loop hb15 (a69, c70) (by (repeat (first | exact zhn | apply zhc rfl))) (by (repeat (first | exact zsn | (apply zsc; (focus (repeat (first | exact zph | apply zpt)))))))
  ·replace hb15 := yaq hc18 hb15
   refine pwc_exit ?_
   (repeat (first | apply yav | apply pk_mid_exit | apply pk_cut_exit | apply pk_block_ne rfl))
   refine yar hb15 (fun ht => ?_)
   refine yau rfl ?_
   exact pk_mid ((a6, c7), l5) (by (repeat (first | exact zhn | apply zhc rfl))) (by (repeat (first | exact zsn | (apply zsc; (focus (repeat (first | exact zph | apply zpt))))))) ht.symm
 ·rintro ⟨⟨a12, c13⟩, l14⟩ τ hz; (try dsimp only at hz); subst q16; (try dsimp only at h); dsimp only [pupds]
  refine yaa ?_
  refine yad [] [92] [(2, pO a12 l14.length c13)] fo0 (by kernel_rfl) ?_
  (repeat (first | apply yae | apply yab))
  refine yak ?_
  (repeat (first | apply yai | apply yag | apply yax | apply pk_cut_ret))
  obtain rfl := Option.some.inj h
  exact yal (ybc (yao rfl)) (by (repeat (first | exact zsn | (apply zsc; (focus (repeat (first | exact zph | apply zpt))))))) ⟨_, _, rfl, rfl⟩
def made_Importer (p0 : Int) : Option ByteArray := Option.bind (made_Within p0 8) (fun x3 => Option.bind (idx [(⟨#[66, 66]⟩ : ByteArray), (⟨#[66, 66]⟩ : ByteArray), (⟨#[66, 66]⟩ : ByteArray), (⟨#[65, 65]⟩ : ByteArray), (⟨#[67, 67]⟩ : ByteArray), (⟨#[68, 68]⟩ : ByteArray), (⟨#[69, 69]⟩ : ByteArray), (⟨#[70, 70]⟩ : ByteArray)] x3) (fun m4 => some m4))
set_option maxHeartbeats 4000000 in
theorem made_Importer_ok {p0 : Int} {r : ByteArray}  (h : made_Importer p0 = some r) : PF 22 [pI p0] (pS r) := by
 unfold made_Importer at h
 refine pf_of ?_
 refine penter Tryz.func22 fk22 rfl Tryz.ntmps22 Tryz.results22 rfl ?_
 refine yaa ?_
 refine yad [] [2] [] fo0 (by kernel_rfl) ?_
 (repeat (first | apply yae | apply yab))
 refine yaa (yaf ?_)
 refine yay rfl rfl rfl (pl_lit rfl rfl rfl rfl rfl (by (repeat (first | exact zin | apply zic rfl))) rfl rfl rfl rfl (fun b1 => ?_))
 refine yac h ?_; clear h; intro x3 hx3 h
 refine yac h ?_; clear h; intro m4 hm4 h
 refine yam 2 [] [4] [(5, pI x3)] (focl 1 (made_Within_ok hx3) fo0) (by kernel_rfl) ?_
 refine pwl_q rfl rfl rfl (pq_indexO (enc := eS) (xs := [(⟨#[66, 66]⟩ : ByteArray), (⟨#[66, 66]⟩ : ByteArray), (⟨#[66, 66]⟩ : ByteArray), (⟨#[65, 65]⟩ : ByteArray), (⟨#[67, 67]⟩ : ByteArray), (⟨#[68, 68]⟩ : ByteArray), (⟨#[69, 69]⟩ : ByteArray), (⟨#[70, 70]⟩ : ByteArray)]) rfl rfl rfl (.p rfl) (by (repeat (first | exact List.Mem.head _ | apply List.Mem.tail))) (.p rfl) (fun _ => hm4)) ?_
 refine pwl_q rfl rfl rfl (pq_load_o (p := pS m4) (enc := eS) (xs := [(⟨#[66, 66]⟩ : ByteArray), (⟨#[66, 66]⟩ : ByteArray), (⟨#[66, 66]⟩ : ByteArray), (⟨#[65, 65]⟩ : ByteArray), (⟨#[67, 67]⟩ : ByteArray), (⟨#[68, 68]⟩ : ByteArray), (⟨#[69, 69]⟩ : ByteArray), (⟨#[70, 70]⟩ : ByteArray)]) (a := (some ⟨b1, 0, none⟩)) x3 0 m4 rfl (.p rfl) rfl (by (repeat (first | exact List.Mem.head _ | apply List.Mem.tail))) (fun _ => hm4) rfl) ?_
 refine yas [] [] [(2, pS m4)] fo0 (by kernel_rfl) ?_
 (repeat (first | apply yae | apply yab))
 refine yak ?_
 (repeat (first | apply yai | apply yag | apply yax | apply pk_cut_ret))
 obtain rfl := Option.some.inj h
 exact yal (ybc (yao rfl)) zsn ⟨rfl, rfl⟩
def made_Rule (p0 : (List Int)) : Option TRule := Option.bind (made_Cut p0 100) (fun x2 => Option.bind (made_Source_rule (⟨x2, 0⟩ : Tmade_Source) 0 2) (fun x4 => some x4.1))
set_option maxHeartbeats 4000000 in
theorem made_Rule_ok {p0 : (List Int)} {r : TRule}  (h : made_Rule p0 = some r) : PF 40 [pL eI p0] (.agg [pI r.Kind, pI r.Digits, pL eS r.Except, pI r.Tolerance, pI r.Limit, pS r.Name, pL TRule.enc r.Args]) := by
 unfold made_Rule at h
 refine pf_of ?_
 refine penter Tryz.func40 fk40 rfl Tryz.ntmps40 Tryz.results40 rfl ?_
 refine yaa (yaf ?_)
 refine yay rfl rfl rfl (pl_alloc (cs := [pI 0, pI 0, pN, pI 0, pI 0, pS ByteArray.empty, pN]) rfl rfl rfl rfl (fun b1 => ?_))
 refine yba ?_
 (repeat (first | apply yae | apply yab))
 refine yaa ?_
 refine yac h ?_; clear h; intro x2 hx2 h
 refine yaf ?_
 refine yam 3 [] [4, 5] [(6, .agg [pL eI x2, pI 0])] (focl 1 (made_Cut_ok hx2) fo0) (by kernel_rfl) ?_
 refine yay rfl rfl rfl (pl_box (cs := [pL eI x2, pI 0]) rfl rfl (fun b3 => ?_))
 refine yas [] [] [(3, pP b3 0)] fo0 (by kernel_rfl) ?_
 (repeat (first | apply yae | apply yab))
 refine yaa ?_
 refine yac h ?_; clear h; intro x4 hx4 h
 refine yaf ?_
 refine yam 1 [] [] [(8, pP b3 0)] fo0 (by kernel_rfl) ?_
 refine yay rfl rfl rfl (pl_callR rfl rfl (ρ1 := [_]) (ybb (by (repeat (first | exact zph | apply zpt))) (List.Perm.refl _)) (made_Source_rule_ok hx4) ?_); rintro _ _ ⟨rfl, rfl⟩
 refine pwl_l0 rfl rfl (yaw (vs := [pI x4.1.Kind, pI x4.1.Digits, pL eS x4.1.Except, pI x4.1.Tolerance, pI x4.1.Limit, pS x4.1.Name, pL TRule.enc x4.1.Args]) rfl rfl rfl rfl rfl (by (repeat (first | exact zuh | apply zut))) (by (repeat (first | exact zln | apply zlc | apply zlt))) ?_)
 refine yba ?_
 (repeat (first | apply yae | apply yab))
 refine yak ?_
 (repeat (first | apply yai | apply yag | apply yax | apply pk_cut_ret))
 obtain rfl := Option.some.inj h
 exact yal (ybc (prv1_c rfl (by (repeat (first | exact List.Mem.head _ | apply List.Mem.tail))) rfl)) zsn ⟨rfl, rfl⟩
def made_OriginClaims (p0 : (List TProduct)) (p1 : (List TAgreement)) (p2 : (List Int)) : Option (List TOriginClaim) := Option.bind (loopF (S := (List TOriginClaim) × Int) (T := ((List TOriginClaim))) (fun (l2, v5) => cond (decide (v5 < (p0.length : Int))) (Option.bind (loopF (S := (List TOriginClaim) × Int) (T := ((List TOriginClaim))) (fun (l15, v18) => cond (decide (v18 < (p1.length : Int))) (Option.bind (lb ((IntKind.i64.wrap ((IntKind.i64.wrap (v5 * (p1.length : Int))) + v18))) (fun w31 => Option.bind (gd (decide (w31 < (p2.length : Int))) (idx p2 w31)) (fun m32 => cond ((decide (w31 < (p2.length : Int))) && ((iand .i64 m32 1) == 1)) (Option.bind (idx p0 v5) (fun m34 => Option.bind (idx p1 v18) (fun m35 => Option.bind (app 16 l15 [(⟨m34.ID, m35.ID⟩ : TOriginClaim)]) (fun l38 => some l38)))) (some l15)))) (fun l29 => some (.inl (l29, (IntKind.i64.wrap (v18 + 1)))))) (some (.inr l15))) FUEL (l2, 0)) (fun l22 => some (.inl (l22, (IntKind.i64.wrap (v5 + 1)))))) (some (.inr l2))) FUEL (([] : List TOriginClaim), 0)) (fun l9 => some l9)
set_option maxHeartbeats 4000000 in
theorem made_OriginClaims_ok {p0 : (List TProduct)} {p1 : (List TAgreement)} {p2 : (List Int)} {r : (List TOriginClaim)}  (h : made_OriginClaims p0 p1 p2 = some r) : PF 33 [pL TProduct.enc p0, pL TAgreement.enc p1, pL eI p2] (pL TOriginClaim.enc r) := by
 unfold made_OriginClaims at h
 refine pf_of ?_
 refine penter Tryz.func33 fk33 rfl Tryz.ntmps33 Tryz.results33 rfl ?_
 refine yaa ?_
 refine yad [] [6] [] fo0 (by kernel_rfl) ?_
 (repeat (first | apply yae | apply yab))
 refine yaa ?_
 refine yad [] [] [(7, pN)] fo0 (by kernel_rfl) ?_
 (repeat (first | apply yae | apply yab))
 refine yaa (yaa ?_)
 refine yad [] [] [(8, pI 0)] fo0 (by kernel_rfl) ?_
 (repeat (first | apply yae | apply yab))
 refine pwc_nilrow 54 2 ?_
 refine yac h ?_; clear h; intro q11 hq11 h
 refine yaz (Y := (Option Addr × Nat) × ((List TOriginClaim))) (fun ((a7, c8), l9) => [(7, pO a7 l9.length c8)]) (fun ((a7, c8), l9) => [PRes.row a7 l9.length c8 54 2 (List.map TOriginClaim.enc l9)]) (fun ((a7, c8), l9) => q11 = l9) ?_ ?_
 ·refine yan ?_
  refine ybd (Y := Option Addr × Nat) (S := (List TOriginClaim) × Int) _ hq11 (fun (a3, c4) (l2, v5) => [(0, pL TProduct.enc p0), (1, pL TAgreement.enc p1), (2, pL eI p2), (7, pO a3 l2.length c4), (8, pI v5)]) (fun (a3, c4) (l2, v5) => [PRes.row a3 l2.length c4 54 2 (List.map TOriginClaim.enc l2)]) (none, 0) (by (repeat (first | exact zhn | apply zhc rfl))) (by (repeat (first | exact zsn | (apply zsc; (focus (repeat (first | exact zph | apply zpt))))))) ?_
  rintro ⟨a3, c4⟩ ⟨l2, v5⟩ o τ hb10; (try dsimp only at hb10); dsimp only [pupds]
  refine yaa (yaa ?_)
  refine yad [] [11, 12, 13] [(14, pB (decide (v5 < (p0.length : Int))))] fo0 (by kernel_rfl) ?_
  (repeat (first | apply yae | apply yab))
  refine yah rfl (fun hc13 => ?_) (fun hc13 => ?_)
  ·replace hb10 := yap hc13 hb10
   refine yaj ?_
   (repeat (first | apply yae | apply yab))
   refine yaa (yan (yaa ?_))
   refine yad [] [] [(9, pI 0)] fo0 (by kernel_rfl) ?_
   (repeat (first | apply yae | apply yab))
   refine yac hb10 ?_; clear hb10; intro q24 hq24 hb10
   refine pwc_cutK (Y := (Option Addr × Nat) × ((List TOriginClaim))) (fun ((a20, c21), l22) => [(0, pL TProduct.enc p0), (1, pL TAgreement.enc p1), (2, pL eI p2), (7, pO a20 l22.length c21), (8, pI v5)]) (fun ((a20, c21), l22) => [PRes.row a20 l22.length c21 54 2 (List.map TOriginClaim.enc l22)]) (fun ((a20, c21), l22) => q24 = l22) ?_ ?_
   ·refine yan ?_
    refine ybd (Y := Option Addr × Nat) (S := (List TOriginClaim) × Int) _ hq24 (fun (a16, c17) (l15, v18) => [(0, pL TProduct.enc p0), (1, pL TAgreement.enc p1), (2, pL eI p2), (7, pO a16 l15.length c17), (8, pI v5), (9, pI v18)]) (fun (a16, c17) (l15, v18) => [PRes.row a16 l15.length c17 54 2 (List.map TOriginClaim.enc l15)]) (a3, c4) (by (repeat (first | exact zhn | apply zhc rfl))) (by (repeat (first | exact zsn | (apply zsc; (focus (repeat (first | exact zph | apply zpt))))))) ?_
    rintro ⟨a16, c17⟩ ⟨l15, v18⟩ o τ hb23; (try dsimp only at hb23); dsimp only [pupds]
    refine yaa (yaa ?_)
    refine yad [] [17, 18, 19] [(20, pB (decide (v18 < (p1.length : Int))))] fo0 (by kernel_rfl) ?_
    (repeat (first | apply yae | apply yab))
    refine yah rfl (fun hc25 => ?_) (fun hc25 => ?_)
    ·replace hb23 := yap hc25 hb23
     refine yaj ?_
     (repeat (first | apply yae | apply yab))
     refine yaa ?_
     refine yac hb23 ?_; clear hb23; intro q30 hq30 hb23
     refine yaz (Y := (Option Addr × Nat) × ((List TOriginClaim))) (fun ((a27, c28), l29) => [(0, pL TProduct.enc p0), (1, pL TAgreement.enc p1), (2, pL eI p2), (7, pO a27 l29.length c28), (8, pI v5), (9, pI v18)]) (fun ((a27, c28), l29) => [PRes.row a27 l29.length c28 54 2 (List.map TOriginClaim.enc l29)]) (fun ((a27, c28), l29) => q30 = l29) ?_ ?_
     ·skip
      refine yan (yaa ?_)
      refine lb_elim hq30 ?_; clear hq30; intro w31 hw31 hq30
      refine yaf ?_
      refine yam 6 [] [23, 24, 25, 26, 27] [(28, pI (IntKind.i64.wrap ((IntKind.i64.wrap (v5 * (p1.length : Int))) + v18)))] fo0 (by kernel_rfl) ?_
      refine pwl_q rfl rfl rfl (pq_assign rfl (.p (congrArg (fun z => PV.v (Value.int .i64 z)) hw31))) ?_
      refine yba ?_
      (repeat (first | apply yae | apply yab))
      refine yaa ?_
      refine yac hq30 ?_; clear hq30; intro m32 hm32 hq30
      refine yad [] [29, 30, 31, 32, 33, 34, 35, 36, 37, 38, 39] [(40, pB ((decide (w31 < (p2.length : Int))) && ((iand .i64 m32 1) == 1)))] (foixg 7 eI (gd_t hm32) fo0) (by kernel_rfl) ?_
      (repeat (first | apply yae | apply yab))
      refine yah rfl (fun hc33 => ?_) (fun hc33 => ?_)
      ·replace hq30 := yap hc33 hq30
       refine pwc_draw (ρd := [PRes.row a16 _ _ _ _ _]) [(0, 0), (1, 0), (2, 0), (3, 0), (4, 0), (5, 0), (6, 0), (7, 0), (8, 0), (9, 0), (10, 0), (11, 0), (12, 1), (13, 1), (14, 0)] _ (by (repeat (first | exact List.Perm.refl _ | (refine ybb (by (repeat (first | exact zph | apply zpt))) ?_)))) (by kernel_rfl) rfl ?_
       refine yac hq30 ?_; clear hq30; intro m34 hm34 hq30
       refine yac hq30 ?_; clear hq30; intro m35 hm35 hq30
       refine pwd_run 11 [] [42, 43, 44, 45, 47, 48, 49, 50] [(41, pO a16 l15.length c17), (46, pI m34.ID), (51, pI m35.ID)] (foix 3 TProduct.enc hm34 (foix 8 TAgreement.enc hm35 fo0)) (by kernel_rfl) ?_
       refine pwd_q rfl rfl rfl (pq_buildZ (cs := [pI m34.ID, pI m35.ID]) rfl rfl rfl rfl rfl rfl rfl (by (repeat (first | exact zfn | (apply zfc rfl rfl rfl rfl; (focus (repeat (first | exact zln | apply zlc | apply zlt)))))))) ?_
       refine pwd_l rfl rfl rfl (pl_lit rfl rfl rfl rfl rfl (by (repeat (first | exact zin | apply zic rfl))) rfl rfl rfl rfl (fun b36 => ?_))
       refine yac hq30 ?_; clear hq30; intro l38 hl38 hq30
       refine pwd_l rfl rfl rfl (pl_app_o (enc := TOriginClaim.enc) rfl rfl rfl rfl rfl rfl rfl rfl rfl (by (repeat (first | exact List.Mem.head _ | apply List.Mem.tail))) (by (repeat (first | exact zph | apply zpt))) hl38 (fun a39 c40 => ?_))
       refine pwd_run 1 [] [] [(7, pO a39 l38.length c40)] fo0 (by kernel_rfl) ?_
       refine pwd_nil (yae ?_)
       obtain rfl := Option.some.inj hq30
       exact pk_mid ((a39, c40), l38) (by (repeat (first | exact zhn | apply zhc rfl))) (by (repeat (first | exact zsn | (apply zsc; (focus (repeat (first | exact zph | apply zpt))))))) rfl
      ·replace hq30 := yaq hc33 hq30
       refine yaj (yae ?_)
       obtain rfl := Option.some.inj hq30
       exact pk_mid ((a16, c17), l15) (by (repeat (first | exact zhn | apply zhc rfl))) (by (repeat (first | exact zsn | (apply zsc; (focus (repeat (first | exact zph | apply zpt))))))) rfl
     ·rintro ⟨⟨a27, c28⟩, l29⟩ τ hz; (try dsimp only at hz); subst q30; (try dsimp only at hb23); dsimp only [pupds]
      refine yad [] [21, 22] [(9, pI (IntKind.i64.wrap (v18 + 1)))] fo0 (by kernel_rfl) ?_
      (repeat apply yae)
      exact pk_loop hb23 (a27, c28) (by (repeat (first | exact zhn | apply zhc rfl))) (by (repeat (first | exact zsn | (apply zsc; (focus (repeat (first | exact zph | apply zpt)))))))
    ·replace hb23 := yaq hc25 hb23
     refine pwc_exit ?_
     (repeat (first | apply yav | apply pk_mid_exit | apply pk_cut_exit | apply pk_block_ne rfl))
     refine yar hb23 (fun ht => ?_)
     refine yau rfl ?_
     exact pk_cut ((a16, c17), l15) (by (repeat (first | exact zhn | apply zhc rfl))) (by (repeat (first | exact zsn | (apply zsc; (focus (repeat (first | exact zph | apply zpt))))))) ht.symm
   ·rintro ⟨⟨a20, c21⟩, l22⟩ τ ρ1 hsub42 hz; (try dsimp only at hz hsub42); subst q24; (try dsimp only at hb10); dsimp only [pupds]
    refine yae ?_
    (repeat (first | apply yae | apply yab))
    refine pwc_sub hsub42 ?_
    refine yad [] [15, 16] [(8, pI (IntKind.i64.wrap (v5 + 1)))] fo0 (by kernel_rfl) ?_
    (repeat apply yae)
    exact pk_loop hb10 (a20, c21) (by (repeat (first | exact zhn | apply zhc rfl))) (by (repeat (first | exact zsn | (apply zsc; (focus (repeat (first | exact zph | apply zpt)))))))
  ·replace hb10 := yaq hc13 hb10
   refine pwc_exit ?_
   (repeat (first | apply yav | apply pk_mid_exit | apply pk_cut_exit | apply pk_block_ne rfl))
   refine yar hb10 (fun ht => ?_)
   refine yau rfl ?_
   exact pk_mid ((a3, c4), l2) (by (repeat (first | exact zhn | apply zhc rfl))) (by (repeat (first | exact zsn | (apply zsc; (focus (repeat (first | exact zph | apply zpt))))))) ht.symm
 ·rintro ⟨⟨a7, c8⟩, l9⟩ τ hz; (try dsimp only at hz); subst q11; (try dsimp only at h); dsimp only [pupds]
  refine yaa ?_
  refine yad [] [55] [(6, pO a7 l9.length c8)] fo0 (by kernel_rfl) ?_
  (repeat (first | apply yae | apply yab))
  refine pwc_frzt (enc := TOriginClaim.enc) (xs := l9) 6 rfl (by (repeat (first | exact zph | apply zpt))) ?_
  refine yak ?_
  (repeat (first | apply yai | apply yag | apply yax | apply pk_cut_ret))
  obtain rfl := Option.some.inj h
  exact yal (ybc (yao rfl)) zsn ⟨rfl, rfl⟩
def law14_claim (p0 : (List TProduct)) (p1 : (List TAgreement)) (p2 : Int) (p3 : Int) : Option TOriginClaim := Option.bind (made_Within p2 (p0.length : Int)) (fun x2 => Option.bind (idx p0 x2) (fun m3 => Option.bind (made_Within p3 (p1.length : Int)) (fun x4 => Option.bind (idx p1 x4) (fun m5 => some (⟨m3.ID, m5.ID⟩ : TOriginClaim)))))
set_option maxHeartbeats 4000000 in
theorem law14_claim_ok {p0 : (List TProduct)} {p1 : (List TAgreement)} {p2 : Int} {p3 : Int} {r : TOriginClaim}  (h : law14_claim p0 p1 p2 p3 = some r) : PF 32 [pL TProduct.enc p0, pL TAgreement.enc p1, pI p2, pI p3] (.agg [pI r.Product, pI r.Agreement]) := by
 unfold law14_claim at h
 refine pf_of ?_
 refine penter Tryz.func32 fk32 rfl Tryz.ntmps32 Tryz.results32 rfl ?_
 refine yaa (yaf ?_)
 refine yay rfl rfl rfl (pl_alloc (cs := [pI 0, pI 0]) rfl rfl rfl rfl (fun b1 => ?_))
 refine yba ?_
 (repeat (first | apply yae | apply yab))
 refine yaa ?_
 refine pwc_draw (ρd := [PRes.b b1 _ _]) [(0, 0), (1, 0), (2, 0), (3, 0), (8, 0), (9, 0), (10, 0), (11, 0), (4, 1), (5, 0), (6, 0), (7, 0), (12, 1), (13, 0), (14, 0), (15, 0), (16, 0), (17, 1)] _ (by (repeat (first | exact List.Perm.refl _ | (refine ybb (by (repeat (first | exact zph | apply zpt))) ?_)))) (by kernel_rfl) rfl ?_
 refine yac h ?_; clear h; intro x2 hx2 h
 refine yac h ?_; clear h; intro m3 hm3 h
 refine yac h ?_; clear h; intro x4 hx4 h
 refine yac h ?_; clear h; intro m5 hm5 h
 refine pwd_run 16 [] [9, 10, 11, 12, 17, 18, 19, 20, 13, 14, 15, 21, 22, 23] [(16, pI m3.ID), (24, pI m5.ID)] (focl 8 (made_Within_ok hx2) (foix 9 TProduct.enc hm3 (focl 12 (made_Within_ok hx4) (foix 13 TAgreement.enc hm5 fo0)))) (by kernel_rfl) ?_
 refine pwd_q rfl rfl rfl (pq_buildZ (cs := [pI m3.ID, pI m5.ID]) rfl rfl rfl rfl rfl rfl rfl (by (repeat (first | exact zfn | (apply zfc rfl rfl rfl rfl; (focus (repeat (first | exact zln | apply zlc | apply zlt)))))))) ?_
 refine pwd_l0 rfl rfl (yaw (vs := [pI m3.ID, pI m5.ID]) rfl rfl rfl rfl rfl (by (repeat (first | exact zuh | apply zut))) (by (repeat (first | exact zln | apply zlc | apply zlt))) ?_)
 refine pwd_nil ?_
 (repeat (first | apply yae | apply yab))
 refine yak ?_
 (repeat (first | apply yai | apply yag | apply yax | apply pk_cut_ret))
 obtain rfl := Option.some.inj h
 exact yal (ybc (prv1_c rfl (by (repeat (first | exact List.Mem.head _ | apply List.Mem.tail))) rfl)) zsn ⟨rfl, rfl⟩
def ref14_With (p0 : (List TOriginClaim)) (p1 : TOriginClaim) : Option (List TOriginClaim) := Option.bind (ref14_Contains p0 p1) (fun x2 => cond x2 (some p0) (Option.bind (loopF (S := Int) (T := (Int)) (fun v4 => Option.bind (gd (decide (v4 < (p0.length : Int))) (idx p0 v4)) (fun m8 => Option.bind (gd (decide (v4 < (p0.length : Int))) (ref14_Less m8 p1)) (fun x9 => cond ((decide (v4 < (p0.length : Int))) && x9) (some (.inl (IntKind.i64.wrap (v4 + 1)))) (some (.inr v4))))) FUEL 0) (fun v5 => Option.bind (sub p0 0 v5) (fun l11 => Option.bind (sub p0 v5 (p0.length : Int)) (fun l12 => Option.bind (app 16 ([] : List TOriginClaim) l11) (fun l15 => Option.bind (app 16 l15 [p1]) (fun l21 => Option.bind (app 16 l21 l12) (fun l25 => some l25))))))))
set_option maxHeartbeats 4000000 in
theorem ref14_With_ok {p0 : (List TOriginClaim)} {p1 : TOriginClaim} {r : (List TOriginClaim)}  (h : ref14_With p0 p1 = some r) : PF 41 [pL TOriginClaim.enc p0, .agg [pI p1.Product, pI p1.Agreement]] (pL TOriginClaim.enc r) := by
 unfold ref14_With at h
 refine pf_of ?_
 refine penter Tryz.func41 fk41 rfl Tryz.ntmps41 Tryz.results41 rfl ?_
 refine yaa (yaf ?_)
 refine yay rfl rfl rfl (pl_box (cs := [pI p1.Product, pI p1.Agreement]) rfl rfl (fun b1 => ?_))
 refine yas [] [4] [] fo0 (by kernel_rfl) ?_
 (repeat (first | apply yae | apply yab))
 refine yaa (yaa ?_)
 refine yac h ?_; clear h; intro x2 hx2 h
 refine yad [0] [6, 7] [(8, pB x2)] (focl 2 (ref14_Contains_ok hx2) fo0) (by kernel_rfl) ?_
 (repeat (first | apply yae | apply yab))
 refine yah rfl (fun hc3 => ?_) (fun hc3 => ?_)
 ·replace h := yap hc3 h
  refine yaa ?_
  refine yad [] [9] [(4, pL TOriginClaim.enc p0)] fo0 (by kernel_rfl) ?_
  (repeat (first | apply yae | apply yab))
  refine yak ?_
  (repeat (first | apply yai | apply yag | apply yax | apply pk_cut_ret))
  obtain rfl := Option.some.inj h
  exact yal (ybc (yao rfl)) zsn ⟨rfl, rfl⟩
 ·replace h := yaq hc3 h
  refine yaj ?_
  (repeat (first | apply yae | apply yab))
  refine yaa ?_
  refine yad [] [] [(5, pI 0)] fo0 (by kernel_rfl) ?_
  (repeat (first | apply yae | apply yab))
  refine yaa ?_
  refine yac h ?_; clear h; intro q7 hq7 h
  refine yaz (Y := (Unit) × (Int)) (fun (_, v5) => [(0, pL TOriginClaim.enc p0), (3, pP b1 0), (5, pI v5)]) (fun (_, v5) => [PRes.b b1 54 [pI p1.Product, pI p1.Agreement]]) (fun (_, v5) => q7 = v5) ?_ ?_
  ·refine yan ?_
   refine ybd (Y := Unit) (S := Int) _ hq7 (fun _ v4 => [(0, pL TOriginClaim.enc p0), (3, pP b1 0), (5, pI v4)]) (fun _ v4 => [PRes.b b1 54 [pI p1.Product, pI p1.Agreement]]) () (by (repeat (first | exact zhn | apply zhc rfl))) (by (repeat (first | exact zsn | (apply zsc; (focus (repeat (first | exact zph | apply zpt))))))) ?_
   rintro _ v4 o τ hb6; (try dsimp only at hb6); dsimp only [pupds]
   refine yaa (yaa ?_)
   refine pwc_draw (ρd := []) [(0, 0), (1, 0), (2, 0), (3, 0), (4, 0), (5, 0), (6, 0), (7, 0), (8, 0), (9, 0), (10, 1), (11, 0)] _ (List.Perm.refl _) (by kernel_rfl) rfl ?_
   refine yac hb6 ?_; clear hb6; intro m8 hm8 hb6
   refine yac hb6 ?_; clear hb6; intro x9 hx9 hb6
   refine pwd_run 12 [0] [10, 11, 12, 13, 14, 15, 16, 17, 18, 19, 20] [(21, pB ((decide (v4 < (p0.length : Int))) && x9))] (foixg 7 TOriginClaim.enc (gd_t hm8) (foclg 10 (fun hc => ref14_Less_ok (gd_t hx9 hc)) fo0)) (by kernel_rfl) ?_
   refine pwd_nil ?_
   (repeat (first | apply yae | apply yab))
   refine yah rfl (fun hc10 => ?_) (fun hc10 => ?_)
   ·replace hb6 := yap hc10 hb6
    refine yaj ?_
    (repeat (first | apply yae | apply yab))
    refine yan ?_
    refine yad [] [22, 23] [(5, pI (IntKind.i64.wrap (v4 + 1)))] fo0 (by kernel_rfl) ?_
    refine yae ?_
    (repeat apply yae)
    exact pk_loop hb6 () (by (repeat (first | exact zhn | apply zhc rfl))) (by (repeat (first | exact zsn | (apply zsc; (focus (repeat (first | exact zph | apply zpt)))))))
   ·replace hb6 := yaq hc10 hb6
    refine pwc_exit ?_
    (repeat (first | apply yav | apply pk_mid_exit | apply pk_cut_exit | apply pk_block_ne rfl))
    refine yar hb6 (fun ht => ?_)
    refine yau rfl ?_
    exact pk_mid ((), v4) (by (repeat (first | exact zhn | apply zhc rfl))) (by (repeat (first | exact zsn | (apply zsc; (focus (repeat (first | exact zph | apply zpt))))))) ht.symm
  ·rintro ⟨_, v5⟩ τ hz; (try dsimp only at hz); subst q7; (try dsimp only at h); dsimp only [pupds]
   refine yaa ?_
   refine pwc_draw (ρd := []) [(1, 0), (2, 0), (3, 0), (5, 0), (6, 3), (8, 0), (9, 0), (10, 0), (0, 1), (4, 1), (6, 2), (7, 1), (11, 1), (12, 0)] _ (List.Perm.refl _) (by kernel_rfl) rfl ?_
   refine yac h ?_; clear h; intro l11 hl11 h
   refine pwd_run 4 [0] [25, 26] [(27, pL TOriginClaim.enc l11), (29, .agg [pI p1.Product, pI p1.Agreement])] (fosl 2 TOriginClaim.enc 2 (fun _ => rfl) hl11 fo0) (by kernel_rfl) ?_
   refine pwd_tell (plate_lit rfl rfl rfl rfl rfl (by (repeat (first | exact zin | apply zic rfl))) rfl rfl rfl) ?_
   refine yac h ?_; clear h; intro l12 hl12 h
   refine pwd_run 3 [] [32, 33] [(34, pL TOriginClaim.enc l12)] (fosl 2 TOriginClaim.enc 2 (fun _ => rfl) hl12 fo0) (by kernel_rfl) ?_
   refine pwd_l rfl rfl rfl (pl_lit rfl rfl rfl rfl rfl (by (repeat (first | exact zin | apply zic rfl))) rfl rfl rfl rfl (fun b13 => ?_))
   refine yac h ?_; clear h; intro l15 hl15 h
   refine pwd_l rfl rfl rfl (pl_app_s (enc := TOriginClaim.enc) rfl rfl rfl rfl rfl (fun _ => rfl) rfl rfl rfl (by (repeat (first | exact zph | apply zpt))) hl15 (fun a16 c17 => ?_))
   refine pwd_late (plate_lit rfl rfl rfl rfl rfl (by (repeat (first | exact zin | apply zic rfl))) rfl rfl rfl) (fun _ => rfl) rfl (fun b19 => ?_)
   refine yac h ?_; clear h; intro l21 hl21 h
   refine pwd_l rfl rfl rfl (pl_app_b (enc := TOriginClaim.enc) rfl rfl rfl rfl rfl (fun _ => rfl) rfl rfl rfl rfl (by (repeat (first | exact List.Mem.head _ | apply List.Mem.tail))) rfl (by (repeat (first | exact zph | apply zpt))) hl21 (fun a22 c23 => ?_))
   refine yac h ?_; clear h; intro l25 hl25 h
   refine pwd_l rfl rfl rfl (pl_app_s (enc := TOriginClaim.enc) rfl rfl rfl rfl rfl (fun _ => rfl) rfl rfl rfl (by (repeat (first | exact zph | apply zpt))) hl25 (fun a26 c27 => ?_))
   refine pwd_run 1 [] [] [(4, pO a26 l25.length c27)] fo0 (by kernel_rfl) ?_
   refine pwd_nil ?_
   (repeat (first | apply yae | apply yab))
   refine pwc_frzt (enc := TOriginClaim.enc) (xs := l25) 4 rfl (by (repeat (first | exact zph | apply zpt))) ?_
   refine yak ?_
   (repeat (first | apply yai | apply yag | apply yax | apply pk_cut_ret))
   obtain rfl := Option.some.inj h
   exact yal (ybc (yao rfl)) zsn ⟨rfl, rfl⟩
def stringslite_HasPrefix (p0 : ByteArray) (p1 : ByteArray) : Option Bool := Option.bind (gd (decide ((p1.size : Int) ≤ (p0.size : Int))) (ssub p0 0 (p1.size : Int))) (fun s1 => some ((decide ((p1.size : Int) ≤ (p0.size : Int))) && (decide (s1 = p1))))
set_option maxHeartbeats 4000000 in
theorem stringslite_HasPrefix_ok {p0 : ByteArray} {p1 : ByteArray} {r : Bool}  (h : stringslite_HasPrefix p0 p1 = some r) : PF 81 [pS p0, pS p1] (pB r) := by
 unfold stringslite_HasPrefix at h
 refine pf_of ?_
 refine penter Tryz.func81 fk81 rfl Tryz.ntmps81 Tryz.results81 rfl ?_
 refine yaa ?_
 refine yad [] [4] [] fo0 (by kernel_rfl) ?_
 (repeat (first | apply yae | apply yab))
 refine yaa ?_
 refine yac h ?_; clear h; intro s1 hs1 h
 refine yad [] [5, 6, 7, 8, 9, 10, 11, 12, 13, 14, 15, 16, 17] [(4, pB ((decide ((p1.size : Int) ≤ (p0.size : Int))) && (decide (s1 = p1))))] (fossg 9 (gd_t hs1) fo0) (by kernel_rfl) ?_
 (repeat (first | apply yae | apply yab))
 refine yak ?_
 (repeat (first | apply yai | apply yag | apply yax | apply pk_cut_ret))
 obtain rfl := Option.some.inj h
 exact yal (ybc (yao rfl)) zsn ⟨rfl, rfl⟩
def strings_HasPrefix (p0 : ByteArray) (p1 : ByteArray) : Option Bool := Option.bind (stringslite_HasPrefix p0 p1) (fun x1 => some x1)
set_option maxHeartbeats 4000000 in
theorem strings_HasPrefix_ok {p0 : ByteArray} {p1 : ByteArray} {r : Bool}  (h : strings_HasPrefix p0 p1 = some r) : PF 54 [pS p0, pS p1] (pB r) := by
 unfold strings_HasPrefix at h
 refine pf_of ?_
 refine penter Tryz.func54 fk54 rfl Tryz.ntmps54 Tryz.results54 rfl ?_
 refine yaa ?_
 refine yad [] [4] [] fo0 (by kernel_rfl) ?_
 (repeat (first | apply yae | apply yab))
 refine yaa ?_
 refine yac h ?_; clear h; intro x1 hx1 h
 refine yad [] [5, 6, 7] [(4, pB x1)] (focl 2 (stringslite_HasPrefix_ok hx1) fo0) (by kernel_rfl) ?_
 (repeat (first | apply yae | apply yab))
 refine yak ?_
 (repeat (first | apply yai | apply yag | apply yax | apply pk_cut_ret))
 obtain rfl := Option.some.inj h
 exact yal (ybc (yao rfl)) zsn ⟨rfl, rfl⟩
end SX
end Go.Proofs.YtiijbkaiipjpkaaGreatDoor
set_option maxRecDepth 100000
namespace Go.Proofs.YtiijbkaiipjpkaaGreatDoor
namespace SX
open Go
def itr (b : Nat) (s : ByteArray) (pos : Nat) : Res := ⟨some b, fun o => o = some (.stringIter s pos)⟩
theorem pl_range {o : Oper} {σ : PEnv} {ρ : List PRes} {x : Operand} {t : Nat} {s : ByteArray} {K : PV → List PRes → Prop} (ho : o.op = .range t x) (hu : und t = some .string) (hx : pevc σ x = .v (.string s)) (h : ∀ b, K (.v (.pointer (some ⟨b, 0, none⟩))) (.raw (itr b s 0) :: ρ)) : POpL o σ ρ K := fun κ σ' ρ' g hs hr β hi Nx hk => by
 have e1 := hs.v1 hx
 have h1 := run_underlying (w := κ.w) (und_ok hu)
 have hrun : (execOp (ev σ') o).run Tryz.prog κ.w = .ok (.value (.pointer (some ⟨κ.w.heap.size, 0, none⟩))) (κ.w.alloc (.stringIter s 0)) := by
  simp [execOp, ho, e1, Instr.range, h1, run_newObj_alloc]
 rw [hrun]
 exact hk _ _ ⟨κ.w.alloc (.stringIter s 0), κ.S⟩ (hi.alloc _ (itr κ.w.heap.size s 0) rfl rfl) (kle_alloc hi.fin _) ⟨_, _, .v rfl, .cons .raw (hr.mono (kle_alloc hi.fin _)), h _⟩
theorem pl_next {o : Oper} {σ : PEnv} {ρ ρ1 : List PRes} {x : Operand} {b pos : Nat} {s : ByteArray} {K : PV → List PRes → Prop} (ho : o.op = .next x true) (hx : pevc σ x = .v (.pointer (some ⟨b, 0, none⟩))) (hu : PUpd ρ (.raw (itr b s pos)) (.raw (itr b s (pos + (Utf8.decode s pos).2))) ρ1) (h1 : pos < s.size → K (.tup [.v (.bool true), .v (.int .i64 (pos : Int)), .v (.int .i32 ((Utf8.decode s pos).1 : Int))]) ρ1) (h2 : s.size ≤ pos → K (.tup [.v (.bool false)]) ρ) : POpL o σ ρ K := fun κ σ' ρ' g hs hr β hi Nx hk => by
 have e1 := hs.v1 hx
 have hr0 := hr
 obtain ⟨r0, l1, l2, rfl, h4, h5⟩ := hr.upd hu
 cases h4 with
 | raw =>
  have hb : κ.w.heap[b]? = some (.stringIter s pos) := hi.own (itr b s pos) (by simp)
  have hg : (getObj b).run Tryz.prog κ.w = .ok (.stringIter s pos) κ.w := by simp [getObj, Sem.run, hb]
  have hset : ∀ ob, (setObj b ob).run Tryz.prog κ.w = .ok () { κ.w with heap := κ.w.heap.setIfInBounds b ob } := fun ob => by simp [setObj, Sem.run, hb]
  rcases Nat.lt_or_ge pos s.size with hlt | hge
  ·have hrun : (execOp (ev σ') o).run Tryz.prog κ.w = .ok (.value (.tuple #[.bool true, goInt pos, .int .i32 ((Utf8.decode s pos).1 : Int)])) { κ.w with heap := κ.w.heap.setIfInBounds b (.stringIter s (pos + (Utf8.decode s pos).2)) } := by
    simp [execOp, ho, e1, Instr.next, hg, hlt, hset]
   rw [hrun]
   obtain ⟨i1, i2⟩ := hi.turn (r := itr b s pos) (r' := itr b s (pos + (Utf8.decode s pos).2)) (b := b) (w' := { κ.w with heap := κ.w.heap.setIfInBounds b (.stringIter s (pos + (Utf8.decode s pos).2)) }) rfl rfl rfl (fun i hi => heap_set_ne hi) (by simp) (heap_set_eq hb) rfl rfl rfl (Nat.le_refl _)
   exact hk _ _ _ i1 i2 ⟨_, ρ1, .tup (ws := [_, _, _]) (.cons (.v rfl) (.cons (.v rfl) (.cons (.v rfl) .nil))), h5 _ _ i2 .raw, h1 hlt⟩
  ·have hrun : (execOp (ev σ') o).run Tryz.prog κ.w = .ok (.value (.tuple #[.bool false])) κ.w := by
    simp [execOp, ho, e1, Instr.next, hg, Nat.not_lt.2 hge]
   rw [hrun]
   exact hk _ _ κ hi (.refl _) ⟨_, ρ, .tup (ws := [_]) (.cons (.v rfl) .nil), hr0, h2 hge⟩
def isWord_body (s : ByteArray) (pos : Nat) : Option (Nat ⊕ Bool) := cond (Nat.blt pos s.size) (cond (decide (((Utf8.decode s pos).1 : Int) < 97) || decide (122 < ((Utf8.decode s pos).1 : Int))) (some (.inr false)) (some (.inl (pos + (Utf8.decode s pos).2)))) (some (.inr true))
def goods_isWord (p0 : ByteArray) : Option Bool := cond (decide ((p0.size : Int) < 1) || decide (12 < (p0.size : Int))) (some false) (loopF (isWord_body p0) FUEL 0)
attribute [local irreducible] PWL PWC PWD POpL POpQ PEv PGuardIs PSub PPick PUpd PSplice PFill PLit PF PFV PCall FOk pseqK pblockK pmidK pcutK ploopK pretK Cov PHolds loopF isWord_body
set_option maxHeartbeats 4000000 in
theorem goods_isWord_ok {p0 : ByteArray} {r : Bool} (h : goods_isWord p0 = some r) : PF 103 [pS p0] (pB r) := by
 unfold goods_isWord at h
 refine pf_of ?_
 refine penter Tryz.func103 fk103 rfl Tryz.ntmps103 Tryz.results103 rfl ?_
 (repeat refine yaa ?_)
 refine yad [] [2] [] fo0 (by kernel_rfl) ?_
 (repeat (first | apply yae | apply yab))
 (repeat refine yaa ?_)
 refine yad [] [5, 6, 7, 8, 9, 10, 11] [(12, pB (decide ((p0.size : Int) < 1) || decide (12 < (p0.size : Int))))] fo0 (by kernel_rfl) ?_
 (repeat (first | apply yae | apply yab))
 (repeat refine yaa ?_)
 refine yah rfl (fun hc => ?_) (fun hc => ?_)
 ·replace h := yap hc h
  (repeat refine yaa ?_)
  refine yad [] [] [(2, pB false)] fo0 (by kernel_rfl) ?_
  (repeat (first | apply yae | apply yab))
  (repeat refine yaa ?_)
  refine yak ?_
  (repeat (first | apply yai | apply yag | apply yax | apply pk_cut_ret))
  obtain rfl := Option.some.inj h
  exact yal (ybc (yao rfl)) zsn ⟨rfl, rfl⟩
 ·replace h := yaq hc h
  refine yaj ?_
  (repeat (first | apply yae | apply yab))
  (repeat refine yaa ?_)
  refine yaf ?_
  refine yam 1 [] [] [(13, pS p0)] fo0 (by kernel_rfl) ?_
  refine yay rfl rfl rfl (pl_range rfl rfl rfl fun b => ?_)
  refine yba ?_
  (repeat (first | apply yae | apply yab))
  (repeat refine yaa ?_)
  refine yaz (Y := Unit) (fun _ => []) (fun _ => []) (fun _ => r = true) ?_ ?_
  ·refine yan ?_
   refine ybd (Y := Unit) (S := Nat) _ h (fun _ _ => [(14, pP b 0)]) (fun _ pos => [PRes.raw (itr b p0 pos)]) () (by (repeat (first | exact zhn | apply zhc rfl))) (by (repeat (first | exact zsn | (apply zsc; (focus (repeat (first | exact zph | apply zpt))))))) ?_
   rintro _ pos o τ hb; dsimp only [pupds]
   unfold isWord_body at hb
   (repeat refine yaa ?_)
   refine yaf ?_
   refine yay rfl rfl rfl (pl_next rfl rfl zuh (fun hlt => ?_) (fun hge => ?_))
   ·have hlt' : Nat.blt pos p0.size = true := by simp [Nat.blt]; omega
    rw [hlt'] at hb; simp only [cond_true] at hb
    refine yas [] [] [(16, pB true)] fo0 (by kernel_rfl) ?_
    (repeat (first | apply yae | apply yab))
    (repeat refine yaa ?_)
    refine yah (p := true) rfl (fun _ => ?_) (fun hf => by cases hf)
    refine yaj ?_
    (repeat (first | apply yae | apply yab))
    (repeat refine yaa ?_)
    refine yan ?_
    (repeat refine yaa ?_)
    refine yad [] [17] [(4, .v (.int .i32 ((Utf8.decode p0 pos).1 : Int)))] fo0 (by kernel_rfl) ?_
    (repeat (first | apply yae | apply yab))
    (repeat refine yaa ?_)
    refine yad [] [18, 19, 20, 21, 22] [(23, pB (decide (((Utf8.decode p0 pos).1 : Int) < 97) || decide (122 < ((Utf8.decode p0 pos).1 : Int))))] fo0 (by kernel_rfl) ?_
    (repeat (first | apply yae | apply yab))
    (repeat refine yaa ?_)
    refine yah rfl (fun hc2 => ?_) (fun hc2 => ?_)
    ·replace hb := yap hc2 hb
     (repeat refine yaa ?_)
     refine yad [] [] [(2, pB false)] fo0 (by kernel_rfl) ?_
     (repeat (first | apply yae | apply yab))
     (repeat refine yaa ?_)
     refine yak ?_
     (repeat (first | apply yai | apply yag | apply yax | apply pk_cut_ret))
     refine pk_loop_ret hb (fun ht => ?_); subst ht
     (repeat (first | apply yai | apply yag | apply yax | apply pk_cut_ret))
     exact yal (ybc (yao rfl)) zsn ⟨rfl, rfl⟩
    ·replace hb := yaq hc2 hb
     refine yaj ?_
     (repeat apply yae)
     exact pk_loop hb () (by (repeat (first | exact zhn | apply zhc rfl))) (by (repeat (first | exact zsn | (apply zsc; (focus (repeat (first | exact zph | apply zpt)))))))
   ·have hge' : Nat.blt pos p0.size = false := by cases e : Nat.blt pos p0.size; rfl; exact absurd (Nat.le_of_ble_eq_true e) (by omega)
    rw [hge'] at hb; simp only [cond_false] at hb
    refine yas [] [] [(16, pB false)] fo0 (by kernel_rfl) ?_
    (repeat (first | apply yae | apply yab))
    (repeat refine yaa ?_)
    refine yah (p := false) rfl (fun hf => by cases hf) (fun _ => ?_)
    refine pwc_exit ?_
    (repeat (first | apply yav | apply pk_mid_exit | apply pk_cut_exit | apply pk_block_ne rfl))
    refine yar hb (fun ht => ?_)
    refine yau rfl ?_
    exact pk_mid () zhn zsn ht.symm
  ·rintro _ τ hz; subst hz; dsimp only [pupds]
   (repeat refine yaa ?_)
   refine yad [] [] [(2, pB true)] fo0 (by kernel_rfl) ?_
   (repeat (first | apply yae | apply yab))
   (repeat refine yaa ?_)
   refine yak ?_
   (repeat (first | apply yai | apply yag | apply yax | apply pk_cut_ret))
   exact yal (ybc (yao rfl)) zsn ⟨rfl, rfl⟩
end SX
end Go.Proofs.YtiijbkaiipjpkaaGreatDoor
