/- A part of the proof: texts of the walk and of the plain laws, merged. No condition. -/
import Derived.Test.YtiijbkaiipjpkaaGreatDoorM3
import Derived.Test.YtiijbkaiipjpkaaGreatDoorChecked
import Derived.KernelRfl
import Derived.WalkKit
import Derived.OrdersHeld
import Derived.Laws.CopyRow
import Derived.Laws.StructEq
import Derived.Maps.AppendAt
import Derived.Laws.MakeOwn
import Derived.Laws.BytesArg
import Derived.Laws.Externs
import Derived.Laws.Cover3
import Derived.MapKept
import Derived.Laws.RangeAny
import Derived.Laws.RangeString
import Derived.Shelf.Slices.In.SortNone
import Derived.Shelf.Sort.Plain
import Derived.Test.YtiijbkaiipjpkaaGreatDoorProg
import Derived.Shelf.SlSortCmp.NoneTotal
import Derived.Ground.SlsfProg
import Derived.ChangeArms
import Derived.DataReads
import GoSem.ClaimJoined
import Derived.Test.YtiijbkaiipjpkaaGreatDoorRows
import Derived.ChangeSame
import Derived.ChangeVars
import Derived.JoinedOf
import Derived.RowKit
import Derived.RowKitTokens
import Derived.LaidLaws
import Derived.LaidHandle
import Derived.Carry
import Derived.Handed
import Derived.ChangeOld
import Derived.SevenTiedAt
import Derived.Test.YtiijbkaiipjpkaaGreatDoorCards
import Derived.Test.YtiijbkaiipjpkaaGreatDoorTie
set_option linter.unusedVariables false
set_option linter.unusedSimpArgs false
set_option maxRecDepth 100000
namespace Go.Proofs.YtiijbkaiipjpkaaGreatDoor
namespace SX
open Go
attribute [local irreducible] PWL PWC PWD POpL POpQ PEv PGuardIs PSub PPick PUpd PSplice PFill PLit PF PFV PCall FOk pseqK pblockK pmidK pcutK ploopK pretK Cov PHolds loopF idx app mk gd lb nz ge0 cat sub ssub iand ior ixor ishl ishr imin imax IntKind.wrap Int.tmod Int.tdiv Op.bytesLess strOfNums
def goods_ValidWords (p0 : (List ByteArray)) : Option Bool := cond (decide (8 < (p0.length : Int))) (some false) (Option.bind (loopF (S := Int) (T := (Unit) ⊕ (_)) (fun v2 => cond (decide (v2 < (p0.length : Int))) (Option.bind (idx p0 v2) (fun m6 => Option.bind (goods_isWord m6) (fun x7 => Option.bind (gd ((!(!x7)) && (decide (0 < v2))) (idx p0 (IntKind.i64.wrap (v2 - 1)))) (fun m8 => cond ((!x7) || ((decide (0 < v2)) && (Op.bytesLess m6.toList m8.toList || decide (m6 = m8)))) (some (.inr (.inr false))) (some (.inl (IntKind.i64.wrap (v2 + 1)))))))) (some (.inr (.inl ())))) FUEL 0) (fun q => match q with | .inl _ => some true | .inr e => some e))
set_option maxHeartbeats 4000000 in
theorem goods_ValidWords_ok {p0 : (List ByteArray)} {r : Bool}  (h : goods_ValidWords p0 = some r) : PF 73 [pL eS p0] (pB r) := by
 unfold goods_ValidWords at h
 refine pf_of ?_
 refine penter Tryz.func73 fk73 rfl Tryz.ntmps73 Tryz.results73 rfl ?_
 refine yaa ?_
 refine yad [] [2] [] fo0 (by kernel_rfl) ?_
 refine yab (yaa (yaa ?_))
 refine yad [] [5, 6] [(7, pB (decide (8 < (p0.length : Int))))] fo0 (by kernel_rfl) ?_
 refine yab ?_
 refine yah rfl (fun hc1 => ?_) (fun hc1 => ?_)
 ·replace h := yap hc1 h
  refine yaa ?_
  refine yad [] [] [(2, pB false)] fo0 (by kernel_rfl) ?_
  refine yab (yak (yai ?_))
  obtain rfl := Option.some.inj h
  exact yal (ybc (yao rfl)) zsn ⟨rfl, rfl⟩
 ·replace h := yaq hc1 h
  refine yaj (yab (yaa (yaa ?_)))
  refine yad [] [] [(8, pL eS p0), (9, pI (p0.length : Int)), (10, pI 0)] fo0 (by kernel_rfl) ?_
  refine yab ?_
  refine yac h ?_; clear h; intro q4 hq4 h
  refine yaz (Y := (Unit) × (Unit)) (fun (_, _) => []) (fun (_, _) => []) (fun (_, _) => q4 = Sum.inl ()) ?_ ?_
  ·refine yan ?_
   refine ybd (Y := Unit) (S := Int) _ hq4 (fun _ v2 => [(0, pL eS p0), (8, pL eS p0), (9, pI (p0.length : Int)), (10, pI v2)]) (fun _ v2 => []) () (zhc rfl (zhc rfl (zhc rfl (zhc rfl zhn)))) zsn ?_
   rintro _ v2 o τ hb3; (try dsimp only at hb3); dsimp only [pupds]
   refine yaa ?_
   refine yad [] [] [(11, pB (decide (v2 < (p0.length : Int))))] fo0 (by kernel_rfl) ?_
   refine yab (yaa ?_)
   refine yah rfl (fun hc5 => ?_) (fun hc5 => ?_)
   ·replace hb3 := yap hc5 hb3
    refine yaj (yab (yaa (yan (yaa ?_))))
    refine yac hb3 ?_; clear hb3; intro m6 hm6 hb3
    refine yad [] [12, 13, 14] [(3, pI v2), (4, pS m6)] (foix 1 eS hm6 fo0) (by kernel_rfl) ?_
    refine yab (yaa ?_)
    refine yac hb3 ?_; clear hb3; intro x7 hx7 hb3
    refine yac hb3 ?_; clear hb3; intro m8 hm8 hb3
    refine yad [] [15, 16, 17, 18, 19, 20, 21, 22, 23, 24, 25, 26, 27, 28, 29] [(30, pB ((!x7) || ((decide (0 < v2)) && (Op.bytesLess m6.toList m8.toList || decide (m6 = m8)))))] (focl 1 (goods_isWord_ok hx7) (foixg 11 eS (gd_t hm8) fo0)) (by kernel_rfl) ?_
    refine yab ?_
    refine yah rfl (fun hc9 => ?_) (fun hc9 => ?_)
    ·replace hb3 := yap hc9 hb3
     refine yaa ?_
     refine yad [] [] [(2, pB false)] fo0 (by kernel_rfl) ?_
     refine yab (yak (yag (yai ?_)))
     refine pk_loop_ret hb3 (fun ht => ?_); subst ht
     have h := (show some _ = some _ from h)
     refine yag (yax ?_)
     obtain rfl := Option.some.inj h
     exact yal (ybc (yao rfl)) zsn ⟨rfl, rfl⟩
    ·replace hb3 := yaq hc9 hb3
     refine yaj (yae (yab ?_))
     refine yad [] [31] [(10, pI (IntKind.i64.wrap (v2 + 1)))] fo0 (by kernel_rfl) ?_
     exact pk_loop hb3 () (zhc rfl (zhc rfl (zhc rfl (zhc rfl zhn)))) zsn
   ·replace hb3 := yaq hc5 hb3
    refine pwc_exit (yav ?_)
    refine yar hb3 (fun ht => ?_)
    refine yau rfl ?_
    exact pk_mid ((), ()) zhn zsn ht.symm
  ·rintro ⟨_, _⟩ τ hz; (try dsimp only at hz); subst q4; (try dsimp only at h); dsimp only [pupds]
   refine yaa ?_
   refine yad [] [] [(2, pB true)] fo0 (by kernel_rfl) ?_
   refine yab (yak ?_)
   obtain rfl := Option.some.inj h
   exact yal (ybc (yao rfl)) zsn ⟨rfl, rfl⟩
def rule_validCodes (p0 : (List ByteArray)) : Option Bool := cond (decide (6 < (p0.length : Int))) (some false) (Option.bind (loopF (S := Int) (T := (Unit) ⊕ (_)) (fun v2 => cond (decide (v2 < (p0.length : Int))) (Option.bind (idx p0 v2) (fun m6 => Option.bind (nomenclature_Level m6) (fun x7 => Option.bind (gd ((!(x7 == 0)) && (decide (0 < v2))) (idx p0 (IntKind.i64.wrap (v2 - 1)))) (fun m8 => cond ((x7 == 0) || ((decide (0 < v2)) && (Op.bytesLess m6.toList m8.toList || decide (m6 = m8)))) (some (.inr (.inr false))) (some (.inl (IntKind.i64.wrap (v2 + 1)))))))) (some (.inr (.inl ())))) FUEL 0) (fun q => match q with | .inl _ => some true | .inr e => some e))
set_option maxHeartbeats 4000000 in
theorem rule_validCodes_ok {p0 : (List ByteArray)} {r : Bool}  (h : rule_validCodes p0 = some r) : PF 111 [pL eS p0] (pB r) := by
 unfold rule_validCodes at h
 refine pf_of ?_
 refine penter Tryz.func111 fk111 rfl Tryz.ntmps111 Tryz.results111 rfl ?_
 refine yaa ?_
 refine yad [] [2] [] fo0 (by kernel_rfl) ?_
 refine yab (yaa (yaa ?_))
 refine yad [] [5, 6] [(7, pB (decide (6 < (p0.length : Int))))] fo0 (by kernel_rfl) ?_
 refine yab ?_
 refine yah rfl (fun hc1 => ?_) (fun hc1 => ?_)
 ·replace h := yap hc1 h
  refine yaa ?_
  refine yad [] [] [(2, pB false)] fo0 (by kernel_rfl) ?_
  refine yab (yak (yai ?_))
  obtain rfl := Option.some.inj h
  exact yal (ybc (yao rfl)) zsn ⟨rfl, rfl⟩
 ·replace h := yaq hc1 h
  refine yaj (yab (yaa (yaa ?_)))
  refine yad [] [] [(8, pL eS p0), (9, pI (p0.length : Int)), (10, pI 0)] fo0 (by kernel_rfl) ?_
  refine yab ?_
  refine yac h ?_; clear h; intro q4 hq4 h
  refine yaz (Y := (Unit) × (Unit)) (fun (_, _) => []) (fun (_, _) => []) (fun (_, _) => q4 = Sum.inl ()) ?_ ?_
  ·refine yan ?_
   refine ybd (Y := Unit) (S := Int) _ hq4 (fun _ v2 => [(0, pL eS p0), (8, pL eS p0), (9, pI (p0.length : Int)), (10, pI v2)]) (fun _ v2 => []) () (zhc rfl (zhc rfl (zhc rfl (zhc rfl zhn)))) zsn ?_
   rintro _ v2 o τ hb3; (try dsimp only at hb3); dsimp only [pupds]
   refine yaa ?_
   refine yad [] [] [(11, pB (decide (v2 < (p0.length : Int))))] fo0 (by kernel_rfl) ?_
   refine yab (yaa ?_)
   refine yah rfl (fun hc5 => ?_) (fun hc5 => ?_)
   ·replace hb3 := yap hc5 hb3
    refine yaj (yab (yaa (yan (yaa ?_))))
    refine yac hb3 ?_; clear hb3; intro m6 hm6 hb3
    refine yad [] [12, 13, 14] [(3, pI v2), (4, pS m6)] (foix 1 eS hm6 fo0) (by kernel_rfl) ?_
    refine yab (yaa ?_)
    refine yac hb3 ?_; clear hb3; intro x7 hx7 hb3
    refine yac hb3 ?_; clear hb3; intro m8 hm8 hb3
    refine yad [] [15, 16, 17, 18, 19, 20, 21, 22, 23, 24, 25, 26, 27, 28, 29] [(30, pB ((x7 == 0) || ((decide (0 < v2)) && (Op.bytesLess m6.toList m8.toList || decide (m6 = m8)))))] (focl 1 (nomenclature_Level_ok hx7) (foixg 11 eS (gd_t hm8) fo0)) (by kernel_rfl) ?_
    refine yab ?_
    refine yah rfl (fun hc9 => ?_) (fun hc9 => ?_)
    ·replace hb3 := yap hc9 hb3
     refine yaa ?_
     refine yad [] [] [(2, pB false)] fo0 (by kernel_rfl) ?_
     refine yab (yak (yag (yai ?_)))
     refine pk_loop_ret hb3 (fun ht => ?_); subst ht
     have h := (show some _ = some _ from h)
     refine yag (yax ?_)
     obtain rfl := Option.some.inj h
     exact yal (ybc (yao rfl)) zsn ⟨rfl, rfl⟩
    ·replace hb3 := yaq hc9 hb3
     refine yaj (yae (yab ?_))
     refine yad [] [31] [(10, pI (IntKind.i64.wrap (v2 + 1)))] fo0 (by kernel_rfl) ?_
     exact pk_loop hb3 () (zhc rfl (zhc rfl (zhc rfl (zhc rfl zhn)))) zsn
   ·replace hb3 := yaq hc5 hb3
    refine pwc_exit (yav ?_)
    refine yar hb3 (fun ht => ?_)
    refine yau rfl ?_
    exact pk_mid ((), ()) zhn zsn ht.symm
  ·rintro ⟨_, _⟩ τ hz; (try dsimp only at hz); subst q4; (try dsimp only at h); dsimp only [pupds]
   refine yaa ?_
   refine yad [] [] [(2, pB true)] fo0 (by kernel_rfl) ?_
   refine yab (yak ?_)
   obtain rfl := Option.some.inj h
   exact yal (ybc (yao rfl)) zsn ⟨rfl, rfl⟩
def rule_valid_B (rec : TRule → Option Bool) (p0 : TRule) : Option Bool := Option.bind (rule_plain p0) (fun x2 => cond (!x2) (some false) (cond (p0.Kind == 1) (some true) (cond (p0.Kind == 2) (Option.bind (gd (((p0.Digits == 2) || (p0.Digits == 4)) || (p0.Digits == 6)) (rule_validCodes p0.Except)) (fun x6 => Option.bind (gd ((((p0.Digits == 2) || (p0.Digits == 4)) || (p0.Digits == 6)) && x6) (rule_millionths p0.Tolerance)) (fun x7 => some (((((p0.Digits == 2) || (p0.Digits == 4)) || (p0.Digits == 6)) && x6) && x7)))) (cond (p0.Kind == 3) (Option.bind (rule_millionths p0.Limit) (fun x9 => some x9)) (cond (p0.Kind == 4) (Option.bind (goods_ValidWords [p0.Name]) (fun x13 => some x13)) (Option.bind (cond (p0.Kind == 5) (some (p0.Kind == 5)) (some (p0.Kind == 6))) (fun v14 => cond v14 (cond ((decide ((p0.Args.length : Int) < 2)) || (decide (6 < (p0.Args.length : Int)))) (some false) (Option.bind (loopF (S := Int) (T := (Unit) ⊕ (_)) (fun v19 => cond (decide (v19 < (p0.Args.length : Int))) (Option.bind (idx p0.Args v19) (fun m23 => Option.bind (gd (!(m23.Kind == p0.Kind)) (rec m23)) (fun x25 => cond ((m23.Kind == p0.Kind) || (!x25)) (some (.inr (.inr false))) (some (.inl (IntKind.i64.wrap (v19 + 1))))))) (some (.inr (.inl ())))) FUEL 0) (fun q => match q with | .inl _ => some true | .inr e => some e))) (some false))))))))
set_option maxHeartbeats 4000000 in
theorem rule_valid_B_ok {rec : TRule → Option Bool} (hrec : ∀ {p0 : TRule} {r : Bool}, rec p0 = some r → PF 83 [.agg [pI p0.Kind, pI p0.Digits, pL eS p0.Except, pI p0.Tolerance, pI p0.Limit, pS p0.Name, pL TRule.enc p0.Args]] (pB r)) {p0 : TRule} {r : Bool} (h : rule_valid_B rec p0 = some r) : PF 83 [.agg [pI p0.Kind, pI p0.Digits, pL eS p0.Except, pI p0.Tolerance, pI p0.Limit, pS p0.Name, pL TRule.enc p0.Args]] (pB r) := by
 unfold rule_valid_B at h
 refine pf_of ?_
 refine penter Tryz.func83 fk83 rfl Tryz.ntmps83 Tryz.results83 rfl ?_
 refine yaa (yaf ?_)
 refine yay rfl rfl rfl (pl_box (cs := [pI p0.Kind, pI p0.Digits, pL eS p0.Except, pI p0.Tolerance, pI p0.Limit, pS p0.Name, pL TRule.enc p0.Args]) rfl rfl (fun b1 => ?_))
 refine yas [] [2] [] fo0 (by kernel_rfl) ?_
 refine yab (yaa (yaa ?_))
 refine yac h ?_; clear h; intro x2 hx2 h
 refine yad [0] [6, 7] [(8, pB (!x2))] (focl 1 (rule_plain_ok hx2) fo0) (by kernel_rfl) ?_
 refine yab ?_
 refine yah rfl (fun hc3 => ?_) (fun hc3 => ?_)
 ·replace h := yap hc3 h
  refine yaa ?_
  refine yad [] [] [(2, pB false)] fo0 (by kernel_rfl) ?_
  refine yab (yak (yai ?_))
  obtain rfl := Option.some.inj h
  exact yal (ybc (yao rfl)) zsn ⟨rfl, rfl⟩
 ·replace h := yaq hc3 h
  refine yaj (yab (yaa (yaa ?_)))
  refine yad [0] [9] [(10, pI p0.Kind)] fo0 (by kernel_rfl) ?_
  refine yab (yan (yaa ?_))
  refine yad [] [12] [(11, pB (p0.Kind == 1))] fo0 (by kernel_rfl) ?_
  refine yab ?_
  refine yah rfl (fun hc4 => ?_) (fun hc4 => ?_)
  ·replace h := yap hc4 h
   refine yaa ?_
   refine yad [] [] [(2, pB true)] fo0 (by kernel_rfl) ?_
   refine yab (yak (yag (yai ?_)))
   obtain rfl := Option.some.inj h
   exact yal (ybc (yao rfl)) zsn ⟨rfl, rfl⟩
  ·replace h := yaq hc4 h
   refine yaa ?_
   refine yad [] [14] [(13, pB (p0.Kind == 2))] fo0 (by kernel_rfl) ?_
   refine yab ?_
   refine yah rfl (fun hc5 => ?_) (fun hc5 => ?_)
   ·replace h := yap hc5 h
    refine yaa ?_
    refine yad [0, 0, 0] [15, 16, 17, 18, 19, 20, 21, 22, 23, 24, 25, 26, 27] [(3, pB (((p0.Digits == 2) || (p0.Digits == 4)) || (p0.Digits == 6)))] fo0 (by kernel_rfl) ?_
    refine yab (yaa ?_)
    refine yac h ?_; clear h; intro x6 hx6 h
    refine yac h ?_; clear h; intro x7 hx7 h
    refine yad [0, 0] [28, 29, 30, 31, 32, 33, 34, 35, 36, 37, 38] [(2, pB (((((p0.Digits == 2) || (p0.Digits == 4)) || (p0.Digits == 6)) && x6) && x7))] (foclg 4 (fun hc => rule_validCodes_ok (gd_t hx6 hc)) (foclg 9 (fun hc => rule_millionths_ok (gd_t hx7 hc)) fo0)) (by kernel_rfl) ?_
    refine yab (yak (yag (yai ?_)))
    obtain rfl := Option.some.inj h
    exact yal (ybc (yao rfl)) zsn ⟨rfl, rfl⟩
   ·replace h := yaq hc5 h
    refine yaa ?_
    refine yad [] [40] [(39, pB (p0.Kind == 3))] fo0 (by kernel_rfl) ?_
    refine yab ?_
    refine yah rfl (fun hc8 => ?_) (fun hc8 => ?_)
    ·replace h := yap hc8 h
     refine yaa ?_
     refine yac h ?_; clear h; intro x9 hx9 h
     refine yad [0] [41, 42, 43] [(2, pB x9)] (focl 2 (rule_millionths_ok hx9) fo0) (by kernel_rfl) ?_
     refine yab (yak (yag (yai ?_)))
     obtain rfl := Option.some.inj h
     exact yal (ybc (yao rfl)) zsn ⟨rfl, rfl⟩
    ·replace h := yaq hc8 h
     refine yaa ?_
     refine yad [] [45] [(44, pB (p0.Kind == 4))] fo0 (by kernel_rfl) ?_
     refine yab ?_
     refine yah rfl (fun hc10 => ?_) (fun hc10 => ?_)
     ·replace h := yap hc10 h
      refine yaa (yaf ?_)
      refine yam 2 [0] [46] [(47, pS p0.Name)] fo0 (by kernel_rfl) ?_
      refine yay rfl rfl rfl (pl_lit rfl rfl rfl rfl rfl (zic rfl zin) rfl rfl rfl rfl (fun b11 => ?_))
      refine pwl_frzt (enc := eS) (xs := [p0.Name]) 48 rfl (by exact zph) ?_
      refine yac h ?_; clear h; intro x13 hx13 h
      refine yas [] [49] [(2, pB x13)] (focl 0 (goods_ValidWords_ok hx13) fo0) (by kernel_rfl) ?_
      refine yab (yak (yag (yai ?_)))
      obtain rfl := Option.some.inj h
      exact yal (ybc (yao rfl)) zsn ⟨rfl, rfl⟩
     ·replace h := yaq hc10 h
      refine yaa (yaa ?_)
      refine yad [] [51] [(50, pB (p0.Kind == 5))] fo0 (by kernel_rfl) ?_
      refine yab ?_
      refine yac h ?_; clear h; intro q15 hq15 h
      refine yaz (Y := (Unit) × (Bool)) (fun (_, v14) => [(1, pP b1 0), (50, pB v14)]) (fun (_, v14) => [PRes.b b1 36 [pI p0.Kind, pI p0.Digits, pL eS p0.Except, pI p0.Tolerance, pI p0.Limit, pS p0.Name, pL TRule.enc p0.Args]]) (fun (_, v14) => q15 = v14) ?_ ?_
      ·skip
       refine yah rfl (fun hc16 => ?_) (fun hc16 => ?_)
       ·replace hq15 := yap hc16 hq15
        refine yaj ?_
        obtain rfl := Option.some.inj hq15
        exact pk_mid ((), (p0.Kind == 5)) (zhc rfl (zhc rfl zhn)) (zsc zph zsn) rfl
       ·replace hq15 := yaq hc16 hq15
        refine yad [] [52] [(50, pB (p0.Kind == 6))] fo0 (by kernel_rfl) ?_
        obtain rfl := Option.some.inj hq15
        exact pk_mid ((), (p0.Kind == 6)) (zhc rfl (zhc rfl zhn)) (zsc zph zsn) rfl
      ·rintro ⟨_, v14⟩ τ hz; (try dsimp only at hz); subst q15; (try dsimp only at h); dsimp only [pupds]
       refine yah rfl (fun hc17 => ?_) (fun hc17 => ?_)
       ·replace h := yap hc17 h
        refine yaa (yaa ?_)
        refine yad [0, 0] [53, 54, 55, 56, 57, 58, 59, 60, 61] [(62, pB ((decide ((p0.Args.length : Int) < 2)) || (decide (6 < (p0.Args.length : Int)))))] fo0 (by kernel_rfl) ?_
        refine yab ?_
        refine yah rfl (fun hc18 => ?_) (fun hc18 => ?_)
        ·replace h := yap hc18 h
         refine yaa ?_
         refine yad [] [] [(2, pB false)] fo0 (by kernel_rfl) ?_
         refine yab (yak (yai (yag (yai ?_))))
         obtain rfl := Option.some.inj h
         exact yal (ybc (yao rfl)) zsn ⟨rfl, rfl⟩
        ·replace h := yaq hc18 h
         refine yaj (yab (yaa (yaa ?_)))
         refine yad [0] [63] [(64, pL TRule.enc p0.Args), (65, pI (p0.Args.length : Int)), (66, pI 0)] fo0 (by kernel_rfl) ?_
         refine yab ?_
         refine yac h ?_; clear h; intro q21 hq21 h
         refine yaz (Y := (Unit) × (Unit)) (fun (_, _) => []) (fun (_, _) => []) (fun (_, _) => q21 = Sum.inl ()) ?_ ?_
         ·refine yan ?_
          refine ybd (Y := Unit) (S := Int) _ hq21 (fun _ v19 => [(1, pP b1 0), (64, pL TRule.enc p0.Args), (65, pI (p0.Args.length : Int)), (66, pI v19)]) (fun _ v19 => [PRes.b b1 36 [pI p0.Kind, pI p0.Digits, pL eS p0.Except, pI p0.Tolerance, pI p0.Limit, pS p0.Name, pL TRule.enc p0.Args]]) () (zhc rfl (zhc rfl (zhc rfl (zhc rfl zhn)))) (zsc zph zsn) ?_
          rintro _ v19 o τ hb20; (try dsimp only at hb20); dsimp only [pupds]
          refine yaa ?_
          refine yad [] [] [(67, pB (decide (v19 < (p0.Args.length : Int))))] fo0 (by kernel_rfl) ?_
          refine yab (yaa ?_)
          refine yah rfl (fun hc22 => ?_) (fun hc22 => ?_)
          ·replace hb20 := yap hc22 hb20
           refine yaj (yab (yaa (yan (yaa ?_))))
           refine yac hb20 ?_; clear hb20; intro m23 hm23 hb20
           refine yaf ?_
           refine yam 2 [] [68] [(69, .agg [pI m23.Kind, pI m23.Digits, pL eS m23.Except, pI m23.Tolerance, pI m23.Limit, pS m23.Name, pL TRule.enc m23.Args])] (foixr 0 TRule.enc (TRule.enc_eq _) hm23 fo0) (by kernel_rfl) ?_
           refine yay rfl rfl rfl (pl_alloc (cs := [pI 0, pI 0, pN, pI 0, pI 0, pS ByteArray.empty, pN]) rfl rfl rfl rfl (fun b24 => ?_))
           refine pwl_l0 rfl rfl (yaw (vs := [pI m23.Kind, pI m23.Digits, pL eS m23.Except, pI m23.Tolerance, pI m23.Limit, pS m23.Name, pL TRule.enc m23.Args]) rfl rfl rfl rfl rfl zuh (zlc (zlc (zlc (zlc (zlc (zlc (zlc zln))))))) ?_)
           refine yba (yab (yaa ?_))
           refine yac hb20 ?_; clear hb20; intro x25 hx25 hb20
           refine yad [0, 1, 0] [70, 71, 72, 73, 74, 75, 76, 77, 78] [(79, pB ((m23.Kind == p0.Kind) || (!x25)))] (foclg 7 (fun hc => hrec (gd_t hx25 hc)) fo0) (by kernel_rfl) ?_
           refine yab ?_
           refine yah rfl (fun hc26 => ?_) (fun hc26 => ?_)
           ·replace hb20 := yap hc26 hb20
            refine yaa ?_
            refine yad [] [] [(2, pB false)] fo0 (by kernel_rfl) ?_
            refine yab (yak (yag (yai ?_)))
            refine pk_loop_ret hb20 (fun ht => ?_); subst ht
            have h := (show some _ = some _ from h)
            refine yag (yax (yag (yai ?_)))
            obtain rfl := Option.some.inj h
            exact yal (ybc (yao rfl)) zsn ⟨rfl, rfl⟩
           ·replace hb20 := yaq hc26 hb20
            refine yaj (yae (yab ?_))
            refine yad [] [80] [(66, pI (IntKind.i64.wrap (v19 + 1)))] fo0 (by kernel_rfl) ?_
            exact pk_loop hb20 () (zhc rfl (zhc rfl (zhc rfl (zhc rfl zhn)))) (zsc (zpt zph) zsn)
          ·replace hb20 := yaq hc22 hb20
           refine pwc_exit (yav ?_)
           refine yar hb20 (fun ht => ?_)
           refine yau rfl ?_
           exact pk_mid ((), ()) zhn zsn ht.symm
         ·rintro ⟨_, _⟩ τ hz; (try dsimp only at hz); subst q21; (try dsimp only at h); dsimp only [pupds]
          refine yaa ?_
          refine yad [] [] [(2, pB true)] fo0 (by kernel_rfl) ?_
          refine yab (yak (yag (yai ?_)))
          obtain rfl := Option.some.inj h
          exact yal (ybc (yao rfl)) zsn ⟨rfl, rfl⟩
       ·replace h := yaq hc17 h
        refine yaj (yae (yab (yaa ?_)))
        refine yad [] [] [(2, pB false)] fo0 (by kernel_rfl) ?_
        refine yab (yak ?_)
        obtain rfl := Option.some.inj h
        exact yal (ybc (yao rfl)) zsn ⟨rfl, rfl⟩
def rule_valid_F (n : Nat) : TRule → Option Bool := Nat.rec (motive := fun _ => TRule → Option Bool) (fun _ => none) (fun _ ih => rule_valid_B ih) n
def rule_valid (p0 : TRule) : Option Bool := rule_valid_F FUEL p0
theorem rule_valid_Fok (n : Nat) : ∀ {p0 : TRule} {r : Bool}, rule_valid_F n p0 = some r → PF 83 [.agg [pI p0.Kind, pI p0.Digits, pL eS p0.Except, pI p0.Tolerance, pI p0.Limit, pS p0.Name, pL TRule.enc p0.Args]] (pB r) := by
 induction n with
 | zero => intros; rename_i h; exact nomatch h
 | succ n ih => intros; rename_i h; exact rule_valid_B_ok (fun hr => ih hr) h
theorem rule_valid_ok {p0 : TRule} {r : Bool} (h : rule_valid p0 = some r) : PF 83 [.agg [pI p0.Kind, pI p0.Digits, pL eS p0.Except, pI p0.Tolerance, pI p0.Limit, pS p0.Name, pL TRule.enc p0.Args]] (pB r) := rule_valid_Fok FUEL h
def rule_Validate (p0 : TRule) : Option Int := Option.bind (rule_nodes p0 33) (fun x2 => cond (decide (32 < x2)) (some 8) (Option.bind (rule_valid p0) (fun x4 => cond (!x4) (some 1) (some 0))))
set_option maxHeartbeats 4000000 in
theorem rule_Validate_ok {p0 : TRule} {r : Int}  (h : rule_Validate p0 = some r) : PF 55 [.agg [pI p0.Kind, pI p0.Digits, pL eS p0.Except, pI p0.Tolerance, pI p0.Limit, pS p0.Name, pL TRule.enc p0.Args]] (pI r) := by
 unfold rule_Validate at h
 refine pf_of ?_
 refine penter Tryz.func55 fk55 rfl Tryz.ntmps55 Tryz.results55 rfl ?_
 refine yaa (yaf ?_)
 refine yay rfl rfl rfl (pl_box (cs := [pI p0.Kind, pI p0.Digits, pL eS p0.Except, pI p0.Tolerance, pI p0.Limit, pS p0.Name, pL TRule.enc p0.Args]) rfl rfl (fun b1 => ?_))
 refine yas [] [2] [] fo0 (by kernel_rfl) ?_
 refine yab (yaa (yaa ?_))
 refine yac h ?_; clear h; intro x2 hx2 h
 refine yad [0] [3, 4] [(5, pB (decide (32 < x2)))] (focl 1 (rule_nodes_ok hx2) fo0) (by kernel_rfl) ?_
 refine yab ?_
 refine yah rfl (fun hc3 => ?_) (fun hc3 => ?_)
 ·replace h := yap hc3 h
  refine yaa ?_
  refine yad [] [] [(2, pI 8)] fo0 (by kernel_rfl) ?_
  refine yab (yak (yai ?_))
  obtain rfl := Option.some.inj h
  exact yal (ybc (yao rfl)) zsn ⟨rfl, rfl⟩
 ·replace h := yaq hc3 h
  refine yaj (yab (yaa (yaa ?_)))
  refine yac h ?_; clear h; intro x4 hx4 h
  refine yad [0] [6, 7] [(8, pB (!x4))] (focl 1 (rule_valid_ok hx4) fo0) (by kernel_rfl) ?_
  refine yab ?_
  refine yah rfl (fun hc5 => ?_) (fun hc5 => ?_)
  ·replace h := yap hc5 h
   refine yaa ?_
   refine yad [] [] [(2, pI 1)] fo0 (by kernel_rfl) ?_
   refine yab (yak (yai ?_))
   obtain rfl := Option.some.inj h
   exact yal (ybc (yao rfl)) zsn ⟨rfl, rfl⟩
  ·replace h := yaq hc5 h
   refine yaj (yab (yaa ?_))
   refine yad [] [] [(2, pI 0)] fo0 (by kernel_rfl) ?_
   refine yab (yak ?_)
   obtain rfl := Option.some.inj h
   exact yal (ybc (yao rfl)) zsn ⟨rfl, rfl⟩
def cumulation_validateRules (p0 : (List TRuleFor)) : Option Int := Option.bind (loopF (S := Int) (T := (Unit) ⊕ (_)) (fun v1 => cond (decide (v1 < (p0.length : Int))) (Option.bind (idx p0 v1) (fun m5 => Option.bind (nomenclature_Level m5.Prefix) (fun x7 => cond (x7 == 0) (some (.inr (.inr 1))) (Option.bind (gd (decide (0 < v1)) (idx p0 (IntKind.i64.wrap (v1 - 1)))) (fun m9 => cond ((decide (0 < v1)) && (Op.bytesLess m5.Prefix.toList m9.Prefix.toList || decide (m5.Prefix = m9.Prefix))) (some (.inr (.inr 9))) (Option.bind (rule_Validate m5.Rule) (fun x11 => cond (x11 != 0) (some (.inr (.inr x11))) (some (.inl (IntKind.i64.wrap (v1 + 1))))))))))) (some (.inr (.inl ())))) FUEL 0) (fun q => match q with | .inl _ => some 0 | .inr e => some e)
set_option maxHeartbeats 4000000 in
theorem cumulation_validateRules_ok {p0 : (List TRuleFor)} {r : Int}  (h : cumulation_validateRules p0 = some r) : PF 45 [pL TRuleFor.enc p0] (pI r) := by
 unfold cumulation_validateRules at h
 refine pf_of ?_
 refine penter Tryz.func45 fk45 rfl Tryz.ntmps45 Tryz.results45 rfl ?_
 refine yaa ?_
 refine yad [] [2] [] fo0 (by kernel_rfl) ?_
 refine yab (yaa (yaa ?_))
 refine yad [] [] [(6, pL TRuleFor.enc p0), (7, pI (p0.length : Int)), (8, pI 0)] fo0 (by kernel_rfl) ?_
 refine yab ?_
 refine yac h ?_; clear h; intro q3 hq3 h
 refine yaz (Y := (Unit) × (Unit)) (fun (_, _) => []) (fun (_, _) => []) (fun (_, _) => q3 = Sum.inl ()) ?_ ?_
 ·refine yan ?_
  refine ybd (Y := Unit) (S := Int) _ hq3 (fun _ v1 => [(0, pL TRuleFor.enc p0), (6, pL TRuleFor.enc p0), (7, pI (p0.length : Int)), (8, pI v1)]) (fun _ v1 => []) () (zhc rfl (zhc rfl (zhc rfl (zhc rfl zhn)))) zsn ?_
  rintro _ v1 o τ hb2; (try dsimp only at hb2); dsimp only [pupds]
  refine yaa ?_
  refine yad [] [] [(9, pB (decide (v1 < (p0.length : Int))))] fo0 (by kernel_rfl) ?_
  refine yab (yaa ?_)
  refine yah rfl (fun hc4 => ?_) (fun hc4 => ?_)
  ·replace hb2 := yap hc4 hb2
   refine yaj (yab (yaa (yan (yaa ?_))))
   refine yac hb2 ?_; clear hb2; intro m5 hm5 hb2
   refine yaf ?_
   refine yam 3 [] [11] [(10, pI v1), (12, .agg [pS m5.Prefix, pI m5.Rule.Kind, pI m5.Rule.Digits, pL eS m5.Rule.Except, pI m5.Rule.Tolerance, pI m5.Rule.Limit, pS m5.Rule.Name, pL TRule.enc m5.Rule.Args])] (foix 1 TRuleFor.enc hm5 fo0) (by kernel_rfl) ?_
   refine yay rfl rfl rfl (pl_alloc (cs := [pS ByteArray.empty, pI 0, pI 0, pN, pI 0, pI 0, pS ByteArray.empty, pN]) rfl rfl rfl rfl (fun b6 => ?_))
   refine yam 1 [] [] [(3, pI v1)] fo0 (by kernel_rfl) ?_
   refine pwl_l0 rfl rfl (yaw (vs := [pS m5.Prefix, pI m5.Rule.Kind, pI m5.Rule.Digits, pL eS m5.Rule.Except, pI m5.Rule.Tolerance, pI m5.Rule.Limit, pS m5.Rule.Name, pL TRule.enc m5.Rule.Args]) rfl rfl rfl rfl rfl zuh (zlc (zlc (zlc (zlc (zlc (zlc (zlc (zlc zln)))))))) ?_)
   refine yba (yab (yaa (yaa ?_)))
   refine yac hb2 ?_; clear hb2; intro x7 hx7 hb2
   refine yad [0] [13, 14, 15] [(16, pB (x7 == 0))] (focl 2 (nomenclature_Level_ok hx7) fo0) (by kernel_rfl) ?_
   refine yab ?_
   refine yah rfl (fun hc8 => ?_) (fun hc8 => ?_)
   ·replace hb2 := yap hc8 hb2
    refine yaa ?_
    refine yad [] [] [(2, pI 1)] fo0 (by kernel_rfl) ?_
    refine yab (yak (yai (yag (yai ?_))))
    refine pk_loop_ret hb2 (fun ht => ?_); subst ht
    have h := (show some _ = some _ from h)
    refine yag (yax ?_)
    obtain rfl := Option.some.inj h
    exact yal (ybc (yao rfl)) zsn ⟨rfl, rfl⟩
   ·replace hb2 := yaq hc8 hb2
    refine yaj (yab (yaa (yaa ?_)))
    refine pwc_draw (ρd := []) [(0, 0), (1, 0), (2, 0), (3, 0), (4, 0), (5, 0), (6, 0), (7, 0), (8, 0), (9, 0), (10, 0), (11, 0), (12, 0)] _ (List.Perm.refl _) (by kernel_rfl) rfl ?_
    refine yac hb2 ?_; clear hb2; intro m9 hm9 hb2
    refine pwd_run 13 [0] [17, 18, 19, 20, 21, 22, 23, 24, 25, 26, 27, 28] [(29, pB ((decide (0 < v1)) && (Op.bytesLess m5.Prefix.toList m9.Prefix.toList || decide (m5.Prefix = m9.Prefix))))] (foixg 8 TRuleFor.enc (gd_t hm9) fo0) (by kernel_rfl) ?_
    refine pwd_nil (yab ?_)
    refine yah rfl (fun hc10 => ?_) (fun hc10 => ?_)
    ·replace hb2 := yap hc10 hb2
     refine yaa ?_
     refine yad [] [] [(2, pI 9)] fo0 (by kernel_rfl) ?_
     refine yab (yak (yai (yag (yai ?_))))
     refine pk_loop_ret hb2 (fun ht => ?_); subst ht
     have h := (show some _ = some _ from h)
     refine yag (yax ?_)
     obtain rfl := Option.some.inj h
     exact yal (ybc (yao rfl)) zsn ⟨rfl, rfl⟩
    ·replace hb2 := yaq hc10 hb2
     refine yaj (yab (yaa ?_))
     refine yac hb2 ?_; clear hb2; intro x11 hx11 hb2
     refine yad [0] [30, 31, 32] [(5, pI x11)] (focl 2 (rule_Validate_ok hx11) fo0) (by kernel_rfl) ?_
     refine yab (yaa ?_)
     refine yad [] [33] [(34, pB (x11 != 0))] fo0 (by kernel_rfl) ?_
     refine yab ?_
     refine yah rfl (fun hc12 => ?_) (fun hc12 => ?_)
     ·replace hb2 := yap hc12 hb2
      refine yaa ?_
      refine yad [] [35] [(2, pI x11)] fo0 (by kernel_rfl) ?_
      refine yab (yak (yag (yai ?_)))
      refine pk_loop_ret hb2 (fun ht => ?_); subst ht
      have h := (show some _ = some _ from h)
      refine yag (yax ?_)
      obtain rfl := Option.some.inj h
      exact yal (ybc (yao rfl)) zsn ⟨rfl, rfl⟩
     ·replace hb2 := yaq hc12 hb2
      refine yaj (yae (yab ?_))
      refine yad [] [36] [(8, pI (IntKind.i64.wrap (v1 + 1)))] fo0 (by kernel_rfl) ?_
      exact pk_loop hb2 () (zhc rfl (zhc rfl (zhc rfl (zhc rfl zhn)))) zsn
  ·replace hb2 := yaq hc4 hb2
   refine pwc_exit (yav ?_)
   refine yar hb2 (fun ht => ?_)
   refine yau rfl ?_
   exact pk_mid ((), ()) zhn zsn ht.symm
 ·rintro ⟨_, _⟩ τ hz; (try dsimp only at hz); subst q3; (try dsimp only at h); dsimp only [pupds]
  refine yaa ?_
  refine yad [] [] [(2, pI 0)] fo0 (by kernel_rfl) ?_
  refine yab (yak ?_)
  obtain rfl := Option.some.inj h
  exact yal (ybc (yao rfl)) zsn ⟨rfl, rfl⟩
def cumulation_Validate (p0 : (List TAgreement)) : Option Int := cond (decide (8 < (p0.length : Int))) (some 8) (Option.bind (loopF (S := Int) (T := (Unit) ⊕ (_)) (fun v2 => cond (decide (v2 < (p0.length : Int))) (Option.bind (idx p0 v2) (fun m6 => cond ((((decide (m6.ID < 1)) || (decide (1000 < m6.ID))) || (decide (m6.Kind < 1))) || (decide (3 < m6.Kind))) (some (.inr (.inr 2))) (Option.bind (gd (decide (0 < v2)) (idx p0 (IntKind.i64.wrap (v2 - 1)))) (fun m9 => cond ((decide (0 < v2)) && (decide (m6.ID ≤ m9.ID))) (some (.inr (.inr 9))) (cond ((decide (12 < (m6.Parties.length : Int))) || (decide (12 < (m6.Rules.length : Int)))) (some (.inr (.inr 8))) (Option.bind (cumulation_validParties m6.Parties) (fun x12 => cond (!x12) (some (.inr (.inr 1))) (Option.bind (cumulation_validateRules m6.Rules) (fun x14 => cond (x14 != 0) (some (.inr (.inr x14))) (some (.inl (IntKind.i64.wrap (v2 + 1))))))))))))) (some (.inr (.inl ())))) FUEL 0) (fun q => match q with | .inl _ => some 0 | .inr e => some e))
set_option maxHeartbeats 4000000 in
theorem cumulation_Validate_ok {p0 : (List TAgreement)} {r : Int}  (h : cumulation_Validate p0 = some r) : PF 11 [pL TAgreement.enc p0] (pI r) := by
 unfold cumulation_Validate at h
 refine pf_of ?_
 refine penter Tryz.func11 fk11 rfl Tryz.ntmps11 Tryz.results11 rfl ?_
 refine yaa ?_
 refine yad [] [2] [] fo0 (by kernel_rfl) ?_
 refine yab (yaa (yaa ?_))
 refine yad [] [6, 7] [(8, pB (decide (8 < (p0.length : Int))))] fo0 (by kernel_rfl) ?_
 refine yab ?_
 refine yah rfl (fun hc1 => ?_) (fun hc1 => ?_)
 ·replace h := yap hc1 h
  refine yaa ?_
  refine yad [] [] [(2, pI 8)] fo0 (by kernel_rfl) ?_
  refine yab (yak (yai ?_))
  obtain rfl := Option.some.inj h
  exact yal (ybc (yao rfl)) zsn ⟨rfl, rfl⟩
 ·replace h := yaq hc1 h
  refine yaj (yab (yaa (yaa ?_)))
  refine yad [] [] [(9, pL TAgreement.enc p0), (10, pI (p0.length : Int)), (11, pI 0)] fo0 (by kernel_rfl) ?_
  refine yab ?_
  refine yac h ?_; clear h; intro q4 hq4 h
  refine yaz (Y := (Unit) × (Unit)) (fun (_, _) => []) (fun (_, _) => []) (fun (_, _) => q4 = Sum.inl ()) ?_ ?_
  ·refine yan ?_
   refine ybd (Y := Unit) (S := Int) _ hq4 (fun _ v2 => [(0, pL TAgreement.enc p0), (9, pL TAgreement.enc p0), (10, pI (p0.length : Int)), (11, pI v2)]) (fun _ v2 => []) () (zhc rfl (zhc rfl (zhc rfl (zhc rfl zhn)))) zsn ?_
   rintro _ v2 o τ hb3; (try dsimp only at hb3); dsimp only [pupds]
   refine yaa ?_
   refine yad [] [] [(12, pB (decide (v2 < (p0.length : Int))))] fo0 (by kernel_rfl) ?_
   refine yab (yaa ?_)
   refine yah rfl (fun hc5 => ?_) (fun hc5 => ?_)
   ·replace hb3 := yap hc5 hb3
    refine yaj (yab (yaa (yan (yaa ?_))))
    refine yac hb3 ?_; clear hb3; intro m6 hm6 hb3
    refine yaf ?_
    refine yam 3 [] [14] [(13, pI v2), (15, .agg [pI m6.ID, pI m6.Kind, pL eS m6.Parties, pL TRuleFor.enc m6.Rules])] (foix 1 TAgreement.enc hm6 fo0) (by kernel_rfl) ?_
    refine yay rfl rfl rfl (pl_alloc (cs := [pI 0, pI 0, pN, pN]) rfl rfl rfl rfl (fun b7 => ?_))
    refine yam 1 [] [] [(3, pI v2)] fo0 (by kernel_rfl) ?_
    refine pwl_l0 rfl rfl (yaw (vs := [pI m6.ID, pI m6.Kind, pL eS m6.Parties, pL TRuleFor.enc m6.Rules]) rfl rfl rfl rfl rfl zuh (zlc (zlc (zlc (zlc zln)))) ?_)
    refine yba (yab (yaa (yaa ?_)))
    refine yad [0, 0, 0, 0] [16, 17, 18, 19, 20, 21, 22, 23, 24, 25, 26, 27, 28, 29, 30, 31, 32] [(33, pB ((((decide (m6.ID < 1)) || (decide (1000 < m6.ID))) || (decide (m6.Kind < 1))) || (decide (3 < m6.Kind))))] fo0 (by kernel_rfl) ?_
    refine yab ?_
    refine yah rfl (fun hc8 => ?_) (fun hc8 => ?_)
    ·replace hb3 := yap hc8 hb3
     refine yaa ?_
     refine yad [] [] [(2, pI 2)] fo0 (by kernel_rfl) ?_
     refine yab (yak (yai (yag (yai ?_))))
     refine pk_loop_ret hb3 (fun ht => ?_); subst ht
     have h := (show some _ = some _ from h)
     refine yag (yax ?_)
     obtain rfl := Option.some.inj h
     exact yal (ybc (yao rfl)) zsn ⟨rfl, rfl⟩
    ·replace hb3 := yaq hc8 hb3
     refine yaj (yab (yaa (yaa ?_)))
     refine pwc_draw (ρd := []) [(0, 0), (1, 0), (2, 0), (3, 0), (4, 0), (5, 0), (6, 0), (7, 0), (8, 0), (9, 0), (10, 0), (11, 0), (12, 0)] _ (List.Perm.refl _) (by kernel_rfl) rfl ?_
     refine yac hb3 ?_; clear hb3; intro m9 hm9 hb3
     refine pwd_run 13 [0] [34, 35, 36, 37, 38, 39, 40, 41, 42, 43, 44, 45] [(46, pB ((decide (0 < v2)) && (decide (m6.ID ≤ m9.ID))))] (foixg 8 TAgreement.enc (gd_t hm9) fo0) (by kernel_rfl) ?_
     refine pwd_nil (yab ?_)
     refine yah rfl (fun hc10 => ?_) (fun hc10 => ?_)
     ·replace hb3 := yap hc10 hb3
      refine yaa ?_
      refine yad [] [] [(2, pI 9)] fo0 (by kernel_rfl) ?_
      refine yab (yak (yai (yag (yai ?_))))
      refine pk_loop_ret hb3 (fun ht => ?_); subst ht
      have h := (show some _ = some _ from h)
      refine yag (yax ?_)
      obtain rfl := Option.some.inj h
      exact yal (ybc (yao rfl)) zsn ⟨rfl, rfl⟩
     ·replace hb3 := yaq hc10 hb3
      refine yaj (yab (yaa (yaa ?_)))
      refine yad [0, 0] [47, 48, 49, 50, 51, 52, 53, 54, 55] [(56, pB ((decide (12 < (m6.Parties.length : Int))) || (decide (12 < (m6.Rules.length : Int)))))] fo0 (by kernel_rfl) ?_
      refine yab ?_
      refine yah rfl (fun hc11 => ?_) (fun hc11 => ?_)
      ·replace hb3 := yap hc11 hb3
       refine yaa ?_
       refine yad [] [] [(2, pI 8)] fo0 (by kernel_rfl) ?_
       refine yab (yak (yai (yag (yai ?_))))
       refine pk_loop_ret hb3 (fun ht => ?_); subst ht
       have h := (show some _ = some _ from h)
       refine yag (yax ?_)
       obtain rfl := Option.some.inj h
       exact yal (ybc (yao rfl)) zsn ⟨rfl, rfl⟩
      ·replace hb3 := yaq hc11 hb3
       refine yaj (yab (yaa (yaa ?_)))
       refine yac hb3 ?_; clear hb3; intro x12 hx12 hb3
       refine yad [0] [57, 58, 59] [(60, pB (!x12))] (focl 2 (cumulation_validParties_ok hx12) fo0) (by kernel_rfl) ?_
       refine yab ?_
       refine yah rfl (fun hc13 => ?_) (fun hc13 => ?_)
       ·replace hb3 := yap hc13 hb3
        refine yaa ?_
        refine yad [] [] [(2, pI 1)] fo0 (by kernel_rfl) ?_
        refine yab (yak (yai (yag (yai ?_))))
        refine pk_loop_ret hb3 (fun ht => ?_); subst ht
        have h := (show some _ = some _ from h)
        refine yag (yax ?_)
        obtain rfl := Option.some.inj h
        exact yal (ybc (yao rfl)) zsn ⟨rfl, rfl⟩
       ·replace hb3 := yaq hc13 hb3
        refine yaj (yab (yaa ?_))
        refine yac hb3 ?_; clear hb3; intro x14 hx14 hb3
        refine yad [0] [61, 62, 63] [(5, pI x14)] (focl 2 (cumulation_validateRules_ok hx14) fo0) (by kernel_rfl) ?_
        refine yab (yaa ?_)
        refine yad [] [64] [(65, pB (x14 != 0))] fo0 (by kernel_rfl) ?_
        refine yab ?_
        refine yah rfl (fun hc15 => ?_) (fun hc15 => ?_)
        ·replace hb3 := yap hc15 hb3
         refine yaa ?_
         refine yad [] [66] [(2, pI x14)] fo0 (by kernel_rfl) ?_
         refine yab (yak (yag (yai ?_)))
         refine pk_loop_ret hb3 (fun ht => ?_); subst ht
         have h := (show some _ = some _ from h)
         refine yag (yax ?_)
         obtain rfl := Option.some.inj h
         exact yal (ybc (yao rfl)) zsn ⟨rfl, rfl⟩
        ·replace hb3 := yaq hc15 hb3
         refine yaj (yae (yab ?_))
         refine yad [] [67] [(11, pI (IntKind.i64.wrap (v2 + 1)))] fo0 (by kernel_rfl) ?_
         exact pk_loop hb3 () (zhc rfl (zhc rfl (zhc rfl (zhc rfl zhn)))) zsn
   ·replace hb3 := yaq hc5 hb3
    refine pwc_exit (yav ?_)
    refine yar hb3 (fun ht => ?_)
    refine yau rfl ?_
    exact pk_mid ((), ()) zhn zsn ht.symm
  ·rintro ⟨_, _⟩ τ hz; (try dsimp only at hz); subst q4; (try dsimp only at h); dsimp only [pupds]
   refine yaa ?_
   refine yad [] [] [(2, pI 0)] fo0 (by kernel_rfl) ?_
   refine yab (yak ?_)
   obtain rfl := Option.some.inj h
   exact yal (ybc (yao rfl)) zsn ⟨rfl, rfl⟩
def cumulation_cloneRule_B (rec : TRule → Option TRule) (p0 : TRule) : Option TRule := Option.bind (slices_Clone_string_string p0.Except) (fun x3 => Option.bind (mk0 96 (p0.Args.length : Int)) (fun u7 => Option.bind (loopF (S := (List TRule) × Int) (T := ((List TRule))) (fun (l11, v14) => cond (decide (v14 < (p0.Args.length : Int))) (Option.bind (idx p0.Args v14) (fun m23 => Option.bind (rec m23) (fun x25 => Option.bind (app 96 l11 [x25]) (fun l28 => some (.inl (l28, (IntKind.i64.wrap (v14 + 1)))))))) (some (.inr l11))) FUEL (([] : List TRule), 0)) (fun l18 => some (⟨p0.Kind, p0.Digits, x3, p0.Tolerance, p0.Limit, p0.Name, l18⟩ : TRule))))
set_option maxHeartbeats 4000000 in
theorem cumulation_cloneRule_B_ok {rec : TRule → Option TRule} (hrec : ∀ {p0 : TRule} {r : TRule}, rec p0 = some r → PF 56 [.agg [pI p0.Kind, pI p0.Digits, pL eS p0.Except, pI p0.Tolerance, pI p0.Limit, pS p0.Name, pL TRule.enc p0.Args]] (.agg [pI r.Kind, pI r.Digits, pL eS r.Except, pI r.Tolerance, pI r.Limit, pS r.Name, pL TRule.enc r.Args])) {p0 : TRule} {r : TRule} (h : cumulation_cloneRule_B rec p0 = some r) : PF 56 [.agg [pI p0.Kind, pI p0.Digits, pL eS p0.Except, pI p0.Tolerance, pI p0.Limit, pS p0.Name, pL TRule.enc p0.Args]] (.agg [pI r.Kind, pI r.Digits, pL eS r.Except, pI r.Tolerance, pI r.Limit, pS r.Name, pL TRule.enc r.Args]) := by
 unfold cumulation_cloneRule_B at h
 refine pf_of ?_
 refine penter Tryz.func56 fk56 rfl Tryz.ntmps56 Tryz.results56 rfl ?_
 refine yaa (yaf ?_)
 refine yay rfl rfl rfl (pl_box (cs := [pI p0.Kind, pI p0.Digits, pL eS p0.Except, pI p0.Tolerance, pI p0.Limit, pS p0.Name, pL TRule.enc p0.Args]) rfl rfl (fun b1 => ?_))
 refine yay rfl rfl rfl (pl_alloc (cs := [pI 0, pI 0, pN, pI 0, pI 0, pS ByteArray.empty, pN]) rfl rfl rfl rfl (fun b2 => ?_))
 refine yba (yab (yaa ?_))
 refine yac h ?_; clear h; intro x3 hx3 h
 refine yaf ?_
 refine yam 2 [1] [6] [(7, pL eS p0.Except)] fo0 (by kernel_rfl) ?_
 refine yay rfl rfl rfl (pl_callR rfl rfl (ρ1 := []) (List.Perm.refl _) (slices_Clone_string_string_ok hx3) ?_); rintro _ _ ⟨a4, c5, rfl, rfl⟩
 refine yam 1 [] [] [(9, pP b1 2)] fo0 (by kernel_rfl) ?_
 refine pwl_l0 rfl rfl (yaw (vs := [pO a4 x3.length c5]) rfl rfl rfl rfl rfl (zut (zut zuh)) (zlt (zlt (zlc zln))) ?_)
 refine yba (yab (yaa ?_))
 refine yac h ?_; clear h; intro u7 hu7 h
 refine yaf ?_
 refine yam 3 [2] [10, 11] [(12, pI (p0.Args.length : Int))] fo0 (by kernel_rfl) ?_
 refine yay rfl rfl rfl (pl_make0 rfl rfl rfl rfl rfl rfl rfl hu7 (fun b8 => ?_))
 refine yas [] [] [(3, pO (some ⟨b8, 0, none⟩) 0 ((p0.Args.length : Int).toNat))] fo0 (by kernel_rfl) ?_
 refine yab (yaa (yaa ?_))
 refine yad [3] [14] [(15, pL TRule.enc p0.Args), (16, pI (p0.Args.length : Int)), (17, pI 0)] fo0 (by kernel_rfl) ?_
 refine yab ?_
 refine yac h ?_; clear h; intro q21 hq21 h
 refine yaz (Y := (Option Addr × Nat) × ((List TRule))) (fun ((a16, c17), l18) => [(1, pP b1 0), (2, pP b2 0), (3, pO a16 l18.length c17)]) (fun ((a16, c17), l18) => [PRes.b b1 36 [pI p0.Kind, pI p0.Digits, pO a4 x3.length c5, pI p0.Tolerance, pI p0.Limit, pS p0.Name, pL TRule.enc p0.Args], PRes.b b2 36 [pI 0, pI 0, pN, pI 0, pI 0, pS ByteArray.empty, pN], PRes.row a16 l18.length c17 36 7 (List.map TRule.enc l18), PRes.row a4 x3.length c5 9 1 (List.map eS x3)]) (fun ((a16, c17), l18) => q21 = l18) ?_ ?_
 ·refine yan ?_
  refine ybd (Y := Option Addr × Nat) (S := (List TRule) × Int) _ hq21 (fun (a12, c13) (l11, v14) => [(1, pP b1 0), (2, pP b2 0), (3, pO a12 l11.length c13), (15, pL TRule.enc p0.Args), (16, pI (p0.Args.length : Int)), (17, pI v14)]) (fun (a12, c13) (l11, v14) => [PRes.b b1 36 [pI p0.Kind, pI p0.Digits, pO a4 x3.length c5, pI p0.Tolerance, pI p0.Limit, pS p0.Name, pL TRule.enc p0.Args], PRes.b b2 36 [pI 0, pI 0, pN, pI 0, pI 0, pS ByteArray.empty, pN], PRes.row a12 l11.length c13 36 7 (List.map TRule.enc l11), PRes.row a4 x3.length c5 9 1 (List.map eS x3)]) ((some ⟨b8, 0, none⟩), (p0.Args.length : Int).toNat) (zhc rfl (zhc rfl (zhc rfl (zhc rfl (zhc rfl (zhc rfl zhn)))))) (zsc (zpt (zpt (zpt zph))) (zsc (zpt (zpt zph)) (zsc zph (zsc zph zsn)))) ?_
  rintro ⟨a12, c13⟩ ⟨l11, v14⟩ o τ hb20; (try dsimp only at hb20); dsimp only [pupds]
  refine yaa ?_
  refine yad [] [] [(18, pB (decide (v14 < (p0.Args.length : Int))))] fo0 (by kernel_rfl) ?_
  refine yab (yaa ?_)
  refine yah rfl (fun hc22 => ?_) (fun hc22 => ?_)
  ·replace hb20 := yap hc22 hb20
   refine yaj (yab (yaa (yan (yaa ?_))))
   refine yac hb20 ?_; clear hb20; intro m23 hm23 hb20
   refine yaf ?_
   refine yam 2 [] [19] [(20, .agg [pI m23.Kind, pI m23.Digits, pL eS m23.Except, pI m23.Tolerance, pI m23.Limit, pS m23.Name, pL TRule.enc m23.Args])] (foixr 0 TRule.enc (TRule.enc_eq _) hm23 fo0) (by kernel_rfl) ?_
   refine yay rfl rfl rfl (pl_alloc (cs := [pI 0, pI 0, pN, pI 0, pI 0, pS ByteArray.empty, pN]) rfl rfl rfl rfl (fun b24 => ?_))
   refine pwl_l0 rfl rfl (yaw (vs := [pI m23.Kind, pI m23.Digits, pL eS m23.Except, pI m23.Tolerance, pI m23.Limit, pS m23.Name, pL TRule.enc m23.Args]) rfl rfl rfl rfl rfl zuh (zlc (zlc (zlc (zlc (zlc (zlc (zlc zln))))))) ?_)
   refine yba (yab ?_)
   refine yac hb20 ?_; clear hb20; intro x25 hx25 hb20
   refine yaf ?_
   refine yam 3 [0] [22] [(21, pO a12 l11.length c13), (23, .agg [pI x25.Kind, pI x25.Digits, pL eS x25.Except, pI x25.Tolerance, pI x25.Limit, pS x25.Name, pL TRule.enc x25.Args])] (focl 2 (hrec hx25) fo0) (by kernel_rfl) ?_
   refine yay rfl rfl rfl (pl_lit (css := List.map TRule.enc [x25]) rfl rfl rfl rfl rfl (by (simp only [List.map_cons, List.map_nil, TRule.enc_eq]; (repeat (first | exact zin | apply zic rfl)))) rfl (by (simp only [List.map_cons, List.map_nil, TRule.enc_eq]; rfl)) rfl rfl (fun b26 => ?_))
   refine yac hb20 ?_; clear hb20; intro l28 hl28 hb20
   refine yay rfl rfl rfl (pl_app_o (enc := TRule.enc) rfl rfl rfl rfl rfl rfl rfl rfl rfl zm0 (by exact zpt (zpt (zpt (zpt zph)))) hl28 (fun a29 c30 => ?_))
   refine yas [] [] [(3, pO a29 l28.length c30)] fo0 (by kernel_rfl) ?_
   refine yae (yab ?_)
   refine yad [] [26] [(17, pI (IntKind.i64.wrap (v14 + 1)))] fo0 (by kernel_rfl) ?_
   exact pk_loop hb20 (a29, c30) (zhc rfl (zhc rfl (zhc rfl (zhc rfl (zhc rfl (zhc rfl zhn)))))) (zsc (zpt (zpt (zpt zph))) (zsc (zpt (zpt (zpt zph))) (zsc zph (zsc (zpt (zpt zph)) zsn))))
  ·replace hb20 := yaq hc22 hb20
   refine pwc_exit (yav ?_)
   refine yar hb20 (fun ht => ?_)
   refine yau rfl ?_
   exact pk_mid ((a12, c13), l11) (zhc rfl (zhc rfl (zhc rfl zhn))) (zsc zph (zsc zph (zsc zph (zsc zph zsn)))) ht.symm
 ·rintro ⟨⟨a16, c17⟩, l18⟩ τ hz; (try dsimp only at hz); subst q21; (try dsimp only at h); dsimp only [pupds]
  refine yaa (yaf ?_)
  refine yam 2 [] [] [(27, pO a16 l18.length c17), (28, pP b1 6)] fo0 (by kernel_rfl) ?_
  refine pwl_l0 rfl rfl (yaw (vs := [pO a16 l18.length c17]) rfl rfl rfl rfl rfl zuh (zlt (zlt (zlt (zlt (zlt (zlt (zlc zln))))))) ?_)
  refine yba (yab (yaa (yaf ?_)))
  refine pwl_frz (css := List.map eS x3) (a := a4) (by exact zpt (zpt (zpt zph))) ?_
  refine pwl_viewb (k := 2) (enc := eS) (xs := x3) (b := b1) (a := a4) rfl zm0 (zut zuh) ?_
  refine pwl_frz (css := List.map TRule.enc l18) (a := a16) (by exact zpt (zpt (zpt zph))) ?_
  refine pwl_viewb (k := 6) (enc := TRule.enc) (xs := l18) (b := b1) (a := a16) rfl zm0 (zut (zut zuh)) ?_
  refine yam 1 [2] [] [(29, .agg [pI p0.Kind, pI p0.Digits, pL eS x3, pI p0.Tolerance, pI p0.Limit, pS p0.Name, pL TRule.enc l18])] fo0 (by kernel_rfl) ?_
  refine pwl_l0 rfl rfl (yaw (vs := [pI p0.Kind, pI p0.Digits, pL eS x3, pI p0.Tolerance, pI p0.Limit, pS p0.Name, pL TRule.enc l18]) rfl rfl rfl rfl rfl (zut (zut (zut zuh))) (zlc (zlc (zlc (zlc (zlc (zlc (zlc zln))))))) ?_)
  refine yba (yab (yak ?_))
  obtain rfl := Option.some.inj h
  exact yal (ybc (prv1_c rfl zm3 rfl)) zsn ⟨rfl, rfl⟩
def cumulation_cloneRule_F (n : Nat) : TRule → Option TRule := Nat.rec (motive := fun _ => TRule → Option TRule) (fun _ => none) (fun _ ih => cumulation_cloneRule_B ih) n
def cumulation_cloneRule (p0 : TRule) : Option TRule := cumulation_cloneRule_F FUEL p0
theorem cumulation_cloneRule_Fok (n : Nat) : ∀ {p0 : TRule} {r : TRule}, cumulation_cloneRule_F n p0 = some r → PF 56 [.agg [pI p0.Kind, pI p0.Digits, pL eS p0.Except, pI p0.Tolerance, pI p0.Limit, pS p0.Name, pL TRule.enc p0.Args]] (.agg [pI r.Kind, pI r.Digits, pL eS r.Except, pI r.Tolerance, pI r.Limit, pS r.Name, pL TRule.enc r.Args]) := by
 induction n with
 | zero => intros; rename_i h; exact nomatch h
 | succ n ih => intros; rename_i h; exact cumulation_cloneRule_B_ok (fun hr => ih hr) h
theorem cumulation_cloneRule_ok {p0 : TRule} {r : TRule} (h : cumulation_cloneRule p0 = some r) : PF 56 [.agg [pI p0.Kind, pI p0.Digits, pL eS p0.Except, pI p0.Tolerance, pI p0.Limit, pS p0.Name, pL TRule.enc p0.Args]] (.agg [pI r.Kind, pI r.Digits, pL eS r.Except, pI r.Tolerance, pI r.Limit, pS r.Name, pL TRule.enc r.Args]) := cumulation_cloneRule_Fok FUEL h
def cumulation_RuleOf (p0 : TAgreement) (p1 : ByteArray) : Option (TRule × Bool) := Option.bind (loopF (S := Int × Int) (T := (Int)) (fun (v3, v4) => cond (decide (v4 < (p0.Rules.length : Int))) (Option.bind (Option.bind (idx p0.Rules v4) (fun m11 => Option.bind (strings_HasPrefix p1 m11.Prefix) (fun x13 => Option.bind (gd (x13 && (!(decide (v3 < 0)))) (idx p0.Rules v3)) (fun m14 => cond (x13 && ((decide (v3 < 0)) || (decide ((m14.Prefix.size : Int) < (m11.Prefix.size : Int))))) (some v4) (some v3))))) (fun v9 => some (.inl (v9, (IntKind.i64.wrap (v4 + 1)))))) (some (.inr v3))) FUEL ((-1), 0)) (fun v5 => Option.bind (gd (!(decide (v5 < 0))) (idx p0.Rules v5)) (fun m16 => Option.bind (gd (!(decide (v5 < 0))) (rule_Validate m16.Rule)) (fun x17 => cond ((decide (v5 < 0)) || (x17 != 0)) (some ((⟨0, 0, [], 0, 0, ByteArray.empty, []⟩ : TRule), false)) (Option.bind (idx p0.Rules v5) (fun m19 => Option.bind (cumulation_cloneRule m19.Rule) (fun x20 => some (x20, true)))))))
set_option maxHeartbeats 4000000 in
theorem cumulation_RuleOf_ok {p0 : TAgreement} {p1 : ByteArray} {r : (TRule × Bool)}  (h : cumulation_RuleOf p0 p1 = some r) : PF 18 [.agg [pI p0.ID, pI p0.Kind, pL eS p0.Parties, pL TRuleFor.enc p0.Rules], pS p1] (.tup [.agg [pI r.1.Kind, pI r.1.Digits, pL eS r.1.Except, pI r.1.Tolerance, pI r.1.Limit, pS r.1.Name, pL TRule.enc r.1.Args], pB r.2]) := by
 unfold cumulation_RuleOf at h
 refine pf_of ?_
 refine penter Tryz.func18 fk18 rfl Tryz.ntmps18 Tryz.results18 rfl ?_
 refine yaa (yaf ?_)
 refine yay rfl rfl rfl (pl_box (cs := [pI p0.ID, pI p0.Kind, pL eS p0.Parties, pL TRuleFor.enc p0.Rules]) rfl rfl (fun b1 => ?_))
 refine yay rfl rfl rfl (pl_alloc (cs := [pI 0, pI 0, pN, pI 0, pI 0, pS ByteArray.empty, pN]) rfl rfl rfl rfl (fun b2 => ?_))
 refine yas [] [5] [] fo0 (by kernel_rfl) ?_
 refine yab (yaa ?_)
 refine yad [] [] [(6, pI (-1))] fo0 (by kernel_rfl) ?_
 refine yab (yaa (yaa ?_))
 refine yad [1] [9] [(10, pL TRuleFor.enc p0.Rules), (11, pI (p0.Rules.length : Int)), (12, pI 0)] fo0 (by kernel_rfl) ?_
 refine yab ?_
 refine yac h ?_; clear h; intro q7 hq7 h
 refine yaz (Y := (Unit) × (Int)) (fun (_, v5) => [(2, pP b1 0), (4, pP b2 0), (6, pI v5)]) (fun (_, v5) => [PRes.b b1 33 [pI p0.ID, pI p0.Kind, pL eS p0.Parties, pL TRuleFor.enc p0.Rules], PRes.b b2 36 [pI 0, pI 0, pN, pI 0, pI 0, pS ByteArray.empty, pN]]) (fun (_, v5) => q7 = v5) ?_ ?_
 ·refine yan ?_
  refine ybd (Y := Unit) (S := Int × Int) _ hq7 (fun _ (v3, v4) => [(1, pS p1), (2, pP b1 0), (4, pP b2 0), (6, pI v3), (10, pL TRuleFor.enc p0.Rules), (11, pI (p0.Rules.length : Int)), (12, pI v4)]) (fun _ (v3, v4) => [PRes.b b1 33 [pI p0.ID, pI p0.Kind, pL eS p0.Parties, pL TRuleFor.enc p0.Rules], PRes.b b2 36 [pI 0, pI 0, pN, pI 0, pI 0, pS ByteArray.empty, pN]]) () (zhc rfl (zhc rfl (zhc rfl (zhc rfl (zhc rfl (zhc rfl (zhc rfl zhn))))))) (zsc (zpt zph) (zsc zph zsn)) ?_
  rintro _ ⟨v3, v4⟩ o τ hb6; (try dsimp only at hb6); dsimp only [pupds]
  refine yaa ?_
  refine yad [] [] [(13, pB (decide (v4 < (p0.Rules.length : Int))))] fo0 (by kernel_rfl) ?_
  refine yab (yaa ?_)
  refine yah rfl (fun hc8 => ?_) (fun hc8 => ?_)
  ·replace hb6 := yap hc8 hb6
   refine yaj (yab (yaa ?_))
   refine yac hb6 ?_; clear hb6; intro q10 hq10 hb6
   refine yaz (Y := (Unit) × (Int)) (fun (_, v9) => [(1, pS p1), (2, pP b1 0), (4, pP b2 0), (6, pI v9), (10, pL TRuleFor.enc p0.Rules), (11, pI (p0.Rules.length : Int)), (12, pI v4)]) (fun (_, v9) => [PRes.b b1 33 [pI p0.ID, pI p0.Kind, pL eS p0.Parties, pL TRuleFor.enc p0.Rules], PRes.b b2 36 [pI 0, pI 0, pN, pI 0, pI 0, pS ByteArray.empty, pN]]) (fun (_, v9) => q10 = v9) ?_ ?_
   ·skip
    refine yan (yaa ?_)
    refine yac hq10 ?_; clear hq10; intro m11 hm11 hq10
    refine yaf ?_
    refine yam 3 [] [15] [(14, pI v4), (16, .agg [pS m11.Prefix, pI m11.Rule.Kind, pI m11.Rule.Digits, pL eS m11.Rule.Except, pI m11.Rule.Tolerance, pI m11.Rule.Limit, pS m11.Rule.Name, pL TRule.enc m11.Rule.Args])] (foix 1 TRuleFor.enc hm11 fo0) (by kernel_rfl) ?_
    refine yay rfl rfl rfl (pl_alloc (cs := [pS ByteArray.empty, pI 0, pI 0, pN, pI 0, pI 0, pS ByteArray.empty, pN]) rfl rfl rfl rfl (fun b12 => ?_))
    refine yam 1 [] [] [(7, pI v4)] fo0 (by kernel_rfl) ?_
    refine pwl_l0 rfl rfl (yaw (vs := [pS m11.Prefix, pI m11.Rule.Kind, pI m11.Rule.Digits, pL eS m11.Rule.Except, pI m11.Rule.Tolerance, pI m11.Rule.Limit, pS m11.Rule.Name, pL TRule.enc m11.Rule.Args]) rfl rfl rfl rfl rfl zuh (zlc (zlc (zlc (zlc (zlc (zlc (zlc (zlc zln)))))))) ?_)
    refine yba (yab (yaa ?_))
    refine pwc_draw (ρd := []) [(0, 0), (1, 0), (2, 0), (3, 1), (4, 0), (5, 0), (6, 0), (7, 0), (8, 0), (9, 0), (10, 0), (11, 0), (12, 0), (13, 0), (14, 0), (15, 0), (16, 0), (17, 0), (18, 0), (19, 0), (20, 0)] _ (List.Perm.refl _) (by kernel_rfl) rfl ?_
    refine yac hq10 ?_; clear hq10; intro x13 hx13 hq10
    refine yac hq10 ?_; clear hq10; intro m14 hm14 hq10
    refine pwd_run 21 [0, 0, 1] [17, 18, 19, 20, 21, 22, 23, 24, 25, 26, 27, 28, 29, 30, 31, 32, 33, 34, 35, 36] [(37, pB (x13 && ((decide (v3 < 0)) || (decide ((m14.Prefix.size : Int) < (m11.Prefix.size : Int))))))] (focl 3 (strings_HasPrefix_ok hx13) (foixg 14 TRuleFor.enc (gd_t hm14) fo0)) (by kernel_rfl) ?_
    refine pwd_nil (yab ?_)
    refine yah rfl (fun hc15 => ?_) (fun hc15 => ?_)
    ·replace hq10 := yap hc15 hq10
     refine yad [] [38] [(6, pI v4)] fo0 (by kernel_rfl) ?_
     refine yae ?_
     obtain rfl := Option.some.inj hq10
     exact pk_mid ((), v4) (zhc rfl (zhc rfl (zhc rfl (zhc rfl (zhc rfl (zhc rfl (zhc rfl zhn))))))) (zsc (zpt zph) (zsc (zpt zph) zsn)) rfl
    ·replace hq10 := yaq hc15 hq10
     refine yaj (yae ?_)
     obtain rfl := Option.some.inj hq10
     exact pk_mid ((), v3) (zhc rfl (zhc rfl (zhc rfl (zhc rfl (zhc rfl (zhc rfl (zhc rfl zhn))))))) (zsc (zpt zph) (zsc (zpt zph) zsn)) rfl
   ·rintro ⟨_, v9⟩ τ hz; (try dsimp only at hz); subst q10; (try dsimp only at hb6); dsimp only [pupds]
    refine yad [] [39] [(12, pI (IntKind.i64.wrap (v4 + 1)))] fo0 (by kernel_rfl) ?_
    exact pk_loop hb6 () (zhc rfl (zhc rfl (zhc rfl (zhc rfl (zhc rfl (zhc rfl (zhc rfl zhn))))))) (zsc zph (zsc zph zsn))
  ·replace hb6 := yaq hc8 hb6
   refine pwc_exit (yav ?_)
   refine yar hb6 (fun ht => ?_)
   refine yau rfl ?_
   exact pk_mid ((), v3) (zhc rfl (zhc rfl (zhc rfl zhn))) (zsc zph (zsc zph zsn)) ht.symm
 ·rintro ⟨_, v5⟩ τ hz; (try dsimp only at hz); subst q7; (try dsimp only at h); dsimp only [pupds]
  refine yaa (yaa ?_)
  refine yac h ?_; clear h; intro m16 hm16 h
  refine yac h ?_; clear h; intro x17 hx17 h
  refine yad [0] [40, 41, 42, 43, 44, 45, 46, 47, 48, 49, 50] [(51, pB ((decide (v5 < 0)) || (x17 != 0)))] (foixg 6 TRuleFor.enc (gd_t hm16) (foclg 9 (fun hc => rule_Validate_ok (gd_t hx17 hc)) fo0)) (by kernel_rfl) ?_
  refine yab ?_
  refine yah rfl (fun hc18 => ?_) (fun hc18 => ?_)
  ·replace h := yap hc18 h
   refine yaa (yaf ?_)
   refine yam 1 [] [] [(52, .agg [pI 0, pI 0, pN, pI 0, pI 0, pS ByteArray.empty, pN])] fo0 (by kernel_rfl) ?_
   refine pwl_l0 rfl rfl (yaw (vs := [pI 0, pI 0, pN, pI 0, pI 0, pS ByteArray.empty, pN]) rfl rfl rfl rfl rfl (zut zuh) (zlc (zlc (zlc (zlc (zlc (zlc (zlc zln))))))) ?_)
   refine yas [] [] [(5, pB false)] fo0 (by kernel_rfl) ?_
   refine yab ?_
   refine pwc_nilb (k := 2) (b := b2) rfl (zut zuh) ?_
   refine pwc_nilb (k := 6) (b := b2) rfl (zut zuh) ?_
   refine yak (yai ?_)
   obtain rfl := Option.some.inj h
   exact yal (prv_2 (prv1_c rfl zm1 rfl) (yao rfl)) zsn ⟨rfl, rfl⟩
  ·replace h := yaq hc18 h
   refine yaj (yab (yaa ?_))
   refine yac h ?_; clear h; intro m19 hm19 h
   refine yac h ?_; clear h; intro x20 hx20 h
   refine yaf ?_
   refine yam 7 [0] [53, 54, 55, 56, 57, 58] [(59, .agg [pI x20.Kind, pI x20.Digits, pL eS x20.Except, pI x20.Tolerance, pI x20.Limit, pS x20.Name, pL TRule.enc x20.Args])] (foix 3 TRuleFor.enc hm19 (focl 6 (cumulation_cloneRule_ok hx20) fo0)) (by kernel_rfl) ?_
   refine pwl_l0 rfl rfl (yaw (vs := [pI x20.Kind, pI x20.Digits, pL eS x20.Except, pI x20.Tolerance, pI x20.Limit, pS x20.Name, pL TRule.enc x20.Args]) rfl rfl rfl rfl rfl (zut zuh) (zlc (zlc (zlc (zlc (zlc (zlc (zlc zln))))))) ?_)
   refine yas [] [] [(5, pB true)] fo0 (by kernel_rfl) ?_
   refine yab (yak ?_)
   obtain rfl := Option.some.inj h
   exact yal (prv_2 (prv1_c rfl zm1 rfl) (yao rfl)) zsn ⟨rfl, rfl⟩
def cumulation_Admissible (p0 : (List TProduct)) (p1 : (List TAgreement)) (p2 : ByteArray) (p3 : TOriginClaim) : Option Bool := Option.bind (production_Find p0 p3.Product) (fun x2 => cond (!x2.2) (some false) (Option.bind (cumulation_find p1 p3.Agreement) (fun x5 => Option.bind (gd (!((!x5.2) || (decide (x2.1.Country = p2)))) (cumulation_hasParties x5.1 x2.1.Country p2)) (fun x7 => cond (((!x5.2) || (decide (x2.1.Country = p2))) || (!x7)) (some false) (Option.bind (cumulation_RuleOf x5.1 x2.1.Code) (fun x9 => some x9.2))))))
set_option maxHeartbeats 4000000 in
theorem cumulation_Admissible_ok {p0 : (List TProduct)} {p1 : (List TAgreement)} {p2 : ByteArray} {p3 : TOriginClaim} {r : Bool}  (h : cumulation_Admissible p0 p1 p2 p3 = some r) : PF 25 [pL TProduct.enc p0, pL TAgreement.enc p1, pS p2, .agg [pI p3.Product, pI p3.Agreement]] (pB r) := by
 unfold cumulation_Admissible at h
 refine pf_of ?_
 refine penter Tryz.func25 fk25 rfl Tryz.ntmps25 Tryz.results25 rfl ?_
 refine yaa (yaf ?_)
 refine yay rfl rfl rfl (pl_box (cs := [pI p3.Product, pI p3.Agreement]) rfl rfl (fun b1 => ?_))
 refine yas [] [8] [] fo0 (by kernel_rfl) ?_
 refine yab (yaa ?_)
 refine yac h ?_; clear h; intro x2 hx2 h
 refine yaf ?_
 refine yam 7 [0] [13, 14, 15, 16, 12] [(17, .agg [pI x2.1.ID, pS x2.1.Code, pS x2.1.Country, pI x2.1.Price, pB x2.1.Obtained, pL eS x2.1.Processes, pL TIngredient.enc x2.1.Inputs]), (18, pB x2.2)] (focl 3 (production_Find_ok hx2) fo0) (by kernel_rfl) ?_
 refine yay rfl rfl rfl (pl_alloc (cs := [pI 0, pS ByteArray.empty, pS ByteArray.empty, pI 0, pB false, pN, pN]) rfl rfl rfl rfl (fun b3 => ?_))
 refine pwl_l0 rfl rfl (yaw (vs := [pI x2.1.ID, pS x2.1.Code, pS x2.1.Country, pI x2.1.Price, pB x2.1.Obtained, pL eS x2.1.Processes, pL TIngredient.enc x2.1.Inputs]) rfl rfl rfl rfl rfl zuh (zlc (zlc (zlc (zlc (zlc (zlc (zlc zln))))))) ?_)
 refine yas [] [] [(10, pB x2.2)] fo0 (by kernel_rfl) ?_
 refine yab (yaa (yaa ?_))
 refine yad [] [19] [(20, pB (!x2.2))] fo0 (by kernel_rfl) ?_
 refine yab ?_
 refine yah rfl (fun hc4 => ?_) (fun hc4 => ?_)
 ·replace h := yap hc4 h
  refine yaa ?_
  refine yad [] [] [(8, pB false)] fo0 (by kernel_rfl) ?_
  refine yab (yak (yai ?_))
  obtain rfl := Option.some.inj h
  exact yal (ybc (yao rfl)) zsn ⟨rfl, rfl⟩
 ·replace h := yaq hc4 h
  refine yaj (yab (yaa ?_))
  refine yac h ?_; clear h; intro x5 hx5 h
  refine yaf ?_
  refine yam 7 [1] [22, 23, 24, 25, 21] [(26, .agg [pI x5.1.ID, pI x5.1.Kind, pL eS x5.1.Parties, pL TRuleFor.enc x5.1.Rules]), (27, pB x5.2)] (focl 3 (cumulation_find_ok hx5) fo0) (by kernel_rfl) ?_
  refine yay rfl rfl rfl (pl_alloc (cs := [pI 0, pI 0, pN, pN]) rfl rfl rfl rfl (fun b6 => ?_))
  refine pwl_l0 rfl rfl (yaw (vs := [pI x5.1.ID, pI x5.1.Kind, pL eS x5.1.Parties, pL TRuleFor.enc x5.1.Rules]) rfl rfl rfl rfl rfl zuh (zlc (zlc (zlc (zlc zln)))) ?_)
  refine yas [] [] [(10, pB x5.2)] fo0 (by kernel_rfl) ?_
  refine yab (yaa (yaa ?_))
  refine yac h ?_; clear h; intro x7 hx7 h
  refine yad [1, 0, 1] [28, 29, 30, 31, 32, 33, 34, 35, 36, 37, 38, 39, 40, 41, 42] [(43, pB (((!x5.2) || (decide (x2.1.Country = p2))) || (!x7)))] (foclg 13 (fun hc => cumulation_hasParties_ok (gd_t hx7 hc)) fo0) (by kernel_rfl) ?_
  refine yab ?_
  refine yah rfl (fun hc8 => ?_) (fun hc8 => ?_)
  ·replace h := yap hc8 h
   refine yaa ?_
   refine yad [] [] [(8, pB false)] fo0 (by kernel_rfl) ?_
   refine yab (yak (yai ?_))
   obtain rfl := Option.some.inj h
   exact yal (ybc (yao rfl)) zsn ⟨rfl, rfl⟩
  ·replace h := yaq hc8 h
   refine yaj (yab (yaa ?_))
   refine yac h ?_; clear h; intro x9 hx9 h
   refine yad [0, 1] [45, 46, 47, 48, 44, 49, 50] [(10, pB x9.2)] (focl 3 (cumulation_RuleOf_ok hx9) fo0) (by kernel_rfl) ?_
   refine yab (yaa ?_)
   refine yad [] [51] [(8, pB x9.2)] fo0 (by kernel_rfl) ?_
   refine yab (yak ?_)
   obtain rfl := Option.some.inj h
   exact yal (ybc (yao rfl)) zsn ⟨rfl, rfl⟩
def slices_Equal_string_string (p0 : (List ByteArray)) (p1 : (List ByteArray)) : Option Bool := cond ((p0.length : Int) != (p1.length : Int)) (some false) (Option.bind (loopF (S := Int) (T := (Unit) ⊕ (_)) (fun v2 => cond (decide (v2 < (p0.length : Int))) (Option.bind (idx p0 v2) (fun m6 => Option.bind (idx p1 v2) (fun m7 => cond (!decide (m6 = m7)) (some (.inr (.inr false))) (some (.inl (IntKind.i64.wrap (v2 + 1))))))) (some (.inr (.inl ())))) FUEL 0) (fun q => match q with | .inl _ => some true | .inr e => some e))
set_option maxHeartbeats 4000000 in
theorem slices_Equal_string_string_ok {p0 : (List ByteArray)} {p1 : (List ByteArray)} {r : Bool}  (h : slices_Equal_string_string p0 p1 = some r) : PF 114 [pL eS p0, pL eS p1] (pB r) := by
 unfold slices_Equal_string_string at h
 refine pf_of ?_
 refine penter Tryz.func114 fk114 rfl Tryz.ntmps114 Tryz.results114 rfl ?_
 refine yaa ?_
 refine yad [] [4] [] fo0 (by kernel_rfl) ?_
 refine yab (yaa (yaa ?_))
 refine yad [] [6, 7, 8, 9] [(10, pB ((p0.length : Int) != (p1.length : Int)))] fo0 (by kernel_rfl) ?_
 refine yab ?_
 refine yah rfl (fun hc1 => ?_) (fun hc1 => ?_)
 ·replace h := yap hc1 h
  refine yaa ?_
  refine yad [] [] [(4, pB false)] fo0 (by kernel_rfl) ?_
  refine yab (yak (yai ?_))
  obtain rfl := Option.some.inj h
  exact yal (ybc (yao rfl)) zsn ⟨rfl, rfl⟩
 ·replace h := yaq hc1 h
  refine yaj (yab (yaa (yaa ?_)))
  refine yad [] [11] [(12, pI (p0.length : Int)), (13, pI 0)] fo0 (by kernel_rfl) ?_
  refine yab ?_
  refine yac h ?_; clear h; intro q4 hq4 h
  refine yaz (Y := (Unit) × (Unit)) (fun (_, _) => []) (fun (_, _) => []) (fun (_, _) => q4 = Sum.inl ()) ?_ ?_
  ·refine yan ?_
   refine ybd (Y := Unit) (S := Int) _ hq4 (fun _ v2 => [(0, pL eS p0), (1, pL eS p1), (12, pI (p0.length : Int)), (13, pI v2)]) (fun _ v2 => []) () (zhc rfl (zhc rfl (zhc rfl (zhc rfl zhn)))) zsn ?_
   rintro _ v2 o τ hb3; (try dsimp only at hb3); dsimp only [pupds]
   refine yaa ?_
   refine yad [] [] [(14, pB (decide (v2 < (p0.length : Int))))] fo0 (by kernel_rfl) ?_
   refine yab (yaa ?_)
   refine yah rfl (fun hc5 => ?_) (fun hc5 => ?_)
   ·replace hb3 := yap hc5 hb3
    refine yaj (yab (yaa (yan (yaa ?_))))
    refine yad [] [15] [(5, pI v2)] fo0 (by kernel_rfl) ?_
    refine yab (yaa ?_)
    refine pwc_draw (ρd := []) [(0, 0), (1, 0), (2, 0), (3, 0), (4, 0), (5, 0), (6, 0), (7, 0), (8, 0)] _ (List.Perm.refl _) (by kernel_rfl) rfl ?_
    refine yac hb3 ?_; clear hb3; intro m6 hm6 hb3
    refine yac hb3 ?_; clear hb3; intro m7 hm7 hb3
    refine pwd_run 9 [] [16, 17, 18, 19, 20, 21, 22, 23] [(24, pB (!decide (m6 = m7)))] (foix 2 eS hm6 (foix 6 eS hm7 fo0)) (by kernel_rfl) ?_
    refine pwd_nil (yab ?_)
    refine yah rfl (fun hc8 => ?_) (fun hc8 => ?_)
    ·replace hb3 := yap hc8 hb3
     refine yaa ?_
     refine yad [] [] [(4, pB false)] fo0 (by kernel_rfl) ?_
     refine yab (yak (yag (yai ?_)))
     refine pk_loop_ret hb3 (fun ht => ?_); subst ht
     have h := (show some _ = some _ from h)
     refine yag (yax ?_)
     obtain rfl := Option.some.inj h
     exact yal (ybc (yao rfl)) zsn ⟨rfl, rfl⟩
    ·replace hb3 := yaq hc8 hb3
     refine yaj (yae (yab ?_))
     refine yad [] [25] [(13, pI (IntKind.i64.wrap (v2 + 1)))] fo0 (by kernel_rfl) ?_
     exact pk_loop hb3 () (zhc rfl (zhc rfl (zhc rfl (zhc rfl zhn)))) zsn
   ·replace hb3 := yaq hc5 hb3
    refine pwc_exit (yav ?_)
    refine yar hb3 (fun ht => ?_)
    refine yau rfl ?_
    exact pk_mid ((), ()) zhn zsn ht.symm
  ·rintro ⟨_, _⟩ τ hz; (try dsimp only at hz); subst q4; (try dsimp only at h); dsimp only [pupds]
   refine yaa ?_
   refine yad [] [] [(4, pB true)] fo0 (by kernel_rfl) ?_
   refine yab (yak ?_)
   obtain rfl := Option.some.inj h
   exact yal (ybc (yao rfl)) zsn ⟨rfl, rfl⟩
def slices_EqualFunc_api_Rule_api_Rule_api_Rule_api_Rule (p0 : (List TRule)) (p1 : (List TRule)) (p2 : (TRule → TRule → Option Bool)) : Option Bool := cond ((p0.length : Int) != (p1.length : Int)) (some false) (Option.bind (loopF (S := Int) (T := (Unit) ⊕ (_)) (fun v2 => cond (decide (v2 < (p0.length : Int))) (Option.bind (idx p0 v2) (fun m6 => Option.bind (idx p1 v2) (fun m8 => Option.bind (p2 m6 m8) (fun x10 => cond (!x10) (some (.inr (.inr false))) (some (.inl (IntKind.i64.wrap (v2 + 1)))))))) (some (.inr (.inl ())))) FUEL 0) (fun q => match q with | .inl _ => some true | .inr e => some e))
set_option maxHeartbeats 4000000 in
theorem slices_EqualFunc_api_Rule_api_Rule_api_Rule_api_Rule_ok {p0 : (List TRule)} {p1 : (List TRule)} {p2 : (TRule → TRule → Option Bool)} {r : Bool} {g2 : PV} (hg2 : ∀ {y0 : TRule} {y1 : TRule} {w : Bool}, p2 y0 y1 = some w → PFV g2 [.agg [pI y0.Kind, pI y0.Digits, pL eS y0.Except, pI y0.Tolerance, pI y0.Limit, pS y0.Name, pL TRule.enc y0.Args], .agg [pI y1.Kind, pI y1.Digits, pL eS y1.Except, pI y1.Tolerance, pI y1.Limit, pS y1.Name, pL TRule.enc y1.Args]] (pB w)) (h : slices_EqualFunc_api_Rule_api_Rule_api_Rule_api_Rule p0 p1 p2 = some r) : PF 115 [pL TRule.enc p0, pL TRule.enc p1, g2] (pB r) := by
 unfold slices_EqualFunc_api_Rule_api_Rule_api_Rule_api_Rule at h
 refine pf_of ?_
 refine penter Tryz.func115 fk115 rfl Tryz.ntmps115 Tryz.results115 rfl ?_
 refine yaa ?_
 refine yad [] [6] [] fo0 (by kernel_rfl) ?_
 refine yab (yaa (yaa ?_))
 refine yad [] [10, 11, 12, 13] [(14, pB ((p0.length : Int) != (p1.length : Int)))] fo0 (by kernel_rfl) ?_
 refine yab ?_
 refine yah rfl (fun hc1 => ?_) (fun hc1 => ?_)
 ·replace h := yap hc1 h
  refine yaa ?_
  refine yad [] [] [(6, pB false)] fo0 (by kernel_rfl) ?_
  refine yab (yak (yai ?_))
  obtain rfl := Option.some.inj h
  exact yal (ybc (yao rfl)) zsn ⟨rfl, rfl⟩
 ·replace h := yaq hc1 h
  refine yaj (yab (yaa (yaa ?_)))
  refine yad [] [] [(15, pL TRule.enc p0), (16, pI (p0.length : Int)), (17, pI 0)] fo0 (by kernel_rfl) ?_
  refine yab ?_
  refine yac h ?_; clear h; intro q4 hq4 h
  refine yaz (Y := (Unit) × (Unit)) (fun (_, _) => []) (fun (_, _) => []) (fun (_, _) => q4 = Sum.inl ()) ?_ ?_
  ·refine yan ?_
   refine ybd (Y := Unit) (S := Int) _ hq4 (fun _ v2 => [(1, pL TRule.enc p1), (2, g2), (15, pL TRule.enc p0), (16, pI (p0.length : Int)), (17, pI v2)]) (fun _ v2 => []) () (zhc rfl (zhc rfl (zhc rfl (zhc rfl (zhc rfl zhn))))) zsn ?_
   rintro _ v2 o τ hb3; (try dsimp only at hb3); dsimp only [pupds]
   refine yaa ?_
   refine yad [] [] [(18, pB (decide (v2 < (p0.length : Int))))] fo0 (by kernel_rfl) ?_
   refine yab (yaa ?_)
   refine yah rfl (fun hc5 => ?_) (fun hc5 => ?_)
   ·replace hb3 := yap hc5 hb3
    refine yaj (yab (yaa (yan (yaa ?_))))
    refine yac hb3 ?_; clear hb3; intro m6 hm6 hb3
    refine yaf ?_
    refine yam 3 [] [20] [(19, pI v2), (21, .agg [pI m6.Kind, pI m6.Digits, pL eS m6.Except, pI m6.Tolerance, pI m6.Limit, pS m6.Name, pL TRule.enc m6.Args])] (foixr 1 TRule.enc (TRule.enc_eq _) hm6 fo0) (by kernel_rfl) ?_
    refine yay rfl rfl rfl (pl_alloc (cs := [pI 0, pI 0, pN, pI 0, pI 0, pS ByteArray.empty, pN]) rfl rfl rfl rfl (fun b7 => ?_))
    refine yam 1 [] [] [(7, pI v2)] fo0 (by kernel_rfl) ?_
    refine pwl_l0 rfl rfl (yaw (vs := [pI m6.Kind, pI m6.Digits, pL eS m6.Except, pI m6.Tolerance, pI m6.Limit, pS m6.Name, pL TRule.enc m6.Args]) rfl rfl rfl rfl rfl zuh (zlc (zlc (zlc (zlc (zlc (zlc (zlc zln))))))) ?_)
    refine yba (yab (yaa ?_))
    refine yac hb3 ?_; clear hb3; intro m8 hm8 hb3
    refine yaf ?_
    refine yam 4 [] [22, 23, 24] [(25, .agg [pI m8.Kind, pI m8.Digits, pL eS m8.Except, pI m8.Tolerance, pI m8.Limit, pS m8.Name, pL TRule.enc m8.Args])] (foixr 2 TRule.enc (TRule.enc_eq _) hm8 fo0) (by kernel_rfl) ?_
    refine yay rfl rfl rfl (pl_alloc (cs := [pI 0, pI 0, pN, pI 0, pI 0, pS ByteArray.empty, pN]) rfl rfl rfl rfl (fun b9 => ?_))
    refine pwl_l0 rfl rfl (yaw (vs := [pI m8.Kind, pI m8.Digits, pL eS m8.Except, pI m8.Tolerance, pI m8.Limit, pS m8.Name, pL TRule.enc m8.Args]) rfl rfl rfl rfl rfl zuh (zlc (zlc (zlc (zlc (zlc (zlc (zlc zln))))))) ?_)
    refine yba (yab (yaa ?_))
    refine yac hb3 ?_; clear hb3; intro x10 hx10 hb3
    refine yad [1, 0] [26, 27, 28, 29] [(30, pB (!x10))] (focv 3 (hg2 hx10) fo0) (by kernel_rfl) ?_
    refine yab ?_
    refine yah rfl (fun hc11 => ?_) (fun hc11 => ?_)
    ·replace hb3 := yap hc11 hb3
     refine yaa ?_
     refine yad [] [] [(6, pB false)] fo0 (by kernel_rfl) ?_
     refine yab (yak (yag (yai ?_)))
     refine pk_loop_ret hb3 (fun ht => ?_); subst ht
     have h := (show some _ = some _ from h)
     refine yag (yax ?_)
     obtain rfl := Option.some.inj h
     exact yal (ybc (yao rfl)) zsn ⟨rfl, rfl⟩
    ·replace hb3 := yaq hc11 hb3
     refine yaj (yae (yab ?_))
     refine yad [] [31] [(17, pI (IntKind.i64.wrap (v2 + 1)))] fo0 (by kernel_rfl) ?_
     exact pk_loop hb3 () (zhc rfl (zhc rfl (zhc rfl (zhc rfl (zhc rfl zhn))))) zsn
   ·replace hb3 := yaq hc5 hb3
    refine pwc_exit (yav ?_)
    refine yar hb3 (fun ht => ?_)
    refine yau rfl ?_
    exact pk_mid ((), ()) zhn zsn ht.symm
  ·rintro ⟨_, _⟩ τ hz; (try dsimp only at hz); subst q4; (try dsimp only at h); dsimp only [pupds]
   refine yaa ?_
   refine yad [] [] [(6, pB true)] fo0 (by kernel_rfl) ?_
   refine yab (yak ?_)
   obtain rfl := Option.some.inj h
   exact yal (ybc (yao rfl)) zsn ⟨rfl, rfl⟩
def cumulation_equalRule_B (rec : TRule → TRule → Option Bool) (p0 : TRule) (p1 : TRule) : Option Bool := Option.bind (gd (((((p0.Kind == p1.Kind) && (p0.Digits == p1.Digits)) && (p0.Tolerance == p1.Tolerance)) && (p0.Limit == p1.Limit)) && (decide (p0.Name = p1.Name))) (slices_Equal_string_string p0.Except p1.Except)) (fun x3 => Option.bind (gd ((((((p0.Kind == p1.Kind) && (p0.Digits == p1.Digits)) && (p0.Tolerance == p1.Tolerance)) && (p0.Limit == p1.Limit)) && (decide (p0.Name = p1.Name))) && x3) (slices_EqualFunc_api_Rule_api_Rule_api_Rule_api_Rule p0.Args p1.Args (fun y4 y5 => rec y4 y5))) (fun x6 => some (((((((p0.Kind == p1.Kind) && (p0.Digits == p1.Digits)) && (p0.Tolerance == p1.Tolerance)) && (p0.Limit == p1.Limit)) && (decide (p0.Name = p1.Name))) && x3) && x6)))
set_option maxHeartbeats 4000000 in
theorem cumulation_equalRule_B_ok {rec : TRule → TRule → Option Bool} (hrec : ∀ {p0 : TRule} {p1 : TRule} {r : Bool}, rec p0 p1 = some r → PF 90 [.agg [pI p0.Kind, pI p0.Digits, pL eS p0.Except, pI p0.Tolerance, pI p0.Limit, pS p0.Name, pL TRule.enc p0.Args], .agg [pI p1.Kind, pI p1.Digits, pL eS p1.Except, pI p1.Tolerance, pI p1.Limit, pS p1.Name, pL TRule.enc p1.Args]] (pB r)) {p0 : TRule} {p1 : TRule} {r : Bool} (h : cumulation_equalRule_B rec p0 p1 = some r) : PF 90 [.agg [pI p0.Kind, pI p0.Digits, pL eS p0.Except, pI p0.Tolerance, pI p0.Limit, pS p0.Name, pL TRule.enc p0.Args], .agg [pI p1.Kind, pI p1.Digits, pL eS p1.Except, pI p1.Tolerance, pI p1.Limit, pS p1.Name, pL TRule.enc p1.Args]] (pB r) := by
 unfold cumulation_equalRule_B at h
 refine pf_of ?_
 refine penter Tryz.func90 fk90 rfl Tryz.ntmps90 Tryz.results90 rfl ?_
 refine yaa (yaf ?_)
 refine yay rfl rfl rfl (pl_box (cs := [pI p0.Kind, pI p0.Digits, pL eS p0.Except, pI p0.Tolerance, pI p0.Limit, pS p0.Name, pL TRule.enc p0.Args]) rfl rfl (fun b1 => ?_))
 refine yay rfl rfl rfl (pl_box (cs := [pI p1.Kind, pI p1.Digits, pL eS p1.Except, pI p1.Tolerance, pI p1.Limit, pS p1.Name, pL TRule.enc p1.Args]) rfl rfl (fun b2 => ?_))
 refine yas [] [4] [] fo0 (by kernel_rfl) ?_
 refine yab (yaa ?_)
 refine yac h ?_; clear h; intro x3 hx3 h
 refine yac h ?_; clear h; intro x6 hx6 h
 refine yad [1, 0, 1, 0, 1, 0, 1, 0, 1, 0, 1, 0, 1, 0] [5, 6, 7, 8, 9, 10, 11, 12, 13, 14, 15, 16, 17, 18, 19, 20, 21, 22, 23, 24, 25, 26, 27, 28, 29, 30, 31, 32, 33, 34, 35, 36, 37, 38, 39, 40, 41, 42, 43, 44, 45, 46, 47, 48, 49, 50, 51] [(4, pB (((((((p0.Kind == p1.Kind) && (p0.Digits == p1.Digits)) && (p0.Tolerance == p1.Tolerance)) && (p0.Limit == p1.Limit)) && (decide (p0.Name = p1.Name))) && x3) && x6))] (foclg 38 (fun hc => slices_Equal_string_string_ok (gd_t hx3 hc)) (foclg 45 (fun hc => slices_EqualFunc_api_Rule_api_Rule_api_Rule_api_Rule_ok (fun hr => pfv_of (hrec hr)) (gd_t hx6 hc)) fo0)) (by kernel_rfl) ?_
 refine yab (yak ?_)
 obtain rfl := Option.some.inj h
 exact yal (ybc (yao rfl)) zsn ⟨rfl, rfl⟩
def cumulation_equalRule_F (n : Nat) : TRule → TRule → Option Bool := Nat.rec (motive := fun _ => TRule → TRule → Option Bool) (fun _ _ => none) (fun _ ih => cumulation_equalRule_B ih) n
def cumulation_equalRule (p0 : TRule) (p1 : TRule) : Option Bool := cumulation_equalRule_F FUEL p0 p1
theorem cumulation_equalRule_Fok (n : Nat) : ∀ {p0 : TRule} {p1 : TRule} {r : Bool}, cumulation_equalRule_F n p0 p1 = some r → PF 90 [.agg [pI p0.Kind, pI p0.Digits, pL eS p0.Except, pI p0.Tolerance, pI p0.Limit, pS p0.Name, pL TRule.enc p0.Args], .agg [pI p1.Kind, pI p1.Digits, pL eS p1.Except, pI p1.Tolerance, pI p1.Limit, pS p1.Name, pL TRule.enc p1.Args]] (pB r) := by
 induction n with
 | zero => intros; rename_i h; exact nomatch h
 | succ n ih => intros; rename_i h; exact cumulation_equalRule_B_ok (fun hr => ih hr) h
theorem cumulation_equalRule_ok {p0 : TRule} {p1 : TRule} {r : Bool} (h : cumulation_equalRule p0 p1 = some r) : PF 90 [.agg [pI p0.Kind, pI p0.Digits, pL eS p0.Except, pI p0.Tolerance, pI p0.Limit, pS p0.Name, pL TRule.enc p0.Args], .agg [pI p1.Kind, pI p1.Digits, pL eS p1.Except, pI p1.Tolerance, pI p1.Limit, pS p1.Name, pL TRule.enc p1.Args]] (pB r) := cumulation_equalRule_Fok FUEL h
def slices_EqualFunc_api_RuleFor_api_RuleFor_api_RuleFor_api_RuleFor (p0 : (List TRuleFor)) (p1 : (List TRuleFor)) (p2 : (TRuleFor → TRuleFor → Option Bool)) : Option Bool := cond ((p0.length : Int) != (p1.length : Int)) (some false) (Option.bind (loopF (S := Int) (T := (Unit) ⊕ (_)) (fun v2 => cond (decide (v2 < (p0.length : Int))) (Option.bind (idx p0 v2) (fun m6 => Option.bind (idx p1 v2) (fun m8 => Option.bind (p2 m6 m8) (fun x10 => cond (!x10) (some (.inr (.inr false))) (some (.inl (IntKind.i64.wrap (v2 + 1)))))))) (some (.inr (.inl ())))) FUEL 0) (fun q => match q with | .inl _ => some true | .inr e => some e))
set_option maxHeartbeats 4000000 in
theorem slices_EqualFunc_api_RuleFor_api_RuleFor_api_RuleFor_api_RuleFor_ok {p0 : (List TRuleFor)} {p1 : (List TRuleFor)} {p2 : (TRuleFor → TRuleFor → Option Bool)} {r : Bool} {g2 : PV} (hg2 : ∀ {y0 : TRuleFor} {y1 : TRuleFor} {w : Bool}, p2 y0 y1 = some w → PFV g2 [.agg [pS y0.Prefix, pI y0.Rule.Kind, pI y0.Rule.Digits, pL eS y0.Rule.Except, pI y0.Rule.Tolerance, pI y0.Rule.Limit, pS y0.Rule.Name, pL TRule.enc y0.Rule.Args], .agg [pS y1.Prefix, pI y1.Rule.Kind, pI y1.Rule.Digits, pL eS y1.Rule.Except, pI y1.Rule.Tolerance, pI y1.Rule.Limit, pS y1.Rule.Name, pL TRule.enc y1.Rule.Args]] (pB w)) (h : slices_EqualFunc_api_RuleFor_api_RuleFor_api_RuleFor_api_RuleFor p0 p1 p2 = some r) : PF 88 [pL TRuleFor.enc p0, pL TRuleFor.enc p1, g2] (pB r) := by
 unfold slices_EqualFunc_api_RuleFor_api_RuleFor_api_RuleFor_api_RuleFor at h
 refine pf_of ?_
 refine penter Tryz.func88 fk88 rfl Tryz.ntmps88 Tryz.results88 rfl ?_
 refine yaa ?_
 refine yad [] [6] [] fo0 (by kernel_rfl) ?_
 refine yab (yaa (yaa ?_))
 refine yad [] [10, 11, 12, 13] [(14, pB ((p0.length : Int) != (p1.length : Int)))] fo0 (by kernel_rfl) ?_
 refine yab ?_
 refine yah rfl (fun hc1 => ?_) (fun hc1 => ?_)
 ·replace h := yap hc1 h
  refine yaa ?_
  refine yad [] [] [(6, pB false)] fo0 (by kernel_rfl) ?_
  refine yab (yak (yai ?_))
  obtain rfl := Option.some.inj h
  exact yal (ybc (yao rfl)) zsn ⟨rfl, rfl⟩
 ·replace h := yaq hc1 h
  refine yaj (yab (yaa (yaa ?_)))
  refine yad [] [] [(15, pL TRuleFor.enc p0), (16, pI (p0.length : Int)), (17, pI 0)] fo0 (by kernel_rfl) ?_
  refine yab ?_
  refine yac h ?_; clear h; intro q4 hq4 h
  refine yaz (Y := (Unit) × (Unit)) (fun (_, _) => []) (fun (_, _) => []) (fun (_, _) => q4 = Sum.inl ()) ?_ ?_
  ·refine yan ?_
   refine ybd (Y := Unit) (S := Int) _ hq4 (fun _ v2 => [(1, pL TRuleFor.enc p1), (2, g2), (15, pL TRuleFor.enc p0), (16, pI (p0.length : Int)), (17, pI v2)]) (fun _ v2 => []) () (zhc rfl (zhc rfl (zhc rfl (zhc rfl (zhc rfl zhn))))) zsn ?_
   rintro _ v2 o τ hb3; (try dsimp only at hb3); dsimp only [pupds]
   refine yaa ?_
   refine yad [] [] [(18, pB (decide (v2 < (p0.length : Int))))] fo0 (by kernel_rfl) ?_
   refine yab (yaa ?_)
   refine yah rfl (fun hc5 => ?_) (fun hc5 => ?_)
   ·replace hb3 := yap hc5 hb3
    refine yaj (yab (yaa (yan (yaa ?_))))
    refine yac hb3 ?_; clear hb3; intro m6 hm6 hb3
    refine yaf ?_
    refine yam 3 [] [20] [(19, pI v2), (21, .agg [pS m6.Prefix, pI m6.Rule.Kind, pI m6.Rule.Digits, pL eS m6.Rule.Except, pI m6.Rule.Tolerance, pI m6.Rule.Limit, pS m6.Rule.Name, pL TRule.enc m6.Rule.Args])] (foix 1 TRuleFor.enc hm6 fo0) (by kernel_rfl) ?_
    refine yay rfl rfl rfl (pl_alloc (cs := [pS ByteArray.empty, pI 0, pI 0, pN, pI 0, pI 0, pS ByteArray.empty, pN]) rfl rfl rfl rfl (fun b7 => ?_))
    refine yam 1 [] [] [(7, pI v2)] fo0 (by kernel_rfl) ?_
    refine pwl_l0 rfl rfl (yaw (vs := [pS m6.Prefix, pI m6.Rule.Kind, pI m6.Rule.Digits, pL eS m6.Rule.Except, pI m6.Rule.Tolerance, pI m6.Rule.Limit, pS m6.Rule.Name, pL TRule.enc m6.Rule.Args]) rfl rfl rfl rfl rfl zuh (zlc (zlc (zlc (zlc (zlc (zlc (zlc (zlc zln)))))))) ?_)
    refine yba (yab (yaa ?_))
    refine yac hb3 ?_; clear hb3; intro m8 hm8 hb3
    refine yaf ?_
    refine yam 4 [] [22, 23, 24] [(25, .agg [pS m8.Prefix, pI m8.Rule.Kind, pI m8.Rule.Digits, pL eS m8.Rule.Except, pI m8.Rule.Tolerance, pI m8.Rule.Limit, pS m8.Rule.Name, pL TRule.enc m8.Rule.Args])] (foix 2 TRuleFor.enc hm8 fo0) (by kernel_rfl) ?_
    refine yay rfl rfl rfl (pl_alloc (cs := [pS ByteArray.empty, pI 0, pI 0, pN, pI 0, pI 0, pS ByteArray.empty, pN]) rfl rfl rfl rfl (fun b9 => ?_))
    refine pwl_l0 rfl rfl (yaw (vs := [pS m8.Prefix, pI m8.Rule.Kind, pI m8.Rule.Digits, pL eS m8.Rule.Except, pI m8.Rule.Tolerance, pI m8.Rule.Limit, pS m8.Rule.Name, pL TRule.enc m8.Rule.Args]) rfl rfl rfl rfl rfl zuh (zlc (zlc (zlc (zlc (zlc (zlc (zlc (zlc zln)))))))) ?_)
    refine yba (yab (yaa ?_))
    refine yac hb3 ?_; clear hb3; intro x10 hx10 hb3
    refine yad [1, 0] [26, 27, 28, 29] [(30, pB (!x10))] (focv 3 (hg2 hx10) fo0) (by kernel_rfl) ?_
    refine yab ?_
    refine yah rfl (fun hc11 => ?_) (fun hc11 => ?_)
    ·replace hb3 := yap hc11 hb3
     refine yaa ?_
     refine yad [] [] [(6, pB false)] fo0 (by kernel_rfl) ?_
     refine yab (yak (yag (yai ?_)))
     refine pk_loop_ret hb3 (fun ht => ?_); subst ht
     have h := (show some _ = some _ from h)
     refine yag (yax ?_)
     obtain rfl := Option.some.inj h
     exact yal (ybc (yao rfl)) zsn ⟨rfl, rfl⟩
    ·replace hb3 := yaq hc11 hb3
     refine yaj (yae (yab ?_))
     refine yad [] [31] [(17, pI (IntKind.i64.wrap (v2 + 1)))] fo0 (by kernel_rfl) ?_
     exact pk_loop hb3 () (zhc rfl (zhc rfl (zhc rfl (zhc rfl (zhc rfl zhn))))) zsn
   ·replace hb3 := yaq hc5 hb3
    refine pwc_exit (yav ?_)
    refine yar hb3 (fun ht => ?_)
    refine yau rfl ?_
    exact pk_mid ((), ()) zhn zsn ht.symm
  ·rintro ⟨_, _⟩ τ hz; (try dsimp only at hz); subst q4; (try dsimp only at h); dsimp only [pupds]
   refine yaa ?_
   refine yad [] [] [(6, pB true)] fo0 (by kernel_rfl) ?_
   refine yab (yak ?_)
   obtain rfl := Option.some.inj h
   exact yal (ybc (yao rfl)) zsn ⟨rfl, rfl⟩
def cumulation_equalRules_1 (p0 : TRuleFor) (p1 : TRuleFor) : Option Bool := Option.bind (gd (decide (p0.Prefix = p1.Prefix)) (rule_Validate p0.Rule)) (fun x3 => Option.bind (gd ((decide (p0.Prefix = p1.Prefix)) && (x3 == 0)) (cumulation_equalRule p0.Rule p1.Rule)) (fun x4 => some (((decide (p0.Prefix = p1.Prefix)) && (x3 == 0)) && x4)))
set_option maxHeartbeats 4000000 in
theorem cumulation_equalRules_1_ok {p0 : TRuleFor} {p1 : TRuleFor} {r : Bool}  (h : cumulation_equalRules_1 p0 p1 = some r) : PF 89 [.agg [pS p0.Prefix, pI p0.Rule.Kind, pI p0.Rule.Digits, pL eS p0.Rule.Except, pI p0.Rule.Tolerance, pI p0.Rule.Limit, pS p0.Rule.Name, pL TRule.enc p0.Rule.Args], .agg [pS p1.Prefix, pI p1.Rule.Kind, pI p1.Rule.Digits, pL eS p1.Rule.Except, pI p1.Rule.Tolerance, pI p1.Rule.Limit, pS p1.Rule.Name, pL TRule.enc p1.Rule.Args]] (pB r) := by
 unfold cumulation_equalRules_1 at h
 refine pf_of ?_
 refine penter Tryz.func89 fk89 rfl Tryz.ntmps89 Tryz.results89 rfl ?_
 refine yaa (yaf ?_)
 refine yay rfl rfl rfl (pl_box (cs := [pS p0.Prefix, pI p0.Rule.Kind, pI p0.Rule.Digits, pL eS p0.Rule.Except, pI p0.Rule.Tolerance, pI p0.Rule.Limit, pS p0.Rule.Name, pL TRule.enc p0.Rule.Args]) rfl rfl (fun b1 => ?_))
 refine yay rfl rfl rfl (pl_box (cs := [pS p1.Prefix, pI p1.Rule.Kind, pI p1.Rule.Digits, pL eS p1.Rule.Except, pI p1.Rule.Tolerance, pI p1.Rule.Limit, pS p1.Rule.Name, pL TRule.enc p1.Rule.Args]) rfl rfl (fun b2 => ?_))
 refine yas [] [4] [] fo0 (by kernel_rfl) ?_
 refine yab (yaa ?_)
 refine yac h ?_; clear h; intro x3 hx3 h
 refine yac h ?_; clear h; intro x4 hx4 h
 refine yad [1, 0, 1, 1, 0] [5, 6, 7, 8, 9, 10, 11, 12, 13, 14, 15, 16, 17, 18, 19, 20, 21, 22] [(4, pB (((decide (p0.Prefix = p1.Prefix)) && (x3 == 0)) && x4))] (foclg 8 (fun hc => rule_Validate_ok (gd_t hx3 hc)) (foclg 16 (fun hc => cumulation_equalRule_ok (gd_t hx4 hc)) fo0)) (by kernel_rfl) ?_
 refine yab (yak ?_)
 obtain rfl := Option.some.inj h
 exact yal (ybc (yao rfl)) zsn ⟨rfl, rfl⟩
def cumulation_equalRules (p0 : (List TRuleFor)) (p1 : (List TRuleFor)) : Option Bool := Option.bind (slices_EqualFunc_api_RuleFor_api_RuleFor_api_RuleFor_api_RuleFor p0 p1 (fun y1 y2 => cumulation_equalRules_1 y1 y2)) (fun x3 => some x3)
set_option maxHeartbeats 4000000 in
theorem cumulation_equalRules_ok {p0 : (List TRuleFor)} {p1 : (List TRuleFor)} {r : Bool}  (h : cumulation_equalRules p0 p1 = some r) : PF 61 [pL TRuleFor.enc p0, pL TRuleFor.enc p1] (pB r) := by
 unfold cumulation_equalRules at h
 refine pf_of ?_
 refine penter Tryz.func61 fk61 rfl Tryz.ntmps61 Tryz.results61 rfl ?_
 refine yaa ?_
 refine yad [] [4] [] fo0 (by kernel_rfl) ?_
 refine yab (yaa ?_)
 refine yac h ?_; clear h; intro x3 hx3 h
 refine yad [] [5, 6, 7] [(4, pB x3)] (focl 2 (slices_EqualFunc_api_RuleFor_api_RuleFor_api_RuleFor_api_RuleFor_ok (fun hr => pfv_of (cumulation_equalRules_1_ok hr)) hx3) fo0) (by kernel_rfl) ?_
 refine yab (yak ?_)
 obtain rfl := Option.some.inj h
 exact yal (ybc (yao rfl)) zsn ⟨rfl, rfl⟩
def cumulation_Partners (p0 : (List TAgreement)) (p1 : Int) (p2 : ByteArray) (p3 : ByteArray) : Option (List Int) := Option.bind (cumulation_find p0 p1) (fun x1 => cond (!x1.2) (some []) (cond (x1.1.Kind != 2) (some [p1]) (Option.bind (loopF (S := (List Int) × Int) (T := ((List Int))) (fun (l8, v11) => cond (decide (v11 < (p0.length : Int))) (Option.bind (Option.bind (idx p0 v11) (fun m24 => Option.bind (gd (m24.ID != p1) (cumulation_hasParties m24 p2 p3)) (fun x26 => Option.bind (gd ((m24.ID != p1) && x26) (cumulation_equalRules x1.1.Rules m24.Rules)) (fun x27 => cond (((m24.ID != p1) && x26) && x27) (Option.bind (app 8 l8 [m24.ID]) (fun l31 => some l31)) (some l8))))) (fun l22 => some (.inl (l22, (IntKind.i64.wrap (v11 + 1)))))) (some (.inr l8))) FUEL ([p1], 0)) (fun l15 => some l15))))
set_option maxHeartbeats 4000000 in
theorem cumulation_Partners_ok {p0 : (List TAgreement)} {p1 : Int} {p2 : ByteArray} {p3 : ByteArray} {r : (List Int)}  (h : cumulation_Partners p0 p1 p2 p3 = some r) : PF 24 [pL TAgreement.enc p0, pI p1, pS p2, pS p3] (pL eI r) := by
 unfold cumulation_Partners at h
 refine pf_of ?_
 refine penter Tryz.func24 fk24 rfl Tryz.ntmps24 Tryz.results24 rfl ?_
 refine yaa ?_
 refine yad [] [8] [] fo0 (by kernel_rfl) ?_
 refine yab (yaa ?_)
 refine yac h ?_; clear h; intro x1 hx1 h
 refine yaf ?_
 refine yam 6 [] [15, 16, 17, 14] [(18, .agg [pI x1.1.ID, pI x1.1.Kind, pL eS x1.1.Parties, pL TRuleFor.enc x1.1.Rules]), (19, pB x1.2)] (focl 2 (cumulation_find_ok hx1) fo0) (by kernel_rfl) ?_
 refine yay rfl rfl rfl (pl_alloc (cs := [pI 0, pI 0, pN, pN]) rfl rfl rfl rfl (fun b2 => ?_))
 refine pwl_l0 rfl rfl (yaw (vs := [pI x1.1.ID, pI x1.1.Kind, pL eS x1.1.Parties, pL TRuleFor.enc x1.1.Rules]) rfl rfl rfl rfl rfl zuh (zlc (zlc (zlc (zlc zln)))) ?_)
 refine yas [] [] [(10, pB x1.2)] fo0 (by kernel_rfl) ?_
 refine yab (yaa (yaa ?_))
 refine yad [] [20] [(21, pB (!x1.2))] fo0 (by kernel_rfl) ?_
 refine yab ?_
 refine yah rfl (fun hc3 => ?_) (fun hc3 => ?_)
 ·replace h := yap hc3 h
  refine yaa ?_
  refine yad [] [] [(8, pN)] fo0 (by kernel_rfl) ?_
  refine yab ?_
  refine pwc_nil 8 rfl ?_
  refine yak (yai ?_)
  obtain rfl := Option.some.inj h
  exact yal (ybc (yao rfl)) zsn ⟨rfl, rfl⟩
 ·replace h := yaq hc3 h
  refine yaj (yab (yaa (yaf ?_)))
  refine yam 1 [] [] [(22, pI p1)] fo0 (by kernel_rfl) ?_
  refine yay rfl rfl rfl (pl_lit rfl rfl rfl rfl rfl (zic rfl zin) rfl rfl rfl rfl (fun b4 => ?_))
  refine yas [] [] [(11, pO (some ⟨b4, 0, none⟩) 1 1)] fo0 (by kernel_rfl) ?_
  refine yab (yaa (yaa ?_))
  refine yad [1] [24, 25] [(26, pB (x1.1.Kind != 2))] fo0 (by kernel_rfl) ?_
  refine yab ?_
  refine yah rfl (fun hc6 => ?_) (fun hc6 => ?_)
  ·replace h := yap hc6 h
   refine yaa ?_
   refine yad [] [27] [(8, pO (some ⟨b4, 0, none⟩) 1 1)] fo0 (by kernel_rfl) ?_
   refine yab ?_
   refine pwc_frzt (enc := eI) (xs := [p1]) 8 rfl (by exact zph) ?_
   refine yak (yai ?_)
   obtain rfl := Option.some.inj h
   exact yal (ybc (yao rfl)) zsn ⟨rfl, rfl⟩
  ·replace h := yaq hc6 h
   refine yaj (yab (yaa (yaa ?_)))
   refine yad [] [] [(28, pL TAgreement.enc p0), (29, pI (p0.length : Int)), (30, pI 0)] fo0 (by kernel_rfl) ?_
   refine yab ?_
   refine yac h ?_; clear h; intro q17 hq17 h
   refine yaz (Y := (Option Addr × Nat) × ((List Int))) (fun ((a13, c14), l15) => [(11, pO a13 l15.length c14)]) (fun ((a13, c14), l15) => [PRes.row a13 l15.length c14 3 1 (List.map eI l15)]) (fun ((a13, c14), l15) => q17 = l15) ?_ ?_
   ·refine yan ?_
    refine ybd (Y := Option Addr × Nat) (S := (List Int) × Int) _ hq17 (fun (a9, c10) (l8, v11) => [(1, pI p1), (2, pS p2), (3, pS p3), (9, pP b2 0), (11, pO a9 l8.length c10), (28, pL TAgreement.enc p0), (29, pI (p0.length : Int)), (30, pI v11)]) (fun (a9, c10) (l8, v11) => [PRes.b b2 33 [pI x1.1.ID, pI x1.1.Kind, pL eS x1.1.Parties, pL TRuleFor.enc x1.1.Rules], PRes.row a9 l8.length c10 3 1 (List.map eI l8)]) ((some ⟨b4, 0, none⟩), 1) (zhc rfl (zhc rfl (zhc rfl (zhc rfl (zhc rfl (zhc rfl (zhc rfl (zhc rfl zhn)))))))) (zsc (zpt zph) (zsc zph zsn)) ?_
    rintro ⟨a9, c10⟩ ⟨l8, v11⟩ o τ hb16; (try dsimp only at hb16); dsimp only [pupds]
    refine yaa ?_
    refine yad [] [] [(31, pB (decide (v11 < (p0.length : Int))))] fo0 (by kernel_rfl) ?_
    refine yab (yaa ?_)
    refine yah rfl (fun hc18 => ?_) (fun hc18 => ?_)
    ·replace hb16 := yap hc18 hb16
     refine yaj (yab (yaa ?_))
     refine yac hb16 ?_; clear hb16; intro q23 hq23 hb16
     refine yaz (Y := (Option Addr × Nat) × ((List Int))) (fun ((a20, c21), l22) => [(1, pI p1), (2, pS p2), (3, pS p3), (9, pP b2 0), (11, pO a20 l22.length c21), (28, pL TAgreement.enc p0), (29, pI (p0.length : Int)), (30, pI v11)]) (fun ((a20, c21), l22) => [PRes.b b2 33 [pI x1.1.ID, pI x1.1.Kind, pL eS x1.1.Parties, pL TRuleFor.enc x1.1.Rules], PRes.row a20 l22.length c21 3 1 (List.map eI l22)]) (fun ((a20, c21), l22) => q23 = l22) ?_ ?_
     ·skip
      refine yan (yaa ?_)
      refine yac hq23 ?_; clear hq23; intro m24 hm24 hq23
      refine yaf ?_
      refine yam 2 [] [32] [(33, .agg [pI m24.ID, pI m24.Kind, pL eS m24.Parties, pL TRuleFor.enc m24.Rules])] (foix 0 TAgreement.enc hm24 fo0) (by kernel_rfl) ?_
      refine yay rfl rfl rfl (pl_alloc (cs := [pI 0, pI 0, pN, pN]) rfl rfl rfl rfl (fun b25 => ?_))
      refine pwl_l0 rfl rfl (yaw (vs := [pI m24.ID, pI m24.Kind, pL eS m24.Parties, pL TRuleFor.enc m24.Rules]) rfl rfl rfl rfl rfl zuh (zlc (zlc (zlc (zlc zln)))) ?_)
      refine yba (yab (yaa ?_))
      refine yac hq23 ?_; clear hq23; intro x26 hx26 hq23
      refine yac hq23 ?_; clear hq23; intro x27 hx27 hq23
      refine yad [0, 0, 1, 0] [34, 35, 36, 37, 38, 39, 40, 41, 42, 43, 44, 45, 46, 47, 48, 49] [(50, pB (((m24.ID != p1) && x26) && x27))] (foclg 8 (fun hc => cumulation_hasParties_ok (gd_t hx26 hc)) (foclg 15 (fun hc => cumulation_equalRules_ok (gd_t hx27 hc)) fo0)) (by kernel_rfl) ?_
      refine yab ?_
      refine yah rfl (fun hc28 => ?_) (fun hc28 => ?_)
      ·replace hq23 := yap hc28 hq23
       refine yaf ?_
       refine yam 3 [0] [52] [(51, pO a9 l8.length c10), (53, pI m24.ID)] fo0 (by kernel_rfl) ?_
       refine yay rfl rfl rfl (pl_lit rfl rfl rfl rfl rfl (zic rfl zin) rfl rfl rfl rfl (fun b29 => ?_))
       refine yac hq23 ?_; clear hq23; intro l31 hl31 hq23
       refine yay rfl rfl rfl (pl_app_o (enc := eI) rfl rfl rfl rfl rfl rfl rfl rfl rfl zm0 (by exact zpt (zpt (zpt zph))) hl31 (fun a32 c33 => ?_))
       refine yas [] [] [(11, pO a32 l31.length c33)] fo0 (by kernel_rfl) ?_
       refine yae ?_
       obtain rfl := Option.some.inj hq23
       exact pk_mid ((a32, c33), l31) (zhc rfl (zhc rfl (zhc rfl (zhc rfl (zhc rfl (zhc rfl (zhc rfl (zhc rfl zhn)))))))) (zsc (zpt (zpt (zpt zph))) (zsc zph zsn)) rfl
      ·replace hq23 := yaq hc28 hq23
       refine yaj (yae ?_)
       obtain rfl := Option.some.inj hq23
       exact pk_mid ((a9, c10), l8) (zhc rfl (zhc rfl (zhc rfl (zhc rfl (zhc rfl (zhc rfl (zhc rfl (zhc rfl zhn)))))))) (zsc (zpt zph) (zsc (zpt zph) zsn)) rfl
     ·rintro ⟨⟨a20, c21⟩, l22⟩ τ hz; (try dsimp only at hz); subst q23; (try dsimp only at hb16); dsimp only [pupds]
      refine yad [] [56] [(30, pI (IntKind.i64.wrap (v11 + 1)))] fo0 (by kernel_rfl) ?_
      exact pk_loop hb16 (a20, c21) (zhc rfl (zhc rfl (zhc rfl (zhc rfl (zhc rfl (zhc rfl (zhc rfl (zhc rfl zhn)))))))) (zsc zph (zsc zph zsn))
    ·replace hb16 := yaq hc18 hb16
     refine pwc_exit (yav ?_)
     refine yar hb16 (fun ht => ?_)
     refine yau rfl ?_
     exact pk_mid ((a9, c10), l8) (zhc rfl zhn) (zsc (zpt zph) zsn) ht.symm
   ·rintro ⟨⟨a13, c14⟩, l15⟩ τ hz; (try dsimp only at hz); subst q17; (try dsimp only at h); dsimp only [pupds]
    refine yaa ?_
    refine yad [] [57] [(8, pO a13 l15.length c14)] fo0 (by kernel_rfl) ?_
    refine yab ?_
    refine pwc_frzt (enc := eI) (xs := l15) 8 rfl (by exact zph) ?_
    refine yak ?_
    obtain rfl := Option.some.inj h
    exact yal (ybc (yao rfl)) zsn ⟨rfl, rfl⟩
def cumulation_supplier_take (p0 : Tcumulation_supplier) (p1 : TProduct) (p2 : Int) : Option Icumulation_supply := Option.bind (loopF (S := Int) (T := (Unit) ⊕ (_)) (fun v3 => cond (decide (v3 < (p0.partners.length : Int))) (Option.bind (idx p0.partners v3) (fun m7 => cond ((mget p0.set_ (⟨p1.ID, m7⟩ : TOriginClaim)).getD false) (some (.inr (.inr (Icumulation_supply.proved_ (⟨(⟨p1.Code, p2, true⟩ : TInput), (⟨p1.ID, m7⟩ : TOriginClaim)⟩ : Tcumulation_proved))))) (some (.inl (IntKind.i64.wrap (v3 + 1)))))) (some (.inr (.inl ())))) FUEL 0) (fun q => match q with | .inl _ => some (Icumulation_supply.plain_ (⟨(⟨p1.Code, p2, false⟩ : TInput)⟩ : Tcumulation_plain)) | .inr e => some e)
set_option maxHeartbeats 4000000 in
theorem cumulation_supplier_take_ok {p0 : Tcumulation_supplier} {p1 : TProduct} {p2 : Int} {m0_set_ : Nat} {r : Icumulation_supply}  (h : cumulation_supplier_take p0 p1 p2 = some r) : PCall 94 [.agg [pL eI p0.partners, .v (.map (some m0_set_))], .agg [pI p1.ID, pS p1.Code, pS p1.Country, pI p1.Price, pB p1.Obtained, pL eS p1.Processes, pL TIngredient.enc p1.Inputs], pI p2] [PRes.mp (some m0_set_) (menc TOriginClaim.key vT p0.set_)] (fun pv ρ' => pv = Icumulation_supply.pv r ∧ ρ' = [PRes.mp (some m0_set_) (menc TOriginClaim.key vT p0.set_)]) := by
 unfold cumulation_supplier_take at h
 refine penter Tryz.func94 fk94 rfl Tryz.ntmps94 Tryz.results94 rfl ?_
 refine yaa (yaf ?_)
 refine yay rfl rfl rfl (pl_box (cs := [pL eI p0.partners, .v (.map (some m0_set_))]) rfl rfl (fun b1 => ?_))
 refine yay rfl rfl rfl (pl_box (cs := [pI p1.ID, pS p1.Code, pS p1.Country, pI p1.Price, pB p1.Obtained, pL eS p1.Processes, pL TIngredient.enc p1.Inputs]) rfl rfl (fun b2 => ?_))
 refine yas [] [6] [] fo0 (by kernel_rfl) ?_
 refine yab (yaa (yaa ?_))
 refine yad [1] [10] [(11, pL eI p0.partners), (12, pI (p0.partners.length : Int)), (13, pI 0)] fo0 (by kernel_rfl) ?_
 refine yab ?_
 refine yac h ?_; clear h; intro q5 hq5 h
 refine yaz (Y := (Unit) × (Unit)) (fun (_, _) => [(2, pI p2), (4, pP b2 0)]) (fun (_, _) => [PRes.b b2 92 [pI p1.ID, pS p1.Code, pS p1.Country, pI p1.Price, pB p1.Obtained, pL eS p1.Processes, pL TIngredient.enc p1.Inputs], PRes.mp (some m0_set_) (menc TOriginClaim.key vT p0.set_)]) (fun (_, _) => q5 = Sum.inl ()) ?_ ?_
 ·refine yan ?_
  refine ybd (Y := Unit) (S := Int) _ hq5 (fun _ v3 => [(2, pI p2), (3, pP b1 0), (4, pP b2 0), (11, pL eI p0.partners), (12, pI (p0.partners.length : Int)), (13, pI v3)]) (fun _ v3 => [PRes.b b1 106 [pL eI p0.partners, .v (.map (some m0_set_))], PRes.b b2 92 [pI p1.ID, pS p1.Code, pS p1.Country, pI p1.Price, pB p1.Obtained, pL eS p1.Processes, pL TIngredient.enc p1.Inputs], PRes.mp (some m0_set_) (menc TOriginClaim.key vT p0.set_)]) () (zhc rfl (zhc rfl (zhc rfl (zhc rfl (zhc rfl (zhc rfl zhn)))))) (zsc (zpt zph) (zsc zph (zsc zph zsn))) ?_
  rintro _ v3 o τ hb4; (try dsimp only at hb4); dsimp only [pupds]
  refine yaa ?_
  refine yad [] [] [(14, pB (decide (v3 < (p0.partners.length : Int))))] fo0 (by kernel_rfl) ?_
  refine yab (yaa ?_)
  refine yah rfl (fun hc6 => ?_) (fun hc6 => ?_)
  ·replace hb4 := yap hc6 hb4
   refine yaj (yab (yaa (yan (yaa ?_))))
   refine yac hb4 ?_; clear hb4; intro m7 hm7 hb4
   refine yad [] [15, 16] [(8, pI m7)] (foix 0 eI hm7 fo0) (by kernel_rfl) ?_
   refine yab (yaa (yaf ?_))
   refine yam 4 [1] [17, 18, 19] [(20, .agg [pI p1.ID, pI m7])] fo0 (by kernel_rfl) ?_
   refine yay rfl rfl rfl (pl_alloc (cs := [pI 0, pI 0]) rfl rfl rfl rfl (fun b8 => ?_))
   refine pwl_l0 rfl rfl (yaw (vs := [pI p1.ID, pI m7]) rfl rfl rfl rfl rfl zuh (zlc (zlc zln)) ?_)
   refine yba (yab (yaa (yaf ?_)))
   refine yam 3 [1, 0] [21] [(22, .v (.map (some m0_set_))), (23, .agg [pI p1.ID, pI m7])] fo0 (by kernel_rfl) ?_
   refine pwl_q rfl rfl rfl (show POpQ _ _ _ _ (pB ((mget p0.set_ (⟨p1.ID, m7⟩ : TOriginClaim)).getD false)) from pq_lookup (xs := p0.set_) (k := (⟨p1.ID, m7⟩ : TOriginClaim)) (ek := TOriginClaim.key) (vv := vT) (z0 := false) rfl rfl rfl (fun _ => .v rfl) TOriginClaim.kenc54 (.p rfl) (.p rfl) kP_key (mapIs_mp zm3)) ?_
   refine yba (yab ?_)
   refine yah rfl (fun hc9 => ?_) (fun hc9 => ?_)
   ·replace hb4 := yap hc9 hb4
    refine yaa ?_
    refine yad [2, 0] [25, 26, 27, 28, 29, 30, 31] [(6, Icumulation_supply.pv (Icumulation_supply.proved_ (⟨(⟨p1.Code, p2, true⟩ : TInput), (⟨p1.ID, m7⟩ : TOriginClaim)⟩ : Tcumulation_proved)))] fo0 (by kernel_rfl) ?_
    refine yab (yak (yag (yai ?_)))
    refine pk_loop_ret hb4 (fun ht => ?_); subst ht
    have h := (show some _ = some _ from h)
    refine yag (yax ?_)
    obtain rfl := Option.some.inj h
    exact yal (ybc (yao rfl)) (zsc (zpt (zpt (zpt zph))) zsn) ⟨rfl, rfl⟩
   ·replace hb4 := yaq hc9 hb4
    refine yaj (yae (yab ?_))
    refine yad [] [32] [(13, pI (IntKind.i64.wrap (v3 + 1)))] fo0 (by kernel_rfl) ?_
    exact pk_loop hb4 () (zhc rfl (zhc rfl (zhc rfl (zhc rfl (zhc rfl (zhc rfl zhn)))))) (zsc (zpt zph) (zsc (zpt zph) (zsc (zpt zph) zsn)))
  ·replace hb4 := yaq hc6 hb4
   refine pwc_exit (yav ?_)
   refine yar hb4 (fun ht => ?_)
   refine yau rfl ?_
   exact pk_mid ((), ()) (zhc rfl (zhc rfl zhn)) (zsc (zpt zph) (zsc (zpt zph) zsn)) ht.symm
 ·rintro ⟨_, _⟩ τ hz; (try dsimp only at hz); subst q5; (try dsimp only at h); dsimp only [pupds]
  refine yaa ?_
  refine yad [0] [33, 34, 35, 36, 37, 38] [(6, Icumulation_supply.pv (Icumulation_supply.plain_ (⟨(⟨p1.Code, p2, false⟩ : TInput)⟩ : Tcumulation_plain)))] fo0 (by kernel_rfl) ?_
  refine yab (yak ?_)
  obtain rfl := Option.some.inj h
  exact yal (ybc (yao rfl)) (zsc (zpt zph) zsn) ⟨rfl, rfl⟩
def cumulation_proved_input (p0 : Tcumulation_proved) : Option TInput := some p0.use
set_option maxHeartbeats 4000000 in
theorem cumulation_proved_input_ok {p0 : Tcumulation_proved} {r : TInput}  (h : cumulation_proved_input p0 = some r) : PF 199 [.agg [pS p0.use.Code, pI p0.use.Value, pB p0.use.Originating, pI p0.premise.Product, pI p0.premise.Agreement]] (.agg [pS r.Code, pI r.Value, pB r.Originating]) := by
 unfold cumulation_proved_input at h
 refine pf_of ?_
 refine penter Tryz.func199 fk199 rfl Tryz.ntmps199 Tryz.results199 rfl ?_
 refine yaa (yaf ?_)
 refine yay rfl rfl rfl (pl_box (cs := [pS p0.use.Code, pI p0.use.Value, pB p0.use.Originating, pI p0.premise.Product, pI p0.premise.Agreement]) rfl rfl (fun b1 => ?_))
 refine yay rfl rfl rfl (pl_alloc (cs := [pS ByteArray.empty, pI 0, pB false]) rfl rfl rfl rfl (fun b2 => ?_))
 refine yba (yab (yaa (yaf ?_)))
 refine yam 2 [1] [3] [(4, .agg [pS p0.use.Code, pI p0.use.Value, pB p0.use.Originating])] fo0 (by kernel_rfl) ?_
 refine pwl_l0 rfl rfl (yaw (vs := [pS p0.use.Code, pI p0.use.Value, pB p0.use.Originating]) rfl rfl rfl rfl rfl zuh (zlc (zlc (zlc zln))) ?_)
 refine yba (yab (yak ?_))
 obtain rfl := Option.some.inj h
 exact yal (ybc (prv1_c rfl zm0 rfl)) zsn ⟨rfl, rfl⟩
def cumulation_plain_input (p0 : Tcumulation_plain) : Option TInput := some p0.use
set_option maxHeartbeats 4000000 in
theorem cumulation_plain_input_ok {p0 : Tcumulation_plain} {r : TInput}  (h : cumulation_plain_input p0 = some r) : PF 200 [.agg [pS p0.use.Code, pI p0.use.Value, pB p0.use.Originating]] (.agg [pS r.Code, pI r.Value, pB r.Originating]) := by
 unfold cumulation_plain_input at h
 refine pf_of ?_
 refine penter Tryz.func200 fk200 rfl Tryz.ntmps200 Tryz.results200 rfl ?_
 refine yaa (yaf ?_)
 refine yay rfl rfl rfl (pl_box (cs := [pS p0.use.Code, pI p0.use.Value, pB p0.use.Originating]) rfl rfl (fun b1 => ?_))
 refine yay rfl rfl rfl (pl_alloc (cs := [pS ByteArray.empty, pI 0, pB false]) rfl rfl rfl rfl (fun b2 => ?_))
 refine yba (yab (yaa (yaf ?_)))
 refine yam 2 [1] [3] [(4, .agg [pS p0.use.Code, pI p0.use.Value, pB p0.use.Originating])] fo0 (by kernel_rfl) ?_
 refine pwl_l0 rfl rfl (yaw (vs := [pS p0.use.Code, pI p0.use.Value, pB p0.use.Originating]) rfl rfl rfl rfl rfl zuh (zlc (zlc (zlc zln))) ?_)
 refine yba (yab (yak ?_))
 obtain rfl := Option.some.inj h
 exact yal (ybc (prv1_c rfl zm0 rfl)) zsn ⟨rfl, rfl⟩
def Icumulation_supply_input (x : Icumulation_supply)  : Option TInput := match x with | .plain_ a => cumulation_plain_input a  | .proved_ a => cumulation_proved_input a
theorem Icumulation_supply_input_ok {x : Icumulation_supply}  {w : TInput} (h : Icumulation_supply_input x  = some w) : PFI x.pv "customs/cumulation.input" [] (.agg [pS w.Code, pI w.Value, pB w.Originating]) := by
 cases x with
 | plain_ a => exact pfi_of ⟨fun _ _ => by kernel_rfl⟩ (cumulation_plain_input_ok h)
 | proved_ a => exact pfi_of ⟨fun _ _ => by kernel_rfl⟩ (cumulation_proved_input_ok h)
def rule_ValidateCase (p0 : TCase) : Option Int := Option.bind (rule_goodsCode p0.Code) (fun x2 => cond (!x2) (some 1) (cond ((decide (p0.Price < 1)) || (decide (1000000000000 < p0.Price))) (some 2) (Option.bind (goods_ValidWords p0.Processes) (fun x5 => cond (!x5) (some 1) (cond (decide (100 < (p0.Inputs.length : Int))) (some 8) (Option.bind (loopF (S := Int) (T := (Unit) ⊕ (_)) (fun v8 => cond (decide (v8 < (p0.Inputs.length : Int))) (Option.bind (idx p0.Inputs v8) (fun m12 => Option.bind (rule_goodsCode m12.Code) (fun x14 => cond (!x14) (some (.inr (.inr 1))) (cond ((decide (m12.Value < 0)) || (decide (1000000000000 < m12.Value))) (some (.inr (.inr 2))) (some (.inl (IntKind.i64.wrap (v8 + 1)))))))) (some (.inr (.inl ())))) FUEL 0) (fun q => match q with | .inl _ => some 0 | .inr e => some e)))))))
set_option maxHeartbeats 4000000 in
theorem rule_ValidateCase_ok {p0 : TCase} {r : Int}  (h : rule_ValidateCase p0 = some r) : PF 39 [.agg [pS p0.Code, pI p0.Price, pB p0.Obtained, pL eS p0.Processes, pL TInput.enc p0.Inputs]] (pI r) := by
 unfold rule_ValidateCase at h
 refine pf_of ?_
 refine penter Tryz.func39 fk39 rfl Tryz.ntmps39 Tryz.results39 rfl ?_
 refine yaa (yaf ?_)
 refine yay rfl rfl rfl (pl_box (cs := [pS p0.Code, pI p0.Price, pB p0.Obtained, pL eS p0.Processes, pL TInput.enc p0.Inputs]) rfl rfl (fun b1 => ?_))
 refine yas [] [2] [] fo0 (by kernel_rfl) ?_
 refine yab (yaa (yan (yaa ?_)))
 refine yac h ?_; clear h; intro x2 hx2 h
 refine yad [0] [6, 7, 8, 9] [(5, pB (!x2))] (focl 2 (rule_goodsCode_ok hx2) fo0) (by kernel_rfl) ?_
 refine yab ?_
 refine yah rfl (fun hc3 => ?_) (fun hc3 => ?_)
 ·replace h := yap hc3 h
  refine yaa ?_
  refine yad [] [] [(2, pI 1)] fo0 (by kernel_rfl) ?_
  refine yab (yak (yag (yai ?_)))
  obtain rfl := Option.some.inj h
  exact yal (ybc (yao rfl)) zsn ⟨rfl, rfl⟩
 ·replace h := yaq hc3 h
  refine yaa ?_
  refine yad [0, 0] [11, 12, 13, 14, 15, 16, 17, 18] [(10, pB ((decide (p0.Price < 1)) || (decide (1000000000000 < p0.Price))))] fo0 (by kernel_rfl) ?_
  refine yab ?_
  refine yah rfl (fun hc4 => ?_) (fun hc4 => ?_)
  ·replace h := yap hc4 h
   refine yaa ?_
   refine yad [] [] [(2, pI 2)] fo0 (by kernel_rfl) ?_
   refine yab (yak (yag (yai ?_)))
   obtain rfl := Option.some.inj h
   exact yal (ybc (yao rfl)) zsn ⟨rfl, rfl⟩
  ·replace h := yaq hc4 h
   refine yaa ?_
   refine yac h ?_; clear h; intro x5 hx5 h
   refine yad [0] [20, 21, 22, 23] [(19, pB (!x5))] (focl 2 (goods_ValidWords_ok hx5) fo0) (by kernel_rfl) ?_
   refine yab ?_
   refine yah rfl (fun hc6 => ?_) (fun hc6 => ?_)
   ·replace h := yap hc6 h
    refine yaa ?_
    refine yad [] [] [(2, pI 1)] fo0 (by kernel_rfl) ?_
    refine yab (yak (yag (yai ?_)))
    obtain rfl := Option.some.inj h
    exact yal (ybc (yao rfl)) zsn ⟨rfl, rfl⟩
   ·replace h := yaq hc6 h
    refine yaa ?_
    refine yad [0] [25, 26, 27, 28] [(24, pB (decide (100 < (p0.Inputs.length : Int))))] fo0 (by kernel_rfl) ?_
    refine yab ?_
    refine yah rfl (fun hc7 => ?_) (fun hc7 => ?_)
    ·replace h := yap hc7 h
     refine yaa ?_
     refine yad [] [] [(2, pI 8)] fo0 (by kernel_rfl) ?_
     refine yab (yak (yag (yai ?_)))
     obtain rfl := Option.some.inj h
     exact yal (ybc (yao rfl)) zsn ⟨rfl, rfl⟩
    ·replace h := yaq hc7 h
     refine yaj (yae (yab (yaa (yaa ?_))))
     refine yad [0] [29] [(30, pL TInput.enc p0.Inputs), (31, pI (p0.Inputs.length : Int)), (32, pI 0)] fo0 (by kernel_rfl) ?_
     refine yab ?_
     refine yac h ?_; clear h; intro q10 hq10 h
     refine yaz (Y := (Unit) × (Unit)) (fun (_, _) => []) (fun (_, _) => []) (fun (_, _) => q10 = Sum.inl ()) ?_ ?_
     ·refine yan ?_
      refine ybd (Y := Unit) (S := Int) _ hq10 (fun _ v8 => [(30, pL TInput.enc p0.Inputs), (31, pI (p0.Inputs.length : Int)), (32, pI v8)]) (fun _ v8 => []) () (zhc rfl (zhc rfl (zhc rfl zhn))) zsn ?_
      rintro _ v8 o τ hb9; (try dsimp only at hb9); dsimp only [pupds]
      refine yaa ?_
      refine yad [] [] [(33, pB (decide (v8 < (p0.Inputs.length : Int))))] fo0 (by kernel_rfl) ?_
      refine yab (yaa ?_)
      refine yah rfl (fun hc11 => ?_) (fun hc11 => ?_)
      ·replace hb9 := yap hc11 hb9
       refine yaj (yab (yaa (yan (yaa ?_))))
       refine yac hb9 ?_; clear hb9; intro m12 hm12 hb9
       refine yaf ?_
       refine yam 2 [] [34] [(35, .agg [pS m12.Code, pI m12.Value, pB m12.Originating])] (foix 0 TInput.enc hm12 fo0) (by kernel_rfl) ?_
       refine yay rfl rfl rfl (pl_alloc (cs := [pS ByteArray.empty, pI 0, pB false]) rfl rfl rfl rfl (fun b13 => ?_))
       refine pwl_l0 rfl rfl (yaw (vs := [pS m12.Code, pI m12.Value, pB m12.Originating]) rfl rfl rfl rfl rfl zuh (zlc (zlc (zlc zln))) ?_)
       refine yba (yab (yaa (yaa ?_)))
       refine yac hb9 ?_; clear hb9; intro x14 hx14 hb9
       refine yad [0] [36, 37, 38] [(39, pB (!x14))] (focl 2 (rule_goodsCode_ok hx14) fo0) (by kernel_rfl) ?_
       refine yab ?_
       refine yah rfl (fun hc15 => ?_) (fun hc15 => ?_)
       ·replace hb9 := yap hc15 hb9
        refine yaa ?_
        refine yad [] [] [(2, pI 1)] fo0 (by kernel_rfl) ?_
        refine yab (yak (yai (yag (yai ?_))))
        refine pk_loop_ret hb9 (fun ht => ?_); subst ht
        have h := (show some _ = some _ from h)
        refine yag (yax ?_)
        obtain rfl := Option.some.inj h
        exact yal (ybc (yao rfl)) zsn ⟨rfl, rfl⟩
       ·replace hb9 := yaq hc15 hb9
        refine yaj (yab (yaa ?_))
        refine yad [0, 0] [40, 41, 42, 43, 44, 45, 46] [(47, pB ((decide (m12.Value < 0)) || (decide (1000000000000 < m12.Value))))] fo0 (by kernel_rfl) ?_
        refine yab ?_
        refine yah rfl (fun hc16 => ?_) (fun hc16 => ?_)
        ·replace hb9 := yap hc16 hb9
         refine yaa ?_
         refine yad [] [] [(2, pI 2)] fo0 (by kernel_rfl) ?_
         refine yab (yak (yag (yai ?_)))
         refine pk_loop_ret hb9 (fun ht => ?_); subst ht
         have h := (show some _ = some _ from h)
         refine yag (yax ?_)
         obtain rfl := Option.some.inj h
         exact yal (ybc (yao rfl)) zsn ⟨rfl, rfl⟩
        ·replace hb9 := yaq hc16 hb9
         refine yaj (yae (yab ?_))
         refine yad [] [48] [(32, pI (IntKind.i64.wrap (v8 + 1)))] fo0 (by kernel_rfl) ?_
         exact pk_loop hb9 () (zhc rfl (zhc rfl (zhc rfl zhn))) zsn
      ·replace hb9 := yaq hc11 hb9
       refine pwc_exit (yav ?_)
       refine yar hb9 (fun ht => ?_)
       refine yau rfl ?_
       exact pk_mid ((), ()) zhn zsn ht.symm
     ·rintro ⟨_, _⟩ τ hz; (try dsimp only at hz); subst q10; (try dsimp only at h); dsimp only [pupds]
      refine yaa ?_
      refine yad [] [] [(2, pI 0)] fo0 (by kernel_rfl) ?_
      refine yab (yak ?_)
      obtain rfl := Option.some.inj h
      exact yal (ybc (yao rfl)) zsn ⟨rfl, rfl⟩
def rule_applicable (p0 : TRule) (p1 : TCase) : Option Bool := Option.bind (rule_Validate p0) (fun x3 => Option.bind (gd (x3 == 0) (rule_ValidateCase p1)) (fun x4 => some ((x3 == 0) && (x4 == 0))))
set_option maxHeartbeats 4000000 in
theorem rule_applicable_ok {p0 : TRule} {p1 : TCase} {r : Bool}  (h : rule_applicable p0 p1 = some r) : PF 104 [.agg [pI p0.Kind, pI p0.Digits, pL eS p0.Except, pI p0.Tolerance, pI p0.Limit, pS p0.Name, pL TRule.enc p0.Args], .agg [pS p1.Code, pI p1.Price, pB p1.Obtained, pL eS p1.Processes, pL TInput.enc p1.Inputs]] (pB r) := by
 unfold rule_applicable at h
 refine pf_of ?_
 refine penter Tryz.func104 fk104 rfl Tryz.ntmps104 Tryz.results104 rfl ?_
 refine yaa (yaf ?_)
 refine yay rfl rfl rfl (pl_box (cs := [pI p0.Kind, pI p0.Digits, pL eS p0.Except, pI p0.Tolerance, pI p0.Limit, pS p0.Name, pL TRule.enc p0.Args]) rfl rfl (fun b1 => ?_))
 refine yay rfl rfl rfl (pl_box (cs := [pS p1.Code, pI p1.Price, pB p1.Obtained, pL eS p1.Processes, pL TInput.enc p1.Inputs]) rfl rfl (fun b2 => ?_))
 refine yas [] [4] [] fo0 (by kernel_rfl) ?_
 refine yab (yaa ?_)
 refine yac h ?_; clear h; intro x3 hx3 h
 refine yac h ?_; clear h; intro x4 hx4 h
 refine yad [1, 0] [5, 6, 7, 8, 9, 10, 11, 12] [(4, pB ((x3 == 0) && (x4 == 0)))] (focl 1 (rule_Validate_ok hx3) (foclg 5 (fun hc => rule_ValidateCase_ok (gd_t hx4 hc)) fo0)) (by kernel_rfl) ?_
 refine yab (yak ?_)
 obtain rfl := Option.some.inj h
 exact yal (ybc (yao rfl)) zsn ⟨rfl, rfl⟩
def slices_IndexFunc_string_string (p0 : (List ByteArray)) (p1 : (ByteArray → Option Bool)) : Option Int := Option.bind (loopF (S := Int) (T := (Unit) ⊕ (_)) (fun v1 => cond (decide (v1 < (p0.length : Int))) (Option.bind (idx p0 v1) (fun m5 => Option.bind (p1 m5) (fun x6 => cond x6 (some (.inr (.inr v1))) (some (.inl (IntKind.i64.wrap (v1 + 1))))))) (some (.inr (.inl ())))) FUEL 0) (fun q => match q with | .inl _ => some (-1) | .inr e => some e)
set_option maxHeartbeats 4000000 in
theorem slices_IndexFunc_string_string_ok {p0 : (List ByteArray)} {p1 : (ByteArray → Option Bool)} {r : Int} {g1 : PV} (hg1 : ∀ {y0 : ByteArray} {w : Bool}, p1 y0 = some w → PFV g1 [pS y0] (pB w)) (h : slices_IndexFunc_string_string p0 p1 = some r) : PF 215 [pL eS p0, g1] (pI r) := by
 unfold slices_IndexFunc_string_string at h
 refine pf_of ?_
 refine penter Tryz.func215 fk215 rfl Tryz.ntmps215 Tryz.results215 rfl ?_
 refine yaa ?_
 refine yad [] [4] [] fo0 (by kernel_rfl) ?_
 refine yab (yaa (yaa ?_))
 refine yad [] [6] [(7, pI (p0.length : Int)), (8, pI 0)] fo0 (by kernel_rfl) ?_
 refine yab ?_
 refine yac h ?_; clear h; intro q3 hq3 h
 refine yaz (Y := (Unit) × (Unit)) (fun (_, _) => []) (fun (_, _) => []) (fun (_, _) => q3 = Sum.inl ()) ?_ ?_
 ·refine yan ?_
  refine ybd (Y := Unit) (S := Int) _ hq3 (fun _ v1 => [(0, pL eS p0), (1, g1), (7, pI (p0.length : Int)), (8, pI v1)]) (fun _ v1 => []) () (zhc rfl (zhc rfl (zhc rfl (zhc rfl zhn)))) zsn ?_
  rintro _ v1 o τ hb2; (try dsimp only at hb2); dsimp only [pupds]
  refine yaa ?_
  refine yad [] [] [(9, pB (decide (v1 < (p0.length : Int))))] fo0 (by kernel_rfl) ?_
  refine yab (yaa ?_)
  refine yah rfl (fun hc4 => ?_) (fun hc4 => ?_)
  ·replace hb2 := yap hc4 hb2
   refine yaj (yab (yaa (yan (yaa ?_))))
   refine yad [] [10] [(5, pI v1)] fo0 (by kernel_rfl) ?_
   refine yab (yaa ?_)
   refine yac hb2 ?_; clear hb2; intro m5 hm5 hb2
   refine yac hb2 ?_; clear hb2; intro x6 hx6 hb2
   refine yad [] [11, 12, 13, 14, 15] [(16, pB x6)] (foix 3 eS hm5 (focv 5 (hg1 hx6) fo0)) (by kernel_rfl) ?_
   refine yab ?_
   refine yah rfl (fun hc7 => ?_) (fun hc7 => ?_)
   ·replace hb2 := yap hc7 hb2
    refine yaa ?_
    refine yad [] [17] [(4, pI v1)] fo0 (by kernel_rfl) ?_
    refine yab (yak (yag (yai ?_)))
    refine pk_loop_ret hb2 (fun ht => ?_); subst ht
    have h := (show some _ = some _ from h)
    refine yag (yax ?_)
    obtain rfl := Option.some.inj h
    exact yal (ybc (yao rfl)) zsn ⟨rfl, rfl⟩
   ·replace hb2 := yaq hc7 hb2
    refine yaj (yae (yab ?_))
    refine yad [] [18] [(8, pI (IntKind.i64.wrap (v1 + 1)))] fo0 (by kernel_rfl) ?_
    exact pk_loop hb2 () (zhc rfl (zhc rfl (zhc rfl (zhc rfl zhn)))) zsn
  ·replace hb2 := yaq hc4 hb2
   refine pwc_exit (yav ?_)
   refine yar hb2 (fun ht => ?_)
   refine yau rfl ?_
   exact pk_mid ((), ()) zhn zsn ht.symm
 ·rintro ⟨_, _⟩ τ hz; (try dsimp only at hz); subst q3; (try dsimp only at h); dsimp only [pupds]
  refine yaa ?_
  refine yad [] [] [(4, pI (-1))] fo0 (by kernel_rfl) ?_
  refine yab (yak ?_)
  obtain rfl := Option.some.inj h
  exact yal (ybc (yao rfl)) zsn ⟨rfl, rfl⟩
def rule_violates_1 (p0 : ByteArray) (p1 : ByteArray) : Option Bool := Option.bind (strings_HasPrefix p1 p0) (fun x1 => some x1)
set_option maxHeartbeats 4000000 in
theorem rule_violates_1_ok {p0 : ByteArray} {p1 : ByteArray} {r : Bool}  (h : rule_violates_1 p0 p1 = some r) : PF 213 [pS p0, .ref [pS p1] 0] (pB r) := by
 unfold rule_violates_1 at h
 refine pf_of ?_
 refine penter Tryz.func213 fk213 rfl Tryz.ntmps213 Tryz.results213 rfl ?_
 refine yaa ?_
 refine yad [] [3] [] fo0 (by kernel_rfl) ?_
 refine yab (yaa ?_)
 refine yac h ?_; clear h; intro x1 hx1 h
 refine yad [] [4, 5, 6] [(3, pB x1)] (focl 2 (strings_HasPrefix_ok hx1) fo0) (by kernel_rfl) ?_
 refine yab (yak ?_)
 obtain rfl := Option.some.inj h
 exact yal (ybc (yao rfl)) zsn ⟨rfl, rfl⟩
def slices_ContainsFunc_string_string (p0 : (List ByteArray)) (p1 : (ByteArray → Option Bool)) : Option Bool := Option.bind (slices_IndexFunc_string_string p0 p1) (fun x1 => some (decide (0 ≤ x1)))
set_option maxHeartbeats 4000000 in
theorem slices_ContainsFunc_string_string_ok {p0 : (List ByteArray)} {p1 : (ByteArray → Option Bool)} {r : Bool} {g1 : PV} (hg1 : ∀ {y0 : ByteArray} {w : Bool}, p1 y0 = some w → PFV g1 [pS y0] (pB w)) (h : slices_ContainsFunc_string_string p0 p1 = some r) : PF 212 [pL eS p0, g1] (pB r) := by
 unfold slices_ContainsFunc_string_string at h
 refine pf_of ?_
 refine penter Tryz.func212 fk212 rfl Tryz.ntmps212 Tryz.results212 rfl ?_
 refine yaa ?_
 refine yad [] [4] [] fo0 (by kernel_rfl) ?_
 refine yab (yaa ?_)
 refine yac h ?_; clear h; intro x1 hx1 h
 refine yad [] [5, 6, 7, 8] [(4, pB (decide (0 ≤ x1)))] (focl 2 (slices_IndexFunc_string_string_ok hg1 hx1) fo0) (by kernel_rfl) ?_
 refine yab (yak ?_)
 obtain rfl := Option.some.inj h
 exact yal (ybc (yao rfl)) zsn ⟨rfl, rfl⟩
def rule_violates (p0 : TRule) (p1 : ByteArray) (p2 : ByteArray) : Option Bool := Option.bind (ssub p1 0 p0.Digits) (fun s3 => Option.bind (strings_HasPrefix p2 s3) (fun x4 => cond x4 (some true) (Option.bind (slices_ContainsFunc_string_string p0.Except (fun y6 => rule_violates_1 y6 p2)) (fun x7 => some x7))))
set_option maxHeartbeats 4000000 in
theorem rule_violates_ok {p0 : TRule} {p1 : ByteArray} {p2 : ByteArray} {r : Bool}  (h : rule_violates p0 p1 p2 = some r) : PF 210 [.agg [pI p0.Kind, pI p0.Digits, pL eS p0.Except, pI p0.Tolerance, pI p0.Limit, pS p0.Name, pL TRule.enc p0.Args], pS p1, pS p2] (pB r) := by
 unfold rule_violates at h
 refine pf_of ?_
 refine penter Tryz.func210 fk210 rfl Tryz.ntmps210 Tryz.results210 rfl ?_
 refine yaa (yaf ?_)
 refine yay rfl rfl rfl (pl_box (cs := [pI p0.Kind, pI p0.Digits, pL eS p0.Except, pI p0.Tolerance, pI p0.Limit, pS p0.Name, pL TRule.enc p0.Args]) rfl rfl (fun b1 => ?_))
 refine yay rfl rfl rfl (pl_box (cs := [pS p2]) rfl rfl (fun b2 => ?_))
 refine yas [] [6] [] fo0 (by kernel_rfl) ?_
 refine yab (yaa (yaa ?_))
 refine pwc_draw (ρd := []) [(0, 0), (1, 0), (2, 0), (3, 0), (4, 0), (5, 1)] _ (List.Perm.refl _) (by kernel_rfl) rfl ?_
 refine yac h ?_; clear h; intro s3 hs3 h
 refine yac h ?_; clear h; intro x4 hx4 h
 refine pwd_run 6 [0, 1] [7, 8, 9, 10, 11] [(12, pB x4)] (foss 4 hs3 (focl 5 (strings_HasPrefix_ok hx4) fo0)) (by kernel_rfl) ?_
 refine pwd_nil (yab ?_)
 refine yah rfl (fun hc5 => ?_) (fun hc5 => ?_)
 ·replace h := yap hc5 h
  refine yaa ?_
  refine yad [] [] [(6, pB true)] fo0 (by kernel_rfl) ?_
  refine yab (yak (yai ?_))
  obtain rfl := Option.some.inj h
  exact yal (ybc (yao rfl)) zsn ⟨rfl, rfl⟩
 ·replace h := yaq hc5 h
  refine yaj (yab (yaa (yaf ?_)))
  refine yam 2 [1] [13] [(14, pL eS p0.Except)] fo0 (by kernel_rfl) ?_
  refine pwl_frb 5 rfl (by exact zph) ?_
  refine yac h ?_; clear h; intro x7 hx7 h
  refine yas [] [15, 16] [(6, pB x7)] (focl 1 (slices_ContainsFunc_string_string_ok (fun hr => pfv_of (rule_violates_1_ok hr)) hx7) fo0) (by kernel_rfl) ?_
  refine yab (yak ?_)
  obtain rfl := Option.some.inj h
  exact yal (ybc (yao rfl)) zsn ⟨rfl, rfl⟩
end SX
end Go.Proofs.YtiijbkaiipjpkaaGreatDoor
set_option maxRecDepth 100000
namespace Go.Proofs.YtiijbkaiipjpkaaGreatDoor
namespace SX
open Go
attribute [local irreducible] PWL PWC PWD POpL POpQ PEv PGuardIs PSub PPick PUpd PSplice PFill PLit PF PFV PCall FOk pseqK pblockK pmidK pcutK ploopK pretK Cov PHolds loopF idx app mk gd lb nz ge0 cat sub ssub iand ior ixor ishl ishr imin imax IntKind.wrap Int.tmod Int.tdiv Op.bytesLess strOfNums
def math_bits_Len64 (p0 : Int) : Option Int := Option.bind (cond (decide (4294967296 ≤ p0)) (some ((ishr .u64 p0 32), 32)) (some (p0, 0))) (fun (v1, v2) => Option.bind (cond (decide (65536 ≤ v1)) (some ((ishr .u64 v1 16), (IntKind.i64.wrap (v2 + 16)))) (some (v1, v2))) (fun (v5, v6) => Option.bind (cond (decide (256 ≤ v5)) (some ((ishr .u64 v5 8), (IntKind.i64.wrap (v6 + 8)))) (some (v5, v6))) (fun (v9, v10) => Option.bind (idx (⟨#[0, 1, 2, 2, 3, 3, 3, 3, 4, 4, 4, 4, 4, 4, 4, 4, 5, 5, 5, 5, 5, 5, 5, 5, 5, 5, 5, 5, 5, 5, 5, 5, 6, 6, 6, 6, 6, 6, 6, 6, 6, 6, 6, 6, 6, 6, 6, 6, 6, 6, 6, 6, 6, 6, 6, 6, 6, 6, 6, 6, 6, 6, 6, 6, 7, 7, 7, 7, 7, 7, 7, 7, 7, 7, 7, 7, 7, 7, 7, 7, 7, 7, 7, 7, 7, 7, 7, 7, 7, 7, 7, 7, 7, 7, 7, 7, 7, 7, 7, 7, 7, 7, 7, 7, 7, 7, 7, 7, 7, 7, 7, 7, 7, 7, 7, 7, 7, 7, 7, 7, 7, 7, 7, 7, 7, 7, 7, 7, 8, 8, 8, 8, 8, 8, 8, 8, 8, 8, 8, 8, 8, 8, 8, 8, 8, 8, 8, 8, 8, 8, 8, 8, 8, 8, 8, 8, 8, 8, 8, 8, 8, 8, 8, 8, 8, 8, 8, 8, 8, 8, 8, 8, 8, 8, 8, 8, 8, 8, 8, 8, 8, 8, 8, 8, 8, 8, 8, 8, 8, 8, 8, 8, 8, 8, 8, 8, 8, 8, 8, 8, 8, 8, 8, 8, 8, 8, 8, 8, 8, 8, 8, 8, 8, 8, 8, 8, 8, 8, 8, 8, 8, 8, 8, 8, 8, 8, 8, 8, 8, 8, 8, 8, 8, 8, 8, 8, 8, 8, 8, 8, 8, 8, 8, 8, 8, 8, 8, 8, 8, 8, 8, 8, 8, 8, 8, 8]⟩ : ByteArray).data.toList (IntKind.u8.wrap v9)) (fun c13 => lb ((IntKind.i64.wrap (v10 + (IntKind.i64.wrap (c13.toNat : Int))))) (fun w14 => some w14)))))
set_option maxHeartbeats 4000000 in
theorem math_bits_Len64_ok {p0 : Int} {r : Int}  (h : math_bits_Len64 p0 = some r) : PF 131 [pU p0] (pI r) := by
 unfold math_bits_Len64 at h
 refine pf_of ?_
 refine penter Tryz.func131 fk131 rfl Tryz.ntmps131 Tryz.results131 rfl ?_
 refine yaa ?_
 refine yad [] [] [(2, pI 0)] fo0 (by kernel_rfl) ?_
 refine yab (yaa (yaa ?_))
 refine yad [] [3] [(4, pB (decide (4294967296 ≤ p0)))] fo0 (by kernel_rfl) ?_
 refine yab ?_
 refine yac h ?_; clear h; intro q3 hq3 h
 refine yaz (Y := (Unit) × (Int × Int)) (fun (_, (v1, v2)) => [(0, pU v1), (2, pI v2)]) (fun (_, (v1, v2)) => []) (fun (_, (v1, v2)) => q3 = (v1, v2)) ?_ ?_
 ·skip
  refine yah rfl (fun hc4 => ?_) (fun hc4 => ?_)
  ·replace hq3 := yap hc4 hq3
   refine yaa ?_
   refine yad [] [5, 6] [(0, pU (ishr .u64 p0 32))] fo0 (by kernel_rfl) ?_
   refine yab ?_
   refine yad [] [] [(2, pI 32)] fo0 (by kernel_rfl) ?_
   obtain rfl := Option.some.inj hq3
   exact pk_mid ((), ((ishr .u64 p0 32), 32)) (zhc rfl (zhc rfl zhn)) zsn rfl
  ·replace hq3 := yaq hc4 hq3
   refine yaj ?_
   obtain rfl := Option.some.inj hq3
   exact pk_mid ((), (p0, 0)) (zhc rfl (zhc rfl zhn)) zsn rfl
 ·rintro ⟨_, ⟨v1, v2⟩⟩ τ hz; (try dsimp only at hz); subst q3; (try dsimp only at h); dsimp only [pupds]
  refine yaa (yaa ?_)
  refine yad [] [7] [(8, pB (decide (65536 ≤ v1)))] fo0 (by kernel_rfl) ?_
  refine yab ?_
  refine yac h ?_; clear h; intro q7 hq7 h
  refine yaz (Y := (Unit) × (Int × Int)) (fun (_, (v5, v6)) => [(0, pU v5), (2, pI v6)]) (fun (_, (v5, v6)) => []) (fun (_, (v5, v6)) => q7 = (v5, v6)) ?_ ?_
  ·skip
   refine yah rfl (fun hc8 => ?_) (fun hc8 => ?_)
   ·replace hq7 := yap hc8 hq7
    refine yaa ?_
    refine yad [] [9, 10] [(0, pU (ishr .u64 v1 16))] fo0 (by kernel_rfl) ?_
    refine yab ?_
    refine yad [] [11, 12] [(2, pI (IntKind.i64.wrap (v2 + 16)))] fo0 (by kernel_rfl) ?_
    obtain rfl := Option.some.inj hq7
    exact pk_mid ((), ((ishr .u64 v1 16), (IntKind.i64.wrap (v2 + 16)))) (zhc rfl (zhc rfl zhn)) zsn rfl
   ·replace hq7 := yaq hc8 hq7
    refine yaj ?_
    obtain rfl := Option.some.inj hq7
    exact pk_mid ((), (v1, v2)) (zhc rfl (zhc rfl zhn)) zsn rfl
  ·rintro ⟨_, ⟨v5, v6⟩⟩ τ hz; (try dsimp only at hz); subst q7; (try dsimp only at h); dsimp only [pupds]
   refine yaa (yaa ?_)
   refine yad [] [13] [(14, pB (decide (256 ≤ v5)))] fo0 (by kernel_rfl) ?_
   refine yab ?_
   refine yac h ?_; clear h; intro q11 hq11 h
   refine yaz (Y := (Unit) × (Int × Int)) (fun (_, (v9, v10)) => [(0, pU v9), (2, pI v10)]) (fun (_, (v9, v10)) => []) (fun (_, (v9, v10)) => q11 = (v9, v10)) ?_ ?_
   ·skip
    refine yah rfl (fun hc12 => ?_) (fun hc12 => ?_)
    ·replace hq11 := yap hc12 hq11
     refine yaa ?_
     refine yad [] [15, 16] [(0, pU (ishr .u64 v5 8))] fo0 (by kernel_rfl) ?_
     refine yab ?_
     refine yad [] [17, 18] [(2, pI (IntKind.i64.wrap (v6 + 8)))] fo0 (by kernel_rfl) ?_
     obtain rfl := Option.some.inj hq11
     exact pk_mid ((), ((ishr .u64 v5 8), (IntKind.i64.wrap (v6 + 8)))) (zhc rfl (zhc rfl zhn)) zsn rfl
    ·replace hq11 := yaq hc12 hq11
     refine yaj ?_
     obtain rfl := Option.some.inj hq11
     exact pk_mid ((), (v5, v6)) (zhc rfl (zhc rfl zhn)) zsn rfl
   ·rintro ⟨_, ⟨v9, v10⟩⟩ τ hz; (try dsimp only at hz); subst q11; (try dsimp only at h); dsimp only [pupds]
    refine yaa ?_
    refine yac h ?_; clear h; intro c13 hc13 h
    refine lb_elim h ?_; clear h; intro w14 hw14 h
    refine yaf ?_
    refine yam 6 [] [19, 20, 21, 22, 23] [(24, pI (IntKind.i64.wrap (v10 + (IntKind.i64.wrap (c13.toNat : Int)))))] (fosx 3 (s := (⟨#[0, 1, 2, 2, 3, 3, 3, 3, 4, 4, 4, 4, 4, 4, 4, 4, 5, 5, 5, 5, 5, 5, 5, 5, 5, 5, 5, 5, 5, 5, 5, 5, 6, 6, 6, 6, 6, 6, 6, 6, 6, 6, 6, 6, 6, 6, 6, 6, 6, 6, 6, 6, 6, 6, 6, 6, 6, 6, 6, 6, 6, 6, 6, 6, 7, 7, 7, 7, 7, 7, 7, 7, 7, 7, 7, 7, 7, 7, 7, 7, 7, 7, 7, 7, 7, 7, 7, 7, 7, 7, 7, 7, 7, 7, 7, 7, 7, 7, 7, 7, 7, 7, 7, 7, 7, 7, 7, 7, 7, 7, 7, 7, 7, 7, 7, 7, 7, 7, 7, 7, 7, 7, 7, 7, 7, 7, 7, 7, 8, 8, 8, 8, 8, 8, 8, 8, 8, 8, 8, 8, 8, 8, 8, 8, 8, 8, 8, 8, 8, 8, 8, 8, 8, 8, 8, 8, 8, 8, 8, 8, 8, 8, 8, 8, 8, 8, 8, 8, 8, 8, 8, 8, 8, 8, 8, 8, 8, 8, 8, 8, 8, 8, 8, 8, 8, 8, 8, 8, 8, 8, 8, 8, 8, 8, 8, 8, 8, 8, 8, 8, 8, 8, 8, 8, 8, 8, 8, 8, 8, 8, 8, 8, 8, 8, 8, 8, 8, 8, 8, 8, 8, 8, 8, 8, 8, 8, 8, 8, 8, 8, 8, 8, 8, 8, 8, 8, 8, 8, 8, 8, 8, 8, 8, 8, 8, 8, 8, 8, 8, 8, 8, 8, 8, 8, 8, 8]⟩ : ByteArray)) hc13 fo0) (by kernel_rfl) ?_
    refine pwl_q rfl rfl rfl (pq_assign rfl (.p (congrArg (fun z => PV.v (Value.int .i64 z)) hw14))) ?_
    refine yba (yab (yak ?_))
    obtain rfl := Option.some.inj h
    exact yal (ybc (yao rfl)) zsn ⟨rfl, rfl⟩
def math_bits_LeadingZeros64 (p0 : Int) : Option Int := Option.bind (math_bits_Len64 p0) (fun x1 => some (IntKind.i64.wrap (64 - x1)))
set_option maxHeartbeats 4000000 in
theorem math_bits_LeadingZeros64_ok {p0 : Int} {r : Int}  (h : math_bits_LeadingZeros64 p0 = some r) : PF 175 [pU p0] (pI r) := by
 unfold math_bits_LeadingZeros64 at h
 refine pf_of ?_
 refine penter Tryz.func175 fk175 rfl Tryz.ntmps175 Tryz.results175 rfl ?_
 refine yaa ?_
 refine yad [] [2] [] fo0 (by kernel_rfl) ?_
 refine yab (yaa ?_)
 refine yac h ?_; clear h; intro x1 hx1 h
 refine yad [] [3, 4, 5] [(2, pI (IntKind.i64.wrap (64 - x1)))] (focl 1 (math_bits_Len64_ok hx1) fo0) (by kernel_rfl) ?_
 refine yab (yak ?_)
 obtain rfl := Option.some.inj h
 exact yal (ybc (yao rfl)) zsn ⟨rfl, rfl⟩
def math_bits_Div64 (p0 : Int) (p1 : Int) (p2 : Int) : Option (Int × Int) := cond (p2 == 0) (none) (cond (decide (p2 ≤ p0)) (none) (cond (p0 == 0) (Option.bind (nz p2) (fun u4 => Option.bind (nz p2) (fun u5 => some ((IntKind.u64.wrap (Int.tdiv p1 p2)), (Int.tmod p1 p2))))) (Option.bind (math_bits_LeadingZeros64 p2) (fun x6 => Option.bind (ge0 (IntKind.u64.wrap x6)) (fun u7 => lb ((ishr .u64 (ishl .u64 p2 (IntKind.u64.wrap x6)) 32)) (fun w8 => lb ((iand .u64 (ishl .u64 p2 (IntKind.u64.wrap x6)) 4294967295)) (fun w9 => Option.bind (ge0 (IntKind.u64.wrap x6)) (fun u10 => Option.bind (ge0 (IntKind.u64.wrap (64 - (IntKind.u64.wrap x6)))) (fun u11 => lb ((ior .u64 (ishl .u64 p0 (IntKind.u64.wrap x6)) (ishr .u64 p1 (IntKind.u64.wrap (64 - (IntKind.u64.wrap x6)))))) (fun w12 => Option.bind (ge0 (IntKind.u64.wrap x6)) (fun u13 => lb ((ishr .u64 (ishl .u64 p1 (IntKind.u64.wrap x6)) 32)) (fun w14 => lb ((iand .u64 (ishl .u64 p1 (IntKind.u64.wrap x6)) 4294967295)) (fun w15 => Option.bind (nz w8) (fun u16 => lb ((IntKind.u64.wrap (w12 - (IntKind.u64.wrap ((IntKind.u64.wrap (Int.tdiv w12 w8)) * w8))))) (fun w17 => Option.bind (loopF (S := Int × Int) (T := (Int)) (fun (v18, v19) => cond ((decide (4294967296 ≤ v18)) || (decide ((IntKind.u64.wrap ((IntKind.u64.wrap (4294967296 * v19)) + w14)) < (IntKind.u64.wrap (v18 * w9))))) (cond (decide (4294967296 ≤ (IntKind.u64.wrap (v19 + w8)))) (some (.inr (IntKind.u64.wrap (v18 - 1)))) (some (.inl ((IntKind.u64.wrap (v18 - 1)), (IntKind.u64.wrap (v19 + w8)))))) (some (.inr v18))) FUEL ((IntKind.u64.wrap (Int.tdiv w12 w8)), w17)) (fun v20 => lb ((IntKind.u64.wrap ((IntKind.u64.wrap ((IntKind.u64.wrap (w12 * 4294967296)) + w14)) - (IntKind.u64.wrap (v20 * (ishl .u64 p2 (IntKind.u64.wrap x6))))))) (fun w25 => Option.bind (nz w8) (fun u26 => lb ((IntKind.u64.wrap (w25 - (IntKind.u64.wrap ((IntKind.u64.wrap (Int.tdiv w25 w8)) * w8))))) (fun w27 => Option.bind (loopF (S := Int × Int) (T := (Int)) (fun (v28, v29) => cond ((decide (4294967296 ≤ v29)) || (decide ((IntKind.u64.wrap ((IntKind.u64.wrap (4294967296 * v28)) + w15)) < (IntKind.u64.wrap (v29 * w9))))) (cond (decide (4294967296 ≤ (IntKind.u64.wrap (v28 + w8)))) (some (.inr (IntKind.u64.wrap (v29 - 1)))) (some (.inl ((IntKind.u64.wrap (v28 + w8)), (IntKind.u64.wrap (v29 - 1)))))) (some (.inr v29))) FUEL (w27, (IntKind.u64.wrap (Int.tdiv w25 w8)))) (fun v30 => Option.bind (ge0 (IntKind.u64.wrap x6)) (fun u35 => lb ((IntKind.u64.wrap ((IntKind.u64.wrap (v20 * 4294967296)) + v30))) (fun w36 => lb ((ishr .u64 (IntKind.u64.wrap ((IntKind.u64.wrap ((IntKind.u64.wrap (w25 * 4294967296)) + w15)) - (IntKind.u64.wrap (v30 * (ishl .u64 p2 (IntKind.u64.wrap x6)))))) (IntKind.u64.wrap x6))) (fun w37 => some (w36, w37))))))))))))))))))))))))
set_option maxHeartbeats 4000000 in
theorem math_bits_Div64_ok {p0 : Int} {p1 : Int} {p2 : Int} {r : (Int × Int)}  (h : math_bits_Div64 p0 p1 p2 = some r) : PF 164 [pU p0, pU p1, pU p2] (.tup [pU r.1, pU r.2]) := by
 unfold math_bits_Div64 at h
 refine pf_of ?_
 refine penter Tryz.func164 fk164 rfl Tryz.ntmps164 Tryz.results164 rfl ?_
 refine yaa ?_
 refine yad [] [6, 7] [] fo0 (by kernel_rfl) ?_
 refine yab (yaa (yaa ?_))
 refine yad [] [19] [(20, pB (p2 == 0))] fo0 (by kernel_rfl) ?_
 refine yab ?_
 refine yah rfl (fun hc1 => ?_) (fun hc1 => ?_)
 ·replace h := yap hc1 h
  refine yaf ?_
  exact absurd h (by simp)
 ·replace h := yaq hc1 h
  refine yaj (yab (yaa (yaa ?_)))
  refine yad [] [22, 23] [(24, pB (decide (p2 ≤ p0)))] fo0 (by kernel_rfl) ?_
  refine yab ?_
  refine yah rfl (fun hc2 => ?_) (fun hc2 => ?_)
  ·replace h := yap hc2 h
   refine yaf ?_
   exact absurd h (by simp)
  ·replace h := yaq hc2 h
   refine yaj (yab (yaa (yaa ?_)))
   refine yad [] [26] [(27, pB (p0 == 0))] fo0 (by kernel_rfl) ?_
   refine yab ?_
   refine yah rfl (fun hc3 => ?_) (fun hc3 => ?_)
   ·replace h := yap hc3 h
    refine yaa ?_
    refine pwc_draw (ρd := []) [(0, 0), (1, 0), (2, 0), (3, 0), (4, 0), (5, 0), (6, 0), (7, 0)] _ (List.Perm.refl _) (by kernel_rfl) rfl ?_
    refine yac h ?_; clear h; intro u4 hu4 h
    refine yac h ?_; clear h; intro u5 hu5 h
    refine pwd_run 8 [] [28, 29, 30, 31, 32, 33] [(6, pU (IntKind.u64.wrap (Int.tdiv p1 p2))), (7, pU (Int.tmod p1 p2))] (fonz 2 hu4 (fonz 5 hu5 fo0)) (by kernel_rfl) ?_
    refine pwd_nil (yab (yak (yai ?_)))
    obtain rfl := Option.some.inj h
    exact yal (prv_2 (yao rfl) (yao rfl)) zsn ⟨rfl, rfl⟩
   ·replace h := yaq hc3 h
    refine yaj (yab (yaa ?_))
    refine yac h ?_; clear h; intro x6 hx6 h
    refine yad [] [34, 35, 36] [(8, pU (IntKind.u64.wrap x6))] (focl 1 (math_bits_LeadingZeros64_ok hx6) fo0) (by kernel_rfl) ?_
    refine yab (yaa ?_)
    refine yac h ?_; clear h; intro u7 hu7 h
    refine yad [] [37, 38, 39] [(2, pU (ishl .u64 p2 (IntKind.u64.wrap x6)))] (foge 2 hu7 fo0) (by kernel_rfl) ?_
    refine yab (yaa ?_)
    refine lb_elim h ?_; clear h; intro w8 hw8 h
    refine yaf ?_
    refine yam 2 [] [40] [(41, pU (ishr .u64 (ishl .u64 p2 (IntKind.u64.wrap x6)) 32))] fo0 (by kernel_rfl) ?_
    refine pwl_q rfl rfl rfl (pq_assign rfl (.p (congrArg (fun z => PV.v (Value.int .u64 z)) hw8))) ?_
    refine yba (yab (yaa ?_))
    refine lb_elim h ?_; clear h; intro w9 hw9 h
    refine yaf ?_
    refine yam 2 [] [42] [(43, pU (iand .u64 (ishl .u64 p2 (IntKind.u64.wrap x6)) 4294967295))] fo0 (by kernel_rfl) ?_
    refine pwl_q rfl rfl rfl (pq_assign rfl (.p (congrArg (fun z => PV.v (Value.int .u64 z)) hw9))) ?_
    refine yba (yab (yaa ?_))
    refine yac h ?_; clear h; intro u10 hu10 h
    refine yac h ?_; clear h; intro u11 hu11 h
    refine lb_elim h ?_; clear h; intro w12 hw12 h
    refine yaf ?_
    refine yam 8 [] [44, 45, 46, 47, 48, 49, 50] [(51, pU (ior .u64 (ishl .u64 p0 (IntKind.u64.wrap x6)) (ishr .u64 p1 (IntKind.u64.wrap (64 - (IntKind.u64.wrap x6))))))] (foge 2 hu10 (foge 6 hu11 fo0)) (by kernel_rfl) ?_
    refine pwl_q rfl rfl rfl (pq_assign rfl (.p (congrArg (fun z => PV.v (Value.int .u64 z)) hw12))) ?_
    refine yba (yab (yaa ?_))
    refine yac h ?_; clear h; intro u13 hu13 h
    refine yad [] [52, 53, 54] [(12, pU (ishl .u64 p1 (IntKind.u64.wrap x6)))] (foge 2 hu13 fo0) (by kernel_rfl) ?_
    refine yab (yaa ?_)
    refine lb_elim h ?_; clear h; intro w14 hw14 h
    refine yaf ?_
    refine yam 2 [] [55] [(56, pU (ishr .u64 (ishl .u64 p1 (IntKind.u64.wrap x6)) 32))] fo0 (by kernel_rfl) ?_
    refine pwl_q rfl rfl rfl (pq_assign rfl (.p (congrArg (fun z => PV.v (Value.int .u64 z)) hw14))) ?_
    refine yba (yab (yaa ?_))
    refine lb_elim h ?_; clear h; intro w15 hw15 h
    refine yaf ?_
    refine yam 2 [] [57] [(58, pU (iand .u64 (ishl .u64 p1 (IntKind.u64.wrap x6)) 4294967295))] fo0 (by kernel_rfl) ?_
    refine pwl_q rfl rfl rfl (pq_assign rfl (.p (congrArg (fun z => PV.v (Value.int .u64 z)) hw15))) ?_
    refine yba (yab (yaa ?_))
    refine yac h ?_; clear h; intro u16 hu16 h
    refine yad [] [59, 60, 61] [(15, pU (IntKind.u64.wrap (Int.tdiv w12 w8)))] (fonz 2 hu16 fo0) (by kernel_rfl) ?_
    refine yab (yaa ?_)
    refine lb_elim h ?_; clear h; intro w17 hw17 h
    refine yaf ?_
    refine yam 5 [] [62, 63, 64, 65] [(66, pU (IntKind.u64.wrap (w12 - (IntKind.u64.wrap ((IntKind.u64.wrap (Int.tdiv w12 w8)) * w8)))))] fo0 (by kernel_rfl) ?_
    refine pwl_q rfl rfl rfl (pq_assign rfl (.p (congrArg (fun z => PV.v (Value.int .u64 z)) hw17))) ?_
    refine yba (yab (yaa ?_))
    refine yac h ?_; clear h; intro q22 hq22 h
    refine yaz (Y := (Unit) × (Int)) (fun (_, v20) => [(2, pU (ishl .u64 p2 (IntKind.u64.wrap x6))), (8, pU (IntKind.u64.wrap x6)), (9, pU w8), (10, pU w9), (11, pU w12), (13, pU w14), (14, pU w15), (15, pU v20)]) (fun (_, v20) => []) (fun (_, v20) => q22 = v20) ?_ ?_
    ·refine yan ?_
     refine ybd (Y := Unit) (S := Int × Int) _ hq22 (fun _ (v18, v19) => [(2, pU (ishl .u64 p2 (IntKind.u64.wrap x6))), (8, pU (IntKind.u64.wrap x6)), (9, pU w8), (10, pU w9), (11, pU w12), (13, pU w14), (14, pU w15), (15, pU v18), (16, pU v19)]) (fun _ (v18, v19) => []) () (zhc rfl (zhc rfl (zhc rfl (zhc rfl (zhc rfl (zhc rfl (zhc rfl (zhc rfl (zhc rfl zhn))))))))) zsn ?_
     rintro _ ⟨v18, v19⟩ o τ hb21; (try dsimp only at hb21); dsimp only [pupds]
     refine yaa (yaa ?_)
     refine yad [] [67, 68, 69, 70, 71, 72, 73, 74, 75, 76, 77] [(78, pB ((decide (4294967296 ≤ v18)) || (decide ((IntKind.u64.wrap ((IntKind.u64.wrap (4294967296 * v19)) + w14)) < (IntKind.u64.wrap (v18 * w9))))))] fo0 (by kernel_rfl) ?_
     refine yab ?_
     refine yah rfl (fun hc23 => ?_) (fun hc23 => ?_)
     ·replace hb21 := yap hc23 hb21
      refine yaj (yab (yan (yaa ?_)))
      refine yad [] [79, 80] [(15, pU (IntKind.u64.wrap (v18 - 1)))] fo0 (by kernel_rfl) ?_
      refine yab (yaa ?_)
      refine yad [] [81, 82, 83] [(16, pU (IntKind.u64.wrap (v19 + w8)))] fo0 (by kernel_rfl) ?_
      refine yab (yaa ?_)
      refine yad [] [84] [(85, pB (decide (4294967296 ≤ (IntKind.u64.wrap (v19 + w8)))))] fo0 (by kernel_rfl) ?_
      refine yab ?_
      refine yah rfl (fun hc24 => ?_) (fun hc24 => ?_)
      ·replace hb21 := yap hc24 hb21
       refine pwc_exit ?_
       refine pk_block_ne rfl ?_
       refine yar hb21 (fun ht => ?_)
       refine yau rfl ?_
       exact pk_mid ((), (IntKind.u64.wrap (v18 - 1))) (zhc rfl (zhc rfl (zhc rfl (zhc rfl (zhc rfl (zhc rfl (zhc rfl (zhc rfl zhn)))))))) zsn ht.symm
      ·replace hb21 := yaq hc24 hb21
       refine yaj (yae ?_)
       exact pk_loop hb21 () (zhc rfl (zhc rfl (zhc rfl (zhc rfl (zhc rfl (zhc rfl (zhc rfl (zhc rfl (zhc rfl zhn))))))))) zsn
     ·replace hb21 := yaq hc23 hb21
      refine pwc_exit (yav ?_)
      refine yar hb21 (fun ht => ?_)
      refine yau rfl ?_
      exact pk_mid ((), v18) (zhc rfl (zhc rfl (zhc rfl (zhc rfl (zhc rfl (zhc rfl (zhc rfl (zhc rfl zhn)))))))) zsn ht.symm
    ·rintro ⟨_, v20⟩ τ hz; (try dsimp only at hz); subst q22; (try dsimp only at h); dsimp only [pupds]
     refine yaa ?_
     refine lb_elim h ?_; clear h; intro w25 hw25 h
     refine yaf ?_
     refine yam 8 [] [86, 87, 88, 89, 90, 91, 92] [(93, pU (IntKind.u64.wrap ((IntKind.u64.wrap ((IntKind.u64.wrap (w12 * 4294967296)) + w14)) - (IntKind.u64.wrap (v20 * (ishl .u64 p2 (IntKind.u64.wrap x6)))))))] fo0 (by kernel_rfl) ?_
     refine pwl_q rfl rfl rfl (pq_assign rfl (.p (congrArg (fun z => PV.v (Value.int .u64 z)) hw25))) ?_
     refine yba (yab (yaa ?_))
     refine yac h ?_; clear h; intro u26 hu26 h
     refine yad [] [94, 95, 96] [(18, pU (IntKind.u64.wrap (Int.tdiv w25 w8)))] (fonz 2 hu26 fo0) (by kernel_rfl) ?_
     refine yab (yaa ?_)
     refine lb_elim h ?_; clear h; intro w27 hw27 h
     refine yaf ?_
     refine yam 5 [] [97, 98, 99, 100] [(101, pU (IntKind.u64.wrap (w25 - (IntKind.u64.wrap ((IntKind.u64.wrap (Int.tdiv w25 w8)) * w8)))))] fo0 (by kernel_rfl) ?_
     refine pwl_q rfl rfl rfl (pq_assign rfl (.p (congrArg (fun z => PV.v (Value.int .u64 z)) hw27))) ?_
     refine yba (yab (yaa ?_))
     refine yac h ?_; clear h; intro q32 hq32 h
     refine yaz (Y := (Unit) × (Int)) (fun (_, v30) => [(2, pU (ishl .u64 p2 (IntKind.u64.wrap x6))), (8, pU (IntKind.u64.wrap x6)), (14, pU w15), (15, pU v20), (17, pU w25), (18, pU v30)]) (fun (_, v30) => []) (fun (_, v30) => q32 = v30) ?_ ?_
     ·refine yan ?_
      refine ybd (Y := Unit) (S := Int × Int) _ hq32 (fun _ (v28, v29) => [(2, pU (ishl .u64 p2 (IntKind.u64.wrap x6))), (8, pU (IntKind.u64.wrap x6)), (9, pU w8), (10, pU w9), (14, pU w15), (15, pU v20), (16, pU v28), (17, pU w25), (18, pU v29)]) (fun _ (v28, v29) => []) () (zhc rfl (zhc rfl (zhc rfl (zhc rfl (zhc rfl (zhc rfl (zhc rfl (zhc rfl (zhc rfl zhn))))))))) zsn ?_
      rintro _ ⟨v28, v29⟩ o τ hb31; (try dsimp only at hb31); dsimp only [pupds]
      refine yaa (yaa ?_)
      refine yad [] [102, 103, 104, 105, 106, 107, 108, 109, 110, 111, 112] [(113, pB ((decide (4294967296 ≤ v29)) || (decide ((IntKind.u64.wrap ((IntKind.u64.wrap (4294967296 * v28)) + w15)) < (IntKind.u64.wrap (v29 * w9))))))] fo0 (by kernel_rfl) ?_
      refine yab ?_
      refine yah rfl (fun hc33 => ?_) (fun hc33 => ?_)
      ·replace hb31 := yap hc33 hb31
       refine yaj (yab (yan (yaa ?_)))
       refine yad [] [114, 115] [(18, pU (IntKind.u64.wrap (v29 - 1)))] fo0 (by kernel_rfl) ?_
       refine yab (yaa ?_)
       refine yad [] [116, 117, 118] [(16, pU (IntKind.u64.wrap (v28 + w8)))] fo0 (by kernel_rfl) ?_
       refine yab (yaa ?_)
       refine yad [] [119] [(120, pB (decide (4294967296 ≤ (IntKind.u64.wrap (v28 + w8)))))] fo0 (by kernel_rfl) ?_
       refine yab ?_
       refine yah rfl (fun hc34 => ?_) (fun hc34 => ?_)
       ·replace hb31 := yap hc34 hb31
        refine pwc_exit ?_
        refine pk_block_ne rfl ?_
        refine yar hb31 (fun ht => ?_)
        refine yau rfl ?_
        exact pk_mid ((), (IntKind.u64.wrap (v29 - 1))) (zhc rfl (zhc rfl (zhc rfl (zhc rfl (zhc rfl (zhc rfl zhn)))))) zsn ht.symm
       ·replace hb31 := yaq hc34 hb31
        refine yaj (yae ?_)
        exact pk_loop hb31 () (zhc rfl (zhc rfl (zhc rfl (zhc rfl (zhc rfl (zhc rfl (zhc rfl (zhc rfl (zhc rfl zhn))))))))) zsn
      ·replace hb31 := yaq hc33 hb31
       refine pwc_exit (yav ?_)
       refine yar hb31 (fun ht => ?_)
       refine yau rfl ?_
       exact pk_mid ((), v29) (zhc rfl (zhc rfl (zhc rfl (zhc rfl (zhc rfl (zhc rfl zhn)))))) zsn ht.symm
     ·rintro ⟨_, v30⟩ τ hz; (try dsimp only at hz); subst q32; (try dsimp only at h); dsimp only [pupds]
      refine yaa ?_
      refine yac h ?_; clear h; intro u35 hu35 h
      refine lb_elim h ?_; clear h; intro w36 hw36 h
      refine yaf ?_
      refine yam 14 [] [121, 122, 123, 125, 126, 127, 128, 129, 130, 131, 132, 133] [(124, pU (IntKind.u64.wrap ((IntKind.u64.wrap (v20 * 4294967296)) + v30))), (134, pU (ishr .u64 (IntKind.u64.wrap ((IntKind.u64.wrap ((IntKind.u64.wrap (w25 * 4294967296)) + w15)) - (IntKind.u64.wrap (v30 * (ishl .u64 p2 (IntKind.u64.wrap x6)))))) (IntKind.u64.wrap x6)))] (foge 13 hu35 fo0) (by kernel_rfl) ?_
      refine pwl_q rfl rfl rfl (pq_assign rfl (.p (congrArg (fun z => PV.v (Value.int .u64 z)) hw36))) ?_
      refine lb_elim h ?_; clear h; intro w37 hw37 h
      refine pwl_q rfl rfl rfl (pq_assign rfl (.p (congrArg (fun z => PV.v (Value.int .u64 z)) hw37))) ?_
      refine yba (yab (yak ?_))
      obtain rfl := Option.some.inj h
      exact yal (prv_2 (yao rfl) (yao rfl)) zsn ⟨rfl, rfl⟩
def exact_raised (p0 : Int) (p1 : Int) (p2 : Int) (p3 : Int) : Option Bool := cond (p3 == 1) (some (decide (0 < p1))) (cond (p3 == 2) (some (decide ((IntKind.u64.wrap (p2 - p1)) ≤ p1))) (cond (p3 == 3) (some ((decide ((IntKind.u64.wrap (p2 - p1)) < p1)) || ((p1 == (IntKind.u64.wrap (p2 - p1))) && ((Int.tmod p0 2) == 1)))) (some false)))
set_option maxHeartbeats 4000000 in
theorem exact_raised_ok {p0 : Int} {p1 : Int} {p2 : Int} {p3 : Int} {r : Bool}  (h : exact_raised p0 p1 p2 p3 = some r) : PF 165 [pU p0, pU p1, pU p2, pI p3] (pB r) := by
 unfold exact_raised at h
 refine pf_of ?_
 refine penter Tryz.func165 fk165 rfl Tryz.ntmps165 Tryz.results165 rfl ?_
 refine yaa ?_
 refine yad [] [8] [] fo0 (by kernel_rfl) ?_
 refine yab (yaa ?_)
 refine yad [] [10, 11, 12] [(9, pU (IntKind.u64.wrap (p2 - p1)))] fo0 (by kernel_rfl) ?_
 refine yab (yaa (yaa ?_))
 refine yad [] [] [(13, pI p3)] fo0 (by kernel_rfl) ?_
 refine yab (yan (yaa ?_))
 refine yad [] [15] [(14, pB (p3 == 1))] fo0 (by kernel_rfl) ?_
 refine yab ?_
 refine yah rfl (fun hc1 => ?_) (fun hc1 => ?_)
 ·replace h := yap hc1 h
  refine yaa ?_
  refine yad [] [16, 17] [(8, pB (decide (0 < p1)))] fo0 (by kernel_rfl) ?_
  refine yab (yak (yag (yai ?_)))
  obtain rfl := Option.some.inj h
  exact yal (ybc (yao rfl)) zsn ⟨rfl, rfl⟩
 ·replace h := yaq hc1 h
  refine yaa ?_
  refine yad [] [19] [(18, pB (p3 == 2))] fo0 (by kernel_rfl) ?_
  refine yab ?_
  refine yah rfl (fun hc2 => ?_) (fun hc2 => ?_)
  ·replace h := yap hc2 h
   refine yaa ?_
   refine yad [] [20, 21, 22] [(8, pB (decide ((IntKind.u64.wrap (p2 - p1)) ≤ p1)))] fo0 (by kernel_rfl) ?_
   refine yab (yak (yag (yai ?_)))
   obtain rfl := Option.some.inj h
   exact yal (ybc (yao rfl)) zsn ⟨rfl, rfl⟩
  ·replace h := yaq hc2 h
   refine yaa ?_
   refine yad [] [24] [(23, pB (p3 == 3))] fo0 (by kernel_rfl) ?_
   refine yab ?_
   refine yah rfl (fun hc3 => ?_) (fun hc3 => ?_)
   ·replace h := yap hc3 h
    refine yaa ?_
    refine yad [] [25, 26, 27, 28, 29, 30, 31, 32, 33, 34, 35, 36, 37] [(8, pB ((decide ((IntKind.u64.wrap (p2 - p1)) < p1)) || ((p1 == (IntKind.u64.wrap (p2 - p1))) && ((Int.tmod p0 2) == 1))))] fo0 (by kernel_rfl) ?_
    refine yab (yak (yag (yai ?_)))
    obtain rfl := Option.some.inj h
    exact yal (ybc (yao rfl)) zsn ⟨rfl, rfl⟩
   ·replace h := yaq hc3 h
    refine yaj (yae (yab (yaa ?_)))
    refine yad [] [] [(8, pB false)] fo0 (by kernel_rfl) ?_
    refine yab (yak ?_)
    obtain rfl := Option.some.inj h
    exact yal (ybc (yao rfl)) zsn ⟨rfl, rfl⟩
def exact_Div (p0 : Texact_Wide) (p1 : Int) (p2 : Int) : Option (Int × Int) := cond (((p1 == 0) || (decide (p2 < 0))) || (decide (3 < p2))) (some (0, 2)) (cond (decide (p1 ≤ p0.Hi)) (some (0, 3)) (Option.bind (math_bits_Div64 p0.Hi p0.Lo p1) (fun x4 => Option.bind (exact_raised x4.1 x4.2 p1 p2) (fun x5 => cond (!x5) (some (x4.1, 0)) (cond (x4.1 == 18446744073709551615) (some (0, 3)) (some ((IntKind.u64.wrap (x4.1 + 1)), 0)))))))
set_option maxHeartbeats 4000000 in
theorem exact_Div_ok {p0 : Texact_Wide} {p1 : Int} {p2 : Int} {r : (Int × Int)}  (h : exact_Div p0 p1 p2 = some r) : PF 144 [.agg [pU p0.Hi, pU p0.Lo], pU p1, pI p2] (.tup [pU r.1, pI r.2]) := by
 unfold exact_Div at h
 refine pf_of ?_
 refine penter Tryz.func144 fk144 rfl Tryz.ntmps144 Tryz.results144 rfl ?_
 refine yaa (yaf ?_)
 refine yay rfl rfl rfl (pl_box (cs := [pU p0.Hi, pU p0.Lo]) rfl rfl (fun b1 => ?_))
 refine yas [] [6, 7] [] fo0 (by kernel_rfl) ?_
 refine yab (yaa (yaa ?_))
 refine yad [] [10, 11, 12, 13, 14, 15, 16, 17, 18] [(19, pB (((p1 == 0) || (decide (p2 < 0))) || (decide (3 < p2))))] fo0 (by kernel_rfl) ?_
 refine yab ?_
 refine yah rfl (fun hc2 => ?_) (fun hc2 => ?_)
 ·replace h := yap hc2 h
  refine yaa ?_
  refine yad [] [] [(6, pU 0), (7, pI 2)] fo0 (by kernel_rfl) ?_
  refine yab (yak (yai ?_))
  obtain rfl := Option.some.inj h
  exact yal (prv_2 (yao rfl) (yao rfl)) zsn ⟨rfl, rfl⟩
 ·replace h := yaq hc2 h
  refine yaj (yab (yaa (yaa ?_)))
  refine yad [0] [20, 21, 22] [(23, pB (decide (p1 ≤ p0.Hi)))] fo0 (by kernel_rfl) ?_
  refine yab ?_
  refine yah rfl (fun hc3 => ?_) (fun hc3 => ?_)
  ·replace h := yap hc3 h
   refine yaa ?_
   refine yad [] [] [(6, pU 0), (7, pI 3)] fo0 (by kernel_rfl) ?_
   refine yab (yak (yai ?_))
   obtain rfl := Option.some.inj h
   exact yal (prv_2 (yao rfl) (yao rfl)) zsn ⟨rfl, rfl⟩
  ·replace h := yaq hc3 h
   refine yaj (yab (yaa ?_))
   refine yac h ?_; clear h; intro x4 hx4 h
   refine yad [0, 0] [25, 26, 27, 28, 29, 30, 24, 31, 32] [(8, pU x4.1), (9, pU x4.2)] (focl 5 (math_bits_Div64_ok hx4) fo0) (by kernel_rfl) ?_
   refine yab (yaa (yaa ?_))
   refine yac h ?_; clear h; intro x5 hx5 h
   refine yad [] [33, 34, 35, 36, 37] [(38, pB (!x5))] (focl 4 (exact_raised_ok hx5) fo0) (by kernel_rfl) ?_
   refine yab ?_
   refine yah rfl (fun hc6 => ?_) (fun hc6 => ?_)
   ·replace h := yap hc6 h
    refine yaa ?_
    refine yad [] [39] [(6, pU x4.1), (7, pI 0)] fo0 (by kernel_rfl) ?_
    refine yab (yak (yai ?_))
    obtain rfl := Option.some.inj h
    exact yal (prv_2 (yao rfl) (yao rfl)) zsn ⟨rfl, rfl⟩
   ·replace h := yaq hc6 h
    refine yaj (yab (yaa (yaa ?_)))
    refine yad [] [40] [(41, pB (x4.1 == 18446744073709551615))] fo0 (by kernel_rfl) ?_
    refine yab ?_
    refine yah rfl (fun hc7 => ?_) (fun hc7 => ?_)
    ·replace h := yap hc7 h
     refine yaa ?_
     refine yad [] [] [(6, pU 0), (7, pI 3)] fo0 (by kernel_rfl) ?_
     refine yab (yak (yai ?_))
     obtain rfl := Option.some.inj h
     exact yal (prv_2 (yao rfl) (yao rfl)) zsn ⟨rfl, rfl⟩
    ·replace h := yaq hc7 h
     refine yaj (yab (yaa ?_))
     refine yad [] [42, 43] [(6, pU (IntKind.u64.wrap (x4.1 + 1))), (7, pI 0)] fo0 (by kernel_rfl) ?_
     refine yab (yak ?_)
     obtain rfl := Option.some.inj h
     exact yal (prv_2 (yao rfl) (yao rfl)) zsn ⟨rfl, rfl⟩
def math_bits_Mul64 (p0 : Int) (p1 : Int) : Option (Int × Int) := lb ((IntKind.u64.wrap ((iand .u64 p0 4294967295) * (iand .u64 p1 4294967295)))) (fun w1 => lb ((IntKind.u64.wrap ((IntKind.u64.wrap ((ishr .u64 p0 32) * (iand .u64 p1 4294967295))) + (ishr .u64 w1 32)))) (fun w2 => lb ((IntKind.u64.wrap ((iand .u64 w2 4294967295) + (IntKind.u64.wrap ((iand .u64 p0 4294967295) * (ishr .u64 p1 32)))))) (fun w3 => lb ((IntKind.u64.wrap ((IntKind.u64.wrap ((IntKind.u64.wrap ((ishr .u64 p0 32) * (ishr .u64 p1 32))) + (ishr .u64 w2 32))) + (ishr .u64 w3 32)))) (fun w4 => some (w4, (IntKind.u64.wrap (p0 * p1)))))))
set_option maxHeartbeats 4000000 in
theorem math_bits_Mul64_ok {p0 : Int} {p1 : Int} {r : (Int × Int)}  (h : math_bits_Mul64 p0 p1 = some r) : PF 166 [pU p0, pU p1] (.tup [pU r.1, pU r.2]) := by
 unfold math_bits_Mul64 at h
 refine pf_of ?_
 refine penter Tryz.func166 fk166 rfl Tryz.ntmps166 Tryz.results166 rfl ?_
 refine yaa ?_
 refine yad [] [4, 5] [] fo0 (by kernel_rfl) ?_
 refine yab (yaa ?_)
 refine yad [] [14, 15] [(6, pU (iand .u64 p0 4294967295))] fo0 (by kernel_rfl) ?_
 refine yab (yaa ?_)
 refine yad [] [16, 17] [(7, pU (ishr .u64 p0 32))] fo0 (by kernel_rfl) ?_
 refine yab (yaa ?_)
 refine yad [] [18, 19] [(8, pU (iand .u64 p1 4294967295))] fo0 (by kernel_rfl) ?_
 refine yab (yaa ?_)
 refine yad [] [20, 21] [(9, pU (ishr .u64 p1 32))] fo0 (by kernel_rfl) ?_
 refine yab (yaa ?_)
 refine lb_elim h ?_; clear h; intro w1 hw1 h
 refine yaf ?_
 refine yam 3 [] [22, 23] [(24, pU (IntKind.u64.wrap ((iand .u64 p0 4294967295) * (iand .u64 p1 4294967295))))] fo0 (by kernel_rfl) ?_
 refine pwl_q rfl rfl rfl (pq_assign rfl (.p (congrArg (fun z => PV.v (Value.int .u64 z)) hw1))) ?_
 refine yba (yab (yaa ?_))
 refine lb_elim h ?_; clear h; intro w2 hw2 h
 refine yaf ?_
 refine yam 6 [] [25, 26, 27, 28, 29] [(30, pU (IntKind.u64.wrap ((IntKind.u64.wrap ((ishr .u64 p0 32) * (iand .u64 p1 4294967295))) + (ishr .u64 w1 32))))] fo0 (by kernel_rfl) ?_
 refine pwl_q rfl rfl rfl (pq_assign rfl (.p (congrArg (fun z => PV.v (Value.int .u64 z)) hw2))) ?_
 refine yba (yab (yaa ?_))
 refine yad [] [31, 32] [(12, pU (iand .u64 w2 4294967295))] fo0 (by kernel_rfl) ?_
 refine yab (yaa ?_)
 refine yad [] [33, 34] [(13, pU (ishr .u64 w2 32))] fo0 (by kernel_rfl) ?_
 refine yab (yaa ?_)
 refine lb_elim h ?_; clear h; intro w3 hw3 h
 refine yaf ?_
 refine yam 5 [] [35, 36, 37, 38] [(39, pU (IntKind.u64.wrap ((iand .u64 w2 4294967295) + (IntKind.u64.wrap ((iand .u64 p0 4294967295) * (ishr .u64 p1 32))))))] fo0 (by kernel_rfl) ?_
 refine pwl_q rfl rfl rfl (pq_assign rfl (.p (congrArg (fun z => PV.v (Value.int .u64 z)) hw3))) ?_
 refine yba (yab (yaa ?_))
 refine lb_elim h ?_; clear h; intro w4 hw4 h
 refine yaf ?_
 refine yam 8 [] [40, 41, 42, 43, 44, 45, 46] [(47, pU (IntKind.u64.wrap ((IntKind.u64.wrap ((IntKind.u64.wrap ((ishr .u64 p0 32) * (ishr .u64 p1 32))) + (ishr .u64 w2 32))) + (ishr .u64 w3 32))))] fo0 (by kernel_rfl) ?_
 refine pwl_q rfl rfl rfl (pq_assign rfl (.p (congrArg (fun z => PV.v (Value.int .u64 z)) hw4))) ?_
 refine yba (yab (yaa ?_))
 refine yad [] [48, 49, 50] [(5, pU (IntKind.u64.wrap (p0 * p1)))] fo0 (by kernel_rfl) ?_
 refine yab (yak ?_)
 obtain rfl := Option.some.inj h
 exact yal (prv_2 (yao rfl) (yao rfl)) zsn ⟨rfl, rfl⟩
def exact_Mul (p0 : Int) (p1 : Int) : Option Texact_Wide := Option.bind (math_bits_Mul64 p0 p1) (fun x2 => some (⟨x2.1, x2.2⟩ : Texact_Wide))
set_option maxHeartbeats 4000000 in
theorem exact_Mul_ok {p0 : Int} {p1 : Int} {r : Texact_Wide}  (h : exact_Mul p0 p1 = some r) : PF 145 [pU p0, pU p1] (.agg [pU r.Hi, pU r.Lo]) := by
 unfold exact_Mul at h
 refine pf_of ?_
 refine penter Tryz.func145 fk145 rfl Tryz.ntmps145 Tryz.results145 rfl ?_
 refine yaa (yaf ?_)
 refine yay rfl rfl rfl (pl_alloc (cs := [pU 0, pU 0]) rfl rfl rfl rfl (fun b1 => ?_))
 refine yba (yab (yaa ?_))
 refine yac h ?_; clear h; intro x2 hx2 h
 refine yad [] [8, 9, 10, 7, 11, 12] [(5, pU x2.1), (6, pU x2.2)] (focl 2 (math_bits_Mul64_ok hx2) fo0) (by kernel_rfl) ?_
 refine yab (yaa (yaf ?_))
 refine yam 3 [] [13, 14] [(15, .agg [pU x2.1, pU x2.2])] fo0 (by kernel_rfl) ?_
 refine pwl_l0 rfl rfl (yaw (vs := [pU x2.1, pU x2.2]) rfl rfl rfl rfl rfl zuh (zlc (zlc zln)) ?_)
 refine yba (yab (yak ?_))
 obtain rfl := Option.some.inj h
 exact yal (ybc (prv1_c rfl zm0 rfl)) zsn ⟨rfl, rfl⟩
def exact_MulDiv (p0 : Int) (p1 : Int) (p2 : Int) (p3 : Int) : Option (Int × Int) := Option.bind (exact_Mul p0 p1) (fun x1 => Option.bind (exact_Div x1 p2 p3) (fun x2 => some (x2.1, x2.2)))
set_option maxHeartbeats 4000000 in
theorem exact_MulDiv_ok {p0 : Int} {p1 : Int} {p2 : Int} {p3 : Int} {r : (Int × Int)}  (h : exact_MulDiv p0 p1 p2 p3 = some r) : PF 121 [pU p0, pU p1, pU p2, pI p3] (.tup [pU r.1, pI r.2]) := by
 unfold exact_MulDiv at h
 refine pf_of ?_
 refine penter Tryz.func121 fk121 rfl Tryz.ntmps121 Tryz.results121 rfl ?_
 refine yaa ?_
 refine yad [] [8, 9] [] fo0 (by kernel_rfl) ?_
 refine yab (yaa ?_)
 refine yac h ?_; clear h; intro x1 hx1 h
 refine yac h ?_; clear h; intro x2 hx2 h
 refine yad [] [10, 11, 12, 13, 14, 15, 16, 17] [(8, pU x2.1), (9, pI x2.2)] (focl 2 (exact_Mul_ok hx1) (focl 5 (exact_Div_ok hx2) fo0)) (by kernel_rfl) ?_
 refine yab (yak ?_)
 obtain rfl := Option.some.inj h
 exact yal (prv_2 (yao rfl) (yao rfl)) zsn ⟨rfl, rfl⟩
def cumulation_portion (p0 : Int) (p1 : Int) (p2 : Int) : Option Int := Option.bind (exact_MulDiv (IntKind.u64.wrap p0) (IntKind.u64.wrap p1) (IntKind.u64.wrap p2) 1) (fun x1 => cond ((x1.2 != 0) || (decide (1000000000000 < x1.1))) (some 1000000000000) (some (IntKind.i64.wrap x1.1)))
set_option maxHeartbeats 4000000 in
theorem cumulation_portion_ok {p0 : Int} {p1 : Int} {p2 : Int} {r : Int}  (h : cumulation_portion p0 p1 p2 = some r) : PF 95 [pI p0, pI p1, pI p2] (pI r) := by
 unfold cumulation_portion at h
 refine pf_of ?_
 refine penter Tryz.func95 fk95 rfl Tryz.ntmps95 Tryz.results95 rfl ?_
 refine yaa ?_
 refine yad [] [6] [] fo0 (by kernel_rfl) ?_
 refine yab (yaa ?_)
 refine yac h ?_; clear h; intro x1 hx1 h
 refine yad [] [10, 11, 12, 13, 14, 15, 16, 9, 17, 18] [(7, pU x1.1), (8, pI x1.2)] (focl 6 (exact_MulDiv_ok hx1) fo0) (by kernel_rfl) ?_
 refine yab (yaa (yaa ?_))
 refine yad [] [19, 20, 21, 22, 23] [(24, pB ((x1.2 != 0) || (decide (1000000000000 < x1.1))))] fo0 (by kernel_rfl) ?_
 refine yab ?_
 refine yah rfl (fun hc2 => ?_) (fun hc2 => ?_)
 ·replace h := yap hc2 h
  refine yaa ?_
  refine yad [] [] [(6, pI 1000000000000)] fo0 (by kernel_rfl) ?_
  refine yab (yak (yai ?_))
  obtain rfl := Option.some.inj h
  exact yal (ybc (yao rfl)) zsn ⟨rfl, rfl⟩
 ·replace h := yaq hc2 h
  refine yaj (yab (yaa ?_))
  refine yad [] [25, 26] [(6, pI (IntKind.i64.wrap x1.1))] fo0 (by kernel_rfl) ?_
  refine yab (yak ?_)
  obtain rfl := Option.some.inj h
  exact yal (ybc (yao rfl)) zsn ⟨rfl, rfl⟩
def exact_CompareWide (p0 : Texact_Wide) (p1 : Texact_Wide) : Option Int := cond ((decide (p0.Hi < p1.Hi)) || ((p0.Hi == p1.Hi) && (decide (p0.Lo < p1.Lo)))) (some (-1)) (cond (Texact_Wide.eqb p0 p1) (some 0) (some 1))
set_option maxHeartbeats 4000000 in
theorem exact_CompareWide_ok {p0 : Texact_Wide} {p1 : Texact_Wide} {r : Int}  (h : exact_CompareWide p0 p1 = some r) : PF 214 [.agg [pU p0.Hi, pU p0.Lo], .agg [pU p1.Hi, pU p1.Lo]] (pI r) := by
 unfold exact_CompareWide at h
 refine pf_of ?_
 refine penter Tryz.func214 fk214 rfl Tryz.ntmps214 Tryz.results214 rfl ?_
 refine yaa (yaf ?_)
 refine yay rfl rfl rfl (pl_box (cs := [pU p0.Hi, pU p0.Lo]) rfl rfl (fun b1 => ?_))
 refine yay rfl rfl rfl (pl_box (cs := [pU p1.Hi, pU p1.Lo]) rfl rfl (fun b2 => ?_))
 refine yas [] [4] [] fo0 (by kernel_rfl) ?_
 refine yab (yaa (yan (yaa ?_)))
 refine yad [1, 0, 1, 0, 1, 0] [6, 7, 8, 9, 10, 11, 12, 13, 14, 15, 16, 17, 18, 19, 20, 21, 22, 23, 24] [(5, pB ((decide (p0.Hi < p1.Hi)) || ((p0.Hi == p1.Hi) && (decide (p0.Lo < p1.Lo)))))] fo0 (by kernel_rfl) ?_
 refine yab ?_
 refine yah rfl (fun hc3 => ?_) (fun hc3 => ?_)
 ·replace h := yap hc3 h
  refine yaa ?_
  refine yad [] [] [(4, pI (-1))] fo0 (by kernel_rfl) ?_
  refine yab (yak (yag (yai ?_)))
  obtain rfl := Option.some.inj h
  exact yal (ybc (yao rfl)) zsn ⟨rfl, rfl⟩
 ·replace h := yaq hc3 h
  refine yaa ?_
  refine yad [1, 0] [26, 27, 28] [(25, pB (Texact_Wide.eqb p0 p1))] (foeq 2 Texact_Wide.eqok199 fo0) (by kernel_rfl) ?_
  refine yab ?_
  refine yah rfl (fun hc4 => ?_) (fun hc4 => ?_)
  ·replace h := yap hc4 h
   refine yaa ?_
   refine yad [] [] [(4, pI 0)] fo0 (by kernel_rfl) ?_
   refine yab (yak (yag (yai ?_)))
   obtain rfl := Option.some.inj h
   exact yal (ybc (yao rfl)) zsn ⟨rfl, rfl⟩
  ·replace h := yaq hc4 h
   refine yaj (yae (yab (yaa ?_)))
   refine yad [] [] [(4, pI 1)] fo0 (by kernel_rfl) ?_
   refine yab (yak ?_)
   obtain rfl := Option.some.inj h
   exact yal (ybc (yao rfl)) zsn ⟨rfl, rfl⟩
def rule_atMost (p0 : Int) (p1 : Int) (p2 : Int) : Option Bool := Option.bind (exact_Mul (IntKind.u64.wrap p0) 1000000) (fun x1 => Option.bind (exact_Mul (IntKind.u64.wrap p1) (IntKind.u64.wrap p2)) (fun x3 => Option.bind (exact_CompareWide x1 x3) (fun x5 => some (decide (x5 ≤ 0)))))
set_option maxHeartbeats 4000000 in
theorem rule_atMost_ok {p0 : Int} {p1 : Int} {p2 : Int} {r : Bool}  (h : rule_atMost p0 p1 p2 = some r) : PF 211 [pI p0, pI p1, pI p2] (pB r) := by
 unfold rule_atMost at h
 refine pf_of ?_
 refine penter Tryz.func211 fk211 rfl Tryz.ntmps211 Tryz.results211 rfl ?_
 refine yaa ?_
 refine yad [] [6] [] fo0 (by kernel_rfl) ?_
 refine yab (yaa ?_)
 refine yac h ?_; clear h; intro x1 hx1 h
 refine yaf ?_
 refine yam 3 [] [9, 10] [(11, .agg [pU x1.Hi, pU x1.Lo])] (focl 2 (exact_Mul_ok hx1) fo0) (by kernel_rfl) ?_
 refine yay rfl rfl rfl (pl_alloc (cs := [pU 0, pU 0]) rfl rfl rfl rfl (fun b2 => ?_))
 refine pwl_l0 rfl rfl (yaw (vs := [pU x1.Hi, pU x1.Lo]) rfl rfl rfl rfl rfl zuh (zlc (zlc zln)) ?_)
 refine yba (yab (yaa ?_))
 refine yac h ?_; clear h; intro x3 hx3 h
 refine yaf ?_
 refine yam 5 [] [12, 13, 14, 15] [(16, .agg [pU x3.Hi, pU x3.Lo])] (focl 4 (exact_Mul_ok hx3) fo0) (by kernel_rfl) ?_
 refine yay rfl rfl rfl (pl_alloc (cs := [pU 0, pU 0]) rfl rfl rfl rfl (fun b4 => ?_))
 refine pwl_l0 rfl rfl (yaw (vs := [pU x3.Hi, pU x3.Lo]) rfl rfl rfl rfl rfl zuh (zlc (zlc zln)) ?_)
 refine yba (yab (yaa ?_))
 refine yac h ?_; clear h; intro x5 hx5 h
 refine yad [1, 0] [17, 18, 19, 20] [(6, pB (decide (x5 ≤ 0)))] (focl 2 (exact_CompareWide_ok hx5) fo0) (by kernel_rfl) ?_
 refine yab (yak ?_)
 obtain rfl := Option.some.inj h
 exact yal (ybc (yao rfl)) zsn ⟨rfl, rfl⟩
def rule_holds (p0 : TRule) (p1 : TCase) : Option Bool := Option.bind (loopF (S := Int × Int × Int × Int) (T := (Int × Int × Int)) (fun (v3, v4, v5, v6) => cond (decide (v6 < (p1.Inputs.length : Int))) (Option.bind (Option.bind (idx p1.Inputs v6) (fun m17 => cond m17.Originating (some (v3, v4, v5)) (Option.bind (gd (p0.Kind == 2) (rule_violates p0 p1.Code m17.Code)) (fun x20 => cond ((p0.Kind == 2) && x20) (some ((IntKind.i64.wrap (v3 + m17.Value)), (IntKind.i64.wrap (v4 + m17.Value)), (IntKind.i64.wrap (v5 + 1)))) (some ((IntKind.i64.wrap (v3 + m17.Value)), v4, (IntKind.i64.wrap (v5 + 1)))))))) (fun (v13, v14, v15) => some (.inl (v13, v14, v15, (IntKind.i64.wrap (v6 + 1)))))) (some (.inr (v3, v4, v5)))) FUEL (0, 0, 0, 0)) (fun (v7, v8, v9) => cond (p0.Kind == 1) (some (p1.Obtained && (v9 == 0))) (cond (p0.Kind == 2) (Option.bind (rule_atMost v8 p0.Tolerance p1.Price) (fun x24 => some x24)) (cond (p0.Kind == 3) (Option.bind (rule_atMost v7 p0.Limit p1.Price) (fun x26 => some x26)) (cond (p0.Kind == 4) (Option.bind (slices_Contains_string_string p1.Processes p0.Name) (fun x28 => some x28)) (some false)))))
set_option maxHeartbeats 4000000 in
theorem rule_holds_ok {p0 : TRule} {p1 : TCase} {r : Bool}  (h : rule_holds p0 p1 = some r) : PF 209 [.agg [pI p0.Kind, pI p0.Digits, pL eS p0.Except, pI p0.Tolerance, pI p0.Limit, pS p0.Name, pL TRule.enc p0.Args], .agg [pS p1.Code, pI p1.Price, pB p1.Obtained, pL eS p1.Processes, pL TInput.enc p1.Inputs]] (pB r) := by
 unfold rule_holds at h
 refine pf_of ?_
 refine penter Tryz.func209 fk209 rfl Tryz.ntmps209 Tryz.results209 rfl ?_
 refine yaa (yaf ?_)
 refine yay rfl rfl rfl (pl_box (cs := [pI p0.Kind, pI p0.Digits, pL eS p0.Except, pI p0.Tolerance, pI p0.Limit, pS p0.Name, pL TRule.enc p0.Args]) rfl rfl (fun b1 => ?_))
 refine yay rfl rfl rfl (pl_box (cs := [pS p1.Code, pI p1.Price, pB p1.Obtained, pL eS p1.Processes, pL TInput.enc p1.Inputs]) rfl rfl (fun b2 => ?_))
 refine yas [] [4] [] fo0 (by kernel_rfl) ?_
 refine yab (yaa ?_)
 refine yad [] [] [(5, pI 0), (6, pI 0), (7, pI 0)] fo0 (by kernel_rfl) ?_
 refine yab (yaa (yaa ?_))
 refine yad [0] [10] [(11, pL TInput.enc p1.Inputs), (12, pI (p1.Inputs.length : Int)), (13, pI 0)] fo0 (by kernel_rfl) ?_
 refine yab ?_
 refine yac h ?_; clear h; intro q11 hq11 h
 refine yaz (Y := (Unit) × (Int × Int × Int)) (fun (_, (v7, v8, v9)) => [(2, pP b1 0), (3, pP b2 0), (5, pI v7), (6, pI v8), (7, pI v9)]) (fun (_, (v7, v8, v9)) => [PRes.b b1 36 [pI p0.Kind, pI p0.Digits, pL eS p0.Except, pI p0.Tolerance, pI p0.Limit, pS p0.Name, pL TRule.enc p0.Args], PRes.b b2 45 [pS p1.Code, pI p1.Price, pB p1.Obtained, pL eS p1.Processes, pL TInput.enc p1.Inputs]]) (fun (_, (v7, v8, v9)) => q11 = (v7, v8, v9)) ?_ ?_
 ·refine yan ?_
  refine ybd (Y := Unit) (S := Int × Int × Int × Int) _ hq11 (fun _ (v3, v4, v5, v6) => [(2, pP b1 0), (3, pP b2 0), (5, pI v3), (6, pI v4), (7, pI v5), (11, pL TInput.enc p1.Inputs), (12, pI (p1.Inputs.length : Int)), (13, pI v6)]) (fun _ (v3, v4, v5, v6) => [PRes.b b1 36 [pI p0.Kind, pI p0.Digits, pL eS p0.Except, pI p0.Tolerance, pI p0.Limit, pS p0.Name, pL TRule.enc p0.Args], PRes.b b2 45 [pS p1.Code, pI p1.Price, pB p1.Obtained, pL eS p1.Processes, pL TInput.enc p1.Inputs]]) () (zhc rfl (zhc rfl (zhc rfl (zhc rfl (zhc rfl (zhc rfl (zhc rfl (zhc rfl zhn)))))))) (zsc (zpt zph) (zsc zph zsn)) ?_
  rintro _ ⟨v3, v4, v5, v6⟩ o τ hb10; (try dsimp only at hb10); dsimp only [pupds]
  refine yaa ?_
  refine yad [] [] [(14, pB (decide (v6 < (p1.Inputs.length : Int))))] fo0 (by kernel_rfl) ?_
  refine yab (yaa ?_)
  refine yah rfl (fun hc12 => ?_) (fun hc12 => ?_)
  ·replace hb10 := yap hc12 hb10
   refine yaj (yab (yaa ?_))
   refine yac hb10 ?_; clear hb10; intro q16 hq16 hb10
   refine yaz (Y := (Unit) × (Int × Int × Int)) (fun (_, (v13, v14, v15)) => [(2, pP b1 0), (3, pP b2 0), (5, pI v13), (6, pI v14), (7, pI v15), (11, pL TInput.enc p1.Inputs), (12, pI (p1.Inputs.length : Int)), (13, pI v6)]) (fun (_, (v13, v14, v15)) => [PRes.b b1 36 [pI p0.Kind, pI p0.Digits, pL eS p0.Except, pI p0.Tolerance, pI p0.Limit, pS p0.Name, pL TRule.enc p0.Args], PRes.b b2 45 [pS p1.Code, pI p1.Price, pB p1.Obtained, pL eS p1.Processes, pL TInput.enc p1.Inputs]]) (fun (_, (v13, v14, v15)) => q16 = (v13, v14, v15)) ?_ ?_
   ·skip
    refine yan (yaa ?_)
    refine yac hq16 ?_; clear hq16; intro m17 hm17 hq16
    refine yaf ?_
    refine yam 2 [] [15] [(16, .agg [pS m17.Code, pI m17.Value, pB m17.Originating])] (foix 0 TInput.enc hm17 fo0) (by kernel_rfl) ?_
    refine yay rfl rfl rfl (pl_alloc (cs := [pS ByteArray.empty, pI 0, pB false]) rfl rfl rfl rfl (fun b18 => ?_))
    refine pwl_l0 rfl rfl (yaw (vs := [pS m17.Code, pI m17.Value, pB m17.Originating]) rfl rfl rfl rfl rfl zuh (zlc (zlc (zlc zln))) ?_)
    refine yba (yab (yaa (yaa ?_)))
    refine yad [0] [17] [(18, pB m17.Originating)] fo0 (by kernel_rfl) ?_
    refine yab ?_
    refine yah rfl (fun hc19 => ?_) (fun hc19 => ?_)
    ·replace hq16 := yap hc19 hq16
     refine pwc_exit (yav ?_)
     refine yau rfl ?_
     obtain rfl := Option.some.inj hq16
     exact pk_mid ((), (v3, v4, v5)) (zhc rfl (zhc rfl (zhc rfl (zhc rfl (zhc rfl (zhc rfl (zhc rfl (zhc rfl zhn)))))))) (zsc (zpt zph) (zsc (zpt zph) zsn)) rfl
    ·replace hq16 := yaq hc19 hq16
     refine yaj (yab (yaa ?_))
     refine yad [] [19, 20] [(7, pI (IntKind.i64.wrap (v5 + 1)))] fo0 (by kernel_rfl) ?_
     refine yab (yaa ?_)
     refine yad [0] [21, 22, 23, 24] [(5, pI (IntKind.i64.wrap (v3 + m17.Value)))] fo0 (by kernel_rfl) ?_
     refine yab (yaa ?_)
     refine yac hq16 ?_; clear hq16; intro x20 hx20 hq16
     refine yad [1, 1, 2, 0] [25, 26, 27, 28, 29, 30, 31, 32, 33, 34] [(35, pB ((p0.Kind == 2) && x20))] (foclg 9 (fun hc => rule_violates_ok (gd_t hx20 hc)) fo0) (by kernel_rfl) ?_
     refine yab ?_
     refine yah rfl (fun hc21 => ?_) (fun hc21 => ?_)
     ·replace hq16 := yap hc21 hq16
      refine yad [0] [36, 37, 38, 39] [(6, pI (IntKind.i64.wrap (v4 + m17.Value)))] fo0 (by kernel_rfl) ?_
      refine yae ?_
      obtain rfl := Option.some.inj hq16
      exact pk_mid ((), ((IntKind.i64.wrap (v3 + m17.Value)), (IntKind.i64.wrap (v4 + m17.Value)), (IntKind.i64.wrap (v5 + 1)))) (zhc rfl (zhc rfl (zhc rfl (zhc rfl (zhc rfl (zhc rfl (zhc rfl (zhc rfl zhn)))))))) (zsc (zpt zph) (zsc (zpt zph) zsn)) rfl
     ·replace hq16 := yaq hc21 hq16
      refine yaj (yae ?_)
      obtain rfl := Option.some.inj hq16
      exact pk_mid ((), ((IntKind.i64.wrap (v3 + m17.Value)), v4, (IntKind.i64.wrap (v5 + 1)))) (zhc rfl (zhc rfl (zhc rfl (zhc rfl (zhc rfl (zhc rfl (zhc rfl (zhc rfl zhn)))))))) (zsc (zpt zph) (zsc (zpt zph) zsn)) rfl
   ·rintro ⟨_, ⟨v13, v14, v15⟩⟩ τ hz; (try dsimp only at hz); subst q16; (try dsimp only at hb10); dsimp only [pupds]
    refine yad [] [40] [(13, pI (IntKind.i64.wrap (v6 + 1)))] fo0 (by kernel_rfl) ?_
    exact pk_loop hb10 () (zhc rfl (zhc rfl (zhc rfl (zhc rfl (zhc rfl (zhc rfl (zhc rfl (zhc rfl zhn)))))))) (zsc zph (zsc zph zsn))
  ·replace hb10 := yaq hc12 hb10
   refine pwc_exit (yav ?_)
   refine yar hb10 (fun ht => ?_)
   refine yau rfl ?_
   exact pk_mid ((), (v3, v4, v5)) (zhc rfl (zhc rfl (zhc rfl (zhc rfl (zhc rfl zhn))))) (zsc zph (zsc zph zsn)) ht.symm
 ·rintro ⟨_, ⟨v7, v8, v9⟩⟩ τ hz; (try dsimp only at hz); subst q11; (try dsimp only at h); dsimp only [pupds]
  refine yaa (yaa ?_)
  refine yad [0] [41] [(42, pI p0.Kind)] fo0 (by kernel_rfl) ?_
  refine yab (yan (yaa ?_))
  refine yad [] [44] [(43, pB (p0.Kind == 1))] fo0 (by kernel_rfl) ?_
  refine yab ?_
  refine yah rfl (fun hc22 => ?_) (fun hc22 => ?_)
  ·replace h := yap hc22 h
   refine yaa ?_
   refine yad [1] [45, 46, 47, 48, 49, 50] [(4, pB (p1.Obtained && (v9 == 0)))] fo0 (by kernel_rfl) ?_
   refine yab (yak (yag (yai ?_)))
   obtain rfl := Option.some.inj h
   exact yal (ybc (yao rfl)) zsn ⟨rfl, rfl⟩
  ·replace h := yaq hc22 h
   refine yaa ?_
   refine yad [] [52] [(51, pB (p0.Kind == 2))] fo0 (by kernel_rfl) ?_
   refine yab ?_
   refine yah rfl (fun hc23 => ?_) (fun hc23 => ?_)
   ·replace h := yap hc23 h
    refine yaa ?_
    refine yac h ?_; clear h; intro x24 hx24 h
    refine yad [0, 1] [53, 54, 55, 56, 57, 58] [(4, pB x24)] (focl 5 (rule_atMost_ok hx24) fo0) (by kernel_rfl) ?_
    refine yab (yak (yag (yai ?_)))
    obtain rfl := Option.some.inj h
    exact yal (ybc (yao rfl)) zsn ⟨rfl, rfl⟩
   ·replace h := yaq hc23 h
    refine yaa ?_
    refine yad [] [60] [(59, pB (p0.Kind == 3))] fo0 (by kernel_rfl) ?_
    refine yab ?_
    refine yah rfl (fun hc25 => ?_) (fun hc25 => ?_)
    ·replace h := yap hc25 h
     refine yaa ?_
     refine yac h ?_; clear h; intro x26 hx26 h
     refine yad [0, 1] [61, 62, 63, 64, 65, 66] [(4, pB x26)] (focl 5 (rule_atMost_ok hx26) fo0) (by kernel_rfl) ?_
     refine yab (yak (yag (yai ?_)))
     obtain rfl := Option.some.inj h
     exact yal (ybc (yao rfl)) zsn ⟨rfl, rfl⟩
    ·replace h := yaq hc25 h
     refine yaa ?_
     refine yad [] [68] [(67, pB (p0.Kind == 4))] fo0 (by kernel_rfl) ?_
     refine yab ?_
     refine yah rfl (fun hc27 => ?_) (fun hc27 => ?_)
     ·replace h := yap hc27 h
      refine yaa ?_
      refine yac h ?_; clear h; intro x28 hx28 h
      refine yad [1, 0] [69, 70, 71, 72, 73] [(4, pB x28)] (focl 4 (slices_Contains_string_string_ok hx28) fo0) (by kernel_rfl) ?_
      refine yab (yak (yag (yai ?_)))
      obtain rfl := Option.some.inj h
      exact yal (ybc (yao rfl)) zsn ⟨rfl, rfl⟩
     ·replace h := yaq hc27 h
      refine yaj (yae (yab (yaa ?_)))
      refine yad [] [] [(4, pB false)] fo0 (by kernel_rfl) ?_
      refine yab (yak ?_)
      obtain rfl := Option.some.inj h
      exact yal (ybc (yao rfl)) zsn ⟨rfl, rfl⟩
def rule_testOf_B (rec : TRule → Option Irule_test) (p0 : TRule) : Option Irule_test := Option.bind (loopF (S := (List Irule_test) × Int) (T := ((List Irule_test))) (fun (l3, v6) => cond (decide (v6 < (p0.Args.length : Int))) (Option.bind (idx p0.Args v6) (fun m15 => Option.bind (rec m15) (fun x17 => Option.bind (app 16 l3 [x17]) (fun l20 => some (.inl (l20, (IntKind.i64.wrap (v6 + 1)))))))) (some (.inr l3))) FUEL (([] : List Irule_test), 0)) (fun l10 => cond (p0.Kind == 5) (some (Irule_test.every_ l10)) (cond (p0.Kind == 6) (some (Irule_test.some_ l10)) (some (Irule_test.single_ (⟨p0⟩ : Trule_single)))))
set_option maxHeartbeats 4000000 in
theorem rule_testOf_B_ok {rec : TRule → Option Irule_test} (hrec : ∀ {p0 : TRule} {r : Irule_test}, rec p0 = some r → PF 105 [.agg [pI p0.Kind, pI p0.Digits, pL eS p0.Except, pI p0.Tolerance, pI p0.Limit, pS p0.Name, pL TRule.enc p0.Args]] (Irule_test.pv r)) {p0 : TRule} {r : Irule_test} (h : rule_testOf_B rec p0 = some r) : PF 105 [.agg [pI p0.Kind, pI p0.Digits, pL eS p0.Except, pI p0.Tolerance, pI p0.Limit, pS p0.Name, pL TRule.enc p0.Args]] (Irule_test.pv r) := by
 unfold rule_testOf_B at h
 refine pf_of ?_
 refine penter Tryz.func105 fk105 rfl Tryz.ntmps105 Tryz.results105 rfl ?_
 refine yaa (yaf ?_)
 refine yay rfl rfl rfl (pl_box (cs := [pI p0.Kind, pI p0.Digits, pL eS p0.Except, pI p0.Tolerance, pI p0.Limit, pS p0.Name, pL TRule.enc p0.Args]) rfl rfl (fun b1 => ?_))
 refine yas [] [2] [] fo0 (by kernel_rfl) ?_
 refine yab (yaa ?_)
 refine yad [] [] [(3, pN)] fo0 (by kernel_rfl) ?_
 refine yab (yaa (yaa ?_))
 refine yad [0] [6] [(7, pL TRule.enc p0.Args), (8, pI (p0.Args.length : Int)), (9, pI 0)] fo0 (by kernel_rfl) ?_
 refine yab ?_
 refine pwc_nilrow 152 1 ?_
 refine yac h ?_; clear h; intro q12 hq12 h
 refine yaz (Y := (Option Addr × Nat) × ((List Irule_test))) (fun ((a8, c9), l10) => [(1, pP b1 0), (3, pO a8 l10.length c9)]) (fun ((a8, c9), l10) => [PRes.b b1 36 [pI p0.Kind, pI p0.Digits, pL eS p0.Except, pI p0.Tolerance, pI p0.Limit, pS p0.Name, pL TRule.enc p0.Args], PRes.row a8 l10.length c9 152 1 (List.map Irule_test.enc l10)]) (fun ((a8, c9), l10) => q12 = l10) ?_ ?_
 ·refine yan ?_
  refine ybd (Y := Option Addr × Nat) (S := (List Irule_test) × Int) _ hq12 (fun (a4, c5) (l3, v6) => [(1, pP b1 0), (3, pO a4 l3.length c5), (7, pL TRule.enc p0.Args), (8, pI (p0.Args.length : Int)), (9, pI v6)]) (fun (a4, c5) (l3, v6) => [PRes.b b1 36 [pI p0.Kind, pI p0.Digits, pL eS p0.Except, pI p0.Tolerance, pI p0.Limit, pS p0.Name, pL TRule.enc p0.Args], PRes.row a4 l3.length c5 152 1 (List.map Irule_test.enc l3)]) (none, 0) (zhc rfl (zhc rfl (zhc rfl (zhc rfl (zhc rfl zhn))))) (zsc (zpt zph) (zsc zph zsn)) ?_
  rintro ⟨a4, c5⟩ ⟨l3, v6⟩ o τ hb11; (try dsimp only at hb11); dsimp only [pupds]
  refine yaa ?_
  refine yad [] [] [(10, pB (decide (v6 < (p0.Args.length : Int))))] fo0 (by kernel_rfl) ?_
  refine yab (yaa ?_)
  refine yah rfl (fun hc14 => ?_) (fun hc14 => ?_)
  ·replace hb11 := yap hc14 hb11
   refine yaj (yab (yaa (yan (yaa ?_))))
   refine yac hb11 ?_; clear hb11; intro m15 hm15 hb11
   refine yaf ?_
   refine yam 2 [] [11] [(12, .agg [pI m15.Kind, pI m15.Digits, pL eS m15.Except, pI m15.Tolerance, pI m15.Limit, pS m15.Name, pL TRule.enc m15.Args])] (foixr 0 TRule.enc (TRule.enc_eq _) hm15 fo0) (by kernel_rfl) ?_
   refine yay rfl rfl rfl (pl_alloc (cs := [pI 0, pI 0, pN, pI 0, pI 0, pS ByteArray.empty, pN]) rfl rfl rfl rfl (fun b16 => ?_))
   refine pwl_l0 rfl rfl (yaw (vs := [pI m15.Kind, pI m15.Digits, pL eS m15.Except, pI m15.Tolerance, pI m15.Limit, pS m15.Name, pL TRule.enc m15.Args]) rfl rfl rfl rfl rfl zuh (zlc (zlc (zlc (zlc (zlc (zlc (zlc zln))))))) ?_)
   refine yba (yab ?_)
   refine yac hb11 ?_; clear hb11; intro x17 hx17 hb11
   refine yaf ?_
   refine yam 3 [0] [14] [(13, pO a4 l3.length c5), (15, Irule_test.pv x17)] (focl 2 (hrec hx17) fo0) (by kernel_rfl) ?_
   refine yay rfl rfl rfl (pl_lit rfl rfl rfl rfl rfl (zic rfl zin) rfl rfl rfl rfl (fun b18 => ?_))
   refine yac hb11 ?_; clear hb11; intro l20 hl20 hb11
   refine yay rfl rfl rfl (pl_app_o (enc := Irule_test.enc) rfl rfl rfl rfl rfl rfl rfl rfl rfl zm0 (by exact zpt (zpt (zpt zph))) hl20 (fun a21 c22 => ?_))
   refine yas [] [] [(3, pO a21 l20.length c22)] fo0 (by kernel_rfl) ?_
   refine yae (yab ?_)
   refine yad [] [18] [(9, pI (IntKind.i64.wrap (v6 + 1)))] fo0 (by kernel_rfl) ?_
   exact pk_loop hb11 (a21, c22) (zhc rfl (zhc rfl (zhc rfl (zhc rfl (zhc rfl zhn))))) (zsc (zpt (zpt (zpt zph))) (zsc zph zsn))
  ·replace hb11 := yaq hc14 hb11
   refine pwc_exit (yav ?_)
   refine yar hb11 (fun ht => ?_)
   refine yau rfl ?_
   exact pk_mid ((a4, c5), l3) (zhc rfl (zhc rfl zhn)) (zsc zph (zsc zph zsn)) ht.symm
 ·rintro ⟨⟨a8, c9⟩, l10⟩ τ hz; (try dsimp only at hz); subst q12; (try dsimp only at h); dsimp only [pupds]
  refine yaa (yaa ?_)
  refine yad [0] [19] [(20, pI p0.Kind)] fo0 (by kernel_rfl) ?_
  refine yab (yan (yaa ?_))
  refine yad [] [22] [(21, pB (p0.Kind == 5))] fo0 (by kernel_rfl) ?_
  refine yab ?_
  refine yah rfl (fun hc24 => ?_) (fun hc24 => ?_)
  ·replace h := yap hc24 h
   refine yaa (yaf ?_)
   refine yam 1 [] [] [(23, pO a8 l10.length c9)] fo0 (by kernel_rfl) ?_
   refine pwl_frzt (enc := Irule_test.enc) (xs := l10) 23 rfl (by exact zpt zph) ?_
   refine yam 1 [] [] [(24, .ifc 184 (pL Irule_test.enc l10))] fo0 (by kernel_rfl) ?_
   refine pwl_castv 24 rfl (Irule_test.pv_every_ l10) ?_
   refine yas [] [] [(2, Irule_test.pv (Irule_test.every_ l10))] fo0 (by kernel_rfl) ?_
   refine yab (yak (yag (yai ?_)))
   obtain rfl := Option.some.inj h
   exact yal (ybc (yao rfl)) zsn ⟨rfl, rfl⟩
  ·replace h := yaq hc24 h
   refine yaa ?_
   refine yad [] [26] [(25, pB (p0.Kind == 6))] fo0 (by kernel_rfl) ?_
   refine yab ?_
   refine yah rfl (fun hc25 => ?_) (fun hc25 => ?_)
   ·replace h := yap hc25 h
    refine yaa (yaf ?_)
    refine yam 1 [] [] [(27, pO a8 l10.length c9)] fo0 (by kernel_rfl) ?_
    refine pwl_frzt (enc := Irule_test.enc) (xs := l10) 27 rfl (by exact zpt zph) ?_
    refine yam 1 [] [] [(28, .ifc 185 (pL Irule_test.enc l10))] fo0 (by kernel_rfl) ?_
    refine pwl_castv 28 rfl (Irule_test.pv_some_ l10) ?_
    refine yas [] [] [(2, Irule_test.pv (Irule_test.some_ l10))] fo0 (by kernel_rfl) ?_
    refine yab (yak (yag (yai ?_)))
    obtain rfl := Option.some.inj h
    exact yal (ybc (yao rfl)) zsn ⟨rfl, rfl⟩
   ·replace h := yaq hc25 h
    refine yaj (yae (yab (yaa ?_)))
    refine yad [0] [29, 30, 31] [(2, Irule_test.pv (Irule_test.single_ (⟨p0⟩ : Trule_single)))] fo0 (by kernel_rfl) ?_
    refine yab (yak ?_)
    obtain rfl := Option.some.inj h
    exact yal (ybc (yao rfl)) zsn ⟨rfl, rfl⟩
def rule_testOf_F (n : Nat) : TRule → Option Irule_test := Nat.rec (motive := fun _ => TRule → Option Irule_test) (fun _ => none) (fun _ ih => rule_testOf_B ih) n
def rule_testOf (p0 : TRule) : Option Irule_test := rule_testOf_F FUEL p0
theorem rule_testOf_Fok (n : Nat) : ∀ {p0 : TRule} {r : Irule_test}, rule_testOf_F n p0 = some r → PF 105 [.agg [pI p0.Kind, pI p0.Digits, pL eS p0.Except, pI p0.Tolerance, pI p0.Limit, pS p0.Name, pL TRule.enc p0.Args]] (Irule_test.pv r) := by
 induction n with
 | zero => intros; rename_i h; exact nomatch h
 | succ n ih => intros; rename_i h; exact rule_testOf_B_ok (fun hr => ih hr) h
theorem rule_testOf_ok {p0 : TRule} {r : Irule_test} (h : rule_testOf p0 = some r) : PF 105 [.agg [pI p0.Kind, pI p0.Digits, pL eS p0.Except, pI p0.Tolerance, pI p0.Limit, pS p0.Name, pL TRule.enc p0.Args]] (Irule_test.pv r) := rule_testOf_Fok FUEL h
def rule_single_witness (p0 : Trule_single) (p1 : TCase) : Option ((List Int) × Bool) := Option.bind (rule_holds p0.rule p1) (fun x3 => some ([], x3))
set_option maxHeartbeats 4000000 in
theorem rule_single_witness_ok {p0 : Trule_single} {p1 : TCase} {r : ((List Int) × Bool)}  (h : rule_single_witness p0 p1 = some r) : PF 208 [.agg [pI p0.rule.Kind, pI p0.rule.Digits, pL eS p0.rule.Except, pI p0.rule.Tolerance, pI p0.rule.Limit, pS p0.rule.Name, pL TRule.enc p0.rule.Args], .agg [pS p1.Code, pI p1.Price, pB p1.Obtained, pL eS p1.Processes, pL TInput.enc p1.Inputs]] (.tup [pL eI r.1, pB r.2]) := by
 unfold rule_single_witness at h
 refine pf_of ?_
 refine penter Tryz.func208 fk208 rfl Tryz.ntmps208 Tryz.results208 rfl ?_
 refine yaa (yaf ?_)
 refine yay rfl rfl rfl (pl_box (cs := [pI p0.rule.Kind, pI p0.rule.Digits, pL eS p0.rule.Except, pI p0.rule.Tolerance, pI p0.rule.Limit, pS p0.rule.Name, pL TRule.enc p0.rule.Args]) rfl rfl (fun b1 => ?_))
 refine yay rfl rfl rfl (pl_box (cs := [pS p1.Code, pI p1.Price, pB p1.Obtained, pL eS p1.Processes, pL TInput.enc p1.Inputs]) rfl rfl (fun b2 => ?_))
 refine yas [] [4, 5] [] fo0 (by kernel_rfl) ?_
 refine yab (yaa ?_)
 refine yac h ?_; clear h; intro x3 hx3 h
 refine yad [1, 0] [6, 7, 8, 9] [(4, pN), (5, pB x3)] (focl 3 (rule_holds_ok hx3) fo0) (by kernel_rfl) ?_
 refine yab ?_
 refine pwc_nil 4 rfl ?_
 refine yak ?_
 obtain rfl := Option.some.inj h
 exact yal (prv_2 (yao rfl) (yao rfl)) zsn ⟨rfl, rfl⟩
end SX
end Go.Proofs.YtiijbkaiipjpkaaGreatDoor
set_option maxRecDepth 100000
namespace Go.Proofs.YtiijbkaiipjpkaaGreatDoor
namespace SX
open Go
theorem run_append_zeros {P : Program} (w : World) (t tx ty e : TypeId) (i : TypeInfo) (z : Value) (ht : P.underlying t = some (.slice e)) (hx : P.underlying tx = some (.int .i64)) (hi : P.info? e = some i) (hz : i.zero = some z) (n : Nat) (hn : 0 < n) (hs : 0 < i.size) (hb : n * i.bytes ≤ 140737488355328) (hm : n ≤ 140737488355328) :
    (Builtin.append_ #[t, tx] ty #[.slice none 0 0, .int .i64 (n : Int)]).run P w = .ok (.slice (some ⟨w.heap.size, 0, none⟩) n (grownCap w n 0 e)) (w.drew.alloc (.cells (Builtin.zeroCells z.cells n ++ Builtin.zeroCells z.cells (grownCap w n 0 e - n)) e)) := by
  have hw : IntKind.i64.wrap (n : Int) = n := by simp [IntKind.wrap, IntKind.signed, IntKind.bits]; omega
  have h1 : ¬ ((n : Int) < 0) := by omega
  have h2 : ¬ (281474976710656 < (n : Int) * (i.bytes : Int)) := by
    have : (n : Int) * (i.bytes : Int) = ((n * i.bytes : Nat) : Int) := by simp
    omega
  have h3 : ¬ n = 0 := by omega
  have h4 : ¬ i.size = 0 := by omega
  have h5 : ¬ (281474976710656 < Builtin.nextslicecap n 0 * i.bytes) := by
    have : Builtin.nextslicecap n 0 = n := by unfold Builtin.nextslicecap; rw [if_pos (by omega)]
    rw [this]; omega
  have h6 : ¬ (9223372036854775807 < (n : Int)) := by omega
  simp [Builtin.append_, run_underlying ht, run_underlying hx, sizeOf, typeInfo, zeroValue, hi, hz, asInt, asIntOf, hw, h1, h2, h3, h4, h5, h6, Question.forced, newRow, grownCap, Builtin.firstCells]
  exact fun h => absurd h (Nat.mul_ne_zero h3 h4)
theorem ol_growZ {o : Oper} {σ : Env} {ρ l : List Res} {κ : Kr} {K : Value → List Res → Kr → Prop} {s x : Operand} {t ti T n sz by' : Nat} {z : Value} (ho : o.op = .call { callee := .builtin .append, args := #[s, x], argTypes := #[t, ti] }) (hu : und t = some (.slice T)) (hui : und ti = some (.int .i64)) (hi : inf T = some (z, sz, by')) (hz : Nat.beq z.cells.size sz = true) (h0 : Nat.blt 0 sz = true) (hs : ev σ s = .slice none 0 0) (hx : ev σ x = .int .i64 (n : Int)) (hn : 0 < n) (hb : n * by' ≤ 140737488355328 ∧ n ≤ 140737488355328)
    (hp : Pick ρ (Res.row none 0 0 T sz []) l) (h : ∀ a c κ', Kle κ κ' → n ≤ c → K (.slice a n c) (Res.row a 0 c T sz [] :: l) κ') : OpL o σ ρ κ K := fun β hinv Nx hk => by
  obtain ⟨i, hinf, hz0, hsz, hby⟩ := inf_get hi
  have hsz0 : 0 < sz := by have h := h0; simp [Nat.blt] at h; omega
  have hr := run_append_zeros (P := Tryz.prog) κ.w t ti o.type T i z (und_ok hu) (und_ok hui) hinf hz0 n hn (by rw [hsz]; exact hsz0) (by rw [hby]; exact hb.1) hb.2
  have hge := grownCap_ge κ.w n 0 T
  have hcm : grownCap κ.w n 0 T ≤ maxLen := grownCap_le_maxLen κ.w n 0 T (by unfold maxLen; omega)
  have hi2 := hinv.perm hp
  have hzs := Nat.eq_of_beq_eq_true hz
  have hhold : (Res.row (some ⟨κ.w.heap.size, 0, none⟩) 0 (grownCap κ.w n 0 T) T sz []).holds (κ.w.drew.alloc (.cells (Builtin.zeroCells z.cells n ++ Builtin.zeroCells z.cells (grownCap κ.w n 0 T - n)) T)) := by
    refine ⟨rfl, rfl, fun _ h => (by cases h), Nat.zero_le _, hcm, _, heap_alloc_new κ.w.drew _, ?_, by simp⟩
    simp only [Array.size_append, size_zeroCells, hzs, ← Nat.add_mul]
    congr 1; omega
  obtain ⟨hi3, hk3⟩ := hi2.grow (r' := Res.row (some ⟨κ.w.heap.size, 0, none⟩) 0 (grownCap κ.w n 0 T) T sz []) (w' := κ.w.drew.alloc (.cells (Builtin.zeroCells z.cells n ++ Builtin.zeroCells z.cells (grownCap κ.w n 0 T - n)) T)) ⟨rfl, rfl, rfl, by simp, fun k hk _ => by first | exact Go.heap_alloc_old κ.w.drew _ k hk | exact heap_alloc_old κ.w.drew _ hk⟩ (.inr (.inr rfl)) hhold (row_lt hhold) (sem_drawn _ _ _ _ _ hr)
  unfold execOp
  simp only [ho, resolve, invoke, builtin, Sem.run_bind, Sem.run_pure, Result.andThen_ok, List.map_toArray, List.map_cons, List.map_nil, hs, hx, hr, OutV]
  exact hk _ _ _ hi3 hk3 (h _ _ _ hk3 hge)
theorem pl_growZ {o : Oper} {σ : PEnv} {ρ l : List PRes} {K : PV → List PRes → Prop} {s x : Operand} {t ti T sz by' : Nat} {n : Int} {z : Value} {u : Unit} (ho : o.op = .call { callee := .builtin .append, args := #[s, x], argTypes := #[t, ti] }) (hu : und t = some (.slice T)) (hui : und ti = some (.int .i64)) (hi : inf T = some (z, sz, by')) (hz : Nat.beq z.cells.size sz = true) (h0 : Nat.blt 0 sz = true) (hs : pevc σ s = .v (.slice none 0 0)) (hx : pevc σ x = .v (.int .i64 n)) (hn : 0 < n) (hm : mk0 by' n = some u)
    (hp : PPick ρ (.row none 0 0 T sz []) l) (h : ∀ a c, n.toNat ≤ c → K (.v (.slice a n.toNat c)) (.row a 0 c T sz [] :: l)) : POpL o σ ρ K := fun κ σ' ρ' g hm' hrr => by
  unfold mk0 at hm
  split at hm
  · rename_i hb
    obtain ⟨h1, h2, h3⟩ := hb
    have hn' : n = ((n.toNat : Nat) : Int) := by omega
    obtain ⟨r, l', k1, k2, k3⟩ := hrr.pick hp
    cases k2 with
    | row hbn ho1 hc =>
      rename_i dss
      have := hc.nil_inv; subst this
      exact ol_growZ ho hu hui hi hz h0 (hm'.v1 hs) (by rw [hm'.v1 hx, ← hn']) (by omega) ⟨by rw [Nat.mul_comm]; exact h2, h3⟩ k1 fun a c κ' hk hge => ⟨_, _, .v rfl, .cons (.row (by omega) (fun _ h => by cases h) .nil) (k3.mono hk), h a c hge⟩
  · cases hm
theorem mk0_le {by' : Nat} {n : Int} {u : Unit} (h : mk0 by' n = some u) : 0 ≤ n ∧ n ≤ 140737488355328 := by
 unfold mk0 at h
 split at h
 ·rename_i hb; omega
 ·cases h
theorem wrap_grow {n : Int} (h0 : 0 ≤ n) (h1 : n ≤ 140737488355328) : IntKind.i64.wrap (n - IntKind.i64.wrap (((0 : Nat) : Int) - ((0 : Nat) : Int))) = n := by
 simp [IntKind.wrap, IntKind.signed, IntKind.bits]; omega
theorem oq_cap {o : Oper} {σ : Env} {ρ : List Res} {κ : Kr} {c : Bool} {x : Operand} {t n cp E : Nat} {a : Option Addr} (ho : o.op = .call { callee := .builtin .cap, args := #[x], argTypes := #[t] }) (hu : und t = some (.slice E)) (hx : Ev σ c x (.slice a n cp)) : OpQ c o σ ρ κ (.int .i64 (cp : Int)) := fun hc w _ => by
 simp [execOp, ho, resolve, invoke, builtin, Builtin.cap_, hx hc, run_underlying (und_ok hu), goInt]
theorem pq_capO {o : Oper} {σ : PEnv} {ρ : List PRes} {c : Bool} {x : Operand} {t E nn cp : Nat} {ad : Option Addr} (ho : o.op = .call { callee := .builtin .cap, args := #[x], argTypes := #[t] }) (hu : und t = some (.slice E)) (hx : PEv σ c x (.v (.slice ad nn cp))) : POpQ c o σ ρ (.v (.int .i64 (cp : Int))) := fun κ σ' ρ' g hs hrr => ⟨_, fun _ => .v rfl, oq_cap ho hu (hs.ve hx)⟩
theorem pq_sliceC {o : Oper} {σ : PEnv} {ρ : List PRes} {c : Bool} {x y : Operand} {t E sz by' nn cp k : Nat} {z : Value} {ad : Option Addr} {kd : IntKind} {i : Int} (ho : o.op = .slice t x none (some y) none) (hu : und t = some (.slice E)) (hi : inf E = some (z, sz, by')) (hx : PEv σ c x (.v (.slice ad nn cp))) (hy : PEv σ c y (.v (.int kd i))) (hik : i = (k : Int)) (hk : k ≤ cp) : POpQ c o σ ρ (.v (.slice ad k cp)) := fun κ σ' ρ' g hs hrr => ⟨_, fun _ => .v rfl, oq_sliceHi ho hu hi (hs.ve hx) (hs.ve hy) (fun _ => hik) (fun _ => hk)⟩
end SX
end Go.Proofs.YtiijbkaiipjpkaaGreatDoor
set_option maxRecDepth 100000
namespace Go.Proofs.YtiijbkaiipjpkaaGreatDoor
namespace SX
open Go
attribute [local irreducible] PWL PWC PWD POpL POpQ PEv PGuardIs PSub PPick PUpd PSplice PFill PLit PF PFV PCall FOk pseqK pblockK pmidK pcutK ploopK pretK Cov PHolds loopF idx app mk gd lb nz ge0 cat sub ssub iand ior ixor ishl ishr imin imax IntKind.wrap Int.tmod Int.tdiv Op.bytesLess strOfNums
def slices_Grow_string_string (p1 : Int) : Option (List ByteArray) := Option.bind (mk0 16 p1) (fun _ => some [])
set_option maxHeartbeats 4000000 in
theorem slices_Grow_string_string_ok {p1 : Int} {r : (List ByteArray)} (h : slices_Grow_string_string p1 = some r) : PCall 142 [.v (.slice none 0 0), pI p1] [] (fun pv ρ' => ∃ a c, pv = .v (.slice a r.length c) ∧ ρ' = [PRes.row a r.length c 9 1 (List.map eS r)]) := by
 unfold slices_Grow_string_string at h
 obtain ⟨u, hu, h⟩ := Option.bind_eq_some_iff.1 h
 obtain rfl := Option.some.inj h
 obtain ⟨hg0, hg1⟩ := mk0_le hu
 have ew : IntKind.i64.wrap (p1 - IntKind.i64.wrap (((0 : Nat) : Int) - ((0 : Nat) : Int))) = p1 := wrap_grow hg0 hg1
 refine penter Tryz.func142 fk142 rfl Tryz.ntmps142 Tryz.results142 rfl ?_
 (repeat refine yaa ?_)
 refine yad [] [4] [] fo0 (by kernel_rfl) ?_
 refine yab ?_
 (repeat refine yaa ?_)
 refine yad [] [5] [(6, pB (decide (p1 < 0)))] fo0 (by kernel_rfl) ?_
 refine yab ?_
 refine yah rfl (fun hc => absurd (of_decide_eq_true hc) (by omega)) (fun hc => ?_)
 refine yaj (yab ?_)
 (repeat refine yaa ?_)
 refine yaf ?_
 refine yam 2 [] [] [(8, pI p1), (9, .v (.slice none 0 0))] fo0 (by kernel_rfl) ?_
 refine pwl_q rfl rfl rfl (pq_capO rfl rfl (.p rfl)) ?_
 refine yas [] [11, 12, 13, 14] [(1, pI (IntKind.i64.wrap (p1 - IntKind.i64.wrap (((0 : Nat) : Int) - ((0 : Nat) : Int)))))] fo0 (by kernel_rfl) ?_
 rw [ew]
 refine yab ?_
 (repeat refine yaa ?_)
 refine yad [] [15] [(16, pB (decide (0 < p1)))] fo0 (by kernel_rfl) ?_
 refine yab ?_
 refine yah rfl (fun hc => ?_) (fun hc => ?_)
 ·refine yaf ?_
  refine yam 2 [] [] [(17, .v (.slice none 0 0)), (18, .v (.slice none 0 0))] fo0 (by kernel_rfl) ?_
  refine pwl_q rfl rfl rfl (pq_capO rfl rfl (.p rfl)) ?_
  refine pwl_q rfl rfl rfl (pq_sliceC rfl rfl rfl (.p rfl) (.p rfl) rfl (Nat.zero_le _)) ?_
  refine yam 1 [] [] [(21, pI p1)] fo0 (by kernel_rfl) ?_
  refine pwl_nilrow 9 1 ?_
  refine yay rfl rfl rfl (pl_growZ rfl rfl rfl rfl rfl rfl rfl rfl (of_decide_eq_true hc) hu (by exact zph) (fun a c hac => ?_))
  refine yam 2 [] [] [(23, .v (.slice none 0 0)), (24, pI 0)] fo0 (by kernel_rfl) ?_
  refine pwl_q rfl rfl rfl (pq_sliceC (k := 0) rfl rfl rfl (.p rfl) (.p rfl) rfl (Nat.zero_le _)) ?_
  refine yas [] [] [(0, .v (.slice a 0 c))] fo0 (by kernel_rfl) ?_
  refine yab ?_
  (repeat refine yaa ?_)
  refine yad [] [26] [(4, .v (.slice a 0 c))] fo0 (by kernel_rfl) ?_
  refine yab (yak ?_)
  exact yal (ybc (yao rfl)) (zsc zph zsn) ⟨_, _, rfl, rfl⟩
 ·refine yaj ?_
  refine yab ?_
  (repeat refine yaa ?_)
  refine yad [] [26] [(4, .v (.slice none 0 0))] fo0 (by kernel_rfl) ?_
  refine yab ?_
  refine pwc_nilrow 9 1 ?_
  refine yak ?_
  exact yal (ybc (yao rfl)) (zsc zph zsn) ⟨_, _, rfl, rfl⟩
def slices_Concat_string_string (p0 : (List (List ByteArray))) : Option (List ByteArray) := Option.bind (loopF (S := Int × Int) (T := (Int)) (fun (v1, v2) => cond (decide (v2 < (p0.length : Int))) (Option.bind (idx p0 v2) (fun m7 => cond (decide ((IntKind.i64.wrap (v1 + (m7.length : Int))) < 0)) (none) (some (.inl ((IntKind.i64.wrap (v1 + (m7.length : Int))), (IntKind.i64.wrap (v2 + 1))))))) (some (.inr v1))) FUEL (0, 0)) (fun v3 => Option.bind (slices_Grow_string_string v3) (fun x9 => Option.bind (loopF (S := (List ByteArray) × Int) (T := ((List ByteArray))) (fun (l14, v17) => cond (decide (v17 < (p0.length : Int))) (Option.bind (idx p0 v17) (fun m25 => Option.bind (app 16 l14 m25) (fun l26 => some (.inl (l26, (IntKind.i64.wrap (v17 + 1))))))) (some (.inr l14))) FUEL (x9, 0)) (fun l21 => some l21)))
set_option maxHeartbeats 4000000 in
theorem slices_Concat_string_string_ok {p0 : (List (List ByteArray))} {r : (List ByteArray)}  (h : slices_Concat_string_string p0 = some r) : PCall 118 [pL (eL eS) p0] [] (fun pv ρ' => ∃ a c, pv = .v (.slice a r.length c) ∧ ρ' = [PRes.row a r.length c 9 1 (List.map eS r)]) := by
 unfold slices_Concat_string_string at h
 refine penter Tryz.func118 fk118 rfl Tryz.ntmps118 Tryz.results118 rfl ?_
 refine yaa ?_
 refine yad [] [2] [] fo0 (by kernel_rfl) ?_
 refine yab (yaa ?_)
 refine yad [] [] [(3, pI 0)] fo0 (by kernel_rfl) ?_
 refine yab (yaa (yaa ?_))
 refine yad [] [] [(9, pL (eL eS) p0), (10, pI (p0.length : Int)), (11, pI 0)] fo0 (by kernel_rfl) ?_
 refine yab ?_
 refine yac h ?_; clear h; intro q5 hq5 h
 refine yaz (Y := (Unit) × (Int)) (fun (_, v3) => [(0, pL (eL eS) p0), (3, pI v3)]) (fun (_, v3) => []) (fun (_, v3) => q5 = v3) ?_ ?_
 ·refine yan ?_
  refine ybd (Y := Unit) (S := Int × Int) _ hq5 (fun _ (v1, v2) => [(0, pL (eL eS) p0), (3, pI v1), (9, pL (eL eS) p0), (10, pI (p0.length : Int)), (11, pI v2)]) (fun _ (v1, v2) => []) () (zhc rfl (zhc rfl (zhc rfl (zhc rfl (zhc rfl zhn))))) zsn ?_
  rintro _ ⟨v1, v2⟩ o τ hb4; (try dsimp only at hb4); dsimp only [pupds]
  refine yaa ?_
  refine yad [] [] [(12, pB (decide (v2 < (p0.length : Int))))] fo0 (by kernel_rfl) ?_
  refine yab (yaa ?_)
  refine yah rfl (fun hc6 => ?_) (fun hc6 => ?_)
  ·replace hb4 := yap hc6 hb4
   refine yaj (yab (yaa (yan (yaa ?_))))
   refine yac hb4 ?_; clear hb4; intro m7 hm7 hb4
   refine yad [] [13, 14] [(5, pL eS m7)] (foix 0 (eL eS) hm7 fo0) (by kernel_rfl) ?_
   refine yab (yaa ?_)
   refine yad [] [15, 16, 17, 18] [(3, pI (IntKind.i64.wrap (v1 + (m7.length : Int))))] fo0 (by kernel_rfl) ?_
   refine yab (yaa ?_)
   refine yad [] [19] [(20, pB (decide ((IntKind.i64.wrap (v1 + (m7.length : Int))) < 0)))] fo0 (by kernel_rfl) ?_
   refine yab ?_
   refine yah rfl (fun hc8 => ?_) (fun hc8 => ?_)
   ·replace hb4 := yap hc8 hb4
    refine yaf ?_
    exact absurd hb4 (by simp)
   ·replace hb4 := yaq hc8 hb4
    refine yaj (yae (yab ?_))
    refine yad [] [22] [(11, pI (IntKind.i64.wrap (v2 + 1)))] fo0 (by kernel_rfl) ?_
    exact pk_loop hb4 () (zhc rfl (zhc rfl (zhc rfl (zhc rfl (zhc rfl zhn))))) zsn
  ·replace hb4 := yaq hc6 hb4
   refine pwc_exit (yav ?_)
   refine yar hb4 (fun ht => ?_)
   refine yau rfl ?_
   exact pk_mid ((), v1) (zhc rfl (zhc rfl zhn)) zsn ht.symm
 ·rintro ⟨_, v3⟩ τ hz; (try dsimp only at hz); subst q5; (try dsimp only at h); dsimp only [pupds]
  refine yaa ?_
  refine yac h ?_; clear h; intro x9 hx9 h
  refine yaf ?_
  refine yam 1 [] [] [(23, pI v3)] fo0 (by kernel_rfl) ?_
  refine yay rfl rfl rfl (pl_callR rfl rfl (ρ1 := []) (List.Perm.refl _) (slices_Grow_string_string_ok hx9) ?_); rintro _ _ ⟨a10, c11, rfl, rfl⟩
  refine yas [] [] [(6, pO a10 x9.length c11)] fo0 (by kernel_rfl) ?_
  refine yab (yaa (yaa ?_))
  refine yad [] [] [(25, pL (eL eS) p0), (26, pI (p0.length : Int)), (27, pI 0)] fo0 (by kernel_rfl) ?_
  refine yab ?_
  refine yac h ?_; clear h; intro q23 hq23 h
  refine yaz (Y := (Option Addr × Nat) × ((List ByteArray))) (fun ((a19, c20), l21) => [(6, pO a19 l21.length c20)]) (fun ((a19, c20), l21) => [PRes.row a19 l21.length c20 9 1 (List.map eS l21)]) (fun ((a19, c20), l21) => q23 = l21) ?_ ?_
  ·refine yan ?_
   refine ybd (Y := Option Addr × Nat) (S := (List ByteArray) × Int) _ hq23 (fun (a15, c16) (l14, v17) => [(6, pO a15 l14.length c16), (25, pL (eL eS) p0), (26, pI (p0.length : Int)), (27, pI v17)]) (fun (a15, c16) (l14, v17) => [PRes.row a15 l14.length c16 9 1 (List.map eS l14)]) (a10, c11) (zhc rfl (zhc rfl (zhc rfl (zhc rfl zhn)))) (zsc zph zsn) ?_
   rintro ⟨a15, c16⟩ ⟨l14, v17⟩ o τ hb22; (try dsimp only at hb22); dsimp only [pupds]
   refine yaa ?_
   refine yad [] [] [(28, pB (decide (v17 < (p0.length : Int))))] fo0 (by kernel_rfl) ?_
   refine yab (yaa ?_)
   refine yah rfl (fun hc24 => ?_) (fun hc24 => ?_)
   ·replace hb22 := yap hc24 hb22
    refine yaj (yab (yaa (yan (yaa ?_))))
    refine yac hb22 ?_; clear hb22; intro m25 hm25 hb22
    refine yad [] [29, 30] [(8, pL eS m25)] (foix 0 (eL eS) hm25 fo0) (by kernel_rfl) ?_
    refine yab ?_
    refine yac hb22 ?_; clear hb22; intro l26 hl26 hb22
    refine yaf ?_
    refine yam 2 [] [] [(31, pO a15 l14.length c16), (32, pL eS m25)] fo0 (by kernel_rfl) ?_
    refine yay rfl rfl rfl (pl_app_s (enc := eS) rfl rfl rfl rfl rfl (fun _ => rfl) rfl rfl rfl (by exact zph) hl26 (fun a27 c28 => ?_))
    refine yas [] [] [(6, pO a27 l26.length c28)] fo0 (by kernel_rfl) ?_
    refine yae (yab ?_)
    refine yad [] [34] [(27, pI (IntKind.i64.wrap (v17 + 1)))] fo0 (by kernel_rfl) ?_
    exact pk_loop hb22 (a27, c28) (zhc rfl (zhc rfl (zhc rfl (zhc rfl zhn)))) (zsc zph zsn)
   ·replace hb22 := yaq hc24 hb22
    refine pwc_exit (yav ?_)
    refine yar hb22 (fun ht => ?_)
    refine yau rfl ?_
    exact pk_mid ((a15, c16), l14) (zhc rfl zhn) (zsc zph zsn) ht.symm
  ·rintro ⟨⟨a19, c20⟩, l21⟩ τ hz; (try dsimp only at hz); subst q23; (try dsimp only at h); dsimp only [pupds]
   refine yaa ?_
   refine yad [] [35] [(2, pO a19 l21.length c20)] fo0 (by kernel_rfl) ?_
   refine yab (yak ?_)
   obtain rfl := Option.some.inj h
   exact yal (ybc (yao rfl)) (zsc zph zsn) ⟨_, _, rfl, rfl⟩
def cmp_Or_int (p0 : (List Int)) : Option Int := Option.bind (loopF (S := Int) (T := (Unit) ⊕ (_)) (fun v1 => cond (decide (v1 < (p0.length : Int))) (Option.bind (idx p0 v1) (fun m5 => cond (m5 != 0) (some (.inr (.inr m5))) (some (.inl (IntKind.i64.wrap (v1 + 1)))))) (some (.inr (.inl ())))) FUEL 0) (fun q => match q with | .inl _ => some 0 | .inr e => some e)
set_option maxHeartbeats 4000000 in
theorem cmp_Or_int_ok {p0 : (List Int)} {r : Int}  (h : cmp_Or_int p0 = some r) : PF 98 [pL eI p0] (pI r) := by
 unfold cmp_Or_int at h
 refine pf_of ?_
 refine penter Tryz.func98 fk98 rfl Tryz.ntmps98 Tryz.results98 rfl ?_
 refine yaa ?_
 refine yad [] [2] [] fo0 (by kernel_rfl) ?_
 refine yab (yaa ?_)
 refine yad [] [] [(3, pI 0)] fo0 (by kernel_rfl) ?_
 refine yab (yaa (yaa ?_))
 refine yad [] [] [(6, pL eI p0), (7, pI (p0.length : Int)), (8, pI 0)] fo0 (by kernel_rfl) ?_
 refine yab ?_
 refine yac h ?_; clear h; intro q3 hq3 h
 refine yaz (Y := (Unit) × (Unit)) (fun (_, _) => [(3, pI 0)]) (fun (_, _) => []) (fun (_, _) => q3 = Sum.inl ()) ?_ ?_
 ·refine yan ?_
  refine ybd (Y := Unit) (S := Int) _ hq3 (fun _ v1 => [(3, pI 0), (6, pL eI p0), (7, pI (p0.length : Int)), (8, pI v1)]) (fun _ v1 => []) () (zhc rfl (zhc rfl (zhc rfl (zhc rfl zhn)))) zsn ?_
  rintro _ v1 o τ hb2; (try dsimp only at hb2); dsimp only [pupds]
  refine yaa ?_
  refine yad [] [] [(9, pB (decide (v1 < (p0.length : Int))))] fo0 (by kernel_rfl) ?_
  refine yab (yaa ?_)
  refine yah rfl (fun hc4 => ?_) (fun hc4 => ?_)
  ·replace hb2 := yap hc4 hb2
   refine yaj (yab (yaa (yan (yaa ?_))))
   refine yac hb2 ?_; clear hb2; intro m5 hm5 hb2
   refine yad [] [10, 11] [(5, pI m5)] (foix 0 eI hm5 fo0) (by kernel_rfl) ?_
   refine yab (yaa ?_)
   refine yad [] [12, 13] [(14, pB (m5 != 0))] fo0 (by kernel_rfl) ?_
   refine yab ?_
   refine yah rfl (fun hc6 => ?_) (fun hc6 => ?_)
   ·replace hb2 := yap hc6 hb2
    refine yaa ?_
    refine yad [] [15] [(2, pI m5)] fo0 (by kernel_rfl) ?_
    refine yab (yak (yag (yai ?_)))
    refine pk_loop_ret hb2 (fun ht => ?_); subst ht
    have h := (show some _ = some _ from h)
    refine yag (yax ?_)
    obtain rfl := Option.some.inj h
    exact yal (ybc (yao rfl)) zsn ⟨rfl, rfl⟩
   ·replace hb2 := yaq hc6 hb2
    refine yaj (yae (yab ?_))
    refine yad [] [16] [(8, pI (IntKind.i64.wrap (v1 + 1)))] fo0 (by kernel_rfl) ?_
    exact pk_loop hb2 () (zhc rfl (zhc rfl (zhc rfl (zhc rfl zhn)))) zsn
  ·replace hb2 := yaq hc4 hb2
   refine pwc_exit (yav ?_)
   refine yar hb2 (fun ht => ?_)
   refine yau rfl ?_
   exact pk_mid ((), ()) (zhc rfl zhn) zsn ht.symm
 ·rintro ⟨_, _⟩ τ hz; (try dsimp only at hz); subst q3; (try dsimp only at h); dsimp only [pupds]
  refine yaa ?_
  refine yad [] [17] [(2, pI 0)] fo0 (by kernel_rfl) ?_
  refine yab (yak ?_)
  obtain rfl := Option.some.inj h
  exact yal (ybc (yao rfl)) zsn ⟨rfl, rfl⟩
def cumulation_compareClaims (p0 : TOriginClaim) (p1 : TOriginClaim) : Option Int := Option.bind (cmp_Compare_int p0.Product p1.Product) (fun x3 => Option.bind (cmp_Compare_int p0.Agreement p1.Agreement) (fun x4 => Option.bind (cmp_Or_int [x3, x4]) (fun x6 => some x6)))
set_option maxHeartbeats 4000000 in
theorem cumulation_compareClaims_ok {p0 : TOriginClaim} {p1 : TOriginClaim} {r : Int}  (h : cumulation_compareClaims p0 p1 = some r) : PF 67 [.agg [pI p0.Product, pI p0.Agreement], .agg [pI p1.Product, pI p1.Agreement]] (pI r) := by
 unfold cumulation_compareClaims at h
 refine pf_of ?_
 refine penter Tryz.func67 fk67 rfl Tryz.ntmps67 Tryz.results67 rfl ?_
 refine yaa (yaf ?_)
 refine yay rfl rfl rfl (pl_box (cs := [pI p0.Product, pI p0.Agreement]) rfl rfl (fun b1 => ?_))
 refine yay rfl rfl rfl (pl_box (cs := [pI p1.Product, pI p1.Agreement]) rfl rfl (fun b2 => ?_))
 refine yas [] [4] [] fo0 (by kernel_rfl) ?_
 refine yab (yaa ?_)
 refine pwc_draw (ρd := []) [(0, 0), (1, 0), (2, 0), (3, 0), (5, 0), (6, 0), (7, 0), (8, 0), (4, 1), (9, 1), (10, 1), (11, 1), (12, 0)] _ (List.Perm.refl _) (by kernel_rfl) rfl ?_
 refine yac h ?_; clear h; intro x3 hx3 h
 refine yac h ?_; clear h; intro x4 hx4 h
 refine pwd_run 10 [1, 0, 1, 0] [5, 6, 7, 8, 10, 11, 12, 13] [(9, pI x3), (14, pI x4)] (focl 8 (cmp_Compare_int_ok hx3) (focl 9 (cmp_Compare_int_ok hx4) fo0)) (by kernel_rfl) ?_
 refine pwd_l rfl rfl rfl (pl_fz (pl_lit rfl rfl rfl rfl rfl (zic rfl (zic rfl zin)) rfl rfl rfl rfl (fun b5 => ⟨_, _, _, _, _, _, _, rfl, by (repeat (first | exact zph | apply zpt)), ?_⟩)))
 refine yac h ?_; clear h; intro x6 hx6 h
 refine pwd_run 2 [] [16] [(4, pI x6)] (focl 0 (cmp_Or_int_ok hx6) fo0) (by kernel_rfl) ?_
 refine pwd_nil (yab (yak ?_))
 obtain rfl := Option.some.inj h
 exact yal (ybc (yao rfl)) zsn ⟨rfl, rfl⟩
end SX
end Go.Proofs.YtiijbkaiipjpkaaGreatDoor
set_option maxRecDepth 100000
namespace Go.Proofs.YtiijbkaiipjpkaaGreatDoor
namespace SX
open Go
attribute [local irreducible] PWL PWC PWD POpL POpQ PEv PGuardIs PSub PPick PUpd PSplice PFill PLit PF PFV PCall FOk pseqK pblockK pmidK pcutK ploopK pretK Cov PHolds loopF idx app mk gd lb nz ge0 cat sub ssub iand ior ixor ishl ishr imin imax IntKind.wrap Int.tmod Int.tdiv Op.bytesLess strOfNums
def slices_Compact_api_OriginClaim_api_OriginClaim (p0 : (List TOriginClaim)) : Option (List TOriginClaim) := cond (decide (((p0.length : Nat) : Int) < 2)) (some p0) (Option.bind (loopF (S := Int) (T := (Unit) ⊕ (_)) (fun v2 => cond (decide (v2 < ((p0.length : Nat) : Int))) (Option.bind (idx p0 v2) (fun m7 => Option.bind (idx p0 (IntKind.i64.wrap (v2 - 1))) (fun m8 => cond (TOriginClaim.eqb m7 m8) (Option.bind (sub p0 v2 (p0.length : Int)) (fun l10 => Option.bind (loopF (S := (List TOriginClaim) × Int × Int) (T := ((List TOriginClaim) × Int)) (fun (l12, v13, v14) => cond (decide (v14 < ((p0.length - v2.toNat : Nat) : Int))) (Option.bind (Option.bind (ge0 v14) (fun u25 => Option.bind (idx l12 (v2 + v14)) (fun m26 => Option.bind (ge0 (IntKind.i64.wrap (v14 - 1))) (fun u27 => Option.bind (idx l12 (v2 + (IntKind.i64.wrap (v14 - 1)))) (fun m28 => cond (!(TOriginClaim.eqb m26 m28)) (Option.bind (ge0 v14) (fun u30 => Option.bind (idx l12 (v2 + v14)) (fun m31 => Option.bind (idx l12 v13) (fun m32 => some ((l12.set v13.toNat m31), (IntKind.i64.wrap (v13 + 1))))))) (some (l12, v13))))))) (fun (l22, v23) => some (.inl (l22, v23, (IntKind.i64.wrap (v14 + 1)))))) (some (.inr (l12, v13)))) FUEL (p0, v2, 1)) (fun (l16, v17) => Option.bind (sub l16 v17 (l16.length : Int)) (fun l34 => Option.bind (sub (List.take v17.toNat l16 ++ List.replicate (p0.length - v17.toNat) (⟨(0 : Int), (0 : Int)⟩ : TOriginClaim)) 0 v17) (fun l35 => some (.inr (.inr l35))))))) (some (.inl (IntKind.i64.wrap (v2 + 1))))))) (some (.inr (.inl ())))) FUEL 1) (fun q => match q with | .inl _ => some p0 | .inr e => some e))
set_option maxHeartbeats 4000000 in
theorem slices_Compact_api_OriginClaim_api_OriginClaim_ok {p0 : (List TOriginClaim)} {a_0 : Option Addr}  {n_0 : Nat}  {c_0 : Nat} {r : (List TOriginClaim)}  (h : slices_Compact_api_OriginClaim_api_OriginClaim p0 = some r) : PCall 68 [.v (.slice a_0 n_0 c_0)] [PRes.row a_0 n_0 c_0 54 2 (List.map TOriginClaim.enc p0)] (fun pv ρ' => ∃ a c, pv = .v (.slice a r.length c) ∧ ρ' = [PRes.row a r.length c 54 2 (List.map TOriginClaim.enc r)]) := by
 unfold slices_Compact_api_OriginClaim_api_OriginClaim at h
 refine penter Tryz.func68 fk68 rfl Tryz.ntmps68 Tryz.results68 rfl ?_
 refine pwc_rowfact (enc := TOriginClaim.enc) (xs := p0) (a := a_0) zm0 (fun hl ha => ?_); subst hl; clear ha
 refine yaa ?_
 refine yad [] [2] [] fo0 (by kernel_rfl) ?_
 refine yab (yaa (yaa ?_))
 refine yad [] [6, 7] [(8, pB (decide (((p0.length : Nat) : Int) < 2)))] fo0 (by kernel_rfl) ?_
 refine yab ?_
 refine yah rfl (fun hc1 => ?_) (fun hc1 => ?_)
 ·replace h := yap hc1 h
  refine yaa ?_
  refine yad [] [9] [(2, pO a_0 p0.length c_0)] fo0 (by kernel_rfl) ?_
  refine yab (yak (yai ?_))
  obtain rfl := Option.some.inj h
  exact yal (ybc (yao rfl)) (zsc zph zsn) ⟨_, _, rfl, rfl⟩
 ·replace h := yaq hc1 h
  refine yaj (yab (yaa (yaa ?_)))
  refine yad [] [] [(3, pI 1)] fo0 (by kernel_rfl) ?_
  refine yab ?_
  refine yac h ?_; clear h; intro q5 hq5 h
  refine yaz (Y := (Unit) × (Unit)) (fun (_, _) => [(0, pO a_0 p0.length c_0)]) (fun (_, _) => [PRes.row a_0 p0.length c_0 54 2 (List.map TOriginClaim.enc p0)]) (fun (_, _) => q5 = Sum.inl ()) ?_ ?_
  ·refine yan ?_
   refine ybd (Y := Unit) (S := Int) _ hq5 (fun _ v2 => [(0, pO a_0 p0.length c_0), (3, pI v2)]) (fun _ v2 => [PRes.row a_0 p0.length c_0 54 2 (List.map TOriginClaim.enc p0)]) () (zhc rfl (zhc rfl zhn)) (zsc zph zsn) ?_
   rintro _ v2 o τ hb4; (try dsimp only at hb4); dsimp only [pupds]
   refine yaa (yaa ?_)
   refine yad [] [10, 11, 12] [(13, pB (decide (v2 < ((p0.length : Nat) : Int))))] fo0 (by kernel_rfl) ?_
   refine yab ?_
   refine yah rfl (fun hc6 => ?_) (fun hc6 => ?_)
   ·replace hb4 := yap hc6 hb4
    refine yaj (yab (yaa (yan (yaa ?_))))
    refine pwc_draw (ρd := []) [(0, 0), (1, 0), (2, 0), (3, 0), (4, 0), (5, 0), (6, 0), (7, 0), (8, 0), (9, 0)] _ (List.Perm.refl _) (by kernel_rfl) rfl ?_
    refine yac hb4 ?_; clear hb4; intro m7 hm7 hb4
    refine pwd_run 2 [] [] [(16, pO a_0 p0.length c_0), (17, pI v2)] fo0 (by kernel_rfl) ?_
    refine pwd_q rfl rfl rfl (pq_indexO (enc := TOriginClaim.enc) (xs := p0) rfl rfl rfl (.p rfl) zm0 (.p rfl) (fun _ => hm7)) ?_
    refine pwd_q rfl rfl rfl (pq_load_o (p := .agg [pI m7.Product, pI m7.Agreement]) (enc := TOriginClaim.enc) (xs := p0) (a := a_0) v2 0 m7 rfl (.p rfl) rfl zm0 (fun _ => hm7) rfl) ?_
    refine yac hb4 ?_; clear hb4; intro m8 hm8 hb4
    refine pwd_run 3 [] [21] [(20, pO a_0 p0.length c_0), (22, pI (IntKind.i64.wrap (v2 - 1)))] fo0 (by kernel_rfl) ?_
    refine pwd_q rfl rfl rfl (pq_indexO (enc := TOriginClaim.enc) (xs := p0) rfl rfl rfl (.p rfl) zm0 (.p rfl) (fun _ => hm8)) ?_
    refine pwd_q rfl rfl rfl (pq_load_o (p := .agg [pI m8.Product, pI m8.Agreement]) (enc := TOriginClaim.enc) (xs := p0) (a := a_0) (IntKind.i64.wrap (v2 - 1)) 0 m8 rfl (.p rfl) rfl zm0 (fun _ => hm8) rfl) ?_
    refine pwd_run 1 [] [] [(25, pB (TOriginClaim.eqb m7 m8))] (foeq 0 TOriginClaim.eqok54 fo0) (by kernel_rfl) ?_
    refine pwd_nil (yab ?_)
    refine yah rfl (fun hc9 => ?_) (fun hc9 => ?_)
    ·replace hb4 := yap hc9 hb4
     refine yaa ?_
     refine yac hb4 ?_; clear hb4; intro l10 hl10 hb4
     refine yaf ?_
     refine yam 2 [] [] [(26, pO a_0 p0.length c_0), (27, pI v2)] fo0 (by kernel_rfl) ?_
     refine pwl_q rfl rfl rfl (pq_sliceOL (enc := TOriginClaim.enc) (xs := p0) rfl rfl rfl rfl rfl zm0 hl10) ?_
     refine yas [] [] [(4, pQ a_0 p0.length c_0 v2.toNat 2)] fo0 (by kernel_rfl) ?_
     refine yab (yaa (yaa ?_))
     refine yad [] [] [(5, pI 1)] fo0 (by kernel_rfl) ?_
     refine yab ?_
     refine yac hb4 ?_; clear hb4; intro q19 hq19 hb4
     refine yaz (Y := (Unit) × ((List TOriginClaim) × Int)) (fun (_, (l16, v17)) => [(0, pO a_0 p0.length c_0), (3, pI v17)]) (fun (_, (l16, v17)) => [PRes.row a_0 p0.length c_0 54 2 (List.map TOriginClaim.enc l16)]) (fun (_, (l16, v17)) => q19 = (l16, v17)) ?_ ?_
     ·refine yan ?_
      refine ybd (Y := Unit) (S := (List TOriginClaim) × Int × Int) _ hq19 (fun _ (l12, v13, v14) => [(0, pO a_0 p0.length c_0), (3, pI v13), (4, pQ a_0 p0.length c_0 v2.toNat 2), (5, pI v14)]) (fun _ (l12, v13, v14) => [PRes.row a_0 p0.length c_0 54 2 (List.map TOriginClaim.enc l12)]) () (zhc rfl (zhc rfl (zhc rfl (zhc rfl zhn)))) (zsc zph zsn) ?_
      rintro _ ⟨l12, v13, v14⟩ o τ hb18; (try dsimp only at hb18); dsimp only [pupds]
      refine yaa (yaa ?_)
      refine yad [] [29, 30, 31] [(32, pB (decide (v14 < ((p0.length - v2.toNat : Nat) : Int))))] fo0 (by kernel_rfl) ?_
      refine yab ?_
      refine yah rfl (fun hc20 => ?_) (fun hc20 => ?_)
      ·replace hb18 := yap hc20 hb18
       refine yaj (yab (yaa ?_))
       refine yac hb18 ?_; clear hb18; intro q24 hq24 hb18
       refine yaz (Y := (Unit) × ((List TOriginClaim) × Int)) (fun (_, (l22, v23)) => [(0, pO a_0 p0.length c_0), (3, pI v23), (4, pQ a_0 p0.length c_0 v2.toNat 2), (5, pI v14)]) (fun (_, (l22, v23)) => [PRes.row a_0 p0.length c_0 54 2 (List.map TOriginClaim.enc l22)]) (fun (_, (l22, v23)) => q24 = (l22, v23)) ?_ ?_
       ·skip
        refine yan (yaa ?_)
        refine pwc_draw (ρd := []) [(0, 0), (1, 0), (2, 0), (3, 0), (4, 0), (5, 0), (6, 0), (7, 0), (8, 0), (9, 0)] _ (List.Perm.refl _) (by kernel_rfl) rfl ?_
        refine yac hq24 ?_; clear hq24; intro u25 hu25 hq24
        refine yac hq24 ?_; clear hq24; intro m26 hm26 hq24
        refine pwd_run 2 [] [] [(35, pQ a_0 p0.length c_0 v2.toNat 2), (36, pI v14)] fo0 (by kernel_rfl) ?_
        refine pwd_q rfl rfl rfl (pq_indexOL (enc := TOriginClaim.enc) (xs := l12) (i := v2) rfl rfl rfl rfl rfl (sub_some hl10).1.1 (ge0_some hu25) zm0 hm26) ?_
        refine pwd_q rfl rfl rfl (pq_load_o (p := .agg [pI m26.Product, pI m26.Agreement]) (enc := TOriginClaim.enc) (xs := l12) (a := a_0) (v2 + v14) 0 m26 rfl (.p rfl) rfl zm0 (fun _ => hm26) rfl) ?_
        refine yac hq24 ?_; clear hq24; intro u27 hu27 hq24
        refine yac hq24 ?_; clear hq24; intro m28 hm28 hq24
        refine pwd_run 3 [] [40] [(39, pQ a_0 p0.length c_0 v2.toNat 2), (41, pI (IntKind.i64.wrap (v14 - 1)))] fo0 (by kernel_rfl) ?_
        refine pwd_q rfl rfl rfl (pq_indexOL (enc := TOriginClaim.enc) (xs := l12) (i := v2) rfl rfl rfl rfl rfl (sub_some hl10).1.1 (ge0_some hu27) zm0 hm28) ?_
        refine pwd_q rfl rfl rfl (pq_load_o (p := .agg [pI m28.Product, pI m28.Agreement]) (enc := TOriginClaim.enc) (xs := l12) (a := a_0) (v2 + (IntKind.i64.wrap (v14 - 1))) 0 m28 rfl (.p rfl) rfl zm0 (fun _ => hm28) rfl) ?_
        refine pwd_run 1 [] [] [(44, pB (!(TOriginClaim.eqb m26 m28)))] (foeq 0 TOriginClaim.eqok54 fo0) (by kernel_rfl) ?_
        refine pwd_nil (yab ?_)
        refine yah rfl (fun hc29 => ?_) (fun hc29 => ?_)
        ·replace hq24 := yap hc29 hq24
         refine yaa ?_
         refine yac hq24 ?_; clear hq24; intro u30 hu30 hq24
         refine yac hq24 ?_; clear hq24; intro m31 hm31 hq24
         refine yaf ?_
         refine yam 4 [] [] [(45, pO a_0 p0.length c_0), (46, pI v13), (47, pQ a_0 p0.length c_0 v2.toNat 2), (48, pI v14)] fo0 (by kernel_rfl) ?_
         refine pwl_q rfl rfl rfl (pq_indexOL (enc := TOriginClaim.enc) (xs := l12) (i := v2) rfl rfl rfl rfl rfl (sub_some hl10).1.1 (ge0_some hu30) zm0 hm31) ?_
         refine pwl_q rfl rfl rfl (pq_load_o (p := .agg [pI m31.Product, pI m31.Agreement]) (enc := TOriginClaim.enc) (xs := l12) (a := a_0) (v2 + v14) 0 m31 rfl (.p rfl) rfl zm0 (fun _ => hm31) rfl) ?_
         refine yac hq24 ?_; clear hq24; intro m32 hm32 hq24
         refine pwl_q rfl rfl rfl (pq_indexO (enc := TOriginClaim.enc) (xs := l12) rfl rfl rfl (.p rfl) zm0 (.p rfl) (fun _ => hm32)) ?_
         refine pwl_l0 rfl rfl (pl_store_o (enc := TOriginClaim.enc) (xs := l12) (a := a_0) v13 0 m32 m31 rfl rfl rfl rfl (fun _ => rfl) rfl rfl hm32 (zlc (zlc zln)) zuh ?_)
         refine yba (yab ?_)
         refine yad [] [52, 53] [(3, pI (IntKind.i64.wrap (v13 + 1)))] fo0 (by kernel_rfl) ?_
         refine yae ?_
         obtain rfl := Option.some.inj hq24
         exact pk_mid ((), ((l12.set v13.toNat m31), (IntKind.i64.wrap (v13 + 1)))) (zhc rfl (zhc rfl (zhc rfl (zhc rfl zhn)))) (zsc zph zsn) rfl
        ·replace hq24 := yaq hc29 hq24
         refine yaj (yae ?_)
         obtain rfl := Option.some.inj hq24
         exact pk_mid ((), (l12, v13)) (zhc rfl (zhc rfl (zhc rfl (zhc rfl zhn)))) (zsc zph zsn) rfl
       ·rintro ⟨_, ⟨l22, v23⟩⟩ τ hz; (try dsimp only at hz); subst q24; (try dsimp only at hb18); dsimp only [pupds]
        refine yad [] [33, 34] [(5, pI (IntKind.i64.wrap (v14 + 1)))] fo0 (by kernel_rfl) ?_
        exact pk_loop hb18 () (zhc rfl (zhc rfl (zhc rfl (zhc rfl zhn)))) (zsc zph zsn)
      ·replace hb18 := yaq hc20 hb18
       refine pwc_exit (yav ?_)
       refine yar hb18 (fun ht => ?_)
       refine yau rfl ?_
       exact pk_mid ((), (l12, v13)) (zhc rfl (zhc rfl zhn)) (zsc zph zsn) ht.symm
     ·rintro ⟨_, ⟨l16, v17⟩⟩ τ hz; (try dsimp only at hz); subst q19; (try dsimp only at hb4); dsimp only [pupds]
      refine yaa ?_
      refine yac hb4 ?_; clear hb4; intro l34 hl34 hb4
      refine yaf ?_
      refine yam 2 [] [] [(54, pO a_0 p0.length c_0), (55, pI v17)] fo0 (by kernel_rfl) ?_
      refine pwl_q rfl rfl rfl (pq_sliceOL (enc := TOriginClaim.enc) (xs := l16) rfl rfl rfl rfl rfl zm0 hl34) ?_
      refine pwl_l0 rfl rfl (pl_clearO (enc := TOriginClaim.enc) (xs := l16) (z0 := (⟨(0 : Int), (0 : Int)⟩ : TOriginClaim)) (i := v17) rfl rfl rfl rfl hl34 rfl rfl rfl rfl zuh ?_)
      refine yba (yab (yaa ?_))
      refine yac hb4 ?_; clear hb4; intro l35 hl35 hb4
      refine yaf ?_
      refine yam 2 [] [] [(57, pO a_0 p0.length c_0), (58, pI v17)] fo0 (by kernel_rfl) ?_
      refine yay rfl rfl rfl (pl_sliceO (enc := TOriginClaim.enc) (xs := (List.take v17.toNat l16 ++ List.replicate (p0.length - v17.toNat) (⟨(0 : Int), (0 : Int)⟩ : TOriginClaim))) rfl rfl rfl rfl rfl (by exact zph) hl35 ?_)
      refine yas [] [] [(2, pO a_0 l35.length c_0)] fo0 (by kernel_rfl) ?_
      refine yab (yak (yag (yai ?_)))
      refine pk_loop_ret hb4 (fun ht => ?_); subst ht
      have h := (show some _ = some _ from h)
      refine yag (yax ?_)
      obtain rfl := Option.some.inj h
      exact yal (ybc (yao rfl)) (zsc zph zsn) ⟨_, _, rfl, rfl⟩
    ·replace hb4 := yaq hc9 hb4
     refine yaj (yae (yab ?_))
     refine yad [] [14, 15] [(3, pI (IntKind.i64.wrap (v2 + 1)))] fo0 (by kernel_rfl) ?_
     exact pk_loop hb4 () (zhc rfl (zhc rfl zhn)) (zsc zph zsn)
   ·replace hb4 := yaq hc6 hb4
    refine pwc_exit (yav ?_)
    refine yar hb4 (fun ht => ?_)
    refine yau rfl ?_
    exact pk_mid ((), ()) (zhc rfl zhn) (zsc zph zsn) ht.symm
  ·rintro ⟨_, _⟩ τ hz; (try dsimp only at hz); subst q5; (try dsimp only at h); dsimp only [pupds]
   refine yaa ?_
   refine yad [] [60] [(2, pO a_0 p0.length c_0)] fo0 (by kernel_rfl) ?_
   refine yab (yak ?_)
   obtain rfl := Option.some.inj h
   exact yal (ybc (yao rfl)) (zsc zph zsn) ⟨_, _, rfl, rfl⟩
def slices_Compact_string_string (p0 : (List ByteArray)) : Option (List ByteArray) := cond (decide (((p0.length : Nat) : Int) < 2)) (some p0) (Option.bind (loopF (S := Int) (T := (Unit) ⊕ (_)) (fun v2 => cond (decide (v2 < ((p0.length : Nat) : Int))) (Option.bind (idx p0 v2) (fun m7 => Option.bind (idx p0 (IntKind.i64.wrap (v2 - 1))) (fun m8 => cond (decide (m7 = m8)) (Option.bind (sub p0 v2 (p0.length : Int)) (fun l10 => Option.bind (loopF (S := (List ByteArray) × Int × Int) (T := ((List ByteArray) × Int)) (fun (l12, v13, v14) => cond (decide (v14 < ((p0.length - v2.toNat : Nat) : Int))) (Option.bind (Option.bind (ge0 v14) (fun u25 => Option.bind (idx l12 (v2 + v14)) (fun m26 => Option.bind (ge0 (IntKind.i64.wrap (v14 - 1))) (fun u27 => Option.bind (idx l12 (v2 + (IntKind.i64.wrap (v14 - 1)))) (fun m28 => cond (!decide (m26 = m28)) (Option.bind (ge0 v14) (fun u30 => Option.bind (idx l12 (v2 + v14)) (fun m31 => Option.bind (idx l12 v13) (fun m32 => some ((l12.set v13.toNat m31), (IntKind.i64.wrap (v13 + 1))))))) (some (l12, v13))))))) (fun (l22, v23) => some (.inl (l22, v23, (IntKind.i64.wrap (v14 + 1)))))) (some (.inr (l12, v13)))) FUEL (p0, v2, 1)) (fun (l16, v17) => Option.bind (sub l16 v17 (l16.length : Int)) (fun l34 => Option.bind (sub (List.take v17.toNat l16 ++ List.replicate (p0.length - v17.toNat) ByteArray.empty) 0 v17) (fun l35 => some (.inr (.inr l35))))))) (some (.inl (IntKind.i64.wrap (v2 + 1))))))) (some (.inr (.inl ())))) FUEL 1) (fun q => match q with | .inl _ => some p0 | .inr e => some e))
set_option maxHeartbeats 4000000 in
theorem slices_Compact_string_string_ok {p0 : (List ByteArray)} {a_0 : Option Addr}  {n_0 : Nat}  {c_0 : Nat} {r : (List ByteArray)}  (h : slices_Compact_string_string p0 = some r) : PCall 120 [.v (.slice a_0 n_0 c_0)] [PRes.row a_0 n_0 c_0 9 1 (List.map eS p0)] (fun pv ρ' => ∃ a c, pv = .v (.slice a r.length c) ∧ ρ' = [PRes.row a r.length c 9 1 (List.map eS r)]) := by
 unfold slices_Compact_string_string at h
 refine penter Tryz.func120 fk120 rfl Tryz.ntmps120 Tryz.results120 rfl ?_
 refine pwc_rowfact (enc := eS) (xs := p0) (a := a_0) zm0 (fun hl ha => ?_); subst hl; clear ha
 refine yaa ?_
 refine yad [] [2] [] fo0 (by kernel_rfl) ?_
 refine yab (yaa (yaa ?_))
 refine yad [] [6, 7] [(8, pB (decide (((p0.length : Nat) : Int) < 2)))] fo0 (by kernel_rfl) ?_
 refine yab ?_
 refine yah rfl (fun hc1 => ?_) (fun hc1 => ?_)
 ·replace h := yap hc1 h
  refine yaa ?_
  refine yad [] [9] [(2, pO a_0 p0.length c_0)] fo0 (by kernel_rfl) ?_
  refine yab (yak (yai ?_))
  obtain rfl := Option.some.inj h
  exact yal (ybc (yao rfl)) (zsc zph zsn) ⟨_, _, rfl, rfl⟩
 ·replace h := yaq hc1 h
  refine yaj (yab (yaa (yaa ?_)))
  refine yad [] [] [(3, pI 1)] fo0 (by kernel_rfl) ?_
  refine yab ?_
  refine yac h ?_; clear h; intro q5 hq5 h
  refine yaz (Y := (Unit) × (Unit)) (fun (_, _) => [(0, pO a_0 p0.length c_0)]) (fun (_, _) => [PRes.row a_0 p0.length c_0 9 1 (List.map eS p0)]) (fun (_, _) => q5 = Sum.inl ()) ?_ ?_
  ·refine yan ?_
   refine ybd (Y := Unit) (S := Int) _ hq5 (fun _ v2 => [(0, pO a_0 p0.length c_0), (3, pI v2)]) (fun _ v2 => [PRes.row a_0 p0.length c_0 9 1 (List.map eS p0)]) () (zhc rfl (zhc rfl zhn)) (zsc zph zsn) ?_
   rintro _ v2 o τ hb4; (try dsimp only at hb4); dsimp only [pupds]
   refine yaa (yaa ?_)
   refine yad [] [10, 11, 12] [(13, pB (decide (v2 < ((p0.length : Nat) : Int))))] fo0 (by kernel_rfl) ?_
   refine yab ?_
   refine yah rfl (fun hc6 => ?_) (fun hc6 => ?_)
   ·replace hb4 := yap hc6 hb4
    refine yaj (yab (yaa (yan (yaa ?_))))
    refine pwc_draw (ρd := []) [(0, 0), (1, 0), (2, 0), (3, 0), (4, 0), (5, 0), (6, 0), (7, 0), (8, 0), (9, 0)] _ (List.Perm.refl _) (by kernel_rfl) rfl ?_
    refine yac hb4 ?_; clear hb4; intro m7 hm7 hb4
    refine pwd_run 2 [] [] [(16, pO a_0 p0.length c_0), (17, pI v2)] fo0 (by kernel_rfl) ?_
    refine pwd_q rfl rfl rfl (pq_indexO (enc := eS) (xs := p0) rfl rfl rfl (.p rfl) zm0 (.p rfl) (fun _ => hm7)) ?_
    refine pwd_q rfl rfl rfl (pq_load_o (p := pS m7) (enc := eS) (xs := p0) (a := a_0) v2 0 m7 rfl (.p rfl) rfl zm0 (fun _ => hm7) rfl) ?_
    refine yac hb4 ?_; clear hb4; intro m8 hm8 hb4
    refine pwd_run 3 [] [21] [(20, pO a_0 p0.length c_0), (22, pI (IntKind.i64.wrap (v2 - 1)))] fo0 (by kernel_rfl) ?_
    refine pwd_q rfl rfl rfl (pq_indexO (enc := eS) (xs := p0) rfl rfl rfl (.p rfl) zm0 (.p rfl) (fun _ => hm8)) ?_
    refine pwd_q rfl rfl rfl (pq_load_o (p := pS m8) (enc := eS) (xs := p0) (a := a_0) (IntKind.i64.wrap (v2 - 1)) 0 m8 rfl (.p rfl) rfl zm0 (fun _ => hm8) rfl) ?_
    refine pwd_run 1 [] [] [(25, pB (decide (m7 = m8)))] fo0 (by kernel_rfl) ?_
    refine pwd_nil (yab ?_)
    refine yah rfl (fun hc9 => ?_) (fun hc9 => ?_)
    ·replace hb4 := yap hc9 hb4
     refine yaa ?_
     refine yac hb4 ?_; clear hb4; intro l10 hl10 hb4
     refine yaf ?_
     refine yam 2 [] [] [(26, pO a_0 p0.length c_0), (27, pI v2)] fo0 (by kernel_rfl) ?_
     refine pwl_q rfl rfl rfl (pq_sliceOL (enc := eS) (xs := p0) rfl rfl rfl rfl rfl zm0 hl10) ?_
     refine yas [] [] [(4, pQ a_0 p0.length c_0 v2.toNat 1)] fo0 (by kernel_rfl) ?_
     refine yab (yaa (yaa ?_))
     refine yad [] [] [(5, pI 1)] fo0 (by kernel_rfl) ?_
     refine yab ?_
     refine yac hb4 ?_; clear hb4; intro q19 hq19 hb4
     refine yaz (Y := (Unit) × ((List ByteArray) × Int)) (fun (_, (l16, v17)) => [(0, pO a_0 p0.length c_0), (3, pI v17)]) (fun (_, (l16, v17)) => [PRes.row a_0 p0.length c_0 9 1 (List.map eS l16)]) (fun (_, (l16, v17)) => q19 = (l16, v17)) ?_ ?_
     ·refine yan ?_
      refine ybd (Y := Unit) (S := (List ByteArray) × Int × Int) _ hq19 (fun _ (l12, v13, v14) => [(0, pO a_0 p0.length c_0), (3, pI v13), (4, pQ a_0 p0.length c_0 v2.toNat 1), (5, pI v14)]) (fun _ (l12, v13, v14) => [PRes.row a_0 p0.length c_0 9 1 (List.map eS l12)]) () (zhc rfl (zhc rfl (zhc rfl (zhc rfl zhn)))) (zsc zph zsn) ?_
      rintro _ ⟨l12, v13, v14⟩ o τ hb18; (try dsimp only at hb18); dsimp only [pupds]
      refine yaa (yaa ?_)
      refine yad [] [29, 30, 31] [(32, pB (decide (v14 < ((p0.length - v2.toNat : Nat) : Int))))] fo0 (by kernel_rfl) ?_
      refine yab ?_
      refine yah rfl (fun hc20 => ?_) (fun hc20 => ?_)
      ·replace hb18 := yap hc20 hb18
       refine yaj (yab (yaa ?_))
       refine yac hb18 ?_; clear hb18; intro q24 hq24 hb18
       refine yaz (Y := (Unit) × ((List ByteArray) × Int)) (fun (_, (l22, v23)) => [(0, pO a_0 p0.length c_0), (3, pI v23), (4, pQ a_0 p0.length c_0 v2.toNat 1), (5, pI v14)]) (fun (_, (l22, v23)) => [PRes.row a_0 p0.length c_0 9 1 (List.map eS l22)]) (fun (_, (l22, v23)) => q24 = (l22, v23)) ?_ ?_
       ·skip
        refine yan (yaa ?_)
        refine pwc_draw (ρd := []) [(0, 0), (1, 0), (2, 0), (3, 0), (4, 0), (5, 0), (6, 0), (7, 0), (8, 0), (9, 0)] _ (List.Perm.refl _) (by kernel_rfl) rfl ?_
        refine yac hq24 ?_; clear hq24; intro u25 hu25 hq24
        refine yac hq24 ?_; clear hq24; intro m26 hm26 hq24
        refine pwd_run 2 [] [] [(35, pQ a_0 p0.length c_0 v2.toNat 1), (36, pI v14)] fo0 (by kernel_rfl) ?_
        refine pwd_q rfl rfl rfl (pq_indexOL (enc := eS) (xs := l12) (i := v2) rfl rfl rfl rfl rfl (sub_some hl10).1.1 (ge0_some hu25) zm0 hm26) ?_
        refine pwd_q rfl rfl rfl (pq_load_o (p := pS m26) (enc := eS) (xs := l12) (a := a_0) (v2 + v14) 0 m26 rfl (.p rfl) rfl zm0 (fun _ => hm26) rfl) ?_
        refine yac hq24 ?_; clear hq24; intro u27 hu27 hq24
        refine yac hq24 ?_; clear hq24; intro m28 hm28 hq24
        refine pwd_run 3 [] [40] [(39, pQ a_0 p0.length c_0 v2.toNat 1), (41, pI (IntKind.i64.wrap (v14 - 1)))] fo0 (by kernel_rfl) ?_
        refine pwd_q rfl rfl rfl (pq_indexOL (enc := eS) (xs := l12) (i := v2) rfl rfl rfl rfl rfl (sub_some hl10).1.1 (ge0_some hu27) zm0 hm28) ?_
        refine pwd_q rfl rfl rfl (pq_load_o (p := pS m28) (enc := eS) (xs := l12) (a := a_0) (v2 + (IntKind.i64.wrap (v14 - 1))) 0 m28 rfl (.p rfl) rfl zm0 (fun _ => hm28) rfl) ?_
        refine pwd_run 1 [] [] [(44, pB (!decide (m26 = m28)))] fo0 (by kernel_rfl) ?_
        refine pwd_nil (yab ?_)
        refine yah rfl (fun hc29 => ?_) (fun hc29 => ?_)
        ·replace hq24 := yap hc29 hq24
         refine yaa ?_
         refine yac hq24 ?_; clear hq24; intro u30 hu30 hq24
         refine yac hq24 ?_; clear hq24; intro m31 hm31 hq24
         refine yaf ?_
         refine yam 4 [] [] [(45, pO a_0 p0.length c_0), (46, pI v13), (47, pQ a_0 p0.length c_0 v2.toNat 1), (48, pI v14)] fo0 (by kernel_rfl) ?_
         refine pwl_q rfl rfl rfl (pq_indexOL (enc := eS) (xs := l12) (i := v2) rfl rfl rfl rfl rfl (sub_some hl10).1.1 (ge0_some hu30) zm0 hm31) ?_
         refine pwl_q rfl rfl rfl (pq_load_o (p := pS m31) (enc := eS) (xs := l12) (a := a_0) (v2 + v14) 0 m31 rfl (.p rfl) rfl zm0 (fun _ => hm31) rfl) ?_
         refine yac hq24 ?_; clear hq24; intro m32 hm32 hq24
         refine pwl_q rfl rfl rfl (pq_indexO (enc := eS) (xs := l12) rfl rfl rfl (.p rfl) zm0 (.p rfl) (fun _ => hm32)) ?_
         refine pwl_l0 rfl rfl (pl_store_o (enc := eS) (xs := l12) (a := a_0) v13 0 m32 m31 rfl rfl rfl rfl (fun _ => rfl) rfl rfl hm32 (zlc zln) zuh ?_)
         refine yba (yab ?_)
         refine yad [] [52, 53] [(3, pI (IntKind.i64.wrap (v13 + 1)))] fo0 (by kernel_rfl) ?_
         refine yae ?_
         obtain rfl := Option.some.inj hq24
         exact pk_mid ((), ((l12.set v13.toNat m31), (IntKind.i64.wrap (v13 + 1)))) (zhc rfl (zhc rfl (zhc rfl (zhc rfl zhn)))) (zsc zph zsn) rfl
        ·replace hq24 := yaq hc29 hq24
         refine yaj (yae ?_)
         obtain rfl := Option.some.inj hq24
         exact pk_mid ((), (l12, v13)) (zhc rfl (zhc rfl (zhc rfl (zhc rfl zhn)))) (zsc zph zsn) rfl
       ·rintro ⟨_, ⟨l22, v23⟩⟩ τ hz; (try dsimp only at hz); subst q24; (try dsimp only at hb18); dsimp only [pupds]
        refine yad [] [33, 34] [(5, pI (IntKind.i64.wrap (v14 + 1)))] fo0 (by kernel_rfl) ?_
        exact pk_loop hb18 () (zhc rfl (zhc rfl (zhc rfl (zhc rfl zhn)))) (zsc zph zsn)
      ·replace hb18 := yaq hc20 hb18
       refine pwc_exit (yav ?_)
       refine yar hb18 (fun ht => ?_)
       refine yau rfl ?_
       exact pk_mid ((), (l12, v13)) (zhc rfl (zhc rfl zhn)) (zsc zph zsn) ht.symm
     ·rintro ⟨_, ⟨l16, v17⟩⟩ τ hz; (try dsimp only at hz); subst q19; (try dsimp only at hb4); dsimp only [pupds]
      refine yaa ?_
      refine yac hb4 ?_; clear hb4; intro l34 hl34 hb4
      refine yaf ?_
      refine yam 2 [] [] [(54, pO a_0 p0.length c_0), (55, pI v17)] fo0 (by kernel_rfl) ?_
      refine pwl_q rfl rfl rfl (pq_sliceOL (enc := eS) (xs := l16) rfl rfl rfl rfl rfl zm0 hl34) ?_
      refine pwl_l0 rfl rfl (pl_clearO (enc := eS) (xs := l16) (z0 := ByteArray.empty) (i := v17) rfl rfl rfl rfl hl34 rfl rfl rfl rfl zuh ?_)
      refine yba (yab (yaa ?_))
      refine yac hb4 ?_; clear hb4; intro l35 hl35 hb4
      refine yaf ?_
      refine yam 2 [] [] [(57, pO a_0 p0.length c_0), (58, pI v17)] fo0 (by kernel_rfl) ?_
      refine yay rfl rfl rfl (pl_sliceO (enc := eS) (xs := (List.take v17.toNat l16 ++ List.replicate (p0.length - v17.toNat) ByteArray.empty)) rfl rfl rfl rfl rfl (by exact zph) hl35 ?_)
      refine yas [] [] [(2, pO a_0 l35.length c_0)] fo0 (by kernel_rfl) ?_
      refine yab (yak (yag (yai ?_)))
      refine pk_loop_ret hb4 (fun ht => ?_); subst ht
      have h := (show some _ = some _ from h)
      refine yag (yax ?_)
      obtain rfl := Option.some.inj h
      exact yal (ybc (yao rfl)) (zsc zph zsn) ⟨_, _, rfl, rfl⟩
    ·replace hb4 := yaq hc9 hb4
     refine yaj (yae (yab ?_))
     refine yad [] [14, 15] [(3, pI (IntKind.i64.wrap (v2 + 1)))] fo0 (by kernel_rfl) ?_
     exact pk_loop hb4 () (zhc rfl (zhc rfl zhn)) (zsc zph zsn)
   ·replace hb4 := yaq hc6 hb4
    refine pwc_exit (yav ?_)
    refine yar hb4 (fun ht => ?_)
    refine yau rfl ?_
    exact pk_mid ((), ()) (zhc rfl zhn) (zsc zph zsn) ht.symm
  ·rintro ⟨_, _⟩ τ hz; (try dsimp only at hz); subst q5; (try dsimp only at h); dsimp only [pupds]
   refine yaa ?_
   refine yad [] [60] [(2, pO a_0 p0.length c_0)] fo0 (by kernel_rfl) ?_
   refine yab (yak ?_)
   obtain rfl := Option.some.inj h
   exact yal (ybc (yao rfl)) (zsc zph zsn) ⟨_, _, rfl, rfl⟩
end SX
end Go.Proofs.YtiijbkaiipjpkaaGreatDoor
namespace Go.Proofs
open Go.Shelf
def Tryz.lSs_ren : Go.Shelf.Ren := ⟨fun | 190 => 119 | 125 => 97 | 258 => 143 | 128 => 130 | 129 => 131 | 302 => 155 | 303 => 156 | 304 => 157 | 305 => 158 | 306 => 159 | 307 => 160 | 308 => 161 | 309 => 162 | 310 => 163 | 333 => 171 | 329 => 147 | 330 => 148 | 334 => 172 | 335 => 173 | 336 => 174 | 344 => 180 | n => n, fun | 31 => 30 | 9 => 9 | 3 => 3 | 46 => 41 | 0 => 0 | 51 => 177 | 53 => 122 | 4 => 4 | 183 => 171 | 182 => 170 | 131 => 138 | 5 => 5 | 218 => 201 | 222 => 205 | 228 => 219 | 229 => 220 | n => n, fun | n => n⟩
theorem Tryz.lSs : Go.Proofs.Lays.n190 Tryz.prog Tryz.lSs_ren := {
 mixed := by kernel_rfl
 f125 := Tryz.func97.trans (congrArg some (by kernel_rfl))
 f128 := Tryz.func130.trans (congrArg some (by kernel_rfl))
 f129 := Tryz.func131.trans (congrArg some (by kernel_rfl))
 f190 := Tryz.func119.trans (congrArg some (by kernel_rfl))
 f258 := Tryz.func143.trans (congrArg some (by kernel_rfl))
 f302 := Tryz.func155.trans (congrArg some (by kernel_rfl))
 f303 := Tryz.func156.trans (congrArg some (by kernel_rfl))
 f304 := Tryz.func157.trans (congrArg some (by kernel_rfl))
 f305 := Tryz.func158.trans (congrArg some (by kernel_rfl))
 f306 := Tryz.func159.trans (congrArg some (by kernel_rfl))
 f307 := Tryz.func160.trans (congrArg some (by kernel_rfl))
 f308 := Tryz.func161.trans (congrArg some (by kernel_rfl))
 f309 := Tryz.func162.trans (congrArg some (by kernel_rfl))
 f310 := Tryz.func163.trans (congrArg some (by kernel_rfl))
 f329 := Tryz.func147.trans (congrArg some (by kernel_rfl))
 f330 := Tryz.func148.trans (congrArg some (by kernel_rfl))
 f333 := Tryz.func171.trans (congrArg some (by kernel_rfl))
 f334 := Tryz.func172.trans (congrArg some (by kernel_rfl))
 f335 := Tryz.func173.trans (congrArg some (by kernel_rfl))
 f336 := Tryz.func174.trans (congrArg some (by kernel_rfl))
 f344 := Tryz.func180.trans (congrArg some (by kernel_rfl))
 t0 := Tryz.underlying0
 a0 := Tryz.isAgg0
 z0 := Tryz.sizeOf0
 v0 := Tryz.zeroValue0
 t3 := Tryz.underlying3
 a3 := Tryz.isAgg3
 z3 := Tryz.sizeOf3
 v3 := Tryz.zeroValue3
 t4 := Tryz.underlying4
 a4 := Tryz.isAgg4
 z4 := Tryz.sizeOf4
 v4 := Tryz.zeroValue4
 t5 := Tryz.underlying5
 a5 := Tryz.isAgg5
 z5 := Tryz.sizeOf5
 v5 := Tryz.zeroValue5
 t9 := Tryz.underlying9
 a9 := Tryz.isAgg9
 z9 := Tryz.sizeOf9
 v9 := Tryz.zeroValue9
 t31 := Tryz.underlying30
 a31 := Tryz.isAgg30
 z31 := Tryz.sizeOf30
 v31 := Tryz.zeroValue30
 t46 := Tryz.underlying41
 a46 := Tryz.isAgg41
 z46 := Tryz.sizeOf41
 v46 := Tryz.zeroValue41
 t51 := Tryz.underlying177
 a51 := Tryz.isAgg177
 z51 := Tryz.sizeOf177
 v51 := Tryz.zeroValue177
 t53 := Tryz.underlying122
 a53 := Tryz.isAgg122
 z53 := Tryz.sizeOf122
 v53 := Tryz.zeroValue122
 t131 := Tryz.underlying138
 a131 := Tryz.isAgg138
 z131 := Tryz.sizeOf138
 v131 := Tryz.zeroValue138
 t182 := Tryz.underlying170
 a182 := Tryz.isAgg170
 z182 := Tryz.sizeOf170
 v182 := Tryz.zeroValue170
 t183 := Tryz.underlying171
 a183 := Tryz.isAgg171
 z183 := Tryz.sizeOf171
 v183 := Tryz.zeroValue171
 t218 := Tryz.underlying201
 a218 := Tryz.isAgg201
 z218 := Tryz.sizeOf201
 v218 := Tryz.zeroValue201
 t222 := Tryz.underlying205
 a222 := Tryz.isAgg205
 z222 := Tryz.sizeOf205
 v222 := Tryz.zeroValue205
 t228 := Tryz.underlying219
 a228 := Tryz.isAgg219
 z228 := Tryz.sizeOf219
 v228 := Tryz.zeroValue219
 t229 := Tryz.underlying220
 a229 := Tryz.isAgg220
 z229 := Tryz.sizeOf220
 v229 := Tryz.zeroValue220 }
end Go.Proofs
set_option maxRecDepth 100000
namespace Go.Proofs.YtiijbkaiipjpkaaGreatDoor
namespace SX
open Go
section
variable {γ : Type} [Inhabited γ]
theorem putCells_take (e : γ → Value) (D : Array γ) (cur : Array Value) (h : D.size ≤ cur.size) : (Sort.putCells e 0 D cur).toList.take D.size = D.toList.map e := by
 apply List.ext_getElem
 ·simp [Sort.putCells]; omega
 ·intro i h1 h2
  have h3 : i < D.size := by simpa using h2
  simp [Sort.putCells, h3]
theorem heap_putRow {e : γ → Value} {w : World} {b : Nat} {D : Array γ} {cur : Array Value} {T : Nat} {fr : Nat × Nat} (h : w.heap[b]? = some (.cells cur T fr)) : (Sort.putRow e w b 0 D).heap[b]? = some (.cells (Sort.putCells e 0 D cur) T fr) := by
 simp [Sort.putRow, Sort.mapBlock, Array.getElem?_modify, h, Sort.onCells]
theorem heap_putRow_ne {e : γ → Value} {w : World} {b i : Nat} {D : Array γ} (h : i ≠ b) : (Sort.putRow e w b 0 D).heap[i]? = w.heap[i]? := by
 simp only [Sort.putRow, Sort.mapBlock, Array.getElem?_modify]
 rw [if_neg (fun e => h e.symm)]
theorem inv_sorted {β : Base} {l : List Res} {κ : Kr} {b n c T sz m : Nat} {css css' : List (List Value)} {os : Array Obj} {e : γ → Value} {D : Array γ} (hi : Inv β (Res.row (some ⟨b, 0, none⟩) n c T sz css :: l) κ) (hF : D.toList.map e = css'.flatten) (hl : css'.length = n) (hw : ∀ cs ∈ css', cs.length = sz) :
    Inv β (Res.row (some ⟨b, 0, none⟩) n c T sz css' :: l) ⟨Sort.grow (Sort.putRow e (Sort.ahead κ.w m) b 0 D) os, κ.S⟩ ∧ Kle κ ⟨Sort.grow (Sort.putRow e (Sort.ahead κ.w m) b 0 D) os, κ.S⟩ := by
  have ho := hi.own _ (List.mem_cons_self)
  obtain ⟨h1, h2, h3, h4, h5, cur, h6, h7, h8⟩ := ho
  have hD : D.size = n * sz := by
    have := congrArg List.length hF
    rw [List.length_map, flatten_len hw, hl] at this
    simpa using this
  have hle : D.size ≤ cur.size := by rw [hD, h7]; exact Nat.mul_le_mul_right _ h4
  have t1 := hi.turn (r' := Res.row (some ⟨b, 0, none⟩) n c T sz css') (l1 := []) (b := b) (w' := Sort.putRow e (Sort.ahead κ.w m) b 0 D) rfl rfl rfl (fun i hne => heap_putRow_ne hne) (by simp [Sort.putRow, Sort.mapBlock, Sort.ahead])
    ⟨h1, hl, hw, h4, h5, _, heap_putRow (w := Sort.ahead κ.w m) h6, by simpa [Sort.putCells] using h7, by rw [← hD, putCells_take e D cur hle, hF]⟩ rfl rfl rfl (by simp [Sort.putRow, Sort.mapBlock, Sort.ahead])
  have hh := t1.1.own _ (List.mem_cons_self)
  have hb2 : b < (Sort.putRow e (Sort.ahead κ.w m) b 0 D).heap.size := by
    have := (t1.1.blk _ (List.mem_cons_self) b rfl).1; exact this
  have hold : ∀ i, i < (Sort.putRow e (Sort.ahead κ.w m) b 0 D).heap.size → (Sort.grow (Sort.putRow e (Sort.ahead κ.w m) b 0 D) os).heap[i]? = (Sort.putRow e (Sort.ahead κ.w m) b 0 D).heap[i]? := fun i h => by
    simp only [Sort.grow]; rw [Array.getElem?_append_left h]
  have hh2 : (Res.row (some ⟨b, 0, none⟩) n c T sz css').holds (Sort.grow (Sort.putRow e (Sort.ahead κ.w m) b 0 D) os) := by
    have : (Sort.grow (Sort.putRow e (Sort.ahead κ.w m) b 0 D) os).heap[b]? = (Sort.putRow e (Sort.ahead κ.w m) b 0 D).heap[b]? := hold b hb2
    unfold Res.holds at hh ⊢
    show (Res.row (some ⟨b, 0, none⟩) n c T sz css').says (Sort.grow (Sort.putRow e (Sort.ahead κ.w m) b 0 D) os).heap[b]?
    rw [this]; exact hh
  obtain ⟨i3, k3⟩ := t1.1.grow (r' := Res.row (some ⟨b, 0, none⟩) n c T sz css') (w' := Sort.grow (Sort.putRow e (Sort.ahead κ.w m) b 0 D) os) ⟨rfl, rfl, rfl, by simp [Sort.grow], fun i h _ => hold i h⟩ (.inr (.inl rfl)) hh2 (row_lt hh2) (Nat.le_refl _)
  exact ⟨i3, t1.2.trans k3⟩
end
def ltS (a b : ByteArray) : Bool := Op.bytesLess a.toList b.toList
theorem ltS_eq (a b : ByteArray) : ltS a b = decide (a.data.toList < b.data.toList) := by
 unfold ltS; rw [bytesLess_eq, ByteArray.toList_eq, ByteArray.toList_eq]
theorem rpss_eS {κ : Kr} : ∀ {xs : List ByteArray} {dss : List (List Value)}, Rpss κ (xs.map eS) dss → dss = xs.map fun s => [.string s]
 | [], _, h => h.nil_inv
 | x :: xs, _, h => by
  obtain ⟨d, ds, rfl, h1, h2⟩ := h.cons_inv
  obtain ⟨v, vs, rfl, h3, h4⟩ := h1.cons_inv
  rw [rpss_eS h2, h4.nil_inv, h3.val]; rfl
theorem rpss_eS_in {κ : Kr} : ∀ {xs : List ByteArray} {dss : List (List Value)}, Rpss κ (xs.map eS) dss → ∀ x ∈ xs, okb (.string x) = true
 | [], _, _ => by simp
 | x :: xs, _, h => by
  obtain ⟨d, ds, rfl, h1, h2⟩ := h.cons_inv
  obtain ⟨v, vs, rfl, h3, h4⟩ := h1.cons_inv
  intro y hy
  rcases List.mem_cons.1 hy with rfl | hy
  ·cases h3 with | v hq => exact hq
  ·exact rpss_eS_in h2 y hy
theorem rpss_eS_of {κ : Kr} : ∀ {xs : List ByteArray}, (∀ x ∈ xs, okb (.string x) = true) → Rpss κ (xs.map eS) (xs.map fun s => [.string s])
 | [], _ => .nil
 | x :: xs, h => .cons (.cons (.v (h x (by simp))) .nil) (rpss_eS_of fun y hy => h y (by simp [hy]))
theorem flat_str (l : List ByteArray) : (l.map fun s => [Value.string s]).flatten = l.map Value.string := by
 induction l with
 | nil => rfl
 | cons x xs ih => simp [ih]
def slices_Sort_string_string (l : List ByteArray) : Option (List ByteArray) := some (isort ltS l)
theorem isort_len {α : Type} {lt : α → α → Bool} (l : List α) : (isort lt l).length = l.length := isort_perm.length_eq
theorem sortS_perm (l : List ByteArray) : (l.map fun s => s.data.toList).mergeSort (fun x y => decide (x ≤ y)) = (isort ltS l).map fun s => s.data.toList := by
 have key : ∀ x y : List UInt8, decide (x ≤ y) = !decide (y < x) := fun x y => by
  rw [← decide_not]; exact decide_eq_decide.2 (by rw [List.not_lt])
 refine sorted_uniq (lt := fun x y => decide (x < y)) (fun x y h1 h2 => ?_) ?_ ?_ ?_
 ·have h1 := of_decide_eq_false h1; have h2 := of_decide_eq_false h2
  exact List.le_antisymm (List.not_lt.1 h2) (List.not_lt.1 h1)
 ·have h := List.pairwise_mergeSort (le := fun x y : List UInt8 => decide (x ≤ y)) (fun a b c h1 h2 => decide_eq_true (List.le_trans (of_decide_eq_true h1) (of_decide_eq_true h2))) (fun a b => by
   rcases List.le_total a b with h | h
   ·simp [h]
   ·simp [h]) (l.map fun s => s.data.toList)
  exact h.imp fun {a b} hab => by rw [key] at hab; simpa using hab
 ·rw [List.pairwise_map]
  have h := isort_sorted (lt := ltS) (fun x y z h1 h2 => by
   rw [ltS_eq] at *; exact decide_eq_true (List.lt_trans (of_decide_eq_true h1) (of_decide_eq_true h2))) (fun x y z h1 h2 => by
   rw [ltS_eq] at *; exact decide_eq_false (List.not_lt.2 (List.le_trans (List.not_lt.1 (of_decide_eq_false h2)) (List.not_lt.1 (of_decide_eq_false h1))))) (fun x => by rw [ltS_eq]; exact decide_eq_false (List.lt_irrefl _)) l
  exact h.imp fun {a b} hab => by rw [← ltS_eq]; exact hab
 ·exact (List.mergeSort_perm _ _).trans (isort_perm.symm.map _)
theorem slices_Sort_string_string_ok {p0 r : List ByteArray} (h : slices_Sort_string_string p0 = some r) {a : Option Addr} {n c : Nat} : PCall 119 [.v (.slice a n c)] [PRes.row a n c 9 1 (List.map eS p0)] (fun pv ρ' => pv = .tup [] ∧ ρ' = [PRes.row a n c 9 1 (List.map eS r)]) := fun κ args ρ g ha hr => by
 obtain rfl := Option.some.inj h
 obtain ⟨v, ws, rfl, ha1, ha2⟩ := ha.cons_inv
 rw [ha2.nil_inv, ha1.val]
 obtain ⟨r0, l', rfl, hr1, hr2⟩ := hr.cons_inv
 have := hr2.nil_inv; subst this
 refine ⟨fk119, fun hi => ?_⟩
 cases hr1 with
 | row hb ho hc =>
  have hok := rpss_eS_in hc
  have hd := rpss_eS hc; subst hd
  have how := hi.own _ (List.mem_cons_self)
  cases a with
  | none =>
   obtain ⟨rfl, rfl, h3⟩ := how
   have hp : p0 = [] := List.map_eq_nil_iff.1 h3
   subst hp
   refine (Any.slices_Sort_string_none Tryz.lSs none 0 κ.w).mono fun e w' ⟨h1, h2⟩ => ?_
   subst h1 h2
   exact ⟨_, _, κ, rfl, rfl, hi, .tup [], _, .tup .nil, .cons (.row hb ho (by exact .nil)) .nil, rfl, rfl⟩
  | some ad =>
   have how2 := how
   obtain ⟨h1, h2, h3, h4, h5, cur, h6, h7, h8⟩ := how
   obtain ⟨b, off, sp⟩ := ad
   injection h1 with h1a h1b h1c
   subst h1b h1c
   have hblk : b < κ.w.heap.size := (hi.blk _ (List.mem_cons_self) b rfl).1
   have hn : n = (p0.map fun s => s.data.toList).length := by rw [← h2]; simp
   have hH : Sort.Holds encStr κ.w b 0 (p0.map fun s => s.data.toList).toArray := by
    intro j hj
    have hj2 : j < p0.length := by simpa using hj
    rw [flat_str, Nat.mul_one] at h8
    have hj3 : cur.toList[j]? = some (Value.string p0[j]) := by
     have e := congrArg (fun l => l[j]?) h8
     simp only [List.getElem?_take, List.getElem?_map] at e
     rw [if_pos (by rw [← h2]; simpa using hj2), List.getElem?_eq_getElem hj2] at e
     exact e
    have hj4 : cur[j]? = some (Value.string p0[j]) := by rw [← Array.getElem?_toList]; exact hj3
    constructor
    ·simp only [World.cell?, h6, Option.isSome_none, Bool.false_eq_true, if_false, Nat.zero_add]
     rw [hj4]
     congr 1
     simp [getElem!_pos, hj2]
    ·simp [World.frozen?, h6]
   rw [hn]
   refine (Any.slices_Sort_string Tryz.lSs b 0 c _ κ.w hH hblk (by rw [← hn]; unfold maxLen at h5; omega)).mono fun e w' ⟨k1, m, os, k2⟩ => ?_
   subst k1 k2
   obtain ⟨i1, i2⟩ := inv_sorted (m := m) (os := os) (e := encStr) (css' := (isort ltS p0).map fun s => [Value.string s]) (D := ((p0.map fun s => s.data.toList).mergeSort fun x y => decide (x ≤ y)).toArray) hi (by
    rw [sortS_perm]
    generalize isort ltS p0 = q
    induction q with
    | nil => rfl
    | cons x xs ih => simp at ih ⊢; exact ih) (by rw [List.length_map, isort_len]; rw [← h2]; simp) (by simp)
   exact ⟨_, _, ⟨_, κ.S⟩, rfl, rfl, i1, .tup [], _, .tup .nil, .cons (.row hb (by intro cs hcs; obtain ⟨q, _, rfl⟩ := List.mem_map.1 hcs; intro u hu; rw [List.mem_singleton.1 hu]; rfl) (rpss_eS_of fun y hy => hok y (isort_perm.mem_iff.1 hy))) .nil, rfl, by rw [← hn]⟩
end SX
end Go.Proofs.YtiijbkaiipjpkaaGreatDoor
set_option maxRecDepth 100000
namespace Go.Proofs.YtiijbkaiipjpkaaGreatDoor
namespace SX
open Go
attribute [local irreducible] PWL PWC PWD POpL POpQ PEv PGuardIs PSub PPick PUpd PSplice PFill PLit PF PFV PCall FOk pseqK pblockK pmidK pcutK ploopK pretK Cov PHolds loopF idx app mk gd lb nz ge0 cat sub ssub iand ior ixor ishl ishr imin imax IntKind.wrap Int.tmod Int.tdiv Op.bytesLess strOfNums
def goods_Union (p0 : (List ByteArray)) (p1 : (List ByteArray)) : Option (List ByteArray) := Option.bind (slices_Concat_string_string [p0, p1]) (fun x3 => Option.bind (slices_Sort_string_string x3) (fun x7 => Option.bind (slices_Compact_string_string x7) (fun x8 => some x8)))
set_option maxHeartbeats 4000000 in
theorem goods_Union_ok {p0 : (List ByteArray)} {p1 : (List ByteArray)} {r : (List ByteArray)}  (h : goods_Union p0 p1 = some r) : PF 93 [pL eS p0, pL eS p1] (pL eS r) := by
 unfold goods_Union at h
 refine pf_of ?_
 refine penter Tryz.func93 fk93 rfl Tryz.ntmps93 Tryz.results93 rfl ?_
 refine yaa ?_
 refine yad [] [4] [] fo0 (by kernel_rfl) ?_
 refine yab (yaa (yaf ?_))
 refine yam 2 [] [] [(6, pL eS p0), (7, pL eS p1)] fo0 (by kernel_rfl) ?_
 refine yay rfl rfl rfl (pl_lit rfl rfl rfl rfl rfl (zic rfl (zic rfl zin)) rfl rfl rfl rfl (fun b1 => ?_))
 refine pwl_frzt (enc := (eL eS)) (xs := [p0, p1]) 8 rfl (by exact zph) ?_
 refine yac h ?_; clear h; intro x3 hx3 h
 refine yay rfl rfl rfl (pl_callR rfl rfl (ρ1 := []) (List.Perm.refl _) (slices_Concat_string_string_ok hx3) ?_); rintro _ _ ⟨a4, c5, rfl, rfl⟩
 refine yas [] [] [(5, pO a4 x3.length c5)] fo0 (by kernel_rfl) ?_
 refine yab (yaa ?_)
 refine yac h ?_; clear h; intro x7 hx7 h
 refine yaf ?_
 refine yam 1 [] [] [(10, pO a4 x3.length c5)] fo0 (by kernel_rfl) ?_
 refine yay rfl rfl rfl (pl_callR rfl rfl (ρ1 := [_]) (ybb (by exact zph) (List.Perm.refl _)) (slices_Sort_string_string_ok hx7) ?_); rintro _ _ ⟨rfl, rfl⟩
 refine yba (yab (yaa ?_))
 refine yac h ?_; clear h; intro x8 hx8 h
 refine yaf ?_
 refine yam 1 [] [] [(12, pO a4 x3.length c5)] fo0 (by kernel_rfl) ?_
 refine yay rfl rfl rfl (pl_callR rfl rfl (ρ1 := [_]) (ybb (by exact zph) (List.Perm.refl _)) (slices_Compact_string_string_ok hx8) ?_); rintro _ _ ⟨a9, c10, rfl, rfl⟩
 refine yas [] [] [(4, pO a9 x8.length c10)] fo0 (by kernel_rfl) ?_
 refine yab ?_
 refine pwc_frzt (enc := eS) (xs := x8) 4 rfl (by exact zph) ?_
 refine yak ?_
 obtain rfl := Option.some.inj h
 exact yal (ybc (yao rfl)) zsn ⟨rfl, rfl⟩
def cumulation_gather (p0 : (List TProduct)) (p1 : TAgreement) (p2 : TProduct) (p3 : Tcumulation_supplier) : Option ((List Icumulation_supply) × (List ByteArray)) := Option.bind (slices_Clone_string_string p2.Processes) (fun x4 => Option.bind (loopF (S := (List Icumulation_supply) × (List ByteArray) × Int) (T := ((List Icumulation_supply) × (List ByteArray))) (fun (l9, l12, v13) => cond (decide (v13 < (p2.Inputs.length : Int))) (Option.bind (Option.bind (idx p2.Inputs v13) (fun m29 => Option.bind (production_Find p0 m29.Product) (fun x31 => Option.bind (gd (p1.Kind == 3) (slices_Contains_string_string p1.Parties x31.1.Country)) (fun x33 => Option.bind (cond ((p1.Kind == 3) && x33) (Option.bind (goods_Union l12 x31.1.Processes) (fun x38 => some x38)) (some l12)) (fun l35 => Option.bind (cumulation_supplier_take p3 x31.1 m29.Value) (fun x39 => cond (((Icumulation_supply.is_proved_ x39) || (!((p1.Kind == 3) && x33))) || ((x31.1.Inputs.length : Int) == 0)) (Option.bind (app 16 l9 [x39]) (fun l44 => some (l44, l35))) (Option.bind (loopF (S := (List Icumulation_supply) × Int) (T := ((List Icumulation_supply))) (fun (l49, v52) => cond (decide (v52 < (x31.1.Inputs.length : Int))) (Option.bind (idx x31.1.Inputs v52) (fun m60 => Option.bind (production_Find p0 m60.Product) (fun x62 => Option.bind (cumulation_portion m29.Value m60.Value x31.1.Price) (fun x64 => Option.bind (cumulation_supplier_take p3 x62.1 x64) (fun x65 => Option.bind (app 16 l49 [x65]) (fun l68 => some (.inl (l68, (IntKind.i64.wrap (v52 + 1)))))))))) (some (.inr l49))) FUEL (l9, 0)) (fun l56 => some (l56, l35))))))))) (fun (l26, l27) => some (.inl (l26, l27, (IntKind.i64.wrap (v13 + 1)))))) (some (.inr (l9, l12)))) FUEL (([] : List Icumulation_supply), x4, 0)) (fun (l17, l18) => Option.bind (sub l18 0 (imin (l18.length : Int) 8)) (fun l73 => some (l17, l73))))
set_option maxHeartbeats 4000000 in
theorem cumulation_gather_ok {p0 : (List TProduct)} {p1 : TAgreement} {p2 : TProduct} {p3 : Tcumulation_supplier} {m3_set_ : Nat} {r : ((List Icumulation_supply) × (List ByteArray))}  (h : cumulation_gather p0 p1 p2 p3 = some r) : PCall 65 [pL TProduct.enc p0, .agg [pI p1.ID, pI p1.Kind, pL eS p1.Parties, pL TRuleFor.enc p1.Rules], .agg [pI p2.ID, pS p2.Code, pS p2.Country, pI p2.Price, pB p2.Obtained, pL eS p2.Processes, pL TIngredient.enc p2.Inputs], .agg [pL eI p3.partners, .v (.map (some m3_set_))]] [PRes.mp (some m3_set_) (menc TOriginClaim.key vT p3.set_)] (fun pv ρ' => pv = .tup [pL Icumulation_supply.enc r.1, pL eS r.2] ∧ ρ' = [PRes.mp (some m3_set_) (menc TOriginClaim.key vT p3.set_)]) := by
 unfold cumulation_gather at h
 refine penter Tryz.func65 fk65 rfl Tryz.ntmps65 Tryz.results65 rfl ?_
 refine yaa (yaf ?_)
 refine yay rfl rfl rfl (pl_box (cs := [pI p1.ID, pI p1.Kind, pL eS p1.Parties, pL TRuleFor.enc p1.Rules]) rfl rfl (fun b1 => ?_))
 refine yay rfl rfl rfl (pl_box (cs := [pI p2.ID, pS p2.Code, pS p2.Country, pI p2.Price, pB p2.Obtained, pL eS p2.Processes, pL TIngredient.enc p2.Inputs]) rfl rfl (fun b2 => ?_))
 refine yay rfl rfl rfl (pl_box (cs := [pL eI p3.partners, .v (.map (some m3_set_))]) rfl rfl (fun b3 => ?_))
 refine yas [] [8, 9] [] fo0 (by kernel_rfl) ?_
 refine yab (yaa ?_)
 refine yad [] [] [(10, pN)] fo0 (by kernel_rfl) ?_
 refine yab (yaa ?_)
 refine yac h ?_; clear h; intro x4 hx4 h
 refine yaf ?_
 refine yam 2 [1] [24] [(25, pL eS p2.Processes)] fo0 (by kernel_rfl) ?_
 refine yay rfl rfl rfl (pl_callR rfl rfl (ρ1 := []) (List.Perm.refl _) (slices_Clone_string_string_ok hx4) ?_); rintro _ _ ⟨a5, c6, rfl, rfl⟩
 refine yas [] [] [(11, pO a5 x4.length c6)] fo0 (by kernel_rfl) ?_
 refine yab (yaa (yaa ?_))
 refine yad [2] [27] [(28, pL TIngredient.enc p2.Inputs), (29, pI (p2.Inputs.length : Int)), (30, pI 0)] fo0 (by kernel_rfl) ?_
 refine yab ?_
 refine pwc_nilrow 111 1 ?_
 refine pwc_frzt (enc := eS) (xs := x4) 11 rfl (by exact zpt zph) ?_
 refine yac h ?_; clear h; intro q20 hq20 h
 refine yaz (Y := (Option Addr × Nat) × ((List Icumulation_supply) × (List ByteArray))) (fun ((a15, c16), (l17, l18)) => [(10, pO a15 l17.length c16), (11, pL eS l18)]) (fun ((a15, c16), (l17, l18)) => [PRes.mp (some m3_set_) (menc TOriginClaim.key vT p3.set_), PRes.row a15 l17.length c16 111 1 (List.map Icumulation_supply.enc l17)]) (fun ((a15, c16), (l17, l18)) => q20 = (l17, l18)) ?_ ?_
 ·refine yan ?_
  refine ybd (Y := Option Addr × Nat) (S := (List Icumulation_supply) × (List ByteArray) × Int) _ hq20 (fun (a10, c11) (l9, l12, v13) => [(0, pL TProduct.enc p0), (5, pP b1 0), (7, pP b3 0), (10, pO a10 l9.length c11), (11, pL eS l12), (28, pL TIngredient.enc p2.Inputs), (29, pI (p2.Inputs.length : Int)), (30, pI v13)]) (fun (a10, c11) (l9, l12, v13) => [PRes.b b1 33 [pI p1.ID, pI p1.Kind, pL eS p1.Parties, pL TRuleFor.enc p1.Rules], PRes.b b3 106 [pL eI p3.partners, .v (.map (some m3_set_))], PRes.mp (some m3_set_) (menc TOriginClaim.key vT p3.set_), PRes.row a10 l9.length c11 111 1 (List.map Icumulation_supply.enc l9)]) (none, 0) (zhc rfl (zhc rfl (zhc rfl (zhc rfl (zhc rfl (zhc rfl (zhc rfl (zhc rfl zhn)))))))) (zsc (zpt (zpt (zpt (zpt zph)))) (zsc (zpt (zpt zph)) (zsc (zpt (zpt (zpt zph))) (zsc (zpt zph) zsn)))) ?_
  rintro ⟨a10, c11⟩ ⟨l9, l12, v13⟩ o τ hb19; (try dsimp only at hb19); dsimp only [pupds]
  refine yaa ?_
  refine yad [] [] [(31, pB (decide (v13 < (p2.Inputs.length : Int))))] fo0 (by kernel_rfl) ?_
  refine yab (yaa ?_)
  refine yah rfl (fun hc22 => ?_) (fun hc22 => ?_)
  ·replace hb19 := yap hc22 hb19
   refine yaj (yab (yaa ?_))
   refine yac hb19 ?_; clear hb19; intro q28 hq28 hb19
   refine yaz (Y := (Option Addr × Nat) × ((List Icumulation_supply) × (List ByteArray))) (fun ((a24, c25), (l26, l27)) => [(0, pL TProduct.enc p0), (5, pP b1 0), (7, pP b3 0), (10, pO a24 l26.length c25), (11, pL eS l27), (28, pL TIngredient.enc p2.Inputs), (29, pI (p2.Inputs.length : Int)), (30, pI v13)]) (fun ((a24, c25), (l26, l27)) => [PRes.b b1 33 [pI p1.ID, pI p1.Kind, pL eS p1.Parties, pL TRuleFor.enc p1.Rules], PRes.b b3 106 [pL eI p3.partners, .v (.map (some m3_set_))], PRes.mp (some m3_set_) (menc TOriginClaim.key vT p3.set_), PRes.row a24 l26.length c25 111 1 (List.map Icumulation_supply.enc l26)]) (fun ((a24, c25), (l26, l27)) => q28 = (l26, l27)) ?_ ?_
   ·skip
    refine yan (yaa ?_)
    refine yac hq28 ?_; clear hq28; intro m29 hm29 hq28
    refine yaf ?_
    refine yam 2 [] [32] [(33, .agg [pI m29.Product, pI m29.Value])] (foix 0 TIngredient.enc hm29 fo0) (by kernel_rfl) ?_
    refine yay rfl rfl rfl (pl_alloc (cs := [pI 0, pI 0]) rfl rfl rfl rfl (fun b30 => ?_))
    refine pwl_l0 rfl rfl (yaw (vs := [pI m29.Product, pI m29.Value]) rfl rfl rfl rfl rfl zuh (zlc (zlc zln)) ?_)
    refine yba (yab (yaa ?_))
    refine yac hq28 ?_; clear hq28; intro x31 hx31 hq28
    refine yaf ?_
    refine yam 7 [0] [35, 36, 37, 38, 34] [(39, .agg [pI x31.1.ID, pS x31.1.Code, pS x31.1.Country, pI x31.1.Price, pB x31.1.Obtained, pL eS x31.1.Processes, pL TIngredient.enc x31.1.Inputs]), (40, pB x31.2)] (focl 3 (production_Find_ok hx31) fo0) (by kernel_rfl) ?_
    refine yay rfl rfl rfl (pl_alloc (cs := [pI 0, pS ByteArray.empty, pS ByteArray.empty, pI 0, pB false, pN, pN]) rfl rfl rfl rfl (fun b32 => ?_))
    refine pwl_l0 rfl rfl (yaw (vs := [pI x31.1.ID, pS x31.1.Code, pS x31.1.Country, pI x31.1.Price, pB x31.1.Obtained, pL eS x31.1.Processes, pL TIngredient.enc x31.1.Inputs]) rfl rfl rfl rfl rfl zuh (zlc (zlc (zlc (zlc (zlc (zlc (zlc zln))))))) ?_)
    refine yas [] [15] [] fo0 (by kernel_rfl) ?_
    refine yab (yaa ?_)
    refine yac hq28 ?_; clear hq28; intro x33 hx33 hq28
    refine yad [2, 2, 0] [41, 42, 43, 44, 45, 46, 47, 48, 49, 50] [(16, pB ((p1.Kind == 3) && x33))] (foclg 8 (fun hc => slices_Contains_string_string_ok (gd_t hx33 hc)) fo0) (by kernel_rfl) ?_
    refine yab (yaa (yaa ?_))
    refine yad [] [] [(51, pB ((p1.Kind == 3) && x33))] fo0 (by kernel_rfl) ?_
    refine yab ?_
    refine yac hq28 ?_; clear hq28; intro q36 hq36 hq28
    refine yaz (Y := (Unit) × ((List ByteArray))) (fun (_, l35) => [(0, pL TProduct.enc p0), (5, pP b1 0), (7, pP b3 0), (10, pO a10 l9.length c11), (11, pL eS l35), (13, pP b30 0), (14, pP b32 0), (16, pB ((p1.Kind == 3) && x33)), (28, pL TIngredient.enc p2.Inputs), (29, pI (p2.Inputs.length : Int)), (30, pI v13)]) (fun (_, l35) => [PRes.b b1 33 [pI p1.ID, pI p1.Kind, pL eS p1.Parties, pL TRuleFor.enc p1.Rules], PRes.b b3 106 [pL eI p3.partners, .v (.map (some m3_set_))], PRes.b b30 94 [pI m29.Product, pI m29.Value], PRes.b b32 92 [pI x31.1.ID, pS x31.1.Code, pS x31.1.Country, pI x31.1.Price, pB x31.1.Obtained, pL eS x31.1.Processes, pL TIngredient.enc x31.1.Inputs], PRes.mp (some m3_set_) (menc TOriginClaim.key vT p3.set_), PRes.row a10 l9.length c11 111 1 (List.map Icumulation_supply.enc l9)]) (fun (_, l35) => q36 = l35) ?_ ?_
    ·skip
     refine yah rfl (fun hc37 => ?_) (fun hc37 => ?_)
     ·replace hq36 := yap hc37 hq36
      refine yac hq36 ?_; clear hq36; intro x38 hx38 hq36
      refine yad [0] [52, 53, 54, 55] [(11, pL eS x38)] (focl 3 (goods_Union_ok hx38) fo0) (by kernel_rfl) ?_
      obtain rfl := Option.some.inj hq36
      exact pk_mid ((), x38) (zhc rfl (zhc rfl (zhc rfl (zhc rfl (zhc rfl (zhc rfl (zhc rfl (zhc rfl (zhc rfl (zhc rfl (zhc rfl zhn))))))))))) (zsc (zpt (zpt zph)) (zsc (zpt (zpt zph)) (zsc (zpt zph) (zsc zph (zsc zph (zsc zph zsn)))))) rfl
     ·replace hq36 := yaq hc37 hq36
      refine yaj ?_
      obtain rfl := Option.some.inj hq36
      exact pk_mid ((), l12) (zhc rfl (zhc rfl (zhc rfl (zhc rfl (zhc rfl (zhc rfl (zhc rfl (zhc rfl (zhc rfl (zhc rfl (zhc rfl zhn))))))))))) (zsc (zpt (zpt zph)) (zsc (zpt (zpt zph)) (zsc (zpt zph) (zsc zph (zsc zph (zsc zph zsn)))))) rfl
    ·rintro ⟨_, l35⟩ τ hz; (try dsimp only at hz); subst q36; (try dsimp only at hq28); dsimp only [pupds]
     refine yaa ?_
     refine yac hq28 ?_; clear hq28; intro x39 hx39 hq28
     refine yaf ?_
     refine yam 4 [1, 3, 2] [58] [(56, .agg [pL eI p3.partners, .v (.map (some m3_set_))]), (57, .agg [pI x31.1.ID, pS x31.1.Code, pS x31.1.Country, pI x31.1.Price, pB x31.1.Obtained, pL eS x31.1.Processes, pL TIngredient.enc x31.1.Inputs]), (59, pI m29.Value)] fo0 (by kernel_rfl) ?_
     refine yay rfl rfl rfl (pl_callR rfl rfl (ρ1 := [_]) (ybb (by exact zpt (zpt (zpt (zpt zph)))) (List.Perm.refl _)) (cumulation_supplier_take_ok hx39) ?_); rintro _ _ ⟨rfl, rfl⟩
     refine yas [] [] [(17, Icumulation_supply.pv x39)] fo0 (by kernel_rfl) ?_
     refine yab (yaa (yaa (yaf ?_)))
     refine yam 5 [] [62, 63, 61] [(64, .agg [pS ((((Icumulation_supply.as_proved_ x39)).use).Code), pI ((((Icumulation_supply.as_proved_ x39)).use).Value), pB ((((Icumulation_supply.as_proved_ x39)).use).Originating), pI ((((Icumulation_supply.as_proved_ x39)).premise).Product), pI ((((Icumulation_supply.as_proved_ x39)).premise).Agreement)]), (65, pB (Icumulation_supply.is_proved_ x39))] (fota 1 (Icumulation_supply.ta_proved_ x39) fo0) (by kernel_rfl) ?_
     refine yay rfl rfl rfl (pl_alloc (cs := [pS ByteArray.empty, pI 0, pB false, pI 0, pI 0]) rfl rfl rfl rfl (fun b40 => ?_))
     refine pwl_l0 rfl rfl (yaw (vs := [pS ((((Icumulation_supply.as_proved_ x39)).use).Code), pI ((((Icumulation_supply.as_proved_ x39)).use).Value), pB ((((Icumulation_supply.as_proved_ x39)).use).Originating), pI ((((Icumulation_supply.as_proved_ x39)).premise).Product), pI ((((Icumulation_supply.as_proved_ x39)).premise).Agreement)]) rfl rfl rfl rfl rfl zuh (zlc (zlc (zlc (zlc (zlc zln))))) ?_)
     refine yas [] [] [(19, pB (Icumulation_supply.is_proved_ x39))] fo0 (by kernel_rfl) ?_
     refine yab (yaa ?_)
     refine yad [5] [66, 67, 68, 69, 70, 71, 72, 73, 74, 75] [(76, pB (((Icumulation_supply.is_proved_ x39) || (!((p1.Kind == 3) && x33))) || ((x31.1.Inputs.length : Int) == 0)))] fo0 (by kernel_rfl) ?_
     refine yab ?_
     refine yah rfl (fun hc41 => ?_) (fun hc41 => ?_)
     ·replace hq28 := yap hc41 hq28
      refine yaa (yaf ?_)
      refine yam 2 [] [] [(77, pO a10 l9.length c11), (78, Icumulation_supply.pv x39)] fo0 (by kernel_rfl) ?_
      refine yay rfl rfl rfl (pl_lit rfl rfl rfl rfl rfl (zic rfl zin) rfl rfl rfl rfl (fun b42 => ?_))
      refine yac hq28 ?_; clear hq28; intro l44 hl44 hq28
      refine yay rfl rfl rfl (pl_app_o (enc := Icumulation_supply.enc) rfl rfl rfl rfl rfl rfl rfl rfl rfl zm0 (by exact zpt (zpt (zpt (zpt (zpt (zpt (zpt zph))))))) hl44 (fun a45 c46 => ?_))
      refine yas [] [] [(10, pO a45 l44.length c46)] fo0 (by kernel_rfl) ?_
      refine yab (pwc_exit (yav ?_))
      refine yau rfl ?_
      obtain rfl := Option.some.inj hq28
      exact pk_mid ((a45, c46), (l44, l35)) (zhc rfl (zhc rfl (zhc rfl (zhc rfl (zhc rfl (zhc rfl (zhc rfl (zhc rfl zhn)))))))) (zsc (zpt (zpt (zpt (zpt zph)))) (zsc (zpt (zpt (zpt (zpt zph)))) (zsc (zpt (zpt (zpt zph))) (zsc zph zsn)))) rfl
     ·replace hq28 := yaq hc41 hq28
      refine yaj (yab (yaa ?_))
      refine yad [5] [81] [(82, pL TIngredient.enc x31.1.Inputs), (83, pI (x31.1.Inputs.length : Int)), (84, pI 0)] fo0 (by kernel_rfl) ?_
      refine yab ?_
      refine yac hq28 ?_; clear hq28; intro q58 hq58 hq28
      refine pwc_cutK (Y := (Option Addr × Nat) × ((List Icumulation_supply))) (fun ((a54, c55), l56) => [(0, pL TProduct.enc p0), (5, pP b1 0), (7, pP b3 0), (10, pO a54 l56.length c55), (11, pL eS l35), (28, pL TIngredient.enc p2.Inputs), (29, pI (p2.Inputs.length : Int)), (30, pI v13)]) (fun ((a54, c55), l56) => [PRes.b b1 33 [pI p1.ID, pI p1.Kind, pL eS p1.Parties, pL TRuleFor.enc p1.Rules], PRes.b b3 106 [pL eI p3.partners, .v (.map (some m3_set_))], PRes.mp (some m3_set_) (menc TOriginClaim.key vT p3.set_), PRes.row a54 l56.length c55 111 1 (List.map Icumulation_supply.enc l56)]) (fun ((a54, c55), l56) => q58 = l56) ?_ ?_
      ·refine yan ?_
       refine ybd (Y := Option Addr × Nat) (S := (List Icumulation_supply) × Int) _ hq58 (fun (a50, c51) (l49, v52) => [(0, pL TProduct.enc p0), (5, pP b1 0), (7, pP b3 0), (10, pO a50 l49.length c51), (11, pL eS l35), (13, pP b30 0), (14, pP b32 0), (28, pL TIngredient.enc p2.Inputs), (29, pI (p2.Inputs.length : Int)), (30, pI v13), (82, pL TIngredient.enc x31.1.Inputs), (83, pI (x31.1.Inputs.length : Int)), (84, pI v52)]) (fun (a50, c51) (l49, v52) => [PRes.b b1 33 [pI p1.ID, pI p1.Kind, pL eS p1.Parties, pL TRuleFor.enc p1.Rules], PRes.b b3 106 [pL eI p3.partners, .v (.map (some m3_set_))], PRes.b b30 94 [pI m29.Product, pI m29.Value], PRes.b b32 92 [pI x31.1.ID, pS x31.1.Code, pS x31.1.Country, pI x31.1.Price, pB x31.1.Obtained, pL eS x31.1.Processes, pL TIngredient.enc x31.1.Inputs], PRes.mp (some m3_set_) (menc TOriginClaim.key vT p3.set_), PRes.row a50 l49.length c51 111 1 (List.map Icumulation_supply.enc l49)]) (a10, c11) (zhc rfl (zhc rfl (zhc rfl (zhc rfl (zhc rfl (zhc rfl (zhc rfl (zhc rfl (zhc rfl (zhc rfl (zhc rfl (zhc rfl (zhc rfl zhn))))))))))))) (zsc (zpt (zpt zph)) (zsc (zpt (zpt zph)) (zsc (zpt (zpt zph)) (zsc (zpt (zpt zph)) (zsc (zpt zph) (zsc (zpt zph) zsn)))))) ?_
       rintro ⟨a50, c51⟩ ⟨l49, v52⟩ o τ hb57; (try dsimp only at hb57); dsimp only [pupds]
       refine yaa ?_
       refine yad [] [] [(85, pB (decide (v52 < (x31.1.Inputs.length : Int))))] fo0 (by kernel_rfl) ?_
       refine yab (yaa ?_)
       refine yah rfl (fun hc59 => ?_) (fun hc59 => ?_)
       ·replace hb57 := yap hc59 hb57
        refine yaj (yab (yaa (yan (yaa ?_))))
        refine yac hb57 ?_; clear hb57; intro m60 hm60 hb57
        refine yaf ?_
        refine yam 2 [] [86] [(87, .agg [pI m60.Product, pI m60.Value])] (foix 0 TIngredient.enc hm60 fo0) (by kernel_rfl) ?_
        refine yay rfl rfl rfl (pl_alloc (cs := [pI 0, pI 0]) rfl rfl rfl rfl (fun b61 => ?_))
        refine pwl_l0 rfl rfl (yaw (vs := [pI m60.Product, pI m60.Value]) rfl rfl rfl rfl rfl zuh (zlc (zlc zln)) ?_)
        refine yba (yab (yaa ?_))
        refine yac hb57 ?_; clear hb57; intro x62 hx62 hb57
        refine yaf ?_
        refine yam 7 [0] [89, 90, 91, 92, 88] [(93, .agg [pI x62.1.ID, pS x62.1.Code, pS x62.1.Country, pI x62.1.Price, pB x62.1.Obtained, pL eS x62.1.Processes, pL TIngredient.enc x62.1.Inputs]), (94, pB x62.2)] (focl 3 (production_Find_ok hx62) fo0) (by kernel_rfl) ?_
        refine yay rfl rfl rfl (pl_alloc (cs := [pI 0, pS ByteArray.empty, pS ByteArray.empty, pI 0, pB false, pN, pN]) rfl rfl rfl rfl (fun b63 => ?_))
        refine pwl_l0 rfl rfl (yaw (vs := [pI x62.1.ID, pS x62.1.Code, pS x62.1.Country, pI x62.1.Price, pB x62.1.Obtained, pL eS x62.1.Processes, pL TIngredient.enc x62.1.Inputs]) rfl rfl rfl rfl rfl zuh (zlc (zlc (zlc (zlc (zlc (zlc (zlc zln))))))) ?_)
        refine yas [] [23] [] fo0 (by kernel_rfl) ?_
        refine yab ?_
        refine pwc_draw (ρd := [PRes.mp (some m3_set_) _, PRes.row a50 _ _ _ _ _]) [(0, 0), (1, 0), (2, 0), (3, 0), (4, 0), (5, 0), (6, 0), (7, 0), (8, 0), (9, 1), (10, 1), (11, 1), (12, 1), (13, 0)] _ (ybb (zpt (zpt (zpt (zpt (zpt (zpt zph)))))) (ybb (zpt (zpt (zpt (zpt (zpt (zpt zph)))))) (List.Perm.refl _))) (by kernel_rfl) rfl ?_
        refine yac hb57 ?_; clear hb57; intro x64 hx64 hb57
        refine yac hb57 ?_; clear hb57; intro x65 hx65 hb57
        refine pwd_run 10 [3, 0, 4, 1, 5] [98, 99, 100, 101, 102, 103] [(95, pO a50 l49.length c51), (96, .agg [pL eI p3.partners, .v (.map (some m3_set_))]), (97, .agg [pI x62.1.ID, pS x62.1.Code, pS x62.1.Country, pI x62.1.Price, pB x62.1.Obtained, pL eS x62.1.Processes, pL TIngredient.enc x62.1.Inputs]), (104, pI x64)] (focl 9 (cumulation_portion_ok hx64) fo0) (by kernel_rfl) ?_
        refine pwd_l rfl rfl rfl (pl_callR rfl rfl (ρ1 := [_]) (ybb (by exact zph) (List.Perm.refl _)) (cumulation_supplier_take_ok hx65) ?_); rintro _ _ ⟨rfl, rfl⟩
        refine pwd_l rfl rfl rfl (pl_lit rfl rfl rfl rfl rfl (zic rfl zin) rfl rfl rfl rfl (fun b66 => ?_))
        refine yac hb57 ?_; clear hb57; intro l68 hl68 hb57
        refine pwd_l rfl rfl rfl (pl_app_o (enc := Icumulation_supply.enc) rfl rfl rfl rfl rfl rfl rfl rfl rfl zm0 (by exact zpt (zpt zph)) hl68 (fun a69 c70 => ?_))
        refine pwd_run 1 [] [] [(10, pO a69 l68.length c70)] fo0 (by kernel_rfl) ?_
        refine pwd_nil (yae (yab ?_))
        refine yad [] [108] [(84, pI (IntKind.i64.wrap (v52 + 1)))] fo0 (by kernel_rfl) ?_
        exact pk_loop hb57 (a69, c70) (zhc rfl (zhc rfl (zhc rfl (zhc rfl (zhc rfl (zhc rfl (zhc rfl (zhc rfl (zhc rfl (zhc rfl (zhc rfl (zhc rfl (zhc rfl zhn))))))))))))) (zsc (zpt (zpt (zpt (zpt (zpt zph))))) (zsc (zpt (zpt (zpt (zpt (zpt zph))))) (zsc (zpt (zpt (zpt (zpt (zpt zph))))) (zsc (zpt (zpt (zpt (zpt (zpt zph))))) (zsc (zpt (zpt zph)) (zsc zph zsn))))))
       ·replace hb57 := yaq hc59 hb57
        refine pwc_exit (yav ?_)
        refine yar hb57 (fun ht => ?_)
        refine yau rfl ?_
        exact pk_cut ((a50, c51), l49) (zhc rfl (zhc rfl (zhc rfl (zhc rfl (zhc rfl (zhc rfl (zhc rfl (zhc rfl zhn)))))))) (zsc zph (zsc zph (zsc (zpt (zpt zph)) (zsc (zpt (zpt zph)) zsn)))) ht.symm
      ·rintro ⟨⟨a54, c55⟩, l56⟩ τ ρ1 hsub72 hz; (try dsimp only at hz hsub72); subst q58; (try dsimp only at hq28); dsimp only [pupds]
       refine yae ?_
       obtain rfl := Option.some.inj hq28
       exact pk_mid ((a54, c55), (l56, l35)) (zhc rfl (zhc rfl (zhc rfl (zhc rfl (zhc rfl (zhc rfl (zhc rfl (zhc rfl zhn)))))))) (PSub.trans (zsc zph (zsc zph (zsc zph (zsc zph zsn)))) hsub72) rfl
   ·rintro ⟨⟨a24, c25⟩, ⟨l26, l27⟩⟩ τ hz; (try dsimp only at hz); subst q28; (try dsimp only at hb19); dsimp only [pupds]
    refine yad [] [109] [(30, pI (IntKind.i64.wrap (v13 + 1)))] fo0 (by kernel_rfl) ?_
    exact pk_loop hb19 (a24, c25) (zhc rfl (zhc rfl (zhc rfl (zhc rfl (zhc rfl (zhc rfl (zhc rfl (zhc rfl zhn)))))))) (zsc zph (zsc zph (zsc zph (zsc zph zsn))))
  ·replace hb19 := yaq hc22 hb19
   refine pwc_exit (yav ?_)
   refine yar hb19 (fun ht => ?_)
   refine yau rfl ?_
   exact pk_mid ((a10, c11), (l9, l12)) (zhc rfl (zhc rfl zhn)) (zsc (zpt (zpt zph)) (zsc (zpt (zpt zph)) zsn)) ht.symm
 ·rintro ⟨⟨a15, c16⟩, ⟨l17, l18⟩⟩ τ hz; (try dsimp only at hz); subst q20; (try dsimp only at h); dsimp only [pupds]
  refine yaa ?_
  refine pwc_draw (ρd := []) [(0, 0), (1, 0), (2, 0), (3, 0), (4, 0), (5, 0), (6, 0), (7, 0)] _ (List.Perm.refl _) (by kernel_rfl) rfl ?_
  refine yac h ?_; clear h; intro l73 hl73 h
  refine pwd_run 8 [] [110, 111, 112, 113, 114, 115] [(8, pO a15 l17.length c16), (9, pL eS l73)] (fosl 5 eS 1 (fun _ => rfl) hl73 fo0) (by kernel_rfl) ?_
  refine pwd_nil (yab ?_)
  refine pwc_frzt (enc := Icumulation_supply.enc) (xs := l17) 8 rfl (by exact zpt zph) ?_
  refine yak ?_
  obtain rfl := Option.some.inj h
  exact yal (prv_2 (yao rfl) (yao rfl)) (zsc (zpt zph) zsn) ⟨rfl, rfl⟩
end SX
end Go.Proofs.YtiijbkaiipjpkaaGreatDoor
namespace Go.Proofs
open Go.Shelf
def Tryz.lSF_ren : Go.Shelf.Ren := ⟨fun | 6 => 66 | 15 => 97 | 14 => 96 | 28 => 130 | 29 => 131 | 20 => 122 | 21 => 123 | 22 => 124 | 23 => 125 | 24 => 126 | 25 => 127 | 26 => 128 | 27 => 129 | 46 => 146 | 47 => 147 | 48 => 148 | 49 => 149 | 50 => 150 | 57 => 167 | n => n, fun | 22 => 66 | 24 => 54 | 25 => 117 | 3 => 3 | 39 => 41 | 0 => 0 | 53 => 177 | 55 => 122 | 4 => 4 | 46 => 171 | 45 => 170 | 50 => 138 | 5 => 5 | 9 => 9 | 66 => 201 | 70 => 205 | 76 => 219 | 77 => 220 | n => n, fun | n => n⟩
theorem Tryz.lSF : Go.Proofs.SlLaysF0.n6 Tryz.prog Tryz.lSF_ren := {
 mixed := by kernel_rfl
 f6 := ⟨Tryz.f66.name, by decide, Tryz.func66.trans (congrArg some (by kernel_rfl))⟩
 f14 := ⟨Tryz.f96.name, by decide, Tryz.func96.trans (congrArg some (by kernel_rfl))⟩
 f15 := Tryz.func97.trans (congrArg some (by kernel_rfl))
 f20 := ⟨Tryz.f122.name, by decide, Tryz.func122.trans (congrArg some (by kernel_rfl))⟩
 f21 := ⟨Tryz.f123.name, by decide, Tryz.func123.trans (congrArg some (by kernel_rfl))⟩
 f22 := ⟨Tryz.f124.name, by decide, Tryz.func124.trans (congrArg some (by kernel_rfl))⟩
 f23 := ⟨Tryz.f125.name, by decide, Tryz.func125.trans (congrArg some (by kernel_rfl))⟩
 f24 := ⟨Tryz.f126.name, by decide, Tryz.func126.trans (congrArg some (by kernel_rfl))⟩
 f25 := ⟨Tryz.f127.name, by decide, Tryz.func127.trans (congrArg some (by kernel_rfl))⟩
 f26 := ⟨Tryz.f128.name, by decide, Tryz.func128.trans (congrArg some (by kernel_rfl))⟩
 f27 := ⟨Tryz.f129.name, by decide, Tryz.func129.trans (congrArg some (by kernel_rfl))⟩
 f28 := Tryz.func130.trans (congrArg some (by kernel_rfl))
 f29 := Tryz.func131.trans (congrArg some (by kernel_rfl))
 f46 := ⟨Tryz.f146.name, by decide, Tryz.func146.trans (congrArg some (by kernel_rfl))⟩
 f47 := Tryz.func147.trans (congrArg some (by kernel_rfl))
 f48 := Tryz.func148.trans (congrArg some (by kernel_rfl))
 f49 := ⟨Tryz.f149.name, by decide, Tryz.func149.trans (congrArg some (by kernel_rfl))⟩
 f50 := ⟨Tryz.f150.name, by decide, Tryz.func150.trans (congrArg some (by kernel_rfl))⟩
 f57 := ⟨Tryz.f167.name, by decide, Tryz.func167.trans (congrArg some (by kernel_rfl))⟩
 t0 := Tryz.underlying0
 a0 := Tryz.isAgg0
 z0 := Tryz.sizeOf0
 v0 := Tryz.zeroValue0
 t3 := Tryz.underlying3
 a3 := Tryz.isAgg3
 z3 := Tryz.sizeOf3
 v3 := Tryz.zeroValue3
 t4 := Tryz.underlying4
 a4 := Tryz.isAgg4
 z4 := Tryz.sizeOf4
 v4 := Tryz.zeroValue4
 t5 := Tryz.underlying5
 a5 := Tryz.isAgg5
 z5 := Tryz.sizeOf5
 v5 := Tryz.zeroValue5
 t9 := Tryz.underlying9
 a9 := Tryz.isAgg9
 z9 := Tryz.sizeOf9
 v9 := Tryz.zeroValue9
 t22 := Tryz.underlying66
 a22 := Tryz.isAgg66
 z22 := Tryz.sizeOf66
 v22 := Tryz.zeroValue66
 t25 := Tryz.underlying117
 a25 := Tryz.isAgg117
 z25 := Tryz.sizeOf117
 v25 := Tryz.zeroValue117
 t39 := Tryz.underlying41
 a39 := Tryz.isAgg41
 z39 := Tryz.sizeOf41
 v39 := Tryz.zeroValue41
 t45 := Tryz.underlying170
 a45 := Tryz.isAgg170
 z45 := Tryz.sizeOf170
 v45 := Tryz.zeroValue170
 t46 := Tryz.underlying171
 a46 := Tryz.isAgg171
 z46 := Tryz.sizeOf171
 v46 := Tryz.zeroValue171
 t50 := Tryz.underlying138
 a50 := Tryz.isAgg138
 z50 := Tryz.sizeOf138
 v50 := Tryz.zeroValue138
 t53 := Tryz.underlying177
 a53 := Tryz.isAgg177
 z53 := Tryz.sizeOf177
 v53 := Tryz.zeroValue177
 t55 := Tryz.underlying122
 a55 := Tryz.isAgg122
 z55 := Tryz.sizeOf122
 v55 := Tryz.zeroValue122
 t66 := Tryz.underlying201
 a66 := Tryz.isAgg201
 z66 := Tryz.sizeOf201
 v66 := Tryz.zeroValue201
 t70 := Tryz.underlying205
 a70 := Tryz.isAgg205
 z70 := Tryz.sizeOf205
 v70 := Tryz.zeroValue205
 t76 := Tryz.underlying219
 a76 := Tryz.isAgg219
 z76 := Tryz.sizeOf219
 v76 := Tryz.zeroValue219
 t77 := Tryz.underlying220
 a77 := Tryz.isAgg220
 z77 := Tryz.sizeOf220
 v77 := Tryz.zeroValue220 }
end Go.Proofs
set_option maxRecDepth 100000
namespace Go.Proofs.YtiijbkaiipjpkaaGreatDoor
namespace SX
open Go
theorem le_grow {κ κ' : Kr} (h : Le [] κ κ') : ∃ q os', κ'.w = Sort.grow (κ.w.drewN q) os' := by
 refine ⟨κ'.w.drawn - κ.w.drawn, κ'.w.heap.extract κ.w.heap.size κ'.w.heap.size, ?_⟩
 have hz := h.kle.size
 have hd := h.drawn
 have e1 : κ'.w.heap = κ.w.heap ++ κ'.w.heap.extract κ.w.heap.size κ'.w.heap.size := by
  apply Array.ext_getElem?
  intro i
  rcases Nat.lt_or_ge i κ.w.heap.size with hi | hi
  ·rw [Array.getElem?_append_left hi]; exact h.same i hi (by simp)
  ·rw [Array.getElem?_append_right hi, Array.getElem?_extract]
   split
   ·congr 1; omega
   ·rw [Array.getElem?_eq_none (by omega)]
 cases hw : κ'.w with
 | mk heap tape drawn os output =>
  have h2 := h.tape; have h3 := h.os; have h4 := h.output
  rw [hw] at e1 h2 h3 h4 hd
  simp only at e1 h2 h3 h4 hd
  simp only [Sort.grow, World.drewN]
  subst h2 h3 h4
  rw [← e1]
  congr 1; omega
theorem flat_list {γ : Type} [Inhabited γ] (enc : γ → List Value) (k : Nat) (hk : ∀ x, (enc x).length = k) : ∀ L : List γ, (List.range (L.length * k)).map (fun t => (enc L[t / k]!)[t % k]!) = (L.map enc).flatten
 | [] => by simp
 | x :: xs => by
  have ih := flat_list enc k hk xs
  rcases Nat.eq_zero_or_pos k with h0 | h0
  ·subst h0
   have : ∀ M : List γ, (M.map enc).flatten = [] := fun M => by
    rw [List.flatten_eq_nil_iff]; intro l hl; obtain ⟨y, _, rfl⟩ := List.mem_map.1 hl; exact List.eq_nil_of_length_eq_zero (hk y)
   rw [this]; simp
  ·rw [List.length_cons, Nat.add_mul, Nat.one_mul, Nat.add_comm, List.range_add, List.map_append, List.map_cons, List.flatten_cons, ← ih, List.map_map]
   congr 1
   ·apply List.ext_getElem
    ·simp [hk]
    ·intro i h1 h2
     have hi : i < k := by simpa using h1
     simp [Nat.div_eq_of_lt hi, Nat.mod_eq_of_lt hi, getElem!_pos, h2]
   ·apply List.map_congr_left
    intro t _
    simp only [Function.comp, Nat.add_div_left _ h0, Nat.add_mod_left]
    rfl
theorem flat_arr {γ : Type} [Inhabited γ] (enc : γ → List Value) (k : Nat) (hk : ∀ x, (enc x).length = k) (d : Array γ) : (Sort.flatK enc k d).toList.map id = (d.toList.map enc).flatten := by
 rw [List.map_id, ← flat_list enc k hk]
 simp only [Sort.flatK, Array.toList_map, Array.toList_range, Array.length_toList]
 apply List.map_congr_left
 intro t _
 congr 2
 simp [getElem!_def]
section
variable {α : Type} {enc : α → List PV} {encV : α → List Value}
theorem rpss_enc {κ : Kr} (hinv : ∀ x ds, Rps κ (enc x) ds → ds = encV x) : ∀ {xs : List α} {dss : List (List Value)}, Rpss κ (xs.map enc) dss → dss = xs.map encV
 | [], _, h => h.nil_inv
 | x :: xs, _, h => by
  obtain ⟨d, ds, rfl, h1, h2⟩ := h.cons_inv
  rw [rpss_enc hinv h2, hinv _ _ h1]; rfl
theorem rpss_enc_of {κ : Kr} (hmk : ∀ x, Rps κ (enc x) (encV x)) : ∀ {xs : List α}, Rpss κ (xs.map enc) (xs.map encV)
 | [] => .nil
 | x :: xs => .cons (hmk x) (rpss_enc_of hmk)
theorem callSF [Inhabited α] {f g T k : Nat} {ρs : Shelf.Ren} (L : SlLaysF0.n6 Tryz.prog ρs) (hf : ρs.f 6 = f) (fOk : FnOk f) (gOk : FnOk g) (aE : ∀ w, (isAgg (ρs.t 24)).run Tryz.prog w = .ok true w) (zE : ∀ w, (Go.sizeOf (ρs.t 24)).run Tryz.prog w = .ok k w)
    (hk : ∀ x, (encV x).length = k) (h1 : ∀ x, ∀ v ∈ encV x, v.oneCell' = true) (hinv : ∀ κ x ds, Rps κ (enc x) ds → ds = encV x) (hmk : ∀ κ x, Rps κ (enc x) (encV x)) (cf : α → α → Int) (hO : Sort.SWO (ltOf cf)) (hT : ∀ x y, ltOf cf x y = false → ltOf cf y x = false → x = y)
    (hcmp : ∀ x y, PF g [.agg (enc x), .agg (enc y)] (pI (cf x y))) {p0 : List α} {a : Option Addr} {n c : Nat} : PCall f [.v (.slice a n c), .fn g []] [PRes.row a n c T k (List.map enc p0)] (fun pv ρ' => pv = .tup [] ∧ ρ' = [PRes.row a n c T k (List.map enc (isort (ltOf cf) p0))]) := fun κ args ρ gk ha hr => by
  subst hf
  obtain ⟨v, ws, rfl, ha1, ha2⟩ := ha.cons_inv
  obtain ⟨v2, ws2, rfl, ha3, ha4⟩ := ha2.cons_inv
  rw [ha4.nil_inv, ha1.val]
  have hv2 : v2 = .func (.func g) #[] #[] := by
    cases ha3 with
    | fn h => rw [h.nil_inv]
  subst hv2
  obtain ⟨r0, l', rfl, hr1, hr2⟩ := hr.cons_inv
  have := hr2.nil_inv; subst this
  refine ⟨fOk, fun hi => ?_⟩
  have hn1 : ∀ l : List α, ∀ cs ∈ l.map encV, cs.length = k := fun l cs hcs => by obtain ⟨q, _, rfl⟩ := List.mem_map.1 hcs; exact hk q
  cases hr1 with
  | row hb ho hc =>
    have hd := rpss_enc (hinv κ) hc; subst hd
    have how := hi.own _ (List.mem_cons_self)
    cases a with
    | none =>
      obtain ⟨rfl, rfl, h3⟩ := how
      have hp : p0 = [] := List.map_eq_nil_iff.1 h3
      subst hp
      refine (AnyF.slices_SortFunc_none L none 0 _ κ.w).mono fun e w' ⟨h1, h2⟩ => ?_
      subst h1 h2
      exact ⟨_, _, κ, rfl, rfl, hi, .tup [], _, .tup .nil, .cons (.row hb ho (by exact .nil)) .nil, rfl, rfl⟩
    | some ad =>
      obtain ⟨q1, h2, h3, h4, h5, cur, h6, h7, h8⟩ := how
      obtain ⟨b, off, sp⟩ := ad
      injection q1 with h1a h1b h1c
      subst h1b h1c
      have hblk : b < κ.w.heap.size := (hi.blk _ (List.mem_cons_self) b rfl).1
      have hn : n = p0.toArray.size := by rw [← h2]; simp
      have hz : (Sort.flatK encV k p0.toArray).size = n * k := by rw [Sort.size_flatK, ← hn]
      have hft : (Sort.flatK encV k p0.toArray).toList = cur.toList.take (n * k) := by
        rw [h8, ← flat_arr encV k hk, List.map_id]
      have hH : Sort.HoldsK encV k κ.w b 0 p0.toArray := by
        intro j hj
        have hj2 : j < n * k := by rw [← hz]; exact hj
        have hj3 : (Sort.flatK encV k p0.toArray)[j]? = cur[j]? := by
          rw [← Array.getElem?_toList, hft, List.getElem?_take, if_pos hj2, Array.getElem?_toList]
        constructor
        · simp only [World.cell?, h6, Option.isSome_none, Bool.false_eq_true, if_false, Nat.zero_add]
          rw [← hj3, Array.getElem?_eq_getElem hj, getElem!_pos _ j hj]; rfl
        · simp [World.frozen?, h6]
      have hcl : CmpLays Tryz.prog g #[] encV k cf b 0 p0.toArray.size κ.w := fun m os dk hs x y => by
        obtain ⟨i1, k1⟩ := inv_sorted (m := m) (os := os) (e := id) (D := Sort.flatK encV k dk) (css' := dk.toList.map encV) hi (flat_arr encV k hk dk) (by rw [List.length_map, Array.length_toList, hs, hn]) (hn1 _)
        have hc2 := hcmp x y ⟨_, κ.S⟩ [.agg (encV x).toArray, .agg (encV y).toArray] (gk.mono k1) (.cons (.agg (h1 x) (hmk _ x)) (.cons (.agg (h1 y) (hmk _ y)) .nil))
        refine (hc2.2 ⟨Le.refl _ _, i1.fin, by simp, by simp, List.Pairwise.nil⟩).mono fun e w' ⟨v, ρ', κ', g1, g2, g3, g4⟩ => ?_
        obtain ⟨q, os', hq⟩ := le_grow g3.le
        subst g1 g2
        exact ⟨by rw [g4.2.val], q, os', hq⟩
      rw [hn]
      refine (AnyQ.slices_SortFunc_total L k aE zE encV hk h1 cf hO g #[] b 0 c p0.toArray κ.w (fun args w => run_callFunc gOk args w) hcl hH hblk (by rw [← hn]; unfold maxLen at h5; omega) hT).mono fun e w' ⟨k1, m, os, k2⟩ => ?_
      have hso : (p0.toArray.toList.mergeSort fun x y => !(ltOf cf) y x) = isort (ltOf cf) p0 := by
        refine sorted_uniq (lt := ltOf cf) hT ?_ (isort_sorted hO.trans hO.ntrans hO.irrefl p0) ((List.mergeSort_perm _ _).trans isort_perm.symm)
        have h := List.pairwise_mergeSort (le := fun x y : α => !(ltOf cf) y x) (fun a b c h1 h2 => by
          simp only [Bool.not_eq_true'] at h1 h2 ⊢; exact hO.ntrans _ _ _ h2 h1) (fun a b => by
          cases e1 : ltOf cf b a
          · simp
          · cases e2 : ltOf cf a b
            · simp
            · have := hO.trans _ _ _ e1 e2; rw [hO.irrefl] at this; cases this) p0
        exact h.imp fun {a b} hab => by simpa using hab
      rw [hso] at k2
      subst k1 k2
      obtain ⟨i1, i2⟩ := inv_sorted (m := m) (os := os) (e := id) (css' := (isort (ltOf cf) p0).map encV) (D := Sort.flatK encV k (isort (ltOf cf) p0).toArray) hi (flat_arr encV k hk _) (by rw [List.length_map, isort_len]; rw [← h2]; simp) (hn1 _)
      exact ⟨_, _, ⟨_, κ.S⟩, rfl, rfl, i1, .tup [], _, .tup .nil, .cons (.row hb (by intro cs hcs; obtain ⟨q, _, rfl⟩ := List.mem_map.1 hcs; exact h1 q) (rpss_enc_of (hmk _))) .nil, rfl, by rw [← hn]⟩
end
end SX
end Go.Proofs.YtiijbkaiipjpkaaGreatDoor
set_option maxRecDepth 100000
namespace Go.Proofs.YtiijbkaiipjpkaaGreatDoor
namespace SX
open Go
theorem cmpI (a b : Int) : cmp_Compare_int a b = some (if a < b then -1 else if b < a then 1 else 0) := by
 unfold cmp_Compare_int cmp_isNaN_int
 simp only [bne_self_eq_false, Option.bind_some, cond_false]
 by_cases h : a < b
 ·rw [decide_eq_true h, if_pos h]; rfl
 ·rw [decide_eq_false h, if_neg h]
  by_cases h2 : b < a
  ·rw [decide_eq_true h2, if_pos h2]; rfl
  ·rw [decide_eq_false h2, if_neg h2]; rfl
theorem cmpOr2 (a b : Int) : cmp_Or_int [a, b] = some (if a = 0 then b else a) := by
 unfold cmp_Or_int
 refine (find_loop (l := [a, b]) (by simp) (fun _ x => cond (x != 0) (some (.inr x)) none) (.inl ()) (fun k hk => ?_) (by rw [dnlt]; rfl)).trans ?_
 ·rw [dlt hk, cond_true, bnd (idx_nat hk), wnext hk (by simp)]
  cases ([a, b][k] != 0) <;> rfl
 ·rw [findS_find (fun x : Int => x != 0) (fun x => (Sum.inr x : Unit ⊕ Int))]
  by_cases ha : a = 0
  ·subst ha
   by_cases hb : b = 0
   ·subst hb; rfl
   ·simp [hb]
  ·simp [ha]
def ltClaim (x y : TOriginClaim) : Bool := decide (x.Product < y.Product) || (decide (x.Product = y.Product) && decide (x.Agreement < y.Agreement))
def cfClaim (x y : TOriginClaim) : Int := if (if x.Product < y.Product then (-1 : Int) else if y.Product < x.Product then 1 else 0) = 0 then (if x.Agreement < y.Agreement then -1 else if y.Agreement < x.Agreement then 1 else 0) else (if x.Product < y.Product then -1 else if y.Product < x.Product then 1 else 0)
theorem ltOf_claim : ltOf cfClaim = ltClaim := by
 funext x y
 unfold ltOf cfClaim ltClaim
 rcases Int.lt_trichotomy x.Product y.Product with h | h | h
 ·rw [if_pos h]; simp [h]
 ·simp only [h, Int.lt_irrefl, if_false, if_true, decide_false, decide_true, Bool.false_or, Bool.true_and]
  rcases Int.lt_trichotomy x.Agreement y.Agreement with h2 | h2 | h2
  ·rw [if_pos h2]; simp [h2]
  ·simp [h2]
  ·rw [if_neg (by omega), if_pos h2]; simp; omega
 ·have h1 : ¬ x.Product < y.Product := by omega
  have h3 : ¬ x.Product = y.Product := by omega
  simp [h, h1, h3]
theorem cmpClaims (x y : TOriginClaim) : cumulation_compareClaims x y = some (cfClaim x y) := by
 unfold cumulation_compareClaims cfClaim
 rw [cmpI, cmpI]
 simp only [Option.bind_some, cmpOr2]
theorem ltClaim_iff (x y : TOriginClaim) : ltClaim x y = true ↔ x.Product < y.Product ∨ (x.Product = y.Product ∧ x.Agreement < y.Agreement) := by simp [ltClaim]
theorem ltClaim_not (x y : TOriginClaim) : ltClaim x y = false ↔ ¬ (x.Product < y.Product ∨ (x.Product = y.Product ∧ x.Agreement < y.Agreement)) := by rw [← ltClaim_iff]; simp
theorem ltClaim_irr (x : TOriginClaim) : ltClaim x x = false := by rw [ltClaim_not]; omega
theorem ltClaim_tr (x y z : TOriginClaim) : ltClaim x y = true → ltClaim y z = true → ltClaim x z = true := by simp only [ltClaim_iff]; omega
theorem ltClaim_ntr (x y z : TOriginClaim) : ltClaim x y = false → ltClaim y z = false → ltClaim x z = false := by simp only [ltClaim_not]; omega
theorem ltClaim_tot (x y : TOriginClaim) : ltClaim x y = false → ltClaim y x = false → x = y := by
 simp only [ltClaim_not]; intro h1 h2
 cases x; cases y; simp at h1 h2 ⊢; omega
def slices_SortFunc_api_OriginClaim_api_OriginClaim_cumulation_compareClaims (l : List TOriginClaim) : Option (List TOriginClaim) := some (isort ltClaim l)
theorem slices_SortFunc_api_OriginClaim_api_OriginClaim_cumulation_compareClaims_ok {p0 r : List TOriginClaim} (h : slices_SortFunc_api_OriginClaim_api_OriginClaim_cumulation_compareClaims p0 = some r) {a : Option Addr} {n c : Nat} : PCall 66 [.v (.slice a n c), .fn 67 []] [PRes.row a n c 54 2 (List.map TOriginClaim.enc p0)] (fun pv ρ' => pv = .tup [] ∧ ρ' = [PRes.row a n c 54 2 (List.map TOriginClaim.enc r)]) := by
 obtain rfl := Option.some.inj h
 rw [← ltOf_claim]
 exact callSF Tryz.lSF rfl fk66 fk67 Tryz.isAgg54 Tryz.sizeOf54 (encV := fun x => [.int .i64 x.Product, .int .i64 x.Agreement]) (fun _ => rfl)
  (fun x v hv => by simp at hv; rcases hv with rfl | rfl <;> rfl) (fun κ x ds h => by
   obtain ⟨v, ws, rfl, h1, h2⟩ := h.cons_inv
   obtain ⟨v2, ws2, rfl, h3, h4⟩ := h2.cons_inv
   rw [h1.val, h3.val, h4.nil_inv]) (fun κ x => .cons (.v rfl) (.cons (.v rfl) .nil)) cfClaim
  (by rw [ltOf_claim]; exact ⟨ltClaim_irr, ltClaim_tr, ltClaim_ntr⟩) (by rw [ltOf_claim]; exact ltClaim_tot) (fun x y => cumulation_compareClaims_ok (cmpClaims x y))
end SX
end Go.Proofs.YtiijbkaiipjpkaaGreatDoor
