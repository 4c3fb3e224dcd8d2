/- A part of the proof. No condition. -/
import Derived.Test.YtbedcfghfcmkdaaGreatDoorM4
open Bool (and_eq_true)
open Nat (eq_of_beq_eq_true le_refl mul_one zero_add)
open List (length_map length_set map_cons map_nil map_toArray mem_cons_self)
open Go.IntKind (i64 u64 u8 u32 i32)
set_option linter.unusedVariables false
set_option linter.unusedSimpArgs false
set_option maxHeartbeats 4000000
set_option maxRecDepth 100000
namespace Go.Proofs.YtbedcfghfcmkdaaGreatDoor
namespace SX
open Go
attribute [local irreducible] Wa Ka Vc Ye Td Qb Na Ra Pa Vb Ub Nc Jb Uc Qd PF Yc La Lb dU dM ke kV ip jN Yd Ya aW bx app mk gd lb nz sN lC sub ff ji xi rE ja ex lJ eO IntKind.wrap Int.tmod Int.tdiv Op.bytesLess strOfNums
def dO (p0:(List Xh)):Option Bool:=cond (decide (8<(p0.length:Int))) (some false) ((aW (S:=Int) (T:=(Unit)⊕(_)) (fun v2=>cond (decide (v2<(p0.length:Int))) ((bx p0 v2).bind fun m6=>(mH m6).bind fun x7=>(gd ((!(!x7))&&(decide (0<v2))) (bx p0 (i64.wrap (v2 - 1)))).bind fun m8=>cond ((!x7)||((decide (0<v2))&&(Op.bytesLess m6.toList m8.toList||decide (m6=m8)))) (some (.inr (.inr false))) (some (.inl (i64.wrap (v2+1))))) (some (.inr (.inl ())))) Va 0).bind fun q=>match q with | .inl _=>some true | .inr e=>some e)
theorem ll {p0:(List Xh)} {r:Bool}  (h:dO p0=some r):PF 73 [pL eS p0] (pB r):=by
 unfold dO at h
 refine aV ?_
 refine dk Tryz.func73 rfl Tryz.ntmps73 Tryz.results73 rfl (aQ [2] (by kernel_rfl) (bM (bF [5,6] [(7,pB (decide (8<(p0.length:Int))))] (by kernel_rfl) rfl h (fun hc1 h=>?_) fun hc1 h=>?_)))
 ·refine ag ?_
  refine de [(2,pB false)] (by kernel_rfl) ?_
  exact zz r h rfl
 refine af ?_
 refine bM (aA [(8,pL eS p0),(9,pI (p0.length:Int)),(10,pI 0)] (by kernel_rfl) (ey h fun q4 hq4 h=>?_))
 refine ap (Y:=Unit×Unit) (fun (_,_)=>[]) (fun (_,_)=>[]) (fun (_,_)=>q4=Sum.inl ()) ?_ ?_
 ·refine aG ?_
  refine aJ (Y:=Unit) (S:=Int) _ hq4 (fun _ v2=>[(0,pL eS p0),(8,pL eS p0),(9,pI (p0.length:Int)),(10,pI v2)]) (fun _ v2=>[]) () (jC rfl) bq ?_
  rintro _ v2 o τ hb3;(try dsimp only at hb3);dsimp only [aw]
  refine cH [(11,pB (decide (v2<(p0.length:Int))))] (by kernel_rfl) (br (fh rfl hb3 (fun hc5 hb3=>?_) fun hc5 hb3=>?_))
  ·refine af ?_
   refine eT (ae hb3 fun m6 hm6 hb3=>ai [] [12,13,14] [(3,pI v2),(4,pS m6)] (bX 1 eS hm6 aY) (by kernel_rfl) (cP hb3 fun x7 hx7 hb3=>ae hb3 fun m8 hm8 hb3=>ai [] (rg 15 15) [(30,pB ((!x7)||((decide (0<v2))&&(Op.bytesLess m6.toList m8.toList||decide (m6=m8)))))] (aU 1 (we hx7) (xt 11 eS (fU hm8) aY)) (by kernel_rfl) (fi rfl hb3 (fun hc9 hb3=>?_) fun hc9 hb3=>?_)))
   ·refine ag ?_
    refine aA [(2,pB false)] (by kernel_rfl) (cK (iq ?_))
    refine aX hb3 (fun ht=>?_);subst ht
    refine aO (aS ?_)
    exact zz r h rfl
   refine af ?_
   refine eH (ah [31] [(10,pI (i64.wrap (v2+1)))] (by kernel_rfl) ?_)
   exact aT hb3 () (jC rfl) bq
  refine aL ?_
  refine cJ hb3 (fun ht=>an rfl ?_)
  exact am ((),()) qr bq ht.symm
 rintro ⟨_,_⟩ τ hz;(try dsimp only at hz);subst q4;(try dsimp only at h);dsimp only [aw]
 refine cH [(2,pB true)] (by kernel_rfl) (cK ?_)
 exact zz r h rfl
def cY (p0:(List Xh)):Option Bool:=(gd (decide (0<(p0.length:Int))) (dO p0)).bind fun x1=>some ((decide (0<(p0.length:Int)))&&x1)
theorem kX {p0:(List Xh)} {r:Bool}  (h:cY p0=some r):PF 112 [pL eS p0] (pB r):=by
 unfold cY at h
 refine aV ?_
 refine dk Tryz.func112 rfl Tryz.ntmps112 Tryz.results112 rfl (aQ [2] (by kernel_rfl) (cP h fun x1 hx1 h=>ai [] (rg 3 7) [(2,pB ((decide (0<(p0.length:Int)))&&x1))] (iJ 5 (fun hc=>ll (fU hx1 hc)) aY) (by kernel_rfl) (cK ?_)))
 exact zz r h rfl
def dm (p0:Za):Option Int:=(bS p0.Code).bind fun x2=>cond (x2 == 0) (some (1:Int)) (cond (((decide (p0.From<0))||(decide (p0.To<=p0.From)))||(decide (36525<p0.To))) (some (2:Int)) (cond (decide (6<(p0.Terms.length:Int))) (some (8:Int)) ((aW (S:=Int) (T:=(Unit)⊕(_)) (fun v6=>cond (decide (v6<(p0.Terms.length:Int))) ((bx p0.Terms v6).bind fun m10=>(cY m10).bind fun x11=>cond (!x11) (some (.inr (.inr (1:Int)))) (some (.inl (i64.wrap (v6+1))))) (some (.inr (.inl ())))) Va 0).bind fun q=>match q with | .inl _=>Option.bind (cond (x2 == 2) (some ((decide (0<(p0.Terms.length:Int)))||p0.Other)) (cond (x2 == 4) (some ((!(decide (0<(p0.Terms.length:Int))))||p0.Other)) (some ((decide (0<(p0.Terms.length:Int))) == p0.Other)))) (fun v13=>cond v13 (some (1:Int)) (some (0:Int))) | .inr e=>some e)))
theorem jA {p0:Za} {r:Int}  (h:dm p0=some r):PF 64 [.agg (av p0)] (pI r):=by
 unfold dm at h
 refine aV ?_
 refine dk Tryz.func64 rfl Tryz.ntmps64 Tryz.results64 rfl (cL rfl (be (cs:=(av p0)) rfl rfl (fun b1=>aZ [2] (by kernel_rfl) (cP h fun x2 hx2 h=>ai [0] [8,9,10] [(3,pI x2)] (aU 2 (f9 hx2) aY) (by kernel_rfl) (eT (bF [12,13] [(11,pB (x2 == 0))] (by kernel_rfl) rfl h (fun hc3 h=>?_) fun hc3 h=>?_))))))
 ·refine ag ?_
  refine aA [(2,pI 1)] (by kernel_rfl) (cK (iq ?_))
  exact zz r h rfl
 refine ag ?_
 refine aK [0,0,0,0] (rg 15 15) [(14,pB (((decide (p0.From<0))||(decide (p0.To<=p0.From)))||(decide (36525<p0.To))))] (by kernel_rfl) (fi rfl h (fun hc4 h=>?_) fun hc4 h=>?_)
 ·refine ag ?_
  refine aA [(2,pI 2)] (by kernel_rfl) (cK (iq ?_))
  exact zz r h rfl
 refine ag ?_
 refine aK [0] [31,32,33,34] [(30,pB (decide (6<(p0.Terms.length:Int))))] (by kernel_rfl) (fi rfl h (fun hc5 h=>?_) fun hc5 h=>?_)
 ·refine ag ?_
  refine aA [(2,pI 8)] (by kernel_rfl) (cK (iq ?_))
  exact zz r h rfl
 refine af ?_
 refine aF (bM (aK [0] [35] [(36,pL (eL eS) p0.Terms),(37,pI (p0.Terms.length:Int)),(38,pI 0)] (by kernel_rfl) (ey h fun q8 hq8 h=>?_)))
 refine ap (Y:=Unit×Unit) (fun (_,_)=>[(1,pP b1 0),(3,pI x2)]) (fun (_,_)=>[Qa.b b1 95 (av p0)]) (fun (_,_)=>q8=Sum.inl ()) ?_ ?_
 ·refine aG ?_
  refine aJ (Y:=Unit) (S:=Int) _ hq8 (fun _ v6=>[(1,pP b1 0),(3,pI x2),(36,pL (eL eS) p0.Terms),(37,pI (p0.Terms.length:Int)),(38,pI v6)]) (fun _ v6=>[Qa.b b1 95 (av p0)]) () (gA rfl) bN ?_
  rintro _ v6 o τ hb7;(try dsimp only at hb7);dsimp only [aw]
  refine cH [(39,pB (decide (v6<(p0.Terms.length:Int))))] (by kernel_rfl) (br (fh rfl hb7 (fun hc9 hb7=>?_) fun hc9 hb7=>?_))
  ·refine af ?_
   refine eT (ae hb7 fun m10 hm10 hb7=>ai [] [40,41] [(5,pL eS m10)] (bX 0 (eL eS) hm10 aY) (by kernel_rfl) (cP hb7 fun x11 hx11 hb7=>ai [] [42,43] [(44,pB (!x11))] (aU 1 (kX hx11) aY) (by kernel_rfl) (fi rfl hb7 (fun hc12 hb7=>?_) fun hc12 hb7=>?_)))
   ·refine ag ?_
    refine aA [(2,pI 1)] (by kernel_rfl) (cK (iq ?_))
    refine aX hb7 (fun ht=>?_);subst ht
    refine aO (aS ?_)
    exact zz r h rfl
   refine af ?_
   refine eH (ah [45] [(38,pI (i64.wrap (v6+1)))] (by kernel_rfl) ?_)
   exact aT hb7 () (gA rfl) bN
  refine aL ?_
  refine cJ hb7 (fun ht=>an rfl ?_)
  exact am ((),()) (lK rfl) bN ht.symm
 rintro ⟨_,_⟩ τ hz;(try dsimp only at hz);subst q8;(try dsimp only at h);dsimp only [aw]
 refine ag (aK [0] [46,47,48,49] [(6,pB (decide (0<(p0.Terms.length:Int))))] (by kernel_rfl) (br (aK [0] [50,51,52,53] [(7,pB ((decide (0<(p0.Terms.length:Int))) == p0.Other))] (by kernel_rfl) (bM (aA [(54,pI x2)] (by kernel_rfl) (ey h fun q14 hq14 h=>?_))))))
 refine ap (Y:=Unit×Bool) (fun (_,v13)=>[(7,pB v13)]) (fun (_,v13)=>[]) (fun (_,v13)=>q14=v13) ?_ ?_
 ·skip
  refine rx (bF [56] [(55,pB (x2 == 2))] (by kernel_rfl) rfl hq14 (fun hc15 hq14=>?_) fun hc15 hq14=>?_)
  ·refine aK [0] (rg 57 5) [(7,pB ((decide (0<(p0.Terms.length:Int)))||p0.Other))] (by kernel_rfl) ?_
   refine aF ?_
   obtain rfl:=osi hq14
   exact am ((),((decide (0<(p0.Terms.length:Int)))||p0.Other)) (oC rfl) bq rfl
  refine ag ?_
  refine bF [63] [(62,pB (x2 == 4))] (by kernel_rfl) rfl hq14 (fun hc16 hq14=>?_) fun hc16 hq14=>?_
  ·refine aK [0] (rg 64 6) [(7,pB ((!(decide (0<(p0.Terms.length:Int))))||p0.Other))] (by kernel_rfl) ?_
   refine aF ?_
   obtain rfl:=osi hq14
   exact am ((),((!(decide (0<(p0.Terms.length:Int))))||p0.Other)) (oC rfl) bq rfl
  refine af ?_
  refine aF ?_
  obtain rfl:=osi hq14
  exact am ((),((decide (0<(p0.Terms.length:Int))) == p0.Other)) (oC rfl) bq rfl
 rintro ⟨_,v13⟩ τ hz;(try dsimp only at hz);subst q14;(try dsimp only at h);dsimp only [aw]
 refine dV (aA [(70,pB v13)] (by kernel_rfl) (fi rfl h (fun hc17 h=>?_) fun hc17 h=>?_))
 ·refine ag ?_
  refine de [(2,pI 1)] (by kernel_rfl) ?_
  exact zz r h rfl
 refine af ?_
 refine br (aA [(2,pI 0)] (by kernel_rfl) (cK ?_))
 exact zz r h rfl
def cw (p0:Ze):Option Int:=(bS p0.Scope).bind fun x2=>(gd (!(x2 == 0)) (cY p0.Words)).bind fun x3=>cond ((x2 == 0)||(!x3)) (some (1:Int)) ((gd (!decide (p0.Target=(⟨#[]⟩:Xh))) (bS p0.Target)).bind fun x5=>cond ((!decide (p0.Target=(⟨#[]⟩:Xh)))&&(x5 != 4)) (some (1:Int)) (some (0:Int)))
theorem jW {p0:Ze} {r:Int}  (h:cw p0=some r):PF 67 [.agg [pS p0.Scope,pL eS p0.Words,pS p0.Target]] (pI r):=by
 unfold cw at h
 refine aV ?_
 refine dk Tryz.func67 rfl Tryz.ntmps67 Tryz.results67 rfl (cL rfl (be (cs:=[pS p0.Scope,pL eS p0.Words,pS p0.Target]) rfl rfl (fun b1=>aZ [2] (by kernel_rfl) (bM (ae h fun x2 hx2 h=>ae h fun x3 hx3 h=>ai [0,0] (rg 3 9) [(12,pB ((x2 == 0)||(!x3)))] (aU 2 (f9 hx2) (iJ 7 (fun hc=>kX (fU hx3 hc)) aY)) (by kernel_rfl) (fi rfl h (fun hc4 h=>?_) fun hc4 h=>?_))))))
 ·refine ag ?_
  refine de [(2,pI 1)] (by kernel_rfl) ?_
  exact zz r h rfl
 refine af ?_
 refine bM (ae h fun x5 hx5 h=>ai [0,0] (rg 13 8) [(21,pB ((!decide (p0.Target=(⟨#[]⟩:Xh)))&&(x5 != 4)))] (iJ 6 (fun hc=>f9 (fU hx5 hc)) aY) (by kernel_rfl) (fi rfl h (fun hc6 h=>?_) fun hc6 h=>?_))
 ·refine ag ?_
  refine de [(2,pI 1)] (by kernel_rfl) ?_
  exact zz r h rfl
 refine af ?_
 refine br (aA [(2,pI 0)] (by kernel_rfl) (cK ?_))
 exact zz r h rfl
def cN (p0:Zh):Option Int:=cond ((decide (300<(p0.Entries.length:Int)))||(decide (100<(p0.Notes.length:Int)))) (some (8:Int)) ((aW (S:=Int) (T:=(Unit)⊕(_)) (fun v3=>cond (decide (v3<(p0.Entries.length:Int))) (Option.bind (α:=(Unit)⊕_) ((bx p0.Entries v3).bind fun m8=>(dm m8).bind fun x10=>cond (x10 != 0) (some (.inr (.inr (.inr x10)))) (cond (v3 == 0) (some (.inl ())) ((bx p0.Entries (i64.wrap (v3 - 1))).bind fun m13=>(eg m13 m8).bind fun x14=>cond (x14 != 0) (some (.inr (.inr (.inr x14)))) (some (.inl ()))))) (fun q=>match q with | .inl _=>some (.inl (i64.wrap (v3+1))) | .inr e=>some e)) (some (.inr (.inl ())))) Va 0).bind fun q=>match q with | .inl _=>(aW (S:=Int) (T:=(Unit)⊕(_)) (fun v16=>cond (decide (v16<(p0.Entries.length:Int))) ((bx p0.Entries v16).bind fun m20=>(fE p0 m20).bind fun x22=>cond (!x22) (some (.inr (.inr (6:Int)))) (some (.inl (i64.wrap (v16+1))))) (some (.inr (.inl ())))) Va 0).bind (fun q=>match q with | .inl _=>(aW (S:=Int) (T:=(Unit)⊕(_)) (fun v24=>cond (decide (v24<(p0.Notes.length:Int))) ((bx p0.Notes v24).bind fun m28=>(cw m28).bind fun x30=>cond (x30 != 0) (some (.inr (.inr x30))) (some (.inl (i64.wrap (v24+1))))) (some (.inr (.inl ())))) Va 0).bind (fun q=>match q with | .inl _=>some (0:Int) | .inr e=>some e) | .inr e=>some e) | .inr e=>some e)
theorem jg {p0:Zh} {r:Int}  (h:cN p0=some r):PF 31 [.agg [pL Za.enc p0.Entries,pL Ze.enc p0.Notes]] (pI r):=by
 unfold cN at h
 refine aV ?_
 refine dk Tryz.func31 rfl Tryz.ntmps31 Tryz.results31 rfl (cL rfl (be (cs:=[pL Za.enc p0.Entries,pL Ze.enc p0.Notes]) rfl rfl (fun b1=>aZ [2] (by kernel_rfl) (bM (aK [0,0] (rg 12 9) [(21,pB ((decide (300<(p0.Entries.length:Int)))||(decide (100<(p0.Notes.length:Int)))))] (by kernel_rfl) (fi rfl h (fun hc2 h=>?_) fun hc2 h=>?_))))))
 ·refine ag ?_
  refine de [(2,pI 8)] (by kernel_rfl) ?_
  exact zz r h rfl
 refine af ?_
 refine bM (aK [0] [22] [(23,pL Za.enc p0.Entries),(24,pI (p0.Entries.length:Int)),(25,pI 0)] (by kernel_rfl) (ey h fun q5 hq5 h=>?_))
 refine ap (Y:=Unit×Unit) (fun (_,_)=>[(1,pP b1 0)]) (fun (_,_)=>[Qa.b b1 26 [pL Za.enc p0.Entries,pL Ze.enc p0.Notes]]) (fun (_,_)=>q5=Sum.inl ()) ?_ ?_
 ·refine aG ?_
  refine aJ (Y:=Unit) (S:=Int) _ hq5 (fun _ v3=>[(1,pP b1 0),(23,pL Za.enc p0.Entries),(24,pI (p0.Entries.length:Int)),(25,pI v3)]) (fun _ v3=>[Qa.b b1 26 [pL Za.enc p0.Entries,pL Ze.enc p0.Notes]]) () (jC rfl) bN ?_
  rintro _ v3 o τ hb4;(try dsimp only at hb4);dsimp only [aw]
  refine cH [(26,pB (decide (v3<(p0.Entries.length:Int))))] (by kernel_rfl) (br (fh rfl hb4 (fun hc6 hb4=>?_) fun hc6 hb4=>?_))
  ·refine af ?_
   refine cP hb4 fun q7 hq7 hb4=>?_
   refine ap (Y:=Unit×Unit) (fun (_,_)=>[(1,pP b1 0),(23,pL Za.enc p0.Entries),(24,pI (p0.Entries.length:Int)),(25,pI v3)]) (fun (_,_)=>[Qa.b b1 26 [pL Za.enc p0.Entries,pL Ze.enc p0.Notes]]) (fun (_,_)=>q7=Sum.inl ()) ?_ ?_
   ·skip
    refine rx (ae hq7 fun m8 hm8 hq7=>cS 3 [] [28] [(27,pI v3),(29,.agg (av m8))] (bX 1 Za.enc hm8 aY) (by kernel_rfl) (aj rfl (aP (cs:=[pS Uh,pI 0,pI 0,pN,pB false]) rfl rfl rfl rfl (fun b9=>ba 1 [(3,pI v3)] (by kernel_rfl) (aM rfl rfl (al (vs:=(av m8)) rfl rfl rfl rfl rfl bT td (au (bM (ae hq7 fun x10 hx10 hq7=>ai [0] [30,31] [(5,pI x10)] (aU 1 (jA hx10) aY) (by kernel_rfl) (br (bF [32] [(33,pB (x10 != 0))] (by kernel_rfl) rfl hq7 (fun hc11 hq7=>?_) fun hc11 hq7=>?_)))))))))))
    ·refine ag ?_
     refine ah [34] [(2,pI x10)] (by kernel_rfl) (sO (aO (aS ?_)))
     obtain rfl:=osi hq7
     refine aX hb4 (fun ht=>?_);subst ht
     refine aO (aS ?_)
     exact zz r h rfl
    refine af ?_
    refine bM (bF [35] [(36,pB (v3 == 0))] (by kernel_rfl) rfl hq7 (fun hc12 hq7=>?_) fun hc12 hq7=>?_)
    ·refine aL ?_
     refine cj (an rfl ?_)
     obtain rfl:=osi hq7
     exact am ((),()) (jC rfl) (bg (aC aN) bq) rfl
    refine af ?_
    refine br (bE (ρd:=[]) [(0,0),(1,0),(2,0),(3,0),(4,0),(5,0),(6,0),(7,1),(8,0)] _ Vh (by kernel_rfl) rfl (ae hq7 fun m13 hm13 hq7=>ae hq7 fun x14 hx14 hq7=>ca 9 [1,0] (rg 37 8) [(6,pI x14)] (bX 4 Za.enc hm13 (aU 7 (nG hx14) aY)) (by kernel_rfl) (bZ (br (bF [45] [(46,pB (x14 != 0))] (by kernel_rfl) rfl hq7 (fun hc15 hq7=>?_) fun hc15 hq7=>?_)))))
    ·refine ag ?_
     refine ah [47] [(2,pI x14)] (by kernel_rfl) (cK (aO (aS ?_)))
     obtain rfl:=osi hq7
     refine aX hb4 (fun ht=>?_);subst ht
     refine aO (aS ?_)
     exact zz r h rfl
    refine af ?_
    refine aF ?_
    obtain rfl:=osi hq7
    exact am ((),()) (jC rfl) (bg (aC aN) bq) rfl
   rintro ⟨_,_⟩ τ hz;(try dsimp only at hz);subst q7;(try dsimp only at hb4);dsimp only [aw]
   refine ah [48] [(25,pI (i64.wrap (v3+1)))] (by kernel_rfl) ?_
   exact aT hb4 () (jC rfl) bN
  refine aL ?_
  refine cJ hb4 (fun ht=>an rfl ?_)
  exact am ((),()) (oC rfl) bN ht.symm
 rintro ⟨_,_⟩ τ hz;(try dsimp only at hz);subst q5;(try dsimp only at h);dsimp only [aw]
 refine dV (aK [0] [49] [(50,pL Za.enc p0.Entries),(51,pI (p0.Entries.length:Int)),(52,pI 0)] (by kernel_rfl) (ey h fun q18 hq18 h=>?_))
 refine ap (Y:=Unit×Unit) (fun (_,_)=>[(1,pP b1 0)]) (fun (_,_)=>[Qa.b b1 26 [pL Za.enc p0.Entries,pL Ze.enc p0.Notes]]) (fun (_,_)=>q18=Sum.inl ()) ?_ ?_
 ·refine aG ?_
  refine aJ (Y:=Unit) (S:=Int) _ hq18 (fun _ v16=>[(1,pP b1 0),(50,pL Za.enc p0.Entries),(51,pI (p0.Entries.length:Int)),(52,pI v16)]) (fun _ v16=>[Qa.b b1 26 [pL Za.enc p0.Entries,pL Ze.enc p0.Notes]]) () (jC rfl) bN ?_
  rintro _ v16 o τ hb17;(try dsimp only at hb17);dsimp only [aw]
  refine cH [(53,pB (decide (v16<(p0.Entries.length:Int))))] (by kernel_rfl) (br (fh rfl hb17 (fun hc19 hb17=>?_) fun hc19 hb17=>?_))
  ·refine af ?_
   refine eT (ae hb17 fun m20 hm20 hb17=>cS 2 [] [54] [(55,.agg (av m20))] (bX 0 Za.enc hm20 aY) (by kernel_rfl) (aj rfl (aP (cs:=[pS Uh,pI 0,pI 0,pN,pB false]) rfl rfl rfl rfl (fun b21=>aM rfl rfl (al (vs:=(av m20)) rfl rfl rfl rfl rfl bT td (au (cP hb17 fun x22 hx22 hb17=>ai [1,0] [56,57,58] [(59,pB (!x22))] (aU 2 (o4 hx22) aY) (by kernel_rfl) (fi rfl hb17 (fun hc23 hb17=>?_) fun hc23 hb17=>?_))))))))
   ·refine ag ?_
    refine aA [(2,pI 6)] (by kernel_rfl) (cK (iq ?_))
    refine aX hb17 (fun ht=>?_);subst ht
    refine aO (aS ?_)
    exact zz r h rfl
   refine af ?_
   refine eH (ah [60] [(52,pI (i64.wrap (v16+1)))] (by kernel_rfl) ?_)
   exact aT hb17 () (jC rfl) (bg (aC aN) bq)
  refine aL ?_
  refine cJ hb17 (fun ht=>an rfl ?_)
  exact am ((),()) (oC rfl) bN ht.symm
 rintro ⟨_,_⟩ τ hz;(try dsimp only at hz);subst q18;(try dsimp only at h);dsimp only [aw]
 refine dV (aK [0] [61] [(62,pL Ze.enc p0.Notes),(63,pI (p0.Notes.length:Int)),(64,pI 0)] (by kernel_rfl) (ey h fun q26 hq26 h=>?_))
 refine ap (Y:=Unit×Unit) (fun (_,_)=>[]) (fun (_,_)=>[]) (fun (_,_)=>q26=Sum.inl ()) ?_ ?_
 ·refine aG ?_
  refine aJ (Y:=Unit) (S:=Int) _ hq26 (fun _ v24=>[(62,pL Ze.enc p0.Notes),(63,pI (p0.Notes.length:Int)),(64,pI v24)]) (fun _ v24=>[]) () (nt rfl) bq ?_
  rintro _ v24 o τ hb25;(try dsimp only at hb25);dsimp only [aw]
  refine cH [(65,pB (decide (v24<(p0.Notes.length:Int))))] (by kernel_rfl) (br (fh rfl hb25 (fun hc27 hb25=>?_) fun hc27 hb25=>?_))
  ·refine af ?_
   refine eT (ae hb25 fun m28 hm28 hb25=>cS 2 [] [66] [(67,.agg [pS m28.Scope,pL eS m28.Words,pS m28.Target])] (bX 0 Ze.enc hm28 aY) (by kernel_rfl) (aj rfl (aP (cs:=[pS Uh,pN,pS Uh]) rfl rfl rfl rfl (fun b29=>aM rfl rfl (al (vs:=[pS m28.Scope,pL eS m28.Words,pS m28.Target]) rfl rfl rfl rfl rfl bT AW (au (cP hb25 fun x30 hx30 hb25=>ai [0] [68,69] [(11,pI x30)] (aU 1 (jW hx30) aY) (by kernel_rfl) (br (bF [70] [(71,pB (x30 != 0))] (by kernel_rfl) rfl hb25 (fun hc31 hb25=>?_) fun hc31 hb25=>?_)))))))))
   ·refine ag ?_
    refine ah [72] [(2,pI x30)] (by kernel_rfl) (cK (iq ?_))
    refine aX hb25 (fun ht=>?_);subst ht
    refine aO (aS ?_)
    exact zz r h rfl
   refine af ?_
   refine eH (ah [73] [(64,pI (i64.wrap (v24+1)))] (by kernel_rfl) ?_)
   exact aT hb25 () (nt rfl) bq
  refine aL ?_
  refine cJ hb25 (fun ht=>an rfl ?_)
  exact am ((),()) qr bq ht.symm
 rintro ⟨_,_⟩ τ hz;(try dsimp only at hz);subst q26;(try dsimp only at h);dsimp only [aw]
 refine cH [(2,pI 0)] (by kernel_rfl) (cK ?_)
 exact zz r h rfl
def eC (p0:Za):Option Xh:=(strconv_Itoa p0.From).bind fun x2=>(strconv_Itoa p0.To).bind fun x3=>(aW (S:=(List Xh)×Int) (T:=((List Xh))) (fun (l7,v10)=>cond (decide (v10<(p0.Terms.length:Int))) ((bx p0.Terms v10).bind fun m18=>(strings_Join m18 (⟨#[43]⟩:Xh)).bind fun x19=>(app 16 l7 [x19]).bind fun l22=>some (.inl (l22,(i64.wrap (v10+1))))) (some (.inr l7))) Va ([p0.Code,x2,x3],0)).bind fun l14=>Option.bind (cond p0.Other ((app 16 l14 [(⟨#[42]⟩:Xh)]).bind fun l34=>some l34) (some l14)) (fun l29=>(strings_Join l29 (⟨#[32]⟩:Xh)).bind fun x38=>some x38)
theorem kY {p0:Za} {r:Xh}  (h:eC p0=some r):PF 33 [.agg (av p0)] (pS r):=by
 unfold eC at h
 refine aV ?_
 refine dk Tryz.func33 rfl Tryz.ntmps33 Tryz.results33 rfl (cL rfl (be (cs:=(av p0)) rfl rfl (fun b1=>aZ [2] (by kernel_rfl) (br (bE (ρd:=[]) [(0,0),(1,0),(2,0),(3,0),(5,0),(6,0),(4,1),(7,1),(8,1),(9,0)] _ Vh (by kernel_rfl) rfl (ae h fun x2 hx2 h=>ae h fun x3 hx3 h=>ca 8 [0,0,0] [6,8,9,11,12] [(7,pS p0.Code),(10,pS x2),(13,pS x3)] (aU 6 (cu hx2) (aU 7 (cu hx3) aY)) (by kernel_rfl) (jm rfl rfl rfl (bp rfl rfl rfl rfl rfl (eE rfl (eE rfl (eE rfl jy))) rfl rfl rfl rfl (fun b4=>fB 1 [(3,pO (some ⟨b4,0,none⟩) 3 3)] (by kernel_rfl) (bZ (bM (aK [1] [15] [(16,pL (eL eS) p0.Terms),(17,pI (p0.Terms.length:Int)),(18,pI 0)] (by kernel_rfl) (ey h fun q16 hq16 h=>?_)))))))))))))
 refine ap (Y:=(Option Addr×Nat)×((List Xh))) (fun ((a12,c13),l14)=>[(1,pP b1 0),(3,pO a12 l14.length c13)]) (fun ((a12,c13),l14)=>[Qa.b b1 95 (av p0),Qa.row a12 l14.length c13 9 1 (List.map eS l14)]) (fun ((a12,c13),l14)=>q16=l14) ?_ ?_
 ·refine aG ?_
  refine aJ (Y:=Option Addr×Nat) (S:=(List Xh)×Int) _ hq16 (fun (a8,c9) (l7,v10)=>[(1,pP b1 0),(3,pO a8 l7.length c9),(16,pL (eL eS) p0.Terms),(17,pI (p0.Terms.length:Int)),(18,pI v10)]) (fun (a8,c9) (l7,v10)=>[Qa.b b1 95 (av p0),Qa.row a8 l7.length c9 9 1 (List.map eS l7)]) ((some ⟨b4,0,none⟩),3) (gA rfl) (bg (aC aN) bN) ?_
  rintro ⟨a8,c9⟩ ⟨l7,v10⟩ o τ hb15;(try dsimp only at hb15);dsimp only [aw]
  refine cH [(19,pB (decide (v10<(p0.Terms.length:Int))))] (by kernel_rfl) (br (fh rfl hb15 (fun hc17 hb15=>?_) fun hc17 hb15=>?_))
  ·refine af ?_
   refine eT (ae hb15 fun m18 hm18 hb15=>ai [] [20,21] [(5,pL eS m18)] (bX 0 (eL eS) hm18 aY) (by kernel_rfl) (ey hb15 fun x19 hx19 hb15=>cS 3 [] [23] [(22,pO a8 l7.length c9),(24,pS x19)] (aU 2 (dI hx19) aY) (by kernel_rfl) (aj rfl (bp rfl rfl rfl rfl rfl (eE rfl jy) rfl rfl rfl rfl (fun b20=>ae hb15 fun l22 hl22 hb15=>?_)))))
   refine aj rfl (bw (enc:=eS) rfl rfl rfl rfl rfl rfl rfl rfl rfl eG (by exact aC (aC aN)) hl22 (fun a23 c24=>?_))
   refine aE [(3,pO a23 l22.length c24)] (by kernel_rfl) (eH (ah [27] [(18,pI (i64.wrap (v10+1)))] (by kernel_rfl) ?_))
   exact aT hb15 (a23,c24) (gA rfl) (bg (aC (aC aN)) bN)
  refine aL ?_
  refine cJ hb15 (fun ht=>an rfl ?_)
  exact am ((a8,c9),l7) (lK rfl) tc ht.symm
 rintro ⟨⟨a12,c13⟩,l14⟩ τ hz;(try dsimp only at hz);subst q16;(try dsimp only at h);dsimp only [aw]
 refine dV (aK [0] [28] [(29,pB p0.Other)] (by kernel_rfl) (ey h fun q30 hq30 h=>?_))
 refine ap (Y:=(Option Addr×Nat)×((List Xh))) (fun ((a27,c28),l29)=>[(3,pO a27 l29.length c28)]) (fun ((a27,c28),l29)=>[Qa.row a27 l29.length c28 9 1 (List.map eS l29)]) (fun ((a27,c28),l29)=>q30=l29) ?_ ?_
 ·skip
  refine fh rfl hq30 (fun hc31 hq30=>?_) fun hc31 hq30=>?_
  ·refine ak ?_
   refine ba 1 [(30,pO a12 l14.length c13)] (by kernel_rfl) (aj rfl (bp rfl rfl rfl rfl rfl (eE rfl jy) rfl rfl rfl rfl (fun b32=>ae hq30 fun l34 hl34 hq30=>?_)))
   refine aj rfl (bw (enc:=eS) rfl rfl rfl rfl rfl rfl rfl rfl rfl eG (by exact aC (aC aN)) hl34 (fun a35 c36=>?_))
   refine aE [(3,pO a35 l34.length c36)] (by kernel_rfl) ?_
   obtain rfl:=osi hq30
   exact am ((a35,c36),l34) (oC rfl) bN rfl
  refine af ?_
  obtain rfl:=osi hq30
  exact am ((a12,c13),l14) (oC rfl) (bg (aC aN) bq) rfl
 rintro ⟨⟨a27,c28⟩,l29⟩ τ hz;(try dsimp only at hz);subst q30;(try dsimp only at h);dsimp only [aw]
 refine ag (fC 1 [(33,pO a27 l29.length c28)] (by kernel_rfl) ?_)
 refine dw (enc:=eS) (xs:=l29) 33 rfl (by exact aN) ?_
 refine ae h fun x38 hx38 h=>dh [] [34] [(2,pS x38)] (aU 0 (dI hx38) aY) (by kernel_rfl) (cK ?_)
 exact zz r h rfl
def bo (p0:Xh) (p1:Xh):Option (List Xh):=(gk p0 p1 0 (-1)).bind fun x1=>some x1
theorem cU {p0:Xh} {p1:Xh} {r:(List Xh)}  (h:bo p0 p1=some r):PF 36 [pS p0,pS p1] (pL eS r):=by
 unfold bo at h
 refine aV ?_
 refine dk Tryz.func36 rfl Tryz.ntmps36 Tryz.results36 rfl (aQ [4] (by kernel_rfl) (cP h fun x1 hx1 h=>ai [] [5,6,7] [(4,pL eS x1)] (aU 2 (oa hx1) aY) (by kernel_rfl) (cK ?_)))
 exact zz r h rfl
def fx (p0:Xh):Option (Za×Bool):=(bo p0 (⟨#[32]⟩:Xh)).bind fun x2=>cond (decide ((x2.length:Int)<3)) (some ((⟨Uh,0,0,[],false⟩:Za),false)) ((bx x2 1).bind fun m4=>(dB m4).bind fun x5=>cond false (some ((⟨Uh,0,0,[],false⟩:Za),false)) ((bx x2 2).bind fun m7=>(dB m7).bind fun x8=>cond false (some ((⟨Uh,0,0,[],false⟩:Za),false)) ((bx x2 0).bind fun m10=>(sub x2 3 (x2.length:Int)).bind fun l12=>(aW (S:=Int×(List (List Xh))×Bool) (T:=((List (List Xh))×Bool)) (fun (v13,l15,v18)=>cond (decide (v13<(l12.length:Int))) (((bx l12 v13).bind fun m34=>cond (decide (m34=(⟨#[42]⟩:Xh))) (some (l15,true)) ((bo m34 (⟨#[43]⟩:Xh)).bind fun x36=>(app 24 l15 [x36]).bind fun l39=>some (l39,v18))).bind fun (l31,v32)=>some (.inl ((i64.wrap (v13+1)),l31,v32))) (some (.inr (l15,v18)))) Va (0,([]:List (List Xh)),false)).bind fun (l22,v23)=>(dm (⟨m10,x5.1,x8.1,l22,v23⟩:Za)).bind fun x44=>(gd (x44 == 0) (eC (⟨m10,x5.1,x8.1,l22,v23⟩:Za))).bind fun x45=>some ((⟨m10,x5.1,x8.1,l22,v23⟩:Za),((x44 == 0)&&(decide (x45=p0)))))))
theorem oU {p0:Xh} {r:(Za×Bool)}  (h:fx p0=some r):PF 63 [pS p0] (.tup [.agg (av r.1),pB r.2]):=by
 unfold fx at h
 refine aV ?_
 refine dk Tryz.func63 rfl Tryz.ntmps63 Tryz.results63 rfl (cL rfl (aP (cs:=[pS Uh,pI 0,pI 0,pN,pB false]) rfl rfl rfl rfl (fun b1=>aZ [3] (by kernel_rfl) (cP h fun x2 hx2 h=>ai [] [11,12] [(4,pL eS x2)] (aU 1 (cU hx2) aY) (by kernel_rfl) (bM (bF [13,14] [(15,pB (decide ((x2.length:Int)<3)))] (by kernel_rfl) rfl h (fun hc3 h=>?_) fun hc3 h=>?_))))))
 ·refine ag ?_
  refine fC 1 [(16,.agg [pS Uh,pI 0,pI 0,pN,pB false])] (by kernel_rfl) (aM rfl rfl (al (vs:=[pS Uh,pI 0,pI 0,pN,pB false]) rfl rfl rfl rfl rfl bT td (aE [(3,pB false)] (by kernel_rfl) (aD (eW (k:=3) (b:=b1) rfl bT (bi (bc ?_)))))))
  obtain rfl:=osi h
  exact aH (bK (di rfl eG rfl) (az rfl)) bq ⟨rfl,rfl⟩
 refine af ?_
 refine cP h fun m4 hm4 h=>ae h fun x5 hx5 h=>ai [] [18,19,20,21,17,22,23] [(5,pI x5.1),(6,.v .nilIface)] (bX 1 eS hm4 (aU 3 (strconv_Atoi_ok hx5) aY)) (by kernel_rfl) (bM (fC 1 [(24,.v .nilIface)] (by kernel_rfl) (cg rfl rfl rfl (oN rfl rfl rfl (.p rfl) (.p rfl) rfl) (au (fi rfl h (fun hc6 h=>?_) fun hc6 h=>?_)))))
 ·refine ag ?_
  refine fC 1 [(26,.agg [pS Uh,pI 0,pI 0,pN,pB false])] (by kernel_rfl) (aM rfl rfl (al (vs:=[pS Uh,pI 0,pI 0,pN,pB false]) rfl rfl rfl rfl rfl bT td (aE [(3,pB false)] (by kernel_rfl) (aD (eW (k:=3) (b:=b1) rfl bT (bi (bc ?_)))))))
  obtain rfl:=osi h
  exact aH (bK (di rfl eG rfl) (az rfl)) bq ⟨rfl,rfl⟩
 refine af ?_
 refine cP h fun m7 hm7 h=>ae h fun x8 hx8 h=>ai [] [28,29,30,31,27,32,33] [(7,pI x8.1),(6,.v .nilIface)] (bX 1 eS hm7 (aU 3 (strconv_Atoi_ok hx8) aY)) (by kernel_rfl) (bM (fC 1 [(34,.v .nilIface)] (by kernel_rfl) (cg rfl rfl rfl (oN rfl rfl rfl (.p rfl) (.p rfl) rfl) (au (fi rfl h (fun hc9 h=>?_) fun hc9 h=>?_)))))
 ·refine ag ?_
  refine fC 1 [(36,.agg [pS Uh,pI 0,pI 0,pN,pB false])] (by kernel_rfl) (aM rfl rfl (al (vs:=[pS Uh,pI 0,pI 0,pN,pB false]) rfl rfl rfl rfl rfl bT td (aE [(3,pB false)] (by kernel_rfl) (aD (eW (k:=3) (b:=b1) rfl bT (bi (bc ?_)))))))
  obtain rfl:=osi h
  exact aH (bK (di rfl eG rfl) (az rfl)) bq ⟨rfl,rfl⟩
 refine af ?_
 refine cP h fun m10 hm10 h=>cS 6 [] (rg 37 5) [(42,.agg [pS m10,pI x5.1,pI x8.1,pN,pB false])] (bX 1 eS hm10 aY) (by kernel_rfl) (aj rfl (aP (cs:=[pS Uh,pI 0,pI 0,pN,pB false]) rfl rfl rfl rfl (fun b11=>aM rfl rfl (al (vs:=[pS m10,pI x5.1,pI x8.1,pN,pB false]) rfl rfl rfl rfl rfl bT td (au (bM (ae h fun l12 hl12 h=>ai [] [43] [(44,pL eS l12),(45,pI (l12.length:Int)),(46,pI 0)] (Bz 1 eS 1 (fun _=>rfl) hl12 aY) (by kernel_rfl) (aD (bC 28 1 (ae h fun q25 hq25 h=>?_))))))))))
 refine ap (Y:=(Option Addr×Nat)×((List (List Xh))×Bool)) (fun ((a20,c21),(l22,v23))=>[(0,pS p0),(2,pP b1 0),(8,pP b11 0)]) (fun ((a20,c21),(l22,v23))=>[Qa.b b1 95 [pS Uh,pI 0,pI 0,pN,pB false],Qa.b b11 95 [pS m10,pI x5.1,pI x8.1,pO a20 l22.length c21,pB v23],Qa.row a20 l22.length c21 28 1 (List.map (eL eS) l22)]) (fun ((a20,c21),(l22,v23))=>q25=(l22,v23)) ?_ ?_
 ·refine aG ?_
  refine aJ (Y:=Option Addr×Nat) (S:=Int×(List (List Xh))×Bool) _ hq25 (fun (a16,c17) (v13,l15,v18)=>[(0,pS p0),(2,pP b1 0),(8,pP b11 0),(44,pL eS l12),(45,pI (l12.length:Int)),(46,pI v13)]) (fun (a16,c17) (v13,l15,v18)=>[Qa.b b1 95 [pS Uh,pI 0,pI 0,pN,pB false],Qa.b b11 95 [pS m10,pI x5.1,pI x8.1,pO a16 l15.length c17,pB v18],Qa.row a16 l15.length c17 28 1 (List.map (eL eS) l15)]) (none,0) (o3 rfl) (bg (aC (aC aN)) (bg (aC aN) bN)) ?_
  rintro ⟨a16,c17⟩ ⟨v13,l15,v18⟩ o τ hb24;(try dsimp only at hb24);dsimp only [aw]
  refine cH [(47,pB (decide (v13<(l12.length:Int))))] (by kernel_rfl) (br (fh rfl hb24 (fun hc27 hb24=>?_) fun hc27 hb24=>?_))
  ·refine af ?_
   refine cP hb24 fun q33 hq33 hb24=>?_
   refine ap (Y:=(Option Addr×Nat)×((List (List Xh))×Bool)) (fun ((a29,c30),(l31,v32))=>[(0,pS p0),(2,pP b1 0),(8,pP b11 0),(44,pL eS l12),(45,pI (l12.length:Int)),(46,pI v13)]) (fun ((a29,c30),(l31,v32))=>[Qa.b b1 95 [pS Uh,pI 0,pI 0,pN,pB false],Qa.b b11 95 [pS m10,pI x5.1,pI x8.1,pO a29 l31.length c30,pB v32],Qa.row a29 l31.length c30 28 1 (List.map (eL eS) l31)]) (fun ((a29,c30),(l31,v32))=>q33=(l31,v32)) ?_ ?_
   ·skip
    refine rx (ae hq33 fun m34 hm34 hq33=>ai [] [48,49] [(10,pS m34)] (bX 0 eS hm34 aY) (by kernel_rfl) (br (bF [50] [(51,pB (decide (m34=(⟨#[42]⟩:Xh))))] (by kernel_rfl) rfl hq33 (fun hc35 hq33=>?_) fun hc35 hq33=>?_)))
    ·refine ak ?_
     refine ba 1 [(52,pP b11 4)] (by kernel_rfl) (aM rfl rfl (al (vs:=[pB true]) rfl rfl rfl rfl rfl (cE bT) (bV (bV (bV (bV ii)))) (au (aF ?_))))
     obtain rfl:=osi hq33
     exact am ((a16,c17),(l15,true)) (o3 rfl) rI rfl
    refine ae hq33 ?_;clear hq33;intro x36 hx36 hq33
    refine ae hq33 fun l39 hl39 hq33=>?_
    refine eD (Y:=Option Addr×Nat) (fun (a40,c41)=>[(0,pS p0),(2,pP b1 0),(8,pP b11 0),(44,pL eS l12),(45,pI (l12.length:Int)),(46,pI v13)]) (fun (a40,c41)=>[Qa.b b1 95 [pS Uh,pI 0,pI 0,pN,pB false],Qa.b b11 95 [pS m10,pI x5.1,pI x8.1,pO a40 l39.length c41,pB v18],Qa.row a40 l39.length c41 28 1 (List.map (eL eS) l39)]) (fun _=>True) ?_ ?_
    ·refine gf (ρd:=[Qa.row a16 _ _ _ _ _,Qa.b b11 _ _]) _ (aq (aC (aC aN)) (aq (aC aN) Vh)) ?_
     repeat' first
      | (refine lr 1 ?_;first | refine bj rfl rfl rfl rfl (kI (co (p:=pO a16 l15.length c17) rfl (.p rfl) tz rfl) ?_) | refine bj rfl rfl rfl rfl (kI (co (p:=pO a16 l15.length c17) rfl (.p rfl) uR rfl) ?_))
      | (refine lr 3 ?_;refine nf rfl rfl rfl rfl rfl rfl (cU hx36) ?_)
      | (refine lr 4 ?_;refine bj rfl rfl rfl rfl (bp rfl rfl rfl rfl rfl (eE rfl jy) rfl rfl rfl rfl (fun b37=>?_)))
      | (refine lr 5 ?_;refine bj rfl rfl rfl rfl (bw (enc:=(eL eS)) rfl rfl rfl rfl rfl rfl rfl rfl rfl eG (by exact aC aN) hl39 (fun a40 c41=>?_)))
      | (refine lr 7 ?_;refine eF rfl rfl rfl (al (vs:=[pO a40 l39.length c41]) rfl rfl rfl rfl rfl (cE (cE bT)) (bV (bV (bV (ii)))) ?_))
      | refine bu 0 (by decide +kernel) rfl rfl rfl rfl (bR rfl rfl rfl rfl rfl (.p rfl)) ?_
      | refine bu 2 (by decide +kernel) rfl rfl rfl rfl (bY (p:=pS m34) rfl (.p rfl)) ?_
      | refine dr 1 3 (by decide +kernel) ?_ ?_
      | refine bh 3 (by decide +kernel) ?_
      | refine bh 4 (by decide +kernel) ?_
      | refine bh 5 (by decide +kernel) ?_
      | refine bu 6 (by decide +kernel) rfl rfl rfl rfl (bR rfl rfl rfl rfl rfl (.p rfl)) ?_
      | refine bh 7 (by decide +kernel) ?_
      | refine gQ (by decide +kernel) ?_
      | refine dr 1 4 (by decide +kernel) ?_ ?_
      | refine bh 1 (by decide +kernel) ?_
      | exact gZ (a40,c41) (o3 rfl) (bg (aC (aC (aC aN))) (bg (aC (aC aN)) (bN))) trivial
    rintro ⟨a40,c41⟩ τ ρ1 hsub43 _;(try dsimp only at hsub43);dsimp only [aw]
    refine aF ?_
    obtain rfl:=osi hq33
    exact am ((a40,c41),(l39,v18)) (o3 rfl) (Vb.trans rI hsub43) rfl
   rintro ⟨⟨a29,c30⟩,⟨l31,v32⟩⟩ τ hz;(try dsimp only at hz);subst q33;(try dsimp only at hb24);dsimp only [aw]
   refine ah [60] [(46,pI (i64.wrap (v13+1)))] (by kernel_rfl) ?_
   exact aT hb24 (a29,c30) (o3 rfl) rI
  refine aL ?_
  refine cJ hb24 (fun ht=>an rfl ?_)
  exact am ((a16,c17),(l15,v18)) (nt rfl) rI ht.symm
 rintro ⟨⟨a20,c21⟩,⟨l22,v23⟩⟩ τ hz;(try dsimp only at hz);subst q25;(try dsimp only at h);dsimp only [aw]
 refine ag ?_
 refine wq (css:=List.map (eL eS) l22) (a:=a20) (by exact aC (aC aN)) ?_
 refine u6 (k:=3) (enc:=(eL eS)) (xs:=l22) (b:=b11) (a:=a20) rfl eG (cE (cE bT)) (bE (ρd:=[Qa.b b1 _ _]) [(0,0),(1,0),(2,1),(3,0),(4,0),(5,0),(7,0),(6,1),(8,0),(9,0),(10,1),(11,0)] _ (aq (aC aN) Vh) (by kernel_rfl) rfl (ae h fun x44 hx44 h=>ae h fun x45 hx45 h=>ca 10 [1,1,1] ((rg 62 5)++[68,67,69]) [(61,.agg [pS m10,pI x5.1,pI x8.1,pL (eL eS) l22,pB v23]),(70,pB ((x44 == 0)&&(decide (x45=p0))))] (aU 2 (jA hx44) (iJ 7 (fun hc=>kY (fU hx45 hc)) aY)) (by kernel_rfl) (rG rfl rfl (al (vs:=[pS m10,pI x5.1,pI x8.1,pL (eL eS) l22,pB v23]) rfl rfl rfl rfl rfl bT td (fB 1 [(3,pB ((x44 == 0)&&(decide (x45=p0))))] (by kernel_rfl) (bZ (cK ?_)))))))
 obtain rfl:=osi h
 exact aH (bK (di rfl eG rfl) (az rfl)) bq ⟨rfl,rfl⟩
def eU (p0:Ze):Option Xh:=Option.bind (cond (decide (p0.Target=(⟨#[]⟩:Xh))) (some (⟨#[45]⟩:Xh)) (some p0.Target)) (fun v2=>(strings_Join p0.Words (⟨#[43]⟩:Xh)).bind fun x5=>(strings_Join [(⟨#[110,111,116,101]⟩:Xh),p0.Scope,x5,v2] (⟨#[32]⟩:Xh)).bind fun x7=>some x7)
theorem lx {p0:Ze} {r:Xh}  (h:eU p0=some r):PF 34 [.agg [pS p0.Scope,pL eS p0.Words,pS p0.Target]] (pS r):=by
 unfold eU at h
 refine aV ?_
 refine dk Tryz.func34 rfl Tryz.ntmps34 Tryz.results34 rfl (cL rfl (be (cs:=[pS p0.Scope,pL eS p0.Words,pS p0.Target]) rfl rfl (fun b1=>aZ [2] (by kernel_rfl) (br (aK [0] [4,5] [(3,pS p0.Target)] (by kernel_rfl) (bM (ah [6] [(7,pB (decide (p0.Target=(⟨#[]⟩:Xh))))] (by kernel_rfl) (ey h fun q3 hq3 h=>?_))))))))
 refine ap (Y:=Unit×Xh) (fun (_,v2)=>[(1,pP b1 0),(3,pS v2)]) (fun (_,v2)=>[Qa.b b1 70 [pS p0.Scope,pL eS p0.Words,pS p0.Target]]) (fun (_,v2)=>q3=v2) ?_ ?_
 ·skip
  refine fh rfl hq3 (fun hc4 hq3=>?_) fun hc4 hq3=>?_
  ·refine aA [(3,pS (⟨#[45]⟩:Xh))] (by kernel_rfl) ?_
   obtain rfl:=osi hq3
   exact am ((),(⟨#[45]⟩:Xh)) (lK rfl) bN rfl
  refine af ?_
  obtain rfl:=osi hq3
  exact am ((),p0.Target) (lK rfl) bN rfl
 rintro ⟨_,v2⟩ τ hz;(try dsimp only at hz);subst q3;(try dsimp only at h);dsimp only [aw]
 refine ag (bE (ρd:=[]) [(0,0),(1,0),(2,0),(3,0),(5,0),(4,1),(6,1),(7,1),(8,0)] _ Vh (by kernel_rfl) rfl (ae h fun x5 hx5 h=>ca 6 [0,0] [8,10,11] [(9,pS p0.Scope),(13,pS v2),(12,pS x5)] (aU 5 (dI hx5) aY) (by kernel_rfl) ?_))
 refine jm rfl rfl rfl (DQ (bp rfl rfl rfl rfl rfl (eE rfl (eE rfl (eE rfl (eE rfl jy)))) rfl rfl rfl rfl (fun b6=>⟨_,_,_,_,_,_,_,rfl,by (repeat (first | exact aN | apply aC)),?_⟩)))
 refine ae h fun x7 hx7 h=>ca 2 [] [15] [(2,pS x7)] (aU 0 (dI hx7) aY) (by kernel_rfl) (bZ (cK ?_))
 exact zz r h rfl
def dC (p0:Xh):Option (Ze×Bool):=(bo p0 (⟨#[32]⟩:Xh)).bind fun x2=>cond ((x2.length:Int) != 4) (some ((⟨Uh,[],Uh⟩:Ze),false)) ((bx x2 1).bind fun m4=>(bx x2 2).bind fun m5=>(bx x2 3).bind fun m6=>(bo m5 (⟨#[43]⟩:Xh)).bind fun x7=>Option.bind (cond (decide (m6=(⟨#[45]⟩:Xh))) (some (⟨#[]⟩:Xh)) (some m6)) (fun v9=>(cw (⟨m4,x7,v9⟩:Ze)).bind fun x12=>(gd (x12 == 0) (eU (⟨m4,x7,v9⟩:Ze))).bind fun x13=>some ((⟨m4,x7,v9⟩:Ze),((x12 == 0)&&(decide (x13=p0))))))
theorem o6 {p0:Xh} {r:(Ze×Bool)}  (h:dC p0=some r):PF 62 [pS p0] (.tup [.agg [pS r.1.Scope,pL eS r.1.Words,pS r.1.Target],pB r.2]):=by
 unfold dC at h
 refine aV ?_
 refine dk Tryz.func62 rfl Tryz.ntmps62 Tryz.results62 rfl (cL rfl (aP (cs:=[pS Uh,pN,pS Uh]) rfl rfl rfl rfl (fun b1=>aZ [3] (by kernel_rfl) (cP h fun x2 hx2 h=>ai [] [6,7] [(4,pL eS x2)] (aU 1 (cU hx2) aY) (by kernel_rfl) (bM (bF [8,9] [(10,pB ((x2.length:Int) != 4))] (by kernel_rfl) rfl h (fun hc3 h=>?_) fun hc3 h=>?_))))))
 ·refine ag ?_
  refine fC 1 [(11,.agg [pS Uh,pN,pS Uh])] (by kernel_rfl) (aM rfl rfl (al (vs:=[pS Uh,pN,pS Uh]) rfl rfl rfl rfl rfl bT AW (aE [(3,pB false)] (by kernel_rfl) (aD (eW (k:=1) (b:=b1) rfl bT (bi (bc ?_)))))))
  obtain rfl:=osi h
  exact aH (bK (di rfl eG rfl) (az rfl)) bq ⟨rfl,rfl⟩
 refine af ?_
 refine br (bE (ρd:=[]) [(0,0),(1,0),(2,0),(3,0),(4,0),(5,0),(7,0),(8,0),(9,0),(6,1),(10,0),(11,2),(12,1)] _ Vh (by kernel_rfl) rfl (ae h fun m4 hm4 h=>ae h fun m5 hm5 h=>ae h fun m6 hm6 h=>ae h fun x7 hx7 h=>ca 10 [] [12,13,15,16,17,19,20] [(14,pS m4),(21,pS m6),(18,pL eS x7)] (bX 1 eS hm4 (bX 4 eS hm5 (bX 7 eS hm6 (aU 9 (cU hx7) aY)))) (by kernel_rfl) (lW rfl rfl rfl (j8 (cs:=[pS m4,pL eS x7,pS m6]) rfl rfl rfl rfl rfl rfl rfl (sZ rfl rfl rfl rfl ii (sZ rfl rfl rfl rfl (bV ii) (sZ rfl rfl rfl rfl (bV (bV ii)) Ip)))) (rH (pg rfl rfl rfl rfl rfl) (fun _=>rfl) rfl (fun b8=>rG rfl rfl (al (vs:=[pS m4,pL eS x7,pS m6]) rfl rfl rfl rfl rfl bT AW (bZ (bM (aK [0] [23,24] [(25,pB (decide (m6=(⟨#[45]⟩:Xh))))] (by kernel_rfl) (ey h fun q10 hq10 h=>?_))))))))))
 refine ap (Y:=Unit×Xh) (fun (_,v9)=>[(0,pS p0),(2,pP b1 0),(5,pP b8 0)]) (fun (_,v9)=>[Qa.b b1 70 [pS Uh,pN,pS Uh],Qa.b b8 70 [pS m4,pL eS x7,pS v9]]) (fun (_,v9)=>q10=v9) ?_ ?_
 ·skip
  refine fh rfl hq10 (fun hc11 hq10=>?_) fun hc11 hq10=>?_
  ·refine ak ?_
   refine ba 1 [(26,pP b8 2)] (by kernel_rfl) (aM rfl rfl (al (vs:=[pS (⟨#[]⟩:Xh)]) rfl rfl rfl rfl rfl bT (bV (bV ii)) (au ?_)))
   obtain rfl:=osi hq10
   exact am ((),(⟨#[]⟩:Xh)) (nt rfl) (bg (aC aN) bN) rfl
  refine af ?_
  obtain rfl:=osi hq10
  exact am ((),m6) (nt rfl) (bg (aC aN) bN) rfl
 rintro ⟨_,v9⟩ τ hz;(try dsimp only at hz);subst q10;(try dsimp only at h);dsimp only [aw]
 refine ag (bE (ρd:=[Qa.b b1 _ _]) [(0,0),(1,0),(2,1),(3,0),(4,0),(5,0),(7,0),(6,1),(8,0),(9,0),(10,1),(11,0)] _ Vh (by kernel_rfl) rfl (ae h fun x12 hx12 h=>ae h fun x13 hx13 h=>ca 10 [0,0,0] ((rg 28 5)++[34,33,35]) [(27,.agg [pS m4,pL eS x7,pS v9]),(36,pB ((x12 == 0)&&(decide (x13=p0))))] (aU 2 (jW hx12) (iJ 7 (fun hc=>lx (fU hx13 hc)) aY)) (by kernel_rfl) (rG rfl rfl (al (vs:=[pS m4,pL eS x7,pS v9]) rfl rfl rfl rfl rfl bT AW (fB 1 [(3,pB ((x12 == 0)&&(decide (x13=p0))))] (by kernel_rfl) (bZ (cK ?_)))))))
 obtain rfl:=osi h
 exact aH (bK (di rfl eG rfl) (az rfl)) bq ⟨rfl,rfl⟩
def jX (p0:Xh) (p1:Xh):Option (Xh×Xh×Bool):=(i6 p0 p1).bind fun x1=>cond (decide (0<=x1)) ((ff p0 0 x1).bind fun s3=>(ff p0 (i64.wrap (x1+(p1.size:Int))) (p0.size:Int)).bind fun s4=>some (s3,s4,true)) (some (p0,(⟨#[]⟩:Xh),false))
theorem tN {p0:Xh} {p1:Xh} {r:(Xh×Xh×Bool)}  (h:jX p0 p1=some r):PF 61 [pS p0,pS p1] (.tup [pS r.1,pS r.2.1,pB r.2.2]):=by
 unfold jX at h
 refine aV ?_
 refine dk Tryz.func61 rfl Tryz.ntmps61 Tryz.results61 rfl (aQ [4,5,6] (by kernel_rfl) (bM (ae h fun x1 hx1 h=>ai [] [8,9,10] [(7,pI x1)] (aU 2 (rX hx1) aY) (by kernel_rfl) (br (bF [11] [(12,pB (decide (0<=x1)))] (by kernel_rfl) rfl h (fun hc2 h=>?_) fun hc2 h=>?_)))))
 ·refine ag ?_
  refine bE (ρd:=[]) [(0,0),(1,0),(2,0),(3,0),(4,0),(5,0),(6,0),(7,0),(8,0),(9,0),(10,0),(11,0)] _ Vh (by kernel_rfl) rfl (ae h fun s3 hs3 h=>ae h fun s4 hs4 h=>ca 12 [] (rg 13 9) [(4,pS s3),(5,pS s4),(6,pB true)] (yC 2 hs3 (yC 8 hs4 aY)) (by kernel_rfl) (bZ (sO ?_)))
  obtain rfl:=osi h
  exact aH (nA (az rfl) (az rfl) (az rfl)) bq ⟨rfl,rfl⟩
 refine af ?_
 refine br (ah [22] [(4,pS p0),(5,pS (⟨#[]⟩:Xh)),(6,pB false)] (by kernel_rfl) (cK ?_))
 obtain rfl:=osi h
 exact aH (nA (az rfl) (az rfl) (az rfl)) bq ⟨rfl,rfl⟩
def fT (p0:Xh) (p1:Xh):Option (Xh×Xh×Bool):=(jX p0 p1).bind fun x1=>some (x1.1,x1.2.1,x1.2.2)
theorem mI {p0:Xh} {p1:Xh} {r:(Xh×Xh×Bool)}  (h:fT p0 p1=some r):PF 29 [pS p0,pS p1] (.tup [pS r.1,pS r.2.1,pB r.2.2]):=by
 unfold fT at h
 refine aV ?_
 refine dk Tryz.func29 rfl Tryz.ntmps29 Tryz.results29 rfl (aQ [4,5,6] (by kernel_rfl) (cP h fun x1 hx1 h=>ai [] (rg 7 6) [(4,pS x1.1),(5,pS x1.2.1),(6,pB x1.2.2)] (aU 2 (tN hx1) aY) (by kernel_rfl) (cK ?_)))
 obtain rfl:=osi h
 exact aH (nA (az rfl) (az rfl) (az rfl)) bq ⟨rfl,rfl⟩
def iT (p0:(List Xh)):Option Bool:=(gd (decide (0<(p0.length:Int))) (dO p0)).bind fun x1=>some ((decide (0<(p0.length:Int)))&&x1)
theorem oV {p0:(List Xh)} {r:Bool}  (h:iT p0=some r):PF 72 [pL eS p0] (pB r):=by
 unfold iT at h
 refine aV ?_
 refine dk Tryz.func72 rfl Tryz.ntmps72 Tryz.results72 rfl (aQ [2] (by kernel_rfl) (cP h fun x1 hx1 h=>ai [] (rg 3 7) [(2,pB ((decide (0<(p0.length:Int)))&&x1))] (iJ 5 (fun hc=>ll (fU hx1 hc)) aY) (by kernel_rfl) (cK ?_)))
 exact zz r h rfl
def fK (p0:Zu):Option Int:=(iT p0.Words).bind fun x2=>cond (!x2) (some (1:Int)) (cond ((decide (8<(p0.Materials.length:Int)))||(decide (6<(p0.Parts.length:Int)))) (some (8:Int)) ((aW (S:=(List Xh)×(List Int)×Int) (T:=((List Xh)×(List Int))) (fun (l6,l10,v13)=>cond (decide (v13<(p0.Materials.length:Int))) ((bx p0.Materials v13).bind fun m27=>(app 16 l6 [m27.Name]).bind fun l31=>(app 8 l10 [m27.Share]).bind fun l37=>some (.inl (l31,l37,(i64.wrap (v13+1))))) (some (.inr (l6,l10)))) Va (([]:List Xh),([]:List Int),0)).bind fun (l17,l21)=>(dO l17).bind fun x41=>cond (!x41) (some (1:Int)) ((aW (S:=(List Int)×Int) (T:=((List Int))⊕(_)) (fun (l44,v47)=>cond (decide (v47<(p0.Parts.length:Int))) ((bx p0.Parts v47).bind fun m57=>(iT m57.Words).bind fun x59=>cond (!x59) (some (.inr (.inr (1:Int)))) ((app 8 l44 [m57.Share]).bind fun l63=>some (.inl (l63,(i64.wrap (v47+1)))))) (some (.inr (.inl l44)))) Va (([]:List Int),0)).bind fun q=>match q with | .inl l52=>(fW [l21,l52]).bind (fun x69=>(aW (S:=Int) (T:=(Unit)⊕(_)) (fun v73=>cond (decide (v73<((x69.length:Nat):Int))) ((bx x69 v73).bind fun m77=>cond ((decide (m77<1))||(decide (1000000<m77))) (some (.inr (.inr (2:Int)))) (some (.inl (i64.wrap (v73+1))))) (some (.inr (.inl ())))) Va 0).bind fun q=>match q with | .inl _=>(jq l21).bind (fun x79=>(gd (!(!x79)) (jq l52)).bind fun x80=>cond ((!x79)||(!x80)) (some (1:Int)) (some (0:Int))) | .inr e=>some e) | .inr e=>some e)))
theorem mJ {p0:Zu} {r:Int}  (h:fK p0=some r):PF 39 [.agg [pL eS p0.Words,pL Zf.enc p0.Materials,pL Zb.enc p0.Parts,pB p0.Incomplete]] (pI r):=by
 unfold fK at h
 refine aV ?_
 refine dk Tryz.func39 rfl Tryz.ntmps39 Tryz.results39 rfl (cL rfl (be (cs:=[pL eS p0.Words,pL Zf.enc p0.Materials,pL Zb.enc p0.Parts,pB p0.Incomplete]) rfl rfl (fun b1=>aZ [2] (by kernel_rfl) (bM (ae h fun x2 hx2 h=>ai [0] [12,13,14] [(15,pB (!x2))] (aU 2 (oV hx2) aY) (by kernel_rfl) (fi rfl h (fun hc3 h=>?_) fun hc3 h=>?_))))))
 ·refine ag ?_
  refine de [(2,pI 1)] (by kernel_rfl) ?_
  exact zz r h rfl
 refine af ?_
 refine bM (aK [0,0] (rg 16 9) [(25,pB ((decide (8<(p0.Materials.length:Int)))||(decide (6<(p0.Parts.length:Int)))))] (by kernel_rfl) (fi rfl h (fun hc4 h=>?_) fun hc4 h=>?_))
 ·refine ag ?_
  refine de [(2,pI 8)] (by kernel_rfl) ?_
  exact zz r h rfl
 refine af ?_
 refine br (aA [(3,pN)] (by kernel_rfl) (br (aA [(4,pN),(5,pN)] (by kernel_rfl) (bM (aK [0] [26] [(27,pL Zf.enc p0.Materials),(28,pI (p0.Materials.length:Int)),(29,pI 0)] (by kernel_rfl) (aD (bC 9 1 (bC 3 1 (ae h fun q23 hq23 h=>?_)))))))))
 refine ap (Y:=(Option Addr×Nat×Option Addr×Nat)×((List Xh)×(List Int))) (fun ((a15,c16,a19,c20),(l17,l21))=>[(1,pP b1 0),(3,pO a15 l17.length c16),(4,pO a19 l21.length c20),(5,pN)]) (fun ((a15,c16,a19,c20),(l17,l21))=>[Qa.b b1 32 [pL eS p0.Words,pL Zf.enc p0.Materials,pL Zb.enc p0.Parts,pB p0.Incomplete],Qa.row a15 l17.length c16 9 1 (List.map eS l17),Qa.row a19 l21.length c20 3 1 (List.map eI l21)]) (fun ((a15,c16,a19,c20),(l17,l21))=>q23=(l17,l21)) ?_ ?_
 ·refine aG ?_
  refine aJ (Y:=Option Addr×Nat×Option Addr×Nat) (S:=(List Xh)×(List Int)×Int) _ hq23 (fun (a7,c8,a11,c12) (l6,l10,v13)=>[(1,pP b1 0),(3,pO a7 l6.length c8),(4,pO a11 l10.length c12),(5,pN),(27,pL Zf.enc p0.Materials),(28,pI (p0.Materials.length:Int)),(29,pI v13)]) (fun (a7,c8,a11,c12) (l6,l10,v13)=>[Qa.b b1 32 [pL eS p0.Words,pL Zf.enc p0.Materials,pL Zb.enc p0.Parts,pB p0.Incomplete],Qa.row a7 l6.length c8 9 1 (List.map eS l6),Qa.row a11 l10.length c12 3 1 (List.map eI l10)]) (none,0,none,0) (yB rfl) (bg (aC (aC aN)) (bg (aC aN) bN)) ?_
  rintro ⟨a7,c8,a11,c12⟩ ⟨l6,l10,v13⟩ o τ hb22;(try dsimp only at hb22);dsimp only [aw]
  refine cH [(30,pB (decide (v13<(p0.Materials.length:Int))))] (by kernel_rfl) (br (fh rfl hb22 (fun hc26 hb22=>?_) fun hc26 hb22=>?_))
  ·refine af ?_
   refine eT (ae hb22 fun m27 hm27 hb22=>cS 2 [] [31] [(32,.agg [pS m27.Name,pI m27.Share])] (bX 0 Zf.enc hm27 aY) (by kernel_rfl) (aj rfl (aP (cs:=[pS Uh,pI 0]) rfl rfl rfl rfl (fun b28=>aM rfl rfl (al (vs:=[pS m27.Name,pI m27.Share]) rfl rfl rfl rfl rfl bT pV (au (br (ak (bH 3 [0] [34] [(33,pO a7 l6.length c8),(35,pS m27.Name)] (by kernel_rfl) (aj rfl (bp rfl rfl rfl rfl rfl (eE rfl jy) rfl rfl rfl rfl (fun b29=>ae hb22 fun l31 hl31 hb22=>?_))))))))))))
   refine aj rfl (bw (enc:=eS) rfl rfl rfl rfl rfl rfl rfl rfl rfl eG (by exact aC (aC (aC aN))) hl31 (fun a32 c33=>?_))
   refine aE [(3,pO a32 l31.length c33)] (by kernel_rfl) (aD (ak (bH 3 [2] [39] [(38,pO a11 l10.length c12),(40,pI m27.Share)] (by kernel_rfl) (aj rfl (bp rfl rfl rfl rfl rfl (eE rfl jy) rfl rfl rfl rfl (fun b35=>ae hb22 fun l37 hl37 hb22=>?_))))))
   refine aj rfl (bw (enc:=eI) rfl rfl rfl rfl rfl rfl rfl rfl rfl eG (by exact aC (aC (aC (aC (aC aN))))) hl37 (fun a38 c39=>?_))
   refine aE [(4,pO a38 l37.length c39)] (by kernel_rfl) (eH (ah [43] [(29,pI (i64.wrap (v13+1)))] (by kernel_rfl) ?_))
   exact aT hb22 (a32,c33,a38,c39) (yB rfl) (bg (aC (aC (aC (aC (aC aN))))) (bg (aC (aC aN)) bN))
  refine aL ?_
  refine cJ hb22 (fun ht=>an rfl ?_)
  exact am ((a7,c8,a11,c12),(l6,l10)) (jC rfl) rI ht.symm
 rintro ⟨⟨a15,c16,a19,c20⟩,⟨l17,l21⟩⟩ τ hz;(try dsimp only at hz);subst q23;(try dsimp only at h);dsimp only [aw]
 refine dV (fC 1 [(44,pO a15 l17.length c16)] (by kernel_rfl) ?_)
 refine dw (enc:=eS) (xs:=l17) 44 rfl (by exact aC aN) ?_
 refine ae h fun x41 hx41 h=>dh [] [45] [(46,pB (!x41))] (aU 0 (ll hx41) aY) (by kernel_rfl) (fi rfl h (fun hc42 h=>?_) fun hc42 h=>?_)
 ·refine ag ?_
  refine de [(2,pI 1)] (by kernel_rfl) ?_
  exact zz r h rfl
 refine af ?_
 refine bM (aK [1] [47] [(48,pL Zb.enc p0.Parts),(49,pI (p0.Parts.length:Int)),(50,pI 0)] (by kernel_rfl) (aD (bC 3 1 (ae h fun q54 hq54 h=>?_))))
 refine ap (Y:=(Option Addr×Nat)×((List Int))) (fun ((a50,c51),l52)=>[(4,pO a19 l21.length c20),(5,pO a50 l52.length c51)]) (fun ((a50,c51),l52)=>[Qa.row a19 l21.length c20 3 1 (List.map eI l21),Qa.row a50 l52.length c51 3 1 (List.map eI l52)]) (fun ((a50,c51),l52)=>q54=Sum.inl l52) ?_ ?_
 ·refine aG ?_
  refine aJ (Y:=Option Addr×Nat) (S:=(List Int)×Int) _ hq54 (fun (a45,c46) (l44,v47)=>[(4,pO a19 l21.length c20),(5,pO a45 l44.length c46),(48,pL Zb.enc p0.Parts),(49,pI (p0.Parts.length:Int)),(50,pI v47)]) (fun (a45,c46) (l44,v47)=>[Qa.row a19 l21.length c20 3 1 (List.map eI l21),Qa.row a45 l44.length c46 3 1 (List.map eI l44)]) (none,0) (gA rfl) (bg (aC (aC (aC aN))) bN) ?_
  rintro ⟨a45,c46⟩ ⟨l44,v47⟩ o τ hb53;(try dsimp only at hb53);dsimp only [aw]
  refine cH [(51,pB (decide (v47<(p0.Parts.length:Int))))] (by kernel_rfl) (br (fh rfl hb53 (fun hc56 hb53=>?_) fun hc56 hb53=>?_))
  ·refine af ?_
   refine eT (ae hb53 fun m57 hm57 hb53=>cS 2 [] [52] [(53,.agg [pL eS m57.Words,pI m57.Share])] (bX 0 Zb.enc hm57 aY) (by kernel_rfl) (aj rfl (aP (cs:=[pN,pI 0]) rfl rfl rfl rfl (fun b58=>aM rfl rfl (al (vs:=[pL eS m57.Words,pI m57.Share]) rfl rfl rfl rfl rfl bT pV (au (bM (ae hb53 fun x59 hx59 hb53=>ai [0] [54,55,56] [(57,pB (!x59))] (aU 2 (oV hx59) aY) (by kernel_rfl) (fi rfl hb53 (fun hc60 hb53=>?_) fun hc60 hb53=>?_)))))))))
   ·refine ag ?_
    refine de [(2,pI 1)] (by kernel_rfl) (iq ?_)
    refine aX hb53 (fun ht=>?_);subst ht
    refine aO (aS ?_)
    exact zz r h rfl
   refine af ?_
   refine aD (ak (bH 3 [0] [59] [(58,pO a45 l44.length c46),(60,pI m57.Share)] (by kernel_rfl) (aj rfl (bp rfl rfl rfl rfl rfl (eE rfl jy) rfl rfl rfl rfl (fun b61=>ae hb53 fun l63 hl63 hb53=>?_)))))
   refine aj rfl (bw (enc:=eI) rfl rfl rfl rfl rfl rfl rfl rfl rfl eG (by exact aC (aC (aC aN))) hl63 (fun a64 c65=>?_))
   refine aE [(5,pO a64 l63.length c65)] (by kernel_rfl) (eH (ah [63] [(50,pI (i64.wrap (v47+1)))] (by kernel_rfl) ?_))
   exact aT hb53 (a64,c65) (gA rfl) (bg (aC (aC (aC aN))) bN)
  refine aL ?_
  refine cJ hb53 (fun ht=>an rfl ?_)
  exact am ((a45,c46),l44) (lK rfl) tc ht.symm
 rintro ⟨⟨a50,c51⟩,l52⟩ τ hz;(try dsimp only at hz);subst q54;(try dsimp only at h);dsimp only [aw]
 refine dV (fC 2 [(64,pO a19 l21.length c20),(65,pO a50 l52.length c51)] (by kernel_rfl) ?_)
 refine dw (enc:=eI) (xs:=l21) 64 rfl (by exact aN) ?_
 refine dw (enc:=eI) (xs:=l52) 65 rfl (by exact aC aN) ?_
 refine aj rfl (bp rfl rfl rfl rfl rfl (eE rfl (eE rfl jy)) rfl rfl rfl rfl (fun b67=>?_))
 refine dw (enc:=(eL eI)) (xs:=[l21,l52]) 66 rfl (by exact aN) ?_
 refine ae h fun x69 hx69 h=>?_
 refine aj rfl (aI rfl rfl (ρ1:=[]) Vh (pD hx69) ?_);rintro _ _ ⟨a70,c71,rfl,rfl⟩
 refine aE [(68,pI ((x69.length:Nat):Int)),(69,pI 0)] (by kernel_rfl) (aD (p8 (enc:=eI) (xs:=l21) 4 rfl zm3 (p8 (enc:=eI) (xs:=l52) 5 rfl uR (ae h fun q75 hq75 h=>?_))))
 refine ap (Y:=Unit×Unit) (fun (_,_)=>[(4,pL eI l21),(5,pL eI l52)]) (fun (_,_)=>[]) (fun (_,_)=>q75=Sum.inl ()) ?_ ?_
 ·refine aG ?_
  refine aJ (Y:=Unit) (S:=Int) _ hq75 (fun _ v73=>[(4,pL eI l21),(5,pL eI l52),(67,pO a70 x69.length c71),(68,pI ((x69.length:Nat):Int)),(69,pI v73)]) (fun _ v73=>[Qa.row a70 x69.length c71 3 1 (List.map eI x69)]) () (gA rfl) bN ?_
  rintro _ v73 o τ hb74;(try dsimp only at hb74);dsimp only [aw]
  refine cH [(70,pB (decide (v73<((x69.length:Nat):Int))))] (by kernel_rfl) (br (fh rfl hb74 (fun hc76 hb74=>?_) fun hc76 hb74=>?_))
  ·refine af ?_
   refine eT (ae hb74 fun m77 hm77 hb74=>ak (cg rfl rfl rfl (d9 (enc:=eI) (xs:=x69) rfl rfl rfl (.p rfl) eG (.p rfl) (fun _=>hm77)) (cg rfl rfl rfl (dj (sz:=1) (p:=pI m77) (enc:=eI) (xs:=x69) (a:=a70) v73 0 m77 rfl (.p rfl) rfl eG (fun _=>hm77) rfl) (aE [(11,pI m77)] (by kernel_rfl) (br (bF (rg 73 5) [(78,pB ((decide (m77<1))||(decide (1000000<m77))))] (by kernel_rfl) rfl hb74 (fun hc78 hb74=>?_) fun hc78 hb74=>?_))))))
   ·refine ag ?_
    refine aA [(2,pI 2)] (by kernel_rfl) (cK (iq ?_))
    refine aX hb74 (fun ht=>?_);subst ht
    refine aO (aS ?_)
    exact zz r h rfl
   refine af ?_
   refine eH (ah [79] [(69,pI (i64.wrap (v73+1)))] (by kernel_rfl) ?_)
   exact aT hb74 () (gA rfl) bN
  refine aL ?_
  refine cJ hb74 (fun ht=>an rfl ?_)
  exact am ((),()) (lK rfl) bq ht.symm
 rintro ⟨_,_⟩ τ hz;(try dsimp only at hz);subst q75;(try dsimp only at h);dsimp only [aw]
 refine dV (ae h fun x79 hx79 h=>ae h fun x80 hx80 h=>ai [] (rg 80 7) [(87,pB ((!x79)||(!x80)))] (aU 1 (pm hx79) (iJ 5 (fun hc=>pm (fU hx80 hc)) aY)) (by kernel_rfl) (fi rfl h (fun hc81 h=>?_) fun hc81 h=>?_))
 ·refine ag ?_
  refine de [(2,pI 1)] (by kernel_rfl) ?_
  exact zz r h rfl
 refine af ?_
 refine br (aA [(2,pI 0)] (by kernel_rfl) (cK ?_))
 exact zz r h rfl
def kQ (p0:Zu):Option Xh:=(fK p0).bind fun x2=>cond (x2 != 0) (some (⟨#[]⟩:Xh)) ((strings_Join p0.Words (⟨#[43]⟩:Xh)).bind fun x4=>(aW (S:=(List Xh)×Int) (T:=((List Xh))) (fun (l6,v9)=>cond (decide (v9<(p0.Materials.length:Int))) ((bx p0.Materials v9).bind fun m18=>(lC m18.Name (⟨#[58]⟩:Xh)).bind fun s20=>(strconv_Itoa m18.Share).bind fun x21=>(lC s20 x21).bind fun s22=>(app 16 l6 [s22]).bind fun l25=>some (.inl (l25,(i64.wrap (v9+1))))) (some (.inr l6))) Va (([]:List Xh),0)).bind fun l13=>(aW (S:=(List Xh)×Int) (T:=((List Xh))) (fun (l30,v33)=>cond (decide (v33<(p0.Parts.length:Int))) ((bx p0.Parts v33).bind fun m43=>(strings_Join m43.Words (⟨#[43]⟩:Xh)).bind fun x45=>(lC x45 (⟨#[58]⟩:Xh)).bind fun s46=>(strconv_Itoa m43.Share).bind fun x47=>(lC s46 x47).bind fun s48=>(app 16 l30 [s48]).bind fun l51=>some (.inl (l51,(i64.wrap (v33+1))))) (some (.inr l30))) Va (([]:List Xh),0)).bind fun l38=>Option.bind (cond (decide (0<((l13.length:Nat):Int))) ((strings_Join l13 (⟨#[44]⟩:Xh)).bind fun x59=>(lC (⟨#[32,109,58]⟩:Xh) x59).bind fun s60=>(lC x4 s60).bind fun s61=>some s61) (some x4)) (fun v55=>Option.bind (cond (decide (0<((l38.length:Nat):Int))) ((strings_Join l38 (⟨#[44]⟩:Xh)).bind fun x65=>(lC (⟨#[32,112,58]⟩:Xh) x65).bind fun s66=>(lC v55 s66).bind fun s67=>some s67) (some v55)) (fun v62=>Option.bind (cond p0.Incomplete ((lC v62 (⟨#[32,105,110,99,111,109,112,108,101,116,101]⟩:Xh)).bind fun s71=>some s71) (some v62)) (fun v68=>some v68))))
theorem qX {p0:Zu} {r:Xh}  (h:kQ p0=some r):PF 12 [.agg [pL eS p0.Words,pL Zf.enc p0.Materials,pL Zb.enc p0.Parts,pB p0.Incomplete]] (pS r):=by
 unfold kQ at h
 refine aV ?_
 refine dk Tryz.func12 rfl Tryz.ntmps12 Tryz.results12 rfl (cL rfl (be (cs:=[pL eS p0.Words,pL Zf.enc p0.Materials,pL Zb.enc p0.Parts,pB p0.Incomplete]) rfl rfl (fun b1=>aZ [2] (by kernel_rfl) (bM (ae h fun x2 hx2 h=>ai [0] [10,11] [(12,pB (x2 != 0))] (aU 1 (mJ hx2) aY) (by kernel_rfl) (fi rfl h (fun hc3 h=>?_) fun hc3 h=>?_))))))
 ·refine ag ?_
  refine de [(2,pS (⟨#[]⟩:Xh))] (by kernel_rfl) ?_
  exact zz r h rfl
 refine af ?_
 refine cP h fun x4 hx4 h=>ai [0] [13,14,15] [(3,pS x4)] (aU 2 (dI hx4) aY) (by kernel_rfl) (br (aA [(4,pN),(5,pN)] (by kernel_rfl) (bM (aK [0] [16] [(17,pL Zf.enc p0.Materials),(18,pI (p0.Materials.length:Int)),(19,pI 0)] (by kernel_rfl) (aD (bC 9 1 (ae h fun q15 hq15 h=>?_)))))))
 refine ap (Y:=(Option Addr×Nat)×((List Xh))) (fun ((a11,c12),l13)=>[(1,pP b1 0),(3,pS x4),(4,pO a11 l13.length c12),(5,pN)]) (fun ((a11,c12),l13)=>[Qa.b b1 32 [pL eS p0.Words,pL Zf.enc p0.Materials,pL Zb.enc p0.Parts,pB p0.Incomplete],Qa.row a11 l13.length c12 9 1 (List.map eS l13)]) (fun ((a11,c12),l13)=>q15=l13) ?_ ?_
 ·refine aG ?_
  refine aJ (Y:=Option Addr×Nat) (S:=(List Xh)×Int) _ hq15 (fun (a7,c8) (l6,v9)=>[(1,pP b1 0),(3,pS x4),(4,pO a7 l6.length c8),(5,pN),(17,pL Zf.enc p0.Materials),(18,pI (p0.Materials.length:Int)),(19,pI v9)]) (fun (a7,c8) (l6,v9)=>[Qa.b b1 32 [pL eS p0.Words,pL Zf.enc p0.Materials,pL Zb.enc p0.Parts,pB p0.Incomplete],Qa.row a7 l6.length c8 9 1 (List.map eS l6)]) (none,0) (yB rfl) (bg (aC aN) bN) ?_
  rintro ⟨a7,c8⟩ ⟨l6,v9⟩ o τ hb14;(try dsimp only at hb14);dsimp only [aw]
  refine cH [(20,pB (decide (v9<(p0.Materials.length:Int))))] (by kernel_rfl) (br (fh rfl hb14 (fun hc17 hb14=>?_) fun hc17 hb14=>?_))
  ·refine af ?_
   refine eT (ae hb14 fun m18 hm18 hb14=>cS 2 [] [21] [(22,.agg [pS m18.Name,pI m18.Share])] (bX 0 Zf.enc hm18 aY) (by kernel_rfl) (aj rfl (aP (cs:=[pS Uh,pI 0]) rfl rfl rfl rfl (fun b19=>aM rfl rfl (al (vs:=[pS m18.Name,pI m18.Share]) rfl rfl rfl rfl rfl bT pV (au (aD (bE (ρd:=[Qa.row a7 _ _ _ _ _]) [(0,0),(1,0),(2,0),(3,0),(4,0),(5,0),(6,1),(7,0),(8,1),(9,1),(10,0)] _ (aq (aC (aC aN)) Vh) (by kernel_rfl) rfl (ae hb14 fun s20 hs20 hb14=>ae hb14 fun x21 hx21 hb14=>ae hb14 fun s22 hs22 hb14=>ca 8 [0,0] (rg 24 6) [(23,pO a7 l6.length c8),(30,pS s22)] (ml 3 hs20 (aU 6 (cu hx21) (ml 7 hs22 aY))) (by kernel_rfl) (jm rfl rfl rfl (bp rfl rfl rfl rfl rfl (eE rfl jy) rfl rfl rfl rfl (fun b23=>ae hb14 fun l25 hl25 hb14=>?_))))))))))))
   refine jm rfl rfl rfl (bw (enc:=eS) rfl rfl rfl rfl rfl rfl rfl rfl rfl eG (by exact aC aN) hl25 (fun a26 c27=>?_))
   refine fB 1 [(4,pO a26 l25.length c27)] (by kernel_rfl) (bZ (eH (ah [33] [(19,pI (i64.wrap (v9+1)))] (by kernel_rfl) ?_)))
   exact aT hb14 (a26,c27) (yB rfl) (bg (aC (aC (aC aN))) bN)
  refine aL ?_
  refine cJ hb14 (fun ht=>an rfl ?_)
  exact am ((a7,c8),l6) (jC rfl) tc ht.symm
 rintro ⟨⟨a11,c12⟩,l13⟩ τ hz;(try dsimp only at hz);subst q15;(try dsimp only at h);dsimp only [aw]
 refine dV (aK [0] [34] [(35,pL Zb.enc p0.Parts),(36,pI (p0.Parts.length:Int)),(37,pI 0)] (by kernel_rfl) (aD (bC 9 1 (ae h fun q40 hq40 h=>?_))))
 refine ap (Y:=(Option Addr×Nat)×((List Xh))) (fun ((a36,c37),l38)=>[(1,pP b1 0),(3,pS x4),(4,pO a11 l13.length c12),(5,pO a36 l38.length c37)]) (fun ((a36,c37),l38)=>[Qa.b b1 32 [pL eS p0.Words,pL Zf.enc p0.Materials,pL Zb.enc p0.Parts,pB p0.Incomplete],Qa.row a11 l13.length c12 9 1 (List.map eS l13),Qa.row a36 l38.length c37 9 1 (List.map eS l38)]) (fun ((a36,c37),l38)=>q40=l38) ?_ ?_
 ·refine aG ?_
  refine aJ (Y:=Option Addr×Nat) (S:=(List Xh)×Int) _ hq40 (fun (a31,c32) (l30,v33)=>[(1,pP b1 0),(3,pS x4),(4,pO a11 l13.length c12),(5,pO a31 l30.length c32),(35,pL Zb.enc p0.Parts),(36,pI (p0.Parts.length:Int)),(37,pI v33)]) (fun (a31,c32) (l30,v33)=>[Qa.b b1 32 [pL eS p0.Words,pL Zf.enc p0.Materials,pL Zb.enc p0.Parts,pB p0.Incomplete],Qa.row a11 l13.length c12 9 1 (List.map eS l13),Qa.row a31 l30.length c32 9 1 (List.map eS l30)]) (none,0) (yB rfl) (bg (aC aN) (bg (aC aN) bN)) ?_
  rintro ⟨a31,c32⟩ ⟨l30,v33⟩ o τ hb39;(try dsimp only at hb39);dsimp only [aw]
  refine cH [(38,pB (decide (v33<(p0.Parts.length:Int))))] (by kernel_rfl) (br (fh rfl hb39 (fun hc42 hb39=>?_) fun hc42 hb39=>?_))
  ·refine af ?_
   refine eT (ae hb39 fun m43 hm43 hb39=>cS 2 [] [39] [(40,.agg [pL eS m43.Words,pI m43.Share])] (bX 0 Zb.enc hm43 aY) (by kernel_rfl) (aj rfl (aP (cs:=[pN,pI 0]) rfl rfl rfl rfl (fun b44=>aM rfl rfl (al (vs:=[pL eS m43.Words,pI m43.Share]) rfl rfl rfl rfl rfl bT pV (au (aD (bE (ρd:=[Qa.row a31 _ _ _ _ _]) [(0,0),(1,0),(2,0),(5,0),(6,0),(3,1),(4,0),(7,1),(8,0),(9,1),(10,1),(11,0)] _ (aq (aC (aC (aC aN))) Vh) (by kernel_rfl) rfl (ae hb39 fun x45 hx45 hb39=>ae hb39 fun s46 hs46 hb39=>ae hb39 fun x47 hx47 hb39=>ae hb39 fun s48 hs48 hb39=>ca 9 [0,0] [42,43,46,47,44,45,48] [(41,pO a31 l30.length c32),(49,pS s48)] (aU 5 (dI hx45) (ml 6 hs46 (aU 7 (cu hx47) (ml 8 hs48 aY)))) (by kernel_rfl) (jm rfl rfl rfl (bp rfl rfl rfl rfl rfl (eE rfl jy) rfl rfl rfl rfl (fun b49=>ae hb39 fun l51 hl51 hb39=>?_))))))))))))
   refine jm rfl rfl rfl (bw (enc:=eS) rfl rfl rfl rfl rfl rfl rfl rfl rfl eG (by exact aC aN) hl51 (fun a52 c53=>?_))
   refine fB 1 [(5,pO a52 l51.length c53)] (by kernel_rfl) (bZ (eH (ah [52] [(37,pI (i64.wrap (v33+1)))] (by kernel_rfl) ?_)))
   exact aT hb39 (a52,c53) (yB rfl) (bg (aC (aC (aC aN))) (bg (aC (aC (aC aN))) bN))
  refine aL ?_
  refine cJ hb39 (fun ht=>an rfl ?_)
  exact am ((a31,c32),l30) (jC rfl) rI ht.symm
 rintro ⟨⟨a36,c37⟩,l38⟩ τ hz;(try dsimp only at hz);subst q40;(try dsimp only at h);dsimp only [aw]
 refine dV (ah [53,54] [(55,pB (decide (0<((l13.length:Nat):Int))))] (by kernel_rfl) (ey h fun q57 hq57 h=>?_))
 refine ap (Y:=Unit×Xh) (fun (_,v55)=>[(1,pP b1 0),(3,pS v55),(5,pO a36 l38.length c37)]) (fun (_,v55)=>[Qa.b b1 32 [pL eS p0.Words,pL Zf.enc p0.Materials,pL Zb.enc p0.Parts,pB p0.Incomplete],Qa.row a36 l38.length c37 9 1 (List.map eS l38)]) (fun (_,v55)=>q57=v55) ?_ ?_
 ·skip
  refine fh rfl hq57 (fun hc58 hq57=>?_) fun hc58 hq57=>?_
  ·refine ak ?_
   refine ba 2 [(56,pS x4),(57,pO a11 l13.length c12)] (by kernel_rfl) ?_
   refine dw (enc:=eS) (xs:=l13) 57 rfl (by exact aC aN) ?_
   refine ae hq57 fun x59 hx59 hq57=>ae hq57 fun s60 hs60 hq57=>ae hq57 fun s61 hs61 hq57=>dh [] [58,59,60] [(3,pS s61)] (aU 0 (dI hx59) (ml 1 hs60 (ml 2 hs61 aY))) (by kernel_rfl) ?_
   obtain rfl:=osi hq57
   exact am ((),s61) (nt rfl) (bg (aC aN) (bg (aC aN) bq)) rfl
  refine af ?_
  obtain rfl:=osi hq57
  exact am ((),x4) (nt rfl) (bg aN (bg (aC aN) bq)) rfl
 rintro ⟨_,v55⟩ τ hz;(try dsimp only at hz);subst q57;(try dsimp only at h);dsimp only [aw]
 refine dV (ah [61,62] [(63,pB (decide (0<((l38.length:Nat):Int))))] (by kernel_rfl) (ey h fun q63 hq63 h=>?_))
 refine ap (Y:=Unit×Xh) (fun (_,v62)=>[(1,pP b1 0),(3,pS v62)]) (fun (_,v62)=>[Qa.b b1 32 [pL eS p0.Words,pL Zf.enc p0.Materials,pL Zb.enc p0.Parts,pB p0.Incomplete]]) (fun (_,v62)=>q63=v62) ?_ ?_
 ·skip
  refine fh rfl hq63 (fun hc64 hq63=>?_) fun hc64 hq63=>?_
  ·refine ak ?_
   refine ba 2 [(64,pS v55),(65,pO a36 l38.length c37)] (by kernel_rfl) ?_
   refine dw (enc:=eS) (xs:=l38) 65 rfl (by exact aC aN) ?_
   refine ae hq63 fun x65 hx65 hq63=>ae hq63 fun s66 hs66 hq63=>ae hq63 fun s67 hs67 hq63=>dh [] [66,67,68] [(3,pS s67)] (aU 0 (dI hx65) (ml 1 hs66 (ml 2 hs67 aY))) (by kernel_rfl) ?_
   obtain rfl:=osi hq63
   exact am ((),s67) (lK rfl) (bg (aC aN) bq) rfl
  refine af ?_
  obtain rfl:=osi hq63
  exact am ((),v55) (lK rfl) bN rfl
 rintro ⟨_,v62⟩ τ hz;(try dsimp only at hz);subst q63;(try dsimp only at h);dsimp only [aw]
 refine dV (aK [0] [69] [(70,pB p0.Incomplete)] (by kernel_rfl) (ey h fun q69 hq69 h=>?_))
 refine ap (Y:=Unit×Xh) (fun (_,v68)=>[(3,pS v68)]) (fun (_,v68)=>[]) (fun (_,v68)=>q69=v68) ?_ ?_
 ·skip
  refine fh rfl hq69 (fun hc70 hq69=>?_) fun hc70 hq69=>?_
  ·refine ae hq69 ?_;clear hq69;intro s71 hs71 hq69
   refine ai [] [71,72] [(3,pS s71)] (ml 1 hs71 aY) (by kernel_rfl) ?_
   obtain rfl:=osi hq69
   exact am ((),s71) (oC rfl) bq rfl
  refine af ?_
  obtain rfl:=osi hq69
  exact am ((),v62) (oC rfl) bq rfl
 rintro ⟨_,v68⟩ τ hz;(try dsimp only at hz);subst q69;(try dsimp only at h);dsimp only [aw]
 refine ag (ah [73] [(2,pS v68)] (by kernel_rfl) (cK ?_))
 exact zz r h rfl
def ia (p0:Xh):Option (Xh×Int):=(fT p0 (⟨#[58]⟩:Xh)).bind fun x1=>(dB x1.2.1).bind fun x2=>Option.bind (cond false (some 0) (some x2.1)) (fun v3=>some (x1.1,v3))
theorem r6 {p0:Xh} {r:(Xh×Int)}  (h:ia p0=some r):PF 38 [pS p0] (.tup [pS r.1,pI r.2]):=by
 unfold ia at h
 refine aV ?_
 refine dk Tryz.func38 rfl Tryz.ntmps38 Tryz.results38 rfl (aQ [2,3] (by kernel_rfl) (cP h fun x1 hx1 h=>ai [] [10,11,9,12,13,14,6] [(4,pS x1.1),(5,pS x1.2.1)] (aU 1 (mI hx1) aY) (by kernel_rfl) (cP h fun x2 hx2 h=>ai [] [16,17,15,18,19] [(7,pI x2.1),(8,.v .nilIface)] (aU 1 (strconv_Atoi_ok hx2) aY) (by kernel_rfl) (bM (fC 1 [(20,.v .nilIface)] (by kernel_rfl) (cg rfl rfl rfl (oN rfl rfl rfl (.p rfl) (.p rfl) rfl) (au (ey h fun q4 hq4 h=>?_))))))))
 refine ap (Y:=Unit×Int) (fun (_,v3)=>[(4,pS x1.1),(7,pI v3)]) (fun (_,v3)=>[]) (fun (_,v3)=>q4=v3) ?_ ?_
 ·skip
  refine fh rfl hq4 (fun hc5 hq4=>?_) fun hc5 hq4=>?_
  ·refine aA [(7,pI 0)] (by kernel_rfl) ?_
   obtain rfl:=osi hq4
   exact am ((),0) (lK rfl) bq rfl
  refine af ?_
  obtain rfl:=osi hq4
  exact am ((),x2.1) (lK rfl) bq rfl
 rintro ⟨_,v3⟩ τ hz;(try dsimp only at hz);subst q4;(try dsimp only at h);dsimp only [aw]
 refine ag (ah [22,23] [(2,pS x1.1),(3,pI v3)] (by kernel_rfl) (cK ?_))
 obtain rfl:=osi h
 exact aH (bK (az rfl) (az rfl)) bq ⟨rfl,rfl⟩
def lZ (p0:Xh):Option (Zu×Int):=(bo p0 (⟨#[32]⟩:Xh)).bind fun x2=>(bx x2 0).bind fun m3=>(bo m3 (⟨#[43]⟩:Xh)).bind fun x4=>(sub x2 1 (x2.length:Int)).bind fun l6=>(aW (S:=Int×(List Zf)×(List Zb)×Bool) (T:=((List Zf)×(List Zb)×Bool)) (fun (v7,l9,l13,v16)=>cond (decide (v7<(l6.length:Int))) (((bx l6 v7).bind fun m41=>(cq m41 (⟨#[109,58]⟩:Xh)).bind fun x42=>cond x42.2 ((bo x42.1 (⟨#[44]⟩:Xh)).bind fun x44=>(aW (S:=Int×(List Zf)) (T:=((List Zf))) (fun (v45,l47)=>cond (decide (v45<(x44.length:Int))) ((bx x44 v45).bind fun m58=>(ia m58).bind fun x59=>(app 24 l47 [(⟨x59.1,x59.2⟩:Zf)]).bind fun l62=>some (.inl ((i64.wrap (v45+1)),l62))) (some (.inr l47))) Va (0,l9)).bind fun l53=>some (l53,l13,v16)) ((cq m41 (⟨#[112,58]⟩:Xh)).bind fun x67=>cond x67.2 ((bo x67.1 (⟨#[44]⟩:Xh)).bind fun x69=>(aW (S:=Int×(List Zb)) (T:=((List Zb))) (fun (v70,l72)=>cond (decide (v70<(x69.length:Int))) ((bx x69 v70).bind fun m83=>(ia m83).bind fun x84=>(bo x84.1 (⟨#[43]⟩:Xh)).bind fun x85=>(app 32 l72 [(⟨x85,x84.2⟩:Zb)]).bind fun l88=>some (.inl ((i64.wrap (v70+1)),l88))) (some (.inr l72))) Va (0,l13)).bind fun l79=>some (l9,l79,v16)) (some (l9,l13,true)))).bind fun (l34,l38,v39)=>some (.inl ((i64.wrap (v7+1)),l34,l38,v39))) (some (.inr (l9,l13,v16)))) Va (0,([]:List Zf),([]:List Zb),false)).bind fun (l20,l24,v25)=>(fK (⟨x4,l20,l24,v25⟩:Zu)).bind fun x94=>(gd (!(x94 != 0)) (kQ (⟨x4,l20,l24,v25⟩:Zu))).bind fun x95=>cond ((x94 != 0)||(!decide (x95=p0))) (some ((⟨[],[],[],false⟩:Zu),(4:Int))) (some ((⟨x4,l20,l24,v25⟩:Zu),(0:Int)))
theorem r7 {p0:Xh} {r:(Zu×Int)}  (h:lZ p0=some r):PF 11 [pS p0] (.tup [.agg [pL eS r.1.Words,pL Zf.enc r.1.Materials,pL Zb.enc r.1.Parts,pB r.1.Incomplete],pI r.2]):=by
 unfold lZ at h
 refine aV ?_
 refine dk Tryz.func11 rfl Tryz.ntmps11 Tryz.results11 rfl (cL rfl (aP (cs:=[pN,pN,pN,pB false]) rfl rfl rfl rfl (fun b1=>aZ [3] (by kernel_rfl) (cP h fun x2 hx2 h=>ai [] [20,21] [(4,pL eS x2)] (aU 1 (cU hx2) aY) (by kernel_rfl) (cP h fun m3 hm3 h=>ae h fun x4 hx4 h=>cS 5 [] [22,23,24,25] [(26,.agg [pL eS x4,pN,pN,pB false])] (bX 1 eS hm3 (aU 3 (cU hx4) aY)) (by kernel_rfl) (aj rfl (aP (cs:=[pN,pN,pN,pB false]) rfl rfl rfl rfl (fun b5=>aM rfl rfl (al (vs:=[pL eS x4,pN,pN,pB false]) rfl rfl rfl rfl rfl bT zl4 (au (bM (ae h fun l6 hl6 h=>ai [] [27] [(28,pL eS l6),(29,pI (l6.length:Int)),(30,pI 0)] (Bz 1 eS 1 (fun _=>rfl) hl6 aY) (by kernel_rfl) (aD (bC 74 2 (bC 76 2 (ae h fun q27 hq27 h=>?_))))))))))))))))
 refine ap (Y:=(Option Addr×Nat×Option Addr×Nat)×((List Zf)×(List Zb)×Bool)) (fun ((a18,c19,a22,c23),(l20,l24,v25))=>[(0,pS p0),(2,pP b1 0),(5,pP b5 0)]) (fun ((a18,c19,a22,c23),(l20,l24,v25))=>[Qa.b b1 32 [pN,pN,pN,pB false],Qa.b b5 32 [pL eS x4,pO a18 l20.length c19,pO a22 l24.length c23,pB v25],Qa.row a18 l20.length c19 74 2 (List.map Zf.enc l20),Qa.row a22 l24.length c23 76 2 (List.map Zb.enc l24)]) (fun ((a18,c19,a22,c23),(l20,l24,v25))=>q27=(l20,l24,v25)) ?_ ?_
 ·refine aG ?_
  refine aJ (Y:=Option Addr×Nat×Option Addr×Nat) (S:=Int×(List Zf)×(List Zb)×Bool) _ hq27 (fun (a10,c11,a14,c15) (v7,l9,l13,v16)=>[(0,pS p0),(2,pP b1 0),(5,pP b5 0),(28,pL eS l6),(29,pI (l6.length:Int)),(30,pI v7)]) (fun (a10,c11,a14,c15) (v7,l9,l13,v16)=>[Qa.b b1 32 [pN,pN,pN,pB false],Qa.b b5 32 [pL eS x4,pO a10 l9.length c11,pO a14 l13.length c15,pB v16],Qa.row a14 l13.length c15 76 2 (List.map Zb.enc l13),Qa.row a10 l9.length c11 74 2 (List.map Zf.enc l9)]) (none,0,none,0) (o3 rfl) (bg (aC (aC (aC aN))) (bg (aC (aC aN)) tc)) ?_
  rintro ⟨a10,c11,a14,c15⟩ ⟨v7,l9,l13,v16⟩ o τ hb26;(try dsimp only at hb26);dsimp only [aw]
  refine cH [(31,pB (decide (v7<(l6.length:Int))))] (by kernel_rfl) (br (fh rfl hb26 (fun hc30 hb26=>?_) fun hc30 hb26=>?_))
  ·refine af ?_
   refine cP hb26 fun q40 hq40 hb26=>?_
   refine ap (Y:=(Option Addr×Nat×Option Addr×Nat)×((List Zf)×(List Zb)×Bool)) (fun ((a32,c33,a36,c37),(l34,l38,v39))=>[(0,pS p0),(2,pP b1 0),(5,pP b5 0),(28,pL eS l6),(29,pI (l6.length:Int)),(30,pI v7)]) (fun ((a32,c33,a36,c37),(l34,l38,v39))=>[Qa.b b1 32 [pN,pN,pN,pB false],Qa.b b5 32 [pL eS x4,pO a32 l34.length c33,pO a36 l38.length c37,pB v39],Qa.row a32 l34.length c33 74 2 (List.map Zf.enc l34),Qa.row a36 l38.length c37 76 2 (List.map Zb.enc l38)]) (fun ((a32,c33,a36,c37),(l34,l38,v39))=>q40=(l34,l38,v39)) ?_ ?_
   ·skip
    refine rx (ae hq40 fun m41 hm41 hq40=>ai [] [32,33] [(7,pS m41)] (bX 0 eS hm41 aY) (by kernel_rfl) (cP hq40 fun x42 hx42 hq40=>ai [] [35,36,34,37,38] [(8,pS x42.1),(9,pB x42.2)] (aU 1 (nH hx42) aY) (by kernel_rfl) (br (aA [(39,pB x42.2)] (by kernel_rfl) (fi rfl hq40 (fun hc43 hq40=>?_) fun hc43 hq40=>?_)))))
    ·refine ag ?_
     refine ae hq40 fun x44 hx44 hq40=>ai [] [40] [(41,pL eS x44),(42,pI (x44.length:Int)),(43,pI 0)] (aU 1 (cU hx44) aY) (by kernel_rfl) (ey hq40 fun q56 hq56 hq40=>?_)
     refine eD (Y:=(Option Addr×Nat)×((List Zf))) (fun ((a51,c52),l53)=>[(0,pS p0),(2,pP b1 0),(5,pP b5 0),(28,pL eS l6),(29,pI (l6.length:Int)),(30,pI v7)]) (fun ((a51,c52),l53)=>[Qa.b b1 32 [pN,pN,pN,pB false],Qa.b b5 32 [pL eS x4,pO a51 l53.length c52,pO a14 l13.length c15,pB v16],Qa.row a51 l53.length c52 74 2 (List.map Zf.enc l53),Qa.row a14 l13.length c15 76 2 (List.map Zb.enc l13)]) (fun ((a51,c52),l53)=>q56=l53) ?_ ?_
     ·refine aG ?_
      refine aJ (Y:=Option Addr×Nat) (S:=Int×(List Zf)) _ hq56 (fun (a48,c49) (v45,l47)=>[(0,pS p0),(2,pP b1 0),(5,pP b5 0),(28,pL eS l6),(29,pI (l6.length:Int)),(30,pI v7),(41,pL eS x44),(42,pI (x44.length:Int)),(43,pI v45)]) (fun (a48,c49) (v45,l47)=>[Qa.b b1 32 [pN,pN,pN,pB false],Qa.b b5 32 [pL eS x4,pO a48 l47.length c49,pO a14 l13.length c15,pB v16],Qa.row a14 l13.length c15 76 2 (List.map Zb.enc l13),Qa.row a48 l47.length c49 74 2 (List.map Zf.enc l47)]) (a10,c11) (wv rfl) CP ?_
      rintro ⟨a48,c49⟩ ⟨v45,l47⟩ o τ hb55;(try dsimp only at hb55);dsimp only [aw]
      refine cH [(44,pB (decide (v45<(x44.length:Int))))] (by kernel_rfl) (br (fh rfl hb55 (fun hc57 hb55=>?_) fun hc57 hb55=>?_))
      ·refine af ?_
       refine eT (ae hb55 fun m58 hm58 hb55=>ai [] [45,46] [(11,pS m58)] (bX 0 eS hm58 aY) (by kernel_rfl) (cP hb55 fun x59 hx59 hb55=>ai [] [48,49,47,50,51] [(12,pS x59.1),(13,pI x59.2)] (aU 1 (r6 hx59) aY) (by kernel_rfl) (aD (ak (bH 5 [1] [52,54,55] [(53,pO a48 l47.length c49),(56,.agg [pS x59.1,pI x59.2])] (by kernel_rfl) (aj rfl (bp rfl rfl rfl rfl rfl (eE rfl jy) rfl rfl rfl rfl (fun b60=>ae hb55 fun l62 hl62 hb55=>?_))))))))
       refine aj rfl (bw (enc:=Zf.enc) rfl rfl rfl rfl rfl rfl rfl rfl rfl eG (by exact aC (aC (aC (aC aN)))) hl62 (fun a63 c64=>?_))
       refine ba 1 [(59,pP b5 1)] (by kernel_rfl) (aM rfl rfl (al (vs:=[pO a63 l62.length c64]) rfl rfl rfl rfl rfl (cE (cE (cE bT))) (bV ii) (au (eH (ah [60] [(43,pI (i64.wrap (v45+1)))] (by kernel_rfl) ?_)))))
       exact aT hb55 (a63,c64) (wv rfl) (bg (aC (aC aN)) (bg (aC (aC aN)) (bg (aC (aC aN)) bN)))
      refine aL ?_
      refine cJ hb55 (fun ht=>an rfl ?_)
      exact gZ ((a48,c49),l47) (o3 rfl) (bg aN (bg aN (bg (aC aN) bN))) ht.symm
     rintro ⟨⟨a51,c52⟩,l53⟩ τ ρ1 hsub66 hz;(try dsimp only at hz hsub66);subst q56;(try dsimp only at hq40);dsimp only [aw]
     refine aF ?_
     obtain rfl:=osi hq40
     exact am ((a51,c52,a14,c15),(l53,l13,v16)) (o3 rfl) (Vb.trans CP hsub66) rfl
    refine ag ?_
    refine ae hq40 fun x67 hx67 hq40=>ai [] [62,63,61,64,65] [(14,pS x67.1),(15,pB x67.2)] (aU 1 (nH hx67) aY) (by kernel_rfl) (br (aA [(66,pB x67.2)] (by kernel_rfl) (fi rfl hq40 (fun hc68 hq40=>?_) fun hc68 hq40=>?_)))
    ·refine ag ?_
     refine ae hq40 fun x69 hx69 hq40=>ai [] [67] [(68,pL eS x69),(69,pI (x69.length:Int)),(70,pI 0)] (aU 1 (cU hx69) aY) (by kernel_rfl) (ey hq40 fun q81 hq81 hq40=>?_)
     refine eD (Y:=(Option Addr×Nat)×((List Zb))) (fun ((a77,c78),l79)=>[(0,pS p0),(2,pP b1 0),(5,pP b5 0),(28,pL eS l6),(29,pI (l6.length:Int)),(30,pI v7)]) (fun ((a77,c78),l79)=>[Qa.b b1 32 [pN,pN,pN,pB false],Qa.b b5 32 [pL eS x4,pO a10 l9.length c11,pO a77 l79.length c78,pB v16],Qa.row a10 l9.length c11 74 2 (List.map Zf.enc l9),Qa.row a77 l79.length c78 76 2 (List.map Zb.enc l79)]) (fun ((a77,c78),l79)=>q81=l79) ?_ ?_
     ·refine aG ?_
      refine aJ (Y:=Option Addr×Nat) (S:=Int×(List Zb)) _ hq81 (fun (a73,c74) (v70,l72)=>[(0,pS p0),(2,pP b1 0),(5,pP b5 0),(28,pL eS l6),(29,pI (l6.length:Int)),(30,pI v7),(68,pL eS x69),(69,pI (x69.length:Int)),(70,pI v70)]) (fun (a73,c74) (v70,l72)=>[Qa.b b1 32 [pN,pN,pN,pB false],Qa.b b5 32 [pL eS x4,pO a10 l9.length c11,pO a73 l72.length c74,pB v16],Qa.row a73 l72.length c74 76 2 (List.map Zb.enc l72),Qa.row a10 l9.length c11 74 2 (List.map Zf.enc l9)]) (a14,c15) (wv rfl) CP ?_
      rintro ⟨a73,c74⟩ ⟨v70,l72⟩ o τ hb80;(try dsimp only at hb80);dsimp only [aw]
      refine cH [(71,pB (decide (v70<(x69.length:Int))))] (by kernel_rfl) (br (fh rfl hb80 (fun hc82 hb80=>?_) fun hc82 hb80=>?_))
      ·refine af ?_
       refine eT (ae hb80 fun m83 hm83 hb80=>ai [] [72,73] [(17,pS m83)] (bX 0 eS hm83 aY) (by kernel_rfl) (cP hb80 fun x84 hx84 hb80=>ai [] [75,76,74,77,78] [(18,pS x84.1),(19,pI x84.2)] (aU 1 (r6 hx84) aY) (by kernel_rfl) (ey hb80 fun x85 hx85 hb80=>ae hb80 fun l88 hl88 hb80=>?_)))
       refine eD (Y:=Option Addr×Nat) (fun (a89,c90)=>[(0,pS p0),(2,pP b1 0),(5,pP b5 0),(28,pL eS l6),(29,pI (l6.length:Int)),(30,pI v7),(68,pL eS x69),(69,pI (x69.length:Int)),(70,pI v70)]) (fun (a89,c90)=>[Qa.b b1 32 [pN,pN,pN,pB false],Qa.b b5 32 [pL eS x4,pO a10 l9.length c11,pO a89 l88.length c90,pB v16],Qa.row a10 l9.length c11 74 2 (List.map Zf.enc l9),Qa.row a89 l88.length c90 76 2 (List.map Zb.enc l88)]) (fun _=>True) ?_ ?_
       ·refine gf (ρd:=[Qa.row a73 _ _ _ _ _,Qa.b b5 _ _]) _ (aq (aC (aC aN)) (aq (aC aN) Vh)) ?_
        repeat' first
         | (refine lr 1 ?_;first | refine bj rfl rfl rfl rfl (kI (co (p:=pO a73 l72.length c74) rfl (.p rfl) tz rfl) ?_) | refine bj rfl rfl rfl rfl (kI (co (p:=pO a73 l72.length c74) rfl (.p rfl) uR rfl) ?_))
         | (refine lr 3 ?_;refine nf rfl rfl rfl rfl rfl rfl (cU hx85) ?_)
         | (refine lr 6 ?_;refine bj rfl rfl rfl rfl (bp rfl rfl rfl rfl rfl (eE rfl jy) rfl rfl rfl rfl (fun b86=>?_)))
         | (refine lr 7 ?_;refine bj rfl rfl rfl rfl (bw (enc:=Zb.enc) rfl rfl rfl rfl rfl rfl rfl rfl rfl eG (by exact aC aN) hl88 (fun a89 c90=>?_)))
         | (refine lr 9 ?_;refine eF rfl rfl rfl (al (vs:=[pO a89 l88.length c90]) rfl rfl rfl rfl rfl (cE (cE bT)) (bV (bV (ii))) ?_))
         | refine bu 0 (by decide +kernel) rfl rfl rfl rfl (bR rfl rfl rfl rfl rfl (.p rfl)) ?_
         | refine bu 2 (by decide +kernel) rfl rfl rfl rfl (bY (p:=pS x84.1) rfl (.p rfl)) ?_
         | refine bu 4 (by decide +kernel) rfl rfl rfl rfl (bY (p:=pI x84.2) rfl (.p rfl)) ?_
         | refine dr 1 3 (by decide +kernel) ?_ ?_
         | refine bh 3 (by decide +kernel) ?_
         | refine bu 5 (by decide +kernel) rfl rfl rfl rfl (j8 (cs:=[pL eS x85,pI x84.2]) rfl rfl rfl rfl rfl rfl rfl (sZ rfl rfl rfl rfl (ii) (sZ rfl rfl rfl rfl (bV (ii)) Ip))) ?_
         | refine bh 6 (by decide +kernel) ?_
         | refine bh 7 (by decide +kernel) ?_
         | refine bu 8 (by decide +kernel) rfl rfl rfl rfl (bR rfl rfl rfl rfl rfl (.p rfl)) ?_
         | refine bh 9 (by decide +kernel) ?_
         | refine gQ (by decide +kernel) ?_
         | refine dr 1 6 (by decide +kernel) ?_ ?_
         | refine bh 1 (by decide +kernel) ?_
         | exact gZ (a89,c90) (wv rfl) (bg (aC (aC (aC aN))) (bg (aC (aC aN)) (bg (aC (aC aN)) (bN)))) trivial
       rintro ⟨a89,c90⟩ τ ρ1 hsub92 _;(try dsimp only at hsub92);dsimp only [aw]
       refine eH (kb hsub92 (ah [88] [(70,pI (i64.wrap (v70+1)))] (by kernel_rfl) ?_))
       exact aT hb80 (a89,c90) (wv rfl) (bg aN (bg aN (bg (aC aN) bN)))
      refine aL ?_
      refine cJ hb80 (fun ht=>an rfl ?_)
      exact gZ ((a73,c74),l72) (o3 rfl) (bg aN (bg aN (bg (aC aN) bN))) ht.symm
     rintro ⟨⟨a77,c78⟩,l79⟩ τ ρ1 hsub93 hz;(try dsimp only at hz hsub93);subst q81;(try dsimp only at hq40);dsimp only [aw]
     refine aF ?_
     obtain rfl:=osi hq40
     exact am ((a10,c11,a77,c78),(l9,l79,v16)) (o3 rfl) (Vb.trans CP hsub93) rfl
    refine ak ?_
    refine ba 1 [(89,pP b5 3)] (by kernel_rfl) (aM rfl rfl (al (vs:=[pB true]) rfl rfl rfl rfl rfl (cE bT) (bV (bV (bV ii))) (au (aF ?_))))
    obtain rfl:=osi hq40
    exact am ((a10,c11,a14,c15),(l9,l13,true)) (o3 rfl) (bg aN (bg aN (bg (aC aN) bN))) rfl
   rintro ⟨⟨a32,c33,a36,c37⟩,⟨l34,l38,v39⟩⟩ τ hz;(try dsimp only at hz);subst q40;(try dsimp only at hb26);dsimp only [aw]
   refine ah [90] [(30,pI (i64.wrap (v7+1)))] (by kernel_rfl) ?_
   exact aT hb26 (a32,c33,a36,c37) (o3 rfl) (bg aN (bg aN (bg (aC aN) bN)))
  refine aL ?_
  refine cJ hb26 (fun ht=>an rfl ?_)
  exact am ((a10,c11,a14,c15),(l9,l13,v16)) (nt rfl) (bg aN (bg aN (bg (aC aN) bN))) ht.symm
 rintro ⟨⟨a18,c19,a22,c23⟩,⟨l20,l24,v25⟩⟩ τ hz;(try dsimp only at hz);subst q27;(try dsimp only at h);dsimp only [aw]
 refine dV ?_
 refine wq (css:=List.map Zf.enc l20) (a:=a18) (by exact aC (aC aN)) ?_
 refine u6 (k:=1) (enc:=Zf.enc) (xs:=l20) (b:=b5) (a:=a18) rfl eG (cE (cE bT)) ?_
 refine wq (css:=List.map Zb.enc l24) (a:=a22) (by exact aC (aC (aC aN))) ?_
 refine u6 (k:=2) (enc:=Zb.enc) (xs:=l24) (b:=b5) (a:=a22) rfl eG (cE (cE (cE bT))) (ae h fun x94 hx94 h=>ae h fun x95 hx95 h=>ai [3,3] (rg 91 8) [(99,pB ((x94 != 0)||(!decide (x95=p0))))] (aU 1 (mJ hx94) (iJ 5 (fun hc=>qX (fU hx95 hc)) aY)) (by kernel_rfl) (fi rfl h (fun hc96 h=>?_) fun hc96 h=>?_))
 ·refine ag ?_
  refine fC 1 [(100,.agg [pN,pN,pN,pB false])] (by kernel_rfl) (aM rfl rfl (al (vs:=[pN,pN,pN,pB false]) rfl rfl rfl rfl rfl (cE (cE bT)) zl4 (aE [(3,pI 4)] (by kernel_rfl) (aD (eW (k:=0) (b:=b1) rfl (cE (cE bT)) (eW (k:=1) (b:=b1) rfl (cE (cE bT)) (eW (k:=2) (b:=b1) rfl (cE (cE bT)) (bi (bc ?_)))))))))
  obtain rfl:=osi h
  exact aH (bK (di rfl uR rfl) (az rfl)) bq ⟨rfl,rfl⟩
 refine af ?_
 refine br (ak (dE 1 [3] [(101,.agg [pL eS x4,pL Zf.enc l20,pL Zb.enc l24,pB v25])] (by kernel_rfl) (aM rfl rfl (al (vs:=[pL eS x4,pL Zf.enc l20,pL Zb.enc l24,pB v25]) rfl rfl rfl rfl rfl (cE (cE bT)) zl4 (aE [(3,pI 0)] (by kernel_rfl) (cK ?_))))))
 obtain rfl:=osi h
 exact aH (bK (di rfl uR rfl) (az rfl)) bq ⟨rfl,rfl⟩
def cV (p0:(List Zc)):Option Int:=cond (decide (300<(p0.length:Int))) (some (8:Int)) ((aW (S:=Int) (T:=(Unit)⊕(_)) (fun v2=>cond (decide (v2<(p0.length:Int))) ((bx p0 v2).bind fun m6=>cond ((((((decide (m6.ID<1))||(decide (1000000<m6.ID)))||(decide (m6.Kind<1)))||(decide (6<m6.Kind)))||(decide (m6.Company<0)))||(decide (999<m6.Company))) (some (.inr (.inr (2:Int)))) ((gd (decide (0<v2)) (bx p0 (i64.wrap (v2 - 1)))).bind fun m9=>cond ((decide (0<v2))&&(decide (m6.ID<=m9.ID))) (some (.inr (.inr (9:Int)))) ((bS m6.Prefix).bind fun x11=>cond (x11 == 0) (some (.inr (.inr (1:Int)))) (cond (decide (20<(m6.Origins.length:Int))) (some (.inr (.inr (8:Int)))) ((cX m6.Origins).bind fun x14=>cond (!x14) (some (.inr (.inr (1:Int)))) (cond (((((decide (m6.From<0))||(decide (m6.To<=m6.From)))||(decide (36525<m6.To)))||(decide (m6.Registered<(-1))))||(decide (m6.From<m6.Registered))) (some (.inr (.inr (2:Int)))) ((db m6.Duty).bind fun x17=>cond (x17 != 0) (some (.inr (.inr x17))) (some (.inl (i64.wrap (v2+1))))))))))) (some (.inr (.inl ())))) Va 0).bind fun q=>match q with | .inl _=>some (0:Int) | .inr e=>some e)
theorem jk {p0:(List Zc)} {r:Int}  (h:cV p0=some r):PF 43 [pL Zc.enc p0] (pI r):=by
 unfold cV at h
 refine aV ?_
 refine dk Tryz.func43 rfl Tryz.ntmps43 Tryz.results43 rfl (aQ [2] (by kernel_rfl) (bM (bF [6,7] [(8,pB (decide (300<(p0.length:Int))))] (by kernel_rfl) rfl h (fun hc1 h=>?_) fun hc1 h=>?_)))
 ·refine ag ?_
  refine de [(2,pI 8)] (by kernel_rfl) ?_
  exact zz r h rfl
 refine af ?_
 refine bM (aA [(9,pL Zc.enc p0),(10,pI (p0.length:Int)),(11,pI 0)] (by kernel_rfl) (ey h fun q4 hq4 h=>?_))
 refine ap (Y:=Unit×Unit) (fun (_,_)=>[]) (fun (_,_)=>[]) (fun (_,_)=>q4=Sum.inl ()) ?_ ?_
 ·refine aG ?_
  refine aJ (Y:=Unit) (S:=Int) _ hq4 (fun _ v2=>[(0,pL Zc.enc p0),(9,pL Zc.enc p0),(10,pI (p0.length:Int)),(11,pI v2)]) (fun _ v2=>[]) () (jC rfl) bq ?_
  rintro _ v2 o τ hb3;(try dsimp only at hb3);dsimp only [aw]
  refine cH [(12,pB (decide (v2<(p0.length:Int))))] (by kernel_rfl) (br (fh rfl hb3 (fun hc5 hb3=>?_) fun hc5 hb3=>?_))
  ·refine af ?_
   refine eT (ae hb3 fun m6 hm6 hb3=>cS 3 [] [14] [(13,pI v2),(15,.agg (bL m6))] (bX 1 Zc.enc hm6 aY) (by kernel_rfl) (aj rfl (aP (cs:=[pI 0,pI 0,pS Uh,pN,pI 0,pI 0,pI 0,pI 0,pI 0,pI 0,pI 0,pB false,pI 0,pB false,pI 0]) rfl rfl rfl rfl (fun b7=>ba 1 [(3,pI v2)] (by kernel_rfl) (aM rfl rfl (al (vs:=(bL m6)) rfl rfl rfl rfl rfl bT (gr (gr (gr (gr (gr (gr GT)))))) (au (bM (aK [0,0,0,0,0,0] (rg 16 27) [(43,pB ((((((decide (m6.ID<1))||(decide (1000000<m6.ID)))||(decide (m6.Kind<1)))||(decide (6<m6.Kind)))||(decide (m6.Company<0)))||(decide (999<m6.Company))))] (by kernel_rfl) (fi rfl hb3 (fun hc8 hb3=>?_) fun hc8 hb3=>?_))))))))))
   ·refine ag ?_
    refine de [(2,pI 2)] (by kernel_rfl) (iq ?_)
    refine aX hb3 (fun ht=>?_);subst ht
    refine aO (aS ?_)
    exact zz r h rfl
   refine af ?_
   refine bM (bE (ρd:=[]) [(0,0),(1,0),(2,0),(3,0),(4,0),(5,0),(6,0),(7,0),(8,0),(9,0),(10,0),(11,0),(12,0)] _ Vh (by kernel_rfl) rfl (ae hb3 fun m9 hm9 hb3=>ca 13 [0] (rg 44 12) [(56,pB ((decide (0<v2))&&(decide (m6.ID<=m9.ID))))] (xt 8 Zc.enc (fU hm9) aY) (by kernel_rfl) (bZ (fi rfl hb3 (fun hc10 hb3=>?_) fun hc10 hb3=>?_))))
   ·refine ag ?_
    refine de [(2,pI 9)] (by kernel_rfl) (iq ?_)
    refine aX hb3 (fun ht=>?_);subst ht
    refine aO (aS ?_)
    exact zz r h rfl
   refine af ?_
   refine bM (ae hb3 fun x11 hx11 hb3=>ai [0] [57,58,59] [(60,pB (x11 == 0))] (aU 2 (f9 hx11) aY) (by kernel_rfl) (fi rfl hb3 (fun hc12 hb3=>?_) fun hc12 hb3=>?_))
   ·refine ag ?_
    refine de [(2,pI 1)] (by kernel_rfl) (iq ?_)
    refine aX hb3 (fun ht=>?_);subst ht
    refine aO (aS ?_)
    exact zz r h rfl
   refine af ?_
   refine bM (aK [0] [61,62,63] [(64,pB (decide (20<(m6.Origins.length:Int))))] (by kernel_rfl) (fi rfl hb3 (fun hc13 hb3=>?_) fun hc13 hb3=>?_))
   ·refine ag ?_
    refine de [(2,pI 8)] (by kernel_rfl) (iq ?_)
    refine aX hb3 (fun ht=>?_);subst ht
    refine aO (aS ?_)
    exact zz r h rfl
   refine af ?_
   refine bM (ae hb3 fun x14 hx14 hb3=>ai [0] [65,66,67] [(68,pB (!x14))] (aU 2 (qe hx14) aY) (by kernel_rfl) (fi rfl hb3 (fun hc15 hb3=>?_) fun hc15 hb3=>?_))
   ·refine ag ?_
    refine de [(2,pI 1)] (by kernel_rfl) (iq ?_)
    refine aX hb3 (fun ht=>?_);subst ht
    refine aO (aS ?_)
    exact zz r h rfl
   refine af ?_
   refine bM (aK [0,0,0,0,0,0,0] (rg 69 26) [(95,pB (((((decide (m6.From<0))||(decide (m6.To<=m6.From)))||(decide (36525<m6.To)))||(decide (m6.Registered<(-1))))||(decide (m6.From<m6.Registered))))] (by kernel_rfl) (fi rfl hb3 (fun hc16 hb3=>?_) fun hc16 hb3=>?_))
   ·refine ag ?_
    refine de [(2,pI 2)] (by kernel_rfl) (iq ?_)
    refine aX hb3 (fun ht=>?_);subst ht
    refine aO (aS ?_)
    exact zz r h rfl
   refine af ?_
   refine cP hb3 fun x17 hx17 hb3=>ai [0] [96,97,98] [(5,pI x17)] (aU 2 (kJ hx17) aY) (by kernel_rfl) (br (bF [99] [(100,pB (x17 != 0))] (by kernel_rfl) rfl hb3 (fun hc18 hb3=>?_) fun hc18 hb3=>?_))
   ·refine ag ?_
    refine ah [101] [(2,pI x17)] (by kernel_rfl) (cK (iq ?_))
    refine aX hb3 (fun ht=>?_);subst ht
    refine aO (aS ?_)
    exact zz r h rfl
   refine af ?_
   refine eH (ah [102] [(11,pI (i64.wrap (v2+1)))] (by kernel_rfl) ?_)
   exact aT hb3 () (jC rfl) bq
  refine aL ?_
  refine cJ hb3 (fun ht=>an rfl ?_)
  exact am ((),()) qr bq ht.symm
 rintro ⟨_,_⟩ τ hz;(try dsimp only at hz);subst q4;(try dsimp only at h);dsimp only [aw]
 refine cH [(2,pI 0)] (by kernel_rfl) (cK ?_)
 exact zz r h rfl
def eu (p0:Int):Option Xh:=(strconv_Itoa (i64.wrap (Int.tdiv p0 10000))).bind fun x1=>Option.bind (cond ((Int.tmod p0 10000) != 0) ((strconv_Itoa (i64.wrap (10000+(Int.tmod p0 10000)))).bind fun x5=>(ff x5 1 (x5.size:Int)).bind fun s6=>(ki s6 (⟨#[48]⟩:Xh)).bind fun x7=>(lC (⟨#[46]⟩:Xh) x7).bind fun s8=>(lC x1 s8).bind fun s9=>some s9) (some x1)) (fun v2=>(lC v2 (⟨#[37]⟩:Xh)).bind fun s10=>some s10)
theorem lO {p0:Int} {r:Xh}  (h:eu p0=some r):PF 128 [pI p0] (pS r):=by
 unfold eu at h
 refine aV ?_
 refine dk Tryz.func128 rfl Tryz.ntmps128 Tryz.results128 rfl (aQ [2] (by kernel_rfl) (cP h fun x1 hx1 h=>ai [] [6,7,8] [(3,pS x1)] (aU 2 (cu hx1) aY) (by kernel_rfl) (bM (ah [9,10] [(4,pI (Int.tmod p0 10000))] (by kernel_rfl) (br (ah [11] [(12,pB ((Int.tmod p0 10000) != 0))] (by kernel_rfl) (ey h fun q3 hq3 h=>?_)))))))
 refine ap (Y:=Unit×Xh) (fun (_,v2)=>[(3,pS v2)]) (fun (_,v2)=>[]) (fun (_,v2)=>q3=v2) ?_ ?_
 ·skip
  refine fh rfl hq3 (fun hc4 hq3=>?_) fun hc4 hq3=>?_
  ·refine ag ?_
   refine ae hq3 fun x5 hx5 hq3=>ae hq3 fun s6 hs6 hq3=>ai [] [13,14,15,16] [(5,pS s6)] (aU 2 (cu hx5) (yC 3 hs6 aY)) (by kernel_rfl) (ey hq3 fun x7 hx7 hq3=>ae hq3 fun s8 hs8 hq3=>ae hq3 fun s9 hs9 hq3=>ai [] (rg 17 5) [(3,pS s9)] (aU 2 (rZ hx7) (ml 3 hs8 (ml 4 hs9 aY))) (by kernel_rfl) ?_)
   obtain rfl:=osi hq3
   exact am ((),s9) (oC rfl) bq rfl
  refine af ?_
  obtain rfl:=osi hq3
  exact am ((),x1) (oC rfl) bq rfl
 rintro ⟨_,v2⟩ τ hz;(try dsimp only at hz);subst q3;(try dsimp only at h);dsimp only [aw]
 refine ag (ae h fun s10 hs10 h=>ai [] [22,23] [(2,pS s10)] (ml 1 hs10 aY) (by kernel_rfl) (cK ?_))
 exact zz r h rfl
def jH (p0:Int):Option Xh:=(jr p0).bind fun x1=>cond (!x1) (some (⟨#[]⟩:Xh)) (Option.bind (cond (decide (p0<0)) (some ((i64.wrap (0 - p0)),(⟨#[45]⟩:Xh))) (some (p0,(⟨#[]⟩:Xh)))) (fun (v3,v4)=>(strconv_Itoa (Int.tmod v3 100)).bind fun x7=>Option.bind (cond (decide ((x7.size:Int)<2)) ((lC (⟨#[48]⟩:Xh) x7).bind fun s11=>some s11) (some x7)) (fun v8=>(strconv_Itoa (i64.wrap (Int.tdiv v3 100))).bind fun x12=>(lC v4 x12).bind fun s13=>(lC s13 (⟨#[46]⟩:Xh)).bind fun s14=>(lC s14 v8).bind fun s15=>some s15)))
theorem qY {p0:Int} {r:Xh}  (h:jH p0=some r):PF 129 [pI p0] (pS r):=by
 unfold jH at h
 refine aV ?_
 refine dk Tryz.func129 rfl Tryz.ntmps129 Tryz.results129 rfl (aQ [2] (by kernel_rfl) (bM (ae h fun x1 hx1 h=>ai [] [5,6] [(7,pB (!x1))] (aU 1 (po hx1) aY) (by kernel_rfl) (fi rfl h (fun hc2 h=>?_) fun hc2 h=>?_))))
 ·refine ag ?_
  refine de [(2,pS (⟨#[]⟩:Xh))] (by kernel_rfl) ?_
  exact zz r h rfl
 refine af ?_
 refine br (aA [(3,pS (⟨#[]⟩:Xh))] (by kernel_rfl) (bM (ah [8] [(9,pB (decide (p0<0)))] (by kernel_rfl) (ey h fun q5 hq5 h=>?_))))
 refine ap (Y:=Unit×(Int×Xh)) (fun (_,(v3,v4))=>[(0,pI v3),(3,pS v4)]) (fun (_,(v3,v4))=>[]) (fun (_,(v3,v4))=>q5=(v3,v4)) ?_ ?_
 ·skip
  refine fh rfl hq5 (fun hc6 hq5=>?_) fun hc6 hq5=>?_
  ·refine ag ?_
   refine aA [(3,pS (⟨#[45]⟩:Xh))] (by kernel_rfl) (aD (ah [10,11] [(0,pI (i64.wrap (0 - p0)))] (by kernel_rfl) ?_))
   obtain rfl:=osi hq5
   exact am ((),((i64.wrap (0 - p0)),(⟨#[45]⟩:Xh))) (lK rfl) bq rfl
  refine af ?_
  obtain rfl:=osi hq5
  exact am ((),(p0,(⟨#[]⟩:Xh))) (lK rfl) bq rfl
 rintro ⟨_,⟨v3,v4⟩⟩ τ hz;(try dsimp only at hz);subst q5;(try dsimp only at h);dsimp only [aw]
 refine ag (ae h fun x7 hx7 h=>ai [] [12,13,14] [(4,pS x7)] (aU 2 (cu hx7) aY) (by kernel_rfl) (bM (ah [15,16] [(17,pB (decide ((x7.size:Int)<2)))] (by kernel_rfl) (ey h fun q9 hq9 h=>?_))))
 refine ap (Y:=Unit×Xh) (fun (_,v8)=>[(0,pI v3),(3,pS v4),(4,pS v8)]) (fun (_,v8)=>[]) (fun (_,v8)=>q9=v8) ?_ ?_
 ·skip
  refine fh rfl hq9 (fun hc10 hq9=>?_) fun hc10 hq9=>?_
  ·refine ae hq9 ?_;clear hq9;intro s11 hs11 hq9
   refine ai [] [18,19] [(4,pS s11)] (ml 1 hs11 aY) (by kernel_rfl) ?_
   obtain rfl:=osi hq9
   exact am ((),s11) (nt rfl) bq rfl
  refine af ?_
  obtain rfl:=osi hq9
  exact am ((),x7) (nt rfl) bq rfl
 rintro ⟨_,v8⟩ τ hz;(try dsimp only at hz);subst q9;(try dsimp only at h);dsimp only [aw]
 refine ag (ae h fun x12 hx12 h=>ae h fun s13 hs13 h=>ae h fun s14 hs14 h=>ae h fun s15 hs15 h=>ai [] (rg 20 8) [(2,pS s15)] (aU 3 (cu hx12) (ml 4 hs13 (ml 5 hs14 (ml 7 hs15 aY)))) (by kernel_rfl) (cK ?_))
 exact zz r h rfl
def ma (p0:Zs):Option Xh:=(db p0).bind fun x2=>cond (x2 != 0) (some (⟨#[]⟩:Xh)) (Option.bind (cond ((p0.Rate != 0)||(p0.Amount == 0)) ((eu p0.Rate).bind fun x10=>(app 16 ([]:List Xh) [x10]).bind fun l14=>some l14) (some ([]:(List Xh)))) (fun l7=>Option.bind (cond (p0.Amount != 0) ((jH p0.Amount).bind fun x24=>(lC x24 (⟨#[47]⟩:Xh)).bind fun s25=>(strconv_Itoa p0.Per).bind fun x26=>(lC s25 x26).bind fun s27=>(app 16 l7 [s27]).bind fun l30=>some l30) (some l7)) (fun l21=>(strings_Join l21 (⟨#[32,43,32]⟩:Xh)).bind fun x34=>Option.bind (cond p0.HasMost ((eu p0.Most).bind fun x38=>(lC (⟨#[32,109,97,120,32]⟩:Xh) x38).bind fun s39=>(lC x34 s39).bind fun s40=>some s40) (some x34)) (fun v35=>Option.bind (cond p0.HasLeast ((eu p0.Least).bind fun x44=>(lC (⟨#[32,109,105,110,32]⟩:Xh) x44).bind fun s45=>(lC v35 s45).bind fun s46=>some s46) (some v35)) (fun v41=>some v41)))))
theorem r8 {p0:Zs} {r:Xh}  (h:ma p0=some r):PF 84 [.agg [pI p0.Rate,pI p0.Amount,pI p0.Per,pB p0.HasMost,pI p0.Most,pB p0.HasLeast,pI p0.Least]] (pS r):=by
 unfold ma at h
 refine aV ?_
 refine dk Tryz.func84 rfl Tryz.ntmps84 Tryz.results84 rfl (cL rfl (be (cs:=[pI p0.Rate,pI p0.Amount,pI p0.Per,pB p0.HasMost,pI p0.Most,pB p0.HasLeast,pI p0.Least]) rfl rfl (fun b1=>aZ [2] (by kernel_rfl) (bM (ae h fun x2 hx2 h=>ai [0] [5,6] [(7,pB (x2 != 0))] (aU 1 (kJ hx2) aY) (by kernel_rfl) (fi rfl h (fun hc3 h=>?_) fun hc3 h=>?_))))))
 ·refine ag ?_
  refine de [(2,pS (⟨#[]⟩:Xh))] (by kernel_rfl) ?_
  exact zz r h rfl
 refine af ?_
 refine br (aA [(3,pN)] (by kernel_rfl) (bM (aK [0,0] (rg 8 7) [(15,pB ((p0.Rate != 0)||(p0.Amount == 0)))] (by kernel_rfl) (ey h fun q8 hq8 h=>?_))))
 refine ap (Y:=(Option Addr×Nat)×((List Xh))) (fun ((a5,c6),l7)=>[(1,pP b1 0),(3,pO a5 l7.length c6)]) (fun ((a5,c6),l7)=>[Qa.b b1 78 [pI p0.Rate,pI p0.Amount,pI p0.Per,pB p0.HasMost,pI p0.Most,pB p0.HasLeast,pI p0.Least],Qa.row a5 l7.length c6 9 1 (List.map eS l7)]) (fun ((a5,c6),l7)=>q8=l7) ?_ ?_
 ·skip
  refine fh rfl hq8 (fun hc9 hq8=>?_) fun hc9 hq8=>?_
  ·refine ae hq8 ?_;clear hq8;intro x10 hx10 hq8
   refine cS 4 [0] [17,18] [(16,pN),(19,pS x10)] (aU 3 (lO hx10) aY) (by kernel_rfl) (aj rfl (bp rfl rfl rfl rfl rfl (eE rfl jy) rfl rfl rfl rfl (fun b11=>oJ 9 1 (ae hq8 fun l14 hl14 hq8=>?_))))
   refine aj rfl (bw (enc:=eS) rfl rfl rfl rfl rfl rfl rfl rfl rfl tz (by exact aN) hl14 (fun a15 c16=>?_))
   refine aE [(3,pO a15 l14.length c16)] (by kernel_rfl) ?_
   obtain rfl:=osi hq8
   exact am ((a15,c16),l14) (lK rfl) (bg (aC (aC aN)) bN) rfl
  refine af ?_
  refine gc (kq 9 1) ?_
  obtain rfl:=osi hq8
  exact am ((none,0),([]:(List Xh))) (lK rfl) (bg (aC aN) bN) rfl
 rintro ⟨⟨a5,c6⟩,l7⟩ τ hz;(try dsimp only at hz);subst q8;(try dsimp only at h);dsimp only [aw]
 refine dV (aK [0] [22,23] [(24,pB (p0.Amount != 0))] (by kernel_rfl) (ey h fun q22 hq22 h=>?_))
 refine ap (Y:=(Option Addr×Nat)×((List Xh))) (fun ((a19,c20),l21)=>[(1,pP b1 0),(3,pO a19 l21.length c20)]) (fun ((a19,c20),l21)=>[Qa.b b1 78 [pI p0.Rate,pI p0.Amount,pI p0.Per,pB p0.HasMost,pI p0.Most,pB p0.HasLeast,pI p0.Least],Qa.row a19 l21.length c20 9 1 (List.map eS l21)]) (fun ((a19,c20),l21)=>q22=l21) ?_ ?_
 ·skip
  refine fh rfl hq22 (fun hc23 hq22=>?_) fun hc23 hq22=>?_
  ·refine bE (ρd:=[Qa.row a5 _ _ _ _ _]) [(0,0),(1,0),(2,0),(5,0),(6,0),(3,1),(4,0),(7,1),(8,0),(9,1),(10,1),(11,0)] _ (aq (aC aN) Vh) (by kernel_rfl) rfl ?_
   refine ae hq22 fun x24 hx24 hq22=>ae hq22 fun s25 hs25 hq22=>ae hq22 fun x26 hx26 hq22=>ae hq22 fun s27 hs27 hq22=>ca 9 [0,0] [26,27,30,31,28,29,32] [(25,pO a5 l7.length c6),(33,pS s27)] (aU 5 (qY hx24) (ml 6 hs25 (aU 7 (cu hx26) (ml 8 hs27 aY)))) (by kernel_rfl) (jm rfl rfl rfl (bp rfl rfl rfl rfl rfl (eE rfl jy) rfl rfl rfl rfl (fun b28=>ae hq22 fun l30 hl30 hq22=>?_)))
   refine jm rfl rfl rfl (bw (enc:=eS) rfl rfl rfl rfl rfl rfl rfl rfl rfl eG (by exact aC aN) hl30 (fun a31 c32=>?_))
   refine fB 1 [(3,pO a31 l30.length c32)] (by kernel_rfl) (bZ ?_)
   obtain rfl:=osi hq22
   exact am ((a31,c32),l30) (lK rfl) (bg (aC (aC aN)) bN) rfl
  refine af ?_
  obtain rfl:=osi hq22
  exact am ((a5,c6),l7) (lK rfl) tc rfl
 rintro ⟨⟨a19,c20⟩,l21⟩ τ hz;(try dsimp only at hz);subst q22;(try dsimp only at h);dsimp only [aw]
 refine ag (fC 1 [(36,pO a19 l21.length c20)] (by kernel_rfl) ?_)
 refine dw (enc:=eS) (xs:=l21) 36 rfl (by exact aC aN) ?_
 refine ae h fun x34 hx34 h=>dh [] [37] [(4,pS x34)] (aU 0 (dI hx34) aY) (by kernel_rfl) (bM (aK [1] [38] [(39,pB p0.HasMost)] (by kernel_rfl) (ey h fun q36 hq36 h=>?_)))
 refine ap (Y:=Unit×Xh) (fun (_,v35)=>[(1,pP b1 0),(4,pS v35)]) (fun (_,v35)=>[Qa.b b1 78 [pI p0.Rate,pI p0.Amount,pI p0.Per,pB p0.HasMost,pI p0.Most,pB p0.HasLeast,pI p0.Least]]) (fun (_,v35)=>q36=v35) ?_ ?_
 ·skip
  refine fh rfl hq36 (fun hc37 hq36=>?_) fun hc37 hq36=>?_
  ·refine ae hq36 ?_;clear hq36;intro x38 hx38 hq36
   refine ae hq36 fun s39 hs39 hq36=>ae hq36 fun s40 hs40 hq36=>ai [1] (rg 40 6) [(4,pS s40)] (aU 3 (lO hx38) (ml 4 hs39 (ml 5 hs40 aY))) (by kernel_rfl) ?_
   obtain rfl:=osi hq36
   exact am ((),s40) (lK rfl) (bg (aC aN) bq) rfl
  refine af ?_
  obtain rfl:=osi hq36
  exact am ((),x34) (lK rfl) (bg (aC aN) bq) rfl
 rintro ⟨_,v35⟩ τ hz;(try dsimp only at hz);subst q36;(try dsimp only at h);dsimp only [aw]
 refine dV (aK [0] [46] [(47,pB p0.HasLeast)] (by kernel_rfl) (ey h fun q42 hq42 h=>?_))
 refine ap (Y:=Unit×Xh) (fun (_,v41)=>[(4,pS v41)]) (fun (_,v41)=>[]) (fun (_,v41)=>q42=v41) ?_ ?_
 ·skip
  refine fh rfl hq42 (fun hc43 hq42=>?_) fun hc43 hq42=>?_
  ·refine ae hq42 ?_;clear hq42;intro x44 hx44 hq42
   refine ae hq42 fun s45 hs45 hq42=>ae hq42 fun s46 hs46 hq42=>ai [0] (rg 48 6) [(4,pS s46)] (aU 3 (lO hx44) (ml 4 hs45 (ml 5 hs46 aY))) (by kernel_rfl) ?_
   obtain rfl:=osi hq42
   exact am ((),s46) (oC rfl) bq rfl
  refine af ?_
  obtain rfl:=osi hq42
  exact am ((),v35) (oC rfl) bq rfl
 rintro ⟨_,v41⟩ τ hz;(try dsimp only at hz);subst q42;(try dsimp only at h);dsimp only [aw]
 refine ag (ah [54] [(2,pS v41)] (by kernel_rfl) (cK ?_))
 exact zz r h rfl
def eV (p0:Zc):Option Xh:=Option.bind (cond (decide (0<(p0.Origins.length:Int))) ((strings_Join p0.Origins (⟨#[44]⟩:Xh)).bind fun x5=>some x5) (some (⟨#[42]⟩:Xh))) (fun v2=>Option.bind (cond (p0.Registered != (-1)) ((strconv_Itoa p0.Registered).bind fun x9=>some x9) (some (⟨#[45]⟩:Xh))) (fun v6=>(strconv_Itoa p0.ID).bind fun x10=>(strconv_Itoa p0.Kind).bind fun x11=>(strconv_Itoa p0.Company).bind fun x12=>(strconv_Itoa p0.From).bind fun x13=>(strconv_Itoa p0.To).bind fun x14=>(ma p0.Duty).bind fun x15=>(strings_Join [x10,x11,p0.Prefix,v2,x12,x13,x14,v6,x15] (⟨#[32]⟩:Xh)).bind fun x18=>some x18))
theorem ly {p0:Zc} {r:Xh}  (h:eV p0=some r):PF 44 [.agg (bL p0)] (pS r):=by
 unfold eV at h
 refine aV ?_
 refine dk Tryz.func44 rfl Tryz.ntmps44 Tryz.results44 rfl (cL rfl (be (cs:=(bL p0)) rfl rfl (fun b1=>aZ [2] (by kernel_rfl) (br (aA [(3,pS (⟨#[42]⟩:Xh))] (by kernel_rfl) (bM (aK [0] [6,7,8] [(9,pB (decide (0<(p0.Origins.length:Int))))] (by kernel_rfl) (ey h fun q3 hq3 h=>?_))))))))
 refine ap (Y:=Unit×Xh) (fun (_,v2)=>[(1,pP b1 0),(3,pS v2)]) (fun (_,v2)=>[Qa.b b1 81 (bL p0)]) (fun (_,v2)=>q3=v2) ?_ ?_
 ·skip
  refine fh rfl hq3 (fun hc4 hq3=>?_) fun hc4 hq3=>?_
  ·refine ae hq3 ?_;clear hq3;intro x5 hx5 hq3
   refine ai [0] [10,11,12] [(3,pS x5)] (aU 2 (dI hx5) aY) (by kernel_rfl) ?_
   obtain rfl:=osi hq3
   exact am ((),x5) (lK rfl) bN rfl
  refine af ?_
  obtain rfl:=osi hq3
  exact am ((),(⟨#[42]⟩:Xh)) (lK rfl) bN rfl
 rintro ⟨_,v2⟩ τ hz;(try dsimp only at hz);subst q3;(try dsimp only at h);dsimp only [aw]
 refine cH [(4,pS (⟨#[45]⟩:Xh))] (by kernel_rfl) (bM (aK [0] [13,14] [(15,pB (p0.Registered != (-1)))] (by kernel_rfl) (ey h fun q7 hq7 h=>?_)))
 refine ap (Y:=Unit×Xh) (fun (_,v6)=>[(1,pP b1 0),(3,pS v2),(4,pS v6)]) (fun (_,v6)=>[Qa.b b1 81 (bL p0)]) (fun (_,v6)=>q7=v6) ?_ ?_
 ·skip
  refine fh rfl hq7 (fun hc8 hq7=>?_) fun hc8 hq7=>?_
  ·refine ae hq7 ?_;clear hq7;intro x9 hx9 hq7
   refine ai [0] [16,17,18] [(4,pS x9)] (aU 2 (cu hx9) aY) (by kernel_rfl) ?_
   obtain rfl:=osi hq7
   exact am ((),x9) (nt rfl) bN rfl
  refine af ?_
  obtain rfl:=osi hq7
  exact am ((),(⟨#[45]⟩:Xh)) (nt rfl) bN rfl
 rintro ⟨_,v6⟩ τ hz;(try dsimp only at hz);subst q7;(try dsimp only at h);dsimp only [aw]
 refine ag (bE (ρd:=[]) [(0,0),(1,0),(3,0),(4,0),(6,0),(7,0),(8,0),(9,0),(10,0),(12,0),(13,0),(15,0),(16,0),(18,0),(19,0),(20,0),(2,1),(5,1),(11,1),(14,1),(17,1),(21,1),(22,1),(23,0)] _ Vh (by kernel_rfl) rfl (ae h fun x10 hx10 h=>ae h fun x11 hx11 h=>ae h fun x12 hx12 h=>ae h fun x13 hx13 h=>ae h fun x14 hx14 h=>ae h fun x15 hx15 h=>ca 22 [0,0,0,0,0,0,0] [19,20,22,23,25,28,29,31,32,34,35,38,39] [(26,pS p0.Prefix),(27,pS v2),(37,pS v6),(21,pS x10),(24,pS x11),(30,pS x12),(33,pS x13),(36,pS x14),(40,pS x15)] (aU 16 (cu hx10) (aU 17 (cu hx11) (aU 18 (cu hx12) (aU 19 (cu hx13) (aU 20 (cu hx14) (aU 21 (r8 hx15) aY)))))) (by kernel_rfl) (jm rfl rfl rfl (bp rfl rfl rfl rfl rfl (eE rfl (eE rfl (eE rfl (eE rfl (eE rfl (eE rfl (eE rfl (eE rfl (eE rfl jy))))))))) rfl rfl rfl rfl (fun b16=>fB 1 [(5,pO (some ⟨b16,0,none⟩) 9 9)] (by kernel_rfl) (bZ (br (fC 1 [(42,pO (some ⟨b16,0,none⟩) 9 9)] (by kernel_rfl) ?_))))))))
 refine dw (enc:=eS) (xs:=[x10,x11,p0.Prefix,v2,x12,x13,x14,v6,x15]) 42 rfl (by exact aN) ?_
 refine ae h fun x18 hx18 h=>dh [] [43] [(2,pS x18)] (aU 0 (dI hx18) aY) (by kernel_rfl) (cK ?_)
 exact zz r h rfl
def ju (p0:Xh) (p1:Xh) (p2:Int):Option (List Xh):=(gk p0 p1 0 p2).bind fun x1=>some x1
theorem uu {p0:Xh} {p1:Xh} {p2:Int} {r:(List Xh)}  (h:ju p0 p1 p2=some r):PF 78 [pS p0,pS p1,pI p2] (pL eS r):=by
 unfold ju at h
 refine aV ?_
 refine dk Tryz.func78 rfl Tryz.ntmps78 Tryz.results78 rfl (aQ [6] (by kernel_rfl) (cP h fun x1 hx1 h=>ai [] [7,8,9,10] [(6,pL eS x1)] (aU 3 (oa hx1) aY) (by kernel_rfl) (cK ?_)))
 exact zz r h rfl
def dz (p0:Xh):Option (Int×Bool):=(fF p0 (⟨#[37]⟩:Xh)).bind fun x1=>(fT x1.1 (⟨#[46]⟩:Xh)).bind fun x2=>cond (((!x1.2)||(decide (4<(x2.1.size:Int))))||(decide (4<(x2.2.1.size:Int)))) (some ((0:Int),false)) ((lC x2.1 x2.2.1).bind fun s4=>(ff (⟨#[48,48,48,48]⟩:Xh) (x2.2.1.size:Int) ((⟨#[48,48,48,48]⟩:Xh).size:Int)).bind fun s5=>(lC s4 s5).bind fun s6=>(dB s6).bind fun x7=>some (x7.1,true))
theorem mg {p0:Xh} {r:(Int×Bool)}  (h:dz p0=some r):PF 229 [pS p0] (.tup [pI r.1,pB r.2]):=by
 unfold dz at h
 refine aV ?_
 refine dk Tryz.func229 rfl Tryz.ntmps229 Tryz.results229 rfl (aQ [2,3] (by kernel_rfl) (cP h fun x1 hx1 h=>ai [] [12,13,11,14,15] [(4,pS x1.1),(5,pB x1.2)] (aU 1 (rP hx1) aY) (by kernel_rfl) (cP h fun x2 hx2 h=>ai [] [17,18,16,19,20,21,8] [(6,pS x2.1),(7,pS x2.2.1)] (aU 1 (mI hx2) aY) (by kernel_rfl) (bM (bF (rg 22 11) [(33,pB (((!x1.2)||(decide (4<(x2.1.size:Int))))||(decide (4<(x2.2.1.size:Int)))))] (by kernel_rfl) rfl h (fun hc3 h=>?_) fun hc3 h=>?_)))))
 ·refine ag ?_
  refine de [(2,pI 0),(3,pB false)] (by kernel_rfl) ?_
  obtain rfl:=osi h
  exact aH (bK (az rfl) (az rfl)) bq ⟨rfl,rfl⟩
 refine af ?_
 refine cP h fun s4 hs4 h=>ae h fun s5 hs5 h=>ae h fun s6 hs6 h=>ae h fun x7 hx7 h=>ai [] ((rg 35 8)++[34,43,44]) [(9,pI x7.1),(10,.v .nilIface)] (ml 2 hs4 (yC 5 hs5 (ml 6 hs6 (aU 7 (strconv_Atoi_ok hx7) aY)))) (by kernel_rfl) (br (bE (ρd:=[]) [(0,0),(1,0),(2,0),(3,0),(4,0)] _ Vh (by kernel_rfl) rfl (fB 2 [(45,pI x7.1),(46,.v .nilIface)] (by kernel_rfl) (lW rfl rfl rfl (oN rfl rfl rfl (.p rfl) (.p rfl) rfl) (fB 2 [(2,pI x7.1),(3,pB true)] (by kernel_rfl) (bZ (cK ?_)))))))
 obtain rfl:=osi h
 exact aH (bK (az rfl) (az rfl)) bq ⟨rfl,rfl⟩
def mh (p0:Xh):Option (Int×Int):=cond ((decide ((i64.wrap ((p0.size:Int) - 3))<1))||(decide (15<(i64.wrap ((p0.size:Int) - 3))))) (some ((0:Int),(4:Int))) ((ff p0 0 (i64.wrap ((p0.size:Int) - 3))).bind fun s2=>(ff p0 (i64.wrap ((i64.wrap ((p0.size:Int) - 3))+1)) (p0.size:Int)).bind fun s3=>(lC s2 s3).bind fun s4=>(dB s4).bind fun x5=>(gd (!false) (jH x5.1)).bind fun x6=>cond (false||(!decide (x6=p0))) (some ((0:Int),(4:Int))) (some (x5.1,(0:Int))))
theorem xM {p0:Xh} {r:(Int×Int)}  (h:mh p0=some r):PF 230 [pS p0] (.tup [pI r.1,pI r.2]):=by
 unfold mh at h
 refine aV ?_
 refine dk Tryz.func230 rfl Tryz.ntmps230 Tryz.results230 rfl (aQ [2,3] (by kernel_rfl) (br (ah [7,8,9] [(4,pI (i64.wrap ((p0.size:Int) - 3)))] (by kernel_rfl) (bM (bF (rg 10 5) [(15,pB ((decide ((i64.wrap ((p0.size:Int) - 3))<1))||(decide (15<(i64.wrap ((p0.size:Int) - 3))))))] (by kernel_rfl) rfl h (fun hc1 h=>?_) fun hc1 h=>?_)))))
 ·refine ag ?_
  refine de [(2,pI 0),(3,pI 4)] (by kernel_rfl) ?_
  obtain rfl:=osi h
  exact aH (bK (az rfl) (az rfl)) bq ⟨rfl,rfl⟩
 refine af ?_
 refine br (bE (ρd:=[]) [(0,0),(1,0),(2,0),(3,0),(4,0),(5,0),(6,0),(7,0),(8,1),(9,0),(10,0),(11,0),(12,0),(13,0)] _ Vh (by kernel_rfl) rfl (ae h fun s2 hs2 h=>ae h fun s3 hs3 h=>ae h fun s4 hs4 h=>ae h fun x5 hx5 h=>ca 14 [] ((rg 17 9)++[16,26,27]) [(5,pI x5.1),(6,.v .nilIface)] (yC 2 hs2 (yC 6 hs3 (ml 7 hs4 (aU 8 (strconv_Atoi_ok hx5) aY)))) (by kernel_rfl) (bZ (bM (fC 1 [(28,.v .nilIface)] (by kernel_rfl) (cg rfl rfl rfl (oN rfl rfl rfl (.p rfl) (.p rfl) rfl) (ae h fun x6 hx6 h=>dh [] (rg 30 5) [(35,pB (false||(!decide (x6=p0))))] (iJ 2 (fun hc=>qY (fU hx6 hc)) aY) (by kernel_rfl) (fi rfl h (fun hc7 h=>?_) fun hc7 h=>?_))))))))
 ·refine ag ?_
  refine de [(2,pI 0),(3,pI 4)] (by kernel_rfl) ?_
  obtain rfl:=osi h
  exact aH (bK (az rfl) (az rfl)) bq ⟨rfl,rfl⟩
 refine af ?_
 refine br (ah [36] [(2,pI x5.1),(3,pI 0)] (by kernel_rfl) (cK ?_))
 obtain rfl:=osi h
 exact aH (bK (az rfl) (az rfl)) bq ⟨rfl,rfl⟩
def jY (p0:Zs) (p1:(List Xh)):Option ((List Xh)×Bool×Zs):=(bx p1 0).bind fun m1=>(dz m1).bind fun x2=>Option.bind (α:=((List Xh)×Int)⊕_) (cond x2.2 ((gd (!(decide ((p1.length:Int)<3))) (bx p1 1)).bind fun m7=>cond ((decide ((p1.length:Int)<3))||(!decide (m7=(⟨#[43]⟩:Xh)))) ((sub p1 1 (p1.length:Int)).bind fun l9=>some (.inr (l9,true,(⟨x2.1,p0.Amount,p0.Per,p0.HasMost,p0.Most,p0.HasLeast,p0.Least⟩:Zs)))) ((sub p1 2 (p1.length:Int)).bind fun l10=>some (.inl (l10,x2.1)))) (some (.inl (p1,p0.Rate)))) (fun q=>match q with | .inl (l3,v4)=>(bx l3 0).bind (fun m11=>(fT m11 (⟨#[47]⟩:Xh)).bind fun x12=>(mh x12.1).bind fun x13=>(dB x12.2.1).bind fun x14=>(sub l3 1 (l3.length:Int)).bind fun l15=>some (l15,((x13.2 == 0)&&true),(⟨v4,x13.1,x14.1,p0.HasMost,p0.Most,p0.HasLeast,p0.Least⟩:Zs))) | .inr e=>some e)
theorem tO {p0:Zs} {p1:(List Xh)} {b0:Nat} {r:((List Xh)×Bool×Zs)}  (h:jY p0 p1=some r):La 185 [pP b0 0,pL eS p1] [Qa.b b0 78 [pI p0.Rate,pI p0.Amount,pI p0.Per,pB p0.HasMost,pI p0.Most,pB p0.HasLeast,pI p0.Least]] (fun pv ρ'=>pv=.tup [pL eS r.1,pB r.2.1]/\ρ'=[Qa.b b0 78 [pI r.2.2.Rate,pI r.2.2.Amount,pI r.2.2.Per,pB r.2.2.HasMost,pI r.2.2.Most,pB r.2.2.HasLeast,pI r.2.2.Least]]):=by
 unfold jY at h
 refine dk Tryz.func185 rfl Tryz.ntmps185 Tryz.results185 rfl (aQ [4,5] (by kernel_rfl) (bM (ae h fun m1 hm1 h=>ae h fun x2 hx2 h=>ai [] [16,17,18,19,15,20,21] [(6,pI x2.1),(7,pB x2.2)] (bX 1 eS hm1 (aU 3 (mg hx2) aY)) (by kernel_rfl) (br (aA [(22,pB x2.2)] (by kernel_rfl) (ey h fun q5 hq5 h=>?_))))))
 refine ap (Y:=Unit×((List Xh)×Int)) (fun (_,(l3,v4))=>[(0,pP b0 0),(1,pL eS l3)]) (fun (_,(l3,v4))=>[Qa.b b0 78 [pI v4,pI p0.Amount,pI p0.Per,pB p0.HasMost,pI p0.Most,pB p0.HasLeast,pI p0.Least]]) (fun (_,(l3,v4))=>q5=Sum.inl (l3,v4)) ?_ ?_
 ·skip
  refine fh rfl hq5 (fun hc6 hq5=>?_) fun hc6 hq5=>?_
  ·refine ag ?_
   refine ak (bU 4 [23,25] [(24,pI x2.1),(26,pP b0 0)] (by kernel_rfl) (aM rfl rfl (al (vs:=[pI x2.1]) rfl rfl rfl rfl rfl bT ii (au (bM (ae hq5 fun m7 hm7 hq5=>ai [] (rg 27 8) [(35,pB ((decide ((p1.length:Int)<3))||(!decide (m7=(⟨#[43]⟩:Xh)))))] (xt 5 eS (fU hm7) aY) (by kernel_rfl) (fi rfl hq5 (fun hc8 hq5=>?_) fun hc8 hq5=>?_)))))))
   ·refine ag ?_
    refine ae hq5 fun l9 hl9 hq5=>ai [] [36,37] [(4,pL eS l9),(5,pB true)] (Bz 1 eS 1 (fun _=>rfl) hl9 aY) (by kernel_rfl) (sO (aS ?_))
    obtain rfl:=osi hq5
    obtain rfl:=osi h
    exact aH (bK (az rfl) (az rfl)) bN ⟨rfl,rfl⟩
   refine af ?_
   refine ey hq5 fun l10 hl10 hq5=>ai [] [38,39] [(1,pL eS l10)] (Bz 1 eS 1 (fun _=>rfl) hl10 aY) (by kernel_rfl) ?_
   obtain rfl:=osi hq5
   exact am ((),(l10,x2.1)) (lK rfl) bN rfl
  refine af ?_
  obtain rfl:=osi hq5
  exact am ((),(p1,p0.Rate)) (lK rfl) bN rfl
 rintro ⟨_,⟨l3,v4⟩⟩ τ hz;(try dsimp only at hz);subst q5;(try dsimp only at h);dsimp only [aw]
 refine ag (ae h fun m11 hm11 h=>ae h fun x12 hx12 h=>ai [] [41,42,43,44,40,45,46,47,10] [(8,pS x12.1),(9,pS x12.2.1)] (bX 1 eS hm11 (aU 3 (mI hx12) aY)) (by kernel_rfl) (cP h fun x13 hx13 h=>ai [] [49,50,48,51,52] [(11,pI x13.1),(12,pI x13.2)] (aU 1 (xM hx13) aY) (by kernel_rfl) (cP h fun x14 hx14 h=>ai [] [54,55,53,56,57] [(13,pI x14.1),(14,.v .nilIface)] (aU 1 (strconv_Atoi_ok hx14) aY) (by kernel_rfl) (br (ak (bU 6 [58,62] [(59,pP b0 0),(60,pI x13.1),(61,pI x14.1),(63,pP b0 1)] (by kernel_rfl) (aM rfl rfl (al (vs:=[pI x13.1]) rfl rfl rfl rfl rfl bT (bV ii) (bU 2 [64] [(65,pP b0 2)] (by kernel_rfl) (aM rfl rfl (al (vs:=[pI x14.1]) rfl rfl rfl rfl rfl bT (bV (bV ii)) (au (br (bE (ρd:=[]) [(0,0),(1,0),(2,0),(3,0),(4,0),(5,0),(6,0),(7,0),(8,0),(9,0)] _ Vh (by kernel_rfl) rfl (ae h fun l15 hl15 h=>ca 6 [] [66,68,69] [(67,pL eS l15),(70,pB (x13.2 == 0)),(71,pgv (x13.2 == 0) (.v .nilIface))] (Bz 1 eS 1 (fun _=>rfl) hl15 aY) (by kernel_rfl) (nT (gP rfl rfl rfl) rfl rfl (oN rfl rfl rfl (.g rfl) (.p rfl) rfl) (lW rfl rfl rfl (xg rfl (.p rfl) (.p rfl) (.g rfl)) (fB 2 [(4,pL eS l15),(5,pB ((x13.2 == 0)&&true))] (by kernel_rfl) (bZ (cK ?_))))))))))))))))))))
 obtain rfl:=osi h
 exact aH (bK (az rfl) (az rfl)) bN ⟨rfl,rfl⟩
def cW (p0:Zs) (p1:Xh) (p2:Xh):Option (Bool×Zs):=(dz p2).bind fun x1=>Option.bind (α:=(Bool×Int×Bool×Int)⊕_) (cond (decide (p1=(⟨#[109,97,120]⟩:Xh))) (some (.inl (true,x1.1,p0.HasLeast,p0.Least))) (cond (decide (p1=(⟨#[109,105,110]⟩:Xh))) (some (.inl (p0.HasMost,p0.Most,true,x1.1))) (some (.inr (false,p0))))) (fun q=>match q with | .inl (v2,v3,v4,v5)=>some (x1.2,(⟨p0.Rate,p0.Amount,p0.Per,v2,v3,v4,v5⟩:Zs)) | .inr e=>some e)
theorem lP {p0:Zs} {p1:Xh} {p2:Xh} {b0:Nat} {r:(Bool×Zs)}  (h:cW p0 p1 p2=some r):La 186 [pP b0 0,pS p1,pS p2] [Qa.b b0 78 [pI p0.Rate,pI p0.Amount,pI p0.Per,pB p0.HasMost,pI p0.Most,pB p0.HasLeast,pI p0.Least]] (fun pv ρ'=>pv=pB r.1/\ρ'=[Qa.b b0 78 [pI r.2.Rate,pI r.2.Amount,pI r.2.Per,pB r.2.HasMost,pI r.2.Most,pB r.2.HasLeast,pI r.2.Least]]):=by
 unfold cW at h
 refine dk Tryz.func186 rfl Tryz.ntmps186 Tryz.results186 rfl (aQ [6] (by kernel_rfl) (cP h fun x1 hx1 h=>ai [] [10,11,9,12,13] [(7,pI x1.1),(8,pB x1.2)] (aU 1 (mg hx1) aY) (by kernel_rfl) (bM (aA [(14,pS p1)] (by kernel_rfl) (ey h fun q6 hq6 h=>?_)))))
 refine ap (Y:=Unit×(Bool×Int×Bool×Int)) (fun (_,(v2,v3,v4,v5))=>[(8,pB x1.2)]) (fun (_,(v2,v3,v4,v5))=>[Qa.b b0 78 [pI p0.Rate,pI p0.Amount,pI p0.Per,pB v2,pI v3,pB v4,pI v5]]) (fun (_,(v2,v3,v4,v5))=>q6=Sum.inl (v2,v3,v4,v5)) ?_ ?_
 ·skip
  refine rx (bF [16] [(15,pB (decide (p1=(⟨#[109,97,120]⟩:Xh))))] (by kernel_rfl) rfl hq6 (fun hc7 hq6=>?_) fun hc7 hq6=>?_)
  ·refine ak ?_
   refine bU 5 [17,20] [(18,pP b0 0),(19,pI x1.1),(21,pP b0 3)] (by kernel_rfl) (aM rfl rfl (al (vs:=[pB true]) rfl rfl rfl rfl rfl bT (bV (bV (bV ii))) (bU 2 [22] [(23,pP b0 4)] (by kernel_rfl) (aM rfl rfl (al (vs:=[pI x1.1]) rfl rfl rfl rfl rfl bT (bV (bV (bV (bV ii)))) (au (aF ?_)))))))
   obtain rfl:=osi hq6
   exact am ((),(true,x1.1,p0.HasLeast,p0.Least)) (oC rfl) bN rfl
  refine ag ?_
  refine bF [25] [(24,pB (decide (p1=(⟨#[109,105,110]⟩:Xh))))] (by kernel_rfl) rfl hq6 (fun hc8 hq6=>?_) fun hc8 hq6=>?_
  ·refine ak ?_
   refine bU 5 [26,29] [(27,pP b0 0),(28,pI x1.1),(30,pP b0 5)] (by kernel_rfl) (aM rfl rfl (al (vs:=[pB true]) rfl rfl rfl rfl rfl bT (bV (bV (bV (bV (bV ii))))) (bU 2 [31] [(32,pP b0 6)] (by kernel_rfl) (aM rfl rfl (al (vs:=[pI x1.1]) rfl rfl rfl rfl rfl bT (bV (bV (bV (bV (bV (bV ii)))))) (au (aF ?_)))))))
   obtain rfl:=osi hq6
   exact am ((),(p0.HasMost,p0.Most,true,x1.1)) (oC rfl) bN rfl
  refine ag ?_
  refine aA [(6,pB false)] (by kernel_rfl) (cK (aO (aS ?_)))
  obtain rfl:=osi hq6
  obtain rfl:=osi h
  exact aH (dZ (az rfl)) bN ⟨rfl,rfl⟩
 rintro ⟨_,⟨v2,v3,v4,v5⟩⟩ τ hz;(try dsimp only at hz);subst q6;(try dsimp only at h);dsimp only [aw]
 refine ag (ah [33] [(6,pB x1.2)] (by kernel_rfl) (cK ?_))
 obtain rfl:=osi h
 exact aH (dZ (az rfl)) bN ⟨rfl,rfl⟩
def jZ (p0:(List Xh)):Option (Zs×Bool):=(jY (⟨0,0,0,false,0,false,0⟩:Zs) p0).bind fun x3=>Option.bind (cond ((x3.1.length:Int) == 4) ((bx x3.1 0).bind fun m14=>(bx x3.1 1).bind fun m15=>(cW x3.2.2 m14 m15).bind fun x16=>(sub x3.1 2 (x3.1.length:Int)).bind fun l17=>(bx l17 0).bind fun m18=>(bx l17 1).bind fun m19=>(cW x16.2 m18 m19).bind fun x20=>some ((x20.1&&(x16.1&&x3.2.1)),x20.2.Rate,x20.2.Amount,x20.2.Per,x20.2.HasMost,x20.2.Most,x20.2.HasLeast,x20.2.Least)) (cond ((x3.1.length:Int) == 2) ((bx x3.1 0).bind fun m22=>(bx x3.1 1).bind fun m23=>(cW x3.2.2 m22 m23).bind fun x24=>some ((x24.1&&x3.2.1),x24.2.Rate,x24.2.Amount,x24.2.Per,x24.2.HasMost,x24.2.Most,x24.2.HasLeast,x24.2.Least)) (cond ((x3.1.length:Int) == 0) (some (x3.2.1,x3.2.2.Rate,x3.2.2.Amount,x3.2.2.Per,x3.2.2.HasMost,x3.2.2.Most,x3.2.2.HasLeast,x3.2.2.Least)) (some (false,x3.2.2.Rate,x3.2.2.Amount,x3.2.2.Per,x3.2.2.HasMost,x3.2.2.Most,x3.2.2.HasLeast,x3.2.2.Least))))) (fun (v4,v5,v6,v7,v8,v9,v10,v11)=>some ((⟨v5,v6,v7,v8,v9,v10,v11⟩:Zs),v4))
theorem tP {p0:(List Xh)} {r:(Zs×Bool)}  (h:jZ p0=some r):PF 126 [pL eS p0] (.tup [.agg [pI r.1.Rate,pI r.1.Amount,pI r.1.Per,pB r.1.HasMost,pI r.1.Most,pB r.1.HasLeast,pI r.1.Least],pB r.2]):=by
 unfold jZ at h
 refine aV ?_
 refine dk Tryz.func126 rfl Tryz.ntmps126 Tryz.results126 rfl (cL rfl (aP (cs:=[pI 0,pI 0,pI 0,pB false,pI 0,pB false,pI 0]) rfl rfl rfl rfl (fun b1=>aZ [3] (by kernel_rfl) (br (cL rfl (aP (cs:=[pI 0,pI 0,pI 0,pB false,pI 0,pB false,pI 0]) rfl rfl rfl rfl (fun b2=>au (cP h fun x3 hx3 h=>fC 1 [(7,pL eS p0)] (by kernel_rfl) ?_))))))))
 refine aj rfl (aI rfl rfl (ρ1:=[_]) (aq (by exact aN) Vh) (tO hx3) ?_);rintro _ _ ⟨rfl,rfl⟩
 refine fV [6,9,10] [(0,pL eS x3.1),(5,pB x3.2.1)] (by kernel_rfl) (bM (ah [11] [(12,pI (x3.1.length:Int))] (by kernel_rfl) (ey h fun q12 hq12 h=>?_)))
 refine ap (Y:=Unit×(Bool×Int×Int×Int×Bool×Int×Bool×Int)) (fun (_,(v4,v5,v6,v7,v8,v9,v10,v11))=>[(2,pP b1 0),(4,pP b2 0),(5,pB v4)]) (fun (_,(v4,v5,v6,v7,v8,v9,v10,v11))=>[Qa.b b1 78 [pI 0,pI 0,pI 0,pB false,pI 0,pB false,pI 0],Qa.b b2 78 [pI v5,pI v6,pI v7,pB v8,pI v9,pB v10,pI v11]]) (fun (_,(v4,v5,v6,v7,v8,v9,v10,v11))=>q12=(v4,v5,v6,v7,v8,v9,v10,v11)) ?_ ?_
 ·skip
  refine rx (rx (rx (rx (rx (dV (bF [14] [(13,pB ((x3.1.length:Int) == 4))] (by kernel_rfl) rfl hq12 (fun hc13 hq12=>?_) fun hc13 hq12=>?_))))))
  ·refine aL ?_
   refine cj (cj (an rfl (br (bE (ρd:=[Qa.b b2 _ _]) [(0,0),(1,0),(2,0),(3,0),(4,0),(5,0),(6,1),(7,0),(8,0),(9,0),(10,0)] _ Vh (by kernel_rfl) rfl (ae hq12 fun m14 hm14 hq12=>ae hq12 fun m15 hm15 hq12=>ae hq12 fun x16 hx16 hq12=>ca 6 [] [19,20,22,23] [(21,pS m14),(24,pS m15)] (bX 1 eS hm14 (bX 4 eS hm15 aY)) (by kernel_rfl) ?_)))))
   refine jm rfl rfl rfl (aI rfl rfl (ρ1:=[_]) (aq (by exact aN) Vh) (lP hx16) ?_);rintro _ _ ⟨rfl,rfl⟩
   refine mB 4 [26,27,28] [(5,pB (x16.1&&x3.2.1))] (by kernel_rfl) (bZ (ey hq12 fun l17 hl17 hq12=>ai [] [29,30] [(0,pL eS l17)] (Bz 1 eS 1 (fun _=>rfl) hl17 aY) (by kernel_rfl) (aF (br (bE (ρd:=[Qa.b b2 _ _]) [(0,0),(1,0),(2,0),(3,0),(4,0),(5,0),(6,1),(7,0),(8,0),(9,0),(10,0)] _ Vh (by kernel_rfl) rfl (ae hq12 fun m18 hm18 hq12=>ae hq12 fun m19 hm19 hq12=>ae hq12 fun x20 hx20 hq12=>ca 6 [] [31,32,34,35] [(33,pS m18),(36,pS m19)] (bX 1 eS hm18 (bX 4 eS hm19 aY)) (by kernel_rfl) ?_))))))
   refine jm rfl rfl rfl (aI rfl rfl (ρ1:=[_]) (aq (by exact aN) Vh) (lP hx20) ?_);rintro _ _ ⟨rfl,rfl⟩
   refine mB 4 [38,39,40] [(5,pB (x20.1&&(x16.1&&x3.2.1)))] (by kernel_rfl) (bZ (aD (aL (du rfl (cj (du rfl (cj (an rfl ?_))))))))
   obtain rfl:=osi hq12
   exact am ((),((x20.1&&(x16.1&&x3.2.1)),x20.2.Rate,x20.2.Amount,x20.2.Per,x20.2.HasMost,x20.2.Most,x20.2.HasLeast,x20.2.Least)) (nt rfl) (bg (aC aN) bN) rfl
  refine af ?_
  refine bM (bF [16] [(15,pB ((x3.1.length:Int) == 2))] (by kernel_rfl) rfl hq12 (fun hc21 hq12=>?_) fun hc21 hq12=>?_)
  ·refine aL ?_
   refine cj (cj (du rfl (cj (an rfl (br (bE (ρd:=[Qa.b b2 _ _]) [(0,0),(1,0),(2,0),(3,0),(4,0),(5,0),(6,1),(7,0),(8,0),(9,0),(10,0)] _ Vh (by kernel_rfl) rfl (ae hq12 fun m22 hm22 hq12=>ae hq12 fun m23 hm23 hq12=>ae hq12 fun x24 hx24 hq12=>ca 6 [] [31,32,34,35] [(33,pS m22),(36,pS m23)] (bX 1 eS hm22 (bX 4 eS hm23 aY)) (by kernel_rfl) ?_)))))))
   refine jm rfl rfl rfl (aI rfl rfl (ρ1:=[_]) (aq (by exact aN) Vh) (lP hx24) ?_);rintro _ _ ⟨rfl,rfl⟩
   refine mB 4 [38,39,40] [(5,pB (x24.1&&x3.2.1))] (by kernel_rfl) (bZ (aD (aL (du rfl (cj (du rfl (cj (an rfl ?_))))))))
   obtain rfl:=osi hq12
   exact am ((),((x24.1&&x3.2.1),x24.2.Rate,x24.2.Amount,x24.2.Per,x24.2.HasMost,x24.2.Most,x24.2.HasLeast,x24.2.Least)) (nt rfl) (bg (aC aN) bN) rfl
  refine af ?_
  refine br (bF [18] [(17,pB ((x3.1.length:Int) == 0))] (by kernel_rfl) rfl hq12 (fun hc25 hq12=>?_) fun hc25 hq12=>?_)
  ·refine aL ?_
   refine cj (du rfl (cj (du rfl (cj (an rfl (aD (aL (du rfl (cj (an rfl ?_))))))))))
   obtain rfl:=osi hq12
   exact am ((),(x3.2.1,x3.2.2.Rate,x3.2.2.Amount,x3.2.2.Per,x3.2.2.HasMost,x3.2.2.Most,x3.2.2.HasLeast,x3.2.2.Least)) (nt rfl) (bg (aC aN) bN) rfl
  refine af ?_
  refine aD (aL (du rfl (cj (du rfl (cj (du rfl (cj (an rfl (br (aA [(5,pB false)] (by kernel_rfl) (aD (aL (an rfl ?_)))))))))))))
  obtain rfl:=osi hq12
  exact am ((),(false,x3.2.2.Rate,x3.2.2.Amount,x3.2.2.Per,x3.2.2.HasMost,x3.2.2.Most,x3.2.2.HasLeast,x3.2.2.Least)) (nt rfl) (bg (aC aN) bN) rfl
 rintro ⟨_,⟨v4,v5,v6,v7,v8,v9,v10,v11⟩⟩ τ hz;(try dsimp only at hz);subst q12;(try dsimp only at h);dsimp only [aw]
 refine ag (ak (dE 2 [1] [(41,.agg [pI v5,pI v6,pI v7,pB v8,pI v9,pB v10,pI v11]),(42,pB v4)] (by kernel_rfl) (aM rfl rfl (al (vs:=[pI v5,pI v6,pI v7,pB v8,pI v9,pB v10,pI v11]) rfl rfl rfl rfl rfl bT zl7 (aE [(3,pB v4)] (by kernel_rfl) (cK ?_))))))
 obtain rfl:=osi h
 exact aH (bK (di rfl eG rfl) (az rfl)) bq ⟨rfl,rfl⟩
def oW (p0:Xh):Option (Zs×Int):=(bo p0 (⟨#[32]⟩:Xh)).bind fun x2=>(jZ x2).bind fun x3=>(gd (!(!x3.2)) (db x3.1)).bind fun x5=>(gd (!((!x3.2)||(x5 != 0))) (ma x3.1)).bind fun x6=>cond (((!x3.2)||(x5 != 0))||(!decide (x6=p0))) (some ((⟨0,0,0,false,0,false,0⟩:Zs),(4:Int))) (some (x3.1,(0:Int)))
theorem yF {p0:Xh} {r:(Zs×Int)}  (h:oW p0=some r):PF 80 [pS p0] (.tup [.agg [pI r.1.Rate,pI r.1.Amount,pI r.1.Per,pB r.1.HasMost,pI r.1.Most,pB r.1.HasLeast,pI r.1.Least],pI r.2]):=by
 unfold oW at h
 refine aV ?_
 refine dk Tryz.func80 rfl Tryz.ntmps80 Tryz.results80 rfl (cL rfl (aP (cs:=[pI 0,pI 0,pI 0,pB false,pI 0,pB false,pI 0]) rfl rfl rfl rfl (fun b1=>aZ [3] (by kernel_rfl) (cP h fun x2 hx2 h=>ae h fun x3 hx3 h=>cS 6 [] [7,8,9,6] [(10,.agg [pI x3.1.Rate,pI x3.1.Amount,pI x3.1.Per,pB x3.1.HasMost,pI x3.1.Most,pB x3.1.HasLeast,pI x3.1.Least]),(11,pB x3.2)] (aU 1 (cU hx2) (aU 2 (tP hx3) aY)) (by kernel_rfl) (aj rfl (aP (cs:=[pI 0,pI 0,pI 0,pB false,pI 0,pB false,pI 0]) rfl rfl rfl rfl (fun b4=>aM rfl rfl (al (vs:=[pI x3.1.Rate,pI x3.1.Amount,pI x3.1.Per,pB x3.1.HasMost,pI x3.1.Most,pB x3.1.HasLeast,pI x3.1.Least]) rfl rfl rfl rfl rfl bT zl7 (aE [(5,pB x3.2)] (by kernel_rfl) (bM (ae h fun x5 hx5 h=>ae h fun x6 hx6 h=>ai [0,0] (rg 12 12) [(24,pB (((!x3.2)||(x5 != 0))||(!decide (x6=p0))))] (iJ 4 (fun hc=>kJ (fU hx5 hc)) (iJ 9 (fun hc=>r8 (fU hx6 hc)) aY)) (by kernel_rfl) (fi rfl h (fun hc7 h=>?_) fun hc7 h=>?_))))))))))))
 ·refine ag ?_
  refine fC 1 [(25,.agg [pI 0,pI 0,pI 0,pB false,pI 0,pB false,pI 0])] (by kernel_rfl) (aM rfl rfl (al (vs:=[pI 0,pI 0,pI 0,pB false,pI 0,pB false,pI 0]) rfl rfl rfl rfl rfl (cE bT) zl7 (aE [(3,pI 4)] (by kernel_rfl) (sO ?_))))
  obtain rfl:=osi h
  exact aH (bK (di rfl tz rfl) (az rfl)) bq ⟨rfl,rfl⟩
 refine af ?_
 refine br (ak (dE 1 [0] [(26,.agg [pI x3.1.Rate,pI x3.1.Amount,pI x3.1.Per,pB x3.1.HasMost,pI x3.1.Most,pB x3.1.HasLeast,pI x3.1.Least])] (by kernel_rfl) (aM rfl rfl (al (vs:=[pI x3.1.Rate,pI x3.1.Amount,pI x3.1.Per,pB x3.1.HasMost,pI x3.1.Most,pB x3.1.HasLeast,pI x3.1.Least]) rfl rfl rfl rfl rfl (cE bT) zl7 (aE [(3,pI 0)] (by kernel_rfl) (cK ?_))))))
 obtain rfl:=osi h
 exact aH (bK (di rfl tz rfl) (az rfl)) bq ⟨rfl,rfl⟩
def fc (p0:Zw):Option Int:=(bS p0.Code).bind fun x2=>(gd (!(x2 != 8)) (dl p0.Origin)).bind fun x3=>cond ((x2 != 8)||(!x3)) (some (1:Int)) (cond ((((((((((decide (p0.Company<0))||(decide (999<p0.Company)))||(decide (p0.Day<0)))||(decide (36524<p0.Day)))||(decide (p0.Quantity<0)))||(decide (1000000000<p0.Quantity)))||(decide (p0.Value<0)))||(decide (1000000000000<p0.Value)))||(decide (p0.Granted<0)))||(decide (p0.Quantity<p0.Granted))) (some (2:Int)) (some (0:Int)))
theorem tQ {p0:Zw} {r:Int}  (h:fc p0=some r):PF 49 [.agg [pS p0.Code,pS p0.Origin,pB p0.Proof,pI p0.Company,pI p0.Day,pI p0.Quantity,pI p0.Value,pI p0.Granted]] (pI r):=by
 unfold fc at h
 refine aV ?_
 refine dk Tryz.func49 rfl Tryz.ntmps49 Tryz.results49 rfl (cL rfl (be (cs:=[pS p0.Code,pS p0.Origin,pB p0.Proof,pI p0.Company,pI p0.Day,pI p0.Quantity,pI p0.Value,pI p0.Granted]) rfl rfl (fun b1=>aZ [2] (by kernel_rfl) (bM (ae h fun x2 hx2 h=>ae h fun x3 hx3 h=>ai [0,0] (rg 3 9) [(12,pB ((x2 != 8)||(!x3)))] (aU 2 (f9 hx2) (iJ 7 (fun hc=>kv (fU hx3 hc)) aY)) (by kernel_rfl) (fi rfl h (fun hc4 h=>?_) fun hc4 h=>?_))))))
 ·refine ag ?_
  refine de [(2,pI 1)] (by kernel_rfl) ?_
  exact zz r h rfl
 refine af ?_
 refine bM (aK [0,0,0,0,0,0,0,0,0,0,0] (rg 13 49) [(62,pB ((((((((((decide (p0.Company<0))||(decide (999<p0.Company)))||(decide (p0.Day<0)))||(decide (36524<p0.Day)))||(decide (p0.Quantity<0)))||(decide (1000000000<p0.Quantity)))||(decide (p0.Value<0)))||(decide (1000000000000<p0.Value)))||(decide (p0.Granted<0)))||(decide (p0.Quantity<p0.Granted))))] (by kernel_rfl) (fi rfl h (fun hc5 h=>?_) fun hc5 h=>?_))
 ·refine ag ?_
  refine de [(2,pI 2)] (by kernel_rfl) ?_
  exact zz r h rfl
 refine af ?_
 refine br (aA [(2,pI 0)] (by kernel_rfl) (cK ?_))
 exact zz r h rfl
def ib (p0:(List Zc)) (p1:Zw):Option (Zx×Int):=(cV p0).bind fun x3=>cond (x3 != 0) (some ((⟨[],0⟩:Zx),x3)) ((fc p1).bind fun x5=>cond (x5 != 0) (some ((⟨[],0⟩:Zx),x5)) ((iw p0 p1.Code p1.Origin p1.Company p1.Day).bind fun x7=>(bO x7 (fun y8=>jR y8)).bind fun x9=>cond (!x9) (some ((⟨[],0⟩:Zx),(7:Int))) ((ky p1).bind fun x11=>cond (x11.2 != 0) (some ((⟨[],0⟩:Zx),x11.2)) ((aW (S:=Int×(List Zi)×Int) (T:=((List Zi)×Int)⊕(_)) (fun (v14,l16,v19)=>cond (decide (v14<(x11.1.length:Int))) (Option.bind (α:=((List Zi)×Int)⊕_) ((bx x11.1 v14).bind fun m35=>(il x7 m35).bind fun x37=>cond (x37.2.2 != 0) (some (.inr (.inr (.inr ((⟨[],0⟩:Zx),x37.2.2))))) (cond x37.2.1 ((app 40 l16 [x37.1]).bind fun l43=>some (.inl (l43,(i64.wrap (v19+x37.1.Amount))))) (some (.inl (l16,v19))))) (fun q=>match q with | .inl (l32,v33)=>some (.inl ((i64.wrap (v14+1)),l32,v33)) | .inr e=>some e)) (some (.inr (.inl (l16,v19))))) Va (0,([]:List Zi),0)).bind fun q=>match q with | .inl (l23,v24)=>cond (decide (1000000000000<v24)) (some ((⟨[],0⟩:Zx),(3:Int))) (some ((⟨l23,v24⟩:Zx),(0:Int))) | .inr e=>some e))))
theorem nj {p0:(List Zc)} {p1:Zw} {r:(Zx×Int)}  (h:ib p0 p1=some r):PF 18 [pL Zc.enc p0,.agg [pS p1.Code,pS p1.Origin,pB p1.Proof,pI p1.Company,pI p1.Day,pI p1.Quantity,pI p1.Value,pI p1.Granted]] (.tup [.agg [pL Zi.enc r.1.Lines,pI r.1.Total],pI r.2]):=by
 unfold ib at h
 refine aV ?_
 refine dk Tryz.func18 rfl Tryz.ntmps18 Tryz.results18 rfl (cL rfl (be (cs:=[pS p1.Code,pS p1.Origin,pB p1.Proof,pI p1.Company,pI p1.Day,pI p1.Quantity,pI p1.Value,pI p1.Granted]) rfl rfl (fun b1=>aj rfl (aP (cs:=[pN,pI 0]) rfl rfl rfl rfl (fun b2=>aZ [5] (by kernel_rfl) (bM (ae h fun x3 hx3 h=>ai [] [17,18] [(6,pI x3)] (aU 1 (jk hx3) aY) (by kernel_rfl) (br (bF [19] [(20,pB (x3 != 0))] (by kernel_rfl) rfl h (fun hc4 h=>?_) fun hc4 h=>?_)))))))))
 ·refine ag ?_
  refine fC 2 [(21,.agg [pN,pI 0]),(22,pI x3)] (by kernel_rfl) (aM rfl rfl (al (vs:=[pN,pI 0]) rfl rfl rfl rfl rfl bT pV (aE [(5,pI x3)] (by kernel_rfl) (aD (eW (k:=0) (b:=b2) rfl bT (bi (bc ?_)))))))
  obtain rfl:=osi h
  exact aH (bK (di rfl eG rfl) (az rfl)) bq ⟨rfl,rfl⟩
 refine af ?_
 refine bM (ae h fun x5 hx5 h=>ai [1] [23,24] [(7,pI x5)] (aU 1 (tQ hx5) aY) (by kernel_rfl) (br (bF [25] [(26,pB (x5 != 0))] (by kernel_rfl) rfl h (fun hc6 h=>?_) fun hc6 h=>?_)))
 ·refine ag ?_
  refine fC 2 [(27,.agg [pN,pI 0]),(28,pI x5)] (by kernel_rfl) (aM rfl rfl (al (vs:=[pN,pI 0]) rfl rfl rfl rfl rfl bT pV (aE [(5,pI x5)] (by kernel_rfl) (aD (eW (k:=0) (b:=b2) rfl bT (bi (bc ?_)))))))
  obtain rfl:=osi h
  exact aH (bK (di rfl eG rfl) (az rfl)) bq ⟨rfl,rfl⟩
 refine af ?_
 refine cP h fun x7 hx7 h=>ai [1,1,1,1] (rg 29 10) [(8,pL Zc.enc x7)] (aU 9 (rl hx7) aY) (by kernel_rfl) (bM (ae h fun x9 hx9 h=>ai [] [39,40] [(41,pB (!x9))] (aU 1 (je (fun hr=>gY (tF hr)) hx9) aY) (by kernel_rfl) (fi rfl h (fun hc10 h=>?_) fun hc10 h=>?_)))
 ·refine ag ?_
  refine fC 1 [(42,.agg [pN,pI 0])] (by kernel_rfl) (aM rfl rfl (al (vs:=[pN,pI 0]) rfl rfl rfl rfl rfl bT pV (aE [(5,pI 7)] (by kernel_rfl) (aD (eW (k:=0) (b:=b2) rfl bT (bi (bc ?_)))))))
  obtain rfl:=osi h
  exact aH (bK (di rfl eG rfl) (az rfl)) bq ⟨rfl,rfl⟩
 refine af ?_
 refine cP h fun x11 hx11 h=>ai [1] [44,45,43,46,47] [(9,pL Zk.enc x11.1),(10,pI x11.2)] (aU 1 (uo hx11) aY) (by kernel_rfl) (bM (bF [48] [(49,pB (x11.2 != 0))] (by kernel_rfl) rfl h (fun hc12 h=>?_) fun hc12 h=>?_))
 ·refine ag ?_
  refine fC 2 [(50,.agg [pN,pI 0]),(51,pI x11.2)] (by kernel_rfl) (aM rfl rfl (al (vs:=[pN,pI 0]) rfl rfl rfl rfl rfl bT pV (aE [(5,pI x11.2)] (by kernel_rfl) (aD (eW (k:=0) (b:=b2) rfl bT (bi (bc ?_)))))))
  obtain rfl:=osi h
  exact aH (bK (di rfl eG rfl) (az rfl)) bq ⟨rfl,rfl⟩
 refine af ?_
 refine br (cL rfl (aP (cs:=[pN,pI 0]) rfl rfl rfl rfl (fun b13=>au (bM (aA [(52,pL Zk.enc x11.1),(53,pI (x11.1.length:Int)),(54,pI 0)] (by kernel_rfl) (aD (bC 132 5 (ae h fun q26 hq26 h=>?_))))))))
 refine ap (Y:=(Option Addr×Nat)×((List Zi)×Int)) (fun ((a21,c22),(l23,v24))=>[(4,pP b2 0),(11,pP b13 0)]) (fun ((a21,c22),(l23,v24))=>[Qa.b b13 57 [pO a21 l23.length c22,pI v24],Qa.b b2 57 [pN,pI 0],Qa.row a21 l23.length c22 132 5 (List.map Zi.enc l23)]) (fun ((a21,c22),(l23,v24))=>q26=Sum.inl (l23,v24)) ?_ ?_
 ·refine aG ?_
  refine aJ (Y:=Option Addr×Nat) (S:=Int×(List Zi)×Int) _ hq26 (fun (a17,c18) (v14,l16,v19)=>[(4,pP b2 0),(8,pL Zc.enc x7),(11,pP b13 0),(52,pL Zk.enc x11.1),(53,pI (x11.1.length:Int)),(54,pI v14)]) (fun (a17,c18) (v14,l16,v19)=>[Qa.b b13 57 [pO a17 l16.length c18,pI v19],Qa.b b2 57 [pN,pI 0],Qa.row a17 l16.length c18 132 5 (List.map Zi.enc l16)]) (none,0) (o3 rfl) (bg (aC aN) (bg (aC aN) bN)) ?_
  rintro ⟨a17,c18⟩ ⟨v14,l16,v19⟩ o τ hb25;(try dsimp only at hb25);dsimp only [aw]
  refine cH [(55,pB (decide (v14<(x11.1.length:Int))))] (by kernel_rfl) (br (fh rfl hb25 (fun hc28 hb25=>?_) fun hc28 hb25=>?_))
  ·refine af ?_
   refine cP hb25 fun q34 hq34 hb25=>?_
   refine ap (Y:=(Option Addr×Nat)×((List Zi)×Int)) (fun ((a30,c31),(l32,v33))=>[(4,pP b2 0),(8,pL Zc.enc x7),(11,pP b13 0),(52,pL Zk.enc x11.1),(53,pI (x11.1.length:Int)),(54,pI v14)]) (fun ((a30,c31),(l32,v33))=>[Qa.b b13 57 [pO a30 l32.length c31,pI v33],Qa.b b2 57 [pN,pI 0],Qa.row a30 l32.length c31 132 5 (List.map Zi.enc l32)]) (fun ((a30,c31),(l32,v33))=>q34=Sum.inl (l32,v33)) ?_ ?_
   ·skip
    refine rx (ae hq34 fun m35 hm35 hq34=>cS 2 [] [56] [(57,.agg [pI m35.quantity,pI m35.value,pL eI m35.kinds])] (bX 0 Zk.enc hm35 aY) (by kernel_rfl) (aj rfl (aP (cs:=[pI 0,pI 0,pN]) rfl rfl rfl rfl (fun b36=>aM rfl rfl (al (vs:=[pI m35.quantity,pI m35.value,pL eI m35.kinds]) rfl rfl rfl rfl rfl bT AW (au (cP hq34 fun x37 hx37 hq34=>cS 7 [0] [59,60,61,58] [(62,.agg [pI x37.1.Kind,pI x37.1.Measure,pI x37.1.Quantity,pI x37.1.Value,pI x37.1.Amount]),(63,pB x37.2.1),(64,pI x37.2.2)] (aU 2 (sR hx37) aY) (by kernel_rfl) (aj rfl (aP (cs:=[pI 0,pI 0,pI 0,pI 0,pI 0]) rfl rfl rfl rfl (fun b38=>aM rfl rfl (al (vs:=[pI x37.1.Kind,pI x37.1.Measure,pI x37.1.Quantity,pI x37.1.Value,pI x37.1.Amount]) rfl rfl rfl rfl rfl bT td (aE [(15,pB x37.2.1),(16,pI x37.2.2)] (by kernel_rfl) (bM (bF [65] [(66,pB (x37.2.2 != 0))] (by kernel_rfl) rfl hq34 (fun hc39 hq34=>?_) fun hc39 hq34=>?_))))))))))))))
    ·refine ag ?_
     refine fC 2 [(67,.agg [pN,pI 0]),(68,pI x37.2.2)] (by kernel_rfl) (aM rfl rfl (al (vs:=[pN,pI 0]) rfl rfl rfl rfl rfl (cE (cE (cE bT))) pV (aE [(5,pI x37.2.2)] (by kernel_rfl) (aD (eW (k:=0) (b:=b2) rfl (cE (cE (cE bT))) (bi (bc (aO (aS ?_)))))))))
     obtain rfl:=osi hq34
     refine aX hb25 (fun ht=>?_);subst ht
     refine aO (aS ?_)
     obtain rfl:=osi h
     exact aH (bK (di rfl zm3 rfl) (az rfl)) bq ⟨rfl,rfl⟩
    refine af ?_
    refine br (aA [(69,pB x37.2.1)] (by kernel_rfl) (fi rfl hq34 (fun hc40 hq34=>?_) fun hc40 hq34=>?_))
    ·refine ag ?_
     refine ak (bH 3 [2,0] [70] [(71,pO a17 l16.length c18),(72,.agg [pI x37.1.Kind,pI x37.1.Measure,pI x37.1.Quantity,pI x37.1.Value,pI x37.1.Amount])] (by kernel_rfl) (aj rfl (bp rfl rfl rfl rfl rfl (eE rfl jy) rfl rfl rfl rfl (fun b41=>ae hq34 fun l43 hl43 hq34=>?_))))
     refine aj rfl (bw (enc:=Zi.enc) rfl rfl rfl rfl rfl rfl rfl rfl rfl eG (by exact aC (aC (aC (aC (aC aN))))) hl43 (fun a44 c45=>?_))
     refine ba 1 [(75,pP b13 0)] (by kernel_rfl) (aM rfl rfl (al (vs:=[pO a44 l43.length c45]) rfl rfl rfl rfl rfl (cE (cE (cE (cE bT)))) ii (au (aD (ak (bH 6 [4,2] [76,77,78,79] [(80,pI (i64.wrap (v19+x37.1.Amount))),(81,pP b13 1)] (by kernel_rfl) (aM rfl rfl (al (vs:=[pI (i64.wrap (v19+x37.1.Amount))]) rfl rfl rfl rfl rfl (cE (cE (cE (cE bT)))) (bV ii) (au (aF ?_))))))))))
     obtain rfl:=osi hq34
     exact am ((a44,c45),(l43,(i64.wrap (v19+x37.1.Amount)))) (o3 rfl) (bg (aC (aC (aC (aC aN)))) (bg (aC (aC (aC (aC aN)))) bN)) rfl
    refine af ?_
    refine aF ?_
    obtain rfl:=osi hq34
    exact am ((a17,c18),(l16,v19)) (o3 rfl) (bg (aC (aC aN)) (bg (aC (aC aN)) (bg (aC (aC aN)) bq))) rfl
   rintro ⟨⟨a30,c31⟩,⟨l32,v33⟩⟩ τ hz;(try dsimp only at hz);subst q34;(try dsimp only at hb25);dsimp only [aw]
   refine ah [82] [(54,pI (i64.wrap (v14+1)))] (by kernel_rfl) ?_
   exact aT hb25 (a30,c31) (o3 rfl) rI
  refine aL ?_
  refine cJ hb25 (fun ht=>an rfl ?_)
  exact am ((a17,c18),(l16,v19)) (lK rfl) rI ht.symm
 rintro ⟨⟨a21,c22⟩,⟨l23,v24⟩⟩ τ hz;(try dsimp only at hz);subst q26;(try dsimp only at h);dsimp only [aw]
 refine dV (aK [0] [83,84] [(85,pB (decide (1000000000000<v24)))] (by kernel_rfl) (fi rfl h (fun hc47 h=>?_) fun hc47 h=>?_))
 ·refine ag ?_
  refine fC 1 [(86,.agg [pN,pI 0])] (by kernel_rfl) (aM rfl rfl (al (vs:=[pN,pI 0]) rfl rfl rfl rfl rfl (cE bT) pV (aE [(5,pI 3)] (by kernel_rfl) (aD (eW (k:=0) (b:=b2) rfl (cE bT) (bi (bc ?_)))))))
  obtain rfl:=osi h
  exact aH (bK (di rfl tz rfl) (az rfl)) bq ⟨rfl,rfl⟩
 refine af ?_
 refine br (ak ?_)
 refine kH (css:=List.map Zi.enc l23) (a:=a21) (by exact aC (aC aN)) ?_
 refine iR (k:=0) (enc:=Zi.enc) (xs:=l23) (b:=b13) (a:=a21) rfl eG (cE bT) (dE 1 [1] [(87,.agg [pL Zi.enc l23,pI v24])] (by kernel_rfl) (aM rfl rfl (al (vs:=[pL Zi.enc l23,pI v24]) rfl rfl rfl rfl rfl (cE (cE bT)) pV (aE [(5,pI 0)] (by kernel_rfl) (cK ?_)))))
 obtain rfl:=osi h
 exact aH (bK (di rfl uR rfl) (az rfl)) bq ⟨rfl,rfl⟩
def qK (p0:(List Zc)) (p1:Zw):Option (Int×Int):=(ib p0 p1).bind fun x2=>some (x2.1.Total,x2.2)
theorem wf {p0:(List Zc)} {p1:Zw} {r:(Int×Int)}  (h:qK p0 p1=some r):PF 57 [pL Zc.enc p0,.agg [pS p1.Code,pS p1.Origin,pB p1.Proof,pI p1.Company,pI p1.Day,pI p1.Quantity,pI p1.Value,pI p1.Granted]] (.tup [pI r.1,pI r.2]):=by
 unfold qK at h
 refine aV ?_
 refine dk Tryz.func57 rfl Tryz.ntmps57 Tryz.results57 rfl (cL rfl (be (cs:=[pS p1.Code,pS p1.Origin,pB p1.Proof,pI p1.Company,pI p1.Day,pI p1.Quantity,pI p1.Value,pI p1.Granted]) rfl rfl (fun b1=>aZ [4,5] (by kernel_rfl) (cP h fun x2 hx2 h=>cS 6 [0] [9,10,11,8] [(12,.agg [pL Zi.enc x2.1.Lines,pI x2.1.Total]),(13,pI x2.2)] (aU 2 (nj hx2) aY) (by kernel_rfl) (aj rfl (aP (cs:=[pN,pI 0]) rfl rfl rfl rfl (fun b3=>aM rfl rfl (al (vs:=[pL Zi.enc x2.1.Lines,pI x2.1.Total]) rfl rfl rfl rfl rfl bT pV (aE [(7,pI x2.2)] (by kernel_rfl) (br (aK [0] [14,15,16] [(4,pI x2.1.Total),(5,pI x2.2)] (by kernel_rfl) (cK ?_))))))))))))
 obtain rfl:=osi h
 exact aH (bK (az rfl) (az rfl)) bq ⟨rfl,rfl⟩
end SX
namespace SX
open Go
attribute [local irreducible] Wa Ka Vc Qb Na Ra Pa Vb Ub Nc Jb Uc Qd PF Yc La Lb dU dM ke kV ip jN Yd Ya aW bx app mk gd lb nz sN lC sub ff ji xi rE ja ex lJ eO IntKind.wrap Int.tmod Int.tdiv Op.bytesLess strOfNums
def cC (p1:Xh):Option (Bool×Int):=Option.bind (dB p1) (fun x1=>some (true,x1.1))
theorem dP {p1:Xh} {b0 T:Nat} {cs:List PV} {r:(Bool×Int)} (h:cC p1=some r) (off:Nat) (hlt:Nat.blt off cs.length=true):La 79 [pP b0 off,pS p1] [Qa.b b0 T cs] (fun pv ρ'=>pv=pB r.1/\ρ'=[Qa.b b0 T (cs.set off (pI r.2))]):=by
 unfold cC at h
 have hlt:off<cs.length:=by have:=Nat.le_of_ble_eq_true hlt;omega
 refine gC Tryz.func79 rfl Tryz.ntmps79 Tryz.results79 rfl ?_
 refine ag ?_
 refine ai [] [4] [] aY (by kernel_rfl) ?_
 (repeat (first | apply aF | apply aD))
 refine ag ?_
 refine ae h ?_;clear h;intro x1 hx1 h
 refine ai [] [8,9,7,10,11] [(5,pI x1.1),(6,.v .nilIface)] (aU 1 (strconv_Atoi_ok hx1) aY) (by kernel_rfl) ?_
 (repeat (first | apply aF | apply aD))
 refine ag ?_
 refine ak ?_
 refine iW 3 [] [12] [(13,pI x1.1),(14,pP b0 off)] aY (by kernel_rfl) ?_
 refine aM rfl rfl (al (vs:=[pI x1.1]) rfl rfl rfl rfl rfl (by exact bT) (vM hlt) ?_)
 refine au ?_
 (repeat (first | apply aF | apply aD))
 refine ag ?_
 refine ak ?_
 refine iW 1 [] [] [(15,.v .nilIface)] aY (by kernel_rfl) ?_
 refine cg rfl rfl rfl (oN rfl rfl rfl (.p rfl) (.p rfl) rfl) ?_
 refine dh [] [] [(4,pB true)] aY (by kernel_rfl) ?_
 (repeat (first | apply aF | apply aD))
 refine bi ?_
 (repeat (first | apply bc | apply aO | apply aS | apply i7))
 obtain rfl:=Option.some.inj h
 exact aH (dZ (az rfl)) (by (repeat (first | exact bq | (apply bg;(focus (repeat (first | exact aN | apply aC))))))) ⟨rfl,rfl⟩
def gx (p0:Xh):Option (Zc×Bool):=(ju p0 (⟨#[32]⟩:Xh) 9).bind fun x2=>cond ((x2.length:Int) != 9) (some ((⟨0,0,Uh,[],0,0,0,0,(⟨0,0,0,false,0,false,0⟩:Zs)⟩:Zc),false)) ((bx x2 2).bind fun m4=>(bx x2 3).bind fun m6=>Option.bind (cond (!decide (m6=(⟨#[42]⟩:Xh))) ((bx x2 3).bind fun m10=>(bo m10 (⟨#[44]⟩:Xh)).bind fun x11=>some x11) (some [])) (fun l7=>(bx x2 0).bind fun m12=>(cC m12).bind fun x13=>(bx x2 1).bind fun m14=>(cC m14).bind fun x15=>(bx x2 4).bind fun m16=>(cC m16).bind fun x17=>(bx x2 5).bind fun m18=>(cC m18).bind fun x19=>(bx x2 6).bind fun m20=>(cC m20).bind fun x21=>(bx x2 7).bind fun m22=>Option.bind (cond (!decide (m22=(⟨#[45]⟩:Xh))) ((bx x2 7).bind fun m27=>(cC m27).bind fun x28=>some ((x28.1&&(x21.1&&(x19.1&&(x17.1&&(x15.1&&x13.1))))),x28.2)) (some ((x21.1&&(x19.1&&(x17.1&&(x15.1&&x13.1)))),(-1)))) (fun (v23,v24)=>(bx x2 8).bind fun m29=>(oW m29).bind fun x30=>(gd (!((!v23)||(x30.2 != 0))) (cV [(⟨x13.2,x15.2,m4,l7,x17.2,x19.2,x21.2,v24,x30.1⟩:Zc)])).bind fun x33=>(gd (!(((!v23)||(x30.2 != 0))||(x33 != 0))) (eV (⟨x13.2,x15.2,m4,l7,x17.2,x19.2,x21.2,v24,x30.1⟩:Zc))).bind fun x34=>cond ((((!v23)||(x30.2 != 0))||(x33 != 0))||(!decide (x34=p0))) (some ((⟨0,0,Uh,[],0,0,0,0,(⟨0,0,0,false,0,false,0⟩:Zs)⟩:Zc),false)) (some ((⟨x13.2,x15.2,m4,l7,x17.2,x19.2,x21.2,v24,x30.1⟩:Zc),true)))))
theorem qh {p0:Xh} {r:(Zc×Bool)}  (h:gx p0=some r):PF 42 [pS p0] (.tup [.agg (bL r.1),pB r.2]):=by
 unfold gx at h
 refine aV ?_
 refine dk Tryz.func42 rfl Tryz.ntmps42 Tryz.results42 rfl (cL rfl (aP (cs:=[pI 0,pI 0,pS Uh,pN,pI 0,pI 0,pI 0,pI 0,pI 0,pI 0,pI 0,pB false,pI 0,pB false,pI 0]) rfl rfl rfl rfl (fun b1=>aZ [3] (by kernel_rfl) (cP h fun x2 hx2 h=>ai [] [9,10] [(4,pL eS x2)] (aU 1 (uu hx2) aY) (by kernel_rfl) (bM (bF [11,12] [(13,pB ((x2.length:Int) != 9))] (by kernel_rfl) rfl h (fun hc3 h=>?_) fun hc3 h=>?_))))))
 ·refine ag ?_
  refine fC 1 [(14,.agg [pI 0,pI 0,pS Uh,pN,pI 0,pI 0,pI 0,pI 0,pI 0,pI 0,pI 0,pB false,pI 0,pB false,pI 0])] (by kernel_rfl) (aM rfl rfl (al (vs:=[pI 0,pI 0,pS Uh,pN,pI 0,pI 0,pI 0,pI 0,pI 0,pI 0,pI 0,pB false,pI 0,pB false,pI 0]) rfl rfl rfl rfl rfl bT (gr (gr (gr (gr (gr (gr GT)))))) (aE [(3,pB false)] (by kernel_rfl) (aD (eW (k:=3) (b:=b1) rfl bT (bi (bc ?_)))))))
  obtain rfl:=osi h
  exact aH (bK (di rfl eG rfl) (az rfl)) bq ⟨rfl,rfl⟩
 refine af ?_
 refine cP h fun m4 hm4 h=>cS 4 [] [15,16,17] [(18,.agg [pI 0,pI 0,pS m4,pN,pI 0,pI 0,pI 0,pI (-1),pI 0,pI 0,pI 0,pB false,pI 0,pB false,pI 0])] (bX 1 eS hm4 aY) (by kernel_rfl) (aj rfl (aP (cs:=[pI 0,pI 0,pS Uh,pN,pI 0,pI 0,pI 0,pI 0,pI 0,pI 0,pI 0,pB false,pI 0,pB false,pI 0]) rfl rfl rfl rfl (fun b5=>aM rfl rfl (al (vs:=[pI 0,pI 0,pS m4,pN,pI 0,pI 0,pI 0,pI (-1),pI 0,pI 0,pI 0,pB false,pI 0,pB false,pI 0]) rfl rfl rfl rfl rfl bT (gr (gr (gr (gr (gr (gr GT)))))) (au (bM (ae h fun m6 hm6 h=>ai [] [19,20,21] [(22,pB (!decide (m6=(⟨#[42]⟩:Xh))))] (bX 1 eS hm6 aY) (by kernel_rfl) (ey h fun q8 hq8 h=>?_))))))))
 refine ap (Y:=Unit×((List Xh))) (fun (_,l7)=>[(0,pS p0),(2,pP b1 0),(4,pL eS x2),(5,pP b5 0)]) (fun (_,l7)=>[Qa.b b1 81 [pI 0,pI 0,pS Uh,pN,pI 0,pI 0,pI 0,pI 0,pI 0,pI 0,pI 0,pB false,pI 0,pB false,pI 0],Qa.b b5 81 [pI 0,pI 0,pS m4,pL eS l7,pI 0,pI 0,pI 0,pI (-1),pI 0,pI 0,pI 0,pB false,pI 0,pB false,pI 0]]) (fun (_,l7)=>q8=l7) ?_ ?_
 ·skip
  refine fh rfl hq8 (fun hc9 hq8=>?_) fun hc9 hq8=>?_
  ·refine ae hq8 ?_;clear hq8;intro m10 hm10 hq8
   refine ae hq8 fun x11 hx11 hq8=>cS 5 [] [23,24,25] [(26,pL eS x11),(27,pP b5 3)] (bX 1 eS hm10 (aU 3 (cU hx11) aY)) (by kernel_rfl) (aM rfl rfl (al (vs:=[pL eS x11]) rfl rfl rfl rfl rfl bT (bV (bV (bV ii))) (au ?_)))
   obtain rfl:=osi hq8
   exact am ((),x11) (jC rfl) (bg (aC aN) bN) rfl
  refine af ?_
  refine gc (xn (k:=3) (b:=b5) rfl bT) ?_
  obtain rfl:=osi hq8
  exact am ((),[]) (jC rfl) (bg (aC aN) bN) rfl
 rintro ⟨_,l7⟩ τ hz;(try dsimp only at hz);subst q8;(try dsimp only at h);dsimp only [aw]
 refine ag (ae h fun m12 hm12 h=>ae h fun x13 hx13 h=>cS 4 [] [29,30] [(28,pP b5 0),(31,pS m12)] (bX 2 eS hm12 aY) (by kernel_rfl) ?_)
 refine aj rfl (aI rfl rfl (ρ1:=[_]) (aq (by exact aC aN) Vh) (dP hx13 0 (by rfl)) ?_);rintro _ _ ⟨rfl,rfl⟩;(try dsimp only [List.set])
 refine aE [(6,pB x13.1)] (by kernel_rfl) (cP h fun m14 hm14 h=>ae h fun x15 hx15 h=>cS 4 [] [34,35] [(33,pP b5 1),(36,pS m14)] (bX 2 eS hm14 aY) (by kernel_rfl) ?_)
 refine aj rfl (aI rfl rfl (ρ1:=[_]) (aq (by exact aN) Vh) (dP hx15 1 (by rfl)) ?_);rintro _ _ ⟨rfl,rfl⟩;(try dsimp only [List.set])
 refine fV [38,39,40] [(6,pB (x15.1&&x13.1))] (by kernel_rfl) (cP h fun m16 hm16 h=>ae h fun x17 hx17 h=>cS 4 [] [42,43] [(41,pP b5 4),(44,pS m16)] (bX 2 eS hm16 aY) (by kernel_rfl) ?_)
 refine aj rfl (aI rfl rfl (ρ1:=[_]) (aq (by exact aN) Vh) (dP hx17 4 (by rfl)) ?_);rintro _ _ ⟨rfl,rfl⟩;(try dsimp only [List.set])
 refine fV [46,47,48] [(6,pB (x17.1&&(x15.1&&x13.1)))] (by kernel_rfl) (cP h fun m18 hm18 h=>ae h fun x19 hx19 h=>cS 4 [] [50,51] [(49,pP b5 5),(52,pS m18)] (bX 2 eS hm18 aY) (by kernel_rfl) ?_)
 refine aj rfl (aI rfl rfl (ρ1:=[_]) (aq (by exact aN) Vh) (dP hx19 5 (by rfl)) ?_);rintro _ _ ⟨rfl,rfl⟩;(try dsimp only [List.set])
 refine fV [54,55,56] [(6,pB (x19.1&&(x17.1&&(x15.1&&x13.1))))] (by kernel_rfl) (cP h fun m20 hm20 h=>ae h fun x21 hx21 h=>cS 4 [] [58,59] [(57,pP b5 6),(60,pS m20)] (bX 2 eS hm20 aY) (by kernel_rfl) ?_)
 refine aj rfl (aI rfl rfl (ρ1:=[_]) (aq (by exact aN) Vh) (dP hx21 6 (by rfl)) ?_);rintro _ _ ⟨rfl,rfl⟩;(try dsimp only [List.set])
 refine fV [62,63,64] [(6,pB (x21.1&&(x19.1&&(x17.1&&(x15.1&&x13.1)))))] (by kernel_rfl) (bM (ae h fun m22 hm22 h=>ai [] [65,66,67] [(68,pB (!decide (m22=(⟨#[45]⟩:Xh))))] (bX 1 eS hm22 aY) (by kernel_rfl) (ey h fun q25 hq25 h=>?_)))
 refine ap (Y:=Unit×(Bool×Int)) (fun (_,(v23,v24))=>[(0,pS p0),(2,pP b1 0),(4,pL eS x2),(5,pP b5 0),(6,pB v23)]) (fun (_,(v23,v24))=>[Qa.b b1 81 [pI 0,pI 0,pS Uh,pN,pI 0,pI 0,pI 0,pI 0,pI 0,pI 0,pI 0,pB false,pI 0,pB false,pI 0],Qa.b b5 81 [pI x13.2,pI x15.2,pS m4,pL eS l7,pI x17.2,pI x19.2,pI x21.2,pI v24,pI 0,pI 0,pI 0,pB false,pI 0,pB false,pI 0]]) (fun (_,(v23,v24))=>q25=(v23,v24)) ?_ ?_
 ·skip
  refine fh rfl hq25 (fun hc26 hq25=>?_) fun hc26 hq25=>?_
  ·refine ae hq25 ?_;clear hq25;intro m27 hm27 hq25
   refine ae hq25 fun x28 hx28 hq25=>cS 4 [] [70,71] [(69,pP b5 7),(72,pS m27)] (bX 2 eS hm27 aY) (by kernel_rfl) ?_
   refine aj rfl (aI rfl rfl (ρ1:=[_]) (aq (by exact aN) Vh) (dP hx28 7 (by rfl)) ?_);rintro _ _ ⟨rfl,rfl⟩;(try dsimp only [List.set])
   refine fV [74,75,76] [(6,pB (x28.1&&(x21.1&&(x19.1&&(x17.1&&(x15.1&&x13.1))))))] (by kernel_rfl) ?_
   obtain rfl:=osi hq25
   exact am ((),((x28.1&&(x21.1&&(x19.1&&(x17.1&&(x15.1&&x13.1))))),x28.2)) (gA rfl) (bg (aC aN) bN) rfl
  refine af ?_
  obtain rfl:=osi hq25
  exact am ((),((x21.1&&(x19.1&&(x17.1&&(x15.1&&x13.1)))),(-1))) (gA rfl) (bg (aC aN) bN) rfl
 rintro ⟨_,⟨v23,v24⟩⟩ τ hz;(try dsimp only at hz);subst q25;(try dsimp only at h);dsimp only [aw]
 refine ag (ae h fun m29 hm29 h=>ae h fun x30 hx30 h=>cS 7 [] [78,79,80,81,77] [(82,.agg [pI x30.1.Rate,pI x30.1.Amount,pI x30.1.Per,pB x30.1.HasMost,pI x30.1.Most,pB x30.1.HasLeast,pI x30.1.Least]),(83,pI x30.2)] (bX 1 eS hm29 (aU 3 (yF hx30) aY)) (by kernel_rfl) (aj rfl (aP (cs:=[pI 0,pI 0,pI 0,pB false,pI 0,pB false,pI 0]) rfl rfl rfl rfl (fun b31=>aM rfl rfl (al (vs:=[pI x30.1.Rate,pI x30.1.Amount,pI x30.1.Per,pB x30.1.HasMost,pI x30.1.Most,pB x30.1.HasLeast,pI x30.1.Least]) rfl rfl rfl rfl rfl bT zl7 (aE [(8,pI x30.2)] (by kernel_rfl) (br (ak (dE 2 [0] [(84,.agg [pI x30.1.Rate,pI x30.1.Amount,pI x30.1.Per,pB x30.1.HasMost,pI x30.1.Most,pB x30.1.HasLeast,pI x30.1.Least]),(85,pP b5 8)] (by kernel_rfl) (aM rfl rfl (al (vs:=[pI x30.1.Rate,pI x30.1.Amount,pI x30.1.Per,pB x30.1.HasMost,pI x30.1.Most,pB x30.1.HasLeast,pI x30.1.Least]) rfl rfl rfl rfl rfl (cE (cE bT)) (bV (bV (bV (bV (bV (bV (bV (bV zl7)))))))) (au (bM (ak (bH 8 [2] (rg 86 6) [(92,pB ((!v23)||(x30.2 != 0))),(93,pgv (!((!v23)||(x30.2 != 0))) (.agg [pI x13.2,pI x15.2,pS m4,pL eS l7,pI x17.2,pI x19.2,pI x21.2,pI v24,pI x30.1.Rate,pI x30.1.Amount,pI x30.1.Per,pB x30.1.HasMost,pI x30.1.Most,pB x30.1.HasLeast,pI x30.1.Least]))] (by kernel_rfl) ?_)))))))))))))))
 refine xE (css:=List.map Zc.enc [(⟨x13.2,x15.2,m4,l7,x17.2,x19.2,x21.2,v24,x30.1⟩:Zc)]) (jM rfl rfl rfl) rfl rfl rfl rfl rfl rfl (fun hc=>by (repeat (first | exact jy | refine eE rfl ?_ | refine eE (Hn hc rfl) ?_))) rfl rfl rfl rfl ?_
 refine ae h fun x33 hx33 h=>uY (jM rfl rfl rfl) rfl rfl rfl (fg (.g rfl) nc) (fun hc=>jk (fU hx33 hc)) (tq (jM rfl rfl rfl) rfl rfl (xh rfl (.g rfl) (.p rfl) rfl) (cg rfl rfl rfl (Bn rfl (.p rfl) (.p rfl) (.g rfl)) (ae h fun x34 hx34 h=>dh [2] (rg 98 5) [(103,pB ((((!v23)||(x30.2 != 0))||(x33 != 0))||(!decide (x34=p0))))] (iJ 2 (fun hc=>ly (fU hx34 hc)) aY) (by kernel_rfl) (fi rfl h (fun hc35 h=>?_) fun hc35 h=>?_))))
 ·refine ag ?_
  refine fC 1 [(104,.agg [pI 0,pI 0,pS Uh,pN,pI 0,pI 0,pI 0,pI 0,pI 0,pI 0,pI 0,pB false,pI 0,pB false,pI 0])] (by kernel_rfl) (aM rfl rfl (al (vs:=[pI 0,pI 0,pS Uh,pN,pI 0,pI 0,pI 0,pI 0,pI 0,pI 0,pI 0,pB false,pI 0,pB false,pI 0]) rfl rfl rfl rfl rfl (cE bT) (gr (gr (gr (gr (gr (gr GT)))))) (aE [(3,pB false)] (by kernel_rfl) (aD (eW (k:=3) (b:=b1) rfl (cE bT) (bi (bc ?_)))))))
  obtain rfl:=osi h
  exact aH (bK (di rfl tz rfl) (az rfl)) bq ⟨rfl,rfl⟩
 refine af ?_
 refine br (ak (dE 1 [2] [(105,.agg [pI x13.2,pI x15.2,pS m4,pL eS l7,pI x17.2,pI x19.2,pI x21.2,pI v24,pI x30.1.Rate,pI x30.1.Amount,pI x30.1.Per,pB x30.1.HasMost,pI x30.1.Most,pB x30.1.HasLeast,pI x30.1.Least])] (by kernel_rfl) (aM rfl rfl (al (vs:=[pI x13.2,pI x15.2,pS m4,pL eS l7,pI x17.2,pI x19.2,pI x21.2,pI v24,pI x30.1.Rate,pI x30.1.Amount,pI x30.1.Per,pB x30.1.HasMost,pI x30.1.Most,pB x30.1.HasLeast,pI x30.1.Least]) rfl rfl rfl rfl rfl (cE bT) (gr (gr (gr (gr (gr (gr GT)))))) (aE [(3,pB true)] (by kernel_rfl) (cK ?_))))))
 obtain rfl:=osi h
 exact aH (bK (di rfl tz rfl) (az rfl)) bq ⟨rfl,rfl⟩
def lz (p0:Xh):Option ((List Zc)×Int×Int):=(bo p0 (⟨#[10]⟩:Xh)).bind fun x1=>(sub x1 0 (i64.wrap ((x1.length:Int) - 1))).bind fun l2=>(aW (S:=(List Zc)×Int) (T:=((List Zc))⊕(_)) (fun (l4,v7)=>cond (decide (v7<(l2.length:Int))) ((bx l2 v7).bind fun m16=>(gx m16).bind fun x17=>cond (!x17.2) (some (.inr (.inr ([],v7,(4:Int))))) ((app 144 l4 [x17.1]).bind fun l22=>some (.inl (l22,(i64.wrap (v7+1)))))) (some (.inr (.inl l4)))) Va (([]:List Zc),0)).bind fun q=>match q with | .inl l11=>(bx x1 (i64.wrap ((x1.length:Int) - 1))).bind (fun m26=>cond (!decide (m26=(⟨#[]⟩:Xh))) (some ([],(i64.wrap ((x1.length:Int) - 1)),(4:Int))) ((cV l11).bind fun x28=>cond (x28 != 0) (some ([],(0:Int),x28)) (some (l11,(i64.wrap ((x1.length:Int) - 1)),(0:Int))))) | .inr e=>some e
theorem vj {p0:Xh} {r:((List Zc)×Int×Int)}  (h:lz p0=some r):PF 13 [pS p0] (.tup [pL Zc.enc r.1,pI r.2.1,pI r.2.2]):=by
 unfold lz at h
 refine aV ?_
 refine dk Tryz.func13 rfl Tryz.ntmps13 Tryz.results13 rfl (aQ [2,3,4] (by kernel_rfl) (cP h fun x1 hx1 h=>ai [] [13,14] [(5,pL eS x1)] (aU 1 (cU hx1) aY) (by kernel_rfl) (br (ah [15,16,17] [(6,pI (i64.wrap ((x1.length:Int) - 1)))] (by kernel_rfl) (br (aA [(7,pN)] (by kernel_rfl) (bM (ae h fun l2 hl2 h=>fC 3 [(18,pL eS x1),(19,pI (i64.wrap ((x1.length:Int) - 1))),(20,pI (i64.wrap ((x1.length:Int) - 1)))] (by kernel_rfl) (cg rfl rfl rfl (Fa (enc:=eS) rfl rfl rfl (fun _=>rfl) (.p rfl) (.p rfl) (.p rfl) (fun _=>hl2)) (aE [(22,pI (l2.length:Int)),(23,pI 0)] (by kernel_rfl) (aD (bC 81 15 (ae h fun q13 hq13 h=>?_)))))))))))))
 refine ap (Y:=(Option Addr×Nat)×((List Zc))) (fun ((a9,c10),l11)=>[(5,pL eS x1),(6,pI (i64.wrap ((x1.length:Int) - 1))),(7,pO a9 l11.length c10)]) (fun ((a9,c10),l11)=>[Qa.row a9 l11.length c10 81 15 (List.map Zc.enc l11)]) (fun ((a9,c10),l11)=>q13=Sum.inl l11) ?_ ?_
 ·refine aG ?_
  refine aJ (Y:=Option Addr×Nat) (S:=(List Zc)×Int) _ hq13 (fun (a5,c6) (l4,v7)=>[(5,pL eS x1),(6,pI (i64.wrap ((x1.length:Int) - 1))),(7,pO a5 l4.length c6),(21,pL eS l2),(22,pI (l2.length:Int)),(23,pI v7)]) (fun (a5,c6) (l4,v7)=>[Qa.row a5 l4.length c6 81 15 (List.map Zc.enc l4)]) (none,0) (o3 rfl) bN ?_
  rintro ⟨a5,c6⟩ ⟨l4,v7⟩ o τ hb12;(try dsimp only at hb12);dsimp only [aw]
  refine cH [(24,pB (decide (v7<(l2.length:Int))))] (by kernel_rfl) (br (fh rfl hb12 (fun hc15 hb12=>?_) fun hc15 hb12=>?_))
  ·refine af ?_
   refine eT (ae hb12 fun m16 hm16 hb12=>ai [] [25,26,27] [(8,pI v7),(9,pS m16)] (bX 1 eS hm16 aY) (by kernel_rfl) (cP hb12 fun x17 hx17 hb12=>cS 5 [] [29,30,28] [(31,.agg (bL x17.1)),(32,pB x17.2)] (aU 1 (qh hx17) aY) (by kernel_rfl) (aj rfl (aP (cs:=[pI 0,pI 0,pS Uh,pN,pI 0,pI 0,pI 0,pI 0,pI 0,pI 0,pI 0,pB false,pI 0,pB false,pI 0]) rfl rfl rfl rfl (fun b18=>aM rfl rfl (al (vs:=(bL x17.1)) rfl rfl rfl rfl rfl bT (gr (gr (gr (gr (gr (gr GT)))))) (aE [(11,pB x17.2)] (by kernel_rfl) (bM (bF [33] [(34,pB (!x17.2))] (by kernel_rfl) rfl hb12 (fun hc19 hb12=>?_) fun hc19 hb12=>?_)))))))))
   ·refine ag ?_
    refine ah [35] [(2,pN),(3,pI v7),(4,pI 4)] (by kernel_rfl) (aD (gB 2 rfl (bi (bc (iq ?_)))))
    refine aX hb12 (fun ht=>?_);subst ht
    refine aO (aS ?_)
    obtain rfl:=osi h
    exact aH (nA (az rfl) (az rfl) (az rfl)) bq ⟨rfl,rfl⟩
   refine af ?_
   refine aD (ak (dE 2 [0] [(36,pO a5 l4.length c6),(37,.agg (bL x17.1))] (by kernel_rfl) (aj rfl (bp rfl rfl rfl rfl rfl (eE rfl jy) rfl rfl rfl rfl (fun b20=>ae hb12 fun l22 hl22 hb12=>?_)))))
   refine aj rfl (bw (enc:=Zc.enc) rfl rfl rfl rfl rfl rfl rfl rfl rfl eG (by exact aC (aC aN)) hl22 (fun a23 c24=>?_))
   refine aE [(7,pO a23 l22.length c24)] (by kernel_rfl) (eH (ah [40] [(23,pI (i64.wrap (v7+1)))] (by kernel_rfl) ?_))
   exact aT hb12 (a23,c24) (o3 rfl) bN
  refine aL ?_
  refine cJ hb12 (fun ht=>an rfl ?_)
  exact am ((a5,c6),l4) (nt rfl) bN ht.symm
 rintro ⟨⟨a9,c10⟩,l11⟩ τ hz;(try dsimp only at hz);subst q13;(try dsimp only at h);dsimp only [aw]
 refine dV (ae h fun m26 hm26 h=>ai [] [41,42,43,44] [(45,pB (!decide (m26=(⟨#[]⟩:Xh))))] (bX 2 eS hm26 aY) (by kernel_rfl) (fi rfl h (fun hc27 h=>?_) fun hc27 h=>?_))
 ·refine ag ?_
  refine ah [46] [(2,pN),(3,pI (i64.wrap ((x1.length:Int) - 1))),(4,pI 4)] (by kernel_rfl) (aD (gB 2 rfl (bi (bc ?_))))
  obtain rfl:=osi h
  exact aH (nA (az rfl) (az rfl) (az rfl)) bq ⟨rfl,rfl⟩
 refine af ?_
 refine bM (fC 1 [(47,pO a9 l11.length c10)] (by kernel_rfl) ?_)
 refine dw (enc:=Zc.enc) (xs:=l11) 47 rfl (by exact aN) ?_
 refine ae h fun x28 hx28 h=>dh [] [48] [(12,pI x28)] (aU 0 (jk hx28) aY) (by kernel_rfl) (br (bF [49] [(50,pB (x28 != 0))] (by kernel_rfl) rfl h (fun hc29 h=>?_) fun hc29 h=>?_))
 ·refine ag ?_
  refine ah [51] [(2,pN),(3,pI 0),(4,pI x28)] (by kernel_rfl) (aD (gB 2 rfl (bi (bc ?_))))
  obtain rfl:=osi h
  exact aH (nA (az rfl) (az rfl) (az rfl)) bq ⟨rfl,rfl⟩
 refine af ?_
 refine br (ah [52,53] [(2,pO a9 l11.length c10),(3,pI (i64.wrap ((x1.length:Int) - 1))),(4,pI 0)] (by kernel_rfl) (aD (p8 (enc:=Zc.enc) (xs:=l11) 2 rfl eG (bi ?_))))
 obtain rfl:=osi h
 exact aH (nA (az rfl) (az rfl) (az rfl)) bq ⟨rfl,rfl⟩
end SX
namespace SX
open Go
theorem Da (a b:Xh):(a == b)=decide (a=b):=by
 cases a with | mk x=>cases b with | mk y =>
 show (x == y)=_
 rw [Bool.eq_iff_iff]
 simp
def Ug (v:Value):Prop:=∃ a,v=.string a
def kS (a:Xh):Value:=.string a
theorem BW (a:Xh):∀ (es:List MapEntry) (i:Nat),(∀ e∈es,Ug e.key)->∃ r,Instr.findNow .string (.string a) es i=some r/\((r=none/\∀ e∈es,e.key≠.string a)\/∃ j e,r=some (i+j,e.val)/\es[j]?=some e/\e.key=.string a):=by
 intro es
 induction es with
 | nil=>intro i _;exact ⟨none,rfl,.inl ⟨rfl,fun e h=>by cases h⟩⟩
 | cons e es ih =>
  intro i h
  obtain ⟨b,hb⟩:=h e (by simp)
  unfold Instr.findNow
  rw [hb]
  by_cases hab:a=b
  ·subst hab
   simp only [Instr.sameNow,Da,decide_true]
   exact ⟨_,rfl,.inr ⟨0,e,rfl,rfl,hb⟩⟩
  simp only [Instr.sameNow,Da,bz hab]
  obtain ⟨r,h1,h2⟩:=ih (i+1) (fun x hx=>h x (by simp [hx]))
  refine ⟨r,h1,?_⟩
  rcases h2 with ⟨h2,h3⟩ | ⟨j,x,h2,h3,h4⟩
  ·left
   refine ⟨h2,fun x hx=>?_⟩
   rcases List.mem_cons.1 hx with rfl | hx
   ·rw [hb];intro hh;injection hh with hh;exact hab hh.symm
   exact h3 x hx
  right;exact ⟨j+1,x,by rw [h2];congr 2;omega,h3,h4⟩
theorem key_str {kt:Nat} (hu:fQ kt=some .string):Nf kt Ug where
 chk:=by
  rintro v ⟨a,rfl⟩ e w
  have:∀ n,(Instr.checkKey e (n+1) kt (.string a)).run Tryz.prog w=.ok () w:=fun n=>by simp [Instr.checkKey,run_underlying (bD hu)]
  exact this 9999
 find:=by
  rintro v es ⟨a,rfl⟩ h w
  obtain ⟨r,h1,h2⟩:=BW a es 0 h
  refine ⟨r,?_,?_⟩
  ·simp [Instr.findKey,run_underlying (bD hu),h1]
  rcases h2 with h2 | ⟨j,e,h2,h3⟩
  ·exact .inl h2
  exact .inr ⟨j,e,by rw [h2,zero_add],h3⟩
 same:=by
  rintro v ⟨a,rfl⟩
  have:∀ n,Instr.sameBits (n+1) (.string a) (.string a)=true:=fun n=>by simp [Instr.sameBits,Da]
  exact this 9999
theorem D7 {kt:Nat} (hu:fQ kt=some .string):Mg kt kS:=⟨⟨Ug,key_str hu,fun a=>⟨a,rfl⟩⟩,fun a b h=>by injection h⟩
theorem Au {a:Xh}:∀ (O:Kr) (u:Value),Rp O (.v (.string a)) u->u=kS a:=fun _ _ h=>h.val
section
variable {K V:Type} [DecidableEq K] {ek:K->Value} {vv:V->PV} {xs:List (K×V)} {o:Oper} {Z:Xa} {ρ ρ':List Qa} {c:Bool} {x y y2:Operand} {t kt et:Nat} {KK:PV->List Qa->Prop} {k:K} {v z0:V} {z:Value} {sz by' b:Nat} {pk:PV} {mo:Option Nat}
theorem Fc (ho:o.op=.insert t x y y2) (ht:fQ t=some (.map kt et)) (L:Mg kt ek) (hx:bt Z x=.v (.map (some b))) (hy:bt Z y=pk) (hk:∀ O u,Rp O pk u->u=ek k) (hv:bt Z y2=vv v) (hu:Nc ρ (.mp (some b) (ls ek vv xs)) (.mp (some b) (ls ek vv (rK xs k v))) ρ') (h:KK (.v undef) ρ'):Qb o Z ρ KK:=fun O Z' rr g hs hr=>by
 obtain ⟨P,hL,hP⟩:=L.law
 obtain ⟨r0,l1,l2,rfl,h4,h5⟩:=hr.upd hu
 cases h4 with
 | mp hn hw hkv =>
  rename_i es clock
  intro β hi Nx hnx
  have hb:O.w.heap[b]?=some (.map es.toArray clock):=hi.own (Ja.mp (some b) es clock) (by simp)
  have e1:SX.ev Z' x=.map (some b):=hs.v1 hx
  have e2:SX.ev Z' y=ek k:=hk O _ (by have:=hs.ev y;rwa [hy] at this)
  have rv:Rp O (vv v) (SX.ev Z' y2):=by have:=hs.ev y2;rwa [hv] at this
  obtain ⟨r,es',clock',f1,f2,f3⟩:=te (u:=SX.ev Z' y2) ht hL (hP k) (An hP hkv) hb
  obtain ⟨w1,w2⟩:=BK (v:=v) L.inj hw hkv f1 rv f3
  obtain ⟨i1,i2⟩:=hi.mapTurn (es':=es') (clock':=clock')
  simp only [execOp,ho,e1,e2,Sem.run_bind,f2,Result.andThen_ok,Sem.run_pure,Wc]
  exact hnx _ _ _ i1 i2 ⟨.v undef,ρ',.v rfl,h5 _ _ i2 (.mp (fun h=>by cases h) w1 (w2.mono i2)),h⟩
end
end SX
namespace SX
open Go
attribute [local irreducible] Wa Ka Vc Qb Na Ra Pa Vb Ub Nc Jb Uc Qd PF Yc La Lb dU dM ke kV ip jN Yd Ya aW bx app mk gd lb nz sN lC sub ff ji xi rE ja ex lJ eO IntKind.wrap Int.tmod Int.tdiv Op.bytesLess strOfNums
def nk (p0:(List Zo)) (p1:Int):Option (List (Xh×Int)):=(aW (S:=Int×(List (Xh×Int))) (T:=((List (Xh×Int)))) (fun (v2,l3)=>cond (decide (v2<(p0.length:Int))) (((bx p0 v2).bind fun m10=>cond (decide (m10.From<=p1)) (some (rK l3 m10.Currency m10.PerUnit)) (some l3)).bind fun l8=>some (.inl ((i64.wrap (v2+1)),l8))) (some (.inr l3))) Va (0,(rK ([]:List (Xh×Int)) (⟨#[69,85,82]⟩:Xh) 1000000))).bind fun l4=>some l4
theorem sS {p0:(List Zo)} {p1:Int} {r:(List (Xh×Int))}  (h:nk p0 p1=some r):La 215 [pL Zo.enc p0,pI p1] [] (fun pv ρ'=>∃ m,pv=.v (.map (some m))/\ρ'=[Qa.mp (some m) (ls kS vI r)]):=by
 unfold nk at h
 refine dk Tryz.func215 rfl Tryz.ntmps215 Tryz.results215 rfl (aQ [4] (by kernel_rfl) (br (cL rfl (vL kS vI rfl (fun b1=>aM rfl rfl (Fc (xs:=([]:List (Xh×Int))) (k:=(⟨#[69,85,82]⟩:Xh)) (ek:=kS) (vv:=vI) (v:=1000000) rfl rfl (D7 rfl) rfl rfl Au rfl bT (fV [9] [(5,.v (.map (some b1)))] (by kernel_rfl) (bM (aA [(10,pL Zo.enc p0),(11,pI (p0.length:Int)),(12,pI 0)] (by kernel_rfl) (ey h fun q6 hq6 h=>?_))))))))))
 refine ap (Y:=Unit×((List (Xh×Int)))) (fun (_,l4)=>[(5,.v (.map (some b1)))]) (fun (_,l4)=>[Qa.mp (some b1) (ls kS vI l4)]) (fun (_,l4)=>q6=l4) ?_ ?_
 ·refine aG ?_
  refine aJ (Y:=Unit) (S:=Int×(List (Xh×Int))) _ hq6 (fun _ (v2,l3)=>[(1,pI p1),(5,.v (.map (some b1))),(10,pL Zo.enc p0),(11,pI (p0.length:Int)),(12,pI v2)]) (fun _ (v2,l3)=>[Qa.mp (some b1) (ls kS vI l3)]) () (gA rfl) bN ?_
  rintro _ ⟨v2,l3⟩ o τ hb5;(try dsimp only at hb5);dsimp only [aw]
  refine cH [(13,pB (decide (v2<(p0.length:Int))))] (by kernel_rfl) (br (fh rfl hb5 (fun hc7 hb5=>?_) fun hc7 hb5=>?_))
  ·refine af ?_
   refine cP hb5 fun q9 hq9 hb5=>?_
   refine ap (Y:=Unit×((List (Xh×Int)))) (fun (_,l8)=>[(1,pI p1),(5,.v (.map (some b1))),(10,pL Zo.enc p0),(11,pI (p0.length:Int)),(12,pI v2)]) (fun (_,l8)=>[Qa.mp (some b1) (ls kS vI l8)]) (fun (_,l8)=>q9=l8) ?_ ?_
   ·skip
    refine rx (ae hq9 fun m10 hm10 hq9=>cS 2 [] [14] [(15,.agg [pS m10.Currency,pI m10.From,pI m10.PerUnit])] (bX 0 Zo.enc hm10 aY) (by kernel_rfl) (aj rfl (aP (cs:=[pS Uh,pI 0,pI 0]) rfl rfl rfl rfl (fun b11=>aM rfl rfl (al (vs:=[pS m10.Currency,pI m10.From,pI m10.PerUnit]) rfl rfl rfl rfl rfl bT AW (au (br (aK [0] [16,17,18] [(19,pB (decide (m10.From<=p1)))] (by kernel_rfl) (fi rfl hq9 (fun hc12 hq9=>?_) fun hc12 hq9=>?_)))))))))
    ·refine ak ?_
     refine bH 5 [0,0] [21,23] [(20,.v (.map (some b1))),(22,pS m10.Currency),(24,pI m10.PerUnit)] (by kernel_rfl) (aM rfl rfl (uk (xs:=l3) (k:=m10.Currency) (ek:=kS) (vv:=vI) (v:=m10.PerUnit) rfl rfl (D7 rfl) rfl rfl Au rfl (cE bT) (au (aF ?_))))
     obtain rfl:=osi hq9
     exact am ((),(rK l3 m10.Currency m10.PerUnit)) (gA rfl) (bg (aC aN) bq) rfl
    refine af ?_
    refine aF ?_
    obtain rfl:=osi hq9
    exact am ((),l3) (gA rfl) (bg (aC aN) bq) rfl
   rintro ⟨_,l8⟩ τ hz;(try dsimp only at hz);subst q9;(try dsimp only at hb5);dsimp only [aw]
   refine ah [25] [(12,pI (i64.wrap (v2+1)))] (by kernel_rfl) ?_
   exact aT hb5 () (gA rfl) bN
  refine aL ?_
  refine cJ hb5 (fun ht=>an rfl ?_)
  exact am ((),l3) (oC rfl) bN ht.symm
 rintro ⟨_,l4⟩ τ hz;(try dsimp only at hz);subst q6;(try dsimp only at h);dsimp only [aw]
 refine ag (ah [26] [(4,.v (.map (some b1)))] (by kernel_rfl) (cK ?_))
 obtain rfl:=osi h
 exact aH (dZ (az rfl)) bN ⟨_,rfl,rfl⟩
def r9 (p0:(List Zo)) (p1:Xh) (p2:Int):Option (Int×Int):=(mG p0).bind fun x1=>cond (x1 != 0) (some ((0:Int),x1)) (cond ((decide (p2<0))||(decide (36524<p2))) (some ((0:Int),(2:Int))) ((nk p0 p2).bind fun x4=>cond (!((pC x4 p1).isSome)) (some ((0:Int),(6:Int))) (some (((pC x4 p1).getD (0:Int)),(0:Int)))))
theorem xN {p0:(List Zo)} {p1:Xh} {p2:Int} {r:(Int×Int)}  (h:r9 p0 p1 p2=some r):PF 165 [pL Zo.enc p0,pS p1,pI p2] (.tup [pI r.1,pI r.2]):=by
 unfold r9 at h
 refine aV ?_
 refine dk Tryz.func165 rfl Tryz.ntmps165 Tryz.results165 rfl (aQ [6,7] (by kernel_rfl) (bM (ae h fun x1 hx1 h=>ai [] [11,12] [(8,pI x1)] (aU 1 (rS hx1) aY) (by kernel_rfl) (br (bF [13] [(14,pB (x1 != 0))] (by kernel_rfl) rfl h (fun hc2 h=>?_) fun hc2 h=>?_)))))
 ·refine ag ?_
  refine ah [15] [(6,pI 0),(7,pI x1)] (by kernel_rfl) (sO ?_)
  obtain rfl:=osi h
  exact aH (bK (az rfl) (az rfl)) bq ⟨rfl,rfl⟩
 refine af ?_
 refine bM (bF (rg 16 5) [(21,pB ((decide (p2<0))||(decide (36524<p2))))] (by kernel_rfl) rfl h (fun hc3 h=>?_) fun hc3 h=>?_)
 ·refine ag ?_
  refine de [(6,pI 0),(7,pI 2)] (by kernel_rfl) ?_
  obtain rfl:=osi h
  exact aH (bK (az rfl) (az rfl)) bq ⟨rfl,rfl⟩
 refine af ?_
 refine cP h fun x4 hx4 h=>fC 2 [(23,pL Zo.enc p0),(24,pI p2)] (by kernel_rfl) ?_
 refine aj rfl (aI rfl rfl (ρ1:=[]) Vh (sS hx4) ?_);rintro _ _ ⟨m5,rfl,rfl⟩
 refine ba 1 [(26,pS p1)] (by kernel_rfl) (cg rfl rfl rfl (show Na _ _ _ _ (.tup [pI ((pC x4 p1).getD (0:Int)),pB ((pC x4 p1).isSome)]) from BL (xs:=x4) (k:=p1) (ek:=kS) (vv:=vI) (z0:=(0:Int)) rfl rfl rfl (fun _=>.v rfl) (D7 rfl) (.p rfl) (.p rfl) Au (Hg eG)) (fV [22,28,29] [(9,pI ((pC x4 p1).getD (0:Int))),(10,pB ((pC x4 p1).isSome))] (by kernel_rfl) (bM (bF [30] [(31,pB (!((pC x4 p1).isSome)))] (by kernel_rfl) rfl h (fun hc6 h=>?_) fun hc6 h=>?_))))
 ·refine ag ?_
  refine de [(6,pI 0),(7,pI 6)] (by kernel_rfl) ?_
  obtain rfl:=osi h
  exact aH (bK (az rfl) (az rfl)) bq ⟨rfl,rfl⟩
 refine af ?_
 refine br (ah [32] [(6,pI ((pC x4 p1).getD (0:Int))),(7,pI 0)] (by kernel_rfl) (cK ?_))
 obtain rfl:=osi h
 exact aH (bK (az rfl) (az rfl)) bq ⟨rfl,rfl⟩
def pr (p0:(List Xh)):Option (List (Xh×Bool)):=(aW (S:=Int×(List (Xh×Bool))) (T:=((List (Xh×Bool)))) (fun (v2,l3)=>cond (decide (v2<(p0.length:Int))) ((bx p0 v2).bind fun m8=>some (.inl ((i64.wrap (v2+1)),(rK l3 m8 true)))) (some (.inr l3))) Va (0,([]:List (Xh×Bool)))).bind fun l4=>some l4
theorem xO {p0:(List Xh)} {r:(List (Xh×Bool))}  (h:pr p0=some r):La 235 [pL eS p0] [] (fun pv ρ'=>∃ m,pv=.v (.map (some m))/\ρ'=[Qa.mp (some m) (ls kS vT r)]):=by
 unfold pr at h
 refine dk Tryz.func235 rfl Tryz.ntmps235 Tryz.results235 rfl (aQ [2] (by kernel_rfl) (br (cL rfl (vL kS vT rfl (fun b1=>aE [(3,.v (.map (some b1)))] (by kernel_rfl) (bM (aA [(7,pL eS p0),(8,pI (p0.length:Int)),(9,pI 0)] (by kernel_rfl) (ey h fun q6 hq6 h=>?_))))))))
 refine ap (Y:=Unit×((List (Xh×Bool)))) (fun (_,l4)=>[(3,.v (.map (some b1)))]) (fun (_,l4)=>[Qa.mp (some b1) (ls kS vT l4)]) (fun (_,l4)=>q6=l4) ?_ ?_
 ·refine aG ?_
  refine aJ (Y:=Unit) (S:=Int×(List (Xh×Bool))) _ hq6 (fun _ (v2,l3)=>[(3,.v (.map (some b1))),(7,pL eS p0),(8,pI (p0.length:Int)),(9,pI v2)]) (fun _ (v2,l3)=>[Qa.mp (some b1) (ls kS vT l3)]) () (jC rfl) bN ?_
  rintro _ ⟨v2,l3⟩ o τ hb5;(try dsimp only at hb5);dsimp only [aw]
  refine cH [(10,pB (decide (v2<(p0.length:Int))))] (by kernel_rfl) (br (fh rfl hb5 (fun hc7 hb5=>?_) fun hc7 hb5=>?_))
  ·refine af ?_
   refine eT (ae hb5 fun m8 hm8 hb5=>ai [] [11,12] [(5,pS m8)] (bX 0 eS hm8 aY) (by kernel_rfl) (aD (fC 2 [(13,.v (.map (some b1))),(14,pS m8)] (by kernel_rfl) (aM rfl rfl (uk (xs:=l3) (k:=m8) (ek:=kS) (vv:=vT) (v:=true) rfl rfl (D7 rfl) rfl rfl Au rfl bT (au (eH (ah [15] [(9,pI (i64.wrap (v2+1)))] (by kernel_rfl) ?_))))))))
   exact aT hb5 () (jC rfl) bN
  refine aL ?_
  refine cJ hb5 (fun ht=>an rfl ?_)
  exact am ((),l3) (oC rfl) bN ht.symm
 rintro ⟨_,l4⟩ τ hz;(try dsimp only at hz);subst q6;(try dsimp only at h);dsimp only [aw]
 refine ag (ah [16] [(2,.v (.map (some b1)))] (by kernel_rfl) (cK ?_))
 obtain rfl:=osi h
 exact aH (dZ (az rfl)) bN ⟨_,rfl,rfl⟩
def kR (p0:(List Zo)) (p1:Int) (p2:Xh) (p3:Int) (p4:Int):Option (Int×Int):=(r9 p0 p2 p3).bind fun x1=>cond (x1.2 != 0) (some ((0:Int),x1.2)) ((rT p1 x1.1 1000000 p4).bind fun x3=>some (x3.1,x3.2))
theorem od {p0:(List Zo)} {p1:Int} {p2:Xh} {p3:Int} {p4:Int} {r:(Int×Int)}  (h:kR p0 p1 p2 p3 p4=some r):PF 107 [pL Zo.enc p0,pI p1,pS p2,pI p3,pI p4] (.tup [pI r.1,pI r.2]):=by
 unfold kR at h
 refine aV ?_
 refine dk Tryz.func107 rfl Tryz.ntmps107 Tryz.results107 rfl (aQ [10,11] (by kernel_rfl) (cP h fun x1 hx1 h=>ai [] [15,16,17,18,14,19,20] [(12,pI x1.1),(13,pI x1.2)] (aU 3 (xN hx1) aY) (by kernel_rfl) (bM (bF [21] [(22,pB (x1.2 != 0))] (by kernel_rfl) rfl h (fun hc2 h=>?_) fun hc2 h=>?_))))
 ·refine ag ?_
  refine ah [23] [(10,pI 0),(11,pI x1.2)] (by kernel_rfl) (sO ?_)
  obtain rfl:=osi h
  exact aH (bK (az rfl) (az rfl)) bq ⟨rfl,rfl⟩
 refine af ?_
 refine cP h fun x3 hx3 h=>ai [] (rg 24 6) [(10,pI x3.1),(11,pI x3.2)] (aU 3 (xF hx3) aY) (by kernel_rfl) (cK ?_)
 obtain rfl:=osi h
 exact aH (bK (az rfl) (az rfl)) bq ⟨rfl,rfl⟩
end SX
end Go.Proofs.YtbedcfghfcmkdaaGreatDoor
namespace Go.Proofs
open Go.Shelf
def Tryz.lSs_ren:Go.Shelf.Ren:=⟨fun | 190=>202 | 125=>239 | 258=>238 | 128=>263 | 129=>225 | 302=>254 | 303=>255 | 304=>256 | 305=>257 | 306=>258 | 307=>259 | 308=>260 | 309=>261 | 310=>262 | 333=>276 | 329=>277 | 330=>278 | 334=>279 | 335=>280 | 336=>219 | 344=>286 | n=>n,fun | 31=>28 | 9=>9 | 3=>3 | 46=>255 | 0=>0 | 51=>301 | 53=>233 | 4=>4 | 183=>339 | 182=>338 | 131=>297 | 5=>5 | 218=>352 | 222=>164 | 228=>359 | 229=>360 | n=>n,fun | n=>n⟩
theorem Tryz.lSs:Go.Proofs.Lays.n190 Tryz.prog Tryz.lSs_ren:={
 mixed:=by kernel_rfl
 f125:=Tryz.func239.trans (congrArg some (by kernel_rfl))
 f128:=Tryz.func263.trans (congrArg some (by kernel_rfl))
 f129:=Tryz.func225.trans (congrArg some (by kernel_rfl))
 f190:=Tryz.func202.trans (congrArg some (by kernel_rfl))
 f258:=Tryz.func238.trans (congrArg some (by kernel_rfl))
 f302:=Tryz.func254.trans (congrArg some (by kernel_rfl))
 f303:=Tryz.func255.trans (congrArg some (by kernel_rfl))
 f304:=Tryz.func256.trans (congrArg some (by kernel_rfl))
 f305:=Tryz.func257.trans (congrArg some (by kernel_rfl))
 f306:=Tryz.func258.trans (congrArg some (by kernel_rfl))
 f307:=Tryz.func259.trans (congrArg some (by kernel_rfl))
 f308:=Tryz.func260.trans (congrArg some (by kernel_rfl))
 f309:=Tryz.func261.trans (congrArg some (by kernel_rfl))
 f310:=Tryz.func262.trans (congrArg some (by kernel_rfl))
 f329:=Tryz.func277.trans (congrArg some (by kernel_rfl))
 f330:=Tryz.func278.trans (congrArg some (by kernel_rfl))
 f333:=Tryz.func276.trans (congrArg some (by kernel_rfl))
 f334:=Tryz.func279.trans (congrArg some (by kernel_rfl))
 f335:=Tryz.func280.trans (congrArg some (by kernel_rfl))
 f336:=Tryz.func219.trans (congrArg some (by kernel_rfl))
 f344:=Tryz.func286.trans (congrArg some (by kernel_rfl))
 t0:=Tryz.underlying0
 a0:=Tryz.isAgg0
 z0:=Tryz.sizeOf0
 v0:=Tryz.zeroValue0
 t3:=Tryz.underlying3
 a3:=Tryz.isAgg3
 z3:=Tryz.sizeOf3
 v3:=Tryz.zeroValue3
 t4:=Tryz.underlying4
 a4:=Tryz.isAgg4
 z4:=Tryz.sizeOf4
 v4:=Tryz.zeroValue4
 t5:=Tryz.underlying5
 a5:=Tryz.isAgg5
 z5:=Tryz.sizeOf5
 v5:=Tryz.zeroValue5
 t9:=Tryz.underlying9
 a9:=Tryz.isAgg9
 z9:=Tryz.sizeOf9
 v9:=Tryz.zeroValue9
 t31:=Tryz.underlying28
 a31:=Tryz.isAgg28
 z31:=Tryz.sizeOf28
 v31:=Tryz.zeroValue28
 t46:=Tryz.underlying255
 a46:=Tryz.isAgg255
 z46:=Tryz.sizeOf255
 v46:=Tryz.zeroValue255
 t51:=Tryz.underlying301
 a51:=Tryz.isAgg301
 z51:=Tryz.sizeOf301
 v51:=Tryz.zeroValue301
 t53:=Tryz.underlying233
 a53:=Tryz.isAgg233
 z53:=Tryz.sizeOf233
 v53:=Tryz.zeroValue233
 t131:=Tryz.underlying297
 a131:=Tryz.isAgg297
 z131:=Tryz.sizeOf297
 v131:=Tryz.zeroValue297
 t182:=Tryz.underlying338
 a182:=Tryz.isAgg338
 z182:=Tryz.sizeOf338
 v182:=Tryz.zeroValue338
 t183:=Tryz.underlying339
 a183:=Tryz.isAgg339
 z183:=Tryz.sizeOf339
 v183:=Tryz.zeroValue339
 t218:=Tryz.underlying352
 a218:=Tryz.isAgg352
 z218:=Tryz.sizeOf352
 v218:=Tryz.zeroValue352
 t222:=Tryz.underlying164
 a222:=Tryz.isAgg164
 z222:=Tryz.sizeOf164
 v222:=Tryz.zeroValue164
 t228:=Tryz.underlying359
 a228:=Tryz.isAgg359
 z228:=Tryz.sizeOf359
 v228:=Tryz.zeroValue359
 t229:=Tryz.underlying360
 a229:=Tryz.isAgg360
 z229:=Tryz.sizeOf360
 v229:=Tryz.zeroValue360 }
end Go.Proofs
namespace Go.Proofs.YtbedcfghfcmkdaaGreatDoor
namespace SX
open Go
section
variable {γ:Type} [Inhabited γ]
theorem yG (e:γ->Value) (D:Array γ) (cur:Array Value) (h:D.size<=cur.size):(Sort.putCells e 0 D cur).toList.take D.size=D.toList.map e:=by
 apply List.ext_getElem
 ·simp [Sort.putCells];omega
 intro i h1 h2
 have h3:i<D.size:=by simpa using h2
 simp [Sort.putCells,h3]
theorem BX {e:γ->Value} {w:World} {b:Nat} {D:Array γ} {cur:Array Value} {T:Nat} {fr:Nat×Nat} (h:w.heap[b]?=some (.cells cur T fr)):(Sort.putRow e w b 0 D).heap[b]?=some (.cells (Sort.putCells e 0 D cur) T fr):=by
 simp [Sort.putRow,Sort.mapBlock,Array.getElem?_modify,h,Sort.onCells]
theorem xP {e:γ->Value} {w:World} {b i:Nat} {D:Array γ} (h:i≠b):(Sort.putRow e w b 0 D).heap[i]?=w.heap[i]?:=by
 simp only [Sort.putRow,Sort.mapBlock,Array.getElem?_modify]
 rw [if_neg (fun e=>h e.symm)]
theorem Db {β:Jc} {l:List Ja} {O:Kr} {b n c T sz m:Nat} {css css':List (List Value)} {os:Array Obj} {e:γ->Value} {D:Array γ} (hi:Zt β (Ja.row (some ⟨b,0,none⟩) n c T sz css::l) O) (hF:D.toList.map e=css'.flatten) (hl:css'.length=n) (hw:∀ cs∈css',cs.length=sz) :
    Zt β (Ja.row (some ⟨b,0,none⟩) n c T sz css'::l) ⟨Sort.grow (Sort.putRow e (Sort.ahead O.w m) b 0 D) os,O.S⟩/\Sa O ⟨Sort.grow (Sort.putRow e (Sort.ahead O.w m) b 0 D) os,O.S⟩:=by
  have ho:=hi.own _ (mem_cons_self)
  obtain ⟨h1,h2,h3,h4,h5,cur,h6,h7,h8⟩:=ho
  have hD:D.size=n*sz:=by
    have:=congrArg List.length hF
    rw [length_map,fS hw,hl] at this
    simpa using this
  have hle:D.size<=cur.size:=by rw [hD,h7];exact Nat.mul_le_mul_right _ h4
  have t1:=hi.turn (r':=Ja.row (some ⟨b,0,none⟩) n c T sz css') (l1:=[]) (b:=b) (w':=Sort.putRow e (Sort.ahead O.w m) b 0 D) rfl rfl rfl (fun i hne=>xP hne) (by simp [Sort.putRow,Sort.mapBlock,Sort.ahead])
    ⟨h1,hl,hw,h4,h5,_,BX (w:=Sort.ahead O.w m) h6,by simpa [Sort.putCells] using h7,by rw [<- hD,yG e D cur hle,hF]⟩ rfl rfl rfl (by simp [Sort.putRow,Sort.mapBlock,Sort.ahead])
  have hh:=t1.1.own _ (mem_cons_self)
  have hb2:b<(Sort.putRow e (Sort.ahead O.w m) b 0 D).heap.size:=by
    have:=(t1.1.blk _ (mem_cons_self) b rfl).1;exact this
  have hold:∀ i,i<(Sort.putRow e (Sort.ahead O.w m) b 0 D).heap.size->(Sort.grow (Sort.putRow e (Sort.ahead O.w m) b 0 D) os).heap[i]?=(Sort.putRow e (Sort.ahead O.w m) b 0 D).heap[i]?:=fun i h=>by
    simp only [Sort.grow];rw [Array.getElem?_append_left h]
  have hh2:(Ja.row (some ⟨b,0,none⟩) n c T sz css').holds (Sort.grow (Sort.putRow e (Sort.ahead O.w m) b 0 D) os):=by
    have:(Sort.grow (Sort.putRow e (Sort.ahead O.w m) b 0 D) os).heap[b]?=(Sort.putRow e (Sort.ahead O.w m) b 0 D).heap[b]?:=hold b hb2
    unfold Ja.holds at hh ⊢
    show (Ja.row (some ⟨b,0,none⟩) n c T sz css').says (Sort.grow (Sort.putRow e (Sort.ahead O.w m) b 0 D) os).heap[b]?
    rw [this];exact hh
  obtain ⟨i3,k3⟩:=t1.1.grow (r':=Ja.row (some ⟨b,0,none⟩) n c T sz css') (w':=Sort.grow (Sort.putRow e (Sort.ahead O.w m) b 0 D) os) ⟨rfl,rfl,rfl,by simp [Sort.grow],fun i h _=>hold i h⟩ (.inr (.inl rfl)) hh2 (zS hh2) (le_refl _)
  exact ⟨i3,t1.2.trans k3⟩
end
theorem zi {α:Type} {lt:α->α->Bool} (l:List α):(us lt l).length=l.length:=qJ.length_eq
def uS (a b:Xh):Bool:=Op.bytesLess a.toList b.toList
theorem xQ (a b:Xh):uS a b=decide (a.data.toList<b.data.toList):=by
 unfold uS;rw [bytesLess_eq,ByteArray.toList_eq,ByteArray.toList_eq]
theorem D8 {O:Kr}:∀ {xs:List Xh} {dss:List (List Value)},Mb O (xs.map eS) dss->dss=xs.map fun s=>[.string s]
 | [],_,h=>h.nil_inv
 | x::xs,_,h=>by
  obtain ⟨d,ds,rfl,h1,h2⟩:=h.cons_inv
  obtain ⟨v,vs,rfl,h3,h4⟩:=h1.cons_inv
  rw [D8 h2,h4.nil_inv,h3.val];rfl
theorem xR {O:Kr}:∀ {xs:List Xh} {dss:List (List Value)},Mb O (xs.map eS) dss->∀ x∈xs,sM (.string x)=true
 | [],_,_=>by simp
 | x::xs,_,h=>by
  obtain ⟨d,ds,rfl,h1,h2⟩:=h.cons_inv
  obtain ⟨v,vs,rfl,h3,h4⟩:=h1.cons_inv
  intro y hy
  rcases List.mem_cons.1 hy with rfl | hy
  ·cases h3 with | v hq=>exact hq
  exact xR h2 y hy
theorem xS {O:Kr}:∀ {xs:List Xh},(∀ x∈xs,sM (.string x)=true)->Mb O (xs.map eS) (xs.map fun s=>[.string s])
 | [],_=>.nil
 | x::xs,h=>.cons (.cons (.v (h x (by simp))) .nil) (xS fun y hy=>h y (by simp [hy]))
theorem Ht (l:List Xh):(l.map fun s=>[Value.string s]).flatten=l.map Value.string:=by
 induction l with
 | nil=>rfl
 | cons x xs ih=>simp [ih]
def iO (l:List Xh):Option (List Xh):=some (us uS l)
theorem Dc (l:List Xh):(l.map fun s=>s.data.toList).mergeSort (fun x y=>decide (x<=y))=(us uS l).map fun s=>s.data.toList:=by
 have key:∀ x y:List UInt8,decide (x<=y) = !decide (y<x):=fun x y=>by
  rw [<- decide_not];exact decide_eq_decide.2 (by rw [List.not_lt])
 refine vO (lt:=fun x y=>decide (x<y)) (fun x y h1 h2=>?_) ?_ ?_ ?_
 ·have h1:=of_decide_eq_false h1;have h2:=of_decide_eq_false h2
  exact List.le_antisymm (List.not_lt.1 h2) (List.not_lt.1 h1)
 ·have h:=List.pairwise_mergeSort (le:=fun x y:List UInt8=>decide (x<=y)) (fun a b c h1 h2=>det (List.le_trans (of_decide_eq_true h1) (of_decide_eq_true h2))) (fun a b=>by
   rcases List.le_total a b with h | h
   ·simp [h]
   simp [h]) (l.map fun s=>s.data.toList)
  exact h.imp fun {a b} hab=>by rw [key] at hab;simpa using hab
 ·rw [List.pairwise_map]
  have h:=ut (lt:=uS) (fun x y z h1 h2=>by
   rw [xQ] at *;exact det (List.lt_trans (of_decide_eq_true h1) (of_decide_eq_true h2))) (fun x y z h1 h2=>by
   rw [xQ] at *;exact bz (List.not_lt.2 (List.le_trans (List.not_lt.1 (of_decide_eq_false h2)) (List.not_lt.1 (of_decide_eq_false h1))))) (fun x=>by rw [xQ];exact bz (List.lt_irrefl _)) l
  exact h.imp fun {a b} hab=>by rw [<- xQ];exact hab
 exact (List.mergeSort_perm _ _).trans (qJ.symm.map _)
theorem n5 {p0 r:List Xh} (h:iO p0=some r) {a:Option Addr} {n c:Nat}:La 202 [.v (.slice a n c)] [Qa.row a n c 9 1 (List.map eS p0)] (fun pv ρ'=>pv=.tup []/\ρ'=[Qa.row a n c 9 1 (List.map eS r)]):=fun O args ρ g ha hr=>by
 obtain rfl:=Option.some.inj h
 obtain ⟨v,ws,rfl,ha1,ha2⟩:=ha.cons_inv
 rw [ha2.nil_inv,ha1.val]
 obtain ⟨r0,l',rfl,hr1,hr2⟩:=hr.cons_inv
 have:=hr2.nil_inv;subst this
 refine ⟨(CG Tryz.func202 rfl),fun hi=>?_⟩
 cases hr1 with
 | row hb ho hc =>
  have hok:=xR hc
  have hd:=D8 hc;subst hd
  have how:=hi.own _ (mem_cons_self)
  cases a with
  | none =>
   obtain ⟨rfl,rfl,h3⟩:=how
   have hp:p0=[]:=List.map_eq_nil_iff.1 h3
   subst hp
   refine (Any.slices_Sort_string_none Tryz.lSs none 0 O.w).mono fun e w' ⟨h1,h2⟩=>?_
   subst h1 h2
   exact ⟨_,_,O,rfl,rfl,hi,.tup [],_,.tup .nil,.cons (.row hb ho (by exact .nil)) .nil,rfl,rfl⟩
  | some ad =>
   have how2:=how
   obtain ⟨h1,h2,h3,h4,h5,cur,h6,h7,h8⟩:=how
   obtain ⟨b,off,sp⟩:=ad
   injection h1 with h1a h1b h1c
   subst h1b h1c
   have hblk:b<O.w.heap.size:=(hi.blk _ (mem_cons_self) b rfl).1
   have hn:n=(p0.map fun s=>s.data.toList).length:=by rw [<- h2];simp
   have hH:Sort.Holds encStr O.w b 0 (p0.map fun s=>s.data.toList).toArray:=by
    intro j hj
    have hj2:j<p0.length:=by simpa using hj
    rw [Ht,mul_one] at h8
    have hj3:cur.toList[j]?=some (Value.string p0[j]):=by
     have e:=congrArg (fun l=>l[j]?) h8
     simp only [List.getElem?_take,List.getElem?_map] at e
     rw [if_pos (by rw [<- h2];simpa using hj2),List.getElem?_eq_getElem hj2] at e
     exact e
    have hj4:cur[j]?=some (Value.string p0[j]):=by rw [<- Array.getElem?_toList];exact hj3
    constructor
    ·simp only [World.cell?,h6,Option.isSome_none,Bool.false_eq_true,if_false,zero_add]
     rw [hj4]
     congr 1
     simp [getElem!_pos,hj2]
    simp [World.frozen?,h6]
   rw [hn]
   refine (Any.slices_Sort_string Tryz.lSs b 0 c _ O.w hH hblk (by rw [<- hn];unfold maxLen at h5;omega)).mono fun e w' ⟨k1,m,os,k2⟩=>?_
   subst k1 k2
   obtain ⟨i1,i2⟩:=Db (m:=m) (os:=os) (e:=encStr) (css':=(us uS p0).map fun s=>[Value.string s]) (D:=((p0.map fun s=>s.data.toList).mergeSort fun x y=>decide (x<=y)).toArray) hi (by
    rw [Dc]
    generalize us uS p0=q
    induction q with
    | nil=>rfl
    | cons x xs ih=>simp at ih ⊢;exact ih) (by rw [length_map,zi];rw [<- h2];simp) (by simp)
   exact ⟨_,_,⟨_,O.S⟩,rfl,rfl,i1,.tup [],_,.tup .nil,.cons (.row hb (by intro cs hcs;obtain ⟨q,_,rfl⟩:=List.mem_map.1 hcs;intro u hu;rw [List.mem_singleton.1 hu];rfl) (xS fun y hy=>hok y (qJ.mem_iff.1 hy))) .nil,rfl,by rw [<- hn]⟩
end SX
namespace SX
open Go
attribute [local irreducible] Wa Ka Vc Qb Na Ra Pa Vb Ub Nc Jb Uc Qd PF Yc La Lb dU dM ke kV ip jN Yd Ya aW bx app mk gd lb nz sN lC sub ff ji xi rE ja ex lJ eO IntKind.wrap Int.tmod Int.tdiv Op.bytesLess strOfNums
def pt (p0:(List Xh)) (p1:(List Xh)):Option (List Xh):=(dX [p0,p1]).bind fun x3=>(iO x3).bind fun x7=>(dG x7).bind fun x8=>some x8
theorem xU {p0:(List Xh)} {p1:(List Xh)} {r:(List Xh)}  (h:pt p0 p1=some r):PF 144 [pL eS p0,pL eS p1] (pL eS r):=by
 unfold pt at h
 refine aV ?_
 refine dk Tryz.func144 rfl Tryz.ntmps144 Tryz.results144 rfl (aQ [4] (by kernel_rfl) (br (fC 2 [(6,pL eS p0),(7,pL eS p1)] (by kernel_rfl) (aj rfl (bp rfl rfl rfl rfl rfl (eE rfl (eE rfl jy)) rfl rfl rfl rfl (fun b1=>?_))))))
 refine dw (enc:=(eL eS)) (xs:=[p0,p1]) 8 rfl (by exact aN) ?_
 refine ae h fun x3 hx3 h=>?_
 refine aj rfl (aI rfl rfl (ρ1:=[]) Vh (nh hx3) ?_);rintro _ _ ⟨a4,c5,rfl,rfl⟩
 refine aE [(5,pO a4 x3.length c5)] (by kernel_rfl) (cP h fun x7 hx7 h=>fC 1 [(10,pO a4 x3.length c5)] (by kernel_rfl) ?_)
 refine aj rfl (aI rfl rfl (ρ1:=[_]) (aq (by exact aN) Vh) (n5 hx7) ?_);rintro _ _ ⟨rfl,rfl⟩
 refine au (cP h fun x8 hx8 h=>fC 1 [(12,pO a4 x3.length c5)] (by kernel_rfl) ?_)
 refine aj rfl (aI rfl rfl (ρ1:=[_]) (aq (by exact aN) Vh) (mT hx8) ?_);rintro _ _ ⟨a9,c10,rfl,rfl⟩
 refine aE [(4,pO a9 x8.length c10)] (by kernel_rfl) (aD ?_)
 refine fj (enc:=eS) (xs:=x8) 4 rfl (by exact aN) ?_
 refine bi ?_
 exact zz r h rfl
def dQ (p0:Zu):Option (List Xh):=(pt p0.Words [(⟨#[112,97,114,116,115]⟩:Xh)]).bind fun x4=>some x4
theorem kj {p0:Zu} {r:(List Xh)}  (h:dQ p0=some r):PF 93 [.agg [pL eS p0.Words,pL Zf.enc p0.Materials,pL Zb.enc p0.Parts,pB p0.Incomplete]] (pL eS r):=by
 unfold dQ at h
 refine aV ?_
 refine dk Tryz.func93 rfl Tryz.ntmps93 Tryz.results93 rfl (cL rfl (be (cs:=[pL eS p0.Words,pL Zf.enc p0.Materials,pL Zb.enc p0.Parts,pB p0.Incomplete]) rfl rfl (fun b1=>aZ [2] (by kernel_rfl) (br (ak (bH 2 [0] [3] [(4,pL eS p0.Words)] (by kernel_rfl) (aj rfl (bp rfl rfl rfl rfl rfl (eE rfl jy) rfl rfl rfl rfl (fun b2=>?_)))))))))
 refine dw (enc:=eS) (xs:=[(⟨#[112,97,114,116,115]⟩:Xh)]) 5 rfl (by exact aN) ?_
 refine ae h fun x4 hx4 h=>dh [] [6] [(2,pL eS x4)] (aU 0 (xU hx4) aY) (by kernel_rfl) (cK ?_)
 exact zz r h rfl
def fL (p0:Zl):Option (List Za):=cond (!p0.good.Incomplete) ((gJ p0.book p0.entries p0.good.Words).bind fun x3=>some x3) ((dQ p0.good).bind fun x4=>(ep p0.entries (fun y6=>eX y6 p0 x4)).bind fun x7=>some x7)
theorem o7 {p0:Zl} {r:(List Za)}  (h:fL p0=some r):PF 86 [.agg (bv p0)] (pL Za.enc r):=by
 unfold fL at h
 refine aV ?_
 refine dk Tryz.func86 rfl Tryz.ntmps86 Tryz.results86 rfl (cL rfl (be (cs:=(bv p0)) rfl rfl (fun b1=>aZ [2] (by kernel_rfl) (bM (aK [0] [4,5,6] [(7,pB (!p0.good.Incomplete))] (by kernel_rfl) (fi rfl h (fun hc2 h=>?_) fun hc2 h=>?_))))))
 ·refine ag ?_
  refine ae h fun x3 hx3 h=>ai [0,0,0] (rg 8 8) [(2,pL Za.enc x3)] (aU 7 (lM hx3) aY) (by kernel_rfl) (sO ?_)
  exact zz r h rfl
 refine af ?_
 refine cP h fun x4 hx4 h=>cS 3 [0] [16,17] [(18,pL eS x4)] (aU 2 (kj hx4) aY) (by kernel_rfl) (aj rfl (aP (cs:=[pN]) rfl rfl rfl rfl (fun b5=>aM rfl rfl (al (vs:=[pL eS x4]) rfl rfl rfl rfl rfl bT ii (au (br (ak (bH 2 [1] [19] [(20,pL Za.enc p0.entries)] (by kernel_rfl) ?_))))))))
 refine jj 1 rfl (by exact aC aN) ?_
 refine jj 3 rfl (by exact aC aN) ?_
 refine ae h fun x7 hx7 h=>dh [] [21,22] [(2,pL Za.enc x7)] (aU 1 (ij (fun hr=>gY (oh hr)) hx7) aY) (by kernel_rfl) (cK ?_)
 exact zz r h rfl
def j0 (p0:Zh) (p1:Zu) (p2:Int) (p3:(List Za)):Option (Int×Za):=cond ((p3.length:Int) == 0) (some ((0:Int),(⟨Uh,0,0,[],false⟩:Za))) (cond ((((p3.length:Int) == 1)||(p2 == 7))||(p2 == 8)) ((bx p3 (i64.wrap ((p3.length:Int) - 1))).bind fun m6=>(gw m6).bind fun x7=>some (p2,x7)) (Option.bind (α:=((List Za))⊕_) (cond ((p2 == 1)||(p2 == 2)) (Option.bind (cond (p1.Incomplete&&(p2 == 1)) ((dQ p1).bind fun x14=>some x14) (some p1.Words)) (fun l11=>(f8 p0 p3 l11).bind fun x15=>cond ((x15.length:Int) == 1) ((bx x15 0).bind fun m17=>(gw m17).bind fun x18=>some (.inr ((4:Int),x18))) (some (.inl x15)))) (some (.inl p3))) (fun q=>match q with | .inl l8=>(ik p1).bind (fun x19=>(aW (S:=Int) (T:=((List Za))⊕(_)) (fun v20=>cond (decide (v20<(x19.length:Int))) ((bx x19 v20).bind fun m25=>(gJ p0 l8 m25.Words).bind fun x27=>cond ((x27.length:Int) == 1) ((bx x27 0).bind fun m29=>(gw m29).bind fun x30=>some (.inr (.inr ((5:Int),x30)))) (cond (decide (1<(x27.length:Int))) (some (.inr (.inl x27))) (some (.inl (i64.wrap (v20+1)))))) (some (.inr (.inl l8)))) Va 0).bind fun q=>match q with | .inl l21=>(bx l21 (i64.wrap ((l21.length:Int) - 1))).bind (fun m32=>(gw m32).bind fun x33=>some ((6:Int),x33)) | .inr e=>some e) | .inr e=>some e)))
theorem tR {p0:Zh} {p1:Zu} {p2:Int} {p3:(List Za)} {r:(Int×Za)}  (h:j0 p0 p1 p2 p3=some r):PF 47 [.agg [pL Za.enc p0.Entries,pL Ze.enc p0.Notes],.agg [pL eS p1.Words,pL Zf.enc p1.Materials,pL Zb.enc p1.Parts,pB p1.Incomplete],pI p2,pL Za.enc p3] (.tup [pI r.1,.agg (av r.2)]):=by
 unfold j0 at h
 refine aV ?_
 refine dk Tryz.func47 rfl Tryz.ntmps47 Tryz.results47 rfl (cL rfl (be (cs:=[pL Za.enc p0.Entries,pL Ze.enc p0.Notes]) rfl rfl (fun b1=>aj rfl (be (cs:=[pL eS p1.Words,pL Zf.enc p1.Materials,pL Zb.enc p1.Parts,pB p1.Incomplete]) rfl rfl (fun b2=>Ho 1 [8] (by kernel_rfl) (aj rfl (aP (cs:=[pS Uh,pI 0,pI 0,pN,pB false]) rfl rfl rfl rfl (fun b3=>au (bM (bF [14,15] [(16,pB ((p3.length:Int) == 0))] (by kernel_rfl) rfl h (fun hc4 h=>?_) fun hc4 h=>?_))))))))))
 ·refine ag ?_
  refine fC 2 [(17,.agg [pS Uh,pI 0,pI 0,pN,pB false]),(8,pI 0)] (by kernel_rfl) (aM rfl rfl (al (vs:=[pS Uh,pI 0,pI 0,pN,pB false]) rfl rfl rfl rfl rfl bT td (au (aD (eW (k:=3) (b:=b3) rfl bT (bi (bc ?_)))))))
  obtain rfl:=osi h
  exact aH (bK (az rfl) (di rfl eG rfl)) bq ⟨rfl,rfl⟩
 refine af ?_
 refine bM (bF (rg 18 10) [(28,pB ((((p3.length:Int) == 1)||(p2 == 7))||(p2 == 8)))] (by kernel_rfl) rfl h (fun hc5 h=>?_) fun hc5 h=>?_)
 ·refine ag ?_
  refine ae h fun m6 hm6 h=>ae h fun x7 hx7 h=>cS 9 [] (rg 29 7) [(36,.agg (av x7)),(8,pI p2)] (bX 5 Za.enc hm6 (aU 7 (kh hx7) aY)) (by kernel_rfl) (aM rfl rfl (al (vs:=(av x7)) rfl rfl rfl rfl rfl bT td (au (sO ?_))))
  obtain rfl:=osi h
  exact aH (bK (az rfl) (di rfl eG rfl)) bq ⟨rfl,rfl⟩
 refine af ?_
 refine bM (ah (rg 37 5) [(42,pB ((p2 == 1)||(p2 == 2)))] (by kernel_rfl) (ey h fun q9 hq9 h=>?_))
 refine ap (Y:=Unit×((List Za))) (fun (_,l8)=>[(3,pL Za.enc l8),(4,pP b1 0),(5,pP b2 0),(9,pP b3 0)]) (fun (_,l8)=>[Qa.b b1 26 [pL Za.enc p0.Entries,pL Ze.enc p0.Notes],Qa.b b2 32 [pL eS p1.Words,pL Zf.enc p1.Materials,pL Zb.enc p1.Parts,pB p1.Incomplete],Qa.b b3 95 [pS Uh,pI 0,pI 0,pN,pB false]]) (fun (_,l8)=>q9=Sum.inl l8) ?_ ?_
 ·skip
  refine fh rfl hq9 (fun hc10 hq9=>?_) fun hc10 hq9=>?_
  ·refine ag ?_
   refine aK [1] [43,44] [(10,pL eS p1.Words)] (by kernel_rfl) (bM (aK [1] (rg 45 5) [(50,pB (p1.Incomplete&&(p2 == 1)))] (by kernel_rfl) (ey hq9 fun q12 hq12 hq9=>?_)))
   refine ap (Y:=Unit×((List Xh))) (fun (_,l11)=>[(3,pL Za.enc p3),(4,pP b1 0),(5,pP b2 0),(9,pP b3 0),(10,pL eS l11)]) (fun (_,l11)=>[Qa.b b1 26 [pL Za.enc p0.Entries,pL Ze.enc p0.Notes],Qa.b b2 32 [pL eS p1.Words,pL Zf.enc p1.Materials,pL Zb.enc p1.Parts,pB p1.Incomplete],Qa.b b3 95 [pS Uh,pI 0,pI 0,pN,pB false]]) (fun (_,l11)=>q12=l11) ?_ ?_
   ·skip
    refine fh rfl hq12 (fun hc13 hq12=>?_) fun hc13 hq12=>?_
    ·refine ae hq12 ?_;clear hq12;intro x14 hx14 hq12
     refine ai [1] [51,52] [(10,pL eS x14)] (aU 1 (kj hx14) aY) (by kernel_rfl) ?_
     obtain rfl:=osi hq12
     exact am ((),x14) (gA rfl) (bg (aC (aC aN)) (bg (aC aN) bN)) rfl
    refine af ?_
    obtain rfl:=osi hq12
    exact am ((),p1.Words) (gA rfl) (bg (aC (aC aN)) (bg (aC aN) bN)) rfl
   rintro ⟨_,l11⟩ τ hz;(try dsimp only at hz);subst q12;(try dsimp only at hq9);dsimp only [aw]
   refine ag (ae hq9 fun x15 hx15 hq9=>ai [0] [53,54,55,56] [(3,pL Za.enc x15)] (aU 3 (pH hx15) aY) (by kernel_rfl) (br (bF [57,58] [(59,pB ((x15.length:Int) == 1))] (by kernel_rfl) rfl hq9 (fun hc16 hq9=>?_) fun hc16 hq9=>?_)))
   ·refine ag ?_
    refine ae hq9 fun m17 hm17 hq9=>ae hq9 fun x18 hx18 hq9=>cS 5 [] [60,61,62] [(63,.agg (av x18)),(8,pI 4)] (bX 1 Za.enc hm17 (aU 3 (kh hx18) aY)) (by kernel_rfl) (aM rfl rfl (al (vs:=(av x18)) rfl rfl rfl rfl rfl (cE (cE bT)) td (au (cK (aS ?_)))))
    obtain rfl:=osi hq9
    obtain rfl:=osi h
    exact aH (bK (az rfl) (di rfl uR rfl)) bq ⟨rfl,rfl⟩
   refine af ?_
   obtain rfl:=osi hq9
   exact am ((),x15) (jC rfl) rI rfl
  refine af ?_
  obtain rfl:=osi hq9
  exact am ((),p3) (jC rfl) (bg (aC (aC aN)) (bg (aC aN) bN)) rfl
 rintro ⟨_,l8⟩ τ hz;(try dsimp only at hz);subst q9;(try dsimp only at h);dsimp only [aw]
 refine dV (ae h fun x19 hx19 h=>ai [1] [64] [(65,pL Zb.enc x19),(66,pI (x19.length:Int)),(67,pI 0)] (aU 1 (n8 hx19) aY) (by kernel_rfl) (ey h fun q23 hq23 h=>?_))
 refine ap (Y:=Unit×((List Za))) (fun (_,l21)=>[(3,pL Za.enc l21),(9,pP b3 0)]) (fun (_,l21)=>[Qa.b b3 95 [pS Uh,pI 0,pI 0,pN,pB false]]) (fun (_,l21)=>q23=Sum.inl l21) ?_ ?_
 ·refine aG ?_
  refine aJ (Y:=Unit) (S:=Int) _ hq23 (fun _ v20=>[(3,pL Za.enc l8),(4,pP b1 0),(9,pP b3 0),(65,pL Zb.enc x19),(66,pI (x19.length:Int)),(67,pI v20)]) (fun _ v20=>[Qa.b b1 26 [pL Za.enc p0.Entries,pL Ze.enc p0.Notes],Qa.b b3 95 [pS Uh,pI 0,pI 0,pN,pB false]]) () (o3 rfl) (bg aN (bg (aC aN) bq)) ?_
  rintro _ v20 o τ hb22;(try dsimp only at hb22);dsimp only [aw]
  refine cH [(68,pB (decide (v20<(x19.length:Int))))] (by kernel_rfl) (br (fh rfl hb22 (fun hc24 hb22=>?_) fun hc24 hb22=>?_))
  ·refine af ?_
   refine eT (ae hb22 fun m25 hm25 hb22=>cS 2 [] [69] [(70,.agg [pL eS m25.Words,pI m25.Share])] (bX 0 Zb.enc hm25 aY) (by kernel_rfl) (aj rfl (aP (cs:=[pN,pI 0]) rfl rfl rfl rfl (fun b26=>aM rfl rfl (al (vs:=[pL eS m25.Words,pI m25.Share]) rfl rfl rfl rfl rfl bT pV (au (cP hb22 fun x27 hx27 hb22=>ai [1,0] (rg 71 5) [(13,pL Za.enc x27)] (aU 4 (lM hx27) aY) (by kernel_rfl) (bM (bF [76,77] [(78,pB ((x27.length:Int) == 1))] (by kernel_rfl) rfl hb22 (fun hc28 hb22=>?_) fun hc28 hb22=>?_)))))))))
   ·refine ag ?_
    refine ae hb22 fun m29 hm29 hb22=>ae hb22 fun x30 hx30 hb22=>cS 5 [] [79,80,81] [(82,.agg (av x30)),(8,pI 5)] (bX 1 Za.enc hm29 (aU 3 (kh hx30) aY)) (by kernel_rfl) (aM rfl rfl (al (vs:=(av x30)) rfl rfl rfl rfl rfl (cE (cE bT)) td (au (sO (iq ?_)))))
    refine aX hb22 (fun ht=>?_);subst ht
    refine aO (aS ?_)
    obtain rfl:=osi h
    exact aH (bK (az rfl) (di rfl uR rfl)) bq ⟨rfl,rfl⟩
   refine af ?_
   refine br (bF [83,84] [(85,pB (decide (1<(x27.length:Int))))] (by kernel_rfl) rfl hb22 (fun hc31 hb22=>?_) fun hc31 hb22=>?_)
   ·refine ag ?_
    refine ah [86] [(3,pL Za.enc x27)] (by kernel_rfl) (aD (aL (du rfl (cJ hb22 (fun ht=>an rfl ?_)))))
    exact am ((),x27) (lK rfl) (bg (aC (aC aN)) bq) ht.symm
   refine af ?_
   refine eH (ah [87] [(67,pI (i64.wrap (v20+1)))] (by kernel_rfl) ?_)
   exact aT hb22 () (o3 rfl) (bg (aC aN) (bg (aC aN) bq))
  refine aL ?_
  refine cJ hb22 (fun ht=>an rfl ?_)
  exact am ((),l8) (lK rfl) (bg (aC aN) bq) ht.symm
 rintro ⟨_,l21⟩ τ hz;(try dsimp only at hz);subst q23;(try dsimp only at h);dsimp only [aw]
 refine ag (ae h fun m32 hm32 h=>ae h fun x33 hx33 h=>cS 8 [] (rg 88 6) [(94,.agg (av x33)),(8,pI 6)] (bX 4 Za.enc hm32 (aU 6 (kh hx33) aY)) (by kernel_rfl) (aM rfl rfl (al (vs:=(av x33)) rfl rfl rfl rfl rfl bT td (au (cK ?_)))))
 obtain rfl:=osi h
 exact aH (bK (az rfl) (di rfl eG rfl)) bq ⟨rfl,rfl⟩
end SX
namespace SX
open Go
def cpy {α:Type} (xs ys:List α):Option (List α):=cond (Nat.beq ys.length xs.length&&Nat.blt 0 xs.length) (some ys) none
theorem zj:∀ {css:List (List Value)},(∀ cs∈css,cs.length=1)->∃ vs:List Value,css=vs.map fun v=>[v]
 | [],_=>⟨[],rfl⟩
 | cs::css,h=>by
  obtain ⟨vs,rfl⟩:=zj (css:=css) fun x hx=>h x (by simp [hx])
  have:=h cs (by simp)
  match cs,this with
  | [v],_=>exact ⟨v::vs,rfl⟩
theorem Fd (vs:List Value):(vs.map fun v=>[v]).flatten=vs:=by
 induction vs with
 | nil=>rfl
 | cons v vs ih=>rw [map_cons,List.flatten_cons,ih];rfl
theorem pl_copy {α:Type} {enc:α->List PV} {xs ys zs:List α} {o:Oper} {Z:Xa} {ρ ρ':List Qa} {K:PV->List Qa->Prop} {x y:Operand} {t t2 E T n m c by':Nat} {a:Option Addr} {z:Value} (ho:o.op=.call { callee:=.builtin .copy,args:=#[x,y],argTypes:=#[t,t2] }) (hu:fQ t=some (.slice E)) (hi:iE E=some (z,1,by')) (hx:bt Z x=.v (.slice a n c)) (hy:bt Z y=.slc m (ys.map enc)) (hw1:∀ m,Nat.beq (enc m).length 1=true) (hm:cpy xs ys=some zs) (hp:Nc ρ (.row a n c T 1 (xs.map enc)) (.row a n c T 1 (zs.map enc)) ρ') (h:K (.v (.int .i64 (zs.length:Int))) ρ'):Qb o Z ρ K:=fun O Z' rr g hs hr β hinv Nx hkk=>by
 unfold cpy at hm
 cases hq:(Nat.beq ys.length xs.length&&Nat.blt 0 xs.length) with
 | false=>rw [hq] at hm;cases hm
 | true =>
  rw [hq,cQ] at hm
  obtain rfl:=Option.some.inj hm
  rw [and_eq_true] at hq
  have hl1:=eq_of_beq_eq_true hq.1
  have hl0:0<xs.length:=by have:=Nat.le_of_ble_eq_true hq.2;omega
  obtain ⟨r0,l1,l2,rfl,h4,h5⟩:=hr.upd hp
  cases h4 with
  | row hb ho1 hc =>
   rename_i dss
   have hw:=hinv.own (Ja.row a n c T 1 dss) (by simp)
   have hdl:dss.length=n:=(im hw).2.1
   have hxl:xs.length=n:=by have e:=hc.len;rw [length_map] at e;omega
   have e1:ev Z' x=_:=hs.v1 hx
   have e2:Rp O (.slc m (ys.map enc)) (ev Z' y):=by have:=hs.ev y;rwa [hy] at this
   generalize hv:ev Z' y=v2 at e2
   cases e2 with
   | slc hsl hb2 ho2 hss =>
    rename_i a2 cp sz' css
    have hml:css.length=m:=hsl.len
    have hyl:ys.length=css.length:=by have:=hss.len;rw [length_map] at this;exact this
    have hcs1:∀ cs∈css,cs.length=1:=fun cs hcs=>by
     obtain ⟨j,hj,rfl⟩:=List.getElem_of_mem hcs
     obtain ⟨d,hd1,hd2⟩:=hss.get (k:=j) (p:=enc (ys[j]'(by omega))) (by rw [List.getElem?_map,List.getElem?_eq_getElem (by omega)];rfl)
     rw [List.getElem?_eq_getElem hj] at hd1
     obtain rfl:=Option.some.inj hd1
     have:=hd2.len
     have:=eq_of_beq_eq_true (hw1 (ys[j]'(by omega)))
     omega
    obtain ⟨vs,rfl⟩:=zj hcs1
    have hvl:vs.length=n:=by rw [length_map] at hyl;omega
    obtain ⟨b2,off2,rfl,hat⟩:=hsl.at_ (by rw [length_map] at hml;omega)
    have hsz':sz'=1:=by
     have h0:0<vs.length:=by omega
     have:=hsl.wid [vs[0]] (List.mem_map.2 ⟨vs[0],List.getElem_mem _,rfl⟩)
     exact this.symm
    subst hsz'
    have ha:=nD hw (by omega)
    generalize uf a=B at ha
    subst ha
    have hsrc:∀ j v,vs[j]?=some v->O.w.cell? ((⟨b2,off2,none⟩:Addr).add j)=some v:=fun j v hj=>by
     have:=(hat j [v] (by rw [List.getElem?_map,hj];rfl)).2 0 v rfl
     rw [iU]
     rw [mul_one,Nat.add_zero] at this
     exact this
    obtain ⟨g0,g1,g2,g3,g4,cur,g5,g6,g7⟩:=hw
    obtain ⟨i,hi0,_,hi2,_⟩:=o9 hi
    have hov:∀ v∈vs,v.oneCell'=true:=fun v hv=>ho2 [v] (List.mem_map.2 ⟨v,hv,rfl⟩) v (by simp)
    have hmn:m=n:=by rw [length_map] at hml;omega
    have hrun0:=run_copy_row Tryz.prog O.w t t2 0 E B 0 n c ⟨b2,off2,none⟩ m cp cur T vs (bD hu) (by rw [hi0];simpa using hi2) g5 (by rw [hmn,hvl];simp) hsrc (by rw [g6,hvl];omega) hov
    have hrun:(execOp (ev Z') o).run Tryz.prog O.w=.ok (.value (.int .i64 (ys.length:Int))) (O.w.setRow B (cur.toList.take 0++vs++cur.toList.drop (0+vs.length)).toArray):=by
     have e3:∀ ty,(Builtin.copy_ #[t,t2] ty #[.slice (some ⟨B,0,none⟩) n c,.slice (some ⟨b2,off2,none⟩) m cp]).run Tryz.prog O.w=_:=fun ty=>run_copy_row Tryz.prog O.w t t2 ty E B 0 n c ⟨b2,off2,none⟩ m cp cur T vs (bD hu) (by rw [hi0];simpa using hi2) g5 (by rw [hmn,hvl];simp) hsrc (by rw [g6,hvl];omega) hov
     unfold execOp
     simp only [ho,resolve,Sem.run_bind,Sem.run_pure,Result.andThen_ok,invoke,builtin,map_toArray,Array.map,e1]
     simp [e1,hv,e3,goInt]
     omega
    rw [hrun]
    have hBlt:B<O.w.heap.size:=(hinv.blk _ (List.mem_append.2 (.inr mem_cons_self)) B rfl).1
    obtain ⟨i1,i2⟩:=hinv.turn (r':=Ja.row (some ⟨B,0,none⟩) n c T 1 (vs.map fun v=>[v])) (w':=O.w.setRow B (cur.toList.take 0++vs++cur.toList.drop (0+vs.length)).toArray) rfl rfl rfl (fun i hi=>by
     unfold World.setRow;simp only [Array.getElem?_modify];rw [if_neg (fun e=>hi e.symm)]) (by unfold World.setRow;simp) (by
     refine ⟨rfl,by simp [hvl],fun d hd=>by obtain ⟨v,_,rfl⟩:=List.mem_map.1 hd;rfl,g3,g4,(cur.toList.take 0++vs++cur.toList.drop (0+vs.length)).toArray,?_,?_,?_⟩
     ·unfold World.setRow
      simp only [Array.getElem?_modify,if_true,g5,Option.map_some]
     ·simp [g6,hvl];omega
     rw [Fd];simp [hvl]) rfl rfl rfl (le_refl _)
    exact hkk _ _ _ i1 i2 ⟨.v (.int .i64 (ys.length:Int)),ρ',.v rfl,h5 _ _ i2 (.row hb (fun d hd=>by obtain ⟨v,hv,rfl⟩:=List.mem_map.1 hd;intro u hu;rw [List.mem_singleton.1 hu];exact hov v hv) (hss.mono i2)),h⟩
end SX
namespace SX
open Go
attribute [local irreducible] Wa Ka Vc Qb Na Ra Pa Vb Ub Nc Jb Uc Qd PF Yc La Lb dU dM ke kV ip jN Yd Ya aW bx app mk gd lb nz sN lC sub ff ji xi rE ja ex lJ eO IntKind.wrap Int.tmod Int.tdiv Op.bytesLess strOfNums
def nl (p0:(List Zo)) (p1:Zy):Option ((List Int)×Int):=(lN p1).bind fun x2=>cond (x2 != 0) (some ([],x2)) ((mk 8 (0:Int) (p1.Lines.length:Int)).bind fun l4=>(mk 8 (0:Int) (p1.Lines.length:Int)).bind fun l7=>(aW (S:=Int×(List Int)×(List Int)×Int) (T:=(Int×(List Int)×(List Int))) (fun (v10,l12,l14,v15)=>cond (decide (v15<(p1.Lines.length:Int))) ((bx p1.Lines v15).bind fun m24=>(bx l12 v15).bind fun m30=>(bx l14 v15).bind fun m32=>some (.inl ((i64.wrap (v10+m24.Price)),(l12.set v15.toNat m24.Price),(l14.set v15.toNat m24.Weight),(i64.wrap (v15+1))))) (some (.inr (v10,l12,l14)))) Va (0,l4,l7,0)).bind fun (v16,l18,l20)=>cond (decide (1000000000000<v16)) (some ([],(3:Int))) ((kR p0 v16 p1.Currency p1.Day 2).bind fun x35=>cond (x35.2 != 0) (some ([],x35.2)) ((gO x35.1 l18).bind fun x37=>cond (x37.2 != 0) (some ([],x37.2)) ((mk 8 (0:Int) (p1.Lines.length:Int)).bind fun l39=>(cpy l39 x37.1).bind fun l42=>(aW (S:=Int) (T:=(Unit)⊕(_)) (fun v43=>cond (decide (v43<(p1.Charges.length:Int))) ((bx p1.Charges v43).bind fun m48=>cond (m48.Kind == 9) (some (.inl (i64.wrap (v43+1)))) ((kR p0 m48.Amount m48.Currency p1.Day 2).bind fun x51=>cond (x51.2 != 0) (some (.inr (.inr ([],x51.2)))) (none))) (some (.inr (.inl ())))) Va 0).bind fun q=>match q with | .inl _=>(ka l42).bind (fun x53=>cond (x53 != 0) (some ([],x53)) (some (l42,(0:Int)))) | .inr e=>some e))))
theorem sT {p0:(List Zo)} {p1:Zy} {r:((List Int)×Int)}  (h:nl p0 p1=some r):PF 56 [pL Zo.enc p0,.agg [pS p1.Currency,pI p1.Day,pL Zr.enc p1.Lines,pL Zp.enc p1.Charges]] (.tup [pL eI r.1,pI r.2]):=by
 unfold nl at h
 refine aV ?_
 refine dk Tryz.func56 rfl Tryz.ntmps56 Tryz.results56 rfl (cL rfl (be (cs:=[pS p1.Currency,pI p1.Day,pL Zr.enc p1.Lines,pL Zp.enc p1.Charges]) rfl rfl (fun b1=>aZ [4,5] (by kernel_rfl) (bM (ae h fun x2 hx2 h=>ai [0] [22,23] [(6,pI x2)] (aU 1 (rn hx2) aY) (by kernel_rfl) (br (bF [24] [(25,pB (x2 != 0))] (by kernel_rfl) rfl h (fun hc3 h=>?_) fun hc3 h=>?_)))))))
 ·refine ag ?_
  refine ah [26] [(4,pN),(5,pI x2)] (by kernel_rfl) (aD (gB 4 rfl (bi (bc ?_))))
  obtain rfl:=osi h
  exact aH (bK (az rfl) (az rfl)) bq ⟨rfl,rfl⟩
 refine af ?_
 refine br (aA [(7,pI 0)] (by kernel_rfl) (cP h fun l4 hl4 h=>ak (bH 3 [0] [27,28] [(29,pI (p1.Lines.length:Int))] (by kernel_rfl) (aj rfl (ue (enc:=eI) rfl rfl rfl rfl rfl rfl rfl rfl rfl hl4 (fun b5=>aE [(8,pO (some ⟨b5,0,none⟩) l4.length l4.length)] (by kernel_rfl) (cP h fun l7 hl7 h=>ak (bH 3 [1] [31,32] [(33,pI (p1.Lines.length:Int))] (by kernel_rfl) (aj rfl (ue (enc:=eI) rfl rfl rfl rfl rfl rfl rfl rfl rfl hl7 (fun b8=>aE [(9,pO (some ⟨b8,0,none⟩) l7.length l7.length)] (by kernel_rfl) (bM (aK [2] [35] [(36,pL Zr.enc p1.Lines),(37,pI (p1.Lines.length:Int)),(38,pI 0)] (by kernel_rfl) (ey h fun q22 hq22 h=>?_))))))))))))))
 refine ap (Y:=Unit×(Int×(List Int)×(List Int))) (fun (_,(v16,l18,l20))=>[(0,pL Zo.enc p0),(3,pP b1 0),(7,pI v16),(8,pO (some ⟨b5,0,none⟩) l4.length l4.length),(9,pO (some ⟨b8,0,none⟩) l7.length l7.length)]) (fun (_,(v16,l18,l20))=>[Qa.b b1 143 [pS p1.Currency,pI p1.Day,pL Zr.enc p1.Lines,pL Zp.enc p1.Charges],Qa.row (some ⟨b5,0,none⟩) l4.length l4.length 3 1 (List.map eI l18),Qa.row (some ⟨b8,0,none⟩) l7.length l7.length 3 1 (List.map eI l20)]) (fun (_,(v16,l18,l20))=>q22=(v16,l18,l20)) ?_ ?_
 ·refine aG ?_
  refine aJ (Y:=Unit) (S:=Int×(List Int)×(List Int)×Int) _ hq22 (fun _ (v10,l12,l14,v15)=>[(0,pL Zo.enc p0),(3,pP b1 0),(7,pI v10),(8,pO (some ⟨b5,0,none⟩) l4.length l4.length),(9,pO (some ⟨b8,0,none⟩) l7.length l7.length),(36,pL Zr.enc p1.Lines),(37,pI (p1.Lines.length:Int)),(38,pI v15)]) (fun _ (v10,l12,l14,v15)=>[Qa.b b1 143 [pS p1.Currency,pI p1.Day,pL Zr.enc p1.Lines,pL Zp.enc p1.Charges],Qa.row (some ⟨b5,0,none⟩) l4.length l4.length 3 1 (List.map eI l12),Qa.row (some ⟨b8,0,none⟩) l7.length l7.length 3 1 (List.map eI l14)]) () (Iq rfl) (bg (aC (aC aN)) (bg (aC aN) bN)) ?_
  rintro _ ⟨v10,l12,l14,v15⟩ o τ hb21;(try dsimp only at hb21);dsimp only [aw]
  refine cH [(39,pB (decide (v15<(p1.Lines.length:Int))))] (by kernel_rfl) (br (fh rfl hb21 (fun hc23 hb21=>?_) fun hc23 hb21=>?_))
  ·refine af ?_
   refine eT (ae hb21 fun m24 hm24 hb21=>cS 3 [] [41] [(40,pI v15),(42,.agg [pI m24.Price,pI m24.Weight])] (bX 1 Zr.enc hm24 aY) (by kernel_rfl) (aj rfl (aP (cs:=[pI 0,pI 0]) rfl rfl rfl rfl (fun b25=>ba 1 [(10,pI v15)] (by kernel_rfl) (aM rfl rfl (al (vs:=[pI m24.Price,pI m24.Weight]) rfl rfl rfl rfl rfl bT pV (au (br (aK [0] [43,44,45,46] [(7,pI (i64.wrap (v10+m24.Price)))] (by kernel_rfl) (aD (dR (enc:=eI) (xs:=l12) (a:=(some ⟨b5,0,none⟩)) uR (fun hl26 ha27=>dR (enc:=eI) (xs:=l14) (a:=(some ⟨b8,0,none⟩)) zm3 (fun hl28 ha29=>bE (ρd:=[Qa.row (some ⟨b5,0,none⟩) _ _ _ _ _,Qa.row (some ⟨b8,0,none⟩) _ _ _ _ _]) [(0,0),(1,0),(2,0),(3,0),(4,0),(5,0),(6,0),(7,0),(8,0),(9,1),(10,0),(11,1)] _ (aq (aC (aC aN)) (aq (aC (aC aN)) Vh)) (by kernel_rfl) rfl (ae hb21 fun m30 hm30 hb21=>BQ 8 [0,0] [51,53] [(47,pO (some ⟨b5,0,none⟩) l4.length l4.length),(48,pI v15),(49,pO (some ⟨b8,0,none⟩) l7.length l7.length),(50,pI v15),(52,pI m24.Price),(54,pI m24.Weight)] (by kernel_rfl) ?_))))))))))))))
   refine lW rfl rfl rfl (j7 (xs:=l12) (by first | exact hl26 | rfl | (simp only [length_set];exact hl26) | simp only [length_set]) ha27 rfl rfl rfl (.p rfl) (.p rfl) (fun _=>hm30)) ?_
   refine rG rfl rfl (jb (enc:=eI) (xs:=l12) (a:=(some ⟨b5,0,none⟩)) v15 0 m30 m24.Price rfl rfl rfl rfl (fun _=>rfl) rfl rfl hm30 ii bT (ae hb21 fun m32 hm32 hb21=>?_))
   refine lW rfl rfl rfl (j7 (xs:=l14) (by first | exact hl28 | rfl | (simp only [length_set];exact hl28) | simp only [length_set]) ha29 rfl rfl rfl (.p rfl) (.p rfl) (fun _=>hm32)) ?_
   refine rG rfl rfl (jb (enc:=eI) (xs:=l14) (a:=(some ⟨b8,0,none⟩)) v15 0 m32 m24.Weight rfl rfl rfl rfl (fun _=>rfl) rfl rfl hm32 ii (cE bT) (bZ (eH (ah [57] [(38,pI (i64.wrap (v15+1)))] (by kernel_rfl) ?_))))
   exact aT hb21 () (Iq rfl) (bg (aC (aC (aC aN))) tc)
  refine aL ?_
  refine cJ hb21 (fun ht=>an rfl ?_)
  exact am ((),(v10,l12,l14)) (gA rfl) rI ht.symm
 rintro ⟨_,⟨v16,l18,l20⟩⟩ τ hz;(try dsimp only at hz);subst q22;(try dsimp only at h);dsimp only [aw]
 refine dV (bF [58] [(59,pB (decide (1000000000000<v16)))] (by kernel_rfl) rfl h (fun hc34 h=>?_) fun hc34 h=>?_)
 ·refine ag ?_
  refine aA [(4,pN),(5,pI 3)] (by kernel_rfl) (aD (gB 4 rfl (bi (bc ?_))))
  obtain rfl:=osi h
  exact aH (bK (az rfl) (az rfl)) bq ⟨rfl,rfl⟩
 refine af ?_
 refine cP h fun x35 hx35 h=>ai [0,0] ((rg 61 7)++[60,68,69]) [(12,pI x35.1),(13,pI x35.2)] (aU 6 (od hx35) aY) (by kernel_rfl) (bM (bF [70] [(71,pB (x35.2 != 0))] (by kernel_rfl) rfl h (fun hc36 h=>?_) fun hc36 h=>?_))
 ·refine ag ?_
  refine ah [72] [(4,pN),(5,pI x35.2)] (by kernel_rfl) (aD (gB 4 rfl (bi (bc ?_))))
  obtain rfl:=osi h
  exact aH (bK (az rfl) (az rfl)) bq ⟨rfl,rfl⟩
 refine af ?_
 refine br (fC 2 [(74,pI x35.1),(75,pO (some ⟨b5,0,none⟩) l4.length l4.length)] (by kernel_rfl) ?_)
 refine dw (enc:=eI) (xs:=l18) 75 rfl (by exact aC aN) ?_
 refine ae h fun x37 hx37 h=>dh [] [76,73,77,78] [(14,pL eI x37.1),(13,pI x37.2)] (aU 0 (oT hx37) aY) (by kernel_rfl) (bM (bF [79] [(80,pB (x37.2 != 0))] (by kernel_rfl) rfl h (fun hc38 h=>?_) fun hc38 h=>?_))
 ·refine ag ?_
  refine ah [81] [(4,pN),(5,pI x37.2)] (by kernel_rfl) (aD (gB 4 rfl (bi (bc ?_))))
  obtain rfl:=osi h
  exact aH (bK (az rfl) (az rfl)) bq ⟨rfl,rfl⟩
 refine af ?_
 refine cP h fun l39 hl39 h=>ak (bH 3 [1] [82,83] [(84,pI (p1.Lines.length:Int))] (by kernel_rfl) (aj rfl (ue (enc:=eI) rfl rfl rfl rfl rfl rfl rfl rfl rfl hl39 (fun b40=>aE [(15,pO (some ⟨b40,0,none⟩) l39.length l39.length)] (by kernel_rfl) (cP h fun l42 hl42 h=>fC 2 [(86,pO (some ⟨b40,0,none⟩) l39.length l39.length),(87,pL eI x37.1)] (by kernel_rfl) (aj rfl (pl_copy (enc:=eI) (xs:=l39) (ys:=x37.1) rfl rfl rfl rfl rfl (fun _=>rfl) hl42 bT (au (bM (aK [2] [89] [(90,pL Zp.enc p1.Charges),(91,pI (p1.Charges.length:Int)),(92,pI 0)] (by kernel_rfl) (aD (p8 (enc:=eI) (xs:=l18) 8 rfl tz (ae h fun q46 hq46 h=>?_)))))))))))))
 refine ap (Y:=Unit×Unit) (fun (_,_)=>[(15,pO (some ⟨b40,0,none⟩) l39.length l39.length)]) (fun (_,_)=>[Qa.row (some ⟨b40,0,none⟩) l39.length l39.length 3 1 (List.map eI l42)]) (fun (_,_)=>q46=Sum.inl ()) ?_ ?_
 ·refine aG ?_
  refine aJ (Y:=Unit) (S:=Int) _ hq46 (fun _ v43=>[(0,pL Zo.enc p0),(3,pP b1 0),(8,pL eI l18),(9,pO (some ⟨b8,0,none⟩) l7.length l7.length),(15,pO (some ⟨b40,0,none⟩) l39.length l39.length),(90,pL Zp.enc p1.Charges),(91,pI (p1.Charges.length:Int)),(92,pI v43)]) (fun _ v43=>[Qa.b b1 143 [pS p1.Currency,pI p1.Day,pL Zr.enc p1.Lines,pL Zp.enc p1.Charges],Qa.row (some ⟨b8,0,none⟩) l7.length l7.length 3 1 (List.map eI l20),Qa.row (some ⟨b40,0,none⟩) l39.length l39.length 3 1 (List.map eI l42)]) () (Iq rfl) (bg (aC (aC aN)) (bg (aC (aC aN)) bN)) ?_
  rintro _ v43 o τ hb45;(try dsimp only at hb45);dsimp only [aw]
  refine cH [(93,pB (decide (v43<(p1.Charges.length:Int))))] (by kernel_rfl) (br (fh rfl hb45 (fun hc47 hb45=>?_) fun hc47 hb45=>?_))
  ·refine af ?_
   refine eT (ae hb45 fun m48 hm48 hb45=>cS 2 [] [94] [(95,.agg [pI m48.Kind,pI m48.Amount,pS m48.Currency,pI m48.Basis,pI m48.Line])] (bX 0 Zp.enc hm48 aY) (by kernel_rfl) (aj rfl (aP (cs:=[pI 0,pI 0,pS Uh,pI 0,pI 0]) rfl rfl rfl rfl (fun b49=>aM rfl rfl (al (vs:=[pI m48.Kind,pI m48.Amount,pS m48.Currency,pI m48.Basis,pI m48.Line]) rfl rfl rfl rfl rfl bT td (au (bM (aK [0] [96,97] [(98,pB (m48.Kind == 9))] (by kernel_rfl) (fi rfl hb45 (fun hc50 hb45=>?_) fun hc50 hb45=>?_)))))))))
   ·refine aL ?_
    refine cj (an rfl (aD (ah [129] [(92,pI (i64.wrap (v43+1)))] (by kernel_rfl) ?_)))
    exact aT hb45 () (Iq rfl) (bg (aC aN) (bg (aC aN) (bg (aC aN) bq)))
   refine af ?_
   refine cP hb45 fun x51 hx51 hb45=>ai [0,0,1] ((rg 100 8)++[99,108,109]) [(18,pI x51.1),(19,pI x51.2)] (aU 7 (od hx51) aY) (by kernel_rfl) (bM (bF [110] [(111,pB (x51.2 != 0))] (by kernel_rfl) rfl hb45 (fun hc52 hb45=>?_) fun hc52 hb45=>?_))
   ·refine ag ?_
    refine ah [112] [(4,pN),(5,pI x51.2)] (by kernel_rfl) (aD (gB 4 rfl (bi (bc (iq ?_)))))
    refine aX hb45 (fun ht=>?_);subst ht
    refine aO (aS ?_)
    obtain rfl:=osi h
    exact aH (bK (az rfl) (az rfl)) bq ⟨rfl,rfl⟩
   refine af ?_
   refine br (ak (dE 4 [0] [(114,.agg [pI m48.Kind,pI m48.Amount,pS m48.Currency,pI m48.Basis,pI m48.Line]),(115,pI x51.1),(116,pL eI l18),(117,pO (some ⟨b8,0,none⟩) l7.length l7.length)] (by kernel_rfl) ?_))
   exact absurd hb45 (by simp)
  refine aL ?_
  refine cJ hb45 (fun ht=>an rfl ?_)
  exact am ((),()) (oC rfl) (bg (aC (aC aN)) bq) ht.symm
 rintro ⟨_,_⟩ τ hz;(try dsimp only at hz);subst q46;(try dsimp only at h);dsimp only [aw]
 refine dV (fC 1 [(130,pO (some ⟨b40,0,none⟩) l39.length l39.length)] (by kernel_rfl) ?_)
 refine dw (enc:=eI) (xs:=l42) 130 rfl (by exact aN) ?_
 refine ae h fun x53 hx53 h=>dh [] [131] [(21,pI x53)] (aU 0 (pK hx53) aY) (by kernel_rfl) (br (bF [132] [(133,pB (x53 != 0))] (by kernel_rfl) rfl h (fun hc54 h=>?_) fun hc54 h=>?_))
 ·refine ag ?_
  refine ah [134] [(4,pN),(5,pI x53)] (by kernel_rfl) (aD (gB 4 rfl (bi (bc ?_))))
  obtain rfl:=osi h
  exact aH (bK (az rfl) (az rfl)) bq ⟨rfl,rfl⟩
 refine af ?_
 refine br (ah [135] [(4,pO (some ⟨b40,0,none⟩) l39.length l39.length),(5,pI 0)] (by kernel_rfl) (aD (p8 (enc:=eI) (xs:=l42) 4 rfl eG (bi ?_))))
 obtain rfl:=osi h
 exact aH (bK (az rfl) (az rfl)) bq ⟨rfl,rfl⟩
end SX
namespace SX
open Go
def D9 (b mb clock:Nat) (seen:Array Nat):Ja:=⟨some b,fun o=>o=some (.mapIter (some mb) clock seen clock)⟩
theorem Fe {K V:Type} {ek:K->Value} {vv:V->PV} {xs:List (K×V)} {o:Oper} {Z:Xa} {ρ l:List Qa} {x:Operand} {t kt et mb:Nat} {KK:PV->List Qa->Prop} (ho:o.op=.range t x) (hu:fQ t=some (.map kt et)) (hx:bt Z x=.v (.map (some mb))) (hp:Ub ρ (.mp (some mb) (ls ek vv xs)) l) (h:∀ b es clock,Xd es clock->(ls ek vv xs).map (·.1)=es.map (·.key)->KK (.v (.pointer (some ⟨b,0,none⟩))) (.raw (D9 b mb clock #[])::.raw (Ja.mp (some mb) es clock)::l)):Qb o Z ρ KK:=fun O Z' rr g hs hr=>by
 obtain ⟨r0,l',hp,h4,h5⟩:=hr.pick hp
 cases h4 with
 | mp hn hw hkv =>
  rename_i es clock
  intro β hi0 Nx hnx
  have hi:=hi0.perm hp
  have hb:O.w.heap[mb]?=some (.map es.toArray clock):=hi.own (Ja.mp (some mb) es clock) (by simp)
  have e1:SX.ev Z' x=.map (some mb):=hs.v1 hx
  have hrun:=run_range_map O.w t kt et mb es.toArray clock (bD hu) hb
  simp only [execOp,ho,e1,Sem.run_bind,hrun,Result.andThen_ok,Sem.run_pure,Wc]
  have hk:=ga hi.fin (.mapIter (some mb) clock #[] clock)
  exact hnx _ _ ⟨O.w.alloc (.mapIter (some mb) clock #[] clock),O.S⟩ (hi.alloc _ (D9 O.w.heap.size mb clock #[]) rfl rfl) hk ⟨_,_,.v rfl,.cons .raw (.cons .raw (h5.mono hk)),h _ es clock hw hkv.keys⟩
theorem Hu {o:Oper} {Z:Xa} {ρ l1 l2:List Qa} {x:Operand} {b mb clock:Nat} {seen:Array Nat} {es:List MapEntry} {K:PV->List Qa->Prop} (ho:o.op=.next x false) (hx:bt Z x=.v (.pointer (some ⟨b,0,none⟩))) (hw:Xd es clock) (hp1:Ub ρ (.raw (D9 b mb clock seen)) l1) (hp2:Ub l1 (.raw (Ja.mp (some mb) es clock)) l2) (h1:∀ e∈(leftOf es.toArray seen).toList,K (.tup [.v (.bool true),.any,.any]) (.raw (D9 b mb clock (seen.push e.born))::.raw (Ja.mp (some mb) es clock)::l2)) (h2:(leftOf es.toArray seen).size=0->K (.tup [.v (.bool false)]) (.raw (D9 b mb clock seen)::.raw (Ja.mp (some mb) es clock)::l2)):Qb o Z ρ K:=fun O Z' rr g hs hr=>by
 obtain ⟨r0,l1',q1,h4,h5⟩:=hr.pick hp1
 cases h4 with
 | raw =>
  obtain ⟨r1,l2',q2,h6,h7⟩:=h5.pick hp2
  cases h6 with
  | raw =>
   intro β hi0 Nx hnx
   have hi:=hi0.perm (q1.trans (q2.cons _))
   have hb:O.w.heap[b]?=some (.mapIter (some mb) clock seen clock):=hi.own (D9 b mb clock seen) (by simp)
   have hm:O.w.heap[mb]?=some (.map es.toArray clock):=hi.own (Ja.mp (some mb) es clock) (by simp)
   have e1:SX.ev Z' x=.pointer (some ⟨b,0,none⟩):=hs.v1 hx
   rcases run_next_at (P:=Tryz.prog) O.w o.type b mb clock clock seen es.toArray clock hb hm (fun x hx=>hw.lt x (by simpa using hx)) (le_refl _) with ⟨g1,g2⟩ | ⟨e,he,w1,g1,g2⟩
   ·simp only [execOp,ho,e1,Sem.run_bind,g2,Result.andThen_ok,Sem.run_pure,Wc]
    exact hnx _ _ O hi (.refl _) ⟨_,_,.tup (ws:=[_]) (.cons (.v rfl) .nil),.cons .raw (.cons .raw h7),h2 g1⟩
   simp only [execOp,ho,e1,Sem.run_bind,g2,Result.andThen_ok,Sem.run_pure,Wc]
   have hi1:Zt β (D9 b mb clock seen::Ja.mp (some mb) es clock::l2') ⟨w1,O.S⟩/\Sa O ⟨w1,O.S⟩:=by
    rcases g1 with rfl | rfl
    ·exact ⟨hi,.refl _⟩
    exact ⟨hi.drew,⟨le_refl _,fun _ h=>h,fun _ _=>rfl⟩⟩
   have hb1:w1.heap[b]?=some (.mapIter (some mb) clock seen clock):=hi1.1.own (D9 b mb clock seen) (by simp)
   obtain ⟨i1,i2⟩:=hi1.1.turn (l1:=[]) (r:=D9 b mb clock seen) (r':=D9 b mb clock (seen.push e.born)) (b:=b) (w':=ChangeMaps.setBlock w1 b (.mapIter (some mb) clock (seen.push e.born) clock)) rfl rfl rfl (fun i hi=>rL hi) (by simp [ChangeMaps.setBlock]) (rM hb1) rfl rfl rfl (le_refl _)
   exact hnx _ _ _ i1 (hi1.2.trans i2) ⟨_,_,.tup (ws:=[_,_,_]) (.cons (.v rfl) (.cons .any (.cons .any .nil))),.cons .raw (.cons .raw (h7.mono (hi1.2.trans i2))),h1 e he⟩
theorem Ff {o:Oper} {Z:Xa} {ρ l1 l2:List Qa} {x:Operand} {b mb clock:Nat} {seen:Array Nat} {es:List MapEntry} {e:MapEntry} {K:PV->List Qa->Prop} (ho:o.op=.entry x) (hx:bt Z x=.v (.pointer (some ⟨b,0,none⟩))) (hw:Xd es clock) (he:e∈es) (hok:sM e.key=true) (hp1:Ub ρ (.raw (D9 b mb clock (seen.push e.born))) l1) (hp2:Ub l1 (.raw (Ja.mp (some mb) es clock)) l2) (h1:K (.tup [.v e.key,.any]) (.raw (D9 b mb clock (seen.push e.born))::.raw (Ja.mp (some mb) es clock)::l2)):Qb o Z ρ K:=fun O Z' rr g hs hr=>by
 obtain ⟨r0,l1',q1,h4,h5⟩:=hr.pick hp1
 cases h4 with
 | raw =>
  obtain ⟨r1,l2',q2,h6,h7⟩:=h5.pick hp2
  cases h6 with
  | raw =>
   intro β hi0 Nx hnx
   have hi:=hi0.perm (q1.trans (q2.cons _))
   have hb:O.w.heap[b]?=some (.mapIter (some mb) clock (seen.push e.born) clock):=hi.own (D9 b mb clock (seen.push e.born)) (by simp)
   have hm:O.w.heap[mb]?=some (.map es.toArray clock):=hi.own (Ja.mp (some mb) es clock) (by simp)
   have e1:SX.ev Z' x=.pointer (some ⟨b,0,none⟩):=hs.v1 hx
   have g2:=run_entry_at (P:=Tryz.prog) O.w b mb clock seen es.toArray clock e hb hm (by simpa using he) (List.pairwise_map.2 hw.bn)
   simp only [execOp,ho,e1,Sem.run_bind,g2,Result.andThen_ok,Sem.run_pure,Wc]
   exact hnx _ _ O hi (.refl _) ⟨_,_,.tup (ws:=[_,_]) (.cons (.v hok) (.cons .any .nil)),.cons .raw (.cons .raw h7),h1⟩
theorem Fg {X:Type} {n:Nat} {x:Code} {K:Exit->Ua} {Z:Xa} {ρ:List Qa} (J:X->Prop) (μ:X->Nat) (L:X->List (Nat×PV)) (R:X->List Qa) (z0:X) (hJ:J z0) (h1:Ya Z (L z0)) (h2:Vb (R z0) ρ)
    (round:∀ z τ,J z->Ka n x (fun e Z ρ=>match e with | .normal=>∃ z',J z'/\μ z'<μ z/\Ya Z (L z')/\Vb (R z') ρ | e=>K e Z ρ) (aw τ (L z)) (R z)):Ka n (.loop x) K Z ρ:=fun β O Z' ρ' g hs hr =>
  zH (fun (z:X) σ1 ρ1 κ1=>J z/\∃ σp ρp,Xe κ1/\Xc κ1 σp σ1/\Ta κ1 ρp ρ1/\Ya σp (L z)/\Vb (R z) ρp) μ z0 ⟨hJ,Z,ρ,g,hs,hr,h1,h2⟩ fun z σ1 ρ1 κ1 _ ⟨k0,σp,ρp,k2,k3,k4,k5,k6⟩=>by
    have hrd:=(kb k6 (by have:=round z σp k0;rwa [oI k5] at this)) β κ1 σ1 ρ1 k2 k3 k4
    refine qv hrd fun e σ2 ρ2 κ2 hk ⟨σp2,ρp2,m1,m2,m3⟩=>?_
    cases e with
    | normal =>
      obtain ⟨z',n0,n1,n2,n3⟩:=m3
      exact ⟨z',⟨n0,σp2,ρp2,k2.mono hk,m1,m2,n2,n3⟩,n1⟩
    | _=>exact ⟨σp2,ρp2,m1,m2,m3⟩
def vk (f:Value->Bool) (es:List MapEntry) (seen:Array Nat):Nat:=es.countP fun e=>seen.contains e.born&&f e.key
theorem zk {f:Value->Bool} {e:MapEntry} {seen:Array Nat} (hs:seen.contains e.born=false):∀ {es:List MapEntry},es.Pairwise (fun a b=>a.born≠b.born)->e∈es->vk f es (seen.push e.born)=vk f es seen+cond (f e.key) 1 0
 | x::xs,hn,he=>by
  obtain ⟨n1,n2⟩:=List.pairwise_cons.1 hn
  unfold vk
  rw [List.countP_cons,List.countP_cons]
  rcases List.mem_cons.1 he with rfl | he
  ·have:List.countP (fun y=>(seen.push e.born).contains y.born&&f y.key) xs=List.countP (fun y=>seen.contains y.born&&f y.key) xs:=by
    refine List.countP_congr fun y hy=>?_
    have hne:(y.born == e.born)=false:=by simpa using fun h=>n1 y hy h.symm
    rw [contains_push,hne,Bool.or_false]
   rw [this,contains_push,hs]
   cases f e.key <;> simp
  ·have ih:=zk (f:=f) hs n2 he
   unfold vk at ih
   rw [ih,contains_push]
   have hne:(x.born == e.born)=false:=by simpa using n1 e he
   rw [hne,Bool.or_false];omega
theorem Hv {f:Value->Bool} {es:List MapEntry} {seen:Array Nat} (h:(leftOf es.toArray seen).size=0):vk f es seen=es.countP fun e=>f e.key:=by
 have:=all_seen es.toArray seen h
 unfold vk
 refine List.countP_congr fun y hy=>?_
 rw [this y (by simpa using hy),Bool.true_and]
theorem cntM_le {f:Value->Bool} {es:List MapEntry} {seen:Array Nat}:vk f es seen<=es.length:=List.countP_le_length
theorem Fh {f:Value->Bool} {es:List MapEntry}:vk f es #[]=0:=by
 unfold vk;simp
def inB (l:List Xh) (k:Xh):Bool:=match dH k l with | some true=>true | _=>false
def Ir (l:List Xh):Value->Bool
 | .string k=>inB l k
 | _=>false
def mK (p0 p1:List Xh):Option Int:=Option.bind (kL p1) fun l=>Option.bind (pr p0) fun m=>cond (m.all (fun p=>sM (.string p.1)&&(dH p.1 l).isSome)&&Nat.ble m.length 1000000) (some ((m.countP fun p=>inB l p.1:Nat):Int)) none
attribute [local irreducible] Wa Ka Vc Qb Na Ra Pa Vb Ub Nc Jb Uc Qd PF Yc La Lb dU dM ke kV ip jN Yd Ya aW dH IntKind.wrap
theorem wh {p0 p1:List Xh} {r:Int} (h:mK p0 p1=some r):PF 200 [pL eS p0,pL eS p1] (pI r):=by
 unfold mK at h
 refine ae h ?_;clear h;intro l hl h
 refine ae h ?_;clear h;intro m hm h
 cases hq:(m.all (fun p=>sM (.string p.1)&&(dH p.1 l).isSome)&&Nat.ble m.length 1000000) with
 | false=>rw [hq] at h;cases h
 | true =>
 rw [hq,cQ] at h
 obtain rfl:=Option.some.inj h
 clear h
 rw [and_eq_true,List.all_eq_true] at hq
 obtain ⟨hall,hlen⟩:=hq
 have hlen:=Nat.le_of_ble_eq_true hlen
 refine aV ?_
 refine gC Tryz.func200 rfl Tryz.ntmps200 Tryz.results200 rfl ?_
 (repeat refine ag ?_)
 refine ai [] [4] [] aY (by kernel_rfl) ?_
 (repeat (first | apply aF | apply aD))
 (repeat refine ag ?_)
 refine ai [] [8,9] [(5,.fn 234 [.ref [pL eS l] 0])] (aU 1 (qV hl) aY) (by kernel_rfl) ?_
 (repeat (first | apply aF | apply aD))
 (repeat refine ag ?_)
 refine ai [] [] [(6,pI 0)] aY (by kernel_rfl) ?_
 (repeat (first | apply aF | apply aD))
 (repeat refine ag ?_)
 refine ak ?_
 refine iW 1 [] [] [(10,pL eS p0)] aY (by kernel_rfl) ?_
 refine p5 rfl rfl rfl (aI rfl rfl (ρ1:=[]) Vh (xO hm) ?_);rintro _ _ ⟨mb,rfl,rfl⟩
 refine p5 rfl rfl rfl (Fe rfl rfl rfl (by (repeat (first | exact aN | apply aC))) (fun b es clock hw hks=>?_))
 refine au ?_
 (repeat (first | apply aF | apply aD))
 (repeat refine ag ?_)
 have hkey:∀ e∈es,∃ k v,e.key=.string k/\(k,v)∈m:=fun e he=>by
  have:e.key∈es.map (·.key):=List.mem_map.2 ⟨e,he,rfl⟩
  rw [<- hks] at this
  obtain ⟨q,hq,e1⟩:=List.mem_map.1 this
  unfold ls at hq
  obtain ⟨p,hp,rfl⟩:=List.mem_map.1 hq
  exact ⟨p.1,p.2,e1.symm,hp⟩
 have hcnt:es.countP (fun e=>Ir l e.key)=m.countP fun p=>inB l p.1:=by
  have e1:es.countP (fun e=>Ir l e.key)=(es.map (·.key)).countP (Ir l):=by rw [List.countP_map];rfl
  rw [e1,<- hks]
  unfold ls
  rw [List.map_map,List.countP_map];rfl
 have hel:es.length=m.length:=by
  have:=congrArg List.length hks
  unfold ls at this
  simpa using this.symm
 refine ap (Y:=Unit) (fun _=>[(6,pI ((m.countP fun p=>inB l p.1:Nat):Int))]) (fun _=>[]) (fun _=>True) ?_ ?_
 ·refine aG ?_
  refine Fg (X:=Array Nat) (fun _=>True) (fun seen=>(leftOf es.toArray seen).size) (fun seen=>[(5,.fn 234 [.ref [pL eS l] 0]),(6,pI ((vk (Ir l) es seen:Nat):Int)),(12,pP b 0)]) (fun seen=>[.raw (D9 b mb clock seen),.raw (Ja.mp (some mb) es clock)]) #[] trivial (by rw [Fh];(repeat (first | exact qr | apply jK rfl))) (by (repeat (first | exact bq | (apply bg;(focus (repeat (first | exact aN | apply aC))))))) ?_
  rintro seen τ -;dsimp only [aw]
  (repeat refine ag ?_)
  refine ak ?_
  refine p5 rfl rfl rfl (Hu rfl rfl hw aN aN (fun e he=>?_) (fun hz=>?_))
  ·obtain ⟨he1,he2⟩:=mem_left he
   have he1:e∈es:=by simpa using he1
   obtain ⟨k,v,hk1,hk2⟩:=hkey e he1
   have hk3:=hall _ hk2
   rw [and_eq_true] at hk3
   obtain ⟨bk,hbk⟩:=Option.isSome_iff_exists.1 hk3.2
   have hbk:dH k l=some bk:=hbk
   have hbv:Ir l e.key=bk:=by rw [hk1];show inB l k=bk;unfold inB;rw [hbk];cases bk <;> rfl
   refine dh [] [] [(14,pB true)] aY (by kernel_rfl) ?_
   (repeat (first | apply aF | apply aD))
   (repeat refine ag ?_)
   refine iV (p:=true) rfl (fun _=>?_) (fun hf=>by cases hf)
   refine af ?_
   (repeat (first | apply aF | apply aD))
   (repeat refine ag ?_)
   refine aG ?_
   (repeat refine ag ?_)
   refine ak ?_
   refine p5 rfl rfl rfl (Ff rfl rfl hw he1 (by rw [hk1];exact hk3.1) aN aN ?_)
   rw [hk1]
   refine dh [] [16] [(7,pS k)] aY (by kernel_rfl) ?_
   (repeat (first | apply aF | apply aD))
   (repeat refine ag ?_)
   refine ai [] [17,18] [(19,pB bk)] (yD 2 (gY (pargs:=[pS k]) (caps:=[.ref [pL eS l] 0]) (pq hbk)) aY) (by kernel_rfl) ?_
   (repeat (first | apply aF | apply aD))
   have hpush:=zk (f:=Ir l) he2 hw.bn he1
   rw [hbv] at hpush
   have hcl:=cntM_le (f:=Ir l) (es:=es) (seen:=seen)
   have hmz:=left_shrinks es.toArray seen e he
   refine iV rfl (fun hc=>?_) (fun hc=>?_)
   ·subst hc
    (repeat refine ag ?_)
    refine ai [] [20,21] [(6,pI (i64.wrap ((vk (Ir l) es seen:Nat)+1)))] aY (by kernel_rfl) ?_
    (repeat apply aF)
    refine ⟨seen.push e.born,trivial,hmz,?_,?_⟩
    ·rw [hpush,cQ]
     have e2:i64.wrap ((vk (Ir l) es seen:Nat)+1)=((vk (Ir l) es seen+1:Nat):Int):=by rw [wT ⟨by omega,by omega⟩];omega
     rw [e2]
     (repeat (first | exact qr | apply jK rfl))
    (repeat (first | exact bq | (apply bg;(focus (repeat (first | exact aN | apply aC))))))
   subst hc
   refine af ?_
   (repeat apply aF)
   refine ⟨seen.push e.born,trivial,hmz,?_,?_⟩
   ·rw [hpush,dq,Nat.add_zero]
    (repeat (first | exact qr | apply jK rfl))
   (repeat (first | exact bq | (apply bg;(focus (repeat (first | exact aN | apply aC))))))
  refine dh [] [] [(14,pB false)] aY (by kernel_rfl) ?_
  (repeat (first | apply aF | apply aD))
  (repeat refine ag ?_)
  refine iV (p:=false) rfl (fun hf=>by cases hf) (fun _=>?_)
  refine aL ?_
  (repeat (first | apply cj | apply vJ | apply vK | apply du rfl))
  refine an rfl ?_
  refine am () ?_ bq trivial
  rw [<- hcnt,<- Hv hz]
  (repeat (first | exact qr | apply jK rfl))
 rintro _ τ -;dsimp only [aw]
 (repeat refine ag ?_)
 refine ai [] [22] [(4,pI ((m.countP fun p=>inB l p.1:Nat):Int))] aY (by kernel_rfl) ?_
 (repeat (first | apply aF | apply aD))
 (repeat refine ag ?_)
 refine bi ?_
 (repeat (first | apply bc | apply aO | apply aS | apply i7))
 exact aH (dZ (az rfl)) bq ⟨rfl,rfl⟩
end SX
namespace SX
open Go
attribute [local irreducible] Wa Ka Vc Qb Na Ra Pa Vb Ub Nc Jb Uc Qd PF Yc La Lb dU dM ke kV ip jN Yd Ya aW bx app mk gd lb nz sN lC sub ff ji xi rE ja ex lJ eO IntKind.wrap Int.tmod Int.tdiv Op.bytesLess strOfNums
def gH (p0:Zh) (p1:Za) (p2:Zu):Option Int:=(dT p0 p1.Code p2.Words).bind fun x4=>cond x4 (some (0:Int)) ((bd p2.Words).bind fun x6=>(aW (S:=(List Xh)×Int) (T:=((List Xh))) (fun (l11,v14)=>cond (decide (v14<(p2.Materials.length:Int))) ((bx p2.Materials v14).bind fun m22=>(app 16 l11 [m22.Name]).bind fun l26=>some (.inl (l26,(i64.wrap (v14+1))))) (some (.inr l11))) Va (x6,0)).bind fun l18=>(aW (S:=(List Xh)×Int) (T:=((List Xh))) (fun (l31,v34)=>cond (decide (v34<(p2.Parts.length:Int))) ((bx p2.Parts v34).bind fun m42=>(app 16 l31 m42.Words).bind fun l44=>some (.inl (l44,(i64.wrap (v34+1))))) (some (.inr l31))) Va (l18,0)).bind fun l38=>(cT p0 p1).bind fun x48=>(aW (S:=(List Xh)×Int×Int) (T:=(Int)) (fun (l49,v50,v51)=>cond (decide (v51<(x48.length:Int))) ((bx x48 v51).bind fun m56=>(mK m56 l49).bind fun x57=>some (.inl (l49,(eO v50 x57),(i64.wrap (v51+1))))) (some (.inr v50))) Va (l38,0,0)).bind fun v52=>some v52)
theorem kz {p0:Zh} {p1:Za} {p2:Zu} {r:Int}  (h:gH p0 p1 p2=some r):PF 142 [.agg [pL Za.enc p0.Entries,pL Ze.enc p0.Notes],.agg (av p1),.agg [pL eS p2.Words,pL Zf.enc p2.Materials,pL Zb.enc p2.Parts,pB p2.Incomplete]] (pI r):=by
 unfold gH at h
 refine aV ?_
 refine dk Tryz.func142 rfl Tryz.ntmps142 Tryz.results142 rfl (cL rfl (be (cs:=[pL Za.enc p0.Entries,pL Ze.enc p0.Notes]) rfl rfl (fun b1=>aj rfl (be (cs:=(av p1)) rfl rfl (fun b2=>aj rfl (be (cs:=[pL eS p2.Words,pL Zf.enc p2.Materials,pL Zb.enc p2.Parts,pB p2.Incomplete]) rfl rfl (fun b3=>aZ [6] (by kernel_rfl) (bM (ae h fun x4 hx4 h=>ai [2,1,0] (rg 15 5) [(20,pB x4)] (aU 5 (jd hx4) aY) (by kernel_rfl) (fi rfl h (fun hc5 h=>?_) fun hc5 h=>?_))))))))))
 ·refine ag ?_
  refine de [(6,pI 0)] (by kernel_rfl) ?_
  exact zz r h rfl
 refine af ?_
 refine cP h fun x6 hx6 h=>ak (bH 2 [0] [21] [(22,pL eS p2.Words)] (by kernel_rfl) ?_)
 refine aj rfl (aI rfl rfl (ρ1:=[]) Vh (cO hx6) ?_);rintro _ _ ⟨a7,c8,rfl,rfl⟩
 refine aE [(7,pO a7 x6.length c8)] (by kernel_rfl) (bM (aK [1] [24] [(25,pL Zf.enc p2.Materials),(26,pI (p2.Materials.length:Int)),(27,pI 0)] (by kernel_rfl) (ey h fun q20 hq20 h=>?_)))
 refine ap (Y:=(Option Addr×Nat)×((List Xh))) (fun ((a16,c17),l18)=>[(3,pP b1 0),(4,pP b2 0),(5,pP b3 0),(7,pO a16 l18.length c17)]) (fun ((a16,c17),l18)=>[Qa.b b1 26 [pL Za.enc p0.Entries,pL Ze.enc p0.Notes],Qa.b b2 95 (av p1),Qa.b b3 32 [pL eS p2.Words,pL Zf.enc p2.Materials,pL Zb.enc p2.Parts,pB p2.Incomplete],Qa.row a16 l18.length c17 9 1 (List.map eS l18)]) (fun ((a16,c17),l18)=>q20=l18) ?_ ?_
 ·refine aG ?_
  refine aJ (Y:=Option Addr×Nat) (S:=(List Xh)×Int) _ hq20 (fun (a12,c13) (l11,v14)=>[(3,pP b1 0),(4,pP b2 0),(5,pP b3 0),(7,pO a12 l11.length c13),(25,pL Zf.enc p2.Materials),(26,pI (p2.Materials.length:Int)),(27,pI v14)]) (fun (a12,c13) (l11,v14)=>[Qa.b b1 26 [pL Za.enc p0.Entries,pL Ze.enc p0.Notes],Qa.b b2 95 (av p1),Qa.b b3 32 [pL eS p2.Words,pL Zf.enc p2.Materials,pL Zb.enc p2.Parts,pB p2.Incomplete],Qa.row a12 l11.length c13 9 1 (List.map eS l11)]) (a7,c8) (yB rfl) (bg (aC (aC (aC aN))) (bg (aC (aC aN)) (bg (aC aN) bN))) ?_
  rintro ⟨a12,c13⟩ ⟨l11,v14⟩ o τ hb19;(try dsimp only at hb19);dsimp only [aw]
  refine cH [(28,pB (decide (v14<(p2.Materials.length:Int))))] (by kernel_rfl) (br (fh rfl hb19 (fun hc21 hb19=>?_) fun hc21 hb19=>?_))
  ·refine af ?_
   refine eT (ae hb19 fun m22 hm22 hb19=>cS 2 [] [29] [(30,.agg [pS m22.Name,pI m22.Share])] (bX 0 Zf.enc hm22 aY) (by kernel_rfl) (aj rfl (aP (cs:=[pS Uh,pI 0]) rfl rfl rfl rfl (fun b23=>aM rfl rfl (al (vs:=[pS m22.Name,pI m22.Share]) rfl rfl rfl rfl rfl bT pV (au (aD (ak (bH 3 [0] [32] [(31,pO a12 l11.length c13),(33,pS m22.Name)] (by kernel_rfl) (aj rfl (bp rfl rfl rfl rfl rfl (eE rfl jy) rfl rfl rfl rfl (fun b24=>ae hb19 fun l26 hl26 hb19=>?_))))))))))))
   refine aj rfl (bw (enc:=eS) rfl rfl rfl rfl rfl rfl rfl rfl rfl eG (by exact aC (aC (aC (aC (aC aN))))) hl26 (fun a27 c28=>?_))
   refine aE [(7,pO a27 l26.length c28)] (by kernel_rfl) (eH (ah [36] [(27,pI (i64.wrap (v14+1)))] (by kernel_rfl) ?_))
   exact aT hb19 (a27,c28) (yB rfl) (bg (aC (aC (aC aN))) (bg (aC (aC (aC aN))) (bg (aC (aC (aC aN))) bN)))
  refine aL ?_
  refine cJ hb19 (fun ht=>an rfl ?_)
  exact am ((a12,c13),l11) (jC rfl) CP ht.symm
 rintro ⟨⟨a16,c17⟩,l18⟩ τ hz;(try dsimp only at hz);subst q20;(try dsimp only at h);dsimp only [aw]
 refine dV (aK [2] [37] [(38,pL Zb.enc p2.Parts),(39,pI (p2.Parts.length:Int)),(40,pI 0)] (by kernel_rfl) (ey h fun q40 hq40 h=>?_))
 refine ap (Y:=(Option Addr×Nat)×((List Xh))) (fun ((a36,c37),l38)=>[(3,pP b1 0),(4,pP b2 0),(7,pO a36 l38.length c37)]) (fun ((a36,c37),l38)=>[Qa.b b1 26 [pL Za.enc p0.Entries,pL Ze.enc p0.Notes],Qa.b b2 95 (av p1),Qa.row a36 l38.length c37 9 1 (List.map eS l38)]) (fun ((a36,c37),l38)=>q40=l38) ?_ ?_
 ·refine aG ?_
  refine aJ (Y:=Option Addr×Nat) (S:=(List Xh)×Int) _ hq40 (fun (a32,c33) (l31,v34)=>[(3,pP b1 0),(4,pP b2 0),(7,pO a32 l31.length c33),(38,pL Zb.enc p2.Parts),(39,pI (p2.Parts.length:Int)),(40,pI v34)]) (fun (a32,c33) (l31,v34)=>[Qa.b b1 26 [pL Za.enc p0.Entries,pL Ze.enc p0.Notes],Qa.b b2 95 (av p1),Qa.row a32 l31.length c33 9 1 (List.map eS l31)]) (a16,c17) (o3 rfl) (bg aN (bg aN (bg (aC aN) bq))) ?_
  rintro ⟨a32,c33⟩ ⟨l31,v34⟩ o τ hb39;(try dsimp only at hb39);dsimp only [aw]
  refine cH [(41,pB (decide (v34<(p2.Parts.length:Int))))] (by kernel_rfl) (br (fh rfl hb39 (fun hc41 hb39=>?_) fun hc41 hb39=>?_))
  ·refine af ?_
   refine eT (ae hb39 fun m42 hm42 hb39=>cS 2 [] [42] [(43,.agg [pL eS m42.Words,pI m42.Share])] (bX 0 Zb.enc hm42 aY) (by kernel_rfl) (aj rfl (aP (cs:=[pN,pI 0]) rfl rfl rfl rfl (fun b43=>aM rfl rfl (al (vs:=[pL eS m42.Words,pI m42.Share]) rfl rfl rfl rfl rfl bT pV (au (ey hb39 fun l44 hl44 hb39=>ak (bH 3 [0] [45] [(44,pO a32 l31.length c33),(46,pL eS m42.Words)] (by kernel_rfl) ?_))))))))
   refine aj rfl (rF (enc:=eS) rfl rfl rfl rfl rfl (fun _=>rfl) rfl rfl rfl (by exact aC (aC (aC aN))) hl44 (fun a45 c46=>?_))
   refine aE [(7,pO a45 l44.length c46)] (by kernel_rfl) (eH (ah [48] [(40,pI (i64.wrap (v34+1)))] (by kernel_rfl) ?_))
   exact aT hb39 (a45,c46) (o3 rfl) (bg (aC (aC aN)) (bg (aC (aC aN)) bN))
  refine aL ?_
  refine cJ hb39 (fun ht=>an rfl ?_)
  exact am ((a32,c33),l31) (nt rfl) rI ht.symm
 rintro ⟨⟨a36,c37⟩,l38⟩ τ hz;(try dsimp only at hz);subst q40;(try dsimp only at h);dsimp only [aw]
 refine cH [(12,pI 0)] (by kernel_rfl) (bM (ae h fun x48 hx48 h=>ai [0,1] [49,50] [(51,pL (eL eS) x48),(52,pI (x48.length:Int)),(53,pI 0)] (aU 2 (gI hx48) aY) (by kernel_rfl) (aD ?_)))
 refine fj (enc:=eS) (xs:=l38) 7 rfl (by exact aC (aC aN)) ?_
 refine ae h fun q54 hq54 h=>?_
 refine ap (Y:=Unit×Int) (fun (_,v52)=>[(12,pI v52)]) (fun (_,v52)=>[]) (fun (_,v52)=>q54=v52) ?_ ?_
 ·refine aG ?_
  refine aJ (Y:=Unit) (S:=(List Xh)×Int×Int) _ hq54 (fun _ (l49,v50,v51)=>[(7,pL eS l49),(12,pI v50),(51,pL (eL eS) x48),(52,pI (x48.length:Int)),(53,pI v51)]) (fun _ (l49,v50,v51)=>[]) () (gA rfl) bq ?_
  rintro _ ⟨l49,v50,v51⟩ o τ hb53;(try dsimp only at hb53);dsimp only [aw]
  refine cH [(54,pB (decide (v51<(x48.length:Int))))] (by kernel_rfl) (br (fh rfl hb53 (fun hc55 hb53=>?_) fun hc55 hb53=>?_))
  ·refine af ?_
   refine eT (ae hb53 fun m56 hm56 hb53=>ai [] [55,56] [(14,pL eS m56)] (bX 0 (eL eS) hm56 aY) (by kernel_rfl) (ey hb53 fun x57 hx57 hb53=>ai [] (rg 57 5) [(12,pI (eO v50 x57))] (aU 3 (wh hx57) aY) (by kernel_rfl) (eH (ah [62] [(53,pI (i64.wrap (v51+1)))] (by kernel_rfl) ?_))))
   exact aT hb53 () (gA rfl) bq
  refine aL ?_
  refine cJ hb53 (fun ht=>an rfl ?_)
  exact am ((),v50) (oC rfl) bq ht.symm
 rintro ⟨_,v52⟩ τ hz;(try dsimp only at hz);subst q54;(try dsimp only at h);dsimp only [aw]
 refine ag (ah [63] [(6,pI v52)] (by kernel_rfl) (cK ?_))
 exact zz r h rfl
def iI (p0:Za) (p1:Zl) (p2:Int):Option Bool:=(gH p1.book p0 p1.good).bind fun x2=>some (x2 == p2)
theorem pM {p0:Za} {p1:Zl} {p2:Int} {r:Bool}  (h:iI p0 p1 p2=some r):PF 143 [.agg (av p0),.ref (bv p1) 0,.ref [pI p2] 0] (pB r):=by
 unfold iI at h
 refine aV ?_
 refine dk Tryz.func143 rfl Tryz.ntmps143 Tryz.results143 rfl (cL rfl (be (cs:=(av p0)) rfl rfl (fun b1=>aZ [4] (by kernel_rfl) (br (bE (ρd:=[]) [(0,0),(1,0),(2,0),(3,0),(4,0),(6,0),(5,1),(7,0),(8,0)] _ Vh (by kernel_rfl) rfl (ae h fun x2 hx2 h=>ca 9 [0] ((rg 5 5)++[11,10,12]) [(4,pB (x2 == p2))] (aU 6 (kz hx2) aY) (by kernel_rfl) (bZ (cK ?_))))))))
 exact zz r h rfl
def gU (p0:Zl):Option (List Za):=(aW (S:=Int×Int) (T:=(Int)) (fun (v3,v4)=>cond (decide (v3<(p0.entries.length:Int))) ((bx p0.entries v3).bind fun m9=>(gH p0.book m9 p0.good).bind fun x11=>some (.inl ((i64.wrap (v3+1)),(eO v4 x11)))) (some (.inr v4))) Va (0,0)).bind fun v5=>cond (v5 == 0) (some []) ((ep p0.entries (fun y14=>iI y14 p0 v5)).bind fun x15=>some x15)
theorem qL {p0:Zl} {r:(List Za)}  (h:gU p0=some r):PF 90 [.agg (bv p0)] (pL Za.enc r):=by
 unfold gU at h
 refine aV ?_
 refine dk Tryz.func90 rfl Tryz.ntmps90 Tryz.results90 rfl (cL rfl (be (cs:=(bv p0)) rfl rfl (fun b1=>aZ [2] (by kernel_rfl) (br (cL rfl (aP (cs:=[pI 0]) rfl rfl rfl rfl (fun b2=>aM rfl rfl (al (vs:=[pI 0]) rfl rfl rfl rfl rfl bT ii (au (bM (aK [1] [6] [(7,pL Za.enc p0.entries),(8,pI (p0.entries.length:Int)),(9,pI 0)] (by kernel_rfl) (ey h fun q7 hq7 h=>?_))))))))))))
 refine ap (Y:=Unit×Int) (fun (_,v5)=>[(1,pP b1 0),(3,pP b2 0)]) (fun (_,v5)=>[Qa.b b1 172 (bv p0),Qa.b b2 3 [pI v5]]) (fun (_,v5)=>q7=v5) ?_ ?_
 ·refine aG ?_
  refine aJ (Y:=Unit) (S:=Int×Int) _ hq7 (fun _ (v3,v4)=>[(1,pP b1 0),(3,pP b2 0),(7,pL Za.enc p0.entries),(8,pI (p0.entries.length:Int)),(9,pI v3)]) (fun _ (v3,v4)=>[Qa.b b1 172 (bv p0),Qa.b b2 3 [pI v4]]) () (gA rfl) (bg (aC aN) bN) ?_
  rintro _ ⟨v3,v4⟩ o τ hb6;(try dsimp only at hb6);dsimp only [aw]
  refine cH [(10,pB (decide (v3<(p0.entries.length:Int))))] (by kernel_rfl) (br (fh rfl hb6 (fun hc8 hb6=>?_) fun hc8 hb6=>?_))
  ·refine af ?_
   refine eT (ae hb6 fun m9 hm9 hb6=>cS 2 [] [11] [(12,.agg (av m9))] (bX 0 Za.enc hm9 aY) (by kernel_rfl) (aj rfl (aP (cs:=[pS Uh,pI 0,pI 0,pN,pB false]) rfl rfl rfl rfl (fun b10=>aM rfl rfl (al (vs:=(av m9)) rfl rfl rfl rfl rfl bT td (au (ey hb6 fun x11 hx11 hb6=>?_)))))))
   refine eD (Y:=Unit) (fun _=>[(1,pP b1 0),(3,pP b2 0),(7,pL Za.enc p0.entries),(8,pI (p0.entries.length:Int)),(9,pI v3)]) (fun _=>[Qa.b b1 172 (bv p0),Qa.b b2 3 [pI (eO v4 x11)]]) (fun _=>True) ?_ ?_
   ·refine gf (ρd:=[Qa.b b2 _ _]) _ (aq (aC (aC aN)) Vh) ?_
    refine bu 1 (by kernel_rfl) rfl rfl rfl rfl (bR rfl rfl rfl rfl rfl (.p rfl)) (bu 2 (by kernel_rfl) rfl rfl rfl rfl (co (p:=.agg [pL Za.enc p0.book.Entries,pL Ze.enc p0.book.Notes]) rfl (.p rfl) tz rfl) (bu 3 (by kernel_rfl) rfl rfl rfl rfl (co (p:=.agg (av m9)) rfl (.p rfl) eG rfl) (bu 4 (by kernel_rfl) rfl rfl rfl rfl (bR rfl rfl rfl rfl rfl (.p rfl)) (bu 5 (by kernel_rfl) rfl rfl rfl rfl (co (p:=.agg [pL eS p0.good.Words,pL Zf.enc p0.good.Materials,pL Zb.enc p0.good.Parts,pB p0.good.Incomplete]) rfl (.p rfl) tz rfl) ?_))))
    refine dr 0 6 (by kernel_rfl) ?_ ?_
    ·skip
     refine bj rfl rfl rfl rfl (kI (co (p:=pI v4) rfl (.p rfl) eG rfl) (bh 6 (by kernel_rfl) (nf rfl rfl rfl rfl rfl rfl (kz hx11) (bu 7 (by kernel_rfl) rfl rfl rfl rfl (z8 rfl (.p rfl) (.p rfl)) (bh 8 (by kernel_rfl) (eF rfl rfl rfl (al (vs:=[pI (eO v4 x11)]) rfl rfl rfl rfl rfl bT ii (gQ (by kernel_rfl) ?_))))))))
     exact gZ () (gA rfl) (bg (aC (aC aN)) bN) trivial
    skip
    refine nf rfl rfl rfl rfl rfl rfl (kz hx11) (bh 0 (by kernel_rfl) (bj rfl rfl rfl rfl (kI (co (p:=pI v4) rfl (.p rfl) eG rfl) (bu 7 (by kernel_rfl) rfl rfl rfl rfl (z8 rfl (.p rfl) (.p rfl)) (bh 8 (by kernel_rfl) (eF rfl rfl rfl (al (vs:=[pI (eO v4 x11)]) rfl rfl rfl rfl rfl bT ii (gQ (by kernel_rfl) ?_))))))))
    exact gZ () (gA rfl) (bg (aC (aC aN)) bN) trivial
   rintro _ τ ρ1 hsub12 _;(try dsimp only at hsub12);dsimp only [aw]
   refine eH (kb hsub12 (ah [21] [(9,pI (i64.wrap (v3+1)))] (by kernel_rfl) ?_))
   exact aT hb6 () (gA rfl) tc
  refine aL ?_
  refine cJ hb6 (fun ht=>an rfl ?_)
  exact am ((),v4) (lK rfl) tc ht.symm
 rintro ⟨_,v5⟩ τ hz;(try dsimp only at hz);subst q7;(try dsimp only at h);dsimp only [aw]
 refine dV (aK [1] [22] [(23,pB (v5 == 0))] (by kernel_rfl) (fi rfl h (fun hc13 h=>?_) fun hc13 h=>?_))
 ·refine ag ?_
  refine aA [(2,pN)] (by kernel_rfl) (aD (gB 2 rfl (bi (bc ?_))))
  exact zz r h rfl
 refine af ?_
 refine br (ak (bH 2 [0] [24] [(25,pL Za.enc p0.entries)] (by kernel_rfl) ?_))
 refine jj 1 rfl (by exact aN) ?_
 refine jj 3 rfl (by exact aC aN) ?_
 refine ae h fun x15 hx15 h=>dh [] [26,27] [(2,pL Za.enc x15)] (aU 1 (ij (fun hr=>gY (pM hr)) hx15) aY) (by kernel_rfl) (cK ?_)
 exact zz r h rfl
end SX
namespace SX
open Go
def lG (n:Nat) (v:Zl):Option (List Za) :=
 cond (Nat.beq n 86) (fL v) (cond (Nat.beq n 87) (eK v) (cond (Nat.beq n 88) (el v) (cond (Nat.beq n 89) (fu v) (cond (Nat.beq n 90) (gU v) (cond (Nat.beq n 91) (iv v) none)))))
theorem sD {c:Bool} {α:Type} {a b:Option α} {r:α} {p:Prop} (h:cond c a b=some r) (h1:c=true->a=some r->p) (h2:b=some r->p):p:=by
 cases c with
 | true=>exact h1 rfl h
 | false=>exact h2 h
theorem tS {n:Nat} {v:Zl} {r:List Za} (h:lG n v=some r):Yc (.fn n []) [.agg (Zl.enc v)] (pL Za.enc r):=by
 unfold lG at h
 refine sD h (fun e h=>?_) (fun h=>?_)
 ·rw [eq_of_beq_eq_true e];exact gY (caps:=[]) (o7 h)
 refine sD h (fun e h=>?_) (fun h=>?_)
 ·rw [eq_of_beq_eq_true e];exact gY (caps:=[]) (nX h)
 refine sD h (fun e h=>?_) (fun h=>?_)
 ·rw [eq_of_beq_eq_true e];exact gY (caps:=[]) (nN h)
 refine sD h (fun e h=>?_) (fun h=>?_)
 ·rw [eq_of_beq_eq_true e];exact gY (caps:=[]) (oO h)
 refine sD h (fun e h=>?_) (fun h=>?_)
 ·rw [eq_of_beq_eq_true e];exact gY (caps:=[]) (qL h)
 refine sD h (fun e h=>?_) (fun h=>?_)
 ·rw [eq_of_beq_eq_true e];exact gY (caps:=[]) (rk h)
 cases h
end SX
namespace SX
open Go
attribute [local irreducible] Wa Ka Vc Qb Na Ra Pa Vb Ub Nc Jb Uc Qd PF Yc La Lb dU dM ke kV ip jN Yd Ya aW bx app mk gd lb nz sN lC sub ff ji xi rE ja ex lJ eO IntKind.wrap Int.tmod Int.tdiv Op.bytesLess strOfNums
def kA (p0:Zh) (p1:Int) (p2:Zu) (p3:Xh):Option (Int×(List Za)):=(ir p0 p1 p3).bind fun x3=>(aW (S:=Int) (T:=(Unit)⊕(_)) (fun v7=>cond (decide (v7<((6:Nat):Int))) ((bx [(⟨1,86⟩:Zq),(⟨2,87⟩:Zq),(⟨3,88⟩:Zq),(⟨8,89⟩:Zq),(⟨7,90⟩:Zq),(⟨7,91⟩:Zq)] v7).bind fun m11=>(lG m11.choose (⟨p0,p2,p3,x3⟩:Zl)).bind fun x13=>cond (decide (0<(x13.length:Int))) (some (.inr (.inr (m11.basis,x13)))) (some (.inl (i64.wrap (v7+1))))) (some (.inr (.inl ())))) Va 0).bind fun q=>match q with | .inl _=>some ((0:Int),[]) | .inr e=>some e
theorem uv {p0:Zh} {p1:Int} {p2:Zu} {p3:Xh} {r:(Int×(List Za))}  (h:kA p0 p1 p2 p3=some r):PF 46 [.agg [pL Za.enc p0.Entries,pL Ze.enc p0.Notes],pI p1,.agg [pL eS p2.Words,pL Zf.enc p2.Materials,pL Zb.enc p2.Parts,pB p2.Incomplete],pS p3] (.tup [pI r.1,pL Za.enc r.2]):=by
 unfold kA at h
 refine aV ?_
 refine dk Tryz.func46 rfl Tryz.ntmps46 Tryz.results46 rfl (cL rfl (be (cs:=[pL Za.enc p0.Entries,pL Ze.enc p0.Notes]) rfl rfl (fun b1=>aj rfl (be (cs:=[pL eS p2.Words,pL Zf.enc p2.Materials,pL Zb.enc p2.Parts,pB p2.Incomplete]) rfl rfl (fun b2=>aZ [8,9] (by kernel_rfl) (br (bE (ρd:=[]) [(0,0),(1,0),(2,0),(3,0),(4,0),(5,0),(6,1),(7,0),(8,2),(9,1)] _ Vh (by kernel_rfl) rfl (ae h fun x3 hx3 h=>ca 7 [1,0,1] [18,19,20] [(15,.agg [pL Za.enc p0.Entries,pL Ze.enc p0.Notes]),(16,.agg [pL eS p2.Words,pL Zf.enc p2.Materials,pL Zb.enc p2.Parts,pB p2.Incomplete]),(17,pS p3),(21,pL Za.enc x3)] (aU 6 (ri hx3) aY) (by kernel_rfl) (lW rfl rfl rfl (j8 (cs:=[pL Za.enc p0.Entries,pL Ze.enc p0.Notes,pL eS p2.Words,pL Zf.enc p2.Materials,pL Zb.enc p2.Parts,pB p2.Incomplete,pS p3,pL Za.enc x3]) rfl rfl rfl rfl rfl rfl rfl (sZ rfl rfl rfl rfl pV (sZ rfl rfl rfl rfl (bV (bV zl4)) (sZ rfl rfl rfl rfl (bV (bV (bV (bV (bV (bV ii)))))) (sZ rfl rfl rfl rfl (bV (bV (bV (bV (bV (bV (bV ii))))))) Ip))))) (rH (pg rfl rfl rfl rfl rfl) (fun _=>rfl) rfl (fun b4=>rG rfl rfl (al (vs:=[pL Za.enc p0.Entries,pL Ze.enc p0.Notes,pL eS p2.Words,pL Zf.enc p2.Materials,pL Zb.enc p2.Parts,pB p2.Incomplete,pS p3,pL Za.enc x3]) rfl rfl rfl rfl rfl bT zl8 (bZ (br (fC 6 [(23,.agg [pI 1,.fn 86 []]),(24,.agg [pI 2,.fn 87 []]),(25,.agg [pI 3,.fn 88 []]),(26,.agg [pI 8,.fn 89 []]),(27,.agg [pI 7,.fn 90 []]),(28,.agg [pI 7,.fn 91 []])] (by kernel_rfl) (aj rfl (bp rfl rfl rfl rfl rfl (eE rfl (eE rfl (eE rfl (eE rfl (eE rfl (eE rfl jy)))))) rfl rfl rfl rfl (fun b5=>aE [(11,pO (some ⟨b5,0,none⟩) 6 6)] (by kernel_rfl) (bM (aA [(30,pO (some ⟨b5,0,none⟩) 6 6),(31,pI ((6:Nat):Int)),(32,pI 0)] (by kernel_rfl) (ey h fun q9 hq9 h=>?_)))))))))))))))))))))
 refine ap (Y:=Unit×Unit) (fun (_,_)=>[]) (fun (_,_)=>[]) (fun (_,_)=>q9=Sum.inl ()) ?_ ?_
 ·refine aG ?_
  refine aJ (Y:=Unit) (S:=Int) _ hq9 (fun _ v7=>[(10,pP b4 0),(30,pO (some ⟨b5,0,none⟩) 6 6),(31,pI ((6:Nat):Int)),(32,pI v7)]) (fun _ v7=>[Qa.b b4 172 [pL Za.enc p0.Entries,pL Ze.enc p0.Notes,pL eS p2.Words,pL Zf.enc p2.Materials,pL Zb.enc p2.Parts,pB p2.Incomplete,pS p3,pL Za.enc x3],Qa.row (some ⟨b5,0,none⟩) 6 6 175 2 (List.map Zq.enc [(⟨1,86⟩:Zq),(⟨2,87⟩:Zq),(⟨3,88⟩:Zq),(⟨8,89⟩:Zq),(⟨7,90⟩:Zq),(⟨7,91⟩:Zq)])]) () (jC rfl) (bg (aC aN) bN) ?_
  rintro _ v7 o τ hb8;(try dsimp only at hb8);dsimp only [aw]
  refine cH [(33,pB (decide (v7<((6:Nat):Int))))] (by kernel_rfl) (br (fh rfl hb8 (fun hc10 hb8=>?_) fun hc10 hb8=>?_))
  ·refine af ?_
   refine eT (ae hb8 fun m11 hm11 hb8=>ak (cg rfl rfl rfl (d9 (enc:=Zq.enc) (xs:=[(⟨1,86⟩:Zq),(⟨2,87⟩:Zq),(⟨3,88⟩:Zq),(⟨8,89⟩:Zq),(⟨7,90⟩:Zq),(⟨7,91⟩:Zq)]) rfl rfl rfl (.p rfl) tz (.p rfl) (fun _=>hm11)) (cg rfl rfl rfl (dj (sz:=2) (p:=.agg [pI m11.basis,.fn m11.choose []]) (enc:=Zq.enc) (xs:=[(⟨1,86⟩:Zq),(⟨2,87⟩:Zq),(⟨3,88⟩:Zq),(⟨8,89⟩:Zq),(⟨7,90⟩:Zq),(⟨7,91⟩:Zq)]) (a:=(some ⟨b5,0,none⟩)) v7 0 m11 rfl (.p rfl) rfl tz (fun _=>hm11) rfl) (aj rfl (aP (cs:=[pI 0,.v .nilFunc]) rfl rfl rfl rfl (fun b12=>aM rfl rfl (al (vs:=[pI m11.basis,.fn m11.choose []]) rfl rfl rfl rfl rfl bT pV (au (cP hb8 fun x13 hx13 hb8=>ai [0,1] [36,37,38,39] [(14,pL Za.enc x13)] (yD 3 (tS hx13) aY) (by kernel_rfl) (br (bF [40,41] [(42,pB (decide (0<(x13.length:Int))))] (by kernel_rfl) rfl hb8 (fun hc14 hb8=>?_) fun hc14 hb8=>?_)))))))))))
   ·refine ag ?_
    refine aK [0] [43,44,45] [(8,pI m11.basis),(9,pL Za.enc x13)] (by kernel_rfl) (cK (iq ?_))
    refine aX hb8 (fun ht=>?_);subst ht
    refine aO (aS ?_)
    obtain rfl:=osi h
    exact aH (bK (az rfl) (az rfl)) bq ⟨rfl,rfl⟩
   refine af ?_
   refine eH (ah [46] [(32,pI (i64.wrap (v7+1)))] (by kernel_rfl) ?_)
   exact aT hb8 () (jC rfl) (bg (aC aN) (bg (aC aN) bq))
  refine aL ?_
  refine cJ hb8 (fun ht=>an rfl ?_)
  exact am ((),()) qr bq ht.symm
 rintro ⟨_,_⟩ τ hz;(try dsimp only at hz);subst q9;(try dsimp only at h);dsimp only [aw]
 refine cH [(8,pI 0),(9,pN)] (by kernel_rfl) (aD (gB 9 rfl (bi ?_)))
 obtain rfl:=osi h
 exact aH (bK (az rfl) (az rfl)) bq ⟨rfl,rfl⟩
def fM (p0:Zh) (p1:Int) (p2:Zu):Option (Xh×(List Zm)×Int):=(cN p0).bind fun x3=>cond (x3 != 0) (some ((⟨#[]⟩:Xh),[],x3)) ((fK p2).bind fun x5=>cond (x5 != 0) (some ((⟨#[]⟩:Xh),[],x5)) (cond ((decide (p1<0))||(decide (36524<p1))) (some ((⟨#[]⟩:Xh),[],(2:Int))) ((aW (S:=(List Zm)×Xh) (T:=((List Zm)×Xh)) (fun (l9,v12)=>(kA p0 p1 p2 v12).bind fun x21=>cond ((x21.2.length:Int) == 0) (some (.inr (l9,v12))) ((j0 p0 p2 x21.1 x21.2).bind fun x23=>(aW (S:=Int×(List Xh)) (T:=((List Xh))) (fun (v26,l28)=>cond (decide (v26<(x21.2.length:Int))) ((bx x21.2 v26).bind fun m40=>(app 16 l28 [m40.Code]).bind fun l44=>some (.inl ((i64.wrap (v26+1)),l44))) (some (.inr l28))) Va (0,([]:List Xh))).bind fun l35=>(app 72 l9 [(⟨v12,x21.1,l35,x23.1,x23.2.Code⟩:Zm)]).bind fun l50=>some (.inl (l50,x23.2.Code)))) Va (([]:List Zm),(⟨#[]⟩:Xh))).bind fun (l16,v17)=>cond (((l16.length:Nat):Int) == 0) (some ((⟨#[]⟩:Xh),[],(7:Int))) (some (v17,l16,(0:Int))))))
theorem kB {p0:Zh} {p1:Int} {p2:Zu} {r:(Xh×(List Zm)×Int)}  (h:fM p0 p1 p2=some r):PF 15 [.agg [pL Za.enc p0.Entries,pL Ze.enc p0.Notes],pI p1,.agg [pL eS p2.Words,pL Zf.enc p2.Materials,pL Zb.enc p2.Parts,pB p2.Incomplete]] (.tup [pS r.1,pL Zm.enc r.2.1,pI r.2.2]):=by
 unfold fM at h
 refine aV ?_
 refine dk Tryz.func15 rfl Tryz.ntmps15 Tryz.results15 rfl (cL rfl (be (cs:=[pL Za.enc p0.Entries,pL Ze.enc p0.Notes]) rfl rfl (fun b1=>aj rfl (be (cs:=[pL eS p2.Words,pL Zf.enc p2.Materials,pL Zb.enc p2.Parts,pB p2.Incomplete]) rfl rfl (fun b2=>aZ [6,7,8] (by kernel_rfl) (bM (ae h fun x3 hx3 h=>ai [1] [20,21] [(9,pI x3)] (aU 1 (jg hx3) aY) (by kernel_rfl) (br (bF [22] [(23,pB (x3 != 0))] (by kernel_rfl) rfl h (fun hc4 h=>?_) fun hc4 h=>?_)))))))))
 ·refine ag ?_
  refine ah [24] [(6,pS (⟨#[]⟩:Xh)),(7,pN),(8,pI x3)] (by kernel_rfl) (aD (gB 7 rfl (bi (bc ?_))))
  obtain rfl:=osi h
  exact aH (nA (az rfl) (az rfl) (az rfl)) bq ⟨rfl,rfl⟩
 refine af ?_
 refine bM (ae h fun x5 hx5 h=>ai [0] [25,26] [(10,pI x5)] (aU 1 (mJ hx5) aY) (by kernel_rfl) (br (bF [27] [(28,pB (x5 != 0))] (by kernel_rfl) rfl h (fun hc6 h=>?_) fun hc6 h=>?_)))
 ·refine ag ?_
  refine ah [29] [(6,pS (⟨#[]⟩:Xh)),(7,pN),(8,pI x5)] (by kernel_rfl) (aD (gB 7 rfl (bi (bc ?_))))
  obtain rfl:=osi h
  exact aH (nA (az rfl) (az rfl) (az rfl)) bq ⟨rfl,rfl⟩
 refine af ?_
 refine bM (bF (rg 30 5) [(35,pB ((decide (p1<0))||(decide (36524<p1))))] (by kernel_rfl) rfl h (fun hc7 h=>?_) fun hc7 h=>?_)
 ·refine ag ?_
  refine aA [(6,pS (⟨#[]⟩:Xh)),(7,pN),(8,pI 2)] (by kernel_rfl) (aD (gB 7 rfl (bi (bc ?_))))
  obtain rfl:=osi h
  exact aH (nA (az rfl) (az rfl) (az rfl)) bq ⟨rfl,rfl⟩
 refine af ?_
 refine br (aA [(11,pN)] (by kernel_rfl) (br (aA [(12,pS (⟨#[]⟩:Xh))] (by kernel_rfl) (br (bC 120 5 (ae h fun q19 hq19 h=>?_))))))
 refine ap (Y:=(Option Addr×Nat)×((List Zm)×Xh)) (fun ((a14,c15),(l16,v17))=>[(11,pO a14 l16.length c15),(12,pS v17)]) (fun ((a14,c15),(l16,v17))=>[Qa.row a14 l16.length c15 120 5 (List.map Zm.enc l16)]) (fun ((a14,c15),(l16,v17))=>q19=(l16,v17)) ?_ ?_
 ·refine aG ?_
  refine aJ (Y:=Option Addr×Nat) (S:=(List Zm)×Xh) _ hq19 (fun (a10,c11) (l9,v12)=>[(1,pI p1),(3,pP b1 0),(5,pP b2 0),(11,pO a10 l9.length c11),(12,pS v12)]) (fun (a10,c11) (l9,v12)=>[Qa.b b1 26 [pL Za.enc p0.Entries,pL Ze.enc p0.Notes],Qa.b b2 32 [pL eS p2.Words,pL Zf.enc p2.Materials,pL Zb.enc p2.Parts,pB p2.Incomplete],Qa.row a10 l9.length c11 120 5 (List.map Zm.enc l9)]) (none,0) (gA rfl) (bg (aC (aC aN)) (bg (aC aN) bN)) ?_
  rintro ⟨a10,c11⟩ ⟨l9,v12⟩ o τ hb18;(try dsimp only at hb18);dsimp only [aw]
  refine rx (ae hb18 fun x21 hx21 hb18=>ai [0,1] ((rg 37 5)++[36,42,43]) [(13,pI x21.1),(14,pL Za.enc x21.2)] (aU 4 (uv hx21) aY) (by kernel_rfl) (bM (bF [44,45] [(46,pB ((x21.2.length:Int) == 0))] (by kernel_rfl) rfl hb18 (fun hc22 hb18=>?_) fun hc22 hb18=>?_)))
  ·refine aL ?_
   refine cj (du rfl (mz hb18 (fun ht=>an rfl ?_)))
   exact am ((a10,c11),(l9,v12)) (lK rfl) (bg (aC (aC aN)) bq) ht.symm
  refine af ?_
  refine cP hb18 fun x23 hx23 hb18=>cS 8 [0,1] ((rg 48 5)++[47]) [(53,pI x23.1),(54,.agg (av x23.2))] (aU 4 (tR hx23) aY) (by kernel_rfl) (aj rfl (aP (cs:=[pS Uh,pI 0,pI 0,pN,pB false]) rfl rfl rfl rfl (fun b24=>ba 1 [(15,pI x23.1)] (by kernel_rfl) (aM rfl rfl (al (vs:=(av x23.2)) rfl rfl rfl rfl rfl bT td (au (br (ak (bH 6 [0] (rg 55 5) [(60,.agg [pS v12,pI x21.1,pN,pI x23.1,pS x23.2.Code])] (by kernel_rfl) (aj rfl (aP (cs:=[pS Uh,pI 0,pN,pI 0,pS Uh]) rfl rfl rfl rfl (fun b25=>aM rfl rfl (al (vs:=[pS v12,pI x21.1,pN,pI x23.1,pS x23.2.Code]) rfl rfl rfl rfl rfl bT td (au (bM (aA [(61,pL Za.enc x21.2),(62,pI (x21.2.length:Int)),(63,pI 0)] (by kernel_rfl) (aD (bC 9 1 (ae hb18 fun q37 hq37 hb18=>?_)))))))))))))))))))
  refine ap (Y:=(Option Addr×Nat)×((List Xh))) (fun ((a33,c34),l35)=>[(1,pI p1),(3,pP b1 0),(5,pP b2 0),(11,pO a10 l9.length c11),(16,pP b24 0),(17,pP b25 0)]) (fun ((a33,c34),l35)=>[Qa.b b1 26 [pL Za.enc p0.Entries,pL Ze.enc p0.Notes],Qa.b b2 32 [pL eS p2.Words,pL Zf.enc p2.Materials,pL Zb.enc p2.Parts,pB p2.Incomplete],Qa.b b24 95 (av x23.2),Qa.b b25 120 [pS v12,pI x21.1,pO a33 l35.length c34,pI x23.1,pS x23.2.Code],Qa.row a10 l9.length c11 120 5 (List.map Zm.enc l9),Qa.row a33 l35.length c34 9 1 (List.map eS l35)]) (fun ((a33,c34),l35)=>q37=l35) ?_ ?_
  ·refine aG ?_
   refine aJ (Y:=Option Addr×Nat) (S:=Int×(List Xh)) _ hq37 (fun (a29,c30) (v26,l28)=>[(1,pI p1),(3,pP b1 0),(5,pP b2 0),(11,pO a10 l9.length c11),(16,pP b24 0),(17,pP b25 0),(61,pL Za.enc x21.2),(62,pI (x21.2.length:Int)),(63,pI v26)]) (fun (a29,c30) (v26,l28)=>[Qa.b b1 26 [pL Za.enc p0.Entries,pL Ze.enc p0.Notes],Qa.b b2 32 [pL eS p2.Words,pL Zf.enc p2.Materials,pL Zb.enc p2.Parts,pB p2.Incomplete],Qa.b b24 95 (av x23.2),Qa.b b25 120 [pS v12,pI x21.1,pO a29 l28.length c30,pI x23.1,pS x23.2.Code],Qa.row a29 l28.length c30 9 1 (List.map eS l28),Qa.row a10 l9.length c11 120 5 (List.map Zm.enc l9)]) (none,0) (wv rfl) (bg (aC (aC (aC aN))) (bg (aC (aC (aC aN))) (bg (aC (aC aN)) (bg (aC aN) tc)))) ?_
   rintro ⟨a29,c30⟩ ⟨v26,l28⟩ o τ hb36;(try dsimp only at hb36);dsimp only [aw]
   refine cH [(64,pB (decide (v26<(x21.2.length:Int))))] (by kernel_rfl) (br (fh rfl hb36 (fun hc39 hb36=>?_) fun hc39 hb36=>?_))
   ·refine af ?_
    refine eT (ae hb36 fun m40 hm40 hb36=>cS 2 [] [65] [(66,.agg (av m40))] (bX 0 Za.enc hm40 aY) (by kernel_rfl) (aj rfl (aP (cs:=[pS Uh,pI 0,pI 0,pN,pB false]) rfl rfl rfl rfl (fun b41=>aM rfl rfl (al (vs:=(av m40)) rfl rfl rfl rfl rfl bT td (au (aD (ak (bH 4 [4,0] [67,69] [(68,pO a29 l28.length c30),(70,pS m40.Code)] (by kernel_rfl) (aj rfl (bp rfl rfl rfl rfl rfl (eE rfl jy) rfl rfl rfl rfl (fun b42=>ae hb36 fun l44 hl44 hb36=>?_))))))))))))
    refine aj rfl (bw (enc:=eS) rfl rfl rfl rfl rfl rfl rfl rfl rfl eG (by exact aC (aC (aC (aC (aC (aC aN)))))) hl44 (fun a45 c46=>?_))
    refine ba 1 [(73,pP b25 2)] (by kernel_rfl) (aM rfl rfl (al (vs:=[pO a45 l44.length c46]) rfl rfl rfl rfl rfl (cE (cE (cE (cE (cE (cE bT)))))) (bV (bV ii)) (au (eH (ah [74] [(63,pI (i64.wrap (v26+1)))] (by kernel_rfl) ?_)))))
    exact aT hb36 (a45,c46) (wv rfl) (bg (aC (aC (aC aN))) (bg (aC (aC (aC aN))) (bg (aC (aC (aC aN))) (bg (aC (aC (aC aN))) (bg aN (bg (aC (aC aN)) bq))))))
   refine aL ?_
   refine cJ hb36 (fun ht=>an rfl ?_)
   exact am ((a29,c30),l28) (o3 rfl) (bg aN (bg aN (bg aN (bg aN (bg (aC aN) bN))))) ht.symm
  rintro ⟨⟨a33,c34⟩,l35⟩ τ hz;(try dsimp only at hz);subst q37;(try dsimp only at hb18);dsimp only [aw]
  refine ag (fC 1 [(75,pO a10 l9.length c11)] (by kernel_rfl) ?_)
  refine kH (css:=List.map eS l35) (a:=a33) (by exact aC (aC (aC (aC (aC aN))))) ?_
  refine iR (k:=2) (enc:=eS) (xs:=l35) (b:=b25) (a:=a33) rfl eG (cE (cE (cE (cE bT)))) (dE 1 [4] [(76,.agg [pS v12,pI x21.1,pL eS l35,pI x23.1,pS x23.2.Code])] (by kernel_rfl) (aj rfl (bp rfl rfl rfl rfl rfl (eE rfl jy) rfl rfl rfl rfl (fun b48=>ae hb18 fun l50 hl50 hb18=>?_))))
  refine aj rfl (bw (enc:=Zm.enc) rfl rfl rfl rfl rfl rfl rfl rfl rfl eG (by exact aC (aC (aC (aC (aC (aC aN)))))) hl50 (fun a51 c52=>?_))
  refine aE [(11,pO a51 l50.length c52)] (by kernel_rfl) (aD (aK [5] [79,80] [(12,pS x23.2.Code)] (by kernel_rfl) (aF ?_)))
  exact aT hb18 (a51,c52) (gA rfl) (bg (aC (aC (aC aN))) (bg (aC (aC (aC aN))) bN))
 rintro ⟨⟨a14,c15⟩,⟨l16,v17⟩⟩ τ hz;(try dsimp only at hz);subst q19;(try dsimp only at h);dsimp only [aw]
 refine dV (bF [81,82] [(83,pB (((l16.length:Nat):Int) == 0))] (by kernel_rfl) rfl h (fun hc54 h=>?_) fun hc54 h=>?_)
 ·refine ag ?_
  refine aA [(6,pS (⟨#[]⟩:Xh)),(7,pN),(8,pI 7)] (by kernel_rfl) (aD (gB 7 rfl (bi (bc ?_))))
  obtain rfl:=osi h
  exact aH (nA (az rfl) (az rfl) (az rfl)) bq ⟨rfl,rfl⟩
 refine af ?_
 refine br (ah [84,85] [(6,pS v17),(7,pO a14 l16.length c15),(8,pI 0)] (by kernel_rfl) (aD ?_))
 refine fj (enc:=Zm.enc) (xs:=l16) 7 rfl (by exact aN) ?_
 refine bi ?_
 obtain rfl:=osi h
 exact aH (nA (az rfl) (az rfl) (az rfl)) bq ⟨rfl,rfl⟩
def kT  : Option Bool:=(lZ (⟨#[99,104,97,105,114,43,111,102,102,105,99,101]⟩:Xh)).bind fun x1=>(fM (⟨[(⟨(⟨#[57,52]⟩:Xh),0,100,[],false⟩:Za),(⟨(⟨#[57,52,48,49]⟩:Xh),0,100,[[(⟨#[99,104,97,105,114]⟩:Xh)]],false⟩:Za)],[]⟩:Zh) 5 x1.1).bind fun x10=>(nl [] (⟨(⟨#[69,85,82]⟩:Xh),0,[(⟨1000,0⟩:Zr)],[]⟩:Zy)).bind fun x13=>cond (((((x1.2 != 0)||(x10.2.2 != 0))||(x13.2 != 0))||((x13.1.length:Int) != 1))||(!decide (x10.1=(⟨#[57,52,48,49]⟩:Xh)))) (some false) ((bx x13.1 0).bind fun m17=>(gK x10.1).bind fun x18=>(qK [(⟨1,1,(⟨#[57,52]⟩:Xh),[],0,0,100,(-1),(⟨50000,0,0,false,0,false,0⟩:Zs)⟩:Zc)] (⟨x18,(⟨#[65,65]⟩:Xh),false,0,0,1,m17,0⟩:Zw)).bind fun x19=>some ((x19.1 == 50)&&(x19.2 == 0)))
theorem sU  {r:Bool}  (h:kT  = some r):PF 20 [] (pB r):=by
 unfold kT at h
 refine aV ?_
 refine dk Tryz.func20 rfl Tryz.ntmps20 Tryz.results20 rfl (aQ [0] (by kernel_rfl) (cP h fun x1 hx1 h=>cS 4 [] [13,12] [(14,.agg [pL eS x1.1.Words,pL Zf.enc x1.1.Materials,pL Zb.enc x1.1.Parts,pB x1.1.Incomplete]),(15,pI x1.2)] (aU 0 (r7 hx1) aY) (by kernel_rfl) (aj rfl (aP (cs:=[pN,pN,pN,pB false]) rfl rfl rfl rfl (fun b2=>aM rfl rfl (al (vs:=[pL eS x1.1.Words,pL Zf.enc x1.1.Materials,pL Zb.enc x1.1.Parts,pB x1.1.Incomplete]) rfl rfl rfl rfl rfl bT zl4 (aE [(2,pI x1.2)] (by kernel_rfl) (br (fC 1 [(16,.agg [pS (⟨#[57,52]⟩:Xh),pI 0,pI 100,pN,pB false])] (by kernel_rfl) (aj rfl (bp rfl rfl rfl rfl rfl (eE rfl jy) rfl rfl rfl rfl (fun b3=>?_))))))))))))
 refine dw (enc:=eS) (xs:=[(⟨#[99,104,97,105,114]⟩:Xh)]) 17 rfl (by exact aN) ?_
 refine aj rfl (bp rfl rfl rfl rfl rfl (eE rfl jy) rfl rfl rfl rfl (fun b5=>?_))
 refine dw (enc:=(eL eS)) (xs:=[[(⟨#[99,104,97,105,114]⟩:Xh)]]) 18 rfl (by exact aN) ?_
 refine ba 1 [(19,.agg [pS (⟨#[57,52,48,49]⟩:Xh),pI 0,pI 100,pL (eL eS) [[(⟨#[99,104,97,105,114]⟩:Xh)]],pB false])] (by kernel_rfl) (oL 16 3 rfl rfl (aj rfl (bp rfl rfl rfl rfl rfl (eE rfl (eE rfl jy)) rfl rfl rfl rfl (fun b7=>?_))))
 refine dw (enc:=Za.enc) (xs:=[(⟨(⟨#[57,52]⟩:Xh),0,100,[],false⟩:Za),(⟨(⟨#[57,52,48,49]⟩:Xh),0,100,[[(⟨#[99,104,97,105,114]⟩:Xh)]],false⟩:Za)]) 20 rfl (by exact aN) ?_
 refine ba 1 [(21,.agg [pL Za.enc [(⟨(⟨#[57,52]⟩:Xh),0,100,[],false⟩:Za),(⟨(⟨#[57,52,48,49]⟩:Xh),0,100,[[(⟨#[99,104,97,105,114]⟩:Xh)]],false⟩:Za)],pN])] (by kernel_rfl) (aj rfl (aP (cs:=[pN,pN]) rfl rfl rfl rfl (fun b9=>aM rfl rfl (al (vs:=[pL Za.enc [(⟨(⟨#[57,52]⟩:Xh),0,100,[],false⟩:Za),(⟨(⟨#[57,52,48,49]⟩:Xh),0,100,[[(⟨#[99,104,97,105,114]⟩:Xh)]],false⟩:Za)],pN]) rfl rfl rfl rfl rfl bT pV (au (br (ak (GI (k:=1) (b:=b9) rfl bT (ae h fun x10 hx10 h=>dh [0,4] [23,24,25,22,26,27,28,5] [(4,pS x10.1),(6,pI x10.2.2)] (aU 2 (kB hx10) aY) (by kernel_rfl) (br (fC 1 [(30,.agg [pI 1000,pI 0])] (by kernel_rfl) (aj rfl (bp rfl rfl rfl rfl rfl (eE rfl jy) rfl rfl rfl rfl (fun b11=>?_))))))))))))))
 refine dw (enc:=Zr.enc) (xs:=[(⟨1000,0⟩:Zr)]) 31 rfl (by exact aN) ?_
 refine ba 1 [(32,.agg [pS (⟨#[69,85,82]⟩:Xh),pI 0,pL Zr.enc [(⟨1000,0⟩:Zr)],pN])] (by kernel_rfl) (oL 32 3 rfl rfl (ae h fun x13 hx13 h=>GC rfl rfl rfl rfl rfl (pf_nil1 [] [_] (sT hx13)) (fV [29,34,35] [(7,pL eI x13.1),(8,pI x13.2)] (by kernel_rfl) (bM (bF (rg 36 18) [(54,pB (((((x1.2 != 0)||(x10.2.2 != 0))||(x13.2 != 0))||((x13.1.length:Int) != 1))||(!decide (x10.1=(⟨#[57,52,48,49]⟩:Xh)))))] (by kernel_rfl) rfl h (fun hc14 h=>?_) fun hc14 h=>?_)))))
 ·refine ag ?_
  refine de [(0,pB false)] (by kernel_rfl) ?_
  exact zz r h rfl
 refine af ?_
 refine br (ak (bU 2 [55] [(56,.agg [pI 1,pI 1,pS (⟨#[57,52]⟩:Xh),pN,pI 0,pI 0,pI 100,pI (-1),pI 50000,pI 0,pI 0,pB false,pI 0,pB false,pI 0])] (by kernel_rfl) (oL 56 3 rfl rfl (aj rfl (bp rfl rfl rfl rfl rfl (eE rfl jy) rfl rfl rfl rfl (fun b15=>aE [(9,pO (some ⟨b15,0,none⟩) 1 1)] (by kernel_rfl) (br ?_)))))))
 refine fj (enc:=Zc.enc) (xs:=[(⟨1,1,(⟨#[57,52]⟩:Xh),[],0,0,100,(-1),(⟨50000,0,0,false,0,false,0⟩:Zs)⟩:Zc)]) 9 rfl (by exact aN) ?_
 refine bE (ρd:=[]) [(0,0),(1,0),(3,0),(4,0),(5,0),(2,1),(6,0),(7,1),(8,0),(9,0),(10,0),(11,0),(12,0)] _ Vh (by kernel_rfl) rfl (ae h fun m17 hm17 h=>ae h fun x18 hx18 h=>ca 6 [] [60,62,63] [(59,pL Zc.enc [(⟨1,1,(⟨#[57,52]⟩:Xh),[],0,0,100,(-1),(⟨50000,0,0,false,0,false,0⟩:Zs)⟩:Zc)]),(64,pI m17),(61,pS x18)] (bX 3 eI hm17 (aU 5 (oQ hx18) aY)) (by kernel_rfl) (lW rfl rfl rfl (j8 (cs:=[pS x18,pS (⟨#[65,65]⟩:Xh),pB false,pI 0,pI 0,pI 1,pI m17,pI 0]) rfl rfl rfl rfl rfl rfl rfl (sZ rfl rfl rfl rfl ii (sZ rfl rfl rfl rfl (bV ii) (sZ rfl rfl rfl rfl (bV (bV (bV (bV (bV ii))))) (sZ rfl rfl rfl rfl (bV (bV (bV (bV (bV (bV ii)))))) Ip))))) (ae h fun x19 hx19 h=>ca 6 [] [66,58,67,68] [(10,pI x19.1),(11,pI x19.2)] (aU 0 (wf hx19) aY) (by kernel_rfl) (bZ (br (ah (rg 69 6) [(0,pB ((x19.1 == 50)&&(x19.2 == 0)))] (by kernel_rfl) (cK ?_)))))))
 exact zz r h rfl
end SX
end Go.Proofs.YtbedcfghfcmkdaaGreatDoor
set_option maxRecDepth 100000
namespace Go.Proofs.YtbedcfghfcmkdaaGreatDoor
namespace SX
open Go Go.RowKit
def eY (x:UInt8):List PV:=[.v (.int .u8 (x.toNat:Int))]
def sV (b:Nat) (a:Option Addr) (n c:Nat):Ja:=⟨some b,fun o=>(a=none\/c≠0)/\∃ p,(p=.pointer none\/p=.pointer (some ⟨b,0,none⟩))/\o=some (.cells #[p,.slice a n c] 92 (0,0))⟩
theorem vl {β:Jc} {O:Kr} {r r':Ja} {l:List Ja} (h:Zt β (r::l) O) (hb:r'.blk=r.blk) (hs:r'.holds O.w):Zt β (r'::l) O :=
 ⟨h.le,h.fin,fun s hs'=>by
  rcases List.mem_cons.1 hs' with rfl | hs'
  ·exact hs
  ·exact h.own s (by simp [hs']),fun s hs' b hbs=>by
  rcases List.mem_cons.1 hs' with rfl | hs'
  ·exact h.blk r (by simp) b (hb ▸ hbs)
  exact h.blk s (by simp [hs']) b hbs,List.Pairwise.cons (fun s hs' b hbs=>(List.pairwise_cons.1 h.nd).1 s hs' b (hb ▸ hbs)) (List.pairwise_cons.1 h.nd).2⟩
section
variable {n':Nat} {x:Code} {K:Exit->Ua} {Z:Xa} {ρ l:List Qa} {b n c:Nat} {a:Option Addr}
theorem xV (hp:Ub ρ (.raw (sV b a n c)) l) (h:∀ p,(p=.pointer none\/p=.pointer (some ⟨b,0,none⟩))->(a=none\/c≠0)->Ka n' x K Z (.b b 92 [.v p,.v (.slice a n c)]::l)):Ka n' x K Z ρ:=fun β O Z' rr g hs hr hi=>by
 obtain ⟨r0,l',hp,h4,h5⟩:=hr.pick hp
 cases h4 with
 | raw =>
  have hi2:=hi.perm hp
  obtain ⟨hac,p,hpp,hs2⟩:=hi2.own _ mem_cons_self
  have hok:sM p=true:=by rcases hpp with rfl | rfl <;> rfl
  have hone:p.oneCell'=true:=by rcases hpp with rfl | rfl <;> rfl
  have hi3:Zt β (Ja.b b 92 [p,.slice a n c]::l') O:=vl hi2 rfl hs2
  have:=h p hpp hac β O Z' _ g hs (.cons (.b (fun u hu=>by rcases List.mem_cons.1 hu with rfl | hu;exact hone;rw [List.mem_singleton.1 hu];rfl) (.cons (.v hok) (.cons (.v rfl) .nil))) h5) hi3
  intro df aa hrel Q hq
  exact this aa hrel Q hq
theorem BY {p:Value} (hp:Ub ρ (.b b 92 [.v p,.v (.slice a n c)]) l) (hpp:p=.pointer none\/p=.pointer (some ⟨b,0,none⟩)) (hac:a=none\/c≠0) (h:Ka n' x K Z (.raw (sV b a n c)::l)):Ka n' x K Z ρ:=fun β O Z' rr g hs hr hi=>by
 obtain ⟨r0,l',hp,h4,h5⟩:=hr.pick hp
 cases h4 with
 | b ho hc =>
  rename_i ds
  obtain ⟨v1,w1,rfl,k1,k2⟩:=hc.cons_inv
  obtain ⟨v2,w2,rfl,k3,k4⟩:=k2.cons_inv
  have:=k4.nil_inv;subst this
  have e1:=k1.val;have e2:=k3.val
  subst e1 e2
  have hi2:=hi.perm hp
  have hi3:Zt β (sV b a n c::l') O:=vl hi2 rfl ⟨hac,_,hpp,hi2.own _ mem_cons_self⟩
  exact h β O Z' _ g hs (.cons .raw h5) hi3
theorem xW {T sz:Nat} {css:List (List PV)} (hm:Qa.row a n c T sz css∈ρ) (h:(a=none\/n<=c)->Ka n' x K Z ρ):Ka n' x K Z ρ:=fun β O Z' rr g hs hr hi=>by
 obtain ⟨r,hr1,hr2⟩:=hr.mem hm
 cases hr2 with
 | row hb ho hc =>
  have h1:=hi.own _ hr1
  refine h ?_ β O Z' rr g hs hr hi
  cases a with
  | none=>exact .inl rfl
  | some ad=>obtain ⟨_,_,_,h4,_⟩:=h1;exact .inr h4
end
theorem zl {o:Oper} {Z:Xa} {ρ:List Qa} {K:PV->List Qa->Prop} (ho:o.op=.alloc 92) (h:∀ b,K (.v (.pointer (some ⟨b,0,none⟩))) (.raw (sV b none 0 0)::.row none 0 0 5 1 ([].map eY)::ρ)):Qb o Z ρ K:=fun O Z' rr g hs hr β hi Nx hk=>by
 have:=aP (K:=fun pv ρ'=>∃ b,pv=.v (.pointer (some ⟨b,0,none⟩))/\ρ'=.b b 92 [.v (.pointer none),.v (.slice none 0 0)]::ρ) ho (cs:=[.v (.pointer none),.v (.slice none 0 0)]) rfl rfl rfl (fun b=>⟨b,rfl,rfl⟩) O Z' rr g hs hr β hi
 refine this Nx fun v ρ' O' hi' hk' ⟨pv,ρp,r1,r2,b,e1,e2⟩=>?_
 subst e1 e2
 obtain ⟨r0,l',rfl,h4,h5⟩:=r2.cons_inv
 cases h4 with
 | b ho hc =>
  rename_i ds
  obtain ⟨v1,w1,rfl,k1,k2⟩:=hc.cons_inv
  obtain ⟨v2,w2,rfl,k3,k4⟩:=k2.cons_inv
  have:=k4.nil_inv;subst this
  have e1:=k1.val;have e2:=k3.val
  subst e1 e2
  have hi3:Zt β (sV b none 0 0::l') O':=vl hi' rfl ⟨.inl rfl,_,.inl rfl,hi'.own _ mem_cons_self⟩
  have hi4:=(hi3.nilrow 5 1).perm (List.Perm.swap _ _ _)
  exact hk _ _ _ hi4 hk' ⟨_,_,r1,.cons .raw (.cons (.row (by omega) (fun _ h=>by cases h) .nil) h5),h b⟩
theorem Fi {o:Oper} {Z:Ma} {ρ:List Ja} {O:Kr} {K:Value->List Ja->Kr->Prop} {s x:Operand} {t u T:Nat} {a:Option Addr} {n c:Nat} {css:List (List Value)} {st:Xh} {l:List Ja} {z:Value} {by':Nat}
    (ho:o.op=.call { callee:=.builtin .append,args:=#[s,x],argTypes:=#[t,u] }) (hu:fQ t=some (.slice T)) (hu2:fQ u=some .string) (hi:iE T=some (z,1,by')) (hz:z=.int .u8 0) (hby:by'=1)
    (hs:ev Z s=.slice a n c) (hx:ev Z x=.string st) (hp:Sd ρ (Ja.row a n c T 1 css) l) (hb:n+st.size<=140737488355328)
    (h:∀ a' c' O',Sa O O'->(n=0->st.size=0->a'=a/\c'=c)->K (.slice a' (n+st.size) c') (Ja.row a' (n+st.size) c' T 1 (css++(Lib.strCells st).map fun v=>[v])::l) O'):Lc o Z ρ O K:=fun β hinv Nx hk=>by
  subst hz hby
  have hi2:=hinv.perm hp
  have hrow:=hi2.own _ (mem_cons_self)
  obtain ⟨hown,hl1,hw1⟩:=im hrow
  obtain ⟨i,hinf,hz0,hsz,hby⟩:=o9 hi
  have hfl:((Lib.strCells st).map fun v=>[v]).flatten=Lib.strCells st:=by
    generalize Lib.strCells st=q
    induction q with
    | nil=>rfl
    | cons v vs ih=>rw [map_cons,List.flatten_cons,ih];rfl
  have hcl:(css++(Lib.strCells st).map fun v=>[v]).length=n+st.size:=by rw [List.length_append,hl1,length_map,Lib.strCells_length]
  have hcw:∀ cs∈css++((Lib.strCells st).map fun v=>[v]),cs.length=1:=fun cs hcs=>(List.mem_append.1 hcs).elim (hw1 cs) (fun h=>by obtain ⟨v,_,rfl⟩:=List.mem_map.1 h;rfl)
  have hml:n+st.size<=maxLen:=by unfold maxLen;omega
  obtain ⟨v',w',g1,g2,g3,_⟩:=Lib.run_append_own_string (P:=Tryz.prog) O.w 0 t u o.type T i (bD hu) (bD hu2) hinf hz0 hsz hby (.slice a n c) n css.flatten hown st hml hb (Nat.zero_le _)
  have g4:(v'.ownBlock=(Value.slice a n c).ownBlock\/v'.ownBlock=some O.w.heap.size)/\(n=0->st.size=0->v'=.slice a 0 c):=by
    rcases hown.2 with ⟨e0,rfl⟩ | ⟨gb,cap,cur,e0,hbg,hg,hnc,hcm,hcs,htake⟩
    · injection e0 with ea en ec
      subst ea ec
      by_cases hm:st.size=0
      · have hn:Lib.strCells st=[]:=List.eq_nil_of_length_eq_zero (by rw [Lib.strCells_length];exact hm)
        have hf:=Lib.run_firstCells_string (P:=Tryz.prog) O.w 1 st
        rw [hm,hn] at hf
        have hr:(Builtin.append_ #[t,u] o.type #[.slice none 0 0,.string st]).run Tryz.prog O.w=.ok (.slice none 0 0) O.w:=by
          simp [Builtin.append_,run_underlying (bD hu),run_underlying (bD hu2),sizeOf,typeInfo,hinf,hsz,Builtin.lenOf,hm,hf]
        rw [hr] at g1
        injection g1 with g1 _
        subst g1
        exact ⟨.inl rfl,fun _ _=>rfl⟩
      have hr:=run_append_nil_string (P:=Tryz.prog) O.w t u o.type T i (.int .u8 0) (bD hu) (bD hu2) hinf hz0 st (by omega) (by omega) (by rw [hby];omega)
      rw [hr] at g1
      injection g1 with g1 _
      subst g1
      exact ⟨.inr rfl,fun _ h=>absurd h hm⟩
    injection e0 with ea en ec
    subst ea ec
    have hxl:css.flatten.length=n:=by rw [fS hw1,hl1,mul_one]
    by_cases hroom:n+st.size<=c
    · have hcs':cur.size=c:=by simpa using hcs
      have hr:=Lib.run_append_room_string (P:=Tryz.prog) O.w t u o.type T i (bD hu) (bD hu2) hinf hsz gb n c cur hg st hroom (by omega)
      rw [hr] at g1
      injection g1 with g1 _
      subst g1
      exact ⟨.inl rfl,fun h1 h2=>by rw [h1,h2]⟩
    have holds:∀ j u,css.flatten[j]?=some u->O.w.cell? ((⟨gb,0,none⟩:Addr).add j)=some u:=hown.cells (g:=gb) rfl
    have hr:=Lib.run_append_grow_string (P:=Tryz.prog) O.w t u o.type T i (.int .u8 0) (bD hu) (bD hu2) hinf hz0 ⟨gb,0,none⟩ n c css.flatten (by rw [hsz];simpa using hxl) holds st (by omega) (by omega) (by rw [hby];exact growslice_fits (by omega) (by omega))
    rw [hr] at g1
    injection g1 with g1 _
    subst g1
    exact ⟨.inr rfl,fun h1 h2=>by omega⟩
  have g2:w'.ownsRow 0 T 1 v' (n+st.size) (css++(Lib.strCells st).map fun v=>[v]).flatten:=by rw [List.flatten_append,hfl];exact g2
  obtain ⟨a',c',rfl,k1,k2⟩:=Bb hcl hcw g2
  have hblk:(Ja.row a n c T 1 css).blk=(Value.slice a n c).ownBlock:=by cases a <;> rfl
  obtain ⟨hi3,hk3⟩:=hi2.grow (r':=Ja.row a' (n+st.size) c' T 1 (css++(Lib.strCells st).map fun v=>[v])) (by rw [hblk];exact g3) (by rw [hblk,k2];exact .inr g4.1) k1 (zS k1) (oA _ _ _ _ _ g1)
  unfold execOp
  simp only [ho,resolve,invoke,builtin,Sem.run_bind,Sem.run_pure,Result.andThen_ok,map_toArray,map_cons,map_nil,hs,hx,g1,Wc]
  exact hk _ _ _ hi3 hk3 (h _ _ _ hk3 fun h1 h2=>by
    have:=g4.2 h1 h2
    injection this with e1 _ e2
    exact ⟨e1,e2⟩)
def bws (l:List UInt8) (s:Xh):Option (List UInt8):=cond (Nat.ble (l.length+s.size) 140737488355328) (some (l++s.data.toList)) none
theorem BZ {l l':List UInt8} {s:Xh} (h:bws l s=some l'):l'=l++s.data.toList/\l.length+s.size<=140737488355328:=by
 unfold bws at h
 cases hq:Nat.ble (l.length+s.size) 140737488355328 with
 | false=>rw [hq] at h;cases h
 | true=>rw [hq,cQ] at h;exact ⟨(Option.some.inj h).symm,Nat.le_of_ble_eq_true hq⟩
theorem Ea {O:Kr}:∀ {xs:List UInt8},Mb O (xs.map eY) (xs.map fun x=>[Value.int .u8 (x.toNat:Int)])
 | []=>.nil
 | _::_=>.cons (.cons (.v rfl) .nil) Ea
theorem tT {O:Kr}:∀ {xs:List UInt8} {dss:List (List Value)},Mb O (xs.map eY) dss->dss=xs.map fun x=>[Value.int .u8 (x.toNat:Int)]
 | [],_,h=>h.nil_inv
 | x::xs,_,h=>by
  obtain ⟨d,ds,rfl,h1,h2⟩:=h.cons_inv
  obtain ⟨v,vs,rfl,h3,h4⟩:=h1.cons_inv
  rw [tT h2,h4.nil_inv,h3.val];rfl
theorem Fj {o:Oper} {Z:Xa} {ρ l:List Qa} {K:PV->List Qa->Prop} {s x:Operand} {t u T n c by':Nat} {a:Option Addr} {xs ys:List UInt8} {st:Xh} {z:Value} (ho:o.op=.call { callee:=.builtin .append,args:=#[s,x],argTypes:=#[t,u] }) (hu:fQ t=some (.slice T)) (hu2:fQ u=some .string) (hi:iE T=some (z,1,by')) (hz:z=.int .u8 0) (hby:by'=1) (hs:bt Z s=.v (.slice a n c)) (hn:n=xs.length) (hx:bt Z x=pS st) (hp:Ub ρ (.row a n c T 1 (xs.map eY)) l) (hb:bws xs st=some ys) (h:∀ a' c',(xs=[]->st.size=0->a'=a/\c'=c)->K (.v (.slice a' ys.length c')) (.row a' ys.length c' T 1 (ys.map eY)::l)):Qb o Z ρ K:=fun O Z' rr g hm hr β hinv Nx hk=>by
 obtain ⟨rfl,hle⟩:=BZ hb
 subst hn
 obtain ⟨r0,l',k1,k2,k3⟩:=hr.pick hp
 cases k2 with
 | row hbn ho1 hc =>
  rename_i dss
  have hd:=tT hc
  subst hd
  have hsl:(xs++st.data.toList).length=xs.length+st.size:=by rw [List.length_append,Array.length_toList];rfl
  refine Fi ho hu hu2 hi hz hby (hm.v1 hs) (hm.v1 hx) k1 hle (fun a' c' O' hk' hsame=>⟨_,_,.v rfl,.cons (.row (css:=(xs++st.data.toList).map eY) hle (fun d hd=>?_) ?_) (k3.mono hk'),?_⟩) β hinv Nx hk
  ·rcases List.mem_append.1 hd with hd | hd
   ·exact ho1 d hd
   obtain ⟨v,hv,rfl⟩:=List.mem_map.1 hd;intro u hu;rw [List.mem_singleton.1 hu];exact Lib.strCells_oneCell st v hv
  ·rw [List.map_append]
   refine (hc.mono hk').app ?_
   have:((Lib.strCells st).map fun v=>[v])=st.data.toList.map fun x=>[Value.int .u8 (x.toNat:Int)]:=by unfold Lib.strCells;rw [List.map_map];rfl
   rw [this];exact Ea
  have:=h a' c' (fun e1 e2=>hsame (by rw [e1];rfl) e2)
  rw [hsl] at this;exact this
theorem tf {b n c:Nat} {a:Option Addr} {p:Value} (hp:p=.pointer none\/p=.pointer (some ⟨b,0,none⟩)):La 68 [pP b 0] [Qa.b b 92 [.v p,.v (.slice a n c)]] (fun pv ρ'=>pv=.tup []/\ρ'=[Qa.b b 92 [.v (.pointer (some ⟨b,0,none⟩)),.v (.slice a n c)]]):=fun O args ρ g ha hr=>by
 obtain ⟨v,ws,rfl,ha1,ha2⟩:=ha.cons_inv
 rw [ha2.nil_inv,ha1.val]
 obtain ⟨r0,l',rfl,hr1,hr2⟩:=hr.cons_inv
 have:=hr2.nil_inv;subst this
 refine ⟨(CG Tryz.func68 rfl),fun hi=>?_⟩
 cases hr1 with
 | b ho1 hc =>
  obtain ⟨v1,w1,rfl,k1,k2⟩:=hc.cons_inv
  obtain ⟨v2,w2,rfl,k3,k4⟩:=k2.cons_inv
  have:=k4.nil_inv;subst this
  have e1:=k1.val;have e2:=k3.val
  subst e2
  rw [<- e1] at hp
  have hb:O.w.heap[b]?=some (.cells #[v1,.slice a n c] 92 (0,0)):=hi.own _ mem_cons_self
  have hres:∀ O',Ta O' [Qa.b b 92 [.v (.pointer (some ⟨b,0,none⟩)),.v (.slice a n c)]] [Ja.b b 92 [.pointer (some ⟨b,0,none⟩),.slice a n c]]:=fun O'=>.cons (.b (fun u hu=>by rcases List.mem_cons.1 hu with rfl | hu;rfl;rw [List.mem_singleton.1 hu];rfl) (.cons (.v rfl) (.cons (.v rfl) .nil))) .nil
  rcases hp with rfl | rfl
  ·refine (Any.Builder_copyCheck_fresh { Tryz.lJn with } rY.toX72 b O.w (by simp [World.cell?,hb]) (by simp [World.shape?,hb];rfl) (by simp [World.frozen?,hb])).mono fun e w' ⟨e1,e2⟩=>?_
   subst e1 e2
   obtain ⟨i1,i2⟩:=hi.turn (l1:=[]) (r:=Ja.b b 92 [.pointer none,.slice a n c]) (r':=Ja.b b 92 [.pointer (some ⟨b,0,none⟩),.slice a n c]) (b:=b) (w':=O.w.setCell ⟨b,0,none⟩ (.pointer (some ⟨b,0,none⟩))) rfl rfl rfl (fun i hi=>by simp only [World.setCell,Array.getElem?_modify];rw [if_neg (fun e=>hi e.symm)]) (by simp [World.setCell]) (by
    show (O.w.setCell ⟨b,0,none⟩ (.pointer (some ⟨b,0,none⟩))).heap[b]?=_
    simp only [World.setCell,Array.getElem?_modify,if_true,hb,Option.map_some];rfl) rfl rfl rfl (le_refl _)
   exact ⟨_,_,⟨_,O.S⟩,rfl,rfl,i1,_,_,.tup .nil,hres _,rfl,rfl⟩
  refine (Any.Builder_copyCheck_used { Tryz.lJn with } rY.toX72 b O.w (by simp [World.cell?,hb])).mono fun e w' ⟨e1,e2⟩=>?_
  subst e1 e2
  exact ⟨_,_,O,rfl,rfl,hi,_,_,.tup .nil,hres _,rfl,rfl⟩
end SX
end Go.Proofs.YtbedcfghfcmkdaaGreatDoor
set_option maxRecDepth 100000
namespace Go.Proofs.YtbedcfghfcmkdaaGreatDoor
namespace SX
open Go Go.RowKit
theorem Av {o:Oper} {Z:Xa} {ρ:List Qa} {K:PV->List Qa->Prop} {x:Operand} {ts:Array Nat} {a:Option Addr} {n c:Nat} (ho:o.op=.call { callee:=.builtin .unsafeSliceData,args:=#[x],argTypes:=ts }) (hx:bt Z x=.v (.slice a n c)) (hac:a=none\/c≠0) (h:K (.v (.pointer a)) ρ):Qb o Z ρ K:=fun O Z' rr g hs hr β hi Nx hk=>by
 have e1:ev Z' x=_:=hs.v1 hx
 have hrun:(Builtin.unsafeSliceData_ ts o.type #[.slice a n c]).run Tryz.prog O.w=.ok (.pointer a) O.w:=by
  cases a with
  | none=>exact Lib.run_unsafeSliceData_nil _ _ _ _ _
  | some ad=>exact Lib.run_unsafeSliceData_row _ _ _ _ _ _ (hac.resolve_left (by simp))
 unfold execOp
 simp only [ho,resolve,invoke,builtin,Sem.run_bind,Sem.run_pure,Result.andThen_ok,map_toArray,map_cons,map_nil,e1,hrun,Wc]
 exact hk _ _ O hi (.refl _) ⟨_,_,.v rfl,hr,h⟩
theorem wi {o:Oper} {Z:Xa} {ρ ρ':List Qa} {K:PV->List Qa->Prop} {x y:Operand} {ts:Array Nat} {a:Option Addr} {n c:Nat} {l:List UInt8} (ho:o.op=.call { callee:=.builtin .unsafeString,args:=#[x,y],argTypes:=ts }) (hts:ts=#[Tryz.lJn_ren.t 127,Tryz.lJn_ren.t 3]) (hty:o.type=Tryz.lJn_ren.t 9) (hx:bt Z x=.v (.pointer a)) (hy:bt Z y=.v (.int .i64 (n:Int))) (hp:Ub ρ (.row a n c 5 1 (l.map eY)) ρ') (h:K (.v (.string ⟨l.toArray⟩)) ρ'):Qb o Z ρ K:=fun O Z' rr g hs hr β hi Nx hk=>by
 subst hts
 have e1:ev Z' x=_:=hs.v1 hx
 have e2:ev Z' y=_:=hs.v1 hy
 obtain ⟨r0,l',hpp,h4,h5⟩:=hr.pick hp
 cases h4 with
 | row hb ho1 hc =>
  rename_i dss
  have hd:=tT hc
  subst hd
  have hi2:=hi.perm hpp
  have hrow:=hi2.own _ mem_cons_self
  have hll:l.length=n:=by have:=(im hrow).2.1;rwa [length_map] at this
  have hok:sM (.string ⟨l.toArray⟩)=true:=by
   have:(⟨l.toArray⟩:Xh).size=l.length:=by show l.toArray.size=_;simp
   simp only [sM,this];exact Nat.ble_eq_true_of_le (by omega)
  by_cases h0:l=[]
  ·subst h0
   have hn0:n=0:=by simpa using hll.symm
   subst hn0
   have hrun:=Any.unsafeString_none { Tryz.lJn with } rY O.w a
   unfold execOp
   simp only [ho,hty,resolve,invoke,builtin,Sem.run_bind,Sem.run_pure,Result.andThen_ok,map_toArray,map_cons,map_nil,e1,e2]
   have hrun2:(Builtin.unsafeString_ #[Tryz.lJn_ren.t 127,Tryz.lJn_ren.t 3] (Tryz.lJn_ren.t 9) #[.pointer a,.int .i64 ((0:Nat):Int)]).run Tryz.prog O.w=.ok (.string .empty) O.w:=hrun
   simp only [hrun2,Result.andThen_ok,Sem.run_pure,Wc]
   exact hk _ _ O (hi2.sub (List.sublist_cons_self _ _)) (.refl _) ⟨_,_,.v rfl,h5,h⟩
  have hn0:0<n:=by rw [<- hll];exact List.length_pos_iff.2 h0
  have ha:=nD hrow hn0
  generalize uf a=B at ha
  subst ha
  obtain ⟨g0,g1,g2,g3,g4,cur,g5,g6,g7⟩:=hrow
  have hcur:cur.toList.take n=l.map fun x=>Value.int .u8 (x.toNat:Int):=by
   rw [mul_one] at g7
   rw [g7]
   generalize l=q
   induction q with
   | nil=>rfl
   | cons z zs ih=>simp at ih ⊢;exact ih
  have hcell:∀ (j:Nat) (x:UInt8),l[j]?=some x->O.w.cell? ((⟨B,0,none⟩:Addr).add j)=some (.int .u8 x.toNat):=fun j x hj=>by
   have hjn:j<n:=by rw [<- hll];exact (List.getElem?_eq_some_iff.1 hj).1
   have e3:cur.toList[j]?=some (Value.int .u8 (x.toNat:Int)):=by
    have:=congrArg (fun q=>q[j]?) hcur
    simp only [List.getElem?_take,List.getElem?_map,hj] at this
    rw [if_pos hjn] at this;exact this
   rw [iU,zero_add]
   simp only [World.cell?,g5,Option.isSome_none,Bool.false_eq_true,if_false]
   rw [<- Array.getElem?_toList];exact e3
  have hrun:=Lib.run_unsafeString_row (P:=Tryz.prog) O.w (Tryz.lJn_ren.t 127) (Tryz.lJn_ren.t 3) (Tryz.lJn_ren.t 9) 5 (by kernel_rfl) (by kernel_rfl) B c (by simp [World.shape?,g5];omega) l h0 (by omega) (by omega) hcell
  rw [hll] at hrun
  unfold execOp
  simp only [ho,hty,resolve,invoke,builtin,Sem.run_bind,Sem.run_pure,Result.andThen_ok,map_toArray,map_cons,map_nil,e1,e2,hrun,Wc]
  have hsz:(O.w.freeze ⟨B,0,none⟩ n).heap.size=O.w.heap.size:=by unfold World.freeze;split <;> simp
  obtain ⟨i1,i2⟩:=hi2.turn (l1:=[]) (r':=⟨some B,fun _=>True⟩) (b:=B) (w':=O.w.freeze ⟨B,0,none⟩ n) rfl rfl rfl (fun i hi=>by
   unfold World.freeze;split
   ·rfl
   simp only [Array.getElem?_modify];rw [if_neg (fun e=>hi e.symm)]) hsz trivial (by unfold World.freeze;split <;> rfl) (by unfold World.freeze;split <;> rfl) (by unfold World.freeze;split <;> rfl) (by unfold World.freeze;split <;> exact le_refl _)
  exact hk _ _ _ (i1.sub (List.sublist_cons_self _ _)) i2 ⟨_,_,.v hok,h5.mono i2,h⟩
attribute [local irreducible] Wa Ka Vc Qb Na Ra Pa Vb Ub Nc Jb Uc Qd PF Yc La Lb dU dM ke kV ip jN Yd Ya app
theorem lQ {b n c:Nat} {a:Option Addr} {l l':List UInt8} {s:Xh} (h:bws l s=some l'):La 32 [pP b 0,pS s] [.raw (sV b a n c),.row a n c 5 1 (l.map eY)] (fun pv ρ'=>pv=.tup [pI (s.size:Int),.v .nilIface]/\∃ a' c',ρ'=[.raw (sV b a' l'.length c'),.row a' l'.length c' 5 1 (l'.map eY)]):=by
 refine gC Tryz.func32 rfl Tryz.ntmps32 Tryz.results32 rfl ?_
 refine xV aN (fun p hp hac=>?_)
 refine dR (enc:=eY) (xs:=l) (a:=a) (by (repeat (first | exact List.Mem.head _ | apply List.Mem.tail))) (fun hl ha=>?_);subst hl;clear ha
 (repeat refine ag ?_)
 refine ai [] [4,5] [] aY (by kernel_rfl) ?_
 (repeat (first | apply aF | apply aD))
 (repeat refine ag ?_)
 refine ak ?_
 refine iW 1 [] [] [(6,pP b 0)] aY (by kernel_rfl) ?_
 refine p5 rfl rfl rfl (aI rfl rfl (ρ1:=[_]) (aq (by (repeat (first | exact aN | apply aC))) Vh) (tf hp) ?_);rintro _ _ ⟨rfl,rfl⟩
 refine au ?_
 (repeat (first | apply aF | apply aD))
 (repeat refine ag ?_)
 refine ak ?_
 refine iW 6 [0] [9,10,11] [(8,pP b 0),(12,.v (.slice a l.length c)),(13,pS s)] aY (by kernel_rfl) ?_
 refine p5 rfl rfl rfl (Fj rfl rfl rfl rfl rfl rfl rfl rfl rfl (by (repeat (first | exact aN | apply aC))) h (fun a' c' hsame0=>?_))
 have hsame:l'.length=0->a'=a/\c'=c:=fun h0=>by
  have e:=(BZ h).1
  have h1:l++s.data.toList=[]:=e ▸ List.eq_nil_of_length_eq_zero h0
  obtain ⟨h2,h3⟩:=List.append_eq_nil_iff.1 h1
  exact hsame0 h2 (by show s.data.size=0;rw [<- Array.length_toList,h3];rfl)
 refine iW 2 [] [15] [(16,pP b 1)] aY (by kernel_rfl) ?_
 refine aM rfl rfl (al (vs:=[.v (.slice a' l'.length c')]) rfl rfl rfl rfl rfl (by (repeat (first | exact bT | apply cE))) (by (repeat (first | exact GM | apply gr | apply bV))) ?_)
 refine au ?_
 (repeat (first | apply aF | apply aD))
 (repeat refine ag ?_)
 refine xW (by (repeat (first | exact List.Mem.head _ | apply List.Mem.tail))) (fun hcap=>?_)
 have hac':a'=none\/c'≠0:=by
  rcases Nat.eq_zero_or_pos l'.length with h0 | h0
  ·obtain ⟨q1,q2⟩:=hsame h0
   rw [q1,q2];exact hac
  rcases hcap with q | q
  ·exact .inl q
  exact .inr (by omega)
 refine BY (by (repeat (first | exact aN | apply aC))) (.inr rfl) hac' ?_
 refine ai [] [17,18] [(4,pI (s.size:Int)),(5,.v .nilIface)] aY (by kernel_rfl) ?_
 (repeat (first | apply aF | apply aD))
 (repeat refine ag ?_)
 refine bi ?_
 (repeat (first | apply bc | apply aO | apply aS | apply i7))
 exact aH (bK (az rfl) (az rfl)) (by (repeat (first | exact bq | (apply bg;(focus (repeat (first | exact aN | apply aC))))))) ⟨rfl,_,_,rfl⟩
theorem vm {b n c:Nat} {a:Option Addr} {l l':List UInt8} {x:UInt8} (h:app 1 l [x]=some l'):La 45 [pP b 0,.v (.int .u8 (x.toNat:Int))] [.raw (sV b a n c),.row a n c 5 1 (l.map eY)] (fun pv ρ'=>pv=.v .nilIface/\∃ a' c',ρ'=[.raw (sV b a' l'.length c'),.row a' l'.length c' 5 1 (l'.map eY)]):=by
 refine gC Tryz.func45 rfl Tryz.ntmps45 Tryz.results45 rfl ?_
 refine xV aN (fun p hp hac=>?_)
 refine dR (enc:=eY) (xs:=l) (a:=a) (by (repeat (first | exact List.Mem.head _ | apply List.Mem.tail))) (fun hl ha=>?_);subst hl;clear ha
 have hpos:l'.length≠0:=by rw [(qa h).1];simp
 (repeat refine ag ?_)
 refine ai [] [4] [] aY (by kernel_rfl) ?_
 (repeat (first | apply aF | apply aD))
 (repeat refine ag ?_)
 refine ak ?_
 refine iW 1 [] [] [(5,pP b 0)] aY (by kernel_rfl) ?_
 refine p5 rfl rfl rfl (aI rfl rfl (ρ1:=[_]) (aq (by (repeat (first | exact aN | apply aC))) Vh) (tf hp) ?_);rintro _ _ ⟨rfl,rfl⟩
 refine au ?_
 (repeat (first | apply aF | apply aD))
 (repeat refine ag ?_)
 refine ak ?_
 refine iW 6 [0] [8,9,10] [(7,pP b 0),(11,.v (.slice a l.length c)),(12,.v (.int .u8 (x.toNat:Int)))] aY (by kernel_rfl) ?_
 refine p5 rfl rfl rfl (bp (css:=List.map eY [x]) rfl rfl rfl rfl rfl (by (repeat (first | exact jy | apply eE rfl))) rfl rfl rfl rfl (fun bb=>?_))
 refine p5 rfl rfl rfl (bw (enc:=eY) rfl rfl rfl rfl rfl rfl rfl rfl rfl (by (repeat (first | exact List.Mem.head _ | apply List.Mem.tail))) (by (repeat (first | exact aN | apply aC))) h (fun a' c'=>?_))
 refine iW 2 [] [15] [(16,pP b 1)] aY (by kernel_rfl) ?_
 refine aM rfl rfl (al (vs:=[.v (.slice a' l'.length c')]) rfl rfl rfl rfl rfl (by (repeat (first | exact bT | apply cE))) (by (repeat (first | exact GM | apply gr | apply bV))) ?_)
 refine au ?_
 (repeat (first | apply aF | apply aD))
 (repeat refine ag ?_)
 refine xW (a:=a') (by (repeat (first | exact List.Mem.head _ | apply List.Mem.tail))) (fun hcap=>?_)
 have hac':a'=none\/c'≠0:=by
  rcases hcap with q | q
  ·exact .inl q
  exact .inr (by omega)
 refine BY (by (repeat (first | exact aN | apply aC))) (.inr rfl) hac' ?_
 refine ai [] [] [(4,.v .nilIface)] aY (by kernel_rfl) ?_
 (repeat (first | apply aF | apply aD))
 (repeat refine ag ?_)
 refine bi ?_
 (repeat (first | apply bc | apply aO | apply aS | apply i7))
 exact aH (dZ (az rfl)) (by (repeat (first | exact bq | (apply bg;(focus (repeat (first | exact aN | apply aC))))))) ⟨rfl,_,_,rfl⟩
theorem th {b n c:Nat} {a:Option Addr} {l:List UInt8}:La 35 [pP b 0] [.raw (sV b a n c),.row a n c 5 1 (l.map eY)] (fun pv ρ'=>pv=pS ⟨l.toArray⟩/\ρ'=[]):=by
 refine gC Tryz.func35 rfl Tryz.ntmps35 Tryz.results35 rfl ?_
 refine xV aN (fun p hp hac=>?_)
 (repeat refine ag ?_)
 refine ai [] [2] [] aY (by kernel_rfl) ?_
 (repeat (first | apply aF | apply aD))
 (repeat refine ag ?_)
 refine bE (ρd:=[Qa.row a n c 5 1 (l.map eY)]) [(0,0),(1,0),(2,0),(3,0),(5,0),(6,0),(7,0),(8,0),(9,0),(4,1),(10,1),(11,0)] _ (List.Perm.swap _ _ _) (by kernel_rfl) rfl ?_
 refine ca 9 [0,0] [3,4,5,8,9,10,11] [(6,.v (.slice a n c)),(12,pI (n:Int))] aY (by kernel_rfl) ?_
 refine jm rfl rfl rfl (Av rfl rfl hac ?_)
 refine jm rfl rfl rfl (wi rfl rfl rfl rfl rfl aN ?_)
 refine ca 1 [] [] [(2,pS ⟨l.toArray⟩)] aY (by kernel_rfl) ?_
 refine bZ ?_
 (repeat (first | apply aF | apply aD))
 (repeat refine ag ?_)
 refine bi ?_
 (repeat (first | apply bc | apply aO | apply aS | apply i7))
 exact aH (dZ (az rfl)) bq ⟨rfl,rfl⟩
end SX
end Go.Proofs.YtbedcfghfcmkdaaGreatDoor
namespace Go.Proofs.YtbedcfghfcmkdaaGreatDoor
namespace SX
open Go
attribute [local irreducible] Wa Ka Vc Qb Na Ra Pa Vb Ub Nc Jb Uc Qd PF Yc La Lb dU dM ke kV ip jN Yd Ya aW bx app mk gd lb nz sN lC sub ff ji xi rE ja ex lJ eO IntKind.wrap Int.tmod Int.tdiv Op.bytesLess strOfNums
def gV (p0:Zh):Option Xh:=(cN p0).bind fun x2=>cond (x2 != 0) (some (⟨#[]⟩:Xh)) ((aW (S:=Int×(List UInt8)) (T:=((List UInt8))) (fun (v6,l8)=>cond (decide (v6<(p0.Entries.length:Int))) ((bx p0.Entries v6).bind fun m18=>(eC m18).bind fun x20=>(lC x20 (⟨#[10]⟩:Xh)).bind fun s21=>(bws l8 s21).bind fun l22=>some (.inl ((i64.wrap (v6+1)),l22))) (some (.inr l8))) Va (0,([]:List UInt8))).bind fun l14=>(aW (S:=Int×(List UInt8)) (T:=((List UInt8))) (fun (v25,l27)=>cond (decide (v25<(p0.Notes.length:Int))) ((bx p0.Notes v25).bind fun m37=>(eU m37).bind fun x39=>(lC x39 (⟨#[10]⟩:Xh)).bind fun s40=>(bws l27 s40).bind fun l41=>some (.inl ((i64.wrap (v25+1)),l41))) (some (.inr l27))) Va (0,l14)).bind fun l33=>some (⟨l33.toArray⟩:Xh))
theorem qM {p0:Zh} {r:Xh}  (h:gV p0=some r):PF 10 [.agg [pL Za.enc p0.Entries,pL Ze.enc p0.Notes]] (pS r):=by
 unfold gV at h
 refine aV ?_
 refine dk Tryz.func10 rfl Tryz.ntmps10 Tryz.results10 rfl (cL rfl (be (cs:=[pL Za.enc p0.Entries,pL Ze.enc p0.Notes]) rfl rfl (fun b1=>aZ [2] (by kernel_rfl) (bM (ae h fun x2 hx2 h=>ai [0] [8,9] [(10,pB (x2 != 0))] (aU 1 (jg hx2) aY) (by kernel_rfl) (fi rfl h (fun hc3 h=>?_) fun hc3 h=>?_))))))
 ·refine ag ?_
  refine de [(2,pS (⟨#[]⟩:Xh))] (by kernel_rfl) ?_
  exact zz r h rfl
 refine af ?_
 refine br (cL rfl (zl rfl (fun b4=>au (bM (aK [2] [11] [(12,pL Za.enc p0.Entries),(13,pI (p0.Entries.length:Int)),(14,pI 0)] (by kernel_rfl) (ey h fun q16 hq16 h=>?_))))))
 refine ap (Y:=(Option Addr×Nat)×((List UInt8))) (fun ((a12,c13),l14)=>[(1,pP b1 0),(3,pP b4 0)]) (fun ((a12,c13),l14)=>[Qa.b b1 26 [pL Za.enc p0.Entries,pL Ze.enc p0.Notes],Qa.raw (sV b4 a12 l14.length c13),Qa.row a12 l14.length c13 5 1 (List.map eY l14)]) (fun ((a12,c13),l14)=>q16=l14) ?_ ?_
 ·refine aG ?_
  refine aJ (Y:=Option Addr×Nat) (S:=Int×(List UInt8)) _ hq16 (fun (a9,c10) (v6,l8)=>[(1,pP b1 0),(3,pP b4 0),(12,pL Za.enc p0.Entries),(13,pI (p0.Entries.length:Int)),(14,pI v6)]) (fun (a9,c10) (v6,l8)=>[Qa.b b1 26 [pL Za.enc p0.Entries,pL Ze.enc p0.Notes],Qa.raw (sV b4 a9 l8.length c10),Qa.row a9 l8.length c10 5 1 (List.map eY l8)]) (none,0) (gA rfl) (bg (aC (aC aN)) tc) ?_
  rintro ⟨a9,c10⟩ ⟨v6,l8⟩ o τ hb15;(try dsimp only at hb15);dsimp only [aw]
  refine cH [(15,pB (decide (v6<(p0.Entries.length:Int))))] (by kernel_rfl) (br (fh rfl hb15 (fun hc17 hb15=>?_) fun hc17 hb15=>?_))
  ·refine af ?_
   refine eT (ae hb15 fun m18 hm18 hb15=>cS 2 [] [16] [(17,.agg (av m18))] (bX 0 Za.enc hm18 aY) (by kernel_rfl) (aj rfl (aP (cs:=[pS Uh,pI 0,pI 0,pN,pB false]) rfl rfl rfl rfl (fun b19=>aM rfl rfl (al (vs:=(av m18)) rfl rfl rfl rfl rfl bT td (au (ey hb15 fun x20 hx20 hb15=>ae hb15 fun s21 hs21 hb15=>ae hb15 fun l22 hl22 hb15=>cS 3 [0] [18,19] [(20,pS s21)] (aU 1 (kY hx20) (ml 2 hs21 aY)) (by kernel_rfl) ?_)))))))
   refine aj rfl (aI rfl rfl (ρ1:=[_,_]) (aq (by exact aC (aC aN)) (aq (by exact aC (aC aN)) Vh)) (lQ hl22) ?_);rintro _ _ ⟨rfl,a23,c24,rfl⟩
   refine au (eH (ah [22] [(14,pI (i64.wrap (v6+1)))] (by kernel_rfl) ?_))
   exact aT hb15 (a23,c24) (gA rfl) (bg (aC (aC (aC aN))) tc)
  refine aL ?_
  refine cJ hb15 (fun ht=>an rfl ?_)
  exact am ((a9,c10),l8) (lK rfl) rI ht.symm
 rintro ⟨⟨a12,c13⟩,l14⟩ τ hz;(try dsimp only at hz);subst q16;(try dsimp only at h);dsimp only [aw]
 refine dV (aK [0] [23] [(24,pL Ze.enc p0.Notes),(25,pI (p0.Notes.length:Int)),(26,pI 0)] (by kernel_rfl) (ey h fun q35 hq35 h=>?_))
 refine ap (Y:=(Option Addr×Nat)×((List UInt8))) (fun ((a31,c32),l33)=>[(3,pP b4 0)]) (fun ((a31,c32),l33)=>[Qa.raw (sV b4 a31 l33.length c32),Qa.row a31 l33.length c32 5 1 (List.map eY l33)]) (fun ((a31,c32),l33)=>q35=l33) ?_ ?_
 ·refine aG ?_
  refine aJ (Y:=Option Addr×Nat) (S:=Int×(List UInt8)) _ hq35 (fun (a28,c29) (v25,l27)=>[(3,pP b4 0),(24,pL Ze.enc p0.Notes),(25,pI (p0.Notes.length:Int)),(26,pI v25)]) (fun (a28,c29) (v25,l27)=>[Qa.raw (sV b4 a28 l27.length c29),Qa.row a28 l27.length c29 5 1 (List.map eY l27)]) (a12,c13) (jC rfl) (bg (aC aN) (bg (aC aN) bq)) ?_
  rintro ⟨a28,c29⟩ ⟨v25,l27⟩ o τ hb34;(try dsimp only at hb34);dsimp only [aw]
  refine cH [(27,pB (decide (v25<(p0.Notes.length:Int))))] (by kernel_rfl) (br (fh rfl hb34 (fun hc36 hb34=>?_) fun hc36 hb34=>?_))
  ·refine af ?_
   refine eT (ae hb34 fun m37 hm37 hb34=>cS 2 [] [28] [(29,.agg [pS m37.Scope,pL eS m37.Words,pS m37.Target])] (bX 0 Ze.enc hm37 aY) (by kernel_rfl) (aj rfl (aP (cs:=[pS Uh,pN,pS Uh]) rfl rfl rfl rfl (fun b38=>aM rfl rfl (al (vs:=[pS m37.Scope,pL eS m37.Words,pS m37.Target]) rfl rfl rfl rfl rfl bT AW (au (ey hb34 fun x39 hx39 hb34=>ae hb34 fun s40 hs40 hb34=>ae hb34 fun l41 hl41 hb34=>cS 3 [0] [30,31] [(32,pS s40)] (aU 1 (lx hx39) (ml 2 hs40 aY)) (by kernel_rfl) ?_)))))))
   refine aj rfl (aI rfl rfl (ρ1:=[_,_]) (aq (by exact aC aN) (aq (by exact aC aN) Vh)) (lQ hl41) ?_);rintro _ _ ⟨rfl,a42,c43,rfl⟩
   refine au (eH (ah [34] [(26,pI (i64.wrap (v25+1)))] (by kernel_rfl) ?_))
   exact aT hb34 (a42,c43) (jC rfl) tc
  refine aL ?_
  refine cJ hb34 (fun ht=>an rfl ?_)
  exact am ((a28,c29),l27) (oC rfl) tc ht.symm
 rintro ⟨⟨a31,c32⟩,l33⟩ τ hz;(try dsimp only at hz);subst q35;(try dsimp only at h);dsimp only [aw]
 refine ag (ak ?_)
 refine aj rfl (aI rfl rfl (ρ1:=[_,_]) (aq (by exact aN) (aq (by exact aN) Vh)) th ?_);rintro _ _ ⟨rfl,rfl⟩
 refine aE [(2,pS (⟨l33.toArray⟩:Xh))] (by kernel_rfl) (cK ?_)
 exact zz r h rfl
def kC (p0:(List Zc)):Option Xh:=(cV p0).bind fun x1=>cond (x1 != 0) (some (⟨#[]⟩:Xh)) ((aW (S:=Int×(List UInt8)) (T:=((List UInt8))) (fun (v5,l7)=>cond (decide (v5<(p0.length:Int))) ((bx p0 v5).bind fun m17=>(eV m17).bind fun x19=>(bws l7 x19).bind fun l20=>(app 1 l20 [(10:UInt8)]).bind fun l23=>some (.inl ((i64.wrap (v5+1)),l23))) (some (.inr l7))) Va (0,([]:List UInt8))).bind fun l13=>some (⟨l13.toArray⟩:Xh))
theorem uw {p0:(List Zc)} {r:Xh}  (h:kC p0=some r):PF 14 [pL Zc.enc p0] (pS r):=by
 unfold kC at h
 refine aV ?_
 refine dk Tryz.func14 rfl Tryz.ntmps14 Tryz.results14 rfl (aQ [2] (by kernel_rfl) (bM (ae h fun x1 hx1 h=>ai [] [6,7] [(8,pB (x1 != 0))] (aU 1 (jk hx1) aY) (by kernel_rfl) (fi rfl h (fun hc2 h=>?_) fun hc2 h=>?_))))
 ·refine ag ?_
  refine de [(2,pS (⟨#[]⟩:Xh))] (by kernel_rfl) ?_
  exact zz r h rfl
 refine af ?_
 refine br (cL rfl (zl rfl (fun b3=>au (bM (aA [(9,pL Zc.enc p0),(10,pI (p0.length:Int)),(11,pI 0)] (by kernel_rfl) (ey h fun q15 hq15 h=>?_))))))
 refine ap (Y:=(Option Addr×Nat)×((List UInt8))) (fun ((a11,c12),l13)=>[(3,pP b3 0)]) (fun ((a11,c12),l13)=>[Qa.raw (sV b3 a11 l13.length c12),Qa.row a11 l13.length c12 5 1 (List.map eY l13)]) (fun ((a11,c12),l13)=>q15=l13) ?_ ?_
 ·refine aG ?_
  refine aJ (Y:=Option Addr×Nat) (S:=Int×(List UInt8)) _ hq15 (fun (a8,c9) (v5,l7)=>[(3,pP b3 0),(9,pL Zc.enc p0),(10,pI (p0.length:Int)),(11,pI v5)]) (fun (a8,c9) (v5,l7)=>[Qa.raw (sV b3 a8 l7.length c9),Qa.row a8 l7.length c9 5 1 (List.map eY l7)]) (none,0) (jC rfl) tc ?_
  rintro ⟨a8,c9⟩ ⟨v5,l7⟩ o τ hb14;(try dsimp only at hb14);dsimp only [aw]
  refine cH [(12,pB (decide (v5<(p0.length:Int))))] (by kernel_rfl) (br (fh rfl hb14 (fun hc16 hb14=>?_) fun hc16 hb14=>?_))
  ·refine af ?_
   refine eT (ae hb14 fun m17 hm17 hb14=>cS 2 [] [13] [(14,.agg (bL m17))] (bX 0 Zc.enc hm17 aY) (by kernel_rfl) (aj rfl (aP (cs:=[pI 0,pI 0,pS Uh,pN,pI 0,pI 0,pI 0,pI 0,pI 0,pI 0,pI 0,pB false,pI 0,pB false,pI 0]) rfl rfl rfl rfl (fun b18=>aM rfl rfl (al (vs:=(bL m17)) rfl rfl rfl rfl rfl bT (gr (gr (gr (gr (gr (gr GT)))))) (au (cP hb14 fun x19 hx19 hb14=>ae hb14 fun l20 hl20 hb14=>cS 2 [0] [15] [(16,pS x19)] (aU 1 (ly hx19) aY) (by kernel_rfl) ?_)))))))
   refine aj rfl (aI rfl rfl (ρ1:=[_,_]) (aq (by exact aC aN) (aq (by exact aC aN) Vh)) (lQ hl20) ?_);rintro _ _ ⟨rfl,a21,c22,rfl⟩
   refine au (ey hb14 fun l23 hl23 hb14=>ak ?_)
   refine aj rfl (aI rfl rfl (ρ1:=[_,_]) (aq (by exact aN) (aq (by exact aN) Vh)) (vm hl23) ?_);rintro _ _ ⟨rfl,a24,c25,rfl⟩
   refine au (eH (ah [19] [(11,pI (i64.wrap (v5+1)))] (by kernel_rfl) ?_))
   exact aT hb14 (a24,c25) (jC rfl) tc
  refine aL ?_
  refine cJ hb14 (fun ht=>an rfl ?_)
  exact am ((a8,c9),l7) (oC rfl) tc ht.symm
 rintro ⟨⟨a11,c12⟩,l13⟩ τ hz;(try dsimp only at hz);subst q15;(try dsimp only at h);dsimp only [aw]
 refine ag (ak ?_)
 refine aj rfl (aI rfl rfl (ρ1:=[_,_]) (aq (by exact aN) (aq (by exact aN) Vh)) th ?_);rintro _ _ ⟨rfl,rfl⟩
 refine aE [(2,pS (⟨l13.toArray⟩:Xh))] (by kernel_rfl) (cK ?_)
 exact zz r h rfl
end SX
namespace SX
open Go
theorem Fk {f:Nat} {pargs:List PV} {ρ1:List Qa} {R R':PV->List Qa->Prop} (h:La f pargs ρ1 R) (hr:∀ pv ρ',R pv ρ'->R' pv ρ'):La f pargs ρ1 R':=fun O args ρ g ha hr0 =>
 (h O args ρ g ha hr0).mono fun v ρ' O' _ ⟨pv,ρp',h1,h2,h3⟩=>⟨pv,ρp',h1,h2,hr _ _ h3⟩
theorem Dd {n:Nat} {ops:Array Oper} {o:Oper} {rest:List Oper} {K:Ua} {Z:Xa} {ρ:List Qa} {d f:Nat} {c:Bool} {ags:List Operand} {ts:Array Nat} {pargs:List PV} {r:PV} {ρ1 l0:List Qa} {Y:Type} {R2:Y->List Qa} (hg:Pa ops Z o c) (hd:o.dst=some d) (hlt:Nat.blt d n=true) (ho:o.op=.call { callee:=.value (.func f),args:=ags.toArray,argTypes:=ts }) (hp:ρ.Perm (ρ1++l0)) (ha:c=true->ags.map (bt Z)=pargs) (hc:c=true->La f pargs ρ1 (fun pv ρ'=>pv=r/\∃ y,ρ'=R2 y)) (hn:c=false->∃ y,R2 y=ρ1) (hw:∀ y,Wa n ops rest K (ig Z d (pgv c r)) (R2 y++l0)):Wa n ops (o::rest) K Z ρ:=by
 cases c with
 | true =>
  refine C4 hg hd hlt (aI ho (ha rfl) (ρ1:=ρ1) (ρ2:=l0) hp (hc rfl) ?_)
  rintro _ _ ⟨rfl,y,rfl⟩
  have:=hw y
  rw [lp] at this;exact this
 | false =>
  obtain ⟨y,hy⟩:=hn rfl
  have:=hw y
  rw [hy] at this
  exact C5 (p:=r) hg hd hlt (BM hp this)
end SX
end Go.Proofs.YtbedcfghfcmkdaaGreatDoor
