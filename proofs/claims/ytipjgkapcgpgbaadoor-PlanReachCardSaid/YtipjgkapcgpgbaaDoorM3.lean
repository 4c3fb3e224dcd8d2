/- PlanReach: for every input the law returns true, and each argument reads afterwards as it read before. Conditions: the package variables are as the program's text lays them (the card ties them). -/
import Derived.Test.YtipjgkapcgpgbaaDoorM2
import Derived.Test.YtipjgkapcgpgbaaDoorL3q
set_option linter.unusedVariables false
set_option linter.unusedSimpArgs false
set_option maxHeartbeats 4000000
set_option maxRecDepth 100000
namespace Go.Proofs.YtipjgkapcgpgbaaDoor
namespace SX
open Go
attribute [local irreducible] PWL PWC PWD POpL POpQ PEv PGuardIs PSub PPick PUpd PSplice PFill PLit PF PFV PCall FOk fW cY iM iN gh gY Cov PHolds aV idx app mk gd lb nz rU cat sub k9 iZ ior qF pn fZ qH qI IntKind.wrap Int.tmod Int.tdiv Op.bytesLess strOfNums
def dM (p0:(List ByteArray)):Option Bool:=cond (decide (8<(p0.length:Int))) (some false) ((aV (S:=Int) (T:=(Unit)⊕(_)) (fun v2=>cond (decide (v2<(p0.length:Int))) ((idx p0 v2).bind fun m6=>(fU m6).bind fun x7=>(gd ((!(!x7))&&(decide (0<v2))) (idx p0 (IntKind.i64.wrap (v2 - 1)))).bind fun m8=>cond ((!x7)||((decide (0<v2))&&(Op.bytesLess m6.toList m8.toList||decide (m6=m8)))) (some (.inr (.inr false))) (some (.inl (IntKind.i64.wrap (v2+1))))) (some (.inr (.inl ())))) FUEL 0).bind fun q=>match q with | .inl _=>some true | .inr e=>some e)
theorem gH {p0:(List ByteArray)} {r:Bool}  (h:dM p0=some r):PF 49 [pL eS p0] (pB r):=by
 unfold dM at h
 refine bN ?_
 refine aI Tryd.func49 rfl Tryd.ntmps49 Tryd.results49 rfl (ae (aJ [2] (by kernel_rfl) (bd (ae (ai [5,6] [(7,pB (decide (8<(p0.length:Int))))] (by kernel_rfl) (ah (cZ rfl h (fun hc1 h=>?_) fun hc1 h=>?_)))))))
 ·refine ae ?_
  refine aj [(2,pB false)] (by kernel_rfl) (dv (ap ?_))
  exact zz r h rfl
 refine ak ?_
 refine bd (ae (aj [(8,pL eS p0),(9,pI (p0.length:Int)),(10,pI 0)] (by kernel_rfl) (ah (aa h fun q4 hq4 h=>?_))))
 refine aK (Y:=Unit×Unit) (fun (_,_)=>[]) (fun (_,_)=>[]) (fun (_,_)=>q4=Sum.inl ()) ?_ ?_
 ·refine am ?_
  refine aM (Y:=Unit) (S:=Int) _ hq4 (fun _ v2=>[(0,pL eS p0),(8,pL eS p0),(9,pI (p0.length:Int)),(10,pI v2)]) (fun _ v2=>[]) () (lH rfl) d8 ?_
  rintro _ v2 o τ hb3;(try dsimp only at hb3);dsimp only [aG]
  refine ae (aj [(11,pB (decide (v2<(p0.length:Int))))] (by kernel_rfl) (bd (cZ rfl hb3 (fun hc5 hb3=>?_) fun hc5 hb3=>?_)))
  ·refine ak ?_
   refine bd (am (ae (aa hb3 fun m6 hm6 hb3=>aO [] [12,13,14] [(3,pI v2),(4,pS m6)] (ec 1 eS hm6 cj) (by kernel_rfl) (bd (aa hb3 fun x7 hx7 hb3=>aa hb3 fun m8 hm8 hb3=>aO [] (rg 15 15) [(30,pB ((!x7)||((decide (0<v2))&&(Op.bytesLess m6.toList m8.toList||decide (m6=m8)))))] (dG 1 (i0 hx7) (hX 11 eS (dh hm8) cj)) (by kernel_rfl) (ah (cZ rfl hb3 (fun hc9 hb3=>?_) fun hc9 hb3=>?_)))))))
   ·refine ae ?_
    refine aj [(2,pB false)] (by kernel_rfl) (dv (an (ap ?_)))
    refine be hb3 (fun ht=>?_);subst ht
    refine an (aX ?_)
    exact zz r h rfl
   refine ak ?_
   refine al (ah (ai [31] [(10,pI (IntKind.i64.wrap (v2+1)))] (by kernel_rfl) ?_))
   exact bf hb3 () (lH rfl) d8
  refine aN ?_
  refine aq (au hb3 (fun ht=>ar rfl ?_))
  exact aT ((),()) kY d8 ht.symm
 rintro ⟨_,_⟩ τ hz;(try dsimp only at hz);subst q4;(try dsimp only at h);dsimp only [aG]
 refine ae (aj [(2,pB true)] (by kernel_rfl) (dv ?_))
 exact zz r h rfl
def bR (p0:Za):Option Int:=(eG p0.Code).bind fun x2=>(gd (!((x2 != 6)&&(x2 != 8))) (cu p0.Country)).bind fun x3=>(gd (!(((x2 != 6)&&(x2 != 8))||(!x3))) (dM p0.Processes)).bind fun x4=>cond ((((x2 != 6)&&(x2 != 8))||(!x3))||(!x4)) (some (1:Int)) (cond ((decide (p0.Price<1))||(decide (1000000000000<p0.Price))) (some (2:Int)) (cond (decide (8<(p0.Inputs.length:Int))) (some (8:Int)) (cond (p0.Obtained&&(decide (0<(p0.Inputs.length:Int)))) (some (1:Int)) (some (0:Int)))))
theorem dV {p0:Za} {r:Int}  (h:bR p0=some r):PF 27 [.agg (av p0)] (pI r):=by
 unfold bR at h
 refine bN ?_
 refine aI Tryd.func27 rfl Tryd.ntmps27 Tryd.results27 rfl (ae (af (aC rfl (gm (cs:=(av p0)) rfl rfl (fun b1=>fp [2] (by kernel_rfl) (bd (aa h fun x2 hx2 h=>aO [0] [4,5,6] [(3,pI x2)] (dG 2 (f9 hx2) cj) (by kernel_rfl) (bd (ae (aa h fun x3 hx3 h=>aa h fun x4 hx4 h=>aO [0,0] (rg 7 17) [(24,pB ((((x2 != 6)&&(x2 != 8))||(!x3))||(!x4)))] (hY 9 (fun hc=>eD (dh hx3 hc)) (hY 15 (fun hc=>gH (dh hx4 hc)) cj)) (by kernel_rfl) (ah (cZ rfl h (fun hc5 h=>?_) fun hc5 h=>?_))))))))))))
 ·refine ae ?_
  refine aj [(2,pI 1)] (by kernel_rfl) (dv (ap ?_))
  exact zz r h rfl
 refine ak ?_
 refine bd (ae (dT [0,0] (rg 25 7) [(32,pB ((decide (p0.Price<1))||(decide (1000000000000<p0.Price))))] (by kernel_rfl) (ah (cZ rfl h (fun hc6 h=>?_) fun hc6 h=>?_))))
 ·refine ae ?_
  refine aj [(2,pI 2)] (by kernel_rfl) (dv (ap ?_))
  exact zz r h rfl
 refine ak ?_
 refine bd (ae (dT [0] [33,34,35] [(36,pB (decide (8<(p0.Inputs.length:Int))))] (by kernel_rfl) (ah (cZ rfl h (fun hc7 h=>?_) fun hc7 h=>?_))))
 ·refine ae ?_
  refine aj [(2,pI 8)] (by kernel_rfl) (dv (ap ?_))
  exact zz r h rfl
 refine ak ?_
 refine bd (ae (dT [0,0] (rg 37 7) [(44,pB (p0.Obtained&&(decide (0<(p0.Inputs.length:Int)))))] (by kernel_rfl) (ah (cZ rfl h (fun hc8 h=>?_) fun hc8 h=>?_))))
 ·refine ae ?_
  refine aj [(2,pI 1)] (by kernel_rfl) (dv (ap ?_))
  exact zz r h rfl
 refine ak ?_
 refine bd (aj [(2,pI 0)] (by kernel_rfl) (dv ?_))
 exact zz r h rfl
def cT (p0:(List Za)):Option Int:=cond (decide (64<(p0.length:Int))) (some (8:Int)) ((aV (S:=Int) (T:=(Unit)⊕(_)) (fun v2=>cond (decide (v2<(p0.length:Int))) ((idx p0 v2).bind fun m6=>cond ((decide (m6.ID<1))||(decide (1000000<m6.ID))) (some (.inr (.inr (2:Int)))) ((gd (decide (0<v2)) (idx p0 (IntKind.i64.wrap (v2 - 1)))).bind fun m9=>cond ((decide (0<v2))&&(decide (m6.ID≤m9.ID))) (some (.inr (.inr (9:Int)))) ((bR m6).bind fun x11=>cond (x11 != 0) (some (.inr (.inr x11))) ((bW p0 m6.Inputs).bind fun x13=>cond (x13 != 0) (some (.inr (.inr x13))) (some (.inl (IntKind.i64.wrap (v2+1)))))))) (some (.inr (.inl ())))) FUEL 0).bind fun q=>match q with | .inl _=>some (0:Int) | .inr e=>some e)
theorem fV {p0:(List Za)} {r:Int}  (h:cT p0=some r):PF 10 [pL Za.enc p0] (pI r):=by
 unfold cT at h
 refine bN ?_
 refine aI Tryd.func10 rfl Tryd.ntmps10 Tryd.results10 rfl (ae (aJ [2] (by kernel_rfl) (bd (ae (ai [7,8] [(9,pB (decide (64<(p0.length:Int))))] (by kernel_rfl) (ah (cZ rfl h (fun hc1 h=>?_) fun hc1 h=>?_)))))))
 ·refine ae ?_
  refine aj [(2,pI 8)] (by kernel_rfl) (dv (ap ?_))
  exact zz r h rfl
 refine ak ?_
 refine bd (ae (aj [(10,pL Za.enc p0),(11,pI (p0.length:Int)),(12,pI 0)] (by kernel_rfl) (ah (aa h fun q4 hq4 h=>?_))))
 refine aK (Y:=Unit×Unit) (fun (_,_)=>[]) (fun (_,_)=>[]) (fun (_,_)=>q4=Sum.inl ()) ?_ ?_
 ·refine am ?_
  refine aM (Y:=Unit) (S:=Int) _ hq4 (fun _ v2=>[(0,pL Za.enc p0),(10,pL Za.enc p0),(11,pI (p0.length:Int)),(12,pI v2)]) (fun _ v2=>[]) () (lH rfl) d8 ?_
  rintro _ v2 o τ hb3;(try dsimp only at hb3);dsimp only [aG]
  refine ae (aj [(13,pB (decide (v2<(p0.length:Int))))] (by kernel_rfl) (bd (cZ rfl hb3 (fun hc5 hb3=>?_) fun hc5 hb3=>?_)))
  ·refine ak ?_
   refine bd (am (ae (aa hb3 fun m6 hm6 hb3=>af (bq 3 [] [15] [(14,pI v2),(16,.agg (av m6))] (ec 1 Za.enc hm6 cj) (by kernel_rfl) (aC rfl (dr (cs:=[pI 0,pS ByteArray.empty,pS ByteArray.empty,pI 0,pB false,pN,pN]) rfl rfl rfl rfl (fun b7=>aW 1 [(3,pI v2)] (by kernel_rfl) (dE rfl rfl (bY (vs:=(av m6)) rfl rfl rfl rfl rfl ka zl7 (bC (bd (ae (dT [0,0] (rg 17 7) [(24,pB ((decide (m6.ID<1))||(decide (1000000<m6.ID))))] (by kernel_rfl) (ah (cZ rfl hb3 (fun hc8 hb3=>?_) fun hc8 hb3=>?_)))))))))))))))
   ·refine ae ?_
    refine aj [(2,pI 2)] (by kernel_rfl) (dv (ap (an (ap ?_))))
    refine be hb3 (fun ht=>?_);subst ht
    refine an (aX ?_)
    exact zz r h rfl
   refine ak ?_
   refine bd (ae (co (ρd:=[]) [(0,0),(1,0),(2,0),(3,0),(4,0),(5,0),(6,0),(7,0),(8,0),(9,0),(10,0),(11,0),(12,0)] _ (List.Perm.refl _) (by kernel_rfl) rfl (aa hb3 fun m9 hm9 hb3=>bT 13 [0] (rg 25 12) [(37,pB ((decide (0<v2))&&(decide (m6.ID≤m9.ID))))] (hX 8 Za.enc (dh hm9) cj) (by kernel_rfl) (cR (ah (cZ rfl hb3 (fun hc10 hb3=>?_) fun hc10 hb3=>?_))))))
   ·refine ae ?_
    refine aj [(2,pI 9)] (by kernel_rfl) (dv (ap (an (ap ?_))))
    refine be hb3 (fun ht=>?_);subst ht
    refine an (aX ?_)
    exact zz r h rfl
   refine ak ?_
   refine bd (ae (aa hb3 fun x11 hx11 hb3=>aO [0] [38,39] [(5,pI x11)] (dG 1 (dV hx11) cj) (by kernel_rfl) (bd (ai [40] [(41,pB (x11 != 0))] (by kernel_rfl) (ah (cZ rfl hb3 (fun hc12 hb3=>?_) fun hc12 hb3=>?_))))))
   ·refine ae ?_
    refine ai [42] [(2,pI x11)] (by kernel_rfl) (dv (ap (an (ap ?_))))
    refine be hb3 (fun ht=>?_);subst ht
    refine an (aX ?_)
    exact zz r h rfl
   refine ak ?_
   refine bd (aa hb3 fun x13 hx13 hb3=>aO [0] [43,44,45,46] [(6,pI x13)] (dG 3 (dZ hx13) cj) (by kernel_rfl) (bd (ai [47] [(48,pB (x13 != 0))] (by kernel_rfl) (ah (cZ rfl hb3 (fun hc14 hb3=>?_) fun hc14 hb3=>?_)))))
   ·refine ae ?_
    refine ai [49] [(2,pI x13)] (by kernel_rfl) (dv (an (ap ?_)))
    refine be hb3 (fun ht=>?_);subst ht
    refine an (aX ?_)
    exact zz r h rfl
   refine ak ?_
   refine al (ah (ai [50] [(12,pI (IntKind.i64.wrap (v2+1)))] (by kernel_rfl) ?_))
   exact bf hb3 () (lH rfl) d8
  refine aN ?_
  refine aq (au hb3 (fun ht=>ar rfl ?_))
  exact aT ((),()) kY d8 ht.symm
 rintro ⟨_,_⟩ τ hz;(try dsimp only at hz);subst q4;(try dsimp only at h);dsimp only [aG]
 refine ae (aj [(2,pI 0)] (by kernel_rfl) (dv ?_))
 exact zz r h rfl
def bg (p0:(List Za)) (p1:Int):Option (List Int):=(aV (S:=(List Int)×(List (Int×Bool))) (T:=((List (Int×Bool)))) (fun (l5,l8)=>cond (decide (0<((l5.length:Nat):Int))) ((idx l5 (IntKind.i64.wrap (((l5.length:Nat):Int) - 1))).bind fun m13=>(ca p0 m13).bind fun x14=>(sub l5 0 (IntKind.i64.wrap (((l5.length:Nat):Int) - 1))).bind fun l15=>cond (!x14.2) (some (.inl (l15,l8))) ((idx p0 x14.1).bind fun m18=>(aV (S:=(List Int)×Int×(List (Int×Bool))) (T:=((List Int)×(List (Int×Bool)))) (fun (l20,v23,l24)=>cond (decide (v23<(m18.Inputs.length:Int))) (((idx m18.Inputs v23).bind fun m39=>cond (!((bv l24 m39.Product).getD false)) ((app 8 l20 [m39.Product]).bind fun l44=>some (l44,(fQ l24 m39.Product true))) (some (l20,l24))).bind fun (l36,l37)=>some (.inl (l36,(IntKind.i64.wrap (v23+1)),l37))) (some (.inr (l20,l24)))) FUEL (l15,0,l8)).bind fun (l28,l29)=>some (.inl (l28,l29)))) (some (.inr l8))) FUEL ([p1],([]:List (Int×Bool)))).bind fun l9=>(mY l9).bind fun l50=>some l50
theorem ck {p0:(List Za)} {p1:Int} {r:(List Int)}  (h:bg p0 p1=some r):PF 19 [pL Za.enc p0,pI p1] (pL eI r):=by
 unfold bg at h
 refine bN ?_
 refine aI Tryd.func19 rfl Tryd.ntmps19 Tryd.results19 rfl (ae (aJ [4] (by kernel_rfl) (bd (af (aC rfl (eP kI vT rfl (fun b1=>aP [(5,.v (.map (some b1)))] (by kernel_rfl) (bd (af (aW 1 [(12,pI p1)] (by kernel_rfl) (aC rfl (cb rfl rfl rfl rfl rfl (fX rfl iP) rfl rfl rfl rfl (fun b2=>aP [(6,pO (some ⟨b2,0,none⟩) 1 1)] (by kernel_rfl) (bd (aa h fun q11 hq11 h=>?_)))))))))))))))
 refine aK (Y:=Unit×((List (Int×Bool)))) (fun (_,l9)=>[(5,.v (.map (some b1)))]) (fun (_,l9)=>[PRes.mp (some b1) (aS kI vT l9)]) (fun (_,l9)=>q11=l9) ?_ ?_
 ·refine am ?_
  refine aM (Y:=Option Addr×Nat) (S:=(List Int)×(List (Int×Bool))) _ hq11 (fun (a6,c7) (l5,l8)=>[(0,pL Za.enc p0),(5,.v (.map (some b1))),(6,pO a6 l5.length c7)]) (fun (a6,c7) (l5,l8)=>[PRes.mp (some b1) (aS kI vT l8),PRes.row a6 l5.length c7 3 1 (List.map eI l5)]) ((some ⟨b2,0,none⟩),1) (np rfl) (cA (aY bc) eJ) ?_
  rintro ⟨a6,c7⟩ ⟨l5,l8⟩ o τ hb10;(try dsimp only at hb10);dsimp only [aG]
  refine ae (ae (ai [14,15] [(16,pB (decide (0<((l5.length:Nat):Int))))] (by kernel_rfl) (ah (cZ rfl hb10 (fun hc12 hb10=>?_) fun hc12 hb10=>?_))))
  ·refine ak ?_
   refine ah (am (ae (aa hb10 fun m13 hm13 hb10=>af (eC 5 [20,21] [(18,pL Za.enc p0),(19,pO a6 l5.length c7),(22,pI (IntKind.i64.wrap (((l5.length:Nat):Int) - 1)))] (by kernel_rfl) (cD rfl rfl rfl (fg (enc:=eI) (xs:=l5) rfl rfl rfl (.p rfl) qR (.p rfl) (fun _=>hm13)) (cD rfl rfl rfl (fh (sz:=1) (p:=pI m13) (enc:=eI) (xs:=l5) (a:=a6) (IntKind.i64.wrap (((l5.length:Nat):Int) - 1)) 0 m13 rfl (.p rfl) rfl qR (fun _=>hm13) rfl) (aa hb10 fun x14 hx14 hb10=>ed [] [25,17,26,27] [(7,pI x14.1),(8,pB x14.2)] (dG 0 (gx hx14) cj) (by kernel_rfl) (bd (aa hb10 fun l15 hl15 hb10=>af (eC 4 [29,30] [(28,pO a6 l5.length c7),(31,pI (IntKind.i64.wrap (((l5.length:Nat):Int) - 1)))] (by kernel_rfl) ?_))))))))))
   refine aC rfl (pD (enc:=eI) (xs:=l5) rfl rfl rfl rfl rfl (by exact aY bc) hl15 ?_)
   refine aP [(6,pO a6 l15.length c7)] (by kernel_rfl) (bd (ae (ai [33] [(34,pB (!x14.2))] (by kernel_rfl) (ah (cZ rfl hb10 (fun hc17 hb10=>?_) fun hc17 hb10=>?_)))))
   ·refine aN ?_
    refine aq (ar rfl ?_)
    exact bf hb10 (a6,c7) (np rfl) (cA (aY bc) eJ)
   refine ak ?_
   refine bd (aa hb10 fun m18 hm18 hb10=>aO [] [35,36,37,38] [(39,pL Zb.enc m18.Inputs),(40,pI (m18.Inputs.length:Int)),(41,pI 0)] (ec 2 Za.enc hm18 cj) (by kernel_rfl) (ah (aa hb10 fun q31 hq31 hb10=>?_)))
   refine mg (Y:=(Option Addr×Nat)×((List Int)×(List (Int×Bool)))) (fun ((a26,c27),(l28,l29))=>[(0,pL Za.enc p0),(5,.v (.map (some b1))),(6,pO a26 l28.length c27)]) (fun ((a26,c27),(l28,l29))=>[PRes.mp (some b1) (aS kI vT l29),PRes.row a26 l28.length c27 3 1 (List.map eI l28)]) (fun ((a26,c27),(l28,l29))=>q31=(l28,l29)) ?_ ?_
   ·refine am ?_
    refine aM (Y:=Option Addr×Nat) (S:=(List Int)×Int×(List (Int×Bool))) _ hq31 (fun (a21,c22) (l20,v23,l24)=>[(0,pL Za.enc p0),(5,.v (.map (some b1))),(6,pO a21 l20.length c22),(39,pL Zb.enc m18.Inputs),(40,pI (m18.Inputs.length:Int)),(41,pI v23)]) (fun (a21,c22) (l20,v23,l24)=>[PRes.mp (some b1) (aS kI vT l24),PRes.row a21 l20.length c22 3 1 (List.map eI l20)]) (a6,c7) (nJ rfl) (cA (aY bc) eJ) ?_
    rintro ⟨a21,c22⟩ ⟨l20,v23,l24⟩ o τ hb30;(try dsimp only at hb30);dsimp only [aG]
    refine ae (aj [(42,pB (decide (v23<(m18.Inputs.length:Int))))] (by kernel_rfl) (bd (cZ rfl hb30 (fun hc32 hb30=>?_) fun hc32 hb30=>?_)))
    ·refine ak ?_
     refine bd (aa hb30 fun q38 hq38 hb30=>?_)
     refine aK (Y:=(Option Addr×Nat)×((List Int)×(List (Int×Bool)))) (fun ((a34,c35),(l36,l37))=>[(0,pL Za.enc p0),(5,.v (.map (some b1))),(6,pO a34 l36.length c35),(39,pL Zb.enc m18.Inputs),(40,pI (m18.Inputs.length:Int)),(41,pI v23)]) (fun ((a34,c35),(l36,l37))=>[PRes.mp (some b1) (aS kI vT l37),PRes.row a34 l36.length c35 3 1 (List.map eI l36)]) (fun ((a34,c35),(l36,l37))=>q38=(l36,l37)) ?_ ?_
     ·skip
      refine am (ae (aa hq38 fun m39 hm39 hq38=>af (bq 2 [] [43] [(44,.agg [pI m39.Product,pI m39.Value])] (ec 0 Zb.enc hm39 cj) (by kernel_rfl) (aC rfl (dr (cs:=[pI 0,pI 0]) rfl rfl rfl rfl (fun b40=>dE rfl rfl (bY (vs:=[pI m39.Product,pI m39.Value]) rfl rfl rfl rfl rfl ka zl2 (bC (bd (af (cr 3 [0] [46] [(45,.v (.map (some b1))),(47,pI m39.Product)] (by kernel_rfl) (cD rfl rfl rfl (show POpQ _ _ _ _ (pB ((bv l24 m39.Product).getD false)) from dH (xs:=l24) (k:=m39.Product) (ek:=kI) (vv:=vT) (z0:=false) rfl rfl rfl (fun _=>.v rfl) (eO rfl) (.p rfl) (.p rfl) du (cU qR)) (aP [(49,pB (!((bv l24 m39.Product).getD false)))] (by kernel_rfl) (ah (cZ rfl hq38 (fun hc41 hq38=>?_) fun hc41 hq38=>?_)))))))))))))))
      ·refine ae ?_
       refine af (cr 3 [0] [51] [(50,.v (.map (some b1))),(52,pI m39.Product)] (by kernel_rfl) (dE rfl rfl (ee (xs:=l24) (k:=m39.Product) (ek:=kI) (vv:=vT) (v:=true) rfl rfl (eO rfl) rfl rfl du rfl (kX ka) (bC (ah (af (cr 3 [0] [54] [(53,pO a21 l20.length c22),(55,pI m39.Product)] (by kernel_rfl) (aC rfl (cb rfl rfl rfl rfl rfl (fX rfl iP) rfl rfl rfl rfl (fun b42=>aa hq38 fun l44 hl44 hq38=>?_))))))))))
       refine aC rfl (cJ (enc:=eI) rfl rfl rfl rfl rfl rfl rfl rfl rfl jK (by exact aY (aY (aY bc))) hl44 (fun a45 c46=>?_))
       refine aP [(6,pO a45 l44.length c46)] (by kernel_rfl) (al ?_)
       obtain rfl:=osi hq38
       exact aT ((a45,c46),(l44,(fQ l24 m39.Product true))) (nJ rfl) (cA (aY (aY (aY bc))) eJ) rfl
      refine ak ?_
      refine al ?_
      obtain rfl:=osi hq38
      exact aT ((a21,c22),(l20,l24)) (nJ rfl) (cA (aY bc) (cA (aY bc) d8)) rfl
     rintro ⟨⟨a34,c35⟩,⟨l36,l37⟩⟩ τ hz;(try dsimp only at hz);subst q38;(try dsimp only at hb30);dsimp only [aG]
     refine ai [58] [(41,pI (IntKind.i64.wrap (v23+1)))] (by kernel_rfl) ?_
     exact bf hb30 (a34,c35) (nJ rfl) lG
    refine aN ?_
    refine aq (au hb30 (fun ht=>ar rfl ?_))
    exact kZ ((a21,c22),(l20,l24)) (np rfl) lG ht.symm
   rintro ⟨⟨a26,c27⟩,⟨l28,l29⟩⟩ τ ρ1 hsub48 hz;(try dsimp only at hz hsub48);subst q31;(try dsimp only at hb10);dsimp only [aG]
   refine al ?_
   exact bf hb10 (a26,c27) (np rfl) (PSub.trans lG hsub48)
  refine aN ?_
  refine aq (au hb10 (fun ht=>ar rfl ?_))
  exact aT ((),l8) (zh1 rfl) eJ ht.symm
 rintro ⟨_,l9⟩ τ hz;(try dsimp only at hz);subst q11;(try dsimp only at h);dsimp only [aG]
 refine ae (af (aW 1 [(59,.v (.map (some b1)))] (by kernel_rfl) ?_))
 refine aC rfl (bi rfl rfl (ρ1:=[]) (List.Perm.refl _) (rJ Tryd.lKeys rfl rfl rfl (qg Tryd.func43 rfl)) ?_);rintro _ _ ⟨b49,rfl,rfl⟩
 refine aa h fun l50 hl50 h=>?_
 refine aC rfl (bi rfl rfl (ρ1:=[_,_]) (aE (by exact bc) (aE (by exact bc) (List.Perm.refl _))) (od Tryd.lKeys Tryd.lSorted Tryd.lSortI rfl rfl rfl rfl rfl rfl (qg Tryd.func42 rfl) (qg Tryd.func61 rfl) (qg Tryd.func60 rfl) rfl hl50) ?_);rintro _ _ ⟨a51,c52,rfl,rfl⟩
 refine aP [(4,pO a51 l50.length c52)] (by kernel_rfl) (ah ?_)
 refine dq (enc:=eI) (xs:=l50) 4 rfl (by exact bc) ?_
 refine cP ?_
 exact zz r h rfl
def cG (p0:(List Za)):Option (List (List Int)):=cond (decide (64<(p0.length:Int))) (some []) ((aV (S:=Int×(List (Int×(List Int)))) (T:=((List (Int×(List Int))))) (fun (v3,l4)=>cond (decide (v3<(p0.length:Int))) ((idx p0 v3).bind fun m9=>(bg p0 m9.ID).bind fun x11=>some (.inl ((IntKind.i64.wrap (v3+1)),(fQ l4 m9.ID x11)))) (some (.inr l4))) FUEL (0,([]:List (Int×(List Int))))).bind fun l5=>(aV (S:=Int×(List (Int×Int))×(List (Int×(List Int)))) (T:=((List (Int×Int))×(List (Int×(List Int))))) (fun (v14,l15,l16)=>cond (decide (v14<(p0.length:Int))) (((idx p0 v14).bind fun m25=>(cy p0 l5 m25.ID).bind fun x27=>(idx x27 0).bind fun m28=>(idx x27 0).bind fun m29=>cond (m29 == m25.ID) (some ((fQ l15 m25.ID m28),(fQ l16 m25.ID x27))) (some ((fQ l15 m25.ID m28),l16))).bind fun (l22,l23)=>some (.inl ((IntKind.i64.wrap (v14+1)),l22,l23))) (some (.inr (l15,l16)))) FUEL (0,([]:List (Int×Int)),([]:List (Int×(List Int))))).bind fun (l17,l18)=>(aV (S:=(List (List Int))×(List (Int×(List Int)))) (T:=((List (List Int)))) (fun (l32,l35)=>cond (decide (0<(l35.length:Int))) ((ce p0 l5 l17 l35).bind fun x44=>cond (!x44.2) (some (.inr l32)) ((app 24 l32 [((bv l35 x44.1).getD [])]).bind fun l48=>some (.inl (l48,(lr l35 x44.1))))) (some (.inr l32))) FUEL (([]:List (List Int)),l18)).bind fun l39=>some l39)
theorem eZ {p0:(List Za)} {r:(List (List Int))}  (h:cG p0=some r):PF 16 [pL Za.enc p0] (pL (eL eI) r):=by
 unfold cG at h
 refine bN ?_
 refine aI Tryd.func16 rfl Tryd.ntmps16 Tryd.results16 rfl (ae (aJ [2] (by kernel_rfl) (bd (ae (ai [14,15] [(16,pB (decide (64<(p0.length:Int))))] (by kernel_rfl) (ah (cZ rfl h (fun hc1 h=>?_) fun hc1 h=>?_)))))))
 ·refine ae ?_
  refine aj [(2,pN)] (by kernel_rfl) (ah (pwc_nil 2 rfl (cP (ap ?_))))
  exact zz r h rfl
 refine ak ?_
 refine bd (af (aC rfl (eP kI (vL eI) rfl (fun b2=>aP [(3,.v (.map (some b2)))] (by kernel_rfl) (bd (ae (aj [(18,pL Za.enc p0),(19,pI (p0.length:Int)),(20,pI 0)] (by kernel_rfl) (ah (aa h fun q7 hq7 h=>?_)))))))))
 refine aK (Y:=Unit×((List (Int×(List Int))))) (fun (_,l5)=>[(0,pL Za.enc p0),(3,.v (.map (some b2)))]) (fun (_,l5)=>[PRes.mp (some b2) (aS kI (vL eI) l5)]) (fun (_,l5)=>q7=l5) ?_ ?_
 ·refine am ?_
  refine aM (Y:=Unit) (S:=Int×(List (Int×(List Int)))) _ hq7 (fun _ (v3,l4)=>[(0,pL Za.enc p0),(3,.v (.map (some b2))),(18,pL Za.enc p0),(19,pI (p0.length:Int)),(20,pI v3)]) (fun _ (v3,l4)=>[PRes.mp (some b2) (aS kI (vL eI) l4)]) () (oJ rfl) eJ ?_
  rintro _ ⟨v3,l4⟩ o τ hb6;(try dsimp only at hb6);dsimp only [aG]
  refine ae (aj [(21,pB (decide (v3<(p0.length:Int))))] (by kernel_rfl) (bd (cZ rfl hb6 (fun hc8 hb6=>?_) fun hc8 hb6=>?_)))
  ·refine ak ?_
   refine bd (am (ae (aa hb6 fun m9 hm9 hb6=>af (bq 2 [] [22] [(23,.agg (av m9))] (ec 0 Za.enc hm9 cj) (by kernel_rfl) (aC rfl (dr (cs:=[pI 0,pS ByteArray.empty,pS ByteArray.empty,pI 0,pB false,pN,pN]) rfl rfl rfl rfl (fun b10=>dE rfl rfl (bY (vs:=(av m9)) rfl rfl rfl rfl rfl ka zl7 (bC (ah (co (ρd:=[PRes.mp (some b2) _]) [(0,0),(1,0),(2,0),(3,0),(4,0),(5,0),(6,1),(7,1)] _ (aE (aY bc) (List.Perm.refl _)) (by kernel_rfl) rfl (aa hb6 fun x11 hx11 hb6=>bT 7 [0,0] [25,27,28,29] [(24,.v (.map (some b2))),(26,pI m9.ID),(30,pL eI x11)] (dG 6 (ck hx11) cj) (by kernel_rfl) (nE rfl rfl (ee (xs:=l4) (k:=m9.ID) (ek:=kI) (vv:=(vL eI)) (v:=x11) rfl rfl (eO rfl) rfl rfl du rfl ka (cR (al (ah (ai [31] [(20,pI (IntKind.i64.wrap (v3+1)))] (by kernel_rfl) ?_))))))))))))))))))
   exact bf hb6 () (oJ rfl) eJ
  refine aN ?_
  refine aq (au hb6 (fun ht=>ar rfl ?_))
  exact aT ((),l4) (zh2 rfl) eJ ht.symm
 rintro ⟨_,l5⟩ τ hz;(try dsimp only at hz);subst q7;(try dsimp only at h);dsimp only [aG]
 refine ae (af (aC rfl (eP kI vI rfl (fun b12=>aP [(6,.v (.map (some b12)))] (by kernel_rfl) (bd (af (aC rfl (eP kI (vL eI) rfl (fun b13=>aP [(7,.v (.map (some b13)))] (by kernel_rfl) (bd (ae (aj [(34,pL Za.enc p0),(35,pI (p0.length:Int)),(36,pI 0)] (by kernel_rfl) (ah (aa h fun q20 hq20 h=>?_))))))))))))))
 refine aK (Y:=Unit×((List (Int×Int))×(List (Int×(List Int))))) (fun (_,(l17,l18))=>[(0,pL Za.enc p0),(3,.v (.map (some b2))),(6,.v (.map (some b12))),(7,.v (.map (some b13)))]) (fun (_,(l17,l18))=>[PRes.mp (some b12) (aS kI vI l17),PRes.mp (some b13) (aS kI (vL eI) l18),PRes.mp (some b2) (aS kI (vL eI) l5)]) (fun (_,(l17,l18))=>q20=(l17,l18)) ?_ ?_
 ·refine am ?_
  refine aM (Y:=Unit) (S:=Int×(List (Int×Int))×(List (Int×(List Int)))) _ hq20 (fun _ (v14,l15,l16)=>[(0,pL Za.enc p0),(3,.v (.map (some b2))),(6,.v (.map (some b12))),(7,.v (.map (some b13))),(34,pL Za.enc p0),(35,pI (p0.length:Int)),(36,pI v14)]) (fun _ (v14,l15,l16)=>[PRes.mp (some b12) (aS kI vI l15),PRes.mp (some b13) (aS kI (vL eI) l16),PRes.mp (some b2) (aS kI (vL eI) l5)]) () (qS rfl) (cA (aY bc) lG) ?_
  rintro _ ⟨v14,l15,l16⟩ o τ hb19;(try dsimp only at hb19);dsimp only [aG]
  refine ae (aj [(37,pB (decide (v14<(p0.length:Int))))] (by kernel_rfl) (bd (cZ rfl hb19 (fun hc21 hb19=>?_) fun hc21 hb19=>?_)))
  ·refine ak ?_
   refine bd (aa hb19 fun q24 hq24 hb19=>?_)
   refine aK (Y:=Unit×((List (Int×Int))×(List (Int×(List Int))))) (fun (_,(l22,l23))=>[(0,pL Za.enc p0),(3,.v (.map (some b2))),(6,.v (.map (some b12))),(7,.v (.map (some b13))),(34,pL Za.enc p0),(35,pI (p0.length:Int)),(36,pI v14)]) (fun (_,(l22,l23))=>[PRes.mp (some b12) (aS kI vI l22),PRes.mp (some b13) (aS kI (vL eI) l23),PRes.mp (some b2) (aS kI (vL eI) l5)]) (fun (_,(l22,l23))=>q24=(l22,l23)) ?_ ?_
   ·skip
    refine am (ae (aa hq24 fun m25 hm25 hq24=>af (bq 2 [] [38] [(39,.agg (av m25))] (ec 0 Za.enc hm25 cj) (by kernel_rfl) (aC rfl (dr (cs:=[pI 0,pS ByteArray.empty,pS ByteArray.empty,pI 0,pB false,pN,pN]) rfl rfl rfl rfl (fun b26=>dE rfl rfl (bY (vs:=(av m25)) rfl rfl rfl rfl rfl ka zl7 (bC (bd (aa hq24 fun x27 hx27 hq24=>af (cr 4 [0] [42] [(40,pL Za.enc p0),(41,.v (.map (some b2))),(43,pI m25.ID)] (by kernel_rfl) ?_)))))))))))
    refine aC rfl (bi rfl rfl (ρ1:=[_]) (aE (by exact aY (aY (aY bc))) (List.Perm.refl _)) (eK hx27) ?_);rintro _ _ ⟨rfl,rfl⟩
    refine aP [(10,pL eI x27)] (by kernel_rfl) (bd (co (ρd:=[PRes.mp (some b12) _]) [(0,0),(1,0),(2,0),(3,0),(4,0),(5,0),(6,1)] _ (aE (aY (aY bc)) (List.Perm.refl _)) (by kernel_rfl) rfl (aa hq24 fun m28 hm28 hq24=>bT 6 [1] [46,48,49] [(45,.v (.map (some b12))),(47,pI m25.ID),(50,pI m28)] (ec 4 eI hm28 cj) (by kernel_rfl) (nE rfl rfl (ee (xs:=l15) (k:=m25.ID) (ek:=kI) (vv:=vI) (v:=m28) rfl rfl (eO rfl) rfl rfl du rfl ka (cR (bd (co (ρd:=[]) [(0,0),(1,0),(2,0),(3,0),(4,0),(5,0)] _ (List.Perm.refl _) (by kernel_rfl) rfl (aa hq24 fun m29 hm29 hq24=>bT 6 [2] (rg 51 5) [(56,pB (m29 == m25.ID))] (ec 1 eI hm29 cj) (by kernel_rfl) (cR (ah (cZ rfl hq24 (fun hc30 hq24=>?_) fun hc30 hq24=>?_))))))))))))
    ·refine af ?_
     refine cr 4 [2] [58] [(57,.v (.map (some b13))),(59,pI m25.ID),(60,pL eI x27)] (by kernel_rfl) (dE rfl rfl (ee (xs:=l16) (k:=m25.ID) (ek:=kI) (vv:=(vL eI)) (v:=x27) rfl rfl (eO rfl) rfl rfl du rfl (kX (kX (kX ka))) (bC (al ?_))))
     obtain rfl:=osi hq24
     exact aT ((),((fQ l15 m25.ID m28),(fQ l16 m25.ID x27))) (qS rfl) (cA bc (cA (aY (aY bc)) eJ)) rfl
    refine ak ?_
    refine al ?_
    obtain rfl:=osi hq24
    exact aT ((),((fQ l15 m25.ID m28),l16)) (qS rfl) (cA bc (cA (aY (aY bc)) eJ)) rfl
   rintro ⟨_,⟨l22,l23⟩⟩ τ hz;(try dsimp only at hz);subst q24;(try dsimp only at hb19);dsimp only [aG]
   refine ai [61] [(36,pI (IntKind.i64.wrap (v14+1)))] (by kernel_rfl) ?_
   exact bf hb19 () (qS rfl) zs3
  refine aN ?_
  refine aq (au hb19 (fun ht=>ar rfl ?_))
  exact aT ((),(l15,l16)) (lH rfl) zs3 ht.symm
 rintro ⟨_,⟨l17,l18⟩⟩ τ hz;(try dsimp only at hz);subst q20;(try dsimp only at h);dsimp only [aG]
 refine ae (aj [(11,pN)] (by kernel_rfl) (bd (da 23 1 (aa h fun q41 hq41 h=>?_))))
 refine aK (Y:=(Option Addr×Nat)×((List (List Int)))) (fun ((a37,c38),l39)=>[(11,pO a37 l39.length c38)]) (fun ((a37,c38),l39)=>[PRes.row a37 l39.length c38 23 1 (List.map (eL eI) l39)]) (fun ((a37,c38),l39)=>q41=l39) ?_ ?_
 ·refine am ?_
  refine aM (Y:=Option Addr×Nat) (S:=(List (List Int))×(List (Int×(List Int)))) _ hq41 (fun (a33,c34) (l32,l35)=>[(0,pL Za.enc p0),(3,.v (.map (some b2))),(6,.v (.map (some b12))),(7,.v (.map (some b13))),(11,pO a33 l32.length c34)]) (fun (a33,c34) (l32,l35)=>[PRes.mp (some b12) (aS kI vI l17),PRes.mp (some b13) (aS kI (vL eI) l35),PRes.mp (some b2) (aS kI (vL eI) l5),PRes.row a33 l32.length c34 23 1 (List.map (eL eI) l32)]) (none,0) (oJ rfl) (cA (aY bc) (cA (aY bc) (cA (aY bc) eJ))) ?_
  rintro ⟨a33,c34⟩ ⟨l32,l35⟩ o τ hb40;(try dsimp only at hb40);dsimp only [aG]
  refine ae (ae (af (aW 1 [(62,.v (.map (some b13)))] (by kernel_rfl) (cD rfl rfl rfl (show POpQ _ _ _ _ (.v (.int .i64 (l35.length:Int))) from pq_lenM (ek:=kI) (vv:=(vL eI)) (xs:=l35) rfl rfl (.p rfl) (cU qR)) (aP [(64,pB (decide (0<(l35.length:Int))))] (by kernel_rfl) (ah (cZ rfl hb40 (fun hc43 hb40=>?_) fun hc43 hb40=>?_)))))))
  ·refine ak ?_
   refine ah (am (ae (aa hb40 fun x44 hx44 hb40=>af (aW 4 [(66,pL Za.enc p0),(67,.v (.map (some b2))),(68,.v (.map (some b12))),(69,.v (.map (some b13)))] (by kernel_rfl) ?_))))
   refine aC rfl (bi rfl rfl (ρ1:=[_,_,_]) (aE (by exact aY (aY bc)) (aE (by exact bc) (aE (by exact bc) (List.Perm.refl _)))) (eg hx44) ?_);rintro _ _ ⟨rfl,rfl⟩
   refine gu [65,71,72] [(12,pI x44.1),(13,pB x44.2)] (by kernel_rfl) (bd (ae (ai [73] [(74,pB (!x44.2))] (by kernel_rfl) (ah (cZ rfl hb40 (fun hc45 hb40=>?_) fun hc45 hb40=>?_)))))
   ·refine aN ?_
    refine aq (iO rfl (au hb40 (fun ht=>ar rfl ?_)))
    exact aT ((a33,c34),l32) (zh1 rfl) (cA (aY (aY (aY bc))) d8) ht.symm
   refine ak ?_
   refine bd (af (aW 3 [(75,pO a33 l32.length c34),(76,.v (.map (some b13))),(77,pI x44.1)] (by kernel_rfl) (cD rfl rfl rfl (show POpQ _ _ _ _ (pL eI ((bv l35 x44.1).getD [])) from dH (xs:=l35) (k:=x44.1) (ek:=kI) (vv:=(vL eI)) (z0:=[]) rfl rfl rfl (fun _=>gi) (eO rfl) (.p rfl) (.p rfl) du (cU zm2)) (aC rfl (cb rfl rfl rfl rfl rfl (fX rfl iP) rfl rfl rfl rfl (fun b46=>aa hb40 fun l48 hl48 hb40=>?_))))))
   refine aC rfl (cJ (enc:=(eL eI)) rfl rfl rfl rfl rfl rfl rfl rfl rfl jK (by exact aY (aY (aY (aY bc)))) hl48 (fun a49 c50=>?_))
   refine aP [(11,pO a49 l48.length c50)] (by kernel_rfl) (ah (af (aW 2 [(81,.v (.map (some b13))),(82,pI x44.1)] (by kernel_rfl) (dE rfl rfl (pJ (xs:=l35) (k:=x44.1) (ek:=kI) (vv:=(vL eI)) rfl rfl rfl (eO rfl) rfl rfl du (kX (kX (kX (kX ka)))) (bC (al ?_)))))))
   exact bf hb40 (a49,c50) (oJ rfl) (cA (aY (aY (aY bc))) (cA (aY (aY (aY bc))) (cA (aY (aY bc)) eJ)))
  refine aN ?_
  refine aq (au hb40 (fun ht=>ar rfl ?_))
  exact aT ((a33,c34),l32) (zh1 rfl) (cA (aY (aY (aY bc))) d8) ht.symm
 rintro ⟨⟨a37,c38⟩,l39⟩ τ hz;(try dsimp only at hz);subst q41;(try dsimp only at h);dsimp only [aG]
 refine ae (ai [83] [(2,pO a37 l39.length c38)] (by kernel_rfl) (ah ?_))
 refine dq (enc:=(eL eI)) (xs:=l39) 2 rfl (by exact bc) ?_
 refine cP ?_
 exact zz r h rfl
def eT  : Option Bool:=(df).bind fun x1=>(cG x1).bind fun x2=>(df).bind fun x3=>(cT x3).bind fun x4=>(gd ((x4 == 0)&&((x2.length:Int) == 2)) (idx x2 0)).bind fun m5=>(gd ((x4 == 0)&&((x2.length:Int) == 2)) (cf m5 [3])).bind fun x7=>(gd (((x4 == 0)&&((x2.length:Int) == 2))&&x7) (idx x2 1)).bind fun m8=>(gd (((x4 == 0)&&((x2.length:Int) == 2))&&x7) (cf m8 [1,2])).bind fun x10=>(gd ((((x4 == 0)&&((x2.length:Int) == 2))&&x7)&&x10) (df)).bind fun x11=>(gd ((((x4 == 0)&&((x2.length:Int) == 2))&&x7)&&x10) (bg x11 2)).bind fun x12=>(gd ((((x4 == 0)&&((x2.length:Int) == 2))&&x7)&&x10) (cf x12 [1,2,3])).bind fun x14=>(gd (((((x4 == 0)&&((x2.length:Int) == 2))&&x7)&&x10)&&x14) (df)).bind fun x15=>(gd (((((x4 == 0)&&((x2.length:Int) == 2))&&x7)&&x10)&&x14) (dL x15 3)).bind fun x16=>(gd (((((x4 == 0)&&((x2.length:Int) == 2))&&x7)&&x10)&&x14) (cf x16 [1])).bind fun x18=>some ((((((x4 == 0)&&((x2.length:Int) == 2))&&x7)&&x10)&&x14)&&x18)
theorem jZ  {r:Bool}  (h:eT  = some r):PF 14 [] (pB r):=by
 unfold eT at h
 refine bN ?_
 refine aI Tryd.func14 rfl Tryd.ntmps14 Tryd.results14 rfl (ae (aJ [0] (by kernel_rfl) (bd (aa h fun x1 hx1 h=>aa h fun x2 hx2 h=>aO [] [2,3] [(1,pL (eL eI) x2)] (dG 0 (dx hx1) (dG 1 (eZ hx2) cj)) (by kernel_rfl) (bd (aa h fun x3 hx3 h=>aa h fun x4 hx4 h=>aa h fun m5 hm5 h=>af (bq 12 [] ((rg 4 8)++[13,14]) [(12,pB ((x4 == 0)&&((x2.length:Int) == 2))),(15,pgv ((x4 == 0)&&((x2.length:Int) == 2)) (pL eI m5))] (dG 0 (dx hx3) (dG 1 (fV hx4) (hX 10 (eL eI) (dh hm5) cj))) (by kernel_rfl) ?_)))))))
 refine ig (bu rfl rfl rfl) rfl rfl rfl rfl rfl rfl (fun _=>by (repeat (first | exact iP | apply fX rfl))) rfl rfl rfl rfl ?_
 refine aa h fun x7 hx7 h=>ew (bu rfl rfl rfl) rfl rfl rfl (bp (.g rfl) (bp (.g rfl) dF)) (fun hc=>cW (dh hx7 hc)) (cD rfl rfl rfl (eW rfl (.p rfl) (.p rfl) (.g rfl)) (aa h fun m8 hm8 h=>bq 4 [] [20,21] [(19,pB (((x4 == 0)&&((x2.length:Int) == 2))&&x7)),(22,pgv (((x4 == 0)&&((x2.length:Int) == 2))&&x7) (pL eI m8))] (hX 2 (eL eI) (dh hm8) cj) (by kernel_rfl) ?_))
 refine ig (bu rfl rfl rfl) rfl rfl rfl rfl rfl rfl (fun _=>by (repeat (first | exact iP | apply fX rfl))) rfl rfl rfl rfl ?_
 refine aa h fun x10 hx10 h=>ew (bu rfl rfl rfl) rfl rfl rfl (bp (.g rfl) (bp (.g rfl) dF)) (fun hc=>cW (dh hx10 hc)) (cD rfl rfl rfl (eW rfl (.p rfl) (.p rfl) (.g rfl)) (aa h fun x11 hx11 h=>aa h fun x12 hx12 h=>bq 3 [] [27] [(26,pB ((((x4 == 0)&&((x2.length:Int) == 2))&&x7)&&x10)),(28,pgv ((((x4 == 0)&&((x2.length:Int) == 2))&&x7)&&x10) (pL eI x12))] (hY 1 (fun hc=>dx (dh hx11 hc)) (hY 2 (fun hc=>ck (dh hx12 hc)) cj)) (by kernel_rfl) ?_))
 refine ig (bu rfl rfl rfl) rfl rfl rfl rfl rfl rfl (fun _=>by (repeat (first | exact iP | apply fX rfl))) rfl rfl rfl rfl ?_
 refine aa h fun x14 hx14 h=>ew (bu rfl rfl rfl) rfl rfl rfl (bp (.g rfl) (bp (.g rfl) dF)) (fun hc=>cW (dh hx14 hc)) (cD rfl rfl rfl (eW rfl (.p rfl) (.p rfl) (.g rfl)) (aa h fun x15 hx15 h=>aa h fun x16 hx16 h=>bq 3 [] [33] [(32,pB (((((x4 == 0)&&((x2.length:Int) == 2))&&x7)&&x10)&&x14)),(34,pgv (((((x4 == 0)&&((x2.length:Int) == 2))&&x7)&&x10)&&x14) (pL eI x16))] (hY 1 (fun hc=>dx (dh hx15 hc)) (hY 2 (fun hc=>gG (dh hx16 hc)) cj)) (by kernel_rfl) ?_))
 refine ig (bu rfl rfl rfl) rfl rfl rfl rfl rfl rfl (fun _=>by (repeat (first | exact iP | apply fX rfl))) rfl rfl rfl rfl ?_
 refine aa h fun x18 hx18 h=>ew (bu rfl rfl rfl) rfl rfl rfl (bp (.g rfl) (bp (.g rfl) dF)) (fun hc=>cW (dh hx18 hc)) (cD rfl rfl rfl (eW rfl (.p rfl) (.p rfl) (.g rfl)) (aP [(0,pB ((((((x4 == 0)&&((x2.length:Int) == 2))&&x7)&&x10)&&x14)&&x18))] (by kernel_rfl) (dv ?_)))
 exact zz r h rfl
def cF (p0:(List Int)) (p1:Int):Option Bool:=(fu p0).bind fun x1=>(cK p1 ((x1.length:Nat):Int)).bind fun x5=>(idx x1 x5).bind fun m6=>(bg x1 m6.ID).bind fun x8=>(aV (S:=(List Int)×Int) (T:=((List Int))) (fun (l12,v15)=>cond (decide (v15<(m6.Inputs.length:Int))) ((idx m6.Inputs v15).bind fun m23=>(idx m6.Inputs v15).bind fun m24=>(app 8 l12 [m23.Product]).bind fun l27=>(bg x1 m24.Product).bind fun x31=>(app 8 l27 x31).bind fun l32=>some (.inl (l32,(IntKind.i64.wrap (v15+1))))) (some (.inr l12))) FUEL (([]:List Int),0)).bind fun l19=>(cN l19).bind fun x36=>(cf x36 x8).bind fun x37=>(gd x37 (eT)).bind fun x38=>some (x37&&x38)
theorem gQ {p0:(List Int)} {p1:Int} {r:Bool}  (h:cF p0 p1=some r):PF 7 [pL eI p0,pI p1] (pB r):=by
 unfold cF at h
 refine bN ?_
 refine aI Tryd.func7 rfl Tryd.ntmps7 Tryd.results7 rfl (ae (aJ [4] (by kernel_rfl) (bd (aa h fun x1 hx1 h=>af (aW 1 [(10,pL eI p0)] (by kernel_rfl) ?_)))))
 refine aC rfl (bi rfl rfl (ρ1:=[]) (List.Perm.refl _) (lx hx1) ?_);rintro _ _ ⟨a2,c3,rfl,rfl⟩
 refine aP [(5,pO a2 x1.length c3)] (by kernel_rfl) (bd (aa h fun x5 hx5 h=>aa h fun m6 hm6 h=>af (bq 5 [] [13,14,15] [(12,pO a2 x1.length c3),(16,pI x5)] (dG 4 (gw hx5) cj) (by kernel_rfl) (cD rfl rfl rfl (fg (enc:=Za.enc) (xs:=x1) rfl rfl rfl (.p rfl) jK (.p rfl) (fun _=>hm6)) (cD rfl rfl rfl (fh (sz:=7) (p:=.agg (av m6)) (enc:=Za.enc) (xs:=x1) (a:=a2) x5 0 m6 rfl (.p rfl) rfl jK (fun _=>hm6) rfl) (aC rfl (dr (cs:=[pI 0,pS ByteArray.empty,pS ByteArray.empty,pI 0,pB false,pN,pN]) rfl rfl rfl rfl (fun b7=>dE rfl rfl (bY (vs:=(av m6)) rfl rfl rfl rfl rfl ka zl7 (bC (bd (af (cr 3 [0] [20] [(19,pO a2 x1.length c3),(21,pI m6.ID)] (by kernel_rfl) ?_)))))))))))))
 refine gZ (enc:=Za.enc) (xs:=x1) 19 rfl (by exact aY bc) ?_
 refine aa h fun x8 hx8 h=>bq 1 [] [] [(22,pL eI x8)] (dG 0 (ck hx8) cj) (by kernel_rfl) (aC rfl (cb rfl rfl rfl rfl rfl iP rfl rfl rfl rfl (fun b9=>aP [(7,pL eI x8),(8,pO (some ⟨b9,0,none⟩) 0 0)] (by kernel_rfl) (bd (ae (aj [(9,pI 0)] (by kernel_rfl) (ah (mn (enc:=Za.enc) (xs:=x1) 5 rfl qR (aa h fun q21 hq21 h=>?_)))))))))
 refine aK (Y:=(Option Addr×Nat)×((List Int))) (fun ((a17,c18),l19)=>[(7,pL eI x8),(8,pO a17 l19.length c18)]) (fun ((a17,c18),l19)=>[PRes.row a17 l19.length c18 3 1 (List.map eI l19)]) (fun ((a17,c18),l19)=>q21=l19) ?_ ?_
 ·refine am ?_
  refine aM (Y:=Option Addr×Nat) (S:=(List Int)×Int) _ hq21 (fun (a13,c14) (l12,v15)=>[(5,pL Za.enc x1),(6,pP b7 0),(7,pL eI x8),(8,pO a13 l12.length c14),(9,pI v15)]) (fun (a13,c14) (l12,v15)=>[PRes.b b7 34 (av m6),PRes.row a13 l12.length c14 3 1 (List.map eI l12)]) ((some ⟨b9,0,none⟩),0) (oJ rfl) (cA (aY (aY bc)) eJ) ?_
  rintro ⟨a13,c14⟩ ⟨l12,v15⟩ o τ hb20;(try dsimp only at hb20);dsimp only [aG]
  refine ae (ae (dT [0] [24,25,26,27] [(28,pB (decide (v15<(m6.Inputs.length:Int))))] (by kernel_rfl) (ah (cZ rfl hb20 (fun hc22 hb20=>?_) fun hc22 hb20=>?_))))
  ·refine ak ?_
   refine bd (am (co (ρd:=[PRes.row a13 _ _ _ _ _]) [(0,0),(1,0),(2,0),(3,0),(4,0),(5,0),(6,0),(9,0),(10,0),(11,0),(12,0),(13,0),(14,0),(15,0),(7,1),(8,1),(16,1),(17,1),(18,0)] _ (aE (aY bc) (List.Perm.refl _)) (by kernel_rfl) rfl (aa hb20 fun m23 hm23 hb20=>aa hb20 fun m24 hm24 hb20=>bT 14 [0,0] ((rg 32 5)++[41,42,43,44,45]) [(31,pO a13 l12.length c14),(37,pI m23.Product),(40,pL Za.enc x1),(46,pI m24.Product)] (ec 4 Zb.enc hm23 (ec 11 Zb.enc hm24 cj)) (by kernel_rfl) (fi rfl rfl rfl (cb rfl rfl rfl rfl rfl (fX rfl iP) rfl rfl rfl rfl (fun b25=>aa hb20 fun l27 hl27 hb20=>?_))))))
   refine fi rfl rfl rfl (cJ (enc:=eI) rfl rfl rfl rfl rfl rfl rfl rfl rfl jK (by exact aY bc) hl27 (fun a28 c29=>?_))
   refine aa hb20 fun x31 hx31 hb20=>aa hb20 fun l32 hl32 hb20=>bT 1 [] [] [(47,pL eI x31)] (dG 0 (ck hx31) cj) (by kernel_rfl) ?_
   refine fi rfl rfl rfl (jG (enc:=eI) rfl rfl rfl rfl rfl (fun _=>rfl) rfl rfl rfl (by exact bc) hl32 (fun a33 c34=>?_))
   refine jY 1 [(8,pO a33 l32.length c34)] (by kernel_rfl) (cR (al (ah (ai [29,30] [(9,pI (IntKind.i64.wrap (v15+1)))] (by kernel_rfl) ?_))))
   exact bf hb20 (a33,c34) (oJ rfl) (cA (aY (aY bc)) eJ)
  refine aN ?_
  refine aq (au hb20 (fun ht=>ar rfl ?_))
  exact aT ((a13,c14),l12) (zh2 rfl) (cA (aY bc) d8) ht.symm
 rintro ⟨⟨a17,c18⟩,l19⟩ τ hz;(try dsimp only at hz);subst q21;(try dsimp only at h);dsimp only [aG]
 refine ae (af (aW 1 [(49,pO a17 l19.length c18)] (by kernel_rfl) ?_))
 refine gZ (enc:=eI) (xs:=l19) 49 rfl (by exact bc) ?_
 refine aa h fun x36 hx36 h=>aa h fun x37 hx37 h=>aa h fun x38 hx38 h=>ed [] (rg 50 6) [(4,pB (x37&&x38))] (dG 0 (ij hx36) (dG 2 (cW hx37) (hY 4 (fun hc=>jZ (dh hx38 hc)) cj))) (by kernel_rfl) (dv ?_)
 exact zz r h rfl
end SX
end Go.Proofs.YtipjgkapcgpgbaaDoor
set_option maxRecDepth 100000
namespace Go.Proofs.YtipjgkapcgpgbaaDoor
namespace SX
open Go
section
variable {γ:Type} [Inhabited γ]
end
def rN (a b:ByteArray):Bool:=Op.bytesLess a.toList b.toList
theorem ltS_eq (a b:ByteArray):rN a b=decide (a.data.toList<b.data.toList):=by
 unfold rN;rw [bytesLess_eq,ByteArray.toList_eq,ByteArray.toList_eq]
end SX
end Go.Proofs.YtipjgkapcgpgbaaDoor
set_option maxRecDepth 100000
namespace Go.Proofs.YtipjgkapcgpgbaaDoor
namespace SX
open Go
theorem cmpI (a b:Int):cE a b=some (if a<b then -1 else if b<a then 1 else 0):=by
 unfold cE cV
 simp only [bne_self_eq_false,dg,ga]
 by_cases h:a<b
 ·rw [det h,if_pos h];rfl
 rw [o2 h,if_neg h]
 by_cases h2:b<a
 ·rw [det h2,if_pos h2];rfl
 rw [o2 h2,if_neg h2];rfl
end SX
end Go.Proofs.YtipjgkapcgpgbaaDoor
set_option maxRecDepth 100000
namespace Go.Proofs.YtipjgkapcgpgbaaDoor
namespace SX
open Go
theorem pK {S T:Type} {body:S→Option (S⊕T)} (P:S→Prop) (μ:S→Nat) (Q:T→Prop) (step:∀ s,P s→(∃ s',body s=some (.inl s')∧P s'∧μ s'<μ s)∨∃ t,body s=some (.inr t)∧Q t):∀ (N:Nat) (s:S),P s→μ s<N→∃ t,aV body N s=some t∧Q t:=by
 intro N
 induction N with
 | zero=>intro s _ h;exact absurd h (Nat.not_lt_zero _)
 | succ N ih =>
  intro s hp hm
  rw [fM]
  rcases step s hp with ⟨s',h1,h2,h3⟩ | ⟨t,h1,h2⟩
  ·rw [h1];exact ih s' h2 (by omega)
  rw [h1];exact ⟨t,rfl,h2⟩
def ctry (s:ByteArray):Bool:=match s.data.toList with | [a,b]=>decide (65≤(a.toNat:Int))&&decide ((a.toNat:Int)≤90)&&decide (65≤(b.toNat:Int))&&decide ((b.toNat:Int)≤90) | _=>false
def letter (c:UInt8):Bool:=decide (97≤c.toNat)&&decide (c.toNat≤122)
def rO (s:ByteArray):Bool:=decide (1≤s.size)&&decide (s.size≤12)&&s.data.toList.all letter
def na (lt:ByteArray→ByteArray→Bool):List ByteArray→Bool
 | []=>true
 | [_]=>true
 | a::b::l=>lt a b&&na lt (b::l)
def j0 (l:List ByteArray):Bool:=decide (l.length≤8)&&(l.all rO&&na rN l)
def StrsOk (l:List ByteArray):Prop:=l.length≤140737488355328∧∀ s∈l,s.size≤140737488355328
end SX
end Go.Proofs.YtipjgkapcgpgbaaDoor
set_option maxRecDepth 100000
namespace Go.Proofs.YtipjgkapcgpgbaaDoor
namespace SX
open Go
end SX
end Go.Proofs.YtipjgkapcgpgbaaDoor
set_option maxRecDepth 100000
namespace Go.Proofs.YtipjgkapcgpgbaaDoor
namespace SX
open Go
end SX
end Go.Proofs.YtipjgkapcgpgbaaDoor
set_option maxRecDepth 100000
namespace Go.Proofs.YtipjgkapcgpgbaaDoor
namespace SX
open Go
def Y {α:Type} (x:Option α) (P:α→Prop):Prop:=∃ a,x=some a∧P a
section
variable {α β S T:Type} {x y:Option α} {P P':α→Prop} {Q:β→Prop} {f:α→Option β} {a:α} {c:Bool}
theorem Y.bind (h:Y x P) (k:∀ a,P a→Y (f a) Q):Y (x.bind f) Q:=by
 obtain ⟨a,h1,h2⟩:=h;rw [h1];exact k a h2
theorem Y.ret (h:P a):Y (some a) P:=⟨a,rfl,h⟩
theorem Y.mono (h:Y x P) (k:∀ a,P a→P' a):Y x P':=by obtain ⟨a,h1,h2⟩:=h;exact ⟨a,h1,k a h2⟩
theorem Y.cond (h:c=true→Y x P) (k:c=false→Y y P):Y (cond c x y) P:=by cases c;exact k rfl;exact h rfl
theorem Y.eq {r:α} (h:x=some r) (k:Y (f r) Q):Y (x.bind f) Q:=by rw [h];exact k
theorem Y.loop {body:S→Option (S⊕T)} {R:T→Prop} {s:S} (I:S→Prop) (μ:S→Nat) (h0:I s) (hm:μ s≤1267650600228229401496703205000) (step:∀ s,I s→Y (body s) (fun o=>match o with | .inl s'=>I s'∧μ s'<μ s | .inr t=>R t)):Y (aV body FUEL s) R:=by
 obtain ⟨t,h1,h2⟩:=pK (body:=body) I μ R (fun s hs=>by
  obtain ⟨o,k1,k2⟩:=step s hs
  cases o with
  | inl s'=>exact .inl ⟨s',k1,k2⟩
  | inr t=>exact .inr ⟨t,k1,k2⟩) FUEL s h0 (mP hm)
 exact ⟨t,h1,h2⟩
theorem Y.idx {xs:List α} {i:Int} {n:Nat} (h:i=(n:Int)) (hn:n<xs.length) (k:Y (f xs[n]) Q):Y ((idx xs i).bind f) Q:=by subst h;rw [bj hn];exact k
theorem Y.gdp [Inhabited α] {z:Option (α×β)} {m:β} {R:α×β→Prop} (h:c=true→Y z R) (k:c=false→R (default,m)):Y (gdp c z m) R:=by
 cases c
 ·exact ⟨_,rfl,k rfl⟩
 exact h rfl
end
theorem kH (a n:Int) (h1:1≤n) (h2:n≤4611686018427387904):∃ r,cK a n=some r∧0≤r∧r<n:=by
 have hl:=Int.tmod_lt_of_pos a (show 0<n by omega)
 have hl2:=Int.tmod_lt_of_pos (-a) (show 0<n by omega)
 rw [Int.neg_tmod] at hl2
 unfold cK nz lb
 rw [if_neg (by omega),ef (by omega) (by omega)]
 exact ⟨_,rfl,Int.tmod_nonneg _ (by omega),Int.tmod_lt_of_pos _ (by omega)⟩
def SOK (p:Zc):Prop:=0≤p.I∧p.I≤p.L.length∧p.L.length≤1000000000000000
theorem next_ok {p:Zc} (hp:SOK p) (n:Int) (h1:1≤n) (h2:n≤4611686018427387904):∃ r q,aB p n=some (r,q)∧0≤r∧r<n∧SOK q:=by
 obtain ⟨a1,a2,a3⟩:=hp
 unfold aB
 by_cases h:(p.L.length:Int)≤p.I
 ·rw [det h];exact ⟨_,_,rfl,by omega,by omega,a1,a2,a3⟩
 rw [o2 h,ef (r:=p.I+1) (by omega) (by omega),ef (by omega) (by omega)]
 simp only [ga]
 have e:idx p.L (p.I+1 - 1)=some (p.L[p.I.toNat]'(by omega)):=by
  unfold idx;rw [if_pos (by omega)]
  have:(p.I+1 - 1).toNat=p.I.toNat:=by omega
  rw [this];exact List.getElem?_eq_getElem _
 rw [bnd e]
 obtain ⟨r,h3,h4,h5⟩:=kH (p.L[p.I.toNat]'(by omega)) n h1 h2
 rw [bnd h3]
 exact ⟨_,_,rfl,h4,h5,by simp only;omega,by simp only;omega,a3⟩
theorem cut_ok (l:List Int) (n:Int) (h:0≤n) (h2:n≤1000):∃ m,ft l n=some m∧(m.length:Int)≤n:=by
 unfold ft
 by_cases h1:n<(l.length:Int)
 ·rw [det h1]
  have e:sub l 0 n=some ((l.take n.toNat).drop 0):=by unfold sub;rw [if_pos (by omega)];rfl
  simp only [dz];rw [bnd e];exact ⟨_,rfl,by simp;omega⟩
 rw [o2 h1];exact ⟨_,rfl,by omega⟩
theorem rP (a n:Int) (h1:1≤n) (h2:n≤4611686018427387904):Y (cK a n) (fun r=>0≤r∧r<n):=kH a n h1 h2
theorem eH {p:Zc} (hp:SOK p) (n:Int) (h1:1≤n) (h2:n≤4611686018427387904):Y (aB p n) (fun r=>0≤r.1∧r.1<n∧SOK r.2):=by
 obtain ⟨r,q,h3,h4,h5,h6⟩:=next_ok hp n h1 h2;exact ⟨(r,q),h3,h4,h5,h6⟩
theorem cut_Y (l:List Int) (n:Int) (h:0≤n) (h2:n≤1000):Y (ft l n) (fun m=>SOK ⟨m,0⟩):=by
 obtain ⟨m,h3,h4⟩:=cut_ok l n h h2
 exact ⟨m,h3,by dsimp only;omega,by dsimp only;omega,by dsimp only;omega⟩
end SX
end Go.Proofs.YtipjgkapcgpgbaaDoor
set_option maxRecDepth 100000
namespace Go.Proofs.YtipjgkapcgpgbaaDoor
namespace SX
open Go
theorem ltS_tr (x y z:ByteArray) (h1:rN x y=true) (h2:rN y z=true):rN x z=true:=by
 rw [ltS_eq] at *;exact det (List.lt_trans (of_decide_eq_true h1) (of_decide_eq_true h2))
theorem ik:∀ l:List ByteArray,na rN l=true↔l.Pairwise (fun a b=>rN a b=true)
 | []=>by simp [na]
 | [a]=>by simp [na]
 | a::b::l=>by
  rw [na,Bool.and_eq_true,ik (b::l)]
  constructor
  ·rintro ⟨h1,h2⟩
   refine List.pairwise_cons.2 ⟨fun c hc=>?_,h2⟩
   rcases List.mem_cons.1 hc with rfl | hc
   ·exact h1
   exact ltS_tr _ _ _ h1 ((List.pairwise_cons.1 h2).1 c hc)
  intro h;obtain ⟨h1,h2⟩:=List.pairwise_cons.1 h;exact ⟨h1 b (by simp),h2⟩
theorem lC {α:Type} {l C:List α} {v:Nat} (h:l.Sublist (C.take v)) (hv:v<C.length):(l++[C[v]]).Sublist (C.take (v+1))∧l.Sublist (C.take (v+1)):=by
 have e:C.take (v+1)=C.take v++[C[v]]:=by rw [List.take_add_one,List.getElem?_eq_getElem hv];rfl
 rw [e]
 exact ⟨h.append (List.Sublist.refl _),h.trans (List.sublist_append_left _ _)⟩
def C6:List ByteArray:=[(⟨#[65,65]⟩:ByteArray),(⟨#[66,66]⟩:ByteArray),(⟨#[67,67]⟩:ByteArray),(⟨#[68,68]⟩:ByteArray),(⟨#[69,69]⟩:ByteArray),(⟨#[70,70]⟩:ByteArray)]
theorem C6_ok:C6.all ctry=true∧na rN C6=true∧(C6.all fun s=>decide (s.size≤100))=true:=⟨by kernel_rfl,by kernel_rfl,by kernel_rfl⟩
theorem lD:dw=some C6:=rfl
theorem oX (v:Nat):rU (v:Int)=some ():=by unfold rU;rw [if_pos (by omega)]
end SX
end Go.Proofs.YtipjgkapcgpgbaaDoor
set_option maxRecDepth 100000
namespace Go.Proofs.YtipjgkapcgpgbaaDoor
namespace SX
open Go
end SX
end Go.Proofs.YtipjgkapcgpgbaaDoor
set_option maxRecDepth 100000
namespace Go.Proofs.YtipjgkapcgpgbaaDoor
namespace SX
open Go
end SX
end Go.Proofs.YtipjgkapcgpgbaaDoor
set_option maxRecDepth 100000
namespace Go.Proofs.YtipjgkapcgpgbaaDoor
namespace SX
open Go
end SX
end Go.Proofs.YtipjgkapcgpgbaaDoor
set_option maxRecDepth 100000
namespace Go.Proofs.YtipjgkapcgpgbaaDoor
namespace SX
open Go
def nc {α:Type} (R:α→α→Bool):List α→List α→Bool
 | [],_=>true
 | _::_,[]=>true
 | x::a,y::b=>R x y&&nc R a b
def ne {α:Type} (R:α→α→Bool) (a b:List α):Bool:=a.length == b.length&&nc R a b
theorem kJ {α T:Type} (R:α→α→Bool) (t:T) (B:List α):∀ (a b:List α) (i:Nat),B.drop i=b→a.length=b.length→ie (fun k x=>cond (R x (B.getD k x)) none (some t)) a i=cond (nc R a b) none (some t)
 | [],b,_,_,_=>by cases b <;> rfl
 | x::a,[],_,_,h=>by simp at h
 | x::a,y::b,i,hd,h=>by
  have hi:i<B.length:=by
   rcases Nat.lt_or_ge i B.length with h | h
   ·exact h
   rw [List.drop_of_length_le h] at hd;cases hd
  rw [List.drop_eq_getElem_cons hi] at hd
  injection hd with h1 h2
  rw [ie,nc,oQ hi,h1,kJ R t B a b (i+1) h2 (by simpa using h)]
  cases R x y <;> rfl
theorem nf {α:Type} {R:α→α→Bool}:∀ {a b:List α},(∀ x∈a,∀ y∈b,R x y=true↔x=y)→(ne R a b=true↔a=b)
 | [],[],_=>by simp [ne,nc]
 | [],y::b,_=>by simp [ne]
 | x::a,[],_=>by simp [ne]
 | x::a,y::b,h=>by
  have ih:=nf (R:=R) (a:=a) (b:=b) fun u hu v hv=>h u (by simp [hu]) v (by simp [hv])
  have h0:=h x (by simp) y (by simp)
  unfold ne at ih ⊢
  rw [nc]
  simp only [List.length_cons,Bool.and_eq_true,beq_iff_eq,Nat.add_right_cancel_iff,List.cons.injEq] at ih ⊢
  constructor
  ·rintro ⟨h1,h2,h3⟩;exact ⟨h0.1 h2,ih.1 ⟨h1,h3⟩⟩
  rintro ⟨h1,h2⟩;exact ⟨(ih.2 h2).1,h0.2 h1,(ih.2 h2).2⟩
theorem len_beq {α:Type} (a b:List α):((a.length:Int) != (b.length:Int)) = !(a.length == b.length):=by
 by_cases h:a.length=b.length
 ·rw [h];simp
 have h2:¬ (a.length:Int)=(b.length:Int):=by omega
 have e1:(a.length == b.length)=false:=by simpa using h
 have e2:((a.length:Int) == (b.length:Int))=false:=by simpa using h2
 rw [e1,bne,e2]
theorem eq_loop {α:Type} {a b:List α} (ha:a.length≤140737488355328) (R:α→α→Bool) {body:Int→Option (Int⊕(Unit⊕Bool))} {k:Unit⊕Bool→Option Bool} (hk:k (.inl ())=some true∧k (.inr false)=some false) (hab:a.length=b.length)
    (hstep:∀ (k:Nat) (hk:k<a.length) (hk2:k<b.length),body (k:Int)=some (outg k (cond (R a[k] b[k]) none (some (.inr false))))) (hend:body (a.length:Int)=some (.inr (.inl ()))):Option.bind (aV body FUEL 0) k=some (nc R a b):=by
  refine (kC (l:=a) (by omega) (fun i x=>cond (R x (b.getD i x)) none (some (.inr false))) (.inl ()) (fun i hi=>?_) hend).trans ?_
  · rw [hstep i hi (by omega),oQ (show i<b.length by omega)]
  rw [kJ R (Sum.inr false:Unit⊕Bool) b a b 0 rfl hab]
  cases nc R a b
  · exact hk.2
  exact hk.1
theorem ng (a b:List Int) (ha:a.length≤140737488355328):cf a b=some (decide (a=b)):=by
 have hiff:ne (fun x y:Int=>x == y) a b=decide (a=b):=by
  have:=nf (R:=fun x y:Int=>x == y) (a:=a) (b:=b) (fun x _ y _=>by simp)
  cases h:ne (fun x y:Int=>x == y) a b
  ·rw [h] at this;exact (o2 fun e=>by have:=this.2 e;cases this).symm
  exact (det (this.1 h)).symm
 rw [← hiff]
 unfold cf ne
 rw [len_beq]
 cases h:(a.length == b.length)
 ·rfl
 simp only [Bool.not_true,ga,Bool.true_and]
 refine eq_loop ha _ ⟨rfl,rfl⟩ (eq_of_beq h) (fun k hk hk2=>?_) (by simp only [kg,ga])
 simp only [rV hk,dz,bj hk,bj hk2,dg,fY hk (show a.length≤4611686018427387904 by omega),bne]
 cases (a[k] == b[k]) <;> rfl
end SX
end Go.Proofs.YtipjgkapcgpgbaaDoor
set_option maxRecDepth 100000
namespace Go.Proofs.YtipjgkapcgpgbaaDoor
namespace SX
open Go
def Digs (l:List Int):Prop:=∀ x∈l,48≤x∧x≤57
theorem code_Y {p:Zc} (hp:SOK p) (n:Nat) (hn:n=6∨n=8):Y (cw p (n:Int)) (fun r=>(∃ l:List Int,r.1=strOfNums l∧l.length=n∧Digs l)∧SOK r.2):=by
 unfold cw
 refine (eH hp 2 (by omega) (by omega)).bind fun a ⟨a1,a2,a3⟩=>?_
 rw [ef (by omega) (by omega),oy (by omega)]
 refine Y.bind (P:=fun t:List Int×List Int×Int=>t.1.length=n∧Digs t.1∧SOK ⟨t.2.1,t.2.2⟩) ?_ fun t ⟨t1,t2,t3⟩=>?_
 ·refine Y.loop (fun s:List Int×List Int×Int=>(s.1.length % 2=0∧s.1.length≤n)∧Digs s.1∧SOK ⟨s.2.1,s.2.2⟩) (fun s=>n - s.1.length) ⟨⟨by simp,by simp;omega⟩,fun x hx=>by simp at hx;omega,a3⟩ (by dsimp only;omega) fun s hs=>?_
  obtain ⟨l,m,i⟩:=s
  obtain ⟨⟨s0,s1⟩,s2,s3⟩:=hs
  dsimp only at s0 s1 s2 s3 ⊢
  refine Y.cond (fun hc=>?_) (fun hc=>Y.ret ⟨by have:=of_decide_eq_false hc;dsimp only;omega,s2,s3⟩)
  have hc:=of_decide_eq_true hc
  refine (eH s3 3 (by omega) (by omega)).bind fun x ⟨x1,x2,x3⟩=>?_
  rw [dY (by simp;omega) (by simp;omega),dg,ef (by omega) (by omega),oy (by omega)]
  refine Y.ret ⟨⟨⟨by simp;omega,by simp;omega⟩,fun z hz=>?_,x3⟩,by simp;omega⟩
  rcases List.mem_append.1 hz with hz | hz
  ·exact s2 z hz
  simp only [List.mem_cons,List.not_mem_nil,or_false] at hz;omega
 obtain ⟨l,m,i⟩:=t
 exact Y.ret ⟨⟨l,rfl,t1,t2⟩,t3⟩
theorem rQ {l:List Int} {n:Nat} (hn:n=6∨n=8) (h1:l.length=n) (h2:Digs l):fy (strOfNums l)=(n:Int)∧(strOfNums l).size=n:=by
 have hs:(strOfNums l).size=n:=by
  unfold strOfNums
  show (Array.mk _).size=n
  simp [h1]
 have hd:gz (strOfNums l)=true:=by
  unfold gz bl strOfNums
  rw [List.all_eq_true]
  intro c hc
  simp only [List.mem_map] at hc
  obtain ⟨x,hx,rfl⟩:=hc
  have:=h2 x hx
  have h3:(UInt8.ofNat x.toNat).toNat=x.toNat:=by
   rw [UInt8.toNat_ofNat'];omega
  simp only [eF,h3,decide_eq_true_eq]
  omega
 refine ⟨?_,hs⟩
 unfold fy
 rw [if_pos ⟨by omega,hd⟩,hs]
def W5:List ByteArray:=[(⟨#[97,110,100]⟩:ByteArray),(⟨#[99,117,116]⟩:ByteArray),(⟨#[111,114]⟩:ByteArray),(⟨#[115,101,119]⟩:ByteArray),(⟨#[115,112,105,110]⟩:ByteArray)]
theorem W5_ok:W5.all rO=true∧na rN W5=true∧(W5.all fun s=>decide (s.size≤100))=true:=⟨by kernel_rfl,by kernel_rfl,by kernel_rfl⟩
theorem nh {p:Zc} (hp:SOK p):Y (bw p) (fun r=>r.1.Sublist W5∧SOK r.2):=by
 unfold bw
 refine (eH hp 32 (by omega) (by omega)).bind fun a ⟨a1,a2,a3⟩=>?_
 refine Y.bind (P:=fun l:List ByteArray=>l.Sublist W5) ?_ fun l hl=>Y.ret ⟨hl,a3⟩
 refine Y.loop (fun s=>∃ v:Nat,s.2=(v:Int)∧v≤5∧s.1.Sublist (W5.take v)) (fun s=>(5 - s.2).toNat) ⟨0,rfl,by omega,List.Sublist.refl _⟩ (by dsimp only;omega) fun s hs=>?_
 obtain ⟨l,i⟩:=s
 obtain ⟨v,rfl,h1,h2⟩:=hs
 dsimp only at h2 ⊢
 have hlen:l.length≤5:=by have:=h2.length_le;have h6:W5.length=5:=rfl;rw [List.length_take] at this;omega
 refine Y.cond (fun hc=>?_) (fun hc=>Y.ret (h2.trans (List.take_sublist _ _)))
 have hv:v<5:=by have:=of_decide_eq_true hc;omega
 have hs:=lC h2 (show v<W5.length from hv)
 refine Y.bind (P:=fun m:List ByteArray=>m.Sublist (W5.take (v+1))) (Y.eq (oX v) (Y.cond (fun _=>?_) fun _=>Y.ret hs.2)) fun m hm=>Y.ret ⟨⟨v+1,?_,by omega,hm⟩,?_⟩
 ·refine Y.idx (xs:=W5) rfl (show v<W5.length from hv) ?_
  rw [dY (by simp;omega) (by simp;omega)];exact Y.ret hs.1
 ·show IntKind.i64.wrap ((v:Int)+1)=_;rw [ef (by omega) (by omega)];omega
 show (5 - IntKind.i64.wrap ((v:Int)+1)).toNat<(5 - (v:Int)).toNat;rw [ef (by omega) (by omega)];omega
theorem codeN {x:Int} (h1:0≤x) (h2:x<2):∃ n:Nat,(n=6∨n=8)∧IntKind.i64.wrap (6+IntKind.i64.wrap (2*x))=(n:Int):=by
 rw [ef (r:=2*x) (by omega) (by omega),ef (by omega) (by omega)]
 exact ⟨(6+2*x).toNat,by omega,by omega⟩
end SX
end Go.Proofs.YtipjgkapcgpgbaaDoor
set_option maxRecDepth 100000
namespace Go.Proofs.YtipjgkapcgpgbaaDoor
namespace SX
open Go
structure MProd (n:Nat) (i:Nat) (p:Za):Prop where
 id:p.ID=3*((i:Int)+1)
 lvl:(fy p.Code=6∨fy p.Code=8)∧6≤p.Code.size∧p.Code.size≤8
 ctr:p.Country∈C6
 price:1≤p.Price∧p.Price≤200
 proc:p.Processes.Sublist W5
 few:p.Inputs.length≤4
 asc:p.Inputs.Pairwise fun a b=>a.Product<b.Product
 inp:∀ x∈p.Inputs,(∃ k:Nat,k<n∧x.Product=3*((k:Int)+1))∧0≤x.Value∧x.Value<100
 obt:p.Obtained=true→p.Inputs=[]
structure MPs (l:List Za):Prop where
 len:1≤l.length∧l.length≤10
 all:∀ (i:Nat) (p:Za),l[i]?=some p→MProd l.length i p
theorem plan_Y (p0:List Int):Y (fu p0) MPs:=by
 unfold fu
 refine (cut_Y p0 300 (by omega) (by omega)).bind fun x1 hx1=>?_
 refine (eH hx1 10 (by omega) (by omega)).bind fun x3 ⟨a1,a2,a3⟩=>?_
 rw [ef (r:=1+x3.1) (by omega) (by omega)]
 obtain ⟨n,hn⟩:∃ n:Nat,1+x3.1=(n:Int):=⟨(1+x3.1).toNat,by omega⟩
 rw [hn]
 have hn1:1≤n∧n≤10:=by omega
 refine Y.bind (P:=MPs) ?_ fun l hl=>Y.ret hl
 refine Y.loop (fun s:List Za×Int×List Int×Int=>(s.2.1=(s.1.length:Int)+1∧s.1.length≤n)∧SOK ⟨s.2.2.1,s.2.2.2⟩∧∀ i p,s.1[i]?=some p→MProd n i p) (fun s=>n - s.1.length) ⟨⟨rfl,by simp⟩,a3,by simp⟩ (by dsimp only;omega) fun s hs=>?_
 obtain ⟨l5,v8,l9,v10⟩:=s
 obtain ⟨⟨h1,h2⟩,h3,h4⟩:=hs
 dsimp only at h1 h2 h3 h4 ⊢
 refine Y.cond (fun hc=>?_) (fun hc=>Y.ret ?_)
 rotate_left
 ·have hc:=of_decide_eq_false hc
  have e:l5.length=n:=by omega
  exact ⟨by omega,by rw [e];exact h4⟩
 have hc:=of_decide_eq_true hc
 refine (eH h3 2 (by omega) (by omega)).bind fun x19 ⟨b1,b2,b3⟩=>?_
 obtain ⟨w,hw,e⟩:=codeN b1 b2
 rw [e]
 refine (code_Y b3 w hw).bind fun x20 ⟨⟨cl,hc1,hc2,hc3⟩,hx20⟩=>?_
 have hcode:=rQ hw hc2 hc3
 refine Y.eq lD ?_
 refine (eH hx20 4 (by omega) (by omega)).bind fun x22 ⟨c1,c2,c3⟩=>?_
 obtain ⟨j,hj⟩:∃ j:Nat,x22.1=(j:Int):=⟨x22.1.toNat,by omega⟩
 refine Y.idx hj (show j<C6.length by have h6:C6.length=6:=rfl;omega) ?_
 refine (eH c3 200 (by omega) (by omega)).bind fun x24 ⟨d1,d2,d3⟩=>?_
 refine (nh d3).bind fun x25 ⟨hpr,hx25⟩=>?_
 refine (eH hx25 4 (by omega) (by omega)).bind fun x26 ⟨_,_,h26⟩=>?_
 refine (eH h26 1024 (by omega) (by omega)).bind fun x28 ⟨_,_,h28⟩=>?_
 refine Y.bind (P:=fun t:List Int×Int×List Zb=>SOK ⟨t.1,t.2.1⟩∧t.2.2.length≤4∧(t.2.2.Pairwise fun a b=>a.Product<b.Product)∧(∀ x∈t.2.2,(∃ k:Nat,k<n∧x.Product=3*((k:Int)+1))∧0≤x.Value∧x.Value<100)∧((x26.1 == 1)=true→t.2.2=[])) ?_ fun t ⟨t1,t2,t3,t4,t5⟩=>?_
 ·refine Y.loop (fun s:Int×List Int×Int×List Zb=>∃ v:Nat,s.1=(v:Int)+1∧v≤n∧SOK ⟨s.2.1,s.2.2.1⟩∧s.2.2.2.length≤4∧(s.2.2.2.Pairwise fun a b=>a.Product<b.Product)∧(∀ x∈s.2.2.2,(∃ k:Nat,k<v∧x.Product=3*((k:Int)+1))∧0≤x.Value∧x.Value<100)∧((x26.1 == 1)=true→s.2.2.2=[])) (fun s=>(n+1 - s.1).toNat) ⟨0,rfl,by omega,h28,by simp,List.Pairwise.nil,by simp,fun _=>rfl⟩ (by dsimp only;omega) fun s hs=>?_
  obtain ⟨i,l,k,m⟩:=s
  obtain ⟨v,rfl,s1,s2,s3,s4,s5,s6⟩:=hs
  dsimp only at s2 s3 s4 s5 s6 ⊢
  refine Y.cond (fun hc3=>?_) (fun hc3=>Y.ret ⟨s2,s3,s4,fun x hx=>?_,s6⟩)
  rotate_left
  ·obtain ⟨⟨k,h5,h6⟩,h7⟩:=s5 x hx;exact ⟨⟨k,by omega,h6⟩,h7⟩
  simp only [Bool.and_eq_true,decide_eq_true_eq,Bool.not_eq_true'] at hc3
  obtain ⟨⟨hc4,hc5⟩,hc6⟩:=hc3
  rw [ef (r:=(v:Int)+1 - 1) (by omega) (by omega),ef (r:=(v:Int)+1+1) (by omega) (by omega),ef (r:=3*((v:Int)+1)) (by omega) (by omega)]
  refine Y.bind (P:=fun t:List Int×Int×List Zb=>SOK ⟨t.1,t.2.1⟩∧t.2.2.length≤4∧(t.2.2.Pairwise fun a b=>a.Product<b.Product)∧(∀ x∈t.2.2,(∃ k:Nat,k<v+1∧x.Product=3*((k:Int)+1))∧0≤x.Value∧x.Value<100)) ?_ fun t ⟨t1,t2,t3,t4⟩=>Y.ret ⟨⟨v+1,by dsimp only;omega,by omega,t1,t2,t3,t4,fun h=>by rw [hc6] at h;cases h⟩,by dsimp only;omega⟩
  rw [show (v:Int)+1 - 1=(v:Int) by omega]
  refine Y.eq (oX v) ?_
  refine Y.bind (P:=fun r:Int×Zc=>SOK r.2) (Y.gdp (fun _=>(eH s2 3 (by omega) (by omega)).mono fun r hr=>hr.2.2) fun _=>s2) fun x56 hx56=>?_
  refine Y.cond (fun _=>?_) (fun _=>Y.ret ⟨hx56,s3,s4,fun x hx=>?_⟩)
  rotate_left
  ·obtain ⟨⟨k,h5,h6⟩,h7⟩:=s5 x hx;exact ⟨⟨k,by omega,h6⟩,h7⟩
  refine (eH hx56 100 (by omega) (by omega)).bind fun x58 ⟨e1,e2,e3⟩=>?_
  rw [dY (by simp;omega) (by simp;omega),dg]
  refine Y.ret ⟨e3,by simp;omega,?_,fun x hx=>?_⟩
  ·rw [List.pairwise_append]
   refine ⟨s4,List.pairwise_singleton _ _,fun a ha b hb=>?_⟩
   rw [List.mem_singleton.1 hb]
   obtain ⟨⟨k,h5,h6⟩,_⟩:=s5 a ha
   dsimp only;omega
  rcases List.mem_append.1 hx with hx | hx
  ·obtain ⟨⟨k,h5,h6⟩,h7⟩:=s5 x hx;exact ⟨⟨k,by omega,h6⟩,h7⟩
  rw [List.mem_singleton.1 hx];exact ⟨⟨v,by omega,rfl⟩,e1,e2⟩
 obtain ⟨l37,v38,l42⟩:=t
 dsimp only at t1 t2 t3 t4 t5 ⊢
 rw [dY (by simp;omega) (by simp;omega),dg,ef (r:=v8+1) (by omega) (by omega),ef (r:=1+x24.1) (by omega) (by omega),ef (r:=3*v8) (by omega) (by omega)]
 refine Y.ret ⟨⟨⟨by simp;omega,by simp;omega⟩,t1,fun i p hp=>?_⟩,by simp;omega⟩
 rw [List.getElem?_append] at hp
 split at hp
 ·exact h4 i p hp
 rename_i hi
 have hi0:i - l5.length=0:=by have:=(List.getElem?_eq_some_iff.1 hp).1;simp at this;omega
 rw [hi0] at hp
 simp only [List.getElem?_cons_zero,bz] at hp
 subst hp
 refine ⟨by dsimp only;omega,?_,List.getElem_mem _,⟨by dsimp only;omega,by dsimp only;omega⟩,hpr,t2,t3,t4,t5⟩
 dsimp only;rw [hc1,hcode.1,hcode.2];omega
structure Sorted (l:List Za):Prop where
 len:l.length≤1000000
 asc:l.Pairwise fun a b=>a.ID<b.ID
 small:∀ p∈l,p.Processes.length≤1000000∧p.Inputs.length≤1000000
def dW (l:List Za) (id:Int):Option Za:=l.find? fun p=>p.ID == id
theorem half_u (x:Nat) (h:x≤10000000):IntKind.i64.wrap (fZ .u64 (IntKind.u64.wrap (IntKind.i64.wrap (x:Int))) 1)=((x / 2:Nat):Int):=by
 rw [ef (r:=(x:Int)) (by omega) (by omega),u64s (by omega) (by omega)]
 have:fZ .u64 (x:Int) 1=(x:Int) / 2:=Int.fdiv_eq_ediv_of_nonneg _ (by decide)
 rw [this,ef (by omega) (by omega)];omega
theorem pM (l:List Za) (id:Int) (h:Sorted l):∃ j:Nat,ca l id=some ((j:Int),(dW l id).isSome)∧(∀ p,dW l id=some p→∃ hj:j<l.length,l[j]=p):=by
 have hl:=h.len
 have cmp:∀ p:Za,br p id=some (if p.ID<id then -1 else if id<p.ID then 1 else 0):=fun p=>by unfold br;rw [cmpI];rfl
 unfold ca aA
 have hloop:Y (aV (S:=Int×Int) (T:=(Int)) (fun (v1,v2)=>cond (decide (v1<v2)) (lb ((IntKind.i64.wrap (fZ .u64 (IntKind.u64.wrap (IntKind.i64.wrap (v1+v2))) 1))) (fun w8=>Option.bind (idx l w8) (fun m9=>Option.bind (br m9 id) (fun x10=>cond (decide (x10<0)) (some (.inl ((IntKind.i64.wrap (w8+1)),v2))) (some (.inl (v1,w8))))))) (some (.inr v1))) FUEL (0,(l.length:Int))) (fun t=>∃ j:Nat,t=(j:Int)∧j≤l.length∧(∀ (k:Nat) (p:Za),l[k]?=some p→k<j→p.ID<id)∧(∀ (k:Nat) (p:Za),l[k]?=some p→j≤k→id≤p.ID)):=by
  refine Y.loop (fun s:Int×Int=>∃ i j:Nat,s.1=(i:Int)∧s.2=(j:Int)∧i≤j∧j≤l.length∧(∀ (k:Nat) (p:Za),l[k]?=some p→k<i→p.ID<id)∧(∀ (k:Nat) (p:Za),l[k]?=some p→j≤k→id≤p.ID)) (fun s=>(s.2 - s.1).toNat) ⟨0,l.length,rfl,rfl,by omega,by omega,fun k p _ hk=>absurd hk (Nat.not_lt_zero _),fun k p hp hk=>by have:=(List.getElem?_eq_some_iff.1 hp).1;omega⟩ (by dsimp only;omega) fun s hs=>?_
  obtain ⟨a,b⟩:=s
  obtain ⟨i,j,rfl,rfl,h1,h2,h3,h4⟩:=hs
  dsimp only
  refine Y.cond (fun hc=>?_) (fun hc=>Y.ret ⟨i,rfl,by omega,h3,fun k p hp hk=>h4 k p hp (by have:=of_decide_eq_false hc;omega)⟩)
  have hc:i<j:=by have:=of_decide_eq_true hc;omega
  unfold lb
  rw [show (i:Int)+(j:Int)=((i+j:Nat):Int) by omega,half_u _ (by omega)]
  have hm:(i+j) / 2<l.length:=by omega
  have pw:=List.pairwise_iff_getElem.1 h.asc
  refine Y.idx rfl hm (Y.eq (cmp _) ?_)
  by_cases hlt:l[(i+j) / 2].ID<id
  ·rw [if_pos hlt]
   refine Y.ret ⟨⟨(i+j) / 2+1,j,?_,rfl,by omega,h2,fun k p hp hk=>?_,h4⟩,?_⟩
   ·show IntKind.i64.wrap _=_;rw [ef (by omega) (by omega)];omega
   ·obtain ⟨hk2,rfl⟩:=List.getElem?_eq_some_iff.1 hp
    rcases Nat.lt_or_ge k ((i+j) / 2) with h5 | h5
    ·have:=pw k ((i+j) / 2) hk2 hm h5;omega
    have e:k=(i+j) / 2:=by omega
    subst e;exact hlt
   show ((j:Int) - IntKind.i64.wrap _).toNat<_;rw [ef (by omega) (by omega)];omega
  rw [if_neg hlt]
  have hd:decide ((if id<l[(i+j) / 2].ID then (1:Int) else 0)<0)=false:=by split <;> rfl
  rw [hd]
  refine Y.ret ⟨⟨i,(i+j) / 2,rfl,rfl,by omega,by omega,h3,fun k p hp hk=>?_⟩,by dsimp only;omega⟩
  obtain ⟨hk2,rfl⟩:=List.getElem?_eq_some_iff.1 hp
  rcases Nat.lt_or_ge ((i+j) / 2) k with h5 | h5
  ·have:=pw ((i+j) / 2) k hm hk2 h5;omega
  have e:k=(i+j) / 2:=by omega
  subst e;omega
 obtain ⟨t2,e,j,hj,h1,h2,h3⟩:=hloop
 subst hj
 rw [e]
 simp only [dg]
 by_cases hjl:j<l.length
 ·rw [det (show (j:Int)<(l.length:Int) by omega),gq,bj hjl,dg,gq,cmp,dg]
  have h4:=h3 j _ (List.getElem?_eq_getElem hjl) (Nat.le_refl _)
  rw [if_neg (by omega)]
  by_cases heq:id<l[j].ID
  ·have hn:dW l id=none:=by
    unfold dW;rw [List.find?_eq_none]
    intro p hp
    obtain ⟨k,hk,rfl⟩:=List.getElem_of_mem hp
    have:l[k].ID≠id:=by
     rcases Nat.lt_or_ge k j with h5 | h5
     ·have:=h2 k _ (List.getElem?_eq_getElem hk) h5;omega
     rcases Nat.lt_or_ge j k with h6 | h6
     ·have:=List.pairwise_iff_getElem.1 h.asc j k hjl hk h6;omega
     have e:k=j:=by omega
     subst e;omega
    simpa using this
   rw [if_pos heq,hn];exact ⟨j,rfl,fun p hp=>by cases hp⟩
  ·have hid:l[j].ID=id:=by omega
   have hs:dW l id=some l[j]:=by
    unfold dW
    rw [List.find?_eq_some_iff_getElem]
    refine ⟨by simpa using hid,j,hjl,rfl,fun k hk=>?_⟩
    have:=h2 k _ (List.getElem?_eq_getElem (by omega)) hk
    have:l[k].ID≠id:=by omega
    simpa using this
   rw [if_neg heq,hs];exact ⟨j,rfl,fun p hp=>by injection hp with hp;exact ⟨hjl,hp⟩⟩
 rw [o2 (show ¬ (j:Int)<(l.length:Int) by omega),ib,dg,ib,dg]
 have hn:dW l id=none:=by
  unfold dW;rw [List.find?_eq_none]
  intro p hp
  obtain ⟨k,hk,rfl⟩:=List.getElem_of_mem hp
  have:=h2 k _ (List.getElem?_eq_getElem hk) (by omega)
  have:l[k].ID≠id:=by omega
  simpa using this
 rw [hn];exact ⟨j,rfl,fun p hp=>by cases hp⟩
theorem MPs.sorted {l:List Za} (h:MPs l):Sorted l:=by
 refine ⟨by have:=h.len;omega,?_,fun p hp=>?_⟩
 ·rw [List.pairwise_iff_getElem]
  intro i j hi hj hij
  have h1:=(h.all i _ (List.getElem?_eq_getElem hi)).id
  have h2:=(h.all j _ (List.getElem?_eq_getElem hj)).id
  omega
 obtain ⟨i,hi,rfl⟩:=List.getElem_of_mem hp
 have hm:=h.all i _ (List.getElem?_eq_getElem hi)
 have h1:=hm.proc.length_le;have h2:=hm.few;have h6:W5.length=5:=rfl
 omega
end SX
end Go.Proofs.YtipjgkapcgpgbaaDoor
set_option maxRecDepth 100000
set_option linter.unusedSectionVars false
namespace Go.Proofs.YtipjgkapcgpgbaaDoor
namespace SX
open Go
section
variable {α:Type} [DecidableEq α]
variable {lt:α→α→Bool}
def Strict (lt:α→α→Bool) (l:List α):Prop:=l.Pairwise fun a b=>lt a b=true
end
section
variable {α:Type} [DecidableEq α]
end
end SX
end Go.Proofs.YtipjgkapcgpgbaaDoor
set_option maxRecDepth 100000
namespace Go.Proofs.YtipjgkapcgpgbaaDoor
namespace SX
open Go
structure VProd (l:List Za) (p:Za):Prop where
 price:1≤p.Price∧p.Price≤1000000000000
 lvl:6≤fy p.Code
 ctr:ctry p.Country=true
 proc:j0 p.Processes=true
 few:p.Inputs.length≤8
 asc:p.Inputs.Pairwise fun a b=>a.Product<b.Product
 inp:∀ x∈p.Inputs,(dW l x.Product).isSome=true∧0≤x.Value∧x.Value≤1000000000000
 obt:p.Obtained=true→p.Inputs=[]
structure VPs (l:List Za):Prop where
 len:l.length≤64
 asc:l.Pairwise fun a b=>a.ID<b.ID
 all:∀ p∈l,VProd l p
theorem lE {l:List ByteArray} (h:j0 l=true):l.length≤8∧(∀ s∈l,rO s=true)∧Strict rN l:=by
 unfold j0 at h
 simp only [Bool.and_eq_true,decide_eq_true_eq] at h
 exact ⟨h.1,fun s hs=>List.all_eq_true.1 h.2.1 s hs,(ik _).1 h.2.2⟩
theorem VPs.sorted {l:List Za} (h:VPs l):Sorted l:=⟨by have:=h.len;omega,h.asc,fun p hp=>by have h1:=(lE (h.all p hp).proc).1;have h2:=(h.all p hp).few;omega⟩
theorem fz {l:List Za} {id:Int} {p:Za} (h:dW l id=some p):p∈l∧p.ID=id:=⟨List.mem_of_find?_eq_some h,by have:=List.find?_some h;simpa using this⟩
end SX
end Go.Proofs.YtipjgkapcgpgbaaDoor
set_option maxRecDepth 100000
namespace Go.Proofs.YtipjgkapcgpgbaaDoor
namespace SX
open Go
theorem C6_ctry {s:ByteArray} (h:s∈C6):ctry s=true:=List.all_eq_true.1 C6_ok.1 s h
theorem W5_words {l:List ByteArray} (h:l.Sublist W5):j0 l=true:=by
 unfold j0
 have h1:=h.length_le
 have h5:W5.length=5:=rfl
 simp only [Bool.and_eq_true,decide_eq_true_eq]
 exact ⟨by omega,List.all_eq_true.2 fun s hs=>List.all_eq_true.1 W5_ok.1 s (h.subset hs),(ik _).2 (List.Pairwise.sublist h ((ik _).1 W5_ok.2.1))⟩
theorem MPs.found {l:List Za} (h:MPs l) {k:Nat} (hk:k<l.length):(dW l (3*((k:Int)+1))).isSome=true:=by
 unfold dW
 rw [List.find?_isSome]
 exact ⟨l[k],List.getElem_mem hk,by have:=(h.all k _ (List.getElem?_eq_getElem hk)).id;simpa using this⟩
theorem MPs.vps {l:List Za} (h:MPs l):VPs l:=by
 refine ⟨by have:=h.len;omega,h.sorted.asc,fun p hp=>?_⟩
 obtain ⟨i,hi,rfl⟩:=List.getElem_of_mem hp
 have hm:=h.all i _ (List.getElem?_eq_getElem hi)
 refine ⟨by have:=hm.price;omega,by have:=hm.lvl.1;omega,C6_ctry hm.ctr,W5_words hm.proc,by have:=hm.few;omega,hm.asc,fun x hx=>?_,hm.obt⟩
 obtain ⟨⟨k,hk,e⟩,h1,h2⟩:=hm.inp x hx
 exact ⟨by rw [e];exact h.found hk,h1,by omega⟩
end SX
end Go.Proofs.YtipjgkapcgpgbaaDoor
set_option maxRecDepth 100000
namespace Go.Proofs.YtipjgkapcgpgbaaDoor
namespace SX
open Go
theorem lF {α:Type} {f:α→Int} {l:List α} (h:l.Pairwise fun a b=>f a<f b) {a b:α} (ha:a∈l) (hb:b∈l) (e:f a=f b):a=b:=by
 induction l with
 | nil=>cases ha
 | cons x l ih =>
  obtain ⟨h1,h2⟩:=List.pairwise_cons.1 h
  rcases List.mem_cons.1 ha with e1 | ha'
  ·rcases List.mem_cons.1 hb with e2 | hb'
   ·rw [e1,e2]
   have:=h1 b hb';rw [← e1] at this;omega
  rcases List.mem_cons.1 hb with e2 | hb'
  ·have:=h1 a ha';rw [← e2] at this;omega
  exact ih h2 ha' hb'
end SX
end Go.Proofs.YtipjgkapcgpgbaaDoor
set_option maxRecDepth 100000
namespace Go.Proofs.YtipjgkapcgpgbaaDoor
namespace SX
open Go
structure VIds (l:List Za):Prop where
 id:∀ p∈l,1≤p.ID∧p.ID≤1000000
 lvl:∀ p∈l,fy p.Code=6∨fy p.Code=8
theorem MPs.vids {l:List Za} (h:MPs l):VIds l:=by
 have hlen:=h.len
 refine ⟨fun p hp=>?_,fun p hp=>?_⟩
 ·obtain ⟨i,hi,rfl⟩:=List.getElem_of_mem hp
  have:=(h.all i _ (List.getElem?_eq_getElem hi)).id;omega
 obtain ⟨i,hi,rfl⟩:=List.getElem_of_mem hp
 exact (h.all i _ (List.getElem?_eq_getElem hi)).lvl.1
end SX
end Go.Proofs.YtipjgkapcgpgbaaDoor
set_option maxRecDepth 100000
namespace Go.Proofs.YtipjgkapcgpgbaaDoor
namespace SX
open Go
end SX
end Go.Proofs.YtipjgkapcgpgbaaDoor
set_option maxRecDepth 100000
namespace Go.Proofs.YtipjgkapcgpgbaaDoor
namespace SX
open Go
end SX
end Go.Proofs.YtipjgkapcgpgbaaDoor
set_option maxRecDepth 100000
namespace Go.Proofs.YtipjgkapcgpgbaaDoor
namespace SX
open Go
structure POk (p:Za):Prop where
 code:p.Code.size≤140737488355328
 proc:StrsOk p.Processes
 len:p.Inputs.length≤140737488355328
structure PSOk (l:List Za):Prop where
 len:l.length≤140737488355328
 all:∀ p∈l,POk p
end SX
end Go.Proofs.YtipjgkapcgpgbaaDoor
set_option maxRecDepth 100000
namespace Go.Proofs.YtipjgkapcgpgbaaDoor
namespace SX
open Go
end SX
end Go.Proofs.YtipjgkapcgpgbaaDoor
set_option maxRecDepth 100000
namespace Go.Proofs.YtipjgkapcgpgbaaDoor
namespace SX
open Go
end SX
end Go.Proofs.YtipjgkapcgpgbaaDoor
namespace Go.Proofs.YtipjgkapcgpgbaaDoor
namespace SX
open Go
def pQ (id pid:Int) (acc:List Int) (x:Zb):List Int:=cond (x.Product == id) (acc++[pid]) acc
theorem oY (id pid:Int):∀ (l:List Zb) (acc:List Int) (n:Int),n∈l.foldl (pQ id pid) acc↔n∈acc∨(n=pid∧∃ x∈l,x.Product=id)
 | [],acc,n=>by simp
 | x::l,acc,n=>by
  rw [List.foldl_cons,oY id pid l]
  unfold pQ
  cases h:(x.Product == id)
  ·have h:¬ x.Product=id:=by simpa using h
   simp only [ga,List.mem_cons]
   constructor
   ·rintro (h1 | ⟨h1,y,hy,e⟩)
    ·exact .inl h1
    exact .inr ⟨h1,y,.inr hy,e⟩
   rintro (h1 | ⟨h1,y,rfl | hy,e⟩)
   ·exact .inl h1
   ·exact absurd e h
   exact .inr ⟨h1,y,hy,e⟩
  have h:x.Product=id:=by simpa using h
  simp only [dz,List.mem_append,List.mem_cons,List.not_mem_nil,or_false]
  constructor
  ·rintro ((h1 | h1) | ⟨h1,y,hy,e⟩)
   ·exact .inl h1
   ·exact .inr ⟨h1,x,.inl rfl,h⟩
   exact .inr ⟨h1,y,.inr hy,e⟩
  rintro (h1 | ⟨h1,y,rfl | hy,e⟩)
  ·exact .inl (.inl h1)
  ·exact .inl (.inr h1)
  exact .inr ⟨h1,y,hy,e⟩
theorem oZ (id pid:Int):∀ (l:List Zb) (acc:List Int),(l.foldl (pQ id pid) acc).length≤acc.length+l.length
 | [],acc=>by simp
 | x::l,acc=>by
  rw [List.foldl_cons]
  have:=oZ id pid l (pQ id pid acc x)
  have h2:(pQ id pid acc x).length≤acc.length+1:=by unfold pQ;cases (x.Product == id) <;> simp
  rw [List.length_cons];omega
def bS (plan:List Za) (id:Int):List Int:=plan.foldl (fun acc p=>p.Inputs.foldl (pQ id p.ID) acc) []
theorem j5 (plan:List Za) (id n:Int):n∈bS plan id↔∃ p∈plan,n=p.ID∧∃ x∈p.Inputs,x.Product=id:=by
 have key:∀ (l:List Za) (acc:List Int),n∈l.foldl (fun acc p=>p.Inputs.foldl (pQ id p.ID) acc) acc↔n∈acc∨∃ p∈l,n=p.ID∧∃ x∈p.Inputs,x.Product=id:=by
  intro l
  induction l with
  | nil=>intro acc;simp
  | cons p l ih =>
   intro acc
   rw [List.foldl_cons,ih,oY]
   simp only [List.mem_cons]
   constructor
   ·rintro ((h | h) | ⟨q,hq,h⟩)
    ·exact .inl h
    ·exact .inr ⟨p,.inl rfl,h⟩
    exact .inr ⟨q,.inr hq,h⟩
   rintro (h | ⟨q,rfl | hq,h⟩)
   ·exact .inl (.inl h)
   ·exact .inl (.inr h)
   exact .inr ⟨q,hq,h⟩
 have:=key plan []
 unfold bS;rw [this];simp
theorem kK {plan:List Za} (hv:VPs plan) (id:Int):eR plan id=some (bS plan id)∧(bS plan id).length≤1000:=by
 have hlen:=hv.len
 unfold eR
 have main:=iB (β:=List Int) (l:=plan) (by omega) (body:=fun (l2,v5)=>cond (decide (v5<(plan.length:Int))) (Option.bind (aV (S:=(List Int)×Int) (T:=((List Int))) (fun (l15,v18)=>Option.bind (idx plan v5) (fun m25=>cond (decide (v18<(m25.Inputs.length:Int))) (Option.bind (Option.bind (idx plan v5) (fun m32=>Option.bind (idx m32.Inputs v18) (fun m33=>cond (m33.Product == id) (Option.bind (idx plan v5) (fun m35=>Option.bind (app 8 l15 [m35.ID]) (fun l38=>some l38))) (some l15)))) (fun l30=>some (.inl (l30,(IntKind.i64.wrap (v18+1)))))) (some (.inr l15)))) FUEL (l2,0)) (fun l22=>some (.inl (l22,(IntKind.i64.wrap (v5+1)))))) (some (.inr l2))) (k:=fun l9=>some l9)
  (fun i (s:List Int)=>(s,i)) (fun acc p=>p.Inputs.foldl (pQ id p.ID) acc) (fun s=>s) (fun k s=>s.length≤8*k) [] (by simp) (fun k hk s hs=>?_) (fun s _=>by simp only [kg,ga])
 ·exact ⟨main.1,by have:=main.2;unfold bS;omega⟩
 have hf:=(hv.all _ (List.getElem_mem hk)).few
 have h8:=oZ id plan[k].ID plan[k].Inputs s
 refine ⟨?_,by omega⟩
 simp only [rV hk,dz,bj hk,dg,fY hk (show plan.length≤4611686018427387904 by omega)]
 refine (iB (l:=plan[k].Inputs) (by omega) (fun i (s:List Int)=>(s,i)) (pQ id plan[k].ID) (fun s=>s) (fun j t=>t.length≤8*k+j) s (by omega) (fun j hj t ht=>?_) (fun t _=>by simp only [kg,ga])).1
 have hu:(pQ id plan[k].ID t plan[k].Inputs[j]).length≤t.length+1:=by unfold pQ;cases (plan[k].Inputs[j].Product == id) <;> simp
 refine ⟨?_,by omega⟩
 simp only [rV hj,dz,bj hj,dg,fY hj (show plan[k].Inputs.length≤4611686018427387904 by omega)]
 unfold pQ
 cases (plan[k].Inputs[j].Product == id)
 ·rfl
 simp only [dz]
 rw [dY (by simp;omega) (by simp;omega)];rfl
def il (plan:List Za) (id:Int) (r:List Bool) (m:Nat) (u:List Int):Bool:=match plan[m]? with
 | none=>false
 | some p=>((p.ID == id)||r.getD m false)&&u.any fun x=>x == p.ID
def d7 (r:List Bool):Nat:=(r.filter fun b => !b).length
theorem j6:∀ (r:List Bool) (i:Nat),r[i]?=some false→d7 (r.set i true)<d7 r
 | b::r,0,h=>by simp at h;subst h;simp [d7]
 | b::r,i+1,h=>by
  have:=j6 r i (by simpa using h)
  unfold d7 at this ⊢
  cases b <;> simp [List.filter_cons] <;> omega
theorem ref_in (l:List Int) (n:Int) (hl:l.length≤140737488355328):eE l n=some (l.any fun x=>x == n):=by
 unfold eE
 refine (kC (l:=l) (by omega) (fun _ x=>cond (x == n) (some (.inr true)) none) (.inl ()) (fun k hk=>?_) (by simp only [kg,ga])).trans ?_
 ·simp only [rV hk,dz,bj hk,dg,fY hk (show l.length≤4611686018427387904 by omega)]
  cases (l[k] == n) <;> rfl
 rw [kD (fun x=>x == n)]
 cases (l.any fun x=>x == n) <;> rfl
def Nd (plan:List Za) (a b:Int):Prop:=∃ p∈plan,p.ID=a∧∃ x∈p.Inputs,x.Product=b
inductive Ze (plan:List Za) (a:Int):Int→Prop
 | one {b:Int}:Nd plan a b→Ze plan a b
 | step {b c:Int}:Ze plan a b→Nd plan b c→Ze plan a c
structure RS (plan:List Za) (id:Int) (r:List Int):Prop where
 asc:r.Pairwise (· < ·)
 mem:∀ n,n∈r↔Ze plan id n
theorem ni {r s:List Int} (h1:r.Pairwise (· < ·)) (h2:s.Pairwise (· < ·)) (h:∀ n,n∈r↔n∈s):r=s :=
 List.Perm.eq_of_pairwise (le:=fun a b:Int=>a<b) (fun a b _ _ h1 h2=>by omega) h1 h2 ((List.perm_ext_iff_of_nodup (h1.imp fun h e=>by omega) (h2.imp fun h e=>by omega)).2 h)
theorem RS.uniq {plan:List Za} {id:Int} {r s:List Int} (h1:RS plan id r) (h2:RS plan id s):r=s:=ni h1.asc h2.asc fun n=>(h1.mem n).trans (h2.mem n).symm
def Snd (plan:List Za) (id:Int) (r:List Bool):Prop:=∀ i p,plan[i]?=some p→r.getD i false=true→Ze plan id p.ID
theorem Snd.hit {plan:List Za} {id:Int} {r:List Bool} (h:Snd plan id r) {m:Nat} {b:Int} (hh:il plan id r m (bS plan b)=true):Ze plan id b:=by
 unfold il at hh
 cases hm:plan[m]? with
 | none=>rw [hm] at hh;cases hh
 | some q =>
  rw [hm] at hh
  simp only [Bool.and_eq_true,Bool.or_eq_true,List.any_eq_true] at hh
  obtain ⟨h1,u,hu,e⟩:=hh
  have e:u=q.ID:=by simpa using e
  subst e
  obtain ⟨p,hp,e1,hx⟩:=(j5 _ _ _).1 hu
  have hnd:Nd plan q.ID b:=⟨p,hp,e1.symm,hx⟩
  rcases h1 with h1 | h1
  ·have:q.ID=id:=by simpa using h1
   rw [← this];exact .one hnd
  exact .step (h m q hm h1) hnd
theorem Snd.set {plan:List Za} {id:Int} {r:List Bool} (h:Snd plan id r) {k:Nat} (hk:k<plan.length) (ht:Ze plan id plan[k].ID):Snd plan id (r.set k true):=fun i p hp hr=>by
 rcases Nat.lt_trichotomy i k with h1 | h1 | h1
 ·rw [List.getD_eq_getElem?_getD,List.getElem?_set_ne (by omega)] at hr;exact h i p hp (by rw [List.getD_eq_getElem?_getD];exact hr)
 ·subst h1;rw [List.getElem?_eq_getElem hk] at hp;injection hp with hp;subst hp;exact ht
 rw [List.getD_eq_getElem?_getD,List.getElem?_set_ne (by omega)] at hr;exact h i p hp (by rw [List.getD_eq_getElem?_getD];exact hr)
structure PassI (plan:List Za) (id:Int) (r:List Bool) (k:Nat) (r':List Bool) (ag:Bool):Prop where
 len:r'.length=plan.length
 le:k≤plan.length
 no:ag=false→r'=r∧∀ i,i<k→∀ p,plan[i]?=some p→r.getD i false=true∨∀ m,il plan id r m (bS plan p.ID)=false
 yes:ag=true→d7 r'<d7 r
 snd:Snd plan id r'
theorem oe {plan:List Za} (hv:VPs plan) (id:Int) (r:List Bool) (hr:r.length=plan.length) (hS:Snd plan id r) :
    Y (aV (S:=(List Bool)×Bool×Int) (T:=((List Bool)×Bool)) (fun (l13,v14,v15)=>cond (decide (v15<(plan.length:Int))) (Option.bind (idx plan v15) (fun m22=>Option.bind (eR plan m22.ID) (fun x23=>Option.bind (aV (S:=(List Bool)×Bool×Int) (T:=((List Bool)×Bool)) (fun (l25,v26,v27)=>Option.bind (gd (decide (v27<(plan.length:Int))) (idx l25 v15)) (fun m33=>cond ((decide (v27<(plan.length:Int)))&&(!m33)) (Option.bind (Option.bind (idx plan v27) (fun m39=>Option.bind (gd (!(m39.ID == id)) (idx l25 v27)) (fun m40=>Option.bind (gd ((m39.ID == id)||m40) (idx plan v27)) (fun m41=>Option.bind (gd ((m39.ID == id)||m40) (eE x23 m41.ID)) (fun x42=>cond (((m39.ID == id)||m40)&&x42) (Option.bind (idx l25 v15) (fun m44=>some ((l25.set v15.toNat true),true))) (some (l25,v26))))))) (fun (l36,v37)=>some (.inl (l36,v37,(IntKind.i64.wrap (v27+1)))))) (some (.inr (l25,v26))))) FUEL (l13,v14,0)) (fun (l29,v30)=>some (.inl (l29,v30,(IntKind.i64.wrap (v15+1)))))))) (some (.inr (l13,v14)))) FUEL (r,false,0)) (fun t=>PassI plan id r plan.length t.1 t.2):=by
  have hlen:=hv.len
  refine Y.loop (fun s:List Bool×Bool×Int=>∃ k:Nat,s.2.2=(k:Int)∧PassI plan id r k s.1 s.2.1) (fun s=>(plan.length - s.2.2).toNat) ⟨0,rfl,hr,by omega,fun _=>⟨rfl,fun i h=>by omega⟩,fun h=>(by cases h),hS⟩ (by show ((plan.length:Int) - 0).toNat≤_;omega) (fun s hs=>?_)
  obtain ⟨r1,ag,v⟩:=s
  obtain ⟨k,hvk,hI⟩:=hs
  dsimp only at hvk hI ⊢
  subst hvk
  rcases Nat.lt_or_ge k plan.length with hk | hk
  rotate_left
  · have e:k=plan.length:=by have:=hI.le;omega
    subst e
    rw [kg,ga]
    exact Y.ret hI
  rw [rV hk,dz,bj hk,dg,(kK hv plan[k].ID).1,dg]
  have hU:=(kK hv plan[k].ID).2
  have hk1:k<r1.length:=by rw [hI.len];exact hk
  have inner:Y (aV (S:=(List Bool)×Bool×Int) (T:=((List Bool)×Bool)) (fun (l25,v26,v27)=>Option.bind (gd (decide (v27<(plan.length:Int))) (idx l25 (k:Int))) (fun m33=>cond ((decide (v27<(plan.length:Int)))&&(!m33)) (Option.bind (Option.bind (idx plan v27) (fun m39=>Option.bind (gd (!(m39.ID == id)) (idx l25 v27)) (fun m40=>Option.bind (gd ((m39.ID == id)||m40) (idx plan v27)) (fun m41=>Option.bind (gd ((m39.ID == id)||m40) (eE (bS plan plan[k].ID) m41.ID)) (fun x42=>cond (((m39.ID == id)||m40)&&x42) (Option.bind (idx l25 (k:Int)) (fun m44=>some ((l25.set (k:Int).toNat true),true))) (some (l25,v26))))))) (fun (l36,v37)=>some (.inl (l36,v37,(IntKind.i64.wrap (v27+1)))))) (some (.inr (l25,v26))))) FUEL (r1,ag,0)) (fun t=>(t.1=r1∧t.2=ag∧(r1.getD k false=true∨∀ m,il plan id r1 m (bS plan plan[k].ID)=false))∨(t.1=r1.set k true∧t.2=true∧r1[k]?=some false∧Ze plan id plan[k].ID)):=by
    refine Y.loop (fun s:List Bool×Bool×Int=>∃ j:Nat,s.2.2=(j:Int)∧j≤plan.length∧((s.1=r1∧s.2.1=ag∧∀ m,m<j→il plan id r1 m (bS plan plan[k].ID)=false)∨(s.1=r1.set k true∧s.2.1=true∧r1[k]?=some false∧Ze plan id plan[k].ID))) (fun s=>(plan.length - s.2.2).toNat) ⟨0,rfl,by omega,.inl ⟨rfl,rfl,fun m h=>by omega⟩⟩ (by show ((plan.length:Int) - 0).toNat≤_;omega) (fun s hs=>?_)
    obtain ⟨r2,ag2,v2⟩:=s
    obtain ⟨j,hvj,hj,hJ⟩:=hs
    dsimp only at hvj hJ ⊢
    subst hvj
    have hr2:r2.length=r1.length:=by rcases hJ with ⟨rfl,_⟩ | ⟨rfl,_⟩ <;> simp
    have hk2:k<r2.length:=by omega
    rcases Nat.lt_or_ge j plan.length with hjl | hjl
    rotate_left
    · have e:j=plan.length:=by omega
      subst e
      rw [kg,ib,dg]
      simp only [Bool.false_and,ga]
      refine Y.ret ?_
      rcases hJ with ⟨h1,h2,h3⟩ | h
      · refine .inl ⟨h1,h2,.inr fun m=>?_⟩
        rcases Nat.lt_or_ge m plan.length with hm | hm
        · exact h3 m hm
        unfold il;rw [List.getElem?_eq_none hm]
      exact .inr h
    rw [rV hjl,gq,bj hk2,dg,Bool.true_and]
    cases hb:r2[k] with
    | true =>
      simp only [Bool.not_true,ga]
      refine Y.ret ?_
      rcases hJ with ⟨h1,h2,h3⟩ | h
      · subst h1
        exact .inl ⟨rfl,h2,.inl (by rw [List.getD_eq_getElem?_getD,List.getElem?_eq_getElem hk2,hb];rfl)⟩
      · exact .inr h
    | false =>
      simp only [Bool.not_false,dz]
      rcases hJ with ⟨h1,h2,h3⟩ | ⟨h1,_⟩
      rotate_left
      · subst h1;simp at hb
      subst h1;subst h2
      have hj2:j<r2.length:=by have:=hI.len;omega
      rw [bj hjl,dg]
      have hin:eE (bS plan plan[k].ID) plan[j].ID=some ((bS plan plan[k].ID).any fun x=>x == plan[j].ID):=ref_in _ _ (by omega)
      have hget:r2.getD j false=r2[j]:=by rw [List.getD_eq_getElem?_getD,List.getElem?_eq_getElem hj2];rfl
      have hhit:il plan id r2 j (bS plan plan[k].ID)=(((plan[j].ID == id)||r2[j])&&(bS plan plan[k].ID).any fun x=>x == plan[j].ID):=by unfold il;rw [List.getElem?_eq_getElem hjl];dsimp only;rw [hget]
      have body:Y (Option.bind (gd (!(plan[j].ID == id)) (idx r2 (j:Int))) (fun m40=>Option.bind (gd ((plan[j].ID == id)||m40) (some plan[j])) (fun m41=>Option.bind (gd ((plan[j].ID == id)||m40) (eE (bS plan plan[k].ID) m41.ID)) (fun x42=>cond (((plan[j].ID == id)||m40)&&x42) (Option.bind (some false) (fun m44=>some ((r2.set (k:Int).toNat true),true))) (some (r2,ag2)))))) (fun t=>(t=(r2,ag2)∧il plan id r2 j (bS plan plan[k].ID)=false)∨(t=(r2.set k true,true)∧il plan id r2 j (bS plan plan[k].ID)=true)):=by
        rw [hhit,bj hj2]
        cases h1:(plan[j].ID == id)
        · simp only [Bool.not_false,gq,dg,Bool.false_or]
          cases h2:r2[j]
          · simp only [ib,dg,Bool.false_and,ga];exact Y.ret (.inl ⟨rfl,trivial⟩)
          simp only [gq,dg,hin,Bool.true_and]
          cases h3:((bS plan plan[k].ID).any fun x=>x == plan[j].ID)
          · exact Y.ret (.inl ⟨rfl,rfl⟩)
          exact Y.ret (.inr ⟨rfl,rfl⟩)
        simp only [Bool.not_true,ib,dg,Bool.true_or,gq,hin,Bool.true_and]
        cases h3:((bS plan plan[k].ID).any fun x=>x == plan[j].ID)
        · exact Y.ret (.inl ⟨rfl,rfl⟩)
        exact Y.ret (.inr ⟨rfl,rfl⟩)
      refine Y.bind body fun t ht=>Y.ret ⟨⟨j+1,?_,by omega,?_⟩,?_⟩
      · show IntKind.i64.wrap ((j:Int)+1)=_;rw [fY hjl (by omega)]
      · rcases ht with ⟨rfl,h⟩ | ⟨rfl,hh⟩
        · refine .inl ⟨rfl,rfl,fun m hm=>?_⟩
          rcases Nat.lt_or_ge m j with h4 | h4
          · exact h3 m h4
          have:m=j:=by omega
          subst this;exact h
        exact .inr ⟨rfl,rfl,by rw [List.getElem?_eq_getElem hk2,hb],hI.snd.hit hh⟩
      show ((plan.length:Int) - IntKind.i64.wrap ((j:Int)+1)).toNat<((plan.length:Int) - (j:Int)).toNat
      rw [fY hjl (by omega)];omega
  refine Y.bind inner fun t ht=>Y.ret ⟨⟨k+1,?_,?_⟩,?_⟩
  · show IntKind.i64.wrap ((k:Int)+1)=_;rw [fY hk (by omega)]
  · obtain ⟨t1,t2⟩:=t
    dsimp only at ht ⊢
    rcases ht with ⟨h1,h2,h3⟩ | ⟨h1,h2,h3,h4⟩
    · subst h1;subst h2
      refine ⟨hI.len,hk,fun ha=>?_,hI.yes,hI.snd⟩
      obtain ⟨h4,h5⟩:=hI.no ha
      subst h4
      refine ⟨rfl,fun i hi p hp=>?_⟩
      rcases Nat.lt_or_ge i k with h6 | h6
      · exact h5 i h6 p hp
      have:i=k:=by omega
      subst this
      rw [List.getElem?_eq_getElem hk] at hp;injection hp with hp;subst hp;exact h3
    subst h1;subst h2
    refine ⟨by rw [List.length_set];exact hI.len,hk,(fun h=>by cases h),fun _=>?_,hI.snd.set hk h4⟩
    have:=j6 r1 k h3
    cases hag:ag with
    | false=>have:=(hI.no hag).1;subst this;omega
    | true=>have:=hI.yes hag;omega
  show ((plan.length:Int) - IntKind.i64.wrap ((k:Int)+1)).toNat<((plan.length:Int) - (k:Int)).toNat
  rw [fY hk (by omega)];omega
theorem pR {plan:List Za} (hv:VPs plan) (id:Int):Y (gy plan id) (fun need=>need.length≤64∧RS plan id need):=by
 have hlen:=hv.len
 unfold gy
 rw [show mk 1 false (plan.length:Int)=some (List.replicate plan.length false) by unfold mk;rw [if_pos (by simp;omega)];simp,dg]
 refine Y.bind (P:=fun r:List Bool=>r.length=plan.length∧Snd plan id r∧∀ i,∀ p,plan[i]?=some p→r.getD i false=true∨∀ m,il plan id r m (bS plan p.ID)=false) ?_ fun r ⟨h1,hS,h2⟩=>?_
 ·refine Y.loop (fun s:List Bool×Bool=>s.1.length=plan.length∧Snd plan id s.1∧(s.2=false→∀ i,∀ p,plan[i]?=some p→s.1.getD i false=true∨∀ m,il plan id s.1 m (bS plan p.ID)=false)) (fun s=>2*d7 s.1+cond s.2 1 0) ⟨by simp,fun i p hp hr=>(by dsimp only at hr;rw [List.getD_eq_getElem?_getD,List.getElem?_replicate] at hr;split at hr <;> cases hr),fun h=>by cases h⟩ ?_ (fun s hs=>?_)
  ·show 2*d7 (List.replicate plan.length false)+1≤_
   have:d7 (List.replicate plan.length false)≤plan.length:=by unfold d7;refine Nat.le_trans (List.length_filter_le _ _) ?_;simp
   omega
  obtain ⟨r,ag⟩:=s
  obtain ⟨h1,hS,h2⟩:=hs
  dsimp only at h1 hS h2 ⊢
  cases ag with
  | false=>exact Y.ret ⟨h1,hS,h2 rfl⟩
  | true =>
   simp only [dz]
   refine Y.bind (oe hv id r h1 hS) fun t ht=>Y.ret ⟨⟨ht.len,ht.snd,fun ha=>?_⟩,?_⟩
   ·obtain ⟨h3,h4⟩:=ht.no ha
    rw [h3]
    exact fun i p hp=>h4 i (List.getElem?_eq_some_iff.1 hp).1 p hp
   show 2*d7 t.1+cond t.2 1 0<2*d7 r+1
   cases ha:t.2 with
   | false=>rw [(ht.no ha).1];simp
   | true=>have:=ht.yes ha;simp only [dz];omega
 refine Y.bind (P:=fun out:List Int=>out.length≤64∧out.Pairwise (· < ·)∧∀ n,n∈out↔∃ i p,plan[i]?=some p∧r.getD i false=true∧n=p.ID) ?_ fun out ⟨k1,k0,k2⟩=>Y.ret ⟨k1,k0,?_⟩
 ·refine Y.loop (fun s:List Int×Int=>∃ k:Nat,s.2=(k:Int)∧k≤plan.length∧s.1.length≤k∧s.1.Pairwise (· < ·)∧∀ n,n∈s.1↔∃ i p,i<k∧plan[i]?=some p∧r.getD i false=true∧n=p.ID) (fun s=>(plan.length - s.2).toNat) ⟨0,rfl,by omega,by simp,by simp,fun n=>by simp⟩ (by show ((plan.length:Int) - 0).toNat≤_;omega) (fun s hs=>?_)
  obtain ⟨out,v⟩:=s
  obtain ⟨k,hvk,hk,hl,hpw,hm⟩:=hs
  dsimp only at hvk hl hpw hm ⊢
  subst hvk
  rcases Nat.lt_or_ge k plan.length with hk2 | hk2
  rotate_left
  ·have e:k=plan.length:=by omega
   subst e
   rw [kg,ga]
   refine Y.ret ⟨by omega,hpw,fun n=>(hm n).trans ⟨fun ⟨i,p,_,h⟩=>⟨i,p,h⟩,fun ⟨i,p,h⟩=>⟨i,p,(List.getElem?_eq_some_iff.1 h.1).1,h⟩⟩⟩
  have hkr:k<r.length:=by omega
  have hg:r.getD k false=r[k]:=by rw [List.getD_eq_getElem?_getD,List.getElem?_eq_getElem hkr];rfl
  rw [rV hk2,dz,bj hkr,dg,bj hk2,dg,fY hk2 (by omega)]
  cases hb:r[k] with
  | false =>
   refine Y.ret ⟨⟨k+1,rfl,by omega,by dsimp only;omega,hpw,fun n=>(hm n).trans ⟨fun ⟨i,p,h,h2⟩=>⟨i,p,by omega,h2⟩,fun ⟨i,p,h,h2,h3,h4⟩=>?_⟩⟩,?_⟩
   ·rcases Nat.lt_or_ge i k with h5 | h5
    ·exact ⟨i,p,h5,h2,h3,h4⟩
    have:i=k:=by omega
    subst this;rw [hg,hb] at h3;cases h3
   ·show ((plan.length:Int) - ((k+1:Nat):Int)).toNat<((plan.length:Int) - (k:Int)).toNat;omega
  | true =>
   simp only [dz]
   rw [dY (by simp;omega) (by simp;omega),dg,dg]
   have hnew:∀ a∈out,a<plan[k].ID:=fun a ha=>by
    obtain ⟨i,p,h,h2,_,h4⟩:=(hm a).1 ha
    have hi:=(List.getElem?_eq_some_iff.1 h2).1
    have:=List.pairwise_iff_getElem.1 hv.asc i k hi hk2 h
    rw [(List.getElem?_eq_some_iff.1 h2).2] at this;omega
   refine Y.ret ⟨⟨k+1,rfl,by omega,by dsimp only;simp;omega,List.pairwise_append.2 ⟨hpw,by simp,fun a ha b hb=>by rw [List.mem_singleton] at hb;subst hb;exact hnew a ha⟩,fun n=>?_⟩,?_⟩
   ·dsimp only
    rw [List.mem_append,hm,List.mem_singleton]
    constructor
    ·rintro (⟨i,p,h,h2⟩ | h)
     ·exact ⟨i,p,by omega,h2⟩
     exact ⟨k,plan[k],by omega,List.getElem?_eq_getElem hk2,by rw [hg,hb],h⟩
    rintro ⟨i,p,h,h2,h3,h4⟩
    rcases Nat.lt_or_ge i k with h5 | h5
    ·exact .inl ⟨i,p,h5,h2,h3,h4⟩
    have:i=k:=by omega
    subst this
    rw [List.getElem?_eq_getElem hk2] at h2;injection h2 with h2;subst h2;exact .inr h4
   show ((plan.length:Int) - ((k+1:Nat):Int)).toNat<((plan.length:Int) - (k:Int)).toNat;omega
 have close:∀ p∈plan,((p.ID == id)||out.any fun n=>n == p.ID)=true→∀ y∈p.Inputs,((out.any fun n=>n == y.Product)=true):=by
  intro p hp hR y hy
  obtain ⟨m,hm,rfl⟩:=List.getElem_of_mem hp
  have hq:=((hv.all _ hp).inp y hy).1
  obtain ⟨q,hq⟩:=Option.isSome_iff_exists.1 hq
  obtain ⟨hq1,hq2⟩:=fz hq
  obtain ⟨j,hj,rfl⟩:=List.getElem_of_mem hq1
  have hu:plan[m].ID∈bS plan plan[j].ID:=(j5 _ _ _).2 ⟨_,hp,rfl,y,hy,hq2.symm⟩
  have hrm:((plan[m].ID == id)||r.getD m false)=true:=by
   rw [Bool.or_eq_true] at hR ⊢
   rcases hR with h | h
   ·exact .inl h
   rw [List.any_eq_true] at h
   obtain ⟨n,hn,e⟩:=h
   obtain ⟨i,p',h3,h4,h5⟩:=(k2 n).1 hn
   have hi:=(List.getElem?_eq_some_iff.1 h3).1
   have hpe:=(List.getElem?_eq_some_iff.1 h3).2
   have e:n=plan[m].ID:=by simpa using e
   have heq:plan[i]=plan[m]:=lF hv.asc (List.getElem_mem hi) (List.getElem_mem hm) (by rw [hpe,← h5,e])
   have him:i=m:=by
    rcases Nat.lt_trichotomy i m with h6 | h6 | h6
    ·have:=List.pairwise_iff_getElem.1 hv.asc i m hi hm h6;rw [heq] at this;omega
    ·exact h6
    have:=List.pairwise_iff_getElem.1 hv.asc m i hm hi h6;rw [heq] at this;omega
   subst him;exact .inr h4
  have hhit:il plan id r m (bS plan plan[j].ID)=true:=by
   unfold il;rw [List.getElem?_eq_getElem hm]
   dsimp only
   rw [hrm,Bool.true_and,List.any_eq_true]
   exact ⟨_,hu,by simp⟩
  rcases h2 j plan[j] (List.getElem?_eq_getElem hj) with h | h
  ·rw [List.any_eq_true]
   exact ⟨y.Product,(k2 _).2 ⟨j,plan[j],List.getElem?_eq_getElem hj,h,hq2.symm⟩,by simp⟩
  rw [h m] at hhit;cases hhit
 intro n
 constructor
 ·intro hn
  obtain ⟨i,p,h3,h4,rfl⟩:=(k2 n).1 hn
  exact hS i p h3 h4
 intro ht
 induction ht with
 | one h =>
  obtain ⟨p,hp,e,x,hx,rfl⟩:=h
  have:=close p hp (by rw [e];simp) x hx
  rw [List.any_eq_true] at this
  obtain ⟨m,hm,e⟩:=this
  have e:m=x.Product:=by simpa using e
  exact e ▸ hm
 | step _ h ih =>
  obtain ⟨p,hp,e,x,hx,rfl⟩:=h
  have:=close p hp (by rw [Bool.or_eq_true];right;rw [List.any_eq_true];exact ⟨_,ih,by simp [e]⟩) x hx
  rw [List.any_eq_true] at this
  obtain ⟨m,hm,e⟩:=this
  have e:m=x.Product:=by simpa using e
  exact e ▸ hm
theorem awake13:eT=some true:=by kernel_rfl
theorem nj:∀ (ks l:List Int),ks.Nodup→(∀ n∈ks,n∈l)→ks.length≤l.length
 | [],l,_,_=>Nat.zero_le _
 | n::ks,l,h1,h2=>by
  have h3:=List.nodup_cons.1 h1
  have hn:n∈l:=h2 n (by simp)
  have:=nj ks (l.erase n) h3.2 fun m hm=>(List.mem_erase_of_ne (by rintro rfl;exact h3.1 hm)).2 (h2 m (by simp [hm]))
  rw [List.length_erase_of_mem hn] at this
  have hpos:0<l.length:=List.length_pos_of_mem hn
  rw [List.length_cons];omega
def og (ks:List Int):List (Int×Bool):=ks.map fun n=>(n,true)
theorem nk (n:Int):∀ ks:List Int,(bv (og ks) n).getD false=decide (n∈ks)
 | []=>rfl
 | a::ks=>by
  have ih:=nk n ks
  unfold og at ih ⊢
  rw [List.map_cons]
  unfold bv
  by_cases h:a=n
  ·rw [if_pos h];subst h;simp
  rw [if_neg h,ih]
  have h':¬ n=a:=fun e=>h e.symm
  simp [h']
theorem rR {n:Int} {ks:List Int} (h:n ∉ ks):fQ (og ks) n true=og (ks++[n]):=by
 unfold og
 rw [kA (fun p hp=>by obtain ⟨m,hm,rfl⟩:=List.mem_map.1 hp;rintro rfl;exact h hm),List.map_append];rfl
def inF (s:List Int×List Int) (x:Zb):List Int×List Int:=cond (!decide (x.Product∈s.2)) (s.1++[x.Product],s.2++[x.Product]) s
theorem j7:∀ (inp:List Zb) (td ks:List Int),∃ new:List Int,inp.foldl inF (td,ks)=(td++new,ks++new)∧new.Nodup∧(∀ n∈new,n ∉ ks∧∃ x∈inp,x.Product=n)∧∀ x∈inp,x.Product∈ks++new
 | [],td,ks=>⟨[],(by simp),List.nodup_nil,fun _ h=>(by cases h),fun _ h=>(by cases h)⟩
 | x::inp,td,ks=>by
  rw [List.foldl_cons]
  by_cases h:x.Product∈ks
  ·have e:inF (td,ks) x=(td,ks):=by unfold inF;simp [h]
   rw [e]
   obtain ⟨new,h1,h2,h3,h4⟩:=j7 inp td ks
   refine ⟨new,h1,h2,fun n hn=>⟨(h3 n hn).1,?_⟩,fun y hy=>?_⟩
   ·obtain ⟨y,hy,e⟩:=(h3 n hn).2;exact ⟨y,by simp [hy],e⟩
   rcases List.mem_cons.1 hy with rfl | hy
   ·simp [h]
   exact h4 y hy
  have e:inF (td,ks) x=(td++[x.Product],ks++[x.Product]):=by unfold inF;simp [h]
  rw [e]
  obtain ⟨new,h1,h2,h3,h4⟩:=j7 inp (td++[x.Product]) (ks++[x.Product])
  refine ⟨x.Product::new,by rw [h1];simp,List.nodup_cons.2 ⟨fun hn=>(h3 _ hn).1 (by simp),h2⟩,fun n hn=>?_,fun y hy=>?_⟩
  ·rcases List.mem_cons.1 hn with rfl | hn
   ·exact ⟨h,x,by simp,rfl⟩
   obtain ⟨h5,y,hy,e⟩:=h3 n hn
   exact ⟨fun hk=>h5 (by simp [hk]),y,by simp [hy],e⟩
  rcases List.mem_cons.1 hy with rfl | hy
  ·simp
  have:=h4 y hy;rw [List.append_assoc] at this;exact this
structure RI (plan:List Za) (id:Int) (td ks:List Int):Prop where
 nd:ks.Nodup
 sub:∀ n∈ks,Ze plan id n∧(dW plan n).isSome=true
 tds:∀ t∈td,t=id∨t∈ks
 cl:∀ a,a=id∨a∈ks→a∈td∨∀ b,Nd plan a b→b∈ks
 len:td.length≤ks.length+1
theorem RI.few {plan:List Za} {id:Int} {td ks:List Int} (h:RI plan id td ks):ks.length≤plan.length:=by
 have:=nj ks (plan.map (·.ID)) h.nd fun n hn=>by
  obtain ⟨p,hp⟩:=Option.isSome_iff_exists.1 (h.sub n hn).2
  obtain ⟨h1,h2⟩:=fz hp
  exact List.mem_map.2 ⟨p,h1,h2⟩
 rwa [List.length_map] at this
theorem RI.step {plan:List Za} (hv:VPs plan) {id a:Int} {td ks:List Int} (h:RI plan id (td++[a]) ks) {p:Za} (hp:dW plan a=some p) {new:List Int} (h2:new.Nodup) (h3:∀ n∈new,n ∉ ks∧∃ x∈p.Inputs,x.Product=n) (h4:∀ x∈p.Inputs,x.Product∈ks++new):RI plan id (td++new) (ks++new):=by
 obtain ⟨hm,hid⟩:=fz hp
 have hnd:∀ n∈new,Nd plan a n:=fun n hn=>by obtain ⟨x,hx,e⟩:=(h3 n hn).2;exact ⟨p,hm,hid,x,hx,e⟩
 have ha:=h.tds a (by simp)
 refine ⟨List.nodup_append.2 ⟨h.nd,h2,fun x hx y hy e=>(h3 y hy).1 (e ▸ hx)⟩,fun n hn=>?_,fun t ht=>?_,fun c hc=>?_,?_⟩
 ·rcases List.mem_append.1 hn with hn | hn
  ·exact h.sub n hn
  refine ⟨?_,?_⟩
  ·rcases ha with rfl | ha
   ·exact .one (hnd n hn)
   exact .step (h.sub a ha).1 (hnd n hn)
  obtain ⟨x,hx,e⟩:=(h3 n hn).2
  rw [← e];exact ((hv.all p hm).inp x hx).1
 ·rcases List.mem_append.1 ht with ht | ht
  ·rcases h.tds t (by simp [ht]) with h5 | h5
   ·exact .inl h5
   exact .inr (by simp [h5])
  exact .inr (by simp [ht])
 ·have hold:c=id∨c∈ks→c∈td++new∨∀ b,Nd plan c b→b∈ks++new:=fun hc=>by
   by_cases hca:c=a
   ·subst hca
    refine .inr fun b hb=>?_
    obtain ⟨q,hq,e,x,hx,rfl⟩:=hb
    have:q=p:=lF hv.asc hq hm (by rw [e,hid])
    subst this;exact h4 x hx
   rcases h.cl c hc with h5 | h5
   ·rcases List.mem_append.1 h5 with h5 | h5
    ·exact .inl (by simp [h5])
    simp at h5;exact absurd h5 hca
   exact .inr fun b hb=>by simp [h5 b hb]
  rcases hc with hc | hc
  ·exact hold (.inl hc)
  rcases List.mem_append.1 hc with hc | hc
  ·exact hold (.inr hc)
  exact .inl (by simp [hc])
 ·have:=h.len;simp at this ⊢;omega
theorem RI.drop {plan:List Za} {id a:Int} {td ks:List Int} (h:RI plan id (td++[a]) ks) (hn:dW plan a=none):RI plan id td ks:=by
 refine ⟨h.nd,h.sub,fun t ht=>h.tds t (by simp [ht]),fun c hc=>?_,by have:=h.len;simp at this;omega⟩
 rcases h.cl c hc with h5 | h5
 ·rcases List.mem_append.1 h5 with h5 | h5
  ·exact .inl h5
  simp at h5;subst h5
  refine .inr fun b hb=>?_
  obtain ⟨q,hq,e,_⟩:=hb
  unfold dW at hn
  have:=List.find?_eq_none.1 hn q hq
  exact absurd e (by simpa using this)
 exact .inr h5
theorem RI.done {plan:List Za} {id:Int} {ks:List Int} (h:RI plan id [] ks):∀ n,n∈ks↔Ze plan id n:=fun n=>by
 have cl:∀ a,a=id∨a∈ks→∀ b,Nd plan a b→b∈ks:=fun a ha=>by
  rcases h.cl a ha with h1 | h1
  ·cases h1
  exact h1
 constructor
 ·exact fun hn=>(h.sub n hn).1
 intro ht
 induction ht with
 | one hb=>exact cl id (.inl rfl) _ hb
 | step _ hb ih=>exact cl _ (.inr ih) _ hb
theorem pT {plan:List Za} (hi:VIds plan) (hl:plan.length≤64) {id:Int} {ks:List Int} (h:RI plan id [] ks):∃ r,mY (og ks)=some r∧r.length≤64∧RS plan id r:=by
 have hk:=h.few
 have hin:((og ks).all (fun p=>inI p.1)&&decide ((og ks).length≤1000000000000))=true:=by
  rw [Bool.and_eq_true,List.all_eq_true,decide_eq_true_eq]
  refine ⟨fun p hp=>?_,by unfold og;rw [List.length_map];omega⟩
  obtain ⟨n,hn,rfl⟩:=List.mem_map.1 hp
  obtain ⟨q,hq⟩:=Option.isSome_iff_exists.1 (h.sub n hn).2
  obtain ⟨h1,h2⟩:=fz hq
  have:=hi.id q h1
  unfold inI;simp only [Bool.and_eq_true,decide_eq_true_eq];omega
 refine ⟨jT kG ks,?_,by rw [dI.length_eq];omega,?_,fun n=>?_⟩
 ·unfold mY;rw [hin,dz]
  congr 2;unfold og;rw [List.map_map];simp [Function.comp_def]
 ·have h1:=fR ltI_t ltI_n ltI_i ks
  have h2:(jT kG ks).Nodup:=dI.nodup_iff.2 h.nd
  refine h1.imp₂ (fun a b hab hne=>?_) h2
  unfold kG at hab
  have:=of_decide_eq_false hab
  omega
 exact dI.mem_iff.trans (h.done n)
theorem oh {plan:List Za} (hv:VPs plan) (hi:VIds plan) (id:Int):Y (bg plan id) (fun r=>r.length≤64∧RS plan id r):=by
 have hlen:=hv.len
 unfold bg
 refine Y.bind (P:=fun l:List (Int×Bool)=>∃ ks,l=og ks∧RI plan id [] ks) (Y.loop (fun s:List Int×List (Int×Bool)=>∃ ks,s.2=og ks∧RI plan id s.1 ks) (fun s=>s.1.length+2*(64 - s.2.length)) ⟨[],rfl,List.nodup_nil,fun _ h=>(by cases h),fun t ht=>(by simp at ht;exact .inl ht),fun a ha=>(by rcases ha with rfl | h;exact .inl (by simp);cases h),(by simp)⟩ (by simp) fun s hs=>?_) fun l ⟨ks,e,h⟩=>by
  subst e
  obtain ⟨r,h1,h2,h3⟩:=pT hi hlen h
  rw [h1,dg];exact Y.ret ⟨h2,h3⟩
 obtain ⟨todo,F⟩:=s
 obtain ⟨ks,rfl,hI⟩:=hs
 dsimp only at hI ⊢
 have hkl:=hI.few
 rcases List.eq_nil_or_concat todo with rfl | ⟨td,a,rfl⟩
 ·rw [show decide ((0:Int)<(([]:List Int).length:Int))=false from rfl,ga]
  exact Y.ret ⟨ks,rfl,hI⟩
 rw [List.concat_eq_append] at hI ⊢
 have htl:=hI.len
 have hl:(td++[a]).length=td.length+1:=by simp
 rw [hl] at htl ⊢
 have hw:IntKind.i64.wrap (((td.length+1:Nat):Int) - 1)=(td.length:Int):=by rw [ef (by omega) (by omega)];omega
 rw [show decide ((0:Int)<((td.length+1:Nat):Int))=true by rw [decide_eq_true_eq];omega,dz,hw,bj (show td.length<(td++[a]).length by simp),dg]
 have hg:(td++[a])[td.length]=a:=by simp
 rw [hg]
 obtain ⟨j,e1,e2⟩:=pM plan a hv.sorted
 rw [e1,dg,show (0:Int)=((0:Nat):Int) from rfl,nX (by omega) (by rw [hl];omega),dg]
 have hinit:((td++[a]).take td.length).drop 0=td:=by simp
 rw [hinit]
 dsimp only
 cases hf:dW plan a with
 | none =>
  simp only [Option.isSome_none,Bool.not_false,dz]
  exact Y.ret ⟨⟨ks,rfl,hI.drop hf⟩,by dsimp only;omega⟩
 | some p =>
  obtain ⟨hj,e3⟩:=e2 p hf
  have hpm:=(fz hf).1
  have hfew:=(hv.all p hpm).few
  simp only [Option.isSome_some,Bool.not_true,ga,bj hj,e3,dg]
  obtain ⟨new,n1,n2,n3,n4⟩:=j7 p.Inputs td ks
  have hstep:=hI.step hv hf n2 n3 n4
  have hfold:=iB (l:=p.Inputs) (by omega) (k:=fun (t:List Int×List (Int×Bool))=>some (Sum.inl (t.1,t.2):(List Int×List (Int×Bool))⊕List (Int×Bool)))
   (body:=fun (l20,v23,l24)=>cond (decide (v23<(p.Inputs.length:Int))) (Option.bind (Option.bind (idx p.Inputs v23) (fun m39=>cond (!((bv l24 m39.Product).getD false)) (Option.bind (app 8 l20 [m39.Product]) (fun l44=>some (l44,(fQ l24 m39.Product true)))) (some (l20,l24)))) (fun (l36,l37)=>some (.inl (l36,(IntKind.i64.wrap (v23+1)),l37)))) (some (.inr (l20,l24))))
   (fun i (s:List Int×List Int)=>(s.1,i,og s.2)) inF (fun s=>(s.1,og s.2)) (fun k s=>s.1.length≤td.length+k) (td,ks) (by simp) (fun k hk s hs=>?_) (fun s hs=>?_)
  ·refine (show Y _ _ from ?_)
   have:=hfold.1
   refine ⟨_,this,?_⟩
   rw [n1]
   refine ⟨⟨ks++new,rfl,hstep⟩,?_⟩
   have:=hstep.few
   simp only [og,List.length_map,List.length_append] at this ⊢
   simp
   omega
  ·dsimp only
   rw [rV hk,dz,bj hk,dg,nk,fY hk (by omega)]
   unfold inF
   cases hc:decide (p.Inputs[k].Product∈s.2)
   ·simp only [Bool.not_false,dz]
    rw [dY (by simp;omega) (by simp;omega),dg,dg,rR (of_decide_eq_false hc)]
    exact ⟨rfl,by simp;omega⟩
   simp only [Bool.not_true,ga,dg]
   exact ⟨trivial,by omega⟩
  dsimp only;rw [kg,ga]
theorem j8 {plan:List Za} (hv:VPs plan) (hi:VIds plan) (id:Int):∃ r,bg plan id=some r∧gy plan id=some r∧r.length≤64∧RS plan id r:=by
 obtain ⟨r,e1,h1,h2⟩:=oh hv hi id
 obtain ⟨s,e2,h3,h4⟩:=pR hv id
 have:=h2.uniq h4
 subst this
 exact ⟨r,e1,e2,h1,h2⟩
theorem pU {l:List Int} (h:l.length≤140737488355328):cf l l=some true:=by rw [ng _ _ h];simp
theorem Ze.cons {plan:List Za} {a b n:Int} (h:Nd plan a b) (ht:Ze plan b n):Ze plan a n:=by
 induction ht with
 | one h2=>exact .step (.one h) h2
 | step _ h2 ih=>exact .step ih h2
theorem Ze.trans {plan:List Za} {a b n:Int} (h:Ze plan a b) (ht:Ze plan b n):Ze plan a n:=by
 induction ht with
 | one h2=>exact .step h h2
 | step _ h2 ih=>exact .step ih h2
theorem Ze.head {plan:List Za} {a n:Int} (h:Ze plan a n):∃ b,Nd plan a b∧(n=b∨Ze plan b n):=by
 induction h with
 | one h=>exact ⟨_,h,.inl rfl⟩
 | step _ h2 ih =>
  obtain ⟨b,h3,h4⟩:=ih
  refine ⟨b,h3,.inr ?_⟩
  rcases h4 with rfl | h4
  ·exact .one h2
  exact .step h4 h2
theorem rS {plan:List Za} (hv:VPs plan) {p:Za} (hp:p∈plan) (b:Int):Nd plan p.ID b↔∃ x∈p.Inputs,x.Product=b:=by
 constructor
 ·rintro ⟨q,hq,e,h⟩
  have:q=p:=lF hv.asc hq hp e
  subst this;exact h
 rintro h;exact ⟨p,hp,rfl,h⟩
theorem asc_Y (l:List Int) (hl:l.length≤1000000):Y (cN l) (fun r=>r.Pairwise (· < ·)∧(∀ n,n∈r↔n∈l)∧r.length≤l.length):=by
 unfold cN
 refine Y.bind (P:=fun r:List Int=>r.Pairwise (· < ·)∧(∀ n,n∈r↔n∈l)∧r.length≤l.length) (Y.loop (fun s:List Int×Int=>∃ k:Nat,s.2=(k:Int)∧k≤l.length∧s.1.Pairwise (· < ·)∧s.1.length≤k∧∀ n,n∈s.1↔n∈l.take k) (fun s=>(l.length - s.2).toNat) ⟨0,rfl,by omega,List.Pairwise.nil,by simp,fun n=>by simp⟩ (by show ((l.length:Int) - 0).toNat≤_;omega) fun s hs=>?_) fun r hr=>Y.ret hr
 obtain ⟨out,v⟩:=s
 obtain ⟨k,hvk,hk,hpw,hlen,hm⟩:=hs
 dsimp only at hvk hpw hlen hm ⊢
 subst hvk
 rcases Nat.lt_or_ge k l.length with hk2 | hk2
 rotate_left
 ·have e:k=l.length:=by omega
  subst e
  rw [kg,ga]
  exact Y.ret ⟨hpw,fun n=>by rw [hm,List.take_length],hlen⟩
 rw [rV hk2,dz,fY hk2 (by omega)]
 have htk:∀ n,n∈l.take (k+1)↔n∈out∨n=l[k]:=fun n=>by
  rw [List.take_add_one,List.getElem?_eq_getElem hk2,List.mem_append,← hm];simp
 refine Y.bind (P:=fun r:List Int=>r.Pairwise (· < ·)∧r.length≤k+1∧∀ n,n∈r↔n∈out∨n=l[k]) ?_ fun r ⟨h1,h2,h3⟩=>Y.ret ⟨⟨k+1,rfl,hk2,h1,h2,fun n=>(h3 n).trans (htk n).symm⟩,by dsimp only;omega⟩
 refine Y.bind (P:=fun t:Int=>∃ j:Nat,t=(j:Int)∧j≤out.length∧(∀ i (h:i<out.length),i+1=j→out[i]≤l[k])∧∀ i (h:i<out.length),j≤i→l[k]<out[i]) ?_ fun t ⟨j,ht,hj,hlo,hhi⟩=>?_
 ·refine Y.loop (fun t:Int=>∃ j:Nat,t=(j:Int)∧j≤out.length∧∀ i (h:i<out.length),j≤i→l[k]<out[i]) (fun t=>t.toNat) ⟨out.length,rfl,Nat.le_refl _,fun i h h2=>by omega⟩ (by omega) fun t ht=>?_
  obtain ⟨j,rfl,hj,hhi⟩:=ht
  rcases Nat.eq_zero_or_pos j with rfl | hj0
  ·rw [show decide ((0:Int)<((0:Nat):Int))=false from rfl,ib,dg,ib,dg,Bool.false_and,ga]
   exact Y.ret ⟨0,rfl,by omega,fun i h e=>by omega,fun i h _=>hhi i h (by omega)⟩
  rw [show decide ((0:Int)<(j:Int))=true by rw [decide_eq_true_eq];omega,gq,show IntKind.i64.wrap ((j:Int) - 1)=((j - 1:Nat):Int) by rw [ef (by omega) (by omega)];omega,bj (show j - 1<out.length by omega),dg,gq,bj hk2,dg,Bool.true_and]
  cases hc:decide (l[k]<out[j - 1]'(by omega))
  ·have hc:=of_decide_eq_false hc
   exact Y.ret ⟨j,rfl,hj,fun i h e=>(by have e2:i=j - 1:=(by omega);subst e2;omega),hhi⟩
  have hc:=of_decide_eq_true hc
  refine Y.ret ⟨⟨j - 1,rfl,by omega,fun i h h2=>?_⟩,by omega⟩
  rcases Nat.lt_or_ge i j with h3 | h3
  ·have:i=j - 1:=by omega
   subst this;exact hc
  exact hhi i h h3
 subst ht
 have hle:∀ i (h:i<out.length),i<j→out[i]≤l[k]:=fun i h hij=>by
  have h1:=hlo (j - 1) (by omega) (by omega)
  rcases Nat.lt_or_ge i (j - 1) with h2 | h2
  ·have:=List.pairwise_iff_getElem.1 hpw i (j - 1) h (by omega) h2;omega
  have:i=j - 1:=by omega
  subst this;exact h1
 have ins:(∀ i (h:i<out.length),i<j→out[i]<l[k])→Y (Option.bind (sub out 0 (j:Int)) (fun l30=>Option.bind (idx l (k:Int)) (fun m31=>Option.bind (sub out (j:Int) (out.length:Int)) (fun l32=>Option.bind (app 8 ([]:List Int) l30) (fun l35=>Option.bind (app 8 l35 [m31]) (fun l41=>Option.bind (app 8 l41 l32) (fun l45=>some l45))))))) (fun r=>r.Pairwise (· < ·)∧r.length≤k+1∧∀ n,n∈r↔n∈out∨n=l[k]):=fun hlt=>by
  rw [show sub out 0 (j:Int)=some (out.take j) by have:=nX (xs:=out) (a:=0) (b:=j) (by omega) hj;simpa using this,dg,bj hk2,dg,nX hj (Nat.le_refl _),dg,List.take_length]
  rw [dY (by simp;omega) (by simp;omega),dg,dY (by simp;omega) (by simp;omega),dg,dY (by simp;omega) (by simp;omega),dg]
  refine Y.ret ⟨?_,by simp;omega,fun n=>?_⟩
  ·rw [List.nil_append,List.append_assoc]
   have h0:=hpw
   rw [← List.take_append_drop j out] at h0
   obtain ⟨p1,p2,p3⟩:=List.pairwise_append.1 h0
   have hl1:∀ a∈out.take j,a<l[k]:=fun a ha=>by
    obtain ⟨i,hi,rfl⟩:=List.getElem_of_mem ha
    rw [List.length_take] at hi
    rw [List.getElem_take];exact hlt i (by omega) (by omega)
   have hl2:∀ b∈out.drop j,l[k]<b:=fun b hb=>by
    obtain ⟨i,hi,rfl⟩:=List.getElem_of_mem hb
    rw [List.length_drop] at hi
    rw [List.getElem_drop];exact hhi _ (by omega) (by omega)
   refine List.pairwise_append.2 ⟨p1,List.pairwise_cons.2 ⟨hl2,p2⟩,fun a ha b hb=>?_⟩
   rcases List.mem_cons.1 hb with rfl | hb
   ·exact hl1 a ha
   exact p3 a ha b hb
  have:n∈out↔n∈out.take j∨n∈out.drop j:=by rw [← List.mem_append,List.take_append_drop]
  rw [this];simp only [List.nil_append,List.mem_append,List.mem_singleton]
  constructor
  ·rintro ((h | h) | h) <;> simp [h]
  rintro ((h | h) | h) <;> simp [h]
 rcases Nat.eq_zero_or_pos j with rfl | hj0
 ·rw [show decide ((0:Int)<((0:Nat):Int))=false from rfl,ib,dg,ib,dg,Bool.false_and,ga]
  exact ins fun i h h2=>by omega
 have hj1:j - 1<out.length:=by omega
 rw [show decide ((0:Int)<(j:Int))=true by rw [decide_eq_true_eq];omega,gq,show IntKind.i64.wrap ((j:Int) - 1)=((j - 1:Nat):Int) by rw [ef (by omega) (by omega)];omega,bj hj1,dg,gq,bj hk2,dg,Bool.true_and]
 by_cases hc:out[j - 1]=l[k]
 ·rw [show (out[j - 1] == l[k])=true by rw [hc];simp,dz]
  refine Y.ret ⟨hpw,by omega,fun n=>⟨.inl,fun h=>?_⟩⟩
  rcases h with h | rfl
  ·exact h
  rw [← hc];exact List.getElem_mem hj1
 rw [beq_eq_false_iff_ne.2 hc,ga]
 have q:=ins fun i h h2=>?_
 ·rw [bj hk2] at q;exact q
 have:=hle i h h2
 have h1:=hle (j - 1) hj1 (by omega)
 rcases Nat.lt_or_ge i (j - 1) with h3 | h3
 ·have:=List.pairwise_iff_getElem.1 hpw i (j - 1) h hj1 h3;omega
 have:i=j - 1:=by omega
 subst this;omega
theorem kj (m0:List Int) (m1:Int) {κ:Kr} {v0 v1:List Value} (_:Rps κ (eL eI m0) v0) (_:Rps κ (eI m1) v1):cF m0 m1=some true:=by
 have key:Y (cF m0 m1) (fun r=>r=true):=by
  unfold cF
  refine (plan_Y m0).bind fun p hp=>?_
  have hv:=hp.vps;have hi:=hp.vids
  have hpl:=hv.len
  have hpos:1≤p.length:=hp.len.1
  refine (rP m1 (p.length:Int) (by omega) (by omega)).bind fun k hk=>?_
  obtain ⟨n,rfl⟩:∃ n:Nat,k=(n:Int):=⟨k.toNat,by omega⟩
  have hn:n<p.length:=by omega
  have hmem:=List.getElem_mem hn
  have hfew:=(hv.all _ hmem).few
  rw [bj hn,dg]
  obtain ⟨r,r1,_,r3,hR⟩:=j8 hv hi p[n].ID
  rw [r1,dg]
  refine Y.bind (P:=fun l:List Int=>l.length≤1000∧∀ m,m∈l↔∃ x∈p[n].Inputs,m=x.Product∨Ze p x.Product m) (Y.loop (fun s:List Int×Int=>∃ k:Nat,s.2=(k:Int)∧k≤p[n].Inputs.length∧s.1.length≤65*k∧∀ m,m∈s.1↔∃ x∈p[n].Inputs.take k,m=x.Product∨Ze p x.Product m) (fun s=>(p[n].Inputs.length - s.2).toNat) ⟨0,rfl,by omega,by simp,fun m=>by simp⟩ (by show ((p[n].Inputs.length:Int) - 0).toNat≤_;omega) fun s hs=>?_) fun l ⟨hl,hm⟩=>?_
  ·obtain ⟨l,v⟩:=s
   obtain ⟨k,hvk,hk,hl,hm⟩:=hs
   dsimp only at hvk hl hm ⊢
   subst hvk
   rcases Nat.lt_or_ge k p[n].Inputs.length with hk2 | hk2
   rotate_left
   ·have e:k=p[n].Inputs.length:=by omega
    subst e
    rw [kg,ga]
    exact Y.ret ⟨by omega,fun m=>by rw [hm,List.take_length]⟩
   obtain ⟨q,q1,_,q3,hQ⟩:=j8 hv hi (p[n].Inputs[k]).Product
   rw [rV hk2,dz,bj hk2,dg,dg,dY (by simp;omega) (by simp;omega),dg,q1,dg,dY (by simp;omega) (by simp;omega),dg,fY hk2 (by omega)]
   refine Y.ret ⟨⟨k+1,rfl,hk2,by dsimp only;simp;omega,fun m=>?_⟩,by dsimp only;omega⟩
   dsimp only
   rw [List.take_add_one,List.getElem?_eq_getElem hk2]
   simp only [List.mem_append,List.mem_singleton,hm,hQ.mem,Option.toList_some]
   constructor
   ·rintro ((⟨x,hx,h⟩ | rfl) | h)
    ·exact ⟨x,.inl hx,h⟩
    ·exact ⟨_,.inr rfl,.inl rfl⟩
    exact ⟨_,.inr rfl,.inr h⟩
   rintro ⟨x,hx | rfl,h⟩
   ·exact .inl (.inl ⟨x,hx,h⟩)
   rcases h with h | h
   ·exact .inl (.inr h)
   exact .inr h
  refine (asc_Y l (by omega)).bind fun a ⟨a1,a2,a3⟩=>?_
  have:a=r:=ni a1 hR.asc fun m=>by
   rw [a2,hm,hR.mem]
   constructor
   ·rintro ⟨x,hx,h⟩
    have hnd:Nd p p[n].ID x.Product:=(rS hv hmem _).2 ⟨x,hx,rfl⟩
    rcases h with rfl | h
    ·exact .one hnd
    exact .cons hnd h
   intro h
   obtain ⟨b,h1,h2⟩:=h.head
   obtain ⟨x,hx,rfl⟩:=(rS hv hmem _).1 h1
   exact ⟨x,hx,h2⟩
  subst this
  rw [pU (by omega),dg,gq,awake13,dg]
  exact Y.ret rfl
 obtain ⟨r,e,rfl⟩:=key
 exact e
def bd3:Nat→Int→Prop:=fun _ _=>True
theorem op3 {H:Type} {eh:TypeId×Value→H} {nb:Nat}:Opens eh nb 3 eI (bd3 nb):=pF rfl
def bd23:Nat→(List Int)→Prop:=fun n l=>l.length*8≤140737488355328∧l.length≤n∧∀ x∈l,bd3 n x
theorem op23 {H:Type} {eh:TypeId×Value→H} {nb:Nat}:Opens eh nb 23 (eL eI) (bd23 nb):=mR rfl rfl rfl rfl op3
end SX
end Go.Proofs.YtipjgkapcgpgbaaDoor
set_option maxRecDepth 100000
namespace Go.Proofs.YtipjgkapcgpgbaaDoor
open Go Go.ChangeShapes Go.WideShapes Go.RowKit
open SX
theorem planReach_lifted (os:Os) (started:os.Started) (H:Type) (enc:TypeId×Value→H) :
    ReturnsInHanded {} Tryd.checked os 7 .any (fun w args=>(Rows.planReachSpec.pre enc Tryd.prog Tryd.f7 [] false w args∧laidMetH Tryd.prog kE w)∧sizedMet enc Tryd.prog Tryd.f7 (OpenSpec.ofChange Rows.planReachSpec) false w args)
      (Rows.planReachSpec.post enc Tryd.prog Tryd.f7 false true false false):=by
  refine returnsInHanded_of_change_and (C:=Tryd.checked) (X:=fun w _=>laidMetH Tryd.prog kE w) (fun _ _ _ hh h=>h.of_heap hh) own_ok started (by kernel_rfl) Tryd.func7
    (ChangeSpec.witness_at (enc:=enc) (C:=Tryd.checked) (os:=os) (X:=fun w _=>laidMetH Tryd.prog kE w) false (laidWorld os) #[.slice none 0 0,.int .i64 0] 8 rfl (by kernel_rfl) (by kernel_rfl) (by kernel_rfl) (by kernel_rfl) (by kernel_rfl) (kh os _)) ?_
  intro W base args ds gs before hval0 hW _ hwt hL _
  have hval:∀ (j:Nat) t v,Tryd.f7.params[j]?=some t→args[j]?=some v→Value.okWide Tryd.prog W .any base t v:=hval0
  have hW2:=hW
  obtain ⟨p,q,hA0,hV0,rfl,_,_⟩:=hW
  have hA:DataW.TrodAll enc Tryd.prog W 0 (fun _=>true) true [23,3] args.toList ds p:=hA0
  obtain ⟨rfl,rfl⟩:gs=[]∧q=[]:=by
    cases gs with
    | nil=>exact ⟨rfl,hV0⟩
    | cons g r=>exact absurd hV0 (by intro h;cases h)
  generalize hargs:args.toList=vs at hA
  have hval2:∀ (j:Nat) t v,[23,3][j]?=some t→vs[j]?=some v→Value.okWide Tryd.prog W .any base t v:=fun j t v h1 h2=>hval j t v (by rw [Tryd.params7];simpa using h1) (by rw [← hargs] at h2;simpa using h2)
  obtain ⟨v0,vs0,d0,ds0,p0,q0,rfl,rfl,h0,hA⟩:=SX.trodAll_cons hA
  obtain ⟨v1,vs1,d1,ds1,p1,q1,rfl,rfl,h1,hA⟩:=SX.trodAll_cons hA
  obtain ⟨rfl,rfl⟩:=SX.trodAll_nil hA
  have hw:(DataW.weightsEach Tryd.prog [23,3] [d0,d1]).all (· ≤ reachBytes)=true:=hwt
  obtain ⟨l0,hw⟩:=SX.light_head hw
  obtain ⟨m0,s0,b0⟩:=oU rfl rfl op23 (fun _=>⟨_,rfl⟩) (hval2 0 23 v0 rfl rfl) h0 l0 (Nat.le_refl _)
  obtain ⟨l1,hw⟩:=SX.light_head hw
  obtain ⟨m1,s1,b1⟩:=oU rfl rfl op3 (fun _=>⟨_,rfl⟩) (hval2 1 3 v1 rfl rfl) h1 l1 (Nat.le_refl _)
  exact rD (readB (by kernel_rfl)) rfl (aF rfl) rfl (by simp [Rows.planReachSpec]) hW2 (mT hL) (by rw [hargs];exact (s0.app s1)) (gQ (kj m0 m1 s0 s1))
theorem planReach_holds:Rows.PlanReachSaid :=
 OpenClaim.holds_of_wide 7 Tryd.f7 rfl rfl rfl rfl rfl rfl rfl ⟨rfl,rfl,rfl,rfl,rfl⟩ rfl rfl rfl rfl rfl planReach_named Tryd.func7 planReach_closed
  (of_decide_eq_true (by kernel_rfl)) (by unfold Func.isWrapper;rw [if_neg (of_decide_eq_false (by kernel_rfl))];exact ⟨rfl,rfl⟩)
  (fun os started H enc _=>planReach_lifted os started H enc)
theorem planReach_card:Rows.PlanReachCardSaid :=
 Claim7.holds_tied_plain_at .later [] [.data,.data,.pinned] true (true, "bd0888e3d54737700e71017b2812dab827b3a3f36104f0d145c5211c566f5e81") false
  planReach_holds (fun _ h=>by cases h) (by as_aux_lemma=>kernel_rfl) (fun _ h=>by cases h) planReach_row_tie rfl ⟨rfl,rfl⟩ fp_main rfl
  (fun f fn hf hfn=>by
   obtain rfl:f=7:=Option.some.inj ((show Tryd.prog.funcNamed "customs/customslaw13.PlanReach" = some 7 from planReach_named).symm.trans hf) |>.symm
   obtain rfl:fn=Tryd.f7:=(Option.some.inj (Tryd.func7.symm.trans hfn)).symm
   exact ⟨fp_looks,fun j t ht=>by
    rw [Tryd.params7] at ht
    exact mU (by as_aux_lemma=>kernel_rfl) ht⟩)
  planReach_goes
#print axioms planReach_card
end Go.Proofs.YtipjgkapcgpgbaaDoor
