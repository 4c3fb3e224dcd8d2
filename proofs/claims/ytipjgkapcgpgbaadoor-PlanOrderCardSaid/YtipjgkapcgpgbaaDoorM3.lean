/- PlanOrder: for every input the law returns true, and each argument reads afterwards as it read before. Conditions: the package variables are as the program's text lays them (the card ties them). -/
import Derived.Test.YtipjgkapcgpgbaaDoorM2
import Derived.Test.YtipjgkapcgpgbaaDoorL5q
set_option linter.unusedVariables false
set_option linter.unusedSimpArgs false
set_option maxHeartbeats 4000000
set_option maxRecDepth 100000
namespace Go.Proofs.YtipjgkapcgpgbaaDoor
namespace SX
open Go
attribute [local irreducible] PWL PWC PWD POpL POpQ PEv PGuardIs PSub PPick PUpd PSplice PFill PLit PF PFV PCall FOk gr df jf jg gD ip Cov PHolds aT idx app mk gd lb nz tk cat sub lW jt ior rW qw gu rY rZ IntKind.wrap Int.tmod Int.tdiv Op.bytesLess strOfNums
def dZ (p0:(List ByteArray)):Option Bool:=cond (decide (8<(p0.length:Int))) (some false) ((aT (S:=Int) (T:=(Unit)⊕(_)) (fun v2=>cond (decide (v2<(p0.length:Int))) ((idx p0 v2).bind fun m6=>(gm m6).bind fun x7=>(gd ((!(!x7))&&(decide (0<v2))) (idx p0 (IntKind.i64.wrap (v2 - 1)))).bind fun m8=>cond ((!x7)||((decide (0<v2))&&(Op.bytesLess m6.toList m8.toList||decide (m6=m8)))) (some (.inr (.inr false))) (some (.inl (IntKind.i64.wrap (v2+1))))) (some (.inr (.inl ())))) FUEL 0).bind fun q=>match q with | .inl _=>some true | .inr e=>some e)
theorem hC {p0:(List ByteArray)} {r:Bool}  (h:dZ p0=some r):PF 49 [pL eS p0] (pB r):=by
 unfold dZ at h
 refine bW ?_
 refine aI Tryd.func49 rfl Tryd.ntmps49 Tryd.results49 rfl (aa (aJ [2] (by kernel_rfl) (bi (aa (ak [5,6] [(7,pB (decide (8<(p0.length:Int))))] (by kernel_rfl) (ah (cX rfl h (fun hc1 h=>?_) fun hc1 h=>?_)))))))
 ·refine aa ?_
  refine aj [(2,pB false)] (by kernel_rfl) (dk (ap ?_))
  exact zz r h rfl
 refine al ?_
 refine bi (aa (aj [(8,pL eS p0),(9,pI (p0.length:Int)),(10,pI 0)] (by kernel_rfl) (ah (ae h fun q4 hq4 h=>?_))))
 refine aM (Y:=Unit×Unit) (fun (_,_)=>[]) (fun (_,_)=>[]) (fun (_,_)=>q4=Sum.inl ()) ?_ ?_
 ·refine am ?_
  refine aO (Y:=Unit) (S:=Int) _ hq4 (fun _ v2=>[(0,pL eS p0),(8,pL eS p0),(9,pI (p0.length:Int)),(10,pI v2)]) (fun _ v2=>[]) () (mH rfl) ey ?_
  rintro _ v2 o τ hb3;(try dsimp only at hb3);dsimp only [aF]
  refine aa (aj [(11,pB (decide (v2<(p0.length:Int))))] (by kernel_rfl) (bi (cX rfl hb3 (fun hc5 hb3=>?_) fun hc5 hb3=>?_)))
  ·refine al ?_
   refine bi (am (aa (ae hb3 fun m6 hm6 hb3=>aK [] [12,13,14] [(3,pI v2),(4,pS m6)] (dQ 1 eS hm6 cw) (by kernel_rfl) (bi (ae hb3 fun x7 hx7 hb3=>ae hb3 fun m8 hm8 hb3=>aK [] (rg 15 15) [(30,pB ((!x7)||((decide (0<v2))&&(Op.bytesLess m6.toList m8.toList||decide (m6=m8)))))] (eu 1 (jv hx7) (iw 11 eS (dO hm8) cw)) (by kernel_rfl) (ah (cX rfl hb3 (fun hc9 hb3=>?_) fun hc9 hb3=>?_)))))))
   ·refine aa ?_
    refine aj [(2,pB false)] (by kernel_rfl) (dk (ai (ap ?_)))
    refine aL hb3 (fun ht=>?_);subst ht
    refine ai (aN ?_)
    exact zz r h rfl
   refine al ?_
   refine an (ah (ak [31] [(10,pI (IntKind.i64.wrap (v2+1)))] (by kernel_rfl) ?_))
   exact bk hb3 () (mH rfl) ey
  refine aS ?_
  refine ar (aq hb3 (fun ht=>au rfl ?_))
  exact bc ((),()) kQ ey ht.symm
 rintro ⟨_,_⟩ τ hz;(try dsimp only at hz);subst q4;(try dsimp only at h);dsimp only [aF]
 refine aa (aj [(2,pB true)] (by kernel_rfl) (dk ?_))
 exact zz r h rfl
def bS (p0:Za):Option Int:=(fb p0.Code).bind fun x2=>(gd (!((x2 != 6)&&(x2 != 8))) (cr p0.Country)).bind fun x3=>(gd (!(((x2 != 6)&&(x2 != 8))||(!x3))) (dZ p0.Processes)).bind fun x4=>cond ((((x2 != 6)&&(x2 != 8))||(!x3))||(!x4)) (some (1:Int)) (cond ((decide (p0.Price<1))||(decide (1000000000000<p0.Price))) (some (2:Int)) (cond (decide (8<(p0.Inputs.length:Int))) (some (8:Int)) (cond (p0.Obtained&&(decide (0<(p0.Inputs.length:Int)))) (some (1:Int)) (some (0:Int)))))
theorem el {p0:Za} {r:Int}  (h:bS p0=some r):PF 27 [.agg (aC p0)] (pI r):=by
 unfold bS at h
 refine bW ?_
 refine aI Tryd.func27 rfl Tryd.ntmps27 Tryd.results27 rfl (aa (af (aB rfl (gH (cs:=(aC p0)) rfl rfl (fun b1=>fP [2] (by kernel_rfl) (bi (ae h fun x2 hx2 h=>aK [0] [4,5,6] [(3,pI x2)] (eu 2 (gy hx2) cw) (by kernel_rfl) (bi (aa (ae h fun x3 hx3 h=>ae h fun x4 hx4 h=>aK [0,0] (rg 7 17) [(24,pB ((((x2 != 6)&&(x2 != 8))||(!x3))||(!x4)))] (hQ 9 (fun hc=>e9 (dO hx3 hc)) (hQ 15 (fun hc=>hC (dO hx4 hc)) cw)) (by kernel_rfl) (ah (cX rfl h (fun hc5 h=>?_) fun hc5 h=>?_))))))))))))
 ·refine aa ?_
  refine aj [(2,pI 1)] (by kernel_rfl) (dk (ap ?_))
  exact zz r h rfl
 refine al ?_
 refine bi (aa (eZ [0,0] (rg 25 7) [(32,pB ((decide (p0.Price<1))||(decide (1000000000000<p0.Price))))] (by kernel_rfl) (ah (cX rfl h (fun hc6 h=>?_) fun hc6 h=>?_))))
 ·refine aa ?_
  refine aj [(2,pI 2)] (by kernel_rfl) (dk (ap ?_))
  exact zz r h rfl
 refine al ?_
 refine bi (aa (eZ [0] [33,34,35] [(36,pB (decide (8<(p0.Inputs.length:Int))))] (by kernel_rfl) (ah (cX rfl h (fun hc7 h=>?_) fun hc7 h=>?_))))
 ·refine aa ?_
  refine aj [(2,pI 8)] (by kernel_rfl) (dk (ap ?_))
  exact zz r h rfl
 refine al ?_
 refine bi (aa (eZ [0,0] (rg 37 7) [(44,pB (p0.Obtained&&(decide (0<(p0.Inputs.length:Int)))))] (by kernel_rfl) (ah (cX rfl h (fun hc8 h=>?_) fun hc8 h=>?_))))
 ·refine aa ?_
  refine aj [(2,pI 1)] (by kernel_rfl) (dk (ap ?_))
  exact zz r h rfl
 refine al ?_
 refine bi (aj [(2,pI 0)] (by kernel_rfl) (dk ?_))
 exact zz r h rfl
def cY (p0:(List Za)):Option Int:=cond (decide (64<(p0.length:Int))) (some (8:Int)) ((aT (S:=Int) (T:=(Unit)⊕(_)) (fun v2=>cond (decide (v2<(p0.length:Int))) ((idx p0 v2).bind fun m6=>cond ((decide (m6.ID<1))||(decide (1000000<m6.ID))) (some (.inr (.inr (2:Int)))) ((gd (decide (0<v2)) (idx p0 (IntKind.i64.wrap (v2 - 1)))).bind fun m9=>cond ((decide (0<v2))&&(decide (m6.ID≤m9.ID))) (some (.inr (.inr (9:Int)))) ((bS m6).bind fun x11=>cond (x11 != 0) (some (.inr (.inr x11))) ((bY p0 m6.Inputs).bind fun x13=>cond (x13 != 0) (some (.inr (.inr x13))) (some (.inl (IntKind.i64.wrap (v2+1)))))))) (some (.inr (.inl ())))) FUEL 0).bind fun q=>match q with | .inl _=>some (0:Int) | .inr e=>some e)
theorem gn {p0:(List Za)} {r:Int}  (h:cY p0=some r):PF 10 [pL Za.enc p0] (pI r):=by
 unfold cY at h
 refine bW ?_
 refine aI Tryd.func10 rfl Tryd.ntmps10 Tryd.results10 rfl (aa (aJ [2] (by kernel_rfl) (bi (aa (ak [7,8] [(9,pB (decide (64<(p0.length:Int))))] (by kernel_rfl) (ah (cX rfl h (fun hc1 h=>?_) fun hc1 h=>?_)))))))
 ·refine aa ?_
  refine aj [(2,pI 8)] (by kernel_rfl) (dk (ap ?_))
  exact zz r h rfl
 refine al ?_
 refine bi (aa (aj [(10,pL Za.enc p0),(11,pI (p0.length:Int)),(12,pI 0)] (by kernel_rfl) (ah (ae h fun q4 hq4 h=>?_))))
 refine aM (Y:=Unit×Unit) (fun (_,_)=>[]) (fun (_,_)=>[]) (fun (_,_)=>q4=Sum.inl ()) ?_ ?_
 ·refine am ?_
  refine aO (Y:=Unit) (S:=Int) _ hq4 (fun _ v2=>[(0,pL Za.enc p0),(10,pL Za.enc p0),(11,pI (p0.length:Int)),(12,pI v2)]) (fun _ v2=>[]) () (mH rfl) ey ?_
  rintro _ v2 o τ hb3;(try dsimp only at hb3);dsimp only [aF]
  refine aa (aj [(13,pB (decide (v2<(p0.length:Int))))] (by kernel_rfl) (bi (cX rfl hb3 (fun hc5 hb3=>?_) fun hc5 hb3=>?_)))
  ·refine al ?_
   refine bi (am (aa (ae hb3 fun m6 hm6 hb3=>af (bz 3 [] [15] [(14,pI v2),(16,.agg (aC m6))] (dQ 1 Za.enc hm6 cw) (by kernel_rfl) (aB rfl (ee (cs:=[pI 0,pS ByteArray.empty,pS ByteArray.empty,pI 0,pB false,pN,pN]) rfl rfl rfl rfl (fun b7=>aX 1 [(3,pI v2)] (by kernel_rfl) (er rfl rfl (co (vs:=(aC m6)) rfl rfl rfl rfl rfl ll zl7 (bM (bi (aa (eZ [0,0] (rg 17 7) [(24,pB ((decide (m6.ID<1))||(decide (1000000<m6.ID))))] (by kernel_rfl) (ah (cX rfl hb3 (fun hc8 hb3=>?_) fun hc8 hb3=>?_)))))))))))))))
   ·refine aa ?_
    refine aj [(2,pI 2)] (by kernel_rfl) (dk (ap (ai (ap ?_))))
    refine aL hb3 (fun ht=>?_);subst ht
    refine ai (aN ?_)
    exact zz r h rfl
   refine al ?_
   refine bi (aa (dA (ρd:=[]) [(0,0),(1,0),(2,0),(3,0),(4,0),(5,0),(6,0),(7,0),(8,0),(9,0),(10,0),(11,0),(12,0)] _ (List.Perm.refl _) (by kernel_rfl) rfl (ae hb3 fun m9 hm9 hb3=>dh 13 [0] (rg 25 12) [(37,pB ((decide (0<v2))&&(decide (m6.ID≤m9.ID))))] (iw 8 Za.enc (dO hm9) cw) (by kernel_rfl) (eC (ah (cX rfl hb3 (fun hc10 hb3=>?_) fun hc10 hb3=>?_))))))
   ·refine aa ?_
    refine aj [(2,pI 9)] (by kernel_rfl) (dk (ap (ai (ap ?_))))
    refine aL hb3 (fun ht=>?_);subst ht
    refine ai (aN ?_)
    exact zz r h rfl
   refine al ?_
   refine bi (aa (ae hb3 fun x11 hx11 hb3=>aK [0] [38,39] [(5,pI x11)] (eu 1 (el hx11) cw) (by kernel_rfl) (bi (ak [40] [(41,pB (x11 != 0))] (by kernel_rfl) (ah (cX rfl hb3 (fun hc12 hb3=>?_) fun hc12 hb3=>?_))))))
   ·refine aa ?_
    refine ak [42] [(2,pI x11)] (by kernel_rfl) (dk (ap (ai (ap ?_))))
    refine aL hb3 (fun ht=>?_);subst ht
    refine ai (aN ?_)
    exact zz r h rfl
   refine al ?_
   refine bi (ae hb3 fun x13 hx13 hb3=>aK [0] [43,44,45,46] [(6,pI x13)] (eu 3 (ew hx13) cw) (by kernel_rfl) (bi (ak [47] [(48,pB (x13 != 0))] (by kernel_rfl) (ah (cX rfl hb3 (fun hc14 hb3=>?_) fun hc14 hb3=>?_)))))
   ·refine aa ?_
    refine ak [49] [(2,pI x13)] (by kernel_rfl) (dk (ai (ap ?_)))
    refine aL hb3 (fun ht=>?_);subst ht
    refine ai (aN ?_)
    exact zz r h rfl
   refine al ?_
   refine an (ah (ak [50] [(12,pI (IntKind.i64.wrap (v2+1)))] (by kernel_rfl) ?_))
   exact bk hb3 () (mH rfl) ey
  refine aS ?_
  refine ar (aq hb3 (fun ht=>au rfl ?_))
  exact bc ((),()) kQ ey ht.symm
 rintro ⟨_,_⟩ τ hz;(try dsimp only at hz);subst q4;(try dsimp only at h);dsimp only [aF]
 refine aa (aj [(2,pI 0)] (by kernel_rfl) (dk ?_))
 exact zz r h rfl
def aR (p0:(List Za)) (p1:Int):Option (List Int):=(aT (S:=(List Int)×(List (Int×Bool))) (T:=((List (Int×Bool)))) (fun (l5,l8)=>cond (decide (0<((l5.length:Nat):Int))) ((idx l5 (IntKind.i64.wrap (((l5.length:Nat):Int) - 1))).bind fun m13=>(cd p0 m13).bind fun x14=>(sub l5 0 (IntKind.i64.wrap (((l5.length:Nat):Int) - 1))).bind fun l15=>cond (!x14.2) (some (.inl (l15,l8))) ((idx p0 x14.1).bind fun m18=>(aT (S:=(List Int)×Int×(List (Int×Bool))) (T:=((List Int)×(List (Int×Bool)))) (fun (l20,v23,l24)=>cond (decide (v23<(m18.Inputs.length:Int))) (((idx m18.Inputs v23).bind fun m39=>cond (!((aZ l24 m39.Product).getD false)) ((app 8 l20 [m39.Product]).bind fun l44=>some (l44,(dH l24 m39.Product true))) (some (l20,l24))).bind fun (l36,l37)=>some (.inl (l36,(IntKind.i64.wrap (v23+1)),l37))) (some (.inr (l20,l24)))) FUEL (l15,0,l8)).bind fun (l28,l29)=>some (.inl (l28,l29)))) (some (.inr l8))) FUEL ([p1],([]:List (Int×Bool)))).bind fun l9=>(nT l9).bind fun l50=>some l50
theorem ck {p0:(List Za)} {p1:Int} {r:(List Int)}  (h:aR p0 p1=some r):PF 19 [pL Za.enc p0,pI p1] (pL eI r):=by
 unfold aR at h
 refine bW ?_
 refine aI Tryd.func19 rfl Tryd.ntmps19 Tryd.results19 rfl (aa (aJ [4] (by kernel_rfl) (bi (af (aB rfl (fj kI vT rfl (fun b1=>aQ [(5,.v (.map (some b1)))] (by kernel_rfl) (bi (af (aX 1 [(12,pI p1)] (by kernel_rfl) (aB rfl (cJ rfl rfl rfl rfl rfl (gI rfl kT) rfl rfl rfl rfl (fun b2=>aQ [(6,pO (some ⟨b2,0,none⟩) 1 1)] (by kernel_rfl) (bi (ae h fun q11 hq11 h=>?_)))))))))))))))
 refine aM (Y:=Unit×((List (Int×Bool)))) (fun (_,l9)=>[(5,.v (.map (some b1)))]) (fun (_,l9)=>[PRes.mp (some b1) (aW kI vT l9)]) (fun (_,l9)=>q11=l9) ?_ ?_
 ·refine am ?_
  refine aO (Y:=Option Addr×Nat) (S:=(List Int)×(List (Int×Bool))) _ hq11 (fun (a6,c7) (l5,l8)=>[(0,pL Za.enc p0),(5,.v (.map (some b1))),(6,pO a6 l5.length c7)]) (fun (a6,c7) (l5,l8)=>[PRes.mp (some b1) (aW kI vT l8),PRes.row a6 l5.length c7 3 1 (List.map eI l5)]) ((some ⟨b2,0,none⟩),1) (pT rfl) (cI (bm br) eD) ?_
  rintro ⟨a6,c7⟩ ⟨l5,l8⟩ o τ hb10;(try dsimp only at hb10);dsimp only [aF]
  refine aa (aa (ak [14,15] [(16,pB (decide (0<((l5.length:Nat):Int))))] (by kernel_rfl) (ah (cX rfl hb10 (fun hc12 hb10=>?_) fun hc12 hb10=>?_))))
  ·refine al ?_
   refine ah (am (aa (ae hb10 fun m13 hm13 hb10=>af (e8 5 [20,21] [(18,pL Za.enc p0),(19,pO a6 l5.length c7),(22,pI (IntKind.i64.wrap (((l5.length:Nat):Int) - 1)))] (by kernel_rfl) (cC rfl rfl rfl (iU (enc:=eI) (xs:=l5) rfl rfl rfl (.p rfl) tl (.p rfl) (fun _=>hm13)) (cC rfl rfl rfl (iV (sz:=1) (p:=pI m13) (enc:=eI) (xs:=l5) (a:=a6) (IntKind.i64.wrap (((l5.length:Nat):Int) - 1)) 0 m13 rfl (.p rfl) rfl tl (fun _=>hm13) rfl) (ae hb10 fun x14 hx14 hb10=>eF [] [25,17,26,27] [(7,pI x14.1),(8,pB x14.2)] (eu 0 (gN hx14) cw) (by kernel_rfl) (bi (ae hb10 fun l15 hl15 hb10=>af (e8 4 [29,30] [(28,pO a6 l5.length c7),(31,pI (IntKind.i64.wrap (((l5.length:Nat):Int) - 1)))] (by kernel_rfl) ?_))))))))))
   refine aB rfl (qI (enc:=eI) (xs:=l5) rfl rfl rfl rfl rfl (by exact bm br) hl15 ?_)
   refine aQ [(6,pO a6 l15.length c7)] (by kernel_rfl) (bi (aa (ak [33] [(34,pB (!x14.2))] (by kernel_rfl) (ah (cX rfl hb10 (fun hc17 hb10=>?_) fun hc17 hb10=>?_)))))
   ·refine aS ?_
    refine ar (au rfl ?_)
    exact bk hb10 (a6,c7) (pT rfl) (cI (bm br) eD)
   refine al ?_
   refine bi (ae hb10 fun m18 hm18 hb10=>aK [] [35,36,37,38] [(39,pL Zb.enc m18.Inputs),(40,pI (m18.Inputs.length:Int)),(41,pI 0)] (dQ 2 Za.enc hm18 cw) (by kernel_rfl) (ah (ae hb10 fun q31 hq31 hb10=>?_)))
   refine j0 (Y:=(Option Addr×Nat)×((List Int)×(List (Int×Bool)))) (fun ((a26,c27),(l28,l29))=>[(0,pL Za.enc p0),(5,.v (.map (some b1))),(6,pO a26 l28.length c27)]) (fun ((a26,c27),(l28,l29))=>[PRes.mp (some b1) (aW kI vT l29),PRes.row a26 l28.length c27 3 1 (List.map eI l28)]) (fun ((a26,c27),(l28,l29))=>q31=(l28,l29)) ?_ ?_
   ·refine am ?_
    refine aO (Y:=Option Addr×Nat) (S:=(List Int)×Int×(List (Int×Bool))) _ hq31 (fun (a21,c22) (l20,v23,l24)=>[(0,pL Za.enc p0),(5,.v (.map (some b1))),(6,pO a21 l20.length c22),(39,pL Zb.enc m18.Inputs),(40,pI (m18.Inputs.length:Int)),(41,pI v23)]) (fun (a21,c22) (l20,v23,l24)=>[PRes.mp (some b1) (aW kI vT l24),PRes.row a21 l20.length c22 3 1 (List.map eI l20)]) (a6,c7) (ow rfl) (cI (bm br) eD) ?_
    rintro ⟨a21,c22⟩ ⟨l20,v23,l24⟩ o τ hb30;(try dsimp only at hb30);dsimp only [aF]
    refine aa (aj [(42,pB (decide (v23<(m18.Inputs.length:Int))))] (by kernel_rfl) (bi (cX rfl hb30 (fun hc32 hb30=>?_) fun hc32 hb30=>?_)))
    ·refine al ?_
     refine bi (ae hb30 fun q38 hq38 hb30=>?_)
     refine aM (Y:=(Option Addr×Nat)×((List Int)×(List (Int×Bool)))) (fun ((a34,c35),(l36,l37))=>[(0,pL Za.enc p0),(5,.v (.map (some b1))),(6,pO a34 l36.length c35),(39,pL Zb.enc m18.Inputs),(40,pI (m18.Inputs.length:Int)),(41,pI v23)]) (fun ((a34,c35),(l36,l37))=>[PRes.mp (some b1) (aW kI vT l37),PRes.row a34 l36.length c35 3 1 (List.map eI l36)]) (fun ((a34,c35),(l36,l37))=>q38=(l36,l37)) ?_ ?_
     ·skip
      refine am (aa (ae hq38 fun m39 hm39 hq38=>af (bz 2 [] [43] [(44,.agg [pI m39.Product,pI m39.Value])] (dQ 0 Zb.enc hm39 cw) (by kernel_rfl) (aB rfl (ee (cs:=[pI 0,pI 0]) rfl rfl rfl rfl (fun b40=>er rfl rfl (co (vs:=[pI m39.Product,pI m39.Value]) rfl rfl rfl rfl rfl ll zl2 (bM (bi (af (cD 3 [0] [46] [(45,.v (.map (some b1))),(47,pI m39.Product)] (by kernel_rfl) (cC rfl rfl rfl (show POpQ _ _ _ _ (pB ((aZ l24 m39.Product).getD false)) from dR (xs:=l24) (k:=m39.Product) (ek:=kI) (vv:=vT) (z0:=false) rfl rfl rfl (fun _=>.v rfl) (fi rfl) (.p rfl) (.p rfl) dC (c6 tl)) (aQ [(49,pB (!((aZ l24 m39.Product).getD false)))] (by kernel_rfl) (ah (cX rfl hq38 (fun hc41 hq38=>?_) fun hc41 hq38=>?_)))))))))))))))
      ·refine aa ?_
       refine af (cD 3 [0] [51] [(50,.v (.map (some b1))),(52,pI m39.Product)] (by kernel_rfl) (er rfl rfl (eG (xs:=l24) (k:=m39.Product) (ek:=kI) (vv:=vT) (v:=true) rfl rfl (fi rfl) rfl rfl dC rfl (lS ll) (bM (ah (af (cD 3 [0] [54] [(53,pO a21 l20.length c22),(55,pI m39.Product)] (by kernel_rfl) (aB rfl (cJ rfl rfl rfl rfl rfl (gI rfl kT) rfl rfl rfl rfl (fun b42=>ae hq38 fun l44 hl44 hq38=>?_))))))))))
       refine aB rfl (cZ (enc:=eI) rfl rfl rfl rfl rfl rfl rfl rfl rfl lZ (by exact bm (bm (bm br))) hl44 (fun a45 c46=>?_))
       refine aQ [(6,pO a45 l44.length c46)] (by kernel_rfl) (an ?_)
       obtain rfl:=osi hq38
       exact bc ((a45,c46),(l44,(dH l24 m39.Product true))) (ow rfl) (cI (bm (bm (bm br))) eD) rfl
      refine al ?_
      refine an ?_
      obtain rfl:=osi hq38
      exact bc ((a21,c22),(l20,l24)) (ow rfl) (cI (bm br) (cI (bm br) ey)) rfl
     rintro ⟨⟨a34,c35⟩,⟨l36,l37⟩⟩ τ hz;(try dsimp only at hz);subst q38;(try dsimp only at hb30);dsimp only [aF]
     refine ak [58] [(41,pI (IntKind.i64.wrap (v23+1)))] (by kernel_rfl) ?_
     exact bk hb30 (a34,c35) (ow rfl) mG
    refine aS ?_
    refine ar (aq hb30 (fun ht=>au rfl ?_))
    exact j5 ((a21,c22),(l20,l24)) (pT rfl) mG ht.symm
   rintro ⟨⟨a26,c27⟩,⟨l28,l29⟩⟩ τ ρ1 hsub48 hz;(try dsimp only at hz hsub48);subst q31;(try dsimp only at hb10);dsimp only [aF]
   refine an ?_
   exact bk hb10 (a26,c27) (pT rfl) (PSub.trans mG hsub48)
  refine aS ?_
  refine ar (aq hb10 (fun ht=>au rfl ?_))
  exact bc ((),l8) (zh1 rfl) eD ht.symm
 rintro ⟨_,l9⟩ τ hz;(try dsimp only at hz);subst q11;(try dsimp only at h);dsimp only [aF]
 refine aa (af (aX 1 [(59,.v (.map (some b1)))] (by kernel_rfl) ?_))
 refine aB rfl (bp rfl rfl (ρ1:=[]) (List.Perm.refl _) (sV Tryd.lKeys rfl rfl rfl (ry Tryd.func43 rfl)) ?_);rintro _ _ ⟨b49,rfl,rfl⟩
 refine ae h fun l50 hl50 h=>?_
 refine aB rfl (bp rfl rfl (ρ1:=[_,_]) (aE (by exact br) (aE (by exact br) (List.Perm.refl _))) (ph Tryd.lKeys Tryd.lSorted Tryd.lSortI rfl rfl rfl rfl rfl rfl (ry Tryd.func42 rfl) (ry Tryd.func61 rfl) (ry Tryd.func60 rfl) rfl hl50) ?_);rintro _ _ ⟨a51,c52,rfl,rfl⟩
 refine aQ [(4,pO a51 l50.length c52)] (by kernel_rfl) (ah ?_)
 refine eY (enc:=eI) (xs:=l50) 4 rfl (by exact br) ?_
 refine dg ?_
 exact zz r h rfl
def bg (p0:(List Za)):Option (List (List Int)):=cond (decide (64<(p0.length:Int))) (some []) ((aT (S:=Int×(List (Int×(List Int)))) (T:=((List (Int×(List Int))))) (fun (v3,l4)=>cond (decide (v3<(p0.length:Int))) ((idx p0 v3).bind fun m9=>(aR p0 m9.ID).bind fun x11=>some (.inl ((IntKind.i64.wrap (v3+1)),(dH l4 m9.ID x11)))) (some (.inr l4))) FUEL (0,([]:List (Int×(List Int))))).bind fun l5=>(aT (S:=Int×(List (Int×Int))×(List (Int×(List Int)))) (T:=((List (Int×Int))×(List (Int×(List Int))))) (fun (v14,l15,l16)=>cond (decide (v14<(p0.length:Int))) (((idx p0 v14).bind fun m25=>(bA p0 l5 m25.ID).bind fun x27=>(idx x27 0).bind fun m28=>(idx x27 0).bind fun m29=>cond (m29 == m25.ID) (some ((dH l15 m25.ID m28),(dH l16 m25.ID x27))) (some ((dH l15 m25.ID m28),l16))).bind fun (l22,l23)=>some (.inl ((IntKind.i64.wrap (v14+1)),l22,l23))) (some (.inr (l15,l16)))) FUEL (0,([]:List (Int×Int)),([]:List (Int×(List Int))))).bind fun (l17,l18)=>(aT (S:=(List (List Int))×(List (Int×(List Int)))) (T:=((List (List Int)))) (fun (l32,l35)=>cond (decide (0<(l35.length:Int))) ((bt p0 l5 l17 l35).bind fun x44=>cond (!x44.2) (some (.inr l32)) ((app 24 l32 [((aZ l35 x44.1).getD [])]).bind fun l48=>some (.inl (l48,(ju l35 x44.1))))) (some (.inr l32))) FUEL (([]:List (List Int)),l18)).bind fun l39=>some l39)
theorem de {p0:(List Za)} {r:(List (List Int))}  (h:bg p0=some r):PF 16 [pL Za.enc p0] (pL (eL eI) r):=by
 unfold bg at h
 refine bW ?_
 refine aI Tryd.func16 rfl Tryd.ntmps16 Tryd.results16 rfl (aa (aJ [2] (by kernel_rfl) (bi (aa (ak [14,15] [(16,pB (decide (64<(p0.length:Int))))] (by kernel_rfl) (ah (cX rfl h (fun hc1 h=>?_) fun hc1 h=>?_)))))))
 ·refine aa ?_
  refine aj [(2,pN)] (by kernel_rfl) (ah (pwc_nil 2 rfl (dg (ap ?_))))
  exact zz r h rfl
 refine al ?_
 refine bi (af (aB rfl (fj kI (vL eI) rfl (fun b2=>aQ [(3,.v (.map (some b2)))] (by kernel_rfl) (bi (aa (aj [(18,pL Za.enc p0),(19,pI (p0.length:Int)),(20,pI 0)] (by kernel_rfl) (ah (ae h fun q7 hq7 h=>?_)))))))))
 refine aM (Y:=Unit×((List (Int×(List Int))))) (fun (_,l5)=>[(0,pL Za.enc p0),(3,.v (.map (some b2)))]) (fun (_,l5)=>[PRes.mp (some b2) (aW kI (vL eI) l5)]) (fun (_,l5)=>q7=l5) ?_ ?_
 ·refine am ?_
  refine aO (Y:=Unit) (S:=Int×(List (Int×(List Int)))) _ hq7 (fun _ (v3,l4)=>[(0,pL Za.enc p0),(3,.v (.map (some b2))),(18,pL Za.enc p0),(19,pI (p0.length:Int)),(20,pI v3)]) (fun _ (v3,l4)=>[PRes.mp (some b2) (aW kI (vL eI) l4)]) () (pU rfl) eD ?_
  rintro _ ⟨v3,l4⟩ o τ hb6;(try dsimp only at hb6);dsimp only [aF]
  refine aa (aj [(21,pB (decide (v3<(p0.length:Int))))] (by kernel_rfl) (bi (cX rfl hb6 (fun hc8 hb6=>?_) fun hc8 hb6=>?_)))
  ·refine al ?_
   refine bi (am (aa (ae hb6 fun m9 hm9 hb6=>af (bz 2 [] [22] [(23,.agg (aC m9))] (dQ 0 Za.enc hm9 cw) (by kernel_rfl) (aB rfl (ee (cs:=[pI 0,pS ByteArray.empty,pS ByteArray.empty,pI 0,pB false,pN,pN]) rfl rfl rfl rfl (fun b10=>er rfl rfl (co (vs:=(aC m9)) rfl rfl rfl rfl rfl ll zl7 (bM (ah (dA (ρd:=[PRes.mp (some b2) _]) [(0,0),(1,0),(2,0),(3,0),(4,0),(5,0),(6,1),(7,1)] _ (aE (bm br) (List.Perm.refl _)) (by kernel_rfl) rfl (ae hb6 fun x11 hx11 hb6=>dh 7 [0,0] [25,27,28,29] [(24,.v (.map (some b2))),(26,pI m9.ID),(30,pL eI x11)] (eu 6 (ck hx11) cw) (by kernel_rfl) (oO rfl rfl (eG (xs:=l4) (k:=m9.ID) (ek:=kI) (vv:=(vL eI)) (v:=x11) rfl rfl (fi rfl) rfl rfl dC rfl ll (eC (an (ah (ak [31] [(20,pI (IntKind.i64.wrap (v3+1)))] (by kernel_rfl) ?_))))))))))))))))))
   exact bk hb6 () (pU rfl) eD
  refine aS ?_
  refine ar (aq hb6 (fun ht=>au rfl ?_))
  exact bc ((),l4) (zh2 rfl) eD ht.symm
 rintro ⟨_,l5⟩ τ hz;(try dsimp only at hz);subst q7;(try dsimp only at h);dsimp only [aF]
 refine aa (af (aB rfl (fj kI vI rfl (fun b12=>aQ [(6,.v (.map (some b12)))] (by kernel_rfl) (bi (af (aB rfl (fj kI (vL eI) rfl (fun b13=>aQ [(7,.v (.map (some b13)))] (by kernel_rfl) (bi (aa (aj [(34,pL Za.enc p0),(35,pI (p0.length:Int)),(36,pI 0)] (by kernel_rfl) (ah (ae h fun q20 hq20 h=>?_))))))))))))))
 refine aM (Y:=Unit×((List (Int×Int))×(List (Int×(List Int))))) (fun (_,(l17,l18))=>[(0,pL Za.enc p0),(3,.v (.map (some b2))),(6,.v (.map (some b12))),(7,.v (.map (some b13)))]) (fun (_,(l17,l18))=>[PRes.mp (some b12) (aW kI vI l17),PRes.mp (some b13) (aW kI (vL eI) l18),PRes.mp (some b2) (aW kI (vL eI) l5)]) (fun (_,(l17,l18))=>q20=(l17,l18)) ?_ ?_
 ·refine am ?_
  refine aO (Y:=Unit) (S:=Int×(List (Int×Int))×(List (Int×(List Int)))) _ hq20 (fun _ (v14,l15,l16)=>[(0,pL Za.enc p0),(3,.v (.map (some b2))),(6,.v (.map (some b12))),(7,.v (.map (some b13))),(34,pL Za.enc p0),(35,pI (p0.length:Int)),(36,pI v14)]) (fun _ (v14,l15,l16)=>[PRes.mp (some b12) (aW kI vI l15),PRes.mp (some b13) (aW kI (vL eI) l16),PRes.mp (some b2) (aW kI (vL eI) l5)]) () (qC rfl) (cI (bm br) mG) ?_
  rintro _ ⟨v14,l15,l16⟩ o τ hb19;(try dsimp only at hb19);dsimp only [aF]
  refine aa (aj [(37,pB (decide (v14<(p0.length:Int))))] (by kernel_rfl) (bi (cX rfl hb19 (fun hc21 hb19=>?_) fun hc21 hb19=>?_)))
  ·refine al ?_
   refine bi (ae hb19 fun q24 hq24 hb19=>?_)
   refine aM (Y:=Unit×((List (Int×Int))×(List (Int×(List Int))))) (fun (_,(l22,l23))=>[(0,pL Za.enc p0),(3,.v (.map (some b2))),(6,.v (.map (some b12))),(7,.v (.map (some b13))),(34,pL Za.enc p0),(35,pI (p0.length:Int)),(36,pI v14)]) (fun (_,(l22,l23))=>[PRes.mp (some b12) (aW kI vI l22),PRes.mp (some b13) (aW kI (vL eI) l23),PRes.mp (some b2) (aW kI (vL eI) l5)]) (fun (_,(l22,l23))=>q24=(l22,l23)) ?_ ?_
   ·skip
    refine am (aa (ae hq24 fun m25 hm25 hq24=>af (bz 2 [] [38] [(39,.agg (aC m25))] (dQ 0 Za.enc hm25 cw) (by kernel_rfl) (aB rfl (ee (cs:=[pI 0,pS ByteArray.empty,pS ByteArray.empty,pI 0,pB false,pN,pN]) rfl rfl rfl rfl (fun b26=>er rfl rfl (co (vs:=(aC m25)) rfl rfl rfl rfl rfl ll zl7 (bM (bi (ae hq24 fun x27 hx27 hq24=>af (cD 4 [0] [42] [(40,pL Za.enc p0),(41,.v (.map (some b2))),(43,pI m25.ID)] (by kernel_rfl) ?_)))))))))))
    refine aB rfl (bp rfl rfl (ρ1:=[_]) (aE (by exact bm (bm (bm br))) (List.Perm.refl _)) (ff hx27) ?_);rintro _ _ ⟨rfl,rfl⟩
    refine aQ [(10,pL eI x27)] (by kernel_rfl) (bi (dA (ρd:=[PRes.mp (some b12) _]) [(0,0),(1,0),(2,0),(3,0),(4,0),(5,0),(6,1)] _ (aE (bm (bm br)) (List.Perm.refl _)) (by kernel_rfl) rfl (ae hq24 fun m28 hm28 hq24=>dh 6 [1] [46,48,49] [(45,.v (.map (some b12))),(47,pI m25.ID),(50,pI m28)] (dQ 4 eI hm28 cw) (by kernel_rfl) (oO rfl rfl (eG (xs:=l15) (k:=m25.ID) (ek:=kI) (vv:=vI) (v:=m28) rfl rfl (fi rfl) rfl rfl dC rfl ll (eC (bi (dA (ρd:=[]) [(0,0),(1,0),(2,0),(3,0),(4,0),(5,0)] _ (List.Perm.refl _) (by kernel_rfl) rfl (ae hq24 fun m29 hm29 hq24=>dh 6 [2] (rg 51 5) [(56,pB (m29 == m25.ID))] (dQ 1 eI hm29 cw) (by kernel_rfl) (eC (ah (cX rfl hq24 (fun hc30 hq24=>?_) fun hc30 hq24=>?_))))))))))))
    ·refine af ?_
     refine cD 4 [2] [58] [(57,.v (.map (some b13))),(59,pI m25.ID),(60,pL eI x27)] (by kernel_rfl) (er rfl rfl (eG (xs:=l16) (k:=m25.ID) (ek:=kI) (vv:=(vL eI)) (v:=x27) rfl rfl (fi rfl) rfl rfl dC rfl (lS (lS (lS ll))) (bM (an ?_))))
     obtain rfl:=osi hq24
     exact bc ((),((dH l15 m25.ID m28),(dH l16 m25.ID x27))) (qC rfl) (cI br (cI (bm (bm br)) eD)) rfl
    refine al ?_
    refine an ?_
    obtain rfl:=osi hq24
    exact bc ((),((dH l15 m25.ID m28),l16)) (qC rfl) (cI br (cI (bm (bm br)) eD)) rfl
   rintro ⟨_,⟨l22,l23⟩⟩ τ hz;(try dsimp only at hz);subst q24;(try dsimp only at hb19);dsimp only [aF]
   refine ak [61] [(36,pI (IntKind.i64.wrap (v14+1)))] (by kernel_rfl) ?_
   exact bk hb19 () (qC rfl) zs3
  refine aS ?_
  refine ar (aq hb19 (fun ht=>au rfl ?_))
  exact bc ((),(l15,l16)) (mH rfl) zs3 ht.symm
 rintro ⟨_,⟨l17,l18⟩⟩ τ hz;(try dsimp only at hz);subst q20;(try dsimp only at h);dsimp only [aF]
 refine aa (aj [(11,pN)] (by kernel_rfl) (bi (dj 23 1 (ae h fun q41 hq41 h=>?_))))
 refine aM (Y:=(Option Addr×Nat)×((List (List Int)))) (fun ((a37,c38),l39)=>[(11,pO a37 l39.length c38)]) (fun ((a37,c38),l39)=>[PRes.row a37 l39.length c38 23 1 (List.map (eL eI) l39)]) (fun ((a37,c38),l39)=>q41=l39) ?_ ?_
 ·refine am ?_
  refine aO (Y:=Option Addr×Nat) (S:=(List (List Int))×(List (Int×(List Int)))) _ hq41 (fun (a33,c34) (l32,l35)=>[(0,pL Za.enc p0),(3,.v (.map (some b2))),(6,.v (.map (some b12))),(7,.v (.map (some b13))),(11,pO a33 l32.length c34)]) (fun (a33,c34) (l32,l35)=>[PRes.mp (some b12) (aW kI vI l17),PRes.mp (some b13) (aW kI (vL eI) l35),PRes.mp (some b2) (aW kI (vL eI) l5),PRes.row a33 l32.length c34 23 1 (List.map (eL eI) l32)]) (none,0) (pU rfl) (cI (bm br) (cI (bm br) (cI (bm br) eD))) ?_
  rintro ⟨a33,c34⟩ ⟨l32,l35⟩ o τ hb40;(try dsimp only at hb40);dsimp only [aF]
  refine aa (aa (af (aX 1 [(62,.v (.map (some b13)))] (by kernel_rfl) (cC rfl rfl rfl (show POpQ _ _ _ _ (.v (.int .i64 (l35.length:Int))) from pq_lenM (ek:=kI) (vv:=(vL eI)) (xs:=l35) rfl rfl (.p rfl) (c6 tl)) (aQ [(64,pB (decide (0<(l35.length:Int))))] (by kernel_rfl) (ah (cX rfl hb40 (fun hc43 hb40=>?_) fun hc43 hb40=>?_)))))))
  ·refine al ?_
   refine ah (am (aa (ae hb40 fun x44 hx44 hb40=>af (aX 4 [(66,pL Za.enc p0),(67,.v (.map (some b2))),(68,.v (.map (some b12))),(69,.v (.map (some b13)))] (by kernel_rfl) ?_))))
   refine aB rfl (bp rfl rfl (ρ1:=[_,_,_]) (aE (by exact bm (bm br)) (aE (by exact br) (aE (by exact br) (List.Perm.refl _)))) (eH hx44) ?_);rintro _ _ ⟨rfl,rfl⟩
   refine fQ [65,71,72] [(12,pI x44.1),(13,pB x44.2)] (by kernel_rfl) (bi (aa (ak [73] [(74,pB (!x44.2))] (by kernel_rfl) (ah (cX rfl hb40 (fun hc45 hb40=>?_) fun hc45 hb40=>?_)))))
   ·refine aS ?_
    refine ar (jh rfl (aq hb40 (fun ht=>au rfl ?_)))
    exact bc ((a33,c34),l32) (zh1 rfl) (cI (bm (bm (bm br))) ey) ht.symm
   refine al ?_
   refine bi (af (aX 3 [(75,pO a33 l32.length c34),(76,.v (.map (some b13))),(77,pI x44.1)] (by kernel_rfl) (cC rfl rfl rfl (show POpQ _ _ _ _ (pL eI ((aZ l35 x44.1).getD [])) from dR (xs:=l35) (k:=x44.1) (ek:=kI) (vv:=(vL eI)) (z0:=[]) rfl rfl rfl (fun _=>gE) (fi rfl) (.p rfl) (.p rfl) dC (c6 zm2)) (aB rfl (cJ rfl rfl rfl rfl rfl (gI rfl kT) rfl rfl rfl rfl (fun b46=>ae hb40 fun l48 hl48 hb40=>?_))))))
   refine aB rfl (cZ (enc:=(eL eI)) rfl rfl rfl rfl rfl rfl rfl rfl rfl lZ (by exact bm (bm (bm (bm br)))) hl48 (fun a49 c50=>?_))
   refine aQ [(11,pO a49 l48.length c50)] (by kernel_rfl) (ah (af (aX 2 [(81,.v (.map (some b13))),(82,pI x44.1)] (by kernel_rfl) (er rfl rfl (qN (xs:=l35) (k:=x44.1) (ek:=kI) (vv:=(vL eI)) rfl rfl rfl (fi rfl) rfl rfl dC (lS (lS (lS (lS ll)))) (bM (an ?_)))))))
   exact bk hb40 (a49,c50) (pU rfl) (cI (bm (bm (bm br))) (cI (bm (bm (bm br))) (cI (bm (bm br)) eD)))
  refine aS ?_
  refine ar (aq hb40 (fun ht=>au rfl ?_))
  exact bc ((a33,c34),l32) (zh1 rfl) (cI (bm (bm (bm br))) ey) ht.symm
 rintro ⟨⟨a37,c38⟩,l39⟩ τ hz;(try dsimp only at hz);subst q41;(try dsimp only at h);dsimp only [aF]
 refine aa (ak [83] [(2,pO a37 l39.length c38)] (by kernel_rfl) (ah ?_))
 refine eY (enc:=(eL eI)) (xs:=l39) 2 rfl (by exact br) ?_
 refine dg ?_
 exact zz r h rfl
def fp  : Option Bool:=(dq).bind fun x1=>(bg x1).bind fun x2=>(dq).bind fun x3=>(cY x3).bind fun x4=>(gd ((x4 == 0)&&((x2.length:Int) == 2)) (idx x2 0)).bind fun m5=>(gd ((x4 == 0)&&((x2.length:Int) == 2)) (cf m5 [3])).bind fun x7=>(gd (((x4 == 0)&&((x2.length:Int) == 2))&&x7) (idx x2 1)).bind fun m8=>(gd (((x4 == 0)&&((x2.length:Int) == 2))&&x7) (cf m8 [1,2])).bind fun x10=>(gd ((((x4 == 0)&&((x2.length:Int) == 2))&&x7)&&x10) (dq)).bind fun x11=>(gd ((((x4 == 0)&&((x2.length:Int) == 2))&&x7)&&x10) (aR x11 2)).bind fun x12=>(gd ((((x4 == 0)&&((x2.length:Int) == 2))&&x7)&&x10) (cf x12 [1,2,3])).bind fun x14=>(gd (((((x4 == 0)&&((x2.length:Int) == 2))&&x7)&&x10)&&x14) (dq)).bind fun x15=>(gd (((((x4 == 0)&&((x2.length:Int) == 2))&&x7)&&x10)&&x14) (dX x15 3)).bind fun x16=>(gd (((((x4 == 0)&&((x2.length:Int) == 2))&&x7)&&x10)&&x14) (cf x16 [1])).bind fun x18=>some ((((((x4 == 0)&&((x2.length:Int) == 2))&&x7)&&x10)&&x14)&&x18)
theorem kC  {r:Bool}  (h:fp  = some r):PF 14 [] (pB r):=by
 unfold fp at h
 refine bW ?_
 refine aI Tryd.func14 rfl Tryd.ntmps14 Tryd.results14 rfl (aa (aJ [0] (by kernel_rfl) (bi (ae h fun x1 hx1 h=>ae h fun x2 hx2 h=>aK [] [2,3] [(1,pL (eL eI) x2)] (eu 0 (dE hx1) (eu 1 (de hx2) cw)) (by kernel_rfl) (bi (ae h fun x3 hx3 h=>ae h fun x4 hx4 h=>ae h fun m5 hm5 h=>af (bz 12 [] ((rg 4 8)++[13,14]) [(12,pB ((x4 == 0)&&((x2.length:Int) == 2))),(15,pgv ((x4 == 0)&&((x2.length:Int) == 2)) (pL eI m5))] (eu 0 (dE hx3) (eu 1 (gn hx4) (iw 10 (eL eI) (dO hm5) cw))) (by kernel_rfl) ?_)))))))
 refine iB (cB rfl rfl rfl) rfl rfl rfl rfl rfl rfl (fun _=>by (repeat (first | exact kT | apply gI rfl))) rfl rfl rfl rfl ?_
 refine ae h fun x7 hx7 h=>eQ (cB rfl rfl rfl) rfl rfl rfl (bx (.g rfl) (bx (.g rfl) dP)) (fun hc=>db (dO hx7 hc)) (cC rfl rfl rfl (gF rfl (.p rfl) (.p rfl) (.g rfl)) (ae h fun m8 hm8 h=>bz 4 [] [20,21] [(19,pB (((x4 == 0)&&((x2.length:Int) == 2))&&x7)),(22,pgv (((x4 == 0)&&((x2.length:Int) == 2))&&x7) (pL eI m8))] (iw 2 (eL eI) (dO hm8) cw) (by kernel_rfl) ?_))
 refine iB (cB rfl rfl rfl) rfl rfl rfl rfl rfl rfl (fun _=>by (repeat (first | exact kT | apply gI rfl))) rfl rfl rfl rfl ?_
 refine ae h fun x10 hx10 h=>eQ (cB rfl rfl rfl) rfl rfl rfl (bx (.g rfl) (bx (.g rfl) dP)) (fun hc=>db (dO hx10 hc)) (cC rfl rfl rfl (gF rfl (.p rfl) (.p rfl) (.g rfl)) (ae h fun x11 hx11 h=>ae h fun x12 hx12 h=>bz 3 [] [27] [(26,pB ((((x4 == 0)&&((x2.length:Int) == 2))&&x7)&&x10)),(28,pgv ((((x4 == 0)&&((x2.length:Int) == 2))&&x7)&&x10) (pL eI x12))] (hQ 1 (fun hc=>dE (dO hx11 hc)) (hQ 2 (fun hc=>ck (dO hx12 hc)) cw)) (by kernel_rfl) ?_))
 refine iB (cB rfl rfl rfl) rfl rfl rfl rfl rfl rfl (fun _=>by (repeat (first | exact kT | apply gI rfl))) rfl rfl rfl rfl ?_
 refine ae h fun x14 hx14 h=>eQ (cB rfl rfl rfl) rfl rfl rfl (bx (.g rfl) (bx (.g rfl) dP)) (fun hc=>db (dO hx14 hc)) (cC rfl rfl rfl (gF rfl (.p rfl) (.p rfl) (.g rfl)) (ae h fun x15 hx15 h=>ae h fun x16 hx16 h=>bz 3 [] [33] [(32,pB (((((x4 == 0)&&((x2.length:Int) == 2))&&x7)&&x10)&&x14)),(34,pgv (((((x4 == 0)&&((x2.length:Int) == 2))&&x7)&&x10)&&x14) (pL eI x16))] (hQ 1 (fun hc=>dE (dO hx15 hc)) (hQ 2 (fun hc=>g0 (dO hx16 hc)) cw)) (by kernel_rfl) ?_))
 refine iB (cB rfl rfl rfl) rfl rfl rfl rfl rfl rfl (fun _=>by (repeat (first | exact kT | apply gI rfl))) rfl rfl rfl rfl ?_
 refine ae h fun x18 hx18 h=>eQ (cB rfl rfl rfl) rfl rfl rfl (bx (.g rfl) (bx (.g rfl) dP)) (fun hc=>db (dO hx18 hc)) (cC rfl rfl rfl (gF rfl (.p rfl) (.p rfl) (.g rfl)) (aQ [(0,pB ((((((x4 == 0)&&((x2.length:Int) == 2))&&x7)&&x10)&&x14)&&x18))] (by kernel_rfl) (dk ?_)))
 exact zz r h rfl
def cF (p0:(List Int)):Option Bool:=(fT p0).bind fun x1=>(bg x1).bind fun x5=>(aT (S:=(List Int)×Int) (T:=(Unit)⊕(_)) (fun (l7,v10)=>cond (decide (v10<(x5.length:Int))) ((idx x5 v10).bind fun m15=>(app 8 l7 m15).bind fun l16=>(aT (S:=Int) (T:=(Unit)⊕(_)) (fun v20=>(idx x5 v10).bind fun m24=>cond (decide (v20<(m24.length:Int))) ((idx x5 v10).bind fun m26=>(idx m26 v20).bind fun m27=>(aR x1 m27).bind fun x28=>(aT (S:=Int) (T:=(Unit)⊕(_)) (fun v29=>cond (decide (v29<(x28.length:Int))) ((idx x28 v29).bind fun m34=>(cP l16 m34).bind fun x35=>cond (!x35) (some (.inr (.inr (.inr (.inr (.inr (.inr false))))))) (some (.inl (IntKind.i64.wrap (v29+1))))) (some (.inr (.inl ())))) FUEL 0).bind fun q=>match q with | .inl _=>(idx x5 v10).bind (fun m37=>(gd (decide (1<(m37.length:Int))) (idx x5 v10)).bind fun m38=>(gd (decide (1<(m37.length:Int))) (idx m38 0)).bind fun m39=>(gd (decide (1<(m37.length:Int))) (aR x1 m39)).bind fun x40=>(gd (decide (1<(m37.length:Int))) (cf x28 x40)).bind fun x41=>cond ((decide (1<(m37.length:Int)))&&(!x41)) (some (.inr (.inr (.inr (.inr false))))) (some (.inl (IntKind.i64.wrap (v20+1))))) | .inr e=>some e) (some (.inr (.inl ())))) FUEL 0).bind fun q=>match q with | .inl _=>some (.inl (l16,(IntKind.i64.wrap (v10+1)))) | .inr e=>some e) (some (.inr (.inl ())))) FUEL (([]:List Int),0)).bind fun q=>match q with | .inl _=>(fp).bind (fun x44=>some x44) | .inr e=>some e
theorem ic {p0:(List Int)} {r:Bool}  (h:cF p0=some r):PF 6 [pL eI p0] (pB r):=by
 unfold cF at h
 refine bW ?_
 refine aI Tryd.func6 rfl Tryd.ntmps6 Tryd.results6 rfl (aa (aJ [2] (by kernel_rfl) (bi (ae h fun x1 hx1 h=>af (aX 1 [(10,pL eI p0)] (by kernel_rfl) ?_)))))
 refine aB rfl (bp rfl rfl (ρ1:=[]) (List.Perm.refl _) (mw hx1) ?_);rintro _ _ ⟨a2,c3,rfl,rfl⟩
 refine aQ [(3,pO a2 x1.length c3)] (by kernel_rfl) (bi (af (aX 1 [(12,pO a2 x1.length c3)] (by kernel_rfl) ?_)))
 refine j6 (enc:=Za.enc) (xs:=x1) 12 rfl (by exact br) ?_
 refine ae h fun x5 hx5 h=>eF [] [13] [(4,pL (eL eI) x5)] (eu 0 (de hx5) cw) (by kernel_rfl) (bi (aj [(5,pN)] (by kernel_rfl) (bi (aa (aj [(6,pI 0)] (by kernel_rfl) (ah (ni (enc:=Za.enc) (xs:=x1) 3 rfl lZ (dj 3 1 (ae h fun q12 hq12 h=>?_)))))))))
 refine aM (Y:=Unit×Unit) (fun (_,_)=>[]) (fun (_,_)=>[]) (fun (_,_)=>q12=Sum.inl ()) ?_ ?_
 ·refine am ?_
  refine aO (Y:=Option Addr×Nat) (S:=(List Int)×Int) _ hq12 (fun (a8,c9) (l7,v10)=>[(3,pL Za.enc x1),(4,pL (eL eI) x5),(5,pO a8 l7.length c9),(6,pI v10)]) (fun (a8,c9) (l7,v10)=>[PRes.row a8 l7.length c9 3 1 (List.map eI l7)]) (none,0) (mH rfl) eD ?_
  rintro ⟨a8,c9⟩ ⟨l7,v10⟩ o τ hb11;(try dsimp only at hb11);dsimp only [aF]
  refine aa (aa (ak [14,15,16] [(17,pB (decide (v10<(x5.length:Int))))] (by kernel_rfl) (ah (cX rfl hb11 (fun hc14 hb11=>?_) fun hc14 hb11=>?_))))
  ·refine al ?_
   refine bi (am (aa (ae hb11 fun m15 hm15 hb11=>ae hb11 fun l16 hl16 hb11=>af (bz 5 [] [21,22,23] [(20,pO a8 l7.length c9),(24,pL eI m15)] (dQ 3 (eL eI) hm15 cw) (by kernel_rfl) ?_))))
   refine aB rfl (r5 (enc:=eI) rfl rfl rfl rfl rfl (fun _=>rfl) rfl rfl rfl (by exact br) hl16 (fun a17 c18=>?_))
   refine aQ [(5,pO a17 l16.length c18)] (by kernel_rfl) (bi (aj [(7,pI 0)] (by kernel_rfl) (ah (ae hb11 fun q23 hq23 hb11=>?_))))
   refine j0 (Y:=Unit×Unit) (fun (_,_)=>[(3,pL Za.enc x1),(4,pL (eL eI) x5),(5,pO a17 l16.length c18),(6,pI v10)]) (fun (_,_)=>[PRes.row a17 l16.length c18 3 1 (List.map eI l16)]) (fun (_,_)=>q23=Sum.inl ()) ?_ ?_
   ·refine am ?_
    refine aO (Y:=Unit) (S:=Int) _ hq23 (fun _ v20=>[(3,pL Za.enc x1),(4,pL (eL eI) x5),(5,pO a17 l16.length c18),(6,pI v10),(7,pI v20)]) (fun _ v20=>[PRes.row a17 l16.length c18 3 1 (List.map eI l16)]) () (pU rfl) eD ?_
    rintro _ v20 o τ hb22;(try dsimp only at hb22);dsimp only [aF]
    refine aa (aa (ae hb22 fun m24 hm24 hb22=>aK [] (rg 26 6) [(32,pB (decide (v20<(m24.length:Int))))] (dQ 3 (eL eI) hm24 cw) (by kernel_rfl) (ah (cX rfl hb22 (fun hc25 hb22=>?_) fun hc25 hb22=>?_))))
    ·refine al ?_
     refine bi (am (aa (ae hb22 fun m26 hm26 hb22=>ae hb22 fun m27 hm27 hb22=>ae hb22 fun x28 hx28 hb22=>aK [] (rg 35 9) [(8,pL eI x28)] (dQ 3 (eL eI) hm26 (dQ 6 eI hm27 (eu 8 (ck hx28) cw))) (by kernel_rfl) (bi (aa (aj [(9,pI 0)] (by kernel_rfl) (ah (ae hb22 fun q32 hq32 hb22=>?_))))))))
     refine aM (Y:=Unit×Unit) (fun (_,_)=>[(3,pL Za.enc x1),(4,pL (eL eI) x5),(5,pO a17 l16.length c18),(6,pI v10),(7,pI v20),(8,pL eI x28)]) (fun (_,_)=>[PRes.row a17 l16.length c18 3 1 (List.map eI l16)]) (fun (_,_)=>q32=Sum.inl ()) ?_ ?_
     ·refine am ?_
      refine aO (Y:=Unit) (S:=Int) _ hq32 (fun _ v29=>[(3,pL Za.enc x1),(4,pL (eL eI) x5),(5,pO a17 l16.length c18),(6,pI v10),(7,pI v20),(8,pL eI x28),(9,pI v29)]) (fun _ v29=>[PRes.row a17 l16.length c18 3 1 (List.map eI l16)]) () (qC rfl) eD ?_
      rintro _ v29 o τ hb31;(try dsimp only at hb31);dsimp only [aF]
      refine aa (aa (ak [44,45,46] [(47,pB (decide (v29<(x28.length:Int))))] (by kernel_rfl) (ah (cX rfl hb31 (fun hc33 hb31=>?_) fun hc33 hb31=>?_))))
      ·refine al ?_
       refine bi (am (aa (ae hb31 fun m34 hm34 hb31=>ae hb31 fun x35 hx35 hb31=>af (bz 5 [] [51,52,53] [(50,pO a17 l16.length c18),(54,pI m34)] (dQ 3 eI hm34 cw) (by kernel_rfl) ?_))))
       refine aB rfl (bp rfl rfl (ρ1:=[_]) (aE (by exact br) (List.Perm.refl _)) (kB hx35) ?_);rintro _ _ ⟨rfl,rfl⟩
       refine aQ [(56,pB (!x35))] (by kernel_rfl) (ah (cX rfl hb31 (fun hc36 hb31=>?_) fun hc36 hb31=>?_))
       ·refine aa ?_
        refine aj [(2,pB false)] (by kernel_rfl) (dk (ai (ap ?_)))
        refine aL hb31 (fun ht=>?_);subst ht
        refine ai (aN (ai (ap ?_)))
        refine aL hb22 (fun ht=>?_);subst ht
        refine ai (dN (ai (ap ?_)))
        refine aL hb11 (fun ht=>?_);subst ht
        refine ai (aN ?_)
        exact zz r h rfl
       refine al ?_
       refine an (ah (ak [48,49] [(9,pI (IntKind.i64.wrap (v29+1)))] (by kernel_rfl) ?_))
       exact bk hb31 () (qC rfl) eD
      refine aS ?_
      refine ar (aq hb31 (fun ht=>au rfl ?_))
      exact bc ((),()) (ow rfl) eD ht.symm
     rintro ⟨_,_⟩ τ hz;(try dsimp only at hz);subst q32;(try dsimp only at hb22);dsimp only [aF]
     refine aa (ae hb22 fun m37 hm37 hb22=>ae hb22 fun m38 hm38 hb22=>ae hb22 fun m39 hm39 hb22=>ae hb22 fun x40 hx40 hb22=>ae hb22 fun x41 hx41 hb22=>aK [] (rg 57 18) [(75,pB ((decide (1<(m37.length:Int)))&&(!x41)))] (dQ 2 (eL eI) hm37 (iw 11 (eL eI) (dO hm38) (iw 13 eI (dO hm39) (hQ 15 (fun hc=>ck (dO hx40 hc)) (hQ 16 (fun hc=>db (dO hx41 hc)) cw))))) (by kernel_rfl) (ah (cX rfl hb22 (fun hc42 hb22=>?_) fun hc42 hb22=>?_)))
     ·refine aa ?_
      refine aj [(2,pB false)] (by kernel_rfl) (dk (ai (ap ?_)))
      refine aL hb22 (fun ht=>?_);subst ht
      refine ai (dN (ai (ap ?_)))
      refine aL hb11 (fun ht=>?_);subst ht
      refine ai (aN ?_)
      exact zz r h rfl
     refine al ?_
     refine an (ah (ak [33,34] [(7,pI (IntKind.i64.wrap (v20+1)))] (by kernel_rfl) ?_))
     exact bk hb22 () (pU rfl) eD
    refine aS ?_
    refine ar (aq hb22 (fun ht=>au rfl ?_))
    exact j5 ((),()) (mH rfl) eD ht.symm
   rintro ⟨_,_⟩ τ ρ1 hsub43 hz;(try dsimp only at hz hsub43);subst q23;(try dsimp only at hb11);dsimp only [aF]
   refine an (ah (lT hsub43 (ak [18,19] [(6,pI (IntKind.i64.wrap (v10+1)))] (by kernel_rfl) ?_)))
   exact bk hb11 (a17,c18) (mH rfl) eD
  refine aS ?_
  refine ar (aq hb11 (fun ht=>au rfl ?_))
  exact bc ((),()) kQ ey ht.symm
 rintro ⟨_,_⟩ τ hz;(try dsimp only at hz);subst q12;(try dsimp only at h);dsimp only [aF]
 refine aa (ae h fun x44 hx44 h=>aK [] [76] [(2,pB x44)] (eu 0 (kC hx44) cw) (by kernel_rfl) (dk ?_))
 exact zz r h rfl
end SX
end Go.Proofs.YtipjgkapcgpgbaaDoor
set_option maxRecDepth 100000
namespace Go.Proofs.YtipjgkapcgpgbaaDoor
namespace SX
open Go
section
variable {γ:Type} [Inhabited γ]
end
def sZ (a b:ByteArray):Bool:=Op.bytesLess a.toList b.toList
theorem ltS_eq (a b:ByteArray):sZ a b=decide (a.data.toList<b.data.toList):=by
 unfold sZ;rw [bytesLess_eq,ByteArray.toList_eq,ByteArray.toList_eq]
end SX
end Go.Proofs.YtipjgkapcgpgbaaDoor
set_option maxRecDepth 100000
namespace Go.Proofs.YtipjgkapcgpgbaaDoor
namespace SX
open Go
theorem cmpI (a b:Int):cE a b=some (if a<b then -1 else if b<a then 1 else 0):=by
 unfold cE da
 simp only [bne_self_eq_false,cy,eo]
 by_cases h:a<b
 ·rw [det h,if_pos h];rfl
 rw [oA h,if_neg h]
 by_cases h2:b<a
 ·rw [det h2,if_pos h2];rfl
 rw [oA h2,if_neg h2];rfl
end SX
end Go.Proofs.YtipjgkapcgpgbaaDoor
set_option maxRecDepth 100000
namespace Go.Proofs.YtipjgkapcgpgbaaDoor
namespace SX
open Go
theorem qO {S T:Type} {body:S→Option (S⊕T)} (P:S→Prop) (μ:S→Nat) (Q:T→Prop) (step:∀ s,P s→(∃ s',body s=some (.inl s')∧P s'∧μ s'<μ s)∨∃ t,body s=some (.inr t)∧Q t):∀ (N:Nat) (s:S),P s→μ s<N→∃ t,aT body N s=some t∧Q t:=by
 intro N
 induction N with
 | zero=>intro s _ h;exact absurd h (Nat.not_lt_zero _)
 | succ N ih =>
  intro s hp hm
  rw [gf]
  rcases step s hp with ⟨s',h1,h2,h3⟩ | ⟨t,h1,h2⟩
  ·rw [h1];exact ih s' h2 (by omega)
  rw [h1];exact ⟨t,rfl,h2⟩
def ctry (s:ByteArray):Bool:=match s.data.toList with | [a,b]=>decide (65≤(a.toNat:Int))&&decide ((a.toNat:Int)≤90)&&decide (65≤(b.toNat:Int))&&decide ((b.toNat:Int)≤90) | _=>false
def letter (c:UInt8):Bool:=decide (97≤c.toNat)&&decide (c.toNat≤122)
def s7 (s:ByteArray):Bool:=decide (1≤s.size)&&decide (s.size≤12)&&s.data.toList.all letter
def nV (lt:ByteArray→ByteArray→Bool):List ByteArray→Bool
 | []=>true
 | [_]=>true
 | a::b::l=>lt a b&&nV lt (b::l)
def kD (l:List ByteArray):Bool:=decide (l.length≤8)&&(l.all s7&&nV sZ l)
def StrsOk (l:List ByteArray):Prop:=l.length≤140737488355328∧∀ s∈l,s.size≤140737488355328
end SX
end Go.Proofs.YtipjgkapcgpgbaaDoor
set_option maxRecDepth 100000
namespace Go.Proofs.YtipjgkapcgpgbaaDoor
namespace SX
open Go
end SX
end Go.Proofs.YtipjgkapcgpgbaaDoor
set_option maxRecDepth 100000
namespace Go.Proofs.YtipjgkapcgpgbaaDoor
namespace SX
open Go
end SX
end Go.Proofs.YtipjgkapcgpgbaaDoor
set_option maxRecDepth 100000
namespace Go.Proofs.YtipjgkapcgpgbaaDoor
namespace SX
open Go
def Y {α:Type} (x:Option α) (P:α→Prop):Prop:=∃ a,x=some a∧P a
section
variable {α β S T:Type} {x y:Option α} {P P':α→Prop} {Q:β→Prop} {f:α→Option β} {a:α} {c:Bool}
theorem Y.bind (h:Y x P) (k:∀ a,P a→Y (f a) Q):Y (x.bind f) Q:=by
 obtain ⟨a,h1,h2⟩:=h;rw [h1];exact k a h2
theorem Y.ret (h:P a):Y (some a) P:=⟨a,rfl,h⟩
theorem Y.mono (h:Y x P) (k:∀ a,P a→P' a):Y x P':=by obtain ⟨a,h1,h2⟩:=h;exact ⟨a,h1,k a h2⟩
theorem Y.cond (h:c=true→Y x P) (k:c=false→Y y P):Y (cond c x y) P:=by cases c;exact k rfl;exact h rfl
theorem Y.eq {r:α} (h:x=some r) (k:Y (f r) Q):Y (x.bind f) Q:=by rw [h];exact k
theorem Y.loop {body:S→Option (S⊕T)} {R:T→Prop} {s:S} (I:S→Prop) (μ:S→Nat) (h0:I s) (hm:μ s≤1267650600228229401496703205000) (step:∀ s,I s→Y (body s) (fun o=>match o with | .inl s'=>I s'∧μ s'<μ s | .inr t=>R t)):Y (aT body FUEL s) R:=by
 obtain ⟨t,h1,h2⟩:=qO (body:=body) I μ R (fun s hs=>by
  obtain ⟨o,k1,k2⟩:=step s hs
  cases o with
  | inl s'=>exact .inl ⟨s',k1,k2⟩
  | inr t=>exact .inr ⟨t,k1,k2⟩) FUEL s h0 (nK hm)
 exact ⟨t,h1,h2⟩
theorem Y.idx {xs:List α} {i:Int} {n:Nat} (h:i=(n:Int)) (hn:n<xs.length) (k:Y (f xs[n]) Q):Y ((idx xs i).bind f) Q:=by subst h;rw [bd hn];exact k
theorem Y.gdp [Inhabited α] {z:Option (α×β)} {m:β} {R:α×β→Prop} (h:c=true→Y z R) (k:c=false→R (default,m)):Y (gdp c z m) R:=by
 cases c
 ·exact ⟨_,rfl,k rfl⟩
 exact h rfl
end
theorem qP (a n:Int) (h1:1≤n) (h2:n≤4611686018427387904):∃ r,ef a n=some r∧0≤r∧r<n:=by
 have hl:=Int.tmod_lt_of_pos a (show 0<n by omega)
 have hl2:=Int.tmod_lt_of_pos (-a) (show 0<n by omega)
 rw [Int.neg_tmod] at hl2
 unfold ef nz lb
 rw [if_neg (by omega),fe (by omega) (by omega)]
 exact ⟨_,rfl,Int.tmod_nonneg _ (by omega),Int.tmod_lt_of_pos _ (by omega)⟩
def SOK (p:Zc):Prop:=0≤p.I∧p.I≤p.L.length∧p.L.length≤1000000000000000
theorem next_ok {p:Zc} (hp:SOK p) (n:Int) (h1:1≤n) (h2:n≤4611686018427387904):∃ r q,aA p n=some (r,q)∧0≤r∧r<n∧SOK q:=by
 obtain ⟨a1,a2,a3⟩:=hp
 unfold aA
 by_cases h:(p.L.length:Int)≤p.I
 ·rw [det h];exact ⟨_,_,rfl,by omega,by omega,a1,a2,a3⟩
 rw [oA h,fe (r:=p.I+1) (by omega) (by omega),fe (by omega) (by omega)]
 simp only [eo]
 have e:idx p.L (p.I+1 - 1)=some (p.L[p.I.toNat]'(by omega)):=by
  unfold idx;rw [if_pos (by omega)]
  have:(p.I+1 - 1).toNat=p.I.toNat:=by omega
  rw [this];exact List.getElem?_eq_getElem _
 rw [bnd e]
 obtain ⟨r,h3,h4,h5⟩:=qP (p.L[p.I.toNat]'(by omega)) n h1 h2
 rw [bnd h3]
 exact ⟨_,_,rfl,h4,h5,by simp only;omega,by simp only;omega,a3⟩
theorem cut_ok (l:List Int) (n:Int) (h:0≤n) (h2:n≤1000):∃ m,fR l n=some m∧(m.length:Int)≤n:=by
 unfold fR
 by_cases h1:n<(l.length:Int)
 ·rw [det h1]
  have e:sub l 0 n=some ((l.take n.toNat).drop 0):=by unfold sub;rw [if_pos (by omega)];rfl
  simp only [cR];rw [bnd e];exact ⟨_,rfl,by simp;omega⟩
 rw [oA h1];exact ⟨_,rfl,by omega⟩
theorem fc {p:Zc} (hp:SOK p) (n:Int) (h1:1≤n) (h2:n≤4611686018427387904):Y (aA p n) (fun r=>0≤r.1∧r.1<n∧SOK r.2):=by
 obtain ⟨r,q,h3,h4,h5,h6⟩:=next_ok hp n h1 h2;exact ⟨(r,q),h3,h4,h5,h6⟩
theorem cut_Y (l:List Int) (n:Int) (h:0≤n) (h2:n≤1000):Y (fR l n) (fun m=>SOK ⟨m,0⟩):=by
 obtain ⟨m,h3,h4⟩:=cut_ok l n h h2
 exact ⟨m,h3,by dsimp only;omega,by dsimp only;omega,by dsimp only;omega⟩
end SX
end Go.Proofs.YtipjgkapcgpgbaaDoor
set_option maxRecDepth 100000
namespace Go.Proofs.YtipjgkapcgpgbaaDoor
namespace SX
open Go
theorem ltS_tr (x y z:ByteArray) (h1:sZ x y=true) (h2:sZ y z=true):sZ x z=true:=by
 rw [ltS_eq] at *;exact det (List.lt_trans (of_decide_eq_true h1) (of_decide_eq_true h2))
theorem iD:∀ l:List ByteArray,nV sZ l=true↔l.Pairwise (fun a b=>sZ a b=true)
 | []=>by simp [nV]
 | [a]=>by simp [nV]
 | a::b::l=>by
  rw [nV,Bool.and_eq_true,iD (b::l)]
  constructor
  ·rintro ⟨h1,h2⟩
   refine List.pairwise_cons.2 ⟨fun c hc=>?_,h2⟩
   rcases List.mem_cons.1 hc with rfl | hc
   ·exact h1
   exact ltS_tr _ _ _ h1 ((List.pairwise_cons.1 h2).1 c hc)
  intro h;obtain ⟨h1,h2⟩:=List.pairwise_cons.1 h;exact ⟨h1 b (by simp),h2⟩
theorem mC {α:Type} {l C:List α} {v:Nat} (h:l.Sublist (C.take v)) (hv:v<C.length):(l++[C[v]]).Sublist (C.take (v+1))∧l.Sublist (C.take (v+1)):=by
 have e:C.take (v+1)=C.take v++[C[v]]:=by rw [List.take_add_one,List.getElem?_eq_getElem hv];rfl
 rw [e]
 exact ⟨h.append (List.Sublist.refl _),h.trans (List.sublist_append_left _ _)⟩
def C6:List ByteArray:=[(⟨#[65,65]⟩:ByteArray),(⟨#[66,66]⟩:ByteArray),(⟨#[67,67]⟩:ByteArray),(⟨#[68,68]⟩:ByteArray),(⟨#[69,69]⟩:ByteArray),(⟨#[70,70]⟩:ByteArray)]
theorem C6_ok:C6.all ctry=true∧nV sZ C6=true∧(C6.all fun s=>decide (s.size≤100))=true:=⟨by kernel_rfl,by kernel_rfl,by kernel_rfl⟩
theorem mD:dD=some C6:=rfl
theorem qc (v:Nat):tk (v:Int)=some ():=by unfold tk;rw [if_pos (by omega)]
end SX
end Go.Proofs.YtipjgkapcgpgbaaDoor
set_option maxRecDepth 100000
namespace Go.Proofs.YtipjgkapcgpgbaaDoor
namespace SX
open Go
end SX
end Go.Proofs.YtipjgkapcgpgbaaDoor
set_option maxRecDepth 100000
namespace Go.Proofs.YtipjgkapcgpgbaaDoor
namespace SX
open Go
end SX
end Go.Proofs.YtipjgkapcgpgbaaDoor
set_option maxRecDepth 100000
namespace Go.Proofs.YtipjgkapcgpgbaaDoor
namespace SX
open Go
end SX
end Go.Proofs.YtipjgkapcgpgbaaDoor
set_option maxRecDepth 100000
namespace Go.Proofs.YtipjgkapcgpgbaaDoor
namespace SX
open Go
theorem kE {α T:Type} (p:α→Bool) (f:Nat→T):∀ (l:List α) (i:Nat),(dI (fun k x=>cond (p x) (some (f k)) none) l i=none∧l.find? p=none)∨∃ j,∃ h:j<l.length,dI (fun k x=>cond (p x) (some (f k)) none) l i=some (f (i+j))∧l.find? p=some l[j]
 | [],_=>.inl ⟨rfl,rfl⟩
 | x::xs,i=>by
  rw [dI,List.find?_cons]
  cases hp:p x
  ·rcases kE p f xs (i+1) with ⟨h1,h2⟩ | ⟨j,hj,h1,h2⟩
   ·exact .inl ⟨h1,h2⟩
   exact .inr ⟨j+1,by simpa using hj,by rw [show i+(j+1)=i+1+j by omega];exact h1,h2⟩
  exact .inr ⟨0,by simp,rfl,rfl⟩
def nW {α:Type} (R:α→α→Bool):List α→List α→Bool
 | [],_=>true
 | _::_,[]=>true
 | x::a,y::b=>R x y&&nW R a b
def nX {α:Type} (R:α→α→Bool) (a b:List α):Bool:=a.length == b.length&&nW R a b
theorem lz {α T:Type} (R:α→α→Bool) (t:T) (B:List α):∀ (a b:List α) (i:Nat),B.drop i=b→a.length=b.length→dI (fun k x=>cond (R x (B.getD k x)) none (some t)) a i=cond (nW R a b) none (some t)
 | [],b,_,_,_=>by cases b <;> rfl
 | x::a,[],_,_,h=>by simp at h
 | x::a,y::b,i,hd,h=>by
  have hi:i<B.length:=by
   rcases Nat.lt_or_ge i B.length with h | h
   ·exact h
   rw [List.drop_of_length_le h] at hd;cases hd
  rw [List.drop_eq_getElem_cons hi] at hd
  injection hd with h1 h2
  rw [dI,nW,p6 hi,h1,lz R t B a b (i+1) h2 (by simpa using h)]
  cases R x y <;> rfl
theorem nY {α:Type} {R:α→α→Bool}:∀ {a b:List α},(∀ x∈a,∀ y∈b,R x y=true↔x=y)→(nX R a b=true↔a=b)
 | [],[],_=>by simp [nX,nW]
 | [],y::b,_=>by simp [nX]
 | x::a,[],_=>by simp [nX]
 | x::a,y::b,h=>by
  have ih:=nY (R:=R) (a:=a) (b:=b) fun u hu v hv=>h u (by simp [hu]) v (by simp [hv])
  have h0:=h x (by simp) y (by simp)
  unfold nX at ih ⊢
  rw [nW]
  simp only [List.length_cons,Bool.and_eq_true,beq_iff_eq,Nat.add_right_cancel_iff,List.cons.injEq] at ih ⊢
  constructor
  ·rintro ⟨h1,h2,h3⟩;exact ⟨h0.1 h2,ih.1 ⟨h1,h3⟩⟩
  rintro ⟨h1,h2⟩;exact ⟨(ih.2 h2).1,h0.2 h1,(ih.2 h2).2⟩
theorem len_beq {α:Type} (a b:List α):((a.length:Int) != (b.length:Int)) = !(a.length == b.length):=by
 by_cases h:a.length=b.length
 ·rw [h];simp
 have h2:¬ (a.length:Int)=(b.length:Int):=by omega
 have e1:(a.length == b.length)=false:=by simpa using h
 have e2:((a.length:Int) == (b.length:Int))=false:=by simpa using h2
 rw [e1,bne,e2]
theorem eq_loop {α:Type} {a b:List α} (ha:a.length≤140737488355328) (R:α→α→Bool) {body:Int→Option (Int⊕(Unit⊕Bool))} {k:Unit⊕Bool→Option Bool} (hk:k (.inl ())=some true∧k (.inr false)=some false) (hab:a.length=b.length)
    (hstep:∀ (k:Nat) (hk:k<a.length) (hk2:k<b.length),body (k:Int)=some (outg k (cond (R a[k] b[k]) none (some (.inr false))))) (hend:body (a.length:Int)=some (.inr (.inl ()))):Option.bind (aT body FUEL 0) k=some (nW R a b):=by
  refine (dU (l:=a) (by omega) (fun i x=>cond (R x (b.getD i x)) none (some (.inr false))) (.inl ()) (fun i hi=>?_) hend).trans ?_
  · rw [hstep i hi (by omega),p6 (show i<b.length by omega)]
  rw [lz R (Sum.inr false:Unit⊕Bool) b a b 0 rfl hab]
  cases nW R a b
  · exact hk.2
  exact hk.1
theorem nZ (a b:List Int) (ha:a.length≤140737488355328):cf a b=some (decide (a=b)):=by
 have hiff:nX (fun x y:Int=>x == y) a b=decide (a=b):=by
  have:=nY (R:=fun x y:Int=>x == y) (a:=a) (b:=b) (fun x _ y _=>by simp)
  cases h:nX (fun x y:Int=>x == y) a b
  ·rw [h] at this;exact (oA fun e=>by have:=this.2 e;cases this).symm
  exact (det (this.1 h)).symm
 rw [← hiff]
 unfold cf nX
 rw [len_beq]
 cases h:(a.length == b.length)
 ·rfl
 simp only [Bool.not_true,eo,Bool.true_and]
 refine eq_loop ha _ ⟨rfl,rfl⟩ (eq_of_beq h) (fun k hk hk2=>?_) (by simp only [fN,eo])
 simp only [lv hk,cR,bd hk,bd hk2,cy,cN hk (show a.length≤4611686018427387904 by omega),bne]
 cases (a[k] == b[k]) <;> rfl
end SX
end Go.Proofs.YtipjgkapcgpgbaaDoor
set_option maxRecDepth 100000
namespace Go.Proofs.YtipjgkapcgpgbaaDoor
namespace SX
open Go
def Digs (l:List Int):Prop:=∀ x∈l,48≤x∧x≤57
theorem code_Y {p:Zc} (hp:SOK p) (n:Nat) (hn:n=6∨n=8):Y (cu p (n:Int)) (fun r=>(∃ l:List Int,r.1=strOfNums l∧l.length=n∧Digs l)∧SOK r.2):=by
 unfold cu
 refine (fc hp 2 (by omega) (by omega)).bind fun a ⟨a1,a2,a3⟩=>?_
 rw [fe (by omega) (by omega),pD (by omega)]
 refine Y.bind (P:=fun t:List Int×List Int×Int=>t.1.length=n∧Digs t.1∧SOK ⟨t.2.1,t.2.2⟩) ?_ fun t ⟨t1,t2,t3⟩=>?_
 ·refine Y.loop (fun s:List Int×List Int×Int=>(s.1.length % 2=0∧s.1.length≤n)∧Digs s.1∧SOK ⟨s.2.1,s.2.2⟩) (fun s=>n - s.1.length) ⟨⟨by simp,by simp;omega⟩,fun x hx=>by simp at hx;omega,a3⟩ (by dsimp only;omega) fun s hs=>?_
  obtain ⟨l,m,i⟩:=s
  obtain ⟨⟨s0,s1⟩,s2,s3⟩:=hs
  dsimp only at s0 s1 s2 s3 ⊢
  refine Y.cond (fun hc=>?_) (fun hc=>Y.ret ⟨by have:=of_decide_eq_false hc;dsimp only;omega,s2,s3⟩)
  have hc:=of_decide_eq_true hc
  refine (fc s3 3 (by omega) (by omega)).bind fun x ⟨x1,x2,x3⟩=>?_
  rw [dT (by simp;omega) (by simp;omega),cy,fe (by omega) (by omega),pD (by omega)]
  refine Y.ret ⟨⟨⟨by simp;omega,by simp;omega⟩,fun z hz=>?_,x3⟩,by simp;omega⟩
  rcases List.mem_append.1 hz with hz | hz
  ·exact s2 z hz
  simp only [List.mem_cons,List.not_mem_nil,or_false] at hz;omega
 obtain ⟨l,m,i⟩:=t
 exact Y.ret ⟨⟨l,rfl,t1,t2⟩,t3⟩
theorem s8 {l:List Int} {n:Nat} (hn:n=6∨n=8) (h1:l.length=n) (h2:Digs l):fW (strOfNums l)=(n:Int)∧(strOfNums l).size=n:=by
 have hs:(strOfNums l).size=n:=by
  unfold strOfNums
  show (Array.mk _).size=n
  simp [h1]
 have hd:gO (strOfNums l)=true:=by
  unfold gO bl strOfNums
  rw [List.all_eq_true]
  intro c hc
  simp only [List.mem_map] at hc
  obtain ⟨x,hx,rfl⟩:=hc
  have:=h2 x hx
  have h3:(UInt8.ofNat x.toNat).toNat=x.toNat:=by
   rw [UInt8.toNat_ofNat'];omega
  simp only [fa,h3,decide_eq_true_eq]
  omega
 refine ⟨?_,hs⟩
 unfold fW
 rw [if_pos ⟨by omega,hd⟩,hs]
def W5:List ByteArray:=[(⟨#[97,110,100]⟩:ByteArray),(⟨#[99,117,116]⟩:ByteArray),(⟨#[111,114]⟩:ByteArray),(⟨#[115,101,119]⟩:ByteArray),(⟨#[115,112,105,110]⟩:ByteArray)]
theorem W5_ok:W5.all s7=true∧nV sZ W5=true∧(W5.all fun s=>decide (s.size≤100))=true:=⟨by kernel_rfl,by kernel_rfl,by kernel_rfl⟩
theorem n8 {p:Zc} (hp:SOK p):Y (bE p) (fun r=>r.1.Sublist W5∧SOK r.2):=by
 unfold bE
 refine (fc hp 32 (by omega) (by omega)).bind fun a ⟨a1,a2,a3⟩=>?_
 refine Y.bind (P:=fun l:List ByteArray=>l.Sublist W5) ?_ fun l hl=>Y.ret ⟨hl,a3⟩
 refine Y.loop (fun s=>∃ v:Nat,s.2=(v:Int)∧v≤5∧s.1.Sublist (W5.take v)) (fun s=>(5 - s.2).toNat) ⟨0,rfl,by omega,List.Sublist.refl _⟩ (by dsimp only;omega) fun s hs=>?_
 obtain ⟨l,i⟩:=s
 obtain ⟨v,rfl,h1,h2⟩:=hs
 dsimp only at h2 ⊢
 have hlen:l.length≤5:=by have:=h2.length_le;have h6:W5.length=5:=rfl;rw [List.length_take] at this;omega
 refine Y.cond (fun hc=>?_) (fun hc=>Y.ret (h2.trans (List.take_sublist _ _)))
 have hv:v<5:=by have:=of_decide_eq_true hc;omega
 have hs:=mC h2 (show v<W5.length from hv)
 refine Y.bind (P:=fun m:List ByteArray=>m.Sublist (W5.take (v+1))) (Y.eq (qc v) (Y.cond (fun _=>?_) fun _=>Y.ret hs.2)) fun m hm=>Y.ret ⟨⟨v+1,?_,by omega,hm⟩,?_⟩
 ·refine Y.idx (xs:=W5) rfl (show v<W5.length from hv) ?_
  rw [dT (by simp;omega) (by simp;omega)];exact Y.ret hs.1
 ·show IntKind.i64.wrap ((v:Int)+1)=_;rw [fe (by omega) (by omega)];omega
 show (5 - IntKind.i64.wrap ((v:Int)+1)).toNat<(5 - (v:Int)).toNat;rw [fe (by omega) (by omega)];omega
theorem codeN {x:Int} (h1:0≤x) (h2:x<2):∃ n:Nat,(n=6∨n=8)∧IntKind.i64.wrap (6+IntKind.i64.wrap (2*x))=(n:Int):=by
 rw [fe (r:=2*x) (by omega) (by omega),fe (by omega) (by omega)]
 exact ⟨(6+2*x).toNat,by omega,by omega⟩
end SX
end Go.Proofs.YtipjgkapcgpgbaaDoor
set_option maxRecDepth 100000
namespace Go.Proofs.YtipjgkapcgpgbaaDoor
namespace SX
open Go
structure MProd (n:Nat) (i:Nat) (p:Za):Prop where
 id:p.ID=3*((i:Int)+1)
 lvl:(fW p.Code=6∨fW p.Code=8)∧6≤p.Code.size∧p.Code.size≤8
 ctr:p.Country∈C6
 price:1≤p.Price∧p.Price≤200
 proc:p.Processes.Sublist W5
 few:p.Inputs.length≤4
 asc:p.Inputs.Pairwise fun a b=>a.Product<b.Product
 inp:∀ x∈p.Inputs,(∃ k:Nat,k<n∧x.Product=3*((k:Int)+1))∧0≤x.Value∧x.Value<100
 obt:p.Obtained=true→p.Inputs=[]
structure MPs (l:List Za):Prop where
 len:1≤l.length∧l.length≤10
 all:∀ (i:Nat) (p:Za),l[i]?=some p→MProd l.length i p
theorem plan_Y (p0:List Int):Y (fT p0) MPs:=by
 unfold fT
 refine (cut_Y p0 300 (by omega) (by omega)).bind fun x1 hx1=>?_
 refine (fc hx1 10 (by omega) (by omega)).bind fun x3 ⟨a1,a2,a3⟩=>?_
 rw [fe (r:=1+x3.1) (by omega) (by omega)]
 obtain ⟨n,hn⟩:∃ n:Nat,1+x3.1=(n:Int):=⟨(1+x3.1).toNat,by omega⟩
 rw [hn]
 have hn1:1≤n∧n≤10:=by omega
 refine Y.bind (P:=MPs) ?_ fun l hl=>Y.ret hl
 refine Y.loop (fun s:List Za×Int×List Int×Int=>(s.2.1=(s.1.length:Int)+1∧s.1.length≤n)∧SOK ⟨s.2.2.1,s.2.2.2⟩∧∀ i p,s.1[i]?=some p→MProd n i p) (fun s=>n - s.1.length) ⟨⟨rfl,by simp⟩,a3,by simp⟩ (by dsimp only;omega) fun s hs=>?_
 obtain ⟨l5,v8,l9,v10⟩:=s
 obtain ⟨⟨h1,h2⟩,h3,h4⟩:=hs
 dsimp only at h1 h2 h3 h4 ⊢
 refine Y.cond (fun hc=>?_) (fun hc=>Y.ret ?_)
 rotate_left
 ·have hc:=of_decide_eq_false hc
  have e:l5.length=n:=by omega
  exact ⟨by omega,by rw [e];exact h4⟩
 have hc:=of_decide_eq_true hc
 refine (fc h3 2 (by omega) (by omega)).bind fun x19 ⟨b1,b2,b3⟩=>?_
 obtain ⟨w,hw,e⟩:=codeN b1 b2
 rw [e]
 refine (code_Y b3 w hw).bind fun x20 ⟨⟨cl,hc1,hc2,hc3⟩,hx20⟩=>?_
 have hcode:=s8 hw hc2 hc3
 refine Y.eq mD ?_
 refine (fc hx20 4 (by omega) (by omega)).bind fun x22 ⟨c1,c2,c3⟩=>?_
 obtain ⟨j,hj⟩:∃ j:Nat,x22.1=(j:Int):=⟨x22.1.toNat,by omega⟩
 refine Y.idx hj (show j<C6.length by have h6:C6.length=6:=rfl;omega) ?_
 refine (fc c3 200 (by omega) (by omega)).bind fun x24 ⟨d1,d2,d3⟩=>?_
 refine (n8 d3).bind fun x25 ⟨hpr,hx25⟩=>?_
 refine (fc hx25 4 (by omega) (by omega)).bind fun x26 ⟨_,_,h26⟩=>?_
 refine (fc h26 1024 (by omega) (by omega)).bind fun x28 ⟨_,_,h28⟩=>?_
 refine Y.bind (P:=fun t:List Int×Int×List Zb=>SOK ⟨t.1,t.2.1⟩∧t.2.2.length≤4∧(t.2.2.Pairwise fun a b=>a.Product<b.Product)∧(∀ x∈t.2.2,(∃ k:Nat,k<n∧x.Product=3*((k:Int)+1))∧0≤x.Value∧x.Value<100)∧((x26.1 == 1)=true→t.2.2=[])) ?_ fun t ⟨t1,t2,t3,t4,t5⟩=>?_
 ·refine Y.loop (fun s:Int×List Int×Int×List Zb=>∃ v:Nat,s.1=(v:Int)+1∧v≤n∧SOK ⟨s.2.1,s.2.2.1⟩∧s.2.2.2.length≤4∧(s.2.2.2.Pairwise fun a b=>a.Product<b.Product)∧(∀ x∈s.2.2.2,(∃ k:Nat,k<v∧x.Product=3*((k:Int)+1))∧0≤x.Value∧x.Value<100)∧((x26.1 == 1)=true→s.2.2.2=[])) (fun s=>(n+1 - s.1).toNat) ⟨0,rfl,by omega,h28,by simp,List.Pairwise.nil,by simp,fun _=>rfl⟩ (by dsimp only;omega) fun s hs=>?_
  obtain ⟨i,l,k,m⟩:=s
  obtain ⟨v,rfl,s1,s2,s3,s4,s5,s6⟩:=hs
  dsimp only at s2 s3 s4 s5 s6 ⊢
  refine Y.cond (fun hc3=>?_) (fun hc3=>Y.ret ⟨s2,s3,s4,fun x hx=>?_,s6⟩)
  rotate_left
  ·obtain ⟨⟨k,h5,h6⟩,h7⟩:=s5 x hx;exact ⟨⟨k,by omega,h6⟩,h7⟩
  simp only [Bool.and_eq_true,decide_eq_true_eq,Bool.not_eq_true'] at hc3
  obtain ⟨⟨hc4,hc5⟩,hc6⟩:=hc3
  rw [fe (r:=(v:Int)+1 - 1) (by omega) (by omega),fe (r:=(v:Int)+1+1) (by omega) (by omega),fe (r:=3*((v:Int)+1)) (by omega) (by omega)]
  refine Y.bind (P:=fun t:List Int×Int×List Zb=>SOK ⟨t.1,t.2.1⟩∧t.2.2.length≤4∧(t.2.2.Pairwise fun a b=>a.Product<b.Product)∧(∀ x∈t.2.2,(∃ k:Nat,k<v+1∧x.Product=3*((k:Int)+1))∧0≤x.Value∧x.Value<100)) ?_ fun t ⟨t1,t2,t3,t4⟩=>Y.ret ⟨⟨v+1,by dsimp only;omega,by omega,t1,t2,t3,t4,fun h=>by rw [hc6] at h;cases h⟩,by dsimp only;omega⟩
  rw [show (v:Int)+1 - 1=(v:Int) by omega]
  refine Y.eq (qc v) ?_
  refine Y.bind (P:=fun r:Int×Zc=>SOK r.2) (Y.gdp (fun _=>(fc s2 3 (by omega) (by omega)).mono fun r hr=>hr.2.2) fun _=>s2) fun x56 hx56=>?_
  refine Y.cond (fun _=>?_) (fun _=>Y.ret ⟨hx56,s3,s4,fun x hx=>?_⟩)
  rotate_left
  ·obtain ⟨⟨k,h5,h6⟩,h7⟩:=s5 x hx;exact ⟨⟨k,by omega,h6⟩,h7⟩
  refine (fc hx56 100 (by omega) (by omega)).bind fun x58 ⟨e1,e2,e3⟩=>?_
  rw [dT (by simp;omega) (by simp;omega),cy]
  refine Y.ret ⟨e3,by simp;omega,?_,fun x hx=>?_⟩
  ·rw [List.pairwise_append]
   refine ⟨s4,List.pairwise_singleton _ _,fun a ha b hb=>?_⟩
   rw [List.mem_singleton.1 hb]
   obtain ⟨⟨k,h5,h6⟩,_⟩:=s5 a ha
   dsimp only;omega
  rcases List.mem_append.1 hx with hx | hx
  ·obtain ⟨⟨k,h5,h6⟩,h7⟩:=s5 x hx;exact ⟨⟨k,by omega,h6⟩,h7⟩
  rw [List.mem_singleton.1 hx];exact ⟨⟨v,by omega,rfl⟩,e1,e2⟩
 obtain ⟨l37,v38,l42⟩:=t
 dsimp only at t1 t2 t3 t4 t5 ⊢
 rw [dT (by simp;omega) (by simp;omega),cy,fe (r:=v8+1) (by omega) (by omega),fe (r:=1+x24.1) (by omega) (by omega),fe (r:=3*v8) (by omega) (by omega)]
 refine Y.ret ⟨⟨⟨by simp;omega,by simp;omega⟩,t1,fun i p hp=>?_⟩,by simp;omega⟩
 rw [List.getElem?_append] at hp
 split at hp
 ·exact h4 i p hp
 rename_i hi
 have hi0:i - l5.length=0:=by have:=(List.getElem?_eq_some_iff.1 hp).1;simp at this;omega
 rw [hi0] at hp
 simp only [List.getElem?_cons_zero,bF] at hp
 subst hp
 refine ⟨by dsimp only;omega,?_,List.getElem_mem _,⟨by dsimp only;omega,by dsimp only;omega⟩,hpr,t2,t3,t4,t5⟩
 dsimp only;rw [hc1,hcode.1,hcode.2];omega
structure Sorted (l:List Za):Prop where
 len:l.length≤1000000
 asc:l.Pairwise fun a b=>a.ID<b.ID
 small:∀ p∈l,p.Processes.length≤1000000∧p.Inputs.length≤1000000
def em (l:List Za) (id:Int):Option Za:=l.find? fun p=>p.ID == id
theorem half_u (x:Nat) (h:x≤10000000):IntKind.i64.wrap (gu .u64 (IntKind.u64.wrap (IntKind.i64.wrap (x:Int))) 1)=((x / 2:Nat):Int):=by
 rw [fe (r:=(x:Int)) (by omega) (by omega),u64s (by omega) (by omega)]
 have:gu .u64 (x:Int) 1=(x:Int) / 2:=Int.fdiv_eq_ediv_of_nonneg _ (by decide)
 rw [this,fe (by omega) (by omega)];omega
theorem qQ (l:List Za) (id:Int) (h:Sorted l):∃ j:Nat,cd l id=some ((j:Int),(em l id).isSome)∧(∀ p,em l id=some p→∃ hj:j<l.length,l[j]=p):=by
 have hl:=h.len
 have cmp:∀ p:Za,bC p id=some (if p.ID<id then -1 else if id<p.ID then 1 else 0):=fun p=>by unfold bC;rw [cmpI];rfl
 unfold cd az
 have hloop:Y (aT (S:=Int×Int) (T:=(Int)) (fun (v1,v2)=>cond (decide (v1<v2)) (lb ((IntKind.i64.wrap (gu .u64 (IntKind.u64.wrap (IntKind.i64.wrap (v1+v2))) 1))) (fun w8=>Option.bind (idx l w8) (fun m9=>Option.bind (bC m9 id) (fun x10=>cond (decide (x10<0)) (some (.inl ((IntKind.i64.wrap (w8+1)),v2))) (some (.inl (v1,w8))))))) (some (.inr v1))) FUEL (0,(l.length:Int))) (fun t=>∃ j:Nat,t=(j:Int)∧j≤l.length∧(∀ (k:Nat) (p:Za),l[k]?=some p→k<j→p.ID<id)∧(∀ (k:Nat) (p:Za),l[k]?=some p→j≤k→id≤p.ID)):=by
  refine Y.loop (fun s:Int×Int=>∃ i j:Nat,s.1=(i:Int)∧s.2=(j:Int)∧i≤j∧j≤l.length∧(∀ (k:Nat) (p:Za),l[k]?=some p→k<i→p.ID<id)∧(∀ (k:Nat) (p:Za),l[k]?=some p→j≤k→id≤p.ID)) (fun s=>(s.2 - s.1).toNat) ⟨0,l.length,rfl,rfl,by omega,by omega,fun k p _ hk=>absurd hk (Nat.not_lt_zero _),fun k p hp hk=>by have:=(List.getElem?_eq_some_iff.1 hp).1;omega⟩ (by dsimp only;omega) fun s hs=>?_
  obtain ⟨a,b⟩:=s
  obtain ⟨i,j,rfl,rfl,h1,h2,h3,h4⟩:=hs
  dsimp only
  refine Y.cond (fun hc=>?_) (fun hc=>Y.ret ⟨i,rfl,by omega,h3,fun k p hp hk=>h4 k p hp (by have:=of_decide_eq_false hc;omega)⟩)
  have hc:i<j:=by have:=of_decide_eq_true hc;omega
  unfold lb
  rw [show (i:Int)+(j:Int)=((i+j:Nat):Int) by omega,half_u _ (by omega)]
  have hm:(i+j) / 2<l.length:=by omega
  have pw:=List.pairwise_iff_getElem.1 h.asc
  refine Y.idx rfl hm (Y.eq (cmp _) ?_)
  by_cases hlt:l[(i+j) / 2].ID<id
  ·rw [if_pos hlt]
   refine Y.ret ⟨⟨(i+j) / 2+1,j,?_,rfl,by omega,h2,fun k p hp hk=>?_,h4⟩,?_⟩
   ·show IntKind.i64.wrap _=_;rw [fe (by omega) (by omega)];omega
   ·obtain ⟨hk2,rfl⟩:=List.getElem?_eq_some_iff.1 hp
    rcases Nat.lt_or_ge k ((i+j) / 2) with h5 | h5
    ·have:=pw k ((i+j) / 2) hk2 hm h5;omega
    have e:k=(i+j) / 2:=by omega
    subst e;exact hlt
   show ((j:Int) - IntKind.i64.wrap _).toNat<_;rw [fe (by omega) (by omega)];omega
  rw [if_neg hlt]
  have hd:decide ((if id<l[(i+j) / 2].ID then (1:Int) else 0)<0)=false:=by split <;> rfl
  rw [hd]
  refine Y.ret ⟨⟨i,(i+j) / 2,rfl,rfl,by omega,by omega,h3,fun k p hp hk=>?_⟩,by dsimp only;omega⟩
  obtain ⟨hk2,rfl⟩:=List.getElem?_eq_some_iff.1 hp
  rcases Nat.lt_or_ge ((i+j) / 2) k with h5 | h5
  ·have:=pw ((i+j) / 2) k hm hk2 h5;omega
  have e:k=(i+j) / 2:=by omega
  subst e;omega
 obtain ⟨t2,e,j,hj,h1,h2,h3⟩:=hloop
 subst hj
 rw [e]
 simp only [cy]
 by_cases hjl:j<l.length
 ·rw [det (show (j:Int)<(l.length:Int) by omega),gt,bd hjl,cy,gt,cmp,cy]
  have h4:=h3 j _ (List.getElem?_eq_getElem hjl) (Nat.le_refl _)
  rw [if_neg (by omega)]
  by_cases heq:id<l[j].ID
  ·have hn:em l id=none:=by
    unfold em;rw [List.find?_eq_none]
    intro p hp
    obtain ⟨k,hk,rfl⟩:=List.getElem_of_mem hp
    have:l[k].ID≠id:=by
     rcases Nat.lt_or_ge k j with h5 | h5
     ·have:=h2 k _ (List.getElem?_eq_getElem hk) h5;omega
     rcases Nat.lt_or_ge j k with h6 | h6
     ·have:=List.pairwise_iff_getElem.1 h.asc j k hjl hk h6;omega
     have e:k=j:=by omega
     subst e;omega
    simpa using this
   rw [if_pos heq,hn];exact ⟨j,rfl,fun p hp=>by cases hp⟩
  ·have hid:l[j].ID=id:=by omega
   have hs:em l id=some l[j]:=by
    unfold em
    rw [List.find?_eq_some_iff_getElem]
    refine ⟨by simpa using hid,j,hjl,rfl,fun k hk=>?_⟩
    have:=h2 k _ (List.getElem?_eq_getElem (by omega)) hk
    have:l[k].ID≠id:=by omega
    simpa using this
   rw [if_neg heq,hs];exact ⟨j,rfl,fun p hp=>by injection hp with hp;exact ⟨hjl,hp⟩⟩
 rw [oA (show ¬ (j:Int)<(l.length:Int) by omega),hT,cy,hT,cy]
 have hn:em l id=none:=by
  unfold em;rw [List.find?_eq_none]
  intro p hp
  obtain ⟨k,hk,rfl⟩:=List.getElem_of_mem hp
  have:=h2 k _ (List.getElem?_eq_getElem hk) (by omega)
  have:l[k].ID≠id:=by omega
  simpa using this
 rw [hn];exact ⟨j,rfl,fun p hp=>by cases hp⟩
theorem MPs.sorted {l:List Za} (h:MPs l):Sorted l:=by
 refine ⟨by have:=h.len;omega,?_,fun p hp=>?_⟩
 ·rw [List.pairwise_iff_getElem]
  intro i j hi hj hij
  have h1:=(h.all i _ (List.getElem?_eq_getElem hi)).id
  have h2:=(h.all j _ (List.getElem?_eq_getElem hj)).id
  omega
 obtain ⟨i,hi,rfl⟩:=List.getElem_of_mem hp
 have hm:=h.all i _ (List.getElem?_eq_getElem hi)
 have h1:=hm.proc.length_le;have h2:=hm.few;have h6:W5.length=5:=rfl
 omega
end SX
end Go.Proofs.YtipjgkapcgpgbaaDoor
set_option maxRecDepth 100000
set_option linter.unusedSectionVars false
namespace Go.Proofs.YtipjgkapcgpgbaaDoor
namespace SX
open Go
section
variable {α:Type} [DecidableEq α]
variable {lt:α→α→Bool}
def Strict (lt:α→α→Bool) (l:List α):Prop:=l.Pairwise fun a b=>lt a b=true
end
section
variable {α:Type} [DecidableEq α]
end
end SX
end Go.Proofs.YtipjgkapcgpgbaaDoor
set_option maxRecDepth 100000
namespace Go.Proofs.YtipjgkapcgpgbaaDoor
namespace SX
open Go
structure VProd (l:List Za) (p:Za):Prop where
 price:1≤p.Price∧p.Price≤1000000000000
 lvl:6≤fW p.Code
 ctr:ctry p.Country=true
 proc:kD p.Processes=true
 few:p.Inputs.length≤8
 asc:p.Inputs.Pairwise fun a b=>a.Product<b.Product
 inp:∀ x∈p.Inputs,(em l x.Product).isSome=true∧0≤x.Value∧x.Value≤1000000000000
 obt:p.Obtained=true→p.Inputs=[]
structure VPs (l:List Za):Prop where
 len:l.length≤64
 asc:l.Pairwise fun a b=>a.ID<b.ID
 all:∀ p∈l,VProd l p
theorem mE {l:List ByteArray} (h:kD l=true):l.length≤8∧(∀ s∈l,s7 s=true)∧Strict sZ l:=by
 unfold kD at h
 simp only [Bool.and_eq_true,decide_eq_true_eq] at h
 exact ⟨h.1,fun s hs=>List.all_eq_true.1 h.2.1 s hs,(iD _).1 h.2.2⟩
theorem VPs.sorted {l:List Za} (h:VPs l):Sorted l:=⟨by have:=h.len;omega,h.asc,fun p hp=>by have h1:=(mE (h.all p hp).proc).1;have h2:=(h.all p hp).few;omega⟩
theorem eT {l:List Za} {id:Int} {p:Za} (h:em l id=some p):p∈l∧p.ID=id:=⟨List.mem_of_find?_eq_some h,by have:=List.find?_some h;simpa using this⟩
end SX
end Go.Proofs.YtipjgkapcgpgbaaDoor
set_option maxRecDepth 100000
namespace Go.Proofs.YtipjgkapcgpgbaaDoor
namespace SX
open Go
theorem C6_ctry {s:ByteArray} (h:s∈C6):ctry s=true:=List.all_eq_true.1 C6_ok.1 s h
theorem W5_words {l:List ByteArray} (h:l.Sublist W5):kD l=true:=by
 unfold kD
 have h1:=h.length_le
 have h5:W5.length=5:=rfl
 simp only [Bool.and_eq_true,decide_eq_true_eq]
 exact ⟨by omega,List.all_eq_true.2 fun s hs=>List.all_eq_true.1 W5_ok.1 s (h.subset hs),(iD _).2 (List.Pairwise.sublist h ((iD _).1 W5_ok.2.1))⟩
theorem MPs.found {l:List Za} (h:MPs l) {k:Nat} (hk:k<l.length):(em l (3*((k:Int)+1))).isSome=true:=by
 unfold em
 rw [List.find?_isSome]
 exact ⟨l[k],List.getElem_mem hk,by have:=(h.all k _ (List.getElem?_eq_getElem hk)).id;simpa using this⟩
theorem MPs.vps {l:List Za} (h:MPs l):VPs l:=by
 refine ⟨by have:=h.len;omega,h.sorted.asc,fun p hp=>?_⟩
 obtain ⟨i,hi,rfl⟩:=List.getElem_of_mem hp
 have hm:=h.all i _ (List.getElem?_eq_getElem hi)
 refine ⟨by have:=hm.price;omega,by have:=hm.lvl.1;omega,C6_ctry hm.ctr,W5_words hm.proc,by have:=hm.few;omega,hm.asc,fun x hx=>?_,hm.obt⟩
 obtain ⟨⟨k,hk,e⟩,h1,h2⟩:=hm.inp x hx
 exact ⟨by rw [e];exact h.found hk,h1,by omega⟩
end SX
end Go.Proofs.YtipjgkapcgpgbaaDoor
set_option maxRecDepth 100000
namespace Go.Proofs.YtipjgkapcgpgbaaDoor
namespace SX
open Go
theorem mF {α:Type} {f:α→Int} {l:List α} (h:l.Pairwise fun a b=>f a<f b) {a b:α} (ha:a∈l) (hb:b∈l) (e:f a=f b):a=b:=by
 induction l with
 | nil=>cases ha
 | cons x l ih =>
  obtain ⟨h1,h2⟩:=List.pairwise_cons.1 h
  rcases List.mem_cons.1 ha with e1 | ha'
  ·rcases List.mem_cons.1 hb with e2 | hb'
   ·rw [e1,e2]
   have:=h1 b hb';rw [← e1] at this;omega
  rcases List.mem_cons.1 hb with e2 | hb'
  ·have:=h1 a ha';rw [← e2] at this;omega
  exact ih h2 ha' hb'
end SX
end Go.Proofs.YtipjgkapcgpgbaaDoor
set_option maxRecDepth 100000
namespace Go.Proofs.YtipjgkapcgpgbaaDoor
namespace SX
open Go
structure VIds (l:List Za):Prop where
 id:∀ p∈l,1≤p.ID∧p.ID≤1000000
 lvl:∀ p∈l,fW p.Code=6∨fW p.Code=8
theorem MPs.vids {l:List Za} (h:MPs l):VIds l:=by
 have hlen:=h.len
 refine ⟨fun p hp=>?_,fun p hp=>?_⟩
 ·obtain ⟨i,hi,rfl⟩:=List.getElem_of_mem hp
  have:=(h.all i _ (List.getElem?_eq_getElem hi)).id;omega
 obtain ⟨i,hi,rfl⟩:=List.getElem_of_mem hp
 exact (h.all i _ (List.getElem?_eq_getElem hi)).lvl.1
end SX
end Go.Proofs.YtipjgkapcgpgbaaDoor
set_option maxRecDepth 100000
namespace Go.Proofs.YtipjgkapcgpgbaaDoor
namespace SX
open Go
end SX
end Go.Proofs.YtipjgkapcgpgbaaDoor
set_option maxRecDepth 100000
namespace Go.Proofs.YtipjgkapcgpgbaaDoor
namespace SX
open Go
end SX
end Go.Proofs.YtipjgkapcgpgbaaDoor
set_option maxRecDepth 100000
namespace Go.Proofs.YtipjgkapcgpgbaaDoor
namespace SX
open Go
structure POk (p:Za):Prop where
 code:p.Code.size≤140737488355328
 proc:StrsOk p.Processes
 len:p.Inputs.length≤140737488355328
structure PSOk (l:List Za):Prop where
 len:l.length≤140737488355328
 all:∀ p∈l,POk p
end SX
end Go.Proofs.YtipjgkapcgpgbaaDoor
set_option maxRecDepth 100000
namespace Go.Proofs.YtipjgkapcgpgbaaDoor
namespace SX
open Go
end SX
end Go.Proofs.YtipjgkapcgpgbaaDoor
set_option maxRecDepth 100000
namespace Go.Proofs.YtipjgkapcgpgbaaDoor
namespace SX
open Go
end SX
end Go.Proofs.YtipjgkapcgpgbaaDoor
namespace Go.Proofs.YtipjgkapcgpgbaaDoor
namespace SX
open Go
def qR (id pid:Int) (acc:List Int) (x:Zb):List Int:=cond (x.Product == id) (acc++[pid]) acc
theorem qd (id pid:Int):∀ (l:List Zb) (acc:List Int) (n:Int),n∈l.foldl (qR id pid) acc↔n∈acc∨(n=pid∧∃ x∈l,x.Product=id)
 | [],acc,n=>by simp
 | x::l,acc,n=>by
  rw [List.foldl_cons,qd id pid l]
  unfold qR
  cases h:(x.Product == id)
  ·have h:¬ x.Product=id:=by simpa using h
   simp only [eo,List.mem_cons]
   constructor
   ·rintro (h1 | ⟨h1,y,hy,e⟩)
    ·exact .inl h1
    exact .inr ⟨h1,y,.inr hy,e⟩
   rintro (h1 | ⟨h1,y,rfl | hy,e⟩)
   ·exact .inl h1
   ·exact absurd e h
   exact .inr ⟨h1,y,hy,e⟩
  have h:x.Product=id:=by simpa using h
  simp only [cR,List.mem_append,List.mem_cons,List.not_mem_nil,or_false]
  constructor
  ·rintro ((h1 | h1) | ⟨h1,y,hy,e⟩)
   ·exact .inl h1
   ·exact .inr ⟨h1,x,.inl rfl,h⟩
   exact .inr ⟨h1,y,.inr hy,e⟩
  rintro (h1 | ⟨h1,y,rfl | hy,e⟩)
  ·exact .inl (.inl h1)
  ·exact .inl (.inr h1)
  exact .inr ⟨h1,y,hy,e⟩
theorem qe (id pid:Int):∀ (l:List Zb) (acc:List Int),(l.foldl (qR id pid) acc).length≤acc.length+l.length
 | [],acc=>by simp
 | x::l,acc=>by
  rw [List.foldl_cons]
  have:=qe id pid l (qR id pid acc x)
  have h2:(qR id pid acc x).length≤acc.length+1:=by unfold qR;cases (x.Product == id) <;> simp
  rw [List.length_cons];omega
def bT (plan:List Za) (id:Int):List Int:=plan.foldl (fun acc p=>p.Inputs.foldl (qR id p.ID) acc) []
theorem kF (plan:List Za) (id n:Int):n∈bT plan id↔∃ p∈plan,n=p.ID∧∃ x∈p.Inputs,x.Product=id:=by
 have key:∀ (l:List Za) (acc:List Int),n∈l.foldl (fun acc p=>p.Inputs.foldl (qR id p.ID) acc) acc↔n∈acc∨∃ p∈l,n=p.ID∧∃ x∈p.Inputs,x.Product=id:=by
  intro l
  induction l with
  | nil=>intro acc;simp
  | cons p l ih =>
   intro acc
   rw [List.foldl_cons,ih,qd]
   simp only [List.mem_cons]
   constructor
   ·rintro ((h | h) | ⟨q,hq,h⟩)
    ·exact .inl h
    ·exact .inr ⟨p,.inl rfl,h⟩
    exact .inr ⟨q,.inr hq,h⟩
   rintro (h | ⟨q,rfl | hq,h⟩)
   ·exact .inl (.inl h)
   ·exact .inl (.inr h)
   exact .inr ⟨q,hq,h⟩
 have:=key plan []
 unfold bT;rw [this];simp
theorem lA {plan:List Za} (hv:VPs plan) (id:Int):fm plan id=some (bT plan id)∧(bT plan id).length≤1000:=by
 have hlen:=hv.len
 unfold fm
 have main:=eR (β:=List Int) (l:=plan) (by omega) (body:=fun (l2,v5)=>cond (decide (v5<(plan.length:Int))) (Option.bind (aT (S:=(List Int)×Int) (T:=((List Int))) (fun (l15,v18)=>Option.bind (idx plan v5) (fun m25=>cond (decide (v18<(m25.Inputs.length:Int))) (Option.bind (Option.bind (idx plan v5) (fun m32=>Option.bind (idx m32.Inputs v18) (fun m33=>cond (m33.Product == id) (Option.bind (idx plan v5) (fun m35=>Option.bind (app 8 l15 [m35.ID]) (fun l38=>some l38))) (some l15)))) (fun l30=>some (.inl (l30,(IntKind.i64.wrap (v18+1)))))) (some (.inr l15)))) FUEL (l2,0)) (fun l22=>some (.inl (l22,(IntKind.i64.wrap (v5+1)))))) (some (.inr l2))) (k:=fun l9=>some l9)
  (fun i (s:List Int)=>(s,i)) (fun acc p=>p.Inputs.foldl (qR id p.ID) acc) (fun s=>s) (fun k s=>s.length≤8*k) [] (by simp) (fun k hk s hs=>?_) (fun s _=>by simp only [fN,eo])
 ·exact ⟨main.1,by have:=main.2;unfold bT;omega⟩
 have hf:=(hv.all _ (List.getElem_mem hk)).few
 have h8:=qe id plan[k].ID plan[k].Inputs s
 refine ⟨?_,by omega⟩
 simp only [lv hk,cR,bd hk,cy,cN hk (show plan.length≤4611686018427387904 by omega)]
 refine (eR (l:=plan[k].Inputs) (by omega) (fun i (s:List Int)=>(s,i)) (qR id plan[k].ID) (fun s=>s) (fun j t=>t.length≤8*k+j) s (by omega) (fun j hj t ht=>?_) (fun t _=>by simp only [fN,eo])).1
 have hu:(qR id plan[k].ID t plan[k].Inputs[j]).length≤t.length+1:=by unfold qR;cases (plan[k].Inputs[j].Product == id) <;> simp
 refine ⟨?_,by omega⟩
 simp only [lv hj,cR,bd hj,cy,cN hj (show plan[k].Inputs.length≤4611686018427387904 by omega)]
 unfold qR
 cases (plan[k].Inputs[j].Product == id)
 ·rfl
 simp only [cR]
 rw [dT (by simp;omega) (by simp;omega)];rfl
def iE (plan:List Za) (id:Int) (r:List Bool) (m:Nat) (u:List Int):Bool:=match plan[m]? with
 | none=>false
 | some p=>((p.ID == id)||r.getD m false)&&u.any fun x=>x == p.ID
def ex (r:List Bool):Nat:=(r.filter fun b => !b).length
theorem kG:∀ (r:List Bool) (i:Nat),r[i]?=some false→ex (r.set i true)<ex r
 | b::r,0,h=>by simp at h;subst h;simp [ex]
 | b::r,i+1,h=>by
  have:=kG r i (by simpa using h)
  unfold ex at this ⊢
  cases b <;> simp [List.filter_cons] <;> omega
theorem pj (l:List Int) (n:Int) (hl:l.length≤140737488355328):dc l n=some (l.any fun x=>x == n):=by
 unfold dc
 refine (dU (l:=l) (by omega) (fun _ x=>cond (x == n) (some (.inr true)) none) (.inl ()) (fun k hk=>?_) (by simp only [fN,eo])).trans ?_
 ·simp only [lv hk,cR,bd hk,cy,cN hk (show l.length≤4611686018427387904 by omega)]
  cases (l[k] == n) <;> rfl
 rw [i0 (fun x=>x == n)]
 cases (l.any fun x=>x == n) <;> rfl
theorem i4 (l:List Int) (n:Int) (hl:l.length≤140737488355328):cP l n=some (l.any fun x=>x == n):=by
 unfold cP
 refine (dU (l:=l) (by omega) (fun _ x=>cond (x == n) (some (.inr true)) none) (.inl ()) (fun k hk=>?_) (by simp only [fN,eo])).trans ?_
 ·simp only [lv hk,cR,bd hk,cy,cN hk (show l.length≤4611686018427387904 by omega)]
  cases (l[k] == n) <;> rfl
 rw [i0 (fun x=>x == n)]
 cases (l.any fun x=>x == n) <;> rfl
def Nd (plan:List Za) (a b:Int):Prop:=∃ p∈plan,p.ID=a∧∃ x∈p.Inputs,x.Product=b
inductive Ze (plan:List Za) (a:Int):Int→Prop
 | one {b:Int}:Nd plan a b→Ze plan a b
 | step {b c:Int}:Ze plan a b→Nd plan b c→Ze plan a c
structure RS (plan:List Za) (id:Int) (r:List Int):Prop where
 asc:r.Pairwise (· < ·)
 mem:∀ n,n∈r↔Ze plan id n
theorem n9 {r s:List Int} (h1:r.Pairwise (· < ·)) (h2:s.Pairwise (· < ·)) (h:∀ n,n∈r↔n∈s):r=s :=
 List.Perm.eq_of_pairwise (le:=fun a b:Int=>a<b) (fun a b _ _ h1 h2=>by omega) h1 h2 ((List.perm_ext_iff_of_nodup (h1.imp fun h e=>by omega) (h2.imp fun h e=>by omega)).2 h)
theorem RS.uniq {plan:List Za} {id:Int} {r s:List Int} (h1:RS plan id r) (h2:RS plan id s):r=s:=n9 h1.asc h2.asc fun n=>(h1.mem n).trans (h2.mem n).symm
def Snd (plan:List Za) (id:Int) (r:List Bool):Prop:=∀ i p,plan[i]?=some p→r.getD i false=true→Ze plan id p.ID
theorem Snd.hit {plan:List Za} {id:Int} {r:List Bool} (h:Snd plan id r) {m:Nat} {b:Int} (hh:iE plan id r m (bT plan b)=true):Ze plan id b:=by
 unfold iE at hh
 cases hm:plan[m]? with
 | none=>rw [hm] at hh;cases hh
 | some q =>
  rw [hm] at hh
  simp only [Bool.and_eq_true,Bool.or_eq_true,List.any_eq_true] at hh
  obtain ⟨h1,u,hu,e⟩:=hh
  have e:u=q.ID:=by simpa using e
  subst e
  obtain ⟨p,hp,e1,hx⟩:=(kF _ _ _).1 hu
  have hnd:Nd plan q.ID b:=⟨p,hp,e1.symm,hx⟩
  rcases h1 with h1 | h1
  ·have:q.ID=id:=by simpa using h1
   rw [← this];exact .one hnd
  exact .step (h m q hm h1) hnd
theorem Snd.set {plan:List Za} {id:Int} {r:List Bool} (h:Snd plan id r) {k:Nat} (hk:k<plan.length) (ht:Ze plan id plan[k].ID):Snd plan id (r.set k true):=fun i p hp hr=>by
 rcases Nat.lt_trichotomy i k with h1 | h1 | h1
 ·rw [List.getD_eq_getElem?_getD,List.getElem?_set_ne (by omega)] at hr;exact h i p hp (by rw [List.getD_eq_getElem?_getD];exact hr)
 ·subst h1;rw [List.getElem?_eq_getElem hk] at hp;injection hp with hp;subst hp;exact ht
 rw [List.getD_eq_getElem?_getD,List.getElem?_set_ne (by omega)] at hr;exact h i p hp (by rw [List.getD_eq_getElem?_getD];exact hr)
structure PassI (plan:List Za) (id:Int) (r:List Bool) (k:Nat) (r':List Bool) (ag:Bool):Prop where
 len:r'.length=plan.length
 le:k≤plan.length
 no:ag=false→r'=r∧∀ i,i<k→∀ p,plan[i]?=some p→r.getD i false=true∨∀ m,iE plan id r m (bT plan p.ID)=false
 yes:ag=true→ex r'<ex r
 snd:Snd plan id r'
theorem pl {plan:List Za} (hv:VPs plan) (id:Int) (r:List Bool) (hr:r.length=plan.length) (hS:Snd plan id r) :
    Y (aT (S:=(List Bool)×Bool×Int) (T:=((List Bool)×Bool)) (fun (l13,v14,v15)=>cond (decide (v15<(plan.length:Int))) (Option.bind (idx plan v15) (fun m22=>Option.bind (fm plan m22.ID) (fun x23=>Option.bind (aT (S:=(List Bool)×Bool×Int) (T:=((List Bool)×Bool)) (fun (l25,v26,v27)=>Option.bind (gd (decide (v27<(plan.length:Int))) (idx l25 v15)) (fun m33=>cond ((decide (v27<(plan.length:Int)))&&(!m33)) (Option.bind (Option.bind (idx plan v27) (fun m39=>Option.bind (gd (!(m39.ID == id)) (idx l25 v27)) (fun m40=>Option.bind (gd ((m39.ID == id)||m40) (idx plan v27)) (fun m41=>Option.bind (gd ((m39.ID == id)||m40) (dc x23 m41.ID)) (fun x42=>cond (((m39.ID == id)||m40)&&x42) (Option.bind (idx l25 v15) (fun m44=>some ((l25.set v15.toNat true),true))) (some (l25,v26))))))) (fun (l36,v37)=>some (.inl (l36,v37,(IntKind.i64.wrap (v27+1)))))) (some (.inr (l25,v26))))) FUEL (l13,v14,0)) (fun (l29,v30)=>some (.inl (l29,v30,(IntKind.i64.wrap (v15+1)))))))) (some (.inr (l13,v14)))) FUEL (r,false,0)) (fun t=>PassI plan id r plan.length t.1 t.2):=by
  have hlen:=hv.len
  refine Y.loop (fun s:List Bool×Bool×Int=>∃ k:Nat,s.2.2=(k:Int)∧PassI plan id r k s.1 s.2.1) (fun s=>(plan.length - s.2.2).toNat) ⟨0,rfl,hr,by omega,fun _=>⟨rfl,fun i h=>by omega⟩,fun h=>(by cases h),hS⟩ (by show ((plan.length:Int) - 0).toNat≤_;omega) (fun s hs=>?_)
  obtain ⟨r1,ag,v⟩:=s
  obtain ⟨k,hvk,hI⟩:=hs
  dsimp only at hvk hI ⊢
  subst hvk
  rcases Nat.lt_or_ge k plan.length with hk | hk
  rotate_left
  · have e:k=plan.length:=by have:=hI.le;omega
    subst e
    rw [fN,eo]
    exact Y.ret hI
  rw [lv hk,cR,bd hk,cy,(lA hv plan[k].ID).1,cy]
  have hU:=(lA hv plan[k].ID).2
  have hk1:k<r1.length:=by rw [hI.len];exact hk
  have inner:Y (aT (S:=(List Bool)×Bool×Int) (T:=((List Bool)×Bool)) (fun (l25,v26,v27)=>Option.bind (gd (decide (v27<(plan.length:Int))) (idx l25 (k:Int))) (fun m33=>cond ((decide (v27<(plan.length:Int)))&&(!m33)) (Option.bind (Option.bind (idx plan v27) (fun m39=>Option.bind (gd (!(m39.ID == id)) (idx l25 v27)) (fun m40=>Option.bind (gd ((m39.ID == id)||m40) (idx plan v27)) (fun m41=>Option.bind (gd ((m39.ID == id)||m40) (dc (bT plan plan[k].ID) m41.ID)) (fun x42=>cond (((m39.ID == id)||m40)&&x42) (Option.bind (idx l25 (k:Int)) (fun m44=>some ((l25.set (k:Int).toNat true),true))) (some (l25,v26))))))) (fun (l36,v37)=>some (.inl (l36,v37,(IntKind.i64.wrap (v27+1)))))) (some (.inr (l25,v26))))) FUEL (r1,ag,0)) (fun t=>(t.1=r1∧t.2=ag∧(r1.getD k false=true∨∀ m,iE plan id r1 m (bT plan plan[k].ID)=false))∨(t.1=r1.set k true∧t.2=true∧r1[k]?=some false∧Ze plan id plan[k].ID)):=by
    refine Y.loop (fun s:List Bool×Bool×Int=>∃ j:Nat,s.2.2=(j:Int)∧j≤plan.length∧((s.1=r1∧s.2.1=ag∧∀ m,m<j→iE plan id r1 m (bT plan plan[k].ID)=false)∨(s.1=r1.set k true∧s.2.1=true∧r1[k]?=some false∧Ze plan id plan[k].ID))) (fun s=>(plan.length - s.2.2).toNat) ⟨0,rfl,by omega,.inl ⟨rfl,rfl,fun m h=>by omega⟩⟩ (by show ((plan.length:Int) - 0).toNat≤_;omega) (fun s hs=>?_)
    obtain ⟨r2,ag2,v2⟩:=s
    obtain ⟨j,hvj,hj,hJ⟩:=hs
    dsimp only at hvj hJ ⊢
    subst hvj
    have hr2:r2.length=r1.length:=by rcases hJ with ⟨rfl,_⟩ | ⟨rfl,_⟩ <;> simp
    have hk2:k<r2.length:=by omega
    rcases Nat.lt_or_ge j plan.length with hjl | hjl
    rotate_left
    · have e:j=plan.length:=by omega
      subst e
      rw [fN,hT,cy]
      simp only [Bool.false_and,eo]
      refine Y.ret ?_
      rcases hJ with ⟨h1,h2,h3⟩ | h
      · refine .inl ⟨h1,h2,.inr fun m=>?_⟩
        rcases Nat.lt_or_ge m plan.length with hm | hm
        · exact h3 m hm
        unfold iE;rw [List.getElem?_eq_none hm]
      exact .inr h
    rw [lv hjl,gt,bd hk2,cy,Bool.true_and]
    cases hb:r2[k] with
    | true =>
      simp only [Bool.not_true,eo]
      refine Y.ret ?_
      rcases hJ with ⟨h1,h2,h3⟩ | h
      · subst h1
        exact .inl ⟨rfl,h2,.inl (by rw [List.getD_eq_getElem?_getD,List.getElem?_eq_getElem hk2,hb];rfl)⟩
      · exact .inr h
    | false =>
      simp only [Bool.not_false,cR]
      rcases hJ with ⟨h1,h2,h3⟩ | ⟨h1,_⟩
      rotate_left
      · subst h1;simp at hb
      subst h1;subst h2
      have hj2:j<r2.length:=by have:=hI.len;omega
      rw [bd hjl,cy]
      have hin:dc (bT plan plan[k].ID) plan[j].ID=some ((bT plan plan[k].ID).any fun x=>x == plan[j].ID):=pj _ _ (by omega)
      have hget:r2.getD j false=r2[j]:=by rw [List.getD_eq_getElem?_getD,List.getElem?_eq_getElem hj2];rfl
      have hhit:iE plan id r2 j (bT plan plan[k].ID)=(((plan[j].ID == id)||r2[j])&&(bT plan plan[k].ID).any fun x=>x == plan[j].ID):=by unfold iE;rw [List.getElem?_eq_getElem hjl];dsimp only;rw [hget]
      have body:Y (Option.bind (gd (!(plan[j].ID == id)) (idx r2 (j:Int))) (fun m40=>Option.bind (gd ((plan[j].ID == id)||m40) (some plan[j])) (fun m41=>Option.bind (gd ((plan[j].ID == id)||m40) (dc (bT plan plan[k].ID) m41.ID)) (fun x42=>cond (((plan[j].ID == id)||m40)&&x42) (Option.bind (some false) (fun m44=>some ((r2.set (k:Int).toNat true),true))) (some (r2,ag2)))))) (fun t=>(t=(r2,ag2)∧iE plan id r2 j (bT plan plan[k].ID)=false)∨(t=(r2.set k true,true)∧iE plan id r2 j (bT plan plan[k].ID)=true)):=by
        rw [hhit,bd hj2]
        cases h1:(plan[j].ID == id)
        · simp only [Bool.not_false,gt,cy,Bool.false_or]
          cases h2:r2[j]
          · simp only [hT,cy,Bool.false_and,eo];exact Y.ret (.inl ⟨rfl,trivial⟩)
          simp only [gt,cy,hin,Bool.true_and]
          cases h3:((bT plan plan[k].ID).any fun x=>x == plan[j].ID)
          · exact Y.ret (.inl ⟨rfl,rfl⟩)
          exact Y.ret (.inr ⟨rfl,rfl⟩)
        simp only [Bool.not_true,hT,cy,Bool.true_or,gt,hin,Bool.true_and]
        cases h3:((bT plan plan[k].ID).any fun x=>x == plan[j].ID)
        · exact Y.ret (.inl ⟨rfl,rfl⟩)
        exact Y.ret (.inr ⟨rfl,rfl⟩)
      refine Y.bind body fun t ht=>Y.ret ⟨⟨j+1,?_,by omega,?_⟩,?_⟩
      · show IntKind.i64.wrap ((j:Int)+1)=_;rw [cN hjl (by omega)]
      · rcases ht with ⟨rfl,h⟩ | ⟨rfl,hh⟩
        · refine .inl ⟨rfl,rfl,fun m hm=>?_⟩
          rcases Nat.lt_or_ge m j with h4 | h4
          · exact h3 m h4
          have:m=j:=by omega
          subst this;exact h
        exact .inr ⟨rfl,rfl,by rw [List.getElem?_eq_getElem hk2,hb],hI.snd.hit hh⟩
      show ((plan.length:Int) - IntKind.i64.wrap ((j:Int)+1)).toNat<((plan.length:Int) - (j:Int)).toNat
      rw [cN hjl (by omega)];omega
  refine Y.bind inner fun t ht=>Y.ret ⟨⟨k+1,?_,?_⟩,?_⟩
  · show IntKind.i64.wrap ((k:Int)+1)=_;rw [cN hk (by omega)]
  · obtain ⟨t1,t2⟩:=t
    dsimp only at ht ⊢
    rcases ht with ⟨h1,h2,h3⟩ | ⟨h1,h2,h3,h4⟩
    · subst h1;subst h2
      refine ⟨hI.len,hk,fun ha=>?_,hI.yes,hI.snd⟩
      obtain ⟨h4,h5⟩:=hI.no ha
      subst h4
      refine ⟨rfl,fun i hi p hp=>?_⟩
      rcases Nat.lt_or_ge i k with h6 | h6
      · exact h5 i h6 p hp
      have:i=k:=by omega
      subst this
      rw [List.getElem?_eq_getElem hk] at hp;injection hp with hp;subst hp;exact h3
    subst h1;subst h2
    refine ⟨by rw [List.length_set];exact hI.len,hk,(fun h=>by cases h),fun _=>?_,hI.snd.set hk h4⟩
    have:=kG r1 k h3
    cases hag:ag with
    | false=>have:=(hI.no hag).1;subst this;omega
    | true=>have:=hI.yes hag;omega
  show ((plan.length:Int) - IntKind.i64.wrap ((k:Int)+1)).toNat<((plan.length:Int) - (k:Int)).toNat
  rw [cN hk (by omega)];omega
theorem qS {plan:List Za} (hv:VPs plan) (id:Int):Y (dr plan id) (fun need=>need.length≤64∧RS plan id need):=by
 have hlen:=hv.len
 unfold dr
 rw [show mk 1 false (plan.length:Int)=some (List.replicate plan.length false) by unfold mk;rw [if_pos (by simp;omega)];simp,cy]
 refine Y.bind (P:=fun r:List Bool=>r.length=plan.length∧Snd plan id r∧∀ i,∀ p,plan[i]?=some p→r.getD i false=true∨∀ m,iE plan id r m (bT plan p.ID)=false) ?_ fun r ⟨h1,hS,h2⟩=>?_
 ·refine Y.loop (fun s:List Bool×Bool=>s.1.length=plan.length∧Snd plan id s.1∧(s.2=false→∀ i,∀ p,plan[i]?=some p→s.1.getD i false=true∨∀ m,iE plan id s.1 m (bT plan p.ID)=false)) (fun s=>2*ex s.1+cond s.2 1 0) ⟨by simp,fun i p hp hr=>(by dsimp only at hr;rw [List.getD_eq_getElem?_getD,List.getElem?_replicate] at hr;split at hr <;> cases hr),fun h=>by cases h⟩ ?_ (fun s hs=>?_)
  ·show 2*ex (List.replicate plan.length false)+1≤_
   have:ex (List.replicate plan.length false)≤plan.length:=by unfold ex;refine Nat.le_trans (List.length_filter_le _ _) ?_;simp
   omega
  obtain ⟨r,ag⟩:=s
  obtain ⟨h1,hS,h2⟩:=hs
  dsimp only at h1 hS h2 ⊢
  cases ag with
  | false=>exact Y.ret ⟨h1,hS,h2 rfl⟩
  | true =>
   simp only [cR]
   refine Y.bind (pl hv id r h1 hS) fun t ht=>Y.ret ⟨⟨ht.len,ht.snd,fun ha=>?_⟩,?_⟩
   ·obtain ⟨h3,h4⟩:=ht.no ha
    rw [h3]
    exact fun i p hp=>h4 i (List.getElem?_eq_some_iff.1 hp).1 p hp
   show 2*ex t.1+cond t.2 1 0<2*ex r+1
   cases ha:t.2 with
   | false=>rw [(ht.no ha).1];simp
   | true=>have:=ht.yes ha;simp only [cR];omega
 refine Y.bind (P:=fun out:List Int=>out.length≤64∧out.Pairwise (· < ·)∧∀ n,n∈out↔∃ i p,plan[i]?=some p∧r.getD i false=true∧n=p.ID) ?_ fun out ⟨k1,k0,k2⟩=>Y.ret ⟨k1,k0,?_⟩
 ·refine Y.loop (fun s:List Int×Int=>∃ k:Nat,s.2=(k:Int)∧k≤plan.length∧s.1.length≤k∧s.1.Pairwise (· < ·)∧∀ n,n∈s.1↔∃ i p,i<k∧plan[i]?=some p∧r.getD i false=true∧n=p.ID) (fun s=>(plan.length - s.2).toNat) ⟨0,rfl,by omega,by simp,by simp,fun n=>by simp⟩ (by show ((plan.length:Int) - 0).toNat≤_;omega) (fun s hs=>?_)
  obtain ⟨out,v⟩:=s
  obtain ⟨k,hvk,hk,hl,hpw,hm⟩:=hs
  dsimp only at hvk hl hpw hm ⊢
  subst hvk
  rcases Nat.lt_or_ge k plan.length with hk2 | hk2
  rotate_left
  ·have e:k=plan.length:=by omega
   subst e
   rw [fN,eo]
   refine Y.ret ⟨by omega,hpw,fun n=>(hm n).trans ⟨fun ⟨i,p,_,h⟩=>⟨i,p,h⟩,fun ⟨i,p,h⟩=>⟨i,p,(List.getElem?_eq_some_iff.1 h.1).1,h⟩⟩⟩
  have hkr:k<r.length:=by omega
  have hg:r.getD k false=r[k]:=by rw [List.getD_eq_getElem?_getD,List.getElem?_eq_getElem hkr];rfl
  rw [lv hk2,cR,bd hkr,cy,bd hk2,cy,cN hk2 (by omega)]
  cases hb:r[k] with
  | false =>
   refine Y.ret ⟨⟨k+1,rfl,by omega,by dsimp only;omega,hpw,fun n=>(hm n).trans ⟨fun ⟨i,p,h,h2⟩=>⟨i,p,by omega,h2⟩,fun ⟨i,p,h,h2,h3,h4⟩=>?_⟩⟩,?_⟩
   ·rcases Nat.lt_or_ge i k with h5 | h5
    ·exact ⟨i,p,h5,h2,h3,h4⟩
    have:i=k:=by omega
    subst this;rw [hg,hb] at h3;cases h3
   ·show ((plan.length:Int) - ((k+1:Nat):Int)).toNat<((plan.length:Int) - (k:Int)).toNat;omega
  | true =>
   simp only [cR]
   rw [dT (by simp;omega) (by simp;omega),cy,cy]
   have hnew:∀ a∈out,a<plan[k].ID:=fun a ha=>by
    obtain ⟨i,p,h,h2,_,h4⟩:=(hm a).1 ha
    have hi:=(List.getElem?_eq_some_iff.1 h2).1
    have:=List.pairwise_iff_getElem.1 hv.asc i k hi hk2 h
    rw [(List.getElem?_eq_some_iff.1 h2).2] at this;omega
   refine Y.ret ⟨⟨k+1,rfl,by omega,by dsimp only;simp;omega,List.pairwise_append.2 ⟨hpw,by simp,fun a ha b hb=>by rw [List.mem_singleton] at hb;subst hb;exact hnew a ha⟩,fun n=>?_⟩,?_⟩
   ·dsimp only
    rw [List.mem_append,hm,List.mem_singleton]
    constructor
    ·rintro (⟨i,p,h,h2⟩ | h)
     ·exact ⟨i,p,by omega,h2⟩
     exact ⟨k,plan[k],by omega,List.getElem?_eq_getElem hk2,by rw [hg,hb],h⟩
    rintro ⟨i,p,h,h2,h3,h4⟩
    rcases Nat.lt_or_ge i k with h5 | h5
    ·exact .inl ⟨i,p,h5,h2,h3,h4⟩
    have:i=k:=by omega
    subst this
    rw [List.getElem?_eq_getElem hk2] at h2;injection h2 with h2;subst h2;exact .inr h4
   show ((plan.length:Int) - ((k+1:Nat):Int)).toNat<((plan.length:Int) - (k:Int)).toNat;omega
 have close:∀ p∈plan,((p.ID == id)||out.any fun n=>n == p.ID)=true→∀ y∈p.Inputs,((out.any fun n=>n == y.Product)=true):=by
  intro p hp hR y hy
  obtain ⟨m,hm,rfl⟩:=List.getElem_of_mem hp
  have hq:=((hv.all _ hp).inp y hy).1
  obtain ⟨q,hq⟩:=Option.isSome_iff_exists.1 hq
  obtain ⟨hq1,hq2⟩:=eT hq
  obtain ⟨j,hj,rfl⟩:=List.getElem_of_mem hq1
  have hu:plan[m].ID∈bT plan plan[j].ID:=(kF _ _ _).2 ⟨_,hp,rfl,y,hy,hq2.symm⟩
  have hrm:((plan[m].ID == id)||r.getD m false)=true:=by
   rw [Bool.or_eq_true] at hR ⊢
   rcases hR with h | h
   ·exact .inl h
   rw [List.any_eq_true] at h
   obtain ⟨n,hn,e⟩:=h
   obtain ⟨i,p',h3,h4,h5⟩:=(k2 n).1 hn
   have hi:=(List.getElem?_eq_some_iff.1 h3).1
   have hpe:=(List.getElem?_eq_some_iff.1 h3).2
   have e:n=plan[m].ID:=by simpa using e
   have heq:plan[i]=plan[m]:=mF hv.asc (List.getElem_mem hi) (List.getElem_mem hm) (by rw [hpe,← h5,e])
   have him:i=m:=by
    rcases Nat.lt_trichotomy i m with h6 | h6 | h6
    ·have:=List.pairwise_iff_getElem.1 hv.asc i m hi hm h6;rw [heq] at this;omega
    ·exact h6
    have:=List.pairwise_iff_getElem.1 hv.asc m i hm hi h6;rw [heq] at this;omega
   subst him;exact .inr h4
  have hhit:iE plan id r m (bT plan plan[j].ID)=true:=by
   unfold iE;rw [List.getElem?_eq_getElem hm]
   dsimp only
   rw [hrm,Bool.true_and,List.any_eq_true]
   exact ⟨_,hu,by simp⟩
  rcases h2 j plan[j] (List.getElem?_eq_getElem hj) with h | h
  ·rw [List.any_eq_true]
   exact ⟨y.Product,(k2 _).2 ⟨j,plan[j],List.getElem?_eq_getElem hj,h,hq2.symm⟩,by simp⟩
  rw [h m] at hhit;cases hhit
 intro n
 constructor
 ·intro hn
  obtain ⟨i,p,h3,h4,rfl⟩:=(k2 n).1 hn
  exact hS i p h3 h4
 intro ht
 induction ht with
 | one h =>
  obtain ⟨p,hp,e,x,hx,rfl⟩:=h
  have:=close p hp (by rw [e];simp) x hx
  rw [List.any_eq_true] at this
  obtain ⟨m,hm,e⟩:=this
  have e:m=x.Product:=by simpa using e
  exact e ▸ hm
 | step _ h ih =>
  obtain ⟨p,hp,e,x,hx,rfl⟩:=h
  have:=close p hp (by rw [Bool.or_eq_true];right;rw [List.any_eq_true];exact ⟨_,ih,by simp [e]⟩) x hx
  rw [List.any_eq_true] at this
  obtain ⟨m,hm,e⟩:=this
  have e:m=x.Product:=by simpa using e
  exact e ▸ hm
theorem awake13:fp=some true:=by kernel_rfl
theorem gQ:∀ (ks l:List Int),ks.Nodup→(∀ n∈ks,n∈l)→ks.length≤l.length
 | [],l,_,_=>Nat.zero_le _
 | n::ks,l,h1,h2=>by
  have h3:=List.nodup_cons.1 h1
  have hn:n∈l:=h2 n (by simp)
  have:=gQ ks (l.erase n) h3.2 fun m hm=>(List.mem_erase_of_ne (by rintro rfl;exact h3.1 hm)).2 (h2 m (by simp [hm]))
  rw [List.length_erase_of_mem hn] at this
  have hpos:0<l.length:=List.length_pos_of_mem hn
  rw [List.length_cons];omega
def pm (ks:List Int):List (Int×Bool):=ks.map fun n=>(n,true)
theorem oa (n:Int):∀ ks:List Int,(aZ (pm ks) n).getD false=decide (n∈ks)
 | []=>rfl
 | a::ks=>by
  have ih:=oa n ks
  unfold pm at ih ⊢
  rw [List.map_cons]
  unfold aZ
  by_cases h:a=n
  ·rw [if_pos h];subst h;simp
  rw [if_neg h,ih]
  have h':¬ n=a:=fun e=>h e.symm
  simp [h']
theorem s9 {n:Int} {ks:List Int} (h:n ∉ ks):dH (pm ks) n true=pm (ks++[n]):=by
 unfold pm
 rw [iZ (fun p hp=>by obtain ⟨m,hm,rfl⟩:=List.mem_map.1 hp;rintro rfl;exact h hm),List.map_append];rfl
def inF (s:List Int×List Int) (x:Zb):List Int×List Int:=cond (!decide (x.Product∈s.2)) (s.1++[x.Product],s.2++[x.Product]) s
theorem kH:∀ (inp:List Zb) (td ks:List Int),∃ new:List Int,inp.foldl inF (td,ks)=(td++new,ks++new)∧new.Nodup∧(∀ n∈new,n ∉ ks∧∃ x∈inp,x.Product=n)∧∀ x∈inp,x.Product∈ks++new
 | [],td,ks=>⟨[],(by simp),List.nodup_nil,fun _ h=>(by cases h),fun _ h=>(by cases h)⟩
 | x::inp,td,ks=>by
  rw [List.foldl_cons]
  by_cases h:x.Product∈ks
  ·have e:inF (td,ks) x=(td,ks):=by unfold inF;simp [h]
   rw [e]
   obtain ⟨new,h1,h2,h3,h4⟩:=kH inp td ks
   refine ⟨new,h1,h2,fun n hn=>⟨(h3 n hn).1,?_⟩,fun y hy=>?_⟩
   ·obtain ⟨y,hy,e⟩:=(h3 n hn).2;exact ⟨y,by simp [hy],e⟩
   rcases List.mem_cons.1 hy with rfl | hy
   ·simp [h]
   exact h4 y hy
  have e:inF (td,ks) x=(td++[x.Product],ks++[x.Product]):=by unfold inF;simp [h]
  rw [e]
  obtain ⟨new,h1,h2,h3,h4⟩:=kH inp (td++[x.Product]) (ks++[x.Product])
  refine ⟨x.Product::new,by rw [h1];simp,List.nodup_cons.2 ⟨fun hn=>(h3 _ hn).1 (by simp),h2⟩,fun n hn=>?_,fun y hy=>?_⟩
  ·rcases List.mem_cons.1 hn with rfl | hn
   ·exact ⟨h,x,by simp,rfl⟩
   obtain ⟨h5,y,hy,e⟩:=h3 n hn
   exact ⟨fun hk=>h5 (by simp [hk]),y,by simp [hy],e⟩
  rcases List.mem_cons.1 hy with rfl | hy
  ·simp
  have:=h4 y hy;rw [List.append_assoc] at this;exact this
structure RI (plan:List Za) (id:Int) (td ks:List Int):Prop where
 nd:ks.Nodup
 sub:∀ n∈ks,Ze plan id n∧(em plan n).isSome=true
 tds:∀ t∈td,t=id∨t∈ks
 cl:∀ a,a=id∨a∈ks→a∈td∨∀ b,Nd plan a b→b∈ks
 len:td.length≤ks.length+1
theorem RI.few {plan:List Za} {id:Int} {td ks:List Int} (h:RI plan id td ks):ks.length≤plan.length:=by
 have:=gQ ks (plan.map (·.ID)) h.nd fun n hn=>by
  obtain ⟨p,hp⟩:=Option.isSome_iff_exists.1 (h.sub n hn).2
  obtain ⟨h1,h2⟩:=eT hp
  exact List.mem_map.2 ⟨p,h1,h2⟩
 rwa [List.length_map] at this
theorem RI.step {plan:List Za} (hv:VPs plan) {id a:Int} {td ks:List Int} (h:RI plan id (td++[a]) ks) {p:Za} (hp:em plan a=some p) {new:List Int} (h2:new.Nodup) (h3:∀ n∈new,n ∉ ks∧∃ x∈p.Inputs,x.Product=n) (h4:∀ x∈p.Inputs,x.Product∈ks++new):RI plan id (td++new) (ks++new):=by
 obtain ⟨hm,hid⟩:=eT hp
 have hnd:∀ n∈new,Nd plan a n:=fun n hn=>by obtain ⟨x,hx,e⟩:=(h3 n hn).2;exact ⟨p,hm,hid,x,hx,e⟩
 have ha:=h.tds a (by simp)
 refine ⟨List.nodup_append.2 ⟨h.nd,h2,fun x hx y hy e=>(h3 y hy).1 (e ▸ hx)⟩,fun n hn=>?_,fun t ht=>?_,fun c hc=>?_,?_⟩
 ·rcases List.mem_append.1 hn with hn | hn
  ·exact h.sub n hn
  refine ⟨?_,?_⟩
  ·rcases ha with rfl | ha
   ·exact .one (hnd n hn)
   exact .step (h.sub a ha).1 (hnd n hn)
  obtain ⟨x,hx,e⟩:=(h3 n hn).2
  rw [← e];exact ((hv.all p hm).inp x hx).1
 ·rcases List.mem_append.1 ht with ht | ht
  ·rcases h.tds t (by simp [ht]) with h5 | h5
   ·exact .inl h5
   exact .inr (by simp [h5])
  exact .inr (by simp [ht])
 ·have hold:c=id∨c∈ks→c∈td++new∨∀ b,Nd plan c b→b∈ks++new:=fun hc=>by
   by_cases hca:c=a
   ·subst hca
    refine .inr fun b hb=>?_
    obtain ⟨q,hq,e,x,hx,rfl⟩:=hb
    have:q=p:=mF hv.asc hq hm (by rw [e,hid])
    subst this;exact h4 x hx
   rcases h.cl c hc with h5 | h5
   ·rcases List.mem_append.1 h5 with h5 | h5
    ·exact .inl (by simp [h5])
    simp at h5;exact absurd h5 hca
   exact .inr fun b hb=>by simp [h5 b hb]
  rcases hc with hc | hc
  ·exact hold (.inl hc)
  rcases List.mem_append.1 hc with hc | hc
  ·exact hold (.inr hc)
  exact .inl (by simp [hc])
 ·have:=h.len;simp at this ⊢;omega
theorem RI.drop {plan:List Za} {id a:Int} {td ks:List Int} (h:RI plan id (td++[a]) ks) (hn:em plan a=none):RI plan id td ks:=by
 refine ⟨h.nd,h.sub,fun t ht=>h.tds t (by simp [ht]),fun c hc=>?_,by have:=h.len;simp at this;omega⟩
 rcases h.cl c hc with h5 | h5
 ·rcases List.mem_append.1 h5 with h5 | h5
  ·exact .inl h5
  simp at h5;subst h5
  refine .inr fun b hb=>?_
  obtain ⟨q,hq,e,_⟩:=hb
  unfold em at hn
  have:=List.find?_eq_none.1 hn q hq
  exact absurd e (by simpa using this)
 exact .inr h5
theorem RI.done {plan:List Za} {id:Int} {ks:List Int} (h:RI plan id [] ks):∀ n,n∈ks↔Ze plan id n:=fun n=>by
 have cl:∀ a,a=id∨a∈ks→∀ b,Nd plan a b→b∈ks:=fun a ha=>by
  rcases h.cl a ha with h1 | h1
  ·cases h1
  exact h1
 constructor
 ·exact fun hn=>(h.sub n hn).1
 intro ht
 induction ht with
 | one hb=>exact cl id (.inl rfl) _ hb
 | step _ hb ih=>exact cl _ (.inr ih) _ hb
theorem qT {plan:List Za} (hi:VIds plan) (hl:plan.length≤64) {id:Int} {ks:List Int} (h:RI plan id [] ks):∃ r,nT (pm ks)=some r∧r.length≤64∧RS plan id r:=by
 have hk:=h.few
 have hin:((pm ks).all (fun p=>inI p.1)&&decide ((pm ks).length≤1000000000000))=true:=by
  rw [Bool.and_eq_true,List.all_eq_true,decide_eq_true_eq]
  refine ⟨fun p hp=>?_,by unfold pm;rw [List.length_map];omega⟩
  obtain ⟨n,hn,rfl⟩:=List.mem_map.1 hp
  obtain ⟨q,hq⟩:=Option.isSome_iff_exists.1 (h.sub n hn).2
  obtain ⟨h1,h2⟩:=eT hq
  have:=hi.id q h1
  unfold inI;simp only [Bool.and_eq_true,decide_eq_true_eq];omega
 refine ⟨ku ly ks,?_,by rw [dS.length_eq];omega,?_,fun n=>?_⟩
 ·unfold nT;rw [hin,cR]
  congr 2;unfold pm;rw [List.map_map];simp [Function.comp_def]
 ·have h1:=gi ltI_t ltI_n ltI_i ks
  have h2:(ku ly ks).Nodup:=dS.nodup_iff.2 h.nd
  refine h1.imp₂ (fun a b hab hne=>?_) h2
  unfold ly at hab
  have:=of_decide_eq_false hab
  omega
 exact dS.mem_iff.trans (h.done n)
theorem pn {plan:List Za} (hv:VPs plan) (hi:VIds plan) (id:Int):Y (aR plan id) (fun r=>r.length≤64∧RS plan id r):=by
 have hlen:=hv.len
 unfold aR
 refine Y.bind (P:=fun l:List (Int×Bool)=>∃ ks,l=pm ks∧RI plan id [] ks) (Y.loop (fun s:List Int×List (Int×Bool)=>∃ ks,s.2=pm ks∧RI plan id s.1 ks) (fun s=>s.1.length+2*(64 - s.2.length)) ⟨[],rfl,List.nodup_nil,fun _ h=>(by cases h),fun t ht=>(by simp at ht;exact .inl ht),fun a ha=>(by rcases ha with rfl | h;exact .inl (by simp);cases h),(by simp)⟩ (by simp) fun s hs=>?_) fun l ⟨ks,e,h⟩=>by
  subst e
  obtain ⟨r,h1,h2,h3⟩:=qT hi hlen h
  rw [h1,cy];exact Y.ret ⟨h2,h3⟩
 obtain ⟨todo,F⟩:=s
 obtain ⟨ks,rfl,hI⟩:=hs
 dsimp only at hI ⊢
 have hkl:=hI.few
 rcases List.eq_nil_or_concat todo with rfl | ⟨td,a,rfl⟩
 ·rw [show decide ((0:Int)<(([]:List Int).length:Int))=false from rfl,eo]
  exact Y.ret ⟨ks,rfl,hI⟩
 rw [List.concat_eq_append] at hI ⊢
 have htl:=hI.len
 have hl:(td++[a]).length=td.length+1:=by simp
 rw [hl] at htl ⊢
 have hw:IntKind.i64.wrap (((td.length+1:Nat):Int) - 1)=(td.length:Int):=by rw [fe (by omega) (by omega)];omega
 rw [show decide ((0:Int)<((td.length+1:Nat):Int))=true by rw [decide_eq_true_eq];omega,cR,hw,bd (show td.length<(td++[a]).length by simp),cy]
 have hg:(td++[a])[td.length]=a:=by simp
 rw [hg]
 obtain ⟨j,e1,e2⟩:=qQ plan a hv.sorted
 rw [e1,cy,show (0:Int)=((0:Nat):Int) from rfl,sub_ok (by omega) (by rw [hl];omega),cy]
 have hinit:((td++[a]).take td.length).drop 0=td:=by simp
 rw [hinit]
 dsimp only
 cases hf:em plan a with
 | none =>
  simp only [Option.isSome_none,Bool.not_false,cR]
  exact Y.ret ⟨⟨ks,rfl,hI.drop hf⟩,by dsimp only;omega⟩
 | some p =>
  obtain ⟨hj,e3⟩:=e2 p hf
  have hpm:=(eT hf).1
  have hfew:=(hv.all p hpm).few
  simp only [Option.isSome_some,Bool.not_true,eo,bd hj,e3,cy]
  obtain ⟨new,n1,n2,n3,n4⟩:=kH p.Inputs td ks
  have hstep:=hI.step hv hf n2 n3 n4
  have hfold:=eR (l:=p.Inputs) (by omega) (k:=fun (t:List Int×List (Int×Bool))=>some (Sum.inl (t.1,t.2):(List Int×List (Int×Bool))⊕List (Int×Bool)))
   (body:=fun (l20,v23,l24)=>cond (decide (v23<(p.Inputs.length:Int))) (Option.bind (Option.bind (idx p.Inputs v23) (fun m39=>cond (!((aZ l24 m39.Product).getD false)) (Option.bind (app 8 l20 [m39.Product]) (fun l44=>some (l44,(dH l24 m39.Product true)))) (some (l20,l24)))) (fun (l36,l37)=>some (.inl (l36,(IntKind.i64.wrap (v23+1)),l37)))) (some (.inr (l20,l24))))
   (fun i (s:List Int×List Int)=>(s.1,i,pm s.2)) inF (fun s=>(s.1,pm s.2)) (fun k s=>s.1.length≤td.length+k) (td,ks) (by simp) (fun k hk s hs=>?_) (fun s hs=>?_)
  ·refine (show Y _ _ from ?_)
   have:=hfold.1
   refine ⟨_,this,?_⟩
   rw [n1]
   refine ⟨⟨ks++new,rfl,hstep⟩,?_⟩
   have:=hstep.few
   simp only [pm,List.length_map,List.length_append] at this ⊢
   simp
   omega
  ·dsimp only
   rw [lv hk,cR,bd hk,cy,oa,cN hk (by omega)]
   unfold inF
   cases hc:decide (p.Inputs[k].Product∈s.2)
   ·simp only [Bool.not_false,cR]
    rw [dT (by simp;omega) (by simp;omega),cy,cy,s9 (of_decide_eq_false hc)]
    exact ⟨rfl,by simp;omega⟩
   simp only [Bool.not_true,eo,cy]
   exact ⟨trivial,by omega⟩
  dsimp only;rw [fN,eo]
theorem od {α:Type} {l:List α} {p:α→Bool} (h:l.find? p=none):l.any p=false:=by
 rw [List.any_eq_false];exact fun x hx=>by have:=List.find?_eq_none.1 h x hx;simpa using this
theorem lB {α:Type} {l:List α} {p:α→Bool} {x:α} (h:l.find? p=some x):l.any p=true:=by
 rw [List.any_eq_true];exact ⟨x,List.mem_of_find?_eq_some h,List.find?_some h⟩
theorem lC (l:List Int) (n:Int) (hl:l.length≤140737488355328):bj l n=some (l.any fun x=>x == n):=by
 unfold bj
 have e:bI l n=some (match dI (fun k (p:Int)=>cond (p == n) (some (Sum.inr (k:Int):Unit⊕Int)) none) l 0 with | some (.inr k)=>k | _ => -1):=by
  unfold bI
  refine (dU (l:=l) (by omega) (fun k (p:Int)=>cond (p == n) (some (.inr (k:Int))) none) (.inl ()) (fun k hk=>?_) (by rw [fN,eo])).trans ?_
  ·have e:(n == l[k])=(l[k] == n):=by
    by_cases h:n=l[k]
    ·rw [← h]
    rw [beq_eq_false_iff_ne.2 h,beq_eq_false_iff_ne.2 (fun e=>h e.symm)]
   rw [lv hk,cR,bd hk,cy,cN hk (show l.length≤4611686018427387904 by omega),e]
   cases (l[k] == n) <;> rfl
  ·cases dI (fun k (p:Int)=>cond (p == n) (some (Sum.inr (k:Int):Unit⊕Int)) none) l 0 with
   | none=>rfl
   | some t=>cases t <;> rfl
 rw [e,cy]
 rcases kE (fun p:Int=>p == n) (fun k=>(Sum.inr (k:Int):Unit⊕Int)) l 0 with ⟨h1,h2⟩ | ⟨j,hj,h1,h2⟩
 ·rw [h1,od h2];rfl
 rw [h1,lB h2]
 show some (decide (0≤((0+j:Nat):Int)))=_
 rw [det (by omega)]
theorem po {plan:List Za} (hv:VPs plan) (hi:VIds plan) (id:Int):∃ r,aR plan id=some r∧dr plan id=some r∧r.length≤64∧RS plan id r:=by
 obtain ⟨r,e1,h1,h2⟩:=pn hv hi id
 obtain ⟨s,e2,h3,h4⟩:=qS hv id
 have:=h2.uniq h4
 subst this
 exact ⟨r,e1,e2,h1,h2⟩
theorem qU {l:List Int} (h:l.length≤140737488355328):cf l l=some true:=by rw [nZ _ _ h];simp
theorem Ze.cons {plan:List Za} {a b n:Int} (h:Nd plan a b) (ht:Ze plan b n):Ze plan a n:=by
 induction ht with
 | one h2=>exact .step (.one h) h2
 | step _ h2 ih=>exact .step ih h2
theorem Ze.trans {plan:List Za} {a b n:Int} (h:Ze plan a b) (ht:Ze plan b n):Ze plan a n:=by
 induction ht with
 | one h2=>exact .step h h2
 | step _ h2 ih=>exact .step ih h2
theorem Ze.head {plan:List Za} {a n:Int} (h:Ze plan a n):∃ b,Nd plan a b∧(n=b∨Ze plan b n):=by
 induction h with
 | one h=>exact ⟨_,h,.inl rfl⟩
 | step _ h2 ih =>
  obtain ⟨b,h3,h4⟩:=ih
  refine ⟨b,h3,.inr ?_⟩
  rcases h4 with rfl | h4
  ·exact .one h2
  exact .step h4 h2
def rl (plan:List Za) (id:Int):List Int:=(aR plan id).getD []
structure GP (plan:List Za):Prop where
 v:VPs plan
 i:VIds plan
section
variable {plan:List Za}
theorem ft (h:GP plan) (id:Int):aR plan id=some (rl plan id)∧dr plan id=some (rl plan id)∧(rl plan id).length≤64∧RS plan id (rl plan id):=by
 obtain ⟨r,e1,e2,h1,h2⟩:=po h.v h.i id
 have:rl plan id=r:=by unfold rl;rw [e1];rfl
 rw [this];exact ⟨e1,e2,h1,h2⟩
def gS (plan:List Za) (n:Int):Prop:=∃ q∈plan,q.ID=n
theorem tc_id (h:GP plan) {a n:Int} (ht:Ze plan a n):gS plan n:=by
 have:∀ b,Nd plan b n→gS plan n:=fun b ⟨p,hp,_,x,hx,e⟩=>by
  obtain ⟨q,hq⟩:=Option.isSome_iff_exists.1 ((h.v.all p hp).inp x hx).1
  obtain ⟨h1,h2⟩:=eT hq
  exact ⟨q,h1,h2.trans e⟩
 cases ht with
 | one h1=>exact this _ h1
 | step _ h1=>exact this _ h1
def d7 (l:List Int) (n:Int):Bool:=l.any fun x=>x == n
theorem cQ {l:List Int} {n:Int}:d7 l n=true↔n∈l:=by
 unfold d7;rw [List.any_eq_true]
 constructor
 ·rintro ⟨x,hx,e⟩;have e:x=n:=by simpa using e
  subst e;exact hx
 intro h;exact ⟨n,h,by simp⟩
theorem cg {l:List Int} {n:Int}:d7 l n=false↔n ∉ l:=by
 rw [← Bool.not_eq_true,cQ]
def ox (plan:List Za) (a b:Int):Bool:=d7 (rl plan a) b
theorem fu (h:GP plan) {a b:Int}:ox plan a b=true↔Ze plan a b:=cQ.trans ((ft h a).2.2.2.mem b)
def bo (plan:List Za) (a b:Int):Bool:=(b == a)||(ox plan a b&&ox plan b a)
theorem gT (h:GP plan) {a b:Int}:bo plan a b=true↔a=b∨(Ze plan a b∧Ze plan b a):=by
 unfold bo
 rw [Bool.or_eq_true,Bool.and_eq_true,fu h,fu h,beq_iff_eq]
 exact or_congr eq_comm Iff.rfl
theorem fw (h:GP plan) (a:Int):bo plan a a=true:=(gT h).2 (.inl rfl)
theorem gp (h:GP plan) {a b:Int} (k:bo plan a b=true):bo plan b a=true:=by
 rcases (gT h).1 k with rfl | ⟨k1,k2⟩
 ·exact fw h a
 exact (gT h).2 (.inr ⟨k2,k1⟩)
theorem kJ (h:GP plan) {a b c:Int} (k:bo plan a b=true) (l:bo plan b c=true):bo plan a c=true:=by
 rcases (gT h).1 k with rfl | ⟨k1,k2⟩
 ·exact l
 rcases (gT h).1 l with rfl | ⟨l1,l2⟩
 ·exact k
 exact (gT h).2 (.inr ⟨k1.trans l1,l2.trans k2⟩)
theorem oe (h:GP plan) {a b:Int} (k:bo plan a b=true) (c:Int):bo plan a c=bo plan b c:=by
 rw [Bool.eq_iff_iff];exact ⟨kJ h (gp h k),kJ h k⟩
theorem og (h:GP plan) {a b:Int} (k:bo plan a b=true):rl plan a=rl plan b:=by
 rcases (gT h).1 k with rfl | ⟨k1,k2⟩
 ·rfl
 have h1:=(ft h a).2.2.2;have h2:=(ft h b).2.2.2
 exact n9 h1.asc h2.asc fun n=>(h1.mem n).trans ((show Ze plan a n↔Ze plan b n from ⟨fun t=>k2.trans t,fun t=>k1.trans t⟩).trans (h2.mem n).symm)
def cj (plan:List Za) (a:Int):List Int:=(plan.filter fun q=>bo plan a q.ID).map (·.ID)
theorem cV {a n:Int}:n∈cj plan a↔gS plan n∧bo plan a n=true:=by
 unfold cj gS
 rw [List.mem_map]
 constructor
 ·rintro ⟨q,hq,rfl⟩;have:=List.mem_filter.1 hq;exact ⟨⟨q,this.1,rfl⟩,this.2⟩
 rintro ⟨⟨q,hq,rfl⟩,hb⟩;exact ⟨q,List.mem_filter.2 ⟨hq,hb⟩,rfl⟩
theorem qV (h:GP plan) {a b:Int} (k:bo plan a b=true):cj plan a=cj plan b:=by
 unfold cj;rw [List.filter_congr fun q _=>oe h k q.ID]
theorem qf (h:GP plan) (a:Int):(cj plan a).Pairwise (· < ·):=List.pairwise_map.2 (h.v.asc.sublist List.filter_sublist)
theorem qg (h:GP plan) (a:Int):(cj plan a).length≤64:=by
 unfold cj;rw [List.length_map];have:=List.length_filter_le (fun q:Za=>bo plan a q.ID) plan;have:=h.v.len;omega
def ld (plan:List Za) (a:Int):Int:=(cj plan a).headD 0
theorem iH (h:GP plan) {a:Int} (ha:gS plan a):∃ r,cj plan a=ld plan a::r∧gS plan (ld plan a)∧bo plan a (ld plan a)=true∧∀ b,gS plan b→bo plan a b=true→ld plan a≤b:=by
 have hm:a∈cj plan a:=cV.2 ⟨ha,fw h a⟩
 unfold ld
 cases hc:cj plan a with
 | nil=>rw [hc] at hm;cases hm
 | cons x r =>
  have hx:x∈cj plan a:=by rw [hc];simp
  obtain ⟨h1,h2⟩:=cV.1 hx
  refine ⟨r,rfl,h1,h2,fun b hb hbo=>?_⟩
  have hbm:b∈cj plan a:=cV.2 ⟨hb,hbo⟩
  have:=qf h a
  rw [hc] at hbm this
  rcases List.mem_cons.1 hbm with rfl | hbm
  ·exact Int.le_refl _
  have:=(List.pairwise_cons.1 this).1 b hbm;exact Int.le_of_lt this
theorem iI (h:GP plan) {a b:Int} (k:bo plan a b=true):ld plan a=ld plan b:=by unfold ld;rw [qV h k]
def tc (plan:List Za) (done:List Int) (a:Int):Bool:=plan.all fun q=>bo plan a q.ID||(!(ox plan a q.ID)||d7 done q.ID)
def iJ (plan:List Za) (done:List Int) (p:Za):Bool := !(d7 done p.ID)&&tc plan done p.ID
def oy (plan:List Za) (done:List Int):Option Za:=plan.find? (iJ plan done)
def stp (plan:List Za) (s:List (List Int)×List Int):List (List Int)×List Int:=match oy plan s.2 with
 | some p=>(s.1++[cj plan p.ID],s.2++cj plan p.ID)
 | none=>s
def cW (plan:List Za):Nat→List (List Int)×List Int
 | 0=>([],[])
 | n+1=>stp plan (cW plan n)
theorem qW (h:GP plan) {a b:Int} (k:bo plan a b=true) (done:List Int):tc plan done a=tc plan done b:=by
 unfold tc;congr 1;funext q;rw [oe h k q.ID];unfold ox;rw [og h k]
structure CI (plan:List Za) (s:List (List Int)×List Int):Prop where
 cl:∀ a b,a∈s.2→gS plan b→bo plan a b=true→b∈s.2
 sub:∀ a∈s.2,gS plan a
 nd:s.2.Nodup
 fl:s.2=s.1.flatten
 ord:∀ (i:Nat) (hi:i<s.1.length),∃ a,gS plan a∧s.1[i]=cj plan a∧∀ x∈rl plan a,x∈(s.1.take (i+1)).flatten
theorem iK {done:List Int} {p:Za} (h:oy plan done=some p):p∈plan∧p.ID ∉ done∧tc plan done p.ID=true:=by
 have h1:=List.mem_of_find?_eq_some h
 have h2:=List.find?_some h
 unfold iJ at h2
 rw [Bool.and_eq_true,Bool.not_eq_true',cg] at h2
 exact ⟨h1,h2.1,h2.2⟩
theorem CI.stp (h:GP plan) {s:List (List Int)×List Int} (hc:CI plan s):CI plan (stp plan s):=by
 unfold SX.stp
 cases hn:oy plan s.2 with
 | none=>exact hc
 | some p =>
  obtain ⟨hp,hnd,hr⟩:=iK hn
  have hid:gS plan p.ID:=⟨p,hp,rfl⟩
  refine ⟨fun a b ha hb k=>?_,fun a ha=>?_,?_,?_,fun i hi=>?_⟩
  ·rcases List.mem_append.1 ha with ha | ha
   ·exact List.mem_append.2 (.inl (hc.cl a b ha hb k))
   exact List.mem_append.2 (.inr (cV.2 ⟨hb,kJ h (cV.1 ha).2 k⟩))
  ·rcases List.mem_append.1 ha with ha | ha
   ·exact hc.sub a ha
   exact (cV.1 ha).1
  ·refine List.nodup_append.2 ⟨hc.nd,(qf h _).imp fun h e=>by omega,fun a ha b hb e=>?_⟩
   subst e
   exact hnd (hc.cl a p.ID ha hid (gp h (cV.1 hb).2))
  ·show s.2++_=(s.1++[_]).flatten
   rw [hc.fl,List.flatten_append];simp
  have hi:i<s.1.length+1:=by simpa using hi
  rcases Nat.lt_or_ge i s.1.length with h1 | h1
  ·obtain ⟨a,k1,k2,k3⟩:=hc.ord i h1
   refine ⟨a,k1,?_,fun x hx=>?_⟩
   ·show (s.1++[_])[i]=_
    rw [List.getElem_append_left h1];exact k2
   show x∈((s.1++[_]).take (i+1)).flatten
   rw [List.take_append_of_le_length (by omega)];exact k3 x hx
  have:i=s.1.length:=by omega
  subst this
  refine ⟨p.ID,hid,?_,fun x hx=>?_⟩
  ·show (s.1++[_])[s.1.length]=_
   simp
  show x∈((s.1++[cj plan p.ID]).take (s.1.length+1)).flatten
  rw [List.take_of_length_le (by simp),List.flatten_append,← hc.fl,List.mem_append]
  have hxt:Ze plan p.ID x:=((ft h _).2.2.2.mem x).1 hx
  obtain ⟨q,hq,rfl⟩:=tc_id h hxt
  unfold tc at hr
  have:=List.all_eq_true.1 hr q hq
  rw [Bool.or_eq_true,Bool.or_eq_true,Bool.not_eq_true'] at this
  rcases this with k | k | k
  ·right;simp only [List.flatten_cons,List.flatten_nil,List.append_nil];exact cV.2 ⟨⟨q,hq,rfl⟩,k⟩
  ·rw [(fu h).2 hxt] at k;cases k
  left;exact cQ.1 k
theorem CI.itr (h:GP plan):∀ n,CI plan (cW plan n)
 | 0=>⟨fun _ _ h=>(by cases h),fun _ h=>(by cases h),List.nodup_nil,rfl,fun i hi=>absurd hi (Nat.not_lt_zero _)⟩
 | n+1=>(CI.itr h n).stp h
theorem i5 {α:Type} {f g:α→Bool}:∀ {l:List α},(∀ x∈l,f x=true→g x=true)→(∃ x∈l,g x=true∧f x=false)→(l.filter f).length<(l.filter g).length
 | [],_,⟨_,h,_⟩=>by cases h
 | x::l,h1,⟨y,hy,h2,h3⟩=>by
  have hle:∀ l:List α,(∀ x∈l,f x=true→g x=true)→(l.filter f).length≤(l.filter g).length:=fun l=>by
   induction l with
   | nil=>intro _;exact Nat.le_refl _
   | cons z l ih =>
    intro h
    have:=ih fun x hx=>h x (by simp [hx])
    rw [List.filter_cons,List.filter_cons]
    cases hf:f z with
    | true=>rw [h z (by simp) hf];simp;omega
    | false=>cases g z <;> simp <;> omega
  rw [List.filter_cons,List.filter_cons]
  rcases List.mem_cons.1 hy with rfl | hy
  ·rw [h2,h3];have:=hle l fun x hx=>h1 x (by simp [hx]);simp;omega
  have ih:=i5 (fun x hx=>h1 x (by simp [hx])) ⟨y,hy,h2,h3⟩
  cases hf:f x with
  | true=>rw [h1 x (by simp) hf];simp;omega
  | false=>cases g x <;> simp <;> omega
theorem oh (h:GP plan) {done:List Int}:∀ n,∀ p∈plan,p.ID ∉ done→(plan.filter fun x=>(x.ID == p.ID)||ox plan p.ID x.ID).length≤n→∃ q∈plan,iJ plan done q=true
 | 0,p,hp,_,hl=>by
  have:p∈plan.filter fun x=>(x.ID == p.ID)||ox plan p.ID x.ID:=List.mem_filter.2 ⟨hp,by simp⟩
  have:=List.length_pos_of_mem this;omega
 | n+1,p,hp,hd,hl=>by
  cases hr:tc plan done p.ID with
  | true=>exact ⟨p,hp,by unfold iJ;rw [hr,cg.2 hd];rfl⟩
  | false =>
   unfold tc at hr
   obtain ⟨q,hq,hb⟩:=List.all_eq_false.1 hr
   rw [Bool.not_eq_true,Bool.or_eq_false_iff,Bool.or_eq_false_iff,Bool.not_eq_false',cg] at hb
   obtain ⟨h1,h2,h3⟩:=hb
   have hpq:Ze plan p.ID q.ID:=(fu h).1 h2
   refine oh h n q hq h3 ?_
   have:=i5 (l:=plan) (f:=fun x=>(x.ID == q.ID)||ox plan q.ID x.ID) (g:=fun x=>(x.ID == p.ID)||ox plan p.ID x.ID) (fun x _ hx=>?_) ⟨p,hp,by simp,?_⟩
   ·omega
   ·rw [Bool.or_eq_true] at hx ⊢
    right
    rcases hx with hx | hx
    ·have:x.ID=q.ID:=by simpa using hx
     rw [this];exact h2
    exact (fu h).2 (hpq.trans ((fu h).1 hx))
   rw [Bool.or_eq_false_iff]
   constructor
   ·cases hx:(p.ID == q.ID) with
    | false=>rfl
    | true =>
     have:p.ID=q.ID:=by simpa using hx
     rw [this,fw h] at h1;cases h1
   cases hx:ox plan q.ID p.ID with
   | false=>rfl
   | true=>rw [(gT h).2 (.inr ⟨hpq,(fu h).1 hx⟩)] at h1;cases h1
def Dn (plan:List Za) (s:List (List Int)×List Int):Prop:=∀ p∈plan,p.ID∈s.2
theorem te {done:List Int} (hd:∀ p∈plan,p.ID∈done):oy plan done=none:=by
 unfold oy;rw [List.find?_eq_none]
 intro p hp;unfold iJ;rw [cQ.2 (hd p hp)];simp
theorem tf (h:GP plan) {done:List Int} (hd:¬ ∀ p∈plan,p.ID∈done):∃ p,oy plan done=some p:=by
 rcases Classical.not_forall.1 hd with ⟨p,hp⟩
 rcases Classical.not_imp.1 hp with ⟨hp,hn⟩
 obtain ⟨q,hq,hb⟩:=oh h _ p hp hn (Nat.le_refl _)
 have:(oy plan done).isSome=true:=by unfold oy;rw [List.find?_isSome];exact ⟨q,hq,hb⟩
 exact Option.isSome_iff_exists.1 this
theorem i6 {n:Nat} (hd:Dn plan (cW plan n)):∀ k,cW plan (n+k)=cW plan n
 | 0=>rfl
 | k+1=>by
  show stp plan (cW plan (n+k))=_
  rw [i6 hd k];unfold stp;rw [te hd]
theorem qX {n m:Nat} (h1:Dn plan (cW plan n)) (h2:Dn plan (cW plan m)):cW plan n=cW plan m:=by
 rcases Nat.le_total n m with h | h
 ·obtain ⟨k,rfl⟩:=Nat.le.dest h;exact (i6 h1 k).symm
 obtain ⟨k,rfl⟩:=Nat.le.dest h;exact i6 h2 k
theorem CI.len (h:GP plan) {s:List (List Int)×List Int} (hc:CI plan s):s.2.length≤plan.length:=by
 have:=gQ s.2 (plan.map (·.ID)) hc.nd fun n hn=>by obtain ⟨q,hq,e⟩:=hc.sub n hn;exact List.mem_map.2 ⟨q,hq,e⟩
 rwa [List.length_map] at this
theorem qY (h:GP plan):(plan.map (·.ID)).Nodup:=List.pairwise_map.2 (h.v.asc.imp fun h e=>by omega)
theorem CI.full (h:GP plan) {s:List (List Int)×List Int} (hc:CI plan s) (hl:plan.length≤s.2.length):Dn plan s:=fun p hp=>by
 by_cases hn:p.ID∈s.2
 ·exact hn
 have:=gQ (p.ID::s.2) (plan.map (·.ID)) (List.nodup_cons.2 ⟨hn,hc.nd⟩) fun n hn=>by
  rcases List.mem_cons.1 hn with rfl | hn
  ·exact List.mem_map.2 ⟨p,hp,rfl⟩
  obtain ⟨q,hq,e⟩:=hc.sub n hn;exact List.mem_map.2 ⟨q,hq,e⟩
 rw [List.length_map,List.length_cons] at this;omega
theorem Dn.len (h:GP plan) {s:List (List Int)×List Int} (hd:Dn plan s):plan.length≤s.2.length:=by
 have:=gQ (plan.map (·.ID)) s.2 (qY h) fun n hn=>by obtain ⟨q,hq,e⟩:=List.mem_map.1 hn;subst e;exact hd q hq
 rwa [List.length_map] at this
theorem tg (h:GP plan) {s:List (List Int)×List Int} (hc:CI plan s) {p:Za} (hn:oy plan s.2=some p):ld plan p.ID=p.ID:=by
 obtain ⟨hp,hd,hr⟩:=iK hn
 obtain ⟨r,h1,h2,h3,h4⟩:=iH h ⟨p,hp,rfl⟩
 obtain ⟨q,hq,e⟩:=h2
 have hle:=h4 p.ID ⟨p,hp,rfl⟩ (fw h _)
 unfold oy at hn
 obtain ⟨_,i,hi,rfl,hfirst⟩:=List.find?_eq_some_iff_getElem.1 hn
 obtain ⟨j,hj,rfl⟩:=List.getElem_of_mem hq
 have hb:iJ plan s.2 plan[j]=true:=by
  unfold iJ
  rw [cg.2 (fun hm=>hd (hc.cl _ _ hm ⟨_,List.getElem_mem hi,rfl⟩ (by rw [e];exact gp h h3))),qW h (show bo plan plan[j].ID plan[i].ID=true by rw [e];exact gp h h3),hr];rfl
 rcases Nat.lt_trichotomy j i with k | k | k
 ·have:=hfirst j k;rw [hb] at this;cases this
 ·subst k;exact e.symm
 have:=List.pairwise_iff_getElem.1 h.v.asc i j hi hj k;omega
end
section
variable {plan:List Za}
theorem gq {V:Type} (g:Za→V):∀ (l:List Za) (acc:List (Int×V)),(∀ p∈l,∀ q∈acc,q.1≠p.ID)→(l.Pairwise fun a b=>a.ID<b.ID)→l.foldl (fun acc p=>dH acc p.ID (g p)) acc=acc++l.map fun p=>(p.ID,g p)
 | [],acc,_,_=>by simp
 | p::l,acc,h,hp=>by
  have h2:=List.pairwise_cons.1 hp
  rw [List.foldl_cons,iZ (h p (by simp)),gq g l _ (fun q hq r hr=>?_) h2.2]
  ·simp
  rcases List.mem_append.1 hr with hr | hr
  ·exact h q (by simp [hq]) r hr
  rw [List.mem_singleton.1 hr];have:=h2.1 q hq;dsimp only;omega
theorem iM {V:Type} (g:Za→V) (a:Int):∀ l:List Za,(l.Pairwise fun a b=>a.ID<b.ID)→∀ p∈l,p.ID=a→aZ (l.map fun p=>(p.ID,g p)) a=some (g p)
 | q::l,h,p,hp,e=>by
  have h2:=List.pairwise_cons.1 h
  rw [List.map_cons];unfold aZ
  rcases List.mem_cons.1 hp with rfl | hp
  ·rw [if_pos e]
  rw [if_neg (by have:=h2.1 p hp;omega)];exact iM g a l h2.2 p hp e
theorem kX {V:Type} (g:Za→V) (a:Int) (l:List Za) (h:∀ p∈l,p.ID≠a):aZ (l.map fun p=>(p.ID,g p)) a=none :=
 ls fun q hq=>by obtain ⟨p,hp,rfl⟩:=List.mem_map.1 hq;exact h p hp
def kK (plan:List Za):List (Int×List Int):=plan.map fun p=>(p.ID,rl plan p.ID)
def dG (plan:List Za):List (Int×Int):=plan.map fun p=>(p.ID,ld plan p.ID)
def kO (plan:List Za) (p:Za):Bool:=ld plan p.ID == p.ID
def kL (plan:List Za) (done:List Int):List Za:=plan.filter fun p=>kO plan p && !(d7 done p.ID)
def cG (plan:List Za) (done:List Int):List (Int×List Int):=(kL plan done).map fun p=>(p.ID,cj plan p.ID)
theorem ie (h:GP plan) {a:Int} (ha:gS plan a):(aZ (kK plan) a).getD []=rl plan a:=by
 obtain ⟨p,hp,rfl⟩:=ha
 unfold kK;rw [iM (fun p=>rl plan p.ID) _ plan h.v.asc p hp rfl];rfl
theorem lD (h:GP plan) {a:Int} (ha:gS plan a):(aZ (dG plan) a).getD 0=ld plan a:=by
 obtain ⟨p,hp,rfl⟩:=ha
 unfold dG;rw [iM (fun p=>ld plan p.ID) _ plan h.v.asc p hp rfl];rfl
theorem lE (h:GP plan) (done:List Int):(kL plan done).Pairwise fun a b=>a.ID<b.ID:=h.v.asc.sublist List.filter_sublist
theorem gY (h:GP plan) (done:List Int) {p:Za} (hp:p∈plan):aZ (cG plan done) p.ID=cond (kO plan p && !(d7 done p.ID)) (some (cj plan p.ID)) none:=by
 cases hc:kO plan p && !(d7 done p.ID) with
 | true=>unfold cG;rw [iM (fun p=>cj plan p.ID) _ _ (lE h done) p (List.mem_filter.2 ⟨hp,hc⟩) rfl];rfl
 | false =>
  unfold cG
  rw [kX (fun p=>cj plan p.ID) _ _ fun q hq e=>?_];rfl
  have:=List.mem_filter.1 hq
  have e2:q=p:=mF h.v.asc this.1 hp e
  subst e2;rw [hc] at this;cases this.2
theorem oj {V:Type} (g:Za→V) (a:Int):∀ l:List Za,(l.Pairwise fun a b=>a.ID<b.ID)→ju (l.map fun p=>(p.ID,g p)) a=(l.filter fun p => !(p.ID == a)).map fun p=>(p.ID,g p)
 | [],_=>rfl
 | q::l,h=>by
  have h2:=List.pairwise_cons.1 h
  rw [List.map_cons];unfold ju
  by_cases e:q.ID=a
  ·rw [if_pos e,List.filter_cons,if_neg (by simp [e])]
   congr 1
   symm
   rw [List.filter_eq_self]
   intro p hp;have:=h2.1 p hp
   simp;omega
  rw [if_neg e,List.filter_cons,if_pos (by simp [e]),List.map_cons,oj g a l h2.2]
theorem qZ (h:GP plan) (done:List Int) {p:Za} (hp:p∈plan) (hl:ld plan p.ID=p.ID):ju (cG plan done) p.ID=cG plan (done++cj plan p.ID):=by
 unfold cG
 rw [oj (fun p=>cj plan p.ID) _ _ (lE h done)]
 congr 1
 unfold kL
 rw [List.filter_filter]
 refine List.filter_congr fun q hq=>?_
 cases hql:kO plan q with
 | false=>simp
 | true =>
  have hql:ld plan q.ID=q.ID:=by unfold kO at hql;simpa using hql
  have:d7 (done++cj plan p.ID) q.ID=(d7 done q.ID||(q.ID == p.ID)):=by
   rw [Bool.eq_iff_iff,cQ,Bool.or_eq_true,cQ,List.mem_append,beq_iff_eq,cV]
   refine or_congr Iff.rfl ⟨fun ⟨_,hb⟩=>?_,fun e=>?_⟩
   ·have:=iI h hb;rw [hl,hql] at this;exact this.symm
   rw [e];exact ⟨⟨p,hp,rfl⟩,fw h _⟩
  rw [this];cases (q.ID == p.ID) <;> cases d7 done q.ID <;> rfl
theorem q6 (h:GP plan) {a:Int} (ha:gS plan a):bA plan (kK plan) a=some (cj plan a):=by
 have hlen:=h.v.len
 unfold bA
 refine ((eR (l:=plan) (by omega) (k:=fun l9=>some l9) (fun i (s:List Int)=>(s,i)) (fun acc q=>cond (bo plan a q.ID) (acc++[q.ID]) acc) (fun s=>s) (fun k s=>s.length≤k) [] (by simp) (fun k hk s hs=>?_) (fun s _=>by dsimp only;rw [fN,eo])).1).trans ?_
 ·dsimp only
  have hid:gS plan plan[k].ID:=⟨_,List.getElem_mem hk,rfl⟩
  have h1:=(ft h a).2.2.1;have h2:=(ft h plan[k].ID).2.2.1
  rw [lv hk,cR,bd hk,cy,ie h ha,ie h hid,lC _ _ (by omega),lC _ _ (by omega),cN hk (by omega)]
  have hb:bo plan a plan[k].ID=((plan[k].ID == a)||(((rl plan a).any fun x=>x == plan[k].ID)&&((rl plan plan[k].ID).any fun x=>x == a))):=rfl
  have fin:∀ c:Bool,Option.bind (cond c (Option.bind (app 8 s [plan[k].ID]) (fun l26=>some l26)) (some s)) (fun l17=>some (Sum.inl (l17,((k+1:Nat):Int)):(List Int×Int)⊕List Int))=some (.inl (cond c (s++[plan[k].ID]) s,((k+1:Nat):Int)))∧(cond c (s++[plan[k].ID]) s).length≤k+1:=fun c=>by
   cases c with
   | false=>exact ⟨rfl,by simp only [eo];omega⟩
   | true=>simp only [cR];rw [dT (by simp;omega) (by simp;omega)];exact ⟨rfl,by simp;omega⟩
  rw [hb]
  cases hx:(plan[k].ID == a) with
  | true=>simp only [Bool.not_true,hT,cy,Bool.false_and,Bool.true_or];exact fin true
  | false =>
   simp only [Bool.not_false,gt,cy,Bool.true_and,Bool.false_or]
   cases hy:((rl plan a).any fun x=>x == plan[k].ID) with
   | true=>simp only [gt,cy,Bool.true_and];exact fin _
   | false=>simp only [hT,cy,Bool.false_and];exact fin false
 congr 1
 have:∀ (l:List Za) (acc:List Int),l.foldl (fun acc q=>cond (bo plan a q.ID) (acc++[q.ID]) acc) acc=acc++(l.filter fun q=>bo plan a q.ID).map (·.ID):=fun l=>by
  induction l with
  | nil=>intro acc;simp
  | cons q l ih=>intro acc;rw [List.foldl_cons,ih,List.filter_cons];cases bo plan a q.ID <;> simp
 rw [this];simp [cj]
def th (plan:List Za) (done:List Int) (p:Za):Bool:=(rl plan p.ID).any fun x=>(aZ (cG plan done) ((aZ (dG plan) x).getD 0)).isSome&&(((aZ (dG plan) x).getD 0) != p.ID)
theorem ti (h:GP plan) (done:List Int) (p:Za):aY (rl plan p.ID) (cG plan done) (dG plan) p=some (th plan done p):=by
 have hl:=(ft h p.ID).2.2.1
 unfold aY
 have e:bh (rl plan p.ID) (cG plan done) (dG plan) p=some (match dI (fun k (x:Int)=>cond ((aZ (cG plan done) ((aZ (dG plan) x).getD 0)).isSome&&(((aZ (dG plan) x).getD 0) != p.ID)) (some (Sum.inr (k:Int):Unit⊕Int)) none) (rl plan p.ID) 0 with | some (.inr k)=>k | _ => -1):=by
  unfold bh
  refine (dU (l:=rl plan p.ID) (by omega) (fun k (x:Int)=>cond ((aZ (cG plan done) ((aZ (dG plan) x).getD 0)).isSome&&(((aZ (dG plan) x).getD 0) != p.ID)) (some (.inr (k:Int))) none) (.inl ()) (fun k hk=>?_) (by rw [fN,eo])).trans ?_
  ·rw [lv hk,cR,bd hk,cy,cN hk (by omega)]
   unfold bB
   rw [cy]
   cases ((aZ (cG plan done) ((aZ (dG plan) (rl plan p.ID)[k]).getD 0)).isSome&&(((aZ (dG plan) (rl plan p.ID)[k]).getD 0) != p.ID)) <;> rfl
  cases dI (fun k (x:Int)=>cond ((aZ (cG plan done) ((aZ (dG plan) x).getD 0)).isSome&&(((aZ (dG plan) x).getD 0) != p.ID)) (some (Sum.inr (k:Int):Unit⊕Int)) none) (rl plan p.ID) 0 with
  | none=>rfl
  | some t=>cases t <;> rfl
 rw [e,cy]
 unfold th
 rcases kE (fun x:Int=>(aZ (cG plan done) ((aZ (dG plan) x).getD 0)).isSome&&(((aZ (dG plan) x).getD 0) != p.ID)) (fun k=>(Sum.inr (k:Int):Unit⊕Int)) (rl plan p.ID) 0 with ⟨h1,h2⟩ | ⟨j,hj,h1,h2⟩
 ·rw [h1,od h2];rfl
 rw [h1,lB h2]
 show some (decide (0≤((0+j:Nat):Int)))=_
 rw [det (by omega)]
def ol (plan:List Za) (done:List Int) (p:Za):Bool:=(aZ (cG plan done) p.ID).isSome && !(th plan done p)
theorem q8 (h:GP plan) (done:List Int):bt plan (kK plan) (dG plan) (cG plan done)=some (match plan.find? (ol plan done) with | some p=>(p.ID,true) | none=>(0,false)):=by
 have hlen:=h.v.len
 unfold bt
 refine (dU (l:=plan) (by omega) (fun k (p:Za)=>cond (ol plan done p) (some (.inr (p.ID,true))) none) (.inl ()) (fun k hk=>?_) (by rw [fN,eo])).trans ?_
 ·have hid:gS plan plan[k].ID:=⟨_,List.getElem_mem hk,rfl⟩
  rw [lv hk,cR,bd hk,cy,ie h hid,ti h,cN hk (by omega)]
  unfold ol
  cases (aZ (cG plan done) plan[k].ID).isSome with
  | false=>rfl
  | true =>
   simp only [Bool.not_true,eo,cy,Bool.true_and]
   cases th plan done plan[k] <;> rfl
 rw [hZ (ol plan done) (fun p=>(Sum.inr (p.ID,true):Unit⊕(Int×Bool))) plan 0]
 cases plan.find? (ol plan done) <;> rfl
theorem kM (h:GP plan) {s:List (List Int)×List Int} (hc:CI plan s) {p:Za} (hp:p∈plan):ol plan s.2 p=(kO plan p&&iJ plan s.2 p):=by
 unfold ol iJ
 rw [gY h s.2 hp]
 cases hl:kO plan p with
 | false=>rfl
 | true =>
  have hld:ld plan p.ID=p.ID:=by unfold kO at hl;simpa using hl
  cases hd:d7 s.2 p.ID with
  | true=>rfl
  | false =>
   simp only [Bool.not_false,Bool.and_self,cR,Option.isSome_some,Bool.true_and]
   rw [Bool.eq_iff_iff,Bool.not_eq_true',← Bool.not_eq_true]
   unfold th tc
   rw [List.any_eq_true,List.all_eq_true]
   constructor
   ·intro hn q hq
    cases hb:bo plan p.ID q.ID with
    | true=>rfl
    | false =>
     cases hr:ox plan p.ID q.ID with
     | false=>rfl
     | true =>
      rw [Bool.false_or,Bool.not_true,Bool.false_or]
      cases hm:d7 s.2 q.ID with
      | true=>rfl
      | false =>
       refine absurd ⟨q.ID,cQ.1 hr,?_⟩ hn
       rw [lD h ⟨q,hq,rfl⟩]
       obtain ⟨r,_,⟨w,hw,e⟩,k3,_⟩:=iH h ⟨q,hq,rfl⟩
       rw [← e,gY h s.2 hw]
       have hwl:kO plan w=true:=by unfold kO;rw [e,← iI h k3,beq_self_eq_true]
       have hwd:d7 s.2 w.ID=false:=cg.2 fun hm2=>cg.1 hm (hc.cl _ _ hm2 ⟨q,hq,rfl⟩ (by rw [e];exact gp h k3))
       rw [hwl,hwd]
       simp only [Bool.not_false,Bool.and_self,cR,Option.isSome_some,Bool.true_and,bne_iff_ne,ne_eq]
       intro e2
       rw [← e2,e,gp h k3] at hb
       cases hb
   rintro hall ⟨x,hx,hk⟩
   have hxt:Ze plan p.ID x:=((ft h _).2.2.2.mem x).1 hx
   obtain ⟨q,hq,rfl⟩:=tc_id h hxt
   have:=hall q hq
   rw [lD h ⟨q,hq,rfl⟩,Bool.and_eq_true] at hk
   obtain ⟨r,_,⟨w,hw,e⟩,k3,_⟩:=iH h ⟨q,hq,rfl⟩
   rw [Bool.or_eq_true,Bool.or_eq_true,Bool.not_eq_true'] at this
   rcases this with k | k | k
   ·have:=iI h k
    rw [hld] at this
    rw [← this] at hk;simp at hk
   ·rw [(fu h).2 hxt] at k;cases k
   rw [← e,gY h s.2 hw,cQ.2 (hc.cl _ _ (cQ.1 k) ⟨w,hw,rfl⟩ (by rw [e];exact k3))] at hk
   simp at hk
theorem q9 (h:GP plan) {s:List (List Int)×List Int} (hc:CI plan s):plan.find? (ol plan s.2)=oy plan s.2:=by
 cases hn:oy plan s.2 with
 | none =>
  rw [List.find?_eq_none]
  intro p hp
  have:=List.find?_eq_none.1 hn p hp
  rw [kM h hc hp];simp at this ⊢;intro _;exact this
 | some p =>
  have hl:=tg h hc hn
  unfold oy at hn
  obtain ⟨hb,i,hi,rfl,hfirst⟩:=List.find?_eq_some_iff_getElem.1 hn
  rw [List.find?_eq_some_iff_getElem]
  refine ⟨?_,i,hi,rfl,fun j hj=>?_⟩
  ·rw [kM h hc (List.getElem_mem hi),hb];unfold kO;rw [hl];simp
  have:=hfirst j hj
  rw [kM h hc (List.getElem_mem _)]
  simp at this ⊢;exact .inr this
end
theorem Y.fold {S T α A β:Type} {l:List α} (hl:l.length≤4611686018427387904) {body:S→Option (S⊕T)} {k:T→Option β} {Q:β→Prop} (pack:Int→A→S) (f:A→α→A) (fin:A→T) (P:Nat→A→Prop) (a:A) (h0:P 0 a)
    (hstep:∀ (k:Nat) (hk:k<l.length) (a:A),P k a→body (pack (k:Int) a)=some (.inl (pack ((k+1:Nat):Int) (f a l[k])))∧P (k+1) (f a l[k]))
    (hend:∀ a,P l.length a→body (pack (l.length:Int) a)=some (.inr (fin a))) (hk:P l.length (l.foldl f a)→Y (k (fin (l.foldl f a))) Q):Y (Option.bind (aT body FUEL (pack 0 a)) k) Q:=by
  have:=eR (k:=k) hl pack f fin P a h0 hstep hend
  rw [this.1];exact hk this.2
theorem lF {A B α:Type} (f:A→α→A) (g:B→α→B):∀ (l:List α) (a:A) (b:B),l.foldl (fun s x=>(f s.1 x,g s.2 x)) (a,b)=(l.foldl f a,l.foldl g b)
 | [],_,_=>rfl
 | x::l,a,b=>by rw [List.foldl_cons,lF f g l];rfl
theorem jq {A α:Type} (c:α→Bool) (f:A→α→A):∀ (l:List α) (a:A),l.foldl (fun s x=>cond (c x) (f s x) s) a=(l.filter c).foldl f a
 | [],_=>rfl
 | x::l,a=>by rw [List.foldl_cons,jq c f l,List.filter_cons];cases c x <;> rfl
theorem om:∀ l:List (List Int),(∀ x∈l,x≠[])→l.length≤l.flatten.length
 | [],_=>Nat.le_refl _
 | x::l,h=>by
  have:=om l fun y hy=>h y (by simp [hy])
  have h2:0<x.length:=List.length_pos_iff.2 (h x (by simp))
  rw [List.flatten_cons,List.length_append,List.length_cons];omega
section
variable {plan:List Za}
theorem CI.out (h:GP plan) {s:List (List Int)×List Int} (hc:CI plan s):s.1.length≤64∧s.2.length≤64:=by
 have h1:=hc.len h;have h2:=h.v.len
 have:=om s.1 fun x hx e=>by
  obtain ⟨i,hi,rfl⟩:=List.getElem_of_mem hx
  obtain ⟨a,ha,k,_⟩:=hc.ord i hi
  have:a∈cj plan a:=cV.2 ⟨ha,fw h a⟩
  rw [← k,e] at this;cases this
 rw [← hc.fl] at this
 omega
theorem oo {s:List (List Int)×List Int} {p:Za} (hn:oy plan s.2=some p):stp plan s=(s.1++[cj plan p.ID],s.2++cj plan p.ID):=by
 unfold stp;rw [hn]
theorem jy (h:GP plan):Y (bg plan) (fun r=>∃ n,r=(cW plan n).1∧Dn plan (cW plan n)):=by
 have hlen:=h.v.len
 unfold bg
 rw [oA (show ¬ (64:Int)<(plan.length:Int) by omega),eo]
 refine Y.fold (S:=Int×(List (Int×(List Int)))) (l:=plan) (by omega) (fun i s=>(i,s)) (fun acc p=>dH acc p.ID (rl plan p.ID)) (fun s=>s) (fun _ _=>True) ([]:List (Int×List Int)) trivial (fun k hk s _=>⟨?_,trivial⟩) (fun s _=>by dsimp only;rw [fN,eo]) fun _=>?_
 ·dsimp only
  rw [lv hk,cR,bd hk,cy,(ft h _).1,cy,cN hk (by omega)]
 have e1:plan.foldl (fun acc p=>dH acc p.ID (rl plan p.ID)) []=kK plan:=gq (fun p=>rl plan p.ID) plan [] (by simp) h.v.asc
 rw [e1]
 refine Y.fold (S:=Int×(List (Int×Int))×(List (Int×(List Int)))) (l:=plan) (by omega) (fun i s=>(i,s.1,s.2)) (fun s p=>(dH s.1 p.ID (ld plan p.ID),cond (kO plan p) (dH s.2 p.ID (cj plan p.ID)) s.2)) (fun s=>s) (fun _ _=>True) (([]:List (Int×Int)),([]:List (Int×List Int))) trivial (fun k hk s _=>⟨?_,trivial⟩) (fun s _=>?_) fun _=>?_
 ·dsimp only
  have hid:gS plan plan[k].ID:=⟨_,List.getElem_mem hk,rfl⟩
  obtain ⟨r,e,_⟩:=iH h hid
  have e0:idx (cj plan plan[k].ID) 0=some (ld plan plan[k].ID):=by rw [e];exact bd (k:=0) (by simp)
  rw [lv hk,cR,bd hk,cy,q6 h hid,cy,e0,cy,cy,cN hk (by omega)]
  show Option.bind (cond (kO plan plan[k]) _ _) _=_
  cases kO plan plan[k] <;> rfl
 ·dsimp only;rw [fN,eo]
 have e2:plan.foldl (fun s p=>(dH s.1 p.ID (ld plan p.ID),cond (kO plan p) (dH s.2 p.ID (cj plan p.ID)) s.2)) (([]:List (Int×Int)),([]:List (Int×List Int)))=(dG plan,cG plan []):=by
  rw [lF (fun acc p=>dH acc p.ID (ld plan p.ID)) (fun acc p=>cond (kO plan p) (dH acc p.ID (cj plan p.ID)) acc),gq (fun p=>ld plan p.ID) plan [] (by simp) h.v.asc,jq,gq (fun p=>cj plan p.ID) _ [] (by simp) (h.v.asc.sublist List.filter_sublist)]
  have:kL plan []=plan.filter (kO plan):=List.filter_congr fun p _=>by rw [show d7 [] p.ID=false from rfl];simp
  unfold cG dG;rw [this];rfl
 rw [e2]
 refine Y.bind (P:=fun r=>∃ n,r=(cW plan n).1∧Dn plan (cW plan n)) (Y.loop (fun s:List (List Int)×List (Int×List Int)=>∃ n,s=((cW plan n).1,cG plan (cW plan n).2)) (fun s=>s.2.length) ⟨0,rfl⟩ (by show (cG plan []).length≤_;unfold cG kL;rw [List.length_map];have:=List.length_filter_le (fun p=>kO plan p && !(d7 [] p.ID)) plan;omega) fun s hs=>?_) fun r hr=>Y.ret hr
 obtain ⟨n,rfl⟩:=hs
 have hc:=CI.itr h n
 dsimp only
 refine Y.cond (fun _=>?_) fun hz=>?_
 ·rw [q8 h,cy,q9 h hc]
  cases hn:oy plan (cW plan n).2 with
  | none =>
   refine Y.ret ⟨n,rfl,?_⟩
   by_cases hd:Dn plan (cW plan n)
   ·exact hd
   ·obtain ⟨p,hp⟩:=tf h hd;rw [hn] at hp;cases hp
  | some p =>
   obtain ⟨hp,hnd,_⟩:=iK hn
   have hl:=tg h hc hn
   have hil:kO plan p=true:=by unfold kO;rw [hl];simp
   have ho:=hc.out h
   dsimp only
   rw [Bool.not_true,eo,gY h _ hp,hil,cg.2 hnd]
   simp only [Bool.not_false,Bool.and_self,cR,Option.getD_some]
   rw [dT (by simp;omega) (by simp;omega),cy,qZ h _ hp hl]
   refine Y.ret ⟨⟨n+1,?_⟩,?_⟩
   ·show _=((stp plan (cW plan n)).1,cG plan (stp plan (cW plan n)).2)
    rw [oo hn]
   dsimp only
   unfold cG kL
   rw [List.length_map,List.length_map]
   refine i5 (fun q _ hq=>?_) ⟨p,hp,by rw [hil,cg.2 hnd];rfl,?_⟩
   ·rw [Bool.and_eq_true,Bool.not_eq_true',cg] at hq ⊢
    exact ⟨hq.1,fun hm=>hq.2 (List.mem_append.2 (.inl hm))⟩
   rw [cQ.2 (List.mem_append.2 (.inr (cV.2 ⟨⟨p,hp,rfl⟩,fw h _⟩)))];simp
 refine Y.ret ⟨n,rfl,fun p hp=>?_⟩
 have hz:=of_decide_eq_false hz
 by_cases hm:p.ID∈(cW plan n).2
 ·exact hm
 obtain ⟨r,_,⟨w,hw,e⟩,k3,_⟩:=iH h ⟨p,hp,rfl⟩
 have hwl:kO plan w=true:=by unfold kO;rw [e,← iI h k3,beq_self_eq_true]
 have hwd:d7 (cW plan n).2 w.ID=false:=cg.2 fun hm2=>hm (hc.cl _ _ hm2 ⟨p,hp,rfl⟩ (by rw [e];exact gp h k3))
 have:w∈kL plan (cW plan n).2:=List.mem_filter.2 ⟨hw,by rw [hwl,hwd];rfl⟩
 have:=List.length_pos_of_mem this
 unfold cG at hz;rw [List.length_map] at hz;omega
def rfF (plan:List Za) (done:List Int) (a:Int) (s:List Int×Bool) (q:Za):List Int×Bool:=cond (bo plan a q.ID) (s.1++[q.ID],s.2) (cond (ox plan a q.ID && !(d7 done q.ID)) (s.1,false) (s.1,s.2))
theorem oq (done:List Int) (a:Int):∀ (l:List Za) (s:List Int×Bool),l.foldl (rfF plan done a) s=(s.1++(l.filter fun q=>bo plan a q.ID).map (·.ID),s.2&&l.all fun q=>bo plan a q.ID||(!(ox plan a q.ID)||d7 done q.ID))
 | [],s=>by simp
 | q::l,s=>by
  rw [List.foldl_cons,oq done a l,List.filter_cons,List.all_cons]
  unfold rfF
  cases bo plan a q.ID <;> cases ox plan a q.ID <;> cases d7 done q.ID <;> simp
theorem kN (h:GP plan):Y (dY plan) (fun r=>∃ n,r=(cW plan n).1∧Dn plan (cW plan n)):=by
 have hlen:=h.v.len
 unfold dY
 refine Y.bind (P:=fun r=>∃ n,r=(cW plan n).1∧Dn plan (cW plan n)) (Y.loop (fun s:List (List Int)×List Int=>∃ n,s=cW plan n) (fun s=>plan.length - s.2.length) ⟨0,rfl⟩ (by dsimp only;omega) fun s hs=>?_) fun r hr=>Y.ret hr
 obtain ⟨n,rfl⟩:=hs
 have hc:=CI.itr h n
 have ho:=hc.out h
 generalize hs:cW plan n=s at *
 obtain ⟨out,done⟩:=s
 dsimp only at ho ⊢
 refine Y.cond (fun hlt=>?_) fun hge=>?_
 rotate_left
 ·have hge:=of_decide_eq_false hge
  exact Y.ret ⟨n,by rw [hs],by rw [hs];exact hc.full h (by dsimp only;omega)⟩
 have hlt:=of_decide_eq_true hlt
 have key:∀ {k:(List (List Int))×(List Int)→Option (((List (List Int))×(List Int))⊕(List (List Int)))} {body:Int→Option (Int⊕((List (List Int))×(List Int)))} (hb:∀ (k:Nat) (hk:k<plan.length),body (k:Int)=some (outg k (cond (iJ plan done plan[k]) (some (out++[cj plan plan[k].ID],done++cj plan plan[k].ID)) none))) (he:body (plan.length:Int)=some (.inr (out,done))),Option.bind (aT body FUEL 0) k=k (stp plan (out,done)):=fun {k body} hb he=>by
  refine (dU (l:=plan) (by omega) (fun _ p=>cond (iJ plan done p) (some (out++[cj plan p.ID],done++cj plan p.ID)) none) (out,done) hb he).trans ?_
  rw [hZ (iJ plan done) (fun p=>(out++[cj plan p.ID],done++cj plan p.ID)) plan 0]
  unfold stp oy
  cases plan.find? (iJ plan done) <;> rfl
 rw [key (fun k hk=>?_) (by rw [fN,eo])]
 ·obtain ⟨p,hp⟩:=tf (done:=done) h fun hd=>by have:=Dn.len (s:=(out,done)) h hd;dsimp only at this;omega
  have e:stp plan (out,done)=_:=oo (s:=(out,done)) hp
  refine Y.ret ⟨⟨n+1,?_⟩,?_⟩
  ·show _=stp plan (cW plan n);rw [hs]
  rw [e];dsimp only
  obtain ⟨hpm,_,_⟩:=iK hp
  have:p.ID∈cj plan p.ID:=cV.2 ⟨⟨p,hpm,rfl⟩,fw h _⟩
  have:=List.length_pos_of_mem this
  rw [List.length_append];omega
 rw [lv hk,cR,bd hk,cy,i4 _ _ (by omega),cy,cN hk (by omega)]
 show cond (d7 done plan[k].ID) _ _=_
 unfold iJ
 cases hm:d7 done plan[k].ID with
 | true=>rfl
 | false =>
  rw [eo,cy,(ft h _).2.1,cy,Bool.not_false,Bool.true_and]
  refine ((eR (S:=(List Int)×Bool×Int) (l:=plan) (by omega) (fun i (s:List Int×Bool)=>(s.1,s.2,i)) (rfF plan done plan[k].ID) (fun s=>s) (fun k s=>s.1.length≤k) (([]:List Int),true) (by simp) (fun j hj s hs=>?_) (fun s _=>by dsimp only;rw [fN,eo])).1).trans ?_
  ·dsimp only
   have hq:=ft h plan[j].ID;have hp:=ft h plan[k].ID
   rw [lv hj,cR,bd hj,cy,cy,cN hj (by omega),pj _ _ (by omega),i4 _ _ (by omega),hq.2.1]
   have hb:bo plan plan[k].ID plan[j].ID=((plan[j].ID == plan[k].ID)||(((rl plan plan[k].ID).any fun x=>x == plan[j].ID)&&((rl plan plan[j].ID).any fun x=>x == plan[k].ID))):=rfl
   have hi:ox plan plan[k].ID plan[j].ID=((rl plan plan[k].ID).any fun x=>x == plan[j].ID):=rfl
   have hd:d7 done plan[j].ID=(done.any fun x=>x == plan[j].ID):=rfl
   have ha:app 8 s.1 [plan[j].ID]=some (s.1++[plan[j].ID]):=dT (by simp;omega) (by simp;omega)
   have hr:=pj (rl plan plan[j].ID) plan[k].ID (by omega)
   unfold rfF
   rw [hb,hi,hd]
   cases hx:(plan[j].ID == plan[k].ID) with
   | true=>simp [hT,ha];omega
   | false =>
    cases hy:((rl plan plan[k].ID).any fun x=>x == plan[j].ID) with
    | true =>
     cases hz:((rl plan plan[j].ID).any fun x=>x == plan[k].ID) with
     | true=>simp [gt,ha,hr,hz];omega
     | false=>cases hw:(done.any fun x=>x == plan[j].ID) <;> simp [gt,hr,hz] <;> omega
    | false=>simp [hT,gt];omega
  rw [oq]
  have e1:([]:List Int)++(plan.filter fun q=>bo plan plan[k].ID q.ID).map (·.ID)=cj plan plan[k].ID:=rfl
  have e2:(true&&plan.all fun q=>bo plan plan[k].ID q.ID||(!(ox plan plan[k].ID q.ID)||d7 done q.ID))=tc plan done plan[k].ID:=rfl
  have hcl:=qg h plan[k].ID
  dsimp only
  rw [e1,e2]
  cases tc plan done plan[k].ID with
  | false=>rfl
  | true=>rw [cR,dT (by simp;omega) (by simp;omega),cy,dT (by omega) (by omega),cy];rfl
theorem jz (h:GP plan):∃ n,bg plan=some (cW plan n).1∧dY plan=some (cW plan n).1∧Dn plan (cW plan n):=by
 obtain ⟨r,e,n,rfl,h1⟩:=jy h
 obtain ⟨s,e2,m,rfl,h2⟩:=kN h
 refine ⟨n,e,?_,h1⟩
 rw [qX h1 h2];exact e2
end
theorem kY (m0:List Int) {κ:Kr} {v0:List Value} (_:Rps κ (eL eI m0) v0):cF m0=some true:=by
 have key:Y (cF m0) (fun r=>r=true):=by
  unfold cF
  refine (plan_Y m0).bind fun p hp=>?_
  have h:GP p:=⟨hp.vps,hp.vids⟩
  obtain ⟨n,e1,_,hd⟩:=jz h
  have hc:=CI.itr h n
  have ho:=hc.out h
  have hfl:=hc.fl
  generalize cW p n=s at *
  obtain ⟨out,done⟩:=s
  dsimp only at ho hfl e1
  have hlen:=h.v.len
  rw [e1,cy]
  refine Y.bind (P:=fun t:Unit⊕Bool=>t=.inl ()) (Y.loop (fun s:(List Int)×Int=>∃ k:Nat,s.2=(k:Int)∧k≤out.length∧s.1=(out.take k).flatten) (fun s=>(out.length - s.2).toNat) ⟨0,rfl,by omega,by simp⟩ (by show ((out.length:Int) - 0).toNat≤_;omega) fun s hs=>?_) fun t ht=>?_
  rotate_left
  ·subst ht
   dsimp only
   rw [awake13,cy];exact Y.ret rfl
  obtain ⟨l,i⟩:=s
  obtain ⟨k,hi,hk,hv⟩:=hs
  dsimp only at hi hv ⊢
  subst hi hv
  rcases Nat.lt_or_ge k out.length with hk2 | hk2
  rotate_left
  ·have e:k=out.length:=by omega
   subst e
   rw [fN,eo]
   exact Y.ret rfl
  obtain ⟨a,_,hcm,hin⟩:=hc.ord k hk2
  have hb:=qg h a
  dsimp only at hcm hin
  have hle:(out.take (k+1)).flatten=(out.take k).flatten++out[k]:=by
   rw [List.take_add_one,List.getElem?_eq_getElem hk2,List.flatten_append];simp
  have hle2:(out.take (k+1)).flatten.length≤64:=by
   have:out.flatten.length=(out.take (k+1)).flatten.length+(out.drop (k+1)).flatten.length:=by rw [← List.length_append,← List.flatten_append,List.take_append_drop]
   rw [hfl] at ho;omega
  have hb2:out[k].length≤64:=by rw [hcm];exact hb
  have hle3:(out.take k).flatten.length+out[k].length≤64:=by rw [hle,List.length_append] at hle2;exact hle2
  rw [lv hk2,cR,bd hk2,cy,dT (by omega) (by omega),cy,← hle]
  generalize hall:(out.take (k+1)).flatten=all at *
  refine Y.bind (P:=fun t:Unit⊕((List Int×Int)⊕(Unit⊕Bool))=>t=.inl ()) (Y.loop (fun v:Int=>∃ j:Nat,v=(j:Int)∧j≤out[k].length) (fun v=>(out[k].length - v).toNat) ⟨0,rfl,by omega⟩ (by omega) fun v hv=>?_) fun t ht=>?_
  rotate_left
  ·subst ht
   dsimp only
   rw [cN hk2 (by omega)]
   exact Y.ret ⟨⟨k+1,rfl,hk2,hall.symm⟩,by dsimp only;omega⟩
  obtain ⟨j,rfl,hj⟩:=hv
  rw [cy]
  rcases Nat.lt_or_ge j out[k].length with hj2 | hj2
  rotate_left
  ·have e:j=out[k].length:=by omega
   subst e
   rw [fN,eo]
   exact Y.ret rfl
  have hr:∀ x∈out[k],aR p x=some (rl p a):=fun x hx=>by
   rw [hcm] at hx
   rw [og h (cV.1 hx).2];exact (ft h x).1
  have hra:=ft h a
  rw [lv hj2,cR,cy,bd hj2,cy,hr _ (List.getElem_mem hj2),cy]
  refine Y.bind (P:=fun t:Unit⊕(Int⊕(Unit⊕((List Int×Int)⊕(Unit⊕Bool))))=>t=.inl ()) (Y.loop (fun v:Int=>∃ m:Nat,v=(m:Int)∧m≤(rl p a).length) (fun v=>((rl p a).length - v).toNat) ⟨0,rfl,by omega⟩ (by omega) fun v hv=>?_) fun t ht=>?_
  ·obtain ⟨m,rfl,hm⟩:=hv
   rcases Nat.lt_or_ge m (rl p a).length with hm2 | hm2
   rotate_left
   ·have e:m=(rl p a).length:=by omega
    subst e
    rw [fN,eo]
    exact Y.ret rfl
   have hmem:d7 all (rl p a)[m]=true:=cQ.2 (hin _ (List.getElem_mem hm2))
   unfold d7 at hmem
   rw [lv hm2,cR,bd hm2,cy,i4 _ _ (by omega),cy,hmem,Bool.not_true,eo,cN hm2 (by omega)]
   exact Y.ret ⟨⟨m+1,rfl,hm2⟩,by omega⟩
  subst ht
  dsimp only
  rw [cy]
  cases hc1:decide (1<(out[k].length:Int)) with
  | false =>
   simp only [hT,cy,Bool.false_and,eo]
   rw [cN hj2 (by omega)];exact Y.ret ⟨⟨j+1,rfl,hj2⟩,by omega⟩
  | true =>
   have h0:idx out[k] 0=some (out[k][0]'(by omega)):=bd (k:=0) (by omega)
   simp only [gt,cy,h0,hr _ (List.getElem_mem (show 0<out[k].length by omega)),qU (show (rl p a).length≤140737488355328 by omega),Bool.not_true,Bool.and_false,eo]
   rw [cN hj2 (by omega)];exact Y.ret ⟨⟨j+1,rfl,hj2⟩,by omega⟩
 obtain ⟨r,e,rfl⟩:=key
 exact e
def bd3:Nat→Int→Prop:=fun _ _=>True
theorem op3 {H:Type} {eh:TypeId×Value→H} {nb:Nat}:Opens eh nb 3 eI (bd3 nb):=qK rfl
def bd23:Nat→(List Int)→Prop:=fun n l=>l.length*8≤140737488355328∧l.length≤n∧∀ x∈l,bd3 n x
theorem op23 {H:Type} {eh:TypeId×Value→H} {nb:Nat}:Opens eh nb 23 (eL eI) (bd23 nb):=nM rfl rfl rfl rfl op3
end SX
end Go.Proofs.YtipjgkapcgpgbaaDoor
set_option maxRecDepth 100000
namespace Go.Proofs.YtipjgkapcgpgbaaDoor
open Go Go.ChangeShapes Go.WideShapes Go.RowKit
open SX
theorem planOrder_lifted (os:Os) (started:os.Started) (H:Type) (enc:TypeId×Value→H) :
    ReturnsInHanded {} Tryd.checked os 6 .any (fun w args=>(Rows.planOrderSpec.pre enc Tryd.prog Tryd.f6 [] false w args∧laidMetH Tryd.prog lw w)∧sizedMet enc Tryd.prog Tryd.f6 (OpenSpec.ofChange Rows.planOrderSpec) false w args)
      (Rows.planOrderSpec.post enc Tryd.prog Tryd.f6 false true false false):=by
  refine returnsInHanded_of_change_and (C:=Tryd.checked) (X:=fun w _=>laidMetH Tryd.prog lw w) (fun _ _ _ hh h=>h.of_heap hh) own_ok started (by kernel_rfl) Tryd.func6
    (ChangeSpec.witness_at (enc:=enc) (C:=Tryd.checked) (os:=os) (X:=fun w _=>laidMetH Tryd.prog lw w) false (laidWorld os) #[.slice none 0 0] 8 rfl (by kernel_rfl) (by kernel_rfl) (by kernel_rfl) (by kernel_rfl) (by kernel_rfl) (kV os _)) ?_
  intro W base args ds gs before hval0 hW _ hwt hL _
  have hval:∀ (j:Nat) t v,Tryd.f6.params[j]?=some t→args[j]?=some v→Value.okWide Tryd.prog W .any base t v:=hval0
  have hW2:=hW
  obtain ⟨p,q,hA0,hV0,rfl,_,_⟩:=hW
  have hA:DataW.TrodAll enc Tryd.prog W 0 (fun _=>true) true [23] args.toList ds p:=hA0
  obtain ⟨rfl,rfl⟩:gs=[]∧q=[]:=by
    cases gs with
    | nil=>exact ⟨rfl,hV0⟩
    | cons g r=>exact absurd hV0 (by intro h;cases h)
  generalize hargs:args.toList=vs at hA
  have hval2:∀ (j:Nat) t v,[23][j]?=some t→vs[j]?=some v→Value.okWide Tryd.prog W .any base t v:=fun j t v h1 h2=>hval j t v (by rw [Tryd.params6];simpa using h1) (by rw [← hargs] at h2;simpa using h2)
  obtain ⟨v0,vs0,d0,ds0,p0,q0,rfl,rfl,h0,hA⟩:=SX.trodAll_cons hA
  obtain ⟨rfl,rfl⟩:=SX.trodAll_nil hA
  have hw:(DataW.weightsEach Tryd.prog [23] [d0]).all (· ≤ reachBytes)=true:=hwt
  obtain ⟨l0,hw⟩:=SX.light_head hw
  obtain ⟨m0,s0,b0⟩:=arg_one rfl rfl op23 (fun _=>⟨_,rfl⟩) (hval2 0 23 v0 rfl rfl) h0 l0 (Nat.le_refl _)
  exact sO (readB (by kernel_rfl)) rfl (aG rfl) rfl (by simp [Rows.planOrderSpec]) hW2 (nO hL) (by rw [hargs];exact s0) (ic (kY m0 s0))
theorem planOrder_holds:Rows.PlanOrderSaid :=
 OpenClaim.holds_of_wide 6 Tryd.f6 rfl rfl rfl rfl rfl rfl rfl ⟨rfl,rfl,rfl,rfl,rfl⟩ rfl rfl rfl rfl rfl planOrder_named Tryd.func6 planOrder_closed
  (of_decide_eq_true (by kernel_rfl)) (by unfold Func.isWrapper;rw [if_neg (of_decide_eq_false (by kernel_rfl))];exact ⟨rfl,rfl⟩)
  (fun os started H enc _=>planOrder_lifted os started H enc)
theorem planOrder_card:Rows.PlanOrderCardSaid :=
 Claim7.holds_tied_plain_at .later [] [.data,.data,.pinned] true (true, "bd0888e3d54737700e71017b2812dab827b3a3f36104f0d145c5211c566f5e81") false
  planOrder_holds (fun _ h=>by cases h) (by as_aux_lemma=>kernel_rfl) (fun _ h=>by cases h) planOrder_row_tie rfl ⟨rfl,rfl⟩ fp_main rfl
  (fun f fn hf hfn=>by
   obtain rfl:f=6:=Option.some.inj ((show Tryd.prog.funcNamed "customs/customslaw13.PlanOrder" = some 6 from planOrder_named).symm.trans hf) |>.symm
   obtain rfl:fn=Tryd.f6:=(Option.some.inj (Tryd.func6.symm.trans hfn)).symm
   exact ⟨fp_looks,fun j t ht=>by
    rw [Tryd.params6] at ht
    exact nP (by as_aux_lemma=>kernel_rfl) ht⟩)
  planOrder_goes
#print axioms planOrder_card
end Go.Proofs.YtipjgkapcgpgbaaDoor
