/- A part of the proof: texts of the walk and of the plain laws, merged. No condition. -/
import Derived.Test.YtgmbmepakpcpaaaGreatDoorM2
set_option linter.unusedVariables false
set_option linter.unusedSimpArgs false
set_option maxHeartbeats 4000000
set_option maxRecDepth 100000
namespace Go.Proofs.YtgmbmepakpcpaaaGreatDoor
namespace SX
open Go
attribute [local irreducible] PWL PWC PWD POpL POpQ PEv PGuardIs PSub PPick PUpd PSplice PFill PLit PF PFV PCall FOk ec dE jy kx il jz Cov PHolds bf idx app mk gd lb nz i5 yt sub ll co kQ ro dT bQ mO rq IntKind.wrap Int.tmod Int.tdiv Op.bytesLess strOfNums
def cr (p0:Zb) (p1:ByteArray) (p2:ByteArray):Option Bool:=(bA p0.Parties p1).bind fun x2=>(gd x2 (bA p0.Parties p2)).bind fun x3=>some (x2&&x3)
theorem gh {p0:Zb} {p1:ByteArray} {p2:ByteArray} {r:Bool}  (h:cr p0 p1 p2=some r):PF 88 [.agg (al p0),pS p1,pS p2] (pB r):=by
 unfold cr at h
 refine bk ?_
 refine ed Tryz.func88 rfl Tryz.ntmps88 Tryz.results88 rfl (aa (ai rfl (bM (cs:=(al p0)) rfl rfl (fun b1=>bm [6] (by kernel_rfl) (cU h fun x2 hx2 h=>ae h fun x3 hx3 h=>aw [0,0] (rg 7 10) [(6,pB (x2&&x3))] (bG 3 (cN hx2) (ey 8 (fun hc=>cN (dB hx3 hc)) bx)) (by kernel_rfl) (em ?_))))))
 exact zz r h rfl
def eo (p0:ByteArray) (p1:ByteArray):Option Bool:=(gd (decide ((p1.size:Int)≤(p0.size:Int))) (ll p0 0 (p1.size:Int))).bind fun s1=>some ((decide ((p1.size:Int)≤(p0.size:Int)))&&(decide (s1=p1)))
theorem kj {p0:ByteArray} {p1:ByteArray} {r:Bool}  (h:eo p0 p1=some r):PF 164 [pS p0,pS p1] (pB r):=by
 unfold eo at h
 refine bk ?_
 refine ed Tryz.func164 rfl Tryz.ntmps164 Tryz.results164 rfl (aU [4] (by kernel_rfl) (cU h fun s1 hs1 h=>aw [] (rg 5 13) [(4,pB ((decide ((p1.size:Int)≤(p0.size:Int)))&&(decide (s1=p1))))] (fossg 9 (dB hs1) bx) (by kernel_rfl) (em ?_)))
 exact zz r h rfl
def dG (p0:ByteArray) (p1:ByteArray):Option Bool:=(eo p0 p1).bind fun x1=>some x1
theorem lX {p0:ByteArray} {p1:ByteArray} {r:Bool}  (h:dG p0 p1=some r):PF 129 [pS p0,pS p1] (pB r):=by
 unfold dG at h
 refine bk ?_
 refine ed Tryz.func129 rfl Tryz.ntmps129 Tryz.results129 rfl (aU [4] (by kernel_rfl) (cU h fun x1 hx1 h=>aw [] [5,6,7] [(4,pB x1)] (bG 2 (kj hx1) bx) (by kernel_rfl) (em ?_)))
 exact zz r h rfl
def gQ (rec:Zd→Int→Option Int) (p0:Zd) (p1:Int):Option Int:=(bf (S:=Int×Int) (T:=(Int)⊕(_)) (fun (v2,v3)=>cond (decide (v3<(p0.Args.length:Int))) ((idx p0.Args v3).bind fun m8=>cond (decide (p1≤v2)) (some (.inr (.inr p1))) ((rec m8 (IntKind.i64.wrap (p1 - v2))).bind fun x11=>some (.inl ((IntKind.i64.wrap (v2+x11)),(IntKind.i64.wrap (v3+1)))))) (some (.inr (.inl v2)))) FUEL (1,0)).bind fun q=>match q with | .inl v4=>some v4 | .inr e=>some e
theorem oV {rec:Zd→Int→Option Int} (hrec:∀ {p0:Zd} {p1:Int} {r:Int},rec p0 p1=some r→PF 165 [.agg (aR p0),pI p1] (pI r)) {p0:Zd} {p1:Int} {r:Int} (h:gQ rec p0 p1=some r):PF 165 [.agg (aR p0),pI p1] (pI r):=by
 unfold gQ at h
 refine bk ?_
 refine ed Tryz.func165 rfl Tryz.ntmps165 Tryz.results165 rfl (aa (ai rfl (bM (cs:=(aR p0)) rfl rfl (fun b1=>bm [4] (by kernel_rfl) (bO (an [(5,pI 1)] (by kernel_rfl) (cY (bj [0] [8] [(9,pL Zd.enc p0.Args),(10,pI (p0.Args.length:Int)),(11,pI 0)] (by kernel_rfl) (gn h fun q6 hq6 h=>?_)))))))))
 refine ar (Y:=Unit×Int) (fun (_,v4)=>[(5,pI v4)]) (fun (_,v4)=>[]) (fun (_,v4)=>q6=Sum.inl v4) ?_ ?_
 ·refine aC ?_
  refine aJ (Y:=Unit) (S:=Int×Int) _ hq6 (fun _ (v2,v3)=>[(1,pI p1),(5,pI v2),(9,pL Zd.enc p0.Args),(10,pI (p0.Args.length:Int)),(11,pI v3)]) (fun _ (v2,v3)=>[]) () (mz rfl) bL ?_
  rintro _ ⟨v2,v3⟩ o τ hb5;(try dsimp only at hb5);dsimp only [az]
  refine ag (an [(12,pB (decide (v3<(p0.Args.length:Int))))] (by kernel_rfl) (bO (kq rfl hb5 (fun hc7 hb5=>?_) fun hc7 hb5=>?_)))
  ·refine ah ?_
   refine bO (gG (ae hb5 fun m8 hm8 hb5=>aa (aS 2 [] [13] [(14,.agg (aR m8))] (qp 0 Zd.enc (Zd.enc_eq _) hm8 bx) (by kernel_rfl) (ai rfl (aM (cs:=[pI 0,pI 0,pN,pI 0,pI 0,pS ByteArray.empty,pN]) rfl rfl rfl rfl (fun b9=>aN rfl rfl (aj (vs:=(aR m8)) rfl rfl rfl rfl rfl bV mA (aB (cY (af [15,16] [(17,pB (decide (p1≤v2)))] (by kernel_rfl) (bT rfl hb5 (fun hc10 hb5=>?_) fun hc10 hb5=>?_)))))))))))
   ·refine ag ?_
    refine af [18] [(4,pI p1)] (by kernel_rfl) (em (aA (iX ?_)))
    refine aW hb5 (fun ht=>?_);subst ht
    refine aL (aV ?_)
    exact zz r h rfl
   refine ah ?_
   refine gn hb5 fun x11 hx11 hb5=>aw [0] (rg 19 7) [(5,pI (IntKind.i64.wrap (v2+x11)))] (bG 5 (hrec hx11) bx) (by kernel_rfl) (fw (af [26] [(11,pI (IntKind.i64.wrap (v3+1)))] (by kernel_rfl) ?_))
   exact aY hb5 () (mz rfl) bL
  refine aP ?_
  refine aq (ak hb5 (fun ht=>am rfl ?_))
  exact au ((),v2) (tN rfl) bL ht.symm
 rintro ⟨_,v4⟩ τ hz;(try dsimp only at hz);subst q6;(try dsimp only at h);dsimp only [az]
 refine ag (af [27] [(4,pI v4)] (by kernel_rfl) (em ?_))
 exact zz r h rfl
def jg (n:Nat):Zd→Int→Option Int:=Nat.rec (motive:=fun _=>Zd→Int→Option Int) (fun _ _=>none) (fun _ ih=>gQ ih) n
def mU (p0:Zd) (p1:Int):Option Int:=jg FUEL p0 p1
theorem qD (n:Nat):∀ {p0:Zd} {p1:Int} {r:Int},jg n p0 p1=some r→PF 165 [.agg (aR p0),pI p1] (pI r):=by
 induction n with
 | zero=>intros;rename_i h;exact nomatch h
 | succ n ih=>intros;rename_i h;exact oV (fun hr=>ih hr) h
theorem ry {p0:Zd} {p1:Int} {r:Int} (h:mU p0 p1=some r):PF 165 [.agg (aR p0),pI p1] (pI r):=qD FUEL h
def jJ (p0:Zd):Option Bool:=cond ((!(p0.Kind == 2))&&(((p0.Digits != 0)||(decide (0<(p0.Except.length:Int))))||(p0.Tolerance != 0))) (some false) (cond ((p0.Kind != 3)&&(p0.Limit != 0)) (some false) (cond ((p0.Kind != 4)&&(!decide (p0.Name=(⟨#[]⟩:ByteArray)))) (some false) (some (((p0.Kind == 5)||(p0.Kind == 6))||((p0.Args.length:Int) == 0)))))
theorem rz {p0:Zd} {r:Bool}  (h:jJ p0=some r):PF 188 [.agg (aR p0)] (pB r):=by
 unfold jJ at h
 refine bk ?_
 refine ed Tryz.func188 rfl Tryz.ntmps188 Tryz.results188 rfl (aa (ai rfl (bM (cs:=(aR p0)) rfl rfl (fun b1=>bm [2] (by kernel_rfl) (bO (bj [0] [5,6,7] [(3,pB (p0.Kind == 2))] (by kernel_rfl) (bO (bj [0,0] (rg 8 8) [(4,pB ((p0.Kind == 5)||(p0.Kind == 6)))] (by kernel_rfl) (bO (gG (bj [0,0,0] (rg 17 18) [(16,pB ((!(p0.Kind == 2))&&(((p0.Digits != 0)||(decide (0<(p0.Except.length:Int))))||(p0.Tolerance != 0))))] (by kernel_rfl) (bT rfl h (fun hc2 h=>?_) fun hc2 h=>?_))))))))))))
 ·refine ag ?_
  refine fm [(2,pB false)] (by kernel_rfl) (iX ?_)
  exact zz r h rfl
 refine ag ?_
 refine bj [0,0] (rg 36 8) [(35,pB ((p0.Kind != 3)&&(p0.Limit != 0)))] (by kernel_rfl) (bT rfl h (fun hc3 h=>?_) fun hc3 h=>?_)
 ·refine ag ?_
  refine fm [(2,pB false)] (by kernel_rfl) (iX ?_)
  exact zz r h rfl
 refine ag ?_
 refine bj [0,0] (rg 45 8) [(44,pB ((p0.Kind != 4)&&(!decide (p0.Name=(⟨#[]⟩:ByteArray)))))] (by kernel_rfl) (bT rfl h (fun hc4 h=>?_) fun hc4 h=>?_)
 ·refine ag ?_
  refine fm [(2,pB false)] (by kernel_rfl) (iX ?_)
  exact zz r h rfl
 refine ah ?_
 refine aD (bO (bj [0] (rg 53 7) [(2,pB (((p0.Kind == 5)||(p0.Kind == 6))||((p0.Args.length:Int) == 0)))] (by kernel_rfl) (em ?_)))
 exact zz r h rfl
def gp (p0:Int):Option Bool:=some ((decide (0≤p0))&&(decide (p0≤1000000)))
theorem jK {p0:Int} {r:Bool}  (h:gp p0=some r):PF 190 [pI p0] (pB r):=by
 unfold gp at h
 refine bk ?_
 refine ed Tryz.func190 rfl Tryz.ntmps190 Tryz.results190 rfl (aU [2] (by kernel_rfl) (bO (af (rg 3 6) [(2,pB ((decide (0≤p0))&&(decide (p0≤1000000))))] (by kernel_rfl) (em ?_))))
 exact zz r h rfl
def cO (rec:Zd→Option Zd) (p0:Zd):Option Zd:=(bz p0.Except).bind fun x3=>(zS 96 (p0.Args.length:Int)).bind fun u7=>(bf (S:=(List Zd)×Int) (T:=((List Zd))) (fun (l11,v14)=>cond (decide (v14<(p0.Args.length:Int))) ((idx p0.Args v14).bind fun m23=>(rec m23).bind fun x25=>(app 96 l11 [x25]).bind fun l28=>some (.inl (l28,(IntKind.i64.wrap (v14+1))))) (some (.inr l11))) FUEL (([]:List Zd),0)).bind fun l18=>some (⟨p0.Kind,p0.Digits,x3,p0.Tolerance,p0.Limit,p0.Name,l18⟩:Zd)
theorem jY {rec:Zd→Option Zd} (hrec:∀ {p0:Zd} {r:Zd},rec p0=some r→PF 131 [.agg (aR p0)] (.agg (aR r))) {p0:Zd} {r:Zd} (h:cO rec p0=some r):PF 131 [.agg (aR p0)] (.agg (aR r)):=by
 unfold cO at h
 refine bk ?_
 refine ed Tryz.func131 rfl Tryz.ntmps131 Tryz.results131 rfl (aa (ai rfl (bM (cs:=(aR p0)) rfl rfl (fun b1=>ai rfl (aM (cs:=[pI 0,pI 0,pN,pI 0,pI 0,pS ByteArray.empty,pN]) rfl rfl rfl rfl (fun b2=>aB (cU h fun x3 hx3 h=>aa (cw 2 [1] [6] [(7,pL eS p0.Except)] (by kernel_rfl) ?_))))))))
 refine ai rfl (ba rfl rfl (ρ1:=[]) (List.Perm.refl _) (dz hx3) ?_);rintro _ _ ⟨a4,c5,rfl,rfl⟩
 refine av 1 [(9,pP b1 2)] (by kernel_rfl) (aN rfl rfl (aj (vs:=[pO a4 x3.length c5]) rfl rfl rfl rfl rfl (cG (cG bV)) (cX (cX kR)) (aB (cU h fun u7 hu7 h=>aa (cw 3 [2] [10,11] [(12,pI (p0.Args.length:Int))] (by kernel_rfl) (ai rfl (zT rfl rfl rfl rfl rfl rfl rfl hu7 (fun b8=>aG [(3,pO (some ⟨b8,0,none⟩) 0 ((p0.Args.length:Int).toNat))] (by kernel_rfl) (cY (bj [3] [14] [(15,pL Zd.enc p0.Args),(16,pI (p0.Args.length:Int)),(17,pI 0)] (by kernel_rfl) (gn h fun q21 hq21 h=>?_)))))))))))
 refine ar (Y:=(Option Addr×Nat)×((List Zd))) (fun ((a16,c17),l18)=>[(1,pP b1 0),(2,pP b2 0),(3,pO a16 l18.length c17)]) (fun ((a16,c17),l18)=>[PRes.b b1 84 [pI p0.Kind,pI p0.Digits,pO a4 x3.length c5,pI p0.Tolerance,pI p0.Limit,pS p0.Name,pL Zd.enc p0.Args],PRes.b b2 84 [pI 0,pI 0,pN,pI 0,pI 0,pS ByteArray.empty,pN],PRes.row a16 l18.length c17 84 7 (List.map Zd.enc l18),PRes.row a4 x3.length c5 9 1 (List.map eS x3)]) (fun ((a16,c17),l18)=>q21=l18) ?_ ?_
 ·refine aC ?_
  refine aJ (Y:=Option Addr×Nat) (S:=(List Zd)×Int) _ hq21 (fun (a12,c13) (l11,v14)=>[(1,pP b1 0),(2,pP b2 0),(3,pO a12 l11.length c13),(15,pL Zd.enc p0.Args),(16,pI (p0.Args.length:Int)),(17,pI v14)]) (fun (a12,c13) (l11,v14)=>[PRes.b b1 84 [pI p0.Kind,pI p0.Digits,pO a4 x3.length c5,pI p0.Tolerance,pI p0.Limit,pS p0.Name,pL Zd.enc p0.Args],PRes.b b2 84 [pI 0,pI 0,pN,pI 0,pI 0,pS ByteArray.empty,pN],PRes.row a12 l11.length c13 84 7 (List.map Zd.enc l11),PRes.row a4 x3.length c5 9 1 (List.map eS x3)]) ((some ⟨b8,0,none⟩),(p0.Args.length:Int).toNat) (rt rfl) (aZ (ap (ap (ap aI))) (aZ (ap (ap aI)) oA)) ?_
  rintro ⟨a12,c13⟩ ⟨l11,v14⟩ o τ hb20;(try dsimp only at hb20);dsimp only [az]
  refine ag (an [(18,pB (decide (v14<(p0.Args.length:Int))))] (by kernel_rfl) (bO (kq rfl hb20 (fun hc22 hb20=>?_) fun hc22 hb20=>?_)))
  ·refine ah ?_
   refine bO (gG (ae hb20 fun m23 hm23 hb20=>aa (aS 2 [] [19] [(20,.agg (aR m23))] (qp 0 Zd.enc (Zd.enc_eq _) hm23 bx) (by kernel_rfl) (ai rfl (aM (cs:=[pI 0,pI 0,pN,pI 0,pI 0,pS ByteArray.empty,pN]) rfl rfl rfl rfl (fun b24=>aN rfl rfl (aj (vs:=(aR m23)) rfl rfl rfl rfl rfl bV mA (aB (gn hb20 fun x25 hx25 hb20=>aa (aS 3 [0] [22] [(21,pO a12 l11.length c13),(23,.agg (aR x25))] (bG 2 (hrec hx25) bx) (by kernel_rfl) ?_))))))))))
   refine ai rfl (bB (css:=List.map Zd.enc [x25]) rfl rfl rfl rfl rfl (by (simp only [List.map_cons,List.map_nil,Zd.enc_eq];(repeat (first | exact hY | apply eZ rfl)))) rfl (by (simp only [List.map_cons,List.map_nil,Zd.enc_eq];rfl)) rfl rfl (fun b26=>?_))
   refine ae hb20 fun l28 hl28 hb20=>?_
   refine ai rfl (bN (enc:=Zd.enc) rfl rfl rfl rfl rfl rfl rfl rfl rfl eP (by exact ap (ap (ap (ap aI)))) hl28 (fun a29 c30=>?_))
   refine aG [(3,pO a29 l28.length c30)] (by kernel_rfl) (fw (af [26] [(17,pI (IntKind.i64.wrap (v14+1)))] (by kernel_rfl) ?_))
   exact aY hb20 (a29,c30) (rt rfl) (aZ (ap (ap (ap aI))) (aZ (ap (ap (ap aI))) (aZ aI (aZ (ap (ap aI)) bL))))
  refine aP ?_
  refine aq (ak hb20 (fun ht=>am rfl ?_))
  exact au ((a12,c13),l11) (lF rfl) yu ht.symm
 rintro ⟨⟨a16,c17⟩,l18⟩ τ hz;(try dsimp only at hz);subst q21;(try dsimp only at h);dsimp only [az]
 refine ag (aa (av 2 [(27,pO a16 l18.length c17),(28,pP b1 6)] (by kernel_rfl) (aN rfl rfl (aj (vs:=[pO a16 l18.length c17]) rfl rfl rfl rfl rfl bV (cX (cX (cX (cX (cX (cX kR)))))) (aB (bO (aa ?_)))))))
 refine jc (css:=List.map eS x3) (a:=a4) (by exact ap (ap (ap aI))) ?_
 refine gB (k:=2) (enc:=eS) (xs:=x3) (b:=b1) (a:=a4) rfl eP (cG bV) ?_
 refine jc (css:=List.map Zd.enc l18) (a:=a16) (by exact ap (ap (ap aI))) ?_
 refine gB (k:=6) (enc:=Zd.enc) (xs:=l18) (b:=b1) (a:=a16) rfl eP (cG (cG bV)) (e9 1 [2] [(29,.agg [pI p0.Kind,pI p0.Digits,pL eS x3,pI p0.Tolerance,pI p0.Limit,pS p0.Name,pL Zd.enc l18])] (by kernel_rfl) (aN rfl rfl (aj (vs:=[pI p0.Kind,pI p0.Digits,pL eS x3,pI p0.Tolerance,pI p0.Limit,pS p0.Name,pL Zd.enc l18]) rfl rfl rfl rfl rfl (cG (cG (cG bV))) mA (aB (em ?_)))))
 obtain rfl:=osi h
 exact aQ (cL (cE rfl zm3 rfl)) bL ⟨rfl,rfl⟩
def dV (n:Nat):Zd→Option Zd:=Nat.rec (motive:=fun _=>Zd→Option Zd) (fun _=>none) (fun _ ih=>cO ih) n
def fT (p0:Zd):Option Zd:=dV FUEL p0
theorem kl (n:Nat):∀ {p0:Zd} {r:Zd},dV n p0=some r→PF 131 [.agg (aR p0)] (.agg (aR r)):=by
 induction n with
 | zero=>intros;rename_i h;exact nomatch h
 | succ n ih=>intros;rename_i h;exact jY (fun hr=>ih hr) h
theorem kE {p0:Zd} {r:Zd} (h:fT p0=some r):PF 131 [.agg (aR p0)] (.agg (aR r)):=kl FUEL h
def bc (p0:(List Zf)) (p1:(List Zf)) (p2:(Zf→Zf→Option Bool)):Option Bool:=cond ((p0.length:Int) != (p1.length:Int)) (some false) ((bf (S:=Int) (T:=(Unit)⊕(_)) (fun v2=>cond (decide (v2<(p0.length:Int))) ((idx p0 v2).bind fun m6=>(idx p1 v2).bind fun m8=>(p2 m6 m8).bind fun x10=>cond (!x10) (some (.inr (.inr false))) (some (.inl (IntKind.i64.wrap (v2+1))))) (some (.inr (.inl ())))) FUEL 0).bind fun q=>match q with | .inl _=>some true | .inr e=>some e)
theorem cB {p0:(List Zf)} {p1:(List Zf)} {p2:(Zf→Zf→Option Bool)} {r:Bool} {g2:PV} (hg2:∀ {y0:Zf} {y1:Zf} {w:Bool},p2 y0 y1=some w→PFV g2 [.agg (cM y0),.agg (cM y1)] (pB w)) (h:bc p0 p1 p2=some r):PF 134 [pL Zf.enc p0,pL Zf.enc p1,g2] (pB r):=by
 unfold bc at h
 refine bk ?_
 refine ed Tryz.func134 rfl Tryz.ntmps134 Tryz.results134 rfl (aU [6] (by kernel_rfl) (cY (af [10,11,12,13] [(14,pB ((p0.length:Int) != (p1.length:Int)))] (by kernel_rfl) (bT rfl h (fun hc1 h=>?_) fun hc1 h=>?_))))
 ·refine ag ?_
  refine fm [(6,pB false)] (by kernel_rfl) (aA ?_)
  exact zz r h rfl
 refine ah ?_
 refine cY (an [(15,pL Zf.enc p0),(16,pI (p0.length:Int)),(17,pI 0)] (by kernel_rfl) (gn h fun q4 hq4 h=>?_))
 refine ar (Y:=Unit×Unit) (fun (_,_)=>[]) (fun (_,_)=>[]) (fun (_,_)=>q4=Sum.inl ()) ?_ ?_
 ·refine aC ?_
  refine aJ (Y:=Unit) (S:=Int) _ hq4 (fun _ v2=>[(1,pL Zf.enc p1),(2,g2),(15,pL Zf.enc p0),(16,pI (p0.length:Int)),(17,pI v2)]) (fun _ v2=>[]) () (mz rfl) bL ?_
  rintro _ v2 o τ hb3;(try dsimp only at hb3);dsimp only [az]
  refine ag (an [(18,pB (decide (v2<(p0.length:Int))))] (by kernel_rfl) (bO (kq rfl hb3 (fun hc5 hb3=>?_) fun hc5 hb3=>?_)))
  ·refine ah ?_
   refine bO (gG (ae hb3 fun m6 hm6 hb3=>aa (aS 3 [] [20] [(19,pI v2),(21,.agg (cM m6))] (db 1 Zf.enc hm6 bx) (by kernel_rfl) (ai rfl (aM (cs:=[pS ByteArray.empty,pI 0,pI 0,pN,pI 0,pI 0,pS ByteArray.empty,pN]) rfl rfl rfl rfl (fun b7=>av 1 [(7,pI v2)] (by kernel_rfl) (aN rfl rfl (aj (vs:=(cM m6)) rfl rfl rfl rfl rfl bV zl8 (aB (cU hb3 fun m8 hm8 hb3=>aa (aS 4 [] [22,23,24] [(25,.agg (cM m8))] (db 2 Zf.enc hm8 bx) (by kernel_rfl) (ai rfl (aM (cs:=[pS ByteArray.empty,pI 0,pI 0,pN,pI 0,pI 0,pS ByteArray.empty,pN]) rfl rfl rfl rfl (fun b9=>aN rfl rfl (aj (vs:=(cM m8)) rfl rfl rfl rfl rfl bV zl8 (aB (cU hb3 fun x10 hx10 hb3=>aw [1,0] [26,27,28,29] [(30,pB (!x10))] (focv 3 (hg2 hx10) bx) (by kernel_rfl) (bT rfl hb3 (fun hc11 hb3=>?_) fun hc11 hb3=>?_))))))))))))))))))
   ·refine ag ?_
    refine fm [(6,pB false)] (by kernel_rfl) (iX ?_)
    refine aW hb3 (fun ht=>?_);subst ht
    refine aL (aV ?_)
    exact zz r h rfl
   refine ah ?_
   refine fw (af [31] [(17,pI (IntKind.i64.wrap (v2+1)))] (by kernel_rfl) ?_)
   exact aY hb3 () (mz rfl) bL
  refine aP ?_
  refine aq (ak hb3 (fun ht=>am rfl ?_))
  exact au ((),()) mN bL ht.symm
 rintro ⟨_,_⟩ τ hz;(try dsimp only at hz);subst q4;(try dsimp only at h);dsimp only [az]
 refine ag (fm [(6,pB true)] (by kernel_rfl) ?_)
 exact zz r h rfl
def cP (p0:(List ByteArray)) (p1:(List ByteArray)):Option Bool:=cond ((p0.length:Int) != (p1.length:Int)) (some false) ((bf (S:=Int) (T:=(Unit)⊕(_)) (fun v2=>cond (decide (v2<(p0.length:Int))) ((idx p0 v2).bind fun m6=>(idx p1 v2).bind fun m7=>cond (!decide (m6=m7)) (some (.inr (.inr false))) (some (.inl (IntKind.i64.wrap (v2+1))))) (some (.inr (.inl ())))) FUEL 0).bind fun q=>match q with | .inl _=>some true | .inr e=>some e)
theorem iQ {p0:(List ByteArray)} {p1:(List ByteArray)} {r:Bool}  (h:cP p0 p1=some r):PF 167 [pL eS p0,pL eS p1] (pB r):=by
 unfold cP at h
 refine bk ?_
 refine ed Tryz.func167 rfl Tryz.ntmps167 Tryz.results167 rfl (aU [4] (by kernel_rfl) (cY (af [6,7,8,9] [(10,pB ((p0.length:Int) != (p1.length:Int)))] (by kernel_rfl) (bT rfl h (fun hc1 h=>?_) fun hc1 h=>?_))))
 ·refine ag ?_
  refine fm [(4,pB false)] (by kernel_rfl) (aA ?_)
  exact zz r h rfl
 refine ah ?_
 refine cY (af [11] [(12,pI (p0.length:Int)),(13,pI 0)] (by kernel_rfl) (gn h fun q4 hq4 h=>?_))
 refine ar (Y:=Unit×Unit) (fun (_,_)=>[]) (fun (_,_)=>[]) (fun (_,_)=>q4=Sum.inl ()) ?_ ?_
 ·refine aC ?_
  refine aJ (Y:=Unit) (S:=Int) _ hq4 (fun _ v2=>[(0,pL eS p0),(1,pL eS p1),(12,pI (p0.length:Int)),(13,pI v2)]) (fun _ v2=>[]) () (jW rfl) bL ?_
  rintro _ v2 o τ hb3;(try dsimp only at hb3);dsimp only [az]
  refine ag (an [(14,pB (decide (v2<(p0.length:Int))))] (by kernel_rfl) (bO (kq rfl hb3 (fun hc5 hb3=>?_) fun hc5 hb3=>?_)))
  ·refine ah ?_
   refine bO (gG (af [15] [(5,pI v2)] (by kernel_rfl) (bO (bJ (ρd:=[]) [(0,0),(1,0),(2,0),(3,0),(4,0),(5,0),(6,0),(7,0),(8,0)] _ (List.Perm.refl _) (by kernel_rfl) rfl (ae hb3 fun m6 hm6 hb3=>ae hb3 fun m7 hm7 hb3=>bR 9 [] (rg 16 8) [(24,pB (!decide (m6=m7)))] (db 2 eS hm6 (db 6 eS hm7 bx)) (by kernel_rfl) (bW (bT rfl hb3 (fun hc8 hb3=>?_) fun hc8 hb3=>?_)))))))
   ·refine ag ?_
    refine fm [(4,pB false)] (by kernel_rfl) (iX ?_)
    refine aW hb3 (fun ht=>?_);subst ht
    refine aL (aV ?_)
    exact zz r h rfl
   refine ah ?_
   refine fw (af [25] [(13,pI (IntKind.i64.wrap (v2+1)))] (by kernel_rfl) ?_)
   exact aY hb3 () (jW rfl) bL
  refine aP ?_
  refine aq (ak hb3 (fun ht=>am rfl ?_))
  exact au ((),()) mN bL ht.symm
 rintro ⟨_,_⟩ τ hz;(try dsimp only at hz);subst q4;(try dsimp only at h);dsimp only [az]
 refine ag (fm [(4,pB true)] (by kernel_rfl) ?_)
 exact zz r h rfl
def be (p0:(List Zd)) (p1:(List Zd)) (p2:(Zd→Zd→Option Bool)):Option Bool:=cond ((p0.length:Int) != (p1.length:Int)) (some false) ((bf (S:=Int) (T:=(Unit)⊕(_)) (fun v2=>cond (decide (v2<(p0.length:Int))) ((idx p0 v2).bind fun m6=>(idx p1 v2).bind fun m8=>(p2 m6 m8).bind fun x10=>cond (!x10) (some (.inr (.inr false))) (some (.inl (IntKind.i64.wrap (v2+1))))) (some (.inr (.inl ())))) FUEL 0).bind fun q=>match q with | .inl _=>some true | .inr e=>some e)
theorem dC {p0:(List Zd)} {p1:(List Zd)} {p2:(Zd→Zd→Option Bool)} {r:Bool} {g2:PV} (hg2:∀ {y0:Zd} {y1:Zd} {w:Bool},p2 y0 y1=some w→PFV g2 [.agg (aR y0),.agg (aR y1)] (pB w)) (h:be p0 p1 p2=some r):PF 168 [pL Zd.enc p0,pL Zd.enc p1,g2] (pB r):=by
 unfold be at h
 refine bk ?_
 refine ed Tryz.func168 rfl Tryz.ntmps168 Tryz.results168 rfl (aU [6] (by kernel_rfl) (cY (af [10,11,12,13] [(14,pB ((p0.length:Int) != (p1.length:Int)))] (by kernel_rfl) (bT rfl h (fun hc1 h=>?_) fun hc1 h=>?_))))
 ·refine ag ?_
  refine fm [(6,pB false)] (by kernel_rfl) (aA ?_)
  exact zz r h rfl
 refine ah ?_
 refine cY (an [(15,pL Zd.enc p0),(16,pI (p0.length:Int)),(17,pI 0)] (by kernel_rfl) (gn h fun q4 hq4 h=>?_))
 refine ar (Y:=Unit×Unit) (fun (_,_)=>[]) (fun (_,_)=>[]) (fun (_,_)=>q4=Sum.inl ()) ?_ ?_
 ·refine aC ?_
  refine aJ (Y:=Unit) (S:=Int) _ hq4 (fun _ v2=>[(1,pL Zd.enc p1),(2,g2),(15,pL Zd.enc p0),(16,pI (p0.length:Int)),(17,pI v2)]) (fun _ v2=>[]) () (mz rfl) bL ?_
  rintro _ v2 o τ hb3;(try dsimp only at hb3);dsimp only [az]
  refine ag (an [(18,pB (decide (v2<(p0.length:Int))))] (by kernel_rfl) (bO (kq rfl hb3 (fun hc5 hb3=>?_) fun hc5 hb3=>?_)))
  ·refine ah ?_
   refine bO (gG (ae hb3 fun m6 hm6 hb3=>aa (aS 3 [] [20] [(19,pI v2),(21,.agg (aR m6))] (qp 1 Zd.enc (Zd.enc_eq _) hm6 bx) (by kernel_rfl) (ai rfl (aM (cs:=[pI 0,pI 0,pN,pI 0,pI 0,pS ByteArray.empty,pN]) rfl rfl rfl rfl (fun b7=>av 1 [(7,pI v2)] (by kernel_rfl) (aN rfl rfl (aj (vs:=(aR m6)) rfl rfl rfl rfl rfl bV mA (aB (cU hb3 fun m8 hm8 hb3=>aa (aS 4 [] [22,23,24] [(25,.agg (aR m8))] (qp 2 Zd.enc (Zd.enc_eq _) hm8 bx) (by kernel_rfl) (ai rfl (aM (cs:=[pI 0,pI 0,pN,pI 0,pI 0,pS ByteArray.empty,pN]) rfl rfl rfl rfl (fun b9=>aN rfl rfl (aj (vs:=(aR m8)) rfl rfl rfl rfl rfl bV mA (aB (cU hb3 fun x10 hx10 hb3=>aw [1,0] [26,27,28,29] [(30,pB (!x10))] (focv 3 (hg2 hx10) bx) (by kernel_rfl) (bT rfl hb3 (fun hc11 hb3=>?_) fun hc11 hb3=>?_))))))))))))))))))
   ·refine ag ?_
    refine fm [(6,pB false)] (by kernel_rfl) (iX ?_)
    refine aW hb3 (fun ht=>?_);subst ht
    refine aL (aV ?_)
    exact zz r h rfl
   refine ah ?_
   refine fw (af [31] [(17,pI (IntKind.i64.wrap (v2+1)))] (by kernel_rfl) ?_)
   exact aY hb3 () (mz rfl) bL
  refine aP ?_
  refine aq (ak hb3 (fun ht=>am rfl ?_))
  exact au ((),()) mN bL ht.symm
 rintro ⟨_,_⟩ τ hz;(try dsimp only at hz);subst q4;(try dsimp only at h);dsimp only [az]
 refine ag (fm [(6,pB true)] (by kernel_rfl) ?_)
 exact zz r h rfl
def cQ (rec:Zd→Zd→Option Bool) (p0:Zd) (p1:Zd):Option Bool:=(gd (((((p0.Kind == p1.Kind)&&(p0.Digits == p1.Digits))&&(p0.Tolerance == p1.Tolerance))&&(p0.Limit == p1.Limit))&&(decide (p0.Name=p1.Name))) (cP p0.Except p1.Except)).bind fun x3=>(gd ((((((p0.Kind == p1.Kind)&&(p0.Digits == p1.Digits))&&(p0.Tolerance == p1.Tolerance))&&(p0.Limit == p1.Limit))&&(decide (p0.Name=p1.Name)))&&x3) (be p0.Args p1.Args (fun y4 y5=>rec y4 y5))).bind fun x6=>some (((((((p0.Kind == p1.Kind)&&(p0.Digits == p1.Digits))&&(p0.Tolerance == p1.Tolerance))&&(p0.Limit == p1.Limit))&&(decide (p0.Name=p1.Name)))&&x3)&&x6)
theorem jZ {rec:Zd→Zd→Option Bool} (hrec:∀ {p0:Zd} {p1:Zd} {r:Bool},rec p0 p1=some r→PF 136 [.agg (aR p0),.agg (aR p1)] (pB r)) {p0:Zd} {p1:Zd} {r:Bool} (h:cQ rec p0 p1=some r):PF 136 [.agg (aR p0),.agg (aR p1)] (pB r):=by
 unfold cQ at h
 refine bk ?_
 refine ed Tryz.func136 rfl Tryz.ntmps136 Tryz.results136 rfl (aa (ai rfl (bM (cs:=(aR p0)) rfl rfl (fun b1=>ai rfl (bM (cs:=(aR p1)) rfl rfl (fun b2=>bm [4] (by kernel_rfl) (cU h fun x3 hx3 h=>ae h fun x6 hx6 h=>aw [1,0,1,0,1,0,1,0,1,0,1,0,1,0] (rg 5 47) [(4,pB (((((((p0.Kind == p1.Kind)&&(p0.Digits == p1.Digits))&&(p0.Tolerance == p1.Tolerance))&&(p0.Limit == p1.Limit))&&(decide (p0.Name=p1.Name)))&&x3)&&x6))] (ey 38 (fun hc=>iQ (dB hx3 hc)) (ey 45 (fun hc=>dC (fun hr=>sT (hrec hr)) (dB hx6 hc)) bx)) (by kernel_rfl) (em ?_))))))))
 exact zz r h rfl
def cR (n:Nat):Zd→Zd→Option Bool:=Nat.rec (motive:=fun _=>Zd→Zd→Option Bool) (fun _ _=>none) (fun _ ih=>cQ ih) n
def fU (p0:Zd) (p1:Zd):Option Bool:=cR FUEL p0 p1
theorem km (n:Nat):∀ {p0:Zd} {p1:Zd} {r:Bool},cR n p0 p1=some r→PF 136 [.agg (aR p0),.agg (aR p1)] (pB r):=by
 induction n with
 | zero=>intros;rename_i h;exact nomatch h
 | succ n ih=>intros;rename_i h;exact jZ (fun hr=>ih hr) h
theorem kF {p0:Zd} {p1:Zd} {r:Bool} (h:fU p0 p1=some r):PF 136 [.agg (aR p0),.agg (aR p1)] (pB r):=km FUEL h
def da (p1:Int):Option (List ByteArray):=(zS 16 p1).bind fun _=>some []
theorem iY {p1:Int} {r:(List ByteArray)} (h:da p1=some r):PCall 169 [.v (.slice none 0 0),pI p1] [] (fun pv ρ'=>∃ a c,pv=.v (.slice a r.length c)∧ρ'=[PRes.row a r.length c 9 1 (List.map eS r)]):=by
 unfold da at h
 obtain ⟨u,hu,h⟩:=Option.bind_eq_some_iff.1 h
 obtain rfl:=osi h
 obtain ⟨hg0,hg1⟩:=mk0_le hu
 have ew:IntKind.i64.wrap (p1 - IntKind.i64.wrap (((0:Nat):Int) - ((0:Nat):Int)))=p1:=xW hg0 hg1
 refine lh Tryz.func169 rfl Tryz.ntmps169 Tryz.results169 rfl ?_
 (repeat refine ag ?_)
 refine aU [4] (by kernel_rfl) (aT ?_)
 (repeat refine ag ?_)
 refine af [5] [(6,pB (decide (p1<0)))] (by kernel_rfl) (aT ?_)
 refine gM rfl (fun hc=>absurd (of_decide_eq_true hc) (by omega)) (fun hc=>?_)
 refine ah (aT ?_)
 (repeat refine ag ?_)
 refine aa (av 2 [(8,pI p1),(9,.v (.slice none 0 0))] (by kernel_rfl) (bK rfl rfl rfl (wW rfl rfl (.p rfl)) (iN [11,12,13,14] [(1,pI (IntKind.i64.wrap (p1 - IntKind.i64.wrap (((0:Nat):Int) - ((0:Nat):Int)))))] (by kernel_rfl) ?_)))
 rw [ew]
 refine aT ?_
 (repeat refine ag ?_)
 refine af [15] [(16,pB (decide (0<p1)))] (by kernel_rfl) (aT ?_)
 refine gM rfl (fun hc=>?_) (fun hc=>?_)
 ·refine aa ?_
  refine av 2 [(17,.v (.slice none 0 0)),(18,.v (.slice none 0 0))] (by kernel_rfl) (bK rfl rfl rfl (wW rfl rfl (.p rfl)) (bK rfl rfl rfl (sb rfl rfl rfl (.p rfl) (.p rfl) rfl (Nat.zero_le _)) (av 1 [(21,pI p1)] (by kernel_rfl) (vx 9 1 ?_))))
  refine ai rfl (zY rfl rfl rfl rfl rfl rfl rfl rfl (of_decide_eq_true hc) hu (by exact aI) (fun a c hac=>?_))
  refine av 2 [(23,.v (.slice none 0 0)),(24,pI 0)] (by kernel_rfl) (bK rfl rfl rfl (sb (k:=0) rfl rfl rfl (.p rfl) (.p rfl) rfl (Nat.zero_le _)) (aG [(0,.v (.slice a 0 c))] (by kernel_rfl) (aT ?_)))
  (repeat refine ag ?_)
  refine af [26] [(4,.v (.slice a 0 c))] (by kernel_rfl) (em ?_)
  exact aQ (cL (aX rfl)) cI ⟨_,_,rfl,rfl⟩
 refine ah ?_
 refine aT ?_
 (repeat refine ag ?_)
 refine af [26] [(4,.v (.slice none 0 0))] (by kernel_rfl) (aT (cF 9 1 (bU ?_)))
 exact aQ (cL (aX rfl)) cI ⟨_,_,rfl,rfl⟩
def bZ (p0:(List (List ByteArray))):Option (List ByteArray):=(bf (S:=Int×Int) (T:=(Int)) (fun (v1,v2)=>cond (decide (v2<(p0.length:Int))) ((idx p0 v2).bind fun m7=>cond (decide ((IntKind.i64.wrap (v1+(m7.length:Int)))<0)) (none) (some (.inl ((IntKind.i64.wrap (v1+(m7.length:Int))),(IntKind.i64.wrap (v2+1)))))) (some (.inr v1))) FUEL (0,0)).bind fun v3=>(da v3).bind fun x9=>(bf (S:=(List ByteArray)×Int) (T:=((List ByteArray))) (fun (l14,v17)=>cond (decide (v17<(p0.length:Int))) ((idx p0 v17).bind fun m25=>(app 16 l14 m25).bind fun l26=>some (.inl (l26,(IntKind.i64.wrap (v17+1))))) (some (.inr l14))) FUEL (x9,0)).bind fun l21=>some l21
theorem ir {p0:(List (List ByteArray))} {r:(List ByteArray)}  (h:bZ p0=some r):PCall 138 [pL (eL eS) p0] [] (fun pv ρ'=>∃ a c,pv=.v (.slice a r.length c)∧ρ'=[PRes.row a r.length c 9 1 (List.map eS r)]):=by
 unfold bZ at h
 refine ed Tryz.func138 rfl Tryz.ntmps138 Tryz.results138 rfl (aU [2] (by kernel_rfl) (bO (an [(3,pI 0)] (by kernel_rfl) (cY (an [(9,pL (eL eS) p0),(10,pI (p0.length:Int)),(11,pI 0)] (by kernel_rfl) (gn h fun q5 hq5 h=>?_))))))
 refine ar (Y:=Unit×Int) (fun (_,v3)=>[(0,pL (eL eS) p0),(3,pI v3)]) (fun (_,v3)=>[]) (fun (_,v3)=>q5=v3) ?_ ?_
 ·refine aC ?_
  refine aJ (Y:=Unit) (S:=Int×Int) _ hq5 (fun _ (v1,v2)=>[(0,pL (eL eS) p0),(3,pI v1),(9,pL (eL eS) p0),(10,pI (p0.length:Int)),(11,pI v2)]) (fun _ (v1,v2)=>[]) () (mz rfl) bL ?_
  rintro _ ⟨v1,v2⟩ o τ hb4;(try dsimp only at hb4);dsimp only [az]
  refine ag (an [(12,pB (decide (v2<(p0.length:Int))))] (by kernel_rfl) (bO (kq rfl hb4 (fun hc6 hb4=>?_) fun hc6 hb4=>?_)))
  ·refine ah ?_
   refine bO (gG (ae hb4 fun m7 hm7 hb4=>aw [] [13,14] [(5,pL eS m7)] (db 0 (eL eS) hm7 bx) (by kernel_rfl) (bO (af [15,16,17,18] [(3,pI (IntKind.i64.wrap (v1+(m7.length:Int))))] (by kernel_rfl) (bO (af [19] [(20,pB (decide ((IntKind.i64.wrap (v1+(m7.length:Int)))<0)))] (by kernel_rfl) (bT rfl hb4 (fun hc8 hb4=>?_) fun hc8 hb4=>?_)))))))
   ·refine aa ?_
    exact absurd hb4 (by simp)
   refine ah ?_
   refine fw (af [22] [(11,pI (IntKind.i64.wrap (v2+1)))] (by kernel_rfl) ?_)
   exact aY hb4 () (mz rfl) bL
  refine aP ?_
  refine aq (ak hb4 (fun ht=>am rfl ?_))
  exact au ((),v1) (nS rfl) bL ht.symm
 rintro ⟨_,v3⟩ τ hz;(try dsimp only at hz);subst q5;(try dsimp only at h);dsimp only [az]
 refine ag (ae h fun x9 hx9 h=>aa (av 1 [(23,pI v3)] (by kernel_rfl) ?_))
 refine ai rfl (ba rfl rfl (ρ1:=[]) (List.Perm.refl _) (iY hx9) ?_);rintro _ _ ⟨a10,c11,rfl,rfl⟩
 refine aG [(6,pO a10 x9.length c11)] (by kernel_rfl) (cY (an [(25,pL (eL eS) p0),(26,pI (p0.length:Int)),(27,pI 0)] (by kernel_rfl) (gn h fun q23 hq23 h=>?_)))
 refine ar (Y:=(Option Addr×Nat)×((List ByteArray))) (fun ((a19,c20),l21)=>[(6,pO a19 l21.length c20)]) (fun ((a19,c20),l21)=>[PRes.row a19 l21.length c20 9 1 (List.map eS l21)]) (fun ((a19,c20),l21)=>q23=l21) ?_ ?_
 ·refine aC ?_
  refine aJ (Y:=Option Addr×Nat) (S:=(List ByteArray)×Int) _ hq23 (fun (a15,c16) (l14,v17)=>[(6,pO a15 l14.length c16),(25,pL (eL eS) p0),(26,pI (p0.length:Int)),(27,pI v17)]) (fun (a15,c16) (l14,v17)=>[PRes.row a15 l14.length c16 9 1 (List.map eS l14)]) (a10,c11) (jW rfl) cI ?_
  rintro ⟨a15,c16⟩ ⟨l14,v17⟩ o τ hb22;(try dsimp only at hb22);dsimp only [az]
  refine ag (an [(28,pB (decide (v17<(p0.length:Int))))] (by kernel_rfl) (bO (kq rfl hb22 (fun hc24 hb22=>?_) fun hc24 hb22=>?_)))
  ·refine ah ?_
   refine bO (gG (ae hb22 fun m25 hm25 hb22=>aw [] [29,30] [(8,pL eS m25)] (db 0 (eL eS) hm25 bx) (by kernel_rfl) (gn hb22 fun l26 hl26 hb22=>aa (av 2 [(31,pO a15 l14.length c16),(32,pL eS m25)] (by kernel_rfl) ?_))))
   refine ai rfl (jB (enc:=eS) rfl rfl rfl rfl rfl (fun _=>rfl) rfl rfl rfl (by exact aI) hl26 (fun a27 c28=>?_))
   refine aG [(6,pO a27 l26.length c28)] (by kernel_rfl) (fw (af [34] [(27,pI (IntKind.i64.wrap (v17+1)))] (by kernel_rfl) ?_))
   exact aY hb22 (a27,c28) (jW rfl) cI
  refine aP ?_
  refine aq (ak hb22 (fun ht=>am rfl ?_))
  exact au ((a15,c16),l14) (tN rfl) cI ht.symm
 rintro ⟨⟨a19,c20⟩,l21⟩ τ hz;(try dsimp only at hz);subst q23;(try dsimp only at h);dsimp only [az]
 refine ag (af [35] [(2,pO a19 l21.length c20)] (by kernel_rfl) (em ?_))
 obtain rfl:=osi h
 exact aQ (cL (aX rfl)) cI ⟨_,_,rfl,rfl⟩
def cC (p0:(List ByteArray)):Option (List ByteArray):=cond (decide (((p0.length:Nat):Int)<2)) (some p0) ((bf (S:=Int) (T:=(Unit)⊕(_)) (fun v2=>cond (decide (v2<((p0.length:Nat):Int))) ((idx p0 v2).bind fun m7=>(idx p0 (IntKind.i64.wrap (v2 - 1))).bind fun m8=>cond (decide (m7=m8)) ((sub p0 v2 (p0.length:Int)).bind fun l10=>(bf (S:=(List ByteArray)×Int×Int) (T:=((List ByteArray)×Int)) (fun (l12,v13,v14)=>cond (decide (v14<((p0.length - v2.toNat:Nat):Int))) (((i5 v14).bind fun u25=>(idx l12 (v2+v14)).bind fun m26=>(i5 (IntKind.i64.wrap (v14 - 1))).bind fun u27=>(idx l12 (v2+(IntKind.i64.wrap (v14 - 1)))).bind fun m28=>cond (!decide (m26=m28)) ((i5 v14).bind fun u30=>(idx l12 (v2+v14)).bind fun m31=>(idx l12 v13).bind fun m32=>some ((l12.set v13.toNat m31),(IntKind.i64.wrap (v13+1)))) (some (l12,v13))).bind fun (l22,v23)=>some (.inl (l22,v23,(IntKind.i64.wrap (v14+1))))) (some (.inr (l12,v13)))) FUEL (p0,v2,1)).bind fun (l16,v17)=>(sub l16 v17 (l16.length:Int)).bind fun l34=>(sub (List.take v17.toNat l16++List.replicate (p0.length - v17.toNat) ByteArray.empty) 0 v17).bind fun l35=>some (.inr (.inr l35))) (some (.inl (IntKind.i64.wrap (v2+1))))) (some (.inr (.inl ())))) FUEL 1).bind fun q=>match q with | .inl _=>some p0 | .inr e=>some e)
theorem hU {p0:(List ByteArray)} {a_0:Option Addr}  {n_0:Nat}  {c_0:Nat} {r:(List ByteArray)}  (h:cC p0=some r):PCall 140 [.v (.slice a_0 n_0 c_0)] [PRes.row a_0 n_0 c_0 9 1 (List.map eS p0)] (fun pv ρ'=>∃ a c,pv=.v (.slice a r.length c)∧ρ'=[PRes.row a r.length c 9 1 (List.map eS r)]):=by
 unfold cC at h
 refine lh Tryz.func140 rfl Tryz.ntmps140 Tryz.results140 rfl ?_
 refine oz (enc:=eS) (xs:=p0) (a:=a_0) eP (fun hl ha=>?_);subst hl;clear ha
 refine ag (aU [2] (by kernel_rfl) (cY (af [6,7] [(8,pB (decide (((p0.length:Nat):Int)<2)))] (by kernel_rfl) (bT rfl h (fun hc1 h=>?_) fun hc1 h=>?_))))
 ·refine ag ?_
  refine af [9] [(2,pO a_0 p0.length c_0)] (by kernel_rfl) (em (aA ?_))
  obtain rfl:=osi h
  exact aQ (cL (aX rfl)) cI ⟨_,_,rfl,rfl⟩
 refine ah ?_
 refine cY (an [(3,pI 1)] (by kernel_rfl) (gn h fun q5 hq5 h=>?_))
 refine ar (Y:=Unit×Unit) (fun (_,_)=>[(0,pO a_0 p0.length c_0)]) (fun (_,_)=>[PRes.row a_0 p0.length c_0 9 1 (List.map eS p0)]) (fun (_,_)=>q5=Sum.inl ()) ?_ ?_
 ·refine aC ?_
  refine aJ (Y:=Unit) (S:=Int) _ hq5 (fun _ v2=>[(0,pO a_0 p0.length c_0),(3,pI v2)]) (fun _ v2=>[PRes.row a_0 p0.length c_0 9 1 (List.map eS p0)]) () (nS rfl) cI ?_
  rintro _ v2 o τ hb4;(try dsimp only at hb4);dsimp only [az]
  refine dU (af [10,11,12] [(13,pB (decide (v2<((p0.length:Nat):Int))))] (by kernel_rfl) (bT rfl hb4 (fun hc6 hb4=>?_) fun hc6 hb4=>?_))
  ·refine ah ?_
   refine bO (gG (bJ (ρd:=[]) [(0,0),(1,0),(2,0),(3,0),(4,0),(5,0),(6,0),(7,0),(8,0),(9,0)] _ (List.Perm.refl _) (by kernel_rfl) rfl (ae hb4 fun m7 hm7 hb4=>fG 2 [(16,pO a_0 p0.length c_0),(17,pI v2)] (by kernel_rfl) (hZ rfl rfl rfl (e7 (enc:=eS) (xs:=p0) rfl rfl rfl (.p rfl) eP (.p rfl) (fun _=>hm7)) (hZ rfl rfl rfl (dg (sz:=1) (p:=pS m7) (enc:=eS) (xs:=p0) (a:=a_0) v2 0 m7 rfl (.p rfl) rfl eP (fun _=>hm7) rfl) (ae hb4 fun m8 hm8 hb4=>jH 3 [21] [(20,pO a_0 p0.length c_0),(22,pI (IntKind.i64.wrap (v2 - 1)))] (by kernel_rfl) (hZ rfl rfl rfl (e7 (enc:=eS) (xs:=p0) rfl rfl rfl (.p rfl) eP (.p rfl) (fun _=>hm8)) (hZ rfl rfl rfl (dg (sz:=1) (p:=pS m8) (enc:=eS) (xs:=p0) (a:=a_0) (IntKind.i64.wrap (v2 - 1)) 0 m8 rfl (.p rfl) rfl eP (fun _=>hm8) rfl) (fG 1 [(25,pB (decide (m7=m8)))] (by kernel_rfl) (bW (bT rfl hb4 (fun hc9 hb4=>?_) fun hc9 hb4=>?_)))))))))))
   ·refine ag ?_
    refine ae hb4 fun l10 hl10 hb4=>aa (av 2 [(26,pO a_0 p0.length c_0),(27,pI v2)] (by kernel_rfl) (bK rfl rfl rfl (ln (enc:=eS) (xs:=p0) rfl rfl rfl rfl rfl eP hl10) (aG [(4,pQ a_0 p0.length c_0 v2.toNat 1)] (by kernel_rfl) (cY (an [(5,pI 1)] (by kernel_rfl) (gn hb4 fun q19 hq19 hb4=>?_))))))
    refine ar (Y:=Unit×((List ByteArray)×Int)) (fun (_,(l16,v17))=>[(0,pO a_0 p0.length c_0),(3,pI v17)]) (fun (_,(l16,v17))=>[PRes.row a_0 p0.length c_0 9 1 (List.map eS l16)]) (fun (_,(l16,v17))=>q19=(l16,v17)) ?_ ?_
    ·refine aC ?_
     refine aJ (Y:=Unit) (S:=(List ByteArray)×Int×Int) _ hq19 (fun _ (l12,v13,v14)=>[(0,pO a_0 p0.length c_0),(3,pI v13),(4,pQ a_0 p0.length c_0 v2.toNat 1),(5,pI v14)]) (fun _ (l12,v13,v14)=>[PRes.row a_0 p0.length c_0 9 1 (List.map eS l12)]) () (jW rfl) cI ?_
     rintro _ ⟨l12,v13,v14⟩ o τ hb18;(try dsimp only at hb18);dsimp only [az]
     refine dU (af [29,30,31] [(32,pB (decide (v14<((p0.length - v2.toNat:Nat):Int))))] (by kernel_rfl) (bT rfl hb18 (fun hc20 hb18=>?_) fun hc20 hb18=>?_))
     ·refine ah ?_
      refine cU hb18 fun q24 hq24 hb18=>?_
      refine ar (Y:=Unit×((List ByteArray)×Int)) (fun (_,(l22,v23))=>[(0,pO a_0 p0.length c_0),(3,pI v23),(4,pQ a_0 p0.length c_0 v2.toNat 1),(5,pI v14)]) (fun (_,(l22,v23))=>[PRes.row a_0 p0.length c_0 9 1 (List.map eS l22)]) (fun (_,(l22,v23))=>q24=(l22,v23)) ?_ ?_
      ·skip
       refine gG (bJ (ρd:=[]) [(0,0),(1,0),(2,0),(3,0),(4,0),(5,0),(6,0),(7,0),(8,0),(9,0)] _ (List.Perm.refl _) (by kernel_rfl) rfl (ae hq24 fun u25 hu25 hq24=>ae hq24 fun m26 hm26 hq24=>fG 2 [(35,pQ a_0 p0.length c_0 v2.toNat 1),(36,pI v14)] (by kernel_rfl) (hZ rfl rfl rfl (im (enc:=eS) (xs:=l12) (i:=v2) rfl rfl rfl rfl rfl (fE hl10).1.1 (jC hu25) eP hm26) (hZ rfl rfl rfl (dg (sz:=1) (p:=pS m26) (enc:=eS) (xs:=l12) (a:=a_0) (v2+v14) 0 m26 rfl (.p rfl) rfl eP (fun _=>hm26) rfl) (ae hq24 fun u27 hu27 hq24=>ae hq24 fun m28 hm28 hq24=>jH 3 [40] [(39,pQ a_0 p0.length c_0 v2.toNat 1),(41,pI (IntKind.i64.wrap (v14 - 1)))] (by kernel_rfl) (hZ rfl rfl rfl (im (enc:=eS) (xs:=l12) (i:=v2) rfl rfl rfl rfl rfl (fE hl10).1.1 (jC hu27) eP hm28) (hZ rfl rfl rfl (dg (sz:=1) (p:=pS m28) (enc:=eS) (xs:=l12) (a:=a_0) (v2+(IntKind.i64.wrap (v14 - 1))) 0 m28 rfl (.p rfl) rfl eP (fun _=>hm28) rfl) (fG 1 [(44,pB (!decide (m26=m28)))] (by kernel_rfl) (bW (bT rfl hq24 (fun hc29 hq24=>?_) fun hc29 hq24=>?_))))))))))
       ·refine ag ?_
        refine ae hq24 fun u30 hu30 hq24=>ae hq24 fun m31 hm31 hq24=>aa (av 4 [(45,pO a_0 p0.length c_0),(46,pI v13),(47,pQ a_0 p0.length c_0 v2.toNat 1),(48,pI v14)] (by kernel_rfl) (bK rfl rfl rfl (im (enc:=eS) (xs:=l12) (i:=v2) rfl rfl rfl rfl rfl (fE hl10).1.1 (jC hu30) eP hm31) (bK rfl rfl rfl (dg (sz:=1) (p:=pS m31) (enc:=eS) (xs:=l12) (a:=a_0) (v2+v14) 0 m31 rfl (.p rfl) rfl eP (fun _=>hm31) rfl) (ae hq24 fun m32 hm32 hq24=>bK rfl rfl rfl (e7 (enc:=eS) (xs:=l12) rfl rfl rfl (.p rfl) eP (.p rfl) (fun _=>hm32)) (aN rfl rfl (qf (enc:=eS) (xs:=l12) (a:=a_0) v13 0 m32 m31 rfl rfl rfl rfl (fun _=>rfl) rfl rfl hm32 kR bV (aB (aT (af [52,53] [(3,pI (IntKind.i64.wrap (v13+1)))] (by kernel_rfl) (aD ?_))))))))))
        obtain rfl:=osi hq24
        exact au ((),((l12.set v13.toNat m31),(IntKind.i64.wrap (v13+1)))) (jW rfl) cI rfl
       refine ah ?_
       refine aD ?_
       obtain rfl:=osi hq24
       exact au ((),(l12,v13)) (jW rfl) cI rfl
      rintro ⟨_,⟨l22,v23⟩⟩ τ hz;(try dsimp only at hz);subst q24;(try dsimp only at hb18);dsimp only [az]
      refine af [33,34] [(5,pI (IntKind.i64.wrap (v14+1)))] (by kernel_rfl) ?_
      exact aY hb18 () (jW rfl) cI
     refine aP ?_
     refine aq (ak hb18 (fun ht=>am rfl ?_))
     exact au ((),(l12,v13)) (nS rfl) cI ht.symm
    rintro ⟨_,⟨l16,v17⟩⟩ τ hz;(try dsimp only at hz);subst q19;(try dsimp only at hb4);dsimp only [az]
    refine ag (ae hb4 fun l34 hl34 hb4=>aa (av 2 [(54,pO a_0 p0.length c_0),(55,pI v17)] (by kernel_rfl) (bK rfl rfl rfl (ln (enc:=eS) (xs:=l16) rfl rfl rfl rfl rfl eP hl34) (aN rfl rfl (r8 (enc:=eS) (xs:=l16) (z0:=ByteArray.empty) (i:=v17) rfl rfl rfl rfl hl34 rfl rfl rfl rfl bV (aB (cU hb4 fun l35 hl35 hb4=>aa (av 2 [(57,pO a_0 p0.length c_0),(58,pI v17)] (by kernel_rfl) ?_))))))))
    refine ai rfl (r7 (enc:=eS) (xs:=(List.take v17.toNat l16++List.replicate (p0.length - v17.toNat) ByteArray.empty)) rfl rfl rfl rfl rfl (by exact aI) hl35 ?_)
    refine aG [(2,pO a_0 l35.length c_0)] (by kernel_rfl) (em (iX ?_))
    refine aW hb4 (fun ht=>?_);subst ht
    refine aL (aV ?_)
    obtain rfl:=osi h
    exact aQ (cL (aX rfl)) cI ⟨_,_,rfl,rfl⟩
   refine ah ?_
   refine fw (af [14,15] [(3,pI (IntKind.i64.wrap (v2+1)))] (by kernel_rfl) ?_)
   exact aY hb4 () (nS rfl) cI
  refine aP ?_
  refine aq (ak hb4 (fun ht=>am rfl ?_))
  exact au ((),()) (tN rfl) cI ht.symm
 rintro ⟨_,_⟩ τ hz;(try dsimp only at hz);subst q5;(try dsimp only at h);dsimp only [az]
 refine ag (af [60] [(2,pO a_0 p0.length c_0)] (by kernel_rfl) (em ?_))
 obtain rfl:=osi h
 exact aQ (cL (aX rfl)) cI ⟨_,_,rfl,rfl⟩
def bX (p0:Zq) (p1:Ze) (p2:Int):Option Zc:=(bf (S:=Int) (T:=(Unit)⊕(_)) (fun v3=>cond (decide (v3<(p0.partners.length:Int))) ((idx p0.partners v3).bind fun m7=>cond ((jF p0.set_ (⟨p1.ID,m7⟩:Za)).getD false) (some (.inr (.inr (Zc.proved_ (⟨(⟨p1.Code,p2,true⟩:Zi),(⟨p1.ID,m7⟩:Za)⟩:Zn))))) (some (.inl (IntKind.i64.wrap (v3+1))))) (some (.inr (.inl ())))) FUEL 0).bind fun q=>match q with | .inl _=>some (Zc.plain_ (⟨(⟨p1.Code,p2,false⟩:Zi)⟩:Zo)) | .inr e=>some e
theorem fP {p0:Zq} {p1:Ze} {p2:Int} {m0_set_:Nat} {r:Zc}  (h:bX p0 p1 p2=some r):PCall 98 [.agg [pL eI p0.partners,.v (.map (some m0_set_))],.agg (aK p1),pI p2] [PRes.mp (some m0_set_) (gc Za.key vT p0.set_)] (fun pv ρ'=>pv=Zc.pv r∧ρ'=[PRes.mp (some m0_set_) (gc Za.key vT p0.set_)]):=by
 unfold bX at h
 refine ed Tryz.func98 rfl Tryz.ntmps98 Tryz.results98 rfl (aa (ai rfl (bM (cs:=[pL eI p0.partners,.v (.map (some m0_set_))]) rfl rfl (fun b1=>ai rfl (bM (cs:=(aK p1)) rfl rfl (fun b2=>bm [6] (by kernel_rfl) (cY (bj [1] [10] [(11,pL eI p0.partners),(12,pI (p0.partners.length:Int)),(13,pI 0)] (by kernel_rfl) (gn h fun q5 hq5 h=>?_)))))))))
 refine ar (Y:=Unit×Unit) (fun (_,_)=>[(2,pI p2),(4,pP b2 0)]) (fun (_,_)=>[PRes.b b2 76 (aK p1),PRes.mp (some m0_set_) (gc Za.key vT p0.set_)]) (fun (_,_)=>q5=Sum.inl ()) ?_ ?_
 ·refine aC ?_
  refine aJ (Y:=Unit) (S:=Int) _ hq5 (fun _ v3=>[(2,pI p2),(3,pP b1 0),(4,pP b2 0),(11,pL eI p0.partners),(12,pI (p0.partners.length:Int)),(13,pI v3)]) (fun _ v3=>[PRes.b b1 96 [pL eI p0.partners,.v (.map (some m0_set_))],PRes.b b2 76 (aK p1),PRes.mp (some m0_set_) (gc Za.key vT p0.set_)]) () (rt rfl) (aZ (ap aI) oA) ?_
  rintro _ v3 o τ hb4;(try dsimp only at hb4);dsimp only [az]
  refine ag (an [(14,pB (decide (v3<(p0.partners.length:Int))))] (by kernel_rfl) (bO (kq rfl hb4 (fun hc6 hb4=>?_) fun hc6 hb4=>?_)))
  ·refine ah ?_
   refine bO (gG (ae hb4 fun m7 hm7 hb4=>aw [] [15,16] [(8,pI m7)] (db 0 eI hm7 bx) (by kernel_rfl) (bO (aa (cw 4 [1] [17,18,19] [(20,.agg [pI p1.ID,pI m7])] (by kernel_rfl) (ai rfl (aM (cs:=[pI 0,pI 0]) rfl rfl rfl rfl (fun b8=>aN rfl rfl (aj (vs:=[pI p1.ID,pI m7]) rfl rfl rfl rfl rfl bV oT (aB (bO (aa (cw 3 [1,0] [21] [(22,.v (.map (some m0_set_))),(23,.agg [pI p1.ID,pI m7])] (by kernel_rfl) (bK rfl rfl rfl (show POpQ _ _ _ _ (pB ((jF p0.set_ (⟨p1.ID,m7⟩:Za)).getD false)) from xS (xs:=p0.set_) (k:=(⟨p1.ID,m7⟩:Za)) (ek:=Za.key) (vv:=vT) (z0:=false) rfl rfl rfl (fun _=>.v rfl) Za.kenc28 (.p rfl) (.p rfl) zQ (zP zm3)) (aB (bT rfl hb4 (fun hc9 hb4=>?_) fun hc9 hb4=>?_))))))))))))))))
   ·refine ag ?_
    refine bj [2,0] (rg 25 7) [(6,Zc.pv (Zc.proved_ (⟨(⟨p1.Code,p2,true⟩:Zi),(⟨p1.ID,m7⟩:Za)⟩:Zn)))] (by kernel_rfl) (em (iX ?_))
    refine aW hb4 (fun ht=>?_);subst ht
    refine aL (aV ?_)
    obtain rfl:=osi h
    exact aQ (cL (aX rfl)) (aZ (ap (ap (ap aI))) bL) ⟨rfl,rfl⟩
   refine ah ?_
   refine fw (af [32] [(13,pI (IntKind.i64.wrap (v3+1)))] (by kernel_rfl) ?_)
   exact aY hb4 () (rt rfl) (aZ (ap aI) (aZ (ap aI) (aZ (ap aI) bL)))
  refine aP ?_
  refine aq (ak hb4 (fun ht=>am rfl ?_))
  exact au ((),()) (nS rfl) (aZ (ap aI) (aZ (ap aI) bL)) ht.symm
 rintro ⟨_,_⟩ τ hz;(try dsimp only at hz);subst q5;(try dsimp only at h);dsimp only [az]
 refine ag (bj [0] (rg 33 6) [(6,Zc.pv (Zc.plain_ (⟨(⟨p1.Code,p2,false⟩:Zi)⟩:Zo)))] (by kernel_rfl) (em ?_))
 obtain rfl:=osi h
 exact aQ (cL (aX rfl)) (aZ (ap aI) bL) ⟨rfl,rfl⟩
def eD (p0:Int):Option Int:=Option.bind (cond (decide (4294967296≤p0)) (some ((bQ .u64 p0 32),32)) (some (p0,0))) (fun (v1,v2)=>Option.bind (cond (decide (65536≤v1)) (some ((bQ .u64 v1 16),(IntKind.i64.wrap (v2+16)))) (some (v1,v2))) (fun (v5,v6)=>Option.bind (cond (decide (256≤v5)) (some ((bQ .u64 v5 8),(IntKind.i64.wrap (v6+8)))) (some (v5,v6))) (fun (v9,v10)=>(idx (⟨#[0,1,2,2,3,3,3,3,4,4,4,4,4,4,4,4,5,5,5,5,5,5,5,5,5,5,5,5,5,5,5,5,6,6,6,6,6,6,6,6,6,6,6,6,6,6,6,6,6,6,6,6,6,6,6,6,6,6,6,6,6,6,6,6,7,7,7,7,7,7,7,7,7,7,7,7,7,7,7,7,7,7,7,7,7,7,7,7,7,7,7,7,7,7,7,7,7,7,7,7,7,7,7,7,7,7,7,7,7,7,7,7,7,7,7,7,7,7,7,7,7,7,7,7,7,7,7,7,8,8,8,8,8,8,8,8,8,8,8,8,8,8,8,8,8,8,8,8,8,8,8,8,8,8,8,8,8,8,8,8,8,8,8,8,8,8,8,8,8,8,8,8,8,8,8,8,8,8,8,8,8,8,8,8,8,8,8,8,8,8,8,8,8,8,8,8,8,8,8,8,8,8,8,8,8,8,8,8,8,8,8,8,8,8,8,8,8,8,8,8,8,8,8,8,8,8,8,8,8,8,8,8,8,8,8,8,8,8,8,8,8,8,8,8,8,8,8,8,8,8,8,8,8,8,8,8]⟩:ByteArray).data.toList (IntKind.u8.wrap v9)).bind fun c13=>lb ((IntKind.i64.wrap (v10+(IntKind.i64.wrap (c13.toNat:Int))))) (fun w14=>some w14))))
theorem mV {p0:Int} {r:Int}  (h:eD p0=some r):PF 151 [pU p0] (pI r):=by
 unfold eD at h
 refine bk ?_
 refine ed Tryz.func151 rfl Tryz.ntmps151 Tryz.results151 rfl (an [(2,pI 0)] (by kernel_rfl) (cY (af [3] [(4,pB (decide (4294967296≤p0)))] (by kernel_rfl) (gn h fun q3 hq3 h=>?_))))
 refine ar (Y:=Unit×(Int×Int)) (fun (_,(v1,v2))=>[(0,pU v1),(2,pI v2)]) (fun (_,(v1,v2))=>[]) (fun (_,(v1,v2))=>q3=(v1,v2)) ?_ ?_
 ·skip
  refine kq rfl hq3 (fun hc4 hq3=>?_) fun hc4 hq3=>?_
  ·refine ag ?_
   refine af [5,6] [(0,pU (bQ .u64 p0 32))] (by kernel_rfl) (aT (an [(2,pI 32)] (by kernel_rfl) ?_))
   obtain rfl:=osi hq3
   exact au ((),((bQ .u64 p0 32),32)) (nS rfl) bL rfl
  refine ah ?_
  obtain rfl:=osi hq3
  exact au ((),(p0,0)) (nS rfl) bL rfl
 rintro ⟨_,⟨v1,v2⟩⟩ τ hz;(try dsimp only at hz);subst q3;(try dsimp only at h);dsimp only [az]
 refine dU (af [7] [(8,pB (decide (65536≤v1)))] (by kernel_rfl) (gn h fun q7 hq7 h=>?_))
 refine ar (Y:=Unit×(Int×Int)) (fun (_,(v5,v6))=>[(0,pU v5),(2,pI v6)]) (fun (_,(v5,v6))=>[]) (fun (_,(v5,v6))=>q7=(v5,v6)) ?_ ?_
 ·skip
  refine kq rfl hq7 (fun hc8 hq7=>?_) fun hc8 hq7=>?_
  ·refine ag ?_
   refine af [9,10] [(0,pU (bQ .u64 v1 16))] (by kernel_rfl) (aT (af [11,12] [(2,pI (IntKind.i64.wrap (v2+16)))] (by kernel_rfl) ?_))
   obtain rfl:=osi hq7
   exact au ((),((bQ .u64 v1 16),(IntKind.i64.wrap (v2+16)))) (nS rfl) bL rfl
  refine ah ?_
  obtain rfl:=osi hq7
  exact au ((),(v1,v2)) (nS rfl) bL rfl
 rintro ⟨_,⟨v5,v6⟩⟩ τ hz;(try dsimp only at hz);subst q7;(try dsimp only at h);dsimp only [az]
 refine dU (af [13] [(14,pB (decide (256≤v5)))] (by kernel_rfl) (gn h fun q11 hq11 h=>?_))
 refine ar (Y:=Unit×(Int×Int)) (fun (_,(v9,v10))=>[(0,pU v9),(2,pI v10)]) (fun (_,(v9,v10))=>[]) (fun (_,(v9,v10))=>q11=(v9,v10)) ?_ ?_
 ·skip
  refine kq rfl hq11 (fun hc12 hq11=>?_) fun hc12 hq11=>?_
  ·refine ag ?_
   refine af [15,16] [(0,pU (bQ .u64 v5 8))] (by kernel_rfl) (aT (af [17,18] [(2,pI (IntKind.i64.wrap (v6+8)))] (by kernel_rfl) ?_))
   obtain rfl:=osi hq11
   exact au ((),((bQ .u64 v5 8),(IntKind.i64.wrap (v6+8)))) (nS rfl) bL rfl
  refine ah ?_
  obtain rfl:=osi hq11
  exact au ((),(v5,v6)) (nS rfl) bL rfl
 rintro ⟨_,⟨v9,v10⟩⟩ τ hz;(try dsimp only at hz);subst q11;(try dsimp only at h);dsimp only [az]
 refine ag (ae h fun c13 hc13 h=>?_)
 refine cZ h ?_;clear h;intro w14 hw14 h
 refine aa (aS 6 [] (rg 19 5) [(24,pI (IntKind.i64.wrap (v10+(IntKind.i64.wrap (c13.toNat:Int)))))] (fosx 3 (s:=(⟨#[0,1,2,2,3,3,3,3,4,4,4,4,4,4,4,4,5,5,5,5,5,5,5,5,5,5,5,5,5,5,5,5,6,6,6,6,6,6,6,6,6,6,6,6,6,6,6,6,6,6,6,6,6,6,6,6,6,6,6,6,6,6,6,6,7,7,7,7,7,7,7,7,7,7,7,7,7,7,7,7,7,7,7,7,7,7,7,7,7,7,7,7,7,7,7,7,7,7,7,7,7,7,7,7,7,7,7,7,7,7,7,7,7,7,7,7,7,7,7,7,7,7,7,7,7,7,7,7,8,8,8,8,8,8,8,8,8,8,8,8,8,8,8,8,8,8,8,8,8,8,8,8,8,8,8,8,8,8,8,8,8,8,8,8,8,8,8,8,8,8,8,8,8,8,8,8,8,8,8,8,8,8,8,8,8,8,8,8,8,8,8,8,8,8,8,8,8,8,8,8,8,8,8,8,8,8,8,8,8,8,8,8,8,8,8,8,8,8,8,8,8,8,8,8,8,8,8,8,8,8,8,8,8,8,8,8,8,8,8,8,8,8,8,8,8,8,8,8,8,8,8,8,8,8,8,8]⟩:ByteArray)) hc13 bx) (by kernel_rfl) (bK rfl rfl rfl (bv rfl (.p (congrArg (fun z=>PV.v (Value.int .i64 z)) hw14))) (aB (em ?_))))
 exact zz r h rfl
def cx (p0:Int):Option Int:=(eD p0).bind fun x1=>some (IntKind.i64.wrap (64 - x1))
theorem jh {p0:Int} {r:Int}  (h:cx p0=some r):PF 213 [pU p0] (pI r):=by
 unfold cx at h
 refine bk ?_
 refine ed Tryz.func213 rfl Tryz.ntmps213 Tryz.results213 rfl (aU [2] (by kernel_rfl) (cU h fun x1 hx1 h=>aw [] [3,4,5] [(2,pI (IntKind.i64.wrap (64 - x1)))] (bG 1 (mV hx1) bx) (by kernel_rfl) (em ?_)))
 exact zz r h rfl
def fI (p0:Int) (p1:Int) (p2:Int):Option (Int×Int):=cond (p2 == 0) (none) (cond (decide (p2≤p0)) (none) (cond (p0 == 0) ((nz p2).bind fun u4=>(nz p2).bind fun u5=>some ((IntKind.u64.wrap (Int.tdiv p1 p2)),(Int.tmod p1 p2))) ((cx p2).bind fun x6=>(i5 (IntKind.u64.wrap x6)).bind fun u7=>lb ((bQ .u64 (dT .u64 p2 (IntKind.u64.wrap x6)) 32)) (fun w8=>lb ((co .u64 (dT .u64 p2 (IntKind.u64.wrap x6)) 4294967295)) (fun w9=>(i5 (IntKind.u64.wrap x6)).bind fun u10=>(i5 (IntKind.u64.wrap (64 - (IntKind.u64.wrap x6)))).bind fun u11=>lb ((kQ .u64 (dT .u64 p0 (IntKind.u64.wrap x6)) (bQ .u64 p1 (IntKind.u64.wrap (64 - (IntKind.u64.wrap x6)))))) (fun w12=>(i5 (IntKind.u64.wrap x6)).bind fun u13=>lb ((bQ .u64 (dT .u64 p1 (IntKind.u64.wrap x6)) 32)) (fun w14=>lb ((co .u64 (dT .u64 p1 (IntKind.u64.wrap x6)) 4294967295)) (fun w15=>(nz w8).bind fun u16=>lb ((IntKind.u64.wrap (w12 - (IntKind.u64.wrap ((IntKind.u64.wrap (Int.tdiv w12 w8))*w8))))) (fun w17=>(bf (S:=Int×Int) (T:=(Int)) (fun (v18,v19)=>cond ((decide (4294967296≤v18))||(decide ((IntKind.u64.wrap ((IntKind.u64.wrap (4294967296*v19))+w14))<(IntKind.u64.wrap (v18*w9))))) (cond (decide (4294967296≤(IntKind.u64.wrap (v19+w8)))) (some (.inr (IntKind.u64.wrap (v18 - 1)))) (some (.inl ((IntKind.u64.wrap (v18 - 1)),(IntKind.u64.wrap (v19+w8)))))) (some (.inr v18))) FUEL ((IntKind.u64.wrap (Int.tdiv w12 w8)),w17)).bind fun v20=>lb ((IntKind.u64.wrap ((IntKind.u64.wrap ((IntKind.u64.wrap (w12*4294967296))+w14)) - (IntKind.u64.wrap (v20*(dT .u64 p2 (IntKind.u64.wrap x6))))))) (fun w25=>(nz w8).bind fun u26=>lb ((IntKind.u64.wrap (w25 - (IntKind.u64.wrap ((IntKind.u64.wrap (Int.tdiv w25 w8))*w8))))) (fun w27=>(bf (S:=Int×Int) (T:=(Int)) (fun (v28,v29)=>cond ((decide (4294967296≤v29))||(decide ((IntKind.u64.wrap ((IntKind.u64.wrap (4294967296*v28))+w15))<(IntKind.u64.wrap (v29*w9))))) (cond (decide (4294967296≤(IntKind.u64.wrap (v28+w8)))) (some (.inr (IntKind.u64.wrap (v29 - 1)))) (some (.inl ((IntKind.u64.wrap (v28+w8)),(IntKind.u64.wrap (v29 - 1)))))) (some (.inr v29))) FUEL (w27,(IntKind.u64.wrap (Int.tdiv w25 w8)))).bind fun v30=>(i5 (IntKind.u64.wrap x6)).bind fun u35=>lb ((IntKind.u64.wrap ((IntKind.u64.wrap (v20*4294967296))+v30))) (fun w36=>lb ((bQ .u64 (IntKind.u64.wrap ((IntKind.u64.wrap ((IntKind.u64.wrap (w25*4294967296))+w15)) - (IntKind.u64.wrap (v30*(dT .u64 p2 (IntKind.u64.wrap x6)))))) (IntKind.u64.wrap x6))) (fun w37=>some (w36,w37))))))))))))))
theorem mW {p0:Int} {p1:Int} {p2:Int} {r:(Int×Int)}  (h:fI p0 p1 p2=some r):PF 200 [pU p0,pU p1,pU p2] (.tup [pU r.1,pU r.2]):=by
 unfold fI at h
 refine bk ?_
 refine ed Tryz.func200 rfl Tryz.ntmps200 Tryz.results200 rfl (aU [6,7] (by kernel_rfl) (cY (af [19] [(20,pB (p2 == 0))] (by kernel_rfl) (bT rfl h (fun hc1 h=>?_) fun hc1 h=>?_))))
 ·refine aa ?_
  exact absurd h (by simp)
 refine ah ?_
 refine cY (af [22,23] [(24,pB (decide (p2≤p0)))] (by kernel_rfl) (bT rfl h (fun hc2 h=>?_) fun hc2 h=>?_))
 ·refine aa ?_
  exact absurd h (by simp)
 refine ah ?_
 refine cY (af [26] [(27,pB (p0 == 0))] (by kernel_rfl) (bT rfl h (fun hc3 h=>?_) fun hc3 h=>?_))
 ·refine ag ?_
  refine bJ (ρd:=[]) [(0,0),(1,0),(2,0),(3,0),(4,0),(5,0),(6,0),(7,0)] _ (List.Perm.refl _) (by kernel_rfl) rfl (ae h fun u4 hu4 h=>ae h fun u5 hu5 h=>bR 8 [] (rg 28 6) [(6,pU (IntKind.u64.wrap (Int.tdiv p1 p2))),(7,pU (Int.tmod p1 p2))] (xL 2 hu4 (xL 5 hu5 bx)) (by kernel_rfl) (bW (em (aA ?_))))
  obtain rfl:=osi h
  exact aQ (dp (aX rfl) (aX rfl)) bL ⟨rfl,rfl⟩
 refine ah ?_
 refine cU h fun x6 hx6 h=>aw [] [34,35,36] [(8,pU (IntKind.u64.wrap x6))] (bG 1 (jh hx6) bx) (by kernel_rfl) (cU h fun u7 hu7 h=>aw [] [37,38,39] [(2,pU (dT .u64 p2 (IntKind.u64.wrap x6)))] (oU 2 hu7 bx) (by kernel_rfl) (bO ?_))
 refine cZ h ?_;clear h;intro w8 hw8 h
 refine aa (bS 2 [40] [(41,pU (bQ .u64 (dT .u64 p2 (IntKind.u64.wrap x6)) 32))] (by kernel_rfl) (bK rfl rfl rfl (bv rfl (.p (congrArg (fun z=>PV.v (Value.int .u64 z)) hw8))) (aB (bO ?_))))
 refine cZ h ?_;clear h;intro w9 hw9 h
 refine aa (bS 2 [42] [(43,pU (co .u64 (dT .u64 p2 (IntKind.u64.wrap x6)) 4294967295))] (by kernel_rfl) (bK rfl rfl rfl (bv rfl (.p (congrArg (fun z=>PV.v (Value.int .u64 z)) hw9))) (aB (cU h fun u10 hu10 h=>ae h fun u11 hu11 h=>?_))))
 refine cZ h ?_;clear h;intro w12 hw12 h
 refine aa (aS 8 [] (rg 44 7) [(51,pU (kQ .u64 (dT .u64 p0 (IntKind.u64.wrap x6)) (bQ .u64 p1 (IntKind.u64.wrap (64 - (IntKind.u64.wrap x6))))))] (oU 2 hu10 (oU 6 hu11 bx)) (by kernel_rfl) (bK rfl rfl rfl (bv rfl (.p (congrArg (fun z=>PV.v (Value.int .u64 z)) hw12))) (aB (cU h fun u13 hu13 h=>aw [] [52,53,54] [(12,pU (dT .u64 p1 (IntKind.u64.wrap x6)))] (oU 2 hu13 bx) (by kernel_rfl) (bO ?_)))))
 refine cZ h ?_;clear h;intro w14 hw14 h
 refine aa (bS 2 [55] [(56,pU (bQ .u64 (dT .u64 p1 (IntKind.u64.wrap x6)) 32))] (by kernel_rfl) (bK rfl rfl rfl (bv rfl (.p (congrArg (fun z=>PV.v (Value.int .u64 z)) hw14))) (aB (bO ?_))))
 refine cZ h ?_;clear h;intro w15 hw15 h
 refine aa (bS 2 [57] [(58,pU (co .u64 (dT .u64 p1 (IntKind.u64.wrap x6)) 4294967295))] (by kernel_rfl) (bK rfl rfl rfl (bv rfl (.p (congrArg (fun z=>PV.v (Value.int .u64 z)) hw15))) (aB (cU h fun u16 hu16 h=>aw [] [59,60,61] [(15,pU (IntKind.u64.wrap (Int.tdiv w12 w8)))] (xL 2 hu16 bx) (by kernel_rfl) (bO ?_)))))
 refine cZ h ?_;clear h;intro w17 hw17 h
 refine aa (bS 5 [62,63,64,65] [(66,pU (IntKind.u64.wrap (w12 - (IntKind.u64.wrap ((IntKind.u64.wrap (Int.tdiv w12 w8))*w8)))))] (by kernel_rfl) (bK rfl rfl rfl (bv rfl (.p (congrArg (fun z=>PV.v (Value.int .u64 z)) hw17))) (aB (cU h fun q22 hq22 h=>?_))))
 refine ar (Y:=Unit×Int) (fun (_,v20)=>[(2,pU (dT .u64 p2 (IntKind.u64.wrap x6))),(8,pU (IntKind.u64.wrap x6)),(9,pU w8),(10,pU w9),(11,pU w12),(13,pU w14),(14,pU w15),(15,pU v20)]) (fun (_,v20)=>[]) (fun (_,v20)=>q22=v20) ?_ ?_
 ·refine aC ?_
  refine aJ (Y:=Unit) (S:=Int×Int) _ hq22 (fun _ (v18,v19)=>[(2,pU (dT .u64 p2 (IntKind.u64.wrap x6))),(8,pU (IntKind.u64.wrap x6)),(9,pU w8),(10,pU w9),(11,pU w12),(13,pU w14),(14,pU w15),(15,pU v18),(16,pU v19)]) (fun _ (v18,v19)=>[]) () (qk rfl) bL ?_
  rintro _ ⟨v18,v19⟩ o τ hb21;(try dsimp only at hb21);dsimp only [az]
  refine dU (af (rg 67 11) [(78,pB ((decide (4294967296≤v18))||(decide ((IntKind.u64.wrap ((IntKind.u64.wrap (4294967296*v19))+w14))<(IntKind.u64.wrap (v18*w9))))))] (by kernel_rfl) (bT rfl hb21 (fun hc23 hb21=>?_) fun hc23 hb21=>?_))
  ·refine ah ?_
   refine aT (gG (af [79,80] [(15,pU (IntKind.u64.wrap (v18 - 1)))] (by kernel_rfl) (bO (af [81,82,83] [(16,pU (IntKind.u64.wrap (v19+w8)))] (by kernel_rfl) (bO (af [84] [(85,pB (decide (4294967296≤(IntKind.u64.wrap (v19+w8)))))] (by kernel_rfl) (bT rfl hb21 (fun hc24 hb21=>?_) fun hc24 hb21=>?_)))))))
   ·refine aP ?_
    refine lM rfl (ak hb21 (fun ht=>am rfl ?_))
    exact au ((),(IntKind.u64.wrap (v18 - 1))) (rW rfl) bL ht.symm
   refine ah ?_
   refine aD ?_
   exact aY hb21 () (qk rfl) bL
  refine aP ?_
  refine aq (ak hb21 (fun ht=>am rfl ?_))
  exact au ((),v18) (rW rfl) bL ht.symm
 rintro ⟨_,v20⟩ τ hz;(try dsimp only at hz);subst q22;(try dsimp only at h);dsimp only [az]
 refine ag ?_
 refine cZ h ?_;clear h;intro w25 hw25 h
 refine aa (bS 8 (rg 86 7) [(93,pU (IntKind.u64.wrap ((IntKind.u64.wrap ((IntKind.u64.wrap (w12*4294967296))+w14)) - (IntKind.u64.wrap (v20*(dT .u64 p2 (IntKind.u64.wrap x6)))))))] (by kernel_rfl) (bK rfl rfl rfl (bv rfl (.p (congrArg (fun z=>PV.v (Value.int .u64 z)) hw25))) (aB (cU h fun u26 hu26 h=>aw [] [94,95,96] [(18,pU (IntKind.u64.wrap (Int.tdiv w25 w8)))] (xL 2 hu26 bx) (by kernel_rfl) (bO ?_)))))
 refine cZ h ?_;clear h;intro w27 hw27 h
 refine aa (bS 5 [97,98,99,100] [(101,pU (IntKind.u64.wrap (w25 - (IntKind.u64.wrap ((IntKind.u64.wrap (Int.tdiv w25 w8))*w8)))))] (by kernel_rfl) (bK rfl rfl rfl (bv rfl (.p (congrArg (fun z=>PV.v (Value.int .u64 z)) hw27))) (aB (cU h fun q32 hq32 h=>?_))))
 refine ar (Y:=Unit×Int) (fun (_,v30)=>[(2,pU (dT .u64 p2 (IntKind.u64.wrap x6))),(8,pU (IntKind.u64.wrap x6)),(14,pU w15),(15,pU v20),(17,pU w25),(18,pU v30)]) (fun (_,v30)=>[]) (fun (_,v30)=>q32=v30) ?_ ?_
 ·refine aC ?_
  refine aJ (Y:=Unit) (S:=Int×Int) _ hq32 (fun _ (v28,v29)=>[(2,pU (dT .u64 p2 (IntKind.u64.wrap x6))),(8,pU (IntKind.u64.wrap x6)),(9,pU w8),(10,pU w9),(14,pU w15),(15,pU v20),(16,pU v28),(17,pU w25),(18,pU v29)]) (fun _ (v28,v29)=>[]) () (qk rfl) bL ?_
  rintro _ ⟨v28,v29⟩ o τ hb31;(try dsimp only at hb31);dsimp only [az]
  refine dU (af (rg 102 11) [(113,pB ((decide (4294967296≤v29))||(decide ((IntKind.u64.wrap ((IntKind.u64.wrap (4294967296*v28))+w15))<(IntKind.u64.wrap (v29*w9))))))] (by kernel_rfl) (bT rfl hb31 (fun hc33 hb31=>?_) fun hc33 hb31=>?_))
  ·refine ah ?_
   refine aT (gG (af [114,115] [(18,pU (IntKind.u64.wrap (v29 - 1)))] (by kernel_rfl) (bO (af [116,117,118] [(16,pU (IntKind.u64.wrap (v28+w8)))] (by kernel_rfl) (bO (af [119] [(120,pB (decide (4294967296≤(IntKind.u64.wrap (v28+w8)))))] (by kernel_rfl) (bT rfl hb31 (fun hc34 hb31=>?_) fun hc34 hb31=>?_)))))))
   ·refine aP ?_
    refine lM rfl (ak hb31 (fun ht=>am rfl ?_))
    exact au ((),(IntKind.u64.wrap (v29 - 1))) (rt rfl) bL ht.symm
   refine ah ?_
   refine aD ?_
   exact aY hb31 () (qk rfl) bL
  refine aP ?_
  refine aq (ak hb31 (fun ht=>am rfl ?_))
  exact au ((),v29) (rt rfl) bL ht.symm
 rintro ⟨_,v30⟩ τ hz;(try dsimp only at hz);subst q32;(try dsimp only at h);dsimp only [az]
 refine ag (ae h fun u35 hu35 h=>?_)
 refine cZ h ?_;clear h;intro w36 hw36 h
 refine aa (aS 14 [] [121,122,123,125,126,127,128,129,130,131,132,133] [(124,pU (IntKind.u64.wrap ((IntKind.u64.wrap (v20*4294967296))+v30))),(134,pU (bQ .u64 (IntKind.u64.wrap ((IntKind.u64.wrap ((IntKind.u64.wrap (w25*4294967296))+w15)) - (IntKind.u64.wrap (v30*(dT .u64 p2 (IntKind.u64.wrap x6)))))) (IntKind.u64.wrap x6)))] (oU 13 hu35 bx) (by kernel_rfl) (bK rfl rfl rfl (bv rfl (.p (congrArg (fun z=>PV.v (Value.int .u64 z)) hw36))) ?_))
 refine cZ h ?_;clear h;intro w37 hw37 h
 refine bK rfl rfl rfl (bv rfl (.p (congrArg (fun z=>PV.v (Value.int .u64 z)) hw37))) (aB (em ?_))
 obtain rfl:=osi h
 exact aQ (dp (aX rfl) (aX rfl)) bL ⟨rfl,rfl⟩
def gS (p0:Int) (p1:Int) (p2:Int) (p3:Int):Option Bool:=cond (p3 == 1) (some (decide (0<p1))) (cond (p3 == 2) (some (decide ((IntKind.u64.wrap (p2 - p1))≤p1))) (cond (p3 == 3) (some ((decide ((IntKind.u64.wrap (p2 - p1))<p1))||((p1 == (IntKind.u64.wrap (p2 - p1)))&&((Int.tmod p0 2) == 1)))) (some false)))
theorem oW {p0:Int} {p1:Int} {p2:Int} {p3:Int} {r:Bool}  (h:gS p0 p1 p2 p3=some r):PF 201 [pU p0,pU p1,pU p2,pI p3] (pB r):=by
 unfold gS at h
 refine bk ?_
 refine ed Tryz.func201 rfl Tryz.ntmps201 Tryz.results201 rfl (aU [8] (by kernel_rfl) (bO (af [10,11,12] [(9,pU (IntKind.u64.wrap (p2 - p1)))] (by kernel_rfl) (cY (an [(13,pI p3)] (by kernel_rfl) (aT (gG (af [15] [(14,pB (p3 == 1))] (by kernel_rfl) (bT rfl h (fun hc1 h=>?_) fun hc1 h=>?_)))))))))
 ·refine ag ?_
  refine af [16,17] [(8,pB (decide (0<p1)))] (by kernel_rfl) (em (iX ?_))
  exact zz r h rfl
 refine ag ?_
 refine af [19] [(18,pB (p3 == 2))] (by kernel_rfl) (bT rfl h (fun hc2 h=>?_) fun hc2 h=>?_)
 ·refine ag ?_
  refine af [20,21,22] [(8,pB (decide ((IntKind.u64.wrap (p2 - p1))≤p1)))] (by kernel_rfl) (em (iX ?_))
  exact zz r h rfl
 refine ag ?_
 refine af [24] [(23,pB (p3 == 3))] (by kernel_rfl) (bT rfl h (fun hc3 h=>?_) fun hc3 h=>?_)
 ·refine ag ?_
  refine af (rg 25 13) [(8,pB ((decide ((IntKind.u64.wrap (p2 - p1))<p1))||((p1 == (IntKind.u64.wrap (p2 - p1)))&&((Int.tmod p0 2) == 1))))] (by kernel_rfl) (em (iX ?_))
  exact zz r h rfl
 refine ah ?_
 refine aD (bO (fm [(8,pB false)] (by kernel_rfl) ?_))
 exact zz r h rfl
def kG (p0:Zm) (p1:Int) (p2:Int):Option (Int×Int):=cond (((p1 == 0)||(decide (p2<0)))||(decide (3<p2))) (some ((0:Int),(2:Int))) (cond (decide (p1≤p0.Hi)) (some ((0:Int),(3:Int))) ((fI p0.Hi p0.Lo p1).bind fun x4=>(gS x4.1 x4.2 p1 p2).bind fun x5=>cond (!x5) (some (x4.1,(0:Int))) (cond (x4.1 == 18446744073709551615) (some ((0:Int),(3:Int))) (some ((IntKind.u64.wrap (x4.1+1)),(0:Int))))))
theorem tl {p0:Zm} {p1:Int} {p2:Int} {r:(Int×Int)}  (h:kG p0 p1 p2=some r):PF 171 [.agg [pU p0.Hi,pU p0.Lo],pU p1,pI p2] (.tup [pU r.1,pI r.2]):=by
 unfold kG at h
 refine bk ?_
 refine ed Tryz.func171 rfl Tryz.ntmps171 Tryz.results171 rfl (aa (ai rfl (bM (cs:=[pU p0.Hi,pU p0.Lo]) rfl rfl (fun b1=>bm [6,7] (by kernel_rfl) (cY (af (rg 10 9) [(19,pB (((p1 == 0)||(decide (p2<0)))||(decide (3<p2))))] (by kernel_rfl) (bT rfl h (fun hc2 h=>?_) fun hc2 h=>?_)))))))
 ·refine ag ?_
  refine fm [(6,pU 0),(7,pI 2)] (by kernel_rfl) (aA ?_)
  obtain rfl:=osi h
  exact aQ (dp (aX rfl) (aX rfl)) bL ⟨rfl,rfl⟩
 refine ah ?_
 refine cY (bj [0] [20,21,22] [(23,pB (decide (p1≤p0.Hi)))] (by kernel_rfl) (bT rfl h (fun hc3 h=>?_) fun hc3 h=>?_))
 ·refine ag ?_
  refine fm [(6,pU 0),(7,pI 3)] (by kernel_rfl) (aA ?_)
  obtain rfl:=osi h
  exact aQ (dp (aX rfl) (aX rfl)) bL ⟨rfl,rfl⟩
 refine ah ?_
 refine cU h fun x4 hx4 h=>aw [0,0] ((rg 25 6)++[24,31,32]) [(8,pU x4.1),(9,pU x4.2)] (bG 5 (mW hx4) bx) (by kernel_rfl) (cY (ae h fun x5 hx5 h=>aw [] (rg 33 5) [(38,pB (!x5))] (bG 4 (oW hx5) bx) (by kernel_rfl) (bT rfl h (fun hc6 h=>?_) fun hc6 h=>?_)))
 ·refine ag ?_
  refine af [39] [(6,pU x4.1),(7,pI 0)] (by kernel_rfl) (em (aA ?_))
  obtain rfl:=osi h
  exact aQ (dp (aX rfl) (aX rfl)) bL ⟨rfl,rfl⟩
 refine ah ?_
 refine cY (af [40] [(41,pB (x4.1 == 18446744073709551615))] (by kernel_rfl) (bT rfl h (fun hc7 h=>?_) fun hc7 h=>?_))
 ·refine ag ?_
  refine fm [(6,pU 0),(7,pI 3)] (by kernel_rfl) (aA ?_)
  obtain rfl:=osi h
  exact aQ (dp (aX rfl) (aX rfl)) bL ⟨rfl,rfl⟩
 refine ah ?_
 refine bO (af [42,43] [(6,pU (IntKind.u64.wrap (x4.1+1))),(7,pI 0)] (by kernel_rfl) (em ?_))
 obtain rfl:=osi h
 exact aQ (dp (aX rfl) (aX rfl)) bL ⟨rfl,rfl⟩
def fJ (p0:Int) (p1:Int):Option (Int×Int):=lb ((IntKind.u64.wrap ((co .u64 p0 4294967295)*(co .u64 p1 4294967295)))) (fun w1=>lb ((IntKind.u64.wrap ((IntKind.u64.wrap ((bQ .u64 p0 32)*(co .u64 p1 4294967295)))+(bQ .u64 w1 32)))) (fun w2=>lb ((IntKind.u64.wrap ((co .u64 w2 4294967295)+(IntKind.u64.wrap ((co .u64 p0 4294967295)*(bQ .u64 p1 32)))))) (fun w3=>lb ((IntKind.u64.wrap ((IntKind.u64.wrap ((IntKind.u64.wrap ((bQ .u64 p0 32)*(bQ .u64 p1 32)))+(bQ .u64 w2 32)))+(bQ .u64 w3 32)))) (fun w4=>some (w4,(IntKind.u64.wrap (p0*p1)))))))
theorem mX {p0:Int} {p1:Int} {r:(Int×Int)}  (h:fJ p0 p1=some r):PF 202 [pU p0,pU p1] (.tup [pU r.1,pU r.2]):=by
 unfold fJ at h
 refine bk ?_
 refine ed Tryz.func202 rfl Tryz.ntmps202 Tryz.results202 rfl (aU [4,5] (by kernel_rfl) (bO (af [14,15] [(6,pU (co .u64 p0 4294967295))] (by kernel_rfl) (bO (af [16,17] [(7,pU (bQ .u64 p0 32))] (by kernel_rfl) (bO (af [18,19] [(8,pU (co .u64 p1 4294967295))] (by kernel_rfl) (bO (af [20,21] [(9,pU (bQ .u64 p1 32))] (by kernel_rfl) (bO ?_))))))))))
 refine cZ h ?_;clear h;intro w1 hw1 h
 refine aa (bS 3 [22,23] [(24,pU (IntKind.u64.wrap ((co .u64 p0 4294967295)*(co .u64 p1 4294967295))))] (by kernel_rfl) (bK rfl rfl rfl (bv rfl (.p (congrArg (fun z=>PV.v (Value.int .u64 z)) hw1))) (aB (bO ?_))))
 refine cZ h ?_;clear h;intro w2 hw2 h
 refine aa (bS 6 (rg 25 5) [(30,pU (IntKind.u64.wrap ((IntKind.u64.wrap ((bQ .u64 p0 32)*(co .u64 p1 4294967295)))+(bQ .u64 w1 32))))] (by kernel_rfl) (bK rfl rfl rfl (bv rfl (.p (congrArg (fun z=>PV.v (Value.int .u64 z)) hw2))) (aB (bO (af [31,32] [(12,pU (co .u64 w2 4294967295))] (by kernel_rfl) (bO (af [33,34] [(13,pU (bQ .u64 w2 32))] (by kernel_rfl) (bO ?_))))))))
 refine cZ h ?_;clear h;intro w3 hw3 h
 refine aa (bS 5 [35,36,37,38] [(39,pU (IntKind.u64.wrap ((co .u64 w2 4294967295)+(IntKind.u64.wrap ((co .u64 p0 4294967295)*(bQ .u64 p1 32))))))] (by kernel_rfl) (bK rfl rfl rfl (bv rfl (.p (congrArg (fun z=>PV.v (Value.int .u64 z)) hw3))) (aB (bO ?_))))
 refine cZ h ?_;clear h;intro w4 hw4 h
 refine aa (bS 8 (rg 40 7) [(47,pU (IntKind.u64.wrap ((IntKind.u64.wrap ((IntKind.u64.wrap ((bQ .u64 p0 32)*(bQ .u64 p1 32)))+(bQ .u64 w2 32)))+(bQ .u64 w3 32))))] (by kernel_rfl) (bK rfl rfl rfl (bv rfl (.p (congrArg (fun z=>PV.v (Value.int .u64 z)) hw4))) (aB (bO (af [48,49,50] [(5,pU (IntKind.u64.wrap (p0*p1)))] (by kernel_rfl) (em ?_))))))
 obtain rfl:=osi h
 exact aQ (dp (aX rfl) (aX rfl)) bL ⟨rfl,rfl⟩
def kH (p0:Int) (p1:Int):Option Zm:=(fJ p0 p1).bind fun x2=>some (⟨x2.1,x2.2⟩:Zm)
theorem tm {p0:Int} {p1:Int} {r:Zm}  (h:kH p0 p1=some r):PF 172 [pU p0,pU p1] (.agg [pU r.Hi,pU r.Lo]):=by
 unfold kH at h
 refine bk ?_
 refine ed Tryz.func172 rfl Tryz.ntmps172 Tryz.results172 rfl (aa (ai rfl (aM (cs:=[pU 0,pU 0]) rfl rfl rfl rfl (fun b1=>aB (cU h fun x2 hx2 h=>aw [] [8,9,10,7,11,12] [(5,pU x2.1),(6,pU x2.2)] (bG 2 (mX hx2) bx) (by kernel_rfl) (bO (aa (bS 3 [13,14] [(15,.agg [pU x2.1,pU x2.2])] (by kernel_rfl) (aN rfl rfl (aj (vs:=[pU x2.1,pU x2.2]) rfl rfl rfl rfl rfl bV oT (aB (em ?_))))))))))))
 obtain rfl:=osi h
 exact aQ (cL (cE rfl eP rfl)) bL ⟨rfl,rfl⟩
def ji (p0:Int) (p1:Int) (p2:Int) (p3:Int):Option (Int×Int):=(kH p0 p1).bind fun x1=>(kG x1 p2 p3).bind fun x2=>some (x2.1,x2.2)
theorem oX {p0:Int} {p1:Int} {p2:Int} {p3:Int} {r:(Int×Int)}  (h:ji p0 p1 p2 p3=some r):PF 141 [pU p0,pU p1,pU p2,pI p3] (.tup [pU r.1,pI r.2]):=by
 unfold ji at h
 refine bk ?_
 refine ed Tryz.func141 rfl Tryz.ntmps141 Tryz.results141 rfl (aU [8,9] (by kernel_rfl) (cU h fun x1 hx1 h=>ae h fun x2 hx2 h=>aw [] (rg 10 8) [(8,pU x2.1),(9,pI x2.2)] (bG 2 (tm hx1) (bG 5 (tl hx2) bx)) (by kernel_rfl) (em ?_)))
 obtain rfl:=osi h
 exact aQ (dp (aX rfl) (aX rfl)) bL ⟨rfl,rfl⟩
def ef (p0:Int) (p1:Int) (p2:Int):Option Int:=(ji (IntKind.u64.wrap p0) (IntKind.u64.wrap p1) (IntKind.u64.wrap p2) 1).bind fun x1=>cond ((x1.2 != 0)||(decide (1000000000000<x1.1))) (some (1000000000000:Int)) (some (IntKind.i64.wrap x1.1))
theorem lJ {p0:Int} {p1:Int} {p2:Int} {r:Int}  (h:ef p0 p1 p2=some r):PF 99 [pI p0,pI p1,pI p2] (pI r):=by
 unfold ef at h
 refine bk ?_
 refine ed Tryz.func99 rfl Tryz.ntmps99 Tryz.results99 rfl (aU [6] (by kernel_rfl) (cU h fun x1 hx1 h=>aw [] ((rg 10 7)++[9,17,18]) [(7,pU x1.1),(8,pI x1.2)] (bG 6 (oX hx1) bx) (by kernel_rfl) (cY (af (rg 19 5) [(24,pB ((x1.2 != 0)||(decide (1000000000000<x1.1))))] (by kernel_rfl) (bT rfl h (fun hc2 h=>?_) fun hc2 h=>?_)))))
 ·refine ag ?_
  refine fm [(6,pI 1000000000000)] (by kernel_rfl) (aA ?_)
  exact zz r h rfl
 refine ah ?_
 refine bO (af [25,26] [(6,pI (IntKind.i64.wrap x1.1))] (by kernel_rfl) (em ?_))
 exact zz r h rfl
def jL (p0:(List Int)):Option Int:=(bf (S:=Int) (T:=(Unit)⊕(_)) (fun v1=>cond (decide (v1<(p0.length:Int))) ((idx p0 v1).bind fun m5=>cond (m5 != 0) (some (.inr (.inr m5))) (some (.inl (IntKind.i64.wrap (v1+1))))) (some (.inr (.inl ())))) FUEL 0).bind fun q=>match q with | .inl _=>some (0:Int) | .inr e=>some e
theorem rA {p0:(List Int)} {r:Int}  (h:jL p0=some r):PF 102 [pL eI p0] (pI r):=by
 unfold jL at h
 refine bk ?_
 refine ed Tryz.func102 rfl Tryz.ntmps102 Tryz.results102 rfl (aU [2] (by kernel_rfl) (bO (an [(3,pI 0)] (by kernel_rfl) (cY (an [(6,pL eI p0),(7,pI (p0.length:Int)),(8,pI 0)] (by kernel_rfl) (gn h fun q3 hq3 h=>?_))))))
 refine ar (Y:=Unit×Unit) (fun (_,_)=>[(3,pI 0)]) (fun (_,_)=>[]) (fun (_,_)=>q3=Sum.inl ()) ?_ ?_
 ·refine aC ?_
  refine aJ (Y:=Unit) (S:=Int) _ hq3 (fun _ v1=>[(3,pI 0),(6,pL eI p0),(7,pI (p0.length:Int)),(8,pI v1)]) (fun _ v1=>[]) () (jW rfl) bL ?_
  rintro _ v1 o τ hb2;(try dsimp only at hb2);dsimp only [az]
  refine ag (an [(9,pB (decide (v1<(p0.length:Int))))] (by kernel_rfl) (bO (kq rfl hb2 (fun hc4 hb2=>?_) fun hc4 hb2=>?_)))
  ·refine ah ?_
   refine bO (gG (ae hb2 fun m5 hm5 hb2=>aw [] [10,11] [(5,pI m5)] (db 0 eI hm5 bx) (by kernel_rfl) (bO (af [12,13] [(14,pB (m5 != 0))] (by kernel_rfl) (bT rfl hb2 (fun hc6 hb2=>?_) fun hc6 hb2=>?_)))))
   ·refine ag ?_
    refine af [15] [(2,pI m5)] (by kernel_rfl) (em (iX ?_))
    refine aW hb2 (fun ht=>?_);subst ht
    refine aL (aV ?_)
    exact zz r h rfl
   refine ah ?_
   refine fw (af [16] [(8,pI (IntKind.i64.wrap (v1+1)))] (by kernel_rfl) ?_)
   exact aY hb2 () (jW rfl) bL
  refine aP ?_
  refine aq (ak hb2 (fun ht=>am rfl ?_))
  exact au ((),()) (tN rfl) bL ht.symm
 rintro ⟨_,_⟩ τ hz;(try dsimp only at hz);subst q3;(try dsimp only at h);dsimp only [az]
 refine ag (af [17] [(2,pI 0)] (by kernel_rfl) (em ?_))
 exact zz r h rfl
def du (p0:Za) (p1:Za):Option Int:=(dN p0.Product p1.Product).bind fun x3=>(dN p0.Agreement p1.Agreement).bind fun x4=>(jL [x3,x4]).bind fun x6=>some x6
theorem jj {p0:Za} {p1:Za} {r:Int}  (h:du p0 p1=some r):PF 50 [.agg [pI p0.Product,pI p0.Agreement],.agg [pI p1.Product,pI p1.Agreement]] (pI r):=by
 unfold du at h
 refine bk ?_
 refine ed Tryz.func50 rfl Tryz.ntmps50 Tryz.results50 rfl (aa (ai rfl (bM (cs:=[pI p0.Product,pI p0.Agreement]) rfl rfl (fun b1=>ai rfl (bM (cs:=[pI p1.Product,pI p1.Agreement]) rfl rfl (fun b2=>bm [4] (by kernel_rfl) (bO (bJ (ρd:=[]) [(0,0),(1,0),(2,0),(3,0),(5,0),(6,0),(7,0),(8,0),(4,1),(9,1),(10,1),(11,1),(12,0)] _ (List.Perm.refl _) (by kernel_rfl) rfl (ae h fun x3 hx3 h=>ae h fun x4 hx4 h=>bR 10 [1,0,1,0] [5,6,7,8,10,11,12,13] [(9,pI x3),(14,pI x4)] (bG 8 (gu hx3) (bG 9 (gu hx4) bx)) (by kernel_rfl) ?_)))))))))
 refine gb rfl rfl rfl (pl_fz (bB rfl rfl rfl rfl rfl (eZ rfl (eZ rfl hY)) rfl rfl rfl rfl (fun b5=>⟨_,_,_,_,_,_,_,rfl,by (repeat (first | exact aI | apply ap)),?_⟩)))
 refine ae h fun x6 hx6 h=>bR 2 [] [16] [(4,pI x6)] (bG 0 (rA hx6) bx) (by kernel_rfl) (bW (em ?_))
 exact zz r h rfl
def bu (p0:(List Za)):Option (List Za):=cond (decide (((p0.length:Nat):Int)<2)) (some p0) ((bf (S:=Int) (T:=(Unit)⊕(_)) (fun v2=>cond (decide (v2<((p0.length:Nat):Int))) ((idx p0 v2).bind fun m7=>(idx p0 (IntKind.i64.wrap (v2 - 1))).bind fun m8=>cond (Za.eqb m7 m8) ((sub p0 v2 (p0.length:Int)).bind fun l10=>(bf (S:=(List Za)×Int×Int) (T:=((List Za)×Int)) (fun (l12,v13,v14)=>cond (decide (v14<((p0.length - v2.toNat:Nat):Int))) (((i5 v14).bind fun u25=>(idx l12 (v2+v14)).bind fun m26=>(i5 (IntKind.i64.wrap (v14 - 1))).bind fun u27=>(idx l12 (v2+(IntKind.i64.wrap (v14 - 1)))).bind fun m28=>cond (!(Za.eqb m26 m28)) ((i5 v14).bind fun u30=>(idx l12 (v2+v14)).bind fun m31=>(idx l12 v13).bind fun m32=>some ((l12.set v13.toNat m31),(IntKind.i64.wrap (v13+1)))) (some (l12,v13))).bind fun (l22,v23)=>some (.inl (l22,v23,(IntKind.i64.wrap (v14+1))))) (some (.inr (l12,v13)))) FUEL (p0,v2,1)).bind fun (l16,v17)=>(sub l16 v17 (l16.length:Int)).bind fun l34=>(sub (List.take v17.toNat l16++List.replicate (p0.length - v17.toNat) (⟨(0:Int),(0:Int)⟩:Za)) 0 v17).bind fun l35=>some (.inr (.inr l35))) (some (.inl (IntKind.i64.wrap (v2+1))))) (some (.inr (.inl ())))) FUEL 1).bind fun q=>match q with | .inl _=>some p0 | .inr e=>some e)
theorem eu {p0:(List Za)} {a_0:Option Addr}  {n_0:Nat}  {c_0:Nat} {r:(List Za)}  (h:bu p0=some r):PCall 51 [.v (.slice a_0 n_0 c_0)] [PRes.row a_0 n_0 c_0 28 2 (List.map Za.enc p0)] (fun pv ρ'=>∃ a c,pv=.v (.slice a r.length c)∧ρ'=[PRes.row a r.length c 28 2 (List.map Za.enc r)]):=by
 unfold bu at h
 refine lh Tryz.func51 rfl Tryz.ntmps51 Tryz.results51 rfl ?_
 refine oz (enc:=Za.enc) (xs:=p0) (a:=a_0) eP (fun hl ha=>?_);subst hl;clear ha
 refine ag (aU [2] (by kernel_rfl) (cY (af [6,7] [(8,pB (decide (((p0.length:Nat):Int)<2)))] (by kernel_rfl) (bT rfl h (fun hc1 h=>?_) fun hc1 h=>?_))))
 ·refine ag ?_
  refine af [9] [(2,pO a_0 p0.length c_0)] (by kernel_rfl) (em (aA ?_))
  obtain rfl:=osi h
  exact aQ (cL (aX rfl)) cI ⟨_,_,rfl,rfl⟩
 refine ah ?_
 refine cY (an [(3,pI 1)] (by kernel_rfl) (gn h fun q5 hq5 h=>?_))
 refine ar (Y:=Unit×Unit) (fun (_,_)=>[(0,pO a_0 p0.length c_0)]) (fun (_,_)=>[PRes.row a_0 p0.length c_0 28 2 (List.map Za.enc p0)]) (fun (_,_)=>q5=Sum.inl ()) ?_ ?_
 ·refine aC ?_
  refine aJ (Y:=Unit) (S:=Int) _ hq5 (fun _ v2=>[(0,pO a_0 p0.length c_0),(3,pI v2)]) (fun _ v2=>[PRes.row a_0 p0.length c_0 28 2 (List.map Za.enc p0)]) () (nS rfl) cI ?_
  rintro _ v2 o τ hb4;(try dsimp only at hb4);dsimp only [az]
  refine dU (af [10,11,12] [(13,pB (decide (v2<((p0.length:Nat):Int))))] (by kernel_rfl) (bT rfl hb4 (fun hc6 hb4=>?_) fun hc6 hb4=>?_))
  ·refine ah ?_
   refine bO (gG (bJ (ρd:=[]) [(0,0),(1,0),(2,0),(3,0),(4,0),(5,0),(6,0),(7,0),(8,0),(9,0)] _ (List.Perm.refl _) (by kernel_rfl) rfl (ae hb4 fun m7 hm7 hb4=>fG 2 [(16,pO a_0 p0.length c_0),(17,pI v2)] (by kernel_rfl) (hZ rfl rfl rfl (e7 (enc:=Za.enc) (xs:=p0) rfl rfl rfl (.p rfl) eP (.p rfl) (fun _=>hm7)) (hZ rfl rfl rfl (dg (sz:=2) (p:=.agg [pI m7.Product,pI m7.Agreement]) (enc:=Za.enc) (xs:=p0) (a:=a_0) v2 0 m7 rfl (.p rfl) rfl eP (fun _=>hm7) rfl) (ae hb4 fun m8 hm8 hb4=>jH 3 [21] [(20,pO a_0 p0.length c_0),(22,pI (IntKind.i64.wrap (v2 - 1)))] (by kernel_rfl) (hZ rfl rfl rfl (e7 (enc:=Za.enc) (xs:=p0) rfl rfl rfl (.p rfl) eP (.p rfl) (fun _=>hm8)) (hZ rfl rfl rfl (dg (sz:=2) (p:=.agg [pI m8.Product,pI m8.Agreement]) (enc:=Za.enc) (xs:=p0) (a:=a_0) (IntKind.i64.wrap (v2 - 1)) 0 m8 rfl (.p rfl) rfl eP (fun _=>hm8) rfl) (bR 1 [] [] [(25,pB (Za.eqb m7 m8))] (xM 0 Za.eqok28 bx) (by kernel_rfl) (bW (bT rfl hb4 (fun hc9 hb4=>?_) fun hc9 hb4=>?_)))))))))))
   ·refine ag ?_
    refine ae hb4 fun l10 hl10 hb4=>aa (av 2 [(26,pO a_0 p0.length c_0),(27,pI v2)] (by kernel_rfl) (bK rfl rfl rfl (ln (enc:=Za.enc) (xs:=p0) rfl rfl rfl rfl rfl eP hl10) (aG [(4,pQ a_0 p0.length c_0 v2.toNat 2)] (by kernel_rfl) (cY (an [(5,pI 1)] (by kernel_rfl) (gn hb4 fun q19 hq19 hb4=>?_))))))
    refine ar (Y:=Unit×((List Za)×Int)) (fun (_,(l16,v17))=>[(0,pO a_0 p0.length c_0),(3,pI v17)]) (fun (_,(l16,v17))=>[PRes.row a_0 p0.length c_0 28 2 (List.map Za.enc l16)]) (fun (_,(l16,v17))=>q19=(l16,v17)) ?_ ?_
    ·refine aC ?_
     refine aJ (Y:=Unit) (S:=(List Za)×Int×Int) _ hq19 (fun _ (l12,v13,v14)=>[(0,pO a_0 p0.length c_0),(3,pI v13),(4,pQ a_0 p0.length c_0 v2.toNat 2),(5,pI v14)]) (fun _ (l12,v13,v14)=>[PRes.row a_0 p0.length c_0 28 2 (List.map Za.enc l12)]) () (jW rfl) cI ?_
     rintro _ ⟨l12,v13,v14⟩ o τ hb18;(try dsimp only at hb18);dsimp only [az]
     refine dU (af [29,30,31] [(32,pB (decide (v14<((p0.length - v2.toNat:Nat):Int))))] (by kernel_rfl) (bT rfl hb18 (fun hc20 hb18=>?_) fun hc20 hb18=>?_))
     ·refine ah ?_
      refine cU hb18 fun q24 hq24 hb18=>?_
      refine ar (Y:=Unit×((List Za)×Int)) (fun (_,(l22,v23))=>[(0,pO a_0 p0.length c_0),(3,pI v23),(4,pQ a_0 p0.length c_0 v2.toNat 2),(5,pI v14)]) (fun (_,(l22,v23))=>[PRes.row a_0 p0.length c_0 28 2 (List.map Za.enc l22)]) (fun (_,(l22,v23))=>q24=(l22,v23)) ?_ ?_
      ·skip
       refine gG (bJ (ρd:=[]) [(0,0),(1,0),(2,0),(3,0),(4,0),(5,0),(6,0),(7,0),(8,0),(9,0)] _ (List.Perm.refl _) (by kernel_rfl) rfl (ae hq24 fun u25 hu25 hq24=>ae hq24 fun m26 hm26 hq24=>fG 2 [(35,pQ a_0 p0.length c_0 v2.toNat 2),(36,pI v14)] (by kernel_rfl) (hZ rfl rfl rfl (im (enc:=Za.enc) (xs:=l12) (i:=v2) rfl rfl rfl rfl rfl (fE hl10).1.1 (jC hu25) eP hm26) (hZ rfl rfl rfl (dg (sz:=2) (p:=.agg [pI m26.Product,pI m26.Agreement]) (enc:=Za.enc) (xs:=l12) (a:=a_0) (v2+v14) 0 m26 rfl (.p rfl) rfl eP (fun _=>hm26) rfl) (ae hq24 fun u27 hu27 hq24=>ae hq24 fun m28 hm28 hq24=>jH 3 [40] [(39,pQ a_0 p0.length c_0 v2.toNat 2),(41,pI (IntKind.i64.wrap (v14 - 1)))] (by kernel_rfl) (hZ rfl rfl rfl (im (enc:=Za.enc) (xs:=l12) (i:=v2) rfl rfl rfl rfl rfl (fE hl10).1.1 (jC hu27) eP hm28) (hZ rfl rfl rfl (dg (sz:=2) (p:=.agg [pI m28.Product,pI m28.Agreement]) (enc:=Za.enc) (xs:=l12) (a:=a_0) (v2+(IntKind.i64.wrap (v14 - 1))) 0 m28 rfl (.p rfl) rfl eP (fun _=>hm28) rfl) (bR 1 [] [] [(44,pB (!(Za.eqb m26 m28)))] (xM 0 Za.eqok28 bx) (by kernel_rfl) (bW (bT rfl hq24 (fun hc29 hq24=>?_) fun hc29 hq24=>?_))))))))))
       ·refine ag ?_
        refine ae hq24 fun u30 hu30 hq24=>ae hq24 fun m31 hm31 hq24=>aa (av 4 [(45,pO a_0 p0.length c_0),(46,pI v13),(47,pQ a_0 p0.length c_0 v2.toNat 2),(48,pI v14)] (by kernel_rfl) (bK rfl rfl rfl (im (enc:=Za.enc) (xs:=l12) (i:=v2) rfl rfl rfl rfl rfl (fE hl10).1.1 (jC hu30) eP hm31) (bK rfl rfl rfl (dg (sz:=2) (p:=.agg [pI m31.Product,pI m31.Agreement]) (enc:=Za.enc) (xs:=l12) (a:=a_0) (v2+v14) 0 m31 rfl (.p rfl) rfl eP (fun _=>hm31) rfl) (ae hq24 fun m32 hm32 hq24=>bK rfl rfl rfl (e7 (enc:=Za.enc) (xs:=l12) rfl rfl rfl (.p rfl) eP (.p rfl) (fun _=>hm32)) (aN rfl rfl (qf (enc:=Za.enc) (xs:=l12) (a:=a_0) v13 0 m32 m31 rfl rfl rfl rfl (fun _=>rfl) rfl rfl hm32 oT bV (aB (aT (af [52,53] [(3,pI (IntKind.i64.wrap (v13+1)))] (by kernel_rfl) (aD ?_))))))))))
        obtain rfl:=osi hq24
        exact au ((),((l12.set v13.toNat m31),(IntKind.i64.wrap (v13+1)))) (jW rfl) cI rfl
       refine ah ?_
       refine aD ?_
       obtain rfl:=osi hq24
       exact au ((),(l12,v13)) (jW rfl) cI rfl
      rintro ⟨_,⟨l22,v23⟩⟩ τ hz;(try dsimp only at hz);subst q24;(try dsimp only at hb18);dsimp only [az]
      refine af [33,34] [(5,pI (IntKind.i64.wrap (v14+1)))] (by kernel_rfl) ?_
      exact aY hb18 () (jW rfl) cI
     refine aP ?_
     refine aq (ak hb18 (fun ht=>am rfl ?_))
     exact au ((),(l12,v13)) (nS rfl) cI ht.symm
    rintro ⟨_,⟨l16,v17⟩⟩ τ hz;(try dsimp only at hz);subst q19;(try dsimp only at hb4);dsimp only [az]
    refine ag (ae hb4 fun l34 hl34 hb4=>aa (av 2 [(54,pO a_0 p0.length c_0),(55,pI v17)] (by kernel_rfl) (bK rfl rfl rfl (ln (enc:=Za.enc) (xs:=l16) rfl rfl rfl rfl rfl eP hl34) (aN rfl rfl (r8 (enc:=Za.enc) (xs:=l16) (z0:=(⟨(0:Int),(0:Int)⟩:Za)) (i:=v17) rfl rfl rfl rfl hl34 rfl rfl rfl rfl bV (aB (cU hb4 fun l35 hl35 hb4=>aa (av 2 [(57,pO a_0 p0.length c_0),(58,pI v17)] (by kernel_rfl) ?_))))))))
    refine ai rfl (r7 (enc:=Za.enc) (xs:=(List.take v17.toNat l16++List.replicate (p0.length - v17.toNat) (⟨(0:Int),(0:Int)⟩:Za))) rfl rfl rfl rfl rfl (by exact aI) hl35 ?_)
    refine aG [(2,pO a_0 l35.length c_0)] (by kernel_rfl) (em (iX ?_))
    refine aW hb4 (fun ht=>?_);subst ht
    refine aL (aV ?_)
    obtain rfl:=osi h
    exact aQ (cL (aX rfl)) cI ⟨_,_,rfl,rfl⟩
   refine ah ?_
   refine fw (af [14,15] [(3,pI (IntKind.i64.wrap (v2+1)))] (by kernel_rfl) ?_)
   exact aY hb4 () (nS rfl) cI
  refine aP ?_
  refine aq (ak hb4 (fun ht=>am rfl ?_))
  exact au ((),()) (tN rfl) cI ht.symm
 rintro ⟨_,_⟩ τ hz;(try dsimp only at hz);subst q5;(try dsimp only at h);dsimp only [az]
 refine ag (af [60] [(2,pO a_0 p0.length c_0)] (by kernel_rfl) (em ?_))
 obtain rfl:=osi h
 exact aQ (cL (aX rfl)) cI ⟨_,_,rfl,rfl⟩
def fc (p0:Zn):Option Zi:=some p0.use
theorem jM {p0:Zn} {r:Zi}  (h:fc p0=some r):PF 240 [.agg [pS p0.use.Code,pI p0.use.Value,pB p0.use.Originating,pI p0.premise.Product,pI p0.premise.Agreement]] (.agg [pS r.Code,pI r.Value,pB r.Originating]):=by
 unfold fc at h
 refine bk ?_
 refine ed Tryz.func240 rfl Tryz.ntmps240 Tryz.results240 rfl (aa (ai rfl (bM (cs:=[pS p0.use.Code,pI p0.use.Value,pB p0.use.Originating,pI p0.premise.Product,pI p0.premise.Agreement]) rfl rfl (fun b1=>ai rfl (aM (cs:=[pS ByteArray.empty,pI 0,pB false]) rfl rfl rfl rfl (fun b2=>aB (bO (aa (cw 2 [1] [3] [(4,.agg [pS p0.use.Code,pI p0.use.Value,pB p0.use.Originating])] (by kernel_rfl) (aN rfl rfl (aj (vs:=[pS p0.use.Code,pI p0.use.Value,pB p0.use.Originating]) rfl rfl rfl rfl rfl bV zl3 (aB (em ?_)))))))))))))
 obtain rfl:=osi h
 exact aQ (cL (cE rfl eP rfl)) bL ⟨rfl,rfl⟩
def fy (p0:Zo):Option Zi:=some p0.use
theorem j0 {p0:Zo} {r:Zi}  (h:fy p0=some r):PF 241 [.agg [pS p0.use.Code,pI p0.use.Value,pB p0.use.Originating]] (.agg [pS r.Code,pI r.Value,pB r.Originating]):=by
 unfold fy at h
 refine bk ?_
 refine ed Tryz.func241 rfl Tryz.ntmps241 Tryz.results241 rfl (aa (ai rfl (bM (cs:=[pS p0.use.Code,pI p0.use.Value,pB p0.use.Originating]) rfl rfl (fun b1=>ai rfl (aM (cs:=[pS ByteArray.empty,pI 0,pB false]) rfl rfl rfl rfl (fun b2=>aB (bO (aa (cw 2 [1] [3] [(4,.agg [pS p0.use.Code,pI p0.use.Value,pB p0.use.Originating])] (by kernel_rfl) (aN rfl rfl (aj (vs:=[pS p0.use.Code,pI p0.use.Value,pB p0.use.Originating]) rfl rfl rfl rfl rfl bV zl3 (aB (em ?_)))))))))))))
 obtain rfl:=osi h
 exact aQ (cL (cE rfl eP rfl)) bL ⟨rfl,rfl⟩
def Icumulation_supply_input (x:Zc)  : Option Zi:=match x with | .plain_ a=>fy a  | .proved_ a=>fc a
theorem Icumulation_supply_input_ok {x:Zc}  {w:Zi} (h:Icumulation_supply_input x  = some w):PFI x.pv "customs/cumulation.input" [] (.agg [pS w.Code,pI w.Value,pB w.Originating]):=by
 cases x with
 | plain_ a=>exact zm ⟨fun _ _=>by kernel_rfl⟩ (j0 h)
 | proved_ a=>exact zm ⟨fun _ _=>by kernel_rfl⟩ (jM h)
def fz (p0:(List Ze)) (p1:Int):Option (Ze×Bool):=(bf (S:=Int) (T:=(Unit)⊕(_)) (fun v2=>cond (decide (v2<(p0.length:Int))) ((idx p0 v2).bind fun m6=>cond (m6.ID == p1) ((idx p0 v2).bind fun m8=>some (.inr (.inr (m8,true)))) (some (.inl (IntKind.i64.wrap (v2+1))))) (some (.inr (.inl ())))) FUEL 0).bind fun q=>match q with | .inl _=>some ((⟨0,ByteArray.empty,ByteArray.empty,0,false,[],[]⟩:Ze),false) | .inr e=>some e
theorem iC {p0:(List Ze)} {p1:Int} {r:(Ze×Bool)}  (h:fz p0 p1=some r):PF 53 [pL Ze.enc p0,pI p1] (.tup [.agg (aK r.1),pB r.2]):=by
 unfold fz at h
 refine bk ?_
 refine ed Tryz.func53 rfl Tryz.ntmps53 Tryz.results53 rfl (aa (ai rfl (aM (cs:=[pI 0,pS ByteArray.empty,pS ByteArray.empty,pI 0,pB false,pN,pN]) rfl rfl rfl rfl (fun b1=>bm [5] (by kernel_rfl) (cY (an [(6,pI 0)] (by kernel_rfl) (gn h fun q4 hq4 h=>?_)))))))
 refine ar (Y:=Unit×Unit) (fun (_,_)=>[(4,pP b1 0)]) (fun (_,_)=>[PRes.b b1 76 [pI 0,pS ByteArray.empty,pS ByteArray.empty,pI 0,pB false,pN,pN]]) (fun (_,_)=>q4=Sum.inl ()) ?_ ?_
 ·refine aC ?_
  refine aJ (Y:=Unit) (S:=Int) _ hq4 (fun _ v2=>[(0,pL Ze.enc p0),(1,pI p1),(4,pP b1 0),(6,pI v2)]) (fun _ v2=>[PRes.b b1 76 [pI 0,pS ByteArray.empty,pS ByteArray.empty,pI 0,pB false,pN,pN]]) () (jW rfl) cI ?_
  rintro _ v2 o τ hb3;(try dsimp only at hb3);dsimp only [az]
  refine dU (af [7,8,9] [(10,pB (decide (v2<(p0.length:Int))))] (by kernel_rfl) (bT rfl hb3 (fun hc5 hb3=>?_) fun hc5 hb3=>?_))
  ·refine ah ?_
   refine bO (gG (ae hb3 fun m6 hm6 hb3=>aw [] (rg 13 6) [(19,pB (m6.ID == p1))] (db 2 Ze.enc hm6 bx) (by kernel_rfl) (bT rfl hb3 (fun hc7 hb3=>?_) fun hc7 hb3=>?_)))
   ·refine ag ?_
    refine ae hb3 fun m8 hm8 hb3=>aa (aS 4 [] [20,21,22] [(23,.agg (aK m8))] (db 2 Ze.enc hm8 bx) (by kernel_rfl) (aN rfl rfl (aj (vs:=(aK m8)) rfl rfl rfl rfl rfl bV mA (aG [(5,pB true)] (by kernel_rfl) (em (iX ?_))))))
    refine aW hb3 (fun ht=>?_);subst ht
    refine aL (aV ?_)
    obtain rfl:=osi h
    exact aQ (dp (cE rfl eP rfl) (aX rfl)) bL ⟨rfl,rfl⟩
   refine ah ?_
   refine fw (af [11,12] [(6,pI (IntKind.i64.wrap (v2+1)))] (by kernel_rfl) ?_)
   exact aY hb3 () (jW rfl) cI
  refine aP ?_
  refine aq (ak hb3 (fun ht=>am rfl ?_))
  exact au ((),()) (tN rfl) cI ht.symm
 rintro ⟨_,_⟩ τ hz;(try dsimp only at hz);subst q4;(try dsimp only at h);dsimp only [az]
 refine ag (aa (av 1 [(24,.agg [pI 0,pS ByteArray.empty,pS ByteArray.empty,pI 0,pB false,pN,pN])] (by kernel_rfl) (aN rfl rfl (aj (vs:=[pI 0,pS ByteArray.empty,pS ByteArray.empty,pI 0,pB false,pN,pN]) rfl rfl rfl rfl rfl bV mA (aG [(5,pB false)] (by kernel_rfl) (aT (cb (k:=5) (b:=b1) rfl bV (cb (k:=6) (b:=b1) rfl bV (bU ?_)))))))))
 obtain rfl:=osi h
 exact aQ (dp (cE rfl eP rfl) (aX rfl)) bL ⟨rfl,rfl⟩
def dP (p0:(List Zb)) (p1:Int):Option (Zb×Bool):=(bf (S:=Int) (T:=(Unit)⊕(_)) (fun v2=>cond (decide (v2<(p0.length:Int))) ((idx p0 v2).bind fun m6=>cond (m6.ID == p1) ((idx p0 v2).bind fun m8=>some (.inr (.inr (m8,true)))) (some (.inl (IntKind.i64.wrap (v2+1))))) (some (.inr (.inl ())))) FUEL 0).bind fun q=>match q with | .inl _=>some ((⟨0,0,[],[]⟩:Zb),false) | .inr e=>some e
theorem gx {p0:(List Zb)} {p1:Int} {r:(Zb×Bool)}  (h:dP p0 p1=some r):PF 54 [pL Zb.enc p0,pI p1] (.tup [.agg (al r.1),pB r.2]):=by
 unfold dP at h
 refine bk ?_
 refine ed Tryz.func54 rfl Tryz.ntmps54 Tryz.results54 rfl (aa (ai rfl (aM (cs:=[pI 0,pI 0,pN,pN]) rfl rfl rfl rfl (fun b1=>bm [5] (by kernel_rfl) (cY (an [(6,pI 0)] (by kernel_rfl) (gn h fun q4 hq4 h=>?_)))))))
 refine ar (Y:=Unit×Unit) (fun (_,_)=>[(4,pP b1 0)]) (fun (_,_)=>[PRes.b b1 81 [pI 0,pI 0,pN,pN]]) (fun (_,_)=>q4=Sum.inl ()) ?_ ?_
 ·refine aC ?_
  refine aJ (Y:=Unit) (S:=Int) _ hq4 (fun _ v2=>[(0,pL Zb.enc p0),(1,pI p1),(4,pP b1 0),(6,pI v2)]) (fun _ v2=>[PRes.b b1 81 [pI 0,pI 0,pN,pN]]) () (jW rfl) cI ?_
  rintro _ v2 o τ hb3;(try dsimp only at hb3);dsimp only [az]
  refine dU (af [7,8,9] [(10,pB (decide (v2<(p0.length:Int))))] (by kernel_rfl) (bT rfl hb3 (fun hc5 hb3=>?_) fun hc5 hb3=>?_))
  ·refine ah ?_
   refine bO (gG (ae hb3 fun m6 hm6 hb3=>aw [] (rg 13 6) [(19,pB (m6.ID == p1))] (db 2 Zb.enc hm6 bx) (by kernel_rfl) (bT rfl hb3 (fun hc7 hb3=>?_) fun hc7 hb3=>?_)))
   ·refine ag ?_
    refine ae hb3 fun m8 hm8 hb3=>aa (aS 4 [] [20,21,22] [(23,.agg (al m8))] (db 2 Zb.enc hm8 bx) (by kernel_rfl) (aN rfl rfl (aj (vs:=(al m8)) rfl rfl rfl rfl rfl bV wK (aG [(5,pB true)] (by kernel_rfl) (em (iX ?_))))))
    refine aW hb3 (fun ht=>?_);subst ht
    refine aL (aV ?_)
    obtain rfl:=osi h
    exact aQ (dp (cE rfl eP rfl) (aX rfl)) bL ⟨rfl,rfl⟩
   refine ah ?_
   refine fw (af [11,12] [(6,pI (IntKind.i64.wrap (v2+1)))] (by kernel_rfl) ?_)
   exact aY hb3 () (jW rfl) cI
  refine aP ?_
  refine aq (ak hb3 (fun ht=>am rfl ?_))
  exact au ((),()) (tN rfl) cI ht.symm
 rintro ⟨_,_⟩ τ hz;(try dsimp only at hz);subst q4;(try dsimp only at h);dsimp only [az]
 refine ag (aa (av 1 [(24,.agg [pI 0,pI 0,pN,pN])] (by kernel_rfl) (aN rfl rfl (aj (vs:=[pI 0,pI 0,pN,pN]) rfl rfl rfl rfl rfl bV wK (aG [(5,pB false)] (by kernel_rfl) (aT (cb (k:=2) (b:=b1) rfl bV (cb (k:=3) (b:=b1) rfl bV (bU ?_)))))))))
 obtain rfl:=osi h
 exact aQ (dp (cE rfl eP rfl) (aX rfl)) bL ⟨rfl,rfl⟩
def fZ (p0:(List ByteArray)) (p1:ByteArray):Option Bool:=(bf (S:=Int) (T:=(Unit)⊕(_)) (fun v1=>cond (decide (v1<(p0.length:Int))) ((idx p0 v1).bind fun m5=>cond (decide (m5=p1)) (some (.inr (.inr true))) (some (.inl (IntKind.i64.wrap (v1+1))))) (some (.inr (.inl ())))) FUEL 0).bind fun q=>match q with | .inl _=>some false | .inr e=>some e
theorem gT {p0:(List ByteArray)} {p1:ByteArray} {r:Bool}  (h:fZ p0 p1=some r):PF 56 [pL eS p0,pS p1] (pB r):=by
 unfold fZ at h
 refine bk ?_
 refine ed Tryz.func56 rfl Tryz.ntmps56 Tryz.results56 rfl (aU [4] (by kernel_rfl) (cY (an [(5,pI 0)] (by kernel_rfl) (gn h fun q3 hq3 h=>?_))))
 refine ar (Y:=Unit×Unit) (fun (_,_)=>[]) (fun (_,_)=>[]) (fun (_,_)=>q3=Sum.inl ()) ?_ ?_
 ·refine aC ?_
  refine aJ (Y:=Unit) (S:=Int) _ hq3 (fun _ v1=>[(0,pL eS p0),(1,pS p1),(5,pI v1)]) (fun _ v1=>[]) () (lF rfl) bL ?_
  rintro _ v1 o τ hb2;(try dsimp only at hb2);dsimp only [az]
  refine dU (af [6,7,8] [(9,pB (decide (v1<(p0.length:Int))))] (by kernel_rfl) (bT rfl hb2 (fun hc4 hb2=>?_) fun hc4 hb2=>?_))
  ·refine ah ?_
   refine bO (gG (ae hb2 fun m5 hm5 hb2=>aw [] (rg 12 5) [(17,pB (decide (m5=p1)))] (db 2 eS hm5 bx) (by kernel_rfl) (bT rfl hb2 (fun hc6 hb2=>?_) fun hc6 hb2=>?_)))
   ·refine ag ?_
    refine fm [(4,pB true)] (by kernel_rfl) (iX ?_)
    refine aW hb2 (fun ht=>?_);subst ht
    refine aL (aV ?_)
    exact zz r h rfl
   refine ah ?_
   refine fw (af [10,11] [(5,pI (IntKind.i64.wrap (v1+1)))] (by kernel_rfl) ?_)
   exact aY hb2 () (lF rfl) bL
  refine aP ?_
  refine aq (ak hb2 (fun ht=>am rfl ?_))
  exact au ((),()) mN bL ht.symm
 rintro ⟨_,_⟩ τ hz;(try dsimp only at hz);subst q3;(try dsimp only at h);dsimp only [az]
 refine ag (fm [(4,pB false)] (by kernel_rfl) ?_)
 exact zz r h rfl
def f0 (p0:ByteArray) (p1:ByteArray):Option Bool:=(gd (decide ((p1.size:Int)≤(p0.size:Int))) (ll p0 0 (p1.size:Int))).bind fun s1=>some ((decide ((p1.size:Int)≤(p0.size:Int)))&&(decide (s1=p1)))
theorem oY {p0:ByteArray} {p1:ByteArray} {r:Bool}  (h:f0 p0 p1=some r):PF 116 [pS p0,pS p1] (pB r):=by
 unfold f0 at h
 refine bk ?_
 refine ed Tryz.func116 rfl Tryz.ntmps116 Tryz.results116 rfl (aU [4] (by kernel_rfl) (cU h fun s1 hs1 h=>aw [] (rg 5 13) [(4,pB ((decide ((p1.size:Int)≤(p0.size:Int)))&&(decide (s1=p1))))] (fossg 9 (dB hs1) bx) (by kernel_rfl) (em ?_)))
 exact zz r h rfl
def gU (p0:Zb) (p1:ByteArray):Option (Zd×Bool):=(bf (S:=Int×Int) (T:=(Int)) (fun (v3,v4)=>cond (decide (v4<(p0.Rules.length:Int))) (((idx p0.Rules v4).bind fun m11=>(f0 p1 m11.Prefix).bind fun x12=>(gd (x12&&(!(decide (v3<0)))) (idx p0.Rules v4)).bind fun m13=>(gd (x12&&(!(decide (v3<0)))) (idx p0.Rules v3)).bind fun m14=>cond (x12&&((decide (v3<0))||(decide ((m14.Prefix.size:Int)<(m13.Prefix.size:Int))))) (some v4) (some v3)).bind fun v9=>some (.inl (v9,(IntKind.i64.wrap (v4+1))))) (some (.inr v3))) FUEL ((-1),0)).bind fun v5=>cond (decide (v5<0)) (some ((⟨0,0,[],0,0,ByteArray.empty,[]⟩:Zd),false)) ((idx p0.Rules v5).bind fun m17=>some (m17.Rule,true))
theorem oZ {p0:Zb} {p1:ByteArray} {r:(Zd×Bool)}  (h:gU p0 p1=some r):PF 69 [.agg (al p0),pS p1] (.tup [.agg (aR r.1),pB r.2]):=by
 unfold gU at h
 refine bk ?_
 refine ed Tryz.func69 rfl Tryz.ntmps69 Tryz.results69 rfl (aa (ai rfl (bM (cs:=(al p0)) rfl rfl (fun b1=>ai rfl (aM (cs:=[pI 0,pI 0,pN,pI 0,pI 0,pS ByteArray.empty,pN]) rfl rfl rfl rfl (fun b2=>bm [5] (by kernel_rfl) (bO (an [(6,pI (-1))] (by kernel_rfl) (cY (an [(7,pI 0)] (by kernel_rfl) (gn h fun q7 hq7 h=>?_)))))))))))
 refine ar (Y:=Unit×Int) (fun (_,v5)=>[(2,pP b1 0),(4,pP b2 0),(6,pI v5)]) (fun (_,v5)=>[PRes.b b1 81 (al p0),PRes.b b2 84 [pI 0,pI 0,pN,pI 0,pI 0,pS ByteArray.empty,pN]]) (fun (_,v5)=>q7=v5) ?_ ?_
 ·refine aC ?_
  refine aJ (Y:=Unit) (S:=Int×Int) _ hq7 (fun _ (v3,v4)=>[(1,pS p1),(2,pP b1 0),(4,pP b2 0),(6,pI v3),(7,pI v4)]) (fun _ (v3,v4)=>[PRes.b b1 81 (al p0),PRes.b b2 84 [pI 0,pI 0,pN,pI 0,pI 0,pS ByteArray.empty,pN]]) () (mz rfl) (aZ (ap aI) cI) ?_
  rintro _ ⟨v3,v4⟩ o τ hb6;(try dsimp only at hb6);dsimp only [az]
  refine dU (bj [0] [8,9,10,11] [(12,pB (decide (v4<(p0.Rules.length:Int))))] (by kernel_rfl) (bT rfl hb6 (fun hc8 hb6=>?_) fun hc8 hb6=>?_))
  ·refine ah ?_
   refine cU hb6 fun q10 hq10 hb6=>?_
   refine ar (Y:=Unit×Int) (fun (_,v9)=>[(1,pS p1),(2,pP b1 0),(4,pP b2 0),(6,pI v9),(7,pI v4)]) (fun (_,v9)=>[PRes.b b1 81 (al p0),PRes.b b2 84 [pI 0,pI 0,pN,pI 0,pI 0,pS ByteArray.empty,pN]]) (fun (_,v9)=>q10=v9) ?_ ?_
   ·skip
    refine gG (bJ (ρd:=[]) [(0,0),(1,0),(2,0),(3,0),(4,0),(5,0),(6,0),(7,1),(8,0),(9,0),(10,0),(11,0),(12,0),(13,0),(14,0),(15,0),(16,0),(17,0),(18,0),(19,0),(20,0),(21,0),(22,0),(23,0),(24,0),(25,0),(26,0),(27,0),(28,0)] _ (List.Perm.refl _) (by kernel_rfl) rfl (ae hq10 fun m11 hm11 hq10=>ae hq10 fun x12 hx12 hq10=>ae hq10 fun m13 hm13 hq10=>ae hq10 fun m14 hm14 hq10=>bR 29 [0,0,0] (rg 15 28) [(43,pB (x12&&((decide (v3<0))||(decide ((m14.Prefix.size:Int)<(m13.Prefix.size:Int))))))] (db 4 Zf.enc hm11 (bG 7 (oY hx12) (ia 15 Zf.enc (dB hm13) (ia 22 Zf.enc (dB hm14) bx)))) (by kernel_rfl) (bW (bT rfl hq10 (fun hc15 hq10=>?_) fun hc15 hq10=>?_))))
    ·refine af [44] [(6,pI v4)] (by kernel_rfl) ?_
     refine aD ?_
     obtain rfl:=osi hq10
     exact au ((),v4) (mz rfl) oA rfl
    refine ah ?_
    refine aD ?_
    obtain rfl:=osi hq10
    exact au ((),v3) (mz rfl) oA rfl
   rintro ⟨_,v9⟩ τ hz;(try dsimp only at hz);subst q10;(try dsimp only at hb6);dsimp only [az]
   refine af [13,14] [(7,pI (IntKind.i64.wrap (v4+1)))] (by kernel_rfl) ?_
   exact aY hb6 () (mz rfl) oA
  refine aP ?_
  refine aq (ak hb6 (fun ht=>am rfl ?_))
  exact au ((),v3) (lF rfl) oA ht.symm
 rintro ⟨_,v5⟩ τ hz;(try dsimp only at hz);subst q7;(try dsimp only at h);dsimp only [az]
 refine dU (af [45] [(46,pB (decide (v5<0)))] (by kernel_rfl) (bT rfl h (fun hc16 h=>?_) fun hc16 h=>?_))
 ·refine ag ?_
  refine aa (av 1 [(47,.agg [pI 0,pI 0,pN,pI 0,pI 0,pS ByteArray.empty,pN])] (by kernel_rfl) (aN rfl rfl (aj (vs:=[pI 0,pI 0,pN,pI 0,pI 0,pS ByteArray.empty,pN]) rfl rfl rfl rfl rfl (cG bV) mA (aG [(5,pB false)] (by kernel_rfl) (aT (cb (k:=2) (b:=b2) rfl (cG bV) (cb (k:=6) (b:=b2) rfl (cG bV) (bU (aA ?_)))))))))
  obtain rfl:=osi h
  exact aQ (dp (cE rfl rV rfl) (aX rfl)) bL ⟨rfl,rfl⟩
 refine ah ?_
 refine cU h fun m17 hm17 h=>aa (aS 6 [0] (rg 48 5) [(53,.agg (aR m17.Rule))] (db 3 Zf.enc hm17 bx) (by kernel_rfl) (aN rfl rfl (aj (vs:=(aR m17.Rule)) rfl rfl rfl rfl rfl (cG bV) mA (aG [(5,pB true)] (by kernel_rfl) (em ?_)))))
 obtain rfl:=osi h
 exact aQ (dp (cE rfl rV rfl) (aX rfl)) bL ⟨rfl,rfl⟩
def fe (p0:(List Ze)) (p1:(List Zb)) (p2:ByteArray) (p3:Za):Option Bool:=(fz p0 p3.Product).bind fun x2=>(dP p1 p3.Agreement).bind fun x4=>(gU x4.1 x2.1.Code).bind fun x6=>(gd (((x2.2&&x4.2)&&x6.2)&&(!decide (x2.1.Country=p2))) (fZ x4.1.Parties x2.1.Country)).bind fun x8=>(gd ((((x2.2&&x4.2)&&x6.2)&&(!decide (x2.1.Country=p2)))&&x8) (fZ x4.1.Parties p2)).bind fun x9=>some (((((x2.2&&x4.2)&&x6.2)&&(!decide (x2.1.Country=p2)))&&x8)&&x9)
theorem mF {p0:(List Ze)} {p1:(List Zb)} {p2:ByteArray} {p3:Za} {r:Bool}  (h:fe p0 p1 p2 p3=some r):PF 52 [pL Ze.enc p0,pL Zb.enc p1,pS p2,.agg [pI p3.Product,pI p3.Agreement]] (pB r):=by
 unfold fe at h
 refine bk ?_
 refine ed Tryz.func52 rfl Tryz.ntmps52 Tryz.results52 rfl (aa (ai rfl (bM (cs:=[pI p3.Product,pI p3.Agreement]) rfl rfl (fun b1=>bm [8] (by kernel_rfl) (cU h fun x2 hx2 h=>aa (aS 7 [0] [16,17,18,19,15] [(20,.agg (aK x2.1)),(21,pB x2.2)] (bG 3 (iC hx2) bx) (by kernel_rfl) (ai rfl (aM (cs:=[pI 0,pS ByteArray.empty,pS ByteArray.empty,pI 0,pB false,pN,pN]) rfl rfl rfl rfl (fun b3=>aN rfl rfl (aj (vs:=(aK x2.1)) rfl rfl rfl rfl rfl bV mA (aG [(10,pB x2.2)] (by kernel_rfl) (cU h fun x4 hx4 h=>aa (aS 7 [1] [23,24,25,26,22] [(27,.agg (al x4.1)),(28,pB x4.2)] (bG 3 (gx hx4) bx) (by kernel_rfl) (ai rfl (aM (cs:=[pI 0,pI 0,pN,pN]) rfl rfl rfl rfl (fun b5=>aN rfl rfl (aj (vs:=(al x4.1)) rfl rfl rfl rfl rfl bV wK (aG [(12,pB x4.2)] (by kernel_rfl) (cU h fun x6 hx6 h=>aa (aS 7 [0,1] [30,31,32,33,29] [(34,.agg (aR x6.1)),(35,pB x6.2)] (bG 3 (oZ hx6) bx) (by kernel_rfl) (ai rfl (aM (cs:=[pI 0,pI 0,pN,pI 0,pI 0,pS ByteArray.empty,pN]) rfl rfl rfl rfl (fun b7=>aN rfl rfl (aj (vs:=(aR x6.1)) rfl rfl rfl rfl rfl bV mA (aG [(14,pB x6.2)] (by kernel_rfl) (cU h fun x8 hx8 h=>ae h fun x9 hx9 h=>aw [2,1,2,1] (rg 36 26) [(8,pB (((((x2.2&&x4.2)&&x6.2)&&(!decide (x2.1.Country=p2)))&&x8)&&x9))] (ey 18 (fun hc=>gT (dB hx8 hc)) (ey 24 (fun hc=>gT (dB hx9 hc)) bx)) (by kernel_rfl) (em ?_)))))))))))))))))))))))))))
 exact zz r h rfl
def dH (p0:(List ByteArray)) (p1:(List ByteArray)):Option Bool:=cond ((p0.length:Int) != (p1.length:Int)) (some false) ((bf (S:=Int) (T:=(Unit)⊕(_)) (fun v2=>cond (decide (v2<(p0.length:Int))) ((idx p0 v2).bind fun m6=>(idx p1 v2).bind fun m7=>cond (!decide (m6=m7)) (some (.inr (.inr false))) (some (.inl (IntKind.i64.wrap (v2+1))))) (some (.inr (.inl ())))) FUEL 0).bind fun q=>match q with | .inl _=>some true | .inr e=>some e)
theorem iR {p0:(List ByteArray)} {p1:(List ByteArray)} {r:Bool}  (h:dH p0 p1=some r):PF 61 [pL eS p0,pL eS p1] (pB r):=by
 unfold dH at h
 refine bk ?_
 refine ed Tryz.func61 rfl Tryz.ntmps61 Tryz.results61 rfl (aU [4] (by kernel_rfl) (cY (af [6,7,8,9] [(10,pB ((p0.length:Int) != (p1.length:Int)))] (by kernel_rfl) (bT rfl h (fun hc1 h=>?_) fun hc1 h=>?_))))
 ·refine ag ?_
  refine fm [(4,pB false)] (by kernel_rfl) (aA ?_)
  exact zz r h rfl
 refine ah ?_
 refine cY (an [(5,pI 0)] (by kernel_rfl) (gn h fun q4 hq4 h=>?_))
 refine ar (Y:=Unit×Unit) (fun (_,_)=>[]) (fun (_,_)=>[]) (fun (_,_)=>q4=Sum.inl ()) ?_ ?_
 ·refine aC ?_
  refine aJ (Y:=Unit) (S:=Int) _ hq4 (fun _ v2=>[(0,pL eS p0),(1,pL eS p1),(5,pI v2)]) (fun _ v2=>[]) () (lF rfl) bL ?_
  rintro _ v2 o τ hb3;(try dsimp only at hb3);dsimp only [az]
  refine dU (af [11,12,13] [(14,pB (decide (v2<(p0.length:Int))))] (by kernel_rfl) (bT rfl hb3 (fun hc5 hb3=>?_) fun hc5 hb3=>?_))
  ·refine ah ?_
   refine bO (gG (bJ (ρd:=[]) [(0,0),(1,0),(2,0),(3,0),(4,0),(5,0),(6,0),(7,0),(8,0)] _ (List.Perm.refl _) (by kernel_rfl) rfl (ae hb3 fun m6 hm6 hb3=>ae hb3 fun m7 hm7 hb3=>bR 9 [] (rg 17 8) [(25,pB (!decide (m6=m7)))] (db 2 eS hm6 (db 6 eS hm7 bx)) (by kernel_rfl) (bW (bT rfl hb3 (fun hc8 hb3=>?_) fun hc8 hb3=>?_)))))
   ·refine ag ?_
    refine fm [(4,pB false)] (by kernel_rfl) (iX ?_)
    refine aW hb3 (fun ht=>?_);subst ht
    refine aL (aV ?_)
    exact zz r h rfl
   refine ah ?_
   refine fw (af [15,16] [(5,pI (IntKind.i64.wrap (v2+1)))] (by kernel_rfl) ?_)
   exact aY hb3 () (lF rfl) bL
  refine aP ?_
  refine aq (ak hb3 (fun ht=>am rfl ?_))
  exact au ((),()) mN bL ht.symm
 rintro ⟨_,_⟩ τ hz;(try dsimp only at hz);subst q4;(try dsimp only at h);dsimp only [az]
 refine ag (fm [(4,pB true)] (by kernel_rfl) ?_)
 exact zz r h rfl
def ff (rec:Zd→Zd→Option Bool) (p0:Zd) (p1:Zd):Option Bool:=(gd (!(((((p0.Kind != p1.Kind)||(p0.Digits != p1.Digits))||(p0.Tolerance != p1.Tolerance))||(p0.Limit != p1.Limit))||(!decide (p0.Name=p1.Name)))) (dH p0.Except p1.Except)).bind fun x3=>cond (((((((p0.Kind != p1.Kind)||(p0.Digits != p1.Digits))||(p0.Tolerance != p1.Tolerance))||(p0.Limit != p1.Limit))||(!decide (p0.Name=p1.Name)))||(!x3))||((p0.Args.length:Int) != (p1.Args.length:Int))) (some false) ((bf (S:=Int) (T:=(Unit)⊕(_)) (fun v5=>cond (decide (v5<(p0.Args.length:Int))) ((idx p0.Args v5).bind fun m9=>(idx p1.Args v5).bind fun m10=>(rec m9 m10).bind fun x11=>cond (!x11) (some (.inr (.inr false))) (some (.inl (IntKind.i64.wrap (v5+1))))) (some (.inr (.inl ())))) FUEL 0).bind fun q=>match q with | .inl _=>some true | .inr e=>some e)
theorem mG {rec:Zd→Zd→Option Bool} (hrec:∀ {p0:Zd} {p1:Zd} {r:Bool},rec p0 p1=some r→PF 153 [.agg (aR p0),.agg (aR p1)] (pB r)) {p0:Zd} {p1:Zd} {r:Bool} (h:ff rec p0 p1=some r):PF 153 [.agg (aR p0),.agg (aR p1)] (pB r):=by
 unfold ff at h
 refine bk ?_
 refine ed Tryz.func153 rfl Tryz.ntmps153 Tryz.results153 rfl (aa (ai rfl (bM (cs:=(aR p0)) rfl rfl (fun b1=>ai rfl (bM (cs:=(aR p1)) rfl rfl (fun b2=>bm [4] (by kernel_rfl) (cY (ae h fun x3 hx3 h=>aw [1,0,1,0,1,0,1,0,1,0,1,0,1,0] (rg 6 49) [(55,pB (((((((p0.Kind != p1.Kind)||(p0.Digits != p1.Digits))||(p0.Tolerance != p1.Tolerance))||(p0.Limit != p1.Limit))||(!decide (p0.Name=p1.Name)))||(!x3))||((p0.Args.length:Int) != (p1.Args.length:Int))))] (ey 38 (fun hc=>iR (dB hx3 hc)) bx) (by kernel_rfl) (bT rfl h (fun hc4 h=>?_) fun hc4 h=>?_)))))))))
 ·refine ag ?_
  refine fm [(4,pB false)] (by kernel_rfl) (aA ?_)
  exact zz r h rfl
 refine ah ?_
 refine cY (an [(5,pI 0)] (by kernel_rfl) (gn h fun q7 hq7 h=>?_))
 refine ar (Y:=Unit×Unit) (fun (_,_)=>[]) (fun (_,_)=>[]) (fun (_,_)=>q7=Sum.inl ()) ?_ ?_
 ·refine aC ?_
  refine aJ (Y:=Unit) (S:=Int) _ hq7 (fun _ v5=>[(2,pP b1 0),(3,pP b2 0),(5,pI v5)]) (fun _ v5=>[PRes.b b1 84 (aR p0),PRes.b b2 84 (aR p1)]) () (lF rfl) (aZ (ap aI) cI) ?_
  rintro _ v5 o τ hb6;(try dsimp only at hb6);dsimp only [az]
  refine dU (bj [0] [56,57,58,59] [(60,pB (decide (v5<(p0.Args.length:Int))))] (by kernel_rfl) (bT rfl hb6 (fun hc8 hb6=>?_) fun hc8 hb6=>?_))
  ·refine ah ?_
   refine bO (gG (bJ (ρd:=[]) [(0,0),(1,0),(2,0),(3,0),(4,0),(5,0),(6,0),(7,0),(8,0),(9,0),(10,1),(11,0)] _ (List.Perm.refl _) (by kernel_rfl) rfl (ae hb6 fun m9 hm9 hb6=>ae hb6 fun m10 hm10 hb6=>ae hb6 fun x11 hx11 hb6=>bR 12 [0,1] (rg 63 11) [(74,pB (!x11))] (qp 3 Zd.enc (Zd.enc_eq _) hm9 (qp 8 Zd.enc (Zd.enc_eq _) hm10 (bG 10 (hrec hx11) bx))) (by kernel_rfl) (bW (bT rfl hb6 (fun hc12 hb6=>?_) fun hc12 hb6=>?_)))))
   ·refine ag ?_
    refine fm [(4,pB false)] (by kernel_rfl) (iX ?_)
    refine aW hb6 (fun ht=>?_);subst ht
    refine aL (aV ?_)
    exact zz r h rfl
   refine ah ?_
   refine fw (af [61,62] [(5,pI (IntKind.i64.wrap (v5+1)))] (by kernel_rfl) ?_)
   exact aY hb6 () (lF rfl) oA
  refine aP ?_
  refine aq (ak hb6 (fun ht=>am rfl ?_))
  exact au ((),()) mN bL ht.symm
 rintro ⟨_,_⟩ τ hz;(try dsimp only at hz);subst q7;(try dsimp only at h);dsimp only [az]
 refine ag (fm [(4,pB true)] (by kernel_rfl) ?_)
 exact zz r h rfl
def f8 (n:Nat):Zd→Zd→Option Bool:=Nat.rec (motive:=fun _=>Zd→Zd→Option Bool) (fun _ _=>none) (fun _ ih=>ff ih) n
def jN (p0:Zd) (p1:Zd):Option Bool:=f8 FUEL p0 p1
theorem mY (n:Nat):∀ {p0:Zd} {p1:Zd} {r:Bool},f8 n p0 p1=some r→PF 153 [.agg (aR p0),.agg (aR p1)] (pB r):=by
 induction n with
 | zero=>intros;rename_i h;exact nomatch h
 | succ n ih=>intros;rename_i h;exact mG (fun hr=>ih hr) h
theorem nC {p0:Zd} {p1:Zd} {r:Bool} (h:jN p0 p1=some r):PF 153 [.agg (aR p0),.agg (aR p1)] (pB r):=mY FUEL h
def fK (p0:(List Zf)) (p1:(List Zf)):Option Bool:=cond ((p0.length:Int) != (p1.length:Int)) (some false) ((bf (S:=Int) (T:=(Unit)⊕(_)) (fun v2=>cond (decide (v2<(p0.length:Int))) ((idx p0 v2).bind fun m6=>(idx p1 v2).bind fun m7=>(gd (!(!decide (m6.Prefix=m7.Prefix))) (idx p0 v2)).bind fun m8=>(gd (!(!decide (m6.Prefix=m7.Prefix))) (idx p1 v2)).bind fun m9=>(gd (!(!decide (m6.Prefix=m7.Prefix))) (jN m8.Rule m9.Rule)).bind fun x10=>cond ((!decide (m6.Prefix=m7.Prefix))||(!x10)) (some (.inr (.inr false))) (some (.inl (IntKind.i64.wrap (v2+1))))) (some (.inr (.inl ())))) FUEL 0).bind fun q=>match q with | .inl _=>some true | .inr e=>some e)
theorem mZ {p0:(List Zf)} {p1:(List Zf)} {r:Bool}  (h:fK p0 p1=some r):PF 104 [pL Zf.enc p0,pL Zf.enc p1] (pB r):=by
 unfold fK at h
 refine bk ?_
 refine ed Tryz.func104 rfl Tryz.ntmps104 Tryz.results104 rfl (aU [4] (by kernel_rfl) (cY (af [6,7,8,9] [(10,pB ((p0.length:Int) != (p1.length:Int)))] (by kernel_rfl) (bT rfl h (fun hc1 h=>?_) fun hc1 h=>?_))))
 ·refine ag ?_
  refine fm [(4,pB false)] (by kernel_rfl) (aA ?_)
  exact zz r h rfl
 refine ah ?_
 refine cY (an [(5,pI 0)] (by kernel_rfl) (gn h fun q4 hq4 h=>?_))
 refine ar (Y:=Unit×Unit) (fun (_,_)=>[]) (fun (_,_)=>[]) (fun (_,_)=>q4=Sum.inl ()) ?_ ?_
 ·refine aC ?_
  refine aJ (Y:=Unit) (S:=Int) _ hq4 (fun _ v2=>[(0,pL Zf.enc p0),(1,pL Zf.enc p1),(5,pI v2)]) (fun _ v2=>[]) () (lF rfl) bL ?_
  rintro _ v2 o τ hb3;(try dsimp only at hb3);dsimp only [az]
  refine dU (af [11,12,13] [(14,pB (decide (v2<(p0.length:Int))))] (by kernel_rfl) (bT rfl hb3 (fun hc5 hb3=>?_) fun hc5 hb3=>?_))
  ·refine ah ?_
   refine bO (gG (bJ (ρd:=[]) [(0,0),(1,0),(2,0),(3,0),(4,0),(5,0),(6,0),(7,0),(8,0),(9,0),(10,0),(11,0),(12,0),(13,0),(14,0),(15,0),(16,0),(17,0),(18,0),(19,0),(20,0),(21,0),(22,1),(23,0),(24,0)] _ (List.Perm.refl _) (by kernel_rfl) rfl (ae hb3 fun m6 hm6 hb3=>ae hb3 fun m7 hm7 hb3=>ae hb3 fun m8 hm8 hb3=>ae hb3 fun m9 hm9 hb3=>ae hb3 fun x10 hx10 hb3=>bR 25 [] (rg 17 24) [(41,pB ((!decide (m6.Prefix=m7.Prefix))||(!x10)))] (db 2 Zf.enc hm6 (db 7 Zf.enc hm7 (ia 14 Zf.enc (dB hm8) (ia 19 Zf.enc (dB hm9) (ey 22 (fun hc=>nC (dB hx10 hc)) bx))))) (by kernel_rfl) (bW (bT rfl hb3 (fun hc11 hb3=>?_) fun hc11 hb3=>?_)))))
   ·refine ag ?_
    refine fm [(4,pB false)] (by kernel_rfl) (iX ?_)
    refine aW hb3 (fun ht=>?_);subst ht
    refine aL (aV ?_)
    exact zz r h rfl
   refine ah ?_
   refine fw (af [15,16] [(5,pI (IntKind.i64.wrap (v2+1)))] (by kernel_rfl) ?_)
   exact aY hb3 () (lF rfl) bL
  refine aP ?_
  refine aq (ak hb3 (fun ht=>am rfl ?_))
  exact au ((),()) mN bL ht.symm
 rintro ⟨_,_⟩ τ hz;(try dsimp only at hz);subst q4;(try dsimp only at h);dsimp only [az]
 refine ag (fm [(4,pB true)] (by kernel_rfl) ?_)
 exact zz r h rfl
def fV (p0:(List Zb)) (p1:Int) (p2:ByteArray) (p3:ByteArray):Option (List Int):=(dP p0 p1).bind fun x1=>cond (!x1.2) (some []) ((bf (S:=(List Int)×Int) (T:=((List Int))) (fun (l7,v10)=>cond ((decide (v10<(p0.length:Int)))&&(x1.1.Kind == 2)) (((idx p0 v10).bind fun m23=>(gd (m23.ID != p1) (fZ m23.Parties p2)).bind fun x25=>(gd ((m23.ID != p1)&&x25) (fZ m23.Parties p3)).bind fun x26=>(gd (((m23.ID != p1)&&x25)&&x26) (fK x1.1.Rules m23.Rules)).bind fun x27=>cond ((((m23.ID != p1)&&x25)&&x26)&&x27) ((app 8 l7 [m23.ID]).bind fun l31=>some l31) (some l7)).bind fun l21=>some (.inl (l21,(IntKind.i64.wrap (v10+1))))) (some (.inr l7))) FUEL ([p1],0)).bind fun l14=>some l14)
theorem nD {p0:(List Zb)} {p1:Int} {p2:ByteArray} {p3:ByteArray} {r:(List Int)}  (h:fV p0 p1 p2 p3=some r):PF 55 [pL Zb.enc p0,pI p1,pS p2,pS p3] (pL eI r):=by
 unfold fV at h
 refine bk ?_
 refine ed Tryz.func55 rfl Tryz.ntmps55 Tryz.results55 rfl (aU [8] (by kernel_rfl) (cU h fun x1 hx1 h=>aa (aS 6 [] [15,16,17,14] [(18,.agg (al x1.1)),(19,pB x1.2)] (bG 2 (gx hx1) bx) (by kernel_rfl) (ai rfl (aM (cs:=[pI 0,pI 0,pN,pN]) rfl rfl rfl rfl (fun b2=>aN rfl rfl (aj (vs:=(al x1.1)) rfl rfl rfl rfl rfl bV wK (aG [(10,pB x1.2)] (by kernel_rfl) (cY (af [20] [(21,pB (!x1.2))] (by kernel_rfl) (bT rfl h (fun hc3 h=>?_) fun hc3 h=>?_)))))))))))
 ·refine ag ?_
  refine an [(8,pN)] (by kernel_rfl) (aT (nx 8 rfl (bU (aA ?_))))
  exact zz r h rfl
 refine ah ?_
 refine bO (aa (av 1 [(22,pI p1)] (by kernel_rfl) (ai rfl (bB rfl rfl rfl rfl rfl (eZ rfl hY) rfl rfl rfl rfl (fun b4=>aG [(11,pO (some ⟨b4,0,none⟩) 1 1)] (by kernel_rfl) (cY (an [(12,pI 0)] (by kernel_rfl) (gn h fun q16 hq16 h=>?_))))))))
 refine ar (Y:=(Option Addr×Nat)×((List Int))) (fun ((a12,c13),l14)=>[(11,pO a12 l14.length c13)]) (fun ((a12,c13),l14)=>[PRes.row a12 l14.length c13 3 1 (List.map eI l14)]) (fun ((a12,c13),l14)=>q16=l14) ?_ ?_
 ·refine aC ?_
  refine aJ (Y:=Option Addr×Nat) (S:=(List Int)×Int) _ hq16 (fun (a8,c9) (l7,v10)=>[(0,pL Zb.enc p0),(1,pI p1),(2,pS p2),(3,pS p3),(9,pP b2 0),(11,pO a8 l7.length c9),(12,pI v10)]) (fun (a8,c9) (l7,v10)=>[PRes.b b2 81 (al x1.1),PRes.row a8 l7.length c9 3 1 (List.map eI l7)]) ((some ⟨b4,0,none⟩),1) (n7 rfl) (aZ (ap aI) cI) ?_
  rintro ⟨a8,c9⟩ ⟨l7,v10⟩ o τ hb15;(try dsimp only at hb15);dsimp only [az]
  refine dU (bj [0] (rg 24 8) [(32,pB ((decide (v10<(p0.length:Int)))&&(x1.1.Kind == 2)))] (by kernel_rfl) (bT rfl hb15 (fun hc17 hb15=>?_) fun hc17 hb15=>?_))
  ·refine ah ?_
   refine cU hb15 fun q22 hq22 hb15=>?_
   refine ar (Y:=(Option Addr×Nat)×((List Int))) (fun ((a19,c20),l21)=>[(0,pL Zb.enc p0),(1,pI p1),(2,pS p2),(3,pS p3),(9,pP b2 0),(11,pO a19 l21.length c20),(12,pI v10)]) (fun ((a19,c20),l21)=>[PRes.b b2 81 (al x1.1),PRes.row a19 l21.length c20 3 1 (List.map eI l21)]) (fun ((a19,c20),l21)=>q22=l21) ?_ ?_
   ·skip
    refine gG (ae hq22 fun m23 hm23 hq22=>aa (aS 4 [] [35,36,37] [(38,.agg (al m23))] (db 2 Zb.enc hm23 bx) (by kernel_rfl) (ai rfl (aM (cs:=[pI 0,pI 0,pN,pN]) rfl rfl rfl rfl (fun b24=>aN rfl rfl (aj (vs:=(al m23)) rfl rfl rfl rfl rfl bV wK (aB (cU hq22 fun x25 hx25 hq22=>ae hq22 fun x26 hx26 hq22=>ae hq22 fun x27 hx27 hq22=>aw [0,0,0,1,0] (rg 39 22) [(61,pB ((((m23.ID != p1)&&x25)&&x26)&&x27))] (ey 8 (fun hc=>gT (dB hx25 hc)) (ey 14 (fun hc=>gT (dB hx26 hc)) (ey 21 (fun hc=>mZ (dB hx27 hc)) bx))) (by kernel_rfl) (bT rfl hq22 (fun hc28 hq22=>?_) fun hc28 hq22=>?_)))))))))
    ·refine aa ?_
     refine cw 3 [0] [63] [(62,pO a8 l7.length c9),(64,pI m23.ID)] (by kernel_rfl) (ai rfl (bB rfl rfl rfl rfl rfl (eZ rfl hY) rfl rfl rfl rfl (fun b29=>ae hq22 fun l31 hl31 hq22=>?_)))
     refine ai rfl (bN (enc:=eI) rfl rfl rfl rfl rfl rfl rfl rfl rfl eP (by exact ap (ap (ap aI))) hl31 (fun a32 c33=>?_))
     refine aG [(11,pO a32 l31.length c33)] (by kernel_rfl) (aD ?_)
     obtain rfl:=osi hq22
     exact au ((a32,c33),l31) (n7 rfl) (aZ (ap (ap (ap aI))) cI) rfl
    refine ah ?_
    refine aD ?_
    obtain rfl:=osi hq22
    exact au ((a8,c9),l7) (n7 rfl) (aZ (ap aI) (aZ (ap aI) bL)) rfl
   rintro ⟨⟨a19,c20⟩,l21⟩ τ hz;(try dsimp only at hz);subst q22;(try dsimp only at hb15);dsimp only [az]
   refine af [33,34] [(12,pI (IntKind.i64.wrap (v10+1)))] (by kernel_rfl) ?_
   exact aY hb15 (a19,c20) (n7 rfl) oA
  refine aP ?_
  refine aq (ak hb15 (fun ht=>am rfl ?_))
  exact au ((a8,c9),l7) (tN rfl) (aZ (ap aI) bL) ht.symm
 rintro ⟨⟨a12,c13⟩,l14⟩ τ hz;(try dsimp only at hz);subst q16;(try dsimp only at h);dsimp only [az]
 refine ag (af [67] [(8,pO a12 l14.length c13)] (by kernel_rfl) (aT ?_))
 refine eY (enc:=eI) (xs:=l14) 8 rfl (by exact aI) ?_
 refine bU ?_
 exact zz r h rfl
def iu (p0:(List ByteArray)) (p1:ByteArray):Option (List ByteArray):=(bf (S:=Int) (T:=(ByteArray×Int)) (fun v1=>(gd (decide (v1<(p0.length:Int))) (idx p0 v1)).bind fun m6=>cond ((decide (v1<(p0.length:Int)))&&(Op.bytesLess m6.toList p1.toList)) (some (.inl (IntKind.i64.wrap (v1+1)))) (some (.inr (p1,v1)))) FUEL 0).bind fun (v2,v3)=>(gd (decide (v3<(p0.length:Int))) (idx p0 v3)).bind fun m8=>cond ((decide (v3<(p0.length:Int)))&&(decide (m8=v2))) (some p0) ((sub p0 0 v3).bind fun l10=>(sub p0 v3 (p0.length:Int)).bind fun l11=>(app 16 ([]:List ByteArray) l10).bind fun l14=>(app 16 l14 [v2]).bind fun l20=>(app 16 l20 l11).bind fun l24=>some l24)
theorem mJ {p0:(List ByteArray)} {p1:ByteArray} {r:(List ByteArray)}  (h:iu p0 p1=some r):PF 105 [pL eS p0,pS p1] (pL eS r):=by
 unfold iu at h
 refine bk ?_
 refine ed Tryz.func105 rfl Tryz.ntmps105 Tryz.results105 rfl (aU [4] (by kernel_rfl) (bO (an [(5,pI 0)] (by kernel_rfl) (cU h fun q5 hq5 h=>?_))))
 refine ar (Y:=Unit×(ByteArray×Int)) (fun (_,(v2,v3))=>[(0,pL eS p0),(1,pS v2),(5,pI v3)]) (fun (_,(v2,v3))=>[]) (fun (_,(v2,v3))=>q5=(v2,v3)) ?_ ?_
 ·refine aC ?_
  refine aJ (Y:=Unit) (S:=Int) _ hq5 (fun _ v1=>[(0,pL eS p0),(1,pS p1),(5,pI v1)]) (fun _ v1=>[]) () (lF rfl) bL ?_
  rintro _ v1 o τ hb4;(try dsimp only at hb4);dsimp only [az]
  refine dU (ae hb4 fun m6 hm6 hb4=>aw [] (rg 6 11) [(17,pB ((decide (v1<(p0.length:Int)))&&(Op.bytesLess m6.toList p1.toList)))] (ia 7 eS (dB hm6) bx) (by kernel_rfl) (bT rfl hb4 (fun hc7 hb4=>?_) fun hc7 hb4=>?_))
  ·refine ah ?_
   refine aT (aC (af [18,19] [(5,pI (IntKind.i64.wrap (v1+1)))] (by kernel_rfl) (aD ?_)))
   exact aY hb4 () (lF rfl) bL
  refine aP ?_
  refine aq (ak hb4 (fun ht=>am rfl ?_))
  exact au ((),(p1,v1)) (lF rfl) bL ht.symm
 rintro ⟨_,⟨v2,v3⟩⟩ τ hz;(try dsimp only at hz);subst q5;(try dsimp only at h);dsimp only [az]
 refine dU (ae h fun m8 hm8 h=>aw [] (rg 20 11) [(31,pB ((decide (v3<(p0.length:Int)))&&(decide (m8=v2))))] (ia 7 eS (dB hm8) bx) (by kernel_rfl) (bT rfl h (fun hc9 h=>?_) fun hc9 h=>?_))
 ·refine ag ?_
  refine af [32] [(4,pL eS p0)] (by kernel_rfl) (em (aA ?_))
  exact zz r h rfl
 refine ah ?_
 refine bO (bJ (ρd:=[]) [(1,0),(2,0),(3,0),(5,0),(6,3),(8,0),(9,0),(10,0),(0,1),(4,1),(6,2),(7,1),(11,1),(12,0)] _ (List.Perm.refl _) (by kernel_rfl) rfl (ae h fun l10 hl10 h=>bR 4 [] [34,35] [(36,pL eS l10),(38,pS v2)] (uz 2 eS 1 (fun _=>rfl) hl10 bx) (by kernel_rfl) (uq (mw rfl rfl rfl rfl rfl (eZ rfl hY) rfl rfl rfl) (ae h fun l11 hl11 h=>bR 3 [] [41,42] [(43,pL eS l11)] (uz 2 eS 1 (fun _=>rfl) hl11 bx) (by kernel_rfl) (gb rfl rfl rfl (bB rfl rfl rfl rfl rfl hY rfl rfl rfl rfl (fun b12=>ae h fun l14 hl14 h=>?_)))))))
 refine gb rfl rfl rfl (jB (enc:=eS) rfl rfl rfl rfl rfl (fun _=>rfl) rfl rfl rfl (by exact aI) hl14 (fun a15 c16=>?_))
 refine qg (mw rfl rfl rfl rfl rfl (eZ rfl hY) rfl rfl rfl) (fun _=>rfl) rfl (fun b18=>ae h fun l20 hl20 h=>?_)
 refine gb rfl rfl rfl (uo (enc:=eS) rfl rfl rfl rfl rfl (fun _=>rfl) rfl rfl rfl rfl eP rfl (by exact ap aI) hl20 (fun a21 c22=>?_))
 refine ae h fun l24 hl24 h=>?_
 refine gb rfl rfl rfl (jB (enc:=eS) rfl rfl rfl rfl rfl (fun _=>rfl) rfl rfl rfl (by exact aI) hl24 (fun a25 c26=>?_))
 refine fG 1 [(4,pO a25 l24.length c26)] (by kernel_rfl) (bW (aT ?_))
 refine eY (enc:=eS) (xs:=l24) 4 rfl (by exact aI) ?_
 refine bU ?_
 exact zz r h rfl
def gC (p0:(List ByteArray)) (p1:(List ByteArray)):Option (List ByteArray):=(bf (S:=(List ByteArray)×Int) (T:=((List ByteArray)×(List ByteArray))) (fun (l1,v2)=>cond (decide (v2<(p0.length:Int))) ((idx p0 v2).bind fun m8=>(iu l1 m8).bind fun x9=>some (.inl (x9,(IntKind.i64.wrap (v2+1))))) (some (.inr (p1,l1)))) FUEL ([],0)).bind fun (l3,l4)=>(bf (S:=(List ByteArray)×Int) (T:=((List ByteArray))) (fun (l10,v11)=>cond (decide (v11<(l3.length:Int))) ((idx l3 v11).bind fun m16=>(iu l10 m16).bind fun x17=>some (.inl (x17,(IntKind.i64.wrap (v11+1))))) (some (.inr l10))) FUEL (l4,0)).bind fun l12=>some l12
theorem qE {p0:(List ByteArray)} {p1:(List ByteArray)} {r:(List ByteArray)}  (h:gC p0 p1=some r):PF 57 [pL eS p0,pL eS p1] (pL eS r):=by
 unfold gC at h
 refine bk ?_
 refine ed Tryz.func57 rfl Tryz.ntmps57 Tryz.results57 rfl (aU [4] (by kernel_rfl) (bO (an [(5,pN)] (by kernel_rfl) (cY (an [(6,pI 0)] (by kernel_rfl) (aT (nx 5 rfl (ae h fun q6 hq6 h=>?_))))))))
 refine ar (Y:=Unit×((List ByteArray)×(List ByteArray))) (fun (_,(l3,l4))=>[(1,pL eS l3),(5,pL eS l4)]) (fun (_,(l3,l4))=>[]) (fun (_,(l3,l4))=>q6=(l3,l4)) ?_ ?_
 ·refine aC ?_
  refine aJ (Y:=Unit) (S:=(List ByteArray)×Int) _ hq6 (fun _ (l1,v2)=>[(0,pL eS p0),(1,pL eS p1),(5,pL eS l1),(6,pI v2)]) (fun _ (l1,v2)=>[]) () (jW rfl) bL ?_
  rintro _ ⟨l1,v2⟩ o τ hb5;(try dsimp only at hb5);dsimp only [az]
  refine dU (af [8,9,10] [(11,pB (decide (v2<(p0.length:Int))))] (by kernel_rfl) (bT rfl hb5 (fun hc7 hb5=>?_) fun hc7 hb5=>?_))
  ·refine ah ?_
   refine bO (aC (ae hb5 fun m8 hm8 hb5=>ae hb5 fun x9 hx9 hb5=>aw [] (rg 14 6) [(5,pL eS x9)] (db 3 eS hm8 (bG 5 (mJ hx9) bx)) (by kernel_rfl) (fw (af [12,13] [(6,pI (IntKind.i64.wrap (v2+1)))] (by kernel_rfl) ?_))))
   exact aY hb5 () (jW rfl) bL
  refine aP ?_
  refine aq (ak hb5 (fun ht=>am rfl ?_))
  exact au ((),(p1,l1)) (nS rfl) bL ht.symm
 rintro ⟨_,⟨l3,l4⟩⟩ τ hz;(try dsimp only at hz);subst q6;(try dsimp only at h);dsimp only [az]
 refine dU (an [(7,pI 0)] (by kernel_rfl) (gn h fun q14 hq14 h=>?_))
 refine ar (Y:=Unit×((List ByteArray))) (fun (_,l12)=>[(5,pL eS l12)]) (fun (_,l12)=>[]) (fun (_,l12)=>q14=l12) ?_ ?_
 ·refine aC ?_
  refine aJ (Y:=Unit) (S:=(List ByteArray)×Int) _ hq14 (fun _ (l10,v11)=>[(1,pL eS l3),(5,pL eS l10),(7,pI v11)]) (fun _ (l10,v11)=>[]) () (lF rfl) bL ?_
  rintro _ ⟨l10,v11⟩ o τ hb13;(try dsimp only at hb13);dsimp only [az]
  refine dU (af [20,21,22] [(23,pB (decide (v11<(l3.length:Int))))] (by kernel_rfl) (bT rfl hb13 (fun hc15 hb13=>?_) fun hc15 hb13=>?_))
  ·refine ah ?_
   refine bO (aC (ae hb13 fun m16 hm16 hb13=>ae hb13 fun x17 hx17 hb13=>aw [] (rg 26 6) [(5,pL eS x17)] (db 3 eS hm16 (bG 5 (mJ hx17) bx)) (by kernel_rfl) (fw (af [24,25] [(7,pI (IntKind.i64.wrap (v11+1)))] (by kernel_rfl) ?_))))
   exact aY hb13 () (lF rfl) bL
  refine aP ?_
  refine aq (ak hb13 (fun ht=>am rfl ?_))
  exact au ((),l10) (tN rfl) bL ht.symm
 rintro ⟨_,l12⟩ τ hz;(try dsimp only at hz);subst q14;(try dsimp only at h);dsimp only [az]
 refine ag (af [32] [(4,pL eS l12)] (by kernel_rfl) (em ?_))
 exact zz r h rfl
def fg (p0:(List Za)) (p1:Za):Option Bool:=(bf (S:=Int) (T:=(Unit)⊕(_)) (fun v2=>cond (decide (v2<(p0.length:Int))) ((idx p0 v2).bind fun m6=>cond (Za.eqb m6 p1) (some (.inr (.inr true))) (some (.inl (IntKind.i64.wrap (v2+1))))) (some (.inr (.inl ())))) FUEL 0).bind fun q=>match q with | .inl _=>some false | .inr e=>some e
theorem j8 {p0:(List Za)} {p1:Za} {r:Bool}  (h:fg p0 p1=some r):PF 68 [pL Za.enc p0,.agg [pI p1.Product,pI p1.Agreement]] (pB r):=by
 unfold fg at h
 refine bk ?_
 refine ed Tryz.func68 rfl Tryz.ntmps68 Tryz.results68 rfl (aa (ai rfl (bM (cs:=[pI p1.Product,pI p1.Agreement]) rfl rfl (fun b1=>bm [4] (by kernel_rfl) (cY (an [(5,pI 0)] (by kernel_rfl) (gn h fun q4 hq4 h=>?_)))))))
 refine ar (Y:=Unit×Unit) (fun (_,_)=>[]) (fun (_,_)=>[]) (fun (_,_)=>q4=Sum.inl ()) ?_ ?_
 ·refine aC ?_
  refine aJ (Y:=Unit) (S:=Int) _ hq4 (fun _ v2=>[(0,pL Za.enc p0),(3,pP b1 0),(5,pI v2)]) (fun _ v2=>[PRes.b b1 28 [pI p1.Product,pI p1.Agreement]]) () (lF rfl) cI ?_
  rintro _ v2 o τ hb3;(try dsimp only at hb3);dsimp only [az]
  refine dU (af [6,7,8] [(9,pB (decide (v2<(p0.length:Int))))] (by kernel_rfl) (bT rfl hb3 (fun hc5 hb3=>?_) fun hc5 hb3=>?_))
  ·refine ah ?_
   refine bO (gG (bJ (ρd:=[]) [(0,0),(1,0),(2,0),(3,0),(4,0),(5,0)] _ (List.Perm.refl _) (by kernel_rfl) rfl (ae hb3 fun m6 hm6 hb3=>bR 6 [0] (rg 12 5) [(17,pB (Za.eqb m6 p1))] (db 2 Za.enc hm6 (xM 5 Za.eqok28 bx)) (by kernel_rfl) (bW (bT rfl hb3 (fun hc7 hb3=>?_) fun hc7 hb3=>?_)))))
   ·refine ag ?_
    refine fm [(4,pB true)] (by kernel_rfl) (iX ?_)
    refine aW hb3 (fun ht=>?_);subst ht
    refine aL (aV ?_)
    exact zz r h rfl
   refine ah ?_
   refine fw (af [10,11] [(5,pI (IntKind.i64.wrap (v2+1)))] (by kernel_rfl) ?_)
   exact aY hb3 () (lF rfl) cI
  refine aP ?_
  refine aq (ak hb3 (fun ht=>am rfl ?_))
  exact au ((),()) mN bL ht.symm
 rintro ⟨_,_⟩ τ hz;(try dsimp only at hz);subst q4;(try dsimp only at h);dsimp only [az]
 refine ag (fm [(4,pB false)] (by kernel_rfl) ?_)
 exact zz r h rfl
def fN (p0:(List Int)) (p1:Int) (p2:(List Za)):Option (Za×Bool):=(bf (S:=Int) (T:=(Unit)⊕(_)) (fun v2=>cond (decide (v2<(p0.length:Int))) ((idx p0 v2).bind fun m6=>(fg p2 (⟨p1,m6⟩:Za)).bind fun x8=>cond x8 (some (.inr (.inr ((⟨p1,m6⟩:Za),true)))) (some (.inl (IntKind.i64.wrap (v2+1))))) (some (.inr (.inl ())))) FUEL 0).bind fun q=>match q with | .inl _=>some ((⟨0,0⟩:Za),false) | .inr e=>some e
theorem kI {p0:(List Int)} {p1:Int} {p2:(List Za)} {r:(Za×Bool)}  (h:fN p0 p1 p2=some r):PF 58 [pL eI p0,pI p1,pL Za.enc p2] (.tup [.agg [pI r.1.Product,pI r.1.Agreement],pB r.2]):=by
 unfold fN at h
 refine bk ?_
 refine ed Tryz.func58 rfl Tryz.ntmps58 Tryz.results58 rfl (aa (ai rfl (aM (cs:=[pI 0,pI 0]) rfl rfl rfl rfl (fun b1=>bm [7] (by kernel_rfl) (cY (an [(8,pI 0)] (by kernel_rfl) (gn h fun q4 hq4 h=>?_)))))))
 refine ar (Y:=Unit×Unit) (fun (_,_)=>[(6,pP b1 0)]) (fun (_,_)=>[PRes.b b1 28 [pI 0,pI 0]]) (fun (_,_)=>q4=Sum.inl ()) ?_ ?_
 ·refine aC ?_
  refine aJ (Y:=Unit) (S:=Int) _ hq4 (fun _ v2=>[(0,pL eI p0),(1,pI p1),(2,pL Za.enc p2),(6,pP b1 0),(8,pI v2)]) (fun _ v2=>[PRes.b b1 28 [pI 0,pI 0]]) () (mz rfl) cI ?_
  rintro _ v2 o τ hb3;(try dsimp only at hb3);dsimp only [az]
  refine dU (af [10,11,12] [(13,pB (decide (v2<(p0.length:Int))))] (by kernel_rfl) (bT rfl hb3 (fun hc5 hb3=>?_) fun hc5 hb3=>?_))
  ·refine ah ?_
   refine bO (gG (ae hb3 fun m6 hm6 hb3=>aa (aS 6 [] (rg 16 5) [(21,.agg [pI p1,pI m6])] (db 3 eI hm6 bx) (by kernel_rfl) (ai rfl (aM (cs:=[pI 0,pI 0]) rfl rfl rfl rfl (fun b7=>aN rfl rfl (aj (vs:=[pI p1,pI m6]) rfl rfl rfl rfl rfl bV oT (aB (cU hb3 fun x8 hx8 hb3=>aw [0] [22,23] [(24,pB x8)] (bG 2 (j8 hx8) bx) (by kernel_rfl) (bT rfl hb3 (fun hc9 hb3=>?_) fun hc9 hb3=>?_))))))))))
   ·refine ag ?_
    refine aa (e9 1 [0] [(25,.agg [pI p1,pI m6])] (by kernel_rfl) (aN rfl rfl (aj (vs:=[pI p1,pI m6]) rfl rfl rfl rfl rfl (cG bV) oT (aG [(7,pB true)] (by kernel_rfl) (em (iX ?_))))))
    refine aW hb3 (fun ht=>?_);subst ht
    refine aL (aV ?_)
    obtain rfl:=osi h
    exact aQ (dp (cE rfl rV rfl) (aX rfl)) bL ⟨rfl,rfl⟩
   refine ah ?_
   refine fw (af [14,15] [(8,pI (IntKind.i64.wrap (v2+1)))] (by kernel_rfl) ?_)
   exact aY hb3 () (mz rfl) (aZ (ap aI) bL)
  refine aP ?_
  refine aq (ak hb3 (fun ht=>am rfl ?_))
  exact au ((),()) (tN rfl) cI ht.symm
 rintro ⟨_,_⟩ τ hz;(try dsimp only at hz);subst q4;(try dsimp only at h);dsimp only [az]
 refine ag (aa (av 1 [(26,.agg [pI 0,pI 0])] (by kernel_rfl) (aN rfl rfl (aj (vs:=[pI 0,pI 0]) rfl rfl rfl rfl rfl bV oT (aG [(7,pB false)] (by kernel_rfl) (em ?_))))))
 obtain rfl:=osi h
 exact aQ (dp (cE rfl eP rfl) (aX rfl)) bL ⟨rfl,rfl⟩
def iv (p0:Za) (p1:Za):Option Bool:=some ((decide (p0.Product<p1.Product))||((p0.Product == p1.Product)&&(decide (p0.Agreement<p1.Agreement))))
theorem rB {p0:Za} {p1:Za} {r:Bool}  (h:iv p0 p1=some r):PF 106 [.agg [pI p0.Product,pI p0.Agreement],.agg [pI p1.Product,pI p1.Agreement]] (pB r):=by
 unfold iv at h
 refine bk ?_
 refine ed Tryz.func106 rfl Tryz.ntmps106 Tryz.results106 rfl (aa (ai rfl (bM (cs:=[pI p0.Product,pI p0.Agreement]) rfl rfl (fun b1=>ai rfl (bM (cs:=[pI p1.Product,pI p1.Agreement]) rfl rfl (fun b2=>bm [4] (by kernel_rfl) (bO (bj [1,0,1,0,1,0] (rg 5 19) [(4,pB ((decide (p0.Product<p1.Product))||((p0.Product == p1.Product)&&(decide (p0.Agreement<p1.Agreement)))))] (by kernel_rfl) (em ?_)))))))))
 exact zz r h rfl
def fW (p0:(List Za)) (p1:Za):Option (List Za):=(fg p0 p1).bind fun x2=>cond x2 (some p0) ((bf (S:=Int) (T:=(Int)) (fun v4=>(gd (decide (v4<(p0.length:Int))) (idx p0 v4)).bind fun m8=>(gd (decide (v4<(p0.length:Int))) (iv m8 p1)).bind fun x9=>cond ((decide (v4<(p0.length:Int)))&&x9) (some (.inl (IntKind.i64.wrap (v4+1)))) (some (.inr v4))) FUEL 0).bind fun v5=>(sub p0 0 v5).bind fun l11=>(sub p0 v5 (p0.length:Int)).bind fun l12=>(app 16 ([]:List Za) l11).bind fun l15=>(app 16 l15 [p1]).bind fun l21=>(app 16 l21 l12).bind fun l25=>some l25)
theorem mK {p0:(List Za)} {p1:Za} {r:(List Za)}  (h:fW p0 p1=some r):PF 59 [pL Za.enc p0,.agg [pI p1.Product,pI p1.Agreement]] (pL Za.enc r):=by
 unfold fW at h
 refine bk ?_
 refine ed Tryz.func59 rfl Tryz.ntmps59 Tryz.results59 rfl (aa (ai rfl (bM (cs:=[pI p1.Product,pI p1.Agreement]) rfl rfl (fun b1=>bm [4] (by kernel_rfl) (cY (ae h fun x2 hx2 h=>aw [0] [6,7] [(8,pB x2)] (bG 2 (j8 hx2) bx) (by kernel_rfl) (bT rfl h (fun hc3 h=>?_) fun hc3 h=>?_)))))))
 ·refine ag ?_
  refine af [9] [(4,pL Za.enc p0)] (by kernel_rfl) (em (aA ?_))
  exact zz r h rfl
 refine ah ?_
 refine bO (an [(5,pI 0)] (by kernel_rfl) (cU h fun q7 hq7 h=>?_))
 refine ar (Y:=Unit×Int) (fun (_,v5)=>[(0,pL Za.enc p0),(3,pP b1 0),(5,pI v5)]) (fun (_,v5)=>[PRes.b b1 28 [pI p1.Product,pI p1.Agreement]]) (fun (_,v5)=>q7=v5) ?_ ?_
 ·refine aC ?_
  refine aJ (Y:=Unit) (S:=Int) _ hq7 (fun _ v4=>[(0,pL Za.enc p0),(3,pP b1 0),(5,pI v4)]) (fun _ v4=>[PRes.b b1 28 [pI p1.Product,pI p1.Agreement]]) () (lF rfl) cI ?_
  rintro _ v4 o τ hb6;(try dsimp only at hb6);dsimp only [az]
  refine dU (bJ (ρd:=[]) [(0,0),(1,0),(2,0),(3,0),(4,0),(5,0),(6,0),(7,0),(8,0),(9,0),(10,1),(11,0)] _ (List.Perm.refl _) (by kernel_rfl) rfl (ae hb6 fun m8 hm8 hb6=>ae hb6 fun x9 hx9 hb6=>bR 12 [0] (rg 10 11) [(21,pB ((decide (v4<(p0.length:Int)))&&x9))] (ia 7 Za.enc (dB hm8) (ey 10 (fun hc=>rB (dB hx9 hc)) bx)) (by kernel_rfl) (bW (bT rfl hb6 (fun hc10 hb6=>?_) fun hc10 hb6=>?_))))
  ·refine ah ?_
   refine aT (aC (af [22,23] [(5,pI (IntKind.i64.wrap (v4+1)))] (by kernel_rfl) (aD ?_)))
   exact aY hb6 () (lF rfl) cI
  refine aP ?_
  refine aq (ak hb6 (fun ht=>am rfl ?_))
  exact au ((),v4) (lF rfl) cI ht.symm
 rintro ⟨_,v5⟩ τ hz;(try dsimp only at hz);subst q7;(try dsimp only at h);dsimp only [az]
 refine ag (bJ (ρd:=[]) [(1,0),(2,0),(3,0),(5,0),(6,3),(8,0),(9,0),(10,0),(0,1),(4,1),(6,2),(7,1),(11,1),(12,0)] _ (List.Perm.refl _) (by kernel_rfl) rfl (ae h fun l11 hl11 h=>bR 4 [0] [25,26] [(27,pL Za.enc l11),(29,.agg [pI p1.Product,pI p1.Agreement])] (uz 2 Za.enc 2 (fun _=>rfl) hl11 bx) (by kernel_rfl) (uq (mw rfl rfl rfl rfl rfl (eZ rfl hY) rfl rfl rfl) (ae h fun l12 hl12 h=>bR 3 [] [32,33] [(34,pL Za.enc l12)] (uz 2 Za.enc 2 (fun _=>rfl) hl12 bx) (by kernel_rfl) (gb rfl rfl rfl (bB rfl rfl rfl rfl rfl hY rfl rfl rfl rfl (fun b13=>ae h fun l15 hl15 h=>?_)))))))
 refine gb rfl rfl rfl (jB (enc:=Za.enc) rfl rfl rfl rfl rfl (fun _=>rfl) rfl rfl rfl (by exact aI) hl15 (fun a16 c17=>?_))
 refine qg (mw rfl rfl rfl rfl rfl (eZ rfl hY) rfl rfl rfl) (fun _=>rfl) rfl (fun b19=>ae h fun l21 hl21 h=>?_)
 refine gb rfl rfl rfl (uo (enc:=Za.enc) rfl rfl rfl rfl rfl (fun _=>rfl) rfl rfl rfl rfl eP rfl (by exact ap aI) hl21 (fun a22 c23=>?_))
 refine ae h fun l25 hl25 h=>?_
 refine gb rfl rfl rfl (jB (enc:=Za.enc) rfl rfl rfl rfl rfl (fun _=>rfl) rfl rfl rfl (by exact aI) hl25 (fun a26 c27=>?_))
 refine fG 1 [(4,pO a26 l25.length c27)] (by kernel_rfl) (bW (aT ?_))
 refine eY (enc:=Za.enc) (xs:=l25) 4 rfl (by exact aI) ?_
 refine bU ?_
 exact zz r h rfl
def fh (p0:Zj) (p1:Zj):Option (Zj×Bool):=Option.bind (cond (decide ((IntKind.u64.wrap (p0.Lo+p1.Lo))<p0.Lo)) (lb ((IntKind.u64.wrap ((IntKind.u64.wrap (p0.Hi+p1.Hi))+1))) (fun w8=>some (w8,((decide ((IntKind.u64.wrap (p0.Hi+p1.Hi))<p0.Hi))||(w8 == 0))))) (some ((IntKind.u64.wrap (p0.Hi+p1.Hi)),(decide ((IntKind.u64.wrap (p0.Hi+p1.Hi))<p0.Hi))))) (fun (v4,v5)=>some ((⟨v4,(IntKind.u64.wrap (p0.Lo+p1.Lo))⟩:Zj),v5))
theorem jk {p0:Zj} {p1:Zj} {r:(Zj×Bool)}  (h:fh p0 p1=some r):PF 155 [.agg [pU p0.Hi,pU p0.Lo],.agg [pU p1.Hi,pU p1.Lo]] (.tup [.agg [pU r.1.Hi,pU r.1.Lo],pB r.2]):=by
 unfold fh at h
 refine bk ?_
 refine ed Tryz.func155 rfl Tryz.ntmps155 Tryz.results155 rfl (aa (ai rfl (bM (cs:=[pU p0.Hi,pU p0.Lo]) rfl rfl (fun b1=>ai rfl (bM (cs:=[pU p1.Hi,pU p1.Lo]) rfl rfl (fun b2=>ai rfl (aM (cs:=[pU 0,pU 0]) rfl rfl rfl rfl (fun b3=>bm [5] (by kernel_rfl) (bO (bJ (ρd:=[]) [(0,0),(1,0),(2,0),(3,0),(4,0),(5,0),(6,0),(7,0),(8,0),(9,0),(10,0),(11,0)] _ (List.Perm.refl _) (by kernel_rfl) rfl (uM 12 [2,1,2,1] (rg 9 10) [(6,pU (IntKind.u64.wrap (p0.Lo+p1.Lo))),(7,pU (IntKind.u64.wrap (p0.Hi+p1.Hi)))] (by kernel_rfl) (bW (bO (bj [2] [19,20,21,22] [(8,pB (decide ((IntKind.u64.wrap (p0.Hi+p1.Hi))<p0.Hi)))] (by kernel_rfl) (cY (bj [2] [23,24,25] [(26,pB (decide ((IntKind.u64.wrap (p0.Lo+p1.Lo))<p0.Lo)))] (by kernel_rfl) (gn h fun q6 hq6 h=>?_)))))))))))))))))
 refine ar (Y:=Unit×(Int×Bool)) (fun (_,(v4,v5))=>[(4,pP b3 0),(6,pU (IntKind.u64.wrap (p0.Lo+p1.Lo))),(7,pU v4),(8,pB v5)]) (fun (_,(v4,v5))=>[PRes.b b3 167 [pU 0,pU 0]]) (fun (_,(v4,v5))=>q6=(v4,v5)) ?_ ?_
 ·skip
  refine kq rfl hq6 (fun hc7 hq6=>?_) fun hc7 hq6=>?_
  ·refine ag ?_
   refine cZ hq6 ?_;clear hq6;intro w8 hw8 hq6
   refine aa (bS 2 [27] [(28,pU (IntKind.u64.wrap ((IntKind.u64.wrap (p0.Hi+p1.Hi))+1)))] (by kernel_rfl) (bK rfl rfl rfl (bv rfl (.p (congrArg (fun z=>PV.v (Value.int .u64 z)) hw8))) (aB (aT (af (rg 29 5) [(8,pB ((decide ((IntKind.u64.wrap (p0.Hi+p1.Hi))<p0.Hi))||(w8 == 0)))] (by kernel_rfl) ?_)))))
   obtain rfl:=osi hq6
   exact au ((),(w8,((decide ((IntKind.u64.wrap (p0.Hi+p1.Hi))<p0.Hi))||(w8 == 0)))) (jW rfl) cI rfl
  refine ah ?_
  obtain rfl:=osi hq6
  exact au ((),((IntKind.u64.wrap (p0.Hi+p1.Hi)),(decide ((IntKind.u64.wrap (p0.Hi+p1.Hi))<p0.Hi)))) (jW rfl) cI rfl
 rintro ⟨_,⟨v4,v5⟩⟩ τ hz;(try dsimp only at hz);subst q6;(try dsimp only at h);dsimp only [az]
 refine ag (aa (bS 4 [34,35] [(36,.agg [pU v4,pU (IntKind.u64.wrap (p0.Lo+p1.Lo))]),(37,pB v5)] (by kernel_rfl) (aN rfl rfl (aj (vs:=[pU v4,pU (IntKind.u64.wrap (p0.Lo+p1.Lo))]) rfl rfl rfl rfl rfl bV oT (aG [(5,pB v5)] (by kernel_rfl) (em ?_))))))
 obtain rfl:=osi h
 exact aQ (dp (cE rfl eP rfl) (aX rfl)) bL ⟨rfl,rfl⟩
def gV (p0:Zj) (p1:Int):Option (Zj×Int):=(bf (S:=Int×Int×Int×Int) (T:=(Int×Int×Int)) (fun (v4,v5,v6,v7)=>cond (decide (0≤v5)) (((i5 (co .i64 v5 63)).bind fun u18=>lb ((co .u64 (bQ .u64 p0.Lo (co .i64 v5 63)) 1)) (fun w19=>Option.bind (cond (decide (63<v5)) ((i5 (IntKind.i64.wrap (v5 - 64))).bind fun u23=>lb ((co .u64 (bQ .u64 p0.Hi (IntKind.i64.wrap (v5 - 64))) 1)) (fun w24=>some w24)) (some w19)) (fun v20=>(fh (⟨v6,v7⟩:Zj) (⟨v6,v7⟩:Zj)).bind fun x25=>cond (((bQ .u64 v4 63) == 1)||(decide (p1≤(kQ .u64 (dT .u64 v4 1) v20)))) (lb ((IntKind.u64.wrap ((kQ .u64 (dT .u64 v4 1) v20) - p1))) (fun w27=>some (w27,x25.1.Hi,(kQ .u64 x25.1.Lo 1)))) (some ((kQ .u64 (dT .u64 v4 1) v20),x25.1.Hi,x25.1.Lo))))).bind fun (v14,v15,v16)=>some (.inl (v14,(IntKind.i64.wrap (v5 - 1)),v15,v16))) (some (.inr (v4,v6,v7)))) FUEL (0,127,0,0)).bind fun (v8,v9,v10)=>some ((⟨v9,v10⟩:Zj),v8)
theorem o3 {p0:Zj} {p1:Int} {r:(Zj×Int)}  (h:gV p0 p1=some r):PF 154 [.agg [pU p0.Hi,pU p0.Lo],pU p1] (.tup [.agg [pU r.1.Hi,pU r.1.Lo],pU r.2]):=by
 unfold gV at h
 refine bk ?_
 refine ed Tryz.func154 rfl Tryz.ntmps154 Tryz.results154 rfl (aa (ai rfl (bM (cs:=[pU p0.Hi,pU p0.Lo]) rfl rfl (fun b1=>ai rfl (aM (cs:=[pU 0,pU 0]) rfl rfl rfl rfl (fun b2=>bm [5] (by kernel_rfl) (bO (aa (av 1 [(11,.agg [pU 0,pU 0])] (by kernel_rfl) (ai rfl (aM (cs:=[pU 0,pU 0]) rfl rfl rfl rfl (fun b3=>aN rfl rfl (aj (vs:=[pU 0,pU 0]) rfl rfl rfl rfl rfl bV oT (aG [(7,pU 0)] (by kernel_rfl) (cY (an [(8,pI 127)] (by kernel_rfl) (gn h fun q12 hq12 h=>?_)))))))))))))))))
 refine ar (Y:=Unit×(Int×Int×Int)) (fun (_,(v8,v9,v10))=>[(4,pP b2 0),(6,pP b3 0),(7,pU v8)]) (fun (_,(v8,v9,v10))=>[PRes.b b2 167 [pU 0,pU 0],PRes.b b3 167 [pU v9,pU v10]]) (fun (_,(v8,v9,v10))=>q12=(v8,v9,v10)) ?_ ?_
 ·refine aC ?_
  refine aJ (Y:=Unit) (S:=Int×Int×Int×Int) _ hq12 (fun _ (v4,v5,v6,v7)=>[(1,pU p1),(2,pP b1 0),(4,pP b2 0),(6,pP b3 0),(7,pU v4),(8,pI v5)]) (fun _ (v4,v5,v6,v7)=>[PRes.b b1 167 [pU p0.Hi,pU p0.Lo],PRes.b b2 167 [pU 0,pU 0],PRes.b b3 167 [pU v6,pU v7]]) () (rt rfl) (aZ (ap (ap aI)) (aZ (ap aI) cI)) ?_
  rintro _ ⟨v4,v5,v6,v7⟩ o τ hb11;(try dsimp only at hb11);dsimp only [az]
  refine dU (af [12] [(13,pB (decide (0≤v5)))] (by kernel_rfl) (bT rfl hb11 (fun hc13 hb11=>?_) fun hc13 hb11=>?_))
  ·refine ah ?_
   refine cU hb11 fun q17 hq17 hb11=>?_
   refine ar (Y:=Unit×(Int×Int×Int)) (fun (_,(v14,v15,v16))=>[(1,pU p1),(2,pP b1 0),(4,pP b2 0),(6,pP b3 0),(7,pU v14),(8,pI v5)]) (fun (_,(v14,v15,v16))=>[PRes.b b1 167 [pU p0.Hi,pU p0.Lo],PRes.b b2 167 [pU 0,pU 0],PRes.b b3 167 [pU v15,pU v16]]) (fun (_,(v14,v15,v16))=>q17=(v14,v15,v16)) ?_ ?_
   ·skip
    refine gG (ae hq17 fun u18 hu18 hq17=>?_)
    refine cZ hq17 ?_;clear hq17;intro w19 hw19 hq17
    refine aa (aS 6 [0] (rg 16 5) [(21,pU (co .u64 (bQ .u64 p0.Lo (co .i64 v5 63)) 1))] (oU 4 hu18 bx) (by kernel_rfl) (bK rfl rfl rfl (bv rfl (.p (congrArg (fun z=>PV.v (Value.int .u64 z)) hw19))) (aB (cY (af [22] [(23,pB (decide (63<v5)))] (by kernel_rfl) (gn hq17 fun q21 hq21 hq17=>?_))))))
    refine ar (Y:=Unit×Int) (fun (_,v20)=>[(1,pU p1),(2,pP b1 0),(4,pP b2 0),(6,pP b3 0),(7,pU v4),(8,pI v5),(9,pU v20)]) (fun (_,v20)=>[PRes.b b1 167 [pU p0.Hi,pU p0.Lo],PRes.b b2 167 [pU 0,pU 0],PRes.b b3 167 [pU v6,pU v7]]) (fun (_,v20)=>q21=v20) ?_ ?_
    ·skip
     refine kq rfl hq21 (fun hc22 hq21=>?_) fun hc22 hq21=>?_
     ·refine ae hq21 ?_;clear hq21;intro u23 hu23 hq21
      refine cZ hq21 ?_;clear hq21;intro w24 hw24 hq21
      refine aa (aS 6 [0] (rg 24 5) [(29,pU (co .u64 (bQ .u64 p0.Hi (IntKind.i64.wrap (v5 - 64))) 1))] (oU 4 hu23 bx) (by kernel_rfl) (bK rfl rfl rfl (bv rfl (.p (congrArg (fun z=>PV.v (Value.int .u64 z)) hw24))) (aB ?_)))
      obtain rfl:=osi hq21
      exact au ((),w24) (n7 rfl) zk rfl
     refine ah ?_
     obtain rfl:=osi hq21
     exact au ((),w19) (n7 rfl) zk rfl
    rintro ⟨_,v20⟩ τ hz;(try dsimp only at hz);subst q21;(try dsimp only at hq17);dsimp only [az]
    refine ag (af [30,31] [(10,pU (bQ .u64 v4 63))] (by kernel_rfl) (bO (af [32,33,34,35] [(7,pU (kQ .u64 (dT .u64 v4 1) v20))] (by kernel_rfl) (cU hq17 fun x25 hx25 hq17=>aa (aS 6 [2,2] [37,38,39,36,41] [(40,.agg [pU x25.1.Hi,pU x25.1.Lo])] (bG 2 (jk hx25) bx) (by kernel_rfl) (aN rfl rfl (aj (vs:=[pU x25.1.Hi,pU x25.1.Lo]) rfl rfl rfl rfl rfl (cG (cG bV)) oT (aB (bO (af (rg 42 6) [(48,pB (((bQ .u64 v4 63) == 1)||(decide (p1≤(kQ .u64 (dT .u64 v4 1) v20)))))] (by kernel_rfl) (bT rfl hq17 (fun hc26 hq17=>?_) fun hc26 hq17=>?_)))))))))))
    ·refine ag ?_
     refine cZ hq17 ?_;clear hq17;intro w27 hw27 hq17
     refine aa (bS 3 [49,50] [(51,pU (IntKind.u64.wrap ((kQ .u64 (dT .u64 v4 1) v20) - p1)))] (by kernel_rfl) (bK rfl rfl rfl (bv rfl (.p (congrArg (fun z=>PV.v (Value.int .u64 z)) hw27))) (aB (aT (aa (cw 4 [2] [52,53] [(54,pU (kQ .u64 x25.1.Lo 1)),(55,pP b3 1)] (by kernel_rfl) (aN rfl rfl (aj (vs:=[pU (kQ .u64 x25.1.Lo 1)]) rfl rfl rfl rfl rfl (cG (cG bV)) (cX kR) (aB (aD ?_))))))))))
     obtain rfl:=osi hq17
     exact au ((),(w27,x25.1.Hi,(kQ .u64 x25.1.Lo 1))) (rt rfl) zk rfl
    refine ah ?_
    refine aD ?_
    obtain rfl:=osi hq17
    exact au ((),((kQ .u64 (dT .u64 v4 1) v20),x25.1.Hi,x25.1.Lo)) (rt rfl) zk rfl
   rintro ⟨_,⟨v14,v15,v16⟩⟩ τ hz;(try dsimp only at hz);subst q17;(try dsimp only at hb11);dsimp only [az]
   refine af [14,15] [(8,pI (IntKind.i64.wrap (v5 - 1)))] (by kernel_rfl) ?_
   exact aY hb11 () (rt rfl) zk
  refine aP ?_
  refine aq (ak hb11 (fun ht=>am rfl ?_))
  exact au ((),(v4,v6,v7)) (lF rfl) (aZ (ap aI) (aZ (ap aI) bL)) ht.symm
 rintro ⟨_,⟨v8,v9,v10⟩⟩ τ hz;(try dsimp only at hz);subst q12;(try dsimp only at h);dsimp only [az]
 refine ag (aa (e9 2 [1] [(56,.agg [pU v9,pU v10]),(57,pU v8)] (by kernel_rfl) (aN rfl rfl (aj (vs:=[pU v9,pU v10]) rfl rfl rfl rfl rfl bV oT (aG [(5,pU v8)] (by kernel_rfl) (em ?_))))))
 obtain rfl:=osi h
 exact aQ (dp (cE rfl eP rfl) (aX rfl)) bL ⟨rfl,rfl⟩
def kJ (p0:Zj) (p1:Int) (p2:Int):Option (Int×Int):=cond (((p1 == 0)||(decide (p2<0)))||(decide (3<p2))) (some ((0:Int),(2:Int))) ((gV p0 p1).bind fun x3=>Option.bind (cond (p2 == 1) (some (decide (0<x3.2))) (cond (p2 == 2) (some (decide ((IntKind.u64.wrap (p1 - x3.2))≤x3.2))) (cond (p2 == 3) (some ((decide ((IntKind.u64.wrap (p1 - x3.2))<x3.2))||((x3.2 == (IntKind.u64.wrap (p1 - x3.2)))&&((co .u64 x3.1.Lo 1) == 1)))) (some false)))) (fun v5=>Option.bind (cond v5 ((fh x3.1 (⟨0,1⟩:Zj)).bind fun x14=>some (x14.1.Hi,x14.1.Lo)) (some (x3.1.Hi,x3.1.Lo))) (fun (v10,v11)=>cond (decide (0<v10)) (some ((0:Int),(3:Int))) (some (v11,(0:Int))))))
theorem tn {p0:Zj} {p1:Int} {p2:Int} {r:(Int×Int)}  (h:kJ p0 p1 p2=some r):PF 107 [.agg [pU p0.Hi,pU p0.Lo],pU p1,pI p2] (.tup [pU r.1,pI r.2]):=by
 unfold kJ at h
 refine bk ?_
 refine ed Tryz.func107 rfl Tryz.ntmps107 Tryz.results107 rfl (aa (ai rfl (bM (cs:=[pU p0.Hi,pU p0.Lo]) rfl rfl (fun b1=>bm [6,7] (by kernel_rfl) (cY (af (rg 11 9) [(20,pB (((p1 == 0)||(decide (p2<0)))||(decide (3<p2))))] (by kernel_rfl) (bT rfl h (fun hc2 h=>?_) fun hc2 h=>?_)))))))
 ·refine ag ?_
  refine fm [(6,pU 0),(7,pI 2)] (by kernel_rfl) (aA ?_)
  obtain rfl:=osi h
  exact aQ (dp (aX rfl) (aX rfl)) bL ⟨rfl,rfl⟩
 refine ah ?_
 refine cU h fun x3 hx3 h=>aa (aS 6 [0] [22,23,24,21] [(25,.agg [pU x3.1.Hi,pU x3.1.Lo]),(26,pU x3.2)] (bG 2 (o3 hx3) bx) (by kernel_rfl) (ai rfl (aM (cs:=[pU 0,pU 0]) rfl rfl rfl rfl (fun b4=>aN rfl rfl (aj (vs:=[pU x3.1.Hi,pU x3.1.Lo]) rfl rfl rfl rfl rfl bV oT (aG [(9,pU x3.2)] (by kernel_rfl) (bO (an [(10,pB false)] (by kernel_rfl) (cY (an [(27,pI p2)] (by kernel_rfl) (gn h fun q6 hq6 h=>?_)))))))))))
 refine ar (Y:=Unit×Bool) (fun (_,v5)=>[(8,pP b4 0),(10,pB v5)]) (fun (_,v5)=>[PRes.b b4 167 [pU x3.1.Hi,pU x3.1.Lo]]) (fun (_,v5)=>q6=v5) ?_ ?_
 ·skip
  refine gG (af [29] [(28,pB (p2 == 1))] (by kernel_rfl) (bT rfl hq6 (fun hc7 hq6=>?_) fun hc7 hq6=>?_))
  ·refine af [30,31] [(10,pB (decide (0<x3.2)))] (by kernel_rfl) ?_
   refine aD ?_
   obtain rfl:=osi hq6
   exact au ((),(decide (0<x3.2))) (nS rfl) cI rfl
  refine ag ?_
  refine af [33] [(32,pB (p2 == 2))] (by kernel_rfl) (bT rfl hq6 (fun hc8 hq6=>?_) fun hc8 hq6=>?_)
  ·refine af (rg 34 5) [(10,pB (decide ((IntKind.u64.wrap (p1 - x3.2))≤x3.2)))] (by kernel_rfl) ?_
   refine aD ?_
   obtain rfl:=osi hq6
   exact au ((),(decide ((IntKind.u64.wrap (p1 - x3.2))≤x3.2))) (nS rfl) cI rfl
  refine ag ?_
  refine af [40] [(39,pB (p2 == 3))] (by kernel_rfl) (bT rfl hq6 (fun hc9 hq6=>?_) fun hc9 hq6=>?_)
  ·refine bj [0] (rg 41 18) [(10,pB ((decide ((IntKind.u64.wrap (p1 - x3.2))<x3.2))||((x3.2 == (IntKind.u64.wrap (p1 - x3.2)))&&((co .u64 x3.1.Lo 1) == 1))))] (by kernel_rfl) ?_
   refine aD ?_
   obtain rfl:=osi hq6
   exact au ((),((decide ((IntKind.u64.wrap (p1 - x3.2))<x3.2))||((x3.2 == (IntKind.u64.wrap (p1 - x3.2)))&&((co .u64 x3.1.Lo 1) == 1)))) (nS rfl) cI rfl
  refine ah ?_
  refine aD ?_
  obtain rfl:=osi hq6
  exact au ((),false) (nS rfl) cI rfl
 rintro ⟨_,v5⟩ τ hz;(try dsimp only at hz);subst q6;(try dsimp only at h);dsimp only [az]
 refine dU (an [(59,pB v5)] (by kernel_rfl) (gn h fun q12 hq12 h=>?_))
 refine ar (Y:=Unit×(Int×Int)) (fun (_,(v10,v11))=>[(8,pP b4 0)]) (fun (_,(v10,v11))=>[PRes.b b4 167 [pU v10,pU v11]]) (fun (_,(v10,v11))=>q12=(v10,v11)) ?_ ?_
 ·skip
  refine kq rfl hq12 (fun hc13 hq12=>?_) fun hc13 hq12=>?_
  ·refine ae hq12 ?_;clear hq12;intro x14 hx14 hq12
   refine aa (aS 6 [0] [61,62,63,60,65] [(64,.agg [pU x14.1.Hi,pU x14.1.Lo])] (bG 2 (jk hx14) bx) (by kernel_rfl) (aN rfl rfl (aj (vs:=[pU x14.1.Hi,pU x14.1.Lo]) rfl rfl rfl rfl rfl bV oT (aB ?_))))
   obtain rfl:=osi hq12
   exact au ((),(x14.1.Hi,x14.1.Lo)) (tN rfl) cI rfl
  refine ah ?_
  obtain rfl:=osi hq12
  exact au ((),(x3.1.Hi,x3.1.Lo)) (tN rfl) cI rfl
 rintro ⟨_,⟨v10,v11⟩⟩ τ hz;(try dsimp only at hz);subst q12;(try dsimp only at h);dsimp only [az]
 refine dU (bj [0] [66,67] [(68,pB (decide (0<v10)))] (by kernel_rfl) (bT rfl h (fun hc15 h=>?_) fun hc15 h=>?_))
 ·refine ag ?_
  refine fm [(6,pU 0),(7,pI 3)] (by kernel_rfl) (aA ?_)
  obtain rfl:=osi h
  exact aQ (dp (aX rfl) (aX rfl)) bL ⟨rfl,rfl⟩
 refine ah ?_
 refine bO (bj [0] [69,70] [(6,pU v11),(7,pI 0)] (by kernel_rfl) (em ?_))
 obtain rfl:=osi h
 exact aQ (dp (aX rfl) (aX rfl)) bL ⟨rfl,rfl⟩
def kK (p0:Int) (p1:Int):Option Zj:=(bf (S:=Int×Int×Int) (T:=(Int×Int)) (fun (v3,v4,v5)=>cond (decide (0≤v3)) (((fh (⟨v4,v5⟩:Zj) (⟨v4,v5⟩:Zj)).bind fun x14=>(i5 v3).bind fun u15=>cond ((co .u64 (bQ .u64 p1 v3) 1) == 1) ((fh x14.1 (⟨0,p0⟩:Zj)).bind fun x17=>some (x17.1.Hi,x17.1.Lo)) (some (x14.1.Hi,x14.1.Lo))).bind fun (v11,v12)=>some (.inl ((IntKind.i64.wrap (v3 - 1)),v11,v12))) (some (.inr (v4,v5)))) FUEL (63,0,0)).bind fun (v6,v7)=>some (⟨v6,v7⟩:Zj)
theorem tp {p0:Int} {p1:Int} {r:Zj}  (h:kK p0 p1=some r):PF 108 [pU p0,pU p1] (.agg [pU r.Hi,pU r.Lo]):=by
 unfold kK at h
 refine bk ?_
 refine ed Tryz.func108 rfl Tryz.ntmps108 Tryz.results108 rfl (aa (ai rfl (aM (cs:=[pU 0,pU 0]) rfl rfl rfl rfl (fun b1=>aB (bO (aa (av 1 [(7,.agg [pU 0,pU 0])] (by kernel_rfl) (ai rfl (aM (cs:=[pU 0,pU 0]) rfl rfl rfl rfl (fun b2=>aN rfl rfl (aj (vs:=[pU 0,pU 0]) rfl rfl rfl rfl rfl bV oT (aB (cY (an [(6,pI 63)] (by kernel_rfl) (gn h fun q9 hq9 h=>?_)))))))))))))))
 refine ar (Y:=Unit×(Int×Int)) (fun (_,(v6,v7))=>[(4,pP b1 0),(5,pP b2 0)]) (fun (_,(v6,v7))=>[PRes.b b1 167 [pU 0,pU 0],PRes.b b2 167 [pU v6,pU v7]]) (fun (_,(v6,v7))=>q9=(v6,v7)) ?_ ?_
 ·refine aC ?_
  refine aJ (Y:=Unit) (S:=Int×Int×Int) _ hq9 (fun _ (v3,v4,v5)=>[(0,pU p0),(1,pU p1),(4,pP b1 0),(5,pP b2 0),(6,pI v3)]) (fun _ (v3,v4,v5)=>[PRes.b b1 167 [pU 0,pU 0],PRes.b b2 167 [pU v4,pU v5]]) () (mz rfl) (aZ (ap aI) cI) ?_
  rintro _ ⟨v3,v4,v5⟩ o τ hb8;(try dsimp only at hb8);dsimp only [az]
  refine dU (af [8] [(9,pB (decide (0≤v3)))] (by kernel_rfl) (bT rfl hb8 (fun hc10 hb8=>?_) fun hc10 hb8=>?_))
  ·refine ah ?_
   refine cU hb8 fun q13 hq13 hb8=>?_
   refine ar (Y:=Unit×(Int×Int)) (fun (_,(v11,v12))=>[(0,pU p0),(1,pU p1),(4,pP b1 0),(5,pP b2 0),(6,pI v3)]) (fun (_,(v11,v12))=>[PRes.b b1 167 [pU 0,pU 0],PRes.b b2 167 [pU v11,pU v12]]) (fun (_,(v11,v12))=>q13=(v11,v12)) ?_ ?_
   ·skip
    refine gG (ae hq13 fun x14 hx14 hq13=>aa (aS 6 [1,1] [13,14,15,12,17] [(16,.agg [pU x14.1.Hi,pU x14.1.Lo])] (bG 2 (jk hx14) bx) (by kernel_rfl) (aN rfl rfl (aj (vs:=[pU x14.1.Hi,pU x14.1.Lo]) rfl rfl rfl rfl rfl (cG bV) oT (aB (cU hq13 fun u15 hu15 hq13=>aw [] [18,19,20,21] [(22,pB ((co .u64 (bQ .u64 p1 v3) 1) == 1))] (oU 2 hu15 bx) (by kernel_rfl) (bT rfl hq13 (fun hc16 hq13=>?_) fun hc16 hq13=>?_)))))))
    ·refine ae hq13 ?_;clear hq13;intro x17 hx17 hq13
     refine aa (aS 7 [1] [24,25,26,27,23,29] [(28,.agg [pU x17.1.Hi,pU x17.1.Lo])] (bG 3 (jk hx17) bx) (by kernel_rfl) (aN rfl rfl (aj (vs:=[pU x17.1.Hi,pU x17.1.Lo]) rfl rfl rfl rfl rfl (cG bV) oT (aB (aD ?_)))))
     obtain rfl:=osi hq13
     exact au ((),(x17.1.Hi,x17.1.Lo)) (mz rfl) oA rfl
    refine ah ?_
    refine aD ?_
    obtain rfl:=osi hq13
    exact au ((),(x14.1.Hi,x14.1.Lo)) (mz rfl) oA rfl
   rintro ⟨_,⟨v11,v12⟩⟩ τ hz;(try dsimp only at hz);subst q13;(try dsimp only at hb8);dsimp only [az]
   refine af [10,11] [(6,pI (IntKind.i64.wrap (v3 - 1)))] (by kernel_rfl) ?_
   exact aY hb8 () (mz rfl) oA
  refine aP ?_
  refine aq (ak hb8 (fun ht=>am rfl ?_))
  exact au ((),(v4,v5)) (nS rfl) oA ht.symm
 rintro ⟨_,⟨v6,v7⟩⟩ τ hz;(try dsimp only at hz);subst q9;(try dsimp only at h);dsimp only [az]
 refine ag (aa (e9 1 [1] [(30,.agg [pU v6,pU v7])] (by kernel_rfl) (aN rfl rfl (aj (vs:=[pU v6,pU v7]) rfl rfl rfl rfl rfl bV oT (aB (em ?_))))))
 obtain rfl:=osi h
 exact aQ (cL (cE rfl eP rfl)) bL ⟨rfl,rfl⟩
def gW (p0:Int) (p1:Int) (p2:Int) (p3:Int):Option (Int×Int):=(kK p0 p1).bind fun x1=>(kJ x1 p2 p3).bind fun x2=>some (x2.1,x2.2)
theorem o4 {p0:Int} {p1:Int} {p2:Int} {p3:Int} {r:(Int×Int)}  (h:gW p0 p1 p2 p3=some r):PF 60 [pU p0,pU p1,pU p2,pI p3] (.tup [pU r.1,pI r.2]):=by
 unfold gW at h
 refine bk ?_
 refine ed Tryz.func60 rfl Tryz.ntmps60 Tryz.results60 rfl (aU [8,9] (by kernel_rfl) (cU h fun x1 hx1 h=>ae h fun x2 hx2 h=>aw [] (rg 10 8) [(8,pU x2.1),(9,pI x2.2)] (bG 2 (tp hx1) (bG 5 (tn hx2) bx)) (by kernel_rfl) (em ?_)))
 obtain rfl:=osi h
 exact aQ (dp (aX rfl) (aX rfl)) bL ⟨rfl,rfl⟩
def gX (p0:(List Ze)) (p1:(List Zb)) (p2:ByteArray) (p3:Za) (p4:(List Za)):Option (Zp×(List Za)):=(fe p0 p1 p2 p3).bind fun x3=>cond (!x3) (some ((⟨ByteArray.empty,0,false,[],[]⟩:Zp),[])) ((fz p0 p3.Product).bind fun x5=>(dP p1 p3.Agreement).bind fun x7=>(fV p1 p3.Agreement x5.1.Country p2).bind fun x9=>(bf (S:=(List Za)×(List ByteArray)×Int×(List Zi)) (T:=((List Za)×(List ByteArray)×(List Zi))) (fun (l13,l14,v15,l17)=>cond (decide (v15<(x5.1.Inputs.length:Int))) (((idx x5.1.Inputs v15).bind fun m37=>(fz p0 m37.Product).bind fun x39=>(gd (x7.1.Kind == 3) (fZ x7.1.Parties x39.1.Country)).bind fun x41=>Option.bind (cond ((x7.1.Kind == 3)&&x41) ((gC l14 x39.1.Processes).bind fun x46=>some x46) (some l14)) (fun l42=>(fN x9 x39.1.ID p4).bind fun x47=>Option.bind (cond x47.2 ((fW l13 x47.1).bind fun x53=>some x53) (some l13)) (fun l49=>cond ((x47.2||(!((x7.1.Kind == 3)&&x41)))||((x39.1.Inputs.length:Int) == 0)) ((app 32 l17 [(⟨x39.1.Code,m37.Value,x47.2⟩:Zi)]).bind fun l57=>some (l49,l42,l57)) ((bf (S:=(List Za)×Int×(List Zi)) (T:=((List Za)×(List Zi))) (fun (l61,v62,l64)=>cond (decide (v62<(x39.1.Inputs.length:Int))) ((idx x39.1.Inputs v62).bind fun m75=>(fz p0 m75.Product).bind fun x76=>(idx x39.1.Inputs v62).bind fun m78=>(gW (IntKind.u64.wrap m37.Value) (IntKind.u64.wrap m78.Value) (IntKind.u64.wrap x39.1.Price) 1).bind fun x79=>Option.bind (cond ((x79.2 == 0)&&(decide (x79.1<1000000000000))) (some (IntKind.i64.wrap x79.1)) (some 1000000000000)) (fun v80=>(fN x9 x76.1.ID p4).bind fun x84=>Option.bind (cond x84.2 ((fW l61 x84.1).bind fun x90=>some x90) (some l61)) (fun l86=>(app 32 l64 [(⟨x76.1.Code,v80,x84.2⟩:Zi)]).bind fun l93=>some (.inl (l86,(IntKind.i64.wrap (v62+1)),l93))))) (some (.inr (l61,l64)))) FUEL (l49,0,l17)).bind fun (l67,l71)=>some (l67,l42,l71))))).bind fun (l30,l31,l35)=>some (.inl (l30,l31,(IntKind.i64.wrap (v15+1)),l35))) (some (.inr (l13,l14,l17)))) FUEL (([]:List Za),x5.1.Processes,0,([]:List Zi))).bind fun (l20,l21,l25)=>(sub l21 0 (mO (l21.length:Int) 8)).bind fun l98=>some ((⟨x5.1.Code,x5.1.Price,x5.1.Obtained,l98,l25⟩:Zp),l20))
theorem o5 {p0:(List Ze)} {p1:(List Zb)} {p2:ByteArray} {p3:Za} {p4:(List Za)} {r:(Zp×(List Za))}  (h:gX p0 p1 p2 p3 p4=some r):PF 18 [pL Ze.enc p0,pL Zb.enc p1,pS p2,.agg [pI p3.Product,pI p3.Agreement],pL Za.enc p4] (.tup [.agg (eV r.1),pL Za.enc r.2]):=by
 unfold gX at h
 refine bk ?_
 refine ed Tryz.func18 rfl Tryz.ntmps18 Tryz.results18 rfl (aa (ai rfl (bM (cs:=[pI p3.Product,pI p3.Agreement]) rfl rfl (fun b1=>ai rfl (aM (cs:=[pS ByteArray.empty,pI 0,pB false,pN,pN]) rfl rfl rfl rfl (fun b2=>bm [11] (by kernel_rfl) (cY (ae h fun x3 hx3 h=>aw [1] (rg 35 5) [(40,pB (!x3))] (bG 4 (mF hx3) bx) (by kernel_rfl) (bT rfl h (fun hc4 h=>?_) fun hc4 h=>?_)))))))))
 ·refine ag ?_
  refine aa (av 1 [(41,.agg [pS ByteArray.empty,pI 0,pB false,pN,pN])] (by kernel_rfl) (aN rfl rfl (aj (vs:=[pS ByteArray.empty,pI 0,pB false,pN,pN]) rfl rfl rfl rfl rfl bV zl (aG [(11,pN)] (by kernel_rfl) (aT (cb (k:=3) (b:=b2) rfl bV (cb (k:=4) (b:=b2) rfl bV (nx 11 rfl (bU (aA ?_))))))))))
  obtain rfl:=osi h
  exact aQ (dp (cE rfl eP rfl) (aX rfl)) bL ⟨rfl,rfl⟩
 refine ah ?_
 refine cU h fun x5 hx5 h=>aa (aS 7 [1] [43,44,45,46,42] [(47,.agg (aK x5.1)),(48,pB x5.2)] (bG 3 (iC hx5) bx) (by kernel_rfl) (ai rfl (aM (cs:=[pI 0,pS ByteArray.empty,pS ByteArray.empty,pI 0,pB false,pN,pN]) rfl rfl rfl rfl (fun b6=>aN rfl rfl (aj (vs:=(aK x5.1)) rfl rfl rfl rfl rfl bV mA (bm [13] (by kernel_rfl) (cU h fun x7 hx7 h=>aa (aS 7 [2] [50,51,52,53,49] [(54,.agg (al x7.1)),(55,pB x7.2)] (bG 3 (gx hx7) bx) (by kernel_rfl) (ai rfl (aM (cs:=[pI 0,pI 0,pN,pN]) rfl rfl rfl rfl (fun b8=>aN rfl rfl (aj (vs:=(al x7.1)) rfl rfl rfl rfl rfl bV wK (bm [15] (by kernel_rfl) (cU h fun x9 hx9 h=>aw [3,1] (rg 56 7) [(16,pL eI x9)] (bG 6 (nD hx9) bx) (by kernel_rfl) (bO (aa (cw 7 [1,1,1] (rg 63 6) [(69,.agg [pS x5.1.Code,pI x5.1.Price,pB x5.1.Obtained,pN,pN])] (by kernel_rfl) (ai rfl (bB rfl rfl rfl rfl rfl hY rfl rfl rfl rfl (fun b10=>ai rfl (aM (cs:=[pS ByteArray.empty,pI 0,pB false,pN,pN]) rfl rfl rfl rfl (fun b12=>aN rfl rfl (aj (vs:=[pS x5.1.Code,pI x5.1.Price,pB x5.1.Obtained,pN,pN]) rfl rfl rfl rfl rfl bV zl (aG [(18,pO (some ⟨b10,0,none⟩) 0 0)] (by kernel_rfl) (bO (bj [3] [71,72] [(19,pL eS x5.1.Processes)] (by kernel_rfl) (cY (an [(20,pI 0)] (by kernel_rfl) (aT (cF 103 3 ?_))))))))))))))))))))))))))))))
 refine eY (enc:=Za.enc) (xs:=([]:List Za)) 18 rfl (by exact ap (ap aI)) ?_
 refine ae h fun q27 hq27 h=>?_
 refine ar (Y:=(Option Addr×Nat)×((List Za)×(List ByteArray)×(List Zi))) (fun ((a23,c24),(l20,l21,l25))=>[(10,pP b2 0),(17,pP b12 0),(18,pL Za.enc l20),(19,pL eS l21)]) (fun ((a23,c24),(l20,l21,l25))=>[PRes.b b12 36 [pS x5.1.Code,pI x5.1.Price,pB x5.1.Obtained,pN,pO a23 l25.length c24],PRes.b b2 36 [pS ByteArray.empty,pI 0,pB false,pN,pN],PRes.row a23 l25.length c24 103 3 (List.map Zi.enc l25)]) (fun ((a23,c24),(l20,l21,l25))=>q27=(l20,l21,l25)) ?_ ?_
 ·refine aC ?_
  refine aJ (Y:=Option Addr×Nat) (S:=(List Za)×(List ByteArray)×Int×(List Zi)) _ hq27 (fun (a18,c19) (l13,l14,v15,l17)=>[(0,pL Ze.enc p0),(4,pL Za.enc p4),(10,pP b2 0),(12,pP b6 0),(14,pP b8 0),(16,pL eI x9),(17,pP b12 0),(18,pL Za.enc l13),(19,pL eS l14),(20,pI v15)]) (fun (a18,c19) (l13,l14,v15,l17)=>[PRes.b b12 36 [pS x5.1.Code,pI x5.1.Price,pB x5.1.Obtained,pN,pO a18 l17.length c19],PRes.b b2 36 [pS ByteArray.empty,pI 0,pB false,pN,pN],PRes.b b6 76 (aK x5.1),PRes.b b8 81 (al x7.1),PRes.row a18 l17.length c19 103 3 (List.map Zi.enc l17)]) (none,0) (cW rfl (qk rfl)) (aZ (ap (ap aI)) (aZ (ap (ap (ap (ap aI)))) (aZ (ap (ap (ap aI))) (aZ (ap (ap aI)) (aZ (ap aI) bL))))) ?_
  rintro ⟨a18,c19⟩ ⟨l13,l14,v15,l17⟩ o τ hb26;(try dsimp only at hb26);dsimp only [az]
  refine dU (bj [2] [73,74,75,76] [(77,pB (decide (v15<(x5.1.Inputs.length:Int))))] (by kernel_rfl) (bT rfl hb26 (fun hc29 hb26=>?_) fun hc29 hb26=>?_))
  ·refine ah ?_
   refine cU hb26 fun q36 hq36 hb26=>?_
   refine ar (Y:=(Option Addr×Nat)×((List Za)×(List ByteArray)×(List Zi))) (fun ((a33,c34),(l30,l31,l35))=>[(0,pL Ze.enc p0),(4,pL Za.enc p4),(10,pP b2 0),(12,pP b6 0),(14,pP b8 0),(16,pL eI x9),(17,pP b12 0),(18,pL Za.enc l30),(19,pL eS l31),(20,pI v15)]) (fun ((a33,c34),(l30,l31,l35))=>[PRes.b b12 36 [pS x5.1.Code,pI x5.1.Price,pB x5.1.Obtained,pN,pO a33 l35.length c34],PRes.b b2 36 [pS ByteArray.empty,pI 0,pB false,pN,pN],PRes.b b6 76 (aK x5.1),PRes.b b8 81 (al x7.1),PRes.row a33 l35.length c34 103 3 (List.map Zi.enc l35)]) (fun ((a33,c34),(l30,l31,l35))=>q36=(l30,l31,l35)) ?_ ?_
   ·skip
    refine gG (ae hq36 fun m37 hm37 hq36=>aa (aS 5 [2] [80,81,82,83] [(84,.agg [pI m37.Product,pI m37.Value])] (db 3 Zg.enc hm37 bx) (by kernel_rfl) (ai rfl (aM (cs:=[pI 0,pI 0]) rfl rfl rfl rfl (fun b38=>aN rfl rfl (aj (vs:=[pI m37.Product,pI m37.Value]) rfl rfl rfl rfl rfl bV oT (aB (cU hq36 fun x39 hx39 hq36=>aa (aS 7 [0] [86,87,88,89,85] [(90,.agg (aK x39.1)),(91,pB x39.2)] (bG 3 (iC hx39) bx) (by kernel_rfl) (ai rfl (aM (cs:=[pI 0,pS ByteArray.empty,pS ByteArray.empty,pI 0,pB false,pN,pN]) rfl rfl rfl rfl (fun b40=>aN rfl rfl (aj (vs:=(aK x39.1)) rfl rfl rfl rfl rfl bV mA (bm [23] (by kernel_rfl) (cU hq36 fun x41 hx41 hq36=>aw [5,5,0] (rg 92 10) [(24,pB ((x7.1.Kind == 3)&&x41))] (ey 8 (fun hc=>gT (dB hx41 hc)) bx) (by kernel_rfl) (cY (an [(102,pB ((x7.1.Kind == 3)&&x41))] (by kernel_rfl) (gn hq36 fun q44 hq44 hq36=>?_))))))))))))))))))
    refine ar (Y:=Unit×((List ByteArray))) (fun (_,l42)=>[(0,pL Ze.enc p0),(4,pL Za.enc p4),(10,pP b2 0),(12,pP b6 0),(14,pP b8 0),(16,pL eI x9),(17,pP b12 0),(18,pL Za.enc l13),(19,pL eS l42),(20,pI v15),(21,pP b38 0),(22,pP b40 0),(24,pB ((x7.1.Kind == 3)&&x41))]) (fun (_,l42)=>[PRes.b b12 36 [pS x5.1.Code,pI x5.1.Price,pB x5.1.Obtained,pN,pO a18 l17.length c19],PRes.b b2 36 [pS ByteArray.empty,pI 0,pB false,pN,pN],PRes.b b38 78 [pI m37.Product,pI m37.Value],PRes.b b40 76 (aK x39.1),PRes.b b6 76 (aK x5.1),PRes.b b8 81 (al x7.1),PRes.row a18 l17.length c19 103 3 (List.map Zi.enc l17)]) (fun (_,l42)=>q44=l42) ?_ ?_
    ·skip
     refine kq rfl hq44 (fun hc45 hq44=>?_) fun hc45 hq44=>?_
     ·refine ae hq44 ?_;clear hq44;intro x46 hx46 hq44
      refine aw [0] [103,104,105,106] [(19,pL eS x46)] (bG 3 (qE hx46) bx) (by kernel_rfl) ?_
      obtain rfl:=osi hq44
      exact au ((),x46) (cW rfl (cW rfl (cW rfl (cW rfl (qk rfl))))) (aZ (ap (ap aI)) (aZ (ap (ap aI)) (aZ (ap aI) yu))) rfl
     refine ah ?_
     obtain rfl:=osi hq44
     exact au ((),l14) (cW rfl (cW rfl (cW rfl (cW rfl (qk rfl))))) (aZ (ap (ap aI)) (aZ (ap (ap aI)) (aZ (ap aI) yu))) rfl
    rintro ⟨_,l42⟩ τ hz;(try dsimp only at hz);subst q44;(try dsimp only at hq36);dsimp only [az]
    refine ag (ae hq36 fun x47 hx47 hq36=>aa (aS 8 [3] ((rg 108 5)++[107]) [(113,.agg [pI x47.1.Product,pI x47.1.Agreement]),(114,pB x47.2)] (bG 4 (kI hx47) bx) (by kernel_rfl) (ai rfl (aM (cs:=[pI 0,pI 0]) rfl rfl rfl rfl (fun b48=>aN rfl rfl (aj (vs:=[pI x47.1.Product,pI x47.1.Agreement]) rfl rfl rfl rfl rfl bV oT (aG [(26,pB x47.2)] (by kernel_rfl) (cY (an [(115,pB x47.2)] (by kernel_rfl) (gn hq36 fun q51 hq51 hq36=>?_))))))))))
    refine ar (Y:=Unit×((List Za))) (fun (_,l49)=>[(0,pL Ze.enc p0),(4,pL Za.enc p4),(10,pP b2 0),(12,pP b6 0),(14,pP b8 0),(16,pL eI x9),(17,pP b12 0),(18,pL Za.enc l49),(19,pL eS l42),(20,pI v15),(21,pP b38 0),(22,pP b40 0),(24,pB ((x7.1.Kind == 3)&&x41)),(26,pB x47.2)]) (fun (_,l49)=>[PRes.b b12 36 [pS x5.1.Code,pI x5.1.Price,pB x5.1.Obtained,pN,pO a18 l17.length c19],PRes.b b2 36 [pS ByteArray.empty,pI 0,pB false,pN,pN],PRes.b b38 78 [pI m37.Product,pI m37.Value],PRes.b b40 76 (aK x39.1),PRes.b b6 76 (aK x5.1),PRes.b b8 81 (al x7.1),PRes.row a18 l17.length c19 103 3 (List.map Zi.enc l17)]) (fun (_,l49)=>q51=l49) ?_ ?_
    ·skip
     refine kq rfl hq51 (fun hc52 hq51=>?_) fun hc52 hq51=>?_
     ·refine ae hq51 ?_;clear hq51;intro x53 hx53 hq51
      refine aw [0] [116,117,118] [(18,pL Za.enc x53)] (bG 2 (mK hx53) bx) (by kernel_rfl) ?_
      obtain rfl:=osi hq51
      exact au ((),x53) (cW rfl (cW rfl (cW rfl (cW rfl (cW rfl (qk rfl)))))) (aZ (ap aI) (aZ (ap aI) (aZ (ap aI) (aZ (ap aI) (aZ (ap aI) (aZ (ap aI) (aZ (ap aI) bL))))))) rfl
     refine ah ?_
     obtain rfl:=osi hq51
     exact au ((),l13) (cW rfl (cW rfl (cW rfl (cW rfl (cW rfl (qk rfl)))))) (aZ (ap aI) (aZ (ap aI) (aZ (ap aI) (aZ (ap aI) (aZ (ap aI) (aZ (ap aI) (aZ (ap aI) bL))))))) rfl
    rintro ⟨_,l49⟩ τ hz;(try dsimp only at hz);subst q51;(try dsimp only at hq36);dsimp only [az]
    refine dU (bj [3] (rg 119 10) [(129,pB ((x47.2||(!((x7.1.Kind == 3)&&x41)))||((x39.1.Inputs.length:Int) == 0)))] (by kernel_rfl) (bT rfl hq36 (fun hc54 hq36=>?_) fun hc54 hq36=>?_))
    ·refine ag ?_
     refine aa (cw 8 [0,3,2] [130,132,133,134,135,136] [(131,pO a18 l17.length c19),(137,.agg [pS x39.1.Code,pI m37.Value,pB x47.2])] (by kernel_rfl) (ai rfl (bB rfl rfl rfl rfl rfl (eZ rfl hY) rfl rfl rfl rfl (fun b55=>ae hq36 fun l57 hl57 hq36=>?_))))
     refine ai rfl (bN (enc:=Zi.enc) rfl rfl rfl rfl rfl rfl rfl rfl rfl eP (by exact ap (ap (ap (ap (ap (ap (ap aI))))))) hl57 (fun a58 c59=>?_))
     refine av 1 [(140,pP b12 4)] (by kernel_rfl) (aN rfl rfl (aj (vs:=[pO a58 l57.length c59]) rfl rfl rfl rfl rfl (cG (cG bV)) (cX (cX (cX (cX kR)))) (aB (aT (aP (aq (am rfl ?_)))))))
     obtain rfl:=osi hq36
     exact au ((a58,c59),(l49,l42,l57)) (cW rfl (qk rfl)) (aZ (ap (ap aI)) (aZ (ap (ap aI)) (aZ (ap (ap (ap (ap aI)))) (aZ (ap (ap (ap (ap aI)))) cI)))) rfl
    refine ah ?_
    refine bO (an [(27,pI 0)] (by kernel_rfl) (gn hq36 fun q73 hq73 hq36=>?_))
    refine iI (Y:=(Option Addr×Nat)×((List Za)×(List Zi))) (fun ((a69,c70),(l67,l71))=>[(0,pL Ze.enc p0),(4,pL Za.enc p4),(10,pP b2 0),(12,pP b6 0),(14,pP b8 0),(16,pL eI x9),(17,pP b12 0),(18,pL Za.enc l67),(19,pL eS l42),(20,pI v15)]) (fun ((a69,c70),(l67,l71))=>[PRes.b b12 36 [pS x5.1.Code,pI x5.1.Price,pB x5.1.Obtained,pN,pO a69 l71.length c70],PRes.b b2 36 [pS ByteArray.empty,pI 0,pB false,pN,pN],PRes.b b6 76 (aK x5.1),PRes.b b8 81 (al x7.1),PRes.row a69 l71.length c70 103 3 (List.map Zi.enc l71)]) (fun ((a69,c70),(l67,l71))=>q73=(l67,l71)) ?_ ?_
    ·refine aC ?_
     refine aJ (Y:=Option Addr×Nat) (S:=(List Za)×Int×(List Zi)) _ hq73 (fun (a65,c66) (l61,v62,l64)=>[(0,pL Ze.enc p0),(4,pL Za.enc p4),(10,pP b2 0),(12,pP b6 0),(14,pP b8 0),(16,pL eI x9),(17,pP b12 0),(18,pL Za.enc l61),(19,pL eS l42),(20,pI v15),(21,pP b38 0),(22,pP b40 0),(27,pI v62)]) (fun (a65,c66) (l61,v62,l64)=>[PRes.b b12 36 [pS x5.1.Code,pI x5.1.Price,pB x5.1.Obtained,pN,pO a65 l64.length c66],PRes.b b2 36 [pS ByteArray.empty,pI 0,pB false,pN,pN],PRes.b b38 78 [pI m37.Product,pI m37.Value],PRes.b b40 76 (aK x39.1),PRes.b b6 76 (aK x5.1),PRes.b b8 81 (al x7.1),PRes.row a65 l64.length c66 103 3 (List.map Zi.enc l64)]) (a18,c19) (cW rfl (cW rfl (cW rfl (cW rfl (qk rfl))))) (aZ aI zs6) ?_
     rintro ⟨a65,c66⟩ ⟨l61,v62,l64⟩ o τ hb72;(try dsimp only at hb72);dsimp only [az]
     refine dU (bj [3] [141,142,143,144] [(145,pB (decide (v62<(x39.1.Inputs.length:Int))))] (by kernel_rfl) (bT rfl hb72 (fun hc74 hb72=>?_) fun hc74 hb72=>?_))
     ·refine ah ?_
      refine bO (gG (ae hb72 fun m75 hm75 hb72=>ae hb72 fun x76 hx76 hb72=>aa (aS 11 [3] ((rg 149 8)++[148]) [(157,.agg (aK x76.1)),(158,pB x76.2)] (db 4 Zg.enc hm75 (bG 7 (iC hx76) bx)) (by kernel_rfl) (ai rfl (aM (cs:=[pI 0,pS ByteArray.empty,pS ByteArray.empty,pI 0,pB false,pN,pN]) rfl rfl rfl rfl (fun b77=>aN rfl rfl (aj (vs:=(aK x76.1)) rfl rfl rfl rfl rfl bV mA (bm [29] (by kernel_rfl) (bO (bJ (ρd:=[]) [(0,0),(1,0),(2,0),(3,0),(4,0),(5,0),(6,0),(7,0),(8,0),(9,0),(10,0),(11,0),(12,0),(13,1),(14,0),(15,0),(16,0),(17,0),(18,0)] _ (List.Perm.refl _) (by kernel_rfl) rfl (ae hb72 fun m78 hm78 hb72=>ae hb72 fun x79 hx79 hb72=>bR 19 [3,4,4] ((rg 160 14)++[159,174,175]) [(30,pU x79.1),(31,pI x79.2)] (db 6 Zg.enc hm78 (bG 13 (o4 hx79) bx)) (by kernel_rfl) (bW (bO (an [(32,pI 1000000000000)] (by kernel_rfl) (cY (af (rg 176 5) [(181,pB ((x79.2 == 0)&&(decide (x79.1<1000000000000))))] (by kernel_rfl) (gn hb72 fun q82 hq82 hb72=>?_)))))))))))))))))
      refine ar (Y:=Unit×Int) (fun (_,v80)=>[(0,pL Ze.enc p0),(4,pL Za.enc p4),(10,pP b2 0),(12,pP b6 0),(14,pP b8 0),(16,pL eI x9),(17,pP b12 0),(18,pL Za.enc l61),(19,pL eS l42),(20,pI v15),(21,pP b38 0),(22,pP b40 0),(27,pI v62),(28,pP b77 0),(32,pI v80)]) (fun (_,v80)=>[PRes.b b12 36 [pS x5.1.Code,pI x5.1.Price,pB x5.1.Obtained,pN,pO a65 l64.length c66],PRes.b b2 36 [pS ByteArray.empty,pI 0,pB false,pN,pN],PRes.b b38 78 [pI m37.Product,pI m37.Value],PRes.b b40 76 (aK x39.1),PRes.b b6 76 (aK x5.1),PRes.b b77 76 (aK x76.1),PRes.b b8 81 (al x7.1),PRes.row a65 l64.length c66 103 3 (List.map Zi.enc l64)]) (fun (_,v80)=>q82=v80) ?_ ?_
      ·skip
       refine kq rfl hq82 (fun hc83 hq82=>?_) fun hc83 hq82=>?_
       ·refine af [182,183] [(32,pI (IntKind.i64.wrap x79.1))] (by kernel_rfl) ?_
        obtain rfl:=osi hq82
        exact au ((),(IntKind.i64.wrap x79.1)) (cW rfl (cW rfl (cW rfl (cW rfl (cW rfl (cW rfl (qk rfl))))))) (aZ (ap aI) (aZ (ap aI) (aZ (ap aI) (aZ (ap aI) (aZ (ap aI) zk))))) rfl
       refine ah ?_
       obtain rfl:=osi hq82
       exact au ((),1000000000000) (cW rfl (cW rfl (cW rfl (cW rfl (cW rfl (cW rfl (qk rfl))))))) (aZ (ap aI) (aZ (ap aI) (aZ (ap aI) (aZ (ap aI) (aZ (ap aI) zk))))) rfl
      rintro ⟨_,v80⟩ τ hz;(try dsimp only at hz);subst q82;(try dsimp only at hb72);dsimp only [az]
      refine ag (ae hb72 fun x84 hx84 hb72=>aa (aS 8 [5] ((rg 185 5)++[184]) [(190,.agg [pI x84.1.Product,pI x84.1.Agreement]),(191,pB x84.2)] (bG 4 (kI hx84) bx) (by kernel_rfl) (ai rfl (aM (cs:=[pI 0,pI 0]) rfl rfl rfl rfl (fun b85=>aN rfl rfl (aj (vs:=[pI x84.1.Product,pI x84.1.Agreement]) rfl rfl rfl rfl rfl bV oT (aG [(34,pB x84.2)] (by kernel_rfl) (cY (an [(192,pB x84.2)] (by kernel_rfl) (gn hb72 fun q88 hq88 hb72=>?_))))))))))
      refine ar (Y:=Unit×((List Za))) (fun (_,l86)=>[(0,pL Ze.enc p0),(4,pL Za.enc p4),(10,pP b2 0),(12,pP b6 0),(14,pP b8 0),(16,pL eI x9),(17,pP b12 0),(18,pL Za.enc l86),(19,pL eS l42),(20,pI v15),(21,pP b38 0),(22,pP b40 0),(27,pI v62),(28,pP b77 0),(32,pI v80),(34,pB x84.2)]) (fun (_,l86)=>[PRes.b b12 36 [pS x5.1.Code,pI x5.1.Price,pB x5.1.Obtained,pN,pO a65 l64.length c66],PRes.b b2 36 [pS ByteArray.empty,pI 0,pB false,pN,pN],PRes.b b38 78 [pI m37.Product,pI m37.Value],PRes.b b40 76 (aK x39.1),PRes.b b6 76 (aK x5.1),PRes.b b77 76 (aK x76.1),PRes.b b8 81 (al x7.1),PRes.row a65 l64.length c66 103 3 (List.map Zi.enc l64)]) (fun (_,l86)=>q88=l86) ?_ ?_
      ·skip
       refine kq rfl hq88 (fun hc89 hq88=>?_) fun hc89 hq88=>?_
       ·refine ae hq88 ?_;clear hq88;intro x90 hx90 hq88
        refine aw [0] [193,194,195] [(18,pL Za.enc x90)] (bG 2 (mK hx90) bx) (by kernel_rfl) ?_
        obtain rfl:=osi hq88
        exact au ((),x90) (cW rfl (cW rfl (cW rfl (cW rfl (cW rfl (cW rfl (cW rfl (qk rfl)))))))) (aZ (ap aI) (aZ (ap aI) (aZ (ap aI) (aZ (ap aI) (aZ (ap aI) (aZ (ap aI) (aZ (ap aI) (aZ (ap aI) bL)))))))) rfl
       refine ah ?_
       obtain rfl:=osi hq88
       exact au ((),l61) (cW rfl (cW rfl (cW rfl (cW rfl (cW rfl (cW rfl (cW rfl (qk rfl)))))))) (aZ (ap aI) (aZ (ap aI) (aZ (ap aI) (aZ (ap aI) (aZ (ap aI) (aZ (ap aI) (aZ (ap aI) (aZ (ap aI) bL)))))))) rfl
      rintro ⟨_,l86⟩ τ hz;(try dsimp only at hz);subst q88;(try dsimp only at hb72);dsimp only [az]
      refine aa (cw 7 [0,5] [196,198,199,200,201] [(197,pO a65 l64.length c66),(202,.agg [pS x76.1.Code,pI v80,pB x84.2])] (by kernel_rfl) (ai rfl (bB rfl rfl rfl rfl rfl (eZ rfl hY) rfl rfl rfl rfl (fun b91=>ae hb72 fun l93 hl93 hb72=>?_))))
      refine ai rfl (bN (enc:=Zi.enc) rfl rfl rfl rfl rfl rfl rfl rfl rfl eP (by exact ap (ap (ap (ap (ap (ap (ap (ap aI)))))))) hl93 (fun a94 c95=>?_))
      refine av 1 [(205,pP b12 4)] (by kernel_rfl) (aN rfl rfl (aj (vs:=[pO a94 l93.length c95]) rfl rfl rfl rfl rfl (cG (cG bV)) (cX (cX (cX (cX kR)))) (aB (fw (af [146,147] [(27,pI (IntKind.i64.wrap (v62+1)))] (by kernel_rfl) ?_)))))
      exact aY hb72 (a94,c95) (cW rfl (cW rfl (cW rfl (cW rfl (qk rfl))))) (aZ (ap (ap aI)) (aZ (ap (ap aI)) (aZ (ap (ap aI)) (aZ (ap (ap aI)) (aZ (ap (ap aI)) (aZ (ap (ap (ap aI))) cI))))))
     refine aP ?_
     refine aq (ak hb72 (fun ht=>am rfl ?_))
     exact fR ((a65,c66),(l61,l64)) (cW rfl (qk rfl)) (aZ aI (aZ aI (aZ (ap (ap aI)) (aZ (ap (ap aI)) (aZ (ap (ap aI)) bL))))) ht.symm
    rintro ⟨⟨a69,c70⟩,⟨l67,l71⟩⟩ τ ρ1 hsub97 hz;(try dsimp only at hz hsub97);subst q73;(try dsimp only at hq36);dsimp only [az]
    refine aD ?_
    obtain rfl:=osi hq36
    exact au ((a69,c70),(l67,l42,l71)) (cW rfl (qk rfl)) (PSub.trans zs5 hsub97) rfl
   rintro ⟨⟨a33,c34⟩,⟨l30,l31,l35⟩⟩ τ hz;(try dsimp only at hz);subst q36;(try dsimp only at hb26);dsimp only [az]
   refine af [78,79] [(20,pI (IntKind.i64.wrap (v15+1)))] (by kernel_rfl) ?_
   exact aY hb26 (a33,c34) (cW rfl (qk rfl)) zs5
  refine aP ?_
  refine aq (ak hb26 (fun ht=>am rfl ?_))
  exact au ((a18,c19),(l13,l14,l17)) (jW rfl) (aZ aI (aZ aI (aZ (ap (ap aI)) bL))) ht.symm
 rintro ⟨⟨a23,c24⟩,⟨l20,l21,l25⟩⟩ τ hz;(try dsimp only at hz);subst q27;(try dsimp only at h);dsimp only [az]
 refine ag (ae h fun l98 hl98 h=>aa (aS 6 [] [206,207,208,209] [(210,pL eS l98),(211,pP b12 3)] (uz 4 eS 1 (fun _=>rfl) hl98 bx) (by kernel_rfl) (aN rfl rfl (aj (vs:=[pL eS l98]) rfl rfl rfl rfl rfl bV (cX (cX (cX kR))) (aB (bO (aa ?_)))))))
 refine jc (css:=List.map Zi.enc l25) (a:=a23) (by exact ap (ap aI)) ?_
 refine gB (k:=4) (enc:=Zi.enc) (xs:=l25) (b:=b12) (a:=a23) rfl eP (cG bV) (e9 2 [1] [(212,.agg [pS x5.1.Code,pI x5.1.Price,pB x5.1.Obtained,pL eS l98,pL Zi.enc l25]),(213,pL Za.enc l20)] (by kernel_rfl) (aN rfl rfl (aj (vs:=[pS x5.1.Code,pI x5.1.Price,pB x5.1.Obtained,pL eS l98,pL Zi.enc l25]) rfl rfl rfl rfl rfl (cG (cG bV)) zl (aG [(11,pL Za.enc l20)] (by kernel_rfl) (em ?_)))))
 obtain rfl:=osi h
 exact aQ (dp (cE rfl rn rfl) (aX rfl)) bL ⟨rfl,rfl⟩
def jO (p0:Zp) (p1:Zp):Option Bool:=(gd (!(((!decide (p0.Code=p1.Code))||(p0.Price != p1.Price))||(p0.Obtained != p1.Obtained))) (dH p0.Processes p1.Processes)).bind fun x3=>cond (((((!decide (p0.Code=p1.Code))||(p0.Price != p1.Price))||(p0.Obtained != p1.Obtained))||(!x3))||((p0.Inputs.length:Int) != (p1.Inputs.length:Int))) (some false) ((bf (S:=Int) (T:=(Unit)⊕(_)) (fun v5=>cond (decide (v5<(p0.Inputs.length:Int))) ((idx p0.Inputs v5).bind fun m9=>(idx p1.Inputs v5).bind fun m10=>cond (!(Zi.eqb m9 m10)) (some (.inr (.inr false))) (some (.inl (IntKind.i64.wrap (v5+1))))) (some (.inr (.inl ())))) FUEL 0).bind fun q=>match q with | .inl _=>some true | .inr e=>some e)
theorem rC {p0:Zp} {p1:Zp} {r:Bool}  (h:jO p0 p1=some r):PF 19 [.agg (eV p0),.agg (eV p1)] (pB r):=by
 unfold jO at h
 refine bk ?_
 refine ed Tryz.func19 rfl Tryz.ntmps19 Tryz.results19 rfl (aa (ai rfl (bM (cs:=(eV p0)) rfl rfl (fun b1=>ai rfl (bM (cs:=(eV p1)) rfl rfl (fun b2=>bm [4] (by kernel_rfl) (cY (ae h fun x3 hx3 h=>aw [1,0,1,0,1,0,1,0,1,0] (rg 6 35) [(41,pB (((((!decide (p0.Code=p1.Code))||(p0.Price != p1.Price))||(p0.Obtained != p1.Obtained))||(!x3))||((p0.Inputs.length:Int) != (p1.Inputs.length:Int))))] (ey 24 (fun hc=>iR (dB hx3 hc)) bx) (by kernel_rfl) (bT rfl h (fun hc4 h=>?_) fun hc4 h=>?_)))))))))
 ·refine ag ?_
  refine fm [(4,pB false)] (by kernel_rfl) (aA ?_)
  exact zz r h rfl
 refine ah ?_
 refine cY (an [(5,pI 0)] (by kernel_rfl) (gn h fun q7 hq7 h=>?_))
 refine ar (Y:=Unit×Unit) (fun (_,_)=>[]) (fun (_,_)=>[]) (fun (_,_)=>q7=Sum.inl ()) ?_ ?_
 ·refine aC ?_
  refine aJ (Y:=Unit) (S:=Int) _ hq7 (fun _ v5=>[(2,pP b1 0),(3,pP b2 0),(5,pI v5)]) (fun _ v5=>[PRes.b b1 36 (eV p0),PRes.b b2 36 (eV p1)]) () (lF rfl) (aZ (ap aI) cI) ?_
  rintro _ v5 o τ hb6;(try dsimp only at hb6);dsimp only [az]
  refine dU (bj [0] [42,43,44,45] [(46,pB (decide (v5<(p0.Inputs.length:Int))))] (by kernel_rfl) (bT rfl hb6 (fun hc8 hb6=>?_) fun hc8 hb6=>?_))
  ·refine ah ?_
   refine bO (gG (bJ (ρd:=[]) [(0,0),(1,0),(2,0),(3,0),(4,0),(5,0),(6,0),(7,0),(8,0),(9,0),(10,0)] _ (List.Perm.refl _) (by kernel_rfl) rfl (ae hb6 fun m9 hm9 hb6=>ae hb6 fun m10 hm10 hb6=>bR 11 [0,1] (rg 49 10) [(59,pB (!(Zi.eqb m9 m10)))] (db 3 Zi.enc hm9 (db 8 Zi.enc hm10 (xM 10 Zi.eqok103 bx))) (by kernel_rfl) (bW (bT rfl hb6 (fun hc11 hb6=>?_) fun hc11 hb6=>?_)))))
   ·refine ag ?_
    refine fm [(4,pB false)] (by kernel_rfl) (iX ?_)
    refine aW hb6 (fun ht=>?_);subst ht
    refine aL (aV ?_)
    exact zz r h rfl
   refine ah ?_
   refine fw (af [47,48] [(5,pI (IntKind.i64.wrap (v5+1)))] (by kernel_rfl) ?_)
   exact aY hb6 () (lF rfl) oA
  refine aP ?_
  refine aq (ak hb6 (fun ht=>am rfl ?_))
  exact au ((),()) mN bL ht.symm
 rintro ⟨_,_⟩ τ hz;(try dsimp only at hz);subst q7;(try dsimp only at h);dsimp only [az]
 refine ag (fm [(4,pB true)] (by kernel_rfl) ?_)
 exact zz r h rfl
def fi (p0:(List Za)) (p1:(List Za)):Option Bool:=cond ((p0.length:Int) != (p1.length:Int)) (some false) ((bf (S:=Int) (T:=(Unit)⊕(_)) (fun v2=>cond (decide (v2<(p0.length:Int))) ((idx p0 v2).bind fun m6=>(idx p1 v2).bind fun m7=>cond (!(Za.eqb m6 m7)) (some (.inr (.inr false))) (some (.inl (IntKind.i64.wrap (v2+1))))) (some (.inr (.inl ())))) FUEL 0).bind fun q=>match q with | .inl _=>some true | .inr e=>some e)
theorem mH {p0:(List Za)} {p1:(List Za)} {r:Bool}  (h:fi p0 p1=some r):PF 20 [pL Za.enc p0,pL Za.enc p1] (pB r):=by
 unfold fi at h
 refine bk ?_
 refine ed Tryz.func20 rfl Tryz.ntmps20 Tryz.results20 rfl (aU [4] (by kernel_rfl) (cY (af [6,7,8,9] [(10,pB ((p0.length:Int) != (p1.length:Int)))] (by kernel_rfl) (bT rfl h (fun hc1 h=>?_) fun hc1 h=>?_))))
 ·refine ag ?_
  refine fm [(4,pB false)] (by kernel_rfl) (aA ?_)
  exact zz r h rfl
 refine ah ?_
 refine cY (an [(5,pI 0)] (by kernel_rfl) (gn h fun q4 hq4 h=>?_))
 refine ar (Y:=Unit×Unit) (fun (_,_)=>[]) (fun (_,_)=>[]) (fun (_,_)=>q4=Sum.inl ()) ?_ ?_
 ·refine aC ?_
  refine aJ (Y:=Unit) (S:=Int) _ hq4 (fun _ v2=>[(0,pL Za.enc p0),(1,pL Za.enc p1),(5,pI v2)]) (fun _ v2=>[]) () (lF rfl) bL ?_
  rintro _ v2 o τ hb3;(try dsimp only at hb3);dsimp only [az]
  refine dU (af [11,12,13] [(14,pB (decide (v2<(p0.length:Int))))] (by kernel_rfl) (bT rfl hb3 (fun hc5 hb3=>?_) fun hc5 hb3=>?_))
  ·refine ah ?_
   refine bO (gG (bJ (ρd:=[]) [(0,0),(1,0),(2,0),(3,0),(4,0),(5,0),(6,0),(7,0),(8,0)] _ (List.Perm.refl _) (by kernel_rfl) rfl (ae hb3 fun m6 hm6 hb3=>ae hb3 fun m7 hm7 hb3=>bR 9 [] (rg 17 8) [(25,pB (!(Za.eqb m6 m7)))] (db 2 Za.enc hm6 (db 6 Za.enc hm7 (xM 8 Za.eqok28 bx))) (by kernel_rfl) (bW (bT rfl hb3 (fun hc8 hb3=>?_) fun hc8 hb3=>?_)))))
   ·refine ag ?_
    refine fm [(4,pB false)] (by kernel_rfl) (iX ?_)
    refine aW hb3 (fun ht=>?_);subst ht
    refine aL (aV ?_)
    exact zz r h rfl
   refine ah ?_
   refine fw (af [15,16] [(5,pI (IntKind.i64.wrap (v2+1)))] (by kernel_rfl) ?_)
   exact aY hb3 () (lF rfl) bL
  refine aP ?_
  refine aq (ak hb3 (fun ht=>am rfl ?_))
  exact au ((),()) mN bL ht.symm
 rintro ⟨_,_⟩ τ hz;(try dsimp only at hz);subst q4;(try dsimp only at h);dsimp only [az]
 refine ag (fm [(4,pB true)] (by kernel_rfl) ?_)
 exact zz r h rfl
def eM (p0:Int):Option Bool:=some ((decide (65≤p0))&&(decide (p0≤90)))
theorem gD {p0:Int} {r:Bool}  (h:eM p0=some r):PF 120 [pY p0] (pB r):=by
 unfold eM at h
 refine bk ?_
 refine ed Tryz.func120 rfl Tryz.ntmps120 Tryz.results120 rfl (aU [2] (by kernel_rfl) (bO (af (rg 3 6) [(2,pB ((decide (65≤p0))&&(decide (p0≤90))))] (by kernel_rfl) (em ?_))))
 exact zz r h rfl
def fj (p0:ByteArray):Option Bool:=(gd ((p0.size:Int) == 2) (idx p0.data.toList 0)).bind fun c1=>(gd ((p0.size:Int) == 2) (eM (c1.toNat:Int))).bind fun x2=>(gd (((p0.size:Int) == 2)&&x2) (idx p0.data.toList 1)).bind fun c3=>(gd (((p0.size:Int) == 2)&&x2) (eM (c3.toNat:Int))).bind fun x4=>some ((((p0.size:Int) == 2)&&x2)&&x4)
theorem jP {p0:ByteArray} {r:Bool}  (h:fj p0=some r):PF 72 [pS p0] (pB r):=by
 unfold fj at h
 refine bk ?_
 refine ed Tryz.func72 rfl Tryz.ntmps72 Tryz.results72 rfl (aU [2] (by kernel_rfl) (cU h fun c1 hc1 h=>ae h fun x2 hx2 h=>ae h fun c3 hc3 h=>ae h fun x4 hx4 h=>aw [] (rg 3 13) [(2,pB ((((p0.size:Int) == 2)&&x2)&&x4))] (fosxg 5 (dB hc1) (ey 6 (fun hc=>gD (dB hx2 hc)) (fosxg 10 (dB hc3) (ey 11 (fun hc=>gD (dB hx4 hc)) bx)))) (by kernel_rfl) (em ?_)))
 exact zz r h rfl
def fk (p0:(List ByteArray)):Option Bool:=(bf (S:=Int) (T:=(Unit)⊕(_)) (fun v1=>cond (decide (v1<(p0.length:Int))) ((idx p0 v1).bind fun m5=>(fj m5).bind fun x6=>(gd ((!(!x6))&&(decide (0<v1))) (idx p0 (IntKind.i64.wrap (v1 - 1)))).bind fun m7=>cond ((!x6)||((decide (0<v1))&&(Op.bytesLess m5.toList m7.toList||decide (m5=m7)))) (some (.inr (.inr false))) (some (.inl (IntKind.i64.wrap (v1+1))))) (some (.inr (.inl ())))) FUEL 0).bind fun q=>match q with | .inl _=>some true | .inr e=>some e
theorem jQ {p0:(List ByteArray)} {r:Bool}  (h:fk p0=some r):PF 111 [pL eS p0] (pB r):=by
 unfold fk at h
 refine bk ?_
 refine ed Tryz.func111 rfl Tryz.ntmps111 Tryz.results111 rfl (aU [2] (by kernel_rfl) (cY (an [(5,pL eS p0),(6,pI (p0.length:Int)),(7,pI 0)] (by kernel_rfl) (gn h fun q3 hq3 h=>?_))))
 refine ar (Y:=Unit×Unit) (fun (_,_)=>[]) (fun (_,_)=>[]) (fun (_,_)=>q3=Sum.inl ()) ?_ ?_
 ·refine aC ?_
  refine aJ (Y:=Unit) (S:=Int) _ hq3 (fun _ v1=>[(0,pL eS p0),(5,pL eS p0),(6,pI (p0.length:Int)),(7,pI v1)]) (fun _ v1=>[]) () (jW rfl) bL ?_
  rintro _ v1 o τ hb2;(try dsimp only at hb2);dsimp only [az]
  refine ag (an [(8,pB (decide (v1<(p0.length:Int))))] (by kernel_rfl) (bO (kq rfl hb2 (fun hc4 hb2=>?_) fun hc4 hb2=>?_)))
  ·refine ah ?_
   refine bO (gG (ae hb2 fun m5 hm5 hb2=>aw [] [9,10,11] [(3,pI v1),(4,pS m5)] (db 1 eS hm5 bx) (by kernel_rfl) (cU hb2 fun x6 hx6 hb2=>ae hb2 fun m7 hm7 hb2=>aw [] (rg 12 15) [(27,pB ((!x6)||((decide (0<v1))&&(Op.bytesLess m5.toList m7.toList||decide (m5=m7)))))] (bG 1 (jP hx6) (ia 11 eS (dB hm7) bx)) (by kernel_rfl) (bT rfl hb2 (fun hc8 hb2=>?_) fun hc8 hb2=>?_))))
   ·refine ag ?_
    refine fm [(2,pB false)] (by kernel_rfl) (iX ?_)
    refine aW hb2 (fun ht=>?_);subst ht
    refine aL (aV ?_)
    exact zz r h rfl
   refine ah ?_
   refine fw (af [28] [(7,pI (IntKind.i64.wrap (v1+1)))] (by kernel_rfl) ?_)
   exact aY hb2 () (jW rfl) bL
  refine aP ?_
  refine aq (ak hb2 (fun ht=>am rfl ?_))
  exact au ((),()) mN bL ht.symm
 rintro ⟨_,_⟩ τ hz;(try dsimp only at hz);subst q3;(try dsimp only at h);dsimp only [az]
 refine ag (fm [(2,pB true)] (by kernel_rfl) ?_)
 exact zz r h rfl
end SX
namespace SX
open Go
attribute [local irreducible] PWL PWC PWD POpL POpQ PEv PGuardIs PSub PPick PUpd PSplice PFill PLit PF PFV PCall FOk ec dE jy kx il jz Cov PHolds bf idx app mk gd lb nz i5 yt sub ll co kQ ro dT bQ mO rq IntKind.wrap Int.tmod Int.tdiv Op.bytesLess strOfNums
end SX
namespace SX
open Go
attribute [local irreducible] PWL PWC PWD POpL POpQ PEv PGuardIs PSub PPick PUpd PSplice PFill PLit PF PFV PCall FOk ec dE jy kx il jz Cov PHolds bf idx app mk gd lb nz i5 yt sub ll co kQ ro dT bQ mO rq IntKind.wrap Int.tmod Int.tdiv Op.bytesLess strOfNums
end SX
namespace SX
open Go
abbrev bl (s:ByteArray):List UInt8:=s.data.toList
theorem bl_hi (s:ByteArray) (k:Nat):bl (s.extract 0 k)=(bl s).take k:=by simp [bl]
theorem bl_lo (s:ByteArray) (k:Nat):bl (s.extract k s.size)=(bl s).drop k:=by
  simp only [bl,ByteArray.data_extract,Array.toList_extract,List.extract_eq_take_drop]
  rw [List.take_of_length_le];simp
theorem jl (s:ByteArray):s.size=(bl s).length:=by simp [bl]
theorem bl_inj {s u:ByteArray} (h:bl s=bl u):s=u:=by
  obtain ⟨⟨x⟩⟩:=s;obtain ⟨⟨y⟩⟩:=u;simp [bl] at h;subst h;rfl
def jR (n:Nat):Bool:=decide (48≤n∧n≤57)
def eg (p:Nat→Bool):List Value:=(List.range 256).map fun i=>.bool (p i)
theorem dW (p:Nat→Bool):(eg p).length=256:=by simp [eg]
theorem jm (p:Nat→Bool) {j:Nat} (h:j<256):(eg p)[j]?=some (.bool (p j)):=by simp [eg,h]
theorem tq (p q:Nat→Bool) {j:Nat} (h:∀ i,q i=(decide (i=j)||p i)):(eg p).set j (.bool true)=eg q:=by
  apply List.ext_getElem?
  intro i
  rw [List.getElem?_set]
  simp only [dW]
  rcases Nat.lt_or_ge i 256 with hi | hi
  · rw [jm q hi,jm p hi,h i]
    by_cases e:j=i
    · subst e;simp [hi]
    · rw [if_neg e];simp [show ¬ i=j from fun h=>e h.symm]
  · rw [List.getElem?_eq_none (by rw [dW];exact hi),List.getElem?_eq_none (by rw [dW];exact hi)]
    split
    · rw [if_neg (by omega)]
    · rfl
section
variable {o:Oper} {σ:Env} {ρ:List Res} {κ:Kr} {c:Bool} {x y:Operand} {K:Value→List Res→Kr→Prop}
theorem Sh.at1 {b k:Nat} {cs:List Value} {v:Value} (h:Sh κ b 0 cs) (hv:cs[k]?=some v):Sh κ b (0+k*1) [v]:=⟨h.1,fun j u hu=>by
  cases j with
  | zero=>simp at hu;subst hu;have:=h.2 k v hv;simpa using this
  | succ j=>simp at hu⟩
theorem uN {t b T sz by':Nat} {cs:List Value} {z:Value} {d:TypeDesc} (ho:o.op=.load t x) (hx:Ev σ c x (.pointer (some ⟨b,0,none⟩))) (hm:Res.b b T cs∈ρ) (hd:dw t=some d) (ha:iW d=true) (hi:eE t=some (z,sz,by')) (hl:cs.length=sz):OpQ c o σ ρ κ (.agg cs.toArray):=by
  refine rK ho hx hm ?_
  unfold gJ
  simp only [hd,hi,ha,cond_true,List.drop_zero]
  rw [Nat.ble_eq_true_of_le (by omega)]
  simp [← hl]
end
attribute [local irreducible] WL WC WD OpL OpQ OpG Ev GuardIs vn iV yL Call CallP midK pW Holds pz Sub Pick WS Step Lit Upd SetAt SpliceAt FillR Sh LateRun
theorem oE (κ:Kr) (b:Nat) (p:Nat→Bool) (m:Int) (hs:Sh κ b 0 (eg p)) (h0:0≤m) (h1:m≤255):CallP 204 [.pointer (some ⟨b,0,none⟩),.int .u8 m] κ fun v _=>v=.bool (p m.toNat):=by
  (unfold CallP;apply kX Tryz.func204 (AN Tryz.func204 rfl) rfl Tryz.ntmps204 Tryz.results204 rfl)
  repeat (first | (first | (apply dr rfl rfl rfl;(focus (first | exact bE (v:=(.int _ _)) rfl (.p rfl) | exact bE (v:=(.pointer _)) rfl (.p rfl) | exact bP (v:=(.bool _)) rfl (.p rfl) | exact lL rfl (.p rfl)))) | apply cj) | (first | apply cK | apply bp | apply cJ))
  apply dr rfl rfl rfl (rP (j:=m.toNat) rfl rfl rfl (.p rfl) (.p rfl) (fun _=>by omega) (fun _=>by omega))
  apply dr rfl rfl rfl (nW rfl (.p rfl) (fun _=>(hs.mono (by (repeat (exact Kle.refl _)))).at1 (jm p (by omega))) rfl)
  repeat (first | (first | (apply dr rfl rfl rfl;(focus (exact bP (v:=(.bool _)) rfl (.p rfl)))) | apply cj) | (first | apply cJ | apply jt))
  exact kh (sM (v:=.bool _) rfl) .none ⟨rfl,rfl⟩
def gi:ByteArray:=⟨#[48,49,50,51,52,53,54,55,56,57]⟩
theorem tu:∀ {k:Nat},k<10→((gi.data.toList.getD k 0).toNat:Int)=48+(k:Int):=by decide
theorem z1 (κ:Kr):CallP 180 [.string gi] κ fun v _=>v=.tuple #[.agg (eg jR).toArray,.bool true]:=by
  (unfold CallP;apply kX Tryz.func180 (AN Tryz.func180 rfl) rfl Tryz.ntmps180 Tryz.results180 rfl)
  repeat (first | (first | (apply dr rfl rfl rfl;(focus (first | exact bP (v:=(.int _ _)) rfl (.p rfl) | exact bP (v:=(.bool _)) rfl (.p rfl)))) | (apply tQ rfl rfl rfl;apply rL rfl rfl;intro _ _ _) | apply cj) | (first | apply cK | apply bp | apply gI | apply cJ))
  rename_i b2 κ1 _
  have e0:List.replicate 256 (Value.bool false)=eg (fun i=>decide (48≤i∧i<48+0)):=by
    apply List.ext_getElem?
    intro i
    rcases Nat.lt_or_ge i 256 with hi | hi
    · rw [jm _ hi,List.getElem?_replicate,if_pos hi];congr 2;symm;rw [decide_eq_false_iff_not];omega
    · rw [List.getElem?_eq_none (by simpa using hi),List.getElem?_eq_none (by rw [dW];exact hi)]
  rw [e0]
  refine nt (X:=Nat) (fun k=>[(0,.string gi),(2,.pointer (some ⟨b2,0,none⟩)),(4,.int .i64 (k:Int))]) (fun k=>[Res.b b2 243 (eg fun i=>decide (48≤i∧i<48+k))]) (fun k _=>k≤10) (fun k=>10 - k) 0 (by (repeat (first | exact Holds.nil | apply Holds.cons rfl))) (by (repeat (first | exact Sub.nil | (apply Sub.cons;(focus (repeat (exact Pick.h))))))) (by omega) ?_
  intro k τ κ2 _ hk
  simp only [pz]
  repeat (first | (first | (apply dr rfl rfl rfl;(focus (first | exact bE (v:=(.int _ _)) rfl (.p rfl) | exact bE (v:=(.string _)) rfl (.p rfl) | exact kU rfl (.p rfl) (.p rfl) rfl | exact j7 rfl rfl (.p rfl)))) | apply cj) | (first | apply cK | apply bp | apply cJ))
  apply sN rfl <;> intro hc
  · have hk10:k<10:=by
      have e:(gi.size:Int)=10:=rfl
      rw [e] at hc;omega
    repeat (first | (apply dr rfl rfl rfl;(focus (first | exact bE (v:=(.int _ _)) rfl (.p rfl) | exact bE (v:=(.string _)) rfl (.p rfl)))) | (first | apply cK | apply bp | apply gI | apply cJ | apply gH))
    apply dr rfl rfl rfl (ku (s:=gi) (j:=k) rfl rfl (.p rfl) (.p rfl) (fun _=>rfl) (fun _=>hk10))
    rw [tu hk10]
    repeat (first | (first | (apply dr rfl rfl rfl;(focus (first | exact bE (v:=(.int _ _)) rfl (.p rfl) | exact bP (v:=(.int _ _)) rfl (.p rfl) | exact kU rfl (.p rfl) (.p rfl) rfl))) | apply cj) | (first | apply cK | apply bp | apply cJ))
    apply yC (by have:¬ (128:Int)≤48+(k:Int):=by omega
                 simp [ev,upd,this])
    repeat (first | (apply dr rfl rfl rfl;(focus (exact bE (v:=(.int _ _)) rfl (.p rfl)))) | (first | apply bp | apply cJ | apply gH))
    apply dr rfl rfl rfl (rP (j:=48+k) rfl rfl rfl (.p rfl) (.p rfl) (fun _=>by omega) (fun _=>by omega))
    apply wy rfl rfl
    apply xz (v:=.bool true) rfl rfl rfl rfl rfl rfl (by (repeat (exact Upd.h))) (by rw [dW];omega)
    intro κ3 _
    have e1:(eg fun i=>decide (48≤i∧i<48+k)).set (0+(48+k)*1) (.bool true)=eg fun i=>decide (48≤i∧i<48+(k+1)) :=
      tq _ _ fun i=>by rw [Bool.eq_iff_iff];simp;omega
    rw [e1]
    repeat (first | (first | (apply dr rfl rfl rfl;(focus (first | exact bE (v:=(.int _ _)) rfl (.p rfl) | exact bP (v:=(.int _ _)) rfl (.p rfl) | exact kV rfl (.p rfl) (.p rfl) rfl (fun _=>by omega)))) | apply cj) | (first | apply bp | apply cJ | apply mv))
    exact sL (k+1) (by (repeat (first | exact Holds.nil | apply Holds.cons rfl))) (by (repeat (first | exact Sub.nil | (apply Sub.cons;(focus (repeat (exact Pick.h))))))) (by omega) (by omega)
  · have hk10:k=10:=by
      have e:(gi.size:Int)=10:=rfl
      rw [e] at hc;omega
    subst hk10
    have e2:(fun i=>decide (48≤i∧i<48+10))=jR:=by funext i;simp only [jR];rw [Bool.eq_iff_iff];simp;omega
    rw [e2]
    apply kT;apply ig;apply gA;apply ii rfl;apply cJ;apply cK;apply bp
    apply dr rfl rfl rfl (uN rfl (.p rfl) (by (repeat (exact List.Mem.head _))) rfl rfl rfl (dW _))
    apply wy rfl rfl
    apply rM rfl rfl rfl rfl (dW _) (by simp [eg,Value.oneCell']) (by (repeat (exact Upd.h))) rfl
    intro κ3 _
    repeat (first | (first | (apply dr rfl rfl rfl;(focus (exact bP (v:=(.bool _)) rfl (.p rfl)))) | apply cj) | (first | apply cJ | apply jt))
    refine kh (rv_2 (RV1.cell rfl (by (repeat (exact List.Mem.head _))) ?_) (rv1_t (v:=.bool _) rfl)) .none ⟨rfl,rfl⟩
    unfold gJ
    simp only [show dw 243=some (.array 256 4) from rfl,show eE 243=some (.agg (List.replicate 256 (.bool false)).toArray,256,256) from rfl,iW,cond_true,List.drop_zero,dW]
    rw [List.take_of_length_le (by rw [dW];omega)];rfl
theorem pu {l:List UInt8} {j:Nat} (h:j<l.length):l.getD j 0=l[j]:=by simp [List.getD_eq_getElem?_getD,h]
theorem tv (κ:Kr) (b:Nat) (s:ByteArray) (hs:Sh κ b 0 (eg jR)) (hz:s.size≤1000000000):CallP 182 [.string s,.pointer (some ⟨b,0,none⟩)] κ fun v _=>∃ u k,v=.string u∧bl u=(bl s).take k∧k≤(bl s).length∧(∀ c∈(bl s).drop k,jR c.toNat=true)∧(∀ c,(bl u).getLast?=some c→jR c.toNat=false):=by
  (unfold CallP;apply kX Tryz.func182 (AN Tryz.func182 rfl) rfl Tryz.ntmps182 Tryz.results182 rfl)
  repeat (first | (first | (apply dr rfl rfl rfl;(focus (exact bP (v:=(.string _)) rfl (.p rfl)))) | apply cj) | (first | apply cK | apply bp | apply gI | apply cJ))
  refine nt (X:=ByteArray×Nat) (fun z=>[(0,.string z.1),(1,.pointer (some ⟨b,0,none⟩))]) (fun _=>[]) (fun z _=>bl z.1=(bl s).take z.2∧z.2≤(bl s).length∧∀ c∈(bl s).drop z.2,jR c.toNat=true) (fun z=>z.2) (s,(bl s).length) (by (repeat (first | exact Holds.nil | apply Holds.cons rfl))) (by (repeat (exact Sub.nil))) ⟨(List.take_length).symm,Nat.le_refl _,by rw [List.drop_length];simp⟩ ?_
  rw [jl] at hz
  rintro ⟨u,k⟩ τ κ2 _ ⟨h1,h2,h3⟩
  dsimp only at h1 h2 h3
  have hsz:u.size=k:=by rw [jl,h1,List.length_take];omega
  simp only [pz]
  repeat (first | (first | (apply dr rfl rfl rfl;(focus (first | exact bE (v:=(.string _)) rfl (.p rfl) | exact kU rfl (.p rfl) (.p rfl) rfl | exact j7 rfl rfl (.p rfl)))) | apply cj) | (first | apply cK | apply bp | apply cJ))
  apply sN rfl <;> intro hc
  · have hk0:0<k:=by omega
    repeat (first | (apply dr rfl rfl rfl;(focus (first | exact bE (v:=(.pointer _)) rfl (.p rfl) | exact bE (v:=(.string _)) rfl (.p rfl) | exact kV rfl (.p rfl) (.p rfl) rfl (fun _=>by omega) | exact j7 rfl rfl (.p rfl)))) | (first | apply cK | apply bp | apply gI | apply cJ | apply gH))
    apply dr rfl rfl rfl (ku (j:=k - 1) rfl rfl (.p rfl) (.p rfl) (fun _=>by omega) (fun _=>by omega))
    have hlast:(bl u).getLast?=some ((bl u).getD (k - 1) 0):=by
      rw [List.getLast?_eq_getElem?,← jl,hsz,pu (by rw [← jl];omega),List.getElem?_eq_getElem]
    apply tQ rfl rfl rfl;apply ju rfl rfl (oE _ b jR ((u.data.toList.getD (k - 1) 0).toNat:Int) (hs.mono (by (repeat (assumption)))) (by omega) (by have:=(u.data.toList.getD (k - 1) 0).toNat_lt;omega))
    rintro v κ3 _ rfl
    repeat (first | (first | (apply dr rfl rfl rfl;(focus (exact vp rfl (.p rfl)))) | apply cj) | (apply cJ))
    rw [Int.toNat_natCast]
    apply ja rfl <;> intro hb
    · repeat (first | (first | (apply dr rfl rfl rfl;(focus (first | exact bE (v:=(.string _)) rfl (.p rfl) | exact bP (v:=(.string _)) rfl (.p rfl)))) | apply cj) | (first | apply cK | apply bp | apply cJ | apply jt | apply kT | apply ig | apply ii rfl | apply pV rfl | apply gA))
      refine kh (sM (v:=.string _) rfl) .none ⟨rfl,u,k,rfl,h1,h2,h3,fun c hc=>?_⟩
      rw [hlast] at hc;injection hc with hc;subst hc;simpa using hb
    · repeat (first | (apply dr rfl rfl rfl;(focus (first | exact bE (v:=(.string _)) rfl (.p rfl) | exact kV rfl (.p rfl) (.p rfl) rfl (fun _=>by omega) | exact j7 rfl rfl (.p rfl)))) | (first | apply bp | apply cJ | apply gH))
      apply dr rfl rfl rfl (ox (h:=k - 1) rfl rfl (.p rfl) (.p rfl) (fun _=>by omega) (fun _=>by omega))
      repeat (first | (first | (apply dr rfl rfl rfl;(focus (exact bP (v:=(.string _)) rfl (.p rfl)))) | apply cj) | (apply mv))
      refine sL (u.extract 0 (k - 1),k - 1) (by (repeat (first | exact Holds.nil | apply Holds.cons rfl))) (by (repeat (exact Sub.nil))) ⟨?_,by ((try dsimp only at *) <;> omega),?_⟩ (by ((try dsimp only at *) <;> omega))
      · rw [bl_hi,h1,List.take_take];congr 1;omega
      · intro c hc
        rw [List.drop_eq_getElem_cons (by omega)] at hc
        rcases List.mem_cons.1 hc with rfl | hc
        · have e:(bl u).getD (k - 1) 0=(bl s)[k - 1]'(by omega):=by
            rw [pu (by rw [← jl];omega)];simp [h1]
          rw [← e];simpa using hb
        · rw [show k - 1+1=k by omega] at hc;exact h3 c hc
  · repeat (first | (first | (apply dr rfl rfl rfl;(focus (first | exact bE (v:=(.string _)) rfl (.p rfl) | exact bP (v:=(.string _)) rfl (.p rfl)))) | apply cj) | (first | apply cK | apply bp | apply cJ | apply jt | apply kT | apply ig | apply ii rfl | apply gA))
    refine kh (sM (v:=.string _) rfl) .none ⟨rfl,u,k,rfl,h1,h2,h3,fun c hc'=>?_⟩
    have:bl u=[]:=List.eq_nil_of_length_eq_zero (by rw [← jl];omega)
    rw [this] at hc';cases hc'
end SX
namespace SX
open Go
attribute [local irreducible] WL WC WD OpL OpQ OpG Ev GuardIs vn iV yL Call CallP midK pW Holds pz Sub Pick WS Step Lit Upd SetAt SpliceAt FillR Sh LateRun
theorem uO (κ:Kr) (b:Nat) (s:ByteArray) (hs:Sh κ b 0 (eg jR)):CallP 181 [.string s,.pointer (some ⟨b,0,none⟩)] κ fun v _=>∃ u k,v=.string u∧bl u=(bl s).drop k∧k≤(bl s).length∧(∀ c∈(bl s).take k,jR c.toNat=true)∧(∀ c,(bl u).head?=some c→jR c.toNat=false):=by
  (unfold CallP;apply kX Tryz.func181 (AN Tryz.func181 rfl) rfl Tryz.ntmps181 Tryz.results181 rfl)
  repeat (first | (first | (apply dr rfl rfl rfl;(focus (exact bP (v:=(.string _)) rfl (.p rfl)))) | apply cj) | (first | apply cK | apply bp | apply gI | apply cJ))
  refine nt (X:=ByteArray×Nat) (fun z=>[(0,.string z.1),(1,.pointer (some ⟨b,0,none⟩))]) (fun _=>[]) (fun z _=>bl z.1=(bl s).drop z.2∧z.2≤(bl s).length∧∀ c∈(bl s).take z.2,jR c.toNat=true) (fun z=>(bl s).length - z.2) (s,0) (by (repeat (first | exact Holds.nil | apply Holds.cons rfl))) (by (repeat (exact Sub.nil))) ⟨rfl,Nat.zero_le _,by simp⟩ ?_
  rintro ⟨u,k⟩ τ κ2 _ ⟨h1,h2,h3⟩
  dsimp only at h1 h2 h3
  have hsz:u.size=(bl s).length - k:=by rw [jl,h1,List.length_drop]
  simp only [pz]
  repeat (first | (first | (apply dr rfl rfl rfl;(focus (first | exact bE (v:=(.string _)) rfl (.p rfl) | exact kU rfl (.p rfl) (.p rfl) rfl | exact j7 rfl rfl (.p rfl)))) | apply cj) | (first | apply cK | apply bp | apply cJ))
  apply sN rfl <;> intro hc
  · have hk0:k<(bl s).length:=by omega
    have hu0:0<(bl u).length:=by rw [← jl];omega
    repeat (first | (apply dr rfl rfl rfl;(focus (first | exact bE (v:=(.pointer _)) rfl (.p rfl) | exact bE (v:=(.string _)) rfl (.p rfl)))) | (first | apply cK | apply bp | apply gI | apply cJ | apply gH))
    apply dr rfl rfl rfl (ku (j:=0) rfl rfl (.p rfl) (.p rfl) (fun _=>by omega) (fun _=>by omega))
    have hhead:(bl u).head?=some ((bl u).getD 0 0):=by
      rw [List.head?_eq_getElem?,pu hu0,List.getElem?_eq_getElem hu0]
    apply tQ rfl rfl rfl;apply ju rfl rfl (oE _ b jR ((u.data.toList.getD 0 0).toNat:Int) (hs.mono (by (repeat (assumption)))) (by omega) (by have:=(u.data.toList.getD 0 0).toNat_lt;omega))
    rintro v κ3 _ rfl
    repeat (first | (first | (apply dr rfl rfl rfl;(focus (exact vp rfl (.p rfl)))) | apply cj) | (apply cJ))
    rw [Int.toNat_natCast]
    apply ja rfl <;> intro hb
    · repeat (first | (first | (apply dr rfl rfl rfl;(focus (first | exact bE (v:=(.string _)) rfl (.p rfl) | exact bP (v:=(.string _)) rfl (.p rfl)))) | apply cj) | (first | apply cK | apply bp | apply cJ | apply jt | apply kT | apply ig | apply ii rfl | apply pV rfl | apply gA))
      refine kh (sM (v:=.string _) rfl) .none ⟨rfl,u,k,rfl,h1,h2,h3,fun c hc=>?_⟩
      rw [hhead] at hc;injection hc with hc;subst hc;simpa using hb
    · repeat (first | (apply dr rfl rfl rfl;(focus (exact bE (v:=(.string _)) rfl (.p rfl)))) | (first | apply bp | apply cJ | apply gH))
      apply dr rfl rfl rfl (oy (l:=1) rfl rfl (.p rfl) (.p rfl) (fun _=>by omega) (fun _=>by omega))
      repeat (first | (first | (apply dr rfl rfl rfl;(focus (exact bP (v:=(.string _)) rfl (.p rfl)))) | apply cj) | (apply mv))
      refine sL (u.extract 1 u.size,k+1) (by (repeat (first | exact Holds.nil | apply Holds.cons rfl))) (by (repeat (exact Sub.nil))) ⟨?_,by ((try dsimp only at *) <;> omega),?_⟩ (by ((try dsimp only at *) <;> omega))
      · rw [bl_lo,h1,List.drop_drop]
      · intro c hc
        rw [List.take_add_one] at hc
        rcases List.mem_append.1 hc with hc | hc
        · exact h3 c hc
        · have e:(bl u).getD 0 0=(bl s)[k]'hk0:=by rw [pu hu0];simp [h1]
          rw [List.getElem?_eq_getElem hk0] at hc
          simp only [Option.toList_some,List.mem_cons,List.not_mem_nil,or_false] at hc
          subst hc;rw [← e];simpa using hb
  · repeat (first | (first | (apply dr rfl rfl rfl;(focus (first | exact bE (v:=(.string _)) rfl (.p rfl) | exact bP (v:=(.string _)) rfl (.p rfl)))) | apply cj) | (first | apply cK | apply bp | apply cJ | apply jt | apply kT | apply ig | apply ii rfl | apply gA))
    refine kh (sM (v:=.string _) rfl) .none ⟨rfl,u,k,rfl,h1,h2,h3,fun c hc'=>?_⟩
    have:bl u=[]:=List.eq_nil_of_length_eq_zero (by rw [← jl];omega)
    rw [this] at hc';cases hc'
def lY (s:ByteArray):Bool:=(bl s).all fun c=>jR c.toNat
theorem sc {s:ByteArray}:s=⟨#[]⟩↔bl s=[]:=⟨fun h=>by rw [h],fun h=>bl_inj (by rw [h])⟩
theorem trim_ok (κ:Kr) (s:ByteArray) (hz:s.size≤1000000000):CallP 156 [.string s,.string gi] κ fun v _=>∃ u,v=.string u∧(u=⟨#[]⟩↔lY s=true):=by
  (unfold CallP;apply kX Tryz.func156 (AN Tryz.func156 rfl) rfl Tryz.ntmps156 Tryz.results156 rfl)
  repeat (first | (first | (apply dr rfl rfl rfl;(focus (first | exact bE (v:=(.bool _)) rfl (.p rfl) | exact bE (v:=(.string _)) rfl (.p rfl) | exact bP (v:=(.string _)) rfl (.p rfl) | exact oq_or rfl (.p rfl) (.p rfl) (.g rfl) | exact sE rfl (.p rfl) (.p rfl) rfl))) | (apply pC;(focus (exact wx rfl rfl rfl));rfl;rfl;(focus (first | (apply bE (v:=(.string _)) rfl;(focus (exact Ev.p rfl))) | (apply sE rfl (by (focus (exact Ev.g rfl))) (by (focus (exact Ev.p rfl)));rfl)))) | apply cj) | (first | apply cK | apply bp | apply cJ))
  apply ja rfl <;> intro hb
  · repeat (first | (first | (apply dr rfl rfl rfl;(focus (first | exact bE (v:=(.string _)) rfl (.p rfl) | exact bP (v:=(.string _)) rfl (.p rfl)))) | apply cj) | (first | apply cK | apply bp | apply cJ | apply jt | apply nY))
    have:s=⟨#[]⟩:=by simpa [gi] using hb
    refine kh (sM (v:=.string _) rfl) .none ⟨rfl,s,rfl,?_⟩
    subst this;simp [lY,bl]
  · have hne:¬ bl s=[]:=fun h=>by rw [sc.2 h] at hb;simp at hb
    repeat (first | (first | (apply dr rfl rfl rfl;(focus (first | exact bE (v:=(.bool _)) rfl (.p rfl) | exact bE (v:=(.string _)) rfl (.p rfl) | exact kU rfl (.p rfl) (.p rfl) rfl | exact j7 rfl rfl (.p rfl)))) | (apply pC;(focus (exact kS rfl rfl rfl));rfl;rfl;(focus (apply bE (v:=(.string _)) rfl;(focus (exact Ev.p rfl)))))) | (first | apply cK | apply bp | apply cJ | apply gH))
    apply pC;(focus (exact kS rfl rfl rfl));rfl;rfl;exact ku (s:=gi) (j:=0) rfl rfl (.g rfl) (.p rfl) (fun _=>rfl) (fun _=>by decide)
    repeat (first | (first | (apply dr rfl rfl rfl;(focus (exact vo rfl (.p rfl) (.p rfl) (.g rfl)))) | (apply pC;(focus (exact kS rfl rfl rfl));rfl;rfl;(focus (apply kU rfl (by (focus (exact Ev.g rfl))) (by (focus (exact Ev.p rfl)));rfl))) | apply cj) | (apply cJ))
    apply ja rfl <;> intro hb2
    · have e:(gi.size:Int)=10:=rfl
      rw [e] at hb2;simp at hb2
    repeat (first | (apply dr rfl rfl rfl;(focus (exact bE (v:=(.string _)) rfl (.p rfl)))) | (first | apply cK | apply bp | apply cJ | apply gH))
    refine wl_fun rfl rfl rfl rfl rfl (z1 _) fun κ1 _=>?_
    repeat (first | (first | (apply dr rfl rfl rfl;(focus (first | exact bE (v:=(.bool _)) rfl (.p rfl) | exact bE (v:=(.tuple _)) rfl (.p rfl) | exact bP (v:=(.bool _)) rfl (.p rfl) | exact pD rfl (.p rfl) rfl))) | (apply tQ rfl rfl rfl;apply rL rfl rfl;intro _ _ _) | (apply wy rfl rfl;apply rM rfl rfl rfl rfl rfl rfl;(focus (repeat (exact Upd.h)));rfl;intro _ _) | apply cj) | (first | apply cK | apply bp | apply cJ))
    rename_i b5 _ _ _ _
    apply wc_pub (b:=b5) Pick.h rfl;intro κ3 _ hS hsays
    have hset:=yY hS hsays
    apply yB rfl
    repeat (first | (apply dr rfl rfl rfl;(focus (exact bE (v:=(.string _)) rfl (.p rfl)))) | (first | apply cK | apply bp))
    apply tQ rfl rfl rfl;apply ju rfl rfl (tv _ b5 s (hset.mono (by (repeat (exact Kle.refl _)))) hz)
    rintro v κ4 _ ⟨u,k,rfl,h1,h2,h3,h4⟩
    apply tQ rfl rfl rfl;apply ju rfl rfl (uO _ b5 u (hset.mono (by (repeat (assumption)))))
    rintro v κ5 _ ⟨u2,k2,rfl,g1,g2,g3,g4⟩
    repeat (first | (first | (apply dr rfl rfl rfl;(focus (exact bP (v:=(.string _)) rfl (.p rfl)))) | apply cj) | (first | apply cJ | apply jt | apply nY))
    refine kh (sM (v:=.string _) rfl) .none ⟨rfl,u2,rfl,?_⟩
    rw [sc]
    unfold lY
    rw [List.all_eq_true]
    constructor
    · intro h
      have hk2:k2=(bl u).length:=by
        have:=congrArg List.length (g1.symm.trans h);simp only [List.length_drop,List.length_nil] at this;omega
      intro c hc
      rw [← List.take_append_drop k (bl s)] at hc
      rcases List.mem_append.1 hc with hc | hc
      · rw [← h1] at hc;rw [hk2,List.take_length] at g3;exact g3 c hc
      · exact h3 c hc
    · intro h
      have hu:bl u=[]:=by
        rcases List.eq_nil_or_concat (bl u) with hu | ⟨l,c,hu⟩
        · exact hu
        · have hc:=h4 c (by rw [hu];simp)
          have hm:c∈bl s:=List.mem_of_mem_take (i:=k) (by rw [← h1,hu];simp)
          rw [h c hm] at hc;cases hc
      rw [g1,hu];simp
def Glob (κ:Kr):Prop:=Sh κ 0 0 [.int .i64 2,.int .i64 4,.int .i64 6,.int .i64 8]
theorem Glob.mono {κ κ':Kr} (h:Glob κ) (k:Kle κ κ'):Glob κ':=Sh.mono h k
def gY (s:ByteArray):Int:=if (s.size=2∨s.size=4∨s.size=6∨s.size=8)∧lY s=true then (s.size:Int) else 0
theorem gv_some {c:Bool} {v:Value} {P:ByteArray→Prop} (h:c=true→∃ u,v=.string u∧P u):∃ u,gv c v=gv c (.string u)∧(c=true→P u):=by
  cases c
  · exact ⟨⟨#[]⟩,by rw [fQ,fQ],fun h=>by cases h⟩
  · obtain ⟨u,rfl,h2⟩:=h rfl;exact ⟨u,rfl,fun _=>h2⟩
theorem z2 (κ:Kr) (s:ByteArray) (hg:Glob κ):CallP 109 [.string s] κ fun v _=>v=.int .i64 (gY s):=by
  (unfold CallP;apply kX Tryz.func109 (AN Tryz.func109 rfl) rfl Tryz.ntmps109 Tryz.results109 rfl)
  repeat (first | (first | (apply dr rfl rfl rfl;(focus (exact bP (v:=(.int _ _)) rfl (.p rfl)))) | apply cj) | (first | apply cK | apply bp | apply cJ))
  apply dr rfl rfl rfl (nW rfl (.p rfl) (fun _=>hg) rfl)
  repeat (first | (first | (apply dr rfl rfl rfl;(focus (exact bE (v:=(.int _ _)) rfl (.p rfl)))) | apply cj) | (first | apply gI | apply cJ))
  refine nt (X:=Nat) (fun k=>[(0,.string s),(5,.agg #[.int .i64 2,.int .i64 4,.int .i64 6,.int .i64 8]),(6,.int .i64 (k:Int))]) (fun _=>[]) (fun k _=>k≤4∧∀ j,j<k→¬ (s.size=2*(j+1)∧lY s=true)) (fun k=>4 - k) 0 (by (repeat (first | exact Holds.nil | apply Holds.cons rfl))) (by (repeat (exact Sub.nil))) ⟨by omega,by omega⟩ ?_
  rintro k τ κ1 _ ⟨hk,hno⟩
  simp only [pz]
  repeat (first | (first | (apply dr rfl rfl rfl;(focus (exact kU rfl (.p rfl) (.p rfl) rfl))) | apply cj) | (first | apply cK | apply bp | apply cJ))
  apply sN rfl <;> intro hc
  · have hk4:k<4:=by omega
    repeat (first | apply cK | apply bp | apply gI | apply cJ | apply gH)
    apply dr rfl rfl rfl (xy (cs:=[.int .i64 2,.int .i64 4,.int .i64 6,.int .i64 8]) (v:=.int .i64 (2*((k:Int)+1))) (j:=k) rfl rfl rfl rfl rfl (.p rfl) (.p rfl) (fun _=>rfl) (fun _=>hk4) (fun _=>by
      have:k=0∨k=1∨k=2∨k=3:=by omega
      rcases this with rfl | rfl | rfl | rfl <;> rfl))
    repeat (first | (first | (apply dr rfl rfl rfl;(focus (first | exact bE (v:=(.int _ _)) rfl (.p rfl) | exact bE (v:=(.bool _)) rfl (.p rfl) | exact bE (v:=(.string _)) rfl (.p rfl) | exact bP (v:=(.int _ _)) rfl (.p rfl) | exact kU rfl (.p rfl) (.p rfl) rfl | exact j7 rfl rfl (.p rfl)))) | (apply pC;(focus (exact kS rfl rfl rfl));rfl;rfl;(focus (apply bE (v:=(.string _)) rfl;(focus (exact Ev.p rfl))))) | apply cj) | (first | apply cK | apply bp | apply cJ))
    apply wl_g;(focus (exact kS rfl rfl rfl));rfl;rfl
    refine tU rfl (ar2 (.g rfl) (.p rfl)) (fun hcc=>trim_ok _ s (by simp at hcc;omega)) fun v κ2 _ hv=>?_
    obtain ⟨u,hu,hP⟩:=gv_some hv
    rw [hu]
    repeat (first | (first | (apply dr rfl rfl rfl;(focus (exact vo rfl (.p rfl) (.p rfl) (.g rfl)))) | (apply pC;(focus (exact kS rfl rfl rfl));rfl;rfl;(focus (apply sE rfl (by (focus (exact Ev.g rfl))) (by (focus (exact Ev.p rfl)));rfl))) | apply cj) | (apply cJ))
    apply ja rfl <;> intro hb
    · simp only [Bool.and_eq_true,beq_iff_eq,decide_eq_true_eq] at hb
      have hd:lY s=true:=(hP (by simpa using hb.1)).1 hb.2
      repeat (first | (first | (apply dr rfl rfl rfl;(focus (first | exact bE (v:=(.int _ _)) rfl (.p rfl) | exact bP (v:=(.int _ _)) rfl (.p rfl)))) | apply cj) | (first | apply cK | apply bp | apply cJ | apply jt | apply nY | apply t7 | apply vr))
      refine kh (sM (v:=.int _ _) rfl) .none ⟨rfl,?_⟩
      show Value.int .i64 (2*((k:Int)+1))=.int .i64 (gY s)
      unfold gY
      rw [if_pos ⟨by omega,hd⟩,← hb.1]
    · repeat (first | (first | (apply dr rfl rfl rfl;(focus (first | exact bE (v:=(.int _ _)) rfl (.p rfl) | exact kV rfl (.p rfl) (.p rfl) rfl (fun _=>by omega)))) | apply cj) | (first | apply bp | apply cJ | apply gH | apply mv))
      refine sL (k+1) (by (repeat (first | exact Holds.nil | apply Holds.cons rfl))) (by (repeat (exact Sub.nil))) ⟨by omega,fun j hj=>?_⟩ (by omega)
      rcases Nat.lt_or_ge j k with h | h
      · exact hno j h
      · have:j=k:=by omega
        subst this
        rintro ⟨h1,h2⟩
        have hcc:((s.size:Int) == 2*((j:Int)+1))=true:=by simp;omega
        have:=(hP (by simpa using hcc)).2 h2
        subst this
        rw [hcc] at hb;simp at hb
  · repeat (first | (first | (apply dr rfl rfl rfl;(focus (exact bP (v:=(.int _ _)) rfl (.p rfl)))) | apply cj) | (first | apply cK | apply bp | apply cJ | apply jt | apply kT | apply ig | apply ii rfl | apply gA))
    refine kh (sM (v:=.int _ _) rfl) .none ⟨rfl,?_⟩
    show Value.int .i64 0=.int .i64 (gY s)
    unfold gY
    rw [if_neg]
    rintro ⟨h1,h2⟩
    have:k=4:=by omega
    subst this
    rcases h1 with h1 | h1 | h1 | h1
    · exact hno 0 (by omega) ⟨h1,h2⟩
    · exact hno 1 (by omega) ⟨h1,h2⟩
    · exact hno 2 (by omega) ⟨h1,h2⟩
    · exact hno 3 (by omega) ⟨h1,h2⟩
end SX
namespace SX
open Go
def el (p0:ByteArray):Option Int:=some (gY p0)
theorem fO {p0:ByteArray} {r:Int} (h:el p0=some r):PF 109 [.v (.string p0)] (.v (.int .i64 r)):=fun κ args g ha=>by
 obtain ⟨v,ws,rfl,h1,h2⟩:=ha.cons_inv
 rw [h2.nil_inv,h1.val]
 have h:=Option.some.inj h;subst h
 exact (z2 κ p0 g).mono fun v κ' _ hv=>by subst hv;exact .v rfl
def itr (b:Nat) (s:ByteArray) (pos:Nat):Res:=⟨some b,fun o=>o=some (.stringIter s pos)⟩
theorem z6 {o:Oper} {σ:PEnv} {ρ:List PRes} {x:Operand} {t:Nat} {s:ByteArray} {K:PV→List PRes→Prop} (ho:o.op=.range t x) (hu:dw t=some .string) (hx:bi σ x=.v (.string s)) (h:∀ b,K (.v (.pointer (some ⟨b,0,none⟩))) (.raw (itr b s 0)::ρ)):POpL o σ ρ K:=fun κ σ' ρ' g hs hr β hi Nx hk=>by
 have e1:=hs.v1 hx
 have h1:=run_underlying (w:=κ.w) (bt hu)
 have hrun:(execOp (ev σ') o).run Tryz.prog κ.w=.ok (.value (.pointer (some ⟨κ.w.heap.size,0,none⟩))) (κ.w.alloc (.stringIter s 0)):=by
  simp [execOp,ho,e1,Instr.range,h1,run_newObj_alloc]
 rw [hrun]
 exact hk _ _ ⟨κ.w.alloc (.stringIter s 0),κ.S⟩ (hi.alloc _ (itr κ.w.heap.size s 0) rfl rfl) (dD hi.fin _) ⟨_,_,.v rfl,.cons .raw (hr.mono (dD hi.fin _)),h _⟩
theorem pl_next {o:Oper} {σ:PEnv} {ρ ρ1:List PRes} {x:Operand} {b pos:Nat} {s:ByteArray} {K:PV→List PRes→Prop} (ho:o.op=.next x true) (hx:bi σ x=.v (.pointer (some ⟨b,0,none⟩))) (hu:PUpd ρ (.raw (itr b s pos)) (.raw (itr b s (pos+(Utf8.decode s pos).2))) ρ1) (h1:pos<s.size→K (.tup [.v (.bool true),.v (.int .i64 (pos:Int)),.v (.int .i32 ((Utf8.decode s pos).1:Int))]) ρ1) (h2:s.size≤pos→K (.tup [.v (.bool false)]) ρ):POpL o σ ρ K:=fun κ σ' ρ' g hs hr β hi Nx hk=>by
 have e1:=hs.v1 hx
 have hr0:=hr
 obtain ⟨r0,l1,l2,rfl,h4,h5⟩:=hr.upd hu
 cases h4 with
 | raw =>
  have hb:κ.w.heap[b]?=some (.stringIter s pos):=hi.own (itr b s pos) (by simp)
  have hg:(getObj b).run Tryz.prog κ.w=.ok (.stringIter s pos) κ.w:=by simp [getObj,Sem.run,hb]
  have hset:∀ ob,(setObj b ob).run Tryz.prog κ.w=.ok () { κ.w with heap:=κ.w.heap.setIfInBounds b ob }:=fun ob=>by simp [setObj,Sem.run,hb]
  rcases Nat.lt_or_ge pos s.size with hlt | hge
  ·have hrun:(execOp (ev σ') o).run Tryz.prog κ.w=.ok (.value (.tuple #[.bool true,goInt pos,.int .i32 ((Utf8.decode s pos).1:Int)])) { κ.w with heap:=κ.w.heap.setIfInBounds b (.stringIter s (pos+(Utf8.decode s pos).2)) }:=by
    simp [execOp,ho,e1,Instr.next,hg,hlt,hset]
   rw [hrun]
   obtain ⟨i1,i2⟩:=hi.turn (r:=itr b s pos) (r':=itr b s (pos+(Utf8.decode s pos).2)) (b:=b) (w':={ κ.w with heap:=κ.w.heap.setIfInBounds b (.stringIter s (pos+(Utf8.decode s pos).2)) }) rfl rfl rfl (fun i hi=>oB hi) (by simp) (oC hb) rfl rfl rfl (Nat.le_refl _)
   exact hk _ _ _ i1 i2 ⟨_,ρ1,.tup (ws:=[_,_,_]) (.cons (.v rfl) (.cons (.v rfl) (.cons (.v rfl) .nil))),h5 _ _ i2 .raw,h1 hlt⟩
  ·have hrun:(execOp (ev σ') o).run Tryz.prog κ.w=.ok (.value (.tuple #[.bool false])) κ.w:=by
    simp [execOp,ho,e1,Instr.next,hg,Nat.not_lt.2 hge]
   rw [hrun]
   exact hk _ _ κ hi (.refl _) ⟨_,ρ,.tup (ws:=[_]) (.cons (.v rfl) .nil),hr0,h2 hge⟩
def gE (s:ByteArray) (pos:Nat):Option (Nat⊕Bool):=cond (Nat.blt pos s.size) (cond (decide (((Utf8.decode s pos).1:Int)<97)||decide (122<((Utf8.decode s pos).1:Int))) (some (.inr false)) (some (.inl (pos+(Utf8.decode s pos).2)))) (some (.inr true))
def gZ (p0:ByteArray):Option Bool:=cond (decide ((p0.size:Int)<1)||decide (12<(p0.size:Int))) (some false) (bf (gE p0) FUEL 0)
attribute [local irreducible] PWL PWC PWD POpL POpQ PEv PGuardIs PSub PPick PUpd PSplice PFill PLit PF PFV PCall FOk ec dE jy kx il jz Cov PHolds bf gE
theorem o6 {p0:ByteArray} {r:Bool} (h:gZ p0=some r):PF 110 [pS p0] (pB r):=by
 unfold gZ at h
 refine bk ?_
 refine lh Tryz.func110 rfl Tryz.ntmps110 Tryz.results110 rfl ?_
 (repeat refine ag ?_)
 refine aw [] [2] [] bx (by kernel_rfl) ?_
 (repeat (first | apply aD | apply aT))
 (repeat refine ag ?_)
 refine aw [] [5,6,7,8,9,10,11] [(12,pB (decide ((p0.size:Int)<1)||decide (12<(p0.size:Int))))] bx (by kernel_rfl) ?_
 (repeat (first | apply aD | apply aT))
 (repeat refine ag ?_)
 refine gM rfl (fun hc=>?_) (fun hc=>?_)
 ·replace h:=vD hc h
  (repeat refine ag ?_)
  refine aw [] [] [(2,pB false)] bx (by kernel_rfl) ?_
  (repeat (first | apply aD | apply aT))
  (repeat refine ag ?_)
  refine bU ?_
  (repeat (first | apply aA | apply aL | apply aV | apply lg))
  obtain rfl:=Option.some.inj h
  exact aQ (cL (aX rfl)) bL ⟨rfl,rfl⟩
 replace h:=vE hc h
 refine ah ?_
 (repeat (first | apply aD | apply aT))
 (repeat refine ag ?_)
 refine aa ?_
 refine aS 1 [] [] [(13,pS p0)] bx (by kernel_rfl) ?_
 refine za rfl rfl rfl (z6 rfl rfl rfl fun b=>?_)
 refine aB ?_
 (repeat (first | apply aD | apply aT))
 (repeat refine ag ?_)
 refine ar (Y:=Unit) (fun _=>[]) (fun _=>[]) (fun _=>r=true) ?_ ?_
 ·refine aC ?_
  refine aJ (Y:=Unit) (S:=Nat) _ h (fun _ _=>[(14,pP b 0)]) (fun _ pos=>[PRes.raw (itr b p0 pos)]) () (by (repeat (first | exact mN | apply cW rfl))) (by (repeat (first | exact bL | (apply aZ;(focus (repeat (first | exact aI | apply ap))))))) ?_
  rintro _ pos o τ hb;dsimp only [az]
  unfold gE at hb
  (repeat refine ag ?_)
  refine aa ?_
  refine za rfl rfl rfl (pl_next rfl rfl bV (fun hlt=>?_) (fun hge=>?_))
  ·have hlt':Nat.blt pos p0.size=true:=by simp [Nat.blt];omega
   rw [hlt'] at hb;simp only [dn] at hb
   refine je [] [] [(16,pB true)] bx (by kernel_rfl) ?_
   (repeat (first | apply aD | apply aT))
   (repeat refine ag ?_)
   refine gM (p:=true) rfl (fun _=>?_) (fun hf=>by cases hf)
   refine ah ?_
   (repeat (first | apply aD | apply aT))
   (repeat refine ag ?_)
   refine aC ?_
   (repeat refine ag ?_)
   refine aw [] [17] [(4,.v (.int .i32 ((Utf8.decode p0 pos).1:Int)))] bx (by kernel_rfl) ?_
   (repeat (first | apply aD | apply aT))
   (repeat refine ag ?_)
   refine aw [] [18,19,20,21,22] [(23,pB (decide (((Utf8.decode p0 pos).1:Int)<97)||decide (122<((Utf8.decode p0 pos).1:Int))))] bx (by kernel_rfl) ?_
   (repeat (first | apply aD | apply aT))
   (repeat refine ag ?_)
   refine gM rfl (fun hc2=>?_) (fun hc2=>?_)
   ·replace hb:=vD hc2 hb
    (repeat refine ag ?_)
    refine aw [] [] [(2,pB false)] bx (by kernel_rfl) ?_
    (repeat (first | apply aD | apply aT))
    (repeat refine ag ?_)
    refine bU ?_
    (repeat (first | apply aA | apply aL | apply aV | apply lg))
    refine aW hb (fun ht=>?_);subst ht
    (repeat (first | apply aA | apply aL | apply aV | apply lg))
    exact aQ (cL (aX rfl)) bL ⟨rfl,rfl⟩
   replace hb:=vE hc2 hb
   refine ah ?_
   (repeat apply aD)
   exact aY hb () (by (repeat (first | exact mN | apply cW rfl))) (by (repeat (first | exact bL | (apply aZ;(focus (repeat (first | exact aI | apply ap)))))))
  have hge':Nat.blt pos p0.size=false:=by cases e:Nat.blt pos p0.size;rfl;exact absurd (Nat.le_of_ble_eq_true e) (by omega)
  rw [hge'] at hb;simp only [cT] at hb
  refine je [] [] [(16,pB false)] bx (by kernel_rfl) ?_
  (repeat (first | apply aD | apply aT))
  (repeat refine ag ?_)
  refine gM (p:=false) rfl (fun hf=>by cases hf) (fun _=>?_)
  refine aP ?_
  (repeat (first | apply aq | apply uh | apply ui | apply lM rfl))
  refine ak hb (fun ht=>?_)
  refine am rfl ?_
  exact au () mN bL ht.symm
 rintro _ τ hz;subst hz;dsimp only [az]
 (repeat refine ag ?_)
 refine aw [] [] [(2,pB true)] bx (by kernel_rfl) ?_
 (repeat (first | apply aD | apply aT))
 (repeat refine ag ?_)
 refine bU ?_
 (repeat (first | apply aA | apply aL | apply aV | apply lg))
 exact aQ (cL (aX rfl)) bL ⟨rfl,rfl⟩
end SX
end Go.Proofs.YtgmbmepakpcpaaaGreatDoor
namespace Go.Proofs
open Go.Shelf
def Tryz.lSF_ren:Go.Shelf.Ren:=⟨fun | 6=>49 | 15=>101 | 14=>100 | 28=>150 | 29=>151 | 20=>142 | 21=>143 | 22=>144 | 23=>145 | 24=>146 | 25=>147 | 26=>148 | 27=>149 | 46=>173 | 47=>174 | 48=>175 | 49=>176 | 50=>177 | 57=>203 | n=>n,fun | 22=>31 | 24=>28 | 25=>109 | 3=>3 | 39=>49 | 0=>0 | 53=>206 | 55=>116 | 4=>4 | 46=>200 | 45=>199 | 50=>144 | 5=>5 | 9=>9 | 66=>235 | 70=>239 | 76=>259 | 77=>260 | n=>n,fun | n=>n⟩
theorem Tryz.lSF:Go.Proofs.SlLaysF0.n6 Tryz.prog Tryz.lSF_ren:={
 mixed:=by kernel_rfl
 f6:=⟨Tryz.f49.name,by decide,Tryz.func49.trans (congrArg some (by kernel_rfl))⟩
 f14:=⟨Tryz.f100.name,by decide,Tryz.func100.trans (congrArg some (by kernel_rfl))⟩
 f15:=Tryz.func101.trans (congrArg some (by kernel_rfl))
 f20:=⟨Tryz.f142.name,by decide,Tryz.func142.trans (congrArg some (by kernel_rfl))⟩
 f21:=⟨Tryz.f143.name,by decide,Tryz.func143.trans (congrArg some (by kernel_rfl))⟩
 f22:=⟨Tryz.f144.name,by decide,Tryz.func144.trans (congrArg some (by kernel_rfl))⟩
 f23:=⟨Tryz.f145.name,by decide,Tryz.func145.trans (congrArg some (by kernel_rfl))⟩
 f24:=⟨Tryz.f146.name,by decide,Tryz.func146.trans (congrArg some (by kernel_rfl))⟩
 f25:=⟨Tryz.f147.name,by decide,Tryz.func147.trans (congrArg some (by kernel_rfl))⟩
 f26:=⟨Tryz.f148.name,by decide,Tryz.func148.trans (congrArg some (by kernel_rfl))⟩
 f27:=⟨Tryz.f149.name,by decide,Tryz.func149.trans (congrArg some (by kernel_rfl))⟩
 f28:=Tryz.func150.trans (congrArg some (by kernel_rfl))
 f29:=Tryz.func151.trans (congrArg some (by kernel_rfl))
 f46:=⟨Tryz.f173.name,by decide,Tryz.func173.trans (congrArg some (by kernel_rfl))⟩
 f47:=Tryz.func174.trans (congrArg some (by kernel_rfl))
 f48:=Tryz.func175.trans (congrArg some (by kernel_rfl))
 f49:=⟨Tryz.f176.name,by decide,Tryz.func176.trans (congrArg some (by kernel_rfl))⟩
 f50:=⟨Tryz.f177.name,by decide,Tryz.func177.trans (congrArg some (by kernel_rfl))⟩
 f57:=⟨Tryz.f203.name,by decide,Tryz.func203.trans (congrArg some (by kernel_rfl))⟩
 t0:=Tryz.underlying0
 a0:=Tryz.isAgg0
 z0:=Tryz.sizeOf0
 v0:=Tryz.zeroValue0
 t3:=Tryz.underlying3
 a3:=Tryz.isAgg3
 z3:=Tryz.sizeOf3
 v3:=Tryz.zeroValue3
 t4:=Tryz.underlying4
 a4:=Tryz.isAgg4
 z4:=Tryz.sizeOf4
 v4:=Tryz.zeroValue4
 t5:=Tryz.underlying5
 a5:=Tryz.isAgg5
 z5:=Tryz.sizeOf5
 v5:=Tryz.zeroValue5
 t9:=Tryz.underlying9
 a9:=Tryz.isAgg9
 z9:=Tryz.sizeOf9
 v9:=Tryz.zeroValue9
 t22:=Tryz.underlying31
 a22:=Tryz.isAgg31
 z22:=Tryz.sizeOf31
 v22:=Tryz.zeroValue31
 t25:=Tryz.underlying109
 a25:=Tryz.isAgg109
 z25:=Tryz.sizeOf109
 v25:=Tryz.zeroValue109
 t39:=Tryz.underlying49
 a39:=Tryz.isAgg49
 z39:=Tryz.sizeOf49
 v39:=Tryz.zeroValue49
 t45:=Tryz.underlying199
 a45:=Tryz.isAgg199
 z45:=Tryz.sizeOf199
 v45:=Tryz.zeroValue199
 t46:=Tryz.underlying200
 a46:=Tryz.isAgg200
 z46:=Tryz.sizeOf200
 v46:=Tryz.zeroValue200
 t50:=Tryz.underlying144
 a50:=Tryz.isAgg144
 z50:=Tryz.sizeOf144
 v50:=Tryz.zeroValue144
 t53:=Tryz.underlying206
 a53:=Tryz.isAgg206
 z53:=Tryz.sizeOf206
 v53:=Tryz.zeroValue206
 t55:=Tryz.underlying116
 a55:=Tryz.isAgg116
 z55:=Tryz.sizeOf116
 v55:=Tryz.zeroValue116
 t66:=Tryz.underlying235
 a66:=Tryz.isAgg235
 z66:=Tryz.sizeOf235
 v66:=Tryz.zeroValue235
 t70:=Tryz.underlying239
 a70:=Tryz.isAgg239
 z70:=Tryz.sizeOf239
 v70:=Tryz.zeroValue239
 t76:=Tryz.underlying259
 a76:=Tryz.isAgg259
 z76:=Tryz.sizeOf259
 v76:=Tryz.zeroValue259
 t77:=Tryz.underlying260
 a77:=Tryz.isAgg260
 z77:=Tryz.sizeOf260
 v77:=Tryz.zeroValue260 }
end Go.Proofs
namespace Go.Proofs
open Go.Shelf
def Tryz.lSs_ren:Go.Shelf.Ren:=⟨fun | 190=>139 | 125=>101 | 258=>170 | 128=>150 | 129=>151 | 302=>191 | 303=>192 | 304=>193 | 305=>194 | 306=>195 | 307=>196 | 308=>197 | 309=>198 | 310=>199 | 333=>209 | 329=>174 | 330=>175 | 334=>210 | 335=>211 | 336=>212 | 344=>217 | n=>n,fun | 31=>33 | 9=>9 | 3=>3 | 46=>49 | 0=>0 | 51=>206 | 53=>116 | 4=>4 | 183=>200 | 182=>199 | 131=>144 | 5=>5 | 218=>235 | 222=>239 | 228=>259 | 229=>260 | n=>n,fun | n=>n⟩
theorem Tryz.lSs:Go.Proofs.Lays.n190 Tryz.prog Tryz.lSs_ren:={
 mixed:=by kernel_rfl
 f125:=Tryz.func101.trans (congrArg some (by kernel_rfl))
 f128:=Tryz.func150.trans (congrArg some (by kernel_rfl))
 f129:=Tryz.func151.trans (congrArg some (by kernel_rfl))
 f190:=Tryz.func139.trans (congrArg some (by kernel_rfl))
 f258:=Tryz.func170.trans (congrArg some (by kernel_rfl))
 f302:=Tryz.func191.trans (congrArg some (by kernel_rfl))
 f303:=Tryz.func192.trans (congrArg some (by kernel_rfl))
 f304:=Tryz.func193.trans (congrArg some (by kernel_rfl))
 f305:=Tryz.func194.trans (congrArg some (by kernel_rfl))
 f306:=Tryz.func195.trans (congrArg some (by kernel_rfl))
 f307:=Tryz.func196.trans (congrArg some (by kernel_rfl))
 f308:=Tryz.func197.trans (congrArg some (by kernel_rfl))
 f309:=Tryz.func198.trans (congrArg some (by kernel_rfl))
 f310:=Tryz.func199.trans (congrArg some (by kernel_rfl))
 f329:=Tryz.func174.trans (congrArg some (by kernel_rfl))
 f330:=Tryz.func175.trans (congrArg some (by kernel_rfl))
 f333:=Tryz.func209.trans (congrArg some (by kernel_rfl))
 f334:=Tryz.func210.trans (congrArg some (by kernel_rfl))
 f335:=Tryz.func211.trans (congrArg some (by kernel_rfl))
 f336:=Tryz.func212.trans (congrArg some (by kernel_rfl))
 f344:=Tryz.func217.trans (congrArg some (by kernel_rfl))
 t0:=Tryz.underlying0
 a0:=Tryz.isAgg0
 z0:=Tryz.sizeOf0
 v0:=Tryz.zeroValue0
 t3:=Tryz.underlying3
 a3:=Tryz.isAgg3
 z3:=Tryz.sizeOf3
 v3:=Tryz.zeroValue3
 t4:=Tryz.underlying4
 a4:=Tryz.isAgg4
 z4:=Tryz.sizeOf4
 v4:=Tryz.zeroValue4
 t5:=Tryz.underlying5
 a5:=Tryz.isAgg5
 z5:=Tryz.sizeOf5
 v5:=Tryz.zeroValue5
 t9:=Tryz.underlying9
 a9:=Tryz.isAgg9
 z9:=Tryz.sizeOf9
 v9:=Tryz.zeroValue9
 t31:=Tryz.underlying33
 a31:=Tryz.isAgg33
 z31:=Tryz.sizeOf33
 v31:=Tryz.zeroValue33
 t46:=Tryz.underlying49
 a46:=Tryz.isAgg49
 z46:=Tryz.sizeOf49
 v46:=Tryz.zeroValue49
 t51:=Tryz.underlying206
 a51:=Tryz.isAgg206
 z51:=Tryz.sizeOf206
 v51:=Tryz.zeroValue206
 t53:=Tryz.underlying116
 a53:=Tryz.isAgg116
 z53:=Tryz.sizeOf116
 v53:=Tryz.zeroValue116
 t131:=Tryz.underlying144
 a131:=Tryz.isAgg144
 z131:=Tryz.sizeOf144
 v131:=Tryz.zeroValue144
 t182:=Tryz.underlying199
 a182:=Tryz.isAgg199
 z182:=Tryz.sizeOf199
 v182:=Tryz.zeroValue199
 t183:=Tryz.underlying200
 a183:=Tryz.isAgg200
 z183:=Tryz.sizeOf200
 v183:=Tryz.zeroValue200
 t218:=Tryz.underlying235
 a218:=Tryz.isAgg235
 z218:=Tryz.sizeOf235
 v218:=Tryz.zeroValue235
 t222:=Tryz.underlying239
 a222:=Tryz.isAgg239
 z222:=Tryz.sizeOf239
 v222:=Tryz.zeroValue239
 t228:=Tryz.underlying259
 a228:=Tryz.isAgg259
 z228:=Tryz.sizeOf259
 v228:=Tryz.zeroValue259
 t229:=Tryz.underlying260
 a229:=Tryz.isAgg260
 z229:=Tryz.sizeOf260
 v229:=Tryz.zeroValue260 }
end Go.Proofs
namespace Go.Proofs.YtgmbmepakpcpaaaGreatDoor
namespace SX
open Go
section
variable {γ:Type} [Inhabited γ]
theorem rD (e:γ→Value) (D:Array γ) (cur:Array Value) (h:D.size≤cur.size):(Sort.putCells e 0 D cur).toList.take D.size=D.toList.map e:=by
 apply List.ext_getElem
 ·simp [Sort.putCells];omega
 intro i h1 h2
 have h3:i<D.size:=by simpa using h2
 simp [Sort.putCells,h3]
theorem uP {e:γ→Value} {w:World} {b:Nat} {D:Array γ} {cur:Array Value} {T:Nat} {fr:Nat×Nat} (h:w.heap[b]?=some (.cells cur T fr)):(Sort.putRow e w b 0 D).heap[b]?=some (.cells (Sort.putCells e 0 D cur) T fr):=by
 simp [Sort.putRow,Sort.mapBlock,Array.getElem?_modify,h,Sort.onCells]
theorem qF {e:γ→Value} {w:World} {b i:Nat} {D:Array γ} (h:i≠b):(Sort.putRow e w b 0 D).heap[i]?=w.heap[i]?:=by
 simp only [Sort.putRow,Sort.mapBlock,Array.getElem?_modify]
 rw [if_neg (fun e=>h e.symm)]
theorem na {β:Base} {l:List Res} {κ:Kr} {b n c T sz m:Nat} {css css':List (List Value)} {os:Array Obj} {e:γ→Value} {D:Array γ} (hi:Zk β (Res.row (some ⟨b,0,none⟩) n c T sz css::l) κ) (hF:D.toList.map e=css'.flatten) (hl:css'.length=n) (hw:∀ cs∈css',cs.length=sz) :
    Zk β (Res.row (some ⟨b,0,none⟩) n c T sz css'::l) ⟨Sort.grow (Sort.putRow e (Sort.ahead κ.w m) b 0 D) os,κ.S⟩∧Kle κ ⟨Sort.grow (Sort.putRow e (Sort.ahead κ.w m) b 0 D) os,κ.S⟩:=by
  have ho:=hi.own _ (List.mem_cons_self)
  obtain ⟨h1,h2,h3,h4,h5,cur,h6,h7,h8⟩:=ho
  have hD:D.size=n*sz:=by
    have:=congrArg List.length hF
    rw [List.length_map,dx hw,hl] at this
    simpa using this
  have hle:D.size≤cur.size:=by rw [hD,h7];exact Nat.mul_le_mul_right _ h4
  have t1:=hi.turn (r':=Res.row (some ⟨b,0,none⟩) n c T sz css') (l1:=[]) (b:=b) (w':=Sort.putRow e (Sort.ahead κ.w m) b 0 D) rfl rfl rfl (fun i hne=>qF hne) (by simp [Sort.putRow,Sort.mapBlock,Sort.ahead])
    ⟨h1,hl,hw,h4,h5,_,uP (w:=Sort.ahead κ.w m) h6,by simpa [Sort.putCells] using h7,by rw [← hD,rD e D cur hle,hF]⟩ rfl rfl rfl (by simp [Sort.putRow,Sort.mapBlock,Sort.ahead])
  have hh:=t1.1.own _ (List.mem_cons_self)
  have hb2:b<(Sort.putRow e (Sort.ahead κ.w m) b 0 D).heap.size:=by
    have:=(t1.1.blk _ (List.mem_cons_self) b rfl).1;exact this
  have hold:∀ i,i<(Sort.putRow e (Sort.ahead κ.w m) b 0 D).heap.size→(Sort.grow (Sort.putRow e (Sort.ahead κ.w m) b 0 D) os).heap[i]?=(Sort.putRow e (Sort.ahead κ.w m) b 0 D).heap[i]?:=fun i h=>by
    simp only [Sort.grow];rw [Array.getElem?_append_left h]
  have hh2:(Res.row (some ⟨b,0,none⟩) n c T sz css').holds (Sort.grow (Sort.putRow e (Sort.ahead κ.w m) b 0 D) os):=by
    have:(Sort.grow (Sort.putRow e (Sort.ahead κ.w m) b 0 D) os).heap[b]?=(Sort.putRow e (Sort.ahead κ.w m) b 0 D).heap[b]?:=hold b hb2
    unfold Res.holds at hh ⊢
    show (Res.row (some ⟨b,0,none⟩) n c T sz css').says (Sort.grow (Sort.putRow e (Sort.ahead κ.w m) b 0 D) os).heap[b]?
    rw [this];exact hh
  obtain ⟨i3,k3⟩:=t1.1.grow (r':=Res.row (some ⟨b,0,none⟩) n c T sz css') (w':=Sort.grow (Sort.putRow e (Sort.ahead κ.w m) b 0 D) os) ⟨rfl,rfl,rfl,by simp [Sort.grow],fun i h _=>hold i h⟩ (.inr (.inl rfl)) hh2 (vt hh2) (Nat.le_refl _)
  exact ⟨i3,t1.2.trans k3⟩
end
def ib (a b:ByteArray):Bool:=Op.bytesLess a.toList b.toList
theorem lZ (a b:ByteArray):ib a b=decide (a.data.toList<b.data.toList):=by
 unfold ib;rw [bytesLess_eq,ByteArray.toList_eq,ByteArray.toList_eq]
theorem wX {κ:Kr}:∀ {xs:List ByteArray} {dss:List (List Value)},Rpss κ (xs.map eS) dss→dss=xs.map fun s=>[.string s]
 | [],_,h=>h.nil_inv
 | x::xs,_,h=>by
  obtain ⟨d,ds,rfl,h1,h2⟩:=h.cons_inv
  obtain ⟨v,vs,rfl,h3,h4⟩:=h1.cons_inv
  rw [wX h2,h4.nil_inv,h3.val];rfl
theorem qG {κ:Kr}:∀ {xs:List ByteArray} {dss:List (List Value)},Rpss κ (xs.map eS) dss→∀ x∈xs,sQ (.string x)=true
 | [],_,_=>by simp
 | x::xs,_,h=>by
  obtain ⟨d,ds,rfl,h1,h2⟩:=h.cons_inv
  obtain ⟨v,vs,rfl,h3,h4⟩:=h1.cons_inv
  intro y hy
  rcases List.mem_cons.1 hy with rfl | hy
  ·cases h3 with | v hq=>exact hq
  exact qG h2 y hy
theorem qH {κ:Kr}:∀ {xs:List ByteArray},(∀ x∈xs,sQ (.string x)=true)→Rpss κ (xs.map eS) (xs.map fun s=>[.string s])
 | [],_=>.nil
 | x::xs,h=>.cons (.cons (.v (h x (by simp))) .nil) (qH fun y hy=>h y (by simp [hy]))
theorem z7 (l:List ByteArray):(l.map fun s=>[Value.string s]).flatten=l.map Value.string:=by
 induction l with
 | nil=>rfl
 | cons x xs ih=>simp [ih]
def f9 (l:List ByteArray):Option (List ByteArray):=some (iK ib l)
theorem kL {α:Type} {lt:α→α→Bool} (l:List α):(iK lt l).length=l.length:=ip.length_eq
theorem vV (l:List ByteArray):(l.map fun s=>s.data.toList).mergeSort (fun x y=>decide (x≤y))=(iK ib l).map fun s=>s.data.toList:=by
 have key:∀ x y:List UInt8,decide (x≤y) = !decide (y<x):=fun x y=>by
  rw [← decide_not];exact decide_eq_decide.2 (by rw [List.not_lt])
 refine lQ (lt:=fun x y=>decide (x<y)) (fun x y h1 h2=>?_) ?_ ?_ ?_
 ·have h1:=of_decide_eq_false h1;have h2:=of_decide_eq_false h2
  exact List.le_antisymm (List.not_lt.1 h2) (List.not_lt.1 h1)
 ·have h:=List.pairwise_mergeSort (le:=fun x y:List UInt8=>decide (x≤y)) (fun a b c h1 h2=>det (List.le_trans (of_decide_eq_true h1) (of_decide_eq_true h2))) (fun a b=>by
   rcases List.le_total a b with h | h
   ·simp [h]
   simp [h]) (l.map fun s=>s.data.toList)
  exact h.imp fun {a b} hab=>by rw [key] at hab;simpa using hab
 ·rw [List.pairwise_map]
  have h:=jf (lt:=ib) (fun x y z h1 h2=>by
   rw [lZ] at *;exact det (List.lt_trans (of_decide_eq_true h1) (of_decide_eq_true h2))) (fun x y z h1 h2=>by
   rw [lZ] at *;exact cq (List.not_lt.2 (List.le_trans (List.not_lt.1 (of_decide_eq_false h2)) (List.not_lt.1 (of_decide_eq_false h1))))) (fun x=>by rw [lZ];exact cq (List.lt_irrefl _)) l
  exact h.imp fun {a b} hab=>by rw [← lZ];exact hab
 exact (List.mergeSort_perm _ _).trans (ip.symm.map _)
theorem iZ {p0 r:List ByteArray} (h:f9 p0=some r) {a:Option Addr} {n c:Nat}:PCall 139 [.v (.slice a n c)] [PRes.row a n c 9 1 (List.map eS p0)] (fun pv ρ'=>pv=.tup []∧ρ'=[PRes.row a n c 9 1 (List.map eS r)]):=fun κ args ρ g ha hr=>by
 obtain rfl:=Option.some.inj h
 obtain ⟨v,ws,rfl,ha1,ha2⟩:=ha.cons_inv
 rw [ha2.nil_inv,ha1.val]
 obtain ⟨r0,l',rfl,hr1,hr2⟩:=hr.cons_inv
 have:=hr2.nil_inv;subst this
 refine ⟨(AN Tryz.func139 rfl),fun hi=>?_⟩
 cases hr1 with
 | row hb ho hc =>
  have hok:=qG hc
  have hd:=wX hc;subst hd
  have how:=hi.own _ (List.mem_cons_self)
  cases a with
  | none =>
   obtain ⟨rfl,rfl,h3⟩:=how
   have hp:p0=[]:=List.map_eq_nil_iff.1 h3
   subst hp
   refine (Any.slices_Sort_string_none Tryz.lSs none 0 κ.w).mono fun e w' ⟨h1,h2⟩=>?_
   subst h1 h2
   exact ⟨_,_,κ,rfl,rfl,hi,.tup [],_,.tup .nil,.cons (.row hb ho (by exact .nil)) .nil,rfl,rfl⟩
  | some ad =>
   have how2:=how
   obtain ⟨h1,h2,h3,h4,h5,cur,h6,h7,h8⟩:=how
   obtain ⟨b,off,sp⟩:=ad
   injection h1 with h1a h1b h1c
   subst h1b h1c
   have hblk:b<κ.w.heap.size:=(hi.blk _ (List.mem_cons_self) b rfl).1
   have hn:n=(p0.map fun s=>s.data.toList).length:=by rw [← h2];simp
   have hH:Sort.Holds encStr κ.w b 0 (p0.map fun s=>s.data.toList).toArray:=by
    intro j hj
    have hj2:j<p0.length:=by simpa using hj
    rw [z7,Nat.mul_one] at h8
    have hj3:cur.toList[j]?=some (Value.string p0[j]):=by
     have e:=congrArg (fun l=>l[j]?) h8
     simp only [List.getElem?_take,List.getElem?_map] at e
     rw [if_pos (by rw [← h2];simpa using hj2),List.getElem?_eq_getElem hj2] at e
     exact e
    have hj4:cur[j]?=some (Value.string p0[j]):=by rw [← Array.getElem?_toList];exact hj3
    constructor
    ·simp only [World.cell?,h6,Option.isSome_none,Bool.false_eq_true,if_false,Nat.zero_add]
     rw [hj4]
     congr 1
     simp [getElem!_pos,hj2]
    simp [World.frozen?,h6]
   rw [hn]
   refine (Any.slices_Sort_string Tryz.lSs b 0 c _ κ.w hH hblk (by rw [← hn];unfold maxLen at h5;omega)).mono fun e w' ⟨k1,m,os,k2⟩=>?_
   subst k1 k2
   obtain ⟨i1,i2⟩:=na (m:=m) (os:=os) (e:=encStr) (css':=(iK ib p0).map fun s=>[Value.string s]) (D:=((p0.map fun s=>s.data.toList).mergeSort fun x y=>decide (x≤y)).toArray) hi (by
    rw [vV]
    generalize iK ib p0=q
    induction q with
    | nil=>rfl
    | cons x xs ih=>simp at ih ⊢;exact ih) (by rw [List.length_map,kL];rw [← h2];simp) (by simp)
   exact ⟨_,_,⟨_,κ.S⟩,rfl,rfl,i1,.tup [],_,.tup .nil,.cons (.row hb (by intro cs hcs;obtain ⟨q,_,rfl⟩:=List.mem_map.1 hcs;intro u hu;rw [List.mem_singleton.1 hu];rfl) (qH fun y hy=>hok y (ip.mem_iff.1 hy))) .nil,rfl,by rw [← hn]⟩
theorem le_grow {κ κ':Kr} (h:Le [] κ κ'):∃ q os',κ'.w=Sort.grow (κ.w.drewN q) os':=by
 refine ⟨κ'.w.drawn - κ.w.drawn,κ'.w.heap.extract κ.w.heap.size κ'.w.heap.size,?_⟩
 have hz:=h.kle.size
 have hd:=h.drawn
 have e1:κ'.w.heap=κ.w.heap++κ'.w.heap.extract κ.w.heap.size κ'.w.heap.size:=by
  apply Array.ext_getElem?
  intro i
  rcases Nat.lt_or_ge i κ.w.heap.size with hi | hi
  ·rw [Array.getElem?_append_left hi];exact h.same i hi (by simp)
  rw [Array.getElem?_append_right hi,Array.getElem?_extract]
  split
  ·congr 1;omega
  rw [Array.getElem?_eq_none (by omega)]
 cases hw:κ'.w with
 | mk heap tape drawn os output =>
  have h2:=h.tape;have h3:=h.os;have h4:=h.output
  rw [hw] at e1 h2 h3 h4 hd
  simp only at e1 h2 h3 h4 hd
  simp only [Sort.grow,World.drewN]
  subst h2 h3 h4
  rw [← e1]
  congr 1;omega
theorem se {γ:Type} [Inhabited γ] (enc:γ→List Value) (k:Nat) (hk:∀ x,(enc x).length=k):∀ L:List γ,(List.range (L.length*k)).map (fun t=>(enc L[t / k]!)[t % k]!)=(L.map enc).flatten
 | []=>by simp
 | x::xs=>by
  have ih:=se enc k hk xs
  rcases Nat.eq_zero_or_pos k with h0 | h0
  ·subst h0
   have:∀ M:List γ,(M.map enc).flatten=[]:=fun M=>by
    rw [List.flatten_eq_nil_iff];intro l hl;obtain ⟨y,_,rfl⟩:=List.mem_map.1 hl;exact List.eq_nil_of_length_eq_zero (hk y)
   rw [this];simp
  rw [List.length_cons,Nat.add_mul,Nat.one_mul,Nat.add_comm,List.range_add,List.map_append,List.map_cons,List.flatten_cons,← ih,List.map_map]
  congr 1
  ·apply List.ext_getElem
   ·simp [hk]
   intro i h1 h2
   have hi:i<k:=by simpa using h1
   simp [Nat.div_eq_of_lt hi,Nat.mod_eq_of_lt hi,getElem!_pos,h2]
  apply List.map_congr_left
  intro t _
  simp only [Function.comp,Nat.add_div_left _ h0,Nat.add_mod_left]
  rfl
theorem qI {γ:Type} [Inhabited γ] (enc:γ→List Value) (k:Nat) (hk:∀ x,(enc x).length=k) (d:Array γ):(Sort.flatK enc k d).toList.map id=(d.toList.map enc).flatten:=by
 rw [List.map_id,← se enc k hk]
 simp only [Sort.flatK,Array.toList_map,Array.toList_range,Array.length_toList]
 apply List.map_congr_left
 intro t _
 congr 2
 simp [getElem!_def]
section
variable {α:Type} {enc:α→List PV} {encV:α→List Value}
theorem uQ {κ:Kr} (hinv:∀ x ds,Rps κ (enc x) ds→ds=encV x):∀ {xs:List α} {dss:List (List Value)},Rpss κ (xs.map enc) dss→dss=xs.map encV
 | [],_,h=>h.nil_inv
 | x::xs,_,h=>by
  obtain ⟨d,ds,rfl,h1,h2⟩:=h.cons_inv
  rw [uQ hinv h2,hinv _ _ h1];rfl
theorem oF {κ:Kr} (hmk:∀ x,Rps κ (enc x) (encV x)):∀ {xs:List α},Rpss κ (xs.map enc) (xs.map encV)
 | []=>.nil
 | x::xs=>.cons (hmk x) (oF hmk)
theorem callSF [Inhabited α] {f g T k:Nat} {ρs:Shelf.Ren} (L:SlLaysF0.n6 Tryz.prog ρs) (hf:ρs.f 6=f) (fOk:FnOk f) (gOk:FnOk g) (aE:∀ w,(isAgg (ρs.t 24)).run Tryz.prog w=.ok true w) (zE:∀ w,(Go.sizeOf (ρs.t 24)).run Tryz.prog w=.ok k w)
    (hk:∀ x,(encV x).length=k) (h1:∀ x,∀ v∈encV x,v.oneCell'=true) (hinv:∀ κ x ds,Rps κ (enc x) ds→ds=encV x) (hmk:∀ κ x,Rps κ (enc x) (encV x)) (cf:α→α→Int) (hO:Sort.SWO (ltOf cf)) (hT:∀ x y,ltOf cf x y=false→ltOf cf y x=false→x=y)
    (hcmp:∀ x y,PF g [.agg (enc x),.agg (enc y)] (pI (cf x y))) {p0:List α} {a:Option Addr} {n c:Nat}:PCall f [.v (.slice a n c),.fn g []] [PRes.row a n c T k (List.map enc p0)] (fun pv ρ'=>pv=.tup []∧ρ'=[PRes.row a n c T k (List.map enc (iK (ltOf cf) p0))]):=fun κ args ρ gk ha hr=>by
  subst hf
  obtain ⟨v,ws,rfl,ha1,ha2⟩:=ha.cons_inv
  obtain ⟨v2,ws2,rfl,ha3,ha4⟩:=ha2.cons_inv
  rw [ha4.nil_inv,ha1.val]
  have hv2:v2=.func (.func g) #[] #[]:=by
    cases ha3 with
    | fn h=>rw [h.nil_inv]
  subst hv2
  obtain ⟨r0,l',rfl,hr1,hr2⟩:=hr.cons_inv
  have:=hr2.nil_inv;subst this
  refine ⟨fOk,fun hi=>?_⟩
  have hn1:∀ l:List α,∀ cs∈l.map encV,cs.length=k:=fun l cs hcs=>by obtain ⟨q,_,rfl⟩:=List.mem_map.1 hcs;exact hk q
  cases hr1 with
  | row hb ho hc =>
    have hd:=uQ (hinv κ) hc;subst hd
    have how:=hi.own _ (List.mem_cons_self)
    cases a with
    | none =>
      obtain ⟨rfl,rfl,h3⟩:=how
      have hp:p0=[]:=List.map_eq_nil_iff.1 h3
      subst hp
      refine (AnyF.slices_SortFunc_none L none 0 _ κ.w).mono fun e w' ⟨h1,h2⟩=>?_
      subst h1 h2
      exact ⟨_,_,κ,rfl,rfl,hi,.tup [],_,.tup .nil,.cons (.row hb ho (by exact .nil)) .nil,rfl,rfl⟩
    | some ad =>
      obtain ⟨q1,h2,h3,h4,h5,cur,h6,h7,h8⟩:=how
      obtain ⟨b,off,sp⟩:=ad
      injection q1 with h1a h1b h1c
      subst h1b h1c
      have hblk:b<κ.w.heap.size:=(hi.blk _ (List.mem_cons_self) b rfl).1
      have hn:n=p0.toArray.size:=by rw [← h2];simp
      have hz:(Sort.flatK encV k p0.toArray).size=n*k:=by rw [Sort.size_flatK,← hn]
      have hft:(Sort.flatK encV k p0.toArray).toList=cur.toList.take (n*k):=by
        rw [h8,← qI encV k hk,List.map_id]
      have hH:Sort.HoldsK encV k κ.w b 0 p0.toArray:=by
        intro j hj
        have hj2:j<n*k:=by rw [← hz];exact hj
        have hj3:(Sort.flatK encV k p0.toArray)[j]?=cur[j]?:=by
          rw [← Array.getElem?_toList,hft,List.getElem?_take,if_pos hj2,Array.getElem?_toList]
        constructor
        · simp only [World.cell?,h6,Option.isSome_none,Bool.false_eq_true,if_false,Nat.zero_add]
          rw [← hj3,Array.getElem?_eq_getElem hj,getElem!_pos _ j hj];rfl
        simp [World.frozen?,h6]
      have hcl:CmpLays Tryz.prog g #[] encV k cf b 0 p0.toArray.size κ.w:=fun m os dk hs x y=>by
        obtain ⟨i1,k1⟩:=na (m:=m) (os:=os) (e:=id) (D:=Sort.flatK encV k dk) (css':=dk.toList.map encV) hi (qI encV k hk dk) (by rw [List.length_map,Array.length_toList,hs,hn]) (hn1 _)
        have hc2:=hcmp x y ⟨_,κ.S⟩ [.agg (encV x).toArray,.agg (encV y).toArray] (gk.mono k1) (.cons (.agg (h1 x) (hmk _ x)) (.cons (.agg (h1 y) (hmk _ y)) .nil))
        refine (hc2.2 ⟨Le.refl _ _,i1.fin,by simp,by simp,List.Pairwise.nil⟩).mono fun e w' ⟨v,ρ',κ',g1,g2,g3,g4⟩=>?_
        obtain ⟨q,os',hq⟩:=le_grow g3.le
        subst g1 g2
        exact ⟨by rw [g4.2.val],q,os',hq⟩
      rw [hn]
      refine (AnyQ.slices_SortFunc_total L k aE zE encV hk h1 cf hO g #[] b 0 c p0.toArray κ.w (fun args w=>jb gOk args w) hcl hH hblk (by rw [← hn];unfold maxLen at h5;omega) hT).mono fun e w' ⟨k1,m,os,k2⟩=>?_
      have hso:(p0.toArray.toList.mergeSort fun x y => !(ltOf cf) y x)=iK (ltOf cf) p0:=by
        refine lQ (lt:=ltOf cf) hT ?_ (jf hO.trans hO.ntrans hO.irrefl p0) ((List.mergeSort_perm _ _).trans ip.symm)
        have h:=List.pairwise_mergeSort (le:=fun x y:α => !(ltOf cf) y x) (fun a b c h1 h2=>by
          simp only [Bool.not_eq_true'] at h1 h2 ⊢;exact hO.ntrans _ _ _ h2 h1) (fun a b=>by
          cases e1:ltOf cf b a
          · simp
          cases e2:ltOf cf a b
          · simp
          have:=hO.trans _ _ _ e1 e2;rw [hO.irrefl] at this;cases this) p0
        exact h.imp fun {a b} hab=>by simpa using hab
      rw [hso] at k2
      subst k1 k2
      obtain ⟨i1,i2⟩:=na (m:=m) (os:=os) (e:=id) (css':=(iK (ltOf cf) p0).map encV) (D:=Sort.flatK encV k (iK (ltOf cf) p0).toArray) hi (qI encV k hk _) (by rw [List.length_map,kL];rw [← h2];simp) (hn1 _)
      exact ⟨_,_,⟨_,κ.S⟩,rfl,rfl,i1,.tup [],_,.tup .nil,.cons (.row hb (by intro cs hcs;obtain ⟨q,_,rfl⟩:=List.mem_map.1 hcs;exact h1 q) (oF (hmk _))) .nil,rfl,by rw [← hn]⟩
end
theorem cmpI (a b:Int):dN a b=some (if a<b then -1 else if b<a then 1 else 0):=by
 unfold dN gg
 simp only [bne_self_eq_false,bI,cT]
 by_cases h:a<b
 ·rw [det h,if_pos h];rfl
 rw [cq h,if_neg h]
 by_cases h2:b<a
 ·rw [det h2,if_pos h2];rfl
 rw [cq h2,if_neg h2];rfl
theorem cmpOr2 (a b:Int):jL [a,b]=some (if a=0 then b else a):=by
 unfold jL
 refine (dF (l:=[a,b]) (by simp) (fun _ x=>cond (x != 0) (some (.inr x)) none) (.inl ()) (fun k hk=>?_) (by rw [fu];rfl)).trans ?_
 ·rw [lp hk,dn,nT (bh hk),dq hk (by simp)]
  cases ([a,b][k] != 0) <;> rfl
 rw [iq (fun x:Int=>x != 0) (fun x=>(Sum.inr x:Unit⊕Int))]
 by_cases ha:a=0
 ·subst ha
  by_cases hb:b=0
  ·subst hb;rfl
  simp [hb]
 simp [ha]
def bH (x y:Za):Bool:=decide (x.Product<y.Product)||(decide (x.Product=y.Product)&&decide (x.Agreement<y.Agreement))
def nE (x y:Za):Int:=if (if x.Product<y.Product then (-1:Int) else if y.Product<x.Product then 1 else 0)=0 then (if x.Agreement<y.Agreement then -1 else if y.Agreement<x.Agreement then 1 else 0) else (if x.Product<y.Product then -1 else if y.Product<x.Product then 1 else 0)
theorem nc:ltOf nE=bH:=by
 funext x y
 unfold ltOf nE bH
 rcases Int.lt_trichotomy x.Product y.Product with h | h | h
 ·rw [if_pos h];simp [h]
 ·simp only [h,Int.lt_irrefl,if_false,if_true,decide_false,decide_true,Bool.false_or,Bool.true_and]
  rcases Int.lt_trichotomy x.Agreement y.Agreement with h2 | h2 | h2
  ·rw [if_pos h2];simp [h2]
  ·simp [h2]
  rw [if_neg (by omega),if_pos h2];simp;omega
 have h1:¬ x.Product<y.Product:=by omega
 have h3:¬ x.Product=y.Product:=by omega
 simp [h,h1,h3]
theorem xX (x y:Za):du x y=some (nE x y):=by
 unfold du nE
 rw [cmpI,cmpI]
 simp only [bI,cmpOr2]
theorem oG (x y:Za):bH x y=true↔x.Product<y.Product∨(x.Product=y.Product∧x.Agreement<y.Agreement):=by simp [bH]
theorem l6 (x y:Za):bH x y=false↔¬ (x.Product<y.Product∨(x.Product=y.Product∧x.Agreement<y.Agreement)):=by rw [← oG];simp
theorem oH (x:Za):bH x x=false:=by rw [l6];omega
theorem qJ (x y z:Za):bH x y=true→bH y z=true→bH x z=true:=by simp only [oG];omega
theorem oI (x y z:Za):bH x y=false→bH y z=false→bH x z=false:=by simp only [l6];omega
theorem oJ (x y:Za):bH x y=false→bH y x=false→x=y:=by
 simp only [l6];intro h1 h2
 cases x;cases y;simp at h1 h2 ⊢;omega
def bD (l:List Za):Option (List Za):=some (iK bH l)
theorem ca {p0 r:List Za} (h:bD p0=some r) {a:Option Addr} {n c:Nat}:PCall 49 [.v (.slice a n c),.fn 50 []] [PRes.row a n c 28 2 (List.map Za.enc p0)] (fun pv ρ'=>pv=.tup []∧ρ'=[PRes.row a n c 28 2 (List.map Za.enc r)]):=by
 obtain rfl:=Option.some.inj h
 rw [← nc]
 exact callSF Tryz.lSF rfl (AN Tryz.func49 rfl) (AN Tryz.func50 rfl) Tryz.isAgg28 Tryz.sizeOf28 (encV:=fun x=>[.int .i64 x.Product,.int .i64 x.Agreement]) (fun _=>rfl)
  (fun x v hv=>by simp at hv;rcases hv with rfl | rfl <;> rfl) (fun κ x ds h=>by
   obtain ⟨v,ws,rfl,h1,h2⟩:=h.cons_inv
   obtain ⟨v2,ws2,rfl,h3,h4⟩:=h2.cons_inv
   rw [h1.val,h3.val,h4.nil_inv]) (fun κ x=>.cons (.v rfl) (.cons (.v rfl) .nil)) nE
  (by rw [nc];exact ⟨oH,qJ,oI⟩) (by rw [nc];exact oJ) (fun x y=>jj (xX x y))

end SX
end Go.Proofs.YtgmbmepakpcpaaaGreatDoor
