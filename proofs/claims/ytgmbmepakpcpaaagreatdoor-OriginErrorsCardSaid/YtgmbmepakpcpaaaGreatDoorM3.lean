/- A part of the proof: texts of the walk and of the plain laws, merged. No condition. -/
import Derived.Test.YtgmbmepakpcpaaaGreatDoorM2
set_option linter.unusedVariables false
set_option linter.unusedSimpArgs false
set_option maxHeartbeats 4000000
set_option maxRecDepth 100000
namespace Go.Proofs.YtgmbmepakpcpaaaGreatDoor
namespace SX
open Go
attribute [local irreducible] PWL PWC PWD POpL POpQ PEv PGuardIs PSub PPick PUpd PSplice PFill PLit PF PFV PCall FOk eK ey lK nH iW mA Cov PHolds aW idx app mk gd lb nz ll DM sub jY dc nY wc fu cx ol we IntKind.wrap Int.tmod Int.tdiv Op.bytesLess strOfNums
def dy (p0:Zb) (p1:ByteArray) (p2:ByteArray):Option Bool:=(bJ p0.Parties p1).bind fun x2=>(gd x2 (bJ p0.Parties p2)).bind fun x3=>some (x2&&x3)
theorem jc {p0:Zb} {p1:ByteArray} {p2:ByteArray} {r:Bool}  (h:dy p0 p1 p2=some r):PF 88 [.agg (aD p0),pS p1,pS p2] (pB r):=by
 unfold dy at h
 refine bd ?_
 refine dm Tryz.func88 rfl Tryz.ntmps88 Tryz.results88 rfl (cU rfl (bg (cs:=(aD p0)) rfl rfl (fun b1=>ba [6] (by kernel_rfl) (cO h fun x2 hx2 h=>aa h fun x3 hx3 h=>an [0,0] (rg 7 10) [(6,pB (x2&&x3))] (bi 3 (cV hx2) (dT 8 (fun hc=>cV (cD hx3 hc)) bh)) (by kernel_rfl) (dj ?_)))))
 exact zz r h rfl
def fQ (p0:ByteArray) (p1:ByteArray):Option Bool:=(gd (decide ((p1.size:Int)≤(p0.size:Int))) (jY p0 0 (p1.size:Int))).bind fun s1=>some ((decide ((p1.size:Int)≤(p0.size:Int)))&&(decide (s1=p1)))
theorem np {p0:ByteArray} {p1:ByteArray} {r:Bool}  (h:fQ p0 p1=some r):PF 164 [pS p0,pS p1] (pB r):=by
 unfold fQ at h
 refine bd ?_
 refine dm Tryz.func164 rfl Tryz.ntmps164 Tryz.results164 rfl (aS [4] (by kernel_rfl) (cO h fun s1 hs1 h=>an [] (rg 5 13) [(4,pB ((decide ((p1.size:Int)≤(p0.size:Int)))&&(decide (s1=p1))))] (fossg 9 (cD hs1) bh) (by kernel_rfl) (dj ?_)))
 exact zz r h rfl
def dw (p0:ByteArray) (p1:ByteArray):Option Bool:=(fQ p0 p1).bind fun x1=>some x1
theorem iH {p0:ByteArray} {p1:ByteArray} {r:Bool}  (h:dw p0 p1=some r):PF 129 [pS p0,pS p1] (pB r):=by
 unfold dw at h
 refine bd ?_
 refine dm Tryz.func129 rfl Tryz.ntmps129 Tryz.results129 rfl (aS [4] (by kernel_rfl) (cO h fun x1 hx1 h=>an [] [5,6,7] [(4,pB x1)] (bi 2 (np hx1) bh) (by kernel_rfl) (dj ?_)))
 exact zz r h rfl
def j6 (rec:Zd→Int→Option Int) (p0:Zd) (p1:Int):Option Int:=(aW (S:=Int×Int) (T:=(Int)⊕(_)) (fun (v2,v3)=>cond (decide (v3<(p0.Args.length:Int))) ((idx p0.Args v3).bind fun m8=>cond (decide (p1≤v2)) (some (.inr (.inr p1))) ((rec m8 (IntKind.i64.wrap (p1 - v2))).bind fun x11=>some (.inl ((IntKind.i64.wrap (v2+x11)),(IntKind.i64.wrap (v3+1)))))) (some (.inr (.inl v2)))) FUEL (1,0)).bind fun q=>match q with | .inl v4=>some v4 | .inr e=>some e
theorem tJ {rec:Zd→Int→Option Int} (hrec:∀ {p0:Zd} {p1:Int} {r:Int},rec p0 p1=some r→PF 165 [.agg (au p0),pI p1] (pI r)) {p0:Zd} {p1:Int} {r:Int} (h:j6 rec p0 p1=some r):PF 165 [.agg (au p0),pI p1] (pI r):=by
 unfold j6 at h
 refine bd ?_
 refine dm Tryz.func165 rfl Tryz.ntmps165 Tryz.results165 rfl (cU rfl (bg (cs:=(au p0)) rfl rfl (fun b1=>ba [4] (by kernel_rfl) (bX (aj [(5,pI 1)] (by kernel_rfl) (cq (aL [0] [8] [(9,pL Zd.enc p0.Args),(10,pI (p0.Args.length:Int)),(11,pI 0)] (by kernel_rfl) (eZ h fun q6 hq6 h=>?_))))))))
 refine am (Y:=Unit×Int) (fun (_,v4)=>[(5,pI v4)]) (fun (_,v4)=>[]) (fun (_,v4)=>q6=Sum.inl v4) ?_ ?_
 ·refine az ?_
  refine aC (Y:=Unit) (S:=Int×Int) _ hq6 (fun _ (v2,v3)=>[(1,pI p1),(5,pI v2),(9,pL Zd.enc p0.Args),(10,pI (p0.Args.length:Int)),(11,pI v3)]) (fun _ (v2,v3)=>[]) () (mC rfl) bv ?_
  rintro _ ⟨v2,v3⟩ o τ hb5;(try dsimp only at hb5);dsimp only [aw]
  refine ae (aj [(12,pB (decide (v3<(p0.Args.length:Int))))] (by kernel_rfl) (bX (i4 rfl hb5 (fun hc7 hb5=>?_) fun hc7 hb5=>?_)))
  ·refine ah ?_
   refine du (aa hb5 fun m8 hm8 hb5=>af (aY 2 [] [13] [(14,.agg (au m8))] (oS 0 Zd.enc (Zd.enc_eq _) hm8 bh) (by kernel_rfl) (al rfl (aM (cs:=[pI 0,pI 0,pN,pI 0,pI 0,pS ByteArray.empty,pN]) rfl rfl rfl rfl (fun b9=>aO rfl rfl (ap (vs:=(au m8)) rfl rfl rfl rfl rfl co mY (aH (cq (bI [15,16] [(17,pB (decide (p1≤v2)))] (by kernel_rfl) rfl hb5 (fun hc10 hb5=>?_) fun hc10 hb5=>?_)))))))))
   ·refine ae ?_
    refine ai [18] [(4,pI p1)] (by kernel_rfl) (dj (aq (dR ?_)))
    refine aA hb5 (fun ht=>?_);subst ht
    refine cS ?_
    exact zz r h rfl
   refine ah ?_
   refine eZ hb5 fun x11 hx11 hb5=>an [0] (rg 19 7) [(5,pI (IntKind.i64.wrap (v2+x11)))] (bi 5 (hrec hx11) bh) (by kernel_rfl) (dt (ai [26] [(11,pI (IntKind.i64.wrap (v3+1)))] (by kernel_rfl) ?_))
   exact aP hb5 () (mC rfl) bv
  refine aG ?_
  refine cb hb5 (fun ht=>ak rfl ?_)
  exact av ((),v2) (qV rfl) bv ht.symm
 rintro ⟨_,v4⟩ τ hz;(try dsimp only at hz);subst q6;(try dsimp only at h);dsimp only [aw]
 refine ae (ai [27] [(4,pI v4)] (by kernel_rfl) (dj ?_))
 exact zz r h rfl
def lX (n:Nat):Zd→Int→Option Int:=Nat.rec (motive:=fun _=>Zd→Int→Option Int) (fun _ _=>none) (fun _ ih=>j6 ih) n
def qX (p0:Zd) (p1:Int):Option Int:=lX FUEL p0 p1
theorem vh (n:Nat):∀ {p0:Zd} {p1:Int} {r:Int},lX n p0 p1=some r→PF 165 [.agg (au p0),pI p1] (pI r):=by
 induction n with
 | zero=>intros;rename_i h;exact nomatch h
 | succ n ih=>intros;rename_i h;exact tJ (fun hr=>ih hr) h
theorem wj {p0:Zd} {p1:Int} {r:Int} (h:qX p0 p1=some r):PF 165 [.agg (au p0),pI p1] (pI r):=vh FUEL h
def mH (p0:Zd):Option Bool:=cond ((!(p0.Kind == 2))&&(((p0.Digits != 0)||(decide (0<(p0.Except.length:Int))))||(p0.Tolerance != 0))) (some false) (cond ((p0.Kind != 3)&&(p0.Limit != 0)) (some false) (cond ((p0.Kind != 4)&&(!decide (p0.Name=(⟨#[]⟩:ByteArray)))) (some false) (some (((p0.Kind == 5)||(p0.Kind == 6))||((p0.Args.length:Int) == 0)))))
theorem wk {p0:Zd} {r:Bool}  (h:mH p0=some r):PF 188 [.agg (au p0)] (pB r):=by
 unfold mH at h
 refine bd ?_
 refine dm Tryz.func188 rfl Tryz.ntmps188 Tryz.results188 rfl (cU rfl (bg (cs:=(au p0)) rfl rfl (fun b1=>ba [2] (by kernel_rfl) (bX (aL [0] [5,6,7] [(3,pB (p0.Kind == 2))] (by kernel_rfl) (bX (aL [0,0] (rg 8 8) [(4,pB ((p0.Kind == 5)||(p0.Kind == 6)))] (by kernel_rfl) (du (aL [0,0,0] (rg 17 18) [(16,pB ((!(p0.Kind == 2))&&(((p0.Digits != 0)||(decide (0<(p0.Except.length:Int))))||(p0.Tolerance != 0))))] (by kernel_rfl) (cR rfl h (fun hc2 h=>?_) fun hc2 h=>?_))))))))))
 ·refine ae ?_
  refine da [(2,pB false)] (by kernel_rfl) (dR ?_)
  exact zz r h rfl
 refine ae ?_
 refine aL [0,0] (rg 36 8) [(35,pB ((p0.Kind != 3)&&(p0.Limit != 0)))] (by kernel_rfl) (cR rfl h (fun hc3 h=>?_) fun hc3 h=>?_)
 ·refine ae ?_
  refine da [(2,pB false)] (by kernel_rfl) (dR ?_)
  exact zz r h rfl
 refine ae ?_
 refine aL [0,0] (rg 45 8) [(44,pB ((p0.Kind != 4)&&(!decide (p0.Name=(⟨#[]⟩:ByteArray)))))] (by kernel_rfl) (cR rfl h (fun hc4 h=>?_) fun hc4 h=>?_)
 ·refine ae ?_
  refine da [(2,pB false)] (by kernel_rfl) (dR ?_)
  exact zz r h rfl
 refine ah ?_
 refine aF (bX (aL [0] (rg 53 7) [(2,pB (((p0.Kind == 5)||(p0.Kind == 6))||((p0.Args.length:Int) == 0)))] (by kernel_rfl) (dj ?_)))
 exact zz r h rfl
def js (p0:Int):Option Bool:=some ((decide (0≤p0))&&(decide (p0≤1000000)))
theorem mI {p0:Int} {r:Bool}  (h:js p0=some r):PF 190 [pI p0] (pB r):=by
 unfold js at h
 refine bd ?_
 refine dm Tryz.func190 rfl Tryz.ntmps190 Tryz.results190 rfl (aS [2] (by kernel_rfl) (bX (ai (rg 3 6) [(2,pB ((decide (0≤p0))&&(decide (p0≤1000000))))] (by kernel_rfl) (dj ?_))))
 exact zz r h rfl
def dX (rec:Zd→Option Zd) (p0:Zd):Option Zd:=(bS p0.Except).bind fun x3=>(Dc 96 (p0.Args.length:Int)).bind fun u7=>(aW (S:=(List Zd)×Int) (T:=((List Zd))) (fun (l11,v14)=>cond (decide (v14<(p0.Args.length:Int))) ((idx p0.Args v14).bind fun m23=>(rec m23).bind fun x25=>(app 96 l11 [x25]).bind fun l28=>some (.inl (l28,(IntKind.i64.wrap (v14+1))))) (some (.inr l11))) FUEL (([]:List Zd),0)).bind fun l18=>some (⟨p0.Kind,p0.Digits,x3,p0.Tolerance,p0.Limit,p0.Name,l18⟩:Zd)
theorem mS {rec:Zd→Option Zd} (hrec:∀ {p0:Zd} {r:Zd},rec p0=some r→PF 131 [.agg (au p0)] (.agg (au r))) {p0:Zd} {r:Zd} (h:dX rec p0=some r):PF 131 [.agg (au p0)] (.agg (au r)):=by
 unfold dX at h
 refine bd ?_
 refine dm Tryz.func131 rfl Tryz.ntmps131 Tryz.results131 rfl (cU rfl (bg (cs:=(au p0)) rfl rfl (fun b1=>al rfl (aM (cs:=[pI 0,pI 0,pN,pI 0,pI 0,pS ByteArray.empty,pN]) rfl rfl rfl rfl (fun b2=>aH (cO h fun x3 hx3 h=>af (cu 2 [1] [6] [(7,pL eS p0.Except)] (by kernel_rfl) ?_)))))))
 refine al rfl (bf rfl rfl (ρ1:=[]) (List.Perm.refl _) (eW hx3) ?_);rintro _ _ ⟨a4,c5,rfl,rfl⟩
 refine aB 1 [(9,pP b1 2)] (by kernel_rfl) (aO rfl rfl (ap (vs:=[pO a4 x3.length c5]) rfl rfl rfl rfl rfl (db (db co)) (dL (dL nB)) (aH (cO h fun u7 hu7 h=>af (cu 3 [2] [10,11] [(12,pI (p0.Args.length:Int))] (by kernel_rfl) (al rfl (E0 rfl rfl rfl rfl rfl rfl rfl hu7 (fun b8=>aI [(3,pO (some ⟨b8,0,none⟩) 0 ((p0.Args.length:Int).toNat))] (by kernel_rfl) (cq (aL [3] [14] [(15,pL Zd.enc p0.Args),(16,pI (p0.Args.length:Int)),(17,pI 0)] (by kernel_rfl) (eZ h fun q21 hq21 h=>?_)))))))))))
 refine am (Y:=(Option Addr×Nat)×((List Zd))) (fun ((a16,c17),l18)=>[(1,pP b1 0),(2,pP b2 0),(3,pO a16 l18.length c17)]) (fun ((a16,c17),l18)=>[PRes.b b1 84 [pI p0.Kind,pI p0.Digits,pO a4 x3.length c5,pI p0.Tolerance,pI p0.Limit,pS p0.Name,pL Zd.enc p0.Args],PRes.b b2 84 [pI 0,pI 0,pN,pI 0,pI 0,pS ByteArray.empty,pN],PRes.row a16 l18.length c17 84 7 (List.map Zd.enc l18),PRes.row a4 x3.length c5 9 1 (List.map eS x3)]) (fun ((a16,c17),l18)=>q21=l18) ?_ ?_
 ·refine az ?_
  refine aC (Y:=Option Addr×Nat) (S:=(List Zd)×Int) _ hq21 (fun (a12,c13) (l11,v14)=>[(1,pP b1 0),(2,pP b2 0),(3,pO a12 l11.length c13),(15,pL Zd.enc p0.Args),(16,pI (p0.Args.length:Int)),(17,pI v14)]) (fun (a12,c13) (l11,v14)=>[PRes.b b1 84 [pI p0.Kind,pI p0.Digits,pO a4 x3.length c5,pI p0.Tolerance,pI p0.Limit,pS p0.Name,pL Zd.enc p0.Args],PRes.b b2 84 [pI 0,pI 0,pN,pI 0,pI 0,pS ByteArray.empty,pN],PRes.row a12 l11.length c13 84 7 (List.map Zd.enc l11),PRes.row a4 x3.length c5 9 1 (List.map eS x3)]) ((some ⟨b8,0,none⟩),(p0.Args.length:Int).toNat) (rI rfl) (aZ (ar (ar (ar aJ))) (aZ (ar (ar aJ)) mR)) ?_
  rintro ⟨a12,c13⟩ ⟨l11,v14⟩ o τ hb20;(try dsimp only at hb20);dsimp only [aw]
  refine ae (aj [(18,pB (decide (v14<(p0.Args.length:Int))))] (by kernel_rfl) (bX (i4 rfl hb20 (fun hc22 hb20=>?_) fun hc22 hb20=>?_)))
  ·refine ah ?_
   refine du (aa hb20 fun m23 hm23 hb20=>af (aY 2 [] [19] [(20,.agg (au m23))] (oS 0 Zd.enc (Zd.enc_eq _) hm23 bh) (by kernel_rfl) (al rfl (aM (cs:=[pI 0,pI 0,pN,pI 0,pI 0,pS ByteArray.empty,pN]) rfl rfl rfl rfl (fun b24=>aO rfl rfl (ap (vs:=(au m23)) rfl rfl rfl rfl rfl co mY (aH (eZ hb20 fun x25 hx25 hb20=>af (aY 3 [0] [22] [(21,pO a12 l11.length c13),(23,.agg (au x25))] (bi 2 (hrec hx25) bh) (by kernel_rfl) ?_)))))))))
   refine al rfl (bA (css:=List.map Zd.enc [x25]) rfl rfl rfl rfl rfl (by (simp only [List.map_cons,List.map_nil,Zd.enc_eq];(repeat (first | exact iX | apply fU rfl)))) rfl (by (simp only [List.map_cons,List.map_nil,Zd.enc_eq];rfl)) rfl rfl (fun b26=>?_))
   refine aa hb20 fun l28 hl28 hb20=>?_
   refine al rfl (bV (enc:=Zd.enc) rfl rfl rfl rfl rfl rfl rfl rfl rfl fy (by exact ar (ar (ar (ar aJ)))) hl28 (fun a29 c30=>?_))
   refine aI [(3,pO a29 l28.length c30)] (by kernel_rfl) (dt (ai [26] [(17,pI (IntKind.i64.wrap (v14+1)))] (by kernel_rfl) ?_))
   exact aP hb20 (a29,c30) (rI rfl) (aZ (ar (ar (ar aJ))) (aZ (ar (ar (ar aJ))) (aZ aJ (aZ (ar (ar aJ)) bv))))
  refine aG ?_
  refine cb hb20 (fun ht=>ak rfl ?_)
  exact av ((a12,c13),l11) (mq rfl) Gb ht.symm
 rintro ⟨⟨a16,c17⟩,l18⟩ τ hz;(try dsimp only at hz);subst q21;(try dsimp only at h);dsimp only [aw]
 refine ae (af (aB 2 [(27,pO a16 l18.length c17),(28,pP b1 6)] (by kernel_rfl) (aO rfl rfl (ap (vs:=[pO a16 l18.length c17]) rfl rfl rfl rfl rfl co (dL (dL (dL (dL (dL (dL nB)))))) (aH (bX (af ?_)))))))
 refine kW (css:=List.map eS x3) (a:=a4) (by exact ar (ar (ar aJ))) ?_
 refine iQ (k:=2) (enc:=eS) (xs:=x3) (b:=b1) (a:=a4) rfl fy (db co) ?_
 refine kW (css:=List.map Zd.enc l18) (a:=a16) (by exact ar (ar (ar aJ))) ?_
 refine iQ (k:=6) (enc:=Zd.enc) (xs:=l18) (b:=b1) (a:=a16) rfl fy (db (db co)) (fH 1 [2] [(29,.agg [pI p0.Kind,pI p0.Digits,pL eS x3,pI p0.Tolerance,pI p0.Limit,pS p0.Name,pL Zd.enc l18])] (by kernel_rfl) (aO rfl rfl (ap (vs:=[pI p0.Kind,pI p0.Digits,pL eS x3,pI p0.Tolerance,pI p0.Limit,pS p0.Name,pL Zd.enc l18]) rfl rfl rfl rfl rfl (db (db (db co))) mY (aH (dj ?_)))))
 obtain rfl:=osi h
 exact aR (dA (dJ rfl Ga rfl)) bv ⟨rfl,rfl⟩
def fw (n:Nat):Zd→Option Zd:=Nat.rec (motive:=fun _=>Zd→Option Zd) (fun _=>none) (fun _ ih=>dX ih) n
def iI (p0:Zd):Option Zd:=fw FUEL p0
theorem nq (n:Nat):∀ {p0:Zd} {r:Zd},fw n p0=some r→PF 131 [.agg (au p0)] (.agg (au r)):=by
 induction n with
 | zero=>intros;rename_i h;exact nomatch h
 | succ n ih=>intros;rename_i h;exact mS (fun hr=>ih hr) h
theorem nN {p0:Zd} {r:Zd} (h:iI p0=some r):PF 131 [.agg (au p0)] (.agg (au r)):=nq FUEL h
def bj (p0:(List Zh)) (p1:(List Zh)) (p2:(Zh→Zh→Option Bool)):Option Bool:=cond ((p0.length:Int) != (p1.length:Int)) (some false) ((aW (S:=Int) (T:=(Unit)⊕(_)) (fun v2=>cond (decide (v2<(p0.length:Int))) ((idx p0 v2).bind fun m6=>(idx p1 v2).bind fun m8=>(p2 m6 m8).bind fun x10=>cond (!x10) (some (.inr (.inr false))) (some (.inl (IntKind.i64.wrap (v2+1))))) (some (.inr (.inl ())))) FUEL 0).bind fun q=>match q with | .inl _=>some true | .inr e=>some e)
theorem dG {p0:(List Zh)} {p1:(List Zh)} {p2:(Zh→Zh→Option Bool)} {r:Bool} {g2:PV} (hg2:∀ {y0:Zh} {y1:Zh} {w:Bool},p2 y0 y1=some w→PFV g2 [.agg (dW y0),.agg (dW y1)] (pB w)) (h:bj p0 p1 p2=some r):PF 134 [pL Zh.enc p0,pL Zh.enc p1,g2] (pB r):=by
 unfold bj at h
 refine bd ?_
 refine dm Tryz.func134 rfl Tryz.ntmps134 Tryz.results134 rfl (aS [6] (by kernel_rfl) (cq (bI [10,11,12,13] [(14,pB ((p0.length:Int) != (p1.length:Int)))] (by kernel_rfl) rfl h (fun hc1 h=>?_) fun hc1 h=>?_)))
 ·refine ae ?_
  refine da [(6,pB false)] (by kernel_rfl) (aq ?_)
  exact zz r h rfl
 refine ah ?_
 refine cq (aj [(15,pL Zh.enc p0),(16,pI (p0.length:Int)),(17,pI 0)] (by kernel_rfl) (eZ h fun q4 hq4 h=>?_))
 refine am (Y:=Unit×Unit) (fun (_,_)=>[]) (fun (_,_)=>[]) (fun (_,_)=>q4=Sum.inl ()) ?_ ?_
 ·refine az ?_
  refine aC (Y:=Unit) (S:=Int) _ hq4 (fun _ v2=>[(1,pL Zh.enc p1),(2,g2),(15,pL Zh.enc p0),(16,pI (p0.length:Int)),(17,pI v2)]) (fun _ v2=>[]) () (mC rfl) bv ?_
  rintro _ v2 o τ hb3;(try dsimp only at hb3);dsimp only [aw]
  refine ae (aj [(18,pB (decide (v2<(p0.length:Int))))] (by kernel_rfl) (bX (i4 rfl hb3 (fun hc5 hb3=>?_) fun hc5 hb3=>?_)))
  ·refine ah ?_
   refine du (aa hb3 fun m6 hm6 hb3=>af (aY 3 [] [20] [(19,pI v2),(21,.agg (dW m6))] (cJ 1 Zh.enc hm6 bh) (by kernel_rfl) (al rfl (aM (cs:=[pS ByteArray.empty,pI 0,pI 0,pN,pI 0,pI 0,pS ByteArray.empty,pN]) rfl rfl rfl rfl (fun b7=>aB 1 [(7,pI v2)] (by kernel_rfl) (aO rfl rfl (ap (vs:=(dW m6)) rfl rfl rfl rfl rfl co zl8 (aH (cO hb3 fun m8 hm8 hb3=>af (aY 4 [] [22,23,24] [(25,.agg (dW m8))] (cJ 2 Zh.enc hm8 bh) (by kernel_rfl) (al rfl (aM (cs:=[pS ByteArray.empty,pI 0,pI 0,pN,pI 0,pI 0,pS ByteArray.empty,pN]) rfl rfl rfl rfl (fun b9=>aO rfl rfl (ap (vs:=(dW m8)) rfl rfl rfl rfl rfl co zl8 (aH (cO hb3 fun x10 hx10 hb3=>an [1,0] [26,27,28,29] [(30,pB (!x10))] (A2 3 (hg2 hx10) bh) (by kernel_rfl) (cR rfl hb3 (fun hc11 hb3=>?_) fun hc11 hb3=>?_)))))))))))))))))
   ·refine ae ?_
    refine da [(6,pB false)] (by kernel_rfl) (dR ?_)
    refine aA hb3 (fun ht=>?_);subst ht
    refine cS ?_
    exact zz r h rfl
   refine ah ?_
   refine dt (ai [31] [(17,pI (IntKind.i64.wrap (v2+1)))] (by kernel_rfl) ?_)
   exact aP hb3 () (mC rfl) bv
  refine aG ?_
  refine cb hb3 (fun ht=>ak rfl ?_)
  exact av ((),()) nG bv ht.symm
 rintro ⟨_,_⟩ τ hz;(try dsimp only at hz);subst q4;(try dsimp only at h);dsimp only [aw]
 refine ae (da [(6,pB true)] (by kernel_rfl) ?_)
 exact zz r h rfl
def dY (p0:(List ByteArray)) (p1:(List ByteArray)):Option Bool:=cond ((p0.length:Int) != (p1.length:Int)) (some false) ((aW (S:=Int) (T:=(Unit)⊕(_)) (fun v2=>cond (decide (v2<(p0.length:Int))) ((idx p0 v2).bind fun m6=>(idx p1 v2).bind fun m7=>cond (!decide (m6=m7)) (some (.inr (.inr false))) (some (.inl (IntKind.i64.wrap (v2+1))))) (some (.inr (.inl ())))) FUEL 0).bind fun q=>match q with | .inl _=>some true | .inr e=>some e)
theorem ls {p0:(List ByteArray)} {p1:(List ByteArray)} {r:Bool}  (h:dY p0 p1=some r):PF 167 [pL eS p0,pL eS p1] (pB r):=by
 unfold dY at h
 refine bd ?_
 refine dm Tryz.func167 rfl Tryz.ntmps167 Tryz.results167 rfl (aS [4] (by kernel_rfl) (cq (bI [6,7,8,9] [(10,pB ((p0.length:Int) != (p1.length:Int)))] (by kernel_rfl) rfl h (fun hc1 h=>?_) fun hc1 h=>?_)))
 ·refine ae ?_
  refine da [(4,pB false)] (by kernel_rfl) (aq ?_)
  exact zz r h rfl
 refine ah ?_
 refine cq (ai [11] [(12,pI (p0.length:Int)),(13,pI 0)] (by kernel_rfl) (eZ h fun q4 hq4 h=>?_))
 refine am (Y:=Unit×Unit) (fun (_,_)=>[]) (fun (_,_)=>[]) (fun (_,_)=>q4=Sum.inl ()) ?_ ?_
 ·refine az ?_
  refine aC (Y:=Unit) (S:=Int) _ hq4 (fun _ v2=>[(0,pL eS p0),(1,pL eS p1),(12,pI (p0.length:Int)),(13,pI v2)]) (fun _ v2=>[]) () (hY rfl) bv ?_
  rintro _ v2 o τ hb3;(try dsimp only at hb3);dsimp only [aw]
  refine ae (aj [(14,pB (decide (v2<(p0.length:Int))))] (by kernel_rfl) (bX (i4 rfl hb3 (fun hc5 hb3=>?_) fun hc5 hb3=>?_)))
  ·refine ah ?_
   refine du (ai [15] [(5,pI v2)] (by kernel_rfl) (bX (bo (ρd:=[]) [(0,0),(1,0),(2,0),(3,0),(4,0),(5,0),(6,0),(7,0),(8,0)] _ (List.Perm.refl _) (by kernel_rfl) rfl (aa hb3 fun m6 hm6 hb3=>aa hb3 fun m7 hm7 hb3=>bx 9 [] (rg 16 8) [(24,pB (!decide (m6=m7)))] (cJ 2 eS hm6 (cJ 6 eS hm7 bh)) (by kernel_rfl) (bG (cR rfl hb3 (fun hc8 hb3=>?_) fun hc8 hb3=>?_))))))
   ·refine ae ?_
    refine da [(4,pB false)] (by kernel_rfl) (dR ?_)
    refine aA hb3 (fun ht=>?_);subst ht
    refine cS ?_
    exact zz r h rfl
   refine ah ?_
   refine dt (ai [25] [(13,pI (IntKind.i64.wrap (v2+1)))] (by kernel_rfl) ?_)
   exact aP hb3 () (hY rfl) bv
  refine aG ?_
  refine cb hb3 (fun ht=>ak rfl ?_)
  exact av ((),()) nG bv ht.symm
 rintro ⟨_,_⟩ τ hz;(try dsimp only at hz);subst q4;(try dsimp only at h);dsimp only [aw]
 refine ae (da [(4,pB true)] (by kernel_rfl) ?_)
 exact zz r h rfl
def bm (p0:(List Zd)) (p1:(List Zd)) (p2:(Zd→Zd→Option Bool)):Option Bool:=cond ((p0.length:Int) != (p1.length:Int)) (some false) ((aW (S:=Int) (T:=(Unit)⊕(_)) (fun v2=>cond (decide (v2<(p0.length:Int))) ((idx p0 v2).bind fun m6=>(idx p1 v2).bind fun m8=>(p2 m6 m8).bind fun x10=>cond (!x10) (some (.inr (.inr false))) (some (.inl (IntKind.i64.wrap (v2+1))))) (some (.inr (.inl ())))) FUEL 0).bind fun q=>match q with | .inl _=>some true | .inr e=>some e)
theorem e7 {p0:(List Zd)} {p1:(List Zd)} {p2:(Zd→Zd→Option Bool)} {r:Bool} {g2:PV} (hg2:∀ {y0:Zd} {y1:Zd} {w:Bool},p2 y0 y1=some w→PFV g2 [.agg (au y0),.agg (au y1)] (pB w)) (h:bm p0 p1 p2=some r):PF 168 [pL Zd.enc p0,pL Zd.enc p1,g2] (pB r):=by
 unfold bm at h
 refine bd ?_
 refine dm Tryz.func168 rfl Tryz.ntmps168 Tryz.results168 rfl (aS [6] (by kernel_rfl) (cq (bI [10,11,12,13] [(14,pB ((p0.length:Int) != (p1.length:Int)))] (by kernel_rfl) rfl h (fun hc1 h=>?_) fun hc1 h=>?_)))
 ·refine ae ?_
  refine da [(6,pB false)] (by kernel_rfl) (aq ?_)
  exact zz r h rfl
 refine ah ?_
 refine cq (aj [(15,pL Zd.enc p0),(16,pI (p0.length:Int)),(17,pI 0)] (by kernel_rfl) (eZ h fun q4 hq4 h=>?_))
 refine am (Y:=Unit×Unit) (fun (_,_)=>[]) (fun (_,_)=>[]) (fun (_,_)=>q4=Sum.inl ()) ?_ ?_
 ·refine az ?_
  refine aC (Y:=Unit) (S:=Int) _ hq4 (fun _ v2=>[(1,pL Zd.enc p1),(2,g2),(15,pL Zd.enc p0),(16,pI (p0.length:Int)),(17,pI v2)]) (fun _ v2=>[]) () (mC rfl) bv ?_
  rintro _ v2 o τ hb3;(try dsimp only at hb3);dsimp only [aw]
  refine ae (aj [(18,pB (decide (v2<(p0.length:Int))))] (by kernel_rfl) (bX (i4 rfl hb3 (fun hc5 hb3=>?_) fun hc5 hb3=>?_)))
  ·refine ah ?_
   refine du (aa hb3 fun m6 hm6 hb3=>af (aY 3 [] [20] [(19,pI v2),(21,.agg (au m6))] (oS 1 Zd.enc (Zd.enc_eq _) hm6 bh) (by kernel_rfl) (al rfl (aM (cs:=[pI 0,pI 0,pN,pI 0,pI 0,pS ByteArray.empty,pN]) rfl rfl rfl rfl (fun b7=>aB 1 [(7,pI v2)] (by kernel_rfl) (aO rfl rfl (ap (vs:=(au m6)) rfl rfl rfl rfl rfl co mY (aH (cO hb3 fun m8 hm8 hb3=>af (aY 4 [] [22,23,24] [(25,.agg (au m8))] (oS 2 Zd.enc (Zd.enc_eq _) hm8 bh) (by kernel_rfl) (al rfl (aM (cs:=[pI 0,pI 0,pN,pI 0,pI 0,pS ByteArray.empty,pN]) rfl rfl rfl rfl (fun b9=>aO rfl rfl (ap (vs:=(au m8)) rfl rfl rfl rfl rfl co mY (aH (cO hb3 fun x10 hx10 hb3=>an [1,0] [26,27,28,29] [(30,pB (!x10))] (A2 3 (hg2 hx10) bh) (by kernel_rfl) (cR rfl hb3 (fun hc11 hb3=>?_) fun hc11 hb3=>?_)))))))))))))))))
   ·refine ae ?_
    refine da [(6,pB false)] (by kernel_rfl) (dR ?_)
    refine aA hb3 (fun ht=>?_);subst ht
    refine cS ?_
    exact zz r h rfl
   refine ah ?_
   refine dt (ai [31] [(17,pI (IntKind.i64.wrap (v2+1)))] (by kernel_rfl) ?_)
   exact aP hb3 () (mC rfl) bv
  refine aG ?_
  refine cb hb3 (fun ht=>ak rfl ?_)
  exact av ((),()) nG bv ht.symm
 rintro ⟨_,_⟩ τ hz;(try dsimp only at hz);subst q4;(try dsimp only at h);dsimp only [aw]
 refine ae (da [(6,pB true)] (by kernel_rfl) ?_)
 exact zz r h rfl
def dZ (rec:Zd→Zd→Option Bool) (p0:Zd) (p1:Zd):Option Bool:=(gd (((((p0.Kind == p1.Kind)&&(p0.Digits == p1.Digits))&&(p0.Tolerance == p1.Tolerance))&&(p0.Limit == p1.Limit))&&(decide (p0.Name=p1.Name))) (dY p0.Except p1.Except)).bind fun x3=>(gd ((((((p0.Kind == p1.Kind)&&(p0.Digits == p1.Digits))&&(p0.Tolerance == p1.Tolerance))&&(p0.Limit == p1.Limit))&&(decide (p0.Name=p1.Name)))&&x3) (bm p0.Args p1.Args (fun y4 y5=>rec y4 y5))).bind fun x6=>some (((((((p0.Kind == p1.Kind)&&(p0.Digits == p1.Digits))&&(p0.Tolerance == p1.Tolerance))&&(p0.Limit == p1.Limit))&&(decide (p0.Name=p1.Name)))&&x3)&&x6)
theorem mT {rec:Zd→Zd→Option Bool} (hrec:∀ {p0:Zd} {p1:Zd} {r:Bool},rec p0 p1=some r→PF 136 [.agg (au p0),.agg (au p1)] (pB r)) {p0:Zd} {p1:Zd} {r:Bool} (h:dZ rec p0 p1=some r):PF 136 [.agg (au p0),.agg (au p1)] (pB r):=by
 unfold dZ at h
 refine bd ?_
 refine dm Tryz.func136 rfl Tryz.ntmps136 Tryz.results136 rfl (cU rfl (bg (cs:=(au p0)) rfl rfl (fun b1=>al rfl (bg (cs:=(au p1)) rfl rfl (fun b2=>ba [4] (by kernel_rfl) (cO h fun x3 hx3 h=>aa h fun x6 hx6 h=>an [1,0,1,0,1,0,1,0,1,0,1,0,1,0] (rg 5 47) [(4,pB (((((((p0.Kind == p1.Kind)&&(p0.Digits == p1.Digits))&&(p0.Tolerance == p1.Tolerance))&&(p0.Limit == p1.Limit))&&(decide (p0.Name=p1.Name)))&&x3)&&x6))] (dT 38 (fun hc=>ls (cD hx3 hc)) (dT 45 (fun hc=>e7 (fun hr=>qQ (hrec hr)) (cD hx6 hc)) bh)) (by kernel_rfl) (dj ?_)))))))
 exact zz r h rfl
def d9 (n:Nat):Zd→Zd→Option Bool:=Nat.rec (motive:=fun _=>Zd→Zd→Option Bool) (fun _ _=>none) (fun _ ih=>dZ ih) n
def iJ (p0:Zd) (p1:Zd):Option Bool:=d9 FUEL p0 p1
theorem ns (n:Nat):∀ {p0:Zd} {p1:Zd} {r:Bool},d9 n p0 p1=some r→PF 136 [.agg (au p0),.agg (au p1)] (pB r):=by
 induction n with
 | zero=>intros;rename_i h;exact nomatch h
 | succ n ih=>intros;rename_i h;exact mT (fun hr=>ih hr) h
theorem nO {p0:Zd} {p1:Zd} {r:Bool} (h:iJ p0 p1=some r):PF 136 [.agg (au p0),.agg (au p1)] (pB r):=ns FUEL h
def ez (p1:Int):Option (List ByteArray):=(Dc 16 p1).bind fun _=>some []
theorem lE {p1:Int} {r:(List ByteArray)} (h:ez p1=some r):PCall 169 [.v (.slice none 0 0),pI p1] [] (fun pv ρ'=>∃ a c,pv=.v (.slice a r.length c)∧ρ'=[PRes.row a r.length c 9 1 (List.map eS r)]):=by
 unfold ez at h
 obtain ⟨u,hu,h⟩:=Option.bind_eq_some_iff.1 h
 obtain rfl:=osi h
 obtain ⟨hg0,hg1⟩:=E6 hu
 have ew:IntKind.i64.wrap (p1 - IntKind.i64.wrap (((0:Nat):Int) - ((0:Nat):Int)))=p1:=w7 hg0 hg1
 refine kX Tryz.func169 rfl Tryz.ntmps169 Tryz.results169 rfl ?_
 (repeat refine ae ?_)
 refine aS [4] (by kernel_rfl) (aN ?_)
 (repeat refine ae ?_)
 refine ai [5] [(6,pB (decide (p1<0)))] (by kernel_rfl) (aN ?_)
 refine iA rfl (fun hc=>absurd (of_decide_eq_true hc) (by omega)) (fun hc=>?_)
 refine ah (aN ?_)
 (repeat refine ae ?_)
 refine af (aB 2 [(8,pI p1),(9,.v (.slice none 0 0))] (by kernel_rfl) (bN rfl rfl rfl (uj rfl rfl (.p rfl)) (i9 [11,12,13,14] [(1,pI (IntKind.i64.wrap (p1 - IntKind.i64.wrap (((0:Nat):Int) - ((0:Nat):Int)))))] (by kernel_rfl) ?_)))
 rw [ew]
 refine aN ?_
 (repeat refine ae ?_)
 refine ai [15] [(16,pB (decide (0<p1)))] (by kernel_rfl) (aN ?_)
 refine iA rfl (fun hc=>?_) (fun hc=>?_)
 ·refine af ?_
  refine aB 2 [(17,.v (.slice none 0 0)),(18,.v (.slice none 0 0))] (by kernel_rfl) (bN rfl rfl rfl (uj rfl rfl (.p rfl)) (bN rfl rfl rfl (qq rfl rfl rfl (.p rfl) (.p rfl) rfl (Nat.zero_le _)) (aB 1 [(21,pI p1)] (by kernel_rfl) (uI 9 1 ?_))))
  refine al rfl (zP rfl rfl rfl rfl rfl rfl rfl rfl (of_decide_eq_true hc) hu (by exact aJ) (fun a c hac=>?_))
  refine aB 2 [(23,.v (.slice none 0 0)),(24,pI 0)] (by kernel_rfl) (bN rfl rfl rfl (qq (k:=0) rfl rfl rfl (.p rfl) (.p rfl) rfl (Nat.zero_le _)) (aI [(0,.v (.slice a 0 c))] (by kernel_rfl) (aN ?_)))
  (repeat refine ae ?_)
  refine ai [26] [(4,.v (.slice a 0 c))] (by kernel_rfl) (dj ?_)
  exact aR (dA (aT rfl)) cE ⟨_,_,rfl,rfl⟩
 refine ah ?_
 refine aN ?_
 (repeat refine ae ?_)
 refine ai [26] [(4,.v (.slice none 0 0))] (by kernel_rfl) (aN (cd 9 1 (bB ?_)))
 exact aR (dA (aT rfl)) cE ⟨_,_,rfl,rfl⟩
def cW (p0:(List (List ByteArray))):Option (List ByteArray):=(aW (S:=Int×Int) (T:=(Int)) (fun (v1,v2)=>cond (decide (v2<(p0.length:Int))) ((idx p0 v2).bind fun m7=>cond (decide ((IntKind.i64.wrap (v1+(m7.length:Int)))<0)) (none) (some (.inl ((IntKind.i64.wrap (v1+(m7.length:Int))),(IntKind.i64.wrap (v2+1)))))) (some (.inr v1))) FUEL (0,0)).bind fun v3=>(ez v3).bind fun x9=>(aW (S:=(List ByteArray)×Int) (T:=((List ByteArray))) (fun (l14,v17)=>cond (decide (v17<(p0.length:Int))) ((idx p0 v17).bind fun m25=>(app 16 l14 m25).bind fun l26=>some (.inl (l26,(IntKind.i64.wrap (v17+1))))) (some (.inr l14))) FUEL (x9,0)).bind fun l21=>some l21
theorem kF {p0:(List (List ByteArray))} {r:(List ByteArray)}  (h:cW p0=some r):PCall 138 [pL (eL eS) p0] [] (fun pv ρ'=>∃ a c,pv=.v (.slice a r.length c)∧ρ'=[PRes.row a r.length c 9 1 (List.map eS r)]):=by
 unfold cW at h
 refine dm Tryz.func138 rfl Tryz.ntmps138 Tryz.results138 rfl (aS [2] (by kernel_rfl) (bX (aj [(3,pI 0)] (by kernel_rfl) (cq (aj [(9,pL (eL eS) p0),(10,pI (p0.length:Int)),(11,pI 0)] (by kernel_rfl) (eZ h fun q5 hq5 h=>?_))))))
 refine am (Y:=Unit×Int) (fun (_,v3)=>[(0,pL (eL eS) p0),(3,pI v3)]) (fun (_,v3)=>[]) (fun (_,v3)=>q5=v3) ?_ ?_
 ·refine az ?_
  refine aC (Y:=Unit) (S:=Int×Int) _ hq5 (fun _ (v1,v2)=>[(0,pL (eL eS) p0),(3,pI v1),(9,pL (eL eS) p0),(10,pI (p0.length:Int)),(11,pI v2)]) (fun _ (v1,v2)=>[]) () (mC rfl) bv ?_
  rintro _ ⟨v1,v2⟩ o τ hb4;(try dsimp only at hb4);dsimp only [aw]
  refine ae (aj [(12,pB (decide (v2<(p0.length:Int))))] (by kernel_rfl) (bX (i4 rfl hb4 (fun hc6 hb4=>?_) fun hc6 hb4=>?_)))
  ·refine ah ?_
   refine du (aa hb4 fun m7 hm7 hb4=>an [] [13,14] [(5,pL eS m7)] (cJ 0 (eL eS) hm7 bh) (by kernel_rfl) (bX (ai [15,16,17,18] [(3,pI (IntKind.i64.wrap (v1+(m7.length:Int))))] (by kernel_rfl) (bX (bI [19] [(20,pB (decide ((IntKind.i64.wrap (v1+(m7.length:Int)))<0)))] (by kernel_rfl) rfl hb4 (fun hc8 hb4=>?_) fun hc8 hb4=>?_)))))
   ·refine af ?_
    exact absurd hb4 (by simp)
   refine ah ?_
   refine dt (ai [22] [(11,pI (IntKind.i64.wrap (v2+1)))] (by kernel_rfl) ?_)
   exact aP hb4 () (mC rfl) bv
  refine aG ?_
  refine cb hb4 (fun ht=>ak rfl ?_)
  exact av ((),v1) (lL rfl) bv ht.symm
 rintro ⟨_,v3⟩ τ hz;(try dsimp only at hz);subst q5;(try dsimp only at h);dsimp only [aw]
 refine ae (aa h fun x9 hx9 h=>af (aB 1 [(23,pI v3)] (by kernel_rfl) ?_))
 refine al rfl (bf rfl rfl (ρ1:=[]) (List.Perm.refl _) (lE hx9) ?_);rintro _ _ ⟨a10,c11,rfl,rfl⟩
 refine aI [(6,pO a10 x9.length c11)] (by kernel_rfl) (cq (aj [(25,pL (eL eS) p0),(26,pI (p0.length:Int)),(27,pI 0)] (by kernel_rfl) (eZ h fun q23 hq23 h=>?_)))
 refine am (Y:=(Option Addr×Nat)×((List ByteArray))) (fun ((a19,c20),l21)=>[(6,pO a19 l21.length c20)]) (fun ((a19,c20),l21)=>[PRes.row a19 l21.length c20 9 1 (List.map eS l21)]) (fun ((a19,c20),l21)=>q23=l21) ?_ ?_
 ·refine az ?_
  refine aC (Y:=Option Addr×Nat) (S:=(List ByteArray)×Int) _ hq23 (fun (a15,c16) (l14,v17)=>[(6,pO a15 l14.length c16),(25,pL (eL eS) p0),(26,pI (p0.length:Int)),(27,pI v17)]) (fun (a15,c16) (l14,v17)=>[PRes.row a15 l14.length c16 9 1 (List.map eS l14)]) (a10,c11) (hY rfl) cE ?_
  rintro ⟨a15,c16⟩ ⟨l14,v17⟩ o τ hb22;(try dsimp only at hb22);dsimp only [aw]
  refine ae (aj [(28,pB (decide (v17<(p0.length:Int))))] (by kernel_rfl) (bX (i4 rfl hb22 (fun hc24 hb22=>?_) fun hc24 hb22=>?_)))
  ·refine ah ?_
   refine du (aa hb22 fun m25 hm25 hb22=>an [] [29,30] [(8,pL eS m25)] (cJ 0 (eL eS) hm25 bh) (by kernel_rfl) (eZ hb22 fun l26 hl26 hb22=>af (aB 2 [(31,pO a15 l14.length c16),(32,pL eS m25)] (by kernel_rfl) ?_)))
   refine al rfl (gh (enc:=eS) rfl rfl rfl rfl rfl (fun _=>rfl) rfl rfl rfl (by exact aJ) hl26 (fun a27 c28=>?_))
   refine aI [(6,pO a27 l26.length c28)] (by kernel_rfl) (dt (ai [34] [(27,pI (IntKind.i64.wrap (v17+1)))] (by kernel_rfl) ?_))
   exact aP hb22 (a27,c28) (hY rfl) cE
  refine aG ?_
  refine cb hb22 (fun ht=>ak rfl ?_)
  exact av ((a15,c16),l14) (qV rfl) cE ht.symm
 rintro ⟨⟨a19,c20⟩,l21⟩ τ hz;(try dsimp only at hz);subst q23;(try dsimp only at h);dsimp only [aw]
 refine ae (ai [35] [(2,pO a19 l21.length c20)] (by kernel_rfl) (dj ?_))
 obtain rfl:=osi h
 exact aR (dA (aT rfl)) cE ⟨_,_,rfl,rfl⟩
def dH (p0:(List ByteArray)):Option (List ByteArray):=cond (decide (((p0.length:Nat):Int)<2)) (some p0) ((aW (S:=Int) (T:=(Unit)⊕(_)) (fun v2=>cond (decide (v2<((p0.length:Nat):Int))) ((idx p0 v2).bind fun m7=>(idx p0 (IntKind.i64.wrap (v2 - 1))).bind fun m8=>cond (decide (m7=m8)) ((sub p0 v2 (p0.length:Int)).bind fun l10=>(aW (S:=(List ByteArray)×Int×Int) (T:=((List ByteArray)×Int)) (fun (l12,v13,v14)=>cond (decide (v14<((p0.length - v2.toNat:Nat):Int))) (((ll v14).bind fun u25=>(idx l12 (v2+v14)).bind fun m26=>(ll (IntKind.i64.wrap (v14 - 1))).bind fun u27=>(idx l12 (v2+(IntKind.i64.wrap (v14 - 1)))).bind fun m28=>cond (!decide (m26=m28)) ((ll v14).bind fun u30=>(idx l12 (v2+v14)).bind fun m31=>(idx l12 v13).bind fun m32=>some ((l12.set v13.toNat m31),(IntKind.i64.wrap (v13+1)))) (some (l12,v13))).bind fun (l22,v23)=>some (.inl (l22,v23,(IntKind.i64.wrap (v14+1))))) (some (.inr (l12,v13)))) FUEL (p0,v2,1)).bind fun (l16,v17)=>(sub l16 v17 (l16.length:Int)).bind fun l34=>(sub (List.take v17.toNat l16++List.replicate (p0.length - v17.toNat) ByteArray.empty) 0 v17).bind fun l35=>some (.inr (.inr l35))) (some (.inl (IntKind.i64.wrap (v2+1))))) (some (.inr (.inl ())))) FUEL 1).bind fun q=>match q with | .inl _=>some p0 | .inr e=>some e)
theorem kr {p0:(List ByteArray)} {a_0:Option Addr}  {n_0:Nat}  {c_0:Nat} {r:(List ByteArray)}  (h:dH p0=some r):PCall 140 [.v (.slice a_0 n_0 c_0)] [PRes.row a_0 n_0 c_0 9 1 (List.map eS p0)] (fun pv ρ'=>∃ a c,pv=.v (.slice a r.length c)∧ρ'=[PRes.row a r.length c 9 1 (List.map eS r)]):=by
 unfold dH at h
 refine kX Tryz.func140 rfl Tryz.ntmps140 Tryz.results140 rfl ?_
 refine ln (enc:=eS) (xs:=p0) (a:=a_0) fy (fun hl ha=>?_);subst hl;clear ha
 refine ae (aS [2] (by kernel_rfl) (cq (bI [6,7] [(8,pB (decide (((p0.length:Nat):Int)<2)))] (by kernel_rfl) rfl h (fun hc1 h=>?_) fun hc1 h=>?_)))
 ·refine ae ?_
  refine ai [9] [(2,pO a_0 p0.length c_0)] (by kernel_rfl) (dj (aq ?_))
  obtain rfl:=osi h
  exact aR (dA (aT rfl)) cE ⟨_,_,rfl,rfl⟩
 refine ah ?_
 refine cq (aj [(3,pI 1)] (by kernel_rfl) (eZ h fun q5 hq5 h=>?_))
 refine am (Y:=Unit×Unit) (fun (_,_)=>[(0,pO a_0 p0.length c_0)]) (fun (_,_)=>[PRes.row a_0 p0.length c_0 9 1 (List.map eS p0)]) (fun (_,_)=>q5=Sum.inl ()) ?_ ?_
 ·refine az ?_
  refine aC (Y:=Unit) (S:=Int) _ hq5 (fun _ v2=>[(0,pO a_0 p0.length c_0),(3,pI v2)]) (fun _ v2=>[PRes.row a_0 p0.length c_0 9 1 (List.map eS p0)]) () (lL rfl) cE ?_
  rintro _ v2 o τ hb4;(try dsimp only at hb4);dsimp only [aw]
  refine cN (bI [10,11,12] [(13,pB (decide (v2<((p0.length:Nat):Int))))] (by kernel_rfl) rfl hb4 (fun hc6 hb4=>?_) fun hc6 hb4=>?_)
  ·refine ah ?_
   refine du (bo (ρd:=[]) [(0,0),(1,0),(2,0),(3,0),(4,0),(5,0),(6,0),(7,0),(8,0),(9,0)] _ (List.Perm.refl _) (by kernel_rfl) rfl (aa hb4 fun m7 hm7 hb4=>iD 2 [(16,pO a_0 p0.length c_0),(17,pI v2)] (by kernel_rfl) (lh rfl rfl rfl (dx (enc:=eS) (xs:=p0) rfl rfl rfl (.p rfl) fy (.p rfl) (fun _=>hm7)) (lh rfl rfl rfl (cY (sz:=1) (p:=pS m7) (enc:=eS) (xs:=p0) (a:=a_0) v2 0 m7 rfl (.p rfl) rfl fy (fun _=>hm7) rfl) (aa hb4 fun m8 hm8 hb4=>mF 3 [21] [(20,pO a_0 p0.length c_0),(22,pI (IntKind.i64.wrap (v2 - 1)))] (by kernel_rfl) (lh rfl rfl rfl (dx (enc:=eS) (xs:=p0) rfl rfl rfl (.p rfl) fy (.p rfl) (fun _=>hm8)) (lh rfl rfl rfl (cY (sz:=1) (p:=pS m8) (enc:=eS) (xs:=p0) (a:=a_0) (IntKind.i64.wrap (v2 - 1)) 0 m8 rfl (.p rfl) rfl fy (fun _=>hm8) rfl) (iD 1 [(25,pB (decide (m7=m8)))] (by kernel_rfl) (bG (cR rfl hb4 (fun hc9 hb4=>?_) fun hc9 hb4=>?_))))))))))
   ·refine ae ?_
    refine aa hb4 fun l10 hl10 hb4=>af (aB 2 [(26,pO a_0 p0.length c_0),(27,pI v2)] (by kernel_rfl) (bN rfl rfl rfl (mD (enc:=eS) (xs:=p0) rfl rfl rfl rfl rfl fy hl10) (aI [(4,pQ a_0 p0.length c_0 v2.toNat 1)] (by kernel_rfl) (cq (aj [(5,pI 1)] (by kernel_rfl) (eZ hb4 fun q19 hq19 hb4=>?_))))))
    refine am (Y:=Unit×((List ByteArray)×Int)) (fun (_,(l16,v17))=>[(0,pO a_0 p0.length c_0),(3,pI v17)]) (fun (_,(l16,v17))=>[PRes.row a_0 p0.length c_0 9 1 (List.map eS l16)]) (fun (_,(l16,v17))=>q19=(l16,v17)) ?_ ?_
    ·refine az ?_
     refine aC (Y:=Unit) (S:=(List ByteArray)×Int×Int) _ hq19 (fun _ (l12,v13,v14)=>[(0,pO a_0 p0.length c_0),(3,pI v13),(4,pQ a_0 p0.length c_0 v2.toNat 1),(5,pI v14)]) (fun _ (l12,v13,v14)=>[PRes.row a_0 p0.length c_0 9 1 (List.map eS l12)]) () (hY rfl) cE ?_
     rintro _ ⟨l12,v13,v14⟩ o τ hb18;(try dsimp only at hb18);dsimp only [aw]
     refine cN (bI [29,30,31] [(32,pB (decide (v14<((p0.length - v2.toNat:Nat):Int))))] (by kernel_rfl) rfl hb18 (fun hc20 hb18=>?_) fun hc20 hb18=>?_)
     ·refine ah ?_
      refine cO hb18 fun q24 hq24 hb18=>?_
      refine am (Y:=Unit×((List ByteArray)×Int)) (fun (_,(l22,v23))=>[(0,pO a_0 p0.length c_0),(3,pI v23),(4,pQ a_0 p0.length c_0 v2.toNat 1),(5,pI v14)]) (fun (_,(l22,v23))=>[PRes.row a_0 p0.length c_0 9 1 (List.map eS l22)]) (fun (_,(l22,v23))=>q24=(l22,v23)) ?_ ?_
      ·skip
       refine pg (bo (ρd:=[]) [(0,0),(1,0),(2,0),(3,0),(4,0),(5,0),(6,0),(7,0),(8,0),(9,0)] _ (List.Perm.refl _) (by kernel_rfl) rfl (aa hq24 fun u25 hu25 hq24=>aa hq24 fun m26 hm26 hq24=>iD 2 [(35,pQ a_0 p0.length c_0 v2.toNat 1),(36,pI v14)] (by kernel_rfl) (lh rfl rfl rfl (jy (enc:=eS) (xs:=l12) (i:=v2) rfl rfl rfl rfl rfl (gF hl10).1.1 (lm hu25) fy hm26) (lh rfl rfl rfl (cY (sz:=1) (p:=pS m26) (enc:=eS) (xs:=l12) (a:=a_0) (v2+v14) 0 m26 rfl (.p rfl) rfl fy (fun _=>hm26) rfl) (aa hq24 fun u27 hu27 hq24=>aa hq24 fun m28 hm28 hq24=>mF 3 [40] [(39,pQ a_0 p0.length c_0 v2.toNat 1),(41,pI (IntKind.i64.wrap (v14 - 1)))] (by kernel_rfl) (lh rfl rfl rfl (jy (enc:=eS) (xs:=l12) (i:=v2) rfl rfl rfl rfl rfl (gF hl10).1.1 (lm hu27) fy hm28) (lh rfl rfl rfl (cY (sz:=1) (p:=pS m28) (enc:=eS) (xs:=l12) (a:=a_0) (v2+(IntKind.i64.wrap (v14 - 1))) 0 m28 rfl (.p rfl) rfl fy (fun _=>hm28) rfl) (iD 1 [(44,pB (!decide (m26=m28)))] (by kernel_rfl) (bG (cR rfl hq24 (fun hc29 hq24=>?_) fun hc29 hq24=>?_))))))))))
       ·refine ae ?_
        refine aa hq24 fun u30 hu30 hq24=>aa hq24 fun m31 hm31 hq24=>af (aB 4 [(45,pO a_0 p0.length c_0),(46,pI v13),(47,pQ a_0 p0.length c_0 v2.toNat 1),(48,pI v14)] (by kernel_rfl) (bN rfl rfl rfl (jy (enc:=eS) (xs:=l12) (i:=v2) rfl rfl rfl rfl rfl (gF hl10).1.1 (lm hu30) fy hm31) (bN rfl rfl rfl (cY (sz:=1) (p:=pS m31) (enc:=eS) (xs:=l12) (a:=a_0) (v2+v14) 0 m31 rfl (.p rfl) rfl fy (fun _=>hm31) rfl) (aa hq24 fun m32 hm32 hq24=>bN rfl rfl rfl (dx (enc:=eS) (xs:=l12) rfl rfl rfl (.p rfl) fy (.p rfl) (fun _=>hm32)) (aO rfl rfl (mB (enc:=eS) (xs:=l12) (a:=a_0) v13 0 m32 m31 rfl rfl rfl rfl (fun _=>rfl) rfl rfl hm32 nB co (aH (aN (ai [52,53] [(3,pI (IntKind.i64.wrap (v13+1)))] (by kernel_rfl) (aF ?_))))))))))
        obtain rfl:=osi hq24
        exact av ((),((l12.set v13.toNat m31),(IntKind.i64.wrap (v13+1)))) (hY rfl) cE rfl
       refine ah ?_
       refine aF ?_
       obtain rfl:=osi hq24
       exact av ((),(l12,v13)) (hY rfl) cE rfl
      rintro ⟨_,⟨l22,v23⟩⟩ τ hz;(try dsimp only at hz);subst q24;(try dsimp only at hb18);dsimp only [aw]
      refine ai [33,34] [(5,pI (IntKind.i64.wrap (v14+1)))] (by kernel_rfl) ?_
      exact aP hb18 () (hY rfl) cE
     refine aG ?_
     refine cb hb18 (fun ht=>ak rfl ?_)
     exact av ((),(l12,v13)) (lL rfl) cE ht.symm
    rintro ⟨_,⟨l16,v17⟩⟩ τ hz;(try dsimp only at hz);subst q19;(try dsimp only at hb4);dsimp only [aw]
    refine ae (aa hb4 fun l34 hl34 hb4=>af (aB 2 [(54,pO a_0 p0.length c_0),(55,pI v17)] (by kernel_rfl) (bN rfl rfl rfl (mD (enc:=eS) (xs:=l16) rfl rfl rfl rfl rfl fy hl34) (aO rfl rfl (w0 (enc:=eS) (xs:=l16) (z0:=ByteArray.empty) (i:=v17) rfl rfl rfl rfl hl34 rfl rfl rfl rfl co (aH (cO hb4 fun l35 hl35 hb4=>af (aB 2 [(57,pO a_0 p0.length c_0),(58,pI v17)] (by kernel_rfl) ?_))))))))
    refine al rfl (wZ (enc:=eS) (xs:=(List.take v17.toNat l16++List.replicate (p0.length - v17.toNat) ByteArray.empty)) rfl rfl rfl rfl rfl (by exact aJ) hl35 ?_)
    refine aI [(2,pO a_0 l35.length c_0)] (by kernel_rfl) (dj (dR ?_))
    refine aA hb4 (fun ht=>?_);subst ht
    refine cS ?_
    obtain rfl:=osi h
    exact aR (dA (aT rfl)) cE ⟨_,_,rfl,rfl⟩
   refine ah ?_
   refine dt (ai [14,15] [(3,pI (IntKind.i64.wrap (v2+1)))] (by kernel_rfl) ?_)
   exact aP hb4 () (lL rfl) cE
  refine aG ?_
  refine cb hb4 (fun ht=>ak rfl ?_)
  exact av ((),()) (qV rfl) cE ht.symm
 rintro ⟨_,_⟩ τ hz;(try dsimp only at hz);subst q5;(try dsimp only at h);dsimp only [aw]
 refine ae (ai [60] [(2,pO a_0 p0.length c_0)] (by kernel_rfl) (dj ?_))
 obtain rfl:=osi h
 exact aR (dA (aT rfl)) cE ⟨_,_,rfl,rfl⟩
def cQ (p0:Zr) (p1:Zc) (p2:Int):Option Ze:=(aW (S:=Int) (T:=(Unit)⊕(_)) (fun v3=>cond (decide (v3<(p0.partners.length:Int))) ((idx p0.partners v3).bind fun m7=>cond ((lV p0.set_ (⟨p1.ID,m7⟩:Za)).getD false) (some (.inr (.inr (Ze.proved_ (⟨(⟨p1.Code,p2,true⟩:Zl),(⟨p1.ID,m7⟩:Za)⟩:Zq))))) (some (.inl (IntKind.i64.wrap (v3+1))))) (some (.inr (.inl ())))) FUEL 0).bind fun q=>match q with | .inl _=>some (Ze.plain_ (⟨(⟨p1.Code,p2,false⟩:Zl)⟩:Zs)) | .inr e=>some e
theorem iw {p0:Zr} {p1:Zc} {p2:Int} {m0_set_:Nat} {r:Ze}  (h:cQ p0 p1 p2=some r):PCall 98 [.agg [pL eI p0.partners,.v (.map (some m0_set_))],.agg (aK p1),pI p2] [PRes.mp (some m0_set_) (i5 Za.key vT p0.set_)] (fun pv ρ'=>pv=Ze.pv r∧ρ'=[PRes.mp (some m0_set_) (i5 Za.key vT p0.set_)]):=by
 unfold cQ at h
 refine dm Tryz.func98 rfl Tryz.ntmps98 Tryz.results98 rfl (cU rfl (bg (cs:=[pL eI p0.partners,.v (.map (some m0_set_))]) rfl rfl (fun b1=>al rfl (bg (cs:=(aK p1)) rfl rfl (fun b2=>ba [6] (by kernel_rfl) (cq (aL [1] [10] [(11,pL eI p0.partners),(12,pI (p0.partners.length:Int)),(13,pI 0)] (by kernel_rfl) (eZ h fun q5 hq5 h=>?_))))))))
 refine am (Y:=Unit×Unit) (fun (_,_)=>[(2,pI p2),(4,pP b2 0)]) (fun (_,_)=>[PRes.b b2 76 (aK p1),PRes.mp (some m0_set_) (i5 Za.key vT p0.set_)]) (fun (_,_)=>q5=Sum.inl ()) ?_ ?_
 ·refine az ?_
  refine aC (Y:=Unit) (S:=Int) _ hq5 (fun _ v3=>[(2,pI p2),(3,pP b1 0),(4,pP b2 0),(11,pL eI p0.partners),(12,pI (p0.partners.length:Int)),(13,pI v3)]) (fun _ v3=>[PRes.b b1 96 [pL eI p0.partners,.v (.map (some m0_set_))],PRes.b b2 76 (aK p1),PRes.mp (some m0_set_) (i5 Za.key vT p0.set_)]) () (rI rfl) (aZ (ar aJ) mR) ?_
  rintro _ v3 o τ hb4;(try dsimp only at hb4);dsimp only [aw]
  refine ae (aj [(14,pB (decide (v3<(p0.partners.length:Int))))] (by kernel_rfl) (bX (i4 rfl hb4 (fun hc6 hb4=>?_) fun hc6 hb4=>?_)))
  ·refine ah ?_
   refine du (aa hb4 fun m7 hm7 hb4=>an [] [15,16] [(8,pI m7)] (cJ 0 eI hm7 bh) (by kernel_rfl) (bX (af (cu 4 [1] [17,18,19] [(20,.agg [pI p1.ID,pI m7])] (by kernel_rfl) (al rfl (aM (cs:=[pI 0,pI 0]) rfl rfl rfl rfl (fun b8=>aO rfl rfl (ap (vs:=[pI p1.ID,pI m7]) rfl rfl rfl rfl rfl co sk (aH (bX (af (cu 3 [1,0] [21] [(22,.v (.map (some m0_set_))),(23,.agg [pI p1.ID,pI m7])] (by kernel_rfl) (bN rfl rfl rfl (show POpQ _ _ _ _ (pB ((lV p0.set_ (⟨p1.ID,m7⟩:Za)).getD false)) from Db (xs:=p0.set_) (k:=(⟨p1.ID,m7⟩:Za)) (ek:=Za.key) (vv:=vT) (z0:=false) rfl rfl rfl (fun _=>.v rfl) Za.kenc28 (.p rfl) (.p rfl) EY (EX Ga)) (aH (cR rfl hb4 (fun hc9 hb4=>?_) fun hc9 hb4=>?_)))))))))))))))
   ·refine ae ?_
    refine aL [2,0] (rg 25 7) [(6,Ze.pv (Ze.proved_ (⟨(⟨p1.Code,p2,true⟩:Zl),(⟨p1.ID,m7⟩:Za)⟩:Zq)))] (by kernel_rfl) (dj (dR ?_))
    refine aA hb4 (fun ht=>?_);subst ht
    refine cS ?_
    obtain rfl:=osi h
    exact aR (dA (aT rfl)) (aZ (ar (ar (ar aJ))) bv) ⟨rfl,rfl⟩
   refine ah ?_
   refine dt (ai [32] [(13,pI (IntKind.i64.wrap (v3+1)))] (by kernel_rfl) ?_)
   exact aP hb4 () (rI rfl) (aZ (ar aJ) (aZ (ar aJ) (aZ (ar aJ) bv)))
  refine aG ?_
  refine cb hb4 (fun ht=>ak rfl ?_)
  exact av ((),()) (lL rfl) (aZ (ar aJ) (aZ (ar aJ) bv)) ht.symm
 rintro ⟨_,_⟩ τ hz;(try dsimp only at hz);subst q5;(try dsimp only at h);dsimp only [aw]
 refine ae (aL [0] (rg 33 6) [(6,Ze.pv (Ze.plain_ (⟨(⟨p1.Code,p2,false⟩:Zl)⟩:Zs)))] (by kernel_rfl) (dj ?_))
 obtain rfl:=osi h
 exact aR (dA (aT rfl)) (aZ (ar aJ) bv) ⟨rfl,rfl⟩
def f8 (p0:Int):Option Int:=Option.bind (cond (decide (4294967296≤p0)) (some ((cx .u64 p0 32),32)) (some (p0,0))) (fun (v1,v2)=>Option.bind (cond (decide (65536≤v1)) (some ((cx .u64 v1 16),(IntKind.i64.wrap (v2+16)))) (some (v1,v2))) (fun (v5,v6)=>Option.bind (cond (decide (256≤v5)) (some ((cx .u64 v5 8),(IntKind.i64.wrap (v6+8)))) (some (v5,v6))) (fun (v9,v10)=>(idx (⟨#[0,1,2,2,3,3,3,3,4,4,4,4,4,4,4,4,5,5,5,5,5,5,5,5,5,5,5,5,5,5,5,5,6,6,6,6,6,6,6,6,6,6,6,6,6,6,6,6,6,6,6,6,6,6,6,6,6,6,6,6,6,6,6,6,7,7,7,7,7,7,7,7,7,7,7,7,7,7,7,7,7,7,7,7,7,7,7,7,7,7,7,7,7,7,7,7,7,7,7,7,7,7,7,7,7,7,7,7,7,7,7,7,7,7,7,7,7,7,7,7,7,7,7,7,7,7,7,7,8,8,8,8,8,8,8,8,8,8,8,8,8,8,8,8,8,8,8,8,8,8,8,8,8,8,8,8,8,8,8,8,8,8,8,8,8,8,8,8,8,8,8,8,8,8,8,8,8,8,8,8,8,8,8,8,8,8,8,8,8,8,8,8,8,8,8,8,8,8,8,8,8,8,8,8,8,8,8,8,8,8,8,8,8,8,8,8,8,8,8,8,8,8,8,8,8,8,8,8,8,8,8,8,8,8,8,8,8,8,8,8,8,8,8,8,8,8,8,8,8,8,8,8,8,8,8,8]⟩:ByteArray).data.toList (IntKind.u8.wrap v9)).bind fun c13=>lb ((IntKind.i64.wrap (v10+(IntKind.i64.wrap (c13.toNat:Int))))) (fun w14=>some w14))))
theorem qY {p0:Int} {r:Int}  (h:f8 p0=some r):PF 151 [pU p0] (pI r):=by
 unfold f8 at h
 refine bd ?_
 refine dm Tryz.func151 rfl Tryz.ntmps151 Tryz.results151 rfl (aj [(2,pI 0)] (by kernel_rfl) (cq (ai [3] [(4,pB (decide (4294967296≤p0)))] (by kernel_rfl) (eZ h fun q3 hq3 h=>?_))))
 refine am (Y:=Unit×(Int×Int)) (fun (_,(v1,v2))=>[(0,pU v1),(2,pI v2)]) (fun (_,(v1,v2))=>[]) (fun (_,(v1,v2))=>q3=(v1,v2)) ?_ ?_
 ·skip
  refine i4 rfl hq3 (fun hc4 hq3=>?_) fun hc4 hq3=>?_
  ·refine ae ?_
   refine ai [5,6] [(0,pU (cx .u64 p0 32))] (by kernel_rfl) (aN (aj [(2,pI 32)] (by kernel_rfl) ?_))
   obtain rfl:=osi hq3
   exact av ((),((cx .u64 p0 32),32)) (lL rfl) bv rfl
  refine ah ?_
  obtain rfl:=osi hq3
  exact av ((),(p0,0)) (lL rfl) bv rfl
 rintro ⟨_,⟨v1,v2⟩⟩ τ hz;(try dsimp only at hz);subst q3;(try dsimp only at h);dsimp only [aw]
 refine cN (ai [7] [(8,pB (decide (65536≤v1)))] (by kernel_rfl) (eZ h fun q7 hq7 h=>?_))
 refine am (Y:=Unit×(Int×Int)) (fun (_,(v5,v6))=>[(0,pU v5),(2,pI v6)]) (fun (_,(v5,v6))=>[]) (fun (_,(v5,v6))=>q7=(v5,v6)) ?_ ?_
 ·skip
  refine i4 rfl hq7 (fun hc8 hq7=>?_) fun hc8 hq7=>?_
  ·refine ae ?_
   refine ai [9,10] [(0,pU (cx .u64 v1 16))] (by kernel_rfl) (aN (ai [11,12] [(2,pI (IntKind.i64.wrap (v2+16)))] (by kernel_rfl) ?_))
   obtain rfl:=osi hq7
   exact av ((),((cx .u64 v1 16),(IntKind.i64.wrap (v2+16)))) (lL rfl) bv rfl
  refine ah ?_
  obtain rfl:=osi hq7
  exact av ((),(v1,v2)) (lL rfl) bv rfl
 rintro ⟨_,⟨v5,v6⟩⟩ τ hz;(try dsimp only at hz);subst q7;(try dsimp only at h);dsimp only [aw]
 refine cN (ai [13] [(14,pB (decide (256≤v5)))] (by kernel_rfl) (eZ h fun q11 hq11 h=>?_))
 refine am (Y:=Unit×(Int×Int)) (fun (_,(v9,v10))=>[(0,pU v9),(2,pI v10)]) (fun (_,(v9,v10))=>[]) (fun (_,(v9,v10))=>q11=(v9,v10)) ?_ ?_
 ·skip
  refine i4 rfl hq11 (fun hc12 hq11=>?_) fun hc12 hq11=>?_
  ·refine ae ?_
   refine ai [15,16] [(0,pU (cx .u64 v5 8))] (by kernel_rfl) (aN (ai [17,18] [(2,pI (IntKind.i64.wrap (v6+8)))] (by kernel_rfl) ?_))
   obtain rfl:=osi hq11
   exact av ((),((cx .u64 v5 8),(IntKind.i64.wrap (v6+8)))) (lL rfl) bv rfl
  refine ah ?_
  obtain rfl:=osi hq11
  exact av ((),(v5,v6)) (lL rfl) bv rfl
 rintro ⟨_,⟨v9,v10⟩⟩ τ hz;(try dsimp only at hz);subst q11;(try dsimp only at h);dsimp only [aw]
 refine ae (aa h fun c13 hc13 h=>?_)
 refine eQ h ?_;clear h;intro w14 hw14 h
 refine af (aY 6 [] (rg 19 5) [(24,pI (IntKind.i64.wrap (v10+(IntKind.i64.wrap (c13.toNat:Int)))))] (fosx 3 (s:=(⟨#[0,1,2,2,3,3,3,3,4,4,4,4,4,4,4,4,5,5,5,5,5,5,5,5,5,5,5,5,5,5,5,5,6,6,6,6,6,6,6,6,6,6,6,6,6,6,6,6,6,6,6,6,6,6,6,6,6,6,6,6,6,6,6,6,7,7,7,7,7,7,7,7,7,7,7,7,7,7,7,7,7,7,7,7,7,7,7,7,7,7,7,7,7,7,7,7,7,7,7,7,7,7,7,7,7,7,7,7,7,7,7,7,7,7,7,7,7,7,7,7,7,7,7,7,7,7,7,7,8,8,8,8,8,8,8,8,8,8,8,8,8,8,8,8,8,8,8,8,8,8,8,8,8,8,8,8,8,8,8,8,8,8,8,8,8,8,8,8,8,8,8,8,8,8,8,8,8,8,8,8,8,8,8,8,8,8,8,8,8,8,8,8,8,8,8,8,8,8,8,8,8,8,8,8,8,8,8,8,8,8,8,8,8,8,8,8,8,8,8,8,8,8,8,8,8,8,8,8,8,8,8,8,8,8,8,8,8,8,8,8,8,8,8,8,8,8,8,8,8,8,8,8,8,8,8,8]⟩:ByteArray)) hc13 bh) (by kernel_rfl) (bN rfl rfl rfl (bU rfl (.p (congrArg (fun z=>PV.v (Value.int .i64 z)) hw14))) (aH (dj ?_))))
 exact zz r h rfl
def dD (p0:Int):Option Int:=(f8 p0).bind fun x1=>some (IntKind.i64.wrap (64 - x1))
theorem lY {p0:Int} {r:Int}  (h:dD p0=some r):PF 213 [pU p0] (pI r):=by
 unfold dD at h
 refine bd ?_
 refine dm Tryz.func213 rfl Tryz.ntmps213 Tryz.results213 rfl (aS [2] (by kernel_rfl) (cO h fun x1 hx1 h=>an [] [3,4,5] [(2,pI (IntKind.i64.wrap (64 - x1)))] (bi 1 (qY hx1) bh) (by kernel_rfl) (dj ?_)))
 exact zz r h rfl
def ie (p0:Int) (p1:Int) (p2:Int):Option (Int×Int):=cond (p2 == 0) (none) (cond (decide (p2≤p0)) (none) (cond (p0 == 0) ((nz p2).bind fun u4=>(nz p2).bind fun u5=>some ((IntKind.u64.wrap (Int.tdiv p1 p2)),(Int.tmod p1 p2))) ((dD p2).bind fun x6=>(ll (IntKind.u64.wrap x6)).bind fun u7=>lb ((cx .u64 (fu .u64 p2 (IntKind.u64.wrap x6)) 32)) (fun w8=>lb ((dc .u64 (fu .u64 p2 (IntKind.u64.wrap x6)) 4294967295)) (fun w9=>(ll (IntKind.u64.wrap x6)).bind fun u10=>(ll (IntKind.u64.wrap (64 - (IntKind.u64.wrap x6)))).bind fun u11=>lb ((nY .u64 (fu .u64 p0 (IntKind.u64.wrap x6)) (cx .u64 p1 (IntKind.u64.wrap (64 - (IntKind.u64.wrap x6)))))) (fun w12=>(ll (IntKind.u64.wrap x6)).bind fun u13=>lb ((cx .u64 (fu .u64 p1 (IntKind.u64.wrap x6)) 32)) (fun w14=>lb ((dc .u64 (fu .u64 p1 (IntKind.u64.wrap x6)) 4294967295)) (fun w15=>(nz w8).bind fun u16=>lb ((IntKind.u64.wrap (w12 - (IntKind.u64.wrap ((IntKind.u64.wrap (Int.tdiv w12 w8))*w8))))) (fun w17=>(aW (S:=Int×Int) (T:=(Int)) (fun (v18,v19)=>cond ((decide (4294967296≤v18))||(decide ((IntKind.u64.wrap ((IntKind.u64.wrap (4294967296*v19))+w14))<(IntKind.u64.wrap (v18*w9))))) (cond (decide (4294967296≤(IntKind.u64.wrap (v19+w8)))) (some (.inr (IntKind.u64.wrap (v18 - 1)))) (some (.inl ((IntKind.u64.wrap (v18 - 1)),(IntKind.u64.wrap (v19+w8)))))) (some (.inr v18))) FUEL ((IntKind.u64.wrap (Int.tdiv w12 w8)),w17)).bind fun v20=>lb ((IntKind.u64.wrap ((IntKind.u64.wrap ((IntKind.u64.wrap (w12*4294967296))+w14)) - (IntKind.u64.wrap (v20*(fu .u64 p2 (IntKind.u64.wrap x6))))))) (fun w25=>(nz w8).bind fun u26=>lb ((IntKind.u64.wrap (w25 - (IntKind.u64.wrap ((IntKind.u64.wrap (Int.tdiv w25 w8))*w8))))) (fun w27=>(aW (S:=Int×Int) (T:=(Int)) (fun (v28,v29)=>cond ((decide (4294967296≤v29))||(decide ((IntKind.u64.wrap ((IntKind.u64.wrap (4294967296*v28))+w15))<(IntKind.u64.wrap (v29*w9))))) (cond (decide (4294967296≤(IntKind.u64.wrap (v28+w8)))) (some (.inr (IntKind.u64.wrap (v29 - 1)))) (some (.inl ((IntKind.u64.wrap (v28+w8)),(IntKind.u64.wrap (v29 - 1)))))) (some (.inr v29))) FUEL (w27,(IntKind.u64.wrap (Int.tdiv w25 w8)))).bind fun v30=>(ll (IntKind.u64.wrap x6)).bind fun u35=>lb ((IntKind.u64.wrap ((IntKind.u64.wrap (v20*4294967296))+v30))) (fun w36=>lb ((cx .u64 (IntKind.u64.wrap ((IntKind.u64.wrap ((IntKind.u64.wrap (w25*4294967296))+w15)) - (IntKind.u64.wrap (v30*(fu .u64 p2 (IntKind.u64.wrap x6)))))) (IntKind.u64.wrap x6))) (fun w37=>some (w36,w37))))))))))))))
theorem qZ {p0:Int} {p1:Int} {p2:Int} {r:(Int×Int)}  (h:ie p0 p1 p2=some r):PF 200 [pU p0,pU p1,pU p2] (.tup [pU r.1,pU r.2]):=by
 unfold ie at h
 refine bd ?_
 refine dm Tryz.func200 rfl Tryz.ntmps200 Tryz.results200 rfl (aS [6,7] (by kernel_rfl) (cq (bI [19] [(20,pB (p2 == 0))] (by kernel_rfl) rfl h (fun hc1 h=>?_) fun hc1 h=>?_)))
 ·refine af ?_
  exact absurd h (by simp)
 refine ah ?_
 refine cq (bI [22,23] [(24,pB (decide (p2≤p0)))] (by kernel_rfl) rfl h (fun hc2 h=>?_) fun hc2 h=>?_)
 ·refine af ?_
  exact absurd h (by simp)
 refine ah ?_
 refine cq (bI [26] [(27,pB (p0 == 0))] (by kernel_rfl) rfl h (fun hc3 h=>?_) fun hc3 h=>?_)
 ·refine ae ?_
  refine bo (ρd:=[]) [(0,0),(1,0),(2,0),(3,0),(4,0),(5,0),(6,0),(7,0)] _ (List.Perm.refl _) (by kernel_rfl) rfl (aa h fun u4 hu4 h=>aa h fun u5 hu5 h=>bx 8 [] (rg 28 6) [(6,pU (IntKind.u64.wrap (Int.tdiv p1 p2))),(7,pU (Int.tmod p1 p2))] (C4 2 hu4 (C4 5 hu5 bh)) (by kernel_rfl) (bG (dj (aq ?_))))
  obtain rfl:=osi h
  exact aR (cH (aT rfl) (aT rfl)) bv ⟨rfl,rfl⟩
 refine ah ?_
 refine cO h fun x6 hx6 h=>an [] [34,35,36] [(8,pU (IntKind.u64.wrap x6))] (bi 1 (lY hx6) bh) (by kernel_rfl) (cO h fun u7 hu7 h=>an [] [37,38,39] [(2,pU (fu .u64 p2 (IntKind.u64.wrap x6)))] (tI 2 hu7 bh) (by kernel_rfl) (bX ?_))
 refine eQ h ?_;clear h;intro w8 hw8 h
 refine af (cL 2 [40] [(41,pU (cx .u64 (fu .u64 p2 (IntKind.u64.wrap x6)) 32))] (by kernel_rfl) (bN rfl rfl rfl (bU rfl (.p (congrArg (fun z=>PV.v (Value.int .u64 z)) hw8))) (aH (bX ?_))))
 refine eQ h ?_;clear h;intro w9 hw9 h
 refine af (cL 2 [42] [(43,pU (dc .u64 (fu .u64 p2 (IntKind.u64.wrap x6)) 4294967295))] (by kernel_rfl) (bN rfl rfl rfl (bU rfl (.p (congrArg (fun z=>PV.v (Value.int .u64 z)) hw9))) (aH (cO h fun u10 hu10 h=>aa h fun u11 hu11 h=>?_))))
 refine eQ h ?_;clear h;intro w12 hw12 h
 refine af (aY 8 [] (rg 44 7) [(51,pU (nY .u64 (fu .u64 p0 (IntKind.u64.wrap x6)) (cx .u64 p1 (IntKind.u64.wrap (64 - (IntKind.u64.wrap x6))))))] (tI 2 hu10 (tI 6 hu11 bh)) (by kernel_rfl) (bN rfl rfl rfl (bU rfl (.p (congrArg (fun z=>PV.v (Value.int .u64 z)) hw12))) (aH (cO h fun u13 hu13 h=>an [] [52,53,54] [(12,pU (fu .u64 p1 (IntKind.u64.wrap x6)))] (tI 2 hu13 bh) (by kernel_rfl) (bX ?_)))))
 refine eQ h ?_;clear h;intro w14 hw14 h
 refine af (cL 2 [55] [(56,pU (cx .u64 (fu .u64 p1 (IntKind.u64.wrap x6)) 32))] (by kernel_rfl) (bN rfl rfl rfl (bU rfl (.p (congrArg (fun z=>PV.v (Value.int .u64 z)) hw14))) (aH (bX ?_))))
 refine eQ h ?_;clear h;intro w15 hw15 h
 refine af (cL 2 [57] [(58,pU (dc .u64 (fu .u64 p1 (IntKind.u64.wrap x6)) 4294967295))] (by kernel_rfl) (bN rfl rfl rfl (bU rfl (.p (congrArg (fun z=>PV.v (Value.int .u64 z)) hw15))) (aH (cO h fun u16 hu16 h=>an [] [59,60,61] [(15,pU (IntKind.u64.wrap (Int.tdiv w12 w8)))] (C4 2 hu16 bh) (by kernel_rfl) (bX ?_)))))
 refine eQ h ?_;clear h;intro w17 hw17 h
 refine af (cL 5 [62,63,64,65] [(66,pU (IntKind.u64.wrap (w12 - (IntKind.u64.wrap ((IntKind.u64.wrap (Int.tdiv w12 w8))*w8)))))] (by kernel_rfl) (bN rfl rfl rfl (bU rfl (.p (congrArg (fun z=>PV.v (Value.int .u64 z)) hw17))) (aH (cO h fun q22 hq22 h=>?_))))
 refine am (Y:=Unit×Int) (fun (_,v20)=>[(2,pU (fu .u64 p2 (IntKind.u64.wrap x6))),(8,pU (IntKind.u64.wrap x6)),(9,pU w8),(10,pU w9),(11,pU w12),(13,pU w14),(14,pU w15),(15,pU v20)]) (fun (_,v20)=>[]) (fun (_,v20)=>q22=v20) ?_ ?_
 ·refine az ?_
  refine aC (Y:=Unit) (S:=Int×Int) _ hq22 (fun _ (v18,v19)=>[(2,pU (fu .u64 p2 (IntKind.u64.wrap x6))),(8,pU (IntKind.u64.wrap x6)),(9,pU w8),(10,pU w9),(11,pU w12),(13,pU w14),(14,pU w15),(15,pU v18),(16,pU v19)]) (fun _ (v18,v19)=>[]) () (qI rfl) bv ?_
  rintro _ ⟨v18,v19⟩ o τ hb21;(try dsimp only at hb21);dsimp only [aw]
  refine cN (bI (rg 67 11) [(78,pB ((decide (4294967296≤v18))||(decide ((IntKind.u64.wrap ((IntKind.u64.wrap (4294967296*v19))+w14))<(IntKind.u64.wrap (v18*w9))))))] (by kernel_rfl) rfl hb21 (fun hc23 hb21=>?_) fun hc23 hb21=>?_)
  ·refine ah ?_
   refine aN (pg (ai [79,80] [(15,pU (IntKind.u64.wrap (v18 - 1)))] (by kernel_rfl) (bX (ai [81,82,83] [(16,pU (IntKind.u64.wrap (v19+w8)))] (by kernel_rfl) (bX (bI [84] [(85,pB (decide (4294967296≤(IntKind.u64.wrap (v19+w8)))))] (by kernel_rfl) rfl hb21 (fun hc24 hb21=>?_) fun hc24 hb21=>?_))))))
   ·refine aG ?_
    refine pn rfl (lT hb21 (fun ht=>ak rfl ?_))
    exact av ((),(IntKind.u64.wrap (v18 - 1))) (qH rfl) bv ht.symm
   refine ah ?_
   refine aF ?_
   exact aP hb21 () (qI rfl) bv
  refine aG ?_
  refine cb hb21 (fun ht=>ak rfl ?_)
  exact av ((),v18) (qH rfl) bv ht.symm
 rintro ⟨_,v20⟩ τ hz;(try dsimp only at hz);subst q22;(try dsimp only at h);dsimp only [aw]
 refine ae ?_
 refine eQ h ?_;clear h;intro w25 hw25 h
 refine af (cL 8 (rg 86 7) [(93,pU (IntKind.u64.wrap ((IntKind.u64.wrap ((IntKind.u64.wrap (w12*4294967296))+w14)) - (IntKind.u64.wrap (v20*(fu .u64 p2 (IntKind.u64.wrap x6)))))))] (by kernel_rfl) (bN rfl rfl rfl (bU rfl (.p (congrArg (fun z=>PV.v (Value.int .u64 z)) hw25))) (aH (cO h fun u26 hu26 h=>an [] [94,95,96] [(18,pU (IntKind.u64.wrap (Int.tdiv w25 w8)))] (C4 2 hu26 bh) (by kernel_rfl) (bX ?_)))))
 refine eQ h ?_;clear h;intro w27 hw27 h
 refine af (cL 5 [97,98,99,100] [(101,pU (IntKind.u64.wrap (w25 - (IntKind.u64.wrap ((IntKind.u64.wrap (Int.tdiv w25 w8))*w8)))))] (by kernel_rfl) (bN rfl rfl rfl (bU rfl (.p (congrArg (fun z=>PV.v (Value.int .u64 z)) hw27))) (aH (cO h fun q32 hq32 h=>?_))))
 refine am (Y:=Unit×Int) (fun (_,v30)=>[(2,pU (fu .u64 p2 (IntKind.u64.wrap x6))),(8,pU (IntKind.u64.wrap x6)),(14,pU w15),(15,pU v20),(17,pU w25),(18,pU v30)]) (fun (_,v30)=>[]) (fun (_,v30)=>q32=v30) ?_ ?_
 ·refine az ?_
  refine aC (Y:=Unit) (S:=Int×Int) _ hq32 (fun _ (v28,v29)=>[(2,pU (fu .u64 p2 (IntKind.u64.wrap x6))),(8,pU (IntKind.u64.wrap x6)),(9,pU w8),(10,pU w9),(14,pU w15),(15,pU v20),(16,pU v28),(17,pU w25),(18,pU v29)]) (fun _ (v28,v29)=>[]) () (qI rfl) bv ?_
  rintro _ ⟨v28,v29⟩ o τ hb31;(try dsimp only at hb31);dsimp only [aw]
  refine cN (bI (rg 102 11) [(113,pB ((decide (4294967296≤v29))||(decide ((IntKind.u64.wrap ((IntKind.u64.wrap (4294967296*v28))+w15))<(IntKind.u64.wrap (v29*w9))))))] (by kernel_rfl) rfl hb31 (fun hc33 hb31=>?_) fun hc33 hb31=>?_)
  ·refine ah ?_
   refine aN (pg (ai [114,115] [(18,pU (IntKind.u64.wrap (v29 - 1)))] (by kernel_rfl) (bX (ai [116,117,118] [(16,pU (IntKind.u64.wrap (v28+w8)))] (by kernel_rfl) (bX (bI [119] [(120,pB (decide (4294967296≤(IntKind.u64.wrap (v28+w8)))))] (by kernel_rfl) rfl hb31 (fun hc34 hb31=>?_) fun hc34 hb31=>?_))))))
   ·refine aG ?_
    refine pn rfl (lT hb31 (fun ht=>ak rfl ?_))
    exact av ((),(IntKind.u64.wrap (v29 - 1))) (rI rfl) bv ht.symm
   refine ah ?_
   refine aF ?_
   exact aP hb31 () (qI rfl) bv
  refine aG ?_
  refine cb hb31 (fun ht=>ak rfl ?_)
  exact av ((),v29) (rI rfl) bv ht.symm
 rintro ⟨_,v30⟩ τ hz;(try dsimp only at hz);subst q32;(try dsimp only at h);dsimp only [aw]
 refine ae (aa h fun u35 hu35 h=>?_)
 refine eQ h ?_;clear h;intro w36 hw36 h
 refine af (aY 14 [] [121,122,123,125,126,127,128,129,130,131,132,133] [(124,pU (IntKind.u64.wrap ((IntKind.u64.wrap (v20*4294967296))+v30))),(134,pU (cx .u64 (IntKind.u64.wrap ((IntKind.u64.wrap ((IntKind.u64.wrap (w25*4294967296))+w15)) - (IntKind.u64.wrap (v30*(fu .u64 p2 (IntKind.u64.wrap x6)))))) (IntKind.u64.wrap x6)))] (tI 13 hu35 bh) (by kernel_rfl) (bN rfl rfl rfl (bU rfl (.p (congrArg (fun z=>PV.v (Value.int .u64 z)) hw36))) ?_))
 refine eQ h ?_;clear h;intro w37 hw37 h
 refine bN rfl rfl rfl (bU rfl (.p (congrArg (fun z=>PV.v (Value.int .u64 z)) hw37))) (aH (dj ?_))
 obtain rfl:=osi h
 exact aR (cH (aT rfl) (aT rfl)) bv ⟨rfl,rfl⟩
def j7 (p0:Int) (p1:Int) (p2:Int) (p3:Int):Option Bool:=cond (p3 == 1) (some (decide (0<p1))) (cond (p3 == 2) (some (decide ((IntKind.u64.wrap (p2 - p1))≤p1))) (cond (p3 == 3) (some ((decide ((IntKind.u64.wrap (p2 - p1))<p1))||((p1 == (IntKind.u64.wrap (p2 - p1)))&&((Int.tmod p0 2) == 1)))) (some false)))
theorem tK {p0:Int} {p1:Int} {p2:Int} {p3:Int} {r:Bool}  (h:j7 p0 p1 p2 p3=some r):PF 201 [pU p0,pU p1,pU p2,pI p3] (pB r):=by
 unfold j7 at h
 refine bd ?_
 refine dm Tryz.func201 rfl Tryz.ntmps201 Tryz.results201 rfl (aS [8] (by kernel_rfl) (bX (ai [10,11,12] [(9,pU (IntKind.u64.wrap (p2 - p1)))] (by kernel_rfl) (cq (aj [(13,pI p3)] (by kernel_rfl) (aN (pg (bI [15] [(14,pB (p3 == 1))] (by kernel_rfl) rfl h (fun hc1 h=>?_) fun hc1 h=>?_))))))))
 ·refine ae ?_
  refine ai [16,17] [(8,pB (decide (0<p1)))] (by kernel_rfl) (dj (dR ?_))
  exact zz r h rfl
 refine ae ?_
 refine bI [19] [(18,pB (p3 == 2))] (by kernel_rfl) rfl h (fun hc2 h=>?_) fun hc2 h=>?_
 ·refine ae ?_
  refine ai [20,21,22] [(8,pB (decide ((IntKind.u64.wrap (p2 - p1))≤p1)))] (by kernel_rfl) (dj (dR ?_))
  exact zz r h rfl
 refine ae ?_
 refine bI [24] [(23,pB (p3 == 3))] (by kernel_rfl) rfl h (fun hc3 h=>?_) fun hc3 h=>?_
 ·refine ae ?_
  refine ai (rg 25 13) [(8,pB ((decide ((IntKind.u64.wrap (p2 - p1))<p1))||((p1 == (IntKind.u64.wrap (p2 - p1)))&&((Int.tmod p0 2) == 1))))] (by kernel_rfl) (dj (dR ?_))
  exact zz r h rfl
 refine ah ?_
 refine aF (bX (da [(8,pB false)] (by kernel_rfl) ?_))
 exact zz r h rfl
def nP (p0:Zo) (p1:Int) (p2:Int):Option (Int×Int):=cond (((p1 == 0)||(decide (p2<0)))||(decide (3<p2))) (some ((0:Int),(2:Int))) (cond (decide (p1≤p0.Hi)) (some ((0:Int),(3:Int))) ((ie p0.Hi p0.Lo p1).bind fun x4=>(j7 x4.1 x4.2 p1 p2).bind fun x5=>cond (!x5) (some (x4.1,(0:Int))) (cond (x4.1 == 18446744073709551615) (some ((0:Int),(3:Int))) (some ((IntKind.u64.wrap (x4.1+1)),(0:Int))))))
theorem yl {p0:Zo} {p1:Int} {p2:Int} {r:(Int×Int)}  (h:nP p0 p1 p2=some r):PF 171 [.agg [pU p0.Hi,pU p0.Lo],pU p1,pI p2] (.tup [pU r.1,pI r.2]):=by
 unfold nP at h
 refine bd ?_
 refine dm Tryz.func171 rfl Tryz.ntmps171 Tryz.results171 rfl (cU rfl (bg (cs:=[pU p0.Hi,pU p0.Lo]) rfl rfl (fun b1=>ba [6,7] (by kernel_rfl) (cq (bI (rg 10 9) [(19,pB (((p1 == 0)||(decide (p2<0)))||(decide (3<p2))))] (by kernel_rfl) rfl h (fun hc2 h=>?_) fun hc2 h=>?_)))))
 ·refine ae ?_
  refine da [(6,pU 0),(7,pI 2)] (by kernel_rfl) (aq ?_)
  obtain rfl:=osi h
  exact aR (cH (aT rfl) (aT rfl)) bv ⟨rfl,rfl⟩
 refine ah ?_
 refine cq (aL [0] [20,21,22] [(23,pB (decide (p1≤p0.Hi)))] (by kernel_rfl) (cR rfl h (fun hc3 h=>?_) fun hc3 h=>?_))
 ·refine ae ?_
  refine da [(6,pU 0),(7,pI 3)] (by kernel_rfl) (aq ?_)
  obtain rfl:=osi h
  exact aR (cH (aT rfl) (aT rfl)) bv ⟨rfl,rfl⟩
 refine ah ?_
 refine cO h fun x4 hx4 h=>an [0,0] ((rg 25 6)++[24,31,32]) [(8,pU x4.1),(9,pU x4.2)] (bi 5 (qZ hx4) bh) (by kernel_rfl) (cq (aa h fun x5 hx5 h=>an [] (rg 33 5) [(38,pB (!x5))] (bi 4 (tK hx5) bh) (by kernel_rfl) (cR rfl h (fun hc6 h=>?_) fun hc6 h=>?_)))
 ·refine ae ?_
  refine ai [39] [(6,pU x4.1),(7,pI 0)] (by kernel_rfl) (dj (aq ?_))
  obtain rfl:=osi h
  exact aR (cH (aT rfl) (aT rfl)) bv ⟨rfl,rfl⟩
 refine ah ?_
 refine cq (bI [40] [(41,pB (x4.1 == 18446744073709551615))] (by kernel_rfl) rfl h (fun hc7 h=>?_) fun hc7 h=>?_)
 ·refine ae ?_
  refine da [(6,pU 0),(7,pI 3)] (by kernel_rfl) (aq ?_)
  obtain rfl:=osi h
  exact aR (cH (aT rfl) (aT rfl)) bv ⟨rfl,rfl⟩
 refine ah ?_
 refine bX (ai [42,43] [(6,pU (IntKind.u64.wrap (x4.1+1))),(7,pI 0)] (by kernel_rfl) (dj ?_))
 obtain rfl:=osi h
 exact aR (cH (aT rfl) (aT rfl)) bv ⟨rfl,rfl⟩
def ig (p0:Int) (p1:Int):Option (Int×Int):=lb ((IntKind.u64.wrap ((dc .u64 p0 4294967295)*(dc .u64 p1 4294967295)))) (fun w1=>lb ((IntKind.u64.wrap ((IntKind.u64.wrap ((cx .u64 p0 32)*(dc .u64 p1 4294967295)))+(cx .u64 w1 32)))) (fun w2=>lb ((IntKind.u64.wrap ((dc .u64 w2 4294967295)+(IntKind.u64.wrap ((dc .u64 p0 4294967295)*(cx .u64 p1 32)))))) (fun w3=>lb ((IntKind.u64.wrap ((IntKind.u64.wrap ((IntKind.u64.wrap ((cx .u64 p0 32)*(cx .u64 p1 32)))+(cx .u64 w2 32)))+(cx .u64 w3 32)))) (fun w4=>some (w4,(IntKind.u64.wrap (p0*p1)))))))
theorem ra {p0:Int} {p1:Int} {r:(Int×Int)}  (h:ig p0 p1=some r):PF 202 [pU p0,pU p1] (.tup [pU r.1,pU r.2]):=by
 unfold ig at h
 refine bd ?_
 refine dm Tryz.func202 rfl Tryz.ntmps202 Tryz.results202 rfl (aS [4,5] (by kernel_rfl) (bX (ai [14,15] [(6,pU (dc .u64 p0 4294967295))] (by kernel_rfl) (bX (ai [16,17] [(7,pU (cx .u64 p0 32))] (by kernel_rfl) (bX (ai [18,19] [(8,pU (dc .u64 p1 4294967295))] (by kernel_rfl) (bX (ai [20,21] [(9,pU (cx .u64 p1 32))] (by kernel_rfl) (bX ?_))))))))))
 refine eQ h ?_;clear h;intro w1 hw1 h
 refine af (cL 3 [22,23] [(24,pU (IntKind.u64.wrap ((dc .u64 p0 4294967295)*(dc .u64 p1 4294967295))))] (by kernel_rfl) (bN rfl rfl rfl (bU rfl (.p (congrArg (fun z=>PV.v (Value.int .u64 z)) hw1))) (aH (bX ?_))))
 refine eQ h ?_;clear h;intro w2 hw2 h
 refine af (cL 6 (rg 25 5) [(30,pU (IntKind.u64.wrap ((IntKind.u64.wrap ((cx .u64 p0 32)*(dc .u64 p1 4294967295)))+(cx .u64 w1 32))))] (by kernel_rfl) (bN rfl rfl rfl (bU rfl (.p (congrArg (fun z=>PV.v (Value.int .u64 z)) hw2))) (aH (bX (ai [31,32] [(12,pU (dc .u64 w2 4294967295))] (by kernel_rfl) (bX (ai [33,34] [(13,pU (cx .u64 w2 32))] (by kernel_rfl) (bX ?_))))))))
 refine eQ h ?_;clear h;intro w3 hw3 h
 refine af (cL 5 [35,36,37,38] [(39,pU (IntKind.u64.wrap ((dc .u64 w2 4294967295)+(IntKind.u64.wrap ((dc .u64 p0 4294967295)*(cx .u64 p1 32))))))] (by kernel_rfl) (bN rfl rfl rfl (bU rfl (.p (congrArg (fun z=>PV.v (Value.int .u64 z)) hw3))) (aH (bX ?_))))
 refine eQ h ?_;clear h;intro w4 hw4 h
 refine af (cL 8 (rg 40 7) [(47,pU (IntKind.u64.wrap ((IntKind.u64.wrap ((IntKind.u64.wrap ((cx .u64 p0 32)*(cx .u64 p1 32)))+(cx .u64 w2 32)))+(cx .u64 w3 32))))] (by kernel_rfl) (bN rfl rfl rfl (bU rfl (.p (congrArg (fun z=>PV.v (Value.int .u64 z)) hw4))) (aH (bX (ai [48,49,50] [(5,pU (IntKind.u64.wrap (p0*p1)))] (by kernel_rfl) (dj ?_))))))
 obtain rfl:=osi h
 exact aR (cH (aT rfl) (aT rfl)) bv ⟨rfl,rfl⟩
def jG (p0:Int) (p1:Int):Option Zo:=(ig p0 p1).bind fun x2=>some (⟨x2.1,x2.2⟩:Zo)
theorem ot {p0:Int} {p1:Int} {r:Zo}  (h:jG p0 p1=some r):PF 172 [pU p0,pU p1] (.agg [pU r.Hi,pU r.Lo]):=by
 unfold jG at h
 refine bd ?_
 refine dm Tryz.func172 rfl Tryz.ntmps172 Tryz.results172 rfl (cU rfl (aM (cs:=[pU 0,pU 0]) rfl rfl rfl rfl (fun b1=>aH (cO h fun x2 hx2 h=>an [] [8,9,10,7,11,12] [(5,pU x2.1),(6,pU x2.2)] (bi 2 (ra hx2) bh) (by kernel_rfl) (bX (af (cL 3 [13,14] [(15,.agg [pU x2.1,pU x2.2])] (by kernel_rfl) (aO rfl rfl (ap (vs:=[pU x2.1,pU x2.2]) rfl rfl rfl rfl rfl co sk (aH (dj ?_)))))))))))
 obtain rfl:=osi h
 exact aR (dA (dJ rfl fy rfl)) bv ⟨rfl,rfl⟩
def lZ (p0:Int) (p1:Int) (p2:Int) (p3:Int):Option (Int×Int):=(jG p0 p1).bind fun x1=>(nP x1 p2 p3).bind fun x2=>some (x2.1,x2.2)
theorem tL {p0:Int} {p1:Int} {p2:Int} {p3:Int} {r:(Int×Int)}  (h:lZ p0 p1 p2 p3=some r):PF 141 [pU p0,pU p1,pU p2,pI p3] (.tup [pU r.1,pI r.2]):=by
 unfold lZ at h
 refine bd ?_
 refine dm Tryz.func141 rfl Tryz.ntmps141 Tryz.results141 rfl (aS [8,9] (by kernel_rfl) (cO h fun x1 hx1 h=>aa h fun x2 hx2 h=>an [] (rg 10 8) [(8,pU x2.1),(9,pI x2.2)] (bi 2 (ot hx1) (bi 5 (yl hx2) bh)) (by kernel_rfl) (dj ?_)))
 obtain rfl:=osi h
 exact aR (cH (aT rfl) (aT rfl)) bv ⟨rfl,rfl⟩
def fJ (p0:Int) (p1:Int) (p2:Int):Option Int:=(lZ (IntKind.u64.wrap p0) (IntKind.u64.wrap p1) (IntKind.u64.wrap p2) 1).bind fun x1=>cond ((x1.2 != 0)||(decide (1000000000000<x1.1))) (some (1000000000000:Int)) (some (IntKind.i64.wrap x1.1))
theorem o9 {p0:Int} {p1:Int} {p2:Int} {r:Int}  (h:fJ p0 p1 p2=some r):PF 99 [pI p0,pI p1,pI p2] (pI r):=by
 unfold fJ at h
 refine bd ?_
 refine dm Tryz.func99 rfl Tryz.ntmps99 Tryz.results99 rfl (aS [6] (by kernel_rfl) (cO h fun x1 hx1 h=>an [] ((rg 10 7)++[9,17,18]) [(7,pU x1.1),(8,pI x1.2)] (bi 6 (tL hx1) bh) (by kernel_rfl) (cq (bI (rg 19 5) [(24,pB ((x1.2 != 0)||(decide (1000000000000<x1.1))))] (by kernel_rfl) rfl h (fun hc2 h=>?_) fun hc2 h=>?_))))
 ·refine ae ?_
  refine da [(6,pI 1000000000000)] (by kernel_rfl) (aq ?_)
  exact zz r h rfl
 refine ah ?_
 refine bX (ai [25,26] [(6,pI (IntKind.i64.wrap x1.1))] (by kernel_rfl) (dj ?_))
 exact zz r h rfl
def mJ (p0:(List Int)):Option Int:=(aW (S:=Int) (T:=(Unit)⊕(_)) (fun v1=>cond (decide (v1<(p0.length:Int))) ((idx p0 v1).bind fun m5=>cond (m5 != 0) (some (.inr (.inr m5))) (some (.inl (IntKind.i64.wrap (v1+1))))) (some (.inr (.inl ())))) FUEL 0).bind fun q=>match q with | .inl _=>some (0:Int) | .inr e=>some e
theorem wl {p0:(List Int)} {r:Int}  (h:mJ p0=some r):PF 102 [pL eI p0] (pI r):=by
 unfold mJ at h
 refine bd ?_
 refine dm Tryz.func102 rfl Tryz.ntmps102 Tryz.results102 rfl (aS [2] (by kernel_rfl) (bX (aj [(3,pI 0)] (by kernel_rfl) (cq (aj [(6,pL eI p0),(7,pI (p0.length:Int)),(8,pI 0)] (by kernel_rfl) (eZ h fun q3 hq3 h=>?_))))))
 refine am (Y:=Unit×Unit) (fun (_,_)=>[(3,pI 0)]) (fun (_,_)=>[]) (fun (_,_)=>q3=Sum.inl ()) ?_ ?_
 ·refine az ?_
  refine aC (Y:=Unit) (S:=Int) _ hq3 (fun _ v1=>[(3,pI 0),(6,pL eI p0),(7,pI (p0.length:Int)),(8,pI v1)]) (fun _ v1=>[]) () (hY rfl) bv ?_
  rintro _ v1 o τ hb2;(try dsimp only at hb2);dsimp only [aw]
  refine ae (aj [(9,pB (decide (v1<(p0.length:Int))))] (by kernel_rfl) (bX (i4 rfl hb2 (fun hc4 hb2=>?_) fun hc4 hb2=>?_)))
  ·refine ah ?_
   refine du (aa hb2 fun m5 hm5 hb2=>an [] [10,11] [(5,pI m5)] (cJ 0 eI hm5 bh) (by kernel_rfl) (bX (bI [12,13] [(14,pB (m5 != 0))] (by kernel_rfl) rfl hb2 (fun hc6 hb2=>?_) fun hc6 hb2=>?_)))
   ·refine ae ?_
    refine ai [15] [(2,pI m5)] (by kernel_rfl) (dj (dR ?_))
    refine aA hb2 (fun ht=>?_);subst ht
    refine cS ?_
    exact zz r h rfl
   refine ah ?_
   refine dt (ai [16] [(8,pI (IntKind.i64.wrap (v1+1)))] (by kernel_rfl) ?_)
   exact aP hb2 () (hY rfl) bv
  refine aG ?_
  refine cb hb2 (fun ht=>ak rfl ?_)
  exact av ((),()) (qV rfl) bv ht.symm
 rintro ⟨_,_⟩ τ hz;(try dsimp only at hz);subst q3;(try dsimp only at h);dsimp only [aw]
 refine ae (ai [17] [(2,pI 0)] (by kernel_rfl) (dj ?_))
 exact zz r h rfl
def eR (p0:Za) (p1:Za):Option Int:=(fg p0.Product p1.Product).bind fun x3=>(fg p0.Agreement p1.Agreement).bind fun x4=>(mJ [x3,x4]).bind fun x6=>some x6
theorem ma {p0:Za} {p1:Za} {r:Int}  (h:eR p0 p1=some r):PF 50 [.agg [pI p0.Product,pI p0.Agreement],.agg [pI p1.Product,pI p1.Agreement]] (pI r):=by
 unfold eR at h
 refine bd ?_
 refine dm Tryz.func50 rfl Tryz.ntmps50 Tryz.results50 rfl (cU rfl (bg (cs:=[pI p0.Product,pI p0.Agreement]) rfl rfl (fun b1=>al rfl (bg (cs:=[pI p1.Product,pI p1.Agreement]) rfl rfl (fun b2=>ba [4] (by kernel_rfl) (bX (bo (ρd:=[]) [(0,0),(1,0),(2,0),(3,0),(5,0),(6,0),(7,0),(8,0),(4,1),(9,1),(10,1),(11,1),(12,0)] _ (List.Perm.refl _) (by kernel_rfl) rfl (aa h fun x3 hx3 h=>aa h fun x4 hx4 h=>bx 10 [1,0,1,0] [5,6,7,8,10,11,12,13] [(9,pI x3),(14,pI x4)] (bi 8 (jz hx3) (bi 9 (jz hx4) bh)) (by kernel_rfl) ?_))))))))
 refine jF rfl rfl rfl (pl_fz (bA rfl rfl rfl rfl rfl (fU rfl (fU rfl iX)) rfl rfl rfl rfl (fun b5=>⟨_,_,_,_,_,_,_,rfl,by (repeat (first | exact aJ | apply ar)),?_⟩)))
 refine aa h fun x6 hx6 h=>bx 2 [] [16] [(4,pI x6)] (bi 0 (wl hx6) bh) (by kernel_rfl) (bG (dj ?_))
 exact zz r h rfl
def bw (p0:(List Za)):Option (List Za):=cond (decide (((p0.length:Nat):Int)<2)) (some p0) ((aW (S:=Int) (T:=(Unit)⊕(_)) (fun v2=>cond (decide (v2<((p0.length:Nat):Int))) ((idx p0 v2).bind fun m7=>(idx p0 (IntKind.i64.wrap (v2 - 1))).bind fun m8=>cond (Za.eqb m7 m8) ((sub p0 v2 (p0.length:Int)).bind fun l10=>(aW (S:=(List Za)×Int×Int) (T:=((List Za)×Int)) (fun (l12,v13,v14)=>cond (decide (v14<((p0.length - v2.toNat:Nat):Int))) (((ll v14).bind fun u25=>(idx l12 (v2+v14)).bind fun m26=>(ll (IntKind.i64.wrap (v14 - 1))).bind fun u27=>(idx l12 (v2+(IntKind.i64.wrap (v14 - 1)))).bind fun m28=>cond (!(Za.eqb m26 m28)) ((ll v14).bind fun u30=>(idx l12 (v2+v14)).bind fun m31=>(idx l12 v13).bind fun m32=>some ((l12.set v13.toNat m31),(IntKind.i64.wrap (v13+1)))) (some (l12,v13))).bind fun (l22,v23)=>some (.inl (l22,v23,(IntKind.i64.wrap (v14+1))))) (some (.inr (l12,v13)))) FUEL (p0,v2,1)).bind fun (l16,v17)=>(sub l16 v17 (l16.length:Int)).bind fun l34=>(sub (List.take v17.toNat l16++List.replicate (p0.length - v17.toNat) (⟨(0:Int),(0:Int)⟩:Za)) 0 v17).bind fun l35=>some (.inr (.inr l35))) (some (.inl (IntKind.i64.wrap (v2+1))))) (some (.inr (.inl ())))) FUEL 1).bind fun q=>match q with | .inl _=>some p0 | .inr e=>some e)
theorem fT {p0:(List Za)} {a_0:Option Addr}  {n_0:Nat}  {c_0:Nat} {r:(List Za)}  (h:bw p0=some r):PCall 51 [.v (.slice a_0 n_0 c_0)] [PRes.row a_0 n_0 c_0 28 2 (List.map Za.enc p0)] (fun pv ρ'=>∃ a c,pv=.v (.slice a r.length c)∧ρ'=[PRes.row a r.length c 28 2 (List.map Za.enc r)]):=by
 unfold bw at h
 refine kX Tryz.func51 rfl Tryz.ntmps51 Tryz.results51 rfl ?_
 refine ln (enc:=Za.enc) (xs:=p0) (a:=a_0) fy (fun hl ha=>?_);subst hl;clear ha
 refine ae (aS [2] (by kernel_rfl) (cq (bI [6,7] [(8,pB (decide (((p0.length:Nat):Int)<2)))] (by kernel_rfl) rfl h (fun hc1 h=>?_) fun hc1 h=>?_)))
 ·refine ae ?_
  refine ai [9] [(2,pO a_0 p0.length c_0)] (by kernel_rfl) (dj (aq ?_))
  obtain rfl:=osi h
  exact aR (dA (aT rfl)) cE ⟨_,_,rfl,rfl⟩
 refine ah ?_
 refine cq (aj [(3,pI 1)] (by kernel_rfl) (eZ h fun q5 hq5 h=>?_))
 refine am (Y:=Unit×Unit) (fun (_,_)=>[(0,pO a_0 p0.length c_0)]) (fun (_,_)=>[PRes.row a_0 p0.length c_0 28 2 (List.map Za.enc p0)]) (fun (_,_)=>q5=Sum.inl ()) ?_ ?_
 ·refine az ?_
  refine aC (Y:=Unit) (S:=Int) _ hq5 (fun _ v2=>[(0,pO a_0 p0.length c_0),(3,pI v2)]) (fun _ v2=>[PRes.row a_0 p0.length c_0 28 2 (List.map Za.enc p0)]) () (lL rfl) cE ?_
  rintro _ v2 o τ hb4;(try dsimp only at hb4);dsimp only [aw]
  refine cN (bI [10,11,12] [(13,pB (decide (v2<((p0.length:Nat):Int))))] (by kernel_rfl) rfl hb4 (fun hc6 hb4=>?_) fun hc6 hb4=>?_)
  ·refine ah ?_
   refine du (bo (ρd:=[]) [(0,0),(1,0),(2,0),(3,0),(4,0),(5,0),(6,0),(7,0),(8,0),(9,0)] _ (List.Perm.refl _) (by kernel_rfl) rfl (aa hb4 fun m7 hm7 hb4=>iD 2 [(16,pO a_0 p0.length c_0),(17,pI v2)] (by kernel_rfl) (lh rfl rfl rfl (dx (enc:=Za.enc) (xs:=p0) rfl rfl rfl (.p rfl) fy (.p rfl) (fun _=>hm7)) (lh rfl rfl rfl (cY (sz:=2) (p:=.agg [pI m7.Product,pI m7.Agreement]) (enc:=Za.enc) (xs:=p0) (a:=a_0) v2 0 m7 rfl (.p rfl) rfl fy (fun _=>hm7) rfl) (aa hb4 fun m8 hm8 hb4=>mF 3 [21] [(20,pO a_0 p0.length c_0),(22,pI (IntKind.i64.wrap (v2 - 1)))] (by kernel_rfl) (lh rfl rfl rfl (dx (enc:=Za.enc) (xs:=p0) rfl rfl rfl (.p rfl) fy (.p rfl) (fun _=>hm8)) (lh rfl rfl rfl (cY (sz:=2) (p:=.agg [pI m8.Product,pI m8.Agreement]) (enc:=Za.enc) (xs:=p0) (a:=a_0) (IntKind.i64.wrap (v2 - 1)) 0 m8 rfl (.p rfl) rfl fy (fun _=>hm8) rfl) (bx 1 [] [] [(25,pB (Za.eqb m7 m8))] (A1 0 Za.eqok28 bh) (by kernel_rfl) (bG (cR rfl hb4 (fun hc9 hb4=>?_) fun hc9 hb4=>?_))))))))))
   ·refine ae ?_
    refine aa hb4 fun l10 hl10 hb4=>af (aB 2 [(26,pO a_0 p0.length c_0),(27,pI v2)] (by kernel_rfl) (bN rfl rfl rfl (mD (enc:=Za.enc) (xs:=p0) rfl rfl rfl rfl rfl fy hl10) (aI [(4,pQ a_0 p0.length c_0 v2.toNat 2)] (by kernel_rfl) (cq (aj [(5,pI 1)] (by kernel_rfl) (eZ hb4 fun q19 hq19 hb4=>?_))))))
    refine am (Y:=Unit×((List Za)×Int)) (fun (_,(l16,v17))=>[(0,pO a_0 p0.length c_0),(3,pI v17)]) (fun (_,(l16,v17))=>[PRes.row a_0 p0.length c_0 28 2 (List.map Za.enc l16)]) (fun (_,(l16,v17))=>q19=(l16,v17)) ?_ ?_
    ·refine az ?_
     refine aC (Y:=Unit) (S:=(List Za)×Int×Int) _ hq19 (fun _ (l12,v13,v14)=>[(0,pO a_0 p0.length c_0),(3,pI v13),(4,pQ a_0 p0.length c_0 v2.toNat 2),(5,pI v14)]) (fun _ (l12,v13,v14)=>[PRes.row a_0 p0.length c_0 28 2 (List.map Za.enc l12)]) () (hY rfl) cE ?_
     rintro _ ⟨l12,v13,v14⟩ o τ hb18;(try dsimp only at hb18);dsimp only [aw]
     refine cN (bI [29,30,31] [(32,pB (decide (v14<((p0.length - v2.toNat:Nat):Int))))] (by kernel_rfl) rfl hb18 (fun hc20 hb18=>?_) fun hc20 hb18=>?_)
     ·refine ah ?_
      refine cO hb18 fun q24 hq24 hb18=>?_
      refine am (Y:=Unit×((List Za)×Int)) (fun (_,(l22,v23))=>[(0,pO a_0 p0.length c_0),(3,pI v23),(4,pQ a_0 p0.length c_0 v2.toNat 2),(5,pI v14)]) (fun (_,(l22,v23))=>[PRes.row a_0 p0.length c_0 28 2 (List.map Za.enc l22)]) (fun (_,(l22,v23))=>q24=(l22,v23)) ?_ ?_
      ·skip
       refine pg (bo (ρd:=[]) [(0,0),(1,0),(2,0),(3,0),(4,0),(5,0),(6,0),(7,0),(8,0),(9,0)] _ (List.Perm.refl _) (by kernel_rfl) rfl (aa hq24 fun u25 hu25 hq24=>aa hq24 fun m26 hm26 hq24=>iD 2 [(35,pQ a_0 p0.length c_0 v2.toNat 2),(36,pI v14)] (by kernel_rfl) (lh rfl rfl rfl (jy (enc:=Za.enc) (xs:=l12) (i:=v2) rfl rfl rfl rfl rfl (gF hl10).1.1 (lm hu25) fy hm26) (lh rfl rfl rfl (cY (sz:=2) (p:=.agg [pI m26.Product,pI m26.Agreement]) (enc:=Za.enc) (xs:=l12) (a:=a_0) (v2+v14) 0 m26 rfl (.p rfl) rfl fy (fun _=>hm26) rfl) (aa hq24 fun u27 hu27 hq24=>aa hq24 fun m28 hm28 hq24=>mF 3 [40] [(39,pQ a_0 p0.length c_0 v2.toNat 2),(41,pI (IntKind.i64.wrap (v14 - 1)))] (by kernel_rfl) (lh rfl rfl rfl (jy (enc:=Za.enc) (xs:=l12) (i:=v2) rfl rfl rfl rfl rfl (gF hl10).1.1 (lm hu27) fy hm28) (lh rfl rfl rfl (cY (sz:=2) (p:=.agg [pI m28.Product,pI m28.Agreement]) (enc:=Za.enc) (xs:=l12) (a:=a_0) (v2+(IntKind.i64.wrap (v14 - 1))) 0 m28 rfl (.p rfl) rfl fy (fun _=>hm28) rfl) (bx 1 [] [] [(44,pB (!(Za.eqb m26 m28)))] (A1 0 Za.eqok28 bh) (by kernel_rfl) (bG (cR rfl hq24 (fun hc29 hq24=>?_) fun hc29 hq24=>?_))))))))))
       ·refine ae ?_
        refine aa hq24 fun u30 hu30 hq24=>aa hq24 fun m31 hm31 hq24=>af (aB 4 [(45,pO a_0 p0.length c_0),(46,pI v13),(47,pQ a_0 p0.length c_0 v2.toNat 2),(48,pI v14)] (by kernel_rfl) (bN rfl rfl rfl (jy (enc:=Za.enc) (xs:=l12) (i:=v2) rfl rfl rfl rfl rfl (gF hl10).1.1 (lm hu30) fy hm31) (bN rfl rfl rfl (cY (sz:=2) (p:=.agg [pI m31.Product,pI m31.Agreement]) (enc:=Za.enc) (xs:=l12) (a:=a_0) (v2+v14) 0 m31 rfl (.p rfl) rfl fy (fun _=>hm31) rfl) (aa hq24 fun m32 hm32 hq24=>bN rfl rfl rfl (dx (enc:=Za.enc) (xs:=l12) rfl rfl rfl (.p rfl) fy (.p rfl) (fun _=>hm32)) (aO rfl rfl (mB (enc:=Za.enc) (xs:=l12) (a:=a_0) v13 0 m32 m31 rfl rfl rfl rfl (fun _=>rfl) rfl rfl hm32 sk co (aH (aN (ai [52,53] [(3,pI (IntKind.i64.wrap (v13+1)))] (by kernel_rfl) (aF ?_))))))))))
        obtain rfl:=osi hq24
        exact av ((),((l12.set v13.toNat m31),(IntKind.i64.wrap (v13+1)))) (hY rfl) cE rfl
       refine ah ?_
       refine aF ?_
       obtain rfl:=osi hq24
       exact av ((),(l12,v13)) (hY rfl) cE rfl
      rintro ⟨_,⟨l22,v23⟩⟩ τ hz;(try dsimp only at hz);subst q24;(try dsimp only at hb18);dsimp only [aw]
      refine ai [33,34] [(5,pI (IntKind.i64.wrap (v14+1)))] (by kernel_rfl) ?_
      exact aP hb18 () (hY rfl) cE
     refine aG ?_
     refine cb hb18 (fun ht=>ak rfl ?_)
     exact av ((),(l12,v13)) (lL rfl) cE ht.symm
    rintro ⟨_,⟨l16,v17⟩⟩ τ hz;(try dsimp only at hz);subst q19;(try dsimp only at hb4);dsimp only [aw]
    refine ae (aa hb4 fun l34 hl34 hb4=>af (aB 2 [(54,pO a_0 p0.length c_0),(55,pI v17)] (by kernel_rfl) (bN rfl rfl rfl (mD (enc:=Za.enc) (xs:=l16) rfl rfl rfl rfl rfl fy hl34) (aO rfl rfl (w0 (enc:=Za.enc) (xs:=l16) (z0:=(⟨(0:Int),(0:Int)⟩:Za)) (i:=v17) rfl rfl rfl rfl hl34 rfl rfl rfl rfl co (aH (cO hb4 fun l35 hl35 hb4=>af (aB 2 [(57,pO a_0 p0.length c_0),(58,pI v17)] (by kernel_rfl) ?_))))))))
    refine al rfl (wZ (enc:=Za.enc) (xs:=(List.take v17.toNat l16++List.replicate (p0.length - v17.toNat) (⟨(0:Int),(0:Int)⟩:Za))) rfl rfl rfl rfl rfl (by exact aJ) hl35 ?_)
    refine aI [(2,pO a_0 l35.length c_0)] (by kernel_rfl) (dj (dR ?_))
    refine aA hb4 (fun ht=>?_);subst ht
    refine cS ?_
    obtain rfl:=osi h
    exact aR (dA (aT rfl)) cE ⟨_,_,rfl,rfl⟩
   refine ah ?_
   refine dt (ai [14,15] [(3,pI (IntKind.i64.wrap (v2+1)))] (by kernel_rfl) ?_)
   exact aP hb4 () (lL rfl) cE
  refine aG ?_
  refine cb hb4 (fun ht=>ak rfl ?_)
  exact av ((),()) (qV rfl) cE ht.symm
 rintro ⟨_,_⟩ τ hz;(try dsimp only at hz);subst q5;(try dsimp only at h);dsimp only [aw]
 refine ae (ai [60] [(2,pO a_0 p0.length c_0)] (by kernel_rfl) (dj ?_))
 obtain rfl:=osi h
 exact aR (dA (aT rfl)) cE ⟨_,_,rfl,rfl⟩
def gM (p0:Zq):Option Zl:=some p0.use
theorem mK {p0:Zq} {r:Zl}  (h:gM p0=some r):PF 240 [.agg [pS p0.use.Code,pI p0.use.Value,pB p0.use.Originating,pI p0.premise.Product,pI p0.premise.Agreement]] (.agg [pS r.Code,pI r.Value,pB r.Originating]):=by
 unfold gM at h
 refine bd ?_
 refine dm Tryz.func240 rfl Tryz.ntmps240 Tryz.results240 rfl (cU rfl (bg (cs:=[pS p0.use.Code,pI p0.use.Value,pB p0.use.Originating,pI p0.premise.Product,pI p0.premise.Agreement]) rfl rfl (fun b1=>al rfl (aM (cs:=[pS ByteArray.empty,pI 0,pB false]) rfl rfl rfl rfl (fun b2=>aH (bX (af (cu 2 [1] [3] [(4,.agg [pS p0.use.Code,pI p0.use.Value,pB p0.use.Originating])] (by kernel_rfl) (aO rfl rfl (ap (vs:=[pS p0.use.Code,pI p0.use.Value,pB p0.use.Originating]) rfl rfl rfl rfl rfl co zl3 (aH (dj ?_))))))))))))
 obtain rfl:=osi h
 exact aR (dA (dJ rfl fy rfl)) bv ⟨rfl,rfl⟩
def gZ (p0:Zs):Option Zl:=some p0.use
theorem mU {p0:Zs} {r:Zl}  (h:gZ p0=some r):PF 241 [.agg [pS p0.use.Code,pI p0.use.Value,pB p0.use.Originating]] (.agg [pS r.Code,pI r.Value,pB r.Originating]):=by
 unfold gZ at h
 refine bd ?_
 refine dm Tryz.func241 rfl Tryz.ntmps241 Tryz.results241 rfl (cU rfl (bg (cs:=[pS p0.use.Code,pI p0.use.Value,pB p0.use.Originating]) rfl rfl (fun b1=>al rfl (aM (cs:=[pS ByteArray.empty,pI 0,pB false]) rfl rfl rfl rfl (fun b2=>aH (bX (af (cu 2 [1] [3] [(4,.agg [pS p0.use.Code,pI p0.use.Value,pB p0.use.Originating])] (by kernel_rfl) (aO rfl rfl (ap (vs:=[pS p0.use.Code,pI p0.use.Value,pB p0.use.Originating]) rfl rfl rfl rfl rfl co zl3 (aH (dj ?_))))))))))))
 obtain rfl:=osi h
 exact aR (dA (dJ rfl fy rfl)) bv ⟨rfl,rfl⟩
def Icumulation_supply_input (x:Ze)  : Option Zl:=match x with | .plain_ a=>gZ a  | .proved_ a=>gM a
theorem Icumulation_supply_input_ok {x:Ze}  {w:Zl} (h:Icumulation_supply_input x  = some w):PFI x.pv "customs/cumulation.input" [] (.agg [pS w.Code,pI w.Value,pB w.Originating]):=by
 cases x with
 | plain_ a=>exact uU ⟨fun _ _=>by kernel_rfl⟩ (mU h)
 | proved_ a=>exact uU ⟨fun _ _=>by kernel_rfl⟩ (mK h)
def eG (p0:(List Zc)) (p1:Int):Option (Zc×Bool):=(aW (S:=Int) (T:=(Unit)⊕(_)) (fun v2=>cond (decide (v2<(p0.length:Int))) ((idx p0 v2).bind fun m6=>cond (m6.ID == p1) ((idx p0 v2).bind fun m8=>some (.inr (.inr (m8,true)))) (some (.inl (IntKind.i64.wrap (v2+1))))) (some (.inr (.inl ())))) FUEL 0).bind fun q=>match q with | .inl _=>some ((⟨0,ByteArray.empty,ByteArray.empty,0,false,[],[]⟩:Zc),false) | .inr e=>some e
theorem jd {p0:(List Zc)} {p1:Int} {r:(Zc×Bool)}  (h:eG p0 p1=some r):PF 53 [pL Zc.enc p0,pI p1] (.tup [.agg (aK r.1),pB r.2]):=by
 unfold eG at h
 refine bd ?_
 refine dm Tryz.func53 rfl Tryz.ntmps53 Tryz.results53 rfl (cU rfl (aM (cs:=[pI 0,pS ByteArray.empty,pS ByteArray.empty,pI 0,pB false,pN,pN]) rfl rfl rfl rfl (fun b1=>ba [5] (by kernel_rfl) (cq (aj [(6,pI 0)] (by kernel_rfl) (eZ h fun q4 hq4 h=>?_))))))
 refine am (Y:=Unit×Unit) (fun (_,_)=>[(4,pP b1 0)]) (fun (_,_)=>[PRes.b b1 76 [pI 0,pS ByteArray.empty,pS ByteArray.empty,pI 0,pB false,pN,pN]]) (fun (_,_)=>q4=Sum.inl ()) ?_ ?_
 ·refine az ?_
  refine aC (Y:=Unit) (S:=Int) _ hq4 (fun _ v2=>[(0,pL Zc.enc p0),(1,pI p1),(4,pP b1 0),(6,pI v2)]) (fun _ v2=>[PRes.b b1 76 [pI 0,pS ByteArray.empty,pS ByteArray.empty,pI 0,pB false,pN,pN]]) () (hY rfl) cE ?_
  rintro _ v2 o τ hb3;(try dsimp only at hb3);dsimp only [aw]
  refine cN (bI [7,8,9] [(10,pB (decide (v2<(p0.length:Int))))] (by kernel_rfl) rfl hb3 (fun hc5 hb3=>?_) fun hc5 hb3=>?_)
  ·refine ah ?_
   refine du (aa hb3 fun m6 hm6 hb3=>an [] (rg 13 6) [(19,pB (m6.ID == p1))] (cJ 2 Zc.enc hm6 bh) (by kernel_rfl) (cR rfl hb3 (fun hc7 hb3=>?_) fun hc7 hb3=>?_))
   ·refine ae ?_
    refine aa hb3 fun m8 hm8 hb3=>af (aY 4 [] [20,21,22] [(23,.agg (aK m8))] (cJ 2 Zc.enc hm8 bh) (by kernel_rfl) (aO rfl rfl (ap (vs:=(aK m8)) rfl rfl rfl rfl rfl co mY (aI [(5,pB true)] (by kernel_rfl) (dj (dR ?_))))))
    refine aA hb3 (fun ht=>?_);subst ht
    refine cS ?_
    obtain rfl:=osi h
    exact aR (cH (dJ rfl fy rfl) (aT rfl)) bv ⟨rfl,rfl⟩
   refine ah ?_
   refine dt (ai [11,12] [(6,pI (IntKind.i64.wrap (v2+1)))] (by kernel_rfl) ?_)
   exact aP hb3 () (hY rfl) cE
  refine aG ?_
  refine cb hb3 (fun ht=>ak rfl ?_)
  exact av ((),()) (qV rfl) cE ht.symm
 rintro ⟨_,_⟩ τ hz;(try dsimp only at hz);subst q4;(try dsimp only at h);dsimp only [aw]
 refine ae (af (aB 1 [(24,.agg [pI 0,pS ByteArray.empty,pS ByteArray.empty,pI 0,pB false,pN,pN])] (by kernel_rfl) (aO rfl rfl (ap (vs:=[pI 0,pS ByteArray.empty,pS ByteArray.empty,pI 0,pB false,pN,pN]) rfl rfl rfl rfl rfl co mY (aI [(5,pB false)] (by kernel_rfl) (aN (de (k:=5) (b:=b1) rfl co (de (k:=6) (b:=b1) rfl co (bB ?_)))))))))
 obtain rfl:=osi h
 exact aR (cH (dJ rfl fy rfl) (aT rfl)) bv ⟨rfl,rfl⟩
def fh (p0:(List Zb)) (p1:Int):Option (Zb×Bool):=(aW (S:=Int) (T:=(Unit)⊕(_)) (fun v2=>cond (decide (v2<(p0.length:Int))) ((idx p0 v2).bind fun m6=>cond (m6.ID == p1) ((idx p0 v2).bind fun m8=>some (.inr (.inr (m8,true)))) (some (.inl (IntKind.i64.wrap (v2+1))))) (some (.inr (.inl ())))) FUEL 0).bind fun q=>match q with | .inl _=>some ((⟨0,0,[],[]⟩:Zb),false) | .inr e=>some e
theorem jB {p0:(List Zb)} {p1:Int} {r:(Zb×Bool)}  (h:fh p0 p1=some r):PF 54 [pL Zb.enc p0,pI p1] (.tup [.agg (aD r.1),pB r.2]):=by
 unfold fh at h
 refine bd ?_
 refine dm Tryz.func54 rfl Tryz.ntmps54 Tryz.results54 rfl (cU rfl (aM (cs:=[pI 0,pI 0,pN,pN]) rfl rfl rfl rfl (fun b1=>ba [5] (by kernel_rfl) (cq (aj [(6,pI 0)] (by kernel_rfl) (eZ h fun q4 hq4 h=>?_))))))
 refine am (Y:=Unit×Unit) (fun (_,_)=>[(4,pP b1 0)]) (fun (_,_)=>[PRes.b b1 81 [pI 0,pI 0,pN,pN]]) (fun (_,_)=>q4=Sum.inl ()) ?_ ?_
 ·refine az ?_
  refine aC (Y:=Unit) (S:=Int) _ hq4 (fun _ v2=>[(0,pL Zb.enc p0),(1,pI p1),(4,pP b1 0),(6,pI v2)]) (fun _ v2=>[PRes.b b1 81 [pI 0,pI 0,pN,pN]]) () (hY rfl) cE ?_
  rintro _ v2 o τ hb3;(try dsimp only at hb3);dsimp only [aw]
  refine cN (bI [7,8,9] [(10,pB (decide (v2<(p0.length:Int))))] (by kernel_rfl) rfl hb3 (fun hc5 hb3=>?_) fun hc5 hb3=>?_)
  ·refine ah ?_
   refine du (aa hb3 fun m6 hm6 hb3=>an [] (rg 13 6) [(19,pB (m6.ID == p1))] (cJ 2 Zb.enc hm6 bh) (by kernel_rfl) (cR rfl hb3 (fun hc7 hb3=>?_) fun hc7 hb3=>?_))
   ·refine ae ?_
    refine aa hb3 fun m8 hm8 hb3=>af (aY 4 [] [20,21,22] [(23,.agg (aD m8))] (cJ 2 Zb.enc hm8 bh) (by kernel_rfl) (aO rfl rfl (ap (vs:=(aD m8)) rfl rfl rfl rfl rfl co zx (aI [(5,pB true)] (by kernel_rfl) (dj (dR ?_))))))
    refine aA hb3 (fun ht=>?_);subst ht
    refine cS ?_
    obtain rfl:=osi h
    exact aR (cH (dJ rfl fy rfl) (aT rfl)) bv ⟨rfl,rfl⟩
   refine ah ?_
   refine dt (ai [11,12] [(6,pI (IntKind.i64.wrap (v2+1)))] (by kernel_rfl) ?_)
   exact aP hb3 () (hY rfl) cE
  refine aG ?_
  refine cb hb3 (fun ht=>ak rfl ?_)
  exact av ((),()) (qV rfl) cE ht.symm
 rintro ⟨_,_⟩ τ hz;(try dsimp only at hz);subst q4;(try dsimp only at h);dsimp only [aw]
 refine ae (af (aB 1 [(24,.agg [pI 0,pI 0,pN,pN])] (by kernel_rfl) (aO rfl rfl (ap (vs:=[pI 0,pI 0,pN,pN]) rfl rfl rfl rfl rfl co zx (aI [(5,pB false)] (by kernel_rfl) (aN (de (k:=2) (b:=b1) rfl co (de (k:=3) (b:=b1) rfl co (bB ?_)))))))))
 obtain rfl:=osi h
 exact aR (cH (dJ rfl fy rfl) (aT rfl)) bv ⟨rfl,rfl⟩
def ir (p0:(List ByteArray)) (p1:ByteArray):Option Bool:=(aW (S:=Int) (T:=(Unit)⊕(_)) (fun v1=>cond (decide (v1<(p0.length:Int))) ((idx p0 v1).bind fun m5=>cond (decide (m5=p1)) (some (.inr (.inr true))) (some (.inl (IntKind.i64.wrap (v1+1))))) (some (.inr (.inl ())))) FUEL 0).bind fun q=>match q with | .inl _=>some false | .inr e=>some e
theorem iR {p0:(List ByteArray)} {p1:ByteArray} {r:Bool}  (h:ir p0 p1=some r):PF 56 [pL eS p0,pS p1] (pB r):=by
 unfold ir at h
 refine bd ?_
 refine dm Tryz.func56 rfl Tryz.ntmps56 Tryz.results56 rfl (aS [4] (by kernel_rfl) (cq (aj [(5,pI 0)] (by kernel_rfl) (eZ h fun q3 hq3 h=>?_))))
 refine am (Y:=Unit×Unit) (fun (_,_)=>[]) (fun (_,_)=>[]) (fun (_,_)=>q3=Sum.inl ()) ?_ ?_
 ·refine az ?_
  refine aC (Y:=Unit) (S:=Int) _ hq3 (fun _ v1=>[(0,pL eS p0),(1,pS p1),(5,pI v1)]) (fun _ v1=>[]) () (mq rfl) bv ?_
  rintro _ v1 o τ hb2;(try dsimp only at hb2);dsimp only [aw]
  refine cN (bI [6,7,8] [(9,pB (decide (v1<(p0.length:Int))))] (by kernel_rfl) rfl hb2 (fun hc4 hb2=>?_) fun hc4 hb2=>?_)
  ·refine ah ?_
   refine du (aa hb2 fun m5 hm5 hb2=>an [] (rg 12 5) [(17,pB (decide (m5=p1)))] (cJ 2 eS hm5 bh) (by kernel_rfl) (cR rfl hb2 (fun hc6 hb2=>?_) fun hc6 hb2=>?_))
   ·refine ae ?_
    refine da [(4,pB true)] (by kernel_rfl) (dR ?_)
    refine aA hb2 (fun ht=>?_);subst ht
    refine cS ?_
    exact zz r h rfl
   refine ah ?_
   refine dt (ai [10,11] [(5,pI (IntKind.i64.wrap (v1+1)))] (by kernel_rfl) ?_)
   exact aP hb2 () (mq rfl) bv
  refine aG ?_
  refine cb hb2 (fun ht=>ak rfl ?_)
  exact av ((),()) nG bv ht.symm
 rintro ⟨_,_⟩ τ hz;(try dsimp only at hz);subst q3;(try dsimp only at h);dsimp only [aw]
 refine ae (da [(4,pB false)] (by kernel_rfl) ?_)
 exact zz r h rfl
def hC (p0:ByteArray) (p1:ByteArray):Option Bool:=(gd (decide ((p1.size:Int)≤(p0.size:Int))) (jY p0 0 (p1.size:Int))).bind fun s1=>some ((decide ((p1.size:Int)≤(p0.size:Int)))&&(decide (s1=p1)))
theorem oU {p0:ByteArray} {p1:ByteArray} {r:Bool}  (h:hC p0 p1=some r):PF 116 [pS p0,pS p1] (pB r):=by
 unfold hC at h
 refine bd ?_
 refine dm Tryz.func116 rfl Tryz.ntmps116 Tryz.results116 rfl (aS [4] (by kernel_rfl) (cO h fun s1 hs1 h=>an [] (rg 5 13) [(4,pB ((decide ((p1.size:Int)≤(p0.size:Int)))&&(decide (s1=p1))))] (fossg 9 (cD hs1) bh) (by kernel_rfl) (dj ?_)))
 exact zz r h rfl
def gp (p0:Zb) (p1:ByteArray):Option (Zd×Bool):=(aW (S:=Int×Int) (T:=(Int)) (fun (v3,v4)=>cond (decide (v4<(p0.Rules.length:Int))) (((idx p0.Rules v4).bind fun m11=>(hC p1 m11.Prefix).bind fun x12=>(gd (x12&&(!(decide (v3<0)))) (idx p0.Rules v4)).bind fun m13=>(gd (x12&&(!(decide (v3<0)))) (idx p0.Rules v3)).bind fun m14=>cond (x12&&((decide (v3<0))||(decide ((m14.Prefix.size:Int)<(m13.Prefix.size:Int))))) (some v4) (some v3)).bind fun v9=>some (.inl (v9,(IntKind.i64.wrap (v4+1))))) (some (.inr v3))) FUEL ((-1),0)).bind fun v5=>cond (decide (v5<0)) (some ((⟨0,0,[],0,0,ByteArray.empty,[]⟩:Zd),false)) ((idx p0.Rules v5).bind fun m17=>some (m17.Rule,true))
theorem oV {p0:Zb} {p1:ByteArray} {r:(Zd×Bool)}  (h:gp p0 p1=some r):PF 69 [.agg (aD p0),pS p1] (.tup [.agg (au r.1),pB r.2]):=by
 unfold gp at h
 refine bd ?_
 refine dm Tryz.func69 rfl Tryz.ntmps69 Tryz.results69 rfl (cU rfl (bg (cs:=(aD p0)) rfl rfl (fun b1=>al rfl (aM (cs:=[pI 0,pI 0,pN,pI 0,pI 0,pS ByteArray.empty,pN]) rfl rfl rfl rfl (fun b2=>ba [5] (by kernel_rfl) (bX (aj [(6,pI (-1))] (by kernel_rfl) (cq (aj [(7,pI 0)] (by kernel_rfl) (eZ h fun q7 hq7 h=>?_))))))))))
 refine am (Y:=Unit×Int) (fun (_,v5)=>[(2,pP b1 0),(4,pP b2 0),(6,pI v5)]) (fun (_,v5)=>[PRes.b b1 81 (aD p0),PRes.b b2 84 [pI 0,pI 0,pN,pI 0,pI 0,pS ByteArray.empty,pN]]) (fun (_,v5)=>q7=v5) ?_ ?_
 ·refine az ?_
  refine aC (Y:=Unit) (S:=Int×Int) _ hq7 (fun _ (v3,v4)=>[(1,pS p1),(2,pP b1 0),(4,pP b2 0),(6,pI v3),(7,pI v4)]) (fun _ (v3,v4)=>[PRes.b b1 81 (aD p0),PRes.b b2 84 [pI 0,pI 0,pN,pI 0,pI 0,pS ByteArray.empty,pN]]) () (mC rfl) (aZ (ar aJ) cE) ?_
  rintro _ ⟨v3,v4⟩ o τ hb6;(try dsimp only at hb6);dsimp only [aw]
  refine cN (aL [0] [8,9,10,11] [(12,pB (decide (v4<(p0.Rules.length:Int))))] (by kernel_rfl) (cR rfl hb6 (fun hc8 hb6=>?_) fun hc8 hb6=>?_))
  ·refine ah ?_
   refine cO hb6 fun q10 hq10 hb6=>?_
   refine am (Y:=Unit×Int) (fun (_,v9)=>[(1,pS p1),(2,pP b1 0),(4,pP b2 0),(6,pI v9),(7,pI v4)]) (fun (_,v9)=>[PRes.b b1 81 (aD p0),PRes.b b2 84 [pI 0,pI 0,pN,pI 0,pI 0,pS ByteArray.empty,pN]]) (fun (_,v9)=>q10=v9) ?_ ?_
   ·skip
    refine pg (bo (ρd:=[]) [(0,0),(1,0),(2,0),(3,0),(4,0),(5,0),(6,0),(7,1),(8,0),(9,0),(10,0),(11,0),(12,0),(13,0),(14,0),(15,0),(16,0),(17,0),(18,0),(19,0),(20,0),(21,0),(22,0),(23,0),(24,0),(25,0),(26,0),(27,0),(28,0)] _ (List.Perm.refl _) (by kernel_rfl) rfl (aa hq10 fun m11 hm11 hq10=>aa hq10 fun x12 hx12 hq10=>aa hq10 fun m13 hm13 hq10=>aa hq10 fun m14 hm14 hq10=>bx 29 [0,0,0] (rg 15 28) [(43,pB (x12&&((decide (v3<0))||(decide ((m14.Prefix.size:Int)<(m13.Prefix.size:Int))))))] (cJ 4 Zh.enc hm11 (bi 7 (oU hx12) (eM 15 Zh.enc (cD hm13) (eM 22 Zh.enc (cD hm14) bh)))) (by kernel_rfl) (bG (cR rfl hq10 (fun hc15 hq10=>?_) fun hc15 hq10=>?_))))
    ·refine ai [44] [(6,pI v4)] (by kernel_rfl) ?_
     refine aF ?_
     obtain rfl:=osi hq10
     exact av ((),v4) (mC rfl) mR rfl
    refine ah ?_
    refine aF ?_
    obtain rfl:=osi hq10
    exact av ((),v3) (mC rfl) mR rfl
   rintro ⟨_,v9⟩ τ hz;(try dsimp only at hz);subst q10;(try dsimp only at hb6);dsimp only [aw]
   refine ai [13,14] [(7,pI (IntKind.i64.wrap (v4+1)))] (by kernel_rfl) ?_
   exact aP hb6 () (mC rfl) mR
  refine aG ?_
  refine cb hb6 (fun ht=>ak rfl ?_)
  exact av ((),v3) (mq rfl) mR ht.symm
 rintro ⟨_,v5⟩ τ hz;(try dsimp only at hz);subst q7;(try dsimp only at h);dsimp only [aw]
 refine cN (bI [45] [(46,pB (decide (v5<0)))] (by kernel_rfl) rfl h (fun hc16 h=>?_) fun hc16 h=>?_)
 ·refine ae ?_
  refine af (aB 1 [(47,.agg [pI 0,pI 0,pN,pI 0,pI 0,pS ByteArray.empty,pN])] (by kernel_rfl) (aO rfl rfl (ap (vs:=[pI 0,pI 0,pN,pI 0,pI 0,pS ByteArray.empty,pN]) rfl rfl rfl rfl rfl (db co) mY (aI [(5,pB false)] (by kernel_rfl) (aN (de (k:=2) (b:=b2) rfl (db co) (de (k:=6) (b:=b2) rfl (db co) (bB (aq ?_)))))))))
  obtain rfl:=osi h
  exact aR (cH (dJ rfl wf rfl) (aT rfl)) bv ⟨rfl,rfl⟩
 refine ah ?_
 refine cO h fun m17 hm17 h=>af (aY 6 [0] (rg 48 5) [(53,.agg (au m17.Rule))] (cJ 3 Zh.enc hm17 bh) (by kernel_rfl) (aO rfl rfl (ap (vs:=(au m17.Rule)) rfl rfl rfl rfl rfl (db co) mY (aI [(5,pB true)] (by kernel_rfl) (dj ?_)))))
 obtain rfl:=osi h
 exact aR (cH (dJ rfl wf rfl) (aT rfl)) bv ⟨rfl,rfl⟩
def dM (p0:(List Zc)) (p1:(List Zb)) (p2:ByteArray) (p3:Za):Option Bool:=(eG p0 p3.Product).bind fun x2=>(fh p1 p3.Agreement).bind fun x4=>(gp x4.1 x2.1.Code).bind fun x6=>(gd (((x2.2&&x4.2)&&x6.2)&&(!decide (x2.1.Country=p2))) (ir x4.1.Parties x2.1.Country)).bind fun x8=>(gd ((((x2.2&&x4.2)&&x6.2)&&(!decide (x2.1.Country=p2)))&&x8) (ir x4.1.Parties p2)).bind fun x9=>some (((((x2.2&&x4.2)&&x6.2)&&(!decide (x2.1.Country=p2)))&&x8)&&x9)
theorem lO {p0:(List Zc)} {p1:(List Zb)} {p2:ByteArray} {p3:Za} {r:Bool}  (h:dM p0 p1 p2 p3=some r):PF 52 [pL Zc.enc p0,pL Zb.enc p1,pS p2,.agg [pI p3.Product,pI p3.Agreement]] (pB r):=by
 unfold dM at h
 refine bd ?_
 refine dm Tryz.func52 rfl Tryz.ntmps52 Tryz.results52 rfl (cU rfl (bg (cs:=[pI p3.Product,pI p3.Agreement]) rfl rfl (fun b1=>ba [8] (by kernel_rfl) (cO h fun x2 hx2 h=>af (aY 7 [0] [16,17,18,19,15] [(20,.agg (aK x2.1)),(21,pB x2.2)] (bi 3 (jd hx2) bh) (by kernel_rfl) (al rfl (aM (cs:=[pI 0,pS ByteArray.empty,pS ByteArray.empty,pI 0,pB false,pN,pN]) rfl rfl rfl rfl (fun b3=>aO rfl rfl (ap (vs:=(aK x2.1)) rfl rfl rfl rfl rfl co mY (aI [(10,pB x2.2)] (by kernel_rfl) (cO h fun x4 hx4 h=>af (aY 7 [1] [23,24,25,26,22] [(27,.agg (aD x4.1)),(28,pB x4.2)] (bi 3 (jB hx4) bh) (by kernel_rfl) (al rfl (aM (cs:=[pI 0,pI 0,pN,pN]) rfl rfl rfl rfl (fun b5=>aO rfl rfl (ap (vs:=(aD x4.1)) rfl rfl rfl rfl rfl co zx (aI [(12,pB x4.2)] (by kernel_rfl) (cO h fun x6 hx6 h=>af (aY 7 [0,1] [30,31,32,33,29] [(34,.agg (au x6.1)),(35,pB x6.2)] (bi 3 (oV hx6) bh) (by kernel_rfl) (al rfl (aM (cs:=[pI 0,pI 0,pN,pI 0,pI 0,pS ByteArray.empty,pN]) rfl rfl rfl rfl (fun b7=>aO rfl rfl (ap (vs:=(au x6.1)) rfl rfl rfl rfl rfl co mY (aI [(14,pB x6.2)] (by kernel_rfl) (cO h fun x8 hx8 h=>aa h fun x9 hx9 h=>an [2,1,2,1] (rg 36 26) [(8,pB (((((x2.2&&x4.2)&&x6.2)&&(!decide (x2.1.Country=p2)))&&x8)&&x9))] (dT 18 (fun hc=>iR (cD hx8 hc)) (dT 24 (fun hc=>iR (cD hx9 hc)) bh)) (by kernel_rfl) (dj ?_))))))))))))))))))))))))))
 exact zz r h rfl
def gq (p0:(List ByteArray)) (p1:(List ByteArray)):Option Bool:=cond ((p0.length:Int) != (p1.length:Int)) (some false) ((aW (S:=Int) (T:=(Unit)⊕(_)) (fun v2=>cond (decide (v2<(p0.length:Int))) ((idx p0 v2).bind fun m6=>(idx p1 v2).bind fun m7=>cond (!decide (m6=m7)) (some (.inr (.inr false))) (some (.inl (IntKind.i64.wrap (v2+1))))) (some (.inr (.inl ())))) FUEL 0).bind fun q=>match q with | .inl _=>some true | .inr e=>some e)
theorem pC {p0:(List ByteArray)} {p1:(List ByteArray)} {r:Bool}  (h:gq p0 p1=some r):PF 61 [pL eS p0,pL eS p1] (pB r):=by
 unfold gq at h
 refine bd ?_
 refine dm Tryz.func61 rfl Tryz.ntmps61 Tryz.results61 rfl (aS [4] (by kernel_rfl) (cq (bI [6,7,8,9] [(10,pB ((p0.length:Int) != (p1.length:Int)))] (by kernel_rfl) rfl h (fun hc1 h=>?_) fun hc1 h=>?_)))
 ·refine ae ?_
  refine da [(4,pB false)] (by kernel_rfl) (aq ?_)
  exact zz r h rfl
 refine ah ?_
 refine cq (aj [(5,pI 0)] (by kernel_rfl) (eZ h fun q4 hq4 h=>?_))
 refine am (Y:=Unit×Unit) (fun (_,_)=>[]) (fun (_,_)=>[]) (fun (_,_)=>q4=Sum.inl ()) ?_ ?_
 ·refine az ?_
  refine aC (Y:=Unit) (S:=Int) _ hq4 (fun _ v2=>[(0,pL eS p0),(1,pL eS p1),(5,pI v2)]) (fun _ v2=>[]) () (mq rfl) bv ?_
  rintro _ v2 o τ hb3;(try dsimp only at hb3);dsimp only [aw]
  refine cN (bI [11,12,13] [(14,pB (decide (v2<(p0.length:Int))))] (by kernel_rfl) rfl hb3 (fun hc5 hb3=>?_) fun hc5 hb3=>?_)
  ·refine ah ?_
   refine du (bo (ρd:=[]) [(0,0),(1,0),(2,0),(3,0),(4,0),(5,0),(6,0),(7,0),(8,0)] _ (List.Perm.refl _) (by kernel_rfl) rfl (aa hb3 fun m6 hm6 hb3=>aa hb3 fun m7 hm7 hb3=>bx 9 [] (rg 17 8) [(25,pB (!decide (m6=m7)))] (cJ 2 eS hm6 (cJ 6 eS hm7 bh)) (by kernel_rfl) (bG (cR rfl hb3 (fun hc8 hb3=>?_) fun hc8 hb3=>?_))))
   ·refine ae ?_
    refine da [(4,pB false)] (by kernel_rfl) (dR ?_)
    refine aA hb3 (fun ht=>?_);subst ht
    refine cS ?_
    exact zz r h rfl
   refine ah ?_
   refine dt (ai [15,16] [(5,pI (IntKind.i64.wrap (v2+1)))] (by kernel_rfl) ?_)
   exact aP hb3 () (mq rfl) bv
  refine aG ?_
  refine cb hb3 (fun ht=>ak rfl ?_)
  exact av ((),()) nG bv ht.symm
 rintro ⟨_,_⟩ τ hz;(try dsimp only at hz);subst q4;(try dsimp only at h);dsimp only [aw]
 refine ae (da [(4,pB true)] (by kernel_rfl) ?_)
 exact zz r h rfl
def gN (rec:Zd→Zd→Option Bool) (p0:Zd) (p1:Zd):Option Bool:=(gd (!(((((p0.Kind != p1.Kind)||(p0.Digits != p1.Digits))||(p0.Tolerance != p1.Tolerance))||(p0.Limit != p1.Limit))||(!decide (p0.Name=p1.Name)))) (gq p0.Except p1.Except)).bind fun x3=>cond (((((((p0.Kind != p1.Kind)||(p0.Digits != p1.Digits))||(p0.Tolerance != p1.Tolerance))||(p0.Limit != p1.Limit))||(!decide (p0.Name=p1.Name)))||(!x3))||((p0.Args.length:Int) != (p1.Args.length:Int))) (some false) ((aW (S:=Int) (T:=(Unit)⊕(_)) (fun v5=>cond (decide (v5<(p0.Args.length:Int))) ((idx p0.Args v5).bind fun m9=>(idx p1.Args v5).bind fun m10=>(rec m9 m10).bind fun x11=>cond (!x11) (some (.inr (.inr false))) (some (.inl (IntKind.i64.wrap (v5+1))))) (some (.inr (.inl ())))) FUEL 0).bind fun q=>match q with | .inl _=>some true | .inr e=>some e)
theorem qB {rec:Zd→Zd→Option Bool} (hrec:∀ {p0:Zd} {p1:Zd} {r:Bool},rec p0 p1=some r→PF 153 [.agg (au p0),.agg (au p1)] (pB r)) {p0:Zd} {p1:Zd} {r:Bool} (h:gN rec p0 p1=some r):PF 153 [.agg (au p0),.agg (au p1)] (pB r):=by
 unfold gN at h
 refine bd ?_
 refine dm Tryz.func153 rfl Tryz.ntmps153 Tryz.results153 rfl (cU rfl (bg (cs:=(au p0)) rfl rfl (fun b1=>al rfl (bg (cs:=(au p1)) rfl rfl (fun b2=>ba [4] (by kernel_rfl) (cq (aa h fun x3 hx3 h=>an [1,0,1,0,1,0,1,0,1,0,1,0,1,0] (rg 6 49) [(55,pB (((((((p0.Kind != p1.Kind)||(p0.Digits != p1.Digits))||(p0.Tolerance != p1.Tolerance))||(p0.Limit != p1.Limit))||(!decide (p0.Name=p1.Name)))||(!x3))||((p0.Args.length:Int) != (p1.Args.length:Int))))] (dT 38 (fun hc=>pC (cD hx3 hc)) bh) (by kernel_rfl) (cR rfl h (fun hc4 h=>?_) fun hc4 h=>?_))))))))
 ·refine ae ?_
  refine da [(4,pB false)] (by kernel_rfl) (aq ?_)
  exact zz r h rfl
 refine ah ?_
 refine cq (aj [(5,pI 0)] (by kernel_rfl) (eZ h fun q7 hq7 h=>?_))
 refine am (Y:=Unit×Unit) (fun (_,_)=>[]) (fun (_,_)=>[]) (fun (_,_)=>q7=Sum.inl ()) ?_ ?_
 ·refine az ?_
  refine aC (Y:=Unit) (S:=Int) _ hq7 (fun _ v5=>[(2,pP b1 0),(3,pP b2 0),(5,pI v5)]) (fun _ v5=>[PRes.b b1 84 (au p0),PRes.b b2 84 (au p1)]) () (mq rfl) (aZ (ar aJ) cE) ?_
  rintro _ v5 o τ hb6;(try dsimp only at hb6);dsimp only [aw]
  refine cN (aL [0] [56,57,58,59] [(60,pB (decide (v5<(p0.Args.length:Int))))] (by kernel_rfl) (cR rfl hb6 (fun hc8 hb6=>?_) fun hc8 hb6=>?_))
  ·refine ah ?_
   refine du (bo (ρd:=[]) [(0,0),(1,0),(2,0),(3,0),(4,0),(5,0),(6,0),(7,0),(8,0),(9,0),(10,1),(11,0)] _ (List.Perm.refl _) (by kernel_rfl) rfl (aa hb6 fun m9 hm9 hb6=>aa hb6 fun m10 hm10 hb6=>aa hb6 fun x11 hx11 hb6=>bx 12 [0,1] (rg 63 11) [(74,pB (!x11))] (oS 3 Zd.enc (Zd.enc_eq _) hm9 (oS 8 Zd.enc (Zd.enc_eq _) hm10 (bi 10 (hrec hx11) bh))) (by kernel_rfl) (bG (cR rfl hb6 (fun hc12 hb6=>?_) fun hc12 hb6=>?_))))
   ·refine ae ?_
    refine da [(4,pB false)] (by kernel_rfl) (dR ?_)
    refine aA hb6 (fun ht=>?_);subst ht
    refine cS ?_
    exact zz r h rfl
   refine ah ?_
   refine dt (ai [61,62] [(5,pI (IntKind.i64.wrap (v5+1)))] (by kernel_rfl) ?_)
   exact aP hb6 () (mq rfl) mR
  refine aG ?_
  refine cb hb6 (fun ht=>ak rfl ?_)
  exact av ((),()) nG bv ht.symm
 rintro ⟨_,_⟩ τ hz;(try dsimp only at hz);subst q7;(try dsimp only at h);dsimp only [aw]
 refine ae (da [(4,pB true)] (by kernel_rfl) ?_)
 exact zz r h rfl
def iS (n:Nat):Zd→Zd→Option Bool:=Nat.rec (motive:=fun _=>Zd→Zd→Option Bool) (fun _ _=>none) (fun _ ih=>gN ih) n
def mL (p0:Zd) (p1:Zd):Option Bool:=iS FUEL p0 p1
theorem rb (n:Nat):∀ {p0:Zd} {p1:Zd} {r:Bool},iS n p0 p1=some r→PF 153 [.agg (au p0),.agg (au p1)] (pB r):=by
 induction n with
 | zero=>intros;rename_i h;exact nomatch h
 | succ n ih=>intros;rename_i h;exact qB (fun hr=>ih hr) h
theorem rM {p0:Zd} {p1:Zd} {r:Bool} (h:mL p0 p1=some r):PF 153 [.agg (au p0),.agg (au p1)] (pB r):=rb FUEL h
def ii (p0:(List Zh)) (p1:(List Zh)):Option Bool:=cond ((p0.length:Int) != (p1.length:Int)) (some false) ((aW (S:=Int) (T:=(Unit)⊕(_)) (fun v2=>cond (decide (v2<(p0.length:Int))) ((idx p0 v2).bind fun m6=>(idx p1 v2).bind fun m7=>(gd (!(!decide (m6.Prefix=m7.Prefix))) (idx p0 v2)).bind fun m8=>(gd (!(!decide (m6.Prefix=m7.Prefix))) (idx p1 v2)).bind fun m9=>(gd (!(!decide (m6.Prefix=m7.Prefix))) (mL m8.Rule m9.Rule)).bind fun x10=>cond ((!decide (m6.Prefix=m7.Prefix))||(!x10)) (some (.inr (.inr false))) (some (.inl (IntKind.i64.wrap (v2+1))))) (some (.inr (.inl ())))) FUEL 0).bind fun q=>match q with | .inl _=>some true | .inr e=>some e)
theorem rc {p0:(List Zh)} {p1:(List Zh)} {r:Bool}  (h:ii p0 p1=some r):PF 104 [pL Zh.enc p0,pL Zh.enc p1] (pB r):=by
 unfold ii at h
 refine bd ?_
 refine dm Tryz.func104 rfl Tryz.ntmps104 Tryz.results104 rfl (aS [4] (by kernel_rfl) (cq (bI [6,7,8,9] [(10,pB ((p0.length:Int) != (p1.length:Int)))] (by kernel_rfl) rfl h (fun hc1 h=>?_) fun hc1 h=>?_)))
 ·refine ae ?_
  refine da [(4,pB false)] (by kernel_rfl) (aq ?_)
  exact zz r h rfl
 refine ah ?_
 refine cq (aj [(5,pI 0)] (by kernel_rfl) (eZ h fun q4 hq4 h=>?_))
 refine am (Y:=Unit×Unit) (fun (_,_)=>[]) (fun (_,_)=>[]) (fun (_,_)=>q4=Sum.inl ()) ?_ ?_
 ·refine az ?_
  refine aC (Y:=Unit) (S:=Int) _ hq4 (fun _ v2=>[(0,pL Zh.enc p0),(1,pL Zh.enc p1),(5,pI v2)]) (fun _ v2=>[]) () (mq rfl) bv ?_
  rintro _ v2 o τ hb3;(try dsimp only at hb3);dsimp only [aw]
  refine cN (bI [11,12,13] [(14,pB (decide (v2<(p0.length:Int))))] (by kernel_rfl) rfl hb3 (fun hc5 hb3=>?_) fun hc5 hb3=>?_)
  ·refine ah ?_
   refine du (bo (ρd:=[]) [(0,0),(1,0),(2,0),(3,0),(4,0),(5,0),(6,0),(7,0),(8,0),(9,0),(10,0),(11,0),(12,0),(13,0),(14,0),(15,0),(16,0),(17,0),(18,0),(19,0),(20,0),(21,0),(22,1),(23,0),(24,0)] _ (List.Perm.refl _) (by kernel_rfl) rfl (aa hb3 fun m6 hm6 hb3=>aa hb3 fun m7 hm7 hb3=>aa hb3 fun m8 hm8 hb3=>aa hb3 fun m9 hm9 hb3=>aa hb3 fun x10 hx10 hb3=>bx 25 [] (rg 17 24) [(41,pB ((!decide (m6.Prefix=m7.Prefix))||(!x10)))] (cJ 2 Zh.enc hm6 (cJ 7 Zh.enc hm7 (eM 14 Zh.enc (cD hm8) (eM 19 Zh.enc (cD hm9) (dT 22 (fun hc=>rM (cD hx10 hc)) bh))))) (by kernel_rfl) (bG (cR rfl hb3 (fun hc11 hb3=>?_) fun hc11 hb3=>?_))))
   ·refine ae ?_
    refine da [(4,pB false)] (by kernel_rfl) (dR ?_)
    refine aA hb3 (fun ht=>?_);subst ht
    refine cS ?_
    exact zz r h rfl
   refine ah ?_
   refine dt (ai [15,16] [(5,pI (IntKind.i64.wrap (v2+1)))] (by kernel_rfl) ?_)
   exact aP hb3 () (mq rfl) bv
  refine aG ?_
  refine cb hb3 (fun ht=>ak rfl ?_)
  exact av ((),()) nG bv ht.symm
 rintro ⟨_,_⟩ τ hz;(try dsimp only at hz);subst q4;(try dsimp only at h);dsimp only [aw]
 refine ae (da [(4,pB true)] (by kernel_rfl) ?_)
 exact zz r h rfl
def iK (p0:(List Zb)) (p1:Int) (p2:ByteArray) (p3:ByteArray):Option (List Int):=(fh p0 p1).bind fun x1=>cond (!x1.2) (some []) ((aW (S:=(List Int)×Int) (T:=((List Int))) (fun (l7,v10)=>cond ((decide (v10<(p0.length:Int)))&&(x1.1.Kind == 2)) (((idx p0 v10).bind fun m23=>(gd (m23.ID != p1) (ir m23.Parties p2)).bind fun x25=>(gd ((m23.ID != p1)&&x25) (ir m23.Parties p3)).bind fun x26=>(gd (((m23.ID != p1)&&x25)&&x26) (ii x1.1.Rules m23.Rules)).bind fun x27=>cond ((((m23.ID != p1)&&x25)&&x26)&&x27) ((app 8 l7 [m23.ID]).bind fun l31=>some l31) (some l7)).bind fun l21=>some (.inl (l21,(IntKind.i64.wrap (v10+1))))) (some (.inr l7))) FUEL ([p1],0)).bind fun l14=>some l14)
theorem rN {p0:(List Zb)} {p1:Int} {p2:ByteArray} {p3:ByteArray} {r:(List Int)}  (h:iK p0 p1 p2 p3=some r):PF 55 [pL Zb.enc p0,pI p1,pS p2,pS p3] (pL eI r):=by
 unfold iK at h
 refine bd ?_
 refine dm Tryz.func55 rfl Tryz.ntmps55 Tryz.results55 rfl (aS [8] (by kernel_rfl) (cO h fun x1 hx1 h=>af (aY 6 [] [15,16,17,14] [(18,.agg (aD x1.1)),(19,pB x1.2)] (bi 2 (jB hx1) bh) (by kernel_rfl) (al rfl (aM (cs:=[pI 0,pI 0,pN,pN]) rfl rfl rfl rfl (fun b2=>aO rfl rfl (ap (vs:=(aD x1.1)) rfl rfl rfl rfl rfl co zx (aI [(10,pB x1.2)] (by kernel_rfl) (cq (bI [20] [(21,pB (!x1.2))] (by kernel_rfl) rfl h (fun hc3 h=>?_) fun hc3 h=>?_))))))))))
 ·refine ae ?_
  refine aj [(8,pN)] (by kernel_rfl) (aN (gg 8 rfl (bB (aq ?_))))
  exact zz r h rfl
 refine ah ?_
 refine bX (af (aB 1 [(22,pI p1)] (by kernel_rfl) (al rfl (bA rfl rfl rfl rfl rfl (fU rfl iX) rfl rfl rfl rfl (fun b4=>aI [(11,pO (some ⟨b4,0,none⟩) 1 1)] (by kernel_rfl) (cq (aj [(12,pI 0)] (by kernel_rfl) (eZ h fun q16 hq16 h=>?_))))))))
 refine am (Y:=(Option Addr×Nat)×((List Int))) (fun ((a12,c13),l14)=>[(11,pO a12 l14.length c13)]) (fun ((a12,c13),l14)=>[PRes.row a12 l14.length c13 3 1 (List.map eI l14)]) (fun ((a12,c13),l14)=>q16=l14) ?_ ?_
 ·refine az ?_
  refine aC (Y:=Option Addr×Nat) (S:=(List Int)×Int) _ hq16 (fun (a8,c9) (l7,v10)=>[(0,pL Zb.enc p0),(1,pI p1),(2,pS p2),(3,pS p3),(9,pP b2 0),(11,pO a8 l7.length c9),(12,pI v10)]) (fun (a8,c9) (l7,v10)=>[PRes.b b2 81 (aD x1.1),PRes.row a8 l7.length c9 3 1 (List.map eI l7)]) ((some ⟨b4,0,none⟩),1) (qG rfl) (aZ (ar aJ) cE) ?_
  rintro ⟨a8,c9⟩ ⟨l7,v10⟩ o τ hb15;(try dsimp only at hb15);dsimp only [aw]
  refine cN (aL [0] (rg 24 8) [(32,pB ((decide (v10<(p0.length:Int)))&&(x1.1.Kind == 2)))] (by kernel_rfl) (cR rfl hb15 (fun hc17 hb15=>?_) fun hc17 hb15=>?_))
  ·refine ah ?_
   refine cO hb15 fun q22 hq22 hb15=>?_
   refine am (Y:=(Option Addr×Nat)×((List Int))) (fun ((a19,c20),l21)=>[(0,pL Zb.enc p0),(1,pI p1),(2,pS p2),(3,pS p3),(9,pP b2 0),(11,pO a19 l21.length c20),(12,pI v10)]) (fun ((a19,c20),l21)=>[PRes.b b2 81 (aD x1.1),PRes.row a19 l21.length c20 3 1 (List.map eI l21)]) (fun ((a19,c20),l21)=>q22=l21) ?_ ?_
   ·skip
    refine pg (aa hq22 fun m23 hm23 hq22=>af (aY 4 [] [35,36,37] [(38,.agg (aD m23))] (cJ 2 Zb.enc hm23 bh) (by kernel_rfl) (al rfl (aM (cs:=[pI 0,pI 0,pN,pN]) rfl rfl rfl rfl (fun b24=>aO rfl rfl (ap (vs:=(aD m23)) rfl rfl rfl rfl rfl co zx (aH (cO hq22 fun x25 hx25 hq22=>aa hq22 fun x26 hx26 hq22=>aa hq22 fun x27 hx27 hq22=>an [0,0,0,1,0] (rg 39 22) [(61,pB ((((m23.ID != p1)&&x25)&&x26)&&x27))] (dT 8 (fun hc=>iR (cD hx25 hc)) (dT 14 (fun hc=>iR (cD hx26 hc)) (dT 21 (fun hc=>rc (cD hx27 hc)) bh))) (by kernel_rfl) (cR rfl hq22 (fun hc28 hq22=>?_) fun hc28 hq22=>?_)))))))))
    ·refine af ?_
     refine cu 3 [0] [63] [(62,pO a8 l7.length c9),(64,pI m23.ID)] (by kernel_rfl) (al rfl (bA rfl rfl rfl rfl rfl (fU rfl iX) rfl rfl rfl rfl (fun b29=>aa hq22 fun l31 hl31 hq22=>?_)))
     refine al rfl (bV (enc:=eI) rfl rfl rfl rfl rfl rfl rfl rfl rfl fy (by exact ar (ar (ar aJ))) hl31 (fun a32 c33=>?_))
     refine aI [(11,pO a32 l31.length c33)] (by kernel_rfl) (aF ?_)
     obtain rfl:=osi hq22
     exact av ((a32,c33),l31) (qG rfl) (aZ (ar (ar (ar aJ))) cE) rfl
    refine ah ?_
    refine aF ?_
    obtain rfl:=osi hq22
    exact av ((a8,c9),l7) (qG rfl) (aZ (ar aJ) (aZ (ar aJ) bv)) rfl
   rintro ⟨⟨a19,c20⟩,l21⟩ τ hz;(try dsimp only at hz);subst q22;(try dsimp only at hb15);dsimp only [aw]
   refine ai [33,34] [(12,pI (IntKind.i64.wrap (v10+1)))] (by kernel_rfl) ?_
   exact aP hb15 (a19,c20) (qG rfl) mR
  refine aG ?_
  refine cb hb15 (fun ht=>ak rfl ?_)
  exact av ((a8,c9),l7) (qV rfl) (aZ (ar aJ) bv) ht.symm
 rintro ⟨⟨a12,c13⟩,l14⟩ τ hz;(try dsimp only at hz);subst q16;(try dsimp only at h);dsimp only [aw]
 refine ae (ai [67] [(8,pO a12 l14.length c13)] (by kernel_rfl) (aN ?_))
 refine dB (enc:=eI) (xs:=l14) 8 rfl (by exact aJ) ?_
 refine bB ?_
 exact zz r h rfl
def kG (p0:(List ByteArray)) (p1:ByteArray):Option (List ByteArray):=(aW (S:=Int) (T:=(ByteArray×Int)) (fun v1=>(gd (decide (v1<(p0.length:Int))) (idx p0 v1)).bind fun m6=>cond ((decide (v1<(p0.length:Int)))&&(Op.bytesLess m6.toList p1.toList)) (some (.inl (IntKind.i64.wrap (v1+1)))) (some (.inr (p1,v1)))) FUEL 0).bind fun (v2,v3)=>(gd (decide (v3<(p0.length:Int))) (idx p0 v3)).bind fun m8=>cond ((decide (v3<(p0.length:Int)))&&(decide (m8=v2))) (some p0) ((sub p0 0 v3).bind fun l10=>(sub p0 v3 (p0.length:Int)).bind fun l11=>(app 16 ([]:List ByteArray) l10).bind fun l14=>(app 16 l14 [v2]).bind fun l20=>(app 16 l20 l11).bind fun l24=>some l24)
theorem qJ {p0:(List ByteArray)} {p1:ByteArray} {r:(List ByteArray)}  (h:kG p0 p1=some r):PF 105 [pL eS p0,pS p1] (pL eS r):=by
 unfold kG at h
 refine bd ?_
 refine dm Tryz.func105 rfl Tryz.ntmps105 Tryz.results105 rfl (aS [4] (by kernel_rfl) (bX (aj [(5,pI 0)] (by kernel_rfl) (cO h fun q5 hq5 h=>?_))))
 refine am (Y:=Unit×(ByteArray×Int)) (fun (_,(v2,v3))=>[(0,pL eS p0),(1,pS v2),(5,pI v3)]) (fun (_,(v2,v3))=>[]) (fun (_,(v2,v3))=>q5=(v2,v3)) ?_ ?_
 ·refine az ?_
  refine aC (Y:=Unit) (S:=Int) _ hq5 (fun _ v1=>[(0,pL eS p0),(1,pS p1),(5,pI v1)]) (fun _ v1=>[]) () (mq rfl) bv ?_
  rintro _ v1 o τ hb4;(try dsimp only at hb4);dsimp only [aw]
  refine cN (aa hb4 fun m6 hm6 hb4=>an [] (rg 6 11) [(17,pB ((decide (v1<(p0.length:Int)))&&(Op.bytesLess m6.toList p1.toList)))] (eM 7 eS (cD hm6) bh) (by kernel_rfl) (cR rfl hb4 (fun hc7 hb4=>?_) fun hc7 hb4=>?_))
  ·refine ah ?_
   refine aN (az (ai [18,19] [(5,pI (IntKind.i64.wrap (v1+1)))] (by kernel_rfl) (aF ?_)))
   exact aP hb4 () (mq rfl) bv
  refine aG ?_
  refine cb hb4 (fun ht=>ak rfl ?_)
  exact av ((),(p1,v1)) (mq rfl) bv ht.symm
 rintro ⟨_,⟨v2,v3⟩⟩ τ hz;(try dsimp only at hz);subst q5;(try dsimp only at h);dsimp only [aw]
 refine cN (aa h fun m8 hm8 h=>an [] (rg 20 11) [(31,pB ((decide (v3<(p0.length:Int)))&&(decide (m8=v2))))] (eM 7 eS (cD hm8) bh) (by kernel_rfl) (cR rfl h (fun hc9 h=>?_) fun hc9 h=>?_))
 ·refine ae ?_
  refine ai [32] [(4,pL eS p0)] (by kernel_rfl) (dj (aq ?_))
  exact zz r h rfl
 refine ah ?_
 refine bX (bo (ρd:=[]) [(1,0),(2,0),(3,0),(5,0),(6,3),(8,0),(9,0),(10,0),(0,1),(4,1),(6,2),(7,1),(11,1),(12,0)] _ (List.Perm.refl _) (by kernel_rfl) rfl (aa h fun l10 hl10 h=>bx 4 [] [34,35] [(36,pL eS l10),(38,pS v2)] (yd 2 eS 1 (fun _=>rfl) hl10 bh) (by kernel_rfl) (zo (qn rfl rfl rfl rfl rfl (fU rfl iX) rfl rfl rfl) (aa h fun l11 hl11 h=>bx 3 [] [41,42] [(43,pL eS l11)] (yd 2 eS 1 (fun _=>rfl) hl11 bh) (by kernel_rfl) (jF rfl rfl rfl (bA rfl rfl rfl rfl rfl iX rfl rfl rfl rfl (fun b12=>aa h fun l14 hl14 h=>?_)))))))
 refine jF rfl rfl rfl (gh (enc:=eS) rfl rfl rfl rfl rfl (fun _=>rfl) rfl rfl rfl (by exact aJ) hl14 (fun a15 c16=>?_))
 refine rH (qn rfl rfl rfl rfl rfl (fU rfl iX) rfl rfl rfl) (fun _=>rfl) rfl (fun b18=>aa h fun l20 hl20 h=>?_)
 refine jF rfl rfl rfl (zn (enc:=eS) rfl rfl rfl rfl rfl (fun _=>rfl) rfl rfl rfl rfl fy rfl (by exact ar aJ) hl20 (fun a21 c22=>?_))
 refine aa h fun l24 hl24 h=>?_
 refine jF rfl rfl rfl (gh (enc:=eS) rfl rfl rfl rfl rfl (fun _=>rfl) rfl rfl rfl (by exact aJ) hl24 (fun a25 c26=>?_))
 refine iD 1 [(4,pO a25 l24.length c26)] (by kernel_rfl) (bG (aN ?_))
 refine dB (enc:=eS) (xs:=l24) 4 rfl (by exact aJ) ?_
 refine bB ?_
 exact zz r h rfl
def jH (p0:(List ByteArray)) (p1:(List ByteArray)):Option (List ByteArray):=(aW (S:=(List ByteArray)×Int) (T:=((List ByteArray)×(List ByteArray))) (fun (l1,v2)=>cond (decide (v2<(p0.length:Int))) ((idx p0 v2).bind fun m8=>(kG l1 m8).bind fun x9=>some (.inl (x9,(IntKind.i64.wrap (v2+1))))) (some (.inr (p1,l1)))) FUEL ([],0)).bind fun (l3,l4)=>(aW (S:=(List ByteArray)×Int) (T:=((List ByteArray))) (fun (l10,v11)=>cond (decide (v11<(l3.length:Int))) ((idx l3 v11).bind fun m16=>(kG l10 m16).bind fun x17=>some (.inl (x17,(IntKind.i64.wrap (v11+1))))) (some (.inr l10))) FUEL (l4,0)).bind fun l12=>some l12
theorem vi {p0:(List ByteArray)} {p1:(List ByteArray)} {r:(List ByteArray)}  (h:jH p0 p1=some r):PF 57 [pL eS p0,pL eS p1] (pL eS r):=by
 unfold jH at h
 refine bd ?_
 refine dm Tryz.func57 rfl Tryz.ntmps57 Tryz.results57 rfl (aS [4] (by kernel_rfl) (bX (aj [(5,pN)] (by kernel_rfl) (cq (aj [(6,pI 0)] (by kernel_rfl) (aN (gg 5 rfl (aa h fun q6 hq6 h=>?_))))))))
 refine am (Y:=Unit×((List ByteArray)×(List ByteArray))) (fun (_,(l3,l4))=>[(1,pL eS l3),(5,pL eS l4)]) (fun (_,(l3,l4))=>[]) (fun (_,(l3,l4))=>q6=(l3,l4)) ?_ ?_
 ·refine az ?_
  refine aC (Y:=Unit) (S:=(List ByteArray)×Int) _ hq6 (fun _ (l1,v2)=>[(0,pL eS p0),(1,pL eS p1),(5,pL eS l1),(6,pI v2)]) (fun _ (l1,v2)=>[]) () (hY rfl) bv ?_
  rintro _ ⟨l1,v2⟩ o τ hb5;(try dsimp only at hb5);dsimp only [aw]
  refine cN (bI [8,9,10] [(11,pB (decide (v2<(p0.length:Int))))] (by kernel_rfl) rfl hb5 (fun hc7 hb5=>?_) fun hc7 hb5=>?_)
  ·refine ah ?_
   refine bX (az (aa hb5 fun m8 hm8 hb5=>aa hb5 fun x9 hx9 hb5=>an [] (rg 14 6) [(5,pL eS x9)] (cJ 3 eS hm8 (bi 5 (qJ hx9) bh)) (by kernel_rfl) (dt (ai [12,13] [(6,pI (IntKind.i64.wrap (v2+1)))] (by kernel_rfl) ?_))))
   exact aP hb5 () (hY rfl) bv
  refine aG ?_
  refine cb hb5 (fun ht=>ak rfl ?_)
  exact av ((),(p1,l1)) (lL rfl) bv ht.symm
 rintro ⟨_,⟨l3,l4⟩⟩ τ hz;(try dsimp only at hz);subst q6;(try dsimp only at h);dsimp only [aw]
 refine cN (aj [(7,pI 0)] (by kernel_rfl) (eZ h fun q14 hq14 h=>?_))
 refine am (Y:=Unit×((List ByteArray))) (fun (_,l12)=>[(5,pL eS l12)]) (fun (_,l12)=>[]) (fun (_,l12)=>q14=l12) ?_ ?_
 ·refine az ?_
  refine aC (Y:=Unit) (S:=(List ByteArray)×Int) _ hq14 (fun _ (l10,v11)=>[(1,pL eS l3),(5,pL eS l10),(7,pI v11)]) (fun _ (l10,v11)=>[]) () (mq rfl) bv ?_
  rintro _ ⟨l10,v11⟩ o τ hb13;(try dsimp only at hb13);dsimp only [aw]
  refine cN (bI [20,21,22] [(23,pB (decide (v11<(l3.length:Int))))] (by kernel_rfl) rfl hb13 (fun hc15 hb13=>?_) fun hc15 hb13=>?_)
  ·refine ah ?_
   refine bX (az (aa hb13 fun m16 hm16 hb13=>aa hb13 fun x17 hx17 hb13=>an [] (rg 26 6) [(5,pL eS x17)] (cJ 3 eS hm16 (bi 5 (qJ hx17) bh)) (by kernel_rfl) (dt (ai [24,25] [(7,pI (IntKind.i64.wrap (v11+1)))] (by kernel_rfl) ?_))))
   exact aP hb13 () (mq rfl) bv
  refine aG ?_
  refine cb hb13 (fun ht=>ak rfl ?_)
  exact av ((),l10) (qV rfl) bv ht.symm
 rintro ⟨_,l12⟩ τ hz;(try dsimp only at hz);subst q14;(try dsimp only at h);dsimp only [aw]
 refine ae (ai [32] [(4,pL eS l12)] (by kernel_rfl) (dj ?_))
 exact zz r h rfl
def ec (p0:(List Za)) (p1:Za):Option Bool:=(aW (S:=Int) (T:=(Unit)⊕(_)) (fun v2=>cond (decide (v2<(p0.length:Int))) ((idx p0 v2).bind fun m6=>cond (Za.eqb m6 p1) (some (.inr (.inr true))) (some (.inl (IntKind.i64.wrap (v2+1))))) (some (.inr (.inl ())))) FUEL 0).bind fun q=>match q with | .inl _=>some false | .inr e=>some e
theorem j8 {p0:(List Za)} {p1:Za} {r:Bool}  (h:ec p0 p1=some r):PF 68 [pL Za.enc p0,.agg [pI p1.Product,pI p1.Agreement]] (pB r):=by
 unfold ec at h
 refine bd ?_
 refine dm Tryz.func68 rfl Tryz.ntmps68 Tryz.results68 rfl (cU rfl (bg (cs:=[pI p1.Product,pI p1.Agreement]) rfl rfl (fun b1=>ba [4] (by kernel_rfl) (cq (aj [(5,pI 0)] (by kernel_rfl) (eZ h fun q4 hq4 h=>?_))))))
 refine am (Y:=Unit×Unit) (fun (_,_)=>[]) (fun (_,_)=>[]) (fun (_,_)=>q4=Sum.inl ()) ?_ ?_
 ·refine az ?_
  refine aC (Y:=Unit) (S:=Int) _ hq4 (fun _ v2=>[(0,pL Za.enc p0),(3,pP b1 0),(5,pI v2)]) (fun _ v2=>[PRes.b b1 28 [pI p1.Product,pI p1.Agreement]]) () (mq rfl) cE ?_
  rintro _ v2 o τ hb3;(try dsimp only at hb3);dsimp only [aw]
  refine cN (bI [6,7,8] [(9,pB (decide (v2<(p0.length:Int))))] (by kernel_rfl) rfl hb3 (fun hc5 hb3=>?_) fun hc5 hb3=>?_)
  ·refine ah ?_
   refine du (bo (ρd:=[]) [(0,0),(1,0),(2,0),(3,0),(4,0),(5,0)] _ (List.Perm.refl _) (by kernel_rfl) rfl (aa hb3 fun m6 hm6 hb3=>bx 6 [0] (rg 12 5) [(17,pB (Za.eqb m6 p1))] (cJ 2 Za.enc hm6 (A1 5 Za.eqok28 bh)) (by kernel_rfl) (bG (cR rfl hb3 (fun hc7 hb3=>?_) fun hc7 hb3=>?_))))
   ·refine ae ?_
    refine da [(4,pB true)] (by kernel_rfl) (dR ?_)
    refine aA hb3 (fun ht=>?_);subst ht
    refine cS ?_
    exact zz r h rfl
   refine ah ?_
   refine dt (ai [10,11] [(5,pI (IntKind.i64.wrap (v2+1)))] (by kernel_rfl) ?_)
   exact aP hb3 () (mq rfl) cE
  refine aG ?_
  refine cb hb3 (fun ht=>ak rfl ?_)
  exact av ((),()) nG bv ht.symm
 rintro ⟨_,_⟩ τ hz;(try dsimp only at hz);subst q4;(try dsimp only at h);dsimp only [aw]
 refine ae (da [(4,pB false)] (by kernel_rfl) ?_)
 exact zz r h rfl
def iu (p0:(List Int)) (p1:Int) (p2:(List Za)):Option (Za×Bool):=(aW (S:=Int) (T:=(Unit)⊕(_)) (fun v2=>cond (decide (v2<(p0.length:Int))) ((idx p0 v2).bind fun m6=>(ec p2 (⟨p1,m6⟩:Za)).bind fun x8=>cond x8 (some (.inr (.inr ((⟨p1,m6⟩:Za),true)))) (some (.inl (IntKind.i64.wrap (v2+1))))) (some (.inr (.inl ())))) FUEL 0).bind fun q=>match q with | .inl _=>some ((⟨0,0⟩:Za),false) | .inr e=>some e
theorem nQ {p0:(List Int)} {p1:Int} {p2:(List Za)} {r:(Za×Bool)}  (h:iu p0 p1 p2=some r):PF 58 [pL eI p0,pI p1,pL Za.enc p2] (.tup [.agg [pI r.1.Product,pI r.1.Agreement],pB r.2]):=by
 unfold iu at h
 refine bd ?_
 refine dm Tryz.func58 rfl Tryz.ntmps58 Tryz.results58 rfl (cU rfl (aM (cs:=[pI 0,pI 0]) rfl rfl rfl rfl (fun b1=>ba [7] (by kernel_rfl) (cq (aj [(8,pI 0)] (by kernel_rfl) (eZ h fun q4 hq4 h=>?_))))))
 refine am (Y:=Unit×Unit) (fun (_,_)=>[(6,pP b1 0)]) (fun (_,_)=>[PRes.b b1 28 [pI 0,pI 0]]) (fun (_,_)=>q4=Sum.inl ()) ?_ ?_
 ·refine az ?_
  refine aC (Y:=Unit) (S:=Int) _ hq4 (fun _ v2=>[(0,pL eI p0),(1,pI p1),(2,pL Za.enc p2),(6,pP b1 0),(8,pI v2)]) (fun _ v2=>[PRes.b b1 28 [pI 0,pI 0]]) () (mC rfl) cE ?_
  rintro _ v2 o τ hb3;(try dsimp only at hb3);dsimp only [aw]
  refine cN (bI [10,11,12] [(13,pB (decide (v2<(p0.length:Int))))] (by kernel_rfl) rfl hb3 (fun hc5 hb3=>?_) fun hc5 hb3=>?_)
  ·refine ah ?_
   refine du (aa hb3 fun m6 hm6 hb3=>af (aY 6 [] (rg 16 5) [(21,.agg [pI p1,pI m6])] (cJ 3 eI hm6 bh) (by kernel_rfl) (al rfl (aM (cs:=[pI 0,pI 0]) rfl rfl rfl rfl (fun b7=>aO rfl rfl (ap (vs:=[pI p1,pI m6]) rfl rfl rfl rfl rfl co sk (aH (cO hb3 fun x8 hx8 hb3=>an [0] [22,23] [(24,pB x8)] (bi 2 (j8 hx8) bh) (by kernel_rfl) (cR rfl hb3 (fun hc9 hb3=>?_) fun hc9 hb3=>?_)))))))))
   ·refine ae ?_
    refine af (fH 1 [0] [(25,.agg [pI p1,pI m6])] (by kernel_rfl) (aO rfl rfl (ap (vs:=[pI p1,pI m6]) rfl rfl rfl rfl rfl (db co) sk (aI [(7,pB true)] (by kernel_rfl) (dj (dR ?_))))))
    refine aA hb3 (fun ht=>?_);subst ht
    refine cS ?_
    obtain rfl:=osi h
    exact aR (cH (dJ rfl wf rfl) (aT rfl)) bv ⟨rfl,rfl⟩
   refine ah ?_
   refine dt (ai [14,15] [(8,pI (IntKind.i64.wrap (v2+1)))] (by kernel_rfl) ?_)
   exact aP hb3 () (mC rfl) (aZ (ar aJ) bv)
  refine aG ?_
  refine cb hb3 (fun ht=>ak rfl ?_)
  exact av ((),()) (qV rfl) cE ht.symm
 rintro ⟨_,_⟩ τ hz;(try dsimp only at hz);subst q4;(try dsimp only at h);dsimp only [aw]
 refine ae (af (aB 1 [(26,.agg [pI 0,pI 0])] (by kernel_rfl) (aO rfl rfl (ap (vs:=[pI 0,pI 0]) rfl rfl rfl rfl rfl co sk (aI [(7,pB false)] (by kernel_rfl) (dj ?_))))))
 obtain rfl:=osi h
 exact aR (cH (dJ rfl fy rfl) (aT rfl)) bv ⟨rfl,rfl⟩
def kH (p0:Za) (p1:Za):Option Bool:=some ((decide (p0.Product<p1.Product))||((p0.Product == p1.Product)&&(decide (p0.Agreement<p1.Agreement))))
theorem wm {p0:Za} {p1:Za} {r:Bool}  (h:kH p0 p1=some r):PF 106 [.agg [pI p0.Product,pI p0.Agreement],.agg [pI p1.Product,pI p1.Agreement]] (pB r):=by
 unfold kH at h
 refine bd ?_
 refine dm Tryz.func106 rfl Tryz.ntmps106 Tryz.results106 rfl (cU rfl (bg (cs:=[pI p0.Product,pI p0.Agreement]) rfl rfl (fun b1=>al rfl (bg (cs:=[pI p1.Product,pI p1.Agreement]) rfl rfl (fun b2=>ba [4] (by kernel_rfl) (bX (aL [1,0,1,0,1,0] (rg 5 19) [(4,pB ((decide (p0.Product<p1.Product))||((p0.Product == p1.Product)&&(decide (p0.Agreement<p1.Agreement)))))] (by kernel_rfl) (dj ?_))))))))
 exact zz r h rfl
def fK (p0:(List Za)) (p1:Za):Option (List Za):=(ec p0 p1).bind fun x2=>cond x2 (some p0) ((aW (S:=Int) (T:=(Int)) (fun v4=>(gd (decide (v4<(p0.length:Int))) (idx p0 v4)).bind fun m8=>(gd (decide (v4<(p0.length:Int))) (kH m8 p1)).bind fun x9=>cond ((decide (v4<(p0.length:Int)))&&x9) (some (.inl (IntKind.i64.wrap (v4+1)))) (some (.inr v4))) FUEL 0).bind fun v5=>(sub p0 0 v5).bind fun l11=>(sub p0 v5 (p0.length:Int)).bind fun l12=>(app 16 ([]:List Za) l11).bind fun l15=>(app 16 l15 [p1]).bind fun l21=>(app 16 l21 l12).bind fun l25=>some l25)
theorem nt {p0:(List Za)} {p1:Za} {r:(List Za)}  (h:fK p0 p1=some r):PF 59 [pL Za.enc p0,.agg [pI p1.Product,pI p1.Agreement]] (pL Za.enc r):=by
 unfold fK at h
 refine bd ?_
 refine dm Tryz.func59 rfl Tryz.ntmps59 Tryz.results59 rfl (cU rfl (bg (cs:=[pI p1.Product,pI p1.Agreement]) rfl rfl (fun b1=>ba [4] (by kernel_rfl) (cq (aa h fun x2 hx2 h=>an [0] [6,7] [(8,pB x2)] (bi 2 (j8 hx2) bh) (by kernel_rfl) (cR rfl h (fun hc3 h=>?_) fun hc3 h=>?_))))))
 ·refine ae ?_
  refine ai [9] [(4,pL Za.enc p0)] (by kernel_rfl) (dj (aq ?_))
  exact zz r h rfl
 refine ah ?_
 refine bX (aj [(5,pI 0)] (by kernel_rfl) (cO h fun q7 hq7 h=>?_))
 refine am (Y:=Unit×Int) (fun (_,v5)=>[(0,pL Za.enc p0),(3,pP b1 0),(5,pI v5)]) (fun (_,v5)=>[PRes.b b1 28 [pI p1.Product,pI p1.Agreement]]) (fun (_,v5)=>q7=v5) ?_ ?_
 ·refine az ?_
  refine aC (Y:=Unit) (S:=Int) _ hq7 (fun _ v4=>[(0,pL Za.enc p0),(3,pP b1 0),(5,pI v4)]) (fun _ v4=>[PRes.b b1 28 [pI p1.Product,pI p1.Agreement]]) () (mq rfl) cE ?_
  rintro _ v4 o τ hb6;(try dsimp only at hb6);dsimp only [aw]
  refine cN (bo (ρd:=[]) [(0,0),(1,0),(2,0),(3,0),(4,0),(5,0),(6,0),(7,0),(8,0),(9,0),(10,1),(11,0)] _ (List.Perm.refl _) (by kernel_rfl) rfl (aa hb6 fun m8 hm8 hb6=>aa hb6 fun x9 hx9 hb6=>bx 12 [0] (rg 10 11) [(21,pB ((decide (v4<(p0.length:Int)))&&x9))] (eM 7 Za.enc (cD hm8) (dT 10 (fun hc=>wm (cD hx9 hc)) bh)) (by kernel_rfl) (bG (cR rfl hb6 (fun hc10 hb6=>?_) fun hc10 hb6=>?_))))
  ·refine ah ?_
   refine aN (az (ai [22,23] [(5,pI (IntKind.i64.wrap (v4+1)))] (by kernel_rfl) (aF ?_)))
   exact aP hb6 () (mq rfl) cE
  refine aG ?_
  refine cb hb6 (fun ht=>ak rfl ?_)
  exact av ((),v4) (mq rfl) cE ht.symm
 rintro ⟨_,v5⟩ τ hz;(try dsimp only at hz);subst q7;(try dsimp only at h);dsimp only [aw]
 refine ae (bo (ρd:=[]) [(1,0),(2,0),(3,0),(5,0),(6,3),(8,0),(9,0),(10,0),(0,1),(4,1),(6,2),(7,1),(11,1),(12,0)] _ (List.Perm.refl _) (by kernel_rfl) rfl (aa h fun l11 hl11 h=>bx 4 [0] [25,26] [(27,pL Za.enc l11),(29,.agg [pI p1.Product,pI p1.Agreement])] (yd 2 Za.enc 2 (fun _=>rfl) hl11 bh) (by kernel_rfl) (zo (qn rfl rfl rfl rfl rfl (fU rfl iX) rfl rfl rfl) (aa h fun l12 hl12 h=>bx 3 [] [32,33] [(34,pL Za.enc l12)] (yd 2 Za.enc 2 (fun _=>rfl) hl12 bh) (by kernel_rfl) (jF rfl rfl rfl (bA rfl rfl rfl rfl rfl iX rfl rfl rfl rfl (fun b13=>aa h fun l15 hl15 h=>?_)))))))
 refine jF rfl rfl rfl (gh (enc:=Za.enc) rfl rfl rfl rfl rfl (fun _=>rfl) rfl rfl rfl (by exact aJ) hl15 (fun a16 c17=>?_))
 refine rH (qn rfl rfl rfl rfl rfl (fU rfl iX) rfl rfl rfl) (fun _=>rfl) rfl (fun b19=>aa h fun l21 hl21 h=>?_)
 refine jF rfl rfl rfl (zn (enc:=Za.enc) rfl rfl rfl rfl rfl (fun _=>rfl) rfl rfl rfl rfl fy rfl (by exact ar aJ) hl21 (fun a22 c23=>?_))
 refine aa h fun l25 hl25 h=>?_
 refine jF rfl rfl rfl (gh (enc:=Za.enc) rfl rfl rfl rfl rfl (fun _=>rfl) rfl rfl rfl (by exact aJ) hl25 (fun a26 c27=>?_))
 refine iD 1 [(4,pO a26 l25.length c27)] (by kernel_rfl) (bG (aN ?_))
 refine dB (enc:=Za.enc) (xs:=l25) 4 rfl (by exact aJ) ?_
 refine bB ?_
 exact zz r h rfl
def gO (p0:Zm) (p1:Zm):Option (Zm×Bool):=Option.bind (cond (decide ((IntKind.u64.wrap (p0.Lo+p1.Lo))<p0.Lo)) (lb ((IntKind.u64.wrap ((IntKind.u64.wrap (p0.Hi+p1.Hi))+1))) (fun w8=>some (w8,((decide ((IntKind.u64.wrap (p0.Hi+p1.Hi))<p0.Hi))||(w8 == 0))))) (some ((IntKind.u64.wrap (p0.Hi+p1.Hi)),(decide ((IntKind.u64.wrap (p0.Hi+p1.Hi))<p0.Hi))))) (fun (v4,v5)=>some ((⟨v4,(IntKind.u64.wrap (p0.Lo+p1.Lo))⟩:Zm),v5))
theorem mb {p0:Zm} {p1:Zm} {r:(Zm×Bool)}  (h:gO p0 p1=some r):PF 155 [.agg [pU p0.Hi,pU p0.Lo],.agg [pU p1.Hi,pU p1.Lo]] (.tup [.agg [pU r.1.Hi,pU r.1.Lo],pB r.2]):=by
 unfold gO at h
 refine bd ?_
 refine dm Tryz.func155 rfl Tryz.ntmps155 Tryz.results155 rfl (cU rfl (bg (cs:=[pU p0.Hi,pU p0.Lo]) rfl rfl (fun b1=>al rfl (bg (cs:=[pU p1.Hi,pU p1.Lo]) rfl rfl (fun b2=>al rfl (aM (cs:=[pU 0,pU 0]) rfl rfl rfl rfl (fun b3=>ba [5] (by kernel_rfl) (bX (bo (ρd:=[]) [(0,0),(1,0),(2,0),(3,0),(4,0),(5,0),(6,0),(7,0),(8,0),(9,0),(10,0),(11,0)] _ (List.Perm.refl _) (by kernel_rfl) rfl (vg 12 [2,1,2,1] (rg 9 10) [(6,pU (IntKind.u64.wrap (p0.Lo+p1.Lo))),(7,pU (IntKind.u64.wrap (p0.Hi+p1.Hi)))] (by kernel_rfl) (bG (bX (aL [2] [19,20,21,22] [(8,pB (decide ((IntKind.u64.wrap (p0.Hi+p1.Hi))<p0.Hi)))] (by kernel_rfl) (cq (aL [2] [23,24,25] [(26,pB (decide ((IntKind.u64.wrap (p0.Lo+p1.Lo))<p0.Lo)))] (by kernel_rfl) (eZ h fun q6 hq6 h=>?_))))))))))))))))
 refine am (Y:=Unit×(Int×Bool)) (fun (_,(v4,v5))=>[(4,pP b3 0),(6,pU (IntKind.u64.wrap (p0.Lo+p1.Lo))),(7,pU v4),(8,pB v5)]) (fun (_,(v4,v5))=>[PRes.b b3 167 [pU 0,pU 0]]) (fun (_,(v4,v5))=>q6=(v4,v5)) ?_ ?_
 ·skip
  refine i4 rfl hq6 (fun hc7 hq6=>?_) fun hc7 hq6=>?_
  ·refine ae ?_
   refine eQ hq6 ?_;clear hq6;intro w8 hw8 hq6
   refine af (cL 2 [27] [(28,pU (IntKind.u64.wrap ((IntKind.u64.wrap (p0.Hi+p1.Hi))+1)))] (by kernel_rfl) (bN rfl rfl rfl (bU rfl (.p (congrArg (fun z=>PV.v (Value.int .u64 z)) hw8))) (aH (aN (ai (rg 29 5) [(8,pB ((decide ((IntKind.u64.wrap (p0.Hi+p1.Hi))<p0.Hi))||(w8 == 0)))] (by kernel_rfl) ?_)))))
   obtain rfl:=osi hq6
   exact av ((),(w8,((decide ((IntKind.u64.wrap (p0.Hi+p1.Hi))<p0.Hi))||(w8 == 0)))) (hY rfl) cE rfl
  refine ah ?_
  obtain rfl:=osi hq6
  exact av ((),((IntKind.u64.wrap (p0.Hi+p1.Hi)),(decide ((IntKind.u64.wrap (p0.Hi+p1.Hi))<p0.Hi)))) (hY rfl) cE rfl
 rintro ⟨_,⟨v4,v5⟩⟩ τ hz;(try dsimp only at hz);subst q6;(try dsimp only at h);dsimp only [aw]
 refine ae (af (cL 4 [34,35] [(36,.agg [pU v4,pU (IntKind.u64.wrap (p0.Lo+p1.Lo))]),(37,pB v5)] (by kernel_rfl) (aO rfl rfl (ap (vs:=[pU v4,pU (IntKind.u64.wrap (p0.Lo+p1.Lo))]) rfl rfl rfl rfl rfl co sk (aI [(5,pB v5)] (by kernel_rfl) (dj ?_))))))
 obtain rfl:=osi h
 exact aR (cH (dJ rfl fy rfl) (aT rfl)) bv ⟨rfl,rfl⟩
def j9 (p0:Zm) (p1:Int):Option (Zm×Int):=(aW (S:=Int×Int×Int×Int) (T:=(Int×Int×Int)) (fun (v4,v5,v6,v7)=>cond (decide (0≤v5)) (((ll (dc .i64 v5 63)).bind fun u18=>lb ((dc .u64 (cx .u64 p0.Lo (dc .i64 v5 63)) 1)) (fun w19=>Option.bind (cond (decide (63<v5)) ((ll (IntKind.i64.wrap (v5 - 64))).bind fun u23=>lb ((dc .u64 (cx .u64 p0.Hi (IntKind.i64.wrap (v5 - 64))) 1)) (fun w24=>some w24)) (some w19)) (fun v20=>(gO (⟨v6,v7⟩:Zm) (⟨v6,v7⟩:Zm)).bind fun x25=>cond (((cx .u64 v4 63) == 1)||(decide (p1≤(nY .u64 (fu .u64 v4 1) v20)))) (lb ((IntKind.u64.wrap ((nY .u64 (fu .u64 v4 1) v20) - p1))) (fun w27=>some (w27,x25.1.Hi,(nY .u64 x25.1.Lo 1)))) (some ((nY .u64 (fu .u64 v4 1) v20),x25.1.Hi,x25.1.Lo))))).bind fun (v14,v15,v16)=>some (.inl (v14,(IntKind.i64.wrap (v5 - 1)),v15,v16))) (some (.inr (v4,v6,v7)))) FUEL (0,127,0,0)).bind fun (v8,v9,v10)=>some ((⟨v9,v10⟩:Zm),v8)
theorem tM {p0:Zm} {p1:Int} {r:(Zm×Int)}  (h:j9 p0 p1=some r):PF 154 [.agg [pU p0.Hi,pU p0.Lo],pU p1] (.tup [.agg [pU r.1.Hi,pU r.1.Lo],pU r.2]):=by
 unfold j9 at h
 refine bd ?_
 refine dm Tryz.func154 rfl Tryz.ntmps154 Tryz.results154 rfl (cU rfl (bg (cs:=[pU p0.Hi,pU p0.Lo]) rfl rfl (fun b1=>al rfl (aM (cs:=[pU 0,pU 0]) rfl rfl rfl rfl (fun b2=>ba [5] (by kernel_rfl) (bX (af (aB 1 [(11,.agg [pU 0,pU 0])] (by kernel_rfl) (al rfl (aM (cs:=[pU 0,pU 0]) rfl rfl rfl rfl (fun b3=>aO rfl rfl (ap (vs:=[pU 0,pU 0]) rfl rfl rfl rfl rfl co sk (aI [(7,pU 0)] (by kernel_rfl) (cq (aj [(8,pI 127)] (by kernel_rfl) (eZ h fun q12 hq12 h=>?_))))))))))))))))
 refine am (Y:=Unit×(Int×Int×Int)) (fun (_,(v8,v9,v10))=>[(4,pP b2 0),(6,pP b3 0),(7,pU v8)]) (fun (_,(v8,v9,v10))=>[PRes.b b2 167 [pU 0,pU 0],PRes.b b3 167 [pU v9,pU v10]]) (fun (_,(v8,v9,v10))=>q12=(v8,v9,v10)) ?_ ?_
 ·refine az ?_
  refine aC (Y:=Unit) (S:=Int×Int×Int×Int) _ hq12 (fun _ (v4,v5,v6,v7)=>[(1,pU p1),(2,pP b1 0),(4,pP b2 0),(6,pP b3 0),(7,pU v4),(8,pI v5)]) (fun _ (v4,v5,v6,v7)=>[PRes.b b1 167 [pU p0.Hi,pU p0.Lo],PRes.b b2 167 [pU 0,pU 0],PRes.b b3 167 [pU v6,pU v7]]) () (rI rfl) (aZ (ar (ar aJ)) (aZ (ar aJ) cE)) ?_
  rintro _ ⟨v4,v5,v6,v7⟩ o τ hb11;(try dsimp only at hb11);dsimp only [aw]
  refine cN (bI [12] [(13,pB (decide (0≤v5)))] (by kernel_rfl) rfl hb11 (fun hc13 hb11=>?_) fun hc13 hb11=>?_)
  ·refine ah ?_
   refine cO hb11 fun q17 hq17 hb11=>?_
   refine am (Y:=Unit×(Int×Int×Int)) (fun (_,(v14,v15,v16))=>[(1,pU p1),(2,pP b1 0),(4,pP b2 0),(6,pP b3 0),(7,pU v14),(8,pI v5)]) (fun (_,(v14,v15,v16))=>[PRes.b b1 167 [pU p0.Hi,pU p0.Lo],PRes.b b2 167 [pU 0,pU 0],PRes.b b3 167 [pU v15,pU v16]]) (fun (_,(v14,v15,v16))=>q17=(v14,v15,v16)) ?_ ?_
   ·skip
    refine pg (aa hq17 fun u18 hu18 hq17=>?_)
    refine eQ hq17 ?_;clear hq17;intro w19 hw19 hq17
    refine af (aY 6 [0] (rg 16 5) [(21,pU (dc .u64 (cx .u64 p0.Lo (dc .i64 v5 63)) 1))] (tI 4 hu18 bh) (by kernel_rfl) (bN rfl rfl rfl (bU rfl (.p (congrArg (fun z=>PV.v (Value.int .u64 z)) hw19))) (aH (cq (ai [22] [(23,pB (decide (63<v5)))] (by kernel_rfl) (eZ hq17 fun q21 hq21 hq17=>?_))))))
    refine am (Y:=Unit×Int) (fun (_,v20)=>[(1,pU p1),(2,pP b1 0),(4,pP b2 0),(6,pP b3 0),(7,pU v4),(8,pI v5),(9,pU v20)]) (fun (_,v20)=>[PRes.b b1 167 [pU p0.Hi,pU p0.Lo],PRes.b b2 167 [pU 0,pU 0],PRes.b b3 167 [pU v6,pU v7]]) (fun (_,v20)=>q21=v20) ?_ ?_
    ·skip
     refine i4 rfl hq21 (fun hc22 hq21=>?_) fun hc22 hq21=>?_
     ·refine aa hq21 ?_;clear hq21;intro u23 hu23 hq21
      refine eQ hq21 ?_;clear hq21;intro w24 hw24 hq21
      refine af (aY 6 [0] (rg 24 5) [(29,pU (dc .u64 (cx .u64 p0.Hi (IntKind.i64.wrap (v5 - 64))) 1))] (tI 4 hu23 bh) (by kernel_rfl) (bN rfl rfl rfl (bU rfl (.p (congrArg (fun z=>PV.v (Value.int .u64 z)) hw24))) (aH ?_)))
      obtain rfl:=osi hq21
      exact av ((),w24) (qG rfl) AD rfl
     refine ah ?_
     obtain rfl:=osi hq21
     exact av ((),w19) (qG rfl) AD rfl
    rintro ⟨_,v20⟩ τ hz;(try dsimp only at hz);subst q21;(try dsimp only at hq17);dsimp only [aw]
    refine ae (ai [30,31] [(10,pU (cx .u64 v4 63))] (by kernel_rfl) (bX (ai [32,33,34,35] [(7,pU (nY .u64 (fu .u64 v4 1) v20))] (by kernel_rfl) (cO hq17 fun x25 hx25 hq17=>af (aY 6 [2,2] [37,38,39,36,41] [(40,.agg [pU x25.1.Hi,pU x25.1.Lo])] (bi 2 (mb hx25) bh) (by kernel_rfl) (aO rfl rfl (ap (vs:=[pU x25.1.Hi,pU x25.1.Lo]) rfl rfl rfl rfl rfl (db (db co)) sk (aH (bX (bI (rg 42 6) [(48,pB (((cx .u64 v4 63) == 1)||(decide (p1≤(nY .u64 (fu .u64 v4 1) v20)))))] (by kernel_rfl) rfl hq17 (fun hc26 hq17=>?_) fun hc26 hq17=>?_))))))))))
    ·refine ae ?_
     refine eQ hq17 ?_;clear hq17;intro w27 hw27 hq17
     refine af (cL 3 [49,50] [(51,pU (IntKind.u64.wrap ((nY .u64 (fu .u64 v4 1) v20) - p1)))] (by kernel_rfl) (bN rfl rfl rfl (bU rfl (.p (congrArg (fun z=>PV.v (Value.int .u64 z)) hw27))) (aH (aN (af (cu 4 [2] [52,53] [(54,pU (nY .u64 x25.1.Lo 1)),(55,pP b3 1)] (by kernel_rfl) (aO rfl rfl (ap (vs:=[pU (nY .u64 x25.1.Lo 1)]) rfl rfl rfl rfl rfl (db (db co)) (dL nB) (aH (aF ?_))))))))))
     obtain rfl:=osi hq17
     exact av ((),(w27,x25.1.Hi,(nY .u64 x25.1.Lo 1))) (rI rfl) AD rfl
    refine ah ?_
    refine aF ?_
    obtain rfl:=osi hq17
    exact av ((),((nY .u64 (fu .u64 v4 1) v20),x25.1.Hi,x25.1.Lo)) (rI rfl) AD rfl
   rintro ⟨_,⟨v14,v15,v16⟩⟩ τ hz;(try dsimp only at hz);subst q17;(try dsimp only at hb11);dsimp only [aw]
   refine ai [14,15] [(8,pI (IntKind.i64.wrap (v5 - 1)))] (by kernel_rfl) ?_
   exact aP hb11 () (rI rfl) AD
  refine aG ?_
  refine cb hb11 (fun ht=>ak rfl ?_)
  exact av ((),(v4,v6,v7)) (mq rfl) (aZ (ar aJ) (aZ (ar aJ) bv)) ht.symm
 rintro ⟨_,⟨v8,v9,v10⟩⟩ τ hz;(try dsimp only at hz);subst q12;(try dsimp only at h);dsimp only [aw]
 refine ae (af (fH 2 [1] [(56,.agg [pU v9,pU v10]),(57,pU v8)] (by kernel_rfl) (aO rfl rfl (ap (vs:=[pU v9,pU v10]) rfl rfl rfl rfl rfl co sk (aI [(5,pU v8)] (by kernel_rfl) (dj ?_))))))
 obtain rfl:=osi h
 exact aR (cH (dJ rfl fy rfl) (aT rfl)) bv ⟨rfl,rfl⟩
def nR (p0:Zm) (p1:Int) (p2:Int):Option (Int×Int):=cond (((p1 == 0)||(decide (p2<0)))||(decide (3<p2))) (some ((0:Int),(2:Int))) ((j9 p0 p1).bind fun x3=>Option.bind (cond (p2 == 1) (some (decide (0<x3.2))) (cond (p2 == 2) (some (decide ((IntKind.u64.wrap (p1 - x3.2))≤x3.2))) (cond (p2 == 3) (some ((decide ((IntKind.u64.wrap (p1 - x3.2))<x3.2))||((x3.2 == (IntKind.u64.wrap (p1 - x3.2)))&&((dc .u64 x3.1.Lo 1) == 1)))) (some false)))) (fun v5=>Option.bind (cond v5 ((gO x3.1 (⟨0,1⟩:Zm)).bind fun x14=>some (x14.1.Hi,x14.1.Lo)) (some (x3.1.Hi,x3.1.Lo))) (fun (v10,v11)=>cond (decide (0<v10)) (some ((0:Int),(3:Int))) (some (v11,(0:Int))))))
theorem ym {p0:Zm} {p1:Int} {p2:Int} {r:(Int×Int)}  (h:nR p0 p1 p2=some r):PF 107 [.agg [pU p0.Hi,pU p0.Lo],pU p1,pI p2] (.tup [pU r.1,pI r.2]):=by
 unfold nR at h
 refine bd ?_
 refine dm Tryz.func107 rfl Tryz.ntmps107 Tryz.results107 rfl (cU rfl (bg (cs:=[pU p0.Hi,pU p0.Lo]) rfl rfl (fun b1=>ba [6,7] (by kernel_rfl) (cq (bI (rg 11 9) [(20,pB (((p1 == 0)||(decide (p2<0)))||(decide (3<p2))))] (by kernel_rfl) rfl h (fun hc2 h=>?_) fun hc2 h=>?_)))))
 ·refine ae ?_
  refine da [(6,pU 0),(7,pI 2)] (by kernel_rfl) (aq ?_)
  obtain rfl:=osi h
  exact aR (cH (aT rfl) (aT rfl)) bv ⟨rfl,rfl⟩
 refine ah ?_
 refine cO h fun x3 hx3 h=>af (aY 6 [0] [22,23,24,21] [(25,.agg [pU x3.1.Hi,pU x3.1.Lo]),(26,pU x3.2)] (bi 2 (tM hx3) bh) (by kernel_rfl) (al rfl (aM (cs:=[pU 0,pU 0]) rfl rfl rfl rfl (fun b4=>aO rfl rfl (ap (vs:=[pU x3.1.Hi,pU x3.1.Lo]) rfl rfl rfl rfl rfl co sk (aI [(9,pU x3.2)] (by kernel_rfl) (bX (aj [(10,pB false)] (by kernel_rfl) (cq (aj [(27,pI p2)] (by kernel_rfl) (eZ h fun q6 hq6 h=>?_)))))))))))
 refine am (Y:=Unit×Bool) (fun (_,v5)=>[(8,pP b4 0),(10,pB v5)]) (fun (_,v5)=>[PRes.b b4 167 [pU x3.1.Hi,pU x3.1.Lo]]) (fun (_,v5)=>q6=v5) ?_ ?_
 ·skip
  refine pg (bI [29] [(28,pB (p2 == 1))] (by kernel_rfl) rfl hq6 (fun hc7 hq6=>?_) fun hc7 hq6=>?_)
  ·refine ai [30,31] [(10,pB (decide (0<x3.2)))] (by kernel_rfl) ?_
   refine aF ?_
   obtain rfl:=osi hq6
   exact av ((),(decide (0<x3.2))) (lL rfl) cE rfl
  refine ae ?_
  refine bI [33] [(32,pB (p2 == 2))] (by kernel_rfl) rfl hq6 (fun hc8 hq6=>?_) fun hc8 hq6=>?_
  ·refine ai (rg 34 5) [(10,pB (decide ((IntKind.u64.wrap (p1 - x3.2))≤x3.2)))] (by kernel_rfl) ?_
   refine aF ?_
   obtain rfl:=osi hq6
   exact av ((),(decide ((IntKind.u64.wrap (p1 - x3.2))≤x3.2))) (lL rfl) cE rfl
  refine ae ?_
  refine bI [40] [(39,pB (p2 == 3))] (by kernel_rfl) rfl hq6 (fun hc9 hq6=>?_) fun hc9 hq6=>?_
  ·refine aL [0] (rg 41 18) [(10,pB ((decide ((IntKind.u64.wrap (p1 - x3.2))<x3.2))||((x3.2 == (IntKind.u64.wrap (p1 - x3.2)))&&((dc .u64 x3.1.Lo 1) == 1))))] (by kernel_rfl) ?_
   refine aF ?_
   obtain rfl:=osi hq6
   exact av ((),((decide ((IntKind.u64.wrap (p1 - x3.2))<x3.2))||((x3.2 == (IntKind.u64.wrap (p1 - x3.2)))&&((dc .u64 x3.1.Lo 1) == 1)))) (lL rfl) cE rfl
  refine ah ?_
  refine aF ?_
  obtain rfl:=osi hq6
  exact av ((),false) (lL rfl) cE rfl
 rintro ⟨_,v5⟩ τ hz;(try dsimp only at hz);subst q6;(try dsimp only at h);dsimp only [aw]
 refine cN (aj [(59,pB v5)] (by kernel_rfl) (eZ h fun q12 hq12 h=>?_))
 refine am (Y:=Unit×(Int×Int)) (fun (_,(v10,v11))=>[(8,pP b4 0)]) (fun (_,(v10,v11))=>[PRes.b b4 167 [pU v10,pU v11]]) (fun (_,(v10,v11))=>q12=(v10,v11)) ?_ ?_
 ·skip
  refine i4 rfl hq12 (fun hc13 hq12=>?_) fun hc13 hq12=>?_
  ·refine aa hq12 ?_;clear hq12;intro x14 hx14 hq12
   refine af (aY 6 [0] [61,62,63,60,65] [(64,.agg [pU x14.1.Hi,pU x14.1.Lo])] (bi 2 (mb hx14) bh) (by kernel_rfl) (aO rfl rfl (ap (vs:=[pU x14.1.Hi,pU x14.1.Lo]) rfl rfl rfl rfl rfl co sk (aH ?_))))
   obtain rfl:=osi hq12
   exact av ((),(x14.1.Hi,x14.1.Lo)) (qV rfl) cE rfl
  refine ah ?_
  obtain rfl:=osi hq12
  exact av ((),(x3.1.Hi,x3.1.Lo)) (qV rfl) cE rfl
 rintro ⟨_,⟨v10,v11⟩⟩ τ hz;(try dsimp only at hz);subst q12;(try dsimp only at h);dsimp only [aw]
 refine cN (aL [0] [66,67] [(68,pB (decide (0<v10)))] (by kernel_rfl) (cR rfl h (fun hc15 h=>?_) fun hc15 h=>?_))
 ·refine ae ?_
  refine da [(6,pU 0),(7,pI 3)] (by kernel_rfl) (aq ?_)
  obtain rfl:=osi h
  exact aR (cH (aT rfl) (aT rfl)) bv ⟨rfl,rfl⟩
 refine ah ?_
 refine bX (aL [0] [69,70] [(6,pU v11),(7,pI 0)] (by kernel_rfl) (dj ?_))
 obtain rfl:=osi h
 exact aR (cH (aT rfl) (aT rfl)) bv ⟨rfl,rfl⟩
def jI (p0:Int) (p1:Int):Option Zm:=(aW (S:=Int×Int×Int) (T:=(Int×Int)) (fun (v3,v4,v5)=>cond (decide (0≤v3)) (((gO (⟨v4,v5⟩:Zm) (⟨v4,v5⟩:Zm)).bind fun x14=>(ll v3).bind fun u15=>cond ((dc .u64 (cx .u64 p1 v3) 1) == 1) ((gO x14.1 (⟨0,p0⟩:Zm)).bind fun x17=>some (x17.1.Hi,x17.1.Lo)) (some (x14.1.Hi,x14.1.Lo))).bind fun (v11,v12)=>some (.inl ((IntKind.i64.wrap (v3 - 1)),v11,v12))) (some (.inr (v4,v5)))) FUEL (63,0,0)).bind fun (v6,v7)=>some (⟨v6,v7⟩:Zm)
theorem ou {p0:Int} {p1:Int} {r:Zm}  (h:jI p0 p1=some r):PF 108 [pU p0,pU p1] (.agg [pU r.Hi,pU r.Lo]):=by
 unfold jI at h
 refine bd ?_
 refine dm Tryz.func108 rfl Tryz.ntmps108 Tryz.results108 rfl (cU rfl (aM (cs:=[pU 0,pU 0]) rfl rfl rfl rfl (fun b1=>aH (bX (af (aB 1 [(7,.agg [pU 0,pU 0])] (by kernel_rfl) (al rfl (aM (cs:=[pU 0,pU 0]) rfl rfl rfl rfl (fun b2=>aO rfl rfl (ap (vs:=[pU 0,pU 0]) rfl rfl rfl rfl rfl co sk (aH (cq (aj [(6,pI 63)] (by kernel_rfl) (eZ h fun q9 hq9 h=>?_))))))))))))))
 refine am (Y:=Unit×(Int×Int)) (fun (_,(v6,v7))=>[(4,pP b1 0),(5,pP b2 0)]) (fun (_,(v6,v7))=>[PRes.b b1 167 [pU 0,pU 0],PRes.b b2 167 [pU v6,pU v7]]) (fun (_,(v6,v7))=>q9=(v6,v7)) ?_ ?_
 ·refine az ?_
  refine aC (Y:=Unit) (S:=Int×Int×Int) _ hq9 (fun _ (v3,v4,v5)=>[(0,pU p0),(1,pU p1),(4,pP b1 0),(5,pP b2 0),(6,pI v3)]) (fun _ (v3,v4,v5)=>[PRes.b b1 167 [pU 0,pU 0],PRes.b b2 167 [pU v4,pU v5]]) () (mC rfl) (aZ (ar aJ) cE) ?_
  rintro _ ⟨v3,v4,v5⟩ o τ hb8;(try dsimp only at hb8);dsimp only [aw]
  refine cN (bI [8] [(9,pB (decide (0≤v3)))] (by kernel_rfl) rfl hb8 (fun hc10 hb8=>?_) fun hc10 hb8=>?_)
  ·refine ah ?_
   refine cO hb8 fun q13 hq13 hb8=>?_
   refine am (Y:=Unit×(Int×Int)) (fun (_,(v11,v12))=>[(0,pU p0),(1,pU p1),(4,pP b1 0),(5,pP b2 0),(6,pI v3)]) (fun (_,(v11,v12))=>[PRes.b b1 167 [pU 0,pU 0],PRes.b b2 167 [pU v11,pU v12]]) (fun (_,(v11,v12))=>q13=(v11,v12)) ?_ ?_
   ·skip
    refine pg (aa hq13 fun x14 hx14 hq13=>af (aY 6 [1,1] [13,14,15,12,17] [(16,.agg [pU x14.1.Hi,pU x14.1.Lo])] (bi 2 (mb hx14) bh) (by kernel_rfl) (aO rfl rfl (ap (vs:=[pU x14.1.Hi,pU x14.1.Lo]) rfl rfl rfl rfl rfl (db co) sk (aH (cO hq13 fun u15 hu15 hq13=>an [] [18,19,20,21] [(22,pB ((dc .u64 (cx .u64 p1 v3) 1) == 1))] (tI 2 hu15 bh) (by kernel_rfl) (cR rfl hq13 (fun hc16 hq13=>?_) fun hc16 hq13=>?_)))))))
    ·refine aa hq13 ?_;clear hq13;intro x17 hx17 hq13
     refine af (aY 7 [1] [24,25,26,27,23,29] [(28,.agg [pU x17.1.Hi,pU x17.1.Lo])] (bi 3 (mb hx17) bh) (by kernel_rfl) (aO rfl rfl (ap (vs:=[pU x17.1.Hi,pU x17.1.Lo]) rfl rfl rfl rfl rfl (db co) sk (aH (aF ?_)))))
     obtain rfl:=osi hq13
     exact av ((),(x17.1.Hi,x17.1.Lo)) (mC rfl) mR rfl
    refine ah ?_
    refine aF ?_
    obtain rfl:=osi hq13
    exact av ((),(x14.1.Hi,x14.1.Lo)) (mC rfl) mR rfl
   rintro ⟨_,⟨v11,v12⟩⟩ τ hz;(try dsimp only at hz);subst q13;(try dsimp only at hb8);dsimp only [aw]
   refine ai [10,11] [(6,pI (IntKind.i64.wrap (v3 - 1)))] (by kernel_rfl) ?_
   exact aP hb8 () (mC rfl) mR
  refine aG ?_
  refine cb hb8 (fun ht=>ak rfl ?_)
  exact av ((),(v4,v5)) (lL rfl) mR ht.symm
 rintro ⟨_,⟨v6,v7⟩⟩ τ hz;(try dsimp only at hz);subst q9;(try dsimp only at h);dsimp only [aw]
 refine ae (af (fH 1 [1] [(30,.agg [pU v6,pU v7])] (by kernel_rfl) (aO rfl rfl (ap (vs:=[pU v6,pU v7]) rfl rfl rfl rfl rfl co sk (aH (dj ?_))))))
 obtain rfl:=osi h
 exact aR (dA (dJ rfl fy rfl)) bv ⟨rfl,rfl⟩
def ka (p0:Int) (p1:Int) (p2:Int) (p3:Int):Option (Int×Int):=(jI p0 p1).bind fun x1=>(nR x1 p2 p3).bind fun x2=>some (x2.1,x2.2)
theorem tN {p0:Int} {p1:Int} {p2:Int} {p3:Int} {r:(Int×Int)}  (h:ka p0 p1 p2 p3=some r):PF 60 [pU p0,pU p1,pU p2,pI p3] (.tup [pU r.1,pI r.2]):=by
 unfold ka at h
 refine bd ?_
 refine dm Tryz.func60 rfl Tryz.ntmps60 Tryz.results60 rfl (aS [8,9] (by kernel_rfl) (cO h fun x1 hx1 h=>aa h fun x2 hx2 h=>an [] (rg 10 8) [(8,pU x2.1),(9,pI x2.2)] (bi 2 (ou hx1) (bi 5 (ym hx2) bh)) (by kernel_rfl) (dj ?_)))
 obtain rfl:=osi h
 exact aR (cH (aT rfl) (aT rfl)) bv ⟨rfl,rfl⟩
def hQ (p0:(List Zc)) (p1:(List Zb)) (p2:ByteArray) (p3:Za) (p4:(List Za)):Option (Zn×(List Za)):=(dM p0 p1 p2 p3).bind fun x3=>cond (!x3) (some ((⟨ByteArray.empty,0,false,[],[]⟩:Zn),[])) ((eG p0 p3.Product).bind fun x5=>(fh p1 p3.Agreement).bind fun x7=>(iK p1 p3.Agreement x5.1.Country p2).bind fun x9=>(aW (S:=(List Za)×(List ByteArray)×Int×(List Zl)) (T:=((List Za)×(List ByteArray)×(List Zl))) (fun (l13,l14,v15,l17)=>cond (decide (v15<(x5.1.Inputs.length:Int))) (((idx x5.1.Inputs v15).bind fun m37=>(eG p0 m37.Product).bind fun x39=>(gd (x7.1.Kind == 3) (ir x7.1.Parties x39.1.Country)).bind fun x41=>Option.bind (cond ((x7.1.Kind == 3)&&x41) ((jH l14 x39.1.Processes).bind fun x46=>some x46) (some l14)) (fun l42=>(iu x9 x39.1.ID p4).bind fun x47=>Option.bind (cond x47.2 ((fK l13 x47.1).bind fun x53=>some x53) (some l13)) (fun l49=>cond ((x47.2||(!((x7.1.Kind == 3)&&x41)))||((x39.1.Inputs.length:Int) == 0)) ((app 32 l17 [(⟨x39.1.Code,m37.Value,x47.2⟩:Zl)]).bind fun l57=>some (l49,l42,l57)) ((aW (S:=(List Za)×Int×(List Zl)) (T:=((List Za)×(List Zl))) (fun (l61,v62,l64)=>cond (decide (v62<(x39.1.Inputs.length:Int))) ((idx x39.1.Inputs v62).bind fun m75=>(eG p0 m75.Product).bind fun x76=>(idx x39.1.Inputs v62).bind fun m78=>(ka (IntKind.u64.wrap m37.Value) (IntKind.u64.wrap m78.Value) (IntKind.u64.wrap x39.1.Price) 1).bind fun x79=>Option.bind (cond ((x79.2 == 0)&&(decide (x79.1<1000000000000))) (some (IntKind.i64.wrap x79.1)) (some 1000000000000)) (fun v80=>(iu x9 x76.1.ID p4).bind fun x84=>Option.bind (cond x84.2 ((fK l61 x84.1).bind fun x90=>some x90) (some l61)) (fun l86=>(app 32 l64 [(⟨x76.1.Code,v80,x84.2⟩:Zl)]).bind fun l93=>some (.inl (l86,(IntKind.i64.wrap (v62+1)),l93))))) (some (.inr (l61,l64)))) FUEL (l49,0,l17)).bind fun (l67,l71)=>some (l67,l42,l71))))).bind fun (l30,l31,l35)=>some (.inl (l30,l31,(IntKind.i64.wrap (v15+1)),l35))) (some (.inr (l13,l14,l17)))) FUEL (([]:List Za),x5.1.Processes,0,([]:List Zl))).bind fun (l20,l21,l25)=>(sub l21 0 (ol (l21.length:Int) 8)).bind fun l98=>some ((⟨x5.1.Code,x5.1.Price,x5.1.Obtained,l98,l25⟩:Zn),l20))
theorem tO {p0:(List Zc)} {p1:(List Zb)} {p2:ByteArray} {p3:Za} {p4:(List Za)} {r:(Zn×(List Za))}  (h:hQ p0 p1 p2 p3 p4=some r):PF 18 [pL Zc.enc p0,pL Zb.enc p1,pS p2,.agg [pI p3.Product,pI p3.Agreement],pL Za.enc p4] (.tup [.agg (bz r.1),pL Za.enc r.2]):=by
 unfold hQ at h
 refine bd ?_
 refine dm Tryz.func18 rfl Tryz.ntmps18 Tryz.results18 rfl (cU rfl (bg (cs:=[pI p3.Product,pI p3.Agreement]) rfl rfl (fun b1=>al rfl (aM (cs:=[pS ByteArray.empty,pI 0,pB false,pN,pN]) rfl rfl rfl rfl (fun b2=>ba [11] (by kernel_rfl) (cq (aa h fun x3 hx3 h=>an [1] (rg 35 5) [(40,pB (!x3))] (bi 4 (lO hx3) bh) (by kernel_rfl) (cR rfl h (fun hc4 h=>?_) fun hc4 h=>?_))))))))
 ·refine ae ?_
  refine af (aB 1 [(41,.agg [pS ByteArray.empty,pI 0,pB false,pN,pN])] (by kernel_rfl) (aO rfl rfl (ap (vs:=[pS ByteArray.empty,pI 0,pB false,pN,pN]) rfl rfl rfl rfl rfl co Gc (aI [(11,pN)] (by kernel_rfl) (aN (de (k:=3) (b:=b2) rfl co (de (k:=4) (b:=b2) rfl co (gg 11 rfl (bB (aq ?_))))))))))
  obtain rfl:=osi h
  exact aR (cH (dJ rfl fy rfl) (aT rfl)) bv ⟨rfl,rfl⟩
 refine ah ?_
 refine cO h fun x5 hx5 h=>af (aY 7 [1] [43,44,45,46,42] [(47,.agg (aK x5.1)),(48,pB x5.2)] (bi 3 (jd hx5) bh) (by kernel_rfl) (al rfl (aM (cs:=[pI 0,pS ByteArray.empty,pS ByteArray.empty,pI 0,pB false,pN,pN]) rfl rfl rfl rfl (fun b6=>aO rfl rfl (ap (vs:=(aK x5.1)) rfl rfl rfl rfl rfl co mY (ba [13] (by kernel_rfl) (cO h fun x7 hx7 h=>af (aY 7 [2] [50,51,52,53,49] [(54,.agg (aD x7.1)),(55,pB x7.2)] (bi 3 (jB hx7) bh) (by kernel_rfl) (al rfl (aM (cs:=[pI 0,pI 0,pN,pN]) rfl rfl rfl rfl (fun b8=>aO rfl rfl (ap (vs:=(aD x7.1)) rfl rfl rfl rfl rfl co zx (ba [15] (by kernel_rfl) (cO h fun x9 hx9 h=>an [3,1] (rg 56 7) [(16,pL eI x9)] (bi 6 (rN hx9) bh) (by kernel_rfl) (bX (af (cu 7 [1,1,1] (rg 63 6) [(69,.agg [pS x5.1.Code,pI x5.1.Price,pB x5.1.Obtained,pN,pN])] (by kernel_rfl) (al rfl (bA rfl rfl rfl rfl rfl iX rfl rfl rfl rfl (fun b10=>al rfl (aM (cs:=[pS ByteArray.empty,pI 0,pB false,pN,pN]) rfl rfl rfl rfl (fun b12=>aO rfl rfl (ap (vs:=[pS x5.1.Code,pI x5.1.Price,pB x5.1.Obtained,pN,pN]) rfl rfl rfl rfl rfl co Gc (aI [(18,pO (some ⟨b10,0,none⟩) 0 0)] (by kernel_rfl) (bX (aL [3] [71,72] [(19,pL eS x5.1.Processes)] (by kernel_rfl) (cq (aj [(20,pI 0)] (by kernel_rfl) (aN (cd 103 3 ?_))))))))))))))))))))))))))))))
 refine dB (enc:=Za.enc) (xs:=([]:List Za)) 18 rfl (by exact ar (ar aJ)) ?_
 refine aa h fun q27 hq27 h=>?_
 refine am (Y:=(Option Addr×Nat)×((List Za)×(List ByteArray)×(List Zl))) (fun ((a23,c24),(l20,l21,l25))=>[(10,pP b2 0),(17,pP b12 0),(18,pL Za.enc l20),(19,pL eS l21)]) (fun ((a23,c24),(l20,l21,l25))=>[PRes.b b12 36 [pS x5.1.Code,pI x5.1.Price,pB x5.1.Obtained,pN,pO a23 l25.length c24],PRes.b b2 36 [pS ByteArray.empty,pI 0,pB false,pN,pN],PRes.row a23 l25.length c24 103 3 (List.map Zl.enc l25)]) (fun ((a23,c24),(l20,l21,l25))=>q27=(l20,l21,l25)) ?_ ?_
 ·refine az ?_
  refine aC (Y:=Option Addr×Nat) (S:=(List Za)×(List ByteArray)×Int×(List Zl)) _ hq27 (fun (a18,c19) (l13,l14,v15,l17)=>[(0,pL Zc.enc p0),(4,pL Za.enc p4),(10,pP b2 0),(12,pP b6 0),(14,pP b8 0),(16,pL eI x9),(17,pP b12 0),(18,pL Za.enc l13),(19,pL eS l14),(20,pI v15)]) (fun (a18,c19) (l13,l14,v15,l17)=>[PRes.b b12 36 [pS x5.1.Code,pI x5.1.Price,pB x5.1.Obtained,pN,pO a18 l17.length c19],PRes.b b2 36 [pS ByteArray.empty,pI 0,pB false,pN,pN],PRes.b b6 76 (aK x5.1),PRes.b b8 81 (aD x7.1),PRes.row a18 l17.length c19 103 3 (List.map Zl.enc l17)]) (none,0) (dQ rfl (qI rfl)) (aZ (ar (ar aJ)) (aZ (ar (ar (ar (ar aJ)))) (aZ (ar (ar (ar aJ))) (aZ (ar (ar aJ)) (aZ (ar aJ) bv))))) ?_
  rintro ⟨a18,c19⟩ ⟨l13,l14,v15,l17⟩ o τ hb26;(try dsimp only at hb26);dsimp only [aw]
  refine cN (aL [2] [73,74,75,76] [(77,pB (decide (v15<(x5.1.Inputs.length:Int))))] (by kernel_rfl) (cR rfl hb26 (fun hc29 hb26=>?_) fun hc29 hb26=>?_))
  ·refine ah ?_
   refine cO hb26 fun q36 hq36 hb26=>?_
   refine am (Y:=(Option Addr×Nat)×((List Za)×(List ByteArray)×(List Zl))) (fun ((a33,c34),(l30,l31,l35))=>[(0,pL Zc.enc p0),(4,pL Za.enc p4),(10,pP b2 0),(12,pP b6 0),(14,pP b8 0),(16,pL eI x9),(17,pP b12 0),(18,pL Za.enc l30),(19,pL eS l31),(20,pI v15)]) (fun ((a33,c34),(l30,l31,l35))=>[PRes.b b12 36 [pS x5.1.Code,pI x5.1.Price,pB x5.1.Obtained,pN,pO a33 l35.length c34],PRes.b b2 36 [pS ByteArray.empty,pI 0,pB false,pN,pN],PRes.b b6 76 (aK x5.1),PRes.b b8 81 (aD x7.1),PRes.row a33 l35.length c34 103 3 (List.map Zl.enc l35)]) (fun ((a33,c34),(l30,l31,l35))=>q36=(l30,l31,l35)) ?_ ?_
   ·skip
    refine pg (aa hq36 fun m37 hm37 hq36=>af (aY 5 [2] [80,81,82,83] [(84,.agg [pI m37.Product,pI m37.Value])] (cJ 3 Zg.enc hm37 bh) (by kernel_rfl) (al rfl (aM (cs:=[pI 0,pI 0]) rfl rfl rfl rfl (fun b38=>aO rfl rfl (ap (vs:=[pI m37.Product,pI m37.Value]) rfl rfl rfl rfl rfl co sk (aH (cO hq36 fun x39 hx39 hq36=>af (aY 7 [0] [86,87,88,89,85] [(90,.agg (aK x39.1)),(91,pB x39.2)] (bi 3 (jd hx39) bh) (by kernel_rfl) (al rfl (aM (cs:=[pI 0,pS ByteArray.empty,pS ByteArray.empty,pI 0,pB false,pN,pN]) rfl rfl rfl rfl (fun b40=>aO rfl rfl (ap (vs:=(aK x39.1)) rfl rfl rfl rfl rfl co mY (ba [23] (by kernel_rfl) (cO hq36 fun x41 hx41 hq36=>an [5,5,0] (rg 92 10) [(24,pB ((x7.1.Kind == 3)&&x41))] (dT 8 (fun hc=>iR (cD hx41 hc)) bh) (by kernel_rfl) (cq (aj [(102,pB ((x7.1.Kind == 3)&&x41))] (by kernel_rfl) (eZ hq36 fun q44 hq44 hq36=>?_))))))))))))))))))
    refine am (Y:=Unit×((List ByteArray))) (fun (_,l42)=>[(0,pL Zc.enc p0),(4,pL Za.enc p4),(10,pP b2 0),(12,pP b6 0),(14,pP b8 0),(16,pL eI x9),(17,pP b12 0),(18,pL Za.enc l13),(19,pL eS l42),(20,pI v15),(21,pP b38 0),(22,pP b40 0),(24,pB ((x7.1.Kind == 3)&&x41))]) (fun (_,l42)=>[PRes.b b12 36 [pS x5.1.Code,pI x5.1.Price,pB x5.1.Obtained,pN,pO a18 l17.length c19],PRes.b b2 36 [pS ByteArray.empty,pI 0,pB false,pN,pN],PRes.b b38 78 [pI m37.Product,pI m37.Value],PRes.b b40 76 (aK x39.1),PRes.b b6 76 (aK x5.1),PRes.b b8 81 (aD x7.1),PRes.row a18 l17.length c19 103 3 (List.map Zl.enc l17)]) (fun (_,l42)=>q44=l42) ?_ ?_
    ·skip
     refine i4 rfl hq44 (fun hc45 hq44=>?_) fun hc45 hq44=>?_
     ·refine aa hq44 ?_;clear hq44;intro x46 hx46 hq44
      refine an [0] [103,104,105,106] [(19,pL eS x46)] (bi 3 (vi hx46) bh) (by kernel_rfl) ?_
      obtain rfl:=osi hq44
      exact av ((),x46) (dQ rfl (dQ rfl (dQ rfl (dQ rfl (qI rfl))))) (aZ (ar (ar aJ)) (aZ (ar (ar aJ)) (aZ (ar aJ) Gb))) rfl
     refine ah ?_
     obtain rfl:=osi hq44
     exact av ((),l14) (dQ rfl (dQ rfl (dQ rfl (dQ rfl (qI rfl))))) (aZ (ar (ar aJ)) (aZ (ar (ar aJ)) (aZ (ar aJ) Gb))) rfl
    rintro ⟨_,l42⟩ τ hz;(try dsimp only at hz);subst q44;(try dsimp only at hq36);dsimp only [aw]
    refine ae (aa hq36 fun x47 hx47 hq36=>af (aY 8 [3] ((rg 108 5)++[107]) [(113,.agg [pI x47.1.Product,pI x47.1.Agreement]),(114,pB x47.2)] (bi 4 (nQ hx47) bh) (by kernel_rfl) (al rfl (aM (cs:=[pI 0,pI 0]) rfl rfl rfl rfl (fun b48=>aO rfl rfl (ap (vs:=[pI x47.1.Product,pI x47.1.Agreement]) rfl rfl rfl rfl rfl co sk (aI [(26,pB x47.2)] (by kernel_rfl) (cq (aj [(115,pB x47.2)] (by kernel_rfl) (eZ hq36 fun q51 hq51 hq36=>?_))))))))))
    refine am (Y:=Unit×((List Za))) (fun (_,l49)=>[(0,pL Zc.enc p0),(4,pL Za.enc p4),(10,pP b2 0),(12,pP b6 0),(14,pP b8 0),(16,pL eI x9),(17,pP b12 0),(18,pL Za.enc l49),(19,pL eS l42),(20,pI v15),(21,pP b38 0),(22,pP b40 0),(24,pB ((x7.1.Kind == 3)&&x41)),(26,pB x47.2)]) (fun (_,l49)=>[PRes.b b12 36 [pS x5.1.Code,pI x5.1.Price,pB x5.1.Obtained,pN,pO a18 l17.length c19],PRes.b b2 36 [pS ByteArray.empty,pI 0,pB false,pN,pN],PRes.b b38 78 [pI m37.Product,pI m37.Value],PRes.b b40 76 (aK x39.1),PRes.b b6 76 (aK x5.1),PRes.b b8 81 (aD x7.1),PRes.row a18 l17.length c19 103 3 (List.map Zl.enc l17)]) (fun (_,l49)=>q51=l49) ?_ ?_
    ·skip
     refine i4 rfl hq51 (fun hc52 hq51=>?_) fun hc52 hq51=>?_
     ·refine aa hq51 ?_;clear hq51;intro x53 hx53 hq51
      refine an [0] [116,117,118] [(18,pL Za.enc x53)] (bi 2 (nt hx53) bh) (by kernel_rfl) ?_
      obtain rfl:=osi hq51
      exact av ((),x53) (dQ rfl (dQ rfl (dQ rfl (dQ rfl (dQ rfl (qI rfl)))))) (aZ (ar aJ) (aZ (ar aJ) (aZ (ar aJ) (aZ (ar aJ) (aZ (ar aJ) (aZ (ar aJ) (aZ (ar aJ) bv))))))) rfl
     refine ah ?_
     obtain rfl:=osi hq51
     exact av ((),l13) (dQ rfl (dQ rfl (dQ rfl (dQ rfl (dQ rfl (qI rfl)))))) (aZ (ar aJ) (aZ (ar aJ) (aZ (ar aJ) (aZ (ar aJ) (aZ (ar aJ) (aZ (ar aJ) (aZ (ar aJ) bv))))))) rfl
    rintro ⟨_,l49⟩ τ hz;(try dsimp only at hz);subst q51;(try dsimp only at hq36);dsimp only [aw]
    refine cN (aL [3] (rg 119 10) [(129,pB ((x47.2||(!((x7.1.Kind == 3)&&x41)))||((x39.1.Inputs.length:Int) == 0)))] (by kernel_rfl) (cR rfl hq36 (fun hc54 hq36=>?_) fun hc54 hq36=>?_))
    ·refine ae ?_
     refine af (cu 8 [0,3,2] [130,132,133,134,135,136] [(131,pO a18 l17.length c19),(137,.agg [pS x39.1.Code,pI m37.Value,pB x47.2])] (by kernel_rfl) (al rfl (bA rfl rfl rfl rfl rfl (fU rfl iX) rfl rfl rfl rfl (fun b55=>aa hq36 fun l57 hl57 hq36=>?_))))
     refine al rfl (bV (enc:=Zl.enc) rfl rfl rfl rfl rfl rfl rfl rfl rfl fy (by exact ar (ar (ar (ar (ar (ar (ar aJ))))))) hl57 (fun a58 c59=>?_))
     refine aB 1 [(140,pP b12 4)] (by kernel_rfl) (aO rfl rfl (ap (vs:=[pO a58 l57.length c59]) rfl rfl rfl rfl rfl (db (db co)) (dL (dL (dL (dL nB)))) (aH (aN (aG (gV (ak rfl ?_)))))))
     obtain rfl:=osi hq36
     exact av ((a58,c59),(l49,l42,l57)) (dQ rfl (qI rfl)) (aZ (ar (ar aJ)) (aZ (ar (ar aJ)) (aZ (ar (ar (ar (ar aJ)))) (aZ (ar (ar (ar (ar aJ)))) cE)))) rfl
    refine ah ?_
    refine bX (aj [(27,pI 0)] (by kernel_rfl) (eZ hq36 fun q73 hq73 hq36=>?_))
    refine iB (Y:=(Option Addr×Nat)×((List Za)×(List Zl))) (fun ((a69,c70),(l67,l71))=>[(0,pL Zc.enc p0),(4,pL Za.enc p4),(10,pP b2 0),(12,pP b6 0),(14,pP b8 0),(16,pL eI x9),(17,pP b12 0),(18,pL Za.enc l67),(19,pL eS l42),(20,pI v15)]) (fun ((a69,c70),(l67,l71))=>[PRes.b b12 36 [pS x5.1.Code,pI x5.1.Price,pB x5.1.Obtained,pN,pO a69 l71.length c70],PRes.b b2 36 [pS ByteArray.empty,pI 0,pB false,pN,pN],PRes.b b6 76 (aK x5.1),PRes.b b8 81 (aD x7.1),PRes.row a69 l71.length c70 103 3 (List.map Zl.enc l71)]) (fun ((a69,c70),(l67,l71))=>q73=(l67,l71)) ?_ ?_
    ·refine az ?_
     refine aC (Y:=Option Addr×Nat) (S:=(List Za)×Int×(List Zl)) _ hq73 (fun (a65,c66) (l61,v62,l64)=>[(0,pL Zc.enc p0),(4,pL Za.enc p4),(10,pP b2 0),(12,pP b6 0),(14,pP b8 0),(16,pL eI x9),(17,pP b12 0),(18,pL Za.enc l61),(19,pL eS l42),(20,pI v15),(21,pP b38 0),(22,pP b40 0),(27,pI v62)]) (fun (a65,c66) (l61,v62,l64)=>[PRes.b b12 36 [pS x5.1.Code,pI x5.1.Price,pB x5.1.Obtained,pN,pO a65 l64.length c66],PRes.b b2 36 [pS ByteArray.empty,pI 0,pB false,pN,pN],PRes.b b38 78 [pI m37.Product,pI m37.Value],PRes.b b40 76 (aK x39.1),PRes.b b6 76 (aK x5.1),PRes.b b8 81 (aD x7.1),PRes.row a65 l64.length c66 103 3 (List.map Zl.enc l64)]) (a18,c19) (dQ rfl (dQ rfl (dQ rfl (dQ rfl (qI rfl))))) (aZ aJ zs6) ?_
     rintro ⟨a65,c66⟩ ⟨l61,v62,l64⟩ o τ hb72;(try dsimp only at hb72);dsimp only [aw]
     refine cN (aL [3] [141,142,143,144] [(145,pB (decide (v62<(x39.1.Inputs.length:Int))))] (by kernel_rfl) (cR rfl hb72 (fun hc74 hb72=>?_) fun hc74 hb72=>?_))
     ·refine ah ?_
      refine du (aa hb72 fun m75 hm75 hb72=>aa hb72 fun x76 hx76 hb72=>af (aY 11 [3] ((rg 149 8)++[148]) [(157,.agg (aK x76.1)),(158,pB x76.2)] (cJ 4 Zg.enc hm75 (bi 7 (jd hx76) bh)) (by kernel_rfl) (al rfl (aM (cs:=[pI 0,pS ByteArray.empty,pS ByteArray.empty,pI 0,pB false,pN,pN]) rfl rfl rfl rfl (fun b77=>aO rfl rfl (ap (vs:=(aK x76.1)) rfl rfl rfl rfl rfl co mY (ba [29] (by kernel_rfl) (bX (bo (ρd:=[]) [(0,0),(1,0),(2,0),(3,0),(4,0),(5,0),(6,0),(7,0),(8,0),(9,0),(10,0),(11,0),(12,0),(13,1),(14,0),(15,0),(16,0),(17,0),(18,0)] _ (List.Perm.refl _) (by kernel_rfl) rfl (aa hb72 fun m78 hm78 hb72=>aa hb72 fun x79 hx79 hb72=>bx 19 [3,4,4] ((rg 160 14)++[159,174,175]) [(30,pU x79.1),(31,pI x79.2)] (cJ 6 Zg.enc hm78 (bi 13 (tN hx79) bh)) (by kernel_rfl) (bG (bX (aj [(32,pI 1000000000000)] (by kernel_rfl) (cq (ai (rg 176 5) [(181,pB ((x79.2 == 0)&&(decide (x79.1<1000000000000))))] (by kernel_rfl) (eZ hb72 fun q82 hq82 hb72=>?_))))))))))))))))
      refine am (Y:=Unit×Int) (fun (_,v80)=>[(0,pL Zc.enc p0),(4,pL Za.enc p4),(10,pP b2 0),(12,pP b6 0),(14,pP b8 0),(16,pL eI x9),(17,pP b12 0),(18,pL Za.enc l61),(19,pL eS l42),(20,pI v15),(21,pP b38 0),(22,pP b40 0),(27,pI v62),(28,pP b77 0),(32,pI v80)]) (fun (_,v80)=>[PRes.b b12 36 [pS x5.1.Code,pI x5.1.Price,pB x5.1.Obtained,pN,pO a65 l64.length c66],PRes.b b2 36 [pS ByteArray.empty,pI 0,pB false,pN,pN],PRes.b b38 78 [pI m37.Product,pI m37.Value],PRes.b b40 76 (aK x39.1),PRes.b b6 76 (aK x5.1),PRes.b b77 76 (aK x76.1),PRes.b b8 81 (aD x7.1),PRes.row a65 l64.length c66 103 3 (List.map Zl.enc l64)]) (fun (_,v80)=>q82=v80) ?_ ?_
      ·skip
       refine i4 rfl hq82 (fun hc83 hq82=>?_) fun hc83 hq82=>?_
       ·refine ai [182,183] [(32,pI (IntKind.i64.wrap x79.1))] (by kernel_rfl) ?_
        obtain rfl:=osi hq82
        exact av ((),(IntKind.i64.wrap x79.1)) (dQ rfl (dQ rfl (dQ rfl (dQ rfl (dQ rfl (dQ rfl (qI rfl))))))) (aZ (ar aJ) (aZ (ar aJ) (aZ (ar aJ) (aZ (ar aJ) (aZ (ar aJ) AD))))) rfl
       refine ah ?_
       obtain rfl:=osi hq82
       exact av ((),1000000000000) (dQ rfl (dQ rfl (dQ rfl (dQ rfl (dQ rfl (dQ rfl (qI rfl))))))) (aZ (ar aJ) (aZ (ar aJ) (aZ (ar aJ) (aZ (ar aJ) (aZ (ar aJ) AD))))) rfl
      rintro ⟨_,v80⟩ τ hz;(try dsimp only at hz);subst q82;(try dsimp only at hb72);dsimp only [aw]
      refine ae (aa hb72 fun x84 hx84 hb72=>af (aY 8 [5] ((rg 185 5)++[184]) [(190,.agg [pI x84.1.Product,pI x84.1.Agreement]),(191,pB x84.2)] (bi 4 (nQ hx84) bh) (by kernel_rfl) (al rfl (aM (cs:=[pI 0,pI 0]) rfl rfl rfl rfl (fun b85=>aO rfl rfl (ap (vs:=[pI x84.1.Product,pI x84.1.Agreement]) rfl rfl rfl rfl rfl co sk (aI [(34,pB x84.2)] (by kernel_rfl) (cq (aj [(192,pB x84.2)] (by kernel_rfl) (eZ hb72 fun q88 hq88 hb72=>?_))))))))))
      refine am (Y:=Unit×((List Za))) (fun (_,l86)=>[(0,pL Zc.enc p0),(4,pL Za.enc p4),(10,pP b2 0),(12,pP b6 0),(14,pP b8 0),(16,pL eI x9),(17,pP b12 0),(18,pL Za.enc l86),(19,pL eS l42),(20,pI v15),(21,pP b38 0),(22,pP b40 0),(27,pI v62),(28,pP b77 0),(32,pI v80),(34,pB x84.2)]) (fun (_,l86)=>[PRes.b b12 36 [pS x5.1.Code,pI x5.1.Price,pB x5.1.Obtained,pN,pO a65 l64.length c66],PRes.b b2 36 [pS ByteArray.empty,pI 0,pB false,pN,pN],PRes.b b38 78 [pI m37.Product,pI m37.Value],PRes.b b40 76 (aK x39.1),PRes.b b6 76 (aK x5.1),PRes.b b77 76 (aK x76.1),PRes.b b8 81 (aD x7.1),PRes.row a65 l64.length c66 103 3 (List.map Zl.enc l64)]) (fun (_,l86)=>q88=l86) ?_ ?_
      ·skip
       refine i4 rfl hq88 (fun hc89 hq88=>?_) fun hc89 hq88=>?_
       ·refine aa hq88 ?_;clear hq88;intro x90 hx90 hq88
        refine an [0] [193,194,195] [(18,pL Za.enc x90)] (bi 2 (nt hx90) bh) (by kernel_rfl) ?_
        obtain rfl:=osi hq88
        exact av ((),x90) (dQ rfl (dQ rfl (dQ rfl (dQ rfl (dQ rfl (dQ rfl (dQ rfl (qI rfl)))))))) (aZ (ar aJ) (aZ (ar aJ) (aZ (ar aJ) (aZ (ar aJ) (aZ (ar aJ) (aZ (ar aJ) (aZ (ar aJ) (aZ (ar aJ) bv)))))))) rfl
       refine ah ?_
       obtain rfl:=osi hq88
       exact av ((),l61) (dQ rfl (dQ rfl (dQ rfl (dQ rfl (dQ rfl (dQ rfl (dQ rfl (qI rfl)))))))) (aZ (ar aJ) (aZ (ar aJ) (aZ (ar aJ) (aZ (ar aJ) (aZ (ar aJ) (aZ (ar aJ) (aZ (ar aJ) (aZ (ar aJ) bv)))))))) rfl
      rintro ⟨_,l86⟩ τ hz;(try dsimp only at hz);subst q88;(try dsimp only at hb72);dsimp only [aw]
      refine af (cu 7 [0,5] [196,198,199,200,201] [(197,pO a65 l64.length c66),(202,.agg [pS x76.1.Code,pI v80,pB x84.2])] (by kernel_rfl) (al rfl (bA rfl rfl rfl rfl rfl (fU rfl iX) rfl rfl rfl rfl (fun b91=>aa hb72 fun l93 hl93 hb72=>?_))))
      refine al rfl (bV (enc:=Zl.enc) rfl rfl rfl rfl rfl rfl rfl rfl rfl fy (by exact ar (ar (ar (ar (ar (ar (ar (ar aJ)))))))) hl93 (fun a94 c95=>?_))
      refine aB 1 [(205,pP b12 4)] (by kernel_rfl) (aO rfl rfl (ap (vs:=[pO a94 l93.length c95]) rfl rfl rfl rfl rfl (db (db co)) (dL (dL (dL (dL nB)))) (aH (dt (ai [146,147] [(27,pI (IntKind.i64.wrap (v62+1)))] (by kernel_rfl) ?_)))))
      exact aP hb72 (a94,c95) (dQ rfl (dQ rfl (dQ rfl (dQ rfl (qI rfl))))) (aZ (ar (ar aJ)) (aZ (ar (ar aJ)) (aZ (ar (ar aJ)) (aZ (ar (ar aJ)) (aZ (ar (ar aJ)) (aZ (ar (ar (ar aJ))) cE))))))
     refine aG ?_
     refine cb hb72 (fun ht=>ak rfl ?_)
     exact gE ((a65,c66),(l61,l64)) (dQ rfl (qI rfl)) (aZ aJ (aZ aJ (aZ (ar (ar aJ)) (aZ (ar (ar aJ)) (aZ (ar (ar aJ)) bv))))) ht.symm
    rintro ⟨⟨a69,c70⟩,⟨l67,l71⟩⟩ τ ρ1 hsub97 hz;(try dsimp only at hz hsub97);subst q73;(try dsimp only at hq36);dsimp only [aw]
    refine aF ?_
    obtain rfl:=osi hq36
    exact av ((a69,c70),(l67,l42,l71)) (dQ rfl (qI rfl)) (PSub.trans zs5 hsub97) rfl
   rintro ⟨⟨a33,c34⟩,⟨l30,l31,l35⟩⟩ τ hz;(try dsimp only at hz);subst q36;(try dsimp only at hb26);dsimp only [aw]
   refine ai [78,79] [(20,pI (IntKind.i64.wrap (v15+1)))] (by kernel_rfl) ?_
   exact aP hb26 (a33,c34) (dQ rfl (qI rfl)) zs5
  refine aG ?_
  refine cb hb26 (fun ht=>ak rfl ?_)
  exact av ((a18,c19),(l13,l14,l17)) (hY rfl) (aZ aJ (aZ aJ (aZ (ar (ar aJ)) bv))) ht.symm
 rintro ⟨⟨a23,c24⟩,⟨l20,l21,l25⟩⟩ τ hz;(try dsimp only at hz);subst q27;(try dsimp only at h);dsimp only [aw]
 refine ae (aa h fun l98 hl98 h=>af (aY 6 [] [206,207,208,209] [(210,pL eS l98),(211,pP b12 3)] (yd 4 eS 1 (fun _=>rfl) hl98 bh) (by kernel_rfl) (aO rfl rfl (ap (vs:=[pL eS l98]) rfl rfl rfl rfl rfl co (dL (dL (dL nB))) (aH (bX (af ?_)))))))
 refine kW (css:=List.map Zl.enc l25) (a:=a23) (by exact ar (ar aJ)) ?_
 refine iQ (k:=4) (enc:=Zl.enc) (xs:=l25) (b:=b12) (a:=a23) rfl fy (db co) (fH 2 [1] [(212,.agg [pS x5.1.Code,pI x5.1.Price,pB x5.1.Obtained,pL eS l98,pL Zl.enc l25]),(213,pL Za.enc l20)] (by kernel_rfl) (aO rfl rfl (ap (vs:=[pS x5.1.Code,pI x5.1.Price,pB x5.1.Obtained,pL eS l98,pL Zl.enc l25]) rfl rfl rfl rfl rfl (db (db co)) Gc (aI [(11,pL Za.enc l20)] (by kernel_rfl) (dj ?_)))))
 obtain rfl:=osi h
 exact aR (cH (dJ rfl wb rfl) (aT rfl)) bv ⟨rfl,rfl⟩
def gP (p0:(List Za)) (p1:(List Za)):Option Bool:=cond ((p0.length:Int) != (p1.length:Int)) (some false) ((aW (S:=Int) (T:=(Unit)⊕(_)) (fun v2=>cond (decide (v2<(p0.length:Int))) ((idx p0 v2).bind fun m6=>(idx p1 v2).bind fun m7=>cond (!(Za.eqb m6 m7)) (some (.inr (.inr false))) (some (.inl (IntKind.i64.wrap (v2+1))))) (some (.inr (.inl ())))) FUEL 0).bind fun q=>match q with | .inl _=>some true | .inr e=>some e)
theorem qC {p0:(List Za)} {p1:(List Za)} {r:Bool}  (h:gP p0 p1=some r):PF 20 [pL Za.enc p0,pL Za.enc p1] (pB r):=by
 unfold gP at h
 refine bd ?_
 refine dm Tryz.func20 rfl Tryz.ntmps20 Tryz.results20 rfl (aS [4] (by kernel_rfl) (cq (bI [6,7,8,9] [(10,pB ((p0.length:Int) != (p1.length:Int)))] (by kernel_rfl) rfl h (fun hc1 h=>?_) fun hc1 h=>?_)))
 ·refine ae ?_
  refine da [(4,pB false)] (by kernel_rfl) (aq ?_)
  exact zz r h rfl
 refine ah ?_
 refine cq (aj [(5,pI 0)] (by kernel_rfl) (eZ h fun q4 hq4 h=>?_))
 refine am (Y:=Unit×Unit) (fun (_,_)=>[]) (fun (_,_)=>[]) (fun (_,_)=>q4=Sum.inl ()) ?_ ?_
 ·refine az ?_
  refine aC (Y:=Unit) (S:=Int) _ hq4 (fun _ v2=>[(0,pL Za.enc p0),(1,pL Za.enc p1),(5,pI v2)]) (fun _ v2=>[]) () (mq rfl) bv ?_
  rintro _ v2 o τ hb3;(try dsimp only at hb3);dsimp only [aw]
  refine cN (bI [11,12,13] [(14,pB (decide (v2<(p0.length:Int))))] (by kernel_rfl) rfl hb3 (fun hc5 hb3=>?_) fun hc5 hb3=>?_)
  ·refine ah ?_
   refine du (bo (ρd:=[]) [(0,0),(1,0),(2,0),(3,0),(4,0),(5,0),(6,0),(7,0),(8,0)] _ (List.Perm.refl _) (by kernel_rfl) rfl (aa hb3 fun m6 hm6 hb3=>aa hb3 fun m7 hm7 hb3=>bx 9 [] (rg 17 8) [(25,pB (!(Za.eqb m6 m7)))] (cJ 2 Za.enc hm6 (cJ 6 Za.enc hm7 (A1 8 Za.eqok28 bh))) (by kernel_rfl) (bG (cR rfl hb3 (fun hc8 hb3=>?_) fun hc8 hb3=>?_))))
   ·refine ae ?_
    refine da [(4,pB false)] (by kernel_rfl) (dR ?_)
    refine aA hb3 (fun ht=>?_);subst ht
    refine cS ?_
    exact zz r h rfl
   refine ah ?_
   refine dt (ai [15,16] [(5,pI (IntKind.i64.wrap (v2+1)))] (by kernel_rfl) ?_)
   exact aP hb3 () (mq rfl) bv
  refine aG ?_
  refine cb hb3 (fun ht=>ak rfl ?_)
  exact av ((),()) nG bv ht.symm
 rintro ⟨_,_⟩ τ hz;(try dsimp only at hz);subst q4;(try dsimp only at h);dsimp only [aw]
 refine ae (da [(4,pB true)] (by kernel_rfl) ?_)
 exact zz r h rfl
def eX (p0:Int):Option Bool:=some ((decide (65≤p0))&&(decide (p0≤90)))
theorem jJ {p0:Int} {r:Bool}  (h:eX p0=some r):PF 120 [pY p0] (pB r):=by
 unfold eX at h
 refine bd ?_
 refine dm Tryz.func120 rfl Tryz.ntmps120 Tryz.results120 rfl (aS [2] (by kernel_rfl) (bX (ai (rg 3 6) [(2,pB ((decide (65≤p0))&&(decide (p0≤90))))] (by kernel_rfl) (dj ?_))))
 exact zz r h rfl
def ce (p0:ByteArray):Option Bool:=(gd ((p0.size:Int) == 2) (idx p0.data.toList 0)).bind fun c1=>(gd ((p0.size:Int) == 2) (eX (c1.toNat:Int))).bind fun x2=>(gd (((p0.size:Int) == 2)&&x2) (idx p0.data.toList 1)).bind fun c3=>(gd (((p0.size:Int) == 2)&&x2) (eX (c3.toNat:Int))).bind fun x4=>some ((((p0.size:Int) == 2)&&x2)&&x4)
theorem fL {p0:ByteArray} {r:Bool}  (h:ce p0=some r):PF 72 [pS p0] (pB r):=by
 unfold ce at h
 refine bd ?_
 refine dm Tryz.func72 rfl Tryz.ntmps72 Tryz.results72 rfl (aS [2] (by kernel_rfl) (cO h fun c1 hc1 h=>aa h fun x2 hx2 h=>aa h fun c3 hc3 h=>aa h fun x4 hx4 h=>an [] (rg 3 13) [(2,pB ((((p0.size:Int) == 2)&&x2)&&x4))] (te 5 (cD hc1) (dT 6 (fun hc=>jJ (cD hx2 hc)) (te 10 (cD hc3) (dT 11 (fun hc=>jJ (cD hx4 hc)) bh)))) (by kernel_rfl) (dj ?_)))
 exact zz r h rfl
def dN (p0:(List ByteArray)):Option Bool:=(aW (S:=Int) (T:=(Unit)⊕(_)) (fun v1=>cond (decide (v1<(p0.length:Int))) ((idx p0 v1).bind fun m5=>(ce m5).bind fun x6=>(gd ((!(!x6))&&(decide (0<v1))) (idx p0 (IntKind.i64.wrap (v1 - 1)))).bind fun m7=>cond ((!x6)||((decide (0<v1))&&(Op.bytesLess m5.toList m7.toList||decide (m5=m7)))) (some (.inr (.inr false))) (some (.inl (IntKind.i64.wrap (v1+1))))) (some (.inr (.inl ())))) FUEL 0).bind fun q=>match q with | .inl _=>some true | .inr e=>some e
theorem mM {p0:(List ByteArray)} {r:Bool}  (h:dN p0=some r):PF 111 [pL eS p0] (pB r):=by
 unfold dN at h
 refine bd ?_
 refine dm Tryz.func111 rfl Tryz.ntmps111 Tryz.results111 rfl (aS [2] (by kernel_rfl) (cq (aj [(5,pL eS p0),(6,pI (p0.length:Int)),(7,pI 0)] (by kernel_rfl) (eZ h fun q3 hq3 h=>?_))))
 refine am (Y:=Unit×Unit) (fun (_,_)=>[]) (fun (_,_)=>[]) (fun (_,_)=>q3=Sum.inl ()) ?_ ?_
 ·refine az ?_
  refine aC (Y:=Unit) (S:=Int) _ hq3 (fun _ v1=>[(0,pL eS p0),(5,pL eS p0),(6,pI (p0.length:Int)),(7,pI v1)]) (fun _ v1=>[]) () (hY rfl) bv ?_
  rintro _ v1 o τ hb2;(try dsimp only at hb2);dsimp only [aw]
  refine ae (aj [(8,pB (decide (v1<(p0.length:Int))))] (by kernel_rfl) (bX (i4 rfl hb2 (fun hc4 hb2=>?_) fun hc4 hb2=>?_)))
  ·refine ah ?_
   refine du (aa hb2 fun m5 hm5 hb2=>an [] [9,10,11] [(3,pI v1),(4,pS m5)] (cJ 1 eS hm5 bh) (by kernel_rfl) (cO hb2 fun x6 hx6 hb2=>aa hb2 fun m7 hm7 hb2=>an [] (rg 12 15) [(27,pB ((!x6)||((decide (0<v1))&&(Op.bytesLess m5.toList m7.toList||decide (m5=m7)))))] (bi 1 (fL hx6) (eM 11 eS (cD hm7) bh)) (by kernel_rfl) (cR rfl hb2 (fun hc8 hb2=>?_) fun hc8 hb2=>?_)))
   ·refine ae ?_
    refine da [(2,pB false)] (by kernel_rfl) (dR ?_)
    refine aA hb2 (fun ht=>?_);subst ht
    refine cS ?_
    exact zz r h rfl
   refine ah ?_
   refine dt (ai [28] [(7,pI (IntKind.i64.wrap (v1+1)))] (by kernel_rfl) ?_)
   exact aP hb2 () (hY rfl) bv
  refine aG ?_
  refine cb hb2 (fun ht=>ak rfl ?_)
  exact av ((),()) nG bv ht.symm
 rintro ⟨_,_⟩ τ hz;(try dsimp only at hz);subst q3;(try dsimp only at h);dsimp only [aw]
 refine ae (da [(2,pB true)] (by kernel_rfl) ?_)
 exact zz r h rfl
def dU (p0:ByteArray):Option Bool:=(gd ((p0.size:Int) == 2) (idx p0.data.toList 0)).bind fun c1=>(gd (((p0.size:Int) == 2)&&(decide (65≤(c1.toNat:Int)))) (idx p0.data.toList 0)).bind fun c2=>(gd ((((p0.size:Int) == 2)&&(decide (65≤(c1.toNat:Int))))&&(decide ((c2.toNat:Int)≤90))) (idx p0.data.toList 1)).bind fun c3=>(gd (((((p0.size:Int) == 2)&&(decide (65≤(c1.toNat:Int))))&&(decide ((c2.toNat:Int)≤90)))&&(decide (65≤(c3.toNat:Int)))) (idx p0.data.toList 1)).bind fun c4=>some ((((((p0.size:Int) == 2)&&(decide (65≤(c1.toNat:Int))))&&(decide ((c2.toNat:Int)≤90)))&&(decide (65≤(c3.toNat:Int))))&&(decide ((c4.toNat:Int)≤90)))
theorem kI {p0:ByteArray} {r:Bool}  (h:dU p0=some r):PF 67 [pS p0] (pB r):=by
 unfold dU at h
 refine bd ?_
 refine dm Tryz.func67 rfl Tryz.ntmps67 Tryz.results67 rfl (aS [2] (by kernel_rfl) (cO h fun c1 hc1 h=>aa h fun c2 hc2 h=>aa h fun c3 hc3 h=>aa h fun c4 hc4 h=>an [] (rg 3 23) [(2,pB ((((((p0.size:Int) == 2)&&(decide (65≤(c1.toNat:Int))))&&(decide ((c2.toNat:Int)≤90)))&&(decide (65≤(c3.toNat:Int))))&&(decide ((c4.toNat:Int)≤90))))] (te 5 (cD hc1) (te 10 (cD hc2) (te 15 (cD hc3) (te 20 (cD hc4) bh)))) (by kernel_rfl) (dj ?_)))
 exact zz r h rfl
def fz (p0:ByteArray):Option Int:=(aW (S:=Int) (T:=(Unit)⊕(_)) (fun v1=>cond (decide (v1<(p0.size:Int))) ((idx p0.data.toList v1).bind fun c5=>(gd (!(decide ((c5.toNat:Int)<48))) (idx p0.data.toList v1)).bind fun c6=>cond ((decide ((c5.toNat:Int)<48))||(decide (57<(c6.toNat:Int)))) (some (.inr (.inr (0:Int)))) (some (.inl (IntKind.i64.wrap (v1+1))))) (some (.inr (.inl ())))) FUEL 0).bind fun q=>match q with | .inl _=>cond ((decide (8<(p0.size:Int)))||((Int.tmod (p0.size:Int) 2) == 1)) (some (0:Int)) (some (p0.size:Int)) | .inr e=>some e
theorem mN {p0:ByteArray} {r:Int}  (h:fz p0=some r):PF 113 [pS p0] (pI r):=by
 unfold fz at h
 refine bd ?_
 refine dm Tryz.func113 rfl Tryz.ntmps113 Tryz.results113 rfl (aS [2] (by kernel_rfl) (cq (aj [(3,pI 0)] (by kernel_rfl) (eZ h fun q3 hq3 h=>?_))))
 refine am (Y:=Unit×Unit) (fun (_,_)=>[(0,pS p0)]) (fun (_,_)=>[]) (fun (_,_)=>q3=Sum.inl ()) ?_ ?_
 ·refine az ?_
  refine aC (Y:=Unit) (S:=Int) _ hq3 (fun _ v1=>[(0,pS p0),(3,pI v1)]) (fun _ v1=>[]) () (lL rfl) bv ?_
  rintro _ v1 o τ hb2;(try dsimp only at hb2);dsimp only [aw]
  refine cN (bI [4,5,6] [(7,pB (decide (v1<(p0.size:Int))))] (by kernel_rfl) rfl hb2 (fun hc4 hb2=>?_) fun hc4 hb2=>?_)
  ·refine ah ?_
   refine du (aa hb2 fun c5 hc5 hb2=>aa hb2 fun c6 hc6 hb2=>an [] (rg 10 9) [(19,pB ((decide ((c5.toNat:Int)<48))||(decide (57<(c6.toNat:Int)))))] (fosx 2 hc5 (te 7 (cD hc6) bh)) (by kernel_rfl) (cR rfl hb2 (fun hc7 hb2=>?_) fun hc7 hb2=>?_))
   ·refine ae ?_
    refine da [(2,pI 0)] (by kernel_rfl) (dR ?_)
    refine aA hb2 (fun ht=>?_);subst ht
    refine cS ?_
    exact zz r h rfl
   refine ah ?_
   refine dt (ai [8,9] [(3,pI (IntKind.i64.wrap (v1+1)))] (by kernel_rfl) ?_)
   exact aP hb2 () (lL rfl) bv
  refine aG ?_
  refine cb hb2 (fun ht=>ak rfl ?_)
  exact av ((),()) (qV rfl) bv ht.symm
 rintro ⟨_,_⟩ τ hz;(try dsimp only at hz);subst q3;(try dsimp only at h);dsimp only [aw]
 refine cN (bI (rg 20 8) [(28,pB ((decide (8<(p0.size:Int)))||((Int.tmod (p0.size:Int) 2) == 1)))] (by kernel_rfl) rfl h (fun hc8 h=>?_) fun hc8 h=>?_)
 ·refine ae ?_
  refine da [(2,pI 0)] (by kernel_rfl) (aq ?_)
  exact zz r h rfl
 refine ah ?_
 refine bX (ai [29,30] [(2,pI (p0.size:Int))] (by kernel_rfl) (dj ?_))
 exact zz r h rfl
def kJ (p0:ByteArray):Option Bool:=(aW (S:=Int) (T:=(Unit)⊕(_)) (fun v1=>cond (decide (v1<(p0.size:Int))) ((idx p0.data.toList v1).bind fun c5=>(gd (!(decide ((c5.toNat:Int)<97))) (idx p0.data.toList v1)).bind fun c6=>cond ((decide ((c5.toNat:Int)<97))||(decide (122<(c6.toNat:Int)))) (some (.inr (.inr false))) (some (.inl (IntKind.i64.wrap (v1+1))))) (some (.inr (.inl ())))) FUEL 0).bind fun q=>match q with | .inl _=>some ((decide (1≤(p0.size:Int)))&&(decide ((p0.size:Int)≤12))) | .inr e=>some e
theorem qK {p0:ByteArray} {r:Bool}  (h:kJ p0=some r):PF 157 [pS p0] (pB r):=by
 unfold kJ at h
 refine bd ?_
 refine dm Tryz.func157 rfl Tryz.ntmps157 Tryz.results157 rfl (aS [2] (by kernel_rfl) (cq (aj [(3,pI 0)] (by kernel_rfl) (eZ h fun q3 hq3 h=>?_))))
 refine am (Y:=Unit×Unit) (fun (_,_)=>[(0,pS p0)]) (fun (_,_)=>[]) (fun (_,_)=>q3=Sum.inl ()) ?_ ?_
 ·refine az ?_
  refine aC (Y:=Unit) (S:=Int) _ hq3 (fun _ v1=>[(0,pS p0),(3,pI v1)]) (fun _ v1=>[]) () (lL rfl) bv ?_
  rintro _ v1 o τ hb2;(try dsimp only at hb2);dsimp only [aw]
  refine cN (bI [4,5,6] [(7,pB (decide (v1<(p0.size:Int))))] (by kernel_rfl) rfl hb2 (fun hc4 hb2=>?_) fun hc4 hb2=>?_)
  ·refine ah ?_
   refine du (aa hb2 fun c5 hc5 hb2=>aa hb2 fun c6 hc6 hb2=>an [] (rg 10 9) [(19,pB ((decide ((c5.toNat:Int)<97))||(decide (122<(c6.toNat:Int)))))] (fosx 2 hc5 (te 7 (cD hc6) bh)) (by kernel_rfl) (cR rfl hb2 (fun hc7 hb2=>?_) fun hc7 hb2=>?_))
   ·refine ae ?_
    refine da [(2,pB false)] (by kernel_rfl) (dR ?_)
    refine aA hb2 (fun ht=>?_);subst ht
    refine cS ?_
    exact zz r h rfl
   refine ah ?_
   refine dt (ai [8,9] [(3,pI (IntKind.i64.wrap (v1+1)))] (by kernel_rfl) ?_)
   exact aP hb2 () (lL rfl) bv
  refine aG ?_
  refine cb hb2 (fun ht=>ak rfl ?_)
  exact av ((),()) (qV rfl) bv ht.symm
 rintro ⟨_,_⟩ τ hz;(try dsimp only at hz);subst q3;(try dsimp only at h);dsimp only [aw]
 refine ae (ai (rg 20 8) [(2,pB ((decide (1≤(p0.size:Int)))&&(decide ((p0.size:Int)≤12))))] (by kernel_rfl) (dj ?_))
 exact zz r h rfl
def jK (p0:(List ByteArray)):Option Bool:=(aW (S:=Int) (T:=(Unit)⊕(_)) (fun v1=>cond (decide (v1<(p0.length:Int))) ((idx p0 v1).bind fun m5=>(kJ m5).bind fun x6=>(gd ((!(!x6))&&(decide (0<v1))) (idx p0 (IntKind.i64.wrap (v1 - 1)))).bind fun m7=>(gd ((!(!x6))&&(decide (0<v1))) (idx p0 v1)).bind fun m8=>cond ((!x6)||((decide (0<v1))&&(!Op.bytesLess m7.toList m8.toList))) (some (.inr (.inr false))) (some (.inl (IntKind.i64.wrap (v1+1))))) (some (.inr (.inl ())))) FUEL 0).bind fun q=>match q with | .inl _=>some (decide ((p0.length:Int)≤8)) | .inr e=>some e
theorem vj {p0:(List ByteArray)} {r:Bool}  (h:jK p0=some r):PF 114 [pL eS p0] (pB r):=by
 unfold jK at h
 refine bd ?_
 refine dm Tryz.func114 rfl Tryz.ntmps114 Tryz.results114 rfl (aS [2] (by kernel_rfl) (cq (aj [(3,pI 0)] (by kernel_rfl) (eZ h fun q3 hq3 h=>?_))))
 refine am (Y:=Unit×Unit) (fun (_,_)=>[(0,pL eS p0)]) (fun (_,_)=>[]) (fun (_,_)=>q3=Sum.inl ()) ?_ ?_
 ·refine az ?_
  refine aC (Y:=Unit) (S:=Int) _ hq3 (fun _ v1=>[(0,pL eS p0),(3,pI v1)]) (fun _ v1=>[]) () (lL rfl) bv ?_
  rintro _ v1 o τ hb2;(try dsimp only at hb2);dsimp only [aw]
  refine cN (bI [4,5,6] [(7,pB (decide (v1<(p0.length:Int))))] (by kernel_rfl) rfl hb2 (fun hc4 hb2=>?_) fun hc4 hb2=>?_)
  ·refine ah ?_
   refine du (bo (ρd:=[]) [(0,0),(1,0),(2,0),(3,0),(4,1),(5,0),(6,0),(7,0),(8,0),(9,0),(10,0),(11,0),(12,0),(13,0),(14,0),(15,0),(16,0),(17,0),(18,0),(19,0),(20,0),(21,0)] _ (List.Perm.refl _) (by kernel_rfl) rfl (aa hb2 fun m5 hm5 hb2=>aa hb2 fun x6 hx6 hb2=>aa hb2 fun m7 hm7 hb2=>aa hb2 fun m8 hm8 hb2=>bx 22 [] (rg 10 21) [(31,pB ((!x6)||((decide (0<v1))&&(!Op.bytesLess m7.toList m8.toList))))] (cJ 2 eS hm5 (bi 4 (qK hx6) (eM 13 eS (cD hm7) (eM 17 eS (cD hm8) bh)))) (by kernel_rfl) (bG (cR rfl hb2 (fun hc9 hb2=>?_) fun hc9 hb2=>?_))))
   ·refine ae ?_
    refine da [(2,pB false)] (by kernel_rfl) (dR ?_)
    refine aA hb2 (fun ht=>?_);subst ht
    refine cS ?_
    exact zz r h rfl
   refine ah ?_
   refine dt (ai [8,9] [(3,pI (IntKind.i64.wrap (v1+1)))] (by kernel_rfl) ?_)
   exact aP hb2 () (lL rfl) bv
  refine aG ?_
  refine cb hb2 (fun ht=>ak rfl ?_)
  exact av ((),()) (qV rfl) bv ht.symm
 rintro ⟨_,_⟩ τ hz;(try dsimp only at hz);subst q3;(try dsimp only at h);dsimp only [aw]
 refine ae (ai [32,33,34] [(2,pB (decide ((p0.length:Int)≤8)))] (by kernel_rfl) (dj ?_))
 exact zz r h rfl
def kK (p0:(List Zc)):Option Int:=cond (decide (64<(p0.length:Int))) (some (8:Int)) ((aW (S:=Int) (T:=(Unit)⊕(_)) (fun v2=>cond (decide (v2<(p0.length:Int))) ((idx p0 v2).bind fun m6=>cond ((decide (m6.ID<1))||(decide (1000000<m6.ID))) (some (.inr (.inr (2:Int)))) ((gd (decide (0<v2)) (idx p0 (IntKind.i64.wrap (v2 - 1)))).bind fun m9=>cond ((decide (0<v2))&&(decide (m6.ID≤m9.ID))) (some (.inr (.inr (9:Int)))) ((fz m6.Code).bind fun x11=>(gd (!(decide (x11<6))) (dU m6.Country)).bind fun x12=>(gd (!((decide (x11<6))||(!x12))) (jK m6.Processes)).bind fun x13=>cond (((decide (x11<6))||(!x12))||(!x13)) (some (.inr (.inr (1:Int)))) (cond ((decide (m6.Price<1))||(decide (1000000000000<m6.Price))) (some (.inr (.inr (2:Int)))) (cond (decide (8<(m6.Inputs.length:Int))) (some (.inr (.inr (8:Int)))) (cond (m6.Obtained&&(decide (0<(m6.Inputs.length:Int)))) (some (.inr (.inr (1:Int)))) ((aW (S:=Int) (T:=(Unit)⊕(_)) (fun v18=>cond (decide (v18<(m6.Inputs.length:Int))) ((gd (decide (0<v18)) (idx m6.Inputs v18)).bind fun m22=>(gd (decide (0<v18)) (idx m6.Inputs (IntKind.i64.wrap (v18 - 1)))).bind fun m23=>cond ((decide (0<v18))&&(decide (m22.Product≤m23.Product))) (some (.inr (.inr (.inr (.inr (9:Int)))))) ((idx m6.Inputs v18).bind fun m25=>(eG p0 m25.Product).bind fun x26=>cond (!x26.2) (some (.inr (.inr (.inr (.inr (6:Int)))))) ((idx m6.Inputs v18).bind fun m29=>(gd (!(decide (m29.Value<0))) (idx m6.Inputs v18)).bind fun m30=>cond ((decide (m29.Value<0))||(decide (1000000000000<m30.Value))) (some (.inr (.inr (.inr (.inr (2:Int)))))) (some (.inl (IntKind.i64.wrap (v18+1))))))) (some (.inr (.inl ())))) FUEL 0).bind fun q=>match q with | .inl _=>some (.inl (IntKind.i64.wrap (v2+1))) | .inr e=>some e))))))) (some (.inr (.inl ())))) FUEL 0).bind fun q=>match q with | .inl _=>some (0:Int) | .inr e=>some e)
theorem wn {p0:(List Zc)} {r:Int}  (h:kK p0=some r):PF 65 [pL Zc.enc p0] (pI r):=by
 unfold kK at h
 refine bd ?_
 refine dm Tryz.func65 rfl Tryz.ntmps65 Tryz.results65 rfl (aS [2] (by kernel_rfl) (cq (bI [8,9] [(10,pB (decide (64<(p0.length:Int))))] (by kernel_rfl) rfl h (fun hc1 h=>?_) fun hc1 h=>?_)))
 ·refine ae ?_
  refine da [(2,pI 8)] (by kernel_rfl) (aq ?_)
  exact zz r h rfl
 refine ah ?_
 refine cq (aj [(3,pI 0)] (by kernel_rfl) (eZ h fun q4 hq4 h=>?_))
 refine am (Y:=Unit×Unit) (fun (_,_)=>[]) (fun (_,_)=>[]) (fun (_,_)=>q4=Sum.inl ()) ?_ ?_
 ·refine az ?_
  refine aC (Y:=Unit) (S:=Int) _ hq4 (fun _ v2=>[(0,pL Zc.enc p0),(3,pI v2)]) (fun _ v2=>[]) () (lL rfl) bv ?_
  rintro _ v2 o τ hb3;(try dsimp only at hb3);dsimp only [aw]
  refine cN (bI [11,12,13] [(14,pB (decide (v2<(p0.length:Int))))] (by kernel_rfl) rfl hb3 (fun hc5 hb3=>?_) fun hc5 hb3=>?_)
  ·refine ah ?_
   refine du (aa hb3 fun m6 hm6 hb3=>af (aY 4 [] [17,18,19] [(20,.agg (aK m6))] (cJ 2 Zc.enc hm6 bh) (by kernel_rfl) (al rfl (aM (cs:=[pI 0,pS ByteArray.empty,pS ByteArray.empty,pI 0,pB false,pN,pN]) rfl rfl rfl rfl (fun b7=>aO rfl rfl (ap (vs:=(aK m6)) rfl rfl rfl rfl rfl co mY (aH (du (aL [0,0] (rg 22 8) [(21,pB ((decide (m6.ID<1))||(decide (1000000<m6.ID))))] (by kernel_rfl) (cR rfl hb3 (fun hc8 hb3=>?_) fun hc8 hb3=>?_))))))))))
   ·refine ae ?_
    refine da [(2,pI 2)] (by kernel_rfl) (dR (dR ?_))
    refine aA hb3 (fun ht=>?_);subst ht
    refine cS ?_
    exact zz r h rfl
   refine ae ?_
   refine bo (ρd:=[]) [(0,0),(1,0),(2,0),(3,0),(4,0),(5,0),(6,0),(7,0),(8,0),(9,0),(10,0),(11,0),(12,0),(13,0)] _ (List.Perm.refl _) (by kernel_rfl) rfl (aa hb3 fun m9 hm9 hb3=>bx 14 [0] (rg 31 13) [(30,pB ((decide (0<v2))&&(decide (m6.ID≤m9.ID))))] (eM 8 Zc.enc (cD hm9) bh) (by kernel_rfl) (bG (cR rfl hb3 (fun hc10 hb3=>?_) fun hc10 hb3=>?_)))
   ·refine ae ?_
    refine da [(2,pI 9)] (by kernel_rfl) (dR (dR ?_))
    refine aA hb3 (fun ht=>?_);subst ht
    refine cS ?_
    exact zz r h rfl
   refine ae ?_
   refine aa hb3 fun x11 hx11 hb3=>aa hb3 fun x12 hx12 hb3=>aa hb3 fun x13 hx13 hb3=>an [0,0,0] (rg 45 16) [(44,pB (((decide (x11<6))||(!x12))||(!x13)))] (bi 2 (mN hx11) (dT 7 (fun hc=>kI (cD hx12 hc)) (dT 13 (fun hc=>vj (cD hx13 hc)) bh))) (by kernel_rfl) (cR rfl hb3 (fun hc14 hb3=>?_) fun hc14 hb3=>?_)
   ·refine ae ?_
    refine da [(2,pI 1)] (by kernel_rfl) (dR (dR ?_))
    refine aA hb3 (fun ht=>?_);subst ht
    refine cS ?_
    exact zz r h rfl
   refine ae ?_
   refine aL [0,0] (rg 62 8) [(61,pB ((decide (m6.Price<1))||(decide (1000000000000<m6.Price))))] (by kernel_rfl) (cR rfl hb3 (fun hc15 hb3=>?_) fun hc15 hb3=>?_)
   ·refine ae ?_
    refine da [(2,pI 2)] (by kernel_rfl) (dR (dR ?_))
    refine aA hb3 (fun ht=>?_);subst ht
    refine cS ?_
    exact zz r h rfl
   refine ae ?_
   refine aL [0] [71,72,73,74] [(70,pB (decide (8<(m6.Inputs.length:Int))))] (by kernel_rfl) (cR rfl hb3 (fun hc16 hb3=>?_) fun hc16 hb3=>?_)
   ·refine ae ?_
    refine da [(2,pI 8)] (by kernel_rfl) (dR (dR ?_))
    refine aA hb3 (fun ht=>?_);subst ht
    refine cS ?_
    exact zz r h rfl
   refine ae ?_
   refine aL [0,0] (rg 76 8) [(75,pB (m6.Obtained&&(decide (0<(m6.Inputs.length:Int)))))] (by kernel_rfl) (cR rfl hb3 (fun hc17 hb3=>?_) fun hc17 hb3=>?_)
   ·refine ae ?_
    refine da [(2,pI 1)] (by kernel_rfl) (dR (dR ?_))
    refine aA hb3 (fun ht=>?_);subst ht
    refine cS ?_
    exact zz r h rfl
   refine ah ?_
   refine aF (bX (aj [(5,pI 0)] (by kernel_rfl) (eZ hb3 fun q20 hq20 hb3=>?_)))
   refine iB (Y:=Unit×Unit) (fun (_,_)=>[(0,pL Zc.enc p0),(3,pI v2)]) (fun (_,_)=>[]) (fun (_,_)=>q20=Sum.inl ()) ?_ ?_
   ·refine az ?_
    refine aC (Y:=Unit) (S:=Int) _ hq20 (fun _ v18=>[(0,pL Zc.enc p0),(3,pI v2),(4,pP b7 0),(5,pI v18)]) (fun _ v18=>[PRes.b b7 76 (aK m6)]) () (hY rfl) cE ?_
    rintro _ v18 o τ hb19;(try dsimp only at hb19);dsimp only [aw]
    refine cN (aL [0] [84,85,86,87] [(88,pB (decide (v18<(m6.Inputs.length:Int))))] (by kernel_rfl) (cR rfl hb19 (fun hc21 hb19=>?_) fun hc21 hb19=>?_))
    ·refine ah ?_
     refine du (ae (bo (ρd:=[]) [(0,0),(1,0),(2,0),(3,0),(4,0),(5,0),(6,0),(7,0),(8,0),(9,0),(10,0),(11,0),(12,0),(13,0),(14,0),(15,0),(16,0),(17,0)] _ (List.Perm.refl _) (by kernel_rfl) rfl (aa hb19 fun m22 hm22 hb19=>aa hb19 fun m23 hm23 hb19=>bx 18 [0,0] (rg 91 17) [(108,pB ((decide (0<v18))&&(decide (m22.Product≤m23.Product))))] (eM 6 Zg.enc (cD hm22) (eM 13 Zg.enc (cD hm23) bh)) (by kernel_rfl) (bG (cR rfl hb19 (fun hc24 hb19=>?_) fun hc24 hb19=>?_)))))
     ·refine ae ?_
      refine da [(2,pI 9)] (by kernel_rfl) (aq (dR ?_))
      refine aA hb19 (fun ht=>?_);subst ht
      refine cT (gx (dR ?_))
      refine aA hb3 (fun ht=>?_);subst ht
      refine cS ?_
      exact zz r h rfl
     refine ah ?_
     refine cq (aa hb19 fun m25 hm25 hb19=>aa hb19 fun x26 hx26 hb19=>af (aY 11 [0] ((rg 110 8)++[109]) [(118,.agg (aK x26.1)),(119,pB x26.2)] (cJ 4 Zg.enc hm25 (bi 7 (jd hx26) bh)) (by kernel_rfl) (al rfl (aM (cs:=[pI 0,pS ByteArray.empty,pS ByteArray.empty,pI 0,pB false,pN,pN]) rfl rfl rfl rfl (fun b27=>aO rfl rfl (ap (vs:=(aK x26.1)) rfl rfl rfl rfl rfl co mY (aI [(7,pB x26.2)] (by kernel_rfl) (bX (bI [120] [(121,pB (!x26.2))] (by kernel_rfl) rfl hb19 (fun hc28 hb19=>?_) fun hc28 hb19=>?_)))))))))
     ·refine ae ?_
      refine da [(2,pI 6)] (by kernel_rfl) (aq (dR ?_))
      refine aA hb19 (fun ht=>?_);subst ht
      refine cT (gx (dR ?_))
      refine aA hb3 (fun ht=>?_);subst ht
      refine cS ?_
      exact zz r h rfl
     refine ah ?_
     refine cO hb19 fun m29 hm29 hb19=>aa hb19 fun m30 hm30 hb19=>an [1,1] (rg 122 15) [(137,pB ((decide (m29.Value<0))||(decide (1000000000000<m30.Value))))] (cJ 3 Zg.enc hm29 (eM 11 Zg.enc (cD hm30) bh)) (by kernel_rfl) (cR rfl hb19 (fun hc31 hb19=>?_) fun hc31 hb19=>?_)
     ·refine ae ?_
      refine da [(2,pI 2)] (by kernel_rfl) (dR ?_)
      refine aA hb19 (fun ht=>?_);subst ht
      refine cT (gx (dR ?_))
      refine aA hb3 (fun ht=>?_);subst ht
      refine cS ?_
      exact zz r h rfl
     refine ah ?_
     refine dt (ai [89,90] [(5,pI (IntKind.i64.wrap (v18+1)))] (by kernel_rfl) ?_)
     exact aP hb19 () (hY rfl) (aZ (ar aJ) bv)
    refine aG ?_
    refine cb hb19 (fun ht=>ak rfl ?_)
    exact gE ((),()) (lL rfl) bv ht.symm
   rintro ⟨_,_⟩ τ ρ1 hsub32 hz;(try dsimp only at hz hsub32);subst q20;(try dsimp only at hb3);dsimp only [aw]
   refine dt (mX hsub32 (ai [15,16] [(3,pI (IntKind.i64.wrap (v2+1)))] (by kernel_rfl) ?_))
   exact aP hb3 () (lL rfl) bv
  refine aG ?_
  refine cb hb3 (fun ht=>ak rfl ?_)
  exact av ((),()) nG bv ht.symm
 rintro ⟨_,_⟩ τ hz;(try dsimp only at hz);subst q4;(try dsimp only at h);dsimp only [aw]
 refine ae (da [(2,pI 0)] (by kernel_rfl) ?_)
 exact zz r h rfl
def je (rec:Zd→Option Int) (p0:Zd):Option Int:=(aW (S:=Int×Int) (T:=(Int)) (fun (v2,v3)=>cond ((decide (v3<(p0.Args.length:Int)))&&(decide (v2≤32))) ((idx p0.Args v3).bind fun m8=>(rec m8).bind fun x9=>some (.inl ((IntKind.i64.wrap (v2+x9)),(IntKind.i64.wrap (v3+1))))) (some (.inr v2))) FUEL (1,0)).bind fun v4=>some (ol v4 33)
theorem sF {rec:Zd→Option Int} (hrec:∀ {p0:Zd} {r:Int},rec p0=some r→PF 158 [.agg (au p0)] (pI r)) {p0:Zd} {r:Int} (h:je rec p0=some r):PF 158 [.agg (au p0)] (pI r):=by
 unfold je at h
 refine bd ?_
 refine dm Tryz.func158 rfl Tryz.ntmps158 Tryz.results158 rfl (cU rfl (bg (cs:=(au p0)) rfl rfl (fun b1=>ba [2] (by kernel_rfl) (bX (aj [(3,pI 1)] (by kernel_rfl) (cq (aj [(4,pI 0)] (by kernel_rfl) (eZ h fun q6 hq6 h=>?_))))))))
 refine am (Y:=Unit×Int) (fun (_,v4)=>[(3,pI v4)]) (fun (_,v4)=>[]) (fun (_,v4)=>q6=v4) ?_ ?_
 ·refine az ?_
  refine aC (Y:=Unit) (S:=Int×Int) _ hq6 (fun _ (v2,v3)=>[(1,pP b1 0),(3,pI v2),(4,pI v3)]) (fun _ (v2,v3)=>[PRes.b b1 84 (au p0)]) () (mq rfl) cE ?_
  rintro _ ⟨v2,v3⟩ o τ hb5;(try dsimp only at hb5);dsimp only [aw]
  refine cN (aL [0] (rg 5 8) [(13,pB ((decide (v3<(p0.Args.length:Int)))&&(decide (v2≤32))))] (by kernel_rfl) (cR rfl hb5 (fun hc7 hb5=>?_) fun hc7 hb5=>?_))
  ·refine ah ?_
   refine bX (az (aa hb5 fun m8 hm8 hb5=>aa hb5 fun x9 hx9 hb5=>an [0] (rg 16 8) [(3,pI (IntKind.i64.wrap (v2+x9)))] (oS 4 Zd.enc (Zd.enc_eq _) hm8 (bi 6 (hrec hx9) bh)) (by kernel_rfl) (dt (ai [14,15] [(4,pI (IntKind.i64.wrap (v3+1)))] (by kernel_rfl) ?_))))
   exact aP hb5 () (mq rfl) cE
  refine aG ?_
  refine cb hb5 (fun ht=>ak rfl ?_)
  exact av ((),v2) (qV rfl) bv ht.symm
 rintro ⟨_,v4⟩ τ hz;(try dsimp only at hz);subst q6;(try dsimp only at h);dsimp only [aw]
 refine ae (ai [24,25] [(2,pI (ol v4 33))] (by kernel_rfl) (dj ?_))
 exact zz r h rfl
def kY (n:Nat):Zd→Option Int:=Nat.rec (motive:=fun _=>Zd→Option Int) (fun _=>none) (fun _ ih=>je ih) n
def pD (p0:Zd):Option Int:=kY FUEL p0
theorem tP (n:Nat):∀ {p0:Zd} {r:Int},kY n p0=some r→PF 158 [.agg (au p0)] (pI r):=by
 induction n with
 | zero=>intros;rename_i h;exact nomatch h
 | succ n ih=>intros;rename_i h;exact sF (fun hr=>ih hr) h
theorem vk {p0:Zd} {r:Int} (h:pD p0=some r):PF 158 [.agg (au p0)] (pI r):=tP FUEL h
def lu (p0:Zd):Option Bool:=cond (((!(p0.Kind == 2))&&(((p0.Digits != 0)||(decide (0<(p0.Except.length:Int))))||(p0.Tolerance != 0)))||((!(p0.Kind == 3))&&(p0.Limit != 0))) (some false) (some (((p0.Kind == 4)||(decide (p0.Name=(⟨#[]⟩:ByteArray))))&&(((p0.Kind == 5)||(p0.Kind == 6))||((p0.Args.length:Int) == 0))))
theorem vl {p0:Zd} {r:Bool}  (h:lu p0=some r):PF 185 [.agg (au p0)] (pB r):=by
 unfold lu at h
 refine bd ?_
 refine dm Tryz.func185 rfl Tryz.ntmps185 Tryz.results185 rfl (cU rfl (bg (cs:=(au p0)) rfl rfl (fun b1=>ba [2] (by kernel_rfl) (bX (bo (ρd:=[]) [(0,0),(1,0),(2,0),(3,0),(4,0),(5,0),(6,0),(7,0)] _ (List.Perm.refl _) (by kernel_rfl) rfl (vg 8 [0,0] (rg 6 6) [(3,pB (p0.Kind == 2)),(4,pB (p0.Kind == 3))] (by kernel_rfl) (bG (cq (aL [0,0,0,0] (rg 12 26) [(38,pB (((!(p0.Kind == 2))&&(((p0.Digits != 0)||(decide (0<(p0.Except.length:Int))))||(p0.Tolerance != 0)))||((!(p0.Kind == 3))&&(p0.Limit != 0))))] (by kernel_rfl) (cR rfl h (fun hc2 h=>?_) fun hc2 h=>?_))))))))))
 ·refine ae ?_
  refine da [(2,pB false)] (by kernel_rfl) (aq ?_)
  exact zz r h rfl
 refine ah ?_
 refine bX (aL [0,0] (rg 39 8) [(5,pB ((p0.Kind == 5)||(p0.Kind == 6)))] (by kernel_rfl) (bX (aL [0,0,0] (rg 47 17) [(2,pB (((p0.Kind == 4)||(decide (p0.Name=(⟨#[]⟩:ByteArray))))&&(((p0.Kind == 5)||(p0.Kind == 6))||((p0.Args.length:Int) == 0))))] (by kernel_rfl) (dj ?_))))
 exact zz r h rfl
def jf (rec:Zd→Option Bool) (p0:Zd):Option Bool:=(lu p0).bind fun x2=>cond (!x2) (some false) (cond (p0.Kind == 1) (some true) (cond (p0.Kind == 2) ((aW (S:=Int) (T:=(Unit)⊕(_)) (fun v6=>cond (decide (v6<(p0.Except.length:Int))) ((idx p0.Except v6).bind fun m10=>(fz m10).bind fun x11=>(gd ((!(x11 == 0))&&(decide (0<v6))) (idx p0.Except (IntKind.i64.wrap (v6 - 1)))).bind fun m12=>(gd ((!(x11 == 0))&&(decide (0<v6))) (idx p0.Except v6)).bind fun m13=>cond ((x11 == 0)||((decide (0<v6))&&(!Op.bytesLess m12.toList m13.toList))) (some (.inr (.inr false))) (some (.inl (IntKind.i64.wrap (v6+1))))) (some (.inr (.inl ())))) FUEL 0).bind fun q=>match q with | .inl _=>some ((((((p0.Digits == 2)||(p0.Digits == 4))||(p0.Digits == 6))&&(decide ((p0.Except.length:Int)≤6)))&&(decide (0≤p0.Tolerance)))&&(decide (p0.Tolerance≤1000000))) | .inr e=>some e) (cond (p0.Kind == 3) (some ((decide (0≤p0.Limit))&&(decide (p0.Limit≤1000000)))) (cond (p0.Kind == 4) ((kJ p0.Name).bind fun x17=>some x17) (Option.bind (cond (p0.Kind == 5) (some (p0.Kind == 5)) (some (p0.Kind == 6))) (fun v18=>cond v18 ((aW (S:=Int) (T:=(Unit)⊕(_)) (fun v22=>cond (decide (v22<(p0.Args.length:Int))) ((idx p0.Args v22).bind fun m26=>(gd (!(m26.Kind == p0.Kind)) (idx p0.Args v22)).bind fun m27=>(gd (!(m26.Kind == p0.Kind)) (rec m27)).bind fun x28=>cond ((m26.Kind == p0.Kind)||(!x28)) (some (.inr (.inr false))) (some (.inl (IntKind.i64.wrap (v22+1))))) (some (.inr (.inl ())))) FUEL 0).bind fun q=>match q with | .inl _=>some ((decide (2≤(p0.Args.length:Int)))&&(decide ((p0.Args.length:Int)≤6))) | .inr e=>some e) (some false)))))))
theorem sG {rec:Zd→Option Bool} (hrec:∀ {p0:Zd} {r:Bool},rec p0=some r→PF 159 [.agg (au p0)] (pB r)) {p0:Zd} {r:Bool} (h:jf rec p0=some r):PF 159 [.agg (au p0)] (pB r):=by
 unfold jf at h
 refine bd ?_
 refine dm Tryz.func159 rfl Tryz.ntmps159 Tryz.results159 rfl (cU rfl (bg (cs:=(au p0)) rfl rfl (fun b1=>ba [2] (by kernel_rfl) (cq (aa h fun x2 hx2 h=>an [0] [5,6] [(7,pB (!x2))] (bi 1 (vl hx2) bh) (by kernel_rfl) (cR rfl h (fun hc3 h=>?_) fun hc3 h=>?_))))))
 ·refine ae ?_
  refine da [(2,pB false)] (by kernel_rfl) (aq ?_)
  exact zz r h rfl
 refine ah ?_
 refine cq (aL [0] [8] [(9,pI p0.Kind)] (by kernel_rfl) (aN (pg (bI [11] [(10,pB (p0.Kind == 1))] (by kernel_rfl) rfl h (fun hc4 h=>?_) fun hc4 h=>?_))))
 ·refine ae ?_
  refine da [(2,pB true)] (by kernel_rfl) (dR ?_)
  exact zz r h rfl
 refine ae ?_
 refine bI [13] [(12,pB (p0.Kind == 2))] (by kernel_rfl) rfl h (fun hc5 h=>?_) fun hc5 h=>?_
 ·refine ae ?_
  refine ae (aj [(3,pI 0)] (by kernel_rfl) (eZ h fun q8 hq8 h=>?_))
  refine am (Y:=Unit×Unit) (fun (_,_)=>[(1,pP b1 0)]) (fun (_,_)=>[PRes.b b1 84 (au p0)]) (fun (_,_)=>q8=Sum.inl ()) ?_ ?_
  ·refine az ?_
   refine aC (Y:=Unit) (S:=Int) _ hq8 (fun _ v6=>[(1,pP b1 0),(3,pI v6)]) (fun _ v6=>[PRes.b b1 84 (au p0)]) () (lL rfl) cE ?_
   rintro _ v6 o τ hb7;(try dsimp only at hb7);dsimp only [aw]
   refine cN (aL [0] [14,15,16,17] [(18,pB (decide (v6<(p0.Except.length:Int))))] (by kernel_rfl) (cR rfl hb7 (fun hc9 hb7=>?_) fun hc9 hb7=>?_))
   ·refine ah ?_
    refine du (bo (ρd:=[]) [(0,0),(1,0),(2,0),(3,0),(4,0),(5,1),(6,0),(7,0),(8,0),(9,0),(10,0),(11,0),(12,0),(13,0),(14,0),(15,0),(16,0),(17,0),(18,0),(19,0),(20,0),(21,0),(22,0),(23,0),(24,0)] _ (List.Perm.refl _) (by kernel_rfl) rfl (aa hb7 fun m10 hm10 hb7=>aa hb7 fun x11 hx11 hb7=>aa hb7 fun m12 hm12 hb7=>aa hb7 fun m13 hm13 hb7=>bx 25 [0,0,0] (rg 21 24) [(45,pB ((x11 == 0)||((decide (0<v6))&&(!Op.bytesLess m12.toList m13.toList))))] (cJ 3 eS hm10 (bi 5 (mN hx11) (eM 15 eS (cD hm12) (eM 20 eS (cD hm13) bh)))) (by kernel_rfl) (bG (cR rfl hb7 (fun hc14 hb7=>?_) fun hc14 hb7=>?_))))
    ·refine ae ?_
     refine da [(2,pB false)] (by kernel_rfl) (dR ?_)
     refine aA hb7 (fun ht=>?_);subst ht
     refine cS (dR ?_)
     exact zz r h rfl
    refine ah ?_
    refine dt (ai [19,20] [(3,pI (IntKind.i64.wrap (v6+1)))] (by kernel_rfl) ?_)
    exact aP hb7 () (lL rfl) cE
   refine aG ?_
   refine cb hb7 (fun ht=>ak rfl ?_)
   exact av ((),()) (qV rfl) cE ht.symm
  rintro ⟨_,_⟩ τ hz;(try dsimp only at hz);subst q8;(try dsimp only at h);dsimp only [aw]
  refine ae (aL [0,0,0,0,0,0] (rg 46 29) [(2,pB ((((((p0.Digits == 2)||(p0.Digits == 4))||(p0.Digits == 6))&&(decide ((p0.Except.length:Int)≤6)))&&(decide (0≤p0.Tolerance)))&&(decide (p0.Tolerance≤1000000))))] (by kernel_rfl) (dj (dR ?_)))
  exact zz r h rfl
 refine ae ?_
 refine bI [76] [(75,pB (p0.Kind == 3))] (by kernel_rfl) rfl h (fun hc15 h=>?_) fun hc15 h=>?_
 ·refine ae ?_
  refine aL [0,0] (rg 77 8) [(2,pB ((decide (0≤p0.Limit))&&(decide (p0.Limit≤1000000))))] (by kernel_rfl) (dj (dR ?_))
  exact zz r h rfl
 refine ae ?_
 refine bI [86] [(85,pB (p0.Kind == 4))] (by kernel_rfl) rfl h (fun hc16 h=>?_) fun hc16 h=>?_
 ·refine ae ?_
  refine aa h fun x17 hx17 h=>an [0] [87,88,89] [(2,pB x17)] (bi 2 (qK hx17) bh) (by kernel_rfl) (dj (dR ?_))
  exact zz r h rfl
 refine ae ?_
 refine ae (ai [91] [(90,pB (p0.Kind == 5))] (by kernel_rfl) (eZ h fun q19 hq19 h=>?_))
 refine am (Y:=Unit×Bool) (fun (_,v18)=>[(1,pP b1 0),(90,pB v18)]) (fun (_,v18)=>[PRes.b b1 84 (au p0)]) (fun (_,v18)=>q19=v18) ?_ ?_
 ·skip
  refine i4 rfl hq19 (fun hc20 hq19=>?_) fun hc20 hq19=>?_
  ·refine ah ?_
   obtain rfl:=osi hq19
   exact av ((),(p0.Kind == 5)) (lL rfl) cE rfl
  refine ai [92] [(90,pB (p0.Kind == 6))] (by kernel_rfl) ?_
  obtain rfl:=osi hq19
  exact av ((),(p0.Kind == 6)) (lL rfl) cE rfl
 rintro ⟨_,v18⟩ τ hz;(try dsimp only at hz);subst q19;(try dsimp only at h);dsimp only [aw]
 refine i4 rfl h (fun hc21 h=>?_) fun hc21 h=>?_
 ·refine ae ?_
  refine ae (aj [(4,pI 0)] (by kernel_rfl) (eZ h fun q24 hq24 h=>?_))
  refine am (Y:=Unit×Unit) (fun (_,_)=>[(1,pP b1 0)]) (fun (_,_)=>[PRes.b b1 84 (au p0)]) (fun (_,_)=>q24=Sum.inl ()) ?_ ?_
  ·refine az ?_
   refine aC (Y:=Unit) (S:=Int) _ hq24 (fun _ v22=>[(1,pP b1 0),(4,pI v22)]) (fun _ v22=>[PRes.b b1 84 (au p0)]) () (lL rfl) cE ?_
   rintro _ v22 o τ hb23;(try dsimp only at hb23);dsimp only [aw]
   refine cN (aL [0] [93,94,95,96] [(97,pB (decide (v22<(p0.Args.length:Int))))] (by kernel_rfl) (cR rfl hb23 (fun hc25 hb23=>?_) fun hc25 hb23=>?_))
   ·refine ah ?_
    refine du (bo (ρd:=[]) [(0,0),(1,0),(2,0),(3,0),(4,0),(5,0),(6,0),(7,0),(8,0),(9,0),(10,0),(11,0),(12,0),(13,0),(14,0),(15,1),(16,0),(17,0)] _ (List.Perm.refl _) (by kernel_rfl) rfl (aa hb23 fun m26 hm26 hb23=>aa hb23 fun m27 hm27 hb23=>aa hb23 fun x28 hx28 hb23=>bx 18 [0,0,0] (rg 100 17) [(117,pB ((m26.Kind == p0.Kind)||(!x28)))] (oS 3 Zd.enc (Zd.enc_eq _) hm26 (foixrg 13 Zd.enc (Zd.enc_eq _) (cD hm27) (dT 15 (fun hc=>hrec (cD hx28 hc)) bh))) (by kernel_rfl) (bG (cR rfl hb23 (fun hc29 hb23=>?_) fun hc29 hb23=>?_))))
    ·refine ae ?_
     refine da [(2,pB false)] (by kernel_rfl) (dR ?_)
     refine aA hb23 (fun ht=>?_);subst ht
     refine cS (dR ?_)
     exact zz r h rfl
    refine ah ?_
    refine dt (ai [98,99] [(4,pI (IntKind.i64.wrap (v22+1)))] (by kernel_rfl) ?_)
    exact aP hb23 () (lL rfl) cE
   refine aG ?_
   refine cb hb23 (fun ht=>ak rfl ?_)
   exact av ((),()) (qV rfl) cE ht.symm
  rintro ⟨_,_⟩ τ hz;(try dsimp only at hz);subst q24;(try dsimp only at h);dsimp only [aw]
  refine ae (aL [0,0] (rg 118 10) [(2,pB ((decide (2≤(p0.Args.length:Int)))&&(decide ((p0.Args.length:Int)≤6))))] (by kernel_rfl) (dj (dR ?_)))
  exact zz r h rfl
 refine ah ?_
 refine aF (bX (da [(2,pB false)] (by kernel_rfl) ?_))
 exact zz r h rfl
def kZ (n:Nat):Zd→Option Bool:=Nat.rec (motive:=fun _=>Zd→Option Bool) (fun _=>none) (fun _ ih=>jf ih) n
def pE (p0:Zd):Option Bool:=kZ FUEL p0
theorem tQ (n:Nat):∀ {p0:Zd} {r:Bool},kZ n p0=some r→PF 159 [.agg (au p0)] (pB r):=by
 induction n with
 | zero=>intros;rename_i h;exact nomatch h
 | succ n ih=>intros;rename_i h;exact sG (fun hr=>ih hr) h
theorem vm {p0:Zd} {r:Bool} (h:pE p0=some r):PF 159 [.agg (au p0)] (pB r):=tQ FUEL h
def kL (p0:Zd):Option Int:=(pD p0).bind fun x2=>cond (decide (32<x2)) (some (8:Int)) ((pE p0).bind fun x4=>cond (!x4) (some (1:Int)) (some (0:Int)))
theorem wo {p0:Zd} {r:Int}  (h:kL p0=some r):PF 115 [.agg (au p0)] (pI r):=by
 unfold kL at h
 refine bd ?_
 refine dm Tryz.func115 rfl Tryz.ntmps115 Tryz.results115 rfl (cU rfl (bg (cs:=(au p0)) rfl rfl (fun b1=>ba [2] (by kernel_rfl) (cq (aa h fun x2 hx2 h=>an [0] [3,4] [(5,pB (decide (32<x2)))] (bi 1 (vk hx2) bh) (by kernel_rfl) (cR rfl h (fun hc3 h=>?_) fun hc3 h=>?_))))))
 ·refine ae ?_
  refine da [(2,pI 8)] (by kernel_rfl) (aq ?_)
  exact zz r h rfl
 refine ah ?_
 refine cq (aa h fun x4 hx4 h=>an [0] [6,7] [(8,pB (!x4))] (bi 1 (vm hx4) bh) (by kernel_rfl) (cR rfl h (fun hc5 h=>?_) fun hc5 h=>?_))
 ·refine ae ?_
  refine da [(2,pI 1)] (by kernel_rfl) (aq ?_)
  exact zz r h rfl
 refine ah ?_
 refine bX (da [(2,pI 0)] (by kernel_rfl) ?_)
 exact zz r h rfl
def fE (p0:(List Zb)):Option Int:=cond (decide (8<(p0.length:Int))) (some (8:Int)) ((aW (S:=Int) (T:=(Unit)⊕(_)) (fun v2=>cond (decide (v2<(p0.length:Int))) ((idx p0 v2).bind fun m6=>cond ((((decide (m6.ID<1))||(decide (1000<m6.ID)))||(decide (m6.Kind<1)))||(decide (3<m6.Kind))) (some (.inr (.inr (2:Int)))) ((gd (decide (0<v2)) (idx p0 (IntKind.i64.wrap (v2 - 1)))).bind fun m9=>cond ((decide (0<v2))&&(decide (m6.ID≤m9.ID))) (some (.inr (.inr (9:Int)))) (cond ((decide (12<(m6.Parties.length:Int)))||(decide (12<(m6.Rules.length:Int)))) (some (.inr (.inr (8:Int)))) ((aW (S:=Int) (T:=(Unit)⊕(_)) (fun v12=>cond (decide (v12<(m6.Parties.length:Int))) ((idx m6.Parties v12).bind fun m16=>(dU m16).bind fun x17=>(gd ((!(!x17))&&(decide (0<v12))) (idx m6.Parties (IntKind.i64.wrap (v12 - 1)))).bind fun m18=>(gd ((!(!x17))&&(decide (0<v12))) (idx m6.Parties v12)).bind fun m19=>cond ((!x17)||((decide (0<v12))&&(!Op.bytesLess m18.toList m19.toList))) (some (.inr (.inr (.inr (.inr (1:Int)))))) (some (.inl (IntKind.i64.wrap (v12+1))))) (some (.inr (.inl ())))) FUEL 0).bind fun q=>match q with | .inl _=>(aW (S:=Int) (T:=(Unit)⊕(_)) (fun v21=>cond (decide (v21<(m6.Rules.length:Int))) ((idx m6.Rules v21).bind fun m25=>(fz m25.Prefix).bind fun x26=>cond (x26 == 0) (some (.inr (.inr (.inr (.inr (1:Int)))))) ((gd (decide (0<v21)) (idx m6.Rules (IntKind.i64.wrap (v21 - 1)))).bind fun m28=>(gd (decide (0<v21)) (idx m6.Rules v21)).bind fun m29=>cond ((decide (0<v21))&&(!Op.bytesLess m28.Prefix.toList m29.Prefix.toList)) (some (.inr (.inr (.inr (.inr (9:Int)))))) ((idx m6.Rules v21).bind fun m31=>(kL m31.Rule).bind fun x32=>cond (x32 != 0) (some (.inr (.inr (.inr (.inr x32))))) (some (.inl (IntKind.i64.wrap (v21+1))))))) (some (.inr (.inl ())))) FUEL 0).bind (fun q=>match q with | .inl _=>some (.inl (IntKind.i64.wrap (v2+1))) | .inr e=>some e) | .inr e=>some e)))) (some (.inr (.inl ())))) FUEL 0).bind fun q=>match q with | .inl _=>some (0:Int) | .inr e=>some e)
theorem qD {p0:(List Zb)} {r:Int}  (h:fE p0=some r):PF 66 [pL Zb.enc p0] (pI r):=by
 unfold fE at h
 refine bd ?_
 refine dm Tryz.func66 rfl Tryz.ntmps66 Tryz.results66 rfl (aS [2] (by kernel_rfl) (cq (bI [8,9] [(10,pB (decide (8<(p0.length:Int))))] (by kernel_rfl) rfl h (fun hc1 h=>?_) fun hc1 h=>?_)))
 ·refine ae ?_
  refine da [(2,pI 8)] (by kernel_rfl) (aq ?_)
  exact zz r h rfl
 refine ah ?_
 refine cq (aj [(3,pI 0)] (by kernel_rfl) (eZ h fun q4 hq4 h=>?_))
 refine am (Y:=Unit×Unit) (fun (_,_)=>[]) (fun (_,_)=>[]) (fun (_,_)=>q4=Sum.inl ()) ?_ ?_
 ·refine az ?_
  refine aC (Y:=Unit) (S:=Int) _ hq4 (fun _ v2=>[(0,pL Zb.enc p0),(3,pI v2)]) (fun _ v2=>[]) () (lL rfl) bv ?_
  rintro _ v2 o τ hb3;(try dsimp only at hb3);dsimp only [aw]
  refine cN (bI [11,12,13] [(14,pB (decide (v2<(p0.length:Int))))] (by kernel_rfl) rfl hb3 (fun hc5 hb3=>?_) fun hc5 hb3=>?_)
  ·refine ah ?_
   refine du (aa hb3 fun m6 hm6 hb3=>af (aY 4 [] [17,18,19] [(20,.agg (aD m6))] (cJ 2 Zb.enc hm6 bh) (by kernel_rfl) (al rfl (aM (cs:=[pI 0,pI 0,pN,pN]) rfl rfl rfl rfl (fun b7=>aO rfl rfl (ap (vs:=(aD m6)) rfl rfl rfl rfl rfl co zx (aH (du (aL [0,0,0,0] (rg 22 18) [(21,pB ((((decide (m6.ID<1))||(decide (1000<m6.ID)))||(decide (m6.Kind<1)))||(decide (3<m6.Kind))))] (by kernel_rfl) (cR rfl hb3 (fun hc8 hb3=>?_) fun hc8 hb3=>?_))))))))))
   ·refine ae ?_
    refine da [(2,pI 2)] (by kernel_rfl) (dR (dR ?_))
    refine aA hb3 (fun ht=>?_);subst ht
    refine cS ?_
    exact zz r h rfl
   refine ae ?_
   refine bo (ρd:=[]) [(0,0),(1,0),(2,0),(3,0),(4,0),(5,0),(6,0),(7,0),(8,0),(9,0),(10,0),(11,0),(12,0),(13,0)] _ (List.Perm.refl _) (by kernel_rfl) rfl (aa hb3 fun m9 hm9 hb3=>bx 14 [0] (rg 41 13) [(40,pB ((decide (0<v2))&&(decide (m6.ID≤m9.ID))))] (eM 8 Zb.enc (cD hm9) bh) (by kernel_rfl) (bG (cR rfl hb3 (fun hc10 hb3=>?_) fun hc10 hb3=>?_)))
   ·refine ae ?_
    refine da [(2,pI 9)] (by kernel_rfl) (dR (dR ?_))
    refine aA hb3 (fun ht=>?_);subst ht
    refine cS ?_
    exact zz r h rfl
   refine ae ?_
   refine aL [0,0] (rg 55 10) [(54,pB ((decide (12<(m6.Parties.length:Int)))||(decide (12<(m6.Rules.length:Int)))))] (by kernel_rfl) (cR rfl hb3 (fun hc11 hb3=>?_) fun hc11 hb3=>?_)
   ·refine ae ?_
    refine da [(2,pI 8)] (by kernel_rfl) (dR (dR ?_))
    refine aA hb3 (fun ht=>?_);subst ht
    refine cS ?_
    exact zz r h rfl
   refine ah ?_
   refine aF (cq (aj [(5,pI 0)] (by kernel_rfl) (eZ hb3 fun q14 hq14 hb3=>?_)))
   refine am (Y:=Unit×Unit) (fun (_,_)=>[(0,pL Zb.enc p0),(3,pI v2),(4,pP b7 0)]) (fun (_,_)=>[PRes.b b7 81 (aD m6)]) (fun (_,_)=>q14=Sum.inl ()) ?_ ?_
   ·refine az ?_
    refine aC (Y:=Unit) (S:=Int) _ hq14 (fun _ v12=>[(0,pL Zb.enc p0),(3,pI v2),(4,pP b7 0),(5,pI v12)]) (fun _ v12=>[PRes.b b7 81 (aD m6)]) () (hY rfl) cE ?_
    rintro _ v12 o τ hb13;(try dsimp only at hb13);dsimp only [aw]
    refine cN (aL [0] [65,66,67,68] [(69,pB (decide (v12<(m6.Parties.length:Int))))] (by kernel_rfl) (cR rfl hb13 (fun hc15 hb13=>?_) fun hc15 hb13=>?_))
    ·refine ah ?_
     refine du (bo (ρd:=[]) [(0,0),(1,0),(2,0),(3,0),(4,0),(5,1),(6,0),(7,0),(8,0),(9,0),(10,0),(11,0),(12,0),(13,0),(14,0),(15,0),(16,0),(17,0),(18,0),(19,0),(20,0),(21,0),(22,0),(23,0),(24,0)] _ (List.Perm.refl _) (by kernel_rfl) rfl (aa hb13 fun m16 hm16 hb13=>aa hb13 fun x17 hx17 hb13=>aa hb13 fun m18 hm18 hb13=>aa hb13 fun m19 hm19 hb13=>bx 25 [0,0,0] (rg 72 24) [(96,pB ((!x17)||((decide (0<v12))&&(!Op.bytesLess m18.toList m19.toList))))] (cJ 3 eS hm16 (bi 5 (kI hx17) (eM 15 eS (cD hm18) (eM 20 eS (cD hm19) bh)))) (by kernel_rfl) (bG (cR rfl hb13 (fun hc20 hb13=>?_) fun hc20 hb13=>?_))))
     ·refine ae ?_
      refine da [(2,pI 1)] (by kernel_rfl) (dR ?_)
      refine aA hb13 (fun ht=>?_);subst ht
      refine cS (dR ?_)
      refine aA hb3 (fun ht=>?_);subst ht
      refine cS ?_
      exact zz r h rfl
     refine ah ?_
     refine dt (ai [70,71] [(5,pI (IntKind.i64.wrap (v12+1)))] (by kernel_rfl) ?_)
     exact aP hb13 () (hY rfl) cE
    refine aG ?_
    refine cb hb13 (fun ht=>ak rfl ?_)
    exact av ((),()) (mq rfl) cE ht.symm
   rintro ⟨_,_⟩ τ hz;(try dsimp only at hz);subst q14;(try dsimp only at hb3);dsimp only [aw]
   refine ae (aj [(6,pI 0)] (by kernel_rfl) (eZ hb3 fun q23 hq23 hb3=>?_))
   refine iB (Y:=Unit×Unit) (fun (_,_)=>[(0,pL Zb.enc p0),(3,pI v2)]) (fun (_,_)=>[]) (fun (_,_)=>q23=Sum.inl ()) ?_ ?_
   ·refine az ?_
    refine aC (Y:=Unit) (S:=Int) _ hq23 (fun _ v21=>[(0,pL Zb.enc p0),(3,pI v2),(4,pP b7 0),(6,pI v21)]) (fun _ v21=>[PRes.b b7 81 (aD m6)]) () (hY rfl) cE ?_
    rintro _ v21 o τ hb22;(try dsimp only at hb22);dsimp only [aw]
    refine cN (aL [0] [97,98,99,100] [(101,pB (decide (v21<(m6.Rules.length:Int))))] (by kernel_rfl) (cR rfl hb22 (fun hc24 hb22=>?_) fun hc24 hb22=>?_))
    ·refine ah ?_
     refine du (ae (aa hb22 fun m25 hm25 hb22=>aa hb22 fun x26 hx26 hb22=>an [0] (rg 104 7) [(111,pB (x26 == 0))] (cJ 3 Zh.enc hm25 (bi 6 (mN hx26) bh)) (by kernel_rfl) (cR rfl hb22 (fun hc27 hb22=>?_) fun hc27 hb22=>?_)))
     ·refine ae ?_
      refine da [(2,pI 1)] (by kernel_rfl) (aq (dR ?_))
      refine aA hb22 (fun ht=>?_);subst ht
      refine cT (gx (dR ?_))
      refine aA hb3 (fun ht=>?_);subst ht
      refine cS ?_
      exact zz r h rfl
     refine ah ?_
     refine cq (bo (ρd:=[]) [(0,0),(1,0),(2,0),(3,0),(4,0),(5,0),(6,0),(7,0),(8,0),(9,0),(10,0),(11,0),(12,0),(13,0),(14,0),(15,0),(16,0),(17,0)] _ (List.Perm.refl _) (by kernel_rfl) rfl (aa hb22 fun m28 hm28 hb22=>aa hb22 fun m29 hm29 hb22=>bx 18 [0,0] (rg 112 17) [(129,pB ((decide (0<v21))&&(!Op.bytesLess m28.Prefix.toList m29.Prefix.toList)))] (eM 7 Zh.enc (cD hm28) (eM 13 Zh.enc (cD hm29) bh)) (by kernel_rfl) (bG (cR rfl hb22 (fun hc30 hb22=>?_) fun hc30 hb22=>?_))))
     ·refine ae ?_
      refine da [(2,pI 9)] (by kernel_rfl) (aq (dR ?_))
      refine aA hb22 (fun ht=>?_);subst ht
      refine cT (gx (dR ?_))
      refine aA hb3 (fun ht=>?_);subst ht
      refine cS ?_
      exact zz r h rfl
     refine ah ?_
     refine cO hb22 fun m31 hm31 hb22=>aa hb22 fun x32 hx32 hb22=>an [0] (rg 130 7) [(7,pI x32)] (cJ 3 Zh.enc hm31 (bi 6 (wo hx32) bh)) (by kernel_rfl) (bX (bI [137] [(138,pB (x32 != 0))] (by kernel_rfl) rfl hb22 (fun hc33 hb22=>?_) fun hc33 hb22=>?_))
     ·refine ae ?_
      refine ai [139] [(2,pI x32)] (by kernel_rfl) (dj (dR ?_))
      refine aA hb22 (fun ht=>?_);subst ht
      refine cT (gx (dR ?_))
      refine aA hb3 (fun ht=>?_);subst ht
      refine cS ?_
      exact zz r h rfl
     refine ah ?_
     refine dt (ai [102,103] [(6,pI (IntKind.i64.wrap (v21+1)))] (by kernel_rfl) ?_)
     exact aP hb22 () (hY rfl) cE
    refine aG ?_
    refine cb hb22 (fun ht=>ak rfl ?_)
    exact gE ((),()) (lL rfl) bv ht.symm
   rintro ⟨_,_⟩ τ ρ1 hsub34 hz;(try dsimp only at hz hsub34);subst q23;(try dsimp only at hb3);dsimp only [aw]
   refine dt (mX hsub34 (ai [15,16] [(3,pI (IntKind.i64.wrap (v2+1)))] (by kernel_rfl) ?_))
   exact aP hb3 () (lL rfl) bv
  refine aG ?_
  refine cb hb3 (fun ht=>ak rfl ?_)
  exact av ((),()) nG bv ht.symm
 rintro ⟨_,_⟩ τ hz;(try dsimp only at hz);subst q4;(try dsimp only at h);dsimp only [aw]
 refine ae (da [(2,pI 0)] (by kernel_rfl) ?_)
 exact zz r h rfl
def gQ (p0:Zd) (p1:Zn) (p2:Zl):Option Bool:=(jY p2.Code 0 p0.Digits).bind fun s4=>(jY p1.Code 0 p0.Digits).bind fun s5=>cond (decide (s4=s5)) (some true) ((aW (S:=Int) (T:=(Unit)⊕(_)) (fun v7=>cond (decide (v7<(p0.Except.length:Int))) ((idx p0.Except v7).bind fun m11=>(hC p2.Code m11).bind fun x12=>cond x12 (some (.inr (.inr true))) (some (.inl (IntKind.i64.wrap (v7+1))))) (some (.inr (.inl ())))) FUEL 0).bind fun q=>match q with | .inl _=>some false | .inr e=>some e)
theorem rO {p0:Zd} {p1:Zn} {p2:Zl} {r:Bool}  (h:gQ p0 p1 p2=some r):PF 160 [.agg (au p0),.agg (bz p1),.agg [pS p2.Code,pI p2.Value,pB p2.Originating]] (pB r):=by
 unfold gQ at h
 refine bd ?_
 refine dm Tryz.func160 rfl Tryz.ntmps160 Tryz.results160 rfl (cU rfl (bg (cs:=(au p0)) rfl rfl (fun b1=>al rfl (bg (cs:=(bz p1)) rfl rfl (fun b2=>al rfl (bg (cs:=[pS p2.Code,pI p2.Value,pB p2.Originating]) rfl rfl (fun b3=>ba [6] (by kernel_rfl) (cq (bo (ρd:=[]) [(0,0),(1,0),(2,0),(3,0),(4,0),(5,0),(6,0),(7,0),(8,0),(9,0),(10,0)] _ (List.Perm.refl _) (by kernel_rfl) rfl (aa h fun s4 hs4 h=>aa h fun s5 hs5 h=>bx 11 [0,2,1,2] (rg 8 10) [(18,pB (decide (s4=s5)))] (foss 4 hs4 (foss 9 hs5 bh)) (by kernel_rfl) (bG (cR rfl h (fun hc6 h=>?_) fun hc6 h=>?_))))))))))))
 ·refine ae ?_
  refine da [(6,pB true)] (by kernel_rfl) (aq ?_)
  exact zz r h rfl
 refine ah ?_
 refine cq (aj [(7,pI 0)] (by kernel_rfl) (eZ h fun q9 hq9 h=>?_))
 refine am (Y:=Unit×Unit) (fun (_,_)=>[]) (fun (_,_)=>[]) (fun (_,_)=>q9=Sum.inl ()) ?_ ?_
 ·refine az ?_
  refine aC (Y:=Unit) (S:=Int) _ hq9 (fun _ v7=>[(3,pP b1 0),(5,pP b3 0),(7,pI v7)]) (fun _ v7=>[PRes.b b1 84 (au p0),PRes.b b3 103 [pS p2.Code,pI p2.Value,pB p2.Originating]]) () (mq rfl) (aZ (ar (ar aJ)) cE) ?_
  rintro _ v7 o τ hb8;(try dsimp only at hb8);dsimp only [aw]
  refine cN (aL [0] [19,20,21,22] [(23,pB (decide (v7<(p0.Except.length:Int))))] (by kernel_rfl) (cR rfl hb8 (fun hc10 hb8=>?_) fun hc10 hb8=>?_))
  ·refine ah ?_
   refine du (bo (ρd:=[]) [(0,0),(1,0),(2,0),(3,0),(4,0),(5,0),(6,0),(7,1)] _ (List.Perm.refl _) (by kernel_rfl) rfl (aa hb8 fun m11 hm11 hb8=>aa hb8 fun x12 hx12 hb8=>bx 8 [1,0] (rg 26 7) [(33,pB x12)] (cJ 5 eS hm11 (bi 7 (oU hx12) bh)) (by kernel_rfl) (bG (cR rfl hb8 (fun hc13 hb8=>?_) fun hc13 hb8=>?_))))
   ·refine ae ?_
    refine da [(6,pB true)] (by kernel_rfl) (dR ?_)
    refine aA hb8 (fun ht=>?_);subst ht
    refine cS ?_
    exact zz r h rfl
   refine ah ?_
   refine dt (ai [24,25] [(7,pI (IntKind.i64.wrap (v7+1)))] (by kernel_rfl) ?_)
   exact aP hb8 () (mq rfl) mR
  refine aG ?_
  refine cb hb8 (fun ht=>ak rfl ?_)
  exact av ((),()) nG bv ht.symm
 rintro ⟨_,_⟩ τ hz;(try dsimp only at hz);subst q9;(try dsimp only at h);dsimp only [aw]
 refine ae (da [(6,pB false)] (by kernel_rfl) ?_)
 exact zz r h rfl
def kM (p0:Zm) (p1:Zm):Option Bool:=some ((decide (p0.Hi<p1.Hi))||((p0.Hi == p1.Hi)&&(decide (p0.Lo<p1.Lo))))
theorem qL {p0:Zm} {p1:Zm} {r:Bool}  (h:kM p0 p1=some r):PF 208 [.agg [pU p0.Hi,pU p0.Lo],.agg [pU p1.Hi,pU p1.Lo]] (pB r):=by
 unfold kM at h
 refine bd ?_
 refine dm Tryz.func208 rfl Tryz.ntmps208 Tryz.results208 rfl (cU rfl (bg (cs:=[pU p0.Hi,pU p0.Lo]) rfl rfl (fun b1=>al rfl (bg (cs:=[pU p1.Hi,pU p1.Lo]) rfl rfl (fun b2=>ba [4] (by kernel_rfl) (bX (aL [1,0,1,0,1,0] (rg 5 19) [(4,pB ((decide (p0.Hi<p1.Hi))||((p0.Hi == p1.Hi)&&(decide (p0.Lo<p1.Lo)))))] (by kernel_rfl) (dj ?_))))))))
 exact zz r h rfl
def mZ (p0:Zm) (p1:Zm):Option Int:=(kM p0 p1).bind fun x3=>cond x3 (some (-1)) ((kM p1 p0).bind fun x5=>cond x5 (some (1:Int)) (some (0:Int)))
theorem vn {p0:Zm} {p1:Zm} {r:Int}  (h:mZ p0 p1=some r):PF 186 [.agg [pU p0.Hi,pU p0.Lo],.agg [pU p1.Hi,pU p1.Lo]] (pI r):=by
 unfold mZ at h
 refine bd ?_
 refine dm Tryz.func186 rfl Tryz.ntmps186 Tryz.results186 rfl (cU rfl (bg (cs:=[pU p0.Hi,pU p0.Lo]) rfl rfl (fun b1=>al rfl (bg (cs:=[pU p1.Hi,pU p1.Lo]) rfl rfl (fun b2=>ba [4] (by kernel_rfl) (du (aa h fun x3 hx3 h=>an [1,0] [6,7,8] [(5,pB x3)] (bi 2 (qL hx3) bh) (by kernel_rfl) (cR rfl h (fun hc4 h=>?_) fun hc4 h=>?_))))))))
 ·refine ae ?_
  refine da [(4,pI (-1))] (by kernel_rfl) (dR ?_)
  exact zz r h rfl
 refine ae ?_
 refine aa h fun x5 hx5 h=>an [0,1] [10,11,12] [(9,pB x5)] (bi 2 (qL hx5) bh) (by kernel_rfl) (cR rfl h (fun hc6 h=>?_) fun hc6 h=>?_)
 ·refine ae ?_
  refine da [(4,pI 1)] (by kernel_rfl) (dR ?_)
  exact zz r h rfl
 refine ah ?_
 refine aF (bX (da [(4,pI 0)] (by kernel_rfl) ?_))
 exact zz r h rfl
def iT (p0:Int) (p1:Int) (p2:Int):Option Bool:=(jI (IntKind.u64.wrap p0) 1000000).bind fun x1=>(jI (IntKind.u64.wrap p1) (IntKind.u64.wrap p2)).bind fun x2=>(mZ x1 x2).bind fun x3=>some (decide (x3≤0))
theorem oW {p0:Int} {p1:Int} {p2:Int} {r:Bool}  (h:iT p0 p1 p2=some r):PF 161 [pI p0,pI p1,pI p2] (pB r):=by
 unfold iT at h
 refine bd ?_
 refine dm Tryz.func161 rfl Tryz.ntmps161 Tryz.results161 rfl (aS [6] (by kernel_rfl) (cO h fun x1 hx1 h=>aa h fun x2 hx2 h=>aa h fun x3 hx3 h=>an [] (rg 7 10) [(6,pB (decide (x3≤0)))] (bi 2 (ou hx1) (bi 7 (ou hx2) (bi 8 (vn hx3) bh))) (by kernel_rfl) (dj ?_)))
 exact zz r h rfl
def jg (rec:Zd→Zn→Option Bool) (p0:Zd) (p1:Zn):Option Bool:=(aW (S:=Int×Int×Int) (T:=(Int×Int)) (fun (v3,v4,v5)=>cond (decide (v5<(p1.Inputs.length:Int))) (((idx p1.Inputs v5).bind fun m14=>cond m14.Originating (some (v3,v4)) ((gd ((!(p0.Kind == 3))&&(p0.Kind == 2)) (gQ p0 p1 m14)).bind fun x17=>cond ((p0.Kind == 3)||((p0.Kind == 2)&&x17)) (some ((IntKind.i64.wrap (v3+m14.Value)),(IntKind.i64.wrap (v4+1)))) (some (v3,(IntKind.i64.wrap (v4+1)))))).bind fun (v11,v12)=>some (.inl (v11,v12,(IntKind.i64.wrap (v5+1))))) (some (.inr (v3,v4)))) FUEL (0,0,0)).bind fun (v6,v7)=>(aW (S:=Int×Int) (T:=(Int)) (fun (v19,v20)=>cond (decide (v20<(p0.Args.length:Int))) (((idx p0.Args v20).bind fun m27=>(rec m27 p1).bind fun x28=>cond x28 (some (IntKind.i64.wrap (v19+1))) (some v19)).bind fun v25=>some (.inl (v25,(IntKind.i64.wrap (v20+1))))) (some (.inr v19))) FUEL (0,0)).bind fun v21=>cond (p0.Kind == 1) (some (p1.Obtained&&(v7 == 0))) (cond (p0.Kind == 2) ((iT v6 p0.Tolerance p1.Price).bind fun x32=>some x32) (cond (p0.Kind == 3) ((iT v6 p0.Limit p1.Price).bind fun x34=>some x34) (cond (p0.Kind == 4) ((ir p1.Processes p0.Name).bind fun x36=>some x36) (cond (p0.Kind == 5) (some (v21 == (p0.Args.length:Int))) (some (decide (0<v21)))))))
theorem sH {rec:Zd→Zn→Option Bool} (hrec:∀ {p0:Zd} {p1:Zn} {r:Bool},rec p0 p1=some r→PF 117 [.agg (au p0),.agg (bz p1)] (pB r)) {p0:Zd} {p1:Zn} {r:Bool} (h:jg rec p0 p1=some r):PF 117 [.agg (au p0),.agg (bz p1)] (pB r):=by
 unfold jg at h
 refine bd ?_
 refine dm Tryz.func117 rfl Tryz.ntmps117 Tryz.results117 rfl (cU rfl (bg (cs:=(au p0)) rfl rfl (fun b1=>al rfl (bg (cs:=(bz p1)) rfl rfl (fun b2=>ba [4] (by kernel_rfl) (bX (aj [(5,pI 0),(6,pI 0),(7,pI 0)] (by kernel_rfl) (cq (aj [(8,pI 0)] (by kernel_rfl) (eZ h fun q9 hq9 h=>?_))))))))))
 refine am (Y:=Unit×(Int×Int)) (fun (_,(v6,v7))=>[(2,pP b1 0),(3,pP b2 0),(5,pI v6),(6,pI v7),(7,pI 0)]) (fun (_,(v6,v7))=>[PRes.b b1 84 (au p0),PRes.b b2 36 (bz p1)]) (fun (_,(v6,v7))=>q9=(v6,v7)) ?_ ?_
 ·refine az ?_
  refine aC (Y:=Unit) (S:=Int×Int×Int) _ hq9 (fun _ (v3,v4,v5)=>[(2,pP b1 0),(3,pP b2 0),(5,pI v3),(6,pI v4),(7,pI 0),(8,pI v5)]) (fun _ (v3,v4,v5)=>[PRes.b b1 84 (au p0),PRes.b b2 36 (bz p1)]) () (rI rfl) (aZ (ar aJ) cE) ?_
  rintro _ ⟨v3,v4,v5⟩ o τ hb8;(try dsimp only at hb8);dsimp only [aw]
  refine cN (aL [1] [11,12,13,14] [(15,pB (decide (v5<(p1.Inputs.length:Int))))] (by kernel_rfl) (cR rfl hb8 (fun hc10 hb8=>?_) fun hc10 hb8=>?_))
  ·refine ah ?_
   refine cO hb8 fun q13 hq13 hb8=>?_
   refine am (Y:=Unit×(Int×Int)) (fun (_,(v11,v12))=>[(2,pP b1 0),(3,pP b2 0),(5,pI v11),(6,pI v12),(7,pI 0),(8,pI v5)]) (fun (_,(v11,v12))=>[PRes.b b1 84 (au p0),PRes.b b2 36 (bz p1)]) (fun (_,(v11,v12))=>q13=(v11,v12)) ?_ ?_
   ·skip
    refine pg (aa hq13 fun m14 hm14 hq13=>af (aY 5 [1] [18,19,20,21] [(22,.agg [pS m14.Code,pI m14.Value,pB m14.Originating])] (cJ 3 Zl.enc hm14 bh) (by kernel_rfl) (al rfl (aM (cs:=[pS ByteArray.empty,pI 0,pB false]) rfl rfl rfl rfl (fun b15=>aO rfl rfl (ap (vs:=[pS m14.Code,pI m14.Value,pB m14.Originating]) rfl rfl rfl rfl rfl co zl3 (aH (cq (aL [0] [23] [(24,pB m14.Originating)] (by kernel_rfl) (cR rfl hq13 (fun hc16 hq13=>?_) fun hc16 hq13=>?_))))))))))
    ·refine aG ?_
     refine gV (ak rfl ?_)
     obtain rfl:=osi hq13
     exact av ((),(v3,v4)) (rI rfl) (aZ (ar aJ) (aZ (ar aJ) bv)) rfl
    refine ah ?_
    refine bX (ai [25,26] [(6,pI (IntKind.i64.wrap (v4+1)))] (by kernel_rfl) (cO hq13 fun x17 hx17 hq13=>an [1,1,1,2,0] (rg 27 13) [(40,pB ((p0.Kind == 3)||((p0.Kind == 2)&&x17)))] (dT 11 (fun hc=>rO (cD hx17 hc)) bh) (by kernel_rfl) (cR rfl hq13 (fun hc18 hq13=>?_) fun hc18 hq13=>?_)))
    ·refine aL [0] [41,42,43,44] [(5,pI (IntKind.i64.wrap (v3+m14.Value)))] (by kernel_rfl) ?_
     refine aF ?_
     obtain rfl:=osi hq13
     exact av ((),((IntKind.i64.wrap (v3+m14.Value)),(IntKind.i64.wrap (v4+1)))) (rI rfl) (aZ (ar aJ) (aZ (ar aJ) bv)) rfl
    refine ah ?_
    refine aF ?_
    obtain rfl:=osi hq13
    exact av ((),(v3,(IntKind.i64.wrap (v4+1)))) (rI rfl) (aZ (ar aJ) (aZ (ar aJ) bv)) rfl
   rintro ⟨_,⟨v11,v12⟩⟩ τ hz;(try dsimp only at hz);subst q13;(try dsimp only at hb8);dsimp only [aw]
   refine ai [16,17] [(8,pI (IntKind.i64.wrap (v5+1)))] (by kernel_rfl) ?_
   exact aP hb8 () (rI rfl) mR
  refine aG ?_
  refine cb hb8 (fun ht=>ak rfl ?_)
  exact av ((),(v3,v4)) (mC rfl) mR ht.symm
 rintro ⟨_,⟨v6,v7⟩⟩ τ hz;(try dsimp only at hz);subst q9;(try dsimp only at h);dsimp only [aw]
 refine cN (aj [(10,pI 0)] (by kernel_rfl) (eZ h fun q23 hq23 h=>?_))
 refine am (Y:=Unit×Int) (fun (_,v21)=>[(2,pP b1 0),(3,pP b2 0),(5,pI v6),(6,pI v7),(7,pI v21)]) (fun (_,v21)=>[PRes.b b1 84 (au p0),PRes.b b2 36 (bz p1)]) (fun (_,v21)=>q23=v21) ?_ ?_
 ·refine az ?_
  refine aC (Y:=Unit) (S:=Int×Int) _ hq23 (fun _ (v19,v20)=>[(2,pP b1 0),(3,pP b2 0),(5,pI v6),(6,pI v7),(7,pI v19),(10,pI v20)]) (fun _ (v19,v20)=>[PRes.b b1 84 (au p0),PRes.b b2 36 (bz p1)]) () (rI rfl) mR ?_
  rintro _ ⟨v19,v20⟩ o τ hb22;(try dsimp only at hb22);dsimp only [aw]
  refine cN (aL [0] [45,46,47,48] [(49,pB (decide (v20<(p0.Args.length:Int))))] (by kernel_rfl) (cR rfl hb22 (fun hc24 hb22=>?_) fun hc24 hb22=>?_))
  ·refine ah ?_
   refine cO hb22 fun q26 hq26 hb22=>?_
   refine am (Y:=Unit×Int) (fun (_,v25)=>[(2,pP b1 0),(3,pP b2 0),(5,pI v6),(6,pI v7),(7,pI v25),(10,pI v20)]) (fun (_,v25)=>[PRes.b b1 84 (au p0),PRes.b b2 36 (bz p1)]) (fun (_,v25)=>q26=v25) ?_ ?_
   ·skip
    refine pg (bo (ρd:=[]) [(0,0),(1,0),(2,0),(3,0),(4,0),(5,0),(6,1)] _ (List.Perm.refl _) (by kernel_rfl) rfl (aa hq26 fun m27 hm27 hq26=>aa hq26 fun x28 hx28 hq26=>bx 7 [0,1] (rg 52 6) [(58,pB x28)] (oS 3 Zd.enc (Zd.enc_eq _) hm27 (bi 6 (hrec hx28) bh)) (by kernel_rfl) (bG (cR rfl hq26 (fun hc29 hq26=>?_) fun hc29 hq26=>?_))))
    ·refine ai [59,60] [(7,pI (IntKind.i64.wrap (v19+1)))] (by kernel_rfl) ?_
     refine aF ?_
     obtain rfl:=osi hq26
     exact av ((),(IntKind.i64.wrap (v19+1))) (rI rfl) mR rfl
    refine ah ?_
    refine aF ?_
    obtain rfl:=osi hq26
    exact av ((),v19) (rI rfl) mR rfl
   rintro ⟨_,v25⟩ τ hz;(try dsimp only at hz);subst q26;(try dsimp only at hb22);dsimp only [aw]
   refine ai [50,51] [(10,pI (IntKind.i64.wrap (v20+1)))] (by kernel_rfl) ?_
   exact aP hb22 () (rI rfl) mR
  refine aG ?_
  refine cb hb22 (fun ht=>ak rfl ?_)
  exact av ((),v19) (mC rfl) mR ht.symm
 rintro ⟨_,v21⟩ τ hz;(try dsimp only at hz);subst q23;(try dsimp only at h);dsimp only [aw]
 refine cN (aL [0] [61] [(62,pI p0.Kind)] (by kernel_rfl) (aN (pg (bI [64] [(63,pB (p0.Kind == 1))] (by kernel_rfl) rfl h (fun hc30 h=>?_) fun hc30 h=>?_))))
 ·refine ae ?_
  refine aL [1] (rg 65 6) [(4,pB (p1.Obtained&&(v7 == 0)))] (by kernel_rfl) (dj (dR ?_))
  exact zz r h rfl
 refine ae ?_
 refine bI [72] [(71,pB (p0.Kind == 2))] (by kernel_rfl) rfl h (fun hc31 h=>?_) fun hc31 h=>?_
 ·refine ae ?_
  refine aa h fun x32 hx32 h=>an [0,1] (rg 73 6) [(4,pB x32)] (bi 5 (oW hx32) bh) (by kernel_rfl) (dj (dR ?_))
  exact zz r h rfl
 refine ae ?_
 refine bI [80] [(79,pB (p0.Kind == 3))] (by kernel_rfl) rfl h (fun hc33 h=>?_) fun hc33 h=>?_
 ·refine ae ?_
  refine aa h fun x34 hx34 h=>an [0,1] (rg 81 6) [(4,pB x34)] (bi 5 (oW hx34) bh) (by kernel_rfl) (dj (dR ?_))
  exact zz r h rfl
 refine ae ?_
 refine bI [88] [(87,pB (p0.Kind == 4))] (by kernel_rfl) rfl h (fun hc35 h=>?_) fun hc35 h=>?_
 ·refine ae ?_
  refine aa h fun x36 hx36 h=>an [1,0] (rg 89 5) [(4,pB x36)] (bi 4 (iR hx36) bh) (by kernel_rfl) (dj (dR ?_))
  exact zz r h rfl
 refine ae ?_
 refine bI [95] [(94,pB (p0.Kind == 5))] (by kernel_rfl) rfl h (fun hc37 h=>?_) fun hc37 h=>?_
 ·refine ae ?_
  refine aL [0] (rg 96 5) [(4,pB (v21 == (p0.Args.length:Int)))] (by kernel_rfl) (dj (dR ?_))
  exact zz r h rfl
 refine ah ?_
 refine aF (bX (ai [101,102] [(4,pB (decide (0<v21)))] (by kernel_rfl) (dj ?_)))
 exact zz r h rfl
def lc (n:Nat):Zd→Zn→Option Bool:=Nat.rec (motive:=fun _=>Zd→Zn→Option Bool) (fun _ _=>none) (fun _ ih=>jg ih) n
def pF (p0:Zd) (p1:Zn):Option Bool:=lc FUEL p0 p1
theorem tR (n:Nat):∀ {p0:Zd} {p1:Zn} {r:Bool},lc n p0 p1=some r→PF 117 [.agg (au p0),.agg (bz p1)] (pB r):=by
 induction n with
 | zero=>intros;rename_i h;exact nomatch h
 | succ n ih=>intros;rename_i h;exact sH (fun hr=>ih hr) h
theorem vo {p0:Zd} {p1:Zn} {r:Bool} (h:pF p0 p1=some r):PF 117 [.agg (au p0),.agg (bz p1)] (pB r):=tR FUEL h
def ij (rec:Zd→Zn→Option ((List Int)×Bool)) (p0:Zd) (p1:Zn):Option ((List Int)×Bool):=(pF p0 p1).bind fun x3=>cond (!x3) (some ([],false)) ((aW (S:=(List Int)×Int) (T:=((List Int))⊕(_)) (fun (l6,v9)=>cond (decide (v9<(p0.Args.length:Int))) (Option.bind (α:=((List Int))⊕_) ((idx p0.Args v9).bind fun m23=>(rec m23 p1).bind fun x24=>cond (!x24.2) (some (.inl l6)) (cond (p0.Kind == 6) ((app 8 [v9] x24.1).bind fun l29=>some (.inr (.inr (.inr (l29,true))))) ((app 8 l6 x24.1).bind fun l33=>some (.inl l33)))) (fun q=>match q with | .inl l21=>some (.inl (l21,(IntKind.i64.wrap (v9+1)))) | .inr e=>some e)) (some (.inr (.inl l6)))) FUEL (([]:List Int),0)).bind fun q=>match q with | .inl l13=>some (l13,true) | .inr e=>some e)
theorem re {rec:Zd→Zn→Option ((List Int)×Bool)} (hrec:∀ {p0:Zd} {p1:Zn} {r:((List Int)×Bool)},rec p0 p1=some r→PF 70 [.agg (au p0),.agg (bz p1)] (.tup [pL eI r.1,pB r.2])) {p0:Zd} {p1:Zn} {r:((List Int)×Bool)} (h:ij rec p0 p1=some r):PF 70 [.agg (au p0),.agg (bz p1)] (.tup [pL eI r.1,pB r.2]):=by
 unfold ij at h
 refine bd ?_
 refine dm Tryz.func70 rfl Tryz.ntmps70 Tryz.results70 rfl (cU rfl (bg (cs:=(au p0)) rfl rfl (fun b1=>al rfl (bg (cs:=(bz p1)) rfl rfl (fun b2=>ba [4,5] (by kernel_rfl) (cq (aa h fun x3 hx3 h=>an [1,0] [10,11,12] [(13,pB (!x3))] (bi 2 (vo hx3) bh) (by kernel_rfl) (cR rfl h (fun hc4 h=>?_) fun hc4 h=>?_))))))))
 ·refine ae ?_
  refine aj [(4,pN),(5,pB false)] (by kernel_rfl) (aN (gg 4 rfl (bB (aq ?_))))
  obtain rfl:=osi h
  exact aR (cH (aT rfl) (aT rfl)) bv ⟨rfl,rfl⟩
 refine ah ?_
 refine bX (aj [(6,pN)] (by kernel_rfl) (cq (aj [(7,pI 0)] (by kernel_rfl) (aN (cd 3 1 (aa h fun q15 hq15 h=>?_))))))
 refine am (Y:=(Option Addr×Nat)×((List Int))) (fun ((a11,c12),l13)=>[(6,pO a11 l13.length c12)]) (fun ((a11,c12),l13)=>[PRes.row a11 l13.length c12 3 1 (List.map eI l13)]) (fun ((a11,c12),l13)=>q15=Sum.inl l13) ?_ ?_
 ·refine az ?_
  refine aC (Y:=Option Addr×Nat) (S:=(List Int)×Int) _ hq15 (fun (a7,c8) (l6,v9)=>[(2,pP b1 0),(3,pP b2 0),(6,pO a7 l6.length c8),(7,pI v9)]) (fun (a7,c8) (l6,v9)=>[PRes.b b1 84 (au p0),PRes.b b2 36 (bz p1),PRes.row a7 l6.length c8 3 1 (List.map eI l6)]) (none,0) (hY rfl) (aZ (ar (ar aJ)) (aZ (ar aJ) cE)) ?_
  rintro ⟨a7,c8⟩ ⟨l6,v9⟩ o τ hb14;(try dsimp only at hb14);dsimp only [aw]
  refine cN (aL [0] [14,15,16,17] [(18,pB (decide (v9<(p0.Args.length:Int))))] (by kernel_rfl) (cR rfl hb14 (fun hc17 hb14=>?_) fun hc17 hb14=>?_))
  ·refine ah ?_
   refine cO hb14 fun q22 hq22 hb14=>?_
   refine am (Y:=(Option Addr×Nat)×((List Int))) (fun ((a19,c20),l21)=>[(2,pP b1 0),(3,pP b2 0),(6,pO a19 l21.length c20),(7,pI v9)]) (fun ((a19,c20),l21)=>[PRes.b b1 84 (au p0),PRes.b b2 36 (bz p1),PRes.row a19 l21.length c20 3 1 (List.map eI l21)]) (fun ((a19,c20),l21)=>q22=Sum.inl l21) ?_ ?_
   ·skip
    refine pg (bo (ρd:=[]) [(0,0),(1,0),(2,0),(3,0),(4,0),(5,0),(6,1),(7,0),(8,0),(9,0),(10,0),(11,0)] _ (List.Perm.refl _) (by kernel_rfl) rfl (aa hq22 fun m23 hm23 hq22=>aa hq22 fun x24 hx24 hq22=>bx 12 [0,1] ((rg 22 7)++[21,29,30]) [(8,pL eI x24.1),(9,pB x24.2)] (oS 3 Zd.enc (Zd.enc_eq _) hm23 (bi 6 (hrec hx24) bh)) (by kernel_rfl) (bG (cq (bI [31] [(32,pB (!x24.2))] (by kernel_rfl) rfl hq22 (fun hc25 hq22=>?_) fun hc25 hq22=>?_)))))
    ·refine aG ?_
     refine gV (ak rfl ?_)
     obtain rfl:=osi hq22
     exact av ((a7,c8),l6) (hY rfl) AD rfl
    refine ah ?_
    refine cq (aL [0] [33,34] [(35,pB (p0.Kind == 6))] (by kernel_rfl) (cR rfl hq22 (fun hc26 hq22=>?_) fun hc26 hq22=>?_))
    ·refine ae ?_
     refine af (aB 1 [(36,pI v9)] (by kernel_rfl) (al rfl (bA rfl rfl rfl rfl rfl (fU rfl iX) rfl rfl rfl rfl (fun b27=>aa hq22 fun l29 hl29 hq22=>aB 1 [(38,pL eI x24.1)] (by kernel_rfl) ?_))))
     refine al rfl (gh (enc:=eI) rfl rfl rfl rfl rfl (fun _=>rfl) rfl rfl rfl (by exact aJ) hl29 (fun a30 c31=>?_))
     refine aI [(4,pO a30 l29.length c31),(5,pB true)] (by kernel_rfl) (aN ?_)
     refine dB (enc:=eI) (xs:=l29) 4 rfl (by exact aJ) ?_
     refine bB (aq (cS ?_))
     obtain rfl:=osi hq22
     refine aA hb14 (fun ht=>?_);subst ht
     refine cS ?_
     obtain rfl:=osi h
     exact aR (cH (aT rfl) (aT rfl)) bv ⟨rfl,rfl⟩
    refine ah ?_
    refine eZ hq22 fun l33 hl33 hq22=>af (aB 2 [(40,pO a7 l6.length c8),(41,pL eI x24.1)] (by kernel_rfl) ?_)
    refine al rfl (gh (enc:=eI) rfl rfl rfl rfl rfl (fun _=>rfl) rfl rfl rfl (by exact ar (ar aJ)) hl33 (fun a34 c35=>?_))
    refine aI [(6,pO a34 l33.length c35)] (by kernel_rfl) (aF ?_)
    obtain rfl:=osi hq22
    exact av ((a34,c35),l33) (hY rfl) (aZ (ar aJ) (aZ (ar aJ) cE)) rfl
   rintro ⟨⟨a19,c20⟩,l21⟩ τ hz;(try dsimp only at hz);subst q22;(try dsimp only at hb14);dsimp only [aw]
   refine ai [19,20] [(7,pI (IntKind.i64.wrap (v9+1)))] (by kernel_rfl) ?_
   exact aP hb14 (a19,c20) (hY rfl) AD
  refine aG ?_
  refine cb hb14 (fun ht=>ak rfl ?_)
  exact av ((a7,c8),l6) (qV rfl) (aZ (ar (ar aJ)) bv) ht.symm
 rintro ⟨⟨a11,c12⟩,l13⟩ τ hz;(try dsimp only at hz);subst q15;(try dsimp only at h);dsimp only [aw]
 refine ae (ai [43] [(4,pO a11 l13.length c12),(5,pB true)] (by kernel_rfl) (aN ?_))
 refine dB (enc:=eI) (xs:=l13) 4 rfl (by exact aJ) ?_
 refine bB ?_
 obtain rfl:=osi h
 exact aR (cH (aT rfl) (aT rfl)) bv ⟨rfl,rfl⟩
def ik (n:Nat):Zd→Zn→Option ((List Int)×Bool):=Nat.rec (motive:=fun _=>Zd→Zn→Option ((List Int)×Bool)) (fun _ _=>none) (fun _ ih=>ij ih) n
def jh (p0:Zd) (p1:Zn):Option ((List Int)×Bool):=ik FUEL p0 p1
theorem rP (n:Nat):∀ {p0:Zd} {p1:Zn} {r:((List Int)×Bool)},ik n p0 p1=some r→PF 70 [.agg (au p0),.agg (bz p1)] (.tup [pL eI r.1,pB r.2]):=by
 induction n with
 | zero=>intros;rename_i h;exact nomatch h
 | succ n ih=>intros;rename_i h;exact re (fun hr=>ih hr) h
theorem sI {p0:Zd} {p1:Zn} {r:((List Int)×Bool)} (h:jh p0 p1=some r):PF 70 [.agg (au p0),.agg (bz p1)] (.tup [pL eI r.1,pB r.2]):=rP FUEL h
def gr (p0:(List Zc)) (p1:(List Zb)) (p2:ByteArray):Option ((List Zf)×Int):=(kK p0).bind fun x1=>cond (x1 != 0) (some ([],x1)) ((fE p1).bind fun x3=>cond (x3 != 0) (some ([],x3)) ((dU p2).bind fun x5=>cond (!x5) (some ([],(1:Int))) ((aW (S:=(List Zf)×(List Za)×Bool) (T:=((List Zf))) (fun (l8,l11,v12)=>cond v12 ((aW (S:=(List Zf)×Bool×(List Za)×Int) (T:=((List Zf)×Bool×(List Za))) (fun (l22,v25,l26,v27)=>cond (decide (v27<(p0.length:Int))) ((aW (S:=(List Zf)×Bool×(List Za)×Int) (T:=((List Zf)×Bool×(List Za))) (fun (l38,v41,l42,v43)=>cond (decide (v43<(p1.length:Int))) (((idx p0 v27).bind fun m60=>(idx p1 v43).bind fun m61=>(ec l11 (⟨m60.ID,m61.ID⟩:Za)).bind fun x63=>(gd (!x63) (dM p0 p1 p2 (⟨m60.ID,m61.ID⟩:Za))).bind fun x64=>cond (x63||(!x64)) (some (l38,v41,l42)) ((hQ p0 p1 p2 (⟨m60.ID,m61.ID⟩:Za) l11).bind fun x66=>(idx p1 v43).bind fun m68=>(idx p0 v27).bind fun m69=>(gp m68 m69.Code).bind fun x70=>(jh x70.1 x66.1).bind fun x72=>cond x72.2 ((app 64 l38 [(⟨(⟨m60.ID,m61.ID⟩:Za),x72.1,x66.2⟩:Zf)]).bind fun l76=>(fK l42 (⟨m60.ID,m61.ID⟩:Za)).bind fun x80=>some (l76,true,x80)) (some (l38,v41,l42)))).bind fun (l56,v57,l58)=>some (.inl (l56,v57,l58,(IntKind.i64.wrap (v43+1))))) (some (.inr (l38,v41,l42)))) FUEL (l22,v25,l26,0)).bind fun (l47,v48,l49)=>some (.inl (l47,v48,l49,(IntKind.i64.wrap (v27+1))))) (some (.inr (l22,v25,l26)))) FUEL (l8,false,l11,0)).bind fun (l31,v32,l33)=>some (.inl (l31,l33,v32))) (some (.inr l8))) FUEL (([]:List Zf),[],true)).bind fun l16=>some (l16,(0:Int)))))
theorem vp {p0:(List Zc)} {p1:(List Zb)} {p2:ByteArray} {r:((List Zf)×Int)}  (h:gr p0 p1 p2=some r):PF 23 [pL Zc.enc p0,pL Zb.enc p1,pS p2] (.tup [pL Zf.enc r.1,pI r.2]):=by
 unfold gr at h
 refine bd ?_
 refine dm Tryz.func23 rfl Tryz.ntmps23 Tryz.results23 rfl (aS [6,7] (by kernel_rfl) (cq (aa h fun x1 hx1 h=>an [] [23,24] [(8,pI x1)] (bi 1 (wn hx1) bh) (by kernel_rfl) (bX (bI [25] [(26,pB (x1 != 0))] (by kernel_rfl) rfl h (fun hc2 h=>?_) fun hc2 h=>?_)))))
 ·refine ae ?_
  refine ai [27] [(6,pN),(7,pI x1)] (by kernel_rfl) (aN (gg 6 rfl (bB (aq ?_))))
  obtain rfl:=osi h
  exact aR (cH (aT rfl) (aT rfl)) bv ⟨rfl,rfl⟩
 refine ah ?_
 refine cq (aa h fun x3 hx3 h=>an [] [28,29] [(9,pI x3)] (bi 1 (qD hx3) bh) (by kernel_rfl) (bX (bI [30] [(31,pB (x3 != 0))] (by kernel_rfl) rfl h (fun hc4 h=>?_) fun hc4 h=>?_)))
 ·refine ae ?_
  refine ai [32] [(6,pN),(7,pI x3)] (by kernel_rfl) (aN (gg 6 rfl (bB (aq ?_))))
  obtain rfl:=osi h
  exact aR (cH (aT rfl) (aT rfl)) bv ⟨rfl,rfl⟩
 refine ah ?_
 refine cq (aa h fun x5 hx5 h=>an [] [33,34] [(35,pB (!x5))] (bi 1 (kI hx5) bh) (by kernel_rfl) (cR rfl h (fun hc6 h=>?_) fun hc6 h=>?_))
 ·refine ae ?_
  refine aj [(6,pN),(7,pI 1)] (by kernel_rfl) (aN (gg 6 rfl (bB (aq ?_))))
  obtain rfl:=osi h
  exact aR (cH (aT rfl) (aT rfl)) bv ⟨rfl,rfl⟩
 refine ah ?_
 refine bX (aj [(10,pN)] (by kernel_rfl) (bX (aj [(11,pN)] (by kernel_rfl) (cq (aj [(12,pB true)] (by kernel_rfl) (aN (cd 61 4 (gg 11 rfl (aa h fun q18 hq18 h=>?_)))))))))
 refine am (Y:=(Option Addr×Nat)×((List Zf))) (fun ((a14,c15),l16)=>[(10,pO a14 l16.length c15)]) (fun ((a14,c15),l16)=>[PRes.row a14 l16.length c15 61 4 (List.map Zf.enc l16)]) (fun ((a14,c15),l16)=>q18=l16) ?_ ?_
 ·refine az ?_
  refine aC (Y:=Option Addr×Nat) (S:=(List Zf)×(List Za)×Bool) _ hq18 (fun (a9,c10) (l8,l11,v12)=>[(0,pL Zc.enc p0),(1,pL Zb.enc p1),(2,pS p2),(10,pO a9 l8.length c10),(11,pL Za.enc l11),(12,pB v12)]) (fun (a9,c10) (l8,l11,v12)=>[PRes.row a9 l8.length c10 61 4 (List.map Zf.enc l8)]) (none,0) (rI rfl) cE ?_
  rintro ⟨a9,c10⟩ ⟨l8,l11,v12⟩ o τ hb17;(try dsimp only at hb17);dsimp only [aw]
  refine cN (aj [(36,pB v12)] (by kernel_rfl) (cR rfl hb17 (fun hc20 hb17=>?_) fun hc20 hb17=>?_))
  ·refine ah ?_
   refine aN (pg (aj [(12,pB false)] (by kernel_rfl) (bX (ai [37] [(13,pL Za.enc l11)] (by kernel_rfl) (cq (aj [(14,pI 0)] (by kernel_rfl) (eZ hb17 fun q35 hq35 hb17=>?_)))))))
   refine am (Y:=(Option Addr×Nat)×((List Zf)×Bool×(List Za))) (fun ((a29,c30),(l31,v32,l33))=>[(0,pL Zc.enc p0),(1,pL Zb.enc p1),(2,pS p2),(10,pO a29 l31.length c30),(12,pB v32),(13,pL Za.enc l33)]) (fun ((a29,c30),(l31,v32,l33))=>[PRes.row a29 l31.length c30 61 4 (List.map Zf.enc l31)]) (fun ((a29,c30),(l31,v32,l33))=>q35=(l31,v32,l33)) ?_ ?_
   ·refine az ?_
    refine aC (Y:=Option Addr×Nat) (S:=(List Zf)×Bool×(List Za)×Int) _ hq35 (fun (a23,c24) (l22,v25,l26,v27)=>[(0,pL Zc.enc p0),(1,pL Zb.enc p1),(2,pS p2),(10,pO a23 l22.length c24),(11,pL Za.enc l11),(12,pB v25),(13,pL Za.enc l26),(14,pI v27)]) (fun (a23,c24) (l22,v25,l26,v27)=>[PRes.row a23 l22.length c24 61 4 (List.map Zf.enc l22)]) (a9,c10) (qH rfl) cE ?_
    rintro ⟨a23,c24⟩ ⟨l22,v25,l26,v27⟩ o τ hb34;(try dsimp only at hb34);dsimp only [aw]
    refine cN (bI [38,39,40] [(41,pB (decide (v27<(p0.length:Int))))] (by kernel_rfl) rfl hb34 (fun hc36 hb34=>?_) fun hc36 hb34=>?_)
    ·refine ah ?_
     refine du (aj [(15,pI 0)] (by kernel_rfl) (eZ hb34 fun q51 hq51 hb34=>?_))
     refine iB (Y:=(Option Addr×Nat)×((List Zf)×Bool×(List Za))) (fun ((a45,c46),(l47,v48,l49))=>[(0,pL Zc.enc p0),(1,pL Zb.enc p1),(2,pS p2),(10,pO a45 l47.length c46),(11,pL Za.enc l11),(12,pB v48),(13,pL Za.enc l49),(14,pI v27)]) (fun ((a45,c46),(l47,v48,l49))=>[PRes.row a45 l47.length c46 61 4 (List.map Zf.enc l47)]) (fun ((a45,c46),(l47,v48,l49))=>q51=(l47,v48,l49)) ?_ ?_
     ·refine az ?_
      refine aC (Y:=Option Addr×Nat) (S:=(List Zf)×Bool×(List Za)×Int) _ hq51 (fun (a39,c40) (l38,v41,l42,v43)=>[(0,pL Zc.enc p0),(1,pL Zb.enc p1),(2,pS p2),(10,pO a39 l38.length c40),(11,pL Za.enc l11),(12,pB v41),(13,pL Za.enc l42),(14,pI v27),(15,pI v43)]) (fun (a39,c40) (l38,v41,l42,v43)=>[PRes.row a39 l38.length c40 61 4 (List.map Zf.enc l38)]) (a23,c24) (qI rfl) cE ?_
      rintro ⟨a39,c40⟩ ⟨l38,v41,l42,v43⟩ o τ hb50;(try dsimp only at hb50);dsimp only [aw]
      refine cN (bI [44,45,46] [(47,pB (decide (v43<(p1.length:Int))))] (by kernel_rfl) rfl hb50 (fun hc52 hb50=>?_) fun hc52 hb50=>?_)
      ·refine ah ?_
       refine cO hb50 fun q59 hq59 hb50=>?_
       refine am (Y:=(Option Addr×Nat)×((List Zf)×Bool×(List Za))) (fun ((a54,c55),(l56,v57,l58))=>[(0,pL Zc.enc p0),(1,pL Zb.enc p1),(2,pS p2),(10,pO a54 l56.length c55),(11,pL Za.enc l11),(12,pB v57),(13,pL Za.enc l58),(14,pI v27),(15,pI v43)]) (fun ((a54,c55),(l56,v57,l58))=>[PRes.row a54 l56.length c55 61 4 (List.map Zf.enc l56)]) (fun ((a54,c55),(l56,v57,l58))=>q59=(l56,v57,l58)) ?_ ?_
       ·skip
        refine pg (bo (ρd:=[]) [(0,0),(1,0),(2,0),(3,0),(4,0),(5,0),(6,0),(7,0),(8,0),(9,0),(10,0),(11,1),(12,1)] _ (List.Perm.refl _) (by kernel_rfl) rfl (aa hq59 fun m60 hm60 hq59=>aa hq59 fun m61 hm61 hq59=>bx 10 [] [50,51,52,53,55,56,57,58] [(54,pI m60.ID),(59,pI m61.ID)] (cJ 2 Zc.enc hm60 (cJ 7 Zb.enc hm61 bh)) (by kernel_rfl) (lh rfl rfl rfl (sy (cs:=[pI m60.ID,pI m61.ID]) rfl rfl rfl rfl rfl rfl rfl (Eu rfl rfl rfl rfl nB (Eu rfl rfl rfl rfl (dL nB) zfn))) (jF rfl rfl rfl (aM (cs:=[pI 0,pI 0]) rfl rfl rfl rfl (fun b62=>xY rfl rfl (ap (vs:=[pI m60.ID,pI m61.ID]) rfl rfl rfl rfl rfl co sk (bG (cq (aa hq59 fun x63 hx63 hq59=>aa hq59 fun x64 hx64 hq59=>an [0,0] (rg 61 10) [(71,pB (x63||(!x64)))] (bi 2 (j8 hx63) (dT 8 (fun hc=>lO (cD hx64 hc)) bh)) (by kernel_rfl) (cR rfl hq59 (fun hc65 hq59=>?_) fun hc65 hq59=>?_)))))))))))
        ·refine aG ?_
         refine gV (ak rfl ?_)
         obtain rfl:=osi hq59
         exact av ((a39,c40),(l38,v41,l42)) (qI rfl) (aZ (ar aJ) bv) rfl
        refine ah ?_
        refine cO hq59 fun x66 hx66 hq59=>af (aY 9 [0] ((rg 73 6)++[72]) [(79,.agg (bz x66.1)),(80,pL Za.enc x66.2)] (bi 5 (tO hx66) bh) (by kernel_rfl) (al rfl (aM (cs:=[pS ByteArray.empty,pI 0,pB false,pN,pN]) rfl rfl rfl rfl (fun b67=>aO rfl rfl (ap (vs:=(bz x66.1)) rfl rfl rfl rfl rfl co Gc (aI [(18,pL Za.enc x66.2)] (by kernel_rfl) (bX (bo (ρd:=[]) [(0,0),(1,0),(2,0),(3,0),(4,0),(5,0),(6,0),(7,0),(8,0),(9,1),(10,0),(11,0),(12,0),(13,2),(14,1),(15,0)] _ (List.Perm.refl _) (by kernel_rfl) rfl (aa hq59 fun m68 hm68 hq59=>aa hq59 fun m69 hm69 hq59=>aa hq59 fun x70 hx70 hq59=>bx 13 [] ((rg 82 10)++[81]) [(92,.agg (au x70.1)),(93,pB x70.2)] (cJ 2 Zb.enc hm68 (cJ 6 Zc.enc hm69 (bi 9 (oV hx70) bh))) (by kernel_rfl) (rH (td rfl rfl rfl rfl rfl) (fun _=>rfl) rfl (fun b71=>xY rfl rfl (ap (vs:=(au x70.1)) rfl rfl rfl rfl rfl co mY (E7 1 [20] (by kernel_rfl) (bG (cO hq59 fun x72 hx72 hq59=>an [0,1] [95,96,97,94,98,99] [(21,pL eI x72.1),(22,pB x72.2)] (bi 2 (sI hx72) bh) (by kernel_rfl) (bX (aj [(100,pB x72.2)] (by kernel_rfl) (cR rfl hq59 (fun hc73 hq59=>?_) fun hc73 hq59=>?_))))))))))))))))))
        ·refine ae ?_
         refine af (cu 5 [2] [102,103,104] [(101,pO a39 l38.length c40),(105,.agg [pI m60.ID,pI m61.ID,pL eI x72.1,pL Za.enc x66.2])] (by kernel_rfl) (al rfl (bA rfl rfl rfl rfl rfl (fU rfl iX) rfl rfl rfl rfl (fun b74=>aa hq59 fun l76 hl76 hq59=>?_))))
         refine al rfl (bV (enc:=Zf.enc) rfl rfl rfl rfl rfl rfl rfl rfl rfl fy (by exact ar (ar (ar (ar aJ)))) hl76 (fun a77 c78=>?_))
         refine aI [(10,pO a77 l76.length c78)] (by kernel_rfl) (eZ hq59 fun x80 hx80 hq59=>an [4] [108,109,110] [(13,pL Za.enc x80),(12,pB true)] (bi 2 (nt hx80) bh) (by kernel_rfl) (aF ?_))
         obtain rfl:=osi hq59
         exact av ((a77,c78),(l76,true,x80)) (qI rfl) cE rfl
        refine ah ?_
        refine aF ?_
        obtain rfl:=osi hq59
        exact av ((a39,c40),(l38,v41,l42)) (qI rfl) (aZ (ar (ar (ar aJ))) bv) rfl
       rintro ⟨⟨a54,c55⟩,⟨l56,v57,l58⟩⟩ τ hz;(try dsimp only at hz);subst q59;(try dsimp only at hb50);dsimp only [aw]
       refine ai [48,49] [(15,pI (IntKind.i64.wrap (v43+1)))] (by kernel_rfl) ?_
       exact aP hb50 (a54,c55) (qI rfl) cE
      refine aG ?_
      refine cb hb50 (fun ht=>ak rfl ?_)
      exact gE ((a39,c40),(l38,v41,l42)) (qH rfl) cE ht.symm
     rintro ⟨⟨a45,c46⟩,⟨l47,v48,l49⟩⟩ τ ρ1 hsub81 hz;(try dsimp only at hz hsub81);subst q51;(try dsimp only at hb34);dsimp only [aw]
     refine dt (mX hsub81 (ai [42,43] [(14,pI (IntKind.i64.wrap (v27+1)))] (by kernel_rfl) ?_))
     exact aP hb34 (a45,c46) (qH rfl) cE
    refine aG ?_
    refine cb hb34 (fun ht=>ak rfl ?_)
    exact av ((a23,c24),(l22,v25,l26)) (rI rfl) cE ht.symm
   rintro ⟨⟨a29,c30⟩,⟨l31,v32,l33⟩⟩ τ hz;(try dsimp only at hz);subst q35;(try dsimp only at hb17);dsimp only [aw]
   refine ai [111] [(11,pL Za.enc l33)] (by kernel_rfl) (aF ?_)
   exact aP hb17 (a29,c30) (rI rfl) cE
  refine aG ?_
  refine cb hb17 (fun ht=>ak rfl ?_)
  exact av ((a9,c10),l8) (qV rfl) cE ht.symm
 rintro ⟨⟨a14,c15⟩,l16⟩ τ hz;(try dsimp only at hz);subst q18;(try dsimp only at h);dsimp only [aw]
 refine ae (ai [112] [(6,pO a14 l16.length c15),(7,pI 0)] (by kernel_rfl) (aN ?_))
 refine dB (enc:=Zf.enc) (xs:=l16) 6 rfl (by exact aJ) ?_
 refine bB ?_
 obtain rfl:=osi h
 exact aR (cH (aT rfl) (aT rfl)) bv ⟨rfl,rfl⟩
def bO (p0:(List Zc)) (p1:(Zc→Option Bool)):Option Int:=(aW (S:=Int) (T:=(Unit)⊕(_)) (fun v1=>cond (decide (v1<(p0.length:Int))) ((idx p0 v1).bind fun m5=>(p1 m5).bind fun x6=>cond x6 (some (.inr (.inr v1))) (some (.inl (IntKind.i64.wrap (v1+1))))) (some (.inr (.inl ())))) FUEL 0).bind fun q=>match q with | .inl _=>some (-1) | .inr e=>some e
theorem gT {p0:(List Zc)} {p1:(Zc→Option Bool)} {r:Int} {g1:PV} (hg1:∀ {y0:Zc} {w:Bool},p1 y0=some w→PFV g1 [.agg (aK y0)] (pB w)) (h:bO p0 p1=some r):PF 187 [pL Zc.enc p0,g1] (pI r):=by
 unfold bO at h
 refine bd ?_
 refine dm Tryz.func187 rfl Tryz.ntmps187 Tryz.results187 rfl (aS [4] (by kernel_rfl) (cq (ai [6] [(7,pI (p0.length:Int)),(8,pI 0)] (by kernel_rfl) (eZ h fun q3 hq3 h=>?_))))
 refine am (Y:=Unit×Unit) (fun (_,_)=>[]) (fun (_,_)=>[]) (fun (_,_)=>q3=Sum.inl ()) ?_ ?_
 ·refine az ?_
  refine aC (Y:=Unit) (S:=Int) _ hq3 (fun _ v1=>[(0,pL Zc.enc p0),(1,g1),(7,pI (p0.length:Int)),(8,pI v1)]) (fun _ v1=>[]) () (hY rfl) bv ?_
  rintro _ v1 o τ hb2;(try dsimp only at hb2);dsimp only [aw]
  refine ae (aj [(9,pB (decide (v1<(p0.length:Int))))] (by kernel_rfl) (bX (i4 rfl hb2 (fun hc4 hb2=>?_) fun hc4 hb2=>?_)))
  ·refine ah ?_
   refine du (ai [10] [(5,pI v1)] (by kernel_rfl) (cO hb2 fun m5 hm5 hb2=>aa hb2 fun x6 hx6 hb2=>an [] (rg 11 5) [(16,pB x6)] (cJ 3 Zc.enc hm5 (A2 5 (hg1 hx6) bh)) (by kernel_rfl) (cR rfl hb2 (fun hc7 hb2=>?_) fun hc7 hb2=>?_)))
   ·refine ae ?_
    refine ai [17] [(4,pI v1)] (by kernel_rfl) (dj (dR ?_))
    refine aA hb2 (fun ht=>?_);subst ht
    refine cS ?_
    exact zz r h rfl
   refine ah ?_
   refine dt (ai [18] [(8,pI (IntKind.i64.wrap (v1+1)))] (by kernel_rfl) ?_)
   exact aP hb2 () (hY rfl) bv
  refine aG ?_
  refine cb hb2 (fun ht=>ak rfl ?_)
  exact av ((),()) nG bv ht.symm
 rintro ⟨_,_⟩ τ hz;(try dsimp only at hz);subst q3;(try dsimp only at h);dsimp only [aw]
 refine ae (da [(4,pI (-1))] (by kernel_rfl) ?_)
 exact zz r h rfl
def bE (p0:(List Zc)) (p1:(Zc→Option Bool)):Option Bool:=(bO p0 p1).bind fun x1=>some (decide (0≤x1))
theorem gy {p0:(List Zc)} {p1:(Zc→Option Bool)} {r:Bool} {g1:PV} (hg1:∀ {y0:Zc} {w:Bool},p1 y0=some w→PFV g1 [.agg (aK y0)] (pB w)) (h:bE p0 p1=some r):PF 162 [pL Zc.enc p0,g1] (pB r):=by
 unfold bE at h
 refine bd ?_
 refine dm Tryz.func162 rfl Tryz.ntmps162 Tryz.results162 rfl (aS [4] (by kernel_rfl) (cO h fun x1 hx1 h=>an [] [5,6,7,8] [(4,pB (decide (0≤x1)))] (bi 2 (gT hg1 hx1) bh) (by kernel_rfl) (dj ?_)))
 exact zz r h rfl
def cC (p0:Zc) (p1:Zg):Option Bool:=some (p0.ID == p1.Product)
theorem kN {p0:Zc} {p1:Zg} {r:Bool}  (h:cC p0 p1=some r):PF 163 [.agg (aK p0),.ref [pI p1.Product,pI p1.Value] 0] (pB r):=by
 unfold cC at h
 refine bd ?_
 refine dm Tryz.func163 rfl Tryz.ntmps163 Tryz.results163 rfl (cU rfl (bg (cs:=(aK p0)) rfl rfl (fun b1=>ba [3] (by kernel_rfl) (bX (aL [0] (rg 4 5) [(3,pB (p0.ID == p1.Product))] (by kernel_rfl) (dj ?_))))))
 exact zz r h rfl
def dn (p0:(List Zc)) (p1:(List Zg)):Option Int:=(aW (S:=Int) (T:=(Unit)⊕(_)) (fun v1=>cond (decide (v1<(p1.length:Int))) ((idx p1 v1).bind fun m5=>(gd (decide (0<v1)) (idx p1 (IntKind.i64.wrap (v1 - 1)))).bind fun m7=>cond ((decide (0<v1))&&(decide (m5.Product≤m7.Product))) (some (.inr (.inr (9:Int)))) ((bE p0 (fun y9=>cC y9 m5)).bind fun x10=>cond (!x10) (some (.inr (.inr (6:Int)))) (cond ((decide (m5.Value<0))||(decide (1000000000000<m5.Value))) (some (.inr (.inr (2:Int)))) (some (.inl (IntKind.i64.wrap (v1+1))))))) (some (.inr (.inl ())))) FUEL 0).bind fun q=>match q with | .inl _=>some (0:Int) | .inr e=>some e
theorem lF {p0:(List Zc)} {p1:(List Zg)} {r:Int}  (h:dn p0 p1=some r):PF 119 [pL Zc.enc p0,pL Zg.enc p1] (pI r):=by
 unfold dn at h
 refine bd ?_
 refine dm Tryz.func119 rfl Tryz.ntmps119 Tryz.results119 rfl (aS [4] (by kernel_rfl) (cq (aj [(7,pL Zg.enc p1),(8,pI (p1.length:Int)),(9,pI 0)] (by kernel_rfl) (eZ h fun q3 hq3 h=>?_))))
 refine am (Y:=Unit×Unit) (fun (_,_)=>[]) (fun (_,_)=>[]) (fun (_,_)=>q3=Sum.inl ()) ?_ ?_
 ·refine az ?_
  refine aC (Y:=Unit) (S:=Int) _ hq3 (fun _ v1=>[(0,pL Zc.enc p0),(1,pL Zg.enc p1),(7,pL Zg.enc p1),(8,pI (p1.length:Int)),(9,pI v1)]) (fun _ v1=>[]) () (mC rfl) bv ?_
  rintro _ v1 o τ hb2;(try dsimp only at hb2);dsimp only [aw]
  refine ae (aj [(10,pB (decide (v1<(p1.length:Int))))] (by kernel_rfl) (bX (i4 rfl hb2 (fun hc4 hb2=>?_) fun hc4 hb2=>?_)))
  ·refine ah ?_
   refine du (aa hb2 fun m5 hm5 hb2=>af (aY 3 [] [12] [(11,pI v1),(13,.agg [pI m5.Product,pI m5.Value])] (cJ 1 Zg.enc hm5 bh) (by kernel_rfl) (al rfl (aM (cs:=[pI 0,pI 0]) rfl rfl rfl rfl (fun b6=>aB 1 [(5,pI v1)] (by kernel_rfl) (aO rfl rfl (ap (vs:=[pI m5.Product,pI m5.Value]) rfl rfl rfl rfl rfl co sk (aH (cq (bo (ρd:=[]) [(0,0),(1,0),(2,0),(3,0),(4,0),(5,0),(6,0),(7,0),(8,0),(9,0),(10,0),(11,0),(12,0)] _ (List.Perm.refl _) (by kernel_rfl) rfl (aa hb2 fun m7 hm7 hb2=>bx 13 [0] (rg 14 12) [(26,pB ((decide (0<v1))&&(decide (m5.Product≤m7.Product))))] (eM 8 Zg.enc (cD hm7) bh) (by kernel_rfl) (bG (cR rfl hb2 (fun hc8 hb2=>?_) fun hc8 hb2=>?_)))))))))))))
   ·refine ae ?_
    refine da [(4,pI 9)] (by kernel_rfl) (aq (dR ?_))
    refine aA hb2 (fun ht=>?_);subst ht
    refine cS ?_
    exact zz r h rfl
   refine ah ?_
   refine cq (af (aB 1 [(27,pL Zc.enc p0)] (by kernel_rfl) ?_))
   refine oj 6 rfl (by exact aJ) ?_
   refine aa hb2 fun x10 hx10 hb2=>jr [] [28,29] [(30,pB (!x10))] (bi 1 (gy (fun hr=>qQ (kN hr)) hx10) bh) (by kernel_rfl) (cR rfl hb2 (fun hc11 hb2=>?_) fun hc11 hb2=>?_)
   ·refine ae ?_
    refine da [(4,pI 6)] (by kernel_rfl) (aq (dR ?_))
    refine aA hb2 (fun ht=>?_);subst ht
    refine cS ?_
    exact zz r h rfl
   refine ah ?_
   refine bX (bI (rg 31 7) [(38,pB ((decide (m5.Value<0))||(decide (1000000000000<m5.Value))))] (by kernel_rfl) rfl hb2 (fun hc12 hb2=>?_) fun hc12 hb2=>?_)
   ·refine ae ?_
    refine da [(4,pI 2)] (by kernel_rfl) (dR ?_)
    refine aA hb2 (fun ht=>?_);subst ht
    refine cS ?_
    exact zz r h rfl
   refine ah ?_
   refine dt (ai [39] [(9,pI (IntKind.i64.wrap (v1+1)))] (by kernel_rfl) ?_)
   exact aP hb2 () (mC rfl) bv
  refine aG ?_
  refine cb hb2 (fun ht=>ak rfl ?_)
  exact av ((),()) nG bv ht.symm
 rintro ⟨_,_⟩ τ hz;(try dsimp only at hz);subst q3;(try dsimp only at h);dsimp only [aw]
 refine ae (da [(4,pI 0)] (by kernel_rfl) ?_)
 exact zz r h rfl
def ji (rec:Zd→Option Zi) (p0:Zd):Option Zi:=(aW (S:=(List Zi)×Int) (T:=((List Zi))) (fun (l3,v6)=>cond (decide (v6<(p0.Args.length:Int))) ((idx p0.Args v6).bind fun m15=>(rec m15).bind fun x17=>(app 16 l3 [x17]).bind fun l20=>some (.inl (l20,(IntKind.i64.wrap (v6+1))))) (some (.inr l3))) FUEL (([]:List Zi),0)).bind fun l10=>cond (p0.Kind == 5) (some (Zi.every_ l10)) (cond (p0.Kind == 6) (some (Zi.some_ l10)) (some (Zi.single_ (⟨p0⟩:Zt))))
theorem sJ {rec:Zd→Option Zi} (hrec:∀ {p0:Zd} {r:Zi},rec p0=some r→PF 127 [.agg (au p0)] (Zi.pv r)) {p0:Zd} {r:Zi} (h:ji rec p0=some r):PF 127 [.agg (au p0)] (Zi.pv r):=by
 unfold ji at h
 refine bd ?_
 refine dm Tryz.func127 rfl Tryz.ntmps127 Tryz.results127 rfl (cU rfl (bg (cs:=(au p0)) rfl rfl (fun b1=>ba [2] (by kernel_rfl) (bX (aj [(3,pN)] (by kernel_rfl) (cq (aL [0] [6] [(7,pL Zd.enc p0.Args),(8,pI (p0.Args.length:Int)),(9,pI 0)] (by kernel_rfl) (aN (cd 181 1 (aa h fun q12 hq12 h=>?_))))))))))
 refine am (Y:=(Option Addr×Nat)×((List Zi))) (fun ((a8,c9),l10)=>[(1,pP b1 0),(3,pO a8 l10.length c9)]) (fun ((a8,c9),l10)=>[PRes.b b1 84 (au p0),PRes.row a8 l10.length c9 181 1 (List.map Zi.enc l10)]) (fun ((a8,c9),l10)=>q12=l10) ?_ ?_
 ·refine az ?_
  refine aC (Y:=Option Addr×Nat) (S:=(List Zi)×Int) _ hq12 (fun (a4,c5) (l3,v6)=>[(1,pP b1 0),(3,pO a4 l3.length c5),(7,pL Zd.enc p0.Args),(8,pI (p0.Args.length:Int)),(9,pI v6)]) (fun (a4,c5) (l3,v6)=>[PRes.b b1 84 (au p0),PRes.row a4 l3.length c5 181 1 (List.map Zi.enc l3)]) (none,0) (mC rfl) (aZ (ar aJ) cE) ?_
  rintro ⟨a4,c5⟩ ⟨l3,v6⟩ o τ hb11;(try dsimp only at hb11);dsimp only [aw]
  refine ae (aj [(10,pB (decide (v6<(p0.Args.length:Int))))] (by kernel_rfl) (bX (i4 rfl hb11 (fun hc14 hb11=>?_) fun hc14 hb11=>?_)))
  ·refine ah ?_
   refine du (aa hb11 fun m15 hm15 hb11=>af (aY 2 [] [11] [(12,.agg (au m15))] (oS 0 Zd.enc (Zd.enc_eq _) hm15 bh) (by kernel_rfl) (al rfl (aM (cs:=[pI 0,pI 0,pN,pI 0,pI 0,pS ByteArray.empty,pN]) rfl rfl rfl rfl (fun b16=>aO rfl rfl (ap (vs:=(au m15)) rfl rfl rfl rfl rfl co mY (aH (eZ hb11 fun x17 hx17 hb11=>af (aY 3 [0] [14] [(13,pO a4 l3.length c5),(15,Zi.pv x17)] (bi 2 (hrec hx17) bh) (by kernel_rfl) (al rfl (bA rfl rfl rfl rfl rfl (fU rfl iX) rfl rfl rfl rfl (fun b18=>aa hb11 fun l20 hl20 hb11=>?_))))))))))))
   refine al rfl (bV (enc:=Zi.enc) rfl rfl rfl rfl rfl rfl rfl rfl rfl fy (by exact ar (ar (ar aJ))) hl20 (fun a21 c22=>?_))
   refine aI [(3,pO a21 l20.length c22)] (by kernel_rfl) (dt (ai [18] [(9,pI (IntKind.i64.wrap (v6+1)))] (by kernel_rfl) ?_))
   exact aP hb11 (a21,c22) (mC rfl) (aZ (ar (ar (ar aJ))) cE)
  refine aG ?_
  refine cb hb11 (fun ht=>ak rfl ?_)
  exact av ((a4,c5),l3) (lL rfl) mR ht.symm
 rintro ⟨⟨a8,c9⟩,l10⟩ τ hz;(try dsimp only at hz);subst q12;(try dsimp only at h);dsimp only [aw]
 refine cN (aL [0] [19] [(20,pI p0.Kind)] (by kernel_rfl) (aN (pg (bI [22] [(21,pB (p0.Kind == 5))] (by kernel_rfl) rfl h (fun hc24 h=>?_) fun hc24 h=>?_))))
 ·refine ae ?_
  refine af (aB 1 [(23,pO a8 l10.length c9)] (by kernel_rfl) ?_)
  refine gf (enc:=Zi.enc) (xs:=l10) 23 rfl (by exact ar aJ) ?_
  refine aB 1 [(24,.ifc 223 (pL Zi.enc l10))] (by kernel_rfl) (w5 24 rfl (Zi.pv_every_ l10) (aI [(2,Zi.pv (Zi.every_ l10))] (by kernel_rfl) (dj (dR ?_))))
  exact zz r h rfl
 refine ae ?_
 refine bI [26] [(25,pB (p0.Kind == 6))] (by kernel_rfl) rfl h (fun hc25 h=>?_) fun hc25 h=>?_
 ·refine ae ?_
  refine af (aB 1 [(27,pO a8 l10.length c9)] (by kernel_rfl) ?_)
  refine gf (enc:=Zi.enc) (xs:=l10) 27 rfl (by exact ar aJ) ?_
  refine aB 1 [(28,.ifc 224 (pL Zi.enc l10))] (by kernel_rfl) (w5 28 rfl (Zi.pv_some_ l10) (aI [(2,Zi.pv (Zi.some_ l10))] (by kernel_rfl) (dj (dR ?_))))
  exact zz r h rfl
 refine ah ?_
 refine aF (bX (aL [0] [29,30,31] [(2,Zi.pv (Zi.single_ (⟨p0⟩:Zt)))] (by kernel_rfl) (dj ?_)))
 exact zz r h rfl
def jj (n:Nat):Zd→Option Zi:=Nat.rec (motive:=fun _=>Zd→Option Zi) (fun _=>none) (fun _ ih=>ji ih) n
def tj (p0:Zd):Option Zi:=jj FUEL p0
theorem tS (n:Nat):∀ {p0:Zd} {r:Zi},jj n p0=some r→PF 127 [.agg (au p0)] (Zi.pv r):=by
 induction n with
 | zero=>intros;rename_i h;exact nomatch h
 | succ n ih=>intros;rename_i h;exact sJ (fun hr=>ih hr) h
theorem vq {p0:Zd} {r:Zi} (h:tj p0=some r):PF 127 [.agg (au p0)] (Zi.pv r):=tS FUEL h
def cG (p0:(List ByteArray)) (p1:(ByteArray→Option Bool)):Option Int:=(aW (S:=Int) (T:=(Unit)⊕(_)) (fun v1=>cond (decide (v1<(p0.length:Int))) ((idx p0 v1).bind fun m5=>(p1 m5).bind fun x6=>cond x6 (some (.inr (.inr v1))) (some (.inl (IntKind.i64.wrap (v1+1))))) (some (.inr (.inl ())))) FUEL 0).bind fun q=>match q with | .inl _=>some (-1) | .inr e=>some e
theorem jS {p0:(List ByteArray)} {p1:(ByteArray→Option Bool)} {r:Int} {g1:PV} (hg1:∀ {y0:ByteArray} {w:Bool},p1 y0=some w→PFV g1 [pS y0] (pB w)) (h:cG p0 p1=some r):PF 256 [pL eS p0,g1] (pI r):=by
 unfold cG at h
 refine bd ?_
 refine dm Tryz.func256 rfl Tryz.ntmps256 Tryz.results256 rfl (aS [4] (by kernel_rfl) (cq (ai [6] [(7,pI (p0.length:Int)),(8,pI 0)] (by kernel_rfl) (eZ h fun q3 hq3 h=>?_))))
 refine am (Y:=Unit×Unit) (fun (_,_)=>[]) (fun (_,_)=>[]) (fun (_,_)=>q3=Sum.inl ()) ?_ ?_
 ·refine az ?_
  refine aC (Y:=Unit) (S:=Int) _ hq3 (fun _ v1=>[(0,pL eS p0),(1,g1),(7,pI (p0.length:Int)),(8,pI v1)]) (fun _ v1=>[]) () (hY rfl) bv ?_
  rintro _ v1 o τ hb2;(try dsimp only at hb2);dsimp only [aw]
  refine ae (aj [(9,pB (decide (v1<(p0.length:Int))))] (by kernel_rfl) (bX (i4 rfl hb2 (fun hc4 hb2=>?_) fun hc4 hb2=>?_)))
  ·refine ah ?_
   refine du (ai [10] [(5,pI v1)] (by kernel_rfl) (cO hb2 fun m5 hm5 hb2=>aa hb2 fun x6 hx6 hb2=>an [] (rg 11 5) [(16,pB x6)] (cJ 3 eS hm5 (A2 5 (hg1 hx6) bh)) (by kernel_rfl) (cR rfl hb2 (fun hc7 hb2=>?_) fun hc7 hb2=>?_)))
   ·refine ae ?_
    refine ai [17] [(4,pI v1)] (by kernel_rfl) (dj (dR ?_))
    refine aA hb2 (fun ht=>?_);subst ht
    refine cS ?_
    exact zz r h rfl
   refine ah ?_
   refine dt (ai [18] [(8,pI (IntKind.i64.wrap (v1+1)))] (by kernel_rfl) ?_)
   exact aP hb2 () (hY rfl) bv
  refine aG ?_
  refine cb hb2 (fun ht=>ak rfl ?_)
  exact av ((),()) nG bv ht.symm
 rintro ⟨_,_⟩ τ hz;(try dsimp only at hz);subst q3;(try dsimp only at h);dsimp only [aw]
 refine ae (da [(4,pI (-1))] (by kernel_rfl) ?_)
 exact zz r h rfl
def cg (p0:(List ByteArray)) (p1:(ByteArray→Option Bool)):Option Bool:=(cG p0 p1).bind fun x1=>some (decide (0≤x1))
theorem iY {p0:(List ByteArray)} {p1:(ByteArray→Option Bool)} {r:Bool} {g1:PV} (hg1:∀ {y0:ByteArray} {w:Bool},p1 y0=some w→PFV g1 [pS y0] (pB w)) (h:cg p0 p1=some r):PF 253 [pL eS p0,g1] (pB r):=by
 unfold cg at h
 refine bd ?_
 refine dm Tryz.func253 rfl Tryz.ntmps253 Tryz.results253 rfl (aS [4] (by kernel_rfl) (cO h fun x1 hx1 h=>an [] [5,6,7,8] [(4,pB (decide (0≤x1)))] (bi 2 (jS hg1 hx1) bh) (by kernel_rfl) (dj ?_)))
 exact zz r h rfl
def f9 (p0:ByteArray) (p1:ByteArray):Option Bool:=(dw p1 p0).bind fun x1=>some x1
theorem ri {p0:ByteArray} {p1:ByteArray} {r:Bool}  (h:f9 p0 p1=some r):PF 254 [pS p0,.ref [pS p1] 0] (pB r):=by
 unfold f9 at h
 refine bd ?_
 refine dm Tryz.func254 rfl Tryz.ntmps254 Tryz.results254 rfl (aS [3] (by kernel_rfl) (cO h fun x1 hx1 h=>an [] [4,5,6] [(3,pB x1)] (bi 2 (iH hx1) bh) (by kernel_rfl) (dj ?_)))
 exact zz r h rfl
def iv (p0:Zd) (p1:ByteArray) (p2:ByteArray):Option Bool:=(jY p1 0 p0.Digits).bind fun s3=>(dw p2 s3).bind fun x4=>cond x4 (some true) ((cg p0.Except (fun y6=>f9 y6 p2)).bind fun x7=>some x7)
theorem sK {p0:Zd} {p1:ByteArray} {p2:ByteArray} {r:Bool}  (h:iv p0 p1 p2=some r):PF 251 [.agg (au p0),pS p1,pS p2] (pB r):=by
 unfold iv at h
 refine bd ?_
 refine dm Tryz.func251 rfl Tryz.ntmps251 Tryz.results251 rfl (cU rfl (bg (cs:=(au p0)) rfl rfl (fun b1=>al rfl (bg (cs:=[pS p2]) rfl rfl (fun b2=>ba [6] (by kernel_rfl) (cq (bo (ρd:=[]) [(0,0),(1,0),(2,0),(3,0),(4,0),(5,1)] _ (List.Perm.refl _) (by kernel_rfl) rfl (aa h fun s3 hs3 h=>aa h fun x4 hx4 h=>bx 6 [0,1] (rg 7 5) [(12,pB x4)] (foss 4 hs3 (bi 5 (iH hx4) bh)) (by kernel_rfl) (bG (cR rfl h (fun hc5 h=>?_) fun hc5 h=>?_))))))))))
 ·refine ae ?_
  refine da [(6,pB true)] (by kernel_rfl) (aq ?_)
  exact zz r h rfl
 refine ah ?_
 refine bX (af (cu 2 [1] [13] [(14,pL eS p0.Except)] (by kernel_rfl) ?_))
 refine oj 5 rfl (by exact aJ) ?_
 refine aa h fun x7 hx7 h=>jr [] [15,16] [(6,pB x7)] (bi 1 (iY (fun hr=>qQ (ri hr)) hx7) bh) (by kernel_rfl) (dj ?_)
 exact zz r h rfl
def gt (p0:Zo) (p1:Zo):Option Int:=cond ((decide (p0.Hi<p1.Hi))||((p0.Hi == p1.Hi)&&(decide (p0.Lo<p1.Lo)))) (some (-1)) (cond (Zo.eqb p0 p1) (some (0:Int)) (some (1:Int)))
theorem pG {p0:Zo} {p1:Zo} {r:Int}  (h:gt p0 p1=some r):PF 255 [.agg [pU p0.Hi,pU p0.Lo],.agg [pU p1.Hi,pU p1.Lo]] (pI r):=by
 unfold gt at h
 refine bd ?_
 refine dm Tryz.func255 rfl Tryz.ntmps255 Tryz.results255 rfl (cU rfl (bg (cs:=[pU p0.Hi,pU p0.Lo]) rfl rfl (fun b1=>al rfl (bg (cs:=[pU p1.Hi,pU p1.Lo]) rfl rfl (fun b2=>ba [4] (by kernel_rfl) (du (aL [1,0,1,0,1,0] (rg 6 19) [(5,pB ((decide (p0.Hi<p1.Hi))||((p0.Hi == p1.Hi)&&(decide (p0.Lo<p1.Lo)))))] (by kernel_rfl) (cR rfl h (fun hc3 h=>?_) fun hc3 h=>?_))))))))
 ·refine ae ?_
  refine da [(4,pI (-1))] (by kernel_rfl) (dR ?_)
  exact zz r h rfl
 refine ae ?_
 refine an [1,0] [26,27,28] [(25,pB (Zo.eqb p0 p1))] (A1 2 Zo.eqok233 bh) (by kernel_rfl) (cR rfl h (fun hc4 h=>?_) fun hc4 h=>?_)
 ·refine ae ?_
  refine da [(4,pI 0)] (by kernel_rfl) (dR ?_)
  exact zz r h rfl
 refine ah ?_
 refine aF (bX (da [(4,pI 1)] (by kernel_rfl) ?_))
 exact zz r h rfl
def jL (p0:Int) (p1:Int) (p2:Int):Option Bool:=(jG (IntKind.u64.wrap p0) 1000000).bind fun x1=>(jG (IntKind.u64.wrap p1) (IntKind.u64.wrap p2)).bind fun x3=>(gt x1 x3).bind fun x5=>some (decide (x5≤0))
theorem pH {p0:Int} {p1:Int} {p2:Int} {r:Bool}  (h:jL p0 p1 p2=some r):PF 252 [pI p0,pI p1,pI p2] (pB r):=by
 unfold jL at h
 refine bd ?_
 refine dm Tryz.func252 rfl Tryz.ntmps252 Tryz.results252 rfl (aS [6] (by kernel_rfl) (cO h fun x1 hx1 h=>af (aY 3 [] [9,10] [(11,.agg [pU x1.Hi,pU x1.Lo])] (bi 2 (ot hx1) bh) (by kernel_rfl) (al rfl (aM (cs:=[pU 0,pU 0]) rfl rfl rfl rfl (fun b2=>aO rfl rfl (ap (vs:=[pU x1.Hi,pU x1.Lo]) rfl rfl rfl rfl rfl co sk (aH (cO h fun x3 hx3 h=>af (aY 5 [] [12,13,14,15] [(16,.agg [pU x3.Hi,pU x3.Lo])] (bi 4 (ot hx3) bh) (by kernel_rfl) (al rfl (aM (cs:=[pU 0,pU 0]) rfl rfl rfl rfl (fun b4=>aO rfl rfl (ap (vs:=[pU x3.Hi,pU x3.Lo]) rfl rfl rfl rfl rfl co sk (aH (cO h fun x5 hx5 h=>an [1,0] [17,18,19,20] [(6,pB (decide (x5≤0)))] (bi 2 (pG hx5) bh) (by kernel_rfl) (dj ?_)))))))))))))))))
 exact zz r h rfl
def rule_holds (p0:Zd) (p1:Zn):Option Bool:=(aW (S:=Int×Int×Int×Int) (T:=(Int×Int×Int)) (fun (v3,v4,v5,v6)=>cond (decide (v6<(p1.Inputs.length:Int))) (((idx p1.Inputs v6).bind fun m17=>cond m17.Originating (some (v3,v4,v5)) ((gd (p0.Kind == 2) (iv p0 p1.Code m17.Code)).bind fun x20=>cond ((p0.Kind == 2)&&x20) (some ((IntKind.i64.wrap (v3+m17.Value)),(IntKind.i64.wrap (v4+m17.Value)),(IntKind.i64.wrap (v5+1)))) (some ((IntKind.i64.wrap (v3+m17.Value)),v4,(IntKind.i64.wrap (v5+1)))))).bind fun (v13,v14,v15)=>some (.inl (v13,v14,v15,(IntKind.i64.wrap (v6+1))))) (some (.inr (v3,v4,v5)))) FUEL (0,0,0,0)).bind fun (v7,v8,v9)=>cond (p0.Kind == 1) (some (p1.Obtained&&(v9 == 0))) (cond (p0.Kind == 2) ((jL v8 p0.Tolerance p1.Price).bind fun x24=>some x24) (cond (p0.Kind == 3) ((jL v7 p0.Limit p1.Price).bind fun x26=>some x26) (cond (p0.Kind == 4) ((bJ p1.Processes p0.Name).bind fun x28=>some x28) (some false))))
theorem wq {p0:Zd} {p1:Zn} {r:Bool}  (h:rule_holds p0 p1=some r):PF 250 [.agg (au p0),.agg (bz p1)] (pB r):=by
 unfold rule_holds at h
 refine bd ?_
 refine dm Tryz.func250 rfl Tryz.ntmps250 Tryz.results250 rfl (cU rfl (bg (cs:=(au p0)) rfl rfl (fun b1=>al rfl (bg (cs:=(bz p1)) rfl rfl (fun b2=>ba [4] (by kernel_rfl) (bX (aj [(5,pI 0),(6,pI 0),(7,pI 0)] (by kernel_rfl) (cq (aL [0] [10] [(11,pL Zl.enc p1.Inputs),(12,pI (p1.Inputs.length:Int)),(13,pI 0)] (by kernel_rfl) (eZ h fun q11 hq11 h=>?_))))))))))
 refine am (Y:=Unit×(Int×Int×Int)) (fun (_,(v7,v8,v9))=>[(2,pP b1 0),(3,pP b2 0),(5,pI v7),(6,pI v8),(7,pI v9)]) (fun (_,(v7,v8,v9))=>[PRes.b b1 84 (au p0),PRes.b b2 36 (bz p1)]) (fun (_,(v7,v8,v9))=>q11=(v7,v8,v9)) ?_ ?_
 ·refine az ?_
  refine aC (Y:=Unit) (S:=Int×Int×Int×Int) _ hq11 (fun _ (v3,v4,v5,v6)=>[(2,pP b1 0),(3,pP b2 0),(5,pI v3),(6,pI v4),(7,pI v5),(11,pL Zl.enc p1.Inputs),(12,pI (p1.Inputs.length:Int)),(13,pI v6)]) (fun _ (v3,v4,v5,v6)=>[PRes.b b1 84 (au p0),PRes.b b2 36 (bz p1)]) () (qH rfl) (aZ (ar aJ) cE) ?_
  rintro _ ⟨v3,v4,v5,v6⟩ o τ hb10;(try dsimp only at hb10);dsimp only [aw]
  refine ae (aj [(14,pB (decide (v6<(p1.Inputs.length:Int))))] (by kernel_rfl) (bX (i4 rfl hb10 (fun hc12 hb10=>?_) fun hc12 hb10=>?_)))
  ·refine ah ?_
   refine cO hb10 fun q16 hq16 hb10=>?_
   refine am (Y:=Unit×(Int×Int×Int)) (fun (_,(v13,v14,v15))=>[(2,pP b1 0),(3,pP b2 0),(5,pI v13),(6,pI v14),(7,pI v15),(11,pL Zl.enc p1.Inputs),(12,pI (p1.Inputs.length:Int)),(13,pI v6)]) (fun (_,(v13,v14,v15))=>[PRes.b b1 84 (au p0),PRes.b b2 36 (bz p1)]) (fun (_,(v13,v14,v15))=>q16=(v13,v14,v15)) ?_ ?_
   ·skip
    refine pg (aa hq16 fun m17 hm17 hq16=>af (aY 2 [] [15] [(16,.agg [pS m17.Code,pI m17.Value,pB m17.Originating])] (cJ 0 Zl.enc hm17 bh) (by kernel_rfl) (al rfl (aM (cs:=[pS ByteArray.empty,pI 0,pB false]) rfl rfl rfl rfl (fun b18=>aO rfl rfl (ap (vs:=[pS m17.Code,pI m17.Value,pB m17.Originating]) rfl rfl rfl rfl rfl co zl3 (aH (cq (aL [0] [17] [(18,pB m17.Originating)] (by kernel_rfl) (cR rfl hq16 (fun hc19 hq16=>?_) fun hc19 hq16=>?_))))))))))
    ·refine aG ?_
     refine gV (ak rfl ?_)
     obtain rfl:=osi hq16
     exact av ((),(v3,v4,v5)) (qH rfl) (aZ (ar aJ) (aZ (ar aJ) bv)) rfl
    refine ah ?_
    refine bX (ai [19,20] [(7,pI (IntKind.i64.wrap (v5+1)))] (by kernel_rfl) (bX (aL [0] [21,22,23,24] [(5,pI (IntKind.i64.wrap (v3+m17.Value)))] (by kernel_rfl) (cO hq16 fun x20 hx20 hq16=>an [1,1,2,0] (rg 25 10) [(35,pB ((p0.Kind == 2)&&x20))] (dT 9 (fun hc=>sK (cD hx20 hc)) bh) (by kernel_rfl) (cR rfl hq16 (fun hc21 hq16=>?_) fun hc21 hq16=>?_)))))
    ·refine aL [0] [36,37,38,39] [(6,pI (IntKind.i64.wrap (v4+m17.Value)))] (by kernel_rfl) ?_
     refine aF ?_
     obtain rfl:=osi hq16
     exact av ((),((IntKind.i64.wrap (v3+m17.Value)),(IntKind.i64.wrap (v4+m17.Value)),(IntKind.i64.wrap (v5+1)))) (qH rfl) (aZ (ar aJ) (aZ (ar aJ) bv)) rfl
    refine ah ?_
    refine aF ?_
    obtain rfl:=osi hq16
    exact av ((),((IntKind.i64.wrap (v3+m17.Value)),v4,(IntKind.i64.wrap (v5+1)))) (qH rfl) (aZ (ar aJ) (aZ (ar aJ) bv)) rfl
   rintro ⟨_,⟨v13,v14,v15⟩⟩ τ hz;(try dsimp only at hz);subst q16;(try dsimp only at hb10);dsimp only [aw]
   refine ai [40] [(13,pI (IntKind.i64.wrap (v6+1)))] (by kernel_rfl) ?_
   exact aP hb10 () (qH rfl) mR
  refine aG ?_
  refine cb hb10 (fun ht=>ak rfl ?_)
  exact av ((),(v3,v4,v5)) (mC rfl) mR ht.symm
 rintro ⟨_,⟨v7,v8,v9⟩⟩ τ hz;(try dsimp only at hz);subst q11;(try dsimp only at h);dsimp only [aw]
 refine cN (aL [0] [41] [(42,pI p0.Kind)] (by kernel_rfl) (aN (pg (bI [44] [(43,pB (p0.Kind == 1))] (by kernel_rfl) rfl h (fun hc22 h=>?_) fun hc22 h=>?_))))
 ·refine ae ?_
  refine aL [1] (rg 45 6) [(4,pB (p1.Obtained&&(v9 == 0)))] (by kernel_rfl) (dj (dR ?_))
  exact zz r h rfl
 refine ae ?_
 refine bI [52] [(51,pB (p0.Kind == 2))] (by kernel_rfl) rfl h (fun hc23 h=>?_) fun hc23 h=>?_
 ·refine ae ?_
  refine aa h fun x24 hx24 h=>an [0,1] (rg 53 6) [(4,pB x24)] (bi 5 (pH hx24) bh) (by kernel_rfl) (dj (dR ?_))
  exact zz r h rfl
 refine ae ?_
 refine bI [60] [(59,pB (p0.Kind == 3))] (by kernel_rfl) rfl h (fun hc25 h=>?_) fun hc25 h=>?_
 ·refine ae ?_
  refine aa h fun x26 hx26 h=>an [0,1] (rg 61 6) [(4,pB x26)] (bi 5 (pH hx26) bh) (by kernel_rfl) (dj (dR ?_))
  exact zz r h rfl
 refine ae ?_
 refine bI [68] [(67,pB (p0.Kind == 4))] (by kernel_rfl) rfl h (fun hc27 h=>?_) fun hc27 h=>?_
 ·refine ae ?_
  refine aa h fun x28 hx28 h=>an [1,0] (rg 69 5) [(4,pB x28)] (bi 4 (cV hx28) bh) (by kernel_rfl) (dj (dR ?_))
  exact zz r h rfl
 refine ah ?_
 refine aF (bX (da [(4,pB false)] (by kernel_rfl) ?_))
 exact zz r h rfl
def gz (rec:Zd→Int→Option Zd) (p0:Zd) (p1:Int):Option Zd:=Option.bind (cond (decide (5≤p1)) (some 8) (some 4)) (fun v3=>Option.bind (cond (decide (p1<1)) (some 0) (some v3)) (fun v6=>(sub p0.Args 0 (ol (p0.Args.length:Int) v6)).bind fun l11=>(app 96 ([]:List Zd) l11).bind fun l12=>(aW (S:=(List Zd)×Int) (T:=((List Zd))) (fun (l17,v18)=>cond (decide (v18<((l12.length:Nat):Int))) ((idx l17 v18).bind fun m24=>(rec m24 (IntKind.i64.wrap (p1 - 1))).bind fun x25=>(idx l17 v18).bind fun m26=>some (.inl ((l17.set v18.toNat x25),(IntKind.i64.wrap (v18+1))))) (some (.inr l17))) FUEL (l12,0)).bind fun l20=>some (⟨p0.Kind,p0.Digits,p0.Except,p0.Tolerance,p0.Limit,p0.Name,l20⟩:Zd)))
theorem sL {rec:Zd→Int→Option Zd} (hrec:∀ {p0:Zd} {p1:Int} {r:Zd},rec p0 p1=some r→PF 76 [.agg (au p0),pI p1] (.agg (au r))) {p0:Zd} {p1:Int} {r:Zd} (h:gz rec p0 p1=some r):PF 76 [.agg (au p0),pI p1] (.agg (au r)):=by
 unfold gz at h
 refine bd ?_
 refine dm Tryz.func76 rfl Tryz.ntmps76 Tryz.results76 rfl (cU rfl (bg (cs:=(au p0)) rfl rfl (fun b1=>al rfl (aM (cs:=[pI 0,pI 0,pN,pI 0,pI 0,pS ByteArray.empty,pN]) rfl rfl rfl rfl (fun b2=>aH (bX (aj [(5,pI 4)] (by kernel_rfl) (cq (ai [8] [(9,pB (decide (5≤p1)))] (by kernel_rfl) (eZ h fun q4 hq4 h=>?_))))))))))
 refine am (Y:=Unit×Int) (fun (_,v3)=>[(1,pI p1),(2,pP b1 0),(4,pP b2 0),(5,pI v3)]) (fun (_,v3)=>[PRes.b b1 84 (au p0),PRes.b b2 84 [pI 0,pI 0,pN,pI 0,pI 0,pS ByteArray.empty,pN]]) (fun (_,v3)=>q4=v3) ?_ ?_
 ·skip
  refine i4 rfl hq4 (fun hc5 hq4=>?_) fun hc5 hq4=>?_
  ·refine aj [(5,pI 8)] (by kernel_rfl) ?_
   obtain rfl:=osi hq4
   exact av ((),8) (hY rfl) (aZ (ar aJ) cE) rfl
  refine ah ?_
  obtain rfl:=osi hq4
  exact av ((),4) (hY rfl) (aZ (ar aJ) cE) rfl
 rintro ⟨_,v3⟩ τ hz;(try dsimp only at hz);subst q4;(try dsimp only at h);dsimp only [aw]
 refine cN (ai [10] [(11,pB (decide (p1<1)))] (by kernel_rfl) (eZ h fun q7 hq7 h=>?_))
 refine am (Y:=Unit×Int) (fun (_,v6)=>[(1,pI p1),(2,pP b1 0),(4,pP b2 0),(5,pI v6)]) (fun (_,v6)=>[PRes.b b1 84 (au p0),PRes.b b2 84 [pI 0,pI 0,pN,pI 0,pI 0,pS ByteArray.empty,pN]]) (fun (_,v6)=>q7=v6) ?_ ?_
 ·skip
  refine i4 rfl hq7 (fun hc8 hq7=>?_) fun hc8 hq7=>?_
  ·refine aj [(5,pI 0)] (by kernel_rfl) ?_
   obtain rfl:=osi hq7
   exact av ((),0) (hY rfl) mR rfl
  refine ah ?_
  obtain rfl:=osi hq7
  exact av ((),v3) (hY rfl) mR rfl
 rintro ⟨_,v6⟩ τ hz;(try dsimp only at hz);subst q7;(try dsimp only at h);dsimp only [aw]
 refine ae (af ?_)
 refine al rfl (bA (css:=List.map Zd.enc ([]:List Zd)) rfl rfl rfl rfl rfl (by (simp only [List.map_cons,List.map_nil,Zd.enc_eq];(repeat (first | exact iX | apply fU rfl)))) rfl (by (simp only [List.map_cons,List.map_nil,Zd.enc_eq];rfl)) rfl rfl (fun b9=>?_))
 refine aa h fun l11 hl11 h=>aa h fun l12 hl12 h=>aY 8 [1,1] (rg 13 7) [(20,pL Zd.enc l11)] (yd 7 Zd.enc 7 Zd.enc_len hl11 bh) (by kernel_rfl) ?_
 refine al rfl (gh (enc:=Zd.enc) rfl rfl rfl rfl rfl Zd.enc_lenb rfl rfl rfl (by exact aJ) hl12 (fun a13 c14=>?_))
 refine aI [(6,pO a13 l12.length c14)] (by kernel_rfl) (cq (aj [(7,pI 0)] (by kernel_rfl) (eZ h fun q22 hq22 h=>?_)))
 refine am (Y:=Unit×((List Zd))) (fun (_,l20)=>[(2,pP b1 0),(4,pP b2 0),(6,pO a13 l12.length c14)]) (fun (_,l20)=>[PRes.b b1 84 (au p0),PRes.b b2 84 [pI 0,pI 0,pN,pI 0,pI 0,pS ByteArray.empty,pN],PRes.row a13 l12.length c14 84 7 (List.map Zd.enc l20)]) (fun (_,l20)=>q22=l20) ?_ ?_
 ·refine az ?_
  refine aC (Y:=Unit) (S:=(List Zd)×Int) _ hq22 (fun _ (l17,v18)=>[(1,pI p1),(2,pP b1 0),(4,pP b2 0),(6,pO a13 l12.length c14),(7,pI v18)]) (fun _ (l17,v18)=>[PRes.b b1 84 (au p0),PRes.b b2 84 [pI 0,pI 0,pN,pI 0,pI 0,pS ByteArray.empty,pN],PRes.row a13 l12.length c14 84 7 (List.map Zd.enc l17)]) () (mC rfl) (aZ (ar aJ) (aZ (ar aJ) cE)) ?_
  rintro _ ⟨l17,v18⟩ o τ hb21;(try dsimp only at hb21);dsimp only [aw]
  refine cN (bI [22,23,24] [(25,pB (decide (v18<((l12.length:Nat):Int))))] (by kernel_rfl) rfl hb21 (fun hc23 hb21=>?_) fun hc23 hb21=>?_)
  ·refine ah ?_
   refine bX (az (aa hb21 fun m24 hm24 hb21=>af (aB 4 [(28,pO a13 l12.length c14),(29,pI v18),(30,pO a13 l12.length c14),(31,pI v18)] (by kernel_rfl) (bN rfl rfl rfl (dx (enc:=Zd.enc) (xs:=l17) rfl rfl rfl (.p rfl) wb (.p rfl) (fun _=>hm24)) ?_))))
   refine bN rfl rfl rfl (cY (sz:=7) (p:=.agg (au m24)) (enc:=Zd.enc) (xs:=l17) (a:=a13) v18 0 m24 rfl (.p rfl) rfl wb (fun _=>hm24) (by rw [Zd.enc_eq];rfl)) ?_
   refine aa hb21 fun x25 hx25 hb21=>aa hb21 fun m26 hm26 hb21=>aY 3 [] [34,35] [(36,.agg (au x25))] (bi 2 (hrec hx25) bh) (by kernel_rfl) (bN rfl rfl rfl (dx (enc:=Zd.enc) (xs:=l17) rfl rfl rfl (.p rfl) wb (.p rfl) (fun _=>hm26)) ?_)
   refine aO rfl rfl (mB (enc:=Zd.enc) (xs:=l17) (a:=a13) v18 0 m26 x25 rfl rfl rfl rfl Zd.enc_lenb rfl rfl hm26 (by rw [Zd.enc_eq,Zd.enc_eq];(repeat (first | exact zln | apply nZ | apply dL))) (db (db co)) ?_)
   refine aH (dt (ai [26,27] [(7,pI (IntKind.i64.wrap (v18+1)))] (by kernel_rfl) ?_))
   exact aP hb21 () (mC rfl) AD
  refine aG ?_
  refine cb hb21 (fun ht=>ak rfl ?_)
  exact av ((),l17) (mq rfl) AD ht.symm
 rintro ⟨_,l20⟩ τ hz;(try dsimp only at hz);subst q22;(try dsimp only at h);dsimp only [aw]
 refine ae (af (aB 2 [(38,pO a13 l12.length c14),(39,pP b1 6)] (by kernel_rfl) (aO rfl rfl (ap (vs:=[pO a13 l12.length c14]) rfl rfl rfl rfl rfl co (dL (dL (dL (dL (dL (dL nB)))))) (aH (bX (af ?_)))))))
 refine kW (css:=List.map Zd.enc l20) (a:=a13) (by exact ar (ar aJ)) ?_
 refine iQ (k:=6) (enc:=Zd.enc) (xs:=l20) (b:=b1) (a:=a13) rfl fy (db co) (fH 1 [1] [(40,.agg [pI p0.Kind,pI p0.Digits,pL eS p0.Except,pI p0.Tolerance,pI p0.Limit,pS p0.Name,pL Zd.enc l20])] (by kernel_rfl) (aO rfl rfl (ap (vs:=[pI p0.Kind,pI p0.Digits,pL eS p0.Except,pI p0.Tolerance,pI p0.Limit,pS p0.Name,pL Zd.enc l20]) rfl rfl rfl rfl rfl (db (db co)) mY (aH (dj ?_)))))
 obtain rfl:=osi h
 exact aR (dA (dJ rfl wb rfl)) bv ⟨rfl,rfl⟩
def jk (n:Nat):Zd→Int→Option Zd:=Nat.rec (motive:=fun _=>Zd→Int→Option Zd) (fun _ _=>none) (fun _ ih=>gz ih) n
def tk (p0:Zd) (p1:Int):Option Zd:=jk FUEL p0 p1
theorem tT (n:Nat):∀ {p0:Zd} {p1:Int} {r:Zd},jk n p0 p1=some r→PF 76 [.agg (au p0),pI p1] (.agg (au r)):=by
 induction n with
 | zero=>intros;rename_i h;exact nomatch h
 | succ n ih=>intros;rename_i h;exact sL (fun hr=>ih hr) h
theorem vr {p0:Zd} {p1:Int} {r:Zd} (h:tk p0 p1=some r):PF 76 [.agg (au p0),pI p1] (.agg (au r)):=tT FUEL h
def eC (p0:(List Zb)):Option (List Zb):=(app 64 ([]:List Zb) p0).bind fun l3=>(aW (S:=(List Zb)×Int) (T:=((List Zb))) (fun (l8,v9)=>cond (decide (v9<((l3.length:Nat):Int))) ((idx l8 v9).bind fun m17=>(app 112 ([]:List Zh) m17.Rules).bind fun l18=>(aW (S:=(List Zh)×Int) (T:=((List Zh))) (fun (l23,v24)=>cond (decide (v24<((l18.length:Nat):Int))) ((idx l23 v24).bind fun m31=>(tk m31.Rule 5).bind fun x32=>(idx l23 v24).bind fun m33=>some (.inl ((l23.set v24.toNat (⟨m33.Prefix,x32⟩:Zh)),(IntKind.i64.wrap (v24+1))))) (some (.inr l23))) FUEL (l18,0)).bind fun l27=>(idx l8 v9).bind fun m35=>some (.inl ((l8.set v9.toNat (⟨m35.ID,m35.Kind,m35.Parties,l27⟩:Zb)),(IntKind.i64.wrap (v9+1))))) (some (.inr l8))) FUEL (l3,0)).bind fun l11=>some l11
theorem nu {p0:(List Zb)} {r:(List Zb)}  (h:eC p0=some r):PF 28 [pL Zb.enc p0] (pL Zb.enc r):=by
 unfold eC at h
 refine bd ?_
 refine dm Tryz.func28 rfl Tryz.ntmps28 Tryz.results28 rfl (aS [2] (by kernel_rfl) (bX (cU rfl (bA rfl rfl rfl rfl rfl iX rfl rfl rfl rfl (fun b1=>aa h fun l3 hl3 h=>aB 1 [(7,pL Zb.enc p0)] (by kernel_rfl) ?_)))))
 refine al rfl (gh (enc:=Zb.enc) rfl rfl rfl rfl rfl (fun _=>rfl) rfl rfl rfl (by exact aJ) hl3 (fun a4 c5=>?_))
 refine aI [(0,pO a4 l3.length c5)] (by kernel_rfl) (cq (aj [(3,pI 0)] (by kernel_rfl) (eZ h fun q13 hq13 h=>?_)))
 refine am (Y:=Unit×((List Zb))) (fun (_,l11)=>[(0,pO a4 l3.length c5)]) (fun (_,l11)=>[PRes.row a4 l3.length c5 81 4 (List.map Zb.enc l11)]) (fun (_,l11)=>q13=l11) ?_ ?_
 ·refine az ?_
  refine aC (Y:=Unit) (S:=(List Zb)×Int) _ hq13 (fun _ (l8,v9)=>[(0,pO a4 l3.length c5),(3,pI v9)]) (fun _ (l8,v9)=>[PRes.row a4 l3.length c5 81 4 (List.map Zb.enc l8)]) () (lL rfl) cE ?_
  rintro _ ⟨l8,v9⟩ o τ hb12;(try dsimp only at hb12);dsimp only [aw]
  refine cN (bI [9,10,11] [(12,pB (decide (v9<((l3.length:Nat):Int))))] (by kernel_rfl) rfl hb12 (fun hc14 hb12=>?_) fun hc14 hb12=>?_)
  ·refine ah ?_
   refine du (cU rfl (bA rfl rfl rfl rfl rfl iX rfl rfl rfl rfl (fun b15=>aa hb12 fun m17 hm17 hb12=>aB 2 [(16,pO a4 l3.length c5),(17,pI v9)] (by kernel_rfl) (bN rfl rfl rfl (dx (enc:=Zb.enc) (xs:=l8) rfl rfl rfl (.p rfl) wf (.p rfl) (fun _=>hm17)) (aB 1 [(19,pP (qU a4) (v9.toNat * 4+3))] (by kernel_rfl) (bN rfl rfl rfl (cY (sz:=4) (p:=pL Zh.enc m17.Rules) (enc:=Zb.enc) (xs:=l8) (a:=a4) v9 3 m17 rfl (.p rfl) rfl wf (fun _=>hm17) rfl) (aa hb12 fun l18 hl18 hb12=>?_)))))))
   refine al rfl (gh (enc:=Zh.enc) rfl rfl rfl rfl rfl (fun _=>rfl) rfl rfl rfl (by exact aJ) hl18 (fun a19 c20=>?_))
   refine aI [(4,pO a19 l18.length c20)] (by kernel_rfl) (cq (aj [(5,pI 0)] (by kernel_rfl) (eZ hb12 fun q29 hq29 hb12=>?_)))
   refine am (Y:=Unit×((List Zh))) (fun (_,l27)=>[(0,pO a4 l3.length c5),(3,pI v9),(4,pO a19 l18.length c20)]) (fun (_,l27)=>[PRes.row a4 l3.length c5 81 4 (List.map Zb.enc l8),PRes.row a19 l18.length c20 87 8 (List.map Zh.enc l27)]) (fun (_,l27)=>q29=l27) ?_ ?_
   ·refine az ?_
    refine aC (Y:=Unit) (S:=(List Zh)×Int) _ hq29 (fun _ (l23,v24)=>[(0,pO a4 l3.length c5),(3,pI v9),(4,pO a19 l18.length c20),(5,pI v24)]) (fun _ (l23,v24)=>[PRes.row a19 l18.length c20 87 8 (List.map Zh.enc l23),PRes.row a4 l3.length c5 81 4 (List.map Zb.enc l8)]) () (hY rfl) mR ?_
    rintro _ ⟨l23,v24⟩ o τ hb28;(try dsimp only at hb28);dsimp only [aw]
    refine cN (bI [22,23,24] [(25,pB (decide (v24<((l18.length:Nat):Int))))] (by kernel_rfl) rfl hb28 (fun hc30 hb28=>?_) fun hc30 hb28=>?_)
    ·refine ah ?_
     refine bX (az (aa hb28 fun m31 hm31 hb28=>af (aB 4 [(28,pO a19 l18.length c20),(29,pI v24),(30,pO a19 l18.length c20),(31,pI v24)] (by kernel_rfl) (bN rfl rfl rfl (dx (enc:=Zh.enc) (xs:=l23) rfl rfl rfl (.p rfl) fy (.p rfl) (fun _=>hm31)) (aB 1 [(33,pP (qU a19) (v24.toNat * 8+1))] (by kernel_rfl) (bN rfl rfl rfl (cY (sz:=8) (p:=.agg (au m31.Rule)) (enc:=Zh.enc) (xs:=l23) (a:=a19) v24 1 m31 rfl (.p rfl) rfl fy (fun _=>hm31) rfl) (aa hb28 fun x32 hx32 hb28=>aa hb28 fun m33 hm33 hb28=>aY 1 [] [] [(35,.agg (au x32))] (bi 0 (vr hx32) bh) (by kernel_rfl) (bN rfl rfl rfl (dx (enc:=Zh.enc) (xs:=l23) rfl rfl rfl (.p rfl) fy (.p rfl) (fun _=>hm33)) (aB 1 [(37,pP (qU a19) (v24.toNat * 8+1))] (by kernel_rfl) (aO rfl rfl (mB (enc:=Zh.enc) (xs:=l23) (a:=a19) v24 1 m33 (⟨m33.Prefix,x32⟩:Zh) rfl rfl rfl rfl (fun _=>rfl) rfl rfl hm33 (dL mY) co (aH (dt (ai [26,27] [(5,pI (IntKind.i64.wrap (v24+1)))] (by kernel_rfl) ?_))))))))))))))
     exact aP hb28 () (hY rfl) mR
    refine aG ?_
    refine cb hb28 (fun ht=>ak rfl ?_)
    exact av ((),l23) (mq rfl) (aZ (ar aJ) cE) ht.symm
   rintro ⟨_,l27⟩ τ hz;(try dsimp only at hz);subst q29;(try dsimp only at hb12);dsimp only [aw]
   refine aa hb12 fun m35 hm35 hb12=>af (aB 3 [(38,pO a4 l3.length c5),(39,pI v9),(40,pO a19 l18.length c20)] (by kernel_rfl) (bN rfl rfl rfl (dx (enc:=Zb.enc) (xs:=l8) rfl rfl rfl (.p rfl) fy (.p rfl) (fun _=>hm35)) (aB 1 [(42,pP (qU a4) (v9.toNat * 4+3))] (by kernel_rfl) ?_)))
   refine gf (enc:=Zh.enc) (xs:=l27) 40 rfl (by exact ar aJ) ?_
   refine aO rfl rfl (mB (enc:=Zb.enc) (xs:=l8) (a:=a4) v9 3 m35 (⟨m35.ID,m35.Kind,m35.Parties,l27⟩:Zb) rfl rfl rfl rfl (fun _=>rfl) rfl rfl hm35 (dL (dL (dL nB))) (db co) (aH (dt (ai [13,14] [(3,pI (IntKind.i64.wrap (v9+1)))] (by kernel_rfl) ?_))))
   exact aP hb12 () (lL rfl) (aZ (ar aJ) bv)
  refine aG ?_
  refine cb hb12 (fun ht=>ak rfl ?_)
  exact av ((),l8) (qV rfl) cE ht.symm
 rintro ⟨_,l11⟩ τ hz;(try dsimp only at hz);subst q13;(try dsimp only at h);dsimp only [aw]
 refine ae (ai [43] [(2,pO a4 l3.length c5)] (by kernel_rfl) (aN ?_))
 refine dB (enc:=Zb.enc) (xs:=l11) 2 rfl (by exact aJ) ?_
 refine bB ?_
 exact zz r h rfl
def eY (rec:Zi→Zn→Option ((List Int)×Bool)) (p0:(List Zi)) (p1:Zn):Option ((List Int)×Bool):=(aW (S:=(List Int)×Int) (T:=((List Int))⊕(_)) (fun (l3,v6)=>cond (decide (v6<(p0.length:Int))) ((idx p0 v6).bind fun m15=>(rec m15 p1).bind fun x16=>cond (!x16.2) (some (.inr (.inr ([],false)))) ((app 8 l3 x16.1).bind fun l18=>some (.inl (l18,(IntKind.i64.wrap (v6+1)))))) (some (.inr (.inl l3)))) FUEL (([]:List Int),0)).bind fun q=>match q with | .inl l10=>some (l10,true) | .inr e=>some e
theorem nS {rec:Zi→Zn→Option ((List Int)×Bool)} (hrec:∀ {x:Zi} {y0:Zn} {w:((List Int)×Bool)},rec x y0=some w→PFI x.pv "customs/rule.witness" [.agg (bz y0)] (.tup [pL eI w.1,pB w.2])) {p0:(List Zi)} {p1:Zn} {r:((List Int)×Bool)} (h:eY rec p0 p1=some r):PF 243 [pL Zi.enc p0,.agg (bz p1)] (.tup [pL eI r.1,pB r.2]):=by
 unfold eY at h
 refine bd ?_
 refine dm Tryz.func243 rfl Tryz.ntmps243 Tryz.results243 rfl (cU rfl (bg (cs:=(bz p1)) rfl rfl (fun b1=>ba [4,5] (by kernel_rfl) (bX (aj [(6,pN)] (by kernel_rfl) (cq (aj [(11,pL Zi.enc p0),(12,pI (p0.length:Int)),(13,pI 0)] (by kernel_rfl) (aN (cd 3 1 (aa h fun q12 hq12 h=>?_))))))))))
 refine am (Y:=(Option Addr×Nat)×((List Int))) (fun ((a8,c9),l10)=>[(6,pO a8 l10.length c9)]) (fun ((a8,c9),l10)=>[PRes.row a8 l10.length c9 3 1 (List.map eI l10)]) (fun ((a8,c9),l10)=>q12=Sum.inl l10) ?_ ?_
 ·refine az ?_
  refine aC (Y:=Option Addr×Nat) (S:=(List Int)×Int) _ hq12 (fun (a4,c5) (l3,v6)=>[(3,pP b1 0),(6,pO a4 l3.length c5),(11,pL Zi.enc p0),(12,pI (p0.length:Int)),(13,pI v6)]) (fun (a4,c5) (l3,v6)=>[PRes.b b1 36 (bz p1),PRes.row a4 l3.length c5 3 1 (List.map eI l3)]) (none,0) (mC rfl) (aZ (ar aJ) cE) ?_
  rintro ⟨a4,c5⟩ ⟨l3,v6⟩ o τ hb11;(try dsimp only at hb11);dsimp only [aw]
  refine ae (aj [(14,pB (decide (v6<(p0.length:Int))))] (by kernel_rfl) (bX (i4 rfl hb11 (fun hc14 hb11=>?_) fun hc14 hb11=>?_)))
  ·refine ah ?_
   refine du (aa hb11 fun m15 hm15 hb11=>an [] [15,16] [(8,Zi.pv m15)] (cJ 0 Zi.enc hm15 bh) (by kernel_rfl) (cO hb11 fun x16 hx16 hb11=>an [0] [18,19,20,17,21,22] [(9,pL eI x16.1),(10,pB x16.2)] (foci 2 (hrec hx16) bh) (by kernel_rfl) (cq (bI [23] [(24,pB (!x16.2))] (by kernel_rfl) rfl hb11 (fun hc17 hb11=>?_) fun hc17 hb11=>?_))))
   ·refine ae ?_
    refine aj [(4,pN),(5,pB false)] (by kernel_rfl) (aN (gg 4 rfl (bB (aq (dR ?_)))))
    refine aA hb11 (fun ht=>?_);subst ht
    refine cS ?_
    obtain rfl:=osi h
    exact aR (cH (aT rfl) (aT rfl)) bv ⟨rfl,rfl⟩
   refine ah ?_
   refine eZ hb11 fun l18 hl18 hb11=>af (aB 2 [(25,pO a4 l3.length c5),(26,pL eI x16.1)] (by kernel_rfl) ?_)
   refine al rfl (gh (enc:=eI) rfl rfl rfl rfl rfl (fun _=>rfl) rfl rfl rfl (by exact ar aJ) hl18 (fun a19 c20=>?_))
   refine aI [(6,pO a19 l18.length c20)] (by kernel_rfl) (dt (ai [28] [(13,pI (IntKind.i64.wrap (v6+1)))] (by kernel_rfl) ?_))
   exact aP hb11 (a19,c20) (mC rfl) (aZ (ar aJ) cE)
  refine aG ?_
  refine cb hb11 (fun ht=>ak rfl ?_)
  exact av ((a4,c5),l3) (qV rfl) (aZ (ar aJ) bv) ht.symm
 rintro ⟨⟨a8,c9⟩,l10⟩ τ hz;(try dsimp only at hz);subst q12;(try dsimp only at h);dsimp only [aw]
 refine ae (ai [29] [(4,pO a8 l10.length c9),(5,pB true)] (by kernel_rfl) (aN ?_))
 refine dB (enc:=eI) (xs:=l10) 4 rfl (by exact aJ) ?_
 refine bB ?_
 obtain rfl:=osi h
 exact aR (cH (aT rfl) (aT rfl)) bv ⟨rfl,rfl⟩
def gC (p1:Int):Option (List Int):=(Dc 8 p1).bind fun _=>some []
theorem ow {p1:Int} {r:(List Int)} (h:gC p1=some r):PCall 247 [.v (.slice none 0 0),pI p1] [] (fun pv ρ'=>∃ a c,pv=.v (.slice a r.length c)∧ρ'=[PRes.row a r.length c 3 1 (List.map eI r)]):=by
 unfold gC at h
 obtain ⟨u,hu,h⟩:=Option.bind_eq_some_iff.1 h
 obtain rfl:=osi h
 obtain ⟨hg0,hg1⟩:=E6 hu
 have ew:IntKind.i64.wrap (p1 - IntKind.i64.wrap (((0:Nat):Int) - ((0:Nat):Int)))=p1:=w7 hg0 hg1
 refine kX Tryz.func247 rfl Tryz.ntmps247 Tryz.results247 rfl ?_
 (repeat refine ae ?_)
 refine aS [4] (by kernel_rfl) (aN ?_)
 (repeat refine ae ?_)
 refine ai [5] [(6,pB (decide (p1<0)))] (by kernel_rfl) (aN ?_)
 refine iA rfl (fun hc=>absurd (of_decide_eq_true hc) (by omega)) (fun hc=>?_)
 refine ah (aN ?_)
 (repeat refine ae ?_)
 refine af (aB 2 [(8,pI p1),(9,.v (.slice none 0 0))] (by kernel_rfl) (bN rfl rfl rfl (uj rfl rfl (.p rfl)) (i9 [11,12,13,14] [(1,pI (IntKind.i64.wrap (p1 - IntKind.i64.wrap (((0:Nat):Int) - ((0:Nat):Int)))))] (by kernel_rfl) ?_)))
 rw [ew]
 refine aN ?_
 (repeat refine ae ?_)
 refine ai [15] [(16,pB (decide (0<p1)))] (by kernel_rfl) (aN ?_)
 refine iA rfl (fun hc=>?_) (fun hc=>?_)
 ·refine af ?_
  refine aB 2 [(17,.v (.slice none 0 0)),(18,.v (.slice none 0 0))] (by kernel_rfl) (bN rfl rfl rfl (uj rfl rfl (.p rfl)) (bN rfl rfl rfl (qq rfl rfl rfl (.p rfl) (.p rfl) rfl (Nat.zero_le _)) (aB 1 [(21,pI p1)] (by kernel_rfl) (uI 3 1 ?_))))
  refine al rfl (zP rfl rfl rfl rfl rfl rfl rfl rfl (of_decide_eq_true hc) hu (by exact aJ) (fun a c hac=>?_))
  refine aB 2 [(23,.v (.slice none 0 0)),(24,pI 0)] (by kernel_rfl) (bN rfl rfl rfl (qq (k:=0) rfl rfl rfl (.p rfl) (.p rfl) rfl (Nat.zero_le _)) (aI [(0,.v (.slice a 0 c))] (by kernel_rfl) (aN ?_)))
  (repeat refine ae ?_)
  refine ai [26] [(4,.v (.slice a 0 c))] (by kernel_rfl) (dj ?_)
  exact aR (dA (aT rfl)) cE ⟨_,_,rfl,rfl⟩
 refine ah ?_
 refine aN ?_
 (repeat refine ae ?_)
 refine ai [26] [(4,.v (.slice none 0 0))] (by kernel_rfl) (aN (cd 3 1 (bB ?_)))
 exact aR (dA (aT rfl)) cE ⟨_,_,rfl,rfl⟩
def dz (p0:(List (List Int))):Option (List Int):=(aW (S:=Int×Int) (T:=(Int)) (fun (v1,v2)=>cond (decide (v2<(p0.length:Int))) ((idx p0 v2).bind fun m7=>cond (decide ((IntKind.i64.wrap (v1+(m7.length:Int)))<0)) (none) (some (.inl ((IntKind.i64.wrap (v1+(m7.length:Int))),(IntKind.i64.wrap (v2+1)))))) (some (.inr v1))) FUEL (0,0)).bind fun v3=>(gC v3).bind fun x9=>(aW (S:=(List Int)×Int) (T:=((List Int))) (fun (l14,v17)=>cond (decide (v17<(p0.length:Int))) ((idx p0 v17).bind fun m25=>(app 8 l14 m25).bind fun l26=>some (.inl (l26,(IntKind.i64.wrap (v17+1))))) (some (.inr l14))) FUEL (x9,0)).bind fun l21=>some l21
theorem nv {p0:(List (List Int))} {r:(List Int)}  (h:dz p0=some r):PCall 246 [pL (eL eI) p0] [] (fun pv ρ'=>∃ a c,pv=.v (.slice a r.length c)∧ρ'=[PRes.row a r.length c 3 1 (List.map eI r)]):=by
 unfold dz at h
 refine dm Tryz.func246 rfl Tryz.ntmps246 Tryz.results246 rfl (aS [2] (by kernel_rfl) (bX (aj [(3,pI 0)] (by kernel_rfl) (cq (aj [(9,pL (eL eI) p0),(10,pI (p0.length:Int)),(11,pI 0)] (by kernel_rfl) (eZ h fun q5 hq5 h=>?_))))))
 refine am (Y:=Unit×Int) (fun (_,v3)=>[(0,pL (eL eI) p0),(3,pI v3)]) (fun (_,v3)=>[]) (fun (_,v3)=>q5=v3) ?_ ?_
 ·refine az ?_
  refine aC (Y:=Unit) (S:=Int×Int) _ hq5 (fun _ (v1,v2)=>[(0,pL (eL eI) p0),(3,pI v1),(9,pL (eL eI) p0),(10,pI (p0.length:Int)),(11,pI v2)]) (fun _ (v1,v2)=>[]) () (mC rfl) bv ?_
  rintro _ ⟨v1,v2⟩ o τ hb4;(try dsimp only at hb4);dsimp only [aw]
  refine ae (aj [(12,pB (decide (v2<(p0.length:Int))))] (by kernel_rfl) (bX (i4 rfl hb4 (fun hc6 hb4=>?_) fun hc6 hb4=>?_)))
  ·refine ah ?_
   refine du (aa hb4 fun m7 hm7 hb4=>an [] [13,14] [(5,pL eI m7)] (cJ 0 (eL eI) hm7 bh) (by kernel_rfl) (bX (ai [15,16,17,18] [(3,pI (IntKind.i64.wrap (v1+(m7.length:Int))))] (by kernel_rfl) (bX (bI [19] [(20,pB (decide ((IntKind.i64.wrap (v1+(m7.length:Int)))<0)))] (by kernel_rfl) rfl hb4 (fun hc8 hb4=>?_) fun hc8 hb4=>?_)))))
   ·refine af ?_
    exact absurd hb4 (by simp)
   refine ah ?_
   refine dt (ai [22] [(11,pI (IntKind.i64.wrap (v2+1)))] (by kernel_rfl) ?_)
   exact aP hb4 () (mC rfl) bv
  refine aG ?_
  refine cb hb4 (fun ht=>ak rfl ?_)
  exact av ((),v1) (lL rfl) bv ht.symm
 rintro ⟨_,v3⟩ τ hz;(try dsimp only at hz);subst q5;(try dsimp only at h);dsimp only [aw]
 refine ae (aa h fun x9 hx9 h=>af (aB 1 [(23,pI v3)] (by kernel_rfl) ?_))
 refine al rfl (bf rfl rfl (ρ1:=[]) (List.Perm.refl _) (ow hx9) ?_);rintro _ _ ⟨a10,c11,rfl,rfl⟩
 refine aI [(6,pO a10 x9.length c11)] (by kernel_rfl) (cq (aj [(25,pL (eL eI) p0),(26,pI (p0.length:Int)),(27,pI 0)] (by kernel_rfl) (eZ h fun q23 hq23 h=>?_)))
 refine am (Y:=(Option Addr×Nat)×((List Int))) (fun ((a19,c20),l21)=>[(6,pO a19 l21.length c20)]) (fun ((a19,c20),l21)=>[PRes.row a19 l21.length c20 3 1 (List.map eI l21)]) (fun ((a19,c20),l21)=>q23=l21) ?_ ?_
 ·refine az ?_
  refine aC (Y:=Option Addr×Nat) (S:=(List Int)×Int) _ hq23 (fun (a15,c16) (l14,v17)=>[(6,pO a15 l14.length c16),(25,pL (eL eI) p0),(26,pI (p0.length:Int)),(27,pI v17)]) (fun (a15,c16) (l14,v17)=>[PRes.row a15 l14.length c16 3 1 (List.map eI l14)]) (a10,c11) (hY rfl) cE ?_
  rintro ⟨a15,c16⟩ ⟨l14,v17⟩ o τ hb22;(try dsimp only at hb22);dsimp only [aw]
  refine ae (aj [(28,pB (decide (v17<(p0.length:Int))))] (by kernel_rfl) (bX (i4 rfl hb22 (fun hc24 hb22=>?_) fun hc24 hb22=>?_)))
  ·refine ah ?_
   refine du (aa hb22 fun m25 hm25 hb22=>an [] [29,30] [(8,pL eI m25)] (cJ 0 (eL eI) hm25 bh) (by kernel_rfl) (eZ hb22 fun l26 hl26 hb22=>af (aB 2 [(31,pO a15 l14.length c16),(32,pL eI m25)] (by kernel_rfl) ?_)))
   refine al rfl (gh (enc:=eI) rfl rfl rfl rfl rfl (fun _=>rfl) rfl rfl rfl (by exact aJ) hl26 (fun a27 c28=>?_))
   refine aI [(6,pO a27 l26.length c28)] (by kernel_rfl) (dt (ai [34] [(27,pI (IntKind.i64.wrap (v17+1)))] (by kernel_rfl) ?_))
   exact aP hb22 (a27,c28) (hY rfl) cE
  refine aG ?_
  refine cb hb22 (fun ht=>ak rfl ?_)
  exact av ((a15,c16),l14) (qV rfl) cE ht.symm
 rintro ⟨⟨a19,c20⟩,l21⟩ τ hz;(try dsimp only at hz);subst q23;(try dsimp only at h);dsimp only [aw]
 refine ae (ai [35] [(2,pO a19 l21.length c20)] (by kernel_rfl) (dj ?_))
 obtain rfl:=osi h
 exact aR (dA (aT rfl)) cE ⟨_,_,rfl,rfl⟩
def fm (rec:Zi→Zn→Option ((List Int)×Bool)) (p0:(List Zi)) (p1:Zn):Option ((List Int)×Bool):=(aW (S:=Int) (T:=(Unit)⊕(_)) (fun v2=>cond (decide (v2<(p0.length:Int))) ((idx p0 v2).bind fun m6=>(rec m6 p1).bind fun x7=>cond x7.2 ((dz [[v2],x7.1]).bind fun x13=>some (.inr (.inr (x13,true)))) (some (.inl (IntKind.i64.wrap (v2+1))))) (some (.inr (.inl ())))) FUEL 0).bind fun q=>match q with | .inl _=>some ([],false) | .inr e=>some e
theorem ox {rec:Zi→Zn→Option ((List Int)×Bool)} (hrec:∀ {x:Zi} {y0:Zn} {w:((List Int)×Bool)},rec x y0=some w→PFI x.pv "customs/rule.witness" [.agg (bz y0)] (.tup [pL eI w.1,pB w.2])) {p0:(List Zi)} {p1:Zn} {r:((List Int)×Bool)} (h:fm rec p0 p1=some r):PF 245 [pL Zi.enc p0,.agg (bz p1)] (.tup [pL eI r.1,pB r.2]):=by
 unfold fm at h
 refine bd ?_
 refine dm Tryz.func245 rfl Tryz.ntmps245 Tryz.results245 rfl (cU rfl (bg (cs:=(bz p1)) rfl rfl (fun b1=>ba [4,5] (by kernel_rfl) (cq (aj [(10,pL Zi.enc p0),(11,pI (p0.length:Int)),(12,pI 0)] (by kernel_rfl) (eZ h fun q4 hq4 h=>?_))))))
 refine am (Y:=Unit×Unit) (fun (_,_)=>[]) (fun (_,_)=>[]) (fun (_,_)=>q4=Sum.inl ()) ?_ ?_
 ·refine az ?_
  refine aC (Y:=Unit) (S:=Int) _ hq4 (fun _ v2=>[(3,pP b1 0),(10,pL Zi.enc p0),(11,pI (p0.length:Int)),(12,pI v2)]) (fun _ v2=>[PRes.b b1 36 (bz p1)]) () (hY rfl) cE ?_
  rintro _ v2 o τ hb3;(try dsimp only at hb3);dsimp only [aw]
  refine ae (aj [(13,pB (decide (v2<(p0.length:Int))))] (by kernel_rfl) (bX (i4 rfl hb3 (fun hc5 hb3=>?_) fun hc5 hb3=>?_)))
  ·refine ah ?_
   refine du (aa hb3 fun m6 hm6 hb3=>an [] [14,15,16] [(6,pI v2),(7,Zi.pv m6)] (cJ 1 Zi.enc hm6 bh) (by kernel_rfl) (cO hb3 fun x7 hx7 hb3=>an [0] [18,19,20,17,21,22] [(8,pL eI x7.1),(9,pB x7.2)] (foci 2 (hrec hx7) bh) (by kernel_rfl) (bX (aj [(23,pB x7.2)] (by kernel_rfl) (cR rfl hb3 (fun hc8 hb3=>?_) fun hc8 hb3=>?_)))))
   ·refine ae ?_
    refine af (aB 1 [(24,pI v2)] (by kernel_rfl) (al rfl (bA rfl rfl rfl rfl rfl (fU rfl iX) rfl rfl rfl rfl (fun b9=>aB 1 [(26,pL eI x7.1)] (by kernel_rfl) ?_))))
    refine gf (enc:=eI) (xs:=[v2]) 25 rfl (by exact aJ) ?_
    refine al rfl (bA rfl rfl rfl rfl rfl (fU rfl (fU rfl iX)) rfl rfl rfl rfl (fun b11=>?_))
    refine gf (enc:=(eL eI)) (xs:=[[v2],x7.1]) 27 rfl (by exact aJ) ?_
    refine aa hb3 fun x13 hx13 hb3=>?_
    refine al rfl (bf rfl rfl (ρ1:=[]) (List.Perm.refl _) (nv hx13) ?_);rintro _ _ ⟨a14,c15,rfl,rfl⟩
    refine aI [(4,pO a14 x13.length c15),(5,pB true)] (by kernel_rfl) (aN ?_)
    refine dB (enc:=eI) (xs:=x13) 4 rfl (by exact aJ) ?_
    refine bB (dR ?_)
    refine aA hb3 (fun ht=>?_);subst ht
    refine cS ?_
    obtain rfl:=osi h
    exact aR (cH (aT rfl) (aT rfl)) bv ⟨rfl,rfl⟩
   refine ah ?_
   refine dt (ai [29] [(12,pI (IntKind.i64.wrap (v2+1)))] (by kernel_rfl) ?_)
   exact aP hb3 () (hY rfl) cE
  refine aG ?_
  refine cb hb3 (fun ht=>ak rfl ?_)
  exact av ((),()) nG bv ht.symm
 rintro ⟨_,_⟩ τ hz;(try dsimp only at hz);subst q4;(try dsimp only at h);dsimp only [aw]
 refine ae (aj [(4,pN),(5,pB false)] (by kernel_rfl) (aN (gg 4 rfl (bB ?_))))
 obtain rfl:=osi h
 exact aR (cH (aT rfl) (aT rfl)) bv ⟨rfl,rfl⟩
end SX
end Go.Proofs.YtgmbmepakpcpaaaGreatDoor
