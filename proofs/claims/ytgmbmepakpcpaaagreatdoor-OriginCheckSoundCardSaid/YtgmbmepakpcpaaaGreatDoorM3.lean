/- A part of the proof: texts of the walk and of the plain laws, merged. No condition. -/
import Derived.Test.YtgmbmepakpcpaaaGreatDoorM2
set_option linter.unusedVariables false
set_option linter.unusedSimpArgs false
set_option maxHeartbeats 4000000
set_option maxRecDepth 100000
namespace Go.Proofs.YtgmbmepakpcpaaaGreatDoor
namespace SX
open Go
attribute [local irreducible] PWL PWC PWD POpL POpQ PEv PGuardIs PSub PPick PUpd PSplice PFill PLit PF PFV PCall FOk gi fb mz nJ jv lN Cov PHolds aO idx app mk gd lb nz ln DP sub jW dZ qQ vN fZ cK pz vP IntKind.wrap Int.tmod Int.tdiv Op.bytesLess strOfNums
def dC (p0:Zb) (p1:ByteArray) (p2:ByteArray):Option Bool:=(bO p0.Parties p1).bind fun x2=>(gd x2 (bO p0.Parties p2)).bind fun x3=>some (x2&&x3)
theorem jf {p0:Zb} {p1:ByteArray} {p2:ByteArray} {r:Bool}  (h:dC p0 p1 p2=some r):PF 88 [.agg (aR p0),pS p1,pS p2] (pB r):=by
 unfold dC at h
 refine bt ?_
 refine eQ Tryz.func88 rfl Tryz.ntmps88 Tryz.results88 rfl (aa (aj rfl (br (cs:=(aR p0)) rfl rfl (fun b1=>bm [6] (by kernel_rfl) (dQ h fun x2 hx2 h=>ae h fun x3 hx3 h=>aq [0,0] (rg 7 10) [(6,pB (x2&&x3))] (bJ 3 (de hx2) (iY 8 (fun hc=>de (gJ hx3 hc)) bG)) (by kernel_rfl) (dX ?_))))))
 exact zz r h rfl
def fQ (p0:ByteArray) (p1:ByteArray):Option Bool:=(gd (decide ((p1.size:Int)≤(p0.size:Int))) (jW p0 0 (p1.size:Int))).bind fun s1=>some ((decide ((p1.size:Int)≤(p0.size:Int)))&&(decide (s1=p1)))
theorem nj {p0:ByteArray} {p1:ByteArray} {r:Bool}  (h:fQ p0 p1=some r):PF 164 [pS p0,pS p1] (pB r):=by
 unfold fQ at h
 refine bt ?_
 refine eQ Tryz.func164 rfl Tryz.ntmps164 Tryz.results164 rfl (be [4] (by kernel_rfl) (dQ h fun s1 hs1 h=>aq [] (rg 5 13) [(4,pB ((decide ((p1.size:Int)≤(p0.size:Int)))&&(decide (s1=p1))))] (fossg 9 (gJ hs1) bG) (by kernel_rfl) (dX ?_)))
 exact zz r h rfl
def dz (p0:ByteArray) (p1:ByteArray):Option Bool:=(fQ p0 p1).bind fun x1=>some x1
theorem iB {p0:ByteArray} {p1:ByteArray} {r:Bool}  (h:dz p0 p1=some r):PF 129 [pS p0,pS p1] (pB r):=by
 unfold dz at h
 refine bt ?_
 refine eQ Tryz.func129 rfl Tryz.ntmps129 Tryz.results129 rfl (be [4] (by kernel_rfl) (dQ h fun x1 hx1 h=>aq [] [5,6,7] [(4,pB x1)] (bJ 2 (nj hx1) bG) (by kernel_rfl) (dX ?_)))
 exact zz r h rfl
def j5 (rec:Zf→Int→Option Int) (p0:Zf) (p1:Int):Option Int:=(aO (S:=Int×Int) (T:=(Int)⊕(_)) (fun (v2,v3)=>cond (decide (v3<(p0.Args.length:Int))) ((idx p0.Args v3).bind fun m8=>cond (decide (p1≤v2)) (some (.inr (.inr p1))) ((rec m8 (IntKind.i64.wrap (p1 - v2))).bind fun x11=>some (.inl ((IntKind.i64.wrap (v2+x11)),(IntKind.i64.wrap (v3+1)))))) (some (.inr (.inl v2)))) FUEL (1,0)).bind fun q=>match q with | .inl v4=>some v4 | .inr e=>some e
theorem tH {rec:Zf→Int→Option Int} (hrec:∀ {p0:Zf} {p1:Int} {r:Int},rec p0 p1=some r→PF 165 [.agg (aT p0),pI p1] (pI r)) {p0:Zf} {p1:Int} {r:Int} (h:j5 rec p0 p1=some r):PF 165 [.agg (aT p0),pI p1] (pI r):=by
 unfold j5 at h
 refine bt ?_
 refine eQ Tryz.func165 rfl Tryz.ntmps165 Tryz.results165 rfl (aa (aj rfl (br (cs:=(aT p0)) rfl rfl (fun b1=>bm [4] (by kernel_rfl) (bQ (al [(5,pI 1)] (by kernel_rfl) (dr (bk [0] [8] [(9,pL Zf.enc p0.Args),(10,pI (p0.Args.length:Int)),(11,pI 0)] (by kernel_rfl) (jo h fun q6 hq6 h=>?_)))))))))
 refine aA (Y:=Unit×Int) (fun (_,v4)=>[(5,pI v4)]) (fun (_,v4)=>[]) (fun (_,v4)=>q6=Sum.inl v4) ?_ ?_
 ·refine aI ?_
  refine aM (Y:=Unit) (S:=Int×Int) _ hq6 (fun _ (v2,v3)=>[(1,pI p1),(5,pI v2),(9,pL Zf.enc p0.Args),(10,pI (p0.Args.length:Int)),(11,pI v3)]) (fun _ (v2,v3)=>[]) () (ow rfl) ce ?_
  rintro _ ⟨v2,v3⟩ o τ hb5;(try dsimp only at hb5);dsimp only [aG]
  refine af (al [(12,pB (decide (v3<(p0.Args.length:Int))))] (by kernel_rfl) (bQ (kx rfl hb5 (fun hc7 hb5=>?_) fun hc7 hb5=>?_)))
  ·refine ai ?_
   refine bQ (iA (ae hb5 fun m8 hm8 hb5=>aa (bi 2 [] [13] [(14,.agg (aT m8))] (wB 0 Zf.enc (Zf.enc_eq _) hm8 bG) (by kernel_rfl) (aj rfl (aV (cs:=[pI 0,pI 0,pN,pI 0,pI 0,pS ByteArray.empty,pN]) rfl rfl rfl rfl (fun b9=>ba rfl rfl (am (vs:=(aT m8)) rfl rfl rfl rfl rfl cP qC (aw (dr (ah [15,16] [(17,pB (decide (p1≤v2)))] (by kernel_rfl) (cE rfl hb5 (fun hc10 hb5=>?_) fun hc10 hb5=>?_)))))))))))
   ·refine af ?_
    refine ah [18] [(4,pI p1)] (by kernel_rfl) (dX (ap (iZ ?_)))
    refine aX hb5 (fun ht=>?_);subst ht
    refine az (aU ?_)
    exact zz r h rfl
   refine ai ?_
   refine jo hb5 fun x11 hx11 hb5=>aq [0] (rg 19 7) [(5,pI (IntKind.i64.wrap (v2+x11)))] (bJ 5 (hrec hx11) bG) (by kernel_rfl) (fU (ah [26] [(11,pI (IntKind.i64.wrap (v3+1)))] (by kernel_rfl) ?_))
   exact bj hb5 () (ow rfl) ce
  refine aW ?_
  refine av (an hb5 (fun ht=>ar rfl ?_))
  exact aF ((),v2) (wz rfl) ce ht.symm
 rintro ⟨_,v4⟩ τ hz;(try dsimp only at hz);subst q6;(try dsimp only at h);dsimp only [aG]
 refine af (ah [27] [(4,pI v4)] (by kernel_rfl) (dX ?_))
 exact zz r h rfl
def lV (n:Nat):Zf→Int→Option Int:=Nat.rec (motive:=fun _=>Zf→Int→Option Int) (fun _ _=>none) (fun _ ih=>j5 ih) n
def rq (p0:Zf) (p1:Int):Option Int:=lV FUEL p0 p1
theorem uU (n:Nat):∀ {p0:Zf} {p1:Int} {r:Int},lV n p0 p1=some r→PF 165 [.agg (aT p0),pI p1] (pI r):=by
 induction n with
 | zero=>intros;rename_i h;exact nomatch h
 | succ n ih=>intros;rename_i h;exact tH (fun hr=>ih hr) h
theorem vV {p0:Zf} {p1:Int} {r:Int} (h:rq p0 p1=some r):PF 165 [.agg (aT p0),pI p1] (pI r):=uU FUEL h
def mG (p0:Zf):Option Bool:=cond ((!(p0.Kind == 2))&&(((p0.Digits != 0)||(decide (0<(p0.Except.length:Int))))||(p0.Tolerance != 0))) (some false) (cond ((p0.Kind != 3)&&(p0.Limit != 0)) (some false) (cond ((p0.Kind != 4)&&(!decide (p0.Name=(⟨#[]⟩:ByteArray)))) (some false) (some (((p0.Kind == 5)||(p0.Kind == 6))||((p0.Args.length:Int) == 0)))))
theorem vW {p0:Zf} {r:Bool}  (h:mG p0=some r):PF 188 [.agg (aT p0)] (pB r):=by
 unfold mG at h
 refine bt ?_
 refine eQ Tryz.func188 rfl Tryz.ntmps188 Tryz.results188 rfl (aa (aj rfl (br (cs:=(aT p0)) rfl rfl (fun b1=>bm [2] (by kernel_rfl) (bQ (bk [0] [5,6,7] [(3,pB (p0.Kind == 2))] (by kernel_rfl) (bQ (bk [0,0] (rg 8 8) [(4,pB ((p0.Kind == 5)||(p0.Kind == 6)))] (by kernel_rfl) (bQ (iA (bk [0,0,0] (rg 17 18) [(16,pB ((!(p0.Kind == 2))&&(((p0.Digits != 0)||(decide (0<(p0.Except.length:Int))))||(p0.Tolerance != 0))))] (by kernel_rfl) (cE rfl h (fun hc2 h=>?_) fun hc2 h=>?_))))))))))))
 ·refine af ?_
  refine fT [(2,pB false)] (by kernel_rfl) (iZ ?_)
  exact zz r h rfl
 refine af ?_
 refine bk [0,0] (rg 36 8) [(35,pB ((p0.Kind != 3)&&(p0.Limit != 0)))] (by kernel_rfl) (cE rfl h (fun hc3 h=>?_) fun hc3 h=>?_)
 ·refine af ?_
  refine fT [(2,pB false)] (by kernel_rfl) (iZ ?_)
  exact zz r h rfl
 refine af ?_
 refine bk [0,0] (rg 45 8) [(44,pB ((p0.Kind != 4)&&(!decide (p0.Name=(⟨#[]⟩:ByteArray)))))] (by kernel_rfl) (cE rfl h (fun hc4 h=>?_) fun hc4 h=>?_)
 ·refine af ?_
  refine fT [(2,pB false)] (by kernel_rfl) (iZ ?_)
  exact zz r h rfl
 refine ai ?_
 refine aH (bQ (bk [0] (rg 53 7) [(2,pB (((p0.Kind == 5)||(p0.Kind == 6))||((p0.Args.length:Int) == 0)))] (by kernel_rfl) (dX ?_)))
 exact zz r h rfl
def jq (p0:Int):Option Bool:=some ((decide (0≤p0))&&(decide (p0≤1000000)))
theorem mH {p0:Int} {r:Bool}  (h:jq p0=some r):PF 190 [pI p0] (pB r):=by
 unfold jq at h
 refine bt ?_
 refine eQ Tryz.func190 rfl Tryz.ntmps190 Tryz.results190 rfl (be [2] (by kernel_rfl) (bQ (ah (rg 3 6) [(2,pB ((decide (0≤p0))&&(decide (p0≤1000000))))] (by kernel_rfl) (dX ?_))))
 exact zz r h rfl
def ee (rec:Zf→Option Zf) (p0:Zf):Option Zf:=(bZ p0.Except).bind fun x3=>(De 96 (p0.Args.length:Int)).bind fun u7=>(aO (S:=(List Zf)×Int) (T:=((List Zf))) (fun (l11,v14)=>cond (decide (v14<(p0.Args.length:Int))) ((idx p0.Args v14).bind fun m23=>(rec m23).bind fun x25=>(app 96 l11 [x25]).bind fun l28=>some (.inl (l28,(IntKind.i64.wrap (v14+1))))) (some (.inr l11))) FUEL (([]:List Zf),0)).bind fun l18=>some (⟨p0.Kind,p0.Digits,x3,p0.Tolerance,p0.Limit,p0.Name,l18⟩:Zf)
theorem mR {rec:Zf→Option Zf} (hrec:∀ {p0:Zf} {r:Zf},rec p0=some r→PF 131 [.agg (aT p0)] (.agg (aT r))) {p0:Zf} {r:Zf} (h:ee rec p0=some r):PF 131 [.agg (aT p0)] (.agg (aT r)):=by
 unfold ee at h
 refine bt ?_
 refine eQ Tryz.func131 rfl Tryz.ntmps131 Tryz.results131 rfl (aa (aj rfl (br (cs:=(aT p0)) rfl rfl (fun b1=>aj rfl (aV (cs:=[pI 0,pI 0,pN,pI 0,pI 0,pS ByteArray.empty,pN]) rfl rfl rfl rfl (fun b2=>aw (dQ h fun x3 hx3 h=>aa (cw 2 [1] [6] [(7,pL eS p0.Except)] (by kernel_rfl) ?_))))))))
 refine aj rfl (bf rfl rfl (ρ1:=[]) (List.Perm.refl _) (eY hx3) ?_);rintro _ _ ⟨a4,c5,rfl,rfl⟩
 refine au 1 [(9,pP b1 2)] (by kernel_rfl) (ba rfl rfl (am (vs:=[pO a4 x3.length c5]) rfl rfl rfl rfl rfl (dl (dl cP)) (dK (dK mP)) (aw (dQ h fun u7 hu7 h=>aa (cw 3 [2] [10,11] [(12,pI (p0.Args.length:Int))] (by kernel_rfl) (aj rfl (E7 rfl rfl rfl rfl rfl rfl rfl hu7 (fun b8=>aS [(3,pO (some ⟨b8,0,none⟩) 0 ((p0.Args.length:Int).toNat))] (by kernel_rfl) (dr (bk [3] [14] [(15,pL Zf.enc p0.Args),(16,pI (p0.Args.length:Int)),(17,pI 0)] (by kernel_rfl) (jo h fun q21 hq21 h=>?_)))))))))))
 refine aA (Y:=(Option Addr×Nat)×((List Zf))) (fun ((a16,c17),l18)=>[(1,pP b1 0),(2,pP b2 0),(3,pO a16 l18.length c17)]) (fun ((a16,c17),l18)=>[PRes.b b1 84 [pI p0.Kind,pI p0.Digits,pO a4 x3.length c5,pI p0.Tolerance,pI p0.Limit,pS p0.Name,pL Zf.enc p0.Args],PRes.b b2 84 [pI 0,pI 0,pN,pI 0,pI 0,pS ByteArray.empty,pN],PRes.row a16 l18.length c17 84 7 (List.map Zf.enc l18),PRes.row a4 x3.length c5 9 1 (List.map eS x3)]) (fun ((a16,c17),l18)=>q21=l18) ?_ ?_
 ·refine aI ?_
  refine aM (Y:=Option Addr×Nat) (S:=(List Zf)×Int) _ hq21 (fun (a12,c13) (l11,v14)=>[(1,pP b1 0),(2,pP b2 0),(3,pO a12 l11.length c13),(15,pL Zf.enc p0.Args),(16,pI (p0.Args.length:Int)),(17,pI v14)]) (fun (a12,c13) (l11,v14)=>[PRes.b b1 84 [pI p0.Kind,pI p0.Digits,pO a4 x3.length c5,pI p0.Tolerance,pI p0.Limit,pS p0.Name,pL Zf.enc p0.Args],PRes.b b2 84 [pI 0,pI 0,pN,pI 0,pI 0,pS ByteArray.empty,pN],PRes.row a12 l11.length c13 84 7 (List.map Zf.enc l11),PRes.row a4 x3.length c5 9 1 (List.map eS x3)]) ((some ⟨b8,0,none⟩),(p0.Args.length:Int).toNat) (xJ rfl) (bh (ak (ak (ak aD))) (bh (ak (ak aD)) qV)) ?_
  rintro ⟨a12,c13⟩ ⟨l11,v14⟩ o τ hb20;(try dsimp only at hb20);dsimp only [aG]
  refine af (al [(18,pB (decide (v14<(p0.Args.length:Int))))] (by kernel_rfl) (bQ (kx rfl hb20 (fun hc22 hb20=>?_) fun hc22 hb20=>?_)))
  ·refine ai ?_
   refine bQ (iA (ae hb20 fun m23 hm23 hb20=>aa (bi 2 [] [19] [(20,.agg (aT m23))] (wB 0 Zf.enc (Zf.enc_eq _) hm23 bG) (by kernel_rfl) (aj rfl (aV (cs:=[pI 0,pI 0,pN,pI 0,pI 0,pS ByteArray.empty,pN]) rfl rfl rfl rfl (fun b24=>ba rfl rfl (am (vs:=(aT m23)) rfl rfl rfl rfl rfl cP qC (aw (jo hb20 fun x25 hx25 hb20=>aa (bi 3 [0] [22] [(21,pO a12 l11.length c13),(23,.agg (aT x25))] (bJ 2 (hrec hx25) bG) (by kernel_rfl) ?_))))))))))
   refine aj rfl (bD (css:=List.map Zf.enc [x25]) rfl rfl rfl rfl rfl (by (simp only [List.map_cons,List.map_nil,Zf.enc_eq];(repeat (first | exact ja | apply f0 rfl)))) rfl (by (simp only [List.map_cons,List.map_nil,Zf.enc_eq];rfl)) rfl rfl (fun b26=>?_))
   refine ae hb20 fun l28 hl28 hb20=>?_
   refine aj rfl (bT (enc:=Zf.enc) rfl rfl rfl rfl rfl rfl rfl rfl rfl e8 (by exact ak (ak (ak (ak aD)))) hl28 (fun a29 c30=>?_))
   refine aS [(3,pO a29 l28.length c30)] (by kernel_rfl) (fU (ah [26] [(17,pI (IntKind.i64.wrap (v14+1)))] (by kernel_rfl) ?_))
   exact bj hb20 (a29,c30) (xJ rfl) (bh (ak (ak (ak aD))) (bh (ak (ak (ak aD))) (bh aD (bh (ak (ak aD)) ce))))
  refine aW ?_
  refine av (an hb20 (fun ht=>ar rfl ?_))
  exact aF ((a12,c13),l11) (qW rfl) F6 ht.symm
 rintro ⟨⟨a16,c17⟩,l18⟩ τ hz;(try dsimp only at hz);subst q21;(try dsimp only at h);dsimp only [aG]
 refine af (aa (au 2 [(27,pO a16 l18.length c17),(28,pP b1 6)] (by kernel_rfl) (ba rfl rfl (am (vs:=[pO a16 l18.length c17]) rfl rfl rfl rfl rfl cP (dK (dK (dK (dK (dK (dK mP)))))) (aw (bQ (aa ?_)))))))
 refine mX (css:=List.map eS x3) (a:=a4) (by exact ak (ak (ak aD))) ?_
 refine kH (k:=2) (enc:=eS) (xs:=x3) (b:=b1) (a:=a4) rfl e8 (dl cP) ?_
 refine mX (css:=List.map Zf.enc l18) (a:=a16) (by exact ak (ak (ak aD))) ?_
 refine kH (k:=6) (enc:=Zf.enc) (xs:=l18) (b:=b1) (a:=a16) rfl e8 (dl (dl cP)) (gn 1 [2] [(29,.agg [pI p0.Kind,pI p0.Digits,pL eS x3,pI p0.Tolerance,pI p0.Limit,pS p0.Name,pL Zf.enc l18])] (by kernel_rfl) (ba rfl rfl (am (vs:=[pI p0.Kind,pI p0.Digits,pL eS x3,pI p0.Tolerance,pI p0.Limit,pS p0.Name,pL Zf.enc l18]) rfl rfl rfl rfl rfl (dl (dl (dl cP))) qC (aw (dX ?_)))))
 obtain rfl:=osi h
 exact aL (cT (gA rfl DQ rfl)) ce ⟨rfl,rfl⟩
def fx (n:Nat):Zf→Option Zf:=Nat.rec (motive:=fun _=>Zf→Option Zf) (fun _=>none) (fun _ ih=>ee ih) n
def iC (p0:Zf):Option Zf:=fx FUEL p0
theorem nk (n:Nat):∀ {p0:Zf} {r:Zf},fx n p0=some r→PF 131 [.agg (aT p0)] (.agg (aT r)):=by
 induction n with
 | zero=>intros;rename_i h;exact nomatch h
 | succ n ih=>intros;rename_i h;exact mR (fun hr=>ih hr) h
theorem nO {p0:Zf} {r:Zf} (h:iC p0=some r):PF 131 [.agg (aT p0)] (.agg (aT r)):=nk FUEL h
def bo (p0:(List Zi)) (p1:(List Zi)) (p2:(Zi→Zi→Option Bool)):Option Bool:=cond ((p0.length:Int) != (p1.length:Int)) (some false) ((aO (S:=Int) (T:=(Unit)⊕(_)) (fun v2=>cond (decide (v2<(p0.length:Int))) ((idx p0 v2).bind fun m6=>(idx p1 v2).bind fun m8=>(p2 m6 m8).bind fun x10=>cond (!x10) (some (.inr (.inr false))) (some (.inl (IntKind.i64.wrap (v2+1))))) (some (.inr (.inl ())))) FUEL 0).bind fun q=>match q with | .inl _=>some true | .inr e=>some e)
theorem dM {p0:(List Zi)} {p1:(List Zi)} {p2:(Zi→Zi→Option Bool)} {r:Bool} {g2:PV} (hg2:∀ {y0:Zi} {y1:Zi} {w:Bool},p2 y0 y1=some w→PFV g2 [.agg (ed y0),.agg (ed y1)] (pB w)) (h:bo p0 p1 p2=some r):PF 134 [pL Zi.enc p0,pL Zi.enc p1,g2] (pB r):=by
 unfold bo at h
 refine bt ?_
 refine eQ Tryz.func134 rfl Tryz.ntmps134 Tryz.results134 rfl (be [6] (by kernel_rfl) (dr (ah [10,11,12,13] [(14,pB ((p0.length:Int) != (p1.length:Int)))] (by kernel_rfl) (cE rfl h (fun hc1 h=>?_) fun hc1 h=>?_))))
 ·refine af ?_
  refine fT [(6,pB false)] (by kernel_rfl) (ap ?_)
  exact zz r h rfl
 refine ai ?_
 refine dr (al [(15,pL Zi.enc p0),(16,pI (p0.length:Int)),(17,pI 0)] (by kernel_rfl) (jo h fun q4 hq4 h=>?_))
 refine aA (Y:=Unit×Unit) (fun (_,_)=>[]) (fun (_,_)=>[]) (fun (_,_)=>q4=Sum.inl ()) ?_ ?_
 ·refine aI ?_
  refine aM (Y:=Unit) (S:=Int) _ hq4 (fun _ v2=>[(1,pL Zi.enc p1),(2,g2),(15,pL Zi.enc p0),(16,pI (p0.length:Int)),(17,pI v2)]) (fun _ v2=>[]) () (ow rfl) ce ?_
  rintro _ v2 o τ hb3;(try dsimp only at hb3);dsimp only [aG]
  refine af (al [(18,pB (decide (v2<(p0.length:Int))))] (by kernel_rfl) (bQ (kx rfl hb3 (fun hc5 hb3=>?_) fun hc5 hb3=>?_)))
  ·refine ai ?_
   refine bQ (iA (ae hb3 fun m6 hm6 hb3=>aa (bi 3 [] [20] [(19,pI v2),(21,.agg (ed m6))] (eU 1 Zi.enc hm6 bG) (by kernel_rfl) (aj rfl (aV (cs:=[pS ByteArray.empty,pI 0,pI 0,pN,pI 0,pI 0,pS ByteArray.empty,pN]) rfl rfl rfl rfl (fun b7=>au 1 [(7,pI v2)] (by kernel_rfl) (ba rfl rfl (am (vs:=(ed m6)) rfl rfl rfl rfl rfl cP zl8 (aw (dQ hb3 fun m8 hm8 hb3=>aa (bi 4 [] [22,23,24] [(25,.agg (ed m8))] (eU 2 Zi.enc hm8 bG) (by kernel_rfl) (aj rfl (aV (cs:=[pS ByteArray.empty,pI 0,pI 0,pN,pI 0,pI 0,pS ByteArray.empty,pN]) rfl rfl rfl rfl (fun b9=>ba rfl rfl (am (vs:=(ed m8)) rfl rfl rfl rfl rfl cP zl8 (aw (dQ hb3 fun x10 hx10 hb3=>aq [1,0] [26,27,28,29] [(30,pB (!x10))] (AV 3 (hg2 hx10) bG) (by kernel_rfl) (cE rfl hb3 (fun hc11 hb3=>?_) fun hc11 hb3=>?_))))))))))))))))))
   ·refine af ?_
    refine fT [(6,pB false)] (by kernel_rfl) (iZ ?_)
    refine aX hb3 (fun ht=>?_);subst ht
    refine az (aU ?_)
    exact zz r h rfl
   refine ai ?_
   refine fU (ah [31] [(17,pI (IntKind.i64.wrap (v2+1)))] (by kernel_rfl) ?_)
   exact bj hb3 () (ow rfl) ce
  refine aW ?_
  refine av (an hb3 (fun ht=>ar rfl ?_))
  exact aF ((),()) qP ce ht.symm
 rintro ⟨_,_⟩ τ hz;(try dsimp only at hz);subst q4;(try dsimp only at h);dsimp only [aG]
 refine af (fT [(6,pB true)] (by kernel_rfl) ?_)
 exact zz r h rfl
def ef (p0:(List ByteArray)) (p1:(List ByteArray)):Option Bool:=cond ((p0.length:Int) != (p1.length:Int)) (some false) ((aO (S:=Int) (T:=(Unit)⊕(_)) (fun v2=>cond (decide (v2<(p0.length:Int))) ((idx p0 v2).bind fun m6=>(idx p1 v2).bind fun m7=>cond (!decide (m6=m7)) (some (.inr (.inr false))) (some (.inl (IntKind.i64.wrap (v2+1))))) (some (.inr (.inl ())))) FUEL 0).bind fun q=>match q with | .inl _=>some true | .inr e=>some e)
theorem lu {p0:(List ByteArray)} {p1:(List ByteArray)} {r:Bool}  (h:ef p0 p1=some r):PF 167 [pL eS p0,pL eS p1] (pB r):=by
 unfold ef at h
 refine bt ?_
 refine eQ Tryz.func167 rfl Tryz.ntmps167 Tryz.results167 rfl (be [4] (by kernel_rfl) (dr (ah [6,7,8,9] [(10,pB ((p0.length:Int) != (p1.length:Int)))] (by kernel_rfl) (cE rfl h (fun hc1 h=>?_) fun hc1 h=>?_))))
 ·refine af ?_
  refine fT [(4,pB false)] (by kernel_rfl) (ap ?_)
  exact zz r h rfl
 refine ai ?_
 refine dr (ah [11] [(12,pI (p0.length:Int)),(13,pI 0)] (by kernel_rfl) (jo h fun q4 hq4 h=>?_))
 refine aA (Y:=Unit×Unit) (fun (_,_)=>[]) (fun (_,_)=>[]) (fun (_,_)=>q4=Sum.inl ()) ?_ ?_
 ·refine aI ?_
  refine aM (Y:=Unit) (S:=Int) _ hq4 (fun _ v2=>[(0,pL eS p0),(1,pL eS p1),(12,pI (p0.length:Int)),(13,pI v2)]) (fun _ v2=>[]) () (lq rfl) ce ?_
  rintro _ v2 o τ hb3;(try dsimp only at hb3);dsimp only [aG]
  refine af (al [(14,pB (decide (v2<(p0.length:Int))))] (by kernel_rfl) (bQ (kx rfl hb3 (fun hc5 hb3=>?_) fun hc5 hb3=>?_)))
  ·refine ai ?_
   refine bQ (iA (ah [15] [(5,pI v2)] (by kernel_rfl) (bQ (co (ρd:=[]) [(0,0),(1,0),(2,0),(3,0),(4,0),(5,0),(6,0),(7,0),(8,0)] _ (List.Perm.refl _) (by kernel_rfl) rfl (ae hb3 fun m6 hm6 hb3=>ae hb3 fun m7 hm7 hb3=>cC 9 [] (rg 16 8) [(24,pB (!decide (m6=m7)))] (eU 2 eS hm6 (eU 6 eS hm7 bG)) (by kernel_rfl) (cQ (cE rfl hb3 (fun hc8 hb3=>?_) fun hc8 hb3=>?_)))))))
   ·refine af ?_
    refine fT [(4,pB false)] (by kernel_rfl) (iZ ?_)
    refine aX hb3 (fun ht=>?_);subst ht
    refine az (aU ?_)
    exact zz r h rfl
   refine ai ?_
   refine fU (ah [25] [(13,pI (IntKind.i64.wrap (v2+1)))] (by kernel_rfl) ?_)
   exact bj hb3 () (lq rfl) ce
  refine aW ?_
  refine av (an hb3 (fun ht=>ar rfl ?_))
  exact aF ((),()) qP ce ht.symm
 rintro ⟨_,_⟩ τ hz;(try dsimp only at hz);subst q4;(try dsimp only at h);dsimp only [aG]
 refine af (fT [(4,pB true)] (by kernel_rfl) ?_)
 exact zz r h rfl
def bp (p0:(List Zf)) (p1:(List Zf)) (p2:(Zf→Zf→Option Bool)):Option Bool:=cond ((p0.length:Int) != (p1.length:Int)) (some false) ((aO (S:=Int) (T:=(Unit)⊕(_)) (fun v2=>cond (decide (v2<(p0.length:Int))) ((idx p0 v2).bind fun m6=>(idx p1 v2).bind fun m8=>(p2 m6 m8).bind fun x10=>cond (!x10) (some (.inr (.inr false))) (some (.inl (IntKind.i64.wrap (v2+1))))) (some (.inr (.inl ())))) FUEL 0).bind fun q=>match q with | .inl _=>some true | .inr e=>some e)
theorem e9 {p0:(List Zf)} {p1:(List Zf)} {p2:(Zf→Zf→Option Bool)} {r:Bool} {g2:PV} (hg2:∀ {y0:Zf} {y1:Zf} {w:Bool},p2 y0 y1=some w→PFV g2 [.agg (aT y0),.agg (aT y1)] (pB w)) (h:bp p0 p1 p2=some r):PF 168 [pL Zf.enc p0,pL Zf.enc p1,g2] (pB r):=by
 unfold bp at h
 refine bt ?_
 refine eQ Tryz.func168 rfl Tryz.ntmps168 Tryz.results168 rfl (be [6] (by kernel_rfl) (dr (ah [10,11,12,13] [(14,pB ((p0.length:Int) != (p1.length:Int)))] (by kernel_rfl) (cE rfl h (fun hc1 h=>?_) fun hc1 h=>?_))))
 ·refine af ?_
  refine fT [(6,pB false)] (by kernel_rfl) (ap ?_)
  exact zz r h rfl
 refine ai ?_
 refine dr (al [(15,pL Zf.enc p0),(16,pI (p0.length:Int)),(17,pI 0)] (by kernel_rfl) (jo h fun q4 hq4 h=>?_))
 refine aA (Y:=Unit×Unit) (fun (_,_)=>[]) (fun (_,_)=>[]) (fun (_,_)=>q4=Sum.inl ()) ?_ ?_
 ·refine aI ?_
  refine aM (Y:=Unit) (S:=Int) _ hq4 (fun _ v2=>[(1,pL Zf.enc p1),(2,g2),(15,pL Zf.enc p0),(16,pI (p0.length:Int)),(17,pI v2)]) (fun _ v2=>[]) () (ow rfl) ce ?_
  rintro _ v2 o τ hb3;(try dsimp only at hb3);dsimp only [aG]
  refine af (al [(18,pB (decide (v2<(p0.length:Int))))] (by kernel_rfl) (bQ (kx rfl hb3 (fun hc5 hb3=>?_) fun hc5 hb3=>?_)))
  ·refine ai ?_
   refine bQ (iA (ae hb3 fun m6 hm6 hb3=>aa (bi 3 [] [20] [(19,pI v2),(21,.agg (aT m6))] (wB 1 Zf.enc (Zf.enc_eq _) hm6 bG) (by kernel_rfl) (aj rfl (aV (cs:=[pI 0,pI 0,pN,pI 0,pI 0,pS ByteArray.empty,pN]) rfl rfl rfl rfl (fun b7=>au 1 [(7,pI v2)] (by kernel_rfl) (ba rfl rfl (am (vs:=(aT m6)) rfl rfl rfl rfl rfl cP qC (aw (dQ hb3 fun m8 hm8 hb3=>aa (bi 4 [] [22,23,24] [(25,.agg (aT m8))] (wB 2 Zf.enc (Zf.enc_eq _) hm8 bG) (by kernel_rfl) (aj rfl (aV (cs:=[pI 0,pI 0,pN,pI 0,pI 0,pS ByteArray.empty,pN]) rfl rfl rfl rfl (fun b9=>ba rfl rfl (am (vs:=(aT m8)) rfl rfl rfl rfl rfl cP qC (aw (dQ hb3 fun x10 hx10 hb3=>aq [1,0] [26,27,28,29] [(30,pB (!x10))] (AV 3 (hg2 hx10) bG) (by kernel_rfl) (cE rfl hb3 (fun hc11 hb3=>?_) fun hc11 hb3=>?_))))))))))))))))))
   ·refine af ?_
    refine fT [(6,pB false)] (by kernel_rfl) (iZ ?_)
    refine aX hb3 (fun ht=>?_);subst ht
    refine az (aU ?_)
    exact zz r h rfl
   refine ai ?_
   refine fU (ah [31] [(17,pI (IntKind.i64.wrap (v2+1)))] (by kernel_rfl) ?_)
   exact bj hb3 () (ow rfl) ce
  refine aW ?_
  refine av (an hb3 (fun ht=>ar rfl ?_))
  exact aF ((),()) qP ce ht.symm
 rintro ⟨_,_⟩ τ hz;(try dsimp only at hz);subst q4;(try dsimp only at h);dsimp only [aG]
 refine af (fT [(6,pB true)] (by kernel_rfl) ?_)
 exact zz r h rfl
def eg (rec:Zf→Zf→Option Bool) (p0:Zf) (p1:Zf):Option Bool:=(gd (((((p0.Kind == p1.Kind)&&(p0.Digits == p1.Digits))&&(p0.Tolerance == p1.Tolerance))&&(p0.Limit == p1.Limit))&&(decide (p0.Name=p1.Name))) (ef p0.Except p1.Except)).bind fun x3=>(gd ((((((p0.Kind == p1.Kind)&&(p0.Digits == p1.Digits))&&(p0.Tolerance == p1.Tolerance))&&(p0.Limit == p1.Limit))&&(decide (p0.Name=p1.Name)))&&x3) (bp p0.Args p1.Args (fun y4 y5=>rec y4 y5))).bind fun x6=>some (((((((p0.Kind == p1.Kind)&&(p0.Digits == p1.Digits))&&(p0.Tolerance == p1.Tolerance))&&(p0.Limit == p1.Limit))&&(decide (p0.Name=p1.Name)))&&x3)&&x6)
theorem mS {rec:Zf→Zf→Option Bool} (hrec:∀ {p0:Zf} {p1:Zf} {r:Bool},rec p0 p1=some r→PF 136 [.agg (aT p0),.agg (aT p1)] (pB r)) {p0:Zf} {p1:Zf} {r:Bool} (h:eg rec p0 p1=some r):PF 136 [.agg (aT p0),.agg (aT p1)] (pB r):=by
 unfold eg at h
 refine bt ?_
 refine eQ Tryz.func136 rfl Tryz.ntmps136 Tryz.results136 rfl (aa (aj rfl (br (cs:=(aT p0)) rfl rfl (fun b1=>aj rfl (br (cs:=(aT p1)) rfl rfl (fun b2=>bm [4] (by kernel_rfl) (dQ h fun x3 hx3 h=>ae h fun x6 hx6 h=>aq [1,0,1,0,1,0,1,0,1,0,1,0,1,0] (rg 5 47) [(4,pB (((((((p0.Kind == p1.Kind)&&(p0.Digits == p1.Digits))&&(p0.Tolerance == p1.Tolerance))&&(p0.Limit == p1.Limit))&&(decide (p0.Name=p1.Name)))&&x3)&&x6))] (iY 38 (fun hc=>lu (gJ hx3 hc)) (iY 45 (fun hc=>e9 (fun hr=>ri (hrec hr)) (gJ hx6 hc)) bG)) (by kernel_rfl) (dX ?_))))))))
 exact zz r h rfl
def el (n:Nat):Zf→Zf→Option Bool:=Nat.rec (motive:=fun _=>Zf→Zf→Option Bool) (fun _ _=>none) (fun _ ih=>eg ih) n
def iD (p0:Zf) (p1:Zf):Option Bool:=el FUEL p0 p1
theorem nl (n:Nat):∀ {p0:Zf} {p1:Zf} {r:Bool},el n p0 p1=some r→PF 136 [.agg (aT p0),.agg (aT p1)] (pB r):=by
 induction n with
 | zero=>intros;rename_i h;exact nomatch h
 | succ n ih=>intros;rename_i h;exact mS (fun hr=>ih hr) h
theorem nP {p0:Zf} {p1:Zf} {r:Bool} (h:iD p0 p1=some r):PF 136 [.agg (aT p0),.agg (aT p1)] (pB r):=nl FUEL h
def eF (p1:Int):Option (List ByteArray):=(De 16 p1).bind fun _=>some []
theorem lE {p1:Int} {r:(List ByteArray)} (h:eF p1=some r):PCall 169 [.v (.slice none 0 0),pI p1] [] (fun pv ρ'=>∃ a c,pv=.v (.slice a r.length c)∧ρ'=[PRes.row a r.length c 9 1 (List.map eS r)]):=by
 unfold eF at h
 obtain ⟨u,hu,h⟩:=Option.bind_eq_some_iff.1 h
 obtain rfl:=osi h
 obtain ⟨hg0,hg1⟩:=Fc hu
 have ew:IntKind.i64.wrap (p1 - IntKind.i64.wrap (((0:Nat):Int) - ((0:Nat):Int)))=p1:=wM hg0 hg1
 refine lc Tryz.func169 rfl Tryz.ntmps169 Tryz.results169 rfl ?_
 (repeat refine af ?_)
 refine be [4] (by kernel_rfl) (aQ ?_)
 (repeat refine af ?_)
 refine ah [5] [(6,pB (decide (p1<0)))] (by kernel_rfl) (aQ ?_)
 refine ir rfl (fun hc=>absurd (of_decide_eq_true hc) (by omega)) (fun hc=>?_)
 refine ai (aQ ?_)
 (repeat refine af ?_)
 refine aa (au 2 [(8,pI p1),(9,.v (.slice none 0 0))] (by kernel_rfl) (bY rfl rfl rfl (ua rfl rfl (.p rfl)) (hZ [11,12,13,14] [(1,pI (IntKind.i64.wrap (p1 - IntKind.i64.wrap (((0:Nat):Int) - ((0:Nat):Int)))))] (by kernel_rfl) ?_)))
 rw [ew]
 refine aQ ?_
 (repeat refine af ?_)
 refine ah [15] [(16,pB (decide (0<p1)))] (by kernel_rfl) (aQ ?_)
 refine ir rfl (fun hc=>?_) (fun hc=>?_)
 ·refine aa ?_
  refine au 2 [(17,.v (.slice none 0 0)),(18,.v (.slice none 0 0))] (by kernel_rfl) (bY rfl rfl rfl (ua rfl rfl (.p rfl)) (bY rfl rfl rfl (qG rfl rfl rfl (.p rfl) (.p rfl) rfl (Nat.zero_le _)) (au 1 [(21,pI p1)] (by kernel_rfl) (uy 9 1 ?_))))
  refine aj rfl (zF rfl rfl rfl rfl rfl rfl rfl rfl (of_decide_eq_true hc) hu (by exact aD) (fun a c hac=>?_))
  refine au 2 [(23,.v (.slice none 0 0)),(24,pI 0)] (by kernel_rfl) (bY rfl rfl rfl (qG (k:=0) rfl rfl rfl (.p rfl) (.p rfl) rfl (Nat.zero_le _)) (aS [(0,.v (.slice a 0 c))] (by kernel_rfl) (aQ ?_)))
  (repeat refine af ?_)
  refine ah [26] [(4,.v (.slice a 0 c))] (by kernel_rfl) (dX ?_)
  exact aL (cT (aN rfl)) dB ⟨_,_,rfl,rfl⟩
 refine ai ?_
 refine aQ ?_
 (repeat refine af ?_)
 refine ah [26] [(4,.v (.slice none 0 0))] (by kernel_rfl) (aQ (cA 9 1 (cd ?_)))
 exact aL (cT (aN rfl)) dB ⟨_,_,rfl,rfl⟩
def df (p0:(List (List ByteArray))):Option (List ByteArray):=(aO (S:=Int×Int) (T:=(Int)) (fun (v1,v2)=>cond (decide (v2<(p0.length:Int))) ((idx p0 v2).bind fun m7=>cond (decide ((IntKind.i64.wrap (v1+(m7.length:Int)))<0)) (none) (some (.inl ((IntKind.i64.wrap (v1+(m7.length:Int))),(IntKind.i64.wrap (v2+1)))))) (some (.inr v1))) FUEL (0,0)).bind fun v3=>(eF v3).bind fun x9=>(aO (S:=(List ByteArray)×Int) (T:=((List ByteArray))) (fun (l14,v17)=>cond (decide (v17<(p0.length:Int))) ((idx p0 v17).bind fun m25=>(app 16 l14 m25).bind fun l26=>some (.inl (l26,(IntKind.i64.wrap (v17+1))))) (some (.inr l14))) FUEL (x9,0)).bind fun l21=>some l21
theorem kM {p0:(List (List ByteArray))} {r:(List ByteArray)}  (h:df p0=some r):PCall 138 [pL (eL eS) p0] [] (fun pv ρ'=>∃ a c,pv=.v (.slice a r.length c)∧ρ'=[PRes.row a r.length c 9 1 (List.map eS r)]):=by
 unfold df at h
 refine eQ Tryz.func138 rfl Tryz.ntmps138 Tryz.results138 rfl (be [2] (by kernel_rfl) (bQ (al [(3,pI 0)] (by kernel_rfl) (dr (al [(9,pL (eL eS) p0),(10,pI (p0.length:Int)),(11,pI 0)] (by kernel_rfl) (jo h fun q5 hq5 h=>?_))))))
 refine aA (Y:=Unit×Int) (fun (_,v3)=>[(0,pL (eL eS) p0),(3,pI v3)]) (fun (_,v3)=>[]) (fun (_,v3)=>q5=v3) ?_ ?_
 ·refine aI ?_
  refine aM (Y:=Unit) (S:=Int×Int) _ hq5 (fun _ (v1,v2)=>[(0,pL (eL eS) p0),(3,pI v1),(9,pL (eL eS) p0),(10,pI (p0.length:Int)),(11,pI v2)]) (fun _ (v1,v2)=>[]) () (ow rfl) ce ?_
  rintro _ ⟨v1,v2⟩ o τ hb4;(try dsimp only at hb4);dsimp only [aG]
  refine af (al [(12,pB (decide (v2<(p0.length:Int))))] (by kernel_rfl) (bQ (kx rfl hb4 (fun hc6 hb4=>?_) fun hc6 hb4=>?_)))
  ·refine ai ?_
   refine bQ (iA (ae hb4 fun m7 hm7 hb4=>aq [] [13,14] [(5,pL eS m7)] (eU 0 (eL eS) hm7 bG) (by kernel_rfl) (bQ (ah [15,16,17,18] [(3,pI (IntKind.i64.wrap (v1+(m7.length:Int))))] (by kernel_rfl) (bQ (ah [19] [(20,pB (decide ((IntKind.i64.wrap (v1+(m7.length:Int)))<0)))] (by kernel_rfl) (cE rfl hb4 (fun hc8 hb4=>?_) fun hc8 hb4=>?_)))))))
   ·refine aa ?_
    exact absurd hb4 (by simp)
   refine ai ?_
   refine fU (ah [22] [(11,pI (IntKind.i64.wrap (v2+1)))] (by kernel_rfl) ?_)
   exact bj hb4 () (ow rfl) ce
  refine aW ?_
  refine av (an hb4 (fun ht=>ar rfl ?_))
  exact aF ((),v1) (tG rfl) ce ht.symm
 rintro ⟨_,v3⟩ τ hz;(try dsimp only at hz);subst q5;(try dsimp only at h);dsimp only [aG]
 refine af (ae h fun x9 hx9 h=>aa (au 1 [(23,pI v3)] (by kernel_rfl) ?_))
 refine aj rfl (bf rfl rfl (ρ1:=[]) (List.Perm.refl _) (lE hx9) ?_);rintro _ _ ⟨a10,c11,rfl,rfl⟩
 refine aS [(6,pO a10 x9.length c11)] (by kernel_rfl) (dr (al [(25,pL (eL eS) p0),(26,pI (p0.length:Int)),(27,pI 0)] (by kernel_rfl) (jo h fun q23 hq23 h=>?_)))
 refine aA (Y:=(Option Addr×Nat)×((List ByteArray))) (fun ((a19,c20),l21)=>[(6,pO a19 l21.length c20)]) (fun ((a19,c20),l21)=>[PRes.row a19 l21.length c20 9 1 (List.map eS l21)]) (fun ((a19,c20),l21)=>q23=l21) ?_ ?_
 ·refine aI ?_
  refine aM (Y:=Option Addr×Nat) (S:=(List ByteArray)×Int) _ hq23 (fun (a15,c16) (l14,v17)=>[(6,pO a15 l14.length c16),(25,pL (eL eS) p0),(26,pI (p0.length:Int)),(27,pI v17)]) (fun (a15,c16) (l14,v17)=>[PRes.row a15 l14.length c16 9 1 (List.map eS l14)]) (a10,c11) (lq rfl) dB ?_
  rintro ⟨a15,c16⟩ ⟨l14,v17⟩ o τ hb22;(try dsimp only at hb22);dsimp only [aG]
  refine af (al [(28,pB (decide (v17<(p0.length:Int))))] (by kernel_rfl) (bQ (kx rfl hb22 (fun hc24 hb22=>?_) fun hc24 hb22=>?_)))
  ·refine ai ?_
   refine bQ (iA (ae hb22 fun m25 hm25 hb22=>aq [] [29,30] [(8,pL eS m25)] (eU 0 (eL eS) hm25 bG) (by kernel_rfl) (jo hb22 fun l26 hl26 hb22=>aa (au 2 [(31,pO a15 l14.length c16),(32,pL eS m25)] (by kernel_rfl) ?_))))
   refine aj rfl (hX (enc:=eS) rfl rfl rfl rfl rfl (fun _=>rfl) rfl rfl rfl (by exact aD) hl26 (fun a27 c28=>?_))
   refine aS [(6,pO a27 l26.length c28)] (by kernel_rfl) (fU (ah [34] [(27,pI (IntKind.i64.wrap (v17+1)))] (by kernel_rfl) ?_))
   exact bj hb22 (a27,c28) (lq rfl) dB
  refine aW ?_
  refine av (an hb22 (fun ht=>ar rfl ?_))
  exact aF ((a15,c16),l14) (wz rfl) dB ht.symm
 rintro ⟨⟨a19,c20⟩,l21⟩ τ hz;(try dsimp only at hz);subst q23;(try dsimp only at h);dsimp only [aG]
 refine af (ah [35] [(2,pO a19 l21.length c20)] (by kernel_rfl) (dX ?_))
 obtain rfl:=osi h
 exact aL (cT (aN rfl)) dB ⟨_,_,rfl,rfl⟩
def dN (p0:(List ByteArray)):Option (List ByteArray):=cond (decide (((p0.length:Nat):Int)<2)) (some p0) ((aO (S:=Int) (T:=(Unit)⊕(_)) (fun v2=>cond (decide (v2<((p0.length:Nat):Int))) ((idx p0 v2).bind fun m7=>(idx p0 (IntKind.i64.wrap (v2 - 1))).bind fun m8=>cond (decide (m7=m8)) ((sub p0 v2 (p0.length:Int)).bind fun l10=>(aO (S:=(List ByteArray)×Int×Int) (T:=((List ByteArray)×Int)) (fun (l12,v13,v14)=>cond (decide (v14<((p0.length - v2.toNat:Nat):Int))) (((ln v14).bind fun u25=>(idx l12 (v2+v14)).bind fun m26=>(ln (IntKind.i64.wrap (v14 - 1))).bind fun u27=>(idx l12 (v2+(IntKind.i64.wrap (v14 - 1)))).bind fun m28=>cond (!decide (m26=m28)) ((ln v14).bind fun u30=>(idx l12 (v2+v14)).bind fun m31=>(idx l12 v13).bind fun m32=>some ((l12.set v13.toNat m31),(IntKind.i64.wrap (v13+1)))) (some (l12,v13))).bind fun (l22,v23)=>some (.inl (l22,v23,(IntKind.i64.wrap (v14+1))))) (some (.inr (l12,v13)))) FUEL (p0,v2,1)).bind fun (l16,v17)=>(sub l16 v17 (l16.length:Int)).bind fun l34=>(sub (List.take v17.toNat l16++List.replicate (p0.length - v17.toNat) ByteArray.empty) 0 v17).bind fun l35=>some (.inr (.inr l35))) (some (.inl (IntKind.i64.wrap (v2+1))))) (some (.inr (.inl ())))) FUEL 1).bind fun q=>match q with | .inl _=>some p0 | .inr e=>some e)
theorem ky {p0:(List ByteArray)} {a_0:Option Addr}  {n_0:Nat}  {c_0:Nat} {r:(List ByteArray)}  (h:dN p0=some r):PCall 140 [.v (.slice a_0 n_0 c_0)] [PRes.row a_0 n_0 c_0 9 1 (List.map eS p0)] (fun pv ρ'=>∃ a c,pv=.v (.slice a r.length c)∧ρ'=[PRes.row a r.length c 9 1 (List.map eS r)]):=by
 unfold dN at h
 refine lc Tryz.func140 rfl Tryz.ntmps140 Tryz.results140 rfl ?_
 refine iw (enc:=eS) (xs:=p0) (a:=a_0) e8 (fun hl ha=>?_);subst hl;clear ha
 refine af (be [2] (by kernel_rfl) (dr (ah [6,7] [(8,pB (decide (((p0.length:Nat):Int)<2)))] (by kernel_rfl) (cE rfl h (fun hc1 h=>?_) fun hc1 h=>?_))))
 ·refine af ?_
  refine ah [9] [(2,pO a_0 p0.length c_0)] (by kernel_rfl) (dX (ap ?_))
  obtain rfl:=osi h
  exact aL (cT (aN rfl)) dB ⟨_,_,rfl,rfl⟩
 refine ai ?_
 refine dr (al [(3,pI 1)] (by kernel_rfl) (jo h fun q5 hq5 h=>?_))
 refine aA (Y:=Unit×Unit) (fun (_,_)=>[(0,pO a_0 p0.length c_0)]) (fun (_,_)=>[PRes.row a_0 p0.length c_0 9 1 (List.map eS p0)]) (fun (_,_)=>q5=Sum.inl ()) ?_ ?_
 ·refine aI ?_
  refine aM (Y:=Unit) (S:=Int) _ hq5 (fun _ v2=>[(0,pO a_0 p0.length c_0),(3,pI v2)]) (fun _ v2=>[PRes.row a_0 p0.length c_0 9 1 (List.map eS p0)]) () (tG rfl) dB ?_
  rintro _ v2 o τ hb4;(try dsimp only at hb4);dsimp only [aG]
  refine af (af (ah [10,11,12] [(13,pB (decide (v2<((p0.length:Nat):Int))))] (by kernel_rfl) (cE rfl hb4 (fun hc6 hb4=>?_) fun hc6 hb4=>?_)))
  ·refine ai ?_
   refine bQ (iA (co (ρd:=[]) [(0,0),(1,0),(2,0),(3,0),(4,0),(5,0),(6,0),(7,0),(8,0),(9,0)] _ (List.Perm.refl _) (by kernel_rfl) rfl (ae hb4 fun m7 hm7 hb4=>hY 2 [(16,pO a_0 p0.length c_0),(17,pI v2)] (by kernel_rfl) (lm rfl rfl rfl (ez (enc:=eS) (xs:=p0) rfl rfl rfl (.p rfl) e8 (.p rfl) (fun _=>hm7)) (lm rfl rfl rfl (cH (sz:=1) (p:=pS m7) (enc:=eS) (xs:=p0) (a:=a_0) v2 0 m7 rfl (.p rfl) rfl e8 (fun _=>hm7) rfl) (ae hb4 fun m8 hm8 hb4=>mE 3 [21] [(20,pO a_0 p0.length c_0),(22,pI (IntKind.i64.wrap (v2 - 1)))] (by kernel_rfl) (lm rfl rfl rfl (ez (enc:=eS) (xs:=p0) rfl rfl rfl (.p rfl) e8 (.p rfl) (fun _=>hm8)) (lm rfl rfl rfl (cH (sz:=1) (p:=pS m8) (enc:=eS) (xs:=p0) (a:=a_0) (IntKind.i64.wrap (v2 - 1)) 0 m8 rfl (.p rfl) rfl e8 (fun _=>hm8) rfl) (hY 1 [(25,pB (decide (m7=m8)))] (by kernel_rfl) (cQ (cE rfl hb4 (fun hc9 hb4=>?_) fun hc9 hb4=>?_)))))))))))
   ·refine af ?_
    refine ae hb4 fun l10 hl10 hb4=>aa (au 2 [(26,pO a_0 p0.length c_0),(27,pI v2)] (by kernel_rfl) (bY rfl rfl rfl (mC (enc:=eS) (xs:=p0) rfl rfl rfl rfl rfl e8 hl10) (aS [(4,pQ a_0 p0.length c_0 v2.toNat 1)] (by kernel_rfl) (dr (al [(5,pI 1)] (by kernel_rfl) (jo hb4 fun q19 hq19 hb4=>?_))))))
    refine aA (Y:=Unit×((List ByteArray)×Int)) (fun (_,(l16,v17))=>[(0,pO a_0 p0.length c_0),(3,pI v17)]) (fun (_,(l16,v17))=>[PRes.row a_0 p0.length c_0 9 1 (List.map eS l16)]) (fun (_,(l16,v17))=>q19=(l16,v17)) ?_ ?_
    ·refine aI ?_
     refine aM (Y:=Unit) (S:=(List ByteArray)×Int×Int) _ hq19 (fun _ (l12,v13,v14)=>[(0,pO a_0 p0.length c_0),(3,pI v13),(4,pQ a_0 p0.length c_0 v2.toNat 1),(5,pI v14)]) (fun _ (l12,v13,v14)=>[PRes.row a_0 p0.length c_0 9 1 (List.map eS l12)]) () (lq rfl) dB ?_
     rintro _ ⟨l12,v13,v14⟩ o τ hb18;(try dsimp only at hb18);dsimp only [aG]
     refine af (af (ah [29,30,31] [(32,pB (decide (v14<((p0.length - v2.toNat:Nat):Int))))] (by kernel_rfl) (cE rfl hb18 (fun hc20 hb18=>?_) fun hc20 hb18=>?_)))
     ·refine ai ?_
      refine dQ hb18 fun q24 hq24 hb18=>?_
      refine aA (Y:=Unit×((List ByteArray)×Int)) (fun (_,(l22,v23))=>[(0,pO a_0 p0.length c_0),(3,pI v23),(4,pQ a_0 p0.length c_0 v2.toNat 1),(5,pI v14)]) (fun (_,(l22,v23))=>[PRes.row a_0 p0.length c_0 9 1 (List.map eS l22)]) (fun (_,(l22,v23))=>q24=(l22,v23)) ?_ ?_
      ·skip
       refine iA (co (ρd:=[]) [(0,0),(1,0),(2,0),(3,0),(4,0),(5,0),(6,0),(7,0),(8,0),(9,0)] _ (List.Perm.refl _) (by kernel_rfl) rfl (ae hq24 fun u25 hu25 hq24=>ae hq24 fun m26 hm26 hq24=>hY 2 [(35,pQ a_0 p0.length c_0 v2.toNat 1),(36,pI v14)] (by kernel_rfl) (lm rfl rfl rfl (jy (enc:=eS) (xs:=l12) (i:=v2) rfl rfl rfl rfl rfl (gm hl10).1.1 (lp hu25) e8 hm26) (lm rfl rfl rfl (cH (sz:=1) (p:=pS m26) (enc:=eS) (xs:=l12) (a:=a_0) (v2+v14) 0 m26 rfl (.p rfl) rfl e8 (fun _=>hm26) rfl) (ae hq24 fun u27 hu27 hq24=>ae hq24 fun m28 hm28 hq24=>mE 3 [40] [(39,pQ a_0 p0.length c_0 v2.toNat 1),(41,pI (IntKind.i64.wrap (v14 - 1)))] (by kernel_rfl) (lm rfl rfl rfl (jy (enc:=eS) (xs:=l12) (i:=v2) rfl rfl rfl rfl rfl (gm hl10).1.1 (lp hu27) e8 hm28) (lm rfl rfl rfl (cH (sz:=1) (p:=pS m28) (enc:=eS) (xs:=l12) (a:=a_0) (v2+(IntKind.i64.wrap (v14 - 1))) 0 m28 rfl (.p rfl) rfl e8 (fun _=>hm28) rfl) (hY 1 [(44,pB (!decide (m26=m28)))] (by kernel_rfl) (cQ (cE rfl hq24 (fun hc29 hq24=>?_) fun hc29 hq24=>?_))))))))))
       ·refine af ?_
        refine ae hq24 fun u30 hu30 hq24=>ae hq24 fun m31 hm31 hq24=>aa (au 4 [(45,pO a_0 p0.length c_0),(46,pI v13),(47,pQ a_0 p0.length c_0 v2.toNat 1),(48,pI v14)] (by kernel_rfl) (bY rfl rfl rfl (jy (enc:=eS) (xs:=l12) (i:=v2) rfl rfl rfl rfl rfl (gm hl10).1.1 (lp hu30) e8 hm31) (bY rfl rfl rfl (cH (sz:=1) (p:=pS m31) (enc:=eS) (xs:=l12) (a:=a_0) (v2+v14) 0 m31 rfl (.p rfl) rfl e8 (fun _=>hm31) rfl) (ae hq24 fun m32 hm32 hq24=>bY rfl rfl rfl (ez (enc:=eS) (xs:=l12) rfl rfl rfl (.p rfl) e8 (.p rfl) (fun _=>hm32)) (ba rfl rfl (iv (enc:=eS) (xs:=l12) (a:=a_0) v13 0 m32 m31 rfl rfl rfl rfl (fun _=>rfl) rfl rfl hm32 mP cP (aw (aQ (ah [52,53] [(3,pI (IntKind.i64.wrap (v13+1)))] (by kernel_rfl) (aH ?_))))))))))
        obtain rfl:=osi hq24
        exact aF ((),((l12.set v13.toNat m31),(IntKind.i64.wrap (v13+1)))) (lq rfl) dB rfl
       refine ai ?_
       refine aH ?_
       obtain rfl:=osi hq24
       exact aF ((),(l12,v13)) (lq rfl) dB rfl
      rintro ⟨_,⟨l22,v23⟩⟩ τ hz;(try dsimp only at hz);subst q24;(try dsimp only at hb18);dsimp only [aG]
      refine ah [33,34] [(5,pI (IntKind.i64.wrap (v14+1)))] (by kernel_rfl) ?_
      exact bj hb18 () (lq rfl) dB
     refine aW ?_
     refine av (an hb18 (fun ht=>ar rfl ?_))
     exact aF ((),(l12,v13)) (tG rfl) dB ht.symm
    rintro ⟨_,⟨l16,v17⟩⟩ τ hz;(try dsimp only at hz);subst q19;(try dsimp only at hb4);dsimp only [aG]
    refine af (ae hb4 fun l34 hl34 hb4=>aa (au 2 [(54,pO a_0 p0.length c_0),(55,pI v17)] (by kernel_rfl) (bY rfl rfl rfl (mC (enc:=eS) (xs:=l16) rfl rfl rfl rfl rfl e8 hl34) (ba rfl rfl (wJ (enc:=eS) (xs:=l16) (z0:=ByteArray.empty) (i:=v17) rfl rfl rfl rfl hl34 rfl rfl rfl rfl cP (aw (dQ hb4 fun l35 hl35 hb4=>aa (au 2 [(57,pO a_0 p0.length c_0),(58,pI v17)] (by kernel_rfl) ?_))))))))
    refine aj rfl (wI (enc:=eS) (xs:=(List.take v17.toNat l16++List.replicate (p0.length - v17.toNat) ByteArray.empty)) rfl rfl rfl rfl rfl (by exact aD) hl35 ?_)
    refine aS [(2,pO a_0 l35.length c_0)] (by kernel_rfl) (dX (iZ ?_))
    refine aX hb4 (fun ht=>?_);subst ht
    refine az (aU ?_)
    obtain rfl:=osi h
    exact aL (cT (aN rfl)) dB ⟨_,_,rfl,rfl⟩
   refine ai ?_
   refine fU (ah [14,15] [(3,pI (IntKind.i64.wrap (v2+1)))] (by kernel_rfl) ?_)
   exact bj hb4 () (tG rfl) dB
  refine aW ?_
  refine av (an hb4 (fun ht=>ar rfl ?_))
  exact aF ((),()) (wz rfl) dB ht.symm
 rintro ⟨_,_⟩ τ hz;(try dsimp only at hz);subst q5;(try dsimp only at h);dsimp only [aG]
 refine af (ah [60] [(2,pO a_0 p0.length c_0)] (by kernel_rfl) (dX ?_))
 obtain rfl:=osi h
 exact aL (cT (aN rfl)) dB ⟨_,_,rfl,rfl⟩
def da (p0:Zt) (p1:Zc) (p2:Int):Option Ze:=(aO (S:=Int) (T:=(Unit)⊕(_)) (fun v3=>cond (decide (v3<(p0.partners.length:Int))) ((idx p0.partners v3).bind fun m7=>cond ((jX p0.set_ (⟨p1.ID,m7⟩:Za)).getD false) (some (.inr (.inr (Ze.proved_ (⟨(⟨p1.Code,p2,true⟩:Zl),(⟨p1.ID,m7⟩:Za)⟩:Zq))))) (some (.inl (IntKind.i64.wrap (v3+1))))) (some (.inr (.inl ())))) FUEL 0).bind fun q=>match q with | .inl _=>some (Ze.plain_ (⟨(⟨p1.Code,p2,false⟩:Zl)⟩:Zu)) | .inr e=>some e
theorem im {p0:Zt} {p1:Zc} {p2:Int} {m0_set_:Nat} {r:Ze}  (h:da p0 p1 p2=some r):PCall 98 [.agg [pL eI p0.partners,.v (.map (some m0_set_))],.agg (bd p1),pI p2] [PRes.mp (some m0_set_) (fF Za.key vT p0.set_)] (fun pv ρ'=>pv=Ze.pv r∧ρ'=[PRes.mp (some m0_set_) (fF Za.key vT p0.set_)]):=by
 unfold da at h
 refine eQ Tryz.func98 rfl Tryz.ntmps98 Tryz.results98 rfl (aa (aj rfl (br (cs:=[pL eI p0.partners,.v (.map (some m0_set_))]) rfl rfl (fun b1=>aj rfl (br (cs:=(bd p1)) rfl rfl (fun b2=>bm [6] (by kernel_rfl) (dr (bk [1] [10] [(11,pL eI p0.partners),(12,pI (p0.partners.length:Int)),(13,pI 0)] (by kernel_rfl) (jo h fun q5 hq5 h=>?_)))))))))
 refine aA (Y:=Unit×Unit) (fun (_,_)=>[(2,pI p2),(4,pP b2 0)]) (fun (_,_)=>[PRes.b b2 76 (bd p1),PRes.mp (some m0_set_) (fF Za.key vT p0.set_)]) (fun (_,_)=>q5=Sum.inl ()) ?_ ?_
 ·refine aI ?_
  refine aM (Y:=Unit) (S:=Int) _ hq5 (fun _ v3=>[(2,pI p2),(3,pP b1 0),(4,pP b2 0),(11,pL eI p0.partners),(12,pI (p0.partners.length:Int)),(13,pI v3)]) (fun _ v3=>[PRes.b b1 96 [pL eI p0.partners,.v (.map (some m0_set_))],PRes.b b2 76 (bd p1),PRes.mp (some m0_set_) (fF Za.key vT p0.set_)]) () (xJ rfl) (bh (ak aD) qV) ?_
  rintro _ v3 o τ hb4;(try dsimp only at hb4);dsimp only [aG]
  refine af (al [(14,pB (decide (v3<(p0.partners.length:Int))))] (by kernel_rfl) (bQ (kx rfl hb4 (fun hc6 hb4=>?_) fun hc6 hb4=>?_)))
  ·refine ai ?_
   refine bQ (iA (ae hb4 fun m7 hm7 hb4=>aq [] [15,16] [(8,pI m7)] (eU 0 eI hm7 bG) (by kernel_rfl) (bQ (aa (cw 4 [1] [17,18,19] [(20,.agg [pI p1.ID,pI m7])] (by kernel_rfl) (aj rfl (aV (cs:=[pI 0,pI 0]) rfl rfl rfl rfl (fun b8=>ba rfl rfl (am (vs:=[pI p1.ID,pI m7]) rfl rfl rfl rfl rfl cP B4 (aw (bQ (aa (cw 3 [1,0] [21] [(22,.v (.map (some m0_set_))),(23,.agg [pI p1.ID,pI m7])] (by kernel_rfl) (bY rfl rfl rfl (show POpQ _ _ _ _ (pB ((jX p0.set_ (⟨p1.ID,m7⟩:Za)).getD false)) from wH (xs:=p0.set_) (k:=(⟨p1.ID,m7⟩:Za)) (ek:=Za.key) (vv:=vT) (z0:=false) rfl rfl rfl (fun _=>.v rfl) Za.kenc28 (.p rfl) (.p rfl) uQ (zA DQ)) (aw (cE rfl hb4 (fun hc9 hb4=>?_) fun hc9 hb4=>?_))))))))))))))))
   ·refine af ?_
    refine bk [2,0] (rg 25 7) [(6,Ze.pv (Ze.proved_ (⟨(⟨p1.Code,p2,true⟩:Zl),(⟨p1.ID,m7⟩:Za)⟩:Zq)))] (by kernel_rfl) (dX (iZ ?_))
    refine aX hb4 (fun ht=>?_);subst ht
    refine az (aU ?_)
    obtain rfl:=osi h
    exact aL (cT (aN rfl)) (bh (ak (ak (ak aD))) ce) ⟨rfl,rfl⟩
   refine ai ?_
   refine fU (ah [32] [(13,pI (IntKind.i64.wrap (v3+1)))] (by kernel_rfl) ?_)
   exact bj hb4 () (xJ rfl) (bh (ak aD) (bh (ak aD) (bh (ak aD) ce)))
  refine aW ?_
  refine av (an hb4 (fun ht=>ar rfl ?_))
  exact aF ((),()) (tG rfl) (bh (ak aD) (bh (ak aD) ce)) ht.symm
 rintro ⟨_,_⟩ τ hz;(try dsimp only at hz);subst q5;(try dsimp only at h);dsimp only [aG]
 refine af (bk [0] (rg 33 6) [(6,Ze.pv (Ze.plain_ (⟨(⟨p1.Code,p2,false⟩:Zl)⟩:Zu)))] (by kernel_rfl) (dX ?_))
 obtain rfl:=osi h
 exact aL (cT (aN rfl)) (bh (ak aD) ce) ⟨rfl,rfl⟩
def gb (p0:Int):Option Int:=Option.bind (cond (decide (4294967296≤p0)) (some ((cK .u64 p0 32),32)) (some (p0,0))) (fun (v1,v2)=>Option.bind (cond (decide (65536≤v1)) (some ((cK .u64 v1 16),(IntKind.i64.wrap (v2+16)))) (some (v1,v2))) (fun (v5,v6)=>Option.bind (cond (decide (256≤v5)) (some ((cK .u64 v5 8),(IntKind.i64.wrap (v6+8)))) (some (v5,v6))) (fun (v9,v10)=>(idx (⟨#[0,1,2,2,3,3,3,3,4,4,4,4,4,4,4,4,5,5,5,5,5,5,5,5,5,5,5,5,5,5,5,5,6,6,6,6,6,6,6,6,6,6,6,6,6,6,6,6,6,6,6,6,6,6,6,6,6,6,6,6,6,6,6,6,7,7,7,7,7,7,7,7,7,7,7,7,7,7,7,7,7,7,7,7,7,7,7,7,7,7,7,7,7,7,7,7,7,7,7,7,7,7,7,7,7,7,7,7,7,7,7,7,7,7,7,7,7,7,7,7,7,7,7,7,7,7,7,7,8,8,8,8,8,8,8,8,8,8,8,8,8,8,8,8,8,8,8,8,8,8,8,8,8,8,8,8,8,8,8,8,8,8,8,8,8,8,8,8,8,8,8,8,8,8,8,8,8,8,8,8,8,8,8,8,8,8,8,8,8,8,8,8,8,8,8,8,8,8,8,8,8,8,8,8,8,8,8,8,8,8,8,8,8,8,8,8,8,8,8,8,8,8,8,8,8,8,8,8,8,8,8,8,8,8,8,8,8,8,8,8,8,8,8,8,8,8,8,8,8,8,8,8,8,8,8,8]⟩:ByteArray).data.toList (IntKind.u8.wrap v9)).bind fun c13=>lb ((IntKind.i64.wrap (v10+(IntKind.i64.wrap (c13.toNat:Int))))) (fun w14=>some w14))))
theorem rt {p0:Int} {r:Int}  (h:gb p0=some r):PF 151 [pU p0] (pI r):=by
 unfold gb at h
 refine bt ?_
 refine eQ Tryz.func151 rfl Tryz.ntmps151 Tryz.results151 rfl (al [(2,pI 0)] (by kernel_rfl) (dr (ah [3] [(4,pB (decide (4294967296≤p0)))] (by kernel_rfl) (jo h fun q3 hq3 h=>?_))))
 refine aA (Y:=Unit×(Int×Int)) (fun (_,(v1,v2))=>[(0,pU v1),(2,pI v2)]) (fun (_,(v1,v2))=>[]) (fun (_,(v1,v2))=>q3=(v1,v2)) ?_ ?_
 ·skip
  refine kx rfl hq3 (fun hc4 hq3=>?_) fun hc4 hq3=>?_
  ·refine af ?_
   refine ah [5,6] [(0,pU (cK .u64 p0 32))] (by kernel_rfl) (aQ (al [(2,pI 32)] (by kernel_rfl) ?_))
   obtain rfl:=osi hq3
   exact aF ((),((cK .u64 p0 32),32)) (tG rfl) ce rfl
  refine ai ?_
  obtain rfl:=osi hq3
  exact aF ((),(p0,0)) (tG rfl) ce rfl
 rintro ⟨_,⟨v1,v2⟩⟩ τ hz;(try dsimp only at hz);subst q3;(try dsimp only at h);dsimp only [aG]
 refine af (af (ah [7] [(8,pB (decide (65536≤v1)))] (by kernel_rfl) (jo h fun q7 hq7 h=>?_)))
 refine aA (Y:=Unit×(Int×Int)) (fun (_,(v5,v6))=>[(0,pU v5),(2,pI v6)]) (fun (_,(v5,v6))=>[]) (fun (_,(v5,v6))=>q7=(v5,v6)) ?_ ?_
 ·skip
  refine kx rfl hq7 (fun hc8 hq7=>?_) fun hc8 hq7=>?_
  ·refine af ?_
   refine ah [9,10] [(0,pU (cK .u64 v1 16))] (by kernel_rfl) (aQ (ah [11,12] [(2,pI (IntKind.i64.wrap (v2+16)))] (by kernel_rfl) ?_))
   obtain rfl:=osi hq7
   exact aF ((),((cK .u64 v1 16),(IntKind.i64.wrap (v2+16)))) (tG rfl) ce rfl
  refine ai ?_
  obtain rfl:=osi hq7
  exact aF ((),(v1,v2)) (tG rfl) ce rfl
 rintro ⟨_,⟨v5,v6⟩⟩ τ hz;(try dsimp only at hz);subst q7;(try dsimp only at h);dsimp only [aG]
 refine af (af (ah [13] [(14,pB (decide (256≤v5)))] (by kernel_rfl) (jo h fun q11 hq11 h=>?_)))
 refine aA (Y:=Unit×(Int×Int)) (fun (_,(v9,v10))=>[(0,pU v9),(2,pI v10)]) (fun (_,(v9,v10))=>[]) (fun (_,(v9,v10))=>q11=(v9,v10)) ?_ ?_
 ·skip
  refine kx rfl hq11 (fun hc12 hq11=>?_) fun hc12 hq11=>?_
  ·refine af ?_
   refine ah [15,16] [(0,pU (cK .u64 v5 8))] (by kernel_rfl) (aQ (ah [17,18] [(2,pI (IntKind.i64.wrap (v6+8)))] (by kernel_rfl) ?_))
   obtain rfl:=osi hq11
   exact aF ((),((cK .u64 v5 8),(IntKind.i64.wrap (v6+8)))) (tG rfl) ce rfl
  refine ai ?_
  obtain rfl:=osi hq11
  exact aF ((),(v5,v6)) (tG rfl) ce rfl
 rintro ⟨_,⟨v9,v10⟩⟩ τ hz;(try dsimp only at hz);subst q11;(try dsimp only at h);dsimp only [aG]
 refine af (ae h fun c13 hc13 h=>?_)
 refine gj h ?_;clear h;intro w14 hw14 h
 refine aa (bi 6 [] (rg 19 5) [(24,pI (IntKind.i64.wrap (v10+(IntKind.i64.wrap (c13.toNat:Int)))))] (fosx 3 (s:=(⟨#[0,1,2,2,3,3,3,3,4,4,4,4,4,4,4,4,5,5,5,5,5,5,5,5,5,5,5,5,5,5,5,5,6,6,6,6,6,6,6,6,6,6,6,6,6,6,6,6,6,6,6,6,6,6,6,6,6,6,6,6,6,6,6,6,7,7,7,7,7,7,7,7,7,7,7,7,7,7,7,7,7,7,7,7,7,7,7,7,7,7,7,7,7,7,7,7,7,7,7,7,7,7,7,7,7,7,7,7,7,7,7,7,7,7,7,7,7,7,7,7,7,7,7,7,7,7,7,7,8,8,8,8,8,8,8,8,8,8,8,8,8,8,8,8,8,8,8,8,8,8,8,8,8,8,8,8,8,8,8,8,8,8,8,8,8,8,8,8,8,8,8,8,8,8,8,8,8,8,8,8,8,8,8,8,8,8,8,8,8,8,8,8,8,8,8,8,8,8,8,8,8,8,8,8,8,8,8,8,8,8,8,8,8,8,8,8,8,8,8,8,8,8,8,8,8,8,8,8,8,8,8,8,8,8,8,8,8,8,8,8,8,8,8,8,8,8,8,8,8,8,8,8,8,8,8,8]⟩:ByteArray)) hc13 bG) (by kernel_rfl) (bY rfl rfl rfl (cB rfl (.p (congrArg (fun z=>PV.v (Value.int .i64 z)) hw14))) (aw (dX ?_))))
 exact zz r h rfl
def dI (p0:Int):Option Int:=(gb p0).bind fun x1=>some (IntKind.i64.wrap (64 - x1))
theorem lW {p0:Int} {r:Int}  (h:dI p0=some r):PF 213 [pU p0] (pI r):=by
 unfold dI at h
 refine bt ?_
 refine eQ Tryz.func213 rfl Tryz.ntmps213 Tryz.results213 rfl (be [2] (by kernel_rfl) (dQ h fun x1 hx1 h=>aq [] [3,4,5] [(2,pI (IntKind.i64.wrap (64 - x1)))] (bJ 1 (rt hx1) bG) (by kernel_rfl) (dX ?_)))
 exact zz r h rfl
def ib (p0:Int) (p1:Int) (p2:Int):Option (Int×Int):=cond (p2 == 0) (none) (cond (decide (p2≤p0)) (none) (cond (p0 == 0) ((nz p2).bind fun u4=>(nz p2).bind fun u5=>some ((IntKind.u64.wrap (Int.tdiv p1 p2)),(Int.tmod p1 p2))) ((dI p2).bind fun x6=>(ln (IntKind.u64.wrap x6)).bind fun u7=>lb ((cK .u64 (fZ .u64 p2 (IntKind.u64.wrap x6)) 32)) (fun w8=>lb ((dZ .u64 (fZ .u64 p2 (IntKind.u64.wrap x6)) 4294967295)) (fun w9=>(ln (IntKind.u64.wrap x6)).bind fun u10=>(ln (IntKind.u64.wrap (64 - (IntKind.u64.wrap x6)))).bind fun u11=>lb ((qQ .u64 (fZ .u64 p0 (IntKind.u64.wrap x6)) (cK .u64 p1 (IntKind.u64.wrap (64 - (IntKind.u64.wrap x6)))))) (fun w12=>(ln (IntKind.u64.wrap x6)).bind fun u13=>lb ((cK .u64 (fZ .u64 p1 (IntKind.u64.wrap x6)) 32)) (fun w14=>lb ((dZ .u64 (fZ .u64 p1 (IntKind.u64.wrap x6)) 4294967295)) (fun w15=>(nz w8).bind fun u16=>lb ((IntKind.u64.wrap (w12 - (IntKind.u64.wrap ((IntKind.u64.wrap (Int.tdiv w12 w8))*w8))))) (fun w17=>(aO (S:=Int×Int) (T:=(Int)) (fun (v18,v19)=>cond ((decide (4294967296≤v18))||(decide ((IntKind.u64.wrap ((IntKind.u64.wrap (4294967296*v19))+w14))<(IntKind.u64.wrap (v18*w9))))) (cond (decide (4294967296≤(IntKind.u64.wrap (v19+w8)))) (some (.inr (IntKind.u64.wrap (v18 - 1)))) (some (.inl ((IntKind.u64.wrap (v18 - 1)),(IntKind.u64.wrap (v19+w8)))))) (some (.inr v18))) FUEL ((IntKind.u64.wrap (Int.tdiv w12 w8)),w17)).bind fun v20=>lb ((IntKind.u64.wrap ((IntKind.u64.wrap ((IntKind.u64.wrap (w12*4294967296))+w14)) - (IntKind.u64.wrap (v20*(fZ .u64 p2 (IntKind.u64.wrap x6))))))) (fun w25=>(nz w8).bind fun u26=>lb ((IntKind.u64.wrap (w25 - (IntKind.u64.wrap ((IntKind.u64.wrap (Int.tdiv w25 w8))*w8))))) (fun w27=>(aO (S:=Int×Int) (T:=(Int)) (fun (v28,v29)=>cond ((decide (4294967296≤v29))||(decide ((IntKind.u64.wrap ((IntKind.u64.wrap (4294967296*v28))+w15))<(IntKind.u64.wrap (v29*w9))))) (cond (decide (4294967296≤(IntKind.u64.wrap (v28+w8)))) (some (.inr (IntKind.u64.wrap (v29 - 1)))) (some (.inl ((IntKind.u64.wrap (v28+w8)),(IntKind.u64.wrap (v29 - 1)))))) (some (.inr v29))) FUEL (w27,(IntKind.u64.wrap (Int.tdiv w25 w8)))).bind fun v30=>(ln (IntKind.u64.wrap x6)).bind fun u35=>lb ((IntKind.u64.wrap ((IntKind.u64.wrap (v20*4294967296))+v30))) (fun w36=>lb ((cK .u64 (IntKind.u64.wrap ((IntKind.u64.wrap ((IntKind.u64.wrap (w25*4294967296))+w15)) - (IntKind.u64.wrap (v30*(fZ .u64 p2 (IntKind.u64.wrap x6)))))) (IntKind.u64.wrap x6))) (fun w37=>some (w36,w37))))))))))))))
theorem ru {p0:Int} {p1:Int} {p2:Int} {r:(Int×Int)}  (h:ib p0 p1 p2=some r):PF 200 [pU p0,pU p1,pU p2] (.tup [pU r.1,pU r.2]):=by
 unfold ib at h
 refine bt ?_
 refine eQ Tryz.func200 rfl Tryz.ntmps200 Tryz.results200 rfl (be [6,7] (by kernel_rfl) (dr (ah [19] [(20,pB (p2 == 0))] (by kernel_rfl) (cE rfl h (fun hc1 h=>?_) fun hc1 h=>?_))))
 ·refine aa ?_
  exact absurd h (by simp)
 refine ai ?_
 refine dr (ah [22,23] [(24,pB (decide (p2≤p0)))] (by kernel_rfl) (cE rfl h (fun hc2 h=>?_) fun hc2 h=>?_))
 ·refine aa ?_
  exact absurd h (by simp)
 refine ai ?_
 refine dr (ah [26] [(27,pB (p0 == 0))] (by kernel_rfl) (cE rfl h (fun hc3 h=>?_) fun hc3 h=>?_))
 ·refine af ?_
  refine co (ρd:=[]) [(0,0),(1,0),(2,0),(3,0),(4,0),(5,0),(6,0),(7,0)] _ (List.Perm.refl _) (by kernel_rfl) rfl (ae h fun u4 hu4 h=>ae h fun u5 hu5 h=>cC 8 [] (rg 28 6) [(6,pU (IntKind.u64.wrap (Int.tdiv p1 p2))),(7,pU (Int.tmod p1 p2))] (C5 2 hu4 (C5 5 hu5 bG)) (by kernel_rfl) (cQ (dX (ap ?_))))
  obtain rfl:=osi h
  exact aL (dH (aN rfl) (aN rfl)) ce ⟨rfl,rfl⟩
 refine ai ?_
 refine dQ h fun x6 hx6 h=>aq [] [34,35,36] [(8,pU (IntKind.u64.wrap x6))] (bJ 1 (lW hx6) bG) (by kernel_rfl) (dQ h fun u7 hu7 h=>aq [] [37,38,39] [(2,pU (fZ .u64 p2 (IntKind.u64.wrap x6)))] (xN 2 hu7 bG) (by kernel_rfl) (bQ ?_))
 refine gj h ?_;clear h;intro w8 hw8 h
 refine aa (cV 2 [40] [(41,pU (cK .u64 (fZ .u64 p2 (IntKind.u64.wrap x6)) 32))] (by kernel_rfl) (bY rfl rfl rfl (cB rfl (.p (congrArg (fun z=>PV.v (Value.int .u64 z)) hw8))) (aw (bQ ?_))))
 refine gj h ?_;clear h;intro w9 hw9 h
 refine aa (cV 2 [42] [(43,pU (dZ .u64 (fZ .u64 p2 (IntKind.u64.wrap x6)) 4294967295))] (by kernel_rfl) (bY rfl rfl rfl (cB rfl (.p (congrArg (fun z=>PV.v (Value.int .u64 z)) hw9))) (aw (dQ h fun u10 hu10 h=>ae h fun u11 hu11 h=>?_))))
 refine gj h ?_;clear h;intro w12 hw12 h
 refine aa (bi 8 [] (rg 44 7) [(51,pU (qQ .u64 (fZ .u64 p0 (IntKind.u64.wrap x6)) (cK .u64 p1 (IntKind.u64.wrap (64 - (IntKind.u64.wrap x6))))))] (xN 2 hu10 (xN 6 hu11 bG)) (by kernel_rfl) (bY rfl rfl rfl (cB rfl (.p (congrArg (fun z=>PV.v (Value.int .u64 z)) hw12))) (aw (dQ h fun u13 hu13 h=>aq [] [52,53,54] [(12,pU (fZ .u64 p1 (IntKind.u64.wrap x6)))] (xN 2 hu13 bG) (by kernel_rfl) (bQ ?_)))))
 refine gj h ?_;clear h;intro w14 hw14 h
 refine aa (cV 2 [55] [(56,pU (cK .u64 (fZ .u64 p1 (IntKind.u64.wrap x6)) 32))] (by kernel_rfl) (bY rfl rfl rfl (cB rfl (.p (congrArg (fun z=>PV.v (Value.int .u64 z)) hw14))) (aw (bQ ?_))))
 refine gj h ?_;clear h;intro w15 hw15 h
 refine aa (cV 2 [57] [(58,pU (dZ .u64 (fZ .u64 p1 (IntKind.u64.wrap x6)) 4294967295))] (by kernel_rfl) (bY rfl rfl rfl (cB rfl (.p (congrArg (fun z=>PV.v (Value.int .u64 z)) hw15))) (aw (dQ h fun u16 hu16 h=>aq [] [59,60,61] [(15,pU (IntKind.u64.wrap (Int.tdiv w12 w8)))] (C5 2 hu16 bG) (by kernel_rfl) (bQ ?_)))))
 refine gj h ?_;clear h;intro w17 hw17 h
 refine aa (cV 5 [62,63,64,65] [(66,pU (IntKind.u64.wrap (w12 - (IntKind.u64.wrap ((IntKind.u64.wrap (Int.tdiv w12 w8))*w8)))))] (by kernel_rfl) (bY rfl rfl rfl (cB rfl (.p (congrArg (fun z=>PV.v (Value.int .u64 z)) hw17))) (aw (dQ h fun q22 hq22 h=>?_))))
 refine aA (Y:=Unit×Int) (fun (_,v20)=>[(2,pU (fZ .u64 p2 (IntKind.u64.wrap x6))),(8,pU (IntKind.u64.wrap x6)),(9,pU w8),(10,pU w9),(11,pU w12),(13,pU w14),(14,pU w15),(15,pU v20)]) (fun (_,v20)=>[]) (fun (_,v20)=>q22=v20) ?_ ?_
 ·refine aI ?_
  refine aM (Y:=Unit) (S:=Int×Int) _ hq22 (fun _ (v18,v19)=>[(2,pU (fZ .u64 p2 (IntKind.u64.wrap x6))),(8,pU (IntKind.u64.wrap x6)),(9,pU w8),(10,pU w9),(11,pU w12),(13,pU w14),(14,pU w15),(15,pU v18),(16,pU v19)]) (fun _ (v18,v19)=>[]) () (DR rfl) ce ?_
  rintro _ ⟨v18,v19⟩ o τ hb21;(try dsimp only at hb21);dsimp only [aG]
  refine af (af (ah (rg 67 11) [(78,pB ((decide (4294967296≤v18))||(decide ((IntKind.u64.wrap ((IntKind.u64.wrap (4294967296*v19))+w14))<(IntKind.u64.wrap (v18*w9))))))] (by kernel_rfl) (cE rfl hb21 (fun hc23 hb21=>?_) fun hc23 hb21=>?_)))
  ·refine ai ?_
   refine aQ (iA (ah [79,80] [(15,pU (IntKind.u64.wrap (v18 - 1)))] (by kernel_rfl) (bQ (ah [81,82,83] [(16,pU (IntKind.u64.wrap (v19+w8)))] (by kernel_rfl) (bQ (ah [84] [(85,pB (decide (4294967296≤(IntKind.u64.wrap (v19+w8)))))] (by kernel_rfl) (cE rfl hb21 (fun hc24 hb21=>?_) fun hc24 hb21=>?_)))))))
   ·refine aW ?_
    refine pr rfl (an hb21 (fun ht=>ar rfl ?_))
    exact aF ((),(IntKind.u64.wrap (v18 - 1))) (rn rfl) ce ht.symm
   refine ai ?_
   refine aH ?_
   exact bj hb21 () (DR rfl) ce
  refine aW ?_
  refine av (an hb21 (fun ht=>ar rfl ?_))
  exact aF ((),v18) (rn rfl) ce ht.symm
 rintro ⟨_,v20⟩ τ hz;(try dsimp only at hz);subst q22;(try dsimp only at h);dsimp only [aG]
 refine af ?_
 refine gj h ?_;clear h;intro w25 hw25 h
 refine aa (cV 8 (rg 86 7) [(93,pU (IntKind.u64.wrap ((IntKind.u64.wrap ((IntKind.u64.wrap (w12*4294967296))+w14)) - (IntKind.u64.wrap (v20*(fZ .u64 p2 (IntKind.u64.wrap x6)))))))] (by kernel_rfl) (bY rfl rfl rfl (cB rfl (.p (congrArg (fun z=>PV.v (Value.int .u64 z)) hw25))) (aw (dQ h fun u26 hu26 h=>aq [] [94,95,96] [(18,pU (IntKind.u64.wrap (Int.tdiv w25 w8)))] (C5 2 hu26 bG) (by kernel_rfl) (bQ ?_)))))
 refine gj h ?_;clear h;intro w27 hw27 h
 refine aa (cV 5 [97,98,99,100] [(101,pU (IntKind.u64.wrap (w25 - (IntKind.u64.wrap ((IntKind.u64.wrap (Int.tdiv w25 w8))*w8)))))] (by kernel_rfl) (bY rfl rfl rfl (cB rfl (.p (congrArg (fun z=>PV.v (Value.int .u64 z)) hw27))) (aw (dQ h fun q32 hq32 h=>?_))))
 refine aA (Y:=Unit×Int) (fun (_,v30)=>[(2,pU (fZ .u64 p2 (IntKind.u64.wrap x6))),(8,pU (IntKind.u64.wrap x6)),(14,pU w15),(15,pU v20),(17,pU w25),(18,pU v30)]) (fun (_,v30)=>[]) (fun (_,v30)=>q32=v30) ?_ ?_
 ·refine aI ?_
  refine aM (Y:=Unit) (S:=Int×Int) _ hq32 (fun _ (v28,v29)=>[(2,pU (fZ .u64 p2 (IntKind.u64.wrap x6))),(8,pU (IntKind.u64.wrap x6)),(9,pU w8),(10,pU w9),(14,pU w15),(15,pU v20),(16,pU v28),(17,pU w25),(18,pU v29)]) (fun _ (v28,v29)=>[]) () (DR rfl) ce ?_
  rintro _ ⟨v28,v29⟩ o τ hb31;(try dsimp only at hb31);dsimp only [aG]
  refine af (af (ah (rg 102 11) [(113,pB ((decide (4294967296≤v29))||(decide ((IntKind.u64.wrap ((IntKind.u64.wrap (4294967296*v28))+w15))<(IntKind.u64.wrap (v29*w9))))))] (by kernel_rfl) (cE rfl hb31 (fun hc33 hb31=>?_) fun hc33 hb31=>?_)))
  ·refine ai ?_
   refine aQ (iA (ah [114,115] [(18,pU (IntKind.u64.wrap (v29 - 1)))] (by kernel_rfl) (bQ (ah [116,117,118] [(16,pU (IntKind.u64.wrap (v28+w8)))] (by kernel_rfl) (bQ (ah [119] [(120,pB (decide (4294967296≤(IntKind.u64.wrap (v28+w8)))))] (by kernel_rfl) (cE rfl hb31 (fun hc34 hb31=>?_) fun hc34 hb31=>?_)))))))
   ·refine aW ?_
    refine pr rfl (an hb31 (fun ht=>ar rfl ?_))
    exact aF ((),(IntKind.u64.wrap (v29 - 1))) (xJ rfl) ce ht.symm
   refine ai ?_
   refine aH ?_
   exact bj hb31 () (DR rfl) ce
  refine aW ?_
  refine av (an hb31 (fun ht=>ar rfl ?_))
  exact aF ((),v29) (xJ rfl) ce ht.symm
 rintro ⟨_,v30⟩ τ hz;(try dsimp only at hz);subst q32;(try dsimp only at h);dsimp only [aG]
 refine af (ae h fun u35 hu35 h=>?_)
 refine gj h ?_;clear h;intro w36 hw36 h
 refine aa (bi 14 [] [121,122,123,125,126,127,128,129,130,131,132,133] [(124,pU (IntKind.u64.wrap ((IntKind.u64.wrap (v20*4294967296))+v30))),(134,pU (cK .u64 (IntKind.u64.wrap ((IntKind.u64.wrap ((IntKind.u64.wrap (w25*4294967296))+w15)) - (IntKind.u64.wrap (v30*(fZ .u64 p2 (IntKind.u64.wrap x6)))))) (IntKind.u64.wrap x6)))] (xN 13 hu35 bG) (by kernel_rfl) (bY rfl rfl rfl (cB rfl (.p (congrArg (fun z=>PV.v (Value.int .u64 z)) hw36))) ?_))
 refine gj h ?_;clear h;intro w37 hw37 h
 refine bY rfl rfl rfl (cB rfl (.p (congrArg (fun z=>PV.v (Value.int .u64 z)) hw37))) (aw (dX ?_))
 obtain rfl:=osi h
 exact aL (dH (aN rfl) (aN rfl)) ce ⟨rfl,rfl⟩
def j6 (p0:Int) (p1:Int) (p2:Int) (p3:Int):Option Bool:=cond (p3 == 1) (some (decide (0<p1))) (cond (p3 == 2) (some (decide ((IntKind.u64.wrap (p2 - p1))≤p1))) (cond (p3 == 3) (some ((decide ((IntKind.u64.wrap (p2 - p1))<p1))||((p1 == (IntKind.u64.wrap (p2 - p1)))&&((Int.tmod p0 2) == 1)))) (some false)))
theorem tI {p0:Int} {p1:Int} {p2:Int} {p3:Int} {r:Bool}  (h:j6 p0 p1 p2 p3=some r):PF 201 [pU p0,pU p1,pU p2,pI p3] (pB r):=by
 unfold j6 at h
 refine bt ?_
 refine eQ Tryz.func201 rfl Tryz.ntmps201 Tryz.results201 rfl (be [8] (by kernel_rfl) (bQ (ah [10,11,12] [(9,pU (IntKind.u64.wrap (p2 - p1)))] (by kernel_rfl) (dr (al [(13,pI p3)] (by kernel_rfl) (aQ (iA (ah [15] [(14,pB (p3 == 1))] (by kernel_rfl) (cE rfl h (fun hc1 h=>?_) fun hc1 h=>?_)))))))))
 ·refine af ?_
  refine ah [16,17] [(8,pB (decide (0<p1)))] (by kernel_rfl) (dX (iZ ?_))
  exact zz r h rfl
 refine af ?_
 refine ah [19] [(18,pB (p3 == 2))] (by kernel_rfl) (cE rfl h (fun hc2 h=>?_) fun hc2 h=>?_)
 ·refine af ?_
  refine ah [20,21,22] [(8,pB (decide ((IntKind.u64.wrap (p2 - p1))≤p1)))] (by kernel_rfl) (dX (iZ ?_))
  exact zz r h rfl
 refine af ?_
 refine ah [24] [(23,pB (p3 == 3))] (by kernel_rfl) (cE rfl h (fun hc3 h=>?_) fun hc3 h=>?_)
 ·refine af ?_
  refine ah (rg 25 13) [(8,pB ((decide ((IntKind.u64.wrap (p2 - p1))<p1))||((p1 == (IntKind.u64.wrap (p2 - p1)))&&((Int.tmod p0 2) == 1))))] (by kernel_rfl) (dX (iZ ?_))
  exact zz r h rfl
 refine ai ?_
 refine aH (bQ (fT [(8,pB false)] (by kernel_rfl) ?_))
 exact zz r h rfl
def nQ (p0:Zo) (p1:Int) (p2:Int):Option (Int×Int):=cond (((p1 == 0)||(decide (p2<0)))||(decide (3<p2))) (some ((0:Int),(2:Int))) (cond (decide (p1≤p0.Hi)) (some ((0:Int),(3:Int))) ((ib p0.Hi p0.Lo p1).bind fun x4=>(j6 x4.1 x4.2 p1 p2).bind fun x5=>cond (!x5) (some (x4.1,(0:Int))) (cond (x4.1 == 18446744073709551615) (some ((0:Int),(3:Int))) (some ((IntKind.u64.wrap (x4.1+1)),(0:Int))))))
theorem xV {p0:Zo} {p1:Int} {p2:Int} {r:(Int×Int)}  (h:nQ p0 p1 p2=some r):PF 171 [.agg [pU p0.Hi,pU p0.Lo],pU p1,pI p2] (.tup [pU r.1,pI r.2]):=by
 unfold nQ at h
 refine bt ?_
 refine eQ Tryz.func171 rfl Tryz.ntmps171 Tryz.results171 rfl (aa (aj rfl (br (cs:=[pU p0.Hi,pU p0.Lo]) rfl rfl (fun b1=>bm [6,7] (by kernel_rfl) (dr (ah (rg 10 9) [(19,pB (((p1 == 0)||(decide (p2<0)))||(decide (3<p2))))] (by kernel_rfl) (cE rfl h (fun hc2 h=>?_) fun hc2 h=>?_)))))))
 ·refine af ?_
  refine fT [(6,pU 0),(7,pI 2)] (by kernel_rfl) (ap ?_)
  obtain rfl:=osi h
  exact aL (dH (aN rfl) (aN rfl)) ce ⟨rfl,rfl⟩
 refine ai ?_
 refine dr (bk [0] [20,21,22] [(23,pB (decide (p1≤p0.Hi)))] (by kernel_rfl) (cE rfl h (fun hc3 h=>?_) fun hc3 h=>?_))
 ·refine af ?_
  refine fT [(6,pU 0),(7,pI 3)] (by kernel_rfl) (ap ?_)
  obtain rfl:=osi h
  exact aL (dH (aN rfl) (aN rfl)) ce ⟨rfl,rfl⟩
 refine ai ?_
 refine dQ h fun x4 hx4 h=>aq [0,0] ((rg 25 6)++[24,31,32]) [(8,pU x4.1),(9,pU x4.2)] (bJ 5 (ru hx4) bG) (by kernel_rfl) (dr (ae h fun x5 hx5 h=>aq [] (rg 33 5) [(38,pB (!x5))] (bJ 4 (tI hx5) bG) (by kernel_rfl) (cE rfl h (fun hc6 h=>?_) fun hc6 h=>?_)))
 ·refine af ?_
  refine ah [39] [(6,pU x4.1),(7,pI 0)] (by kernel_rfl) (dX (ap ?_))
  obtain rfl:=osi h
  exact aL (dH (aN rfl) (aN rfl)) ce ⟨rfl,rfl⟩
 refine ai ?_
 refine dr (ah [40] [(41,pB (x4.1 == 18446744073709551615))] (by kernel_rfl) (cE rfl h (fun hc7 h=>?_) fun hc7 h=>?_))
 ·refine af ?_
  refine fT [(6,pU 0),(7,pI 3)] (by kernel_rfl) (ap ?_)
  obtain rfl:=osi h
  exact aL (dH (aN rfl) (aN rfl)) ce ⟨rfl,rfl⟩
 refine ai ?_
 refine bQ (ah [42,43] [(6,pU (IntKind.u64.wrap (x4.1+1))),(7,pI 0)] (by kernel_rfl) (dX ?_))
 obtain rfl:=osi h
 exact aL (dH (aN rfl) (aN rfl)) ce ⟨rfl,rfl⟩
def ic (p0:Int) (p1:Int):Option (Int×Int):=lb ((IntKind.u64.wrap ((dZ .u64 p0 4294967295)*(dZ .u64 p1 4294967295)))) (fun w1=>lb ((IntKind.u64.wrap ((IntKind.u64.wrap ((cK .u64 p0 32)*(dZ .u64 p1 4294967295)))+(cK .u64 w1 32)))) (fun w2=>lb ((IntKind.u64.wrap ((dZ .u64 w2 4294967295)+(IntKind.u64.wrap ((dZ .u64 p0 4294967295)*(cK .u64 p1 32)))))) (fun w3=>lb ((IntKind.u64.wrap ((IntKind.u64.wrap ((IntKind.u64.wrap ((cK .u64 p0 32)*(cK .u64 p1 32)))+(cK .u64 w2 32)))+(cK .u64 w3 32)))) (fun w4=>some (w4,(IntKind.u64.wrap (p0*p1)))))))
theorem rx {p0:Int} {p1:Int} {r:(Int×Int)}  (h:ic p0 p1=some r):PF 202 [pU p0,pU p1] (.tup [pU r.1,pU r.2]):=by
 unfold ic at h
 refine bt ?_
 refine eQ Tryz.func202 rfl Tryz.ntmps202 Tryz.results202 rfl (be [4,5] (by kernel_rfl) (bQ (ah [14,15] [(6,pU (dZ .u64 p0 4294967295))] (by kernel_rfl) (bQ (ah [16,17] [(7,pU (cK .u64 p0 32))] (by kernel_rfl) (bQ (ah [18,19] [(8,pU (dZ .u64 p1 4294967295))] (by kernel_rfl) (bQ (ah [20,21] [(9,pU (cK .u64 p1 32))] (by kernel_rfl) (bQ ?_))))))))))
 refine gj h ?_;clear h;intro w1 hw1 h
 refine aa (cV 3 [22,23] [(24,pU (IntKind.u64.wrap ((dZ .u64 p0 4294967295)*(dZ .u64 p1 4294967295))))] (by kernel_rfl) (bY rfl rfl rfl (cB rfl (.p (congrArg (fun z=>PV.v (Value.int .u64 z)) hw1))) (aw (bQ ?_))))
 refine gj h ?_;clear h;intro w2 hw2 h
 refine aa (cV 6 (rg 25 5) [(30,pU (IntKind.u64.wrap ((IntKind.u64.wrap ((cK .u64 p0 32)*(dZ .u64 p1 4294967295)))+(cK .u64 w1 32))))] (by kernel_rfl) (bY rfl rfl rfl (cB rfl (.p (congrArg (fun z=>PV.v (Value.int .u64 z)) hw2))) (aw (bQ (ah [31,32] [(12,pU (dZ .u64 w2 4294967295))] (by kernel_rfl) (bQ (ah [33,34] [(13,pU (cK .u64 w2 32))] (by kernel_rfl) (bQ ?_))))))))
 refine gj h ?_;clear h;intro w3 hw3 h
 refine aa (cV 5 [35,36,37,38] [(39,pU (IntKind.u64.wrap ((dZ .u64 w2 4294967295)+(IntKind.u64.wrap ((dZ .u64 p0 4294967295)*(cK .u64 p1 32))))))] (by kernel_rfl) (bY rfl rfl rfl (cB rfl (.p (congrArg (fun z=>PV.v (Value.int .u64 z)) hw3))) (aw (bQ ?_))))
 refine gj h ?_;clear h;intro w4 hw4 h
 refine aa (cV 8 (rg 40 7) [(47,pU (IntKind.u64.wrap ((IntKind.u64.wrap ((IntKind.u64.wrap ((cK .u64 p0 32)*(cK .u64 p1 32)))+(cK .u64 w2 32)))+(cK .u64 w3 32))))] (by kernel_rfl) (bY rfl rfl rfl (cB rfl (.p (congrArg (fun z=>PV.v (Value.int .u64 z)) hw4))) (aw (bQ (ah [48,49,50] [(5,pU (IntKind.u64.wrap (p0*p1)))] (by kernel_rfl) (dX ?_))))))
 obtain rfl:=osi h
 exact aL (dH (aN rfl) (aN rfl)) ce ⟨rfl,rfl⟩
def jD (p0:Int) (p1:Int):Option Zo:=(ic p0 p1).bind fun x2=>some (⟨x2.1,x2.2⟩:Zo)
theorem oz {p0:Int} {p1:Int} {r:Zo}  (h:jD p0 p1=some r):PF 172 [pU p0,pU p1] (.agg [pU r.Hi,pU r.Lo]):=by
 unfold jD at h
 refine bt ?_
 refine eQ Tryz.func172 rfl Tryz.ntmps172 Tryz.results172 rfl (aa (aj rfl (aV (cs:=[pU 0,pU 0]) rfl rfl rfl rfl (fun b1=>aw (dQ h fun x2 hx2 h=>aq [] [8,9,10,7,11,12] [(5,pU x2.1),(6,pU x2.2)] (bJ 2 (rx hx2) bG) (by kernel_rfl) (bQ (aa (cV 3 [13,14] [(15,.agg [pU x2.1,pU x2.2])] (by kernel_rfl) (ba rfl rfl (am (vs:=[pU x2.1,pU x2.2]) rfl rfl rfl rfl rfl cP B4 (aw (dX ?_))))))))))))
 obtain rfl:=osi h
 exact aL (cT (gA rfl e8 rfl)) ce ⟨rfl,rfl⟩
def lX (p0:Int) (p1:Int) (p2:Int) (p3:Int):Option (Int×Int):=(jD p0 p1).bind fun x1=>(nQ x1 p2 p3).bind fun x2=>some (x2.1,x2.2)
theorem tJ {p0:Int} {p1:Int} {p2:Int} {p3:Int} {r:(Int×Int)}  (h:lX p0 p1 p2 p3=some r):PF 141 [pU p0,pU p1,pU p2,pI p3] (.tup [pU r.1,pI r.2]):=by
 unfold lX at h
 refine bt ?_
 refine eQ Tryz.func141 rfl Tryz.ntmps141 Tryz.results141 rfl (be [8,9] (by kernel_rfl) (dQ h fun x1 hx1 h=>ae h fun x2 hx2 h=>aq [] (rg 10 8) [(8,pU x2.1),(9,pI x2.2)] (bJ 2 (oz hx1) (bJ 5 (xV hx2) bG)) (by kernel_rfl) (dX ?_)))
 obtain rfl:=osi h
 exact aL (dH (aN rfl) (aN rfl)) ce ⟨rfl,rfl⟩
def fJ (p0:Int) (p1:Int) (p2:Int):Option Int:=(lX (IntKind.u64.wrap p0) (IntKind.u64.wrap p1) (IntKind.u64.wrap p2) 1).bind fun x1=>cond ((x1.2 != 0)||(decide (1000000000000<x1.1))) (some (1000000000000:Int)) (some (IntKind.i64.wrap x1.1))
theorem pa {p0:Int} {p1:Int} {p2:Int} {r:Int}  (h:fJ p0 p1 p2=some r):PF 99 [pI p0,pI p1,pI p2] (pI r):=by
 unfold fJ at h
 refine bt ?_
 refine eQ Tryz.func99 rfl Tryz.ntmps99 Tryz.results99 rfl (be [6] (by kernel_rfl) (dQ h fun x1 hx1 h=>aq [] ((rg 10 7)++[9,17,18]) [(7,pU x1.1),(8,pI x1.2)] (bJ 6 (tJ hx1) bG) (by kernel_rfl) (dr (ah (rg 19 5) [(24,pB ((x1.2 != 0)||(decide (1000000000000<x1.1))))] (by kernel_rfl) (cE rfl h (fun hc2 h=>?_) fun hc2 h=>?_)))))
 ·refine af ?_
  refine fT [(6,pI 1000000000000)] (by kernel_rfl) (ap ?_)
  exact zz r h rfl
 refine ai ?_
 refine bQ (ah [25,26] [(6,pI (IntKind.i64.wrap x1.1))] (by kernel_rfl) (dX ?_))
 exact zz r h rfl
def kN (p0:(List Int)):Option Int:=(aO (S:=Int) (T:=(Unit)⊕(_)) (fun v1=>cond (decide (v1<(p0.length:Int))) ((idx p0 v1).bind fun m5=>cond (m5 != 0) (some (.inr (.inr m5))) (some (.inl (IntKind.i64.wrap (v1+1))))) (some (.inr (.inl ())))) FUEL 0).bind fun q=>match q with | .inl _=>some (0:Int) | .inr e=>some e
theorem qX {p0:(List Int)} {r:Int}  (h:kN p0=some r):PF 102 [pL eI p0] (pI r):=by
 unfold kN at h
 refine bt ?_
 refine eQ Tryz.func102 rfl Tryz.ntmps102 Tryz.results102 rfl (be [2] (by kernel_rfl) (bQ (al [(3,pI 0)] (by kernel_rfl) (dr (al [(6,pL eI p0),(7,pI (p0.length:Int)),(8,pI 0)] (by kernel_rfl) (jo h fun q3 hq3 h=>?_))))))
 refine aA (Y:=Unit×Unit) (fun (_,_)=>[(3,pI 0)]) (fun (_,_)=>[]) (fun (_,_)=>q3=Sum.inl ()) ?_ ?_
 ·refine aI ?_
  refine aM (Y:=Unit) (S:=Int) _ hq3 (fun _ v1=>[(3,pI 0),(6,pL eI p0),(7,pI (p0.length:Int)),(8,pI v1)]) (fun _ v1=>[]) () (lq rfl) ce ?_
  rintro _ v1 o τ hb2;(try dsimp only at hb2);dsimp only [aG]
  refine af (al [(9,pB (decide (v1<(p0.length:Int))))] (by kernel_rfl) (bQ (kx rfl hb2 (fun hc4 hb2=>?_) fun hc4 hb2=>?_)))
  ·refine ai ?_
   refine bQ (iA (ae hb2 fun m5 hm5 hb2=>aq [] [10,11] [(5,pI m5)] (eU 0 eI hm5 bG) (by kernel_rfl) (bQ (ah [12,13] [(14,pB (m5 != 0))] (by kernel_rfl) (cE rfl hb2 (fun hc6 hb2=>?_) fun hc6 hb2=>?_)))))
   ·refine af ?_
    refine ah [15] [(2,pI m5)] (by kernel_rfl) (dX (iZ ?_))
    refine aX hb2 (fun ht=>?_);subst ht
    refine az (aU ?_)
    exact zz r h rfl
   refine ai ?_
   refine fU (ah [16] [(8,pI (IntKind.i64.wrap (v1+1)))] (by kernel_rfl) ?_)
   exact bj hb2 () (lq rfl) ce
  refine aW ?_
  refine av (an hb2 (fun ht=>ar rfl ?_))
  exact aF ((),()) (wz rfl) ce ht.symm
 rintro ⟨_,_⟩ τ hz;(try dsimp only at hz);subst q3;(try dsimp only at h);dsimp only [aG]
 refine af (ah [17] [(2,pI 0)] (by kernel_rfl) (dX ?_))
 exact zz r h rfl
def eV (p0:Za) (p1:Za):Option Int:=(dL p0.Product p1.Product).bind fun x3=>(dL p0.Agreement p1.Agreement).bind fun x4=>(kN [x3,x4]).bind fun x6=>some x6
theorem lY {p0:Za} {p1:Za} {r:Int}  (h:eV p0 p1=some r):PF 50 [.agg [pI p0.Product,pI p0.Agreement],.agg [pI p1.Product,pI p1.Agreement]] (pI r):=by
 unfold eV at h
 refine bt ?_
 refine eQ Tryz.func50 rfl Tryz.ntmps50 Tryz.results50 rfl (aa (aj rfl (br (cs:=[pI p0.Product,pI p0.Agreement]) rfl rfl (fun b1=>aj rfl (br (cs:=[pI p1.Product,pI p1.Agreement]) rfl rfl (fun b2=>bm [4] (by kernel_rfl) (bQ (co (ρd:=[]) [(0,0),(1,0),(2,0),(3,0),(5,0),(6,0),(7,0),(8,0),(4,1),(9,1),(10,1),(11,1),(12,0)] _ (List.Perm.refl _) (by kernel_rfl) rfl (ae h fun x3 hx3 h=>ae h fun x4 hx4 h=>cC 10 [1,0,1,0] [5,6,7,8,10,11,12,13] [(9,pI x3),(14,pI x4)] (bJ 8 (fI hx3) (bJ 9 (fI hx4) bG)) (by kernel_rfl) ?_)))))))))
 refine iX rfl rfl rfl (pl_fz (bD rfl rfl rfl rfl rfl (f0 rfl (f0 rfl ja)) rfl rfl rfl rfl (fun b5=>⟨_,_,_,_,_,_,_,rfl,by (repeat (first | exact aD | apply ak)),?_⟩)))
 refine ae h fun x6 hx6 h=>cC 2 [] [16] [(4,pI x6)] (bJ 0 (qX hx6) bG) (by kernel_rfl) (cQ (dX ?_))
 exact zz r h rfl
def bB (p0:(List Za)):Option (List Za):=cond (decide (((p0.length:Nat):Int)<2)) (some p0) ((aO (S:=Int) (T:=(Unit)⊕(_)) (fun v2=>cond (decide (v2<((p0.length:Nat):Int))) ((idx p0 v2).bind fun m7=>(idx p0 (IntKind.i64.wrap (v2 - 1))).bind fun m8=>cond (Za.eqb m7 m8) ((sub p0 v2 (p0.length:Int)).bind fun l10=>(aO (S:=(List Za)×Int×Int) (T:=((List Za)×Int)) (fun (l12,v13,v14)=>cond (decide (v14<((p0.length - v2.toNat:Nat):Int))) (((ln v14).bind fun u25=>(idx l12 (v2+v14)).bind fun m26=>(ln (IntKind.i64.wrap (v14 - 1))).bind fun u27=>(idx l12 (v2+(IntKind.i64.wrap (v14 - 1)))).bind fun m28=>cond (!(Za.eqb m26 m28)) ((ln v14).bind fun u30=>(idx l12 (v2+v14)).bind fun m31=>(idx l12 v13).bind fun m32=>some ((l12.set v13.toNat m31),(IntKind.i64.wrap (v13+1)))) (some (l12,v13))).bind fun (l22,v23)=>some (.inl (l22,v23,(IntKind.i64.wrap (v14+1))))) (some (.inr (l12,v13)))) FUEL (p0,v2,1)).bind fun (l16,v17)=>(sub l16 v17 (l16.length:Int)).bind fun l34=>(sub (List.take v17.toNat l16++List.replicate (p0.length - v17.toNat) (⟨(0:Int),(0:Int)⟩:Za)) 0 v17).bind fun l35=>some (.inr (.inr l35))) (some (.inl (IntKind.i64.wrap (v2+1))))) (some (.inr (.inl ())))) FUEL 1).bind fun q=>match q with | .inl _=>some p0 | .inr e=>some e)
theorem dm {p0:(List Za)} {a_0:Option Addr}  {n_0:Nat}  {c_0:Nat} {r:(List Za)}  (h:bB p0=some r):PCall 51 [.v (.slice a_0 n_0 c_0)] [PRes.row a_0 n_0 c_0 28 2 (List.map Za.enc p0)] (fun pv ρ'=>∃ a c,pv=.v (.slice a r.length c)∧ρ'=[PRes.row a r.length c 28 2 (List.map Za.enc r)]):=by
 unfold bB at h
 refine lc Tryz.func51 rfl Tryz.ntmps51 Tryz.results51 rfl ?_
 refine iw (enc:=Za.enc) (xs:=p0) (a:=a_0) e8 (fun hl ha=>?_);subst hl;clear ha
 refine af (be [2] (by kernel_rfl) (dr (ah [6,7] [(8,pB (decide (((p0.length:Nat):Int)<2)))] (by kernel_rfl) (cE rfl h (fun hc1 h=>?_) fun hc1 h=>?_))))
 ·refine af ?_
  refine ah [9] [(2,pO a_0 p0.length c_0)] (by kernel_rfl) (dX (ap ?_))
  obtain rfl:=osi h
  exact aL (cT (aN rfl)) dB ⟨_,_,rfl,rfl⟩
 refine ai ?_
 refine dr (al [(3,pI 1)] (by kernel_rfl) (jo h fun q5 hq5 h=>?_))
 refine aA (Y:=Unit×Unit) (fun (_,_)=>[(0,pO a_0 p0.length c_0)]) (fun (_,_)=>[PRes.row a_0 p0.length c_0 28 2 (List.map Za.enc p0)]) (fun (_,_)=>q5=Sum.inl ()) ?_ ?_
 ·refine aI ?_
  refine aM (Y:=Unit) (S:=Int) _ hq5 (fun _ v2=>[(0,pO a_0 p0.length c_0),(3,pI v2)]) (fun _ v2=>[PRes.row a_0 p0.length c_0 28 2 (List.map Za.enc p0)]) () (tG rfl) dB ?_
  rintro _ v2 o τ hb4;(try dsimp only at hb4);dsimp only [aG]
  refine af (af (ah [10,11,12] [(13,pB (decide (v2<((p0.length:Nat):Int))))] (by kernel_rfl) (cE rfl hb4 (fun hc6 hb4=>?_) fun hc6 hb4=>?_)))
  ·refine ai ?_
   refine bQ (iA (co (ρd:=[]) [(0,0),(1,0),(2,0),(3,0),(4,0),(5,0),(6,0),(7,0),(8,0),(9,0)] _ (List.Perm.refl _) (by kernel_rfl) rfl (ae hb4 fun m7 hm7 hb4=>hY 2 [(16,pO a_0 p0.length c_0),(17,pI v2)] (by kernel_rfl) (lm rfl rfl rfl (ez (enc:=Za.enc) (xs:=p0) rfl rfl rfl (.p rfl) e8 (.p rfl) (fun _=>hm7)) (lm rfl rfl rfl (cH (sz:=2) (p:=.agg [pI m7.Product,pI m7.Agreement]) (enc:=Za.enc) (xs:=p0) (a:=a_0) v2 0 m7 rfl (.p rfl) rfl e8 (fun _=>hm7) rfl) (ae hb4 fun m8 hm8 hb4=>mE 3 [21] [(20,pO a_0 p0.length c_0),(22,pI (IntKind.i64.wrap (v2 - 1)))] (by kernel_rfl) (lm rfl rfl rfl (ez (enc:=Za.enc) (xs:=p0) rfl rfl rfl (.p rfl) e8 (.p rfl) (fun _=>hm8)) (lm rfl rfl rfl (cH (sz:=2) (p:=.agg [pI m8.Product,pI m8.Agreement]) (enc:=Za.enc) (xs:=p0) (a:=a_0) (IntKind.i64.wrap (v2 - 1)) 0 m8 rfl (.p rfl) rfl e8 (fun _=>hm8) rfl) (cC 1 [] [] [(25,pB (Za.eqb m7 m8))] (C7 0 Za.eqok28 bG) (by kernel_rfl) (cQ (cE rfl hb4 (fun hc9 hb4=>?_) fun hc9 hb4=>?_)))))))))))
   ·refine af ?_
    refine ae hb4 fun l10 hl10 hb4=>aa (au 2 [(26,pO a_0 p0.length c_0),(27,pI v2)] (by kernel_rfl) (bY rfl rfl rfl (mC (enc:=Za.enc) (xs:=p0) rfl rfl rfl rfl rfl e8 hl10) (aS [(4,pQ a_0 p0.length c_0 v2.toNat 2)] (by kernel_rfl) (dr (al [(5,pI 1)] (by kernel_rfl) (jo hb4 fun q19 hq19 hb4=>?_))))))
    refine aA (Y:=Unit×((List Za)×Int)) (fun (_,(l16,v17))=>[(0,pO a_0 p0.length c_0),(3,pI v17)]) (fun (_,(l16,v17))=>[PRes.row a_0 p0.length c_0 28 2 (List.map Za.enc l16)]) (fun (_,(l16,v17))=>q19=(l16,v17)) ?_ ?_
    ·refine aI ?_
     refine aM (Y:=Unit) (S:=(List Za)×Int×Int) _ hq19 (fun _ (l12,v13,v14)=>[(0,pO a_0 p0.length c_0),(3,pI v13),(4,pQ a_0 p0.length c_0 v2.toNat 2),(5,pI v14)]) (fun _ (l12,v13,v14)=>[PRes.row a_0 p0.length c_0 28 2 (List.map Za.enc l12)]) () (lq rfl) dB ?_
     rintro _ ⟨l12,v13,v14⟩ o τ hb18;(try dsimp only at hb18);dsimp only [aG]
     refine af (af (ah [29,30,31] [(32,pB (decide (v14<((p0.length - v2.toNat:Nat):Int))))] (by kernel_rfl) (cE rfl hb18 (fun hc20 hb18=>?_) fun hc20 hb18=>?_)))
     ·refine ai ?_
      refine dQ hb18 fun q24 hq24 hb18=>?_
      refine aA (Y:=Unit×((List Za)×Int)) (fun (_,(l22,v23))=>[(0,pO a_0 p0.length c_0),(3,pI v23),(4,pQ a_0 p0.length c_0 v2.toNat 2),(5,pI v14)]) (fun (_,(l22,v23))=>[PRes.row a_0 p0.length c_0 28 2 (List.map Za.enc l22)]) (fun (_,(l22,v23))=>q24=(l22,v23)) ?_ ?_
      ·skip
       refine iA (co (ρd:=[]) [(0,0),(1,0),(2,0),(3,0),(4,0),(5,0),(6,0),(7,0),(8,0),(9,0)] _ (List.Perm.refl _) (by kernel_rfl) rfl (ae hq24 fun u25 hu25 hq24=>ae hq24 fun m26 hm26 hq24=>hY 2 [(35,pQ a_0 p0.length c_0 v2.toNat 2),(36,pI v14)] (by kernel_rfl) (lm rfl rfl rfl (jy (enc:=Za.enc) (xs:=l12) (i:=v2) rfl rfl rfl rfl rfl (gm hl10).1.1 (lp hu25) e8 hm26) (lm rfl rfl rfl (cH (sz:=2) (p:=.agg [pI m26.Product,pI m26.Agreement]) (enc:=Za.enc) (xs:=l12) (a:=a_0) (v2+v14) 0 m26 rfl (.p rfl) rfl e8 (fun _=>hm26) rfl) (ae hq24 fun u27 hu27 hq24=>ae hq24 fun m28 hm28 hq24=>mE 3 [40] [(39,pQ a_0 p0.length c_0 v2.toNat 2),(41,pI (IntKind.i64.wrap (v14 - 1)))] (by kernel_rfl) (lm rfl rfl rfl (jy (enc:=Za.enc) (xs:=l12) (i:=v2) rfl rfl rfl rfl rfl (gm hl10).1.1 (lp hu27) e8 hm28) (lm rfl rfl rfl (cH (sz:=2) (p:=.agg [pI m28.Product,pI m28.Agreement]) (enc:=Za.enc) (xs:=l12) (a:=a_0) (v2+(IntKind.i64.wrap (v14 - 1))) 0 m28 rfl (.p rfl) rfl e8 (fun _=>hm28) rfl) (cC 1 [] [] [(44,pB (!(Za.eqb m26 m28)))] (C7 0 Za.eqok28 bG) (by kernel_rfl) (cQ (cE rfl hq24 (fun hc29 hq24=>?_) fun hc29 hq24=>?_))))))))))
       ·refine af ?_
        refine ae hq24 fun u30 hu30 hq24=>ae hq24 fun m31 hm31 hq24=>aa (au 4 [(45,pO a_0 p0.length c_0),(46,pI v13),(47,pQ a_0 p0.length c_0 v2.toNat 2),(48,pI v14)] (by kernel_rfl) (bY rfl rfl rfl (jy (enc:=Za.enc) (xs:=l12) (i:=v2) rfl rfl rfl rfl rfl (gm hl10).1.1 (lp hu30) e8 hm31) (bY rfl rfl rfl (cH (sz:=2) (p:=.agg [pI m31.Product,pI m31.Agreement]) (enc:=Za.enc) (xs:=l12) (a:=a_0) (v2+v14) 0 m31 rfl (.p rfl) rfl e8 (fun _=>hm31) rfl) (ae hq24 fun m32 hm32 hq24=>bY rfl rfl rfl (ez (enc:=Za.enc) (xs:=l12) rfl rfl rfl (.p rfl) e8 (.p rfl) (fun _=>hm32)) (ba rfl rfl (iv (enc:=Za.enc) (xs:=l12) (a:=a_0) v13 0 m32 m31 rfl rfl rfl rfl (fun _=>rfl) rfl rfl hm32 B4 cP (aw (aQ (ah [52,53] [(3,pI (IntKind.i64.wrap (v13+1)))] (by kernel_rfl) (aH ?_))))))))))
        obtain rfl:=osi hq24
        exact aF ((),((l12.set v13.toNat m31),(IntKind.i64.wrap (v13+1)))) (lq rfl) dB rfl
       refine ai ?_
       refine aH ?_
       obtain rfl:=osi hq24
       exact aF ((),(l12,v13)) (lq rfl) dB rfl
      rintro ⟨_,⟨l22,v23⟩⟩ τ hz;(try dsimp only at hz);subst q24;(try dsimp only at hb18);dsimp only [aG]
      refine ah [33,34] [(5,pI (IntKind.i64.wrap (v14+1)))] (by kernel_rfl) ?_
      exact bj hb18 () (lq rfl) dB
     refine aW ?_
     refine av (an hb18 (fun ht=>ar rfl ?_))
     exact aF ((),(l12,v13)) (tG rfl) dB ht.symm
    rintro ⟨_,⟨l16,v17⟩⟩ τ hz;(try dsimp only at hz);subst q19;(try dsimp only at hb4);dsimp only [aG]
    refine af (ae hb4 fun l34 hl34 hb4=>aa (au 2 [(54,pO a_0 p0.length c_0),(55,pI v17)] (by kernel_rfl) (bY rfl rfl rfl (mC (enc:=Za.enc) (xs:=l16) rfl rfl rfl rfl rfl e8 hl34) (ba rfl rfl (wJ (enc:=Za.enc) (xs:=l16) (z0:=(⟨(0:Int),(0:Int)⟩:Za)) (i:=v17) rfl rfl rfl rfl hl34 rfl rfl rfl rfl cP (aw (dQ hb4 fun l35 hl35 hb4=>aa (au 2 [(57,pO a_0 p0.length c_0),(58,pI v17)] (by kernel_rfl) ?_))))))))
    refine aj rfl (wI (enc:=Za.enc) (xs:=(List.take v17.toNat l16++List.replicate (p0.length - v17.toNat) (⟨(0:Int),(0:Int)⟩:Za))) rfl rfl rfl rfl rfl (by exact aD) hl35 ?_)
    refine aS [(2,pO a_0 l35.length c_0)] (by kernel_rfl) (dX (iZ ?_))
    refine aX hb4 (fun ht=>?_);subst ht
    refine az (aU ?_)
    obtain rfl:=osi h
    exact aL (cT (aN rfl)) dB ⟨_,_,rfl,rfl⟩
   refine ai ?_
   refine fU (ah [14,15] [(3,pI (IntKind.i64.wrap (v2+1)))] (by kernel_rfl) ?_)
   exact bj hb4 () (tG rfl) dB
  refine aW ?_
  refine av (an hb4 (fun ht=>ar rfl ?_))
  exact aF ((),()) (wz rfl) dB ht.symm
 rintro ⟨_,_⟩ τ hz;(try dsimp only at hz);subst q5;(try dsimp only at h);dsimp only [aG]
 refine af (ah [60] [(2,pO a_0 p0.length c_0)] (by kernel_rfl) (dX ?_))
 obtain rfl:=osi h
 exact aL (cT (aN rfl)) dB ⟨_,_,rfl,rfl⟩
def gP (p0:Zq):Option Zl:=some p0.use
theorem mI {p0:Zq} {r:Zl}  (h:gP p0=some r):PF 240 [.agg [pS p0.use.Code,pI p0.use.Value,pB p0.use.Originating,pI p0.premise.Product,pI p0.premise.Agreement]] (.agg [pS r.Code,pI r.Value,pB r.Originating]):=by
 unfold gP at h
 refine bt ?_
 refine eQ Tryz.func240 rfl Tryz.ntmps240 Tryz.results240 rfl (aa (aj rfl (br (cs:=[pS p0.use.Code,pI p0.use.Value,pB p0.use.Originating,pI p0.premise.Product,pI p0.premise.Agreement]) rfl rfl (fun b1=>aj rfl (aV (cs:=[pS ByteArray.empty,pI 0,pB false]) rfl rfl rfl rfl (fun b2=>aw (bQ (aa (cw 2 [1] [3] [(4,.agg [pS p0.use.Code,pI p0.use.Value,pB p0.use.Originating])] (by kernel_rfl) (ba rfl rfl (am (vs:=[pS p0.use.Code,pI p0.use.Value,pB p0.use.Originating]) rfl rfl rfl rfl rfl cP zl3 (aw (dX ?_)))))))))))))
 obtain rfl:=osi h
 exact aL (cT (gA rfl e8 rfl)) ce ⟨rfl,rfl⟩
def gX (p0:Zu):Option Zl:=some p0.use
theorem mT {p0:Zu} {r:Zl}  (h:gX p0=some r):PF 241 [.agg [pS p0.use.Code,pI p0.use.Value,pB p0.use.Originating]] (.agg [pS r.Code,pI r.Value,pB r.Originating]):=by
 unfold gX at h
 refine bt ?_
 refine eQ Tryz.func241 rfl Tryz.ntmps241 Tryz.results241 rfl (aa (aj rfl (br (cs:=[pS p0.use.Code,pI p0.use.Value,pB p0.use.Originating]) rfl rfl (fun b1=>aj rfl (aV (cs:=[pS ByteArray.empty,pI 0,pB false]) rfl rfl rfl rfl (fun b2=>aw (bQ (aa (cw 2 [1] [3] [(4,.agg [pS p0.use.Code,pI p0.use.Value,pB p0.use.Originating])] (by kernel_rfl) (ba rfl rfl (am (vs:=[pS p0.use.Code,pI p0.use.Value,pB p0.use.Originating]) rfl rfl rfl rfl rfl cP zl3 (aw (dX ?_)))))))))))))
 obtain rfl:=osi h
 exact aL (cT (gA rfl e8 rfl)) ce ⟨rfl,rfl⟩
def Icumulation_supply_input (x:Ze)  : Option Zl:=match x with | .plain_ a=>gX a  | .proved_ a=>gP a
theorem Icumulation_supply_input_ok {x:Ze}  {w:Zl} (h:Icumulation_supply_input x  = some w):PFI x.pv "customs/cumulation.input" [] (.agg [pS w.Code,pI w.Value,pB w.Originating]):=by
 cases x with
 | plain_ a=>exact pC ⟨fun _ _=>by kernel_rfl⟩ (mT h)
 | proved_ a=>exact pC ⟨fun _ _=>by kernel_rfl⟩ (mI h)
def fK (p0:(List Zc)) (p1:Int):Option (Zc×Bool):=(aO (S:=Int) (T:=(Unit)⊕(_)) (fun v2=>cond (decide (v2<(p0.length:Int))) ((idx p0 v2).bind fun m6=>cond (m6.ID == p1) ((idx p0 v2).bind fun m8=>some (.inr (.inr (m8,true)))) (some (.inl (IntKind.i64.wrap (v2+1))))) (some (.inr (.inl ())))) FUEL 0).bind fun q=>match q with | .inl _=>some ((⟨0,ByteArray.empty,ByteArray.empty,0,false,[],[]⟩:Zc),false) | .inr e=>some e
def fi (p0:(List Zb)) (p1:Int):Option (Zb×Bool):=(aO (S:=Int) (T:=(Unit)⊕(_)) (fun v2=>cond (decide (v2<(p0.length:Int))) ((idx p0 v2).bind fun m6=>cond (m6.ID == p1) ((idx p0 v2).bind fun m8=>some (.inr (.inr (m8,true)))) (some (.inl (IntKind.i64.wrap (v2+1))))) (some (.inr (.inl ())))) FUEL 0).bind fun q=>match q with | .inl _=>some ((⟨0,0,[],[]⟩:Zb),false) | .inr e=>some e
def jE (p0:(List ByteArray)) (p1:ByteArray):Option Bool:=(aO (S:=Int) (T:=(Unit)⊕(_)) (fun v1=>cond (decide (v1<(p0.length:Int))) ((idx p0 v1).bind fun m5=>cond (decide (m5=p1)) (some (.inr (.inr true))) (some (.inl (IntKind.i64.wrap (v1+1))))) (some (.inr (.inl ())))) FUEL 0).bind fun q=>match q with | .inl _=>some false | .inr e=>some e
def j7 (p0:ByteArray) (p1:ByteArray):Option Bool:=(gd (decide ((p1.size:Int)≤(p0.size:Int))) (jW p0 0 (p1.size:Int))).bind fun s1=>some ((decide ((p1.size:Int)≤(p0.size:Int)))&&(decide (s1=p1)))
def gt (p0:Zb) (p1:ByteArray):Option (Zf×Bool):=(aO (S:=Int×Int) (T:=(Int)) (fun (v3,v4)=>cond (decide (v4<(p0.Rules.length:Int))) (((idx p0.Rules v4).bind fun m11=>(j7 p1 m11.Prefix).bind fun x12=>(gd (x12&&(!(decide (v3<0)))) (idx p0.Rules v4)).bind fun m13=>(gd (x12&&(!(decide (v3<0)))) (idx p0.Rules v3)).bind fun m14=>cond (x12&&((decide (v3<0))||(decide ((m14.Prefix.size:Int)<(m13.Prefix.size:Int))))) (some v4) (some v3)).bind fun v9=>some (.inl (v9,(IntKind.i64.wrap (v4+1))))) (some (.inr v3))) FUEL ((-1),0)).bind fun v5=>cond (decide (v5<0)) (some ((⟨0,0,[],0,0,ByteArray.empty,[]⟩:Zf),false)) ((idx p0.Rules v5).bind fun m17=>some (m17.Rule,true))
def dS (p0:(List Zc)) (p1:(List Zb)) (p2:ByteArray) (p3:Za):Option Bool:=(fK p0 p3.Product).bind fun x2=>(fi p1 p3.Agreement).bind fun x4=>(gt x4.1 x2.1.Code).bind fun x6=>(gd (((x2.2&&x4.2)&&x6.2)&&(!decide (x2.1.Country=p2))) (jE x4.1.Parties x2.1.Country)).bind fun x8=>(gd ((((x2.2&&x4.2)&&x6.2)&&(!decide (x2.1.Country=p2)))&&x8) (jE x4.1.Parties p2)).bind fun x9=>some (((((x2.2&&x4.2)&&x6.2)&&(!decide (x2.1.Country=p2)))&&x8)&&x9)
def j8 (p0:(List ByteArray)) (p1:(List ByteArray)):Option Bool:=cond ((p0.length:Int) != (p1.length:Int)) (some false) ((aO (S:=Int) (T:=(Unit)⊕(_)) (fun v2=>cond (decide (v2<(p0.length:Int))) ((idx p0 v2).bind fun m6=>(idx p1 v2).bind fun m7=>cond (!decide (m6=m7)) (some (.inr (.inr false))) (some (.inl (IntKind.i64.wrap (v2+1))))) (some (.inr (.inl ())))) FUEL 0).bind fun q=>match q with | .inl _=>some true | .inr e=>some e)
def kO (rec:Zf→Zf→Option Bool) (p0:Zf) (p1:Zf):Option Bool:=(gd (!(((((p0.Kind != p1.Kind)||(p0.Digits != p1.Digits))||(p0.Tolerance != p1.Tolerance))||(p0.Limit != p1.Limit))||(!decide (p0.Name=p1.Name)))) (j8 p0.Except p1.Except)).bind fun x3=>cond (((((((p0.Kind != p1.Kind)||(p0.Digits != p1.Digits))||(p0.Tolerance != p1.Tolerance))||(p0.Limit != p1.Limit))||(!decide (p0.Name=p1.Name)))||(!x3))||((p0.Args.length:Int) != (p1.Args.length:Int))) (some false) ((aO (S:=Int) (T:=(Unit)⊕(_)) (fun v5=>cond (decide (v5<(p0.Args.length:Int))) ((idx p0.Args v5).bind fun m9=>(idx p1.Args v5).bind fun m10=>(rec m9 m10).bind fun x11=>cond (!x11) (some (.inr (.inr false))) (some (.inl (IntKind.i64.wrap (v5+1))))) (some (.inr (.inl ())))) FUEL 0).bind fun q=>match q with | .inl _=>some true | .inr e=>some e)
def kQ (n:Nat):Zf→Zf→Option Bool:=Nat.rec (motive:=fun _=>Zf→Zf→Option Bool) (fun _ _=>none) (fun _ ih=>kO ih) n
def pM (p0:Zf) (p1:Zf):Option Bool:=kQ FUEL p0 p1
def lF (p0:(List Zi)) (p1:(List Zi)):Option Bool:=cond ((p0.length:Int) != (p1.length:Int)) (some false) ((aO (S:=Int) (T:=(Unit)⊕(_)) (fun v2=>cond (decide (v2<(p0.length:Int))) ((idx p0 v2).bind fun m6=>(idx p1 v2).bind fun m7=>(gd (!(!decide (m6.Prefix=m7.Prefix))) (idx p0 v2)).bind fun m8=>(gd (!(!decide (m6.Prefix=m7.Prefix))) (idx p1 v2)).bind fun m9=>(gd (!(!decide (m6.Prefix=m7.Prefix))) (pM m8.Rule m9.Rule)).bind fun x10=>cond ((!decide (m6.Prefix=m7.Prefix))||(!x10)) (some (.inr (.inr false))) (some (.inl (IntKind.i64.wrap (v2+1))))) (some (.inr (.inl ())))) FUEL 0).bind fun q=>match q with | .inl _=>some true | .inr e=>some e)
def mJ (p0:(List Zb)) (p1:Int) (p2:ByteArray) (p3:ByteArray):Option (List Int):=(fi p0 p1).bind fun x1=>cond (!x1.2) (some []) ((aO (S:=(List Int)×Int) (T:=((List Int))) (fun (l7,v10)=>cond ((decide (v10<(p0.length:Int)))&&(x1.1.Kind == 2)) (((idx p0 v10).bind fun m23=>(gd (m23.ID != p1) (jE m23.Parties p2)).bind fun x25=>(gd ((m23.ID != p1)&&x25) (jE m23.Parties p3)).bind fun x26=>(gd (((m23.ID != p1)&&x25)&&x26) (lF x1.1.Rules m23.Rules)).bind fun x27=>cond ((((m23.ID != p1)&&x25)&&x26)&&x27) ((app 8 l7 [m23.ID]).bind fun l31=>some l31) (some l7)).bind fun l21=>some (.inl (l21,(IntKind.i64.wrap (v10+1))))) (some (.inr l7))) FUEL ([p1],0)).bind fun l14=>some l14)
def oA (p0:(List ByteArray)) (p1:ByteArray):Option (List ByteArray):=(aO (S:=Int) (T:=(ByteArray×Int)) (fun v1=>(gd (decide (v1<(p0.length:Int))) (idx p0 v1)).bind fun m6=>cond ((decide (v1<(p0.length:Int)))&&(Op.bytesLess m6.toList p1.toList)) (some (.inl (IntKind.i64.wrap (v1+1)))) (some (.inr (p1,v1)))) FUEL 0).bind fun (v2,v3)=>(gd (decide (v3<(p0.length:Int))) (idx p0 v3)).bind fun m8=>cond ((decide (v3<(p0.length:Int)))&&(decide (m8=v2))) (some p0) ((sub p0 0 v3).bind fun l10=>(sub p0 v3 (p0.length:Int)).bind fun l11=>(app 16 ([]:List ByteArray) l10).bind fun l14=>(app 16 l14 [v2]).bind fun l20=>(app 16 l20 l11).bind fun l24=>some l24)
def mY (p0:(List ByteArray)) (p1:(List ByteArray)):Option (List ByteArray):=(aO (S:=(List ByteArray)×Int) (T:=((List ByteArray)×(List ByteArray))) (fun (l1,v2)=>cond (decide (v2<(p0.length:Int))) ((idx p0 v2).bind fun m8=>(oA l1 m8).bind fun x9=>some (.inl (x9,(IntKind.i64.wrap (v2+1))))) (some (.inr (p1,l1)))) FUEL ([],0)).bind fun (l3,l4)=>(aO (S:=(List ByteArray)×Int) (T:=((List ByteArray))) (fun (l10,v11)=>cond (decide (v11<(l3.length:Int))) ((idx l3 v11).bind fun m16=>(oA l10 m16).bind fun x17=>some (.inl (x17,(IntKind.i64.wrap (v11+1))))) (some (.inr l10))) FUEL (l4,0)).bind fun l12=>some l12
def cM (p0:(List Za)) (p1:Za):Option Bool:=(aO (S:=Int) (T:=(Unit)⊕(_)) (fun v2=>cond (decide (v2<(p0.length:Int))) ((idx p0 v2).bind fun m6=>cond (Za.eqb m6 p1) (some (.inr (.inr true))) (some (.inl (IntKind.i64.wrap (v2+1))))) (some (.inr (.inl ())))) FUEL 0).bind fun q=>match q with | .inl _=>some false | .inr e=>some e
theorem rU {p0:(List Za)} {p1:Za} {r:Bool}  (h:cM p0 p1=some r):PF 68 [pL Za.enc p0,.agg [pI p1.Product,pI p1.Agreement]] (pB r):=by
 unfold cM at h
 refine bt ?_
 refine eQ Tryz.func68 rfl Tryz.ntmps68 Tryz.results68 rfl (aa (aj rfl (br (cs:=[pI p1.Product,pI p1.Agreement]) rfl rfl (fun b1=>bm [4] (by kernel_rfl) (dr (al [(5,pI 0)] (by kernel_rfl) (jo h fun q4 hq4 h=>?_)))))))
 refine aA (Y:=Unit×Unit) (fun (_,_)=>[]) (fun (_,_)=>[]) (fun (_,_)=>q4=Sum.inl ()) ?_ ?_
 ·refine aI ?_
  refine aM (Y:=Unit) (S:=Int) _ hq4 (fun _ v2=>[(0,pL Za.enc p0),(3,pP b1 0),(5,pI v2)]) (fun _ v2=>[PRes.b b1 28 [pI p1.Product,pI p1.Agreement]]) () (qW rfl) dB ?_
  rintro _ v2 o τ hb3;(try dsimp only at hb3);dsimp only [aG]
  refine af (af (ah [6,7,8] [(9,pB (decide (v2<(p0.length:Int))))] (by kernel_rfl) (cE rfl hb3 (fun hc5 hb3=>?_) fun hc5 hb3=>?_)))
  ·refine ai ?_
   refine bQ (iA (co (ρd:=[]) [(0,0),(1,0),(2,0),(3,0),(4,0),(5,0)] _ (List.Perm.refl _) (by kernel_rfl) rfl (ae hb3 fun m6 hm6 hb3=>cC 6 [0] (rg 12 5) [(17,pB (Za.eqb m6 p1))] (eU 2 Za.enc hm6 (C7 5 Za.eqok28 bG)) (by kernel_rfl) (cQ (cE rfl hb3 (fun hc7 hb3=>?_) fun hc7 hb3=>?_)))))
   ·refine af ?_
    refine fT [(4,pB true)] (by kernel_rfl) (iZ ?_)
    refine aX hb3 (fun ht=>?_);subst ht
    refine az (aU ?_)
    exact zz r h rfl
   refine ai ?_
   refine fU (ah [10,11] [(5,pI (IntKind.i64.wrap (v2+1)))] (by kernel_rfl) ?_)
   exact bj hb3 () (qW rfl) dB
  refine aW ?_
  refine av (an hb3 (fun ht=>ar rfl ?_))
  exact aF ((),()) qP ce ht.symm
 rintro ⟨_,_⟩ τ hz;(try dsimp only at hz);subst q4;(try dsimp only at h);dsimp only [aG]
 refine af (fT [(4,pB false)] (by kernel_rfl) ?_)
 exact zz r h rfl
def ld (p0:(List Int)) (p1:Int) (p2:(List Za)):Option (Za×Bool):=(aO (S:=Int) (T:=(Unit)⊕(_)) (fun v2=>cond (decide (v2<(p0.length:Int))) ((idx p0 v2).bind fun m6=>(cM p2 (⟨p1,m6⟩:Za)).bind fun x8=>cond x8 (some (.inr (.inr ((⟨p1,m6⟩:Za),true)))) (some (.inl (IntKind.i64.wrap (v2+1))))) (some (.inr (.inl ())))) FUEL 0).bind fun q=>match q with | .inl _=>some ((⟨0,0⟩:Za),false) | .inr e=>some e
def kR (p0:Za) (p1:Za):Option Bool:=some ((decide (p0.Product<p1.Product))||((p0.Product == p1.Product)&&(decide (p0.Agreement<p1.Agreement))))
theorem vX {p0:Za} {p1:Za} {r:Bool}  (h:kR p0 p1=some r):PF 106 [.agg [pI p0.Product,pI p0.Agreement],.agg [pI p1.Product,pI p1.Agreement]] (pB r):=by
 unfold kR at h
 refine bt ?_
 refine eQ Tryz.func106 rfl Tryz.ntmps106 Tryz.results106 rfl (aa (aj rfl (br (cs:=[pI p0.Product,pI p0.Agreement]) rfl rfl (fun b1=>aj rfl (br (cs:=[pI p1.Product,pI p1.Agreement]) rfl rfl (fun b2=>bm [4] (by kernel_rfl) (bQ (bk [1,0,1,0,1,0] (rg 5 19) [(4,pB ((decide (p0.Product<p1.Product))||((p0.Product == p1.Product)&&(decide (p0.Agreement<p1.Agreement)))))] (by kernel_rfl) (dX ?_)))))))))
 exact zz r h rfl
def em (p0:(List Za)) (p1:Za):Option (List Za):=(cM p0 p1).bind fun x2=>cond x2 (some p0) ((aO (S:=Int) (T:=(Int)) (fun v4=>(gd (decide (v4<(p0.length:Int))) (idx p0 v4)).bind fun m8=>(gd (decide (v4<(p0.length:Int))) (kR m8 p1)).bind fun x9=>cond ((decide (v4<(p0.length:Int)))&&x9) (some (.inl (IntKind.i64.wrap (v4+1)))) (some (.inr v4))) FUEL 0).bind fun v5=>(sub p0 0 v5).bind fun l11=>(sub p0 v5 (p0.length:Int)).bind fun l12=>(app 16 ([]:List Za) l11).bind fun l15=>(app 16 l15 [p1]).bind fun l21=>(app 16 l21 l12).bind fun l25=>some l25)
theorem vY {p0:(List Za)} {p1:Za} {r:(List Za)}  (h:em p0 p1=some r):PF 59 [pL Za.enc p0,.agg [pI p1.Product,pI p1.Agreement]] (pL Za.enc r):=by
 unfold em at h
 refine bt ?_
 refine eQ Tryz.func59 rfl Tryz.ntmps59 Tryz.results59 rfl (aa (aj rfl (br (cs:=[pI p1.Product,pI p1.Agreement]) rfl rfl (fun b1=>bm [4] (by kernel_rfl) (dr (ae h fun x2 hx2 h=>aq [0] [6,7] [(8,pB x2)] (bJ 2 (rU hx2) bG) (by kernel_rfl) (cE rfl h (fun hc3 h=>?_) fun hc3 h=>?_)))))))
 ·refine af ?_
  refine ah [9] [(4,pL Za.enc p0)] (by kernel_rfl) (dX (ap ?_))
  exact zz r h rfl
 refine ai ?_
 refine bQ (al [(5,pI 0)] (by kernel_rfl) (dQ h fun q7 hq7 h=>?_))
 refine aA (Y:=Unit×Int) (fun (_,v5)=>[(0,pL Za.enc p0),(3,pP b1 0),(5,pI v5)]) (fun (_,v5)=>[PRes.b b1 28 [pI p1.Product,pI p1.Agreement]]) (fun (_,v5)=>q7=v5) ?_ ?_
 ·refine aI ?_
  refine aM (Y:=Unit) (S:=Int) _ hq7 (fun _ v4=>[(0,pL Za.enc p0),(3,pP b1 0),(5,pI v4)]) (fun _ v4=>[PRes.b b1 28 [pI p1.Product,pI p1.Agreement]]) () (qW rfl) dB ?_
  rintro _ v4 o τ hb6;(try dsimp only at hb6);dsimp only [aG]
  refine af (af (co (ρd:=[]) [(0,0),(1,0),(2,0),(3,0),(4,0),(5,0),(6,0),(7,0),(8,0),(9,0),(10,1),(11,0)] _ (List.Perm.refl _) (by kernel_rfl) rfl (ae hb6 fun m8 hm8 hb6=>ae hb6 fun x9 hx9 hb6=>cC 12 [0] (rg 10 11) [(21,pB ((decide (v4<(p0.length:Int)))&&x9))] (mA 7 Za.enc (gJ hm8) (iY 10 (fun hc=>vX (gJ hx9 hc)) bG)) (by kernel_rfl) (cQ (cE rfl hb6 (fun hc10 hb6=>?_) fun hc10 hb6=>?_)))))
  ·refine ai ?_
   refine aQ (aI (ah [22,23] [(5,pI (IntKind.i64.wrap (v4+1)))] (by kernel_rfl) (aH ?_)))
   exact bj hb6 () (qW rfl) dB
  refine aW ?_
  refine av (an hb6 (fun ht=>ar rfl ?_))
  exact aF ((),v4) (qW rfl) dB ht.symm
 rintro ⟨_,v5⟩ τ hz;(try dsimp only at hz);subst q7;(try dsimp only at h);dsimp only [aG]
 refine af (co (ρd:=[]) [(1,0),(2,0),(3,0),(5,0),(6,3),(8,0),(9,0),(10,0),(0,1),(4,1),(6,2),(7,1),(11,1),(12,0)] _ (List.Perm.refl _) (by kernel_rfl) rfl (ae h fun l11 hl11 h=>cC 4 [0] [25,26] [(27,pL Za.enc l11),(29,.agg [pI p1.Product,pI p1.Agreement])] (zm 2 Za.enc 2 (fun _=>rfl) hl11 bG) (by kernel_rfl) (EA (ww rfl rfl rfl rfl rfl (f0 rfl ja) rfl rfl rfl) (ae h fun l12 hl12 h=>cC 3 [] [32,33] [(34,pL Za.enc l12)] (zm 2 Za.enc 2 (fun _=>rfl) hl12 bG) (by kernel_rfl) (iX rfl rfl rfl (bD rfl rfl rfl rfl rfl ja rfl rfl rfl rfl (fun b13=>ae h fun l15 hl15 h=>?_)))))))
 refine iX rfl rfl rfl (hX (enc:=Za.enc) rfl rfl rfl rfl rfl (fun _=>rfl) rfl rfl rfl (by exact aD) hl15 (fun a16 c17=>?_))
 refine ze (ww rfl rfl rfl rfl rfl (f0 rfl ja) rfl rfl rfl) (fun _=>rfl) rfl (fun b19=>ae h fun l21 hl21 h=>?_)
 refine iX rfl rfl rfl (Ez (enc:=Za.enc) rfl rfl rfl rfl rfl (fun _=>rfl) rfl rfl rfl rfl e8 rfl (by exact ak aD) hl21 (fun a22 c23=>?_))
 refine ae h fun l25 hl25 h=>?_
 refine iX rfl rfl rfl (hX (enc:=Za.enc) rfl rfl rfl rfl rfl (fun _=>rfl) rfl rfl rfl (by exact aD) hl25 (fun a26 c27=>?_))
 refine hY 1 [(4,pO a26 l25.length c27)] (by kernel_rfl) (cQ (aQ ?_))
 refine fk (enc:=Za.enc) (xs:=l25) 4 rfl (by exact aD) ?_
 refine cd ?_
 exact zz r h rfl
def iP (p0:Zn) (p1:Zn):Option (Zn×Bool):=Option.bind (cond (decide ((IntKind.u64.wrap (p0.Lo+p1.Lo))<p0.Lo)) (lb ((IntKind.u64.wrap ((IntKind.u64.wrap (p0.Hi+p1.Hi))+1))) (fun w8=>some (w8,((decide ((IntKind.u64.wrap (p0.Hi+p1.Hi))<p0.Hi))||(w8 == 0))))) (some ((IntKind.u64.wrap (p0.Hi+p1.Hi)),(decide ((IntKind.u64.wrap (p0.Hi+p1.Hi))<p0.Hi))))) (fun (v4,v5)=>some ((⟨v4,(IntKind.u64.wrap (p0.Lo+p1.Lo))⟩:Zn),v5))
def oB (p0:Zn) (p1:Int):Option (Zn×Int):=(aO (S:=Int×Int×Int×Int) (T:=(Int×Int×Int)) (fun (v4,v5,v6,v7)=>cond (decide (0≤v5)) (((ln (dZ .i64 v5 63)).bind fun u18=>lb ((dZ .u64 (cK .u64 p0.Lo (dZ .i64 v5 63)) 1)) (fun w19=>Option.bind (cond (decide (63<v5)) ((ln (IntKind.i64.wrap (v5 - 64))).bind fun u23=>lb ((dZ .u64 (cK .u64 p0.Hi (IntKind.i64.wrap (v5 - 64))) 1)) (fun w24=>some w24)) (some w19)) (fun v20=>(iP (⟨v6,v7⟩:Zn) (⟨v6,v7⟩:Zn)).bind fun x25=>cond (((cK .u64 v4 63) == 1)||(decide (p1≤(qQ .u64 (fZ .u64 v4 1) v20)))) (lb ((IntKind.u64.wrap ((qQ .u64 (fZ .u64 v4 1) v20) - p1))) (fun w27=>some (w27,x25.1.Hi,(qQ .u64 x25.1.Lo 1)))) (some ((qQ .u64 (fZ .u64 v4 1) v20),x25.1.Hi,x25.1.Lo))))).bind fun (v14,v15,v16)=>some (.inl (v14,(IntKind.i64.wrap (v5 - 1)),v15,v16))) (some (.inr (v4,v6,v7)))) FUEL (0,127,0,0)).bind fun (v8,v9,v10)=>some ((⟨v9,v10⟩:Zn),v8)
def sF (p0:Zn) (p1:Int) (p2:Int):Option (Int×Int):=cond (((p1 == 0)||(decide (p2<0)))||(decide (3<p2))) (some ((0:Int),(2:Int))) ((oB p0 p1).bind fun x3=>Option.bind (cond (p2 == 1) (some (decide (0<x3.2))) (cond (p2 == 2) (some (decide ((IntKind.u64.wrap (p1 - x3.2))≤x3.2))) (cond (p2 == 3) (some ((decide ((IntKind.u64.wrap (p1 - x3.2))<x3.2))||((x3.2 == (IntKind.u64.wrap (p1 - x3.2)))&&((dZ .u64 x3.1.Lo 1) == 1)))) (some false)))) (fun v5=>Option.bind (cond v5 ((iP x3.1 (⟨0,1⟩:Zn)).bind fun x14=>some (x14.1.Hi,x14.1.Lo)) (some (x3.1.Hi,x3.1.Lo))) (fun (v10,v11)=>cond (decide (0<v10)) (some ((0:Int),(3:Int))) (some (v11,(0:Int))))))
def mq (p0:Int) (p1:Int):Option Zn:=(aO (S:=Int×Int×Int) (T:=(Int×Int)) (fun (v3,v4,v5)=>cond (decide (0≤v3)) (((iP (⟨v4,v5⟩:Zn) (⟨v4,v5⟩:Zn)).bind fun x14=>(ln v3).bind fun u15=>cond ((dZ .u64 (cK .u64 p1 v3) 1) == 1) ((iP x14.1 (⟨0,p0⟩:Zn)).bind fun x17=>some (x17.1.Hi,x17.1.Lo)) (some (x14.1.Hi,x14.1.Lo))).bind fun (v11,v12)=>some (.inl ((IntKind.i64.wrap (v3 - 1)),v11,v12))) (some (.inr (v4,v5)))) FUEL (63,0,0)).bind fun (v6,v7)=>some (⟨v6,v7⟩:Zn)
def oC (p0:Int) (p1:Int) (p2:Int) (p3:Int):Option (Int×Int):=(mq p0 p1).bind fun x1=>(sF x1 p2 p3).bind fun x2=>some (x2.1,x2.2)
def gY (p0:(List Zc)) (p1:(List Zb)) (p2:ByteArray) (p3:Za) (p4:(List Za)):Option (Zm×(List Za)):=(dS p0 p1 p2 p3).bind fun x3=>cond (!x3) (some ((⟨ByteArray.empty,0,false,[],[]⟩:Zm),[])) ((fK p0 p3.Product).bind fun x5=>(fi p1 p3.Agreement).bind fun x7=>(mJ p1 p3.Agreement x5.1.Country p2).bind fun x9=>(aO (S:=(List Za)×(List ByteArray)×Int×(List Zl)) (T:=((List Za)×(List ByteArray)×(List Zl))) (fun (l13,l14,v15,l17)=>cond (decide (v15<(x5.1.Inputs.length:Int))) (((idx x5.1.Inputs v15).bind fun m37=>(fK p0 m37.Product).bind fun x39=>(gd (x7.1.Kind == 3) (jE x7.1.Parties x39.1.Country)).bind fun x41=>Option.bind (cond ((x7.1.Kind == 3)&&x41) ((mY l14 x39.1.Processes).bind fun x46=>some x46) (some l14)) (fun l42=>(ld x9 x39.1.ID p4).bind fun x47=>Option.bind (cond x47.2 ((em l13 x47.1).bind fun x53=>some x53) (some l13)) (fun l49=>cond ((x47.2||(!((x7.1.Kind == 3)&&x41)))||((x39.1.Inputs.length:Int) == 0)) ((app 32 l17 [(⟨x39.1.Code,m37.Value,x47.2⟩:Zl)]).bind fun l57=>some (l49,l42,l57)) ((aO (S:=(List Za)×Int×(List Zl)) (T:=((List Za)×(List Zl))) (fun (l61,v62,l64)=>cond (decide (v62<(x39.1.Inputs.length:Int))) ((idx x39.1.Inputs v62).bind fun m75=>(fK p0 m75.Product).bind fun x76=>(idx x39.1.Inputs v62).bind fun m78=>(oC (IntKind.u64.wrap m37.Value) (IntKind.u64.wrap m78.Value) (IntKind.u64.wrap x39.1.Price) 1).bind fun x79=>Option.bind (cond ((x79.2 == 0)&&(decide (x79.1<1000000000000))) (some (IntKind.i64.wrap x79.1)) (some 1000000000000)) (fun v80=>(ld x9 x76.1.ID p4).bind fun x84=>Option.bind (cond x84.2 ((em l61 x84.1).bind fun x90=>some x90) (some l61)) (fun l86=>(app 32 l64 [(⟨x76.1.Code,v80,x84.2⟩:Zl)]).bind fun l93=>some (.inl (l86,(IntKind.i64.wrap (v62+1)),l93))))) (some (.inr (l61,l64)))) FUEL (l49,0,l17)).bind fun (l67,l71)=>some (l67,l42,l71))))).bind fun (l30,l31,l35)=>some (.inl (l30,l31,(IntKind.i64.wrap (v15+1)),l35))) (some (.inr (l13,l14,l17)))) FUEL (([]:List Za),x5.1.Processes,0,([]:List Zl))).bind fun (l20,l21,l25)=>(sub l21 0 (pz (l21.length:Int) 8)).bind fun l98=>some ((⟨x5.1.Code,x5.1.Price,x5.1.Obtained,l98,l25⟩:Zm),l20))
def iQ (p0:(List Za)) (p1:(List Za)):Option Bool:=cond ((p0.length:Int) != (p1.length:Int)) (some false) ((aO (S:=Int) (T:=(Unit)⊕(_)) (fun v2=>cond (decide (v2<(p0.length:Int))) ((idx p0 v2).bind fun m6=>(idx p1 v2).bind fun m7=>cond (!(Za.eqb m6 m7)) (some (.inr (.inr false))) (some (.inl (IntKind.i64.wrap (v2+1))))) (some (.inr (.inl ())))) FUEL 0).bind fun q=>match q with | .inl _=>some true | .inr e=>some e)
def eZ (p0:Int):Option Bool:=some ((decide (65≤p0))&&(decide (p0≤90)))
theorem jF {p0:Int} {r:Bool}  (h:eZ p0=some r):PF 120 [pY p0] (pB r):=by
 unfold eZ at h
 refine bt ?_
 refine eQ Tryz.func120 rfl Tryz.ntmps120 Tryz.results120 rfl (be [2] (by kernel_rfl) (bQ (ah (rg 3 6) [(2,pB ((decide (65≤p0))&&(decide (p0≤90))))] (by kernel_rfl) (dX ?_))))
 exact zz r h rfl
def bS (p0:ByteArray):Option Bool:=(gd ((p0.size:Int) == 2) (idx p0.data.toList 0)).bind fun c1=>(gd ((p0.size:Int) == 2) (eZ (c1.toNat:Int))).bind fun x2=>(gd (((p0.size:Int) == 2)&&x2) (idx p0.data.toList 1)).bind fun c3=>(gd (((p0.size:Int) == 2)&&x2) (eZ (c3.toNat:Int))).bind fun x4=>some ((((p0.size:Int) == 2)&&x2)&&x4)
theorem eo {p0:ByteArray} {r:Bool}  (h:bS p0=some r):PF 72 [pS p0] (pB r):=by
 unfold bS at h
 refine bt ?_
 refine eQ Tryz.func72 rfl Tryz.ntmps72 Tryz.results72 rfl (be [2] (by kernel_rfl) (dQ h fun c1 hc1 h=>ae h fun x2 hx2 h=>ae h fun c3 hc3 h=>ae h fun x4 hx4 h=>aq [] (rg 3 13) [(2,pB ((((p0.size:Int) == 2)&&x2)&&x4))] (fosxg 5 (gJ hc1) (iY 6 (fun hc=>jF (gJ hx2 hc)) (fosxg 10 (gJ hc3) (iY 11 (fun hc=>jF (gJ hx4 hc)) bG)))) (by kernel_rfl) (dX ?_)))
 exact zz r h rfl
def dT (p0:(List ByteArray)):Option Bool:=(aO (S:=Int) (T:=(Unit)⊕(_)) (fun v1=>cond (decide (v1<(p0.length:Int))) ((idx p0 v1).bind fun m5=>(bS m5).bind fun x6=>(gd ((!(!x6))&&(decide (0<v1))) (idx p0 (IntKind.i64.wrap (v1 - 1)))).bind fun m7=>cond ((!x6)||((decide (0<v1))&&(Op.bytesLess m5.toList m7.toList||decide (m5=m7)))) (some (.inr (.inr false))) (some (.inl (IntKind.i64.wrap (v1+1))))) (some (.inr (.inl ())))) FUEL 0).bind fun q=>match q with | .inl _=>some true | .inr e=>some e
theorem mK {p0:(List ByteArray)} {r:Bool}  (h:dT p0=some r):PF 111 [pL eS p0] (pB r):=by
 unfold dT at h
 refine bt ?_
 refine eQ Tryz.func111 rfl Tryz.ntmps111 Tryz.results111 rfl (be [2] (by kernel_rfl) (dr (al [(5,pL eS p0),(6,pI (p0.length:Int)),(7,pI 0)] (by kernel_rfl) (jo h fun q3 hq3 h=>?_))))
 refine aA (Y:=Unit×Unit) (fun (_,_)=>[]) (fun (_,_)=>[]) (fun (_,_)=>q3=Sum.inl ()) ?_ ?_
 ·refine aI ?_
  refine aM (Y:=Unit) (S:=Int) _ hq3 (fun _ v1=>[(0,pL eS p0),(5,pL eS p0),(6,pI (p0.length:Int)),(7,pI v1)]) (fun _ v1=>[]) () (lq rfl) ce ?_
  rintro _ v1 o τ hb2;(try dsimp only at hb2);dsimp only [aG]
  refine af (al [(8,pB (decide (v1<(p0.length:Int))))] (by kernel_rfl) (bQ (kx rfl hb2 (fun hc4 hb2=>?_) fun hc4 hb2=>?_)))
  ·refine ai ?_
   refine bQ (iA (ae hb2 fun m5 hm5 hb2=>aq [] [9,10,11] [(3,pI v1),(4,pS m5)] (eU 1 eS hm5 bG) (by kernel_rfl) (dQ hb2 fun x6 hx6 hb2=>ae hb2 fun m7 hm7 hb2=>aq [] (rg 12 15) [(27,pB ((!x6)||((decide (0<v1))&&(Op.bytesLess m5.toList m7.toList||decide (m5=m7)))))] (bJ 1 (eo hx6) (mA 11 eS (gJ hm7) bG)) (by kernel_rfl) (cE rfl hb2 (fun hc8 hb2=>?_) fun hc8 hb2=>?_))))
   ·refine af ?_
    refine fT [(2,pB false)] (by kernel_rfl) (iZ ?_)
    refine aX hb2 (fun ht=>?_);subst ht
    refine az (aU ?_)
    exact zz r h rfl
   refine ai ?_
   refine fU (ah [28] [(7,pI (IntKind.i64.wrap (v1+1)))] (by kernel_rfl) ?_)
   exact bj hb2 () (lq rfl) ce
  refine aW ?_
  refine av (an hb2 (fun ht=>ar rfl ?_))
  exact aF ((),()) qP ce ht.symm
 rintro ⟨_,_⟩ τ hz;(try dsimp only at hz);subst q3;(try dsimp only at h);dsimp only [aG]
 refine af (fT [(2,pB true)] (by kernel_rfl) ?_)
 exact zz r h rfl
def gB (p0:ByteArray):Option Bool:=(gd ((p0.size:Int) == 2) (idx p0.data.toList 0)).bind fun c1=>(gd (((p0.size:Int) == 2)&&(decide (65≤(c1.toNat:Int)))) (idx p0.data.toList 0)).bind fun c2=>(gd ((((p0.size:Int) == 2)&&(decide (65≤(c1.toNat:Int))))&&(decide ((c2.toNat:Int)≤90))) (idx p0.data.toList 1)).bind fun c3=>(gd (((((p0.size:Int) == 2)&&(decide (65≤(c1.toNat:Int))))&&(decide ((c2.toNat:Int)≤90)))&&(decide (65≤(c3.toNat:Int)))) (idx p0.data.toList 1)).bind fun c4=>some ((((((p0.size:Int) == 2)&&(decide (65≤(c1.toNat:Int))))&&(decide ((c2.toNat:Int)≤90)))&&(decide (65≤(c3.toNat:Int))))&&(decide ((c4.toNat:Int)≤90)))
def iE (p0:ByteArray):Option Int:=(aO (S:=Int) (T:=(Unit)⊕(_)) (fun v1=>cond (decide (v1<(p0.size:Int))) ((idx p0.data.toList v1).bind fun c5=>(gd (!(decide ((c5.toNat:Int)<48))) (idx p0.data.toList v1)).bind fun c6=>cond ((decide ((c5.toNat:Int)<48))||(decide (57<(c6.toNat:Int)))) (some (.inr (.inr (0:Int)))) (some (.inl (IntKind.i64.wrap (v1+1))))) (some (.inr (.inl ())))) FUEL 0).bind fun q=>match q with | .inl _=>cond ((decide (8<(p0.size:Int)))||((Int.tmod (p0.size:Int) 2) == 1)) (some (0:Int)) (some (p0.size:Int)) | .inr e=>some e
def oD (p0:ByteArray):Option Bool:=(aO (S:=Int) (T:=(Unit)⊕(_)) (fun v1=>cond (decide (v1<(p0.size:Int))) ((idx p0.data.toList v1).bind fun c5=>(gd (!(decide ((c5.toNat:Int)<97))) (idx p0.data.toList v1)).bind fun c6=>cond ((decide ((c5.toNat:Int)<97))||(decide (122<(c6.toNat:Int)))) (some (.inr (.inr false))) (some (.inl (IntKind.i64.wrap (v1+1))))) (some (.inr (.inl ())))) FUEL 0).bind fun q=>match q with | .inl _=>some ((decide (1≤(p0.size:Int)))&&(decide ((p0.size:Int)≤12))) | .inr e=>some e
def pR (p0:(List ByteArray)):Option Bool:=(aO (S:=Int) (T:=(Unit)⊕(_)) (fun v1=>cond (decide (v1<(p0.length:Int))) ((idx p0 v1).bind fun m5=>(oD m5).bind fun x6=>(gd ((!(!x6))&&(decide (0<v1))) (idx p0 (IntKind.i64.wrap (v1 - 1)))).bind fun m7=>(gd ((!(!x6))&&(decide (0<v1))) (idx p0 v1)).bind fun m8=>cond ((!x6)||((decide (0<v1))&&(!Op.bytesLess m7.toList m8.toList))) (some (.inr (.inr false))) (some (.inl (IntKind.i64.wrap (v1+1))))) (some (.inr (.inl ())))) FUEL 0).bind fun q=>match q with | .inl _=>some (decide ((p0.length:Int)≤8)) | .inr e=>some e
def oE (p0:(List Zc)):Option Int:=cond (decide (64<(p0.length:Int))) (some (8:Int)) ((aO (S:=Int) (T:=(Unit)⊕(_)) (fun v2=>cond (decide (v2<(p0.length:Int))) ((idx p0 v2).bind fun m6=>cond ((decide (m6.ID<1))||(decide (1000000<m6.ID))) (some (.inr (.inr (2:Int)))) ((gd (decide (0<v2)) (idx p0 (IntKind.i64.wrap (v2 - 1)))).bind fun m9=>cond ((decide (0<v2))&&(decide (m6.ID≤m9.ID))) (some (.inr (.inr (9:Int)))) ((iE m6.Code).bind fun x11=>(gd (!(decide (x11<6))) (gB m6.Country)).bind fun x12=>(gd (!((decide (x11<6))||(!x12))) (pR m6.Processes)).bind fun x13=>cond (((decide (x11<6))||(!x12))||(!x13)) (some (.inr (.inr (1:Int)))) (cond ((decide (m6.Price<1))||(decide (1000000000000<m6.Price))) (some (.inr (.inr (2:Int)))) (cond (decide (8<(m6.Inputs.length:Int))) (some (.inr (.inr (8:Int)))) (cond (m6.Obtained&&(decide (0<(m6.Inputs.length:Int)))) (some (.inr (.inr (1:Int)))) ((aO (S:=Int) (T:=(Unit)⊕(_)) (fun v18=>cond (decide (v18<(m6.Inputs.length:Int))) ((gd (decide (0<v18)) (idx m6.Inputs v18)).bind fun m22=>(gd (decide (0<v18)) (idx m6.Inputs (IntKind.i64.wrap (v18 - 1)))).bind fun m23=>cond ((decide (0<v18))&&(decide (m22.Product≤m23.Product))) (some (.inr (.inr (.inr (.inr (9:Int)))))) ((idx m6.Inputs v18).bind fun m25=>(fK p0 m25.Product).bind fun x26=>cond (!x26.2) (some (.inr (.inr (.inr (.inr (6:Int)))))) ((idx m6.Inputs v18).bind fun m29=>(gd (!(decide (m29.Value<0))) (idx m6.Inputs v18)).bind fun m30=>cond ((decide (m29.Value<0))||(decide (1000000000000<m30.Value))) (some (.inr (.inr (.inr (.inr (2:Int)))))) (some (.inl (IntKind.i64.wrap (v18+1))))))) (some (.inr (.inl ())))) FUEL 0).bind fun q=>match q with | .inl _=>some (.inl (IntKind.i64.wrap (v2+1))) | .inr e=>some e))))))) (some (.inr (.inl ())))) FUEL 0).bind fun q=>match q with | .inl _=>some (0:Int) | .inr e=>some e)
def np (rec:Zf→Option Int) (p0:Zf):Option Int:=(aO (S:=Int×Int) (T:=(Int)) (fun (v2,v3)=>cond ((decide (v3<(p0.Args.length:Int)))&&(decide (v2≤32))) ((idx p0.Args v3).bind fun m8=>(rec m8).bind fun x9=>some (.inl ((IntKind.i64.wrap (v2+x9)),(IntKind.i64.wrap (v3+1))))) (some (.inr v2))) FUEL (1,0)).bind fun v4=>some (pz v4 33)
def nq (n:Nat):Zf→Option Int:=Nat.rec (motive:=fun _=>Zf→Option Int) (fun _=>none) (fun _ ih=>np ih) n
def s9 (p0:Zf):Option Int:=nq FUEL p0
def pT (p0:Zf):Option Bool:=cond (((!(p0.Kind == 2))&&(((p0.Digits != 0)||(decide (0<(p0.Except.length:Int))))||(p0.Tolerance != 0)))||((!(p0.Kind == 3))&&(p0.Limit != 0))) (some false) (some (((p0.Kind == 4)||(decide (p0.Name=(⟨#[]⟩:ByteArray))))&&(((p0.Kind == 5)||(p0.Kind == 6))||((p0.Args.length:Int) == 0))))
def ns (rec:Zf→Option Bool) (p0:Zf):Option Bool:=(pT p0).bind fun x2=>cond (!x2) (some false) (cond (p0.Kind == 1) (some true) (cond (p0.Kind == 2) ((aO (S:=Int) (T:=(Unit)⊕(_)) (fun v6=>cond (decide (v6<(p0.Except.length:Int))) ((idx p0.Except v6).bind fun m10=>(iE m10).bind fun x11=>(gd ((!(x11 == 0))&&(decide (0<v6))) (idx p0.Except (IntKind.i64.wrap (v6 - 1)))).bind fun m12=>(gd ((!(x11 == 0))&&(decide (0<v6))) (idx p0.Except v6)).bind fun m13=>cond ((x11 == 0)||((decide (0<v6))&&(!Op.bytesLess m12.toList m13.toList))) (some (.inr (.inr false))) (some (.inl (IntKind.i64.wrap (v6+1))))) (some (.inr (.inl ())))) FUEL 0).bind fun q=>match q with | .inl _=>some ((((((p0.Digits == 2)||(p0.Digits == 4))||(p0.Digits == 6))&&(decide ((p0.Except.length:Int)≤6)))&&(decide (0≤p0.Tolerance)))&&(decide (p0.Tolerance≤1000000))) | .inr e=>some e) (cond (p0.Kind == 3) (some ((decide (0≤p0.Limit))&&(decide (p0.Limit≤1000000)))) (cond (p0.Kind == 4) ((oD p0.Name).bind fun x17=>some x17) (Option.bind (cond (p0.Kind == 5) (some (p0.Kind == 5)) (some (p0.Kind == 6))) (fun v18=>cond v18 ((aO (S:=Int) (T:=(Unit)⊕(_)) (fun v22=>cond (decide (v22<(p0.Args.length:Int))) ((idx p0.Args v22).bind fun m26=>(gd (!(m26.Kind == p0.Kind)) (idx p0.Args v22)).bind fun m27=>(gd (!(m26.Kind == p0.Kind)) (rec m27)).bind fun x28=>cond ((m26.Kind == p0.Kind)||(!x28)) (some (.inr (.inr false))) (some (.inl (IntKind.i64.wrap (v22+1))))) (some (.inr (.inl ())))) FUEL 0).bind fun q=>match q with | .inl _=>some ((decide (2≤(p0.Args.length:Int)))&&(decide ((p0.Args.length:Int)≤6))) | .inr e=>some e) (some false)))))))
def nt (n:Nat):Zf→Option Bool:=Nat.rec (motive:=fun _=>Zf→Option Bool) (fun _=>none) (fun _ ih=>ns ih) n
def tc (p0:Zf):Option Bool:=nt FUEL p0
def oF (p0:Zf):Option Int:=(s9 p0).bind fun x2=>cond (decide (32<x2)) (some (8:Int)) ((tc p0).bind fun x4=>cond (!x4) (some (1:Int)) (some (0:Int)))
def iR (p0:(List Zb)):Option Int:=cond (decide (8<(p0.length:Int))) (some (8:Int)) ((aO (S:=Int) (T:=(Unit)⊕(_)) (fun v2=>cond (decide (v2<(p0.length:Int))) ((idx p0 v2).bind fun m6=>cond ((((decide (m6.ID<1))||(decide (1000<m6.ID)))||(decide (m6.Kind<1)))||(decide (3<m6.Kind))) (some (.inr (.inr (2:Int)))) ((gd (decide (0<v2)) (idx p0 (IntKind.i64.wrap (v2 - 1)))).bind fun m9=>cond ((decide (0<v2))&&(decide (m6.ID≤m9.ID))) (some (.inr (.inr (9:Int)))) (cond ((decide (12<(m6.Parties.length:Int)))||(decide (12<(m6.Rules.length:Int)))) (some (.inr (.inr (8:Int)))) ((aO (S:=Int) (T:=(Unit)⊕(_)) (fun v12=>cond (decide (v12<(m6.Parties.length:Int))) ((idx m6.Parties v12).bind fun m16=>(gB m16).bind fun x17=>(gd ((!(!x17))&&(decide (0<v12))) (idx m6.Parties (IntKind.i64.wrap (v12 - 1)))).bind fun m18=>(gd ((!(!x17))&&(decide (0<v12))) (idx m6.Parties v12)).bind fun m19=>cond ((!x17)||((decide (0<v12))&&(!Op.bytesLess m18.toList m19.toList))) (some (.inr (.inr (.inr (.inr (1:Int)))))) (some (.inl (IntKind.i64.wrap (v12+1))))) (some (.inr (.inl ())))) FUEL 0).bind fun q=>match q with | .inl _=>(aO (S:=Int) (T:=(Unit)⊕(_)) (fun v21=>cond (decide (v21<(m6.Rules.length:Int))) ((idx m6.Rules v21).bind fun m25=>(iE m25.Prefix).bind fun x26=>cond (x26 == 0) (some (.inr (.inr (.inr (.inr (1:Int)))))) ((gd (decide (0<v21)) (idx m6.Rules (IntKind.i64.wrap (v21 - 1)))).bind fun m28=>(gd (decide (0<v21)) (idx m6.Rules v21)).bind fun m29=>cond ((decide (0<v21))&&(!Op.bytesLess m28.Prefix.toList m29.Prefix.toList)) (some (.inr (.inr (.inr (.inr (9:Int)))))) ((idx m6.Rules v21).bind fun m31=>(oF m31.Rule).bind fun x32=>cond (x32 != 0) (some (.inr (.inr (.inr (.inr x32))))) (some (.inl (IntKind.i64.wrap (v21+1))))))) (some (.inr (.inl ())))) FUEL 0).bind (fun q=>match q with | .inl _=>some (.inl (IntKind.i64.wrap (v2+1))) | .inr e=>some e) | .inr e=>some e)))) (some (.inr (.inl ())))) FUEL 0).bind fun q=>match q with | .inl _=>some (0:Int) | .inr e=>some e)
def j9 (p0:Zf) (p1:Zm) (p2:Zl):Option Bool:=(jW p2.Code 0 p0.Digits).bind fun s4=>(jW p1.Code 0 p0.Digits).bind fun s5=>cond (decide (s4=s5)) (some true) ((aO (S:=Int) (T:=(Unit)⊕(_)) (fun v7=>cond (decide (v7<(p0.Except.length:Int))) ((idx p0.Except v7).bind fun m11=>(j7 p2.Code m11).bind fun x12=>cond x12 (some (.inr (.inr true))) (some (.inl (IntKind.i64.wrap (v7+1))))) (some (.inr (.inl ())))) FUEL 0).bind fun q=>match q with | .inl _=>some false | .inr e=>some e)
def oG (p0:Zn) (p1:Zn):Option Bool:=some ((decide (p0.Hi<p1.Hi))||((p0.Hi == p1.Hi)&&(decide (p0.Lo<p1.Lo))))
def td (p0:Zn) (p1:Zn):Option Int:=(oG p0 p1).bind fun x3=>cond x3 (some (-1)) ((oG p1 p0).bind fun x5=>cond x5 (some (1:Int)) (some (0:Int)))
def lZ (p0:Int) (p1:Int) (p2:Int):Option Bool:=(mq (IntKind.u64.wrap p0) 1000000).bind fun x1=>(mq (IntKind.u64.wrap p1) (IntKind.u64.wrap p2)).bind fun x2=>(td x1 x2).bind fun x3=>some (decide (x3≤0))
def nu (rec:Zf→Zm→Option Bool) (p0:Zf) (p1:Zm):Option Bool:=(aO (S:=Int×Int×Int) (T:=(Int×Int)) (fun (v3,v4,v5)=>cond (decide (v5<(p1.Inputs.length:Int))) (((idx p1.Inputs v5).bind fun m14=>cond m14.Originating (some (v3,v4)) ((gd ((!(p0.Kind == 3))&&(p0.Kind == 2)) (j9 p0 p1 m14)).bind fun x17=>cond ((p0.Kind == 3)||((p0.Kind == 2)&&x17)) (some ((IntKind.i64.wrap (v3+m14.Value)),(IntKind.i64.wrap (v4+1)))) (some (v3,(IntKind.i64.wrap (v4+1)))))).bind fun (v11,v12)=>some (.inl (v11,v12,(IntKind.i64.wrap (v5+1))))) (some (.inr (v3,v4)))) FUEL (0,0,0)).bind fun (v6,v7)=>(aO (S:=Int×Int) (T:=(Int)) (fun (v19,v20)=>cond (decide (v20<(p0.Args.length:Int))) (((idx p0.Args v20).bind fun m27=>(rec m27 p1).bind fun x28=>cond x28 (some (IntKind.i64.wrap (v19+1))) (some v19)).bind fun v25=>some (.inl (v25,(IntKind.i64.wrap (v20+1))))) (some (.inr v19))) FUEL (0,0)).bind fun v21=>cond (p0.Kind == 1) (some (p1.Obtained&&(v7 == 0))) (cond (p0.Kind == 2) ((lZ v6 p0.Tolerance p1.Price).bind fun x32=>some x32) (cond (p0.Kind == 3) ((lZ v6 p0.Limit p1.Price).bind fun x34=>some x34) (cond (p0.Kind == 4) ((jE p1.Processes p0.Name).bind fun x36=>some x36) (cond (p0.Kind == 5) (some (v21 == (p0.Args.length:Int))) (some (decide (0<v21)))))))
def nv (n:Nat):Zf→Zm→Option Bool:=Nat.rec (motive:=fun _=>Zf→Zm→Option Bool) (fun _ _=>none) (fun _ ih=>nu ih) n
def pV (p0:Zf) (p1:Zm):Option Bool:=nv FUEL p0 p1
def lG (rec:Zf→Zm→Option ((List Int)×Bool)) (p0:Zf) (p1:Zm):Option ((List Int)×Bool):=(pV p0 p1).bind fun x3=>cond (!x3) (some ([],false)) ((aO (S:=(List Int)×Int) (T:=((List Int))⊕(_)) (fun (l6,v9)=>cond (decide (v9<(p0.Args.length:Int))) (Option.bind (α:=((List Int))⊕_) ((idx p0.Args v9).bind fun m23=>(rec m23 p1).bind fun x24=>cond (!x24.2) (some (.inl l6)) (cond (p0.Kind == 6) ((app 8 [v9] x24.1).bind fun l29=>some (.inr (.inr (.inr (l29,true))))) ((app 8 l6 x24.1).bind fun l33=>some (.inl l33)))) (fun q=>match q with | .inl l21=>some (.inl (l21,(IntKind.i64.wrap (v9+1)))) | .inr e=>some e)) (some (.inr (.inl l6)))) FUEL (([]:List Int),0)).bind fun q=>match q with | .inl l13=>some (l13,true) | .inr e=>some e)
def jr (n:Nat):Zf→Zm→Option ((List Int)×Bool):=Nat.rec (motive:=fun _=>Zf→Zm→Option ((List Int)×Bool)) (fun _ _=>none) (fun _ ih=>lG ih) n
def lf (p0:Zf) (p1:Zm):Option ((List Int)×Bool):=jr FUEL p0 p1
def lv (p0:(List Zc)) (p1:(List Zb)) (p2:ByteArray):Option ((List Zd)×Int):=(oE p0).bind fun x1=>cond (x1 != 0) (some ([],x1)) ((iR p1).bind fun x3=>cond (x3 != 0) (some ([],x3)) ((gB p2).bind fun x5=>cond (!x5) (some ([],(1:Int))) ((aO (S:=(List Zd)×(List Za)×Bool) (T:=((List Zd))) (fun (l8,l11,v12)=>cond v12 ((aO (S:=(List Zd)×Bool×(List Za)×Int) (T:=((List Zd)×Bool×(List Za))) (fun (l22,v25,l26,v27)=>cond (decide (v27<(p0.length:Int))) ((aO (S:=(List Zd)×Bool×(List Za)×Int) (T:=((List Zd)×Bool×(List Za))) (fun (l38,v41,l42,v43)=>cond (decide (v43<(p1.length:Int))) (((idx p0 v27).bind fun m60=>(idx p1 v43).bind fun m61=>(cM l11 (⟨m60.ID,m61.ID⟩:Za)).bind fun x63=>(gd (!x63) (dS p0 p1 p2 (⟨m60.ID,m61.ID⟩:Za))).bind fun x64=>cond (x63||(!x64)) (some (l38,v41,l42)) ((gY p0 p1 p2 (⟨m60.ID,m61.ID⟩:Za) l11).bind fun x66=>(idx p1 v43).bind fun m68=>(idx p0 v27).bind fun m69=>(gt m68 m69.Code).bind fun x70=>(lf x70.1 x66.1).bind fun x72=>cond x72.2 ((app 64 l38 [(⟨(⟨m60.ID,m61.ID⟩:Za),x72.1,x66.2⟩:Zd)]).bind fun l76=>(em l42 (⟨m60.ID,m61.ID⟩:Za)).bind fun x80=>some (l76,true,x80)) (some (l38,v41,l42)))).bind fun (l56,v57,l58)=>some (.inl (l56,v57,l58,(IntKind.i64.wrap (v43+1))))) (some (.inr (l38,v41,l42)))) FUEL (l22,v25,l26,0)).bind fun (l47,v48,l49)=>some (.inl (l47,v48,l49,(IntKind.i64.wrap (v27+1))))) (some (.inr (l22,v25,l26)))) FUEL (l8,false,l11,0)).bind fun (l31,v32,l33)=>some (.inl (l31,l33,v32))) (some (.inr l8))) FUEL (([]:List Zd),[],true)).bind fun l16=>some (l16,(0:Int)))))
def ka (p0:(List Zd)) (p1:Int) (p2:Int) (p3:Int):Option (List Zd):=(app 64 ([]:List Zd) p0).bind fun l3=>cond (((l3.length:Nat):Int) == 0) (some l3) ((cW p1 ((l3.length:Nat):Int)).bind fun x8=>(idx l3 x8).bind fun m9=>(cW p2 9).bind fun x11=>Option.bind (α:=(Int×Int×(List Int)×(List Za))⊕_) (cond (x11 == 0) ((cW p3 12).bind fun x19=>some (.inl ((IntKind.i64.wrap (3*x19)),m9.Claim.Agreement,m9.Path,m9.Premises))) (cond (x11 == 1) ((cW p3 5).bind fun x21=>some (.inl (m9.Claim.Product,(IntKind.i64.wrap (2+(IntKind.i64.wrap (5*x21)))),m9.Path,m9.Premises))) (cond (x11 == 2) ((app 8 ([]:List Int) m9.Path).bind fun l25=>(cW p3 3).bind fun x29=>(app 8 l25 [x29]).bind fun l32=>some (.inl (m9.Claim.Product,m9.Claim.Agreement,l32,m9.Premises))) (cond (x11 == 3) (cond (decide (0<(m9.Path.length:Int))) ((app 8 ([]:List Int) m9.Path).bind fun l40=>(cW p3 ((l40.length:Nat):Int)).bind fun x46=>(cW (cK .i64 p3 4) 4).bind fun x47=>(idx l40 x46).bind fun m48=>some (.inl (m9.Claim.Product,m9.Claim.Agreement,(l40.set x46.toNat x47),m9.Premises))) (some (.inl (m9.Claim.Product,m9.Claim.Agreement,m9.Path,m9.Premises)))) (cond (x11 == 4) (cond (decide (0<(m9.Premises.length:Int))) ((cW p3 (IntKind.i64.wrap ((m9.Premises.length:Int)+1))).bind fun x52=>(sub m9.Premises x52 (m9.Premises.length:Int)).bind fun l53=>some (.inl (m9.Claim.Product,m9.Claim.Agreement,m9.Path,l53))) (some (.inl (m9.Claim.Product,m9.Claim.Agreement,m9.Path,m9.Premises)))) (cond (x11 == 5) ((cW p3 ((l3.length:Nat):Int)).bind fun x56=>(idx l3 x56).bind fun m57=>(em m9.Premises m57.Claim).bind fun x58=>some (.inl (m9.Claim.Product,m9.Claim.Agreement,m9.Path,x58))) (cond (x11 == 6) ((cW p3 ((l3.length:Nat):Int)).bind fun x60=>(idx l3 x60).bind fun m63=>(idx l3 x8).bind fun m64=>(idx l3 x8).bind fun m65=>(idx (l3.set x8.toNat m63) x60).bind fun m67=>some (.inr ((l3.set x8.toNat m63).set x60.toNat m64))) (cond (x11 == 7) ((sub l3 0 x8).bind fun l70=>(sub l3 (IntKind.i64.wrap (x8+1)) (l3.length:Int)).bind fun l71=>(app 64 ([]:List Zd) l70).bind fun l74=>(app 64 l74 l71).bind fun l78=>some (.inr l78)) ((idx l3 x8).bind fun m82=>(app 64 l3 [m82]).bind fun l85=>some (.inr l85)))))))))) (fun q=>match q with | .inl (v13,v14,l15,l16)=>(idx l3 x8).bind (fun m89=>some (l3.set x8.toNat (⟨(⟨v13,v14⟩:Za),l15,l16⟩:Zd))) | .inr e=>some e))
theorem tK {p0:(List Zd)} {p1:Int} {p2:Int} {p3:Int} {r:(List Zd)}  (h:ka p0 p1 p2 p3=some r):PCall 24 [pL Zd.enc p0,pI p1,pI p2,pI p3] [] (fun pv ρ'=>∃ a c,pv=.v (.slice a r.length c)∧ρ'=[PRes.row a r.length c 61 4 (List.map Zd.enc r)]):=by
 unfold ka at h
 refine eQ Tryz.func24 rfl Tryz.ntmps24 Tryz.results24 rfl (be [8] (by kernel_rfl) (bQ (aa (aj rfl (bD rfl rfl rfl rfl rfl ja rfl rfl rfl rfl (fun b1=>ae h fun l3 hl3 h=>au 1 [(14,pL Zd.enc p0)] (by kernel_rfl) ?_))))))
 refine aj rfl (hX (enc:=Zd.enc) rfl rfl rfl rfl rfl (fun _=>rfl) rfl rfl rfl (by exact aD) hl3 (fun a4 c5=>?_))
 refine aS [(0,pO a4 l3.length c5)] (by kernel_rfl) (dr (ah [16,17] [(18,pB (((l3.length:Nat):Int) == 0))] (by kernel_rfl) (cE rfl h (fun hc7 h=>?_) fun hc7 h=>?_)))
 ·refine af ?_
  refine ah [19] [(8,pO a4 l3.length c5)] (by kernel_rfl) (dX (ap ?_))
  obtain rfl:=osi h
  exact aL (cT (aN rfl)) dB ⟨_,_,rfl,rfl⟩
 refine ai ?_
 refine dQ h fun x8 hx8 h=>aq [] [20,21,22,23] [(9,pI x8)] (bJ 3 (cD hx8) bG) (by kernel_rfl) (dQ h fun m9 hm9 h=>aa (au 2 [(24,pO a4 l3.length c5),(25,pI x8)] (by kernel_rfl) (bY rfl rfl rfl (ez (enc:=Zd.enc) (xs:=l3) rfl rfl rfl (.p rfl) e8 (.p rfl) (fun _=>hm9)) (bY rfl rfl rfl (cH (sz:=4) (p:=.agg (bA m9)) (enc:=Zd.enc) (xs:=l3) (a:=a4) x8 0 m9 rfl (.p rfl) rfl e8 (fun _=>hm9) rfl) (aj rfl (aV (cs:=[pI 0,pI 0,pN,pN]) rfl rfl rfl rfl (fun b10=>ba rfl rfl (am (vs:=(bA m9)) rfl rfl rfl rfl rfl cP wA (aw (dr (ae h fun x11 hx11 h=>aq [] [28] [(29,pI x11)] (bJ 1 (cD hx11) bG) (by kernel_rfl) (jo h fun q17 hq17 h=>?_))))))))))))
 refine aA (Y:=Unit×(Int×Int×(List Int)×(List Za))) (fun (_,(v13,v14,l15,l16))=>[(0,pO a4 l3.length c5),(9,pI x8),(10,pP b10 0)]) (fun (_,(v13,v14,l15,l16))=>[PRes.b b10 61 [pI v13,pI v14,pL eI l15,pL Za.enc l16],PRes.row a4 l3.length c5 61 4 (List.map Zd.enc l3)]) (fun (_,(v13,v14,l15,l16))=>q17=Sum.inl (v13,v14,l15,l16)) ?_ ?_
 ·skip
  refine iA (ah [38] [(37,pB (x11 == 0))] (by kernel_rfl) (cE rfl hq17 (fun hc18 hq17=>?_) fun hc18 hq17=>?_))
  ·refine ae hq17 ?_;clear hq17;intro x19 hx19 hq17
   refine aa (bi 5 [] [39,40,42] [(41,pI (IntKind.i64.wrap (3*x19))),(43,pP b10 0)] (bJ 1 (cD hx19) bG) (by kernel_rfl) (ba rfl rfl (am (vs:=[pI (IntKind.i64.wrap (3*x19))]) rfl rfl rfl rfl rfl cP mP (aw (aH ?_)))))
   obtain rfl:=osi hq17
   exact aF ((),((IntKind.i64.wrap (3*x19)),m9.Claim.Agreement,m9.Path,m9.Premises)) (qW rfl) qV rfl
  refine af ?_
  refine ah [45] [(44,pB (x11 == 1))] (by kernel_rfl) (cE rfl hq17 (fun hc20 hq17=>?_) fun hc20 hq17=>?_)
  ·refine ae hq17 ?_;clear hq17;intro x21 hx21 hq17
   refine aa (bi 6 [] [46,47,48,50] [(49,pI (IntKind.i64.wrap (2+(IntKind.i64.wrap (5*x21))))),(51,pP b10 1)] (bJ 1 (cD hx21) bG) (by kernel_rfl) (ba rfl rfl (am (vs:=[pI (IntKind.i64.wrap (2+(IntKind.i64.wrap (5*x21))))]) rfl rfl rfl rfl rfl cP (dK mP) (aw (aH ?_)))))
   obtain rfl:=osi hq17
   exact aF ((),(m9.Claim.Product,(IntKind.i64.wrap (2+(IntKind.i64.wrap (5*x21)))),m9.Path,m9.Premises)) (qW rfl) qV rfl
  refine af ?_
  refine ah [53] [(52,pB (x11 == 2))] (by kernel_rfl) (cE rfl hq17 (fun hc22 hq17=>?_) fun hc22 hq17=>?_)
  ·refine aa ?_
   refine aj rfl (bD rfl rfl rfl rfl rfl ja rfl rfl rfl rfl (fun b23=>ae hq17 fun l25 hl25 hq17=>cw 2 [1] [55] [(56,pL eI m9.Path)] (by kernel_rfl) ?_))
   refine aj rfl (hX (enc:=eI) rfl rfl rfl rfl rfl (fun _=>rfl) rfl rfl rfl (by exact aD) hl25 (fun a26 c27=>?_))
   refine ae hq17 fun x29 hx29 hq17=>bi 2 [] [58] [(59,pI x29)] (bJ 1 (cD hx29) bG) (by kernel_rfl) (aj rfl (bD rfl rfl rfl rfl rfl (f0 rfl ja) rfl rfl rfl rfl (fun b30=>ae hq17 fun l32 hl32 hq17=>?_)))
   refine aj rfl (bT (enc:=eI) rfl rfl rfl rfl rfl rfl rfl rfl rfl e8 (by exact ak aD) hl32 (fun a33 c34=>?_))
   refine au 1 [(62,pP b10 2)] (by kernel_rfl) (ba rfl rfl (am (vs:=[pO a33 l32.length c34]) rfl rfl rfl rfl rfl (dl (dl cP)) (dK (dK mP)) (aw (aH ?_))))
   refine iu (xI (css:=List.map eI l32) (a:=a33) (by exact aD)) ?_
   refine iu (sy (k:=2) (enc:=eI) (xs:=l32) (b:=b10) (a:=a33) rfl e8 (dl (dl cP))) ?_
   obtain rfl:=osi hq17
   exact aF ((),(m9.Claim.Product,m9.Claim.Agreement,l32,m9.Premises)) (qW rfl) (bh (ak (ak aD)) (bh (ak (ak aD)) ce)) rfl
  refine af ?_
  refine ah [64] [(63,pB (x11 == 3))] (by kernel_rfl) (cE rfl hq17 (fun hc36 hq17=>?_) fun hc36 hq17=>?_)
  ·refine af ?_
   refine bk [0] [65,66,67] [(68,pB (decide (0<(m9.Path.length:Int))))] (by kernel_rfl) (cE rfl hq17 (fun hc37 hq17=>?_) fun hc37 hq17=>?_)
   ·refine af ?_
    refine aa (aj rfl (bD rfl rfl rfl rfl rfl ja rfl rfl rfl rfl (fun b38=>ae hq17 fun l40 hl40 hq17=>cw 2 [1] [70] [(71,pL eI m9.Path)] (by kernel_rfl) ?_)))
    refine aj rfl (hX (enc:=eI) rfl rfl rfl rfl rfl (fun _=>rfl) rfl rfl rfl (by exact aD) hl40 (fun a41 c42=>?_))
    refine au 1 [(73,pP b10 2)] (by kernel_rfl) (ba rfl rfl (am (vs:=[pO a41 l40.length c42]) rfl rfl rfl rfl rfl (dl cP) (dK (dK mP)) (aw (aQ (iw (enc:=eI) (xs:=l40) (a:=a41) e8 (fun hl44 ha45=>co (ρd:=[PRes.row a41 _ _ _ _ _]) [(0,0),(1,0),(2,0),(3,0),(4,0),(5,0),(7,0),(8,0),(6,1),(9,1),(10,0),(11,1)] _ (List.Perm.refl _) (by kernel_rfl) rfl (ae hq17 fun x46 hx46 hq17=>ae hq17 fun x47 hx47 hq17=>ae hq17 fun m48 hm48 hq17=>cC 10 [0,0] [74,76,77,78,79,81,82] [(75,pO a41 l40.length c42),(80,pI x46),(83,pI x47)] (bJ 8 (cD hx46) (bJ 9 (cD hx47) bG)) (by kernel_rfl) ?_)))))))
    refine lm rfl rfl rfl (kK (xs:=l40) (by first | exact hl44 | rfl | (simp only [List.length_set];exact hl44) | simp only [List.length_set]) ha45 rfl rfl rfl (.p rfl) (.p rfl) (fun _=>hm48)) ?_
    refine xG rfl rfl (iv (enc:=eI) (xs:=l40) (a:=a41) x46 0 m48 x47 rfl rfl rfl rfl (fun _=>rfl) rfl rfl hm48 mP cP (cQ (aH ?_)))
    refine iu (xI (css:=List.map eI (l40.set x46.toNat x47)) (a:=a41) (by exact aD)) ?_
    refine iu (sy (k:=2) (enc:=eI) (xs:=(l40.set x46.toNat x47)) (b:=b10) (a:=a41) rfl e8 (dl cP)) ?_
    obtain rfl:=osi hq17
    exact aF ((),(m9.Claim.Product,m9.Claim.Agreement,(l40.set x46.toNat x47),m9.Premises)) (qW rfl) (bh (ak aD) (bh (ak aD) ce)) rfl
   refine ai ?_
   refine aH ?_
   obtain rfl:=osi hq17
   exact aF ((),(m9.Claim.Product,m9.Claim.Agreement,m9.Path,m9.Premises)) (qW rfl) qV rfl
  refine af ?_
  refine ah [86] [(85,pB (x11 == 4))] (by kernel_rfl) (cE rfl hq17 (fun hc50 hq17=>?_) fun hc50 hq17=>?_)
  ·refine af ?_
   refine bk [0] [87,88,89] [(90,pB (decide (0<(m9.Premises.length:Int))))] (by kernel_rfl) (cE rfl hq17 (fun hc51 hq17=>?_) fun hc51 hq17=>?_)
   ·refine ae hq17 ?_;clear hq17;intro x52 hx52 hq17
    refine ae hq17 fun l53 hl53 hq17=>?_
    refine ll (Y:=Unit) (fun _=>[(0,pO a4 l3.length c5),(9,pI x8),(10,pP b10 0)]) (fun _=>[PRes.b b10 61 [pI m9.Claim.Product,pI m9.Claim.Agreement,pL eI m9.Path,pL Za.enc l53],PRes.row a4 l3.length c5 61 4 (List.map Zd.enc l3)]) (fun _=>True) ?_ ?_
    ·refine iO (ρd:=[PRes.b b10 _ _]) _ (List.Perm.refl _) ?_
     refine bH 0 (by kernel_rfl) rfl rfl rfl rfl (bg rfl rfl rfl rfl rfl (.p rfl)) (bH 2 (by kernel_rfl) rfl rfl rfl rfl (dp (p:=pI p3) rfl (.p rfl)) (bH 3 (by kernel_rfl) rfl rfl rfl rfl (bg rfl rfl rfl rfl rfl (.p rfl)) ?_))
     refine gF 1 4 (by kernel_rfl) ?_ ?_
     ·skip
      refine aZ rfl rfl rfl rfl (jx (cg (p:=pL Za.enc m9.Premises) rfl (.p rfl) e8 rfl) (aY 4 (by kernel_rfl) (aZ rfl rfl rfl rfl (jx (cg (p:=pL Za.enc m9.Premises) rfl (.p rfl) e8 rfl) (bH 5 (by kernel_rfl) rfl rfl rfl rfl (B1 (enc:=Za.enc) rfl rfl (.p rfl)) (bH 6 (by kernel_rfl) rfl rfl rfl rfl (py rfl (.p rfl) (.p rfl) rfl) (aY 7 (by kernel_rfl) (kJ rfl rfl rfl rfl rfl rfl (cD hx52) (bH 8 (by kernel_rfl) rfl rfl rfl rfl (sw (enc:=Za.enc) rfl rfl rfl (fun _=>rfl) (.p rfl) (.p rfl) (fun _=>hl53)) (bH 9 (by kernel_rfl) rfl rfl rfl rfl (bg rfl rfl rfl rfl rfl (.p rfl)) (aY 10 (by kernel_rfl) (cL rfl rfl rfl (am (vs:=[pL Za.enc l53]) rfl rfl rfl rfl rfl cP (dK (dK (dK mP))) (cX (by kernel_rfl) ?_))))))))))))))
      exact gV () (qW rfl) qV trivial
     skip
     refine aZ rfl rfl rfl rfl (jx (cg (p:=pL Za.enc m9.Premises) rfl (.p rfl) e8 rfl) (bH 5 (by kernel_rfl) rfl rfl rfl rfl (B1 (enc:=Za.enc) rfl rfl (.p rfl)) (bH 6 (by kernel_rfl) rfl rfl rfl rfl (py rfl (.p rfl) (.p rfl) rfl) ?_)))
     refine gF 1 7 (by kernel_rfl) ?_ ?_
     ·skip
      refine aZ rfl rfl rfl rfl (jx (cg (p:=pL Za.enc m9.Premises) rfl (.p rfl) e8 rfl) (aY 7 (by kernel_rfl) (kJ rfl rfl rfl rfl rfl rfl (cD hx52) (bH 8 (by kernel_rfl) rfl rfl rfl rfl (sw (enc:=Za.enc) rfl rfl rfl (fun _=>rfl) (.p rfl) (.p rfl) (fun _=>hl53)) (bH 9 (by kernel_rfl) rfl rfl rfl rfl (bg rfl rfl rfl rfl rfl (.p rfl)) (aY 10 (by kernel_rfl) (cL rfl rfl rfl (am (vs:=[pL Za.enc l53]) rfl rfl rfl rfl rfl cP (dK (dK (dK mP))) (cX (by kernel_rfl) ?_)))))))))
      exact gV () (qW rfl) qV trivial
     skip
     refine kJ rfl rfl rfl rfl rfl rfl (cD hx52) (aY 1 (by kernel_rfl) (aZ rfl rfl rfl rfl (jx (cg (p:=pL Za.enc m9.Premises) rfl (.p rfl) e8 rfl) (bH 8 (by kernel_rfl) rfl rfl rfl rfl (sw (enc:=Za.enc) rfl rfl rfl (fun _=>rfl) (.p rfl) (.p rfl) (fun _=>hl53)) (bH 9 (by kernel_rfl) rfl rfl rfl rfl (bg rfl rfl rfl rfl rfl (.p rfl)) (aY 10 (by kernel_rfl) (cL rfl rfl rfl (am (vs:=[pL Za.enc l53]) rfl rfl rfl rfl rfl cP (dK (dK (dK mP))) (cX (by kernel_rfl) ?_)))))))))
     exact gV () (qW rfl) qV trivial
    rintro _ τ ρ1 hsub54 _;(try dsimp only at hsub54);dsimp only [aG]
    refine aH ?_
    obtain rfl:=osi hq17
    exact aF ((),(m9.Claim.Product,m9.Claim.Agreement,m9.Path,l53)) (qW rfl) (PSub.trans qV hsub54) rfl
   refine ai ?_
   refine aH ?_
   obtain rfl:=osi hq17
   exact aF ((),(m9.Claim.Product,m9.Claim.Agreement,m9.Path,m9.Premises)) (qW rfl) qV rfl
  refine af ?_
  refine ah [102] [(101,pB (x11 == 5))] (by kernel_rfl) (cE rfl hq17 (fun hc55 hq17=>?_) fun hc55 hq17=>?_)
  ·refine af ?_
   refine ae hq17 fun x56 hx56 hq17=>aq [] [103,104,105,106] [(11,pI x56)] (bJ 3 (cD hx56) bG) (by kernel_rfl) (jo hq17 fun m57 hm57 hq17=>ae hq17 fun x58 hx58 hq17=>iO (ρd:=[PRes.b b10 _ _]) _ (List.Perm.refl _) (bH 0 (by kernel_rfl) rfl rfl rfl rfl (bg rfl rfl rfl rfl rfl (.p rfl)) (bH 2 (by kernel_rfl) rfl rfl rfl rfl (dp (p:=pO a4 l3.length c5) rfl (.p rfl)) (bH 3 (by kernel_rfl) rfl rfl rfl rfl (dp (p:=pI x56) rfl (.p rfl)) (bH 4 (by kernel_rfl) rfl rfl rfl rfl (ez (enc:=Zd.enc) (xs:=l3) rfl rfl rfl (.p rfl) e8 (.p rfl) (fun _=>hm57)) (bH 5 (by kernel_rfl) rfl rfl rfl rfl (bg rfl rfl rfl rfl rfl (.p rfl)) (bH 6 (by kernel_rfl) rfl rfl rfl rfl (cH (sz:=4) (p:=.agg [pI m57.Claim.Product,pI m57.Claim.Agreement]) (enc:=Zd.enc) (xs:=l3) (a:=a4) x56 0 m57 rfl (.p rfl) rfl e8 (fun _=>hm57) rfl) (aY 1 (by kernel_rfl) (aZ rfl rfl rfl rfl (jx (cg (p:=pL Za.enc m9.Premises) rfl (.p rfl) e8 rfl) (aY 7 (by kernel_rfl) (kJ rfl rfl rfl rfl rfl rfl (vY hx58) (bH 8 (by kernel_rfl) rfl rfl rfl rfl (bg rfl rfl rfl rfl rfl (.p rfl)) (aY 9 (by kernel_rfl) (cL rfl rfl rfl (am (vs:=[pL Za.enc x58]) rfl rfl rfl rfl rfl cP (dK (dK (dK mP))) (cX (by kernel_rfl) (aH ?_))))))))))))))))))
   obtain rfl:=osi hq17
   exact aF ((),(m9.Claim.Product,m9.Claim.Agreement,m9.Path,x58)) (qW rfl) qV rfl
  refine af ?_
  refine ah [117] [(116,pB (x11 == 6))] (by kernel_rfl) (cE rfl hq17 (fun hc59 hq17=>?_) fun hc59 hq17=>?_)
  ·refine af ?_
   refine ae hq17 fun x60 hx60 hq17=>aq [] [118,119,120,121] [(12,pI x60)] (bJ 3 (cD hx60) bG) (by kernel_rfl) (bQ (iw (enc:=Zd.enc) (xs:=l3) (a:=a4) tF (fun hl61 ha62=>ae hq17 fun m63 hm63 hq17=>ae hq17 fun m64 hm64 hq17=>ae hq17 fun m65 hm65 hq17=>ae hq17 fun m67 hm67 hq17=>?_)))
   refine aA (Y:=Unit) (fun _=>[(0,pO a4 l3.length c5)]) (fun _=>[PRes.row a4 l3.length c5 61 4 (List.map Zd.enc ((l3.set x8.toNat m63).set x60.toNat m64))]) (fun _=>True) ?_ ?_
   ·refine iO (ρd:=[PRes.row a4 _ _ _ _ _]) _ (aC (ak aD) (List.Perm.refl _)) ?_
    refine bH 0 (by kernel_rfl) rfl rfl rfl rfl (dp (p:=pO a4 l3.length c5) rfl (.p rfl)) (bH 1 (by kernel_rfl) rfl rfl rfl rfl (dp (p:=pI x8) rfl (.p rfl)) (bH 2 (by kernel_rfl) rfl rfl rfl rfl (dp (p:=pO a4 l3.length c5) rfl (.p rfl)) (bH 3 (by kernel_rfl) rfl rfl rfl rfl (dp (p:=pI x60) rfl (.p rfl)) (bH 4 (by kernel_rfl) rfl rfl rfl rfl (dp (p:=pO a4 l3.length c5) rfl (.p rfl)) (bH 5 (by kernel_rfl) rfl rfl rfl rfl (dp (p:=pI x60) rfl (.p rfl)) ?_)))))
    refine bH 6 (by kernel_rfl) rfl rfl rfl rfl (kK (xs:=l3) (by first | exact hl61 | rfl | (simp only [List.length_set];exact hl61) | simp only [List.length_set]) ha62 rfl rfl rfl (.p rfl) (.p rfl) (fun _=>hm63)) ?_
    refine bH 8 (by kernel_rfl) rfl rfl rfl rfl (dp (p:=pO a4 l3.length c5) rfl (.p rfl)) (bH 9 (by kernel_rfl) rfl rfl rfl rfl (dp (p:=pI x8) rfl (.p rfl)) ?_)
    refine bH 10 (by kernel_rfl) rfl rfl rfl rfl (kK (xs:=l3) (by first | exact hl61 | rfl | (simp only [List.length_set];exact hl61) | simp only [List.length_set]) ha62 rfl rfl rfl (.p rfl) (.p rfl) (fun _=>hm64)) ?_
    refine gF 7 11 (by kernel_rfl) ?_ ?_
    ·skip
     refine aZ rfl rfl rfl rfl (jx (cH (sz:=4) (p:=.agg (bA m63)) (enc:=Zd.enc) (xs:=l3) (a:=a4) x60 0 m63 rfl (.p rfl) rfl e8 (fun _=>hm63) rfl) (aY 11 (by kernel_rfl) (aZ rfl rfl rfl rfl (jx (cH (sz:=4) (p:=.agg (bA m64)) (enc:=Zd.enc) (xs:=l3) (a:=a4) x8 0 m64 rfl (.p rfl) rfl e8 (fun _=>hm64) rfl) ?_))))
     refine bH 12 (by kernel_rfl) rfl rfl rfl rfl (kK (xs:=l3) (by first | exact hl61 | rfl | (simp only [List.length_set];exact hl61) | simp only [List.length_set]) ha62 rfl rfl rfl (.p rfl) (.p rfl) (fun _=>hm65)) ?_
     refine aY 13 (by kernel_rfl) (cL rfl rfl rfl (iv (enc:=Zd.enc) (xs:=l3) (a:=a4) x8 0 m65 m63 rfl rfl rfl rfl (fun _=>rfl) rfl rfl hm65 wA cP ?_))
     refine bH 14 (by kernel_rfl) rfl rfl rfl rfl (kK (xs:=(l3.set x8.toNat m63)) (by first | exact hl61 | rfl | (simp only [List.length_set];exact hl61) | simp only [List.length_set]) ha62 rfl rfl rfl (.p rfl) (.p rfl) (fun _=>hm67)) ?_
     refine aY 15 (by kernel_rfl) (cL rfl rfl rfl (iv (enc:=Zd.enc) (xs:=(l3.set x8.toNat m63)) (a:=a4) x60 0 m67 m64 rfl rfl rfl rfl (fun _=>rfl) rfl rfl hm67 wA cP (cX (by kernel_rfl) ?_)))
     exact aF () (wz rfl) dB trivial
    skip
    refine aZ rfl rfl rfl rfl (jx (cH (sz:=4) (p:=.agg (bA m64)) (enc:=Zd.enc) (xs:=l3) (a:=a4) x8 0 m64 rfl (.p rfl) rfl e8 (fun _=>hm64) rfl) (aY 7 (by kernel_rfl) (aZ rfl rfl rfl rfl (jx (cH (sz:=4) (p:=.agg (bA m63)) (enc:=Zd.enc) (xs:=l3) (a:=a4) x60 0 m63 rfl (.p rfl) rfl e8 (fun _=>hm63) rfl) ?_))))
    refine bH 12 (by kernel_rfl) rfl rfl rfl rfl (kK (xs:=l3) (by first | exact hl61 | rfl | (simp only [List.length_set];exact hl61) | simp only [List.length_set]) ha62 rfl rfl rfl (.p rfl) (.p rfl) (fun _=>hm65)) ?_
    refine aY 13 (by kernel_rfl) (cL rfl rfl rfl (iv (enc:=Zd.enc) (xs:=l3) (a:=a4) x8 0 m65 m63 rfl rfl rfl rfl (fun _=>rfl) rfl rfl hm65 wA cP ?_))
    refine bH 14 (by kernel_rfl) rfl rfl rfl rfl (kK (xs:=(l3.set x8.toNat m63)) (by first | exact hl61 | rfl | (simp only [List.length_set];exact hl61) | simp only [List.length_set]) ha62 rfl rfl rfl (.p rfl) (.p rfl) (fun _=>hm67)) ?_
    refine aY 15 (by kernel_rfl) (cL rfl rfl rfl (iv (enc:=Zd.enc) (xs:=(l3.set x8.toNat m63)) (a:=a4) x60 0 m67 m64 rfl rfl rfl rfl (fun _=>rfl) rfl rfl hm67 wA cP (cX (by kernel_rfl) ?_)))
    exact aF () (wz rfl) dB trivial
   rintro _ τ _;dsimp only [aG]
   refine af (ah [136] [(8,pO a4 l3.length c5)] (by kernel_rfl) (dX (az (aU ?_))))
   obtain rfl:=osi hq17
   obtain rfl:=osi h
   (try simp only [List.length_set])
   exact aL (cT (aN rfl)) dB ⟨_,_,rfl,rfl⟩
  refine af ?_
  refine ah [138] [(137,pB (x11 == 7))] (by kernel_rfl) (cE rfl hq17 (fun hc69 hq17=>?_) fun hc69 hq17=>?_)
  ·refine af ?_
   refine fk (enc:=Zd.enc) (xs:=l3) 0 rfl (by exact ak aD) ?_
   refine co (ρd:=[]) [(1,0),(2,0),(3,0),(5,0),(6,0),(7,0),(8,0),(0,1),(4,1),(9,1),(10,0)] _ (List.Perm.refl _) (by kernel_rfl) rfl (ae hq17 fun l70 hl70 hq17=>ae hq17 fun l71 hl71 hq17=>cC 7 [] [140,141,144,145,146] [(142,pL Zd.enc l70),(147,pL Zd.enc l71)] (zm 2 Zd.enc 4 (fun _=>rfl) hl70 (zm 6 Zd.enc 4 (fun _=>rfl) hl71 bG)) (by kernel_rfl) (iX rfl rfl rfl (bD rfl rfl rfl rfl rfl ja rfl rfl rfl rfl (fun b72=>ae hq17 fun l74 hl74 hq17=>?_))))
   refine iX rfl rfl rfl (hX (enc:=Zd.enc) rfl rfl rfl rfl rfl (fun _=>rfl) rfl rfl rfl (by exact aD) hl74 (fun a75 c76=>?_))
   refine ae hq17 fun l78 hl78 hq17=>?_
   refine iX rfl rfl rfl (hX (enc:=Zd.enc) rfl rfl rfl rfl rfl (fun _=>rfl) rfl rfl rfl (by exact aD) hl78 (fun a79 c80=>?_))
   refine hY 1 [(8,pO a79 l78.length c80)] (by kernel_rfl) (cQ (dX (az (aU ?_))))
   obtain rfl:=osi hq17
   obtain rfl:=osi h
   exact aL (cT (aN rfl)) dB ⟨_,_,rfl,rfl⟩
  refine af ?_
  refine ae hq17 fun m82 hm82 hq17=>aa (au 3 [(30,pO a4 l3.length c5),(31,pO a4 l3.length c5),(32,pI x8)] (by kernel_rfl) (bY rfl rfl rfl (ez (enc:=Zd.enc) (xs:=l3) rfl rfl rfl (.p rfl) tF (.p rfl) (fun _=>hm82)) (bY rfl rfl rfl (cH (sz:=4) (p:=.agg (bA m82)) (enc:=Zd.enc) (xs:=l3) (a:=a4) x8 0 m82 rfl (.p rfl) rfl tF (fun _=>hm82) rfl) (aj rfl (bD rfl rfl rfl rfl rfl (f0 rfl ja) rfl rfl rfl rfl (fun b83=>ae hq17 fun l85 hl85 hq17=>?_))))))
  refine aj rfl (bT (enc:=Zd.enc) rfl rfl rfl rfl rfl rfl rfl rfl rfl e8 (by exact ak (ak aD)) hl85 (fun a86 c87=>?_))
  refine aS [(8,pO a86 l85.length c87)] (by kernel_rfl) (dX (az (aU ?_)))
  obtain rfl:=osi hq17
  obtain rfl:=osi h
  exact aL (cT (aN rfl)) dB ⟨_,_,rfl,rfl⟩
 rintro ⟨_,⟨v13,v14,l15,l16⟩⟩ τ hz;(try dsimp only at hz);subst q17;(try dsimp only at h);dsimp only [aG]
 refine af (ae h fun m89 hm89 h=>aa (gn 3 [0] [(149,pO a4 l3.length c5),(150,pI x8),(151,.agg [pI v13,pI v14,pL eI l15,pL Za.enc l16])] (by kernel_rfl) (bY rfl rfl rfl (ez (enc:=Zd.enc) (xs:=l3) rfl rfl rfl (.p rfl) tF (.p rfl) (fun _=>hm89)) (ba rfl rfl (iv (enc:=Zd.enc) (xs:=l3) (a:=a4) x8 0 m89 (⟨(⟨v13,v14⟩:Za),l15,l16⟩:Zd) rfl rfl rfl rfl (fun _=>rfl) rfl rfl hm89 wA (dl cP) (aw (bQ (ah [153] [(8,pO a4 l3.length c5)] (by kernel_rfl) (dX ?_)))))))))
 obtain rfl:=osi h
 (try simp only [List.length_set])
 exact aL (cT (aN rfl)) (bh (ak aD) ce) ⟨_,_,rfl,rfl⟩
def bU (p0:(List Zc)) (p1:(Zc→Option Bool)):Option Int:=(aO (S:=Int) (T:=(Unit)⊕(_)) (fun v1=>cond (decide (v1<(p0.length:Int))) ((idx p0 v1).bind fun m5=>(p1 m5).bind fun x6=>cond x6 (some (.inr (.inr v1))) (some (.inl (IntKind.i64.wrap (v1+1))))) (some (.inr (.inl ())))) FUEL 0).bind fun q=>match q with | .inl _=>some (-1) | .inr e=>some e
theorem gS {p0:(List Zc)} {p1:(Zc→Option Bool)} {r:Int} {g1:PV} (hg1:∀ {y0:Zc} {w:Bool},p1 y0=some w→PFV g1 [.agg (bd y0)] (pB w)) (h:bU p0 p1=some r):PF 187 [pL Zc.enc p0,g1] (pI r):=by
 unfold bU at h
 refine bt ?_
 refine eQ Tryz.func187 rfl Tryz.ntmps187 Tryz.results187 rfl (be [4] (by kernel_rfl) (dr (ah [6] [(7,pI (p0.length:Int)),(8,pI 0)] (by kernel_rfl) (jo h fun q3 hq3 h=>?_))))
 refine aA (Y:=Unit×Unit) (fun (_,_)=>[]) (fun (_,_)=>[]) (fun (_,_)=>q3=Sum.inl ()) ?_ ?_
 ·refine aI ?_
  refine aM (Y:=Unit) (S:=Int) _ hq3 (fun _ v1=>[(0,pL Zc.enc p0),(1,g1),(7,pI (p0.length:Int)),(8,pI v1)]) (fun _ v1=>[]) () (lq rfl) ce ?_
  rintro _ v1 o τ hb2;(try dsimp only at hb2);dsimp only [aG]
  refine af (al [(9,pB (decide (v1<(p0.length:Int))))] (by kernel_rfl) (bQ (kx rfl hb2 (fun hc4 hb2=>?_) fun hc4 hb2=>?_)))
  ·refine ai ?_
   refine bQ (iA (ah [10] [(5,pI v1)] (by kernel_rfl) (dQ hb2 fun m5 hm5 hb2=>ae hb2 fun x6 hx6 hb2=>aq [] (rg 11 5) [(16,pB x6)] (eU 3 Zc.enc hm5 (AV 5 (hg1 hx6) bG)) (by kernel_rfl) (cE rfl hb2 (fun hc7 hb2=>?_) fun hc7 hb2=>?_))))
   ·refine af ?_
    refine ah [17] [(4,pI v1)] (by kernel_rfl) (dX (iZ ?_))
    refine aX hb2 (fun ht=>?_);subst ht
    refine az (aU ?_)
    exact zz r h rfl
   refine ai ?_
   refine fU (ah [18] [(8,pI (IntKind.i64.wrap (v1+1)))] (by kernel_rfl) ?_)
   exact bj hb2 () (lq rfl) ce
  refine aW ?_
  refine av (an hb2 (fun ht=>ar rfl ?_))
  exact aF ((),()) qP ce ht.symm
 rintro ⟨_,_⟩ τ hz;(try dsimp only at hz);subst q3;(try dsimp only at h);dsimp only [aG]
 refine af (fT [(4,pI (-1))] (by kernel_rfl) ?_)
 exact zz r h rfl
def bK (p0:(List Zc)) (p1:(Zc→Option Bool)):Option Bool:=(bU p0 p1).bind fun x1=>some (decide (0≤x1))
theorem gC {p0:(List Zc)} {p1:(Zc→Option Bool)} {r:Bool} {g1:PV} (hg1:∀ {y0:Zc} {w:Bool},p1 y0=some w→PFV g1 [.agg (bd y0)] (pB w)) (h:bK p0 p1=some r):PF 162 [pL Zc.enc p0,g1] (pB r):=by
 unfold bK at h
 refine bt ?_
 refine eQ Tryz.func162 rfl Tryz.ntmps162 Tryz.results162 rfl (be [4] (by kernel_rfl) (dQ h fun x1 hx1 h=>aq [] [5,6,7,8] [(4,pB (decide (0≤x1)))] (bJ 2 (gS hg1 hx1) bG) (by kernel_rfl) (dX ?_)))
 exact zz r h rfl
def cJ (p0:Zc) (p1:Zh):Option Bool:=some (p0.ID == p1.Product)
theorem kS {p0:Zc} {p1:Zh} {r:Bool}  (h:cJ p0 p1=some r):PF 163 [.agg (bd p0),.ref [pI p1.Product,pI p1.Value] 0] (pB r):=by
 unfold cJ at h
 refine bt ?_
 refine eQ Tryz.func163 rfl Tryz.ntmps163 Tryz.results163 rfl (aa (aj rfl (br (cs:=(bd p0)) rfl rfl (fun b1=>bm [3] (by kernel_rfl) (bQ (bk [0] (rg 4 5) [(3,pB (p0.ID == p1.Product))] (by kernel_rfl) (dX ?_)))))))
 exact zz r h rfl
def dt (p0:(List Zc)) (p1:(List Zh)):Option Int:=(aO (S:=Int) (T:=(Unit)⊕(_)) (fun v1=>cond (decide (v1<(p1.length:Int))) ((idx p1 v1).bind fun m5=>(gd (decide (0<v1)) (idx p1 (IntKind.i64.wrap (v1 - 1)))).bind fun m7=>cond ((decide (0<v1))&&(decide (m5.Product≤m7.Product))) (some (.inr (.inr (9:Int)))) ((bK p0 (fun y9=>cJ y9 m5)).bind fun x10=>cond (!x10) (some (.inr (.inr (6:Int)))) (cond ((decide (m5.Value<0))||(decide (1000000000000<m5.Value))) (some (.inr (.inr (2:Int)))) (some (.inl (IntKind.i64.wrap (v1+1))))))) (some (.inr (.inl ())))) FUEL 0).bind fun q=>match q with | .inl _=>some (0:Int) | .inr e=>some e
theorem lH {p0:(List Zc)} {p1:(List Zh)} {r:Int}  (h:dt p0 p1=some r):PF 119 [pL Zc.enc p0,pL Zh.enc p1] (pI r):=by
 unfold dt at h
 refine bt ?_
 refine eQ Tryz.func119 rfl Tryz.ntmps119 Tryz.results119 rfl (be [4] (by kernel_rfl) (dr (al [(7,pL Zh.enc p1),(8,pI (p1.length:Int)),(9,pI 0)] (by kernel_rfl) (jo h fun q3 hq3 h=>?_))))
 refine aA (Y:=Unit×Unit) (fun (_,_)=>[]) (fun (_,_)=>[]) (fun (_,_)=>q3=Sum.inl ()) ?_ ?_
 ·refine aI ?_
  refine aM (Y:=Unit) (S:=Int) _ hq3 (fun _ v1=>[(0,pL Zc.enc p0),(1,pL Zh.enc p1),(7,pL Zh.enc p1),(8,pI (p1.length:Int)),(9,pI v1)]) (fun _ v1=>[]) () (ow rfl) ce ?_
  rintro _ v1 o τ hb2;(try dsimp only at hb2);dsimp only [aG]
  refine af (al [(10,pB (decide (v1<(p1.length:Int))))] (by kernel_rfl) (bQ (kx rfl hb2 (fun hc4 hb2=>?_) fun hc4 hb2=>?_)))
  ·refine ai ?_
   refine bQ (iA (ae hb2 fun m5 hm5 hb2=>aa (bi 3 [] [12] [(11,pI v1),(13,.agg [pI m5.Product,pI m5.Value])] (eU 1 Zh.enc hm5 bG) (by kernel_rfl) (aj rfl (aV (cs:=[pI 0,pI 0]) rfl rfl rfl rfl (fun b6=>au 1 [(5,pI v1)] (by kernel_rfl) (ba rfl rfl (am (vs:=[pI m5.Product,pI m5.Value]) rfl rfl rfl rfl rfl cP B4 (aw (dr (co (ρd:=[]) [(0,0),(1,0),(2,0),(3,0),(4,0),(5,0),(6,0),(7,0),(8,0),(9,0),(10,0),(11,0),(12,0)] _ (List.Perm.refl _) (by kernel_rfl) rfl (ae hb2 fun m7 hm7 hb2=>cC 13 [0] (rg 14 12) [(26,pB ((decide (0<v1))&&(decide (m5.Product≤m7.Product))))] (mA 8 Zh.enc (gJ hm7) bG) (by kernel_rfl) (cQ (cE rfl hb2 (fun hc8 hb2=>?_) fun hc8 hb2=>?_))))))))))))))
   ·refine af ?_
    refine fT [(4,pI 9)] (by kernel_rfl) (ap (iZ ?_))
    refine aX hb2 (fun ht=>?_);subst ht
    refine az (aU ?_)
    exact zz r h rfl
   refine ai ?_
   refine dr (aa (au 1 [(27,pL Zc.enc p0)] (by kernel_rfl) ?_))
   refine ot 6 rfl (by exact aD) ?_
   refine ae hb2 fun x10 hx10 hb2=>gG [] [28,29] [(30,pB (!x10))] (bJ 1 (gC (fun hr=>ri (kS hr)) hx10) bG) (by kernel_rfl) (cE rfl hb2 (fun hc11 hb2=>?_) fun hc11 hb2=>?_)
   ·refine af ?_
    refine fT [(4,pI 6)] (by kernel_rfl) (ap (iZ ?_))
    refine aX hb2 (fun ht=>?_);subst ht
    refine az (aU ?_)
    exact zz r h rfl
   refine ai ?_
   refine bQ (ah (rg 31 7) [(38,pB ((decide (m5.Value<0))||(decide (1000000000000<m5.Value))))] (by kernel_rfl) (cE rfl hb2 (fun hc12 hb2=>?_) fun hc12 hb2=>?_))
   ·refine af ?_
    refine fT [(4,pI 2)] (by kernel_rfl) (iZ ?_)
    refine aX hb2 (fun ht=>?_);subst ht
    refine az (aU ?_)
    exact zz r h rfl
   refine ai ?_
   refine fU (ah [39] [(9,pI (IntKind.i64.wrap (v1+1)))] (by kernel_rfl) ?_)
   exact bj hb2 () (ow rfl) ce
  refine aW ?_
  refine av (an hb2 (fun ht=>ar rfl ?_))
  exact aF ((),()) qP ce ht.symm
 rintro ⟨_,_⟩ τ hz;(try dsimp only at hz);subst q3;(try dsimp only at h);dsimp only [aG]
 refine af (fT [(4,pI 0)] (by kernel_rfl) ?_)
 exact zz r h rfl
def du (p0:Za) (p1:Za):Option Int:=(dL p0.Product p1.Product).bind fun x3=>(dL p0.Agreement p1.Agreement).bind fun x4=>(kN [x3,x4]).bind fun x6=>some x6
theorem lI {p0:Za} {p1:Za} {r:Int}  (h:du p0 p1=some r):PF 81 [.agg [pI p0.Product,pI p0.Agreement],.agg [pI p1.Product,pI p1.Agreement]] (pI r):=by
 unfold du at h
 refine bt ?_
 refine eQ Tryz.func81 rfl Tryz.ntmps81 Tryz.results81 rfl (aa (aj rfl (br (cs:=[pI p0.Product,pI p0.Agreement]) rfl rfl (fun b1=>aj rfl (br (cs:=[pI p1.Product,pI p1.Agreement]) rfl rfl (fun b2=>bm [4] (by kernel_rfl) (bQ (co (ρd:=[]) [(0,0),(1,0),(2,0),(3,0),(5,0),(6,0),(7,0),(8,0),(4,1),(9,1),(10,1),(11,1),(12,0)] _ (List.Perm.refl _) (by kernel_rfl) rfl (ae h fun x3 hx3 h=>ae h fun x4 hx4 h=>cC 10 [1,0,1,0] [5,6,7,8,10,11,12,13] [(9,pI x3),(14,pI x4)] (bJ 8 (fI hx3) (bJ 9 (fI hx4) bG)) (by kernel_rfl) ?_)))))))))
 refine iX rfl rfl rfl (pl_fz (bD rfl rfl rfl rfl rfl (f0 rfl (f0 rfl ja)) rfl rfl rfl rfl (fun b5=>⟨_,_,_,_,_,_,_,rfl,by (repeat (first | exact aD | apply ak)),?_⟩)))
 refine ae h fun x6 hx6 h=>cC 2 [] [16] [(4,pI x6)] (bJ 0 (qX hx6) bG) (by kernel_rfl) (cQ (dX ?_))
 exact zz r h rfl
def dD (p0:Zr) (p1:Za):Option Bool:=some ((jX p0.claims p1).getD false)
theorem jg {p0:Zr} {p1:Za} {m0_claims:Nat} {r:Bool}  (h:dD p0 p1=some r):PCall 121 [.agg [.v (.map (some m0_claims))],.agg [pI p1.Product,pI p1.Agreement]] [PRes.mp (some m0_claims) (fF Za.key vT p0.claims)] (fun pv ρ'=>pv=pB r∧ρ'=[PRes.mp (some m0_claims) (fF Za.key vT p0.claims)]):=by
 unfold dD at h
 refine eQ Tryz.func121 rfl Tryz.ntmps121 Tryz.results121 rfl (aa (aj rfl (br (cs:=[.v (.map (some m0_claims))]) rfl rfl (fun b1=>aj rfl (br (cs:=[pI p1.Product,pI p1.Agreement]) rfl rfl (fun b2=>bm [4] (by kernel_rfl) (bQ (aa (cw 3 [1,0] [5] [(6,.v (.map (some m0_claims))),(7,.agg [pI p1.Product,pI p1.Agreement])] (by kernel_rfl) (bY rfl rfl rfl (show POpQ _ _ _ _ (pB ((jX p0.claims p1).getD false)) from wH (xs:=p0.claims) (k:=p1) (ek:=Za.key) (vv:=vT) (z0:=false) rfl rfl rfl (fun _=>.v rfl) Za.kenc28 (.p rfl) (.p rfl) uQ (zA vM)) (aS [(4,pB ((jX p0.claims p1).getD false))] (by kernel_rfl) (dX ?_))))))))))))
 obtain rfl:=osi h
 exact aL (cT (aN rfl)) (bh (ak (ak aD)) ce) ⟨rfl,rfl⟩
def ca (p0:(List Za)) (p1:(List Za)):Option Bool:=cond ((p0.length:Int) != (p1.length:Int)) (some false) ((aO (S:=Int) (T:=(Unit)⊕(_)) (fun v2=>cond (decide (v2<(p0.length:Int))) ((idx p0 v2).bind fun m6=>(idx p1 v2).bind fun m7=>cond (!(Za.eqb m6 m7)) (some (.inr (.inr false))) (some (.inl (IntKind.i64.wrap (v2+1))))) (some (.inr (.inl ())))) FUEL 0).bind fun q=>match q with | .inl _=>some true | .inr e=>some e)
theorem gu {p0:(List Za)} {p1:(List Za)} {r:Bool}  (h:ca p0 p1=some r):PF 122 [pL Za.enc p0,pL Za.enc p1] (pB r):=by
 unfold ca at h
 refine bt ?_
 refine eQ Tryz.func122 rfl Tryz.ntmps122 Tryz.results122 rfl (be [4] (by kernel_rfl) (dr (ah [6,7,8,9] [(10,pB ((p0.length:Int) != (p1.length:Int)))] (by kernel_rfl) (cE rfl h (fun hc1 h=>?_) fun hc1 h=>?_))))
 ·refine af ?_
  refine fT [(4,pB false)] (by kernel_rfl) (ap ?_)
  exact zz r h rfl
 refine ai ?_
 refine dr (ah [11] [(12,pI (p0.length:Int)),(13,pI 0)] (by kernel_rfl) (jo h fun q4 hq4 h=>?_))
 refine aA (Y:=Unit×Unit) (fun (_,_)=>[]) (fun (_,_)=>[]) (fun (_,_)=>q4=Sum.inl ()) ?_ ?_
 ·refine aI ?_
  refine aM (Y:=Unit) (S:=Int) _ hq4 (fun _ v2=>[(0,pL Za.enc p0),(1,pL Za.enc p1),(12,pI (p0.length:Int)),(13,pI v2)]) (fun _ v2=>[]) () (lq rfl) ce ?_
  rintro _ v2 o τ hb3;(try dsimp only at hb3);dsimp only [aG]
  refine af (al [(14,pB (decide (v2<(p0.length:Int))))] (by kernel_rfl) (bQ (kx rfl hb3 (fun hc5 hb3=>?_) fun hc5 hb3=>?_)))
  ·refine ai ?_
   refine bQ (iA (ah [15] [(5,pI v2)] (by kernel_rfl) (bQ (co (ρd:=[]) [(0,0),(1,0),(2,0),(3,0),(4,0),(5,0),(6,0),(7,0),(8,0)] _ (List.Perm.refl _) (by kernel_rfl) rfl (ae hb3 fun m6 hm6 hb3=>ae hb3 fun m7 hm7 hb3=>cC 9 [] (rg 16 8) [(24,pB (!(Za.eqb m6 m7)))] (eU 2 Za.enc hm6 (eU 6 Za.enc hm7 (C7 8 Za.eqok28 bG))) (by kernel_rfl) (cQ (cE rfl hb3 (fun hc8 hb3=>?_) fun hc8 hb3=>?_)))))))
   ·refine af ?_
    refine fT [(4,pB false)] (by kernel_rfl) (iZ ?_)
    refine aX hb3 (fun ht=>?_);subst ht
    refine az (aU ?_)
    exact zz r h rfl
   refine ai ?_
   refine fU (ah [25] [(13,pI (IntKind.i64.wrap (v2+1)))] (by kernel_rfl) ?_)
   exact bj hb3 () (lq rfl) ce
  refine aW ?_
  refine av (an hb3 (fun ht=>ar rfl ?_))
  exact aF ((),()) qP ce ht.symm
 rintro ⟨_,_⟩ τ hz;(try dsimp only at hz);subst q4;(try dsimp only at h);dsimp only [aG]
 refine af (fT [(4,pB true)] (by kernel_rfl) ?_)
 exact zz r h rfl
def jh (rec:Zf→Option Zg) (p0:Zf):Option Zg:=(aO (S:=(List Zg)×Int) (T:=((List Zg))) (fun (l3,v6)=>cond (decide (v6<(p0.Args.length:Int))) ((idx p0.Args v6).bind fun m15=>(rec m15).bind fun x17=>(app 16 l3 [x17]).bind fun l20=>some (.inl (l20,(IntKind.i64.wrap (v6+1))))) (some (.inr l3))) FUEL (([]:List Zg),0)).bind fun l10=>cond (p0.Kind == 5) (some (Zg.every_ l10)) (cond (p0.Kind == 6) (some (Zg.some_ l10)) (some (Zg.single_ (⟨p0⟩:Zs))))
theorem sG {rec:Zf→Option Zg} (hrec:∀ {p0:Zf} {r:Zg},rec p0=some r→PF 127 [.agg (aT p0)] (Zg.pv r)) {p0:Zf} {r:Zg} (h:jh rec p0=some r):PF 127 [.agg (aT p0)] (Zg.pv r):=by
 unfold jh at h
 refine bt ?_
 refine eQ Tryz.func127 rfl Tryz.ntmps127 Tryz.results127 rfl (aa (aj rfl (br (cs:=(aT p0)) rfl rfl (fun b1=>bm [2] (by kernel_rfl) (bQ (al [(3,pN)] (by kernel_rfl) (dr (bk [0] [6] [(7,pL Zf.enc p0.Args),(8,pI (p0.Args.length:Int)),(9,pI 0)] (by kernel_rfl) (aQ (cA 181 1 (ae h fun q12 hq12 h=>?_)))))))))))
 refine aA (Y:=(Option Addr×Nat)×((List Zg))) (fun ((a8,c9),l10)=>[(1,pP b1 0),(3,pO a8 l10.length c9)]) (fun ((a8,c9),l10)=>[PRes.b b1 84 (aT p0),PRes.row a8 l10.length c9 181 1 (List.map Zg.enc l10)]) (fun ((a8,c9),l10)=>q12=l10) ?_ ?_
 ·refine aI ?_
  refine aM (Y:=Option Addr×Nat) (S:=(List Zg)×Int) _ hq12 (fun (a4,c5) (l3,v6)=>[(1,pP b1 0),(3,pO a4 l3.length c5),(7,pL Zf.enc p0.Args),(8,pI (p0.Args.length:Int)),(9,pI v6)]) (fun (a4,c5) (l3,v6)=>[PRes.b b1 84 (aT p0),PRes.row a4 l3.length c5 181 1 (List.map Zg.enc l3)]) (none,0) (ow rfl) (bh (ak aD) dB) ?_
  rintro ⟨a4,c5⟩ ⟨l3,v6⟩ o τ hb11;(try dsimp only at hb11);dsimp only [aG]
  refine af (al [(10,pB (decide (v6<(p0.Args.length:Int))))] (by kernel_rfl) (bQ (kx rfl hb11 (fun hc14 hb11=>?_) fun hc14 hb11=>?_)))
  ·refine ai ?_
   refine bQ (iA (ae hb11 fun m15 hm15 hb11=>aa (bi 2 [] [11] [(12,.agg (aT m15))] (wB 0 Zf.enc (Zf.enc_eq _) hm15 bG) (by kernel_rfl) (aj rfl (aV (cs:=[pI 0,pI 0,pN,pI 0,pI 0,pS ByteArray.empty,pN]) rfl rfl rfl rfl (fun b16=>ba rfl rfl (am (vs:=(aT m15)) rfl rfl rfl rfl rfl cP qC (aw (jo hb11 fun x17 hx17 hb11=>aa (bi 3 [0] [14] [(13,pO a4 l3.length c5),(15,Zg.pv x17)] (bJ 2 (hrec hx17) bG) (by kernel_rfl) (aj rfl (bD rfl rfl rfl rfl rfl (f0 rfl ja) rfl rfl rfl rfl (fun b18=>ae hb11 fun l20 hl20 hb11=>?_)))))))))))))
   refine aj rfl (bT (enc:=Zg.enc) rfl rfl rfl rfl rfl rfl rfl rfl rfl e8 (by exact ak (ak (ak aD))) hl20 (fun a21 c22=>?_))
   refine aS [(3,pO a21 l20.length c22)] (by kernel_rfl) (fU (ah [18] [(9,pI (IntKind.i64.wrap (v6+1)))] (by kernel_rfl) ?_))
   exact bj hb11 (a21,c22) (ow rfl) (bh (ak (ak (ak aD))) dB)
  refine aW ?_
  refine av (an hb11 (fun ht=>ar rfl ?_))
  exact aF ((a4,c5),l3) (tG rfl) qV ht.symm
 rintro ⟨⟨a8,c9⟩,l10⟩ τ hz;(try dsimp only at hz);subst q12;(try dsimp only at h);dsimp only [aG]
 refine af (af (bk [0] [19] [(20,pI p0.Kind)] (by kernel_rfl) (aQ (iA (ah [22] [(21,pB (p0.Kind == 5))] (by kernel_rfl) (cE rfl h (fun hc24 h=>?_) fun hc24 h=>?_))))))
 ·refine af ?_
  refine aa (au 1 [(23,pO a8 l10.length c9)] (by kernel_rfl) ?_)
  refine fm (enc:=Zg.enc) (xs:=l10) 23 rfl (by exact ak aD) ?_
  refine au 1 [(24,.ifc 223 (pL Zg.enc l10))] (by kernel_rfl) (wK 24 rfl (Zg.pv_every_ l10) (aS [(2,Zg.pv (Zg.every_ l10))] (by kernel_rfl) (dX (iZ ?_))))
  exact zz r h rfl
 refine af ?_
 refine ah [26] [(25,pB (p0.Kind == 6))] (by kernel_rfl) (cE rfl h (fun hc25 h=>?_) fun hc25 h=>?_)
 ·refine af ?_
  refine aa (au 1 [(27,pO a8 l10.length c9)] (by kernel_rfl) ?_)
  refine fm (enc:=Zg.enc) (xs:=l10) 27 rfl (by exact ak aD) ?_
  refine au 1 [(28,.ifc 224 (pL Zg.enc l10))] (by kernel_rfl) (wK 28 rfl (Zg.pv_some_ l10) (aS [(2,Zg.pv (Zg.some_ l10))] (by kernel_rfl) (dX (iZ ?_))))
  exact zz r h rfl
 refine ai ?_
 refine aH (bQ (bk [0] [29,30,31] [(2,Zg.pv (Zg.single_ (⟨p0⟩:Zs)))] (by kernel_rfl) (dX ?_)))
 exact zz r h rfl
def ik (n:Nat):Zf→Option Zg:=Nat.rec (motive:=fun _=>Zf→Option Zg) (fun _=>none) (fun _ ih=>jh ih) n
def pW (p0:Zf):Option Zg:=ik FUEL p0
theorem tL (n:Nat):∀ {p0:Zf} {r:Zg},ik n p0=some r→PF 127 [.agg (aT p0)] (Zg.pv r):=by
 induction n with
 | zero=>intros;rename_i h;exact nomatch h
 | succ n ih=>intros;rename_i h;exact sG (fun hr=>ih hr) h
theorem pX {p0:Zf} {r:Zg} (h:pW p0=some r):PF 127 [.agg (aT p0)] (Zg.pv r):=tL FUEL h
def fp (rec:Zg→Zm→(List Int)→Option ((List Int)×Bool)) (p0:(List Zg)) (p1:Zm) (p2:(List Int)):Option ((List Int)×Bool):=(aO (S:=(List Int)×Int) (T:=((List Int))⊕(_)) (fun (l2,v3)=>cond (decide (v3<(p0.length:Int))) ((idx p0 v3).bind fun m8=>(rec m8 p1 l2).bind fun x9=>cond (!x9.2) (some (.inr (.inr ([],false)))) (some (.inl (x9.1,(IntKind.i64.wrap (v3+1)))))) (some (.inr (.inl l2)))) FUEL (p2,0)).bind fun q=>match q with | .inl l4=>some (l4,true) | .inr e=>some e
theorem oH {rec:Zg→Zm→(List Int)→Option ((List Int)×Bool)} (hrec:∀ {x:Zg} {y0:Zm} {y1:(List Int)} {w:((List Int)×Bool)},rec x y0 y1=some w→PFI x.pv "customs/rule.follow" [.agg (bP y0),pL eI y1] (.tup [pL eI w.1,pB w.2])) {p0:(List Zg)} {p1:Zm} {p2:(List Int)} {r:((List Int)×Bool)} (h:fp rec p0 p1 p2=some r):PF 242 [pL Zg.enc p0,.agg (bP p1),pL eI p2] (.tup [pL eI r.1,pB r.2]):=by
 unfold fp at h
 refine bt ?_
 refine eQ Tryz.func242 rfl Tryz.ntmps242 Tryz.results242 rfl (aa (aj rfl (br (cs:=(bP p1)) rfl rfl (fun b1=>bm [6,7] (by kernel_rfl) (dr (al [(12,pL Zg.enc p0),(13,pI (p0.length:Int)),(14,pI 0)] (by kernel_rfl) (jo h fun q6 hq6 h=>?_)))))))
 refine aA (Y:=Unit×((List Int))) (fun (_,l4)=>[(2,pL eI l4)]) (fun (_,l4)=>[]) (fun (_,l4)=>q6=Sum.inl l4) ?_ ?_
 ·refine aI ?_
  refine aM (Y:=Unit) (S:=(List Int)×Int) _ hq6 (fun _ (l2,v3)=>[(2,pL eI l2),(4,pP b1 0),(12,pL Zg.enc p0),(13,pI (p0.length:Int)),(14,pI v3)]) (fun _ (l2,v3)=>[PRes.b b1 36 (bP p1)]) () (ow rfl) dB ?_
  rintro _ ⟨l2,v3⟩ o τ hb5;(try dsimp only at hb5);dsimp only [aG]
  refine af (al [(15,pB (decide (v3<(p0.length:Int))))] (by kernel_rfl) (bQ (kx rfl hb5 (fun hc7 hb5=>?_) fun hc7 hb5=>?_)))
  ·refine ai ?_
   refine bQ (iA (ae hb5 fun m8 hm8 hb5=>aq [] [16,17] [(9,Zg.pv m8)] (eU 0 Zg.enc hm8 bG) (by kernel_rfl) (dQ hb5 fun x9 hx9 hb5=>aq [0] [19,20,21,22,18,23,24] [(10,pL eI x9.1),(11,pB x9.2)] (C8 3 (hrec hx9) bG) (by kernel_rfl) (dr (ah [25] [(26,pB (!x9.2))] (by kernel_rfl) (cE rfl hb5 (fun hc10 hb5=>?_) fun hc10 hb5=>?_))))))
   ·refine af ?_
    refine al [(6,pN),(7,pB false)] (by kernel_rfl) (aQ (jn 6 rfl (cd (ap (iZ ?_)))))
    refine aX hb5 (fun ht=>?_);subst ht
    refine az (aU ?_)
    obtain rfl:=osi h
    exact aL (dH (aN rfl) (aN rfl)) ce ⟨rfl,rfl⟩
   refine ai ?_
   refine aQ (ah [27] [(2,pL eI x9.1)] (by kernel_rfl) (fU (ah [28] [(14,pI (IntKind.i64.wrap (v3+1)))] (by kernel_rfl) ?_)))
   exact bj hb5 () (ow rfl) dB
  refine aW ?_
  refine av (an hb5 (fun ht=>ar rfl ?_))
  exact aF ((),l2) (wz rfl) ce ht.symm
 rintro ⟨_,l4⟩ τ hz;(try dsimp only at hz);subst q6;(try dsimp only at h);dsimp only [aG]
 refine af (ah [29] [(6,pL eI l4),(7,pB true)] (by kernel_rfl) (dX ?_))
 obtain rfl:=osi h
 exact aL (dH (aN rfl) (aN rfl)) ce ⟨rfl,rfl⟩
def fL (rec:Zg→Zm→(List Int)→Option ((List Int)×Bool)) (p0:(List Zg)) (p1:Zm) (p2:(List Int)):Option ((List Int)×Bool):=(gd (!((p2.length:Int) == 0)) (idx p2 0)).bind fun m2=>(gd (!(((p2.length:Int) == 0)||(decide (m2<0)))) (idx p2 0)).bind fun m3=>cond ((((p2.length:Int) == 0)||(decide (m2<0)))||(decide ((p0.length:Int)≤m3))) (some ([],false)) ((idx p2 0).bind fun m5=>(idx p0 m5).bind fun m6=>(sub p2 1 (p2.length:Int)).bind fun l7=>(rec m6 p1 l7).bind fun x8=>some (x8.1,x8.2))
theorem pb {rec:Zg→Zm→(List Int)→Option ((List Int)×Bool)} (hrec:∀ {x:Zg} {y0:Zm} {y1:(List Int)} {w:((List Int)×Bool)},rec x y0 y1=some w→PFI x.pv "customs/rule.follow" [.agg (bP y0),pL eI y1] (.tup [pL eI w.1,pB w.2])) {p0:(List Zg)} {p1:Zm} {p2:(List Int)} {r:((List Int)×Bool)} (h:fL rec p0 p1 p2=some r):PF 244 [pL Zg.enc p0,.agg (bP p1),pL eI p2] (.tup [pL eI r.1,pB r.2]):=by
 unfold fL at h
 refine bt ?_
 refine eQ Tryz.func244 rfl Tryz.ntmps244 Tryz.results244 rfl (aa (aj rfl (br (cs:=(bP p1)) rfl rfl (fun b1=>bm [6,7] (by kernel_rfl) (dr (ae h fun m2 hm2 h=>ae h fun m3 hm3 h=>aq [] (rg 8 16) [(24,pB ((((p2.length:Int) == 0)||(decide (m2<0)))||(decide ((p0.length:Int)≤m3))))] (mA 5 eI (gJ hm2) (mA 11 eI (gJ hm3) bG)) (by kernel_rfl) (cE rfl h (fun hc4 h=>?_) fun hc4 h=>?_)))))))
 ·refine af ?_
  refine al [(6,pN),(7,pB false)] (by kernel_rfl) (aQ (jn 6 rfl (cd (ap ?_))))
  obtain rfl:=osi h
  exact aL (dH (aN rfl) (aN rfl)) ce ⟨rfl,rfl⟩
 refine ai ?_
 refine bQ (co (ρd:=[]) [(0,0),(1,0),(2,0),(3,0),(4,0),(5,0),(6,0),(7,0),(8,0),(9,0),(10,0),(11,1),(12,0),(13,0),(14,0),(15,0)] _ (List.Perm.refl _) (by kernel_rfl) rfl (ae h fun m5 hm5 h=>ae h fun m6 hm6 h=>ae h fun l7 hl7 h=>ae h fun x8 hx8 h=>cC 16 [0] (rg 25 14) [(6,pL eI x8.1),(7,pB x8.2)] (eU 2 eI hm5 (eU 4 Zg.enc hm6 (zm 8 eI 1 (fun _=>rfl) hl7 (C8 11 (hrec hx8) bG)))) (by kernel_rfl) (cQ (dX ?_))))
 obtain rfl:=osi h
 exact aL (dH (aN rfl) (aN rfl)) ce ⟨rfl,rfl⟩
def cN (p0:(List ByteArray)) (p1:(ByteArray→Option Bool)):Option Int:=(aO (S:=Int) (T:=(Unit)⊕(_)) (fun v1=>cond (decide (v1<(p0.length:Int))) ((idx p0 v1).bind fun m5=>(p1 m5).bind fun x6=>cond x6 (some (.inr (.inr v1))) (some (.inl (IntKind.i64.wrap (v1+1))))) (some (.inr (.inl ())))) FUEL 0).bind fun q=>match q with | .inl _=>some (-1) | .inr e=>some e
theorem jP {p0:(List ByteArray)} {p1:(ByteArray→Option Bool)} {r:Int} {g1:PV} (hg1:∀ {y0:ByteArray} {w:Bool},p1 y0=some w→PFV g1 [pS y0] (pB w)) (h:cN p0 p1=some r):PF 256 [pL eS p0,g1] (pI r):=by
 unfold cN at h
 refine bt ?_
 refine eQ Tryz.func256 rfl Tryz.ntmps256 Tryz.results256 rfl (be [4] (by kernel_rfl) (dr (ah [6] [(7,pI (p0.length:Int)),(8,pI 0)] (by kernel_rfl) (jo h fun q3 hq3 h=>?_))))
 refine aA (Y:=Unit×Unit) (fun (_,_)=>[]) (fun (_,_)=>[]) (fun (_,_)=>q3=Sum.inl ()) ?_ ?_
 ·refine aI ?_
  refine aM (Y:=Unit) (S:=Int) _ hq3 (fun _ v1=>[(0,pL eS p0),(1,g1),(7,pI (p0.length:Int)),(8,pI v1)]) (fun _ v1=>[]) () (lq rfl) ce ?_
  rintro _ v1 o τ hb2;(try dsimp only at hb2);dsimp only [aG]
  refine af (al [(9,pB (decide (v1<(p0.length:Int))))] (by kernel_rfl) (bQ (kx rfl hb2 (fun hc4 hb2=>?_) fun hc4 hb2=>?_)))
  ·refine ai ?_
   refine bQ (iA (ah [10] [(5,pI v1)] (by kernel_rfl) (dQ hb2 fun m5 hm5 hb2=>ae hb2 fun x6 hx6 hb2=>aq [] (rg 11 5) [(16,pB x6)] (eU 3 eS hm5 (AV 5 (hg1 hx6) bG)) (by kernel_rfl) (cE rfl hb2 (fun hc7 hb2=>?_) fun hc7 hb2=>?_))))
   ·refine af ?_
    refine ah [17] [(4,pI v1)] (by kernel_rfl) (dX (iZ ?_))
    refine aX hb2 (fun ht=>?_);subst ht
    refine az (aU ?_)
    exact zz r h rfl
   refine ai ?_
   refine fU (ah [18] [(8,pI (IntKind.i64.wrap (v1+1)))] (by kernel_rfl) ?_)
   exact bj hb2 () (lq rfl) ce
  refine aW ?_
  refine av (an hb2 (fun ht=>ar rfl ?_))
  exact aF ((),()) qP ce ht.symm
 rintro ⟨_,_⟩ τ hz;(try dsimp only at hz);subst q3;(try dsimp only at h);dsimp only [aG]
 refine af (fT [(4,pI (-1))] (by kernel_rfl) ?_)
 exact zz r h rfl
def cx (p0:(List ByteArray)) (p1:(ByteArray→Option Bool)):Option Bool:=(cN p0 p1).bind fun x1=>some (decide (0≤x1))
theorem i7 {p0:(List ByteArray)} {p1:(ByteArray→Option Bool)} {r:Bool} {g1:PV} (hg1:∀ {y0:ByteArray} {w:Bool},p1 y0=some w→PFV g1 [pS y0] (pB w)) (h:cx p0 p1=some r):PF 253 [pL eS p0,g1] (pB r):=by
 unfold cx at h
 refine bt ?_
 refine eQ Tryz.func253 rfl Tryz.ntmps253 Tryz.results253 rfl (be [4] (by kernel_rfl) (dQ h fun x1 hx1 h=>aq [] [5,6,7,8] [(4,pB (decide (0≤x1)))] (bJ 2 (jP hg1 hx1) bG) (by kernel_rfl) (dX ?_)))
 exact zz r h rfl
def gf (p0:ByteArray) (p1:ByteArray):Option Bool:=(dz p1 p0).bind fun x1=>some x1
theorem ry {p0:ByteArray} {p1:ByteArray} {r:Bool}  (h:gf p0 p1=some r):PF 254 [pS p0,.ref [pS p1] 0] (pB r):=by
 unfold gf at h
 refine bt ?_
 refine eQ Tryz.func254 rfl Tryz.ntmps254 Tryz.results254 rfl (be [3] (by kernel_rfl) (dQ h fun x1 hx1 h=>aq [] [4,5,6] [(3,pB x1)] (bJ 2 (iB hx1) bG) (by kernel_rfl) (dX ?_)))
 exact zz r h rfl
def il (p0:Zf) (p1:ByteArray) (p2:ByteArray):Option Bool:=(jW p1 0 p0.Digits).bind fun s3=>(dz p2 s3).bind fun x4=>cond x4 (some true) ((cx p0.Except (fun y6=>gf y6 p2)).bind fun x7=>some x7)
theorem sH {p0:Zf} {p1:ByteArray} {p2:ByteArray} {r:Bool}  (h:il p0 p1 p2=some r):PF 251 [.agg (aT p0),pS p1,pS p2] (pB r):=by
 unfold il at h
 refine bt ?_
 refine eQ Tryz.func251 rfl Tryz.ntmps251 Tryz.results251 rfl (aa (aj rfl (br (cs:=(aT p0)) rfl rfl (fun b1=>aj rfl (br (cs:=[pS p2]) rfl rfl (fun b2=>bm [6] (by kernel_rfl) (dr (co (ρd:=[]) [(0,0),(1,0),(2,0),(3,0),(4,0),(5,1)] _ (List.Perm.refl _) (by kernel_rfl) rfl (ae h fun s3 hs3 h=>ae h fun x4 hx4 h=>cC 6 [0,1] (rg 7 5) [(12,pB x4)] (foss 4 hs3 (bJ 5 (iB hx4) bG)) (by kernel_rfl) (cQ (cE rfl h (fun hc5 h=>?_) fun hc5 h=>?_)))))))))))
 ·refine af ?_
  refine fT [(6,pB true)] (by kernel_rfl) (ap ?_)
  exact zz r h rfl
 refine ai ?_
 refine bQ (aa (cw 2 [1] [13] [(14,pL eS p0.Except)] (by kernel_rfl) ?_))
 refine ot 5 rfl (by exact aD) ?_
 refine ae h fun x7 hx7 h=>gG [] [15,16] [(6,pB x7)] (bJ 1 (i7 (fun hr=>ri (ry hr)) hx7) bG) (by kernel_rfl) (dX ?_)
 exact zz r h rfl
def gw (p0:Zo) (p1:Zo):Option Int:=cond ((decide (p0.Hi<p1.Hi))||((p0.Hi == p1.Hi)&&(decide (p0.Lo<p1.Lo)))) (some (-1)) (cond (Zo.eqb p0 p1) (some (0:Int)) (some (1:Int)))
theorem pZ {p0:Zo} {p1:Zo} {r:Int}  (h:gw p0 p1=some r):PF 255 [.agg [pU p0.Hi,pU p0.Lo],.agg [pU p1.Hi,pU p1.Lo]] (pI r):=by
 unfold gw at h
 refine bt ?_
 refine eQ Tryz.func255 rfl Tryz.ntmps255 Tryz.results255 rfl (aa (aj rfl (br (cs:=[pU p0.Hi,pU p0.Lo]) rfl rfl (fun b1=>aj rfl (br (cs:=[pU p1.Hi,pU p1.Lo]) rfl rfl (fun b2=>bm [4] (by kernel_rfl) (bQ (iA (bk [1,0,1,0,1,0] (rg 6 19) [(5,pB ((decide (p0.Hi<p1.Hi))||((p0.Hi == p1.Hi)&&(decide (p0.Lo<p1.Lo)))))] (by kernel_rfl) (cE rfl h (fun hc3 h=>?_) fun hc3 h=>?_))))))))))
 ·refine af ?_
  refine fT [(4,pI (-1))] (by kernel_rfl) (iZ ?_)
  exact zz r h rfl
 refine af ?_
 refine aq [1,0] [26,27,28] [(25,pB (Zo.eqb p0 p1))] (C7 2 Zo.eqok233 bG) (by kernel_rfl) (cE rfl h (fun hc4 h=>?_) fun hc4 h=>?_)
 ·refine af ?_
  refine fT [(4,pI 0)] (by kernel_rfl) (iZ ?_)
  exact zz r h rfl
 refine ai ?_
 refine aH (bQ (fT [(4,pI 1)] (by kernel_rfl) ?_))
 exact zz r h rfl
def jG (p0:Int) (p1:Int) (p2:Int):Option Bool:=(jD (IntKind.u64.wrap p0) 1000000).bind fun x1=>(jD (IntKind.u64.wrap p1) (IntKind.u64.wrap p2)).bind fun x3=>(gw x1 x3).bind fun x5=>some (decide (x5≤0))
theorem p7 {p0:Int} {p1:Int} {p2:Int} {r:Bool}  (h:jG p0 p1 p2=some r):PF 252 [pI p0,pI p1,pI p2] (pB r):=by
 unfold jG at h
 refine bt ?_
 refine eQ Tryz.func252 rfl Tryz.ntmps252 Tryz.results252 rfl (be [6] (by kernel_rfl) (dQ h fun x1 hx1 h=>aa (bi 3 [] [9,10] [(11,.agg [pU x1.Hi,pU x1.Lo])] (bJ 2 (oz hx1) bG) (by kernel_rfl) (aj rfl (aV (cs:=[pU 0,pU 0]) rfl rfl rfl rfl (fun b2=>ba rfl rfl (am (vs:=[pU x1.Hi,pU x1.Lo]) rfl rfl rfl rfl rfl cP B4 (aw (dQ h fun x3 hx3 h=>aa (bi 5 [] [12,13,14,15] [(16,.agg [pU x3.Hi,pU x3.Lo])] (bJ 4 (oz hx3) bG) (by kernel_rfl) (aj rfl (aV (cs:=[pU 0,pU 0]) rfl rfl rfl rfl (fun b4=>ba rfl rfl (am (vs:=[pU x3.Hi,pU x3.Lo]) rfl rfl rfl rfl rfl cP B4 (aw (dQ h fun x5 hx5 h=>aq [1,0] [17,18,19,20] [(6,pB (decide (x5≤0)))] (bJ 2 (pZ hx5) bG) (by kernel_rfl) (dX ?_)))))))))))))))))
 exact zz r h rfl
def rule_holds (p0:Zf) (p1:Zm):Option Bool:=(aO (S:=Int×Int×Int×Int) (T:=(Int×Int×Int)) (fun (v3,v4,v5,v6)=>cond (decide (v6<(p1.Inputs.length:Int))) (((idx p1.Inputs v6).bind fun m17=>cond m17.Originating (some (v3,v4,v5)) ((gd (p0.Kind == 2) (il p0 p1.Code m17.Code)).bind fun x20=>cond ((p0.Kind == 2)&&x20) (some ((IntKind.i64.wrap (v3+m17.Value)),(IntKind.i64.wrap (v4+m17.Value)),(IntKind.i64.wrap (v5+1)))) (some ((IntKind.i64.wrap (v3+m17.Value)),v4,(IntKind.i64.wrap (v5+1)))))).bind fun (v13,v14,v15)=>some (.inl (v13,v14,v15,(IntKind.i64.wrap (v6+1))))) (some (.inr (v3,v4,v5)))) FUEL (0,0,0,0)).bind fun (v7,v8,v9)=>cond (p0.Kind == 1) (some (p1.Obtained&&(v9 == 0))) (cond (p0.Kind == 2) ((jG v8 p0.Tolerance p1.Price).bind fun x24=>some x24) (cond (p0.Kind == 3) ((jG v7 p0.Limit p1.Price).bind fun x26=>some x26) (cond (p0.Kind == 4) ((bO p1.Processes p0.Name).bind fun x28=>some x28) (some false))))
theorem qY {p0:Zf} {p1:Zm} {r:Bool}  (h:rule_holds p0 p1=some r):PF 250 [.agg (aT p0),.agg (bP p1)] (pB r):=by
 unfold rule_holds at h
 refine bt ?_
 refine eQ Tryz.func250 rfl Tryz.ntmps250 Tryz.results250 rfl (aa (aj rfl (br (cs:=(aT p0)) rfl rfl (fun b1=>aj rfl (br (cs:=(bP p1)) rfl rfl (fun b2=>bm [4] (by kernel_rfl) (bQ (al [(5,pI 0),(6,pI 0),(7,pI 0)] (by kernel_rfl) (dr (bk [0] [10] [(11,pL Zl.enc p1.Inputs),(12,pI (p1.Inputs.length:Int)),(13,pI 0)] (by kernel_rfl) (jo h fun q11 hq11 h=>?_)))))))))))
 refine aA (Y:=Unit×(Int×Int×Int)) (fun (_,(v7,v8,v9))=>[(2,pP b1 0),(3,pP b2 0),(5,pI v7),(6,pI v8),(7,pI v9)]) (fun (_,(v7,v8,v9))=>[PRes.b b1 84 (aT p0),PRes.b b2 36 (bP p1)]) (fun (_,(v7,v8,v9))=>q11=(v7,v8,v9)) ?_ ?_
 ·refine aI ?_
  refine aM (Y:=Unit) (S:=Int×Int×Int×Int) _ hq11 (fun _ (v3,v4,v5,v6)=>[(2,pP b1 0),(3,pP b2 0),(5,pI v3),(6,pI v4),(7,pI v5),(11,pL Zl.enc p1.Inputs),(12,pI (p1.Inputs.length:Int)),(13,pI v6)]) (fun _ (v3,v4,v5,v6)=>[PRes.b b1 84 (aT p0),PRes.b b2 36 (bP p1)]) () (rn rfl) (bh (ak aD) dB) ?_
  rintro _ ⟨v3,v4,v5,v6⟩ o τ hb10;(try dsimp only at hb10);dsimp only [aG]
  refine af (al [(14,pB (decide (v6<(p1.Inputs.length:Int))))] (by kernel_rfl) (bQ (kx rfl hb10 (fun hc12 hb10=>?_) fun hc12 hb10=>?_)))
  ·refine ai ?_
   refine dQ hb10 fun q16 hq16 hb10=>?_
   refine aA (Y:=Unit×(Int×Int×Int)) (fun (_,(v13,v14,v15))=>[(2,pP b1 0),(3,pP b2 0),(5,pI v13),(6,pI v14),(7,pI v15),(11,pL Zl.enc p1.Inputs),(12,pI (p1.Inputs.length:Int)),(13,pI v6)]) (fun (_,(v13,v14,v15))=>[PRes.b b1 84 (aT p0),PRes.b b2 36 (bP p1)]) (fun (_,(v13,v14,v15))=>q16=(v13,v14,v15)) ?_ ?_
   ·skip
    refine iA (ae hq16 fun m17 hm17 hq16=>aa (bi 2 [] [15] [(16,.agg [pS m17.Code,pI m17.Value,pB m17.Originating])] (eU 0 Zl.enc hm17 bG) (by kernel_rfl) (aj rfl (aV (cs:=[pS ByteArray.empty,pI 0,pB false]) rfl rfl rfl rfl (fun b18=>ba rfl rfl (am (vs:=[pS m17.Code,pI m17.Value,pB m17.Originating]) rfl rfl rfl rfl rfl cP zl3 (aw (dr (bk [0] [17] [(18,pB m17.Originating)] (by kernel_rfl) (cE rfl hq16 (fun hc19 hq16=>?_) fun hc19 hq16=>?_))))))))))
    ·refine aW ?_
     refine av (ar rfl ?_)
     obtain rfl:=osi hq16
     exact aF ((),(v3,v4,v5)) (rn rfl) (bh (ak aD) (bh (ak aD) ce)) rfl
    refine ai ?_
    refine bQ (ah [19,20] [(7,pI (IntKind.i64.wrap (v5+1)))] (by kernel_rfl) (bQ (bk [0] [21,22,23,24] [(5,pI (IntKind.i64.wrap (v3+m17.Value)))] (by kernel_rfl) (dQ hq16 fun x20 hx20 hq16=>aq [1,1,2,0] (rg 25 10) [(35,pB ((p0.Kind == 2)&&x20))] (iY 9 (fun hc=>sH (gJ hx20 hc)) bG) (by kernel_rfl) (cE rfl hq16 (fun hc21 hq16=>?_) fun hc21 hq16=>?_)))))
    ·refine bk [0] [36,37,38,39] [(6,pI (IntKind.i64.wrap (v4+m17.Value)))] (by kernel_rfl) ?_
     refine aH ?_
     obtain rfl:=osi hq16
     exact aF ((),((IntKind.i64.wrap (v3+m17.Value)),(IntKind.i64.wrap (v4+m17.Value)),(IntKind.i64.wrap (v5+1)))) (rn rfl) (bh (ak aD) (bh (ak aD) ce)) rfl
    refine ai ?_
    refine aH ?_
    obtain rfl:=osi hq16
    exact aF ((),((IntKind.i64.wrap (v3+m17.Value)),v4,(IntKind.i64.wrap (v5+1)))) (rn rfl) (bh (ak aD) (bh (ak aD) ce)) rfl
   rintro ⟨_,⟨v13,v14,v15⟩⟩ τ hz;(try dsimp only at hz);subst q16;(try dsimp only at hb10);dsimp only [aG]
   refine ah [40] [(13,pI (IntKind.i64.wrap (v6+1)))] (by kernel_rfl) ?_
   exact bj hb10 () (rn rfl) qV
  refine aW ?_
  refine av (an hb10 (fun ht=>ar rfl ?_))
  exact aF ((),(v3,v4,v5)) (ow rfl) qV ht.symm
 rintro ⟨_,⟨v7,v8,v9⟩⟩ τ hz;(try dsimp only at hz);subst q11;(try dsimp only at h);dsimp only [aG]
 refine af (af (bk [0] [41] [(42,pI p0.Kind)] (by kernel_rfl) (aQ (iA (ah [44] [(43,pB (p0.Kind == 1))] (by kernel_rfl) (cE rfl h (fun hc22 h=>?_) fun hc22 h=>?_))))))
 ·refine af ?_
  refine bk [1] (rg 45 6) [(4,pB (p1.Obtained&&(v9 == 0)))] (by kernel_rfl) (dX (iZ ?_))
  exact zz r h rfl
 refine af ?_
 refine ah [52] [(51,pB (p0.Kind == 2))] (by kernel_rfl) (cE rfl h (fun hc23 h=>?_) fun hc23 h=>?_)
 ·refine af ?_
  refine ae h fun x24 hx24 h=>aq [0,1] (rg 53 6) [(4,pB x24)] (bJ 5 (p7 hx24) bG) (by kernel_rfl) (dX (iZ ?_))
  exact zz r h rfl
 refine af ?_
 refine ah [60] [(59,pB (p0.Kind == 3))] (by kernel_rfl) (cE rfl h (fun hc25 h=>?_) fun hc25 h=>?_)
 ·refine af ?_
  refine ae h fun x26 hx26 h=>aq [0,1] (rg 61 6) [(4,pB x26)] (bJ 5 (p7 hx26) bG) (by kernel_rfl) (dX (iZ ?_))
  exact zz r h rfl
 refine af ?_
 refine ah [68] [(67,pB (p0.Kind == 4))] (by kernel_rfl) (cE rfl h (fun hc27 h=>?_) fun hc27 h=>?_)
 ·refine af ?_
  refine ae h fun x28 hx28 h=>aq [1,0] (rg 69 5) [(4,pB x28)] (bJ 4 (de hx28) bG) (by kernel_rfl) (dX (iZ ?_))
  exact zz r h rfl
 refine ai ?_
 refine aH (bQ (fT [(4,pB false)] (by kernel_rfl) ?_))
 exact zz r h rfl
def fM (p0:Zs) (p1:Zm) (p2:(List Int)):Option ((List Int)×Bool):=(rule_holds p0.rule p1).bind fun x3=>some (p2,x3)
theorem pg {p0:Zs} {p1:Zm} {p2:(List Int)} {r:((List Int)×Bool)}  (h:fM p0 p1 p2=some r):PF 248 [.agg (aT p0.rule),.agg (bP p1),pL eI p2] (.tup [pL eI r.1,pB r.2]):=by
 unfold fM at h
 refine bt ?_
 refine eQ Tryz.func248 rfl Tryz.ntmps248 Tryz.results248 rfl (aa (aj rfl (br (cs:=(aT p0.rule)) rfl rfl (fun b1=>aj rfl (br (cs:=(bP p1)) rfl rfl (fun b2=>bm [6,7] (by kernel_rfl) (dQ h fun x3 hx3 h=>aq [1,0] (rg 8 5) [(6,pL eI p2),(7,pB x3)] (bJ 4 (qY hx3) bG) (by kernel_rfl) (dX ?_))))))))
 obtain rfl:=osi h
 exact aL (dH (aN rfl) (aN rfl)) ce ⟨rfl,rfl⟩
def Irule_test_follow_B (rec:Zg→Zm→(List Int)→Option ((List Int)×Bool)) (x:Zg) (y0:Zm) (y1:(List Int)):Option ((List Int)×Bool):=match x with | .single_ a=>fM a y0 y1 | .every_ a=>fp rec a y0 y1 | .some_ a=>fL rec a y0 y1
theorem Irule_test_follow_B_ok {rec:Zg→Zm→(List Int)→Option ((List Int)×Bool)} (hrec:∀ {x:Zg} {y0:Zm} {y1:(List Int)} {w:((List Int)×Bool)},rec x y0 y1=some w→PFI x.pv "customs/rule.follow" [.agg (bP y0),pL eI y1] (.tup [pL eI w.1,pB w.2])) {x:Zg} {y0:Zm} {y1:(List Int)} {w:((List Int)×Bool)} (h:Irule_test_follow_B rec x y0 y1=some w):PFI x.pv "customs/rule.follow" [.agg (bP y0),pL eI y1] (.tup [pL eI w.1,pB w.2]):=by
 cases x with
 | single_ a=>rw [Zg.pv_single_];exact pC ⟨fun _ _=>by kernel_rfl⟩ (pg h)
 | every_ a=>rw [Zg.pv_every_];exact pC ⟨fun _ _=>by kernel_rfl⟩ (oH hrec h)
 | some_ a=>rw [Zg.pv_some_];exact pC ⟨fun _ _=>by kernel_rfl⟩ (pb hrec h)
def Irule_test_follow_F (n:Nat):Zg→Zm→(List Int)→Option ((List Int)×Bool):=Nat.rec (motive:=fun _=>Zg→Zm→(List Int)→Option ((List Int)×Bool)) (fun _ _ _=>none) (fun _ ih=>Irule_test_follow_B ih) n
def Irule_test_follow (x:Zg) (y0:Zm) (y1:(List Int)):Option ((List Int)×Bool):=Irule_test_follow_F FUEL x y0 y1
theorem Irule_test_follow_Fok (n:Nat):∀ {x:Zg} {y0:Zm} {y1:(List Int)} {w:((List Int)×Bool)},Irule_test_follow_F n x y0 y1=some w→PFI x.pv "customs/rule.follow" [.agg (bP y0),pL eI y1] (.tup [pL eI w.1,pB w.2]):=by
 induction n with
 | zero=>intros;rename_i h;exact nomatch h
 | succ n ih=>intros;rename_i h;exact Irule_test_follow_B_ok (fun hr=>ih hr) h
theorem Irule_test_follow_ok {x:Zg} {y0:Zm} {y1:(List Int)} {w:((List Int)×Bool)} (h:Irule_test_follow x y0 y1=some w):PFI x.pv "customs/rule.follow" [.agg (bP y0),pL eI y1] (.tup [pL eI w.1,pB w.2]):=Irule_test_follow_Fok FUEL h
def fR (p0:Zr) (p1:Za):Option (List (Za×Bool)):=some (pE p0.claims p1 true)
theorem nw {p0:Zr} {p1:Za} {m0_claims:Nat} {r:(List (Za×Bool))}  (h:fR p0 p1=some r):PCall 74 [.agg [.v (.map (some m0_claims))],.agg [pI p1.Product,pI p1.Agreement]] [PRes.mp (some m0_claims) (fF Za.key vT p0.claims)] (fun pv ρ'=>pv=.tup []∧ρ'=[PRes.mp (some m0_claims) (fF Za.key vT r)]):=by
 unfold fR at h
 refine eQ Tryz.func74 rfl Tryz.ntmps74 Tryz.results74 rfl (aa (aj rfl (br (cs:=[.v (.map (some m0_claims))]) rfl rfl (fun b1=>aj rfl (br (cs:=[pI p1.Product,pI p1.Agreement]) rfl rfl (fun b2=>aw (aQ (aa (cw 3 [1,0] [4] [(5,.v (.map (some m0_claims))),(6,.agg [pI p1.Product,pI p1.Agreement])] (by kernel_rfl) (ba rfl rfl (ox (xs:=p0.claims) (k:=p1) (ek:=Za.key) (vv:=vT) (v:=true) rfl rfl Za.kenc28 rfl rfl uQ rfl (dl (dl cP)) (aw ?_))))))))))))
 obtain rfl:=osi h
 exact Er (rfl:PRV [] _ _ (.tup [])) (bh (ak (ak aD)) ce) ⟨rfl,rfl⟩
def mL (rec:Zf→Zm→(List Int)→Option ((List Int)×Bool)) (p0:Zf) (p1:Zm) (p2:(List Int)):Option ((List Int)×Bool):=cond (p0.Kind == 5) ((aO (S:=(List Int)×Int) (T:=((List Int))⊕(_)) (fun (l4,v5)=>cond (decide (v5<(p0.Args.length:Int))) ((idx p0.Args v5).bind fun m10=>(rec m10 p1 l4).bind fun x11=>cond (!x11.2) (some (.inr (.inr ([],false)))) (some (.inl (x11.1,(IntKind.i64.wrap (v5+1)))))) (some (.inr (.inl l4)))) FUEL (p2,0)).bind fun q=>match q with | .inl l6=>some (l6,true) | .inr e=>some e) (cond (p0.Kind == 6) ((gd (!((p2.length:Int) == 0)) (idx p2 0)).bind fun m14=>(gd (!(((p2.length:Int) == 0)||(decide (m14<0)))) (idx p2 0)).bind fun m15=>cond ((((p2.length:Int) == 0)||(decide (m14<0)))||(decide ((p0.Args.length:Int)≤m15))) (some ([],false)) ((idx p2 0).bind fun m17=>(idx p0.Args m17).bind fun m18=>(sub p2 1 (p2.length:Int)).bind fun l19=>(rec m18 p1 l19).bind fun x20=>some (x20.1,x20.2))) ((pV p0 p1).bind fun x21=>some (p2,x21)))
def iH (n:Nat):Zf→Zm→(List Int)→Option ((List Int)×Bool):=Nat.rec (motive:=fun _=>Zf→Zm→(List Int)→Option ((List Int)×Bool)) (fun _ _ _=>none) (fun _ ih=>mL ih) n
def xW (p0:Zf) (p1:Zm) (p2:(List Int)):Option ((List Int)×Bool):=iH FUEL p0 p1 p2
def ma (p0:Zf) (p1:Zm) (p2:(List Int)):Option Bool:=(xW p0 p1 p2).bind fun x3=>some (x3.2&&((x3.1.length:Int) == 0))
def mZ (p0:(List Zc)) (p1:(List Zb)) (p2:ByteArray) (p3:(List Zd)):Option (Int×Int):=(lv p0 p1 p2).bind fun x1=>cond (x1.2 != 0) (some ((0:Int),x1.2)) ((aO (S:=(List Za)×Int) (T:=((List Zd))⊕(_)) (fun (l3,v4)=>cond (decide (v4<(p3.length:Int))) ((idx p3 v4).bind fun m9=>(dS p0 p1 p2 m9.Claim).bind fun x11=>(gd (!(!x11)) (cM l3 m9.Claim)).bind fun x12=>cond ((!x11)||x12) (some (.inr (.inr (v4,(10:Int))))) ((aO (S:=Int) (T:=(Unit)⊕(_)) (fun v14=>cond (decide (v14<(m9.Premises.length:Int))) ((idx m9.Premises v14).bind fun m18=>(cM l3 m18).bind fun x19=>cond (!x19) (some (.inr (.inr (.inr (.inr (v4,(10:Int))))))) (some (.inl (IntKind.i64.wrap (v14+1))))) (some (.inr (.inl ())))) FUEL 0).bind fun q=>match q with | .inl _=>(gY p0 p1 p2 m9.Claim m9.Premises).bind (fun x21=>(fK p0 m9.Claim.Product).bind fun x23=>(fi p1 m9.Claim.Agreement).bind fun x25=>(gt x25.1 x23.1.Code).bind fun x27=>(iQ x21.2 m9.Premises).bind fun x29=>(gd (!(!x29)) (ma x27.1 x21.1 m9.Path)).bind fun x30=>cond ((!x29)||(!x30)) (some (.inr (.inr (v4,(10:Int))))) ((em l3 m9.Claim).bind fun x32=>some (.inl (x32,(IntKind.i64.wrap (v4+1)))))) | .inr e=>some e)) (some (.inr (.inl p3)))) FUEL ([],0)).bind fun q=>match q with | .inl l5=>some ((l5.length:Int),(0:Int)) | .inr e=>some e)
def e7 (rec:Zg→Zm→Option ((List Int)×Bool)) (p0:(List Zg)) (p1:Zm):Option ((List Int)×Bool):=(aO (S:=(List Int)×Int) (T:=((List Int))⊕(_)) (fun (l3,v6)=>cond (decide (v6<(p0.length:Int))) ((idx p0 v6).bind fun m15=>(rec m15 p1).bind fun x16=>cond (!x16.2) (some (.inr (.inr ([],false)))) ((app 8 l3 x16.1).bind fun l18=>some (.inl (l18,(IntKind.i64.wrap (v6+1)))))) (some (.inr (.inl l3)))) FUEL (([]:List Int),0)).bind fun q=>match q with | .inl l10=>some (l10,true) | .inr e=>some e
theorem nR {rec:Zg→Zm→Option ((List Int)×Bool)} (hrec:∀ {x:Zg} {y0:Zm} {w:((List Int)×Bool)},rec x y0=some w→PFI x.pv "customs/rule.witness" [.agg (bP y0)] (.tup [pL eI w.1,pB w.2])) {p0:(List Zg)} {p1:Zm} {r:((List Int)×Bool)} (h:e7 rec p0 p1=some r):PF 243 [pL Zg.enc p0,.agg (bP p1)] (.tup [pL eI r.1,pB r.2]):=by
 unfold e7 at h
 refine bt ?_
 refine eQ Tryz.func243 rfl Tryz.ntmps243 Tryz.results243 rfl (aa (aj rfl (br (cs:=(bP p1)) rfl rfl (fun b1=>bm [4,5] (by kernel_rfl) (bQ (al [(6,pN)] (by kernel_rfl) (dr (al [(11,pL Zg.enc p0),(12,pI (p0.length:Int)),(13,pI 0)] (by kernel_rfl) (aQ (cA 3 1 (ae h fun q12 hq12 h=>?_)))))))))))
 refine aA (Y:=(Option Addr×Nat)×((List Int))) (fun ((a8,c9),l10)=>[(6,pO a8 l10.length c9)]) (fun ((a8,c9),l10)=>[PRes.row a8 l10.length c9 3 1 (List.map eI l10)]) (fun ((a8,c9),l10)=>q12=Sum.inl l10) ?_ ?_
 ·refine aI ?_
  refine aM (Y:=Option Addr×Nat) (S:=(List Int)×Int) _ hq12 (fun (a4,c5) (l3,v6)=>[(3,pP b1 0),(6,pO a4 l3.length c5),(11,pL Zg.enc p0),(12,pI (p0.length:Int)),(13,pI v6)]) (fun (a4,c5) (l3,v6)=>[PRes.b b1 36 (bP p1),PRes.row a4 l3.length c5 3 1 (List.map eI l3)]) (none,0) (ow rfl) (bh (ak aD) dB) ?_
  rintro ⟨a4,c5⟩ ⟨l3,v6⟩ o τ hb11;(try dsimp only at hb11);dsimp only [aG]
  refine af (al [(14,pB (decide (v6<(p0.length:Int))))] (by kernel_rfl) (bQ (kx rfl hb11 (fun hc14 hb11=>?_) fun hc14 hb11=>?_)))
  ·refine ai ?_
   refine bQ (iA (ae hb11 fun m15 hm15 hb11=>aq [] [15,16] [(8,Zg.pv m15)] (eU 0 Zg.enc hm15 bG) (by kernel_rfl) (dQ hb11 fun x16 hx16 hb11=>aq [0] [18,19,20,17,21,22] [(9,pL eI x16.1),(10,pB x16.2)] (C8 2 (hrec hx16) bG) (by kernel_rfl) (dr (ah [23] [(24,pB (!x16.2))] (by kernel_rfl) (cE rfl hb11 (fun hc17 hb11=>?_) fun hc17 hb11=>?_))))))
   ·refine af ?_
    refine al [(4,pN),(5,pB false)] (by kernel_rfl) (aQ (jn 4 rfl (cd (ap (iZ ?_)))))
    refine aX hb11 (fun ht=>?_);subst ht
    refine az (aU ?_)
    obtain rfl:=osi h
    exact aL (dH (aN rfl) (aN rfl)) ce ⟨rfl,rfl⟩
   refine ai ?_
   refine jo hb11 fun l18 hl18 hb11=>aa (au 2 [(25,pO a4 l3.length c5),(26,pL eI x16.1)] (by kernel_rfl) ?_)
   refine aj rfl (hX (enc:=eI) rfl rfl rfl rfl rfl (fun _=>rfl) rfl rfl rfl (by exact ak aD) hl18 (fun a19 c20=>?_))
   refine aS [(6,pO a19 l18.length c20)] (by kernel_rfl) (fU (ah [28] [(13,pI (IntKind.i64.wrap (v6+1)))] (by kernel_rfl) ?_))
   exact bj hb11 (a19,c20) (ow rfl) (bh (ak aD) dB)
  refine aW ?_
  refine av (an hb11 (fun ht=>ar rfl ?_))
  exact aF ((a4,c5),l3) (wz rfl) (bh (ak aD) ce) ht.symm
 rintro ⟨⟨a8,c9⟩,l10⟩ τ hz;(try dsimp only at hz);subst q12;(try dsimp only at h);dsimp only [aG]
 refine af (ah [29] [(4,pO a8 l10.length c9),(5,pB true)] (by kernel_rfl) (aQ ?_))
 refine fk (enc:=eI) (xs:=l10) 4 rfl (by exact aD) ?_
 refine cd ?_
 obtain rfl:=osi h
 exact aL (dH (aN rfl) (aN rfl)) ce ⟨rfl,rfl⟩
def gH (p1:Int):Option (List Int):=(De 8 p1).bind fun _=>some []
theorem oI {p1:Int} {r:(List Int)} (h:gH p1=some r):PCall 247 [.v (.slice none 0 0),pI p1] [] (fun pv ρ'=>∃ a c,pv=.v (.slice a r.length c)∧ρ'=[PRes.row a r.length c 3 1 (List.map eI r)]):=by
 unfold gH at h
 obtain ⟨u,hu,h⟩:=Option.bind_eq_some_iff.1 h
 obtain rfl:=osi h
 obtain ⟨hg0,hg1⟩:=Fc hu
 have ew:IntKind.i64.wrap (p1 - IntKind.i64.wrap (((0:Nat):Int) - ((0:Nat):Int)))=p1:=wM hg0 hg1
 refine lc Tryz.func247 rfl Tryz.ntmps247 Tryz.results247 rfl ?_
 (repeat refine af ?_)
 refine be [4] (by kernel_rfl) (aQ ?_)
 (repeat refine af ?_)
 refine ah [5] [(6,pB (decide (p1<0)))] (by kernel_rfl) (aQ ?_)
 refine ir rfl (fun hc=>absurd (of_decide_eq_true hc) (by omega)) (fun hc=>?_)
 refine ai (aQ ?_)
 (repeat refine af ?_)
 refine aa (au 2 [(8,pI p1),(9,.v (.slice none 0 0))] (by kernel_rfl) (bY rfl rfl rfl (ua rfl rfl (.p rfl)) (hZ [11,12,13,14] [(1,pI (IntKind.i64.wrap (p1 - IntKind.i64.wrap (((0:Nat):Int) - ((0:Nat):Int)))))] (by kernel_rfl) ?_)))
 rw [ew]
 refine aQ ?_
 (repeat refine af ?_)
 refine ah [15] [(16,pB (decide (0<p1)))] (by kernel_rfl) (aQ ?_)
 refine ir rfl (fun hc=>?_) (fun hc=>?_)
 ·refine aa ?_
  refine au 2 [(17,.v (.slice none 0 0)),(18,.v (.slice none 0 0))] (by kernel_rfl) (bY rfl rfl rfl (ua rfl rfl (.p rfl)) (bY rfl rfl rfl (qG rfl rfl rfl (.p rfl) (.p rfl) rfl (Nat.zero_le _)) (au 1 [(21,pI p1)] (by kernel_rfl) (uy 3 1 ?_))))
  refine aj rfl (zF rfl rfl rfl rfl rfl rfl rfl rfl (of_decide_eq_true hc) hu (by exact aD) (fun a c hac=>?_))
  refine au 2 [(23,.v (.slice none 0 0)),(24,pI 0)] (by kernel_rfl) (bY rfl rfl rfl (qG (k:=0) rfl rfl rfl (.p rfl) (.p rfl) rfl (Nat.zero_le _)) (aS [(0,.v (.slice a 0 c))] (by kernel_rfl) (aQ ?_)))
  (repeat refine af ?_)
  refine ah [26] [(4,.v (.slice a 0 c))] (by kernel_rfl) (dX ?_)
  exact aL (cT (aN rfl)) dB ⟨_,_,rfl,rfl⟩
 refine ai ?_
 refine aQ ?_
 (repeat refine af ?_)
 refine ah [26] [(4,.v (.slice none 0 0))] (by kernel_rfl) (aQ (cA 3 1 (cd ?_)))
 exact aL (cT (aN rfl)) dB ⟨_,_,rfl,rfl⟩
def dE (p0:(List (List Int))):Option (List Int):=(aO (S:=Int×Int) (T:=(Int)) (fun (v1,v2)=>cond (decide (v2<(p0.length:Int))) ((idx p0 v2).bind fun m7=>cond (decide ((IntKind.i64.wrap (v1+(m7.length:Int)))<0)) (none) (some (.inl ((IntKind.i64.wrap (v1+(m7.length:Int))),(IntKind.i64.wrap (v2+1)))))) (some (.inr v1))) FUEL (0,0)).bind fun v3=>(gH v3).bind fun x9=>(aO (S:=(List Int)×Int) (T:=((List Int))) (fun (l14,v17)=>cond (decide (v17<(p0.length:Int))) ((idx p0 v17).bind fun m25=>(app 8 l14 m25).bind fun l26=>some (.inl (l26,(IntKind.i64.wrap (v17+1))))) (some (.inr l14))) FUEL (x9,0)).bind fun l21=>some l21
theorem nx {p0:(List (List Int))} {r:(List Int)}  (h:dE p0=some r):PCall 246 [pL (eL eI) p0] [] (fun pv ρ'=>∃ a c,pv=.v (.slice a r.length c)∧ρ'=[PRes.row a r.length c 3 1 (List.map eI r)]):=by
 unfold dE at h
 refine eQ Tryz.func246 rfl Tryz.ntmps246 Tryz.results246 rfl (be [2] (by kernel_rfl) (bQ (al [(3,pI 0)] (by kernel_rfl) (dr (al [(9,pL (eL eI) p0),(10,pI (p0.length:Int)),(11,pI 0)] (by kernel_rfl) (jo h fun q5 hq5 h=>?_))))))
 refine aA (Y:=Unit×Int) (fun (_,v3)=>[(0,pL (eL eI) p0),(3,pI v3)]) (fun (_,v3)=>[]) (fun (_,v3)=>q5=v3) ?_ ?_
 ·refine aI ?_
  refine aM (Y:=Unit) (S:=Int×Int) _ hq5 (fun _ (v1,v2)=>[(0,pL (eL eI) p0),(3,pI v1),(9,pL (eL eI) p0),(10,pI (p0.length:Int)),(11,pI v2)]) (fun _ (v1,v2)=>[]) () (ow rfl) ce ?_
  rintro _ ⟨v1,v2⟩ o τ hb4;(try dsimp only at hb4);dsimp only [aG]
  refine af (al [(12,pB (decide (v2<(p0.length:Int))))] (by kernel_rfl) (bQ (kx rfl hb4 (fun hc6 hb4=>?_) fun hc6 hb4=>?_)))
  ·refine ai ?_
   refine bQ (iA (ae hb4 fun m7 hm7 hb4=>aq [] [13,14] [(5,pL eI m7)] (eU 0 (eL eI) hm7 bG) (by kernel_rfl) (bQ (ah [15,16,17,18] [(3,pI (IntKind.i64.wrap (v1+(m7.length:Int))))] (by kernel_rfl) (bQ (ah [19] [(20,pB (decide ((IntKind.i64.wrap (v1+(m7.length:Int)))<0)))] (by kernel_rfl) (cE rfl hb4 (fun hc8 hb4=>?_) fun hc8 hb4=>?_)))))))
   ·refine aa ?_
    exact absurd hb4 (by simp)
   refine ai ?_
   refine fU (ah [22] [(11,pI (IntKind.i64.wrap (v2+1)))] (by kernel_rfl) ?_)
   exact bj hb4 () (ow rfl) ce
  refine aW ?_
  refine av (an hb4 (fun ht=>ar rfl ?_))
  exact aF ((),v1) (tG rfl) ce ht.symm
 rintro ⟨_,v3⟩ τ hz;(try dsimp only at hz);subst q5;(try dsimp only at h);dsimp only [aG]
 refine af (ae h fun x9 hx9 h=>aa (au 1 [(23,pI v3)] (by kernel_rfl) ?_))
 refine aj rfl (bf rfl rfl (ρ1:=[]) (List.Perm.refl _) (oI hx9) ?_);rintro _ _ ⟨a10,c11,rfl,rfl⟩
 refine aS [(6,pO a10 x9.length c11)] (by kernel_rfl) (dr (al [(25,pL (eL eI) p0),(26,pI (p0.length:Int)),(27,pI 0)] (by kernel_rfl) (jo h fun q23 hq23 h=>?_)))
 refine aA (Y:=(Option Addr×Nat)×((List Int))) (fun ((a19,c20),l21)=>[(6,pO a19 l21.length c20)]) (fun ((a19,c20),l21)=>[PRes.row a19 l21.length c20 3 1 (List.map eI l21)]) (fun ((a19,c20),l21)=>q23=l21) ?_ ?_
 ·refine aI ?_
  refine aM (Y:=Option Addr×Nat) (S:=(List Int)×Int) _ hq23 (fun (a15,c16) (l14,v17)=>[(6,pO a15 l14.length c16),(25,pL (eL eI) p0),(26,pI (p0.length:Int)),(27,pI v17)]) (fun (a15,c16) (l14,v17)=>[PRes.row a15 l14.length c16 3 1 (List.map eI l14)]) (a10,c11) (lq rfl) dB ?_
  rintro ⟨a15,c16⟩ ⟨l14,v17⟩ o τ hb22;(try dsimp only at hb22);dsimp only [aG]
  refine af (al [(28,pB (decide (v17<(p0.length:Int))))] (by kernel_rfl) (bQ (kx rfl hb22 (fun hc24 hb22=>?_) fun hc24 hb22=>?_)))
  ·refine ai ?_
   refine bQ (iA (ae hb22 fun m25 hm25 hb22=>aq [] [29,30] [(8,pL eI m25)] (eU 0 (eL eI) hm25 bG) (by kernel_rfl) (jo hb22 fun l26 hl26 hb22=>aa (au 2 [(31,pO a15 l14.length c16),(32,pL eI m25)] (by kernel_rfl) ?_))))
   refine aj rfl (hX (enc:=eI) rfl rfl rfl rfl rfl (fun _=>rfl) rfl rfl rfl (by exact aD) hl26 (fun a27 c28=>?_))
   refine aS [(6,pO a27 l26.length c28)] (by kernel_rfl) (fU (ah [34] [(27,pI (IntKind.i64.wrap (v17+1)))] (by kernel_rfl) ?_))
   exact bj hb22 (a27,c28) (lq rfl) dB
  refine aW ?_
  refine av (an hb22 (fun ht=>ar rfl ?_))
  exact aF ((a15,c16),l14) (wz rfl) dB ht.symm
 rintro ⟨⟨a19,c20⟩,l21⟩ τ hz;(try dsimp only at hz);subst q23;(try dsimp only at h);dsimp only [aG]
 refine af (ah [35] [(2,pO a19 l21.length c20)] (by kernel_rfl) (dX ?_))
 obtain rfl:=osi h
 exact aL (cT (aN rfl)) dB ⟨_,_,rfl,rfl⟩
def ft (rec:Zg→Zm→Option ((List Int)×Bool)) (p0:(List Zg)) (p1:Zm):Option ((List Int)×Bool):=(aO (S:=Int) (T:=(Unit)⊕(_)) (fun v2=>cond (decide (v2<(p0.length:Int))) ((idx p0 v2).bind fun m6=>(rec m6 p1).bind fun x7=>cond x7.2 ((dE [[v2],x7.1]).bind fun x13=>some (.inr (.inr (x13,true)))) (some (.inl (IntKind.i64.wrap (v2+1))))) (some (.inr (.inl ())))) FUEL 0).bind fun q=>match q with | .inl _=>some ([],false) | .inr e=>some e
theorem oJ {rec:Zg→Zm→Option ((List Int)×Bool)} (hrec:∀ {x:Zg} {y0:Zm} {w:((List Int)×Bool)},rec x y0=some w→PFI x.pv "customs/rule.witness" [.agg (bP y0)] (.tup [pL eI w.1,pB w.2])) {p0:(List Zg)} {p1:Zm} {r:((List Int)×Bool)} (h:ft rec p0 p1=some r):PF 245 [pL Zg.enc p0,.agg (bP p1)] (.tup [pL eI r.1,pB r.2]):=by
 unfold ft at h
 refine bt ?_
 refine eQ Tryz.func245 rfl Tryz.ntmps245 Tryz.results245 rfl (aa (aj rfl (br (cs:=(bP p1)) rfl rfl (fun b1=>bm [4,5] (by kernel_rfl) (dr (al [(10,pL Zg.enc p0),(11,pI (p0.length:Int)),(12,pI 0)] (by kernel_rfl) (jo h fun q4 hq4 h=>?_)))))))
 refine aA (Y:=Unit×Unit) (fun (_,_)=>[]) (fun (_,_)=>[]) (fun (_,_)=>q4=Sum.inl ()) ?_ ?_
 ·refine aI ?_
  refine aM (Y:=Unit) (S:=Int) _ hq4 (fun _ v2=>[(3,pP b1 0),(10,pL Zg.enc p0),(11,pI (p0.length:Int)),(12,pI v2)]) (fun _ v2=>[PRes.b b1 36 (bP p1)]) () (lq rfl) dB ?_
  rintro _ v2 o τ hb3;(try dsimp only at hb3);dsimp only [aG]
  refine af (al [(13,pB (decide (v2<(p0.length:Int))))] (by kernel_rfl) (bQ (kx rfl hb3 (fun hc5 hb3=>?_) fun hc5 hb3=>?_)))
  ·refine ai ?_
   refine bQ (iA (ae hb3 fun m6 hm6 hb3=>aq [] [14,15,16] [(6,pI v2),(7,Zg.pv m6)] (eU 1 Zg.enc hm6 bG) (by kernel_rfl) (dQ hb3 fun x7 hx7 hb3=>aq [0] [18,19,20,17,21,22] [(8,pL eI x7.1),(9,pB x7.2)] (C8 2 (hrec hx7) bG) (by kernel_rfl) (bQ (al [(23,pB x7.2)] (by kernel_rfl) (cE rfl hb3 (fun hc8 hb3=>?_) fun hc8 hb3=>?_))))))
   ·refine af ?_
    refine aa (au 1 [(24,pI v2)] (by kernel_rfl) (aj rfl (bD rfl rfl rfl rfl rfl (f0 rfl ja) rfl rfl rfl rfl (fun b9=>au 1 [(26,pL eI x7.1)] (by kernel_rfl) ?_))))
    refine fm (enc:=eI) (xs:=[v2]) 25 rfl (by exact aD) ?_
    refine aj rfl (bD rfl rfl rfl rfl rfl (f0 rfl (f0 rfl ja)) rfl rfl rfl rfl (fun b11=>?_))
    refine fm (enc:=(eL eI)) (xs:=[[v2],x7.1]) 27 rfl (by exact aD) ?_
    refine ae hb3 fun x13 hx13 hb3=>?_
    refine aj rfl (bf rfl rfl (ρ1:=[]) (List.Perm.refl _) (nx hx13) ?_);rintro _ _ ⟨a14,c15,rfl,rfl⟩
    refine aS [(4,pO a14 x13.length c15),(5,pB true)] (by kernel_rfl) (aQ ?_)
    refine fk (enc:=eI) (xs:=x13) 4 rfl (by exact aD) ?_
    refine cd (iZ ?_)
    refine aX hb3 (fun ht=>?_);subst ht
    refine az (aU ?_)
    obtain rfl:=osi h
    exact aL (dH (aN rfl) (aN rfl)) ce ⟨rfl,rfl⟩
   refine ai ?_
   refine fU (ah [29] [(12,pI (IntKind.i64.wrap (v2+1)))] (by kernel_rfl) ?_)
   exact bj hb3 () (lq rfl) dB
  refine aW ?_
  refine av (an hb3 (fun ht=>ar rfl ?_))
  exact aF ((),()) qP ce ht.symm
 rintro ⟨_,_⟩ τ hz;(try dsimp only at hz);subst q4;(try dsimp only at h);dsimp only [aG]
 refine af (al [(4,pN),(5,pB false)] (by kernel_rfl) (aQ (jn 4 rfl (cd ?_))))
 obtain rfl:=osi h
 exact aL (dH (aN rfl) (aN rfl)) ce ⟨rfl,rfl⟩
def fu (p0:Zs) (p1:Zm):Option ((List Int)×Bool):=(rule_holds p0.rule p1).bind fun x3=>some ([],x3)
theorem oK {p0:Zs} {p1:Zm} {r:((List Int)×Bool)}  (h:fu p0 p1=some r):PF 249 [.agg (aT p0.rule),.agg (bP p1)] (.tup [pL eI r.1,pB r.2]):=by
 unfold fu at h
 refine bt ?_
 refine eQ Tryz.func249 rfl Tryz.ntmps249 Tryz.results249 rfl (aa (aj rfl (br (cs:=(aT p0.rule)) rfl rfl (fun b1=>aj rfl (br (cs:=(bP p1)) rfl rfl (fun b2=>bm [4,5] (by kernel_rfl) (dQ h fun x3 hx3 h=>aq [1,0] [6,7,8,9] [(4,pN),(5,pB x3)] (bJ 3 (qY hx3) bG) (by kernel_rfl) (aQ (jn 4 rfl (cd ?_))))))))))
 obtain rfl:=osi h
 exact aL (dH (aN rfl) (aN rfl)) ce ⟨rfl,rfl⟩
def Irule_test_witness_B (rec:Zg→Zm→Option ((List Int)×Bool)) (x:Zg) (y0:Zm):Option ((List Int)×Bool):=match x with | .single_ a=>fu a y0 | .every_ a=>e7 rec a y0 | .some_ a=>ft rec a y0
theorem Irule_test_witness_B_ok {rec:Zg→Zm→Option ((List Int)×Bool)} (hrec:∀ {x:Zg} {y0:Zm} {w:((List Int)×Bool)},rec x y0=some w→PFI x.pv "customs/rule.witness" [.agg (bP y0)] (.tup [pL eI w.1,pB w.2])) {x:Zg} {y0:Zm} {w:((List Int)×Bool)} (h:Irule_test_witness_B rec x y0=some w):PFI x.pv "customs/rule.witness" [.agg (bP y0)] (.tup [pL eI w.1,pB w.2]):=by
 cases x with
 | single_ a=>rw [Zg.pv_single_];exact pC ⟨fun _ _=>by kernel_rfl⟩ (oK h)
 | every_ a=>rw [Zg.pv_every_];exact pC ⟨fun _ _=>by kernel_rfl⟩ (nR hrec h)
 | some_ a=>rw [Zg.pv_some_];exact pC ⟨fun _ _=>by kernel_rfl⟩ (oJ hrec h)
def Irule_test_witness_F (n:Nat):Zg→Zm→Option ((List Int)×Bool):=Nat.rec (motive:=fun _=>Zg→Zm→Option ((List Int)×Bool)) (fun _ _=>none) (fun _ ih=>Irule_test_witness_B ih) n
def Irule_test_witness (x:Zg) (y0:Zm):Option ((List Int)×Bool):=Irule_test_witness_F FUEL x y0
theorem Irule_test_witness_Fok (n:Nat):∀ {x:Zg} {y0:Zm} {w:((List Int)×Bool)},Irule_test_witness_F n x y0=some w→PFI x.pv "customs/rule.witness" [.agg (bP y0)] (.tup [pL eI w.1,pB w.2]):=by
 induction n with
 | zero=>intros;rename_i h;exact nomatch h
 | succ n ih=>intros;rename_i h;exact Irule_test_witness_B_ok (fun hr=>ih hr) h
theorem Irule_test_witness_ok {x:Zg} {y0:Zm} {w:((List Int)×Bool)} (h:Irule_test_witness x y0=some w):PFI x.pv "customs/rule.witness" [.agg (bP y0)] (.tup [pL eI w.1,pB w.2]):=Irule_test_witness_Fok FUEL h
def bw (p0:(List Zd)) (p1:(Zd→Option Bool)):Option Int:=(aO (S:=Int) (T:=(Unit)⊕(_)) (fun v1=>cond (decide (v1<(p0.length:Int))) ((idx p0 v1).bind fun m5=>(p1 m5).bind fun x6=>cond x6 (some (.inr (.inr v1))) (some (.inl (IntKind.i64.wrap (v1+1))))) (some (.inr (.inl ())))) FUEL 0).bind fun q=>match q with | .inl _=>some (-1) | .inr e=>some e
theorem fD {p0:(List Zd)} {p1:(Zd→Option Bool)} {r:Int} {g1:PV} (hg1:∀ {y0:Zd} {w:Bool},p1 y0=some w→PFV g1 [.agg (bA y0)] (pB w)) (h:bw p0 p1=some r):PF 128 [pL Zd.enc p0,g1] (pI r):=by
 unfold bw at h
 refine bt ?_
 refine eQ Tryz.func128 rfl Tryz.ntmps128 Tryz.results128 rfl (be [4] (by kernel_rfl) (dr (ah [6] [(7,pI (p0.length:Int)),(8,pI 0)] (by kernel_rfl) (jo h fun q3 hq3 h=>?_))))
 refine aA (Y:=Unit×Unit) (fun (_,_)=>[]) (fun (_,_)=>[]) (fun (_,_)=>q3=Sum.inl ()) ?_ ?_
 ·refine aI ?_
  refine aM (Y:=Unit) (S:=Int) _ hq3 (fun _ v1=>[(0,pL Zd.enc p0),(1,g1),(7,pI (p0.length:Int)),(8,pI v1)]) (fun _ v1=>[]) () (lq rfl) ce ?_
  rintro _ v1 o τ hb2;(try dsimp only at hb2);dsimp only [aG]
  refine af (al [(9,pB (decide (v1<(p0.length:Int))))] (by kernel_rfl) (bQ (kx rfl hb2 (fun hc4 hb2=>?_) fun hc4 hb2=>?_)))
  ·refine ai ?_
   refine bQ (iA (ah [10] [(5,pI v1)] (by kernel_rfl) (dQ hb2 fun m5 hm5 hb2=>ae hb2 fun x6 hx6 hb2=>aq [] (rg 11 5) [(16,pB x6)] (eU 3 Zd.enc hm5 (AV 5 (hg1 hx6) bG)) (by kernel_rfl) (cE rfl hb2 (fun hc7 hb2=>?_) fun hc7 hb2=>?_))))
   ·refine af ?_
    refine ah [17] [(4,pI v1)] (by kernel_rfl) (dX (iZ ?_))
    refine aX hb2 (fun ht=>?_);subst ht
    refine az (aU ?_)
    exact zz r h rfl
   refine ai ?_
   refine fU (ah [18] [(8,pI (IntKind.i64.wrap (v1+1)))] (by kernel_rfl) ?_)
   exact bj hb2 () (lq rfl) ce
  refine aW ?_
  refine av (an hb2 (fun ht=>ar rfl ?_))
  exact aF ((),()) qP ce ht.symm
 rintro ⟨_,_⟩ τ hz;(try dsimp only at hz);subst q3;(try dsimp only at h);dsimp only [aG]
 refine af (fT [(4,pI (-1))] (by kernel_rfl) ?_)
 exact zz r h rfl
def bN (p0:(List Zd)) (p1:(Zd→Option Bool)):Option Bool:=(bw p0 p1).bind fun x1=>some (decide (0≤x1))
theorem fj {p0:(List Zd)} {p1:(Zd→Option Bool)} {r:Bool} {g1:PV} (hg1:∀ {y0:Zd} {w:Bool},p1 y0=some w→PFV g1 [.agg (bA y0)] (pB w)) (h:bN p0 p1=some r):PF 85 [pL Zd.enc p0,g1] (pB r):=by
 unfold bN at h
 refine bt ?_
 refine eQ Tryz.func85 rfl Tryz.ntmps85 Tryz.results85 rfl (be [4] (by kernel_rfl) (dQ h fun x1 hx1 h=>aq [] [5,6,7,8] [(4,pB (decide (0≤x1)))] (bJ 2 (fD hg1 hx1) bG) (by kernel_rfl) (dX ?_)))
 exact zz r h rfl
def kb (p0:Zd) (p1:Za):Option Bool:=some (Za.eqb p0.Claim p1)
theorem tM {p0:Zd} {p1:Za} {r:Bool}  (h:kb p0 p1=some r):PF 86 [.agg (bA p0),.ref [pI p1.Product,pI p1.Agreement] 0] (pB r):=by
 unfold kb at h
 refine bt ?_
 refine eQ Tryz.func86 rfl Tryz.ntmps86 Tryz.results86 rfl (aa (aj rfl (br (cs:=(bA p0)) rfl rfl (fun b1=>bm [3] (by kernel_rfl) (bQ (aq [0] [4,5,6,7] [(3,pB (Za.eqb p0.Claim p1))] (C7 3 Za.eqok28 bG) (by kernel_rfl) (dX ?_)))))))
 exact zz r h rfl
def kT (p0:(List Zd)) (p1:Za):Option Bool:=(bN p0 (fun y2=>kb y2 p1)).bind fun x3=>some x3
theorem vZ {p0:(List Zd)} {p1:Za} {r:Bool}  (h:kT p0 p1=some r):PF 37 [pL Zd.enc p0,.agg [pI p1.Product,pI p1.Agreement]] (pB r):=by
 unfold kT at h
 refine bt ?_
 refine eQ Tryz.func37 rfl Tryz.ntmps37 Tryz.results37 rfl (aa (aj rfl (br (cs:=[pI p1.Product,pI p1.Agreement]) rfl rfl (fun b1=>bm [4] (by kernel_rfl) (bQ (aa (au 1 [(5,pL Zd.enc p0)] (by kernel_rfl) ?_)))))))
 refine ot 3 rfl (by exact aD) ?_
 refine ae h fun x3 hx3 h=>gG [] [6,7] [(4,pB x3)] (bJ 1 (fj (fun hr=>ri (tM hr)) hx3) bG) (by kernel_rfl) (dX ?_)
 exact zz r h rfl
end SX
namespace SX
open Go
abbrev bl (s:ByteArray):List UInt8:=s.data.toList
theorem bl_hi (s:ByteArray) (k:Nat):bl (s.extract 0 k)=(bl s).take k:=by simp [bl]
theorem bl_lo (s:ByteArray) (k:Nat):bl (s.extract k s.size)=(bl s).drop k:=by
  simp only [bl,ByteArray.data_extract,Array.toList_extract,List.extract_eq_take_drop]
  rw [List.take_of_length_le];simp
theorem mb (s:ByteArray):s.size=(bl s).length:=by simp [bl]
theorem bl_inj {s u:ByteArray} (h:bl s=bl u):s=u:=by
  obtain ⟨⟨x⟩⟩:=s;obtain ⟨⟨y⟩⟩:=u;simp [bl] at h;subst h;rfl
def ke (n:Nat):Bool:=decide (48≤n∧n≤57)
def fO (p:Nat→Bool):List Value:=(List.range 256).map fun i=>.bool (p i)
theorem fy (p:Nat→Bool):(fO p).length=256:=by simp [fO]
theorem mg (p:Nat→Bool) {j:Nat} (h:j<256):(fO p)[j]?=some (.bool (p j)):=by simp [fO,h]
theorem xX (p q:Nat→Bool) {j:Nat} (h:∀ i,q i=(decide (i=j)||p i)):(fO p).set j (.bool true)=fO q:=by
  apply List.ext_getElem?
  intro i
  rw [List.getElem?_set]
  simp only [fy]
  rcases Nat.lt_or_ge i 256 with hi | hi
  · rw [mg q hi,mg p hi,h i]
    by_cases e:j=i
    · subst e;simp [hi]
    · rw [if_neg e];simp [show ¬ i=j from fun h=>e h.symm]
  · rw [List.getElem?_eq_none (by rw [fy];exact hi),List.getElem?_eq_none (by rw [fy];exact hi)]
    split
    · rw [if_neg (by omega)]
    · rfl
section
variable {o:Oper} {σ:Env} {ρ:List Res} {κ:Kr} {c:Bool} {x y:Operand} {K:Value→List Res→Kr→Prop}
theorem Sh.at1 {b k:Nat} {cs:List Value} {v:Value} (h:Sh κ b 0 cs) (hv:cs[k]?=some v):Sh κ b (0+k*1) [v]:=⟨h.1,fun j u hu=>by
  cases j with
  | zero=>simp at hu;subst hu;have:=h.2 k v hv;simpa using this
  | succ j=>simp at hu⟩
theorem zH {t b T sz by':Nat} {cs:List Value} {z:Value} {d:TypeDesc} (ho:o.op=.load t x) (hx:Ev σ c x (.pointer (some ⟨b,0,none⟩))) (hm:Res.b b T cs∈ρ) (hd:eP t=some d) (ha:lD d=true) (hi:fX t=some (z,sz,by')) (hl:cs.length=sz):OpQ c o σ ρ κ (.agg cs.toArray):=by
  refine wj ho hx hm ?_
  unfold jS
  simp only [hd,hi,ha,cond_true,List.drop_zero]
  rw [Nat.ble_eq_true_of_le (by omega)]
  simp [← hl]
end
attribute [local irreducible] WL WC WD OpL OpQ OpG Ev GuardIs AD lC D7 Call CallP midK uv Holds ug Sub Pick WS Step Lit Upd SetAt SpliceAt FillR Sh LateRun
theorem te (κ:Kr) (b:Nat) (p:Nat→Bool) (m:Int) (hs:Sh κ b 0 (fO p)) (h0:0≤m) (h1:m≤255):CallP 204 [.pointer (some ⟨b,0,none⟩),.int .u8 m] κ fun v _=>v=.bool (p m.toNat):=by
  (unfold CallP;apply oh Tryz.func204 (F5 Tryz.func204 rfl) rfl Tryz.ntmps204 Tryz.results204 rfl)
  repeat (first | (first | (apply eR rfl rfl rfl;(focus (first | exact cb (v:=(.int _ _)) rfl (.p rfl) | exact cb (v:=(.pointer _)) rfl (.p rfl) | exact cG (v:=(.bool _)) rfl (.p rfl) | exact po rfl (.p rfl)))) | apply dy) | (first | apply dY | apply bL | apply dW))
  apply eR rfl rfl rfl (wo (j:=m.toNat) rfl rfl rfl (.p rfl) (.p rfl) (fun _=>by omega) (fun _=>by omega))
  apply eR rfl rfl rfl (si rfl (.p rfl) (fun _=>(hs.mono (by (repeat (exact Kle.refl _)))).at1 (mg p (by omega))) rfl)
  repeat (first | (first | (apply eR rfl rfl rfl;(focus (exact cG (v:=(.bool _)) rfl (.p rfl)))) | apply dy) | (first | apply dW | apply mu))
  exact nh (xt (v:=.bool _) rfl) .none ⟨rfl,rfl⟩
def ji:ByteArray:=⟨#[48,49,50,51,52,53,54,55,56,57]⟩
theorem xY:∀ {k:Nat},k<10→((ji.data.toList.getD k 0).toNat:Int)=48+(k:Int):=by decide
theorem Fd (κ:Kr):CallP 180 [.string ji] κ fun v _=>v=.tuple #[.agg (fO ke).toArray,.bool true]:=by
  (unfold CallP;apply oh Tryz.func180 (F5 Tryz.func180 rfl) rfl Tryz.ntmps180 Tryz.results180 rfl)
  repeat (first | (first | (apply eR rfl rfl rfl;(focus (first | exact cG (v:=(.int _ _)) rfl (.p rfl) | exact cG (v:=(.bool _)) rfl (.p rfl)))) | (apply yC rfl rfl rfl;apply wk rfl rfl;intro _ _ _) | apply dy) | (first | apply dY | apply bL | apply jR | apply dW))
  rename_i b2 κ1 _
  have e0:List.replicate 256 (Value.bool false)=fO (fun i=>decide (48≤i∧i<48+0)):=by
    apply List.ext_getElem?
    intro i
    rcases Nat.lt_or_ge i 256 with hi | hi
    · rw [mg _ hi,List.getElem?_replicate,if_pos hi];congr 2;symm;rw [decide_eq_false_iff_not];omega
    · rw [List.getElem?_eq_none (by simpa using hi),List.getElem?_eq_none (by rw [fy];exact hi)]
  rw [e0]
  refine rM (X:=Nat) (fun k=>[(0,.string ji),(2,.pointer (some ⟨b2,0,none⟩)),(4,.int .i64 (k:Int))]) (fun k=>[Res.b b2 243 (fO fun i=>decide (48≤i∧i<48+k))]) (fun k _=>k≤10) (fun k=>10 - k) 0 (by (repeat (first | exact Holds.nil | apply Holds.cons rfl))) (by (repeat (first | exact Sub.nil | (apply Sub.cons;(focus (repeat (exact Pick.h))))))) (by omega) ?_
  intro k τ κ2 _ hk
  simp only [ug]
  repeat (first | (first | (apply eR rfl rfl rfl;(focus (first | exact cb (v:=(.int _ _)) rfl (.p rfl) | exact cb (v:=(.string _)) rfl (.p rfl) | exact od rfl (.p rfl) (.p rfl) rfl | exact mW rfl rfl (.p rfl)))) | apply dy) | (first | apply dY | apply bL | apply dW))
  apply xu rfl <;> intro hc
  · have hk10:k<10:=by
      have e:(ji.size:Int)=10:=rfl
      rw [e] at hc;omega
    repeat (first | (apply eR rfl rfl rfl;(focus (first | exact cb (v:=(.int _ _)) rfl (.p rfl) | exact cb (v:=(.string _)) rfl (.p rfl)))) | (first | apply dY | apply bL | apply jR | apply dW | apply jQ))
    apply eR rfl rfl rfl (nG (s:=ji) (j:=k) rfl rfl (.p rfl) (.p rfl) (fun _=>rfl) (fun _=>hk10))
    rw [xY hk10]
    repeat (first | (first | (apply eR rfl rfl rfl;(focus (first | exact cb (v:=(.int _ _)) rfl (.p rfl) | exact cG (v:=(.int _ _)) rfl (.p rfl) | exact od rfl (.p rfl) (.p rfl) rfl))) | apply dy) | (first | apply dY | apply bL | apply dW))
    apply DZ (by have:¬ (128:Int)≤48+(k:Int):=by omega
                 simp [ev,upd,this])
    repeat (first | (apply eR rfl rfl rfl;(focus (exact cb (v:=(.int _ _)) rfl (.p rfl)))) | (first | apply bL | apply dW | apply jQ))
    apply eR rfl rfl rfl (wo (j:=48+k) rfl rfl rfl (.p rfl) (.p rfl) (fun _=>by omega) (fun _=>by omega))
    apply BQ rfl rfl
    apply CW (v:=.bool true) rfl rfl rfl rfl rfl rfl (by (repeat (exact Upd.h))) (by rw [fy];omega)
    intro κ3 _
    have e1:(fO fun i=>decide (48≤i∧i<48+k)).set (0+(48+k)*1) (.bool true)=fO fun i=>decide (48≤i∧i<48+(k+1)) :=
      xX _ _ fun i=>by rw [Bool.eq_iff_iff];simp;omega
    rw [e1]
    repeat (first | (first | (apply eR rfl rfl rfl;(focus (first | exact cb (v:=(.int _ _)) rfl (.p rfl) | exact cG (v:=(.int _ _)) rfl (.p rfl) | exact oe rfl (.p rfl) (.p rfl) rfl (fun _=>by omega)))) | apply dy) | (first | apply bL | apply dW | apply qB))
    exact xr (k+1) (by (repeat (first | exact Holds.nil | apply Holds.cons rfl))) (by (repeat (first | exact Sub.nil | (apply Sub.cons;(focus (repeat (exact Pick.h))))))) (by omega) (by omega)
  · have hk10:k=10:=by
      have e:(ji.size:Int)=10:=rfl
      rw [e] at hc;omega
    subst hk10
    have e2:(fun i=>decide (48≤i∧i<48+10))=ke:=by funext i;simp only [ke];rw [Bool.eq_iff_iff];simp;omega
    rw [e2]
    apply oa;apply kE;apply jC;apply kF rfl;apply dW;apply dY;apply bL
    apply eR rfl rfl rfl (zH rfl (.p rfl) (by (repeat (exact List.Mem.head _))) rfl rfl rfl (fy _))
    apply BQ rfl rfl
    apply wl rfl rfl rfl rfl (fy _) (by simp [fO,Value.oneCell']) (by (repeat (exact Upd.h))) rfl
    intro κ3 _
    repeat (first | (first | (apply eR rfl rfl rfl;(focus (exact cG (v:=(.bool _)) rfl (.p rfl)))) | apply dy) | (first | apply dW | apply mu))
    refine nh (rv_2 (RV1.cell rfl (by (repeat (exact List.Mem.head _))) ?_) (rv1_t (v:=.bool _) rfl)) .none ⟨rfl,rfl⟩
    unfold jS
    simp only [show eP 243=some (.array 256 4) from rfl,show fX 243=some (.agg (List.replicate 256 (.bool false)).toArray,256,256) from rfl,lD,cond_true,List.drop_zero,fy]
    rw [List.take_of_length_le (by rw [fy];omega)];rfl
theorem ub {l:List UInt8} {j:Nat} (h:j<l.length):l.getD j 0=l[j]:=by simp [List.getD_eq_getElem?_getD,h]
theorem xZ (κ:Kr) (b:Nat) (s:ByteArray) (hs:Sh κ b 0 (fO ke)) (hz:s.size≤1000000000):CallP 182 [.string s,.pointer (some ⟨b,0,none⟩)] κ fun v _=>∃ u k,v=.string u∧bl u=(bl s).take k∧k≤(bl s).length∧(∀ c∈(bl s).drop k,ke c.toNat=true)∧(∀ c,(bl u).getLast?=some c→ke c.toNat=false):=by
  (unfold CallP;apply oh Tryz.func182 (F5 Tryz.func182 rfl) rfl Tryz.ntmps182 Tryz.results182 rfl)
  repeat (first | (first | (apply eR rfl rfl rfl;(focus (exact cG (v:=(.string _)) rfl (.p rfl)))) | apply dy) | (first | apply dY | apply bL | apply jR | apply dW))
  refine rM (X:=ByteArray×Nat) (fun z=>[(0,.string z.1),(1,.pointer (some ⟨b,0,none⟩))]) (fun _=>[]) (fun z _=>bl z.1=(bl s).take z.2∧z.2≤(bl s).length∧∀ c∈(bl s).drop z.2,ke c.toNat=true) (fun z=>z.2) (s,(bl s).length) (by (repeat (first | exact Holds.nil | apply Holds.cons rfl))) (by (repeat (exact Sub.nil))) ⟨(List.take_length).symm,Nat.le_refl _,by rw [List.drop_length];simp⟩ ?_
  rw [mb] at hz
  rintro ⟨u,k⟩ τ κ2 _ ⟨h1,h2,h3⟩
  dsimp only at h1 h2 h3
  have hsz:u.size=k:=by rw [mb,h1,List.length_take];omega
  simp only [ug]
  repeat (first | (first | (apply eR rfl rfl rfl;(focus (first | exact cb (v:=(.string _)) rfl (.p rfl) | exact od rfl (.p rfl) (.p rfl) rfl | exact mW rfl rfl (.p rfl)))) | apply dy) | (first | apply dY | apply bL | apply dW))
  apply xu rfl <;> intro hc
  · have hk0:0<k:=by omega
    repeat (first | (apply eR rfl rfl rfl;(focus (first | exact cb (v:=(.pointer _)) rfl (.p rfl) | exact cb (v:=(.string _)) rfl (.p rfl) | exact oe rfl (.p rfl) (.p rfl) rfl (fun _=>by omega) | exact mW rfl rfl (.p rfl)))) | (first | apply dY | apply bL | apply jR | apply dW | apply jQ))
    apply eR rfl rfl rfl (nG (j:=k - 1) rfl rfl (.p rfl) (.p rfl) (fun _=>by omega) (fun _=>by omega))
    have hlast:(bl u).getLast?=some ((bl u).getD (k - 1) 0):=by
      rw [List.getLast?_eq_getElem?,← mb,hsz,ub (by rw [← mb];omega),List.getElem?_eq_getElem]
    apply yC rfl rfl rfl;apply mv rfl rfl (te _ b ke ((u.data.toList.getD (k - 1) 0).toNat:Int) (hs.mono (by (repeat (assumption)))) (by omega) (by have:=(u.data.toList.getD (k - 1) 0).toNat_lt;omega))
    rintro v κ3 _ rfl
    repeat (first | (first | (apply eR rfl rfl rfl;(focus (exact AF rfl (.p rfl)))) | apply dy) | (apply dW))
    rw [Int.toNat_natCast]
    apply lR rfl <;> intro hb
    · repeat (first | (first | (apply eR rfl rfl rfl;(focus (first | exact cb (v:=(.string _)) rfl (.p rfl) | exact cG (v:=(.string _)) rfl (.p rfl)))) | apply dy) | (first | apply dY | apply bL | apply dW | apply mu | apply oa | apply kE | apply kF rfl | apply uu rfl | apply jC))
      refine nh (xt (v:=.string _) rfl) .none ⟨rfl,u,k,rfl,h1,h2,h3,fun c hc=>?_⟩
      rw [hlast] at hc;injection hc with hc;subst hc;simpa using hb
    · repeat (first | (apply eR rfl rfl rfl;(focus (first | exact cb (v:=(.string _)) rfl (.p rfl) | exact oe rfl (.p rfl) (.p rfl) rfl (fun _=>by omega) | exact mW rfl rfl (.p rfl)))) | (first | apply bL | apply dW | apply jQ))
      apply eR rfl rfl rfl (sW (h:=k - 1) rfl rfl (.p rfl) (.p rfl) (fun _=>by omega) (fun _=>by omega))
      repeat (first | (first | (apply eR rfl rfl rfl;(focus (exact cG (v:=(.string _)) rfl (.p rfl)))) | apply dy) | (apply qB))
      refine xr (u.extract 0 (k - 1),k - 1) (by (repeat (first | exact Holds.nil | apply Holds.cons rfl))) (by (repeat (exact Sub.nil))) ⟨?_,by ((try dsimp only at *) <;> omega),?_⟩ (by ((try dsimp only at *) <;> omega))
      · rw [bl_hi,h1,List.take_take];congr 1;omega
      · intro c hc
        rw [List.drop_eq_getElem_cons (by omega)] at hc
        rcases List.mem_cons.1 hc with rfl | hc
        · have e:(bl u).getD (k - 1) 0=(bl s)[k - 1]'(by omega):=by
            rw [ub (by rw [← mb];omega)];simp [h1]
          rw [← e];simpa using hb
        · rw [show k - 1+1=k by omega] at hc;exact h3 c hc
  · repeat (first | (first | (apply eR rfl rfl rfl;(focus (first | exact cb (v:=(.string _)) rfl (.p rfl) | exact cG (v:=(.string _)) rfl (.p rfl)))) | apply dy) | (first | apply dY | apply bL | apply dW | apply mu | apply oa | apply kE | apply kF rfl | apply jC))
    refine nh (xt (v:=.string _) rfl) .none ⟨rfl,u,k,rfl,h1,h2,h3,fun c hc'=>?_⟩
    have:bl u=[]:=List.eq_nil_of_length_eq_zero (by rw [← mb];omega)
    rw [this] at hc';cases hc'
end SX
namespace SX
open Go
attribute [local irreducible] WL WC WD OpL OpQ OpG Ev GuardIs AD lC D7 Call CallP midK uv Holds ug Sub Pick WS Step Lit Upd SetAt SpliceAt FillR Sh LateRun
theorem zI (κ:Kr) (b:Nat) (s:ByteArray) (hs:Sh κ b 0 (fO ke)):CallP 181 [.string s,.pointer (some ⟨b,0,none⟩)] κ fun v _=>∃ u k,v=.string u∧bl u=(bl s).drop k∧k≤(bl s).length∧(∀ c∈(bl s).take k,ke c.toNat=true)∧(∀ c,(bl u).head?=some c→ke c.toNat=false):=by
  (unfold CallP;apply oh Tryz.func181 (F5 Tryz.func181 rfl) rfl Tryz.ntmps181 Tryz.results181 rfl)
  repeat (first | (first | (apply eR rfl rfl rfl;(focus (exact cG (v:=(.string _)) rfl (.p rfl)))) | apply dy) | (first | apply dY | apply bL | apply jR | apply dW))
  refine rM (X:=ByteArray×Nat) (fun z=>[(0,.string z.1),(1,.pointer (some ⟨b,0,none⟩))]) (fun _=>[]) (fun z _=>bl z.1=(bl s).drop z.2∧z.2≤(bl s).length∧∀ c∈(bl s).take z.2,ke c.toNat=true) (fun z=>(bl s).length - z.2) (s,0) (by (repeat (first | exact Holds.nil | apply Holds.cons rfl))) (by (repeat (exact Sub.nil))) ⟨rfl,Nat.zero_le _,by simp⟩ ?_
  rintro ⟨u,k⟩ τ κ2 _ ⟨h1,h2,h3⟩
  dsimp only at h1 h2 h3
  have hsz:u.size=(bl s).length - k:=by rw [mb,h1,List.length_drop]
  simp only [ug]
  repeat (first | (first | (apply eR rfl rfl rfl;(focus (first | exact cb (v:=(.string _)) rfl (.p rfl) | exact od rfl (.p rfl) (.p rfl) rfl | exact mW rfl rfl (.p rfl)))) | apply dy) | (first | apply dY | apply bL | apply dW))
  apply xu rfl <;> intro hc
  · have hk0:k<(bl s).length:=by omega
    have hu0:0<(bl u).length:=by rw [← mb];omega
    repeat (first | (apply eR rfl rfl rfl;(focus (first | exact cb (v:=(.pointer _)) rfl (.p rfl) | exact cb (v:=(.string _)) rfl (.p rfl)))) | (first | apply dY | apply bL | apply jR | apply dW | apply jQ))
    apply eR rfl rfl rfl (nG (j:=0) rfl rfl (.p rfl) (.p rfl) (fun _=>by omega) (fun _=>by omega))
    have hhead:(bl u).head?=some ((bl u).getD 0 0):=by
      rw [List.head?_eq_getElem?,ub hu0,List.getElem?_eq_getElem hu0]
    apply yC rfl rfl rfl;apply mv rfl rfl (te _ b ke ((u.data.toList.getD 0 0).toNat:Int) (hs.mono (by (repeat (assumption)))) (by omega) (by have:=(u.data.toList.getD 0 0).toNat_lt;omega))
    rintro v κ3 _ rfl
    repeat (first | (first | (apply eR rfl rfl rfl;(focus (exact AF rfl (.p rfl)))) | apply dy) | (apply dW))
    rw [Int.toNat_natCast]
    apply lR rfl <;> intro hb
    · repeat (first | (first | (apply eR rfl rfl rfl;(focus (first | exact cb (v:=(.string _)) rfl (.p rfl) | exact cG (v:=(.string _)) rfl (.p rfl)))) | apply dy) | (first | apply dY | apply bL | apply dW | apply mu | apply oa | apply kE | apply kF rfl | apply uu rfl | apply jC))
      refine nh (xt (v:=.string _) rfl) .none ⟨rfl,u,k,rfl,h1,h2,h3,fun c hc=>?_⟩
      rw [hhead] at hc;injection hc with hc;subst hc;simpa using hb
    · repeat (first | (apply eR rfl rfl rfl;(focus (exact cb (v:=(.string _)) rfl (.p rfl)))) | (first | apply bL | apply dW | apply jQ))
      apply eR rfl rfl rfl (sX (l:=1) rfl rfl (.p rfl) (.p rfl) (fun _=>by omega) (fun _=>by omega))
      repeat (first | (first | (apply eR rfl rfl rfl;(focus (exact cG (v:=(.string _)) rfl (.p rfl)))) | apply dy) | (apply qB))
      refine xr (u.extract 1 u.size,k+1) (by (repeat (first | exact Holds.nil | apply Holds.cons rfl))) (by (repeat (exact Sub.nil))) ⟨?_,by ((try dsimp only at *) <;> omega),?_⟩ (by ((try dsimp only at *) <;> omega))
      · rw [bl_lo,h1,List.drop_drop]
      · intro c hc
        rw [List.take_add_one] at hc
        rcases List.mem_append.1 hc with hc | hc
        · exact h3 c hc
        · have e:(bl u).getD 0 0=(bl s)[k]'hk0:=by rw [ub hu0];simp [h1]
          rw [List.getElem?_eq_getElem hk0] at hc
          simp only [Option.toList_some,List.mem_cons,List.not_mem_nil,or_false] at hc
          subst hc;rw [← e];simpa using hb
  · repeat (first | (first | (apply eR rfl rfl rfl;(focus (first | exact cb (v:=(.string _)) rfl (.p rfl) | exact cG (v:=(.string _)) rfl (.p rfl)))) | apply dy) | (first | apply dY | apply bL | apply dW | apply mu | apply oa | apply kE | apply kF rfl | apply jC))
    refine nh (xt (v:=.string _) rfl) .none ⟨rfl,u,k,rfl,h1,h2,h3,fun c hc'=>?_⟩
    have:bl u=[]:=List.eq_nil_of_length_eq_zero (by rw [← mb];omega)
    rw [this] at hc';cases hc'
def kU (s:ByteArray):Bool:=(bl s).all fun c=>ke c.toNat
theorem wN {s:ByteArray}:s=⟨#[]⟩↔bl s=[]:=⟨fun h=>by rw [h],fun h=>bl_inj (by rw [h])⟩
theorem trim_ok (κ:Kr) (s:ByteArray) (hz:s.size≤1000000000):CallP 156 [.string s,.string ji] κ fun v _=>∃ u,v=.string u∧(u=⟨#[]⟩↔kU s=true):=by
  (unfold CallP;apply oh Tryz.func156 (F5 Tryz.func156 rfl) rfl Tryz.ntmps156 Tryz.results156 rfl)
  repeat (first | (first | (apply eR rfl rfl rfl;(focus (first | exact cb (v:=(.bool _)) rfl (.p rfl) | exact cb (v:=(.string _)) rfl (.p rfl) | exact cG (v:=(.string _)) rfl (.p rfl) | exact oq_or rfl (.p rfl) (.p rfl) (.g rfl) | exact xk rfl (.p rfl) (.p rfl) rfl))) | (apply ui;(focus (exact BP rfl rfl rfl));rfl;rfl;(focus (first | (apply cb (v:=(.string _)) rfl;(focus (exact Ev.p rfl))) | (apply xk rfl (by (focus (exact Ev.g rfl))) (by (focus (exact Ev.p rfl)));rfl)))) | apply dy) | (first | apply dY | apply bL | apply dW))
  apply lR rfl <;> intro hb
  · repeat (first | (first | (apply eR rfl rfl rfl;(focus (first | exact cb (v:=(.string _)) rfl (.p rfl) | exact cG (v:=(.string _)) rfl (.p rfl)))) | apply dy) | (first | apply dY | apply bL | apply dW | apply mu | apply sk))
    have:s=⟨#[]⟩:=by simpa [ji] using hb
    refine nh (xt (v:=.string _) rfl) .none ⟨rfl,s,rfl,?_⟩
    subst this;simp [kU,bl]
  · have hne:¬ bl s=[]:=fun h=>by rw [wN.2 h] at hb;simp at hb
    repeat (first | (first | (apply eR rfl rfl rfl;(focus (first | exact cb (v:=(.bool _)) rfl (.p rfl) | exact cb (v:=(.string _)) rfl (.p rfl) | exact od rfl (.p rfl) (.p rfl) rfl | exact mW rfl rfl (.p rfl)))) | (apply ui;(focus (exact n9 rfl rfl rfl));rfl;rfl;(focus (apply cb (v:=(.string _)) rfl;(focus (exact Ev.p rfl)))))) | (first | apply dY | apply bL | apply dW | apply jQ))
    apply ui;(focus (exact n9 rfl rfl rfl));rfl;rfl;exact nG (s:=ji) (j:=0) rfl rfl (.g rfl) (.p rfl) (fun _=>rfl) (fun _=>by decide)
    repeat (first | (first | (apply eR rfl rfl rfl;(focus (exact AE rfl (.p rfl) (.p rfl) (.g rfl)))) | (apply ui;(focus (exact n9 rfl rfl rfl));rfl;rfl;(focus (apply od rfl (by (focus (exact Ev.g rfl))) (by (focus (exact Ev.p rfl)));rfl))) | apply dy) | (apply dW))
    apply lR rfl <;> intro hb2
    · have e:(ji.size:Int)=10:=rfl
      rw [e] at hb2;simp at hb2
    repeat (first | (apply eR rfl rfl rfl;(focus (exact cb (v:=(.string _)) rfl (.p rfl)))) | (first | apply dY | apply bL | apply dW | apply jQ))
    refine wl_fun rfl rfl rfl rfl rfl (Fd _) fun κ1 _=>?_
    repeat (first | (first | (apply eR rfl rfl rfl;(focus (first | exact cb (v:=(.bool _)) rfl (.p rfl) | exact cb (v:=(.tuple _)) rfl (.p rfl) | exact cG (v:=(.bool _)) rfl (.p rfl) | exact uj rfl (.p rfl) rfl))) | (apply yC rfl rfl rfl;apply wk rfl rfl;intro _ _ _) | (apply BQ rfl rfl;apply wl rfl rfl rfl rfl rfl rfl;(focus (repeat (exact Upd.h)));rfl;intro _ _) | apply dy) | (first | apply dY | apply bL | apply dW))
    rename_i b5 _ _ _ _
    apply wc_pub (b:=b5) Pick.h rfl;intro κ3 _ hS hsays
    have hset:=Ek hS hsays
    apply DY rfl
    repeat (first | (apply eR rfl rfl rfl;(focus (exact cb (v:=(.string _)) rfl (.p rfl)))) | (first | apply dY | apply bL))
    apply yC rfl rfl rfl;apply mv rfl rfl (xZ _ b5 s (hset.mono (by (repeat (exact Kle.refl _)))) hz)
    rintro v κ4 _ ⟨u,k,rfl,h1,h2,h3,h4⟩
    apply yC rfl rfl rfl;apply mv rfl rfl (zI _ b5 u (hset.mono (by (repeat (assumption)))))
    rintro v κ5 _ ⟨u2,k2,rfl,g1,g2,g3,g4⟩
    repeat (first | (first | (apply eR rfl rfl rfl;(focus (exact cG (v:=(.string _)) rfl (.p rfl)))) | apply dy) | (first | apply dW | apply mu | apply sk))
    refine nh (xt (v:=.string _) rfl) .none ⟨rfl,u2,rfl,?_⟩
    rw [wN]
    unfold kU
    rw [List.all_eq_true]
    constructor
    · intro h
      have hk2:k2=(bl u).length:=by
        have:=congrArg List.length (g1.symm.trans h);simp only [List.length_drop,List.length_nil] at this;omega
      intro c hc
      rw [← List.take_append_drop k (bl s)] at hc
      rcases List.mem_append.1 hc with hc | hc
      · rw [← h1] at hc;rw [hk2,List.take_length] at g3;exact g3 c hc
      · exact h3 c hc
    · intro h
      have hu:bl u=[]:=by
        rcases List.eq_nil_or_concat (bl u) with hu | ⟨l,c,hu⟩
        · exact hu
        · have hc:=h4 c (by rw [hu];simp)
          have hm:c∈bl s:=List.mem_of_mem_take (i:=k) (by rw [← h1,hu];simp)
          rw [h c hm] at hc;cases hc
      rw [g1,hu];simp
def Glob (κ:Kr):Prop:=Sh κ 0 0 [.int .i64 2,.int .i64 4,.int .i64 6,.int .i64 8]
theorem Glob.mono {κ κ':Kr} (h:Glob κ) (k:Kle κ κ'):Glob κ':=Sh.mono h k
def dU (s:ByteArray):Int:=if (s.size=2∨s.size=4∨s.size=6∨s.size=8)∧kU s=true then (s.size:Int) else 0
theorem gv_some {c:Bool} {v:Value} {P:ByteArray→Prop} (h:c=true→∃ u,v=.string u∧P u):∃ u,gv c v=gv c (.string u)∧(c=true→P u):=by
  cases c
  · exact ⟨⟨#[]⟩,by rw [iq,iq],fun h=>by cases h⟩
  · obtain ⟨u,rfl,h2⟩:=h rfl;exact ⟨u,rfl,fun _=>h2⟩
theorem Fe (κ:Kr) (s:ByteArray) (hg:Glob κ):CallP 109 [.string s] κ fun v _=>v=.int .i64 (dU s):=by
  (unfold CallP;apply oh Tryz.func109 (F5 Tryz.func109 rfl) rfl Tryz.ntmps109 Tryz.results109 rfl)
  repeat (first | (first | (apply eR rfl rfl rfl;(focus (exact cG (v:=(.int _ _)) rfl (.p rfl)))) | apply dy) | (first | apply dY | apply bL | apply dW))
  apply eR rfl rfl rfl (si rfl (.p rfl) (fun _=>hg) rfl)
  repeat (first | (first | (apply eR rfl rfl rfl;(focus (exact cb (v:=(.int _ _)) rfl (.p rfl)))) | apply dy) | (first | apply jR | apply dW))
  refine rM (X:=Nat) (fun k=>[(0,.string s),(5,.agg #[.int .i64 2,.int .i64 4,.int .i64 6,.int .i64 8]),(6,.int .i64 (k:Int))]) (fun _=>[]) (fun k _=>k≤4∧∀ j,j<k→¬ (s.size=2*(j+1)∧kU s=true)) (fun k=>4 - k) 0 (by (repeat (first | exact Holds.nil | apply Holds.cons rfl))) (by (repeat (exact Sub.nil))) ⟨by omega,by omega⟩ ?_
  rintro k τ κ1 _ ⟨hk,hno⟩
  simp only [ug]
  repeat (first | (first | (apply eR rfl rfl rfl;(focus (exact od rfl (.p rfl) (.p rfl) rfl))) | apply dy) | (first | apply dY | apply bL | apply dW))
  apply xu rfl <;> intro hc
  · have hk4:k<4:=by omega
    repeat (first | apply dY | apply bL | apply jR | apply dW | apply jQ)
    apply eR rfl rfl rfl (CV (cs:=[.int .i64 2,.int .i64 4,.int .i64 6,.int .i64 8]) (v:=.int .i64 (2*((k:Int)+1))) (j:=k) rfl rfl rfl rfl rfl (.p rfl) (.p rfl) (fun _=>rfl) (fun _=>hk4) (fun _=>by
      have:k=0∨k=1∨k=2∨k=3:=by omega
      rcases this with rfl | rfl | rfl | rfl <;> rfl))
    repeat (first | (first | (apply eR rfl rfl rfl;(focus (first | exact cb (v:=(.int _ _)) rfl (.p rfl) | exact cb (v:=(.bool _)) rfl (.p rfl) | exact cb (v:=(.string _)) rfl (.p rfl) | exact cG (v:=(.int _ _)) rfl (.p rfl) | exact od rfl (.p rfl) (.p rfl) rfl | exact mW rfl rfl (.p rfl)))) | (apply ui;(focus (exact n9 rfl rfl rfl));rfl;rfl;(focus (apply cb (v:=(.string _)) rfl;(focus (exact Ev.p rfl))))) | apply dy) | (first | apply dY | apply bL | apply dW))
    apply wl_g;(focus (exact n9 rfl rfl rfl));rfl;rfl
    refine yH rfl (ar2 (.g rfl) (.p rfl)) (fun hcc=>trim_ok _ s (by simp at hcc;omega)) fun v κ2 _ hv=>?_
    obtain ⟨u,hu,hP⟩:=gv_some hv
    rw [hu]
    repeat (first | (first | (apply eR rfl rfl rfl;(focus (exact AE rfl (.p rfl) (.p rfl) (.g rfl)))) | (apply ui;(focus (exact n9 rfl rfl rfl));rfl;rfl;(focus (apply xk rfl (by (focus (exact Ev.g rfl))) (by (focus (exact Ev.p rfl)));rfl))) | apply dy) | (apply dW))
    apply lR rfl <;> intro hb
    · simp only [Bool.and_eq_true,beq_iff_eq,decide_eq_true_eq] at hb
      have hd:kU s=true:=(hP (by simpa using hb.1)).1 hb.2
      repeat (first | (first | (apply eR rfl rfl rfl;(focus (first | exact cb (v:=(.int _ _)) rfl (.p rfl) | exact cG (v:=(.int _ _)) rfl (.p rfl)))) | apply dy) | (first | apply dY | apply bL | apply dW | apply mu | apply sk | apply yO | apply AH))
      refine nh (xt (v:=.int _ _) rfl) .none ⟨rfl,?_⟩
      show Value.int .i64 (2*((k:Int)+1))=.int .i64 (dU s)
      unfold dU
      rw [if_pos ⟨by omega,hd⟩,← hb.1]
    · repeat (first | (first | (apply eR rfl rfl rfl;(focus (first | exact cb (v:=(.int _ _)) rfl (.p rfl) | exact oe rfl (.p rfl) (.p rfl) rfl (fun _=>by omega)))) | apply dy) | (first | apply bL | apply dW | apply jQ | apply qB))
      refine xr (k+1) (by (repeat (first | exact Holds.nil | apply Holds.cons rfl))) (by (repeat (exact Sub.nil))) ⟨by omega,fun j hj=>?_⟩ (by omega)
      rcases Nat.lt_or_ge j k with h | h
      · exact hno j h
      · have:j=k:=by omega
        subst this
        rintro ⟨h1,h2⟩
        have hcc:((s.size:Int) == 2*((j:Int)+1))=true:=by simp;omega
        have:=(hP (by simpa using hcc)).2 h2
        subst this
        rw [hcc] at hb;simp at hb
  · repeat (first | (first | (apply eR rfl rfl rfl;(focus (exact cG (v:=(.int _ _)) rfl (.p rfl)))) | apply dy) | (first | apply dY | apply bL | apply dW | apply mu | apply oa | apply kE | apply kF rfl | apply jC))
    refine nh (xt (v:=.int _ _) rfl) .none ⟨rfl,?_⟩
    show Value.int .i64 0=.int .i64 (dU s)
    unfold dU
    rw [if_neg]
    rintro ⟨h1,h2⟩
    have:k=4:=by omega
    subst this
    rcases h1 with h1 | h1 | h1 | h1
    · exact hno 0 (by omega) ⟨h1,h2⟩
    · exact hno 1 (by omega) ⟨h1,h2⟩
    · exact hno 2 (by omega) ⟨h1,h2⟩
    · exact hno 3 (by omega) ⟨h1,h2⟩
end SX
namespace SX
open Go
def dR (p0:ByteArray):Option Int:=some (dU p0)
theorem fS {p0:ByteArray} {r:Int} (h:dR p0=some r):PF 109 [.v (.string p0)] (.v (.int .i64 r)):=fun κ args g ha=>by
 obtain ⟨v,ws,rfl,h1,h2⟩:=ha.cons_inv
 rw [h2.nil_inv,h1.val]
 have h:=Option.some.inj h;subst h
 exact (Fe κ p0 g).mono fun v κ' _ hv=>by subst hv;exact .v rfl
def itr (b:Nat) (s:ByteArray) (pos:Nat):Res:=⟨some b,fun o=>o=some (.stringIter s pos)⟩
theorem Ff {o:Oper} {σ:PEnv} {ρ:List PRes} {x:Operand} {t:Nat} {s:ByteArray} {K:PV→List PRes→Prop} (ho:o.op=.range t x) (hu:eP t=some .string) (hx:bv σ x=.v (.string s)) (h:∀ b,K (.v (.pointer (some ⟨b,0,none⟩))) (.raw (itr b s 0)::ρ)):POpL o σ ρ K:=fun κ σ' ρ' g hs hr β hi Nx hk=>by
 have e1:=hs.v1 hx
 have h1:=run_underlying (w:=κ.w) (bE hu)
 have hrun:(execOp (ev σ') o).run Tryz.prog κ.w=.ok (.value (.pointer (some ⟨κ.w.heap.size,0,none⟩))) (κ.w.alloc (.stringIter s 0)):=by
  simp [execOp,ho,e1,Instr.range,h1,run_newObj_alloc]
 rw [hrun]
 exact hk _ _ ⟨κ.w.alloc (.stringIter s 0),κ.S⟩ (hi.alloc _ (itr κ.w.heap.size s 0) rfl rfl) (fa hi.fin _) ⟨_,_,.v rfl,.cons .raw (hr.mono (fa hi.fin _)),h _⟩
theorem pl_next {o:Oper} {σ:PEnv} {ρ ρ1:List PRes} {x:Operand} {b pos:Nat} {s:ByteArray} {K:PV→List PRes→Prop} (ho:o.op=.next x true) (hx:bv σ x=.v (.pointer (some ⟨b,0,none⟩))) (hu:PUpd ρ (.raw (itr b s pos)) (.raw (itr b s (pos+(Utf8.decode s pos).2))) ρ1) (h1:pos<s.size→K (.tup [.v (.bool true),.v (.int .i64 (pos:Int)),.v (.int .i32 ((Utf8.decode s pos).1:Int))]) ρ1) (h2:s.size≤pos→K (.tup [.v (.bool false)]) ρ):POpL o σ ρ K:=fun κ σ' ρ' g hs hr β hi Nx hk=>by
 have e1:=hs.v1 hx
 have hr0:=hr
 obtain ⟨r0,l1,l2,rfl,h4,h5⟩:=hr.upd hu
 cases h4 with
 | raw =>
  have hb:κ.w.heap[b]?=some (.stringIter s pos):=hi.own (itr b s pos) (by simp)
  have hg:(getObj b).run Tryz.prog κ.w=.ok (.stringIter s pos) κ.w:=by simp [getObj,Sem.run,hb]
  have hset:∀ ob,(setObj b ob).run Tryz.prog κ.w=.ok () { κ.w with heap:=κ.w.heap.setIfInBounds b ob }:=fun ob=>by simp [setObj,Sem.run,hb]
  rcases Nat.lt_or_ge pos s.size with hlt | hge
  ·have hrun:(execOp (ev σ') o).run Tryz.prog κ.w=.ok (.value (.tuple #[.bool true,goInt pos,.int .i32 ((Utf8.decode s pos).1:Int)])) { κ.w with heap:=κ.w.heap.setIfInBounds b (.stringIter s (pos+(Utf8.decode s pos).2)) }:=by
    simp [execOp,ho,e1,Instr.next,hg,hlt,hset]
   rw [hrun]
   obtain ⟨i1,i2⟩:=hi.turn (r:=itr b s pos) (r':=itr b s (pos+(Utf8.decode s pos).2)) (b:=b) (w':={ κ.w with heap:=κ.w.heap.setIfInBounds b (.stringIter s (pos+(Utf8.decode s pos).2)) }) rfl rfl rfl (fun i hi=>sY hi) (by simp) (sZ hb) rfl rfl rfl (Nat.le_refl _)
   exact hk _ _ _ i1 i2 ⟨_,ρ1,.tup (ws:=[_,_,_]) (.cons (.v rfl) (.cons (.v rfl) (.cons (.v rfl) .nil))),h5 _ _ i2 .raw,h1 hlt⟩
  ·have hrun:(execOp (ev σ') o).run Tryz.prog κ.w=.ok (.value (.tuple #[.bool false])) κ.w:=by
    simp [execOp,ho,e1,Instr.next,hg,Nat.not_lt.2 hge]
   rw [hrun]
   exact hk _ _ κ hi (.refl _) ⟨_,ρ,.tup (ws:=[_]) (.cons (.v rfl) .nil),hr0,h2 hge⟩
def jH (s:ByteArray) (pos:Nat):Option (Nat⊕Bool):=cond (Nat.blt pos s.size) (cond (decide (((Utf8.decode s pos).1:Int)<97)||decide (122<((Utf8.decode s pos).1:Int))) (some (.inr false)) (some (.inl (pos+(Utf8.decode s pos).2)))) (some (.inr true))
def kf (p0:ByteArray):Option Bool:=cond (decide ((p0.size:Int)<1)||decide (12<(p0.size:Int))) (some false) (aO (jH p0) FUEL 0)
attribute [local irreducible] PWL PWC PWD POpL POpQ PEv PGuardIs PSub PPick PUpd PSplice PFill PLit PF PFV PCall FOk gi fb mz nJ jv lN Cov PHolds aO jH
theorem tN {p0:ByteArray} {r:Bool} (h:kf p0=some r):PF 110 [pS p0] (pB r):=by
 unfold kf at h
 refine bt ?_
 refine lc Tryz.func110 rfl Tryz.ntmps110 Tryz.results110 rfl ?_
 (repeat refine af ?_)
 refine aq [] [2] [] bG (by kernel_rfl) ?_
 (repeat (first | apply aH | apply aQ))
 (repeat refine af ?_)
 refine aq [] [5,6,7,8,9,10,11] [(12,pB (decide ((p0.size:Int)<1)||decide (12<(p0.size:Int))))] bG (by kernel_rfl) ?_
 (repeat (first | apply aH | apply aQ))
 (repeat refine af ?_)
 refine ir rfl (fun hc=>?_) (fun hc=>?_)
 ·replace h:=AO hc h
  (repeat refine af ?_)
  refine aq [] [] [(2,pB false)] bG (by kernel_rfl) ?_
  (repeat (first | apply aH | apply aQ))
  (repeat refine af ?_)
  refine cd ?_
  (repeat (first | apply ap | apply az | apply aU | apply oq))
  obtain rfl:=Option.some.inj h
  exact aL (cT (aN rfl)) ce ⟨rfl,rfl⟩
 replace h:=AP hc h
 refine ai ?_
 (repeat (first | apply aH | apply aQ))
 (repeat refine af ?_)
 refine aa ?_
 refine bi 1 [] [] [(13,pS p0)] bG (by kernel_rfl) ?_
 refine BZ rfl rfl rfl (Ff rfl rfl rfl fun b=>?_)
 refine aw ?_
 (repeat (first | apply aH | apply aQ))
 (repeat refine af ?_)
 refine aA (Y:=Unit) (fun _=>[]) (fun _=>[]) (fun _=>r=true) ?_ ?_
 ·refine aI ?_
  refine aM (Y:=Unit) (S:=Nat) _ h (fun _ _=>[(14,pP b 0)]) (fun _ pos=>[PRes.raw (itr b p0 pos)]) () (by (repeat (first | exact qP | apply i6 rfl))) (by (repeat (first | exact ce | (apply bh;(focus (repeat (first | exact aD | apply ak))))))) ?_
  rintro _ pos o τ hb;dsimp only [aG]
  unfold jH at hb
  (repeat refine af ?_)
  refine aa ?_
  refine BZ rfl rfl rfl (pl_next rfl rfl cP (fun hlt=>?_) (fun hge=>?_))
  ·have hlt':Nat.blt pos p0.size=true:=by simp [Nat.blt];omega
   rw [hlt'] at hb;simp only [bV] at hb
   refine gG [] [] [(16,pB true)] bG (by kernel_rfl) ?_
   (repeat (first | apply aH | apply aQ))
   (repeat refine af ?_)
   refine ir (p:=true) rfl (fun _=>?_) (fun hf=>by cases hf)
   refine ai ?_
   (repeat (first | apply aH | apply aQ))
   (repeat refine af ?_)
   refine aI ?_
   (repeat refine af ?_)
   refine aq [] [17] [(4,.v (.int .i32 ((Utf8.decode p0 pos).1:Int)))] bG (by kernel_rfl) ?_
   (repeat (first | apply aH | apply aQ))
   (repeat refine af ?_)
   refine aq [] [18,19,20,21,22] [(23,pB (decide (((Utf8.decode p0 pos).1:Int)<97)||decide (122<((Utf8.decode p0 pos).1:Int))))] bG (by kernel_rfl) ?_
   (repeat (first | apply aH | apply aQ))
   (repeat refine af ?_)
   refine ir rfl (fun hc2=>?_) (fun hc2=>?_)
   ·replace hb:=AO hc2 hb
    (repeat refine af ?_)
    refine aq [] [] [(2,pB false)] bG (by kernel_rfl) ?_
    (repeat (first | apply aH | apply aQ))
    (repeat refine af ?_)
    refine cd ?_
    (repeat (first | apply ap | apply az | apply aU | apply oq))
    refine aX hb (fun ht=>?_);subst ht
    (repeat (first | apply ap | apply az | apply aU | apply oq))
    exact aL (cT (aN rfl)) ce ⟨rfl,rfl⟩
   replace hb:=AP hc2 hb
   refine ai ?_
   (repeat apply aH)
   exact bj hb () (by (repeat (first | exact qP | apply i6 rfl))) (by (repeat (first | exact ce | (apply bh;(focus (repeat (first | exact aD | apply ak)))))))
  have hge':Nat.blt pos p0.size=false:=by cases e:Nat.blt pos p0.size;rfl;exact absurd (Nat.le_of_ble_eq_true e) (by omega)
  rw [hge'] at hb;simp only [bC] at hb
  refine gG [] [] [(16,pB false)] bG (by kernel_rfl) ?_
  (repeat (first | apply aH | apply aQ))
  (repeat refine af ?_)
  refine ir (p:=false) rfl (fun hf=>by cases hf) (fun _=>?_)
  refine aW ?_
  (repeat (first | apply av | apply yY | apply yZ | apply pr rfl))
  refine an hb (fun ht=>?_)
  refine ar rfl ?_
  exact aF () qP ce ht.symm
 rintro _ τ hz;subst hz;dsimp only [aG]
 (repeat refine af ?_)
 refine aq [] [] [(2,pB true)] bG (by kernel_rfl) ?_
 (repeat (first | apply aH | apply aQ))
 (repeat refine af ?_)
 refine cd ?_
 (repeat (first | apply ap | apply az | apply aU | apply oq))
 exact aL (cT (aN rfl)) ce ⟨rfl,rfl⟩
end SX
end Go.Proofs.YtgmbmepakpcpaaaGreatDoor
namespace Go.Proofs
open Go.Shelf
def Tryz.lSF_ren:Go.Shelf.Ren:=⟨fun | 6=>49 | 15=>101 | 14=>100 | 28=>150 | 29=>151 | 20=>142 | 21=>143 | 22=>144 | 23=>145 | 24=>146 | 25=>147 | 26=>148 | 27=>149 | 46=>173 | 47=>174 | 48=>175 | 49=>176 | 50=>177 | 57=>203 | n=>n,fun | 22=>31 | 24=>28 | 25=>109 | 3=>3 | 39=>49 | 0=>0 | 53=>206 | 55=>116 | 4=>4 | 46=>200 | 45=>199 | 50=>144 | 5=>5 | 9=>9 | 66=>235 | 70=>239 | 76=>259 | 77=>260 | n=>n,fun | n=>n⟩
theorem Tryz.lSF:Go.Proofs.SlLaysF0.n6 Tryz.prog Tryz.lSF_ren:={
 mixed:=by kernel_rfl
 f6:=⟨Tryz.f49.name,by decide,Tryz.func49.trans (congrArg some (by kernel_rfl))⟩
 f14:=⟨Tryz.f100.name,by decide,Tryz.func100.trans (congrArg some (by kernel_rfl))⟩
 f15:=Tryz.func101.trans (congrArg some (by kernel_rfl))
 f20:=⟨Tryz.f142.name,by decide,Tryz.func142.trans (congrArg some (by kernel_rfl))⟩
 f21:=⟨Tryz.f143.name,by decide,Tryz.func143.trans (congrArg some (by kernel_rfl))⟩
 f22:=⟨Tryz.f144.name,by decide,Tryz.func144.trans (congrArg some (by kernel_rfl))⟩
 f23:=⟨Tryz.f145.name,by decide,Tryz.func145.trans (congrArg some (by kernel_rfl))⟩
 f24:=⟨Tryz.f146.name,by decide,Tryz.func146.trans (congrArg some (by kernel_rfl))⟩
 f25:=⟨Tryz.f147.name,by decide,Tryz.func147.trans (congrArg some (by kernel_rfl))⟩
 f26:=⟨Tryz.f148.name,by decide,Tryz.func148.trans (congrArg some (by kernel_rfl))⟩
 f27:=⟨Tryz.f149.name,by decide,Tryz.func149.trans (congrArg some (by kernel_rfl))⟩
 f28:=Tryz.func150.trans (congrArg some (by kernel_rfl))
 f29:=Tryz.func151.trans (congrArg some (by kernel_rfl))
 f46:=⟨Tryz.f173.name,by decide,Tryz.func173.trans (congrArg some (by kernel_rfl))⟩
 f47:=Tryz.func174.trans (congrArg some (by kernel_rfl))
 f48:=Tryz.func175.trans (congrArg some (by kernel_rfl))
 f49:=⟨Tryz.f176.name,by decide,Tryz.func176.trans (congrArg some (by kernel_rfl))⟩
 f50:=⟨Tryz.f177.name,by decide,Tryz.func177.trans (congrArg some (by kernel_rfl))⟩
 f57:=⟨Tryz.f203.name,by decide,Tryz.func203.trans (congrArg some (by kernel_rfl))⟩
 t0:=Tryz.underlying0
 a0:=Tryz.isAgg0
 z0:=Tryz.sizeOf0
 v0:=Tryz.zeroValue0
 t3:=Tryz.underlying3
 a3:=Tryz.isAgg3
 z3:=Tryz.sizeOf3
 v3:=Tryz.zeroValue3
 t4:=Tryz.underlying4
 a4:=Tryz.isAgg4
 z4:=Tryz.sizeOf4
 v4:=Tryz.zeroValue4
 t5:=Tryz.underlying5
 a5:=Tryz.isAgg5
 z5:=Tryz.sizeOf5
 v5:=Tryz.zeroValue5
 t9:=Tryz.underlying9
 a9:=Tryz.isAgg9
 z9:=Tryz.sizeOf9
 v9:=Tryz.zeroValue9
 t22:=Tryz.underlying31
 a22:=Tryz.isAgg31
 z22:=Tryz.sizeOf31
 v22:=Tryz.zeroValue31
 t25:=Tryz.underlying109
 a25:=Tryz.isAgg109
 z25:=Tryz.sizeOf109
 v25:=Tryz.zeroValue109
 t39:=Tryz.underlying49
 a39:=Tryz.isAgg49
 z39:=Tryz.sizeOf49
 v39:=Tryz.zeroValue49
 t45:=Tryz.underlying199
 a45:=Tryz.isAgg199
 z45:=Tryz.sizeOf199
 v45:=Tryz.zeroValue199
 t46:=Tryz.underlying200
 a46:=Tryz.isAgg200
 z46:=Tryz.sizeOf200
 v46:=Tryz.zeroValue200
 t50:=Tryz.underlying144
 a50:=Tryz.isAgg144
 z50:=Tryz.sizeOf144
 v50:=Tryz.zeroValue144
 t53:=Tryz.underlying206
 a53:=Tryz.isAgg206
 z53:=Tryz.sizeOf206
 v53:=Tryz.zeroValue206
 t55:=Tryz.underlying116
 a55:=Tryz.isAgg116
 z55:=Tryz.sizeOf116
 v55:=Tryz.zeroValue116
 t66:=Tryz.underlying235
 a66:=Tryz.isAgg235
 z66:=Tryz.sizeOf235
 v66:=Tryz.zeroValue235
 t70:=Tryz.underlying239
 a70:=Tryz.isAgg239
 z70:=Tryz.sizeOf239
 v70:=Tryz.zeroValue239
 t76:=Tryz.underlying259
 a76:=Tryz.isAgg259
 z76:=Tryz.sizeOf259
 v76:=Tryz.zeroValue259
 t77:=Tryz.underlying260
 a77:=Tryz.isAgg260
 z77:=Tryz.sizeOf260
 v77:=Tryz.zeroValue260 }
end Go.Proofs
namespace Go.Proofs
open Go.Shelf
def Tryz.lSs_ren:Go.Shelf.Ren:=⟨fun | 190=>139 | 125=>101 | 258=>170 | 128=>150 | 129=>151 | 302=>191 | 303=>192 | 304=>193 | 305=>194 | 306=>195 | 307=>196 | 308=>197 | 309=>198 | 310=>199 | 333=>209 | 329=>174 | 330=>175 | 334=>210 | 335=>211 | 336=>212 | 344=>217 | n=>n,fun | 31=>33 | 9=>9 | 3=>3 | 46=>49 | 0=>0 | 51=>206 | 53=>116 | 4=>4 | 183=>200 | 182=>199 | 131=>144 | 5=>5 | 218=>235 | 222=>239 | 228=>259 | 229=>260 | n=>n,fun | n=>n⟩
theorem Tryz.lSs:Go.Proofs.Lays.n190 Tryz.prog Tryz.lSs_ren:={
 mixed:=by kernel_rfl
 f125:=Tryz.func101.trans (congrArg some (by kernel_rfl))
 f128:=Tryz.func150.trans (congrArg some (by kernel_rfl))
 f129:=Tryz.func151.trans (congrArg some (by kernel_rfl))
 f190:=Tryz.func139.trans (congrArg some (by kernel_rfl))
 f258:=Tryz.func170.trans (congrArg some (by kernel_rfl))
 f302:=Tryz.func191.trans (congrArg some (by kernel_rfl))
 f303:=Tryz.func192.trans (congrArg some (by kernel_rfl))
 f304:=Tryz.func193.trans (congrArg some (by kernel_rfl))
 f305:=Tryz.func194.trans (congrArg some (by kernel_rfl))
 f306:=Tryz.func195.trans (congrArg some (by kernel_rfl))
 f307:=Tryz.func196.trans (congrArg some (by kernel_rfl))
 f308:=Tryz.func197.trans (congrArg some (by kernel_rfl))
 f309:=Tryz.func198.trans (congrArg some (by kernel_rfl))
 f310:=Tryz.func199.trans (congrArg some (by kernel_rfl))
 f329:=Tryz.func174.trans (congrArg some (by kernel_rfl))
 f330:=Tryz.func175.trans (congrArg some (by kernel_rfl))
 f333:=Tryz.func209.trans (congrArg some (by kernel_rfl))
 f334:=Tryz.func210.trans (congrArg some (by kernel_rfl))
 f335:=Tryz.func211.trans (congrArg some (by kernel_rfl))
 f336:=Tryz.func212.trans (congrArg some (by kernel_rfl))
 f344:=Tryz.func217.trans (congrArg some (by kernel_rfl))
 t0:=Tryz.underlying0
 a0:=Tryz.isAgg0
 z0:=Tryz.sizeOf0
 v0:=Tryz.zeroValue0
 t3:=Tryz.underlying3
 a3:=Tryz.isAgg3
 z3:=Tryz.sizeOf3
 v3:=Tryz.zeroValue3
 t4:=Tryz.underlying4
 a4:=Tryz.isAgg4
 z4:=Tryz.sizeOf4
 v4:=Tryz.zeroValue4
 t5:=Tryz.underlying5
 a5:=Tryz.isAgg5
 z5:=Tryz.sizeOf5
 v5:=Tryz.zeroValue5
 t9:=Tryz.underlying9
 a9:=Tryz.isAgg9
 z9:=Tryz.sizeOf9
 v9:=Tryz.zeroValue9
 t31:=Tryz.underlying33
 a31:=Tryz.isAgg33
 z31:=Tryz.sizeOf33
 v31:=Tryz.zeroValue33
 t46:=Tryz.underlying49
 a46:=Tryz.isAgg49
 z46:=Tryz.sizeOf49
 v46:=Tryz.zeroValue49
 t51:=Tryz.underlying206
 a51:=Tryz.isAgg206
 z51:=Tryz.sizeOf206
 v51:=Tryz.zeroValue206
 t53:=Tryz.underlying116
 a53:=Tryz.isAgg116
 z53:=Tryz.sizeOf116
 v53:=Tryz.zeroValue116
 t131:=Tryz.underlying144
 a131:=Tryz.isAgg144
 z131:=Tryz.sizeOf144
 v131:=Tryz.zeroValue144
 t182:=Tryz.underlying199
 a182:=Tryz.isAgg199
 z182:=Tryz.sizeOf199
 v182:=Tryz.zeroValue199
 t183:=Tryz.underlying200
 a183:=Tryz.isAgg200
 z183:=Tryz.sizeOf200
 v183:=Tryz.zeroValue200
 t218:=Tryz.underlying235
 a218:=Tryz.isAgg235
 z218:=Tryz.sizeOf235
 v218:=Tryz.zeroValue235
 t222:=Tryz.underlying239
 a222:=Tryz.isAgg239
 z222:=Tryz.sizeOf239
 v222:=Tryz.zeroValue239
 t228:=Tryz.underlying259
 a228:=Tryz.isAgg259
 z228:=Tryz.sizeOf259
 v228:=Tryz.zeroValue259
 t229:=Tryz.underlying260
 a229:=Tryz.isAgg260
 z229:=Tryz.sizeOf260
 v229:=Tryz.zeroValue260 }
end Go.Proofs
namespace Go.Proofs.YtgmbmepakpcpaaaGreatDoor
namespace SX
open Go
section
variable {γ:Type} [Inhabited γ]
theorem wa (e:γ→Value) (D:Array γ) (cur:Array Value) (h:D.size≤cur.size):(Sort.putCells e 0 D cur).toList.take D.size=D.toList.map e:=by
 apply List.ext_getElem
 ·simp [Sort.putCells];omega
 intro i h1 h2
 have h3:i<D.size:=by simpa using h2
 simp [Sort.putCells,h3]
theorem zJ {e:γ→Value} {w:World} {b:Nat} {D:Array γ} {cur:Array Value} {T:Nat} {fr:Nat×Nat} (h:w.heap[b]?=some (.cells cur T fr)):(Sort.putRow e w b 0 D).heap[b]?=some (.cells (Sort.putCells e 0 D cur) T fr):=by
 simp [Sort.putRow,Sort.mapBlock,Array.getElem?_modify,h,Sort.onCells]
theorem uV {e:γ→Value} {w:World} {b i:Nat} {D:Array γ} (h:i≠b):(Sort.putRow e w b 0 D).heap[i]?=w.heap[i]?:=by
 simp only [Sort.putRow,Sort.mapBlock,Array.getElem?_modify]
 rw [if_neg (fun e=>h e.symm)]
theorem rz {β:Base} {l:List Res} {κ:Kr} {b n c T sz m:Nat} {css css':List (List Value)} {os:Array Obj} {e:γ→Value} {D:Array γ} (hi:Zp β (Res.row (some ⟨b,0,none⟩) n c T sz css::l) κ) (hF:D.toList.map e=css'.flatten) (hl:css'.length=n) (hw:∀ cs∈css',cs.length=sz) :
    Zp β (Res.row (some ⟨b,0,none⟩) n c T sz css'::l) ⟨Sort.grow (Sort.putRow e (Sort.ahead κ.w m) b 0 D) os,κ.S⟩∧Kle κ ⟨Sort.grow (Sort.putRow e (Sort.ahead κ.w m) b 0 D) os,κ.S⟩:=by
  have ho:=hi.own _ (List.mem_cons_self)
  obtain ⟨h1,h2,h3,h4,h5,cur,h6,h7,h8⟩:=ho
  have hD:D.size=n*sz:=by
    have:=congrArg List.length hF
    rw [List.length_map,eX hw,hl] at this
    simpa using this
  have hle:D.size≤cur.size:=by rw [hD,h7];exact Nat.mul_le_mul_right _ h4
  have t1:=hi.turn (r':=Res.row (some ⟨b,0,none⟩) n c T sz css') (l1:=[]) (b:=b) (w':=Sort.putRow e (Sort.ahead κ.w m) b 0 D) rfl rfl rfl (fun i hne=>uV hne) (by simp [Sort.putRow,Sort.mapBlock,Sort.ahead])
    ⟨h1,hl,hw,h4,h5,_,zJ (w:=Sort.ahead κ.w m) h6,by simpa [Sort.putCells] using h7,by rw [← hD,wa e D cur hle,hF]⟩ rfl rfl rfl (by simp [Sort.putRow,Sort.mapBlock,Sort.ahead])
  have hh:=t1.1.own _ (List.mem_cons_self)
  have hb2:b<(Sort.putRow e (Sort.ahead κ.w m) b 0 D).heap.size:=by
    have:=(t1.1.blk _ (List.mem_cons_self) b rfl).1;exact this
  have hold:∀ i,i<(Sort.putRow e (Sort.ahead κ.w m) b 0 D).heap.size→(Sort.grow (Sort.putRow e (Sort.ahead κ.w m) b 0 D) os).heap[i]?=(Sort.putRow e (Sort.ahead κ.w m) b 0 D).heap[i]?:=fun i h=>by
    simp only [Sort.grow];rw [Array.getElem?_append_left h]
  have hh2:(Res.row (some ⟨b,0,none⟩) n c T sz css').holds (Sort.grow (Sort.putRow e (Sort.ahead κ.w m) b 0 D) os):=by
    have:(Sort.grow (Sort.putRow e (Sort.ahead κ.w m) b 0 D) os).heap[b]?=(Sort.putRow e (Sort.ahead κ.w m) b 0 D).heap[b]?:=hold b hb2
    unfold Res.holds at hh ⊢
    show (Res.row (some ⟨b,0,none⟩) n c T sz css').says (Sort.grow (Sort.putRow e (Sort.ahead κ.w m) b 0 D) os).heap[b]?
    rw [this];exact hh
  obtain ⟨i3,k3⟩:=t1.1.grow (r':=Res.row (some ⟨b,0,none⟩) n c T sz css') (w':=Sort.grow (Sort.putRow e (Sort.ahead κ.w m) b 0 D) os) ⟨rfl,rfl,rfl,by simp [Sort.grow],fun i h _=>hold i h⟩ (.inr (.inl rfl)) hh2 (AI hh2) (Nat.le_refl _)
  exact ⟨i3,t1.2.trans k3⟩
end
def iS (a b:ByteArray):Bool:=Op.bytesLess a.toList b.toList
theorem p8 (a b:ByteArray):iS a b=decide (a.data.toList<b.data.toList):=by
 unfold iS;rw [bytesLess_eq,ByteArray.toList_eq,ByteArray.toList_eq]
theorem Cf {κ:Kr}:∀ {xs:List ByteArray} {dss:List (List Value)},Rpss κ (xs.map eS) dss→dss=xs.map fun s=>[.string s]
 | [],_,h=>h.nil_inv
 | x::xs,_,h=>by
  obtain ⟨d,ds,rfl,h1,h2⟩:=h.cons_inv
  obtain ⟨v,vs,rfl,h3,h4⟩:=h1.cons_inv
  rw [Cf h2,h4.nil_inv,h3.val];rfl
theorem uW {κ:Kr}:∀ {xs:List ByteArray} {dss:List (List Value)},Rpss κ (xs.map eS) dss→∀ x∈xs,xz (.string x)=true
 | [],_,_=>by simp
 | x::xs,_,h=>by
  obtain ⟨d,ds,rfl,h1,h2⟩:=h.cons_inv
  obtain ⟨v,vs,rfl,h3,h4⟩:=h1.cons_inv
  intro y hy
  rcases List.mem_cons.1 hy with rfl | hy
  ·cases h3 with | v hq=>exact hq
  exact uW h2 y hy
theorem uX {κ:Kr}:∀ {xs:List ByteArray},(∀ x∈xs,xz (.string x)=true)→Rpss κ (xs.map eS) (xs.map fun s=>[.string s])
 | [],_=>.nil
 | x::xs,h=>.cons (.cons (.v (h x (by simp))) .nil) (uX fun y hy=>h y (by simp [hy]))
theorem Fg (l:List ByteArray):(l.map fun s=>[Value.string s]).flatten=l.map Value.string:=by
 induction l with
 | nil=>rfl
 | cons x xs ih=>simp [ih]
def i4 (l:List ByteArray):Option (List ByteArray):=some (lr iS l)
theorem nS {α:Type} {lt:α→α→Bool} (l:List α):(lr lt l).length=l.length:=kL.length_eq
theorem A8 (l:List ByteArray):(l.map fun s=>s.data.toList).mergeSort (fun x y=>decide (x≤y))=(lr iS l).map fun s=>s.data.toList:=by
 have key:∀ x y:List UInt8,decide (x≤y) = !decide (y<x):=fun x y=>by
  rw [← decide_not];exact decide_eq_decide.2 (by rw [List.not_lt])
 refine pG (lt:=fun x y=>decide (x<y)) (fun x y h1 h2=>?_) ?_ ?_ ?_
 ·have h1:=of_decide_eq_false h1;have h2:=of_decide_eq_false h2
  exact List.le_antisymm (List.not_lt.1 h2) (List.not_lt.1 h1)
 ·have h:=List.pairwise_mergeSort (le:=fun x y:List UInt8=>decide (x≤y)) (fun a b c h1 h2=>det (List.le_trans (of_decide_eq_true h1) (of_decide_eq_true h2))) (fun a b=>by
   rcases List.le_total a b with h | h
   ·simp [h]
   simp [h]) (l.map fun s=>s.data.toList)
  exact h.imp fun {a b} hab=>by rw [key] at hab;simpa using hab
 ·rw [List.pairwise_map]
  have h:=lU (lt:=iS) (fun x y z h1 h2=>by
   rw [p8] at *;exact det (List.lt_trans (of_decide_eq_true h1) (of_decide_eq_true h2))) (fun x y z h1 h2=>by
   rw [p8] at *;exact bI (List.not_lt.2 (List.le_trans (List.not_lt.1 (of_decide_eq_false h2)) (List.not_lt.1 (of_decide_eq_false h1))))) (fun x=>by rw [p8];exact bI (List.lt_irrefl _)) l
  exact h.imp fun {a b} hab=>by rw [← p8];exact hab
 exact (List.mergeSort_perm _ _).trans (kL.symm.map _)
theorem lJ {p0 r:List ByteArray} (h:i4 p0=some r) {a:Option Addr} {n c:Nat}:PCall 139 [.v (.slice a n c)] [PRes.row a n c 9 1 (List.map eS p0)] (fun pv ρ'=>pv=.tup []∧ρ'=[PRes.row a n c 9 1 (List.map eS r)]):=fun κ args ρ g ha hr=>by
 obtain rfl:=Option.some.inj h
 obtain ⟨v,ws,rfl,ha1,ha2⟩:=ha.cons_inv
 rw [ha2.nil_inv,ha1.val]
 obtain ⟨r0,l',rfl,hr1,hr2⟩:=hr.cons_inv
 have:=hr2.nil_inv;subst this
 refine ⟨(F5 Tryz.func139 rfl),fun hi=>?_⟩
 cases hr1 with
 | row hb ho hc =>
  have hok:=uW hc
  have hd:=Cf hc;subst hd
  have how:=hi.own _ (List.mem_cons_self)
  cases a with
  | none =>
   obtain ⟨rfl,rfl,h3⟩:=how
   have hp:p0=[]:=List.map_eq_nil_iff.1 h3
   subst hp
   refine (Any.slices_Sort_string_none Tryz.lSs none 0 κ.w).mono fun e w' ⟨h1,h2⟩=>?_
   subst h1 h2
   exact ⟨_,_,κ,rfl,rfl,hi,.tup [],_,.tup .nil,.cons (.row hb ho (by exact .nil)) .nil,rfl,rfl⟩
  | some ad =>
   have how2:=how
   obtain ⟨h1,h2,h3,h4,h5,cur,h6,h7,h8⟩:=how
   obtain ⟨b,off,sp⟩:=ad
   injection h1 with h1a h1b h1c
   subst h1b h1c
   have hblk:b<κ.w.heap.size:=(hi.blk _ (List.mem_cons_self) b rfl).1
   have hn:n=(p0.map fun s=>s.data.toList).length:=by rw [← h2];simp
   have hH:Sort.Holds encStr κ.w b 0 (p0.map fun s=>s.data.toList).toArray:=by
    intro j hj
    have hj2:j<p0.length:=by simpa using hj
    rw [Fg,Nat.mul_one] at h8
    have hj3:cur.toList[j]?=some (Value.string p0[j]):=by
     have e:=congrArg (fun l=>l[j]?) h8
     simp only [List.getElem?_take,List.getElem?_map] at e
     rw [if_pos (by rw [← h2];simpa using hj2),List.getElem?_eq_getElem hj2] at e
     exact e
    have hj4:cur[j]?=some (Value.string p0[j]):=by rw [← Array.getElem?_toList];exact hj3
    constructor
    ·simp only [World.cell?,h6,Option.isSome_none,Bool.false_eq_true,if_false,Nat.zero_add]
     rw [hj4]
     congr 1
     simp [getElem!_pos,hj2]
    simp [World.frozen?,h6]
   rw [hn]
   refine (Any.slices_Sort_string Tryz.lSs b 0 c _ κ.w hH hblk (by rw [← hn];unfold maxLen at h5;omega)).mono fun e w' ⟨k1,m,os,k2⟩=>?_
   subst k1 k2
   obtain ⟨i1,i2⟩:=rz (m:=m) (os:=os) (e:=encStr) (css':=(lr iS p0).map fun s=>[Value.string s]) (D:=((p0.map fun s=>s.data.toList).mergeSort fun x y=>decide (x≤y)).toArray) hi (by
    rw [A8]
    generalize lr iS p0=q
    induction q with
    | nil=>rfl
    | cons x xs ih=>simp at ih ⊢;exact ih) (by rw [List.length_map,nS];rw [← h2];simp) (by simp)
   exact ⟨_,_,⟨_,κ.S⟩,rfl,rfl,i1,.tup [],_,.tup .nil,.cons (.row hb (by intro cs hcs;obtain ⟨q,_,rfl⟩:=List.mem_map.1 hcs;intro u hu;rw [List.mem_singleton.1 hu];rfl) (uX fun y hy=>hok y (kL.mem_iff.1 hy))) .nil,rfl,by rw [← hn]⟩
theorem le_grow {κ κ':Kr} (h:Le [] κ κ'):∃ q os',κ'.w=Sort.grow (κ.w.drewN q) os':=by
 refine ⟨κ'.w.drawn - κ.w.drawn,κ'.w.heap.extract κ.w.heap.size κ'.w.heap.size,?_⟩
 have hz:=h.kle.size
 have hd:=h.drawn
 have e1:κ'.w.heap=κ.w.heap++κ'.w.heap.extract κ.w.heap.size κ'.w.heap.size:=by
  apply Array.ext_getElem?
  intro i
  rcases Nat.lt_or_ge i κ.w.heap.size with hi | hi
  ·rw [Array.getElem?_append_left hi];exact h.same i hi (by simp)
  rw [Array.getElem?_append_right hi,Array.getElem?_extract]
  split
  ·congr 1;omega
  rw [Array.getElem?_eq_none (by omega)]
 cases hw:κ'.w with
 | mk heap tape drawn os output =>
  have h2:=h.tape;have h3:=h.os;have h4:=h.output
  rw [hw] at e1 h2 h3 h4 hd
  simp only at e1 h2 h3 h4 hd
  simp only [Sort.grow,World.drewN]
  subst h2 h3 h4
  rw [← e1]
  congr 1;omega
theorem wO {γ:Type} [Inhabited γ] (enc:γ→List Value) (k:Nat) (hk:∀ x,(enc x).length=k):∀ L:List γ,(List.range (L.length*k)).map (fun t=>(enc L[t / k]!)[t % k]!)=(L.map enc).flatten
 | []=>by simp
 | x::xs=>by
  have ih:=wO enc k hk xs
  rcases Nat.eq_zero_or_pos k with h0 | h0
  ·subst h0
   have:∀ M:List γ,(M.map enc).flatten=[]:=fun M=>by
    rw [List.flatten_eq_nil_iff];intro l hl;obtain ⟨y,_,rfl⟩:=List.mem_map.1 hl;exact List.eq_nil_of_length_eq_zero (hk y)
   rw [this];simp
  rw [List.length_cons,Nat.add_mul,Nat.one_mul,Nat.add_comm,List.range_add,List.map_append,List.map_cons,List.flatten_cons,← ih,List.map_map]
  congr 1
  ·apply List.ext_getElem
   ·simp [hk]
   intro i h1 h2
   have hi:i<k:=by simpa using h1
   simp [Nat.div_eq_of_lt hi,Nat.mod_eq_of_lt hi,getElem!_pos,h2]
  apply List.map_congr_left
  intro t _
  simp only [Function.comp,Nat.add_div_left _ h0,Nat.add_mod_left]
  rfl
theorem uY {γ:Type} [Inhabited γ] (enc:γ→List Value) (k:Nat) (hk:∀ x,(enc x).length=k) (d:Array γ):(Sort.flatK enc k d).toList.map id=(d.toList.map enc).flatten:=by
 rw [List.map_id,← wO enc k hk]
 simp only [Sort.flatK,Array.toList_map,Array.toList_range,Array.length_toList]
 apply List.map_congr_left
 intro t _
 congr 2
 simp [getElem!_def]
section
variable {α:Type} {enc:α→List PV} {encV:α→List Value}
theorem zK {κ:Kr} (hinv:∀ x ds,Rps κ (enc x) ds→ds=encV x):∀ {xs:List α} {dss:List (List Value)},Rpss κ (xs.map enc) dss→dss=xs.map encV
 | [],_,h=>h.nil_inv
 | x::xs,_,h=>by
  obtain ⟨d,ds,rfl,h1,h2⟩:=h.cons_inv
  rw [zK hinv h2,hinv _ _ h1];rfl
theorem tf {κ:Kr} (hmk:∀ x,Rps κ (enc x) (encV x)):∀ {xs:List α},Rpss κ (xs.map enc) (xs.map encV)
 | []=>.nil
 | x::xs=>.cons (hmk x) (tf hmk)
theorem callSF [Inhabited α] {f g T k:Nat} {ρs:Shelf.Ren} (L:SlLaysF0.n6 Tryz.prog ρs) (hf:ρs.f 6=f) (fOk:FnOk f) (gOk:FnOk g) (aE:∀ w,(isAgg (ρs.t 24)).run Tryz.prog w=.ok true w) (zE:∀ w,(Go.sizeOf (ρs.t 24)).run Tryz.prog w=.ok k w)
    (hk:∀ x,(encV x).length=k) (h1:∀ x,∀ v∈encV x,v.oneCell'=true) (hinv:∀ κ x ds,Rps κ (enc x) ds→ds=encV x) (hmk:∀ κ x,Rps κ (enc x) (encV x)) (cf:α→α→Int) (hO:Sort.SWO (ltOf cf)) (hT:∀ x y,ltOf cf x y=false→ltOf cf y x=false→x=y)
    (hcmp:∀ x y,PF g [.agg (enc x),.agg (enc y)] (pI (cf x y))) {p0:List α} {a:Option Addr} {n c:Nat}:PCall f [.v (.slice a n c),.fn g []] [PRes.row a n c T k (List.map enc p0)] (fun pv ρ'=>pv=.tup []∧ρ'=[PRes.row a n c T k (List.map enc (lr (ltOf cf) p0))]):=fun κ args ρ gk ha hr=>by
  subst hf
  obtain ⟨v,ws,rfl,ha1,ha2⟩:=ha.cons_inv
  obtain ⟨v2,ws2,rfl,ha3,ha4⟩:=ha2.cons_inv
  rw [ha4.nil_inv,ha1.val]
  have hv2:v2=.func (.func g) #[] #[]:=by
    cases ha3 with
    | fn h=>rw [h.nil_inv]
  subst hv2
  obtain ⟨r0,l',rfl,hr1,hr2⟩:=hr.cons_inv
  have:=hr2.nil_inv;subst this
  refine ⟨fOk,fun hi=>?_⟩
  have hn1:∀ l:List α,∀ cs∈l.map encV,cs.length=k:=fun l cs hcs=>by obtain ⟨q,_,rfl⟩:=List.mem_map.1 hcs;exact hk q
  cases hr1 with
  | row hb ho hc =>
    have hd:=zK (hinv κ) hc;subst hd
    have how:=hi.own _ (List.mem_cons_self)
    cases a with
    | none =>
      obtain ⟨rfl,rfl,h3⟩:=how
      have hp:p0=[]:=List.map_eq_nil_iff.1 h3
      subst hp
      refine (AnyF.slices_SortFunc_none L none 0 _ κ.w).mono fun e w' ⟨h1,h2⟩=>?_
      subst h1 h2
      exact ⟨_,_,κ,rfl,rfl,hi,.tup [],_,.tup .nil,.cons (.row hb ho (by exact .nil)) .nil,rfl,rfl⟩
    | some ad =>
      obtain ⟨q1,h2,h3,h4,h5,cur,h6,h7,h8⟩:=how
      obtain ⟨b,off,sp⟩:=ad
      injection q1 with h1a h1b h1c
      subst h1b h1c
      have hblk:b<κ.w.heap.size:=(hi.blk _ (List.mem_cons_self) b rfl).1
      have hn:n=p0.toArray.size:=by rw [← h2];simp
      have hz:(Sort.flatK encV k p0.toArray).size=n*k:=by rw [Sort.size_flatK,← hn]
      have hft:(Sort.flatK encV k p0.toArray).toList=cur.toList.take (n*k):=by
        rw [h8,← uY encV k hk,List.map_id]
      have hH:Sort.HoldsK encV k κ.w b 0 p0.toArray:=by
        intro j hj
        have hj2:j<n*k:=by rw [← hz];exact hj
        have hj3:(Sort.flatK encV k p0.toArray)[j]?=cur[j]?:=by
          rw [← Array.getElem?_toList,hft,List.getElem?_take,if_pos hj2,Array.getElem?_toList]
        constructor
        · simp only [World.cell?,h6,Option.isSome_none,Bool.false_eq_true,if_false,Nat.zero_add]
          rw [← hj3,Array.getElem?_eq_getElem hj,getElem!_pos _ j hj];rfl
        simp [World.frozen?,h6]
      have hcl:CmpLays Tryz.prog g #[] encV k cf b 0 p0.toArray.size κ.w:=fun m os dk hs x y=>by
        obtain ⟨i1,k1⟩:=rz (m:=m) (os:=os) (e:=id) (D:=Sort.flatK encV k dk) (css':=dk.toList.map encV) hi (uY encV k hk dk) (by rw [List.length_map,Array.length_toList,hs,hn]) (hn1 _)
        have hc2:=hcmp x y ⟨_,κ.S⟩ [.agg (encV x).toArray,.agg (encV y).toArray] (gk.mono k1) (.cons (.agg (h1 x) (hmk _ x)) (.cons (.agg (h1 y) (hmk _ y)) .nil))
        refine (hc2.2 ⟨Le.refl _ _,i1.fin,by simp,by simp,List.Pairwise.nil⟩).mono fun e w' ⟨v,ρ',κ',g1,g2,g3,g4⟩=>?_
        obtain ⟨q,os',hq⟩:=le_grow g3.le
        subst g1 g2
        exact ⟨by rw [g4.2.val],q,os',hq⟩
      rw [hn]
      refine (AnyQ.slices_SortFunc_total L k aE zE encV hk h1 cf hO g #[] b 0 c p0.toArray κ.w (fun args w=>lS gOk args w) hcl hH hblk (by rw [← hn];unfold maxLen at h5;omega) hT).mono fun e w' ⟨k1,m,os,k2⟩=>?_
      have hso:(p0.toArray.toList.mergeSort fun x y => !(ltOf cf) y x)=lr (ltOf cf) p0:=by
        refine pG (lt:=ltOf cf) hT ?_ (lU hO.trans hO.ntrans hO.irrefl p0) ((List.mergeSort_perm _ _).trans kL.symm)
        have h:=List.pairwise_mergeSort (le:=fun x y:α => !(ltOf cf) y x) (fun a b c h1 h2=>by
          simp only [Bool.not_eq_true'] at h1 h2 ⊢;exact hO.ntrans _ _ _ h2 h1) (fun a b=>by
          cases e1:ltOf cf b a
          · simp
          cases e2:ltOf cf a b
          · simp
          have:=hO.trans _ _ _ e1 e2;rw [hO.irrefl] at this;cases this) p0
        exact h.imp fun {a b} hab=>by simpa using hab
      rw [hso] at k2
      subst k1 k2
      obtain ⟨i1,i2⟩:=rz (m:=m) (os:=os) (e:=id) (css':=(lr (ltOf cf) p0).map encV) (D:=Sort.flatK encV k (lr (ltOf cf) p0).toArray) hi (uY encV k hk _) (by rw [List.length_map,nS];rw [← h2];simp) (hn1 _)
      exact ⟨_,_,⟨_,κ.S⟩,rfl,rfl,i1,.tup [],_,.tup .nil,.cons (.row hb (by intro cs hcs;obtain ⟨q,_,rfl⟩:=List.mem_map.1 hcs;exact h1 q) (tf (hmk _))) .nil,rfl,by rw [← hn]⟩
end
theorem Fh (a b:Int):dL a b=some (if a<b then -1 else if b<a then 1 else 0):=by
 unfold dL je
 simp only [bne_self_eq_false,bc,bC]
 by_cases h:a<b
 ·rw [det h,if_pos h];rfl
 rw [bI h,if_neg h]
 by_cases h2:b<a
 ·rw [det h2,if_pos h2];rfl
 rw [bI h2,if_neg h2];rfl
theorem Fi (a b:Int):kN [a,b]=some (if a=0 then b else a):=by
 unfold kN
 refine (bz (l:=[a,b]) (by simp) (fun _ x=>cond (x != 0) (some (.inr x)) none) (.inl ()) (fun k hk=>?_) (by rw [cU];rfl)).trans ?_
 ·rw [gT hk,bV,o4 (aB hk),bR hk (by simp)]
  cases ([a,b][k] != 0) <;> rfl
 rw [iz (fun x:Int=>x != 0) (fun x=>(Sum.inr x:Unit⊕Int))]
 by_cases ha:a=0
 ·subst ha
  by_cases hb:b=0
  ·subst hb;rfl
  simp [hb]
 simp [ha]
def bq (x y:Za):Bool:=decide (x.Product<y.Product)||(decide (x.Product=y.Product)&&decide (x.Agreement<y.Agreement))
def mh (x y:Za):Int:=if (if x.Product<y.Product then (-1:Int) else if y.Product<x.Product then 1 else 0)=0 then (if x.Agreement<y.Agreement then -1 else if y.Agreement<x.Agreement then 1 else 0) else (if x.Product<y.Product then -1 else if y.Product<x.Product then 1 else 0)
theorem rA:ltOf mh=bq:=by
 funext x y
 unfold ltOf mh bq
 rcases Int.lt_trichotomy x.Product y.Product with h | h | h
 ·rw [if_pos h];simp [h]
 ·simp only [h,Int.lt_irrefl,if_false,if_true,decide_false,decide_true,Bool.false_or,Bool.true_and]
  rcases Int.lt_trichotomy x.Agreement y.Agreement with h2 | h2 | h2
  ·rw [if_pos h2];simp [h2]
  ·simp [h2]
  rw [if_neg (by omega),if_pos h2];simp;omega
 have h1:¬ x.Product<y.Product:=by omega
 have h3:¬ x.Product=y.Product:=by omega
 simp [h,h1,h3]
theorem Dh (x y:Za):eV x y=some (mh x y):=by
 unfold eV mh
 rw [Fh,Fh]
 simp only [bc,Fi]
theorem tg (x y:Za):bq x y=true↔x.Product<y.Product∨(x.Product=y.Product∧x.Agreement<y.Agreement):=by simp [bq]
theorem p9 (x y:Za):bq x y=false↔¬ (x.Product<y.Product∨(x.Product=y.Product∧x.Agreement<y.Agreement)):=by rw [← tg];simp
theorem th (x:Za):bq x x=false:=by rw [p9];omega
theorem uZ (x y z:Za):bq x y=true→bq y z=true→bq x z=true:=by simp only [tg];omega
theorem tj (x y z:Za):bq x y=false→bq y z=false→bq x z=false:=by simp only [p9];omega
theorem tk (x y:Za):bq x y=false→bq y x=false→x=y:=by
 simp only [p9];intro h1 h2
 cases x;cases y;simp at h1 h2 ⊢;omega
def bu (l:List Za):Option (List Za):=some (lr bq l)
theorem bW {p0 r:List Za} (h:bu p0=some r) {a:Option Addr} {n c:Nat}:PCall 49 [.v (.slice a n c),.fn 50 []] [PRes.row a n c 28 2 (List.map Za.enc p0)] (fun pv ρ'=>pv=.tup []∧ρ'=[PRes.row a n c 28 2 (List.map Za.enc r)]):=by
 obtain rfl:=Option.some.inj h
 rw [← rA]
 exact callSF Tryz.lSF rfl (F5 Tryz.func49 rfl) (F5 Tryz.func50 rfl) Tryz.isAgg28 Tryz.sizeOf28 (encV:=fun x=>[.int .i64 x.Product,.int .i64 x.Agreement]) (fun _=>rfl)
  (fun x v hv=>by simp at hv;rcases hv with rfl | rfl <;> rfl) (fun κ x ds h=>by
   obtain ⟨v,ws,rfl,h1,h2⟩:=h.cons_inv
   obtain ⟨v2,ws2,rfl,h3,h4⟩:=h2.cons_inv
   rw [h1.val,h3.val,h4.nil_inv]) (fun κ x=>.cons (.v rfl) (.cons (.v rfl) .nil)) mh
  (by rw [rA];exact ⟨th,uZ,tj⟩) (by rw [rA];exact tk) (fun x y=>lY (Dh x y))
theorem A9 (x y:Za):du x y=some (mh x y):=by
 unfold du mh
 rw [Fh,Fh]
 simp only [bc,Fi]
end SX
end Go.Proofs.YtgmbmepakpcpaaaGreatDoor
