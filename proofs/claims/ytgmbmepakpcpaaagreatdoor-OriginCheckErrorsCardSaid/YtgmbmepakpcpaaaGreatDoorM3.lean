/- A part of the proof: texts of the walk and of the plain laws, merged. No condition. -/
import Derived.Test.YtgmbmepakpcpaaaGreatDoorM2
set_option linter.unusedVariables false
set_option linter.unusedSimpArgs false
set_option maxHeartbeats 4000000
set_option maxRecDepth 100000
namespace Go.Proofs.YtgmbmepakpcpaaaGreatDoor
namespace SX
open Go
attribute [local irreducible] PWL PWC PWD POpL POpQ PEv PGuardIs PSub PPick PUpd PSplice PFill PLit PF PFV PCall FOk eX eH ml n4 kn mn Cov PHolds aT idx app mk gd lb nz lF Er sub ko dq oz wQ fz cD oM wT IntKind.wrap Int.tmod Int.tdiv Op.bytesLess strOfNums
def dK (p0:Zb) (p1:ByteArray) (p2:ByteArray):Option Bool:=(bJ p0.Parties p1).bind fun x2=>(gd x2 (bJ p0.Parties p2)).bind fun x3=>some (x2&&x3)
theorem jz {p0:Zb} {p1:ByteArray} {p2:ByteArray} {r:Bool}  (h:dK p0 p1 p2=some r):PF 88 [.agg (aA p0),pS p1,pS p2] (pB r):=by
 unfold dK at h
 refine bd ?_
 refine du Tryz.func88 rfl Tryz.ntmps88 Tryz.results88 rfl (da rfl (bf (cs:=(aA p0)) rfl rfl (fun b1=>ba [6] (by kernel_rfl) (de h fun x2 hx2 h=>aa h fun x3 hx3 h=>aq [0,0] (rg 7 10) [(6,pB (x2&&x3))] (bg 3 (db hx2) (eM 8 (fun hc=>db (cF hx3 hc)) bj)) (by kernel_rfl) (cX ?_)))))
 exact zz r h rfl
def fY (p0:ByteArray) (p1:ByteArray):Option Bool:=(gd (decide ((p1.size:Int)≤(p0.size:Int))) (ko p0 0 (p1.size:Int))).bind fun s1=>some ((decide ((p1.size:Int)≤(p0.size:Int)))&&(decide (s1=p1)))
theorem nK {p0:ByteArray} {p1:ByteArray} {r:Bool}  (h:fY p0 p1=some r):PF 164 [pS p0,pS p1] (pB r):=by
 unfold fY at h
 refine bd ?_
 refine du Tryz.func164 rfl Tryz.ntmps164 Tryz.results164 rfl (aW [4] (by kernel_rfl) (de h fun s1 hs1 h=>aq [] (rg 5 13) [(4,pB ((decide ((p1.size:Int)≤(p0.size:Int)))&&(decide (s1=p1))))] (fossg 9 (cF hs1) bj) (by kernel_rfl) (cX ?_)))
 exact zz r h rfl
def dE (p0:ByteArray) (p1:ByteArray):Option Bool:=(fY p0 p1).bind fun x1=>some x1
theorem iX {p0:ByteArray} {p1:ByteArray} {r:Bool}  (h:dE p0 p1=some r):PF 129 [pS p0,pS p1] (pB r):=by
 unfold dE at h
 refine bd ?_
 refine du Tryz.func129 rfl Tryz.ntmps129 Tryz.results129 rfl (aW [4] (by kernel_rfl) (de h fun x1 hx1 h=>aq [] [5,6,7] [(4,pB x1)] (bg 2 (nK hx1) bj) (by kernel_rfl) (cX ?_)))
 exact zz r h rfl
def kx (rec:Zd→Int→Option Int) (p0:Zd) (p1:Int):Option Int:=(aT (S:=Int×Int) (T:=(Int)⊕(_)) (fun (v2,v3)=>cond (decide (v3<(p0.Args.length:Int))) ((idx p0.Args v3).bind fun m8=>cond (decide (p1≤v2)) (some (.inr (.inr p1))) ((rec m8 (IntKind.i64.wrap (p1 - v2))).bind fun x11=>some (.inl ((IntKind.i64.wrap (v2+x11)),(IntKind.i64.wrap (v3+1)))))) (some (.inr (.inl v2)))) FUEL (1,0)).bind fun q=>match q with | .inl v4=>some v4 | .inr e=>some e
theorem uo {rec:Zd→Int→Option Int} (hrec:∀ {p0:Zd} {p1:Int} {r:Int},rec p0 p1=some r→PF 165 [.agg (an p0),pI p1] (pI r)) {p0:Zd} {p1:Int} {r:Int} (h:kx rec p0 p1=some r):PF 165 [.agg (an p0),pI p1] (pI r):=by
 unfold kx at h
 refine bd ?_
 refine du Tryz.func165 rfl Tryz.ntmps165 Tryz.results165 rfl (da rfl (bf (cs:=(an p0)) rfl rfl (fun b1=>ba [4] (by kernel_rfl) (bZ (ak [(5,pI 1)] (by kernel_rfl) (cj (aJ [0] [8] [(9,pL Zd.enc p0.Args),(10,pI (p0.Args.length:Int)),(11,pI 0)] (by kernel_rfl) (ft h fun q6 hq6 h=>?_))))))))
 refine ar (Y:=Unit×Int) (fun (_,v4)=>[(5,pI v4)]) (fun (_,v4)=>[]) (fun (_,v4)=>q6=Sum.inl v4) ?_ ?_
 ·refine av ?_
  refine aC (Y:=Unit) (S:=Int×Int) _ hq6 (fun _ (v2,v3)=>[(1,pI p1),(5,pI v2),(9,pL Zd.enc p0.Args),(10,pI (p0.Args.length:Int)),(11,pI v3)]) (fun _ (v2,v3)=>[]) () (ns rfl) bB ?_
  rintro _ ⟨v2,v3⟩ o τ hb5;(try dsimp only at hb5);dsimp only [az]
  refine ae (ak [(12,pB (decide (v3<(p0.Args.length:Int))))] (by kernel_rfl) (bZ (kq rfl hb5 (fun hc7 hb5=>?_) fun hc7 hb5=>?_)))
  ·refine ah ?_
   refine dJ (aa hb5 fun m8 hm8 hb5=>af (aU 2 [] [13] [(14,.agg (an m8))] (ny 0 Zd.enc (Zd.enc_eq _) hm8 bj) (by kernel_rfl) (ap rfl (aL (cs:=[pI 0,pI 0,pN,pI 0,pI 0,pS ByteArray.empty,pN]) rfl rfl rfl rfl (fun b9=>aP rfl rfl (am (vs:=(an m8)) rfl rfl rfl rfl rfl ce mX (aF (cj (bF [15,16] [(17,pB (decide (p1≤v2)))] (by kernel_rfl) rfl hb5 (fun hc10 hb5=>?_) fun hc10 hb5=>?_)))))))))
   ·refine ae ?_
    refine ai [18] [(4,pI p1)] (by kernel_rfl) (cX (al (dH ?_)))
    refine au hb5 (fun ht=>?_);subst ht
    refine cP ?_
    exact zz r h rfl
   refine ah ?_
   refine ft hb5 fun x11 hx11 hb5=>aq [0] (rg 19 7) [(5,pI (IntKind.i64.wrap (v2+x11)))] (bg 5 (hrec hx11) bj) (by kernel_rfl) (dI (ai [26] [(11,pI (IntKind.i64.wrap (v3+1)))] (by kernel_rfl) ?_))
   exact aS hb5 () (ns rfl) bB
  refine aH ?_
  refine cq hb5 (fun ht=>aj rfl ?_)
  exact aw ((),v2) (rD rfl) bB ht.symm
 rintro ⟨_,v4⟩ τ hz;(try dsimp only at hz);subst q6;(try dsimp only at h);dsimp only [az]
 refine ae (ai [27] [(4,pI v4)] (by kernel_rfl) (cX ?_))
 exact zz r h rfl
def mB (n:Nat):Zd→Int→Option Int:=Nat.rec (motive:=fun _=>Zd→Int→Option Int) (fun _ _=>none) (fun _ ih=>kx ih) n
def rG (p0:Zd) (p1:Int):Option Int:=mB FUEL p0 p1
theorem vL (n:Nat):∀ {p0:Zd} {p1:Int} {r:Int},mB n p0 p1=some r→PF 165 [.agg (an p0),pI p1] (pI r):=by
 induction n with
 | zero=>intros;rename_i h;exact nomatch h
 | succ n ih=>intros;rename_i h;exact uo (fun hr=>ih hr) h
theorem wY {p0:Zd} {p1:Int} {r:Int} (h:rG p0 p1=some r):PF 165 [.agg (an p0),pI p1] (pI r):=vL FUEL h
def nc (p0:Zd):Option Bool:=cond ((!(p0.Kind == 2))&&(((p0.Digits != 0)||(decide (0<(p0.Except.length:Int))))||(p0.Tolerance != 0))) (some false) (cond ((p0.Kind != 3)&&(p0.Limit != 0)) (some false) (cond ((p0.Kind != 4)&&(!decide (p0.Name=(⟨#[]⟩:ByteArray)))) (some false) (some (((p0.Kind == 5)||(p0.Kind == 6))||((p0.Args.length:Int) == 0)))))
theorem wZ {p0:Zd} {r:Bool}  (h:nc p0=some r):PF 188 [.agg (an p0)] (pB r):=by
 unfold nc at h
 refine bd ?_
 refine du Tryz.func188 rfl Tryz.ntmps188 Tryz.results188 rfl (da rfl (bf (cs:=(an p0)) rfl rfl (fun b1=>ba [2] (by kernel_rfl) (bZ (aJ [0] [5,6,7] [(3,pB (p0.Kind == 2))] (by kernel_rfl) (bZ (aJ [0,0] (rg 8 8) [(4,pB ((p0.Kind == 5)||(p0.Kind == 6)))] (by kernel_rfl) (dJ (aJ [0,0,0] (rg 17 18) [(16,pB ((!(p0.Kind == 2))&&(((p0.Digits != 0)||(decide (0<(p0.Except.length:Int))))||(p0.Tolerance != 0))))] (by kernel_rfl) (cR rfl h (fun hc2 h=>?_) fun hc2 h=>?_))))))))))
 ·refine ae ?_
  refine dg [(2,pB false)] (by kernel_rfl) (dH ?_)
  exact zz r h rfl
 refine ae ?_
 refine aJ [0,0] (rg 36 8) [(35,pB ((p0.Kind != 3)&&(p0.Limit != 0)))] (by kernel_rfl) (cR rfl h (fun hc3 h=>?_) fun hc3 h=>?_)
 ·refine ae ?_
  refine dg [(2,pB false)] (by kernel_rfl) (dH ?_)
  exact zz r h rfl
 refine ae ?_
 refine aJ [0,0] (rg 45 8) [(44,pB ((p0.Kind != 4)&&(!decide (p0.Name=(⟨#[]⟩:ByteArray)))))] (by kernel_rfl) (cR rfl h (fun hc4 h=>?_) fun hc4 h=>?_)
 ·refine ae ?_
  refine dg [(2,pB false)] (by kernel_rfl) (dH ?_)
  exact zz r h rfl
 refine ah ?_
 refine aG (bZ (aJ [0] (rg 53 7) [(2,pB (((p0.Kind == 5)||(p0.Kind == 6))||((p0.Args.length:Int) == 0)))] (by kernel_rfl) (cX ?_)))
 exact zz r h rfl
def jO (p0:Int):Option Bool:=some ((decide (0≤p0))&&(decide (p0≤1000000)))
theorem nf {p0:Int} {r:Bool}  (h:jO p0=some r):PF 190 [pI p0] (pB r):=by
 unfold jO at h
 refine bd ?_
 refine du Tryz.func190 rfl Tryz.ntmps190 Tryz.results190 rfl (aW [2] (by kernel_rfl) (bZ (ai (rg 3 6) [(2,pB ((decide (0≤p0))&&(decide (p0≤1000000))))] (by kernel_rfl) (cX ?_))))
 exact zz r h rfl
def eo (rec:Zd→Option Zd) (p0:Zd):Option Zd:=(bU p0.Except).bind fun x3=>(DM 96 (p0.Args.length:Int)).bind fun u7=>(aT (S:=(List Zd)×Int) (T:=((List Zd))) (fun (l11,v14)=>cond (decide (v14<(p0.Args.length:Int))) ((idx p0.Args v14).bind fun m23=>(rec m23).bind fun x25=>(app 96 l11 [x25]).bind fun l28=>some (.inl (l28,(IntKind.i64.wrap (v14+1))))) (some (.inr l11))) FUEL (([]:List Zd),0)).bind fun l18=>some (⟨p0.Kind,p0.Digits,x3,p0.Tolerance,p0.Limit,p0.Name,l18⟩:Zd)
theorem nt {rec:Zd→Option Zd} (hrec:∀ {p0:Zd} {r:Zd},rec p0=some r→PF 131 [.agg (an p0)] (.agg (an r))) {p0:Zd} {r:Zd} (h:eo rec p0=some r):PF 131 [.agg (an p0)] (.agg (an r)):=by
 unfold eo at h
 refine bd ?_
 refine du Tryz.func131 rfl Tryz.ntmps131 Tryz.results131 rfl (da rfl (bf (cs:=(an p0)) rfl rfl (fun b1=>ap rfl (aL (cs:=[pI 0,pI 0,pN,pI 0,pI 0,pS ByteArray.empty,pN]) rfl rfl rfl rfl (fun b2=>aF (de h fun x3 hx3 h=>af (cO 2 [1] [6] [(7,pL eS p0.Except)] (by kernel_rfl) ?_)))))))
 refine ap rfl (bh rfl rfl (ρ1:=[]) (List.Perm.refl _) (ff hx3) ?_);rintro _ _ ⟨a4,c5,rfl,rfl⟩
 refine aD 1 [(9,pP b1 2)] (by kernel_rfl) (aP rfl rfl (am (vs:=[pO a4 x3.length c5]) rfl rfl rfl rfl rfl (dA (dA ce)) (dX (dX oA)) (aF (de h fun u7 hu7 h=>af (cO 3 [2] [10,11] [(12,pI (p0.Args.length:Int))] (by kernel_rfl) (ap rfl (FI rfl rfl rfl rfl rfl rfl rfl hu7 (fun b8=>aN [(3,pO (some ⟨b8,0,none⟩) 0 ((p0.Args.length:Int).toNat))] (by kernel_rfl) (cj (aJ [3] [14] [(15,pL Zd.enc p0.Args),(16,pI (p0.Args.length:Int)),(17,pI 0)] (by kernel_rfl) (ft h fun q21 hq21 h=>?_)))))))))))
 refine ar (Y:=(Option Addr×Nat)×((List Zd))) (fun ((a16,c17),l18)=>[(1,pP b1 0),(2,pP b2 0),(3,pO a16 l18.length c17)]) (fun ((a16,c17),l18)=>[PRes.b b1 84 [pI p0.Kind,pI p0.Digits,pO a4 x3.length c5,pI p0.Tolerance,pI p0.Limit,pS p0.Name,pL Zd.enc p0.Args],PRes.b b2 84 [pI 0,pI 0,pN,pI 0,pI 0,pS ByteArray.empty,pN],PRes.row a16 l18.length c17 84 7 (List.map Zd.enc l18),PRes.row a4 x3.length c5 9 1 (List.map eS x3)]) (fun ((a16,c17),l18)=>q21=l18) ?_ ?_
 ·refine av ?_
  refine aC (Y:=Option Addr×Nat) (S:=(List Zd)×Int) _ hq21 (fun (a12,c13) (l11,v14)=>[(1,pP b1 0),(2,pP b2 0),(3,pO a12 l11.length c13),(15,pL Zd.enc p0.Args),(16,pI (p0.Args.length:Int)),(17,pI v14)]) (fun (a12,c13) (l11,v14)=>[PRes.b b1 84 [pI p0.Kind,pI p0.Digits,pO a4 x3.length c5,pI p0.Tolerance,pI p0.Limit,pS p0.Name,pL Zd.enc p0.Args],PRes.b b2 84 [pI 0,pI 0,pN,pI 0,pI 0,pS ByteArray.empty,pN],PRes.row a12 l11.length c13 84 7 (List.map Zd.enc l11),PRes.row a4 x3.length c5 9 1 (List.map eS x3)]) ((some ⟨b8,0,none⟩),(p0.Args.length:Int).toNat) (p9 rfl) (be (aB (aB (aB aO))) (be (aB (aB aO)) n8)) ?_
  rintro ⟨a12,c13⟩ ⟨l11,v14⟩ o τ hb20;(try dsimp only at hb20);dsimp only [az]
  refine ae (ak [(18,pB (decide (v14<(p0.Args.length:Int))))] (by kernel_rfl) (bZ (kq rfl hb20 (fun hc22 hb20=>?_) fun hc22 hb20=>?_)))
  ·refine ah ?_
   refine dJ (aa hb20 fun m23 hm23 hb20=>af (aU 2 [] [19] [(20,.agg (an m23))] (ny 0 Zd.enc (Zd.enc_eq _) hm23 bj) (by kernel_rfl) (ap rfl (aL (cs:=[pI 0,pI 0,pN,pI 0,pI 0,pS ByteArray.empty,pN]) rfl rfl rfl rfl (fun b24=>aP rfl rfl (am (vs:=(an m23)) rfl rfl rfl rfl rfl ce mX (aF (ft hb20 fun x25 hx25 hb20=>af (aU 3 [0] [22] [(21,pO a12 l11.length c13),(23,.agg (an x25))] (bg 2 (hrec hx25) bj) (by kernel_rfl) ?_)))))))))
   refine ap rfl (bN (css:=List.map Zd.enc [x25]) rfl rfl rfl rfl rfl (by (simp only [List.map_cons,List.map_nil,Zd.enc_eq];(repeat (first | exact kf | apply ij rfl)))) rfl (by (simp only [List.map_cons,List.map_nil,Zd.enc_eq];rfl)) rfl rfl (fun b26=>?_))
   refine aa hb20 fun l28 hl28 hb20=>?_
   refine ap rfl (cr (enc:=Zd.enc) rfl rfl rfl rfl rfl rfl rfl rfl rfl gb (by exact aB (aB (aB (aB aO)))) hl28 (fun a29 c30=>?_))
   refine aN [(3,pO a29 l28.length c30)] (by kernel_rfl) (dI (ai [26] [(17,pI (IntKind.i64.wrap (v14+1)))] (by kernel_rfl) ?_))
   exact aS hb20 (a29,c30) (p9 rfl) (be (aB (aB (aB aO))) (be (aB (aB (aB aO))) (be aO (be (aB (aB aO)) bB))))
  refine aH ?_
  refine cq hb20 (fun ht=>aj rfl ?_)
  exact aw ((a12,c13),l11) (nV rfl) Es ht.symm
 rintro ⟨⟨a16,c17⟩,l18⟩ τ hz;(try dsimp only at hz);subst q21;(try dsimp only at h);dsimp only [az]
 refine ae (af (aD 2 [(27,pO a16 l18.length c17),(28,pP b1 6)] (by kernel_rfl) (aP rfl rfl (am (vs:=[pO a16 l18.length c17]) rfl rfl rfl rfl rfl ce (dX (dX (dX (dX (dX (dX oA)))))) (aF (bZ (af ?_)))))))
 refine lw (css:=List.map eS x3) (a:=a4) (by exact aB (aB (aB aO))) ?_
 refine jd (k:=2) (enc:=eS) (xs:=x3) (b:=b1) (a:=a4) rfl gb (dA ce) ?_
 refine lw (css:=List.map Zd.enc l18) (a:=a16) (by exact aB (aB (aB aO))) ?_
 refine jd (k:=6) (enc:=Zd.enc) (xs:=l18) (b:=b1) (a:=a16) rfl gb (dA (dA ce)) (gt 1 [2] [(29,.agg [pI p0.Kind,pI p0.Digits,pL eS x3,pI p0.Tolerance,pI p0.Limit,pS p0.Name,pL Zd.enc l18])] (by kernel_rfl) (aP rfl rfl (am (vs:=[pI p0.Kind,pI p0.Digits,pL eS x3,pI p0.Tolerance,pI p0.Limit,pS p0.Name,pL Zd.enc l18]) rfl rfl rfl rfl rfl (dA (dA (dA ce))) mX (aF (cX ?_)))))
 obtain rfl:=osi h
 exact aM (dp (dC rfl zm3 rfl)) bB ⟨rfl,rfl⟩
def fA (n:Nat):Zd→Option Zd:=Nat.rec (motive:=fun _=>Zd→Option Zd) (fun _=>none) (fun _ ih=>eo ih) n
def iY (p0:Zd):Option Zd:=fA FUEL p0
theorem nL (n:Nat):∀ {p0:Zd} {r:Zd},fA n p0=some r→PF 131 [.agg (an p0)] (.agg (an r)):=by
 induction n with
 | zero=>intros;rename_i h;exact nomatch h
 | succ n ih=>intros;rename_i h;exact nt (fun hr=>ih hr) h
theorem oe {p0:Zd} {r:Zd} (h:iY p0=some r):PF 131 [.agg (an p0)] (.agg (an r)):=nL FUEL h
def bm (p0:(List Zh)) (p1:(List Zh)) (p2:(Zh→Zh→Option Bool)):Option Bool:=cond ((p0.length:Int) != (p1.length:Int)) (some false) ((aT (S:=Int) (T:=(Unit)⊕(_)) (fun v2=>cond (decide (v2<(p0.length:Int))) ((idx p0 v2).bind fun m6=>(idx p1 v2).bind fun m8=>(p2 m6 m8).bind fun x10=>cond (!x10) (some (.inr (.inr false))) (some (.inl (IntKind.i64.wrap (v2+1))))) (some (.inr (.inl ())))) FUEL 0).bind fun q=>match q with | .inl _=>some true | .inr e=>some e)
theorem dR {p0:(List Zh)} {p1:(List Zh)} {p2:(Zh→Zh→Option Bool)} {r:Bool} {g2:PV} (hg2:∀ {y0:Zh} {y1:Zh} {w:Bool},p2 y0 y1=some w→PFV g2 [.agg (em y0),.agg (em y1)] (pB w)) (h:bm p0 p1 p2=some r):PF 134 [pL Zh.enc p0,pL Zh.enc p1,g2] (pB r):=by
 unfold bm at h
 refine bd ?_
 refine du Tryz.func134 rfl Tryz.ntmps134 Tryz.results134 rfl (aW [6] (by kernel_rfl) (cj (bF [10,11,12,13] [(14,pB ((p0.length:Int) != (p1.length:Int)))] (by kernel_rfl) rfl h (fun hc1 h=>?_) fun hc1 h=>?_)))
 ·refine ae ?_
  refine dg [(6,pB false)] (by kernel_rfl) (al ?_)
  exact zz r h rfl
 refine ah ?_
 refine cj (ak [(15,pL Zh.enc p0),(16,pI (p0.length:Int)),(17,pI 0)] (by kernel_rfl) (ft h fun q4 hq4 h=>?_))
 refine ar (Y:=Unit×Unit) (fun (_,_)=>[]) (fun (_,_)=>[]) (fun (_,_)=>q4=Sum.inl ()) ?_ ?_
 ·refine av ?_
  refine aC (Y:=Unit) (S:=Int) _ hq4 (fun _ v2=>[(1,pL Zh.enc p1),(2,g2),(15,pL Zh.enc p0),(16,pI (p0.length:Int)),(17,pI v2)]) (fun _ v2=>[]) () (ns rfl) bB ?_
  rintro _ v2 o τ hb3;(try dsimp only at hb3);dsimp only [az]
  refine ae (ak [(18,pB (decide (v2<(p0.length:Int))))] (by kernel_rfl) (bZ (kq rfl hb3 (fun hc5 hb3=>?_) fun hc5 hb3=>?_)))
  ·refine ah ?_
   refine dJ (aa hb3 fun m6 hm6 hb3=>af (aU 3 [] [20] [(19,pI v2),(21,.agg (em m6))] (cL 1 Zh.enc hm6 bj) (by kernel_rfl) (ap rfl (aL (cs:=[pS ByteArray.empty,pI 0,pI 0,pN,pI 0,pI 0,pS ByteArray.empty,pN]) rfl rfl rfl rfl (fun b7=>aD 1 [(7,pI v2)] (by kernel_rfl) (aP rfl rfl (am (vs:=(em m6)) rfl rfl rfl rfl rfl ce zl8 (aF (de hb3 fun m8 hm8 hb3=>af (aU 4 [] [22,23,24] [(25,.agg (em m8))] (cL 2 Zh.enc hm8 bj) (by kernel_rfl) (ap rfl (aL (cs:=[pS ByteArray.empty,pI 0,pI 0,pN,pI 0,pI 0,pS ByteArray.empty,pN]) rfl rfl rfl rfl (fun b9=>aP rfl rfl (am (vs:=(em m8)) rfl rfl rfl rfl rfl ce zl8 (aF (de hb3 fun x10 hx10 hb3=>aq [1,0] [26,27,28,29] [(30,pB (!x10))] (DG 3 (hg2 hx10) bj) (by kernel_rfl) (cR rfl hb3 (fun hc11 hb3=>?_) fun hc11 hb3=>?_)))))))))))))))))
   ·refine ae ?_
    refine dg [(6,pB false)] (by kernel_rfl) (dH ?_)
    refine au hb3 (fun ht=>?_);subst ht
    refine cP ?_
    exact zz r h rfl
   refine ah ?_
   refine dI (ai [31] [(17,pI (IntKind.i64.wrap (v2+1)))] (by kernel_rfl) ?_)
   exact aS hb3 () (ns rfl) bB
  refine aH ?_
  refine cq hb3 (fun ht=>aj rfl ?_)
  exact aw ((),()) pz bB ht.symm
 rintro ⟨_,_⟩ τ hz;(try dsimp only at hz);subst q4;(try dsimp only at h);dsimp only [az]
 refine ae (dg [(6,pB true)] (by kernel_rfl) ?_)
 exact zz r h rfl
def eu (p0:(List ByteArray)) (p1:(List ByteArray)):Option Bool:=cond ((p0.length:Int) != (p1.length:Int)) (some false) ((aT (S:=Int) (T:=(Unit)⊕(_)) (fun v2=>cond (decide (v2<(p0.length:Int))) ((idx p0 v2).bind fun m6=>(idx p1 v2).bind fun m7=>cond (!decide (m6=m7)) (some (.inr (.inr false))) (some (.inl (IntKind.i64.wrap (v2+1))))) (some (.inr (.inl ())))) FUEL 0).bind fun q=>match q with | .inl _=>some true | .inr e=>some e)
theorem lK {p0:(List ByteArray)} {p1:(List ByteArray)} {r:Bool}  (h:eu p0 p1=some r):PF 167 [pL eS p0,pL eS p1] (pB r):=by
 unfold eu at h
 refine bd ?_
 refine du Tryz.func167 rfl Tryz.ntmps167 Tryz.results167 rfl (aW [4] (by kernel_rfl) (cj (bF [6,7,8,9] [(10,pB ((p0.length:Int) != (p1.length:Int)))] (by kernel_rfl) rfl h (fun hc1 h=>?_) fun hc1 h=>?_)))
 ·refine ae ?_
  refine dg [(4,pB false)] (by kernel_rfl) (al ?_)
  exact zz r h rfl
 refine ah ?_
 refine cj (ai [11] [(12,pI (p0.length:Int)),(13,pI 0)] (by kernel_rfl) (ft h fun q4 hq4 h=>?_))
 refine ar (Y:=Unit×Unit) (fun (_,_)=>[]) (fun (_,_)=>[]) (fun (_,_)=>q4=Sum.inl ()) ?_ ?_
 ·refine av ?_
  refine aC (Y:=Unit) (S:=Int) _ hq4 (fun _ v2=>[(0,pL eS p0),(1,pL eS p1),(12,pI (p0.length:Int)),(13,pI v2)]) (fun _ v2=>[]) () (iR rfl) bB ?_
  rintro _ v2 o τ hb3;(try dsimp only at hb3);dsimp only [az]
  refine ae (ak [(14,pB (decide (v2<(p0.length:Int))))] (by kernel_rfl) (bZ (kq rfl hb3 (fun hc5 hb3=>?_) fun hc5 hb3=>?_)))
  ·refine ah ?_
   refine dJ (ai [15] [(5,pI v2)] (by kernel_rfl) (bZ (bi (ρd:=[]) [(0,0),(1,0),(2,0),(3,0),(4,0),(5,0),(6,0),(7,0),(8,0)] _ (List.Perm.refl _) (by kernel_rfl) rfl (aa hb3 fun m6 hm6 hb3=>aa hb3 fun m7 hm7 hb3=>bt 9 [] (rg 16 8) [(24,pB (!decide (m6=m7)))] (cL 2 eS hm6 (cL 6 eS hm7 bj)) (by kernel_rfl) (bA (cR rfl hb3 (fun hc8 hb3=>?_) fun hc8 hb3=>?_))))))
   ·refine ae ?_
    refine dg [(4,pB false)] (by kernel_rfl) (dH ?_)
    refine au hb3 (fun ht=>?_);subst ht
    refine cP ?_
    exact zz r h rfl
   refine ah ?_
   refine dI (ai [25] [(13,pI (IntKind.i64.wrap (v2+1)))] (by kernel_rfl) ?_)
   exact aS hb3 () (iR rfl) bB
  refine aH ?_
  refine cq hb3 (fun ht=>aj rfl ?_)
  exact aw ((),()) pz bB ht.symm
 rintro ⟨_,_⟩ τ hz;(try dsimp only at hz);subst q4;(try dsimp only at h);dsimp only [az]
 refine ae (dg [(4,pB true)] (by kernel_rfl) ?_)
 exact zz r h rfl
def br (p0:(List Zd)) (p1:(List Zd)) (p2:(Zd→Zd→Option Bool)):Option Bool:=cond ((p0.length:Int) != (p1.length:Int)) (some false) ((aT (S:=Int) (T:=(Unit)⊕(_)) (fun v2=>cond (decide (v2<(p0.length:Int))) ((idx p0 v2).bind fun m6=>(idx p1 v2).bind fun m8=>(p2 m6 m8).bind fun x10=>cond (!x10) (some (.inr (.inr false))) (some (.inl (IntKind.i64.wrap (v2+1))))) (some (.inr (.inl ())))) FUEL 0).bind fun q=>match q with | .inl _=>some true | .inr e=>some e)
theorem fh {p0:(List Zd)} {p1:(List Zd)} {p2:(Zd→Zd→Option Bool)} {r:Bool} {g2:PV} (hg2:∀ {y0:Zd} {y1:Zd} {w:Bool},p2 y0 y1=some w→PFV g2 [.agg (an y0),.agg (an y1)] (pB w)) (h:br p0 p1 p2=some r):PF 168 [pL Zd.enc p0,pL Zd.enc p1,g2] (pB r):=by
 unfold br at h
 refine bd ?_
 refine du Tryz.func168 rfl Tryz.ntmps168 Tryz.results168 rfl (aW [6] (by kernel_rfl) (cj (bF [10,11,12,13] [(14,pB ((p0.length:Int) != (p1.length:Int)))] (by kernel_rfl) rfl h (fun hc1 h=>?_) fun hc1 h=>?_)))
 ·refine ae ?_
  refine dg [(6,pB false)] (by kernel_rfl) (al ?_)
  exact zz r h rfl
 refine ah ?_
 refine cj (ak [(15,pL Zd.enc p0),(16,pI (p0.length:Int)),(17,pI 0)] (by kernel_rfl) (ft h fun q4 hq4 h=>?_))
 refine ar (Y:=Unit×Unit) (fun (_,_)=>[]) (fun (_,_)=>[]) (fun (_,_)=>q4=Sum.inl ()) ?_ ?_
 ·refine av ?_
  refine aC (Y:=Unit) (S:=Int) _ hq4 (fun _ v2=>[(1,pL Zd.enc p1),(2,g2),(15,pL Zd.enc p0),(16,pI (p0.length:Int)),(17,pI v2)]) (fun _ v2=>[]) () (ns rfl) bB ?_
  rintro _ v2 o τ hb3;(try dsimp only at hb3);dsimp only [az]
  refine ae (ak [(18,pB (decide (v2<(p0.length:Int))))] (by kernel_rfl) (bZ (kq rfl hb3 (fun hc5 hb3=>?_) fun hc5 hb3=>?_)))
  ·refine ah ?_
   refine dJ (aa hb3 fun m6 hm6 hb3=>af (aU 3 [] [20] [(19,pI v2),(21,.agg (an m6))] (ny 1 Zd.enc (Zd.enc_eq _) hm6 bj) (by kernel_rfl) (ap rfl (aL (cs:=[pI 0,pI 0,pN,pI 0,pI 0,pS ByteArray.empty,pN]) rfl rfl rfl rfl (fun b7=>aD 1 [(7,pI v2)] (by kernel_rfl) (aP rfl rfl (am (vs:=(an m6)) rfl rfl rfl rfl rfl ce mX (aF (de hb3 fun m8 hm8 hb3=>af (aU 4 [] [22,23,24] [(25,.agg (an m8))] (ny 2 Zd.enc (Zd.enc_eq _) hm8 bj) (by kernel_rfl) (ap rfl (aL (cs:=[pI 0,pI 0,pN,pI 0,pI 0,pS ByteArray.empty,pN]) rfl rfl rfl rfl (fun b9=>aP rfl rfl (am (vs:=(an m8)) rfl rfl rfl rfl rfl ce mX (aF (de hb3 fun x10 hx10 hb3=>aq [1,0] [26,27,28,29] [(30,pB (!x10))] (DG 3 (hg2 hx10) bj) (by kernel_rfl) (cR rfl hb3 (fun hc11 hb3=>?_) fun hc11 hb3=>?_)))))))))))))))))
   ·refine ae ?_
    refine dg [(6,pB false)] (by kernel_rfl) (dH ?_)
    refine au hb3 (fun ht=>?_);subst ht
    refine cP ?_
    exact zz r h rfl
   refine ah ?_
   refine dI (ai [31] [(17,pI (IntKind.i64.wrap (v2+1)))] (by kernel_rfl) ?_)
   exact aS hb3 () (ns rfl) bB
  refine aH ?_
  refine cq hb3 (fun ht=>aj rfl ?_)
  exact aw ((),()) pz bB ht.symm
 rintro ⟨_,_⟩ τ hz;(try dsimp only at hz);subst q4;(try dsimp only at h);dsimp only [az]
 refine ae (dg [(6,pB true)] (by kernel_rfl) ?_)
 exact zz r h rfl
def ey (rec:Zd→Zd→Option Bool) (p0:Zd) (p1:Zd):Option Bool:=(gd (((((p0.Kind == p1.Kind)&&(p0.Digits == p1.Digits))&&(p0.Tolerance == p1.Tolerance))&&(p0.Limit == p1.Limit))&&(decide (p0.Name=p1.Name))) (eu p0.Except p1.Except)).bind fun x3=>(gd ((((((p0.Kind == p1.Kind)&&(p0.Digits == p1.Digits))&&(p0.Tolerance == p1.Tolerance))&&(p0.Limit == p1.Limit))&&(decide (p0.Name=p1.Name)))&&x3) (br p0.Args p1.Args (fun y4 y5=>rec y4 y5))).bind fun x6=>some (((((((p0.Kind == p1.Kind)&&(p0.Digits == p1.Digits))&&(p0.Tolerance == p1.Tolerance))&&(p0.Limit == p1.Limit))&&(decide (p0.Name=p1.Name)))&&x3)&&x6)
theorem nu {rec:Zd→Zd→Option Bool} (hrec:∀ {p0:Zd} {p1:Zd} {r:Bool},rec p0 p1=some r→PF 136 [.agg (an p0),.agg (an p1)] (pB r)) {p0:Zd} {p1:Zd} {r:Bool} (h:ey rec p0 p1=some r):PF 136 [.agg (an p0),.agg (an p1)] (pB r):=by
 unfold ey at h
 refine bd ?_
 refine du Tryz.func136 rfl Tryz.ntmps136 Tryz.results136 rfl (da rfl (bf (cs:=(an p0)) rfl rfl (fun b1=>ap rfl (bf (cs:=(an p1)) rfl rfl (fun b2=>ba [4] (by kernel_rfl) (de h fun x3 hx3 h=>aa h fun x6 hx6 h=>aq [1,0,1,0,1,0,1,0,1,0,1,0,1,0] (rg 5 47) [(4,pB (((((((p0.Kind == p1.Kind)&&(p0.Digits == p1.Digits))&&(p0.Tolerance == p1.Tolerance))&&(p0.Limit == p1.Limit))&&(decide (p0.Name=p1.Name)))&&x3)&&x6))] (eM 38 (fun hc=>lK (cF hx3 hc)) (eM 45 (fun hc=>fh (fun hr=>sZ (hrec hr)) (cF hx6 hc)) bj)) (by kernel_rfl) (cX ?_)))))))
 exact zz r h rfl
def ez (n:Nat):Zd→Zd→Option Bool:=Nat.rec (motive:=fun _=>Zd→Zd→Option Bool) (fun _ _=>none) (fun _ ih=>ey ih) n
def iZ (p0:Zd) (p1:Zd):Option Bool:=ez FUEL p0 p1
theorem nM (n:Nat):∀ {p0:Zd} {p1:Zd} {r:Bool},ez n p0 p1=some r→PF 136 [.agg (an p0),.agg (an p1)] (pB r):=by
 induction n with
 | zero=>intros;rename_i h;exact nomatch h
 | succ n ih=>intros;rename_i h;exact nu (fun hr=>ih hr) h
theorem og {p0:Zd} {p1:Zd} {r:Bool} (h:iZ p0 p1=some r):PF 136 [.agg (an p0),.agg (an p1)] (pB r):=nM FUEL h
def eJ (p1:Int):Option (List ByteArray):=(DM 16 p1).bind fun _=>some []
theorem lZ {p1:Int} {r:(List ByteArray)} (h:eJ p1=some r):PCall 169 [.v (.slice none 0 0),pI p1] [] (fun pv ρ'=>∃ a c,pv=.v (.slice a r.length c)∧ρ'=[PRes.row a r.length c 9 1 (List.map eS r)]):=by
 unfold eJ at h
 obtain ⟨u,hu,h⟩:=Option.bind_eq_some_iff.1 h
 obtain rfl:=osi h
 obtain ⟨hg0,hg1⟩:=mk0_le hu
 have ew:IntKind.i64.wrap (p1 - IntKind.i64.wrap (((0:Nat):Int) - ((0:Nat):Int)))=p1:=DO hg0 hg1
 refine oN Tryz.func169 rfl Tryz.ntmps169 Tryz.results169 rfl ?_
 (repeat refine ae ?_)
 refine aW [4] (by kernel_rfl) (aX ?_)
 (repeat refine ae ?_)
 refine ai [5] [(6,pB (decide (p1<0)))] (by kernel_rfl) (aX ?_)
 refine km rfl (fun hc=>absurd (of_decide_eq_true hc) (by omega)) (fun hc=>?_)
 refine ah (aX ?_)
 (repeat refine ae ?_)
 refine af (aD 2 [(8,pI p1),(9,.v (.slice none 0 0))] (by kernel_rfl) (bX rfl rfl rfl (CL rfl rfl (.p rfl)) (kv [11,12,13,14] [(1,pI (IntKind.i64.wrap (p1 - IntKind.i64.wrap (((0:Nat):Int) - ((0:Nat):Int)))))] (by kernel_rfl) ?_)))
 rw [ew]
 refine aX ?_
 (repeat refine ae ?_)
 refine ai [15] [(16,pB (decide (0<p1)))] (by kernel_rfl) (aX ?_)
 refine km rfl (fun hc=>?_) (fun hc=>?_)
 ·refine af ?_
  refine aD 2 [(17,.v (.slice none 0 0)),(18,.v (.slice none 0 0))] (by kernel_rfl) (bX rfl rfl rfl (CL rfl rfl (.p rfl)) (bX rfl rfl rfl (xI rfl rfl rfl (.p rfl) (.p rfl) rfl (Nat.zero_le _)) (aD 1 [(21,pI p1)] (by kernel_rfl) (Bk 9 1 ?_))))
  refine ap rfl (FM rfl rfl rfl rfl rfl rfl rfl rfl (of_decide_eq_true hc) hu (by exact aO) (fun a c hac=>?_))
  refine aD 2 [(23,.v (.slice none 0 0)),(24,pI 0)] (by kernel_rfl) (bX rfl rfl rfl (xI (k:=0) rfl rfl rfl (.p rfl) (.p rfl) rfl (Nat.zero_le _)) (aN [(0,.v (.slice a 0 c))] (by kernel_rfl) (aX ?_)))
  (repeat refine ae ?_)
  refine ai [26] [(4,.v (.slice a 0 c))] (by kernel_rfl) (cX ?_)
  exact aM (dp (aK rfl)) cK ⟨_,_,rfl,rfl⟩
 refine ah ?_
 refine aX ?_
 (repeat refine ae ?_)
 refine ai [26] [(4,.v (.slice none 0 0))] (by kernel_rfl) (aX (di 9 1 (bR ?_)))
 exact aM (dp (aK rfl)) cK ⟨_,_,rfl,rfl⟩
def dc (p0:(List (List ByteArray))):Option (List ByteArray):=(aT (S:=Int×Int) (T:=(Int)) (fun (v1,v2)=>cond (decide (v2<(p0.length:Int))) ((idx p0 v2).bind fun m7=>cond (decide ((IntKind.i64.wrap (v1+(m7.length:Int)))<0)) (none) (some (.inl ((IntKind.i64.wrap (v1+(m7.length:Int))),(IntKind.i64.wrap (v2+1)))))) (some (.inr v1))) FUEL (0,0)).bind fun v3=>(eJ v3).bind fun x9=>(aT (S:=(List ByteArray)×Int) (T:=((List ByteArray))) (fun (l14,v17)=>cond (decide (v17<(p0.length:Int))) ((idx p0 v17).bind fun m25=>(app 16 l14 m25).bind fun l26=>some (.inl (l26,(IntKind.i64.wrap (v17+1))))) (some (.inr l14))) FUEL (x9,0)).bind fun l21=>some l21
theorem kY {p0:(List (List ByteArray))} {r:(List ByteArray)}  (h:dc p0=some r):PCall 138 [pL (eL eS) p0] [] (fun pv ρ'=>∃ a c,pv=.v (.slice a r.length c)∧ρ'=[PRes.row a r.length c 9 1 (List.map eS r)]):=by
 unfold dc at h
 refine du Tryz.func138 rfl Tryz.ntmps138 Tryz.results138 rfl (aW [2] (by kernel_rfl) (bZ (ak [(3,pI 0)] (by kernel_rfl) (cj (ak [(9,pL (eL eS) p0),(10,pI (p0.length:Int)),(11,pI 0)] (by kernel_rfl) (ft h fun q5 hq5 h=>?_))))))
 refine ar (Y:=Unit×Int) (fun (_,v3)=>[(0,pL (eL eS) p0),(3,pI v3)]) (fun (_,v3)=>[]) (fun (_,v3)=>q5=v3) ?_ ?_
 ·refine av ?_
  refine aC (Y:=Unit) (S:=Int×Int) _ hq5 (fun _ (v1,v2)=>[(0,pL (eL eS) p0),(3,pI v1),(9,pL (eL eS) p0),(10,pI (p0.length:Int)),(11,pI v2)]) (fun _ (v1,v2)=>[]) () (ns rfl) bB ?_
  rintro _ ⟨v1,v2⟩ o τ hb4;(try dsimp only at hb4);dsimp only [az]
  refine ae (ak [(12,pB (decide (v2<(p0.length:Int))))] (by kernel_rfl) (bZ (kq rfl hb4 (fun hc6 hb4=>?_) fun hc6 hb4=>?_)))
  ·refine ah ?_
   refine dJ (aa hb4 fun m7 hm7 hb4=>aq [] [13,14] [(5,pL eS m7)] (cL 0 (eL eS) hm7 bj) (by kernel_rfl) (bZ (ai [15,16,17,18] [(3,pI (IntKind.i64.wrap (v1+(m7.length:Int))))] (by kernel_rfl) (bZ (bF [19] [(20,pB (decide ((IntKind.i64.wrap (v1+(m7.length:Int)))<0)))] (by kernel_rfl) rfl hb4 (fun hc8 hb4=>?_) fun hc8 hb4=>?_)))))
   ·refine af ?_
    exact absurd hb4 (by simp)
   refine ah ?_
   refine dI (ai [22] [(11,pI (IntKind.i64.wrap (v2+1)))] (by kernel_rfl) ?_)
   exact aS hb4 () (ns rfl) bB
  refine aH ?_
  refine cq hb4 (fun ht=>aj rfl ?_)
  exact aw ((),v1) (mq rfl) bB ht.symm
 rintro ⟨_,v3⟩ τ hz;(try dsimp only at hz);subst q5;(try dsimp only at h);dsimp only [az]
 refine ae (aa h fun x9 hx9 h=>af (aD 1 [(23,pI v3)] (by kernel_rfl) ?_))
 refine ap rfl (bh rfl rfl (ρ1:=[]) (List.Perm.refl _) (lZ hx9) ?_);rintro _ _ ⟨a10,c11,rfl,rfl⟩
 refine aN [(6,pO a10 x9.length c11)] (by kernel_rfl) (cj (ak [(25,pL (eL eS) p0),(26,pI (p0.length:Int)),(27,pI 0)] (by kernel_rfl) (ft h fun q23 hq23 h=>?_)))
 refine ar (Y:=(Option Addr×Nat)×((List ByteArray))) (fun ((a19,c20),l21)=>[(6,pO a19 l21.length c20)]) (fun ((a19,c20),l21)=>[PRes.row a19 l21.length c20 9 1 (List.map eS l21)]) (fun ((a19,c20),l21)=>q23=l21) ?_ ?_
 ·refine av ?_
  refine aC (Y:=Option Addr×Nat) (S:=(List ByteArray)×Int) _ hq23 (fun (a15,c16) (l14,v17)=>[(6,pO a15 l14.length c16),(25,pL (eL eS) p0),(26,pI (p0.length:Int)),(27,pI v17)]) (fun (a15,c16) (l14,v17)=>[PRes.row a15 l14.length c16 9 1 (List.map eS l14)]) (a10,c11) (iR rfl) cK ?_
  rintro ⟨a15,c16⟩ ⟨l14,v17⟩ o τ hb22;(try dsimp only at hb22);dsimp only [az]
  refine ae (ak [(28,pB (decide (v17<(p0.length:Int))))] (by kernel_rfl) (bZ (kq rfl hb22 (fun hc24 hb22=>?_) fun hc24 hb22=>?_)))
  ·refine ah ?_
   refine dJ (aa hb22 fun m25 hm25 hb22=>aq [] [29,30] [(8,pL eS m25)] (cL 0 (eL eS) hm25 bj) (by kernel_rfl) (ft hb22 fun l26 hl26 hb22=>af (aD 2 [(31,pO a15 l14.length c16),(32,pL eS m25)] (by kernel_rfl) ?_)))
   refine ap rfl (iq (enc:=eS) rfl rfl rfl rfl rfl (fun _=>rfl) rfl rfl rfl (by exact aO) hl26 (fun a27 c28=>?_))
   refine aN [(6,pO a27 l26.length c28)] (by kernel_rfl) (dI (ai [34] [(27,pI (IntKind.i64.wrap (v17+1)))] (by kernel_rfl) ?_))
   exact aS hb22 (a27,c28) (iR rfl) cK
  refine aH ?_
  refine cq hb22 (fun ht=>aj rfl ?_)
  exact aw ((a15,c16),l14) (rD rfl) cK ht.symm
 rintro ⟨⟨a19,c20⟩,l21⟩ τ hz;(try dsimp only at hz);subst q23;(try dsimp only at h);dsimp only [az]
 refine ae (ai [35] [(2,pO a19 l21.length c20)] (by kernel_rfl) (cX ?_))
 obtain rfl:=osi h
 exact aM (dp (aK rfl)) cK ⟨_,_,rfl,rfl⟩
def dS (p0:(List ByteArray)):Option (List ByteArray):=cond (decide (((p0.length:Nat):Int)<2)) (some p0) ((aT (S:=Int) (T:=(Unit)⊕(_)) (fun v2=>cond (decide (v2<((p0.length:Nat):Int))) ((idx p0 v2).bind fun m7=>(idx p0 (IntKind.i64.wrap (v2 - 1))).bind fun m8=>cond (decide (m7=m8)) ((sub p0 v2 (p0.length:Int)).bind fun l10=>(aT (S:=(List ByteArray)×Int×Int) (T:=((List ByteArray)×Int)) (fun (l12,v13,v14)=>cond (decide (v14<((p0.length - v2.toNat:Nat):Int))) (((lF v14).bind fun u25=>(idx l12 (v2+v14)).bind fun m26=>(lF (IntKind.i64.wrap (v14 - 1))).bind fun u27=>(idx l12 (v2+(IntKind.i64.wrap (v14 - 1)))).bind fun m28=>cond (!decide (m26=m28)) ((lF v14).bind fun u30=>(idx l12 (v2+v14)).bind fun m31=>(idx l12 v13).bind fun m32=>some ((l12.set v13.toNat m31),(IntKind.i64.wrap (v13+1)))) (some (l12,v13))).bind fun (l22,v23)=>some (.inl (l22,v23,(IntKind.i64.wrap (v14+1))))) (some (.inr (l12,v13)))) FUEL (p0,v2,1)).bind fun (l16,v17)=>(sub l16 v17 (l16.length:Int)).bind fun l34=>(sub (List.take v17.toNat l16++List.replicate (p0.length - v17.toNat) ByteArray.empty) 0 v17).bind fun l35=>some (.inr (.inr l35))) (some (.inl (IntKind.i64.wrap (v2+1))))) (some (.inr (.inl ())))) FUEL 1).bind fun q=>match q with | .inl _=>some p0 | .inr e=>some e)
theorem kJ {p0:(List ByteArray)} {a_0:Option Addr}  {n_0:Nat}  {c_0:Nat} {r:(List ByteArray)}  (h:dS p0=some r):PCall 140 [.v (.slice a_0 n_0 c_0)] [PRes.row a_0 n_0 c_0 9 1 (List.map eS p0)] (fun pv ρ'=>∃ a c,pv=.v (.slice a r.length c)∧ρ'=[PRes.row a r.length c 9 1 (List.map eS r)]):=by
 unfold dS at h
 refine oN Tryz.func140 rfl Tryz.ntmps140 Tryz.results140 rfl ?_
 refine tR (enc:=eS) (xs:=p0) (a:=a_0) gb (fun hl ha=>?_);subst hl;clear ha
 refine ae (aW [2] (by kernel_rfl) (cj (bF [6,7] [(8,pB (decide (((p0.length:Nat):Int)<2)))] (by kernel_rfl) rfl h (fun hc1 h=>?_) fun hc1 h=>?_)))
 ·refine ae ?_
  refine ai [9] [(2,pO a_0 p0.length c_0)] (by kernel_rfl) (cX (al ?_))
  obtain rfl:=osi h
  exact aM (dp (aK rfl)) cK ⟨_,_,rfl,rfl⟩
 refine ah ?_
 refine cj (ak [(3,pI 1)] (by kernel_rfl) (ft h fun q5 hq5 h=>?_))
 refine ar (Y:=Unit×Unit) (fun (_,_)=>[(0,pO a_0 p0.length c_0)]) (fun (_,_)=>[PRes.row a_0 p0.length c_0 9 1 (List.map eS p0)]) (fun (_,_)=>q5=Sum.inl ()) ?_ ?_
 ·refine av ?_
  refine aC (Y:=Unit) (S:=Int) _ hq5 (fun _ v2=>[(0,pO a_0 p0.length c_0),(3,pI v2)]) (fun _ v2=>[PRes.row a_0 p0.length c_0 9 1 (List.map eS p0)]) () (mq rfl) cK ?_
  rintro _ v2 o τ hb4;(try dsimp only at hb4);dsimp only [az]
  refine cT (bF [10,11,12] [(13,pB (decide (v2<((p0.length:Nat):Int))))] (by kernel_rfl) rfl hb4 (fun hc6 hb4=>?_) fun hc6 hb4=>?_)
  ·refine ah ?_
   refine dJ (bi (ρd:=[]) [(0,0),(1,0),(2,0),(3,0),(4,0),(5,0),(6,0),(7,0),(8,0),(9,0)] _ (List.Perm.refl _) (by kernel_rfl) rfl (aa hb4 fun m7 hm7 hb4=>iW 2 [(16,pO a_0 p0.length c_0),(17,pI v2)] (by kernel_rfl) (lE rfl rfl rfl (eA (enc:=eS) (xs:=p0) rfl rfl rfl (.p rfl) gb (.p rfl) (fun _=>hm7)) (lE rfl rfl rfl (dY (sz:=1) (p:=pS m7) (enc:=eS) (xs:=p0) (a:=a_0) v2 0 m7 rfl (.p rfl) rfl gb (fun _=>hm7) rfl) (aa hb4 fun m8 hm8 hb4=>mZ 3 [21] [(20,pO a_0 p0.length c_0),(22,pI (IntKind.i64.wrap (v2 - 1)))] (by kernel_rfl) (lE rfl rfl rfl (eA (enc:=eS) (xs:=p0) rfl rfl rfl (.p rfl) gb (.p rfl) (fun _=>hm8)) (lE rfl rfl rfl (dY (sz:=1) (p:=pS m8) (enc:=eS) (xs:=p0) (a:=a_0) (IntKind.i64.wrap (v2 - 1)) 0 m8 rfl (.p rfl) rfl gb (fun _=>hm8) rfl) (iW 1 [(25,pB (decide (m7=m8)))] (by kernel_rfl) (bA (cR rfl hb4 (fun hc9 hb4=>?_) fun hc9 hb4=>?_))))))))))
   ·refine ae ?_
    refine aa hb4 fun l10 hl10 hb4=>af (aD 2 [(26,pO a_0 p0.length c_0),(27,pI v2)] (by kernel_rfl) (bX rfl rfl rfl (oP (enc:=eS) (xs:=p0) rfl rfl rfl rfl rfl gb hl10) (aN [(4,pQ a_0 p0.length c_0 v2.toNat 1)] (by kernel_rfl) (cj (ak [(5,pI 1)] (by kernel_rfl) (ft hb4 fun q19 hq19 hb4=>?_))))))
    refine ar (Y:=Unit×((List ByteArray)×Int)) (fun (_,(l16,v17))=>[(0,pO a_0 p0.length c_0),(3,pI v17)]) (fun (_,(l16,v17))=>[PRes.row a_0 p0.length c_0 9 1 (List.map eS l16)]) (fun (_,(l16,v17))=>q19=(l16,v17)) ?_ ?_
    ·refine av ?_
     refine aC (Y:=Unit) (S:=(List ByteArray)×Int×Int) _ hq19 (fun _ (l12,v13,v14)=>[(0,pO a_0 p0.length c_0),(3,pI v13),(4,pQ a_0 p0.length c_0 v2.toNat 1),(5,pI v14)]) (fun _ (l12,v13,v14)=>[PRes.row a_0 p0.length c_0 9 1 (List.map eS l12)]) () (iR rfl) cK ?_
     rintro _ ⟨l12,v13,v14⟩ o τ hb18;(try dsimp only at hb18);dsimp only [az]
     refine cT (bF [29,30,31] [(32,pB (decide (v14<((p0.length - v2.toNat:Nat):Int))))] (by kernel_rfl) rfl hb18 (fun hc20 hb18=>?_) fun hc20 hb18=>?_)
     ·refine ah ?_
      refine de hb18 fun q24 hq24 hb18=>?_
      refine ar (Y:=Unit×((List ByteArray)×Int)) (fun (_,(l22,v23))=>[(0,pO a_0 p0.length c_0),(3,pI v23),(4,pQ a_0 p0.length c_0 v2.toNat 1),(5,pI v14)]) (fun (_,(l22,v23))=>[PRes.row a_0 p0.length c_0 9 1 (List.map eS l22)]) (fun (_,(l22,v23))=>q24=(l22,v23)) ?_ ?_
      ·skip
       refine qU (bi (ρd:=[]) [(0,0),(1,0),(2,0),(3,0),(4,0),(5,0),(6,0),(7,0),(8,0),(9,0)] _ (List.Perm.refl _) (by kernel_rfl) rfl (aa hq24 fun u25 hu25 hq24=>aa hq24 fun m26 hm26 hq24=>iW 2 [(35,pQ a_0 p0.length c_0 v2.toNat 1),(36,pI v14)] (by kernel_rfl) (lE rfl rfl rfl (kW (enc:=eS) (xs:=l12) (i:=v2) rfl rfl rfl rfl rfl (ir hl10).1.1 (mW hu25) gb hm26) (lE rfl rfl rfl (dY (sz:=1) (p:=pS m26) (enc:=eS) (xs:=l12) (a:=a_0) (v2+v14) 0 m26 rfl (.p rfl) rfl gb (fun _=>hm26) rfl) (aa hq24 fun u27 hu27 hq24=>aa hq24 fun m28 hm28 hq24=>mZ 3 [40] [(39,pQ a_0 p0.length c_0 v2.toNat 1),(41,pI (IntKind.i64.wrap (v14 - 1)))] (by kernel_rfl) (lE rfl rfl rfl (kW (enc:=eS) (xs:=l12) (i:=v2) rfl rfl rfl rfl rfl (ir hl10).1.1 (mW hu27) gb hm28) (lE rfl rfl rfl (dY (sz:=1) (p:=pS m28) (enc:=eS) (xs:=l12) (a:=a_0) (v2+(IntKind.i64.wrap (v14 - 1))) 0 m28 rfl (.p rfl) rfl gb (fun _=>hm28) rfl) (iW 1 [(44,pB (!decide (m26=m28)))] (by kernel_rfl) (bA (cR rfl hq24 (fun hc29 hq24=>?_) fun hc29 hq24=>?_))))))))))
       ·refine ae ?_
        refine aa hq24 fun u30 hu30 hq24=>aa hq24 fun m31 hm31 hq24=>af (aD 4 [(45,pO a_0 p0.length c_0),(46,pI v13),(47,pQ a_0 p0.length c_0 v2.toNat 1),(48,pI v14)] (by kernel_rfl) (bX rfl rfl rfl (kW (enc:=eS) (xs:=l12) (i:=v2) rfl rfl rfl rfl rfl (ir hl10).1.1 (mW hu30) gb hm31) (bX rfl rfl rfl (dY (sz:=1) (p:=pS m31) (enc:=eS) (xs:=l12) (a:=a_0) (v2+v14) 0 m31 rfl (.p rfl) rfl gb (fun _=>hm31) rfl) (aa hq24 fun m32 hm32 hq24=>bX rfl rfl rfl (eA (enc:=eS) (xs:=l12) rfl rfl rfl (.p rfl) gb (.p rfl) (fun _=>hm32)) (aP rfl rfl (mV (enc:=eS) (xs:=l12) (a:=a_0) v13 0 m32 m31 rfl rfl rfl rfl (fun _=>rfl) rfl rfl hm32 oA ce (aF (aX (ai [52,53] [(3,pI (IntKind.i64.wrap (v13+1)))] (by kernel_rfl) (aG ?_))))))))))
        obtain rfl:=osi hq24
        exact aw ((),((l12.set v13.toNat m31),(IntKind.i64.wrap (v13+1)))) (iR rfl) cK rfl
       refine ah ?_
       refine aG ?_
       obtain rfl:=osi hq24
       exact aw ((),(l12,v13)) (iR rfl) cK rfl
      rintro ⟨_,⟨l22,v23⟩⟩ τ hz;(try dsimp only at hz);subst q24;(try dsimp only at hb18);dsimp only [az]
      refine ai [33,34] [(5,pI (IntKind.i64.wrap (v14+1)))] (by kernel_rfl) ?_
      exact aS hb18 () (iR rfl) cK
     refine aH ?_
     refine cq hb18 (fun ht=>aj rfl ?_)
     exact aw ((),(l12,v13)) (mq rfl) cK ht.symm
    rintro ⟨_,⟨l16,v17⟩⟩ τ hz;(try dsimp only at hz);subst q19;(try dsimp only at hb4);dsimp only [az]
    refine ae (aa hb4 fun l34 hl34 hb4=>af (aD 2 [(54,pO a_0 p0.length c_0),(55,pI v17)] (by kernel_rfl) (bX rfl rfl rfl (oP (enc:=eS) (xs:=l16) rfl rfl rfl rfl rfl gb hl34) (aP rfl rfl (xF (enc:=eS) (xs:=l16) (z0:=ByteArray.empty) (i:=v17) rfl rfl rfl rfl hl34 rfl rfl rfl rfl ce (aF (de hb4 fun l35 hl35 hb4=>af (aD 2 [(57,pO a_0 p0.length c_0),(58,pI v17)] (by kernel_rfl) ?_))))))))
    refine ap rfl (xE (enc:=eS) (xs:=(List.take v17.toNat l16++List.replicate (p0.length - v17.toNat) ByteArray.empty)) rfl rfl rfl rfl rfl (by exact aO) hl35 ?_)
    refine aN [(2,pO a_0 l35.length c_0)] (by kernel_rfl) (cX (dH ?_))
    refine au hb4 (fun ht=>?_);subst ht
    refine cP ?_
    obtain rfl:=osi h
    exact aM (dp (aK rfl)) cK ⟨_,_,rfl,rfl⟩
   refine ah ?_
   refine dI (ai [14,15] [(3,pI (IntKind.i64.wrap (v2+1)))] (by kernel_rfl) ?_)
   exact aS hb4 () (mq rfl) cK
  refine aH ?_
  refine cq hb4 (fun ht=>aj rfl ?_)
  exact aw ((),()) (rD rfl) cK ht.symm
 rintro ⟨_,_⟩ τ hz;(try dsimp only at hz);subst q5;(try dsimp only at h);dsimp only [az]
 refine ae (ai [60] [(2,pO a_0 p0.length c_0)] (by kernel_rfl) (cX ?_))
 obtain rfl:=osi h
 exact aM (dp (aK rfl)) cK ⟨_,_,rfl,rfl⟩
def cV (p0:Zs) (p1:Zc) (p2:Int):Option Ze:=(aT (S:=Int) (T:=(Unit)⊕(_)) (fun v3=>cond (decide (v3<(p0.partners.length:Int))) ((idx p0.partners v3).bind fun m7=>cond ((kr p0.set_ (⟨p1.ID,m7⟩:Za)).getD false) (some (.inr (.inr (Ze.proved_ (⟨(⟨p1.Code,p2,true⟩:Zk),(⟨p1.ID,m7⟩:Za)⟩:Zq))))) (some (.inl (IntKind.i64.wrap (v3+1))))) (some (.inr (.inl ())))) FUEL 0).bind fun q=>match q with | .inl _=>some (Ze.plain_ (⟨(⟨p1.Code,p2,false⟩:Zk)⟩:Zt)) | .inr e=>some e
theorem iP {p0:Zs} {p1:Zc} {p2:Int} {m0_set_:Nat} {r:Ze}  (h:cV p0 p1 p2=some r):PCall 98 [.agg [pL eI p0.partners,.v (.map (some m0_set_))],.agg (aI p1),pI p2] [PRes.mp (some m0_set_) (gi Za.key vT p0.set_)] (fun pv ρ'=>pv=Ze.pv r∧ρ'=[PRes.mp (some m0_set_) (gi Za.key vT p0.set_)]):=by
 unfold cV at h
 refine du Tryz.func98 rfl Tryz.ntmps98 Tryz.results98 rfl (da rfl (bf (cs:=[pL eI p0.partners,.v (.map (some m0_set_))]) rfl rfl (fun b1=>ap rfl (bf (cs:=(aI p1)) rfl rfl (fun b2=>ba [6] (by kernel_rfl) (cj (aJ [1] [10] [(11,pL eI p0.partners),(12,pI (p0.partners.length:Int)),(13,pI 0)] (by kernel_rfl) (ft h fun q5 hq5 h=>?_))))))))
 refine ar (Y:=Unit×Unit) (fun (_,_)=>[(2,pI p2),(4,pP b2 0)]) (fun (_,_)=>[PRes.b b2 76 (aI p1),PRes.mp (some m0_set_) (gi Za.key vT p0.set_)]) (fun (_,_)=>q5=Sum.inl ()) ?_ ?_
 ·refine av ?_
  refine aC (Y:=Unit) (S:=Int) _ hq5 (fun _ v3=>[(2,pI p2),(3,pP b1 0),(4,pP b2 0),(11,pL eI p0.partners),(12,pI (p0.partners.length:Int)),(13,pI v3)]) (fun _ v3=>[PRes.b b1 96 [pL eI p0.partners,.v (.map (some m0_set_))],PRes.b b2 76 (aI p1),PRes.mp (some m0_set_) (gi Za.key vT p0.set_)]) () (p9 rfl) (be (aB aO) n8) ?_
  rintro _ v3 o τ hb4;(try dsimp only at hb4);dsimp only [az]
  refine ae (ak [(14,pB (decide (v3<(p0.partners.length:Int))))] (by kernel_rfl) (bZ (kq rfl hb4 (fun hc6 hb4=>?_) fun hc6 hb4=>?_)))
  ·refine ah ?_
   refine dJ (aa hb4 fun m7 hm7 hb4=>aq [] [15,16] [(8,pI m7)] (cL 0 eI hm7 bj) (by kernel_rfl) (bZ (af (cO 4 [1] [17,18,19] [(20,.agg [pI p1.ID,pI m7])] (by kernel_rfl) (ap rfl (aL (cs:=[pI 0,pI 0]) rfl rfl rfl rfl (fun b8=>aP rfl rfl (am (vs:=[pI p1.ID,pI m7]) rfl rfl rfl rfl rfl ce sQ (aF (bZ (af (cO 3 [1,0] [21] [(22,.v (.map (some m0_set_))),(23,.agg [pI p1.ID,pI m7])] (by kernel_rfl) (bX rfl rfl rfl (show POpQ _ _ _ _ (pB ((kr p0.set_ (⟨p1.ID,m7⟩:Za)).getD false)) from xD (xs:=p0.set_) (k:=(⟨p1.ID,m7⟩:Za)) (ek:=Za.key) (vv:=vT) (z0:=false) rfl rfl rfl (fun _=>.v rfl) Za.kenc28 (.p rfl) (.p rfl) yL (Aj zm3)) (aF (cR rfl hb4 (fun hc9 hb4=>?_) fun hc9 hb4=>?_)))))))))))))))
   ·refine ae ?_
    refine aJ [2,0] (rg 25 7) [(6,Ze.pv (Ze.proved_ (⟨(⟨p1.Code,p2,true⟩:Zk),(⟨p1.ID,m7⟩:Za)⟩:Zq)))] (by kernel_rfl) (cX (dH ?_))
    refine au hb4 (fun ht=>?_);subst ht
    refine cP ?_
    obtain rfl:=osi h
    exact aM (dp (aK rfl)) (be (aB (aB (aB aO))) bB) ⟨rfl,rfl⟩
   refine ah ?_
   refine dI (ai [32] [(13,pI (IntKind.i64.wrap (v3+1)))] (by kernel_rfl) ?_)
   exact aS hb4 () (p9 rfl) (be (aB aO) (be (aB aO) (be (aB aO) bB)))
  refine aH ?_
  refine cq hb4 (fun ht=>aj rfl ?_)
  exact aw ((),()) (mq rfl) (be (aB aO) (be (aB aO) bB)) ht.symm
 rintro ⟨_,_⟩ τ hz;(try dsimp only at hz);subst q5;(try dsimp only at h);dsimp only [az]
 refine ae (aJ [0] (rg 33 6) [(6,Ze.pv (Ze.plain_ (⟨(⟨p1.Code,p2,false⟩:Zk)⟩:Zt)))] (by kernel_rfl) (cX ?_))
 obtain rfl:=osi h
 exact aM (dp (aK rfl)) (be (aB aO) bB) ⟨rfl,rfl⟩
def gn (p0:Int):Option Int:=Option.bind (cond (decide (4294967296≤p0)) (some ((cD .u64 p0 32),32)) (some (p0,0))) (fun (v1,v2)=>Option.bind (cond (decide (65536≤v1)) (some ((cD .u64 v1 16),(IntKind.i64.wrap (v2+16)))) (some (v1,v2))) (fun (v5,v6)=>Option.bind (cond (decide (256≤v5)) (some ((cD .u64 v5 8),(IntKind.i64.wrap (v6+8)))) (some (v5,v6))) (fun (v9,v10)=>(idx (⟨#[0,1,2,2,3,3,3,3,4,4,4,4,4,4,4,4,5,5,5,5,5,5,5,5,5,5,5,5,5,5,5,5,6,6,6,6,6,6,6,6,6,6,6,6,6,6,6,6,6,6,6,6,6,6,6,6,6,6,6,6,6,6,6,6,7,7,7,7,7,7,7,7,7,7,7,7,7,7,7,7,7,7,7,7,7,7,7,7,7,7,7,7,7,7,7,7,7,7,7,7,7,7,7,7,7,7,7,7,7,7,7,7,7,7,7,7,7,7,7,7,7,7,7,7,7,7,7,7,8,8,8,8,8,8,8,8,8,8,8,8,8,8,8,8,8,8,8,8,8,8,8,8,8,8,8,8,8,8,8,8,8,8,8,8,8,8,8,8,8,8,8,8,8,8,8,8,8,8,8,8,8,8,8,8,8,8,8,8,8,8,8,8,8,8,8,8,8,8,8,8,8,8,8,8,8,8,8,8,8,8,8,8,8,8,8,8,8,8,8,8,8,8,8,8,8,8,8,8,8,8,8,8,8,8,8,8,8,8,8,8,8,8,8,8,8,8,8,8,8,8,8,8,8,8,8,8]⟩:ByteArray).data.toList (IntKind.u8.wrap v9)).bind fun c13=>lb ((IntKind.i64.wrap (v10+(IntKind.i64.wrap (c13.toNat:Int))))) (fun w14=>some w14))))
theorem rH {p0:Int} {r:Int}  (h:gn p0=some r):PF 151 [pU p0] (pI r):=by
 unfold gn at h
 refine bd ?_
 refine du Tryz.func151 rfl Tryz.ntmps151 Tryz.results151 rfl (ak [(2,pI 0)] (by kernel_rfl) (cj (ai [3] [(4,pB (decide (4294967296≤p0)))] (by kernel_rfl) (ft h fun q3 hq3 h=>?_))))
 refine ar (Y:=Unit×(Int×Int)) (fun (_,(v1,v2))=>[(0,pU v1),(2,pI v2)]) (fun (_,(v1,v2))=>[]) (fun (_,(v1,v2))=>q3=(v1,v2)) ?_ ?_
 ·skip
  refine kq rfl hq3 (fun hc4 hq3=>?_) fun hc4 hq3=>?_
  ·refine ae ?_
   refine ai [5,6] [(0,pU (cD .u64 p0 32))] (by kernel_rfl) (aX (ak [(2,pI 32)] (by kernel_rfl) ?_))
   obtain rfl:=osi hq3
   exact aw ((),((cD .u64 p0 32),32)) (mq rfl) bB rfl
  refine ah ?_
  obtain rfl:=osi hq3
  exact aw ((),(p0,0)) (mq rfl) bB rfl
 rintro ⟨_,⟨v1,v2⟩⟩ τ hz;(try dsimp only at hz);subst q3;(try dsimp only at h);dsimp only [az]
 refine cT (ai [7] [(8,pB (decide (65536≤v1)))] (by kernel_rfl) (ft h fun q7 hq7 h=>?_))
 refine ar (Y:=Unit×(Int×Int)) (fun (_,(v5,v6))=>[(0,pU v5),(2,pI v6)]) (fun (_,(v5,v6))=>[]) (fun (_,(v5,v6))=>q7=(v5,v6)) ?_ ?_
 ·skip
  refine kq rfl hq7 (fun hc8 hq7=>?_) fun hc8 hq7=>?_
  ·refine ae ?_
   refine ai [9,10] [(0,pU (cD .u64 v1 16))] (by kernel_rfl) (aX (ai [11,12] [(2,pI (IntKind.i64.wrap (v2+16)))] (by kernel_rfl) ?_))
   obtain rfl:=osi hq7
   exact aw ((),((cD .u64 v1 16),(IntKind.i64.wrap (v2+16)))) (mq rfl) bB rfl
  refine ah ?_
  obtain rfl:=osi hq7
  exact aw ((),(v1,v2)) (mq rfl) bB rfl
 rintro ⟨_,⟨v5,v6⟩⟩ τ hz;(try dsimp only at hz);subst q7;(try dsimp only at h);dsimp only [az]
 refine cT (ai [13] [(14,pB (decide (256≤v5)))] (by kernel_rfl) (ft h fun q11 hq11 h=>?_))
 refine ar (Y:=Unit×(Int×Int)) (fun (_,(v9,v10))=>[(0,pU v9),(2,pI v10)]) (fun (_,(v9,v10))=>[]) (fun (_,(v9,v10))=>q11=(v9,v10)) ?_ ?_
 ·skip
  refine kq rfl hq11 (fun hc12 hq11=>?_) fun hc12 hq11=>?_
  ·refine ae ?_
   refine ai [15,16] [(0,pU (cD .u64 v5 8))] (by kernel_rfl) (aX (ai [17,18] [(2,pI (IntKind.i64.wrap (v6+8)))] (by kernel_rfl) ?_))
   obtain rfl:=osi hq11
   exact aw ((),((cD .u64 v5 8),(IntKind.i64.wrap (v6+8)))) (mq rfl) bB rfl
  refine ah ?_
  obtain rfl:=osi hq11
  exact aw ((),(v5,v6)) (mq rfl) bB rfl
 rintro ⟨_,⟨v9,v10⟩⟩ τ hz;(try dsimp only at hz);subst q11;(try dsimp only at h);dsimp only [az]
 refine ae (aa h fun c13 hc13 h=>?_)
 refine e9 h ?_;clear h;intro w14 hw14 h
 refine af (aU 6 [] (rg 19 5) [(24,pI (IntKind.i64.wrap (v10+(IntKind.i64.wrap (c13.toNat:Int)))))] (fosx 3 (s:=(⟨#[0,1,2,2,3,3,3,3,4,4,4,4,4,4,4,4,5,5,5,5,5,5,5,5,5,5,5,5,5,5,5,5,6,6,6,6,6,6,6,6,6,6,6,6,6,6,6,6,6,6,6,6,6,6,6,6,6,6,6,6,6,6,6,6,7,7,7,7,7,7,7,7,7,7,7,7,7,7,7,7,7,7,7,7,7,7,7,7,7,7,7,7,7,7,7,7,7,7,7,7,7,7,7,7,7,7,7,7,7,7,7,7,7,7,7,7,7,7,7,7,7,7,7,7,7,7,7,7,8,8,8,8,8,8,8,8,8,8,8,8,8,8,8,8,8,8,8,8,8,8,8,8,8,8,8,8,8,8,8,8,8,8,8,8,8,8,8,8,8,8,8,8,8,8,8,8,8,8,8,8,8,8,8,8,8,8,8,8,8,8,8,8,8,8,8,8,8,8,8,8,8,8,8,8,8,8,8,8,8,8,8,8,8,8,8,8,8,8,8,8,8,8,8,8,8,8,8,8,8,8,8,8,8,8,8,8,8,8,8,8,8,8,8,8,8,8,8,8,8,8,8,8,8,8,8,8]⟩:ByteArray)) hc13 bj) (by kernel_rfl) (bX rfl rfl rfl (bV rfl (.p (congrArg (fun z=>PV.v (Value.int .i64 z)) hw14))) (aF (cX ?_))))
 exact zz r h rfl
def dN (p0:Int):Option Int:=(gn p0).bind fun x1=>some (IntKind.i64.wrap (64 - x1))
theorem mC {p0:Int} {r:Int}  (h:dN p0=some r):PF 213 [pU p0] (pI r):=by
 unfold dN at h
 refine bd ?_
 refine du Tryz.func213 rfl Tryz.ntmps213 Tryz.results213 rfl (aW [2] (by kernel_rfl) (de h fun x1 hx1 h=>aq [] [3,4,5] [(2,pI (IntKind.i64.wrap (64 - x1)))] (bg 1 (rH hx1) bj) (by kernel_rfl) (cX ?_)))
 exact zz r h rfl
def iv (p0:Int) (p1:Int) (p2:Int):Option (Int×Int):=cond (p2 == 0) (none) (cond (decide (p2≤p0)) (none) (cond (p0 == 0) ((nz p2).bind fun u4=>(nz p2).bind fun u5=>some ((IntKind.u64.wrap (Int.tdiv p1 p2)),(Int.tmod p1 p2))) ((dN p2).bind fun x6=>(lF (IntKind.u64.wrap x6)).bind fun u7=>lb ((cD .u64 (fz .u64 p2 (IntKind.u64.wrap x6)) 32)) (fun w8=>lb ((dq .u64 (fz .u64 p2 (IntKind.u64.wrap x6)) 4294967295)) (fun w9=>(lF (IntKind.u64.wrap x6)).bind fun u10=>(lF (IntKind.u64.wrap (64 - (IntKind.u64.wrap x6)))).bind fun u11=>lb ((oz .u64 (fz .u64 p0 (IntKind.u64.wrap x6)) (cD .u64 p1 (IntKind.u64.wrap (64 - (IntKind.u64.wrap x6)))))) (fun w12=>(lF (IntKind.u64.wrap x6)).bind fun u13=>lb ((cD .u64 (fz .u64 p1 (IntKind.u64.wrap x6)) 32)) (fun w14=>lb ((dq .u64 (fz .u64 p1 (IntKind.u64.wrap x6)) 4294967295)) (fun w15=>(nz w8).bind fun u16=>lb ((IntKind.u64.wrap (w12 - (IntKind.u64.wrap ((IntKind.u64.wrap (Int.tdiv w12 w8))*w8))))) (fun w17=>(aT (S:=Int×Int) (T:=(Int)) (fun (v18,v19)=>cond ((decide (4294967296≤v18))||(decide ((IntKind.u64.wrap ((IntKind.u64.wrap (4294967296*v19))+w14))<(IntKind.u64.wrap (v18*w9))))) (cond (decide (4294967296≤(IntKind.u64.wrap (v19+w8)))) (some (.inr (IntKind.u64.wrap (v18 - 1)))) (some (.inl ((IntKind.u64.wrap (v18 - 1)),(IntKind.u64.wrap (v19+w8)))))) (some (.inr v18))) FUEL ((IntKind.u64.wrap (Int.tdiv w12 w8)),w17)).bind fun v20=>lb ((IntKind.u64.wrap ((IntKind.u64.wrap ((IntKind.u64.wrap (w12*4294967296))+w14)) - (IntKind.u64.wrap (v20*(fz .u64 p2 (IntKind.u64.wrap x6))))))) (fun w25=>(nz w8).bind fun u26=>lb ((IntKind.u64.wrap (w25 - (IntKind.u64.wrap ((IntKind.u64.wrap (Int.tdiv w25 w8))*w8))))) (fun w27=>(aT (S:=Int×Int) (T:=(Int)) (fun (v28,v29)=>cond ((decide (4294967296≤v29))||(decide ((IntKind.u64.wrap ((IntKind.u64.wrap (4294967296*v28))+w15))<(IntKind.u64.wrap (v29*w9))))) (cond (decide (4294967296≤(IntKind.u64.wrap (v28+w8)))) (some (.inr (IntKind.u64.wrap (v29 - 1)))) (some (.inl ((IntKind.u64.wrap (v28+w8)),(IntKind.u64.wrap (v29 - 1)))))) (some (.inr v29))) FUEL (w27,(IntKind.u64.wrap (Int.tdiv w25 w8)))).bind fun v30=>(lF (IntKind.u64.wrap x6)).bind fun u35=>lb ((IntKind.u64.wrap ((IntKind.u64.wrap (v20*4294967296))+v30))) (fun w36=>lb ((cD .u64 (IntKind.u64.wrap ((IntKind.u64.wrap ((IntKind.u64.wrap (w25*4294967296))+w15)) - (IntKind.u64.wrap (v30*(fz .u64 p2 (IntKind.u64.wrap x6)))))) (IntKind.u64.wrap x6))) (fun w37=>some (w36,w37))))))))))))))
theorem rI {p0:Int} {p1:Int} {p2:Int} {r:(Int×Int)}  (h:iv p0 p1 p2=some r):PF 200 [pU p0,pU p1,pU p2] (.tup [pU r.1,pU r.2]):=by
 unfold iv at h
 refine bd ?_
 refine du Tryz.func200 rfl Tryz.ntmps200 Tryz.results200 rfl (aW [6,7] (by kernel_rfl) (cj (bF [19] [(20,pB (p2 == 0))] (by kernel_rfl) rfl h (fun hc1 h=>?_) fun hc1 h=>?_)))
 ·refine af ?_
  exact absurd h (by simp)
 refine ah ?_
 refine cj (bF [22,23] [(24,pB (decide (p2≤p0)))] (by kernel_rfl) rfl h (fun hc2 h=>?_) fun hc2 h=>?_)
 ·refine af ?_
  exact absurd h (by simp)
 refine ah ?_
 refine cj (bF [26] [(27,pB (p0 == 0))] (by kernel_rfl) rfl h (fun hc3 h=>?_) fun hc3 h=>?_)
 ·refine ae ?_
  refine bi (ρd:=[]) [(0,0),(1,0),(2,0),(3,0),(4,0),(5,0),(6,0),(7,0)] _ (List.Perm.refl _) (by kernel_rfl) rfl (aa h fun u4 hu4 h=>aa h fun u5 hu5 h=>bt 8 [] (rg 28 6) [(6,pU (IntKind.u64.wrap (Int.tdiv p1 p2))),(7,pU (Int.tmod p1 p2))] (DE 2 hu4 (DE 5 hu5 bj)) (by kernel_rfl) (bA (cX (al ?_))))
  obtain rfl:=osi h
  exact aM (cd (aK rfl) (aK rfl)) bB ⟨rfl,rfl⟩
 refine ah ?_
 refine de h fun x6 hx6 h=>aq [] [34,35,36] [(8,pU (IntKind.u64.wrap x6))] (bg 1 (mC hx6) bj) (by kernel_rfl) (de h fun u7 hu7 h=>aq [] [37,38,39] [(2,pU (fz .u64 p2 (IntKind.u64.wrap x6)))] (un 2 hu7 bj) (by kernel_rfl) (bZ ?_))
 refine e9 h ?_;clear h;intro w8 hw8 h
 refine af (cE 2 [40] [(41,pU (cD .u64 (fz .u64 p2 (IntKind.u64.wrap x6)) 32))] (by kernel_rfl) (bX rfl rfl rfl (bV rfl (.p (congrArg (fun z=>PV.v (Value.int .u64 z)) hw8))) (aF (bZ ?_))))
 refine e9 h ?_;clear h;intro w9 hw9 h
 refine af (cE 2 [42] [(43,pU (dq .u64 (fz .u64 p2 (IntKind.u64.wrap x6)) 4294967295))] (by kernel_rfl) (bX rfl rfl rfl (bV rfl (.p (congrArg (fun z=>PV.v (Value.int .u64 z)) hw9))) (aF (de h fun u10 hu10 h=>aa h fun u11 hu11 h=>?_))))
 refine e9 h ?_;clear h;intro w12 hw12 h
 refine af (aU 8 [] (rg 44 7) [(51,pU (oz .u64 (fz .u64 p0 (IntKind.u64.wrap x6)) (cD .u64 p1 (IntKind.u64.wrap (64 - (IntKind.u64.wrap x6))))))] (un 2 hu10 (un 6 hu11 bj)) (by kernel_rfl) (bX rfl rfl rfl (bV rfl (.p (congrArg (fun z=>PV.v (Value.int .u64 z)) hw12))) (aF (de h fun u13 hu13 h=>aq [] [52,53,54] [(12,pU (fz .u64 p1 (IntKind.u64.wrap x6)))] (un 2 hu13 bj) (by kernel_rfl) (bZ ?_)))))
 refine e9 h ?_;clear h;intro w14 hw14 h
 refine af (cE 2 [55] [(56,pU (cD .u64 (fz .u64 p1 (IntKind.u64.wrap x6)) 32))] (by kernel_rfl) (bX rfl rfl rfl (bV rfl (.p (congrArg (fun z=>PV.v (Value.int .u64 z)) hw14))) (aF (bZ ?_))))
 refine e9 h ?_;clear h;intro w15 hw15 h
 refine af (cE 2 [57] [(58,pU (dq .u64 (fz .u64 p1 (IntKind.u64.wrap x6)) 4294967295))] (by kernel_rfl) (bX rfl rfl rfl (bV rfl (.p (congrArg (fun z=>PV.v (Value.int .u64 z)) hw15))) (aF (de h fun u16 hu16 h=>aq [] [59,60,61] [(15,pU (IntKind.u64.wrap (Int.tdiv w12 w8)))] (DE 2 hu16 bj) (by kernel_rfl) (bZ ?_)))))
 refine e9 h ?_;clear h;intro w17 hw17 h
 refine af (cE 5 [62,63,64,65] [(66,pU (IntKind.u64.wrap (w12 - (IntKind.u64.wrap ((IntKind.u64.wrap (Int.tdiv w12 w8))*w8)))))] (by kernel_rfl) (bX rfl rfl rfl (bV rfl (.p (congrArg (fun z=>PV.v (Value.int .u64 z)) hw17))) (aF (de h fun q22 hq22 h=>?_))))
 refine ar (Y:=Unit×Int) (fun (_,v20)=>[(2,pU (fz .u64 p2 (IntKind.u64.wrap x6))),(8,pU (IntKind.u64.wrap x6)),(9,pU w8),(10,pU w9),(11,pU w12),(13,pU w14),(14,pU w15),(15,pU v20)]) (fun (_,v20)=>[]) (fun (_,v20)=>q22=v20) ?_ ?_
 ·refine av ?_
  refine aC (Y:=Unit) (S:=Int×Int) _ hq22 (fun _ (v18,v19)=>[(2,pU (fz .u64 p2 (IntKind.u64.wrap x6))),(8,pU (IntKind.u64.wrap x6)),(9,pU w8),(10,pU w9),(11,pU w12),(13,pU w14),(14,pU w15),(15,pU v18),(16,pU v19)]) (fun _ (v18,v19)=>[]) () (sS rfl) bB ?_
  rintro _ ⟨v18,v19⟩ o τ hb21;(try dsimp only at hb21);dsimp only [az]
  refine cT (bF (rg 67 11) [(78,pB ((decide (4294967296≤v18))||(decide ((IntKind.u64.wrap ((IntKind.u64.wrap (4294967296*v19))+w14))<(IntKind.u64.wrap (v18*w9))))))] (by kernel_rfl) rfl hb21 (fun hc23 hb21=>?_) fun hc23 hb21=>?_)
  ·refine ah ?_
   refine aX (qU (ai [79,80] [(15,pU (IntKind.u64.wrap (v18 - 1)))] (by kernel_rfl) (bZ (ai [81,82,83] [(16,pU (IntKind.u64.wrap (v19+w8)))] (by kernel_rfl) (bZ (bF [84] [(85,pB (decide (4294967296≤(IntKind.u64.wrap (v19+w8)))))] (by kernel_rfl) rfl hb21 (fun hc24 hb21=>?_) fun hc24 hb21=>?_))))))
   ·refine aH ?_
    refine pZ rfl (my hb21 (fun ht=>aj rfl ?_))
    exact aw ((),(IntKind.u64.wrap (v18 - 1))) (r8 rfl) bB ht.symm
   refine ah ?_
   refine aG ?_
   exact aS hb21 () (sS rfl) bB
  refine aH ?_
  refine cq hb21 (fun ht=>aj rfl ?_)
  exact aw ((),v18) (r8 rfl) bB ht.symm
 rintro ⟨_,v20⟩ τ hz;(try dsimp only at hz);subst q22;(try dsimp only at h);dsimp only [az]
 refine ae ?_
 refine e9 h ?_;clear h;intro w25 hw25 h
 refine af (cE 8 (rg 86 7) [(93,pU (IntKind.u64.wrap ((IntKind.u64.wrap ((IntKind.u64.wrap (w12*4294967296))+w14)) - (IntKind.u64.wrap (v20*(fz .u64 p2 (IntKind.u64.wrap x6)))))))] (by kernel_rfl) (bX rfl rfl rfl (bV rfl (.p (congrArg (fun z=>PV.v (Value.int .u64 z)) hw25))) (aF (de h fun u26 hu26 h=>aq [] [94,95,96] [(18,pU (IntKind.u64.wrap (Int.tdiv w25 w8)))] (DE 2 hu26 bj) (by kernel_rfl) (bZ ?_)))))
 refine e9 h ?_;clear h;intro w27 hw27 h
 refine af (cE 5 [97,98,99,100] [(101,pU (IntKind.u64.wrap (w25 - (IntKind.u64.wrap ((IntKind.u64.wrap (Int.tdiv w25 w8))*w8)))))] (by kernel_rfl) (bX rfl rfl rfl (bV rfl (.p (congrArg (fun z=>PV.v (Value.int .u64 z)) hw27))) (aF (de h fun q32 hq32 h=>?_))))
 refine ar (Y:=Unit×Int) (fun (_,v30)=>[(2,pU (fz .u64 p2 (IntKind.u64.wrap x6))),(8,pU (IntKind.u64.wrap x6)),(14,pU w15),(15,pU v20),(17,pU w25),(18,pU v30)]) (fun (_,v30)=>[]) (fun (_,v30)=>q32=v30) ?_ ?_
 ·refine av ?_
  refine aC (Y:=Unit) (S:=Int×Int) _ hq32 (fun _ (v28,v29)=>[(2,pU (fz .u64 p2 (IntKind.u64.wrap x6))),(8,pU (IntKind.u64.wrap x6)),(9,pU w8),(10,pU w9),(14,pU w15),(15,pU v20),(16,pU v28),(17,pU w25),(18,pU v29)]) (fun _ (v28,v29)=>[]) () (sS rfl) bB ?_
  rintro _ ⟨v28,v29⟩ o τ hb31;(try dsimp only at hb31);dsimp only [az]
  refine cT (bF (rg 102 11) [(113,pB ((decide (4294967296≤v29))||(decide ((IntKind.u64.wrap ((IntKind.u64.wrap (4294967296*v28))+w15))<(IntKind.u64.wrap (v29*w9))))))] (by kernel_rfl) rfl hb31 (fun hc33 hb31=>?_) fun hc33 hb31=>?_)
  ·refine ah ?_
   refine aX (qU (ai [114,115] [(18,pU (IntKind.u64.wrap (v29 - 1)))] (by kernel_rfl) (bZ (ai [116,117,118] [(16,pU (IntKind.u64.wrap (v28+w8)))] (by kernel_rfl) (bZ (bF [119] [(120,pB (decide (4294967296≤(IntKind.u64.wrap (v28+w8)))))] (by kernel_rfl) rfl hb31 (fun hc34 hb31=>?_) fun hc34 hb31=>?_))))))
   ·refine aH ?_
    refine pZ rfl (my hb31 (fun ht=>aj rfl ?_))
    exact aw ((),(IntKind.u64.wrap (v29 - 1))) (p9 rfl) bB ht.symm
   refine ah ?_
   refine aG ?_
   exact aS hb31 () (sS rfl) bB
  refine aH ?_
  refine cq hb31 (fun ht=>aj rfl ?_)
  exact aw ((),v29) (p9 rfl) bB ht.symm
 rintro ⟨_,v30⟩ τ hz;(try dsimp only at hz);subst q32;(try dsimp only at h);dsimp only [az]
 refine ae (aa h fun u35 hu35 h=>?_)
 refine e9 h ?_;clear h;intro w36 hw36 h
 refine af (aU 14 [] [121,122,123,125,126,127,128,129,130,131,132,133] [(124,pU (IntKind.u64.wrap ((IntKind.u64.wrap (v20*4294967296))+v30))),(134,pU (cD .u64 (IntKind.u64.wrap ((IntKind.u64.wrap ((IntKind.u64.wrap (w25*4294967296))+w15)) - (IntKind.u64.wrap (v30*(fz .u64 p2 (IntKind.u64.wrap x6)))))) (IntKind.u64.wrap x6)))] (un 13 hu35 bj) (by kernel_rfl) (bX rfl rfl rfl (bV rfl (.p (congrArg (fun z=>PV.v (Value.int .u64 z)) hw36))) ?_))
 refine e9 h ?_;clear h;intro w37 hw37 h
 refine bX rfl rfl rfl (bV rfl (.p (congrArg (fun z=>PV.v (Value.int .u64 z)) hw37))) (aF (cX ?_))
 obtain rfl:=osi h
 exact aM (cd (aK rfl) (aK rfl)) bB ⟨rfl,rfl⟩
def ky (p0:Int) (p1:Int) (p2:Int) (p3:Int):Option Bool:=cond (p3 == 1) (some (decide (0<p1))) (cond (p3 == 2) (some (decide ((IntKind.u64.wrap (p2 - p1))≤p1))) (cond (p3 == 3) (some ((decide ((IntKind.u64.wrap (p2 - p1))<p1))||((p1 == (IntKind.u64.wrap (p2 - p1)))&&((Int.tmod p0 2) == 1)))) (some false)))
theorem uq {p0:Int} {p1:Int} {p2:Int} {p3:Int} {r:Bool}  (h:ky p0 p1 p2 p3=some r):PF 201 [pU p0,pU p1,pU p2,pI p3] (pB r):=by
 unfold ky at h
 refine bd ?_
 refine du Tryz.func201 rfl Tryz.ntmps201 Tryz.results201 rfl (aW [8] (by kernel_rfl) (bZ (ai [10,11,12] [(9,pU (IntKind.u64.wrap (p2 - p1)))] (by kernel_rfl) (cj (ak [(13,pI p3)] (by kernel_rfl) (aX (qU (bF [15] [(14,pB (p3 == 1))] (by kernel_rfl) rfl h (fun hc1 h=>?_) fun hc1 h=>?_))))))))
 ·refine ae ?_
  refine ai [16,17] [(8,pB (decide (0<p1)))] (by kernel_rfl) (cX (dH ?_))
  exact zz r h rfl
 refine ae ?_
 refine bF [19] [(18,pB (p3 == 2))] (by kernel_rfl) rfl h (fun hc2 h=>?_) fun hc2 h=>?_
 ·refine ae ?_
  refine ai [20,21,22] [(8,pB (decide ((IntKind.u64.wrap (p2 - p1))≤p1)))] (by kernel_rfl) (cX (dH ?_))
  exact zz r h rfl
 refine ae ?_
 refine bF [24] [(23,pB (p3 == 3))] (by kernel_rfl) rfl h (fun hc3 h=>?_) fun hc3 h=>?_
 ·refine ae ?_
  refine ai (rg 25 13) [(8,pB ((decide ((IntKind.u64.wrap (p2 - p1))<p1))||((p1 == (IntKind.u64.wrap (p2 - p1)))&&((Int.tmod p0 2) == 1))))] (by kernel_rfl) (cX (dH ?_))
  exact zz r h rfl
 refine ah ?_
 refine aG (bZ (dg [(8,pB false)] (by kernel_rfl) ?_))
 exact zz r h rfl
def oh (p0:Zo) (p1:Int) (p2:Int):Option (Int×Int):=cond (((p1 == 0)||(decide (p2<0)))||(decide (3<p2))) (some ((0:Int),(2:Int))) (cond (decide (p1≤p0.Hi)) (some ((0:Int),(3:Int))) ((iv p0.Hi p0.Lo p1).bind fun x4=>(ky x4.1 x4.2 p1 p2).bind fun x5=>cond (!x5) (some (x4.1,(0:Int))) (cond (x4.1 == 18446744073709551615) (some ((0:Int),(3:Int))) (some ((IntKind.u64.wrap (x4.1+1)),(0:Int))))))
theorem yN {p0:Zo} {p1:Int} {p2:Int} {r:(Int×Int)}  (h:oh p0 p1 p2=some r):PF 171 [.agg [pU p0.Hi,pU p0.Lo],pU p1,pI p2] (.tup [pU r.1,pI r.2]):=by
 unfold oh at h
 refine bd ?_
 refine du Tryz.func171 rfl Tryz.ntmps171 Tryz.results171 rfl (da rfl (bf (cs:=[pU p0.Hi,pU p0.Lo]) rfl rfl (fun b1=>ba [6,7] (by kernel_rfl) (cj (bF (rg 10 9) [(19,pB (((p1 == 0)||(decide (p2<0)))||(decide (3<p2))))] (by kernel_rfl) rfl h (fun hc2 h=>?_) fun hc2 h=>?_)))))
 ·refine ae ?_
  refine dg [(6,pU 0),(7,pI 2)] (by kernel_rfl) (al ?_)
  obtain rfl:=osi h
  exact aM (cd (aK rfl) (aK rfl)) bB ⟨rfl,rfl⟩
 refine ah ?_
 refine cj (aJ [0] [20,21,22] [(23,pB (decide (p1≤p0.Hi)))] (by kernel_rfl) (cR rfl h (fun hc3 h=>?_) fun hc3 h=>?_))
 ·refine ae ?_
  refine dg [(6,pU 0),(7,pI 3)] (by kernel_rfl) (al ?_)
  obtain rfl:=osi h
  exact aM (cd (aK rfl) (aK rfl)) bB ⟨rfl,rfl⟩
 refine ah ?_
 refine de h fun x4 hx4 h=>aq [0,0] ((rg 25 6)++[24,31,32]) [(8,pU x4.1),(9,pU x4.2)] (bg 5 (rI hx4) bj) (by kernel_rfl) (cj (aa h fun x5 hx5 h=>aq [] (rg 33 5) [(38,pB (!x5))] (bg 4 (uq hx5) bj) (by kernel_rfl) (cR rfl h (fun hc6 h=>?_) fun hc6 h=>?_)))
 ·refine ae ?_
  refine ai [39] [(6,pU x4.1),(7,pI 0)] (by kernel_rfl) (cX (al ?_))
  obtain rfl:=osi h
  exact aM (cd (aK rfl) (aK rfl)) bB ⟨rfl,rfl⟩
 refine ah ?_
 refine cj (bF [40] [(41,pB (x4.1 == 18446744073709551615))] (by kernel_rfl) rfl h (fun hc7 h=>?_) fun hc7 h=>?_)
 ·refine ae ?_
  refine dg [(6,pU 0),(7,pI 3)] (by kernel_rfl) (al ?_)
  obtain rfl:=osi h
  exact aM (cd (aK rfl) (aK rfl)) bB ⟨rfl,rfl⟩
 refine ah ?_
 refine bZ (ai [42,43] [(6,pU (IntKind.u64.wrap (x4.1+1))),(7,pI 0)] (by kernel_rfl) (cX ?_))
 obtain rfl:=osi h
 exact aM (cd (aK rfl) (aK rfl)) bB ⟨rfl,rfl⟩
def iw (p0:Int) (p1:Int):Option (Int×Int):=lb ((IntKind.u64.wrap ((dq .u64 p0 4294967295)*(dq .u64 p1 4294967295)))) (fun w1=>lb ((IntKind.u64.wrap ((IntKind.u64.wrap ((cD .u64 p0 32)*(dq .u64 p1 4294967295)))+(cD .u64 w1 32)))) (fun w2=>lb ((IntKind.u64.wrap ((dq .u64 w2 4294967295)+(IntKind.u64.wrap ((dq .u64 p0 4294967295)*(cD .u64 p1 32)))))) (fun w3=>lb ((IntKind.u64.wrap ((IntKind.u64.wrap ((IntKind.u64.wrap ((cD .u64 p0 32)*(cD .u64 p1 32)))+(cD .u64 w2 32)))+(cD .u64 w3 32)))) (fun w4=>some (w4,(IntKind.u64.wrap (p0*p1)))))))
theorem rJ {p0:Int} {p1:Int} {r:(Int×Int)}  (h:iw p0 p1=some r):PF 202 [pU p0,pU p1] (.tup [pU r.1,pU r.2]):=by
 unfold iw at h
 refine bd ?_
 refine du Tryz.func202 rfl Tryz.ntmps202 Tryz.results202 rfl (aW [4,5] (by kernel_rfl) (bZ (ai [14,15] [(6,pU (dq .u64 p0 4294967295))] (by kernel_rfl) (bZ (ai [16,17] [(7,pU (cD .u64 p0 32))] (by kernel_rfl) (bZ (ai [18,19] [(8,pU (dq .u64 p1 4294967295))] (by kernel_rfl) (bZ (ai [20,21] [(9,pU (cD .u64 p1 32))] (by kernel_rfl) (bZ ?_))))))))))
 refine e9 h ?_;clear h;intro w1 hw1 h
 refine af (cE 3 [22,23] [(24,pU (IntKind.u64.wrap ((dq .u64 p0 4294967295)*(dq .u64 p1 4294967295))))] (by kernel_rfl) (bX rfl rfl rfl (bV rfl (.p (congrArg (fun z=>PV.v (Value.int .u64 z)) hw1))) (aF (bZ ?_))))
 refine e9 h ?_;clear h;intro w2 hw2 h
 refine af (cE 6 (rg 25 5) [(30,pU (IntKind.u64.wrap ((IntKind.u64.wrap ((cD .u64 p0 32)*(dq .u64 p1 4294967295)))+(cD .u64 w1 32))))] (by kernel_rfl) (bX rfl rfl rfl (bV rfl (.p (congrArg (fun z=>PV.v (Value.int .u64 z)) hw2))) (aF (bZ (ai [31,32] [(12,pU (dq .u64 w2 4294967295))] (by kernel_rfl) (bZ (ai [33,34] [(13,pU (cD .u64 w2 32))] (by kernel_rfl) (bZ ?_))))))))
 refine e9 h ?_;clear h;intro w3 hw3 h
 refine af (cE 5 [35,36,37,38] [(39,pU (IntKind.u64.wrap ((dq .u64 w2 4294967295)+(IntKind.u64.wrap ((dq .u64 p0 4294967295)*(cD .u64 p1 32))))))] (by kernel_rfl) (bX rfl rfl rfl (bV rfl (.p (congrArg (fun z=>PV.v (Value.int .u64 z)) hw3))) (aF (bZ ?_))))
 refine e9 h ?_;clear h;intro w4 hw4 h
 refine af (cE 8 (rg 40 7) [(47,pU (IntKind.u64.wrap ((IntKind.u64.wrap ((IntKind.u64.wrap ((cD .u64 p0 32)*(cD .u64 p1 32)))+(cD .u64 w2 32)))+(cD .u64 w3 32))))] (by kernel_rfl) (bX rfl rfl rfl (bV rfl (.p (congrArg (fun z=>PV.v (Value.int .u64 z)) hw4))) (aF (bZ (ai [48,49,50] [(5,pU (IntKind.u64.wrap (p0*p1)))] (by kernel_rfl) (cX ?_))))))
 obtain rfl:=osi h
 exact aM (cd (aK rfl) (aK rfl)) bB ⟨rfl,rfl⟩
def jV (p0:Int) (p1:Int):Option Zo:=(iw p0 p1).bind fun x2=>some (⟨x2.1,x2.2⟩:Zo)
theorem oR {p0:Int} {p1:Int} {r:Zo}  (h:jV p0 p1=some r):PF 172 [pU p0,pU p1] (.agg [pU r.Hi,pU r.Lo]):=by
 unfold jV at h
 refine bd ?_
 refine du Tryz.func172 rfl Tryz.ntmps172 Tryz.results172 rfl (da rfl (aL (cs:=[pU 0,pU 0]) rfl rfl rfl rfl (fun b1=>aF (de h fun x2 hx2 h=>aq [] [8,9,10,7,11,12] [(5,pU x2.1),(6,pU x2.2)] (bg 2 (rJ hx2) bj) (by kernel_rfl) (bZ (af (cE 3 [13,14] [(15,.agg [pU x2.1,pU x2.2])] (by kernel_rfl) (aP rfl rfl (am (vs:=[pU x2.1,pU x2.2]) rfl rfl rfl rfl rfl ce sQ (aF (cX ?_)))))))))))
 obtain rfl:=osi h
 exact aM (dp (dC rfl gb rfl)) bB ⟨rfl,rfl⟩
def mD (p0:Int) (p1:Int) (p2:Int) (p3:Int):Option (Int×Int):=(jV p0 p1).bind fun x1=>(oh x1 p2 p3).bind fun x2=>some (x2.1,x2.2)
theorem ur {p0:Int} {p1:Int} {p2:Int} {p3:Int} {r:(Int×Int)}  (h:mD p0 p1 p2 p3=some r):PF 141 [pU p0,pU p1,pU p2,pI p3] (.tup [pU r.1,pI r.2]):=by
 unfold mD at h
 refine bd ?_
 refine du Tryz.func141 rfl Tryz.ntmps141 Tryz.results141 rfl (aW [8,9] (by kernel_rfl) (de h fun x1 hx1 h=>aa h fun x2 hx2 h=>aq [] (rg 10 8) [(8,pU x2.1),(9,pI x2.2)] (bg 2 (oR hx1) (bg 5 (yN hx2) bj)) (by kernel_rfl) (cX ?_)))
 obtain rfl:=osi h
 exact aM (cd (aK rfl) (aK rfl)) bB ⟨rfl,rfl⟩
def fR (p0:Int) (p1:Int) (p2:Int):Option Int:=(mD (IntKind.u64.wrap p0) (IntKind.u64.wrap p1) (IntKind.u64.wrap p2) 1).bind fun x1=>cond ((x1.2 != 0)||(decide (1000000000000<x1.1))) (some (1000000000000:Int)) (some (IntKind.i64.wrap x1.1))
theorem pK {p0:Int} {p1:Int} {p2:Int} {r:Int}  (h:fR p0 p1 p2=some r):PF 99 [pI p0,pI p1,pI p2] (pI r):=by
 unfold fR at h
 refine bd ?_
 refine du Tryz.func99 rfl Tryz.ntmps99 Tryz.results99 rfl (aW [6] (by kernel_rfl) (de h fun x1 hx1 h=>aq [] ((rg 10 7)++[9,17,18]) [(7,pU x1.1),(8,pI x1.2)] (bg 6 (ur hx1) bj) (by kernel_rfl) (cj (bF (rg 19 5) [(24,pB ((x1.2 != 0)||(decide (1000000000000<x1.1))))] (by kernel_rfl) rfl h (fun hc2 h=>?_) fun hc2 h=>?_))))
 ·refine ae ?_
  refine dg [(6,pI 1000000000000)] (by kernel_rfl) (al ?_)
  exact zz r h rfl
 refine ah ?_
 refine bZ (ai [25,26] [(6,pI (IntKind.i64.wrap x1.1))] (by kernel_rfl) (cX ?_))
 exact zz r h rfl
def kZ (p0:(List Int)):Option Int:=(aT (S:=Int) (T:=(Unit)⊕(_)) (fun v1=>cond (decide (v1<(p0.length:Int))) ((idx p0 v1).bind fun m5=>cond (m5 != 0) (some (.inr (.inr m5))) (some (.inl (IntKind.i64.wrap (v1+1))))) (some (.inr (.inl ())))) FUEL 0).bind fun q=>match q with | .inl _=>some (0:Int) | .inr e=>some e
theorem rl {p0:(List Int)} {r:Int}  (h:kZ p0=some r):PF 102 [pL eI p0] (pI r):=by
 unfold kZ at h
 refine bd ?_
 refine du Tryz.func102 rfl Tryz.ntmps102 Tryz.results102 rfl (aW [2] (by kernel_rfl) (bZ (ak [(3,pI 0)] (by kernel_rfl) (cj (ak [(6,pL eI p0),(7,pI (p0.length:Int)),(8,pI 0)] (by kernel_rfl) (ft h fun q3 hq3 h=>?_))))))
 refine ar (Y:=Unit×Unit) (fun (_,_)=>[(3,pI 0)]) (fun (_,_)=>[]) (fun (_,_)=>q3=Sum.inl ()) ?_ ?_
 ·refine av ?_
  refine aC (Y:=Unit) (S:=Int) _ hq3 (fun _ v1=>[(3,pI 0),(6,pL eI p0),(7,pI (p0.length:Int)),(8,pI v1)]) (fun _ v1=>[]) () (iR rfl) bB ?_
  rintro _ v1 o τ hb2;(try dsimp only at hb2);dsimp only [az]
  refine ae (ak [(9,pB (decide (v1<(p0.length:Int))))] (by kernel_rfl) (bZ (kq rfl hb2 (fun hc4 hb2=>?_) fun hc4 hb2=>?_)))
  ·refine ah ?_
   refine dJ (aa hb2 fun m5 hm5 hb2=>aq [] [10,11] [(5,pI m5)] (cL 0 eI hm5 bj) (by kernel_rfl) (bZ (bF [12,13] [(14,pB (m5 != 0))] (by kernel_rfl) rfl hb2 (fun hc6 hb2=>?_) fun hc6 hb2=>?_)))
   ·refine ae ?_
    refine ai [15] [(2,pI m5)] (by kernel_rfl) (cX (dH ?_))
    refine au hb2 (fun ht=>?_);subst ht
    refine cP ?_
    exact zz r h rfl
   refine ah ?_
   refine dI (ai [16] [(8,pI (IntKind.i64.wrap (v1+1)))] (by kernel_rfl) ?_)
   exact aS hb2 () (iR rfl) bB
  refine aH ?_
  refine cq hb2 (fun ht=>aj rfl ?_)
  exact aw ((),()) (rD rfl) bB ht.symm
 rintro ⟨_,_⟩ τ hz;(try dsimp only at hz);subst q3;(try dsimp only at h);dsimp only [az]
 refine ae (ai [17] [(2,pI 0)] (by kernel_rfl) (cX ?_))
 exact zz r h rfl
def fa (p0:Za) (p1:Za):Option Int:=(dQ p0.Product p1.Product).bind fun x3=>(dQ p0.Agreement p1.Agreement).bind fun x4=>(kZ [x3,x4]).bind fun x6=>some x6
theorem mE {p0:Za} {p1:Za} {r:Int}  (h:fa p0 p1=some r):PF 50 [.agg [pI p0.Product,pI p0.Agreement],.agg [pI p1.Product,pI p1.Agreement]] (pI r):=by
 unfold fa at h
 refine bd ?_
 refine du Tryz.func50 rfl Tryz.ntmps50 Tryz.results50 rfl (da rfl (bf (cs:=[pI p0.Product,pI p0.Agreement]) rfl rfl (fun b1=>ap rfl (bf (cs:=[pI p1.Product,pI p1.Agreement]) rfl rfl (fun b2=>ba [4] (by kernel_rfl) (bZ (bi (ρd:=[]) [(0,0),(1,0),(2,0),(3,0),(5,0),(6,0),(7,0),(8,0),(4,1),(9,1),(10,1),(11,1),(12,0)] _ (List.Perm.refl _) (by kernel_rfl) rfl (aa h fun x3 hx3 h=>aa h fun x4 hx4 h=>bt 10 [1,0,1,0] [5,6,7,8,10,11,12,13] [(9,pI x3),(14,pI x4)] (bg 8 (fP hx3) (bg 9 (fP hx4) bj)) (by kernel_rfl) ?_))))))))
 refine iT rfl rfl rfl (pl_fz (bN rfl rfl rfl rfl rfl (ij rfl (ij rfl kf)) rfl rfl rfl rfl (fun b5=>⟨_,_,_,_,_,_,_,rfl,by (repeat (first | exact aO | apply aB)),?_⟩)))
 refine aa h fun x6 hx6 h=>bt 2 [] [16] [(4,pI x6)] (bg 0 (rl hx6) bj) (by kernel_rfl) (bA (cX ?_))
 exact zz r h rfl
def bC (p0:(List Za)):Option (List Za):=cond (decide (((p0.length:Nat):Int)<2)) (some p0) ((aT (S:=Int) (T:=(Unit)⊕(_)) (fun v2=>cond (decide (v2<((p0.length:Nat):Int))) ((idx p0 v2).bind fun m7=>(idx p0 (IntKind.i64.wrap (v2 - 1))).bind fun m8=>cond (Za.eqb m7 m8) ((sub p0 v2 (p0.length:Int)).bind fun l10=>(aT (S:=(List Za)×Int×Int) (T:=((List Za)×Int)) (fun (l12,v13,v14)=>cond (decide (v14<((p0.length - v2.toNat:Nat):Int))) (((lF v14).bind fun u25=>(idx l12 (v2+v14)).bind fun m26=>(lF (IntKind.i64.wrap (v14 - 1))).bind fun u27=>(idx l12 (v2+(IntKind.i64.wrap (v14 - 1)))).bind fun m28=>cond (!(Za.eqb m26 m28)) ((lF v14).bind fun u30=>(idx l12 (v2+v14)).bind fun m31=>(idx l12 v13).bind fun m32=>some ((l12.set v13.toNat m31),(IntKind.i64.wrap (v13+1)))) (some (l12,v13))).bind fun (l22,v23)=>some (.inl (l22,v23,(IntKind.i64.wrap (v14+1))))) (some (.inr (l12,v13)))) FUEL (p0,v2,1)).bind fun (l16,v17)=>(sub l16 v17 (l16.length:Int)).bind fun l34=>(sub (List.take v17.toNat l16++List.replicate (p0.length - v17.toNat) (⟨(0:Int),(0:Int)⟩:Za)) 0 v17).bind fun l35=>some (.inr (.inr l35))) (some (.inl (IntKind.i64.wrap (v2+1))))) (some (.inr (.inl ())))) FUEL 1).bind fun q=>match q with | .inl _=>some p0 | .inr e=>some e)
theorem ga {p0:(List Za)} {a_0:Option Addr}  {n_0:Nat}  {c_0:Nat} {r:(List Za)}  (h:bC p0=some r):PCall 51 [.v (.slice a_0 n_0 c_0)] [PRes.row a_0 n_0 c_0 28 2 (List.map Za.enc p0)] (fun pv ρ'=>∃ a c,pv=.v (.slice a r.length c)∧ρ'=[PRes.row a r.length c 28 2 (List.map Za.enc r)]):=by
 unfold bC at h
 refine oN Tryz.func51 rfl Tryz.ntmps51 Tryz.results51 rfl ?_
 refine tR (enc:=Za.enc) (xs:=p0) (a:=a_0) gb (fun hl ha=>?_);subst hl;clear ha
 refine ae (aW [2] (by kernel_rfl) (cj (bF [6,7] [(8,pB (decide (((p0.length:Nat):Int)<2)))] (by kernel_rfl) rfl h (fun hc1 h=>?_) fun hc1 h=>?_)))
 ·refine ae ?_
  refine ai [9] [(2,pO a_0 p0.length c_0)] (by kernel_rfl) (cX (al ?_))
  obtain rfl:=osi h
  exact aM (dp (aK rfl)) cK ⟨_,_,rfl,rfl⟩
 refine ah ?_
 refine cj (ak [(3,pI 1)] (by kernel_rfl) (ft h fun q5 hq5 h=>?_))
 refine ar (Y:=Unit×Unit) (fun (_,_)=>[(0,pO a_0 p0.length c_0)]) (fun (_,_)=>[PRes.row a_0 p0.length c_0 28 2 (List.map Za.enc p0)]) (fun (_,_)=>q5=Sum.inl ()) ?_ ?_
 ·refine av ?_
  refine aC (Y:=Unit) (S:=Int) _ hq5 (fun _ v2=>[(0,pO a_0 p0.length c_0),(3,pI v2)]) (fun _ v2=>[PRes.row a_0 p0.length c_0 28 2 (List.map Za.enc p0)]) () (mq rfl) cK ?_
  rintro _ v2 o τ hb4;(try dsimp only at hb4);dsimp only [az]
  refine cT (bF [10,11,12] [(13,pB (decide (v2<((p0.length:Nat):Int))))] (by kernel_rfl) rfl hb4 (fun hc6 hb4=>?_) fun hc6 hb4=>?_)
  ·refine ah ?_
   refine dJ (bi (ρd:=[]) [(0,0),(1,0),(2,0),(3,0),(4,0),(5,0),(6,0),(7,0),(8,0),(9,0)] _ (List.Perm.refl _) (by kernel_rfl) rfl (aa hb4 fun m7 hm7 hb4=>iW 2 [(16,pO a_0 p0.length c_0),(17,pI v2)] (by kernel_rfl) (lE rfl rfl rfl (eA (enc:=Za.enc) (xs:=p0) rfl rfl rfl (.p rfl) gb (.p rfl) (fun _=>hm7)) (lE rfl rfl rfl (dY (sz:=2) (p:=.agg [pI m7.Product,pI m7.Agreement]) (enc:=Za.enc) (xs:=p0) (a:=a_0) v2 0 m7 rfl (.p rfl) rfl gb (fun _=>hm7) rfl) (aa hb4 fun m8 hm8 hb4=>mZ 3 [21] [(20,pO a_0 p0.length c_0),(22,pI (IntKind.i64.wrap (v2 - 1)))] (by kernel_rfl) (lE rfl rfl rfl (eA (enc:=Za.enc) (xs:=p0) rfl rfl rfl (.p rfl) gb (.p rfl) (fun _=>hm8)) (lE rfl rfl rfl (dY (sz:=2) (p:=.agg [pI m8.Product,pI m8.Agreement]) (enc:=Za.enc) (xs:=p0) (a:=a_0) (IntKind.i64.wrap (v2 - 1)) 0 m8 rfl (.p rfl) rfl gb (fun _=>hm8) rfl) (bt 1 [] [] [(25,pB (Za.eqb m7 m8))] (DF 0 Za.eqok28 bj) (by kernel_rfl) (bA (cR rfl hb4 (fun hc9 hb4=>?_) fun hc9 hb4=>?_))))))))))
   ·refine ae ?_
    refine aa hb4 fun l10 hl10 hb4=>af (aD 2 [(26,pO a_0 p0.length c_0),(27,pI v2)] (by kernel_rfl) (bX rfl rfl rfl (oP (enc:=Za.enc) (xs:=p0) rfl rfl rfl rfl rfl gb hl10) (aN [(4,pQ a_0 p0.length c_0 v2.toNat 2)] (by kernel_rfl) (cj (ak [(5,pI 1)] (by kernel_rfl) (ft hb4 fun q19 hq19 hb4=>?_))))))
    refine ar (Y:=Unit×((List Za)×Int)) (fun (_,(l16,v17))=>[(0,pO a_0 p0.length c_0),(3,pI v17)]) (fun (_,(l16,v17))=>[PRes.row a_0 p0.length c_0 28 2 (List.map Za.enc l16)]) (fun (_,(l16,v17))=>q19=(l16,v17)) ?_ ?_
    ·refine av ?_
     refine aC (Y:=Unit) (S:=(List Za)×Int×Int) _ hq19 (fun _ (l12,v13,v14)=>[(0,pO a_0 p0.length c_0),(3,pI v13),(4,pQ a_0 p0.length c_0 v2.toNat 2),(5,pI v14)]) (fun _ (l12,v13,v14)=>[PRes.row a_0 p0.length c_0 28 2 (List.map Za.enc l12)]) () (iR rfl) cK ?_
     rintro _ ⟨l12,v13,v14⟩ o τ hb18;(try dsimp only at hb18);dsimp only [az]
     refine cT (bF [29,30,31] [(32,pB (decide (v14<((p0.length - v2.toNat:Nat):Int))))] (by kernel_rfl) rfl hb18 (fun hc20 hb18=>?_) fun hc20 hb18=>?_)
     ·refine ah ?_
      refine de hb18 fun q24 hq24 hb18=>?_
      refine ar (Y:=Unit×((List Za)×Int)) (fun (_,(l22,v23))=>[(0,pO a_0 p0.length c_0),(3,pI v23),(4,pQ a_0 p0.length c_0 v2.toNat 2),(5,pI v14)]) (fun (_,(l22,v23))=>[PRes.row a_0 p0.length c_0 28 2 (List.map Za.enc l22)]) (fun (_,(l22,v23))=>q24=(l22,v23)) ?_ ?_
      ·skip
       refine qU (bi (ρd:=[]) [(0,0),(1,0),(2,0),(3,0),(4,0),(5,0),(6,0),(7,0),(8,0),(9,0)] _ (List.Perm.refl _) (by kernel_rfl) rfl (aa hq24 fun u25 hu25 hq24=>aa hq24 fun m26 hm26 hq24=>iW 2 [(35,pQ a_0 p0.length c_0 v2.toNat 2),(36,pI v14)] (by kernel_rfl) (lE rfl rfl rfl (kW (enc:=Za.enc) (xs:=l12) (i:=v2) rfl rfl rfl rfl rfl (ir hl10).1.1 (mW hu25) gb hm26) (lE rfl rfl rfl (dY (sz:=2) (p:=.agg [pI m26.Product,pI m26.Agreement]) (enc:=Za.enc) (xs:=l12) (a:=a_0) (v2+v14) 0 m26 rfl (.p rfl) rfl gb (fun _=>hm26) rfl) (aa hq24 fun u27 hu27 hq24=>aa hq24 fun m28 hm28 hq24=>mZ 3 [40] [(39,pQ a_0 p0.length c_0 v2.toNat 2),(41,pI (IntKind.i64.wrap (v14 - 1)))] (by kernel_rfl) (lE rfl rfl rfl (kW (enc:=Za.enc) (xs:=l12) (i:=v2) rfl rfl rfl rfl rfl (ir hl10).1.1 (mW hu27) gb hm28) (lE rfl rfl rfl (dY (sz:=2) (p:=.agg [pI m28.Product,pI m28.Agreement]) (enc:=Za.enc) (xs:=l12) (a:=a_0) (v2+(IntKind.i64.wrap (v14 - 1))) 0 m28 rfl (.p rfl) rfl gb (fun _=>hm28) rfl) (bt 1 [] [] [(44,pB (!(Za.eqb m26 m28)))] (DF 0 Za.eqok28 bj) (by kernel_rfl) (bA (cR rfl hq24 (fun hc29 hq24=>?_) fun hc29 hq24=>?_))))))))))
       ·refine ae ?_
        refine aa hq24 fun u30 hu30 hq24=>aa hq24 fun m31 hm31 hq24=>af (aD 4 [(45,pO a_0 p0.length c_0),(46,pI v13),(47,pQ a_0 p0.length c_0 v2.toNat 2),(48,pI v14)] (by kernel_rfl) (bX rfl rfl rfl (kW (enc:=Za.enc) (xs:=l12) (i:=v2) rfl rfl rfl rfl rfl (ir hl10).1.1 (mW hu30) gb hm31) (bX rfl rfl rfl (dY (sz:=2) (p:=.agg [pI m31.Product,pI m31.Agreement]) (enc:=Za.enc) (xs:=l12) (a:=a_0) (v2+v14) 0 m31 rfl (.p rfl) rfl gb (fun _=>hm31) rfl) (aa hq24 fun m32 hm32 hq24=>bX rfl rfl rfl (eA (enc:=Za.enc) (xs:=l12) rfl rfl rfl (.p rfl) gb (.p rfl) (fun _=>hm32)) (aP rfl rfl (mV (enc:=Za.enc) (xs:=l12) (a:=a_0) v13 0 m32 m31 rfl rfl rfl rfl (fun _=>rfl) rfl rfl hm32 sQ ce (aF (aX (ai [52,53] [(3,pI (IntKind.i64.wrap (v13+1)))] (by kernel_rfl) (aG ?_))))))))))
        obtain rfl:=osi hq24
        exact aw ((),((l12.set v13.toNat m31),(IntKind.i64.wrap (v13+1)))) (iR rfl) cK rfl
       refine ah ?_
       refine aG ?_
       obtain rfl:=osi hq24
       exact aw ((),(l12,v13)) (iR rfl) cK rfl
      rintro ⟨_,⟨l22,v23⟩⟩ τ hz;(try dsimp only at hz);subst q24;(try dsimp only at hb18);dsimp only [az]
      refine ai [33,34] [(5,pI (IntKind.i64.wrap (v14+1)))] (by kernel_rfl) ?_
      exact aS hb18 () (iR rfl) cK
     refine aH ?_
     refine cq hb18 (fun ht=>aj rfl ?_)
     exact aw ((),(l12,v13)) (mq rfl) cK ht.symm
    rintro ⟨_,⟨l16,v17⟩⟩ τ hz;(try dsimp only at hz);subst q19;(try dsimp only at hb4);dsimp only [az]
    refine ae (aa hb4 fun l34 hl34 hb4=>af (aD 2 [(54,pO a_0 p0.length c_0),(55,pI v17)] (by kernel_rfl) (bX rfl rfl rfl (oP (enc:=Za.enc) (xs:=l16) rfl rfl rfl rfl rfl gb hl34) (aP rfl rfl (xF (enc:=Za.enc) (xs:=l16) (z0:=(⟨(0:Int),(0:Int)⟩:Za)) (i:=v17) rfl rfl rfl rfl hl34 rfl rfl rfl rfl ce (aF (de hb4 fun l35 hl35 hb4=>af (aD 2 [(57,pO a_0 p0.length c_0),(58,pI v17)] (by kernel_rfl) ?_))))))))
    refine ap rfl (xE (enc:=Za.enc) (xs:=(List.take v17.toNat l16++List.replicate (p0.length - v17.toNat) (⟨(0:Int),(0:Int)⟩:Za))) rfl rfl rfl rfl rfl (by exact aO) hl35 ?_)
    refine aN [(2,pO a_0 l35.length c_0)] (by kernel_rfl) (cX (dH ?_))
    refine au hb4 (fun ht=>?_);subst ht
    refine cP ?_
    obtain rfl:=osi h
    exact aM (dp (aK rfl)) cK ⟨_,_,rfl,rfl⟩
   refine ah ?_
   refine dI (ai [14,15] [(3,pI (IntKind.i64.wrap (v2+1)))] (by kernel_rfl) ?_)
   exact aS hb4 () (mq rfl) cK
  refine aH ?_
  refine cq hb4 (fun ht=>aj rfl ?_)
  exact aw ((),()) (rD rfl) cK ht.symm
 rintro ⟨_,_⟩ τ hz;(try dsimp only at hz);subst q5;(try dsimp only at h);dsimp only [az]
 refine ae (ai [60] [(2,pO a_0 p0.length c_0)] (by kernel_rfl) (cX ?_))
 obtain rfl:=osi h
 exact aM (dp (aK rfl)) cK ⟨_,_,rfl,rfl⟩
def gP (p0:Zq):Option Zk:=some p0.use
theorem ng {p0:Zq} {r:Zk}  (h:gP p0=some r):PF 240 [.agg [pS p0.use.Code,pI p0.use.Value,pB p0.use.Originating,pI p0.premise.Product,pI p0.premise.Agreement]] (.agg [pS r.Code,pI r.Value,pB r.Originating]):=by
 unfold gP at h
 refine bd ?_
 refine du Tryz.func240 rfl Tryz.ntmps240 Tryz.results240 rfl (da rfl (bf (cs:=[pS p0.use.Code,pI p0.use.Value,pB p0.use.Originating,pI p0.premise.Product,pI p0.premise.Agreement]) rfl rfl (fun b1=>ap rfl (aL (cs:=[pS ByteArray.empty,pI 0,pB false]) rfl rfl rfl rfl (fun b2=>aF (bZ (af (cO 2 [1] [3] [(4,.agg [pS p0.use.Code,pI p0.use.Value,pB p0.use.Originating])] (by kernel_rfl) (aP rfl rfl (am (vs:=[pS p0.use.Code,pI p0.use.Value,pB p0.use.Originating]) rfl rfl rfl rfl rfl ce zl3 (aF (cX ?_))))))))))))
 obtain rfl:=osi h
 exact aM (dp (dC rfl gb rfl)) bB ⟨rfl,rfl⟩
def ib (p0:Zt):Option Zk:=some p0.use
theorem nv {p0:Zt} {r:Zk}  (h:ib p0=some r):PF 241 [.agg [pS p0.use.Code,pI p0.use.Value,pB p0.use.Originating]] (.agg [pS r.Code,pI r.Value,pB r.Originating]):=by
 unfold ib at h
 refine bd ?_
 refine du Tryz.func241 rfl Tryz.ntmps241 Tryz.results241 rfl (da rfl (bf (cs:=[pS p0.use.Code,pI p0.use.Value,pB p0.use.Originating]) rfl rfl (fun b1=>ap rfl (aL (cs:=[pS ByteArray.empty,pI 0,pB false]) rfl rfl rfl rfl (fun b2=>aF (bZ (af (cO 2 [1] [3] [(4,.agg [pS p0.use.Code,pI p0.use.Value,pB p0.use.Originating])] (by kernel_rfl) (aP rfl rfl (am (vs:=[pS p0.use.Code,pI p0.use.Value,pB p0.use.Originating]) rfl rfl rfl rfl rfl ce zl3 (aF (cX ?_))))))))))))
 obtain rfl:=osi h
 exact aM (dp (dC rfl gb rfl)) bB ⟨rfl,rfl⟩
def Icumulation_supply_input (x:Ze)  : Option Zk:=match x with | .plain_ a=>ib a  | .proved_ a=>gP a
theorem Icumulation_supply_input_ok {x:Ze}  {w:Zk} (h:Icumulation_supply_input x  = some w):PFI x.pv "customs/cumulation.input" [] (.agg [pS w.Code,pI w.Value,pB w.Originating]):=by
 cases x with
 | plain_ a=>exact vw ⟨fun _ _=>by kernel_rfl⟩ (nv h)
 | proved_ a=>exact vw ⟨fun _ _=>by kernel_rfl⟩ (ng h)
def dV (p0:(List Zc)) (p1:Int):Option (Zc×Bool):=(aT (S:=Int) (T:=(Unit)⊕(_)) (fun v2=>cond (decide (v2<(p0.length:Int))) ((idx p0 v2).bind fun m6=>cond (m6.ID == p1) ((idx p0 v2).bind fun m8=>some (.inr (.inr (m8,true)))) (some (.inl (IntKind.i64.wrap (v2+1))))) (some (.inr (.inl ())))) FUEL 0).bind fun q=>match q with | .inl _=>some ((⟨0,ByteArray.empty,ByteArray.empty,0,false,[],[]⟩:Zc),false) | .inr e=>some e
theorem iH {p0:(List Zc)} {p1:Int} {r:(Zc×Bool)}  (h:dV p0 p1=some r):PF 53 [pL Zc.enc p0,pI p1] (.tup [.agg (aI r.1),pB r.2]):=by
 unfold dV at h
 refine bd ?_
 refine du Tryz.func53 rfl Tryz.ntmps53 Tryz.results53 rfl (da rfl (aL (cs:=[pI 0,pS ByteArray.empty,pS ByteArray.empty,pI 0,pB false,pN,pN]) rfl rfl rfl rfl (fun b1=>ba [5] (by kernel_rfl) (cj (ak [(6,pI 0)] (by kernel_rfl) (ft h fun q4 hq4 h=>?_))))))
 refine ar (Y:=Unit×Unit) (fun (_,_)=>[(4,pP b1 0)]) (fun (_,_)=>[PRes.b b1 76 [pI 0,pS ByteArray.empty,pS ByteArray.empty,pI 0,pB false,pN,pN]]) (fun (_,_)=>q4=Sum.inl ()) ?_ ?_
 ·refine av ?_
  refine aC (Y:=Unit) (S:=Int) _ hq4 (fun _ v2=>[(0,pL Zc.enc p0),(1,pI p1),(4,pP b1 0),(6,pI v2)]) (fun _ v2=>[PRes.b b1 76 [pI 0,pS ByteArray.empty,pS ByteArray.empty,pI 0,pB false,pN,pN]]) () (iR rfl) cK ?_
  rintro _ v2 o τ hb3;(try dsimp only at hb3);dsimp only [az]
  refine cT (bF [7,8,9] [(10,pB (decide (v2<(p0.length:Int))))] (by kernel_rfl) rfl hb3 (fun hc5 hb3=>?_) fun hc5 hb3=>?_)
  ·refine ah ?_
   refine dJ (aa hb3 fun m6 hm6 hb3=>aq [] (rg 13 6) [(19,pB (m6.ID == p1))] (cL 2 Zc.enc hm6 bj) (by kernel_rfl) (cR rfl hb3 (fun hc7 hb3=>?_) fun hc7 hb3=>?_))
   ·refine ae ?_
    refine aa hb3 fun m8 hm8 hb3=>af (aU 4 [] [20,21,22] [(23,.agg (aI m8))] (cL 2 Zc.enc hm8 bj) (by kernel_rfl) (aP rfl rfl (am (vs:=(aI m8)) rfl rfl rfl rfl rfl ce mX (aN [(5,pB true)] (by kernel_rfl) (cX (dH ?_))))))
    refine au hb3 (fun ht=>?_);subst ht
    refine cP ?_
    obtain rfl:=osi h
    exact aM (cd (dC rfl gb rfl) (aK rfl)) bB ⟨rfl,rfl⟩
   refine ah ?_
   refine dI (ai [11,12] [(6,pI (IntKind.i64.wrap (v2+1)))] (by kernel_rfl) ?_)
   exact aS hb3 () (iR rfl) cK
  refine aH ?_
  refine cq hb3 (fun ht=>aj rfl ?_)
  exact aw ((),()) (rD rfl) cK ht.symm
 rintro ⟨_,_⟩ τ hz;(try dsimp only at hz);subst q4;(try dsimp only at h);dsimp only [az]
 refine ae (af (aD 1 [(24,.agg [pI 0,pS ByteArray.empty,pS ByteArray.empty,pI 0,pB false,pN,pN])] (by kernel_rfl) (aP rfl rfl (am (vs:=[pI 0,pS ByteArray.empty,pS ByteArray.empty,pI 0,pB false,pN,pN]) rfl rfl rfl rfl rfl ce mX (aN [(5,pB false)] (by kernel_rfl) (aX (cS (k:=5) (b:=b1) rfl ce (cS (k:=6) (b:=b1) rfl ce (bR ?_)))))))))
 obtain rfl:=osi h
 exact aM (cd (dC rfl gb rfl) (aK rfl)) bB ⟨rfl,rfl⟩
def dT (p0:(List Zb)) (p1:Int):Option (Zb×Bool):=(aT (S:=Int) (T:=(Unit)⊕(_)) (fun v2=>cond (decide (v2<(p0.length:Int))) ((idx p0 v2).bind fun m6=>cond (m6.ID == p1) ((idx p0 v2).bind fun m8=>some (.inr (.inr (m8,true)))) (some (.inl (IntKind.i64.wrap (v2+1))))) (some (.inr (.inl ())))) FUEL 0).bind fun q=>match q with | .inl _=>some ((⟨0,0,[],[]⟩:Zb),false) | .inr e=>some e
theorem ic {p0:(List Zb)} {p1:Int} {r:(Zb×Bool)}  (h:dT p0 p1=some r):PF 54 [pL Zb.enc p0,pI p1] (.tup [.agg (aA r.1),pB r.2]):=by
 unfold dT at h
 refine bd ?_
 refine du Tryz.func54 rfl Tryz.ntmps54 Tryz.results54 rfl (da rfl (aL (cs:=[pI 0,pI 0,pN,pN]) rfl rfl rfl rfl (fun b1=>ba [5] (by kernel_rfl) (cj (ak [(6,pI 0)] (by kernel_rfl) (ft h fun q4 hq4 h=>?_))))))
 refine ar (Y:=Unit×Unit) (fun (_,_)=>[(4,pP b1 0)]) (fun (_,_)=>[PRes.b b1 81 [pI 0,pI 0,pN,pN]]) (fun (_,_)=>q4=Sum.inl ()) ?_ ?_
 ·refine av ?_
  refine aC (Y:=Unit) (S:=Int) _ hq4 (fun _ v2=>[(0,pL Zb.enc p0),(1,pI p1),(4,pP b1 0),(6,pI v2)]) (fun _ v2=>[PRes.b b1 81 [pI 0,pI 0,pN,pN]]) () (iR rfl) cK ?_
  rintro _ v2 o τ hb3;(try dsimp only at hb3);dsimp only [az]
  refine cT (bF [7,8,9] [(10,pB (decide (v2<(p0.length:Int))))] (by kernel_rfl) rfl hb3 (fun hc5 hb3=>?_) fun hc5 hb3=>?_)
  ·refine ah ?_
   refine dJ (aa hb3 fun m6 hm6 hb3=>aq [] (rg 13 6) [(19,pB (m6.ID == p1))] (cL 2 Zb.enc hm6 bj) (by kernel_rfl) (cR rfl hb3 (fun hc7 hb3=>?_) fun hc7 hb3=>?_))
   ·refine ae ?_
    refine aa hb3 fun m8 hm8 hb3=>af (aU 4 [] [20,21,22] [(23,.agg (aA m8))] (cL 2 Zb.enc hm8 bj) (by kernel_rfl) (aP rfl rfl (am (vs:=(aA m8)) rfl rfl rfl rfl rfl ce xx (aN [(5,pB true)] (by kernel_rfl) (cX (dH ?_))))))
    refine au hb3 (fun ht=>?_);subst ht
    refine cP ?_
    obtain rfl:=osi h
    exact aM (cd (dC rfl gb rfl) (aK rfl)) bB ⟨rfl,rfl⟩
   refine ah ?_
   refine dI (ai [11,12] [(6,pI (IntKind.i64.wrap (v2+1)))] (by kernel_rfl) ?_)
   exact aS hb3 () (iR rfl) cK
  refine aH ?_
  refine cq hb3 (fun ht=>aj rfl ?_)
  exact aw ((),()) (rD rfl) cK ht.symm
 rintro ⟨_,_⟩ τ hz;(try dsimp only at hz);subst q4;(try dsimp only at h);dsimp only [az]
 refine ae (af (aD 1 [(24,.agg [pI 0,pI 0,pN,pN])] (by kernel_rfl) (aP rfl rfl (am (vs:=[pI 0,pI 0,pN,pN]) rfl rfl rfl rfl rfl ce xx (aN [(5,pB false)] (by kernel_rfl) (aX (cS (k:=2) (b:=b1) rfl ce (cS (k:=3) (b:=b1) rfl ce (bR ?_)))))))))
 obtain rfl:=osi h
 exact aM (cd (dC rfl gb rfl) (aK rfl)) bB ⟨rfl,rfl⟩
def iI (p0:(List ByteArray)) (p1:ByteArray):Option Bool:=(aT (S:=Int) (T:=(Unit)⊕(_)) (fun v1=>cond (decide (v1<(p0.length:Int))) ((idx p0 v1).bind fun m5=>cond (decide (m5=p1)) (some (.inr (.inr true))) (some (.inl (IntKind.i64.wrap (v1+1))))) (some (.inr (.inl ())))) FUEL 0).bind fun q=>match q with | .inl _=>some false | .inr e=>some e
theorem je {p0:(List ByteArray)} {p1:ByteArray} {r:Bool}  (h:iI p0 p1=some r):PF 56 [pL eS p0,pS p1] (pB r):=by
 unfold iI at h
 refine bd ?_
 refine du Tryz.func56 rfl Tryz.ntmps56 Tryz.results56 rfl (aW [4] (by kernel_rfl) (cj (ak [(5,pI 0)] (by kernel_rfl) (ft h fun q3 hq3 h=>?_))))
 refine ar (Y:=Unit×Unit) (fun (_,_)=>[]) (fun (_,_)=>[]) (fun (_,_)=>q3=Sum.inl ()) ?_ ?_
 ·refine av ?_
  refine aC (Y:=Unit) (S:=Int) _ hq3 (fun _ v1=>[(0,pL eS p0),(1,pS p1),(5,pI v1)]) (fun _ v1=>[]) () (nV rfl) bB ?_
  rintro _ v1 o τ hb2;(try dsimp only at hb2);dsimp only [az]
  refine cT (bF [6,7,8] [(9,pB (decide (v1<(p0.length:Int))))] (by kernel_rfl) rfl hb2 (fun hc4 hb2=>?_) fun hc4 hb2=>?_)
  ·refine ah ?_
   refine dJ (aa hb2 fun m5 hm5 hb2=>aq [] (rg 12 5) [(17,pB (decide (m5=p1)))] (cL 2 eS hm5 bj) (by kernel_rfl) (cR rfl hb2 (fun hc6 hb2=>?_) fun hc6 hb2=>?_))
   ·refine ae ?_
    refine dg [(4,pB true)] (by kernel_rfl) (dH ?_)
    refine au hb2 (fun ht=>?_);subst ht
    refine cP ?_
    exact zz r h rfl
   refine ah ?_
   refine dI (ai [10,11] [(5,pI (IntKind.i64.wrap (v1+1)))] (by kernel_rfl) ?_)
   exact aS hb2 () (nV rfl) bB
  refine aH ?_
  refine cq hb2 (fun ht=>aj rfl ?_)
  exact aw ((),()) pz bB ht.symm
 rintro ⟨_,_⟩ τ hz;(try dsimp only at hz);subst q3;(try dsimp only at h);dsimp only [az]
 refine ae (dg [(4,pB false)] (by kernel_rfl) ?_)
 exact zz r h rfl
def ie (p0:ByteArray) (p1:ByteArray):Option Bool:=(gd (decide ((p1.size:Int)≤(p0.size:Int))) (ko p0 0 (p1.size:Int))).bind fun s1=>some ((decide ((p1.size:Int)≤(p0.size:Int)))&&(decide (s1=p1)))
theorem pC {p0:ByteArray} {p1:ByteArray} {r:Bool}  (h:ie p0 p1=some r):PF 116 [pS p0,pS p1] (pB r):=by
 unfold ie at h
 refine bd ?_
 refine du Tryz.func116 rfl Tryz.ntmps116 Tryz.results116 rfl (aW [4] (by kernel_rfl) (de h fun s1 hs1 h=>aq [] (rg 5 13) [(4,pB ((decide ((p1.size:Int)≤(p0.size:Int)))&&(decide (s1=p1))))] (fossg 9 (cF hs1) bj) (by kernel_rfl) (cX ?_)))
 exact zz r h rfl
def fb (p0:Zb) (p1:ByteArray):Option (Zd×Bool):=(aT (S:=Int×Int) (T:=(Int)) (fun (v3,v4)=>cond (decide (v4<(p0.Rules.length:Int))) (((idx p0.Rules v4).bind fun m11=>(ie p1 m11.Prefix).bind fun x12=>(gd (x12&&(!(decide (v3<0)))) (idx p0.Rules v4)).bind fun m13=>(gd (x12&&(!(decide (v3<0)))) (idx p0.Rules v3)).bind fun m14=>cond (x12&&((decide (v3<0))||(decide ((m14.Prefix.size:Int)<(m13.Prefix.size:Int))))) (some v4) (some v3)).bind fun v9=>some (.inl (v9,(IntKind.i64.wrap (v4+1))))) (some (.inr v3))) FUEL ((-1),0)).bind fun v5=>cond (decide (v5<0)) (some ((⟨0,0,[],0,0,ByteArray.empty,[]⟩:Zd),false)) ((idx p0.Rules v5).bind fun m17=>some (m17.Rule,true))
theorem ma {p0:Zb} {p1:ByteArray} {r:(Zd×Bool)}  (h:fb p0 p1=some r):PF 69 [.agg (aA p0),pS p1] (.tup [.agg (an r.1),pB r.2]):=by
 unfold fb at h
 refine bd ?_
 refine du Tryz.func69 rfl Tryz.ntmps69 Tryz.results69 rfl (da rfl (bf (cs:=(aA p0)) rfl rfl (fun b1=>ap rfl (aL (cs:=[pI 0,pI 0,pN,pI 0,pI 0,pS ByteArray.empty,pN]) rfl rfl rfl rfl (fun b2=>ba [5] (by kernel_rfl) (bZ (ak [(6,pI (-1))] (by kernel_rfl) (cj (ak [(7,pI 0)] (by kernel_rfl) (ft h fun q7 hq7 h=>?_))))))))))
 refine ar (Y:=Unit×Int) (fun (_,v5)=>[(2,pP b1 0),(4,pP b2 0),(6,pI v5)]) (fun (_,v5)=>[PRes.b b1 81 (aA p0),PRes.b b2 84 [pI 0,pI 0,pN,pI 0,pI 0,pS ByteArray.empty,pN]]) (fun (_,v5)=>q7=v5) ?_ ?_
 ·refine av ?_
  refine aC (Y:=Unit) (S:=Int×Int) _ hq7 (fun _ (v3,v4)=>[(1,pS p1),(2,pP b1 0),(4,pP b2 0),(6,pI v3),(7,pI v4)]) (fun _ (v3,v4)=>[PRes.b b1 81 (aA p0),PRes.b b2 84 [pI 0,pI 0,pN,pI 0,pI 0,pS ByteArray.empty,pN]]) () (ns rfl) (be (aB aO) cK) ?_
  rintro _ ⟨v3,v4⟩ o τ hb6;(try dsimp only at hb6);dsimp only [az]
  refine cT (aJ [0] [8,9,10,11] [(12,pB (decide (v4<(p0.Rules.length:Int))))] (by kernel_rfl) (cR rfl hb6 (fun hc8 hb6=>?_) fun hc8 hb6=>?_))
  ·refine ah ?_
   refine de hb6 fun q10 hq10 hb6=>?_
   refine ar (Y:=Unit×Int) (fun (_,v9)=>[(1,pS p1),(2,pP b1 0),(4,pP b2 0),(6,pI v9),(7,pI v4)]) (fun (_,v9)=>[PRes.b b1 81 (aA p0),PRes.b b2 84 [pI 0,pI 0,pN,pI 0,pI 0,pS ByteArray.empty,pN]]) (fun (_,v9)=>q10=v9) ?_ ?_
   ·skip
    refine qU (bi (ρd:=[]) [(0,0),(1,0),(2,0),(3,0),(4,0),(5,0),(6,0),(7,1),(8,0),(9,0),(10,0),(11,0),(12,0),(13,0),(14,0),(15,0),(16,0),(17,0),(18,0),(19,0),(20,0),(21,0),(22,0),(23,0),(24,0),(25,0),(26,0),(27,0),(28,0)] _ (List.Perm.refl _) (by kernel_rfl) rfl (aa hq10 fun m11 hm11 hq10=>aa hq10 fun x12 hx12 hq10=>aa hq10 fun m13 hm13 hq10=>aa hq10 fun m14 hm14 hq10=>bt 29 [0,0,0] (rg 15 28) [(43,pB (x12&&((decide (v3<0))||(decide ((m14.Prefix.size:Int)<(m13.Prefix.size:Int))))))] (cL 4 Zh.enc hm11 (bg 7 (pC hx12) (eK 15 Zh.enc (cF hm13) (eK 22 Zh.enc (cF hm14) bj)))) (by kernel_rfl) (bA (cR rfl hq10 (fun hc15 hq10=>?_) fun hc15 hq10=>?_))))
    ·refine ai [44] [(6,pI v4)] (by kernel_rfl) ?_
     refine aG ?_
     obtain rfl:=osi hq10
     exact aw ((),v4) (ns rfl) n8 rfl
    refine ah ?_
    refine aG ?_
    obtain rfl:=osi hq10
    exact aw ((),v3) (ns rfl) n8 rfl
   rintro ⟨_,v9⟩ τ hz;(try dsimp only at hz);subst q10;(try dsimp only at hb6);dsimp only [az]
   refine ai [13,14] [(7,pI (IntKind.i64.wrap (v4+1)))] (by kernel_rfl) ?_
   exact aS hb6 () (ns rfl) n8
  refine aH ?_
  refine cq hb6 (fun ht=>aj rfl ?_)
  exact aw ((),v3) (nV rfl) n8 ht.symm
 rintro ⟨_,v5⟩ τ hz;(try dsimp only at hz);subst q7;(try dsimp only at h);dsimp only [az]
 refine cT (bF [45] [(46,pB (decide (v5<0)))] (by kernel_rfl) rfl h (fun hc16 h=>?_) fun hc16 h=>?_)
 ·refine ae ?_
  refine af (aD 1 [(47,.agg [pI 0,pI 0,pN,pI 0,pI 0,pS ByteArray.empty,pN])] (by kernel_rfl) (aP rfl rfl (am (vs:=[pI 0,pI 0,pN,pI 0,pI 0,pS ByteArray.empty,pN]) rfl rfl rfl rfl rfl (dA ce) mX (aN [(5,pB false)] (by kernel_rfl) (aX (cS (k:=2) (b:=b2) rfl (dA ce) (cS (k:=6) (b:=b2) rfl (dA ce) (bR (al ?_)))))))))
  obtain rfl:=osi h
  exact aM (cd (dC rfl wU rfl) (aK rfl)) bB ⟨rfl,rfl⟩
 refine ah ?_
 refine de h fun m17 hm17 h=>af (aU 6 [0] (rg 48 5) [(53,.agg (an m17.Rule))] (cL 3 Zh.enc hm17 bj) (by kernel_rfl) (aP rfl rfl (am (vs:=(an m17.Rule)) rfl rfl rfl rfl rfl (dA ce) mX (aN [(5,pB true)] (by kernel_rfl) (cX ?_)))))
 obtain rfl:=osi h
 exact aM (cd (dC rfl wU rfl) (aK rfl)) bB ⟨rfl,rfl⟩
def cW (p0:(List Zc)) (p1:(List Zb)) (p2:ByteArray) (p3:Za):Option Bool:=(dV p0 p3.Product).bind fun x2=>(dT p1 p3.Agreement).bind fun x4=>(fb x4.1 x2.1.Code).bind fun x6=>(gd (((x2.2&&x4.2)&&x6.2)&&(!decide (x2.1.Country=p2))) (iI x4.1.Parties x2.1.Country)).bind fun x8=>(gd ((((x2.2&&x4.2)&&x6.2)&&(!decide (x2.1.Country=p2)))&&x8) (iI x4.1.Parties p2)).bind fun x9=>some (((((x2.2&&x4.2)&&x6.2)&&(!decide (x2.1.Country=p2)))&&x8)&&x9)
theorem jm {p0:(List Zc)} {p1:(List Zb)} {p2:ByteArray} {p3:Za} {r:Bool}  (h:cW p0 p1 p2 p3=some r):PF 52 [pL Zc.enc p0,pL Zb.enc p1,pS p2,.agg [pI p3.Product,pI p3.Agreement]] (pB r):=by
 unfold cW at h
 refine bd ?_
 refine du Tryz.func52 rfl Tryz.ntmps52 Tryz.results52 rfl (da rfl (bf (cs:=[pI p3.Product,pI p3.Agreement]) rfl rfl (fun b1=>ba [8] (by kernel_rfl) (de h fun x2 hx2 h=>af (aU 7 [0] [16,17,18,19,15] [(20,.agg (aI x2.1)),(21,pB x2.2)] (bg 3 (iH hx2) bj) (by kernel_rfl) (ap rfl (aL (cs:=[pI 0,pS ByteArray.empty,pS ByteArray.empty,pI 0,pB false,pN,pN]) rfl rfl rfl rfl (fun b3=>aP rfl rfl (am (vs:=(aI x2.1)) rfl rfl rfl rfl rfl ce mX (aN [(10,pB x2.2)] (by kernel_rfl) (de h fun x4 hx4 h=>af (aU 7 [1] [23,24,25,26,22] [(27,.agg (aA x4.1)),(28,pB x4.2)] (bg 3 (ic hx4) bj) (by kernel_rfl) (ap rfl (aL (cs:=[pI 0,pI 0,pN,pN]) rfl rfl rfl rfl (fun b5=>aP rfl rfl (am (vs:=(aA x4.1)) rfl rfl rfl rfl rfl ce xx (aN [(12,pB x4.2)] (by kernel_rfl) (de h fun x6 hx6 h=>af (aU 7 [0,1] [30,31,32,33,29] [(34,.agg (an x6.1)),(35,pB x6.2)] (bg 3 (ma hx6) bj) (by kernel_rfl) (ap rfl (aL (cs:=[pI 0,pI 0,pN,pI 0,pI 0,pS ByteArray.empty,pN]) rfl rfl rfl rfl (fun b7=>aP rfl rfl (am (vs:=(an x6.1)) rfl rfl rfl rfl rfl ce mX (aN [(14,pB x6.2)] (by kernel_rfl) (de h fun x8 hx8 h=>aa h fun x9 hx9 h=>aq [2,1,2,1] (rg 36 26) [(8,pB (((((x2.2&&x4.2)&&x6.2)&&(!decide (x2.1.Country=p2)))&&x8)&&x9))] (eM 18 (fun hc=>je (cF hx8 hc)) (eM 24 (fun hc=>je (cF hx9 hc)) bj)) (by kernel_rfl) (cX ?_))))))))))))))))))))))))))
 exact zz r h rfl
def gy (p0:(List ByteArray)) (p1:(List ByteArray)):Option Bool:=cond ((p0.length:Int) != (p1.length:Int)) (some false) ((aT (S:=Int) (T:=(Unit)⊕(_)) (fun v2=>cond (decide (v2<(p0.length:Int))) ((idx p0 v2).bind fun m6=>(idx p1 v2).bind fun m7=>cond (!decide (m6=m7)) (some (.inr (.inr false))) (some (.inl (IntKind.i64.wrap (v2+1))))) (some (.inr (.inl ())))) FUEL 0).bind fun q=>match q with | .inl _=>some true | .inr e=>some e)
theorem qi {p0:(List ByteArray)} {p1:(List ByteArray)} {r:Bool}  (h:gy p0 p1=some r):PF 61 [pL eS p0,pL eS p1] (pB r):=by
 unfold gy at h
 refine bd ?_
 refine du Tryz.func61 rfl Tryz.ntmps61 Tryz.results61 rfl (aW [4] (by kernel_rfl) (cj (bF [6,7,8,9] [(10,pB ((p0.length:Int) != (p1.length:Int)))] (by kernel_rfl) rfl h (fun hc1 h=>?_) fun hc1 h=>?_)))
 ·refine ae ?_
  refine dg [(4,pB false)] (by kernel_rfl) (al ?_)
  exact zz r h rfl
 refine ah ?_
 refine cj (ak [(5,pI 0)] (by kernel_rfl) (ft h fun q4 hq4 h=>?_))
 refine ar (Y:=Unit×Unit) (fun (_,_)=>[]) (fun (_,_)=>[]) (fun (_,_)=>q4=Sum.inl ()) ?_ ?_
 ·refine av ?_
  refine aC (Y:=Unit) (S:=Int) _ hq4 (fun _ v2=>[(0,pL eS p0),(1,pL eS p1),(5,pI v2)]) (fun _ v2=>[]) () (nV rfl) bB ?_
  rintro _ v2 o τ hb3;(try dsimp only at hb3);dsimp only [az]
  refine cT (bF [11,12,13] [(14,pB (decide (v2<(p0.length:Int))))] (by kernel_rfl) rfl hb3 (fun hc5 hb3=>?_) fun hc5 hb3=>?_)
  ·refine ah ?_
   refine dJ (bi (ρd:=[]) [(0,0),(1,0),(2,0),(3,0),(4,0),(5,0),(6,0),(7,0),(8,0)] _ (List.Perm.refl _) (by kernel_rfl) rfl (aa hb3 fun m6 hm6 hb3=>aa hb3 fun m7 hm7 hb3=>bt 9 [] (rg 17 8) [(25,pB (!decide (m6=m7)))] (cL 2 eS hm6 (cL 6 eS hm7 bj)) (by kernel_rfl) (bA (cR rfl hb3 (fun hc8 hb3=>?_) fun hc8 hb3=>?_))))
   ·refine ae ?_
    refine dg [(4,pB false)] (by kernel_rfl) (dH ?_)
    refine au hb3 (fun ht=>?_);subst ht
    refine cP ?_
    exact zz r h rfl
   refine ah ?_
   refine dI (ai [15,16] [(5,pI (IntKind.i64.wrap (v2+1)))] (by kernel_rfl) ?_)
   exact aS hb3 () (nV rfl) bB
  refine aH ?_
  refine cq hb3 (fun ht=>aj rfl ?_)
  exact aw ((),()) pz bB ht.symm
 rintro ⟨_,_⟩ τ hz;(try dsimp only at hz);subst q4;(try dsimp only at h);dsimp only [az]
 refine ae (dg [(4,pB true)] (by kernel_rfl) ?_)
 exact zz r h rfl
def gQ (rec:Zd→Zd→Option Bool) (p0:Zd) (p1:Zd):Option Bool:=(gd (!(((((p0.Kind != p1.Kind)||(p0.Digits != p1.Digits))||(p0.Tolerance != p1.Tolerance))||(p0.Limit != p1.Limit))||(!decide (p0.Name=p1.Name)))) (gy p0.Except p1.Except)).bind fun x3=>cond (((((((p0.Kind != p1.Kind)||(p0.Digits != p1.Digits))||(p0.Tolerance != p1.Tolerance))||(p0.Limit != p1.Limit))||(!decide (p0.Name=p1.Name)))||(!x3))||((p0.Args.length:Int) != (p1.Args.length:Int))) (some false) ((aT (S:=Int) (T:=(Unit)⊕(_)) (fun v5=>cond (decide (v5<(p0.Args.length:Int))) ((idx p0.Args v5).bind fun m9=>(idx p1.Args v5).bind fun m10=>(rec m9 m10).bind fun x11=>cond (!x11) (some (.inr (.inr false))) (some (.inl (IntKind.i64.wrap (v5+1))))) (some (.inr (.inl ())))) FUEL 0).bind fun q=>match q with | .inl _=>some true | .inr e=>some e)
theorem rc {rec:Zd→Zd→Option Bool} (hrec:∀ {p0:Zd} {p1:Zd} {r:Bool},rec p0 p1=some r→PF 153 [.agg (an p0),.agg (an p1)] (pB r)) {p0:Zd} {p1:Zd} {r:Bool} (h:gQ rec p0 p1=some r):PF 153 [.agg (an p0),.agg (an p1)] (pB r):=by
 unfold gQ at h
 refine bd ?_
 refine du Tryz.func153 rfl Tryz.ntmps153 Tryz.results153 rfl (da rfl (bf (cs:=(an p0)) rfl rfl (fun b1=>ap rfl (bf (cs:=(an p1)) rfl rfl (fun b2=>ba [4] (by kernel_rfl) (cj (aa h fun x3 hx3 h=>aq [1,0,1,0,1,0,1,0,1,0,1,0,1,0] (rg 6 49) [(55,pB (((((((p0.Kind != p1.Kind)||(p0.Digits != p1.Digits))||(p0.Tolerance != p1.Tolerance))||(p0.Limit != p1.Limit))||(!decide (p0.Name=p1.Name)))||(!x3))||((p0.Args.length:Int) != (p1.Args.length:Int))))] (eM 38 (fun hc=>qi (cF hx3 hc)) bj) (by kernel_rfl) (cR rfl h (fun hc4 h=>?_) fun hc4 h=>?_))))))))
 ·refine ae ?_
  refine dg [(4,pB false)] (by kernel_rfl) (al ?_)
  exact zz r h rfl
 refine ah ?_
 refine cj (ak [(5,pI 0)] (by kernel_rfl) (ft h fun q7 hq7 h=>?_))
 refine ar (Y:=Unit×Unit) (fun (_,_)=>[]) (fun (_,_)=>[]) (fun (_,_)=>q7=Sum.inl ()) ?_ ?_
 ·refine av ?_
  refine aC (Y:=Unit) (S:=Int) _ hq7 (fun _ v5=>[(2,pP b1 0),(3,pP b2 0),(5,pI v5)]) (fun _ v5=>[PRes.b b1 84 (an p0),PRes.b b2 84 (an p1)]) () (nV rfl) (be (aB aO) cK) ?_
  rintro _ v5 o τ hb6;(try dsimp only at hb6);dsimp only [az]
  refine cT (aJ [0] [56,57,58,59] [(60,pB (decide (v5<(p0.Args.length:Int))))] (by kernel_rfl) (cR rfl hb6 (fun hc8 hb6=>?_) fun hc8 hb6=>?_))
  ·refine ah ?_
   refine dJ (bi (ρd:=[]) [(0,0),(1,0),(2,0),(3,0),(4,0),(5,0),(6,0),(7,0),(8,0),(9,0),(10,1),(11,0)] _ (List.Perm.refl _) (by kernel_rfl) rfl (aa hb6 fun m9 hm9 hb6=>aa hb6 fun m10 hm10 hb6=>aa hb6 fun x11 hx11 hb6=>bt 12 [0,1] (rg 63 11) [(74,pB (!x11))] (ny 3 Zd.enc (Zd.enc_eq _) hm9 (ny 8 Zd.enc (Zd.enc_eq _) hm10 (bg 10 (hrec hx11) bj))) (by kernel_rfl) (bA (cR rfl hb6 (fun hc12 hb6=>?_) fun hc12 hb6=>?_))))
   ·refine ae ?_
    refine dg [(4,pB false)] (by kernel_rfl) (dH ?_)
    refine au hb6 (fun ht=>?_);subst ht
    refine cP ?_
    exact zz r h rfl
   refine ah ?_
   refine dI (ai [61,62] [(5,pI (IntKind.i64.wrap (v5+1)))] (by kernel_rfl) ?_)
   exact aS hb6 () (nV rfl) n8
  refine aH ?_
  refine cq hb6 (fun ht=>aj rfl ?_)
  exact aw ((),()) pz bB ht.symm
 rintro ⟨_,_⟩ τ hz;(try dsimp only at hz);subst q7;(try dsimp only at h);dsimp only [az]
 refine ae (dg [(4,pB true)] (by kernel_rfl) ?_)
 exact zz r h rfl
def jf (n:Nat):Zd→Zd→Option Bool:=Nat.rec (motive:=fun _=>Zd→Zd→Option Bool) (fun _ _=>none) (fun _ ih=>gQ ih) n
def nh (p0:Zd) (p1:Zd):Option Bool:=jf FUEL p0 p1
theorem rK (n:Nat):∀ {p0:Zd} {p1:Zd} {r:Bool},jf n p0 p1=some r→PF 153 [.agg (an p0),.agg (an p1)] (pB r):=by
 induction n with
 | zero=>intros;rename_i h;exact nomatch h
 | succ n ih=>intros;rename_i h;exact rc (fun hr=>ih hr) h
theorem sr {p0:Zd} {p1:Zd} {r:Bool} (h:nh p0 p1=some r):PF 153 [.agg (an p0),.agg (an p1)] (pB r):=rK FUEL h
def iy (p0:(List Zh)) (p1:(List Zh)):Option Bool:=cond ((p0.length:Int) != (p1.length:Int)) (some false) ((aT (S:=Int) (T:=(Unit)⊕(_)) (fun v2=>cond (decide (v2<(p0.length:Int))) ((idx p0 v2).bind fun m6=>(idx p1 v2).bind fun m7=>(gd (!(!decide (m6.Prefix=m7.Prefix))) (idx p0 v2)).bind fun m8=>(gd (!(!decide (m6.Prefix=m7.Prefix))) (idx p1 v2)).bind fun m9=>(gd (!(!decide (m6.Prefix=m7.Prefix))) (nh m8.Rule m9.Rule)).bind fun x10=>cond ((!decide (m6.Prefix=m7.Prefix))||(!x10)) (some (.inr (.inr false))) (some (.inl (IntKind.i64.wrap (v2+1))))) (some (.inr (.inl ())))) FUEL 0).bind fun q=>match q with | .inl _=>some true | .inr e=>some e)
theorem rL {p0:(List Zh)} {p1:(List Zh)} {r:Bool}  (h:iy p0 p1=some r):PF 104 [pL Zh.enc p0,pL Zh.enc p1] (pB r):=by
 unfold iy at h
 refine bd ?_
 refine du Tryz.func104 rfl Tryz.ntmps104 Tryz.results104 rfl (aW [4] (by kernel_rfl) (cj (bF [6,7,8,9] [(10,pB ((p0.length:Int) != (p1.length:Int)))] (by kernel_rfl) rfl h (fun hc1 h=>?_) fun hc1 h=>?_)))
 ·refine ae ?_
  refine dg [(4,pB false)] (by kernel_rfl) (al ?_)
  exact zz r h rfl
 refine ah ?_
 refine cj (ak [(5,pI 0)] (by kernel_rfl) (ft h fun q4 hq4 h=>?_))
 refine ar (Y:=Unit×Unit) (fun (_,_)=>[]) (fun (_,_)=>[]) (fun (_,_)=>q4=Sum.inl ()) ?_ ?_
 ·refine av ?_
  refine aC (Y:=Unit) (S:=Int) _ hq4 (fun _ v2=>[(0,pL Zh.enc p0),(1,pL Zh.enc p1),(5,pI v2)]) (fun _ v2=>[]) () (nV rfl) bB ?_
  rintro _ v2 o τ hb3;(try dsimp only at hb3);dsimp only [az]
  refine cT (bF [11,12,13] [(14,pB (decide (v2<(p0.length:Int))))] (by kernel_rfl) rfl hb3 (fun hc5 hb3=>?_) fun hc5 hb3=>?_)
  ·refine ah ?_
   refine dJ (bi (ρd:=[]) [(0,0),(1,0),(2,0),(3,0),(4,0),(5,0),(6,0),(7,0),(8,0),(9,0),(10,0),(11,0),(12,0),(13,0),(14,0),(15,0),(16,0),(17,0),(18,0),(19,0),(20,0),(21,0),(22,1),(23,0),(24,0)] _ (List.Perm.refl _) (by kernel_rfl) rfl (aa hb3 fun m6 hm6 hb3=>aa hb3 fun m7 hm7 hb3=>aa hb3 fun m8 hm8 hb3=>aa hb3 fun m9 hm9 hb3=>aa hb3 fun x10 hx10 hb3=>bt 25 [] (rg 17 24) [(41,pB ((!decide (m6.Prefix=m7.Prefix))||(!x10)))] (cL 2 Zh.enc hm6 (cL 7 Zh.enc hm7 (eK 14 Zh.enc (cF hm8) (eK 19 Zh.enc (cF hm9) (eM 22 (fun hc=>sr (cF hx10 hc)) bj))))) (by kernel_rfl) (bA (cR rfl hb3 (fun hc11 hb3=>?_) fun hc11 hb3=>?_))))
   ·refine ae ?_
    refine dg [(4,pB false)] (by kernel_rfl) (dH ?_)
    refine au hb3 (fun ht=>?_);subst ht
    refine cP ?_
    exact zz r h rfl
   refine ah ?_
   refine dI (ai [15,16] [(5,pI (IntKind.i64.wrap (v2+1)))] (by kernel_rfl) ?_)
   exact aS hb3 () (nV rfl) bB
  refine aH ?_
  refine cq hb3 (fun ht=>aj rfl ?_)
  exact aw ((),()) pz bB ht.symm
 rintro ⟨_,_⟩ τ hz;(try dsimp only at hz);subst q4;(try dsimp only at h);dsimp only [az]
 refine ae (dg [(4,pB true)] (by kernel_rfl) ?_)
 exact zz r h rfl
def i4 (p0:(List Zb)) (p1:Int) (p2:ByteArray) (p3:ByteArray):Option (List Int):=(dT p0 p1).bind fun x1=>cond (!x1.2) (some []) ((aT (S:=(List Int)×Int) (T:=((List Int))) (fun (l7,v10)=>cond ((decide (v10<(p0.length:Int)))&&(x1.1.Kind == 2)) (((idx p0 v10).bind fun m23=>(gd (m23.ID != p1) (iI m23.Parties p2)).bind fun x25=>(gd ((m23.ID != p1)&&x25) (iI m23.Parties p3)).bind fun x26=>(gd (((m23.ID != p1)&&x25)&&x26) (iy x1.1.Rules m23.Rules)).bind fun x27=>cond ((((m23.ID != p1)&&x25)&&x26)&&x27) ((app 8 l7 [m23.ID]).bind fun l31=>some l31) (some l7)).bind fun l21=>some (.inl (l21,(IntKind.i64.wrap (v10+1))))) (some (.inr l7))) FUEL ([p1],0)).bind fun l14=>some l14)
theorem su {p0:(List Zb)} {p1:Int} {p2:ByteArray} {p3:ByteArray} {r:(List Int)}  (h:i4 p0 p1 p2 p3=some r):PF 55 [pL Zb.enc p0,pI p1,pS p2,pS p3] (pL eI r):=by
 unfold i4 at h
 refine bd ?_
 refine du Tryz.func55 rfl Tryz.ntmps55 Tryz.results55 rfl (aW [8] (by kernel_rfl) (de h fun x1 hx1 h=>af (aU 6 [] [15,16,17,14] [(18,.agg (aA x1.1)),(19,pB x1.2)] (bg 2 (ic hx1) bj) (by kernel_rfl) (ap rfl (aL (cs:=[pI 0,pI 0,pN,pN]) rfl rfl rfl rfl (fun b2=>aP rfl rfl (am (vs:=(aA x1.1)) rfl rfl rfl rfl rfl ce xx (aN [(10,pB x1.2)] (by kernel_rfl) (cj (bF [20] [(21,pB (!x1.2))] (by kernel_rfl) rfl h (fun hc3 h=>?_) fun hc3 h=>?_))))))))))
 ·refine ae ?_
  refine ak [(8,pN)] (by kernel_rfl) (aX (hZ 8 rfl (bR (al ?_))))
  exact zz r h rfl
 refine ah ?_
 refine bZ (af (aD 1 [(22,pI p1)] (by kernel_rfl) (ap rfl (bN rfl rfl rfl rfl rfl (ij rfl kf) rfl rfl rfl rfl (fun b4=>aN [(11,pO (some ⟨b4,0,none⟩) 1 1)] (by kernel_rfl) (cj (ak [(12,pI 0)] (by kernel_rfl) (ft h fun q16 hq16 h=>?_))))))))
 refine ar (Y:=(Option Addr×Nat)×((List Int))) (fun ((a12,c13),l14)=>[(11,pO a12 l14.length c13)]) (fun ((a12,c13),l14)=>[PRes.row a12 l14.length c13 3 1 (List.map eI l14)]) (fun ((a12,c13),l14)=>q16=l14) ?_ ?_
 ·refine av ?_
  refine aC (Y:=Option Addr×Nat) (S:=(List Int)×Int) _ hq16 (fun (a8,c9) (l7,v10)=>[(0,pL Zb.enc p0),(1,pI p1),(2,pS p2),(3,pS p3),(9,pP b2 0),(11,pO a8 l7.length c9),(12,pI v10)]) (fun (a8,c9) (l7,v10)=>[PRes.b b2 81 (aA x1.1),PRes.row a8 l7.length c9 3 1 (List.map eI l7)]) ((some ⟨b4,0,none⟩),1) (sR rfl) (be (aB aO) cK) ?_
  rintro ⟨a8,c9⟩ ⟨l7,v10⟩ o τ hb15;(try dsimp only at hb15);dsimp only [az]
  refine cT (aJ [0] (rg 24 8) [(32,pB ((decide (v10<(p0.length:Int)))&&(x1.1.Kind == 2)))] (by kernel_rfl) (cR rfl hb15 (fun hc17 hb15=>?_) fun hc17 hb15=>?_))
  ·refine ah ?_
   refine de hb15 fun q22 hq22 hb15=>?_
   refine ar (Y:=(Option Addr×Nat)×((List Int))) (fun ((a19,c20),l21)=>[(0,pL Zb.enc p0),(1,pI p1),(2,pS p2),(3,pS p3),(9,pP b2 0),(11,pO a19 l21.length c20),(12,pI v10)]) (fun ((a19,c20),l21)=>[PRes.b b2 81 (aA x1.1),PRes.row a19 l21.length c20 3 1 (List.map eI l21)]) (fun ((a19,c20),l21)=>q22=l21) ?_ ?_
   ·skip
    refine qU (aa hq22 fun m23 hm23 hq22=>af (aU 4 [] [35,36,37] [(38,.agg (aA m23))] (cL 2 Zb.enc hm23 bj) (by kernel_rfl) (ap rfl (aL (cs:=[pI 0,pI 0,pN,pN]) rfl rfl rfl rfl (fun b24=>aP rfl rfl (am (vs:=(aA m23)) rfl rfl rfl rfl rfl ce xx (aF (de hq22 fun x25 hx25 hq22=>aa hq22 fun x26 hx26 hq22=>aa hq22 fun x27 hx27 hq22=>aq [0,0,0,1,0] (rg 39 22) [(61,pB ((((m23.ID != p1)&&x25)&&x26)&&x27))] (eM 8 (fun hc=>je (cF hx25 hc)) (eM 14 (fun hc=>je (cF hx26 hc)) (eM 21 (fun hc=>rL (cF hx27 hc)) bj))) (by kernel_rfl) (cR rfl hq22 (fun hc28 hq22=>?_) fun hc28 hq22=>?_)))))))))
    ·refine af ?_
     refine cO 3 [0] [63] [(62,pO a8 l7.length c9),(64,pI m23.ID)] (by kernel_rfl) (ap rfl (bN rfl rfl rfl rfl rfl (ij rfl kf) rfl rfl rfl rfl (fun b29=>aa hq22 fun l31 hl31 hq22=>?_)))
     refine ap rfl (cr (enc:=eI) rfl rfl rfl rfl rfl rfl rfl rfl rfl gb (by exact aB (aB (aB aO))) hl31 (fun a32 c33=>?_))
     refine aN [(11,pO a32 l31.length c33)] (by kernel_rfl) (aG ?_)
     obtain rfl:=osi hq22
     exact aw ((a32,c33),l31) (sR rfl) (be (aB (aB (aB aO))) cK) rfl
    refine ah ?_
    refine aG ?_
    obtain rfl:=osi hq22
    exact aw ((a8,c9),l7) (sR rfl) (be (aB aO) (be (aB aO) bB)) rfl
   rintro ⟨⟨a19,c20⟩,l21⟩ τ hz;(try dsimp only at hz);subst q22;(try dsimp only at hb15);dsimp only [az]
   refine ai [33,34] [(12,pI (IntKind.i64.wrap (v10+1)))] (by kernel_rfl) ?_
   exact aS hb15 (a19,c20) (sR rfl) n8
  refine aH ?_
  refine cq hb15 (fun ht=>aj rfl ?_)
  exact aw ((a8,c9),l7) (rD rfl) (be (aB aO) bB) ht.symm
 rintro ⟨⟨a12,c13⟩,l14⟩ τ hz;(try dsimp only at hz);subst q16;(try dsimp only at h);dsimp only [az]
 refine ae (ai [67] [(8,pO a12 l14.length c13)] (by kernel_rfl) (aX ?_))
 refine fe (enc:=eI) (xs:=l14) 8 rfl (by exact aO) ?_
 refine bR ?_
 exact zz r h rfl
def lc (p0:(List ByteArray)) (p1:ByteArray):Option (List ByteArray):=(aT (S:=Int) (T:=(ByteArray×Int)) (fun v1=>(gd (decide (v1<(p0.length:Int))) (idx p0 v1)).bind fun m6=>cond ((decide (v1<(p0.length:Int)))&&(Op.bytesLess m6.toList p1.toList)) (some (.inl (IntKind.i64.wrap (v1+1)))) (some (.inr (p1,v1)))) FUEL 0).bind fun (v2,v3)=>(gd (decide (v3<(p0.length:Int))) (idx p0 v3)).bind fun m8=>cond ((decide (v3<(p0.length:Int)))&&(decide (m8=v2))) (some p0) ((sub p0 0 v3).bind fun l10=>(sub p0 v3 (p0.length:Int)).bind fun l11=>(app 16 ([]:List ByteArray) l10).bind fun l14=>(app 16 l14 [v2]).bind fun l20=>(app 16 l20 l11).bind fun l24=>some l24)
theorem rm {p0:(List ByteArray)} {p1:ByteArray} {r:(List ByteArray)}  (h:lc p0 p1=some r):PF 105 [pL eS p0,pS p1] (pL eS r):=by
 unfold lc at h
 refine bd ?_
 refine du Tryz.func105 rfl Tryz.ntmps105 Tryz.results105 rfl (aW [4] (by kernel_rfl) (bZ (ak [(5,pI 0)] (by kernel_rfl) (de h fun q5 hq5 h=>?_))))
 refine ar (Y:=Unit×(ByteArray×Int)) (fun (_,(v2,v3))=>[(0,pL eS p0),(1,pS v2),(5,pI v3)]) (fun (_,(v2,v3))=>[]) (fun (_,(v2,v3))=>q5=(v2,v3)) ?_ ?_
 ·refine av ?_
  refine aC (Y:=Unit) (S:=Int) _ hq5 (fun _ v1=>[(0,pL eS p0),(1,pS p1),(5,pI v1)]) (fun _ v1=>[]) () (nV rfl) bB ?_
  rintro _ v1 o τ hb4;(try dsimp only at hb4);dsimp only [az]
  refine cT (aa hb4 fun m6 hm6 hb4=>aq [] (rg 6 11) [(17,pB ((decide (v1<(p0.length:Int)))&&(Op.bytesLess m6.toList p1.toList)))] (eK 7 eS (cF hm6) bj) (by kernel_rfl) (cR rfl hb4 (fun hc7 hb4=>?_) fun hc7 hb4=>?_))
  ·refine ah ?_
   refine aX (av (ai [18,19] [(5,pI (IntKind.i64.wrap (v1+1)))] (by kernel_rfl) (aG ?_)))
   exact aS hb4 () (nV rfl) bB
  refine aH ?_
  refine cq hb4 (fun ht=>aj rfl ?_)
  exact aw ((),(p1,v1)) (nV rfl) bB ht.symm
 rintro ⟨_,⟨v2,v3⟩⟩ τ hz;(try dsimp only at hz);subst q5;(try dsimp only at h);dsimp only [az]
 refine cT (aa h fun m8 hm8 h=>aq [] (rg 20 11) [(31,pB ((decide (v3<(p0.length:Int)))&&(decide (m8=v2))))] (eK 7 eS (cF hm8) bj) (by kernel_rfl) (cR rfl h (fun hc9 h=>?_) fun hc9 h=>?_))
 ·refine ae ?_
  refine ai [32] [(4,pL eS p0)] (by kernel_rfl) (cX (al ?_))
  exact zz r h rfl
 refine ah ?_
 refine bZ (bi (ρd:=[]) [(1,0),(2,0),(3,0),(5,0),(6,3),(8,0),(9,0),(10,0),(0,1),(4,1),(6,2),(7,1),(11,1),(12,0)] _ (List.Perm.refl _) (by kernel_rfl) rfl (aa h fun l10 hl10 h=>bt 4 [] [34,35] [(36,pL eS l10),(38,pS v2)] (vz 2 eS 1 (fun _=>rfl) hl10 bj) (by kernel_rfl) (zW (qR rfl rfl rfl rfl rfl (ij rfl kf) rfl rfl rfl) (aa h fun l11 hl11 h=>bt 3 [] [41,42] [(43,pL eS l11)] (vz 2 eS 1 (fun _=>rfl) hl11 bj) (by kernel_rfl) (iT rfl rfl rfl (bN rfl rfl rfl rfl rfl kf rfl rfl rfl rfl (fun b12=>aa h fun l14 hl14 h=>?_)))))))
 refine iT rfl rfl rfl (iq (enc:=eS) rfl rfl rfl rfl rfl (fun _=>rfl) rfl rfl rfl (by exact aO) hl14 (fun a15 c16=>?_))
 refine sk (qR rfl rfl rfl rfl rfl (ij rfl kf) rfl rfl rfl) (fun _=>rfl) rfl (fun b18=>aa h fun l20 hl20 h=>?_)
 refine iT rfl rfl rfl (zV (enc:=eS) rfl rfl rfl rfl rfl (fun _=>rfl) rfl rfl rfl rfl gb rfl (by exact aB aO) hl20 (fun a21 c22=>?_))
 refine aa h fun l24 hl24 h=>?_
 refine iT rfl rfl rfl (iq (enc:=eS) rfl rfl rfl rfl rfl (fun _=>rfl) rfl rfl rfl (by exact aO) hl24 (fun a25 c26=>?_))
 refine iW 1 [(4,pO a25 l24.length c26)] (by kernel_rfl) (bA (aX ?_))
 refine fe (enc:=eS) (xs:=l24) 4 rfl (by exact aO) ?_
 refine bR ?_
 exact zz r h rfl
def jW (p0:(List ByteArray)) (p1:(List ByteArray)):Option (List ByteArray):=(aT (S:=(List ByteArray)×Int) (T:=((List ByteArray)×(List ByteArray))) (fun (l1,v2)=>cond (decide (v2<(p0.length:Int))) ((idx p0 v2).bind fun m8=>(lc l1 m8).bind fun x9=>some (.inl (x9,(IntKind.i64.wrap (v2+1))))) (some (.inr (p1,l1)))) FUEL ([],0)).bind fun (l3,l4)=>(aT (S:=(List ByteArray)×Int) (T:=((List ByteArray))) (fun (l10,v11)=>cond (decide (v11<(l3.length:Int))) ((idx l3 v11).bind fun m16=>(lc l10 m16).bind fun x17=>some (.inl (x17,(IntKind.i64.wrap (v11+1))))) (some (.inr l10))) FUEL (l4,0)).bind fun l12=>some l12
theorem vM {p0:(List ByteArray)} {p1:(List ByteArray)} {r:(List ByteArray)}  (h:jW p0 p1=some r):PF 57 [pL eS p0,pL eS p1] (pL eS r):=by
 unfold jW at h
 refine bd ?_
 refine du Tryz.func57 rfl Tryz.ntmps57 Tryz.results57 rfl (aW [4] (by kernel_rfl) (bZ (ak [(5,pN)] (by kernel_rfl) (cj (ak [(6,pI 0)] (by kernel_rfl) (aX (hZ 5 rfl (aa h fun q6 hq6 h=>?_))))))))
 refine ar (Y:=Unit×((List ByteArray)×(List ByteArray))) (fun (_,(l3,l4))=>[(1,pL eS l3),(5,pL eS l4)]) (fun (_,(l3,l4))=>[]) (fun (_,(l3,l4))=>q6=(l3,l4)) ?_ ?_
 ·refine av ?_
  refine aC (Y:=Unit) (S:=(List ByteArray)×Int) _ hq6 (fun _ (l1,v2)=>[(0,pL eS p0),(1,pL eS p1),(5,pL eS l1),(6,pI v2)]) (fun _ (l1,v2)=>[]) () (iR rfl) bB ?_
  rintro _ ⟨l1,v2⟩ o τ hb5;(try dsimp only at hb5);dsimp only [az]
  refine cT (bF [8,9,10] [(11,pB (decide (v2<(p0.length:Int))))] (by kernel_rfl) rfl hb5 (fun hc7 hb5=>?_) fun hc7 hb5=>?_)
  ·refine ah ?_
   refine bZ (av (aa hb5 fun m8 hm8 hb5=>aa hb5 fun x9 hx9 hb5=>aq [] (rg 14 6) [(5,pL eS x9)] (cL 3 eS hm8 (bg 5 (rm hx9) bj)) (by kernel_rfl) (dI (ai [12,13] [(6,pI (IntKind.i64.wrap (v2+1)))] (by kernel_rfl) ?_))))
   exact aS hb5 () (iR rfl) bB
  refine aH ?_
  refine cq hb5 (fun ht=>aj rfl ?_)
  exact aw ((),(p1,l1)) (mq rfl) bB ht.symm
 rintro ⟨_,⟨l3,l4⟩⟩ τ hz;(try dsimp only at hz);subst q6;(try dsimp only at h);dsimp only [az]
 refine cT (ak [(7,pI 0)] (by kernel_rfl) (ft h fun q14 hq14 h=>?_))
 refine ar (Y:=Unit×((List ByteArray))) (fun (_,l12)=>[(5,pL eS l12)]) (fun (_,l12)=>[]) (fun (_,l12)=>q14=l12) ?_ ?_
 ·refine av ?_
  refine aC (Y:=Unit) (S:=(List ByteArray)×Int) _ hq14 (fun _ (l10,v11)=>[(1,pL eS l3),(5,pL eS l10),(7,pI v11)]) (fun _ (l10,v11)=>[]) () (nV rfl) bB ?_
  rintro _ ⟨l10,v11⟩ o τ hb13;(try dsimp only at hb13);dsimp only [az]
  refine cT (bF [20,21,22] [(23,pB (decide (v11<(l3.length:Int))))] (by kernel_rfl) rfl hb13 (fun hc15 hb13=>?_) fun hc15 hb13=>?_)
  ·refine ah ?_
   refine bZ (av (aa hb13 fun m16 hm16 hb13=>aa hb13 fun x17 hx17 hb13=>aq [] (rg 26 6) [(5,pL eS x17)] (cL 3 eS hm16 (bg 5 (rm hx17) bj)) (by kernel_rfl) (dI (ai [24,25] [(7,pI (IntKind.i64.wrap (v11+1)))] (by kernel_rfl) ?_))))
   exact aS hb13 () (nV rfl) bB
  refine aH ?_
  refine cq hb13 (fun ht=>aj rfl ?_)
  exact aw ((),l10) (rD rfl) bB ht.symm
 rintro ⟨_,l12⟩ τ hz;(try dsimp only at hz);subst q14;(try dsimp only at h);dsimp only [az]
 refine ae (ai [32] [(4,pL eS l12)] (by kernel_rfl) (cX ?_))
 exact zz r h rfl
def cG (p0:(List Za)) (p1:Za):Option Bool:=(aT (S:=Int) (T:=(Unit)⊕(_)) (fun v2=>cond (decide (v2<(p0.length:Int))) ((idx p0 v2).bind fun m6=>cond (Za.eqb m6 p1) (some (.inr (.inr true))) (some (.inl (IntKind.i64.wrap (v2+1))))) (some (.inr (.inl ())))) FUEL 0).bind fun q=>match q with | .inl _=>some false | .inr e=>some e
theorem gz {p0:(List Za)} {p1:Za} {r:Bool}  (h:cG p0 p1=some r):PF 68 [pL Za.enc p0,.agg [pI p1.Product,pI p1.Agreement]] (pB r):=by
 unfold cG at h
 refine bd ?_
 refine du Tryz.func68 rfl Tryz.ntmps68 Tryz.results68 rfl (da rfl (bf (cs:=[pI p1.Product,pI p1.Agreement]) rfl rfl (fun b1=>ba [4] (by kernel_rfl) (cj (ak [(5,pI 0)] (by kernel_rfl) (ft h fun q4 hq4 h=>?_))))))
 refine ar (Y:=Unit×Unit) (fun (_,_)=>[]) (fun (_,_)=>[]) (fun (_,_)=>q4=Sum.inl ()) ?_ ?_
 ·refine av ?_
  refine aC (Y:=Unit) (S:=Int) _ hq4 (fun _ v2=>[(0,pL Za.enc p0),(3,pP b1 0),(5,pI v2)]) (fun _ v2=>[PRes.b b1 28 [pI p1.Product,pI p1.Agreement]]) () (nV rfl) cK ?_
  rintro _ v2 o τ hb3;(try dsimp only at hb3);dsimp only [az]
  refine cT (bF [6,7,8] [(9,pB (decide (v2<(p0.length:Int))))] (by kernel_rfl) rfl hb3 (fun hc5 hb3=>?_) fun hc5 hb3=>?_)
  ·refine ah ?_
   refine dJ (bi (ρd:=[]) [(0,0),(1,0),(2,0),(3,0),(4,0),(5,0)] _ (List.Perm.refl _) (by kernel_rfl) rfl (aa hb3 fun m6 hm6 hb3=>bt 6 [0] (rg 12 5) [(17,pB (Za.eqb m6 p1))] (cL 2 Za.enc hm6 (DF 5 Za.eqok28 bj)) (by kernel_rfl) (bA (cR rfl hb3 (fun hc7 hb3=>?_) fun hc7 hb3=>?_))))
   ·refine ae ?_
    refine dg [(4,pB true)] (by kernel_rfl) (dH ?_)
    refine au hb3 (fun ht=>?_);subst ht
    refine cP ?_
    exact zz r h rfl
   refine ah ?_
   refine dI (ai [10,11] [(5,pI (IntKind.i64.wrap (v2+1)))] (by kernel_rfl) ?_)
   exact aS hb3 () (nV rfl) cK
  refine aH ?_
  refine cq hb3 (fun ht=>aj rfl ?_)
  exact aw ((),()) pz bB ht.symm
 rintro ⟨_,_⟩ τ hz;(try dsimp only at hz);subst q4;(try dsimp only at h);dsimp only [az]
 refine ae (dg [(4,pB false)] (by kernel_rfl) ?_)
 exact zz r h rfl
def iJ (p0:(List Int)) (p1:Int) (p2:(List Za)):Option (Za×Bool):=(aT (S:=Int) (T:=(Unit)⊕(_)) (fun v2=>cond (decide (v2<(p0.length:Int))) ((idx p0 v2).bind fun m6=>(cG p2 (⟨p1,m6⟩:Za)).bind fun x8=>cond x8 (some (.inr (.inr ((⟨p1,m6⟩:Za),true)))) (some (.inl (IntKind.i64.wrap (v2+1))))) (some (.inr (.inl ())))) FUEL 0).bind fun q=>match q with | .inl _=>some ((⟨0,0⟩:Za),false) | .inr e=>some e
theorem oj {p0:(List Int)} {p1:Int} {p2:(List Za)} {r:(Za×Bool)}  (h:iJ p0 p1 p2=some r):PF 58 [pL eI p0,pI p1,pL Za.enc p2] (.tup [.agg [pI r.1.Product,pI r.1.Agreement],pB r.2]):=by
 unfold iJ at h
 refine bd ?_
 refine du Tryz.func58 rfl Tryz.ntmps58 Tryz.results58 rfl (da rfl (aL (cs:=[pI 0,pI 0]) rfl rfl rfl rfl (fun b1=>ba [7] (by kernel_rfl) (cj (ak [(8,pI 0)] (by kernel_rfl) (ft h fun q4 hq4 h=>?_))))))
 refine ar (Y:=Unit×Unit) (fun (_,_)=>[(6,pP b1 0)]) (fun (_,_)=>[PRes.b b1 28 [pI 0,pI 0]]) (fun (_,_)=>q4=Sum.inl ()) ?_ ?_
 ·refine av ?_
  refine aC (Y:=Unit) (S:=Int) _ hq4 (fun _ v2=>[(0,pL eI p0),(1,pI p1),(2,pL Za.enc p2),(6,pP b1 0),(8,pI v2)]) (fun _ v2=>[PRes.b b1 28 [pI 0,pI 0]]) () (ns rfl) cK ?_
  rintro _ v2 o τ hb3;(try dsimp only at hb3);dsimp only [az]
  refine cT (bF [10,11,12] [(13,pB (decide (v2<(p0.length:Int))))] (by kernel_rfl) rfl hb3 (fun hc5 hb3=>?_) fun hc5 hb3=>?_)
  ·refine ah ?_
   refine dJ (aa hb3 fun m6 hm6 hb3=>af (aU 6 [] (rg 16 5) [(21,.agg [pI p1,pI m6])] (cL 3 eI hm6 bj) (by kernel_rfl) (ap rfl (aL (cs:=[pI 0,pI 0]) rfl rfl rfl rfl (fun b7=>aP rfl rfl (am (vs:=[pI p1,pI m6]) rfl rfl rfl rfl rfl ce sQ (aF (de hb3 fun x8 hx8 hb3=>aq [0] [22,23] [(24,pB x8)] (bg 2 (gz hx8) bj) (by kernel_rfl) (cR rfl hb3 (fun hc9 hb3=>?_) fun hc9 hb3=>?_)))))))))
   ·refine ae ?_
    refine af (gt 1 [0] [(25,.agg [pI p1,pI m6])] (by kernel_rfl) (aP rfl rfl (am (vs:=[pI p1,pI m6]) rfl rfl rfl rfl rfl (dA ce) sQ (aN [(7,pB true)] (by kernel_rfl) (cX (dH ?_))))))
    refine au hb3 (fun ht=>?_);subst ht
    refine cP ?_
    obtain rfl:=osi h
    exact aM (cd (dC rfl wU rfl) (aK rfl)) bB ⟨rfl,rfl⟩
   refine ah ?_
   refine dI (ai [14,15] [(8,pI (IntKind.i64.wrap (v2+1)))] (by kernel_rfl) ?_)
   exact aS hb3 () (ns rfl) (be (aB aO) bB)
  refine aH ?_
  refine cq hb3 (fun ht=>aj rfl ?_)
  exact aw ((),()) (rD rfl) cK ht.symm
 rintro ⟨_,_⟩ τ hz;(try dsimp only at hz);subst q4;(try dsimp only at h);dsimp only [az]
 refine ae (af (aD 1 [(26,.agg [pI 0,pI 0])] (by kernel_rfl) (aP rfl rfl (am (vs:=[pI 0,pI 0]) rfl rfl rfl rfl rfl ce sQ (aN [(7,pB false)] (by kernel_rfl) (cX ?_))))))
 obtain rfl:=osi h
 exact aM (cd (dC rfl gb rfl) (aK rfl)) bB ⟨rfl,rfl⟩
def ld (p0:Za) (p1:Za):Option Bool:=some ((decide (p0.Product<p1.Product))||((p0.Product == p1.Product)&&(decide (p0.Agreement<p1.Agreement))))
theorem w0 {p0:Za} {p1:Za} {r:Bool}  (h:ld p0 p1=some r):PF 106 [.agg [pI p0.Product,pI p0.Agreement],.agg [pI p1.Product,pI p1.Agreement]] (pB r):=by
 unfold ld at h
 refine bd ?_
 refine du Tryz.func106 rfl Tryz.ntmps106 Tryz.results106 rfl (da rfl (bf (cs:=[pI p0.Product,pI p0.Agreement]) rfl rfl (fun b1=>ap rfl (bf (cs:=[pI p1.Product,pI p1.Agreement]) rfl rfl (fun b2=>ba [4] (by kernel_rfl) (bZ (aJ [1,0,1,0,1,0] (rg 5 19) [(4,pB ((decide (p0.Product<p1.Product))||((p0.Product == p1.Product)&&(decide (p0.Agreement<p1.Agreement)))))] (by kernel_rfl) (cX ?_))))))))
 exact zz r h rfl
def eU (p0:(List Za)) (p1:Za):Option (List Za):=(cG p0 p1).bind fun x2=>cond x2 (some p0) ((aT (S:=Int) (T:=(Int)) (fun v4=>(gd (decide (v4<(p0.length:Int))) (idx p0 v4)).bind fun m8=>(gd (decide (v4<(p0.length:Int))) (ld m8 p1)).bind fun x9=>cond ((decide (v4<(p0.length:Int)))&&x9) (some (.inl (IntKind.i64.wrap (v4+1)))) (some (.inr v4))) FUEL 0).bind fun v5=>(sub p0 0 v5).bind fun l11=>(sub p0 v5 (p0.length:Int)).bind fun l12=>(app 16 ([]:List Za) l11).bind fun l15=>(app 16 l15 [p1]).bind fun l21=>(app 16 l21 l12).bind fun l25=>some l25)
theorem lx {p0:(List Za)} {p1:Za} {r:(List Za)}  (h:eU p0 p1=some r):PF 59 [pL Za.enc p0,.agg [pI p1.Product,pI p1.Agreement]] (pL Za.enc r):=by
 unfold eU at h
 refine bd ?_
 refine du Tryz.func59 rfl Tryz.ntmps59 Tryz.results59 rfl (da rfl (bf (cs:=[pI p1.Product,pI p1.Agreement]) rfl rfl (fun b1=>ba [4] (by kernel_rfl) (cj (aa h fun x2 hx2 h=>aq [0] [6,7] [(8,pB x2)] (bg 2 (gz hx2) bj) (by kernel_rfl) (cR rfl h (fun hc3 h=>?_) fun hc3 h=>?_))))))
 ·refine ae ?_
  refine ai [9] [(4,pL Za.enc p0)] (by kernel_rfl) (cX (al ?_))
  exact zz r h rfl
 refine ah ?_
 refine bZ (ak [(5,pI 0)] (by kernel_rfl) (de h fun q7 hq7 h=>?_))
 refine ar (Y:=Unit×Int) (fun (_,v5)=>[(0,pL Za.enc p0),(3,pP b1 0),(5,pI v5)]) (fun (_,v5)=>[PRes.b b1 28 [pI p1.Product,pI p1.Agreement]]) (fun (_,v5)=>q7=v5) ?_ ?_
 ·refine av ?_
  refine aC (Y:=Unit) (S:=Int) _ hq7 (fun _ v4=>[(0,pL Za.enc p0),(3,pP b1 0),(5,pI v4)]) (fun _ v4=>[PRes.b b1 28 [pI p1.Product,pI p1.Agreement]]) () (nV rfl) cK ?_
  rintro _ v4 o τ hb6;(try dsimp only at hb6);dsimp only [az]
  refine cT (bi (ρd:=[]) [(0,0),(1,0),(2,0),(3,0),(4,0),(5,0),(6,0),(7,0),(8,0),(9,0),(10,1),(11,0)] _ (List.Perm.refl _) (by kernel_rfl) rfl (aa hb6 fun m8 hm8 hb6=>aa hb6 fun x9 hx9 hb6=>bt 12 [0] (rg 10 11) [(21,pB ((decide (v4<(p0.length:Int)))&&x9))] (eK 7 Za.enc (cF hm8) (eM 10 (fun hc=>w0 (cF hx9 hc)) bj)) (by kernel_rfl) (bA (cR rfl hb6 (fun hc10 hb6=>?_) fun hc10 hb6=>?_))))
  ·refine ah ?_
   refine aX (av (ai [22,23] [(5,pI (IntKind.i64.wrap (v4+1)))] (by kernel_rfl) (aG ?_)))
   exact aS hb6 () (nV rfl) cK
  refine aH ?_
  refine cq hb6 (fun ht=>aj rfl ?_)
  exact aw ((),v4) (nV rfl) cK ht.symm
 rintro ⟨_,v5⟩ τ hz;(try dsimp only at hz);subst q7;(try dsimp only at h);dsimp only [az]
 refine ae (bi (ρd:=[]) [(1,0),(2,0),(3,0),(5,0),(6,3),(8,0),(9,0),(10,0),(0,1),(4,1),(6,2),(7,1),(11,1),(12,0)] _ (List.Perm.refl _) (by kernel_rfl) rfl (aa h fun l11 hl11 h=>bt 4 [0] [25,26] [(27,pL Za.enc l11),(29,.agg [pI p1.Product,pI p1.Agreement])] (vz 2 Za.enc 2 (fun _=>rfl) hl11 bj) (by kernel_rfl) (zW (qR rfl rfl rfl rfl rfl (ij rfl kf) rfl rfl rfl) (aa h fun l12 hl12 h=>bt 3 [] [32,33] [(34,pL Za.enc l12)] (vz 2 Za.enc 2 (fun _=>rfl) hl12 bj) (by kernel_rfl) (iT rfl rfl rfl (bN rfl rfl rfl rfl rfl kf rfl rfl rfl rfl (fun b13=>aa h fun l15 hl15 h=>?_)))))))
 refine iT rfl rfl rfl (iq (enc:=Za.enc) rfl rfl rfl rfl rfl (fun _=>rfl) rfl rfl rfl (by exact aO) hl15 (fun a16 c17=>?_))
 refine sk (qR rfl rfl rfl rfl rfl (ij rfl kf) rfl rfl rfl) (fun _=>rfl) rfl (fun b19=>aa h fun l21 hl21 h=>?_)
 refine iT rfl rfl rfl (zV (enc:=Za.enc) rfl rfl rfl rfl rfl (fun _=>rfl) rfl rfl rfl rfl gb rfl (by exact aB aO) hl21 (fun a22 c23=>?_))
 refine aa h fun l25 hl25 h=>?_
 refine iT rfl rfl rfl (iq (enc:=Za.enc) rfl rfl rfl rfl rfl (fun _=>rfl) rfl rfl rfl (by exact aO) hl25 (fun a26 c27=>?_))
 refine iW 1 [(4,pO a26 l25.length c27)] (by kernel_rfl) (bA (aX ?_))
 refine fe (enc:=Za.enc) (xs:=l25) 4 rfl (by exact aO) ?_
 refine bR ?_
 exact zz r h rfl
def gS (p0:Zm) (p1:Zm):Option (Zm×Bool):=Option.bind (cond (decide ((IntKind.u64.wrap (p0.Lo+p1.Lo))<p0.Lo)) (lb ((IntKind.u64.wrap ((IntKind.u64.wrap (p0.Hi+p1.Hi))+1))) (fun w8=>some (w8,((decide ((IntKind.u64.wrap (p0.Hi+p1.Hi))<p0.Hi))||(w8 == 0))))) (some ((IntKind.u64.wrap (p0.Hi+p1.Hi)),(decide ((IntKind.u64.wrap (p0.Hi+p1.Hi))<p0.Hi))))) (fun (v4,v5)=>some ((⟨v4,(IntKind.u64.wrap (p0.Lo+p1.Lo))⟩:Zm),v5))
theorem mF {p0:Zm} {p1:Zm} {r:(Zm×Bool)}  (h:gS p0 p1=some r):PF 155 [.agg [pU p0.Hi,pU p0.Lo],.agg [pU p1.Hi,pU p1.Lo]] (.tup [.agg [pU r.1.Hi,pU r.1.Lo],pB r.2]):=by
 unfold gS at h
 refine bd ?_
 refine du Tryz.func155 rfl Tryz.ntmps155 Tryz.results155 rfl (da rfl (bf (cs:=[pU p0.Hi,pU p0.Lo]) rfl rfl (fun b1=>ap rfl (bf (cs:=[pU p1.Hi,pU p1.Lo]) rfl rfl (fun b2=>ap rfl (aL (cs:=[pU 0,pU 0]) rfl rfl rfl rfl (fun b3=>ba [5] (by kernel_rfl) (bZ (bi (ρd:=[]) [(0,0),(1,0),(2,0),(3,0),(4,0),(5,0),(6,0),(7,0),(8,0),(9,0),(10,0),(11,0)] _ (List.Perm.refl _) (by kernel_rfl) rfl (qd 12 [2,1,2,1] (rg 9 10) [(6,pU (IntKind.u64.wrap (p0.Lo+p1.Lo))),(7,pU (IntKind.u64.wrap (p0.Hi+p1.Hi)))] (by kernel_rfl) (bA (bZ (aJ [2] [19,20,21,22] [(8,pB (decide ((IntKind.u64.wrap (p0.Hi+p1.Hi))<p0.Hi)))] (by kernel_rfl) (cj (aJ [2] [23,24,25] [(26,pB (decide ((IntKind.u64.wrap (p0.Lo+p1.Lo))<p0.Lo)))] (by kernel_rfl) (ft h fun q6 hq6 h=>?_))))))))))))))))
 refine ar (Y:=Unit×(Int×Bool)) (fun (_,(v4,v5))=>[(4,pP b3 0),(6,pU (IntKind.u64.wrap (p0.Lo+p1.Lo))),(7,pU v4),(8,pB v5)]) (fun (_,(v4,v5))=>[PRes.b b3 167 [pU 0,pU 0]]) (fun (_,(v4,v5))=>q6=(v4,v5)) ?_ ?_
 ·skip
  refine kq rfl hq6 (fun hc7 hq6=>?_) fun hc7 hq6=>?_
  ·refine ae ?_
   refine e9 hq6 ?_;clear hq6;intro w8 hw8 hq6
   refine af (cE 2 [27] [(28,pU (IntKind.u64.wrap ((IntKind.u64.wrap (p0.Hi+p1.Hi))+1)))] (by kernel_rfl) (bX rfl rfl rfl (bV rfl (.p (congrArg (fun z=>PV.v (Value.int .u64 z)) hw8))) (aF (aX (ai (rg 29 5) [(8,pB ((decide ((IntKind.u64.wrap (p0.Hi+p1.Hi))<p0.Hi))||(w8 == 0)))] (by kernel_rfl) ?_)))))
   obtain rfl:=osi hq6
   exact aw ((),(w8,((decide ((IntKind.u64.wrap (p0.Hi+p1.Hi))<p0.Hi))||(w8 == 0)))) (iR rfl) cK rfl
  refine ah ?_
  obtain rfl:=osi hq6
  exact aw ((),((IntKind.u64.wrap (p0.Hi+p1.Hi)),(decide ((IntKind.u64.wrap (p0.Hi+p1.Hi))<p0.Hi)))) (iR rfl) cK rfl
 rintro ⟨_,⟨v4,v5⟩⟩ τ hz;(try dsimp only at hz);subst q6;(try dsimp only at h);dsimp only [az]
 refine ae (af (cE 4 [34,35] [(36,.agg [pU v4,pU (IntKind.u64.wrap (p0.Lo+p1.Lo))]),(37,pB v5)] (by kernel_rfl) (aP rfl rfl (am (vs:=[pU v4,pU (IntKind.u64.wrap (p0.Lo+p1.Lo))]) rfl rfl rfl rfl rfl ce sQ (aN [(5,pB v5)] (by kernel_rfl) (cX ?_))))))
 obtain rfl:=osi h
 exact aM (cd (dC rfl gb rfl) (aK rfl)) bB ⟨rfl,rfl⟩
def kz (p0:Zm) (p1:Int):Option (Zm×Int):=(aT (S:=Int×Int×Int×Int) (T:=(Int×Int×Int)) (fun (v4,v5,v6,v7)=>cond (decide (0≤v5)) (((lF (dq .i64 v5 63)).bind fun u18=>lb ((dq .u64 (cD .u64 p0.Lo (dq .i64 v5 63)) 1)) (fun w19=>Option.bind (cond (decide (63<v5)) ((lF (IntKind.i64.wrap (v5 - 64))).bind fun u23=>lb ((dq .u64 (cD .u64 p0.Hi (IntKind.i64.wrap (v5 - 64))) 1)) (fun w24=>some w24)) (some w19)) (fun v20=>(gS (⟨v6,v7⟩:Zm) (⟨v6,v7⟩:Zm)).bind fun x25=>cond (((cD .u64 v4 63) == 1)||(decide (p1≤(oz .u64 (fz .u64 v4 1) v20)))) (lb ((IntKind.u64.wrap ((oz .u64 (fz .u64 v4 1) v20) - p1))) (fun w27=>some (w27,x25.1.Hi,(oz .u64 x25.1.Lo 1)))) (some ((oz .u64 (fz .u64 v4 1) v20),x25.1.Hi,x25.1.Lo))))).bind fun (v14,v15,v16)=>some (.inl (v14,(IntKind.i64.wrap (v5 - 1)),v15,v16))) (some (.inr (v4,v6,v7)))) FUEL (0,127,0,0)).bind fun (v8,v9,v10)=>some ((⟨v9,v10⟩:Zm),v8)
theorem us {p0:Zm} {p1:Int} {r:(Zm×Int)}  (h:kz p0 p1=some r):PF 154 [.agg [pU p0.Hi,pU p0.Lo],pU p1] (.tup [.agg [pU r.1.Hi,pU r.1.Lo],pU r.2]):=by
 unfold kz at h
 refine bd ?_
 refine du Tryz.func154 rfl Tryz.ntmps154 Tryz.results154 rfl (da rfl (bf (cs:=[pU p0.Hi,pU p0.Lo]) rfl rfl (fun b1=>ap rfl (aL (cs:=[pU 0,pU 0]) rfl rfl rfl rfl (fun b2=>ba [5] (by kernel_rfl) (bZ (af (aD 1 [(11,.agg [pU 0,pU 0])] (by kernel_rfl) (ap rfl (aL (cs:=[pU 0,pU 0]) rfl rfl rfl rfl (fun b3=>aP rfl rfl (am (vs:=[pU 0,pU 0]) rfl rfl rfl rfl rfl ce sQ (aN [(7,pU 0)] (by kernel_rfl) (cj (ak [(8,pI 127)] (by kernel_rfl) (ft h fun q12 hq12 h=>?_))))))))))))))))
 refine ar (Y:=Unit×(Int×Int×Int)) (fun (_,(v8,v9,v10))=>[(4,pP b2 0),(6,pP b3 0),(7,pU v8)]) (fun (_,(v8,v9,v10))=>[PRes.b b2 167 [pU 0,pU 0],PRes.b b3 167 [pU v9,pU v10]]) (fun (_,(v8,v9,v10))=>q12=(v8,v9,v10)) ?_ ?_
 ·refine av ?_
  refine aC (Y:=Unit) (S:=Int×Int×Int×Int) _ hq12 (fun _ (v4,v5,v6,v7)=>[(1,pU p1),(2,pP b1 0),(4,pP b2 0),(6,pP b3 0),(7,pU v4),(8,pI v5)]) (fun _ (v4,v5,v6,v7)=>[PRes.b b1 167 [pU p0.Hi,pU p0.Lo],PRes.b b2 167 [pU 0,pU 0],PRes.b b3 167 [pU v6,pU v7]]) () (p9 rfl) (be (aB (aB aO)) (be (aB aO) cK)) ?_
  rintro _ ⟨v4,v5,v6,v7⟩ o τ hb11;(try dsimp only at hb11);dsimp only [az]
  refine cT (bF [12] [(13,pB (decide (0≤v5)))] (by kernel_rfl) rfl hb11 (fun hc13 hb11=>?_) fun hc13 hb11=>?_)
  ·refine ah ?_
   refine de hb11 fun q17 hq17 hb11=>?_
   refine ar (Y:=Unit×(Int×Int×Int)) (fun (_,(v14,v15,v16))=>[(1,pU p1),(2,pP b1 0),(4,pP b2 0),(6,pP b3 0),(7,pU v14),(8,pI v5)]) (fun (_,(v14,v15,v16))=>[PRes.b b1 167 [pU p0.Hi,pU p0.Lo],PRes.b b2 167 [pU 0,pU 0],PRes.b b3 167 [pU v15,pU v16]]) (fun (_,(v14,v15,v16))=>q17=(v14,v15,v16)) ?_ ?_
   ·skip
    refine qU (aa hq17 fun u18 hu18 hq17=>?_)
    refine e9 hq17 ?_;clear hq17;intro w19 hw19 hq17
    refine af (aU 6 [0] (rg 16 5) [(21,pU (dq .u64 (cD .u64 p0.Lo (dq .i64 v5 63)) 1))] (un 4 hu18 bj) (by kernel_rfl) (bX rfl rfl rfl (bV rfl (.p (congrArg (fun z=>PV.v (Value.int .u64 z)) hw19))) (aF (cj (ai [22] [(23,pB (decide (63<v5)))] (by kernel_rfl) (ft hq17 fun q21 hq21 hq17=>?_))))))
    refine ar (Y:=Unit×Int) (fun (_,v20)=>[(1,pU p1),(2,pP b1 0),(4,pP b2 0),(6,pP b3 0),(7,pU v4),(8,pI v5),(9,pU v20)]) (fun (_,v20)=>[PRes.b b1 167 [pU p0.Hi,pU p0.Lo],PRes.b b2 167 [pU 0,pU 0],PRes.b b3 167 [pU v6,pU v7]]) (fun (_,v20)=>q21=v20) ?_ ?_
    ·skip
     refine kq rfl hq21 (fun hc22 hq21=>?_) fun hc22 hq21=>?_
     ·refine aa hq21 ?_;clear hq21;intro u23 hu23 hq21
      refine e9 hq21 ?_;clear hq21;intro w24 hw24 hq21
      refine af (aU 6 [0] (rg 24 5) [(29,pU (dq .u64 (cD .u64 p0.Hi (IntKind.i64.wrap (v5 - 64))) 1))] (un 4 hu23 bj) (by kernel_rfl) (bX rfl rfl rfl (bV rfl (.p (congrArg (fun z=>PV.v (Value.int .u64 z)) hw24))) (aF ?_)))
      obtain rfl:=osi hq21
      exact aw ((),w24) (sR rfl) A7 rfl
     refine ah ?_
     obtain rfl:=osi hq21
     exact aw ((),w19) (sR rfl) A7 rfl
    rintro ⟨_,v20⟩ τ hz;(try dsimp only at hz);subst q21;(try dsimp only at hq17);dsimp only [az]
    refine ae (ai [30,31] [(10,pU (cD .u64 v4 63))] (by kernel_rfl) (bZ (ai [32,33,34,35] [(7,pU (oz .u64 (fz .u64 v4 1) v20))] (by kernel_rfl) (de hq17 fun x25 hx25 hq17=>af (aU 6 [2,2] [37,38,39,36,41] [(40,.agg [pU x25.1.Hi,pU x25.1.Lo])] (bg 2 (mF hx25) bj) (by kernel_rfl) (aP rfl rfl (am (vs:=[pU x25.1.Hi,pU x25.1.Lo]) rfl rfl rfl rfl rfl (dA (dA ce)) sQ (aF (bZ (bF (rg 42 6) [(48,pB (((cD .u64 v4 63) == 1)||(decide (p1≤(oz .u64 (fz .u64 v4 1) v20)))))] (by kernel_rfl) rfl hq17 (fun hc26 hq17=>?_) fun hc26 hq17=>?_))))))))))
    ·refine ae ?_
     refine e9 hq17 ?_;clear hq17;intro w27 hw27 hq17
     refine af (cE 3 [49,50] [(51,pU (IntKind.u64.wrap ((oz .u64 (fz .u64 v4 1) v20) - p1)))] (by kernel_rfl) (bX rfl rfl rfl (bV rfl (.p (congrArg (fun z=>PV.v (Value.int .u64 z)) hw27))) (aF (aX (af (cO 4 [2] [52,53] [(54,pU (oz .u64 x25.1.Lo 1)),(55,pP b3 1)] (by kernel_rfl) (aP rfl rfl (am (vs:=[pU (oz .u64 x25.1.Lo 1)]) rfl rfl rfl rfl rfl (dA (dA ce)) (dX oA) (aF (aG ?_))))))))))
     obtain rfl:=osi hq17
     exact aw ((),(w27,x25.1.Hi,(oz .u64 x25.1.Lo 1))) (p9 rfl) A7 rfl
    refine ah ?_
    refine aG ?_
    obtain rfl:=osi hq17
    exact aw ((),((oz .u64 (fz .u64 v4 1) v20),x25.1.Hi,x25.1.Lo)) (p9 rfl) A7 rfl
   rintro ⟨_,⟨v14,v15,v16⟩⟩ τ hz;(try dsimp only at hz);subst q17;(try dsimp only at hb11);dsimp only [az]
   refine ai [14,15] [(8,pI (IntKind.i64.wrap (v5 - 1)))] (by kernel_rfl) ?_
   exact aS hb11 () (p9 rfl) A7
  refine aH ?_
  refine cq hb11 (fun ht=>aj rfl ?_)
  exact aw ((),(v4,v6,v7)) (nV rfl) (be (aB aO) (be (aB aO) bB)) ht.symm
 rintro ⟨_,⟨v8,v9,v10⟩⟩ τ hz;(try dsimp only at hz);subst q12;(try dsimp only at h);dsimp only [az]
 refine ae (af (gt 2 [1] [(56,.agg [pU v9,pU v10]),(57,pU v8)] (by kernel_rfl) (aP rfl rfl (am (vs:=[pU v9,pU v10]) rfl rfl rfl rfl rfl ce sQ (aN [(5,pU v8)] (by kernel_rfl) (cX ?_))))))
 obtain rfl:=osi h
 exact aM (cd (dC rfl gb rfl) (aK rfl)) bB ⟨rfl,rfl⟩
def ol (p0:Zm) (p1:Int) (p2:Int):Option (Int×Int):=cond (((p1 == 0)||(decide (p2<0)))||(decide (3<p2))) (some ((0:Int),(2:Int))) ((kz p0 p1).bind fun x3=>Option.bind (cond (p2 == 1) (some (decide (0<x3.2))) (cond (p2 == 2) (some (decide ((IntKind.u64.wrap (p1 - x3.2))≤x3.2))) (cond (p2 == 3) (some ((decide ((IntKind.u64.wrap (p1 - x3.2))<x3.2))||((x3.2 == (IntKind.u64.wrap (p1 - x3.2)))&&((dq .u64 x3.1.Lo 1) == 1)))) (some false)))) (fun v5=>Option.bind (cond v5 ((gS x3.1 (⟨0,1⟩:Zm)).bind fun x14=>some (x14.1.Hi,x14.1.Lo)) (some (x3.1.Hi,x3.1.Lo))) (fun (v10,v11)=>cond (decide (0<v10)) (some ((0:Int),(3:Int))) (some (v11,(0:Int))))))
theorem yO {p0:Zm} {p1:Int} {p2:Int} {r:(Int×Int)}  (h:ol p0 p1 p2=some r):PF 107 [.agg [pU p0.Hi,pU p0.Lo],pU p1,pI p2] (.tup [pU r.1,pI r.2]):=by
 unfold ol at h
 refine bd ?_
 refine du Tryz.func107 rfl Tryz.ntmps107 Tryz.results107 rfl (da rfl (bf (cs:=[pU p0.Hi,pU p0.Lo]) rfl rfl (fun b1=>ba [6,7] (by kernel_rfl) (cj (bF (rg 11 9) [(20,pB (((p1 == 0)||(decide (p2<0)))||(decide (3<p2))))] (by kernel_rfl) rfl h (fun hc2 h=>?_) fun hc2 h=>?_)))))
 ·refine ae ?_
  refine dg [(6,pU 0),(7,pI 2)] (by kernel_rfl) (al ?_)
  obtain rfl:=osi h
  exact aM (cd (aK rfl) (aK rfl)) bB ⟨rfl,rfl⟩
 refine ah ?_
 refine de h fun x3 hx3 h=>af (aU 6 [0] [22,23,24,21] [(25,.agg [pU x3.1.Hi,pU x3.1.Lo]),(26,pU x3.2)] (bg 2 (us hx3) bj) (by kernel_rfl) (ap rfl (aL (cs:=[pU 0,pU 0]) rfl rfl rfl rfl (fun b4=>aP rfl rfl (am (vs:=[pU x3.1.Hi,pU x3.1.Lo]) rfl rfl rfl rfl rfl ce sQ (aN [(9,pU x3.2)] (by kernel_rfl) (bZ (ak [(10,pB false)] (by kernel_rfl) (cj (ak [(27,pI p2)] (by kernel_rfl) (ft h fun q6 hq6 h=>?_)))))))))))
 refine ar (Y:=Unit×Bool) (fun (_,v5)=>[(8,pP b4 0),(10,pB v5)]) (fun (_,v5)=>[PRes.b b4 167 [pU x3.1.Hi,pU x3.1.Lo]]) (fun (_,v5)=>q6=v5) ?_ ?_
 ·skip
  refine qU (bF [29] [(28,pB (p2 == 1))] (by kernel_rfl) rfl hq6 (fun hc7 hq6=>?_) fun hc7 hq6=>?_)
  ·refine ai [30,31] [(10,pB (decide (0<x3.2)))] (by kernel_rfl) ?_
   refine aG ?_
   obtain rfl:=osi hq6
   exact aw ((),(decide (0<x3.2))) (mq rfl) cK rfl
  refine ae ?_
  refine bF [33] [(32,pB (p2 == 2))] (by kernel_rfl) rfl hq6 (fun hc8 hq6=>?_) fun hc8 hq6=>?_
  ·refine ai (rg 34 5) [(10,pB (decide ((IntKind.u64.wrap (p1 - x3.2))≤x3.2)))] (by kernel_rfl) ?_
   refine aG ?_
   obtain rfl:=osi hq6
   exact aw ((),(decide ((IntKind.u64.wrap (p1 - x3.2))≤x3.2))) (mq rfl) cK rfl
  refine ae ?_
  refine bF [40] [(39,pB (p2 == 3))] (by kernel_rfl) rfl hq6 (fun hc9 hq6=>?_) fun hc9 hq6=>?_
  ·refine aJ [0] (rg 41 18) [(10,pB ((decide ((IntKind.u64.wrap (p1 - x3.2))<x3.2))||((x3.2 == (IntKind.u64.wrap (p1 - x3.2)))&&((dq .u64 x3.1.Lo 1) == 1))))] (by kernel_rfl) ?_
   refine aG ?_
   obtain rfl:=osi hq6
   exact aw ((),((decide ((IntKind.u64.wrap (p1 - x3.2))<x3.2))||((x3.2 == (IntKind.u64.wrap (p1 - x3.2)))&&((dq .u64 x3.1.Lo 1) == 1)))) (mq rfl) cK rfl
  refine ah ?_
  refine aG ?_
  obtain rfl:=osi hq6
  exact aw ((),false) (mq rfl) cK rfl
 rintro ⟨_,v5⟩ τ hz;(try dsimp only at hz);subst q6;(try dsimp only at h);dsimp only [az]
 refine cT (ak [(59,pB v5)] (by kernel_rfl) (ft h fun q12 hq12 h=>?_))
 refine ar (Y:=Unit×(Int×Int)) (fun (_,(v10,v11))=>[(8,pP b4 0)]) (fun (_,(v10,v11))=>[PRes.b b4 167 [pU v10,pU v11]]) (fun (_,(v10,v11))=>q12=(v10,v11)) ?_ ?_
 ·skip
  refine kq rfl hq12 (fun hc13 hq12=>?_) fun hc13 hq12=>?_
  ·refine aa hq12 ?_;clear hq12;intro x14 hx14 hq12
   refine af (aU 6 [0] [61,62,63,60,65] [(64,.agg [pU x14.1.Hi,pU x14.1.Lo])] (bg 2 (mF hx14) bj) (by kernel_rfl) (aP rfl rfl (am (vs:=[pU x14.1.Hi,pU x14.1.Lo]) rfl rfl rfl rfl rfl ce sQ (aF ?_))))
   obtain rfl:=osi hq12
   exact aw ((),(x14.1.Hi,x14.1.Lo)) (rD rfl) cK rfl
  refine ah ?_
  obtain rfl:=osi hq12
  exact aw ((),(x3.1.Hi,x3.1.Lo)) (rD rfl) cK rfl
 rintro ⟨_,⟨v10,v11⟩⟩ τ hz;(try dsimp only at hz);subst q12;(try dsimp only at h);dsimp only [az]
 refine cT (aJ [0] [66,67] [(68,pB (decide (0<v10)))] (by kernel_rfl) (cR rfl h (fun hc15 h=>?_) fun hc15 h=>?_))
 ·refine ae ?_
  refine dg [(6,pU 0),(7,pI 3)] (by kernel_rfl) (al ?_)
  obtain rfl:=osi h
  exact aM (cd (aK rfl) (aK rfl)) bB ⟨rfl,rfl⟩
 refine ah ?_
 refine bZ (aJ [0] [69,70] [(6,pU v11),(7,pI 0)] (by kernel_rfl) (cX ?_))
 obtain rfl:=osi h
 exact aM (cd (aK rfl) (aK rfl)) bB ⟨rfl,rfl⟩
def jX (p0:Int) (p1:Int):Option Zm:=(aT (S:=Int×Int×Int) (T:=(Int×Int)) (fun (v3,v4,v5)=>cond (decide (0≤v3)) (((gS (⟨v4,v5⟩:Zm) (⟨v4,v5⟩:Zm)).bind fun x14=>(lF v3).bind fun u15=>cond ((dq .u64 (cD .u64 p1 v3) 1) == 1) ((gS x14.1 (⟨0,p0⟩:Zm)).bind fun x17=>some (x17.1.Hi,x17.1.Lo)) (some (x14.1.Hi,x14.1.Lo))).bind fun (v11,v12)=>some (.inl ((IntKind.i64.wrap (v3 - 1)),v11,v12))) (some (.inr (v4,v5)))) FUEL (63,0,0)).bind fun (v6,v7)=>some (⟨v6,v7⟩:Zm)
theorem oS {p0:Int} {p1:Int} {r:Zm}  (h:jX p0 p1=some r):PF 108 [pU p0,pU p1] (.agg [pU r.Hi,pU r.Lo]):=by
 unfold jX at h
 refine bd ?_
 refine du Tryz.func108 rfl Tryz.ntmps108 Tryz.results108 rfl (da rfl (aL (cs:=[pU 0,pU 0]) rfl rfl rfl rfl (fun b1=>aF (bZ (af (aD 1 [(7,.agg [pU 0,pU 0])] (by kernel_rfl) (ap rfl (aL (cs:=[pU 0,pU 0]) rfl rfl rfl rfl (fun b2=>aP rfl rfl (am (vs:=[pU 0,pU 0]) rfl rfl rfl rfl rfl ce sQ (aF (cj (ak [(6,pI 63)] (by kernel_rfl) (ft h fun q9 hq9 h=>?_))))))))))))))
 refine ar (Y:=Unit×(Int×Int)) (fun (_,(v6,v7))=>[(4,pP b1 0),(5,pP b2 0)]) (fun (_,(v6,v7))=>[PRes.b b1 167 [pU 0,pU 0],PRes.b b2 167 [pU v6,pU v7]]) (fun (_,(v6,v7))=>q9=(v6,v7)) ?_ ?_
 ·refine av ?_
  refine aC (Y:=Unit) (S:=Int×Int×Int) _ hq9 (fun _ (v3,v4,v5)=>[(0,pU p0),(1,pU p1),(4,pP b1 0),(5,pP b2 0),(6,pI v3)]) (fun _ (v3,v4,v5)=>[PRes.b b1 167 [pU 0,pU 0],PRes.b b2 167 [pU v4,pU v5]]) () (ns rfl) (be (aB aO) cK) ?_
  rintro _ ⟨v3,v4,v5⟩ o τ hb8;(try dsimp only at hb8);dsimp only [az]
  refine cT (bF [8] [(9,pB (decide (0≤v3)))] (by kernel_rfl) rfl hb8 (fun hc10 hb8=>?_) fun hc10 hb8=>?_)
  ·refine ah ?_
   refine de hb8 fun q13 hq13 hb8=>?_
   refine ar (Y:=Unit×(Int×Int)) (fun (_,(v11,v12))=>[(0,pU p0),(1,pU p1),(4,pP b1 0),(5,pP b2 0),(6,pI v3)]) (fun (_,(v11,v12))=>[PRes.b b1 167 [pU 0,pU 0],PRes.b b2 167 [pU v11,pU v12]]) (fun (_,(v11,v12))=>q13=(v11,v12)) ?_ ?_
   ·skip
    refine qU (aa hq13 fun x14 hx14 hq13=>af (aU 6 [1,1] [13,14,15,12,17] [(16,.agg [pU x14.1.Hi,pU x14.1.Lo])] (bg 2 (mF hx14) bj) (by kernel_rfl) (aP rfl rfl (am (vs:=[pU x14.1.Hi,pU x14.1.Lo]) rfl rfl rfl rfl rfl (dA ce) sQ (aF (de hq13 fun u15 hu15 hq13=>aq [] [18,19,20,21] [(22,pB ((dq .u64 (cD .u64 p1 v3) 1) == 1))] (un 2 hu15 bj) (by kernel_rfl) (cR rfl hq13 (fun hc16 hq13=>?_) fun hc16 hq13=>?_)))))))
    ·refine aa hq13 ?_;clear hq13;intro x17 hx17 hq13
     refine af (aU 7 [1] [24,25,26,27,23,29] [(28,.agg [pU x17.1.Hi,pU x17.1.Lo])] (bg 3 (mF hx17) bj) (by kernel_rfl) (aP rfl rfl (am (vs:=[pU x17.1.Hi,pU x17.1.Lo]) rfl rfl rfl rfl rfl (dA ce) sQ (aF (aG ?_)))))
     obtain rfl:=osi hq13
     exact aw ((),(x17.1.Hi,x17.1.Lo)) (ns rfl) n8 rfl
    refine ah ?_
    refine aG ?_
    obtain rfl:=osi hq13
    exact aw ((),(x14.1.Hi,x14.1.Lo)) (ns rfl) n8 rfl
   rintro ⟨_,⟨v11,v12⟩⟩ τ hz;(try dsimp only at hz);subst q13;(try dsimp only at hb8);dsimp only [az]
   refine ai [10,11] [(6,pI (IntKind.i64.wrap (v3 - 1)))] (by kernel_rfl) ?_
   exact aS hb8 () (ns rfl) n8
  refine aH ?_
  refine cq hb8 (fun ht=>aj rfl ?_)
  exact aw ((),(v4,v5)) (mq rfl) n8 ht.symm
 rintro ⟨_,⟨v6,v7⟩⟩ τ hz;(try dsimp only at hz);subst q9;(try dsimp only at h);dsimp only [az]
 refine ae (af (gt 1 [1] [(30,.agg [pU v6,pU v7])] (by kernel_rfl) (aP rfl rfl (am (vs:=[pU v6,pU v7]) rfl rfl rfl rfl rfl ce sQ (aF (cX ?_))))))
 obtain rfl:=osi h
 exact aM (dp (dC rfl gb rfl)) bB ⟨rfl,rfl⟩
def kA (p0:Int) (p1:Int) (p2:Int) (p3:Int):Option (Int×Int):=(jX p0 p1).bind fun x1=>(ol x1 p2 p3).bind fun x2=>some (x2.1,x2.2)
theorem ut {p0:Int} {p1:Int} {p2:Int} {p3:Int} {r:(Int×Int)}  (h:kA p0 p1 p2 p3=some r):PF 60 [pU p0,pU p1,pU p2,pI p3] (.tup [pU r.1,pI r.2]):=by
 unfold kA at h
 refine bd ?_
 refine du Tryz.func60 rfl Tryz.ntmps60 Tryz.results60 rfl (aW [8,9] (by kernel_rfl) (de h fun x1 hx1 h=>aa h fun x2 hx2 h=>aq [] (rg 10 8) [(8,pU x2.1),(9,pI x2.2)] (bg 2 (oS hx1) (bg 5 (yO hx2) bj)) (by kernel_rfl) (cX ?_)))
 obtain rfl:=osi h
 exact aM (cd (aK rfl) (aK rfl)) bB ⟨rfl,rfl⟩
def fB (p0:(List Zc)) (p1:(List Zb)) (p2:ByteArray) (p3:Za) (p4:(List Za)):Option (Zl×(List Za)):=(cW p0 p1 p2 p3).bind fun x3=>cond (!x3) (some ((⟨ByteArray.empty,0,false,[],[]⟩:Zl),[])) ((dV p0 p3.Product).bind fun x5=>(dT p1 p3.Agreement).bind fun x7=>(i4 p1 p3.Agreement x5.1.Country p2).bind fun x9=>(aT (S:=(List Za)×(List ByteArray)×Int×(List Zk)) (T:=((List Za)×(List ByteArray)×(List Zk))) (fun (l13,l14,v15,l17)=>cond (decide (v15<(x5.1.Inputs.length:Int))) (((idx x5.1.Inputs v15).bind fun m37=>(dV p0 m37.Product).bind fun x39=>(gd (x7.1.Kind == 3) (iI x7.1.Parties x39.1.Country)).bind fun x41=>Option.bind (cond ((x7.1.Kind == 3)&&x41) ((jW l14 x39.1.Processes).bind fun x46=>some x46) (some l14)) (fun l42=>(iJ x9 x39.1.ID p4).bind fun x47=>Option.bind (cond x47.2 ((eU l13 x47.1).bind fun x53=>some x53) (some l13)) (fun l49=>cond ((x47.2||(!((x7.1.Kind == 3)&&x41)))||((x39.1.Inputs.length:Int) == 0)) ((app 32 l17 [(⟨x39.1.Code,m37.Value,x47.2⟩:Zk)]).bind fun l57=>some (l49,l42,l57)) ((aT (S:=(List Za)×Int×(List Zk)) (T:=((List Za)×(List Zk))) (fun (l61,v62,l64)=>cond (decide (v62<(x39.1.Inputs.length:Int))) ((idx x39.1.Inputs v62).bind fun m75=>(dV p0 m75.Product).bind fun x76=>(idx x39.1.Inputs v62).bind fun m78=>(kA (IntKind.u64.wrap m37.Value) (IntKind.u64.wrap m78.Value) (IntKind.u64.wrap x39.1.Price) 1).bind fun x79=>Option.bind (cond ((x79.2 == 0)&&(decide (x79.1<1000000000000))) (some (IntKind.i64.wrap x79.1)) (some 1000000000000)) (fun v80=>(iJ x9 x76.1.ID p4).bind fun x84=>Option.bind (cond x84.2 ((eU l61 x84.1).bind fun x90=>some x90) (some l61)) (fun l86=>(app 32 l64 [(⟨x76.1.Code,v80,x84.2⟩:Zk)]).bind fun l93=>some (.inl (l86,(IntKind.i64.wrap (v62+1)),l93))))) (some (.inr (l61,l64)))) FUEL (l49,0,l17)).bind fun (l67,l71)=>some (l67,l42,l71))))).bind fun (l30,l31,l35)=>some (.inl (l30,l31,(IntKind.i64.wrap (v15+1)),l35))) (some (.inr (l13,l14,l17)))) FUEL (([]:List Za),x5.1.Processes,0,([]:List Zk))).bind fun (l20,l21,l25)=>(sub l21 0 (oM (l21.length:Int) 8)).bind fun l98=>some ((⟨x5.1.Code,x5.1.Price,x5.1.Obtained,l98,l25⟩:Zl),l20))
theorem pD {p0:(List Zc)} {p1:(List Zb)} {p2:ByteArray} {p3:Za} {p4:(List Za)} {r:(Zl×(List Za))}  (h:fB p0 p1 p2 p3 p4=some r):PF 18 [pL Zc.enc p0,pL Zb.enc p1,pS p2,.agg [pI p3.Product,pI p3.Agreement],pL Za.enc p4] (.tup [.agg (bk r.1),pL Za.enc r.2]):=by
 unfold fB at h
 refine bd ?_
 refine du Tryz.func18 rfl Tryz.ntmps18 Tryz.results18 rfl (da rfl (bf (cs:=[pI p3.Product,pI p3.Agreement]) rfl rfl (fun b1=>ap rfl (aL (cs:=[pS ByteArray.empty,pI 0,pB false,pN,pN]) rfl rfl rfl rfl (fun b2=>ba [11] (by kernel_rfl) (cj (aa h fun x3 hx3 h=>aq [1] (rg 35 5) [(40,pB (!x3))] (bg 4 (jm hx3) bj) (by kernel_rfl) (cR rfl h (fun hc4 h=>?_) fun hc4 h=>?_))))))))
 ·refine ae ?_
  refine af (aD 1 [(41,.agg [pS ByteArray.empty,pI 0,pB false,pN,pN])] (by kernel_rfl) (aP rfl rfl (am (vs:=[pS ByteArray.empty,pI 0,pB false,pN,pN]) rfl rfl rfl rfl rfl ce Fi (aN [(11,pN)] (by kernel_rfl) (aX (cS (k:=3) (b:=b2) rfl ce (cS (k:=4) (b:=b2) rfl ce (hZ 11 rfl (bR (al ?_))))))))))
  obtain rfl:=osi h
  exact aM (cd (dC rfl gb rfl) (aK rfl)) bB ⟨rfl,rfl⟩
 refine ah ?_
 refine de h fun x5 hx5 h=>af (aU 7 [1] [43,44,45,46,42] [(47,.agg (aI x5.1)),(48,pB x5.2)] (bg 3 (iH hx5) bj) (by kernel_rfl) (ap rfl (aL (cs:=[pI 0,pS ByteArray.empty,pS ByteArray.empty,pI 0,pB false,pN,pN]) rfl rfl rfl rfl (fun b6=>aP rfl rfl (am (vs:=(aI x5.1)) rfl rfl rfl rfl rfl ce mX (ba [13] (by kernel_rfl) (de h fun x7 hx7 h=>af (aU 7 [2] [50,51,52,53,49] [(54,.agg (aA x7.1)),(55,pB x7.2)] (bg 3 (ic hx7) bj) (by kernel_rfl) (ap rfl (aL (cs:=[pI 0,pI 0,pN,pN]) rfl rfl rfl rfl (fun b8=>aP rfl rfl (am (vs:=(aA x7.1)) rfl rfl rfl rfl rfl ce xx (ba [15] (by kernel_rfl) (de h fun x9 hx9 h=>aq [3,1] (rg 56 7) [(16,pL eI x9)] (bg 6 (su hx9) bj) (by kernel_rfl) (bZ (af (cO 7 [1,1,1] (rg 63 6) [(69,.agg [pS x5.1.Code,pI x5.1.Price,pB x5.1.Obtained,pN,pN])] (by kernel_rfl) (ap rfl (bN rfl rfl rfl rfl rfl kf rfl rfl rfl rfl (fun b10=>ap rfl (aL (cs:=[pS ByteArray.empty,pI 0,pB false,pN,pN]) rfl rfl rfl rfl (fun b12=>aP rfl rfl (am (vs:=[pS x5.1.Code,pI x5.1.Price,pB x5.1.Obtained,pN,pN]) rfl rfl rfl rfl rfl ce Fi (aN [(18,pO (some ⟨b10,0,none⟩) 0 0)] (by kernel_rfl) (bZ (aJ [3] [71,72] [(19,pL eS x5.1.Processes)] (by kernel_rfl) (cj (ak [(20,pI 0)] (by kernel_rfl) (aX (di 103 3 ?_))))))))))))))))))))))))))))))
 refine fe (enc:=Za.enc) (xs:=([]:List Za)) 18 rfl (by exact aB (aB aO)) ?_
 refine aa h fun q27 hq27 h=>?_
 refine ar (Y:=(Option Addr×Nat)×((List Za)×(List ByteArray)×(List Zk))) (fun ((a23,c24),(l20,l21,l25))=>[(10,pP b2 0),(17,pP b12 0),(18,pL Za.enc l20),(19,pL eS l21)]) (fun ((a23,c24),(l20,l21,l25))=>[PRes.b b12 36 [pS x5.1.Code,pI x5.1.Price,pB x5.1.Obtained,pN,pO a23 l25.length c24],PRes.b b2 36 [pS ByteArray.empty,pI 0,pB false,pN,pN],PRes.row a23 l25.length c24 103 3 (List.map Zk.enc l25)]) (fun ((a23,c24),(l20,l21,l25))=>q27=(l20,l21,l25)) ?_ ?_
 ·refine av ?_
  refine aC (Y:=Option Addr×Nat) (S:=(List Za)×(List ByteArray)×Int×(List Zk)) _ hq27 (fun (a18,c19) (l13,l14,v15,l17)=>[(0,pL Zc.enc p0),(4,pL Za.enc p4),(10,pP b2 0),(12,pP b6 0),(14,pP b8 0),(16,pL eI x9),(17,pP b12 0),(18,pL Za.enc l13),(19,pL eS l14),(20,pI v15)]) (fun (a18,c19) (l13,l14,v15,l17)=>[PRes.b b12 36 [pS x5.1.Code,pI x5.1.Price,pB x5.1.Obtained,pN,pO a18 l17.length c19],PRes.b b2 36 [pS ByteArray.empty,pI 0,pB false,pN,pN],PRes.b b6 76 (aI x5.1),PRes.b b8 81 (aA x7.1),PRes.row a18 l17.length c19 103 3 (List.map Zk.enc l17)]) (none,0) (eF rfl (sS rfl)) (be (aB (aB aO)) (be (aB (aB (aB (aB aO)))) (be (aB (aB (aB aO))) (be (aB (aB aO)) (be (aB aO) bB))))) ?_
  rintro ⟨a18,c19⟩ ⟨l13,l14,v15,l17⟩ o τ hb26;(try dsimp only at hb26);dsimp only [az]
  refine cT (aJ [2] [73,74,75,76] [(77,pB (decide (v15<(x5.1.Inputs.length:Int))))] (by kernel_rfl) (cR rfl hb26 (fun hc29 hb26=>?_) fun hc29 hb26=>?_))
  ·refine ah ?_
   refine de hb26 fun q36 hq36 hb26=>?_
   refine ar (Y:=(Option Addr×Nat)×((List Za)×(List ByteArray)×(List Zk))) (fun ((a33,c34),(l30,l31,l35))=>[(0,pL Zc.enc p0),(4,pL Za.enc p4),(10,pP b2 0),(12,pP b6 0),(14,pP b8 0),(16,pL eI x9),(17,pP b12 0),(18,pL Za.enc l30),(19,pL eS l31),(20,pI v15)]) (fun ((a33,c34),(l30,l31,l35))=>[PRes.b b12 36 [pS x5.1.Code,pI x5.1.Price,pB x5.1.Obtained,pN,pO a33 l35.length c34],PRes.b b2 36 [pS ByteArray.empty,pI 0,pB false,pN,pN],PRes.b b6 76 (aI x5.1),PRes.b b8 81 (aA x7.1),PRes.row a33 l35.length c34 103 3 (List.map Zk.enc l35)]) (fun ((a33,c34),(l30,l31,l35))=>q36=(l30,l31,l35)) ?_ ?_
   ·skip
    refine qU (aa hq36 fun m37 hm37 hq36=>af (aU 5 [2] [80,81,82,83] [(84,.agg [pI m37.Product,pI m37.Value])] (cL 3 Zi.enc hm37 bj) (by kernel_rfl) (ap rfl (aL (cs:=[pI 0,pI 0]) rfl rfl rfl rfl (fun b38=>aP rfl rfl (am (vs:=[pI m37.Product,pI m37.Value]) rfl rfl rfl rfl rfl ce sQ (aF (de hq36 fun x39 hx39 hq36=>af (aU 7 [0] [86,87,88,89,85] [(90,.agg (aI x39.1)),(91,pB x39.2)] (bg 3 (iH hx39) bj) (by kernel_rfl) (ap rfl (aL (cs:=[pI 0,pS ByteArray.empty,pS ByteArray.empty,pI 0,pB false,pN,pN]) rfl rfl rfl rfl (fun b40=>aP rfl rfl (am (vs:=(aI x39.1)) rfl rfl rfl rfl rfl ce mX (ba [23] (by kernel_rfl) (de hq36 fun x41 hx41 hq36=>aq [5,5,0] (rg 92 10) [(24,pB ((x7.1.Kind == 3)&&x41))] (eM 8 (fun hc=>je (cF hx41 hc)) bj) (by kernel_rfl) (cj (ak [(102,pB ((x7.1.Kind == 3)&&x41))] (by kernel_rfl) (ft hq36 fun q44 hq44 hq36=>?_))))))))))))))))))
    refine ar (Y:=Unit×((List ByteArray))) (fun (_,l42)=>[(0,pL Zc.enc p0),(4,pL Za.enc p4),(10,pP b2 0),(12,pP b6 0),(14,pP b8 0),(16,pL eI x9),(17,pP b12 0),(18,pL Za.enc l13),(19,pL eS l42),(20,pI v15),(21,pP b38 0),(22,pP b40 0),(24,pB ((x7.1.Kind == 3)&&x41))]) (fun (_,l42)=>[PRes.b b12 36 [pS x5.1.Code,pI x5.1.Price,pB x5.1.Obtained,pN,pO a18 l17.length c19],PRes.b b2 36 [pS ByteArray.empty,pI 0,pB false,pN,pN],PRes.b b38 78 [pI m37.Product,pI m37.Value],PRes.b b40 76 (aI x39.1),PRes.b b6 76 (aI x5.1),PRes.b b8 81 (aA x7.1),PRes.row a18 l17.length c19 103 3 (List.map Zk.enc l17)]) (fun (_,l42)=>q44=l42) ?_ ?_
    ·skip
     refine kq rfl hq44 (fun hc45 hq44=>?_) fun hc45 hq44=>?_
     ·refine aa hq44 ?_;clear hq44;intro x46 hx46 hq44
      refine aq [0] [103,104,105,106] [(19,pL eS x46)] (bg 3 (vM hx46) bj) (by kernel_rfl) ?_
      obtain rfl:=osi hq44
      exact aw ((),x46) (eF rfl (eF rfl (eF rfl (eF rfl (sS rfl))))) (be (aB (aB aO)) (be (aB (aB aO)) (be (aB aO) Es))) rfl
     refine ah ?_
     obtain rfl:=osi hq44
     exact aw ((),l14) (eF rfl (eF rfl (eF rfl (eF rfl (sS rfl))))) (be (aB (aB aO)) (be (aB (aB aO)) (be (aB aO) Es))) rfl
    rintro ⟨_,l42⟩ τ hz;(try dsimp only at hz);subst q44;(try dsimp only at hq36);dsimp only [az]
    refine ae (aa hq36 fun x47 hx47 hq36=>af (aU 8 [3] ((rg 108 5)++[107]) [(113,.agg [pI x47.1.Product,pI x47.1.Agreement]),(114,pB x47.2)] (bg 4 (oj hx47) bj) (by kernel_rfl) (ap rfl (aL (cs:=[pI 0,pI 0]) rfl rfl rfl rfl (fun b48=>aP rfl rfl (am (vs:=[pI x47.1.Product,pI x47.1.Agreement]) rfl rfl rfl rfl rfl ce sQ (aN [(26,pB x47.2)] (by kernel_rfl) (cj (ak [(115,pB x47.2)] (by kernel_rfl) (ft hq36 fun q51 hq51 hq36=>?_))))))))))
    refine ar (Y:=Unit×((List Za))) (fun (_,l49)=>[(0,pL Zc.enc p0),(4,pL Za.enc p4),(10,pP b2 0),(12,pP b6 0),(14,pP b8 0),(16,pL eI x9),(17,pP b12 0),(18,pL Za.enc l49),(19,pL eS l42),(20,pI v15),(21,pP b38 0),(22,pP b40 0),(24,pB ((x7.1.Kind == 3)&&x41)),(26,pB x47.2)]) (fun (_,l49)=>[PRes.b b12 36 [pS x5.1.Code,pI x5.1.Price,pB x5.1.Obtained,pN,pO a18 l17.length c19],PRes.b b2 36 [pS ByteArray.empty,pI 0,pB false,pN,pN],PRes.b b38 78 [pI m37.Product,pI m37.Value],PRes.b b40 76 (aI x39.1),PRes.b b6 76 (aI x5.1),PRes.b b8 81 (aA x7.1),PRes.row a18 l17.length c19 103 3 (List.map Zk.enc l17)]) (fun (_,l49)=>q51=l49) ?_ ?_
    ·skip
     refine kq rfl hq51 (fun hc52 hq51=>?_) fun hc52 hq51=>?_
     ·refine aa hq51 ?_;clear hq51;intro x53 hx53 hq51
      refine aq [0] [116,117,118] [(18,pL Za.enc x53)] (bg 2 (lx hx53) bj) (by kernel_rfl) ?_
      obtain rfl:=osi hq51
      exact aw ((),x53) (eF rfl (eF rfl (eF rfl (eF rfl (eF rfl (sS rfl)))))) (be (aB aO) (be (aB aO) (be (aB aO) (be (aB aO) (be (aB aO) (be (aB aO) (be (aB aO) bB))))))) rfl
     refine ah ?_
     obtain rfl:=osi hq51
     exact aw ((),l13) (eF rfl (eF rfl (eF rfl (eF rfl (eF rfl (sS rfl)))))) (be (aB aO) (be (aB aO) (be (aB aO) (be (aB aO) (be (aB aO) (be (aB aO) (be (aB aO) bB))))))) rfl
    rintro ⟨_,l49⟩ τ hz;(try dsimp only at hz);subst q51;(try dsimp only at hq36);dsimp only [az]
    refine cT (aJ [3] (rg 119 10) [(129,pB ((x47.2||(!((x7.1.Kind == 3)&&x41)))||((x39.1.Inputs.length:Int) == 0)))] (by kernel_rfl) (cR rfl hq36 (fun hc54 hq36=>?_) fun hc54 hq36=>?_))
    ·refine ae ?_
     refine af (cO 8 [0,3,2] [130,132,133,134,135,136] [(131,pO a18 l17.length c19),(137,.agg [pS x39.1.Code,pI m37.Value,pB x47.2])] (by kernel_rfl) (ap rfl (bN rfl rfl rfl rfl rfl (ij rfl kf) rfl rfl rfl rfl (fun b55=>aa hq36 fun l57 hl57 hq36=>?_))))
     refine ap rfl (cr (enc:=Zk.enc) rfl rfl rfl rfl rfl rfl rfl rfl rfl gb (by exact aB (aB (aB (aB (aB (aB (aB aO))))))) hl57 (fun a58 c59=>?_))
     refine aD 1 [(140,pP b12 4)] (by kernel_rfl) (aP rfl rfl (am (vs:=[pO a58 l57.length c59]) rfl rfl rfl rfl rfl (dA (dA ce)) (dX (dX (dX (dX oA)))) (aF (aX (aH (hC (aj rfl ?_)))))))
     obtain rfl:=osi hq36
     exact aw ((a58,c59),(l49,l42,l57)) (eF rfl (sS rfl)) (be (aB (aB aO)) (be (aB (aB aO)) (be (aB (aB (aB (aB aO)))) (be (aB (aB (aB (aB aO)))) cK)))) rfl
    refine ah ?_
    refine bZ (ak [(27,pI 0)] (by kernel_rfl) (ft hq36 fun q73 hq73 hq36=>?_))
    refine ju (Y:=(Option Addr×Nat)×((List Za)×(List Zk))) (fun ((a69,c70),(l67,l71))=>[(0,pL Zc.enc p0),(4,pL Za.enc p4),(10,pP b2 0),(12,pP b6 0),(14,pP b8 0),(16,pL eI x9),(17,pP b12 0),(18,pL Za.enc l67),(19,pL eS l42),(20,pI v15)]) (fun ((a69,c70),(l67,l71))=>[PRes.b b12 36 [pS x5.1.Code,pI x5.1.Price,pB x5.1.Obtained,pN,pO a69 l71.length c70],PRes.b b2 36 [pS ByteArray.empty,pI 0,pB false,pN,pN],PRes.b b6 76 (aI x5.1),PRes.b b8 81 (aA x7.1),PRes.row a69 l71.length c70 103 3 (List.map Zk.enc l71)]) (fun ((a69,c70),(l67,l71))=>q73=(l67,l71)) ?_ ?_
    ·refine av ?_
     refine aC (Y:=Option Addr×Nat) (S:=(List Za)×Int×(List Zk)) _ hq73 (fun (a65,c66) (l61,v62,l64)=>[(0,pL Zc.enc p0),(4,pL Za.enc p4),(10,pP b2 0),(12,pP b6 0),(14,pP b8 0),(16,pL eI x9),(17,pP b12 0),(18,pL Za.enc l61),(19,pL eS l42),(20,pI v15),(21,pP b38 0),(22,pP b40 0),(27,pI v62)]) (fun (a65,c66) (l61,v62,l64)=>[PRes.b b12 36 [pS x5.1.Code,pI x5.1.Price,pB x5.1.Obtained,pN,pO a65 l64.length c66],PRes.b b2 36 [pS ByteArray.empty,pI 0,pB false,pN,pN],PRes.b b38 78 [pI m37.Product,pI m37.Value],PRes.b b40 76 (aI x39.1),PRes.b b6 76 (aI x5.1),PRes.b b8 81 (aA x7.1),PRes.row a65 l64.length c66 103 3 (List.map Zk.enc l64)]) (a18,c19) (eF rfl (eF rfl (eF rfl (eF rfl (sS rfl))))) (be aO zs6) ?_
     rintro ⟨a65,c66⟩ ⟨l61,v62,l64⟩ o τ hb72;(try dsimp only at hb72);dsimp only [az]
     refine cT (aJ [3] [141,142,143,144] [(145,pB (decide (v62<(x39.1.Inputs.length:Int))))] (by kernel_rfl) (cR rfl hb72 (fun hc74 hb72=>?_) fun hc74 hb72=>?_))
     ·refine ah ?_
      refine dJ (aa hb72 fun m75 hm75 hb72=>aa hb72 fun x76 hx76 hb72=>af (aU 11 [3] ((rg 149 8)++[148]) [(157,.agg (aI x76.1)),(158,pB x76.2)] (cL 4 Zi.enc hm75 (bg 7 (iH hx76) bj)) (by kernel_rfl) (ap rfl (aL (cs:=[pI 0,pS ByteArray.empty,pS ByteArray.empty,pI 0,pB false,pN,pN]) rfl rfl rfl rfl (fun b77=>aP rfl rfl (am (vs:=(aI x76.1)) rfl rfl rfl rfl rfl ce mX (ba [29] (by kernel_rfl) (bZ (bi (ρd:=[]) [(0,0),(1,0),(2,0),(3,0),(4,0),(5,0),(6,0),(7,0),(8,0),(9,0),(10,0),(11,0),(12,0),(13,1),(14,0),(15,0),(16,0),(17,0),(18,0)] _ (List.Perm.refl _) (by kernel_rfl) rfl (aa hb72 fun m78 hm78 hb72=>aa hb72 fun x79 hx79 hb72=>bt 19 [3,4,4] ((rg 160 14)++[159,174,175]) [(30,pU x79.1),(31,pI x79.2)] (cL 6 Zi.enc hm78 (bg 13 (ut hx79) bj)) (by kernel_rfl) (bA (bZ (ak [(32,pI 1000000000000)] (by kernel_rfl) (cj (ai (rg 176 5) [(181,pB ((x79.2 == 0)&&(decide (x79.1<1000000000000))))] (by kernel_rfl) (ft hb72 fun q82 hq82 hb72=>?_))))))))))))))))
      refine ar (Y:=Unit×Int) (fun (_,v80)=>[(0,pL Zc.enc p0),(4,pL Za.enc p4),(10,pP b2 0),(12,pP b6 0),(14,pP b8 0),(16,pL eI x9),(17,pP b12 0),(18,pL Za.enc l61),(19,pL eS l42),(20,pI v15),(21,pP b38 0),(22,pP b40 0),(27,pI v62),(28,pP b77 0),(32,pI v80)]) (fun (_,v80)=>[PRes.b b12 36 [pS x5.1.Code,pI x5.1.Price,pB x5.1.Obtained,pN,pO a65 l64.length c66],PRes.b b2 36 [pS ByteArray.empty,pI 0,pB false,pN,pN],PRes.b b38 78 [pI m37.Product,pI m37.Value],PRes.b b40 76 (aI x39.1),PRes.b b6 76 (aI x5.1),PRes.b b77 76 (aI x76.1),PRes.b b8 81 (aA x7.1),PRes.row a65 l64.length c66 103 3 (List.map Zk.enc l64)]) (fun (_,v80)=>q82=v80) ?_ ?_
      ·skip
       refine kq rfl hq82 (fun hc83 hq82=>?_) fun hc83 hq82=>?_
       ·refine ai [182,183] [(32,pI (IntKind.i64.wrap x79.1))] (by kernel_rfl) ?_
        obtain rfl:=osi hq82
        exact aw ((),(IntKind.i64.wrap x79.1)) (eF rfl (eF rfl (eF rfl (eF rfl (eF rfl (eF rfl (sS rfl))))))) (be (aB aO) (be (aB aO) (be (aB aO) (be (aB aO) (be (aB aO) A7))))) rfl
       refine ah ?_
       obtain rfl:=osi hq82
       exact aw ((),1000000000000) (eF rfl (eF rfl (eF rfl (eF rfl (eF rfl (eF rfl (sS rfl))))))) (be (aB aO) (be (aB aO) (be (aB aO) (be (aB aO) (be (aB aO) A7))))) rfl
      rintro ⟨_,v80⟩ τ hz;(try dsimp only at hz);subst q82;(try dsimp only at hb72);dsimp only [az]
      refine ae (aa hb72 fun x84 hx84 hb72=>af (aU 8 [5] ((rg 185 5)++[184]) [(190,.agg [pI x84.1.Product,pI x84.1.Agreement]),(191,pB x84.2)] (bg 4 (oj hx84) bj) (by kernel_rfl) (ap rfl (aL (cs:=[pI 0,pI 0]) rfl rfl rfl rfl (fun b85=>aP rfl rfl (am (vs:=[pI x84.1.Product,pI x84.1.Agreement]) rfl rfl rfl rfl rfl ce sQ (aN [(34,pB x84.2)] (by kernel_rfl) (cj (ak [(192,pB x84.2)] (by kernel_rfl) (ft hb72 fun q88 hq88 hb72=>?_))))))))))
      refine ar (Y:=Unit×((List Za))) (fun (_,l86)=>[(0,pL Zc.enc p0),(4,pL Za.enc p4),(10,pP b2 0),(12,pP b6 0),(14,pP b8 0),(16,pL eI x9),(17,pP b12 0),(18,pL Za.enc l86),(19,pL eS l42),(20,pI v15),(21,pP b38 0),(22,pP b40 0),(27,pI v62),(28,pP b77 0),(32,pI v80),(34,pB x84.2)]) (fun (_,l86)=>[PRes.b b12 36 [pS x5.1.Code,pI x5.1.Price,pB x5.1.Obtained,pN,pO a65 l64.length c66],PRes.b b2 36 [pS ByteArray.empty,pI 0,pB false,pN,pN],PRes.b b38 78 [pI m37.Product,pI m37.Value],PRes.b b40 76 (aI x39.1),PRes.b b6 76 (aI x5.1),PRes.b b77 76 (aI x76.1),PRes.b b8 81 (aA x7.1),PRes.row a65 l64.length c66 103 3 (List.map Zk.enc l64)]) (fun (_,l86)=>q88=l86) ?_ ?_
      ·skip
       refine kq rfl hq88 (fun hc89 hq88=>?_) fun hc89 hq88=>?_
       ·refine aa hq88 ?_;clear hq88;intro x90 hx90 hq88
        refine aq [0] [193,194,195] [(18,pL Za.enc x90)] (bg 2 (lx hx90) bj) (by kernel_rfl) ?_
        obtain rfl:=osi hq88
        exact aw ((),x90) (eF rfl (eF rfl (eF rfl (eF rfl (eF rfl (eF rfl (eF rfl (sS rfl)))))))) (be (aB aO) (be (aB aO) (be (aB aO) (be (aB aO) (be (aB aO) (be (aB aO) (be (aB aO) (be (aB aO) bB)))))))) rfl
       refine ah ?_
       obtain rfl:=osi hq88
       exact aw ((),l61) (eF rfl (eF rfl (eF rfl (eF rfl (eF rfl (eF rfl (eF rfl (sS rfl)))))))) (be (aB aO) (be (aB aO) (be (aB aO) (be (aB aO) (be (aB aO) (be (aB aO) (be (aB aO) (be (aB aO) bB)))))))) rfl
      rintro ⟨_,l86⟩ τ hz;(try dsimp only at hz);subst q88;(try dsimp only at hb72);dsimp only [az]
      refine af (cO 7 [0,5] [196,198,199,200,201] [(197,pO a65 l64.length c66),(202,.agg [pS x76.1.Code,pI v80,pB x84.2])] (by kernel_rfl) (ap rfl (bN rfl rfl rfl rfl rfl (ij rfl kf) rfl rfl rfl rfl (fun b91=>aa hb72 fun l93 hl93 hb72=>?_))))
      refine ap rfl (cr (enc:=Zk.enc) rfl rfl rfl rfl rfl rfl rfl rfl rfl gb (by exact aB (aB (aB (aB (aB (aB (aB (aB aO)))))))) hl93 (fun a94 c95=>?_))
      refine aD 1 [(205,pP b12 4)] (by kernel_rfl) (aP rfl rfl (am (vs:=[pO a94 l93.length c95]) rfl rfl rfl rfl rfl (dA (dA ce)) (dX (dX (dX (dX oA)))) (aF (dI (ai [146,147] [(27,pI (IntKind.i64.wrap (v62+1)))] (by kernel_rfl) ?_)))))
      exact aS hb72 (a94,c95) (eF rfl (eF rfl (eF rfl (eF rfl (sS rfl))))) (be (aB (aB aO)) (be (aB (aB aO)) (be (aB (aB aO)) (be (aB (aB aO)) (be (aB (aB aO)) (be (aB (aB (aB aO))) cK))))))
     refine aH ?_
     refine cq hb72 (fun ht=>aj rfl ?_)
     exact hY ((a65,c66),(l61,l64)) (eF rfl (sS rfl)) (be aO (be aO (be (aB (aB aO)) (be (aB (aB aO)) (be (aB (aB aO)) bB))))) ht.symm
    rintro ⟨⟨a69,c70⟩,⟨l67,l71⟩⟩ τ ρ1 hsub97 hz;(try dsimp only at hz hsub97);subst q73;(try dsimp only at hq36);dsimp only [az]
    refine aG ?_
    obtain rfl:=osi hq36
    exact aw ((a69,c70),(l67,l42,l71)) (eF rfl (sS rfl)) (PSub.trans zs5 hsub97) rfl
   rintro ⟨⟨a33,c34⟩,⟨l30,l31,l35⟩⟩ τ hz;(try dsimp only at hz);subst q36;(try dsimp only at hb26);dsimp only [az]
   refine ai [78,79] [(20,pI (IntKind.i64.wrap (v15+1)))] (by kernel_rfl) ?_
   exact aS hb26 (a33,c34) (eF rfl (sS rfl)) zs5
  refine aH ?_
  refine cq hb26 (fun ht=>aj rfl ?_)
  exact aw ((a18,c19),(l13,l14,l17)) (iR rfl) (be aO (be aO (be (aB (aB aO)) bB))) ht.symm
 rintro ⟨⟨a23,c24⟩,⟨l20,l21,l25⟩⟩ τ hz;(try dsimp only at hz);subst q27;(try dsimp only at h);dsimp only [az]
 refine ae (aa h fun l98 hl98 h=>af (aU 6 [] [206,207,208,209] [(210,pL eS l98),(211,pP b12 3)] (vz 4 eS 1 (fun _=>rfl) hl98 bj) (by kernel_rfl) (aP rfl rfl (am (vs:=[pL eS l98]) rfl rfl rfl rfl rfl ce (dX (dX (dX oA))) (aF (bZ (af ?_)))))))
 refine lw (css:=List.map Zk.enc l25) (a:=a23) (by exact aB (aB aO)) ?_
 refine jd (k:=4) (enc:=Zk.enc) (xs:=l25) (b:=b12) (a:=a23) rfl gb (dA ce) (gt 2 [1] [(212,.agg [pS x5.1.Code,pI x5.1.Price,pB x5.1.Obtained,pL eS l98,pL Zk.enc l25]),(213,pL Za.enc l20)] (by kernel_rfl) (aP rfl rfl (am (vs:=[pS x5.1.Code,pI x5.1.Price,pB x5.1.Obtained,pL eS l98,pL Zk.enc l25]) rfl rfl rfl rfl rfl (dA (dA ce)) Fi (aN [(11,pL Za.enc l20)] (by kernel_rfl) (cX ?_)))))
 obtain rfl:=osi h
 exact aM (cd (dC rfl um rfl) (aK rfl)) bB ⟨rfl,rfl⟩
def fJ (p0:(List Za)) (p1:(List Za)):Option Bool:=cond ((p0.length:Int) != (p1.length:Int)) (some false) ((aT (S:=Int) (T:=(Unit)⊕(_)) (fun v2=>cond (decide (v2<(p0.length:Int))) ((idx p0 v2).bind fun m6=>(idx p1 v2).bind fun m7=>cond (!(Za.eqb m6 m7)) (some (.inr (.inr false))) (some (.inl (IntKind.i64.wrap (v2+1))))) (some (.inr (.inl ())))) FUEL 0).bind fun q=>match q with | .inl _=>some true | .inr e=>some e)
theorem re {p0:(List Za)} {p1:(List Za)} {r:Bool}  (h:fJ p0 p1=some r):PF 20 [pL Za.enc p0,pL Za.enc p1] (pB r):=by
 unfold fJ at h
 refine bd ?_
 refine du Tryz.func20 rfl Tryz.ntmps20 Tryz.results20 rfl (aW [4] (by kernel_rfl) (cj (bF [6,7,8,9] [(10,pB ((p0.length:Int) != (p1.length:Int)))] (by kernel_rfl) rfl h (fun hc1 h=>?_) fun hc1 h=>?_)))
 ·refine ae ?_
  refine dg [(4,pB false)] (by kernel_rfl) (al ?_)
  exact zz r h rfl
 refine ah ?_
 refine cj (ak [(5,pI 0)] (by kernel_rfl) (ft h fun q4 hq4 h=>?_))
 refine ar (Y:=Unit×Unit) (fun (_,_)=>[]) (fun (_,_)=>[]) (fun (_,_)=>q4=Sum.inl ()) ?_ ?_
 ·refine av ?_
  refine aC (Y:=Unit) (S:=Int) _ hq4 (fun _ v2=>[(0,pL Za.enc p0),(1,pL Za.enc p1),(5,pI v2)]) (fun _ v2=>[]) () (nV rfl) bB ?_
  rintro _ v2 o τ hb3;(try dsimp only at hb3);dsimp only [az]
  refine cT (bF [11,12,13] [(14,pB (decide (v2<(p0.length:Int))))] (by kernel_rfl) rfl hb3 (fun hc5 hb3=>?_) fun hc5 hb3=>?_)
  ·refine ah ?_
   refine dJ (bi (ρd:=[]) [(0,0),(1,0),(2,0),(3,0),(4,0),(5,0),(6,0),(7,0),(8,0)] _ (List.Perm.refl _) (by kernel_rfl) rfl (aa hb3 fun m6 hm6 hb3=>aa hb3 fun m7 hm7 hb3=>bt 9 [] (rg 17 8) [(25,pB (!(Za.eqb m6 m7)))] (cL 2 Za.enc hm6 (cL 6 Za.enc hm7 (DF 8 Za.eqok28 bj))) (by kernel_rfl) (bA (cR rfl hb3 (fun hc8 hb3=>?_) fun hc8 hb3=>?_))))
   ·refine ae ?_
    refine dg [(4,pB false)] (by kernel_rfl) (dH ?_)
    refine au hb3 (fun ht=>?_);subst ht
    refine cP ?_
    exact zz r h rfl
   refine ah ?_
   refine dI (ai [15,16] [(5,pI (IntKind.i64.wrap (v2+1)))] (by kernel_rfl) ?_)
   exact aS hb3 () (nV rfl) bB
  refine aH ?_
  refine cq hb3 (fun ht=>aj rfl ?_)
  exact aw ((),()) pz bB ht.symm
 rintro ⟨_,_⟩ τ hz;(try dsimp only at hz);subst q4;(try dsimp only at h);dsimp only [az]
 refine ae (dg [(4,pB true)] (by kernel_rfl) ?_)
 exact zz r h rfl
def fg (p0:Int):Option Bool:=some ((decide (65≤p0))&&(decide (p0≤90)))
theorem jY {p0:Int} {r:Bool}  (h:fg p0=some r):PF 120 [pY p0] (pB r):=by
 unfold fg at h
 refine bd ?_
 refine du Tryz.func120 rfl Tryz.ntmps120 Tryz.results120 rfl (aW [2] (by kernel_rfl) (bZ (ai (rg 3 6) [(2,pB ((decide (65≤p0))&&(decide (p0≤90))))] (by kernel_rfl) (cX ?_))))
 exact zz r h rfl
def bO (p0:ByteArray):Option Bool:=(gd ((p0.size:Int) == 2) (idx p0.data.toList 0)).bind fun c1=>(gd ((p0.size:Int) == 2) (fg (c1.toNat:Int))).bind fun x2=>(gd (((p0.size:Int) == 2)&&x2) (idx p0.data.toList 1)).bind fun c3=>(gd (((p0.size:Int) == 2)&&x2) (fg (c3.toNat:Int))).bind fun x4=>some ((((p0.size:Int) == 2)&&x2)&&x4)
theorem fS {p0:ByteArray} {r:Bool}  (h:bO p0=some r):PF 72 [pS p0] (pB r):=by
 unfold bO at h
 refine bd ?_
 refine du Tryz.func72 rfl Tryz.ntmps72 Tryz.results72 rfl (aW [2] (by kernel_rfl) (de h fun c1 hc1 h=>aa h fun x2 hx2 h=>aa h fun c3 hc3 h=>aa h fun x4 hx4 h=>aq [] (rg 3 13) [(2,pB ((((p0.size:Int) == 2)&&x2)&&x4))] (tS 5 (cF hc1) (eM 6 (fun hc=>jY (cF hx2 hc)) (tS 10 (cF hc3) (eM 11 (fun hc=>jY (cF hx4 hc)) bj)))) (by kernel_rfl) (cX ?_)))
 exact zz r h rfl
def dZ (p0:(List ByteArray)):Option Bool:=(aT (S:=Int) (T:=(Unit)⊕(_)) (fun v1=>cond (decide (v1<(p0.length:Int))) ((idx p0 v1).bind fun m5=>(bO m5).bind fun x6=>(gd ((!(!x6))&&(decide (0<v1))) (idx p0 (IntKind.i64.wrap (v1 - 1)))).bind fun m7=>cond ((!x6)||((decide (0<v1))&&(Op.bytesLess m5.toList m7.toList||decide (m5=m7)))) (some (.inr (.inr false))) (some (.inl (IntKind.i64.wrap (v1+1))))) (some (.inr (.inl ())))) FUEL 0).bind fun q=>match q with | .inl _=>some true | .inr e=>some e
theorem ni {p0:(List ByteArray)} {r:Bool}  (h:dZ p0=some r):PF 111 [pL eS p0] (pB r):=by
 unfold dZ at h
 refine bd ?_
 refine du Tryz.func111 rfl Tryz.ntmps111 Tryz.results111 rfl (aW [2] (by kernel_rfl) (cj (ak [(5,pL eS p0),(6,pI (p0.length:Int)),(7,pI 0)] (by kernel_rfl) (ft h fun q3 hq3 h=>?_))))
 refine ar (Y:=Unit×Unit) (fun (_,_)=>[]) (fun (_,_)=>[]) (fun (_,_)=>q3=Sum.inl ()) ?_ ?_
 ·refine av ?_
  refine aC (Y:=Unit) (S:=Int) _ hq3 (fun _ v1=>[(0,pL eS p0),(5,pL eS p0),(6,pI (p0.length:Int)),(7,pI v1)]) (fun _ v1=>[]) () (iR rfl) bB ?_
  rintro _ v1 o τ hb2;(try dsimp only at hb2);dsimp only [az]
  refine ae (ak [(8,pB (decide (v1<(p0.length:Int))))] (by kernel_rfl) (bZ (kq rfl hb2 (fun hc4 hb2=>?_) fun hc4 hb2=>?_)))
  ·refine ah ?_
   refine dJ (aa hb2 fun m5 hm5 hb2=>aq [] [9,10,11] [(3,pI v1),(4,pS m5)] (cL 1 eS hm5 bj) (by kernel_rfl) (de hb2 fun x6 hx6 hb2=>aa hb2 fun m7 hm7 hb2=>aq [] (rg 12 15) [(27,pB ((!x6)||((decide (0<v1))&&(Op.bytesLess m5.toList m7.toList||decide (m5=m7)))))] (bg 1 (fS hx6) (eK 11 eS (cF hm7) bj)) (by kernel_rfl) (cR rfl hb2 (fun hc8 hb2=>?_) fun hc8 hb2=>?_)))
   ·refine ae ?_
    refine dg [(2,pB false)] (by kernel_rfl) (dH ?_)
    refine au hb2 (fun ht=>?_);subst ht
    refine cP ?_
    exact zz r h rfl
   refine ah ?_
   refine dI (ai [28] [(7,pI (IntKind.i64.wrap (v1+1)))] (by kernel_rfl) ?_)
   exact aS hb2 () (iR rfl) bB
  refine aH ?_
  refine cq hb2 (fun ht=>aj rfl ?_)
  exact aw ((),()) pz bB ht.symm
 rintro ⟨_,_⟩ τ hz;(try dsimp only at hz);subst q3;(try dsimp only at h);dsimp only [az]
 refine ae (dg [(2,pB true)] (by kernel_rfl) ?_)
 exact zz r h rfl
def eg (p0:ByteArray):Option Bool:=(gd ((p0.size:Int) == 2) (idx p0.data.toList 0)).bind fun c1=>(gd (((p0.size:Int) == 2)&&(decide (65≤(c1.toNat:Int)))) (idx p0.data.toList 0)).bind fun c2=>(gd ((((p0.size:Int) == 2)&&(decide (65≤(c1.toNat:Int))))&&(decide ((c2.toNat:Int)≤90))) (idx p0.data.toList 1)).bind fun c3=>(gd (((((p0.size:Int) == 2)&&(decide (65≤(c1.toNat:Int))))&&(decide ((c2.toNat:Int)≤90)))&&(decide (65≤(c3.toNat:Int)))) (idx p0.data.toList 1)).bind fun c4=>some ((((((p0.size:Int) == 2)&&(decide (65≤(c1.toNat:Int))))&&(decide ((c2.toNat:Int)≤90)))&&(decide (65≤(c3.toNat:Int))))&&(decide ((c4.toNat:Int)≤90)))
theorem lf {p0:ByteArray} {r:Bool}  (h:eg p0=some r):PF 67 [pS p0] (pB r):=by
 unfold eg at h
 refine bd ?_
 refine du Tryz.func67 rfl Tryz.ntmps67 Tryz.results67 rfl (aW [2] (by kernel_rfl) (de h fun c1 hc1 h=>aa h fun c2 hc2 h=>aa h fun c3 hc3 h=>aa h fun c4 hc4 h=>aq [] (rg 3 23) [(2,pB ((((((p0.size:Int) == 2)&&(decide (65≤(c1.toNat:Int))))&&(decide ((c2.toNat:Int)≤90)))&&(decide (65≤(c3.toNat:Int))))&&(decide ((c4.toNat:Int)≤90))))] (tS 5 (cF hc1) (tS 10 (cF hc2) (tS 15 (cF hc3) (tS 20 (cF hc4) bj)))) (by kernel_rfl) (cX ?_)))
 exact zz r h rfl
def fD (p0:ByteArray):Option Int:=(aT (S:=Int) (T:=(Unit)⊕(_)) (fun v1=>cond (decide (v1<(p0.size:Int))) ((idx p0.data.toList v1).bind fun c5=>(gd (!(decide ((c5.toNat:Int)<48))) (idx p0.data.toList v1)).bind fun c6=>cond ((decide ((c5.toNat:Int)<48))||(decide (57<(c6.toNat:Int)))) (some (.inr (.inr (0:Int)))) (some (.inl (IntKind.i64.wrap (v1+1))))) (some (.inr (.inl ())))) FUEL 0).bind fun q=>match q with | .inl _=>cond ((decide (8<(p0.size:Int)))||((Int.tmod (p0.size:Int) 2) == 1)) (some (0:Int)) (some (p0.size:Int)) | .inr e=>some e
theorem nj {p0:ByteArray} {r:Int}  (h:fD p0=some r):PF 113 [pS p0] (pI r):=by
 unfold fD at h
 refine bd ?_
 refine du Tryz.func113 rfl Tryz.ntmps113 Tryz.results113 rfl (aW [2] (by kernel_rfl) (cj (ak [(3,pI 0)] (by kernel_rfl) (ft h fun q3 hq3 h=>?_))))
 refine ar (Y:=Unit×Unit) (fun (_,_)=>[(0,pS p0)]) (fun (_,_)=>[]) (fun (_,_)=>q3=Sum.inl ()) ?_ ?_
 ·refine av ?_
  refine aC (Y:=Unit) (S:=Int) _ hq3 (fun _ v1=>[(0,pS p0),(3,pI v1)]) (fun _ v1=>[]) () (mq rfl) bB ?_
  rintro _ v1 o τ hb2;(try dsimp only at hb2);dsimp only [az]
  refine cT (bF [4,5,6] [(7,pB (decide (v1<(p0.size:Int))))] (by kernel_rfl) rfl hb2 (fun hc4 hb2=>?_) fun hc4 hb2=>?_)
  ·refine ah ?_
   refine dJ (aa hb2 fun c5 hc5 hb2=>aa hb2 fun c6 hc6 hb2=>aq [] (rg 10 9) [(19,pB ((decide ((c5.toNat:Int)<48))||(decide (57<(c6.toNat:Int)))))] (fosx 2 hc5 (tS 7 (cF hc6) bj)) (by kernel_rfl) (cR rfl hb2 (fun hc7 hb2=>?_) fun hc7 hb2=>?_))
   ·refine ae ?_
    refine dg [(2,pI 0)] (by kernel_rfl) (dH ?_)
    refine au hb2 (fun ht=>?_);subst ht
    refine cP ?_
    exact zz r h rfl
   refine ah ?_
   refine dI (ai [8,9] [(3,pI (IntKind.i64.wrap (v1+1)))] (by kernel_rfl) ?_)
   exact aS hb2 () (mq rfl) bB
  refine aH ?_
  refine cq hb2 (fun ht=>aj rfl ?_)
  exact aw ((),()) (rD rfl) bB ht.symm
 rintro ⟨_,_⟩ τ hz;(try dsimp only at hz);subst q3;(try dsimp only at h);dsimp only [az]
 refine cT (bF (rg 20 8) [(28,pB ((decide (8<(p0.size:Int)))||((Int.tmod (p0.size:Int) 2) == 1)))] (by kernel_rfl) rfl h (fun hc8 h=>?_) fun hc8 h=>?_)
 ·refine ae ?_
  refine dg [(2,pI 0)] (by kernel_rfl) (al ?_)
  exact zz r h rfl
 refine ah ?_
 refine bZ (ai [29,30] [(2,pI (p0.size:Int))] (by kernel_rfl) (cX ?_))
 exact zz r h rfl
def lg (p0:ByteArray):Option Bool:=(aT (S:=Int) (T:=(Unit)⊕(_)) (fun v1=>cond (decide (v1<(p0.size:Int))) ((idx p0.data.toList v1).bind fun c5=>(gd (!(decide ((c5.toNat:Int)<97))) (idx p0.data.toList v1)).bind fun c6=>cond ((decide ((c5.toNat:Int)<97))||(decide (122<(c6.toNat:Int)))) (some (.inr (.inr false))) (some (.inl (IntKind.i64.wrap (v1+1))))) (some (.inr (.inl ())))) FUEL 0).bind fun q=>match q with | .inl _=>some ((decide (1≤(p0.size:Int)))&&(decide ((p0.size:Int)≤12))) | .inr e=>some e
theorem rn {p0:ByteArray} {r:Bool}  (h:lg p0=some r):PF 157 [pS p0] (pB r):=by
 unfold lg at h
 refine bd ?_
 refine du Tryz.func157 rfl Tryz.ntmps157 Tryz.results157 rfl (aW [2] (by kernel_rfl) (cj (ak [(3,pI 0)] (by kernel_rfl) (ft h fun q3 hq3 h=>?_))))
 refine ar (Y:=Unit×Unit) (fun (_,_)=>[(0,pS p0)]) (fun (_,_)=>[]) (fun (_,_)=>q3=Sum.inl ()) ?_ ?_
 ·refine av ?_
  refine aC (Y:=Unit) (S:=Int) _ hq3 (fun _ v1=>[(0,pS p0),(3,pI v1)]) (fun _ v1=>[]) () (mq rfl) bB ?_
  rintro _ v1 o τ hb2;(try dsimp only at hb2);dsimp only [az]
  refine cT (bF [4,5,6] [(7,pB (decide (v1<(p0.size:Int))))] (by kernel_rfl) rfl hb2 (fun hc4 hb2=>?_) fun hc4 hb2=>?_)
  ·refine ah ?_
   refine dJ (aa hb2 fun c5 hc5 hb2=>aa hb2 fun c6 hc6 hb2=>aq [] (rg 10 9) [(19,pB ((decide ((c5.toNat:Int)<97))||(decide (122<(c6.toNat:Int)))))] (fosx 2 hc5 (tS 7 (cF hc6) bj)) (by kernel_rfl) (cR rfl hb2 (fun hc7 hb2=>?_) fun hc7 hb2=>?_))
   ·refine ae ?_
    refine dg [(2,pB false)] (by kernel_rfl) (dH ?_)
    refine au hb2 (fun ht=>?_);subst ht
    refine cP ?_
    exact zz r h rfl
   refine ah ?_
   refine dI (ai [8,9] [(3,pI (IntKind.i64.wrap (v1+1)))] (by kernel_rfl) ?_)
   exact aS hb2 () (mq rfl) bB
  refine aH ?_
  refine cq hb2 (fun ht=>aj rfl ?_)
  exact aw ((),()) (rD rfl) bB ht.symm
 rintro ⟨_,_⟩ τ hz;(try dsimp only at hz);subst q3;(try dsimp only at h);dsimp only [az]
 refine ae (ai (rg 20 8) [(2,pB ((decide (1≤(p0.size:Int)))&&(decide ((p0.size:Int)≤12))))] (by kernel_rfl) (cX ?_))
 exact zz r h rfl
def jZ (p0:(List ByteArray)):Option Bool:=(aT (S:=Int) (T:=(Unit)⊕(_)) (fun v1=>cond (decide (v1<(p0.length:Int))) ((idx p0 v1).bind fun m5=>(lg m5).bind fun x6=>(gd ((!(!x6))&&(decide (0<v1))) (idx p0 (IntKind.i64.wrap (v1 - 1)))).bind fun m7=>(gd ((!(!x6))&&(decide (0<v1))) (idx p0 v1)).bind fun m8=>cond ((!x6)||((decide (0<v1))&&(!Op.bytesLess m7.toList m8.toList))) (some (.inr (.inr false))) (some (.inl (IntKind.i64.wrap (v1+1))))) (some (.inr (.inl ())))) FUEL 0).bind fun q=>match q with | .inl _=>some (decide ((p0.length:Int)≤8)) | .inr e=>some e
theorem vN {p0:(List ByteArray)} {r:Bool}  (h:jZ p0=some r):PF 114 [pL eS p0] (pB r):=by
 unfold jZ at h
 refine bd ?_
 refine du Tryz.func114 rfl Tryz.ntmps114 Tryz.results114 rfl (aW [2] (by kernel_rfl) (cj (ak [(3,pI 0)] (by kernel_rfl) (ft h fun q3 hq3 h=>?_))))
 refine ar (Y:=Unit×Unit) (fun (_,_)=>[(0,pL eS p0)]) (fun (_,_)=>[]) (fun (_,_)=>q3=Sum.inl ()) ?_ ?_
 ·refine av ?_
  refine aC (Y:=Unit) (S:=Int) _ hq3 (fun _ v1=>[(0,pL eS p0),(3,pI v1)]) (fun _ v1=>[]) () (mq rfl) bB ?_
  rintro _ v1 o τ hb2;(try dsimp only at hb2);dsimp only [az]
  refine cT (bF [4,5,6] [(7,pB (decide (v1<(p0.length:Int))))] (by kernel_rfl) rfl hb2 (fun hc4 hb2=>?_) fun hc4 hb2=>?_)
  ·refine ah ?_
   refine dJ (bi (ρd:=[]) [(0,0),(1,0),(2,0),(3,0),(4,1),(5,0),(6,0),(7,0),(8,0),(9,0),(10,0),(11,0),(12,0),(13,0),(14,0),(15,0),(16,0),(17,0),(18,0),(19,0),(20,0),(21,0)] _ (List.Perm.refl _) (by kernel_rfl) rfl (aa hb2 fun m5 hm5 hb2=>aa hb2 fun x6 hx6 hb2=>aa hb2 fun m7 hm7 hb2=>aa hb2 fun m8 hm8 hb2=>bt 22 [] (rg 10 21) [(31,pB ((!x6)||((decide (0<v1))&&(!Op.bytesLess m7.toList m8.toList))))] (cL 2 eS hm5 (bg 4 (rn hx6) (eK 13 eS (cF hm7) (eK 17 eS (cF hm8) bj)))) (by kernel_rfl) (bA (cR rfl hb2 (fun hc9 hb2=>?_) fun hc9 hb2=>?_))))
   ·refine ae ?_
    refine dg [(2,pB false)] (by kernel_rfl) (dH ?_)
    refine au hb2 (fun ht=>?_);subst ht
    refine cP ?_
    exact zz r h rfl
   refine ah ?_
   refine dI (ai [8,9] [(3,pI (IntKind.i64.wrap (v1+1)))] (by kernel_rfl) ?_)
   exact aS hb2 () (mq rfl) bB
  refine aH ?_
  refine cq hb2 (fun ht=>aj rfl ?_)
  exact aw ((),()) (rD rfl) bB ht.symm
 rintro ⟨_,_⟩ τ hz;(try dsimp only at hz);subst q3;(try dsimp only at h);dsimp only [az]
 refine ae (ai [32,33,34] [(2,pB (decide ((p0.length:Int)≤8)))] (by kernel_rfl) (cX ?_))
 exact zz r h rfl
def lh (p0:(List Zc)):Option Int:=cond (decide (64<(p0.length:Int))) (some (8:Int)) ((aT (S:=Int) (T:=(Unit)⊕(_)) (fun v2=>cond (decide (v2<(p0.length:Int))) ((idx p0 v2).bind fun m6=>cond ((decide (m6.ID<1))||(decide (1000000<m6.ID))) (some (.inr (.inr (2:Int)))) ((gd (decide (0<v2)) (idx p0 (IntKind.i64.wrap (v2 - 1)))).bind fun m9=>cond ((decide (0<v2))&&(decide (m6.ID≤m9.ID))) (some (.inr (.inr (9:Int)))) ((fD m6.Code).bind fun x11=>(gd (!(decide (x11<6))) (eg m6.Country)).bind fun x12=>(gd (!((decide (x11<6))||(!x12))) (jZ m6.Processes)).bind fun x13=>cond (((decide (x11<6))||(!x12))||(!x13)) (some (.inr (.inr (1:Int)))) (cond ((decide (m6.Price<1))||(decide (1000000000000<m6.Price))) (some (.inr (.inr (2:Int)))) (cond (decide (8<(m6.Inputs.length:Int))) (some (.inr (.inr (8:Int)))) (cond (m6.Obtained&&(decide (0<(m6.Inputs.length:Int)))) (some (.inr (.inr (1:Int)))) ((aT (S:=Int) (T:=(Unit)⊕(_)) (fun v18=>cond (decide (v18<(m6.Inputs.length:Int))) ((gd (decide (0<v18)) (idx m6.Inputs v18)).bind fun m22=>(gd (decide (0<v18)) (idx m6.Inputs (IntKind.i64.wrap (v18 - 1)))).bind fun m23=>cond ((decide (0<v18))&&(decide (m22.Product≤m23.Product))) (some (.inr (.inr (.inr (.inr (9:Int)))))) ((idx m6.Inputs v18).bind fun m25=>(dV p0 m25.Product).bind fun x26=>cond (!x26.2) (some (.inr (.inr (.inr (.inr (6:Int)))))) ((idx m6.Inputs v18).bind fun m29=>(gd (!(decide (m29.Value<0))) (idx m6.Inputs v18)).bind fun m30=>cond ((decide (m29.Value<0))||(decide (1000000000000<m30.Value))) (some (.inr (.inr (.inr (.inr (2:Int)))))) (some (.inl (IntKind.i64.wrap (v18+1))))))) (some (.inr (.inl ())))) FUEL 0).bind fun q=>match q with | .inl _=>some (.inl (IntKind.i64.wrap (v2+1))) | .inr e=>some e))))))) (some (.inr (.inl ())))) FUEL 0).bind fun q=>match q with | .inl _=>some (0:Int) | .inr e=>some e)
theorem w5 {p0:(List Zc)} {r:Int}  (h:lh p0=some r):PF 65 [pL Zc.enc p0] (pI r):=by
 unfold lh at h
 refine bd ?_
 refine du Tryz.func65 rfl Tryz.ntmps65 Tryz.results65 rfl (aW [2] (by kernel_rfl) (cj (bF [8,9] [(10,pB (decide (64<(p0.length:Int))))] (by kernel_rfl) rfl h (fun hc1 h=>?_) fun hc1 h=>?_)))
 ·refine ae ?_
  refine dg [(2,pI 8)] (by kernel_rfl) (al ?_)
  exact zz r h rfl
 refine ah ?_
 refine cj (ak [(3,pI 0)] (by kernel_rfl) (ft h fun q4 hq4 h=>?_))
 refine ar (Y:=Unit×Unit) (fun (_,_)=>[]) (fun (_,_)=>[]) (fun (_,_)=>q4=Sum.inl ()) ?_ ?_
 ·refine av ?_
  refine aC (Y:=Unit) (S:=Int) _ hq4 (fun _ v2=>[(0,pL Zc.enc p0),(3,pI v2)]) (fun _ v2=>[]) () (mq rfl) bB ?_
  rintro _ v2 o τ hb3;(try dsimp only at hb3);dsimp only [az]
  refine cT (bF [11,12,13] [(14,pB (decide (v2<(p0.length:Int))))] (by kernel_rfl) rfl hb3 (fun hc5 hb3=>?_) fun hc5 hb3=>?_)
  ·refine ah ?_
   refine dJ (aa hb3 fun m6 hm6 hb3=>af (aU 4 [] [17,18,19] [(20,.agg (aI m6))] (cL 2 Zc.enc hm6 bj) (by kernel_rfl) (ap rfl (aL (cs:=[pI 0,pS ByteArray.empty,pS ByteArray.empty,pI 0,pB false,pN,pN]) rfl rfl rfl rfl (fun b7=>aP rfl rfl (am (vs:=(aI m6)) rfl rfl rfl rfl rfl ce mX (aF (dJ (aJ [0,0] (rg 22 8) [(21,pB ((decide (m6.ID<1))||(decide (1000000<m6.ID))))] (by kernel_rfl) (cR rfl hb3 (fun hc8 hb3=>?_) fun hc8 hb3=>?_))))))))))
   ·refine ae ?_
    refine dg [(2,pI 2)] (by kernel_rfl) (dH (dH ?_))
    refine au hb3 (fun ht=>?_);subst ht
    refine cP ?_
    exact zz r h rfl
   refine ae ?_
   refine bi (ρd:=[]) [(0,0),(1,0),(2,0),(3,0),(4,0),(5,0),(6,0),(7,0),(8,0),(9,0),(10,0),(11,0),(12,0),(13,0)] _ (List.Perm.refl _) (by kernel_rfl) rfl (aa hb3 fun m9 hm9 hb3=>bt 14 [0] (rg 31 13) [(30,pB ((decide (0<v2))&&(decide (m6.ID≤m9.ID))))] (eK 8 Zc.enc (cF hm9) bj) (by kernel_rfl) (bA (cR rfl hb3 (fun hc10 hb3=>?_) fun hc10 hb3=>?_)))
   ·refine ae ?_
    refine dg [(2,pI 9)] (by kernel_rfl) (dH (dH ?_))
    refine au hb3 (fun ht=>?_);subst ht
    refine cP ?_
    exact zz r h rfl
   refine ae ?_
   refine aa hb3 fun x11 hx11 hb3=>aa hb3 fun x12 hx12 hb3=>aa hb3 fun x13 hx13 hb3=>aq [0,0,0] (rg 45 16) [(44,pB (((decide (x11<6))||(!x12))||(!x13)))] (bg 2 (nj hx11) (eM 7 (fun hc=>lf (cF hx12 hc)) (eM 13 (fun hc=>vN (cF hx13 hc)) bj))) (by kernel_rfl) (cR rfl hb3 (fun hc14 hb3=>?_) fun hc14 hb3=>?_)
   ·refine ae ?_
    refine dg [(2,pI 1)] (by kernel_rfl) (dH (dH ?_))
    refine au hb3 (fun ht=>?_);subst ht
    refine cP ?_
    exact zz r h rfl
   refine ae ?_
   refine aJ [0,0] (rg 62 8) [(61,pB ((decide (m6.Price<1))||(decide (1000000000000<m6.Price))))] (by kernel_rfl) (cR rfl hb3 (fun hc15 hb3=>?_) fun hc15 hb3=>?_)
   ·refine ae ?_
    refine dg [(2,pI 2)] (by kernel_rfl) (dH (dH ?_))
    refine au hb3 (fun ht=>?_);subst ht
    refine cP ?_
    exact zz r h rfl
   refine ae ?_
   refine aJ [0] [71,72,73,74] [(70,pB (decide (8<(m6.Inputs.length:Int))))] (by kernel_rfl) (cR rfl hb3 (fun hc16 hb3=>?_) fun hc16 hb3=>?_)
   ·refine ae ?_
    refine dg [(2,pI 8)] (by kernel_rfl) (dH (dH ?_))
    refine au hb3 (fun ht=>?_);subst ht
    refine cP ?_
    exact zz r h rfl
   refine ae ?_
   refine aJ [0,0] (rg 76 8) [(75,pB (m6.Obtained&&(decide (0<(m6.Inputs.length:Int)))))] (by kernel_rfl) (cR rfl hb3 (fun hc17 hb3=>?_) fun hc17 hb3=>?_)
   ·refine ae ?_
    refine dg [(2,pI 1)] (by kernel_rfl) (dH (dH ?_))
    refine au hb3 (fun ht=>?_);subst ht
    refine cP ?_
    exact zz r h rfl
   refine ah ?_
   refine aG (bZ (ak [(5,pI 0)] (by kernel_rfl) (ft hb3 fun q20 hq20 hb3=>?_)))
   refine ju (Y:=Unit×Unit) (fun (_,_)=>[(0,pL Zc.enc p0),(3,pI v2)]) (fun (_,_)=>[]) (fun (_,_)=>q20=Sum.inl ()) ?_ ?_
   ·refine av ?_
    refine aC (Y:=Unit) (S:=Int) _ hq20 (fun _ v18=>[(0,pL Zc.enc p0),(3,pI v2),(4,pP b7 0),(5,pI v18)]) (fun _ v18=>[PRes.b b7 76 (aI m6)]) () (iR rfl) cK ?_
    rintro _ v18 o τ hb19;(try dsimp only at hb19);dsimp only [az]
    refine cT (aJ [0] [84,85,86,87] [(88,pB (decide (v18<(m6.Inputs.length:Int))))] (by kernel_rfl) (cR rfl hb19 (fun hc21 hb19=>?_) fun hc21 hb19=>?_))
    ·refine ah ?_
     refine dJ (ae (bi (ρd:=[]) [(0,0),(1,0),(2,0),(3,0),(4,0),(5,0),(6,0),(7,0),(8,0),(9,0),(10,0),(11,0),(12,0),(13,0),(14,0),(15,0),(16,0),(17,0)] _ (List.Perm.refl _) (by kernel_rfl) rfl (aa hb19 fun m22 hm22 hb19=>aa hb19 fun m23 hm23 hb19=>bt 18 [0,0] (rg 91 17) [(108,pB ((decide (0<v18))&&(decide (m22.Product≤m23.Product))))] (eK 6 Zi.enc (cF hm22) (eK 13 Zi.enc (cF hm23) bj)) (by kernel_rfl) (bA (cR rfl hb19 (fun hc24 hb19=>?_) fun hc24 hb19=>?_)))))
     ·refine ae ?_
      refine dg [(2,pI 9)] (by kernel_rfl) (al (dH ?_))
      refine au hb19 (fun ht=>?_);subst ht
      refine dP (gE (dH ?_))
      refine au hb3 (fun ht=>?_);subst ht
      refine cP ?_
      exact zz r h rfl
     refine ah ?_
     refine cj (aa hb19 fun m25 hm25 hb19=>aa hb19 fun x26 hx26 hb19=>af (aU 11 [0] ((rg 110 8)++[109]) [(118,.agg (aI x26.1)),(119,pB x26.2)] (cL 4 Zi.enc hm25 (bg 7 (iH hx26) bj)) (by kernel_rfl) (ap rfl (aL (cs:=[pI 0,pS ByteArray.empty,pS ByteArray.empty,pI 0,pB false,pN,pN]) rfl rfl rfl rfl (fun b27=>aP rfl rfl (am (vs:=(aI x26.1)) rfl rfl rfl rfl rfl ce mX (aN [(7,pB x26.2)] (by kernel_rfl) (bZ (bF [120] [(121,pB (!x26.2))] (by kernel_rfl) rfl hb19 (fun hc28 hb19=>?_) fun hc28 hb19=>?_)))))))))
     ·refine ae ?_
      refine dg [(2,pI 6)] (by kernel_rfl) (al (dH ?_))
      refine au hb19 (fun ht=>?_);subst ht
      refine dP (gE (dH ?_))
      refine au hb3 (fun ht=>?_);subst ht
      refine cP ?_
      exact zz r h rfl
     refine ah ?_
     refine de hb19 fun m29 hm29 hb19=>aa hb19 fun m30 hm30 hb19=>aq [1,1] (rg 122 15) [(137,pB ((decide (m29.Value<0))||(decide (1000000000000<m30.Value))))] (cL 3 Zi.enc hm29 (eK 11 Zi.enc (cF hm30) bj)) (by kernel_rfl) (cR rfl hb19 (fun hc31 hb19=>?_) fun hc31 hb19=>?_)
     ·refine ae ?_
      refine dg [(2,pI 2)] (by kernel_rfl) (dH ?_)
      refine au hb19 (fun ht=>?_);subst ht
      refine dP (gE (dH ?_))
      refine au hb3 (fun ht=>?_);subst ht
      refine cP ?_
      exact zz r h rfl
     refine ah ?_
     refine dI (ai [89,90] [(5,pI (IntKind.i64.wrap (v18+1)))] (by kernel_rfl) ?_)
     exact aS hb19 () (iR rfl) (be (aB aO) bB)
    refine aH ?_
    refine cq hb19 (fun ht=>aj rfl ?_)
    exact hY ((),()) (mq rfl) bB ht.symm
   rintro ⟨_,_⟩ τ ρ1 hsub32 hz;(try dsimp only at hz hsub32);subst q20;(try dsimp only at hb3);dsimp only [az]
   refine dI (oK hsub32 (ai [15,16] [(3,pI (IntKind.i64.wrap (v2+1)))] (by kernel_rfl) ?_))
   exact aS hb3 () (mq rfl) bB
  refine aH ?_
  refine cq hb3 (fun ht=>aj rfl ?_)
  exact aw ((),()) pz bB ht.symm
 rintro ⟨_,_⟩ τ hz;(try dsimp only at hz);subst q4;(try dsimp only at h);dsimp only [az]
 refine ae (dg [(2,pI 0)] (by kernel_rfl) ?_)
 exact zz r h rfl
def jA (rec:Zd→Option Int) (p0:Zd):Option Int:=(aT (S:=Int×Int) (T:=(Int)) (fun (v2,v3)=>cond ((decide (v3<(p0.Args.length:Int)))&&(decide (v2≤32))) ((idx p0.Args v3).bind fun m8=>(rec m8).bind fun x9=>some (.inl ((IntKind.i64.wrap (v2+x9)),(IntKind.i64.wrap (v3+1))))) (some (.inr v2))) FUEL (1,0)).bind fun v4=>some (oM v4 33)
theorem tk {rec:Zd→Option Int} (hrec:∀ {p0:Zd} {r:Int},rec p0=some r→PF 158 [.agg (an p0)] (pI r)) {p0:Zd} {r:Int} (h:jA rec p0=some r):PF 158 [.agg (an p0)] (pI r):=by
 unfold jA at h
 refine bd ?_
 refine du Tryz.func158 rfl Tryz.ntmps158 Tryz.results158 rfl (da rfl (bf (cs:=(an p0)) rfl rfl (fun b1=>ba [2] (by kernel_rfl) (bZ (ak [(3,pI 1)] (by kernel_rfl) (cj (ak [(4,pI 0)] (by kernel_rfl) (ft h fun q6 hq6 h=>?_))))))))
 refine ar (Y:=Unit×Int) (fun (_,v4)=>[(3,pI v4)]) (fun (_,v4)=>[]) (fun (_,v4)=>q6=v4) ?_ ?_
 ·refine av ?_
  refine aC (Y:=Unit) (S:=Int×Int) _ hq6 (fun _ (v2,v3)=>[(1,pP b1 0),(3,pI v2),(4,pI v3)]) (fun _ (v2,v3)=>[PRes.b b1 84 (an p0)]) () (nV rfl) cK ?_
  rintro _ ⟨v2,v3⟩ o τ hb5;(try dsimp only at hb5);dsimp only [az]
  refine cT (aJ [0] (rg 5 8) [(13,pB ((decide (v3<(p0.Args.length:Int)))&&(decide (v2≤32))))] (by kernel_rfl) (cR rfl hb5 (fun hc7 hb5=>?_) fun hc7 hb5=>?_))
  ·refine ah ?_
   refine bZ (av (aa hb5 fun m8 hm8 hb5=>aa hb5 fun x9 hx9 hb5=>aq [0] (rg 16 8) [(3,pI (IntKind.i64.wrap (v2+x9)))] (ny 4 Zd.enc (Zd.enc_eq _) hm8 (bg 6 (hrec hx9) bj)) (by kernel_rfl) (dI (ai [14,15] [(4,pI (IntKind.i64.wrap (v3+1)))] (by kernel_rfl) ?_))))
   exact aS hb5 () (nV rfl) cK
  refine aH ?_
  refine cq hb5 (fun ht=>aj rfl ?_)
  exact aw ((),v2) (rD rfl) bB ht.symm
 rintro ⟨_,v4⟩ τ hz;(try dsimp only at hz);subst q6;(try dsimp only at h);dsimp only [az]
 refine ae (ai [24,25] [(2,pI (oM v4 33))] (by kernel_rfl) (cX ?_))
 exact zz r h rfl
def ly (n:Nat):Zd→Option Int:=Nat.rec (motive:=fun _=>Zd→Option Int) (fun _=>none) (fun _ ih=>jA ih) n
def qj (p0:Zd):Option Int:=ly FUEL p0
theorem uu (n:Nat):∀ {p0:Zd} {r:Int},ly n p0=some r→PF 158 [.agg (an p0)] (pI r):=by
 induction n with
 | zero=>intros;rename_i h;exact nomatch h
 | succ n ih=>intros;rename_i h;exact tk (fun hr=>ih hr) h
theorem vO {p0:Zd} {r:Int} (h:qj p0=some r):PF 158 [.agg (an p0)] (pI r):=uu FUEL h
def lL (p0:Zd):Option Bool:=cond (((!(p0.Kind == 2))&&(((p0.Digits != 0)||(decide (0<(p0.Except.length:Int))))||(p0.Tolerance != 0)))||((!(p0.Kind == 3))&&(p0.Limit != 0))) (some false) (some (((p0.Kind == 4)||(decide (p0.Name=(⟨#[]⟩:ByteArray))))&&(((p0.Kind == 5)||(p0.Kind == 6))||((p0.Args.length:Int) == 0))))
theorem vP {p0:Zd} {r:Bool}  (h:lL p0=some r):PF 185 [.agg (an p0)] (pB r):=by
 unfold lL at h
 refine bd ?_
 refine du Tryz.func185 rfl Tryz.ntmps185 Tryz.results185 rfl (da rfl (bf (cs:=(an p0)) rfl rfl (fun b1=>ba [2] (by kernel_rfl) (bZ (bi (ρd:=[]) [(0,0),(1,0),(2,0),(3,0),(4,0),(5,0),(6,0),(7,0)] _ (List.Perm.refl _) (by kernel_rfl) rfl (qd 8 [0,0] (rg 6 6) [(3,pB (p0.Kind == 2)),(4,pB (p0.Kind == 3))] (by kernel_rfl) (bA (cj (aJ [0,0,0,0] (rg 12 26) [(38,pB (((!(p0.Kind == 2))&&(((p0.Digits != 0)||(decide (0<(p0.Except.length:Int))))||(p0.Tolerance != 0)))||((!(p0.Kind == 3))&&(p0.Limit != 0))))] (by kernel_rfl) (cR rfl h (fun hc2 h=>?_) fun hc2 h=>?_))))))))))
 ·refine ae ?_
  refine dg [(2,pB false)] (by kernel_rfl) (al ?_)
  exact zz r h rfl
 refine ah ?_
 refine bZ (aJ [0,0] (rg 39 8) [(5,pB ((p0.Kind == 5)||(p0.Kind == 6)))] (by kernel_rfl) (bZ (aJ [0,0,0] (rg 47 17) [(2,pB (((p0.Kind == 4)||(decide (p0.Name=(⟨#[]⟩:ByteArray))))&&(((p0.Kind == 5)||(p0.Kind == 6))||((p0.Args.length:Int) == 0))))] (by kernel_rfl) (cX ?_))))
 exact zz r h rfl
def jB (rec:Zd→Option Bool) (p0:Zd):Option Bool:=(lL p0).bind fun x2=>cond (!x2) (some false) (cond (p0.Kind == 1) (some true) (cond (p0.Kind == 2) ((aT (S:=Int) (T:=(Unit)⊕(_)) (fun v6=>cond (decide (v6<(p0.Except.length:Int))) ((idx p0.Except v6).bind fun m10=>(fD m10).bind fun x11=>(gd ((!(x11 == 0))&&(decide (0<v6))) (idx p0.Except (IntKind.i64.wrap (v6 - 1)))).bind fun m12=>(gd ((!(x11 == 0))&&(decide (0<v6))) (idx p0.Except v6)).bind fun m13=>cond ((x11 == 0)||((decide (0<v6))&&(!Op.bytesLess m12.toList m13.toList))) (some (.inr (.inr false))) (some (.inl (IntKind.i64.wrap (v6+1))))) (some (.inr (.inl ())))) FUEL 0).bind fun q=>match q with | .inl _=>some ((((((p0.Digits == 2)||(p0.Digits == 4))||(p0.Digits == 6))&&(decide ((p0.Except.length:Int)≤6)))&&(decide (0≤p0.Tolerance)))&&(decide (p0.Tolerance≤1000000))) | .inr e=>some e) (cond (p0.Kind == 3) (some ((decide (0≤p0.Limit))&&(decide (p0.Limit≤1000000)))) (cond (p0.Kind == 4) ((lg p0.Name).bind fun x17=>some x17) (Option.bind (cond (p0.Kind == 5) (some (p0.Kind == 5)) (some (p0.Kind == 6))) (fun v18=>cond v18 ((aT (S:=Int) (T:=(Unit)⊕(_)) (fun v22=>cond (decide (v22<(p0.Args.length:Int))) ((idx p0.Args v22).bind fun m26=>(gd (!(m26.Kind == p0.Kind)) (idx p0.Args v22)).bind fun m27=>(gd (!(m26.Kind == p0.Kind)) (rec m27)).bind fun x28=>cond ((m26.Kind == p0.Kind)||(!x28)) (some (.inr (.inr false))) (some (.inl (IntKind.i64.wrap (v22+1))))) (some (.inr (.inl ())))) FUEL 0).bind fun q=>match q with | .inl _=>some ((decide (2≤(p0.Args.length:Int)))&&(decide ((p0.Args.length:Int)≤6))) | .inr e=>some e) (some false)))))))
theorem tm {rec:Zd→Option Bool} (hrec:∀ {p0:Zd} {r:Bool},rec p0=some r→PF 159 [.agg (an p0)] (pB r)) {p0:Zd} {r:Bool} (h:jB rec p0=some r):PF 159 [.agg (an p0)] (pB r):=by
 unfold jB at h
 refine bd ?_
 refine du Tryz.func159 rfl Tryz.ntmps159 Tryz.results159 rfl (da rfl (bf (cs:=(an p0)) rfl rfl (fun b1=>ba [2] (by kernel_rfl) (cj (aa h fun x2 hx2 h=>aq [0] [5,6] [(7,pB (!x2))] (bg 1 (vP hx2) bj) (by kernel_rfl) (cR rfl h (fun hc3 h=>?_) fun hc3 h=>?_))))))
 ·refine ae ?_
  refine dg [(2,pB false)] (by kernel_rfl) (al ?_)
  exact zz r h rfl
 refine ah ?_
 refine cj (aJ [0] [8] [(9,pI p0.Kind)] (by kernel_rfl) (aX (qU (bF [11] [(10,pB (p0.Kind == 1))] (by kernel_rfl) rfl h (fun hc4 h=>?_) fun hc4 h=>?_))))
 ·refine ae ?_
  refine dg [(2,pB true)] (by kernel_rfl) (dH ?_)
  exact zz r h rfl
 refine ae ?_
 refine bF [13] [(12,pB (p0.Kind == 2))] (by kernel_rfl) rfl h (fun hc5 h=>?_) fun hc5 h=>?_
 ·refine ae ?_
  refine ae (ak [(3,pI 0)] (by kernel_rfl) (ft h fun q8 hq8 h=>?_))
  refine ar (Y:=Unit×Unit) (fun (_,_)=>[(1,pP b1 0)]) (fun (_,_)=>[PRes.b b1 84 (an p0)]) (fun (_,_)=>q8=Sum.inl ()) ?_ ?_
  ·refine av ?_
   refine aC (Y:=Unit) (S:=Int) _ hq8 (fun _ v6=>[(1,pP b1 0),(3,pI v6)]) (fun _ v6=>[PRes.b b1 84 (an p0)]) () (mq rfl) cK ?_
   rintro _ v6 o τ hb7;(try dsimp only at hb7);dsimp only [az]
   refine cT (aJ [0] [14,15,16,17] [(18,pB (decide (v6<(p0.Except.length:Int))))] (by kernel_rfl) (cR rfl hb7 (fun hc9 hb7=>?_) fun hc9 hb7=>?_))
   ·refine ah ?_
    refine dJ (bi (ρd:=[]) [(0,0),(1,0),(2,0),(3,0),(4,0),(5,1),(6,0),(7,0),(8,0),(9,0),(10,0),(11,0),(12,0),(13,0),(14,0),(15,0),(16,0),(17,0),(18,0),(19,0),(20,0),(21,0),(22,0),(23,0),(24,0)] _ (List.Perm.refl _) (by kernel_rfl) rfl (aa hb7 fun m10 hm10 hb7=>aa hb7 fun x11 hx11 hb7=>aa hb7 fun m12 hm12 hb7=>aa hb7 fun m13 hm13 hb7=>bt 25 [0,0,0] (rg 21 24) [(45,pB ((x11 == 0)||((decide (0<v6))&&(!Op.bytesLess m12.toList m13.toList))))] (cL 3 eS hm10 (bg 5 (nj hx11) (eK 15 eS (cF hm12) (eK 20 eS (cF hm13) bj)))) (by kernel_rfl) (bA (cR rfl hb7 (fun hc14 hb7=>?_) fun hc14 hb7=>?_))))
    ·refine ae ?_
     refine dg [(2,pB false)] (by kernel_rfl) (dH ?_)
     refine au hb7 (fun ht=>?_);subst ht
     refine cP (dH ?_)
     exact zz r h rfl
    refine ah ?_
    refine dI (ai [19,20] [(3,pI (IntKind.i64.wrap (v6+1)))] (by kernel_rfl) ?_)
    exact aS hb7 () (mq rfl) cK
   refine aH ?_
   refine cq hb7 (fun ht=>aj rfl ?_)
   exact aw ((),()) (rD rfl) cK ht.symm
  rintro ⟨_,_⟩ τ hz;(try dsimp only at hz);subst q8;(try dsimp only at h);dsimp only [az]
  refine ae (aJ [0,0,0,0,0,0] (rg 46 29) [(2,pB ((((((p0.Digits == 2)||(p0.Digits == 4))||(p0.Digits == 6))&&(decide ((p0.Except.length:Int)≤6)))&&(decide (0≤p0.Tolerance)))&&(decide (p0.Tolerance≤1000000))))] (by kernel_rfl) (cX (dH ?_)))
  exact zz r h rfl
 refine ae ?_
 refine bF [76] [(75,pB (p0.Kind == 3))] (by kernel_rfl) rfl h (fun hc15 h=>?_) fun hc15 h=>?_
 ·refine ae ?_
  refine aJ [0,0] (rg 77 8) [(2,pB ((decide (0≤p0.Limit))&&(decide (p0.Limit≤1000000))))] (by kernel_rfl) (cX (dH ?_))
  exact zz r h rfl
 refine ae ?_
 refine bF [86] [(85,pB (p0.Kind == 4))] (by kernel_rfl) rfl h (fun hc16 h=>?_) fun hc16 h=>?_
 ·refine ae ?_
  refine aa h fun x17 hx17 h=>aq [0] [87,88,89] [(2,pB x17)] (bg 2 (rn hx17) bj) (by kernel_rfl) (cX (dH ?_))
  exact zz r h rfl
 refine ae ?_
 refine ae (ai [91] [(90,pB (p0.Kind == 5))] (by kernel_rfl) (ft h fun q19 hq19 h=>?_))
 refine ar (Y:=Unit×Bool) (fun (_,v18)=>[(1,pP b1 0),(90,pB v18)]) (fun (_,v18)=>[PRes.b b1 84 (an p0)]) (fun (_,v18)=>q19=v18) ?_ ?_
 ·skip
  refine kq rfl hq19 (fun hc20 hq19=>?_) fun hc20 hq19=>?_
  ·refine ah ?_
   obtain rfl:=osi hq19
   exact aw ((),(p0.Kind == 5)) (mq rfl) cK rfl
  refine ai [92] [(90,pB (p0.Kind == 6))] (by kernel_rfl) ?_
  obtain rfl:=osi hq19
  exact aw ((),(p0.Kind == 6)) (mq rfl) cK rfl
 rintro ⟨_,v18⟩ τ hz;(try dsimp only at hz);subst q19;(try dsimp only at h);dsimp only [az]
 refine kq rfl h (fun hc21 h=>?_) fun hc21 h=>?_
 ·refine ae ?_
  refine ae (ak [(4,pI 0)] (by kernel_rfl) (ft h fun q24 hq24 h=>?_))
  refine ar (Y:=Unit×Unit) (fun (_,_)=>[(1,pP b1 0)]) (fun (_,_)=>[PRes.b b1 84 (an p0)]) (fun (_,_)=>q24=Sum.inl ()) ?_ ?_
  ·refine av ?_
   refine aC (Y:=Unit) (S:=Int) _ hq24 (fun _ v22=>[(1,pP b1 0),(4,pI v22)]) (fun _ v22=>[PRes.b b1 84 (an p0)]) () (mq rfl) cK ?_
   rintro _ v22 o τ hb23;(try dsimp only at hb23);dsimp only [az]
   refine cT (aJ [0] [93,94,95,96] [(97,pB (decide (v22<(p0.Args.length:Int))))] (by kernel_rfl) (cR rfl hb23 (fun hc25 hb23=>?_) fun hc25 hb23=>?_))
   ·refine ah ?_
    refine dJ (bi (ρd:=[]) [(0,0),(1,0),(2,0),(3,0),(4,0),(5,0),(6,0),(7,0),(8,0),(9,0),(10,0),(11,0),(12,0),(13,0),(14,0),(15,1),(16,0),(17,0)] _ (List.Perm.refl _) (by kernel_rfl) rfl (aa hb23 fun m26 hm26 hb23=>aa hb23 fun m27 hm27 hb23=>aa hb23 fun x28 hx28 hb23=>bt 18 [0,0,0] (rg 100 17) [(117,pB ((m26.Kind == p0.Kind)||(!x28)))] (ny 3 Zd.enc (Zd.enc_eq _) hm26 (foixrg 13 Zd.enc (Zd.enc_eq _) (cF hm27) (eM 15 (fun hc=>hrec (cF hx28 hc)) bj))) (by kernel_rfl) (bA (cR rfl hb23 (fun hc29 hb23=>?_) fun hc29 hb23=>?_))))
    ·refine ae ?_
     refine dg [(2,pB false)] (by kernel_rfl) (dH ?_)
     refine au hb23 (fun ht=>?_);subst ht
     refine cP (dH ?_)
     exact zz r h rfl
    refine ah ?_
    refine dI (ai [98,99] [(4,pI (IntKind.i64.wrap (v22+1)))] (by kernel_rfl) ?_)
    exact aS hb23 () (mq rfl) cK
   refine aH ?_
   refine cq hb23 (fun ht=>aj rfl ?_)
   exact aw ((),()) (rD rfl) cK ht.symm
  rintro ⟨_,_⟩ τ hz;(try dsimp only at hz);subst q24;(try dsimp only at h);dsimp only [az]
  refine ae (aJ [0,0] (rg 118 10) [(2,pB ((decide (2≤(p0.Args.length:Int)))&&(decide ((p0.Args.length:Int)≤6))))] (by kernel_rfl) (cX (dH ?_)))
  exact zz r h rfl
 refine ah ?_
 refine aG (bZ (dg [(2,pB false)] (by kernel_rfl) ?_))
 exact zz r h rfl
def lz (n:Nat):Zd→Option Bool:=Nat.rec (motive:=fun _=>Zd→Option Bool) (fun _=>none) (fun _ ih=>jB ih) n
def qk (p0:Zd):Option Bool:=lz FUEL p0
theorem uv (n:Nat):∀ {p0:Zd} {r:Bool},lz n p0=some r→PF 159 [.agg (an p0)] (pB r):=by
 induction n with
 | zero=>intros;rename_i h;exact nomatch h
 | succ n ih=>intros;rename_i h;exact tm (fun hr=>ih hr) h
theorem vQ {p0:Zd} {r:Bool} (h:qk p0=some r):PF 159 [.agg (an p0)] (pB r):=uv FUEL h
def ll (p0:Zd):Option Int:=(qj p0).bind fun x2=>cond (decide (32<x2)) (some (8:Int)) ((qk p0).bind fun x4=>cond (!x4) (some (1:Int)) (some (0:Int)))
theorem w6 {p0:Zd} {r:Int}  (h:ll p0=some r):PF 115 [.agg (an p0)] (pI r):=by
 unfold ll at h
 refine bd ?_
 refine du Tryz.func115 rfl Tryz.ntmps115 Tryz.results115 rfl (da rfl (bf (cs:=(an p0)) rfl rfl (fun b1=>ba [2] (by kernel_rfl) (cj (aa h fun x2 hx2 h=>aq [0] [3,4] [(5,pB (decide (32<x2)))] (bg 1 (vO hx2) bj) (by kernel_rfl) (cR rfl h (fun hc3 h=>?_) fun hc3 h=>?_))))))
 ·refine ae ?_
  refine dg [(2,pI 8)] (by kernel_rfl) (al ?_)
  exact zz r h rfl
 refine ah ?_
 refine cj (aa h fun x4 hx4 h=>aq [0] [6,7] [(8,pB (!x4))] (bg 1 (vQ hx4) bj) (by kernel_rfl) (cR rfl h (fun hc5 h=>?_) fun hc5 h=>?_))
 ·refine ae ?_
  refine dg [(2,pI 1)] (by kernel_rfl) (al ?_)
  exact zz r h rfl
 refine ah ?_
 refine bZ (dg [(2,pI 0)] (by kernel_rfl) ?_)
 exact zz r h rfl
def fK (p0:(List Zb)):Option Int:=cond (decide (8<(p0.length:Int))) (some (8:Int)) ((aT (S:=Int) (T:=(Unit)⊕(_)) (fun v2=>cond (decide (v2<(p0.length:Int))) ((idx p0 v2).bind fun m6=>cond ((((decide (m6.ID<1))||(decide (1000<m6.ID)))||(decide (m6.Kind<1)))||(decide (3<m6.Kind))) (some (.inr (.inr (2:Int)))) ((gd (decide (0<v2)) (idx p0 (IntKind.i64.wrap (v2 - 1)))).bind fun m9=>cond ((decide (0<v2))&&(decide (m6.ID≤m9.ID))) (some (.inr (.inr (9:Int)))) (cond ((decide (12<(m6.Parties.length:Int)))||(decide (12<(m6.Rules.length:Int)))) (some (.inr (.inr (8:Int)))) ((aT (S:=Int) (T:=(Unit)⊕(_)) (fun v12=>cond (decide (v12<(m6.Parties.length:Int))) ((idx m6.Parties v12).bind fun m16=>(eg m16).bind fun x17=>(gd ((!(!x17))&&(decide (0<v12))) (idx m6.Parties (IntKind.i64.wrap (v12 - 1)))).bind fun m18=>(gd ((!(!x17))&&(decide (0<v12))) (idx m6.Parties v12)).bind fun m19=>cond ((!x17)||((decide (0<v12))&&(!Op.bytesLess m18.toList m19.toList))) (some (.inr (.inr (.inr (.inr (1:Int)))))) (some (.inl (IntKind.i64.wrap (v12+1))))) (some (.inr (.inl ())))) FUEL 0).bind fun q=>match q with | .inl _=>(aT (S:=Int) (T:=(Unit)⊕(_)) (fun v21=>cond (decide (v21<(m6.Rules.length:Int))) ((idx m6.Rules v21).bind fun m25=>(fD m25.Prefix).bind fun x26=>cond (x26 == 0) (some (.inr (.inr (.inr (.inr (1:Int)))))) ((gd (decide (0<v21)) (idx m6.Rules (IntKind.i64.wrap (v21 - 1)))).bind fun m28=>(gd (decide (0<v21)) (idx m6.Rules v21)).bind fun m29=>cond ((decide (0<v21))&&(!Op.bytesLess m28.Prefix.toList m29.Prefix.toList)) (some (.inr (.inr (.inr (.inr (9:Int)))))) ((idx m6.Rules v21).bind fun m31=>(ll m31.Rule).bind fun x32=>cond (x32 != 0) (some (.inr (.inr (.inr (.inr x32))))) (some (.inl (IntKind.i64.wrap (v21+1))))))) (some (.inr (.inl ())))) FUEL 0).bind (fun q=>match q with | .inl _=>some (.inl (IntKind.i64.wrap (v2+1))) | .inr e=>some e) | .inr e=>some e)))) (some (.inr (.inl ())))) FUEL 0).bind fun q=>match q with | .inl _=>some (0:Int) | .inr e=>some e)
theorem ri {p0:(List Zb)} {r:Int}  (h:fK p0=some r):PF 66 [pL Zb.enc p0] (pI r):=by
 unfold fK at h
 refine bd ?_
 refine du Tryz.func66 rfl Tryz.ntmps66 Tryz.results66 rfl (aW [2] (by kernel_rfl) (cj (bF [8,9] [(10,pB (decide (8<(p0.length:Int))))] (by kernel_rfl) rfl h (fun hc1 h=>?_) fun hc1 h=>?_)))
 ·refine ae ?_
  refine dg [(2,pI 8)] (by kernel_rfl) (al ?_)
  exact zz r h rfl
 refine ah ?_
 refine cj (ak [(3,pI 0)] (by kernel_rfl) (ft h fun q4 hq4 h=>?_))
 refine ar (Y:=Unit×Unit) (fun (_,_)=>[]) (fun (_,_)=>[]) (fun (_,_)=>q4=Sum.inl ()) ?_ ?_
 ·refine av ?_
  refine aC (Y:=Unit) (S:=Int) _ hq4 (fun _ v2=>[(0,pL Zb.enc p0),(3,pI v2)]) (fun _ v2=>[]) () (mq rfl) bB ?_
  rintro _ v2 o τ hb3;(try dsimp only at hb3);dsimp only [az]
  refine cT (bF [11,12,13] [(14,pB (decide (v2<(p0.length:Int))))] (by kernel_rfl) rfl hb3 (fun hc5 hb3=>?_) fun hc5 hb3=>?_)
  ·refine ah ?_
   refine dJ (aa hb3 fun m6 hm6 hb3=>af (aU 4 [] [17,18,19] [(20,.agg (aA m6))] (cL 2 Zb.enc hm6 bj) (by kernel_rfl) (ap rfl (aL (cs:=[pI 0,pI 0,pN,pN]) rfl rfl rfl rfl (fun b7=>aP rfl rfl (am (vs:=(aA m6)) rfl rfl rfl rfl rfl ce xx (aF (dJ (aJ [0,0,0,0] (rg 22 18) [(21,pB ((((decide (m6.ID<1))||(decide (1000<m6.ID)))||(decide (m6.Kind<1)))||(decide (3<m6.Kind))))] (by kernel_rfl) (cR rfl hb3 (fun hc8 hb3=>?_) fun hc8 hb3=>?_))))))))))
   ·refine ae ?_
    refine dg [(2,pI 2)] (by kernel_rfl) (dH (dH ?_))
    refine au hb3 (fun ht=>?_);subst ht
    refine cP ?_
    exact zz r h rfl
   refine ae ?_
   refine bi (ρd:=[]) [(0,0),(1,0),(2,0),(3,0),(4,0),(5,0),(6,0),(7,0),(8,0),(9,0),(10,0),(11,0),(12,0),(13,0)] _ (List.Perm.refl _) (by kernel_rfl) rfl (aa hb3 fun m9 hm9 hb3=>bt 14 [0] (rg 41 13) [(40,pB ((decide (0<v2))&&(decide (m6.ID≤m9.ID))))] (eK 8 Zb.enc (cF hm9) bj) (by kernel_rfl) (bA (cR rfl hb3 (fun hc10 hb3=>?_) fun hc10 hb3=>?_)))
   ·refine ae ?_
    refine dg [(2,pI 9)] (by kernel_rfl) (dH (dH ?_))
    refine au hb3 (fun ht=>?_);subst ht
    refine cP ?_
    exact zz r h rfl
   refine ae ?_
   refine aJ [0,0] (rg 55 10) [(54,pB ((decide (12<(m6.Parties.length:Int)))||(decide (12<(m6.Rules.length:Int)))))] (by kernel_rfl) (cR rfl hb3 (fun hc11 hb3=>?_) fun hc11 hb3=>?_)
   ·refine ae ?_
    refine dg [(2,pI 8)] (by kernel_rfl) (dH (dH ?_))
    refine au hb3 (fun ht=>?_);subst ht
    refine cP ?_
    exact zz r h rfl
   refine ah ?_
   refine aG (cj (ak [(5,pI 0)] (by kernel_rfl) (ft hb3 fun q14 hq14 hb3=>?_)))
   refine ar (Y:=Unit×Unit) (fun (_,_)=>[(0,pL Zb.enc p0),(3,pI v2),(4,pP b7 0)]) (fun (_,_)=>[PRes.b b7 81 (aA m6)]) (fun (_,_)=>q14=Sum.inl ()) ?_ ?_
   ·refine av ?_
    refine aC (Y:=Unit) (S:=Int) _ hq14 (fun _ v12=>[(0,pL Zb.enc p0),(3,pI v2),(4,pP b7 0),(5,pI v12)]) (fun _ v12=>[PRes.b b7 81 (aA m6)]) () (iR rfl) cK ?_
    rintro _ v12 o τ hb13;(try dsimp only at hb13);dsimp only [az]
    refine cT (aJ [0] [65,66,67,68] [(69,pB (decide (v12<(m6.Parties.length:Int))))] (by kernel_rfl) (cR rfl hb13 (fun hc15 hb13=>?_) fun hc15 hb13=>?_))
    ·refine ah ?_
     refine dJ (bi (ρd:=[]) [(0,0),(1,0),(2,0),(3,0),(4,0),(5,1),(6,0),(7,0),(8,0),(9,0),(10,0),(11,0),(12,0),(13,0),(14,0),(15,0),(16,0),(17,0),(18,0),(19,0),(20,0),(21,0),(22,0),(23,0),(24,0)] _ (List.Perm.refl _) (by kernel_rfl) rfl (aa hb13 fun m16 hm16 hb13=>aa hb13 fun x17 hx17 hb13=>aa hb13 fun m18 hm18 hb13=>aa hb13 fun m19 hm19 hb13=>bt 25 [0,0,0] (rg 72 24) [(96,pB ((!x17)||((decide (0<v12))&&(!Op.bytesLess m18.toList m19.toList))))] (cL 3 eS hm16 (bg 5 (lf hx17) (eK 15 eS (cF hm18) (eK 20 eS (cF hm19) bj)))) (by kernel_rfl) (bA (cR rfl hb13 (fun hc20 hb13=>?_) fun hc20 hb13=>?_))))
     ·refine ae ?_
      refine dg [(2,pI 1)] (by kernel_rfl) (dH ?_)
      refine au hb13 (fun ht=>?_);subst ht
      refine cP (dH ?_)
      refine au hb3 (fun ht=>?_);subst ht
      refine cP ?_
      exact zz r h rfl
     refine ah ?_
     refine dI (ai [70,71] [(5,pI (IntKind.i64.wrap (v12+1)))] (by kernel_rfl) ?_)
     exact aS hb13 () (iR rfl) cK
    refine aH ?_
    refine cq hb13 (fun ht=>aj rfl ?_)
    exact aw ((),()) (nV rfl) cK ht.symm
   rintro ⟨_,_⟩ τ hz;(try dsimp only at hz);subst q14;(try dsimp only at hb3);dsimp only [az]
   refine ae (ak [(6,pI 0)] (by kernel_rfl) (ft hb3 fun q23 hq23 hb3=>?_))
   refine ju (Y:=Unit×Unit) (fun (_,_)=>[(0,pL Zb.enc p0),(3,pI v2)]) (fun (_,_)=>[]) (fun (_,_)=>q23=Sum.inl ()) ?_ ?_
   ·refine av ?_
    refine aC (Y:=Unit) (S:=Int) _ hq23 (fun _ v21=>[(0,pL Zb.enc p0),(3,pI v2),(4,pP b7 0),(6,pI v21)]) (fun _ v21=>[PRes.b b7 81 (aA m6)]) () (iR rfl) cK ?_
    rintro _ v21 o τ hb22;(try dsimp only at hb22);dsimp only [az]
    refine cT (aJ [0] [97,98,99,100] [(101,pB (decide (v21<(m6.Rules.length:Int))))] (by kernel_rfl) (cR rfl hb22 (fun hc24 hb22=>?_) fun hc24 hb22=>?_))
    ·refine ah ?_
     refine dJ (ae (aa hb22 fun m25 hm25 hb22=>aa hb22 fun x26 hx26 hb22=>aq [0] (rg 104 7) [(111,pB (x26 == 0))] (cL 3 Zh.enc hm25 (bg 6 (nj hx26) bj)) (by kernel_rfl) (cR rfl hb22 (fun hc27 hb22=>?_) fun hc27 hb22=>?_)))
     ·refine ae ?_
      refine dg [(2,pI 1)] (by kernel_rfl) (al (dH ?_))
      refine au hb22 (fun ht=>?_);subst ht
      refine dP (gE (dH ?_))
      refine au hb3 (fun ht=>?_);subst ht
      refine cP ?_
      exact zz r h rfl
     refine ah ?_
     refine cj (bi (ρd:=[]) [(0,0),(1,0),(2,0),(3,0),(4,0),(5,0),(6,0),(7,0),(8,0),(9,0),(10,0),(11,0),(12,0),(13,0),(14,0),(15,0),(16,0),(17,0)] _ (List.Perm.refl _) (by kernel_rfl) rfl (aa hb22 fun m28 hm28 hb22=>aa hb22 fun m29 hm29 hb22=>bt 18 [0,0] (rg 112 17) [(129,pB ((decide (0<v21))&&(!Op.bytesLess m28.Prefix.toList m29.Prefix.toList)))] (eK 7 Zh.enc (cF hm28) (eK 13 Zh.enc (cF hm29) bj)) (by kernel_rfl) (bA (cR rfl hb22 (fun hc30 hb22=>?_) fun hc30 hb22=>?_))))
     ·refine ae ?_
      refine dg [(2,pI 9)] (by kernel_rfl) (al (dH ?_))
      refine au hb22 (fun ht=>?_);subst ht
      refine dP (gE (dH ?_))
      refine au hb3 (fun ht=>?_);subst ht
      refine cP ?_
      exact zz r h rfl
     refine ah ?_
     refine de hb22 fun m31 hm31 hb22=>aa hb22 fun x32 hx32 hb22=>aq [0] (rg 130 7) [(7,pI x32)] (cL 3 Zh.enc hm31 (bg 6 (w6 hx32) bj)) (by kernel_rfl) (bZ (bF [137] [(138,pB (x32 != 0))] (by kernel_rfl) rfl hb22 (fun hc33 hb22=>?_) fun hc33 hb22=>?_))
     ·refine ae ?_
      refine ai [139] [(2,pI x32)] (by kernel_rfl) (cX (dH ?_))
      refine au hb22 (fun ht=>?_);subst ht
      refine dP (gE (dH ?_))
      refine au hb3 (fun ht=>?_);subst ht
      refine cP ?_
      exact zz r h rfl
     refine ah ?_
     refine dI (ai [102,103] [(6,pI (IntKind.i64.wrap (v21+1)))] (by kernel_rfl) ?_)
     exact aS hb22 () (iR rfl) cK
    refine aH ?_
    refine cq hb22 (fun ht=>aj rfl ?_)
    exact hY ((),()) (mq rfl) bB ht.symm
   rintro ⟨_,_⟩ τ ρ1 hsub34 hz;(try dsimp only at hz hsub34);subst q23;(try dsimp only at hb3);dsimp only [az]
   refine dI (oK hsub34 (ai [15,16] [(3,pI (IntKind.i64.wrap (v2+1)))] (by kernel_rfl) ?_))
   exact aS hb3 () (mq rfl) bB
  refine aH ?_
  refine cq hb3 (fun ht=>aj rfl ?_)
  exact aw ((),()) pz bB ht.symm
 rintro ⟨_,_⟩ τ hz;(try dsimp only at hz);subst q4;(try dsimp only at h);dsimp only [az]
 refine ae (dg [(2,pI 0)] (by kernel_rfl) ?_)
 exact zz r h rfl
def gT (p0:Zd) (p1:Zl) (p2:Zk):Option Bool:=(ko p2.Code 0 p0.Digits).bind fun s4=>(ko p1.Code 0 p0.Digits).bind fun s5=>cond (decide (s4=s5)) (some true) ((aT (S:=Int) (T:=(Unit)⊕(_)) (fun v7=>cond (decide (v7<(p0.Except.length:Int))) ((idx p0.Except v7).bind fun m11=>(ie p2.Code m11).bind fun x12=>cond x12 (some (.inr (.inr true))) (some (.inl (IntKind.i64.wrap (v7+1))))) (some (.inr (.inl ())))) FUEL 0).bind fun q=>match q with | .inl _=>some false | .inr e=>some e)
theorem sv {p0:Zd} {p1:Zl} {p2:Zk} {r:Bool}  (h:gT p0 p1 p2=some r):PF 160 [.agg (an p0),.agg (bk p1),.agg [pS p2.Code,pI p2.Value,pB p2.Originating]] (pB r):=by
 unfold gT at h
 refine bd ?_
 refine du Tryz.func160 rfl Tryz.ntmps160 Tryz.results160 rfl (da rfl (bf (cs:=(an p0)) rfl rfl (fun b1=>ap rfl (bf (cs:=(bk p1)) rfl rfl (fun b2=>ap rfl (bf (cs:=[pS p2.Code,pI p2.Value,pB p2.Originating]) rfl rfl (fun b3=>ba [6] (by kernel_rfl) (cj (bi (ρd:=[]) [(0,0),(1,0),(2,0),(3,0),(4,0),(5,0),(6,0),(7,0),(8,0),(9,0),(10,0)] _ (List.Perm.refl _) (by kernel_rfl) rfl (aa h fun s4 hs4 h=>aa h fun s5 hs5 h=>bt 11 [0,2,1,2] (rg 8 10) [(18,pB (decide (s4=s5)))] (foss 4 hs4 (foss 9 hs5 bj)) (by kernel_rfl) (bA (cR rfl h (fun hc6 h=>?_) fun hc6 h=>?_))))))))))))
 ·refine ae ?_
  refine dg [(6,pB true)] (by kernel_rfl) (al ?_)
  exact zz r h rfl
 refine ah ?_
 refine cj (ak [(7,pI 0)] (by kernel_rfl) (ft h fun q9 hq9 h=>?_))
 refine ar (Y:=Unit×Unit) (fun (_,_)=>[]) (fun (_,_)=>[]) (fun (_,_)=>q9=Sum.inl ()) ?_ ?_
 ·refine av ?_
  refine aC (Y:=Unit) (S:=Int) _ hq9 (fun _ v7=>[(3,pP b1 0),(5,pP b3 0),(7,pI v7)]) (fun _ v7=>[PRes.b b1 84 (an p0),PRes.b b3 103 [pS p2.Code,pI p2.Value,pB p2.Originating]]) () (nV rfl) (be (aB (aB aO)) cK) ?_
  rintro _ v7 o τ hb8;(try dsimp only at hb8);dsimp only [az]
  refine cT (aJ [0] [19,20,21,22] [(23,pB (decide (v7<(p0.Except.length:Int))))] (by kernel_rfl) (cR rfl hb8 (fun hc10 hb8=>?_) fun hc10 hb8=>?_))
  ·refine ah ?_
   refine dJ (bi (ρd:=[]) [(0,0),(1,0),(2,0),(3,0),(4,0),(5,0),(6,0),(7,1)] _ (List.Perm.refl _) (by kernel_rfl) rfl (aa hb8 fun m11 hm11 hb8=>aa hb8 fun x12 hx12 hb8=>bt 8 [1,0] (rg 26 7) [(33,pB x12)] (cL 5 eS hm11 (bg 7 (pC hx12) bj)) (by kernel_rfl) (bA (cR rfl hb8 (fun hc13 hb8=>?_) fun hc13 hb8=>?_))))
   ·refine ae ?_
    refine dg [(6,pB true)] (by kernel_rfl) (dH ?_)
    refine au hb8 (fun ht=>?_);subst ht
    refine cP ?_
    exact zz r h rfl
   refine ah ?_
   refine dI (ai [24,25] [(7,pI (IntKind.i64.wrap (v7+1)))] (by kernel_rfl) ?_)
   exact aS hb8 () (nV rfl) n8
  refine aH ?_
  refine cq hb8 (fun ht=>aj rfl ?_)
  exact aw ((),()) pz bB ht.symm
 rintro ⟨_,_⟩ τ hz;(try dsimp only at hz);subst q9;(try dsimp only at h);dsimp only [az]
 refine ae (dg [(6,pB false)] (by kernel_rfl) ?_)
 exact zz r h rfl
def lm (p0:Zm) (p1:Zm):Option Bool:=some ((decide (p0.Hi<p1.Hi))||((p0.Hi == p1.Hi)&&(decide (p0.Lo<p1.Lo))))
theorem ro {p0:Zm} {p1:Zm} {r:Bool}  (h:lm p0 p1=some r):PF 208 [.agg [pU p0.Hi,pU p0.Lo],.agg [pU p1.Hi,pU p1.Lo]] (pB r):=by
 unfold lm at h
 refine bd ?_
 refine du Tryz.func208 rfl Tryz.ntmps208 Tryz.results208 rfl (da rfl (bf (cs:=[pU p0.Hi,pU p0.Lo]) rfl rfl (fun b1=>ap rfl (bf (cs:=[pU p1.Hi,pU p1.Lo]) rfl rfl (fun b2=>ba [4] (by kernel_rfl) (bZ (aJ [1,0,1,0,1,0] (rg 5 19) [(4,pB ((decide (p0.Hi<p1.Hi))||((p0.Hi == p1.Hi)&&(decide (p0.Lo<p1.Lo)))))] (by kernel_rfl) (cX ?_))))))))
 exact zz r h rfl
def nA (p0:Zm) (p1:Zm):Option Int:=(lm p0 p1).bind fun x3=>cond x3 (some (-1)) ((lm p1 p0).bind fun x5=>cond x5 (some (1:Int)) (some (0:Int)))
theorem vR {p0:Zm} {p1:Zm} {r:Int}  (h:nA p0 p1=some r):PF 186 [.agg [pU p0.Hi,pU p0.Lo],.agg [pU p1.Hi,pU p1.Lo]] (pI r):=by
 unfold nA at h
 refine bd ?_
 refine du Tryz.func186 rfl Tryz.ntmps186 Tryz.results186 rfl (da rfl (bf (cs:=[pU p0.Hi,pU p0.Lo]) rfl rfl (fun b1=>ap rfl (bf (cs:=[pU p1.Hi,pU p1.Lo]) rfl rfl (fun b2=>ba [4] (by kernel_rfl) (dJ (aa h fun x3 hx3 h=>aq [1,0] [6,7,8] [(5,pB x3)] (bg 2 (ro hx3) bj) (by kernel_rfl) (cR rfl h (fun hc4 h=>?_) fun hc4 h=>?_))))))))
 ·refine ae ?_
  refine dg [(4,pI (-1))] (by kernel_rfl) (dH ?_)
  exact zz r h rfl
 refine ae ?_
 refine aa h fun x5 hx5 h=>aq [0,1] [10,11,12] [(9,pB x5)] (bg 2 (ro hx5) bj) (by kernel_rfl) (cR rfl h (fun hc6 h=>?_) fun hc6 h=>?_)
 ·refine ae ?_
  refine dg [(4,pI 1)] (by kernel_rfl) (dH ?_)
  exact zz r h rfl
 refine ah ?_
 refine aG (bZ (dg [(4,pI 0)] (by kernel_rfl) ?_))
 exact zz r h rfl
def jg (p0:Int) (p1:Int) (p2:Int):Option Bool:=(jX (IntKind.u64.wrap p0) 1000000).bind fun x1=>(jX (IntKind.u64.wrap p1) (IntKind.u64.wrap p2)).bind fun x2=>(nA x1 x2).bind fun x3=>some (decide (x3≤0))
theorem pE {p0:Int} {p1:Int} {p2:Int} {r:Bool}  (h:jg p0 p1 p2=some r):PF 161 [pI p0,pI p1,pI p2] (pB r):=by
 unfold jg at h
 refine bd ?_
 refine du Tryz.func161 rfl Tryz.ntmps161 Tryz.results161 rfl (aW [6] (by kernel_rfl) (de h fun x1 hx1 h=>aa h fun x2 hx2 h=>aa h fun x3 hx3 h=>aq [] (rg 7 10) [(6,pB (decide (x3≤0)))] (bg 2 (oS hx1) (bg 7 (oS hx2) (bg 8 (vR hx3) bj))) (by kernel_rfl) (cX ?_)))
 exact zz r h rfl
def jC (rec:Zd→Zl→Option Bool) (p0:Zd) (p1:Zl):Option Bool:=(aT (S:=Int×Int×Int) (T:=(Int×Int)) (fun (v3,v4,v5)=>cond (decide (v5<(p1.Inputs.length:Int))) (((idx p1.Inputs v5).bind fun m14=>cond m14.Originating (some (v3,v4)) ((gd ((!(p0.Kind == 3))&&(p0.Kind == 2)) (gT p0 p1 m14)).bind fun x17=>cond ((p0.Kind == 3)||((p0.Kind == 2)&&x17)) (some ((IntKind.i64.wrap (v3+m14.Value)),(IntKind.i64.wrap (v4+1)))) (some (v3,(IntKind.i64.wrap (v4+1)))))).bind fun (v11,v12)=>some (.inl (v11,v12,(IntKind.i64.wrap (v5+1))))) (some (.inr (v3,v4)))) FUEL (0,0,0)).bind fun (v6,v7)=>(aT (S:=Int×Int) (T:=(Int)) (fun (v19,v20)=>cond (decide (v20<(p0.Args.length:Int))) (((idx p0.Args v20).bind fun m27=>(rec m27 p1).bind fun x28=>cond x28 (some (IntKind.i64.wrap (v19+1))) (some v19)).bind fun v25=>some (.inl (v25,(IntKind.i64.wrap (v20+1))))) (some (.inr v19))) FUEL (0,0)).bind fun v21=>cond (p0.Kind == 1) (some (p1.Obtained&&(v7 == 0))) (cond (p0.Kind == 2) ((jg v6 p0.Tolerance p1.Price).bind fun x32=>some x32) (cond (p0.Kind == 3) ((jg v6 p0.Limit p1.Price).bind fun x34=>some x34) (cond (p0.Kind == 4) ((iI p1.Processes p0.Name).bind fun x36=>some x36) (cond (p0.Kind == 5) (some (v21 == (p0.Args.length:Int))) (some (decide (0<v21)))))))
theorem tn {rec:Zd→Zl→Option Bool} (hrec:∀ {p0:Zd} {p1:Zl} {r:Bool},rec p0 p1=some r→PF 117 [.agg (an p0),.agg (bk p1)] (pB r)) {p0:Zd} {p1:Zl} {r:Bool} (h:jC rec p0 p1=some r):PF 117 [.agg (an p0),.agg (bk p1)] (pB r):=by
 unfold jC at h
 refine bd ?_
 refine du Tryz.func117 rfl Tryz.ntmps117 Tryz.results117 rfl (da rfl (bf (cs:=(an p0)) rfl rfl (fun b1=>ap rfl (bf (cs:=(bk p1)) rfl rfl (fun b2=>ba [4] (by kernel_rfl) (bZ (ak [(5,pI 0),(6,pI 0),(7,pI 0)] (by kernel_rfl) (cj (ak [(8,pI 0)] (by kernel_rfl) (ft h fun q9 hq9 h=>?_))))))))))
 refine ar (Y:=Unit×(Int×Int)) (fun (_,(v6,v7))=>[(2,pP b1 0),(3,pP b2 0),(5,pI v6),(6,pI v7),(7,pI 0)]) (fun (_,(v6,v7))=>[PRes.b b1 84 (an p0),PRes.b b2 36 (bk p1)]) (fun (_,(v6,v7))=>q9=(v6,v7)) ?_ ?_
 ·refine av ?_
  refine aC (Y:=Unit) (S:=Int×Int×Int) _ hq9 (fun _ (v3,v4,v5)=>[(2,pP b1 0),(3,pP b2 0),(5,pI v3),(6,pI v4),(7,pI 0),(8,pI v5)]) (fun _ (v3,v4,v5)=>[PRes.b b1 84 (an p0),PRes.b b2 36 (bk p1)]) () (p9 rfl) (be (aB aO) cK) ?_
  rintro _ ⟨v3,v4,v5⟩ o τ hb8;(try dsimp only at hb8);dsimp only [az]
  refine cT (aJ [1] [11,12,13,14] [(15,pB (decide (v5<(p1.Inputs.length:Int))))] (by kernel_rfl) (cR rfl hb8 (fun hc10 hb8=>?_) fun hc10 hb8=>?_))
  ·refine ah ?_
   refine de hb8 fun q13 hq13 hb8=>?_
   refine ar (Y:=Unit×(Int×Int)) (fun (_,(v11,v12))=>[(2,pP b1 0),(3,pP b2 0),(5,pI v11),(6,pI v12),(7,pI 0),(8,pI v5)]) (fun (_,(v11,v12))=>[PRes.b b1 84 (an p0),PRes.b b2 36 (bk p1)]) (fun (_,(v11,v12))=>q13=(v11,v12)) ?_ ?_
   ·skip
    refine qU (aa hq13 fun m14 hm14 hq13=>af (aU 5 [1] [18,19,20,21] [(22,.agg [pS m14.Code,pI m14.Value,pB m14.Originating])] (cL 3 Zk.enc hm14 bj) (by kernel_rfl) (ap rfl (aL (cs:=[pS ByteArray.empty,pI 0,pB false]) rfl rfl rfl rfl (fun b15=>aP rfl rfl (am (vs:=[pS m14.Code,pI m14.Value,pB m14.Originating]) rfl rfl rfl rfl rfl ce zl3 (aF (cj (aJ [0] [23] [(24,pB m14.Originating)] (by kernel_rfl) (cR rfl hq13 (fun hc16 hq13=>?_) fun hc16 hq13=>?_))))))))))
    ·refine aH ?_
     refine hC (aj rfl ?_)
     obtain rfl:=osi hq13
     exact aw ((),(v3,v4)) (p9 rfl) (be (aB aO) (be (aB aO) bB)) rfl
    refine ah ?_
    refine bZ (ai [25,26] [(6,pI (IntKind.i64.wrap (v4+1)))] (by kernel_rfl) (de hq13 fun x17 hx17 hq13=>aq [1,1,1,2,0] (rg 27 13) [(40,pB ((p0.Kind == 3)||((p0.Kind == 2)&&x17)))] (eM 11 (fun hc=>sv (cF hx17 hc)) bj) (by kernel_rfl) (cR rfl hq13 (fun hc18 hq13=>?_) fun hc18 hq13=>?_)))
    ·refine aJ [0] [41,42,43,44] [(5,pI (IntKind.i64.wrap (v3+m14.Value)))] (by kernel_rfl) ?_
     refine aG ?_
     obtain rfl:=osi hq13
     exact aw ((),((IntKind.i64.wrap (v3+m14.Value)),(IntKind.i64.wrap (v4+1)))) (p9 rfl) (be (aB aO) (be (aB aO) bB)) rfl
    refine ah ?_
    refine aG ?_
    obtain rfl:=osi hq13
    exact aw ((),(v3,(IntKind.i64.wrap (v4+1)))) (p9 rfl) (be (aB aO) (be (aB aO) bB)) rfl
   rintro ⟨_,⟨v11,v12⟩⟩ τ hz;(try dsimp only at hz);subst q13;(try dsimp only at hb8);dsimp only [az]
   refine ai [16,17] [(8,pI (IntKind.i64.wrap (v5+1)))] (by kernel_rfl) ?_
   exact aS hb8 () (p9 rfl) n8
  refine aH ?_
  refine cq hb8 (fun ht=>aj rfl ?_)
  exact aw ((),(v3,v4)) (ns rfl) n8 ht.symm
 rintro ⟨_,⟨v6,v7⟩⟩ τ hz;(try dsimp only at hz);subst q9;(try dsimp only at h);dsimp only [az]
 refine cT (ak [(10,pI 0)] (by kernel_rfl) (ft h fun q23 hq23 h=>?_))
 refine ar (Y:=Unit×Int) (fun (_,v21)=>[(2,pP b1 0),(3,pP b2 0),(5,pI v6),(6,pI v7),(7,pI v21)]) (fun (_,v21)=>[PRes.b b1 84 (an p0),PRes.b b2 36 (bk p1)]) (fun (_,v21)=>q23=v21) ?_ ?_
 ·refine av ?_
  refine aC (Y:=Unit) (S:=Int×Int) _ hq23 (fun _ (v19,v20)=>[(2,pP b1 0),(3,pP b2 0),(5,pI v6),(6,pI v7),(7,pI v19),(10,pI v20)]) (fun _ (v19,v20)=>[PRes.b b1 84 (an p0),PRes.b b2 36 (bk p1)]) () (p9 rfl) n8 ?_
  rintro _ ⟨v19,v20⟩ o τ hb22;(try dsimp only at hb22);dsimp only [az]
  refine cT (aJ [0] [45,46,47,48] [(49,pB (decide (v20<(p0.Args.length:Int))))] (by kernel_rfl) (cR rfl hb22 (fun hc24 hb22=>?_) fun hc24 hb22=>?_))
  ·refine ah ?_
   refine de hb22 fun q26 hq26 hb22=>?_
   refine ar (Y:=Unit×Int) (fun (_,v25)=>[(2,pP b1 0),(3,pP b2 0),(5,pI v6),(6,pI v7),(7,pI v25),(10,pI v20)]) (fun (_,v25)=>[PRes.b b1 84 (an p0),PRes.b b2 36 (bk p1)]) (fun (_,v25)=>q26=v25) ?_ ?_
   ·skip
    refine qU (bi (ρd:=[]) [(0,0),(1,0),(2,0),(3,0),(4,0),(5,0),(6,1)] _ (List.Perm.refl _) (by kernel_rfl) rfl (aa hq26 fun m27 hm27 hq26=>aa hq26 fun x28 hx28 hq26=>bt 7 [0,1] (rg 52 6) [(58,pB x28)] (ny 3 Zd.enc (Zd.enc_eq _) hm27 (bg 6 (hrec hx28) bj)) (by kernel_rfl) (bA (cR rfl hq26 (fun hc29 hq26=>?_) fun hc29 hq26=>?_))))
    ·refine ai [59,60] [(7,pI (IntKind.i64.wrap (v19+1)))] (by kernel_rfl) ?_
     refine aG ?_
     obtain rfl:=osi hq26
     exact aw ((),(IntKind.i64.wrap (v19+1))) (p9 rfl) n8 rfl
    refine ah ?_
    refine aG ?_
    obtain rfl:=osi hq26
    exact aw ((),v19) (p9 rfl) n8 rfl
   rintro ⟨_,v25⟩ τ hz;(try dsimp only at hz);subst q26;(try dsimp only at hb22);dsimp only [az]
   refine ai [50,51] [(10,pI (IntKind.i64.wrap (v20+1)))] (by kernel_rfl) ?_
   exact aS hb22 () (p9 rfl) n8
  refine aH ?_
  refine cq hb22 (fun ht=>aj rfl ?_)
  exact aw ((),v19) (ns rfl) n8 ht.symm
 rintro ⟨_,v21⟩ τ hz;(try dsimp only at hz);subst q23;(try dsimp only at h);dsimp only [az]
 refine cT (aJ [0] [61] [(62,pI p0.Kind)] (by kernel_rfl) (aX (qU (bF [64] [(63,pB (p0.Kind == 1))] (by kernel_rfl) rfl h (fun hc30 h=>?_) fun hc30 h=>?_))))
 ·refine ae ?_
  refine aJ [1] (rg 65 6) [(4,pB (p1.Obtained&&(v7 == 0)))] (by kernel_rfl) (cX (dH ?_))
  exact zz r h rfl
 refine ae ?_
 refine bF [72] [(71,pB (p0.Kind == 2))] (by kernel_rfl) rfl h (fun hc31 h=>?_) fun hc31 h=>?_
 ·refine ae ?_
  refine aa h fun x32 hx32 h=>aq [0,1] (rg 73 6) [(4,pB x32)] (bg 5 (pE hx32) bj) (by kernel_rfl) (cX (dH ?_))
  exact zz r h rfl
 refine ae ?_
 refine bF [80] [(79,pB (p0.Kind == 3))] (by kernel_rfl) rfl h (fun hc33 h=>?_) fun hc33 h=>?_
 ·refine ae ?_
  refine aa h fun x34 hx34 h=>aq [0,1] (rg 81 6) [(4,pB x34)] (bg 5 (pE hx34) bj) (by kernel_rfl) (cX (dH ?_))
  exact zz r h rfl
 refine ae ?_
 refine bF [88] [(87,pB (p0.Kind == 4))] (by kernel_rfl) rfl h (fun hc35 h=>?_) fun hc35 h=>?_
 ·refine ae ?_
  refine aa h fun x36 hx36 h=>aq [1,0] (rg 89 5) [(4,pB x36)] (bg 4 (je hx36) bj) (by kernel_rfl) (cX (dH ?_))
  exact zz r h rfl
 refine ae ?_
 refine bF [95] [(94,pB (p0.Kind == 5))] (by kernel_rfl) rfl h (fun hc37 h=>?_) fun hc37 h=>?_
 ·refine ae ?_
  refine aJ [0] (rg 96 5) [(4,pB (v21 == (p0.Args.length:Int)))] (by kernel_rfl) (cX (dH ?_))
  exact zz r h rfl
 refine ah ?_
 refine aG (bZ (ai [101,102] [(4,pB (decide (0<v21)))] (by kernel_rfl) (cX ?_)))
 exact zz r h rfl
def lA (n:Nat):Zd→Zl→Option Bool:=Nat.rec (motive:=fun _=>Zd→Zl→Option Bool) (fun _ _=>none) (fun _ ih=>jC ih) n
def nB (p0:Zd) (p1:Zl):Option Bool:=lA FUEL p0 p1
theorem uw (n:Nat):∀ {p0:Zd} {p1:Zl} {r:Bool},lA n p0 p1=some r→PF 117 [.agg (an p0),.agg (bk p1)] (pB r):=by
 induction n with
 | zero=>intros;rename_i h;exact nomatch h
 | succ n ih=>intros;rename_i h;exact tn (fun hr=>ih hr) h
theorem qm {p0:Zd} {p1:Zl} {r:Bool} (h:nB p0 p1=some r):PF 117 [.agg (an p0),.agg (bk p1)] (pB r):=uw FUEL h
def iz (rec:Zd→Zl→Option ((List Int)×Bool)) (p0:Zd) (p1:Zl):Option ((List Int)×Bool):=(nB p0 p1).bind fun x3=>cond (!x3) (some ([],false)) ((aT (S:=(List Int)×Int) (T:=((List Int))⊕(_)) (fun (l6,v9)=>cond (decide (v9<(p0.Args.length:Int))) (Option.bind (α:=((List Int))⊕_) ((idx p0.Args v9).bind fun m23=>(rec m23 p1).bind fun x24=>cond (!x24.2) (some (.inl l6)) (cond (p0.Kind == 6) ((app 8 [v9] x24.1).bind fun l29=>some (.inr (.inr (.inr (l29,true))))) ((app 8 l6 x24.1).bind fun l33=>some (.inl l33)))) (fun q=>match q with | .inl l21=>some (.inl (l21,(IntKind.i64.wrap (v9+1)))) | .inr e=>some e)) (some (.inr (.inl l6)))) FUEL (([]:List Int),0)).bind fun q=>match q with | .inl l13=>some (l13,true) | .inr e=>some e)
theorem rM {rec:Zd→Zl→Option ((List Int)×Bool)} (hrec:∀ {p0:Zd} {p1:Zl} {r:((List Int)×Bool)},rec p0 p1=some r→PF 70 [.agg (an p0),.agg (bk p1)] (.tup [pL eI r.1,pB r.2])) {p0:Zd} {p1:Zl} {r:((List Int)×Bool)} (h:iz rec p0 p1=some r):PF 70 [.agg (an p0),.agg (bk p1)] (.tup [pL eI r.1,pB r.2]):=by
 unfold iz at h
 refine bd ?_
 refine du Tryz.func70 rfl Tryz.ntmps70 Tryz.results70 rfl (da rfl (bf (cs:=(an p0)) rfl rfl (fun b1=>ap rfl (bf (cs:=(bk p1)) rfl rfl (fun b2=>ba [4,5] (by kernel_rfl) (cj (aa h fun x3 hx3 h=>aq [1,0] [10,11,12] [(13,pB (!x3))] (bg 2 (qm hx3) bj) (by kernel_rfl) (cR rfl h (fun hc4 h=>?_) fun hc4 h=>?_))))))))
 ·refine ae ?_
  refine ak [(4,pN),(5,pB false)] (by kernel_rfl) (aX (hZ 4 rfl (bR (al ?_))))
  obtain rfl:=osi h
  exact aM (cd (aK rfl) (aK rfl)) bB ⟨rfl,rfl⟩
 refine ah ?_
 refine bZ (ak [(6,pN)] (by kernel_rfl) (cj (ak [(7,pI 0)] (by kernel_rfl) (aX (di 3 1 (aa h fun q15 hq15 h=>?_))))))
 refine ar (Y:=(Option Addr×Nat)×((List Int))) (fun ((a11,c12),l13)=>[(6,pO a11 l13.length c12)]) (fun ((a11,c12),l13)=>[PRes.row a11 l13.length c12 3 1 (List.map eI l13)]) (fun ((a11,c12),l13)=>q15=Sum.inl l13) ?_ ?_
 ·refine av ?_
  refine aC (Y:=Option Addr×Nat) (S:=(List Int)×Int) _ hq15 (fun (a7,c8) (l6,v9)=>[(2,pP b1 0),(3,pP b2 0),(6,pO a7 l6.length c8),(7,pI v9)]) (fun (a7,c8) (l6,v9)=>[PRes.b b1 84 (an p0),PRes.b b2 36 (bk p1),PRes.row a7 l6.length c8 3 1 (List.map eI l6)]) (none,0) (iR rfl) (be (aB (aB aO)) (be (aB aO) cK)) ?_
  rintro ⟨a7,c8⟩ ⟨l6,v9⟩ o τ hb14;(try dsimp only at hb14);dsimp only [az]
  refine cT (aJ [0] [14,15,16,17] [(18,pB (decide (v9<(p0.Args.length:Int))))] (by kernel_rfl) (cR rfl hb14 (fun hc17 hb14=>?_) fun hc17 hb14=>?_))
  ·refine ah ?_
   refine de hb14 fun q22 hq22 hb14=>?_
   refine ar (Y:=(Option Addr×Nat)×((List Int))) (fun ((a19,c20),l21)=>[(2,pP b1 0),(3,pP b2 0),(6,pO a19 l21.length c20),(7,pI v9)]) (fun ((a19,c20),l21)=>[PRes.b b1 84 (an p0),PRes.b b2 36 (bk p1),PRes.row a19 l21.length c20 3 1 (List.map eI l21)]) (fun ((a19,c20),l21)=>q22=Sum.inl l21) ?_ ?_
   ·skip
    refine qU (bi (ρd:=[]) [(0,0),(1,0),(2,0),(3,0),(4,0),(5,0),(6,1),(7,0),(8,0),(9,0),(10,0),(11,0)] _ (List.Perm.refl _) (by kernel_rfl) rfl (aa hq22 fun m23 hm23 hq22=>aa hq22 fun x24 hx24 hq22=>bt 12 [0,1] ((rg 22 7)++[21,29,30]) [(8,pL eI x24.1),(9,pB x24.2)] (ny 3 Zd.enc (Zd.enc_eq _) hm23 (bg 6 (hrec hx24) bj)) (by kernel_rfl) (bA (cj (bF [31] [(32,pB (!x24.2))] (by kernel_rfl) rfl hq22 (fun hc25 hq22=>?_) fun hc25 hq22=>?_)))))
    ·refine aH ?_
     refine hC (aj rfl ?_)
     obtain rfl:=osi hq22
     exact aw ((a7,c8),l6) (iR rfl) A7 rfl
    refine ah ?_
    refine cj (aJ [0] [33,34] [(35,pB (p0.Kind == 6))] (by kernel_rfl) (cR rfl hq22 (fun hc26 hq22=>?_) fun hc26 hq22=>?_))
    ·refine ae ?_
     refine af (aD 1 [(36,pI v9)] (by kernel_rfl) (ap rfl (bN rfl rfl rfl rfl rfl (ij rfl kf) rfl rfl rfl rfl (fun b27=>aa hq22 fun l29 hl29 hq22=>aD 1 [(38,pL eI x24.1)] (by kernel_rfl) ?_))))
     refine ap rfl (iq (enc:=eI) rfl rfl rfl rfl rfl (fun _=>rfl) rfl rfl rfl (by exact aO) hl29 (fun a30 c31=>?_))
     refine aN [(4,pO a30 l29.length c31),(5,pB true)] (by kernel_rfl) (aX ?_)
     refine fe (enc:=eI) (xs:=l29) 4 rfl (by exact aO) ?_
     refine bR (al (cP ?_))
     obtain rfl:=osi hq22
     refine au hb14 (fun ht=>?_);subst ht
     refine cP ?_
     obtain rfl:=osi h
     exact aM (cd (aK rfl) (aK rfl)) bB ⟨rfl,rfl⟩
    refine ah ?_
    refine ft hq22 fun l33 hl33 hq22=>af (aD 2 [(40,pO a7 l6.length c8),(41,pL eI x24.1)] (by kernel_rfl) ?_)
    refine ap rfl (iq (enc:=eI) rfl rfl rfl rfl rfl (fun _=>rfl) rfl rfl rfl (by exact aB (aB aO)) hl33 (fun a34 c35=>?_))
    refine aN [(6,pO a34 l33.length c35)] (by kernel_rfl) (aG ?_)
    obtain rfl:=osi hq22
    exact aw ((a34,c35),l33) (iR rfl) (be (aB aO) (be (aB aO) cK)) rfl
   rintro ⟨⟨a19,c20⟩,l21⟩ τ hz;(try dsimp only at hz);subst q22;(try dsimp only at hb14);dsimp only [az]
   refine ai [19,20] [(7,pI (IntKind.i64.wrap (v9+1)))] (by kernel_rfl) ?_
   exact aS hb14 (a19,c20) (iR rfl) A7
  refine aH ?_
  refine cq hb14 (fun ht=>aj rfl ?_)
  exact aw ((a7,c8),l6) (rD rfl) (be (aB (aB aO)) bB) ht.symm
 rintro ⟨⟨a11,c12⟩,l13⟩ τ hz;(try dsimp only at hz);subst q15;(try dsimp only at h);dsimp only [az]
 refine ae (ai [43] [(4,pO a11 l13.length c12),(5,pB true)] (by kernel_rfl) (aX ?_))
 refine fe (enc:=eI) (xs:=l13) 4 rfl (by exact aO) ?_
 refine bR ?_
 obtain rfl:=osi h
 exact aM (cd (aK rfl) (aK rfl)) bB ⟨rfl,rfl⟩
def iA (n:Nat):Zd→Zl→Option ((List Int)×Bool):=Nat.rec (motive:=fun _=>Zd→Zl→Option ((List Int)×Bool)) (fun _ _=>none) (fun _ ih=>iz ih) n
def jD (p0:Zd) (p1:Zl):Option ((List Int)×Bool):=iA FUEL p0 p1
theorem sw (n:Nat):∀ {p0:Zd} {p1:Zl} {r:((List Int)×Bool)},iA n p0 p1=some r→PF 70 [.agg (an p0),.agg (bk p1)] (.tup [pL eI r.1,pB r.2]):=by
 induction n with
 | zero=>intros;rename_i h;exact nomatch h
 | succ n ih=>intros;rename_i h;exact rM (fun hr=>ih hr) h
theorem tp {p0:Zd} {p1:Zl} {r:((List Int)×Bool)} (h:jD p0 p1=some r):PF 70 [.agg (an p0),.agg (bk p1)] (.tup [pL eI r.1,pB r.2]):=sw FUEL h
def fE (p0:(List Zc)) (p1:(List Zb)) (p2:ByteArray):Option ((List Zf)×Int):=(lh p0).bind fun x1=>cond (x1 != 0) (some ([],x1)) ((fK p1).bind fun x3=>cond (x3 != 0) (some ([],x3)) ((eg p2).bind fun x5=>cond (!x5) (some ([],(1:Int))) ((aT (S:=(List Zf)×(List Za)×Bool) (T:=((List Zf))) (fun (l8,l11,v12)=>cond v12 ((aT (S:=(List Zf)×Bool×(List Za)×Int) (T:=((List Zf)×Bool×(List Za))) (fun (l22,v25,l26,v27)=>cond (decide (v27<(p0.length:Int))) ((aT (S:=(List Zf)×Bool×(List Za)×Int) (T:=((List Zf)×Bool×(List Za))) (fun (l38,v41,l42,v43)=>cond (decide (v43<(p1.length:Int))) (((idx p0 v27).bind fun m60=>(idx p1 v43).bind fun m61=>(cG l11 (⟨m60.ID,m61.ID⟩:Za)).bind fun x63=>(gd (!x63) (cW p0 p1 p2 (⟨m60.ID,m61.ID⟩:Za))).bind fun x64=>cond (x63||(!x64)) (some (l38,v41,l42)) ((fB p0 p1 p2 (⟨m60.ID,m61.ID⟩:Za) l11).bind fun x66=>(idx p1 v43).bind fun m68=>(idx p0 v27).bind fun m69=>(fb m68 m69.Code).bind fun x70=>(jD x70.1 x66.1).bind fun x72=>cond x72.2 ((app 64 l38 [(⟨(⟨m60.ID,m61.ID⟩:Za),x72.1,x66.2⟩:Zf)]).bind fun l76=>(eU l42 (⟨m60.ID,m61.ID⟩:Za)).bind fun x80=>some (l76,true,x80)) (some (l38,v41,l42)))).bind fun (l56,v57,l58)=>some (.inl (l56,v57,l58,(IntKind.i64.wrap (v43+1))))) (some (.inr (l38,v41,l42)))) FUEL (l22,v25,l26,0)).bind fun (l47,v48,l49)=>some (.inl (l47,v48,l49,(IntKind.i64.wrap (v27+1))))) (some (.inr (l22,v25,l26)))) FUEL (l8,false,l11,0)).bind fun (l31,v32,l33)=>some (.inl (l31,l33,v32))) (some (.inr l8))) FUEL (([]:List Zf),[],true)).bind fun l16=>some (l16,(0:Int)))))
theorem vS {p0:(List Zc)} {p1:(List Zb)} {p2:ByteArray} {r:((List Zf)×Int)}  (h:fE p0 p1 p2=some r):PF 23 [pL Zc.enc p0,pL Zb.enc p1,pS p2] (.tup [pL Zf.enc r.1,pI r.2]):=by
 unfold fE at h
 refine bd ?_
 refine du Tryz.func23 rfl Tryz.ntmps23 Tryz.results23 rfl (aW [6,7] (by kernel_rfl) (cj (aa h fun x1 hx1 h=>aq [] [23,24] [(8,pI x1)] (bg 1 (w5 hx1) bj) (by kernel_rfl) (bZ (bF [25] [(26,pB (x1 != 0))] (by kernel_rfl) rfl h (fun hc2 h=>?_) fun hc2 h=>?_)))))
 ·refine ae ?_
  refine ai [27] [(6,pN),(7,pI x1)] (by kernel_rfl) (aX (hZ 6 rfl (bR (al ?_))))
  obtain rfl:=osi h
  exact aM (cd (aK rfl) (aK rfl)) bB ⟨rfl,rfl⟩
 refine ah ?_
 refine cj (aa h fun x3 hx3 h=>aq [] [28,29] [(9,pI x3)] (bg 1 (ri hx3) bj) (by kernel_rfl) (bZ (bF [30] [(31,pB (x3 != 0))] (by kernel_rfl) rfl h (fun hc4 h=>?_) fun hc4 h=>?_)))
 ·refine ae ?_
  refine ai [32] [(6,pN),(7,pI x3)] (by kernel_rfl) (aX (hZ 6 rfl (bR (al ?_))))
  obtain rfl:=osi h
  exact aM (cd (aK rfl) (aK rfl)) bB ⟨rfl,rfl⟩
 refine ah ?_
 refine cj (aa h fun x5 hx5 h=>aq [] [33,34] [(35,pB (!x5))] (bg 1 (lf hx5) bj) (by kernel_rfl) (cR rfl h (fun hc6 h=>?_) fun hc6 h=>?_))
 ·refine ae ?_
  refine ak [(6,pN),(7,pI 1)] (by kernel_rfl) (aX (hZ 6 rfl (bR (al ?_))))
  obtain rfl:=osi h
  exact aM (cd (aK rfl) (aK rfl)) bB ⟨rfl,rfl⟩
 refine ah ?_
 refine bZ (ak [(10,pN)] (by kernel_rfl) (bZ (ak [(11,pN)] (by kernel_rfl) (cj (ak [(12,pB true)] (by kernel_rfl) (aX (di 61 4 (hZ 11 rfl (aa h fun q18 hq18 h=>?_)))))))))
 refine ar (Y:=(Option Addr×Nat)×((List Zf))) (fun ((a14,c15),l16)=>[(10,pO a14 l16.length c15)]) (fun ((a14,c15),l16)=>[PRes.row a14 l16.length c15 61 4 (List.map Zf.enc l16)]) (fun ((a14,c15),l16)=>q18=l16) ?_ ?_
 ·refine av ?_
  refine aC (Y:=Option Addr×Nat) (S:=(List Zf)×(List Za)×Bool) _ hq18 (fun (a9,c10) (l8,l11,v12)=>[(0,pL Zc.enc p0),(1,pL Zb.enc p1),(2,pS p2),(10,pO a9 l8.length c10),(11,pL Za.enc l11),(12,pB v12)]) (fun (a9,c10) (l8,l11,v12)=>[PRes.row a9 l8.length c10 61 4 (List.map Zf.enc l8)]) (none,0) (p9 rfl) cK ?_
  rintro ⟨a9,c10⟩ ⟨l8,l11,v12⟩ o τ hb17;(try dsimp only at hb17);dsimp only [az]
  refine cT (ak [(36,pB v12)] (by kernel_rfl) (cR rfl hb17 (fun hc20 hb17=>?_) fun hc20 hb17=>?_))
  ·refine ah ?_
   refine aX (qU (ak [(12,pB false)] (by kernel_rfl) (bZ (ai [37] [(13,pL Za.enc l11)] (by kernel_rfl) (cj (ak [(14,pI 0)] (by kernel_rfl) (ft hb17 fun q35 hq35 hb17=>?_)))))))
   refine ar (Y:=(Option Addr×Nat)×((List Zf)×Bool×(List Za))) (fun ((a29,c30),(l31,v32,l33))=>[(0,pL Zc.enc p0),(1,pL Zb.enc p1),(2,pS p2),(10,pO a29 l31.length c30),(12,pB v32),(13,pL Za.enc l33)]) (fun ((a29,c30),(l31,v32,l33))=>[PRes.row a29 l31.length c30 61 4 (List.map Zf.enc l31)]) (fun ((a29,c30),(l31,v32,l33))=>q35=(l31,v32,l33)) ?_ ?_
   ·refine av ?_
    refine aC (Y:=Option Addr×Nat) (S:=(List Zf)×Bool×(List Za)×Int) _ hq35 (fun (a23,c24) (l22,v25,l26,v27)=>[(0,pL Zc.enc p0),(1,pL Zb.enc p1),(2,pS p2),(10,pO a23 l22.length c24),(11,pL Za.enc l11),(12,pB v25),(13,pL Za.enc l26),(14,pI v27)]) (fun (a23,c24) (l22,v25,l26,v27)=>[PRes.row a23 l22.length c24 61 4 (List.map Zf.enc l22)]) (a9,c10) (r8 rfl) cK ?_
    rintro ⟨a23,c24⟩ ⟨l22,v25,l26,v27⟩ o τ hb34;(try dsimp only at hb34);dsimp only [az]
    refine cT (bF [38,39,40] [(41,pB (decide (v27<(p0.length:Int))))] (by kernel_rfl) rfl hb34 (fun hc36 hb34=>?_) fun hc36 hb34=>?_)
    ·refine ah ?_
     refine dJ (ak [(15,pI 0)] (by kernel_rfl) (ft hb34 fun q51 hq51 hb34=>?_))
     refine ju (Y:=(Option Addr×Nat)×((List Zf)×Bool×(List Za))) (fun ((a45,c46),(l47,v48,l49))=>[(0,pL Zc.enc p0),(1,pL Zb.enc p1),(2,pS p2),(10,pO a45 l47.length c46),(11,pL Za.enc l11),(12,pB v48),(13,pL Za.enc l49),(14,pI v27)]) (fun ((a45,c46),(l47,v48,l49))=>[PRes.row a45 l47.length c46 61 4 (List.map Zf.enc l47)]) (fun ((a45,c46),(l47,v48,l49))=>q51=(l47,v48,l49)) ?_ ?_
     ·refine av ?_
      refine aC (Y:=Option Addr×Nat) (S:=(List Zf)×Bool×(List Za)×Int) _ hq51 (fun (a39,c40) (l38,v41,l42,v43)=>[(0,pL Zc.enc p0),(1,pL Zb.enc p1),(2,pS p2),(10,pO a39 l38.length c40),(11,pL Za.enc l11),(12,pB v41),(13,pL Za.enc l42),(14,pI v27),(15,pI v43)]) (fun (a39,c40) (l38,v41,l42,v43)=>[PRes.row a39 l38.length c40 61 4 (List.map Zf.enc l38)]) (a23,c24) (sS rfl) cK ?_
      rintro ⟨a39,c40⟩ ⟨l38,v41,l42,v43⟩ o τ hb50;(try dsimp only at hb50);dsimp only [az]
      refine cT (bF [44,45,46] [(47,pB (decide (v43<(p1.length:Int))))] (by kernel_rfl) rfl hb50 (fun hc52 hb50=>?_) fun hc52 hb50=>?_)
      ·refine ah ?_
       refine de hb50 fun q59 hq59 hb50=>?_
       refine ar (Y:=(Option Addr×Nat)×((List Zf)×Bool×(List Za))) (fun ((a54,c55),(l56,v57,l58))=>[(0,pL Zc.enc p0),(1,pL Zb.enc p1),(2,pS p2),(10,pO a54 l56.length c55),(11,pL Za.enc l11),(12,pB v57),(13,pL Za.enc l58),(14,pI v27),(15,pI v43)]) (fun ((a54,c55),(l56,v57,l58))=>[PRes.row a54 l56.length c55 61 4 (List.map Zf.enc l56)]) (fun ((a54,c55),(l56,v57,l58))=>q59=(l56,v57,l58)) ?_ ?_
       ·skip
        refine qU (bi (ρd:=[]) [(0,0),(1,0),(2,0),(3,0),(4,0),(5,0),(6,0),(7,0),(8,0),(9,0),(10,0),(11,1),(12,1)] _ (List.Perm.refl _) (by kernel_rfl) rfl (aa hq59 fun m60 hm60 hq59=>aa hq59 fun m61 hm61 hq59=>bt 10 [] [50,51,52,53,55,56,57,58] [(54,pI m60.ID),(59,pI m61.ID)] (cL 2 Zc.enc hm60 (cL 7 Zb.enc hm61 bj)) (by kernel_rfl) (lE rfl rfl rfl (te (cs:=[pI m60.ID,pI m61.ID]) rfl rfl rfl rfl rfl rfl rfl (Fc rfl rfl rfl rfl oA (Fc rfl rfl rfl rfl (dX oA) zfn))) (iT rfl rfl rfl (aL (cs:=[pI 0,pI 0]) rfl rfl rfl rfl (fun b62=>yB rfl rfl (am (vs:=[pI m60.ID,pI m61.ID]) rfl rfl rfl rfl rfl ce sQ (bA (cj (aa hq59 fun x63 hx63 hq59=>aa hq59 fun x64 hx64 hq59=>aq [0,0] (rg 61 10) [(71,pB (x63||(!x64)))] (bg 2 (gz hx63) (eM 8 (fun hc=>jm (cF hx64 hc)) bj)) (by kernel_rfl) (cR rfl hq59 (fun hc65 hq59=>?_) fun hc65 hq59=>?_)))))))))))
        ·refine aH ?_
         refine hC (aj rfl ?_)
         obtain rfl:=osi hq59
         exact aw ((a39,c40),(l38,v41,l42)) (sS rfl) (be (aB aO) bB) rfl
        refine ah ?_
        refine de hq59 fun x66 hx66 hq59=>af (aU 9 [0] ((rg 73 6)++[72]) [(79,.agg (bk x66.1)),(80,pL Za.enc x66.2)] (bg 5 (pD hx66) bj) (by kernel_rfl) (ap rfl (aL (cs:=[pS ByteArray.empty,pI 0,pB false,pN,pN]) rfl rfl rfl rfl (fun b67=>aP rfl rfl (am (vs:=(bk x66.1)) rfl rfl rfl rfl rfl ce Fi (aN [(18,pL Za.enc x66.2)] (by kernel_rfl) (bZ (bi (ρd:=[]) [(0,0),(1,0),(2,0),(3,0),(4,0),(5,0),(6,0),(7,0),(8,0),(9,1),(10,0),(11,0),(12,0),(13,2),(14,1),(15,0)] _ (List.Perm.refl _) (by kernel_rfl) rfl (aa hq59 fun m68 hm68 hq59=>aa hq59 fun m69 hm69 hq59=>aa hq59 fun x70 hx70 hq59=>bt 13 [] ((rg 82 10)++[81]) [(92,.agg (an x70.1)),(93,pB x70.2)] (cL 2 Zb.enc hm68 (cL 6 Zc.enc hm69 (bg 9 (ma hx70) bj))) (by kernel_rfl) (sk (tQ rfl rfl rfl rfl rfl) (fun _=>rfl) rfl (fun b71=>yB rfl rfl (am (vs:=(an x70.1)) rfl rfl rfl rfl rfl ce mX (FN 1 [20] (by kernel_rfl) (bA (de hq59 fun x72 hx72 hq59=>aq [0,1] [95,96,97,94,98,99] [(21,pL eI x72.1),(22,pB x72.2)] (bg 2 (tp hx72) bj) (by kernel_rfl) (bZ (ak [(100,pB x72.2)] (by kernel_rfl) (cR rfl hq59 (fun hc73 hq59=>?_) fun hc73 hq59=>?_))))))))))))))))))
        ·refine ae ?_
         refine af (cO 5 [2] [102,103,104] [(101,pO a39 l38.length c40),(105,.agg [pI m60.ID,pI m61.ID,pL eI x72.1,pL Za.enc x66.2])] (by kernel_rfl) (ap rfl (bN rfl rfl rfl rfl rfl (ij rfl kf) rfl rfl rfl rfl (fun b74=>aa hq59 fun l76 hl76 hq59=>?_))))
         refine ap rfl (cr (enc:=Zf.enc) rfl rfl rfl rfl rfl rfl rfl rfl rfl gb (by exact aB (aB (aB (aB aO)))) hl76 (fun a77 c78=>?_))
         refine aN [(10,pO a77 l76.length c78)] (by kernel_rfl) (ft hq59 fun x80 hx80 hq59=>aq [4] [108,109,110] [(13,pL Za.enc x80),(12,pB true)] (bg 2 (lx hx80) bj) (by kernel_rfl) (aG ?_))
         obtain rfl:=osi hq59
         exact aw ((a77,c78),(l76,true,x80)) (sS rfl) cK rfl
        refine ah ?_
        refine aG ?_
        obtain rfl:=osi hq59
        exact aw ((a39,c40),(l38,v41,l42)) (sS rfl) (be (aB (aB (aB aO))) bB) rfl
       rintro ⟨⟨a54,c55⟩,⟨l56,v57,l58⟩⟩ τ hz;(try dsimp only at hz);subst q59;(try dsimp only at hb50);dsimp only [az]
       refine ai [48,49] [(15,pI (IntKind.i64.wrap (v43+1)))] (by kernel_rfl) ?_
       exact aS hb50 (a54,c55) (sS rfl) cK
      refine aH ?_
      refine cq hb50 (fun ht=>aj rfl ?_)
      exact hY ((a39,c40),(l38,v41,l42)) (r8 rfl) cK ht.symm
     rintro ⟨⟨a45,c46⟩,⟨l47,v48,l49⟩⟩ τ ρ1 hsub81 hz;(try dsimp only at hz hsub81);subst q51;(try dsimp only at hb34);dsimp only [az]
     refine dI (oK hsub81 (ai [42,43] [(14,pI (IntKind.i64.wrap (v27+1)))] (by kernel_rfl) ?_))
     exact aS hb34 (a45,c46) (r8 rfl) cK
    refine aH ?_
    refine cq hb34 (fun ht=>aj rfl ?_)
    exact aw ((a23,c24),(l22,v25,l26)) (p9 rfl) cK ht.symm
   rintro ⟨⟨a29,c30⟩,⟨l31,v32,l33⟩⟩ τ hz;(try dsimp only at hz);subst q35;(try dsimp only at hb17);dsimp only [az]
   refine ai [111] [(11,pL Za.enc l33)] (by kernel_rfl) (aG ?_)
   exact aS hb17 (a29,c30) (p9 rfl) cK
  refine aH ?_
  refine cq hb17 (fun ht=>aj rfl ?_)
  exact aw ((a9,c10),l8) (rD rfl) cK ht.symm
 rintro ⟨⟨a14,c15⟩,l16⟩ τ hz;(try dsimp only at hz);subst q18;(try dsimp only at h);dsimp only [az]
 refine ae (ai [112] [(6,pO a14 l16.length c15),(7,pI 0)] (by kernel_rfl) (aX ?_))
 refine fe (enc:=Zf.enc) (xs:=l16) 6 rfl (by exact aO) ?_
 refine bR ?_
 obtain rfl:=osi h
 exact aM (cd (aK rfl) (aK rfl)) bB ⟨rfl,rfl⟩
def bQ (p0:(List Zc)) (p1:(Zc→Option Bool)):Option Int:=(aT (S:=Int) (T:=(Unit)⊕(_)) (fun v1=>cond (decide (v1<(p0.length:Int))) ((idx p0 v1).bind fun m5=>(p1 m5).bind fun x6=>cond x6 (some (.inr (.inr v1))) (some (.inl (IntKind.i64.wrap (v1+1))))) (some (.inr (.inl ())))) FUEL 0).bind fun q=>match q with | .inl _=>some (-1) | .inr e=>some e
theorem gZ {p0:(List Zc)} {p1:(Zc→Option Bool)} {r:Int} {g1:PV} (hg1:∀ {y0:Zc} {w:Bool},p1 y0=some w→PFV g1 [.agg (aI y0)] (pB w)) (h:bQ p0 p1=some r):PF 187 [pL Zc.enc p0,g1] (pI r):=by
 unfold bQ at h
 refine bd ?_
 refine du Tryz.func187 rfl Tryz.ntmps187 Tryz.results187 rfl (aW [4] (by kernel_rfl) (cj (ai [6] [(7,pI (p0.length:Int)),(8,pI 0)] (by kernel_rfl) (ft h fun q3 hq3 h=>?_))))
 refine ar (Y:=Unit×Unit) (fun (_,_)=>[]) (fun (_,_)=>[]) (fun (_,_)=>q3=Sum.inl ()) ?_ ?_
 ·refine av ?_
  refine aC (Y:=Unit) (S:=Int) _ hq3 (fun _ v1=>[(0,pL Zc.enc p0),(1,g1),(7,pI (p0.length:Int)),(8,pI v1)]) (fun _ v1=>[]) () (iR rfl) bB ?_
  rintro _ v1 o τ hb2;(try dsimp only at hb2);dsimp only [az]
  refine ae (ak [(9,pB (decide (v1<(p0.length:Int))))] (by kernel_rfl) (bZ (kq rfl hb2 (fun hc4 hb2=>?_) fun hc4 hb2=>?_)))
  ·refine ah ?_
   refine dJ (ai [10] [(5,pI v1)] (by kernel_rfl) (de hb2 fun m5 hm5 hb2=>aa hb2 fun x6 hx6 hb2=>aq [] (rg 11 5) [(16,pB x6)] (cL 3 Zc.enc hm5 (DG 5 (hg1 hx6) bj)) (by kernel_rfl) (cR rfl hb2 (fun hc7 hb2=>?_) fun hc7 hb2=>?_)))
   ·refine ae ?_
    refine ai [17] [(4,pI v1)] (by kernel_rfl) (cX (dH ?_))
    refine au hb2 (fun ht=>?_);subst ht
    refine cP ?_
    exact zz r h rfl
   refine ah ?_
   refine dI (ai [18] [(8,pI (IntKind.i64.wrap (v1+1)))] (by kernel_rfl) ?_)
   exact aS hb2 () (iR rfl) bB
  refine aH ?_
  refine cq hb2 (fun ht=>aj rfl ?_)
  exact aw ((),()) pz bB ht.symm
 rintro ⟨_,_⟩ τ hz;(try dsimp only at hz);subst q3;(try dsimp only at h);dsimp only [az]
 refine ae (dg [(4,pI (-1))] (by kernel_rfl) ?_)
 exact zz r h rfl
def bG (p0:(List Zc)) (p1:(Zc→Option Bool)):Option Bool:=(bQ p0 p1).bind fun x1=>some (decide (0≤x1))
theorem gF {p0:(List Zc)} {p1:(Zc→Option Bool)} {r:Bool} {g1:PV} (hg1:∀ {y0:Zc} {w:Bool},p1 y0=some w→PFV g1 [.agg (aI y0)] (pB w)) (h:bG p0 p1=some r):PF 162 [pL Zc.enc p0,g1] (pB r):=by
 unfold bG at h
 refine bd ?_
 refine du Tryz.func162 rfl Tryz.ntmps162 Tryz.results162 rfl (aW [4] (by kernel_rfl) (de h fun x1 hx1 h=>aq [] [5,6,7,8] [(4,pB (decide (0≤x1)))] (bg 2 (gZ hg1 hx1) bj) (by kernel_rfl) (cX ?_)))
 exact zz r h rfl
def cC (p0:Zc) (p1:Zi):Option Bool:=some (p0.ID == p1.Product)
theorem ln {p0:Zc} {p1:Zi} {r:Bool}  (h:cC p0 p1=some r):PF 163 [.agg (aI p0),.ref [pI p1.Product,pI p1.Value] 0] (pB r):=by
 unfold cC at h
 refine bd ?_
 refine du Tryz.func163 rfl Tryz.ntmps163 Tryz.results163 rfl (da rfl (bf (cs:=(aI p0)) rfl rfl (fun b1=>ba [3] (by kernel_rfl) (bZ (aJ [0] (rg 4 5) [(3,pB (p0.ID == p1.Product))] (by kernel_rfl) (cX ?_))))))
 exact zz r h rfl
end SX
end Go.Proofs.YtgmbmepakpcpaaaGreatDoor
