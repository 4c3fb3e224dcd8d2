/- A part of the proof: texts of the walk and of the plain laws, merged. No condition. -/
import Derived.Test.YtgmbmepakpcpaaaGreatDoorM2
set_option linter.unusedVariables false
set_option linter.unusedSimpArgs false
set_option maxHeartbeats 4000000
set_option maxRecDepth 100000
namespace Go.Proofs.YtgmbmepakpcpaaaGreatDoor
namespace SX
open Go
attribute [local irreducible] PWL PWC PWD POpL POpQ PEv PGuardIs PSub PPick PUpd PSplice PFill PLit PF PFV PCall FOk eW eG mb nV ke mg Cov PHolds aU idx app mk gd lb nz lB D3 sub kg dD ou wz fy cu pr wB IntKind.wrap Int.tmod Int.tdiv Op.bytesLess strOfNums
def dJ (p0:Zb) (p1:ByteArray) (p2:ByteArray):Option Bool:=(bK p0.Parties p1).bind fun x2=>(gd x2 (bK p0.Parties p2)).bind fun x3=>some (x2&&x3)
theorem jr {p0:Zb} {p1:ByteArray} {p2:ByteArray} {r:Bool}  (h:dJ p0 p1 p2=some r):PF 88 [.agg (az p0),pS p1,pS p2] (pB r):=by
 unfold dJ at h
 refine bd ?_
 refine du Tryz.func88 rfl Tryz.ntmps88 Tryz.results88 rfl (dc rfl (bh (cs:=(az p0)) rfl rfl (fun b1=>ba [6] (by kernel_rfl) (de h fun x2 hx2 h=>aa h fun x3 hx3 h=>ap [0,0] (rg 7 10) [(6,pB (x2&&x3))] (bg 3 (dg hx2) (eK 8 (fun hc=>dg (cH hx3 hc)) bm)) (by kernel_rfl) (cU ?_)))))
 exact zz r h rfl
def fX (p0:ByteArray) (p1:ByteArray):Option Bool:=(gd (decide ((p1.size:Int)≤(p0.size:Int))) (kg p0 0 (p1.size:Int))).bind fun s1=>some ((decide ((p1.size:Int)≤(p0.size:Int)))&&(decide (s1=p1)))
theorem nG {p0:ByteArray} {p1:ByteArray} {r:Bool}  (h:fX p0 p1=some r):PF 164 [pS p0,pS p1] (pB r):=by
 unfold fX at h
 refine bd ?_
 refine du Tryz.func164 rfl Tryz.ntmps164 Tryz.results164 rfl (aV [4] (by kernel_rfl) (de h fun s1 hs1 h=>ap [] (rg 5 13) [(4,pB ((decide ((p1.size:Int)≤(p0.size:Int)))&&(decide (s1=p1))))] (fossg 9 (cH hs1) bm) (by kernel_rfl) (cU ?_)))
 exact zz r h rfl
def dF (p0:ByteArray) (p1:ByteArray):Option Bool:=(fX p0 p1).bind fun x1=>some x1
theorem iQ {p0:ByteArray} {p1:ByteArray} {r:Bool}  (h:dF p0 p1=some r):PF 129 [pS p0,pS p1] (pB r):=by
 unfold dF at h
 refine bd ?_
 refine du Tryz.func129 rfl Tryz.ntmps129 Tryz.results129 rfl (aV [4] (by kernel_rfl) (de h fun x1 hx1 h=>ap [] [5,6,7] [(4,pB x1)] (bg 2 (nG hx1) bm) (by kernel_rfl) (cU ?_)))
 exact zz r h rfl
def kn (rec:Zd→Int→Option Int) (p0:Zd) (p1:Int):Option Int:=(aU (S:=Int×Int) (T:=(Int)⊕(_)) (fun (v2,v3)=>cond (decide (v3<(p0.Args.length:Int))) ((idx p0.Args v3).bind fun m8=>cond (decide (p1≤v2)) (some (.inr (.inr p1))) ((rec m8 (IntKind.i64.wrap (p1 - v2))).bind fun x11=>some (.inl ((IntKind.i64.wrap (v2+x11)),(IntKind.i64.wrap (v3+1)))))) (some (.inr (.inl v2)))) FUEL (1,0)).bind fun q=>match q with | .inl v4=>some v4 | .inr e=>some e
theorem ue {rec:Zd→Int→Option Int} (hrec:∀ {p0:Zd} {p1:Int} {r:Int},rec p0 p1=some r→PF 165 [.agg (ar p0),pI p1] (pI r)) {p0:Zd} {p1:Int} {r:Int} (h:kn rec p0 p1=some r):PF 165 [.agg (ar p0),pI p1] (pI r):=by
 unfold kn at h
 refine bd ?_
 refine du Tryz.func165 rfl Tryz.ntmps165 Tryz.results165 rfl (dc rfl (bh (cs:=(ar p0)) rfl rfl (fun b1=>ba [4] (by kernel_rfl) (bY (al [(5,pI 1)] (by kernel_rfl) (cq (aI [0] [8] [(9,pL Zd.enc p0.Args),(10,pI (p0.Args.length:Int)),(11,pI 0)] (by kernel_rfl) (fz h fun q6 hq6 h=>?_))))))))
 refine aq (Y:=Unit×Int) (fun (_,v4)=>[(5,pI v4)]) (fun (_,v4)=>[]) (fun (_,v4)=>q6=Sum.inl v4) ?_ ?_
 ·refine aA ?_
  refine aD (Y:=Unit) (S:=Int×Int) _ hq6 (fun _ (v2,v3)=>[(1,pI p1),(5,pI v2),(9,pL Zd.enc p0.Args),(10,pI (p0.Args.length:Int)),(11,pI v3)]) (fun _ (v2,v3)=>[]) () (nu rfl) bz ?_
  rintro _ ⟨v2,v3⟩ o τ hb5;(try dsimp only at hb5);dsimp only [aw]
  refine ae (al [(12,pB (decide (v3<(p0.Args.length:Int))))] (by kernel_rfl) (bY (kK rfl hb5 (fun hc7 hb5=>?_) fun hc7 hb5=>?_)))
  ·refine ah ?_
   refine dN (aa hb5 fun m8 hm8 hb5=>af (aS 2 [] [13] [(14,.agg (ar m8))] (nv 0 Zd.enc (Zd.enc_eq _) hm8 bm) (by kernel_rfl) (an rfl (aM (cs:=[pI 0,pI 0,pN,pI 0,pI 0,pS ByteArray.empty,pN]) rfl rfl rfl rfl (fun b9=>aP rfl rfl (ak (vs:=(ar m8)) rfl rfl rfl rfl rfl ca nj (aG (cq (bC [15,16] [(17,pB (decide (p1≤v2)))] (by kernel_rfl) rfl hb5 (fun hc10 hb5=>?_) fun hc10 hb5=>?_)))))))))
   ·refine ae ?_
    refine ai [18] [(4,pI p1)] (by kernel_rfl) (cU (am (dI ?_)))
    refine au hb5 (fun ht=>?_);subst ht
    refine cK ?_
    exact zz r h rfl
   refine ah ?_
   refine fz hb5 fun x11 hx11 hb5=>ap [0] (rg 19 7) [(5,pI (IntKind.i64.wrap (v2+x11)))] (bg 5 (hrec hx11) bm) (by kernel_rfl) (dX (ai [26] [(11,pI (IntKind.i64.wrap (v3+1)))] (by kernel_rfl) ?_))
   exact aT hb5 () (nu rfl) bz
  refine aH ?_
  refine cx hb5 (fun ht=>aj rfl ?_)
  exact av ((),v2) (re rfl) bz ht.symm
 rintro ⟨_,v4⟩ τ hz;(try dsimp only at hz);subst q6;(try dsimp only at h);dsimp only [aw]
 refine ae (ai [27] [(4,pI v4)] (by kernel_rfl) (cU ?_))
 exact zz r h rfl
def mv (n:Nat):Zd→Int→Option Int:=Nat.rec (motive:=fun _=>Zd→Int→Option Int) (fun _ _=>none) (fun _ ih=>kn ih) n
def rA (p0:Zd) (p1:Int):Option Int:=mv FUEL p0 p1
theorem vx (n:Nat):∀ {p0:Zd} {p1:Int} {r:Int},mv n p0 p1=some r→PF 165 [.agg (ar p0),pI p1] (pI r):=by
 induction n with
 | zero=>intros;rename_i h;exact nomatch h
 | succ n ih=>intros;rename_i h;exact ue (fun hr=>ih hr) h
theorem wG {p0:Zd} {p1:Int} {r:Int} (h:rA p0 p1=some r):PF 165 [.agg (ar p0),pI p1] (pI r):=vx FUEL h
def mX (p0:Zd):Option Bool:=cond ((!(p0.Kind == 2))&&(((p0.Digits != 0)||(decide (0<(p0.Except.length:Int))))||(p0.Tolerance != 0))) (some false) (cond ((p0.Kind != 3)&&(p0.Limit != 0)) (some false) (cond ((p0.Kind != 4)&&(!decide (p0.Name=(⟨#[]⟩:ByteArray)))) (some false) (some (((p0.Kind == 5)||(p0.Kind == 6))||((p0.Args.length:Int) == 0)))))
theorem wH {p0:Zd} {r:Bool}  (h:mX p0=some r):PF 188 [.agg (ar p0)] (pB r):=by
 unfold mX at h
 refine bd ?_
 refine du Tryz.func188 rfl Tryz.ntmps188 Tryz.results188 rfl (dc rfl (bh (cs:=(ar p0)) rfl rfl (fun b1=>ba [2] (by kernel_rfl) (bY (aI [0] [5,6,7] [(3,pB (p0.Kind == 2))] (by kernel_rfl) (bY (aI [0,0] (rg 8 8) [(4,pB ((p0.Kind == 5)||(p0.Kind == 6)))] (by kernel_rfl) (dN (aI [0,0,0] (rg 17 18) [(16,pB ((!(p0.Kind == 2))&&(((p0.Digits != 0)||(decide (0<(p0.Except.length:Int))))||(p0.Tolerance != 0))))] (by kernel_rfl) (cS rfl h (fun hc2 h=>?_) fun hc2 h=>?_))))))))))
 ·refine ae ?_
  refine dl [(2,pB false)] (by kernel_rfl) (dI ?_)
  exact zz r h rfl
 refine ae ?_
 refine aI [0,0] (rg 36 8) [(35,pB ((p0.Kind != 3)&&(p0.Limit != 0)))] (by kernel_rfl) (cS rfl h (fun hc3 h=>?_) fun hc3 h=>?_)
 ·refine ae ?_
  refine dl [(2,pB false)] (by kernel_rfl) (dI ?_)
  exact zz r h rfl
 refine ae ?_
 refine aI [0,0] (rg 45 8) [(44,pB ((p0.Kind != 4)&&(!decide (p0.Name=(⟨#[]⟩:ByteArray)))))] (by kernel_rfl) (cS rfl h (fun hc4 h=>?_) fun hc4 h=>?_)
 ·refine ae ?_
  refine dl [(2,pB false)] (by kernel_rfl) (dI ?_)
  exact zz r h rfl
 refine ah ?_
 refine aB (bY (aI [0] (rg 53 7) [(2,pB (((p0.Kind == 5)||(p0.Kind == 6))||((p0.Args.length:Int) == 0)))] (by kernel_rfl) (cU ?_)))
 exact zz r h rfl
def jG (p0:Int):Option Bool:=some ((decide (0≤p0))&&(decide (p0≤1000000)))
theorem mY {p0:Int} {r:Bool}  (h:jG p0=some r):PF 190 [pI p0] (pB r):=by
 unfold jG at h
 refine bd ?_
 refine du Tryz.func190 rfl Tryz.ntmps190 Tryz.results190 rfl (aV [2] (by kernel_rfl) (bY (ai (rg 3 6) [(2,pB ((decide (0≤p0))&&(decide (p0≤1000000))))] (by kernel_rfl) (cU ?_))))
 exact zz r h rfl
def em (rec:Zd→Option Zd) (p0:Zd):Option Zd:=(bU p0.Except).bind fun x3=>(Du 96 (p0.Args.length:Int)).bind fun u7=>(aU (S:=(List Zd)×Int) (T:=((List Zd))) (fun (l11,v14)=>cond (decide (v14<(p0.Args.length:Int))) ((idx p0.Args v14).bind fun m23=>(rec m23).bind fun x25=>(app 96 l11 [x25]).bind fun l28=>some (.inl (l28,(IntKind.i64.wrap (v14+1))))) (some (.inr l11))) FUEL (([]:List Zd),0)).bind fun l18=>some (⟨p0.Kind,p0.Digits,x3,p0.Tolerance,p0.Limit,p0.Name,l18⟩:Zd)
theorem nk {rec:Zd→Option Zd} (hrec:∀ {p0:Zd} {r:Zd},rec p0=some r→PF 131 [.agg (ar p0)] (.agg (ar r))) {p0:Zd} {r:Zd} (h:em rec p0=some r):PF 131 [.agg (ar p0)] (.agg (ar r)):=by
 unfold em at h
 refine bd ?_
 refine du Tryz.func131 rfl Tryz.ntmps131 Tryz.results131 rfl (dc rfl (bh (cs:=(ar p0)) rfl rfl (fun b1=>an rfl (aM (cs:=[pI 0,pI 0,pN,pI 0,pI 0,pS ByteArray.empty,pN]) rfl rfl rfl rfl (fun b2=>aG (de h fun x3 hx3 h=>af (cG 2 [1] [6] [(7,pL eS p0.Except)] (by kernel_rfl) ?_)))))))
 refine an rfl (bj rfl rfl (ρ1:=[]) (List.Perm.refl _) (fc hx3) ?_);rintro _ _ ⟨a4,c5,rfl,rfl⟩
 refine aF 1 [(9,pP b1 2)] (by kernel_rfl) (aP rfl rfl (ak (vs:=[pO a4 x3.length c5]) rfl rfl rfl rfl rfl (dx (dx ca)) (dM (dM mT)) (aG (de h fun u7 hu7 h=>af (cG 3 [2] [10,11] [(12,pI (p0.Args.length:Int))] (by kernel_rfl) (an rfl (Fj rfl rfl rfl rfl rfl rfl rfl hu7 (fun b8=>aN [(3,pO (some ⟨b8,0,none⟩) 0 ((p0.Args.length:Int).toNat))] (by kernel_rfl) (cq (aI [3] [14] [(15,pL Zd.enc p0.Args),(16,pI (p0.Args.length:Int)),(17,pI 0)] (by kernel_rfl) (fz h fun q21 hq21 h=>?_)))))))))))
 refine aq (Y:=(Option Addr×Nat)×((List Zd))) (fun ((a16,c17),l18)=>[(1,pP b1 0),(2,pP b2 0),(3,pO a16 l18.length c17)]) (fun ((a16,c17),l18)=>[PRes.b b1 84 [pI p0.Kind,pI p0.Digits,pO a4 x3.length c5,pI p0.Tolerance,pI p0.Limit,pS p0.Name,pL Zd.enc p0.Args],PRes.b b2 84 [pI 0,pI 0,pN,pI 0,pI 0,pS ByteArray.empty,pN],PRes.row a16 l18.length c17 84 7 (List.map Zd.enc l18),PRes.row a4 x3.length c5 9 1 (List.map eS x3)]) (fun ((a16,c17),l18)=>q21=l18) ?_ ?_
 ·refine aA ?_
  refine aD (Y:=Option Addr×Nat) (S:=(List Zd)×Int) _ hq21 (fun (a12,c13) (l11,v14)=>[(1,pP b1 0),(2,pP b2 0),(3,pO a12 l11.length c13),(15,pL Zd.enc p0.Args),(16,pI (p0.Args.length:Int)),(17,pI v14)]) (fun (a12,c13) (l11,v14)=>[PRes.b b1 84 [pI p0.Kind,pI p0.Digits,pO a4 x3.length c5,pI p0.Tolerance,pI p0.Limit,pS p0.Name,pL Zd.enc p0.Args],PRes.b b2 84 [pI 0,pI 0,pN,pI 0,pI 0,pS ByteArray.empty,pN],PRes.row a12 l11.length c13 84 7 (List.map Zd.enc l11),PRes.row a4 x3.length c5 9 1 (List.map eS x3)]) ((some ⟨b8,0,none⟩),(p0.Args.length:Int).toNat) (qV rfl) (be (aC (aC (aC aO))) (be (aC (aC aO)) ni)) ?_
  rintro ⟨a12,c13⟩ ⟨l11,v14⟩ o τ hb20;(try dsimp only at hb20);dsimp only [aw]
  refine ae (al [(18,pB (decide (v14<(p0.Args.length:Int))))] (by kernel_rfl) (bY (kK rfl hb20 (fun hc22 hb20=>?_) fun hc22 hb20=>?_)))
  ·refine ah ?_
   refine dN (aa hb20 fun m23 hm23 hb20=>af (aS 2 [] [19] [(20,.agg (ar m23))] (nv 0 Zd.enc (Zd.enc_eq _) hm23 bm) (by kernel_rfl) (an rfl (aM (cs:=[pI 0,pI 0,pN,pI 0,pI 0,pS ByteArray.empty,pN]) rfl rfl rfl rfl (fun b24=>aP rfl rfl (ak (vs:=(ar m23)) rfl rfl rfl rfl rfl ca nj (aG (fz hb20 fun x25 hx25 hb20=>af (aS 3 [0] [22] [(21,pO a12 l11.length c13),(23,.agg (ar x25))] (bg 2 (hrec hx25) bm) (by kernel_rfl) ?_)))))))))
   refine an rfl (bG (css:=List.map Zd.enc [x25]) rfl rfl rfl rfl rfl (by (simp only [List.map_cons,List.map_nil,Zd.enc_eq];(repeat (first | exact jl | apply gG rfl)))) rfl (by (simp only [List.map_cons,List.map_nil,Zd.enc_eq];rfl)) rfl rfl (fun b26=>?_))
   refine aa hb20 fun l28 hl28 hb20=>?_
   refine an rfl (ce (enc:=Zd.enc) rfl rfl rfl rfl rfl rfl rfl rfl rfl e7 (by exact aC (aC (aC (aC aO)))) hl28 (fun a29 c30=>?_))
   refine aN [(3,pO a29 l28.length c30)] (by kernel_rfl) (dX (ai [26] [(17,pI (IntKind.i64.wrap (v14+1)))] (by kernel_rfl) ?_))
   exact aT hb20 (a29,c30) (qV rfl) (be (aC (aC (aC aO))) (be (aC (aC (aC aO))) (be aO (be (aC (aC aO)) bz))))
  refine aH ?_
  refine cx hb20 (fun ht=>aj rfl ?_)
  exact av ((a12,c13),l11) (lR rfl) D4 ht.symm
 rintro ⟨⟨a16,c17⟩,l18⟩ τ hz;(try dsimp only at hz);subst q21;(try dsimp only at h);dsimp only [aw]
 refine ae (af (aF 2 [(27,pO a16 l18.length c17),(28,pP b1 6)] (by kernel_rfl) (aP rfl rfl (ak (vs:=[pO a16 l18.length c17]) rfl rfl rfl rfl rfl ca (dM (dM (dM (dM (dM (dM mT)))))) (aG (bY (af ?_)))))))
 refine ms (css:=List.map eS x3) (a:=a4) (by exact aC (aC (aC aO))) ?_
 refine jP (k:=2) (enc:=eS) (xs:=x3) (b:=b1) (a:=a4) rfl e7 (dx ca) ?_
 refine ms (css:=List.map Zd.enc l18) (a:=a16) (by exact aC (aC (aC aO))) ?_
 refine jP (k:=6) (enc:=Zd.enc) (xs:=l18) (b:=b1) (a:=a16) rfl e7 (dx (dx ca)) (gt 1 [2] [(29,.agg [pI p0.Kind,pI p0.Digits,pL eS x3,pI p0.Tolerance,pI p0.Limit,pS p0.Name,pL Zd.enc l18])] (by kernel_rfl) (aP rfl rfl (ak (vs:=[pI p0.Kind,pI p0.Digits,pL eS x3,pI p0.Tolerance,pI p0.Limit,pS p0.Name,pL Zd.enc l18]) rfl rfl rfl rfl rfl (dx (dx (dx ca))) nj (aG (cU ?_)))))
 obtain rfl:=osi h
 exact aL (cZ (dL rfl zm3 rfl)) bz ⟨rfl,rfl⟩
def fA (n:Nat):Zd→Option Zd:=Nat.rec (motive:=fun _=>Zd→Option Zd) (fun _=>none) (fun _ ih=>em ih) n
def iR (p0:Zd):Option Zd:=fA FUEL p0
theorem nH (n:Nat):∀ {p0:Zd} {r:Zd},fA n p0=some r→PF 131 [.agg (ar p0)] (.agg (ar r)):=by
 induction n with
 | zero=>intros;rename_i h;exact nomatch h
 | succ n ih=>intros;rename_i h;exact nk (fun hr=>ih hr) h
theorem n5 {p0:Zd} {r:Zd} (h:iR p0=some r):PF 131 [.agg (ar p0)] (.agg (ar r)):=nH FUEL h
def bq (p0:(List Zi)) (p1:(List Zi)) (p2:(Zi→Zi→Option Bool)):Option Bool:=cond ((p0.length:Int) != (p1.length:Int)) (some false) ((aU (S:=Int) (T:=(Unit)⊕(_)) (fun v2=>cond (decide (v2<(p0.length:Int))) ((idx p0 v2).bind fun m6=>(idx p1 v2).bind fun m8=>(p2 m6 m8).bind fun x10=>cond (!x10) (some (.inr (.inr false))) (some (.inl (IntKind.i64.wrap (v2+1))))) (some (.inr (.inl ())))) FUEL 0).bind fun q=>match q with | .inl _=>some true | .inr e=>some e)
theorem dT {p0:(List Zi)} {p1:(List Zi)} {p2:(Zi→Zi→Option Bool)} {r:Bool} {g2:PV} (hg2:∀ {y0:Zi} {y1:Zi} {w:Bool},p2 y0 y1=some w→PFV g2 [.agg (el y0),.agg (el y1)] (pB w)) (h:bq p0 p1 p2=some r):PF 134 [pL Zi.enc p0,pL Zi.enc p1,g2] (pB r):=by
 unfold bq at h
 refine bd ?_
 refine du Tryz.func134 rfl Tryz.ntmps134 Tryz.results134 rfl (aV [6] (by kernel_rfl) (cq (bC [10,11,12,13] [(14,pB ((p0.length:Int) != (p1.length:Int)))] (by kernel_rfl) rfl h (fun hc1 h=>?_) fun hc1 h=>?_)))
 ·refine ae ?_
  refine dl [(6,pB false)] (by kernel_rfl) (am ?_)
  exact zz r h rfl
 refine ah ?_
 refine cq (al [(15,pL Zi.enc p0),(16,pI (p0.length:Int)),(17,pI 0)] (by kernel_rfl) (fz h fun q4 hq4 h=>?_))
 refine aq (Y:=Unit×Unit) (fun (_,_)=>[]) (fun (_,_)=>[]) (fun (_,_)=>q4=Sum.inl ()) ?_ ?_
 ·refine aA ?_
  refine aD (Y:=Unit) (S:=Int) _ hq4 (fun _ v2=>[(1,pL Zi.enc p1),(2,g2),(15,pL Zi.enc p0),(16,pI (p0.length:Int)),(17,pI v2)]) (fun _ v2=>[]) () (nu rfl) bz ?_
  rintro _ v2 o τ hb3;(try dsimp only at hb3);dsimp only [aw]
  refine ae (al [(18,pB (decide (v2<(p0.length:Int))))] (by kernel_rfl) (bY (kK rfl hb3 (fun hc5 hb3=>?_) fun hc5 hb3=>?_)))
  ·refine ah ?_
   refine dN (aa hb3 fun m6 hm6 hb3=>af (aS 3 [] [20] [(19,pI v2),(21,.agg (el m6))] (cO 1 Zi.enc hm6 bm) (by kernel_rfl) (an rfl (aM (cs:=[pS ByteArray.empty,pI 0,pI 0,pN,pI 0,pI 0,pS ByteArray.empty,pN]) rfl rfl rfl rfl (fun b7=>aF 1 [(7,pI v2)] (by kernel_rfl) (aP rfl rfl (ak (vs:=(el m6)) rfl rfl rfl rfl rfl ca zl8 (aG (de hb3 fun m8 hm8 hb3=>af (aS 4 [] [22,23,24] [(25,.agg (el m8))] (cO 2 Zi.enc hm8 bm) (by kernel_rfl) (an rfl (aM (cs:=[pS ByteArray.empty,pI 0,pI 0,pN,pI 0,pI 0,pS ByteArray.empty,pN]) rfl rfl rfl rfl (fun b9=>aP rfl rfl (ak (vs:=(el m8)) rfl rfl rfl rfl rfl ca zl8 (aG (de hb3 fun x10 hx10 hb3=>ap [1,0] [26,27,28,29] [(30,pB (!x10))] (Do 3 (hg2 hx10) bm) (by kernel_rfl) (cS rfl hb3 (fun hc11 hb3=>?_) fun hc11 hb3=>?_)))))))))))))))))
   ·refine ae ?_
    refine dl [(6,pB false)] (by kernel_rfl) (dI ?_)
    refine au hb3 (fun ht=>?_);subst ht
    refine cK ?_
    exact zz r h rfl
   refine ah ?_
   refine dX (ai [31] [(17,pI (IntKind.i64.wrap (v2+1)))] (by kernel_rfl) ?_)
   exact aT hb3 () (nu rfl) bz
  refine aH ?_
  refine cx hb3 (fun ht=>aj rfl ?_)
  exact av ((),()) pg bz ht.symm
 rintro ⟨_,_⟩ τ hz;(try dsimp only at hz);subst q4;(try dsimp only at h);dsimp only [aw]
 refine ae (dl [(6,pB true)] (by kernel_rfl) ?_)
 exact zz r h rfl
def eo (p0:(List ByteArray)) (p1:(List ByteArray)):Option Bool:=cond ((p0.length:Int) != (p1.length:Int)) (some false) ((aU (S:=Int) (T:=(Unit)⊕(_)) (fun v2=>cond (decide (v2<(p0.length:Int))) ((idx p0 v2).bind fun m6=>(idx p1 v2).bind fun m7=>cond (!decide (m6=m7)) (some (.inr (.inr false))) (some (.inl (IntKind.i64.wrap (v2+1))))) (some (.inr (.inl ())))) FUEL 0).bind fun q=>match q with | .inl _=>some true | .inr e=>some e)
theorem lF {p0:(List ByteArray)} {p1:(List ByteArray)} {r:Bool}  (h:eo p0 p1=some r):PF 167 [pL eS p0,pL eS p1] (pB r):=by
 unfold eo at h
 refine bd ?_
 refine du Tryz.func167 rfl Tryz.ntmps167 Tryz.results167 rfl (aV [4] (by kernel_rfl) (cq (bC [6,7,8,9] [(10,pB ((p0.length:Int) != (p1.length:Int)))] (by kernel_rfl) rfl h (fun hc1 h=>?_) fun hc1 h=>?_)))
 ·refine ae ?_
  refine dl [(4,pB false)] (by kernel_rfl) (am ?_)
  exact zz r h rfl
 refine ah ?_
 refine cq (ai [11] [(12,pI (p0.length:Int)),(13,pI 0)] (by kernel_rfl) (fz h fun q4 hq4 h=>?_))
 refine aq (Y:=Unit×Unit) (fun (_,_)=>[]) (fun (_,_)=>[]) (fun (_,_)=>q4=Sum.inl ()) ?_ ?_
 ·refine aA ?_
  refine aD (Y:=Unit) (S:=Int) _ hq4 (fun _ v2=>[(0,pL eS p0),(1,pL eS p1),(12,pI (p0.length:Int)),(13,pI v2)]) (fun _ v2=>[]) () (jf rfl) bz ?_
  rintro _ v2 o τ hb3;(try dsimp only at hb3);dsimp only [aw]
  refine ae (al [(14,pB (decide (v2<(p0.length:Int))))] (by kernel_rfl) (bY (kK rfl hb3 (fun hc5 hb3=>?_) fun hc5 hb3=>?_)))
  ·refine ah ?_
   refine dN (ai [15] [(5,pI v2)] (by kernel_rfl) (bY (bk (ρd:=[]) [(0,0),(1,0),(2,0),(3,0),(4,0),(5,0),(6,0),(7,0),(8,0)] _ (List.Perm.refl _) (by kernel_rfl) rfl (aa hb3 fun m6 hm6 hb3=>aa hb3 fun m7 hm7 hb3=>br 9 [] (rg 16 8) [(24,pB (!decide (m6=m7)))] (cO 2 eS hm6 (cO 6 eS hm7 bm)) (by kernel_rfl) (bv (cS rfl hb3 (fun hc8 hb3=>?_) fun hc8 hb3=>?_))))))
   ·refine ae ?_
    refine dl [(4,pB false)] (by kernel_rfl) (dI ?_)
    refine au hb3 (fun ht=>?_);subst ht
    refine cK ?_
    exact zz r h rfl
   refine ah ?_
   refine dX (ai [25] [(13,pI (IntKind.i64.wrap (v2+1)))] (by kernel_rfl) ?_)
   exact aT hb3 () (jf rfl) bz
  refine aH ?_
  refine cx hb3 (fun ht=>aj rfl ?_)
  exact av ((),()) pg bz ht.symm
 rintro ⟨_,_⟩ τ hz;(try dsimp only at hz);subst q4;(try dsimp only at h);dsimp only [aw]
 refine ae (dl [(4,pB true)] (by kernel_rfl) ?_)
 exact zz r h rfl
def bt (p0:(List Zd)) (p1:(List Zd)) (p2:(Zd→Zd→Option Bool)):Option Bool:=cond ((p0.length:Int) != (p1.length:Int)) (some false) ((aU (S:=Int) (T:=(Unit)⊕(_)) (fun v2=>cond (decide (v2<(p0.length:Int))) ((idx p0 v2).bind fun m6=>(idx p1 v2).bind fun m8=>(p2 m6 m8).bind fun x10=>cond (!x10) (some (.inr (.inr false))) (some (.inl (IntKind.i64.wrap (v2+1))))) (some (.inr (.inl ())))) FUEL 0).bind fun q=>match q with | .inl _=>some true | .inr e=>some e)
theorem ff {p0:(List Zd)} {p1:(List Zd)} {p2:(Zd→Zd→Option Bool)} {r:Bool} {g2:PV} (hg2:∀ {y0:Zd} {y1:Zd} {w:Bool},p2 y0 y1=some w→PFV g2 [.agg (ar y0),.agg (ar y1)] (pB w)) (h:bt p0 p1 p2=some r):PF 168 [pL Zd.enc p0,pL Zd.enc p1,g2] (pB r):=by
 unfold bt at h
 refine bd ?_
 refine du Tryz.func168 rfl Tryz.ntmps168 Tryz.results168 rfl (aV [6] (by kernel_rfl) (cq (bC [10,11,12,13] [(14,pB ((p0.length:Int) != (p1.length:Int)))] (by kernel_rfl) rfl h (fun hc1 h=>?_) fun hc1 h=>?_)))
 ·refine ae ?_
  refine dl [(6,pB false)] (by kernel_rfl) (am ?_)
  exact zz r h rfl
 refine ah ?_
 refine cq (al [(15,pL Zd.enc p0),(16,pI (p0.length:Int)),(17,pI 0)] (by kernel_rfl) (fz h fun q4 hq4 h=>?_))
 refine aq (Y:=Unit×Unit) (fun (_,_)=>[]) (fun (_,_)=>[]) (fun (_,_)=>q4=Sum.inl ()) ?_ ?_
 ·refine aA ?_
  refine aD (Y:=Unit) (S:=Int) _ hq4 (fun _ v2=>[(1,pL Zd.enc p1),(2,g2),(15,pL Zd.enc p0),(16,pI (p0.length:Int)),(17,pI v2)]) (fun _ v2=>[]) () (nu rfl) bz ?_
  rintro _ v2 o τ hb3;(try dsimp only at hb3);dsimp only [aw]
  refine ae (al [(18,pB (decide (v2<(p0.length:Int))))] (by kernel_rfl) (bY (kK rfl hb3 (fun hc5 hb3=>?_) fun hc5 hb3=>?_)))
  ·refine ah ?_
   refine dN (aa hb3 fun m6 hm6 hb3=>af (aS 3 [] [20] [(19,pI v2),(21,.agg (ar m6))] (nv 1 Zd.enc (Zd.enc_eq _) hm6 bm) (by kernel_rfl) (an rfl (aM (cs:=[pI 0,pI 0,pN,pI 0,pI 0,pS ByteArray.empty,pN]) rfl rfl rfl rfl (fun b7=>aF 1 [(7,pI v2)] (by kernel_rfl) (aP rfl rfl (ak (vs:=(ar m6)) rfl rfl rfl rfl rfl ca nj (aG (de hb3 fun m8 hm8 hb3=>af (aS 4 [] [22,23,24] [(25,.agg (ar m8))] (nv 2 Zd.enc (Zd.enc_eq _) hm8 bm) (by kernel_rfl) (an rfl (aM (cs:=[pI 0,pI 0,pN,pI 0,pI 0,pS ByteArray.empty,pN]) rfl rfl rfl rfl (fun b9=>aP rfl rfl (ak (vs:=(ar m8)) rfl rfl rfl rfl rfl ca nj (aG (de hb3 fun x10 hx10 hb3=>ap [1,0] [26,27,28,29] [(30,pB (!x10))] (Do 3 (hg2 hx10) bm) (by kernel_rfl) (cS rfl hb3 (fun hc11 hb3=>?_) fun hc11 hb3=>?_)))))))))))))))))
   ·refine ae ?_
    refine dl [(6,pB false)] (by kernel_rfl) (dI ?_)
    refine au hb3 (fun ht=>?_);subst ht
    refine cK ?_
    exact zz r h rfl
   refine ah ?_
   refine dX (ai [31] [(17,pI (IntKind.i64.wrap (v2+1)))] (by kernel_rfl) ?_)
   exact aT hb3 () (nu rfl) bz
  refine aH ?_
  refine cx hb3 (fun ht=>aj rfl ?_)
  exact av ((),()) pg bz ht.symm
 rintro ⟨_,_⟩ τ hz;(try dsimp only at hz);subst q4;(try dsimp only at h);dsimp only [aw]
 refine ae (dl [(6,pB true)] (by kernel_rfl) ?_)
 exact zz r h rfl
def eu (rec:Zd→Zd→Option Bool) (p0:Zd) (p1:Zd):Option Bool:=(gd (((((p0.Kind == p1.Kind)&&(p0.Digits == p1.Digits))&&(p0.Tolerance == p1.Tolerance))&&(p0.Limit == p1.Limit))&&(decide (p0.Name=p1.Name))) (eo p0.Except p1.Except)).bind fun x3=>(gd ((((((p0.Kind == p1.Kind)&&(p0.Digits == p1.Digits))&&(p0.Tolerance == p1.Tolerance))&&(p0.Limit == p1.Limit))&&(decide (p0.Name=p1.Name)))&&x3) (bt p0.Args p1.Args (fun y4 y5=>rec y4 y5))).bind fun x6=>some (((((((p0.Kind == p1.Kind)&&(p0.Digits == p1.Digits))&&(p0.Tolerance == p1.Tolerance))&&(p0.Limit == p1.Limit))&&(decide (p0.Name=p1.Name)))&&x3)&&x6)
theorem nl {rec:Zd→Zd→Option Bool} (hrec:∀ {p0:Zd} {p1:Zd} {r:Bool},rec p0 p1=some r→PF 136 [.agg (ar p0),.agg (ar p1)] (pB r)) {p0:Zd} {p1:Zd} {r:Bool} (h:eu rec p0 p1=some r):PF 136 [.agg (ar p0),.agg (ar p1)] (pB r):=by
 unfold eu at h
 refine bd ?_
 refine du Tryz.func136 rfl Tryz.ntmps136 Tryz.results136 rfl (dc rfl (bh (cs:=(ar p0)) rfl rfl (fun b1=>an rfl (bh (cs:=(ar p1)) rfl rfl (fun b2=>ba [4] (by kernel_rfl) (de h fun x3 hx3 h=>aa h fun x6 hx6 h=>ap [1,0,1,0,1,0,1,0,1,0,1,0,1,0] (rg 5 47) [(4,pB (((((((p0.Kind == p1.Kind)&&(p0.Digits == p1.Digits))&&(p0.Tolerance == p1.Tolerance))&&(p0.Limit == p1.Limit))&&(decide (p0.Name=p1.Name)))&&x3)&&x6))] (eK 38 (fun hc=>lF (cH hx3 hc)) (eK 45 (fun hc=>ff (fun hr=>sN (hrec hr)) (cH hx6 hc)) bm)) (by kernel_rfl) (cU ?_)))))))
 exact zz r h rfl
def ey (n:Nat):Zd→Zd→Option Bool:=Nat.rec (motive:=fun _=>Zd→Zd→Option Bool) (fun _ _=>none) (fun _ ih=>eu ih) n
def iS (p0:Zd) (p1:Zd):Option Bool:=ey FUEL p0 p1
theorem nI (n:Nat):∀ {p0:Zd} {p1:Zd} {r:Bool},ey n p0 p1=some r→PF 136 [.agg (ar p0),.agg (ar p1)] (pB r):=by
 induction n with
 | zero=>intros;rename_i h;exact nomatch h
 | succ n ih=>intros;rename_i h;exact nl (fun hr=>ih hr) h
theorem n7 {p0:Zd} {p1:Zd} {r:Bool} (h:iS p0 p1=some r):PF 136 [.agg (ar p0),.agg (ar p1)] (pB r):=nI FUEL h
def eH (p1:Int):Option (List ByteArray):=(Du 16 p1).bind fun _=>some []
theorem lT {p1:Int} {r:(List ByteArray)} (h:eH p1=some r):PCall 169 [.v (.slice none 0 0),pI p1] [] (fun pv ρ'=>∃ a c,pv=.v (.slice a r.length c)∧ρ'=[PRes.row a r.length c 9 1 (List.map eS r)]):=by
 unfold eH at h
 obtain ⟨u,hu,h⟩:=Option.bind_eq_some_iff.1 h
 obtain rfl:=osi h
 obtain ⟨hg0,hg1⟩:=mk0_le hu
 have ew:IntKind.i64.wrap (p1 - IntKind.i64.wrap (((0:Nat):Int) - ((0:Nat):Int)))=p1:=Dw hg0 hg1
 refine oH Tryz.func169 rfl Tryz.ntmps169 Tryz.results169 rfl ?_
 (repeat refine ae ?_)
 refine aV [4] (by kernel_rfl) (aY ?_)
 (repeat refine ae ?_)
 refine ai [5] [(6,pB (decide (p1<0)))] (by kernel_rfl) (aY ?_)
 refine kb rfl (fun hc=>absurd (of_decide_eq_true hc) (by omega)) (fun hc=>?_)
 refine ah (aY ?_)
 (repeat refine ae ?_)
 refine af (aF 2 [(8,pI p1),(9,.v (.slice none 0 0))] (by kernel_rfl) (cb rfl rfl rfl (Cw rfl rfl (.p rfl)) (kl [11,12,13,14] [(1,pI (IntKind.i64.wrap (p1 - IntKind.i64.wrap (((0:Nat):Int) - ((0:Nat):Int)))))] (by kernel_rfl) ?_)))
 rw [ew]
 refine aY ?_
 (repeat refine ae ?_)
 refine ai [15] [(16,pB (decide (0<p1)))] (by kernel_rfl) (aY ?_)
 refine kb rfl (fun hc=>?_) (fun hc=>?_)
 ·refine af ?_
  refine aF 2 [(17,.v (.slice none 0 0)),(18,.v (.slice none 0 0))] (by kernel_rfl) (cb rfl rfl rfl (Cw rfl rfl (.p rfl)) (cb rfl rfl rfl (xn rfl rfl rfl (.p rfl) (.p rfl) rfl (Nat.zero_le _)) (aF 1 [(21,pI p1)] (by kernel_rfl) (A8 9 1 ?_))))
  refine an rfl (Fo rfl rfl rfl rfl rfl rfl rfl rfl (of_decide_eq_true hc) hu (by exact aO) (fun a c hac=>?_))
  refine aF 2 [(23,.v (.slice none 0 0)),(24,pI 0)] (by kernel_rfl) (cb rfl rfl rfl (xn (k:=0) rfl rfl rfl (.p rfl) (.p rfl) rfl (Nat.zero_le _)) (aN [(0,.v (.slice a 0 c))] (by kernel_rfl) (aY ?_)))
  (repeat refine ae ?_)
  refine ai [26] [(4,.v (.slice a 0 c))] (by kernel_rfl) (cU ?_)
  exact aL (cZ (aJ rfl)) cJ ⟨_,_,rfl,rfl⟩
 refine ah ?_
 refine aY ?_
 (repeat refine ae ?_)
 refine ai [26] [(4,.v (.slice none 0 0))] (by kernel_rfl) (aY (dp 9 1 (bV ?_)))
 exact aL (cZ (aJ rfl)) cJ ⟨_,_,rfl,rfl⟩
def dh (p0:(List (List ByteArray))):Option (List ByteArray):=(aU (S:=Int×Int) (T:=(Int)) (fun (v1,v2)=>cond (decide (v2<(p0.length:Int))) ((idx p0 v2).bind fun m7=>cond (decide ((IntKind.i64.wrap (v1+(m7.length:Int)))<0)) (none) (some (.inl ((IntKind.i64.wrap (v1+(m7.length:Int))),(IntKind.i64.wrap (v2+1)))))) (some (.inr v1))) FUEL (0,0)).bind fun v3=>(eH v3).bind fun x9=>(aU (S:=(List ByteArray)×Int) (T:=((List ByteArray))) (fun (l14,v17)=>cond (decide (v17<(p0.length:Int))) ((idx p0 v17).bind fun m25=>(app 16 l14 m25).bind fun l26=>some (.inl (l26,(IntKind.i64.wrap (v17+1))))) (some (.inr l14))) FUEL (x9,0)).bind fun l21=>some l21
theorem kX {p0:(List (List ByteArray))} {r:(List ByteArray)}  (h:dh p0=some r):PCall 138 [pL (eL eS) p0] [] (fun pv ρ'=>∃ a c,pv=.v (.slice a r.length c)∧ρ'=[PRes.row a r.length c 9 1 (List.map eS r)]):=by
 unfold dh at h
 refine du Tryz.func138 rfl Tryz.ntmps138 Tryz.results138 rfl (aV [2] (by kernel_rfl) (bY (al [(3,pI 0)] (by kernel_rfl) (cq (al [(9,pL (eL eS) p0),(10,pI (p0.length:Int)),(11,pI 0)] (by kernel_rfl) (fz h fun q5 hq5 h=>?_))))))
 refine aq (Y:=Unit×Int) (fun (_,v3)=>[(0,pL (eL eS) p0),(3,pI v3)]) (fun (_,v3)=>[]) (fun (_,v3)=>q5=v3) ?_ ?_
 ·refine aA ?_
  refine aD (Y:=Unit) (S:=Int×Int) _ hq5 (fun _ (v1,v2)=>[(0,pL (eL eS) p0),(3,pI v1),(9,pL (eL eS) p0),(10,pI (p0.length:Int)),(11,pI v2)]) (fun _ (v1,v2)=>[]) () (nu rfl) bz ?_
  rintro _ ⟨v1,v2⟩ o τ hb4;(try dsimp only at hb4);dsimp only [aw]
  refine ae (al [(12,pB (decide (v2<(p0.length:Int))))] (by kernel_rfl) (bY (kK rfl hb4 (fun hc6 hb4=>?_) fun hc6 hb4=>?_)))
  ·refine ah ?_
   refine dN (aa hb4 fun m7 hm7 hb4=>ap [] [13,14] [(5,pL eS m7)] (cO 0 (eL eS) hm7 bm) (by kernel_rfl) (bY (ai [15,16,17,18] [(3,pI (IntKind.i64.wrap (v1+(m7.length:Int))))] (by kernel_rfl) (bY (bC [19] [(20,pB (decide ((IntKind.i64.wrap (v1+(m7.length:Int)))<0)))] (by kernel_rfl) rfl hb4 (fun hc8 hb4=>?_) fun hc8 hb4=>?_)))))
   ·refine af ?_
    exact absurd hb4 (by simp)
   refine ah ?_
   refine dX (ai [22] [(11,pI (IntKind.i64.wrap (v2+1)))] (by kernel_rfl) ?_)
   exact aT hb4 () (nu rfl) bz
  refine aH ?_
  refine cx hb4 (fun ht=>aj rfl ?_)
  exact av ((),v1) (mK rfl) bz ht.symm
 rintro ⟨_,v3⟩ τ hz;(try dsimp only at hz);subst q5;(try dsimp only at h);dsimp only [aw]
 refine ae (aa h fun x9 hx9 h=>af (aF 1 [(23,pI v3)] (by kernel_rfl) ?_))
 refine an rfl (bj rfl rfl (ρ1:=[]) (List.Perm.refl _) (lT hx9) ?_);rintro _ _ ⟨a10,c11,rfl,rfl⟩
 refine aN [(6,pO a10 x9.length c11)] (by kernel_rfl) (cq (al [(25,pL (eL eS) p0),(26,pI (p0.length:Int)),(27,pI 0)] (by kernel_rfl) (fz h fun q23 hq23 h=>?_)))
 refine aq (Y:=(Option Addr×Nat)×((List ByteArray))) (fun ((a19,c20),l21)=>[(6,pO a19 l21.length c20)]) (fun ((a19,c20),l21)=>[PRes.row a19 l21.length c20 9 1 (List.map eS l21)]) (fun ((a19,c20),l21)=>q23=l21) ?_ ?_
 ·refine aA ?_
  refine aD (Y:=Option Addr×Nat) (S:=(List ByteArray)×Int) _ hq23 (fun (a15,c16) (l14,v17)=>[(6,pO a15 l14.length c16),(25,pL (eL eS) p0),(26,pI (p0.length:Int)),(27,pI v17)]) (fun (a15,c16) (l14,v17)=>[PRes.row a15 l14.length c16 9 1 (List.map eS l14)]) (a10,c11) (jf rfl) cJ ?_
  rintro ⟨a15,c16⟩ ⟨l14,v17⟩ o τ hb22;(try dsimp only at hb22);dsimp only [aw]
  refine ae (al [(28,pB (decide (v17<(p0.length:Int))))] (by kernel_rfl) (bY (kK rfl hb22 (fun hc24 hb22=>?_) fun hc24 hb22=>?_)))
  ·refine ah ?_
   refine dN (aa hb22 fun m25 hm25 hb22=>ap [] [29,30] [(8,pL eS m25)] (cO 0 (eL eS) hm25 bm) (by kernel_rfl) (fz hb22 fun l26 hl26 hb22=>af (aF 2 [(31,pO a15 l14.length c16),(32,pL eS m25)] (by kernel_rfl) ?_)))
   refine an rfl (gr (enc:=eS) rfl rfl rfl rfl rfl (fun _=>rfl) rfl rfl rfl (by exact aO) hl26 (fun a27 c28=>?_))
   refine aN [(6,pO a27 l26.length c28)] (by kernel_rfl) (dX (ai [34] [(27,pI (IntKind.i64.wrap (v17+1)))] (by kernel_rfl) ?_))
   exact aT hb22 (a27,c28) (jf rfl) cJ
  refine aH ?_
  refine cx hb22 (fun ht=>aj rfl ?_)
  exact av ((a15,c16),l14) (re rfl) cJ ht.symm
 rintro ⟨⟨a19,c20⟩,l21⟩ τ hz;(try dsimp only at hz);subst q23;(try dsimp only at h);dsimp only [aw]
 refine ae (ai [35] [(2,pO a19 l21.length c20)] (by kernel_rfl) (cU ?_))
 obtain rfl:=osi h
 exact aL (cZ (aJ rfl)) cJ ⟨_,_,rfl,rfl⟩
def dU (p0:(List ByteArray)):Option (List ByteArray):=cond (decide (((p0.length:Nat):Int)<2)) (some p0) ((aU (S:=Int) (T:=(Unit)⊕(_)) (fun v2=>cond (decide (v2<((p0.length:Nat):Int))) ((idx p0 v2).bind fun m7=>(idx p0 (IntKind.i64.wrap (v2 - 1))).bind fun m8=>cond (decide (m7=m8)) ((sub p0 v2 (p0.length:Int)).bind fun l10=>(aU (S:=(List ByteArray)×Int×Int) (T:=((List ByteArray)×Int)) (fun (l12,v13,v14)=>cond (decide (v14<((p0.length - v2.toNat:Nat):Int))) (((lB v14).bind fun u25=>(idx l12 (v2+v14)).bind fun m26=>(lB (IntKind.i64.wrap (v14 - 1))).bind fun u27=>(idx l12 (v2+(IntKind.i64.wrap (v14 - 1)))).bind fun m28=>cond (!decide (m26=m28)) ((lB v14).bind fun u30=>(idx l12 (v2+v14)).bind fun m31=>(idx l12 v13).bind fun m32=>some ((l12.set v13.toNat m31),(IntKind.i64.wrap (v13+1)))) (some (l12,v13))).bind fun (l22,v23)=>some (.inl (l22,v23,(IntKind.i64.wrap (v14+1))))) (some (.inr (l12,v13)))) FUEL (p0,v2,1)).bind fun (l16,v17)=>(sub l16 v17 (l16.length:Int)).bind fun l34=>(sub (List.take v17.toNat l16++List.replicate (p0.length - v17.toNat) ByteArray.empty) 0 v17).bind fun l35=>some (.inr (.inr l35))) (some (.inl (IntKind.i64.wrap (v2+1))))) (some (.inr (.inl ())))) FUEL 1).bind fun q=>match q with | .inl _=>some p0 | .inr e=>some e)
theorem kF {p0:(List ByteArray)} {a_0:Option Addr}  {n_0:Nat}  {c_0:Nat} {r:(List ByteArray)}  (h:dU p0=some r):PCall 140 [.v (.slice a_0 n_0 c_0)] [PRes.row a_0 n_0 c_0 9 1 (List.map eS p0)] (fun pv ρ'=>∃ a c,pv=.v (.slice a r.length c)∧ρ'=[PRes.row a r.length c 9 1 (List.map eS r)]):=by
 unfold dU at h
 refine oH Tryz.func140 rfl Tryz.ntmps140 Tryz.results140 rfl ?_
 refine nt (enc:=eS) (xs:=p0) (a:=a_0) e7 (fun hl ha=>?_);subst hl;clear ha
 refine ae (aV [2] (by kernel_rfl) (cq (bC [6,7] [(8,pB (decide (((p0.length:Nat):Int)<2)))] (by kernel_rfl) rfl h (fun hc1 h=>?_) fun hc1 h=>?_)))
 ·refine ae ?_
  refine ai [9] [(2,pO a_0 p0.length c_0)] (by kernel_rfl) (cU (am ?_))
  obtain rfl:=osi h
  exact aL (cZ (aJ rfl)) cJ ⟨_,_,rfl,rfl⟩
 refine ah ?_
 refine cq (al [(3,pI 1)] (by kernel_rfl) (fz h fun q5 hq5 h=>?_))
 refine aq (Y:=Unit×Unit) (fun (_,_)=>[(0,pO a_0 p0.length c_0)]) (fun (_,_)=>[PRes.row a_0 p0.length c_0 9 1 (List.map eS p0)]) (fun (_,_)=>q5=Sum.inl ()) ?_ ?_
 ·refine aA ?_
  refine aD (Y:=Unit) (S:=Int) _ hq5 (fun _ v2=>[(0,pO a_0 p0.length c_0),(3,pI v2)]) (fun _ v2=>[PRes.row a_0 p0.length c_0 9 1 (List.map eS p0)]) () (mK rfl) cJ ?_
  rintro _ v2 o τ hb4;(try dsimp only at hb4);dsimp only [aw]
  refine dm (bC [10,11,12] [(13,pB (decide (v2<((p0.length:Nat):Int))))] (by kernel_rfl) rfl hb4 (fun hc6 hb4=>?_) fun hc6 hb4=>?_)
  ·refine ah ?_
   refine dN (bk (ρd:=[]) [(0,0),(1,0),(2,0),(3,0),(4,0),(5,0),(6,0),(7,0),(8,0),(9,0)] _ (List.Perm.refl _) (by kernel_rfl) rfl (aa hb4 fun m7 hm7 hb4=>ij 2 [(16,pO a_0 p0.length c_0),(17,pI v2)] (by kernel_rfl) (kJ rfl rfl rfl (eP (enc:=eS) (xs:=p0) rfl rfl rfl (.p rfl) e7 (.p rfl) (fun _=>hm7)) (kJ rfl rfl rfl (cR (sz:=1) (p:=pS m7) (enc:=eS) (xs:=p0) (a:=a_0) v2 0 m7 rfl (.p rfl) rfl e7 (fun _=>hm7) rfl) (aa hb4 fun m8 hm8 hb4=>mV 3 [21] [(20,pO a_0 p0.length c_0),(22,pI (IntKind.i64.wrap (v2 - 1)))] (by kernel_rfl) (kJ rfl rfl rfl (eP (enc:=eS) (xs:=p0) rfl rfl rfl (.p rfl) e7 (.p rfl) (fun _=>hm8)) (kJ rfl rfl rfl (cR (sz:=1) (p:=pS m8) (enc:=eS) (xs:=p0) (a:=a_0) (IntKind.i64.wrap (v2 - 1)) 0 m8 rfl (.p rfl) rfl e7 (fun _=>hm8) rfl) (ij 1 [(25,pB (decide (m7=m8)))] (by kernel_rfl) (bv (cS rfl hb4 (fun hc9 hb4=>?_) fun hc9 hb4=>?_))))))))))
   ·refine ae ?_
    refine aa hb4 fun l10 hl10 hb4=>af (aF 2 [(26,pO a_0 p0.length c_0),(27,pI v2)] (by kernel_rfl) (cb rfl rfl rfl (oJ (enc:=eS) (xs:=p0) rfl rfl rfl rfl rfl e7 hl10) (aN [(4,pQ a_0 p0.length c_0 v2.toNat 1)] (by kernel_rfl) (cq (al [(5,pI 1)] (by kernel_rfl) (fz hb4 fun q19 hq19 hb4=>?_))))))
    refine aq (Y:=Unit×((List ByteArray)×Int)) (fun (_,(l16,v17))=>[(0,pO a_0 p0.length c_0),(3,pI v17)]) (fun (_,(l16,v17))=>[PRes.row a_0 p0.length c_0 9 1 (List.map eS l16)]) (fun (_,(l16,v17))=>q19=(l16,v17)) ?_ ?_
    ·refine aA ?_
     refine aD (Y:=Unit) (S:=(List ByteArray)×Int×Int) _ hq19 (fun _ (l12,v13,v14)=>[(0,pO a_0 p0.length c_0),(3,pI v13),(4,pQ a_0 p0.length c_0 v2.toNat 1),(5,pI v14)]) (fun _ (l12,v13,v14)=>[PRes.row a_0 p0.length c_0 9 1 (List.map eS l12)]) () (jf rfl) cJ ?_
     rintro _ ⟨l12,v13,v14⟩ o τ hb18;(try dsimp only at hb18);dsimp only [aw]
     refine dm (bC [29,30,31] [(32,pB (decide (v14<((p0.length - v2.toNat:Nat):Int))))] (by kernel_rfl) rfl hb18 (fun hc20 hb18=>?_) fun hc20 hb18=>?_)
     ·refine ah ?_
      refine de hb18 fun q24 hq24 hb18=>?_
      refine aq (Y:=Unit×((List ByteArray)×Int)) (fun (_,(l22,v23))=>[(0,pO a_0 p0.length c_0),(3,pI v23),(4,pQ a_0 p0.length c_0 v2.toNat 1),(5,pI v14)]) (fun (_,(l22,v23))=>[PRes.row a_0 p0.length c_0 9 1 (List.map eS l22)]) (fun (_,(l22,v23))=>q24=(l22,v23)) ?_ ?_
      ·skip
       refine pX (bk (ρd:=[]) [(0,0),(1,0),(2,0),(3,0),(4,0),(5,0),(6,0),(7,0),(8,0),(9,0)] _ (List.Perm.refl _) (by kernel_rfl) rfl (aa hq24 fun u25 hu25 hq24=>aa hq24 fun m26 hm26 hq24=>ij 2 [(35,pQ a_0 p0.length c_0 v2.toNat 1),(36,pI v14)] (by kernel_rfl) (kJ rfl rfl rfl (kV (enc:=eS) (xs:=l12) (i:=v2) rfl rfl rfl rfl rfl (gM hl10).1.1 (mS hu25) e7 hm26) (kJ rfl rfl rfl (cR (sz:=1) (p:=pS m26) (enc:=eS) (xs:=l12) (a:=a_0) (v2+v14) 0 m26 rfl (.p rfl) rfl e7 (fun _=>hm26) rfl) (aa hq24 fun u27 hu27 hq24=>aa hq24 fun m28 hm28 hq24=>mV 3 [40] [(39,pQ a_0 p0.length c_0 v2.toNat 1),(41,pI (IntKind.i64.wrap (v14 - 1)))] (by kernel_rfl) (kJ rfl rfl rfl (kV (enc:=eS) (xs:=l12) (i:=v2) rfl rfl rfl rfl rfl (gM hl10).1.1 (mS hu27) e7 hm28) (kJ rfl rfl rfl (cR (sz:=1) (p:=pS m28) (enc:=eS) (xs:=l12) (a:=a_0) (v2+(IntKind.i64.wrap (v14 - 1))) 0 m28 rfl (.p rfl) rfl e7 (fun _=>hm28) rfl) (ij 1 [(44,pB (!decide (m26=m28)))] (by kernel_rfl) (bv (cS rfl hq24 (fun hc29 hq24=>?_) fun hc29 hq24=>?_))))))))))
       ·refine ae ?_
        refine aa hq24 fun u30 hu30 hq24=>aa hq24 fun m31 hm31 hq24=>af (aF 4 [(45,pO a_0 p0.length c_0),(46,pI v13),(47,pQ a_0 p0.length c_0 v2.toNat 1),(48,pI v14)] (by kernel_rfl) (cb rfl rfl rfl (kV (enc:=eS) (xs:=l12) (i:=v2) rfl rfl rfl rfl rfl (gM hl10).1.1 (mS hu30) e7 hm31) (cb rfl rfl rfl (cR (sz:=1) (p:=pS m31) (enc:=eS) (xs:=l12) (a:=a_0) (v2+v14) 0 m31 rfl (.p rfl) rfl e7 (fun _=>hm31) rfl) (aa hq24 fun m32 hm32 hq24=>cb rfl rfl rfl (eP (enc:=eS) (xs:=l12) rfl rfl rfl (.p rfl) e7 (.p rfl) (fun _=>hm32)) (aP rfl rfl (iN (enc:=eS) (xs:=l12) (a:=a_0) v13 0 m32 m31 rfl rfl rfl rfl (fun _=>rfl) rfl rfl hm32 mT ca (aG (aY (ai [52,53] [(3,pI (IntKind.i64.wrap (v13+1)))] (by kernel_rfl) (aB ?_))))))))))
        obtain rfl:=osi hq24
        exact av ((),((l12.set v13.toNat m31),(IntKind.i64.wrap (v13+1)))) (jf rfl) cJ rfl
       refine ah ?_
       refine aB ?_
       obtain rfl:=osi hq24
       exact av ((),(l12,v13)) (jf rfl) cJ rfl
      rintro ⟨_,⟨l22,v23⟩⟩ τ hz;(try dsimp only at hz);subst q24;(try dsimp only at hb18);dsimp only [aw]
      refine ai [33,34] [(5,pI (IntKind.i64.wrap (v14+1)))] (by kernel_rfl) ?_
      exact aT hb18 () (jf rfl) cJ
     refine aH ?_
     refine cx hb18 (fun ht=>aj rfl ?_)
     exact av ((),(l12,v13)) (mK rfl) cJ ht.symm
    rintro ⟨_,⟨l16,v17⟩⟩ τ hz;(try dsimp only at hz);subst q19;(try dsimp only at hb4);dsimp only [aw]
    refine ae (aa hb4 fun l34 hl34 hb4=>af (aF 2 [(54,pO a_0 p0.length c_0),(55,pI v17)] (by kernel_rfl) (cb rfl rfl rfl (oJ (enc:=eS) (xs:=l16) rfl rfl rfl rfl rfl e7 hl34) (aP rfl rfl (xk (enc:=eS) (xs:=l16) (z0:=ByteArray.empty) (i:=v17) rfl rfl rfl rfl hl34 rfl rfl rfl rfl ca (aG (de hb4 fun l35 hl35 hb4=>af (aF 2 [(57,pO a_0 p0.length c_0),(58,pI v17)] (by kernel_rfl) ?_))))))))
    refine an rfl (xj (enc:=eS) (xs:=(List.take v17.toNat l16++List.replicate (p0.length - v17.toNat) ByteArray.empty)) rfl rfl rfl rfl rfl (by exact aO) hl35 ?_)
    refine aN [(2,pO a_0 l35.length c_0)] (by kernel_rfl) (cU (dI ?_))
    refine au hb4 (fun ht=>?_);subst ht
    refine cK ?_
    obtain rfl:=osi h
    exact aL (cZ (aJ rfl)) cJ ⟨_,_,rfl,rfl⟩
   refine ah ?_
   refine dX (ai [14,15] [(3,pI (IntKind.i64.wrap (v2+1)))] (by kernel_rfl) ?_)
   exact aT hb4 () (mK rfl) cJ
  refine aH ?_
  refine cx hb4 (fun ht=>aj rfl ?_)
  exact av ((),()) (re rfl) cJ ht.symm
 rintro ⟨_,_⟩ τ hz;(try dsimp only at hz);subst q5;(try dsimp only at h);dsimp only [aw]
 refine ae (ai [60] [(2,pO a_0 p0.length c_0)] (by kernel_rfl) (cU ?_))
 obtain rfl:=osi h
 exact aL (cZ (aJ rfl)) cJ ⟨_,_,rfl,rfl⟩
def cX (p0:Zs) (p1:Zc) (p2:Int):Option Ze:=(aU (S:=Int) (T:=(Unit)⊕(_)) (fun v3=>cond (decide (v3<(p0.partners.length:Int))) ((idx p0.partners v3).bind fun m7=>cond ((kh p0.set_ (⟨p1.ID,m7⟩:Za)).getD false) (some (.inr (.inr (Ze.proved_ (⟨(⟨p1.Code,p2,true⟩:Zk),(⟨p1.ID,m7⟩:Za)⟩:Zq))))) (some (.inl (IntKind.i64.wrap (v3+1))))) (some (.inr (.inl ())))) FUEL 0).bind fun q=>match q with | .inl _=>some (Ze.plain_ (⟨(⟨p1.Code,p2,false⟩:Zk)⟩:Zt)) | .inr e=>some e
theorem iI {p0:Zs} {p1:Zc} {p2:Int} {m0_set_:Nat} {r:Ze}  (h:cX p0 p1 p2=some r):PCall 98 [.agg [pL eI p0.partners,.v (.map (some m0_set_))],.agg (aK p1),pI p2] [PRes.mp (some m0_set_) (gi Za.key vT p0.set_)] (fun pv ρ'=>pv=Ze.pv r∧ρ'=[PRes.mp (some m0_set_) (gi Za.key vT p0.set_)]):=by
 unfold cX at h
 refine du Tryz.func98 rfl Tryz.ntmps98 Tryz.results98 rfl (dc rfl (bh (cs:=[pL eI p0.partners,.v (.map (some m0_set_))]) rfl rfl (fun b1=>an rfl (bh (cs:=(aK p1)) rfl rfl (fun b2=>ba [6] (by kernel_rfl) (cq (aI [1] [10] [(11,pL eI p0.partners),(12,pI (p0.partners.length:Int)),(13,pI 0)] (by kernel_rfl) (fz h fun q5 hq5 h=>?_))))))))
 refine aq (Y:=Unit×Unit) (fun (_,_)=>[(2,pI p2),(4,pP b2 0)]) (fun (_,_)=>[PRes.b b2 76 (aK p1),PRes.mp (some m0_set_) (gi Za.key vT p0.set_)]) (fun (_,_)=>q5=Sum.inl ()) ?_ ?_
 ·refine aA ?_
  refine aD (Y:=Unit) (S:=Int) _ hq5 (fun _ v3=>[(2,pI p2),(3,pP b1 0),(4,pP b2 0),(11,pL eI p0.partners),(12,pI (p0.partners.length:Int)),(13,pI v3)]) (fun _ v3=>[PRes.b b1 96 [pL eI p0.partners,.v (.map (some m0_set_))],PRes.b b2 76 (aK p1),PRes.mp (some m0_set_) (gi Za.key vT p0.set_)]) () (qV rfl) (be (aC aO) ni) ?_
  rintro _ v3 o τ hb4;(try dsimp only at hb4);dsimp only [aw]
  refine ae (al [(14,pB (decide (v3<(p0.partners.length:Int))))] (by kernel_rfl) (bY (kK rfl hb4 (fun hc6 hb4=>?_) fun hc6 hb4=>?_)))
  ·refine ah ?_
   refine dN (aa hb4 fun m7 hm7 hb4=>ap [] [15,16] [(8,pI m7)] (cO 0 eI hm7 bm) (by kernel_rfl) (bY (af (cG 4 [1] [17,18,19] [(20,.agg [pI p1.ID,pI m7])] (by kernel_rfl) (an rfl (aM (cs:=[pI 0,pI 0]) rfl rfl rfl rfl (fun b8=>aP rfl rfl (ak (vs:=[pI p1.ID,pI m7]) rfl rfl rfl rfl rfl ca sE (aG (bY (af (cG 3 [1,0] [21] [(22,.v (.map (some m0_set_))),(23,.agg [pI p1.ID,pI m7])] (by kernel_rfl) (cb rfl rfl rfl (show POpQ _ _ _ _ (pB ((kh p0.set_ (⟨p1.ID,m7⟩:Za)).getD false)) from xi (xs:=p0.set_) (k:=(⟨p1.ID,m7⟩:Za)) (ek:=Za.key) (vv:=vT) (z0:=false) rfl rfl rfl (fun _=>.v rfl) Za.kenc28 (.p rfl) (.p rfl) yv (zZ zm3)) (aG (cS rfl hb4 (fun hc9 hb4=>?_) fun hc9 hb4=>?_)))))))))))))))
   ·refine ae ?_
    refine aI [2,0] (rg 25 7) [(6,Ze.pv (Ze.proved_ (⟨(⟨p1.Code,p2,true⟩:Zk),(⟨p1.ID,m7⟩:Za)⟩:Zq)))] (by kernel_rfl) (cU (dI ?_))
    refine au hb4 (fun ht=>?_);subst ht
    refine cK ?_
    obtain rfl:=osi h
    exact aL (cZ (aJ rfl)) (be (aC (aC (aC aO))) bz) ⟨rfl,rfl⟩
   refine ah ?_
   refine dX (ai [32] [(13,pI (IntKind.i64.wrap (v3+1)))] (by kernel_rfl) ?_)
   exact aT hb4 () (qV rfl) (be (aC aO) (be (aC aO) (be (aC aO) bz)))
  refine aH ?_
  refine cx hb4 (fun ht=>aj rfl ?_)
  exact av ((),()) (mK rfl) (be (aC aO) (be (aC aO) bz)) ht.symm
 rintro ⟨_,_⟩ τ hz;(try dsimp only at hz);subst q5;(try dsimp only at h);dsimp only [aw]
 refine ae (aI [0] (rg 33 6) [(6,Ze.pv (Ze.plain_ (⟨(⟨p1.Code,p2,false⟩:Zk)⟩:Zt)))] (by kernel_rfl) (cU ?_))
 obtain rfl:=osi h
 exact aL (cZ (aJ rfl)) (be (aC aO) bz) ⟨rfl,rfl⟩
def gn (p0:Int):Option Int:=Option.bind (cond (decide (4294967296≤p0)) (some ((cu .u64 p0 32),32)) (some (p0,0))) (fun (v1,v2)=>Option.bind (cond (decide (65536≤v1)) (some ((cu .u64 v1 16),(IntKind.i64.wrap (v2+16)))) (some (v1,v2))) (fun (v5,v6)=>Option.bind (cond (decide (256≤v5)) (some ((cu .u64 v5 8),(IntKind.i64.wrap (v6+8)))) (some (v5,v6))) (fun (v9,v10)=>(idx (⟨#[0,1,2,2,3,3,3,3,4,4,4,4,4,4,4,4,5,5,5,5,5,5,5,5,5,5,5,5,5,5,5,5,6,6,6,6,6,6,6,6,6,6,6,6,6,6,6,6,6,6,6,6,6,6,6,6,6,6,6,6,6,6,6,6,7,7,7,7,7,7,7,7,7,7,7,7,7,7,7,7,7,7,7,7,7,7,7,7,7,7,7,7,7,7,7,7,7,7,7,7,7,7,7,7,7,7,7,7,7,7,7,7,7,7,7,7,7,7,7,7,7,7,7,7,7,7,7,7,8,8,8,8,8,8,8,8,8,8,8,8,8,8,8,8,8,8,8,8,8,8,8,8,8,8,8,8,8,8,8,8,8,8,8,8,8,8,8,8,8,8,8,8,8,8,8,8,8,8,8,8,8,8,8,8,8,8,8,8,8,8,8,8,8,8,8,8,8,8,8,8,8,8,8,8,8,8,8,8,8,8,8,8,8,8,8,8,8,8,8,8,8,8,8,8,8,8,8,8,8,8,8,8,8,8,8,8,8,8,8,8,8,8,8,8,8,8,8,8,8,8,8,8,8,8,8,8]⟩:ByteArray).data.toList (IntKind.u8.wrap v9)).bind fun c13=>lb ((IntKind.i64.wrap (v10+(IntKind.i64.wrap (c13.toNat:Int))))) (fun w14=>some w14))))
theorem rB {p0:Int} {r:Int}  (h:gn p0=some r):PF 151 [pU p0] (pI r):=by
 unfold gn at h
 refine bd ?_
 refine du Tryz.func151 rfl Tryz.ntmps151 Tryz.results151 rfl (al [(2,pI 0)] (by kernel_rfl) (cq (ai [3] [(4,pB (decide (4294967296≤p0)))] (by kernel_rfl) (fz h fun q3 hq3 h=>?_))))
 refine aq (Y:=Unit×(Int×Int)) (fun (_,(v1,v2))=>[(0,pU v1),(2,pI v2)]) (fun (_,(v1,v2))=>[]) (fun (_,(v1,v2))=>q3=(v1,v2)) ?_ ?_
 ·skip
  refine kK rfl hq3 (fun hc4 hq3=>?_) fun hc4 hq3=>?_
  ·refine ae ?_
   refine ai [5,6] [(0,pU (cu .u64 p0 32))] (by kernel_rfl) (aY (al [(2,pI 32)] (by kernel_rfl) ?_))
   obtain rfl:=osi hq3
   exact av ((),((cu .u64 p0 32),32)) (mK rfl) bz rfl
  refine ah ?_
  obtain rfl:=osi hq3
  exact av ((),(p0,0)) (mK rfl) bz rfl
 rintro ⟨_,⟨v1,v2⟩⟩ τ hz;(try dsimp only at hz);subst q3;(try dsimp only at h);dsimp only [aw]
 refine dm (ai [7] [(8,pB (decide (65536≤v1)))] (by kernel_rfl) (fz h fun q7 hq7 h=>?_))
 refine aq (Y:=Unit×(Int×Int)) (fun (_,(v5,v6))=>[(0,pU v5),(2,pI v6)]) (fun (_,(v5,v6))=>[]) (fun (_,(v5,v6))=>q7=(v5,v6)) ?_ ?_
 ·skip
  refine kK rfl hq7 (fun hc8 hq7=>?_) fun hc8 hq7=>?_
  ·refine ae ?_
   refine ai [9,10] [(0,pU (cu .u64 v1 16))] (by kernel_rfl) (aY (ai [11,12] [(2,pI (IntKind.i64.wrap (v2+16)))] (by kernel_rfl) ?_))
   obtain rfl:=osi hq7
   exact av ((),((cu .u64 v1 16),(IntKind.i64.wrap (v2+16)))) (mK rfl) bz rfl
  refine ah ?_
  obtain rfl:=osi hq7
  exact av ((),(v1,v2)) (mK rfl) bz rfl
 rintro ⟨_,⟨v5,v6⟩⟩ τ hz;(try dsimp only at hz);subst q7;(try dsimp only at h);dsimp only [aw]
 refine dm (ai [13] [(14,pB (decide (256≤v5)))] (by kernel_rfl) (fz h fun q11 hq11 h=>?_))
 refine aq (Y:=Unit×(Int×Int)) (fun (_,(v9,v10))=>[(0,pU v9),(2,pI v10)]) (fun (_,(v9,v10))=>[]) (fun (_,(v9,v10))=>q11=(v9,v10)) ?_ ?_
 ·skip
  refine kK rfl hq11 (fun hc12 hq11=>?_) fun hc12 hq11=>?_
  ·refine ae ?_
   refine ai [15,16] [(0,pU (cu .u64 v5 8))] (by kernel_rfl) (aY (ai [17,18] [(2,pI (IntKind.i64.wrap (v6+8)))] (by kernel_rfl) ?_))
   obtain rfl:=osi hq11
   exact av ((),((cu .u64 v5 8),(IntKind.i64.wrap (v6+8)))) (mK rfl) bz rfl
  refine ah ?_
  obtain rfl:=osi hq11
  exact av ((),(v5,v6)) (mK rfl) bz rfl
 rintro ⟨_,⟨v9,v10⟩⟩ τ hz;(try dsimp only at hz);subst q11;(try dsimp only at h);dsimp only [aw]
 refine ae (aa h fun c13 hc13 h=>?_)
 refine eZ h ?_;clear h;intro w14 hw14 h
 refine af (aS 6 [] (rg 19 5) [(24,pI (IntKind.i64.wrap (v10+(IntKind.i64.wrap (c13.toNat:Int)))))] (fosx 3 (s:=(⟨#[0,1,2,2,3,3,3,3,4,4,4,4,4,4,4,4,5,5,5,5,5,5,5,5,5,5,5,5,5,5,5,5,6,6,6,6,6,6,6,6,6,6,6,6,6,6,6,6,6,6,6,6,6,6,6,6,6,6,6,6,6,6,6,6,7,7,7,7,7,7,7,7,7,7,7,7,7,7,7,7,7,7,7,7,7,7,7,7,7,7,7,7,7,7,7,7,7,7,7,7,7,7,7,7,7,7,7,7,7,7,7,7,7,7,7,7,7,7,7,7,7,7,7,7,7,7,7,7,8,8,8,8,8,8,8,8,8,8,8,8,8,8,8,8,8,8,8,8,8,8,8,8,8,8,8,8,8,8,8,8,8,8,8,8,8,8,8,8,8,8,8,8,8,8,8,8,8,8,8,8,8,8,8,8,8,8,8,8,8,8,8,8,8,8,8,8,8,8,8,8,8,8,8,8,8,8,8,8,8,8,8,8,8,8,8,8,8,8,8,8,8,8,8,8,8,8,8,8,8,8,8,8,8,8,8,8,8,8,8,8,8,8,8,8,8,8,8,8,8,8,8,8,8,8,8,8]⟩:ByteArray)) hc13 bm) (by kernel_rfl) (cb rfl rfl rfl (bW rfl (.p (congrArg (fun z=>PV.v (Value.int .i64 z)) hw14))) (aG (cU ?_))))
 exact zz r h rfl
def dO (p0:Int):Option Int:=(gn p0).bind fun x1=>some (IntKind.i64.wrap (64 - x1))
theorem mw {p0:Int} {r:Int}  (h:dO p0=some r):PF 213 [pU p0] (pI r):=by
 unfold dO at h
 refine bd ?_
 refine du Tryz.func213 rfl Tryz.ntmps213 Tryz.results213 rfl (aV [2] (by kernel_rfl) (de h fun x1 hx1 h=>ap [] [3,4,5] [(2,pI (IntKind.i64.wrap (64 - x1)))] (bg 1 (rB hx1) bm) (by kernel_rfl) (cU ?_)))
 exact zz r h rfl
def il (p0:Int) (p1:Int) (p2:Int):Option (Int×Int):=cond (p2 == 0) (none) (cond (decide (p2≤p0)) (none) (cond (p0 == 0) ((nz p2).bind fun u4=>(nz p2).bind fun u5=>some ((IntKind.u64.wrap (Int.tdiv p1 p2)),(Int.tmod p1 p2))) ((dO p2).bind fun x6=>(lB (IntKind.u64.wrap x6)).bind fun u7=>lb ((cu .u64 (fy .u64 p2 (IntKind.u64.wrap x6)) 32)) (fun w8=>lb ((dD .u64 (fy .u64 p2 (IntKind.u64.wrap x6)) 4294967295)) (fun w9=>(lB (IntKind.u64.wrap x6)).bind fun u10=>(lB (IntKind.u64.wrap (64 - (IntKind.u64.wrap x6)))).bind fun u11=>lb ((ou .u64 (fy .u64 p0 (IntKind.u64.wrap x6)) (cu .u64 p1 (IntKind.u64.wrap (64 - (IntKind.u64.wrap x6)))))) (fun w12=>(lB (IntKind.u64.wrap x6)).bind fun u13=>lb ((cu .u64 (fy .u64 p1 (IntKind.u64.wrap x6)) 32)) (fun w14=>lb ((dD .u64 (fy .u64 p1 (IntKind.u64.wrap x6)) 4294967295)) (fun w15=>(nz w8).bind fun u16=>lb ((IntKind.u64.wrap (w12 - (IntKind.u64.wrap ((IntKind.u64.wrap (Int.tdiv w12 w8))*w8))))) (fun w17=>(aU (S:=Int×Int) (T:=(Int)) (fun (v18,v19)=>cond ((decide (4294967296≤v18))||(decide ((IntKind.u64.wrap ((IntKind.u64.wrap (4294967296*v19))+w14))<(IntKind.u64.wrap (v18*w9))))) (cond (decide (4294967296≤(IntKind.u64.wrap (v19+w8)))) (some (.inr (IntKind.u64.wrap (v18 - 1)))) (some (.inl ((IntKind.u64.wrap (v18 - 1)),(IntKind.u64.wrap (v19+w8)))))) (some (.inr v18))) FUEL ((IntKind.u64.wrap (Int.tdiv w12 w8)),w17)).bind fun v20=>lb ((IntKind.u64.wrap ((IntKind.u64.wrap ((IntKind.u64.wrap (w12*4294967296))+w14)) - (IntKind.u64.wrap (v20*(fy .u64 p2 (IntKind.u64.wrap x6))))))) (fun w25=>(nz w8).bind fun u26=>lb ((IntKind.u64.wrap (w25 - (IntKind.u64.wrap ((IntKind.u64.wrap (Int.tdiv w25 w8))*w8))))) (fun w27=>(aU (S:=Int×Int) (T:=(Int)) (fun (v28,v29)=>cond ((decide (4294967296≤v29))||(decide ((IntKind.u64.wrap ((IntKind.u64.wrap (4294967296*v28))+w15))<(IntKind.u64.wrap (v29*w9))))) (cond (decide (4294967296≤(IntKind.u64.wrap (v28+w8)))) (some (.inr (IntKind.u64.wrap (v29 - 1)))) (some (.inl ((IntKind.u64.wrap (v28+w8)),(IntKind.u64.wrap (v29 - 1)))))) (some (.inr v29))) FUEL (w27,(IntKind.u64.wrap (Int.tdiv w25 w8)))).bind fun v30=>(lB (IntKind.u64.wrap x6)).bind fun u35=>lb ((IntKind.u64.wrap ((IntKind.u64.wrap (v20*4294967296))+v30))) (fun w36=>lb ((cu .u64 (IntKind.u64.wrap ((IntKind.u64.wrap ((IntKind.u64.wrap (w25*4294967296))+w15)) - (IntKind.u64.wrap (v30*(fy .u64 p2 (IntKind.u64.wrap x6)))))) (IntKind.u64.wrap x6))) (fun w37=>some (w36,w37))))))))))))))
theorem rC {p0:Int} {p1:Int} {p2:Int} {r:(Int×Int)}  (h:il p0 p1 p2=some r):PF 200 [pU p0,pU p1,pU p2] (.tup [pU r.1,pU r.2]):=by
 unfold il at h
 refine bd ?_
 refine du Tryz.func200 rfl Tryz.ntmps200 Tryz.results200 rfl (aV [6,7] (by kernel_rfl) (cq (bC [19] [(20,pB (p2 == 0))] (by kernel_rfl) rfl h (fun hc1 h=>?_) fun hc1 h=>?_)))
 ·refine af ?_
  exact absurd h (by simp)
 refine ah ?_
 refine cq (bC [22,23] [(24,pB (decide (p2≤p0)))] (by kernel_rfl) rfl h (fun hc2 h=>?_) fun hc2 h=>?_)
 ·refine af ?_
  exact absurd h (by simp)
 refine ah ?_
 refine cq (bC [26] [(27,pB (p0 == 0))] (by kernel_rfl) rfl h (fun hc3 h=>?_) fun hc3 h=>?_)
 ·refine ae ?_
  refine bk (ρd:=[]) [(0,0),(1,0),(2,0),(3,0),(4,0),(5,0),(6,0),(7,0)] _ (List.Perm.refl _) (by kernel_rfl) rfl (aa h fun u4 hu4 h=>aa h fun u5 hu5 h=>br 8 [] (rg 28 6) [(6,pU (IntKind.u64.wrap (Int.tdiv p1 p2))),(7,pU (Int.tmod p1 p2))] (Dm 2 hu4 (Dm 5 hu5 bm)) (by kernel_rfl) (bv (cU (am ?_))))
  obtain rfl:=osi h
  exact aL (cg (aJ rfl) (aJ rfl)) bz ⟨rfl,rfl⟩
 refine ah ?_
 refine de h fun x6 hx6 h=>ap [] [34,35,36] [(8,pU (IntKind.u64.wrap x6))] (bg 1 (mw hx6) bm) (by kernel_rfl) (de h fun u7 hu7 h=>ap [] [37,38,39] [(2,pU (fy .u64 p2 (IntKind.u64.wrap x6)))] (uc 2 hu7 bm) (by kernel_rfl) (bY ?_))
 refine eZ h ?_;clear h;intro w8 hw8 h
 refine af (cB 2 [40] [(41,pU (cu .u64 (fy .u64 p2 (IntKind.u64.wrap x6)) 32))] (by kernel_rfl) (cb rfl rfl rfl (bW rfl (.p (congrArg (fun z=>PV.v (Value.int .u64 z)) hw8))) (aG (bY ?_))))
 refine eZ h ?_;clear h;intro w9 hw9 h
 refine af (cB 2 [42] [(43,pU (dD .u64 (fy .u64 p2 (IntKind.u64.wrap x6)) 4294967295))] (by kernel_rfl) (cb rfl rfl rfl (bW rfl (.p (congrArg (fun z=>PV.v (Value.int .u64 z)) hw9))) (aG (de h fun u10 hu10 h=>aa h fun u11 hu11 h=>?_))))
 refine eZ h ?_;clear h;intro w12 hw12 h
 refine af (aS 8 [] (rg 44 7) [(51,pU (ou .u64 (fy .u64 p0 (IntKind.u64.wrap x6)) (cu .u64 p1 (IntKind.u64.wrap (64 - (IntKind.u64.wrap x6))))))] (uc 2 hu10 (uc 6 hu11 bm)) (by kernel_rfl) (cb rfl rfl rfl (bW rfl (.p (congrArg (fun z=>PV.v (Value.int .u64 z)) hw12))) (aG (de h fun u13 hu13 h=>ap [] [52,53,54] [(12,pU (fy .u64 p1 (IntKind.u64.wrap x6)))] (uc 2 hu13 bm) (by kernel_rfl) (bY ?_)))))
 refine eZ h ?_;clear h;intro w14 hw14 h
 refine af (cB 2 [55] [(56,pU (cu .u64 (fy .u64 p1 (IntKind.u64.wrap x6)) 32))] (by kernel_rfl) (cb rfl rfl rfl (bW rfl (.p (congrArg (fun z=>PV.v (Value.int .u64 z)) hw14))) (aG (bY ?_))))
 refine eZ h ?_;clear h;intro w15 hw15 h
 refine af (cB 2 [57] [(58,pU (dD .u64 (fy .u64 p1 (IntKind.u64.wrap x6)) 4294967295))] (by kernel_rfl) (cb rfl rfl rfl (bW rfl (.p (congrArg (fun z=>PV.v (Value.int .u64 z)) hw15))) (aG (de h fun u16 hu16 h=>ap [] [59,60,61] [(15,pU (IntKind.u64.wrap (Int.tdiv w12 w8)))] (Dm 2 hu16 bm) (by kernel_rfl) (bY ?_)))))
 refine eZ h ?_;clear h;intro w17 hw17 h
 refine af (cB 5 [62,63,64,65] [(66,pU (IntKind.u64.wrap (w12 - (IntKind.u64.wrap ((IntKind.u64.wrap (Int.tdiv w12 w8))*w8)))))] (by kernel_rfl) (cb rfl rfl rfl (bW rfl (.p (congrArg (fun z=>PV.v (Value.int .u64 z)) hw17))) (aG (de h fun q22 hq22 h=>?_))))
 refine aq (Y:=Unit×Int) (fun (_,v20)=>[(2,pU (fy .u64 p2 (IntKind.u64.wrap x6))),(8,pU (IntKind.u64.wrap x6)),(9,pU w8),(10,pU w9),(11,pU w12),(13,pU w14),(14,pU w15),(15,pU v20)]) (fun (_,v20)=>[]) (fun (_,v20)=>q22=v20) ?_ ?_
 ·refine aA ?_
  refine aD (Y:=Unit) (S:=Int×Int) _ hq22 (fun _ (v18,v19)=>[(2,pU (fy .u64 p2 (IntKind.u64.wrap x6))),(8,pU (IntKind.u64.wrap x6)),(9,pU w8),(10,pU w9),(11,pU w12),(13,pU w14),(14,pU w15),(15,pU v18),(16,pU v19)]) (fun _ (v18,v19)=>[]) () (sG rfl) bz ?_
  rintro _ ⟨v18,v19⟩ o τ hb21;(try dsimp only at hb21);dsimp only [aw]
  refine dm (bC (rg 67 11) [(78,pB ((decide (4294967296≤v18))||(decide ((IntKind.u64.wrap ((IntKind.u64.wrap (4294967296*v19))+w14))<(IntKind.u64.wrap (v18*w9))))))] (by kernel_rfl) rfl hb21 (fun hc23 hb21=>?_) fun hc23 hb21=>?_)
  ·refine ah ?_
   refine aY (pX (ai [79,80] [(15,pU (IntKind.u64.wrap (v18 - 1)))] (by kernel_rfl) (bY (ai [81,82,83] [(16,pU (IntKind.u64.wrap (v19+w8)))] (by kernel_rfl) (bY (bC [84] [(85,pB (decide (4294967296≤(IntKind.u64.wrap (v19+w8)))))] (by kernel_rfl) rfl hb21 (fun hc24 hb21=>?_) fun hc24 hb21=>?_))))))
   ·refine aH ?_
    refine pH rfl (mr hb21 (fun ht=>aj rfl ?_))
    exact av ((),(IntKind.u64.wrap (v18 - 1))) (rU rfl) bz ht.symm
   refine ah ?_
   refine aB ?_
   exact aT hb21 () (sG rfl) bz
  refine aH ?_
  refine cx hb21 (fun ht=>aj rfl ?_)
  exact av ((),v18) (rU rfl) bz ht.symm
 rintro ⟨_,v20⟩ τ hz;(try dsimp only at hz);subst q22;(try dsimp only at h);dsimp only [aw]
 refine ae ?_
 refine eZ h ?_;clear h;intro w25 hw25 h
 refine af (cB 8 (rg 86 7) [(93,pU (IntKind.u64.wrap ((IntKind.u64.wrap ((IntKind.u64.wrap (w12*4294967296))+w14)) - (IntKind.u64.wrap (v20*(fy .u64 p2 (IntKind.u64.wrap x6)))))))] (by kernel_rfl) (cb rfl rfl rfl (bW rfl (.p (congrArg (fun z=>PV.v (Value.int .u64 z)) hw25))) (aG (de h fun u26 hu26 h=>ap [] [94,95,96] [(18,pU (IntKind.u64.wrap (Int.tdiv w25 w8)))] (Dm 2 hu26 bm) (by kernel_rfl) (bY ?_)))))
 refine eZ h ?_;clear h;intro w27 hw27 h
 refine af (cB 5 [97,98,99,100] [(101,pU (IntKind.u64.wrap (w25 - (IntKind.u64.wrap ((IntKind.u64.wrap (Int.tdiv w25 w8))*w8)))))] (by kernel_rfl) (cb rfl rfl rfl (bW rfl (.p (congrArg (fun z=>PV.v (Value.int .u64 z)) hw27))) (aG (de h fun q32 hq32 h=>?_))))
 refine aq (Y:=Unit×Int) (fun (_,v30)=>[(2,pU (fy .u64 p2 (IntKind.u64.wrap x6))),(8,pU (IntKind.u64.wrap x6)),(14,pU w15),(15,pU v20),(17,pU w25),(18,pU v30)]) (fun (_,v30)=>[]) (fun (_,v30)=>q32=v30) ?_ ?_
 ·refine aA ?_
  refine aD (Y:=Unit) (S:=Int×Int) _ hq32 (fun _ (v28,v29)=>[(2,pU (fy .u64 p2 (IntKind.u64.wrap x6))),(8,pU (IntKind.u64.wrap x6)),(9,pU w8),(10,pU w9),(14,pU w15),(15,pU v20),(16,pU v28),(17,pU w25),(18,pU v29)]) (fun _ (v28,v29)=>[]) () (sG rfl) bz ?_
  rintro _ ⟨v28,v29⟩ o τ hb31;(try dsimp only at hb31);dsimp only [aw]
  refine dm (bC (rg 102 11) [(113,pB ((decide (4294967296≤v29))||(decide ((IntKind.u64.wrap ((IntKind.u64.wrap (4294967296*v28))+w15))<(IntKind.u64.wrap (v29*w9))))))] (by kernel_rfl) rfl hb31 (fun hc33 hb31=>?_) fun hc33 hb31=>?_)
  ·refine ah ?_
   refine aY (pX (ai [114,115] [(18,pU (IntKind.u64.wrap (v29 - 1)))] (by kernel_rfl) (bY (ai [116,117,118] [(16,pU (IntKind.u64.wrap (v28+w8)))] (by kernel_rfl) (bY (bC [119] [(120,pB (decide (4294967296≤(IntKind.u64.wrap (v28+w8)))))] (by kernel_rfl) rfl hb31 (fun hc34 hb31=>?_) fun hc34 hb31=>?_))))))
   ·refine aH ?_
    refine pH rfl (mr hb31 (fun ht=>aj rfl ?_))
    exact av ((),(IntKind.u64.wrap (v29 - 1))) (qV rfl) bz ht.symm
   refine ah ?_
   refine aB ?_
   exact aT hb31 () (sG rfl) bz
  refine aH ?_
  refine cx hb31 (fun ht=>aj rfl ?_)
  exact av ((),v29) (qV rfl) bz ht.symm
 rintro ⟨_,v30⟩ τ hz;(try dsimp only at hz);subst q32;(try dsimp only at h);dsimp only [aw]
 refine ae (aa h fun u35 hu35 h=>?_)
 refine eZ h ?_;clear h;intro w36 hw36 h
 refine af (aS 14 [] [121,122,123,125,126,127,128,129,130,131,132,133] [(124,pU (IntKind.u64.wrap ((IntKind.u64.wrap (v20*4294967296))+v30))),(134,pU (cu .u64 (IntKind.u64.wrap ((IntKind.u64.wrap ((IntKind.u64.wrap (w25*4294967296))+w15)) - (IntKind.u64.wrap (v30*(fy .u64 p2 (IntKind.u64.wrap x6)))))) (IntKind.u64.wrap x6)))] (uc 13 hu35 bm) (by kernel_rfl) (cb rfl rfl rfl (bW rfl (.p (congrArg (fun z=>PV.v (Value.int .u64 z)) hw36))) ?_))
 refine eZ h ?_;clear h;intro w37 hw37 h
 refine cb rfl rfl rfl (bW rfl (.p (congrArg (fun z=>PV.v (Value.int .u64 z)) hw37))) (aG (cU ?_))
 obtain rfl:=osi h
 exact aL (cg (aJ rfl) (aJ rfl)) bz ⟨rfl,rfl⟩
def ko (p0:Int) (p1:Int) (p2:Int) (p3:Int):Option Bool:=cond (p3 == 1) (some (decide (0<p1))) (cond (p3 == 2) (some (decide ((IntKind.u64.wrap (p2 - p1))≤p1))) (cond (p3 == 3) (some ((decide ((IntKind.u64.wrap (p2 - p1))<p1))||((p1 == (IntKind.u64.wrap (p2 - p1)))&&((Int.tmod p0 2) == 1)))) (some false)))
theorem uf {p0:Int} {p1:Int} {p2:Int} {p3:Int} {r:Bool}  (h:ko p0 p1 p2 p3=some r):PF 201 [pU p0,pU p1,pU p2,pI p3] (pB r):=by
 unfold ko at h
 refine bd ?_
 refine du Tryz.func201 rfl Tryz.ntmps201 Tryz.results201 rfl (aV [8] (by kernel_rfl) (bY (ai [10,11,12] [(9,pU (IntKind.u64.wrap (p2 - p1)))] (by kernel_rfl) (cq (al [(13,pI p3)] (by kernel_rfl) (aY (pX (bC [15] [(14,pB (p3 == 1))] (by kernel_rfl) rfl h (fun hc1 h=>?_) fun hc1 h=>?_))))))))
 ·refine ae ?_
  refine ai [16,17] [(8,pB (decide (0<p1)))] (by kernel_rfl) (cU (dI ?_))
  exact zz r h rfl
 refine ae ?_
 refine bC [19] [(18,pB (p3 == 2))] (by kernel_rfl) rfl h (fun hc2 h=>?_) fun hc2 h=>?_
 ·refine ae ?_
  refine ai [20,21,22] [(8,pB (decide ((IntKind.u64.wrap (p2 - p1))≤p1)))] (by kernel_rfl) (cU (dI ?_))
  exact zz r h rfl
 refine ae ?_
 refine bC [24] [(23,pB (p3 == 3))] (by kernel_rfl) rfl h (fun hc3 h=>?_) fun hc3 h=>?_
 ·refine ae ?_
  refine ai (rg 25 13) [(8,pB ((decide ((IntKind.u64.wrap (p2 - p1))<p1))||((p1 == (IntKind.u64.wrap (p2 - p1)))&&((Int.tmod p0 2) == 1))))] (by kernel_rfl) (cU (dI ?_))
  exact zz r h rfl
 refine ah ?_
 refine aB (bY (dl [(8,pB false)] (by kernel_rfl) ?_))
 exact zz r h rfl
def n8 (p0:Zo) (p1:Int) (p2:Int):Option (Int×Int):=cond (((p1 == 0)||(decide (p2<0)))||(decide (3<p2))) (some ((0:Int),(2:Int))) (cond (decide (p1≤p0.Hi)) (some ((0:Int),(3:Int))) ((il p0.Hi p0.Lo p1).bind fun x4=>(ko x4.1 x4.2 p1 p2).bind fun x5=>cond (!x5) (some (x4.1,(0:Int))) (cond (x4.1 == 18446744073709551615) (some ((0:Int),(3:Int))) (some ((IntKind.u64.wrap (x4.1+1)),(0:Int))))))
theorem yx {p0:Zo} {p1:Int} {p2:Int} {r:(Int×Int)}  (h:n8 p0 p1 p2=some r):PF 171 [.agg [pU p0.Hi,pU p0.Lo],pU p1,pI p2] (.tup [pU r.1,pI r.2]):=by
 unfold n8 at h
 refine bd ?_
 refine du Tryz.func171 rfl Tryz.ntmps171 Tryz.results171 rfl (dc rfl (bh (cs:=[pU p0.Hi,pU p0.Lo]) rfl rfl (fun b1=>ba [6,7] (by kernel_rfl) (cq (bC (rg 10 9) [(19,pB (((p1 == 0)||(decide (p2<0)))||(decide (3<p2))))] (by kernel_rfl) rfl h (fun hc2 h=>?_) fun hc2 h=>?_)))))
 ·refine ae ?_
  refine dl [(6,pU 0),(7,pI 2)] (by kernel_rfl) (am ?_)
  obtain rfl:=osi h
  exact aL (cg (aJ rfl) (aJ rfl)) bz ⟨rfl,rfl⟩
 refine ah ?_
 refine cq (aI [0] [20,21,22] [(23,pB (decide (p1≤p0.Hi)))] (by kernel_rfl) (cS rfl h (fun hc3 h=>?_) fun hc3 h=>?_))
 ·refine ae ?_
  refine dl [(6,pU 0),(7,pI 3)] (by kernel_rfl) (am ?_)
  obtain rfl:=osi h
  exact aL (cg (aJ rfl) (aJ rfl)) bz ⟨rfl,rfl⟩
 refine ah ?_
 refine de h fun x4 hx4 h=>ap [0,0] ((rg 25 6)++[24,31,32]) [(8,pU x4.1),(9,pU x4.2)] (bg 5 (rC hx4) bm) (by kernel_rfl) (cq (aa h fun x5 hx5 h=>ap [] (rg 33 5) [(38,pB (!x5))] (bg 4 (uf hx5) bm) (by kernel_rfl) (cS rfl h (fun hc6 h=>?_) fun hc6 h=>?_)))
 ·refine ae ?_
  refine ai [39] [(6,pU x4.1),(7,pI 0)] (by kernel_rfl) (cU (am ?_))
  obtain rfl:=osi h
  exact aL (cg (aJ rfl) (aJ rfl)) bz ⟨rfl,rfl⟩
 refine ah ?_
 refine cq (bC [40] [(41,pB (x4.1 == 18446744073709551615))] (by kernel_rfl) rfl h (fun hc7 h=>?_) fun hc7 h=>?_)
 ·refine ae ?_
  refine dl [(6,pU 0),(7,pI 3)] (by kernel_rfl) (am ?_)
  obtain rfl:=osi h
  exact aL (cg (aJ rfl) (aJ rfl)) bz ⟨rfl,rfl⟩
 refine ah ?_
 refine bY (ai [42,43] [(6,pU (IntKind.u64.wrap (x4.1+1))),(7,pI 0)] (by kernel_rfl) (cU ?_))
 obtain rfl:=osi h
 exact aL (cg (aJ rfl) (aJ rfl)) bz ⟨rfl,rfl⟩
def im (p0:Int) (p1:Int):Option (Int×Int):=lb ((IntKind.u64.wrap ((dD .u64 p0 4294967295)*(dD .u64 p1 4294967295)))) (fun w1=>lb ((IntKind.u64.wrap ((IntKind.u64.wrap ((cu .u64 p0 32)*(dD .u64 p1 4294967295)))+(cu .u64 w1 32)))) (fun w2=>lb ((IntKind.u64.wrap ((dD .u64 w2 4294967295)+(IntKind.u64.wrap ((dD .u64 p0 4294967295)*(cu .u64 p1 32)))))) (fun w3=>lb ((IntKind.u64.wrap ((IntKind.u64.wrap ((IntKind.u64.wrap ((cu .u64 p0 32)*(cu .u64 p1 32)))+(cu .u64 w2 32)))+(cu .u64 w3 32)))) (fun w4=>some (w4,(IntKind.u64.wrap (p0*p1)))))))
theorem rD {p0:Int} {p1:Int} {r:(Int×Int)}  (h:im p0 p1=some r):PF 202 [pU p0,pU p1] (.tup [pU r.1,pU r.2]):=by
 unfold im at h
 refine bd ?_
 refine du Tryz.func202 rfl Tryz.ntmps202 Tryz.results202 rfl (aV [4,5] (by kernel_rfl) (bY (ai [14,15] [(6,pU (dD .u64 p0 4294967295))] (by kernel_rfl) (bY (ai [16,17] [(7,pU (cu .u64 p0 32))] (by kernel_rfl) (bY (ai [18,19] [(8,pU (dD .u64 p1 4294967295))] (by kernel_rfl) (bY (ai [20,21] [(9,pU (cu .u64 p1 32))] (by kernel_rfl) (bY ?_))))))))))
 refine eZ h ?_;clear h;intro w1 hw1 h
 refine af (cB 3 [22,23] [(24,pU (IntKind.u64.wrap ((dD .u64 p0 4294967295)*(dD .u64 p1 4294967295))))] (by kernel_rfl) (cb rfl rfl rfl (bW rfl (.p (congrArg (fun z=>PV.v (Value.int .u64 z)) hw1))) (aG (bY ?_))))
 refine eZ h ?_;clear h;intro w2 hw2 h
 refine af (cB 6 (rg 25 5) [(30,pU (IntKind.u64.wrap ((IntKind.u64.wrap ((cu .u64 p0 32)*(dD .u64 p1 4294967295)))+(cu .u64 w1 32))))] (by kernel_rfl) (cb rfl rfl rfl (bW rfl (.p (congrArg (fun z=>PV.v (Value.int .u64 z)) hw2))) (aG (bY (ai [31,32] [(12,pU (dD .u64 w2 4294967295))] (by kernel_rfl) (bY (ai [33,34] [(13,pU (cu .u64 w2 32))] (by kernel_rfl) (bY ?_))))))))
 refine eZ h ?_;clear h;intro w3 hw3 h
 refine af (cB 5 [35,36,37,38] [(39,pU (IntKind.u64.wrap ((dD .u64 w2 4294967295)+(IntKind.u64.wrap ((dD .u64 p0 4294967295)*(cu .u64 p1 32))))))] (by kernel_rfl) (cb rfl rfl rfl (bW rfl (.p (congrArg (fun z=>PV.v (Value.int .u64 z)) hw3))) (aG (bY ?_))))
 refine eZ h ?_;clear h;intro w4 hw4 h
 refine af (cB 8 (rg 40 7) [(47,pU (IntKind.u64.wrap ((IntKind.u64.wrap ((IntKind.u64.wrap ((cu .u64 p0 32)*(cu .u64 p1 32)))+(cu .u64 w2 32)))+(cu .u64 w3 32))))] (by kernel_rfl) (cb rfl rfl rfl (bW rfl (.p (congrArg (fun z=>PV.v (Value.int .u64 z)) hw4))) (aG (bY (ai [48,49,50] [(5,pU (IntKind.u64.wrap (p0*p1)))] (by kernel_rfl) (cU ?_))))))
 obtain rfl:=osi h
 exact aL (cg (aJ rfl) (aJ rfl)) bz ⟨rfl,rfl⟩
def jR (p0:Int) (p1:Int):Option Zo:=(im p0 p1).bind fun x2=>some (⟨x2.1,x2.2⟩:Zo)
theorem oL {p0:Int} {p1:Int} {r:Zo}  (h:jR p0 p1=some r):PF 172 [pU p0,pU p1] (.agg [pU r.Hi,pU r.Lo]):=by
 unfold jR at h
 refine bd ?_
 refine du Tryz.func172 rfl Tryz.ntmps172 Tryz.results172 rfl (dc rfl (aM (cs:=[pU 0,pU 0]) rfl rfl rfl rfl (fun b1=>aG (de h fun x2 hx2 h=>ap [] [8,9,10,7,11,12] [(5,pU x2.1),(6,pU x2.2)] (bg 2 (rD hx2) bm) (by kernel_rfl) (bY (af (cB 3 [13,14] [(15,.agg [pU x2.1,pU x2.2])] (by kernel_rfl) (aP rfl rfl (ak (vs:=[pU x2.1,pU x2.2]) rfl rfl rfl rfl rfl ca sE (aG (cU ?_)))))))))))
 obtain rfl:=osi h
 exact aL (cZ (dL rfl e7 rfl)) bz ⟨rfl,rfl⟩
def my (p0:Int) (p1:Int) (p2:Int) (p3:Int):Option (Int×Int):=(jR p0 p1).bind fun x1=>(n8 x1 p2 p3).bind fun x2=>some (x2.1,x2.2)
theorem ug {p0:Int} {p1:Int} {p2:Int} {p3:Int} {r:(Int×Int)}  (h:my p0 p1 p2 p3=some r):PF 141 [pU p0,pU p1,pU p2,pI p3] (.tup [pU r.1,pI r.2]):=by
 unfold my at h
 refine bd ?_
 refine du Tryz.func141 rfl Tryz.ntmps141 Tryz.results141 rfl (aV [8,9] (by kernel_rfl) (de h fun x1 hx1 h=>aa h fun x2 hx2 h=>ap [] (rg 10 8) [(8,pU x2.1),(9,pI x2.2)] (bg 2 (oL hx1) (bg 5 (yx hx2) bm)) (by kernel_rfl) (cU ?_)))
 obtain rfl:=osi h
 exact aL (cg (aJ rfl) (aJ rfl)) bz ⟨rfl,rfl⟩
def fQ (p0:Int) (p1:Int) (p2:Int):Option Int:=(my (IntKind.u64.wrap p0) (IntKind.u64.wrap p1) (IntKind.u64.wrap p2) 1).bind fun x1=>cond ((x1.2 != 0)||(decide (1000000000000<x1.1))) (some (1000000000000:Int)) (some (IntKind.i64.wrap x1.1))
theorem py {p0:Int} {p1:Int} {p2:Int} {r:Int}  (h:fQ p0 p1 p2=some r):PF 99 [pI p0,pI p1,pI p2] (pI r):=by
 unfold fQ at h
 refine bd ?_
 refine du Tryz.func99 rfl Tryz.ntmps99 Tryz.results99 rfl (aV [6] (by kernel_rfl) (de h fun x1 hx1 h=>ap [] ((rg 10 7)++[9,17,18]) [(7,pU x1.1),(8,pI x1.2)] (bg 6 (ug hx1) bm) (by kernel_rfl) (cq (bC (rg 19 5) [(24,pB ((x1.2 != 0)||(decide (1000000000000<x1.1))))] (by kernel_rfl) rfl h (fun hc2 h=>?_) fun hc2 h=>?_))))
 ·refine ae ?_
  refine dl [(6,pI 1000000000000)] (by kernel_rfl) (am ?_)
  exact zz r h rfl
 refine ah ?_
 refine bY (ai [25,26] [(6,pI (IntKind.i64.wrap x1.1))] (by kernel_rfl) (cU ?_))
 exact zz r h rfl
def kY (p0:(List Int)):Option Int:=(aU (S:=Int) (T:=(Unit)⊕(_)) (fun v1=>cond (decide (v1<(p0.length:Int))) ((idx p0 v1).bind fun m5=>cond (m5 != 0) (some (.inr (.inr m5))) (some (.inl (IntKind.i64.wrap (v1+1))))) (some (.inr (.inl ())))) FUEL 0).bind fun q=>match q with | .inl _=>some (0:Int) | .inr e=>some e
theorem ri {p0:(List Int)} {r:Int}  (h:kY p0=some r):PF 102 [pL eI p0] (pI r):=by
 unfold kY at h
 refine bd ?_
 refine du Tryz.func102 rfl Tryz.ntmps102 Tryz.results102 rfl (aV [2] (by kernel_rfl) (bY (al [(3,pI 0)] (by kernel_rfl) (cq (al [(6,pL eI p0),(7,pI (p0.length:Int)),(8,pI 0)] (by kernel_rfl) (fz h fun q3 hq3 h=>?_))))))
 refine aq (Y:=Unit×Unit) (fun (_,_)=>[(3,pI 0)]) (fun (_,_)=>[]) (fun (_,_)=>q3=Sum.inl ()) ?_ ?_
 ·refine aA ?_
  refine aD (Y:=Unit) (S:=Int) _ hq3 (fun _ v1=>[(3,pI 0),(6,pL eI p0),(7,pI (p0.length:Int)),(8,pI v1)]) (fun _ v1=>[]) () (jf rfl) bz ?_
  rintro _ v1 o τ hb2;(try dsimp only at hb2);dsimp only [aw]
  refine ae (al [(9,pB (decide (v1<(p0.length:Int))))] (by kernel_rfl) (bY (kK rfl hb2 (fun hc4 hb2=>?_) fun hc4 hb2=>?_)))
  ·refine ah ?_
   refine dN (aa hb2 fun m5 hm5 hb2=>ap [] [10,11] [(5,pI m5)] (cO 0 eI hm5 bm) (by kernel_rfl) (bY (bC [12,13] [(14,pB (m5 != 0))] (by kernel_rfl) rfl hb2 (fun hc6 hb2=>?_) fun hc6 hb2=>?_)))
   ·refine ae ?_
    refine ai [15] [(2,pI m5)] (by kernel_rfl) (cU (dI ?_))
    refine au hb2 (fun ht=>?_);subst ht
    refine cK ?_
    exact zz r h rfl
   refine ah ?_
   refine dX (ai [16] [(8,pI (IntKind.i64.wrap (v1+1)))] (by kernel_rfl) ?_)
   exact aT hb2 () (jf rfl) bz
  refine aH ?_
  refine cx hb2 (fun ht=>aj rfl ?_)
  exact av ((),()) (re rfl) bz ht.symm
 rintro ⟨_,_⟩ τ hz;(try dsimp only at hz);subst q3;(try dsimp only at h);dsimp only [aw]
 refine ae (ai [17] [(2,pI 0)] (by kernel_rfl) (cU ?_))
 exact zz r h rfl
def e8 (p0:Za) (p1:Za):Option Int:=(dS p0.Product p1.Product).bind fun x3=>(dS p0.Agreement p1.Agreement).bind fun x4=>(kY [x3,x4]).bind fun x6=>some x6
theorem mz {p0:Za} {p1:Za} {r:Int}  (h:e8 p0 p1=some r):PF 50 [.agg [pI p0.Product,pI p0.Agreement],.agg [pI p1.Product,pI p1.Agreement]] (pI r):=by
 unfold e8 at h
 refine bd ?_
 refine du Tryz.func50 rfl Tryz.ntmps50 Tryz.results50 rfl (dc rfl (bh (cs:=[pI p0.Product,pI p0.Agreement]) rfl rfl (fun b1=>an rfl (bh (cs:=[pI p1.Product,pI p1.Agreement]) rfl rfl (fun b2=>ba [4] (by kernel_rfl) (bY (bk (ρd:=[]) [(0,0),(1,0),(2,0),(3,0),(5,0),(6,0),(7,0),(8,0),(4,1),(9,1),(10,1),(11,1),(12,0)] _ (List.Perm.refl _) (by kernel_rfl) rfl (aa h fun x3 hx3 h=>aa h fun x4 hx4 h=>br 10 [1,0,1,0] [5,6,7,8,10,11,12,13] [(9,pI x3),(14,pI x4)] (bg 8 (fO hx3) (bg 9 (fO hx4) bm)) (by kernel_rfl) ?_))))))))
 refine hC rfl rfl rfl (pl_fz (bG rfl rfl rfl rfl rfl (gG rfl (gG rfl jl)) rfl rfl rfl rfl (fun b5=>⟨_,_,_,_,_,_,_,rfl,by (repeat (first | exact aO | apply aC)),?_⟩)))
 refine aa h fun x6 hx6 h=>br 2 [] [16] [(4,pI x6)] (bg 0 (ri hx6) bm) (by kernel_rfl) (bv (cU ?_))
 exact zz r h rfl
def bA (p0:(List Za)):Option (List Za):=cond (decide (((p0.length:Nat):Int)<2)) (some p0) ((aU (S:=Int) (T:=(Unit)⊕(_)) (fun v2=>cond (decide (v2<((p0.length:Nat):Int))) ((idx p0 v2).bind fun m7=>(idx p0 (IntKind.i64.wrap (v2 - 1))).bind fun m8=>cond (Za.eqb m7 m8) ((sub p0 v2 (p0.length:Int)).bind fun l10=>(aU (S:=(List Za)×Int×Int) (T:=((List Za)×Int)) (fun (l12,v13,v14)=>cond (decide (v14<((p0.length - v2.toNat:Nat):Int))) (((lB v14).bind fun u25=>(idx l12 (v2+v14)).bind fun m26=>(lB (IntKind.i64.wrap (v14 - 1))).bind fun u27=>(idx l12 (v2+(IntKind.i64.wrap (v14 - 1)))).bind fun m28=>cond (!(Za.eqb m26 m28)) ((lB v14).bind fun u30=>(idx l12 (v2+v14)).bind fun m31=>(idx l12 v13).bind fun m32=>some ((l12.set v13.toNat m31),(IntKind.i64.wrap (v13+1)))) (some (l12,v13))).bind fun (l22,v23)=>some (.inl (l22,v23,(IntKind.i64.wrap (v14+1))))) (some (.inr (l12,v13)))) FUEL (p0,v2,1)).bind fun (l16,v17)=>(sub l16 v17 (l16.length:Int)).bind fun l34=>(sub (List.take v17.toNat l16++List.replicate (p0.length - v17.toNat) (⟨(0:Int),(0:Int)⟩:Za)) 0 v17).bind fun l35=>some (.inr (.inr l35))) (some (.inl (IntKind.i64.wrap (v2+1))))) (some (.inr (.inl ())))) FUEL 1).bind fun q=>match q with | .inl _=>some p0 | .inr e=>some e)
theorem f9 {p0:(List Za)} {a_0:Option Addr}  {n_0:Nat}  {c_0:Nat} {r:(List Za)}  (h:bA p0=some r):PCall 51 [.v (.slice a_0 n_0 c_0)] [PRes.row a_0 n_0 c_0 28 2 (List.map Za.enc p0)] (fun pv ρ'=>∃ a c,pv=.v (.slice a r.length c)∧ρ'=[PRes.row a r.length c 28 2 (List.map Za.enc r)]):=by
 unfold bA at h
 refine oH Tryz.func51 rfl Tryz.ntmps51 Tryz.results51 rfl ?_
 refine nt (enc:=Za.enc) (xs:=p0) (a:=a_0) e7 (fun hl ha=>?_);subst hl;clear ha
 refine ae (aV [2] (by kernel_rfl) (cq (bC [6,7] [(8,pB (decide (((p0.length:Nat):Int)<2)))] (by kernel_rfl) rfl h (fun hc1 h=>?_) fun hc1 h=>?_)))
 ·refine ae ?_
  refine ai [9] [(2,pO a_0 p0.length c_0)] (by kernel_rfl) (cU (am ?_))
  obtain rfl:=osi h
  exact aL (cZ (aJ rfl)) cJ ⟨_,_,rfl,rfl⟩
 refine ah ?_
 refine cq (al [(3,pI 1)] (by kernel_rfl) (fz h fun q5 hq5 h=>?_))
 refine aq (Y:=Unit×Unit) (fun (_,_)=>[(0,pO a_0 p0.length c_0)]) (fun (_,_)=>[PRes.row a_0 p0.length c_0 28 2 (List.map Za.enc p0)]) (fun (_,_)=>q5=Sum.inl ()) ?_ ?_
 ·refine aA ?_
  refine aD (Y:=Unit) (S:=Int) _ hq5 (fun _ v2=>[(0,pO a_0 p0.length c_0),(3,pI v2)]) (fun _ v2=>[PRes.row a_0 p0.length c_0 28 2 (List.map Za.enc p0)]) () (mK rfl) cJ ?_
  rintro _ v2 o τ hb4;(try dsimp only at hb4);dsimp only [aw]
  refine dm (bC [10,11,12] [(13,pB (decide (v2<((p0.length:Nat):Int))))] (by kernel_rfl) rfl hb4 (fun hc6 hb4=>?_) fun hc6 hb4=>?_)
  ·refine ah ?_
   refine dN (bk (ρd:=[]) [(0,0),(1,0),(2,0),(3,0),(4,0),(5,0),(6,0),(7,0),(8,0),(9,0)] _ (List.Perm.refl _) (by kernel_rfl) rfl (aa hb4 fun m7 hm7 hb4=>ij 2 [(16,pO a_0 p0.length c_0),(17,pI v2)] (by kernel_rfl) (kJ rfl rfl rfl (eP (enc:=Za.enc) (xs:=p0) rfl rfl rfl (.p rfl) e7 (.p rfl) (fun _=>hm7)) (kJ rfl rfl rfl (cR (sz:=2) (p:=.agg [pI m7.Product,pI m7.Agreement]) (enc:=Za.enc) (xs:=p0) (a:=a_0) v2 0 m7 rfl (.p rfl) rfl e7 (fun _=>hm7) rfl) (aa hb4 fun m8 hm8 hb4=>mV 3 [21] [(20,pO a_0 p0.length c_0),(22,pI (IntKind.i64.wrap (v2 - 1)))] (by kernel_rfl) (kJ rfl rfl rfl (eP (enc:=Za.enc) (xs:=p0) rfl rfl rfl (.p rfl) e7 (.p rfl) (fun _=>hm8)) (kJ rfl rfl rfl (cR (sz:=2) (p:=.agg [pI m8.Product,pI m8.Agreement]) (enc:=Za.enc) (xs:=p0) (a:=a_0) (IntKind.i64.wrap (v2 - 1)) 0 m8 rfl (.p rfl) rfl e7 (fun _=>hm8) rfl) (br 1 [] [] [(25,pB (Za.eqb m7 m8))] (Dn 0 Za.eqok28 bm) (by kernel_rfl) (bv (cS rfl hb4 (fun hc9 hb4=>?_) fun hc9 hb4=>?_))))))))))
   ·refine ae ?_
    refine aa hb4 fun l10 hl10 hb4=>af (aF 2 [(26,pO a_0 p0.length c_0),(27,pI v2)] (by kernel_rfl) (cb rfl rfl rfl (oJ (enc:=Za.enc) (xs:=p0) rfl rfl rfl rfl rfl e7 hl10) (aN [(4,pQ a_0 p0.length c_0 v2.toNat 2)] (by kernel_rfl) (cq (al [(5,pI 1)] (by kernel_rfl) (fz hb4 fun q19 hq19 hb4=>?_))))))
    refine aq (Y:=Unit×((List Za)×Int)) (fun (_,(l16,v17))=>[(0,pO a_0 p0.length c_0),(3,pI v17)]) (fun (_,(l16,v17))=>[PRes.row a_0 p0.length c_0 28 2 (List.map Za.enc l16)]) (fun (_,(l16,v17))=>q19=(l16,v17)) ?_ ?_
    ·refine aA ?_
     refine aD (Y:=Unit) (S:=(List Za)×Int×Int) _ hq19 (fun _ (l12,v13,v14)=>[(0,pO a_0 p0.length c_0),(3,pI v13),(4,pQ a_0 p0.length c_0 v2.toNat 2),(5,pI v14)]) (fun _ (l12,v13,v14)=>[PRes.row a_0 p0.length c_0 28 2 (List.map Za.enc l12)]) () (jf rfl) cJ ?_
     rintro _ ⟨l12,v13,v14⟩ o τ hb18;(try dsimp only at hb18);dsimp only [aw]
     refine dm (bC [29,30,31] [(32,pB (decide (v14<((p0.length - v2.toNat:Nat):Int))))] (by kernel_rfl) rfl hb18 (fun hc20 hb18=>?_) fun hc20 hb18=>?_)
     ·refine ah ?_
      refine de hb18 fun q24 hq24 hb18=>?_
      refine aq (Y:=Unit×((List Za)×Int)) (fun (_,(l22,v23))=>[(0,pO a_0 p0.length c_0),(3,pI v23),(4,pQ a_0 p0.length c_0 v2.toNat 2),(5,pI v14)]) (fun (_,(l22,v23))=>[PRes.row a_0 p0.length c_0 28 2 (List.map Za.enc l22)]) (fun (_,(l22,v23))=>q24=(l22,v23)) ?_ ?_
      ·skip
       refine pX (bk (ρd:=[]) [(0,0),(1,0),(2,0),(3,0),(4,0),(5,0),(6,0),(7,0),(8,0),(9,0)] _ (List.Perm.refl _) (by kernel_rfl) rfl (aa hq24 fun u25 hu25 hq24=>aa hq24 fun m26 hm26 hq24=>ij 2 [(35,pQ a_0 p0.length c_0 v2.toNat 2),(36,pI v14)] (by kernel_rfl) (kJ rfl rfl rfl (kV (enc:=Za.enc) (xs:=l12) (i:=v2) rfl rfl rfl rfl rfl (gM hl10).1.1 (mS hu25) e7 hm26) (kJ rfl rfl rfl (cR (sz:=2) (p:=.agg [pI m26.Product,pI m26.Agreement]) (enc:=Za.enc) (xs:=l12) (a:=a_0) (v2+v14) 0 m26 rfl (.p rfl) rfl e7 (fun _=>hm26) rfl) (aa hq24 fun u27 hu27 hq24=>aa hq24 fun m28 hm28 hq24=>mV 3 [40] [(39,pQ a_0 p0.length c_0 v2.toNat 2),(41,pI (IntKind.i64.wrap (v14 - 1)))] (by kernel_rfl) (kJ rfl rfl rfl (kV (enc:=Za.enc) (xs:=l12) (i:=v2) rfl rfl rfl rfl rfl (gM hl10).1.1 (mS hu27) e7 hm28) (kJ rfl rfl rfl (cR (sz:=2) (p:=.agg [pI m28.Product,pI m28.Agreement]) (enc:=Za.enc) (xs:=l12) (a:=a_0) (v2+(IntKind.i64.wrap (v14 - 1))) 0 m28 rfl (.p rfl) rfl e7 (fun _=>hm28) rfl) (br 1 [] [] [(44,pB (!(Za.eqb m26 m28)))] (Dn 0 Za.eqok28 bm) (by kernel_rfl) (bv (cS rfl hq24 (fun hc29 hq24=>?_) fun hc29 hq24=>?_))))))))))
       ·refine ae ?_
        refine aa hq24 fun u30 hu30 hq24=>aa hq24 fun m31 hm31 hq24=>af (aF 4 [(45,pO a_0 p0.length c_0),(46,pI v13),(47,pQ a_0 p0.length c_0 v2.toNat 2),(48,pI v14)] (by kernel_rfl) (cb rfl rfl rfl (kV (enc:=Za.enc) (xs:=l12) (i:=v2) rfl rfl rfl rfl rfl (gM hl10).1.1 (mS hu30) e7 hm31) (cb rfl rfl rfl (cR (sz:=2) (p:=.agg [pI m31.Product,pI m31.Agreement]) (enc:=Za.enc) (xs:=l12) (a:=a_0) (v2+v14) 0 m31 rfl (.p rfl) rfl e7 (fun _=>hm31) rfl) (aa hq24 fun m32 hm32 hq24=>cb rfl rfl rfl (eP (enc:=Za.enc) (xs:=l12) rfl rfl rfl (.p rfl) e7 (.p rfl) (fun _=>hm32)) (aP rfl rfl (iN (enc:=Za.enc) (xs:=l12) (a:=a_0) v13 0 m32 m31 rfl rfl rfl rfl (fun _=>rfl) rfl rfl hm32 sE ca (aG (aY (ai [52,53] [(3,pI (IntKind.i64.wrap (v13+1)))] (by kernel_rfl) (aB ?_))))))))))
        obtain rfl:=osi hq24
        exact av ((),((l12.set v13.toNat m31),(IntKind.i64.wrap (v13+1)))) (jf rfl) cJ rfl
       refine ah ?_
       refine aB ?_
       obtain rfl:=osi hq24
       exact av ((),(l12,v13)) (jf rfl) cJ rfl
      rintro ⟨_,⟨l22,v23⟩⟩ τ hz;(try dsimp only at hz);subst q24;(try dsimp only at hb18);dsimp only [aw]
      refine ai [33,34] [(5,pI (IntKind.i64.wrap (v14+1)))] (by kernel_rfl) ?_
      exact aT hb18 () (jf rfl) cJ
     refine aH ?_
     refine cx hb18 (fun ht=>aj rfl ?_)
     exact av ((),(l12,v13)) (mK rfl) cJ ht.symm
    rintro ⟨_,⟨l16,v17⟩⟩ τ hz;(try dsimp only at hz);subst q19;(try dsimp only at hb4);dsimp only [aw]
    refine ae (aa hb4 fun l34 hl34 hb4=>af (aF 2 [(54,pO a_0 p0.length c_0),(55,pI v17)] (by kernel_rfl) (cb rfl rfl rfl (oJ (enc:=Za.enc) (xs:=l16) rfl rfl rfl rfl rfl e7 hl34) (aP rfl rfl (xk (enc:=Za.enc) (xs:=l16) (z0:=(⟨(0:Int),(0:Int)⟩:Za)) (i:=v17) rfl rfl rfl rfl hl34 rfl rfl rfl rfl ca (aG (de hb4 fun l35 hl35 hb4=>af (aF 2 [(57,pO a_0 p0.length c_0),(58,pI v17)] (by kernel_rfl) ?_))))))))
    refine an rfl (xj (enc:=Za.enc) (xs:=(List.take v17.toNat l16++List.replicate (p0.length - v17.toNat) (⟨(0:Int),(0:Int)⟩:Za))) rfl rfl rfl rfl rfl (by exact aO) hl35 ?_)
    refine aN [(2,pO a_0 l35.length c_0)] (by kernel_rfl) (cU (dI ?_))
    refine au hb4 (fun ht=>?_);subst ht
    refine cK ?_
    obtain rfl:=osi h
    exact aL (cZ (aJ rfl)) cJ ⟨_,_,rfl,rfl⟩
   refine ah ?_
   refine dX (ai [14,15] [(3,pI (IntKind.i64.wrap (v2+1)))] (by kernel_rfl) ?_)
   exact aT hb4 () (mK rfl) cJ
  refine aH ?_
  refine cx hb4 (fun ht=>aj rfl ?_)
  exact av ((),()) (re rfl) cJ ht.symm
 rintro ⟨_,_⟩ τ hz;(try dsimp only at hz);subst q5;(try dsimp only at h);dsimp only [aw]
 refine ae (ai [60] [(2,pO a_0 p0.length c_0)] (by kernel_rfl) (cU ?_))
 obtain rfl:=osi h
 exact aL (cZ (aJ rfl)) cJ ⟨_,_,rfl,rfl⟩
def gQ (p0:Zq):Option Zk:=some p0.use
theorem mZ {p0:Zq} {r:Zk}  (h:gQ p0=some r):PF 240 [.agg [pS p0.use.Code,pI p0.use.Value,pB p0.use.Originating,pI p0.premise.Product,pI p0.premise.Agreement]] (.agg [pS r.Code,pI r.Value,pB r.Originating]):=by
 unfold gQ at h
 refine bd ?_
 refine du Tryz.func240 rfl Tryz.ntmps240 Tryz.results240 rfl (dc rfl (bh (cs:=[pS p0.use.Code,pI p0.use.Value,pB p0.use.Originating,pI p0.premise.Product,pI p0.premise.Agreement]) rfl rfl (fun b1=>an rfl (aM (cs:=[pS ByteArray.empty,pI 0,pB false]) rfl rfl rfl rfl (fun b2=>aG (bY (af (cG 2 [1] [3] [(4,.agg [pS p0.use.Code,pI p0.use.Value,pB p0.use.Originating])] (by kernel_rfl) (aP rfl rfl (ak (vs:=[pS p0.use.Code,pI p0.use.Value,pB p0.use.Originating]) rfl rfl rfl rfl rfl ca zl3 (aG (cU ?_))))))))))))
 obtain rfl:=osi h
 exact aL (cZ (dL rfl e7 rfl)) bz ⟨rfl,rfl⟩
def hX (p0:Zt):Option Zk:=some p0.use
theorem np {p0:Zt} {r:Zk}  (h:hX p0=some r):PF 241 [.agg [pS p0.use.Code,pI p0.use.Value,pB p0.use.Originating]] (.agg [pS r.Code,pI r.Value,pB r.Originating]):=by
 unfold hX at h
 refine bd ?_
 refine du Tryz.func241 rfl Tryz.ntmps241 Tryz.results241 rfl (dc rfl (bh (cs:=[pS p0.use.Code,pI p0.use.Value,pB p0.use.Originating]) rfl rfl (fun b1=>an rfl (aM (cs:=[pS ByteArray.empty,pI 0,pB false]) rfl rfl rfl rfl (fun b2=>aG (bY (af (cG 2 [1] [3] [(4,.agg [pS p0.use.Code,pI p0.use.Value,pB p0.use.Originating])] (by kernel_rfl) (aP rfl rfl (ak (vs:=[pS p0.use.Code,pI p0.use.Value,pB p0.use.Originating]) rfl rfl rfl rfl rfl ca zl3 (aG (cU ?_))))))))))))
 obtain rfl:=osi h
 exact aL (cZ (dL rfl e7 rfl)) bz ⟨rfl,rfl⟩
def Icumulation_supply_input (x:Ze)  : Option Zk:=match x with | .plain_ a=>hX a  | .proved_ a=>gQ a
theorem Icumulation_supply_input_ok {x:Ze}  {w:Zk} (h:Icumulation_supply_input x  = some w):PFI x.pv "customs/cumulation.input" [] (.agg [pS w.Code,pI w.Value,pB w.Originating]):=by
 cases x with
 | plain_ a=>exact vi ⟨fun _ _=>by kernel_rfl⟩ (np h)
 | proved_ a=>exact vi ⟨fun _ _=>by kernel_rfl⟩ (mZ h)
def eR (p0:(List Zc)) (p1:Int):Option (Zc×Bool):=(aU (S:=Int) (T:=(Unit)⊕(_)) (fun v2=>cond (decide (v2<(p0.length:Int))) ((idx p0 v2).bind fun m6=>cond (m6.ID == p1) ((idx p0 v2).bind fun m8=>some (.inr (.inr (m8,true)))) (some (.inl (IntKind.i64.wrap (v2+1))))) (some (.inr (.inl ())))) FUEL 0).bind fun q=>match q with | .inl _=>some ((⟨0,ByteArray.empty,ByteArray.empty,0,false,[],[]⟩:Zc),false) | .inr e=>some e
theorem iz {p0:(List Zc)} {p1:Int} {r:(Zc×Bool)}  (h:eR p0 p1=some r):PF 53 [pL Zc.enc p0,pI p1] (.tup [.agg (aK r.1),pB r.2]):=by
 unfold eR at h
 refine bd ?_
 refine du Tryz.func53 rfl Tryz.ntmps53 Tryz.results53 rfl (dc rfl (aM (cs:=[pI 0,pS ByteArray.empty,pS ByteArray.empty,pI 0,pB false,pN,pN]) rfl rfl rfl rfl (fun b1=>ba [5] (by kernel_rfl) (cq (al [(6,pI 0)] (by kernel_rfl) (fz h fun q4 hq4 h=>?_))))))
 refine aq (Y:=Unit×Unit) (fun (_,_)=>[(4,pP b1 0)]) (fun (_,_)=>[PRes.b b1 76 [pI 0,pS ByteArray.empty,pS ByteArray.empty,pI 0,pB false,pN,pN]]) (fun (_,_)=>q4=Sum.inl ()) ?_ ?_
 ·refine aA ?_
  refine aD (Y:=Unit) (S:=Int) _ hq4 (fun _ v2=>[(0,pL Zc.enc p0),(1,pI p1),(4,pP b1 0),(6,pI v2)]) (fun _ v2=>[PRes.b b1 76 [pI 0,pS ByteArray.empty,pS ByteArray.empty,pI 0,pB false,pN,pN]]) () (jf rfl) cJ ?_
  rintro _ v2 o τ hb3;(try dsimp only at hb3);dsimp only [aw]
  refine dm (bC [7,8,9] [(10,pB (decide (v2<(p0.length:Int))))] (by kernel_rfl) rfl hb3 (fun hc5 hb3=>?_) fun hc5 hb3=>?_)
  ·refine ah ?_
   refine dN (aa hb3 fun m6 hm6 hb3=>ap [] (rg 13 6) [(19,pB (m6.ID == p1))] (cO 2 Zc.enc hm6 bm) (by kernel_rfl) (cS rfl hb3 (fun hc7 hb3=>?_) fun hc7 hb3=>?_))
   ·refine ae ?_
    refine aa hb3 fun m8 hm8 hb3=>af (aS 4 [] [20,21,22] [(23,.agg (aK m8))] (cO 2 Zc.enc hm8 bm) (by kernel_rfl) (aP rfl rfl (ak (vs:=(aK m8)) rfl rfl rfl rfl rfl ca nj (aN [(5,pB true)] (by kernel_rfl) (cU (dI ?_))))))
    refine au hb3 (fun ht=>?_);subst ht
    refine cK ?_
    obtain rfl:=osi h
    exact aL (cg (dL rfl e7 rfl) (aJ rfl)) bz ⟨rfl,rfl⟩
   refine ah ?_
   refine dX (ai [11,12] [(6,pI (IntKind.i64.wrap (v2+1)))] (by kernel_rfl) ?_)
   exact aT hb3 () (jf rfl) cJ
  refine aH ?_
  refine cx hb3 (fun ht=>aj rfl ?_)
  exact av ((),()) (re rfl) cJ ht.symm
 rintro ⟨_,_⟩ τ hz;(try dsimp only at hz);subst q4;(try dsimp only at h);dsimp only [aw]
 refine ae (af (aF 1 [(24,.agg [pI 0,pS ByteArray.empty,pS ByteArray.empty,pI 0,pB false,pN,pN])] (by kernel_rfl) (aP rfl rfl (ak (vs:=[pI 0,pS ByteArray.empty,pS ByteArray.empty,pI 0,pB false,pN,pN]) rfl rfl rfl rfl rfl ca nj (aN [(5,pB false)] (by kernel_rfl) (aY (cV (k:=5) (b:=b1) rfl ca (cV (k:=6) (b:=b1) rfl ca (bV ?_)))))))))
 obtain rfl:=osi h
 exact aL (cg (dL rfl e7 rfl) (aJ rfl)) bz ⟨rfl,rfl⟩
def dV (p0:(List Zb)) (p1:Int):Option (Zb×Bool):=(aU (S:=Int) (T:=(Unit)⊕(_)) (fun v2=>cond (decide (v2<(p0.length:Int))) ((idx p0 v2).bind fun m6=>cond (m6.ID == p1) ((idx p0 v2).bind fun m8=>some (.inr (.inr (m8,true)))) (some (.inl (IntKind.i64.wrap (v2+1))))) (some (.inr (.inl ())))) FUEL 0).bind fun q=>match q with | .inl _=>some ((⟨0,0,[],[]⟩:Zb),false) | .inr e=>some e
theorem hY {p0:(List Zb)} {p1:Int} {r:(Zb×Bool)}  (h:dV p0 p1=some r):PF 54 [pL Zb.enc p0,pI p1] (.tup [.agg (az r.1),pB r.2]):=by
 unfold dV at h
 refine bd ?_
 refine du Tryz.func54 rfl Tryz.ntmps54 Tryz.results54 rfl (dc rfl (aM (cs:=[pI 0,pI 0,pN,pN]) rfl rfl rfl rfl (fun b1=>ba [5] (by kernel_rfl) (cq (al [(6,pI 0)] (by kernel_rfl) (fz h fun q4 hq4 h=>?_))))))
 refine aq (Y:=Unit×Unit) (fun (_,_)=>[(4,pP b1 0)]) (fun (_,_)=>[PRes.b b1 81 [pI 0,pI 0,pN,pN]]) (fun (_,_)=>q4=Sum.inl ()) ?_ ?_
 ·refine aA ?_
  refine aD (Y:=Unit) (S:=Int) _ hq4 (fun _ v2=>[(0,pL Zb.enc p0),(1,pI p1),(4,pP b1 0),(6,pI v2)]) (fun _ v2=>[PRes.b b1 81 [pI 0,pI 0,pN,pN]]) () (jf rfl) cJ ?_
  rintro _ v2 o τ hb3;(try dsimp only at hb3);dsimp only [aw]
  refine dm (bC [7,8,9] [(10,pB (decide (v2<(p0.length:Int))))] (by kernel_rfl) rfl hb3 (fun hc5 hb3=>?_) fun hc5 hb3=>?_)
  ·refine ah ?_
   refine dN (aa hb3 fun m6 hm6 hb3=>ap [] (rg 13 6) [(19,pB (m6.ID == p1))] (cO 2 Zb.enc hm6 bm) (by kernel_rfl) (cS rfl hb3 (fun hc7 hb3=>?_) fun hc7 hb3=>?_))
   ·refine ae ?_
    refine aa hb3 fun m8 hm8 hb3=>af (aS 4 [] [20,21,22] [(23,.agg (az m8))] (cO 2 Zb.enc hm8 bm) (by kernel_rfl) (aP rfl rfl (ak (vs:=(az m8)) rfl rfl rfl rfl rfl ca tH (aN [(5,pB true)] (by kernel_rfl) (cU (dI ?_))))))
    refine au hb3 (fun ht=>?_);subst ht
    refine cK ?_
    obtain rfl:=osi h
    exact aL (cg (dL rfl e7 rfl) (aJ rfl)) bz ⟨rfl,rfl⟩
   refine ah ?_
   refine dX (ai [11,12] [(6,pI (IntKind.i64.wrap (v2+1)))] (by kernel_rfl) ?_)
   exact aT hb3 () (jf rfl) cJ
  refine aH ?_
  refine cx hb3 (fun ht=>aj rfl ?_)
  exact av ((),()) (re rfl) cJ ht.symm
 rintro ⟨_,_⟩ τ hz;(try dsimp only at hz);subst q4;(try dsimp only at h);dsimp only [aw]
 refine ae (af (aF 1 [(24,.agg [pI 0,pI 0,pN,pN])] (by kernel_rfl) (aP rfl rfl (ak (vs:=[pI 0,pI 0,pN,pN]) rfl rfl rfl rfl rfl ca tH (aN [(5,pB false)] (by kernel_rfl) (aY (cV (k:=2) (b:=b1) rfl ca (cV (k:=3) (b:=b1) rfl ca (bV ?_)))))))))
 obtain rfl:=osi h
 exact aL (cg (dL rfl e7 rfl) (aJ rfl)) bz ⟨rfl,rfl⟩
def iA (p0:(List ByteArray)) (p1:ByteArray):Option Bool:=(aU (S:=Int) (T:=(Unit)⊕(_)) (fun v1=>cond (decide (v1<(p0.length:Int))) ((idx p0 v1).bind fun m5=>cond (decide (m5=p1)) (some (.inr (.inr true))) (some (.inl (IntKind.i64.wrap (v1+1))))) (some (.inr (.inl ())))) FUEL 0).bind fun q=>match q with | .inl _=>some false | .inr e=>some e
theorem i5 {p0:(List ByteArray)} {p1:ByteArray} {r:Bool}  (h:iA p0 p1=some r):PF 56 [pL eS p0,pS p1] (pB r):=by
 unfold iA at h
 refine bd ?_
 refine du Tryz.func56 rfl Tryz.ntmps56 Tryz.results56 rfl (aV [4] (by kernel_rfl) (cq (al [(5,pI 0)] (by kernel_rfl) (fz h fun q3 hq3 h=>?_))))
 refine aq (Y:=Unit×Unit) (fun (_,_)=>[]) (fun (_,_)=>[]) (fun (_,_)=>q3=Sum.inl ()) ?_ ?_
 ·refine aA ?_
  refine aD (Y:=Unit) (S:=Int) _ hq3 (fun _ v1=>[(0,pL eS p0),(1,pS p1),(5,pI v1)]) (fun _ v1=>[]) () (lR rfl) bz ?_
  rintro _ v1 o τ hb2;(try dsimp only at hb2);dsimp only [aw]
  refine dm (bC [6,7,8] [(9,pB (decide (v1<(p0.length:Int))))] (by kernel_rfl) rfl hb2 (fun hc4 hb2=>?_) fun hc4 hb2=>?_)
  ·refine ah ?_
   refine dN (aa hb2 fun m5 hm5 hb2=>ap [] (rg 12 5) [(17,pB (decide (m5=p1)))] (cO 2 eS hm5 bm) (by kernel_rfl) (cS rfl hb2 (fun hc6 hb2=>?_) fun hc6 hb2=>?_))
   ·refine ae ?_
    refine dl [(4,pB true)] (by kernel_rfl) (dI ?_)
    refine au hb2 (fun ht=>?_);subst ht
    refine cK ?_
    exact zz r h rfl
   refine ah ?_
   refine dX (ai [10,11] [(5,pI (IntKind.i64.wrap (v1+1)))] (by kernel_rfl) ?_)
   exact aT hb2 () (lR rfl) bz
  refine aH ?_
  refine cx hb2 (fun ht=>aj rfl ?_)
  exact av ((),()) pg bz ht.symm
 rintro ⟨_,_⟩ τ hz;(try dsimp only at hz);subst q3;(try dsimp only at h);dsimp only [aw]
 refine ae (dl [(4,pB false)] (by kernel_rfl) ?_)
 exact zz r h rfl
def hZ (p0:ByteArray) (p1:ByteArray):Option Bool:=(gd (decide ((p1.size:Int)≤(p0.size:Int))) (kg p0 0 (p1.size:Int))).bind fun s1=>some ((decide ((p1.size:Int)≤(p0.size:Int)))&&(decide (s1=p1)))
theorem pm {p0:ByteArray} {p1:ByteArray} {r:Bool}  (h:hZ p0 p1=some r):PF 116 [pS p0,pS p1] (pB r):=by
 unfold hZ at h
 refine bd ?_
 refine du Tryz.func116 rfl Tryz.ntmps116 Tryz.results116 rfl (aV [4] (by kernel_rfl) (de h fun s1 hs1 h=>ap [] (rg 5 13) [(4,pB ((decide ((p1.size:Int)≤(p0.size:Int)))&&(decide (s1=p1))))] (fossg 9 (cH hs1) bm) (by kernel_rfl) (cU ?_)))
 exact zz r h rfl
def e9 (p0:Zb) (p1:ByteArray):Option (Zd×Bool):=(aU (S:=Int×Int) (T:=(Int)) (fun (v3,v4)=>cond (decide (v4<(p0.Rules.length:Int))) (((idx p0.Rules v4).bind fun m11=>(hZ p1 m11.Prefix).bind fun x12=>(gd (x12&&(!(decide (v3<0)))) (idx p0.Rules v4)).bind fun m13=>(gd (x12&&(!(decide (v3<0)))) (idx p0.Rules v3)).bind fun m14=>cond (x12&&((decide (v3<0))||(decide ((m14.Prefix.size:Int)<(m13.Prefix.size:Int))))) (some v4) (some v3)).bind fun v9=>some (.inl (v9,(IntKind.i64.wrap (v4+1))))) (some (.inr v3))) FUEL ((-1),0)).bind fun v5=>cond (decide (v5<0)) (some ((⟨0,0,[],0,0,ByteArray.empty,[]⟩:Zd),false)) ((idx p0.Rules v5).bind fun m17=>some (m17.Rule,true))
theorem lU {p0:Zb} {p1:ByteArray} {r:(Zd×Bool)}  (h:e9 p0 p1=some r):PF 69 [.agg (az p0),pS p1] (.tup [.agg (ar r.1),pB r.2]):=by
 unfold e9 at h
 refine bd ?_
 refine du Tryz.func69 rfl Tryz.ntmps69 Tryz.results69 rfl (dc rfl (bh (cs:=(az p0)) rfl rfl (fun b1=>an rfl (aM (cs:=[pI 0,pI 0,pN,pI 0,pI 0,pS ByteArray.empty,pN]) rfl rfl rfl rfl (fun b2=>ba [5] (by kernel_rfl) (bY (al [(6,pI (-1))] (by kernel_rfl) (cq (al [(7,pI 0)] (by kernel_rfl) (fz h fun q7 hq7 h=>?_))))))))))
 refine aq (Y:=Unit×Int) (fun (_,v5)=>[(2,pP b1 0),(4,pP b2 0),(6,pI v5)]) (fun (_,v5)=>[PRes.b b1 81 (az p0),PRes.b b2 84 [pI 0,pI 0,pN,pI 0,pI 0,pS ByteArray.empty,pN]]) (fun (_,v5)=>q7=v5) ?_ ?_
 ·refine aA ?_
  refine aD (Y:=Unit) (S:=Int×Int) _ hq7 (fun _ (v3,v4)=>[(1,pS p1),(2,pP b1 0),(4,pP b2 0),(6,pI v3),(7,pI v4)]) (fun _ (v3,v4)=>[PRes.b b1 81 (az p0),PRes.b b2 84 [pI 0,pI 0,pN,pI 0,pI 0,pS ByteArray.empty,pN]]) () (nu rfl) (be (aC aO) cJ) ?_
  rintro _ ⟨v3,v4⟩ o τ hb6;(try dsimp only at hb6);dsimp only [aw]
  refine dm (aI [0] [8,9,10,11] [(12,pB (decide (v4<(p0.Rules.length:Int))))] (by kernel_rfl) (cS rfl hb6 (fun hc8 hb6=>?_) fun hc8 hb6=>?_))
  ·refine ah ?_
   refine de hb6 fun q10 hq10 hb6=>?_
   refine aq (Y:=Unit×Int) (fun (_,v9)=>[(1,pS p1),(2,pP b1 0),(4,pP b2 0),(6,pI v9),(7,pI v4)]) (fun (_,v9)=>[PRes.b b1 81 (az p0),PRes.b b2 84 [pI 0,pI 0,pN,pI 0,pI 0,pS ByteArray.empty,pN]]) (fun (_,v9)=>q10=v9) ?_ ?_
   ·skip
    refine pX (bk (ρd:=[]) [(0,0),(1,0),(2,0),(3,0),(4,0),(5,0),(6,0),(7,1),(8,0),(9,0),(10,0),(11,0),(12,0),(13,0),(14,0),(15,0),(16,0),(17,0),(18,0),(19,0),(20,0),(21,0),(22,0),(23,0),(24,0),(25,0),(26,0),(27,0),(28,0)] _ (List.Perm.refl _) (by kernel_rfl) rfl (aa hq10 fun m11 hm11 hq10=>aa hq10 fun x12 hx12 hq10=>aa hq10 fun m13 hm13 hq10=>aa hq10 fun m14 hm14 hq10=>br 29 [0,0,0] (rg 15 28) [(43,pB (x12&&((decide (v3<0))||(decide ((m14.Prefix.size:Int)<(m13.Prefix.size:Int))))))] (cO 4 Zi.enc hm11 (bg 7 (pm hx12) (eJ 15 Zi.enc (cH hm13) (eJ 22 Zi.enc (cH hm14) bm)))) (by kernel_rfl) (bv (cS rfl hq10 (fun hc15 hq10=>?_) fun hc15 hq10=>?_))))
    ·refine ai [44] [(6,pI v4)] (by kernel_rfl) ?_
     refine aB ?_
     obtain rfl:=osi hq10
     exact av ((),v4) (nu rfl) ni rfl
    refine ah ?_
    refine aB ?_
    obtain rfl:=osi hq10
    exact av ((),v3) (nu rfl) ni rfl
   rintro ⟨_,v9⟩ τ hz;(try dsimp only at hz);subst q10;(try dsimp only at hb6);dsimp only [aw]
   refine ai [13,14] [(7,pI (IntKind.i64.wrap (v4+1)))] (by kernel_rfl) ?_
   exact aT hb6 () (nu rfl) ni
  refine aH ?_
  refine cx hb6 (fun ht=>aj rfl ?_)
  exact av ((),v3) (lR rfl) ni ht.symm
 rintro ⟨_,v5⟩ τ hz;(try dsimp only at hz);subst q7;(try dsimp only at h);dsimp only [aw]
 refine dm (bC [45] [(46,pB (decide (v5<0)))] (by kernel_rfl) rfl h (fun hc16 h=>?_) fun hc16 h=>?_)
 ·refine ae ?_
  refine af (aF 1 [(47,.agg [pI 0,pI 0,pN,pI 0,pI 0,pS ByteArray.empty,pN])] (by kernel_rfl) (aP rfl rfl (ak (vs:=[pI 0,pI 0,pN,pI 0,pI 0,pS ByteArray.empty,pN]) rfl rfl rfl rfl rfl (dx ca) nj (aN [(5,pB false)] (by kernel_rfl) (aY (cV (k:=2) (b:=b2) rfl (dx ca) (cV (k:=6) (b:=b2) rfl (dx ca) (bV (am ?_)))))))))
  obtain rfl:=osi h
  exact aL (cg (dL rfl uz rfl) (aJ rfl)) bz ⟨rfl,rfl⟩
 refine ah ?_
 refine de h fun m17 hm17 h=>af (aS 6 [0] (rg 48 5) [(53,.agg (ar m17.Rule))] (cO 3 Zi.enc hm17 bm) (by kernel_rfl) (aP rfl rfl (ak (vs:=(ar m17.Rule)) rfl rfl rfl rfl rfl (dx ca) nj (aN [(5,pB true)] (by kernel_rfl) (cU ?_)))))
 obtain rfl:=osi h
 exact aL (cg (dL rfl uz rfl) (aJ rfl)) bz ⟨rfl,rfl⟩
def cY (p0:(List Zc)) (p1:(List Zb)) (p2:ByteArray) (p3:Za):Option Bool:=(eR p0 p3.Product).bind fun x2=>(dV p1 p3.Agreement).bind fun x4=>(e9 x4.1 x2.1.Code).bind fun x6=>(gd (((x2.2&&x4.2)&&x6.2)&&(!decide (x2.1.Country=p2))) (iA x4.1.Parties x2.1.Country)).bind fun x8=>(gd ((((x2.2&&x4.2)&&x6.2)&&(!decide (x2.1.Country=p2)))&&x8) (iA x4.1.Parties p2)).bind fun x9=>some (((((x2.2&&x4.2)&&x6.2)&&(!decide (x2.1.Country=p2)))&&x8)&&x9)
theorem jg {p0:(List Zc)} {p1:(List Zb)} {p2:ByteArray} {p3:Za} {r:Bool}  (h:cY p0 p1 p2 p3=some r):PF 52 [pL Zc.enc p0,pL Zb.enc p1,pS p2,.agg [pI p3.Product,pI p3.Agreement]] (pB r):=by
 unfold cY at h
 refine bd ?_
 refine du Tryz.func52 rfl Tryz.ntmps52 Tryz.results52 rfl (dc rfl (bh (cs:=[pI p3.Product,pI p3.Agreement]) rfl rfl (fun b1=>ba [8] (by kernel_rfl) (de h fun x2 hx2 h=>af (aS 7 [0] [16,17,18,19,15] [(20,.agg (aK x2.1)),(21,pB x2.2)] (bg 3 (iz hx2) bm) (by kernel_rfl) (an rfl (aM (cs:=[pI 0,pS ByteArray.empty,pS ByteArray.empty,pI 0,pB false,pN,pN]) rfl rfl rfl rfl (fun b3=>aP rfl rfl (ak (vs:=(aK x2.1)) rfl rfl rfl rfl rfl ca nj (aN [(10,pB x2.2)] (by kernel_rfl) (de h fun x4 hx4 h=>af (aS 7 [1] [23,24,25,26,22] [(27,.agg (az x4.1)),(28,pB x4.2)] (bg 3 (hY hx4) bm) (by kernel_rfl) (an rfl (aM (cs:=[pI 0,pI 0,pN,pN]) rfl rfl rfl rfl (fun b5=>aP rfl rfl (ak (vs:=(az x4.1)) rfl rfl rfl rfl rfl ca tH (aN [(12,pB x4.2)] (by kernel_rfl) (de h fun x6 hx6 h=>af (aS 7 [0,1] [30,31,32,33,29] [(34,.agg (ar x6.1)),(35,pB x6.2)] (bg 3 (lU hx6) bm) (by kernel_rfl) (an rfl (aM (cs:=[pI 0,pI 0,pN,pI 0,pI 0,pS ByteArray.empty,pN]) rfl rfl rfl rfl (fun b7=>aP rfl rfl (ak (vs:=(ar x6.1)) rfl rfl rfl rfl rfl ca nj (aN [(14,pB x6.2)] (by kernel_rfl) (de h fun x8 hx8 h=>aa h fun x9 hx9 h=>ap [2,1,2,1] (rg 36 26) [(8,pB (((((x2.2&&x4.2)&&x6.2)&&(!decide (x2.1.Country=p2)))&&x8)&&x9))] (eK 18 (fun hc=>i5 (cH hx8 hc)) (eK 24 (fun hc=>i5 (cH hx9 hc)) bm)) (by kernel_rfl) (cU ?_))))))))))))))))))))))))))
 exact zz r h rfl
def gy (p0:(List ByteArray)) (p1:(List ByteArray)):Option Bool:=cond ((p0.length:Int) != (p1.length:Int)) (some false) ((aU (S:=Int) (T:=(Unit)⊕(_)) (fun v2=>cond (decide (v2<(p0.length:Int))) ((idx p0 v2).bind fun m6=>(idx p1 v2).bind fun m7=>cond (!decide (m6=m7)) (some (.inr (.inr false))) (some (.inl (IntKind.i64.wrap (v2+1))))) (some (.inr (.inl ())))) FUEL 0).bind fun q=>match q with | .inl _=>some true | .inr e=>some e)
theorem qb {p0:(List ByteArray)} {p1:(List ByteArray)} {r:Bool}  (h:gy p0 p1=some r):PF 61 [pL eS p0,pL eS p1] (pB r):=by
 unfold gy at h
 refine bd ?_
 refine du Tryz.func61 rfl Tryz.ntmps61 Tryz.results61 rfl (aV [4] (by kernel_rfl) (cq (bC [6,7,8,9] [(10,pB ((p0.length:Int) != (p1.length:Int)))] (by kernel_rfl) rfl h (fun hc1 h=>?_) fun hc1 h=>?_)))
 ·refine ae ?_
  refine dl [(4,pB false)] (by kernel_rfl) (am ?_)
  exact zz r h rfl
 refine ah ?_
 refine cq (al [(5,pI 0)] (by kernel_rfl) (fz h fun q4 hq4 h=>?_))
 refine aq (Y:=Unit×Unit) (fun (_,_)=>[]) (fun (_,_)=>[]) (fun (_,_)=>q4=Sum.inl ()) ?_ ?_
 ·refine aA ?_
  refine aD (Y:=Unit) (S:=Int) _ hq4 (fun _ v2=>[(0,pL eS p0),(1,pL eS p1),(5,pI v2)]) (fun _ v2=>[]) () (lR rfl) bz ?_
  rintro _ v2 o τ hb3;(try dsimp only at hb3);dsimp only [aw]
  refine dm (bC [11,12,13] [(14,pB (decide (v2<(p0.length:Int))))] (by kernel_rfl) rfl hb3 (fun hc5 hb3=>?_) fun hc5 hb3=>?_)
  ·refine ah ?_
   refine dN (bk (ρd:=[]) [(0,0),(1,0),(2,0),(3,0),(4,0),(5,0),(6,0),(7,0),(8,0)] _ (List.Perm.refl _) (by kernel_rfl) rfl (aa hb3 fun m6 hm6 hb3=>aa hb3 fun m7 hm7 hb3=>br 9 [] (rg 17 8) [(25,pB (!decide (m6=m7)))] (cO 2 eS hm6 (cO 6 eS hm7 bm)) (by kernel_rfl) (bv (cS rfl hb3 (fun hc8 hb3=>?_) fun hc8 hb3=>?_))))
   ·refine ae ?_
    refine dl [(4,pB false)] (by kernel_rfl) (dI ?_)
    refine au hb3 (fun ht=>?_);subst ht
    refine cK ?_
    exact zz r h rfl
   refine ah ?_
   refine dX (ai [15,16] [(5,pI (IntKind.i64.wrap (v2+1)))] (by kernel_rfl) ?_)
   exact aT hb3 () (lR rfl) bz
  refine aH ?_
  refine cx hb3 (fun ht=>aj rfl ?_)
  exact av ((),()) pg bz ht.symm
 rintro ⟨_,_⟩ τ hz;(try dsimp only at hz);subst q4;(try dsimp only at h);dsimp only [aw]
 refine ae (dl [(4,pB true)] (by kernel_rfl) ?_)
 exact zz r h rfl
def gS (rec:Zd→Zd→Option Bool) (p0:Zd) (p1:Zd):Option Bool:=(gd (!(((((p0.Kind != p1.Kind)||(p0.Digits != p1.Digits))||(p0.Tolerance != p1.Tolerance))||(p0.Limit != p1.Limit))||(!decide (p0.Name=p1.Name)))) (gy p0.Except p1.Except)).bind fun x3=>cond (((((((p0.Kind != p1.Kind)||(p0.Digits != p1.Digits))||(p0.Tolerance != p1.Tolerance))||(p0.Limit != p1.Limit))||(!decide (p0.Name=p1.Name)))||(!x3))||((p0.Args.length:Int) != (p1.Args.length:Int))) (some false) ((aU (S:=Int) (T:=(Unit)⊕(_)) (fun v5=>cond (decide (v5<(p0.Args.length:Int))) ((idx p0.Args v5).bind fun m9=>(idx p1.Args v5).bind fun m10=>(rec m9 m10).bind fun x11=>cond (!x11) (some (.inr (.inr false))) (some (.inl (IntKind.i64.wrap (v5+1))))) (some (.inr (.inl ())))) FUEL 0).bind fun q=>match q with | .inl _=>some true | .inr e=>some e)
theorem qX {rec:Zd→Zd→Option Bool} (hrec:∀ {p0:Zd} {p1:Zd} {r:Bool},rec p0 p1=some r→PF 153 [.agg (ar p0),.agg (ar p1)] (pB r)) {p0:Zd} {p1:Zd} {r:Bool} (h:gS rec p0 p1=some r):PF 153 [.agg (ar p0),.agg (ar p1)] (pB r):=by
 unfold gS at h
 refine bd ?_
 refine du Tryz.func153 rfl Tryz.ntmps153 Tryz.results153 rfl (dc rfl (bh (cs:=(ar p0)) rfl rfl (fun b1=>an rfl (bh (cs:=(ar p1)) rfl rfl (fun b2=>ba [4] (by kernel_rfl) (cq (aa h fun x3 hx3 h=>ap [1,0,1,0,1,0,1,0,1,0,1,0,1,0] (rg 6 49) [(55,pB (((((((p0.Kind != p1.Kind)||(p0.Digits != p1.Digits))||(p0.Tolerance != p1.Tolerance))||(p0.Limit != p1.Limit))||(!decide (p0.Name=p1.Name)))||(!x3))||((p0.Args.length:Int) != (p1.Args.length:Int))))] (eK 38 (fun hc=>qb (cH hx3 hc)) bm) (by kernel_rfl) (cS rfl h (fun hc4 h=>?_) fun hc4 h=>?_))))))))
 ·refine ae ?_
  refine dl [(4,pB false)] (by kernel_rfl) (am ?_)
  exact zz r h rfl
 refine ah ?_
 refine cq (al [(5,pI 0)] (by kernel_rfl) (fz h fun q7 hq7 h=>?_))
 refine aq (Y:=Unit×Unit) (fun (_,_)=>[]) (fun (_,_)=>[]) (fun (_,_)=>q7=Sum.inl ()) ?_ ?_
 ·refine aA ?_
  refine aD (Y:=Unit) (S:=Int) _ hq7 (fun _ v5=>[(2,pP b1 0),(3,pP b2 0),(5,pI v5)]) (fun _ v5=>[PRes.b b1 84 (ar p0),PRes.b b2 84 (ar p1)]) () (lR rfl) (be (aC aO) cJ) ?_
  rintro _ v5 o τ hb6;(try dsimp only at hb6);dsimp only [aw]
  refine dm (aI [0] [56,57,58,59] [(60,pB (decide (v5<(p0.Args.length:Int))))] (by kernel_rfl) (cS rfl hb6 (fun hc8 hb6=>?_) fun hc8 hb6=>?_))
  ·refine ah ?_
   refine dN (bk (ρd:=[]) [(0,0),(1,0),(2,0),(3,0),(4,0),(5,0),(6,0),(7,0),(8,0),(9,0),(10,1),(11,0)] _ (List.Perm.refl _) (by kernel_rfl) rfl (aa hb6 fun m9 hm9 hb6=>aa hb6 fun m10 hm10 hb6=>aa hb6 fun x11 hx11 hb6=>br 12 [0,1] (rg 63 11) [(74,pB (!x11))] (nv 3 Zd.enc (Zd.enc_eq _) hm9 (nv 8 Zd.enc (Zd.enc_eq _) hm10 (bg 10 (hrec hx11) bm))) (by kernel_rfl) (bv (cS rfl hb6 (fun hc12 hb6=>?_) fun hc12 hb6=>?_))))
   ·refine ae ?_
    refine dl [(4,pB false)] (by kernel_rfl) (dI ?_)
    refine au hb6 (fun ht=>?_);subst ht
    refine cK ?_
    exact zz r h rfl
   refine ah ?_
   refine dX (ai [61,62] [(5,pI (IntKind.i64.wrap (v5+1)))] (by kernel_rfl) ?_)
   exact aT hb6 () (lR rfl) ni
  refine aH ?_
  refine cx hb6 (fun ht=>aj rfl ?_)
  exact av ((),()) pg bz ht.symm
 rintro ⟨_,_⟩ τ hz;(try dsimp only at hz);subst q7;(try dsimp only at h);dsimp only [aw]
 refine ae (dl [(4,pB true)] (by kernel_rfl) ?_)
 exact zz r h rfl
def i6 (n:Nat):Zd→Zd→Option Bool:=Nat.rec (motive:=fun _=>Zd→Zd→Option Bool) (fun _ _=>none) (fun _ ih=>gS ih) n
def na (p0:Zd) (p1:Zd):Option Bool:=i6 FUEL p0 p1
theorem rE (n:Nat):∀ {p0:Zd} {p1:Zd} {r:Bool},i6 n p0 p1=some r→PF 153 [.agg (ar p0),.agg (ar p1)] (pB r):=by
 induction n with
 | zero=>intros;rename_i h;exact nomatch h
 | succ n ih=>intros;rename_i h;exact qX (fun hr=>ih hr) h
theorem sc {p0:Zd} {p1:Zd} {r:Bool} (h:na p0 p1=some r):PF 153 [.agg (ar p0),.agg (ar p1)] (pB r):=rE FUEL h
def ip (p0:(List Zi)) (p1:(List Zi)):Option Bool:=cond ((p0.length:Int) != (p1.length:Int)) (some false) ((aU (S:=Int) (T:=(Unit)⊕(_)) (fun v2=>cond (decide (v2<(p0.length:Int))) ((idx p0 v2).bind fun m6=>(idx p1 v2).bind fun m7=>(gd (!(!decide (m6.Prefix=m7.Prefix))) (idx p0 v2)).bind fun m8=>(gd (!(!decide (m6.Prefix=m7.Prefix))) (idx p1 v2)).bind fun m9=>(gd (!(!decide (m6.Prefix=m7.Prefix))) (na m8.Rule m9.Rule)).bind fun x10=>cond ((!decide (m6.Prefix=m7.Prefix))||(!x10)) (some (.inr (.inr false))) (some (.inl (IntKind.i64.wrap (v2+1))))) (some (.inr (.inl ())))) FUEL 0).bind fun q=>match q with | .inl _=>some true | .inr e=>some e)
theorem rF {p0:(List Zi)} {p1:(List Zi)} {r:Bool}  (h:ip p0 p1=some r):PF 104 [pL Zi.enc p0,pL Zi.enc p1] (pB r):=by
 unfold ip at h
 refine bd ?_
 refine du Tryz.func104 rfl Tryz.ntmps104 Tryz.results104 rfl (aV [4] (by kernel_rfl) (cq (bC [6,7,8,9] [(10,pB ((p0.length:Int) != (p1.length:Int)))] (by kernel_rfl) rfl h (fun hc1 h=>?_) fun hc1 h=>?_)))
 ·refine ae ?_
  refine dl [(4,pB false)] (by kernel_rfl) (am ?_)
  exact zz r h rfl
 refine ah ?_
 refine cq (al [(5,pI 0)] (by kernel_rfl) (fz h fun q4 hq4 h=>?_))
 refine aq (Y:=Unit×Unit) (fun (_,_)=>[]) (fun (_,_)=>[]) (fun (_,_)=>q4=Sum.inl ()) ?_ ?_
 ·refine aA ?_
  refine aD (Y:=Unit) (S:=Int) _ hq4 (fun _ v2=>[(0,pL Zi.enc p0),(1,pL Zi.enc p1),(5,pI v2)]) (fun _ v2=>[]) () (lR rfl) bz ?_
  rintro _ v2 o τ hb3;(try dsimp only at hb3);dsimp only [aw]
  refine dm (bC [11,12,13] [(14,pB (decide (v2<(p0.length:Int))))] (by kernel_rfl) rfl hb3 (fun hc5 hb3=>?_) fun hc5 hb3=>?_)
  ·refine ah ?_
   refine dN (bk (ρd:=[]) [(0,0),(1,0),(2,0),(3,0),(4,0),(5,0),(6,0),(7,0),(8,0),(9,0),(10,0),(11,0),(12,0),(13,0),(14,0),(15,0),(16,0),(17,0),(18,0),(19,0),(20,0),(21,0),(22,1),(23,0),(24,0)] _ (List.Perm.refl _) (by kernel_rfl) rfl (aa hb3 fun m6 hm6 hb3=>aa hb3 fun m7 hm7 hb3=>aa hb3 fun m8 hm8 hb3=>aa hb3 fun m9 hm9 hb3=>aa hb3 fun x10 hx10 hb3=>br 25 [] (rg 17 24) [(41,pB ((!decide (m6.Prefix=m7.Prefix))||(!x10)))] (cO 2 Zi.enc hm6 (cO 7 Zi.enc hm7 (eJ 14 Zi.enc (cH hm8) (eJ 19 Zi.enc (cH hm9) (eK 22 (fun hc=>sc (cH hx10 hc)) bm))))) (by kernel_rfl) (bv (cS rfl hb3 (fun hc11 hb3=>?_) fun hc11 hb3=>?_))))
   ·refine ae ?_
    refine dl [(4,pB false)] (by kernel_rfl) (dI ?_)
    refine au hb3 (fun ht=>?_);subst ht
    refine cK ?_
    exact zz r h rfl
   refine ah ?_
   refine dX (ai [15,16] [(5,pI (IntKind.i64.wrap (v2+1)))] (by kernel_rfl) ?_)
   exact aT hb3 () (lR rfl) bz
  refine aH ?_
  refine cx hb3 (fun ht=>aj rfl ?_)
  exact av ((),()) pg bz ht.symm
 rintro ⟨_,_⟩ τ hz;(try dsimp only at hz);subst q4;(try dsimp only at h);dsimp only [aw]
 refine ae (dl [(4,pB true)] (by kernel_rfl) ?_)
 exact zz r h rfl
def iT (p0:(List Zb)) (p1:Int) (p2:ByteArray) (p3:ByteArray):Option (List Int):=(dV p0 p1).bind fun x1=>cond (!x1.2) (some []) ((aU (S:=(List Int)×Int) (T:=((List Int))) (fun (l7,v10)=>cond ((decide (v10<(p0.length:Int)))&&(x1.1.Kind == 2)) (((idx p0 v10).bind fun m23=>(gd (m23.ID != p1) (iA m23.Parties p2)).bind fun x25=>(gd ((m23.ID != p1)&&x25) (iA m23.Parties p3)).bind fun x26=>(gd (((m23.ID != p1)&&x25)&&x26) (ip x1.1.Rules m23.Rules)).bind fun x27=>cond ((((m23.ID != p1)&&x25)&&x26)&&x27) ((app 8 l7 [m23.ID]).bind fun l31=>some l31) (some l7)).bind fun l21=>some (.inl (l21,(IntKind.i64.wrap (v10+1))))) (some (.inr l7))) FUEL ([p1],0)).bind fun l14=>some l14)
theorem se {p0:(List Zb)} {p1:Int} {p2:ByteArray} {p3:ByteArray} {r:(List Int)}  (h:iT p0 p1 p2 p3=some r):PF 55 [pL Zb.enc p0,pI p1,pS p2,pS p3] (pL eI r):=by
 unfold iT at h
 refine bd ?_
 refine du Tryz.func55 rfl Tryz.ntmps55 Tryz.results55 rfl (aV [8] (by kernel_rfl) (de h fun x1 hx1 h=>af (aS 6 [] [15,16,17,14] [(18,.agg (az x1.1)),(19,pB x1.2)] (bg 2 (hY hx1) bm) (by kernel_rfl) (an rfl (aM (cs:=[pI 0,pI 0,pN,pN]) rfl rfl rfl rfl (fun b2=>aP rfl rfl (ak (vs:=(az x1.1)) rfl rfl rfl rfl rfl ca tH (aN [(10,pB x1.2)] (by kernel_rfl) (cq (bC [20] [(21,pB (!x1.2))] (by kernel_rfl) rfl h (fun hc3 h=>?_) fun hc3 h=>?_))))))))))
 ·refine ae ?_
  refine al [(8,pN)] (by kernel_rfl) (aY (hU 8 rfl (bV (am ?_))))
  exact zz r h rfl
 refine ah ?_
 refine bY (af (aF 1 [(22,pI p1)] (by kernel_rfl) (an rfl (bG rfl rfl rfl rfl rfl (gG rfl jl) rfl rfl rfl rfl (fun b4=>aN [(11,pO (some ⟨b4,0,none⟩) 1 1)] (by kernel_rfl) (cq (al [(12,pI 0)] (by kernel_rfl) (fz h fun q16 hq16 h=>?_))))))))
 refine aq (Y:=(Option Addr×Nat)×((List Int))) (fun ((a12,c13),l14)=>[(11,pO a12 l14.length c13)]) (fun ((a12,c13),l14)=>[PRes.row a12 l14.length c13 3 1 (List.map eI l14)]) (fun ((a12,c13),l14)=>q16=l14) ?_ ?_
 ·refine aA ?_
  refine aD (Y:=Option Addr×Nat) (S:=(List Int)×Int) _ hq16 (fun (a8,c9) (l7,v10)=>[(0,pL Zb.enc p0),(1,pI p1),(2,pS p2),(3,pS p3),(9,pP b2 0),(11,pO a8 l7.length c9),(12,pI v10)]) (fun (a8,c9) (l7,v10)=>[PRes.b b2 81 (az x1.1),PRes.row a8 l7.length c9 3 1 (List.map eI l7)]) ((some ⟨b4,0,none⟩),1) (sF rfl) (be (aC aO) cJ) ?_
  rintro ⟨a8,c9⟩ ⟨l7,v10⟩ o τ hb15;(try dsimp only at hb15);dsimp only [aw]
  refine dm (aI [0] (rg 24 8) [(32,pB ((decide (v10<(p0.length:Int)))&&(x1.1.Kind == 2)))] (by kernel_rfl) (cS rfl hb15 (fun hc17 hb15=>?_) fun hc17 hb15=>?_))
  ·refine ah ?_
   refine de hb15 fun q22 hq22 hb15=>?_
   refine aq (Y:=(Option Addr×Nat)×((List Int))) (fun ((a19,c20),l21)=>[(0,pL Zb.enc p0),(1,pI p1),(2,pS p2),(3,pS p3),(9,pP b2 0),(11,pO a19 l21.length c20),(12,pI v10)]) (fun ((a19,c20),l21)=>[PRes.b b2 81 (az x1.1),PRes.row a19 l21.length c20 3 1 (List.map eI l21)]) (fun ((a19,c20),l21)=>q22=l21) ?_ ?_
   ·skip
    refine pX (aa hq22 fun m23 hm23 hq22=>af (aS 4 [] [35,36,37] [(38,.agg (az m23))] (cO 2 Zb.enc hm23 bm) (by kernel_rfl) (an rfl (aM (cs:=[pI 0,pI 0,pN,pN]) rfl rfl rfl rfl (fun b24=>aP rfl rfl (ak (vs:=(az m23)) rfl rfl rfl rfl rfl ca tH (aG (de hq22 fun x25 hx25 hq22=>aa hq22 fun x26 hx26 hq22=>aa hq22 fun x27 hx27 hq22=>ap [0,0,0,1,0] (rg 39 22) [(61,pB ((((m23.ID != p1)&&x25)&&x26)&&x27))] (eK 8 (fun hc=>i5 (cH hx25 hc)) (eK 14 (fun hc=>i5 (cH hx26 hc)) (eK 21 (fun hc=>rF (cH hx27 hc)) bm))) (by kernel_rfl) (cS rfl hq22 (fun hc28 hq22=>?_) fun hc28 hq22=>?_)))))))))
    ·refine af ?_
     refine cG 3 [0] [63] [(62,pO a8 l7.length c9),(64,pI m23.ID)] (by kernel_rfl) (an rfl (bG rfl rfl rfl rfl rfl (gG rfl jl) rfl rfl rfl rfl (fun b29=>aa hq22 fun l31 hl31 hq22=>?_)))
     refine an rfl (ce (enc:=eI) rfl rfl rfl rfl rfl rfl rfl rfl rfl e7 (by exact aC (aC (aC aO))) hl31 (fun a32 c33=>?_))
     refine aN [(11,pO a32 l31.length c33)] (by kernel_rfl) (aB ?_)
     obtain rfl:=osi hq22
     exact av ((a32,c33),l31) (sF rfl) (be (aC (aC (aC aO))) cJ) rfl
    refine ah ?_
    refine aB ?_
    obtain rfl:=osi hq22
    exact av ((a8,c9),l7) (sF rfl) (be (aC aO) (be (aC aO) bz)) rfl
   rintro ⟨⟨a19,c20⟩,l21⟩ τ hz;(try dsimp only at hz);subst q22;(try dsimp only at hb15);dsimp only [aw]
   refine ai [33,34] [(12,pI (IntKind.i64.wrap (v10+1)))] (by kernel_rfl) ?_
   exact aT hb15 (a19,c20) (sF rfl) ni
  refine aH ?_
  refine cx hb15 (fun ht=>aj rfl ?_)
  exact av ((a8,c9),l7) (re rfl) (be (aC aO) bz) ht.symm
 rintro ⟨⟨a12,c13⟩,l14⟩ τ hz;(try dsimp only at hz);subst q16;(try dsimp only at h);dsimp only [aw]
 refine ae (ai [67] [(8,pO a12 l14.length c13)] (by kernel_rfl) (aY ?_))
 refine fu (enc:=eI) (xs:=l14) 8 rfl (by exact aO) ?_
 refine bV ?_
 exact zz r h rfl
def kZ (p0:(List ByteArray)) (p1:ByteArray):Option (List ByteArray):=(aU (S:=Int) (T:=(ByteArray×Int)) (fun v1=>(gd (decide (v1<(p0.length:Int))) (idx p0 v1)).bind fun m6=>cond ((decide (v1<(p0.length:Int)))&&(Op.bytesLess m6.toList p1.toList)) (some (.inl (IntKind.i64.wrap (v1+1)))) (some (.inr (p1,v1)))) FUEL 0).bind fun (v2,v3)=>(gd (decide (v3<(p0.length:Int))) (idx p0 v3)).bind fun m8=>cond ((decide (v3<(p0.length:Int)))&&(decide (m8=v2))) (some p0) ((sub p0 0 v3).bind fun l10=>(sub p0 v3 (p0.length:Int)).bind fun l11=>(app 16 ([]:List ByteArray) l10).bind fun l14=>(app 16 l14 [v2]).bind fun l20=>(app 16 l20 l11).bind fun l24=>some l24)
theorem rj {p0:(List ByteArray)} {p1:ByteArray} {r:(List ByteArray)}  (h:kZ p0 p1=some r):PF 105 [pL eS p0,pS p1] (pL eS r):=by
 unfold kZ at h
 refine bd ?_
 refine du Tryz.func105 rfl Tryz.ntmps105 Tryz.results105 rfl (aV [4] (by kernel_rfl) (bY (al [(5,pI 0)] (by kernel_rfl) (de h fun q5 hq5 h=>?_))))
 refine aq (Y:=Unit×(ByteArray×Int)) (fun (_,(v2,v3))=>[(0,pL eS p0),(1,pS v2),(5,pI v3)]) (fun (_,(v2,v3))=>[]) (fun (_,(v2,v3))=>q5=(v2,v3)) ?_ ?_
 ·refine aA ?_
  refine aD (Y:=Unit) (S:=Int) _ hq5 (fun _ v1=>[(0,pL eS p0),(1,pS p1),(5,pI v1)]) (fun _ v1=>[]) () (lR rfl) bz ?_
  rintro _ v1 o τ hb4;(try dsimp only at hb4);dsimp only [aw]
  refine dm (aa hb4 fun m6 hm6 hb4=>ap [] (rg 6 11) [(17,pB ((decide (v1<(p0.length:Int)))&&(Op.bytesLess m6.toList p1.toList)))] (eJ 7 eS (cH hm6) bm) (by kernel_rfl) (cS rfl hb4 (fun hc7 hb4=>?_) fun hc7 hb4=>?_))
  ·refine ah ?_
   refine aY (aA (ai [18,19] [(5,pI (IntKind.i64.wrap (v1+1)))] (by kernel_rfl) (aB ?_)))
   exact aT hb4 () (lR rfl) bz
  refine aH ?_
  refine cx hb4 (fun ht=>aj rfl ?_)
  exact av ((),(p1,v1)) (lR rfl) bz ht.symm
 rintro ⟨_,⟨v2,v3⟩⟩ τ hz;(try dsimp only at hz);subst q5;(try dsimp only at h);dsimp only [aw]
 refine dm (aa h fun m8 hm8 h=>ap [] (rg 20 11) [(31,pB ((decide (v3<(p0.length:Int)))&&(decide (m8=v2))))] (eJ 7 eS (cH hm8) bm) (by kernel_rfl) (cS rfl h (fun hc9 h=>?_) fun hc9 h=>?_))
 ·refine ae ?_
  refine ai [32] [(4,pL eS p0)] (by kernel_rfl) (cU (am ?_))
  exact zz r h rfl
 refine ah ?_
 refine bY (bk (ρd:=[]) [(1,0),(2,0),(3,0),(5,0),(6,3),(8,0),(9,0),(10,0),(0,1),(4,1),(6,2),(7,1),(11,1),(12,0)] _ (List.Perm.refl _) (by kernel_rfl) rfl (aa h fun l10 hl10 h=>br 4 [] [34,35] [(36,pL eS l10),(38,pS v2)] (ud 2 eS 1 (fun _=>rfl) hl10 bm) (by kernel_rfl) (zJ (qL rfl rfl rfl rfl rfl (gG rfl jl) rfl rfl rfl) (aa h fun l11 hl11 h=>br 3 [] [41,42] [(43,pL eS l11)] (ud 2 eS 1 (fun _=>rfl) hl11 bm) (by kernel_rfl) (hC rfl rfl rfl (bG rfl rfl rfl rfl rfl jl rfl rfl rfl rfl (fun b12=>aa h fun l14 hl14 h=>?_)))))))
 refine hC rfl rfl rfl (gr (enc:=eS) rfl rfl rfl rfl rfl (fun _=>rfl) rfl rfl rfl (by exact aO) hl14 (fun a15 c16=>?_))
 refine r6 (qL rfl rfl rfl rfl rfl (gG rfl jl) rfl rfl rfl) (fun _=>rfl) rfl (fun b18=>aa h fun l20 hl20 h=>?_)
 refine hC rfl rfl rfl (zI (enc:=eS) rfl rfl rfl rfl rfl (fun _=>rfl) rfl rfl rfl rfl e7 rfl (by exact aC aO) hl20 (fun a21 c22=>?_))
 refine aa h fun l24 hl24 h=>?_
 refine hC rfl rfl rfl (gr (enc:=eS) rfl rfl rfl rfl rfl (fun _=>rfl) rfl rfl rfl (by exact aO) hl24 (fun a25 c26=>?_))
 refine ij 1 [(4,pO a25 l24.length c26)] (by kernel_rfl) (bv (aY ?_))
 refine fu (enc:=eS) (xs:=l24) 4 rfl (by exact aO) ?_
 refine bV ?_
 exact zz r h rfl
def jS (p0:(List ByteArray)) (p1:(List ByteArray)):Option (List ByteArray):=(aU (S:=(List ByteArray)×Int) (T:=((List ByteArray)×(List ByteArray))) (fun (l1,v2)=>cond (decide (v2<(p0.length:Int))) ((idx p0 v2).bind fun m8=>(kZ l1 m8).bind fun x9=>some (.inl (x9,(IntKind.i64.wrap (v2+1))))) (some (.inr (p1,l1)))) FUEL ([],0)).bind fun (l3,l4)=>(aU (S:=(List ByteArray)×Int) (T:=((List ByteArray))) (fun (l10,v11)=>cond (decide (v11<(l3.length:Int))) ((idx l3 v11).bind fun m16=>(kZ l10 m16).bind fun x17=>some (.inl (x17,(IntKind.i64.wrap (v11+1))))) (some (.inr l10))) FUEL (l4,0)).bind fun l12=>some l12
theorem vy {p0:(List ByteArray)} {p1:(List ByteArray)} {r:(List ByteArray)}  (h:jS p0 p1=some r):PF 57 [pL eS p0,pL eS p1] (pL eS r):=by
 unfold jS at h
 refine bd ?_
 refine du Tryz.func57 rfl Tryz.ntmps57 Tryz.results57 rfl (aV [4] (by kernel_rfl) (bY (al [(5,pN)] (by kernel_rfl) (cq (al [(6,pI 0)] (by kernel_rfl) (aY (hU 5 rfl (aa h fun q6 hq6 h=>?_))))))))
 refine aq (Y:=Unit×((List ByteArray)×(List ByteArray))) (fun (_,(l3,l4))=>[(1,pL eS l3),(5,pL eS l4)]) (fun (_,(l3,l4))=>[]) (fun (_,(l3,l4))=>q6=(l3,l4)) ?_ ?_
 ·refine aA ?_
  refine aD (Y:=Unit) (S:=(List ByteArray)×Int) _ hq6 (fun _ (l1,v2)=>[(0,pL eS p0),(1,pL eS p1),(5,pL eS l1),(6,pI v2)]) (fun _ (l1,v2)=>[]) () (jf rfl) bz ?_
  rintro _ ⟨l1,v2⟩ o τ hb5;(try dsimp only at hb5);dsimp only [aw]
  refine dm (bC [8,9,10] [(11,pB (decide (v2<(p0.length:Int))))] (by kernel_rfl) rfl hb5 (fun hc7 hb5=>?_) fun hc7 hb5=>?_)
  ·refine ah ?_
   refine bY (aA (aa hb5 fun m8 hm8 hb5=>aa hb5 fun x9 hx9 hb5=>ap [] (rg 14 6) [(5,pL eS x9)] (cO 3 eS hm8 (bg 5 (rj hx9) bm)) (by kernel_rfl) (dX (ai [12,13] [(6,pI (IntKind.i64.wrap (v2+1)))] (by kernel_rfl) ?_))))
   exact aT hb5 () (jf rfl) bz
  refine aH ?_
  refine cx hb5 (fun ht=>aj rfl ?_)
  exact av ((),(p1,l1)) (mK rfl) bz ht.symm
 rintro ⟨_,⟨l3,l4⟩⟩ τ hz;(try dsimp only at hz);subst q6;(try dsimp only at h);dsimp only [aw]
 refine dm (al [(7,pI 0)] (by kernel_rfl) (fz h fun q14 hq14 h=>?_))
 refine aq (Y:=Unit×((List ByteArray))) (fun (_,l12)=>[(5,pL eS l12)]) (fun (_,l12)=>[]) (fun (_,l12)=>q14=l12) ?_ ?_
 ·refine aA ?_
  refine aD (Y:=Unit) (S:=(List ByteArray)×Int) _ hq14 (fun _ (l10,v11)=>[(1,pL eS l3),(5,pL eS l10),(7,pI v11)]) (fun _ (l10,v11)=>[]) () (lR rfl) bz ?_
  rintro _ ⟨l10,v11⟩ o τ hb13;(try dsimp only at hb13);dsimp only [aw]
  refine dm (bC [20,21,22] [(23,pB (decide (v11<(l3.length:Int))))] (by kernel_rfl) rfl hb13 (fun hc15 hb13=>?_) fun hc15 hb13=>?_)
  ·refine ah ?_
   refine bY (aA (aa hb13 fun m16 hm16 hb13=>aa hb13 fun x17 hx17 hb13=>ap [] (rg 26 6) [(5,pL eS x17)] (cO 3 eS hm16 (bg 5 (rj hx17) bm)) (by kernel_rfl) (dX (ai [24,25] [(7,pI (IntKind.i64.wrap (v11+1)))] (by kernel_rfl) ?_))))
   exact aT hb13 () (lR rfl) bz
  refine aH ?_
  refine cx hb13 (fun ht=>aj rfl ?_)
  exact av ((),l10) (re rfl) bz ht.symm
 rintro ⟨_,l12⟩ τ hz;(try dsimp only at hz);subst q14;(try dsimp only at h);dsimp only [aw]
 refine ae (ai [32] [(4,pL eS l12)] (by kernel_rfl) (cU ?_))
 exact zz r h rfl
def cL (p0:(List Za)) (p1:Za):Option Bool:=(aU (S:=Int) (T:=(Unit)⊕(_)) (fun v2=>cond (decide (v2<(p0.length:Int))) ((idx p0 v2).bind fun m6=>cond (Za.eqb m6 p1) (some (.inr (.inr true))) (some (.inl (IntKind.i64.wrap (v2+1))))) (some (.inr (.inl ())))) FUEL 0).bind fun q=>match q with | .inl _=>some false | .inr e=>some e
theorem gz {p0:(List Za)} {p1:Za} {r:Bool}  (h:cL p0 p1=some r):PF 68 [pL Za.enc p0,.agg [pI p1.Product,pI p1.Agreement]] (pB r):=by
 unfold cL at h
 refine bd ?_
 refine du Tryz.func68 rfl Tryz.ntmps68 Tryz.results68 rfl (dc rfl (bh (cs:=[pI p1.Product,pI p1.Agreement]) rfl rfl (fun b1=>ba [4] (by kernel_rfl) (cq (al [(5,pI 0)] (by kernel_rfl) (fz h fun q4 hq4 h=>?_))))))
 refine aq (Y:=Unit×Unit) (fun (_,_)=>[]) (fun (_,_)=>[]) (fun (_,_)=>q4=Sum.inl ()) ?_ ?_
 ·refine aA ?_
  refine aD (Y:=Unit) (S:=Int) _ hq4 (fun _ v2=>[(0,pL Za.enc p0),(3,pP b1 0),(5,pI v2)]) (fun _ v2=>[PRes.b b1 28 [pI p1.Product,pI p1.Agreement]]) () (lR rfl) cJ ?_
  rintro _ v2 o τ hb3;(try dsimp only at hb3);dsimp only [aw]
  refine dm (bC [6,7,8] [(9,pB (decide (v2<(p0.length:Int))))] (by kernel_rfl) rfl hb3 (fun hc5 hb3=>?_) fun hc5 hb3=>?_)
  ·refine ah ?_
   refine dN (bk (ρd:=[]) [(0,0),(1,0),(2,0),(3,0),(4,0),(5,0)] _ (List.Perm.refl _) (by kernel_rfl) rfl (aa hb3 fun m6 hm6 hb3=>br 6 [0] (rg 12 5) [(17,pB (Za.eqb m6 p1))] (cO 2 Za.enc hm6 (Dn 5 Za.eqok28 bm)) (by kernel_rfl) (bv (cS rfl hb3 (fun hc7 hb3=>?_) fun hc7 hb3=>?_))))
   ·refine ae ?_
    refine dl [(4,pB true)] (by kernel_rfl) (dI ?_)
    refine au hb3 (fun ht=>?_);subst ht
    refine cK ?_
    exact zz r h rfl
   refine ah ?_
   refine dX (ai [10,11] [(5,pI (IntKind.i64.wrap (v2+1)))] (by kernel_rfl) ?_)
   exact aT hb3 () (lR rfl) cJ
  refine aH ?_
  refine cx hb3 (fun ht=>aj rfl ?_)
  exact av ((),()) pg bz ht.symm
 rintro ⟨_,_⟩ τ hz;(try dsimp only at hz);subst q4;(try dsimp only at h);dsimp only [aw]
 refine ae (dl [(4,pB false)] (by kernel_rfl) ?_)
 exact zz r h rfl
def iB (p0:(List Int)) (p1:Int) (p2:(List Za)):Option (Za×Bool):=(aU (S:=Int) (T:=(Unit)⊕(_)) (fun v2=>cond (decide (v2<(p0.length:Int))) ((idx p0 v2).bind fun m6=>(cL p2 (⟨p1,m6⟩:Za)).bind fun x8=>cond x8 (some (.inr (.inr ((⟨p1,m6⟩:Za),true)))) (some (.inl (IntKind.i64.wrap (v2+1))))) (some (.inr (.inl ())))) FUEL 0).bind fun q=>match q with | .inl _=>some ((⟨0,0⟩:Za),false) | .inr e=>some e
theorem n9 {p0:(List Int)} {p1:Int} {p2:(List Za)} {r:(Za×Bool)}  (h:iB p0 p1 p2=some r):PF 58 [pL eI p0,pI p1,pL Za.enc p2] (.tup [.agg [pI r.1.Product,pI r.1.Agreement],pB r.2]):=by
 unfold iB at h
 refine bd ?_
 refine du Tryz.func58 rfl Tryz.ntmps58 Tryz.results58 rfl (dc rfl (aM (cs:=[pI 0,pI 0]) rfl rfl rfl rfl (fun b1=>ba [7] (by kernel_rfl) (cq (al [(8,pI 0)] (by kernel_rfl) (fz h fun q4 hq4 h=>?_))))))
 refine aq (Y:=Unit×Unit) (fun (_,_)=>[(6,pP b1 0)]) (fun (_,_)=>[PRes.b b1 28 [pI 0,pI 0]]) (fun (_,_)=>q4=Sum.inl ()) ?_ ?_
 ·refine aA ?_
  refine aD (Y:=Unit) (S:=Int) _ hq4 (fun _ v2=>[(0,pL eI p0),(1,pI p1),(2,pL Za.enc p2),(6,pP b1 0),(8,pI v2)]) (fun _ v2=>[PRes.b b1 28 [pI 0,pI 0]]) () (nu rfl) cJ ?_
  rintro _ v2 o τ hb3;(try dsimp only at hb3);dsimp only [aw]
  refine dm (bC [10,11,12] [(13,pB (decide (v2<(p0.length:Int))))] (by kernel_rfl) rfl hb3 (fun hc5 hb3=>?_) fun hc5 hb3=>?_)
  ·refine ah ?_
   refine dN (aa hb3 fun m6 hm6 hb3=>af (aS 6 [] (rg 16 5) [(21,.agg [pI p1,pI m6])] (cO 3 eI hm6 bm) (by kernel_rfl) (an rfl (aM (cs:=[pI 0,pI 0]) rfl rfl rfl rfl (fun b7=>aP rfl rfl (ak (vs:=[pI p1,pI m6]) rfl rfl rfl rfl rfl ca sE (aG (de hb3 fun x8 hx8 hb3=>ap [0] [22,23] [(24,pB x8)] (bg 2 (gz hx8) bm) (by kernel_rfl) (cS rfl hb3 (fun hc9 hb3=>?_) fun hc9 hb3=>?_)))))))))
   ·refine ae ?_
    refine af (gt 1 [0] [(25,.agg [pI p1,pI m6])] (by kernel_rfl) (aP rfl rfl (ak (vs:=[pI p1,pI m6]) rfl rfl rfl rfl rfl (dx ca) sE (aN [(7,pB true)] (by kernel_rfl) (cU (dI ?_))))))
    refine au hb3 (fun ht=>?_);subst ht
    refine cK ?_
    obtain rfl:=osi h
    exact aL (cg (dL rfl uz rfl) (aJ rfl)) bz ⟨rfl,rfl⟩
   refine ah ?_
   refine dX (ai [14,15] [(8,pI (IntKind.i64.wrap (v2+1)))] (by kernel_rfl) ?_)
   exact aT hb3 () (nu rfl) (be (aC aO) bz)
  refine aH ?_
  refine cx hb3 (fun ht=>aj rfl ?_)
  exact av ((),()) (re rfl) cJ ht.symm
 rintro ⟨_,_⟩ τ hz;(try dsimp only at hz);subst q4;(try dsimp only at h);dsimp only [aw]
 refine ae (af (aF 1 [(26,.agg [pI 0,pI 0])] (by kernel_rfl) (aP rfl rfl (ak (vs:=[pI 0,pI 0]) rfl rfl rfl rfl rfl ca sE (aN [(7,pB false)] (by kernel_rfl) (cU ?_))))))
 obtain rfl:=osi h
 exact aL (cg (dL rfl e7 rfl) (aJ rfl)) bz ⟨rfl,rfl⟩
def lc (p0:Za) (p1:Za):Option Bool:=some ((decide (p0.Product<p1.Product))||((p0.Product == p1.Product)&&(decide (p0.Agreement<p1.Agreement))))
theorem wI {p0:Za} {p1:Za} {r:Bool}  (h:lc p0 p1=some r):PF 106 [.agg [pI p0.Product,pI p0.Agreement],.agg [pI p1.Product,pI p1.Agreement]] (pB r):=by
 unfold lc at h
 refine bd ?_
 refine du Tryz.func106 rfl Tryz.ntmps106 Tryz.results106 rfl (dc rfl (bh (cs:=[pI p0.Product,pI p0.Agreement]) rfl rfl (fun b1=>an rfl (bh (cs:=[pI p1.Product,pI p1.Agreement]) rfl rfl (fun b2=>ba [4] (by kernel_rfl) (bY (aI [1,0,1,0,1,0] (rg 5 19) [(4,pB ((decide (p0.Product<p1.Product))||((p0.Product == p1.Product)&&(decide (p0.Agreement<p1.Agreement)))))] (by kernel_rfl) (cU ?_))))))))
 exact zz r h rfl
def ez (p0:(List Za)) (p1:Za):Option (List Za):=(cL p0 p1).bind fun x2=>cond x2 (some p0) ((aU (S:=Int) (T:=(Int)) (fun v4=>(gd (decide (v4<(p0.length:Int))) (idx p0 v4)).bind fun m8=>(gd (decide (v4<(p0.length:Int))) (lc m8 p1)).bind fun x9=>cond ((decide (v4<(p0.length:Int)))&&x9) (some (.inl (IntKind.i64.wrap (v4+1)))) (some (.inr v4))) FUEL 0).bind fun v5=>(sub p0 0 v5).bind fun l11=>(sub p0 v5 (p0.length:Int)).bind fun l12=>(app 16 ([]:List Za) l11).bind fun l15=>(app 16 l15 [p1]).bind fun l21=>(app 16 l21 l12).bind fun l25=>some l25)
theorem js {p0:(List Za)} {p1:Za} {r:(List Za)}  (h:ez p0 p1=some r):PF 59 [pL Za.enc p0,.agg [pI p1.Product,pI p1.Agreement]] (pL Za.enc r):=by
 unfold ez at h
 refine bd ?_
 refine du Tryz.func59 rfl Tryz.ntmps59 Tryz.results59 rfl (dc rfl (bh (cs:=[pI p1.Product,pI p1.Agreement]) rfl rfl (fun b1=>ba [4] (by kernel_rfl) (cq (aa h fun x2 hx2 h=>ap [0] [6,7] [(8,pB x2)] (bg 2 (gz hx2) bm) (by kernel_rfl) (cS rfl h (fun hc3 h=>?_) fun hc3 h=>?_))))))
 ·refine ae ?_
  refine ai [9] [(4,pL Za.enc p0)] (by kernel_rfl) (cU (am ?_))
  exact zz r h rfl
 refine ah ?_
 refine bY (al [(5,pI 0)] (by kernel_rfl) (de h fun q7 hq7 h=>?_))
 refine aq (Y:=Unit×Int) (fun (_,v5)=>[(0,pL Za.enc p0),(3,pP b1 0),(5,pI v5)]) (fun (_,v5)=>[PRes.b b1 28 [pI p1.Product,pI p1.Agreement]]) (fun (_,v5)=>q7=v5) ?_ ?_
 ·refine aA ?_
  refine aD (Y:=Unit) (S:=Int) _ hq7 (fun _ v4=>[(0,pL Za.enc p0),(3,pP b1 0),(5,pI v4)]) (fun _ v4=>[PRes.b b1 28 [pI p1.Product,pI p1.Agreement]]) () (lR rfl) cJ ?_
  rintro _ v4 o τ hb6;(try dsimp only at hb6);dsimp only [aw]
  refine dm (bk (ρd:=[]) [(0,0),(1,0),(2,0),(3,0),(4,0),(5,0),(6,0),(7,0),(8,0),(9,0),(10,1),(11,0)] _ (List.Perm.refl _) (by kernel_rfl) rfl (aa hb6 fun m8 hm8 hb6=>aa hb6 fun x9 hx9 hb6=>br 12 [0] (rg 10 11) [(21,pB ((decide (v4<(p0.length:Int)))&&x9))] (eJ 7 Za.enc (cH hm8) (eK 10 (fun hc=>wI (cH hx9 hc)) bm)) (by kernel_rfl) (bv (cS rfl hb6 (fun hc10 hb6=>?_) fun hc10 hb6=>?_))))
  ·refine ah ?_
   refine aY (aA (ai [22,23] [(5,pI (IntKind.i64.wrap (v4+1)))] (by kernel_rfl) (aB ?_)))
   exact aT hb6 () (lR rfl) cJ
  refine aH ?_
  refine cx hb6 (fun ht=>aj rfl ?_)
  exact av ((),v4) (lR rfl) cJ ht.symm
 rintro ⟨_,v5⟩ τ hz;(try dsimp only at hz);subst q7;(try dsimp only at h);dsimp only [aw]
 refine ae (bk (ρd:=[]) [(1,0),(2,0),(3,0),(5,0),(6,3),(8,0),(9,0),(10,0),(0,1),(4,1),(6,2),(7,1),(11,1),(12,0)] _ (List.Perm.refl _) (by kernel_rfl) rfl (aa h fun l11 hl11 h=>br 4 [0] [25,26] [(27,pL Za.enc l11),(29,.agg [pI p1.Product,pI p1.Agreement])] (ud 2 Za.enc 2 (fun _=>rfl) hl11 bm) (by kernel_rfl) (zJ (qL rfl rfl rfl rfl rfl (gG rfl jl) rfl rfl rfl) (aa h fun l12 hl12 h=>br 3 [] [32,33] [(34,pL Za.enc l12)] (ud 2 Za.enc 2 (fun _=>rfl) hl12 bm) (by kernel_rfl) (hC rfl rfl rfl (bG rfl rfl rfl rfl rfl jl rfl rfl rfl rfl (fun b13=>aa h fun l15 hl15 h=>?_)))))))
 refine hC rfl rfl rfl (gr (enc:=Za.enc) rfl rfl rfl rfl rfl (fun _=>rfl) rfl rfl rfl (by exact aO) hl15 (fun a16 c17=>?_))
 refine r6 (qL rfl rfl rfl rfl rfl (gG rfl jl) rfl rfl rfl) (fun _=>rfl) rfl (fun b19=>aa h fun l21 hl21 h=>?_)
 refine hC rfl rfl rfl (zI (enc:=Za.enc) rfl rfl rfl rfl rfl (fun _=>rfl) rfl rfl rfl rfl e7 rfl (by exact aC aO) hl21 (fun a22 c23=>?_))
 refine aa h fun l25 hl25 h=>?_
 refine hC rfl rfl rfl (gr (enc:=Za.enc) rfl rfl rfl rfl rfl (fun _=>rfl) rfl rfl rfl (by exact aO) hl25 (fun a26 c27=>?_))
 refine ij 1 [(4,pO a26 l25.length c27)] (by kernel_rfl) (bv (aY ?_))
 refine fu (enc:=Za.enc) (xs:=l25) 4 rfl (by exact aO) ?_
 refine bV ?_
 exact zz r h rfl
def gT (p0:Zm) (p1:Zm):Option (Zm×Bool):=Option.bind (cond (decide ((IntKind.u64.wrap (p0.Lo+p1.Lo))<p0.Lo)) (lb ((IntKind.u64.wrap ((IntKind.u64.wrap (p0.Hi+p1.Hi))+1))) (fun w8=>some (w8,((decide ((IntKind.u64.wrap (p0.Hi+p1.Hi))<p0.Hi))||(w8 == 0))))) (some ((IntKind.u64.wrap (p0.Hi+p1.Hi)),(decide ((IntKind.u64.wrap (p0.Hi+p1.Hi))<p0.Hi))))) (fun (v4,v5)=>some ((⟨v4,(IntKind.u64.wrap (p0.Lo+p1.Lo))⟩:Zm),v5))
theorem mA {p0:Zm} {p1:Zm} {r:(Zm×Bool)}  (h:gT p0 p1=some r):PF 155 [.agg [pU p0.Hi,pU p0.Lo],.agg [pU p1.Hi,pU p1.Lo]] (.tup [.agg [pU r.1.Hi,pU r.1.Lo],pB r.2]):=by
 unfold gT at h
 refine bd ?_
 refine du Tryz.func155 rfl Tryz.ntmps155 Tryz.results155 rfl (dc rfl (bh (cs:=[pU p0.Hi,pU p0.Lo]) rfl rfl (fun b1=>an rfl (bh (cs:=[pU p1.Hi,pU p1.Lo]) rfl rfl (fun b2=>an rfl (aM (cs:=[pU 0,pU 0]) rfl rfl rfl rfl (fun b3=>ba [5] (by kernel_rfl) (bY (bk (ρd:=[]) [(0,0),(1,0),(2,0),(3,0),(4,0),(5,0),(6,0),(7,0),(8,0),(9,0),(10,0),(11,0)] _ (List.Perm.refl _) (by kernel_rfl) rfl (pW 12 [2,1,2,1] (rg 9 10) [(6,pU (IntKind.u64.wrap (p0.Lo+p1.Lo))),(7,pU (IntKind.u64.wrap (p0.Hi+p1.Hi)))] (by kernel_rfl) (bv (bY (aI [2] [19,20,21,22] [(8,pB (decide ((IntKind.u64.wrap (p0.Hi+p1.Hi))<p0.Hi)))] (by kernel_rfl) (cq (aI [2] [23,24,25] [(26,pB (decide ((IntKind.u64.wrap (p0.Lo+p1.Lo))<p0.Lo)))] (by kernel_rfl) (fz h fun q6 hq6 h=>?_))))))))))))))))
 refine aq (Y:=Unit×(Int×Bool)) (fun (_,(v4,v5))=>[(4,pP b3 0),(6,pU (IntKind.u64.wrap (p0.Lo+p1.Lo))),(7,pU v4),(8,pB v5)]) (fun (_,(v4,v5))=>[PRes.b b3 167 [pU 0,pU 0]]) (fun (_,(v4,v5))=>q6=(v4,v5)) ?_ ?_
 ·skip
  refine kK rfl hq6 (fun hc7 hq6=>?_) fun hc7 hq6=>?_
  ·refine ae ?_
   refine eZ hq6 ?_;clear hq6;intro w8 hw8 hq6
   refine af (cB 2 [27] [(28,pU (IntKind.u64.wrap ((IntKind.u64.wrap (p0.Hi+p1.Hi))+1)))] (by kernel_rfl) (cb rfl rfl rfl (bW rfl (.p (congrArg (fun z=>PV.v (Value.int .u64 z)) hw8))) (aG (aY (ai (rg 29 5) [(8,pB ((decide ((IntKind.u64.wrap (p0.Hi+p1.Hi))<p0.Hi))||(w8 == 0)))] (by kernel_rfl) ?_)))))
   obtain rfl:=osi hq6
   exact av ((),(w8,((decide ((IntKind.u64.wrap (p0.Hi+p1.Hi))<p0.Hi))||(w8 == 0)))) (jf rfl) cJ rfl
  refine ah ?_
  obtain rfl:=osi hq6
  exact av ((),((IntKind.u64.wrap (p0.Hi+p1.Hi)),(decide ((IntKind.u64.wrap (p0.Hi+p1.Hi))<p0.Hi)))) (jf rfl) cJ rfl
 rintro ⟨_,⟨v4,v5⟩⟩ τ hz;(try dsimp only at hz);subst q6;(try dsimp only at h);dsimp only [aw]
 refine ae (af (cB 4 [34,35] [(36,.agg [pU v4,pU (IntKind.u64.wrap (p0.Lo+p1.Lo))]),(37,pB v5)] (by kernel_rfl) (aP rfl rfl (ak (vs:=[pU v4,pU (IntKind.u64.wrap (p0.Lo+p1.Lo))]) rfl rfl rfl rfl rfl ca sE (aN [(5,pB v5)] (by kernel_rfl) (cU ?_))))))
 obtain rfl:=osi h
 exact aL (cg (dL rfl e7 rfl) (aJ rfl)) bz ⟨rfl,rfl⟩
def kp (p0:Zm) (p1:Int):Option (Zm×Int):=(aU (S:=Int×Int×Int×Int) (T:=(Int×Int×Int)) (fun (v4,v5,v6,v7)=>cond (decide (0≤v5)) (((lB (dD .i64 v5 63)).bind fun u18=>lb ((dD .u64 (cu .u64 p0.Lo (dD .i64 v5 63)) 1)) (fun w19=>Option.bind (cond (decide (63<v5)) ((lB (IntKind.i64.wrap (v5 - 64))).bind fun u23=>lb ((dD .u64 (cu .u64 p0.Hi (IntKind.i64.wrap (v5 - 64))) 1)) (fun w24=>some w24)) (some w19)) (fun v20=>(gT (⟨v6,v7⟩:Zm) (⟨v6,v7⟩:Zm)).bind fun x25=>cond (((cu .u64 v4 63) == 1)||(decide (p1≤(ou .u64 (fy .u64 v4 1) v20)))) (lb ((IntKind.u64.wrap ((ou .u64 (fy .u64 v4 1) v20) - p1))) (fun w27=>some (w27,x25.1.Hi,(ou .u64 x25.1.Lo 1)))) (some ((ou .u64 (fy .u64 v4 1) v20),x25.1.Hi,x25.1.Lo))))).bind fun (v14,v15,v16)=>some (.inl (v14,(IntKind.i64.wrap (v5 - 1)),v15,v16))) (some (.inr (v4,v6,v7)))) FUEL (0,127,0,0)).bind fun (v8,v9,v10)=>some ((⟨v9,v10⟩:Zm),v8)
theorem uh {p0:Zm} {p1:Int} {r:(Zm×Int)}  (h:kp p0 p1=some r):PF 154 [.agg [pU p0.Hi,pU p0.Lo],pU p1] (.tup [.agg [pU r.1.Hi,pU r.1.Lo],pU r.2]):=by
 unfold kp at h
 refine bd ?_
 refine du Tryz.func154 rfl Tryz.ntmps154 Tryz.results154 rfl (dc rfl (bh (cs:=[pU p0.Hi,pU p0.Lo]) rfl rfl (fun b1=>an rfl (aM (cs:=[pU 0,pU 0]) rfl rfl rfl rfl (fun b2=>ba [5] (by kernel_rfl) (bY (af (aF 1 [(11,.agg [pU 0,pU 0])] (by kernel_rfl) (an rfl (aM (cs:=[pU 0,pU 0]) rfl rfl rfl rfl (fun b3=>aP rfl rfl (ak (vs:=[pU 0,pU 0]) rfl rfl rfl rfl rfl ca sE (aN [(7,pU 0)] (by kernel_rfl) (cq (al [(8,pI 127)] (by kernel_rfl) (fz h fun q12 hq12 h=>?_))))))))))))))))
 refine aq (Y:=Unit×(Int×Int×Int)) (fun (_,(v8,v9,v10))=>[(4,pP b2 0),(6,pP b3 0),(7,pU v8)]) (fun (_,(v8,v9,v10))=>[PRes.b b2 167 [pU 0,pU 0],PRes.b b3 167 [pU v9,pU v10]]) (fun (_,(v8,v9,v10))=>q12=(v8,v9,v10)) ?_ ?_
 ·refine aA ?_
  refine aD (Y:=Unit) (S:=Int×Int×Int×Int) _ hq12 (fun _ (v4,v5,v6,v7)=>[(1,pU p1),(2,pP b1 0),(4,pP b2 0),(6,pP b3 0),(7,pU v4),(8,pI v5)]) (fun _ (v4,v5,v6,v7)=>[PRes.b b1 167 [pU p0.Hi,pU p0.Lo],PRes.b b2 167 [pU 0,pU 0],PRes.b b3 167 [pU v6,pU v7]]) () (qV rfl) (be (aC (aC aO)) (be (aC aO) cJ)) ?_
  rintro _ ⟨v4,v5,v6,v7⟩ o τ hb11;(try dsimp only at hb11);dsimp only [aw]
  refine dm (bC [12] [(13,pB (decide (0≤v5)))] (by kernel_rfl) rfl hb11 (fun hc13 hb11=>?_) fun hc13 hb11=>?_)
  ·refine ah ?_
   refine de hb11 fun q17 hq17 hb11=>?_
   refine aq (Y:=Unit×(Int×Int×Int)) (fun (_,(v14,v15,v16))=>[(1,pU p1),(2,pP b1 0),(4,pP b2 0),(6,pP b3 0),(7,pU v14),(8,pI v5)]) (fun (_,(v14,v15,v16))=>[PRes.b b1 167 [pU p0.Hi,pU p0.Lo],PRes.b b2 167 [pU 0,pU 0],PRes.b b3 167 [pU v15,pU v16]]) (fun (_,(v14,v15,v16))=>q17=(v14,v15,v16)) ?_ ?_
   ·skip
    refine pX (aa hq17 fun u18 hu18 hq17=>?_)
    refine eZ hq17 ?_;clear hq17;intro w19 hw19 hq17
    refine af (aS 6 [0] (rg 16 5) [(21,pU (dD .u64 (cu .u64 p0.Lo (dD .i64 v5 63)) 1))] (uc 4 hu18 bm) (by kernel_rfl) (cb rfl rfl rfl (bW rfl (.p (congrArg (fun z=>PV.v (Value.int .u64 z)) hw19))) (aG (cq (ai [22] [(23,pB (decide (63<v5)))] (by kernel_rfl) (fz hq17 fun q21 hq21 hq17=>?_))))))
    refine aq (Y:=Unit×Int) (fun (_,v20)=>[(1,pU p1),(2,pP b1 0),(4,pP b2 0),(6,pP b3 0),(7,pU v4),(8,pI v5),(9,pU v20)]) (fun (_,v20)=>[PRes.b b1 167 [pU p0.Hi,pU p0.Lo],PRes.b b2 167 [pU 0,pU 0],PRes.b b3 167 [pU v6,pU v7]]) (fun (_,v20)=>q21=v20) ?_ ?_
    ·skip
     refine kK rfl hq21 (fun hc22 hq21=>?_) fun hc22 hq21=>?_
     ·refine aa hq21 ?_;clear hq21;intro u23 hu23 hq21
      refine eZ hq21 ?_;clear hq21;intro w24 hw24 hq21
      refine af (aS 6 [0] (rg 24 5) [(29,pU (dD .u64 (cu .u64 p0.Hi (IntKind.i64.wrap (v5 - 64))) 1))] (uc 4 hu23 bm) (by kernel_rfl) (cb rfl rfl rfl (bW rfl (.p (congrArg (fun z=>PV.v (Value.int .u64 z)) hw24))) (aG ?_)))
      obtain rfl:=osi hq21
      exact av ((),w24) (sF rfl) Cl rfl
     refine ah ?_
     obtain rfl:=osi hq21
     exact av ((),w19) (sF rfl) Cl rfl
    rintro ⟨_,v20⟩ τ hz;(try dsimp only at hz);subst q21;(try dsimp only at hq17);dsimp only [aw]
    refine ae (ai [30,31] [(10,pU (cu .u64 v4 63))] (by kernel_rfl) (bY (ai [32,33,34,35] [(7,pU (ou .u64 (fy .u64 v4 1) v20))] (by kernel_rfl) (de hq17 fun x25 hx25 hq17=>af (aS 6 [2,2] [37,38,39,36,41] [(40,.agg [pU x25.1.Hi,pU x25.1.Lo])] (bg 2 (mA hx25) bm) (by kernel_rfl) (aP rfl rfl (ak (vs:=[pU x25.1.Hi,pU x25.1.Lo]) rfl rfl rfl rfl rfl (dx (dx ca)) sE (aG (bY (bC (rg 42 6) [(48,pB (((cu .u64 v4 63) == 1)||(decide (p1≤(ou .u64 (fy .u64 v4 1) v20)))))] (by kernel_rfl) rfl hq17 (fun hc26 hq17=>?_) fun hc26 hq17=>?_))))))))))
    ·refine ae ?_
     refine eZ hq17 ?_;clear hq17;intro w27 hw27 hq17
     refine af (cB 3 [49,50] [(51,pU (IntKind.u64.wrap ((ou .u64 (fy .u64 v4 1) v20) - p1)))] (by kernel_rfl) (cb rfl rfl rfl (bW rfl (.p (congrArg (fun z=>PV.v (Value.int .u64 z)) hw27))) (aG (aY (af (cG 4 [2] [52,53] [(54,pU (ou .u64 x25.1.Lo 1)),(55,pP b3 1)] (by kernel_rfl) (aP rfl rfl (ak (vs:=[pU (ou .u64 x25.1.Lo 1)]) rfl rfl rfl rfl rfl (dx (dx ca)) (dM mT) (aG (aB ?_))))))))))
     obtain rfl:=osi hq17
     exact av ((),(w27,x25.1.Hi,(ou .u64 x25.1.Lo 1))) (qV rfl) Cl rfl
    refine ah ?_
    refine aB ?_
    obtain rfl:=osi hq17
    exact av ((),((ou .u64 (fy .u64 v4 1) v20),x25.1.Hi,x25.1.Lo)) (qV rfl) Cl rfl
   rintro ⟨_,⟨v14,v15,v16⟩⟩ τ hz;(try dsimp only at hz);subst q17;(try dsimp only at hb11);dsimp only [aw]
   refine ai [14,15] [(8,pI (IntKind.i64.wrap (v5 - 1)))] (by kernel_rfl) ?_
   exact aT hb11 () (qV rfl) Cl
  refine aH ?_
  refine cx hb11 (fun ht=>aj rfl ?_)
  exact av ((),(v4,v6,v7)) (lR rfl) (be (aC aO) (be (aC aO) bz)) ht.symm
 rintro ⟨_,⟨v8,v9,v10⟩⟩ τ hz;(try dsimp only at hz);subst q12;(try dsimp only at h);dsimp only [aw]
 refine ae (af (gt 2 [1] [(56,.agg [pU v9,pU v10]),(57,pU v8)] (by kernel_rfl) (aP rfl rfl (ak (vs:=[pU v9,pU v10]) rfl rfl rfl rfl rfl ca sE (aN [(5,pU v8)] (by kernel_rfl) (cU ?_))))))
 obtain rfl:=osi h
 exact aL (cg (dL rfl e7 rfl) (aJ rfl)) bz ⟨rfl,rfl⟩
def oa (p0:Zm) (p1:Int) (p2:Int):Option (Int×Int):=cond (((p1 == 0)||(decide (p2<0)))||(decide (3<p2))) (some ((0:Int),(2:Int))) ((kp p0 p1).bind fun x3=>Option.bind (cond (p2 == 1) (some (decide (0<x3.2))) (cond (p2 == 2) (some (decide ((IntKind.u64.wrap (p1 - x3.2))≤x3.2))) (cond (p2 == 3) (some ((decide ((IntKind.u64.wrap (p1 - x3.2))<x3.2))||((x3.2 == (IntKind.u64.wrap (p1 - x3.2)))&&((dD .u64 x3.1.Lo 1) == 1)))) (some false)))) (fun v5=>Option.bind (cond v5 ((gT x3.1 (⟨0,1⟩:Zm)).bind fun x14=>some (x14.1.Hi,x14.1.Lo)) (some (x3.1.Hi,x3.1.Lo))) (fun (v10,v11)=>cond (decide (0<v10)) (some ((0:Int),(3:Int))) (some (v11,(0:Int))))))
theorem yy {p0:Zm} {p1:Int} {p2:Int} {r:(Int×Int)}  (h:oa p0 p1 p2=some r):PF 107 [.agg [pU p0.Hi,pU p0.Lo],pU p1,pI p2] (.tup [pU r.1,pI r.2]):=by
 unfold oa at h
 refine bd ?_
 refine du Tryz.func107 rfl Tryz.ntmps107 Tryz.results107 rfl (dc rfl (bh (cs:=[pU p0.Hi,pU p0.Lo]) rfl rfl (fun b1=>ba [6,7] (by kernel_rfl) (cq (bC (rg 11 9) [(20,pB (((p1 == 0)||(decide (p2<0)))||(decide (3<p2))))] (by kernel_rfl) rfl h (fun hc2 h=>?_) fun hc2 h=>?_)))))
 ·refine ae ?_
  refine dl [(6,pU 0),(7,pI 2)] (by kernel_rfl) (am ?_)
  obtain rfl:=osi h
  exact aL (cg (aJ rfl) (aJ rfl)) bz ⟨rfl,rfl⟩
 refine ah ?_
 refine de h fun x3 hx3 h=>af (aS 6 [0] [22,23,24,21] [(25,.agg [pU x3.1.Hi,pU x3.1.Lo]),(26,pU x3.2)] (bg 2 (uh hx3) bm) (by kernel_rfl) (an rfl (aM (cs:=[pU 0,pU 0]) rfl rfl rfl rfl (fun b4=>aP rfl rfl (ak (vs:=[pU x3.1.Hi,pU x3.1.Lo]) rfl rfl rfl rfl rfl ca sE (aN [(9,pU x3.2)] (by kernel_rfl) (bY (al [(10,pB false)] (by kernel_rfl) (cq (al [(27,pI p2)] (by kernel_rfl) (fz h fun q6 hq6 h=>?_)))))))))))
 refine aq (Y:=Unit×Bool) (fun (_,v5)=>[(8,pP b4 0),(10,pB v5)]) (fun (_,v5)=>[PRes.b b4 167 [pU x3.1.Hi,pU x3.1.Lo]]) (fun (_,v5)=>q6=v5) ?_ ?_
 ·skip
  refine pX (bC [29] [(28,pB (p2 == 1))] (by kernel_rfl) rfl hq6 (fun hc7 hq6=>?_) fun hc7 hq6=>?_)
  ·refine ai [30,31] [(10,pB (decide (0<x3.2)))] (by kernel_rfl) ?_
   refine aB ?_
   obtain rfl:=osi hq6
   exact av ((),(decide (0<x3.2))) (mK rfl) cJ rfl
  refine ae ?_
  refine bC [33] [(32,pB (p2 == 2))] (by kernel_rfl) rfl hq6 (fun hc8 hq6=>?_) fun hc8 hq6=>?_
  ·refine ai (rg 34 5) [(10,pB (decide ((IntKind.u64.wrap (p1 - x3.2))≤x3.2)))] (by kernel_rfl) ?_
   refine aB ?_
   obtain rfl:=osi hq6
   exact av ((),(decide ((IntKind.u64.wrap (p1 - x3.2))≤x3.2))) (mK rfl) cJ rfl
  refine ae ?_
  refine bC [40] [(39,pB (p2 == 3))] (by kernel_rfl) rfl hq6 (fun hc9 hq6=>?_) fun hc9 hq6=>?_
  ·refine aI [0] (rg 41 18) [(10,pB ((decide ((IntKind.u64.wrap (p1 - x3.2))<x3.2))||((x3.2 == (IntKind.u64.wrap (p1 - x3.2)))&&((dD .u64 x3.1.Lo 1) == 1))))] (by kernel_rfl) ?_
   refine aB ?_
   obtain rfl:=osi hq6
   exact av ((),((decide ((IntKind.u64.wrap (p1 - x3.2))<x3.2))||((x3.2 == (IntKind.u64.wrap (p1 - x3.2)))&&((dD .u64 x3.1.Lo 1) == 1)))) (mK rfl) cJ rfl
  refine ah ?_
  refine aB ?_
  obtain rfl:=osi hq6
  exact av ((),false) (mK rfl) cJ rfl
 rintro ⟨_,v5⟩ τ hz;(try dsimp only at hz);subst q6;(try dsimp only at h);dsimp only [aw]
 refine dm (al [(59,pB v5)] (by kernel_rfl) (fz h fun q12 hq12 h=>?_))
 refine aq (Y:=Unit×(Int×Int)) (fun (_,(v10,v11))=>[(8,pP b4 0)]) (fun (_,(v10,v11))=>[PRes.b b4 167 [pU v10,pU v11]]) (fun (_,(v10,v11))=>q12=(v10,v11)) ?_ ?_
 ·skip
  refine kK rfl hq12 (fun hc13 hq12=>?_) fun hc13 hq12=>?_
  ·refine aa hq12 ?_;clear hq12;intro x14 hx14 hq12
   refine af (aS 6 [0] [61,62,63,60,65] [(64,.agg [pU x14.1.Hi,pU x14.1.Lo])] (bg 2 (mA hx14) bm) (by kernel_rfl) (aP rfl rfl (ak (vs:=[pU x14.1.Hi,pU x14.1.Lo]) rfl rfl rfl rfl rfl ca sE (aG ?_))))
   obtain rfl:=osi hq12
   exact av ((),(x14.1.Hi,x14.1.Lo)) (re rfl) cJ rfl
  refine ah ?_
  obtain rfl:=osi hq12
  exact av ((),(x3.1.Hi,x3.1.Lo)) (re rfl) cJ rfl
 rintro ⟨_,⟨v10,v11⟩⟩ τ hz;(try dsimp only at hz);subst q12;(try dsimp only at h);dsimp only [aw]
 refine dm (aI [0] [66,67] [(68,pB (decide (0<v10)))] (by kernel_rfl) (cS rfl h (fun hc15 h=>?_) fun hc15 h=>?_))
 ·refine ae ?_
  refine dl [(6,pU 0),(7,pI 3)] (by kernel_rfl) (am ?_)
  obtain rfl:=osi h
  exact aL (cg (aJ rfl) (aJ rfl)) bz ⟨rfl,rfl⟩
 refine ah ?_
 refine bY (aI [0] [69,70] [(6,pU v11),(7,pI 0)] (by kernel_rfl) (cU ?_))
 obtain rfl:=osi h
 exact aL (cg (aJ rfl) (aJ rfl)) bz ⟨rfl,rfl⟩
def jT (p0:Int) (p1:Int):Option Zm:=(aU (S:=Int×Int×Int) (T:=(Int×Int)) (fun (v3,v4,v5)=>cond (decide (0≤v3)) (((gT (⟨v4,v5⟩:Zm) (⟨v4,v5⟩:Zm)).bind fun x14=>(lB v3).bind fun u15=>cond ((dD .u64 (cu .u64 p1 v3) 1) == 1) ((gT x14.1 (⟨0,p0⟩:Zm)).bind fun x17=>some (x17.1.Hi,x17.1.Lo)) (some (x14.1.Hi,x14.1.Lo))).bind fun (v11,v12)=>some (.inl ((IntKind.i64.wrap (v3 - 1)),v11,v12))) (some (.inr (v4,v5)))) FUEL (63,0,0)).bind fun (v6,v7)=>some (⟨v6,v7⟩:Zm)
theorem oM {p0:Int} {p1:Int} {r:Zm}  (h:jT p0 p1=some r):PF 108 [pU p0,pU p1] (.agg [pU r.Hi,pU r.Lo]):=by
 unfold jT at h
 refine bd ?_
 refine du Tryz.func108 rfl Tryz.ntmps108 Tryz.results108 rfl (dc rfl (aM (cs:=[pU 0,pU 0]) rfl rfl rfl rfl (fun b1=>aG (bY (af (aF 1 [(7,.agg [pU 0,pU 0])] (by kernel_rfl) (an rfl (aM (cs:=[pU 0,pU 0]) rfl rfl rfl rfl (fun b2=>aP rfl rfl (ak (vs:=[pU 0,pU 0]) rfl rfl rfl rfl rfl ca sE (aG (cq (al [(6,pI 63)] (by kernel_rfl) (fz h fun q9 hq9 h=>?_))))))))))))))
 refine aq (Y:=Unit×(Int×Int)) (fun (_,(v6,v7))=>[(4,pP b1 0),(5,pP b2 0)]) (fun (_,(v6,v7))=>[PRes.b b1 167 [pU 0,pU 0],PRes.b b2 167 [pU v6,pU v7]]) (fun (_,(v6,v7))=>q9=(v6,v7)) ?_ ?_
 ·refine aA ?_
  refine aD (Y:=Unit) (S:=Int×Int×Int) _ hq9 (fun _ (v3,v4,v5)=>[(0,pU p0),(1,pU p1),(4,pP b1 0),(5,pP b2 0),(6,pI v3)]) (fun _ (v3,v4,v5)=>[PRes.b b1 167 [pU 0,pU 0],PRes.b b2 167 [pU v4,pU v5]]) () (nu rfl) (be (aC aO) cJ) ?_
  rintro _ ⟨v3,v4,v5⟩ o τ hb8;(try dsimp only at hb8);dsimp only [aw]
  refine dm (bC [8] [(9,pB (decide (0≤v3)))] (by kernel_rfl) rfl hb8 (fun hc10 hb8=>?_) fun hc10 hb8=>?_)
  ·refine ah ?_
   refine de hb8 fun q13 hq13 hb8=>?_
   refine aq (Y:=Unit×(Int×Int)) (fun (_,(v11,v12))=>[(0,pU p0),(1,pU p1),(4,pP b1 0),(5,pP b2 0),(6,pI v3)]) (fun (_,(v11,v12))=>[PRes.b b1 167 [pU 0,pU 0],PRes.b b2 167 [pU v11,pU v12]]) (fun (_,(v11,v12))=>q13=(v11,v12)) ?_ ?_
   ·skip
    refine pX (aa hq13 fun x14 hx14 hq13=>af (aS 6 [1,1] [13,14,15,12,17] [(16,.agg [pU x14.1.Hi,pU x14.1.Lo])] (bg 2 (mA hx14) bm) (by kernel_rfl) (aP rfl rfl (ak (vs:=[pU x14.1.Hi,pU x14.1.Lo]) rfl rfl rfl rfl rfl (dx ca) sE (aG (de hq13 fun u15 hu15 hq13=>ap [] [18,19,20,21] [(22,pB ((dD .u64 (cu .u64 p1 v3) 1) == 1))] (uc 2 hu15 bm) (by kernel_rfl) (cS rfl hq13 (fun hc16 hq13=>?_) fun hc16 hq13=>?_)))))))
    ·refine aa hq13 ?_;clear hq13;intro x17 hx17 hq13
     refine af (aS 7 [1] [24,25,26,27,23,29] [(28,.agg [pU x17.1.Hi,pU x17.1.Lo])] (bg 3 (mA hx17) bm) (by kernel_rfl) (aP rfl rfl (ak (vs:=[pU x17.1.Hi,pU x17.1.Lo]) rfl rfl rfl rfl rfl (dx ca) sE (aG (aB ?_)))))
     obtain rfl:=osi hq13
     exact av ((),(x17.1.Hi,x17.1.Lo)) (nu rfl) ni rfl
    refine ah ?_
    refine aB ?_
    obtain rfl:=osi hq13
    exact av ((),(x14.1.Hi,x14.1.Lo)) (nu rfl) ni rfl
   rintro ⟨_,⟨v11,v12⟩⟩ τ hz;(try dsimp only at hz);subst q13;(try dsimp only at hb8);dsimp only [aw]
   refine ai [10,11] [(6,pI (IntKind.i64.wrap (v3 - 1)))] (by kernel_rfl) ?_
   exact aT hb8 () (nu rfl) ni
  refine aH ?_
  refine cx hb8 (fun ht=>aj rfl ?_)
  exact av ((),(v4,v5)) (mK rfl) ni ht.symm
 rintro ⟨_,⟨v6,v7⟩⟩ τ hz;(try dsimp only at hz);subst q9;(try dsimp only at h);dsimp only [aw]
 refine ae (af (gt 1 [1] [(30,.agg [pU v6,pU v7])] (by kernel_rfl) (aP rfl rfl (ak (vs:=[pU v6,pU v7]) rfl rfl rfl rfl rfl ca sE (aG (cU ?_))))))
 obtain rfl:=osi h
 exact aL (cZ (dL rfl e7 rfl)) bz ⟨rfl,rfl⟩
def kq (p0:Int) (p1:Int) (p2:Int) (p3:Int):Option (Int×Int):=(jT p0 p1).bind fun x1=>(oa x1 p2 p3).bind fun x2=>some (x2.1,x2.2)
theorem ui {p0:Int} {p1:Int} {p2:Int} {p3:Int} {r:(Int×Int)}  (h:kq p0 p1 p2 p3=some r):PF 60 [pU p0,pU p1,pU p2,pI p3] (.tup [pU r.1,pI r.2]):=by
 unfold kq at h
 refine bd ?_
 refine du Tryz.func60 rfl Tryz.ntmps60 Tryz.results60 rfl (aV [8,9] (by kernel_rfl) (de h fun x1 hx1 h=>aa h fun x2 hx2 h=>ap [] (rg 10 8) [(8,pU x2.1),(9,pI x2.2)] (bg 2 (oM hx1) (bg 5 (yy hx2) bm)) (by kernel_rfl) (cU ?_)))
 obtain rfl:=osi h
 exact aL (cg (aJ rfl) (aJ rfl)) bz ⟨rfl,rfl⟩
def fB (p0:(List Zc)) (p1:(List Zb)) (p2:ByteArray) (p3:Za) (p4:(List Za)):Option (Zl×(List Za)):=(cY p0 p1 p2 p3).bind fun x3=>cond (!x3) (some ((⟨ByteArray.empty,0,false,[],[]⟩:Zl),[])) ((eR p0 p3.Product).bind fun x5=>(dV p1 p3.Agreement).bind fun x7=>(iT p1 p3.Agreement x5.1.Country p2).bind fun x9=>(aU (S:=(List Za)×(List ByteArray)×Int×(List Zk)) (T:=((List Za)×(List ByteArray)×(List Zk))) (fun (l13,l14,v15,l17)=>cond (decide (v15<(x5.1.Inputs.length:Int))) (((idx x5.1.Inputs v15).bind fun m37=>(eR p0 m37.Product).bind fun x39=>(gd (x7.1.Kind == 3) (iA x7.1.Parties x39.1.Country)).bind fun x41=>Option.bind (cond ((x7.1.Kind == 3)&&x41) ((jS l14 x39.1.Processes).bind fun x46=>some x46) (some l14)) (fun l42=>(iB x9 x39.1.ID p4).bind fun x47=>Option.bind (cond x47.2 ((ez l13 x47.1).bind fun x53=>some x53) (some l13)) (fun l49=>cond ((x47.2||(!((x7.1.Kind == 3)&&x41)))||((x39.1.Inputs.length:Int) == 0)) ((app 32 l17 [(⟨x39.1.Code,m37.Value,x47.2⟩:Zk)]).bind fun l57=>some (l49,l42,l57)) ((aU (S:=(List Za)×Int×(List Zk)) (T:=((List Za)×(List Zk))) (fun (l61,v62,l64)=>cond (decide (v62<(x39.1.Inputs.length:Int))) ((idx x39.1.Inputs v62).bind fun m75=>(eR p0 m75.Product).bind fun x76=>(idx x39.1.Inputs v62).bind fun m78=>(kq (IntKind.u64.wrap m37.Value) (IntKind.u64.wrap m78.Value) (IntKind.u64.wrap x39.1.Price) 1).bind fun x79=>Option.bind (cond ((x79.2 == 0)&&(decide (x79.1<1000000000000))) (some (IntKind.i64.wrap x79.1)) (some 1000000000000)) (fun v80=>(iB x9 x76.1.ID p4).bind fun x84=>Option.bind (cond x84.2 ((ez l61 x84.1).bind fun x90=>some x90) (some l61)) (fun l86=>(app 32 l64 [(⟨x76.1.Code,v80,x84.2⟩:Zk)]).bind fun l93=>some (.inl (l86,(IntKind.i64.wrap (v62+1)),l93))))) (some (.inr (l61,l64)))) FUEL (l49,0,l17)).bind fun (l67,l71)=>some (l67,l42,l71))))).bind fun (l30,l31,l35)=>some (.inl (l30,l31,(IntKind.i64.wrap (v15+1)),l35))) (some (.inr (l13,l14,l17)))) FUEL (([]:List Za),x5.1.Processes,0,([]:List Zk))).bind fun (l20,l21,l25)=>(sub l21 0 (pr (l21.length:Int) 8)).bind fun l98=>some ((⟨x5.1.Code,x5.1.Price,x5.1.Obtained,l98,l25⟩:Zl),l20))
theorem pn {p0:(List Zc)} {p1:(List Zb)} {p2:ByteArray} {p3:Za} {p4:(List Za)} {r:(Zl×(List Za))}  (h:fB p0 p1 p2 p3 p4=some r):PF 18 [pL Zc.enc p0,pL Zb.enc p1,pS p2,.agg [pI p3.Product,pI p3.Agreement],pL Za.enc p4] (.tup [.agg (bp r.1),pL Za.enc r.2]):=by
 unfold fB at h
 refine bd ?_
 refine du Tryz.func18 rfl Tryz.ntmps18 Tryz.results18 rfl (dc rfl (bh (cs:=[pI p3.Product,pI p3.Agreement]) rfl rfl (fun b1=>an rfl (aM (cs:=[pS ByteArray.empty,pI 0,pB false,pN,pN]) rfl rfl rfl rfl (fun b2=>ba [11] (by kernel_rfl) (cq (aa h fun x3 hx3 h=>ap [1] (rg 35 5) [(40,pB (!x3))] (bg 4 (jg hx3) bm) (by kernel_rfl) (cS rfl h (fun hc4 h=>?_) fun hc4 h=>?_))))))))
 ·refine ae ?_
  refine af (aF 1 [(41,.agg [pS ByteArray.empty,pI 0,pB false,pN,pN])] (by kernel_rfl) (aP rfl rfl (ak (vs:=[pS ByteArray.empty,pI 0,pB false,pN,pN]) rfl rfl rfl rfl rfl ca ET (aN [(11,pN)] (by kernel_rfl) (aY (cV (k:=3) (b:=b2) rfl ca (cV (k:=4) (b:=b2) rfl ca (hU 11 rfl (bV (am ?_))))))))))
  obtain rfl:=osi h
  exact aL (cg (dL rfl e7 rfl) (aJ rfl)) bz ⟨rfl,rfl⟩
 refine ah ?_
 refine de h fun x5 hx5 h=>af (aS 7 [1] [43,44,45,46,42] [(47,.agg (aK x5.1)),(48,pB x5.2)] (bg 3 (iz hx5) bm) (by kernel_rfl) (an rfl (aM (cs:=[pI 0,pS ByteArray.empty,pS ByteArray.empty,pI 0,pB false,pN,pN]) rfl rfl rfl rfl (fun b6=>aP rfl rfl (ak (vs:=(aK x5.1)) rfl rfl rfl rfl rfl ca nj (ba [13] (by kernel_rfl) (de h fun x7 hx7 h=>af (aS 7 [2] [50,51,52,53,49] [(54,.agg (az x7.1)),(55,pB x7.2)] (bg 3 (hY hx7) bm) (by kernel_rfl) (an rfl (aM (cs:=[pI 0,pI 0,pN,pN]) rfl rfl rfl rfl (fun b8=>aP rfl rfl (ak (vs:=(az x7.1)) rfl rfl rfl rfl rfl ca tH (ba [15] (by kernel_rfl) (de h fun x9 hx9 h=>ap [3,1] (rg 56 7) [(16,pL eI x9)] (bg 6 (se hx9) bm) (by kernel_rfl) (bY (af (cG 7 [1,1,1] (rg 63 6) [(69,.agg [pS x5.1.Code,pI x5.1.Price,pB x5.1.Obtained,pN,pN])] (by kernel_rfl) (an rfl (bG rfl rfl rfl rfl rfl jl rfl rfl rfl rfl (fun b10=>an rfl (aM (cs:=[pS ByteArray.empty,pI 0,pB false,pN,pN]) rfl rfl rfl rfl (fun b12=>aP rfl rfl (ak (vs:=[pS x5.1.Code,pI x5.1.Price,pB x5.1.Obtained,pN,pN]) rfl rfl rfl rfl rfl ca ET (aN [(18,pO (some ⟨b10,0,none⟩) 0 0)] (by kernel_rfl) (bY (aI [3] [71,72] [(19,pL eS x5.1.Processes)] (by kernel_rfl) (cq (al [(20,pI 0)] (by kernel_rfl) (aY (dp 103 3 ?_))))))))))))))))))))))))))))))
 refine fu (enc:=Za.enc) (xs:=([]:List Za)) 18 rfl (by exact aC (aC aO)) ?_
 refine aa h fun q27 hq27 h=>?_
 refine aq (Y:=(Option Addr×Nat)×((List Za)×(List ByteArray)×(List Zk))) (fun ((a23,c24),(l20,l21,l25))=>[(10,pP b2 0),(17,pP b12 0),(18,pL Za.enc l20),(19,pL eS l21)]) (fun ((a23,c24),(l20,l21,l25))=>[PRes.b b12 36 [pS x5.1.Code,pI x5.1.Price,pB x5.1.Obtained,pN,pO a23 l25.length c24],PRes.b b2 36 [pS ByteArray.empty,pI 0,pB false,pN,pN],PRes.row a23 l25.length c24 103 3 (List.map Zk.enc l25)]) (fun ((a23,c24),(l20,l21,l25))=>q27=(l20,l21,l25)) ?_ ?_
 ·refine aA ?_
  refine aD (Y:=Option Addr×Nat) (S:=(List Za)×(List ByteArray)×Int×(List Zk)) _ hq27 (fun (a18,c19) (l13,l14,v15,l17)=>[(0,pL Zc.enc p0),(4,pL Za.enc p4),(10,pP b2 0),(12,pP b6 0),(14,pP b8 0),(16,pL eI x9),(17,pP b12 0),(18,pL Za.enc l13),(19,pL eS l14),(20,pI v15)]) (fun (a18,c19) (l13,l14,v15,l17)=>[PRes.b b12 36 [pS x5.1.Code,pI x5.1.Price,pB x5.1.Obtained,pN,pO a18 l17.length c19],PRes.b b2 36 [pS ByteArray.empty,pI 0,pB false,pN,pN],PRes.b b6 76 (aK x5.1),PRes.b b8 81 (az x7.1),PRes.row a18 l17.length c19 103 3 (List.map Zk.enc l17)]) (none,0) (eE rfl (sG rfl)) (be (aC (aC aO)) (be (aC (aC (aC (aC aO)))) (be (aC (aC (aC aO))) (be (aC (aC aO)) (be (aC aO) bz))))) ?_
  rintro ⟨a18,c19⟩ ⟨l13,l14,v15,l17⟩ o τ hb26;(try dsimp only at hb26);dsimp only [aw]
  refine dm (aI [2] [73,74,75,76] [(77,pB (decide (v15<(x5.1.Inputs.length:Int))))] (by kernel_rfl) (cS rfl hb26 (fun hc29 hb26=>?_) fun hc29 hb26=>?_))
  ·refine ah ?_
   refine de hb26 fun q36 hq36 hb26=>?_
   refine aq (Y:=(Option Addr×Nat)×((List Za)×(List ByteArray)×(List Zk))) (fun ((a33,c34),(l30,l31,l35))=>[(0,pL Zc.enc p0),(4,pL Za.enc p4),(10,pP b2 0),(12,pP b6 0),(14,pP b8 0),(16,pL eI x9),(17,pP b12 0),(18,pL Za.enc l30),(19,pL eS l31),(20,pI v15)]) (fun ((a33,c34),(l30,l31,l35))=>[PRes.b b12 36 [pS x5.1.Code,pI x5.1.Price,pB x5.1.Obtained,pN,pO a33 l35.length c34],PRes.b b2 36 [pS ByteArray.empty,pI 0,pB false,pN,pN],PRes.b b6 76 (aK x5.1),PRes.b b8 81 (az x7.1),PRes.row a33 l35.length c34 103 3 (List.map Zk.enc l35)]) (fun ((a33,c34),(l30,l31,l35))=>q36=(l30,l31,l35)) ?_ ?_
   ·skip
    refine pX (aa hq36 fun m37 hm37 hq36=>af (aS 5 [2] [80,81,82,83] [(84,.agg [pI m37.Product,pI m37.Value])] (cO 3 Zh.enc hm37 bm) (by kernel_rfl) (an rfl (aM (cs:=[pI 0,pI 0]) rfl rfl rfl rfl (fun b38=>aP rfl rfl (ak (vs:=[pI m37.Product,pI m37.Value]) rfl rfl rfl rfl rfl ca sE (aG (de hq36 fun x39 hx39 hq36=>af (aS 7 [0] [86,87,88,89,85] [(90,.agg (aK x39.1)),(91,pB x39.2)] (bg 3 (iz hx39) bm) (by kernel_rfl) (an rfl (aM (cs:=[pI 0,pS ByteArray.empty,pS ByteArray.empty,pI 0,pB false,pN,pN]) rfl rfl rfl rfl (fun b40=>aP rfl rfl (ak (vs:=(aK x39.1)) rfl rfl rfl rfl rfl ca nj (ba [23] (by kernel_rfl) (de hq36 fun x41 hx41 hq36=>ap [5,5,0] (rg 92 10) [(24,pB ((x7.1.Kind == 3)&&x41))] (eK 8 (fun hc=>i5 (cH hx41 hc)) bm) (by kernel_rfl) (cq (al [(102,pB ((x7.1.Kind == 3)&&x41))] (by kernel_rfl) (fz hq36 fun q44 hq44 hq36=>?_))))))))))))))))))
    refine aq (Y:=Unit×((List ByteArray))) (fun (_,l42)=>[(0,pL Zc.enc p0),(4,pL Za.enc p4),(10,pP b2 0),(12,pP b6 0),(14,pP b8 0),(16,pL eI x9),(17,pP b12 0),(18,pL Za.enc l13),(19,pL eS l42),(20,pI v15),(21,pP b38 0),(22,pP b40 0),(24,pB ((x7.1.Kind == 3)&&x41))]) (fun (_,l42)=>[PRes.b b12 36 [pS x5.1.Code,pI x5.1.Price,pB x5.1.Obtained,pN,pO a18 l17.length c19],PRes.b b2 36 [pS ByteArray.empty,pI 0,pB false,pN,pN],PRes.b b38 78 [pI m37.Product,pI m37.Value],PRes.b b40 76 (aK x39.1),PRes.b b6 76 (aK x5.1),PRes.b b8 81 (az x7.1),PRes.row a18 l17.length c19 103 3 (List.map Zk.enc l17)]) (fun (_,l42)=>q44=l42) ?_ ?_
    ·skip
     refine kK rfl hq44 (fun hc45 hq44=>?_) fun hc45 hq44=>?_
     ·refine aa hq44 ?_;clear hq44;intro x46 hx46 hq44
      refine ap [0] [103,104,105,106] [(19,pL eS x46)] (bg 3 (vy hx46) bm) (by kernel_rfl) ?_
      obtain rfl:=osi hq44
      exact av ((),x46) (eE rfl (eE rfl (eE rfl (eE rfl (sG rfl))))) (be (aC (aC aO)) (be (aC (aC aO)) (be (aC aO) D4))) rfl
     refine ah ?_
     obtain rfl:=osi hq44
     exact av ((),l14) (eE rfl (eE rfl (eE rfl (eE rfl (sG rfl))))) (be (aC (aC aO)) (be (aC (aC aO)) (be (aC aO) D4))) rfl
    rintro ⟨_,l42⟩ τ hz;(try dsimp only at hz);subst q44;(try dsimp only at hq36);dsimp only [aw]
    refine ae (aa hq36 fun x47 hx47 hq36=>af (aS 8 [3] ((rg 108 5)++[107]) [(113,.agg [pI x47.1.Product,pI x47.1.Agreement]),(114,pB x47.2)] (bg 4 (n9 hx47) bm) (by kernel_rfl) (an rfl (aM (cs:=[pI 0,pI 0]) rfl rfl rfl rfl (fun b48=>aP rfl rfl (ak (vs:=[pI x47.1.Product,pI x47.1.Agreement]) rfl rfl rfl rfl rfl ca sE (aN [(26,pB x47.2)] (by kernel_rfl) (cq (al [(115,pB x47.2)] (by kernel_rfl) (fz hq36 fun q51 hq51 hq36=>?_))))))))))
    refine aq (Y:=Unit×((List Za))) (fun (_,l49)=>[(0,pL Zc.enc p0),(4,pL Za.enc p4),(10,pP b2 0),(12,pP b6 0),(14,pP b8 0),(16,pL eI x9),(17,pP b12 0),(18,pL Za.enc l49),(19,pL eS l42),(20,pI v15),(21,pP b38 0),(22,pP b40 0),(24,pB ((x7.1.Kind == 3)&&x41)),(26,pB x47.2)]) (fun (_,l49)=>[PRes.b b12 36 [pS x5.1.Code,pI x5.1.Price,pB x5.1.Obtained,pN,pO a18 l17.length c19],PRes.b b2 36 [pS ByteArray.empty,pI 0,pB false,pN,pN],PRes.b b38 78 [pI m37.Product,pI m37.Value],PRes.b b40 76 (aK x39.1),PRes.b b6 76 (aK x5.1),PRes.b b8 81 (az x7.1),PRes.row a18 l17.length c19 103 3 (List.map Zk.enc l17)]) (fun (_,l49)=>q51=l49) ?_ ?_
    ·skip
     refine kK rfl hq51 (fun hc52 hq51=>?_) fun hc52 hq51=>?_
     ·refine aa hq51 ?_;clear hq51;intro x53 hx53 hq51
      refine ap [0] [116,117,118] [(18,pL Za.enc x53)] (bg 2 (js hx53) bm) (by kernel_rfl) ?_
      obtain rfl:=osi hq51
      exact av ((),x53) (eE rfl (eE rfl (eE rfl (eE rfl (eE rfl (sG rfl)))))) (be (aC aO) (be (aC aO) (be (aC aO) (be (aC aO) (be (aC aO) (be (aC aO) (be (aC aO) bz))))))) rfl
     refine ah ?_
     obtain rfl:=osi hq51
     exact av ((),l13) (eE rfl (eE rfl (eE rfl (eE rfl (eE rfl (sG rfl)))))) (be (aC aO) (be (aC aO) (be (aC aO) (be (aC aO) (be (aC aO) (be (aC aO) (be (aC aO) bz))))))) rfl
    rintro ⟨_,l49⟩ τ hz;(try dsimp only at hz);subst q51;(try dsimp only at hq36);dsimp only [aw]
    refine dm (aI [3] (rg 119 10) [(129,pB ((x47.2||(!((x7.1.Kind == 3)&&x41)))||((x39.1.Inputs.length:Int) == 0)))] (by kernel_rfl) (cS rfl hq36 (fun hc54 hq36=>?_) fun hc54 hq36=>?_))
    ·refine ae ?_
     refine af (cG 8 [0,3,2] [130,132,133,134,135,136] [(131,pO a18 l17.length c19),(137,.agg [pS x39.1.Code,pI m37.Value,pB x47.2])] (by kernel_rfl) (an rfl (bG rfl rfl rfl rfl rfl (gG rfl jl) rfl rfl rfl rfl (fun b55=>aa hq36 fun l57 hl57 hq36=>?_))))
     refine an rfl (ce (enc:=Zk.enc) rfl rfl rfl rfl rfl rfl rfl rfl rfl e7 (by exact aC (aC (aC (aC (aC (aC (aC aO))))))) hl57 (fun a58 c59=>?_))
     refine aF 1 [(140,pP b12 4)] (by kernel_rfl) (aP rfl rfl (ak (vs:=[pO a58 l57.length c59]) rfl rfl rfl rfl rfl (dx (dx ca)) (dM (dM (dM (dM mT)))) (aG (aY (aH (gZ (aj rfl ?_)))))))
     obtain rfl:=osi hq36
     exact av ((a58,c59),(l49,l42,l57)) (eE rfl (sG rfl)) (be (aC (aC aO)) (be (aC (aC aO)) (be (aC (aC (aC (aC aO)))) (be (aC (aC (aC (aC aO)))) cJ)))) rfl
    refine ah ?_
    refine bY (al [(27,pI 0)] (by kernel_rfl) (fz hq36 fun q73 hq73 hq36=>?_))
    refine iM (Y:=(Option Addr×Nat)×((List Za)×(List Zk))) (fun ((a69,c70),(l67,l71))=>[(0,pL Zc.enc p0),(4,pL Za.enc p4),(10,pP b2 0),(12,pP b6 0),(14,pP b8 0),(16,pL eI x9),(17,pP b12 0),(18,pL Za.enc l67),(19,pL eS l42),(20,pI v15)]) (fun ((a69,c70),(l67,l71))=>[PRes.b b12 36 [pS x5.1.Code,pI x5.1.Price,pB x5.1.Obtained,pN,pO a69 l71.length c70],PRes.b b2 36 [pS ByteArray.empty,pI 0,pB false,pN,pN],PRes.b b6 76 (aK x5.1),PRes.b b8 81 (az x7.1),PRes.row a69 l71.length c70 103 3 (List.map Zk.enc l71)]) (fun ((a69,c70),(l67,l71))=>q73=(l67,l71)) ?_ ?_
    ·refine aA ?_
     refine aD (Y:=Option Addr×Nat) (S:=(List Za)×Int×(List Zk)) _ hq73 (fun (a65,c66) (l61,v62,l64)=>[(0,pL Zc.enc p0),(4,pL Za.enc p4),(10,pP b2 0),(12,pP b6 0),(14,pP b8 0),(16,pL eI x9),(17,pP b12 0),(18,pL Za.enc l61),(19,pL eS l42),(20,pI v15),(21,pP b38 0),(22,pP b40 0),(27,pI v62)]) (fun (a65,c66) (l61,v62,l64)=>[PRes.b b12 36 [pS x5.1.Code,pI x5.1.Price,pB x5.1.Obtained,pN,pO a65 l64.length c66],PRes.b b2 36 [pS ByteArray.empty,pI 0,pB false,pN,pN],PRes.b b38 78 [pI m37.Product,pI m37.Value],PRes.b b40 76 (aK x39.1),PRes.b b6 76 (aK x5.1),PRes.b b8 81 (az x7.1),PRes.row a65 l64.length c66 103 3 (List.map Zk.enc l64)]) (a18,c19) (eE rfl (eE rfl (eE rfl (eE rfl (sG rfl))))) (be aO zs6) ?_
     rintro ⟨a65,c66⟩ ⟨l61,v62,l64⟩ o τ hb72;(try dsimp only at hb72);dsimp only [aw]
     refine dm (aI [3] [141,142,143,144] [(145,pB (decide (v62<(x39.1.Inputs.length:Int))))] (by kernel_rfl) (cS rfl hb72 (fun hc74 hb72=>?_) fun hc74 hb72=>?_))
     ·refine ah ?_
      refine dN (aa hb72 fun m75 hm75 hb72=>aa hb72 fun x76 hx76 hb72=>af (aS 11 [3] ((rg 149 8)++[148]) [(157,.agg (aK x76.1)),(158,pB x76.2)] (cO 4 Zh.enc hm75 (bg 7 (iz hx76) bm)) (by kernel_rfl) (an rfl (aM (cs:=[pI 0,pS ByteArray.empty,pS ByteArray.empty,pI 0,pB false,pN,pN]) rfl rfl rfl rfl (fun b77=>aP rfl rfl (ak (vs:=(aK x76.1)) rfl rfl rfl rfl rfl ca nj (ba [29] (by kernel_rfl) (bY (bk (ρd:=[]) [(0,0),(1,0),(2,0),(3,0),(4,0),(5,0),(6,0),(7,0),(8,0),(9,0),(10,0),(11,0),(12,0),(13,1),(14,0),(15,0),(16,0),(17,0),(18,0)] _ (List.Perm.refl _) (by kernel_rfl) rfl (aa hb72 fun m78 hm78 hb72=>aa hb72 fun x79 hx79 hb72=>br 19 [3,4,4] ((rg 160 14)++[159,174,175]) [(30,pU x79.1),(31,pI x79.2)] (cO 6 Zh.enc hm78 (bg 13 (ui hx79) bm)) (by kernel_rfl) (bv (bY (al [(32,pI 1000000000000)] (by kernel_rfl) (cq (ai (rg 176 5) [(181,pB ((x79.2 == 0)&&(decide (x79.1<1000000000000))))] (by kernel_rfl) (fz hb72 fun q82 hq82 hb72=>?_))))))))))))))))
      refine aq (Y:=Unit×Int) (fun (_,v80)=>[(0,pL Zc.enc p0),(4,pL Za.enc p4),(10,pP b2 0),(12,pP b6 0),(14,pP b8 0),(16,pL eI x9),(17,pP b12 0),(18,pL Za.enc l61),(19,pL eS l42),(20,pI v15),(21,pP b38 0),(22,pP b40 0),(27,pI v62),(28,pP b77 0),(32,pI v80)]) (fun (_,v80)=>[PRes.b b12 36 [pS x5.1.Code,pI x5.1.Price,pB x5.1.Obtained,pN,pO a65 l64.length c66],PRes.b b2 36 [pS ByteArray.empty,pI 0,pB false,pN,pN],PRes.b b38 78 [pI m37.Product,pI m37.Value],PRes.b b40 76 (aK x39.1),PRes.b b6 76 (aK x5.1),PRes.b b77 76 (aK x76.1),PRes.b b8 81 (az x7.1),PRes.row a65 l64.length c66 103 3 (List.map Zk.enc l64)]) (fun (_,v80)=>q82=v80) ?_ ?_
      ·skip
       refine kK rfl hq82 (fun hc83 hq82=>?_) fun hc83 hq82=>?_
       ·refine ai [182,183] [(32,pI (IntKind.i64.wrap x79.1))] (by kernel_rfl) ?_
        obtain rfl:=osi hq82
        exact av ((),(IntKind.i64.wrap x79.1)) (eE rfl (eE rfl (eE rfl (eE rfl (eE rfl (eE rfl (sG rfl))))))) (be (aC aO) (be (aC aO) (be (aC aO) (be (aC aO) (be (aC aO) Cl))))) rfl
       refine ah ?_
       obtain rfl:=osi hq82
       exact av ((),1000000000000) (eE rfl (eE rfl (eE rfl (eE rfl (eE rfl (eE rfl (sG rfl))))))) (be (aC aO) (be (aC aO) (be (aC aO) (be (aC aO) (be (aC aO) Cl))))) rfl
      rintro ⟨_,v80⟩ τ hz;(try dsimp only at hz);subst q82;(try dsimp only at hb72);dsimp only [aw]
      refine ae (aa hb72 fun x84 hx84 hb72=>af (aS 8 [5] ((rg 185 5)++[184]) [(190,.agg [pI x84.1.Product,pI x84.1.Agreement]),(191,pB x84.2)] (bg 4 (n9 hx84) bm) (by kernel_rfl) (an rfl (aM (cs:=[pI 0,pI 0]) rfl rfl rfl rfl (fun b85=>aP rfl rfl (ak (vs:=[pI x84.1.Product,pI x84.1.Agreement]) rfl rfl rfl rfl rfl ca sE (aN [(34,pB x84.2)] (by kernel_rfl) (cq (al [(192,pB x84.2)] (by kernel_rfl) (fz hb72 fun q88 hq88 hb72=>?_))))))))))
      refine aq (Y:=Unit×((List Za))) (fun (_,l86)=>[(0,pL Zc.enc p0),(4,pL Za.enc p4),(10,pP b2 0),(12,pP b6 0),(14,pP b8 0),(16,pL eI x9),(17,pP b12 0),(18,pL Za.enc l86),(19,pL eS l42),(20,pI v15),(21,pP b38 0),(22,pP b40 0),(27,pI v62),(28,pP b77 0),(32,pI v80),(34,pB x84.2)]) (fun (_,l86)=>[PRes.b b12 36 [pS x5.1.Code,pI x5.1.Price,pB x5.1.Obtained,pN,pO a65 l64.length c66],PRes.b b2 36 [pS ByteArray.empty,pI 0,pB false,pN,pN],PRes.b b38 78 [pI m37.Product,pI m37.Value],PRes.b b40 76 (aK x39.1),PRes.b b6 76 (aK x5.1),PRes.b b77 76 (aK x76.1),PRes.b b8 81 (az x7.1),PRes.row a65 l64.length c66 103 3 (List.map Zk.enc l64)]) (fun (_,l86)=>q88=l86) ?_ ?_
      ·skip
       refine kK rfl hq88 (fun hc89 hq88=>?_) fun hc89 hq88=>?_
       ·refine aa hq88 ?_;clear hq88;intro x90 hx90 hq88
        refine ap [0] [193,194,195] [(18,pL Za.enc x90)] (bg 2 (js hx90) bm) (by kernel_rfl) ?_
        obtain rfl:=osi hq88
        exact av ((),x90) (eE rfl (eE rfl (eE rfl (eE rfl (eE rfl (eE rfl (eE rfl (sG rfl)))))))) (be (aC aO) (be (aC aO) (be (aC aO) (be (aC aO) (be (aC aO) (be (aC aO) (be (aC aO) (be (aC aO) bz)))))))) rfl
       refine ah ?_
       obtain rfl:=osi hq88
       exact av ((),l61) (eE rfl (eE rfl (eE rfl (eE rfl (eE rfl (eE rfl (eE rfl (sG rfl)))))))) (be (aC aO) (be (aC aO) (be (aC aO) (be (aC aO) (be (aC aO) (be (aC aO) (be (aC aO) (be (aC aO) bz)))))))) rfl
      rintro ⟨_,l86⟩ τ hz;(try dsimp only at hz);subst q88;(try dsimp only at hb72);dsimp only [aw]
      refine af (cG 7 [0,5] [196,198,199,200,201] [(197,pO a65 l64.length c66),(202,.agg [pS x76.1.Code,pI v80,pB x84.2])] (by kernel_rfl) (an rfl (bG rfl rfl rfl rfl rfl (gG rfl jl) rfl rfl rfl rfl (fun b91=>aa hb72 fun l93 hl93 hb72=>?_))))
      refine an rfl (ce (enc:=Zk.enc) rfl rfl rfl rfl rfl rfl rfl rfl rfl e7 (by exact aC (aC (aC (aC (aC (aC (aC (aC aO)))))))) hl93 (fun a94 c95=>?_))
      refine aF 1 [(205,pP b12 4)] (by kernel_rfl) (aP rfl rfl (ak (vs:=[pO a94 l93.length c95]) rfl rfl rfl rfl rfl (dx (dx ca)) (dM (dM (dM (dM mT)))) (aG (dX (ai [146,147] [(27,pI (IntKind.i64.wrap (v62+1)))] (by kernel_rfl) ?_)))))
      exact aT hb72 (a94,c95) (eE rfl (eE rfl (eE rfl (eE rfl (sG rfl))))) (be (aC (aC aO)) (be (aC (aC aO)) (be (aC (aC aO)) (be (aC (aC aO)) (be (aC (aC aO)) (be (aC (aC (aC aO))) cJ))))))
     refine aH ?_
     refine cx hb72 (fun ht=>aj rfl ?_)
     exact gh ((a65,c66),(l61,l64)) (eE rfl (sG rfl)) (be aO (be aO (be (aC (aC aO)) (be (aC (aC aO)) (be (aC (aC aO)) bz))))) ht.symm
    rintro ⟨⟨a69,c70⟩,⟨l67,l71⟩⟩ τ ρ1 hsub97 hz;(try dsimp only at hz hsub97);subst q73;(try dsimp only at hq36);dsimp only [aw]
    refine aB ?_
    obtain rfl:=osi hq36
    exact av ((a69,c70),(l67,l42,l71)) (eE rfl (sG rfl)) (PSub.trans zs5 hsub97) rfl
   rintro ⟨⟨a33,c34⟩,⟨l30,l31,l35⟩⟩ τ hz;(try dsimp only at hz);subst q36;(try dsimp only at hb26);dsimp only [aw]
   refine ai [78,79] [(20,pI (IntKind.i64.wrap (v15+1)))] (by kernel_rfl) ?_
   exact aT hb26 (a33,c34) (eE rfl (sG rfl)) zs5
  refine aH ?_
  refine cx hb26 (fun ht=>aj rfl ?_)
  exact av ((a18,c19),(l13,l14,l17)) (jf rfl) (be aO (be aO (be (aC (aC aO)) bz))) ht.symm
 rintro ⟨⟨a23,c24⟩,⟨l20,l21,l25⟩⟩ τ hz;(try dsimp only at hz);subst q27;(try dsimp only at h);dsimp only [aw]
 refine ae (aa h fun l98 hl98 h=>af (aS 6 [] [206,207,208,209] [(210,pL eS l98),(211,pP b12 3)] (ud 4 eS 1 (fun _=>rfl) hl98 bm) (by kernel_rfl) (aP rfl rfl (ak (vs:=[pL eS l98]) rfl rfl rfl rfl rfl ca (dM (dM (dM mT))) (aG (bY (af ?_)))))))
 refine ms (css:=List.map Zk.enc l25) (a:=a23) (by exact aC (aC aO)) ?_
 refine jP (k:=4) (enc:=Zk.enc) (xs:=l25) (b:=b12) (a:=a23) rfl e7 (dx ca) (gt 2 [1] [(212,.agg [pS x5.1.Code,pI x5.1.Price,pB x5.1.Obtained,pL eS l98,pL Zk.enc l25]),(213,pL Za.enc l20)] (by kernel_rfl) (aP rfl rfl (ak (vs:=[pS x5.1.Code,pI x5.1.Price,pB x5.1.Obtained,pL eS l98,pL Zk.enc l25]) rfl rfl rfl rfl rfl (dx (dx ca)) ET (aN [(11,pL Za.enc l20)] (by kernel_rfl) (cU ?_)))))
 obtain rfl:=osi h
 exact aL (cg (dL rfl vg rfl) (aJ rfl)) bz ⟨rfl,rfl⟩
def fH (p0:(List Za)) (p1:(List Za)):Option Bool:=cond ((p0.length:Int) != (p1.length:Int)) (some false) ((aU (S:=Int) (T:=(Unit)⊕(_)) (fun v2=>cond (decide (v2<(p0.length:Int))) ((idx p0 v2).bind fun m6=>(idx p1 v2).bind fun m7=>cond (!(Za.eqb m6 m7)) (some (.inr (.inr false))) (some (.inl (IntKind.i64.wrap (v2+1))))) (some (.inr (.inl ())))) FUEL 0).bind fun q=>match q with | .inl _=>some true | .inr e=>some e)
theorem qY {p0:(List Za)} {p1:(List Za)} {r:Bool}  (h:fH p0 p1=some r):PF 20 [pL Za.enc p0,pL Za.enc p1] (pB r):=by
 unfold fH at h
 refine bd ?_
 refine du Tryz.func20 rfl Tryz.ntmps20 Tryz.results20 rfl (aV [4] (by kernel_rfl) (cq (bC [6,7,8,9] [(10,pB ((p0.length:Int) != (p1.length:Int)))] (by kernel_rfl) rfl h (fun hc1 h=>?_) fun hc1 h=>?_)))
 ·refine ae ?_
  refine dl [(4,pB false)] (by kernel_rfl) (am ?_)
  exact zz r h rfl
 refine ah ?_
 refine cq (al [(5,pI 0)] (by kernel_rfl) (fz h fun q4 hq4 h=>?_))
 refine aq (Y:=Unit×Unit) (fun (_,_)=>[]) (fun (_,_)=>[]) (fun (_,_)=>q4=Sum.inl ()) ?_ ?_
 ·refine aA ?_
  refine aD (Y:=Unit) (S:=Int) _ hq4 (fun _ v2=>[(0,pL Za.enc p0),(1,pL Za.enc p1),(5,pI v2)]) (fun _ v2=>[]) () (lR rfl) bz ?_
  rintro _ v2 o τ hb3;(try dsimp only at hb3);dsimp only [aw]
  refine dm (bC [11,12,13] [(14,pB (decide (v2<(p0.length:Int))))] (by kernel_rfl) rfl hb3 (fun hc5 hb3=>?_) fun hc5 hb3=>?_)
  ·refine ah ?_
   refine dN (bk (ρd:=[]) [(0,0),(1,0),(2,0),(3,0),(4,0),(5,0),(6,0),(7,0),(8,0)] _ (List.Perm.refl _) (by kernel_rfl) rfl (aa hb3 fun m6 hm6 hb3=>aa hb3 fun m7 hm7 hb3=>br 9 [] (rg 17 8) [(25,pB (!(Za.eqb m6 m7)))] (cO 2 Za.enc hm6 (cO 6 Za.enc hm7 (Dn 8 Za.eqok28 bm))) (by kernel_rfl) (bv (cS rfl hb3 (fun hc8 hb3=>?_) fun hc8 hb3=>?_))))
   ·refine ae ?_
    refine dl [(4,pB false)] (by kernel_rfl) (dI ?_)
    refine au hb3 (fun ht=>?_);subst ht
    refine cK ?_
    exact zz r h rfl
   refine ah ?_
   refine dX (ai [15,16] [(5,pI (IntKind.i64.wrap (v2+1)))] (by kernel_rfl) ?_)
   exact aT hb3 () (lR rfl) bz
  refine aH ?_
  refine cx hb3 (fun ht=>aj rfl ?_)
  exact av ((),()) pg bz ht.symm
 rintro ⟨_,_⟩ τ hz;(try dsimp only at hz);subst q4;(try dsimp only at h);dsimp only [aw]
 refine ae (dl [(4,pB true)] (by kernel_rfl) ?_)
 exact zz r h rfl
def fe (p0:Int):Option Bool:=some ((decide (65≤p0))&&(decide (p0≤90)))
theorem jU {p0:Int} {r:Bool}  (h:fe p0=some r):PF 120 [pY p0] (pB r):=by
 unfold fe at h
 refine bd ?_
 refine du Tryz.func120 rfl Tryz.ntmps120 Tryz.results120 rfl (aV [2] (by kernel_rfl) (bY (ai (rg 3 6) [(2,pB ((decide (65≤p0))&&(decide (p0≤90))))] (by kernel_rfl) (cU ?_))))
 exact zz r h rfl
def bN (p0:ByteArray):Option Bool:=(gd ((p0.size:Int) == 2) (idx p0.data.toList 0)).bind fun c1=>(gd ((p0.size:Int) == 2) (fe (c1.toNat:Int))).bind fun x2=>(gd (((p0.size:Int) == 2)&&x2) (idx p0.data.toList 1)).bind fun c3=>(gd (((p0.size:Int) == 2)&&x2) (fe (c3.toNat:Int))).bind fun x4=>some ((((p0.size:Int) == 2)&&x2)&&x4)
theorem fR {p0:ByteArray} {r:Bool}  (h:bN p0=some r):PF 72 [pS p0] (pB r):=by
 unfold bN at h
 refine bd ?_
 refine du Tryz.func72 rfl Tryz.ntmps72 Tryz.results72 rfl (aV [2] (by kernel_rfl) (de h fun c1 hc1 h=>aa h fun x2 hx2 h=>aa h fun c3 hc3 h=>aa h fun x4 hx4 h=>ap [] (rg 3 13) [(2,pB ((((p0.size:Int) == 2)&&x2)&&x4))] (tI 5 (cH hc1) (eK 6 (fun hc=>jU (cH hx2 hc)) (tI 10 (cH hc3) (eK 11 (fun hc=>jU (cH hx4 hc)) bm)))) (by kernel_rfl) (cU ?_)))
 exact zz r h rfl
def dZ (p0:(List ByteArray)):Option Bool:=(aU (S:=Int) (T:=(Unit)⊕(_)) (fun v1=>cond (decide (v1<(p0.length:Int))) ((idx p0 v1).bind fun m5=>(bN m5).bind fun x6=>(gd ((!(!x6))&&(decide (0<v1))) (idx p0 (IntKind.i64.wrap (v1 - 1)))).bind fun m7=>cond ((!x6)||((decide (0<v1))&&(Op.bytesLess m5.toList m7.toList||decide (m5=m7)))) (some (.inr (.inr false))) (some (.inl (IntKind.i64.wrap (v1+1))))) (some (.inr (.inl ())))) FUEL 0).bind fun q=>match q with | .inl _=>some true | .inr e=>some e
theorem nc {p0:(List ByteArray)} {r:Bool}  (h:dZ p0=some r):PF 111 [pL eS p0] (pB r):=by
 unfold dZ at h
 refine bd ?_
 refine du Tryz.func111 rfl Tryz.ntmps111 Tryz.results111 rfl (aV [2] (by kernel_rfl) (cq (al [(5,pL eS p0),(6,pI (p0.length:Int)),(7,pI 0)] (by kernel_rfl) (fz h fun q3 hq3 h=>?_))))
 refine aq (Y:=Unit×Unit) (fun (_,_)=>[]) (fun (_,_)=>[]) (fun (_,_)=>q3=Sum.inl ()) ?_ ?_
 ·refine aA ?_
  refine aD (Y:=Unit) (S:=Int) _ hq3 (fun _ v1=>[(0,pL eS p0),(5,pL eS p0),(6,pI (p0.length:Int)),(7,pI v1)]) (fun _ v1=>[]) () (jf rfl) bz ?_
  rintro _ v1 o τ hb2;(try dsimp only at hb2);dsimp only [aw]
  refine ae (al [(8,pB (decide (v1<(p0.length:Int))))] (by kernel_rfl) (bY (kK rfl hb2 (fun hc4 hb2=>?_) fun hc4 hb2=>?_)))
  ·refine ah ?_
   refine dN (aa hb2 fun m5 hm5 hb2=>ap [] [9,10,11] [(3,pI v1),(4,pS m5)] (cO 1 eS hm5 bm) (by kernel_rfl) (de hb2 fun x6 hx6 hb2=>aa hb2 fun m7 hm7 hb2=>ap [] (rg 12 15) [(27,pB ((!x6)||((decide (0<v1))&&(Op.bytesLess m5.toList m7.toList||decide (m5=m7)))))] (bg 1 (fR hx6) (eJ 11 eS (cH hm7) bm)) (by kernel_rfl) (cS rfl hb2 (fun hc8 hb2=>?_) fun hc8 hb2=>?_)))
   ·refine ae ?_
    refine dl [(2,pB false)] (by kernel_rfl) (dI ?_)
    refine au hb2 (fun ht=>?_);subst ht
    refine cK ?_
    exact zz r h rfl
   refine ah ?_
   refine dX (ai [28] [(7,pI (IntKind.i64.wrap (v1+1)))] (by kernel_rfl) ?_)
   exact aT hb2 () (jf rfl) bz
  refine aH ?_
  refine cx hb2 (fun ht=>aj rfl ?_)
  exact av ((),()) pg bz ht.symm
 rintro ⟨_,_⟩ τ hz;(try dsimp only at hz);subst q3;(try dsimp only at h);dsimp only [aw]
 refine ae (dl [(2,pB true)] (by kernel_rfl) ?_)
 exact zz r h rfl
def fa (p0:ByteArray):Option Bool:=(gd ((p0.size:Int) == 2) (idx p0.data.toList 0)).bind fun c1=>(gd (((p0.size:Int) == 2)&&(decide (65≤(c1.toNat:Int)))) (idx p0.data.toList 0)).bind fun c2=>(gd ((((p0.size:Int) == 2)&&(decide (65≤(c1.toNat:Int))))&&(decide ((c2.toNat:Int)≤90))) (idx p0.data.toList 1)).bind fun c3=>(gd (((((p0.size:Int) == 2)&&(decide (65≤(c1.toNat:Int))))&&(decide ((c2.toNat:Int)≤90)))&&(decide (65≤(c3.toNat:Int)))) (idx p0.data.toList 1)).bind fun c4=>some ((((((p0.size:Int) == 2)&&(decide (65≤(c1.toNat:Int))))&&(decide ((c2.toNat:Int)≤90)))&&(decide (65≤(c3.toNat:Int))))&&(decide ((c4.toNat:Int)≤90)))
theorem ld {p0:ByteArray} {r:Bool}  (h:fa p0=some r):PF 67 [pS p0] (pB r):=by
 unfold fa at h
 refine bd ?_
 refine du Tryz.func67 rfl Tryz.ntmps67 Tryz.results67 rfl (aV [2] (by kernel_rfl) (de h fun c1 hc1 h=>aa h fun c2 hc2 h=>aa h fun c3 hc3 h=>aa h fun c4 hc4 h=>ap [] (rg 3 23) [(2,pB ((((((p0.size:Int) == 2)&&(decide (65≤(c1.toNat:Int))))&&(decide ((c2.toNat:Int)≤90)))&&(decide (65≤(c3.toNat:Int))))&&(decide ((c4.toNat:Int)≤90))))] (tI 5 (cH hc1) (tI 10 (cH hc2) (tI 15 (cH hc3) (tI 20 (cH hc4) bm)))) (by kernel_rfl) (cU ?_)))
 exact zz r h rfl
def gA (p0:ByteArray):Option Int:=(aU (S:=Int) (T:=(Unit)⊕(_)) (fun v1=>cond (decide (v1<(p0.size:Int))) ((idx p0.data.toList v1).bind fun c5=>(gd (!(decide ((c5.toNat:Int)<48))) (idx p0.data.toList v1)).bind fun c6=>cond ((decide ((c5.toNat:Int)<48))||(decide (57<(c6.toNat:Int)))) (some (.inr (.inr (0:Int)))) (some (.inl (IntKind.i64.wrap (v1+1))))) (some (.inr (.inl ())))) FUEL 0).bind fun q=>match q with | .inl _=>cond ((decide (8<(p0.size:Int)))||((Int.tmod (p0.size:Int) 2) == 1)) (some (0:Int)) (some (p0.size:Int)) | .inr e=>some e
theorem nf {p0:ByteArray} {r:Int}  (h:gA p0=some r):PF 113 [pS p0] (pI r):=by
 unfold gA at h
 refine bd ?_
 refine du Tryz.func113 rfl Tryz.ntmps113 Tryz.results113 rfl (aV [2] (by kernel_rfl) (cq (al [(3,pI 0)] (by kernel_rfl) (fz h fun q3 hq3 h=>?_))))
 refine aq (Y:=Unit×Unit) (fun (_,_)=>[(0,pS p0)]) (fun (_,_)=>[]) (fun (_,_)=>q3=Sum.inl ()) ?_ ?_
 ·refine aA ?_
  refine aD (Y:=Unit) (S:=Int) _ hq3 (fun _ v1=>[(0,pS p0),(3,pI v1)]) (fun _ v1=>[]) () (mK rfl) bz ?_
  rintro _ v1 o τ hb2;(try dsimp only at hb2);dsimp only [aw]
  refine dm (bC [4,5,6] [(7,pB (decide (v1<(p0.size:Int))))] (by kernel_rfl) rfl hb2 (fun hc4 hb2=>?_) fun hc4 hb2=>?_)
  ·refine ah ?_
   refine dN (aa hb2 fun c5 hc5 hb2=>aa hb2 fun c6 hc6 hb2=>ap [] (rg 10 9) [(19,pB ((decide ((c5.toNat:Int)<48))||(decide (57<(c6.toNat:Int)))))] (fosx 2 hc5 (tI 7 (cH hc6) bm)) (by kernel_rfl) (cS rfl hb2 (fun hc7 hb2=>?_) fun hc7 hb2=>?_))
   ·refine ae ?_
    refine dl [(2,pI 0)] (by kernel_rfl) (dI ?_)
    refine au hb2 (fun ht=>?_);subst ht
    refine cK ?_
    exact zz r h rfl
   refine ah ?_
   refine dX (ai [8,9] [(3,pI (IntKind.i64.wrap (v1+1)))] (by kernel_rfl) ?_)
   exact aT hb2 () (mK rfl) bz
  refine aH ?_
  refine cx hb2 (fun ht=>aj rfl ?_)
  exact av ((),()) (re rfl) bz ht.symm
 rintro ⟨_,_⟩ τ hz;(try dsimp only at hz);subst q3;(try dsimp only at h);dsimp only [aw]
 refine dm (bC (rg 20 8) [(28,pB ((decide (8<(p0.size:Int)))||((Int.tmod (p0.size:Int) 2) == 1)))] (by kernel_rfl) rfl h (fun hc8 h=>?_) fun hc8 h=>?_)
 ·refine ae ?_
  refine dl [(2,pI 0)] (by kernel_rfl) (am ?_)
  exact zz r h rfl
 refine ah ?_
 refine bY (ai [29,30] [(2,pI (p0.size:Int))] (by kernel_rfl) (cU ?_))
 exact zz r h rfl
def lf (p0:ByteArray):Option Bool:=(aU (S:=Int) (T:=(Unit)⊕(_)) (fun v1=>cond (decide (v1<(p0.size:Int))) ((idx p0.data.toList v1).bind fun c5=>(gd (!(decide ((c5.toNat:Int)<97))) (idx p0.data.toList v1)).bind fun c6=>cond ((decide ((c5.toNat:Int)<97))||(decide (122<(c6.toNat:Int)))) (some (.inr (.inr false))) (some (.inl (IntKind.i64.wrap (v1+1))))) (some (.inr (.inl ())))) FUEL 0).bind fun q=>match q with | .inl _=>some ((decide (1≤(p0.size:Int)))&&(decide ((p0.size:Int)≤12))) | .inr e=>some e
theorem rk {p0:ByteArray} {r:Bool}  (h:lf p0=some r):PF 157 [pS p0] (pB r):=by
 unfold lf at h
 refine bd ?_
 refine du Tryz.func157 rfl Tryz.ntmps157 Tryz.results157 rfl (aV [2] (by kernel_rfl) (cq (al [(3,pI 0)] (by kernel_rfl) (fz h fun q3 hq3 h=>?_))))
 refine aq (Y:=Unit×Unit) (fun (_,_)=>[(0,pS p0)]) (fun (_,_)=>[]) (fun (_,_)=>q3=Sum.inl ()) ?_ ?_
 ·refine aA ?_
  refine aD (Y:=Unit) (S:=Int) _ hq3 (fun _ v1=>[(0,pS p0),(3,pI v1)]) (fun _ v1=>[]) () (mK rfl) bz ?_
  rintro _ v1 o τ hb2;(try dsimp only at hb2);dsimp only [aw]
  refine dm (bC [4,5,6] [(7,pB (decide (v1<(p0.size:Int))))] (by kernel_rfl) rfl hb2 (fun hc4 hb2=>?_) fun hc4 hb2=>?_)
  ·refine ah ?_
   refine dN (aa hb2 fun c5 hc5 hb2=>aa hb2 fun c6 hc6 hb2=>ap [] (rg 10 9) [(19,pB ((decide ((c5.toNat:Int)<97))||(decide (122<(c6.toNat:Int)))))] (fosx 2 hc5 (tI 7 (cH hc6) bm)) (by kernel_rfl) (cS rfl hb2 (fun hc7 hb2=>?_) fun hc7 hb2=>?_))
   ·refine ae ?_
    refine dl [(2,pB false)] (by kernel_rfl) (dI ?_)
    refine au hb2 (fun ht=>?_);subst ht
    refine cK ?_
    exact zz r h rfl
   refine ah ?_
   refine dX (ai [8,9] [(3,pI (IntKind.i64.wrap (v1+1)))] (by kernel_rfl) ?_)
   exact aT hb2 () (mK rfl) bz
  refine aH ?_
  refine cx hb2 (fun ht=>aj rfl ?_)
  exact av ((),()) (re rfl) bz ht.symm
 rintro ⟨_,_⟩ τ hz;(try dsimp only at hz);subst q3;(try dsimp only at h);dsimp only [aw]
 refine ae (ai (rg 20 8) [(2,pB ((decide (1≤(p0.size:Int)))&&(decide ((p0.size:Int)≤12))))] (by kernel_rfl) (cU ?_))
 exact zz r h rfl
def lG (p0:(List ByteArray)):Option Bool:=(aU (S:=Int) (T:=(Unit)⊕(_)) (fun v1=>cond (decide (v1<(p0.length:Int))) ((idx p0 v1).bind fun m5=>(lf m5).bind fun x6=>(gd ((!(!x6))&&(decide (0<v1))) (idx p0 (IntKind.i64.wrap (v1 - 1)))).bind fun m7=>(gd ((!(!x6))&&(decide (0<v1))) (idx p0 v1)).bind fun m8=>cond ((!x6)||((decide (0<v1))&&(!Op.bytesLess m7.toList m8.toList))) (some (.inr (.inr false))) (some (.inl (IntKind.i64.wrap (v1+1))))) (some (.inr (.inl ())))) FUEL 0).bind fun q=>match q with | .inl _=>some (decide ((p0.length:Int)≤8)) | .inr e=>some e
theorem vz {p0:(List ByteArray)} {r:Bool}  (h:lG p0=some r):PF 114 [pL eS p0] (pB r):=by
 unfold lG at h
 refine bd ?_
 refine du Tryz.func114 rfl Tryz.ntmps114 Tryz.results114 rfl (aV [2] (by kernel_rfl) (cq (al [(3,pI 0)] (by kernel_rfl) (fz h fun q3 hq3 h=>?_))))
 refine aq (Y:=Unit×Unit) (fun (_,_)=>[(0,pL eS p0)]) (fun (_,_)=>[]) (fun (_,_)=>q3=Sum.inl ()) ?_ ?_
 ·refine aA ?_
  refine aD (Y:=Unit) (S:=Int) _ hq3 (fun _ v1=>[(0,pL eS p0),(3,pI v1)]) (fun _ v1=>[]) () (mK rfl) bz ?_
  rintro _ v1 o τ hb2;(try dsimp only at hb2);dsimp only [aw]
  refine dm (bC [4,5,6] [(7,pB (decide (v1<(p0.length:Int))))] (by kernel_rfl) rfl hb2 (fun hc4 hb2=>?_) fun hc4 hb2=>?_)
  ·refine ah ?_
   refine dN (bk (ρd:=[]) [(0,0),(1,0),(2,0),(3,0),(4,1),(5,0),(6,0),(7,0),(8,0),(9,0),(10,0),(11,0),(12,0),(13,0),(14,0),(15,0),(16,0),(17,0),(18,0),(19,0),(20,0),(21,0)] _ (List.Perm.refl _) (by kernel_rfl) rfl (aa hb2 fun m5 hm5 hb2=>aa hb2 fun x6 hx6 hb2=>aa hb2 fun m7 hm7 hb2=>aa hb2 fun m8 hm8 hb2=>br 22 [] (rg 10 21) [(31,pB ((!x6)||((decide (0<v1))&&(!Op.bytesLess m7.toList m8.toList))))] (cO 2 eS hm5 (bg 4 (rk hx6) (eJ 13 eS (cH hm7) (eJ 17 eS (cH hm8) bm)))) (by kernel_rfl) (bv (cS rfl hb2 (fun hc9 hb2=>?_) fun hc9 hb2=>?_))))
   ·refine ae ?_
    refine dl [(2,pB false)] (by kernel_rfl) (dI ?_)
    refine au hb2 (fun ht=>?_);subst ht
    refine cK ?_
    exact zz r h rfl
   refine ah ?_
   refine dX (ai [8,9] [(3,pI (IntKind.i64.wrap (v1+1)))] (by kernel_rfl) ?_)
   exact aT hb2 () (mK rfl) bz
  refine aH ?_
  refine cx hb2 (fun ht=>aj rfl ?_)
  exact av ((),()) (re rfl) bz ht.symm
 rintro ⟨_,_⟩ τ hz;(try dsimp only at hz);subst q3;(try dsimp only at h);dsimp only [aw]
 refine ae (ai [32,33,34] [(2,pB (decide ((p0.length:Int)≤8)))] (by kernel_rfl) (cU ?_))
 exact zz r h rfl
def lg (p0:(List Zc)):Option Int:=cond (decide (64<(p0.length:Int))) (some (8:Int)) ((aU (S:=Int) (T:=(Unit)⊕(_)) (fun v2=>cond (decide (v2<(p0.length:Int))) ((idx p0 v2).bind fun m6=>cond ((decide (m6.ID<1))||(decide (1000000<m6.ID))) (some (.inr (.inr (2:Int)))) ((gd (decide (0<v2)) (idx p0 (IntKind.i64.wrap (v2 - 1)))).bind fun m9=>cond ((decide (0<v2))&&(decide (m6.ID≤m9.ID))) (some (.inr (.inr (9:Int)))) ((gA m6.Code).bind fun x11=>(gd (!(decide (x11<6))) (fa m6.Country)).bind fun x12=>(gd (!((decide (x11<6))||(!x12))) (lG m6.Processes)).bind fun x13=>cond (((decide (x11<6))||(!x12))||(!x13)) (some (.inr (.inr (1:Int)))) (cond ((decide (m6.Price<1))||(decide (1000000000000<m6.Price))) (some (.inr (.inr (2:Int)))) (cond (decide (8<(m6.Inputs.length:Int))) (some (.inr (.inr (8:Int)))) (cond (m6.Obtained&&(decide (0<(m6.Inputs.length:Int)))) (some (.inr (.inr (1:Int)))) ((aU (S:=Int) (T:=(Unit)⊕(_)) (fun v18=>cond (decide (v18<(m6.Inputs.length:Int))) ((gd (decide (0<v18)) (idx m6.Inputs v18)).bind fun m22=>(gd (decide (0<v18)) (idx m6.Inputs (IntKind.i64.wrap (v18 - 1)))).bind fun m23=>cond ((decide (0<v18))&&(decide (m22.Product≤m23.Product))) (some (.inr (.inr (.inr (.inr (9:Int)))))) ((idx m6.Inputs v18).bind fun m25=>(eR p0 m25.Product).bind fun x26=>cond (!x26.2) (some (.inr (.inr (.inr (.inr (6:Int)))))) ((idx m6.Inputs v18).bind fun m29=>(gd (!(decide (m29.Value<0))) (idx m6.Inputs v18)).bind fun m30=>cond ((decide (m29.Value<0))||(decide (1000000000000<m30.Value))) (some (.inr (.inr (.inr (.inr (2:Int)))))) (some (.inl (IntKind.i64.wrap (v18+1))))))) (some (.inr (.inl ())))) FUEL 0).bind fun q=>match q with | .inl _=>some (.inl (IntKind.i64.wrap (v2+1))) | .inr e=>some e))))))) (some (.inr (.inl ())))) FUEL 0).bind fun q=>match q with | .inl _=>some (0:Int) | .inr e=>some e)
theorem wJ {p0:(List Zc)} {r:Int}  (h:lg p0=some r):PF 65 [pL Zc.enc p0] (pI r):=by
 unfold lg at h
 refine bd ?_
 refine du Tryz.func65 rfl Tryz.ntmps65 Tryz.results65 rfl (aV [2] (by kernel_rfl) (cq (bC [8,9] [(10,pB (decide (64<(p0.length:Int))))] (by kernel_rfl) rfl h (fun hc1 h=>?_) fun hc1 h=>?_)))
 ·refine ae ?_
  refine dl [(2,pI 8)] (by kernel_rfl) (am ?_)
  exact zz r h rfl
 refine ah ?_
 refine cq (al [(3,pI 0)] (by kernel_rfl) (fz h fun q4 hq4 h=>?_))
 refine aq (Y:=Unit×Unit) (fun (_,_)=>[]) (fun (_,_)=>[]) (fun (_,_)=>q4=Sum.inl ()) ?_ ?_
 ·refine aA ?_
  refine aD (Y:=Unit) (S:=Int) _ hq4 (fun _ v2=>[(0,pL Zc.enc p0),(3,pI v2)]) (fun _ v2=>[]) () (mK rfl) bz ?_
  rintro _ v2 o τ hb3;(try dsimp only at hb3);dsimp only [aw]
  refine dm (bC [11,12,13] [(14,pB (decide (v2<(p0.length:Int))))] (by kernel_rfl) rfl hb3 (fun hc5 hb3=>?_) fun hc5 hb3=>?_)
  ·refine ah ?_
   refine dN (aa hb3 fun m6 hm6 hb3=>af (aS 4 [] [17,18,19] [(20,.agg (aK m6))] (cO 2 Zc.enc hm6 bm) (by kernel_rfl) (an rfl (aM (cs:=[pI 0,pS ByteArray.empty,pS ByteArray.empty,pI 0,pB false,pN,pN]) rfl rfl rfl rfl (fun b7=>aP rfl rfl (ak (vs:=(aK m6)) rfl rfl rfl rfl rfl ca nj (aG (dN (aI [0,0] (rg 22 8) [(21,pB ((decide (m6.ID<1))||(decide (1000000<m6.ID))))] (by kernel_rfl) (cS rfl hb3 (fun hc8 hb3=>?_) fun hc8 hb3=>?_))))))))))
   ·refine ae ?_
    refine dl [(2,pI 2)] (by kernel_rfl) (dI (dI ?_))
    refine au hb3 (fun ht=>?_);subst ht
    refine cK ?_
    exact zz r h rfl
   refine ae ?_
   refine bk (ρd:=[]) [(0,0),(1,0),(2,0),(3,0),(4,0),(5,0),(6,0),(7,0),(8,0),(9,0),(10,0),(11,0),(12,0),(13,0)] _ (List.Perm.refl _) (by kernel_rfl) rfl (aa hb3 fun m9 hm9 hb3=>br 14 [0] (rg 31 13) [(30,pB ((decide (0<v2))&&(decide (m6.ID≤m9.ID))))] (eJ 8 Zc.enc (cH hm9) bm) (by kernel_rfl) (bv (cS rfl hb3 (fun hc10 hb3=>?_) fun hc10 hb3=>?_)))
   ·refine ae ?_
    refine dl [(2,pI 9)] (by kernel_rfl) (dI (dI ?_))
    refine au hb3 (fun ht=>?_);subst ht
    refine cK ?_
    exact zz r h rfl
   refine ae ?_
   refine aa hb3 fun x11 hx11 hb3=>aa hb3 fun x12 hx12 hb3=>aa hb3 fun x13 hx13 hb3=>ap [0,0,0] (rg 45 16) [(44,pB (((decide (x11<6))||(!x12))||(!x13)))] (bg 2 (nf hx11) (eK 7 (fun hc=>ld (cH hx12 hc)) (eK 13 (fun hc=>vz (cH hx13 hc)) bm))) (by kernel_rfl) (cS rfl hb3 (fun hc14 hb3=>?_) fun hc14 hb3=>?_)
   ·refine ae ?_
    refine dl [(2,pI 1)] (by kernel_rfl) (dI (dI ?_))
    refine au hb3 (fun ht=>?_);subst ht
    refine cK ?_
    exact zz r h rfl
   refine ae ?_
   refine aI [0,0] (rg 62 8) [(61,pB ((decide (m6.Price<1))||(decide (1000000000000<m6.Price))))] (by kernel_rfl) (cS rfl hb3 (fun hc15 hb3=>?_) fun hc15 hb3=>?_)
   ·refine ae ?_
    refine dl [(2,pI 2)] (by kernel_rfl) (dI (dI ?_))
    refine au hb3 (fun ht=>?_);subst ht
    refine cK ?_
    exact zz r h rfl
   refine ae ?_
   refine aI [0] [71,72,73,74] [(70,pB (decide (8<(m6.Inputs.length:Int))))] (by kernel_rfl) (cS rfl hb3 (fun hc16 hb3=>?_) fun hc16 hb3=>?_)
   ·refine ae ?_
    refine dl [(2,pI 8)] (by kernel_rfl) (dI (dI ?_))
    refine au hb3 (fun ht=>?_);subst ht
    refine cK ?_
    exact zz r h rfl
   refine ae ?_
   refine aI [0,0] (rg 76 8) [(75,pB (m6.Obtained&&(decide (0<(m6.Inputs.length:Int)))))] (by kernel_rfl) (cS rfl hb3 (fun hc17 hb3=>?_) fun hc17 hb3=>?_)
   ·refine ae ?_
    refine dl [(2,pI 1)] (by kernel_rfl) (dI (dI ?_))
    refine au hb3 (fun ht=>?_);subst ht
    refine cK ?_
    exact zz r h rfl
   refine ah ?_
   refine aB (bY (al [(5,pI 0)] (by kernel_rfl) (fz hb3 fun q20 hq20 hb3=>?_)))
   refine iM (Y:=Unit×Unit) (fun (_,_)=>[(0,pL Zc.enc p0),(3,pI v2)]) (fun (_,_)=>[]) (fun (_,_)=>q20=Sum.inl ()) ?_ ?_
   ·refine aA ?_
    refine aD (Y:=Unit) (S:=Int) _ hq20 (fun _ v18=>[(0,pL Zc.enc p0),(3,pI v2),(4,pP b7 0),(5,pI v18)]) (fun _ v18=>[PRes.b b7 76 (aK m6)]) () (jf rfl) cJ ?_
    rintro _ v18 o τ hb19;(try dsimp only at hb19);dsimp only [aw]
    refine dm (aI [0] [84,85,86,87] [(88,pB (decide (v18<(m6.Inputs.length:Int))))] (by kernel_rfl) (cS rfl hb19 (fun hc21 hb19=>?_) fun hc21 hb19=>?_))
    ·refine ah ?_
     refine dN (ae (bk (ρd:=[]) [(0,0),(1,0),(2,0),(3,0),(4,0),(5,0),(6,0),(7,0),(8,0),(9,0),(10,0),(11,0),(12,0),(13,0),(14,0),(15,0),(16,0),(17,0)] _ (List.Perm.refl _) (by kernel_rfl) rfl (aa hb19 fun m22 hm22 hb19=>aa hb19 fun m23 hm23 hb19=>br 18 [0,0] (rg 91 17) [(108,pB ((decide (0<v18))&&(decide (m22.Product≤m23.Product))))] (eJ 6 Zh.enc (cH hm22) (eJ 13 Zh.enc (cH hm23) bm)) (by kernel_rfl) (bv (cS rfl hb19 (fun hc24 hb19=>?_) fun hc24 hb19=>?_)))))
     ·refine ae ?_
      refine dl [(2,pI 9)] (by kernel_rfl) (am (dI ?_))
      refine au hb19 (fun ht=>?_);subst ht
      refine dR (gF (dI ?_))
      refine au hb3 (fun ht=>?_);subst ht
      refine cK ?_
      exact zz r h rfl
     refine ah ?_
     refine cq (aa hb19 fun m25 hm25 hb19=>aa hb19 fun x26 hx26 hb19=>af (aS 11 [0] ((rg 110 8)++[109]) [(118,.agg (aK x26.1)),(119,pB x26.2)] (cO 4 Zh.enc hm25 (bg 7 (iz hx26) bm)) (by kernel_rfl) (an rfl (aM (cs:=[pI 0,pS ByteArray.empty,pS ByteArray.empty,pI 0,pB false,pN,pN]) rfl rfl rfl rfl (fun b27=>aP rfl rfl (ak (vs:=(aK x26.1)) rfl rfl rfl rfl rfl ca nj (aN [(7,pB x26.2)] (by kernel_rfl) (bY (bC [120] [(121,pB (!x26.2))] (by kernel_rfl) rfl hb19 (fun hc28 hb19=>?_) fun hc28 hb19=>?_)))))))))
     ·refine ae ?_
      refine dl [(2,pI 6)] (by kernel_rfl) (am (dI ?_))
      refine au hb19 (fun ht=>?_);subst ht
      refine dR (gF (dI ?_))
      refine au hb3 (fun ht=>?_);subst ht
      refine cK ?_
      exact zz r h rfl
     refine ah ?_
     refine de hb19 fun m29 hm29 hb19=>aa hb19 fun m30 hm30 hb19=>ap [1,1] (rg 122 15) [(137,pB ((decide (m29.Value<0))||(decide (1000000000000<m30.Value))))] (cO 3 Zh.enc hm29 (eJ 11 Zh.enc (cH hm30) bm)) (by kernel_rfl) (cS rfl hb19 (fun hc31 hb19=>?_) fun hc31 hb19=>?_)
     ·refine ae ?_
      refine dl [(2,pI 2)] (by kernel_rfl) (dI ?_)
      refine au hb19 (fun ht=>?_);subst ht
      refine dR (gF (dI ?_))
      refine au hb3 (fun ht=>?_);subst ht
      refine cK ?_
      exact zz r h rfl
     refine ah ?_
     refine dX (ai [89,90] [(5,pI (IntKind.i64.wrap (v18+1)))] (by kernel_rfl) ?_)
     exact aT hb19 () (jf rfl) (be (aC aO) bz)
    refine aH ?_
    refine cx hb19 (fun ht=>aj rfl ?_)
    exact gh ((),()) (mK rfl) bz ht.symm
   rintro ⟨_,_⟩ τ ρ1 hsub32 hz;(try dsimp only at hz hsub32);subst q20;(try dsimp only at hb3);dsimp only [aw]
   refine dX (oF hsub32 (ai [15,16] [(3,pI (IntKind.i64.wrap (v2+1)))] (by kernel_rfl) ?_))
   exact aT hb3 () (mK rfl) bz
  refine aH ?_
  refine cx hb3 (fun ht=>aj rfl ?_)
  exact av ((),()) pg bz ht.symm
 rintro ⟨_,_⟩ τ hz;(try dsimp only at hz);subst q4;(try dsimp only at h);dsimp only [aw]
 refine ae (dl [(2,pI 0)] (by kernel_rfl) ?_)
 exact zz r h rfl
def jt (rec:Zd→Option Int) (p0:Zd):Option Int:=(aU (S:=Int×Int) (T:=(Int)) (fun (v2,v3)=>cond ((decide (v3<(p0.Args.length:Int)))&&(decide (v2≤32))) ((idx p0.Args v3).bind fun m8=>(rec m8).bind fun x9=>some (.inl ((IntKind.i64.wrap (v2+x9)),(IntKind.i64.wrap (v3+1))))) (some (.inr v2))) FUEL (1,0)).bind fun v4=>some (pr v4 33)
theorem tc {rec:Zd→Option Int} (hrec:∀ {p0:Zd} {r:Int},rec p0=some r→PF 158 [.agg (ar p0)] (pI r)) {p0:Zd} {r:Int} (h:jt rec p0=some r):PF 158 [.agg (ar p0)] (pI r):=by
 unfold jt at h
 refine bd ?_
 refine du Tryz.func158 rfl Tryz.ntmps158 Tryz.results158 rfl (dc rfl (bh (cs:=(ar p0)) rfl rfl (fun b1=>ba [2] (by kernel_rfl) (bY (al [(3,pI 1)] (by kernel_rfl) (cq (al [(4,pI 0)] (by kernel_rfl) (fz h fun q6 hq6 h=>?_))))))))
 refine aq (Y:=Unit×Int) (fun (_,v4)=>[(3,pI v4)]) (fun (_,v4)=>[]) (fun (_,v4)=>q6=v4) ?_ ?_
 ·refine aA ?_
  refine aD (Y:=Unit) (S:=Int×Int) _ hq6 (fun _ (v2,v3)=>[(1,pP b1 0),(3,pI v2),(4,pI v3)]) (fun _ (v2,v3)=>[PRes.b b1 84 (ar p0)]) () (lR rfl) cJ ?_
  rintro _ ⟨v2,v3⟩ o τ hb5;(try dsimp only at hb5);dsimp only [aw]
  refine dm (aI [0] (rg 5 8) [(13,pB ((decide (v3<(p0.Args.length:Int)))&&(decide (v2≤32))))] (by kernel_rfl) (cS rfl hb5 (fun hc7 hb5=>?_) fun hc7 hb5=>?_))
  ·refine ah ?_
   refine bY (aA (aa hb5 fun m8 hm8 hb5=>aa hb5 fun x9 hx9 hb5=>ap [0] (rg 16 8) [(3,pI (IntKind.i64.wrap (v2+x9)))] (nv 4 Zd.enc (Zd.enc_eq _) hm8 (bg 6 (hrec hx9) bm)) (by kernel_rfl) (dX (ai [14,15] [(4,pI (IntKind.i64.wrap (v3+1)))] (by kernel_rfl) ?_))))
   exact aT hb5 () (lR rfl) cJ
  refine aH ?_
  refine cx hb5 (fun ht=>aj rfl ?_)
  exact av ((),v2) (re rfl) bz ht.symm
 rintro ⟨_,v4⟩ τ hz;(try dsimp only at hz);subst q6;(try dsimp only at h);dsimp only [aw]
 refine ae (ai [24,25] [(2,pI (pr v4 33))] (by kernel_rfl) (cU ?_))
 exact zz r h rfl
def lv (n:Nat):Zd→Option Int:=Nat.rec (motive:=fun _=>Zd→Option Int) (fun _=>none) (fun _ ih=>jt ih) n
def qc (p0:Zd):Option Int:=lv FUEL p0
theorem uj (n:Nat):∀ {p0:Zd} {r:Int},lv n p0=some r→PF 158 [.agg (ar p0)] (pI r):=by
 induction n with
 | zero=>intros;rename_i h;exact nomatch h
 | succ n ih=>intros;rename_i h;exact tc (fun hr=>ih hr) h
theorem vA {p0:Zd} {r:Int} (h:qc p0=some r):PF 158 [.agg (ar p0)] (pI r):=uj FUEL h
def lH (p0:Zd):Option Bool:=cond (((!(p0.Kind == 2))&&(((p0.Digits != 0)||(decide (0<(p0.Except.length:Int))))||(p0.Tolerance != 0)))||((!(p0.Kind == 3))&&(p0.Limit != 0))) (some false) (some (((p0.Kind == 4)||(decide (p0.Name=(⟨#[]⟩:ByteArray))))&&(((p0.Kind == 5)||(p0.Kind == 6))||((p0.Args.length:Int) == 0))))
theorem vB {p0:Zd} {r:Bool}  (h:lH p0=some r):PF 185 [.agg (ar p0)] (pB r):=by
 unfold lH at h
 refine bd ?_
 refine du Tryz.func185 rfl Tryz.ntmps185 Tryz.results185 rfl (dc rfl (bh (cs:=(ar p0)) rfl rfl (fun b1=>ba [2] (by kernel_rfl) (bY (bk (ρd:=[]) [(0,0),(1,0),(2,0),(3,0),(4,0),(5,0),(6,0),(7,0)] _ (List.Perm.refl _) (by kernel_rfl) rfl (pW 8 [0,0] (rg 6 6) [(3,pB (p0.Kind == 2)),(4,pB (p0.Kind == 3))] (by kernel_rfl) (bv (cq (aI [0,0,0,0] (rg 12 26) [(38,pB (((!(p0.Kind == 2))&&(((p0.Digits != 0)||(decide (0<(p0.Except.length:Int))))||(p0.Tolerance != 0)))||((!(p0.Kind == 3))&&(p0.Limit != 0))))] (by kernel_rfl) (cS rfl h (fun hc2 h=>?_) fun hc2 h=>?_))))))))))
 ·refine ae ?_
  refine dl [(2,pB false)] (by kernel_rfl) (am ?_)
  exact zz r h rfl
 refine ah ?_
 refine bY (aI [0,0] (rg 39 8) [(5,pB ((p0.Kind == 5)||(p0.Kind == 6)))] (by kernel_rfl) (bY (aI [0,0,0] (rg 47 17) [(2,pB (((p0.Kind == 4)||(decide (p0.Name=(⟨#[]⟩:ByteArray))))&&(((p0.Kind == 5)||(p0.Kind == 6))||((p0.Args.length:Int) == 0))))] (by kernel_rfl) (cU ?_))))
 exact zz r h rfl
def ju (rec:Zd→Option Bool) (p0:Zd):Option Bool:=(lH p0).bind fun x2=>cond (!x2) (some false) (cond (p0.Kind == 1) (some true) (cond (p0.Kind == 2) ((aU (S:=Int) (T:=(Unit)⊕(_)) (fun v6=>cond (decide (v6<(p0.Except.length:Int))) ((idx p0.Except v6).bind fun m10=>(gA m10).bind fun x11=>(gd ((!(x11 == 0))&&(decide (0<v6))) (idx p0.Except (IntKind.i64.wrap (v6 - 1)))).bind fun m12=>(gd ((!(x11 == 0))&&(decide (0<v6))) (idx p0.Except v6)).bind fun m13=>cond ((x11 == 0)||((decide (0<v6))&&(!Op.bytesLess m12.toList m13.toList))) (some (.inr (.inr false))) (some (.inl (IntKind.i64.wrap (v6+1))))) (some (.inr (.inl ())))) FUEL 0).bind fun q=>match q with | .inl _=>some ((((((p0.Digits == 2)||(p0.Digits == 4))||(p0.Digits == 6))&&(decide ((p0.Except.length:Int)≤6)))&&(decide (0≤p0.Tolerance)))&&(decide (p0.Tolerance≤1000000))) | .inr e=>some e) (cond (p0.Kind == 3) (some ((decide (0≤p0.Limit))&&(decide (p0.Limit≤1000000)))) (cond (p0.Kind == 4) ((lf p0.Name).bind fun x17=>some x17) (Option.bind (cond (p0.Kind == 5) (some (p0.Kind == 5)) (some (p0.Kind == 6))) (fun v18=>cond v18 ((aU (S:=Int) (T:=(Unit)⊕(_)) (fun v22=>cond (decide (v22<(p0.Args.length:Int))) ((idx p0.Args v22).bind fun m26=>(gd (!(m26.Kind == p0.Kind)) (idx p0.Args v22)).bind fun m27=>(gd (!(m26.Kind == p0.Kind)) (rec m27)).bind fun x28=>cond ((m26.Kind == p0.Kind)||(!x28)) (some (.inr (.inr false))) (some (.inl (IntKind.i64.wrap (v22+1))))) (some (.inr (.inl ())))) FUEL 0).bind fun q=>match q with | .inl _=>some ((decide (2≤(p0.Args.length:Int)))&&(decide ((p0.Args.length:Int)≤6))) | .inr e=>some e) (some false)))))))
theorem td {rec:Zd→Option Bool} (hrec:∀ {p0:Zd} {r:Bool},rec p0=some r→PF 159 [.agg (ar p0)] (pB r)) {p0:Zd} {r:Bool} (h:ju rec p0=some r):PF 159 [.agg (ar p0)] (pB r):=by
 unfold ju at h
 refine bd ?_
 refine du Tryz.func159 rfl Tryz.ntmps159 Tryz.results159 rfl (dc rfl (bh (cs:=(ar p0)) rfl rfl (fun b1=>ba [2] (by kernel_rfl) (cq (aa h fun x2 hx2 h=>ap [0] [5,6] [(7,pB (!x2))] (bg 1 (vB hx2) bm) (by kernel_rfl) (cS rfl h (fun hc3 h=>?_) fun hc3 h=>?_))))))
 ·refine ae ?_
  refine dl [(2,pB false)] (by kernel_rfl) (am ?_)
  exact zz r h rfl
 refine ah ?_
 refine cq (aI [0] [8] [(9,pI p0.Kind)] (by kernel_rfl) (aY (pX (bC [11] [(10,pB (p0.Kind == 1))] (by kernel_rfl) rfl h (fun hc4 h=>?_) fun hc4 h=>?_))))
 ·refine ae ?_
  refine dl [(2,pB true)] (by kernel_rfl) (dI ?_)
  exact zz r h rfl
 refine ae ?_
 refine bC [13] [(12,pB (p0.Kind == 2))] (by kernel_rfl) rfl h (fun hc5 h=>?_) fun hc5 h=>?_
 ·refine ae ?_
  refine ae (al [(3,pI 0)] (by kernel_rfl) (fz h fun q8 hq8 h=>?_))
  refine aq (Y:=Unit×Unit) (fun (_,_)=>[(1,pP b1 0)]) (fun (_,_)=>[PRes.b b1 84 (ar p0)]) (fun (_,_)=>q8=Sum.inl ()) ?_ ?_
  ·refine aA ?_
   refine aD (Y:=Unit) (S:=Int) _ hq8 (fun _ v6=>[(1,pP b1 0),(3,pI v6)]) (fun _ v6=>[PRes.b b1 84 (ar p0)]) () (mK rfl) cJ ?_
   rintro _ v6 o τ hb7;(try dsimp only at hb7);dsimp only [aw]
   refine dm (aI [0] [14,15,16,17] [(18,pB (decide (v6<(p0.Except.length:Int))))] (by kernel_rfl) (cS rfl hb7 (fun hc9 hb7=>?_) fun hc9 hb7=>?_))
   ·refine ah ?_
    refine dN (bk (ρd:=[]) [(0,0),(1,0),(2,0),(3,0),(4,0),(5,1),(6,0),(7,0),(8,0),(9,0),(10,0),(11,0),(12,0),(13,0),(14,0),(15,0),(16,0),(17,0),(18,0),(19,0),(20,0),(21,0),(22,0),(23,0),(24,0)] _ (List.Perm.refl _) (by kernel_rfl) rfl (aa hb7 fun m10 hm10 hb7=>aa hb7 fun x11 hx11 hb7=>aa hb7 fun m12 hm12 hb7=>aa hb7 fun m13 hm13 hb7=>br 25 [0,0,0] (rg 21 24) [(45,pB ((x11 == 0)||((decide (0<v6))&&(!Op.bytesLess m12.toList m13.toList))))] (cO 3 eS hm10 (bg 5 (nf hx11) (eJ 15 eS (cH hm12) (eJ 20 eS (cH hm13) bm)))) (by kernel_rfl) (bv (cS rfl hb7 (fun hc14 hb7=>?_) fun hc14 hb7=>?_))))
    ·refine ae ?_
     refine dl [(2,pB false)] (by kernel_rfl) (dI ?_)
     refine au hb7 (fun ht=>?_);subst ht
     refine cK (dI ?_)
     exact zz r h rfl
    refine ah ?_
    refine dX (ai [19,20] [(3,pI (IntKind.i64.wrap (v6+1)))] (by kernel_rfl) ?_)
    exact aT hb7 () (mK rfl) cJ
   refine aH ?_
   refine cx hb7 (fun ht=>aj rfl ?_)
   exact av ((),()) (re rfl) cJ ht.symm
  rintro ⟨_,_⟩ τ hz;(try dsimp only at hz);subst q8;(try dsimp only at h);dsimp only [aw]
  refine ae (aI [0,0,0,0,0,0] (rg 46 29) [(2,pB ((((((p0.Digits == 2)||(p0.Digits == 4))||(p0.Digits == 6))&&(decide ((p0.Except.length:Int)≤6)))&&(decide (0≤p0.Tolerance)))&&(decide (p0.Tolerance≤1000000))))] (by kernel_rfl) (cU (dI ?_)))
  exact zz r h rfl
 refine ae ?_
 refine bC [76] [(75,pB (p0.Kind == 3))] (by kernel_rfl) rfl h (fun hc15 h=>?_) fun hc15 h=>?_
 ·refine ae ?_
  refine aI [0,0] (rg 77 8) [(2,pB ((decide (0≤p0.Limit))&&(decide (p0.Limit≤1000000))))] (by kernel_rfl) (cU (dI ?_))
  exact zz r h rfl
 refine ae ?_
 refine bC [86] [(85,pB (p0.Kind == 4))] (by kernel_rfl) rfl h (fun hc16 h=>?_) fun hc16 h=>?_
 ·refine ae ?_
  refine aa h fun x17 hx17 h=>ap [0] [87,88,89] [(2,pB x17)] (bg 2 (rk hx17) bm) (by kernel_rfl) (cU (dI ?_))
  exact zz r h rfl
 refine ae ?_
 refine ae (ai [91] [(90,pB (p0.Kind == 5))] (by kernel_rfl) (fz h fun q19 hq19 h=>?_))
 refine aq (Y:=Unit×Bool) (fun (_,v18)=>[(1,pP b1 0),(90,pB v18)]) (fun (_,v18)=>[PRes.b b1 84 (ar p0)]) (fun (_,v18)=>q19=v18) ?_ ?_
 ·skip
  refine kK rfl hq19 (fun hc20 hq19=>?_) fun hc20 hq19=>?_
  ·refine ah ?_
   obtain rfl:=osi hq19
   exact av ((),(p0.Kind == 5)) (mK rfl) cJ rfl
  refine ai [92] [(90,pB (p0.Kind == 6))] (by kernel_rfl) ?_
  obtain rfl:=osi hq19
  exact av ((),(p0.Kind == 6)) (mK rfl) cJ rfl
 rintro ⟨_,v18⟩ τ hz;(try dsimp only at hz);subst q19;(try dsimp only at h);dsimp only [aw]
 refine kK rfl h (fun hc21 h=>?_) fun hc21 h=>?_
 ·refine ae ?_
  refine ae (al [(4,pI 0)] (by kernel_rfl) (fz h fun q24 hq24 h=>?_))
  refine aq (Y:=Unit×Unit) (fun (_,_)=>[(1,pP b1 0)]) (fun (_,_)=>[PRes.b b1 84 (ar p0)]) (fun (_,_)=>q24=Sum.inl ()) ?_ ?_
  ·refine aA ?_
   refine aD (Y:=Unit) (S:=Int) _ hq24 (fun _ v22=>[(1,pP b1 0),(4,pI v22)]) (fun _ v22=>[PRes.b b1 84 (ar p0)]) () (mK rfl) cJ ?_
   rintro _ v22 o τ hb23;(try dsimp only at hb23);dsimp only [aw]
   refine dm (aI [0] [93,94,95,96] [(97,pB (decide (v22<(p0.Args.length:Int))))] (by kernel_rfl) (cS rfl hb23 (fun hc25 hb23=>?_) fun hc25 hb23=>?_))
   ·refine ah ?_
    refine dN (bk (ρd:=[]) [(0,0),(1,0),(2,0),(3,0),(4,0),(5,0),(6,0),(7,0),(8,0),(9,0),(10,0),(11,0),(12,0),(13,0),(14,0),(15,1),(16,0),(17,0)] _ (List.Perm.refl _) (by kernel_rfl) rfl (aa hb23 fun m26 hm26 hb23=>aa hb23 fun m27 hm27 hb23=>aa hb23 fun x28 hx28 hb23=>br 18 [0,0,0] (rg 100 17) [(117,pB ((m26.Kind == p0.Kind)||(!x28)))] (nv 3 Zd.enc (Zd.enc_eq _) hm26 (foixrg 13 Zd.enc (Zd.enc_eq _) (cH hm27) (eK 15 (fun hc=>hrec (cH hx28 hc)) bm))) (by kernel_rfl) (bv (cS rfl hb23 (fun hc29 hb23=>?_) fun hc29 hb23=>?_))))
    ·refine ae ?_
     refine dl [(2,pB false)] (by kernel_rfl) (dI ?_)
     refine au hb23 (fun ht=>?_);subst ht
     refine cK (dI ?_)
     exact zz r h rfl
    refine ah ?_
    refine dX (ai [98,99] [(4,pI (IntKind.i64.wrap (v22+1)))] (by kernel_rfl) ?_)
    exact aT hb23 () (mK rfl) cJ
   refine aH ?_
   refine cx hb23 (fun ht=>aj rfl ?_)
   exact av ((),()) (re rfl) cJ ht.symm
  rintro ⟨_,_⟩ τ hz;(try dsimp only at hz);subst q24;(try dsimp only at h);dsimp only [aw]
  refine ae (aI [0,0] (rg 118 10) [(2,pB ((decide (2≤(p0.Args.length:Int)))&&(decide ((p0.Args.length:Int)≤6))))] (by kernel_rfl) (cU (dI ?_)))
  exact zz r h rfl
 refine ah ?_
 refine aB (bY (dl [(2,pB false)] (by kernel_rfl) ?_))
 exact zz r h rfl
def lw (n:Nat):Zd→Option Bool:=Nat.rec (motive:=fun _=>Zd→Option Bool) (fun _=>none) (fun _ ih=>ju ih) n
def qd (p0:Zd):Option Bool:=lw FUEL p0
theorem uk (n:Nat):∀ {p0:Zd} {r:Bool},lw n p0=some r→PF 159 [.agg (ar p0)] (pB r):=by
 induction n with
 | zero=>intros;rename_i h;exact nomatch h
 | succ n ih=>intros;rename_i h;exact td (fun hr=>ih hr) h
theorem vC {p0:Zd} {r:Bool} (h:qd p0=some r):PF 159 [.agg (ar p0)] (pB r):=uk FUEL h
def lh (p0:Zd):Option Int:=(qc p0).bind fun x2=>cond (decide (32<x2)) (some (8:Int)) ((qd p0).bind fun x4=>cond (!x4) (some (1:Int)) (some (0:Int)))
theorem wK {p0:Zd} {r:Int}  (h:lh p0=some r):PF 115 [.agg (ar p0)] (pI r):=by
 unfold lh at h
 refine bd ?_
 refine du Tryz.func115 rfl Tryz.ntmps115 Tryz.results115 rfl (dc rfl (bh (cs:=(ar p0)) rfl rfl (fun b1=>ba [2] (by kernel_rfl) (cq (aa h fun x2 hx2 h=>ap [0] [3,4] [(5,pB (decide (32<x2)))] (bg 1 (vA hx2) bm) (by kernel_rfl) (cS rfl h (fun hc3 h=>?_) fun hc3 h=>?_))))))
 ·refine ae ?_
  refine dl [(2,pI 8)] (by kernel_rfl) (am ?_)
  exact zz r h rfl
 refine ah ?_
 refine cq (aa h fun x4 hx4 h=>ap [0] [6,7] [(8,pB (!x4))] (bg 1 (vC hx4) bm) (by kernel_rfl) (cS rfl h (fun hc5 h=>?_) fun hc5 h=>?_))
 ·refine ae ?_
  refine dl [(2,pI 1)] (by kernel_rfl) (am ?_)
  exact zz r h rfl
 refine ah ?_
 refine bY (dl [(2,pI 0)] (by kernel_rfl) ?_)
 exact zz r h rfl
def fI (p0:(List Zb)):Option Int:=cond (decide (8<(p0.length:Int))) (some (8:Int)) ((aU (S:=Int) (T:=(Unit)⊕(_)) (fun v2=>cond (decide (v2<(p0.length:Int))) ((idx p0 v2).bind fun m6=>cond ((((decide (m6.ID<1))||(decide (1000<m6.ID)))||(decide (m6.Kind<1)))||(decide (3<m6.Kind))) (some (.inr (.inr (2:Int)))) ((gd (decide (0<v2)) (idx p0 (IntKind.i64.wrap (v2 - 1)))).bind fun m9=>cond ((decide (0<v2))&&(decide (m6.ID≤m9.ID))) (some (.inr (.inr (9:Int)))) (cond ((decide (12<(m6.Parties.length:Int)))||(decide (12<(m6.Rules.length:Int)))) (some (.inr (.inr (8:Int)))) ((aU (S:=Int) (T:=(Unit)⊕(_)) (fun v12=>cond (decide (v12<(m6.Parties.length:Int))) ((idx m6.Parties v12).bind fun m16=>(fa m16).bind fun x17=>(gd ((!(!x17))&&(decide (0<v12))) (idx m6.Parties (IntKind.i64.wrap (v12 - 1)))).bind fun m18=>(gd ((!(!x17))&&(decide (0<v12))) (idx m6.Parties v12)).bind fun m19=>cond ((!x17)||((decide (0<v12))&&(!Op.bytesLess m18.toList m19.toList))) (some (.inr (.inr (.inr (.inr (1:Int)))))) (some (.inl (IntKind.i64.wrap (v12+1))))) (some (.inr (.inl ())))) FUEL 0).bind fun q=>match q with | .inl _=>(aU (S:=Int) (T:=(Unit)⊕(_)) (fun v21=>cond (decide (v21<(m6.Rules.length:Int))) ((idx m6.Rules v21).bind fun m25=>(gA m25.Prefix).bind fun x26=>cond (x26 == 0) (some (.inr (.inr (.inr (.inr (1:Int)))))) ((gd (decide (0<v21)) (idx m6.Rules (IntKind.i64.wrap (v21 - 1)))).bind fun m28=>(gd (decide (0<v21)) (idx m6.Rules v21)).bind fun m29=>cond ((decide (0<v21))&&(!Op.bytesLess m28.Prefix.toList m29.Prefix.toList)) (some (.inr (.inr (.inr (.inr (9:Int)))))) ((idx m6.Rules v21).bind fun m31=>(lh m31.Rule).bind fun x32=>cond (x32 != 0) (some (.inr (.inr (.inr (.inr x32))))) (some (.inl (IntKind.i64.wrap (v21+1))))))) (some (.inr (.inl ())))) FUEL 0).bind (fun q=>match q with | .inl _=>some (.inl (IntKind.i64.wrap (v2+1))) | .inr e=>some e) | .inr e=>some e)))) (some (.inr (.inl ())))) FUEL 0).bind fun q=>match q with | .inl _=>some (0:Int) | .inr e=>some e)
theorem qZ {p0:(List Zb)} {r:Int}  (h:fI p0=some r):PF 66 [pL Zb.enc p0] (pI r):=by
 unfold fI at h
 refine bd ?_
 refine du Tryz.func66 rfl Tryz.ntmps66 Tryz.results66 rfl (aV [2] (by kernel_rfl) (cq (bC [8,9] [(10,pB (decide (8<(p0.length:Int))))] (by kernel_rfl) rfl h (fun hc1 h=>?_) fun hc1 h=>?_)))
 ·refine ae ?_
  refine dl [(2,pI 8)] (by kernel_rfl) (am ?_)
  exact zz r h rfl
 refine ah ?_
 refine cq (al [(3,pI 0)] (by kernel_rfl) (fz h fun q4 hq4 h=>?_))
 refine aq (Y:=Unit×Unit) (fun (_,_)=>[]) (fun (_,_)=>[]) (fun (_,_)=>q4=Sum.inl ()) ?_ ?_
 ·refine aA ?_
  refine aD (Y:=Unit) (S:=Int) _ hq4 (fun _ v2=>[(0,pL Zb.enc p0),(3,pI v2)]) (fun _ v2=>[]) () (mK rfl) bz ?_
  rintro _ v2 o τ hb3;(try dsimp only at hb3);dsimp only [aw]
  refine dm (bC [11,12,13] [(14,pB (decide (v2<(p0.length:Int))))] (by kernel_rfl) rfl hb3 (fun hc5 hb3=>?_) fun hc5 hb3=>?_)
  ·refine ah ?_
   refine dN (aa hb3 fun m6 hm6 hb3=>af (aS 4 [] [17,18,19] [(20,.agg (az m6))] (cO 2 Zb.enc hm6 bm) (by kernel_rfl) (an rfl (aM (cs:=[pI 0,pI 0,pN,pN]) rfl rfl rfl rfl (fun b7=>aP rfl rfl (ak (vs:=(az m6)) rfl rfl rfl rfl rfl ca tH (aG (dN (aI [0,0,0,0] (rg 22 18) [(21,pB ((((decide (m6.ID<1))||(decide (1000<m6.ID)))||(decide (m6.Kind<1)))||(decide (3<m6.Kind))))] (by kernel_rfl) (cS rfl hb3 (fun hc8 hb3=>?_) fun hc8 hb3=>?_))))))))))
   ·refine ae ?_
    refine dl [(2,pI 2)] (by kernel_rfl) (dI (dI ?_))
    refine au hb3 (fun ht=>?_);subst ht
    refine cK ?_
    exact zz r h rfl
   refine ae ?_
   refine bk (ρd:=[]) [(0,0),(1,0),(2,0),(3,0),(4,0),(5,0),(6,0),(7,0),(8,0),(9,0),(10,0),(11,0),(12,0),(13,0)] _ (List.Perm.refl _) (by kernel_rfl) rfl (aa hb3 fun m9 hm9 hb3=>br 14 [0] (rg 41 13) [(40,pB ((decide (0<v2))&&(decide (m6.ID≤m9.ID))))] (eJ 8 Zb.enc (cH hm9) bm) (by kernel_rfl) (bv (cS rfl hb3 (fun hc10 hb3=>?_) fun hc10 hb3=>?_)))
   ·refine ae ?_
    refine dl [(2,pI 9)] (by kernel_rfl) (dI (dI ?_))
    refine au hb3 (fun ht=>?_);subst ht
    refine cK ?_
    exact zz r h rfl
   refine ae ?_
   refine aI [0,0] (rg 55 10) [(54,pB ((decide (12<(m6.Parties.length:Int)))||(decide (12<(m6.Rules.length:Int)))))] (by kernel_rfl) (cS rfl hb3 (fun hc11 hb3=>?_) fun hc11 hb3=>?_)
   ·refine ae ?_
    refine dl [(2,pI 8)] (by kernel_rfl) (dI (dI ?_))
    refine au hb3 (fun ht=>?_);subst ht
    refine cK ?_
    exact zz r h rfl
   refine ah ?_
   refine aB (cq (al [(5,pI 0)] (by kernel_rfl) (fz hb3 fun q14 hq14 hb3=>?_)))
   refine aq (Y:=Unit×Unit) (fun (_,_)=>[(0,pL Zb.enc p0),(3,pI v2),(4,pP b7 0)]) (fun (_,_)=>[PRes.b b7 81 (az m6)]) (fun (_,_)=>q14=Sum.inl ()) ?_ ?_
   ·refine aA ?_
    refine aD (Y:=Unit) (S:=Int) _ hq14 (fun _ v12=>[(0,pL Zb.enc p0),(3,pI v2),(4,pP b7 0),(5,pI v12)]) (fun _ v12=>[PRes.b b7 81 (az m6)]) () (jf rfl) cJ ?_
    rintro _ v12 o τ hb13;(try dsimp only at hb13);dsimp only [aw]
    refine dm (aI [0] [65,66,67,68] [(69,pB (decide (v12<(m6.Parties.length:Int))))] (by kernel_rfl) (cS rfl hb13 (fun hc15 hb13=>?_) fun hc15 hb13=>?_))
    ·refine ah ?_
     refine dN (bk (ρd:=[]) [(0,0),(1,0),(2,0),(3,0),(4,0),(5,1),(6,0),(7,0),(8,0),(9,0),(10,0),(11,0),(12,0),(13,0),(14,0),(15,0),(16,0),(17,0),(18,0),(19,0),(20,0),(21,0),(22,0),(23,0),(24,0)] _ (List.Perm.refl _) (by kernel_rfl) rfl (aa hb13 fun m16 hm16 hb13=>aa hb13 fun x17 hx17 hb13=>aa hb13 fun m18 hm18 hb13=>aa hb13 fun m19 hm19 hb13=>br 25 [0,0,0] (rg 72 24) [(96,pB ((!x17)||((decide (0<v12))&&(!Op.bytesLess m18.toList m19.toList))))] (cO 3 eS hm16 (bg 5 (ld hx17) (eJ 15 eS (cH hm18) (eJ 20 eS (cH hm19) bm)))) (by kernel_rfl) (bv (cS rfl hb13 (fun hc20 hb13=>?_) fun hc20 hb13=>?_))))
     ·refine ae ?_
      refine dl [(2,pI 1)] (by kernel_rfl) (dI ?_)
      refine au hb13 (fun ht=>?_);subst ht
      refine cK (dI ?_)
      refine au hb3 (fun ht=>?_);subst ht
      refine cK ?_
      exact zz r h rfl
     refine ah ?_
     refine dX (ai [70,71] [(5,pI (IntKind.i64.wrap (v12+1)))] (by kernel_rfl) ?_)
     exact aT hb13 () (jf rfl) cJ
    refine aH ?_
    refine cx hb13 (fun ht=>aj rfl ?_)
    exact av ((),()) (lR rfl) cJ ht.symm
   rintro ⟨_,_⟩ τ hz;(try dsimp only at hz);subst q14;(try dsimp only at hb3);dsimp only [aw]
   refine ae (al [(6,pI 0)] (by kernel_rfl) (fz hb3 fun q23 hq23 hb3=>?_))
   refine iM (Y:=Unit×Unit) (fun (_,_)=>[(0,pL Zb.enc p0),(3,pI v2)]) (fun (_,_)=>[]) (fun (_,_)=>q23=Sum.inl ()) ?_ ?_
   ·refine aA ?_
    refine aD (Y:=Unit) (S:=Int) _ hq23 (fun _ v21=>[(0,pL Zb.enc p0),(3,pI v2),(4,pP b7 0),(6,pI v21)]) (fun _ v21=>[PRes.b b7 81 (az m6)]) () (jf rfl) cJ ?_
    rintro _ v21 o τ hb22;(try dsimp only at hb22);dsimp only [aw]
    refine dm (aI [0] [97,98,99,100] [(101,pB (decide (v21<(m6.Rules.length:Int))))] (by kernel_rfl) (cS rfl hb22 (fun hc24 hb22=>?_) fun hc24 hb22=>?_))
    ·refine ah ?_
     refine dN (ae (aa hb22 fun m25 hm25 hb22=>aa hb22 fun x26 hx26 hb22=>ap [0] (rg 104 7) [(111,pB (x26 == 0))] (cO 3 Zi.enc hm25 (bg 6 (nf hx26) bm)) (by kernel_rfl) (cS rfl hb22 (fun hc27 hb22=>?_) fun hc27 hb22=>?_)))
     ·refine ae ?_
      refine dl [(2,pI 1)] (by kernel_rfl) (am (dI ?_))
      refine au hb22 (fun ht=>?_);subst ht
      refine dR (gF (dI ?_))
      refine au hb3 (fun ht=>?_);subst ht
      refine cK ?_
      exact zz r h rfl
     refine ah ?_
     refine cq (bk (ρd:=[]) [(0,0),(1,0),(2,0),(3,0),(4,0),(5,0),(6,0),(7,0),(8,0),(9,0),(10,0),(11,0),(12,0),(13,0),(14,0),(15,0),(16,0),(17,0)] _ (List.Perm.refl _) (by kernel_rfl) rfl (aa hb22 fun m28 hm28 hb22=>aa hb22 fun m29 hm29 hb22=>br 18 [0,0] (rg 112 17) [(129,pB ((decide (0<v21))&&(!Op.bytesLess m28.Prefix.toList m29.Prefix.toList)))] (eJ 7 Zi.enc (cH hm28) (eJ 13 Zi.enc (cH hm29) bm)) (by kernel_rfl) (bv (cS rfl hb22 (fun hc30 hb22=>?_) fun hc30 hb22=>?_))))
     ·refine ae ?_
      refine dl [(2,pI 9)] (by kernel_rfl) (am (dI ?_))
      refine au hb22 (fun ht=>?_);subst ht
      refine dR (gF (dI ?_))
      refine au hb3 (fun ht=>?_);subst ht
      refine cK ?_
      exact zz r h rfl
     refine ah ?_
     refine de hb22 fun m31 hm31 hb22=>aa hb22 fun x32 hx32 hb22=>ap [0] (rg 130 7) [(7,pI x32)] (cO 3 Zi.enc hm31 (bg 6 (wK hx32) bm)) (by kernel_rfl) (bY (bC [137] [(138,pB (x32 != 0))] (by kernel_rfl) rfl hb22 (fun hc33 hb22=>?_) fun hc33 hb22=>?_))
     ·refine ae ?_
      refine ai [139] [(2,pI x32)] (by kernel_rfl) (cU (dI ?_))
      refine au hb22 (fun ht=>?_);subst ht
      refine dR (gF (dI ?_))
      refine au hb3 (fun ht=>?_);subst ht
      refine cK ?_
      exact zz r h rfl
     refine ah ?_
     refine dX (ai [102,103] [(6,pI (IntKind.i64.wrap (v21+1)))] (by kernel_rfl) ?_)
     exact aT hb22 () (jf rfl) cJ
    refine aH ?_
    refine cx hb22 (fun ht=>aj rfl ?_)
    exact gh ((),()) (mK rfl) bz ht.symm
   rintro ⟨_,_⟩ τ ρ1 hsub34 hz;(try dsimp only at hz hsub34);subst q23;(try dsimp only at hb3);dsimp only [aw]
   refine dX (oF hsub34 (ai [15,16] [(3,pI (IntKind.i64.wrap (v2+1)))] (by kernel_rfl) ?_))
   exact aT hb3 () (mK rfl) bz
  refine aH ?_
  refine cx hb3 (fun ht=>aj rfl ?_)
  exact av ((),()) pg bz ht.symm
 rintro ⟨_,_⟩ τ hz;(try dsimp only at hz);subst q4;(try dsimp only at h);dsimp only [aw]
 refine ae (dl [(2,pI 0)] (by kernel_rfl) ?_)
 exact zz r h rfl
def gU (p0:Zd) (p1:Zl) (p2:Zk):Option Bool:=(kg p2.Code 0 p0.Digits).bind fun s4=>(kg p1.Code 0 p0.Digits).bind fun s5=>cond (decide (s4=s5)) (some true) ((aU (S:=Int) (T:=(Unit)⊕(_)) (fun v7=>cond (decide (v7<(p0.Except.length:Int))) ((idx p0.Except v7).bind fun m11=>(hZ p2.Code m11).bind fun x12=>cond x12 (some (.inr (.inr true))) (some (.inl (IntKind.i64.wrap (v7+1))))) (some (.inr (.inl ())))) FUEL 0).bind fun q=>match q with | .inl _=>some false | .inr e=>some e)
theorem sf {p0:Zd} {p1:Zl} {p2:Zk} {r:Bool}  (h:gU p0 p1 p2=some r):PF 160 [.agg (ar p0),.agg (bp p1),.agg [pS p2.Code,pI p2.Value,pB p2.Originating]] (pB r):=by
 unfold gU at h
 refine bd ?_
 refine du Tryz.func160 rfl Tryz.ntmps160 Tryz.results160 rfl (dc rfl (bh (cs:=(ar p0)) rfl rfl (fun b1=>an rfl (bh (cs:=(bp p1)) rfl rfl (fun b2=>an rfl (bh (cs:=[pS p2.Code,pI p2.Value,pB p2.Originating]) rfl rfl (fun b3=>ba [6] (by kernel_rfl) (cq (bk (ρd:=[]) [(0,0),(1,0),(2,0),(3,0),(4,0),(5,0),(6,0),(7,0),(8,0),(9,0),(10,0)] _ (List.Perm.refl _) (by kernel_rfl) rfl (aa h fun s4 hs4 h=>aa h fun s5 hs5 h=>br 11 [0,2,1,2] (rg 8 10) [(18,pB (decide (s4=s5)))] (foss 4 hs4 (foss 9 hs5 bm)) (by kernel_rfl) (bv (cS rfl h (fun hc6 h=>?_) fun hc6 h=>?_))))))))))))
 ·refine ae ?_
  refine dl [(6,pB true)] (by kernel_rfl) (am ?_)
  exact zz r h rfl
 refine ah ?_
 refine cq (al [(7,pI 0)] (by kernel_rfl) (fz h fun q9 hq9 h=>?_))
 refine aq (Y:=Unit×Unit) (fun (_,_)=>[]) (fun (_,_)=>[]) (fun (_,_)=>q9=Sum.inl ()) ?_ ?_
 ·refine aA ?_
  refine aD (Y:=Unit) (S:=Int) _ hq9 (fun _ v7=>[(3,pP b1 0),(5,pP b3 0),(7,pI v7)]) (fun _ v7=>[PRes.b b1 84 (ar p0),PRes.b b3 103 [pS p2.Code,pI p2.Value,pB p2.Originating]]) () (lR rfl) (be (aC (aC aO)) cJ) ?_
  rintro _ v7 o τ hb8;(try dsimp only at hb8);dsimp only [aw]
  refine dm (aI [0] [19,20,21,22] [(23,pB (decide (v7<(p0.Except.length:Int))))] (by kernel_rfl) (cS rfl hb8 (fun hc10 hb8=>?_) fun hc10 hb8=>?_))
  ·refine ah ?_
   refine dN (bk (ρd:=[]) [(0,0),(1,0),(2,0),(3,0),(4,0),(5,0),(6,0),(7,1)] _ (List.Perm.refl _) (by kernel_rfl) rfl (aa hb8 fun m11 hm11 hb8=>aa hb8 fun x12 hx12 hb8=>br 8 [1,0] (rg 26 7) [(33,pB x12)] (cO 5 eS hm11 (bg 7 (pm hx12) bm)) (by kernel_rfl) (bv (cS rfl hb8 (fun hc13 hb8=>?_) fun hc13 hb8=>?_))))
   ·refine ae ?_
    refine dl [(6,pB true)] (by kernel_rfl) (dI ?_)
    refine au hb8 (fun ht=>?_);subst ht
    refine cK ?_
    exact zz r h rfl
   refine ah ?_
   refine dX (ai [24,25] [(7,pI (IntKind.i64.wrap (v7+1)))] (by kernel_rfl) ?_)
   exact aT hb8 () (lR rfl) ni
  refine aH ?_
  refine cx hb8 (fun ht=>aj rfl ?_)
  exact av ((),()) pg bz ht.symm
 rintro ⟨_,_⟩ τ hz;(try dsimp only at hz);subst q9;(try dsimp only at h);dsimp only [aw]
 refine ae (dl [(6,pB false)] (by kernel_rfl) ?_)
 exact zz r h rfl
def ll (p0:Zm) (p1:Zm):Option Bool:=some ((decide (p0.Hi<p1.Hi))||((p0.Hi == p1.Hi)&&(decide (p0.Lo<p1.Lo))))
theorem rl {p0:Zm} {p1:Zm} {r:Bool}  (h:ll p0 p1=some r):PF 208 [.agg [pU p0.Hi,pU p0.Lo],.agg [pU p1.Hi,pU p1.Lo]] (pB r):=by
 unfold ll at h
 refine bd ?_
 refine du Tryz.func208 rfl Tryz.ntmps208 Tryz.results208 rfl (dc rfl (bh (cs:=[pU p0.Hi,pU p0.Lo]) rfl rfl (fun b1=>an rfl (bh (cs:=[pU p1.Hi,pU p1.Lo]) rfl rfl (fun b2=>ba [4] (by kernel_rfl) (bY (aI [1,0,1,0,1,0] (rg 5 19) [(4,pB ((decide (p0.Hi<p1.Hi))||((p0.Hi == p1.Hi)&&(decide (p0.Lo<p1.Lo)))))] (by kernel_rfl) (cU ?_))))))))
 exact zz r h rfl
def nw (p0:Zm) (p1:Zm):Option Int:=(ll p0 p1).bind fun x3=>cond x3 (some (-1)) ((ll p1 p0).bind fun x5=>cond x5 (some (1:Int)) (some (0:Int)))
theorem vD {p0:Zm} {p1:Zm} {r:Int}  (h:nw p0 p1=some r):PF 186 [.agg [pU p0.Hi,pU p0.Lo],.agg [pU p1.Hi,pU p1.Lo]] (pI r):=by
 unfold nw at h
 refine bd ?_
 refine du Tryz.func186 rfl Tryz.ntmps186 Tryz.results186 rfl (dc rfl (bh (cs:=[pU p0.Hi,pU p0.Lo]) rfl rfl (fun b1=>an rfl (bh (cs:=[pU p1.Hi,pU p1.Lo]) rfl rfl (fun b2=>ba [4] (by kernel_rfl) (dN (aa h fun x3 hx3 h=>ap [1,0] [6,7,8] [(5,pB x3)] (bg 2 (rl hx3) bm) (by kernel_rfl) (cS rfl h (fun hc4 h=>?_) fun hc4 h=>?_))))))))
 ·refine ae ?_
  refine dl [(4,pI (-1))] (by kernel_rfl) (dI ?_)
  exact zz r h rfl
 refine ae ?_
 refine aa h fun x5 hx5 h=>ap [0,1] [10,11,12] [(9,pB x5)] (bg 2 (rl hx5) bm) (by kernel_rfl) (cS rfl h (fun hc6 h=>?_) fun hc6 h=>?_)
 ·refine ae ?_
  refine dl [(4,pI 1)] (by kernel_rfl) (dI ?_)
  exact zz r h rfl
 refine ah ?_
 refine aB (bY (dl [(4,pI 0)] (by kernel_rfl) ?_))
 exact zz r h rfl
def i7 (p0:Int) (p1:Int) (p2:Int):Option Bool:=(jT (IntKind.u64.wrap p0) 1000000).bind fun x1=>(jT (IntKind.u64.wrap p1) (IntKind.u64.wrap p2)).bind fun x2=>(nw x1 x2).bind fun x3=>some (decide (x3≤0))
theorem po {p0:Int} {p1:Int} {p2:Int} {r:Bool}  (h:i7 p0 p1 p2=some r):PF 161 [pI p0,pI p1,pI p2] (pB r):=by
 unfold i7 at h
 refine bd ?_
 refine du Tryz.func161 rfl Tryz.ntmps161 Tryz.results161 rfl (aV [6] (by kernel_rfl) (de h fun x1 hx1 h=>aa h fun x2 hx2 h=>aa h fun x3 hx3 h=>ap [] (rg 7 10) [(6,pB (decide (x3≤0)))] (bg 2 (oM hx1) (bg 7 (oM hx2) (bg 8 (vD hx3) bm))) (by kernel_rfl) (cU ?_)))
 exact zz r h rfl
def jv (rec:Zd→Zl→Option Bool) (p0:Zd) (p1:Zl):Option Bool:=(aU (S:=Int×Int×Int) (T:=(Int×Int)) (fun (v3,v4,v5)=>cond (decide (v5<(p1.Inputs.length:Int))) (((idx p1.Inputs v5).bind fun m14=>cond m14.Originating (some (v3,v4)) ((gd ((!(p0.Kind == 3))&&(p0.Kind == 2)) (gU p0 p1 m14)).bind fun x17=>cond ((p0.Kind == 3)||((p0.Kind == 2)&&x17)) (some ((IntKind.i64.wrap (v3+m14.Value)),(IntKind.i64.wrap (v4+1)))) (some (v3,(IntKind.i64.wrap (v4+1)))))).bind fun (v11,v12)=>some (.inl (v11,v12,(IntKind.i64.wrap (v5+1))))) (some (.inr (v3,v4)))) FUEL (0,0,0)).bind fun (v6,v7)=>(aU (S:=Int×Int) (T:=(Int)) (fun (v19,v20)=>cond (decide (v20<(p0.Args.length:Int))) (((idx p0.Args v20).bind fun m27=>(rec m27 p1).bind fun x28=>cond x28 (some (IntKind.i64.wrap (v19+1))) (some v19)).bind fun v25=>some (.inl (v25,(IntKind.i64.wrap (v20+1))))) (some (.inr v19))) FUEL (0,0)).bind fun v21=>cond (p0.Kind == 1) (some (p1.Obtained&&(v7 == 0))) (cond (p0.Kind == 2) ((i7 v6 p0.Tolerance p1.Price).bind fun x32=>some x32) (cond (p0.Kind == 3) ((i7 v6 p0.Limit p1.Price).bind fun x34=>some x34) (cond (p0.Kind == 4) ((iA p1.Processes p0.Name).bind fun x36=>some x36) (cond (p0.Kind == 5) (some (v21 == (p0.Args.length:Int))) (some (decide (0<v21)))))))
theorem te {rec:Zd→Zl→Option Bool} (hrec:∀ {p0:Zd} {p1:Zl} {r:Bool},rec p0 p1=some r→PF 117 [.agg (ar p0),.agg (bp p1)] (pB r)) {p0:Zd} {p1:Zl} {r:Bool} (h:jv rec p0 p1=some r):PF 117 [.agg (ar p0),.agg (bp p1)] (pB r):=by
 unfold jv at h
 refine bd ?_
 refine du Tryz.func117 rfl Tryz.ntmps117 Tryz.results117 rfl (dc rfl (bh (cs:=(ar p0)) rfl rfl (fun b1=>an rfl (bh (cs:=(bp p1)) rfl rfl (fun b2=>ba [4] (by kernel_rfl) (bY (al [(5,pI 0),(6,pI 0),(7,pI 0)] (by kernel_rfl) (cq (al [(8,pI 0)] (by kernel_rfl) (fz h fun q9 hq9 h=>?_))))))))))
 refine aq (Y:=Unit×(Int×Int)) (fun (_,(v6,v7))=>[(2,pP b1 0),(3,pP b2 0),(5,pI v6),(6,pI v7),(7,pI 0)]) (fun (_,(v6,v7))=>[PRes.b b1 84 (ar p0),PRes.b b2 36 (bp p1)]) (fun (_,(v6,v7))=>q9=(v6,v7)) ?_ ?_
 ·refine aA ?_
  refine aD (Y:=Unit) (S:=Int×Int×Int) _ hq9 (fun _ (v3,v4,v5)=>[(2,pP b1 0),(3,pP b2 0),(5,pI v3),(6,pI v4),(7,pI 0),(8,pI v5)]) (fun _ (v3,v4,v5)=>[PRes.b b1 84 (ar p0),PRes.b b2 36 (bp p1)]) () (qV rfl) (be (aC aO) cJ) ?_
  rintro _ ⟨v3,v4,v5⟩ o τ hb8;(try dsimp only at hb8);dsimp only [aw]
  refine dm (aI [1] [11,12,13,14] [(15,pB (decide (v5<(p1.Inputs.length:Int))))] (by kernel_rfl) (cS rfl hb8 (fun hc10 hb8=>?_) fun hc10 hb8=>?_))
  ·refine ah ?_
   refine de hb8 fun q13 hq13 hb8=>?_
   refine aq (Y:=Unit×(Int×Int)) (fun (_,(v11,v12))=>[(2,pP b1 0),(3,pP b2 0),(5,pI v11),(6,pI v12),(7,pI 0),(8,pI v5)]) (fun (_,(v11,v12))=>[PRes.b b1 84 (ar p0),PRes.b b2 36 (bp p1)]) (fun (_,(v11,v12))=>q13=(v11,v12)) ?_ ?_
   ·skip
    refine pX (aa hq13 fun m14 hm14 hq13=>af (aS 5 [1] [18,19,20,21] [(22,.agg [pS m14.Code,pI m14.Value,pB m14.Originating])] (cO 3 Zk.enc hm14 bm) (by kernel_rfl) (an rfl (aM (cs:=[pS ByteArray.empty,pI 0,pB false]) rfl rfl rfl rfl (fun b15=>aP rfl rfl (ak (vs:=[pS m14.Code,pI m14.Value,pB m14.Originating]) rfl rfl rfl rfl rfl ca zl3 (aG (cq (aI [0] [23] [(24,pB m14.Originating)] (by kernel_rfl) (cS rfl hq13 (fun hc16 hq13=>?_) fun hc16 hq13=>?_))))))))))
    ·refine aH ?_
     refine gZ (aj rfl ?_)
     obtain rfl:=osi hq13
     exact av ((),(v3,v4)) (qV rfl) (be (aC aO) (be (aC aO) bz)) rfl
    refine ah ?_
    refine bY (ai [25,26] [(6,pI (IntKind.i64.wrap (v4+1)))] (by kernel_rfl) (de hq13 fun x17 hx17 hq13=>ap [1,1,1,2,0] (rg 27 13) [(40,pB ((p0.Kind == 3)||((p0.Kind == 2)&&x17)))] (eK 11 (fun hc=>sf (cH hx17 hc)) bm) (by kernel_rfl) (cS rfl hq13 (fun hc18 hq13=>?_) fun hc18 hq13=>?_)))
    ·refine aI [0] [41,42,43,44] [(5,pI (IntKind.i64.wrap (v3+m14.Value)))] (by kernel_rfl) ?_
     refine aB ?_
     obtain rfl:=osi hq13
     exact av ((),((IntKind.i64.wrap (v3+m14.Value)),(IntKind.i64.wrap (v4+1)))) (qV rfl) (be (aC aO) (be (aC aO) bz)) rfl
    refine ah ?_
    refine aB ?_
    obtain rfl:=osi hq13
    exact av ((),(v3,(IntKind.i64.wrap (v4+1)))) (qV rfl) (be (aC aO) (be (aC aO) bz)) rfl
   rintro ⟨_,⟨v11,v12⟩⟩ τ hz;(try dsimp only at hz);subst q13;(try dsimp only at hb8);dsimp only [aw]
   refine ai [16,17] [(8,pI (IntKind.i64.wrap (v5+1)))] (by kernel_rfl) ?_
   exact aT hb8 () (qV rfl) ni
  refine aH ?_
  refine cx hb8 (fun ht=>aj rfl ?_)
  exact av ((),(v3,v4)) (nu rfl) ni ht.symm
 rintro ⟨_,⟨v6,v7⟩⟩ τ hz;(try dsimp only at hz);subst q9;(try dsimp only at h);dsimp only [aw]
 refine dm (al [(10,pI 0)] (by kernel_rfl) (fz h fun q23 hq23 h=>?_))
 refine aq (Y:=Unit×Int) (fun (_,v21)=>[(2,pP b1 0),(3,pP b2 0),(5,pI v6),(6,pI v7),(7,pI v21)]) (fun (_,v21)=>[PRes.b b1 84 (ar p0),PRes.b b2 36 (bp p1)]) (fun (_,v21)=>q23=v21) ?_ ?_
 ·refine aA ?_
  refine aD (Y:=Unit) (S:=Int×Int) _ hq23 (fun _ (v19,v20)=>[(2,pP b1 0),(3,pP b2 0),(5,pI v6),(6,pI v7),(7,pI v19),(10,pI v20)]) (fun _ (v19,v20)=>[PRes.b b1 84 (ar p0),PRes.b b2 36 (bp p1)]) () (qV rfl) ni ?_
  rintro _ ⟨v19,v20⟩ o τ hb22;(try dsimp only at hb22);dsimp only [aw]
  refine dm (aI [0] [45,46,47,48] [(49,pB (decide (v20<(p0.Args.length:Int))))] (by kernel_rfl) (cS rfl hb22 (fun hc24 hb22=>?_) fun hc24 hb22=>?_))
  ·refine ah ?_
   refine de hb22 fun q26 hq26 hb22=>?_
   refine aq (Y:=Unit×Int) (fun (_,v25)=>[(2,pP b1 0),(3,pP b2 0),(5,pI v6),(6,pI v7),(7,pI v25),(10,pI v20)]) (fun (_,v25)=>[PRes.b b1 84 (ar p0),PRes.b b2 36 (bp p1)]) (fun (_,v25)=>q26=v25) ?_ ?_
   ·skip
    refine pX (bk (ρd:=[]) [(0,0),(1,0),(2,0),(3,0),(4,0),(5,0),(6,1)] _ (List.Perm.refl _) (by kernel_rfl) rfl (aa hq26 fun m27 hm27 hq26=>aa hq26 fun x28 hx28 hq26=>br 7 [0,1] (rg 52 6) [(58,pB x28)] (nv 3 Zd.enc (Zd.enc_eq _) hm27 (bg 6 (hrec hx28) bm)) (by kernel_rfl) (bv (cS rfl hq26 (fun hc29 hq26=>?_) fun hc29 hq26=>?_))))
    ·refine ai [59,60] [(7,pI (IntKind.i64.wrap (v19+1)))] (by kernel_rfl) ?_
     refine aB ?_
     obtain rfl:=osi hq26
     exact av ((),(IntKind.i64.wrap (v19+1))) (qV rfl) ni rfl
    refine ah ?_
    refine aB ?_
    obtain rfl:=osi hq26
    exact av ((),v19) (qV rfl) ni rfl
   rintro ⟨_,v25⟩ τ hz;(try dsimp only at hz);subst q26;(try dsimp only at hb22);dsimp only [aw]
   refine ai [50,51] [(10,pI (IntKind.i64.wrap (v20+1)))] (by kernel_rfl) ?_
   exact aT hb22 () (qV rfl) ni
  refine aH ?_
  refine cx hb22 (fun ht=>aj rfl ?_)
  exact av ((),v19) (nu rfl) ni ht.symm
 rintro ⟨_,v21⟩ τ hz;(try dsimp only at hz);subst q23;(try dsimp only at h);dsimp only [aw]
 refine dm (aI [0] [61] [(62,pI p0.Kind)] (by kernel_rfl) (aY (pX (bC [64] [(63,pB (p0.Kind == 1))] (by kernel_rfl) rfl h (fun hc30 h=>?_) fun hc30 h=>?_))))
 ·refine ae ?_
  refine aI [1] (rg 65 6) [(4,pB (p1.Obtained&&(v7 == 0)))] (by kernel_rfl) (cU (dI ?_))
  exact zz r h rfl
 refine ae ?_
 refine bC [72] [(71,pB (p0.Kind == 2))] (by kernel_rfl) rfl h (fun hc31 h=>?_) fun hc31 h=>?_
 ·refine ae ?_
  refine aa h fun x32 hx32 h=>ap [0,1] (rg 73 6) [(4,pB x32)] (bg 5 (po hx32) bm) (by kernel_rfl) (cU (dI ?_))
  exact zz r h rfl
 refine ae ?_
 refine bC [80] [(79,pB (p0.Kind == 3))] (by kernel_rfl) rfl h (fun hc33 h=>?_) fun hc33 h=>?_
 ·refine ae ?_
  refine aa h fun x34 hx34 h=>ap [0,1] (rg 81 6) [(4,pB x34)] (bg 5 (po hx34) bm) (by kernel_rfl) (cU (dI ?_))
  exact zz r h rfl
 refine ae ?_
 refine bC [88] [(87,pB (p0.Kind == 4))] (by kernel_rfl) rfl h (fun hc35 h=>?_) fun hc35 h=>?_
 ·refine ae ?_
  refine aa h fun x36 hx36 h=>ap [1,0] (rg 89 5) [(4,pB x36)] (bg 4 (i5 hx36) bm) (by kernel_rfl) (cU (dI ?_))
  exact zz r h rfl
 refine ae ?_
 refine bC [95] [(94,pB (p0.Kind == 5))] (by kernel_rfl) rfl h (fun hc37 h=>?_) fun hc37 h=>?_
 ·refine ae ?_
  refine aI [0] (rg 96 5) [(4,pB (v21 == (p0.Args.length:Int)))] (by kernel_rfl) (cU (dI ?_))
  exact zz r h rfl
 refine ah ?_
 refine aB (bY (ai [101,102] [(4,pB (decide (0<v21)))] (by kernel_rfl) (cU ?_)))
 exact zz r h rfl
def lx (n:Nat):Zd→Zl→Option Bool:=Nat.rec (motive:=fun _=>Zd→Zl→Option Bool) (fun _ _=>none) (fun _ ih=>jv ih) n
def nx (p0:Zd) (p1:Zl):Option Bool:=lx FUEL p0 p1
theorem ul (n:Nat):∀ {p0:Zd} {p1:Zl} {r:Bool},lx n p0 p1=some r→PF 117 [.agg (ar p0),.agg (bp p1)] (pB r):=by
 induction n with
 | zero=>intros;rename_i h;exact nomatch h
 | succ n ih=>intros;rename_i h;exact te (fun hr=>ih hr) h
theorem qe {p0:Zd} {p1:Zl} {r:Bool} (h:nx p0 p1=some r):PF 117 [.agg (ar p0),.agg (bp p1)] (pB r):=ul FUEL h
def iq (rec:Zd→Zl→Option ((List Int)×Bool)) (p0:Zd) (p1:Zl):Option ((List Int)×Bool):=(nx p0 p1).bind fun x3=>cond (!x3) (some ([],false)) ((aU (S:=(List Int)×Int) (T:=((List Int))⊕(_)) (fun (l6,v9)=>cond (decide (v9<(p0.Args.length:Int))) (Option.bind (α:=((List Int))⊕_) ((idx p0.Args v9).bind fun m23=>(rec m23 p1).bind fun x24=>cond (!x24.2) (some (.inl l6)) (cond (p0.Kind == 6) ((app 8 [v9] x24.1).bind fun l29=>some (.inr (.inr (.inr (l29,true))))) ((app 8 l6 x24.1).bind fun l33=>some (.inl l33)))) (fun q=>match q with | .inl l21=>some (.inl (l21,(IntKind.i64.wrap (v9+1)))) | .inr e=>some e)) (some (.inr (.inl l6)))) FUEL (([]:List Int),0)).bind fun q=>match q with | .inl l13=>some (l13,true) | .inr e=>some e)
theorem rG {rec:Zd→Zl→Option ((List Int)×Bool)} (hrec:∀ {p0:Zd} {p1:Zl} {r:((List Int)×Bool)},rec p0 p1=some r→PF 70 [.agg (ar p0),.agg (bp p1)] (.tup [pL eI r.1,pB r.2])) {p0:Zd} {p1:Zl} {r:((List Int)×Bool)} (h:iq rec p0 p1=some r):PF 70 [.agg (ar p0),.agg (bp p1)] (.tup [pL eI r.1,pB r.2]):=by
 unfold iq at h
 refine bd ?_
 refine du Tryz.func70 rfl Tryz.ntmps70 Tryz.results70 rfl (dc rfl (bh (cs:=(ar p0)) rfl rfl (fun b1=>an rfl (bh (cs:=(bp p1)) rfl rfl (fun b2=>ba [4,5] (by kernel_rfl) (cq (aa h fun x3 hx3 h=>ap [1,0] [10,11,12] [(13,pB (!x3))] (bg 2 (qe hx3) bm) (by kernel_rfl) (cS rfl h (fun hc4 h=>?_) fun hc4 h=>?_))))))))
 ·refine ae ?_
  refine al [(4,pN),(5,pB false)] (by kernel_rfl) (aY (hU 4 rfl (bV (am ?_))))
  obtain rfl:=osi h
  exact aL (cg (aJ rfl) (aJ rfl)) bz ⟨rfl,rfl⟩
 refine ah ?_
 refine bY (al [(6,pN)] (by kernel_rfl) (cq (al [(7,pI 0)] (by kernel_rfl) (aY (dp 3 1 (aa h fun q15 hq15 h=>?_))))))
 refine aq (Y:=(Option Addr×Nat)×((List Int))) (fun ((a11,c12),l13)=>[(6,pO a11 l13.length c12)]) (fun ((a11,c12),l13)=>[PRes.row a11 l13.length c12 3 1 (List.map eI l13)]) (fun ((a11,c12),l13)=>q15=Sum.inl l13) ?_ ?_
 ·refine aA ?_
  refine aD (Y:=Option Addr×Nat) (S:=(List Int)×Int) _ hq15 (fun (a7,c8) (l6,v9)=>[(2,pP b1 0),(3,pP b2 0),(6,pO a7 l6.length c8),(7,pI v9)]) (fun (a7,c8) (l6,v9)=>[PRes.b b1 84 (ar p0),PRes.b b2 36 (bp p1),PRes.row a7 l6.length c8 3 1 (List.map eI l6)]) (none,0) (jf rfl) (be (aC (aC aO)) (be (aC aO) cJ)) ?_
  rintro ⟨a7,c8⟩ ⟨l6,v9⟩ o τ hb14;(try dsimp only at hb14);dsimp only [aw]
  refine dm (aI [0] [14,15,16,17] [(18,pB (decide (v9<(p0.Args.length:Int))))] (by kernel_rfl) (cS rfl hb14 (fun hc17 hb14=>?_) fun hc17 hb14=>?_))
  ·refine ah ?_
   refine de hb14 fun q22 hq22 hb14=>?_
   refine aq (Y:=(Option Addr×Nat)×((List Int))) (fun ((a19,c20),l21)=>[(2,pP b1 0),(3,pP b2 0),(6,pO a19 l21.length c20),(7,pI v9)]) (fun ((a19,c20),l21)=>[PRes.b b1 84 (ar p0),PRes.b b2 36 (bp p1),PRes.row a19 l21.length c20 3 1 (List.map eI l21)]) (fun ((a19,c20),l21)=>q22=Sum.inl l21) ?_ ?_
   ·skip
    refine pX (bk (ρd:=[]) [(0,0),(1,0),(2,0),(3,0),(4,0),(5,0),(6,1),(7,0),(8,0),(9,0),(10,0),(11,0)] _ (List.Perm.refl _) (by kernel_rfl) rfl (aa hq22 fun m23 hm23 hq22=>aa hq22 fun x24 hx24 hq22=>br 12 [0,1] ((rg 22 7)++[21,29,30]) [(8,pL eI x24.1),(9,pB x24.2)] (nv 3 Zd.enc (Zd.enc_eq _) hm23 (bg 6 (hrec hx24) bm)) (by kernel_rfl) (bv (cq (bC [31] [(32,pB (!x24.2))] (by kernel_rfl) rfl hq22 (fun hc25 hq22=>?_) fun hc25 hq22=>?_)))))
    ·refine aH ?_
     refine gZ (aj rfl ?_)
     obtain rfl:=osi hq22
     exact av ((a7,c8),l6) (jf rfl) Cl rfl
    refine ah ?_
    refine cq (aI [0] [33,34] [(35,pB (p0.Kind == 6))] (by kernel_rfl) (cS rfl hq22 (fun hc26 hq22=>?_) fun hc26 hq22=>?_))
    ·refine ae ?_
     refine af (aF 1 [(36,pI v9)] (by kernel_rfl) (an rfl (bG rfl rfl rfl rfl rfl (gG rfl jl) rfl rfl rfl rfl (fun b27=>aa hq22 fun l29 hl29 hq22=>aF 1 [(38,pL eI x24.1)] (by kernel_rfl) ?_))))
     refine an rfl (gr (enc:=eI) rfl rfl rfl rfl rfl (fun _=>rfl) rfl rfl rfl (by exact aO) hl29 (fun a30 c31=>?_))
     refine aN [(4,pO a30 l29.length c31),(5,pB true)] (by kernel_rfl) (aY ?_)
     refine fu (enc:=eI) (xs:=l29) 4 rfl (by exact aO) ?_
     refine bV (am (cK ?_))
     obtain rfl:=osi hq22
     refine au hb14 (fun ht=>?_);subst ht
     refine cK ?_
     obtain rfl:=osi h
     exact aL (cg (aJ rfl) (aJ rfl)) bz ⟨rfl,rfl⟩
    refine ah ?_
    refine fz hq22 fun l33 hl33 hq22=>af (aF 2 [(40,pO a7 l6.length c8),(41,pL eI x24.1)] (by kernel_rfl) ?_)
    refine an rfl (gr (enc:=eI) rfl rfl rfl rfl rfl (fun _=>rfl) rfl rfl rfl (by exact aC (aC aO)) hl33 (fun a34 c35=>?_))
    refine aN [(6,pO a34 l33.length c35)] (by kernel_rfl) (aB ?_)
    obtain rfl:=osi hq22
    exact av ((a34,c35),l33) (jf rfl) (be (aC aO) (be (aC aO) cJ)) rfl
   rintro ⟨⟨a19,c20⟩,l21⟩ τ hz;(try dsimp only at hz);subst q22;(try dsimp only at hb14);dsimp only [aw]
   refine ai [19,20] [(7,pI (IntKind.i64.wrap (v9+1)))] (by kernel_rfl) ?_
   exact aT hb14 (a19,c20) (jf rfl) Cl
  refine aH ?_
  refine cx hb14 (fun ht=>aj rfl ?_)
  exact av ((a7,c8),l6) (re rfl) (be (aC (aC aO)) bz) ht.symm
 rintro ⟨⟨a11,c12⟩,l13⟩ τ hz;(try dsimp only at hz);subst q15;(try dsimp only at h);dsimp only [aw]
 refine ae (ai [43] [(4,pO a11 l13.length c12),(5,pB true)] (by kernel_rfl) (aY ?_))
 refine fu (enc:=eI) (xs:=l13) 4 rfl (by exact aO) ?_
 refine bV ?_
 obtain rfl:=osi h
 exact aL (cg (aJ rfl) (aJ rfl)) bz ⟨rfl,rfl⟩
def ir (n:Nat):Zd→Zl→Option ((List Int)×Bool):=Nat.rec (motive:=fun _=>Zd→Zl→Option ((List Int)×Bool)) (fun _ _=>none) (fun _ ih=>iq ih) n
def jx (p0:Zd) (p1:Zl):Option ((List Int)×Bool):=ir FUEL p0 p1
theorem sg (n:Nat):∀ {p0:Zd} {p1:Zl} {r:((List Int)×Bool)},ir n p0 p1=some r→PF 70 [.agg (ar p0),.agg (bp p1)] (.tup [pL eI r.1,pB r.2]):=by
 induction n with
 | zero=>intros;rename_i h;exact nomatch h
 | succ n ih=>intros;rename_i h;exact rG (fun hr=>ih hr) h
theorem tf {p0:Zd} {p1:Zl} {r:((List Int)×Bool)} (h:jx p0 p1=some r):PF 70 [.agg (ar p0),.agg (bp p1)] (.tup [pL eI r.1,pB r.2]):=sg FUEL h
def hI (p0:(List Zc)) (p1:(List Zb)) (p2:ByteArray):Option ((List Zf)×Int):=(lg p0).bind fun x1=>cond (x1 != 0) (some ([],x1)) ((fI p1).bind fun x3=>cond (x3 != 0) (some ([],x3)) ((fa p2).bind fun x5=>cond (!x5) (some ([],(1:Int))) ((aU (S:=(List Zf)×(List Za)×Bool) (T:=((List Zf))) (fun (l8,l11,v12)=>cond v12 ((aU (S:=(List Zf)×Bool×(List Za)×Int) (T:=((List Zf)×Bool×(List Za))) (fun (l22,v25,l26,v27)=>cond (decide (v27<(p0.length:Int))) ((aU (S:=(List Zf)×Bool×(List Za)×Int) (T:=((List Zf)×Bool×(List Za))) (fun (l38,v41,l42,v43)=>cond (decide (v43<(p1.length:Int))) (((idx p0 v27).bind fun m60=>(idx p1 v43).bind fun m61=>(cL l11 (⟨m60.ID,m61.ID⟩:Za)).bind fun x63=>(gd (!x63) (cY p0 p1 p2 (⟨m60.ID,m61.ID⟩:Za))).bind fun x64=>cond (x63||(!x64)) (some (l38,v41,l42)) ((fB p0 p1 p2 (⟨m60.ID,m61.ID⟩:Za) l11).bind fun x66=>(idx p1 v43).bind fun m68=>(idx p0 v27).bind fun m69=>(e9 m68 m69.Code).bind fun x70=>(jx x70.1 x66.1).bind fun x72=>cond x72.2 ((app 64 l38 [(⟨(⟨m60.ID,m61.ID⟩:Za),x72.1,x66.2⟩:Zf)]).bind fun l76=>(ez l42 (⟨m60.ID,m61.ID⟩:Za)).bind fun x80=>some (l76,true,x80)) (some (l38,v41,l42)))).bind fun (l56,v57,l58)=>some (.inl (l56,v57,l58,(IntKind.i64.wrap (v43+1))))) (some (.inr (l38,v41,l42)))) FUEL (l22,v25,l26,0)).bind fun (l47,v48,l49)=>some (.inl (l47,v48,l49,(IntKind.i64.wrap (v27+1))))) (some (.inr (l22,v25,l26)))) FUEL (l8,false,l11,0)).bind fun (l31,v32,l33)=>some (.inl (l31,l33,v32))) (some (.inr l8))) FUEL (([]:List Zf),[],true)).bind fun l16=>some (l16,(0:Int)))))
theorem qf {p0:(List Zc)} {p1:(List Zb)} {p2:ByteArray} {r:((List Zf)×Int)}  (h:hI p0 p1 p2=some r):PF 23 [pL Zc.enc p0,pL Zb.enc p1,pS p2] (.tup [pL Zf.enc r.1,pI r.2]):=by
 unfold hI at h
 refine bd ?_
 refine du Tryz.func23 rfl Tryz.ntmps23 Tryz.results23 rfl (aV [6,7] (by kernel_rfl) (cq (aa h fun x1 hx1 h=>ap [] [23,24] [(8,pI x1)] (bg 1 (wJ hx1) bm) (by kernel_rfl) (bY (bC [25] [(26,pB (x1 != 0))] (by kernel_rfl) rfl h (fun hc2 h=>?_) fun hc2 h=>?_)))))
 ·refine ae ?_
  refine ai [27] [(6,pN),(7,pI x1)] (by kernel_rfl) (aY (hU 6 rfl (bV (am ?_))))
  obtain rfl:=osi h
  exact aL (cg (aJ rfl) (aJ rfl)) bz ⟨rfl,rfl⟩
 refine ah ?_
 refine cq (aa h fun x3 hx3 h=>ap [] [28,29] [(9,pI x3)] (bg 1 (qZ hx3) bm) (by kernel_rfl) (bY (bC [30] [(31,pB (x3 != 0))] (by kernel_rfl) rfl h (fun hc4 h=>?_) fun hc4 h=>?_)))
 ·refine ae ?_
  refine ai [32] [(6,pN),(7,pI x3)] (by kernel_rfl) (aY (hU 6 rfl (bV (am ?_))))
  obtain rfl:=osi h
  exact aL (cg (aJ rfl) (aJ rfl)) bz ⟨rfl,rfl⟩
 refine ah ?_
 refine cq (aa h fun x5 hx5 h=>ap [] [33,34] [(35,pB (!x5))] (bg 1 (ld hx5) bm) (by kernel_rfl) (cS rfl h (fun hc6 h=>?_) fun hc6 h=>?_))
 ·refine ae ?_
  refine al [(6,pN),(7,pI 1)] (by kernel_rfl) (aY (hU 6 rfl (bV (am ?_))))
  obtain rfl:=osi h
  exact aL (cg (aJ rfl) (aJ rfl)) bz ⟨rfl,rfl⟩
 refine ah ?_
 refine bY (al [(10,pN)] (by kernel_rfl) (bY (al [(11,pN)] (by kernel_rfl) (cq (al [(12,pB true)] (by kernel_rfl) (aY (dp 61 4 (hU 11 rfl (aa h fun q18 hq18 h=>?_)))))))))
 refine aq (Y:=(Option Addr×Nat)×((List Zf))) (fun ((a14,c15),l16)=>[(10,pO a14 l16.length c15)]) (fun ((a14,c15),l16)=>[PRes.row a14 l16.length c15 61 4 (List.map Zf.enc l16)]) (fun ((a14,c15),l16)=>q18=l16) ?_ ?_
 ·refine aA ?_
  refine aD (Y:=Option Addr×Nat) (S:=(List Zf)×(List Za)×Bool) _ hq18 (fun (a9,c10) (l8,l11,v12)=>[(0,pL Zc.enc p0),(1,pL Zb.enc p1),(2,pS p2),(10,pO a9 l8.length c10),(11,pL Za.enc l11),(12,pB v12)]) (fun (a9,c10) (l8,l11,v12)=>[PRes.row a9 l8.length c10 61 4 (List.map Zf.enc l8)]) (none,0) (qV rfl) cJ ?_
  rintro ⟨a9,c10⟩ ⟨l8,l11,v12⟩ o τ hb17;(try dsimp only at hb17);dsimp only [aw]
  refine dm (al [(36,pB v12)] (by kernel_rfl) (cS rfl hb17 (fun hc20 hb17=>?_) fun hc20 hb17=>?_))
  ·refine ah ?_
   refine aY (pX (al [(12,pB false)] (by kernel_rfl) (bY (ai [37] [(13,pL Za.enc l11)] (by kernel_rfl) (cq (al [(14,pI 0)] (by kernel_rfl) (fz hb17 fun q35 hq35 hb17=>?_)))))))
   refine aq (Y:=(Option Addr×Nat)×((List Zf)×Bool×(List Za))) (fun ((a29,c30),(l31,v32,l33))=>[(0,pL Zc.enc p0),(1,pL Zb.enc p1),(2,pS p2),(10,pO a29 l31.length c30),(12,pB v32),(13,pL Za.enc l33)]) (fun ((a29,c30),(l31,v32,l33))=>[PRes.row a29 l31.length c30 61 4 (List.map Zf.enc l31)]) (fun ((a29,c30),(l31,v32,l33))=>q35=(l31,v32,l33)) ?_ ?_
   ·refine aA ?_
    refine aD (Y:=Option Addr×Nat) (S:=(List Zf)×Bool×(List Za)×Int) _ hq35 (fun (a23,c24) (l22,v25,l26,v27)=>[(0,pL Zc.enc p0),(1,pL Zb.enc p1),(2,pS p2),(10,pO a23 l22.length c24),(11,pL Za.enc l11),(12,pB v25),(13,pL Za.enc l26),(14,pI v27)]) (fun (a23,c24) (l22,v25,l26,v27)=>[PRes.row a23 l22.length c24 61 4 (List.map Zf.enc l22)]) (a9,c10) (rU rfl) cJ ?_
    rintro ⟨a23,c24⟩ ⟨l22,v25,l26,v27⟩ o τ hb34;(try dsimp only at hb34);dsimp only [aw]
    refine dm (bC [38,39,40] [(41,pB (decide (v27<(p0.length:Int))))] (by kernel_rfl) rfl hb34 (fun hc36 hb34=>?_) fun hc36 hb34=>?_)
    ·refine ah ?_
     refine dN (al [(15,pI 0)] (by kernel_rfl) (fz hb34 fun q51 hq51 hb34=>?_))
     refine iM (Y:=(Option Addr×Nat)×((List Zf)×Bool×(List Za))) (fun ((a45,c46),(l47,v48,l49))=>[(0,pL Zc.enc p0),(1,pL Zb.enc p1),(2,pS p2),(10,pO a45 l47.length c46),(11,pL Za.enc l11),(12,pB v48),(13,pL Za.enc l49),(14,pI v27)]) (fun ((a45,c46),(l47,v48,l49))=>[PRes.row a45 l47.length c46 61 4 (List.map Zf.enc l47)]) (fun ((a45,c46),(l47,v48,l49))=>q51=(l47,v48,l49)) ?_ ?_
     ·refine aA ?_
      refine aD (Y:=Option Addr×Nat) (S:=(List Zf)×Bool×(List Za)×Int) _ hq51 (fun (a39,c40) (l38,v41,l42,v43)=>[(0,pL Zc.enc p0),(1,pL Zb.enc p1),(2,pS p2),(10,pO a39 l38.length c40),(11,pL Za.enc l11),(12,pB v41),(13,pL Za.enc l42),(14,pI v27),(15,pI v43)]) (fun (a39,c40) (l38,v41,l42,v43)=>[PRes.row a39 l38.length c40 61 4 (List.map Zf.enc l38)]) (a23,c24) (sG rfl) cJ ?_
      rintro ⟨a39,c40⟩ ⟨l38,v41,l42,v43⟩ o τ hb50;(try dsimp only at hb50);dsimp only [aw]
      refine dm (bC [44,45,46] [(47,pB (decide (v43<(p1.length:Int))))] (by kernel_rfl) rfl hb50 (fun hc52 hb50=>?_) fun hc52 hb50=>?_)
      ·refine ah ?_
       refine de hb50 fun q59 hq59 hb50=>?_
       refine aq (Y:=(Option Addr×Nat)×((List Zf)×Bool×(List Za))) (fun ((a54,c55),(l56,v57,l58))=>[(0,pL Zc.enc p0),(1,pL Zb.enc p1),(2,pS p2),(10,pO a54 l56.length c55),(11,pL Za.enc l11),(12,pB v57),(13,pL Za.enc l58),(14,pI v27),(15,pI v43)]) (fun ((a54,c55),(l56,v57,l58))=>[PRes.row a54 l56.length c55 61 4 (List.map Zf.enc l56)]) (fun ((a54,c55),(l56,v57,l58))=>q59=(l56,v57,l58)) ?_ ?_
       ·skip
        refine pX (bk (ρd:=[]) [(0,0),(1,0),(2,0),(3,0),(4,0),(5,0),(6,0),(7,0),(8,0),(9,0),(10,0),(11,1),(12,1)] _ (List.Perm.refl _) (by kernel_rfl) rfl (aa hq59 fun m60 hm60 hq59=>aa hq59 fun m61 hm61 hq59=>br 10 [] [50,51,52,53,55,56,57,58] [(54,pI m60.ID),(59,pI m61.ID)] (cO 2 Zc.enc hm60 (cO 7 Zb.enc hm61 bm)) (by kernel_rfl) (kJ rfl rfl rfl (sV (cs:=[pI m60.ID,pI m61.ID]) rfl rfl rfl rfl rfl rfl rfl (EN rfl rfl rfl rfl mT (EN rfl rfl rfl rfl (dM mT) zfn))) (hC rfl rfl rfl (aM (cs:=[pI 0,pI 0]) rfl rfl rfl rfl (fun b62=>vc rfl rfl (ak (vs:=[pI m60.ID,pI m61.ID]) rfl rfl rfl rfl rfl ca sE (bv (cq (aa hq59 fun x63 hx63 hq59=>aa hq59 fun x64 hx64 hq59=>ap [0,0] (rg 61 10) [(71,pB (x63||(!x64)))] (bg 2 (gz hx63) (eK 8 (fun hc=>jg (cH hx64 hc)) bm)) (by kernel_rfl) (cS rfl hq59 (fun hc65 hq59=>?_) fun hc65 hq59=>?_)))))))))))
        ·refine aH ?_
         refine gZ (aj rfl ?_)
         obtain rfl:=osi hq59
         exact av ((a39,c40),(l38,v41,l42)) (sG rfl) (be (aC aO) bz) rfl
        refine ah ?_
        refine de hq59 fun x66 hx66 hq59=>af (aS 9 [0] ((rg 73 6)++[72]) [(79,.agg (bp x66.1)),(80,pL Za.enc x66.2)] (bg 5 (pn hx66) bm) (by kernel_rfl) (an rfl (aM (cs:=[pS ByteArray.empty,pI 0,pB false,pN,pN]) rfl rfl rfl rfl (fun b67=>aP rfl rfl (ak (vs:=(bp x66.1)) rfl rfl rfl rfl rfl ca ET (aN [(18,pL Za.enc x66.2)] (by kernel_rfl) (bY (bk (ρd:=[]) [(0,0),(1,0),(2,0),(3,0),(4,0),(5,0),(6,0),(7,0),(8,0),(9,1),(10,0),(11,0),(12,0),(13,2),(14,1),(15,0)] _ (List.Perm.refl _) (by kernel_rfl) rfl (aa hq59 fun m68 hm68 hq59=>aa hq59 fun m69 hm69 hq59=>aa hq59 fun x70 hx70 hq59=>br 13 [] ((rg 82 10)++[81]) [(92,.agg (ar x70.1)),(93,pB x70.2)] (cO 2 Zb.enc hm68 (cO 6 Zc.enc hm69 (bg 9 (lU hx70) bm))) (by kernel_rfl) (r6 (tG rfl rfl rfl rfl rfl) (fun _=>rfl) rfl (fun b71=>vc rfl rfl (ak (vs:=(ar x70.1)) rfl rfl rfl rfl rfl ca nj (Fq 1 [20] (by kernel_rfl) (bv (de hq59 fun x72 hx72 hq59=>ap [0,1] [95,96,97,94,98,99] [(21,pL eI x72.1),(22,pB x72.2)] (bg 2 (tf hx72) bm) (by kernel_rfl) (bY (al [(100,pB x72.2)] (by kernel_rfl) (cS rfl hq59 (fun hc73 hq59=>?_) fun hc73 hq59=>?_))))))))))))))))))
        ·refine ae ?_
         refine af (cG 5 [2] [102,103,104] [(101,pO a39 l38.length c40),(105,.agg [pI m60.ID,pI m61.ID,pL eI x72.1,pL Za.enc x66.2])] (by kernel_rfl) (an rfl (bG rfl rfl rfl rfl rfl (gG rfl jl) rfl rfl rfl rfl (fun b74=>aa hq59 fun l76 hl76 hq59=>?_))))
         refine an rfl (ce (enc:=Zf.enc) rfl rfl rfl rfl rfl rfl rfl rfl rfl e7 (by exact aC (aC (aC (aC aO)))) hl76 (fun a77 c78=>?_))
         refine aN [(10,pO a77 l76.length c78)] (by kernel_rfl) (fz hq59 fun x80 hx80 hq59=>ap [4] [108,109,110] [(13,pL Za.enc x80),(12,pB true)] (bg 2 (js hx80) bm) (by kernel_rfl) (aB ?_))
         obtain rfl:=osi hq59
         exact av ((a77,c78),(l76,true,x80)) (sG rfl) cJ rfl
        refine ah ?_
        refine aB ?_
        obtain rfl:=osi hq59
        exact av ((a39,c40),(l38,v41,l42)) (sG rfl) (be (aC (aC (aC aO))) bz) rfl
       rintro ⟨⟨a54,c55⟩,⟨l56,v57,l58⟩⟩ τ hz;(try dsimp only at hz);subst q59;(try dsimp only at hb50);dsimp only [aw]
       refine ai [48,49] [(15,pI (IntKind.i64.wrap (v43+1)))] (by kernel_rfl) ?_
       exact aT hb50 (a54,c55) (sG rfl) cJ
      refine aH ?_
      refine cx hb50 (fun ht=>aj rfl ?_)
      exact gh ((a39,c40),(l38,v41,l42)) (rU rfl) cJ ht.symm
     rintro ⟨⟨a45,c46⟩,⟨l47,v48,l49⟩⟩ τ ρ1 hsub81 hz;(try dsimp only at hz hsub81);subst q51;(try dsimp only at hb34);dsimp only [aw]
     refine dX (oF hsub81 (ai [42,43] [(14,pI (IntKind.i64.wrap (v27+1)))] (by kernel_rfl) ?_))
     exact aT hb34 (a45,c46) (rU rfl) cJ
    refine aH ?_
    refine cx hb34 (fun ht=>aj rfl ?_)
    exact av ((a23,c24),(l22,v25,l26)) (qV rfl) cJ ht.symm
   rintro ⟨⟨a29,c30⟩,⟨l31,v32,l33⟩⟩ τ hz;(try dsimp only at hz);subst q35;(try dsimp only at hb17);dsimp only [aw]
   refine ai [111] [(11,pL Za.enc l33)] (by kernel_rfl) (aB ?_)
   exact aT hb17 (a29,c30) (qV rfl) cJ
  refine aH ?_
  refine cx hb17 (fun ht=>aj rfl ?_)
  exact av ((a9,c10),l8) (re rfl) cJ ht.symm
 rintro ⟨⟨a14,c15⟩,l16⟩ τ hz;(try dsimp only at hz);subst q18;(try dsimp only at h);dsimp only [aw]
 refine ae (ai [112] [(6,pO a14 l16.length c15),(7,pI 0)] (by kernel_rfl) (aY ?_))
 refine fu (enc:=Zf.enc) (xs:=l16) 6 rfl (by exact aO) ?_
 refine bV ?_
 obtain rfl:=osi h
 exact aL (cg (aJ rfl) (aJ rfl)) bz ⟨rfl,rfl⟩
def i9 (p0:(List Zf)) (p1:Int) (p2:Int) (p3:Int):Option (List Zf):=(app 64 ([]:List Zf) p0).bind fun l3=>cond (((l3.length:Nat):Int) == 0) (some l3) ((cQ p1 ((l3.length:Nat):Int)).bind fun x8=>(idx l3 x8).bind fun m9=>(cQ p2 9).bind fun x11=>Option.bind (α:=(Int×Int×(List Int)×(List Za))⊕_) (cond (x11 == 0) ((cQ p3 12).bind fun x19=>some (.inl ((IntKind.i64.wrap (3*x19)),m9.Claim.Agreement,m9.Path,m9.Premises))) (cond (x11 == 1) ((cQ p3 5).bind fun x21=>some (.inl (m9.Claim.Product,(IntKind.i64.wrap (2+(IntKind.i64.wrap (5*x21)))),m9.Path,m9.Premises))) (cond (x11 == 2) ((app 8 ([]:List Int) m9.Path).bind fun l25=>(cQ p3 3).bind fun x29=>(app 8 l25 [x29]).bind fun l32=>some (.inl (m9.Claim.Product,m9.Claim.Agreement,l32,m9.Premises))) (cond (x11 == 3) (cond (decide (0<(m9.Path.length:Int))) ((app 8 ([]:List Int) m9.Path).bind fun l40=>(cQ p3 ((l40.length:Nat):Int)).bind fun x46=>(cQ (cu .i64 p3 4) 4).bind fun x47=>(idx l40 x46).bind fun m48=>some (.inl (m9.Claim.Product,m9.Claim.Agreement,(l40.set x46.toNat x47),m9.Premises))) (some (.inl (m9.Claim.Product,m9.Claim.Agreement,m9.Path,m9.Premises)))) (cond (x11 == 4) (cond (decide (0<(m9.Premises.length:Int))) ((cQ p3 (IntKind.i64.wrap ((m9.Premises.length:Int)+1))).bind fun x52=>(sub m9.Premises x52 (m9.Premises.length:Int)).bind fun l53=>some (.inl (m9.Claim.Product,m9.Claim.Agreement,m9.Path,l53))) (some (.inl (m9.Claim.Product,m9.Claim.Agreement,m9.Path,m9.Premises)))) (cond (x11 == 5) ((cQ p3 ((l3.length:Nat):Int)).bind fun x56=>(idx l3 x56).bind fun m57=>(ez m9.Premises m57.Claim).bind fun x58=>some (.inl (m9.Claim.Product,m9.Claim.Agreement,m9.Path,x58))) (cond (x11 == 6) ((cQ p3 ((l3.length:Nat):Int)).bind fun x60=>(idx l3 x60).bind fun m63=>(idx l3 x8).bind fun m64=>(idx l3 x8).bind fun m65=>(idx (l3.set x8.toNat m63) x60).bind fun m67=>some (.inr ((l3.set x8.toNat m63).set x60.toNat m64))) (cond (x11 == 7) ((sub l3 0 x8).bind fun l70=>(sub l3 (IntKind.i64.wrap (x8+1)) (l3.length:Int)).bind fun l71=>(app 64 ([]:List Zf) l70).bind fun l74=>(app 64 l74 l71).bind fun l78=>some (.inr l78)) ((idx l3 x8).bind fun m82=>(app 64 l3 [m82]).bind fun l85=>some (.inr l85)))))))))) (fun q=>match q with | .inl (v13,v14,l15,l16)=>(idx l3 x8).bind (fun m89=>some (l3.set x8.toNat (⟨(⟨v13,v14⟩:Za),l15,l16⟩:Zf))) | .inr e=>some e))
theorem pq {p0:(List Zf)} {p1:Int} {p2:Int} {p3:Int} {r:(List Zf)}  (h:i9 p0 p1 p2 p3=some r):PCall 24 [pL Zf.enc p0,pI p1,pI p2,pI p3] [] (fun pv ρ'=>∃ a c,pv=.v (.slice a r.length c)∧ρ'=[PRes.row a r.length c 61 4 (List.map Zf.enc r)]):=by
 unfold i9 at h
 refine du Tryz.func24 rfl Tryz.ntmps24 Tryz.results24 rfl (aV [8] (by kernel_rfl) (bY (dc rfl (bG rfl rfl rfl rfl rfl jl rfl rfl rfl rfl (fun b1=>aa h fun l3 hl3 h=>aF 1 [(14,pL Zf.enc p0)] (by kernel_rfl) ?_)))))
 refine an rfl (gr (enc:=Zf.enc) rfl rfl rfl rfl rfl (fun _=>rfl) rfl rfl rfl (by exact aO) hl3 (fun a4 c5=>?_))
 refine aN [(0,pO a4 l3.length c5)] (by kernel_rfl) (cq (bC [16,17] [(18,pB (((l3.length:Nat):Int) == 0))] (by kernel_rfl) rfl h (fun hc7 h=>?_) fun hc7 h=>?_))
 ·refine ae ?_
  refine ai [19] [(8,pO a4 l3.length c5)] (by kernel_rfl) (cU (am ?_))
  obtain rfl:=osi h
  exact aL (cZ (aJ rfl)) cJ ⟨_,_,rfl,rfl⟩
 refine ah ?_
 refine de h fun x8 hx8 h=>ap [] [20,21,22,23] [(9,pI x8)] (bg 3 (cC hx8) bm) (by kernel_rfl) (de h fun m9 hm9 h=>af (aF 2 [(24,pO a4 l3.length c5),(25,pI x8)] (by kernel_rfl) (cb rfl rfl rfl (eP (enc:=Zf.enc) (xs:=l3) rfl rfl rfl (.p rfl) e7 (.p rfl) (fun _=>hm9)) (cb rfl rfl rfl (cR (sz:=4) (p:=.agg (bQ m9)) (enc:=Zf.enc) (xs:=l3) (a:=a4) x8 0 m9 rfl (.p rfl) rfl e7 (fun _=>hm9) rfl) (an rfl (aM (cs:=[pI 0,pI 0,pN,pN]) rfl rfl rfl rfl (fun b10=>aP rfl rfl (ak (vs:=(bQ m9)) rfl rfl rfl rfl rfl ca tH (aG (cq (aa h fun x11 hx11 h=>ap [] [28] [(29,pI x11)] (bg 1 (cC hx11) bm) (by kernel_rfl) (fz h fun q17 hq17 h=>?_))))))))))))
 refine aq (Y:=Unit×(Int×Int×(List Int)×(List Za))) (fun (_,(v13,v14,l15,l16))=>[(0,pO a4 l3.length c5),(9,pI x8),(10,pP b10 0)]) (fun (_,(v13,v14,l15,l16))=>[PRes.b b10 61 [pI v13,pI v14,pL eI l15,pL Za.enc l16],PRes.row a4 l3.length c5 61 4 (List.map Zf.enc l3)]) (fun (_,(v13,v14,l15,l16))=>q17=Sum.inl (v13,v14,l15,l16)) ?_ ?_
 ·skip
  refine pX (bC [38] [(37,pB (x11 == 0))] (by kernel_rfl) rfl hq17 (fun hc18 hq17=>?_) fun hc18 hq17=>?_)
  ·refine aa hq17 ?_;clear hq17;intro x19 hx19 hq17
   refine af (aS 5 [] [39,40,42] [(41,pI (IntKind.i64.wrap (3*x19))),(43,pP b10 0)] (bg 1 (cC hx19) bm) (by kernel_rfl) (aP rfl rfl (ak (vs:=[pI (IntKind.i64.wrap (3*x19))]) rfl rfl rfl rfl rfl ca mT (aG (aB ?_)))))
   obtain rfl:=osi hq17
   exact av ((),((IntKind.i64.wrap (3*x19)),m9.Claim.Agreement,m9.Path,m9.Premises)) (lR rfl) ni rfl
  refine ae ?_
  refine bC [45] [(44,pB (x11 == 1))] (by kernel_rfl) rfl hq17 (fun hc20 hq17=>?_) fun hc20 hq17=>?_
  ·refine aa hq17 ?_;clear hq17;intro x21 hx21 hq17
   refine af (aS 6 [] [46,47,48,50] [(49,pI (IntKind.i64.wrap (2+(IntKind.i64.wrap (5*x21))))),(51,pP b10 1)] (bg 1 (cC hx21) bm) (by kernel_rfl) (aP rfl rfl (ak (vs:=[pI (IntKind.i64.wrap (2+(IntKind.i64.wrap (5*x21))))]) rfl rfl rfl rfl rfl ca (dM mT) (aG (aB ?_)))))
   obtain rfl:=osi hq17
   exact av ((),(m9.Claim.Product,(IntKind.i64.wrap (2+(IntKind.i64.wrap (5*x21)))),m9.Path,m9.Premises)) (lR rfl) ni rfl
  refine ae ?_
  refine bC [53] [(52,pB (x11 == 2))] (by kernel_rfl) rfl hq17 (fun hc22 hq17=>?_) fun hc22 hq17=>?_
  ·refine af ?_
   refine an rfl (bG rfl rfl rfl rfl rfl jl rfl rfl rfl rfl (fun b23=>aa hq17 fun l25 hl25 hq17=>cG 2 [1] [55] [(56,pL eI m9.Path)] (by kernel_rfl) ?_))
   refine an rfl (gr (enc:=eI) rfl rfl rfl rfl rfl (fun _=>rfl) rfl rfl rfl (by exact aO) hl25 (fun a26 c27=>?_))
   refine aa hq17 fun x29 hx29 hq17=>aS 2 [] [58] [(59,pI x29)] (bg 1 (cC hx29) bm) (by kernel_rfl) (an rfl (bG rfl rfl rfl rfl rfl (gG rfl jl) rfl rfl rfl rfl (fun b30=>aa hq17 fun l32 hl32 hq17=>?_)))
   refine an rfl (ce (enc:=eI) rfl rfl rfl rfl rfl rfl rfl rfl rfl e7 (by exact aC aO) hl32 (fun a33 c34=>?_))
   refine aF 1 [(62,pP b10 2)] (by kernel_rfl) (aP rfl rfl (ak (vs:=[pO a33 l32.length c34]) rfl rfl rfl rfl rfl (dx (dx ca)) (dM (dM mT)) (aG (aB ?_))))
   refine fp (yl (css:=List.map eI l32) (a:=a33) (by exact aO)) ?_
   refine fp (sU (k:=2) (enc:=eI) (xs:=l32) (b:=b10) (a:=a33) rfl e7 (dx (dx ca))) ?_
   obtain rfl:=osi hq17
   exact av ((),(m9.Claim.Product,m9.Claim.Agreement,l32,m9.Premises)) (lR rfl) (be (aC (aC aO)) (be (aC (aC aO)) bz)) rfl
  refine ae ?_
  refine bC [64] [(63,pB (x11 == 3))] (by kernel_rfl) rfl hq17 (fun hc36 hq17=>?_) fun hc36 hq17=>?_
  ·refine ae ?_
   refine aI [0] [65,66,67] [(68,pB (decide (0<(m9.Path.length:Int))))] (by kernel_rfl) (cS rfl hq17 (fun hc37 hq17=>?_) fun hc37 hq17=>?_)
   ·refine ae ?_
    refine dc rfl (bG rfl rfl rfl rfl rfl jl rfl rfl rfl rfl (fun b38=>aa hq17 fun l40 hl40 hq17=>cG 2 [1] [70] [(71,pL eI m9.Path)] (by kernel_rfl) ?_))
    refine an rfl (gr (enc:=eI) rfl rfl rfl rfl rfl (fun _=>rfl) rfl rfl rfl (by exact aO) hl40 (fun a41 c42=>?_))
    refine aF 1 [(73,pP b10 2)] (by kernel_rfl) (aP rfl rfl (ak (vs:=[pO a41 l40.length c42]) rfl rfl rfl rfl rfl (dx ca) (dM (dM mT)) (aG (aY (nt (enc:=eI) (xs:=l40) (a:=a41) e7 (fun hl44 ha45=>bk (ρd:=[PRes.row a41 _ _ _ _ _]) [(0,0),(1,0),(2,0),(3,0),(4,0),(5,0),(7,0),(8,0),(6,1),(9,1),(10,0),(11,1)] _ (List.Perm.refl _) (by kernel_rfl) rfl (aa hq17 fun x46 hx46 hq17=>aa hq17 fun x47 hx47 hq17=>aa hq17 fun m48 hm48 hq17=>br 10 [0,0] [74,76,77,78,79,81,82] [(75,pO a41 l40.length c42),(80,pI x46),(83,pI x47)] (bg 8 (cC hx46) (bg 9 (cC hx47) bm)) (by kernel_rfl) ?_)))))))
    refine kJ rfl rfl rfl (kU (xs:=l40) (by first | exact hl44 | rfl | (simp only [List.length_set];exact hl44) | simp only [List.length_set]) ha45 rfl rfl rfl (.p rfl) (.p rfl) (fun _=>hm48)) ?_
    refine vc rfl rfl (iN (enc:=eI) (xs:=l40) (a:=a41) x46 0 m48 x47 rfl rfl rfl rfl (fun _=>rfl) rfl rfl hm48 mT ca (bv (aB ?_)))
    refine fp (yl (css:=List.map eI (l40.set x46.toNat x47)) (a:=a41) (by exact aO)) ?_
    refine fp (sU (k:=2) (enc:=eI) (xs:=(l40.set x46.toNat x47)) (b:=b10) (a:=a41) rfl e7 (dx ca)) ?_
    obtain rfl:=osi hq17
    exact av ((),(m9.Claim.Product,m9.Claim.Agreement,(l40.set x46.toNat x47),m9.Premises)) (lR rfl) (be (aC aO) (be (aC aO) bz)) rfl
   refine ah ?_
   refine aB ?_
   obtain rfl:=osi hq17
   exact av ((),(m9.Claim.Product,m9.Claim.Agreement,m9.Path,m9.Premises)) (lR rfl) ni rfl
  refine ae ?_
  refine bC [86] [(85,pB (x11 == 4))] (by kernel_rfl) rfl hq17 (fun hc50 hq17=>?_) fun hc50 hq17=>?_
  ·refine ae ?_
   refine aI [0] [87,88,89] [(90,pB (decide (0<(m9.Premises.length:Int))))] (by kernel_rfl) (cS rfl hq17 (fun hc51 hq17=>?_) fun hc51 hq17=>?_)
   ·refine aa hq17 ?_;clear hq17;intro x52 hx52 hq17
    refine aa hq17 fun l53 hl53 hq17=>?_
    refine iM (Y:=Unit) (fun _=>[(0,pO a4 l3.length c5),(9,pI x8),(10,pP b10 0)]) (fun _=>[PRes.b b10 61 [pI m9.Claim.Product,pI m9.Claim.Agreement,pL eI m9.Path,pL Za.enc l53],PRes.row a4 l3.length c5 61 4 (List.map Zf.enc l3)]) (fun _=>True) ?_ ?_
    ·refine jQ (ρd:=[PRes.b b10 _ _]) _ (List.Perm.refl _) ?_
     refine bM 0 (by kernel_rfl) rfl rfl rfl rfl (bo rfl rfl rfl rfl rfl (.p rfl)) (bM 2 (by kernel_rfl) rfl rfl rfl rfl (dE (p:=pI p3) rfl (.p rfl)) (bM 3 (by kernel_rfl) rfl rfl rfl rfl (bo rfl rfl rfl rfl rfl (.p rfl)) ?_))
     refine iH 1 4 (by kernel_rfl) ?_ ?_
     ·skip
      refine bi rfl rfl rfl rfl (kE (cw (p:=pL Za.enc m9.Premises) rfl (.p rfl) e7 rfl) (bf 4 (by kernel_rfl) (bi rfl rfl rfl rfl (kE (cw (p:=pL Za.enc m9.Premises) rfl (.p rfl) e7 rfl) (bM 5 (by kernel_rfl) rfl rfl rfl rfl (Ci (enc:=Za.enc) rfl rfl (.p rfl)) (bM 6 (by kernel_rfl) rfl rfl rfl rfl (pK rfl (.p rfl) (.p rfl) rfl) (bf 7 (by kernel_rfl) (kT rfl rfl rfl rfl rfl rfl (cC hx52) (bM 8 (by kernel_rfl) rfl rfl rfl rfl (sT (enc:=Za.enc) rfl rfl rfl (fun _=>rfl) (.p rfl) (.p rfl) (fun _=>hl53)) (bM 9 (by kernel_rfl) rfl rfl rfl rfl (bo rfl rfl rfl rfl rfl (.p rfl)) (bf 10 (by kernel_rfl) (df rfl rfl rfl (ak (vs:=[pL Za.enc l53]) rfl rfl rfl rfl rfl ca (dM (dM (dM mT))) (dy (by kernel_rfl) ?_))))))))))))))
      exact gh () (lR rfl) ni trivial
     skip
     refine bi rfl rfl rfl rfl (kE (cw (p:=pL Za.enc m9.Premises) rfl (.p rfl) e7 rfl) (bM 5 (by kernel_rfl) rfl rfl rfl rfl (Ci (enc:=Za.enc) rfl rfl (.p rfl)) (bM 6 (by kernel_rfl) rfl rfl rfl rfl (pK rfl (.p rfl) (.p rfl) rfl) ?_)))
     refine iH 1 7 (by kernel_rfl) ?_ ?_
     ·skip
      refine bi rfl rfl rfl rfl (kE (cw (p:=pL Za.enc m9.Premises) rfl (.p rfl) e7 rfl) (bf 7 (by kernel_rfl) (kT rfl rfl rfl rfl rfl rfl (cC hx52) (bM 8 (by kernel_rfl) rfl rfl rfl rfl (sT (enc:=Za.enc) rfl rfl rfl (fun _=>rfl) (.p rfl) (.p rfl) (fun _=>hl53)) (bM 9 (by kernel_rfl) rfl rfl rfl rfl (bo rfl rfl rfl rfl rfl (.p rfl)) (bf 10 (by kernel_rfl) (df rfl rfl rfl (ak (vs:=[pL Za.enc l53]) rfl rfl rfl rfl rfl ca (dM (dM (dM mT))) (dy (by kernel_rfl) ?_)))))))))
      exact gh () (lR rfl) ni trivial
     skip
     refine kT rfl rfl rfl rfl rfl rfl (cC hx52) (bf 1 (by kernel_rfl) (bi rfl rfl rfl rfl (kE (cw (p:=pL Za.enc m9.Premises) rfl (.p rfl) e7 rfl) (bM 8 (by kernel_rfl) rfl rfl rfl rfl (sT (enc:=Za.enc) rfl rfl rfl (fun _=>rfl) (.p rfl) (.p rfl) (fun _=>hl53)) (bM 9 (by kernel_rfl) rfl rfl rfl rfl (bo rfl rfl rfl rfl rfl (.p rfl)) (bf 10 (by kernel_rfl) (df rfl rfl rfl (ak (vs:=[pL Za.enc l53]) rfl rfl rfl rfl rfl ca (dM (dM (dM mT))) (dy (by kernel_rfl) ?_)))))))))
     exact gh () (lR rfl) ni trivial
    rintro _ τ ρ1 hsub54 _;(try dsimp only at hsub54);dsimp only [aw]
    refine aB ?_
    obtain rfl:=osi hq17
    exact av ((),(m9.Claim.Product,m9.Claim.Agreement,m9.Path,l53)) (lR rfl) (PSub.trans ni hsub54) rfl
   refine ah ?_
   refine aB ?_
   obtain rfl:=osi hq17
   exact av ((),(m9.Claim.Product,m9.Claim.Agreement,m9.Path,m9.Premises)) (lR rfl) ni rfl
  refine ae ?_
  refine bC [102] [(101,pB (x11 == 5))] (by kernel_rfl) rfl hq17 (fun hc55 hq17=>?_) fun hc55 hq17=>?_
  ·refine ae ?_
   refine aa hq17 fun x56 hx56 hq17=>ap [] [103,104,105,106] [(11,pI x56)] (bg 3 (cC hx56) bm) (by kernel_rfl) (fz hq17 fun m57 hm57 hq17=>aa hq17 fun x58 hx58 hq17=>jQ (ρd:=[PRes.b b10 _ _]) _ (List.Perm.refl _) (bM 0 (by kernel_rfl) rfl rfl rfl rfl (bo rfl rfl rfl rfl rfl (.p rfl)) (bM 2 (by kernel_rfl) rfl rfl rfl rfl (dE (p:=pO a4 l3.length c5) rfl (.p rfl)) (bM 3 (by kernel_rfl) rfl rfl rfl rfl (dE (p:=pI x56) rfl (.p rfl)) (bM 4 (by kernel_rfl) rfl rfl rfl rfl (eP (enc:=Zf.enc) (xs:=l3) rfl rfl rfl (.p rfl) e7 (.p rfl) (fun _=>hm57)) (bM 5 (by kernel_rfl) rfl rfl rfl rfl (bo rfl rfl rfl rfl rfl (.p rfl)) (bM 6 (by kernel_rfl) rfl rfl rfl rfl (cR (sz:=4) (p:=.agg [pI m57.Claim.Product,pI m57.Claim.Agreement]) (enc:=Zf.enc) (xs:=l3) (a:=a4) x56 0 m57 rfl (.p rfl) rfl e7 (fun _=>hm57) rfl) (bf 1 (by kernel_rfl) (bi rfl rfl rfl rfl (kE (cw (p:=pL Za.enc m9.Premises) rfl (.p rfl) e7 rfl) (bf 7 (by kernel_rfl) (kT rfl rfl rfl rfl rfl rfl (js hx58) (bM 8 (by kernel_rfl) rfl rfl rfl rfl (bo rfl rfl rfl rfl rfl (.p rfl)) (bf 9 (by kernel_rfl) (df rfl rfl rfl (ak (vs:=[pL Za.enc x58]) rfl rfl rfl rfl rfl ca (dM (dM (dM mT))) (dy (by kernel_rfl) (aB ?_))))))))))))))))))
   obtain rfl:=osi hq17
   exact av ((),(m9.Claim.Product,m9.Claim.Agreement,m9.Path,x58)) (lR rfl) ni rfl
  refine ae ?_
  refine bC [117] [(116,pB (x11 == 6))] (by kernel_rfl) rfl hq17 (fun hc59 hq17=>?_) fun hc59 hq17=>?_
  ·refine ae ?_
   refine aa hq17 fun x60 hx60 hq17=>ap [] [118,119,120,121] [(12,pI x60)] (bg 3 (cC hx60) bm) (by kernel_rfl) (bY (nt (enc:=Zf.enc) (xs:=l3) (a:=a4) uz (fun hl61 ha62=>aa hq17 fun m63 hm63 hq17=>aa hq17 fun m64 hm64 hq17=>aa hq17 fun m65 hm65 hq17=>aa hq17 fun m67 hm67 hq17=>?_)))
   refine aq (Y:=Unit) (fun _=>[(0,pO a4 l3.length c5)]) (fun _=>[PRes.row a4 l3.length c5 61 4 (List.map Zf.enc ((l3.set x8.toNat m63).set x60.toNat m64))]) (fun _=>True) ?_ ?_
   ·refine jQ (ρd:=[PRes.row a4 _ _ _ _ _]) _ (aX (aC aO) (List.Perm.refl _)) ?_
    refine bM 0 (by kernel_rfl) rfl rfl rfl rfl (dE (p:=pO a4 l3.length c5) rfl (.p rfl)) (bM 1 (by kernel_rfl) rfl rfl rfl rfl (dE (p:=pI x8) rfl (.p rfl)) (bM 2 (by kernel_rfl) rfl rfl rfl rfl (dE (p:=pO a4 l3.length c5) rfl (.p rfl)) (bM 3 (by kernel_rfl) rfl rfl rfl rfl (dE (p:=pI x60) rfl (.p rfl)) (bM 4 (by kernel_rfl) rfl rfl rfl rfl (dE (p:=pO a4 l3.length c5) rfl (.p rfl)) (bM 5 (by kernel_rfl) rfl rfl rfl rfl (dE (p:=pI x60) rfl (.p rfl)) ?_)))))
    refine bM 6 (by kernel_rfl) rfl rfl rfl rfl (kU (xs:=l3) (by first | exact hl61 | rfl | (simp only [List.length_set];exact hl61) | simp only [List.length_set]) ha62 rfl rfl rfl (.p rfl) (.p rfl) (fun _=>hm63)) ?_
    refine bM 8 (by kernel_rfl) rfl rfl rfl rfl (dE (p:=pO a4 l3.length c5) rfl (.p rfl)) (bM 9 (by kernel_rfl) rfl rfl rfl rfl (dE (p:=pI x8) rfl (.p rfl)) ?_)
    refine bM 10 (by kernel_rfl) rfl rfl rfl rfl (kU (xs:=l3) (by first | exact hl61 | rfl | (simp only [List.length_set];exact hl61) | simp only [List.length_set]) ha62 rfl rfl rfl (.p rfl) (.p rfl) (fun _=>hm64)) ?_
    refine iH 7 11 (by kernel_rfl) ?_ ?_
    ·skip
     refine bi rfl rfl rfl rfl (kE (cR (sz:=4) (p:=.agg (bQ m63)) (enc:=Zf.enc) (xs:=l3) (a:=a4) x60 0 m63 rfl (.p rfl) rfl e7 (fun _=>hm63) rfl) (bf 11 (by kernel_rfl) (bi rfl rfl rfl rfl (kE (cR (sz:=4) (p:=.agg (bQ m64)) (enc:=Zf.enc) (xs:=l3) (a:=a4) x8 0 m64 rfl (.p rfl) rfl e7 (fun _=>hm64) rfl) ?_))))
     refine bM 12 (by kernel_rfl) rfl rfl rfl rfl (kU (xs:=l3) (by first | exact hl61 | rfl | (simp only [List.length_set];exact hl61) | simp only [List.length_set]) ha62 rfl rfl rfl (.p rfl) (.p rfl) (fun _=>hm65)) ?_
     refine bf 13 (by kernel_rfl) (df rfl rfl rfl (iN (enc:=Zf.enc) (xs:=l3) (a:=a4) x8 0 m65 m63 rfl rfl rfl rfl (fun _=>rfl) rfl rfl hm65 tH ca ?_))
     refine bM 14 (by kernel_rfl) rfl rfl rfl rfl (kU (xs:=(l3.set x8.toNat m63)) (by first | exact hl61 | rfl | (simp only [List.length_set];exact hl61) | simp only [List.length_set]) ha62 rfl rfl rfl (.p rfl) (.p rfl) (fun _=>hm67)) ?_
     refine bf 15 (by kernel_rfl) (df rfl rfl rfl (iN (enc:=Zf.enc) (xs:=(l3.set x8.toNat m63)) (a:=a4) x60 0 m67 m64 rfl rfl rfl rfl (fun _=>rfl) rfl rfl hm67 tH ca (dy (by kernel_rfl) ?_)))
     exact av () (re rfl) cJ trivial
    skip
    refine bi rfl rfl rfl rfl (kE (cR (sz:=4) (p:=.agg (bQ m64)) (enc:=Zf.enc) (xs:=l3) (a:=a4) x8 0 m64 rfl (.p rfl) rfl e7 (fun _=>hm64) rfl) (bf 7 (by kernel_rfl) (bi rfl rfl rfl rfl (kE (cR (sz:=4) (p:=.agg (bQ m63)) (enc:=Zf.enc) (xs:=l3) (a:=a4) x60 0 m63 rfl (.p rfl) rfl e7 (fun _=>hm63) rfl) ?_))))
    refine bM 12 (by kernel_rfl) rfl rfl rfl rfl (kU (xs:=l3) (by first | exact hl61 | rfl | (simp only [List.length_set];exact hl61) | simp only [List.length_set]) ha62 rfl rfl rfl (.p rfl) (.p rfl) (fun _=>hm65)) ?_
    refine bf 13 (by kernel_rfl) (df rfl rfl rfl (iN (enc:=Zf.enc) (xs:=l3) (a:=a4) x8 0 m65 m63 rfl rfl rfl rfl (fun _=>rfl) rfl rfl hm65 tH ca ?_))
    refine bM 14 (by kernel_rfl) rfl rfl rfl rfl (kU (xs:=(l3.set x8.toNat m63)) (by first | exact hl61 | rfl | (simp only [List.length_set];exact hl61) | simp only [List.length_set]) ha62 rfl rfl rfl (.p rfl) (.p rfl) (fun _=>hm67)) ?_
    refine bf 15 (by kernel_rfl) (df rfl rfl rfl (iN (enc:=Zf.enc) (xs:=(l3.set x8.toNat m63)) (a:=a4) x60 0 m67 m64 rfl rfl rfl rfl (fun _=>rfl) rfl rfl hm67 tH ca (dy (by kernel_rfl) ?_)))
    exact av () (re rfl) cJ trivial
   rintro _ τ _;dsimp only [aw]
   refine ae (ai [136] [(8,pO a4 l3.length c5)] (by kernel_rfl) (cU (cK ?_)))
   obtain rfl:=osi hq17
   obtain rfl:=osi h
   (try simp only [List.length_set])
   exact aL (cZ (aJ rfl)) cJ ⟨_,_,rfl,rfl⟩
  refine ae ?_
  refine bC [138] [(137,pB (x11 == 7))] (by kernel_rfl) rfl hq17 (fun hc69 hq17=>?_) fun hc69 hq17=>?_
  ·refine ae ?_
   refine fu (enc:=Zf.enc) (xs:=l3) 0 rfl (by exact aC aO) ?_
   refine bk (ρd:=[]) [(1,0),(2,0),(3,0),(5,0),(6,0),(7,0),(8,0),(0,1),(4,1),(9,1),(10,0)] _ (List.Perm.refl _) (by kernel_rfl) rfl (aa hq17 fun l70 hl70 hq17=>aa hq17 fun l71 hl71 hq17=>br 7 [] [140,141,144,145,146] [(142,pL Zf.enc l70),(147,pL Zf.enc l71)] (ud 2 Zf.enc 4 (fun _=>rfl) hl70 (ud 6 Zf.enc 4 (fun _=>rfl) hl71 bm)) (by kernel_rfl) (hC rfl rfl rfl (bG rfl rfl rfl rfl rfl jl rfl rfl rfl rfl (fun b72=>aa hq17 fun l74 hl74 hq17=>?_))))
   refine hC rfl rfl rfl (gr (enc:=Zf.enc) rfl rfl rfl rfl rfl (fun _=>rfl) rfl rfl rfl (by exact aO) hl74 (fun a75 c76=>?_))
   refine aa hq17 fun l78 hl78 hq17=>?_
   refine hC rfl rfl rfl (gr (enc:=Zf.enc) rfl rfl rfl rfl rfl (fun _=>rfl) rfl rfl rfl (by exact aO) hl78 (fun a79 c80=>?_))
   refine ij 1 [(8,pO a79 l78.length c80)] (by kernel_rfl) (bv (cU (cK ?_)))
   obtain rfl:=osi hq17
   obtain rfl:=osi h
   exact aL (cZ (aJ rfl)) cJ ⟨_,_,rfl,rfl⟩
  refine ae ?_
  refine aa hq17 fun m82 hm82 hq17=>af (aF 3 [(30,pO a4 l3.length c5),(31,pO a4 l3.length c5),(32,pI x8)] (by kernel_rfl) (cb rfl rfl rfl (eP (enc:=Zf.enc) (xs:=l3) rfl rfl rfl (.p rfl) uz (.p rfl) (fun _=>hm82)) (cb rfl rfl rfl (cR (sz:=4) (p:=.agg (bQ m82)) (enc:=Zf.enc) (xs:=l3) (a:=a4) x8 0 m82 rfl (.p rfl) rfl uz (fun _=>hm82) rfl) (an rfl (bG rfl rfl rfl rfl rfl (gG rfl jl) rfl rfl rfl rfl (fun b83=>aa hq17 fun l85 hl85 hq17=>?_))))))
  refine an rfl (ce (enc:=Zf.enc) rfl rfl rfl rfl rfl rfl rfl rfl rfl e7 (by exact aC (aC aO)) hl85 (fun a86 c87=>?_))
  refine aN [(8,pO a86 l85.length c87)] (by kernel_rfl) (cU (cK ?_))
  obtain rfl:=osi hq17
  obtain rfl:=osi h
  exact aL (cZ (aJ rfl)) cJ ⟨_,_,rfl,rfl⟩
 rintro ⟨_,⟨v13,v14,l15,l16⟩⟩ τ hz;(try dsimp only at hz);subst q17;(try dsimp only at h);dsimp only [aw]
 refine ae (aa h fun m89 hm89 h=>af (gt 3 [0] [(149,pO a4 l3.length c5),(150,pI x8),(151,.agg [pI v13,pI v14,pL eI l15,pL Za.enc l16])] (by kernel_rfl) (cb rfl rfl rfl (eP (enc:=Zf.enc) (xs:=l3) rfl rfl rfl (.p rfl) uz (.p rfl) (fun _=>hm89)) (aP rfl rfl (iN (enc:=Zf.enc) (xs:=l3) (a:=a4) x8 0 m89 (⟨(⟨v13,v14⟩:Za),l15,l16⟩:Zf) rfl rfl rfl rfl (fun _=>rfl) rfl rfl hm89 tH (dx ca) (aG (bY (ai [153] [(8,pO a4 l3.length c5)] (by kernel_rfl) (cU ?_)))))))))
 obtain rfl:=osi h
 (try simp only [List.length_set])
 exact aL (cZ (aJ rfl)) (be (aC aO) bz) ⟨_,_,rfl,rfl⟩
def bR (p0:(List Zc)) (p1:(Zc→Option Bool)):Option Int:=(aU (S:=Int) (T:=(Unit)⊕(_)) (fun v1=>cond (decide (v1<(p0.length:Int))) ((idx p0 v1).bind fun m5=>(p1 m5).bind fun x6=>cond x6 (some (.inr (.inr v1))) (some (.inl (IntKind.i64.wrap (v1+1))))) (some (.inr (.inl ())))) FUEL 0).bind fun q=>match q with | .inl _=>some (-1) | .inr e=>some e
theorem gY {p0:(List Zc)} {p1:(Zc→Option Bool)} {r:Int} {g1:PV} (hg1:∀ {y0:Zc} {w:Bool},p1 y0=some w→PFV g1 [.agg (aK y0)] (pB w)) (h:bR p0 p1=some r):PF 187 [pL Zc.enc p0,g1] (pI r):=by
 unfold bR at h
 refine bd ?_
 refine du Tryz.func187 rfl Tryz.ntmps187 Tryz.results187 rfl (aV [4] (by kernel_rfl) (cq (ai [6] [(7,pI (p0.length:Int)),(8,pI 0)] (by kernel_rfl) (fz h fun q3 hq3 h=>?_))))
 refine aq (Y:=Unit×Unit) (fun (_,_)=>[]) (fun (_,_)=>[]) (fun (_,_)=>q3=Sum.inl ()) ?_ ?_
 ·refine aA ?_
  refine aD (Y:=Unit) (S:=Int) _ hq3 (fun _ v1=>[(0,pL Zc.enc p0),(1,g1),(7,pI (p0.length:Int)),(8,pI v1)]) (fun _ v1=>[]) () (jf rfl) bz ?_
  rintro _ v1 o τ hb2;(try dsimp only at hb2);dsimp only [aw]
  refine ae (al [(9,pB (decide (v1<(p0.length:Int))))] (by kernel_rfl) (bY (kK rfl hb2 (fun hc4 hb2=>?_) fun hc4 hb2=>?_)))
  ·refine ah ?_
   refine dN (ai [10] [(5,pI v1)] (by kernel_rfl) (de hb2 fun m5 hm5 hb2=>aa hb2 fun x6 hx6 hb2=>ap [] (rg 11 5) [(16,pB x6)] (cO 3 Zc.enc hm5 (Do 5 (hg1 hx6) bm)) (by kernel_rfl) (cS rfl hb2 (fun hc7 hb2=>?_) fun hc7 hb2=>?_)))
   ·refine ae ?_
    refine ai [17] [(4,pI v1)] (by kernel_rfl) (cU (dI ?_))
    refine au hb2 (fun ht=>?_);subst ht
    refine cK ?_
    exact zz r h rfl
   refine ah ?_
   refine dX (ai [18] [(8,pI (IntKind.i64.wrap (v1+1)))] (by kernel_rfl) ?_)
   exact aT hb2 () (jf rfl) bz
  refine aH ?_
  refine cx hb2 (fun ht=>aj rfl ?_)
  exact av ((),()) pg bz ht.symm
 rintro ⟨_,_⟩ τ hz;(try dsimp only at hz);subst q3;(try dsimp only at h);dsimp only [aw]
 refine ae (dl [(4,pI (-1))] (by kernel_rfl) ?_)
 exact zz r h rfl
def bH (p0:(List Zc)) (p1:(Zc→Option Bool)):Option Bool:=(bR p0 p1).bind fun x1=>some (decide (0≤x1))
theorem gH {p0:(List Zc)} {p1:(Zc→Option Bool)} {r:Bool} {g1:PV} (hg1:∀ {y0:Zc} {w:Bool},p1 y0=some w→PFV g1 [.agg (aK y0)] (pB w)) (h:bH p0 p1=some r):PF 162 [pL Zc.enc p0,g1] (pB r):=by
 unfold bH at h
 refine bd ?_
 refine du Tryz.func162 rfl Tryz.ntmps162 Tryz.results162 rfl (aV [4] (by kernel_rfl) (de h fun x1 hx1 h=>ap [] [5,6,7,8] [(4,pB (decide (0≤x1)))] (bg 2 (gY hg1 hx1) bm) (by kernel_rfl) (cU ?_)))
 exact zz r h rfl
def cF (p0:Zc) (p1:Zh):Option Bool:=some (p0.ID == p1.Product)
theorem lm {p0:Zc} {p1:Zh} {r:Bool}  (h:cF p0 p1=some r):PF 163 [.agg (aK p0),.ref [pI p1.Product,pI p1.Value] 0] (pB r):=by
 unfold cF at h
 refine bd ?_
 refine du Tryz.func163 rfl Tryz.ntmps163 Tryz.results163 rfl (dc rfl (bh (cs:=(aK p0)) rfl rfl (fun b1=>ba [3] (by kernel_rfl) (bY (aI [0] (rg 4 5) [(3,pB (p0.ID == p1.Product))] (by kernel_rfl) (cU ?_))))))
 exact zz r h rfl
end SX
end Go.Proofs.YtgmbmepakpcpaaaGreatDoor
